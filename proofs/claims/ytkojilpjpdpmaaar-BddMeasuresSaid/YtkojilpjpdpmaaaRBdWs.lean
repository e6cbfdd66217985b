/-
  Parts of the proofs of this seat's statements (BdW5, BdW6, BdW7, BdW8); no conditions beyond those each theorem names.
-/
import Derived.Test.YtkojilpjpdpmaaaRBdW4
import Derived.Test.YtkojilpjpdpmaaaRBdQ
import Derived.Test.YtkojilpjpdpmaaaRBdC
section
set_option maxRecDepth 100000
set_option linter.unusedSimpArgs false
set_option linter.unusedVariables false
namespace Go.Proofs.YtkojilpjpdpmaaaR
open Go Go.W Go.Bd Go.Maps
theorem keyI : KeyEnc Try.prog 3 natV i64ok := {
  keyed := int_keyed Try.underlying3
  lit := fun d hd => ⟨_, keyOf_int_mk Try.underlying3 (wf_nat hd)⟩
  inj := fun x y h => by
    injection h with _ h; omega }
abbrev MemB (b : Nat) (M : Mem1) : Asr := MapA b natV natV i64ok M
def bv (b : Bool) : List Value := [.bool b]
theorem bv_len (b : Bool) : (bv b).length = 1 := rfl
theorem bv_one (b : Bool) : (bv b).all oneC = true := rfl
theorem bv_cell {w : World} {v : Value} {xs : List Bool} (h : Vw w v bv xs) {k : Nat} {x : Bool} (hx : xs[k]? = some x) : w.cell? (v.adr.add k) = some (.bool x) := Vw.cell (f := Value.bool) h hx
def inB (ins : List Bool) (i : Nat) : Bool := ins.getD i false
def QPost (m n lim op : Nat) (ins : List Bool) (iv : Value) (ns : Ns) (f b : Nat) (B : Asr) (w : World) (F : List Nat) (v : Value) (w' : World) : Prop :=
  ∃ r ns' M', v = optV r ∧ QOk n lim op (inB ins) ns f r ns' M' ∧ At w F (Star (MgrA m n lim ns') (Star (MemB b M') (Star (VwA iv bv ins) B))) w'
theorem putM_mem {κ α : Type} [DecidableEq κ] {l : List (κ × α)} {x : κ} {v : α} {q : κ × α} (h : q ∈ putM l x v) : q ∈ l ∨ q = (x, v) := by
  unfold putM at h
  split at h
  · obtain ⟨p, hp, e⟩ := List.mem_map.1 h
    split at e
    · exact .inr e.symm
    · exact .inl (e ▸ hp)
  · rcases List.mem_append.1 h with h | h
    · exact .inl h
    · simp at h; exact .inr h
set_option maxHeartbeats 4000000 in
theorem quantify_aux (m n lim op b : Nat) (hop : op ≤ 1) (ins : List Bool) (iv : Value) (hins : ins.length = n + 1) (w : World) (F : List Nat) : ∀ (d f : Nat) (ns : Ns) (M : Mem1) (B : Asr) (w1 : World), Lcl B → Wf n ns → Bnd n lim ns → Ref ns f → f ≤ d → MemQ op (inB ins) ns M →
    At w F (Star (MgrA m n lim ns) (Star (MemB b M) (Star (VwA iv bv ins) B))) w1 →
    Calls Try.prog 70 [.pointer (some ⟨m, 0, none⟩), .int .i64 (op : Nat), .int .i64 (f : Nat), iv, .map (some b)].toArray w1 fun e w' => ∃ v, e = .returned v ∧ QPost m n lim op ins iv ns f b B w F v w' := by
  intro d
  induction d using Nat.strongRecOn with
  | ind d ih =>
  intro f ns M B w1 hB hw hb hf hd hM hA
  obtain ⟨hbn, hbl, hbs⟩ := hb
  have hb' : Bnd n lim ns := ⟨hbn, hbl, hbs⟩
  have hLV : Lcl (Star (VwA iv bv ins) B) := Lcl.vw.star hB
  have hLX : Lcl (Star (MgrA m n lim ns) (Star (MemB b M) (Star (VwA iv bv ins) B))) := Lcl.mgr.star (Lcl.map.star hLV)
  have hrf : f ≤ 1048578 := by unfold Ref at hf; omega
  refine enter Try.func70 mixed low70 (Nat.le_of_ble_eq_true rfl) ?_
  simp only [L70]
  by_cases h2 : f < 2
  · have h2' : (f : Int) < 2 := by omega
    simp [h2']
    exact ⟨some f, ns, M, rfl, q_const hw hbs hf h2 hM, hA⟩
  have h2' : ¬ (f : Int) < 2 := by omega
  simp [h2']
  refine MapM.look2 (x := f) hA.drop.map keyI Try.underlying100 zint (show i64ok f by unfold i64ok; omega) ?_
  cases hgm : getM M f with
  | some r =>
    simp [natV]
    exact ⟨some r, ns, M, rfl, q_known hw hbs hM (getM_in hgm), hA⟩
  | none =>
  simp
  refine cl_of (at_spec m n lim f ns w1 (MgrA.rd hA) hb' hf) ?_
  rintro v w2 ⟨rfl, k2⟩
  have h3 := (hA.kp0 hLX k2).alloc (.cells #[.int .i64 0, .int .i64 0, .int .i64 0] 90) hLX
  simp [ndV, en_len]
  refine h3.st hLX (by simp [en, ints]) (by simp [en, ints]) fun w4 h4 => ?_
  have e3 : ∀ d : Nd, wrAt #[.int .i64 0, .int .i64 0, .int .i64 0] 0 (en d) = (en d).toArray := fun d => by simp [en, ints]
  rw [e3] at h4
  obtain ⟨t, ht⟩ : ∃ t, t = w2.heap.size := ⟨_, rfl⟩
  rw [← ht] at h4 ⊢
  have h5 := h4.tor4
  have hLT : Lcl (Star (ObjA t (.cells (en (at_ n ns f)).toArray 90 (0, 0))) B) := Lcl.obj.star hB
  have hot := h4.obj
  have hf2 : 2 ≤ f := by omega
  have l1 := hw.lt_low hf2 hf
  have l2 := hw.lt_high hf2 hf
  have tvn := hw.tv_var hf2 hf
  have etv : tv n ns f = (at_ n ns f).v := rfl
  simp [cell_blk hot, en, ints]
  refine cl_of (ih (d - 1) (by omega) (at_ n ns f).low ns M _ w4 hLT hw hb' (hw.ref_low hf) (by omega) hM h5) ?_
  rintro _ w6 ⟨r1, ns1, M1, rfl, hl, h6⟩
  have drp : ∀ {nsx : Ns} {Mx : Mem1} {wx : World}, At w F (Star (MgrA m n lim nsx) (Star (MemB b Mx) (Star (VwA iv bv ins) (Star (ObjA t (.cells (en (at_ n ns f)).toArray 90 (0, 0))) B)))) wx → At w F (Star (MgrA m n lim nsx) (Star (MemB b Mx) (Star (VwA iv bv ins) B))) wx := fun h => h.by (Imp.un (Imp.un (Imp.un Imp.dr)))
  cases r1 with
  | none =>
    simp [optV, noV, errV]
    exact ⟨none, ns1, M1, rfl, q_low hw hf hf2 hl, drp h6⟩
  | some l =>
  have hw1 := hl.ext.wf
  have hb1 : Bnd n lim ns1 := ⟨hbn, hbl, hl.lim⟩
  have hot := h6.drop.drop.drop.obj
  simp [optV, okV, cell_blk hot, en, ints]
  refine cl_of (ih (d - 1) (by omega) (at_ n ns f).high ns1 M1 _ w6 hLT hw1 hb1 (hl.ext.ref (hw.ref_high hf)) (by omega) hl.mem h6) ?_
  rintro _ w7 ⟨r2, ns2, M2, rfl, hh, h7⟩
  cases r2 with
  | none =>
    simp [optV, noV, errV]
    exact ⟨none, ns2, M2, rfl, q_high hw hf hf2 hl hh, drp h7⟩
  | some h =>
  have hm := q_mid hw hf hf2 hl hh
  have hw2 := hm.ext.wf
  have hb2 : Bnd n lim ns2 := ⟨hbn, hbl, hm.lim⟩
  have hl2 := hm.lim
  have hot := h7.drop.drop.drop.obj
  have hvw := h7.drop.drop.vw
  have htl := hm.tl
  have hth := hm.th
  have htv : (at_ n ns f).v < ins.length := by omega
  have hget : ins[(at_ n ns f).v]? = some (inB ins (at_ n ns f).v) := by simp [inB, List.getD, List.getElem?_eq_getElem htv]
  simp (disch := omega) [optV, okV, cell_blk hot, en, ints, hvw.idx, bv_cell hvw hget]
  have hrl := hm.rl
  have hrh := hm.rh
  have hml : M2.length ≤ 1048578 := mem1_small (ns := ns2) (N := 1048578) (by omega) (fun q hq => (hm.mem q hq).1) (MapM.nodup h7.drop.map)
  cases hin : inB ins (at_ n ns f).v with
  | true =>
    have h8 := (h7.newmap (ek := p2V) (ev := natV) (ok := p2_ok) (Lcl.mgr.star (Lcl.map.star (Lcl.vw.star hLT)))).rot
    have hpc := pairs_clo (op := op) hw2 (n - tv n ns f - 1) l h hrl hrh (by omega)
    simp [cell_blk hot]
    refine cl_of (apply_spec m n lim op _ l h (by omega) _ ns2 [] (Lcl.map.star (Lcl.vw.star hLT)) hw2 hb2 hrl hrh (fun q hq => by cases hq) hpc.2 hpc.1 h8) ?_
    rintro _ w9 ⟨r3, ns3, M3, rfl, hap, h9⟩
    have hbin := bin_of_ap hap (MapM.nodup h9.drop.map)
    have h10 := h9.by (Imp.un Imp.dr)
    have hcnt := hbin.cnt _ (fun x y h => h)
    have hpl := pairs_len n op ns2 (n - tv n ns f - 1) l h
    have hp0 := Nat.two_pow_pos (n - tv n ns f - 1)
    have hsem : ∀ x, r3 = some x → Ref ns3 x ∧ ∀ a, eval ns3 a x = true ↔ qS op (inB ins) (fun c => eval ns c f) a := fun x hx => by
      obtain ⟨q1, q2⟩ := hbin.ok x hx
      exact ⟨q1, fun a => by rw [q2, q_sem_in hw hf hf2 hop hm hin]⟩
    cases r3 with
    | none =>
      simp [optV, noV, errV]
      exact ⟨none, ns3, M2, rfl, q_done hw hf hf2 hm hbin.ext hbin.lim (by omega) (fun _ => by have := hcnt.2 rfl; omega) hsem (fun q hq => .inl hq), drp h10⟩
    | some x =>
      simp [optV, okV]
      refine At.put (x := f) (v := x) (Lcl.mgr.star (Lcl.vw.star hLT)) h10.rot keyI Try.underlying100 (show i64ok f by unfold i64ok; omega) (by unfold maxLen; omega) fun w12 h12 => ?_
      simp
      exact ⟨some x, ns3, _, rfl, q_done hw hf hf2 hm hbin.ext hbin.lim (by omega) (fun h => by cases h) hsem (fun q hq => (putM_mem hq).imp id fun e => ⟨x, rfl, e⟩), drp h12.rot⟩
  | false =>
    simp [cell_blk hot, en, ints]
    have hlr : l ≤ 2000000 := by unfold Ref at hrl; omega
    have hhr : h ≤ 2000000 := by unfold Ref at hrh; omega
    refine cl_of (make_spec m n lim ns2 (at_ n ns f).v l h (Lcl.map.star (Lcl.vw.star hLT)) h7 hb2 (by omega) hlr hhr) ?_
    rintro _ w9 ⟨rfl, h9⟩
    have mk := mkF_ok (lim := lim) hw2 (v := (at_ n ns f).v) (by omega) hrl hrh htl hth
    have hp0 := Nat.two_pow_pos (n - tv n ns f - 1)
    have mlen := mk.len
    have hsem : ∀ x, (mkF lim ns2 (at_ n ns f).v l h).1 = some x → Ref (mkF lim ns2 (at_ n ns f).v l h).2 x ∧ ∀ a, eval (mkF lim ns2 (at_ n ns f).v l h).2 a x = true ↔ qS op (inB ins) (fun c => eval ns c f) a := fun x hx => by
      obtain ⟨q1, _, q2⟩ := mk.ok x hx
      refine ⟨q1, fun a => ?_⟩
      rw [q2, mk.ext.eval hw2 a hrh, mk.ext.eval hw2 a hrl]
      exact q_sem_out hw hf hf2 hm hin a
    cases hk : (mkF lim ns2 (at_ n ns f).v l h).1 with
    | none =>
      simp [optV, noV, errV]
      exact ⟨none, _, M2, rfl, q_done hw hf hf2 hm mk.ext (mk.lim hl2) (by omega) (fun _ => by have := (mk.full hk).1; omega) (fun x hx => by cases hx) (fun q hq => .inl hq), drp h9⟩
    | some x =>
      simp [optV, okV]
      refine At.put (x := f) (v := x) (Lcl.mgr.star (Lcl.vw.star hLT)) h9.rot keyI Try.underlying100 (show i64ok f by unfold i64ok; omega) (by unfold maxLen; omega) fun w12 h12 => ?_
      simp
      exact ⟨some x, _, _, rfl, q_done hw hf hf2 hm mk.ext (mk.lim hl2) (by omega) (fun h => by cases h) (fun y hy => hsem y (by rw [hk]; exact hy)) (fun q hq => (putM_mem hq).imp id fun e => ⟨x, rfl, e⟩), drp h12.rot⟩
end Go.Proofs.YtkojilpjpdpmaaaR
end
section
set_option maxRecDepth 100000
set_option linter.unusedSimpArgs false
set_option linter.unusedVariables false
namespace Go.Proofs.YtkojilpjpdpmaaaR
open Go Go.W Go.Bd Go.Maps
def varB (n : Nat) (x : Int) : Bool := decide (0 ≤ x) && decide (x < n)
theorem checkVars_spec (m n lim : Nat) (ns : Ns) (v : Value) (xs : List Int) (w : World) (h : MgrF w m n lim ns) (hv : Vw w v iv xs) (hx : xs.length ≤ 1000000) :
    Calls Try.prog 67 [.pointer (some ⟨m, 0, none⟩), v].toArray w fun e w' => ∃ x, e = .returned x ∧ x = chkV (xs.all (varB n)) ∧ Kp [] w w' := by
  refine enter Try.func67 mixed low67 (Nat.le_of_ble_eq_true rfl) ?_
  simp only [L67]
  simp [hv.len]
  refine range_loop (n := xs.length) (by omega) (fun k ρ w1 => ρ 0 = .pointer (some ⟨m, 0, none⟩) ∧ ρ 7 = v ∧ (∀ j x, j < k → xs[j]? = some x → varB n x = true) ∧ Kp [] w w1) (by simp) (by simp)
    ⟨by simp, by simp, by simp, Kp.refl _ _⟩ (by decide) (fun _ _ _ _ h => by simpa using h) (fun _ _ _ _ h => by simpa using h) ?_ ?_
  · rintro k ρ w1 hk hc hlim ⟨g0, g7, hall, hkp⟩
    have hv1 := hv.kp0 hkp
    obtain ⟨nv, b, ho, hown, _⟩ := h.kp0 hkp
    have ek : xs[k]? = some xs[k] := List.getElem?_eq_getElem hk
    obtain ⟨x, hxe⟩ : ∃ x, x = xs[k] := ⟨_, rfl⟩
    rw [← hxe] at ek
    have bad : varB n x = false → xs.all (varB n) = false := fun h => by
      rw [List.all_eq_false]
      exact ⟨x, List.mem_of_getElem? ek, by simp [h]⟩
    unfold mgrO at ho
    simp (disch := omega) [g0, g7, hc, hv1.idx, iv_cell hv1 ek, cell_blk ho]
    by_cases h1 : x < 0
    · simp [h1]
      refine ⟨?_, hkp⟩
      rw [bad (by simp [varB]; omega)]; rfl
    by_cases h2 : (n : Int) ≤ x
    · simp (disch := omega) [h1, h2, cell_blk ho, g0]
      refine ⟨?_, hkp⟩
      rw [bad (by simp [varB]; omega)]; rfl
    · simp (disch := omega) [h1, h2, cell_blk ho, hc, hlim, g0, g7]
      refine ⟨fun j y hj hy => ?_, hkp⟩
      rcases Nat.lt_or_ge j k with h3 | h3
      · exact hall j y h3 hy
      · have : j = k := by omega
        subst this
        rw [ek] at hy
        rw [← Option.some.inj hy]
        simp [varB]; omega
  · rintro ρ w1 ⟨g0, g7, hall, hkp⟩
    simp
    refine ⟨?_, hkp⟩
    have : xs.all (varB n) = true := by
      rw [List.all_eq_true]
      intro x hx
      obtain ⟨j, hj⟩ := List.getElem?_of_mem hx
      exact hall j x (List.getElem?_eq_some_iff.1 hj).1 hj
    rw [this]; rfl
/-- The marks of the variables of a list. -/
def insOf (n : Nat) (xs : List Int) : List Bool := xs.foldl (fun l v => l.set v.toNat true) (List.replicate (n + 1) false)
theorem insOf_len (n : Nat) (xs : List Int) : (insOf n xs).length = n + 1 := by
  have key : ∀ (xs : List Int) (l : List Bool), (xs.foldl (fun l v => l.set v.toNat true) l).length = l.length := by
    intro xs
    induction xs with
    | nil => intro l; rfl
    | cons x xs ih => intro l; rw [List.foldl_cons, ih]; simp
  rw [insOf, key]; simp
theorem insOf_snoc (n : Nat) (xs : List Int) (x : Int) : insOf n (xs ++ [x]) = (insOf n xs).set x.toNat true := by simp [insOf, List.foldl_append]
theorem insOf_take {n : Nat} {xs : List Int} {k : Nat} {x : Int} (h : xs[k]? = some x) : insOf n (xs.take (k + 1)) = (insOf n (xs.take k)).set x.toNat true := by
  have hk := (List.getElem?_eq_some_iff.1 h).1
  rw [← insOf_snoc]
  congr 1
  rw [List.take_add_one, h]; rfl
theorem quantified_nil (op f : Int) (v : Value) (w : World) : Calls Try.prog 49 [.pointer none, .int .i64 op, .int .i64 f, v].toArray w fun e w' => ∃ x, e = .returned x ∧ x = noV 3 ∧ Kp [] w w' := by
  refine enter Try.func49 mixed low49 (Nat.le_of_ble_eq_true rfl) ?_
  simp only [L49]
  simp [rowOf]
  refine cl_of (check_nil _ _) ?_
  rintro v w2 ⟨rfl, k2⟩
  simp [errV]
  exact ⟨rfl, ((Kp.refl [] w).alloc _).trans0 k2⟩
theorem quantified_bad {w w1 : World} {F : List Nat} {B : Asr} (m n lim : Nat) (ns : Ns) (op : Nat) (f : Int) (v : Value) (xs : List Int) (hB : Lcl B) (hA : At w F (Star (MgrA m n lim ns) (Star (VwA v iv xs) B)) w1) (hb : Bnd n lim ns) (hx : xs.length ≤ 1000000) (h : (refB ns f && xs.all (varB n)) = false) :
    Calls Try.prog 49 [.pointer (some ⟨m, 0, none⟩), .int .i64 (op : Nat), .int .i64 f, v].toArray w1 fun e w' => ∃ x, e = .returned x ∧ x = noV 1 ∧ At w F (Star (MgrA m n lim ns) (Star (VwA v iv xs) B)) w' := by
  refine enter Try.func49 mixed low49 (Nat.le_of_ble_eq_true rfl) ?_
  simp only [L49]
  have hl : Lcl (Star (MgrA m n lim ns) (Star (VwA v iv xs) B)) := Lcl.mgr.star (Lcl.vw.star hB)
  have h1 := lit_ints (xs := [f]) (cs := #[.int .i64 f]) hl hA rfl (by simp) rfl
  simp [rowOf]
  refine cl_of (check_spec m n lim ns _ [f] _ (MgrA.rd h1.drop) hb h1.own.vw (by simp)) ?_
  rintro u w2 ⟨rfl, k2⟩
  have h2 := (h1.drop).kp0 hl k2
  cases hr : refB ns f with
  | false =>
    simp [chkV, errV, hr]
    exact ⟨rfl, h2⟩
  | true =>
    have hf : xs.all (varB n) = false := by simpa [hr] using h
    simp [chkV, hr]
    refine cl_of (checkVars_spec m n lim ns v xs _ (MgrA.rd h2) h2.drop.vw hx) ?_
    rintro u w3 ⟨rfl, k3⟩
    rw [hf]
    simp [chkV, errV]
    exact ⟨rfl, h2.kp0 hl k3⟩
def QuPost (m n lim op : Nat) (xs : List Int) (vv : Value) (ns : Ns) (f : Nat) (B : Asr) (w : World) (F : List Nat) (v : Value) (w' : World) : Prop :=
  ∃ r ns' M', v = optV r ∧ QOk n lim op (inB (insOf n xs)) ns f r ns' M' ∧ At w F (Star (MgrA m n lim ns') (Star (VwA vv iv xs) B)) w'
theorem quantified_spec {w w1 : World} {F : List Nat} {B : Asr} (m n lim : Nat) (ns : Ns) (op f : Nat) (v : Value) (xs : List Int) (hop : op ≤ 1) (hB : Lcl B) (hA : At w F (Star (MgrA m n lim ns) (Star (VwA v iv xs) B)) w1) (hw : Wf n ns) (hb : Bnd n lim ns) (hf : Ref ns f) (hx : xs.length ≤ 1000000) (hv : xs.all (varB n) = true) :
    Calls Try.prog 49 [.pointer (some ⟨m, 0, none⟩), .int .i64 (op : Nat), .int .i64 (f : Nat), v].toArray w1 fun e w' => ∃ x, e = .returned x ∧ QuPost m n lim op xs v ns f B w F x w' := by
  have hbn := hb.hn
  refine enter Try.func49 mixed low49 (Nat.le_of_ble_eq_true rfl) ?_
  simp only [L49]
  have hl : Lcl (Star (MgrA m n lim ns) (Star (VwA v iv xs) B)) := Lcl.mgr.star (Lcl.vw.star hB)
  have h1 := lit_ints (xs := [(f : Int)]) (cs := #[.int .i64 f]) hl hA rfl (by simp) rfl
  simp [rowOf]
  refine cl_of (check_spec m n lim ns _ [(f : Int)] _ (MgrA.rd h1.drop) hb h1.own.vw (by simp)) ?_
  rintro u w2 ⟨rfl, k2⟩
  have h2 := (h1.drop).kp0 hl k2
  have hr : [(f : Int)].all (refB ns) = true := by
    unfold Ref at hf
    simp [refB]; omega
  rw [hr]
  simp [chkV]
  refine cl_of (checkVars_spec m n lim ns v xs _ (MgrA.rd h2) h2.drop.vw hx) ?_
  rintro u w3 ⟨rfl, k3⟩
  have h3 := h2.kp0 hl k3
  rw [hv]
  obtain ⟨nv, b, ho, hown, _⟩ := MgrA.rd h3
  unfold mgrO at ho
  have hn1 : ((n : Int) + 1).toNat = n + 1 := by omega
  have h4 := h3.made (E := 4) (enc := bv) (x := false) (z := [.bool false]) (n := n + 1) hl rfl bv_len (by unfold maxLen; omega)
  simp (disch := omega) [chkV, cell_blk ho, wrap_i64, hn1]
  refine gd_mk (by omega) ?_
  simp [h3.drop.vw.len]
  obtain ⟨sv, hsv⟩ : ∃ sv, sv = Value.slice (some ⟨w3.heap.size, 0, none⟩) (n + 1) (n + 1) := ⟨_, rfl⟩
  rw [← hsv] at h4 ⊢
  have hall : ∀ (j : Nat) (x : Int), xs[j]? = some x → 0 ≤ x ∧ x < n := fun j x hj => by
    have := List.all_eq_true.1 hv x (List.mem_of_getElem? hj)
    simpa [varB] using this
  refine range_loop (n := xs.length) (by omega) (fun k ρ w5 => ρ 0 = .pointer (some ⟨m, 0, none⟩) ∧ ρ 1 = .int .i64 (op : Nat) ∧ ρ 2 = .int .i64 (f : Nat) ∧ ρ 12 = sv ∧ ρ 34 = v ∧
      At w F (Star (OwnA sv 4 1 bv (insOf n (xs.take k))) (Star (MgrA m n lim ns) (Star (VwA v iv xs) B))) w5) (by simp) (by simp)
    ⟨by simp, by simp, by simp, by simp, by simp, h4⟩ (by decide) (fun _ _ _ _ h => by simpa using h) (fun _ _ _ _ h => by simpa using h) ?_ ?_
  · rintro k ρ w5 hk hc hlim ⟨g0, g1, g2, g12, g34, h5⟩
    have ek : xs[k]? = some xs[k] := List.getElem?_eq_getElem hk
    obtain ⟨x, hxe⟩ : ∃ x, x = xs[k] := ⟨_, rfl⟩
    rw [← hxe] at ek
    obtain ⟨x0, x1⟩ := hall k x ek
    have hvw := h5.drop.drop.vw
    have hlen := insOf_len n (xs.take k)
    have hxl : x < (insOf n (xs.take k)).length := by rw [hlen]; omega
    simp (disch := omega) [g0, g1, g2, g12, g34, hc, hvw.idx, iv_cell hvw ek, h5.own.idx x0 hxl]
    refine At.store1 (k := x.toNat) (x := true) hl h5 bv_len bv_one (by omega) rfl fun w6 h6 => ?_
    rw [← insOf_take ek] at h6
    simp [g0, g1, g2, g12, g34, hc, hlim]
    exact h6
  · rintro ρ w5 ⟨g0, g1, g2, g12, g34, h5⟩
    rw [List.take_length] at h5
    simp [g0, g1, g2, g12]
    have h6 := (h5.own_vw.newmap (ek := natV) (ev := natV) (ok := i64ok) (Lcl.vw.star hl))
    have h7 := h6.by (Imp.trans (Imp.un Imp.sw) Imp.sw)
    have h8 : At w F (Star (MgrA m n lim ns) (Star (MemB w5.heap.size []) (Star (VwA sv bv (insOf n xs)) (Star (VwA v iv xs) B)))) (w5.alloc (.map #[] 0)) := h7
    refine cl_of (quantify_aux m n lim op _ hop (insOf n xs) sv (insOf_len n xs) w F f f ns [] _ _ (Lcl.vw.star hB) hw hb hf (Nat.le_refl _) (fun q hq => by cases hq) h8) ?_
    rintro _ w9 ⟨r, ns', M', rfl, hq, h9⟩
    cases r with
    | none => simp [optV, noV, errV]; exact ⟨none, ns', M', rfl, hq, h9.by (Imp.un (Imp.dr.trans Imp.dr))⟩
    | some y => simp [optV, okV]; exact ⟨some y, ns', M', rfl, hq, h9.by (Imp.un (Imp.dr.trans Imp.dr))⟩
theorem insOf_get {n : Nat} {xs : List Int} (hv : ∀ x ∈ xs, 0 ≤ x ∧ x < n) (i : Nat) : inB (insOf n xs) i = decide ((i : Int) ∈ xs) := by
  have key : ∀ k, k ≤ xs.length → inB (insOf n (xs.take k)) i = decide ((i : Int) ∈ xs.take k) := by
    intro k
    induction k with
    | zero => intro _; simp [insOf, inB, List.getElem?_replicate]; split <;> rfl
    | succ k ih =>
      intro hk
      have ek : xs[k]? = some xs[k] := List.getElem?_eq_getElem (by omega)
      have hx := hv xs[k] (List.getElem_mem _)
      have hlen := insOf_len n (xs.take k)
      have ht : xs.take (k + 1) = xs.take k ++ [xs[k]] := by rw [List.take_add_one, ek]; rfl
      have ih' := ih (by omega)
      rw [insOf_take ek, ht]
      simp only [inB, List.getD_eq_getElem?_getD, List.getElem?_set, List.mem_append, List.mem_singleton] at ih' ⊢
      by_cases he : xs[k].toNat = i
      · have : (i : Int) = xs[k] := by omega
        rw [if_pos he, if_pos (by omega)]
        simp [this]
      · have : ¬ (i : Int) = xs[k] := by omega
        rw [if_neg he, ih']
        simp [this]
  have := key xs.length (Nat.le_refl _)
  rwa [List.take_length] at this
end Go.Proofs.YtkojilpjpdpmaaaR
end
section
set_option maxRecDepth 100000
set_option linter.unusedSimpArgs false
set_option linter.unusedVariables false
namespace Go.Proofs.YtkojilpjpdpmaaaR
open Go Go.W Go.Bd Go.Maps
/-! ### The operations by name -/
section
variable {p : Value} {w : World} {R : Value → World → Prop}
theorem not_of {f : Int} (h : Calls Try.prog 48 [p, .int .i64 2, .int .i64 f, .int .i64 1].toArray w fun e w' => ∃ v, e = .returned v ∧ R v w') (hR : ∀ v w', R v w' → ∃ a b, v = .tuple #[a, b]) :
    Calls Try.prog 13 [p, .int .i64 f].toArray w fun e w' => ∃ v, e = .returned v ∧ R v w' := by
  refine enter Try.func13 mixed low13 (Nat.le_of_ble_eq_true rfl) ?_
  simp only [L13]
  simp
  refine cl_of h ?_
  intro v w2 h2
  obtain ⟨a, b, rfl⟩ := hR v w2 h2
  simp
  exact h2
theorem and_of {f g : Int} (h : Calls Try.prog 48 [p, .int .i64 0, .int .i64 f, .int .i64 g].toArray w fun e w' => ∃ v, e = .returned v ∧ R v w') (hR : ∀ v w', R v w' → ∃ a b, v = .tuple #[a, b]) :
    Calls Try.prog 23 [p, .int .i64 f, .int .i64 g].toArray w fun e w' => ∃ v, e = .returned v ∧ R v w' := by
  refine enter Try.func23 mixed low23 (Nat.le_of_ble_eq_true rfl) ?_
  simp only [L23]
  simp
  refine cl_of h ?_
  intro v w2 h2
  obtain ⟨a, b, rfl⟩ := hR v w2 h2
  simp
  exact h2
theorem or_of {f g : Int} (h : Calls Try.prog 48 [p, .int .i64 1, .int .i64 f, .int .i64 g].toArray w fun e w' => ∃ v, e = .returned v ∧ R v w') (hR : ∀ v w', R v w' → ∃ a b, v = .tuple #[a, b]) :
    Calls Try.prog 14 [p, .int .i64 f, .int .i64 g].toArray w fun e w' => ∃ v, e = .returned v ∧ R v w' := by
  refine enter Try.func14 mixed low14 (Nat.le_of_ble_eq_true rfl) ?_
  simp only [L14]
  simp
  refine cl_of h ?_
  intro v w2 h2
  obtain ⟨a, b, rfl⟩ := hR v w2 h2
  simp
  exact h2
theorem xor_of {f g : Int} (h : Calls Try.prog 48 [p, .int .i64 2, .int .i64 f, .int .i64 g].toArray w fun e w' => ∃ v, e = .returned v ∧ R v w') (hR : ∀ v w', R v w' → ∃ a b, v = .tuple #[a, b]) :
    Calls Try.prog 15 [p, .int .i64 f, .int .i64 g].toArray w fun e w' => ∃ v, e = .returned v ∧ R v w' := by
  refine enter Try.func15 mixed low15 (Nat.le_of_ble_eq_true rfl) ?_
  simp only [L15]
  simp
  refine cl_of h ?_
  intro v w2 h2
  obtain ⟨a, b, rfl⟩ := hR v w2 h2
  simp
  exact h2
theorem exists_of {f : Int} {u : Value} (h : Calls Try.prog 49 [p, .int .i64 1, .int .i64 f, u].toArray w fun e w' => ∃ v, e = .returned v ∧ R v w') (hR : ∀ v w', R v w' → ∃ a b, v = .tuple #[a, b]) :
    Calls Try.prog 16 [p, .int .i64 f, u].toArray w fun e w' => ∃ v, e = .returned v ∧ R v w' := by
  refine enter Try.func16 mixed low16 (Nat.le_of_ble_eq_true rfl) ?_
  simp only [L16]
  simp
  refine cl_of h ?_
  intro v w2 h2
  obtain ⟨a, b, rfl⟩ := hR v w2 h2
  simp
  exact h2
theorem forall_of {f : Int} {u : Value} (h : Calls Try.prog 49 [p, .int .i64 0, .int .i64 f, u].toArray w fun e w' => ∃ v, e = .returned v ∧ R v w') (hR : ∀ v w', R v w' → ∃ a b, v = .tuple #[a, b]) :
    Calls Try.prog 43 [p, .int .i64 f, u].toArray w fun e w' => ∃ v, e = .returned v ∧ R v w' := by
  refine enter Try.func43 mixed low43 (Nat.le_of_ble_eq_true rfl) ?_
  simp only [L43]
  simp
  refine cl_of h ?_
  intro v w2 h2
  obtain ⟨a, b, rfl⟩ := hR v w2 h2
  simp
  exact h2
theorem optV_tup (r : Option Nat) : ∃ a b, optV r = .tuple #[a, b] := by cases r <;> exact ⟨_, _, rfl⟩
theorem noV_tup (c : Int) : ∃ a b, noV c = .tuple #[a, b] := ⟨_, _, rfl⟩
end
theorem times_spec (n p : Nat) (w : World) (hn : n ≤ many) (hp : p ≤ 100000) : Calls Try.prog 55 [.int .i64 (n : Nat), .int .i64 (p : Nat)].toArray w fun e w' => ∃ v, e = .returned v ∧ v = .int .i64 ((min (n * 2 ^ p) many : Nat) : Int) ∧ Kp [] w w' := by
  refine enter Try.func55 mixed low55 (Nat.le_of_ble_eq_true rfl) ?_
  simp only [L55]
  simp
  have hm : many = 1099511627777 := rfl
  refine loop_inv (fun q ρ w1 => ∃ x : Nat, ρ 0 = .int .i64 (x : Nat) ∧ ρ 1 = .int .i64 (q : Nat) ∧ x ≤ many ∧ q ≤ p ∧ min (x * 2 ^ q) many = min (n * 2 ^ p) many ∧ w1 = w) p
    ⟨n, by simp, by simp, hn, Nat.le_refl _, rfl, rfl⟩ ?_
  rintro q ρ w1 ⟨x, g0, g1, hx, hq, he, rfl⟩
  by_cases h1 : q = 0
  · subst h1
    simp [g0, g1]
    refine ⟨?_, Kp.refl _ _⟩
    rw [← he]; simp; omega
  have h1' : (0 : Int) < q := by omega
  have h1'' : 0 < q := by omega
  by_cases h2 : x = 0
  · subst h2
    simp [g0, g1, h1', h1'']
    refine ⟨?_, Kp.refl _ _⟩
    rw [← he]; simp
  have h2' : (0 : Int) < x := by omega
  have h2'' : 0 < x := by omega
  have hpq : 2 ≤ 2 ^ q := by
    obtain ⟨e, rfl⟩ : ∃ e, q = e + 1 := ⟨q - 1, by omega⟩
    have := Nat.two_pow_pos e
    rw [Nat.pow_succ]; omega
  by_cases h3 : x < many
  · have h3' : (x : Int) < 1099511627777 := by omega
    have h3'' : x < 1099511627777 := by omega
    have e1 : min (2 * (x : Int)) 1099511627777 = ((min (2 * x) many : Nat) : Int) := by omega
    have e2 : (q : Int) - 1 = ((q - 1 : Nat) : Int) := by omega
    simp (disch := omega) [g0, g1, h1', h1'', h2', h2'', h3', h3'', wrap_i64]
    refine ⟨q - 1, by omega, min (2 * x) many, by omega, by omega, by omega, by omega, ?_⟩
    rw [many_mul, ← he]
    have : 2 * x * 2 ^ (q - 1) = x * 2 ^ q := by
      obtain ⟨e, rfl⟩ : ∃ e, q = e + 1 := ⟨q - 1, by omega⟩
      rw [Nat.add_sub_cancel, Nat.pow_succ, Nat.mul_comm 2 x, Nat.mul_assoc, Nat.mul_comm 2]
    rw [this]
  · have h3' : ¬ (x : Int) < 1099511627777 := by omega
    have h3'' : ¬ x < 1099511627777 := by omega
    have h4 : x = many := by omega
    simp [g0, g1, h1', h1'', h2', h2'', h3', h3'']
    refine ⟨?_, Kp.refl _ _⟩
    rw [← he, h4]
    have : many ≤ many * 2 ^ q := Nat.le_mul_of_pos_right _ (by omega)
    omega
end Go.Proofs.YtkojilpjpdpmaaaR
end
section
set_option maxRecDepth 100000
set_option linter.unusedSimpArgs false
set_option linter.unusedVariables false
namespace Go.Proofs.YtkojilpjpdpmaaaR
open Go Go.W Go.Bd Go.Maps
def MemC (n : Nat) (ns : Ns) (M : Mem1) : Prop := ∀ q ∈ M, Ref ns q.1 ∧ q.2 = min (cnt n ns q.1) many
def CPost (m n lim : Nat) (ns : Ns) (f b : Nat) (B : Asr) (w : World) (F : List Nat) (v : Value) (w' : World) : Prop :=
  v = natV (min (cnt n ns f) many) ∧ ∃ M', MemC n ns M' ∧ At w F (Star (MgrA m n lim ns) (Star (MemB b M') B)) w'
set_option maxHeartbeats 4000000 in
theorem count_aux (m n lim b : Nat) (ns : Ns) (hw : Wf n ns) (hb : Bnd n lim ns) (w : World) (F : List Nat) : ∀ (d f : Nat) (M : Mem1) (B : Asr) (w1 : World), Lcl B → Ref ns f → f ≤ d → MemC n ns M →
    At w F (Star (MgrA m n lim ns) (Star (MemB b M) B)) w1 →
    Calls Try.prog 56 [.pointer (some ⟨m, 0, none⟩), .int .i64 (f : Nat), .map (some b)].toArray w1 fun e w' => ∃ v, e = .returned v ∧ CPost m n lim ns f b B w F v w' := by
  intro d
  induction d using Nat.strongRecOn with
  | ind d ih =>
  intro f M B w1 hB hf hd hM hA
  obtain ⟨hbn, hbl, hbs⟩ := hb
  have hb' : Bnd n lim ns := ⟨hbn, hbl, hbs⟩
  have hLX : ∀ M, Lcl (Star (MgrA m n lim ns) (Star (MemB b M) B)) := fun M => Lcl.mgr.star (Lcl.map.star hB)
  have hrf : f ≤ 1048578 := by unfold Ref at hf; omega
  have hmany : many = 1099511627777 := rfl
  refine enter Try.func56 mixed low56 (Nat.le_of_ble_eq_true rfl) ?_
  simp only [L56]
  by_cases h2 : f < 2
  · have h2' : (f : Int) < 2 := by omega
    simp [h2']
    refine ⟨?_, M, hM, hA⟩
    rw [cnt_lt h2]
    unfold natV
    congr 1
    omega
  have h2' : ¬ (f : Int) < 2 := by omega
  simp [h2']
  refine MapM.look2 (x := f) hA.drop.map keyI Try.underlying100 zint (show i64ok f by unfold i64ok; omega) ?_
  cases hgm : getM M f with
  | some r =>
    simp [natV]
    have := (hM _ (getM_in hgm)).2
    simp only at this
    refine ⟨?_, M, hM, hA⟩
    unfold natV
    rw [this]
  | none =>
  simp
  refine cl_of (at_spec m n lim f ns w1 (MgrA.rd hA) hb' hf) ?_
  rintro v w2 ⟨rfl, k2⟩
  have h3 := (hA.kp0 (hLX M) k2).alloc (.cells #[.int .i64 0, .int .i64 0, .int .i64 0] 90) (hLX M)
  simp [ndV, en_len]
  refine h3.st (hLX M) (by simp [en, ints]) (by simp [en, ints]) fun w4 h4 => ?_
  have e3 : ∀ d : Nd, wrAt #[.int .i64 0, .int .i64 0, .int .i64 0] 0 (en d) = (en d).toArray := fun d => by simp [en, ints]
  rw [e3] at h4
  obtain ⟨t, ht⟩ : ∃ t, t = w2.heap.size := ⟨_, rfl⟩
  rw [← ht] at h4 ⊢
  have h5 := h4.tor3
  have hLT : Lcl (Star (ObjA t (.cells (en (at_ n ns f)).toArray 90 (0, 0))) B) := Lcl.obj.star hB
  have hLY : ∀ M, Lcl (Star (MgrA m n lim ns) (Star (MemB b M) (Star (ObjA t (.cells (en (at_ n ns f)).toArray 90 (0, 0))) B))) := fun M => Lcl.mgr.star (Lcl.map.star hLT)
  have hf2 : 2 ≤ f := by omega
  have l1 := hw.lt_low hf2 hf
  have l2 := hw.lt_high hf2 hf
  have tvn := hw.tv_var hf2 hf
  have rl := hw.ref_low hf
  have rh := hw.ref_high hf
  have tl := hw.tv_low hf2 hf
  have th := hw.tv_high hf2 hf
  have bl := hw.tv_le rl
  have bh := hw.tv_le rh
  have etv : tv n ns f = (at_ n ns f).v := rfl
  obtain ⟨nd, hnd⟩ : ∃ nd, nd = at_ n ns f := ⟨_, rfl⟩
  rw [← hnd] at h5 hLT hLY l1 l2 rl rh tl th bl bh etv
  refine any_text (fun _ w' => ∃ M', MemC n ns M' ∧ At w F (Star (MgrA m n lim ns) (Star (MemB b M') (Star (ObjA t (.cells (en nd).toArray 90 (0, 0))) B))) w') (by kernel_rfl) ⟨M, hM, h5.drew (hLY M)⟩ ?_
  have cell : ∀ {M' : Mem1} {w' : World}, At w F (Star (MgrA m n lim ns) (Star (MemB b M') (Star (ObjA t (.cells (en nd).toArray 90 (0, 0))) B))) w' → w'.heap[t]? = some (.cells (en nd).toArray 90 (0, 0)) := fun h => h.drop.drop.obj
  have callC : ∀ x, x < f → Ref ns x → ∀ w', (∃ M', MemC n ns M' ∧ At w F (Star (MgrA m n lim ns) (Star (MemB b M') (Star (ObjA t (.cells (en nd).toArray 90 (0, 0))) B))) w') →
      Calls Try.prog 56 [.pointer (some ⟨m, 0, none⟩), .int .i64 (x : Nat), .map (some b)].toArray w' fun e w'' => ∃ v, e = .returned v ∧ (v = natV (min (cnt n ns x) many) ∧ ∃ M', MemC n ns M' ∧ At w F (Star (MgrA m n lim ns) (Star (MemB b M') (Star (ObjA t (.cells (en nd).toArray 90 (0, 0))) B))) w'') := by
    rintro x hx hr w' ⟨M', hM', h'⟩
    exact ih (d - 1) (by omega) x M' _ w' hLT hr (by omega) hM' h'
  have callA : ∀ x, Ref ns x → ∀ w', (∃ M', MemC n ns M' ∧ At w F (Star (MgrA m n lim ns) (Star (MemB b M') (Star (ObjA t (.cells (en nd).toArray 90 (0, 0))) B))) w') →
      Calls Try.prog 51 [.pointer (some ⟨m, 0, none⟩), .int .i64 (x : Nat)].toArray w' fun e w'' => ∃ v, e = .returned v ∧ (v = ndV (at_ n ns x) ∧ ∃ M', MemC n ns M' ∧ At w F (Star (MgrA m n lim ns) (Star (MemB b M') (Star (ObjA t (.cells (en nd).toArray 90 (0, 0))) B))) w'') := by
    rintro x hr w' ⟨M', hM', h'⟩
    refine (at_spec m n lim x ns w' (MgrA.rd h') hb' hr).mono ?_
    rintro e w'' ⟨v, rfl, rfl, k⟩
    exact ⟨_, rfl, rfl, M', hM', h'.kp0 (hLY M') k⟩
  have callT : ∀ x p, x ≤ many → p ≤ 100000 → ∀ w', (∃ M', MemC n ns M' ∧ At w F (Star (MgrA m n lim ns) (Star (MemB b M') (Star (ObjA t (.cells (en nd).toArray 90 (0, 0))) B))) w') →
      Calls Try.prog 55 [.int .i64 (x : Nat), .int .i64 (p : Nat)].toArray w' fun e w'' => ∃ v, e = .returned v ∧ (v = natV (min (x * 2 ^ p) many) ∧ ∃ M', MemC n ns M' ∧ At w F (Star (MgrA m n lim ns) (Star (MemB b M') (Star (ObjA t (.cells (en nd).toArray 90 (0, 0))) B))) w'') := by
    rintro x p hx hp w' ⟨M', hM', h'⟩
    refine (times_spec x p w' hx hp).mono ?_
    rintro e w'' ⟨v, rfl, rfl, k⟩
    exact ⟨_, rfl, rfl, M', hM', h'.kp0 (hLY M') k⟩
  have etl : tv n ns nd.low = (at_ n ns nd.low).v := rfl
  have eth : tv n ns nd.high = (at_ n ns nd.high).v := rfl
  simp
  refine rdA_mk (.int .i64 (nd.low : Nat)) (fun k' w' hS => ?_) ?_
  · obtain ⟨M', hM', h'⟩ := hS
    simp [cell_blk (cell h'), en, ints]
  simp
  refine efA_mk (natV (min (cnt n ns nd.low) many)) (fun w' hS => ?_) ?_
  · simp
    refine cl_of (callC nd.low (by omega) rl w' hS) ?_
    rintro v w'' ⟨rfl, h⟩
    exact ⟨rfl, h⟩
  simp
  refine rdA_mk (.int .i64 (nd.low : Nat)) (fun k' w' hS => ?_) ?_
  · obtain ⟨M', hM', h'⟩ := hS
    simp [cell_blk (cell h'), en, ints]
  simp
  refine efA_mk (ndV (at_ n ns nd.low)) (fun w' hS => ?_) ?_
  · simp
    refine cl_of (callA nd.low rl w' hS) ?_
    rintro v w'' ⟨rfl, h⟩
    exact ⟨rfl, h⟩
  simp [ndV, en, ints]
  refine rdA_mk (.int .i64 (nd.v : Nat)) (fun k' w' hS => ?_) ?_
  · obtain ⟨M', hM', h'⟩ := hS
    simp [cell_blk (cell h'), en, ints]
  simp (disch := omega) [wrap_i64]
  refine efA_mk (natV (min (min (cnt n ns nd.low) many * 2 ^ (tv n ns nd.low - nd.v - 1)) many)) (fun w' hS => ?_) ?_
  · simp [natV]
    have e1 : (((at_ n ns nd.low).v : Int) - nd.v - 1) = ((tv n ns nd.low - nd.v - 1 : Nat) : Int) := by
      have : tv n ns nd.low = (at_ n ns nd.low).v := rfl
      omega
    rw [e1]
    refine cl_of (callT (min (cnt n ns nd.low) many) (tv n ns nd.low - nd.v - 1) (by omega) (by omega) w' hS) ?_
    rintro v w'' ⟨rfl, h⟩
    exact ⟨rfl, h⟩
  simp
  refine rdA_mk (.int .i64 (nd.high : Nat)) (fun k' w' hS => ?_) ?_
  · obtain ⟨M', hM', h'⟩ := hS
    simp [cell_blk (cell h'), en, ints]
  simp
  refine efA_mk (natV (min (cnt n ns nd.high) many)) (fun w' hS => ?_) ?_
  · simp
    refine cl_of (callC nd.high (by omega) rh w' hS) ?_
    rintro v w'' ⟨rfl, h⟩
    exact ⟨rfl, h⟩
  simp
  refine rdA_mk (.int .i64 (nd.high : Nat)) (fun k' w' hS => ?_) ?_
  · obtain ⟨M', hM', h'⟩ := hS
    simp [cell_blk (cell h'), en, ints]
  simp
  refine efA_mk (ndV (at_ n ns nd.high)) (fun w' hS => ?_) ?_
  · simp
    refine cl_of (callA nd.high rh w' hS) ?_
    rintro v w'' ⟨rfl, h⟩
    exact ⟨rfl, h⟩
  simp [ndV, en, ints]
  refine rdA_mk (.int .i64 (nd.v : Nat)) (fun k' w' hS => ?_) ?_
  · obtain ⟨M', hM', h'⟩ := hS
    simp [cell_blk (cell h'), en, ints]
  simp (disch := omega) [wrap_i64]
  refine efA_mk (natV (min (min (cnt n ns nd.high) many * 2 ^ (tv n ns nd.high - nd.v - 1)) many)) (fun w' hS => ?_) ?_
  · simp [natV]
    have e1 : (((at_ n ns nd.high).v : Int) - nd.v - 1) = ((tv n ns nd.high - nd.v - 1 : Nat) : Int) := by
      have : tv n ns nd.high = (at_ n ns nd.high).v := rfl
      omega
    rw [e1]
    refine cl_of (callT (min (cnt n ns nd.high) many) (tv n ns nd.high - nd.v - 1) (by omega) (by omega) w' hS) ?_
    rintro v w'' ⟨rfl, h⟩
    exact ⟨rfl, h⟩
  have hcn := cnt_node hw hf2 hf
  rw [← hnd, etv] at hcn
  simp (disch := omega) [natV, wrap_i64]
  intro w' M' hM' h'
  have ev : (min (((min (min (cnt n ns nd.low) many * 2 ^ (tv n ns nd.low - nd.v - 1)) many : Nat) : Int) + ((min (min (cnt n ns nd.high) many * 2 ^ (tv n ns nd.high - nd.v - 1)) many : Nat) : Int)) 1099511627777 : Int) = ((min (cnt n ns f) many : Nat) : Int) := by
    rw [many_mul, many_mul, hcn, ← many_add]; omega
  rw [ev]
  have hml : M'.length ≤ 1048578 := mem1_small (ns := ns) (N := 1048578) (by omega) (fun q hq => (hM' q hq).1) (MapM.nodup h'.drop.map)
  refine At.put (x := f) (v := min (cnt n ns f) many) (Lcl.mgr.star hLT) h'.rot keyI Try.underlying100 (show i64ok f by unfold i64ok; omega) (by unfold maxLen; omega) fun w12 h12 => ?_
  simp
  refine ⟨rfl, _, ?_, (h12.rot).by (Imp.un (Imp.un Imp.dr))⟩
  intro q hq
  rcases putM_mem hq with h1 | rfl
  · exact hM' q h1
  · exact ⟨hf, rfl⟩
theorem Count_nil (f : Int) (w : World) : Calls Try.prog 25 [.pointer none, .int .i64 f].toArray w fun e w' => ∃ x, e = .returned x ∧ x = noV 3 ∧ Kp [] w w' := by
  refine enter Try.func25 mixed low25 (Nat.le_of_ble_eq_true rfl) ?_
  simp only [L25]
  simp [rowOf]
  refine cl_of (check_nil _ _) ?_
  rintro v w2 ⟨rfl, k2⟩
  simp [errV]
  exact ⟨rfl, ((Kp.refl [] w).alloc _).trans0 k2⟩
theorem Count_bad {w w1 : World} {F : List Nat} {B : Asr} (m n lim : Nat) (ns : Ns) (f : Int) (hB : Lcl B) (hA : At w F (Star (MgrA m n lim ns) B) w1) (hb : Bnd n lim ns) (h : refB ns f = false) :
    Calls Try.prog 25 [.pointer (some ⟨m, 0, none⟩), .int .i64 f].toArray w1 fun e w' => ∃ x, e = .returned x ∧ x = noV 1 ∧ At w F (Star (MgrA m n lim ns) B) w' := by
  refine enter Try.func25 mixed low25 (Nat.le_of_ble_eq_true rfl) ?_
  simp only [L25]
  have hl : Lcl (Star (MgrA m n lim ns) B) := Lcl.mgr.star hB
  have h1 := lit_ints (xs := [f]) (cs := #[.int .i64 f]) hl hA rfl (by simp) rfl
  simp [rowOf]
  refine cl_of (check_spec m n lim ns _ [f] _ (MgrA.rd h1.drop) hb h1.own.vw (by simp)) ?_
  rintro u w2 ⟨rfl, k2⟩
  simp [chkV, errV, h]
  exact ⟨rfl, (h1.drop).kp0 hl k2⟩
/-- What Count answers. -/
def cntV (x : Nat) : Value := if x < many then okV x else noV 5
theorem Count_spec {w w1 : World} {F : List Nat} {B : Asr} (m n lim : Nat) (ns : Ns) (f : Nat) (hB : Lcl B) (hA : At w F (Star (MgrA m n lim ns) B) w1) (hw : Wf n ns) (hb : Bnd n lim ns) (hf : Ref ns f) :
    Calls Try.prog 25 [.pointer (some ⟨m, 0, none⟩), .int .i64 (f : Nat)].toArray w1 fun e w' => ∃ x, e = .returned x ∧ x = cntV (num n 0 fun a => eval ns a f) ∧ At w F (Star (MgrA m n lim ns) B) w' := by
  have hbn := hb.hn
  have hmany : many = 1099511627777 := rfl
  refine enter Try.func25 mixed low25 (Nat.le_of_ble_eq_true rfl) ?_
  simp only [L25]
  have hl : Lcl (Star (MgrA m n lim ns) B) := Lcl.mgr.star hB
  have h1 := lit_ints (xs := [(f : Int)]) (cs := #[.int .i64 f]) hl hA rfl (by simp) rfl
  simp [rowOf]
  refine cl_of (check_spec m n lim ns _ [(f : Int)] _ (MgrA.rd h1.drop) hb h1.own.vw (by simp)) ?_
  rintro u w2 ⟨rfl, k2⟩
  have h2 := (h1.drop).kp0 hl k2
  have hr : [(f : Int)].all (refB ns) = true := by
    unfold Ref at hf
    simp [refB]; omega
  rw [hr]
  have h3 := (h2.newmap (ek := natV) (ev := natV) (ok := i64ok) hl).rot
  simp [chkV]
  refine cl_of (count_aux m n lim _ ns hw hb w F f f [] B _ hB hf (Nat.le_refl _) (fun q hq => by cases hq) h3) ?_
  rintro _ w4 ⟨rfl, M', hM', h4⟩
  have h5 := h4.by (Imp.un Imp.dr)
  have htv := hw.tv_le hf
  simp
  refine cl_of (at_spec m n lim f ns w4 (MgrA.rd h5) hb hf) ?_
  rintro _ w6 ⟨rfl, k6⟩
  have h6 := h5.kp0 hl k6
  have etv : tv n ns f = (at_ n ns f).v := rfl
  simp [ndV, en, ints, natV]
  refine cl_of (times_spec (min (cnt n ns f) many) (at_ n ns f).v w6 (by omega) (by omega)) ?_
  rintro _ w7 ⟨rfl, k7⟩
  have h7 := h6.kp0 hl k7
  have hc := cnt_all hw hf
  rw [etv] at hc
  obtain ⟨c, hce⟩ : ∃ c, c = num n 0 fun a => eval ns a f := ⟨_, rfl⟩
  rw [← hce] at hc ⊢
  have e : min (min (cnt n ns f) many * 2 ^ (at_ n ns f).v) many = min c many := by rw [many_mul, hc]
  rw [e]
  by_cases hlt : c < many
  · have h8 : ¬ (1099511627777 : Int) ≤ ((min c many : Nat) : Int) := by omega
    have h9 : min c many = c := by omega
    simp [h8]
    rw [h9]
    exact ⟨by simp [cntV, hlt, okV], h7⟩
  · have h8 : (1099511627777 : Int) ≤ ((min c many : Nat) : Int) := by omega
    simp [h8]
    exact ⟨by simp [cntV, hlt, noV, errV], h7⟩
end Go.Proofs.YtkojilpjpdpmaaaR
end
