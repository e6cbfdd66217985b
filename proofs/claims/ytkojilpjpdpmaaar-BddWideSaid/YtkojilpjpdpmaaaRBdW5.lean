/-
  A part of the proofs of this seat's statements (BdW5); no conditions beyond those each theorem names.
-/
import Derived.Test.YtkojilpjpdpmaaaRBdW4
import Derived.Test.YtkojilpjpdpmaaaRBdQ
set_option maxRecDepth 100000
set_option linter.unusedSimpArgs false
set_option linter.unusedVariables false
namespace Go.Proofs.YtkojilpjpdpmaaaR
open Go Go.W Go.Bd Go.Maps
theorem keyI : KeyEnc Try.prog 3 natV i64ok := {
  keyed := int_keyed Try.underlying3
  lit := fun d hd => ⟨_, keyOf_int_mk Try.underlying3 (wf_nat hd)⟩
  inj := fun x y h => by
    injection h with _ h; omega }
abbrev MemB (b : Nat) (M : Mem1) : Asr := MapA b natV natV i64ok M
def bv (b : Bool) : List Value := [.bool b]
theorem bv_len (b : Bool) : (bv b).length = 1 := rfl
theorem bv_one (b : Bool) : (bv b).all oneC = true := rfl
theorem bv_cell {w : World} {v : Value} {xs : List Bool} (h : Vw w v bv xs) {k : Nat} {x : Bool} (hx : xs[k]? = some x) : w.cell? (v.adr.add k) = some (.bool x) := Vw.cell (f := Value.bool) h hx
def inB (ins : List Bool) (i : Nat) : Bool := ins.getD i false
def QPost (m n lim op : Nat) (ins : List Bool) (iv : Value) (ns : Ns) (f b : Nat) (B : Asr) (w : World) (F : List Nat) (v : Value) (w' : World) : Prop :=
  ∃ r ns' M', v = optV r ∧ QOk n lim op (inB ins) ns f r ns' M' ∧ At w F (Star (MgrA m n lim ns') (Star (MemB b M') (Star (VwA iv bv ins) B))) w'
theorem putM_mem {κ α : Type} [DecidableEq κ] {l : List (κ × α)} {x : κ} {v : α} {q : κ × α} (h : q ∈ putM l x v) : q ∈ l ∨ q = (x, v) := by
  unfold putM at h
  split at h
  · obtain ⟨p, hp, e⟩ := List.mem_map.1 h
    split at e
    · exact .inr e.symm
    · exact .inl (e ▸ hp)
  · rcases List.mem_append.1 h with h | h
    · exact .inl h
    · simp at h; exact .inr h
set_option maxHeartbeats 4000000 in
theorem quantify_aux (m n lim op b : Nat) (hop : op ≤ 1) (ins : List Bool) (iv : Value) (hins : ins.length = n + 1) (w : World) (F : List Nat) : ∀ (d f : Nat) (ns : Ns) (M : Mem1) (B : Asr) (w1 : World), Lcl B → Wf n ns → Bnd n lim ns → Ref ns f → f ≤ d → MemQ op (inB ins) ns M →
    At w F (Star (MgrA m n lim ns) (Star (MemB b M) (Star (VwA iv bv ins) B))) w1 →
    Calls Try.prog 70 [.pointer (some ⟨m, 0, none⟩), .int .i64 (op : Nat), .int .i64 (f : Nat), iv, .map (some b)].toArray w1 fun e w' => ∃ v, e = .returned v ∧ QPost m n lim op ins iv ns f b B w F v w' := by
  intro d
  induction d using Nat.strongRecOn with
  | ind d ih =>
  intro f ns M B w1 hB hw hb hf hd hM hA
  obtain ⟨hbn, hbl, hbs⟩ := hb
  have hb' : Bnd n lim ns := ⟨hbn, hbl, hbs⟩
  have hLV : Lcl (Star (VwA iv bv ins) B) := Lcl.vw.star hB
  have hLX : Lcl (Star (MgrA m n lim ns) (Star (MemB b M) (Star (VwA iv bv ins) B))) := Lcl.mgr.star (Lcl.map.star hLV)
  have hrf : f ≤ 1048578 := by unfold Ref at hf; omega
  refine enter Try.func70 mixed low70 (Nat.le_of_ble_eq_true rfl) ?_
  simp only [L70]
  by_cases h2 : f < 2
  · have h2' : (f : Int) < 2 := by omega
    simp [h2']
    exact ⟨some f, ns, M, rfl, q_const hw hbs hf h2 hM, hA⟩
  have h2' : ¬ (f : Int) < 2 := by omega
  simp [h2']
  refine MapM.look2 (x := f) hA.drop.map keyI Try.underlying100 zint (show i64ok f by unfold i64ok; omega) ?_
  cases hgm : getM M f with
  | some r =>
    simp [natV]
    exact ⟨some r, ns, M, rfl, q_known hw hbs hM (getM_in hgm), hA⟩
  | none =>
  simp
  refine cl_of (at_spec m n lim f ns w1 (MgrA.rd hA) hb' hf) ?_
  rintro v w2 ⟨rfl, k2⟩
  have h3 := (hA.kp0 hLX k2).alloc (.cells #[.int .i64 0, .int .i64 0, .int .i64 0] 90) hLX
  simp [ndV, en_len]
  refine h3.st hLX (by simp [en, ints]) (by simp [en, ints]) fun w4 h4 => ?_
  have e3 : ∀ d : Nd, wrAt #[.int .i64 0, .int .i64 0, .int .i64 0] 0 (en d) = (en d).toArray := fun d => by simp [en, ints]
  rw [e3] at h4
  obtain ⟨t, ht⟩ : ∃ t, t = w2.heap.size := ⟨_, rfl⟩
  rw [← ht] at h4 ⊢
  have h5 := h4.tor4
  have hLT : Lcl (Star (ObjA t (.cells (en (at_ n ns f)).toArray 90 (0, 0))) B) := Lcl.obj.star hB
  have hot := h4.obj
  have hf2 : 2 ≤ f := by omega
  have l1 := hw.lt_low hf2 hf
  have l2 := hw.lt_high hf2 hf
  have tvn := hw.tv_var hf2 hf
  have etv : tv n ns f = (at_ n ns f).v := rfl
  simp [cell_blk hot, en, ints]
  refine cl_of (ih (d - 1) (by omega) (at_ n ns f).low ns M _ w4 hLT hw hb' (hw.ref_low hf) (by omega) hM h5) ?_
  rintro _ w6 ⟨r1, ns1, M1, rfl, hl, h6⟩
  have drp : ∀ {nsx : Ns} {Mx : Mem1} {wx : World}, At w F (Star (MgrA m n lim nsx) (Star (MemB b Mx) (Star (VwA iv bv ins) (Star (ObjA t (.cells (en (at_ n ns f)).toArray 90 (0, 0))) B)))) wx → At w F (Star (MgrA m n lim nsx) (Star (MemB b Mx) (Star (VwA iv bv ins) B))) wx := fun h => h.by (Imp.un (Imp.un (Imp.un Imp.dr)))
  cases r1 with
  | none =>
    simp [optV, noV, errV]
    exact ⟨none, ns1, M1, rfl, q_low hw hf hf2 hl, drp h6⟩
  | some l =>
  have hw1 := hl.ext.wf
  have hb1 : Bnd n lim ns1 := ⟨hbn, hbl, hl.lim⟩
  have hot := h6.drop.drop.drop.obj
  simp [optV, okV, cell_blk hot, en, ints]
  refine cl_of (ih (d - 1) (by omega) (at_ n ns f).high ns1 M1 _ w6 hLT hw1 hb1 (hl.ext.ref (hw.ref_high hf)) (by omega) hl.mem h6) ?_
  rintro _ w7 ⟨r2, ns2, M2, rfl, hh, h7⟩
  cases r2 with
  | none =>
    simp [optV, noV, errV]
    exact ⟨none, ns2, M2, rfl, q_high hw hf hf2 hl hh, drp h7⟩
  | some h =>
  have hm := q_mid hw hf hf2 hl hh
  have hw2 := hm.ext.wf
  have hb2 : Bnd n lim ns2 := ⟨hbn, hbl, hm.lim⟩
  have hl2 := hm.lim
  have hot := h7.drop.drop.drop.obj
  have hvw := h7.drop.drop.vw
  have htl := hm.tl
  have hth := hm.th
  have htv : (at_ n ns f).v < ins.length := by omega
  have hget : ins[(at_ n ns f).v]? = some (inB ins (at_ n ns f).v) := by simp [inB, List.getD, List.getElem?_eq_getElem htv]
  simp (disch := omega) [optV, okV, cell_blk hot, en, ints, hvw.idx, bv_cell hvw hget]
  have hrl := hm.rl
  have hrh := hm.rh
  have hml : M2.length ≤ 1048578 := mem1_small (ns := ns2) (N := 1048578) (by omega) (fun q hq => (hm.mem q hq).1) (MapM.nodup h7.drop.map)
  cases hin : inB ins (at_ n ns f).v with
  | true =>
    have h8 := (h7.newmap (ek := p2V) (ev := natV) (ok := p2_ok) (Lcl.mgr.star (Lcl.map.star (Lcl.vw.star hLT)))).rot
    have hpc := pairs_clo (op := op) hw2 (n - tv n ns f - 1) l h hrl hrh (by omega)
    simp [cell_blk hot]
    refine cl_of (apply_spec m n lim op _ l h (by omega) _ ns2 [] (Lcl.map.star (Lcl.vw.star hLT)) hw2 hb2 hrl hrh (fun q hq => by cases hq) hpc.2 hpc.1 h8) ?_
    rintro _ w9 ⟨r3, ns3, M3, rfl, hap, h9⟩
    have hbin := bin_of_ap hap (MapM.nodup h9.drop.map)
    have h10 := h9.by (Imp.un Imp.dr)
    have hcnt := hbin.cnt _ (fun x y h => h)
    have hpl := pairs_len n op ns2 (n - tv n ns f - 1) l h
    have hp0 := Nat.two_pow_pos (n - tv n ns f - 1)
    have hsem : ∀ x, r3 = some x → Ref ns3 x ∧ ∀ a, eval ns3 a x = true ↔ qS op (inB ins) (fun c => eval ns c f) a := fun x hx => by
      obtain ⟨q1, q2⟩ := hbin.ok x hx
      exact ⟨q1, fun a => by rw [q2, q_sem_in hw hf hf2 hop hm hin]⟩
    cases r3 with
    | none =>
      simp [optV, noV, errV]
      exact ⟨none, ns3, M2, rfl, q_done hw hf hf2 hm hbin.ext hbin.lim (by omega) (fun _ => by have := hcnt.2 rfl; omega) hsem (fun q hq => .inl hq), drp h10⟩
    | some x =>
      simp [optV, okV]
      refine At.put (x := f) (v := x) (Lcl.mgr.star (Lcl.vw.star hLT)) h10.rot keyI Try.underlying100 (show i64ok f by unfold i64ok; omega) (by unfold maxLen; omega) fun w12 h12 => ?_
      simp
      exact ⟨some x, ns3, _, rfl, q_done hw hf hf2 hm hbin.ext hbin.lim (by omega) (fun h => by cases h) hsem (fun q hq => (putM_mem hq).imp id fun e => ⟨x, rfl, e⟩), drp h12.rot⟩
  | false =>
    simp [cell_blk hot, en, ints]
    have hlr : l ≤ 2000000 := by unfold Ref at hrl; omega
    have hhr : h ≤ 2000000 := by unfold Ref at hrh; omega
    refine cl_of (make_spec m n lim ns2 (at_ n ns f).v l h (Lcl.map.star (Lcl.vw.star hLT)) h7 hb2 (by omega) hlr hhr) ?_
    rintro _ w9 ⟨rfl, h9⟩
    have mk := mkF_ok (lim := lim) hw2 (v := (at_ n ns f).v) (by omega) hrl hrh htl hth
    have hp0 := Nat.two_pow_pos (n - tv n ns f - 1)
    have mlen := mk.len
    have hsem : ∀ x, (mkF lim ns2 (at_ n ns f).v l h).1 = some x → Ref (mkF lim ns2 (at_ n ns f).v l h).2 x ∧ ∀ a, eval (mkF lim ns2 (at_ n ns f).v l h).2 a x = true ↔ qS op (inB ins) (fun c => eval ns c f) a := fun x hx => by
      obtain ⟨q1, _, q2⟩ := mk.ok x hx
      refine ⟨q1, fun a => ?_⟩
      rw [q2, mk.ext.eval hw2 a hrh, mk.ext.eval hw2 a hrl]
      exact q_sem_out hw hf hf2 hm hin a
    cases hk : (mkF lim ns2 (at_ n ns f).v l h).1 with
    | none =>
      simp [optV, noV, errV]
      exact ⟨none, _, M2, rfl, q_done hw hf hf2 hm mk.ext (mk.lim hl2) (by omega) (fun _ => by have := (mk.full hk).1; omega) (fun x hx => by cases hx) (fun q hq => .inl hq), drp h9⟩
    | some x =>
      simp [optV, okV]
      refine At.put (x := f) (v := x) (Lcl.mgr.star (Lcl.vw.star hLT)) h9.rot keyI Try.underlying100 (show i64ok f by unfold i64ok; omega) (by unfold maxLen; omega) fun w12 h12 => ?_
      simp
      exact ⟨some x, _, _, rfl, q_done hw hf hf2 hm mk.ext (mk.lim hl2) (by omega) (fun h => by cases h) (fun y hy => hsem y (by rw [hk]; exact hy)) (fun q hq => (putM_mem hq).imp id fun e => ⟨x, rfl, e⟩), drp h12.rot⟩
end Go.Proofs.YtkojilpjpdpmaaaR
