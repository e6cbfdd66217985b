/-
  A part of the proof of this claim's statement (LmWE, LibN, LmZA, LmYB, LmYN): plain theorems; no conditions beyond those each names.
-/
import Derived.Test.YtcplpogmbacnfaaPk16
import Derived.Test.YtcplpogmbacnfaaPk11
import Derived.Test.YtcplpogmbacnfaaPk06
import Derived.Test.YtcplpogmbacnfaaPk05
import Derived.HandedShaped
import Derived.Shelf.Vars
import Derived.OpenShut
import Derived.Test.YtcplpogmbacnfaaRows
import Derived.Test.YtcplpogmbacnfaaPk12
section
set_option maxRecDepth 100000
set_option linter.unusedSimpArgs false
set_option linter.unusedVariables false
namespace Go.Tk
theorem map_inj {α β : Type} {f : α → β} (h : ∀ x y, f x = f y → x = y) : ∀ {l l' : List α}, l.map f = l'.map f → l = l'
  | [], [], _ => rfl
  | [], _ :: _, e => by simp at e
  | _ :: _, [], e => by simp at e
  | a :: l, b :: l', e => by
    simp only [List.map_cons, List.cons.injEq] at e
    rw [h _ _ e.1, map_inj h e.2]
theorem faN_inj (a b : Fc) (h : faN a = faN b) : a = b := by
  obtain ⟨a1, a2⟩ := a
  obtain ⟨b1, b2⟩ := b
  simp only [faN, Prod.mk.injEq] at h
  have h1 : a1 = b1 := by omega
  have h2 : a2 = b2 := by omega
  rw [h1, h2]
theorem Nf.raw_inj (a b : Nf) (h : a.raw = b.raw) : a = b := by
  obtain ⟨a1, a2, a3, a4⟩ := a
  obtain ⟨b1, b2, b3, b4⟩ := b
  simp only [Nf.raw, Ef.mk.injEq] at h
  obtain ⟨h1, h2, h3, h4⟩ := h
  have h2 := map_inj faN_inj h2
  have h3 : a3 = b3 := by omega
  have h4 : a4 = b4 := by omega
  subst h1 h2 h3 h4
  rfl
theorem No.raw_inj (a b : No) (h : a.raw = b.raw) : a = b := by
  obtain ⟨a1, a2, a3, a4, a5, a6⟩ := a
  obtain ⟨b1, b2, b3, b4, b5, b6⟩ := b
  simp only [No.raw, Oq.mk.injEq] at h
  obtain ⟨h1, h2, h3, h4, h5, h6⟩ := h
  have h2 : a2 = b2 := by omega
  have h4 := map_inj faN_inj h4
  have h6 := map_inj Nf.raw_inj h6
  subst h1 h2 h3 h4 h5 h6
  rfl
theorem Nt.raw_inj (a b : Nt) (h : a.raw = b.raw) : a = b := by
  obtain ⟨a1, a2, a3, a4, a5, a6, a7, a8⟩ := a
  obtain ⟨b1, b2, b3, b4, b5, b6, b7, b8⟩ := b
  simp only [Nt.raw, Tk.mk.injEq] at h
  obtain ⟨h1, h2, h3, h4, h5, h6, h7, h8⟩ := h
  have hi : ∀ x y : Nat, iN x = iN y → x = y := fun x y h => by unfold iN at h; omega
  have h5 := map_inj hi h5
  have h6 := map_inj hi h6
  have h7 := map_inj faN_inj h7
  have h8 := map_inj No.raw_inj h8
  subst h1 h2 h3 h4 h5 h6 h7 h8
  rfl
end Go.Tk
namespace Go.Proofs.Ytcplpogmbacnfaa
open Go Go.W Go.Tk Go.Rx Go.Lm Go.Maps
theorem lnew_ok {w : World} (T : Nt) (hg : NtG T) (hgood : goodB T.raw = true) (hr : NtR w T) (hnm : ∀ o ∈ T.ops, o.name.size ≤ 9223372036854775807) :
    Calls Try.prog 12 [ntV T].toArray w fun e w' => ∃ x, e = .returned x ∧ ∃ b, x = .tuple #[.pointer (some ⟨b, 0, none⟩), .nilIface] ∧ Hrx b T w' ∧ Kp [] w w' := by
  refine Calls.mono (lnew_walk T.raw (NtR.raw.2 hr) (hg.lens hnm)) ?_
  rintro e w' ⟨x, rfl, hx, k⟩
  refine ⟨x, rfl, ?_⟩
  unfold HnA at hx
  rw [(chk_good T.raw).2 hgood] at hx
  obtain ⟨b, T', e, _, rfl, hh⟩ := hx
  have e := Nt.raw_inj _ _ e
  subst e
  exact ⟨b, rfl, hh, k⟩
theorem ex_good {vv nv gv ov e0 e1 : Cell1} : goodB (exT vv nv gv ov e0 e1).raw = true := by
  unfold goodB
  rfl
theorem ex_g {vv nv gv ov e0 e1 : Cell1} : NtG (exT vv nv gv ov e0 e1) := by
  obtain ⟨T, e, hg⟩ := good_nat (ex_good (vv := vv) (nv := nv) (gv := gv) (ov := ov) (e0 := e0) (e1 := e1))
  rw [← Nt.raw_inj _ _ e]
  exact hg
theorem ex_uns {vv nv gv ov e0 e1 : Cell1} : uns (exT vv nv gv ov e0 e1) (cst (exT vv nv gv ov e0 e1) []) = E2 := rfl
theorem ex_cst {vv nv gv ov e0 e1 : Cell1} : cst (exT vv nv gv ov e0 e1) [] = cE 2 3 := by
  funext i
  match i with
  | 0 => rfl
  | 1 => rfl
  | i + 2 => rfl
theorem two_map {α β : Type} {f : α → β} {p q : β} : ∀ l : List α, l.map f = [p, q] → ∃ a b, l = [a, b] ∧ f a = p ∧ f b = q
  | [a, b], h => by simp only [List.map_cons, List.map_nil, List.cons.injEq, and_true] at h; exact ⟨a, b, rfl, h.1, h.2⟩
  | [], h => by simp at h
  | [a], h => by simp at h
  | a :: b :: c :: l, h => by simp at h
set_option maxHeartbeats 1000000 in
theorem mawake_spec {w : World} : Calls Try.prog 11 [].toArray w fun e w' => ∃ x, e = .returned x ∧ x = .bool true ∧ Kp [] w w' := by
  refine enter Try.func11 mixed low11 (Nat.le_of_ble_eq_true rfl) ?_
  simp only [L11]
  simp
  refine cl_of example_spec ?_
  rintro _ w1 ⟨vv, nv, gv, ov, e0, e1, rfl, hr, k1⟩
  simp
  refine cl_of (lnew_ok _ ex_g ex_good hr (fun o ho => ?_)) ?_
  · simp only [exT, List.mem_cons, List.not_mem_nil, or_false] at ho
    rcases ho with rfl | rfl <;> exact (by decide : ByteArray.empty.size ≤ 9223372036854775807)
  rintro _ w2 ⟨b, rfl, hR, k2⟩
  have h3 := (At.start rfl : At w2 [] Emp w2).lit (xs := [0, 0]) (enc := nE) (E := 3) (sz := 1) (cs := #[.int .i64 0, .int .i64 0]) (m := 2) .emp (by simp [nE]) nE_len (by simp [maxLen]) rfl
  obtain ⟨sv, hsv⟩ : ∃ sv, sv = Value.slice (some ⟨w2.heap.size, 0, none⟩) 2 2 := ⟨_, rfl⟩
  obtain ⟨w3, hw3⟩ : ∃ w3, w3 = w2.alloc (.cells #[.int .i64 0, .int .i64 0] 3) := ⟨_, rfl⟩
  rw [← hsv, ← hw3] at h3
  have hst : StN (exT vv nv gv ov e0 e1).vars [0, 0] := ⟨rfl, fun v hv => by
    have : v < 2 := hv
    have : v = 0 ∨ v = 1 := by omega
    rcases this with rfl | rfl <;> simp [exT]⟩
  have hst1 : StN (exT vv nv gv ov e0 e1).vars [1, 1] := ⟨rfl, fun v hv => by
    have : v < 2 := hv
    have : v = 0 ∨ v = 1 := by omega
    rcases this with rfl | rfl <;> simp [exT]⟩
  simp [rowOf, ← hsv, ← hw3]
  refine cl_of (hx_cuts sv [0, 0] (hR.kp h3.kp) ex_g h3.own.vw hst) ?_
  rintro x w4 ⟨⟨r, hr4, hx⟩, k4⟩
  rw [ex_uns, ex_cst] at hr4
  have hr4 := hr4.uniq ex_cuts
  subst hr4
  obtain ⟨v, rfl, cs, hcs, hv, hvs⟩ := hx
  obtain ⟨c0, c1, rfl, h0, h1⟩ := two_map cs hcs
  have hw0 := hvs c0 (by simp)
  have z1 : c0.ops = [1] := congrArg Prod.fst h0
  have z2 : c0.cost = 3 := congrArg Prod.snd h0
  have z3 : c1.cost = 2 := congrArg Prod.snd h1
  rw [z1] at hw0
  have ec0 := hv.fld ctE_len (k := 0) (x := c0) rfl (o := 1) rfl
  have ec1 := hv.fld ctE_len (k := 1) (x := c1) rfl (o := 1) rfl
  have ec2 := hv.fld ctE_len (k := 0) (x := c0) rfl (o := 0) rfl
  rw [z2] at ec0
  rw [z3] at ec1
  have hk := (k1.trans k2).trans0 (h3.kp.trans0 k4)
  have h5 := (At.start rfl : At w4 [] Emp w4).lit (xs := [1]) (enc := nE) (E := 3) (sz := 1) (cs := #[.int .i64 1]) (m := 1) .emp (by simp [nE]) nE_len (by simp [maxLen]) rfl
  simp (disch := simp) [hv.len, hv.idx, ec0, ec1, ec2]
  refine cl_of (ints_spec _ _ _ _ (ints_vw (hw0.kp0 h5.kp)) (ints_vw h5.own.vw) (by simp) (by simp)) ?_
  rintro _ w6 ⟨rfl, k6⟩
  have k46 := h5.kp.trans k6
  have ec3 := (hv.kp0 k46).fld ctE_len (k := 1) (x := c1) rfl (o := 1) rfl
  rw [z3] at ec3
  simp (disch := simp) [(hv.kp0 k46).len, (hv.kp0 k46).idx, ec3, rowOf]
  have h7 := (At.start rfl : At w6 [] Emp w6).lit (xs := [0, 0]) (enc := nE) (E := 3) (sz := 1) (cs := #[.int .i64 0, .int .i64 0]) (m := 2) .emp (by simp [nE]) nE_len (by simp [maxLen]) rfl
  have hR6 := (hR.kp (h3.kp.trans k4)).kp (k46.trans h7.kp)
  refine cl_of (hx_value _ [0, 0] hR6 ex_g h7.own.vw hst) ?_
  rintro _ w8 ⟨⟨r, hr8, rfl⟩, k8⟩
  rw [ex_uns, ex_cst] at hr8
  have hr8 := hr8.uniq ex_cuts
  subst hr8
  simp [sumM, rowOf]
  have h9 := (At.start rfl : At w8 [] Emp w8).lit (xs := [1, 1]) (enc := nE) (E := 3) (sz := 1) (cs := #[.int .i64 1, .int .i64 1]) (m := 2) .emp (by simp [nE]) nE_len (by simp [maxLen]) rfl
  refine cl_of (hx_value _ [1, 1] (hR6.kp (k8.trans h9.kp)) ex_g h9.own.vw hst1) ?_
  rintro _ w10 ⟨⟨r, hr10, rfl⟩, k10⟩
  rw [ex_uns] at hr10
  have hr10 := hr10.uniq ex_done
  subst hr10
  simp [sumM]
  exact hk.trans (k46.trans (h7.kp.trans (k8.trans (h9.kp.trans k10))))
end Go.Proofs.Ytcplpogmbacnfaa
end
section
set_option linter.unusedVariables false
set_option linter.unusedSimpArgs false
namespace Go.W
open Go Go.ChangeShapes Go.WideShapes Go.ChangeAt Go.RowKit Go.Deep
section
variable {H : Type} {enc : TypeId × Value → H} {P : Program}
/-- A slice in the input, by its elements. -/
theorem el_vw {α : Type} {encα : α → List Value} {ok : α → Prop} {W : World} {t e : TypeId} {sz : Nat} {v : Value} {fu : Nat} {x : DataW H × List MemPlace} (ht : P.underlying t = some (.slice e)) (hC : P.cellsOf e = sz) (hz : 0 < sz) (he : ∀ x, (encα x).length = sz)
    (hel : ∀ n cs x, cs.length = sz → DataW.trod enc P W 0 (fun _ => true) true n e cs = some x → ∃ a, cs = encα a ∧ ok a) 
    (h : DataW.trod enc P W 0 (fun _ => true) true fu t [v] = some x) :
    ∃ l : List α, Vw W v encα l ∧ (∀ a ∈ l, ok a) ∧ l.length ≤ maxLen := by
  rcases open_slice ht h with ⟨hcs, hx⟩ | ⟨a, len, cap, m, n, D, Pl, hcs, hb, hl, hm, hmm, hx, hi⟩
  · simp at hcs
    subst hcs
    exact ⟨[], Vw.nil _ _, by simp, by simp⟩
  · simp at hcs
    subst hcs
    simp only [if_true] at hmm
    subst hmm
    obtain ⟨n0, hn0⟩ : ∃ n0, n0 = len := ⟨_, rfl⟩
    rw [← hn0] at hl ⊢
    have key : ∀ k, k ≤ m → ∃ l : List α, l.length = k ∧ (∀ x ∈ l, ok x) ∧ ∀ j u, (l.flatMap encα)[j]? = some u → W.cell? (a.add j) = some u := by
      intro k
      induction k with
      | zero => exact fun _ => ⟨[], rfl, by simp, by simp⟩
      | succ k ih =>
        intro hk
        obtain ⟨l, hll, ho, hc⟩ := ih (by omega)
        obtain ⟨cs, hcs, htr⟩ := hi k (by omega)
        rw [hC] at hcs
        obtain ⟨_, hlen, hat⟩ := World.cells?_some hcs
        obtain ⟨x, rfl, hox⟩ := hel _ _ _ hlen htr
        refine ⟨l ++ [x], by simp [hll], ?_, ?_⟩
        · intro y hy
          rcases List.mem_append.1 hy with h1 | h1
          · exact ho y h1
          · simp at h1; subst h1; exact hox
        · intro j u hj
          rw [List.flatMap_append, List.flatMap_cons, List.flatMap_nil, List.append_nil] at hj
          have hfl := flatMap_len he l
          rw [hll] at hfl
          by_cases hjl : j < k * sz
          · rw [List.getElem?_append_left (by omega)] at hj
            exact hc j u hj
          · rw [List.getElem?_append_right (by omega), hfl] at hj
            have hjs : j - k * sz < sz := by have h9 := (List.getElem?_eq_some_iff.1 hj).1; rw [he x] at h9; exact h9
            have := hat (j - k * sz) hjs
            rw [Go.Deep.add_add, show k * sz + (j - k * sz) = j by omega] at this
            rw [this]; exact hj
    obtain ⟨l, hll, ho, hc⟩ := key m (Nat.le_refl _)
    have hvw : Vw W (.slice (some a) n0 m) encα (l.take n0) := by
      have hlen : (l.take n0).length = n0 := by simp; omega
      refine .inr ⟨a, m, by rw [hlen], by omega, fun hne => ?_, fun j u hj => hc j u ?_⟩
      · have hn0 : 0 < n0 := by
          rcases Nat.eq_zero_or_pos n0 with h0 | h0
          · subst h0; simp at hne
          · exact h0
        obtain ⟨cs, hcs, _⟩ := hi 0 (by omega)
        rw [hC] at hcs
        obtain ⟨_, hlen', hat⟩ := World.cells?_some hcs
        have h1 := hat 0 hz
        rw [List.getElem?_eq_getElem (by omega)] at h1
        have := World.cell?_spot h1
        rw [Go.Deep.add_add] at this
        simp at this
        simpa [Addr.add] using this
      · have : l.flatMap encα = (l.take n0).flatMap encα ++ (l.drop n0).flatMap encα := by rw [← List.flatMap_append, List.take_append_drop]
        rw [this, List.getElem?_append_left (List.getElem?_eq_some_iff.1 hj).1]
        exact hj
    exact ⟨_, hvw, fun x hx => ho x (List.mem_of_mem_take hx), by rw [List.length_take]; omega⟩
end
end Go.W
end
section
set_option maxRecDepth 100000
set_option linter.unusedSimpArgs false
set_option linter.unusedVariables false
namespace Go.Proofs.Ytcplpogmbacnfaa
open Go Go.W Go.Tk Go.Rx Go.Lm Go.ChangeShapes Go.WideShapes Go.ChangeAt Go.RowKit
theorem own : ownKnob Try.prog.godebug = none := by kernel_rfl
theorem laidOut : laidOutB Try.prog = true := by kernel_rfl
section
variable {H : Type} {enc : TypeId × Value → H}
theorem el_u16 {W : World} (n : Nat) (cs : List Value) (x : DataW H × List MemPlace) (hl : cs.length = 1) (h : DataW.trod enc Try.prog W 0 (fun _ => true) true n 56 cs = some x) : ∃ a : Nat, cs = u16E a ∧ a < 65536 := by
  obtain ⟨a, ha, _, wa⟩ := DataW.trod_int Try.underlying56 h
  have h1 : IntKind.u16.min = 0 := rfl
  have h2 : IntKind.u16.max = 65535 := rfl
  simp only [Lit.wf, Bool.and_eq_true, decide_eq_true_eq] at wa
  refine ⟨a.toNat, ?_, by omega⟩
  unfold u16E
  rw [ha, show ((a.toNat : Nat) : Int) = a by omega]
theorem open_u16s {W : World} {b : Nat} {v : Value} {d : DataW H} {ps : List MemPlace} (hv : Value.okWide Try.prog W .any b 55 v) (h : DataW.Trod enc Try.prog W 0 (fun _ => true) true 55 v d ps) : ∃ l : List Nat, Vw W v u16E l ∧ (∀ c ∈ l, c < 65536) ∧ l.length ≤ 9223372036854775807 := by
  obtain ⟨a0, n0, c0, rfl⟩ := okWide_slice Try.underlying55 hv
  obtain ⟨n, h⟩ := h
  exact el_vw (encα := u16E) (ok := fun c => c < 65536) (sz := 1) Try.underlying55 (by kernel_rfl) (by omega) u16E_len el_u16 (fu := n) (v := .slice a0 n0 c0) h
end
end Go.Proofs.Ytcplpogmbacnfaa
end
section
set_option maxRecDepth 100000
set_option linter.unusedSimpArgs false
set_option linter.unusedVariables false
namespace Go.Lm
open Go.Rx
end Go.Lm
namespace Go.Proofs.Ytcplpogmbacnfaa
open Go Go.W Go.Tk Go.Rx Go.Lm Go.Maps
/-- The value that is returned. -/
def valO : Option (List (List Nat × Nat)) → Nat
  | none => Inf
  | some out => sumM out
theorem valP_O {U : List Un} {S0 G : List Nat} {c : Nat → Nat} {x : Value} (h : valP U S0 G c x) : ∃ r, LmC U S0 G c r ∧ x = .int .i64 (valO r : Nat) := by
  obtain ⟨r, hr, hx⟩ := h
  exact ⟨r, hr, by cases r <;> exact hx⟩
end Go.Proofs.Ytcplpogmbacnfaa
end
section
set_option maxRecDepth 100000
set_option linter.unusedSimpArgs false
set_option linter.unusedVariables false
namespace Go.Proofs.Ytcplpogmbacnfaa
open Go Go.W Go.Tk Go.Rx Go.Lm Go.Maps
def fl (X : List Nat) (j : Nat) : Bool := decide (j ∈ X)
theorem fl_add (X : List Nat) (i j : Nat) : fl (X ++ [i]) j = (fl X j || decide (j = i)) := by
  unfold fl
  rw [Bool.eq_iff_iff]
  simp
theorem fl_yes {X : List Nat} {j : Nat} (h : j ∈ X) : fl X j = true := decide_eq_true h
theorem fl_no {X : List Nat} {j : Nat} (h : j ∉ X) : fl X j = false := decide_eq_false h
def GA (f : Nat → Bool) (tb : Nat) (vv nv gv ov a b c q1 q2 q3 : Value) (V I : List Nat) (Gl : List Fc) (v : Nat) (B : Asr) : Asr :=
  Star (if f 3 then OwnA a 3 1 nE (V ++ [2]) else OwnA vv 3 1 nE V)
  (Star (if f 7 then OwnA b 3 1 nE (I ++ [0]) else OwnA nv 3 1 nE I)
  (Star (if f 13 then OwnA c 58 2 fcE (Gl ++ [(v, 1)]) else OwnA gv 58 2 fcE Gl)
  (Star (if f 2 then OwnA q1 3 1 nE [2] else Emp)
  (Star (if f 6 then OwnA q2 3 1 nE [0] else Emp)
  (Star (if f 12 then OwnA q3 58 2 fcE [(v, 1)] else Emp)
  (Star (ObjA tb (.cells #[if f 15 then a else vv, if f 17 then b else nv, if f 19 then c else gv, ov] 26 (0, 0))) B))))))
structure GoT (tb v : Nat) (vv nv gv ov : Value) (V I : List Nat) (Gl : List Fc) (B : Asr) (w0 : World) (ρ : Env) (X : List Nat) (ρ' : Env) (w' : World) : Prop where
  old : ∀ t, t < 35 → ρ' t = ρ t
  f0 : 0 ∈ X → ρ' 35 = .pointer (some ⟨tb, 0, none⟩)
  f1 : 1 ∈ X → ρ' 36 = vv
  f4 : 4 ∈ X → ρ' 39 = .pointer (some ⟨tb, 1, none⟩)
  f5 : 5 ∈ X → ρ' 40 = nv
  f8 : 8 ∈ X → ρ' 43 = .pointer (some ⟨tb, 2, none⟩)
  f9 : 9 ∈ X → ρ' 44 = gv
  f10 : 10 ∈ X → ρ' 45 = .int .i64 (v : Nat)
  f11 : 11 ∈ X → ρ' 46 = .agg #[.int .i64 (v : Nat), .int .i64 1]
  f14 : 14 ∈ X → ρ' 49 = .pointer (some ⟨tb, 0, none⟩)
  f16 : 16 ∈ X → ρ' 50 = .pointer (some ⟨tb, 1, none⟩)
  f18 : 18 ∈ X → ρ' 51 = .pointer (some ⟨tb, 2, none⟩)
  at_ : At w0 [] (GA (fl X) tb vv nv gv ov (ρ' 38) (ρ' 42) (ρ' 48) (ρ' 37) (ρ' 41) (ρ' 47) V I Gl v B) w'
def goLos : List LO := [LO.mk 0 (some 35) (.fieldAddr 26 (.tmp 5) 0) 0 none, LO.mk 1 (some 36) (.load 22 (.tmp 35)) 22 none, LO.mk 3 (some 37) (.buildSlice 22 1 #[(0, .const (.int .i64 2))]) 22 none, LO.mk 2 (some 38) (.call (Call.mk (.builtin .append) #[.tmp 36, .tmp 37] #[22, 22])) 22 none, LO.mk 0 (some 39) (.fieldAddr 26 (.tmp 5) 1) 0 none, LO.mk 1 (some 40) (.load 22 (.tmp 39)) 22 none, LO.mk 3 (some 41) (.buildSlice 22 1 #[(0, .const (.int .i64 0))]) 22 none, LO.mk 2 (some 42) (.call (Call.mk (.builtin .append) #[.tmp 40, .tmp 41] #[22, 22])) 22 none, LO.mk 0 (some 43) (.fieldAddr 26 (.tmp 5) 2) 0 none, LO.mk 1 (some 44) (.load 23 (.tmp 43)) 23 none, LO.mk 0 (some 45) (.move (.tmp 7)) 3 none, LO.mk 0 (some 46) (.build 58 #[(0, .tmp 45), (1, .const (.int .i64 1))]) 58 none, LO.mk 3 (some 47) (.buildSlice 23 1 #[(0, .tmp 46)]) 23 none, LO.mk 2 (some 48) (.call (Call.mk (.builtin .append) #[.tmp 44, .tmp 47] #[23, 23])) 23 none, LO.mk 0 (some 49) (.fieldAddr 26 (.tmp 5) 0) 0 none, LO.mk 2 none (.store 22 (.tmp 49) (.tmp 38)) 0 none, LO.mk 0 (some 50) (.fieldAddr 26 (.tmp 5) 1) 0 none, LO.mk 2 none (.store 22 (.tmp 50) (.tmp 42)) 0 none, LO.mk 0 (some 51) (.fieldAddr 26 (.tmp 5) 2) 0 none, LO.mk 2 none (.store 23 (.tmp 51) (.tmp 48)) 0 none]
def goDeps : List Nat := [0, 1, 0, 7, 0, 16, 0, 127, 0, 256, 0, 1024, 3072, 8191, 831, 32767, 65535, 131071, 262143, 524287]
section
variable {tb v : Nat} {vv nv gv ov : Value} {V I : List Nat} {Gl : List Fc} {B : Asr} {w0 : World} {ρ : Env}
def GoStep (tb v : Nat) (vv nv gv ov : Value) (V I : List Nat) (Gl : List Fc) (B : Asr) (w0 : World) (ρ : Env) (i : Nat) : Prop :=
  ∀ X ρ' w', i ∉ X → (∀ j, j < 20 → (goDeps.getD i 0).testBit j = true → j ∈ X) → (∀ j ∈ X, (goDeps.getD j 0).testBit i = false) → GoT tb v vv nv gv ov V I Gl B w0 ρ X ρ' w' → wpT Try.prog [goLos.getD i LO.dfl] ρ' w' (GoT tb v vv nv gv ov V I Gl B w0 ρ (X ++ [i]))
theorem go_no {X : List Nat} {i : Nat} (h : ∀ j ∈ X, (goDeps.getD j 0).testBit i = false) (j : Nat) (hj : (goDeps.getD j 0).testBit i = true) : j ∉ X := fun hm => by
  have := h j hm
  rw [hj] at this
  cases this
theorem go0 (hρ5 : ρ 5 = .pointer (some ⟨tb, 0, none⟩)) (hρ7 : ρ 7 = .int .i64 (v : Nat)) (hB : Lcl B) (hv : v ≤ 8) (hV : V.length ≤ 8) (hI : I.length ≤ 8) (hG : Gl.length ≤ 8) (hvo : oneC vv = true) (hno : oneC nv = true) (hgo : oneC gv = true) : GoStep tb v vv nv gv ov V I Gl B w0 ρ 0 := fun X ρ' w' hn hd hu h => by
  have s5 := (h.old 5 (by omega)).trans hρ5
  have s7 := (h.old 7 (by omega)).trans hρ7
  show wpT Try.prog [LO.mk 0 (some 35) (.fieldAddr 26 (.tmp 5) 0) 0 none] ρ' w' _
  simp [s5]
  refine ⟨fun t ht => ?_, by simp, by simpa using h.f1, by simpa using h.f4, by simpa using h.f5, by simpa using h.f8, by simpa using h.f9, by simpa using h.f10, by simpa using h.f11, by simpa using h.f14, by simpa using h.f16, by simpa using h.f18, ?_⟩
  · have := h.old t ht
    simp only [Env.put, Env.set]
    rw [if_neg (by omega)]
    exact this
  · have := h.at_
    simpa [GA, fl_add] using this
theorem go4 (hρ5 : ρ 5 = .pointer (some ⟨tb, 0, none⟩)) (hρ7 : ρ 7 = .int .i64 (v : Nat)) (hB : Lcl B) (hv : v ≤ 8) (hV : V.length ≤ 8) (hI : I.length ≤ 8) (hG : Gl.length ≤ 8) (hvo : oneC vv = true) (hno : oneC nv = true) (hgo : oneC gv = true) : GoStep tb v vv nv gv ov V I Gl B w0 ρ 4 := fun X ρ' w' hn hd hu h => by
  have s5 := (h.old 5 (by omega)).trans hρ5
  have s7 := (h.old 7 (by omega)).trans hρ7
  show wpT Try.prog [LO.mk 0 (some 39) (.fieldAddr 26 (.tmp 5) 1) 0 none] ρ' w' _
  simp [s5]
  refine ⟨fun t ht => ?_, by simpa using h.f0, by simpa using h.f1, by simp, by simpa using h.f5, by simpa using h.f8, by simpa using h.f9, by simpa using h.f10, by simpa using h.f11, by simpa using h.f14, by simpa using h.f16, by simpa using h.f18, ?_⟩
  · have := h.old t ht
    simp only [Env.put, Env.set]
    rw [if_neg (by omega)]
    exact this
  · have := h.at_
    simpa [GA, fl_add] using this
theorem go8 (hρ5 : ρ 5 = .pointer (some ⟨tb, 0, none⟩)) (hρ7 : ρ 7 = .int .i64 (v : Nat)) (hB : Lcl B) (hv : v ≤ 8) (hV : V.length ≤ 8) (hI : I.length ≤ 8) (hG : Gl.length ≤ 8) (hvo : oneC vv = true) (hno : oneC nv = true) (hgo : oneC gv = true) : GoStep tb v vv nv gv ov V I Gl B w0 ρ 8 := fun X ρ' w' hn hd hu h => by
  have s5 := (h.old 5 (by omega)).trans hρ5
  have s7 := (h.old 7 (by omega)).trans hρ7
  show wpT Try.prog [LO.mk 0 (some 43) (.fieldAddr 26 (.tmp 5) 2) 0 none] ρ' w' _
  simp [s5]
  refine ⟨fun t ht => ?_, by simpa using h.f0, by simpa using h.f1, by simpa using h.f4, by simpa using h.f5, by simp, by simpa using h.f9, by simpa using h.f10, by simpa using h.f11, by simpa using h.f14, by simpa using h.f16, by simpa using h.f18, ?_⟩
  · have := h.old t ht
    simp only [Env.put, Env.set]
    rw [if_neg (by omega)]
    exact this
  · have := h.at_
    simpa [GA, fl_add] using this
theorem go14 (hρ5 : ρ 5 = .pointer (some ⟨tb, 0, none⟩)) (hρ7 : ρ 7 = .int .i64 (v : Nat)) (hB : Lcl B) (hv : v ≤ 8) (hV : V.length ≤ 8) (hI : I.length ≤ 8) (hG : Gl.length ≤ 8) (hvo : oneC vv = true) (hno : oneC nv = true) (hgo : oneC gv = true) : GoStep tb v vv nv gv ov V I Gl B w0 ρ 14 := fun X ρ' w' hn hd hu h => by
  have s5 := (h.old 5 (by omega)).trans hρ5
  have s7 := (h.old 7 (by omega)).trans hρ7
  show wpT Try.prog [LO.mk 0 (some 49) (.fieldAddr 26 (.tmp 5) 0) 0 none] ρ' w' _
  simp [s5]
  refine ⟨fun t ht => ?_, by simpa using h.f0, by simpa using h.f1, by simpa using h.f4, by simpa using h.f5, by simpa using h.f8, by simpa using h.f9, by simpa using h.f10, by simpa using h.f11, by simp, by simpa using h.f16, by simpa using h.f18, ?_⟩
  · have := h.old t ht
    simp only [Env.put, Env.set]
    rw [if_neg (by omega)]
    exact this
  · have := h.at_
    simpa [GA, fl_add] using this
theorem go16 (hρ5 : ρ 5 = .pointer (some ⟨tb, 0, none⟩)) (hρ7 : ρ 7 = .int .i64 (v : Nat)) (hB : Lcl B) (hv : v ≤ 8) (hV : V.length ≤ 8) (hI : I.length ≤ 8) (hG : Gl.length ≤ 8) (hvo : oneC vv = true) (hno : oneC nv = true) (hgo : oneC gv = true) : GoStep tb v vv nv gv ov V I Gl B w0 ρ 16 := fun X ρ' w' hn hd hu h => by
  have s5 := (h.old 5 (by omega)).trans hρ5
  have s7 := (h.old 7 (by omega)).trans hρ7
  show wpT Try.prog [LO.mk 0 (some 50) (.fieldAddr 26 (.tmp 5) 1) 0 none] ρ' w' _
  simp [s5]
  refine ⟨fun t ht => ?_, by simpa using h.f0, by simpa using h.f1, by simpa using h.f4, by simpa using h.f5, by simpa using h.f8, by simpa using h.f9, by simpa using h.f10, by simpa using h.f11, by simpa using h.f14, by simp, by simpa using h.f18, ?_⟩
  · have := h.old t ht
    simp only [Env.put, Env.set]
    rw [if_neg (by omega)]
    exact this
  · have := h.at_
    simpa [GA, fl_add] using this
theorem go18 (hρ5 : ρ 5 = .pointer (some ⟨tb, 0, none⟩)) (hρ7 : ρ 7 = .int .i64 (v : Nat)) (hB : Lcl B) (hv : v ≤ 8) (hV : V.length ≤ 8) (hI : I.length ≤ 8) (hG : Gl.length ≤ 8) (hvo : oneC vv = true) (hno : oneC nv = true) (hgo : oneC gv = true) : GoStep tb v vv nv gv ov V I Gl B w0 ρ 18 := fun X ρ' w' hn hd hu h => by
  have s5 := (h.old 5 (by omega)).trans hρ5
  have s7 := (h.old 7 (by omega)).trans hρ7
  show wpT Try.prog [LO.mk 0 (some 51) (.fieldAddr 26 (.tmp 5) 2) 0 none] ρ' w' _
  simp [s5]
  refine ⟨fun t ht => ?_, by simpa using h.f0, by simpa using h.f1, by simpa using h.f4, by simpa using h.f5, by simpa using h.f8, by simpa using h.f9, by simpa using h.f10, by simpa using h.f11, by simpa using h.f14, by simpa using h.f16, by simp, ?_⟩
  · have := h.old t ht
    simp only [Env.put, Env.set]
    rw [if_neg (by omega)]
    exact this
  · have := h.at_
    simpa [GA, fl_add] using this
theorem go1 (hρ5 : ρ 5 = .pointer (some ⟨tb, 0, none⟩)) (hρ7 : ρ 7 = .int .i64 (v : Nat)) (hB : Lcl B) (hv : v ≤ 8) (hV : V.length ≤ 8) (hI : I.length ≤ 8) (hG : Gl.length ≤ 8) (hvo : oneC vv = true) (hno : oneC nv = true) (hgo : oneC gv = true) : GoStep tb v vv nv gv ov V I Gl B w0 ρ 1 := fun X ρ' w' hn hd hu h => by
  have s5 := (h.old 5 (by omega)).trans hρ5
  have s7 := (h.old 7 (by omega)).trans hρ7
  have hf := h.f0 (hd 0 (by omega) (by decide))
  have hno := fl_no (go_no hu 15 (by decide))
  have hob := h.at_.drop.drop.drop.drop.drop.drop.obj
  rw [hno] at hob
  simp only [Bool.false_eq_true, if_false] at hob
  show wpT Try.prog [LO.mk 1 (some 36) (.load 22 (.tmp 35)) 22 none] ρ' w' _
  simp [hf, cell_blk hob]
  refine ⟨fun t ht => ?_, by simpa using h.f0, by simp, by simpa using h.f4, by simpa using h.f5, by simpa using h.f8, by simpa using h.f9, by simpa using h.f10, by simpa using h.f11, by simpa using h.f14, by simpa using h.f16, by simpa using h.f18, ?_⟩
  · have := h.old t ht
    simp only [Env.put, Env.set]
    rw [if_neg (by omega)]
    exact this
  · have := h.at_
    simpa [GA, fl_add] using this
theorem go5 (hρ5 : ρ 5 = .pointer (some ⟨tb, 0, none⟩)) (hρ7 : ρ 7 = .int .i64 (v : Nat)) (hB : Lcl B) (hv : v ≤ 8) (hV : V.length ≤ 8) (hI : I.length ≤ 8) (hG : Gl.length ≤ 8) (hvo : oneC vv = true) (hno : oneC nv = true) (hgo : oneC gv = true) : GoStep tb v vv nv gv ov V I Gl B w0 ρ 5 := fun X ρ' w' hn hd hu h => by
  have s5 := (h.old 5 (by omega)).trans hρ5
  have s7 := (h.old 7 (by omega)).trans hρ7
  have hf := h.f4 (hd 4 (by omega) (by decide))
  have hno := fl_no (go_no hu 17 (by decide))
  have hob := h.at_.drop.drop.drop.drop.drop.drop.obj
  rw [hno] at hob
  simp only [Bool.false_eq_true, if_false] at hob
  show wpT Try.prog [LO.mk 1 (some 40) (.load 22 (.tmp 39)) 22 none] ρ' w' _
  simp [hf, cell_blk hob]
  refine ⟨fun t ht => ?_, by simpa using h.f0, by simpa using h.f1, by simpa using h.f4, by simp, by simpa using h.f8, by simpa using h.f9, by simpa using h.f10, by simpa using h.f11, by simpa using h.f14, by simpa using h.f16, by simpa using h.f18, ?_⟩
  · have := h.old t ht
    simp only [Env.put, Env.set]
    rw [if_neg (by omega)]
    exact this
  · have := h.at_
    simpa [GA, fl_add] using this
theorem go9 (hρ5 : ρ 5 = .pointer (some ⟨tb, 0, none⟩)) (hρ7 : ρ 7 = .int .i64 (v : Nat)) (hB : Lcl B) (hv : v ≤ 8) (hV : V.length ≤ 8) (hI : I.length ≤ 8) (hG : Gl.length ≤ 8) (hvo : oneC vv = true) (hno : oneC nv = true) (hgo : oneC gv = true) : GoStep tb v vv nv gv ov V I Gl B w0 ρ 9 := fun X ρ' w' hn hd hu h => by
  have s5 := (h.old 5 (by omega)).trans hρ5
  have s7 := (h.old 7 (by omega)).trans hρ7
  have hf := h.f8 (hd 8 (by omega) (by decide))
  have hno := fl_no (go_no hu 19 (by decide))
  have hob := h.at_.drop.drop.drop.drop.drop.drop.obj
  rw [hno] at hob
  simp only [Bool.false_eq_true, if_false] at hob
  show wpT Try.prog [LO.mk 1 (some 44) (.load 23 (.tmp 43)) 23 none] ρ' w' _
  simp [hf, cell_blk hob]
  refine ⟨fun t ht => ?_, by simpa using h.f0, by simpa using h.f1, by simpa using h.f4, by simpa using h.f5, by simpa using h.f8, by simp, by simpa using h.f10, by simpa using h.f11, by simpa using h.f14, by simpa using h.f16, by simpa using h.f18, ?_⟩
  · have := h.old t ht
    simp only [Env.put, Env.set]
    rw [if_neg (by omega)]
    exact this
  · have := h.at_
    simpa [GA, fl_add] using this
theorem go10 (hρ5 : ρ 5 = .pointer (some ⟨tb, 0, none⟩)) (hρ7 : ρ 7 = .int .i64 (v : Nat)) (hB : Lcl B) (hv : v ≤ 8) (hV : V.length ≤ 8) (hI : I.length ≤ 8) (hG : Gl.length ≤ 8) (hvo : oneC vv = true) (hno : oneC nv = true) (hgo : oneC gv = true) : GoStep tb v vv nv gv ov V I Gl B w0 ρ 10 := fun X ρ' w' hn hd hu h => by
  have s5 := (h.old 5 (by omega)).trans hρ5
  have s7 := (h.old 7 (by omega)).trans hρ7
  show wpT Try.prog [LO.mk 0 (some 45) (.move (.tmp 7)) 3 none] ρ' w' _
  simp [s7]
  refine ⟨fun t ht => ?_, by simpa using h.f0, by simpa using h.f1, by simpa using h.f4, by simpa using h.f5, by simpa using h.f8, by simpa using h.f9, by simp, by simpa using h.f11, by simpa using h.f14, by simpa using h.f16, by simpa using h.f18, ?_⟩
  · have := h.old t ht
    simp only [Env.put, Env.set]
    rw [if_neg (by omega)]
    exact this
  · have := h.at_
    simpa [GA, fl_add] using this
theorem go11 (hρ5 : ρ 5 = .pointer (some ⟨tb, 0, none⟩)) (hρ7 : ρ 7 = .int .i64 (v : Nat)) (hB : Lcl B) (hv : v ≤ 8) (hV : V.length ≤ 8) (hI : I.length ≤ 8) (hG : Gl.length ≤ 8) (hvo : oneC vv = true) (hno : oneC nv = true) (hgo : oneC gv = true) : GoStep tb v vv nv gv ov V I Gl B w0 ρ 11 := fun X ρ' w' hn hd hu h => by
  have s5 := (h.old 5 (by omega)).trans hρ5
  have s7 := (h.old 7 (by omega)).trans hρ7
  have hf := h.f10 (hd 10 (by omega) (by decide))
  show wpT Try.prog [LO.mk 0 (some 46) (.build 58 #[(0, .tmp 45), (1, .const (.int .i64 1))]) 58 none] ρ' w' _
  simp [hf]
  refine ⟨fun t ht => ?_, by simpa using h.f0, by simpa using h.f1, by simpa using h.f4, by simpa using h.f5, by simpa using h.f8, by simpa using h.f9, by simpa using h.f10, by simp, by simpa using h.f14, by simpa using h.f16, by simpa using h.f18, ?_⟩
  · have := h.old t ht
    simp only [Env.put, Env.set]
    rw [if_neg (by omega)]
    exact this
  · have := h.at_
    simpa [GA, fl_add] using this
theorem go2 (hρ5 : ρ 5 = .pointer (some ⟨tb, 0, none⟩)) (hρ7 : ρ 7 = .int .i64 (v : Nat)) (hB : Lcl B) (hv : v ≤ 8) (hV : V.length ≤ 8) (hI : I.length ≤ 8) (hG : Gl.length ≤ 8) (hvo : oneC vv = true) (hno : oneC nv = true) (hgo : oneC gv = true) : GoStep tb v vv nv gv ov V I Gl B w0 ρ 2 := fun X ρ' w' hn hd hu h => by
  have s5 := (h.old 5 (by omega)).trans hρ5
  have s7 := (h.old 7 (by omega)).trans hρ7
  have e2 := fl_no hn
  have at1 := h.at_
  unfold GA at at1
  simp only [e2, Bool.false_eq_true, if_false] at at1
  have at2 := (at1.by Imp.fr4).by Imp.dr
  have at3 := at2.lit (xs := [2]) (enc := nE) (E := 3) (sz := 1) (cs := #[.int .i64 2]) (m := 1) (by repeat' (first | exact hB | exact Lcl.own | exact Lcl.obj | exact Lcl.emp | apply Lcl.star | split)) (by simp [nE]) nE_len (by simp [maxLen]) rfl
  have at4 := at3.by Imp.bk4
  show wpT Try.prog [LO.mk 3 (some 37) (.buildSlice 22 1 #[(0, .const (.int .i64 2))]) 22 none] ρ' w' _
  simp [rowOf]
  refine ⟨fun t ht => by
    have := h.old t ht
    simp only [Env.put, Env.set]
    rw [if_neg (by omega)]
    exact this, by simpa using h.f0, by simpa using h.f1, by simpa using h.f4, by simpa using h.f5, by simpa using h.f8, by simpa using h.f9, by simpa using h.f10, by simpa using h.f11, by simpa using h.f14, by simpa using h.f16, by simpa using h.f18, ?_⟩
  unfold GA
  simpa [fl_add, e2] using at4
theorem go6 (hρ5 : ρ 5 = .pointer (some ⟨tb, 0, none⟩)) (hρ7 : ρ 7 = .int .i64 (v : Nat)) (hB : Lcl B) (hv : v ≤ 8) (hV : V.length ≤ 8) (hI : I.length ≤ 8) (hG : Gl.length ≤ 8) (hvo : oneC vv = true) (hno : oneC nv = true) (hgo : oneC gv = true) : GoStep tb v vv nv gv ov V I Gl B w0 ρ 6 := fun X ρ' w' hn hd hu h => by
  have s5 := (h.old 5 (by omega)).trans hρ5
  have s7 := (h.old 7 (by omega)).trans hρ7
  have e6 := fl_no hn
  have at1 := h.at_
  unfold GA at at1
  simp only [e6, Bool.false_eq_true, if_false] at at1
  have at2 := (at1.by Imp.fr5).by Imp.dr
  have at3 := at2.lit (xs := [0]) (enc := nE) (E := 3) (sz := 1) (cs := #[.int .i64 0]) (m := 1) (by repeat' (first | exact hB | exact Lcl.own | exact Lcl.obj | exact Lcl.emp | apply Lcl.star | split)) (by simp [nE]) nE_len (by simp [maxLen]) rfl
  have at4 := at3.by Imp.bk5
  show wpT Try.prog [LO.mk 3 (some 41) (.buildSlice 22 1 #[(0, .const (.int .i64 0))]) 22 none] ρ' w' _
  simp [rowOf]
  refine ⟨fun t ht => by
    have := h.old t ht
    simp only [Env.put, Env.set]
    rw [if_neg (by omega)]
    exact this, by simpa using h.f0, by simpa using h.f1, by simpa using h.f4, by simpa using h.f5, by simpa using h.f8, by simpa using h.f9, by simpa using h.f10, by simpa using h.f11, by simpa using h.f14, by simpa using h.f16, by simpa using h.f18, ?_⟩
  unfold GA
  simpa [fl_add, e6] using at4
theorem go12 (hρ5 : ρ 5 = .pointer (some ⟨tb, 0, none⟩)) (hρ7 : ρ 7 = .int .i64 (v : Nat)) (hB : Lcl B) (hv : v ≤ 8) (hV : V.length ≤ 8) (hI : I.length ≤ 8) (hG : Gl.length ≤ 8) (hvo : oneC vv = true) (hno : oneC nv = true) (hgo : oneC gv = true) : GoStep tb v vv nv gv ov V I Gl B w0 ρ 12 := fun X ρ' w' hn hd hu h => by
  have s5 := (h.old 5 (by omega)).trans hρ5
  have s7 := (h.old 7 (by omega)).trans hρ7
  have hf := h.f11 (hd 11 (by omega) (by decide))
  have e12 := fl_no hn
  have at1 := h.at_
  unfold GA at at1
  simp only [e12, Bool.false_eq_true, if_false] at at1
  have at2 := (at1.by Imp.fr6).by Imp.dr
  have at3 := at2.lit (xs := [((v, 1) : Fc)]) (enc := fcE) (E := 58) (sz := 2) (cs := #[.int .i64 (v : Nat), .int .i64 1]) (m := 1) (by repeat' (first | exact hB | exact Lcl.own | exact Lcl.obj | exact Lcl.emp | apply Lcl.star | split)) (by simp [fcE]) fcE_len (by simp [maxLen]) rfl
  have at4 := at3.by Imp.bk6
  show wpT Try.prog [LO.mk 3 (some 47) (.buildSlice 23 1 #[(0, .tmp 46)]) 23 none] ρ' w' _
  simp [rowOf, hf]
  refine ⟨fun t ht => by
    have := h.old t ht
    simp only [Env.put, Env.set]
    rw [if_neg (by omega)]
    exact this, by simpa using h.f0, by simpa using h.f1, by simpa using h.f4, by simpa using h.f5, by simpa using h.f8, by simpa using h.f9, by simpa using h.f10, by simpa using h.f11, by simpa using h.f14, by simpa using h.f16, by simpa using h.f18, ?_⟩
  unfold GA
  simpa [fl_add, e12] using at4
theorem go3 (hρ5 : ρ 5 = .pointer (some ⟨tb, 0, none⟩)) (hρ7 : ρ 7 = .int .i64 (v : Nat)) (hB : Lcl B) (hv : v ≤ 8) (hV : V.length ≤ 8) (hI : I.length ≤ 8) (hG : Gl.length ≤ 8) (hvo : oneC vv = true) (hno : oneC nv = true) (hgo : oneC gv = true) : GoStep tb v vv nv gv ov V I Gl B w0 ρ 3 := fun X ρ' w' hn hd hu h => by
  have s5 := (h.old 5 (by omega)).trans hρ5
  have s7 := (h.old 7 (by omega)).trans hρ7
  have hf := h.f1 (hd 1 (by omega) (by decide))
  have e3 := fl_no hn
  have el := fl_yes (hd 2 (by omega) (by decide))
  have es := fl_no (go_no hu 15 (by decide))
  have at1 := h.at_
  unfold GA at at1
  simp only [e3, el, es, Bool.false_eq_true, if_false, if_true] at at1
  have hlit := at1.drop.drop.drop.own.vw
  obtain ⟨u, hu2⟩ : ∃ u, ρ' 37 = u := ⟨_, rfl⟩
  rw [hu2] at hlit at1
  have at2 := at1
  show wpT Try.prog [LO.mk 2 (some 38) (.call (Call.mk (.builtin .append) #[.tmp 36, .tmp 37] #[22, 22])) 22 none] ρ' w' _
  simp [hf, hu2]
  refine At.appendV (by repeat' (first | exact hB | exact Lcl.own | exact Lcl.obj | exact Lcl.emp | apply Lcl.star | split)) at2 hlit nE_len nE_one sl_22 (by simp; omega) (by simp; unfold maxLen; omega) fun v' w2 at3 => ?_
  have at4 := at3
  simp
  refine ⟨fun t ht => by
    have := h.old t ht
    simp only [Env.put, Env.set]
    rw [if_neg (by omega)]
    exact this, by simpa using h.f0, by simpa using h.f1, by simpa using h.f4, by simpa using h.f5, by simpa using h.f8, by simpa using h.f9, by simpa using h.f10, by simpa using h.f11, by simpa using h.f14, by simpa using h.f16, by simpa using h.f18, ?_⟩
  unfold GA
  simpa [fl_add, e3, el, es, hu2] using at4
theorem go7 (hρ5 : ρ 5 = .pointer (some ⟨tb, 0, none⟩)) (hρ7 : ρ 7 = .int .i64 (v : Nat)) (hB : Lcl B) (hv : v ≤ 8) (hV : V.length ≤ 8) (hI : I.length ≤ 8) (hG : Gl.length ≤ 8) (hvo : oneC vv = true) (hno : oneC nv = true) (hgo : oneC gv = true) : GoStep tb v vv nv gv ov V I Gl B w0 ρ 7 := fun X ρ' w' hn hd hu h => by
  have s5 := (h.old 5 (by omega)).trans hρ5
  have s7 := (h.old 7 (by omega)).trans hρ7
  have hf := h.f5 (hd 5 (by omega) (by decide))
  have e7 := fl_no hn
  have el := fl_yes (hd 6 (by omega) (by decide))
  have es := fl_no (go_no hu 17 (by decide))
  have at1 := h.at_
  unfold GA at at1
  simp only [e7, el, es, Bool.false_eq_true, if_false, if_true] at at1
  have hlit := at1.drop.drop.drop.drop.own.vw
  obtain ⟨u, hu2⟩ : ∃ u, ρ' 41 = u := ⟨_, rfl⟩
  rw [hu2] at hlit at1
  have at2 := at1.by Imp.fr2
  show wpT Try.prog [LO.mk 2 (some 42) (.call (Call.mk (.builtin .append) #[.tmp 40, .tmp 41] #[22, 22])) 22 none] ρ' w' _
  simp [hf, hu2]
  refine At.appendV (by repeat' (first | exact hB | exact Lcl.own | exact Lcl.obj | exact Lcl.emp | apply Lcl.star | split)) at2 hlit nE_len nE_one sl_22 (by simp; omega) (by simp; unfold maxLen; omega) fun v' w2 at3 => ?_
  have at4 := at3.by Imp.bk2
  simp
  refine ⟨fun t ht => by
    have := h.old t ht
    simp only [Env.put, Env.set]
    rw [if_neg (by omega)]
    exact this, by simpa using h.f0, by simpa using h.f1, by simpa using h.f4, by simpa using h.f5, by simpa using h.f8, by simpa using h.f9, by simpa using h.f10, by simpa using h.f11, by simpa using h.f14, by simpa using h.f16, by simpa using h.f18, ?_⟩
  unfold GA
  simpa [fl_add, e7, el, es, hu2] using at4
theorem go13 (hρ5 : ρ 5 = .pointer (some ⟨tb, 0, none⟩)) (hρ7 : ρ 7 = .int .i64 (v : Nat)) (hB : Lcl B) (hv : v ≤ 8) (hV : V.length ≤ 8) (hI : I.length ≤ 8) (hG : Gl.length ≤ 8) (hvo : oneC vv = true) (hno : oneC nv = true) (hgo : oneC gv = true) : GoStep tb v vv nv gv ov V I Gl B w0 ρ 13 := fun X ρ' w' hn hd hu h => by
  have s5 := (h.old 5 (by omega)).trans hρ5
  have s7 := (h.old 7 (by omega)).trans hρ7
  have hf := h.f9 (hd 9 (by omega) (by decide))
  have e13 := fl_no hn
  have el := fl_yes (hd 12 (by omega) (by decide))
  have es := fl_no (go_no hu 19 (by decide))
  have at1 := h.at_
  unfold GA at at1
  simp only [e13, el, es, Bool.false_eq_true, if_false, if_true] at at1
  have hlit := at1.drop.drop.drop.drop.drop.own.vw
  obtain ⟨u, hu2⟩ : ∃ u, ρ' 47 = u := ⟨_, rfl⟩
  rw [hu2] at hlit at1
  have at2 := at1.by Imp.fr3
  show wpT Try.prog [LO.mk 2 (some 48) (.call (Call.mk (.builtin .append) #[.tmp 44, .tmp 47] #[23, 23])) 23 none] ρ' w' _
  simp [hf, hu2]
  refine At.appendV (by repeat' (first | exact hB | exact Lcl.own | exact Lcl.obj | exact Lcl.emp | apply Lcl.star | split)) at2 hlit fcE_len fcE_one sl_23 (by simp; omega) (by simp; unfold maxLen; omega) fun v' w2 at3 => ?_
  have at4 := at3.by Imp.bk3
  simp
  refine ⟨fun t ht => by
    have := h.old t ht
    simp only [Env.put, Env.set]
    rw [if_neg (by omega)]
    exact this, by simpa using h.f0, by simpa using h.f1, by simpa using h.f4, by simpa using h.f5, by simpa using h.f8, by simpa using h.f9, by simpa using h.f10, by simpa using h.f11, by simpa using h.f14, by simpa using h.f16, by simpa using h.f18, ?_⟩
  unfold GA
  simpa [fl_add, e13, el, es, hu2] using at4
theorem go15 (hρ5 : ρ 5 = .pointer (some ⟨tb, 0, none⟩)) (hρ7 : ρ 7 = .int .i64 (v : Nat)) (hB : Lcl B) (hv : v ≤ 8) (hV : V.length ≤ 8) (hI : I.length ≤ 8) (hG : Gl.length ≤ 8) (hvo : oneC vv = true) (hno : oneC nv = true) (hgo : oneC gv = true) : GoStep tb v vv nv gv ov V I Gl B w0 ρ 15 := fun X ρ' w' hn hd hu h => by
  have s5 := (h.old 5 (by omega)).trans hρ5
  have s7 := (h.old 7 (by omega)).trans hρ7
  have hf := h.f14 (hd 14 (by omega) (by decide))
  have e15 := fl_no hn
  have ea := fl_yes (hd 3 (by omega) (by decide))
  have at1 := h.at_
  unfold GA at at1
  simp only [e15, ea, Bool.false_eq_true, if_false, if_true] at at1
  have o1 := at1.own.o1
  have c1 := at1.own.c1
  have at2 := at1.by Imp.fr7
  show wpT Try.prog [LO.mk 2 none (.store 22 (.tmp 49) (.tmp 38)) 0 none] ρ' w' _
  simp [hf, c1]
  refine at2.st (by repeat' (first | exact hB | exact Lcl.own | exact Lcl.obj | exact Lcl.emp | apply Lcl.star | split)) (by simp) (by simp [o1]) fun w2 at3 => ?_
  have at4 := at3.by Imp.bk7
  simp
  refine ⟨h.old, by simpa using h.f0, by simpa using h.f1, by simpa using h.f4, by simpa using h.f5, by simpa using h.f8, by simpa using h.f9, by simpa using h.f10, by simpa using h.f11, by simpa using h.f14, by simpa using h.f16, by simpa using h.f18, ?_⟩
  unfold GA
  simpa [fl_add, e15, ea] using at4
theorem go17 (hρ5 : ρ 5 = .pointer (some ⟨tb, 0, none⟩)) (hρ7 : ρ 7 = .int .i64 (v : Nat)) (hB : Lcl B) (hv : v ≤ 8) (hV : V.length ≤ 8) (hI : I.length ≤ 8) (hG : Gl.length ≤ 8) (hvo : oneC vv = true) (hno : oneC nv = true) (hgo : oneC gv = true) : GoStep tb v vv nv gv ov V I Gl B w0 ρ 17 := fun X ρ' w' hn hd hu h => by
  have s5 := (h.old 5 (by omega)).trans hρ5
  have s7 := (h.old 7 (by omega)).trans hρ7
  have hf := h.f16 (hd 16 (by omega) (by decide))
  have e17 := fl_no hn
  have ea := fl_yes (hd 7 (by omega) (by decide))
  have at1 := h.at_
  unfold GA at at1
  simp only [e17, ea, Bool.false_eq_true, if_false, if_true] at at1
  have o1 := at1.drop.own.o1
  have c1 := at1.drop.own.c1
  have at2 := at1.by Imp.fr7
  show wpT Try.prog [LO.mk 2 none (.store 22 (.tmp 50) (.tmp 42)) 0 none] ρ' w' _
  simp [hf, c1]
  refine at2.st (by repeat' (first | exact hB | exact Lcl.own | exact Lcl.obj | exact Lcl.emp | apply Lcl.star | split)) (by simp) (by simp [o1]) fun w2 at3 => ?_
  have at4 := at3.by Imp.bk7
  simp
  refine ⟨h.old, by simpa using h.f0, by simpa using h.f1, by simpa using h.f4, by simpa using h.f5, by simpa using h.f8, by simpa using h.f9, by simpa using h.f10, by simpa using h.f11, by simpa using h.f14, by simpa using h.f16, by simpa using h.f18, ?_⟩
  unfold GA
  simpa [fl_add, e17, ea] using at4
theorem go19 (hρ5 : ρ 5 = .pointer (some ⟨tb, 0, none⟩)) (hρ7 : ρ 7 = .int .i64 (v : Nat)) (hB : Lcl B) (hv : v ≤ 8) (hV : V.length ≤ 8) (hI : I.length ≤ 8) (hG : Gl.length ≤ 8) (hvo : oneC vv = true) (hno : oneC nv = true) (hgo : oneC gv = true) : GoStep tb v vv nv gv ov V I Gl B w0 ρ 19 := fun X ρ' w' hn hd hu h => by
  have s5 := (h.old 5 (by omega)).trans hρ5
  have s7 := (h.old 7 (by omega)).trans hρ7
  have hf := h.f18 (hd 18 (by omega) (by decide))
  have e19 := fl_no hn
  have ea := fl_yes (hd 13 (by omega) (by decide))
  have at1 := h.at_
  unfold GA at at1
  simp only [e19, ea, Bool.false_eq_true, if_false, if_true] at at1
  have o1 := at1.drop.drop.own.o1
  have c1 := at1.drop.drop.own.c1
  have at2 := at1.by Imp.fr7
  show wpT Try.prog [LO.mk 2 none (.store 23 (.tmp 51) (.tmp 48)) 0 none] ρ' w' _
  simp [hf, c1]
  refine at2.st (by repeat' (first | exact hB | exact Lcl.own | exact Lcl.obj | exact Lcl.emp | apply Lcl.star | split)) (by simp) (by simp [o1]) fun w2 at3 => ?_
  have at4 := at3.by Imp.bk7
  simp
  refine ⟨h.old, by simpa using h.f0, by simpa using h.f1, by simpa using h.f4, by simpa using h.f5, by simpa using h.f8, by simpa using h.f9, by simpa using h.f10, by simpa using h.f11, by simpa using h.f14, by simpa using h.f16, by simpa using h.f18, ?_⟩
  unfold GA
  simpa [fl_add, e19, ea] using at4
end
end Go.Proofs.Ytcplpogmbacnfaa
end
