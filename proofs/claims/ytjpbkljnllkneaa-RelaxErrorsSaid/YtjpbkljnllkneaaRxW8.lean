/-
  A part of the proofs of this seat's statements (RxW8); no conditions beyond those each theorem names.
-/
import Derived.Test.YtjpbkljnllkneaaRxW7
set_option maxRecDepth 100000
set_option linter.unusedSimpArgs false
set_option linter.unusedVariables false
namespace Go.Proofs.Ytjpbkljnllkneaa
open Go Go.W Go.Tk Go.Rx Go.Maps
/-- Sizes. -/
structure Sm (vars : List Nat) (U : List Un) : Prop where
  un : UnOk U vars.sum
  vl : vars.length ≤ 12
  sm : vars.sum ≤ 768
  ul : U.length ≤ 160
/-- A state. -/
structure StN (vars s : List Nat) : Prop where
  len : s.length = vars.length
  rng : ∀ v, v < vars.length → s.getD v 0 < vars.getD v 0
theorem iN_at {l : List Nat} {j : Nat} : (l.map iN).getD j 0 = ((l.getD j 0 : Nat) : Int) := by
  simp only [List.getD, List.getElem?_map]
  cases l[j]? <;> simp [iN]
theorem StN.ok {vars s : List Nat} (h : StN vars s) : stateB (vars.map iN) (s.map iN) = true := by
  unfold stateB
  rw [allR_true fun j hj => ?_]
  · simp [h.len]
  · unfold stAt
    rw [iN_at, iN_at]
    simp at hj
    have := h.rng j (by rw [← h.len]; exact hj)
    simp only [Bool.and_eq_true, decide_eq_true_eq]
    omega
theorem allow_all (U : List Un) : allow (fun _ => true) U = U := by simp [allow]
theorem LkP.none {w : World} : LkP w (.map none) (fun _ => true) := .inl ⟨rfl, fun _ => rfl⟩
theorem tabN_Z (N : Nat) (V : Nat → Nat) : (tabN N V).map iN = tabZ N fun f => (V f : Int) := by unfold tabN tabZ; rw [List.map_map]; rfl
section
variable {w : World} {b : Nat} {vars : List Nat} {goal : List Fc} {U : List Un} {vv gv fv uv nd fr : Value} {rs : List Ru} {ps : List (Cell1 × List Nat)}
theorem facts_ok (sv : Value) (s : List Nat) (hR : RlR b vars goal U vv gv fv uv nd fr rs ps w) (hs : Vw w sv nE s) (hst : StN vars s) (hS : Sm vars U) :
    Calls Try.prog 29 [.pointer (some ⟨b, 0, none⟩), sv].toArray w fun e w' => ∃ u, e = .returned u ∧ ∃ V, IsVal U (stN vars s vars.length) V ∧ Kp [] w w' ∧ LLV iE w' u (tbI vars fun f => (V f : Int)) := by
  refine enter Try.func29 mixed low29 (Nat.le_of_ble_eq_true rfl) ?_
  simp only [L29]
  have hvl := hS.vl
  have hlen := hst.len
  simp [cell_blk hR.obj]
  refine cl_of (tproper_spec vv sv _ _ (vw_n.2 hR.vvw) (vw_n.2 hs) (by simp; omega)) ?_
  rintro _ w2 ⟨rfl, k2⟩
  rw [hst.ok]
  simp
  refine cl_of (values_spec sv (.map none) s (fun _ => true) (hR.kp k2) (hs.kp0 k2) .none hlen hst.rng hS.un hS.vl hS.sm hS.ul) ?_
  rintro u w3 ⟨V, hV, n3⟩
  rw [allow_all] at hV
  have k3 := k2.trans n3.kp
  have hv3 := vw_n.2 n3.own.vw
  rw [tabN_Z] at hv3
  simp
  refine cl_of (split_spec u _ (hR.kp k3) hv3 hS.vl hS.sm) ?_
  rintro u4 w4 ⟨k4, h4⟩
  simp
  exact ⟨V, hV, k3.trans k4, h4⟩
end
end Go.Proofs.Ytjpbkljnllkneaa
