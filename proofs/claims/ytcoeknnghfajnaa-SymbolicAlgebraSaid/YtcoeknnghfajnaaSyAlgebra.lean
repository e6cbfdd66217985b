/-
  Proved: the statement SymbolicAlgebraSaid: for every input the law returns true and leaves its arguments as they were (complements, differences and intersections of sets of states fit together; the counts of the values of a variable add up).
  Conditions: none beyond the statement's own.
-/
import Derived.Test.YtcoeknnghfajnaaPk28
import Derived.Test.YtcoeknnghfajnaaPk29
set_option maxRecDepth 100000
set_option linter.unusedSimpArgs false
set_option linter.unusedVariables false
namespace Go.Proofs.Ytcoeknnghfajnaa
open Go Go.W Go.Tk Go.Rx Go.Bd Go.Sy Go.ChangeShapes Go.WideShapes Go.ChangeAt Go.RowKit
section
variable {H : Type} {enc : TypeId × Value → H}
theorem sopen_facts {W : World} {b : Nat} {v : Value} {d : DataW H} {ps : List MemPlace} (hv : Value.okWide Try.prog W .any b 23 v) (h : DataW.Trod enc Try.prog W 0 (fun _ => true) true 23 v d ps) : ∃ l : List Fa, Vw W v faE l ∧ l.length ≤ 9223372036854775807 := by
  obtain ⟨a0, n0, c0, rfl⟩ := okWide_slice Try.underlying23 hv
  obtain ⟨n, h⟩ := h
  exact el_facts (n := n) (c := .slice a0 n0 c0) h
end
theorem salgebra_lifted (os : Os) (started : os.Started) (H : Type) (enc : TypeId × Value → H) :
    ReturnsInHanded {} Try.checked os 3 .any (Rows.symbolicAlgebraSpec.pre6 enc Try.prog Try.f3 Rows.symbolicAlgebraRow.domain false) (Rows.symbolicAlgebraSpec.post enc Try.prog Try.f3 false true false false) := by
  refine law_lift (C := Try.checked) own started (by kernel_rfl) Try.func3
    (ChangeSpec.witness6 (enc := enc) (C := Try.checked) false ⟨#[], #[.agg #[.slice none 0 0, .slice none 0 0, .slice none 0 0, .slice none 0 0], .slice none 0 0, .slice none 0 0], []⟩ 8 (by kernel_rfl) (by kernel_rfl) (by kernel_rfl) (by kernel_rfl))
    laidOut (by kernel_rfl) (by kernel_rfl) Try.underlying4 rfl ?_
  intro W base args ds ps hval hA hsz
  have hp : Try.f3.params = #[26, 23, 23] := by kernel_rfl
  rw [hp] at hA hval hsz
  obtain ⟨v0, v1, v2, d0, d1, d2, p0, p1, p2, rfl, rfl, rfl, h0, h1, h2⟩ := trodAll_three hA
  obtain ⟨t0, rfl, r0, l0⟩ := open_task (hval 0 26 v0 rfl rfl) h0
  obtain ⟨l1, r1, n1⟩ := sopen_facts (hval 1 23 v1 rfl rfl) h1
  obtain ⟨l2, r2, n2⟩ := sopen_facts (hval 2 23 v2 rfl rfl) h2
  exact ⟨rfl, law_salgebra t0 v1 v2 l1 l2 r0 l0 r1 r2 n1 n2⟩
theorem salgebra_holds : Rows.SymbolicAlgebraSaid :=
  OpenClaim.holds_of_wide 3 Try.f3 rfl rfl rfl rfl rfl rfl rfl ⟨rfl, rfl, rfl, rfl, rfl⟩ rfl rfl rfl rfl rfl (by kernel_rfl) Try.func3 (by kernel_rfl)
    (of_decide_eq_true (by kernel_rfl)) (by unfold Func.isWrapper; first | (rw [if_pos (by decide +kernel)]; kernel_rfl) | (rw [if_neg (by decide +kernel)]; exact ⟨rfl, rfl⟩))
    (fun os started H enc _ => salgebra_lifted os started H enc)
end Go.Proofs.Ytcoeknnghfajnaa
