/-
  Proved: the statement BddCubesSaid: for every input the law returns true and leaves its arguments as they were (Cubes returns the paths in order, as many as permitted; they exclude each other, and cover exactly the assignments for which the function is true).
  Conditions: none beyond the statement's own.
-/
import Derived.Test.YtkojilpjpdpmaaaRBdOpenA
import Derived.Test.YtkojilpjpdpmaaaRBdLC
set_option maxRecDepth 100000
set_option linter.unusedSimpArgs false
set_option linter.unusedVariables false
namespace Go.Proofs.YtkojilpjpdpmaaaR
open Go Go.W Go.Bd Go.ChangeShapes Go.WideShapes Go.ChangeAt Go.RowKit
theorem cubes_lifted (os : Os) (started : os.Started) (H : Type) (enc : TypeId × Value → H) :
    ReturnsInHanded {} Try.checked os 9 .any (Rows.bddCubesSpec.pre6 enc Try.prog Try.f9 Rows.bddCubesRow.domain false) (Rows.bddCubesSpec.post enc Try.prog Try.f9 false true false false) := by
  refine law_lift (C := Try.checked) own started (by kernel_rfl) Try.func9
    (ChangeSpec.witness6 (enc := enc) (C := Try.checked) false ⟨#[], #[.int .u8 0, .slice none 0 0, .int .u8 0], []⟩ 8 (by kernel_rfl) (by kernel_rfl) (by kernel_rfl) (by kernel_rfl))
    laidOut (by kernel_rfl) (by kernel_rfl) Try.underlying4 rfl ?_
  intro W base args ds ps hval hA hsz
  have hp : Try.f9.params = #[5, 46, 5] := by kernel_rfl
  rw [hp] at hA hval hsz
  obtain ⟨v0, v1, v2, d0, d1, d2, p0, p1, p2, rfl, rfl, rfl, h0, h1, h2⟩ := trodAll_three hA
  obtain ⟨a, rfl, wa⟩ := open_u8 (hval 0 5 v0 rfl rfl) h0
  obtain ⟨l, hl, ol⟩ := open_acts (hval 1 46 v1 rfl rfl) h1
  obtain ⟨b, rfl, wb⟩ := open_u8 (hval 2 5 v2 rfl rfl) h2
  exact ⟨rfl, law_cubes a b v1 l wa wb hl ol⟩
theorem cubes_holds : Rows.BddCubesSaid :=
  OpenClaim.holds_of_wide 9 Try.f9 rfl rfl rfl rfl rfl rfl rfl ⟨rfl, rfl, rfl, rfl, rfl⟩ rfl rfl rfl rfl rfl (by kernel_rfl) Try.func9 (by kernel_rfl)
    (of_decide_eq_true (by kernel_rfl)) (by unfold Func.isWrapper; first | (rw [if_pos (by decide +kernel)]; kernel_rfl) | (rw [if_neg (by decide +kernel)]; exact ⟨rfl, rfl⟩))
    (fun os started H enc _ => cubes_lifted os started H enc)
end Go.Proofs.YtkojilpjpdpmaaaR
