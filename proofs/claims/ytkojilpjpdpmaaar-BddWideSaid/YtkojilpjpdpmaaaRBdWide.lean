/-
  Proved: the statement BddWideSaid: for every input the law returns true and leaves its arguments as they were (the conjunction of the even variables and the parity of some: their sizes, supports and counts).
  Conditions: none beyond the statement's own.
-/
import Derived.Test.YtkojilpjpdpmaaaRBdOpen
import Derived.Test.YtkojilpjpdpmaaaRBdLW
set_option maxRecDepth 100000
set_option linter.unusedSimpArgs false
set_option linter.unusedVariables false
namespace Go.Proofs.YtkojilpjpdpmaaaR
open Go Go.W Go.Bd Go.ChangeShapes Go.WideShapes Go.ChangeAt Go.RowKit
theorem wide_lifted (os : Os) (started : os.Started) (H : Type) (enc : TypeId × Value → H) :
    ReturnsInHanded {} Try.checked os 4 .any (Rows.bddWideSpec.pre6 enc Try.prog Try.f4 Rows.bddWideRow.domain false) (Rows.bddWideSpec.post enc Try.prog Try.f4 false true false false) := by
  refine law_lift (C := Try.checked) own started (by kernel_rfl) Try.func4
    (ChangeSpec.witness6 (enc := enc) (C := Try.checked) false ⟨#[], #[.int .u8 0, .int .u8 0], []⟩ 8 (by kernel_rfl) (by kernel_rfl) (by kernel_rfl) (by kernel_rfl))
    laidOut (by kernel_rfl) (by kernel_rfl) Try.underlying4 rfl ?_
  intro W base args ds ps hval hA hsz
  have hp : Try.f4.params = #[5, 5] := by kernel_rfl
  rw [hp] at hA hval hsz
  obtain ⟨v0, v1, d0, d1, p0, p1, rfl, rfl, rfl, h0, h1⟩ := trodAll_two hA
  obtain ⟨a, rfl, wa⟩ := open_u8 (hval 0 5 v0 rfl rfl) h0
  obtain ⟨b, rfl, wb⟩ := open_u8 (hval 1 5 v1 rfl rfl) h1
  exact ⟨rfl, law_wide a b wa wb W⟩
theorem wide_holds : Rows.BddWideSaid :=
  OpenClaim.holds_of_wide 4 Try.f4 rfl rfl rfl rfl rfl rfl rfl ⟨rfl, rfl, rfl, rfl, rfl⟩ rfl rfl rfl rfl rfl (by kernel_rfl) Try.func4 (by kernel_rfl)
    (of_decide_eq_true (by kernel_rfl)) (by unfold Func.isWrapper; first | (rw [if_pos (by decide +kernel)]; kernel_rfl) | (rw [if_neg (by decide +kernel)]; exact ⟨rfl, rfl⟩))
    (fun os started H enc _ => wide_lifted os started H enc)
end Go.Proofs.YtkojilpjpdpmaaaR
