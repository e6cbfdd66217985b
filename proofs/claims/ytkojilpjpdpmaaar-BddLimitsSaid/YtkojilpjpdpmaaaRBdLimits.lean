/-
  Proved: the statement BddLimitsSaid: for every input the law returns true and leaves its arguments as they were (with any limit of nodes an operation returns the right function or ErrFull, the limit is never passed, and all references that were returned stay right).
  Conditions: none beyond the statement's own.
-/
import Derived.Test.YtkojilpjpdpmaaaRBdOpenA
import Derived.Test.YtkojilpjpdpmaaaRBdLL
set_option maxRecDepth 100000
set_option linter.unusedSimpArgs false
set_option linter.unusedVariables false
namespace Go.Proofs.YtkojilpjpdpmaaaR
open Go Go.W Go.Bd Go.ChangeShapes Go.WideShapes Go.ChangeAt Go.RowKit
theorem limits_lifted (os : Os) (started : os.Started) (H : Type) (enc : TypeId × Value → H) :
    ReturnsInHanded {} Try.checked os 7 .any (Rows.bddLimitsSpec.pre6 enc Try.prog Try.f7 Rows.bddLimitsRow.domain false) (Rows.bddLimitsSpec.post enc Try.prog Try.f7 false true false false) := by
  refine law_lift (C := Try.checked) own started (by kernel_rfl) Try.func7
    (ChangeSpec.witness6 (enc := enc) (C := Try.checked) false ⟨#[], #[.int .u8 0, .int .u8 0, .slice none 0 0], []⟩ 8 (by kernel_rfl) (by kernel_rfl) (by kernel_rfl) (by kernel_rfl))
    laidOut (by kernel_rfl) (by kernel_rfl) Try.underlying4 rfl ?_
  intro W base args ds ps hval hA hsz
  have hp : Try.f7.params = #[5, 5, 46] := by kernel_rfl
  rw [hp] at hA hval hsz
  obtain ⟨v0, v1, v2, d0, d1, d2, p0, p1, p2, rfl, rfl, rfl, h0, h1, h2⟩ := trodAll_three hA
  obtain ⟨a, rfl, wa⟩ := open_u8 (hval 0 5 v0 rfl rfl) h0
  obtain ⟨b, rfl, wb⟩ := open_u8 (hval 1 5 v1 rfl rfl) h1
  obtain ⟨l, hl, ol⟩ := open_acts (hval 2 46 v2 rfl rfl) h2
  exact ⟨rfl, law_limits a b v2 l wa wb hl ol⟩
theorem limits_holds : Rows.BddLimitsSaid :=
  OpenClaim.holds_of_wide 7 Try.f7 rfl rfl rfl rfl rfl rfl rfl ⟨rfl, rfl, rfl, rfl, rfl⟩ rfl rfl rfl rfl rfl (by kernel_rfl) Try.func7 (by kernel_rfl)
    (of_decide_eq_true (by kernel_rfl)) (by unfold Func.isWrapper; first | (rw [if_pos (by decide +kernel)]; kernel_rfl) | (rw [if_neg (by decide +kernel)]; exact ⟨rfl, rfl⟩))
    (fun os started H enc _ => limits_lifted os started H enc)
end Go.Proofs.YtkojilpjpdpmaaaR
