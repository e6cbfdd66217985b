/-
  Proved: the statement BddErrorsSaid: for every input the law returns true and leaves its arguments as they were (references, variables and limits that do not exist are refused; missing bits are false).
  Conditions: none beyond the statement's own.
-/
import Derived.Test.YtkojilpjpdpmaaaRBdOpen
import Derived.Test.YtkojilpjpdpmaaaRBdLE
set_option maxRecDepth 100000
set_option linter.unusedSimpArgs false
set_option linter.unusedVariables false
namespace Go.Proofs.YtkojilpjpdpmaaaR
open Go Go.W Go.Bd Go.ChangeShapes Go.WideShapes Go.ChangeAt Go.RowKit
theorem errors_lifted (os : Os) (started : os.Started) (H : Type) (enc : TypeId × Value → H) :
    ReturnsInHanded {} Try.checked os 10 .any (Rows.bddErrorsSpec.pre6 enc Try.prog Try.f10 Rows.bddErrorsRow.domain false) (Rows.bddErrorsSpec.post enc Try.prog Try.f10 false true false false) := by
  refine law_lift (C := Try.checked) own started (by kernel_rfl) Try.func10
    (ChangeSpec.witness6 (enc := enc) (C := Try.checked) false ⟨#[], #[.int .i64 0, .int .i64 0, .int .i64 0, .int .i64 0], []⟩ 8 (by kernel_rfl) (by kernel_rfl) (by kernel_rfl) (by kernel_rfl))
    laidOut (by kernel_rfl) (by kernel_rfl) Try.underlying4 rfl ?_
  intro W base args ds ps hval hA hsz
  have hp : Try.f10.params = #[3, 3, 3, 3] := by kernel_rfl
  rw [hp] at hA hval hsz
  obtain ⟨v0, v1, v2, v3, d0, d1, d2, d3, p0, p1, p2, p3, rfl, rfl, h0, h1, h2, h3⟩ := four hA
  obtain ⟨a, rfl, wa⟩ := open_int (hval 0 3 v0 rfl rfl) h0
  obtain ⟨b, rfl, wb⟩ := open_int (hval 1 3 v1 rfl rfl) h1
  obtain ⟨c, rfl, wc⟩ := open_int (hval 2 3 v2 rfl rfl) h2
  obtain ⟨d, rfl, wd⟩ := open_int (hval 3 3 v3 rfl rfl) h3
  exact ⟨rfl, law_errors a b c d W⟩
theorem errors_holds : Rows.BddErrorsSaid :=
  OpenClaim.holds_of_wide 10 Try.f10 rfl rfl rfl rfl rfl rfl rfl ⟨rfl, rfl, rfl, rfl, rfl⟩ rfl rfl rfl rfl rfl (by kernel_rfl) Try.func10 (by kernel_rfl)
    (of_decide_eq_true (by kernel_rfl)) (by unfold Func.isWrapper; first | (rw [if_pos (by decide +kernel)]; kernel_rfl) | (rw [if_neg (by decide +kernel)]; exact ⟨rfl, rfl⟩))
    (fun os started H enc _ => errors_lifted os started H enc)
end Go.Proofs.YtkojilpjpdpmaaaR
