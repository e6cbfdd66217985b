/-
  Proved: the statement LmcutGoalsSaid: for every input the law returns true and leaves its arguments as they were (independent goals are added up).
  Conditions: none beyond the statement's own.
-/
import Derived.Test.YtcplpogmbacnfaaPk17
import Derived.Test.YtcplpogmbacnfaaPk18
set_option maxRecDepth 100000
set_option linter.unusedSimpArgs false
set_option linter.unusedVariables false
namespace Go.Proofs.Ytcplpogmbacnfaa
open Go Go.W Go.Tk Go.Rx Go.Lm Go.ChangeShapes Go.WideShapes Go.ChangeAt Go.RowKit
theorem lmgoals_lifted (os : Os) (started : os.Started) (H : Type) (enc : TypeId × Value → H) :
    ReturnsInHanded {} Try.checked os 7 .any (Rows.lmcutGoalsSpec.pre6 enc Try.prog Try.f7 Rows.lmcutGoalsRow.domain false) (Rows.lmcutGoalsSpec.post enc Try.prog Try.f7 false true false false) := by
  refine law_lift (C := Try.checked) own started (by kernel_rfl) Try.func7
    (ChangeSpec.witness6 (enc := enc) (C := Try.checked) false ⟨#[], #[.slice none 0 0, .slice none 0 0], []⟩ 8 (by kernel_rfl) (by kernel_rfl) (by kernel_rfl) (by kernel_rfl))
    laidOut (by kernel_rfl) (by kernel_rfl) Try.underlying4 rfl ?_
  intro W base args ds ps hval hA hsz
  have hp : Try.f7.params = #[55, 55] := by kernel_rfl
  rw [hp] at hA hval hsz
  obtain ⟨v0, v1, d0, d1, p0, p1, rfl, rfl, rfl, h0, h1⟩ := trodAll_two hA
  obtain ⟨x0, r0, z0, n0⟩ := open_u16s (hval 0 55 v0 rfl rfl) h0
  obtain ⟨x1, r1, z1, n1⟩ := open_u16s (hval 1 55 v1 rfl rfl) h1
  exact ⟨rfl, law_lmgoals v0 v1 x0 x1 r0 z0 n0 r1 z1 n1⟩
theorem lmgoals_holds : Rows.LmcutGoalsSaid :=
  OpenClaim.holds_of_wide 7 Try.f7 rfl rfl rfl rfl rfl rfl rfl ⟨rfl, rfl, rfl, rfl, rfl⟩ rfl rfl rfl rfl rfl (by kernel_rfl) Try.func7 (by kernel_rfl)
    (of_decide_eq_true (by kernel_rfl)) (by unfold Func.isWrapper; first | (rw [if_pos (by decide +kernel)]; kernel_rfl) | (rw [if_neg (by decide +kernel)]; exact ⟨rfl, rfl⟩))
    (fun os started H enc _ => lmgoals_lifted os started H enc)
end Go.Proofs.Ytcplpogmbacnfaa
