/-
  Proved: the statement LmcutErrorsSaid: for every input the law returns true and leaves its arguments as they were (wrong tasks and states, and a nil heuristic).
  Conditions: none beyond the statement's own.
-/
import Derived.Test.YtcplpogmbacnfaaLmZA
set_option maxRecDepth 100000
set_option linter.unusedSimpArgs false
set_option linter.unusedVariables false
namespace Go.Proofs.Ytcplpogmbacnfaa
open Go Go.W Go.Tk Go.Rx Go.Lm Go.ChangeShapes Go.WideShapes Go.ChangeAt Go.RowKit
theorem lmerrors_lifted (os : Os) (started : os.Started) (H : Type) (enc : TypeId × Value → H) :
    ReturnsInHanded {} Try.checked os 8 .any (Rows.lmcutErrorsSpec.pre6 enc Try.prog Try.f8 Rows.lmcutErrorsRow.domain false) (Rows.lmcutErrorsSpec.post enc Try.prog Try.f8 false true false false) := by
  refine law_lift (C := Try.checked) own started (by kernel_rfl) Try.func8
    (ChangeSpec.witness6 (enc := enc) (C := Try.checked) false ⟨#[], #[.agg #[.slice none 0 0, .slice none 0 0, .slice none 0 0, .slice none 0 0], .slice none 0 0], []⟩ 8 (by kernel_rfl) (by kernel_rfl) (by kernel_rfl) (by kernel_rfl))
    laidOut (by kernel_rfl) (by kernel_rfl) Try.underlying4 rfl ?_
  intro W base args ds ps hval hA hsz
  have hp : Try.f8.params = #[26, 22] := by kernel_rfl
  rw [hp] at hA hval hsz
  obtain ⟨v0, v1, d0, d1, p0, p1, rfl, rfl, rfl, h0, h1⟩ := trodAll_two hA
  obtain ⟨t0, rfl, r0, l0⟩ := open_task (hval 0 26 v0 rfl rfl) h0
  obtain ⟨x1, r1, z1, n1⟩ := open_ints (hval 1 22 v1 rfl rfl) h1
  exact ⟨rfl, law_lmerrors t0 v1 x1 r0 l0 r1 n1⟩
theorem lmerrors_holds : Rows.LmcutErrorsSaid :=
  OpenClaim.holds_of_wide 8 Try.f8 rfl rfl rfl rfl rfl rfl rfl ⟨rfl, rfl, rfl, rfl, rfl⟩ rfl rfl rfl rfl rfl (by kernel_rfl) Try.func8 (by kernel_rfl)
    (of_decide_eq_true (by kernel_rfl)) (by unfold Func.isWrapper; first | (rw [if_pos (by decide +kernel)]; kernel_rfl) | (rw [if_neg (by decide +kernel)]; exact ⟨rfl, rfl⟩))
    (fun os started H enc _ => lmerrors_lifted os started H enc)
end Go.Proofs.Ytcplpogmbacnfaa
