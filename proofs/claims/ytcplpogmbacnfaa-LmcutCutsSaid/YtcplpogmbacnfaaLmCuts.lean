/-
  Proved: the statement LmcutCutsSaid: for every input the law returns true and leaves its arguments as they were (the cuts of states are those of the document, and the value is the sum of their costs).
  Conditions: none beyond the statement's own.
-/
import Derived.Test.YtcplpogmbacnfaaPk20
import Derived.Test.YtcplpogmbacnfaaPk23
set_option maxRecDepth 100000
set_option linter.unusedSimpArgs false
set_option linter.unusedVariables false
namespace Go.Proofs.Ytcplpogmbacnfaa
open Go Go.W Go.Tk Go.Rx Go.Lm Go.ChangeShapes Go.WideShapes Go.ChangeAt Go.RowKit
theorem lmcuts_lifted (os : Os) (started : os.Started) (H : Type) (enc : TypeId × Value → H) :
    ReturnsInHanded {} Try.checked os 3 .any (Rows.lmcutCutsSpec.pre6 enc Try.prog Try.f3 Rows.lmcutCutsRow.domain false) (Rows.lmcutCutsSpec.post enc Try.prog Try.f3 false true false false) := by
  refine law_lift (C := Try.checked) own started (by kernel_rfl) Try.func3
    (ChangeSpec.witness6 (enc := enc) (C := Try.checked) false ⟨#[], #[.agg #[.slice none 0 0, .slice none 0 0, .slice none 0 0, .slice none 0 0]], []⟩ 8 (by kernel_rfl) (by kernel_rfl) (by kernel_rfl) (by kernel_rfl))
    laidOut (by kernel_rfl) (by kernel_rfl) Try.underlying4 rfl ?_
  intro W base args ds ps hval hA hsz
  have hp : Try.f3.params = #[26] := by kernel_rfl
  rw [hp] at hA hval hsz
  obtain ⟨v0, d0, rfl, rfl, h0⟩ := trodAll_one hA
  obtain ⟨t0, rfl, r0, l0⟩ := open_task (hval 0 26 v0 rfl rfl) h0
  exact ⟨rfl, law_lmcuts t0 r0 l0⟩
theorem lmcuts_holds : Rows.LmcutCutsSaid :=
  OpenClaim.holds_of_wide 3 Try.f3 rfl rfl rfl rfl rfl rfl rfl ⟨rfl, rfl, rfl, rfl, rfl⟩ rfl rfl rfl rfl rfl (by kernel_rfl) Try.func3 (by kernel_rfl)
    (of_decide_eq_true (by kernel_rfl)) (by unfold Func.isWrapper; first | (rw [if_pos (by decide +kernel)]; kernel_rfl) | (rw [if_neg (by decide +kernel)]; exact ⟨rfl, rfl⟩))
    (fun os started H enc _ => lmcuts_lifted os started H enc)
end Go.Proofs.Ytcplpogmbacnfaa
