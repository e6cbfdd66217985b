/-
  Proved: the statement RelaxReachedSaid: for every input the law returns true and leaves its arguments as they were (Reached says whether the goal can be reached without the operators of the list).
  Conditions: none beyond the statement's own.
-/
import Derived.Test.YtjpbkljnllkneaaRxZA
set_option maxRecDepth 100000
set_option linter.unusedSimpArgs false
set_option linter.unusedVariables false
namespace Go.Proofs.Ytjpbkljnllkneaa
open Go Go.W Go.Tk Go.Rx Go.ChangeShapes Go.WideShapes Go.ChangeAt Go.RowKit
theorem reached_lifted (os : Os) (started : os.Started) (H : Type) (enc : TypeId × Value → H) :
    ReturnsInHanded {} Try.checked os 5 .any (Rows.relaxReachedSpec.pre6 enc Try.prog Try.f5 Rows.relaxReachedRow.domain false) (Rows.relaxReachedSpec.post enc Try.prog Try.f5 false true false false) := by
  refine law_lift (C := Try.checked) own started (by kernel_rfl) Try.func5
    (ChangeSpec.witness6 (enc := enc) (C := Try.checked) false ⟨#[], #[.agg #[.slice none 0 0, .slice none 0 0, .slice none 0 0, .slice none 0 0], .slice none 0 0], []⟩ 8 (by kernel_rfl) (by kernel_rfl) (by kernel_rfl) (by kernel_rfl))
    laidOut (by kernel_rfl) (by kernel_rfl) Try.underlying4 rfl ?_
  intro W base args ds ps hval hA hsz
  have hp : Try.f5.params = #[26, 22] := by kernel_rfl
  rw [hp] at hA hval hsz
  obtain ⟨v0, v1, d0, d1, p0, p1, rfl, rfl, rfl, h0, h1⟩ := trodAll_two hA
  obtain ⟨t0, rfl, r0, l0⟩ := open_task (hval 0 26 v0 rfl rfl) h0
  obtain ⟨x1, r1, z1, n1⟩ := open_ints (hval 1 22 v1 rfl rfl) h1
  exact ⟨rfl, law_reached t0 v1 x1 r0 l0 r1 z1 n1⟩
theorem reached_holds : Rows.RelaxReachedSaid :=
  OpenClaim.holds_of_wide 5 Try.f5 rfl rfl rfl rfl rfl rfl rfl ⟨rfl, rfl, rfl, rfl, rfl⟩ rfl rfl rfl rfl rfl (by kernel_rfl) Try.func5 (by kernel_rfl)
    (of_decide_eq_true (by kernel_rfl)) (by unfold Func.isWrapper; first | (rw [if_pos (by decide +kernel)]; kernel_rfl) | (rw [if_neg (by decide +kernel)]; exact ⟨rfl, rfl⟩))
    (fun os started H enc _ => reached_lifted os started H enc)
end Go.Proofs.Ytjpbkljnllkneaa
