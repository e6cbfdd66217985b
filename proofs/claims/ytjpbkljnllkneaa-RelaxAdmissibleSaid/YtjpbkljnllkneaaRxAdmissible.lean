/-
  Proved: the statement RelaxAdmissibleSaid: for every input the law returns true and leaves its arguments as they were (Max is never greater than the least cost of a plan).
  Conditions: none beyond the statement's own.
-/
import Derived.Test.YtjpbkljnllkneaaRxZA
set_option maxRecDepth 100000
set_option linter.unusedSimpArgs false
set_option linter.unusedVariables false
namespace Go.Proofs.Ytjpbkljnllkneaa
open Go Go.W Go.Tk Go.Rx Go.ChangeShapes Go.WideShapes Go.ChangeAt Go.RowKit
theorem admissible_lifted (os : Os) (started : os.Started) (H : Type) (enc : TypeId × Value → H) :
    ReturnsInHanded {} Try.checked os 3 .any (Rows.relaxAdmissibleSpec.pre6 enc Try.prog Try.f3 Rows.relaxAdmissibleRow.domain false) (Rows.relaxAdmissibleSpec.post enc Try.prog Try.f3 false true false false) := by
  refine law_lift (C := Try.checked) own started (by kernel_rfl) Try.func3
    (ChangeSpec.witness6 (enc := enc) (C := Try.checked) false ⟨#[], #[.agg #[.slice none 0 0, .slice none 0 0, .slice none 0 0, .slice none 0 0], .slice none 0 0], []⟩ 8 (by kernel_rfl) (by kernel_rfl) (by kernel_rfl) (by kernel_rfl))
    laidOut (by kernel_rfl) (by kernel_rfl) Try.underlying4 rfl ?_
  intro W base args ds ps hval hA hsz
  have hp : Try.f3.params = #[26, 27] := by kernel_rfl
  rw [hp] at hA hval hsz
  obtain ⟨v0, v1, d0, d1, p0, p1, rfl, rfl, rfl, h0, h1⟩ := trodAll_two hA
  obtain ⟨t0, rfl, r0, l0⟩ := open_task (hval 0 26 v0 rfl rfl) h0
  obtain ⟨x1, r1, z1, n1⟩ := open_u16s (hval 1 27 v1 rfl rfl) h1
  exact ⟨rfl, law_admissible t0 v1 x1 r0 l0 r1 z1 n1⟩
theorem admissible_holds : Rows.RelaxAdmissibleSaid :=
  OpenClaim.holds_of_wide 3 Try.f3 rfl rfl rfl rfl rfl rfl rfl ⟨rfl, rfl, rfl, rfl, rfl⟩ rfl rfl rfl rfl rfl (by kernel_rfl) Try.func3 (by kernel_rfl)
    (of_decide_eq_true (by kernel_rfl)) (by unfold Func.isWrapper; first | (rw [if_pos (by decide +kernel)]; kernel_rfl) | (rw [if_neg (by decide +kernel)]; exact ⟨rfl, rfl⟩))
    (fun os started H enc _ => admissible_lifted os started H enc)
end Go.Proofs.Ytjpbkljnllkneaa
