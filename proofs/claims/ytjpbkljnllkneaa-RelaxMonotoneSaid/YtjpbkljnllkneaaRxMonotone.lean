/-
  Proved: the statement RelaxMonotoneSaid: for every input the law returns true and leaves its arguments as they were (multiplied costs multiply the values; a dearer operator lowers none, a further operator raises none).
  Conditions: none beyond the statement's own.
-/
import Derived.Test.YtjpbkljnllkneaaRxZA
set_option maxRecDepth 100000
set_option linter.unusedSimpArgs false
set_option linter.unusedVariables false
namespace Go.Proofs.Ytjpbkljnllkneaa
open Go Go.W Go.Tk Go.Rx Go.ChangeShapes Go.WideShapes Go.ChangeAt Go.RowKit
theorem monotone_lifted (os : Os) (started : os.Started) (H : Type) (enc : TypeId × Value → H) :
    ReturnsInHanded {} Try.checked os 9 .any (Rows.relaxMonotoneSpec.pre6 enc Try.prog Try.f9 Rows.relaxMonotoneRow.domain false) (Rows.relaxMonotoneSpec.post enc Try.prog Try.f9 false true false false) := by
  refine law_lift (C := Try.checked) own started (by kernel_rfl) Try.func9
    (ChangeSpec.witness6 (enc := enc) (C := Try.checked) false ⟨#[], #[.agg #[.slice none 0 0, .slice none 0 0, .slice none 0 0, .slice none 0 0], .int .u8 0, .int .u8 0], []⟩ 8 (by kernel_rfl) (by kernel_rfl) (by kernel_rfl) (by kernel_rfl))
    laidOut (by kernel_rfl) (by kernel_rfl) Try.underlying4 rfl ?_
  intro W base args ds ps hval hA hsz
  have hp : Try.f9.params = #[26, 5, 5] := by kernel_rfl
  rw [hp] at hA hval hsz
  obtain ⟨v0, v1, v2, d0, d1, d2, p0, p1, p2, rfl, rfl, rfl, h0, h1, h2⟩ := trodAll_three hA
  obtain ⟨t0, rfl, r0, l0⟩ := open_task (hval 0 26 v0 rfl rfl) h0
  obtain ⟨a1, rfl, w1⟩ := open_u8 (hval 1 5 v1 rfl rfl) h1
  obtain ⟨a2, rfl, w2⟩ := open_u8 (hval 2 5 v2 rfl rfl) h2
  exact ⟨rfl, law_monotone t0 a1 a2 r0 l0 w1 w2⟩
theorem monotone_holds : Rows.RelaxMonotoneSaid :=
  OpenClaim.holds_of_wide 9 Try.f9 rfl rfl rfl rfl rfl rfl rfl ⟨rfl, rfl, rfl, rfl, rfl⟩ rfl rfl rfl rfl rfl (by kernel_rfl) Try.func9 (by kernel_rfl)
    (of_decide_eq_true (by kernel_rfl)) (by unfold Func.isWrapper; first | (rw [if_pos (by decide +kernel)]; kernel_rfl) | (rw [if_neg (by decide +kernel)]; exact ⟨rfl, rfl⟩))
    (fun os started H enc _ => monotone_lifted os started H enc)
end Go.Proofs.Ytjpbkljnllkneaa
