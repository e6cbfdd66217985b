/-
  Proved: the statement SymbolicLargeSaid: for every input the law returns true (variables with more than 100 bits are refused; in a space of up to 2^100 states Count, Single, Image, Pick and Preimage work).
  Conditions: none beyond the statement's own.
-/
import Derived.Test.YtcoeknnghfajnaaPk29
set_option maxRecDepth 100000
set_option linter.unusedSimpArgs false
set_option linter.unusedVariables false
namespace Go.Proofs.Ytcoeknnghfajnaa
open Go Go.W Go.Bd Go.ChangeShapes Go.WideShapes Go.ChangeAt Go.RowKit
theorem slarge_lifted (os : Os) (started : os.Started) (H : Type) (enc : TypeId × Value → H) :
    ReturnsInHanded {} Try.checked os 6 .any (Rows.symbolicLargeSpec.pre6 enc Try.prog Try.f6 Rows.symbolicLargeRow.domain false) (Rows.symbolicLargeSpec.post enc Try.prog Try.f6 false true false false) := by
  refine law_lift (C := Try.checked) sown started (by kernel_rfl) Try.func6
    (ChangeSpec.witness6 (enc := enc) (C := Try.checked) false ⟨#[], #[.int .u8 0, .int .u8 0], []⟩ 8 (by kernel_rfl) (by kernel_rfl) (by kernel_rfl) (by kernel_rfl))
    blaidOut (by kernel_rfl) (by kernel_rfl) Try.underlying4 rfl ?_
  intro W base args ds ps hval hA hsz
  have hp : Try.f6.params = #[5, 5] := by kernel_rfl
  rw [hp] at hA hval hsz
  obtain ⟨v0, v1, d0, d1, p0, p1, rfl, rfl, rfl, h0, h1⟩ := trodAll_two hA
  obtain ⟨a, rfl, wa⟩ := sopen_u8 (hval 0 5 v0 rfl rfl) h0
  obtain ⟨b, rfl, wb⟩ := sopen_u8 (hval 1 5 v1 rfl rfl) h1
  exact ⟨rfl, law_slarge a b wa wb⟩
theorem slarge_holds : Rows.SymbolicLargeSaid :=
  OpenClaim.holds_of_wide 6 Try.f6 rfl rfl rfl rfl rfl rfl rfl ⟨rfl, rfl, rfl, rfl, rfl⟩ rfl rfl rfl rfl rfl (by kernel_rfl) Try.func6 (by kernel_rfl)
    (of_decide_eq_true (by kernel_rfl)) (by unfold Func.isWrapper; first | (rw [if_pos (by decide +kernel)]; kernel_rfl) | (rw [if_neg (by decide +kernel)]; exact ⟨rfl, rfl⟩))
    (fun os started H enc _ => slarge_lifted os started H enc)
end Go.Proofs.Ytcoeknnghfajnaa
