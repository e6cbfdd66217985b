/-
  Proved: the statement SymbolicNilSaid: for every input the law returns true and leaves its arguments as they were (a nil space returns ErrNone).
  Conditions: none beyond the statement's own.
-/
import Derived.Test.YtcoeknnghfajnaaPk24
set_option maxRecDepth 100000
set_option linter.unusedSimpArgs false
set_option linter.unusedVariables false
namespace Go.Proofs.Ytcoeknnghfajnaa
open Go Go.W Go.Bd Go.ChangeShapes Go.WideShapes Go.ChangeAt Go.RowKit
theorem snil_lifted (os : Os) (started : os.Started) (H : Type) (enc : TypeId × Value → H) :
    ReturnsInHanded {} Try.checked os 5 .any (Rows.symbolicNilSpec.pre6 enc Try.prog Try.f5 Rows.symbolicNilRow.domain false) (Rows.symbolicNilSpec.post enc Try.prog Try.f5 false true false false) := by
  refine law_lift (C := Try.checked) sown started (by kernel_rfl) Try.func5
    (ChangeSpec.witness6 (enc := enc) (C := Try.checked) false ⟨#[], #[.int .i64 0, .int .i64 0], []⟩ 8 (by kernel_rfl) (by kernel_rfl) (by kernel_rfl) (by kernel_rfl))
    blaidOut (by kernel_rfl) (by kernel_rfl) Try.underlying4 rfl ?_
  intro W base args ds ps hval hA hsz
  have hp : Try.f5.params = #[3, 3] := by kernel_rfl
  rw [hp] at hA hval hsz
  obtain ⟨v0, v1, d0, d1, p0, p1, rfl, rfl, rfl, h0, h1⟩ := trodAll_two hA
  obtain ⟨a, rfl, wa⟩ := sopen_int (hval 0 3 v0 rfl rfl) h0
  obtain ⟨b, rfl, wb⟩ := sopen_int (hval 1 3 v1 rfl rfl) h1
  exact ⟨rfl, law_snil a b W⟩
theorem snil_holds : Rows.SymbolicNilSaid :=
  OpenClaim.holds_of_wide 5 Try.f5 rfl rfl rfl rfl rfl rfl rfl ⟨rfl, rfl, rfl, rfl, rfl⟩ rfl rfl rfl rfl rfl (by kernel_rfl) Try.func5 (by kernel_rfl)
    (of_decide_eq_true (by kernel_rfl)) (by unfold Func.isWrapper; first | (rw [if_pos (by decide +kernel)]; kernel_rfl) | (rw [if_neg (by decide +kernel)]; exact ⟨rfl, rfl⟩))
    (fun os started H enc _ => snil_lifted os started H enc)
end Go.Proofs.Ytcoeknnghfajnaa
