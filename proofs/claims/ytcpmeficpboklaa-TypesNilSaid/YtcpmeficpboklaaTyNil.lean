/-
  Proved: the statement TypesNilSaid: for every input the law returns true and leaves its arguments as they were (a nil hierarchy returns zero values).
  Conditions: none beyond the statement's own.
-/
import Derived.Test.YtcpmeficpboklaaTyOpen
import Derived.Test.YtcpmeficpboklaaTyLA
set_option maxRecDepth 100000
set_option linter.unusedSimpArgs false
set_option linter.unusedVariables false
namespace Go.Proofs.Ytcpmeficpboklaa
open Go Go.W Go.Ty Go.ChangeShapes Go.WideShapes Go.ChangeAt Go.RowKit
theorem nil_lifted (os : Os) (started : os.Started) (H : Type) (enc : TypeId × Value → H) :
    ReturnsInHanded {} Try.checked os 12 .any (Rows.typesNilSpec.pre6 enc Try.prog Try.f12 Rows.typesNilRow.domain false) (Rows.typesNilSpec.post enc Try.prog Try.f12 false true false false) := by
  refine law_liftS (C := Try.checked) own started (by kernel_rfl) Try.func12
    (ChangeSpec.witness6 (enc := enc) (C := Try.checked) false ⟨#[], #[.slice none 0 0, .string ⟨#[]⟩], []⟩ 8 (by kernel_rfl) (by kernel_rfl) (by kernel_rfl) (by kernel_rfl))
    laidOut (by kernel_rfl) (by kernel_rfl) Try.underlying4 rfl ?_
  intro W base args ds ps hsh hval hA hsz
  have hp : Try.f12.params = #[22, 9] := by kernel_rfl
  rw [hp] at hA hval hsz
  obtain ⟨v0, v1, d0, d1, q0, q1, rfl, rfl, rfl, h0, h1⟩ := trodAll_two hA
  obtain ⟨li, hqv, hqz, hqd⟩ := open_pairs (hval 0 22 v0 rfl rfl) h0
  have hqn := len_pairs hsz (j := 0) rfl rfl hqd
  obtain ⟨t, rfl, htz⟩ := open_text (hval 1 9 v1 rfl rfl) h1
  exact ⟨rfl, law_nil v0 li t W hqv hqn hqz htz (hm_of hsh)⟩
theorem nil_holds : Rows.TypesNilSaid :=
  OpenClaim.holds_of_wide 12 Try.f12 rfl rfl rfl rfl rfl rfl rfl ⟨rfl, rfl, rfl, rfl, rfl⟩ rfl rfl rfl rfl rfl (by kernel_rfl) Try.func12 (by kernel_rfl)
    (of_decide_eq_true (by kernel_rfl)) (by unfold Func.isWrapper; first | (rw [if_pos (by decide +kernel)]; kernel_rfl) | (rw [if_neg (by decide +kernel)]; exact ⟨rfl, rfl⟩))
    (fun os started H enc _ => nil_lifted os started H enc)
end Go.Proofs.Ytcpmeficpboklaa
