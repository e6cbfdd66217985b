/-
  Proved: the statement TypesCommonSaid: for every input the law returns true and leaves its arguments as they were (Common is the nearest common type, for all types, and for names that are none).
  Conditions: none beyond the statement's own.
-/
import Derived.Test.YtcpmeficpboklaaTyOpen
import Derived.Test.YtcpmeficpboklaaTyL2
set_option maxRecDepth 100000
set_option linter.unusedSimpArgs false
set_option linter.unusedVariables false
namespace Go.Proofs.Ytcpmeficpboklaa
open Go Go.W Go.Ty Go.ChangeShapes Go.WideShapes Go.ChangeAt Go.RowKit
theorem common_lifted (os : Os) (started : os.Started) (H : Type) (enc : TypeId × Value → H) :
    ReturnsInHanded {} Try.checked os 8 .any (Rows.typesCommonSpec.pre6 enc Try.prog Try.f8 Rows.typesCommonRow.domain false) (Rows.typesCommonSpec.post enc Try.prog Try.f8 false true false false) := by
  refine law_liftS (C := Try.checked) own started (by kernel_rfl) Try.func8
    (ChangeSpec.witness6 (enc := enc) (C := Try.checked) false ⟨#[], #[.slice none 0 0], []⟩ 8 (by kernel_rfl) (by kernel_rfl) (by kernel_rfl) (by kernel_rfl))
    laidOut (by kernel_rfl) (by kernel_rfl) Try.underlying4 rfl ?_
  intro W base args ds ps hsh hval hA hsz
  have hp : Try.f8.params = #[22] := by kernel_rfl
  rw [hp] at hA hval hsz
  obtain ⟨v0, d0, rfl, rfl, h0⟩ := trodAll_one hA
  obtain ⟨l, hlv, hlz, hld⟩ := open_pairs (hval 0 22 v0 rfl rfl) h0
  have hln := len_pairs hsz (j := 0) rfl rfl hld
  exact ⟨rfl, law_common v0 l W hlv (by omega) hlz (hm_of hsh)⟩
theorem common_holds : Rows.TypesCommonSaid :=
  OpenClaim.holds_of_wide 8 Try.f8 rfl rfl rfl rfl rfl rfl rfl ⟨rfl, rfl, rfl, rfl, rfl⟩ rfl rfl rfl rfl rfl (by kernel_rfl) Try.func8 (by kernel_rfl)
    (of_decide_eq_true (by kernel_rfl)) (by unfold Func.isWrapper; first | (rw [if_pos (by decide +kernel)]; kernel_rfl) | (rw [if_neg (by decide +kernel)]; exact ⟨rfl, rfl⟩))
    (fun os started H enc _ => common_lifted os started H enc)
end Go.Proofs.Ytcpmeficpboklaa
