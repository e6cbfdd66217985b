/-
  Proved: the statement TypesTurnedSaid: for every input the law returns true and leaves its arguments as they were (the order of the pairs has no influence on what is accepted and on the relation).
  Conditions: none beyond the statement's own.
-/
import Derived.Test.YtcpmeficpboklaaTyOpen
import Derived.Test.YtcpmeficpboklaaTyL8
set_option maxRecDepth 100000
set_option linter.unusedSimpArgs false
set_option linter.unusedVariables false
namespace Go.Proofs.Ytcpmeficpboklaa
open Go Go.W Go.Ty Go.ChangeShapes Go.WideShapes Go.ChangeAt Go.RowKit
theorem turned_lifted (os : Os) (started : os.Started) (H : Type) (enc : TypeId × Value → H) :
    ReturnsInHanded {} Try.checked os 10 .any (Rows.typesTurnedSpec.pre6 enc Try.prog Try.f10 Rows.typesTurnedRow.domain false) (Rows.typesTurnedSpec.post enc Try.prog Try.f10 false true false false) := by
  refine law_liftS (C := Try.checked) own started (by kernel_rfl) Try.func10
    (ChangeSpec.witness6 (enc := enc) (C := Try.checked) false ⟨#[], #[.slice none 0 0, .int .i64 0], []⟩ 8 (by kernel_rfl) (by kernel_rfl) (by kernel_rfl) (by kernel_rfl))
    laidOut (by kernel_rfl) (by kernel_rfl) Try.underlying4 rfl ?_
  intro W base args ds ps hsh hval hA hsz
  have hp : Try.f10.params = #[22, 3] := by kernel_rfl
  rw [hp] at hA hval hsz
  obtain ⟨v0, v1, d0, d1, q0, q1, rfl, rfl, rfl, h0, h1⟩ := trodAll_two hA
  obtain ⟨l, hlv, hlz, hld⟩ := open_pairs (hval 0 22 v0 rfl rfl) h0
  have hln := len_pairs hsz (j := 0) rfl rfl hld
  obtain ⟨n, rfl, hn⟩ := open_int (hval 1 3 v1 rfl rfl) h1
  exact ⟨rfl, law_turned v0 l n W hn hlv hln hlz (hm_of hsh)⟩
theorem turned_holds : Rows.TypesTurnedSaid :=
  OpenClaim.holds_of_wide 10 Try.f10 rfl rfl rfl rfl rfl rfl rfl ⟨rfl, rfl, rfl, rfl, rfl⟩ rfl rfl rfl rfl rfl (by kernel_rfl) Try.func10 (by kernel_rfl)
    (of_decide_eq_true (by kernel_rfl)) (by unfold Func.isWrapper; first | (rw [if_pos (by decide +kernel)]; kernel_rfl) | (rw [if_neg (by decide +kernel)]; exact ⟨rfl, rfl⟩))
    (fun os started H enc _ => turned_lifted os started H enc)
end Go.Proofs.Ytcpmeficpboklaa
