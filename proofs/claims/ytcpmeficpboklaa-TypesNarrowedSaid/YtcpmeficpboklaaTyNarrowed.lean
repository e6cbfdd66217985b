/-
  Proved: the statement TypesNarrowedSaid: for every input the law returns true and leaves its arguments as they were (the objects of a type are among those of its parent, in the same order; each object of a declared type is one of the type object).
  Conditions: none beyond the statement's own.
-/
import Derived.Test.YtcpmeficpboklaaTyOpen
import Derived.Test.YtcpmeficpboklaaTyL6
set_option maxRecDepth 100000
set_option linter.unusedSimpArgs false
set_option linter.unusedVariables false
namespace Go.Proofs.Ytcpmeficpboklaa
open Go Go.W Go.Ty Go.ChangeShapes Go.WideShapes Go.ChangeAt Go.RowKit
theorem narrowed_lifted (os : Os) (started : os.Started) (H : Type) (enc : TypeId × Value → H) :
    ReturnsInHanded {} Try.checked os 7 .any (Rows.typesNarrowedSpec.pre6 enc Try.prog Try.f7 Rows.typesNarrowedRow.domain false) (Rows.typesNarrowedSpec.post enc Try.prog Try.f7 false true false false) := by
  refine law_liftS (C := Try.checked) own started (by kernel_rfl) Try.func7
    (ChangeSpec.witness6 (enc := enc) (C := Try.checked) false ⟨#[], #[.slice none 0 0, .slice none 0 0], []⟩ 8 (by kernel_rfl) (by kernel_rfl) (by kernel_rfl) (by kernel_rfl))
    laidOut (by kernel_rfl) (by kernel_rfl) Try.underlying4 rfl ?_
  intro W base args ds ps hsh hval hA hsz
  have hp : Try.f7.params = #[22, 22] := by kernel_rfl
  rw [hp] at hA hval hsz
  obtain ⟨v0, v1, d0, d1, q0, q1, rfl, rfl, rfl, h0, h1⟩ := trodAll_two hA
  obtain ⟨l, hlv, hlz, hld⟩ := open_pairs (hval 0 22 v0 rfl rfl) h0
  have hln := len_pairs hsz (j := 0) rfl rfl hld
  obtain ⟨li, hqv, hqz, hqd⟩ := open_pairs (hval 1 22 v1 rfl rfl) h1
  have hqn := len_pairs hsz (j := 1) rfl rfl hqd
  exact ⟨rfl, law_narrowed v0 v1 l li W hlv (by omega) hlz hqv hqn hqz (hm_of hsh)⟩
theorem narrowed_holds : Rows.TypesNarrowedSaid :=
  OpenClaim.holds_of_wide 7 Try.f7 rfl rfl rfl rfl rfl rfl rfl ⟨rfl, rfl, rfl, rfl, rfl⟩ rfl rfl rfl rfl rfl (by kernel_rfl) Try.func7 (by kernel_rfl)
    (of_decide_eq_true (by kernel_rfl)) (by unfold Func.isWrapper; first | (rw [if_pos (by decide +kernel)]; kernel_rfl) | (rw [if_neg (by decide +kernel)]; exact ⟨rfl, rfl⟩))
    (fun os started H enc _ => narrowed_lifted os started H enc)
end Go.Proofs.Ytcpmeficpboklaa
