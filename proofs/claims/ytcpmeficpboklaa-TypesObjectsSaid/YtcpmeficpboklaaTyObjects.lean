/-
  Proved: the statement TypesObjectsSaid: for every input the law returns true and leaves its arguments as they were (Of returns the objects of a type in the order of the list).
  Conditions: none beyond the statement's own.
-/
import Derived.Test.YtcpmeficpboklaaTyOpen
import Derived.Test.YtcpmeficpboklaaTyL4
set_option maxRecDepth 100000
set_option linter.unusedSimpArgs false
set_option linter.unusedVariables false
namespace Go.Proofs.Ytcpmeficpboklaa
open Go Go.W Go.Ty Go.ChangeShapes Go.WideShapes Go.ChangeAt Go.RowKit
theorem objects_lifted (os : Os) (started : os.Started) (H : Type) (enc : TypeId × Value → H) :
    ReturnsInHanded {} Try.checked os 6 .any (Rows.typesObjectsSpec.pre6 enc Try.prog Try.f6 Rows.typesObjectsRow.domain false) (Rows.typesObjectsSpec.post enc Try.prog Try.f6 false true false false) := by
  refine law_liftS (C := Try.checked) own started (by kernel_rfl) Try.func6
    (ChangeSpec.witness6 (enc := enc) (C := Try.checked) false ⟨#[], #[.slice none 0 0, .slice none 0 0, .string ⟨#[]⟩], []⟩ 8 (by kernel_rfl) (by kernel_rfl) (by kernel_rfl) (by kernel_rfl))
    laidOut (by kernel_rfl) (by kernel_rfl) Try.underlying4 rfl ?_
  intro W base args ds ps hsh hval hA hsz
  have hp : Try.f6.params = #[22, 22, 9] := by kernel_rfl
  rw [hp] at hA hval hsz
  obtain ⟨v0, v1, v2, d0, d1, d2, q0, q1, q2, rfl, rfl, rfl, h0, h1, h2⟩ := trodAll_three hA
  obtain ⟨l, hlv, hlz, hld⟩ := open_pairs (hval 0 22 v0 rfl rfl) h0
  have hln := len_pairs hsz (j := 0) rfl rfl hld
  obtain ⟨li, hqv, hqz, hqd⟩ := open_pairs (hval 1 22 v1 rfl rfl) h1
  have hqn := len_pairs hsz (j := 1) rfl rfl hqd
  obtain ⟨t, rfl, htz⟩ := open_text (hval 2 9 v2 rfl rfl) h2
  exact ⟨rfl, law_objects v0 v1 l li t W hlv (by omega) hlz hqv hqn hqz htz (hm_of hsh)⟩
theorem objects_holds : Rows.TypesObjectsSaid :=
  OpenClaim.holds_of_wide 6 Try.f6 rfl rfl rfl rfl rfl rfl rfl ⟨rfl, rfl, rfl, rfl, rfl⟩ rfl rfl rfl rfl rfl (by kernel_rfl) Try.func6 (by kernel_rfl)
    (of_decide_eq_true (by kernel_rfl)) (by unfold Func.isWrapper; first | (rw [if_pos (by decide +kernel)]; kernel_rfl) | (rw [if_neg (by decide +kernel)]; exact ⟨rfl, rfl⟩))
    (fun os started H enc _ => objects_lifted os started H enc)
end Go.Proofs.Ytcpmeficpboklaa
