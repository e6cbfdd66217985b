/-
  Proved: the statement WholeSaturatedSaid: for every input the law returns true and leaves its arguments as they were (a saturated partition divides the costs of the operators among patterns, and the sum of the databases under their parts is at most the least cost).
  Conditions: none beyond the statement's own.
-/
import Derived.Test.YtolkjbmcindhjaaGreatPk27
set_option maxRecDepth 100000
set_option linter.unusedSimpArgs false
set_option linter.unusedVariables false
namespace Go.Proofs.YtolkjbmcindhjaaGreat
open Go Go.W Go.Tk Go.Rx Go.ChangeShapes Go.WideShapes Go.ChangeAt Go.RowKit
theorem saturated_lifted (os : Os) (started : os.Started) (H : Type) (enc : TypeId × Value → H) :
    ReturnsInHanded {} Tryz.checked os 3 .any (Rows.wholeSaturatedSpec.pre6 enc Tryz.prog Tryz.f3 Rows.wholeSaturatedRow.domain false) (Rows.wholeSaturatedSpec.post enc Tryz.prog Tryz.f3 false true false false) := by
  refine law_lift (C := Tryz.checked) own started (by kernel_rfl) Tryz.func3
    (ChangeSpec.witness6 (enc := enc) (C := Tryz.checked) false ⟨#[], #[.agg #[.slice none 0 0, .slice none 0 0, .slice none 0 0, .slice none 0 0], .int .u8 0, .slice none 0 0], []⟩ 8 (by kernel_rfl) (by kernel_rfl) (by kernel_rfl) (by kernel_rfl))
    laidOut (by kernel_rfl) (by kernel_rfl) Tryz.underlying4 rfl ?_
  intro W base args ds ps hval hA hsz
  have hp : Tryz.f3.params = #[26, 5, 27] := by kernel_rfl
  rw [hp] at hA hval hsz
  obtain ⟨v0, v1, v2, d0, d1, d2, p0, p1, p2, rfl, rfl, rfl, h0, h1, h2⟩ := trodAll_three hA
  obtain ⟨t0, rfl, r0, l0⟩ := open_task (hval 0 26 v0 rfl rfl) h0
  obtain ⟨a1, rfl, w1⟩ := open_u8 (hval 1 5 v1 rfl rfl) h1
  obtain ⟨x2, r2, z2, n2⟩ := open_u8s (hval 2 27 v2 rfl rfl) h2
  exact ⟨rfl, law_saturated t0 a1 v2 x2 r0 l0 w1 r2 z2 n2⟩
theorem saturated_holds : Rows.WholeSaturatedSaid :=
  OpenClaim.holds_of_wide 3 Tryz.f3 rfl rfl rfl rfl rfl rfl rfl ⟨rfl, rfl, rfl, rfl, rfl⟩ rfl rfl rfl rfl rfl (by kernel_rfl) Tryz.func3 (by kernel_rfl)
    (of_decide_eq_true (by kernel_rfl)) (by unfold Func.isWrapper; first | (rw [if_pos (by decide +kernel)]; kernel_rfl) | (rw [if_neg (by decide +kernel)]; exact ⟨rfl, rfl⟩))
    (fun os started H enc _ => saturated_lifted os started H enc)
end Go.Proofs.YtolkjbmcindhjaaGreat
