/-
  Proved: the statement SymbolicLimitsSaid: for every input the law returns true and leaves its arguments as they were (with any limit an operation returns the right set or ErrFull, and sets that were returned stay right).
  Conditions: none beyond the statement's own.
-/
import Derived.Test.YtcoeknnghfajnaaGreatPk29
set_option maxRecDepth 100000
set_option linter.unusedSimpArgs false
set_option linter.unusedVariables false
namespace Go.Proofs.YtcoeknnghfajnaaGreat
open Go Go.W Go.Tk Go.Rx Go.Bd Go.Sy Go.ChangeShapes Go.WideShapes Go.ChangeAt Go.RowKit
theorem slimits_lifted (os : Os) (started : os.Started) (H : Type) (enc : TypeId × Value → H) :
    ReturnsInHanded {} Tryz.checked os 4 .any (Rows.symbolicLimitsSpec.pre6 enc Tryz.prog Tryz.f4 Rows.symbolicLimitsRow.domain false) (Rows.symbolicLimitsSpec.post enc Tryz.prog Tryz.f4 false true false false) := by
  refine law_lift (C := Tryz.checked) own started (by kernel_rfl) Tryz.func4
    (ChangeSpec.witness6 (enc := enc) (C := Tryz.checked) false ⟨#[], #[.agg #[.slice none 0 0, .slice none 0 0, .slice none 0 0, .slice none 0 0], .int .u8 0, .slice none 0 0], []⟩ 8 (by kernel_rfl) (by kernel_rfl) (by kernel_rfl) (by kernel_rfl))
    laidOut (by kernel_rfl) (by kernel_rfl) Tryz.underlying4 rfl ?_
  intro W base args ds ps hval hA hsz
  have hp : Tryz.f4.params = #[26, 5, 46] := by kernel_rfl
  rw [hp] at hA hval hsz
  obtain ⟨v0, v1, v2, d0, d1, d2, p0, p1, p2, rfl, rfl, rfl, h0, h1, h2⟩ := trodAll_three hA
  obtain ⟨t0, rfl, r0, l0⟩ := open_task (hval 0 26 v0 rfl rfl) h0
  obtain ⟨a1, rfl, w1⟩ := open_u8 (hval 1 5 v1 rfl rfl) h1
  obtain ⟨cs, r2, l2⟩ := open_acts (hval 2 46 v2 rfl rfl) h2
  exact ⟨rfl, law_slimits t0 a1 v2 cs r0 l0 w1 r2 l2⟩
theorem slimits_holds : Rows.SymbolicLimitsSaid :=
  OpenClaim.holds_of_wide 4 Tryz.f4 rfl rfl rfl rfl rfl rfl rfl ⟨rfl, rfl, rfl, rfl, rfl⟩ rfl rfl rfl rfl rfl (by kernel_rfl) Tryz.func4 (by kernel_rfl)
    (of_decide_eq_true (by kernel_rfl)) (by unfold Func.isWrapper; first | (rw [if_pos (by decide +kernel)]; kernel_rfl) | (rw [if_neg (by decide +kernel)]; exact ⟨rfl, rfl⟩))
    (fun os started H enc _ => slimits_lifted os started H enc)
end Go.Proofs.YtcoeknnghfajnaaGreat
