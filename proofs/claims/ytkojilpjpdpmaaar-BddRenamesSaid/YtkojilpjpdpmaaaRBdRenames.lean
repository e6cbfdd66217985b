/-
  Proved: the statement BddRenamesSaid: for every input the law returns true and leaves its arguments as they were (a renaming that does not ascend on the support, has another length, or leads outside, is refused; what is said of other variables does not matter).
  Conditions: none beyond the statement's own.
-/
import Derived.Test.YtkojilpjpdpmaaaRBdOpenB
import Derived.Test.YtkojilpjpdpmaaaRBdLR
set_option maxRecDepth 100000
set_option linter.unusedSimpArgs false
set_option linter.unusedVariables false
namespace Go.Proofs.YtkojilpjpdpmaaaR
open Go Go.W Go.Bd Go.ChangeShapes Go.WideShapes Go.ChangeAt Go.RowKit
theorem renames_lifted (os : Os) (started : os.Started) (H : Type) (enc : TypeId × Value → H) :
    ReturnsInHanded {} Try.checked os 5 .any (Rows.bddRenamesSpec.pre6 enc Try.prog Try.f5 Rows.bddRenamesRow.domain false) (Rows.bddRenamesSpec.post enc Try.prog Try.f5 false true false false) := by
  refine law_lift (C := Try.checked) own started (by kernel_rfl) Try.func5
    (ChangeSpec.witness6 (enc := enc) (C := Try.checked) false ⟨#[], #[.slice none 0 0, .int .u8 0, .slice none 0 0], []⟩ 8 (by kernel_rfl) (by kernel_rfl) (by kernel_rfl) (by kernel_rfl))
    laidOut (by kernel_rfl) (by kernel_rfl) Try.underlying4 rfl ?_
  intro W base args ds ps hval hA hsz
  have hp : Try.f5.params = #[46, 5, 30] := by kernel_rfl
  rw [hp] at hA hval hsz
  obtain ⟨v0, v1, v2, d0, d1, d2, p0, p1, p2, rfl, rfl, rfl, h0, h1, h2⟩ := trodAll_three hA
  obtain ⟨l, hl, ol⟩ := open_acts (hval 0 46 v0 rfl rfl) h0
  obtain ⟨b, rfl, wb⟩ := open_u8 (hval 1 5 v1 rfl rfl) h1
  obtain ⟨xs, hx⟩ := open_ints (hval 2 30 v2 rfl rfl) h2
  exact ⟨rfl, law_renames v0 v2 l b xs wb hl ol hx⟩
theorem renames_holds : Rows.BddRenamesSaid :=
  OpenClaim.holds_of_wide 5 Try.f5 rfl rfl rfl rfl rfl rfl rfl ⟨rfl, rfl, rfl, rfl, rfl⟩ rfl rfl rfl rfl rfl (by kernel_rfl) Try.func5 (by kernel_rfl)
    (of_decide_eq_true (by kernel_rfl)) (by unfold Func.isWrapper; first | (rw [if_pos (by decide +kernel)]; kernel_rfl) | (rw [if_neg (by decide +kernel)]; exact ⟨rfl, rfl⟩))
    (fun os started H enc _ => renames_lifted os started H enc)
end Go.Proofs.YtkojilpjpdpmaaaR
