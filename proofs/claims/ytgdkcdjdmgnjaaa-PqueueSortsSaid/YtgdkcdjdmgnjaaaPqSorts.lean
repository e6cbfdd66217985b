/-
  Proved: the statement PqueueSortsSaid: for every input the law returns true and leaves its arguments as they were (what was pushed comes out completely and in order).
  Conditions: none beyond the statement's own.
-/
import Derived.Test.YtgdkcdjdmgnjaaaPqOpen
set_option maxRecDepth 100000
set_option linter.unusedSimpArgs false
set_option linter.unusedVariables false
namespace Go.Proofs.Ytgdkcdjdmgnjaaa
open Go Go.W Go.Pq Go.ChangeShapes Go.WideShapes Go.ChangeAt Go.RowKit
theorem sorts_lifted (os : Os) (started : os.Started) (H : Type) (enc : TypeId × Value → H) :
    ReturnsInHanded {} Try.checked os 4 .any (Rows.pqueueSortsSpec.pre6 enc Try.prog Try.f4 Rows.pqueueSortsRow.domain false) (Rows.pqueueSortsSpec.post enc Try.prog Try.f4 false true false false) := by
  refine law_lift (C := Try.checked) own started (by kernel_rfl) Try.func4
    (ChangeSpec.witness6 (enc := enc) (C := Try.checked) false ⟨#[], #[.slice none 0 0], []⟩ 8 (by kernel_rfl) (by kernel_rfl) (by kernel_rfl) (by kernel_rfl))
    laidOut (by kernel_rfl) (by kernel_rfl) Try.underlying4 rfl ?_
  intro W base args ds ps hval hA hsz
  have hp : Try.f4.params = #[42] := by kernel_rfl
  rw [hp] at hA hval hsz
  obtain ⟨v0, d0, rfl, rfl, h0⟩ := trodAll_one hA
  obtain ⟨l, hl, hsh⟩ := open_pairs (hval 0 42 v0 rfl rfl) h0
  exact ⟨rfl, law_sorts v0 l W hl (len_pairs hsz (j := 0) rfl rfl hsh)⟩
theorem sorts_holds : Rows.PqueueSortsSaid :=
  OpenClaim.holds_of_wide 4 Try.f4 rfl rfl rfl rfl rfl rfl rfl ⟨rfl, rfl, rfl, rfl, rfl⟩ rfl rfl rfl rfl rfl (by kernel_rfl) Try.func4 (by kernel_rfl)
    (of_decide_eq_true (by kernel_rfl)) (by unfold Func.isWrapper; first | (rw [if_pos (by decide +kernel)]; kernel_rfl) | (rw [if_neg (by decide +kernel)]; exact ⟨rfl, rfl⟩))
    (fun os started H enc _ => sorts_lifted os started H enc)
end Go.Proofs.Ytgdkcdjdmgnjaaa
