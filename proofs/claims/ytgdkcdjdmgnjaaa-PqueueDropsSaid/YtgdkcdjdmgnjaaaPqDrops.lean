/-
  Proved: the statement PqueueDropsSaid: for every input the law returns true and leaves its arguments as they were (Drop leaves exactly the lesser keys, in order).
  Conditions: none beyond the statement's own.
-/
import Derived.Test.YtgdkcdjdmgnjaaaPqOpen
set_option maxRecDepth 100000
set_option linter.unusedSimpArgs false
set_option linter.unusedVariables false
namespace Go.Proofs.Ytgdkcdjdmgnjaaa
open Go Go.W Go.Pq Go.ChangeShapes Go.WideShapes Go.ChangeAt Go.RowKit
theorem drops_lifted (os : Os) (started : os.Started) (H : Type) (enc : TypeId × Value → H) :
    ReturnsInHanded {} Try.checked os 6 .any (Rows.pqueueDropsSpec.pre6 enc Try.prog Try.f6 Rows.pqueueDropsRow.domain false) (Rows.pqueueDropsSpec.post enc Try.prog Try.f6 false true false false) := by
  refine law_lift (C := Try.checked) own started (by kernel_rfl) Try.func6
    (ChangeSpec.witness6 (enc := enc) (C := Try.checked) false ⟨#[], #[.slice none 0 0, .int .i64 0], []⟩ 8 (by kernel_rfl) (by kernel_rfl) (by kernel_rfl) (by kernel_rfl))
    laidOut (by kernel_rfl) (by kernel_rfl) Try.underlying4 rfl ?_
  intro W base args ds ps hval hA hsz
  have hp : Try.f6.params = #[42, 3] := by kernel_rfl
  rw [hp] at hA hval hsz
  obtain ⟨v0, v1, d0, d1, p0, p1, rfl, rfl, rfl, h0, h1⟩ := trodAll_two hA
  obtain ⟨l, hl, hsh⟩ := open_pairs (hval 0 42 v0 rfl rfl) h0
  obtain ⟨c, rfl, rfl, rfl, wc⟩ := open_int Try.underlying3 (hval 1 3 v1 rfl rfl) h1
  exact ⟨rfl, law_drops v0 l c W hl (len_pairs hsz (j := 0) rfl rfl hsh)⟩
theorem drops_holds : Rows.PqueueDropsSaid :=
  OpenClaim.holds_of_wide 6 Try.f6 rfl rfl rfl rfl rfl rfl rfl ⟨rfl, rfl, rfl, rfl, rfl⟩ rfl rfl rfl rfl rfl (by kernel_rfl) Try.func6 (by kernel_rfl)
    (of_decide_eq_true (by kernel_rfl)) (by unfold Func.isWrapper; first | (rw [if_pos (by decide +kernel)]; kernel_rfl) | (rw [if_neg (by decide +kernel)]; exact ⟨rfl, rfl⟩))
    (fun os started H enc _ => drops_lifted os started H enc)
end Go.Proofs.Ytgdkcdjdmgnjaaa
