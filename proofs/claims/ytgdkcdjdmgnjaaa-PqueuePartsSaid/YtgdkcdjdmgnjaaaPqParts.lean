/-
  Proved: the statement PqueuePartsSaid: for every input the law returns true and leaves its arguments as they were (pushing greater keys later changes nothing).
  Conditions: none beyond the statement's own.
-/
import Derived.Test.YtgdkcdjdmgnjaaaPqOpen
set_option maxRecDepth 100000
set_option linter.unusedSimpArgs false
set_option linter.unusedVariables false
namespace Go.Proofs.Ytgdkcdjdmgnjaaa
open Go Go.W Go.Pq Go.ChangeShapes Go.WideShapes Go.ChangeAt Go.RowKit
theorem parts_lifted (os : Os) (started : os.Started) (H : Type) (enc : TypeId × Value → H) :
    ReturnsInHanded {} Try.checked os 5 .any (Rows.pqueuePartsSpec.pre6 enc Try.prog Try.f5 Rows.pqueuePartsRow.domain false) (Rows.pqueuePartsSpec.post enc Try.prog Try.f5 false true false false) := by
  refine law_lift (C := Try.checked) own started (by kernel_rfl) Try.func5
    (ChangeSpec.witness6 (enc := enc) (C := Try.checked) false ⟨#[], #[.slice none 0 0, .slice none 0 0, .int .i64 0], []⟩ 8 (by kernel_rfl) (by kernel_rfl) (by kernel_rfl) (by kernel_rfl))
    laidOut (by kernel_rfl) (by kernel_rfl) Try.underlying4 rfl ?_
  intro W base args ds ps hval hA hsz
  have hp : Try.f5.params = #[42, 42, 3] := by kernel_rfl
  rw [hp] at hA hval hsz
  obtain ⟨v0, v1, v2, d0, d1, d2, p0, p1, p2, rfl, rfl, rfl, h0, h1, h2⟩ := trodAll_three hA
  obtain ⟨l, hl, hsh⟩ := open_pairs (hval 0 42 v0 rfl rfl) h0
  obtain ⟨h, hh, hhh⟩ := open_pairs (hval 1 42 v1 rfl rfl) h1
  obtain ⟨c, rfl, rfl, rfl, wc⟩ := open_int Try.underlying3 (hval 2 3 v2 rfl rfl) h2
  exact ⟨rfl, law_parts v0 v1 l h c W hl hh (len_pairs hsz (j := 0) rfl rfl hsh) (len_pairs hsz (j := 1) rfl rfl hhh)⟩
theorem parts_holds : Rows.PqueuePartsSaid :=
  OpenClaim.holds_of_wide 5 Try.f5 rfl rfl rfl rfl rfl rfl rfl ⟨rfl, rfl, rfl, rfl, rfl⟩ rfl rfl rfl rfl rfl (by kernel_rfl) Try.func5 (by kernel_rfl)
    (of_decide_eq_true (by kernel_rfl)) (by unfold Func.isWrapper; first | (rw [if_pos (by decide +kernel)]; kernel_rfl) | (rw [if_neg (by decide +kernel)]; exact ⟨rfl, rfl⟩))
    (fun os started H enc _ => parts_lifted os started H enc)
end Go.Proofs.Ytgdkcdjdmgnjaaa
