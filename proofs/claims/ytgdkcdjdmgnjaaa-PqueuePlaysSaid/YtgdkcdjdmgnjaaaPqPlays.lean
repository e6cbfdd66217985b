/-
  Proved: the statement PqueuePlaysSaid: for every input the law returns true and leaves its arguments as they were (after any calls all results are those of the document).
  Conditions: none beyond the statement's own.
-/
import Derived.Test.YtgdkcdjdmgnjaaaPqOpen
set_option maxRecDepth 100000
set_option linter.unusedSimpArgs false
set_option linter.unusedVariables false
namespace Go.Proofs.Ytgdkcdjdmgnjaaa
open Go Go.W Go.Pq Go.ChangeShapes Go.WideShapes Go.ChangeAt Go.RowKit
theorem plays_lifted (os : Os) (started : os.Started) (H : Type) (enc : TypeId × Value → H) :
    ReturnsInHanded {} Try.checked os 3 .any (Rows.pqueuePlaysSpec.pre6 enc Try.prog Try.f3 Rows.pqueuePlaysRow.domain false) (Rows.pqueuePlaysSpec.post enc Try.prog Try.f3 false true false false) := by
  refine law_lift (C := Try.checked) own started (by kernel_rfl) Try.func3
    (ChangeSpec.witness6 (enc := enc) (C := Try.checked) false ⟨#[], #[.slice none 0 0], []⟩ 8 (by kernel_rfl) (by kernel_rfl) (by kernel_rfl) (by kernel_rfl))
    laidOut (by kernel_rfl) (by kernel_rfl) Try.underlying4 rfl ?_
  intro W base args ds ps hval hA hsz
  have hp : Try.f3.params = #[22] := by kernel_rfl
  rw [hp] at hA hval hsz
  obtain ⟨v0, d0, rfl, rfl, h0⟩ := trodAll_one hA
  obtain ⟨l, hl, hok, hsh⟩ := open_vw (encα := ea) (ok := fun a => 0 ≤ a.kind ∧ a.kind ≤ 255) (sz := 4) Try.underlying22 (by kernel_rfl) (by omega) ea_len el_act (hval 0 22 v0 rfl rfl) h0
  have hlen : l.length ≤ 4611686018427387904 := by
    rcases hsh with ⟨_, rfl⟩ | ⟨el, sp, rfl, he⟩
    · simp
    · have := sized_slice hsz (j := 0) rfl rfl Try.underlying22
      have hb : Try.prog.bytesOf 28 = 32 := by kernel_rfl
      change (el.length + sp.length) * Try.prog.bytesOf 28 ≤ _ at this
      rw [hb] at this
      simp only [reachBytes] at this
      omega
  exact ⟨rfl, law_plays v0 l W hl hok hlen⟩
theorem plays_holds : Rows.PqueuePlaysSaid :=
  OpenClaim.holds_of_wide 3 Try.f3 rfl rfl rfl rfl rfl rfl rfl ⟨rfl, rfl, rfl, rfl, rfl⟩ rfl rfl rfl rfl rfl (by kernel_rfl) Try.func3 (by kernel_rfl)
    (of_decide_eq_true (by kernel_rfl)) (by unfold Func.isWrapper; first | (rw [if_pos (by decide +kernel)]; kernel_rfl) | (rw [if_neg (by decide +kernel)]; exact ⟨rfl, rfl⟩))
    (fun os started H enc _ => plays_lifted os started H enc)
end Go.Proofs.Ytgdkcdjdmgnjaaa
