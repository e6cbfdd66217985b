/-
  Proved: the statement SymbolicImagesSaid: for every input the law returns true and leaves its arguments as they were (a state is in a preimage exactly if its successor is in the set; images and preimages go with the operations of sets).
  Conditions: none beyond the statement's own.
-/
import Derived.Test.YtcoeknnghfajnaaPk29
import Derived.Test.YtcoeknnghfajnaaPk30
set_option maxRecDepth 100000
set_option linter.unusedSimpArgs false
set_option linter.unusedVariables false
namespace Go.Proofs.Ytcoeknnghfajnaa
open Go Go.W Go.Tk Go.Rx Go.Bd Go.Sy Go.ChangeShapes Go.WideShapes Go.ChangeAt Go.RowKit
theorem simages_lifted (os : Os) (started : os.Started) (H : Type) (enc : TypeId × Value → H) :
    ReturnsInHanded {} Try.checked os 4 .any (Rows.symbolicImagesSpec.pre6 enc Try.prog Try.f4 Rows.symbolicImagesRow.domain false) (Rows.symbolicImagesSpec.post enc Try.prog Try.f4 false true false false) := by
  refine law_lift (C := Try.checked) own started (by kernel_rfl) Try.func4
    (ChangeSpec.witness6 (enc := enc) (C := Try.checked) false ⟨#[], #[.agg #[.slice none 0 0, .slice none 0 0, .slice none 0 0, .slice none 0 0], .int .u8 0, .slice none 0 0, .slice none 0 0], []⟩ 8 (by kernel_rfl) (by kernel_rfl) (by kernel_rfl) (by kernel_rfl))
    laidOut (by kernel_rfl) (by kernel_rfl) Try.underlying4 rfl ?_
  intro W base args ds ps hval hA hsz
  have hp : Try.f4.params = #[26, 5, 23, 23] := by kernel_rfl
  rw [hp] at hA hval hsz
  obtain ⟨v0, vs0, d0, ds0, p0, q0, hargs, rfl, rfl, h0, hr0⟩ := trodAll_cons hA
  obtain ⟨v3, vs3, d3, ds3, p3, q3, rfl, rfl, rfl, h3, hr3⟩ := trodAll_cons hr0
  obtain ⟨v1, vs1, d1, ds1, p1, q1, rfl, rfl, rfl, h1, hr1⟩ := trodAll_cons hr3
  obtain ⟨v2, vs2, d2, ds2, p2, q2, rfl, rfl, rfl, h2, hr2⟩ := trodAll_cons hr1
  obtain ⟨rfl, rfl, rfl⟩ := trodAll_nil hr2
  obtain rfl : args = #[v0, v3, v1, v2] := by cases args; simp_all
  obtain ⟨t0, rfl, r0, l0⟩ := open_task (hval 0 26 v0 rfl rfl) h0
  obtain ⟨a, rfl, wa⟩ := sopen_u8 (hval 1 5 v3 rfl rfl) h3
  obtain ⟨l1, r1, n1⟩ := sopen_facts (hval 2 23 v1 rfl rfl) h1
  obtain ⟨l2, r2, n2⟩ := sopen_facts (hval 3 23 v2 rfl rfl) h2
  exact ⟨rfl, law_simages t0 a v1 v2 l1 l2 r0 l0 wa r1 r2 n1 n2⟩
theorem simages_holds : Rows.SymbolicImagesSaid :=
  OpenClaim.holds_of_wide 4 Try.f4 rfl rfl rfl rfl rfl rfl rfl ⟨rfl, rfl, rfl, rfl, rfl⟩ rfl rfl rfl rfl rfl (by kernel_rfl) Try.func4 (by kernel_rfl)
    (of_decide_eq_true (by kernel_rfl)) (by unfold Func.isWrapper; first | (rw [if_pos (by decide +kernel)]; kernel_rfl) | (rw [if_neg (by decide +kernel)]; exact ⟨rfl, rfl⟩))
    (fun os started H enc _ => simages_lifted os started H enc)
end Go.Proofs.Ytcoeknnghfajnaa
