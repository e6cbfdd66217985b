/-
  Proved: the statement SymbolicSetsSaid: for every input the law returns true and leaves its arguments as they were (any operations: no act of the law reaches the limit of nodes; equal sets are equal numbers; Count is the number of states and Pick the first of them).
  Conditions: none beyond the statement's own.
-/
import Derived.Test.YtcoeknnghfajnaaGreatPk32
set_option maxRecDepth 100000
set_option linter.unusedSimpArgs false
set_option linter.unusedVariables false
set_option linter.unusedSectionVars false
namespace Go.Proofs.YtcoeknnghfajnaaGreat
open Go Go.W Go.Tk Go.Rx Go.Bd Go.Sy Go.ChangeShapes Go.WideShapes Go.ChangeAt Go.RowKit
theorem ssets_lifted (os:Os) (started:os.Started) (H:Type) (enc:TypeId × Value→H) :
  ReturnsInHanded {} Tryz.checked os 5 .any (Rows.symbolicSetsSpec.pre6 enc Tryz.prog Tryz.f5 Rows.symbolicSetsRow.domain false) (Rows.symbolicSetsSpec.post enc Tryz.prog Tryz.f5 false true false false):=by
 refine law_lift (C:=Tryz.checked) own started (by kernel_rfl) Tryz.func5
  (ChangeSpec.witness6 (enc:=enc) (C:=Tryz.checked) false ⟨#[],#[.agg #[.slice none 0 0,.slice none 0 0,.slice none 0 0,.slice none 0 0],.slice none 0 0],[]⟩ 8 (by kernel_rfl) (by kernel_rfl) (by kernel_rfl) (by kernel_rfl))
  laidOut (by kernel_rfl) (by kernel_rfl) Tryz.underlying4 rfl ?_
 intro W base args ds ps hval hA hsz
 have hp:Tryz.f5.params=#[26,46]:=by kernel_rfl
 rw [hp] at hA hval hsz
 obtain ⟨v0,v1,d0,d1,p0,p1,rfl,rfl,rfl,h0,h1⟩:=trodAll_two hA
 obtain ⟨t0,rfl,r0,l0⟩:=open_task (hval 0 26 v0 rfl rfl) h0
 obtain ⟨cs,r2,l2⟩:=open_acts (hval 1 46 v1 rfl rfl) h1
 exact ⟨rfl,law_ssets t0 v1 cs r0 l0 r2 l2⟩
theorem ssets_holds:Rows.SymbolicSetsSaid :=
 OpenClaim.holds_of_wide 5 Tryz.f5 rfl rfl rfl rfl rfl rfl rfl ⟨rfl,rfl,rfl,rfl,rfl⟩ rfl rfl rfl rfl rfl (by kernel_rfl) Tryz.func5 (by kernel_rfl)
  (of_decide_eq_true (by kernel_rfl)) (by unfold Func.isWrapper; first | (rw [if_pos (by decide +kernel)]; kernel_rfl) | (rw [if_neg (by decide +kernel)]; exact ⟨rfl,rfl⟩))
  (fun os started H enc _=>ssets_lifted os started H enc)
end Go.Proofs.YtcoeknnghfajnaaGreat
