/-
  Proved: the statement SymbolicReachesSaid: for every input the law returns true and leaves its arguments as they were (the closure under images is the set of the states that are reached; no operation of the first rounds, which the law counts, comes to the limit of nodes).
  Conditions: none beyond the statement's own.
-/
import Derived.Test.YtcoeknnghfajnaaGreatPk28
set_option maxRecDepth 100000
set_option linter.unusedSimpArgs false
set_option linter.unusedVariables false
set_option linter.unusedSectionVars false
namespace Go.Proofs.YtcoeknnghfajnaaGreat
open Go Go.W Go.Tk Go.Rx Go.Bd Go.Sy Go.ChangeShapes Go.WideShapes Go.ChangeAt Go.RowKit
theorem sreaches_lifted (os:Os) (started:os.Started) (H:Type) (enc:TypeId × Value→H) :
  ReturnsInHanded {} Tryz.checked os 3 .any (Rows.symbolicReachesSpec.pre6 enc Tryz.prog Tryz.f3 Rows.symbolicReachesRow.domain false) (Rows.symbolicReachesSpec.post enc Tryz.prog Tryz.f3 false true false false):=by
 refine law_lift (C:=Tryz.checked) own started (by kernel_rfl) Tryz.func3
  (ChangeSpec.witness6 (enc:=enc) (C:=Tryz.checked) false ⟨#[],#[.agg #[.slice none 0 0,.slice none 0 0,.slice none 0 0,.slice none 0 0]],[]⟩ 8 (by kernel_rfl) (by kernel_rfl) (by kernel_rfl) (by kernel_rfl))
  laidOut (by kernel_rfl) (by kernel_rfl) Tryz.underlying4 rfl ?_
 intro W base args ds ps hval hA hsz
 have hp:Tryz.f3.params=#[26]:=by kernel_rfl
 rw [hp] at hA hval hsz
 obtain ⟨v0,d0,rfl,rfl,h0⟩:=trodAll_one hA
 obtain ⟨t0,rfl,r0,l0⟩:=open_task (hval 0 26 v0 rfl rfl) h0
 exact ⟨rfl,law_sreaches t0 r0 l0⟩
theorem sreaches_holds:Rows.SymbolicReachesSaid :=
 OpenClaim.holds_of_wide 3 Tryz.f3 rfl rfl rfl rfl rfl rfl rfl ⟨rfl,rfl,rfl,rfl,rfl⟩ rfl rfl rfl rfl rfl (by kernel_rfl) Tryz.func3 (by kernel_rfl)
  (of_decide_eq_true (by kernel_rfl)) (by unfold Func.isWrapper; first | (rw [if_pos (by decide +kernel)]; kernel_rfl) | (rw [if_neg (by decide +kernel)]; exact ⟨rfl,rfl⟩))
  (fun os started H enc _=>sreaches_lifted os started H enc)
end Go.Proofs.YtcoeknnghfajnaaGreat
