/-
  Proved: the statement WholeRegressionSaid: for every input the law returns true and leaves its arguments as they were (progression, regression and decision diagrams agree: the preimage of a partial state is the union of the partial states of its regression).
  Conditions: none beyond the statement's own.
-/
import Derived.Test.YtolkjbmcindhjaaGreatPk15
import Derived.Test.YtolkjbmcindhjaaGreatPk16
set_option maxRecDepth 100000
set_option linter.unusedSimpArgs false
set_option linter.unusedVariables false
set_option linter.unusedSectionVars false
set_option maxHeartbeats 8000000
namespace Go.Proofs.YtolkjbmcindhjaaGreat
open Go Go.W Go.Tk Go.Rx Go.Bd Go.Sy Go.ChangeShapes Go.WideShapes Go.ChangeAt Go.RowKit
section
variable {H:Type} {enc:TypeId×Value->H}
theorem ropen_facts{W:World}{b:Nat}{v:Value}{d:DataW H}{ps:List MemPlace}(hv:Value.okWide Tryz.prog W .any b 23 v)(h:DataW.Trod enc Tryz.prog W 0 (fun _=>true) true 23 v d ps):∃l:List Fa,Vw W v faE l/\l.length<=9223372036854775807:=by
 obtain⟨a0,n0,c0,rfl⟩:=okWide_slice Tryz.underlying23 hv;obtain⟨n,h⟩:=h;exact zES (n:=n) (c:=.slice a0 n0 c0) h
end
theorem regression_lifted(os:Os)(started:os.Started)(H:Type)(enc:TypeId×Value->H) :
  ReturnsInHanded {} Tryz.checked os 5 .any (Rows.wholeRegressionSpec.pre6 enc Tryz.prog Tryz.f5 Rows.wholeRegressionRow.domain false) (Rows.wholeRegressionSpec.post enc Tryz.prog Tryz.f5 false true false false):=by
 refine zPt (C:=Tryz.checked) own started (by kernel_rfl) Tryz.func5
  (ChangeSpec.witness6 (enc:=enc) (C:=Tryz.checked) false ⟨#[],#[.agg #[.slice none 0 0,.slice none 0 0,.slice none 0 0,.slice none 0 0],.slice none 0 0,.slice none 0 0],[]⟩ 8 (by kernel_rfl) (by kernel_rfl) (by kernel_rfl) (by kernel_rfl))
  zSz (by kernel_rfl) (by kernel_rfl) Tryz.underlying4 rfl ?_
 intro W base args ds ps JA hA JB;have hp:Tryz.f5.params=#[26,23,22]:=by kernel_rfl
 rw[hp] at hA JA JB;obtain⟨v0,v1,v2,d0,d1,d2,p0,p1,p2,rfl,rfl,rfl,h0,h1,h2⟩:=trodAll_three hA;obtain⟨t0,rfl,r0,l0⟩:=zMv (JA 0 26 v0 rfl rfl) h0;obtain⟨l1,r1,n1⟩:=ropen_facts (JA 1 23 v1 rfl rfl) h1;obtain⟨l2,r2,z2,n2⟩:=zMw (JA 2 22 v2 rfl rfl) h2;exact⟨rfl,zSw t0 v1 v2 l1 l2 r0 l0 r1 n1 r2 n2⟩
theorem regression_holds:Rows.WholeRegressionSaid :=
 OpenClaim.holds_of_wide 5 Tryz.f5 rfl rfl rfl rfl rfl rfl rfl ⟨rfl,rfl,rfl,rfl,rfl⟩ rfl rfl rfl rfl rfl (by kernel_rfl) Tryz.func5 (by kernel_rfl)
  (of_decide_eq_true (by kernel_rfl)) (by unfold Func.isWrapper;first|(rw[if_pos (by decide +kernel)];kernel_rfl)|(rw[if_neg (by decide +kernel)];exact⟨rfl,rfl⟩))
  (fun os started H enc _=>regression_lifted os started H enc)
end Go.Proofs.YtolkjbmcindhjaaGreat
