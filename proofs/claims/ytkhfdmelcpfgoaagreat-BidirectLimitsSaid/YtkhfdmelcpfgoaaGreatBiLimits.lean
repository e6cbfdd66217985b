/-
  Proved: the statement BidirectLimitsSaid: for every input the law returns true and leaves its arguments as they were (with few nodes the verdict of the three searches is right or Unknown).
  Conditions: none beyond the statement's own.
-/
import Derived.Test.YtkhfdmelcpfgoaaGreatPk32
set_option maxRecDepth 100000
set_option linter.unusedSimpArgs false
set_option linter.unusedVariables false
namespace Go.Proofs.YtkhfdmelcpfgoaaGreat
open Go Go.W Go.Tk Go.Rx Go.Bd Go.Sy Go.ChangeShapes Go.WideShapes Go.ChangeAt Go.RowKit
section
variable {H:Type} {enc:TypeId × Value→H}
theorem bopen_u16 {W:World} {b:Nat} {v:Value} {d:DataW H} {ps:List MemPlace} (hv:Value.okWide Tryz.prog W .any b 43 v) (h:DataW.Trod enc Tryz.prog W 0 (fun _=>true) true 43 v d ps):∃ n:Nat,v=.int .u16 (n:Nat)∧n≤65535:=by
 obtain ⟨n,h⟩:=h
 obtain ⟨a,ha,_,wa⟩:=DataW.trod_int Tryz.underlying43 h
 have hx:∃ x,v=.int .u16 x:=by
  simp only [Value.okWide,Tryz.underlying43,Cell.okWide] at hv
  cases v <;> simp_all [Cell.ok]
 obtain ⟨x,rfl⟩:=hx
 have ha:[Value.int .u16 x]=[Value.int .u16 a]:=ha
 simp at ha
 subst ha
 have q1:IntKind.u16.min=0:=rfl
 have q2:IntKind.u16.max=65535:=rfl
 simp only [Lit.wf,Bool.and_eq_true,decide_eq_true_eq] at wa
 exact ⟨x.toNat,by rw [show ((x.toNat:Nat):Int)=x by omega],by omega⟩
end
theorem blimits_lifted (os:Os) (started:os.Started) (H:Type) (enc:TypeId × Value→H) :
  ReturnsInHanded {} Tryz.checked os 6 .any (Rows.bidirectLimitsSpec.pre6 enc Tryz.prog Tryz.f6 Rows.bidirectLimitsRow.domain false) (Rows.bidirectLimitsSpec.post enc Tryz.prog Tryz.f6 false true false false):=by
 refine law_lift (C:=Tryz.checked) own started (by kernel_rfl) Tryz.func6
  (ChangeSpec.witness6 (enc:=enc) (C:=Tryz.checked) false ⟨#[],#[.agg #[.slice none 0 0,.slice none 0 0,.slice none 0 0,.slice none 0 0],.int .u16 0],[]⟩ 8 (by kernel_rfl) (by kernel_rfl) (by kernel_rfl) (by kernel_rfl))
  laidOut (by kernel_rfl) (by kernel_rfl) Tryz.underlying4 rfl ?_
 intro W base args ds ps hval hA hsz
 have hp:Tryz.f6.params=#[26,43]:=by kernel_rfl
 rw [hp] at hA hval hsz
 obtain ⟨v0,v1,d0,d1,p0,p1,rfl,rfl,rfl,h0,h1⟩:=trodAll_two hA
 obtain ⟨t0,rfl,r0,l0⟩:=open_task (hval 0 26 v0 rfl rfl) h0
 obtain ⟨a,rfl,wa⟩:=bopen_u16 (hval 1 43 v1 rfl rfl) h1
 exact ⟨rfl,blimits_law t0 a r0 l0 wa⟩
theorem blimits_holds:Rows.BidirectLimitsSaid :=
 OpenClaim.holds_of_wide 6 Tryz.f6 rfl rfl rfl rfl rfl rfl rfl ⟨rfl,rfl,rfl,rfl,rfl⟩ rfl rfl rfl rfl rfl (by kernel_rfl) Tryz.func6 (by kernel_rfl)
  (of_decide_eq_true (by kernel_rfl)) (by unfold Func.isWrapper; first | (rw [if_pos (by decide +kernel)]; kernel_rfl) | (rw [if_neg (by decide +kernel)]; exact ⟨rfl,rfl⟩))
  (fun os started H enc _=>blimits_lifted os started H enc)
end Go.Proofs.YtkhfdmelcpfgoaaGreat
