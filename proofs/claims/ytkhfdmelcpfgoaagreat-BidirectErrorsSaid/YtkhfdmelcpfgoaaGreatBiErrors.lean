/-
  Proved: the statement BidirectErrorsSaid: for every input the law returns true and leaves its arguments as they were (wrong tasks and limits are refused by all four searches).
  Conditions: none beyond the statement's own.
-/
import Derived.Test.YtkhfdmelcpfgoaaGreatPk29
set_option maxRecDepth 100000
set_option linter.unusedSimpArgs false
set_option linter.unusedVariables false
namespace Go.Proofs.YtkhfdmelcpfgoaaGreat
open Go Go.W Go.Tk Go.Rx Go.Bd Go.Sy Go.ChangeShapes Go.WideShapes Go.ChangeAt Go.RowKit
section
variable {H:Type} {enc:TypeId × Value→H}
theorem bopen_int {W:World} {b:Nat} {v:Value} {d:DataW H} {ps:List MemPlace} (hv:Value.okWide Tryz.prog W .any b 3 v) (h:DataW.Trod enc Tryz.prog W 0 (fun _=>true) true 3 v d ps):∃ n:Int,v=.int .i64 n∧(-9223372036854775808≤n∧n≤9223372036854775807):=by
 obtain ⟨n,h⟩:=h
 obtain ⟨a,ha,_,wa⟩:=DataW.trod_int Tryz.underlying3 h
 have hx:∃ x,v=.int .i64 x:=by
  simp only [Value.okWide,Tryz.underlying3,Cell.okWide] at hv
  cases v <;> simp_all [Cell.ok]
 obtain ⟨x,rfl⟩:=hx
 have ha:[Value.int .i64 x]=[Value.int .i64 a]:=ha
 simp at ha
 subst ha
 have h1:IntKind.i64.min=-9223372036854775808:=rfl
 have h2:IntKind.i64.max=9223372036854775807:=rfl
 simp only [Lit.wf,Bool.and_eq_true,decide_eq_true_eq] at wa
 exact ⟨x,rfl,by omega⟩
end
theorem berrors_lifted (os:Os) (started:os.Started) (H:Type) (enc:TypeId × Value→H) :
  ReturnsInHanded {} Tryz.checked os 7 .any (Rows.bidirectErrorsSpec.pre6 enc Tryz.prog Tryz.f7 Rows.bidirectErrorsRow.domain false) (Rows.bidirectErrorsSpec.post enc Tryz.prog Tryz.f7 false true false false):=by
 refine law_lift (C:=Tryz.checked) own started (by kernel_rfl) Tryz.func7
  (ChangeSpec.witness6 (enc:=enc) (C:=Tryz.checked) false ⟨#[],#[.agg #[.slice none 0 0,.slice none 0 0,.slice none 0 0,.slice none 0 0],.int .i64 0],[]⟩ 8 (by kernel_rfl) (by kernel_rfl) (by kernel_rfl) (by kernel_rfl))
  laidOut (by kernel_rfl) (by kernel_rfl) Tryz.underlying4 rfl ?_
 intro W base args ds ps hval hA hsz
 have hp:Tryz.f7.params=#[26,3]:=by kernel_rfl
 rw [hp] at hA hval hsz
 obtain ⟨v0,v1,d0,d1,p0,p1,rfl,rfl,rfl,h0,h1⟩:=trodAll_two hA
 obtain ⟨t0,rfl,r0,l0⟩:=open_task (hval 0 26 v0 rfl rfl) h0
 obtain ⟨a,rfl,wa⟩:=bopen_int (hval 1 3 v1 rfl rfl) h1
 exact ⟨rfl,berrors_law t0 a r0 l0⟩
theorem berrors_holds:Rows.BidirectErrorsSaid :=
 OpenClaim.holds_of_wide 7 Tryz.f7 rfl rfl rfl rfl rfl rfl rfl ⟨rfl,rfl,rfl,rfl,rfl⟩ rfl rfl rfl rfl rfl (by kernel_rfl) Tryz.func7 (by kernel_rfl)
  (of_decide_eq_true (by kernel_rfl)) (by unfold Func.isWrapper; first | (rw [if_pos (by decide +kernel)]; kernel_rfl) | (rw [if_neg (by decide +kernel)]; exact ⟨rfl,rfl⟩))
  (fun os started H enc _=>berrors_lifted os started H enc)
end Go.Proofs.YtkhfdmelcpfgoaaGreat
