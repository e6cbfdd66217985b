/-
  A part of the proof of this claim's statement (SyW2, SyW3, SyW4, SyW5): plain theorems; no conditions beyond those each names.
-/
import Derived.Test.YtcoeknnghfajnaaGreatPk16
set_option maxRecDepth 100000
set_option linter.unusedSimpArgs false
set_option linter.unusedVariables false
set_option linter.unusedSectionVars false
section
namespace Go.Proofs.YtcoeknnghfajnaaGreat
open Go Go.W Go.Tk Go.Rx Go.Bd Go.Sy Go.Maps
theorem firstL_at {vars:List Nat} {v:Nat} (h:v < vars.length):(firstL vars)[v]? = some (bP vars v):=by simp [firstL,h]
theorem widthL_at {vars:List Nat} {v n:Nat} (h:vars[v]? = some n):(widthL vars)[v]? = some (wd n):=by simp [widthL,h]
def vlB (vars:List Nat) (v x nx k:Nat) (a:Nat→Bool):Bool:=(List.range (wd (vars.getD v 0) - k)).all fun j=>decide (a (2 * (bP vars v+(k+j))+nx)=x.testBit (wd (vars.getD v 0) - 1 - (k+j)))
theorem vlB_all {vars:List Nat} {v x nx:Nat} {a:Nat→Bool} (hx:x < 2 ^ wd (vars.getD v 0)):vlB vars v x nx 0 a=decide (rv vars a nx v=x):=by
 rw [Bool.eq_iff_iff,decide_eq_true_iff]
 unfold vlB rv
 rw [←valK_eq _ _ hx,List.all_eq_true]
 constructor
 ·intro h k hk
  have:=h k (List.mem_range.2 (by omega))
  simpa using this
 ·intro h k hk
  have:=h k (by have:=List.mem_range.1 hk; omega)
  simpa using this
theorem vlB_end {vars:List Nat} {v x nx:Nat} {a:Nat→Bool}:vlB vars v x nx (wd (vars.getD v 0)) a=true:=by unfold vlB; simp
theorem vlB_step {vars:List Nat} {v x nx k:Nat} {a:Nat→Bool} (hk:k < wd (vars.getD v 0)):vlB vars v x nx k a=(decide (a (2 * (bP vars v+k)+nx)=x.testBit (wd (vars.getD v 0) - 1 - k)) && vlB vars v x nx (k+1) a):=by
 unfold vlB
 rw [show wd (vars.getD v 0) - k=(wd (vars.getD v 0) - (k+1))+1 by omega,List.range_succ_eq_map,List.all_cons,List.all_map]
 congr 1
 refine congrArg (fun f=>(List.range (wd (vars.getD v 0) - (k+1))).all f) ?_
 funext j
 simp only [Function.comp]
 rw [show k+j.succ=k+1+j by omega]
def LitW (vars:List Nat) (W:((Nat→Bool)→Bool)→Prop):Prop:=∀i,i < 2 * nBits vars→W (fun a=>a i)∧W fun a=>!a i
def VlW (vars:List Nat) (v x nx:Nat) (W:((Nat→Bool)→Bool)→Prop):Prop:=∀j,j < wd (vars.getD v 0)→W (vlB vars v x nx j)
def VlI (b s m lim:Nat) (vars:List Nat) (q:SpC) (e:Bool) (ns:Ns) (B:Asr) (w:World) (F:List Nat) (W:((Nat→Bool)→Bool)→Prop) (v x nx n:Nat) (ρ:Env) (w':World):Prop :=
 ρ 0=.pointer (some ⟨b,0,none⟩)∧ρ 1=.int .i64 (v:Nat)∧ρ 2=.int .i64 (x:Nat)∧ρ 3=.int .i64 (nx:Nat)∧ρ 10=.int .i64 (wd (vars.getD v 0):Nat)∧ρ 11=.int .i64 ((n:Int) - 1)∧n≤wd (vars.getD v 0) ∧
  ∃f e' ns',ρ 9=.int .i64 (f:Nat)∧Stp (2 * nBits vars) lim W e ns e' ns'∧Mn ns' e' f (vlB vars v x nx n)∧At w F (BlA b s m lim vars q e' ns' B) w'
theorem shr_and {x d:Nat} (hx:x < 4294967296) (hd:d < 64):IntKind.i64.wrap (((((x:Int).fdiv (2 ^ min d IntKind.i64.bits)) % 2 ^ IntKind.i64.bits).toNat &&& 1 % 2 ^ IntKind.i64.bits:Nat):Int)=if x.testBit d=true then 1 else 0:=by
 have hb:IntKind.i64.bits=64:=rfl
 have e1:(x:Int).fdiv (2 ^ d)=((x / 2 ^ d:Nat):Int):=by
  have:((2:Int) ^ d)=((2 ^ d:Nat):Int):=by simp
  rw [this]
  exact (Int.ofNat_fdiv x (2 ^ d)).symm
 rw [hb,Nat.min_eq_left (by omega),e1]
 have hy:x / 2 ^ d≤x:=Nat.div_le_self _ _
 obtain ⟨y,hy2⟩:∃y,y=x / 2 ^ d:=⟨_,rfl⟩
 rw [←hy2] at hy ⊢
 have e2:((y:Int) % 2 ^ 64).toNat=y:=by omega
 have e4:(1 % 2 ^ 64:Nat)=1:=by decide
 rw [e2,e4,Nat.and_one_is_mod]
 have e3:x.testBit d=decide (y % 2=1):=by rw [hy2,Nat.testBit_eq_decide_div_mod_eq]
 rw [e3]
 by_cases h:y % 2=1
 ·rw [h]; decide
 ·have:y % 2=0:=by omega
  rw [this]; decide
section
variable {w w1:World} {F:List Nat} {B:Asr} {b s m lim:Nat} {vars:List Nat} {q:SpC} {e:Bool} {ns:Ns} {W:((Nat→Bool)→Bool)→Prop}
theorem one_mn (hw:Wf (2 * nBits vars) ns) (e:Bool) (G:(Nat→Bool)→Bool) (hG:∀a,G a=true):Mn ns e 1 G:=⟨by omega,fun _=>⟨Ref.one ns,fun a=>by rw [eval_one,hG]⟩⟩
theorem Mn.keep {n lim:Nat} {W:((Nat→Bool)→Bool)→Prop} {ns ns':Ns} {e e':Bool} {x:Nat} {G:(Nat→Bool)→Bool} (h:Mn ns e x G) (hw:Wf n ns) (hs:Stp n lim W e ns e' ns'):Mn ns' e' x G:=by
 refine ⟨h.1,fun he=>?_⟩
 cases e with
 | true =>
  rw [(hs.bad rfl).1] at he
  cases he
 | false=>exact h.ext hw hs.ext
set_option maxHeartbeats 1000000 in
theorem bValue_spec (v x nx:Nat) (hk:SpOk vars lim ns) (hB:Lcl B) (h:At w F (BlA b s m lim vars q e ns B) w1) (hv:v < vars.length) (hx:x < 2 ^ wd (vars.getD v 0)) (hn:nx < 2) (hL:LitW vars W) (hV:VlW vars v x nx W) :
  Calls Tryz.prog 32 [.pointer (some ⟨b,0,none⟩),.int .i64 (v:Nat),.int .i64 (x:Nat),.int .i64 (nx:Nat)].toArray w1 fun en w'=>∃u,en=.returned u∧BPost b s m lim vars q e ns B w F W (fun a=>decide (rv vars a nx v=x)) u w':=by
 refine enter Tryz.func32 mixed low32 (Nat.le_of_ble_eq_true rfl) ?_
 simp only [L32]
 have h':=h
 unfold BlA at h'
 have ob:=h'.drop.obj
 have os:=h'.drop.drop.obj
 have hwv:=h'.drop.drop.drop.drop.own.vw
 unfold blO at ob
 unfold spO at os
 obtain ⟨n,hvn⟩:∃n,vars[v]? = some n:=⟨_,List.getElem?_eq_getElem hv⟩
 have hnd:vars.getD v 0=n:=by simp [List.getD,hvn]
 have hw6:=wd_le n
 obtain ⟨Wn,hW⟩:∃Wn,Wn=wd (vars.getD v 0):=⟨_,rfl⟩
 have hWn:wd n=Wn:=by rw [hW,hnd]
 have hvi:(v:Int) < (widthL vars).length:=by simp [widthL]; omega
 have hwc:=nE_cell hwv (widthL_at hvn)
 rw [hWn] at hwc
 simp (disch:=omega) [cell_blk ob,cell_blk os,hwv.idx,hwc,wrap_i64]
 refine loop_inv (VlI b s m lim vars q e ns B w F W v x nx) Wn ⟨by simp,by simp,by simp,by simp,by simp [hW],by simp,by rw [hW]; exact Nat.le_refl _,1,e,ns,by simp,Stp.refl hk.wf hk.nl,one_mn hk.wf _ _ fun a=>by rw [hW]; exact vlB_end,h⟩ ?_
 clear h h' ob os hwv hwc
 rintro k ρ w2 ⟨g0,g1,g2,g3,g10,g11,hkW,f,e2,ns2,g9,hs,hm,h2⟩
 rw [←hW] at g10 hkW
 by_cases hk0:k=0
 ·subst hk0
  simp [g11,g9]
  refine ⟨f,e2,ns2,rfl,hs,?_,h2⟩
  exact ⟨hm.1,fun he=>⟨(hm.2 he).1,fun a=>by rw [(hm.2 he).2 a,vlB_all hx]⟩⟩
 obtain ⟨j,rfl⟩:∃j,k=j+1:=⟨k - 1,by omega⟩
 have hj11:((j+1:Nat):Int) - 1=(j:Int):=by omega
 rw [hj11] at g11
 have hk2:=hk.stp hs
 have h2':=h2
 unfold BlA at h2'
 have ob:=h2'.drop.obj
 have os:=h2'.drop.drop.obj
 have hfv:=h2'.drop.drop.drop.own.vw
 unfold blO at ob
 unfold spO at os
 have hfc:=nE_cell hfv (firstL_at hv)
 have hvf:(v:Int) < (firstL vars).length:=by simp [firstL]; omega
 have hbp:=bP_in hvn (show j < wd n by omega)
 have hbt:=hk.bt
 obtain ⟨i,hi⟩:∃i,i=2 * (bP vars v+j)+nx:=⟨_,rfl⟩
 have ei1:(bP vars v:Int)+(j:Int)=((bP vars v+j:Nat):Int):=by omega
 obtain ⟨p2,hp2⟩:∃p,p=bP vars v+j:=⟨_,rfl⟩
 rw [←hp2] at hi ei1 hbp
 have ei2:2 * (p2:Int)=((2 * p2:Nat):Int):=by omega
 obtain ⟨p3,hp3⟩:∃p,p=2 * p2:=⟨_,rfl⟩
 rw [←hp3] at hi ei2
 have ei3:(p3:Int)+(nx:Int)=(i:Int):=by omega
 simp (disch:=omega) [g11,g0,g1,g3,cell_blk ob,cell_blk os,hfv.idx,hfc,ei1,ei2,ei3,wrap_i64]
 refine cl_of (bBit_spec i hk2 hB h2 (by omega) (hL i (by omega)).1) ?_
 rintro _ w3 ⟨y,e3,ns3,rfl,hs3,hm3,h3⟩
 have hk3:=hk2.stp hs3
 have hxW:x < 64:=by
  have h64:2 ^ Wn≤2 ^ 6:=Nat.pow_le_pow_right (by omega) (by omega)
  rw [←hW] at hx
  omega
 obtain ⟨d,hd⟩:∃d,d=Wn - 1 - j:=⟨_,rfl⟩
 have ed1:(Wn:Int) - 1=((Wn - 1:Nat):Int):=by omega
 have ed:((Wn - 1:Nat):Int) - (j:Int)=(d:Int):=by omega
 have hsa:=shr_and (x:=x) (d:=d) (by omega) (by omega)
 have hf3:=hm.keep hk2.wf hs3
 have hstep:∀a,vlB vars v x nx j a=(decide (a i=x.testBit d) && vlB vars v x nx (j+1) a):=fun a=>by
  rw [vlB_step (by rw [←hW]; omega),←hW,←hp2,←hp3,←hi,←hd]
 have hand:W fun a=>decide (a i=x.testBit d) && vlB vars v x nx (j+1) a:=by
  rw [←show vlB vars v x nx j=fun a=>decide (a i=x.testBit d) && vlB vars v x nx (j+1) a from funext hstep]
  exact hV j (by rw [←hW]; omega)
 have fin:∀(e5:Bool) (ns5:Ns),Stp (2 * nBits vars) lim W e2 ns2 e5 ns5→∀(u:Nat) (e6:Bool) (ns6:Ns),Stp (2 * nBits vars) lim W e5 ns5 e6 ns6→Mn ns6 e6 u (fun a=>decide (a i=x.testBit d) && vlB vars v x nx (j+1) a)→Stp (2 * nBits vars) lim W e ns e6 ns6∧Mn ns6 e6 u (vlB vars v x nx j):=fun e5 ns5 a1 u e6 ns6 a4 a5 =>
  ⟨(hs.trans a1).trans a4,a5.1,fun he=>⟨(a5.2 he).1,fun a=>by rw [(a5.2 he).2 a,hstep a]⟩⟩
 by_cases hbit:x.testBit d=true
 ·rw [if_pos hbit] at hsa
  simp (disch:=omega) [g0,g2,g9,g10,g11,ed1,ed,wrap_i64,hsa]
  have hm3b:Mn ns3 e3 y (fun a=>decide (a i=x.testBit d)):=⟨hm3.1,fun he=>⟨(hm3.2 he).1,fun a=>by rw [(hm3.2 he).2 a,hbit]; show a i=decide (a i=true); cases a i <;> rfl⟩⟩
  refine cl_of (bAnd_spec y f _ _ hk3 hB h3 hm3b hf3 hand) ?_
  rintro _ w4 ⟨u,e4,ns4,rfl,hs4,hm4,h4⟩
  obtain ⟨r1,r2⟩:=fin e3 ns3 hs3 u e4 ns4 hs4 hm4
  simp (disch:=omega) [g11,wrap_i64]
  refine ⟨j,by omega,by simp [g0],by simp [g1],by simp [g2],by simp [g3],by simp [g10,hW],by simp,by rw [←hW]; omega,u,e4,ns4,by simp,r1,r2,h4⟩
 ·rw [if_neg hbit] at hsa
  have hbit2:x.testBit d=false:=by simpa using hbit
  simp (disch:=omega) [g0,g2,g9,g10,g11,ed1,ed,wrap_i64,hsa]
  refine cl_of (bNot_spec y _ hk3 hB h3 hm3 (hL i (by omega)).2) ?_
  rintro _ w5 ⟨z,e5,ns5,rfl,hs5,hm5,h5⟩
  have hk5:=hk3.stp hs5
  have hf5:=hf3.keep hk3.wf hs5
  have hm5b:Mn ns5 e5 z (fun a=>decide (a i=x.testBit d)):=⟨hm5.1,fun he=>⟨(hm5.2 he).1,fun a=>by rw [(hm5.2 he).2 a,hbit2]; show (!a i)=decide (a i=false); cases a i <;> rfl⟩⟩
  simp [g0,g9]
  refine cl_of (bAnd_spec z f _ _ hk5 hB h5 hm5b hf5 hand) ?_
  rintro _ w4 ⟨u,e4,ns4,rfl,hs4,hm4,h4⟩
  obtain ⟨r1,r2⟩:=fin e5 ns5 (hs3.trans hs5) u e4 ns4 hs4 hm4
  simp (disch:=omega) [g11,wrap_i64]
  refine ⟨j,by omega,by simp [g0],by simp [g1],by simp [g2],by simp [g3],by simp [g10,hW],by simp,by rw [←hW]; omega,u,e4,ns4,by simp,r1,r2,h4⟩
end
end Go.Proofs.YtcoeknnghfajnaaGreat
end
section
namespace Go.Proofs.YtcoeknnghfajnaaGreat
open Go Go.W Go.Tk Go.Rx Go.Bd Go.Sy Go.Maps
def fcB (vars:List Nat) (l:List Go.Tk.Fc) (k:Nat) (a:Nat→Bool):Bool:=(l.drop k).all fun f=>decide (rv vars a 0 f.1=f.2)
theorem fcB_step {vars:List Nat} {l:List Go.Tk.Fc} {k:Nat} {f:Go.Tk.Fc} {a:Nat→Bool} (h:l[k]? = some f):fcB vars l k a=(decide (rv vars a 0 f.1=f.2) && fcB vars l (k+1) a):=by
 obtain ⟨hk,rfl⟩:=List.getElem?_eq_some_iff.1 h
 unfold fcB
 rw [List.drop_eq_getElem_cons hk,List.all_cons]
theorem fcB_end {vars:List Nat} {l:List Go.Tk.Fc} {a:Nat→Bool}:fcB vars l l.length a=true:=by unfold fcB; simp
theorem fcB_all {vars:List Nat} {l:List Go.Tk.Fc} {a:Nat→Bool} (h:∀f ∈ l,f.1 < vars.length):fcB vars l 0 a=hdB (rs vars a 0) l:=by
 unfold fcB hdB
 rw [List.drop_zero,Bool.eq_iff_iff,List.all_eq_true,List.all_eq_true]
 constructor
 ·intro h1 f hf
  have:=h1 f hf
  rw [rs_at (h f hf)]
  exact this
 ·intro h1 f hf
  have:=h1 f hf
  rw [rs_at (h f hf)] at this
  exact this
def FcI (b s m lim:Nat) (vars:List Nat) (q:SpC) (e:Bool) (ns:Ns) (B:Asr) (w:World) (F:List Nat) (W:((Nat→Bool)→Bool)→Prop) (lv:Value) (l:List Go.Tk.Fc) (n:Nat) (ρ:Env) (w':World):Prop :=
 ρ 0=.pointer (some ⟨b,0,none⟩)∧ρ 1=lv∧ρ 6=.int .i64 ((n:Int) - 1)∧n≤l.length ∧
  ∃f e' ns',ρ 5=.int .i64 (f:Nat)∧Stp (2 * nBits vars) lim W e ns e' ns'∧Mn ns' e' f (fcB vars l n)∧At w F (BlA b s m lim vars q e' ns' B) w'
def FcW (vars:List Nat) (l:List Go.Tk.Fc) (W:((Nat→Bool)→Bool)→Prop):Prop:=(∀f ∈ l,VlW vars f.1 f.2 0 W)∧∀j,j < l.length→W (fcB vars l j)
def Rds (B:Asr) (P:World→Prop):Prop:=∀w' F',B w' F'→P w'
theorem BlA.frame {w w1:World} {F:List Nat} {B:Asr} {b s m lim:Nat} {vars:List Nat} {q:SpC} {e:Bool} {ns:Ns} {P:World→Prop} (h:At w F (BlA b s m lim vars q e ns B) w1) (hP:Rds B P):P w1:=by
 unfold BlA at h
 obtain ⟨_,hq,_⟩:=h.drop.drop.drop.drop.drop.ex
 exact hP _ _ hq
section
variable {w w1:World} {F:List Nat} {B:Asr} {b s m lim:Nat} {vars:List Nat} {q:SpC} {e:Bool} {ns:Ns} {W:((Nat→Bool)→Bool)→Prop}
set_option maxHeartbeats 1000000 in
theorem bFacts_spec (lv:Value) (l:List Go.Tk.Fc) (hk:SpOk vars lim ns) (hB:Lcl B) (h:At w F (BlA b s m lim vars q e ns B) w1) (hl:Rds B fun w'=>Vw w' lv fcE l) (hr:FcRng vars l) (hll:l.length≤1000) (hL:LitW vars W) (hF:FcW vars l W) :
  Calls Tryz.prog 35 [.pointer (some ⟨b,0,none⟩),lv].toArray w1 fun en w'=>∃u,en=.returned u∧BPost b s m lim vars q e ns B w F W (fun a=>hdB (rs vars a 0) l) u w':=by
 refine enter Tryz.func35 mixed low35 (Nat.le_of_ble_eq_true rfl) ?_
 simp only [L35]
 have hv1:=BlA.frame h hl
 simp (disch:=omega) [hv1.len,wrap_i64]
 refine loop_inv (FcI b s m lim vars q e ns B w F W lv l) l.length ⟨by simp,by simp,by simp,Nat.le_refl _,1,e,ns,by simp,Stp.refl hk.wf hk.nl,one_mn hk.wf _ _ fun a=>fcB_end,h⟩ ?_
 clear h hv1
 rintro n ρ w2 ⟨g0,g1,g6,hnl,f,e2,ns2,g5,hs,hm,h2⟩
 by_cases hn0:n=0
 ·subst hn0
  simp [g6,g5]
  refine ⟨f,e2,ns2,rfl,hs,?_,h2⟩
  exact ⟨hm.1,fun he=>⟨(hm.2 he).1,fun a=>by rw [(hm.2 he).2 a,fcB_all fun f hf=>(hr f hf).1]⟩⟩
 obtain ⟨j,rfl⟩:∃j,n=j+1:=⟨n - 1,by omega⟩
 have hj6:((j+1:Nat):Int) - 1=(j:Int):=by omega
 rw [hj6] at g6
 have hk2:=hk.stp hs
 obtain ⟨x,hx⟩:∃x,l[j]? = some x:=⟨_,List.getElem?_eq_getElem (by omega)⟩
 obtain ⟨r1,r2⟩:=hr x (List.mem_of_getElem? hx)
 have hd:=(Kp.refl [] w2).drew
 have hv2:=BlA.frame h2 hl
 have c1:=hv2.fld fcE_len hx (o:=0) rfl
 have c2:=hv2.fld fcE_len hx (o:=1) rfl
 have hji:(j:Int) < l.length:=by omega
 have h2d:=h2.drew (BlA.lcl hB)
 have h64:=hk.v64 (vars.getD x.1 0) (by simp [List.getD,List.getElem?_eq_getElem r1])
 have hx2:x.2 < 2 ^ wd (vars.getD x.1 0):=Nat.lt_of_lt_of_le r2 (wd_ge h64.2)
 simp (disch:=omega) [g6,g0,g1,g5,hv2.idx,c1,c2]
 have hand:W fun a=>decide (rv vars a 0 x.1=x.2) && fcB vars l (j+1) a:=by
  have:=hF.2 j (by omega)
  rwa [show fcB vars l j=fun a=>decide (rv vars a 0 x.1=x.2) && fcB vars l (j+1) a from funext fun a=>fcB_step hx] at this
 refine cl_of (bValue_spec x.1 x.2 0 hk2 hB h2d r1 hx2 (by omega) hL (hF.1 x (List.mem_of_getElem? hx))) ?_
 rintro _ w3 ⟨y,e3,ns3,rfl,hs3,hm3,h3⟩
 have hk3:=hk2.stp hs3
 simp [g0,g5]
 refine cl_of (bAnd_spec y f _ _ hk3 hB h3 hm3 (hm.keep hk2.wf hs3) hand) ?_
 rintro _ w4 ⟨u,e4,ns4,rfl,hs4,hm4,h4⟩
 simp (disch:=omega) [g6,wrap_i64]
 refine ⟨j,by omega,by simp [g0],by simp [g1],by simp,by omega,u,e4,ns4,by simp,(hs.trans hs3).trans hs4,⟨hm4.1,fun he=>⟨(hm4.2 he).1,fun a=>by rw [(hm4.2 he).2 a,fcB_step hx]⟩⟩,h4⟩
def saB (vars:List Nat) (v k:Nat) (a:Nat→Bool):Bool:=(List.range (wd (vars.getD v 0) - k)).all fun j=>decide (a (2 * (bP vars v+(k+j)))=a (2 * (bP vars v+(k+j))+1))
theorem saB_end {vars:List Nat} {v:Nat} {a:Nat→Bool}:saB vars v (wd (vars.getD v 0)) a=true:=by unfold saB; simp
theorem saB_step {vars:List Nat} {v k:Nat} {a:Nat→Bool} (hk:k < wd (vars.getD v 0)):saB vars v k a=(decide (a (2 * (bP vars v+k))=a (2 * (bP vars v+k)+1)) && saB vars v (k+1) a):=by
 unfold saB
 rw [show wd (vars.getD v 0) - k=(wd (vars.getD v 0) - (k+1))+1 by omega,List.range_succ_eq_map,List.all_cons,List.all_map]
 congr 1
 refine congrArg (fun f=>(List.range (wd (vars.getD v 0) - (k+1))).all f) ?_
 funext j
 simp only [Function.comp]
 rw [show k+j.succ=k+1+j by omega]
theorem saB_all {vars:List Nat} {v:Nat} {a:Nat→Bool}:saB vars v 0 a=decide (rv vars a 0 v=rv vars a 1 v):=by
 rw [Bool.eq_iff_iff,decide_eq_true_iff]
 unfold saB
 rw [List.all_eq_true]
 constructor
 ·intro h
  unfold rv
  refine valK_congr _ fun k hk=>?_
  have:=h k (List.mem_range.2 (by omega))
  simpa using this
 ·intro h k hk
  have hk:=List.mem_range.1 hk
  have h1:=(valK_eq (g:=fun k=>a (2 * (bP vars v+k)+0)) _ _ (rv_lt vars a 0 v)).2 rfl k (by omega)
  have h2:=(valK_eq (g:=fun k=>a (2 * (bP vars v+k)+1)) _ _ (rv_lt vars a 1 v)).2 rfl k (by omega)
  rw [←h] at h2
  have:=h1.trans h2.symm
  simpa using this
def SaW (vars:List Nat) (v:Nat) (W:((Nat→Bool)→Bool)→Prop):Prop:=∀j,j < wd (vars.getD v 0)→W (fun a=>a (2 * (bP vars v+j)) && a (2 * (bP vars v+j)+1))∧W (fun a=>!a (2 * (bP vars v+j)) && !a (2 * (bP vars v+j)+1)) ∧
 W (fun a=>(a (2 * (bP vars v+j)) && a (2 * (bP vars v+j)+1)) || (!a (2 * (bP vars v+j)) && !a (2 * (bP vars v+j)+1)))∧W (saB vars v j)
def SaI (b s m lim:Nat) (vars:List Nat) (q:SpC) (e:Bool) (ns:Ns) (B:Asr) (w:World) (F:List Nat) (W:((Nat→Bool)→Bool)→Prop) (v n:Nat) (ρ:Env) (w':World):Prop :=
 ρ 0=.pointer (some ⟨b,0,none⟩)∧ρ 1=.int .i64 (v:Nat)∧ρ 6=.int .i64 ((n:Int) - 1)∧n≤wd (vars.getD v 0) ∧
  ∃f e' ns',ρ 5=.int .i64 (f:Nat)∧Stp (2 * nBits vars) lim W e ns e' ns'∧Mn ns' e' f (saB vars v n)∧At w F (BlA b s m lim vars q e' ns' B) w'
set_option maxHeartbeats 2000000 in
theorem bSame_spec (v:Nat) (hk:SpOk vars lim ns) (hB:Lcl B) (h:At w F (BlA b s m lim vars q e ns B) w1) (hv:v < vars.length) (hL:LitW vars W) (hS:SaW vars v W) :
  Calls Tryz.prog 90 [.pointer (some ⟨b,0,none⟩),.int .i64 (v:Nat)].toArray w1 fun en w'=>∃u,en=.returned u∧BPost b s m lim vars q e ns B w F W (fun a=>decide (rv vars a 0 v=rv vars a 1 v)) u w':=by
 refine enter Tryz.func90 mixed low90 (Nat.le_of_ble_eq_true rfl) ?_
 simp only [L90]
 have h':=h
 unfold BlA at h'
 have ob:=h'.drop.obj
 have os:=h'.drop.drop.obj
 have hwv:=h'.drop.drop.drop.drop.own.vw
 unfold blO at ob
 unfold spO at os
 obtain ⟨n,hvn⟩:∃n,vars[v]? = some n:=⟨_,List.getElem?_eq_getElem hv⟩
 have hnd:vars.getD v 0=n:=by simp [List.getD,hvn]
 have hw6:=wd_le n
 obtain ⟨Wn,hW⟩:∃Wn,Wn=wd (vars.getD v 0):=⟨_,rfl⟩
 have hWn:wd n=Wn:=by rw [hW,hnd]
 have hvi:(v:Int) < (widthL vars).length:=by simp [widthL]; omega
 have hwc:=nE_cell hwv (widthL_at hvn)
 rw [hWn] at hwc
 simp (disch:=omega) [cell_blk ob,cell_blk os,hwv.idx,hwc,wrap_i64]
 refine loop_inv (SaI b s m lim vars q e ns B w F W v) Wn ⟨by simp,by simp,by simp,by rw [hW]; exact Nat.le_refl _,1,e,ns,by simp,Stp.refl hk.wf hk.nl,one_mn hk.wf _ _ fun a=>by rw [hW]; exact saB_end,h⟩ ?_
 clear h h' ob os hwv hwc
 rintro k ρ w2 ⟨g0,g1,g6,hkW,f,e2,ns2,g5,hs,hm,h2⟩
 rw [←hW] at hkW
 by_cases hk0:k=0
 ·subst hk0
  simp [g6,g5]
  refine ⟨f,e2,ns2,rfl,hs,?_,h2⟩
  exact ⟨hm.1,fun he=>⟨(hm.2 he).1,fun a=>by rw [(hm.2 he).2 a,saB_all]⟩⟩
 obtain ⟨j,rfl⟩:∃j,k=j+1:=⟨k - 1,by omega⟩
 have hj6:((j+1:Nat):Int) - 1=(j:Int):=by omega
 rw [hj6] at g6
 have hk2:=hk.stp hs
 have h2':=h2
 unfold BlA at h2'
 have ob:=h2'.drop.obj
 have os:=h2'.drop.drop.obj
 have hfv:=h2'.drop.drop.drop.own.vw
 unfold blO at ob
 unfold spO at os
 have hfc:=nE_cell hfv (firstL_at hv)
 have hvf:(v:Int) < (firstL vars).length:=by simp [firstL]; omega
 have hbp:=bP_in hvn (show j < wd n by omega)
 have hbt:=hk.bt
 have ei1:(bP vars v:Int)+(j:Int)=((bP vars v+j:Nat):Int):=by omega
 obtain ⟨p2,hp2⟩:∃p,p=bP vars v+j:=⟨_,rfl⟩
 rw [←hp2] at ei1 hbp
 have ei2:2 * (p2:Int)=((2 * p2:Nat):Int):=by omega
 obtain ⟨i,hi⟩:∃i,i=2 * p2:=⟨_,rfl⟩
 rw [←hi] at ei2
 obtain ⟨i1,hi1⟩:∃i1,i1=i+1:=⟨_,rfl⟩
 have ei3:(i:Int)+1=(i1:Int):=by omega
 have hstep:∀a,saB vars v j a=(decide (a i=a i1) && saB vars v (j+1) a):=fun a=>by
  rw [saB_step (by rw [←hW]; omega),←hp2,←hi,←hi1]
 obtain ⟨w1,w2',w3',w4'⟩:=hS j (by rw [←hW]; omega)
 rw [←hp2,←hi,←hi1] at w1 w2' w3'
 have hst2:saB vars v j=fun a=>saB vars v (j+1) a && ((a i && a i1) || (!a i && !a i1)):=funext fun a=>by
  rw [hstep a]
  cases a i <;> cases a i1 <;> simp
 rw [hst2] at w4'
 simp (disch:=omega) [g6,g0,g1,cell_blk ob,cell_blk os,hfv.idx,hfc,ei1,ei2,wrap_i64]
 refine cl_of (bBit_spec i hk2 hB h2 (by omega) (hL i (by omega)).1) ?_
 rintro _ w3 ⟨y1,e3,ns3,rfl,hs3,hm3,h3⟩
 have hk3:=hk2.stp hs3
 simp (disch:=omega) [g0,ei3,wrap_i64]
 refine cl_of (bBit_spec i1 hk3 hB h3 (by omega) (hL i1 (by omega)).1) ?_
 rintro _ w4 ⟨y2,e4,ns4,rfl,hs4,hm4,h4⟩
 have hk4:=hk3.stp hs4
 have hm34:=hm3.keep hk3.wf hs4
 simp [g0,g5]
 refine cl_of (bAnd_spec y1 y2 _ _ hk4 hB h4 hm34 hm4 w1) ?_
 rintro _ w5 ⟨y3,e5,ns5,rfl,hs5,hm5,h5⟩
 have hk5:=hk4.stp hs5
 simp [g0]
 refine cl_of (bNot_spec y1 _ hk5 hB h5 (hm34.keep hk4.wf hs5) (hL i (by omega)).2) ?_
 rintro _ w6 ⟨y4,e6,ns6,rfl,hs6,hm6,h6⟩
 have hk6:=hk5.stp hs6
 simp [g0]
 refine cl_of (bNot_spec y2 _ hk6 hB h6 ((hm4.keep hk4.wf hs5).keep hk5.wf hs6) (hL i1 (by omega)).2) ?_
 rintro _ w7 ⟨y5,e7,ns7,rfl,hs7,hm7,h7⟩
 have hk7:=hk6.stp hs7
 simp [g0]
 refine cl_of (bAnd_spec y4 y5 _ _ hk7 hB h7 (hm6.keep hk6.wf hs7) hm7 w2') ?_
 rintro _ w8 ⟨y6,e8,ns8,rfl,hs8,hm8,h8⟩
 have hk8:=hk7.stp hs8
 simp [g0]
 refine cl_of (bOr_spec y3 y6 _ _ hk8 hB h8 (((hm5.keep hk5.wf hs6).keep hk6.wf hs7).keep hk7.wf hs8) hm8 w3') ?_
 rintro _ w9 ⟨y7,e9,ns9,rfl,hs9,hm9,h9⟩
 have hk9:=hk8.stp hs9
 have hf9:=((((((hm.keep hk2.wf hs3).keep hk3.wf hs4).keep hk4.wf hs5).keep hk5.wf hs6).keep hk6.wf hs7).keep hk7.wf hs8).keep hk8.wf hs9
 simp [g0,g5]
 refine cl_of (bAnd_spec f y7 _ _ hk9 hB h9 hf9 hm9 w4') ?_
 rintro _ w10 ⟨u,e10,ns10,rfl,hs10,hm10,h10⟩
 simp (disch:=omega) [g6,wrap_i64]
 refine ⟨j,by omega,by simp [g0],by simp [g1],by simp,by rw [←hW]; omega,u,e10,ns10,by simp,?_,⟨hm10.1,fun he=>⟨(hm10.2 he).1,fun a=>?_⟩⟩,h10⟩
 ·exact (((((((hs.trans hs3).trans hs4).trans hs5).trans hs6).trans hs7).trans hs8).trans hs9).trans hs10
 ·rw [(hm10.2 he).2 a,hstep a]
  show (saB vars v (j+1) a && ((a i && a i1) || (!a i && !a i1)))=_
  cases a i <;> cases a i1 <;> simp
end
end Go.Proofs.YtcoeknnghfajnaaGreat
end
section
namespace Go.Proofs.YtcoeknnghfajnaaGreat
open Go Go.W Go.Tk Go.Rx Go.Bd Go.Sy Go.Maps
theorem Rds.star {A B:Asr} {P:World→Prop} (h:Rds B P):Rds (Star A B) P:=fun w' F' hs=>by
 obtain ⟨Fa,Fb,_,hb,_⟩:=hs
 exact h w' Fb hb
theorem Rds.obj {B:Asr} {b:Nat} {o:Obj}:Rds (Star (ObjA b o) B) fun w'=>w'.heap[b]? = some o:=fun w' F' hs=>by
 obtain ⟨Fa,Fb,ha,_⟩:=hs
 exact ha.1
theorem BlA.into {w w1:World} {F:List Nat} {A B:Asr} {b s m lim:Nat} {vars:List Nat} {q:SpC} {e:Bool} {ns:Ns} (h:At w F (Star A (BlA b s m lim vars q e ns B)) w1):At w F (BlA b s m lim vars q e ns (Star A B)) w1:=by
 unfold BlA at h ⊢
 exact h.by Imp.bk6
theorem BlA.less {w w1:World} {F:List Nat} {A B:Asr} {b s m lim:Nat} {vars:List Nat} {q:SpC} {e:Bool} {ns:Ns} (h:At w F (BlA b s m lim vars q e ns (Star A B)) w1):At w F (BlA b s m lim vars q e ns B) w1:=by
 unfold BlA at h ⊢
 exact h.by (Imp.un4 (Imp.un Imp.dr))
def lsE (vars:List Nat) (o:No) (v n:Nat) (a:Nat→Bool):Option Nat:=lastE o (rs vars a 0) v (o.effs.length - n) n
def ouB (vars:List Nat) (o:No) (v n:Nat) (a:Nat→Bool):Bool:=match lsE vars o v n a with | some z=>decide (rv vars a 1 v=z) | none=>false
def leB (vars:List Nat) (o:No) (v n:Nat) (a:Nat→Bool):Bool:=(lsE vars o v n a).isNone
theorem lsE_end {vars:List Nat} {o:No} {v:Nat} {a:Nat→Bool}:lsE vars o v o.effs.length a=none:=by unfold lsE; rw [Nat.sub_self]; rfl
theorem lsE_step {vars:List Nat} {o:No} {v j:Nat} {a:Nat→Bool} {x:Nf} (h:o.effs[j]? = some x):lsE vars o v j a=(match lsE vars o v (j+1) a with
  | some z=>some z
  | none=>if x.v=v∧hdB (rs vars a 0) x.cnd=true then some x.x else none):=by
 have hj:=(List.getElem?_eq_some_iff.1 h).1
 unfold lsE
 rw [show o.effs.length - j=(o.effs.length - (j+1))+1 by omega,lastE_succ,h]
 cases lastE o (rs vars a 0) v (o.effs.length - (j+1)) (j+1) <;> rfl
theorem ou_skip {vars:List Nat} {o:No} {v j:Nat} {a:Nat→Bool} {x:Nf} (h:o.effs[j]? = some x) (hv:x.v≠v):ouB vars o v j a=ouB vars o v (j+1) a∧leB vars o v j a=leB vars o v (j+1) a:=by
 have:lsE vars o v j a=lsE vars o v (j+1) a:=by
  rw [lsE_step h]
  cases lsE vars o v (j+1) a with
  | some z=>rfl
  | none=>simp [hv]
 unfold ouB leB
 rw [this]
 exact ⟨rfl,rfl⟩
theorem ou_step {vars:List Nat} {o:No} {v j:Nat} {a:Nat→Bool} {x:Nf} (h:o.effs[j]? = some x) (hv:x.v=v):ouB vars o v j a=(ouB vars o v (j+1) a || (leB vars o v (j+1) a && hdB (rs vars a 0) x.cnd && decide (rv vars a 1 v=x.x)))∧leB vars o v j a=(leB vars o v (j+1) a && !hdB (rs vars a 0) x.cnd):=by
 unfold ouB leB
 rw [lsE_step h]
 cases lsE vars o v (j+1) a with
 | some z=>simp
 | none =>
  cases hc:hdB (rs vars a 0) x.cnd with
  | true=>simp [hv]
  | false=>simp
theorem chg_end {vars:List Nat} {o:No} {v:Nat} {a:Nat→Bool} (hv:v < vars.length):(ouB vars o v 0 a || (leB vars o v 0 a && decide (rv vars a 0 v=rv vars a 1 v)))=decide (rv vars a 1 v=chgV o (rs vars a 0) v):=by
 unfold ouB leB chgV lsE
 rw [Nat.sub_zero]
 cases lastE o (rs vars a 0) v o.effs.length 0 with
 | some z=>simp
 | none =>
  rw [Bool.eq_iff_iff]
  simp only [Option.isNone_none,Bool.true_and,Bool.false_or,decide_eq_true_eq,Option.getD_none,rs_at hv]
  exact eq_comm
structure ChW (vars:List Nat) (o:No) (v:Nat) (W:((Nat→Bool)→Bool)→Prop):Prop where
 sa:SaW vars v W
 kp:W fun a=>leB vars o v 0 a && decide (rv vars a 0 v=rv vars a 1 v)
 ch:W fun a=>decide (rv vars a 1 v=chgV o (rs vars a 0) v)
 fc:∀(j:Nat) (x:Nf),o.effs[j]? = some x→x.v=v→FcW vars x.cnd W
 vl:∀(j:Nat) (x:Nf),o.effs[j]? = some x→x.v=v→VlW vars v x.x 1 W
 lw:∀(j:Nat) (x:Nf),o.effs[j]? = some x→x.v=v→W fun a=>leB vars o v (j+1) a && hdB (rs vars a 0) x.cnd
 lv:∀(j:Nat) (x:Nf),o.effs[j]? = some x→x.v=v→W fun a=>(leB vars o v (j+1) a && hdB (rs vars a 0) x.cnd) && decide (rv vars a 1 v=x.x)
 ou:∀(j:Nat) (x:Nf),o.effs[j]? = some x→x.v=v→W (ouB vars o v j)
 nw:∀(j:Nat) (x:Nf),o.effs[j]? = some x→x.v=v→W fun a=>!hdB (rs vars a 0) x.cnd
 le:∀(j:Nat) (x:Nf),o.effs[j]? = some x→x.v=v→W (leB vars o v j)
def sChI (b s m lim:Nat) (vars:List Nat) (q:SpC) (e:Bool) (ns:Ns) (B:Asr) (w:World) (F:List Nat) (W:((Nat→Bool)→Bool)→Prop) (ob:Nat) (o:No) (v n:Nat) (ρ:Env) (w':World):Prop :=
 ρ 0=.pointer (some ⟨b,0,none⟩)∧ρ 2=.int .i64 (v:Nat)∧ρ 4=.pointer (some ⟨ob,0,none⟩)∧ρ 9=.int .i64 ((n:Int) - 1)∧n≤o.effs.length ∧
  ∃f g e' ns',ρ 7=.int .i64 (f:Nat)∧ρ 8=.int .i64 (g:Nat)∧Stp (2 * nBits vars) lim W e ns e' ns'∧Mn ns' e' f (ouB vars o v n)∧Mn ns' e' g (leB vars o v n)∧At w F (BlA b s m lim vars q e' ns' (Star (ObjA ob (oqO o.raw)) B)) w'
section
variable {w w1:World} {F:List Nat} {B:Asr} {b s m lim:Nat} {vars:List Nat} {q:SpC} {e:Bool} {ns:Ns} {W:((Nat→Bool)→Bool)→Prop}
set_option maxHeartbeats 2000000 in
theorem bChanged_spec (o:No) (v:Nat) (hk:SpOk vars lim ns) (hB:Lcl B) (h:At w F (BlA b s m lim vars q e ns B) w1) (hv:v < vars.length) (hr:Rds B fun w'=>NoR w' o) (hg:NoG vars o) (hL:LitW vars W) (hC:ChW vars o v W) :
  Calls Tryz.prog 79 [.pointer (some ⟨b,0,none⟩),noV o,.int .i64 (v:Nat)].toArray w1 fun en w'=>∃u,en=.returned u∧BPost b s m lim vars q e ns B w F W (fun a=>decide (rv vars a 1 v=chgV o (rs vars a 0) v)) u w':=by
 refine enter Tryz.func79 mixed low79 (Nat.le_of_ble_eq_true rfl) ?_
 simp only [L79]
 have helen:=hg.elen
 have hvl:=hk.len
 obtain ⟨ob,hob⟩:∃ob,ob=w1.heap.size:=⟨_,rfl⟩
 have h1:At w F (Star (ObjA ob (oqO o.raw)) (BlA b s m lim vars q e ns B)) (w1.alloc (oqO o.raw)):=by rw [hob]; exact h.alloc _ (BlA.lcl hB)
 obtain ⟨w2,hw2⟩:∃w2,w2=w1.alloc (oqO o.raw):=⟨_,rfl⟩
 rw [←hw2] at h1
 have hw2':w1.alloc (.cells #[.string o.name,.int .i64 (o.cost:Nat),o.pv.1,o.ev.1] 66 (0,0))=w2:=by rw [hw2]; rfl
 have h2:=BlA.into h1
 have hB2:Lcl (Star (ObjA ob (oqO o.raw)) B):=Lcl.obj.star hB
 have oo2:=BlA.frame h2 Rds.obj
 unfold oqO No.raw at oo2
 have ro2:=BlA.frame h2 hr.star
 simp (disch:=omega) [noV,←hob,hw2',cell_blk oo2,ro2.effs.len,wrap_i64]
 refine loop_inv (sChI b s m lim vars q e ns B w F W ob o v) o.effs.length ⟨by simp,by simp,by simp [hob],by simp,Nat.le_refl _,0,1,e,ns,by simp,by simp,Stp.refl hk.wf hk.nl,⟨Nat.zero_le _,fun _=>⟨Ref.zero ns,fun a=>by rw [eval_zero]; unfold ouB; rw [lsE_end]⟩⟩,one_mn hk.wf _ _ (fun a=>by unfold leB; rw [lsE_end]; rfl),h2⟩ ?_
 clear h h1 h2 oo2 ro2
 rintro n ρ w3 ⟨g0,g2,g4,g9,hnl,f,g,e3,ns3,g7,g8,hs,hmf,hmg,h3⟩
 have hk3:=hk.stp hs
 by_cases hn0:n=0
 ·subst hn0
  simp [g9,g0,g2]
  refine cl_of (bSame_spec v hk3 hB2 h3 hv hL hC.sa) ?_
  rintro _ w4 ⟨y,e4,ns4,rfl,hs4,hm4,h4⟩
  have hk4:=hk3.stp hs4
  simp [g0,g8]
  refine cl_of (bAnd_spec g y _ _ hk4 hB2 h4 (hmg.keep hk3.wf hs4) hm4 hC.kp) ?_
  rintro _ w5 ⟨y5,e5,ns5,rfl,hs5,hm5,h5⟩
  have hk5:=hk4.stp hs5
  simp [g0,g7]
  have hch:W fun a=>ouB vars o v 0 a || (leB vars o v 0 a && decide (rv vars a 0 v=rv vars a 1 v)):=by
   have:=hC.ch
   rwa [←show (fun a=>ouB vars o v 0 a || (leB vars o v 0 a && decide (rv vars a 0 v=rv vars a 1 v)))=fun a=>decide (rv vars a 1 v=chgV o (rs vars a 0) v) from funext fun a=>chg_end hv] at this
  refine cl_of (bOr_spec f y5 _ _ hk5 hB2 h5 ((hmf.keep hk3.wf hs4).keep hk4.wf hs5) hm5 hch) ?_
  rintro _ w6 ⟨u,e6,ns6,rfl,hs6,hm6,h6⟩
  simp
  refine ⟨u,e6,ns6,rfl,((hs.trans hs4).trans hs5).trans hs6,⟨hm6.1,fun he=>⟨(hm6.2 he).1,fun a=>?_⟩⟩,BlA.less h6⟩
  rw [(hm6.2 he).2 a]
  exact chg_end hv
 obtain ⟨j,rfl⟩:∃j,n=j+1:=⟨n - 1,by omega⟩
 have hj9:((j+1:Nat):Int) - 1=(j:Int):=by omega
 rw [hj9] at g9
 obtain ⟨x,hx⟩:∃x,o.effs[j]? = some x:=⟨_,List.getElem?_eq_getElem (by omega)⟩
 have hxm:=List.mem_of_getElem? hx
 have oo3:=BlA.frame h3 Rds.obj
 unfold oqO No.raw at oo3
 have ro3:=BlA.frame h3 hr.star
 have ec:=ro3.effs.cells nfE_len hx
 simp only [nfE] at ec
 have hji:(j:Int) < o.effs.length:=by omega
 obtain ⟨eb,heb⟩:∃eb,eb=w3.heap.size:=⟨_,rfl⟩
 simp (disch:=omega) [g9,g4,cell_blk oo3,ro3.effs.idx,ec,←heb]
 refine st_ef (e:=x.raw) (BlA.lcl hB2) h3 heb fun w4 h4=>?_
 have oe4:=h4.obj
 unfold efO Nf.raw at oe4
 by_cases hxv:x.v=v
 case neg =>
  have hxv':((x.v:Int) == (v:Int))=false:=by simp; omega
  have hxv2:¬(x.v:Int)=(v:Int):=by omega
  have hxv3:((x.v:Int) != (v:Int))=true:=by unfold bne; rw [hxv']; rfl
  simp (disch:=omega) [cell_blk oe4,←heb,g2,hxv3,g9,wrap_i64]
  refine ⟨j,by omega,by simp [g0],by simp [g2],by simp [g4],by simp,by omega,f,g,e3,ns3,by simp [g7],by simp [g8],hs,?_,?_,h4.by Imp.dr⟩
  ·exact ⟨hmf.1,fun he=>⟨(hmf.2 he).1,fun a=>by rw [(hmf.2 he).2 a,(ou_skip hx hxv).1]⟩⟩
  ·exact ⟨hmg.1,fun he=>⟨(hmg.2 he).1,fun a=>by rw [(hmg.2 he).2 a,(ou_skip hx hxv).2]⟩⟩
 have hxv':((x.v:Int) == (v:Int))=true:=by simp; omega
 have hxv2:(x.v:Int)=(v:Int):=by omega
 have hgc:=hg.cnd x hxm
 have hcl:=hgc.len
 obtain ⟨f1,f2⟩:=hg.eff x hxm
 have hxv3:((x.v:Int) != (v:Int))=false:=by unfold bne; rw [hxv']; rfl
 simp (disch:=omega) [cell_blk oe4,←heb,g2,hxv3,g0]
 have h4b:=BlA.into h4
 have hB4:Lcl (Star (ObjA eb (efO x.raw)) (Star (ObjA ob (oqO o.raw)) B)):=Lcl.obj.star hB2
 have hrc:Rds (Star (ObjA eb (efO x.raw)) (Star (ObjA ob (oqO o.raw)) B)) fun w'=>Vw w' x.wv.1 fcE x.cnd:=Rds.star (Rds.star fun w' F' hb=>(hr w' F' hb).cnd x hxm)
 have hw8:W fun a=>ouB vars o v (j+1) a || ((leB vars o v (j+1) a && hdB (rs vars a 0) x.cnd) && decide (rv vars a 1 v=x.x)):=by
  have:=hC.ou j x hx hxv
  rwa [show ouB vars o v j=fun a=>ouB vars o v (j+1) a || ((leB vars o v (j+1) a && hdB (rs vars a 0) x.cnd) && decide (rv vars a 1 v=x.x)) from funext fun a=>(ou_step hx hxv).1] at this
 have hw11:W fun a=>leB vars o v (j+1) a && !hdB (rs vars a 0) x.cnd:=by
  have:=hC.le j x hx hxv
  rwa [show leB vars o v j=fun a=>leB vars o v (j+1) a && !hdB (rs vars a 0) x.cnd from funext fun a=>(ou_step hx hxv).2] at this
 refine cl_of (bFacts_spec x.wv.1 x.cnd hk3 hB4 h4b hrc hgc.rng (by omega) hL (hC.fc j x hx hxv)) ?_
 rintro _ w5 ⟨y5,e5,ns5,rfl,hs5,hm5,h5⟩
 have hk5:=hk3.stp hs5
 have oe5:=BlA.frame h5 Rds.obj
 unfold efO Nf.raw at oe5
 have h5d:=h5.drew (BlA.lcl hB4)
 have h64:=hk.v64 (vars.getD x.v 0) (by simp [List.getD,List.getElem?_eq_getElem f1])
 have hx2:x.x < 2 ^ wd (vars.getD v 0):=by rw [←hxv]; exact Nat.lt_of_lt_of_le f2 (wd_ge h64.2)
 have mg5:=hmg.keep hk3.wf hs5
 have mf5:=hmf.keep hk3.wf hs5
 simp [g0,g8,cell_blk oe5,←heb]
 refine ⟨?_,?_⟩ <;>
 ·refine cl_of (bAnd_spec g y5 _ _ hk5 hB4 h5d mg5 hm5 (hC.lw j x hx hxv)) ?_
  rintro _ w6 ⟨y6,e6,ns6,rfl,hs6,hm6,h6⟩
  have hk6:=hk5.stp hs6
  have oe6:=BlA.frame h6 Rds.obj
  unfold efO Nf.raw at oe6
  simp [g0,g2,cell_blk oe6,←heb]
  refine cl_of (bValue_spec v x.x 1 hk6 hB4 h6 hv hx2 (by omega) hL (hC.vl j x hx hxv)) ?_
  rintro _ w7 ⟨y7,e7,ns7,rfl,hs7,hm7,h7⟩
  have hk7:=hk6.stp hs7
  simp [g0]
  refine cl_of (bAnd_spec y6 y7 _ _ hk7 hB4 h7 (hm6.keep hk6.wf hs7) hm7 (hC.lv j x hx hxv)) ?_
  rintro _ w8 ⟨y8,e8,ns8,rfl,hs8,hm8,h8⟩
  have hk8:=hk7.stp hs8
  simp [g0,g7]
  refine cl_of (bOr_spec f y8 _ _ hk8 hB4 h8 (((mf5.keep hk5.wf hs6).keep hk6.wf hs7).keep hk7.wf hs8) hm8 hw8) ?_
  rintro _ w9 ⟨y9,e9,ns9,rfl,hs9,hm9,h9⟩
  have hk9:=hk8.stp hs9
  have m59:=(((hm5.keep hk5.wf hs6).keep hk6.wf hs7).keep hk7.wf hs8).keep hk8.wf hs9
  have mg9:=(((mg5.keep hk5.wf hs6).keep hk6.wf hs7).keep hk7.wf hs8).keep hk8.wf hs9
  simp [g0]
  refine cl_of (bNot_spec y5 _ hk9 hB4 h9 m59 (hC.nw j x hx hxv)) ?_
  rintro _ w10 ⟨y10,e10,ns10,rfl,hs10,hm10,h10⟩
  have hk10:=hk9.stp hs10
  simp [g0,g8]
  refine cl_of (bAnd_spec g y10 _ _ hk10 hB4 h10 (mg9.keep hk9.wf hs10) hm10 hw11) ?_
  rintro _ w11 ⟨y11,e11,ns11,rfl,hs11,hm11,h11⟩
  have m9:=(hm9.keep hk9.wf hs10).keep hk10.wf hs11
  simp (disch:=omega) [g9,wrap_i64]
  refine ⟨j,by omega,by simp [g0],by simp [g2],by simp [g4],by simp,by omega,y9,y11,e11,ns11,by simp,by simp,((((((hs.trans hs5).trans hs6).trans hs7).trans hs8).trans hs9).trans hs10).trans hs11,?_,?_,BlA.less h11⟩
  ·exact ⟨m9.1,fun he=>⟨(m9.2 he).1,fun a=>by rw [(m9.2 he).2 a,(ou_step hx hxv).1]⟩⟩
  ·exact ⟨hm11.1,fun he=>⟨(hm11.2 he).1,fun a=>by rw [(hm11.2 he).2 a,(ou_step hx hxv).2]⟩⟩
end
end Go.Proofs.YtcoeknnghfajnaaGreat
end
section
namespace Go.Proofs.YtcoeknnghfajnaaGreat
open Go Go.W Go.Tk Go.Rx Go.Bd Go.Sy Go.Maps
def pvW (o:No):Cell1 × List Go.Tk.Fc:=(o.pv,o.pre)
def evW (o:No):Cell1 × List Nf:=(o.ev,o.effs)
def cdW (o:No):List (Cell1 × List Go.Tk.Fc):=o.effs.map fun e=>(e.wv,e.cnd)
def TskA (T:Nt):Asr:=Star (VwA T.vv.1 nE T.vars) (Star (VwA T.nv.1 nE T.init) (Star (VwA T.gv.1 fcE T.goal) (Star (VwA T.ov.1 noE T.ops) (Star (VwsA fcE (T.ops.map pvW)) (Star (VwsA nfE (T.ops.map evW)) (VwsA fcE (T.ops.flatMap cdW)))))))
theorem TskA.lcl {T:Nt}:Lcl (TskA T):=Lcl.vw.star (Lcl.vw.star (Lcl.vw.star (Lcl.vw.star (Lcl.vws.star (Lcl.vws.star Lcl.vws)))))
theorem TskA.rd {T:Nt} {B:Asr}:Rds (Star (TskA T) B) fun w'=>NtR w' T:=fun w' F' hs=>by
 obtain ⟨Fa,Fb,⟨F1,_,⟨h1,_⟩,⟨F2,_,⟨h2,_⟩,⟨F3,_,⟨h3,_⟩,⟨F4,_,⟨h4,_⟩,⟨F5,_,⟨h5,_⟩,⟨F6,F7,⟨h6,_⟩,⟨h7,_⟩,_⟩,_⟩,_⟩,_⟩,_⟩,_⟩,_⟩:=hs
 exact ⟨h1,h2,h3,h4,fun o ho=>⟨h5 (pvW o) (List.mem_map.2 ⟨o,ho,rfl⟩),h6 (evW o) (List.mem_map.2 ⟨o,ho,rfl⟩),fun e he=>h7 (e.wv,e.cnd) (List.mem_flatMap.2 ⟨o,ho,List.mem_map.2 ⟨e,he,rfl⟩⟩)⟩⟩
def boolV (b:Bool):Value:=.bool b
def KmA (km:Nat) (ks:List (Nat × Bool)):Asr:=MapA km natV boolV i64ok ks
def SmA (sm:Nat) (ss:List (Nat × Nat)):Asr:=MapA sm natV natV i64ok ss
def SpcA (s m lim:Nat) (T:Nt) (q:SpC) (ns:Ns) (ks:List (Nat × Bool)) (ss:List (Nat × Nat)) (B:Asr):Asr :=
 Star (MgrA m (2 * nBits T.vars) lim ns) (Star (ObjA s (spO m T.vars q)) (Star (OwnA q.fv 3 1 nE (firstL T.vars)) (Star (OwnA q.wv 3 1 nE (widthL T.vars)) (Star (KmA q.km ks) (Star (SmA q.sm ss) (Star (TskA T) B))))))
def RelOk (T:Nt) (ns:Ns) (p:Nat × Nat):Prop:=Ref ns p.2∧∃o,T.ops[p.1]? = some o∧∀a,eval ns a p.2=relB T o a
def SetOk (vars:List Nat) (ns:Ns) (f:Nat) (P:List Nat→Bool):Prop:=Ref ns f∧∀a,eval ns a f=(okB vars a && P (rs vars a 0))
structure SpG (lim:Nat) (T:Nt) (q:SpC) (ns:Ns) (ks:List (Nat × Bool)) (ss:List (Nat × Nat)):Prop where
 ok:SpOk T.vars lim ns
 g:NtG T
 cells:q.t0=T.vv.1∧q.t1=T.nv.1∧q.t2=T.gv.1∧q.t3=T.ov.1
 all:SetOk T.vars ns q.all fun _=>true
 set:∀p ∈ ks,p.2=true∧∃P,SetOk T.vars ns p.1 P
 rel:∀p ∈ ss,RelOk T ns p
 kl:ks.length≤1000000
 sl:ss.length≤1000000
theorem SetOk.ext {n:Nat} {vars:List Nat} {ns ns':Ns} {f:Nat} {P:List Nat→Bool} (h:SetOk vars ns f P) (hw:Wf n ns) (hx:Ext n ns ns'):SetOk vars ns' f P:=⟨hx.ref h.1,fun a=>by rw [hx.eval hw a h.1,h.2]⟩
theorem SpG.stp {lim:Nat} {W:((Nat→Bool)→Bool)→Prop} {T:Nt} {q:SpC} {ns ns':Ns} {ks:List (Nat × Bool)} {ss:List (Nat × Nat)} {e e':Bool} (h:SpG lim T q ns ks ss) (hs:Stp (2 * nBits T.vars) lim W e ns e' ns'):SpG lim T q ns' ks ss :=
 ⟨h.ok.stp hs,h.g,h.cells,h.all.ext h.ok.wf hs.ext,fun p hp=>by
  obtain ⟨h1,P,h2⟩:=h.set p hp
  exact ⟨h1,P,h2.ext h.ok.wf hs.ext⟩,fun p hp=>by
  obtain ⟨h1,o,h2,h3⟩:=h.rel p hp
  exact ⟨hs.ext.ref h1,o,h2,fun a=>by rw [hs.ext.eval h.ok.wf a h1,h3]⟩,h.kl,h.sl⟩
section
variable {w w1:World} {F:List Nat} {B:Asr} {b s m lim:Nat} {T:Nt} {q:SpC} {e:Bool} {ns:Ns} {ks:List (Nat × Bool)} {ss:List (Nat × Nat)}
theorem SpcA.lcl (hB:Lcl B):Lcl (SpcA s m lim T q ns ks ss B):=Lcl.mgr.star (Lcl.obj.star (Lcl.own.star (Lcl.own.star (Lcl.map.star (Lcl.map.star (TskA.lcl.star hB))))))
def RestA (T:Nt) (q:SpC) (ks:List (Nat × Bool)) (ss:List (Nat × Nat)) (B:Asr):Asr:=Star (KmA q.km ks) (Star (SmA q.sm ss) (Star (TskA T) B))
theorem RestA.lcl (hB:Lcl B):Lcl (RestA T q ks ss B):=Lcl.map.star (Lcl.map.star (TskA.lcl.star hB))
theorem RestA.rd:Rds (RestA T q ks ss B) fun w'=>NtR w' T:=Rds.star (Rds.star TskA.rd)
theorem SpcA.bl (hB:Lcl B) (h:At w F (SpcA s m lim T q ns ks ss B) w1):At w F (BlA w1.heap.size s m lim T.vars q false ns (RestA T q ks ss B)) (w1.alloc (blO s false)):=by
 have h1:=h.alloc (blO s false) (SpcA.lcl hB)
 unfold SpcA at h1
 unfold BlA RestA
 exact h1.by Imp.sw
theorem SpcA.un (h:At w F (BlA b s m lim T.vars q e ns (RestA T q ks ss B)) w1):At w F (SpcA s m lim T q ns ks ss B) w1:=by
 unfold BlA RestA at h
 unfold SpcA
 exact h.by (Imp.un Imp.dr)
theorem SpcA.obj (h:At w F (SpcA s m lim T q ns ks ss B) w1):w1.heap[s]? = some (spO m T.vars q):=by
 unfold SpcA at h
 exact h.drop.obj
theorem SpcA.mgr (h:At w F (SpcA s m lim T q ns ks ss B) w1):MgrF w1 m (2 * nBits T.vars) lim ns:=by
 unfold SpcA at h
 exact MgrA.rd h
theorem SpcA.km (h:At w F (SpcA s m lim T q ns ks ss B) w1):MapM w1 q.km natV boolV i64ok ks:=by
 unfold SpcA KmA at h
 exact h.drop.drop.drop.drop.map
theorem SpcA.sm (h:At w F (SpcA s m lim T q ns ks ss B) w1):MapM w1 q.sm natV natV i64ok ss:=by
 unfold SpcA SmA at h
 exact h.drop.drop.drop.drop.drop.map
theorem SpcA.tsk (h:At w F (SpcA s m lim T q ns ks ss B) w1):NtR w1 T:=by
 unfold SpcA at h
 obtain ⟨_,hq,_⟩:=h.drop.drop.drop.drop.drop.drop.ex
 exact TskA.rd _ _ hq
theorem SpcA.frame {P:World→Prop} (h:At w F (SpcA s m lim T q ns ks ss B) w1) (hP:Rds B P):P w1:=by
 unfold SpcA at h
 obtain ⟨_,hq,_⟩:=h.drop.drop.drop.drop.drop.drop.ex
 exact (Rds.star hP) _ _ hq
theorem SpcA.putS {KW:Kont World} {x v:Nat} (hB:Lcl B) (h:At w F (SpcA s m lim T q ns ks ss B) w1) (hx:i64ok x) (hl:ss.length≤1000000)
  (H:∀w2,At w F (SpcA s m lim T q ns ks (putM ss x v) B) w2→KW.run w2):@efuH Tryz.prog (Instr.mapUpdate 73 (.map (some q.sm)) (natV x) (natV v)) w1 KW:=by
 unfold SpcA SmA at h
 refine At.put (x:=x) (v:=v) (by repeat' (first | exact hB | exact Lcl.mgr | exact Lcl.own | exact Lcl.obj | exact Lcl.map | exact TskA.lcl | apply Lcl.star)) (h.by Imp.fr6) bkeyI Tryz.underlying73 hx (by unfold maxLen; omega) fun w2 h2=>H w2 ?_
 unfold SpcA SmA
 exact h2.by Imp.bk6
theorem SpcA.putK {KW:Kont World} {x:Nat} (hB:Lcl B) (h:At w F (SpcA s m lim T q ns ks ss B) w1) (hx:i64ok x) (hl:ks.length≤1000000)
  (H:∀w2,At w F (SpcA s m lim T q ns (putM ks x true) ss B) w2→KW.run w2):@efuH Tryz.prog (Instr.mapUpdate 72 (.map (some q.km)) (natV x) (.bool true)) w1 KW:=by
 unfold SpcA KmA at h
 refine At.put (x:=x) (v:=true) (by repeat' (first | exact hB | exact Lcl.mgr | exact Lcl.own | exact Lcl.obj | exact Lcl.map | exact TskA.lcl | apply Lcl.star)) (h.by Imp.fr5) bkeyI Tryz.underlying72 hx (by unfold maxLen; omega) fun w2 h2=>H w2 ?_
 unfold SpcA KmA
 exact h2.by Imp.bk5
end
end Go.Proofs.YtcoeknnghfajnaaGreat
end
