/-
  A part of the proof of this claim's statement (SyWF, SyWI, SyCv): plain theorems; no conditions beyond those each names.
-/
import Derived.Test.YtkhfdmelcpfgoaaGreatPk19
import Derived.Test.YtkhfdmelcpfgoaaGreatPk02
import Derived.Test.YtkhfdmelcpfgoaaGreatPk01
section
set_option maxRecDepth 100000
set_option linter.unusedSimpArgs false
set_option linter.unusedVariables false
namespace Go.Proofs.YtkhfdmelcpfgoaaGreat
open Go Go.W Go.Tk Go.Rx Go.Bd Go.Sy Go.Maps
def zB (k n:Nat) (a:Nat→Bool):Bool:=(List.range (k - n)).all fun j=>!a (2 * (n+j)+1)
theorem zB_end {k:Nat} {a:Nat→Bool}:zB k k a=true:=by unfold zB; simp
theorem zB_step {k n:Nat} {a:Nat→Bool} (h:n < k):zB k n a=(!a (2 * n+1) && zB k (n+1) a):=by
 unfold zB
 rw [show k - n=(k - (n+1))+1 by omega,List.range_succ_eq_map,List.all_cons,List.all_map]
 congr 1
 refine congrArg (fun f=>(List.range (k - (n+1))).all f) ?_
 funext j
 simp only [Function.comp]
 rw [show n+j.succ=n+1+j by omega]
theorem zB_all {k:Nat} {a:Nat→Bool}:zB k 0 a=true↔∀ p,p < k→a (2 * p+1)=false:=by
 unfold zB
 rw [List.all_eq_true]
 constructor
 ·intro h p hp
  have:=h p (List.mem_range.2 (by omega))
  simpa using this
 ·intro h j hj
  have:=h j (by have:=List.mem_range.1 hj; omega)
  simpa using this
def ctF (vars:List Nat) (P:List Nat→Bool) (a:Nat→Bool):Bool:=(okB vars a && P (rs vars a 0)) && zB (nBits vars) 0 a
def CRes (s m lim:Nat) (T:Nt) (q:SpC) (ns:Ns) (ks:List (Nat × Bool)) (ss:List (Nat × Nat)) (B:Asr) (w:World) (F:List Nat) (W:((Nat→Bool)→Bool)→Prop) (P:List Nat→Bool) (v:Value) (w':World):Prop :=
 ∃ e' ns',v=(if e'=true then .tuple #[.int .i64 0,eB true] else cntV (num (2 * nBits T.vars) 0 (ctF T.vars P)))∧Stp (2 * nBits T.vars) lim W false ns e' ns'∧SpG lim T q ns' ks ss∧At w F (SpcA s m lim T q ns' ks ss B) w'
def CtI (b s m lim:Nat) (vars:List Nat) (q:SpC) (ns:Ns) (R:Asr) (w:World) (F:List Nat) (W:((Nat→Bool)→Bool)→Prop) (a n:Nat) (ρ:Env) (w':World):Prop :=
 ρ 0=.pointer (some ⟨s,0,none⟩)∧ρ 1=.int .i64 (a:Nat)∧ρ 6=.pointer (some ⟨b,0,none⟩)∧ρ 8=.int .i64 (2 * (n:Int) - 1)∧n≤nBits vars ∧
  ∃ f e' ns',ρ 7=.int .i64 (f:Nat)∧Stp (2 * nBits vars) lim W false ns e' ns'∧Mn ns' e' f (zB (nBits vars) n)∧At w F (BlA b s m lim vars q e' ns' R) w'
section
variable {w w1:World} {F:List Nat} {A B B':Asr} {s m lim:Nat} {T:Nt} {q:SpC} {ns:Ns} {ks:List (Nat × Bool)} {ss:List (Nat × Nat)} {W:((Nat→Bool)→Bool)→Prop}
set_option maxHeartbeats 4000000 in
theorem count_spec (a:Nat) (P:List Nat→Bool) (hG:SpG lim T q ns ks ss) (hB:Lcl B) (h:At w F (SpcA s m lim T q ns ks ss B) w1) (ha:Kn T ns ks a P) (hL:LitW T.vars W) (hZ:∀ j,j < nBits T.vars→W (zB (nBits T.vars) j)) (hC:W (ctF T.vars P)) :
  Calls Tryz.prog 32 [.pointer (some ⟨s,0,none⟩),.int .i64 (a:Nat)].toArray w1 fun en w'=>∃ v,en=.returned v∧CRes s m lim T q ns ks ss B w F W P v w':=by
 refine enter Tryz.func32 mixed low32 (Nat.le_of_ble_eq_true rfl) ?_
 simp only [L32]
 have os:=SpcA.obj h
 unfold spO at os
 have hbt:=hG.ok.bt
 have hale:=ha.le hG
 have hka:i64ok a:=by unfold i64ok; omega
 simp [cell_blk os]
 refine MapM.look1 (x:=a) (SpcA.km h) bkeyI Tryz.underlying97 zbool hka ?_
 obtain ⟨bb,hbb⟩:∃ bb,bb=w1.heap.size:=⟨_,rfl⟩
 have h2:=SpcA.bl hB h
 obtain ⟨w2,hw2⟩:∃ w2,w2=w1.alloc (blO s false):=⟨_,rfl⟩
 rw [← hbb,← hw2] at h2
 have hw2':w1.alloc (.cells #[.pointer (some ⟨s,0,none⟩),.nilIface] 105 (0,0))=w2:=by rw [hw2]; rfl
 have hR:Lcl (RestA T q ks ss B):=RestA.lcl hB
 have h2':=h2
 unfold BlA at h2'
 have os2:=h2'.drop.drop.obj
 unfold spO at os2
 have e1:(2:Int) * (nBits T.vars:Nat)=((2 * nBits T.vars:Nat):Int):=by omega
 simp (disch:=omega) [ha.kn,boolV,← hbb,hw2',cell_blk os2,wrap_i64]
 refine loop_inv (CtI bb s m lim T.vars q ns (RestA T q ks ss B) w F W a) (nBits T.vars) ⟨by simp,by simp,by simp,by simp,Nat.le_refl _,1,false,ns,by simp,Stp.refl hG.ok.wf hG.ok.nl,one_mn hG.ok.wf _ _ (fun a=>zB_end),h2⟩ ?_
 clear h h2 h2' os os2
 rintro n ρ w3 ⟨g0,g1,g6,g8,hnl,f,e3,ns3,g7,hs,hmf,h3⟩
 have hk3:=hG.ok.stp hs
 have ma:Mn ns false a (setF T.vars P):=⟨hale,fun _=>ha.ok⟩
 by_cases hn0:n=0
 ·subst hn0
  have g8':ρ 8=.int .i64 (-1):=by rw [g8]; rfl
  simp [g8',g0,g1,g6,g7]
  refine cl_of (bAnd_spec a f _ _ hk3 hR h3 (ma.keep hG.ok.wf hs) hmf hC) ?_
  rintro _ w4 ⟨y4,e4,ns4,rfl,hs4,hm4,h4⟩
  have hk4:=hk3.stp hs4
  have hst:=hs.trans hs4
  have hG4:=hG.stp hst
  have h4':=h4
  unfold BlA at h4'
  have ob4:=h4'.drop.obj
  unfold blO at ob4
  cases e4 with
  | true =>
   simp [g6,cell_blk ob4,eB,berrV]
   exact ⟨true,ns4,by simp [eB,berrV],hst,hG4,(SpcA.un h4).drew (SpcA.lcl hB)⟩
  | false =>
   have h5:=SpcA.un h4
   have os5:=SpcA.obj h5
   unfold spO at os5
   have h5':=h5
   unfold SpcA at h5'
   obtain ⟨r4,ev4⟩:=hm4.2 rfl
   simp [g6,g0,cell_blk ob4,eB,cell_blk os5]
   refine cl_of (Count_spec m (2 * nBits T.vars) lim ns4 y4 (SpcA.rest hB) h5' hk4.wf hk4.bnd r4) ?_
   rintro _ w6 ⟨rfl,h6⟩
   have h6':At w F (SpcA s m lim T q ns4 ks ss B) w6:=h6
   have ef:(fun a=>eval ns4 a y4)=ctF T.vars P:=by
    funext x
    rw [ev4]
    rfl
   rw [ef]
   obtain ⟨va,vb,hv⟩:∃ va vb,cntV (num (2 * nBits T.vars) 0 (ctF T.vars P))=.tuple #[va,vb]:=by
    unfold cntV
    split
    ·exact ⟨_,_,rfl⟩
    ·exact ⟨_,_,rfl⟩
   rw [hv]
   simp
   exact ⟨false,ns4,by rw [← hv]; rfl,hst,hG4,h6'⟩
 obtain ⟨j,rfl⟩:∃ j,n=j+1:=⟨n - 1,by omega⟩
 have hj8:2 * ((j+1:Nat):Int) - 1=((2 * j+1:Nat):Int):=by omega
 rw [hj8] at g8
 obtain ⟨i,hi⟩:∃ i,i=2 * j+1:=⟨_,rfl⟩
 rw [← hi] at g8
 have hi0:0 < i:=by omega
 have hand:W fun x=>!x i && zB (nBits T.vars) (j+1) x:=by
  have:=hZ j (by omega)
  rwa [show zB (nBits T.vars) j=fun x=>!x i && zB (nBits T.vars) (j+1) x from funext fun x=>by rw [zB_step (by omega),hi]] at this
 simp (disch:=omega) [g8,g6,hi0]
 refine cl_of (bBit_spec i hk3 hR h3 (by omega) (hL i (by omega)).1) ?_
 rintro _ w4 ⟨y4,e4,ns4,rfl,hs4,hm4,h4⟩
 have hk4:=hk3.stp hs4
 simp [g6]
 refine cl_of (bNot_spec y4 _ hk4 hR h4 hm4 (hL i (by omega)).2) ?_
 rintro _ w5 ⟨y5,e5,ns5,rfl,hs5,hm5,h5⟩
 have hk5:=hk4.stp hs5
 simp [g6,g7]
 refine cl_of (bAnd_spec y5 f _ _ hk5 hR h5 hm5 ((hmf.keep hk3.wf hs4).keep hk4.wf hs5) hand) ?_
 rintro _ w6 ⟨y6,e6,ns6,rfl,hs6,hm6,h6⟩
 simp (disch:=omega) [g8,wrap_i64]
 refine ⟨j,by omega,by simp [g0],by simp [g1],by simp [g6],by simp; omega,by omega,y6,e6,ns6,by simp,((hs.trans hs4).trans hs5).trans hs6,?_,h6⟩
 exact ⟨hm6.1,fun he=>⟨(hm6.2 he).1,fun x=>by rw [(hm6.2 he).2 x,zB_step (by omega),hi]⟩⟩
end
end Go.Proofs.YtkhfdmelcpfgoaaGreat
end
section
set_option maxRecDepth 100000
set_option linter.unusedSimpArgs false
set_option linter.unusedVariables false
namespace Go.Proofs.YtkhfdmelcpfgoaaGreat
open Go Go.W Go.Tk Go.Rx Go.Bd Go.Sy Go.Maps
theorem Alk.op {T T':Nt} (h:Alk T T') {i:Nat} {o:No} (ho:T'.ops[i]?=some o):∃ o2,T.ops[i]?=some o2∧skO o=skO o2:=by
 have:=congrArg (fun l=>l[i]?) h.ops
 simp only [List.getElem?_map,ho,Option.map_some] at this
 cases h2:T.ops[i]? with
 | none=>rw [h2] at this; cases this
 | some o2=>rw [h2] at this; simp only [Option.map_some,Option.some.injEq] at this; exact ⟨o2,rfl,this⟩
theorem Alk.good {T T':Nt} (h:Alk T T') (hg:NtG T):NtG T':=by
 refine ⟨by rw [h.vars]; exact hg.vlen,?_,by rw [h.vars]; exact hg.vars,by rw [h.init,h.vars]; exact hg.ilen,by rw [h.init,h.vars]; exact hg.init,by rw [h.goal,h.vars]; exact hg.goal,fun o ho=>?_⟩
 ·have:=congrArg List.length h.ops
  rw [List.length_map,List.length_map] at this
  rw [this]
  exact hg.olen
 ·obtain ⟨i,hi⟩:=List.mem_iff_getElem?.1 ho
  obtain ⟨o2,h2,hs⟩:=h.op hi
  have g2:=hg.ops o2 (List.mem_of_getElem? h2)
  unfold skO at hs
  simp only [Prod.mk.injEq] at hs
  obtain ⟨_,s2,s3,s4⟩:=hs
  have hl:=congrArg List.length s4
  rw [List.length_map,List.length_map] at hl
  have he:∀ e ∈ o.effs,∃ e2 ∈ o2.effs,skE e=skE e2:=fun e he=>by
   have:skE e ∈ o2.effs.map skE:=by rw [← s4]; exact List.mem_map.2 ⟨e,he,rfl⟩
   obtain ⟨e2,h3,h4⟩:=List.mem_map.1 this
   exact ⟨e2,h3,h4.symm⟩
  rw [h.vars]
  refine ⟨by rw [s2]; exact g2.cost,by rw [hl]; exact g2.elen,by rw [s3]; exact g2.pre,fun e hm=>?_,fun e hm=>?_⟩
  ·obtain ⟨e2,h3,h4⟩:=he e hm
   unfold skE at h4
   simp only [Prod.mk.injEq] at h4
   rw [h4.1]
   exact g2.cnd e2 h3
  ·obtain ⟨e2,h3,h4⟩:=he e hm
   unfold skE at h4
   simp only [Prod.mk.injEq] at h4
   rw [h4.2.1,h4.2.2]
   exact g2.eff e2 h3
theorem ins_mk {T ty:Nat} {m k x:Operand} {ρ:Env} {w:World} {K:Value→World→Prop} (h:@efuH Tryz.prog (Instr.mapUpdate T (ρ.ev m) (ρ.ev k) (ρ.ev x)) w ⟨fun w'=>K undef w'⟩):opS Tryz.prog 2 (.insert T m k x) ty ρ w K:=by
 unfold efuH efuS at h
 obtain ⟨w',hr,hk⟩:=h
 simp only [opS,stepL,step2,LO.exec,execOp,Sem.run_bind,hr,Result.andThen_ok]
 exact hk
theorem shl_one {k:Nat} (h:k < 62):IntKind.i64.wrap (2 ^ min k IntKind.i64.bits)=((2 ^ k:Nat):Int):=by
 have hb:IntKind.i64.bits=64:=rfl
 rw [hb,Nat.min_eq_left (by omega)]
 have e:((2:Int) ^ k)=((2 ^ k:Nat):Int):=by simp
 have h2:2 ^ k≤2305843009213693952:=Nat.le_trans (Nat.pow_le_pow_right (by omega) (show k≤61 by omega)) (by decide)
 obtain ⟨y,hy⟩:∃ y,y=2 ^ k:=⟨_,rfl⟩
 rw [e]
 rw [← hy] at h2 ⊢
 exact wrap_i64 (by omega) (by omega)
def spB (t0 t1 t2 t3 mv fv wv:Value) (bits all km sm:Nat):Obj:=.cells #[t0,t1,t2,t3,mv,fv,wv,.int .i64 (bits:Nat),.int .i64 (all:Nat),.map (some km),.map (some sm)] 100 (0,0)
def okP (vars:List Nat) (k:Nat) (a:Nat→Bool):Bool:=(List.range k).all fun v=>decide (rv vars a 0 v < vars.getD v 0)
theorem okP_succ (vars:List Nat) (k:Nat) (a:Nat→Bool):okP vars (k+1) a=(okP vars k a && decide (rv vars a 0 k < vars.getD k 0)):=by
 unfold okP
 rw [List.range_succ,List.all_append]
 simp
structure NewW (T:Nt) (W:((Nat→Bool)→Bool)→Prop):Prop where
 lit:LitW T.vars W
 vl:∀ v x,v < T.vars.length→x < T.vars.getD v 0→VlW T.vars v x 0 W
 sm:∀ v x,v < T.vars.length→x < T.vars.getD v 0→W fun a=>decide (rv T.vars a 0 v < x+1)
 ok:∀ k,k < T.vars.length→W (okP T.vars (k+1))
def NewR (T:Nt) (L:Nat) (B:Asr) (w:World) (F:List Nat) (W:((Nat→Bool)→Bool)→Prop) (v:Value) (w':World):Prop :=
 (100 < nBits T.vars∧v=.tuple #[.pointer none,berrV 5]∧At w F B w') ∨
 (nBits T.vars≤100∧∃ e ns,Stp (2 * nBits T.vars) L W false [] e ns ∧
  ((e=true∧v=.tuple #[.pointer none,eB true]∧At w F B w')∨(e=false∧∃ s m T' q,Alk T T'∧v=.tuple #[.pointer (some ⟨s,0,none⟩),.nilIface]∧SpG L T' q ns (putM [(0,true)] q.all true) []∧At w F (SpcA s m L T' q ns (putM [(0,true)] q.all true) [] B) w')))
def qN (T':Nt) (fv wv:Value) (km sm f:Nat):SpC:=⟨T'.vv.1,T'.nv.1,T'.gv.1,T'.ov.1,fv,wv,f,km,sm⟩
def NwJ (bb tb sb m:Nat) (T T':Nt) (fv wv:Value) (km sm:Nat) (L:Nat) (B2:Asr) (w:World) (F:List Nat) (W:((Nat→Bool)→Bool)→Prop) (k:Nat) (ρ:Env) (w':World):Prop :=
 ρ 2=.pointer (some ⟨tb,0,none⟩)∧ρ 7=.pointer (some ⟨sb,0,none⟩)∧ρ 12=.pointer (some ⟨bb,0,none⟩)∧ρ 110=T.vv.1∧∃ f e ns,Stp (2 * nBits T.vars) L W false [] e ns∧Mn ns e f (okP T.vars k)∧At w F (BlA bb sb m L T.vars (qN T' fv wv km sm f) e ns (RestA T' (qN T' fv wv km sm f) [(0,true)] [] B2)) w'
def NwK (bb tb sb m:Nat) (T T':Nt) (fv wv:Value) (km sm:Nat) (L:Nat) (B2:Asr) (w:World) (F:List Nat) (W:((Nat→Bool)→Bool)→Prop) (n k f:Nat) (x:Nat) (ρ:Env) (w':World):Prop :=
 ρ 2=.pointer (some ⟨tb,0,none⟩)∧ρ 7=.pointer (some ⟨sb,0,none⟩)∧ρ 12=.pointer (some ⟨bb,0,none⟩)∧ρ 110=T.vv.1∧ρ 13=.int .i64 (k:Nat)∧ρ 111=.int .i64 (n:Nat)∧ρ 112=.int .i64 (k:Nat)∧∃ g e ns,ρ 15=.int .i64 (g:Nat)∧Stp (2 * nBits T.vars) L W false [] e ns∧Mn ns e f (okP T.vars k)∧Mn ns e g (fun a=>decide (rv T.vars a 0 k < x))∧At w F (BlA bb sb m L T.vars (qN T' fv wv km sm f) e ns (RestA T' (qN T' fv wv km sm f) [(0,true)] [] B2)) w'
def NwI (tb sb:Nat) (T T':Nt) (km sm:Nat) (L:Nat) (B:Asr) (w:World) (F:List Nat) (k:Nat) (ρ:Env) (w':World):Prop :=
 ρ 1=.int .i64 (L:Nat)∧ρ 2=.pointer (some ⟨tb,0,none⟩)∧ρ 7=.pointer (some ⟨sb,0,none⟩)∧ρ 37=T.vv.1∧∃ fv wv,At w F (Star (ObjA sb (spB T'.vv.1 T'.nv.1 T'.gv.1 T'.ov.1 (.pointer none) fv wv (bP T.vars k) 0 km sm)) (Star (OwnA fv 3 1 nE ((List.range k).map (bP T.vars))) (Star (OwnA wv 3 1 nE ((T.vars.take k).map wd)) (Star (KmA km [(0,true)]) (Star (SmA sm []) (Star (TskA T') (Star (ObjA tb (ntO T)) B))))))) w'
section
variable {w w1:World} {F:List Nat} {B:Asr}
set_option maxHeartbeats 4000000 in
theorem snew_spec (T:Nt) (L:Nat) (hB:Lcl B) (h:At w F B w1) (hr:Rds B fun w'=>NtR w' T) (hg:NtG T) (hgd:goodB T.raw=true) (hl:TkL T.raw) (h1:1≤L) (h2:L≤1048576) {W:((Nat→Bool)→Bool)→Prop} (hW:NewW T W) :
  Calls Tryz.prog 28 [ntV T,.int .i64 (L:Nat)].toArray w1 fun en w'=>∃ v,en=.returned v∧NewR T L B w F W v w':=by
 refine enter Tryz.func28 mixed low28 (Nat.le_of_ble_eq_true rfl) ?_
 simp only [L28]
 obtain ⟨tb,htb⟩:∃ tb,tb=w1.heap.size:=⟨_,rfl⟩
 have b1:At w F (Star (ObjA tb (ntO T)) B) (w1.alloc (ntO T)):=by rw [htb]; exact h.alloc _ hB
 obtain ⟨w2,hw2⟩:∃ w2,w2=w1.alloc (ntO T):=⟨_,rfl⟩
 rw [← hw2] at b1
 have hw2':w1.alloc (.cells #[T.vv.1,T.nv.1,T.gv.1,T.ov.1] 26 (0,0))=w2:=by rw [hw2]; rfl
 have hBt:Lcl (Star (ObjA tb (ntO T)) B):=Lcl.obj.star hB
 have hrt:Rds (Star (ObjA tb (ntO T)) B) fun w'=>NtR w' T:=Rds.star hr
 have rt2:=rd_c4 (show w2.heap[tb]?=some (.cells #[T.vv.1,T.nv.1,T.gv.1,T.ov.1] 26 (0,0)) from b1.obj)
 have hT2:NtR w2 T:=by
  obtain ⟨_,hq,_⟩:=b1.ex
  exact hrt _ _ hq
 have hck:chkC T.raw=none:=(chk_good T.raw).2 hgd
 simp [ntV,← htb,hw2',rt2]
 refine cl_of (tcheck_spec T.raw (NtR.raw.2 hT2) hl) ?_
 rintro _ w3 ⟨rfl,k3⟩
 have b3:=b1.kp0 hBt k3
 have rt3:=rd_c4 (show w3.heap[tb]?=some (.cells #[T.vv.1,T.nv.1,T.gv.1,T.ov.1] 26 (0,0)) from b3.obj)
 have c1:¬ (L:Int) < 1:=by omega
 have c2:¬ (1048576:Int) < (L:Int):=by omega
 simp [hck,chkV,c1,c2,← htb,rt3]
 refine cl_of (copied_spec T hBt b3 hrt hg) ?_
 rintro _ w4 ⟨T',rfl,hA,b4⟩
 simp [ntV]
 have hLT:Lcl (Star (TskA T') (Star (ObjA tb (ntO T)) B)):=TskA.lcl.star hBt
 have b5:=b4.newmap (ek:=natV) (ev:=boolV) (ok:=i64ok) hLT
 refine ins_mk ?_
 obtain ⟨km,hkm⟩:∃ km,km=w4.heap.size:=⟨_,rfl⟩
 rw [← hkm] at b5 ⊢
 refine At.put (ek:=natV) (ev:=boolV) (ok:=i64ok) (x:=0) (v:=true) hLT b5 bkeyI Tryz.underlying97 (by unfold i64ok; omega) (by simp [maxLen]) fun w6 b6=>?_
 have b6':At w F (Star (KmA km [(0,true)]) (Star (TskA T') (Star (ObjA tb (ntO T)) B))) w6:=b6
 have b7:=b6'.newmap (ek:=natV) (ev:=natV) (ok:=i64ok) (Lcl.map.star hLT)
 obtain ⟨sm,hsm⟩:∃ sm,sm=w6.heap.size:=⟨_,rfl⟩
 rw [← hsm] at b7
 obtain ⟨w7,hw7⟩:∃ w7,w7=w6.alloc (.map #[] 0):=⟨_,rfl⟩
 rw [← hw7] at b7
 obtain ⟨sb,hsb⟩:∃ sb,sb=w7.heap.size:=⟨_,rfl⟩
 have hsb':sm+1=sb:=by rw [hsb,hw7,hsm]; simp
 have b8:=b7.alloc (spB T'.vv.1 T'.nv.1 T'.gv.1 T'.ov.1 (.pointer none) nlV nlV 0 0 km sm) (Lcl.map.star (Lcl.map.star hLT))
 rw [← hsb] at b8
 obtain ⟨w8,hw8⟩:∃ w8,w8=w7.alloc (spB T'.vv.1 T'.nv.1 T'.gv.1 T'.ov.1 (.pointer none) nlV nlV 0 0 km sm):=⟨_,rfl⟩
 rw [← hw8] at b8
 have hw8':w7.alloc (.cells #[T'.vv.1,T'.nv.1,T'.gv.1,T'.ov.1,.pointer none,.slice none 0 0,.slice none 0 0,.int .i64 0,.int .i64 0,.map (some km),.map (some sm)] 100 (0,0))=w8:=by rw [hw8]; rfl
 have rt8:=b8.drop.drop.drop.drop.obj
 unfold ntO at rt8
 have hT8:NtR w8 T:=by
  obtain ⟨_,hq,_⟩:=b8.drop.drop.drop.drop.drop.ex
  exact hr _ _ hq
 have hvl:=hg.vlen
 simp [← hsm,← hw7,← hsb,hw8',← htb,cell_blk rt8,hT8.vars.len]
 have hL8:Lcl (Star (SmA sm []) (Star (KmA km [(0,true)]) (Star (TskA T') (Star (ObjA tb (ntO T)) B)))):=Lcl.map.star (Lcl.map.star hLT)
 have b10:=(b8.nil (E:=3) (sz:=1) (enc:=nE) (Lcl.obj.star hL8))
 have b11:=((b10.nil (E:=3) (sz:=1) (enc:=nE) (Lcl.own.star (Lcl.obj.star hL8))).by Imp.fr3).by (Imp.un (Imp.un (Imp.un Imp.sw)))
 refine range_loop (n:=T.vars.length) (by omega) (NwI tb sb T T' km sm L B w F) (by simp) (by simp)
  ⟨by simp,by simp [htb],by simp [hsb'],by simp,nlV,nlV,by simpa [bP,nlV] using b11⟩ (by decide) (fun _ _ _ _ h=>by unfold NwI at h ⊢; simpa using h) (fun _ _ _ _ h=>by unfold NwI at h ⊢; simpa using h) ?_ ?_
 ·rintro k ρ w9 hk hck hlk ⟨g1,g2,g7,g37,fv,wv,h9⟩
  obtain ⟨nn,hnn⟩:∃ nn,T.vars[k]?=some nn:=⟨_,List.getElem?_eq_getElem hk⟩
  have hn64:=hg.vars nn (List.mem_of_getElem? hnn)
  have hw6:=wd_le nn
  have hT9:NtR w9 T:=by
   obtain ⟨_,hq,_⟩:=h9.drop.drop.drop.drop.drop.drop.drop.ex
   exact hr _ _ hq
  have hki:(k:Int) < T.vars.length:=by omega
  simp (disch:=omega) [g37,hck,hlk,hT9.vars.idx,nE_cell hT9.vars hnn]
  refine loop_inv (fun n ρ' w'=>w'=w9∧∃ x,x+n=wd nn∧ρ' 10=.int .i64 (x:Nat)∧ρ' 9=.int .i64 (nn:Nat)∧ρ' 1=.int .i64 (L:Nat)∧ρ' 2=.pointer (some ⟨tb,0,none⟩)∧ρ' 7=.pointer (some ⟨sb,0,none⟩)∧ρ' 37=T.vv.1∧ρ' 38=.int .i64 (T.vars.length:Nat)∧ρ' 39=.int .i64 (k:Nat)) (wd nn) ⟨rfl,0,by simp,by simp,by simp,by simp [g1],by simp [g2],by simp [g7],by simp [g37],by simp [hlk],by simp [hck]⟩ ?_
  rintro n ρ' w' ⟨rfl,x,hx,e10,e9,e1,e2,e7,e37,e38,e39⟩
  have hsh:=shl_one (k:=x) (by omega)
  have hlo:=wd_loop (n:=nn) (w:=x) (by omega) (by omega)
  obtain ⟨y,hy⟩:∃ y,y=2 ^ x:=⟨_,rfl⟩
  rw [← hy] at hsh hlo
  by_cases hn0:n=0
  ·have hxw:¬ y < nn:=by rw [hlo]; omega
   have h9d:=h9.drew (Lcl.obj.star (Lcl.own.star (Lcl.own.star (Lcl.map.star (Lcl.map.star hLT)))))
   have os9:=h9d.obj
   unfold spB at os9
   simp [e10,e9,e7,hsh,hxw,cell_blk os9,rowOf]
   have e0:∀ (w:World) (o:Obj),(w.alloc o).heap.size=w.heap.size+1:=fun w o=>by simp
   have hxW:x=wd nn:=by omega
   have hbp:bP T.vars k≤384:=by
    have h1:=bP_mono (vars:=T.vars) (show k≤T.vars.length by omega)
    have h2:=nBits_le T.vars
    rw [bP_all] at h1
    omega
   have hwl:((T.vars.take k).map wd).length=k:=by rw [List.length_map,List.length_take]; omega
   have fin:∀ fv' wv' w15,At w F (Star (ObjA sb (.cells #[T'.vv.1,T'.nv.1,T'.gv.1,T'.ov.1,.pointer none,fv',wv',.int .i64 ((bP T.vars k:Nat)+(x:Nat):Int),.int .i64 (0:Nat),.map (some km),.map (some sm)] 100 (0,0))) (Star (OwnA fv' 3 1 nE ((List.range k).map (bP T.vars) ++ [bP T.vars k])) (Star (OwnA wv' 3 1 nE ((T.vars.map wd).take k ++ [x])) (Star (KmA km [(0,true)]) (Star (SmA sm []) (Star (TskA T') (Star (ObjA tb (ntO T)) B))))))) w15→At w F (Star (ObjA sb (spB T'.vv.1 T'.nv.1 T'.gv.1 T'.ov.1 (.pointer none) fv' wv' (bP T.vars (k+1)) 0 km sm)) (Star (OwnA fv' 3 1 nE ((List.range (k+1)).map (bP T.vars))) (Star (OwnA wv' 3 1 nE ((T.vars.take (k+1)).map wd)) (Star (KmA km [(0,true)]) (Star (SmA sm []) (Star (TskA T') (Star (ObjA tb (ntO T)) B))))))) w15:=fun fv' wv' w15 hh=>by
    rw [List.range_succ,List.map_append,List.take_add_one,hnn,List.map_append,bP_succ hnn,List.map_take]
    simp only [List.map_cons,List.map_nil,Option.toList_some,← hxW]
    unfold spB
    rw [Int.natCast_add]
    exact hh
   refine ⟨?_,?_,?_,?_,?_,?_⟩
   ·have q1:=h9d.lit (xs:=[bP T.vars k]) (enc:=nE) (E:=3) (sz:=1) (cs:=#[.int .i64 (bP T.vars k:Nat)]) (m:=1) (by repeat' (first | exact hB | exact Lcl.own | exact Lcl.obj | exact Lcl.map | exact TskA.lcl | apply Lcl.star)) (by simp [nE]) nE_len (by simp [maxLen]) rfl
    refine At.appendV (by repeat' (first | exact hB | exact Lcl.own | exact Lcl.obj | exact Lcl.map | exact TskA.lcl | apply Lcl.star)) (q1.by Imp.fr3) q1.own.vw nE_len nE_one sl_22 (by simp; omega) (by simp; unfold maxLen; omega) fun fv' w10 h10=>?_
    have h10:=h10.by (Imp.un Imp.dr)
    have os10:=h10.drop.obj
    unfold spB at os10
    simp [e10,e9,e7,cell_blk os10,rowOf]
    have q2:=h10.lit (xs:=[x]) (enc:=nE) (E:=3) (sz:=1) (cs:=#[.int .i64 (x:Nat)]) (m:=1) (by repeat' (first | exact hB | exact Lcl.own | exact Lcl.obj | exact Lcl.map | exact TskA.lcl | apply Lcl.star)) (by simp [nE]) nE_len (by simp [maxLen]) rfl
    refine At.appendV (by repeat' (first | exact hB | exact Lcl.own | exact Lcl.obj | exact Lcl.map | exact TskA.lcl | apply Lcl.star)) (q2.by Imp.fr4) q2.own.vw nE_len nE_one sl_22 (by simp; omega) (by simp; unfold maxLen; omega) fun wv' w11 h11=>?_
    have h12:=(((h11.by (Imp.un Imp.dr)).by Imp.fr3)).by (Imp.un Imp.sw)
    have v1:=h12.drop.own.c1
    have o1:=h12.drop.own.o1
    have v2:=h12.drop.drop.own.c1
    have o2:=h12.drop.drop.own.o1
    unfold spB at h12
    simp [e7,v1]
    refine h12.st (by repeat' (first | exact hB | exact Lcl.own | exact Lcl.obj | exact Lcl.map | exact TskA.lcl | apply Lcl.star)) (by simp) (by simp [o1]) fun w13 h13=>?_
    simp at h13
    simp [e7,v2]
    refine h13.st (by repeat' (first | exact hB | exact Lcl.own | exact Lcl.obj | exact Lcl.map | exact TskA.lcl | apply Lcl.star)) (by simp) (by simp [o2]) fun w14 h14=>?_
    simp at h14
    have os14:=h14.obj
    simp (disch:=omega) [e7,e10,cell_blk os14,wrap_i64]
    refine h14.st (by repeat' (first | exact hB | exact Lcl.own | exact Lcl.obj | exact Lcl.map | exact TskA.lcl | apply Lcl.star)) (by simp) (by simp) fun w15 h15=>?_
    simp at h15
    simp [e1,e2,e7,e37,e38,e39]
    refine ⟨by simp [e1],by simp [e2],by simp [e7],by simp [e37],fv',wv',fin fv' wv' w15 ?_⟩
    exact h15
   ·have q1:=h9d.lit (xs:=[bP T.vars k]) (enc:=nE) (E:=3) (sz:=1) (cs:=#[.int .i64 (bP T.vars k:Nat)]) (m:=1) (by repeat' (first | exact hB | exact Lcl.own | exact Lcl.obj | exact Lcl.map | exact TskA.lcl | apply Lcl.star)) (by simp [nE]) nE_len (by simp [maxLen]) rfl
    have q2:=q1.lit (xs:=[x]) (enc:=nE) (E:=3) (sz:=1) (cs:=#[.int .i64 (x:Nat)]) (m:=1) (by repeat' (first | exact hB | exact Lcl.own | exact Lcl.obj | exact Lcl.map | exact TskA.lcl | apply Lcl.star)) (by simp [nE]) nE_len (by simp [maxLen]) rfl
    simp only [e0] at q2
    refine At.appendV (by repeat' (first | exact hB | exact Lcl.own | exact Lcl.obj | exact Lcl.map | exact TskA.lcl | apply Lcl.star)) (q2.by Imp.fr4) q2.drop.own.vw nE_len nE_one sl_22 (by simp; omega) (by simp; unfold maxLen; omega) fun fv' w10 h10=>?_
    have os10:=h10.drop.drop.drop.obj
    unfold spB at os10
    simp [e10,e9,e7,cell_blk os10,rowOf]
    refine At.appendV (by repeat' (first | exact hB | exact Lcl.own | exact Lcl.obj | exact Lcl.map | exact TskA.lcl | apply Lcl.star)) (h10.by Imp.fr5) h10.drop.own.vw nE_len nE_one sl_22 (by simp; omega) (by simp; unfold maxLen; omega) fun wv' w11 h11=>?_
    have h12:=((h11.by (Imp.un (Imp.un (Imp.trans Imp.dr Imp.dr)))).by Imp.fr3).by (Imp.un Imp.sw)
    have v1:=h12.drop.own.c1
    have o1:=h12.drop.own.o1
    have v2:=h12.drop.drop.own.c1
    have o2:=h12.drop.drop.own.o1
    unfold spB at h12
    simp [e7,v1]
    refine h12.st (by repeat' (first | exact hB | exact Lcl.own | exact Lcl.obj | exact Lcl.map | exact TskA.lcl | apply Lcl.star)) (by simp) (by simp [o1]) fun w13 h13=>?_
    simp at h13
    simp [e7,v2]
    refine h13.st (by repeat' (first | exact hB | exact Lcl.own | exact Lcl.obj | exact Lcl.map | exact TskA.lcl | apply Lcl.star)) (by simp) (by simp [o2]) fun w14 h14=>?_
    simp at h14
    have os14:=h14.obj
    simp (disch:=omega) [e7,e10,cell_blk os14,wrap_i64]
    refine h14.st (by repeat' (first | exact hB | exact Lcl.own | exact Lcl.obj | exact Lcl.map | exact TskA.lcl | apply Lcl.star)) (by simp) (by simp) fun w15 h15=>?_
    simp at h15
    simp [e1,e2,e7,e37,e38,e39]
    refine ⟨by simp [e1],by simp [e2],by simp [e7],by simp [e37],fv',wv',fin fv' wv' w15 ?_⟩
    exact h15
   ·have q1:=h9d.lit (xs:=[x]) (enc:=nE) (E:=3) (sz:=1) (cs:=#[.int .i64 (x:Nat)]) (m:=1) (by repeat' (first | exact hB | exact Lcl.own | exact Lcl.obj | exact Lcl.map | exact TskA.lcl | apply Lcl.star)) (by simp [nE]) nE_len (by simp [maxLen]) rfl
    have q2:=q1.lit (xs:=[bP T.vars k]) (enc:=nE) (E:=3) (sz:=1) (cs:=#[.int .i64 (bP T.vars k:Nat)]) (m:=1) (by repeat' (first | exact hB | exact Lcl.own | exact Lcl.obj | exact Lcl.map | exact TskA.lcl | apply Lcl.star)) (by simp [nE]) nE_len (by simp [maxLen]) rfl
    simp only [e0] at q2
    refine At.appendV (by repeat' (first | exact hB | exact Lcl.own | exact Lcl.obj | exact Lcl.map | exact TskA.lcl | apply Lcl.star)) (q2.by Imp.fr4) q2.own.vw nE_len nE_one sl_22 (by simp; omega) (by simp; unfold maxLen; omega) fun fv' w10 h10=>?_
    have os10:=h10.drop.drop.drop.obj
    unfold spB at os10
    simp [e10,e9,e7,cell_blk os10,rowOf]
    refine At.appendV (by repeat' (first | exact hB | exact Lcl.own | exact Lcl.obj | exact Lcl.map | exact TskA.lcl | apply Lcl.star)) (h10.by Imp.fr5) h10.drop.drop.own.vw nE_len nE_one sl_22 (by simp; omega) (by simp; unfold maxLen; omega) fun wv' w11 h11=>?_
    have h12:=((h11.by (Imp.un (Imp.un (Imp.trans Imp.dr Imp.dr)))).by Imp.fr3).by (Imp.un Imp.sw)
    have v1:=h12.drop.own.c1
    have o1:=h12.drop.own.o1
    have v2:=h12.drop.drop.own.c1
    have o2:=h12.drop.drop.own.o1
    unfold spB at h12
    simp [e7,v1]
    refine h12.st (by repeat' (first | exact hB | exact Lcl.own | exact Lcl.obj | exact Lcl.map | exact TskA.lcl | apply Lcl.star)) (by simp) (by simp [o1]) fun w13 h13=>?_
    simp at h13
    simp [e7,v2]
    refine h13.st (by repeat' (first | exact hB | exact Lcl.own | exact Lcl.obj | exact Lcl.map | exact TskA.lcl | apply Lcl.star)) (by simp) (by simp [o2]) fun w14 h14=>?_
    simp at h14
    have os14:=h14.obj
    simp (disch:=omega) [e7,e10,cell_blk os14,wrap_i64]
    refine h14.st (by repeat' (first | exact hB | exact Lcl.own | exact Lcl.obj | exact Lcl.map | exact TskA.lcl | apply Lcl.star)) (by simp) (by simp) fun w15 h15=>?_
    simp at h15
    simp [e1,e2,e7,e37,e38,e39]
    refine ⟨by simp [e1],by simp [e2],by simp [e7],by simp [e37],fv',wv',fin fv' wv' w15 ?_⟩
    exact h15
   ·have q1:=h9d.lit (xs:=[bP T.vars k]) (enc:=nE) (E:=3) (sz:=1) (cs:=#[.int .i64 (bP T.vars k:Nat)]) (m:=1) (by repeat' (first | exact hB | exact Lcl.own | exact Lcl.obj | exact Lcl.map | exact TskA.lcl | apply Lcl.star)) (by simp [nE]) nE_len (by simp [maxLen]) rfl
    refine At.appendV (by repeat' (first | exact hB | exact Lcl.own | exact Lcl.obj | exact Lcl.map | exact TskA.lcl | apply Lcl.star)) (q1.by Imp.fr3) q1.own.vw nE_len nE_one sl_22 (by simp; omega) (by simp; unfold maxLen; omega) fun fv' w10 h10=>?_
    have h10:=h10.by (Imp.un Imp.dr)
    have os10:=h10.drop.obj
    unfold spB at os10
    simp [e10,e9,e7,cell_blk os10,rowOf]
    have q2:=h10.lit (xs:=[x]) (enc:=nE) (E:=3) (sz:=1) (cs:=#[.int .i64 (x:Nat)]) (m:=1) (by repeat' (first | exact hB | exact Lcl.own | exact Lcl.obj | exact Lcl.map | exact TskA.lcl | apply Lcl.star)) (by simp [nE]) nE_len (by simp [maxLen]) rfl
    refine At.appendV (by repeat' (first | exact hB | exact Lcl.own | exact Lcl.obj | exact Lcl.map | exact TskA.lcl | apply Lcl.star)) (q2.by Imp.fr4) q2.own.vw nE_len nE_one sl_22 (by simp; omega) (by simp; unfold maxLen; omega) fun wv' w11 h11=>?_
    have h12:=(((h11.by (Imp.un Imp.dr)).by Imp.fr3)).by (Imp.un Imp.sw)
    have v1:=h12.drop.own.c1
    have o1:=h12.drop.own.o1
    have v2:=h12.drop.drop.own.c1
    have o2:=h12.drop.drop.own.o1
    unfold spB at h12
    simp [e7,v1]
    refine h12.st (by repeat' (first | exact hB | exact Lcl.own | exact Lcl.obj | exact Lcl.map | exact TskA.lcl | apply Lcl.star)) (by simp) (by simp [o1]) fun w13 h13=>?_
    simp at h13
    simp [e7,v2]
    refine h13.st (by repeat' (first | exact hB | exact Lcl.own | exact Lcl.obj | exact Lcl.map | exact TskA.lcl | apply Lcl.star)) (by simp) (by simp [o2]) fun w14 h14=>?_
    simp at h14
    have os14:=h14.obj
    simp (disch:=omega) [e7,e10,cell_blk os14,wrap_i64]
    refine h14.st (by repeat' (first | exact hB | exact Lcl.own | exact Lcl.obj | exact Lcl.map | exact TskA.lcl | apply Lcl.star)) (by simp) (by simp) fun w15 h15=>?_
    simp at h15
    simp [e1,e2,e7,e37,e38,e39]
    refine ⟨by simp [e1],by simp [e2],by simp [e7],by simp [e37],fv',wv',fin fv' wv' w15 ?_⟩
    exact h15
   ·have q1:=h9d.lit (xs:=[bP T.vars k]) (enc:=nE) (E:=3) (sz:=1) (cs:=#[.int .i64 (bP T.vars k:Nat)]) (m:=1) (by repeat' (first | exact hB | exact Lcl.own | exact Lcl.obj | exact Lcl.map | exact TskA.lcl | apply Lcl.star)) (by simp [nE]) nE_len (by simp [maxLen]) rfl
    have q2:=q1.lit (xs:=[x]) (enc:=nE) (E:=3) (sz:=1) (cs:=#[.int .i64 (x:Nat)]) (m:=1) (by repeat' (first | exact hB | exact Lcl.own | exact Lcl.obj | exact Lcl.map | exact TskA.lcl | apply Lcl.star)) (by simp [nE]) nE_len (by simp [maxLen]) rfl
    simp only [e0] at q2
    refine At.appendV (by repeat' (first | exact hB | exact Lcl.own | exact Lcl.obj | exact Lcl.map | exact TskA.lcl | apply Lcl.star)) (q2.by Imp.fr4) q2.drop.own.vw nE_len nE_one sl_22 (by simp; omega) (by simp; unfold maxLen; omega) fun fv' w10 h10=>?_
    have os10:=h10.drop.drop.drop.obj
    unfold spB at os10
    simp [e10,e9,e7,cell_blk os10,rowOf]
    refine At.appendV (by repeat' (first | exact hB | exact Lcl.own | exact Lcl.obj | exact Lcl.map | exact TskA.lcl | apply Lcl.star)) (h10.by Imp.fr5) h10.drop.own.vw nE_len nE_one sl_22 (by simp; omega) (by simp; unfold maxLen; omega) fun wv' w11 h11=>?_
    have h12:=((h11.by (Imp.un (Imp.un (Imp.trans Imp.dr Imp.dr)))).by Imp.fr3).by (Imp.un Imp.sw)
    have v1:=h12.drop.own.c1
    have o1:=h12.drop.own.o1
    have v2:=h12.drop.drop.own.c1
    have o2:=h12.drop.drop.own.o1
    unfold spB at h12
    simp [e7,v1]
    refine h12.st (by repeat' (first | exact hB | exact Lcl.own | exact Lcl.obj | exact Lcl.map | exact TskA.lcl | apply Lcl.star)) (by simp) (by simp [o1]) fun w13 h13=>?_
    simp at h13
    simp [e7,v2]
    refine h13.st (by repeat' (first | exact hB | exact Lcl.own | exact Lcl.obj | exact Lcl.map | exact TskA.lcl | apply Lcl.star)) (by simp) (by simp [o2]) fun w14 h14=>?_
    simp at h14
    have os14:=h14.obj
    simp (disch:=omega) [e7,e10,cell_blk os14,wrap_i64]
    refine h14.st (by repeat' (first | exact hB | exact Lcl.own | exact Lcl.obj | exact Lcl.map | exact TskA.lcl | apply Lcl.star)) (by simp) (by simp) fun w15 h15=>?_
    simp at h15
    simp [e1,e2,e7,e37,e38,e39]
    refine ⟨by simp [e1],by simp [e2],by simp [e7],by simp [e37],fv',wv',fin fv' wv' w15 ?_⟩
    exact h15
   ·have q1:=h9d.lit (xs:=[x]) (enc:=nE) (E:=3) (sz:=1) (cs:=#[.int .i64 (x:Nat)]) (m:=1) (by repeat' (first | exact hB | exact Lcl.own | exact Lcl.obj | exact Lcl.map | exact TskA.lcl | apply Lcl.star)) (by simp [nE]) nE_len (by simp [maxLen]) rfl
    have q2:=q1.lit (xs:=[bP T.vars k]) (enc:=nE) (E:=3) (sz:=1) (cs:=#[.int .i64 (bP T.vars k:Nat)]) (m:=1) (by repeat' (first | exact hB | exact Lcl.own | exact Lcl.obj | exact Lcl.map | exact TskA.lcl | apply Lcl.star)) (by simp [nE]) nE_len (by simp [maxLen]) rfl
    simp only [e0] at q2
    refine At.appendV (by repeat' (first | exact hB | exact Lcl.own | exact Lcl.obj | exact Lcl.map | exact TskA.lcl | apply Lcl.star)) (q2.by Imp.fr4) q2.own.vw nE_len nE_one sl_22 (by simp; omega) (by simp; unfold maxLen; omega) fun fv' w10 h10=>?_
    have os10:=h10.drop.drop.drop.obj
    unfold spB at os10
    simp [e10,e9,e7,cell_blk os10,rowOf]
    refine At.appendV (by repeat' (first | exact hB | exact Lcl.own | exact Lcl.obj | exact Lcl.map | exact TskA.lcl | apply Lcl.star)) (h10.by Imp.fr5) h10.drop.drop.own.vw nE_len nE_one sl_22 (by simp; omega) (by simp; unfold maxLen; omega) fun wv' w11 h11=>?_
    have h12:=((h11.by (Imp.un (Imp.un (Imp.trans Imp.dr Imp.dr)))).by Imp.fr3).by (Imp.un Imp.sw)
    have v1:=h12.drop.own.c1
    have o1:=h12.drop.own.o1
    have v2:=h12.drop.drop.own.c1
    have o2:=h12.drop.drop.own.o1
    unfold spB at h12
    simp [e7,v1]
    refine h12.st (by repeat' (first | exact hB | exact Lcl.own | exact Lcl.obj | exact Lcl.map | exact TskA.lcl | apply Lcl.star)) (by simp) (by simp [o1]) fun w13 h13=>?_
    simp at h13
    simp [e7,v2]
    refine h13.st (by repeat' (first | exact hB | exact Lcl.own | exact Lcl.obj | exact Lcl.map | exact TskA.lcl | apply Lcl.star)) (by simp) (by simp [o2]) fun w14 h14=>?_
    simp at h14
    have os14:=h14.obj
    simp (disch:=omega) [e7,e10,cell_blk os14,wrap_i64]
    refine h14.st (by repeat' (first | exact hB | exact Lcl.own | exact Lcl.obj | exact Lcl.map | exact TskA.lcl | apply Lcl.star)) (by simp) (by simp) fun w15 h15=>?_
    simp at h15
    simp [e1,e2,e7,e37,e38,e39]
    refine ⟨by simp [e1],by simp [e2],by simp [e7],by simp [e37],fv',wv',fin fv' wv' w15 ?_⟩
    exact h15
  ·have hxw:y < nn:=by rw [hlo]; omega
   simp (disch:=omega) [e10,e9,hsh,hxw,wrap_i64]
   exact ⟨n - 1,by omega,x+1,by omega,by omega,e1,e2,e7,e37,e38,e39⟩
 clear b1 b3 b4 b5 b6 b6' b7 b8 b10 b11 rt8 hT8 rt2 rt3 hT2
 rintro ρ w9 ⟨g1,g2,g7,_,fv,wv,h9⟩
 rw [bP_all,List.take_length] at h9
 have os9:=h9.obj
 unfold spB at os9
 have hbt6:=nBits_le T.vars
 obtain ⟨nb,hnb⟩:∃ nb,nb=nBits T.vars:=⟨_,rfl⟩
 rw [← hnb] at os9 hbt6
 have e1:(2:Int) * (nb:Nat)=((2 * nb:Nat):Int):=by omega
 by_cases hbig:100 < nb
 ·have:(100:Int) < (nb:Nat):=by omega
  simp [g7,cell_blk os9,hbig,this]
  exact .inl ⟨by rw [← hnb]; exact hbig,by simp [berrV],h9.drop.drop.drop.drop.drop.drop.drop⟩
 have hbig2:¬ (100:Int) < (nb:Nat):=by omega
 simp (disch:=omega) [g7,g1,cell_blk os9,hbig,hbig2,wrap_i64]
 rw [e1]
 obtain ⟨B2,hB2⟩:∃ B2,B2=Star (ObjA tb (ntO T)) B:=⟨_,rfl⟩
 rw [← hB2] at h9 hBt hrt
 have hL9:Lcl (Star (ObjA sb (spB T'.vv.1 T'.nv.1 T'.gv.1 T'.ov.1 (.pointer none) fv wv (nBits T.vars) 0 km sm)) (Star (OwnA fv 3 1 nE ((List.range T.vars.length).map (bP T.vars))) (Star (OwnA wv 3 1 nE (T.vars.map wd)) (Star (KmA km [(0,true)]) (Star (SmA sm []) (Star (TskA T') B2)))))):=Lcl.obj.star (Lcl.own.star (Lcl.own.star (Lcl.map.star (Lcl.map.star (TskA.lcl.star hBt)))))
 refine cl_of (new_spec (2 * nb) L hL9 h9 (by omega) h1 h2) ?_
 rintro _ w10 ⟨m,rfl,h10⟩
 rw [hnb] at h10
 have h11:=h10.by Imp.sw
 unfold spB at h11
 simp [g7]
 refine h11.st (by repeat' (first | exact hBt | exact Lcl.mgr | exact Lcl.own | exact Lcl.obj | exact Lcl.map | exact TskA.lcl | apply Lcl.star)) (by simp) (by simp) fun w12 h12=>?_
 simp at h12
 obtain ⟨bb,hbb⟩:∃ bb,bb=w12.heap.size:=⟨_,rfl⟩
 have h13:=h12.alloc (blO sb false) (by repeat' (first | exact hBt | exact Lcl.mgr | exact Lcl.own | exact Lcl.obj | exact Lcl.map | exact TskA.lcl | apply Lcl.star))
 rw [← hbb] at h13
 obtain ⟨w13,hw13⟩:∃ w13,w13=w12.alloc (blO sb false):=⟨_,rfl⟩
 rw [← hw13] at h13
 have hw13':w12.alloc (.cells #[.pointer (some ⟨sb,0,none⟩),.nilIface] 105 (0,0))=w13:=by rw [hw13]; rfl
 have h14:=h13.by Imp.sw
 simp [g7,← hbb,hw13']
 refine h14.st (by repeat' (first | exact hBt | exact Lcl.mgr | exact Lcl.own | exact Lcl.obj | exact Lcl.map | exact TskA.lcl | apply Lcl.star)) (by simp) (by simp) fun w15 h15=>?_
 simp at h15
 have hR2:∀ f,Lcl (RestA T' (qN T' fv wv km sm f) [(0,true)] [] B2):=fun f=>RestA.lcl hBt
 have h16:At w F (BlA bb sb m L T.vars (qN T' fv wv km sm 1) false [] (RestA T' (qN T' fv wv km sm 1) [(0,true)] [] B2)) w15:=by
  have hx:=(h15.by Imp.fr3).by (Imp.un Imp.sw)
  unfold BlA RestA
  exact hx
 have rt16:w15.heap[tb]?=some (ntO T):=BlA.frame h16 (by unfold RestA; rw [hB2]; exact Rds.star (Rds.star (Rds.star Rds.obj)))
 unfold ntO at rt16
 have hrR:∀ f,Rds (RestA T' (qN T' fv wv km sm f) [(0,true)] [] B2) fun w'=>NtR w' T:=fun f=>by unfold RestA; exact Rds.star (Rds.star (Rds.star hrt))
 have hT16:=BlA.frame h16 (hrR 1)
 have hk0:SpOk T.vars L []:=⟨by omega,hg.vars,by omega,Wf.nil _,h1,h2,Nat.zero_le _⟩
 simp [g2,cell_blk rt16,hT16.vars.len]
 refine range_loop (n:=T.vars.length) (by omega) (NwJ bb tb sb m T T' fv wv km sm L B2 w F W) (by simp) (by simp)
  ⟨by simp [g2],by simp [g7],by simp [hbb],by simp,1,false,[],Stp.refl hk0.wf hk0.nl,one_mn hk0.wf _ _ (fun a=>by unfold okP; simp),h16⟩ (by decide) (fun _ _ _ _ h=>by unfold NwJ at h ⊢; simpa using h) (fun _ _ _ _ h=>by unfold NwJ at h ⊢; simpa using h) ?_ ?_
 ·clear h9 h10 h11 h12 h13 h14 h15 h16 rt16 hT16 os9
  rintro k ρ w17 hk hck hlk ⟨g2,g7,g12,g110,f,e,ns,hs,hmf,h17⟩
  have hk17:=hk0.stp hs
  obtain ⟨nn,hnn⟩:∃ nn,T.vars[k]?=some nn:=⟨_,List.getElem?_eq_getElem hk⟩
  have hnd:T.vars.getD k 0=nn:=by simp [List.getD,hnn]
  have hn64:=hg.vars nn (List.mem_of_getElem? hnn)
  have hT17:=BlA.frame h17 (hrR f)
  have hki:(k:Int) < T.vars.length:=by omega
  simp (disch:=omega) [g110,hck,hlk,hT17.vars.idx,nE_cell hT17.vars hnn]
  refine range_loop (n:=nn) (by omega) (NwK bb tb sb m T T' fv wv km sm L B2 w F W T.vars.length k f) (by simp) (by simp)
   ⟨by simp [g2],by simp [g7],by simp [g12],by simp [g110],by simp,by simp [hlk],by simp [hck],0,e,ns,by simp,hs,hmf,⟨Nat.zero_le _,fun _=>⟨Ref.zero ns,fun a=>by rw [eval_zero]; simp⟩⟩,h17⟩ (by decide) (fun _ _ _ _ h=>by unfold NwK at h ⊢; simpa using h) (fun _ _ _ _ h=>by unfold NwK at h ⊢; simpa using h) ?_ ?_
  ·rintro x ρ w18 hx hcx hlx ⟨g2,g7,g12,g110,g13,g111,g112,g,e2,ns2,g15,hs2,mf2,mg2,h18⟩
   have hk18:=hk0.stp hs2
   have hxw:x < 2 ^ wd (T.vars.getD k 0):=by
    rw [hnd]
    exact Nat.lt_of_lt_of_le hx (wd_ge hn64.2)
   have hor:W fun a=>decide (rv T.vars a 0 k < x) || decide (rv T.vars a 0 k=x):=by
    have:=hW.sm k x hk (by rw [hnd]; exact hx)
    rwa [show (fun a=>decide (rv T.vars a 0 k < x+1))=fun a=>decide (rv T.vars a 0 k < x) || decide (rv T.vars a 0 k=x) from funext fun a=>by
     rw [Bool.eq_iff_iff]
     simp only [Bool.or_eq_true,decide_eq_true_eq]
     omega] at this
   simp [hcx,hlx,g12,g13,g15]
   refine cl_of (bValue_spec k x 0 hk18 (hR2 f) h18 hk hxw (by omega) hW.lit (hW.vl k x hk (by rw [hnd]; exact hx))) ?_
   rintro _ w19 ⟨y,e3,ns3,rfl,hs3,hm3,h19⟩
   have hk19:=hk18.stp hs3
   simp [g12,g15]
   refine cl_of (bOr_spec g y _ _ hk19 (hR2 f) h19 (mg2.keep hk18.wf hs3) hm3 hor) ?_
   rintro _ w20 ⟨u,e4,ns4,rfl,hs4,hm4,h20⟩
   simp [hcx,hlx]
   refine ⟨by simp [g2],by simp [g7],by simp [g12],by simp [g110],by simp [g13],by simp [g111],by simp [g112],u,e4,ns4,by simp,(hs2.trans hs3).trans hs4,(mf2.keep hk18.wf hs3).keep hk19.wf hs4,?_,h20⟩
   exact ⟨hm4.1,fun he=>⟨(hm4.2 he).1,fun a=>by
    rw [(hm4.2 he).2 a,Bool.eq_iff_iff]
    simp only [Bool.or_eq_true,decide_eq_true_eq]
    omega⟩⟩
  ·rintro ρ w18 ⟨g2,g7,g12,g110,g13,g111,g112,g,e2,ns2,g15,hs2,mf2,mg2,h18⟩
   have hk18:=hk0.stp hs2
   have h18':=h18
   unfold BlA at h18'
   have os18:=h18'.drop.drop.obj
   unfold spO qN at os18
   have hand:W fun a=>okP T.vars k a && decide (rv T.vars a 0 k < nn):=by
    have:=hW.ok k hk
    rwa [show okP T.vars (k+1)=fun a=>okP T.vars k a && decide (rv T.vars a 0 k < nn) from funext fun a=>by rw [okP_succ,hnd]] at this
   simp [g7,g12,g15,cell_blk os18]
   refine cl_of (bAnd_spec f g _ _ hk18 (hR2 f) h18 mf2 mg2 hand) ?_
   rintro _ w19 ⟨y,e3,ns3,rfl,hs3,hm3,h19⟩
   unfold BlA at h19
   have h20:=h19.by Imp.fr3
   unfold spO qN at h20
   simp [g7]
   refine h20.st (by repeat' (first | exact hR2 _ | exact Lcl.mgr | exact Lcl.own | exact Lcl.obj | exact Lcl.map | apply Lcl.star)) (by simp) (by simp) fun w21 h21=>?_
   simp at h21
   have h22:=h21.by Imp.bk3
   simp [g111,g112]
   refine ⟨by simp [g2],by simp [g7],by simp [g12],by simp [g110],y,e3,ns3,hs2.trans hs3,⟨hm3.1,fun he=>⟨(hm3.2 he).1,fun a=>by rw [(hm3.2 he).2 a,okP_succ,hnd]⟩⟩,h22⟩
 ·clear h9 h10 h11 h12 h13 h14 h15 h16 rt16 hT16 os9
  rintro ρ w17 ⟨g2,g7,g12,g110,f,e,ns,hs,hmf,h17⟩
  have h17':=h17
  unfold BlA RestA at h17'
  have ob17:=h17'.drop.obj
  unfold blO at ob17
  have hst:=hs
  cases e with
  | true =>
   simp [g12,cell_blk ob17,eB,berrV]
   have hd:=h17'.drop.drop.drop.drop.drop.drop.drop.drop
   rw [hB2] at hd
   exact .inr ⟨by omega,true,ns,hst,.inl ⟨rfl,by simp [eB,berrV],hd.drop.drew hB⟩⟩
  | false =>
   have h18:At w F (BlA bb sb m L T'.vars (qN T' fv wv km sm f) false ns (RestA T' (qN T' fv wv km sm f) [(0,true)] [] B2)) w17:=by rw [hA.vars]; exact h17
   have h19:=(SpcA.un h18).drew (SpcA.lcl hBt)
   have os19:=SpcA.obj h19
   unfold spO qN at os19
   obtain ⟨rf,ef⟩:=hmf.2 rfl
   have hk17:=hk0.stp hs
   have hfle:=ref_le hk17 rf
   simp [g7,g12,cell_blk ob17,eB,cell_blk os19]
   refine SpcA.putK hBt h19 (show i64ok f by unfold i64ok; omega) (by simp) fun w20 h20=>?_
   simp [g7]
   rw [hB2] at h20
   have hall:SetOk T'.vars ns f fun _=>true:=⟨rf,fun a=>by rw [ef a,Bool.and_true,hA.vars]; rfl⟩
   refine .inr ⟨by omega,false,ns,hst,.inr ⟨rfl,sb,m,T',qN T' fv wv km sm f,hA,rfl,⟨by rw [hA.vars]; exact hk17,hA.good hg,⟨rfl,rfl,rfl,rfl⟩,hall,fun p hp=>?_,fun p hp=>(by cases hp),?_,by simp⟩,SpcA.less h20⟩⟩
   ·rcases putM_mem hp with h | rfl
    ·simp at h
     subst h
     exact ⟨rfl,fun _=>false,Ref.zero ns,fun a=>by rw [eval_zero]; simp⟩
    ·exact ⟨rfl,_,hall⟩
   ·have:(putM [(0,true)] (qN T' fv wv km sm f).all true).length≤1+1:=putM_len_le
    omega
end
end Go.Proofs.YtkhfdmelcpfgoaaGreat
end
section
set_option linter.unusedVariables false
set_option linter.unusedSimpArgs false
namespace Go.Sy
open Go.Bd
abbrev BFn:=(Nat→Bool)→Bool
def Dep (K:BFn) (t:Nat):Prop:=∃ b,K (upd b t true)≠K (upd b t false)
def CovW (n:Nat) (W:BFn→Prop) (N:Nat):Prop:=∃ L:List BFn,L.length≤N∧∀ G,W G→∀ t a,t < n→Dep (fun b=>G (pfx a t b)) t→(fun b=>G (pfx a t b)) ∈ L
section
variable {n:Nat} {ns:Ns}
theorem node_cof (w:Wf n ns) {z:Nat} (hz:Ref ns z) (h2:2≤z) {G:BFn} (h:IsC G fun b=>eval ns b z):∃ t a,t < n∧(fun b=>eval ns b z)=(fun b=>G (pfx a t b))∧Dep (fun b=>G (pfx a t b)) t:=by
 have ht:=w.tv_var h2 hz
 obtain ⟨t,hte⟩:∃ t,t=tv n ns z:=⟨_,rfl⟩
 rw [← hte] at ht
 have hne:(at_ n ns z).low≠(at_ n ns z).high:=by rw [at_ge h2 hz]; exact w.ne _ _
 have hd:Dep (fun b=>eval ns b z) t:=by
  apply Classical.byContradiction
  intro hn
  apply hne
  refine canon_aux w (z+1) _ _ (by have:=w.lt_low h2 hz; omega) (by have:=w.lt_high h2 hz; omega) (w.ref_low hz) (w.ref_high hz) fun a=>?_
  rw [← eval_low w h2 hz,← eval_high w h2 hz,← hte]
  apply Classical.byContradiction
  intro hx
  exact hn ⟨a,fun e=>hx e.symm⟩
 obtain ⟨k,a,e⟩:=h
 have e:∀ b,eval ns b z=G (pfx a k b):=e
 by_cases hk:k≤t
 ·have e2:(fun b=>eval ns b z)=fun b=>G (pfx (fun i=>if i < k then a i else false) t b):=funext fun b=>by
   have e1:eval ns b z=eval ns (pfx (fun _=>false) t b) z:=eval_congr w hz fun i hi=>by
    unfold pfx
    rw [if_neg (by omega)]
   rw [e1,e]
   congr 1
   funext i
   simp only [pfx]
   by_cases h1:i < k
   ·rw [if_pos h1,if_pos (by omega),if_pos h1]
   ·rw [if_neg h1]
    by_cases h3:i < t
    ·rw [if_pos h3,if_pos h3,if_neg h1]
    ·rw [if_neg h3,if_neg h3]
  refine ⟨t,_,ht,e2,?_⟩
  rw [← e2]
  exact hd
 ·obtain ⟨b,hb⟩:=hd
  exfalso
  apply hb
  show eval ns (upd b t true) z=eval ns (upd b t false) z
  rw [e,e]
  congr 1
  funext i
  simp only [pfx]
  by_cases h1:i < k
  ·rw [if_pos h1,if_pos h1]
  ·rw [if_neg h1,if_neg h1,upd_ne (by omega),upd_ne (by omega)]
theorem cov_len {W:BFn→Prop} {N:Nat} {ns0:Ns} (w:Wf n ns) (hc:CovW n W N) (h:∀ z,ns0.length+2≤z→z < ns.length+2→∃ G,W G∧IsC G fun b=>eval ns b z):ns.length≤ns0.length+N:=by
 obtain ⟨L,hl,hL⟩:=hc
 have hn:((List.range (ns.length - ns0.length)).map fun i=>(fun b=>eval ns b (ns0.length+2+i):BFn)).Nodup:=by
  refine List.pairwise_map.2 (List.Pairwise.imp_of_mem ?_ (List.nodup_range (n:=ns.length - ns0.length)))
  intro i j hi hj hij e
  have hi:=List.mem_range.1 hi
  have hj:=List.mem_range.1 hj
  apply hij
  have:=canon_aux w (ns.length+2) (ns0.length+2+i) (ns0.length+2+j) (by omega) (by omega) (by unfold Ref; omega) (by unfold Ref; omega) fun a=>congrFun e a
  omega
 have:=@nodup_len BFn (fun a b=>Classical.propDecidable (a=b)) _ L hn fun x hx=>by
  obtain ⟨i,hi,rfl⟩:=List.mem_map.1 hx
  have hi:=List.mem_range.1 hi
  obtain ⟨G,g1,g2⟩:=h (ns0.length+2+i) (by omega) (by omega)
  obtain ⟨t,a,ht,e,hd⟩:=node_cof w (z:=ns0.length+2+i) (by unfold Ref; omega) (by omega) g2
  rw [e]
  exact hL G g1 t a ht hd
 simp at this
 omega
end
theorem bits_of (a:Nat→Bool) (k:Nat):∃ p,p < 2 ^ k∧∀ i,i < k→a i=p.testBit (k - 1 - i) :=
 ⟨valK a k,valK_lt a k,(valK_eq k (valK a k) (valK_lt a k)).2 rfl⟩
end Go.Sy
namespace Go.Sy
open Go.Bd
end Go.Sy
end
