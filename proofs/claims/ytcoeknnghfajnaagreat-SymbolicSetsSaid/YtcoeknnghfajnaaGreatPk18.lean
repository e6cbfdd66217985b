/-
  A part of the proof of this claim's statement (SyW6, SyW7, SyW8, SyW9, SyWA, SyWB): plain theorems; no conditions beyond those each names.
-/
import Derived.Test.YtcoeknnghfajnaaGreatPk17
import Derived.Test.YtcoeknnghfajnaaGreatPk14
set_option maxRecDepth 100000
set_option linter.unusedSimpArgs false
set_option linter.unusedVariables false
set_option linter.unusedSectionVars false
section
namespace Go.Proofs.YtcoeknnghfajnaaGreat
open Go Go.W Go.Tk Go.Rx Go.Bd Go.Sy Go.Maps
def rlB (T:Nt) (o:No) (k:Nat) (a:Nat→Bool):Bool:=(List.range (T.vars.length - k)).all fun j=>decide (rv T.vars a 1 (k+j)=chgV o (rs T.vars a 0) (k+j))
theorem rlB_end {T:Nt} {o:No} {a:Nat→Bool}:rlB T o T.vars.length a=true:=by unfold rlB; simp
theorem rlB_step {T:Nt} {o:No} {k:Nat} {a:Nat→Bool} (hk:k < T.vars.length):rlB T o k a=(decide (rv T.vars a 1 k=chgV o (rs T.vars a 0) k) && rlB T o (k+1) a):=by
 unfold rlB
 rw [show T.vars.length - k=(T.vars.length - (k+1))+1 by omega,List.range_succ_eq_map,List.all_cons,List.all_map]
 congr 1
 refine congrArg (fun f=>(List.range (T.vars.length - (k+1))).all f) ?_
 funext j
 simp only [Function.comp]
 rw [show k+j.succ=k+1+j by omega]
theorem rlB_all {T:Nt} {o:No} {a:Nat→Bool}:rlB T o 0 a=decide (rs T.vars a 1=apS o (rs T.vars a 0)):=by
 rw [Bool.eq_iff_iff,decide_eq_true_iff,←rel_all]
 unfold rlB relV
 rw [List.all_eq_true]
 constructor
 ·intro h v hv
  have:=h v (List.mem_range.2 (by omega))
  simpa using this
 ·intro h k hk
  have:=h k (by have:=List.mem_range.1 hk; omega)
  simpa using this
structure RelW (T:Nt) (o:No) (W:((Nat→Bool)→Bool)→Prop):Prop where
 lit:LitW T.vars W
 ch:∀v,v < T.vars.length→ChW T.vars o v W
 rl:∀j,j < T.vars.length→W (rlB T o j)
 pre:FcW T.vars o.pre W
 fin:W fun a=>hdB (rs T.vars a 0) o.pre && rlB T o 0 a
theorem getM_mem {l:List (Nat × Nat)} {x v:Nat} (h:getM l x=some v):(x,v) ∈ l:=by
 unfold getM at h
 rw [Option.map_eq_some_iff] at h
 obtain ⟨p,hp,rfl⟩:=h
 have h1:=List.mem_of_find?_eq_some hp
 have h2:=List.find?_some hp
 simp at h2
 obtain ⟨a,b⟩:=p
 simp at h2
 subst h2
 exact h1
theorem putM_len_le {κ α:Type} [DecidableEq κ] {l:List (κ × α)} {x:κ} {v:α}:(putM l x v).length≤l.length+1:=by
 unfold putM
 split <;> simp
def RlI (b s m lim:Nat) (T:Nt) (q:SpC) (ns:Ns) (R:Asr) (w:World) (F:List Nat) (W:((Nat→Bool)→Bool)→Prop) (op:Nat) (o:No) (n:Nat) (ρ:Env) (w':World):Prop :=
 ρ 0=.pointer (some ⟨s,0,none⟩)∧ρ 1=.int .i64 (op:Nat)∧ρ 8=.pointer (some ⟨b,0,none⟩)∧ρ 10=.int .i64 ((n:Int) - 1)∧n≤T.vars.length ∧
  ∃f e' ns',ρ 9=.int .i64 (f:Nat)∧Stp (2 * nBits T.vars) lim W false ns e' ns'∧Mn ns' e' f (rlB T o n)∧At w F (BlA b s m lim T.vars q e' ns' R) w'
def RlPost (s m lim:Nat) (T:Nt) (q:SpC) (ns:Ns) (ks:List (Nat × Bool)) (ss:List (Nat × Nat)) (B:Asr) (w:World) (F:List Nat) (W:((Nat→Bool)→Bool)→Prop) (op:Nat) (o:No) (v:Value) (w':World):Prop :=
 ∃r e' ns' ss',v=.tuple #[.int .i64 (r:Nat),eB e']∧Stp (2 * nBits T.vars) lim W false ns e' ns'∧(e'=false→RelOk T ns' (op,r))∧SpG lim T q ns' ks ss'∧ss'.length≤ss.length+1∧At w F (SpcA s m lim T q ns' ks ss' B) w'
section
variable {w w1:World} {F:List Nat} {B:Asr} {s m lim:Nat} {T:Nt} {q:SpC} {ns:Ns} {ks:List (Nat × Bool)} {ss:List (Nat × Nat)} {W:((Nat→Bool)→Bool)→Prop}
set_option maxHeartbeats 2000000 in
theorem relation_spec (op:Nat) (o:No) (hG:SpG lim T q ns ks ss) (hB:Lcl B) (h:At w F (SpcA s m lim T q ns ks ss B) w1) (ho:T.ops[op]? = some o) (hsl:ss.length < 1000000) (hW:RelW T o W) :
  Calls Tryz.prog 41 [.pointer (some ⟨s,0,none⟩),.int .i64 (op:Nat)].toArray w1 fun en w'=>∃u,en=.returned u∧RlPost s m lim T q ns ks ss B w F W op o u w':=by
 refine enter Tryz.func41 mixed low41 (Nat.le_of_ble_eq_true rfl) ?_
 simp only [L41]
 have os:=SpcA.obj h
 unfold spO at os
 have hol:=hG.g.olen
 have hopl:=(List.getElem?_eq_some_iff.1 ho).1
 have hok:i64ok op:=by unfold i64ok; omega
 simp [cell_blk os]
 refine MapM.look2 (x:=op) (SpcA.sm h) bkeyI Tryz.underlying73 zint hok ?_
 cases hg:getM ss op with
 | some r =>
  simp [natV]
  have hm:=hG.rel _ (getM_mem hg)
  exact ⟨r,false,ns,ss,by simp [eB],Stp.refl hG.ok.wf hG.ok.nl,fun _=>hm,hG,Nat.le_succ _,h⟩
 | none =>
  obtain ⟨b,hb⟩:∃b,b=w1.heap.size:=⟨_,rfl⟩
  have h2:=SpcA.bl hB h
  obtain ⟨w2,hw2⟩:∃w2,w2=w1.alloc (blO s false):=⟨_,rfl⟩
  rw [←hb,←hw2] at h2
  have hw2':w1.alloc (.cells #[.pointer (some ⟨s,0,none⟩),.nilIface] 81 (0,0))=w2:=by rw [hw2]; rfl
  have h2':=h2
  unfold BlA at h2'
  have os2:=h2'.drop.drop.obj
  unfold spO at os2
  rw [hG.cells.1] at os2
  have hT2:=BlA.frame h2 RestA.rd
  have hvl:=hG.g.vlen
  simp (disch:=omega) [←hb,hw2',cell_blk os2,hT2.vars.len,wrap_i64]
  have hR:Lcl (RestA T q ks ss B):=RestA.lcl hB
  have hom:=List.mem_of_getElem? ho
  have hog:=hG.g.ops o hom
  have helen:=hog.elen
  have hpl:=hog.pre.len
  refine loop_inv (RlI b s m lim T q ns (RestA T q ks ss B) w F W op o) T.vars.length ⟨by simp,by simp,by simp,by simp,Nat.le_refl _,1,false,ns,by simp,Stp.refl hG.ok.wf hG.ok.nl,one_mn hG.ok.wf _ _ (fun a=>rlB_end),h2⟩ ?_
  clear os2 hT2 h2
  rintro n ρ w3 ⟨g0,g1,g8,g10,hnl,f,e3,ns3,g9,hs,hmf,h3⟩
  have hk3:=hG.ok.stp hs
  have h3':=h3
  unfold BlA at h3'
  have os3:=h3'.drop.drop.obj
  unfold spO at os3
  rw [hG.cells.2.2.2] at os3
  have hT3:=BlA.frame h3 RestA.rd
  have hR3:=hT3.op o hom
  have hopi:(op:Int) < T.ops.length:=by omega
  by_cases hn0:n=0
  ·subst hn0
   have c2:=hT3.ops.fld noE_len ho (o:=2) (u:=o.pv.1) rfl
   simp (disch:=omega) [g10,g0,g1,g8,g9,cell_blk os3,hT3.ops.idx,c2]
   refine cl_of (bFacts_spec o.pv.1 o.pre hk3 hR h3 (fun w' F' hb'=>((RestA.rd w' F' hb').op o hom).pre) hog.pre.rng (by omega) hW.lit hW.pre) ?_
   rintro _ w4 ⟨y4,e4,ns4,rfl,hs4,hm4,h4⟩
   have hk4:=hk3.stp hs4
   simp [g8,g9]
   refine cl_of (bAnd_spec y4 f _ _ hk4 hR h4 hm4 (hmf.keep hk3.wf hs4) hW.fin) ?_
   rintro _ w5 ⟨y5,e5,ns5,rfl,hs5,hm5,h5⟩
   have hk5:=hk4.stp hs5
   have hst:=(hs.trans hs4).trans hs5
   have h5':=h5
   unfold BlA at h5'
   have ob5:=h5'.drop.obj
   unfold blO at ob5
   cases e5 with
   | true =>
    simp [g8,cell_blk ob5,eB,berrV]
    exact ⟨0,true,ns5,ss,by simp [eB,berrV],hst,fun h=>(by cases h),hG.stp hst,Nat.le_succ _,SpcA.un (h5.drew (BlA.lcl hR))⟩
   | false =>
    have h6:=SpcA.un h5
    have os6:=SpcA.obj h6
    unfold spO at os6
    simp [g8,g0,g1,cell_blk ob5,cell_blk os6,eB]
    refine SpcA.putS hB h6 hok (by omega) fun w7 h7=>?_
    simp
    have hm:=hm5.2 rfl
    have hrl:RelOk T ns5 (op,y5):=⟨hm.1,o,ho,fun a=>by rw [hm.2 a]; unfold relB; rw [←rlB_all]⟩
    have hG5:=hG.stp hst
    refine ⟨y5,false,ns5,putM ss op y5,by simp [eB],hst,fun _=>hrl,?_,putM_len_le,h7⟩
    exact ⟨hG5.ok,hG5.g,hG5.cells,hG5.all,hG5.set,fun p hp=>by
     rcases putM_mem hp with h | rfl
     ·exact hG5.rel p h
     ·exact hrl,hG5.kl,by have:(putM ss op y5).length≤ss.length+1:=putM_len_le; omega⟩
  obtain ⟨j,rfl⟩:∃j,n=j+1:=⟨n - 1,by omega⟩
  have hj9:((j+1:Nat):Int) - 1=(j:Int):=by omega
  rw [hj9] at g10
  have ec:=hT3.ops.cells noE_len ho
  simp only [noE] at ec
  simp (disch:=omega) [g10,g0,g1,g8,cell_blk os3,hT3.ops.idx,ec]
  have hand:W fun a=>decide (rv T.vars a 1 j=chgV o (rs T.vars a 0) j) && rlB T o (j+1) a:=by
   have:=hW.rl j (by omega)
   rwa [show rlB T o j=fun a=>decide (rv T.vars a 1 j=chgV o (rs T.vars a 0) j) && rlB T o (j+1) a from funext fun a=>rlB_step (by omega)] at this
  refine cl_of (bChanged_spec o j hk3 hR h3 (by omega) (fun w' F' hb'=>(RestA.rd w' F' hb').op o hom) hog hW.lit (hW.ch j (by omega))) ?_
  rintro _ w4 ⟨y4,e4,ns4,rfl,hs4,hm4,h4⟩
  have hk4:=hk3.stp hs4
  simp [g8,g9]
  refine cl_of (bAnd_spec y4 f _ _ hk4 hR h4 hm4 (hmf.keep hk3.wf hs4) hand) ?_
  rintro _ w5 ⟨y5,e5,ns5,rfl,hs5,hm5,h5⟩
  simp (disch:=omega) [g10,wrap_i64]
  refine ⟨j,by omega,by simp [g0],by simp [g1],by simp [g8],by simp,by omega,y5,e5,ns5,by simp,(hs.trans hs4).trans hs5,?_,h5⟩
  ·exact ⟨hm5.1,fun he=>⟨(hm5.2 he).1,fun a=>by rw [(hm5.2 he).2 a,rlB_step (by omega)]⟩⟩
end
end Go.Proofs.YtcoeknnghfajnaaGreat
end
section
namespace Go.Proofs.YtcoeknnghfajnaaGreat
open Go Go.W Go.Tk Go.Rx Go.Bd Go.Sy Go.Maps
def ksR (ks:List (Nat × Bool)) (x:Nat) (e:Bool):List (Nat × Bool):=if e=true then ks else putM ks x true
theorem ksR_len {ks:List (Nat × Bool)} {x:Nat} {e:Bool}:(ksR ks x e).length≤ks.length+1:=by
 unfold ksR
 split
 ·omega
 ·exact putM_len_le
def setF (vars:List Nat) (P:List Nat→Bool):(Nat→Bool)→Bool:=fun a=>okB vars a && P (rs vars a 0)
def SRes (s m lim:Nat) (T:Nt) (q:SpC) (ns:Ns) (ks:List (Nat × Bool)) (ss:List (Nat × Nat)) (B:Asr) (w:World) (F:List Nat) (W:((Nat→Bool)→Bool)→Prop) (P:List Nat→Bool) (v:Value) (w':World):Prop :=
 ∃x e' ns' ss',v=.tuple #[.int .i64 (x:Nat),eB e']∧Stp (2 * nBits T.vars) lim W false ns e' ns'∧(e'=true→x=0)∧(e'=false→SetOk T.vars ns' x P)∧SpG lim T q ns' (ksR ks x e') ss'∧ss'.length≤ss.length+1∧At w F (SpcA s m lim T q ns' (ksR ks x e') ss' B) w'
theorem SpG.put {lim:Nat} {T:Nt} {q:SpC} {ns:Ns} {ks:List (Nat × Bool)} {ss:List (Nat × Nat)} {x:Nat} {e:Bool} {P:List Nat→Bool} (h:SpG lim T q ns ks ss) (hl:ks.length < 1000000) (hx:e=false→SetOk T.vars ns x P):SpG lim T q ns (ksR ks x e) ss:=by
 cases e with
 | true=>exact h
 | false =>
  refine ⟨h.ok,h.g,h.cells,h.all,fun p hp=>?_,h.rel,by have:(ksR ks x false).length≤ks.length+1:=ksR_len; omega,h.sl⟩
  rcases putM_mem hp with h1 | rfl
  ·exact h.set p h1
  ·exact ⟨rfl,P,hx rfl⟩
theorem ref_le {lim:Nat} {vars:List Nat} {ns:Ns} {x:Nat} (hk:SpOk vars lim ns) (h:Ref ns x):x≤2000000:=by
 have h1:=hk.lmx
 have h2:=hk.nl
 unfold Ref at h
 omega
structure Kn (T:Nt) (ns:Ns) (ks:List (Nat × Bool)) (x:Nat) (P:List Nat→Bool):Prop where
 kn:getM ks x=some true
 ok:SetOk T.vars ns x P
section
variable {w w1:World} {F:List Nat} {B:Asr} {s m lim:Nat} {T:Nt} {q:SpC} {ns:Ns} {ks:List (Nat × Bool)} {ss:List (Nat × Nat)}
theorem Kn.le {x:Nat} {P:List Nat→Bool} (h:Kn T ns ks x P) (hG:SpG lim T q ns ks ss):x≤2000000:=ref_le hG.ok h.ok.1
theorem returned_spec (x:Nat) (e:Bool) (hB:Lcl B) (h:At w F (SpcA s m lim T q ns ks ss B) w1) (hx:x≤2000000) (hkl:ks.length≤1000000) :
  Calls Tryz.prog 36 [.pointer (some ⟨s,0,none⟩),.int .i64 (x:Nat),eB e].toArray w1 fun en w'=>∃v,en=.returned v∧v=.tuple #[.int .i64 ((if e=true then 0 else x:Nat):Nat),eB e]∧At w F (SpcA s m lim T q ns (ksR ks x e) ss B) w':=by
 refine enter Tryz.func36 mixed low36 (Nat.le_of_ble_eq_true rfl) ?_
 simp only [L36]
 have os:=SpcA.obj h
 unfold spO at os
 have hok:i64ok x:=by unfold i64ok; omega
 cases e with
 | true =>
  simp [eB,berrV]
  exact h
 | false =>
  simp [eB,cell_blk os]
  refine SpcA.putK hB h hok hkl fun w2 h2=>?_
  simp
  exact h2
set_option maxHeartbeats 1000000 in
theorem two_spec (a b:Nat) (h:At w F (SpcA s m lim T q ns ks ss B) w1) (ha:getM ks a=some true) (hb:getM ks b=some true) (hxa:a≤2000000) (hxb:b≤2000000) (hB:Lcl B) :
  Calls Tryz.prog 46 [.pointer (some ⟨s,0,none⟩),.int .i64 (a:Nat),.int .i64 (b:Nat)].toArray w1 fun en w'=>∃v,en=.returned v∧v=.nilIface∧At w F (SpcA s m lim T q ns ks ss B) w':=by
 refine enter Tryz.func46 mixed low46 (Nat.le_of_ble_eq_true rfl) ?_
 simp only [L46]
 have os:=SpcA.obj h
 unfold spO at os
 have hka:i64ok a:=by unfold i64ok; omega
 have hkb:i64ok b:=by unfold i64ok; omega
 simp [cell_blk os]
 refine MapM.look1 (x:=a) (SpcA.km h) bkeyI Tryz.underlying72 zbool hka ?_
 simp [ha,boolV,cell_blk os]
 refine MapM.look1 (x:=b) (SpcA.km h) bkeyI Tryz.underlying72 zbool hkb ?_
 simp [hb,boolV]
 exact h
theorem step_spec (a op:Nat) (h:At w F (SpcA s m lim T q ns ks ss B) w1) (ha:getM ks a=some true) (hxa:a≤2000000) (hG:SpG lim T q ns ks ss) (ho:op < T.ops.length) (hB:Lcl B) :
  Calls Tryz.prog 40 [.pointer (some ⟨s,0,none⟩),.int .i64 (a:Nat),.int .i64 (op:Nat)].toArray w1 fun en w'=>∃v,en=.returned v∧v=.nilIface∧At w F (SpcA s m lim T q ns ks ss B) w':=by
 refine enter Tryz.func40 mixed low40 (Nat.le_of_ble_eq_true rfl) ?_
 simp only [L40]
 have os:=SpcA.obj h
 unfold spO at os
 rw [hG.cells.2.2.2] at os
 have hT:=SpcA.tsk h
 have hka:i64ok a:=by unfold i64ok; omega
 have h0:¬(op:Int) < 0:=by omega
 have h1:¬(T.ops.length:Int)≤(op:Int):=by omega
 simp [cell_blk os]
 refine MapM.look1 (x:=a) (SpcA.km h) bkeyI Tryz.underlying72 zbool hka ?_
 simp [ha,boolV,cell_blk os,h0,hT.ops.len,h1]
 exact h
end
end Go.Proofs.YtcoeknnghfajnaaGreat
end
section
namespace Go.Proofs.YtcoeknnghfajnaaGreat
open Go Go.W Go.Tk Go.Rx Go.Bd Go.Sy Go.Maps
section
variable {w w1:World} {F:List Nat} {B:Asr} {s m lim:Nat} {T:Nt} {q:SpC} {ns:Ns} {ks:List (Nat × Bool)} {ss:List (Nat × Nat)} {W:((Nat→Bool)→Bool)→Prop}
theorem SpcA.rest (hB:Lcl B):Lcl (Star (ObjA s (spO m T.vars q)) (Star (OwnA q.fv 3 1 nE (firstL T.vars)) (Star (OwnA q.wv 3 1 nE (widthL T.vars)) (Star (KmA q.km ks) (Star (SmA q.sm ss) (Star (TskA T) B)))))):=Lcl.obj.star (Lcl.own.star (Lcl.own.star (Lcl.map.star (Lcl.map.star (TskA.lcl.star hB)))))
theorem sres_end {x:Nat} {e:Bool} {ns':Ns} {P:List Nat→Bool} {w':World} {v:Value} (hG:SpG lim T q ns ks ss) (hkl:ks.length < 1000000) (hs:Stp (2 * nBits T.vars) lim W false ns e ns') (hx:e=false→SetOk T.vars ns' x P) (hv:v=.tuple #[.int .i64 ((if e=true then 0 else x:Nat):Nat),eB e])
  (h:At w F (SpcA s m lim T q ns' (ksR ks x e) ss B) w'):SRes s m lim T q ns ks ss B w F W P v w':=by
 cases e with
 | true=>exact ⟨0,true,ns',ss,by rw [hv]; rfl,hs,fun _=>rfl,fun h=>(by cases h),hG.stp hs,Nat.le_succ _,h⟩
 | false=>exact ⟨x,false,ns',ss,by rw [hv]; rfl,hs,fun h=>(by cases h),hx,(hG.stp hs).put hkl hx,Nat.le_succ _,h⟩
set_option maxHeartbeats 1000000 in
theorem union_spec (a b:Nat) (P Q:List Nat→Bool) (hG:SpG lim T q ns ks ss) (hB:Lcl B) (h:At w F (SpcA s m lim T q ns ks ss B) w1) (ha:Kn T ns ks a P) (hb:Kn T ns ks b Q) (hkl:ks.length < 1000000) (hW:W (setF T.vars fun x=>P x || Q x)) :
  Calls Tryz.prog 13 [.pointer (some ⟨s,0,none⟩),.int .i64 (a:Nat),.int .i64 (b:Nat)].toArray w1 fun en w'=>∃v,en=.returned v∧SRes s m lim T q ns ks ss B w F W (fun x=>P x || Q x) v w':=by
 refine enter Tryz.func13 mixed low13 (Nat.le_of_ble_eq_true rfl) ?_
 simp only [L13]
 simp
 refine cl_of (two_spec a b h ha.kn hb.kn (ha.le hG) (hb.le hG) hB) ?_
 rintro _ w2 ⟨rfl,h2⟩
 have os:=SpcA.obj h2
 unfold spO at os
 simp [cell_blk os]
 obtain ⟨p1,p2⟩:=ps_clo hG.ok.wf 1 ha.ok.1 hb.ok.1
 have h2':=h2
 unfold SpcA at h2'
 refine cl_of (or_of (binary_spec m (2 * nBits T.vars) lim ns 1 a b _ (by omega) (SpcA.rest hB) h2' hG.ok.wf hG.ok.bnd ha.ok.1 hb.ok.1 p2 p1) (by rintro v w' ⟨r,_,rfl,_⟩; exact optV_tup r)) ?_
 rintro _ w3 ⟨r,ns',rfl,hbin,h3⟩
 obtain ⟨s1,s2⟩:=op_end (W:=W) (G:=setF T.vars fun x=>P x || Q x) hG.ok hbin (fun _ _ h=>h) (fun x=>by
  show (eval ns x a || eval ns x b)=_
  rw [ha.ok.2,hb.ok.2]
  unfold setF
  cases okB T.vars x <;> rfl) hW
 rw [optV_parts]
 simp
 have h3':At w F (SpcA s m lim T q ns' ks ss B) w3:=h3
 refine cl_of (returned_spec (r.getD 0) r.isNone hB h3' s2.1 (by omega)) ?_
 rintro _ w4 ⟨rfl,h4⟩
 simp
 refine sres_end hG hkl s1 (fun e=>⟨(s2.2 e).1,fun x=>?_⟩) (by cases r <;> rfl) h4
 rw [(s2.2 e).2]
 rfl
set_option maxHeartbeats 1000000 in
theorem intersect_spec (a b:Nat) (P Q:List Nat→Bool) (hG:SpG lim T q ns ks ss) (hB:Lcl B) (h:At w F (SpcA s m lim T q ns ks ss B) w1) (ha:Kn T ns ks a P) (hb:Kn T ns ks b Q) (hkl:ks.length < 1000000) (hW:W (setF T.vars fun x=>P x && Q x)) :
  Calls Tryz.prog 55 [.pointer (some ⟨s,0,none⟩),.int .i64 (a:Nat),.int .i64 (b:Nat)].toArray w1 fun en w'=>∃v,en=.returned v∧SRes s m lim T q ns ks ss B w F W (fun x=>P x && Q x) v w':=by
 refine enter Tryz.func55 mixed low55 (Nat.le_of_ble_eq_true rfl) ?_
 simp only [L55]
 simp
 refine cl_of (two_spec a b h ha.kn hb.kn (ha.le hG) (hb.le hG) hB) ?_
 rintro _ w2 ⟨rfl,h2⟩
 have os:=SpcA.obj h2
 unfold spO at os
 simp [cell_blk os]
 obtain ⟨p1,p2⟩:=ps_clo hG.ok.wf 0 ha.ok.1 hb.ok.1
 have h2':=h2
 unfold SpcA at h2'
 refine cl_of (and_of (binary_spec m (2 * nBits T.vars) lim ns 0 a b _ (by omega) (SpcA.rest hB) h2' hG.ok.wf hG.ok.bnd ha.ok.1 hb.ok.1 p2 p1) (by rintro v w' ⟨r,_,rfl,_⟩; exact optV_tup r)) ?_
 rintro _ w3 ⟨r,ns',rfl,hbin,h3⟩
 obtain ⟨s1,s2⟩:=op_end (W:=W) (G:=setF T.vars fun x=>P x && Q x) hG.ok hbin (fun _ _ h=>h) (fun x=>by
  show (eval ns x a && eval ns x b)=_
  rw [ha.ok.2,hb.ok.2]
  unfold setF
  cases okB T.vars x <;> rfl) hW
 rw [optV_parts]
 simp
 have h3':At w F (SpcA s m lim T q ns' ks ss B) w3:=h3
 refine cl_of (returned_spec (r.getD 0) r.isNone hB h3' s2.1 (by omega)) ?_
 rintro _ w4 ⟨rfl,h4⟩
 simp
 refine sres_end hG hkl s1 (fun e=>⟨(s2.2 e).1,fun x=>?_⟩) (by cases r <;> rfl) h4
 rw [(s2.2 e).2]
 rfl
set_option maxHeartbeats 1000000 in
theorem minus_spec (a b:Nat) (P Q:List Nat→Bool) (hG:SpG lim T q ns ks ss) (hB:Lcl B) (h:At w F (SpcA s m lim T q ns ks ss B) w1) (ha:Kn T ns ks a P) (hb:Kn T ns ks b Q) (hkl:ks.length < 1000000) (hW1:W fun a=>!setF T.vars Q a) (hW2:W (setF T.vars fun x=>P x && !Q x)) :
  Calls Tryz.prog 57 [.pointer (some ⟨s,0,none⟩),.int .i64 (a:Nat),.int .i64 (b:Nat)].toArray w1 fun en w'=>∃v,en=.returned v∧SRes s m lim T q ns ks ss B w F W (fun x=>P x && !Q x) v w':=by
 refine enter Tryz.func57 mixed low57 (Nat.le_of_ble_eq_true rfl) ?_
 simp only [L57]
 simp
 refine cl_of (two_spec a b h ha.kn hb.kn (ha.le hG) (hb.le hG) hB) ?_
 rintro _ w2 ⟨rfl,h2⟩
 obtain ⟨bb,hbb⟩:∃bb,bb=w2.heap.size:=⟨_,rfl⟩
 have h3:=SpcA.bl hB h2
 obtain ⟨w3,hw3⟩:∃w3,w3=w2.alloc (blO s false):=⟨_,rfl⟩
 rw [←hbb,←hw3] at h3
 have hw3':w2.alloc (.cells #[.pointer (some ⟨s,0,none⟩),.nilIface] 81 (0,0))=w3:=by rw [hw3]; rfl
 have hR:Lcl (RestA T q ks ss B):=RestA.lcl hB
 have mb:Mn ns false b (setF T.vars Q):=⟨hb.le hG,fun _=>hb.ok⟩
 have ma:Mn ns false a (setF T.vars P):=⟨ha.le hG,fun _=>ha.ok⟩
 have e2:(setF T.vars fun x=>P x && !Q x)=fun a=>setF T.vars P a && !setF T.vars Q a:=funext fun a=>by
  unfold setF
  cases okB T.vars a <;> simp
 rw [e2] at hW2
 simp [←hbb,hw3']
 refine cl_of (bNot_spec b _ hG.ok hR h3 mb hW1) ?_
 rintro _ w4 ⟨y4,e4,ns4,rfl,hs4,hm4,h4⟩
 have hk4:=hG.ok.stp hs4
 simp
 refine cl_of (bAnd_spec a y4 _ _ hk4 hR h4 (ma.keep hG.ok.wf hs4) hm4 hW2) ?_
 rintro _ w5 ⟨y5,e5,ns5,rfl,hs5,hm5,h5⟩
 have hk5:=hk4.stp hs5
 have h5':=h5
 unfold BlA at h5'
 have ob5:=h5'.drop.obj
 unfold blO at ob5
 simp [cell_blk ob5]
 refine cl_of (returned_spec y5 e5 hB (SpcA.un h5) hm5.1 (by omega)) ?_
 rintro _ w6 ⟨rfl,h6⟩
 simp
 refine sres_end hG hkl (hs4.trans hs5) (fun e=>⟨(hm5.2 e).1,fun x=>?_⟩) rfl h6
 rw [(hm5.2 e).2]
 exact (congrFun e2 x).symm
end
end Go.Proofs.YtcoeknnghfajnaaGreat
end
section
namespace Go.Proofs.YtcoeknnghfajnaaGreat
open Go Go.W Go.Tk Go.Rx Go.Bd Go.Sy Go.Maps
section
variable {w w1:World} {F:List Nat} {A B:Asr} {s m lim:Nat} {T:Nt} {q:SpC} {ns:Ns} {ks:List (Nat × Bool)} {ss:List (Nat × Nat)} {W:((Nat→Bool)→Bool)→Prop}
theorem SpcA.into (h:At w F (Star A (SpcA s m lim T q ns ks ss B)) w1):At w F (SpcA s m lim T q ns ks ss (Star A B)) w1:=by
 unfold SpcA at h ⊢
 exact h.by Imp.bk8
theorem SpcA.out (h:At w F (SpcA s m lim T q ns ks ss (Star A B)) w1):At w F (Star A (SpcA s m lim T q ns ks ss B)) w1:=by
 unfold SpcA at h ⊢
 exact h.by Imp.fr8
theorem SpcA.less (h:At w F (SpcA s m lim T q ns ks ss (Star A B)) w1):At w F (SpcA s m lim T q ns ks ss B) w1:=(SpcA.out h).by Imp.dr
theorem SRes.less {P:List Nat→Bool} {v:Value} {w':World} (h:SRes s m lim T q ns ks ss (Star A B) w F W P v w'):SRes s m lim T q ns ks ss B w F W P v w':=by
 obtain ⟨x,e',ns',ss',h1,h2,h3,h4,h5,h6,h7⟩:=h
 exact ⟨x,e',ns',ss',h1,h2,h3,h4,h5,h6,SpcA.less h7⟩
set_option maxHeartbeats 1000000 in
theorem partial_spec (pv:Value) (p:List Go.Tk.Fc) (hG:SpG lim T q ns ks ss) (hB:Lcl B) (h:At w F (SpcA s m lim T q ns ks ss B) w1) (hr:Rds B fun w'=>Vw w' pv fcE p) (hp:propF (T.vars.map iN) (p.map faN)=true) (hpo:FcOk T.vars p) (hkl:ks.length < 1000000) (hL:LitW T.vars W) (hF:FcW T.vars p W) (hW:W (setF T.vars fun x=>hdB x p)) :
  Calls Tryz.prog 54 [.pointer (some ⟨s,0,none⟩),pv].toArray w1 fun en w'=>∃v,en=.returned v∧SRes s m lim T q ns ks ss B w F W (fun x=>hdB x p) v w':=by
 refine enter Tryz.func54 mixed low54 (Nat.le_of_ble_eq_true rfl) ?_
 simp only [L54]
 have os:=SpcA.obj h
 unfold spO at os
 rw [hG.cells.1] at os
 have hT:=SpcA.tsk h
 have hpl:=hpo.len
 have hvl:=hG.g.vlen
 have hLS:Lcl (SpcA s m lim T q ns ks ss B):=SpcA.lcl hB
 simp [cell_blk os]
 refine cl_of (tfacts_spec T.vv.1 pv _ _ (vw_n.2 hT.vars) (vw_fc.2 (SpcA.frame h hr)) (by simp; omega)) ?_
 rintro _ w2 ⟨rfl,k2⟩
 have h2:=h.kp0 hLS k2
 obtain ⟨bb,hbb⟩:∃bb,bb=w2.heap.size:=⟨_,rfl⟩
 have h3:=SpcA.bl hB h2
 obtain ⟨w3,hw3⟩:∃w3,w3=w2.alloc (blO s false):=⟨_,rfl⟩
 rw [←hbb,←hw3] at h3
 have hw3':w2.alloc (.cells #[.pointer (some ⟨s,0,none⟩),.nilIface] 81 (0,0))=w3:=by rw [hw3]; rfl
 have hR:Lcl (RestA T q ks ss B):=RestA.lcl hB
 have h3':=h3
 unfold BlA at h3'
 have os3:=h3'.drop.drop.obj
 unfold spO at os3
 have ma:Mn ns false q.all (setF T.vars fun _=>true):=⟨ref_le hG.ok hG.all.1,fun _=>hG.all⟩
 have e2:(setF T.vars fun x=>hdB x p)=fun a=>setF T.vars (fun _=>true) a && hdB (rs T.vars a 0) p:=funext fun a=>by
  unfold setF
  cases okB T.vars a <;> simp
 rw [e2] at hW
 have h3d:=h3.drew (BlA.lcl hR)
 have hrR:Rds (RestA T q ks ss B) fun w'=>Vw w' pv fcE p:=by unfold RestA; exact Rds.star (Rds.star (Rds.star hr))
 simp [hp,←hbb,hw3',cell_blk os3]
 refine ⟨?_,?_⟩ <;>
 ·refine cl_of (bFacts_spec pv p hG.ok hR h3d hrR hpo.rng (by omega) hL hF) ?_
  rintro _ w4 ⟨y4,e4,ns4,rfl,hs4,hm4,h4⟩
  have hk4:=hG.ok.stp hs4
  have h4':=h4
  unfold BlA at h4'
  have os4:=h4'.drop.drop.obj
  unfold spO at os4
  simp [cell_blk os4]
  refine cl_of (bAnd_spec q.all y4 _ _ hk4 hR h4 (ma.keep hG.ok.wf hs4) hm4 hW) ?_
  rintro _ w5 ⟨y5,e5,ns5,rfl,hs5,hm5,h5⟩
  have hk5:=hk4.stp hs5
  have h5':=h5
  unfold BlA at h5'
  have ob5:=h5'.drop.obj
  unfold blO at ob5
  simp [cell_blk ob5]
  refine cl_of (returned_spec y5 e5 hB (SpcA.un h5) hm5.1 (by omega)) ?_
  rintro _ w6 ⟨rfl,h6⟩
  simp
  refine sres_end hG hkl (hs4.trans hs5) (fun e=>⟨(hm5.2 e).1,fun x=>?_⟩) rfl h6
  rw [(hm5.2 e).2]
  exact (congrFun e2 x).symm
end
end Go.Proofs.YtcoeknnghfajnaaGreat
end
section
namespace Go.Proofs.YtcoeknnghfajnaaGreat
open Go Go.W Go.Tk Go.Rx Go.Bd Go.Sy Go.Maps
def tlL (g:Nat→Int) (n k:Nat):List Int:=(List.range n).map fun i=>if i < k then g i else 0
theorem tlL_len (g:Nat→Int) (n k:Nat):(tlL g n k).length=n:=by simp [tlL]
theorem tlL_zero (g:Nat→Int) (n:Nat):tlL g n 0=List.replicate n 0:=by
 unfold tlL
 apply List.ext_getElem
 ·simp
 ·intro i h1 h2
  simp
theorem tlL_set (g:Nat→Int) (n k:Nat) (hk:k < n):(tlL g n k).set k (g k)=tlL g n (k+1):=by
 unfold tlL
 apply List.ext_getElem
 ·simp
 ·intro i h1 h2
  rw [List.getElem_set]
  simp only [List.getElem_map,List.getElem_range]
  by_cases h:k=i
  ·subst h
   simp
  ·rw [if_neg h]
   by_cases h3:i < k
   ·rw [if_pos h3,if_pos (by omega)]
   ·rw [if_neg h3,if_neg (by omega)]
theorem tlL_full (g:Nat→Int) (n:Nat):tlL g n n=(List.range n).map g:=by
 unfold tlL
 apply List.map_congr_left
 intro i hi
 rw [if_pos (List.mem_range.1 hi)]
def hfL (nx k:Nat):List Int:=((List.range k).filter fun i=>i % 2 == nx).map fun (i:Nat)=>(i:Int)
def toG (nx i:Nat):Int:=if i % 2=nx then (i:Int)+1 - 2 * nx else i
theorem hfL_in {nx k:Nat} (h:k % 2=nx):hfL nx (k+1)=hfL nx k ++ [(k:Int)]:=by
 unfold hfL
 rw [List.range_succ,List.filter_append,List.map_append]
 simp [h]
theorem hfL_out {nx k:Nat} (h:k % 2≠nx):hfL nx (k+1)=hfL nx k:=by
 unfold hfL
 rw [List.range_succ,List.filter_append,List.map_append]
 simp [h]
theorem hfL_len (nx k:Nat):(hfL nx k).length≤k:=by
 unfold hfL
 rw [List.length_map]
 exact Nat.le_trans (List.length_filter_le _ _) (by simp)
theorem hfL_mem {nx k i:Nat}:((i:Nat):Int) ∈ hfL nx k↔i < k∧i % 2=nx:=by
 unfold hfL
 constructor
 ·intro h
  obtain ⟨j,hj,e⟩:=List.mem_map.1 h
  have:j=i:=by have e:(j:Int)=(i:Int):=e; omega
  subst this
  have:=List.mem_filter.1 hj
  exact ⟨List.mem_range.1 this.1,by simpa using this.2⟩
 ·rintro ⟨h1,h2⟩
  exact List.mem_map.2 ⟨i,List.mem_filter.2 ⟨List.mem_range.2 h1,by simp [h2]⟩,rfl⟩
section
variable {w w1:World} {F:List Nat} {B:Asr} {s m:Nat} {vars:List Nat} {q:SpC}
set_option maxHeartbeats 2000000 in
theorem half_spec (nx:Nat) (hn:nx < 2) (hB:Lcl B) (h:At w F B w1) (hs:Rds B fun w'=>w'.heap[s]? = some (spO m vars q)) (hb:nBits vars≤100) :
  Calls Tryz.prog 42 [.pointer (some ⟨s,0,none⟩),.int .i64 (nx:Nat)].toArray w1 fun en w'=>∃v,en=.returned v∧∃ov tv,v=.tuple #[ov,tv]∧At w F (Star (OwnA ov 3 1 iv (hfL nx (2 * nBits vars))) (Star (OwnA tv 3 1 iv ((List.range (2 * nBits vars)).map (toG nx))) B)) w':=by
 refine enter Tryz.func42 mixed low42 (Nat.le_of_ble_eq_true rfl) ?_
 simp only [L42]
 obtain ⟨_,hq,_⟩:=h.ex
 have os:=hs _ _ hq
 unfold spO at os
 obtain ⟨n,hn2⟩:∃n,n=2 * nBits vars:=⟨_,rfl⟩
 have hnI:(2:Int) * (nBits vars:Nat)=(n:Int):=by omega
 have h1:=h.made (E:=3) (enc:=iv) (x:=0) (z:=[.int .i64 0]) (n:=n) hB rfl iv_len (by unfold maxLen; omega)
 rw [←tlL_zero (toG nx)] at h1
 have hLO:Lcl (Star (OwnA (.slice (some ⟨w1.heap.size,0,none⟩) n n) 3 1 iv (tlL (toG nx) n 0)) B):=Lcl.own.star hB
 have h2:=h1.nil (E:=3) (sz:=1) (enc:=iv) hLO
 simp (disch:=omega) [cell_blk os,wrap_i64,hnI]
 refine gd_mk (by omega) ?_
 simp
 obtain ⟨tv,htv⟩:∃tv,tv=Value.slice (some ⟨w1.heap.size,0,none⟩) n n:=⟨_,rfl⟩
 rw [←htv] at h2 ⊢
 refine range_loop (n:=n) (by omega) (fun k ρ w'=>ρ 1=.int .i64 (nx:Nat)∧ρ 7=tv∧At w F (Star (OwnA (ρ 6) 3 1 iv (hfL nx k)) (Star (OwnA tv 3 1 iv (tlL (toG nx) n k)) B)) w') (by simp) (by rw [htv]; simp)
  ⟨by simp,by simp,by simpa [hfL] using h2⟩ (by decide) (fun _ _ _ _ h=>by simpa using h) (fun _ _ _ _ h=>by simpa using h) ?_ ?_
 ·rintro k ρ w2 hk hck hlk ⟨g1,g7,h3⟩
  obtain ⟨ov,hov⟩:∃ov,ρ 6=ov:=⟨_,rfl⟩
  rw [hov] at h3
  have hki:(k:Int) < n:=by omega
  have hr:=h3.by Imp.sw
  have hL2:Lcl (Star (OwnA ov 3 1 iv (hfL nx k)) B):=Lcl.own.star hB
  have hl:(tlL (toG nx) n k).length=n:=tlL_len _ _ _
  have e2:((k:Int) % 2 == (nx:Int))=(k % 2 == nx):=by
   rw [Bool.eq_iff_iff]
   simp
   omega
  simp (disch:=omega) [hck,hlk,g7,hr.own.idx,hl]
  have et:(k:Int).tmod 2=((k % 2:Nat):Int):=(Int.ofNat_tmod k 2).symm
  refine hr.store1 (x:=(k:Int)) hL2 iv_len iv_one (by rw [hl]; exact hk) rfl fun w3 h4=>?_
  by_cases hp:k % 2=nx
  ·have ep:((k:Int).tmod 2 == (nx:Int))=true:=by
    rw [beq_iff_eq,et]
    omega
   have h5:=h4.by Imp.sw
   have hl4:((tlL (toG nx) n k).set k (k:Int)).length=n:=by rw [List.length_set,hl]
   have hLX:Lcl (Star (OwnA tv 3 1 iv ((tlL (toG nx) n k).set k (k:Int))) B):=Lcl.own.star hB
   simp (disch:=omega) [ep,g1,g7,hov,rowOf]
   have h6:=h5.kp0 (Lcl.own.star hLX) ((Kp.refl [] w3).alloc (.cells #[.int .i64 (k:Nat)] 3))
   have hfl:=hfL_len nx k
   refine At.append (xs:=[(k:Int)]) hLX h6 iv_len iv_one sl_22 rfl (fun j u hj=>?_) (by omega) (by unfold maxLen; omega) fun v' w9 h9=>?_
   ·rw [add_none,cell_blk alloc_new]
    simpa [iv] using hj
   have h10:=h9.by Imp.sw
   have hL10:Lcl (Star (OwnA v' 3 1 iv (hfL nx k ++ [(k:Int)])) B):=Lcl.own.star hB
   simp (disch:=omega) [hck,hlk,g1,g7,h10.own.idx,hl4,wrap_i64]
   refine h10.store1 (x:=(k:Int)+1 - 2 * nx) hL10 iv_len iv_one (by rw [hl4]; exact hk) rfl fun w11 h11=>?_
   rw [List.set_set,show (k:Int)+1 - 2 * nx=toG nx k by unfold toG; rw [if_pos hp],tlL_set _ _ _ hk] at h11
   simp [g1,g7,hck,hlk]
   rw [hfL_in hp]
   exact h11.by Imp.sw
  ·have ep:((k:Int).tmod 2 == (nx:Int))=false:=by
    rw [beq_eq_false_iff_ne,et]
    intro h
    apply hp
    omega
   simp [ep,g1,g7,hov,hck,hlk]
   rw [hfL_out hp,←tlL_set _ _ _ hk,show toG nx k=(k:Int) by unfold toG; rw [if_neg hp]]
   exact h4.by Imp.sw
 rintro ρ w2 ⟨g1,g7,h3⟩
 simp [g7]
 rw [tlL_full] at h3
 rw [←hn2]
 exact ⟨_,_,⟨rfl,rfl⟩,h3⟩
end
end Go.Proofs.YtcoeknnghfajnaaGreat
end
section
namespace Go.Proofs.YtcoeknnghfajnaaGreat
open Go Go.W Go.Tk Go.Rx Go.Bd Go.Sy Go.Maps
theorem rs_congr {vars:List Nat} {a b:Nat→Bool} {nx ny:Nat} (h:∀p,p < nBits vars→a (2 * p+nx)=b (2 * p+ny)):rs vars a nx=rs vars b ny:=by
 refine ext_getD (by rw [rs_len,rs_len]) fun v hv=>?_
 rw [rs_len] at hv
 rw [rs_at hv,rs_at hv]
 unfold rv
 refine valK_congr _ fun k hk=>h _ ?_
 have:vars[v]? = some (vars.getD v 0):=by simp [List.getD,List.getElem?_eq_getElem hv]
 exact bP_in this hk
theorem indep {n:Nat} {ns:Ns} {f y:Nat} (hw:Wf n ns) (hf:Ref ns f) (hy:Rch n ns f y) (h:∀a x,eval ns (upd a (tv n ns y) x) f=eval ns a f):False:=by
 obtain ⟨a,ha⟩:=(reach_dep hw (tv n ns y) hf).1 ⟨y,hy,rfl⟩
 exact ha (by rw [h,h])
theorem toL_tgt {n nx i:Nat} (hi:i < n):tgt ((List.range n).map (toG nx)) (i:Nat)=toG nx i:=by
 unfold tgt
 simp [List.getD,hi]
theorem ren_good {k nx f:Nat} {ns:Ns} {L:List Int} (hw:Wf (2 * k) ns) (hf:Ref ns f) (hn:nx < 2) (hS:SupP (2 * k) ns f L) (hi:∀a i x,i % 2≠nx→i < 2 * k→eval ns (upd a i x) f=eval ns a f):¬RenBad1 (2 * k) ((List.range (2 * k)).map (toG nx)) L∧¬RenBad2 ((List.range (2 * k)).map (toG nx)) L:=by
 have key:∀v ∈ L,∃i:Nat,v=i∧i < 2 * k∧i % 2=nx:=fun v hv=>by
  obtain ⟨y,hy,rfl⟩:=(hS.2 v).1 hv
  have hlt:tv (2 * k) ns y < 2 * k:=hw.tv_var hy.ge (hy.ref hw hf)
  refine ⟨_,rfl,hlt,?_⟩
  apply Decidable.byContradiction
  intro h
  exact indep hw hf hy fun a x=>hi a _ x h hlt
 constructor
 ·rintro (h | ⟨v,hv,h⟩)
  ·exact h (by simp)
  ·obtain ⟨i,rfl,h1,h2⟩:=key v hv
   rw [toL_tgt h1] at h
   unfold toG at h
   rw [if_pos h2] at h
   omega
 ·rintro ⟨j,a,b,ha,hb,h⟩
  obtain ⟨i1,rfl,a1,a2⟩:=key a (List.mem_of_getElem? ha)
  obtain ⟨i2,rfl,b1,b2⟩:=key b (List.mem_of_getElem? hb)
  have hlt:((i1:Nat):Int) < i2:=by
   have:=List.pairwise_iff_getElem.1 hS.1 j (j+1) (List.getElem?_eq_some_iff.1 ha).1 (List.getElem?_eq_some_iff.1 hb).1 (by omega)
   rwa [(List.getElem?_eq_some_iff.1 ha).2,(List.getElem?_eq_some_iff.1 hb).2] at this
  rw [toL_tgt a1,toL_tgt b1] at h
  unfold toG at h
  rw [if_pos a2,if_pos b2] at h
  omega
theorem ae_end {vars:List Nat} {lim f g:Nat} {ns ns1 ns':Ns} {S:Nat→Nat→Prop} {xs:List Int} {r1 r:Option Nat} {M':Mem1} {W:((Nat→Bool)→Bool)→Prop} {Fa:(Nat→Bool)→Bool} (hk:SpOk vars lim ns) (hbin:BinOk (2 * nBits vars) lim 0 S ns f g r1 ns1) (hS:∀x y,S x y→PS (2 * nBits vars) ns f g x y)
  (h0:r1=none→r=none∧ns'=ns1) (h1:∀y,r1=some y→QOk (2 * nBits vars) lim 1 (inB (insOf (2 * nBits vars) xs)) ns1 y r ns' M')
  (hF:∀c,(eval ns c f && eval ns c g)=Fa c) (hW1:W Fa) (hW2:∀H,IsC Fa H→∀G:(Nat→Bool)→Bool,(∀a,G a=true↔qS 1 (inB (insOf (2 * nBits vars) xs)) H a)→W G) :
  Stp (2 * nBits vars) lim W false ns r.isNone ns'∧∀x,r=some x→Ref ns' x∧∀a,eval ns' a x=true↔∃c,Off (inB (insOf (2 * nBits vars) xs)) a c∧eval ns c f=true∧eval ns c g=true:=by
 have ho:∀c,Bd.opB 0 (eval ns c f) (eval ns c g)=Fa c:=fun c=>by
  rw [←hF c]
  simp [Bd.opB]
 have hnew:∀z,ns.length+2≤z→z < ns1.length+2→∃G,W G∧IsC G fun b=>eval ns1 b z:=fun z a b=>⟨Fa,hW1,(hbin.new hk.wf hS z a b).congr ho fun _=>rfl⟩
 cases r1 with
 | none =>
  obtain ⟨rfl,rfl⟩:=h0 rfl
  exact ⟨⟨hbin.ext,hbin.lim,hnew,fun h=>(by cases h),fun _ _=>hbin.hit rfl⟩,fun x h=>by cases h⟩
 | some y =>
  have hq:=h1 y rfl
  obtain ⟨hy,ey⟩:=hbin.ok y rfl
  refine ⟨⟨hbin.ext.trans hq.ext,hq.lim,fun z a b=>?_,fun h=>(by cases h),fun _ h=>hq.hit (by cases r <;> simp_all)⟩,fun x hx=>?_⟩
  ·by_cases hz:z < ns1.length+2
   ·obtain ⟨G,g1,g2⟩:=hnew z a hz
    exact ⟨G,g1,g2.congr (fun _=>rfl) fun b=>(hq.ext.eval hbin.ext.wf b hz).symm⟩
   ·obtain ⟨H,G,g1,g2,g3⟩:=hq.fr z (by omega) b
    exact ⟨G,hW2 H (g1.congr (fun c=>by rw [ey,ho]) fun _=>rfl) G g2,g3⟩
  ·obtain ⟨b1,b2⟩:=hq.ok x hx
   refine ⟨b1,fun a=>?_⟩
   rw [b2]
   unfold qS
   rw [if_pos rfl]
   constructor
   ·rintro ⟨c,h2,h3⟩
    have h3:eval ns1 c y=true:=h3
    rw [ey] at h3
    have:eval ns c f=true∧eval ns c g=true:=by simpa [Bd.opB] using h3
    exact ⟨c,h2,this⟩
   ·rintro ⟨c,h2,h3,h4⟩
    exact ⟨c,h2,by show eval ns1 c y=true; rw [ey,h3,h4]; rfl⟩
theorem ren_end {vars:List Nat} {lim f nx:Nat} {ns ns':Ns} {r:Option Nat} {M':Mem1} {σ:(Nat→Bool)→Nat→Bool} {W:((Nat→Bool)→Bool)→Prop} {X:(Nat→Bool)→Bool} (hk:SpOk vars lim ns) (h:ChOk (2 * nBits vars) lim σ ns f r ns' M') (hX:∀c,eval ns c f=X c) (hW:∀H,IsC X H→W fun b=>H (σ b)) :
  Stp (2 * nBits vars) lim W false ns r.isNone ns'∧∀x,r=some x→Ref ns' x∧∀a,eval ns' a x=eval ns (σ a) f:=by
 refine ⟨⟨h.ext,h.lim,fun z a b=>?_,fun h=>(by cases h),fun _ h2=>h.hit (by cases r <;> simp_all)⟩,h.ok⟩
 obtain ⟨H,h1,h2⟩:=h.fr z a b
 exact ⟨_,hW H (h1.congr hX fun _=>rfl),(IsC.refl _).congr (fun _=>rfl) fun b=>(h2 b).symm⟩
def sgA (n nx:Nat) (a:Nat→Bool) (i:Nat):Bool:=a (tgt ((List.range n).map (toG nx)) (i:Nat)).toNat
theorem sgA_in {n nx p:Nat} {a:Nat→Bool} (h:2 * p+nx < n) (hn:nx < 2):sgA n nx a (2 * p+nx)=a (2 * p+(1 - nx)):=by
 unfold sgA
 rw [toL_tgt h]
 unfold toG
 rw [if_pos (by omega)]
 congr 1
 omega
theorem hfL_all {k nx:Nat} (x:Int) (h:x ∈ hfL nx k):0≤x∧x < k:=by
 unfold hfL at h
 obtain ⟨j,hj,rfl⟩:=List.mem_map.1 h
 have:=List.mem_range.1 (List.mem_filter.1 hj).1
 exact ⟨by omega,by omega⟩
theorem ins_half {k nx i:Nat}:inB (insOf k (hfL nx k)) i=decide (i < k∧i % 2=nx):=by
 rw [insOf_get (fun x hx=>hfL_all x hx)]
 rw [Bool.eq_iff_iff,decide_eq_true_iff,decide_eq_true_iff]
 exact hfL_mem
theorem apS_ok {vars:List Nat} {o:No} {s:List Nat} (hs:StN vars s) (ho:NoG vars o):StN vars (apS o s):=by
 have key:∀k,k≤o.effs.length→StN vars (apK o s k):=by
  intro k hk
  induction k with
  | zero=>exact hs
  | succ k ih =>
   have ih:=ih (by omega)
   obtain ⟨e,he⟩:∃e,o.effs[k]? = some e:=⟨_,List.getElem?_eq_getElem (by omega)⟩
   rw [apK_succ he]
   obtain ⟨h1,h2⟩:=ho.eff e (List.mem_of_getElem? he)
   split
   ·refine ⟨by rw [List.length_set]; exact ih.len,fun v hv=>?_⟩
    by_cases h:e.v=v
    ·subst h
     rw [gD_same (by rw [ih.len]; exact hv)]
     exact h2
    ·rw [gD_ne h]
     exact ih.rng v hv
   ·exact ih
 exact key _ (Nat.le_refl _)
theorem img_sem {T:Nt} {o:No} {P:List Nat→Bool} {a b:Nat→Bool} (h64:∀n ∈ T.vars,n≤64) (ho:NoG T.vars o) (hb:∀p,p < nBits T.vars→b (2 * p+1)=a (2 * p)) :
  (∃c,Off (inB (insOf (2 * nBits T.vars) (hfL 0 (2 * nBits T.vars)))) b c∧(okB T.vars c && P (rs T.vars c 0))=true∧relB T o c=true)↔(okB T.vars a && imgP T o P (rs T.vars a 0))=true:=by
 have e1:∀{c:Nat→Bool},Off (inB (insOf (2 * nBits T.vars) (hfL 0 (2 * nBits T.vars)))) b c→rs T.vars c 1=rs T.vars a 0:=fun {c} hc=>rs_congr fun p hp=>by
  rw [hc _ (by rw [ins_half,decide_eq_false_iff_not]; omega),hb p hp]
  rfl
 constructor
 ·rintro ⟨c,hc,h1,h2⟩
  obtain ⟨h1,h3⟩:=Bool.and_eq_true_iff.1 h1
  have hx:=okB_iff.1 h1
  unfold relB at h2
  obtain ⟨h4,h5⟩:=Bool.and_eq_true_iff.1 h2
  have h5:=of_decide_eq_true h5
  rw [e1 hc] at h5
  have hy:StN T.vars (rs T.vars a 0):=by rw [h5]; exact apS_ok hx ho
  rw [okB_iff.2 hy,Bool.true_and]
  unfold imgP
  rw [List.any_eq_true]
  exact ⟨_,sts_mem.2 hx,by rw [h3,h4,h5]; simp⟩
 ·intro h
  obtain ⟨h1,h2⟩:=Bool.and_eq_true_iff.1 h
  unfold imgP at h2
  rw [List.any_eq_true] at h2
  obtain ⟨x,hx,h3⟩:=h2
  have hx:=sts_mem.1 hx
  simp only [Bool.and_eq_true,decide_eq_true_eq] at h3
  obtain ⟨⟨h3,h4⟩,h5⟩:=h3
  obtain ⟨c,hc⟩:∃c:Nat→Bool,c=fun i=>if i % 2=0∧i < 2 * nBits T.vars then mk2 T.vars x [] i else b i:=⟨_,rfl⟩
  have hoff:Off (inB (insOf (2 * nBits T.vars) (hfL 0 (2 * nBits T.vars)))) b c:=fun i hi=>by
   rw [ins_half] at hi
   have hi:=of_decide_eq_false hi
   rw [hc]
   simp only
   rw [if_neg (fun h=>hi ⟨h.2,h.1⟩)]
  have hcx:rs T.vars c 0=x:=by
   rw [←rs_mk2 (y:=[]) h64 hx]
   refine rs_congr fun p hp=>?_
   rw [hc]
   simp only
   rw [if_pos ⟨by omega,by omega⟩]
  refine ⟨c,hoff,?_,?_⟩
  ·rw [hcx,h3,okB_iff.2 (by rw [hcx]; exact hx)]
   rfl
  ·unfold relB
   rw [hcx,h4,e1 hoff,h5]
   simp
theorem pre_sem {T:Nt} {o:No} {P:List Nat→Bool} {a:Nat→Bool} (h64:∀n ∈ T.vars,n≤64) (ho:NoG T.vars o) :
  (okB T.vars a=true∧∃c,Off (inB (insOf (2 * nBits T.vars) (hfL 1 (2 * nBits T.vars)))) a c∧relB T o c=true∧(okB T.vars (sgA (2 * nBits T.vars) 0 c) && P (rs T.vars (sgA (2 * nBits T.vars) 0 c) 0))=true)↔(okB T.vars a && preP o P (rs T.vars a 0))=true:=by
 have e0:∀{c:Nat→Bool},Off (inB (insOf (2 * nBits T.vars) (hfL 1 (2 * nBits T.vars)))) a c→rs T.vars c 0=rs T.vars a 0:=fun {c} hc=>rs_congr fun p hp=>by
  rw [hc _ (by rw [ins_half]; simp)]
 have e1:∀{c:Nat→Bool},rs T.vars (sgA (2 * nBits T.vars) 0 c) 0=rs T.vars c 1:=fun {c}=>rs_congr fun p hp=>by
  rw [sgA_in (nx:=0) (by omega) (by omega)]
 constructor
 ·rintro ⟨h0,c,hc,h1,h2⟩
  obtain ⟨h2,h3⟩:=Bool.and_eq_true_iff.1 h2
  rw [e1] at h3
  unfold relB at h1
  obtain ⟨h4,h5⟩:=Bool.and_eq_true_iff.1 h1
  have h5:=of_decide_eq_true h5
  rw [h5] at h3
  rw [e0 hc] at h3 h4
  rw [h0,Bool.true_and]
  unfold preP
  rw [h3,h4]
  rfl
 ·intro h
  obtain ⟨h1,h2⟩:=Bool.and_eq_true_iff.1 h
  unfold preP at h2
  obtain ⟨h2,h3⟩:=Bool.and_eq_true_iff.1 h2
  have hx:=okB_iff.1 h1
  have hy:=apS_ok hx ho
  refine ⟨h1,?_⟩
  obtain ⟨c,hc⟩:∃c:Nat→Bool,c=fun i=>if i % 2=1∧i < 2 * nBits T.vars then mk2 T.vars (apS o (rs T.vars a 0)) [] (i - 1) else a i:=⟨_,rfl⟩
  have hoff:Off (inB (insOf (2 * nBits T.vars) (hfL 1 (2 * nBits T.vars)))) a c:=fun i hi=>by
   rw [ins_half] at hi
   have hi:=of_decide_eq_false hi
   rw [hc]
   simp only
   rw [if_neg (fun h=>hi ⟨h.2,h.1⟩)]
  have hc1:rs T.vars c 1=apS o (rs T.vars a 0):=by
   rw [←rs_mk2 (y:=[]) h64 hy]
   refine rs_congr fun p hp=>?_
   rw [hc]
   simp only
   rw [if_pos ⟨by omega,by omega⟩]
   rfl
  refine ⟨c,hoff,?_,?_⟩
  ·unfold relB
   rw [e0 hoff,h2,hc1]
   simp
  ·rw [okB_iff.2 (by rw [e1,hc1]; exact hy),e1,hc1,h3]
   rfl
end Go.Proofs.YtcoeknnghfajnaaGreat
end
