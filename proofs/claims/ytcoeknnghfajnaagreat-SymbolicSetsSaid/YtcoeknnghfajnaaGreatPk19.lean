/-
  A part of the proof of this claim's statement (SyWC, SyWD, SyWG): plain theorems; no conditions beyond those each names.
-/
import Derived.Test.YtcoeknnghfajnaaGreatPk18
set_option maxRecDepth 100000
set_option linter.unusedSimpArgs false
set_option linter.unusedVariables false
set_option linter.unusedSectionVars false
section
namespace Go.Proofs.YtcoeknnghfajnaaGreat
open Go Go.W Go.Tk Go.Rx Go.Bd Go.Sy Go.Maps
section
variable {w w1:World} {F:List Nat} {A B B':Asr} {s m lim:Nat} {T:Nt} {q:SpC} {ns:Ns} {ks:List (Nat × Bool)} {ss:List (Nat × Nat)} {W:((Nat→Bool)→Bool)→Prop}
theorem SpcA.tail (h:At w F (SpcA s m lim T q ns ks ss B) w1) (i:Imp B B'):At w F (SpcA s m lim T q ns ks ss B') w1:=by
 unfold SpcA at h ⊢
 exact h.by (Imp.un (Imp.un (Imp.un (Imp.un (Imp.un (Imp.un (Imp.un i)))))))
theorem SpcA.rdo:Rds (SpcA s m lim T q ns ks ss B) fun w'=>w'.heap[s]? = some (spO m T.vars q):=by
 unfold SpcA
 exact Rds.star Rds.obj
theorem SpcA.rdt {P:World→Prop} (hP:Rds B P):Rds (Star (ObjA s (spO m T.vars q)) (Star (OwnA q.fv 3 1 nE (firstL T.vars)) (Star (OwnA q.wv 3 1 nE (widthL T.vars)) (Star (KmA q.km ks) (Star (SmA q.sm ss) (Star (TskA T) B)))))) P:=Rds.star (Rds.star (Rds.star (Rds.star (Rds.star (Rds.star hP)))))
theorem Rds.own {α:Type} {v:Value} {E sz:Nat} {enc:α→List Value} {l:List α}:Rds (Star (OwnA v E sz enc l) B) fun w'=>Vw w' v enc l:=fun w' F' hs=>by
 obtain ⟨Fa,Fb,ha,_⟩:=hs
 exact ha.1.vw
theorem sres_end2 {x:Nat} {e:Bool} {ns':Ns} {P:List Nat→Bool} {w':World} {v:Value} {ss':List (Nat × Nat)} (hs:Stp (2 * nBits T.vars) lim W false ns e ns') (hG:SpG lim T q ns' ks ss') (hl:ss'.length≤ss.length+1) (hkl:ks.length < 1000000) (hx:e=false→SetOk T.vars ns' x P) (hv:v=.tuple #[.int .i64 ((if e=true then 0 else x:Nat):Nat),eB e])
  (h:At w F (SpcA s m lim T q ns' (ksR ks x e) ss' B) w'):SRes s m lim T q ns ks ss B w F W P v w':=by
 cases e with
 | true=>exact ⟨0,true,ns',ss',by rw [hv]; rfl,hs,fun _=>rfl,fun h=>(by cases h),hG,hl,h⟩
 | false=>exact ⟨x,false,ns',ss',by rw [hv]; rfl,hs,fun h=>(by cases h),hx,hG.put hkl hx,hl,h⟩
theorem SetOk.stp {vars:List Nat} {ns ns':Ns} {x:Nat} {e e':Bool} {P:List Nat→Bool} (h:SetOk vars ns x P) (hk:SpOk vars lim ns) (hs:Stp (2 * nBits vars) lim W e ns e' ns'):SetOk vars ns' x P:=h.ext hk.wf hs.ext
theorem opt_le {vars:List Nat} {ns:Ns} {r:Option Nat} (hk:SpOk vars lim ns) (h:∀x,r=some x→Ref ns x):r.getD 0≤2000000:=by
 cases r with
 | none=>exact Nat.zero_le _
 | some x=>exact ref_le hk (h x rfl)
def imA (T:Nt) (o:No) (P:List Nat→Bool):(Nat→Bool)→Bool:=fun a=>setF T.vars P a && relB T o a
structure ImgW (T:Nt) (o:No) (P:List Nat→Bool) (W:((Nat→Bool)→Bool)→Prop):Prop where
 rel:RelW T o W
 and:W (imA T o P)
 ex:∀H,IsC (imA T o P) H→∀G:(Nat→Bool)→Bool,(∀a,G a=true↔qS 1 (inB (insOf (2 * nBits T.vars) (hfL 0 (2 * nBits T.vars)))) H a)→W G
 ren:∀X:(Nat→Bool)→Bool,(∀a,X a=true↔qS 1 (inB (insOf (2 * nBits T.vars) (hfL 0 (2 * nBits T.vars)))) (imA T o P) a)→∀H,IsC X H→W fun b=>H (sgA (2 * nBits T.vars) 1 b)
set_option maxHeartbeats 4000000 in
theorem image_spec (a op:Nat) (o:No) (P:List Nat→Bool) (hG:SpG lim T q ns ks ss) (hB:Lcl B) (h:At w F (SpcA s m lim T q ns ks ss B) w1) (ha:Kn T ns ks a P) (ho:T.ops[op]? = some o) (hkl:ks.length < 1000000) (hsl:ss.length < 1000000) (hW:ImgW T o P W) :
  Calls Tryz.prog 11 [.pointer (some ⟨s,0,none⟩),.int .i64 (a:Nat),.int .i64 (op:Nat)].toArray w1 fun en w'=>∃v,en=.returned v∧SRes s m lim T q ns ks ss B w F W (imgP T o P) v w':=by
 refine enter Tryz.func11 mixed low11 (Nat.le_of_ble_eq_true rfl) ?_
 simp only [L11]
 have hopl:=(List.getElem?_eq_some_iff.1 ho).1
 have hog:=hG.g.ops o (List.mem_of_getElem? ho)
 have h64:∀n ∈ T.vars,n≤64:=fun n hn=>(hG.g.vars n hn).2
 simp
 refine cl_of (step_spec a op h ha.kn (ha.le hG) hG hopl hB) ?_
 rintro _ w2 ⟨rfl,h2⟩
 simp
 refine cl_of (relation_spec op o hG hB h2 ho hsl hW.rel) ?_
 rintro _ w3 ⟨r,e3,ns3,ss3,rfl,hs3,hr3,hG3,hl3,h3⟩
 cases e3 with
 | true =>
  simp [eB,berrV]
  exact ⟨0,true,ns3,ss3,by simp [eB,berrV],hs3,fun _=>rfl,fun h=>(by cases h),hG3,hl3,h3⟩
 | false =>
  obtain ⟨rr,o2,ho2,er⟩:=hr3 rfl
  have:o2=o:=by rw [ho] at ho2; injection ho2 with e; exact e.symm
  subst this
  have ha3:=ha.ok.stp hG.ok hs3
  simp [eB]
  refine cl_of (half_spec 0 (by omega) (SpcA.lcl hB) h3 SpcA.rdo hG3.ok.bt) ?_
  rintro _ w4 ⟨ov,tv,rfl,h4⟩
  have h4:=SpcA.into ((h4.by Imp.sw).by Imp.dr)
  have hB4:Lcl (Star (OwnA ov 3 1 iv (hfL 0 (2 * nBits T.vars))) B):=Lcl.own.star hB
  simp
  refine cl_of (half_spec 1 (by omega) (SpcA.lcl hB4) h4 SpcA.rdo hG3.ok.bt) ?_
  rintro _ w5 ⟨ov5,tv5,rfl,h5⟩
  have h5:=SpcA.into (h5.by Imp.dr)
  have h5:=SpcA.out (SpcA.tail h5 Imp.sw)
  have hB5:Lcl (Star (OwnA tv5 3 1 iv ((List.range (2 * nBits T.vars)).map (toG 1))) B):=Lcl.own.star hB
  have h6:=h5.by Imp.ow
  have os6:=SpcA.obj (h6.by Imp.dr)
  unfold spO at os6
  unfold SpcA at h6
  have h6:=h6.by Imp.sw
  obtain ⟨p1,p2⟩:=ps_clo hG3.ok.wf 0 ha3.1 rr
  have hhl:=hfL_len 0 (2 * nBits T.vars)
  have hbt:=hG3.ok.bt
  simp [cell_blk os6]
  refine cl_of (andExists_spec m (2 * nBits T.vars) lim ns3 a r _ ov _ (SpcA.rest hB5) h6 hG3.ok.wf hG3.ok.bnd ha3.1 rr p2 p1 (by omega) (by
   rw [List.all_eq_true]
   intro x hx
   have:=hfL_all x hx
   unfold Go.Proofs.YtcoeknnghfajnaaGreat.varB
   simp
   omega)) ?_
  rintro _ w7 ⟨r1,r2,ns4,ns5,M5,rfl,hbin,hn1,hq1,h7⟩
  obtain ⟨s5,m5⟩:=ae_end (W:=W) (Fa:=imA T o2 P) hG3.ok hbin (fun _ _ h=>h) hn1 hq1 (fun c=>by rw [ha3.2,er]; rfl) hW.and hW.ex
  have hk5:=hG3.ok.stp s5
  have hG5:=hG3.stp s5
  have h7:=(h7.by Imp.sw).by Imp.dr
  have h8:At w F (SpcA s m lim T q ns5 ks ss3 (Star (OwnA tv5 3 1 iv ((List.range (2 * nBits T.vars)).map (toG 1))) B)) w7:=h7
  have hs35:=hs3.trans s5
  rw [optV_parts]
  cases r2 with
  | none =>
   simp [eB,berrV]
   exact ⟨0,true,ns5,ss3,by simp [eB,berrV],hs35,fun _=>rfl,fun h=>(by cases h),hG5,hl3,SpcA.less h8⟩
  | some x =>
   obtain ⟨rx,ex⟩:=m5 x rfl
   have os8:=SpcA.obj h8
   unfold spO at os8
   simp [eB,cell_blk os8]
   have h8':=h8
   unfold SpcA at h8'
   refine cl_of (rename_spec m (2 * nBits T.vars) lim ns5 x tv5 _ (SpcA.rest hB5) h8' hk5.wf hk5.bnd rx (SpcA.rdt Rds.own) (by simp; omega)) ?_
   rintro _ w9 ⟨L,hsup,hR⟩
   have hind:∀a i b,i % 2≠1→i < 2 * nBits T.vars→eval ns5 (upd a i b) x=eval ns5 a x:=fun a i b hi hlt=>by
    rw [Bool.eq_iff_iff,ex,ex]
    have:∀c,Off (inB (insOf (2 * nBits T.vars) (hfL 0 (2 * nBits T.vars)))) (upd a i b) c↔Off (inB (insOf (2 * nBits T.vars) (hfL 0 (2 * nBits T.vars)))) a c:=fun c=>by
     unfold Off
     refine forall_congr' fun j=>?_
     refine imp_congr_right fun hj=>?_
     rw [ins_half,decide_eq_false_iff_not] at hj
     have:j≠i:=fun e=>hj (by subst e; omega)
     simp [upd,this]
    simp only [this]
   obtain ⟨g1,g2⟩:=ren_good hk5.wf rx (by omega) hsup hind
   rcases hR with ⟨hb,_⟩ | ⟨_,hb,_⟩ | ⟨_,_,r3,ns6,M6,rfl,hch,h9⟩
   ·exact absurd hb g1
   ·exact absurd hb g2
   have hXs:∀a,eval ns5 a x=true↔qS 1 (inB (insOf (2 * nBits T.vars) (hfL 0 (2 * nBits T.vars)))) (imA T o2 P) a:=fun a=>by
    rw [ex]
    unfold qS
    rw [if_pos rfl]
    refine exists_congr fun c=>and_congr_right fun _=>?_
    rw [ha3.2,er]
    unfold imA setF
    simp only [Bool.and_eq_true]
   obtain ⟨s6,m6⟩:=ren_end (W:=W) (nx:=1) hk5 hch (X:=fun c=>eval ns5 c x) (fun _=>rfl) (hW.ren _ hXs)
   have hk6:=hk5.stp s6
   have h9':At w F (SpcA s m lim T q ns6 ks ss3 (Star (OwnA tv5 3 1 iv ((List.range (2 * nBits T.vars)).map (toG 1))) B)) w9:=h9
   rw [optV_parts]
   simp
   refine cl_of (returned_spec (r3.getD 0) r3.isNone hB5 h9' (opt_le hk6 fun y hy=>(m6 y hy).1) (by omega)) ?_
   rintro _ w10 ⟨rfl,h10⟩
   simp
   refine SRes.less (sres_end2 (hs35.trans s6) (hG5.stp s6) hl3 hkl (fun e=>?_) (by cases r3 <;> rfl) h10)
   obtain ⟨y,hy⟩:∃y,r3=some y:=by cases r3 with | none=>cases e | some y=>exact ⟨y,rfl⟩
   subst hy
   obtain ⟨ry,ey⟩:=m6 y rfl
   refine ⟨ry,fun b=>?_⟩
   show eval ns6 b y=_
   rw [ey,Bool.eq_iff_iff,ex]
   have key:=img_sem (P:=P) (a:=b) (b:=fun i=>b (tgt ((List.range (2 * nBits T.vars)).map (toG 1)) (i:Nat)).toNat) h64 hog (fun p hp=>by
    have:=sgA_in (n:=2 * nBits T.vars) (nx:=1) (p:=p) (a:=b) (by omega) (by omega)
    unfold sgA at this
    exact this)
   rw [←key]
   refine exists_congr fun c=>and_congr_right fun _=>?_
   rw [ha3.2,er]
end
end Go.Proofs.YtcoeknnghfajnaaGreat
end
section
namespace Go.Proofs.YtcoeknnghfajnaaGreat
open Go Go.W Go.Tk Go.Rx Go.Bd Go.Sy Go.Maps
section
variable {w w1:World} {F:List Nat} {A B B':Asr} {s m lim:Nat} {T:Nt} {q:SpC} {ns:Ns} {ks:List (Nat × Bool)} {ss:List (Nat × Nat)} {W:((Nat→Bool)→Bool)→Prop}
theorem okB_congr {vars:List Nat} {a b:Nat→Bool} (h:rs vars a 0=rs vars b 0):okB vars a=okB vars b:=by
 rw [Bool.eq_iff_iff,okB_iff,okB_iff,h]
theorem rs_upd {vars:List Nat} {a:Nat→Bool} {i:Nat} {b:Bool} (hi:i % 2≠0):rs vars (upd a i b) 0=rs vars a 0:=rs_congr fun p hp=>by
 have:2 * p≠i:=by omega
 simp [upd,this]
def prA (T:Nt) (o:No) (P:List Nat→Bool):(Nat→Bool)→Bool:=fun a=>relB T o a && setF T.vars P (sgA (2 * nBits T.vars) 0 a)
structure PreW (T:Nt) (o:No) (P:List Nat→Bool) (W:((Nat→Bool)→Bool)→Prop):Prop where
 rel:RelW T o W
 ren:∀H,IsC (setF T.vars P) H→W fun b=>H (sgA (2 * nBits T.vars) 0 b)
 and:W (prA T o P)
 ex:∀H,IsC (prA T o P) H→∀G:(Nat→Bool)→Bool,(∀a,G a=true↔qS 1 (inB (insOf (2 * nBits T.vars) (hfL 1 (2 * nBits T.vars)))) H a)→W G
 fin:W (setF T.vars (preP o P))
set_option maxHeartbeats 4000000 in
theorem preimage_spec (a op:Nat) (o:No) (P:List Nat→Bool) (hG:SpG lim T q ns ks ss) (hB:Lcl B) (h:At w F (SpcA s m lim T q ns ks ss B) w1) (ha:Kn T ns ks a P) (ho:T.ops[op]? = some o) (hkl:ks.length < 1000000) (hsl:ss.length < 1000000) (hW:PreW T o P W) :
  Calls Tryz.prog 59 [.pointer (some ⟨s,0,none⟩),.int .i64 (a:Nat),.int .i64 (op:Nat)].toArray w1 fun en w'=>∃v,en=.returned v∧SRes s m lim T q ns ks ss B w F W (preP o P) v w':=by
 refine enter Tryz.func59 mixed low59 (Nat.le_of_ble_eq_true rfl) ?_
 simp only [L59]
 have hopl:=(List.getElem?_eq_some_iff.1 ho).1
 have hog:=hG.g.ops o (List.mem_of_getElem? ho)
 have h64:∀n ∈ T.vars,n≤64:=fun n hn=>(hG.g.vars n hn).2
 simp
 refine cl_of (step_spec a op h ha.kn (ha.le hG) hG hopl hB) ?_
 rintro _ w2 ⟨rfl,h2⟩
 simp
 refine cl_of (relation_spec op o hG hB h2 ho hsl hW.rel) ?_
 rintro _ w3 ⟨r,e3,ns3,ss3,rfl,hs3,hr3,hG3,hl3,h3⟩
 cases e3 with
 | true =>
  simp [eB,berrV]
  exact ⟨0,true,ns3,ss3,by simp [eB,berrV],hs3,fun _=>rfl,fun h=>(by cases h),hG3,hl3,h3⟩
 | false =>
  obtain ⟨rr,o2,ho2,er⟩:=hr3 rfl
  have:o2=o:=by rw [ho] at ho2; injection ho2 with e; exact e.symm
  subst this
  have ha3:=ha.ok.stp hG.ok hs3
  simp [eB]
  refine cl_of (half_spec 0 (by omega) (SpcA.lcl hB) h3 SpcA.rdo hG3.ok.bt) ?_
  rintro _ w4 ⟨ov,tv,rfl,h4⟩
  have h4:=SpcA.into (h4.by Imp.dr)
  have hB4:Lcl (Star (OwnA tv 3 1 iv ((List.range (2 * nBits T.vars)).map (toG 0))) B):=Lcl.own.star hB
  simp
  refine cl_of (half_spec 1 (by omega) (SpcA.lcl hB4) h4 SpcA.rdo hG3.ok.bt) ?_
  rintro _ w5 ⟨ov5,tv5,rfl,h5⟩
  have h5:=SpcA.into ((h5.by Imp.sw).by Imp.dr)
  have h5:=SpcA.tail h5 Imp.sw
  have hB6:Lcl (Star (OwnA ov5 3 1 iv (hfL 1 (2 * nBits T.vars))) B):=Lcl.own.star hB
  have hB5:Lcl (Star (OwnA tv 3 1 iv ((List.range (2 * nBits T.vars)).map (toG 0))) (Star (OwnA ov5 3 1 iv (hfL 1 (2 * nBits T.vars))) B)):=Lcl.own.star hB6
  have os5:=SpcA.obj h5
  unfold spO at os5
  have hhl:=hfL_len 1 (2 * nBits T.vars)
  have hbt:=hG3.ok.bt
  have h5':=h5
  unfold SpcA at h5'
  simp [cell_blk os5]
  refine cl_of (rename_spec m (2 * nBits T.vars) lim ns3 a tv _ (SpcA.rest hB5) h5' hG3.ok.wf hG3.ok.bnd ha3.1 (SpcA.rdt Rds.own) (by simp; omega)) ?_
  rintro _ w6 ⟨L,hsup,hR⟩
  have hind:∀c i b,i % 2≠0→i < 2 * nBits T.vars→eval ns3 (upd c i b) a=eval ns3 c a:=fun c i b hi hlt=>by
   rw [ha3.2,ha3.2,rs_upd hi,okB_congr (rs_upd hi)]
  obtain ⟨g1,g2⟩:=ren_good hG3.ok.wf ha3.1 (by omega) hsup hind
  rcases hR with ⟨hb,_⟩ | ⟨_,hb,_⟩ | ⟨_,_,r4,ns4,M4,rfl,hch,h6⟩
  ·exact absurd hb g1
  ·exact absurd hb g2
  obtain ⟨s4,m4⟩:=ren_end (W:=W) (X:=setF T.vars P) (nx:=0) hG3.ok hch ha3.2 hW.ren
  have hk4:=hG3.ok.stp s4
  have hG4:=hG3.stp s4
  have hs34:=hs3.trans s4
  have h6':At w F (SpcA s m lim T q ns4 ks ss3 (Star (OwnA tv 3 1 iv ((List.range (2 * nBits T.vars)).map (toG 0))) (Star (OwnA ov5 3 1 iv (hfL 1 (2 * nBits T.vars))) B))) w6:=h6
  have h7:=SpcA.less h6'
  rw [optV_parts]
  cases r4 with
  | none =>
   simp [eB,berrV]
   exact ⟨0,true,ns4,ss3,by simp [eB,berrV],hs34,fun _=>rfl,fun h=>(by cases h),hG4,hl3,SpcA.less h7⟩
  | some x =>
   obtain ⟨rx,ex⟩:=m4 x rfl
   have rr4:=s4.ext.ref rr
   have er4:∀c,eval ns4 c r=relB T o2 c:=fun c=>by rw [s4.ext.eval hG3.ok.wf c rr,er]
   have os7:=SpcA.obj h7
   unfold spO at os7
   obtain ⟨p1,p2⟩:=ps_clo hk4.wf 0 rr4 rx
   have h8:=(SpcA.out h7).by Imp.ow
   unfold SpcA at h8
   have h8:=h8.by Imp.sw
   simp [eB,cell_blk os7]
   refine cl_of (andExists_spec m (2 * nBits T.vars) lim ns4 r x _ ov5 _ (SpcA.rest hB) h8 hk4.wf hk4.bnd rr4 rx p2 p1 (by omega) (by
    rw [List.all_eq_true]
    intro x hx
    have:=hfL_all x hx
    unfold Go.Proofs.YtcoeknnghfajnaaGreat.varB
    simp
    omega)) ?_
   rintro _ w9 ⟨r1,r2,ns5,ns6,M6,rfl,hbin,hn1,hq1,h9⟩
   obtain ⟨s6,m6⟩:=ae_end (W:=W) (Fa:=prA T o2 P) hk4 hbin (fun _ _ h=>h) hn1 hq1 (fun c=>by rw [er4,ex]; show (_ && eval ns3 (sgA (2 * nBits T.vars) 0 c) a)=_; rw [ha3.2]; rfl) hW.and hW.ex
   have hk6:=hk4.stp s6
   have hG6:=hG4.stp s6
   have hs36:=hs34.trans s6
   have h10:At w F (SpcA s m lim T q ns6 ks ss3 B) w9:=(h9.by Imp.sw).by Imp.dr
   rw [optV_parts]
   cases r2 with
   | none =>
    simp [eB,berrV]
    exact ⟨0,true,ns6,ss3,by simp [eB,berrV],hs36,fun _=>rfl,fun h=>(by cases h),hG6,hl3,h10⟩
   | some y =>
    obtain ⟨ry,ey⟩:=m6 y rfl
    have os10:=SpcA.obj h10
    unfold spO at os10
    simp [eB,cell_blk os10]
    obtain ⟨u1,u2⟩:=ps_clo hk6.wf 0 hG6.all.1 ry
    have h10':=h10.drew (SpcA.lcl hB)
    unfold SpcA at h10'
    refine cl_of (and_of (binary_spec m (2 * nBits T.vars) lim ns6 0 q.all y _ (by omega) (SpcA.rest hB) h10' hk6.wf hk6.bnd hG6.all.1 ry u2 u1) (by rintro v w' ⟨r,_,rfl,_⟩; exact optV_tup r)) ?_
    rintro _ w11 ⟨r7,ns7,rfl,hbin7,h11⟩
    have hsem:∀b,(eval ns6 b q.all && eval ns6 b y)=setF T.vars (preP o2 P) b:=fun b=>by
     unfold setF
     rw [Bool.eq_iff_iff,←pre_sem h64 hog,Bool.and_eq_true_iff,hG6.all.2,ey,Bool.and_true]
     refine and_congr_right fun _=>exists_congr fun c=>and_congr_right fun _=>?_
     rw [er4,ex]
     show relB T o2 c=true∧eval ns3 (sgA (2 * nBits T.vars) 0 c) a=true↔_
     rw [ha3.2]
    obtain ⟨s7,m7⟩:=op_end (W:=W) (G:=setF T.vars (preP o2 P)) hk6 hbin7 (fun _ _ h=>h) hsem hW.fin
    have hk7:=hk6.stp s7
    rw [optV_parts]
    simp
    have h11':At w F (SpcA s m lim T q ns7 ks ss3 B) w11:=h11
    refine cl_of (returned_spec (r7.getD 0) r7.isNone hB h11' m7.1 (by omega)) ?_
    rintro _ w12 ⟨rfl,h12⟩
    simp
    refine sres_end2 (hs36.trans s7) (hG6.stp s7) hl3 hkl (fun e=>⟨(m7.2 e).1,fun b=>?_⟩) (by cases r7 <;> rfl) h12
    rw [(m7.2 e).2]
    rfl
end
end Go.Proofs.YtcoeknnghfajnaaGreat
end
section
namespace Go.Proofs.YtcoeknnghfajnaaGreat
open Go Go.W Go.Tk Go.Rx Go.Bd Go.Sy Go.Maps
def cfl (X:List Nat) (j:Nat):Bool:=decide (j ∈ X)
theorem cfl_add (X:List Nat) (i j:Nat):cfl (X ++ [i]) j=(cfl X j || decide (j=i)):=by
 unfold cfl
 rw [Bool.eq_iff_iff]
 simp
theorem cfl_yes {X:List Nat} {j:Nat} (h:j ∈ X):cfl X j=true:=decide_eq_true h
theorem cfl_no {X:List Nat} {j:Nat} (h:j ∉ X):cfl X j=false:=decide_eq_false h
def PtA (v:Value) (o:Obj):Asr:=fun w F=>∃b,v=.pointer (some ⟨b,0,none⟩)∧ObjA b o w F
theorem Lcl.pt {v:Value} {o:Obj}:Lcl (PtA v o):=by
 refine ⟨?_,?_⟩
 ·rintro w F ⟨b,rfl,h⟩ x hx
  exact Lcl.obj.lt h x hx
 ·rintro w F G w' ⟨b,rfl,h⟩ hk hd
  exact ⟨b,rfl,Lcl.obj.kp h hk hd⟩
def tcO (a b c d:Value):Obj:=.cells #[a,b,c,d] 26 (0,0)
def nlV:Value:=.slice none 0 0
def CpA (f:Nat→Bool) (tb:Nat) (a b c p:Value) (T:Nt) (B:Asr):Asr :=
 Star (if f 2 then OwnA a 3 1 nE T.vars else Emp)
 (Star (if f 5 then OwnA b 3 1 nE T.init else Emp)
 (Star (if f 8 then OwnA c 85 2 fcE T.goal else Emp)
 (Star (if f 10 then PtA p (if f 11 then tcO a b c nlV else tcO nlV nlV nlV nlV) else Emp)
 (Star (ObjA tb (ntO T)) B))))
structure CpT (tb:Nat) (T:Nt) (B:Asr) (w0:World) (F0:List Nat) (ρ:Env) (X:List Nat) (ρ':Env) (w':World):Prop where
 old:∀t,t < 3→ρ' t=ρ t
 f0:0 ∈ X→ρ' 9=.pointer (some ⟨tb,0,none⟩)
 f1:1 ∈ X→ρ' 10=T.vv.1
 f3:3 ∈ X→ρ' 12=.pointer (some ⟨tb,1,none⟩)
 f4:4 ∈ X→ρ' 13=T.nv.1
 f6:6 ∈ X→ρ' 15=.pointer (some ⟨tb,2,none⟩)
 f7:7 ∈ X→ρ' 16=T.gv.1
 f9:9 ∈ X→ρ' 18=.agg #[ρ' 11,ρ' 14,ρ' 17,nlV]
 at_:At w0 F0 (CpA (cfl X) tb (ρ' 11) (ρ' 14) (ρ' 17) (ρ' 3) T B) w'
def cpLos:List LO:=[LO.mk 0 (some 9) (.fieldAddr 26 (.tmp 1) 0) 0 none,LO.mk 1 (some 10) (.load 22 (.tmp 9)) 22 none,LO.mk 2 (some 11) (.call (Call.mk (.value (.func 69)) #[.tmp 10] #[22])) 22 none,LO.mk 0 (some 12) (.fieldAddr 26 (.tmp 1) 1) 0 none,LO.mk 1 (some 13) (.load 22 (.tmp 12)) 22 none,LO.mk 2 (some 14) (.call (Call.mk (.value (.func 69)) #[.tmp 13] #[22])) 22 none,LO.mk 0 (some 15) (.fieldAddr 26 (.tmp 1) 2) 0 none,LO.mk 1 (some 16) (.load 23 (.tmp 15)) 23 none,LO.mk 2 (some 17) (.call (Call.mk (.value (.func 70)) #[.tmp 16] #[23])) 23 none,LO.mk 0 (some 18) (.build 26 #[(0,.tmp 11),(1,.tmp 14),(2,.tmp 17)]) 26 none,LO.mk 3 (some 3) (.alloc 26) 0 none,LO.mk 2 none (.store 26 (.tmp 3) (.tmp 18)) 0 none]
def cpDeps:List Nat:=[0,1,3,0,8,31,0,64,255,511,0,2047]
section
variable {tb:Nat} {T:Nt} {B:Asr} {w0:World} {F0:List Nat} {ρ:Env}
def CpStep (tb:Nat) (T:Nt) (B:Asr) (w0:World) (F0:List Nat) (ρ:Env) (i:Nat):Prop :=
 ∀X ρ' w',i ∉ X→(∀j,j < 12→(cpDeps.getD i 0).testBit j=true→j ∈ X)→(∀j ∈ X,(cpDeps.getD j 0).testBit i=false)→CpT tb T B w0 F0 ρ X ρ' w'→wpT Tryz.prog [cpLos.getD i LO.dfl] ρ' w' (CpT tb T B w0 F0 ρ (X ++ [i]))
theorem cp_no {X:List Nat} {i:Nat} (h:∀j ∈ X,(cpDeps.getD j 0).testBit i=false) (j:Nat) (hj:(cpDeps.getD j 0).testBit i=true):j ∉ X:=fun hm=>by
 have:=h j hm
 rw [hj] at this
 cases this
theorem cp0 (hρ1:ρ 1=.pointer (some ⟨tb,0,none⟩)) (hB:Lcl B) (hr:Rds B fun w'=>NtR w' T) (hg:NtG T):CpStep tb T B w0 F0 ρ 0:=fun X ρ' w' hn hd hu h=>by
 have s1:=(h.old 1 (by omega)).trans hρ1
 show wpT Tryz.prog [LO.mk 0 (some 9) (.fieldAddr 26 (.tmp 1) 0) 0 none] ρ' w' _
 simp [s1]
 refine ⟨fun t ht=>by
  have:=h.old t ht
  simp only [Env.put,Env.set]
  rw [if_neg (by omega)]
  exact this,by simp,by simpa using h.f1,by simpa using h.f3,by simpa using h.f4,by simpa using h.f6,by simpa using h.f7,by simpa using h.f9,by
  have:=h.at_
  simpa [CpA,cfl_add] using this⟩
theorem cp3 (hρ1:ρ 1=.pointer (some ⟨tb,0,none⟩)) (hB:Lcl B) (hr:Rds B fun w'=>NtR w' T) (hg:NtG T):CpStep tb T B w0 F0 ρ 3:=fun X ρ' w' hn hd hu h=>by
 have s1:=(h.old 1 (by omega)).trans hρ1
 show wpT Tryz.prog [LO.mk 0 (some 12) (.fieldAddr 26 (.tmp 1) 1) 0 none] ρ' w' _
 simp [s1]
 refine ⟨fun t ht=>by
  have:=h.old t ht
  simp only [Env.put,Env.set]
  rw [if_neg (by omega)]
  exact this,by simpa using h.f0,by simpa using h.f1,by simp,by simpa using h.f4,by simpa using h.f6,by simpa using h.f7,by simpa using h.f9,by
  have:=h.at_
  simpa [CpA,cfl_add] using this⟩
theorem cp6 (hρ1:ρ 1=.pointer (some ⟨tb,0,none⟩)) (hB:Lcl B) (hr:Rds B fun w'=>NtR w' T) (hg:NtG T):CpStep tb T B w0 F0 ρ 6:=fun X ρ' w' hn hd hu h=>by
 have s1:=(h.old 1 (by omega)).trans hρ1
 show wpT Tryz.prog [LO.mk 0 (some 15) (.fieldAddr 26 (.tmp 1) 2) 0 none] ρ' w' _
 simp [s1]
 refine ⟨fun t ht=>by
  have:=h.old t ht
  simp only [Env.put,Env.set]
  rw [if_neg (by omega)]
  exact this,by simpa using h.f0,by simpa using h.f1,by simpa using h.f3,by simpa using h.f4,by simp,by simpa using h.f7,by simpa using h.f9,by
  have:=h.at_
  simpa [CpA,cfl_add] using this⟩
theorem cp1 (hρ1:ρ 1=.pointer (some ⟨tb,0,none⟩)) (hB:Lcl B) (hr:Rds B fun w'=>NtR w' T) (hg:NtG T):CpStep tb T B w0 F0 ρ 1:=fun X ρ' w' hn hd hu h=>by
 have s1:=(h.old 1 (by omega)).trans hρ1
 have hf:=h.f0 (hd 0 (by omega) (by decide))
 have at1:=h.at_
 unfold CpA at at1
 have hob:=at1.drop.drop.drop.drop.obj
 unfold ntO at hob
 show wpT Tryz.prog [LO.mk 1 (some 10) (.load 22 (.tmp 9)) 22 none] ρ' w' _
 simp [hf,cell_blk hob]
 refine ⟨fun t ht=>by
  have:=h.old t ht
  simp only [Env.put,Env.set]
  rw [if_neg (by omega)]
  exact this,by simpa using h.f0,by simp,by simpa using h.f3,by simpa using h.f4,by simpa using h.f6,by simpa using h.f7,by simpa using h.f9,by
  have:=h.at_
  simpa [CpA,cfl_add] using this⟩
theorem cp4 (hρ1:ρ 1=.pointer (some ⟨tb,0,none⟩)) (hB:Lcl B) (hr:Rds B fun w'=>NtR w' T) (hg:NtG T):CpStep tb T B w0 F0 ρ 4:=fun X ρ' w' hn hd hu h=>by
 have s1:=(h.old 1 (by omega)).trans hρ1
 have hf:=h.f3 (hd 3 (by omega) (by decide))
 have at1:=h.at_
 unfold CpA at at1
 have hob:=at1.drop.drop.drop.drop.obj
 unfold ntO at hob
 show wpT Tryz.prog [LO.mk 1 (some 13) (.load 22 (.tmp 12)) 22 none] ρ' w' _
 simp [hf,cell_blk hob]
 refine ⟨fun t ht=>by
  have:=h.old t ht
  simp only [Env.put,Env.set]
  rw [if_neg (by omega)]
  exact this,by simpa using h.f0,by simpa using h.f1,by simpa using h.f3,by simp,by simpa using h.f6,by simpa using h.f7,by simpa using h.f9,by
  have:=h.at_
  simpa [CpA,cfl_add] using this⟩
theorem cp7 (hρ1:ρ 1=.pointer (some ⟨tb,0,none⟩)) (hB:Lcl B) (hr:Rds B fun w'=>NtR w' T) (hg:NtG T):CpStep tb T B w0 F0 ρ 7:=fun X ρ' w' hn hd hu h=>by
 have s1:=(h.old 1 (by omega)).trans hρ1
 have hf:=h.f6 (hd 6 (by omega) (by decide))
 have at1:=h.at_
 unfold CpA at at1
 have hob:=at1.drop.drop.drop.drop.obj
 unfold ntO at hob
 show wpT Tryz.prog [LO.mk 1 (some 16) (.load 23 (.tmp 15)) 23 none] ρ' w' _
 simp [hf,cell_blk hob]
 refine ⟨fun t ht=>by
  have:=h.old t ht
  simp only [Env.put,Env.set]
  rw [if_neg (by omega)]
  exact this,by simpa using h.f0,by simpa using h.f1,by simpa using h.f3,by simpa using h.f4,by simpa using h.f6,by simp,by simpa using h.f9,by
  have:=h.at_
  simpa [CpA,cfl_add] using this⟩
theorem cp2 (hρ1:ρ 1=.pointer (some ⟨tb,0,none⟩)) (hB:Lcl B) (hr:Rds B fun w'=>NtR w' T) (hg:NtG T):CpStep tb T B w0 F0 ρ 2:=fun X ρ' w' hn hd hu h=>by
 have s1:=(h.old 1 (by omega)).trans hρ1
 have hf:=h.f1 (hd 1 (by omega) (by decide))
 have e2:=cfl_no hn
 have h9:9 ∉ X:=cp_no hu 9 (by decide)
 have h11:11 ∉ X:=cp_no hu 11 (by decide)
 have e11:=cfl_no h11
 have at1:=h.at_
 unfold CpA at at1
 simp only [e2,e11,Bool.false_eq_true,if_false] at at1
 obtain ⟨_,hq,_⟩:=at1.drop.drop.drop.drop.drop.ex
 have hT:=hr _ _ hq
 have hvl:=hg.vlen
 have hil:=hg.ilen
 have hgl:=hg.goal.len
 have at2:=(at1).by Imp.dr
 show wpT Tryz.prog [LO.mk 2 (some 11) (.call (Call.mk (.value (.func 69)) #[.tmp 10] #[22])) 22 none] ρ' w' _
 simp [hf]
 refine cl_of (cloneI_spec T.vv.1 T.vars hT.vars (by omega)) ?_
 rintro u w2 n2
 have at3:=At.nw (by repeat' (first | exact hB | exact Lcl.own | exact Lcl.obj | exact Lcl.emp | exact Lcl.pt | apply Lcl.star | split)) at2 n2
 have at4:=at3
 simp
 refine ⟨fun t ht=>by
  have:=h.old t ht
  simp only [Env.put,Env.set]
  rw [if_neg (by omega)]
  exact this,by simpa using h.f0,by simpa using h.f1,by simpa using h.f3,by simpa using h.f4,by simpa using h.f6,by simpa using h.f7,by simp [h9],?_⟩
 unfold CpA
 simpa [cfl_add,e2,e11] using at4
theorem cp5 (hρ1:ρ 1=.pointer (some ⟨tb,0,none⟩)) (hB:Lcl B) (hr:Rds B fun w'=>NtR w' T) (hg:NtG T):CpStep tb T B w0 F0 ρ 5:=fun X ρ' w' hn hd hu h=>by
 have s1:=(h.old 1 (by omega)).trans hρ1
 have hf:=h.f4 (hd 4 (by omega) (by decide))
 have e5:=cfl_no hn
 have h9:9 ∉ X:=cp_no hu 9 (by decide)
 have h11:11 ∉ X:=cp_no hu 11 (by decide)
 have e11:=cfl_no h11
 have at1:=h.at_
 unfold CpA at at1
 simp only [e5,e11,Bool.false_eq_true,if_false] at at1
 obtain ⟨_,hq,_⟩:=at1.drop.drop.drop.drop.drop.ex
 have hT:=hr _ _ hq
 have hvl:=hg.vlen
 have hil:=hg.ilen
 have hgl:=hg.goal.len
 have at2:=(at1.by Imp.fr2).by Imp.dr
 show wpT Tryz.prog [LO.mk 2 (some 14) (.call (Call.mk (.value (.func 69)) #[.tmp 13] #[22])) 22 none] ρ' w' _
 simp [hf]
 refine cl_of (cloneI_spec T.nv.1 T.init hT.init (by omega)) ?_
 rintro u w2 n2
 have at3:=At.nw (by repeat' (first | exact hB | exact Lcl.own | exact Lcl.obj | exact Lcl.emp | exact Lcl.pt | apply Lcl.star | split)) at2 n2
 have at4:=at3.by Imp.bk2
 simp
 refine ⟨fun t ht=>by
  have:=h.old t ht
  simp only [Env.put,Env.set]
  rw [if_neg (by omega)]
  exact this,by simpa using h.f0,by simpa using h.f1,by simpa using h.f3,by simpa using h.f4,by simpa using h.f6,by simpa using h.f7,by simp [h9],?_⟩
 unfold CpA
 simpa [cfl_add,e5,e11] using at4
theorem cp8 (hρ1:ρ 1=.pointer (some ⟨tb,0,none⟩)) (hB:Lcl B) (hr:Rds B fun w'=>NtR w' T) (hg:NtG T):CpStep tb T B w0 F0 ρ 8:=fun X ρ' w' hn hd hu h=>by
 have s1:=(h.old 1 (by omega)).trans hρ1
 have hf:=h.f7 (hd 7 (by omega) (by decide))
 have e8:=cfl_no hn
 have h9:9 ∉ X:=cp_no hu 9 (by decide)
 have h11:11 ∉ X:=cp_no hu 11 (by decide)
 have e11:=cfl_no h11
 have at1:=h.at_
 unfold CpA at at1
 simp only [e8,e11,Bool.false_eq_true,if_false] at at1
 obtain ⟨_,hq,_⟩:=at1.drop.drop.drop.drop.drop.ex
 have hT:=hr _ _ hq
 have hvl:=hg.vlen
 have hil:=hg.ilen
 have hgl:=hg.goal.len
 have at2:=(at1.by Imp.fr3).by Imp.dr
 show wpT Tryz.prog [LO.mk 2 (some 17) (.call (Call.mk (.value (.func 70)) #[.tmp 16] #[23])) 23 none] ρ' w' _
 simp [hf]
 refine cl_of (cloneF_spec T.gv.1 T.goal hT.goal (by omega)) ?_
 rintro u w2 n2
 have at3:=At.nw (by repeat' (first | exact hB | exact Lcl.own | exact Lcl.obj | exact Lcl.emp | exact Lcl.pt | apply Lcl.star | split)) at2 n2
 have at4:=at3.by Imp.bk3
 simp
 refine ⟨fun t ht=>by
  have:=h.old t ht
  simp only [Env.put,Env.set]
  rw [if_neg (by omega)]
  exact this,by simpa using h.f0,by simpa using h.f1,by simpa using h.f3,by simpa using h.f4,by simpa using h.f6,by simpa using h.f7,by simp [h9],?_⟩
 unfold CpA
 simpa [cfl_add,e8,e11] using at4
theorem cp9 (hρ1:ρ 1=.pointer (some ⟨tb,0,none⟩)) (hB:Lcl B) (hr:Rds B fun w'=>NtR w' T) (hg:NtG T):CpStep tb T B w0 F0 ρ 9:=fun X ρ' w' hn hd hu h=>by
 have s1:=(h.old 1 (by omega)).trans hρ1
 show wpT Tryz.prog [LO.mk 0 (some 18) (.build 26 #[(0,.tmp 11),(1,.tmp 14),(2,.tmp 17)]) 26 none] ρ' w' _
 have h3:=h.at_
 unfold CpA at h3
 have e2:=cfl_yes (hd 2 (by omega) (by decide))
 have e5:=cfl_yes (hd 5 (by omega) (by decide))
 have e8:=cfl_yes (hd 8 (by omega) (by decide))
 simp only [e2,e5,e8,if_true] at h3
 have c2:=h3.own.c1
 have c5:=h3.drop.own.c1
 have c8:=h3.drop.drop.own.c1
 simp [c2,c5,c8]
 refine ⟨fun t ht=>by
  have:=h.old t ht
  simp only [Env.put,Env.set]
  rw [if_neg (by omega)]
  exact this,by simpa using h.f0,by simpa using h.f1,by simpa using h.f3,by simpa using h.f4,by simpa using h.f6,by simpa using h.f7,by simp [nlV],by
  have:=h.at_
  simpa [CpA,cfl_add] using this⟩
theorem cp10 (hρ1:ρ 1=.pointer (some ⟨tb,0,none⟩)) (hB:Lcl B) (hr:Rds B fun w'=>NtR w' T) (hg:NtG T):CpStep tb T B w0 F0 ρ 10:=fun X ρ' w' hn hd hu h=>by
 have s1:=(h.old 1 (by omega)).trans hρ1
 have e10:=cfl_no hn
 have h11:11 ∉ X:=cp_no hu 11 (by decide)
 have h9:9 ∈ X→ρ' 18=.agg #[ρ' 11,ρ' 14,ρ' 17,nlV]:=h.f9
 have e11:=cfl_no h11
 have at1:=h.at_
 unfold CpA at at1
 simp only [e10,e11,Bool.false_eq_true,if_false] at at1
 have at2:=(at1.by Imp.fr4).by Imp.dr
 have at3:=at2.alloc (tcO nlV nlV nlV nlV) (by repeat' (first | exact hB | exact Lcl.own | exact Lcl.obj | exact Lcl.emp | exact Lcl.pt | apply Lcl.star | split))
 have at4:=(at3.imp (A':=Star (PtA (.pointer (some ⟨w'.heap.size,0,none⟩)) (tcO nlV nlV nlV nlV)) _) fun F1 ⟨Fa,Fb,h1,h2,hd,e⟩=>⟨F1,⟨Fa,Fb,⟨_,rfl,h1⟩,h2,hd,e⟩,fun x hx=>hx⟩)
 have at5:=at4.by Imp.bk4
 show wpT Tryz.prog [LO.mk 3 (some 3) (.alloc 26) 0 none] ρ' w' _
 simp
 refine ⟨fun t ht=>by
  have:=h.old t ht
  simp only [Env.put,Env.set]
  rw [if_neg (by omega)]
  exact this,by simpa using h.f0,by simpa using h.f1,by simpa using h.f3,by simpa using h.f4,by simpa using h.f6,by simpa using h.f7,by simpa using h9,?_⟩
 unfold CpA
 simpa [cfl_add,e10,e11,tcO,nlV] using at5
theorem cp11 (hρ1:ρ 1=.pointer (some ⟨tb,0,none⟩)) (hB:Lcl B) (hr:Rds B fun w'=>NtR w' T) (hg:NtG T):CpStep tb T B w0 F0 ρ 11:=fun X ρ' w' hn hd hu h=>by
 have s1:=(h.old 1 (by omega)).trans hρ1
 have e11:=cfl_no hn
 have e10:=cfl_yes (hd 10 (by omega) (by decide))
 have e2:=cfl_yes (hd 2 (by omega) (by decide))
 have e5:=cfl_yes (hd 5 (by omega) (by decide))
 have e8:=cfl_yes (hd 8 (by omega) (by decide))
 have hf:=h.f9 (hd 9 (by omega) (by decide))
 have at1:=h.at_
 unfold CpA at at1
 simp only [e11,e10,e2,e5,e8,Bool.false_eq_true,if_false,if_true] at at1
 have c2:=at1.own.c1
 have c5:=at1.drop.own.c1
 have c8:=at1.drop.drop.own.c1
 have o2:=at1.own.o1
 have o5:=at1.drop.own.o1
 have o8:=at1.drop.drop.own.o1
 obtain ⟨p,hp⟩:∃p,ρ' 3=p:=⟨_,rfl⟩
 rw [hp] at at1
 have at2:=at1.by Imp.fr4
 obtain ⟨ob,rfl⟩:∃ob,p=.pointer (some ⟨ob,0,none⟩):=by
  obtain ⟨_,⟨Fa,Fb,⟨b,hb,_⟩,_⟩,_⟩:=at2.ex
  exact ⟨b,hb⟩
 have at3:At w0 F0 (Star (ObjA ob (tcO nlV nlV nlV nlV)) _) w':=at2.imp fun F1 ⟨Fa,Fb,⟨b,hb,h1⟩,h2,hd,e⟩=>⟨F1,⟨Fa,Fb,by injection hb with hb; injection hb with hb; injection hb with hb; subst hb; exact h1,h2,hd,e⟩,fun x hx=>hx⟩
 unfold tcO at at3
 show wpT Tryz.prog [LO.mk 2 none (.store 26 (.tmp 3) (.tmp 18)) 0 none] ρ' w' _
 simp [hf,hp,c2,c5,c8,nlV]
 refine at3.st (by repeat' (first | exact hB | exact Lcl.own | exact Lcl.obj | exact Lcl.emp | exact Lcl.pt | apply Lcl.star | split)) (by simp) (by simp [o2,o5,o8]) fun w2 at4=>?_
 have at5:=(at4.imp (A':=Star (PtA (.pointer (some ⟨ob,0,none⟩)) (tcO (ρ' 11) (ρ' 14) (ρ' 17) nlV)) _) fun F1 ⟨Fa,Fb,h1,h2,hd,e⟩=>⟨F1,⟨Fa,Fb,⟨_,rfl,by simpa [tcO,nlV] using h1⟩,h2,hd,e⟩,fun x hx=>hx⟩)
 have at6:=at5.by Imp.bk4
 simp
 refine ⟨h.old,by simpa using h.f0,by simpa using h.f1,by simpa using h.f3,by simpa using h.f4,by simpa using h.f6,by simpa using h.f7,by simpa using h.f9,?_⟩
 unfold CpA
 simpa [cfl_add,e11,e10,e2,e5,e8,hp] using at6
theorem cp_all (hρ1:ρ 1=.pointer (some ⟨tb,0,none⟩)) (hB:Lcl B) (hr:Rds B fun w'=>NtR w' T) (hg:NtG T) (i:Nat) (hi:i < 12):CpStep tb T B w0 F0 ρ i:=by
 have:i=0∨i=1∨i=2∨i=3∨i=4∨i=5∨i=6∨i=7∨i=8∨i=9∨i=10∨i=11:=by omega
 rcases this with rfl | rfl | rfl | rfl | rfl | rfl | rfl | rfl | rfl | rfl | rfl | rfl
 ·exact cp0 hρ1 hB hr hg
 ·exact cp1 hρ1 hB hr hg
 ·exact cp2 hρ1 hB hr hg
 ·exact cp3 hρ1 hB hr hg
 ·exact cp4 hρ1 hB hr hg
 ·exact cp5 hρ1 hB hr hg
 ·exact cp6 hρ1 hB hr hg
 ·exact cp7 hρ1 hB hr hg
 ·exact cp8 hρ1 hB hr hg
 ·exact cp9 hρ1 hB hr hg
 ·exact cp10 hρ1 hB hr hg
 ·exact cp11 hρ1 hB hr hg
end
end Go.Proofs.YtcoeknnghfajnaaGreat
end
