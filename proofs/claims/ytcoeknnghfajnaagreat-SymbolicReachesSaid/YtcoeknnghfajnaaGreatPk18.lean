/-
  A part of the proof of this claim's statement (SyWB, SyWC, SyWD, SyWG): plain theorems; no conditions beyond those each names.
-/
import Derived.Test.YtcoeknnghfajnaaGreatPk17
import Derived.Test.YtcoeknnghfajnaaGreatPk14
set_option maxRecDepth 100000
set_option linter.unusedSimpArgs false
set_option linter.unusedVariables false
set_option linter.unusedSectionVars false
section
namespace Go.Proofs.YtcoeknnghfajnaaGreat
open Go Go.W Go.Tk Go.Rx Go.Bd Go.Sy Go.Maps
theorem rs_congr {vars:List Nat} {a b:Nat→Bool} {nx ny:Nat} (h:∀p,p < nBits vars→a (2 * p+nx)=b (2 * p+ny)):rs vars a nx=rs vars b ny:=by
 refine ext_getD (by rw [rs_len,rs_len]) fun v hv=>?_
 rw [rs_len] at hv
 rw [rs_at hv,rs_at hv]
 unfold rv
 refine valK_congr _ fun k hk=>h _ ?_
 have:vars[v]? = some (vars.getD v 0):=by simp [List.getD,List.getElem?_eq_getElem hv]
 exact bP_in this hk
theorem indep {n:Nat} {ns:Ns} {f y:Nat} (hw:Wf n ns) (hf:Ref ns f) (hy:Rch n ns f y) (h:∀a x,eval ns (upd a (tv n ns y) x) f=eval ns a f):False:=by
 obtain ⟨a,ha⟩:=(reach_dep hw (tv n ns y) hf).1 ⟨y,hy,rfl⟩
 exact ha (by rw [h,h])
theorem toL_tgt {n nx i:Nat} (hi:i < n):tgt ((List.range n).map (toG nx)) (i:Nat)=toG nx i:=by
 unfold tgt
 simp [List.getD,hi]
theorem ren_good {k nx f:Nat} {ns:Ns} {L:List Int} (hw:Wf (2 * k) ns) (hf:Ref ns f) (hn:nx < 2) (hS:SupP (2 * k) ns f L) (hi:∀a i x,i % 2≠nx→i < 2 * k→eval ns (upd a i x) f=eval ns a f):¬RenBad1 (2 * k) ((List.range (2 * k)).map (toG nx)) L∧¬RenBad2 ((List.range (2 * k)).map (toG nx)) L:=by
 have key:∀v ∈ L,∃i:Nat,v=i∧i < 2 * k∧i % 2=nx:=fun v hv=>by
  obtain ⟨y,hy,rfl⟩:=(hS.2 v).1 hv
  have hlt:tv (2 * k) ns y < 2 * k:=hw.tv_var hy.ge (hy.ref hw hf)
  refine ⟨_,rfl,hlt,?_⟩
  apply Decidable.byContradiction
  intro h
  exact indep hw hf hy fun a x=>hi a _ x h hlt
 constructor
 ·rintro (h | ⟨v,hv,h⟩)
  ·exact h (by simp)
  ·obtain ⟨i,rfl,h1,h2⟩:=key v hv
   rw [toL_tgt h1] at h
   unfold toG at h
   rw [if_pos h2] at h
   omega
 ·rintro ⟨j,a,b,ha,hb,h⟩
  obtain ⟨i1,rfl,a1,a2⟩:=key a (List.mem_of_getElem? ha)
  obtain ⟨i2,rfl,b1,b2⟩:=key b (List.mem_of_getElem? hb)
  have hlt:((i1:Nat):Int) < i2:=by
   have:=List.pairwise_iff_getElem.1 hS.1 j (j+1) (List.getElem?_eq_some_iff.1 ha).1 (List.getElem?_eq_some_iff.1 hb).1 (by omega)
   rwa [(List.getElem?_eq_some_iff.1 ha).2,(List.getElem?_eq_some_iff.1 hb).2] at this
  rw [toL_tgt a1,toL_tgt b1] at h
  unfold toG at h
  rw [if_pos a2,if_pos b2] at h
  omega
theorem ae_end {vars:List Nat} {lim f g:Nat} {ns ns1 ns':Ns} {S:Nat→Nat→Prop} {xs:List Int} {r1 r:Option Nat} {M':Mem1} {W:((Nat→Bool)→Bool)→Prop} {Fa:(Nat→Bool)→Bool} (hk:SpOk vars lim ns) (hbin:BinOk (2 * nBits vars) lim 0 S ns f g r1 ns1) (hS:∀x y,S x y→PS (2 * nBits vars) ns f g x y)
  (h0:r1=none→r=none∧ns'=ns1) (h1:∀y,r1=some y→QOk (2 * nBits vars) lim 1 (inB (insOf (2 * nBits vars) xs)) ns1 y r ns' M')
  (hF:∀c,(eval ns c f && eval ns c g)=Fa c) (hW1:W Fa) (hW2:∀H,IsC Fa H→∀G:(Nat→Bool)→Bool,(∀a,G a=true↔qS 1 (inB (insOf (2 * nBits vars) xs)) H a)→W G) :
  Stp (2 * nBits vars) lim W false ns r.isNone ns'∧∀x,r=some x→Ref ns' x∧∀a,eval ns' a x=true↔∃c,Off (inB (insOf (2 * nBits vars) xs)) a c∧eval ns c f=true∧eval ns c g=true:=by
 have ho:∀c,Bd.opB 0 (eval ns c f) (eval ns c g)=Fa c:=fun c=>by
  rw [←hF c]
  simp [Bd.opB]
 have hnew:∀z,ns.length+2≤z→z < ns1.length+2→∃G,W G∧IsC G fun b=>eval ns1 b z:=fun z a b=>⟨Fa,hW1,(hbin.new hk.wf hS z a b).congr ho fun _=>rfl⟩
 cases r1 with
 | none =>
  obtain ⟨rfl,rfl⟩:=h0 rfl
  exact ⟨⟨hbin.ext,hbin.lim,hnew,fun h=>(by cases h),fun _ _=>hbin.hit rfl⟩,fun x h=>by cases h⟩
 | some y =>
  have hq:=h1 y rfl
  obtain ⟨hy,ey⟩:=hbin.ok y rfl
  refine ⟨⟨hbin.ext.trans hq.ext,hq.lim,fun z a b=>?_,fun h=>(by cases h),fun _ h=>hq.hit (by cases r <;> simp_all)⟩,fun x hx=>?_⟩
  ·by_cases hz:z < ns1.length+2
   ·obtain ⟨G,g1,g2⟩:=hnew z a hz
    exact ⟨G,g1,g2.congr (fun _=>rfl) fun b=>(hq.ext.eval hbin.ext.wf b hz).symm⟩
   ·obtain ⟨H,G,g1,g2,g3⟩:=hq.fr z (by omega) b
    exact ⟨G,hW2 H (g1.congr (fun c=>by rw [ey,ho]) fun _=>rfl) G g2,g3⟩
  ·obtain ⟨b1,b2⟩:=hq.ok x hx
   refine ⟨b1,fun a=>?_⟩
   rw [b2]
   unfold qS
   rw [if_pos rfl]
   constructor
   ·rintro ⟨c,h2,h3⟩
    have h3:eval ns1 c y=true:=h3
    rw [ey] at h3
    have:eval ns c f=true∧eval ns c g=true:=by simpa [Bd.opB] using h3
    exact ⟨c,h2,this⟩
   ·rintro ⟨c,h2,h3,h4⟩
    exact ⟨c,h2,by show eval ns1 c y=true; rw [ey,h3,h4]; rfl⟩
theorem ren_end {vars:List Nat} {lim f nx:Nat} {ns ns':Ns} {r:Option Nat} {M':Mem1} {σ:(Nat→Bool)→Nat→Bool} {W:((Nat→Bool)→Bool)→Prop} {X:(Nat→Bool)→Bool} (hk:SpOk vars lim ns) (h:ChOk (2 * nBits vars) lim σ ns f r ns' M') (hX:∀c,eval ns c f=X c) (hW:∀H,IsC X H→W fun b=>H (σ b)) :
  Stp (2 * nBits vars) lim W false ns r.isNone ns'∧∀x,r=some x→Ref ns' x∧∀a,eval ns' a x=eval ns (σ a) f:=by
 refine ⟨⟨h.ext,h.lim,fun z a b=>?_,fun h=>(by cases h),fun _ h2=>h.hit (by cases r <;> simp_all)⟩,h.ok⟩
 obtain ⟨H,h1,h2⟩:=h.fr z a b
 exact ⟨_,hW H (h1.congr hX fun _=>rfl),(IsC.refl _).congr (fun _=>rfl) fun b=>(h2 b).symm⟩
def sgA (n nx:Nat) (a:Nat→Bool) (i:Nat):Bool:=a (tgt ((List.range n).map (toG nx)) (i:Nat)).toNat
theorem sgA_in {n nx p:Nat} {a:Nat→Bool} (h:2 * p+nx < n) (hn:nx < 2):sgA n nx a (2 * p+nx)=a (2 * p+(1 - nx)):=by
 unfold sgA
 rw [toL_tgt h]
 unfold toG
 rw [if_pos (by omega)]
 congr 1
 omega
theorem hfL_all {k nx:Nat} (x:Int) (h:x ∈ hfL nx k):0≤x∧x < k:=by
 unfold hfL at h
 obtain ⟨j,hj,rfl⟩:=List.mem_map.1 h
 have:=List.mem_range.1 (List.mem_filter.1 hj).1
 exact ⟨by omega,by omega⟩
theorem ins_half {k nx i:Nat}:inB (insOf k (hfL nx k)) i=decide (i < k∧i % 2=nx):=by
 rw [insOf_get (fun x hx=>hfL_all x hx)]
 rw [Bool.eq_iff_iff,decide_eq_true_iff,decide_eq_true_iff]
 exact hfL_mem
theorem apS_ok {vars:List Nat} {o:No} {s:List Nat} (hs:StN vars s) (ho:NoG vars o):StN vars (apS o s):=by
 have key:∀k,k≤o.effs.length→StN vars (apK o s k):=by
  intro k hk
  induction k with
  | zero=>exact hs
  | succ k ih =>
   have ih:=ih (by omega)
   obtain ⟨e,he⟩:∃e,o.effs[k]? = some e:=⟨_,List.getElem?_eq_getElem (by omega)⟩
   rw [apK_succ he]
   obtain ⟨h1,h2⟩:=ho.eff e (List.mem_of_getElem? he)
   split
   ·refine ⟨by rw [List.length_set]; exact ih.len,fun v hv=>?_⟩
    by_cases h:e.v=v
    ·subst h
     rw [gD_same (by rw [ih.len]; exact hv)]
     exact h2
    ·rw [gD_ne h]
     exact ih.rng v hv
   ·exact ih
 exact key _ (Nat.le_refl _)
theorem img_sem {T:Nt} {o:No} {P:List Nat→Bool} {a b:Nat→Bool} (h64:∀n ∈ T.vars,n≤64) (ho:NoG T.vars o) (hb:∀p,p < nBits T.vars→b (2 * p+1)=a (2 * p)) :
  (∃c,Off (inB (insOf (2 * nBits T.vars) (hfL 0 (2 * nBits T.vars)))) b c∧(okB T.vars c && P (rs T.vars c 0))=true∧relB T o c=true)↔(okB T.vars a && imgP T o P (rs T.vars a 0))=true:=by
 have e1:∀{c:Nat→Bool},Off (inB (insOf (2 * nBits T.vars) (hfL 0 (2 * nBits T.vars)))) b c→rs T.vars c 1=rs T.vars a 0:=fun {c} hc=>rs_congr fun p hp=>by
  rw [hc _ (by rw [ins_half,decide_eq_false_iff_not]; omega),hb p hp]
  rfl
 constructor
 ·rintro ⟨c,hc,h1,h2⟩
  obtain ⟨h1,h3⟩:=Bool.and_eq_true_iff.1 h1
  have hx:=okB_iff.1 h1
  unfold relB at h2
  obtain ⟨h4,h5⟩:=Bool.and_eq_true_iff.1 h2
  have h5:=of_decide_eq_true h5
  rw [e1 hc] at h5
  have hy:StN T.vars (rs T.vars a 0):=by rw [h5]; exact apS_ok hx ho
  rw [okB_iff.2 hy,Bool.true_and]
  unfold imgP
  rw [List.any_eq_true]
  exact ⟨_,sts_mem.2 hx,by rw [h3,h4,h5]; simp⟩
 ·intro h
  obtain ⟨h1,h2⟩:=Bool.and_eq_true_iff.1 h
  unfold imgP at h2
  rw [List.any_eq_true] at h2
  obtain ⟨x,hx,h3⟩:=h2
  have hx:=sts_mem.1 hx
  simp only [Bool.and_eq_true,decide_eq_true_eq] at h3
  obtain ⟨⟨h3,h4⟩,h5⟩:=h3
  obtain ⟨c,hc⟩:∃c:Nat→Bool,c=fun i=>if i % 2=0∧i < 2 * nBits T.vars then mk2 T.vars x [] i else b i:=⟨_,rfl⟩
  have hoff:Off (inB (insOf (2 * nBits T.vars) (hfL 0 (2 * nBits T.vars)))) b c:=fun i hi=>by
   rw [ins_half] at hi
   have hi:=of_decide_eq_false hi
   rw [hc]
   simp only
   rw [if_neg (fun h=>hi ⟨h.2,h.1⟩)]
  have hcx:rs T.vars c 0=x:=by
   rw [←rs_mk2 (y:=[]) h64 hx]
   refine rs_congr fun p hp=>?_
   rw [hc]
   simp only
   rw [if_pos ⟨by omega,by omega⟩]
  refine ⟨c,hoff,?_,?_⟩
  ·rw [hcx,h3,okB_iff.2 (by rw [hcx]; exact hx)]
   rfl
  ·unfold relB
   rw [hcx,h4,e1 hoff,h5]
   simp
end Go.Proofs.YtcoeknnghfajnaaGreat
end
section
namespace Go.Proofs.YtcoeknnghfajnaaGreat
open Go Go.W Go.Tk Go.Rx Go.Bd Go.Sy Go.Maps
section
variable {w w1:World} {F:List Nat} {A B B':Asr} {s m lim:Nat} {T:Nt} {q:SpC} {ns:Ns} {ks:List (Nat × Bool)} {ss:List (Nat × Nat)} {W:((Nat→Bool)→Bool)→Prop}
theorem SpcA.tail (h:At w F (SpcA s m lim T q ns ks ss B) w1) (i:Imp B B'):At w F (SpcA s m lim T q ns ks ss B') w1:=by
 unfold SpcA at h ⊢
 exact h.by (Imp.un (Imp.un (Imp.un (Imp.un (Imp.un (Imp.un (Imp.un i)))))))
theorem SpcA.rdo:Rds (SpcA s m lim T q ns ks ss B) fun w'=>w'.heap[s]? = some (spO m T.vars q):=by
 unfold SpcA
 exact Rds.star Rds.obj
theorem SpcA.rdt {P:World→Prop} (hP:Rds B P):Rds (Star (ObjA s (spO m T.vars q)) (Star (OwnA q.fv 3 1 nE (firstL T.vars)) (Star (OwnA q.wv 3 1 nE (widthL T.vars)) (Star (KmA q.km ks) (Star (SmA q.sm ss) (Star (TskA T) B)))))) P:=Rds.star (Rds.star (Rds.star (Rds.star (Rds.star (Rds.star hP)))))
theorem Rds.own {α:Type} {v:Value} {E sz:Nat} {enc:α→List Value} {l:List α}:Rds (Star (OwnA v E sz enc l) B) fun w'=>Vw w' v enc l:=fun w' F' hs=>by
 obtain ⟨Fa,Fb,ha,_⟩:=hs
 exact ha.1.vw
theorem sres_end2 {x:Nat} {e:Bool} {ns':Ns} {P:List Nat→Bool} {w':World} {v:Value} {ss':List (Nat × Nat)} (hs:Stp (2 * nBits T.vars) lim W false ns e ns') (hG:SpG lim T q ns' ks ss') (hl:ss'.length≤ss.length+1) (hkl:ks.length < 1000000) (hx:e=false→SetOk T.vars ns' x P) (hv:v=.tuple #[.int .i64 ((if e=true then 0 else x:Nat):Nat),eB e])
  (h:At w F (SpcA s m lim T q ns' (ksR ks x e) ss' B) w'):SRes s m lim T q ns ks ss B w F W P v w':=by
 cases e with
 | true=>exact ⟨0,true,ns',ss',by rw [hv]; rfl,hs,fun _=>rfl,fun h=>(by cases h),hG,hl,h⟩
 | false=>exact ⟨x,false,ns',ss',by rw [hv]; rfl,hs,fun h=>(by cases h),hx,hG.put hkl hx,hl,h⟩
theorem SetOk.stp {vars:List Nat} {ns ns':Ns} {x:Nat} {e e':Bool} {P:List Nat→Bool} (h:SetOk vars ns x P) (hk:SpOk vars lim ns) (hs:Stp (2 * nBits vars) lim W e ns e' ns'):SetOk vars ns' x P:=h.ext hk.wf hs.ext
theorem opt_le {vars:List Nat} {ns:Ns} {r:Option Nat} (hk:SpOk vars lim ns) (h:∀x,r=some x→Ref ns x):r.getD 0≤2000000:=by
 cases r with
 | none=>exact Nat.zero_le _
 | some x=>exact ref_le hk (h x rfl)
def imA (T:Nt) (o:No) (P:List Nat→Bool):(Nat→Bool)→Bool:=fun a=>setF T.vars P a && relB T o a
structure ImgW (T:Nt) (o:No) (P:List Nat→Bool) (W:((Nat→Bool)→Bool)→Prop):Prop where
 rel:RelW T o W
 and:W (imA T o P)
 ex:∀H,IsC (imA T o P) H→∀G:(Nat→Bool)→Bool,(∀a,G a=true↔qS 1 (inB (insOf (2 * nBits T.vars) (hfL 0 (2 * nBits T.vars)))) H a)→W G
 ren:∀X:(Nat→Bool)→Bool,(∀a,X a=true↔qS 1 (inB (insOf (2 * nBits T.vars) (hfL 0 (2 * nBits T.vars)))) (imA T o P) a)→∀H,IsC X H→W fun b=>H (sgA (2 * nBits T.vars) 1 b)
set_option maxHeartbeats 4000000 in
theorem image_spec (a op:Nat) (o:No) (P:List Nat→Bool) (hG:SpG lim T q ns ks ss) (hB:Lcl B) (h:At w F (SpcA s m lim T q ns ks ss B) w1) (ha:Kn T ns ks a P) (ho:T.ops[op]? = some o) (hkl:ks.length < 1000000) (hsl:ss.length < 1000000) (hW:ImgW T o P W) :
  Calls Tryz.prog 11 [.pointer (some ⟨s,0,none⟩),.int .i64 (a:Nat),.int .i64 (op:Nat)].toArray w1 fun en w'=>∃v,en=.returned v∧SRes s m lim T q ns ks ss B w F W (imgP T o P) v w':=by
 refine enter Tryz.func11 mixed low11 (Nat.le_of_ble_eq_true rfl) ?_
 simp only [L11]
 have hopl:=(List.getElem?_eq_some_iff.1 ho).1
 have hog:=hG.g.ops o (List.mem_of_getElem? ho)
 have h64:∀n ∈ T.vars,n≤64:=fun n hn=>(hG.g.vars n hn).2
 simp
 refine cl_of (step_spec a op h ha.kn (ha.le hG) hG hopl hB) ?_
 rintro _ w2 ⟨rfl,h2⟩
 simp
 refine cl_of (relation_spec op o hG hB h2 ho hsl hW.rel) ?_
 rintro _ w3 ⟨r,e3,ns3,ss3,rfl,hs3,hr3,hG3,hl3,h3⟩
 cases e3 with
 | true =>
  simp [eB,berrV]
  exact ⟨0,true,ns3,ss3,by simp [eB,berrV],hs3,fun _=>rfl,fun h=>(by cases h),hG3,hl3,h3⟩
 | false =>
  obtain ⟨rr,o2,ho2,er⟩:=hr3 rfl
  have:o2=o:=by rw [ho] at ho2; injection ho2 with e; exact e.symm
  subst this
  have ha3:=ha.ok.stp hG.ok hs3
  simp [eB]
  refine cl_of (half_spec 0 (by omega) (SpcA.lcl hB) h3 SpcA.rdo hG3.ok.bt) ?_
  rintro _ w4 ⟨ov,tv,rfl,h4⟩
  have h4:=SpcA.into ((h4.by Imp.sw).by Imp.dr)
  have hB4:Lcl (Star (OwnA ov 3 1 iv (hfL 0 (2 * nBits T.vars))) B):=Lcl.own.star hB
  simp
  refine cl_of (half_spec 1 (by omega) (SpcA.lcl hB4) h4 SpcA.rdo hG3.ok.bt) ?_
  rintro _ w5 ⟨ov5,tv5,rfl,h5⟩
  have h5:=SpcA.into (h5.by Imp.dr)
  have h5:=SpcA.out (SpcA.tail h5 Imp.sw)
  have hB5:Lcl (Star (OwnA tv5 3 1 iv ((List.range (2 * nBits T.vars)).map (toG 1))) B):=Lcl.own.star hB
  have h6:=h5.by Imp.ow
  have os6:=SpcA.obj (h6.by Imp.dr)
  unfold spO at os6
  unfold SpcA at h6
  have h6:=h6.by Imp.sw
  obtain ⟨p1,p2⟩:=ps_clo hG3.ok.wf 0 ha3.1 rr
  have hhl:=hfL_len 0 (2 * nBits T.vars)
  have hbt:=hG3.ok.bt
  simp [cell_blk os6]
  refine cl_of (andExists_spec m (2 * nBits T.vars) lim ns3 a r _ ov _ (SpcA.rest hB5) h6 hG3.ok.wf hG3.ok.bnd ha3.1 rr p2 p1 (by omega) (by
   rw [List.all_eq_true]
   intro x hx
   have:=hfL_all x hx
   unfold Go.Proofs.YtcoeknnghfajnaaGreat.varB
   simp
   omega)) ?_
  rintro _ w7 ⟨r1,r2,ns4,ns5,M5,rfl,hbin,hn1,hq1,h7⟩
  obtain ⟨s5,m5⟩:=ae_end (W:=W) (Fa:=imA T o2 P) hG3.ok hbin (fun _ _ h=>h) hn1 hq1 (fun c=>by rw [ha3.2,er]; rfl) hW.and hW.ex
  have hk5:=hG3.ok.stp s5
  have hG5:=hG3.stp s5
  have h7:=(h7.by Imp.sw).by Imp.dr
  have h8:At w F (SpcA s m lim T q ns5 ks ss3 (Star (OwnA tv5 3 1 iv ((List.range (2 * nBits T.vars)).map (toG 1))) B)) w7:=h7
  have hs35:=hs3.trans s5
  rw [optV_parts]
  cases r2 with
  | none =>
   simp [eB,berrV]
   exact ⟨0,true,ns5,ss3,by simp [eB,berrV],hs35,fun _=>rfl,fun h=>(by cases h),hG5,hl3,SpcA.less h8⟩
  | some x =>
   obtain ⟨rx,ex⟩:=m5 x rfl
   have os8:=SpcA.obj h8
   unfold spO at os8
   simp [eB,cell_blk os8]
   have h8':=h8
   unfold SpcA at h8'
   refine cl_of (rename_spec m (2 * nBits T.vars) lim ns5 x tv5 _ (SpcA.rest hB5) h8' hk5.wf hk5.bnd rx (SpcA.rdt Rds.own) (by simp; omega)) ?_
   rintro _ w9 ⟨L,hsup,hR⟩
   have hind:∀a i b,i % 2≠1→i < 2 * nBits T.vars→eval ns5 (upd a i b) x=eval ns5 a x:=fun a i b hi hlt=>by
    rw [Bool.eq_iff_iff,ex,ex]
    have:∀c,Off (inB (insOf (2 * nBits T.vars) (hfL 0 (2 * nBits T.vars)))) (upd a i b) c↔Off (inB (insOf (2 * nBits T.vars) (hfL 0 (2 * nBits T.vars)))) a c:=fun c=>by
     unfold Off
     refine forall_congr' fun j=>?_
     refine imp_congr_right fun hj=>?_
     rw [ins_half,decide_eq_false_iff_not] at hj
     have:j≠i:=fun e=>hj (by subst e; omega)
     simp [upd,this]
    simp only [this]
   obtain ⟨g1,g2⟩:=ren_good hk5.wf rx (by omega) hsup hind
   rcases hR with ⟨hb,_⟩ | ⟨_,hb,_⟩ | ⟨_,_,r3,ns6,M6,rfl,hch,h9⟩
   ·exact absurd hb g1
   ·exact absurd hb g2
   have hXs:∀a,eval ns5 a x=true↔qS 1 (inB (insOf (2 * nBits T.vars) (hfL 0 (2 * nBits T.vars)))) (imA T o2 P) a:=fun a=>by
    rw [ex]
    unfold qS
    rw [if_pos rfl]
    refine exists_congr fun c=>and_congr_right fun _=>?_
    rw [ha3.2,er]
    unfold imA setF
    simp only [Bool.and_eq_true]
   obtain ⟨s6,m6⟩:=ren_end (W:=W) (nx:=1) hk5 hch (X:=fun c=>eval ns5 c x) (fun _=>rfl) (hW.ren _ hXs)
   have hk6:=hk5.stp s6
   have h9':At w F (SpcA s m lim T q ns6 ks ss3 (Star (OwnA tv5 3 1 iv ((List.range (2 * nBits T.vars)).map (toG 1))) B)) w9:=h9
   rw [optV_parts]
   simp
   refine cl_of (returned_spec (r3.getD 0) r3.isNone hB5 h9' (opt_le hk6 fun y hy=>(m6 y hy).1) (by omega)) ?_
   rintro _ w10 ⟨rfl,h10⟩
   simp
   refine SRes.less (sres_end2 (hs35.trans s6) (hG5.stp s6) hl3 hkl (fun e=>?_) (by cases r3 <;> rfl) h10)
   obtain ⟨y,hy⟩:∃y,r3=some y:=by cases r3 with | none=>cases e | some y=>exact ⟨y,rfl⟩
   subst hy
   obtain ⟨ry,ey⟩:=m6 y rfl
   refine ⟨ry,fun b=>?_⟩
   show eval ns6 b y=_
   rw [ey,Bool.eq_iff_iff,ex]
   have key:=img_sem (P:=P) (a:=b) (b:=fun i=>b (tgt ((List.range (2 * nBits T.vars)).map (toG 1)) (i:Nat)).toNat) h64 hog (fun p hp=>by
    have:=sgA_in (n:=2 * nBits T.vars) (nx:=1) (p:=p) (a:=b) (by omega) (by omega)
    unfold sgA at this
    exact this)
   rw [←key]
   refine exists_congr fun c=>and_congr_right fun _=>?_
   rw [ha3.2,er]
end
end Go.Proofs.YtcoeknnghfajnaaGreat
end
section
namespace Go.Proofs.YtcoeknnghfajnaaGreat
open Go Go.W Go.Tk Go.Rx Go.Bd Go.Sy Go.Maps
section
variable {w w1:World} {F:List Nat} {A B B':Asr} {s m lim:Nat} {T:Nt} {q:SpC} {ns:Ns} {ks:List (Nat × Bool)} {ss:List (Nat × Nat)} {W:((Nat→Bool)→Bool)→Prop}
theorem okB_congr {vars:List Nat} {a b:Nat→Bool} (h:rs vars a 0=rs vars b 0):okB vars a=okB vars b:=by
 rw [Bool.eq_iff_iff,okB_iff,okB_iff,h]
end
end Go.Proofs.YtcoeknnghfajnaaGreat
end
section
namespace Go.Proofs.YtcoeknnghfajnaaGreat
open Go Go.W Go.Tk Go.Rx Go.Bd Go.Sy Go.Maps
def cfl (X:List Nat) (j:Nat):Bool:=decide (j ∈ X)
theorem cfl_add (X:List Nat) (i j:Nat):cfl (X ++ [i]) j=(cfl X j || decide (j=i)):=by
 unfold cfl
 rw [Bool.eq_iff_iff]
 simp
theorem cfl_yes {X:List Nat} {j:Nat} (h:j ∈ X):cfl X j=true:=decide_eq_true h
theorem cfl_no {X:List Nat} {j:Nat} (h:j ∉ X):cfl X j=false:=decide_eq_false h
def PtA (v:Value) (o:Obj):Asr:=fun w F=>∃b,v=.pointer (some ⟨b,0,none⟩)∧ObjA b o w F
theorem Lcl.pt {v:Value} {o:Obj}:Lcl (PtA v o):=by
 refine ⟨?_,?_⟩
 ·rintro w F ⟨b,rfl,h⟩ x hx
  exact Lcl.obj.lt h x hx
 ·rintro w F G w' ⟨b,rfl,h⟩ hk hd
  exact ⟨b,rfl,Lcl.obj.kp h hk hd⟩
def tcO (a b c d:Value):Obj:=.cells #[a,b,c,d] 26 (0,0)
def nlV:Value:=.slice none 0 0
def CpA (f:Nat→Bool) (tb:Nat) (a b c p:Value) (T:Nt) (B:Asr):Asr :=
 Star (if f 2 then OwnA a 3 1 nE T.vars else Emp)
 (Star (if f 5 then OwnA b 3 1 nE T.init else Emp)
 (Star (if f 8 then OwnA c 85 2 fcE T.goal else Emp)
 (Star (if f 10 then PtA p (if f 11 then tcO a b c nlV else tcO nlV nlV nlV nlV) else Emp)
 (Star (ObjA tb (ntO T)) B))))
structure CpT (tb:Nat) (T:Nt) (B:Asr) (w0:World) (F0:List Nat) (ρ:Env) (X:List Nat) (ρ':Env) (w':World):Prop where
 old:∀t,t < 3→ρ' t=ρ t
 f0:0 ∈ X→ρ' 9=.pointer (some ⟨tb,0,none⟩)
 f1:1 ∈ X→ρ' 10=T.vv.1
 f3:3 ∈ X→ρ' 12=.pointer (some ⟨tb,1,none⟩)
 f4:4 ∈ X→ρ' 13=T.nv.1
 f6:6 ∈ X→ρ' 15=.pointer (some ⟨tb,2,none⟩)
 f7:7 ∈ X→ρ' 16=T.gv.1
 f9:9 ∈ X→ρ' 18=.agg #[ρ' 11,ρ' 14,ρ' 17,nlV]
 at_:At w0 F0 (CpA (cfl X) tb (ρ' 11) (ρ' 14) (ρ' 17) (ρ' 3) T B) w'
def cpLos:List LO:=[LO.mk 0 (some 9) (.fieldAddr 26 (.tmp 1) 0) 0 none,LO.mk 1 (some 10) (.load 22 (.tmp 9)) 22 none,LO.mk 2 (some 11) (.call (Call.mk (.value (.func 69)) #[.tmp 10] #[22])) 22 none,LO.mk 0 (some 12) (.fieldAddr 26 (.tmp 1) 1) 0 none,LO.mk 1 (some 13) (.load 22 (.tmp 12)) 22 none,LO.mk 2 (some 14) (.call (Call.mk (.value (.func 69)) #[.tmp 13] #[22])) 22 none,LO.mk 0 (some 15) (.fieldAddr 26 (.tmp 1) 2) 0 none,LO.mk 1 (some 16) (.load 23 (.tmp 15)) 23 none,LO.mk 2 (some 17) (.call (Call.mk (.value (.func 70)) #[.tmp 16] #[23])) 23 none,LO.mk 0 (some 18) (.build 26 #[(0,.tmp 11),(1,.tmp 14),(2,.tmp 17)]) 26 none,LO.mk 3 (some 3) (.alloc 26) 0 none,LO.mk 2 none (.store 26 (.tmp 3) (.tmp 18)) 0 none]
def cpDeps:List Nat:=[0,1,3,0,8,31,0,64,255,511,0,2047]
section
variable {tb:Nat} {T:Nt} {B:Asr} {w0:World} {F0:List Nat} {ρ:Env}
def CpStep (tb:Nat) (T:Nt) (B:Asr) (w0:World) (F0:List Nat) (ρ:Env) (i:Nat):Prop :=
 ∀X ρ' w',i ∉ X→(∀j,j < 12→(cpDeps.getD i 0).testBit j=true→j ∈ X)→(∀j ∈ X,(cpDeps.getD j 0).testBit i=false)→CpT tb T B w0 F0 ρ X ρ' w'→wpT Tryz.prog [cpLos.getD i LO.dfl] ρ' w' (CpT tb T B w0 F0 ρ (X ++ [i]))
theorem cp_no {X:List Nat} {i:Nat} (h:∀j ∈ X,(cpDeps.getD j 0).testBit i=false) (j:Nat) (hj:(cpDeps.getD j 0).testBit i=true):j ∉ X:=fun hm=>by
 have:=h j hm
 rw [hj] at this
 cases this
theorem cp0 (hρ1:ρ 1=.pointer (some ⟨tb,0,none⟩)) (hB:Lcl B) (hr:Rds B fun w'=>NtR w' T) (hg:NtG T):CpStep tb T B w0 F0 ρ 0:=fun X ρ' w' hn hd hu h=>by
 have s1:=(h.old 1 (by omega)).trans hρ1
 show wpT Tryz.prog [LO.mk 0 (some 9) (.fieldAddr 26 (.tmp 1) 0) 0 none] ρ' w' _
 simp [s1]
 refine ⟨fun t ht=>by
  have:=h.old t ht
  simp only [Env.put,Env.set]
  rw [if_neg (by omega)]
  exact this,by simp,by simpa using h.f1,by simpa using h.f3,by simpa using h.f4,by simpa using h.f6,by simpa using h.f7,by simpa using h.f9,by
  have:=h.at_
  simpa [CpA,cfl_add] using this⟩
theorem cp3 (hρ1:ρ 1=.pointer (some ⟨tb,0,none⟩)) (hB:Lcl B) (hr:Rds B fun w'=>NtR w' T) (hg:NtG T):CpStep tb T B w0 F0 ρ 3:=fun X ρ' w' hn hd hu h=>by
 have s1:=(h.old 1 (by omega)).trans hρ1
 show wpT Tryz.prog [LO.mk 0 (some 12) (.fieldAddr 26 (.tmp 1) 1) 0 none] ρ' w' _
 simp [s1]
 refine ⟨fun t ht=>by
  have:=h.old t ht
  simp only [Env.put,Env.set]
  rw [if_neg (by omega)]
  exact this,by simpa using h.f0,by simpa using h.f1,by simp,by simpa using h.f4,by simpa using h.f6,by simpa using h.f7,by simpa using h.f9,by
  have:=h.at_
  simpa [CpA,cfl_add] using this⟩
theorem cp6 (hρ1:ρ 1=.pointer (some ⟨tb,0,none⟩)) (hB:Lcl B) (hr:Rds B fun w'=>NtR w' T) (hg:NtG T):CpStep tb T B w0 F0 ρ 6:=fun X ρ' w' hn hd hu h=>by
 have s1:=(h.old 1 (by omega)).trans hρ1
 show wpT Tryz.prog [LO.mk 0 (some 15) (.fieldAddr 26 (.tmp 1) 2) 0 none] ρ' w' _
 simp [s1]
 refine ⟨fun t ht=>by
  have:=h.old t ht
  simp only [Env.put,Env.set]
  rw [if_neg (by omega)]
  exact this,by simpa using h.f0,by simpa using h.f1,by simpa using h.f3,by simpa using h.f4,by simp,by simpa using h.f7,by simpa using h.f9,by
  have:=h.at_
  simpa [CpA,cfl_add] using this⟩
theorem cp1 (hρ1:ρ 1=.pointer (some ⟨tb,0,none⟩)) (hB:Lcl B) (hr:Rds B fun w'=>NtR w' T) (hg:NtG T):CpStep tb T B w0 F0 ρ 1:=fun X ρ' w' hn hd hu h=>by
 have s1:=(h.old 1 (by omega)).trans hρ1
 have hf:=h.f0 (hd 0 (by omega) (by decide))
 have at1:=h.at_
 unfold CpA at at1
 have hob:=at1.drop.drop.drop.drop.obj
 unfold ntO at hob
 show wpT Tryz.prog [LO.mk 1 (some 10) (.load 22 (.tmp 9)) 22 none] ρ' w' _
 simp [hf,cell_blk hob]
 refine ⟨fun t ht=>by
  have:=h.old t ht
  simp only [Env.put,Env.set]
  rw [if_neg (by omega)]
  exact this,by simpa using h.f0,by simp,by simpa using h.f3,by simpa using h.f4,by simpa using h.f6,by simpa using h.f7,by simpa using h.f9,by
  have:=h.at_
  simpa [CpA,cfl_add] using this⟩
theorem cp4 (hρ1:ρ 1=.pointer (some ⟨tb,0,none⟩)) (hB:Lcl B) (hr:Rds B fun w'=>NtR w' T) (hg:NtG T):CpStep tb T B w0 F0 ρ 4:=fun X ρ' w' hn hd hu h=>by
 have s1:=(h.old 1 (by omega)).trans hρ1
 have hf:=h.f3 (hd 3 (by omega) (by decide))
 have at1:=h.at_
 unfold CpA at at1
 have hob:=at1.drop.drop.drop.drop.obj
 unfold ntO at hob
 show wpT Tryz.prog [LO.mk 1 (some 13) (.load 22 (.tmp 12)) 22 none] ρ' w' _
 simp [hf,cell_blk hob]
 refine ⟨fun t ht=>by
  have:=h.old t ht
  simp only [Env.put,Env.set]
  rw [if_neg (by omega)]
  exact this,by simpa using h.f0,by simpa using h.f1,by simpa using h.f3,by simp,by simpa using h.f6,by simpa using h.f7,by simpa using h.f9,by
  have:=h.at_
  simpa [CpA,cfl_add] using this⟩
theorem cp7 (hρ1:ρ 1=.pointer (some ⟨tb,0,none⟩)) (hB:Lcl B) (hr:Rds B fun w'=>NtR w' T) (hg:NtG T):CpStep tb T B w0 F0 ρ 7:=fun X ρ' w' hn hd hu h=>by
 have s1:=(h.old 1 (by omega)).trans hρ1
 have hf:=h.f6 (hd 6 (by omega) (by decide))
 have at1:=h.at_
 unfold CpA at at1
 have hob:=at1.drop.drop.drop.drop.obj
 unfold ntO at hob
 show wpT Tryz.prog [LO.mk 1 (some 16) (.load 23 (.tmp 15)) 23 none] ρ' w' _
 simp [hf,cell_blk hob]
 refine ⟨fun t ht=>by
  have:=h.old t ht
  simp only [Env.put,Env.set]
  rw [if_neg (by omega)]
  exact this,by simpa using h.f0,by simpa using h.f1,by simpa using h.f3,by simpa using h.f4,by simpa using h.f6,by simp,by simpa using h.f9,by
  have:=h.at_
  simpa [CpA,cfl_add] using this⟩
theorem cp2 (hρ1:ρ 1=.pointer (some ⟨tb,0,none⟩)) (hB:Lcl B) (hr:Rds B fun w'=>NtR w' T) (hg:NtG T):CpStep tb T B w0 F0 ρ 2:=fun X ρ' w' hn hd hu h=>by
 have s1:=(h.old 1 (by omega)).trans hρ1
 have hf:=h.f1 (hd 1 (by omega) (by decide))
 have e2:=cfl_no hn
 have h9:9 ∉ X:=cp_no hu 9 (by decide)
 have h11:11 ∉ X:=cp_no hu 11 (by decide)
 have e11:=cfl_no h11
 have at1:=h.at_
 unfold CpA at at1
 simp only [e2,e11,Bool.false_eq_true,if_false] at at1
 obtain ⟨_,hq,_⟩:=at1.drop.drop.drop.drop.drop.ex
 have hT:=hr _ _ hq
 have hvl:=hg.vlen
 have hil:=hg.ilen
 have hgl:=hg.goal.len
 have at2:=(at1).by Imp.dr
 show wpT Tryz.prog [LO.mk 2 (some 11) (.call (Call.mk (.value (.func 69)) #[.tmp 10] #[22])) 22 none] ρ' w' _
 simp [hf]
 refine cl_of (cloneI_spec T.vv.1 T.vars hT.vars (by omega)) ?_
 rintro u w2 n2
 have at3:=At.nw (by repeat' (first | exact hB | exact Lcl.own | exact Lcl.obj | exact Lcl.emp | exact Lcl.pt | apply Lcl.star | split)) at2 n2
 have at4:=at3
 simp
 refine ⟨fun t ht=>by
  have:=h.old t ht
  simp only [Env.put,Env.set]
  rw [if_neg (by omega)]
  exact this,by simpa using h.f0,by simpa using h.f1,by simpa using h.f3,by simpa using h.f4,by simpa using h.f6,by simpa using h.f7,by simp [h9],?_⟩
 unfold CpA
 simpa [cfl_add,e2,e11] using at4
theorem cp5 (hρ1:ρ 1=.pointer (some ⟨tb,0,none⟩)) (hB:Lcl B) (hr:Rds B fun w'=>NtR w' T) (hg:NtG T):CpStep tb T B w0 F0 ρ 5:=fun X ρ' w' hn hd hu h=>by
 have s1:=(h.old 1 (by omega)).trans hρ1
 have hf:=h.f4 (hd 4 (by omega) (by decide))
 have e5:=cfl_no hn
 have h9:9 ∉ X:=cp_no hu 9 (by decide)
 have h11:11 ∉ X:=cp_no hu 11 (by decide)
 have e11:=cfl_no h11
 have at1:=h.at_
 unfold CpA at at1
 simp only [e5,e11,Bool.false_eq_true,if_false] at at1
 obtain ⟨_,hq,_⟩:=at1.drop.drop.drop.drop.drop.ex
 have hT:=hr _ _ hq
 have hvl:=hg.vlen
 have hil:=hg.ilen
 have hgl:=hg.goal.len
 have at2:=(at1.by Imp.fr2).by Imp.dr
 show wpT Tryz.prog [LO.mk 2 (some 14) (.call (Call.mk (.value (.func 69)) #[.tmp 13] #[22])) 22 none] ρ' w' _
 simp [hf]
 refine cl_of (cloneI_spec T.nv.1 T.init hT.init (by omega)) ?_
 rintro u w2 n2
 have at3:=At.nw (by repeat' (first | exact hB | exact Lcl.own | exact Lcl.obj | exact Lcl.emp | exact Lcl.pt | apply Lcl.star | split)) at2 n2
 have at4:=at3.by Imp.bk2
 simp
 refine ⟨fun t ht=>by
  have:=h.old t ht
  simp only [Env.put,Env.set]
  rw [if_neg (by omega)]
  exact this,by simpa using h.f0,by simpa using h.f1,by simpa using h.f3,by simpa using h.f4,by simpa using h.f6,by simpa using h.f7,by simp [h9],?_⟩
 unfold CpA
 simpa [cfl_add,e5,e11] using at4
theorem cp8 (hρ1:ρ 1=.pointer (some ⟨tb,0,none⟩)) (hB:Lcl B) (hr:Rds B fun w'=>NtR w' T) (hg:NtG T):CpStep tb T B w0 F0 ρ 8:=fun X ρ' w' hn hd hu h=>by
 have s1:=(h.old 1 (by omega)).trans hρ1
 have hf:=h.f7 (hd 7 (by omega) (by decide))
 have e8:=cfl_no hn
 have h9:9 ∉ X:=cp_no hu 9 (by decide)
 have h11:11 ∉ X:=cp_no hu 11 (by decide)
 have e11:=cfl_no h11
 have at1:=h.at_
 unfold CpA at at1
 simp only [e8,e11,Bool.false_eq_true,if_false] at at1
 obtain ⟨_,hq,_⟩:=at1.drop.drop.drop.drop.drop.ex
 have hT:=hr _ _ hq
 have hvl:=hg.vlen
 have hil:=hg.ilen
 have hgl:=hg.goal.len
 have at2:=(at1.by Imp.fr3).by Imp.dr
 show wpT Tryz.prog [LO.mk 2 (some 17) (.call (Call.mk (.value (.func 70)) #[.tmp 16] #[23])) 23 none] ρ' w' _
 simp [hf]
 refine cl_of (cloneF_spec T.gv.1 T.goal hT.goal (by omega)) ?_
 rintro u w2 n2
 have at3:=At.nw (by repeat' (first | exact hB | exact Lcl.own | exact Lcl.obj | exact Lcl.emp | exact Lcl.pt | apply Lcl.star | split)) at2 n2
 have at4:=at3.by Imp.bk3
 simp
 refine ⟨fun t ht=>by
  have:=h.old t ht
  simp only [Env.put,Env.set]
  rw [if_neg (by omega)]
  exact this,by simpa using h.f0,by simpa using h.f1,by simpa using h.f3,by simpa using h.f4,by simpa using h.f6,by simpa using h.f7,by simp [h9],?_⟩
 unfold CpA
 simpa [cfl_add,e8,e11] using at4
theorem cp9 (hρ1:ρ 1=.pointer (some ⟨tb,0,none⟩)) (hB:Lcl B) (hr:Rds B fun w'=>NtR w' T) (hg:NtG T):CpStep tb T B w0 F0 ρ 9:=fun X ρ' w' hn hd hu h=>by
 have s1:=(h.old 1 (by omega)).trans hρ1
 show wpT Tryz.prog [LO.mk 0 (some 18) (.build 26 #[(0,.tmp 11),(1,.tmp 14),(2,.tmp 17)]) 26 none] ρ' w' _
 have h3:=h.at_
 unfold CpA at h3
 have e2:=cfl_yes (hd 2 (by omega) (by decide))
 have e5:=cfl_yes (hd 5 (by omega) (by decide))
 have e8:=cfl_yes (hd 8 (by omega) (by decide))
 simp only [e2,e5,e8,if_true] at h3
 have c2:=h3.own.c1
 have c5:=h3.drop.own.c1
 have c8:=h3.drop.drop.own.c1
 simp [c2,c5,c8]
 refine ⟨fun t ht=>by
  have:=h.old t ht
  simp only [Env.put,Env.set]
  rw [if_neg (by omega)]
  exact this,by simpa using h.f0,by simpa using h.f1,by simpa using h.f3,by simpa using h.f4,by simpa using h.f6,by simpa using h.f7,by simp [nlV],by
  have:=h.at_
  simpa [CpA,cfl_add] using this⟩
theorem cp10 (hρ1:ρ 1=.pointer (some ⟨tb,0,none⟩)) (hB:Lcl B) (hr:Rds B fun w'=>NtR w' T) (hg:NtG T):CpStep tb T B w0 F0 ρ 10:=fun X ρ' w' hn hd hu h=>by
 have s1:=(h.old 1 (by omega)).trans hρ1
 have e10:=cfl_no hn
 have h11:11 ∉ X:=cp_no hu 11 (by decide)
 have h9:9 ∈ X→ρ' 18=.agg #[ρ' 11,ρ' 14,ρ' 17,nlV]:=h.f9
 have e11:=cfl_no h11
 have at1:=h.at_
 unfold CpA at at1
 simp only [e10,e11,Bool.false_eq_true,if_false] at at1
 have at2:=(at1.by Imp.fr4).by Imp.dr
 have at3:=at2.alloc (tcO nlV nlV nlV nlV) (by repeat' (first | exact hB | exact Lcl.own | exact Lcl.obj | exact Lcl.emp | exact Lcl.pt | apply Lcl.star | split))
 have at4:=(at3.imp (A':=Star (PtA (.pointer (some ⟨w'.heap.size,0,none⟩)) (tcO nlV nlV nlV nlV)) _) fun F1 ⟨Fa,Fb,h1,h2,hd,e⟩=>⟨F1,⟨Fa,Fb,⟨_,rfl,h1⟩,h2,hd,e⟩,fun x hx=>hx⟩)
 have at5:=at4.by Imp.bk4
 show wpT Tryz.prog [LO.mk 3 (some 3) (.alloc 26) 0 none] ρ' w' _
 simp
 refine ⟨fun t ht=>by
  have:=h.old t ht
  simp only [Env.put,Env.set]
  rw [if_neg (by omega)]
  exact this,by simpa using h.f0,by simpa using h.f1,by simpa using h.f3,by simpa using h.f4,by simpa using h.f6,by simpa using h.f7,by simpa using h9,?_⟩
 unfold CpA
 simpa [cfl_add,e10,e11,tcO,nlV] using at5
theorem cp11 (hρ1:ρ 1=.pointer (some ⟨tb,0,none⟩)) (hB:Lcl B) (hr:Rds B fun w'=>NtR w' T) (hg:NtG T):CpStep tb T B w0 F0 ρ 11:=fun X ρ' w' hn hd hu h=>by
 have s1:=(h.old 1 (by omega)).trans hρ1
 have e11:=cfl_no hn
 have e10:=cfl_yes (hd 10 (by omega) (by decide))
 have e2:=cfl_yes (hd 2 (by omega) (by decide))
 have e5:=cfl_yes (hd 5 (by omega) (by decide))
 have e8:=cfl_yes (hd 8 (by omega) (by decide))
 have hf:=h.f9 (hd 9 (by omega) (by decide))
 have at1:=h.at_
 unfold CpA at at1
 simp only [e11,e10,e2,e5,e8,Bool.false_eq_true,if_false,if_true] at at1
 have c2:=at1.own.c1
 have c5:=at1.drop.own.c1
 have c8:=at1.drop.drop.own.c1
 have o2:=at1.own.o1
 have o5:=at1.drop.own.o1
 have o8:=at1.drop.drop.own.o1
 obtain ⟨p,hp⟩:∃p,ρ' 3=p:=⟨_,rfl⟩
 rw [hp] at at1
 have at2:=at1.by Imp.fr4
 obtain ⟨ob,rfl⟩:∃ob,p=.pointer (some ⟨ob,0,none⟩):=by
  obtain ⟨_,⟨Fa,Fb,⟨b,hb,_⟩,_⟩,_⟩:=at2.ex
  exact ⟨b,hb⟩
 have at3:At w0 F0 (Star (ObjA ob (tcO nlV nlV nlV nlV)) _) w':=at2.imp fun F1 ⟨Fa,Fb,⟨b,hb,h1⟩,h2,hd,e⟩=>⟨F1,⟨Fa,Fb,by injection hb with hb; injection hb with hb; injection hb with hb; subst hb; exact h1,h2,hd,e⟩,fun x hx=>hx⟩
 unfold tcO at at3
 show wpT Tryz.prog [LO.mk 2 none (.store 26 (.tmp 3) (.tmp 18)) 0 none] ρ' w' _
 simp [hf,hp,c2,c5,c8,nlV]
 refine at3.st (by repeat' (first | exact hB | exact Lcl.own | exact Lcl.obj | exact Lcl.emp | exact Lcl.pt | apply Lcl.star | split)) (by simp) (by simp [o2,o5,o8]) fun w2 at4=>?_
 have at5:=(at4.imp (A':=Star (PtA (.pointer (some ⟨ob,0,none⟩)) (tcO (ρ' 11) (ρ' 14) (ρ' 17) nlV)) _) fun F1 ⟨Fa,Fb,h1,h2,hd,e⟩=>⟨F1,⟨Fa,Fb,⟨_,rfl,by simpa [tcO,nlV] using h1⟩,h2,hd,e⟩,fun x hx=>hx⟩)
 have at6:=at5.by Imp.bk4
 simp
 refine ⟨h.old,by simpa using h.f0,by simpa using h.f1,by simpa using h.f3,by simpa using h.f4,by simpa using h.f6,by simpa using h.f7,by simpa using h.f9,?_⟩
 unfold CpA
 simpa [cfl_add,e11,e10,e2,e5,e8,hp] using at6
theorem cp_all (hρ1:ρ 1=.pointer (some ⟨tb,0,none⟩)) (hB:Lcl B) (hr:Rds B fun w'=>NtR w' T) (hg:NtG T) (i:Nat) (hi:i < 12):CpStep tb T B w0 F0 ρ i:=by
 have:i=0∨i=1∨i=2∨i=3∨i=4∨i=5∨i=6∨i=7∨i=8∨i=9∨i=10∨i=11:=by omega
 rcases this with rfl | rfl | rfl | rfl | rfl | rfl | rfl | rfl | rfl | rfl | rfl | rfl
 ·exact cp0 hρ1 hB hr hg
 ·exact cp1 hρ1 hB hr hg
 ·exact cp2 hρ1 hB hr hg
 ·exact cp3 hρ1 hB hr hg
 ·exact cp4 hρ1 hB hr hg
 ·exact cp5 hρ1 hB hr hg
 ·exact cp6 hρ1 hB hr hg
 ·exact cp7 hρ1 hB hr hg
 ·exact cp8 hρ1 hB hr hg
 ·exact cp9 hρ1 hB hr hg
 ·exact cp10 hρ1 hB hr hg
 ·exact cp11 hρ1 hB hr hg
end
end Go.Proofs.YtcoeknnghfajnaaGreat
end
