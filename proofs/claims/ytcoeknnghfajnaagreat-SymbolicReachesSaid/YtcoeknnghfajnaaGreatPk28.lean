/-
  A part of the proof of this claim's statement (SyGD, SyGE, RxYM, LibN, RxZA): plain theorems; no conditions beyond those each names.
-/
import Derived.Test.YtcoeknnghfajnaaGreatPk27
import Derived.Test.YtcoeknnghfajnaaGreatPk06
import Derived.Test.YtcoeknnghfajnaaGreatPk05
import Derived.HandedShaped
import Derived.Shelf.Vars
import Derived.OpenShut
import Derived.Test.YtcoeknnghfajnaaGreatRows
set_option maxRecDepth 100000
set_option linter.unusedSimpArgs false
set_option linter.unusedVariables false
set_option linter.unusedSectionVars false
section
namespace Go.Proofs.YtcoeknnghfajnaaGreat
open Go Go.W Go.Tk Go.Rx Go.Bd Go.Sy Go.Maps
theorem is_nil (k:Int) (w:World):Calls Tryz.prog 12 [.nilIface,.int .i64 k].toArray w fun e w'=>∃x,e=.returned x∧x=.bool false∧Kp [] w w':=by
 refine enter Tryz.func12 mixed low12 (Nat.le_of_ble_eq_true rfl) ?_
 simp only [L12]
 simp
 exact Kp.refl _ _
theorem is_eB (e:Bool) (w:World):Calls Tryz.prog 12 [eB e,.int .i64 10].toArray w fun en w'=>∃x,en=.returned x∧x=.bool e∧Kp [] w w':=by
 cases e with
 | false=>exact is_nil 10 w
 | true=>exact is_err 10 10 w
theorem bas_vars2 {T T':Nt} (h:T'.vars=T.vars):BasS T'=BasS T:=by
 unfold BasS NewS
 rw [h]
theorem litR {T:Nt} {W:BFn→Prop}:LitW T.vars fun G=>WR T G∨W G:=litW fun G h=>.inl (.inl (.inl (.inl (.inl h))))
theorem vlR {T:Nt} {W:BFn→Prop} {v x:Nat} (hv:v < T.vars.length) (hx:x < T.vars.getD v 0):VlW T.vars v x 0 fun G=>WR T G∨W G:=vlW fun G h=>.inl (.inl (.inl (.inl (.inr (.inl ⟨v,hv,x,hx,.inl h⟩)))))
theorem fcR {T:Nt} {W:BFn→Prop} {l:List Go.Tk.Fc} (hr:FcRng T.vars l) (h:∀j,j < l.length→W (fcB T.vars l j)):FcW T.vars l fun G=>WR T G∨W G:=⟨fun f hf=>vlR (hr f hf).1 (hr f hf).2,fun j hj=>.inr (h j hj)⟩
theorem zbR {T:Nt} {W:BFn→Prop}:∀j,j < nBits T.vars→(fun G=>WR T G∨W G) (zB (nBits T.vars) j):=fun j hj=>.inl (.inl (.inl (.inr ⟨j,hj,rfl⟩)))
theorem imR {T:Nt} {o:No} {P:List Nat→Bool} (ho:o ∈ T.ops):ImgW T o P fun G=>WR T G∨ImgT T o P G:=imgW fun G hG=>by
 rcases relZin (T:=T) (o:=o) (W:=ImgT T o P) hG with h | h | h
 ·exact .inl (.inl h)
 ·exact .inl (.inr ⟨o,ho,h⟩)
 ·exact .inr h
theorem rndN_step {T:Nt} {k:Nat} {o:No} (ho:T.ops[k]? = some o):rndN T (T.ops.take (k+1))=rndN T (T.ops.take k)+opC T o:=by
 unfold rndN
 rw [List.take_add_one,ho,List.map_append,List.sum_append]
 simp
theorem Alk.inv {T T':Nt} (h:Alk T T'):Alk T' T:=⟨h.vars.symm,h.init.symm,h.goal.symm,h.ops.symm⟩
theorem Alk.opm {T T':Nt} (h:Alk T T') {o:No} (ho:o ∈ T.ops):∃o' ∈ T'.ops,o'.pre=o.pre∧∀s,apS o' s=apS o s:=by
 obtain ⟨j,hj,e⟩:=List.mem_iff_getElem.1 ho
 obtain ⟨o',h1,h2,h3,_⟩:=h.sk (show T.ops[j]? = some o by rw [List.getElem?_eq_getElem hj,e])
 exact ⟨o',List.mem_of_getElem? h1,h2,h3⟩
theorem RdP.alk {T T':Nt} {P:List Nat→Bool} (h:RdP T' P) (hA:Alk T T'):RdP T P :=
 ⟨by rw [←hA.init]; exact h.init,fun C c0 c1 s hs hp=>h.low C (by rw [hA.init]; exact c0) (fun x o' hx ho' hd hc=>by
  obtain ⟨o,ho,e1,e2⟩:=hA.inv.opm ho'
  rw [←e2]
  exact c1 x o (by rw [←hA.vars]; exact hx) ho (by rw [e1]; exact hd) hc) s (by rw [hA.vars]; exact hs) hp⟩
theorem RdC.alk {T T':Nt} {P:List Nat→Bool} (h:RdC T' P) (hA:Alk T T'):RdC T P:=fun s o hs ho hd hp=>by
 obtain ⟨o',ho',e1,e2⟩:=hA.opm ho
 rw [←e2]
 exact h s o' (by rw [hA.vars]; exact hs) ho' (by rw [e1]; exact hd) hp
end Go.Proofs.YtcoeknnghfajnaaGreat
end
section
namespace Go.Proofs.YtcoeknnghfajnaaGreat
open Go Go.W Go.Tk Go.Rx Go.Bd Go.Sy Go.Maps
def RoI (s m L0:Nat) (T T':Nt) (q:SpC) (B:Asr) (w:World) (F:List Nat) (rd x:Nat) (w':World):Prop :=
 ∃ns ks ss P,(rd * T'.ops.length≤30→RunW T' 1048576 (L0+rd * rndN T' T'.ops) ns)∧SpG 1048576 T' q ns ks ss∧Kn T' ns ks x P∧RdP T' P∧rd+1≤ctN T'.vars P∧ks.length≤10+40 * rd∧ss.length≤10+40 * rd∧At w F (SpcA s m 1048576 T' q ns ks ss B) w'
def RiI (s m L0:Nat) (T':Nt) (q:SpC) (B:Asr) (w:World) (F:List Nat) (rd x0:Nat) (P0:List Nat→Bool) (k x:Nat) (w':World):Prop :=
 ∃ns ks ss P,(rd * T'.ops.length≤30→RunW T' 1048576 (L0+(rd * rndN T' T'.ops+rndN T' (T'.ops.take k))) ns)∧SpG 1048576 T' q ns ks ss∧Kn T' ns ks x0 P0∧Kn T' ns ks x P∧RdK T' P0 k P∧ks.length≤10+40 * rd+2 * k∧ss.length≤10+40 * rd+2 * k∧At w F (SpcA s m 1048576 T' q ns ks ss B) w'
set_option maxHeartbeats 2000000 in
theorem law_sreaches {w:World} (t:Tk) (ht:TkR w t) (hl:TkL t) :
  Calls Tryz.prog 3 [tkV t].toArray w fun e w'=>∃x,e=.returned x∧x=.bool true∧Kp [] w w':=by
 refine enter Tryz.func3 mixed low3 (Nat.le_of_ble_eq_true rfl) ?_
 simp only [L3]
 obtain ⟨tb,htb⟩:∃tb,tb=w.heap.size:=⟨_,rfl⟩
 obtain ⟨w1,hw1⟩:∃w1,w1=w.alloc (tkO t):=⟨_,rfl⟩
 obtain ⟨R,hR⟩:∃R,R=List.range w.heap.size:=⟨_,rfl⟩
 have hw1':w.alloc (.cells #[t.vv.1,t.nv.1,t.gv.1,t.ov.1] 26 (0,0))=w1:=by rw [hw1]; rfl
 obtain ⟨B,hB⟩:∃B,B=Star (ObjA tb (tkO t)) (OldA w):=⟨_,rfl⟩
 have hLB:Lcl B:=by rw [hB]; exact Lcl.obj.star OldA.lcl
 have h1:At w R B w1:=by rw [hB,htb,hw1,hR]; exact At.alloc _ OldA.lcl (OldA.start w)
 have rO:Rds B fun w'=>w'.heap[tb]? = some (tkO t):=by rw [hB]; exact Rds.obj
 have rK:Rds B fun w'=>Kp [] w w':=by rw [hB]; exact Rds.star (OldA.rds fun w' k=>k)
 have at0:∀{w'},At w R B w'→w'.heap[tb]? = some (tkO t)∧Kp [] w w':=fun h=>by
  obtain ⟨⟨F',h2,_⟩,_⟩:=h
  exact ⟨rO _ _ h2,rK _ _ h2⟩
 have ob1:=(at0 h1).1
 simp [tkV,←htb,hw1',rd_tk ob1]
 refine cl_of (small_spec t (ht.kp (at0 h1).2) hl) ?_
 rintro _ w2 ⟨rfl,k2⟩
 have h2:=h1.kp0 hLB k2
 cases hsm:smallB t with
 | false =>
  simp
  refine cl_of (awake_spec hLB h2) ?_
  rintro _ w3 ⟨rfl,h3⟩
  simp
  exact (at0 h3).2
 | true =>
  obtain ⟨T,rfl,hT⟩:=small_nat hl hsm
  have hr:=NtR.raw.1 ht
  simp
  refine cl_of (awake_spec hLB h2) ?_
  rintro _ w3 ⟨rfl,h3⟩
  have rN:Rds B fun w'=>NtR w' T:=by rw [hB]; exact Rds.star (OldA.rds fun w' k=>hr.kp k)
  simp [rd_tk (at0 h3).1,raw_vv,raw_nv,raw_gv,raw_ov]
  have hA0:Alk T T:=⟨rfl,rfl,rfl,rfl⟩
  have hK0:=smc hT hA0
  refine cl_of (snew_spec T 1048576 hLB h3 rN hT.g hT.good hl (by omega) (by omega) (newW (W:=BasS T) fun G h=>.inl h)) ?_
  rintro _ w4 hnew
  have hbits:=(sm_bs hT).1
  rcases hnew with ⟨hbig,_⟩ | ⟨_,e,ns,hs,hnew⟩
  ·omega
  have hn0:=rch_all hK0 hT.ol (r:=0) (by omega)
  have hns:e=false:=(RunW.start hK0 (hs.mono fun G h=>.inl (.inl h)) (by omega)).1
  subst hns
  rcases hnew with ⟨h,_⟩ | ⟨_,s,m,T',q,hA,rfl,hG,h4⟩
  ·cases h
  have hK:=smc hT hA
  have hopl:T'.ops.length=T.ops.length:=by
   have:=congrArg List.length hA.ops
   simpa using this
  have hol':T'.ops.length≤20:=by rw [hopl]; exact hT.ol
  have hnum:=fun r=>rch_all (r:=r) hK hol'
  obtain ⟨N0,hN0⟩:∃N,N=n0Z (nBits T'.vars)+relsN T' T'.ops:=⟨_,rfl⟩
  obtain ⟨NS,hNS⟩:∃N,N=12 * (3 * nBits T'.vars):=⟨_,rfl⟩
  obtain ⟨NC,hNC⟩:∃N,N=ctC (nBits T'.vars):=⟨_,rfl⟩
  obtain ⟨NA,hNA⟩:∃N,N=rndN T' T'.ops:=⟨_,rfl⟩
  rw [←hN0,←hNS,←hNC,←hNA] at hnum
  have hn1:=hnum 0 (by omega)
  have hr0:RunW T' 1048576 0 ns:=by
   refine (RunW.start hK (e:=false) ?_ (by rw [←hN0]; omega)).2
   rw [hA.vars]
   refine hs.mono fun G hG=>.inl (.inl ?_)
   rw [bas_vars2 hA.vars]
   exact hG
  have hks0:(putM [((0:Nat),true)] q.all true).length≤2:=putM_len_le
  have hist:StN T.vars T.init:=⟨hT.g.ilen,fun v hv=>hT.g.init v (by rw [hT.g.ilen]; exact hv)⟩
  have hist':StN T'.vars T'.init:=by rw [hA.vars,hA.init]; exact hist
  have rI:Rds B fun w'=>Vw w' T.nv.1 nE T'.init:=by rw [hA.init]; exact fun w' F' h=>(rN w' F' h).init
  have oc4:=SpcA.frame h4 rO
  unfold tkO at oc4
  simp [cell_blk oc4,raw_nv]
  refine cl_of (single_spec T.nv.1 T'.init hG hLB h4 rI hist' (by omega) (W:=fun G=>WR T' G∨∃j,j < (sF T'.init T'.init.length).length∧G=fcB T'.vars (sF T'.init T'.init.length) j) litR (fcR (sF_rng hist') fun j hj=>⟨j,hj,rfl⟩)) ?_
  rintro _ w5 ⟨x1,e1,ns1,ss1,rfl,hs1,hz1,hok1,hG1,hsl1,h5⟩
  have hil:T'.init.length≤12:=by rw [hist'.len]; exact hK.vl
  obtain ⟨he1,hr1⟩:=RunW.step hr0 hK hs1 (cov_sF (sF_rng hist') (by rw [sF_len]; exact hil)) (by rw [←hN0,←hNS]; omega)
  subst he1
  have hk1:Kn T' ns1 (ksR (putM [((0:Nat),true)] q.all true) x1 false) x1 (fun x=>decide (x=T'.init)):=⟨getM_put _ _ _,hok1 rfl⟩
  have hkl1:(ksR (putM [((0:Nat),true)] q.all true) x1 false).length≤(putM [((0:Nat),true)] q.all true).length+1:=ksR_len
  obtain ⟨ks1,hks1⟩:∃l,l=ksR (putM [((0:Nat),true)] q.all true) x1 false:=⟨_,rfl⟩
  rw [←hks1] at hk1 hkl1 hG1 h5
  simp [eB]
  refine cl_of (count_spec x1 _ hG1 hLB h5 hk1 (W:=fun G=>WR T' G∨G=ctF T'.vars fun x=>decide (x=T'.init)) (litR (W:=fun G=>G=ctF T'.vars fun x=>decide (x=T'.init))) (zbR (W:=fun G=>G=ctF T'.vars fun x=>decide (x=T'.init))) (.inr rfl)) ?_
  rintro _ w6 ⟨e2,ns2,rfl,hs2,hG2,h6⟩
  obtain ⟨he2,hr2⟩:=RunW.step hr1 hK hs2 (cov_gt (ctF_g _ _)) (by rw [←hN0,←hNS,←hNC]; omega)
  subst he2
  have hv64:∀n ∈ T'.vars,n≤64:=fun n hn=>(hK.vars n hn).2
  rw [ct_num hv64,if_neg (by simp),ct_single hist',show cntV 1=okV 1 by unfold cntV; rw [if_pos (by unfold many; omega)]]
  simp [okV]
  have I0:RoI s m (0+NS+NC) T T' q B w R 0 x1 w6:=by
   refine ⟨ns2,ks1,ss1,_,fun _=>?_,hG2,⟨hk1.kn,hk1.ok.stp hG1.ok hs2⟩,⟨by simp,fun C c0 c1 s hs h=>by rw [of_decide_eq_true h]; exact c0⟩,by rw [ct_single hist']; exact Nat.le_refl _,by omega,by simp at hsl1; omega,h6⟩
   rw [Nat.zero_mul,hNS,hNC]
   exact hr2
  have ctle:∀P,ctN T'.vars P≤512:=fun P=>by
   have h1:(List.filter P (stsK T'.vars T'.vars.length)).length≤_:=List.length_filter_le _ _
   have h2:(stsK T.vars T.vars.length).length≤512:=sts512 hT
   rw [←hA.vars] at h2
   unfold ctN
   omega
  obtain ⟨L0,hL0⟩:∃L,L=0+NS+NC:=⟨_,rfl⟩
  rw [←hL0] at I0
  clear hr0 hr1 hr2 hs hs1 hs2 hG hG1 hG2 h4 h5 h6 hk1 hok1 oc4 hn0 hn1
  refine loop_inv (fun n ρ w'=>∃rd x:Nat,n+rd=512∧ρ 1=.pointer (some ⟨tb,0,none⟩)∧ρ 3=.pointer (some ⟨s,0,none⟩)∧ρ 8=.int .i64 (rd:Nat)∧ρ 5=.int .i64 (x:Nat)∧RoI s m L0 T T' q B w R rd x w') 512 ⟨0,x1,by omega,by simp,by simp,by simp,by simp,I0⟩ ?_
  clear I0
  rintro n ρ w7 ⟨rd,x,hnr,g1,g3,g8,g5,ns7,ks7,ss7,P0,hrun,hG7,hk7,hP0,hct,hkl7,hsl7,h7⟩
  have hrd:rd < 512:=by have:=ctle P0; omega
  have hrdi:(rd:Int) < 512:=by omega
  have oc7:=SpcA.frame h7 rO
  unfold tkO at oc7
  have hov:=(SpcA.frame h7 rN).ops
  simp [g1,g3,g5,g8,hrdi,cell_blk oc7,raw_ov,hov.len]
  refine range_loop (n:=T.ops.length) (by have:=hT.ol; omega) (fun k ρ w'=>ρ 1=.pointer (some ⟨tb,0,none⟩)∧ρ 3=.pointer (some ⟨s,0,none⟩)∧ρ 8=.int .i64 (rd:Nat)∧ρ 9=.int .i64 (x:Nat)∧∃y:Nat,ρ 5=.int .i64 (y:Nat)∧RiI s m L0 T' q B w R rd x P0 k y w') (by simp) (by simp)
   ⟨by simp [g1],by simp [g3],by simp [g8],by simp,x,by simp [g5],ns7,ks7,ss7,P0,fun h=>by have:=hrun h; simpa [rndN] using this,hG7,hk7,hk7,RdK.zero hP0,by omega,by omega,h7⟩ (by decide) (fun _ _ _ _ h=>by simpa using h) (fun _ _ _ _ h=>by simpa using h) ?_ ?_
  ·clear g1 g3 g5 g8 hrun hG7 hk7 h7 oc7 hov hkl7 hsl7
   rintro k ρ w8 hk hck hlk ⟨g1,g3,g8,g9,y,g5,ns8,ks8,ss8,P,hrun,hG8,hkx,hky,hRd,hkl8,hsl8,h8⟩
   obtain ⟨o,ho⟩:∃o,T'.ops[k]? = some o:=⟨_,List.getElem?_eq_getElem (by omega)⟩
   have hom:=List.mem_of_getElem? ho
   have hcnt:∀h:rd * T'.ops.length≤30,N0+(L0+(rd * NA+NA)) < 1048576:=fun h=>by have:=hnum rd h; omega
   have hpart:rndN T' (T'.ops.take k)+opC T' o≤NA:=by
    rw [←rndN_step ho,hNA]
    unfold rndN
    conv=>rhs; rw [←List.take_append_drop (k+1) T'.ops]
    rw [List.map_append,List.sum_append]
    omega
   have hbk:40 * rd≤20480:=by omega
   obtain ⟨U,hU⟩:∃U,U=2 ^ (nBits T'.vars - 3):=⟨_,rfl⟩
   obtain ⟨I,hI⟩:∃I,I=imZ (nBits T'.vars) (preL T'.vars o):=⟨_,rfl⟩
   have hopC:opC T' o=I+U:=by unfold opC; rw [hI,hU]
   rw [hopC] at hpart
   have hmulT:((rd:Int) * (T.ops.length:Nat))=((rd * T'.ops.length:Nat):Int):=by rw [hopl]; simp
   have hml:rd * T'.ops.length≤512 * 20:=Nat.mul_le_mul (by omega) hol'
   simp [g1,g3,g8,g9,g5,hck,hlk]
   refine cl_of (image_spec y k o P hG8 hLB h8 hky ho (by omega) (by omega) (imR hom)) ?_
   rintro _ w9 ⟨z,e1,ns9,ss9,rfl,hs9,hz9,hok9,hG9,hsl9,h9⟩
   simp
   refine cl_of (is_eB e1 w9) ?_
   rintro _ w10 ⟨rfl,k10⟩
   have h10:=At.kp0 (SpcA.lcl hLB) h9 k10
   have oc10:=SpcA.frame h10 rO
   unfold tkO at oc10
   have hov:=(SpcA.frame h10 rN).ops
   obtain ⟨mm,hmm⟩:∃mm,mm=rd * T'.ops.length:=⟨_,rfl⟩
   rw [←hmm] at hmulT hml hrun hcnt
   have hst9:e1=true∨(e1=false∧(mm≤30→RunW T' 1048576 (L0+(rd * NA+rndN T' (T'.ops.take k))+I) ns9)):=by
    cases e1 with
    | true=>exact .inl rfl
    | false =>
     refine .inr ⟨rfl,fun h=>?_⟩
     have h1:=hrun h
     rw [←hNA] at h1
     have:=hcnt h
     rw [hI]
     exact (RunW.step h1 hK hs9 (cov_imz hK.vars (hK.ops o hom) hK.pr P) (by rw [←hN0,←hI]; omega)).2
   cases e1 with
   | true =>
    have hgt:¬mm≤30:=fun h=>by
     have h1:=hrun h
     rw [←hNA] at h1
     have:=hcnt h
     have:=(RunW.step h1 hK hs9 (cov_imz hK.vars (hK.ops o hom) hK.pr P) (by rw [←hN0,←hI]; omega)).1
     cases this
    have hgi:(30:Int) < (mm:Nat):=by omega
    simp (disch:=omega) [g8,g1,cell_blk oc10,raw_ov,hov.len,hmulT,wrap_i64,hgi]
    exact SpcA.frame h10 rK
   | false =>
    have hr9:mm≤30→RunW T' 1048576 (L0+(rd * NA+rndN T' (T'.ops.take k))+I) ns9:=by
     rcases hst9 with h | h
     ·cases h
     ·exact h.2
    have hksl9:(ksR ks8 z false).length≤ks8.length+1:=ksR_len
    have hky9:Kn T' ns9 (ksR ks8 z false) y P:=hky.step hG8.ok hs9
    have hkx9:Kn T' ns9 (ksR ks8 z false) x P0:=hkx.step hG8.ok hs9
    have hkz9:Kn T' ns9 (ksR ks8 z false) z (imgP T' o P):=⟨getM_put _ _ _,hok9 rfl⟩
    simp [g3,g5]
    refine cl_of (union_spec y z P (imgP T' o P) hG9 hLB h10 hky9 hkz9 (by omega) (W:=fun G=>WR T' G∨G=setF T'.vars fun z=>P z || imgP T' o P z) (.inr rfl)) ?_
    rintro _ w11 ⟨z2,e2,ns11,ss11,rfl,hs11,hz11,hok11,hG11,hsl11,h11⟩
    simp
    refine cl_of (is_eB e2 w11) ?_
    rintro _ w12 ⟨rfl,k12⟩
    have h12:=At.kp0 (SpcA.lcl hLB) h11 k12
    have oc12:=SpcA.frame h12 rO
    unfold tkO at oc12
    have hov12:=(SpcA.frame h12 rN).ops
    have stp:mm≤30→e2=false∧RunW T' 1048576 (L0+(rd * NA+rndN T' (T'.ops.take k))+I+U) ns11:=fun h=>by
     have h1:=hr9 h
     have:=hcnt h
     rw [hU]
     exact RunW.step h1 hK hs11 (CovR.toZ (cov_xn (by omega) (xn_set _ _))) (by rw [←hN0,←hU]; omega)
    cases e2 with
    | true =>
     have hgt:¬mm≤30:=fun h=>by cases (stp h).1
     have hgi:(30:Int) < (mm:Nat):=by omega
     simp (disch:=omega) [g8,g1,cell_blk oc12,raw_ov,hov12.len,hmulT,wrap_i64,hgi]
     exact SpcA.frame h12 rK
    | false =>
     simp [eB,g1,g3,g8,g9,hck,hlk]
     have hksl11:(ksR (ksR ks8 z false) z2 false).length≤(ksR ks8 z false).length+1:=ksR_len
     refine ⟨z2,rfl,ns11,ksR (ksR ks8 z false) z2 false,ss11,_,fun h=>?_,hG11,hkx9.step hG9.ok hs11,⟨getM_put _ _ _,hok11 rfl⟩,hRd.step ho,by omega,by omega,h12⟩
     have:=(stp (by rw [hmm]; exact h)).2
     rw [rndN_step ho,hopC,←hNA]
     rw [show L0+(rd * NA+(rndN T' (T'.ops.take k)+(I+U)))=L0+(rd * NA+rndN T' (T'.ops.take k))+I+U by omega]
     exact this
  clear g1 g3 g5 g8 hrun hG7 hk7 h7 oc7 hov hkl7 hsl7
  rintro ρ w8 ⟨g1,g3,g8,g9,y,g5,ns8,ks8,ss8,P,hrun,hG8,hkx,hky,hRd,hkl8,hsl8,h8⟩
  have hte:T'.ops.take T.ops.length=T'.ops:=by rw [←hopl]; exact List.take_length
  rw [hte,←hNA] at hrun
  rw [←hopl] at hRd
  have heq:=set_eq hv64 hG8.ok.wf hky.ok hkx.ok
  by_cases hyx:y=x
  case neg =>
   have hyi:(((y:Nat):Int) == ((x:Nat):Int))=false:=by rw [beq_eq_false_iff_ne]; omega
   obtain ⟨rd',hrd'⟩:∃r,r=rd+1:=⟨_,rfl⟩
   have er:(rd:Int)+1=(rd':Int):=by omega
   have hmore:ctN T'.vars P0+1≤ctN T'.vars P:=ct_more hRd.up fun h=>hyx (heq.2 (stT_congr fun z hz=>by
    cases hp:P z with
    | true=>exact (h z hz hp).symm
    | false =>
     cases hq:P0 z with
     | false=>rfl
     | true=>rw [hRd.up z hz hq] at hp; cases hp))
   simp (disch:=omega) [g5,g9,g8,hyx,hyi,er,wrap_i64]
   refine ⟨n - 1,by omega,rd',by omega,?_⟩
   simp [g1,g3,g5]
   refine ⟨y,rfl,ns8,ks8,ss8,P,fun h=>?_,hG8,hky,hRd.ok,by omega,by omega,by omega,h8⟩
   rw [hrd',Nat.add_mul,Nat.one_mul,←hNA]
   rw [hrd',Nat.add_mul,Nat.one_mul] at h
   exact hrun (by omega)
  subst hyx
  have hPP:∀z,StN T'.vars z→P z=true→P0 z=true:=fun z hz hp=>by
   rw [←stT_inj (heq.1 rfl) hz]
   exact hp
  have hcl:=RdC.alk (hRd.clo hPP) hA
  have hok:=RdP.alk hRd.ok hA
  have oc8:=SpcA.frame h8 rO
  have rt:=rd_tk oc8
  unfold tkO at oc8
  simp [g5,g9,g1,rt,cell_blk oc8,raw_vv,raw_nv,raw_gv,raw_ov]
  refine cl_of (reached_spec T T.nv.1 T.init (SpcA.frame h8 rN) hT (SpcA.frame h8 rN).init hist) ?_
  rintro u w9 ⟨d,hdl,hd1,hd2,h9⟩
  obtain ⟨X,hX⟩:∃X,X=Star (OwnA u 4 1 bE d) B:=⟨_,rfl⟩
  have hLX:Lcl X:=by rw [hX]; exact Lcl.own.star hLB
  have h10:At w R (SpcA s m 1048576 T' q ns8 ks8 ss8 X) w9:=by rw [hX]; exact SpcA.into (At.join (SpcA.lcl hLB) h8 h9)
  have rX:∀{P:World→Prop},Rds B P→Rds X P:=fun h=>by rw [hX]; exact Rds.star h
  have ru:Rds X fun w'=>Vw w' u bE d:=by rw [hX]; exact Rds.own
  have hvl:=hT.vl
  have hN:nS T.vars≤512:=sts512 hT
  simp [(SpcA.frame h10 ru).len,hdl]
  refine range_loop (n:=nS T.vars) (by omega) (fun i ρ w'=>ρ 1=.pointer (some ⟨tb,0,none⟩)∧ρ 3=.pointer (some ⟨s,0,none⟩)∧ρ 5=.int .i64 (y:Nat)∧ρ 114=u∧At w R (SpcA s m 1048576 T' q ns8 ks8 ss8 X) w') (by simp) (by simp)
   ⟨by simp [g1],by simp [g3],by simp [g5],by simp,h10⟩ (by decide) (fun _ _ _ _ h=>by simpa using h) (fun _ _ _ _ h=>by simpa using h) ?_ ?_
  rotate_left
  ·rintro ρ w10 ⟨g1,g3,g5,g114,h11⟩
   simp
   exact SpcA.frame h11 (rX rK)
  clear g1 g3 g5 g8 g9 h8 h9 h10 oc8 rt
  rintro i ρ w10 hi hci hli ⟨g1,g3,g5,g114,h11⟩
  obtain ⟨is,his⟩:∃b,d[i]? = some b:=⟨_,List.getElem?_eq_getElem (by omega)⟩
  have hu:=SpcA.frame h11 ru
  have cu:=bE_cell hu his
  have hid:(i:Int) < d.length:=by omega
  have oc:=SpcA.frame h11 (rX rO)
  unfold tkO at oc
  simp (disch:=omega) [g1,g3,g5,g114,hci,hli,hu.idx,cu,cell_blk oc,raw_vv]
  refine cl_of (states_spec T.vv.1 T.vars (SpcA.frame h11 (rX rN)).vars (by omega) (fun n hn=>by have:=hT.g.vars n hn; omega) (SmT.sts hT) (fun k hk s hs=>by have:=(sts_ok k hk s hs).1; omega)) ?_
  rintro sv w12 h12
  obtain ⟨rs,hrs,h13⟩:=LLA.opn (At.join (SpcA.lcl hLX) h11 h12)
  have h14:=SpcA.into (h13.by (Imp.un SpcA.intoI))
  obtain ⟨Y,hY⟩:∃Y,Y=Star (OwnA sv 22 1 sv1 rs) (Star (VwsA nE rs) X):=⟨_,rfl⟩
  have hLY:Lcl Y:=by rw [hY]; exact Lcl.own.star (Lcl.vws.star hLX)
  rw [←hY] at h14
  have rsv:Rds Y fun w'=>Vw w' sv sv1 rs:=by rw [hY]; exact Rds.own
  have rrw:∀r ∈ rs,Rds Y fun w'=>Vw w' r.1.1 nE r.2:=fun r hr=>by rw [hY]; exact Rds.star (Rds.vws hr)
  obtain ⟨z,hz1,hz2⟩:=ps_at hrs hi
  have hzs:=sts_st (List.mem_of_getElem? hz2)
  have hsv:=SpcA.frame h14 rsv
  have es:w12.cell? (sv.adr.add i)=some z.1.1:=by simpa using hsv.at_ sv1_len hz1 (o:=0) (u:=z.1.1) rfl
  have hrl:rs.length=nS T.vars:=by unfold nS; rw [←hrs]; simp
  have hki:(i:Int) < rs.length:=by omega
  have hrk:rkK T.vars z.2 T.vars.length=i:=(List.getElem?_inj (List.getElem?_eq_some_iff.1 (rk_all hzs)).1 (sts_nd T.vars T.vars.length)).1 ((rk_all hzs).trans hz2.symm)
  have htab:=rch_tab hT.g hist hok hcl hd1 hd2 hzs
  rw [hrk] at htab
  have hisP:is=P z.2:=by rw [←htab]; simp [List.getD,his]
  simp (disch:=omega) [g3,g5,hsv.idx,es]
  refine cl_of (has_spec y z.1.1 z.2 P hG8 hLY h14 hky (rrw z (List.mem_of_getElem? hz1)) (by rw [hA.vars]; exact hzs)) ?_
  rintro _ w13 ⟨rfl,h15⟩
  rw [hisP]
  simp [g1,g3,g5,g114,hci,hli]
  rw [hY] at h15
  exact SpcA.less (SpcA.less h15)
end Go.Proofs.YtcoeknnghfajnaaGreat
end
section
namespace Go.Rx
open Go Go.W Go.Tk
end Go.Rx
namespace Go.Proofs.YtcoeknnghfajnaaGreat
open Go Go.W Go.Tk Go.Rx Go.Maps
def hM (T:Nt) (vS:List Nat→Nat→Nat) (s:List Nat):Nat:=grF T.vars (vS s) T.goal
def hI (T:Nt) (vS:List Nat→Nat→Nat) (i:Nat):Nat:=match (stsK T.vars T.vars.length)[i]? with | some s=>hM T vS s | none=>0
end Go.Proofs.YtcoeknnghfajnaaGreat
end
section
namespace Go.W
open Go Go.ChangeShapes Go.WideShapes Go.ChangeAt Go.RowKit Go.Deep
section
variable {H:Type} {enc:TypeId × Value→H} {P:Program}
theorem el_vw {α:Type} {encα:α→List Value} {ok:α→Prop} {W:World} {t e:TypeId} {sz:Nat} {v:Value} {fu:Nat} {x:DataW H × List MemPlace} (ht:P.underlying t=some (.slice e)) (hC:P.cellsOf e=sz) (hz:0 < sz) (he:∀x,(encα x).length=sz)
  (hel:∀n cs x,cs.length=sz→DataW.trod enc P W 0 (fun _=>true) true n e cs=some x→∃a,cs=encα a∧ok a)
  (h:DataW.trod enc P W 0 (fun _=>true) true fu t [v]=some x) :
  ∃l:List α,Vw W v encα l∧(∀a ∈ l,ok a)∧l.length≤maxLen:=by
 rcases open_slice ht h with ⟨hcs,hx⟩ | ⟨a,len,cap,m,n,D,Pl,hcs,hb,hl,hm,hmm,hx,hi⟩
 ·simp at hcs
  subst hcs
  exact ⟨[],Vw.nil _ _,by simp,by simp⟩
 ·simp at hcs
  subst hcs
  simp only [if_true] at hmm
  subst hmm
  obtain ⟨n0,hn0⟩:∃n0,n0=len:=⟨_,rfl⟩
  rw [←hn0] at hl ⊢
  have key:∀k,k≤m→∃l:List α,l.length=k∧(∀x ∈ l,ok x)∧∀j u,(l.flatMap encα)[j]? = some u→W.cell? (a.add j)=some u:=by
   intro k
   induction k with
   | zero=>exact fun _=>⟨[],rfl,by simp,by simp⟩
   | succ k ih =>
    intro hk
    obtain ⟨l,hll,ho,hc⟩:=ih (by omega)
    obtain ⟨cs,hcs,htr⟩:=hi k (by omega)
    rw [hC] at hcs
    obtain ⟨_,hlen,hat⟩:=World.cells?_some hcs
    obtain ⟨x,rfl,hox⟩:=hel _ _ _ hlen htr
    refine ⟨l ++ [x],by simp [hll],?_,?_⟩
    ·intro y hy
     rcases List.mem_append.1 hy with h1 | h1
     ·exact ho y h1
     ·simp at h1; subst h1; exact hox
    ·intro j u hj
     rw [List.flatMap_append,List.flatMap_cons,List.flatMap_nil,List.append_nil] at hj
     have hfl:=flatMap_len he l
     rw [hll] at hfl
     by_cases hjl:j < k * sz
     ·rw [List.getElem?_append_left (by omega)] at hj
      exact hc j u hj
     ·rw [List.getElem?_append_right (by omega),hfl] at hj
      have hjs:j - k * sz < sz:=by have h9:=(List.getElem?_eq_some_iff.1 hj).1; rw [he x] at h9; exact h9
      have:=hat (j - k * sz) hjs
      rw [Go.Deep.add_add,show k * sz+(j - k * sz)=j by omega] at this
      rw [this]; exact hj
  obtain ⟨l,hll,ho,hc⟩:=key m (Nat.le_refl _)
  have hvw:Vw W (.slice (some a) n0 m) encα (l.take n0):=by
   have hlen:(l.take n0).length=n0:=by simp; omega
   refine .inr ⟨a,m,by rw [hlen],by omega,fun hne=>?_,fun j u hj=>hc j u ?_⟩
   ·have hn0:0 < n0:=by
     rcases Nat.eq_zero_or_pos n0 with h0 | h0
     ·subst h0; simp at hne
     ·exact h0
    obtain ⟨cs,hcs,_⟩:=hi 0 (by omega)
    rw [hC] at hcs
    obtain ⟨_,hlen',hat⟩:=World.cells?_some hcs
    have h1:=hat 0 hz
    rw [List.getElem?_eq_getElem (by omega)] at h1
    have:=World.cell?_spot h1
    rw [Go.Deep.add_add] at this
    simp at this
    simpa [Addr.add] using this
   ·have:l.flatMap encα=(l.take n0).flatMap encα ++ (l.drop n0).flatMap encα:=by rw [←List.flatMap_append,List.take_append_drop]
    rw [this,List.getElem?_append_left (List.getElem?_eq_some_iff.1 hj).1]
    exact hj
  exact ⟨_,hvw,fun x hx=>ho x (List.mem_of_mem_take hx),by rw [List.length_take]; omega⟩
end
end Go.W
end
section
namespace Go.Proofs.YtcoeknnghfajnaaGreat
open Go Go.W Go.Tk Go.Rx Go.ChangeShapes Go.WideShapes Go.ChangeAt Go.RowKit
theorem own:ownKnob Tryz.prog.godebug=none:=by kernel_rfl
theorem laidOut:laidOutB Tryz.prog=true:=by kernel_rfl
section
variable {H:Type} {enc:TypeId × Value→H}
theorem el_int {W:World} (n:Nat) (cs:List Value) (x:DataW H × List MemPlace) (hl:cs.length=1) (h:DataW.trod enc Tryz.prog W 0 (fun _=>true) true n 3 cs=some x):∃a:Int,cs=iE a∧zok a:=by
 obtain ⟨a,ha,_,wa⟩:=DataW.trod_int Tryz.underlying3 h
 have h1:IntKind.i64.min=-9223372036854775808:=rfl
 have h2:IntKind.i64.max=9223372036854775807:=rfl
 simp only [Lit.wf,Bool.and_eq_true,decide_eq_true_eq] at wa
 exact ⟨a,ha,by unfold zok; omega⟩
theorem el_fact {W:World} (n:Nat) (cs:List Value) (x:DataW H × List MemPlace) (hl:cs.length=2) (h:DataW.trod enc Tryz.prog W 0 (fun _=>true) true n 85 cs=some x):∃a:Fa,cs=faE a∧True:=by
 obtain ⟨xs,m,rfl,_,_,hxl,hg⟩:=DataW.trod_struct Tryz.underlying85 h
 have hc:Tryz.prog.cellsOf 3=1:=by kernel_rfl
 match cs,hl with
 | [u,v],_ =>
  have hx2:xs.length=2:=hxl
  have h0:=hg 0 _ rfl
  have h1:=hg 1 _ rfl
  rw [List.getElem?_eq_getElem (by omega)] at h0 h1
  obtain ⟨a,ha,_,wa⟩:=DataW.trod_int Tryz.underlying3 h0
  obtain ⟨b,hb,_,wb⟩:=DataW.trod_int Tryz.underlying3 h1
  replace ha:List.take (Tryz.prog.cellsOf 3) [u,v]=[.int .i64 a]:=ha
  replace hb:List.take (Tryz.prog.cellsOf 3) [v]=[.int .i64 b]:=hb
  rw [hc] at ha hb
  simp at ha hb
  subst ha hb
  exact ⟨(a,b),rfl,trivial⟩
theorem el_facts {W:World} {n:Nat} {c:Value} {x:DataW H × List MemPlace} (h:DataW.trod enc Tryz.prog W 0 (fun _=>true) true n 23 [c]=some x):∃l:List Fa,Vw W c faE l∧l.length≤maxLen:=by
 obtain ⟨l,h1,_,h2⟩:=el_vw (encα:=faE) (ok:=fun _=>True) (sz:=2) Tryz.underlying23 (by kernel_rfl) (by omega) faE_len el_fact h
 exact ⟨l,h1,h2⟩
theorem el_ints {W:World} {n:Nat} {c:Value} {x:DataW H × List MemPlace} (h:DataW.trod enc Tryz.prog W 0 (fun _=>true) true n 22 [c]=some x):∃l:List Int,Vw W c iE l∧(∀z ∈ l,zok z)∧l.length≤maxLen :=
 el_vw (encα:=iE) (ok:=zok) (sz:=1) Tryz.underlying22 (by kernel_rfl) (by omega) iE_len el_int h
theorem el_eff {W:World} (n:Nat) (cs:List Value) (x:DataW H × List MemPlace) (hl:cs.length=3) (h:DataW.trod enc Tryz.prog W 0 (fun _=>true) true n 111 cs=some x):∃e:Ef,cs=efE e∧(Vw W e.wv.1 faE e.cnd∧e.cnd.length≤maxLen):=by
 obtain ⟨xs,m,rfl,_,_,hxl,hg⟩:=DataW.trod_struct Tryz.underlying111 h
 have hc:Tryz.prog.cellsOf 3=1:=by kernel_rfl
 have hf:Tryz.prog.cellsOf 23=1:=by kernel_rfl
 match cs,hl with
 | [u,v,w],_ =>
  have hx2:xs.length=3:=hxl
  have h0:=hg 0 _ rfl
  have h1:=hg 1 _ rfl
  have h2:=hg 2 _ rfl
  rw [List.getElem?_eq_getElem (by omega)] at h0 h1 h2
  replace h0:DataW.trod enc Tryz.prog W 0 (fun _=>true) true m 23 (List.take (Tryz.prog.cellsOf 23) [u,v,w])=_:=h0
  rw [hf] at h0
  simp only [List.take_succ_cons,List.take_zero] at h0
  obtain ⟨l,hv,hlen⟩:=el_facts h0
  obtain ⟨a,ha,_,wa⟩:=DataW.trod_int Tryz.underlying3 h1
  obtain ⟨b,hb,_,wb⟩:=DataW.trod_int Tryz.underlying3 h2
  replace ha:List.take (Tryz.prog.cellsOf 3) [v,w]=[.int .i64 a]:=ha
  replace hb:List.take (Tryz.prog.cellsOf 3) [w]=[.int .i64 b]:=hb
  rw [hc] at ha hb
  simp at ha hb
  subst ha hb
  exact ⟨⟨⟨u,hv.o1⟩,l,a,b⟩,rfl,hv,hlen⟩
theorem el_op {W:World} (n:Nat) (cs:List Value) (x:DataW H × List MemPlace) (hl:cs.length=4) (h:DataW.trod enc Tryz.prog W 0 (fun _=>true) true n 66 cs=some x):∃o:Oq,cs=oqE o∧(OqR W o∧o.name.size≤maxLen∧o.pre.length≤maxLen∧o.effs.length≤maxLen∧∀e ∈ o.effs,e.cnd.length≤maxLen):=by
 obtain ⟨xs,m,rfl,_,_,hxl,hg⟩:=DataW.trod_struct Tryz.underlying66 h
 have hs:Tryz.prog.cellsOf 9=1:=by kernel_rfl
 have hc:Tryz.prog.cellsOf 3=1:=by kernel_rfl
 have hf:Tryz.prog.cellsOf 23=1:=by kernel_rfl
 have he:Tryz.prog.cellsOf 64=1:=by kernel_rfl
 match cs,hl with
 | [u,v,w,z],_ =>
  have hx2:xs.length=4:=hxl
  have h0:=hg 0 _ rfl
  have h1:=hg 1 _ rfl
  have h2:=hg 2 _ rfl
  have h3:=hg 3 _ rfl
  rw [List.getElem?_eq_getElem (by omega)] at h0 h1 h2 h3
  obtain ⟨nm,hn,_,wn⟩:=DataW.trod_string Tryz.underlying9 h0
  obtain ⟨a,ha,_,wa⟩:=DataW.trod_int Tryz.underlying3 h1
  replace hn:List.take (Tryz.prog.cellsOf 9) [u,v,w,z]=[.string nm]:=hn
  replace ha:List.take (Tryz.prog.cellsOf 3) [v,w,z]=[.int .i64 a]:=ha
  replace h2:DataW.trod enc Tryz.prog W 0 (fun _=>true) true m 23 (List.take (Tryz.prog.cellsOf 23) [w,z])=_:=h2
  replace h3:DataW.trod enc Tryz.prog W 0 (fun _=>true) true m 64 (List.take (Tryz.prog.cellsOf 64) [z])=_:=h3
  rw [hs] at hn
  rw [hc] at ha
  rw [hf] at h2
  rw [he] at h3
  simp only [List.take_succ_cons,List.take_zero] at h2 h3
  simp at hn ha
  subst hn ha
  obtain ⟨pl,hp1,hp2⟩:=el_facts h2
  obtain ⟨el,he1,he2,he3⟩:=el_vw (encα:=efE) (ok:=fun e:Ef=>Vw W e.wv.1 faE e.cnd∧e.cnd.length≤maxLen) (sz:=3) Tryz.underlying64 (by kernel_rfl) (by omega) efE_len el_eff h3
  exact ⟨⟨nm,a,⟨w,hp1.o1⟩,pl,⟨z,he1.o1⟩,el⟩,rfl,⟨hp1,he1,fun e h=>(he2 e h).1⟩,wn,hp2,he3,fun e h=>(he2 e h).2⟩
theorem open_task {W:World} {b:Nat} {v:Value} {d:DataW H} {ps:List MemPlace} (hv:Value.okWide Tryz.prog W .any b 26 v) (h:DataW.Trod enc Tryz.prog W 0 (fun _=>true) true 26 v d ps):∃t:Tk,v=tkV t∧TkR W t∧TkL t:=by
 simp only [Value.okWide,Tryz.underlying26] at hv
 obtain ⟨cs,rfl,hcs,_⟩:=hv
 have h4:Tryz.prog.cellsOf 26=4:=by kernel_rfl
 rw [h4] at hcs
 obtain ⟨n,h⟩:=h
 obtain ⟨xs,m,rfl,_,_,hxl,hg⟩:=DataW.trod_struct Tryz.underlying26 h
 have hc:Tryz.prog.cellsOf 22=1:=by kernel_rfl
 have hf:Tryz.prog.cellsOf 23=1:=by kernel_rfl
 have ho:Tryz.prog.cellsOf 24=1:=by kernel_rfl
 have hl:cs.toList.length=4:=by simpa using hcs
 have e:(Value.agg cs).cells.toList=cs.toList:=rfl
 rw [e] at hg
 match hcl:cs.toList,hl with
 | [u0,u1,u2,u3],_ =>
  rw [hcl] at hg
  have hx2:xs.length=4:=hxl
  have h0:=hg 0 _ rfl
  have h1:=hg 1 _ rfl
  have h2:=hg 2 _ rfl
  have h3:=hg 3 _ rfl
  rw [List.getElem?_eq_getElem (by omega)] at h0 h1 h2 h3
  replace h0:DataW.trod enc Tryz.prog W 0 (fun _=>true) true m 22 (List.take (Tryz.prog.cellsOf 22) [u0,u1,u2,u3])=_:=h0
  replace h1:DataW.trod enc Tryz.prog W 0 (fun _=>true) true m 22 (List.take (Tryz.prog.cellsOf 22) [u1,u2,u3])=_:=h1
  replace h2:DataW.trod enc Tryz.prog W 0 (fun _=>true) true m 23 (List.take (Tryz.prog.cellsOf 23) [u2,u3])=_:=h2
  replace h3:DataW.trod enc Tryz.prog W 0 (fun _=>true) true m 24 (List.take (Tryz.prog.cellsOf 24) [u3])=_:=h3
  rw [hc] at h0 h1
  rw [hf] at h2
  rw [ho] at h3
  simp only [List.take_succ_cons,List.take_zero] at h0 h1 h2 h3
  obtain ⟨vl,v1,_,v2⟩:=el_ints h0
  obtain ⟨nl,n1,_,n2⟩:=el_ints h1
  obtain ⟨gl,g1,g2⟩:=el_facts h2
  obtain ⟨ol,o1,o2,o3⟩:=el_vw (encα:=oqE) (ok:=fun o:Oq=>OqR W o∧o.name.size≤maxLen∧o.pre.length≤maxLen∧o.effs.length≤maxLen∧∀e ∈ o.effs,e.cnd.length≤maxLen) (sz:=4) Tryz.underlying24 (by kernel_rfl) (by omega) oqE_len el_op h3
  have em:maxLen=9223372036854775807:=rfl
  refine ⟨⟨⟨u0,v1.o1⟩,⟨u1,n1.o1⟩,⟨u2,g1.o1⟩,⟨u3,o1.o1⟩,vl,nl,gl,ol⟩,?_,⟨v1,n1,g1,o1,fun o h=>(o2 o h).1⟩,⟨n2,g2,o3,v2,fun o h=>(o2 o h).2⟩⟩
  have:cs=#[u0,u1,u2,u3]:=by
   apply Array.toList_inj.1; rw [hcl]
  rw [this]; rfl
end
end Go.Proofs.YtcoeknnghfajnaaGreat
end
