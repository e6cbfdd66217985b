/-
  A part of the proof of this claim's statement (BiL, BiM, BiO, BiN, BiP, BiQ): plain theorems; no conditions beyond those each names.
-/
import Derived.Test.YtkhfdmelcpfgoaaGreatPk24
section
set_option maxRecDepth 100000
set_option linter.unusedSimpArgs false
set_option linter.unusedVariables false
namespace Go.Proofs.YtkhfdmelcpfgoaaGreat
open Go Go.W Go.Tk Go.Rx Go.Bd Go.Sy Go.Maps
theorem cells_o1 {v:Value} (h:oneC v=true):v.cells=#[v]:=by
 cases v <;> first | rfl | simp_all [oneC]
theorem Rds.own1 {α:Type} {v:Value} {E sz:Nat} {enc:α→List Value} {l:List α} {B:Asr}:Rds (Star (OwnA v E sz enc l) B) fun _=>oneC v=true:=fun w' F' hs=>by
 obtain ⟨Fa,Fb,ha,_⟩:=hs
 exact ha.1.o1
def wvO (c:Nat) (pv:Value) (ai:Nat):Obj:=.cells #[.int .i64 (c:Nat),pv,.int .i64 (ai:Nat)] 74 (0,0)
section
variable {w w1:World} {F:List Nat} {A B B':Asr} {s m lim:Nat} {T T':Nt} {q:SpC} {ps:List Kq}
def CompR (s m lim:Nat) (T T':Nt) (q:SpC) (ps:List Kq) (B:Asr) (w:World) (F:List Nat) (S0:List Nat→Prop) (x c:Nat) (d:Sd) (v:Value) (w':World):Prop :=
 (v=.nilIface∧∃ d' y ps',d'.bw=d.bw∧d'.wl=d.wl ++ [y]∧y.cost=c∧(∃ z,StN T.vars z∧y.all z=true)∧SdG T S0 d'∧SdBd T d'∧cntC T d'.cl < cntC T d.cl∧(∀ p ∈ ps,p ∈ ps')∧SdK ps' d'∧FsA s m lim T' q ps' (SdA x T s d' B) w F w') ∨
 (v=berrV 10∧Full T' lim∧∃ d',d'.wl=d.wl∧At w F (SdA x T s d' B) w')
def CoA (T:Nt) (s x wb c ai:Nat) (pv:Value) (pl:List Kq) (d:Sd) (B:Asr):Asr:=Star (ObjA wb (wvO c pv ai)) (Star (OwnA pv 3 1 nE (pl.map (·.1))) (SdA x T s d B))
def CmI (s m lim:Nat) (T T':Nt) (q:SpC) (ps:List Kq) (B:Asr) (w:World) (F:List Nat) (x c wb:Nat) (d:Sd) (P0:List Nat→Bool) (n:Nat) (ρ:Env) (w':World):Prop :=
 ∃ (pi ai:Nat) (pv:Value) (pl:List Kq) (Pp Al:List Nat→Bool) (ps':List Kq),ρ 0=.pointer (some ⟨x,0,none⟩)∧ρ 1=.int .i64 (c:Nat)∧ρ 5=.pointer (some ⟨wb,0,none⟩)∧ρ 6=.int .i64 (pi:Nat) ∧
  PtsOk T d P0 pl Pp Al∧n=cntR T d.cl pl∧pl.length+n≤cntC T d.cl∧(∀ p ∈ ps,p ∈ ps')∧(pi,Pp) ∈ ps'∧(ai,Al) ∈ ps'∧(∀ p ∈ pl,p ∈ ps')∧(pl=[]→pi≠0)∧FsA s m lim T' q ps' (CoA T s x wb c ai pv pl d B) w F w'
def CnI (s m lim:Nat) (T T':Nt) (q:SpC) (ps:List Kq) (Bq:Asr) (w:World) (F:List Nat) (x c wb:Nat) (d2:Sd) (Al cl':List Nat→Bool) (op0:List (Nat × Kq)) (k:Nat) (ρ:Env) (w':World):Prop :=
 ρ 0=.pointer (some ⟨x,0,none⟩)∧ρ 1=.int .i64 (c:Nat)∧ρ 5=.pointer (some ⟨wb,0,none⟩)∧ρ 89=T.ov.1∧∃ opk ps',OpnI T d2.bw c Al cl' op0 k opk∧(∀ p ∈ ps,p ∈ ps')∧(∀ p ∈ opk,p.2 ∈ ps')∧FsA s m lim T' q ps' (SdA x T s { d2 with opn:=opk } Bq) w F w'
set_option maxHeartbeats 4000000 in
theorem bcomplete_spec (x c:Nat) (S0:List Nat→Prop) (d:Sd) (a0:Nat) (P0:List Nat→Bool) (hC:BC T T' lim) (hB:Lcl B) (h:FsA s m lim T' q ps (SdA x T s d B) w F w1) (hT:Rds B fun w'=>NtR w' T) (hk:SdK ps d) (h0:(0,fun _=>false) ∈ ps)
  (hd:SdG T S0 d) (hb:SdBd T d) (hin:(c,((a0,P0):Kq)) ∈ d.opn) (ha0:a0≠0) (hdj:∀ z,P0 z=true→d.cl z=false) (hmin:∀ p ∈ d.opn,p.1≠c→c < p.1) :
  Calls Tryz.prog 31 [.pointer (some ⟨x,0,none⟩),.int .i64 (c:Nat)].toArray w1 fun en w'=>∃ v,en=.returned v∧CompR s m lim T T' q ps B w F S0 x c d v w':=by
 refine enter Tryz.func31 mixed low31 (Nat.le_of_ble_eq_true rfl) ?_
 simp only [L31]
 have hm:=h.frame SdA.map
 have ox:=h.frame SdA.obj
 unfold sdO at ox
 have hnd:=MapM.nodup hm
 have hca:i64ok c:=by
  obtain ⟨es,clock,_,_,_,hok,_⟩:=hm
  exact hok _ hin
 have hcN:c≤600000000:=by have:=hb.oc _ hin; have:=hb.wl; have:=hb.nN; have:c≤d.wl.length * 1048576:=hb.oc _ hin; omega
 have hget:getM d.opn c=some (a0,P0):=(getM_kv hnd).2 hin
 have hLS:Lcl (SdA x T s d B):=SdA.lcl hB
 simp [cell_blk ox]
 refine MapM.look1 (x:=c) hm bkeyI Tryz.underlying76 zint hca ?_
 simp [hget,kpV]
 obtain ⟨wb,hwb⟩:∃ wb,wb=w1.heap.size:=⟨_,rfl⟩
 have h2:=h.alloc (.cells #[.int .i64 0,.slice none 0 0,.int .i64 0] 74) hLS
 rw [← hwb] at h2 ⊢
 refine h2.st hLS (by simp) (by simp) fun w2 h3=>?_
 replace h3:FsA s m lim T' q ps (Star (ObjA wb (wvO c (.slice none 0 0) a0)) (SdA x T s d B)) w F w2:=by simpa [wvO] using h3
 have ox3:=h3.frame (Rds.star SdA.obj)
 unfold sdO at ox3
 simp [cell_blk ox3]
 refine del_mk ?_
 simp
 have hBw:Lcl (Star (ObjA wb (wvO c (.slice none 0 0) a0)) B):=Lcl.obj.star hB
 refine FsA.delM (d:=d) (c:=c) hBw (h3.by SdA.into) hca fun w3 h4=>?_
 obtain ⟨d1,hd1⟩:∃ d1:Sd,d1={ d with opn:=delM d.opn c }:=⟨_,rfl⟩
 rw [← hd1] at h4
 have hL1:Lcl (SdA x T s d1 B):=SdA.lcl hB
 have h5:=h4.by SdA.out
 have h6:=(h5.by Imp.sw).by Imp.sw
 have h7:FsA s m lim T' q ps (CoA T s x wb c a0 (.slice none 0 0) [] d1 B) w F w3:=by
  unfold CoA
  have h8:=FsA.nil (enc:=nE) (E:=3) (sz:=1) (Lcl.obj.star hL1) h5
  exact h8.by Imp.sw
 have ow7:=h7.obj
 unfold wvO at ow7
 simp [cell_blk ow7]
 have hd1c:d1.cl=d.cl:=by rw [hd1]
 have hk1:SdK ps d1:=by
  rw [hd1]
  exact ⟨hk.cl,hk.all,fun p hp=>hk.opn p (mem_delM.1 hp).1⟩
 have hdj1:∀ z,P0 z=true→d1.cl z=false:=fun z e=>by rw [hd1c]; exact hdj z e
 have hCL:∀ ai pv pl,Lcl (CoA T s x wb c ai pv pl d1 B):=fun ai pv pl=>Lcl.obj.star (Lcl.own.star hL1)
 have hcR:∀ ai pv pl,Rds (CoA T s x wb c ai pv pl d1 B) fun w'=>SdR w' x T s d1:=fun ai pv pl=>Rds.star (Rds.star SdA.rd)
 have hcT:∀ ai pv pl,Rds (CoA T s x wb c ai pv pl d1 B) fun w'=>NtR w' T:=fun ai pv pl=>Rds.star (Rds.star (SdA.rds hT))
 refine loop_inv (CmI s m lim T T' q ps B w F x c wb d1 P0) _ ⟨a0,a0,.slice none 0 0,[],P0,P0,ps,by simp,by simp,by simp,by simp,PtsOk.begin hdj1,rfl,by rw [cntR_nil]; simp,fun _ h=>h,hk.opn _ hin,hk.opn _ hin,fun p hp=>(by cases hp),fun _=>ha0,h7⟩ ?_
 rintro n ρ w4 ⟨pi,ai,pv,pl,Pp,Al,ps4,g0,g1,g5,g6,hP,hn,hpn,hps4,hpi4,hai4,hpl4,hne,h8⟩
 have ow8:=h8.obj
 unfold wvO at ow8
 have hcl512:cntC T d1.cl≤512:=by rw [hd1c]; have:=hb.wl; have:=hb.nN; omega
 by_cases hpi:pi=0
 ·have hb0:(((pi:Nat):Int) != 0)=false:=by rw [hpi]; rfl
  have hPno:∀ z,StN T.vars z→Pp z=false:=fun z hz=>(h8.zero hpi4).1 hpi z (by rw [hC.alk.vars]; exact hz)
  have hplne:pl≠[]:=fun e=>hne e hpi
  have ox8:=(h8.frame (hcR _ _ _)).obj
  unfold sdO at ox8
  have h8d:=h8.drew (hCL _ _ _)
  simp [g0,g1,g5,g6,hb0,cell_blk ow8,cell_blk ox8]
  refine cl_of (f_union d1.ci ai d1.cl Al hC.cap (hCL _ _ _) h8d (hps4 _ hk1.cl) hai4) ?_
  rintro _ w5 (⟨r,rfl,h9⟩ | ⟨rfl,hf,h9⟩)
  rotate_left
  ·simp [berrV]
   exact .inr ⟨rfl,hf,d1,by rw [hd1],h9.drop.drop⟩
  simp [g0,g1,g5,g6]
  obtain ⟨Bq,hBq⟩:∃ Bq,Bq=Star (ObjA wb (wvO c pv ai)) (Star (OwnA pv 3 1 nE (pl.map (·.1))) B):=⟨_,rfl⟩
  have hLq:Lcl Bq:=by rw [hBq]; exact Lcl.obj.star (Lcl.own.star hB)
  have rqT:Rds Bq fun w'=>NtR w' T:=by rw [hBq]; exact Rds.star (Rds.star hT)
  have rqW:Rds Bq fun w'=>w'.heap[wb]?=some (wvO c pv ai):=by rw [hBq]; exact Rds.obj
  have h10:FsA s m lim T' q ((r,fun z=>d1.cl z || Al z) :: ps4) (SdA x T s d1 Bq) w F w5:=by
   unfold CoA at h9
   rw [hBq]
   exact (h9.by (Imp.un SdA.into)).by SdA.into
  have h10':=h10
  unfold SdA sdO at h10'
  refine FsA.st (Lcl.own.star (Lcl.vws.star (Lcl.map.star hLq))) h10' (by simp) (by simp) fun w6 h11=>?_
  obtain ⟨cl',hcl'⟩:∃ cl',cl'=fun z=>d1.cl z || Al z:=⟨_,rfl⟩
  obtain ⟨d2,hd2⟩:∃ d2:Sd,d2={ d1 with ci:=r,cl:=cl' }:=⟨_,rfl⟩
  replace h11:FsA s m lim T' q ((r,cl') :: ps4) (SdA x T s d2 Bq) w F w6:=by
   rw [hd2,hcl']
   unfold SdA sdO
   simpa using h11
  have ox11:=h11.frame SdA.obj
  unfold sdO at ox11
  have hol:=hC.g.olen
  have hbw:d2.bw=d.bw:=by rw [hd2,hd1]
  have hmin1:∀ p ∈ d1.opn,c < p.1:=fun p hp=>by
   rw [hd1] at hp
   have hp:p ∈ delM d.opn c:=hp
   obtain ⟨h1,h2⟩:=mem_delM.1 hp
   exact hmin p h1 h2
  have hBqB:Imp Bq B:=by rw [hBq]; exact Imp.dr.trans Imp.dr
  have hcl2:(d2.ci,d2.cl) ∈ (r,cl') :: ps4:=by rw [hd2]; exact .head _
  have ecl2:d2.cl=cl':=by rw [hd2]
  have ed2:({ d2 with opn:=d1.opn }:Sd)=d2:=by rw [hd2]
  simp [g0,g1,g5,g6,cell_blk ox11,(h11.frame (SdA.rds rqT)).ops.len]
  refine range_loop (n:=T.ops.length) (by omega) (CnI s m lim T T' q ((r,cl') :: ps4) Bq w F x c wb d2 Al cl' d1.opn) (by simp) (by simp)
   ⟨by simp [g0],by simp [g1],by simp [g5],by simp,d1.opn,_,OpnI.begin hmin1,fun _ h=>h,fun p hp=>.tail _ (hps4 _ (hk1.opn p hp)),by rw [ed2]; exact h11⟩ (by decide) (fun _ _ _ _ h=>by simpa [CnI] using h) (fun _ _ _ _ h=>by simpa [CnI] using h) ?_ ?_
  ·rintro k ρ w7 hk7 hc hlm ⟨g0,g1,g5,g89,opk,ps7,hO,hps7,hopk7,h12⟩
   obtain ⟨o,ho⟩:∃ o,T.ops[k]?=some o:=⟨_,List.getElem?_eq_getElem hk7⟩
   have hoc:=(hC.g.ops o (List.mem_of_getElem? ho)).cost
   have hT3:=h12.frame (SdA.rds rqT)
   have ec:=hT3.ops.cells noE_len ho
   simp only [noE] at ec
   have hki:(k:Int) < T.ops.length:=by omega
   obtain ⟨ob,hob⟩:∃ ob,ob=w7.heap.size:=⟨_,rfl⟩
   have hLk:Lcl (SdA x T s { d2 with opn:=opk } Bq):=SdA.lcl hLq
   have h13:=h12.alloc opZ hLk
   rw [← hob] at h13
   simp (disch:=omega) [g0,g1,g5,g89,hc,hlm,hT3.ops.idx,ec]
   rw [← hob]
   refine h13.st hLk (by simp) (by simp [o.pv.2,o.ev.2]) fun w8 h14=>?_
   replace h14:FsA s m lim T' q ps7 (Star (ObjA ob (opO o)) (SdA x T s { d2 with opn:=opk } Bq)) w F w8:=by simpa [opZ,opO] using h14
   have h15:=h14.by SdA.into
   have hLo:Lcl (Star (ObjA ob (opO o)) Bq):=Lcl.obj.star hLq
   have hLs:Lcl (SdA x T s { d2 with opn:=opk } (Star (ObjA ob (opO o)) Bq)):=SdA.lcl hLo
   have rO:Rds (SdA x T s { d2 with opn:=opk } (Star (ObjA ob (opO o)) Bq)) fun w'=>w'.heap[ob]?=some (opO o):=SdA.rds Rds.obj
   have rW:Rds (SdA x T s { d2 with opn:=opk } (Star (ObjA ob (opO o)) Bq)) fun w'=>w'.heap[wb]?=some (wvO c pv ai):=SdA.rds (Rds.star rqW)
   have oo:=h15.frame rO
   unfold opO at oo
   by_cases hoc0:o.cost=0
   ·have hb0:(((o.cost:Nat):Int) == 0)=true:=by rw [hoc0]; rfl
    simp [g0,g1,g5,g89,hc,hlm,cell_blk oo,hb0]
    exact ⟨by simp [g0],by simp [g1],by simp [g5],by simp [g89],opk,ps7,hO.skip ho fun h=>absurd hoc0 h,hps7,hopk7,h15.by (SdA.fr Imp.dr)⟩
   ·have hb0:(((o.cost:Nat):Int) == 0)=false:=beq_eq_false_iff_ne.2 (by omega)
    have owk:=h15.frame rW
    unfold wvO at owk
    obtain ⟨ck,hck⟩:∃ ck,ck=c+o.cost:=⟨_,rfl⟩
    have ea:∀ K:Kont Value,@intH .add .i64 (c:Int) .i64 (o.cost:Int) K=K.run (.int .i64 (ck:Nat)):=fun K=>by
     have e:(c:Int)+(o.cost:Int)=((ck:Nat):Int):=by omega
     rw [intS_add,e,wrap_i64 (by omega) (by omega)]
    have hok:i64ok ck:=by unfold i64ok; omega
    have e3:∀ dd:Sd,dd={ d2 with opn:=opk }→Imp (SdA x T s dd (Star (ObjA ob (opO o)) Bq)) (SdA x T s { d2 with opn:=opk } B):=fun dd e=>by rw [e]; exact SdA.fr (Imp.dr.trans hBqB)
    simp [g0,g1,g5,g89,hc,hlm,cell_blk oo,hb0,cell_blk owk]
    refine cl_of (bstep_spec x ai k { d2 with opn:=opk } o Al hC hLs h15 SdA.rd (hps7 _ (.tail _ hai4)) ho) ?_
    rintro _ w9 (⟨r1,rfl,h16⟩ | ⟨rfl,hf,h16⟩)
    rotate_left
    ·simp [berrV]
     exact .inr ⟨rfl,hf,{ d2 with opn:=opk },(show d2.wl=d.wl by rw [hd2,hd1]),h16.by (e3 _ rfl)⟩
    have ox16:=h16.frame SdA.obj
    unfold sdO at ox16
    have h16d:=h16.drew hLs
    simp [g0,g1,g5,g89,hc,hlm,cell_blk ox16]
    refine cl_of (f_minus r1 d2.ci _ d2.cl hC.cap hLs h16d (.head _) (.tail _ (hps7 _ hcl2))) ?_
    rintro _ w10 (⟨r2,rfl,h17⟩ | ⟨rfl,hf,h17⟩)
    rotate_left
    ·simp [berrV]
     exact .inr ⟨rfl,hf,{ d2 with opn:=opk },(show d2.wl=d.wl by rw [hd2,hd1]),h17.by (e3 _ rfl)⟩
    have ox17:=h17.frame SdA.obj
    unfold sdO at ox17
    have oo17:=h17.frame rO
    unfold opO at oo17
    have hm17:=h17.frame SdA.map
    have hnd17:=MapM.nodup hm17
    simp [-intS_add,ea,g0,g1,g5,g89,hc,hlm,cell_blk ox17,cell_blk oo17]
    refine MapM.look1 (x:=ck) hm17 bkeyI Tryz.underlying76 zint hok ?_
    obtain ⟨y,S,hyS,hval,hS⟩:∃ (y:Nat) (S:List Nat→Bool),(y,S) ∈ ps7∧((getM opk ck).map kpV).getD (.int .i64 0)=.int .i64 (y:Nat)∧∀ z,S z=true↔∃ S':Kq,(ck,S') ∈ opk∧S'.2 z=true:=by
     cases hg:getM opk ck with
     | none =>
      refine ⟨0,fun _=>false,hps7 _ (.tail _ (hps4 _ h0)),rfl,fun z=>⟨fun e=>(by cases e),fun ⟨S',h1,_⟩=>?_⟩⟩
      have:=(getM_kv hnd17).2 h1
      rw [hg] at this
      cases this
     | some p =>
      have hp:=(getM_kv hnd17).1 hg
      refine ⟨p.1,p.2,hopk7 _ hp,rfl,fun z=>⟨fun e=>⟨p,hp,e⟩,fun ⟨S',h1,h2⟩=>?_⟩⟩
      have:=(getM_kv hnd17).2 h1
      rw [hg] at this
      rw [Option.some.inj this]
      exact h2
    have h17d:=h17.drew hLs
    simp only [hval]
    simp [g0,g1,g5,g89,hc,hlm]
    refine cl_of (f_union r2 y _ S hC.cap hLs h17d (.head _) (.tail _ (.tail _ hyS))) ?_
    rintro _ w11 (⟨r3,rfl,h18⟩ | ⟨rfl,hf,h18⟩)
    rotate_left
    ·simp [berrV]
     exact .inr ⟨rfl,hf,{ d2 with opn:=opk },(show d2.wl=d.wl by rw [hd2,hd1]),h18.by (e3 _ rfl)⟩
    have ox18:=h18.frame SdA.obj
    unfold sdO at ox18
    have oo18:=h18.frame rO
    unfold opO at oo18
    have hR:∀ z,StN T.vars z→(((stpP T o d2.bw Al z && !d2.cl z) || S z)=true↔((∃ x,Al x=true∧EB T d2.bw k x z)∧d2.cl z=false)∨∃ S':Kq,(c+o.cost,S') ∈ opk∧S'.2 z=true):=fun z hz=>by
     rw [Bool.or_eq_true,Bool.and_eq_true,stpP_iff hC.g ho hz,Bool.not_eq_true',hS z,hck]
    by_cases hr3:r3=0
    ·have hb3:(((r3:Nat):Int) != 0)=false:=by rw [hr3]; rfl
     have hz:=(h18.zero (.head _)).1 hr3
     simp [g0,g1,g5,g89,hc,hlm,hb3]
     refine ⟨by simp [g0],by simp [g1],by simp [g5],by simp [g89],opk,_,hO.skip ho fun _ z hz1 he=>?_,fun p hp=>.tail _ (.tail _ (.tail _ (hps7 p hp))),fun p hp=>.tail _ (.tail _ (.tail _ (hopk7 p hp))),h18.by (SdA.fr Imp.dr)⟩
     have h1:=hz z (by rw [hC.alk.vars]; exact hz1)
     cases ecl:cl' z with
     | true=>rfl
     | false =>
      have h2:=(hR z hz1).2 (.inl ⟨he,by rw [ecl2]; exact ecl⟩)
      have h1':((stpP T o d2.bw Al z && !d2.cl z) || S z)=false:=h1
      rw [h2] at h1'
      cases h1'
    ·have hb3:(((r3:Nat):Int) != 0)=true:=by
      rw [bne,Bool.not_eq_true']
      exact beq_eq_false_iff_ne.2 (by omega)
     have h18d:=h18.drew hLs
     have hopl:opk.length≤2000000:=by
      have h1:=hO.len
      have h2:d1.opn.length≤d.opn.length:=by rw [hd1]; exact List.length_filter_le _ _
      have h3:=hb.on
      have h4:=hb.wl
      have h5:=hb.nN
      omega
     simp [-intS_add,ea,g0,g1,g5,g89,hc,hlm,hb3,cell_blk ox18,cell_blk oo18]
     refine FsA.putM (d:={ d2 with opn:=opk }) (c:=ck) (p:=(r3,fun z=>(stpP T o d2.bw Al z && !d2.cl z) || S z)) hLo h18d hok hopl fun w12 h19=>?_
     simp [g0,g1,g5,g89,hc,hlm]
     have hput:=hO.put (r:=r3) hC.g hnd17 ho hoc0 (by rw [← ecl2]; exact hR)
     rw [← hck] at hput
     refine ⟨by simp [g0],by simp [g1],by simp [g5],by simp [g89],_,_,hput,fun p hp=>.tail _ (.tail _ (.tail _ (hps7 p hp))),fun p hp=>?_,h19.by (SdA.fr Imp.dr)⟩
     rcases mem_putM.1 hp with rfl | ⟨hp,_⟩
     ·exact .head _
     ·exact .tail _ (.tail _ (.tail _ (hopk7 p hp)))
  ·rintro ρ w7 ⟨g0,g1,g5,g89,opk,ps7,hO,hps7,hopk7,h12⟩
   obtain ⟨d3,hd3⟩:∃ d3:Sd,d3={ d2 with opn:=opk }:=⟨_,rfl⟩
   rw [← hd3] at h12
   have hL3:Lcl (SdA x T s d3 Bq):=SdA.lcl hLq
   have hwv3:d3.wv=d.wv:=by rw [hd3,hd2,hd1]
   have hwl3:d3.wl=d.wl:=by rw [hd3,hd2,hd1]
   have hom3:d3.om=d.om:=by rw [hd3,hd2,hd1]
   have ow12:=h12.frame (SdA.rds rqW)
   unfold wvO at ow12
   have ox12:=h12.frame SdA.obj
   unfold sdO at ox12
   have hpo:oneC pv=true:=h12.frame (SdA.rds (by rw [hBq]; exact Rds.star Rds.own1):Rds (SdA x T s d3 Bq) fun _=>oneC pv=true)
   have h12d:=h12.drew hL3
   obtain ⟨y,hy⟩:∃ y:Wm,y=⟨c,⟨pv,hpo⟩,pl,ai,Al⟩:=⟨_,rfl⟩
   have hwl1:=hb.wl
   have hnN:=hb.nN
   simp [g0,g1,g5,cell_blk ox12,rd_c3 ow12]
   have h13:FsA s m lim T' q ps7 (Star (OwnA d3.wv 74 3 wmE d3.wl) (Star (ObjA x (sdO T s d3)) (Star (VwsA nE (d3.wl.map wmP)) (Star (MapA d3.om natV kpV i64ok d3.opn) Bq)))) w F w7.drew:=by
    unfold SdA at h12d
    exact h12d.by Imp.sw
   refine h13.app (cs:=#[.int .i64 (c:Nat),pv,.int .i64 (ai:Nat)]) (xs:=[y]) (Lcl.obj.star (Lcl.vws.star (Lcl.map.star hLq))) wmE_len wmE_one sl_75 (by rw [hy]; simp [wmE]) rfl (by rw [hwl3]; omega) (by rw [hwl3]; unfold maxLen; omega) fun wv' w8 h14=>?_
   have hwo:oneC wv'=true:=h14.frame (Rds.own1:Rds (Star (OwnA wv' 74 3 wmE (d3.wl ++ [y])) (Star (ObjA x (sdO T s d3)) (Star (VwsA nE (d3.wl.map wmP)) (Star (MapA d3.om natV kpV i64ok d3.opn) Bq)))) fun _=>oneC wv'=true)
   simp [g0,g1,g5,cells_o1 hwo]
   have h15:=h14.by Imp.sw
   unfold sdO at h15
   refine FsA.st (Lcl.own.star (Lcl.vws.star (Lcl.map.star hLq))) h15 (by simp) (by simp [hwo]) fun w9 h16=>?_
   obtain ⟨d4,hd4⟩:∃ d4:Sd,d4=⟨d.bw,wv',d.wl ++ [y],r,cl',d.om,opk⟩:=⟨_,rfl⟩
   have h17:FsA s m lim T' q ps7 (SdA x T s d4 B) w F w9:=by
    have e1:wmP y=((⟨pv,hpo⟩:Cell1),pl.map (·.1)):=by rw [hy]; rfl
    have h18:FsA s m lim T' q ps7 (Star (ObjA x (sdO T s d4)) (Star (OwnA d4.wv 74 3 wmE d4.wl) (Star (VwsA nE (d3.wl.map wmP)) (Star (MapA d4.om natV kpV i64ok d4.opn) (Star (ObjA wb (wvO c pv ai)) (Star (OwnA pv 3 1 nE (pl.map (·.1))) B)))))) w F w9:=by
     rw [← hBq]
     have:(wrAt #[T.vv.1,T.nv.1,T.gv.1,T.ov.1,.pointer (some ⟨s,0,none⟩),.bool d3.bw,d3.wv,.int .i64 (d3.ci:Nat),.map (some d3.om)] 6 [wv'])=#[T.vv.1,T.nv.1,T.gv.1,T.ov.1,.pointer (some ⟨s,0,none⟩),.bool d4.bw,d4.wv,.int .i64 (d4.ci:Nat),.map (some d4.om)]:=by
      rw [hd4,hd3,hd2,hd1]
      simp
     rw [this] at h16
     have e2:d4.wl=d3.wl ++ [y]:=by rw [hwl3,hd4]
     have e3:d4.wv=wv':=by rw [hd4]
     have e4:d4.om=d3.om:=by rw [hom3,hd4]
     have e5:d4.opn=d3.opn:=by rw [hd4,hd3]
     unfold sdO
     rw [e2,e5]
     rw [← e3,← e4] at h16
     exact h16
    have h19:=h18.by (Imp.un (Imp.un ((Imp.un (Imp.un Imp.dr)).trans ((Imp.un Imp.sw).trans (Imp.sw.trans (Imp.ow.trans (VwsA.add hpo)))))))
    unfold SdA
    have e6:d4.wl.map wmP=d3.wl.map wmP ++ [((⟨pv,hpo⟩:Cell1),pl.map (·.1))]:=by
     rw [hwl3,hd4,← e1]
     simp
    rw [e6]
    exact h19
   have hnd4:(opk.map (·.1)).Nodup:=by
    have:=MapM.nodup (h17.frame SdA.map)
    rw [hd4] at this
    exact this
   have hfin:=comp_ok (r:=r) (wv':=wv') (y:=y) (a0:=a0) hC.g hd hb hin hmin (by rw [← hd1]; exact hP) hPno hplne (by rw [hbw,hd1] at hO; exact hO) (by rw [hcl',hd1c]) hnd4 (by rw [hy]) (by rw [hy]) (by rw [hy]) (by rw [hn,hd1c] at hpn; exact hpn)
   simp
   refine .inl ⟨rfl,d4,y,ps7,by rw [hd4],by rw [hd4],by rw [hy],?_,?_,?_,?_,fun p hp=>hps7 _ (.tail _ (hps4 p hp)),?_,h17⟩
   ·rcases Classical.em (∃ z,StN T.vars z∧P0 z=true) with ⟨z,hz,hz2⟩ | hno
    ·refine ⟨z,hz,?_⟩
     rw [hy]
     show Al z=true
     obtain ⟨p,hp0⟩:∃ p,pl[0]?=some p:=⟨_,List.getElem?_eq_getElem (by cases pl with | nil=>exact absurd rfl hplne | cons _ _=>simp)⟩
     have h1:=hP.hd
     rw [List.getElem?_append_left (by simp; exact (List.getElem?_eq_some_iff.1 hp0).1),List.getElem?_map,hp0] at h1
     simp at h1
     exact (hP.al z hz).2 (.inl ⟨p,List.mem_of_getElem? hp0,by rw [h1]; exact hz2⟩)
    ·exfalso
     apply ha0
     rw [h.zero (hk.opn _ hin)]
     intro z hz
     cases e:P0 z with
     | false=>exact e
     | true=>exact absurd ⟨z,by rw [← hC.alk.vars]; exact hz,e⟩ hno
   ·rw [hd4]; exact hfin.1
   ·rw [hd4]; exact hfin.2.1
   ·rw [hd4]; exact hfin.2.2
   ·rw [hd4]
    refine ⟨hps7 _ (.head _),fun u hu=>?_,hopk7⟩
    rcases List.mem_append.1 hu with hu | hu
    ·exact ⟨hps7 _ (.tail _ (hps4 _ (hk.all u hu).1)),fun p hp=>hps7 _ (.tail _ (hps4 _ ((hk.all u hu).2 p hp)))⟩
    ·rcases List.mem_singleton.1 hu with rfl
     rw [hy]
     exact ⟨hps7 _ (.tail _ hai4),fun p hp=>hps7 _ (.tail _ (hpl4 p hp))⟩
 ·have hb0:(((pi:Nat):Int) != 0)=true:=by
   rw [bne,Bool.not_eq_true']
   exact beq_eq_false_iff_ne.2 (by omega)
  simp [g0,g1,g5,g6,hb0,cell_blk ow8]
  have hPne:∃ z,StN T.vars z∧Pp z=true:=by
   rcases Classical.em (∃ z,StN T.vars z∧Pp z=true) with h9 | h9
   ·exact h9
   ·exfalso
    apply hpi
    rw [h8.zero hpi4]
    intro z hz
    cases e:Pp z with
    | false=>rfl
    | true=>exact absurd ⟨z,by rw [← hC.alk.vars]; exact hz,e⟩ h9
  unfold CoA at h8
  refine (h8.by Imp.sw).app (cs:=#[.int .i64 (pi:Nat)]) (xs:=[pi]) (Lcl.obj.star hL1) nE_len nE_one sl_22 (by simp [nE]) rfl (by simp; omega) (by simp; unfold maxLen; omega) fun pv' w5 h9=>?_
  have ho9:oneC pv'=true:=h9.frame (Rds.own1:Rds (Star (OwnA pv' 3 1 nE (pl.map (·.1) ++ [pi])) (Star (ObjA wb (wvO c pv ai)) (SdA x T s d1 B))) fun _=>oneC pv'=true)
  simp [g0,g1,g5,g6,hb0,cells_o1 ho9]
  have h10:=h9.by Imp.sw
  refine FsA.st (Lcl.own.star hL1) h10 (by simp [wvO]) (by simp [ho9]) fun w6 h11=>?_
  replace h11:FsA s m lim T' q ps4 (CoA T s x wb c ai pv' (pl ++ [(pi,Pp)]) d1 B) w F w6:=by
   unfold CoA
   simpa [wvO] using h11
  have ow11:=h11.obj
  unfold wvO at ow11
  simp [g0,g1,g5,g6,hb0,cell_blk ow11]
  refine cl_of (bzero_spec x pi ai d1 Pp Al hC (hCL _ _ _) h11 (hcR _ _ _) (hcT _ _ _) (hk1.mono hps4) (hps4 _ h0) hpi4 hai4) ?_
  rintro _ w7 (⟨r,rfl,ps7,hps7,hr7,h12⟩ | ⟨rfl,hf,h12⟩)
  rotate_left
  ·simp [berrV]
   exact .inr ⟨rfl,hf,d1,by rw [hd1],h12.drop.drop⟩
  have ow12:=h12.obj
  unfold wvO at ow12
  have ox12:=(h12.frame (hcR _ _ _)).obj
  unfold sdO at ox12
  have h12d:=h12.drew (hCL _ _ _)
  simp [g0,g1,g5,g6,hb0,cell_blk ow12,cell_blk ox12]
  refine cl_of (f_union ai r Al _ hC.cap (hCL _ _ _) h12d (hps7 _ hai4) hr7) ?_
  rintro _ w8 (⟨r2,rfl,h13⟩ | ⟨rfl,hf,h13⟩)
  ·simp [g0,g1,g5,g6,hb0]
   unfold CoA at h13
   refine FsA.st (Lcl.own.star hL1) h13 (by simp [wvO]) (by simp) fun w9 h14=>?_
   replace h14:FsA s m lim T' q ((r2,fun z=>Al z || zrP T d1 Pp Al T.ops.length z) :: ps7) (CoA T s x wb c r2 pv' (pl ++ [(pi,Pp)]) d1 B) w F w9:=by
    unfold CoA
    simpa [wvO] using h14
   have hlt:=cntR_step (pi:=pi) hP hPne
   simp [g0,g1,g5,g6,hb0]
   refine ⟨cntR T d1.cl (pl ++ [(pi,Pp)]),by omega,r,r2,pv',pl ++ [(pi,Pp)],_,_,_,by simp [g0],by simp [g1],by simp [g5],by simp,hP.step hC.g,rfl,by simp; omega,fun p hp=>.tail _ (hps7 _ (hps4 p hp)),.tail _ hr7,.head _,fun p hp=>?_,fun e=>by simp at e,h14⟩
   rcases List.mem_append.1 hp with hp | hp
   ·exact .tail _ (hps7 _ (hpl4 p hp))
   ·rcases List.mem_singleton.1 hp with rfl
    exact .tail _ (hps7 _ hpi4)
  ·simp [berrV,g0,g1,g5,g6,hb0]
   unfold CoA at h13
   refine At.st (Lcl.own.star hL1) h13 (by simp [wvO]) (by simp) fun w9 h14=>?_
   simp [g0,g1,g5,g6,hb0]
   exact .inr ⟨rfl,hf,d1,by rw [hd1],h14.drop.drop⟩
end
end Go.Proofs.YtkhfdmelcpfgoaaGreat
end
section
set_option maxRecDepth 100000
set_option linter.unusedSimpArgs false
set_option linter.unusedVariables false
namespace Go.Proofs.YtkhfdmelcpfgoaaGreat
open Go Go.W Go.Tk Go.Rx Go.Bd Go.Sy Go.Maps
def stP (T:Nt) (bw:Bool) (z:List Nat):Bool:=if bw=true then hdB z T.goal else decide (z=T.init)
theorem good_goal {T:Nt} (h:goodB T.raw=true):propF (T.vars.map iN) (T.goal.map faN)=true:=by
 unfold goodB at h
 simp only [Bool.and_eq_true] at h
 exact h.1.2
theorem init_st {T:Nt} (h:NtG T):StN T.vars T.init:=⟨h.ilen,fun v hv=>h.init v (by rw [h.ilen]; exact hv)⟩
section
variable {w w1:World} {F:List Nat} {A B B':Asr} {s m lim:Nat} {T T':Nt} {q:SpC} {ps:List Kq}
theorem FsA.newmap (hB:Lcl B) (h:FsA s m lim T' q ps B w F w1):FsA s m lim T' q ps (Star (MapA w1.heap.size natV kpV i64ok ([]:List (Nat × Kq))) B) w F (w1.alloc (.map #[] 0)):=by
 obtain ⟨ns,ks,ss,hG,hk1,hA⟩:=h
 exact ⟨ns,ks,ss,hG,hk1,SpcA.into (hA.newmap (SpcA.lcl hB))⟩
theorem FsA.putA {KW:Kont World} {c b:Nat} {p:Kq} {l:List (Nat × Kq)} (hB:Lcl B) (h:FsA s m lim T' q ps (Star (MapA b natV kpV i64ok l) B) w F w1) (hc:i64ok c) (hl:l.length≤2000000)
  (H:∀ w2,FsA s m lim T' q ps (Star (MapA b natV kpV i64ok (Go.W.putM l c p)) B) w F w2→KW.run w2):@efuH Tryz.prog (Instr.mapUpdate 76 (.map (some b)) (natV c) (kpV p)) w1 KW:=by
 obtain ⟨ns,ks,ss,hG,hk1,hA⟩:=h
 exact At.put (x:=c) (v:=p) (SpcA.lcl hB) (SpcA.out hA) bkeyI Tryz.underlying76 hc (by unfold maxLen; omega) fun w2 h2=>H w2 ⟨ns,ks,ss,hG,hk1,SpcA.into h2⟩
def NewSR (s m lim:Nat) (T T':Nt) (q:SpC) (ps:List Kq) (B:Asr) (w:World) (F:List Nat) (bw:Bool) (v:Value) (w':World):Prop :=
 (∃ x d a ps',v=.tuple #[.pointer (some ⟨x,0,none⟩),.nilIface]∧d.bw=bw∧d.wl=[]∧d.cl=(fun _=>false)∧d.opn=[(0,(a,stP T bw))]∧(∀ p ∈ ps,p ∈ ps')∧SdK ps' d∧FsA s m lim T' q ps' (SdA x T s d B) w F w') ∨
 (v=.tuple #[.pointer none,berrV 10]∧Full T' lim∧At w F B w')
theorem FsA.vnil {α:Type} {enc:α→List Value} (hB:Lcl B) (h:FsA s m lim T' q ps B w F w1):FsA s m lim T' q ps (Star (VwsA enc ([]:List (Cell1 × List α))) B) w F w1:=by
 obtain ⟨ns,ks,ss,hG,hk1,hA⟩:=h
 exact ⟨ns,ks,ss,hG,hk1,SpcA.into (VwsA.nil (SpcA.lcl hB) hA)⟩
theorem new_fin {bw:Bool} {a om tb:Nat} (hB:Lcl B) (h0:(0,fun _=>false) ∈ ps) (h:FsA s m lim T' q ((a,stP T bw) :: ps) (Star (MapA om natV kpV i64ok [(0,((a,stP T bw):Kq))]) (Star (ObjA tb (ntO T)) B)) w F w1) :
  NewSR s m lim T T' q ps B w F bw (.tuple #[.pointer (some ⟨w1.heap.size,0,none⟩),.nilIface]) (w1.alloc (.cells #[T.vv.1,T.nv.1,T.gv.1,T.ov.1,.pointer (some ⟨s,0,none⟩),.bool bw,.slice none 0 0,.int .i64 0,.map (some om)] 78)):=by
 obtain ⟨d,hd⟩:∃ d:Sd,d=⟨bw,.slice none 0 0,[],0,fun _=>false,om,[(0,((a,stP T bw):Kq))]⟩:=⟨_,rfl⟩
 refine .inl ⟨w1.heap.size,d,a,(a,stP T bw) :: ps,rfl,by rw [hd],by rw [hd],by rw [hd],by rw [hd],fun p hp=>.tail _ hp,?_,?_⟩
 ·rw [hd]
  exact ⟨.tail _ h0,fun y hy=>(by cases hy),fun p hp=>by rcases List.mem_singleton.1 hp with rfl; exact .head _⟩
 ·have h1:=h.by (Imp.un Imp.dr)
  have hL1:Lcl (Star (MapA om natV kpV i64ok [(0,((a,stP T bw):Kq))]) B):=Lcl.map.star hB
  have h2:=FsA.vnil (enc:=nE) hL1 h1
  have h3:=FsA.nil (enc:=wmE) (E:=74) (sz:=3) (Lcl.vws.star hL1) h2
  have h4:=h3.alloc (sdO T s d) (Lcl.own.star (Lcl.vws.star hL1))
  rw [hd] at h4 ⊢
  unfold SdA
  exact h4
set_option maxHeartbeats 1000000 in
theorem bnewSide_spec (bw:Bool) (hC:BC T T' lim) (hB:Lcl B) (h:FsA s m lim T' q ps B w F w1) (hT:Rds B fun w'=>NtR w' T) (hgd:goodB T.raw=true) (h0:(0,fun _=>false) ∈ ps) :
  Calls Tryz.prog 29 [ntV T,.pointer (some ⟨s,0,none⟩),.bool bw].toArray w1 fun en w'=>∃ v,en=.returned v∧NewSR s m lim T T' q ps B w F bw v w':=by
 refine enter Tryz.func29 mixed low29 (Nat.le_of_ble_eq_true rfl) ?_
 simp only [L29]
 obtain ⟨tb,htb⟩:∃ tb,tb=w1.heap.size:=⟨_,rfl⟩
 obtain ⟨w2,hw2⟩:∃ w2,w2=w1.alloc (ntO T):=⟨_,rfl⟩
 have hw2':w1.alloc (.cells #[T.vv.1,T.nv.1,T.gv.1,T.ov.1] 26 (0,0))=w2:=by rw [hw2]; rfl
 have h2:FsA s m lim T' q ps (Star (ObjA tb (ntO T)) B) w F w2:=by rw [htb,hw2]; exact h.alloc _ hB
 have hLt:Lcl (Star (ObjA tb (ntO T)) B):=Lcl.obj.star hB
 have ot:=h2.obj
 unfold ntO at ot
 have hst:StN T'.vars T.init:=by rw [hC.alk.vars]; exact init_st hC.g
 have hgl:FcOk T'.vars T.goal:=by rw [hC.alk.vars]; exact hC.g.goal
 have hgp:propF (T'.vars.map iN) (T.goal.map faN)=true:=by rw [hC.alk.vars]; exact good_goal hgd
 have hrg:Rds (Star (ObjA tb (ntO T)) B) fun w'=>Vw w' T.gv.1 fcE T.goal:=fun w' F' hs=>((Rds.star hT) w' F' hs).goal
 have hri:Rds (Star (ObjA tb (ntO T)) B) fun w'=>Vw w' T.nv.1 nE T.init:=fun w' F' hs=>((Rds.star hT) w' F' hs).init
 simp [ntV,← htb,hw2']
 cases bw with
 | true =>
  simp [cell_blk ot]
  refine cl_of (f_partial T.gv.1 T.goal hC.cap hLt h2 hrg hgp hgl) ?_
  rintro _ w3 (⟨a,rfl,h3⟩ | ⟨rfl,hf,h3⟩)
  rotate_left
  ·simp [berrV]
   exact .inr ⟨rfl,hf,h3.drop⟩
  have ot3:=h3.obj
  unfold ntO at ot3
  have rt3:=rd_c4 ot3
  simp [rt3]
  refine ins_mk ?_
  simp
  have est:(fun z=>hdB z T.goal)=stP T true:=funext fun z=>by simp [stP]
  rw [est] at h3
  have hm3:=h3.newmap hLt
  refine FsA.putA (c:=0) (p:=((a,stP T true):Kq)) hLt hm3 (by unfold i64ok; omega) (by simp) fun w5 h5=>?_
  simp
  exact new_fin (bw:=true) hB h0 (by simpa [Go.W.putM] using h5)
 | false =>
  simp [cell_blk ot]
  refine cl_of (f_single T.nv.1 T.init hC.cap hLt h2 hri hst) ?_
  rintro _ w3 (⟨a,rfl,h3⟩ | ⟨rfl,hf,h3⟩)
  rotate_left
  ·simp [berrV]
   exact .inr ⟨rfl,hf,h3.drop⟩
  have ot3:=h3.obj
  unfold ntO at ot3
  have rt3:=rd_c4 ot3
  simp [rt3]
  refine ins_mk ?_
  simp
  have est:(fun z=>decide (z=T.init))=stP T false:=funext fun z=>by simp [stP]
  rw [est] at h3
  have hm3:=h3.newmap hLt
  refine FsA.putA (c:=0) (p:=((a,stP T false):Kq)) hLt hm3 (by unfold i64ok; omega) (by simp) fun w5 h5=>?_
  simp
  exact new_fin (bw:=false) hB h0 (by simpa [Go.W.putM] using h5)
end
end Go.Proofs.YtkhfdmelcpfgoaaGreat
end
section
set_option maxRecDepth 100000
set_option linter.unusedSimpArgs false
set_option linter.unusedVariables false
namespace Go.Proofs.YtkhfdmelcpfgoaaGreat
open Go Go.W Go.Tk Go.Rx Go.Bd Go.Sy Go.Maps
def knE (p:Nat × Kq):List Value:=[.int .i64 (p.2.1:Nat),.int .i64 (p.1:Nat)]
theorem knE_len (p:Nat × Kq):(knE p).length=2:=rfl
theorem knE_one (p:Nat × Kq):(knE p).all oneC=true:=rfl
def WtL (o L:List (Nat × Kq)):Prop:=∀ p,p ∈ L↔p ∈ o
def WtI (w:World) (x:Nat) (d:Sd) (lv:Value) (L:List Nat) (k:Nat) (ρ:Env) (w':World):Prop :=
 ρ 0=.pointer (some ⟨x,0,none⟩)∧ρ 11=lv∧∃ acc:List (Nat × Kq),acc.map (·.1)=L.take k∧(∀ p ∈ acc,p ∈ d.opn)∧At w [] (Star (OwnA (ρ 3) 149 2 knE acc) (Star (OwnA lv 3 1 nE L) Emp)) w'
set_option maxHeartbeats 1000000 in
theorem bwaiting_spec {w:World} (x s:Nat) (T:Nt) (d:Sd) (hx:SdR w x T s d) (hv:∀ p ∈ d.opn,p.2.1≤2000000) (hl:d.opn.length≤1000000) :
  Calls Tryz.prog 91 [.pointer (some ⟨x,0,none⟩)].toArray w fun e w'=>∃ v,e=.returned v∧∃ L:List (Nat × Kq),WtL d.opn L∧L.length≤1000000∧At w [] (Star (OwnA v 149 2 knE L) Emp) w':=by
 refine enter Tryz.func91 mixed low91 (Nat.le_of_ble_eq_true rfl) ?_
 simp only [L91]
 have ox:=hx.obj
 unfold sdO at ox
 have hnd:=MapM.nodup hx.map
 have h0:At w [] Emp w:=At.start rfl
 simp [cell_blk ox]
 refine cl_of (bkeys_call d.om w) ?_
 rintro _ _ ⟨rfl,rfl⟩
 simp
 refine cl_of (bsorted_call hx.map hv (by omega)) ?_
 rintro lv w2 ⟨L,hL,ho,hlow,k2⟩
 have h2:At w [] (Star (OwnA lv 3 1 nE L) Emp) w2:=h0.more Lcl.emp k2 ⟨lv.own,⟨ho,rfl⟩,hlow⟩
 have hLl:L.length≤1000000:=by
  have:=nodup_len L (d.opn.map (·.1)) (List.nodup_iff_pairwise_ne.2 (hL.1.imp fun h=>Nat.ne_of_lt h)) fun x hx=>(hL.2 x).1 hx
  simp at this
  omega
 have h3:=At.nil (enc:=knE) (E:=149) (sz:=2) (Lcl.own.star Lcl.emp) h2
 simp [ho.len]
 refine range_loop (n:=L.length) (by omega) (WtI w x d lv L) (by simp) (by simp)
  ⟨by simp,by simp,[],by simp,fun p hp=>(by cases hp),by simpa using h3⟩ (by decide) (fun _ _ _ _ h=>by simpa [WtI] using h) (fun _ _ _ _ h=>by simpa [WtI] using h) ?_ ?_
 ·rintro k ρ w3 hk3 hc hlm ⟨g0,g11,acc,hacc,hin,h4⟩
  obtain ⟨uv,huv⟩:∃ uv,uv=ρ 3:=⟨_,rfl⟩
  have g3:=huv.symm
  rw [g3] at h4
  obtain ⟨c,hLc⟩:∃ c,L[k]?=some c:=⟨_,List.getElem?_eq_getElem hk3⟩
  have hlv:=h4.drop.own.vw
  have ec:=nE_cell hlv hLc
  have hki:(k:Int) < L.length:=by omega
  have hx4:=hx.kp h4.2
  have ox4:=hx4.obj
  unfold sdO at ox4
  obtain ⟨pc,hpc,hpc1⟩:=List.mem_map.1 ((hL.2 c).1 (List.mem_of_getElem? hLc))
  obtain ⟨c',a,P⟩:=pc
  have hpc1:c'=c:=hpc1
  subst hpc1
  have hget:getM d.opn c'=some (a,P):=(getM_kv hnd).2 hpc
  have hca:i64ok c':=by
   obtain ⟨es,clock,_,_,_,hok,_⟩:=hx.map
   exact hok _ hpc
  have hal:acc.length≤1000000:=by
   have:=congrArg List.length hacc
   simp at this
   omega
  simp (disch:=omega) [g0,g11,g3,hc,hlm,hlv.idx,ec,cell_blk ox4]
  refine MapM.look1 (x:=c') hx4.map bkeyI Tryz.underlying76 zint hca ?_
  simp [hget,kpV,g0,g11,g3,hc,hlm]
  have h5:=h4.kp0 (Lcl.own.star (Lcl.own.star Lcl.emp)) ((Kp.refl [] w3).alloc (.cells #[.int .i64 (a:Nat),.int .i64 (c':Nat)] 149))
  refine At.append (xs:=[(c',((a,P):Kq))]) (Lcl.own.star Lcl.emp) h5 knE_len knE_one sl_146 rfl (fun j u hj=>?_) (by omega) (by unfold maxLen; omega) fun v' w6 h6=>?_
  ·rw [add_none,cell_blk alloc_new]
   simpa [knE] using hj
  simp [g0,g11,hc,hlm]
  refine ⟨by simp [g0],by simp [g11],acc ++ [(c',((a,P):Kq))],?_,fun p hp=>?_,by simpa using h6⟩
  ·rw [take_snoc hLc,List.map_append,hacc]
   rfl
  ·rcases List.mem_append.1 hp with hp | hp
   ·exact hin p hp
   ·rcases List.mem_singleton.1 hp with rfl
    exact hpc
 ·rintro ρ w3 ⟨g0,g11,acc,hacc,hin,h4⟩
  rw [List.take_length] at hacc
  simp
  refine ⟨acc,fun p=>⟨hin p,fun hp=>?_⟩,?_,h4.by (Imp.un Imp.dr)⟩
  ·have:p.1 ∈ acc.map (·.1):=by rw [hacc]; exact (hL.2 _).2 (List.mem_map.2 ⟨p,hp,rfl⟩)
   obtain ⟨p',hp',e⟩:=List.mem_map.1 this
   have e1:=(getM_kv hnd).2 (show (p'.1,p'.2) ∈ d.opn from hin p' hp')
   have e2:=(getM_kv hnd).2 (show (p.1,p.2) ∈ d.opn from hp)
   rw [e,e2] at e1
   have e3:=Option.some.inj e1
   have:p'=p:=by
    obtain ⟨p1,p2⟩:=p
    obtain ⟨q1,q2⟩:=p'
    simp at e e3
    rw [e,e3]
   rw [← this]
   exact hp'
  ·have:=congrArg List.length hacc
   simp at this
   omega
end Go.Proofs.YtkhfdmelcpfgoaaGreat
end
section
set_option maxRecDepth 100000
set_option linter.unusedSimpArgs false
set_option linter.unusedVariables false
namespace Go.Proofs.YtkhfdmelcpfgoaaGreat
open Go Go.W Go.Tk Go.Rx Go.Bd Go.Sy Go.Maps
def resO (v:Nat) (p:Value) (c e:Nat):Obj:=.cells #[.int .i64 (v:Nat),p,.int .i64 (c:Nat),.int .i64 (e:Nat)] 38 (0,0)
def resV (v:Nat) (p:Value) (c e:Nat):Value:=.agg #[.int .i64 (v:Nat),p,.int .i64 (c:Nat),.int .i64 (e:Nat)]
abbrev StepT (T:Nt) (op:Nat) (x y:List Nat):Prop:=EB T false op x y
abbrev GoalT (T:Nt) (z:List Nat):Prop:=hdB z T.goal=true
abbrev LoT (T:Nt) (H:List Nat→Nat):Prop:=Go.Bi.Lo (StN T.vars) (StepT T) (kB T) (GoalT T) H
def ResOk (T:Nt) (lim:Nat) (vd:Nat) (out:List Nat) (c:Nat):Prop :=
 (vd=3∧out=[]∧c=0∧Full T lim)∨(vd=2∧out=[]∧c=0∧∀ I,∃ H,LoT T H∧(∀ z,StN T.vars z→H z≤I)∧H T.init=I) ∨
 (vd=1∧c≤2000000000∧(∃ z,GoalT T z∧RunT T T.init out z c)∧∃ H,LoT T H∧(∀ z,StN T.vars z→H z≤c)∧H T.init=c)
theorem full_alk {T T':Nt} {lim:Nat} (h:Alk T T') (hf:Full T' lim):Full T lim:=by
 unfold Full at hf ⊢
 rw [h.vars] at hf
 exact hf
structure SiC (T:Nt) (lim:Nat):Prop where
 g:NtG T
 good:goodB T.raw=true
 l:TkL T.raw
 l1:1≤lim
 l2:lim≤1048576
 cap:Cap T lim
 ol:T.ops.length≤20
 nN:nSt T≤512
 nb:nBits T.vars≤100
theorem ic_errno:intC Tryz.prog 46=true:=by kernel_rfl
theorem bd_new {T:Nt} {d:Sd} {a:Nat} {P:List Nat→Bool} (h1:T.ops.length≤20) (h2:nSt T≤512) (hw:d.wl=[]) (ho:d.opn=[(0,((a,P):Kq))]):SdBd T d:=by
 have hc:cntC T d.cl≤nSt T:=List.countP_le_length
 refine ⟨h1,h2,by rw [hw]; simpa using hc,by rw [hw]; simpa using hc,fun p hp=>?_,fun y hy=>(by rw [hw] at hy; cases hy),by rw [ho,hw]; simp⟩
 rw [ho] at hp
 rcases List.mem_singleton.1 hp with rfl
 exact Nat.zero_le _
structure SiD (T:Nt) (bw:Bool) (ps:List Kq) (d:Sd) (en n:Nat):Prop where
 dbw:d.bw=bw
 z0:(0,fun _=>false) ∈ ps
 en:(en,stP T (!bw)) ∈ ps
 k:SdK ps d
 g:SdG T (fun z=>stP T bw z=true) d
 b:SdBd T d
 no:∀ y ∈ d.wl,∀ z,StN T.vars z→stP T (!bw) z=true→y.all z=false
 n:n=cntC T d.cl+1
theorem none_inf {T:Nt} {bw:Bool} {ps:List Kq} {d:Sd} {en n:Nat} (hg:NtG T) (hD:SiD T bw ps d en n) (hno:NoneOk T.vars d) (I:Nat):∃ H,LoT T H∧(∀ z,StN T.vars z→H z≤I)∧H T.init=I:=by
 have hd:=hno.ok hD.g
 have hb:=hD.dbw
 cases bw with
 | true =>
  refine ⟨fun z=>if d.cl z=true then 0 else I,⟨fun z hz h=>?_,fun op x y hx hy he=>?_⟩,fun z _=>by show (if _ then _ else _)≤_; split <;> omega,?_⟩
  ·show (if _ then _ else _)=_
   rcases hd.st z hz (by simpa [stP] using h) with ⟨w,hw,e,_⟩ | ⟨p,hp,_⟩
   ·rw [if_pos ((hd.cl z hz).2 ⟨w,hw,e⟩)]
   ·cases hp
  ·show (if _ then _ else _)≤(if _ then _ else _)+_
   by_cases e:d.cl y=true
   ·obtain ⟨w,hw,e2⟩:=(hd.cl y hy).1 e
    have he2:EB T d.bw op y x:=by rw [hb]; exact EB.flip (bw:=true) he
    rcases hd.out w hw y op x e2 hx he2 with ⟨w',hw',e',_⟩ | ⟨p,hp,_⟩
    ·rw [if_pos ((hd.cl x hx).2 ⟨w',hw',e'⟩)]; omega
    ·cases hp
   ·rw [if_neg e]
    split <;> omega
  ·show (if _ then _ else _)=_
   rw [if_neg]
   intro e
   obtain ⟨w,hw,e2⟩:=(hd.cl _ (init_st hg)).1 e
   obtain ⟨u,hu,rfl⟩:=List.mem_map.1 hw
   have h1:=hD.no u hu T.init (init_st hg) (by simp [stP])
   have h2:u.all T.init=true:=e2
   rw [h1] at h2
   cases h2
 | false =>
  have hd2:Go.Bi.SdOk (StN T.vars) (StepT T) (kB T) (fun z=>stP T false z=true) (d.wl.map wmW) d.cl []:=by
   have h1:=hd
   simp only [hb] at h1
   exact h1
  obtain ⟨H,h1,h2,h3⟩:=Go.Bi.fwd_inf (G:=GoalT T) hd2 (fun w hw z hz hgz=>by
   obtain ⟨u,hu,rfl⟩:=List.mem_map.1 hw
   exact hD.no u hu z hz (by simpa [stP] using hgz)) I
  exact ⟨H,h1,fun z _=>h2 z,h3 T.init (init_st hg) (by simp [stP])⟩
section
variable {w w1:World} {F:List Nat} {A B B':Asr} {lim:Nat} {T:Nt}
end
end Go.Proofs.YtkhfdmelcpfgoaaGreat
end
section
set_option maxRecDepth 100000
set_option linter.unusedSimpArgs false
set_option linter.unusedVariables false
namespace Go.Proofs.YtkhfdmelcpfgoaaGreat
open Go Go.W Go.Tk Go.Rx Go.Bd Go.Sy Go.Maps
structure Mt where
 sv:Value
 st:List Nat
 f:Nat
 a:Nat
 fd:Bool
def mtO (M:Mt):Obj:=.cells #[M.sv,.int .i64 (M.f:Nat),.int .i64 (M.a:Nat),.bool M.fd] 118 (0,0)
def MtA (mb:Nat) (M:Mt) (B:Asr):Asr:=Star (ObjA mb (mtO M)) (Star (OwnA M.sv 3 1 nE M.st) B)
theorem MtA.lcl {mb:Nat} {M:Mt} {B:Asr} (hB:Lcl B):Lcl (MtA mb M B):=Lcl.obj.star (Lcl.own.star hB)
def MtStep (vars:List Nat) (M M':Mt) (P:List Nat→Bool) (ca:Nat) (Q:List Nat→Bool) (cb:Nat):Prop :=
 (M'=M∧((M.fd=true∧M.f+M.a≤ca+cb)∨∀ z,StN vars z→P z=true→Q z=true→False)) ∨
 (M'.fd=true∧M'.f=ca∧M'.a=cb∧StN vars M'.st∧P M'.st=true∧Q M'.st=true∧¬ (M.fd=true∧M.f+M.a≤ca+cb))
section
variable {w w1:World} {F:List Nat} {A B B':Asr} {s m lim:Nat} {T T':Nt} {q:SpC} {ps:List Kq}
def MeetR (s m lim:Nat) (T T':Nt) (q:SpC) (ps:List Kq) (B:Asr) (w:World) (F:List Nat) (mb:Nat) (M:Mt) (P:List Nat→Bool) (ca:Nat) (Q:List Nat→Bool) (cb:Nat) (v:Value) (w':World):Prop :=
 (v=.nilIface∧∃ M' ps',(∀ p ∈ ps,p ∈ ps')∧MtStep T.vars M M' P ca Q cb∧FsA s m lim T' q ps' (MtA mb M' B) w F w')∨(v=berrV 10∧Full T' lim∧∃ M',At w F (MtA mb M' B) w')
set_option maxHeartbeats 1000000 in
theorem bmeet_spec (mb a ca b cb:Nat) (M:Mt) (P Q:List Nat→Bool) (hC:BC T T' lim) (hB:Lcl B) (h:FsA s m lim T' q ps (MtA mb M B) w F w1) (ha:(a,P) ∈ ps) (hb:(b,Q) ∈ ps) (h1:ca≤600000000) (h2:cb≤600000000) (h3:M.f≤600000000) (h4:M.a≤600000000) :
  Calls Tryz.prog 92 [.pointer (some ⟨mb,0,none⟩),.pointer (some ⟨s,0,none⟩),.int .i64 (a:Nat),.int .i64 (ca:Nat),.int .i64 (b:Nat),.int .i64 (cb:Nat)].toArray w1 fun en w'=>∃ v,en=.returned v∧MeetR s m lim T T' q ps B w F mb M P ca Q cb v w':=by
 refine enter Tryz.func92 mixed low92 (Nat.le_of_ble_eq_true rfl) ?_
 simp only [L92]
 have hLm:Lcl (MtA mb M B):=MtA.lcl hB
 have hd:=h.drew hLm
 have om:=h.obj
 unfold mtO at om
 have rest:¬ (M.fd=true∧M.f+M.a≤ca+cb)→∀ w2,FsA s m lim T' q ps (MtA mb M B) w F w2→∀ v w3,OpR s m lim T' q ps (MtA mb M B) w F (fun z=>P z && Q z) v w3→True:=fun _ _ _ _ _ _=>trivial
 by_cases hf:M.fd=true∧M.f+M.a≤ca+cb
 ·obtain ⟨hf1,hf2⟩:=hf
  have hle:((M.f:Int)+(M.a:Int)≤(ca:Int)+(cb:Int)):=by omega
  rw [hf1] at om
  simp (disch:=omega) [cell_blk om,wrap_i64,hle]
  exact .inl ⟨rfl,M,ps,fun _ h=>h,.inl ⟨rfl,.inl ⟨hf1,hf2⟩⟩,hd⟩
 ·cases hfd:M.fd with
  | true =>
   rw [hfd] at om
   have hle:¬ ((M.f:Int)+(M.a:Int)≤(ca:Int)+(cb:Int)):=fun h=>hf ⟨hfd,by omega⟩
   simp (disch:=omega) [cell_blk om,wrap_i64,hle]
   refine cl_of (f_intersect a b P Q hC.cap hLm hd ha hb) ?_
   rintro _ w2 (⟨r,rfl,h5⟩ | ⟨rfl,hfl,h5⟩)
   rotate_left
   ·simp [berrV]
    exact .inr ⟨rfl,hfl,M,h5⟩
   by_cases hr:r=0
   ·have hb0:(((r:Nat):Int) == 0)=true:=by rw [hr]; rfl
    have hz:=(h5.zero (.head _)).1 hr
    simp [hb0]
    refine .inl ⟨rfl,M,_,fun p hp=>.tail _ hp,.inl ⟨rfl,.inr fun z hz1 e1 e2=>?_⟩,h5⟩
    have h6:(P z && Q z)=false:=hz z (by rw [hC.alk.vars]; exact hz1)
    rw [e1,e2] at h6
    cases h6
   ·have hb0:(((r:Nat):Int) == 0)=false:=beq_eq_false_iff_ne.2 (by omega)
    simp [hb0]
    refine cl_of (f_pick r _ hLm h5 (.head _) hr) ?_
    rintro _ w3 ⟨u,st,rfl,hst,hPQ,h6⟩
    rw [hC.alk.vars] at hst
    have hPQ':(P st && Q st)=true:=hPQ
    rw [Bool.and_eq_true] at hPQ'
    have huo:oneC u=true:=h6.frame (Rds.own1:Rds (Star (OwnA u 3 1 nE st) (MtA mb M B)) fun _=>oneC u=true)
    simp [cells_o1 huo]
    unfold MtA at h6
    have h7:=h6.by Imp.sw
    unfold mtO at h7
    refine FsA.st (Lcl.own.star (Lcl.own.star hB)) h7 (by simp) (by simp [huo]) fun w4 h8=>?_
    simp
    refine .inl ⟨rfl,⟨u,st,ca,cb,true⟩,(r,fun z=>P z && Q z) :: ps,fun p hp=>.tail _ hp,.inr ⟨rfl,rfl,rfl,hst,hPQ'.1,hPQ'.2,hf⟩,?_⟩
    unfold MtA mtO
    have h9:=h8.by (Imp.un (Imp.un Imp.dr))
    simpa using h9
  | false =>
   rw [hfd] at om
   simp (disch:=omega) [cell_blk om,wrap_i64]
   refine cl_of (f_intersect a b P Q hC.cap hLm hd ha hb) ?_
   rintro _ w2 (⟨r,rfl,h5⟩ | ⟨rfl,hfl,h5⟩)
   rotate_left
   ·simp [berrV]
    exact .inr ⟨rfl,hfl,M,h5⟩
   by_cases hr:r=0
   ·have hb0:(((r:Nat):Int) == 0)=true:=by rw [hr]; rfl
    have hz:=(h5.zero (.head _)).1 hr
    simp [hb0]
    refine .inl ⟨rfl,M,_,fun p hp=>.tail _ hp,.inl ⟨rfl,.inr fun z hz1 e1 e2=>?_⟩,h5⟩
    have h6:(P z && Q z)=false:=hz z (by rw [hC.alk.vars]; exact hz1)
    rw [e1,e2] at h6
    cases h6
   ·have hb0:(((r:Nat):Int) == 0)=false:=beq_eq_false_iff_ne.2 (by omega)
    simp [hb0]
    refine cl_of (f_pick r _ hLm h5 (.head _) hr) ?_
    rintro _ w3 ⟨u,st,rfl,hst,hPQ,h6⟩
    rw [hC.alk.vars] at hst
    have hPQ':(P st && Q st)=true:=hPQ
    rw [Bool.and_eq_true] at hPQ'
    have huo:oneC u=true:=h6.frame (Rds.own1:Rds (Star (OwnA u 3 1 nE st) (MtA mb M B)) fun _=>oneC u=true)
    simp [cells_o1 huo]
    unfold MtA at h6
    have h7:=h6.by Imp.sw
    unfold mtO at h7
    refine FsA.st (Lcl.own.star (Lcl.own.star hB)) h7 (by simp) (by simp [huo]) fun w4 h8=>?_
    simp
    refine .inl ⟨rfl,⟨u,st,ca,cb,true⟩,(r,fun z=>P z && Q z) :: ps,fun p hp=>.tail _ hp,.inr ⟨rfl,rfl,rfl,hst,hPQ'.1,hPQ'.2,hf⟩,?_⟩
    unfold MtA mtO
    have h9:=h8.by (Imp.un (Imp.un Imp.dr))
    simpa using h9
end
end Go.Proofs.YtkhfdmelcpfgoaaGreat
end
section
set_option maxRecDepth 100000
set_option linter.unusedSimpArgs false
set_option linter.unusedVariables false
namespace Go.Proofs.YtkhfdmelcpfgoaaGreat
open Go Go.W Go.Tk Go.Rx Go.Bd Go.Sy Go.Maps
def cF (bw:Bool) (ca cb:Nat):Nat:=if bw=true then cb else ca
def cA (bw:Bool) (ca cb:Nat):Nat:=if bw=true then ca else cb
def Cov (vars:List Nat) (M:Mt) (pa pb:Nat × Kq):Prop:=(∃ z,StN vars z∧pa.2.2 z=true∧pb.2.2 z=true)→M.fd=true∧M.f+M.a≤pa.1+pb.1
def MtLe (M M':Mt):Prop:=M.fd=true→M'.fd=true∧M'.f+M'.a≤M.f+M.a
def MtSrc (vars:List Nat) (bw:Bool) (KA KB:Nat × Kq→Prop) (M M':Mt):Prop :=
 M'=M∨(M'.fd=true∧StN vars M'.st∧∃ pa pb,KA pa∧KB pb∧pa.2.2 M'.st=true∧pb.2.2 M'.st=true∧M'.f=cF bw pa.1 pb.1∧M'.a=cA bw pa.1 pb.1)
theorem MtLe.refl (M:Mt):MtLe M M:=fun h=>⟨h,Nat.le_refl _⟩
theorem MtLe.trans {M M1 M2:Mt} (h1:MtLe M M1) (h2:MtLe M1 M2):MtLe M M2:=fun h=>by
 obtain ⟨a,b⟩:=h1 h
 obtain ⟨c,d⟩:=h2 a
 exact ⟨c,by omega⟩
theorem Cov.mono {vars:List Nat} {M M':Mt} {pa pb:Nat × Kq} (h:Cov vars M pa pb) (hl:MtLe M M'):Cov vars M' pa pb:=fun hz=>by
 obtain ⟨a,b⟩:=h hz
 obtain ⟨c,d⟩:=hl a
 exact ⟨c,by omega⟩
theorem MtSrc.trans {vars:List Nat} {bw:Bool} {KA KB:Nat × Kq→Prop} {M M1 M2:Mt} (h1:MtSrc vars bw KA KB M M1) (h2:MtSrc vars bw KA KB M1 M2):MtSrc vars bw KA KB M M2:=by
 rcases h2 with rfl | h2
 ·exact h1
 ·exact .inr h2
theorem mt_step {vars:List Nat} {bw:Bool} {KA KB:Nat × Kq→Prop} {M M':Mt} {pa pb:Nat × Kq} (ha:KA pa) (hb:KB pb)
  (h:MtStep vars M M' (if bw=true then pb.2.2 else pa.2.2) (cF bw pa.1 pb.1) (if bw=true then pa.2.2 else pb.2.2) (cA bw pa.1 pb.1)):MtLe M M'∧Cov vars M' pa pb∧MtSrc vars bw KA KB M M':=by
 have hsum:cF bw pa.1 pb.1+cA bw pa.1 pb.1=pa.1+pb.1:=by
  unfold cF cA
  cases bw <;> simp <;> omega
 rcases h with ⟨rfl,h⟩ | ⟨h1,h2,h3,h4,h5,h6,h7⟩
 ·refine ⟨MtLe.refl _,fun ⟨z,hz,e1,e2⟩=>?_,.inl rfl⟩
  rcases h with ⟨h1,h2⟩ | h1
  ·exact ⟨h1,by omega⟩
  ·exfalso
   cases bw with
   | true=>exact h1 z hz (by simpa using e2) (by simpa using e1)
   | false=>exact h1 z hz (by simpa using e1) (by simpa using e2)
 ·refine ⟨fun hf=>⟨h1,?_⟩,fun _=>⟨h1,by omega⟩,.inr ⟨h1,h4,pa,pb,ha,hb,?_,?_,h2,h3⟩⟩
  ·rcases Nat.lt_or_ge (cF bw pa.1 pb.1+cA bw pa.1 pb.1) (M.f+M.a) with hlt | hge
   ·omega
   ·exact absurd ⟨hf,hge⟩ h7
  ·cases bw with
   | true=>simpa using h6
   | false=>simpa using h5
  ·cases bw with
   | true=>simpa using h5
   | false=>simpa using h6
structure UpOk (vars:List Nat) (bw:Bool) (KA KB:Nat × Kq→Prop) (M M':Mt):Prop where
 le:MtLe M M'
 cov:∀ pa pb,KA pa→KB pb→Cov vars M' pa pb
 src:MtSrc vars bw KA KB M M'
end Go.Proofs.YtkhfdmelcpfgoaaGreat
end
