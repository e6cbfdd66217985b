/-
  A part of the proof of this claim's statement (BiR, BiS): plain theorems; no conditions beyond those each names.
-/
import Derived.Test.YtkhfdmelcpfgoaaGreatPk25
section
set_option maxRecDepth 100000
set_option linter.unusedSimpArgs false
set_option linter.unusedVariables false
namespace Go.Proofs.YtkhfdmelcpfgoaaGreat
open Go Go.W Go.Tk Go.Rx Go.Bd Go.Sy Go.Maps
def KnA (d:Sd) (y:Wm) (p:Nat × Kq):Prop:=p ∈ d.opn∨p=(y.cost,(y.ai,y.all))
def KnB (d:Sd) (p:Nat × Kq):Prop:=p ∈ d.opn∨∃ u ∈ d.wl,p=(u.cost,(u.ai,u.all))
def LaOk (K:Nat × Kq→Prop) (L:List (Nat × Kq)):Prop:=∀ p,p ∈ L↔K p
def knO (p:Nat × Kq):Obj:=.cells #[.int .i64 (p.2.1:Nat),.int .i64 (p.1:Nat)] 149 (0,0)
def knZ:Obj:=.cells #[.int .i64 0,.int .i64 0] 149 (0,0)
section
variable {w w1:World} {F:List Nat} {A B B':Asr} {s m lim:Nat} {T T':Nt} {q:SpC} {ps:List Kq}
theorem FsA.appC {α:Type} {enc:α→List Value} {E sz by_ t ty m2 cp:Nat} {z:List Value} {v:Value} {l xs:List α} {a:Addr} {P:Program} {KV:Kont (Value × World)} (hB:Lcl B) (h:FsA s m lim T' q ps (Star (OwnA v E sz enc l) B) w F w1) (he:∀ x,(enc x).length=sz) (h1:∀ x,(enc x).all oneC=true)
  (hT:slInfo P t=some (E,sz,by_,z)) (hm:xs.length=m2) (hx:∀ j u,(xs.flatMap enc)[j]?=some u→w1.cell? (a.add j)=some u) (hb:(l.length+m2) * by_≤140737488355328) (hmax:l.length+m2≤maxLen)
  (H:∀ v' w2,FsA s m lim T' q ps (Star (OwnA v' E sz enc (l ++ xs)) B) w F w2→KV.run (v',w2)):@efH P (Builtin.append_ #[t,t] ty [v,.slice (some a) m2 cp].toArray) w1 KV:=by
 obtain ⟨ns,ks,ss,hG,hk,hA⟩:=h
 exact At.append (SpcA.lcl hB) (SpcA.out hA) he h1 hT hm hx hb hmax fun v' w2 h3=>H v' w2 ⟨ns,ks,ss,hG,hk,SpcA.into h3⟩
theorem FsA.new {w2:World} (hB:Lcl B) (h:FsA s m lim T' q ps B w F w1) (hn:At w1 [] (Star A Emp) w2):FsA s m lim T' q ps (Star A B) w F w2:=by
 obtain ⟨⟨F1,h1,hs⟩,k⟩:=hn
 obtain ⟨Fa,Fe,ha,he,_,rfl⟩:=h1
 refine h.more hB k ⟨Fa,ha,fun x hx=>?_⟩
 rcases hs x (List.mem_append.2 (.inl hx)) with h2 | h2
 ·cases h2
 ·exact h2
theorem fwaiting_spec {x:Nat} {d:Sd} (hB:Lcl B) (h:FsA s m lim T' q ps B w F w1) (hx:Rds B fun w'=>SdR w' x T s d) (hk:SdK ps d) (hl:d.opn.length≤1000000) :
  Calls Tryz.prog 91 [.pointer (some ⟨x,0,none⟩)].toArray w1 fun e w'=>∃ v,e=.returned v∧∃ L,WtL d.opn L∧L.length≤1000000∧FsA s m lim T' q ps (Star (OwnA v 149 2 knE L) B) w F w':=by
 refine (bwaiting_spec x s T d (h.frame hx) (fun p hp=>h.le (hk.opn p hp)) hl).mono ?_
 rintro e w' ⟨v,rfl,L,h1,h2,h3⟩
 exact ⟨v,rfl,L,h1,h2,h.new hB h3⟩
def UpR (s m lim:Nat) (T T':Nt) (q:SpC) (ps:List Kq) (B:Asr) (w:World) (F:List Nat) (mb:Nat) (dx dq:Sd) (y:Wm) (M:Mt) (v:Value) (w':World):Prop :=
 (v=.nilIface∧∃ M' ps',(∀ p ∈ ps,p ∈ ps')∧UpOk T.vars dx.bw (KnA dx y) (KnB dq) M M'∧FsA s m lim T' q ps' (MtA mb M' B) w F w')∨(v=berrV 10∧Full T' lim∧∃ M',At w F (MtA mb M' B) w')
def UpE (s m lim:Nat) (T T':Nt) (q:SpC) (ps:List Kq) (B:Asr) (w:World) (F:List Nat) (mb:Nat) (dx dq:Sd) (y:Wm) (M:Mt) (w':World):Prop :=
 ∃ M' ps',(∀ p ∈ ps,p ∈ ps')∧UpOk T.vars dx.bw (KnA dx y) (KnB dq) M M'∧FsA s m lim T' q ps' (MtA mb M' B) w F w'
def UpJ (s m lim:Nat) (T T':Nt) (q:SpC) (ps:List Kq) (B:Asr) (w:World) (F:List Nat) (mb xp op:Nat) (dx:Sd) (y:Wm) (M:Mt) (ρ:Env) (w':World):Prop :=
 ρ 0=.pointer (some ⟨mb,0,none⟩)∧ρ 1=.pointer (some ⟨xp,0,none⟩)∧ρ 2=.pointer (some ⟨op,0,none⟩)∧∃ LA:List (Nat × Kq),ρ 38=.int .i64 (LA.length:Nat)∧ρ 39=.int .i64 0∧LaOk (KnA dx y) LA∧LA.length≤2000000∧FsA s m lim T' q ps (Star (OwnA (ρ 37) 149 2 knE LA) (MtA mb M B)) w F w'
theorem MtA.into {mb:Nat} {M:Mt} {A B:Asr}:Imp (Star A (MtA mb M B)) (MtA mb M (Star A B)):=Imp.bk3
theorem MtA.out {mb:Nat} {M:Mt} {A B:Asr}:Imp (MtA mb M (Star A B)) (Star A (MtA mb M B)):=Imp.fr3
theorem MtA.fr {mb:Nat} {M:Mt} {B B':Asr} (hi:Imp B B'):Imp (MtA mb M B) (MtA mb M B'):=Imp.un (Imp.un hi)
theorem MtA.rds {mb:Nat} {M:Mt} {B:Asr} {P:World→Prop} (h:Rds B P):Rds (MtA mb M B) P:=Rds.star (Rds.star h)
def knW (u:Wm):Nat × Kq:=(u.cost,(u.ai,u.all))
structure UpM (vars:List Nat) (bw:Bool) (KA KB:Nat × Kq→Prop) (M M':Mt) (LA:List (Nat × Kq)) (k:Nat):Prop where
 le:MtLe M M'
 src:MtSrc vars bw KA KB M M'
 cov:∀ pa ∈ LA.take k,∀ pb,KB pb→Cov vars M' pa pb
 bf:M'.f≤600000000
 ba:M'.a≤600000000
def UpK (s m lim:Nat) (T T':Nt) (q:SpC) (ps:List Kq) (B:Asr) (w:World) (F:List Nat) (mb xp op:Nat) (dx dq:Sd) (y:Wm) (M:Mt) (va:Value) (LA:List (Nat × Kq)) (k:Nat) (ρ:Env) (w':World):Prop :=
 ρ 0=.pointer (some ⟨mb,0,none⟩)∧ρ 1=.pointer (some ⟨xp,0,none⟩)∧ρ 2=.pointer (some ⟨op,0,none⟩)∧ρ 37=va∧∃ M' ps',(∀ p ∈ ps,p ∈ ps')∧UpM T.vars dx.bw (KnA dx y) (KnB dq) M M' LA k∧FsA s m lim T' q ps' (MtA mb M' (Star (OwnA va 149 2 knE LA) B)) w F w'
def UpW (s m lim:Nat) (T T':Nt) (q:SpC) (ps:List Kq) (B2:Asr) (w:World) (F:List Nat) (mb xp op ab:Nat) (dq:Sd) (M':Mt) (va:Value) (nk k sm:Nat) (Lb:List (Nat × Kq)) (j:Nat) (ρ:Env) (w':World):Prop :=
 ρ 0=.pointer (some ⟨mb,0,none⟩)∧ρ 1=.pointer (some ⟨xp,0,none⟩)∧ρ 2=.pointer (some ⟨op,0,none⟩)∧ρ 37=va∧ρ 38=.int .i64 (nk:Nat)∧ρ 39=.int .i64 (k:Nat)∧ρ 9=.pointer (some ⟨ab,0,none⟩)∧ρ 11=.int .i64 (sm:Nat)∧ρ 65=dq.wv ∧
  FsA s m lim T' q ps (MtA mb M' (Star (OwnA (ρ 10) 149 2 knE (Lb ++ if sm=0 then [] else (dq.wl.take j).map knW)) B2)) w F w'
def UpB (s m lim:Nat) (T T':Nt) (q:SpC) (ps:List Kq) (B2:Asr) (w:World) (F:List Nat) (mb xp op ab:Nat) (bw:Bool) (KA KB:Nat × Kq→Prop) (M:Mt) (pa:Nat × Kq) (va vb:Value) (nk k:Nat) (LA LB:List (Nat × Kq)) (j:Nat) (ρ:Env) (w':World):Prop :=
 ρ 0=.pointer (some ⟨mb,0,none⟩)∧ρ 1=.pointer (some ⟨xp,0,none⟩)∧ρ 2=.pointer (some ⟨op,0,none⟩)∧ρ 37=va∧ρ 38=.int .i64 (nk:Nat)∧ρ 39=.int .i64 (k:Nat)∧ρ 9=.pointer (some ⟨ab,0,none⟩)∧ρ 82=vb ∧
  ∃ M' ps',(∀ p ∈ ps,p ∈ ps')∧UpM T.vars bw KA KB M M' LA k∧(∀ pb ∈ LB.take j,Cov T.vars M' pa pb)∧FsA s m lim T' q ps' (MtA mb M' (Star (OwnA vb 149 2 knE LB) B2)) w F w'
set_option maxHeartbeats 4000000 in
theorem bupdate_spec (mb xp op:Nat) (dx dq:Sd) (y:Wm) (wl0:List Wm) (M:Mt) (hC:BC T T' lim) (hB:Lcl B) (h:FsA s m lim T' q ps (MtA mb M B) w F w1) (hx:Rds B fun w'=>SdR w' xp T s dx) (ho:Rds B fun w'=>SdR w' op T s dq) (hkx:SdK ps dx) (hko:SdK ps dq)
  (hwl:dx.wl=wl0 ++ [y]) (hbx:SdBd T dx) (hbo:SdBd T dq) (hclo:∀ z,StN T.vars z→(dq.cl z=true↔∃ u ∈ dq.wl,u.all z=true)) (hMf:M.f≤600000000) (hMa:M.a≤600000000) :
  Calls Tryz.prog 65 [.pointer (some ⟨mb,0,none⟩),.pointer (some ⟨xp,0,none⟩),.pointer (some ⟨op,0,none⟩)].toArray w1 fun en w'=>∃ v,en=.returned v ∧
   UpR s m lim T T' q ps B w F mb dx dq y M v w':=by
 refine enter Tryz.func65 mixed low65 (Nat.le_of_ble_eq_true rfl) ?_
 simp only [L65]
 have hLm:Lcl (MtA mb M B):=MtA.lcl hB
 have rX:∀ M,Rds (MtA mb M B) fun w'=>SdR w' xp T s dx:=fun M=>Rds.star (Rds.star hx)
 have rO:∀ M,Rds (MtA mb M B) fun w'=>SdR w' op T s dq:=fun M=>Rds.star (Rds.star ho)
 have ox:=(h.frame (rX M)).obj
 unfold sdO at ox
 have hwv:=(h.frame (rX M)).wvs
 have hlen:dx.wl.length=wl0.length+1:=by rw [hwl]; simp
 have hyw:dx.wl[wl0.length]?=some y:=by rw [hwl]; simp
 have hbl:=hbx.wl
 have hbn:=hbx.nN
 have es:∀ K:Kont Value,@intH .sub .i64 ((dx.wl.length:Nat):Int) .i64 1 K=K.run (.int .i64 ((wl0.length:Nat):Int)):=fun K=>by
  rw [intS_sub,hlen]
  have:(((wl0.length+1:Nat):Int) - 1)=((wl0.length:Nat):Int):=by omega
  rw [this,wrap_i64 (by omega) (by omega)]
 have hki:((wl0.length:Nat):Int) < dx.wl.length:=by omega
 have ec:=hwv.cells wmE_len hyw
 simp only [wmE] at ec
 obtain ⟨yb,hyb⟩:∃ yb,yb=w1.heap.size:=⟨_,rfl⟩
 have h2:FsA s m lim T' q ps (Star (ObjA yb (.cells #[.int .i64 0,.slice none 0 0,.int .i64 0] 74)) (MtA mb M B)) w F (w1.drew.alloc (.cells #[.int .i64 0,.slice none 0 0,.int .i64 0] 74)):=by rw [hyb]; exact (h.drew hLm).alloc (.cells #[.int .i64 0,.slice none 0 0,.int .i64 0] 74) hLm
 simp (disch:=omega) [-intS_sub,es,cell_blk ox,hwv.len,hwv.idx,ec]
 rw [← hyb]
 refine h2.st hLm (by simp) (by simp [y.pv.2]) fun w3 h3=>?_
 replace h3:FsA s m lim T' q ps (Star (ObjA yb (wvO y.cost y.pv.1 y.ai)) (MtA mb M B)) w F w3:=by simpa [wvO] using h3
 simp only [run_mk,wpT_nil,thenK_nrm]
 refine seq_cut (fun ρ w'=>UpE s m lim T T' q ps B w F mb dx dq y M w') ?_ ?_
 ·refine seq_cut (UpJ s m lim T T' q ps B w F mb xp op dx y M) ?_ ?_
  ·have hLy:Lcl (Star (ObjA yb (wvO y.cost y.pv.1 y.ai)) (MtA mb M B)):=Lcl.obj.star hLm
   have hxy:Rds (Star (ObjA yb (wvO y.cost y.pv.1 y.ai)) (MtA mb M B)) fun w'=>SdR w' xp T s dx:=Rds.star (rX M)
   have hopl:dx.opn.length≤1000000:=by have:=hbx.on; omega
   obtain ⟨ky,hky⟩:∃ ky:Nat × Kq,ky=(y.cost,(y.ai,y.all)):=⟨_,rfl⟩
   have hLA:∀ L,WtL dx.opn L→LaOk (KnA dx y) (L ++ [ky]):=fun L hL p=>by
    rw [List.mem_append,List.mem_singleton,hL p,hky]
    exact Iff.rfl
   have h3d:=h3.drew hLy
   have oy:=h3.obj
   unfold wvO at oy
   have fin:∀ {v:Value} {L:List (Nat × Kq)} {w5:World},FsA s m lim T' q ps (Star (OwnA v 149 2 knE L) (Star (ObjA yb (wvO y.cost y.pv.1 y.ai)) (MtA mb M B))) w F w5→FsA s m lim T' q ps (Star (OwnA v 149 2 knE L) (MtA mb M B)) w F w5:=fun h=>h.by (Imp.un Imp.dr)
   have oy2:=oy
   rw [hyb] at oy2
   simp [cell_blk oy2]
   refine ⟨?_,?_,?_,?_,?_⟩
   ·refine cl_of (fwaiting_spec hLy h3d hxy hkx hopl) ?_
    rintro v w4 ⟨L,hL,hLl,h4⟩
    simp
    refine h4.app (cs:=#[.int .i64 (y.ai:Nat),.int .i64 (y.cost:Nat)]) (xs:=[ky]) hLy knE_len knE_one sl_146 (by rw [hky]; simp [knE]) rfl (by omega) (by unfold maxLen; omega) fun v' w5 h5=>?_
    have ho5:=h5.frame (Rds.own:Rds (Star (OwnA v' 149 2 knE (L ++ [ky])) (Star (ObjA yb (wvO y.cost y.pv.1 y.ai)) (MtA mb M B))) fun w'=>Vw w' v' knE (L ++ [ky]))
    simp [ho5.len]
    exact ⟨by simp,by simp,by simp,L ++ [ky],by simp,by simp,hLA L hL,by simp; omega,by simpa [hyb] using fin h5⟩
   ·have h3l:FsA s m lim T' q ps (Star (ObjA w3.heap.size (.cells #[.int .i64 (y.ai:Nat),.int .i64 (y.cost:Nat)] 149)) (Star (ObjA yb (wvO y.cost y.pv.1 y.ai)) (MtA mb M B))) w F (w3.drew.alloc (.cells #[.int .i64 (y.ai:Nat),.int .i64 (y.cost:Nat)] 149)):=h3d.alloc _ hLy
    refine cl_of (fwaiting_spec (Lcl.obj.star hLy) h3l (Rds.star hxy) hkx hopl) ?_
    rintro v w4 ⟨L,hL,hLl,h4⟩
    have ol4:=h4.frame (Rds.star Rds.obj:Rds (Star (OwnA v 149 2 knE L) (Star (ObjA w3.heap.size (.cells #[.int .i64 (y.ai:Nat),.int .i64 (y.cost:Nat)] 149)) (Star (ObjA yb (wvO y.cost y.pv.1 y.ai)) (MtA mb M B)))) fun w'=>w'.heap[w3.heap.size]?=some (.cells #[.int .i64 (y.ai:Nat),.int .i64 (y.cost:Nat)] 149))
    simp
    refine h4.appC (xs:=[ky]) (Lcl.obj.star hLy) knE_len knE_one sl_146 rfl (fun j u hj=>?_) (by omega) (by unfold maxLen; omega) fun v' w5 h5=>?_
    ·rw [add_none,cell_blk ol4]
     rw [hky] at hj
     simpa [knE] using hj
    have ho5:=h5.frame (Rds.own:Rds (Star (OwnA v' 149 2 knE (L ++ [ky])) (Star (ObjA w3.heap.size (.cells #[.int .i64 (y.ai:Nat),.int .i64 (y.cost:Nat)] 149)) (Star (ObjA yb (wvO y.cost y.pv.1 y.ai)) (MtA mb M B)))) fun w'=>Vw w' v' knE (L ++ [ky]))
    simp [ho5.len]
    exact ⟨by simp,by simp,by simp,L ++ [ky],by simp,by simp,hLA L hL,by simp; omega,by simpa using fin (h5.by (Imp.un Imp.dr))⟩
   ·refine cl_of (fwaiting_spec hLy h3d hxy hkx hopl) ?_
    rintro v w4 ⟨L,hL,hLl,h4⟩
    have oy4:=h4.frame (Rds.star Rds.obj:Rds (Star (OwnA v 149 2 knE L) (Star (ObjA yb (wvO y.cost y.pv.1 y.ai)) (MtA mb M B))) fun w'=>w'.heap[yb]?=some (wvO y.cost y.pv.1 y.ai))
    unfold wvO at oy4
    rw [hyb] at oy4
    simp [cell_blk oy4]
    refine h4.app (cs:=#[.int .i64 (y.ai:Nat),.int .i64 (y.cost:Nat)]) (xs:=[ky]) hLy knE_len knE_one sl_146 (by rw [hky]; simp [knE]) rfl (by omega) (by unfold maxLen; omega) fun v' w5 h5=>?_
    have ho5:=h5.frame (Rds.own:Rds (Star (OwnA v' 149 2 knE (L ++ [ky])) (Star (ObjA yb (wvO y.cost y.pv.1 y.ai)) (MtA mb M B))) fun w'=>Vw w' v' knE (L ++ [ky]))
    simp [ho5.len]
    exact ⟨by simp,by simp,by simp,L ++ [ky],by simp,by simp,hLA L hL,by simp; omega,by simpa [hyb] using fin h5⟩
   ·refine cl_of (fwaiting_spec hLy h3d hxy hkx hopl) ?_
    rintro v w4 ⟨L,hL,hLl,h4⟩
    have oy4:=h4.frame (Rds.star Rds.obj:Rds (Star (OwnA v 149 2 knE L) (Star (ObjA yb (wvO y.cost y.pv.1 y.ai)) (MtA mb M B))) fun w'=>w'.heap[yb]?=some (wvO y.cost y.pv.1 y.ai))
    unfold wvO at oy4
    rw [hyb] at oy4
    simp [cell_blk oy4]
    refine h4.app (cs:=#[.int .i64 (y.ai:Nat),.int .i64 (y.cost:Nat)]) (xs:=[ky]) hLy knE_len knE_one sl_146 (by rw [hky]; simp [knE]) rfl (by omega) (by unfold maxLen; omega) fun v' w5 h5=>?_
    have ho5:=h5.frame (Rds.own:Rds (Star (OwnA v' 149 2 knE (L ++ [ky])) (Star (ObjA yb (wvO y.cost y.pv.1 y.ai)) (MtA mb M B))) fun w'=>Vw w' v' knE (L ++ [ky]))
    simp [ho5.len]
    exact ⟨by simp,by simp,by simp,L ++ [ky],by simp,by simp,hLA L hL,by simp; omega,by simpa [hyb] using fin h5⟩
   ·refine cl_of (fwaiting_spec hLy h3d hxy hkx hopl) ?_
    rintro v w4 ⟨L,hL,hLl,h4⟩
    have oy4:=h4.frame (Rds.star Rds.obj:Rds (Star (OwnA v 149 2 knE L) (Star (ObjA yb (wvO y.cost y.pv.1 y.ai)) (MtA mb M B))) fun w'=>w'.heap[yb]?=some (wvO y.cost y.pv.1 y.ai))
    unfold wvO at oy4
    rw [hyb] at oy4
    simp [cell_blk oy4]
    refine h4.app (cs:=#[.int .i64 (y.ai:Nat),.int .i64 (y.cost:Nat)]) (xs:=[ky]) hLy knE_len knE_one sl_146 (by rw [hky]; simp [knE]) rfl (by omega) (by unfold maxLen; omega) fun v' w5 h5=>?_
    have ho5:=h5.frame (Rds.own:Rds (Star (OwnA v' 149 2 knE (L ++ [ky])) (Star (ObjA yb (wvO y.cost y.pv.1 y.ai)) (MtA mb M B))) fun w'=>Vw w' v' knE (L ++ [ky]))
    simp [ho5.len]
    exact ⟨by simp,by simp,by simp,L ++ [ky],by simp,by simp,hLA L hL,by simp; omega,by simpa [hyb] using fin h5⟩
  ·rintro ρ w4 ⟨g0,g1,g2,LA,g38,g39,hLA,hLl,h4⟩
   obtain ⟨va,hva⟩:∃ va,va=ρ 37:=⟨_,rfl⟩
   have g37:=hva.symm
   rw [g37] at h4
   have h4':=h4.by MtA.into
   obtain ⟨B1,hB1⟩:∃ B1,B1=Star (OwnA va 149 2 knE LA) B:=⟨_,rfl⟩
   have hL1:Lcl B1:=by rw [hB1]; exact Lcl.own.star hB
   have r1X:Rds B1 fun w'=>SdR w' xp T s dx:=by rw [hB1]; exact Rds.star hx
   have r1O:Rds B1 fun w'=>SdR w' op T s dq:=by rw [hB1]; exact Rds.star ho
   have r1V:Rds B1 fun w'=>Vw w' va knE LA:=by rw [hB1]; exact Rds.own
   have hKA:∀ pa,KnA dx y pa→pa.2 ∈ ps∧pa.1≤600000000:=fun pa h=>by
    rcases h with h | rfl
    ·refine ⟨hkx.opn _ h,?_⟩
     have h1:pa.1≤dx.wl.length * 1048576:=hbx.oc pa h
     omega
    ·refine ⟨(hkx.all y (List.mem_of_getElem? hyw)).1,?_⟩
     have h1:y.cost≤dx.wl.length * 1048576:=hbx.wc y (List.mem_of_getElem? hyw)
     show y.cost≤_
     omega
   have hqn:=hbo.wl
   have hKB:∀ pb,KnB dq pb→pb.2 ∈ ps∧pb.1≤600000000:=fun pb h=>by
    rcases h with h | ⟨u,hu,rfl⟩
    ·refine ⟨hko.opn _ h,?_⟩
     have h1:pb.1≤dq.wl.length * 1048576:=hbo.oc pb h
     omega
    ·refine ⟨(hko.all u hu).1,?_⟩
     have h1:u.cost≤dq.wl.length * 1048576:=hbo.wc u hu
     show u.cost≤_
     omega
   have hoq:dq.opn.length≤1000000:=by have:=hbo.on; omega
   rw [← hB1] at h4'
   simp
   refine range_loop (n:=LA.length) (by omega) (UpK s m lim T T' q ps B w F mb xp op dx dq y M va LA) (by simp [g39]) (by simp [g38])
    ⟨by simp [g0],by simp [g1],by simp [g2],by simp [g37],M,ps,fun _ h=>h,⟨MtLe.refl _,.inl rfl,fun pa hp=>by simp at hp,hMf,hMa⟩,by rw [← hB1]; exact h4'⟩ (by decide) (fun _ _ _ _ h=>by simpa [UpK] using h) (fun _ _ _ _ h=>by simpa [UpK] using h) ?_ ?_
   ·rintro k ρ w5 hk5 hc hlm ⟨g0,g1,g2,g37,M1,ps1,hps1,hM1,h5⟩
    rw [← hB1] at h5
    obtain ⟨pa,hpa⟩:∃ pa,LA[k]?=some pa:=⟨_,List.getElem?_eq_getElem hk5⟩
    have hpaK:=(hLA pa).1 (List.mem_of_getElem? hpa)
    have hv5:=h5.frame (MtA.rds r1V)
    have ec5:=hv5.cells knE_len hpa
    simp only [knE] at ec5
    have hki5:(k:Int) < LA.length:=by omega
    obtain ⟨ab,hab⟩:∃ ab,ab=w5.heap.size:=⟨_,rfl⟩
    have hLk:Lcl (MtA mb M1 B1):=MtA.lcl hL1
    have h6:=h5.alloc knZ hLk
    rw [← hab] at h6
    simp (disch:=omega) [g0,g1,g2,g37,hc,hlm,hv5.idx,ec5]
    rw [← hab]
    refine h6.st hLk (by simp) (by simp) fun w6 h7=>?_
    obtain ⟨B2,hB2⟩:∃ B2,B2=Star (ObjA ab (knO pa)) B1:=⟨_,rfl⟩
    have hL2:Lcl B2:=by rw [hB2]; exact Lcl.obj.star hL1
    have r2O:Rds B2 fun w'=>SdR w' op T s dq:=by rw [hB2]; exact Rds.star r1O
    have r2X:Rds B2 fun w'=>SdR w' xp T s dx:=by rw [hB2]; exact Rds.star r1X
    have r2A:Rds B2 fun w'=>w'.heap[ab]?=some (knO pa):=by rw [hB2]; exact Rds.obj
    replace h7:FsA s m lim T' q ps1 (MtA mb M1 B2) w F w6:=by
     rw [hB2]
     refine FsA.by ?_ MtA.into
     simpa [knZ,knO] using h7
    have hb2:Imp B2 B:=by rw [hB2,hB1]; exact Imp.dr.trans Imp.dr
    simp [g0,g1,g2,g37,hc,hlm]
    refine cl_of (fwaiting_spec (MtA.lcl hL2) h7 (MtA.rds r2O) (hko.mono hps1) hoq) ?_
    rintro wv w7 ⟨Lb,hLb,hLbl,h8⟩
    have h9:=h8.by MtA.into
    have hL3:Lcl (Star (OwnA wv 149 2 knE Lb) B2):=Lcl.own.star hL2
    have oa9:=h9.frame (MtA.rds (Rds.star r2A))
    unfold knO at oa9
    have ox9:=(h9.frame (MtA.rds (Rds.star r2X))).obj
    unfold sdO at ox9
    have oo9:=(h9.frame (MtA.rds (Rds.star r2O))).obj
    unfold sdO at oo9
    have h9d:=h9.drew (MtA.lcl hL3)
    simp [g0,g1,g2,g37,hc,hlm,cell_blk oa9,cell_blk ox9,cell_blk oo9]
    refine cl_of (f_intersect pa.2.1 dq.ci pa.2.2 dq.cl hC.cap (MtA.lcl hL3) h9d (hps1 _ (hKA pa hpaK).1) (hps1 _ hko.cl)) ?_
    rintro _ w8 (⟨sm,rfl,h10⟩ | ⟨rfl,hf,h10⟩)
    rotate_left
    ·simp [berrV,g0,g1,g2,g37,hc,hlm]
     exact .inr ⟨rfl,hf,M1,h10.by (MtA.fr (Imp.dr.trans hb2))⟩
    have ow10:=(h10.frame (MtA.rds (Rds.star r2O))).wvs
    have oo10:=(h10.frame (MtA.rds (Rds.star r2O))).obj
    unfold sdO at oo10
    have hz10:=h10.zero (.head _)
    simp [g0,g1,g2,g37,hc,hlm,cell_blk oo10,ow10.len]
    have hwn:dq.wl.length≤1000000:=by omega
    refine range_loop (n:=dq.wl.length) (by omega) (UpW s m lim T T' q ((sm,fun z=>pa.2.2 z && dq.cl z) :: ps1) B2 w F mb xp op ab dq M1 va LA.length k sm Lb) (by simp) (by simp)
     ⟨by simp [g0],by simp [g1],by simp [g2],by simp [g37],by simp [hlm],by simp [hc],by simp,by simp,by simp,by simpa using h10⟩ (by decide) (fun _ _ _ _ h=>by simpa [UpW] using h) (fun _ _ _ _ h=>by simpa [UpW] using h) ?_ ?_
    ·rintro j ρ w9 hj hcj hlj ⟨g0,g1,g2,g37,g38,g39,g9,g11,g65,h11⟩
     obtain ⟨lv,hlv⟩:∃ lv,lv=ρ 10:=⟨_,rfl⟩
     have g10:=hlv.symm
     rw [g10] at h11
     obtain ⟨Lj,hLj⟩:∃ Lj,Lj=Lb ++ if sm=0 then [] else (dq.wl.take j).map knW:=⟨_,rfl⟩
     rw [← hLj] at h11
     have hLjl:Lj.length≤2000000:=by
      rw [hLj,List.length_append]
      split
      ·simp; omega
      ·simp; omega
     obtain ⟨u,hu⟩:∃ u,dq.wl[j]?=some u:=⟨_,List.getElem?_eq_getElem hj⟩
     have ow11:=(h11.frame (MtA.rds (Rds.star r2O))).wvs
     have ec11:=ow11.cells wmE_len hu
     simp only [wmE] at ec11
     have hki11:(j:Int) < dq.wl.length:=by omega
     have hL11:Lcl (MtA mb M1 (Star (OwnA lv 149 2 knE Lj) B2)):=MtA.lcl (Lcl.own.star hL2)
     obtain ⟨ub,hub⟩:∃ ub,ub=w9.heap.size:=⟨_,rfl⟩
     have h12:=h11.alloc (.cells #[.int .i64 0,.slice none 0 0,.int .i64 0] 74) hL11
     rw [← hub] at h12
     simp (disch:=omega) [g0,g1,g2,g37,g38,g39,g9,g10,g11,g65,hcj,hlj,ow11.idx,ec11]
     rw [← hub]
     refine h12.st hL11 (by simp) (by simp [u.pv.2]) fun w10 h13=>?_
     replace h13:FsA s m lim T' q ((sm,fun z=>pa.2.2 z && dq.cl z) :: ps1) (Star (ObjA ub (wvO u.cost u.pv.1 u.ai)) (MtA mb M1 (Star (OwnA lv 149 2 knE Lj) B2))) w F w10:=by simpa [wvO] using h13
     have ou:=h13.obj
     unfold wvO at ou
     by_cases hsm:sm=0
     ·have hb0:(((sm:Nat):Int) == 0)=true:=by rw [hsm]; rfl
      simp [hb0,hsm,g0,g1,g2,g37,g38,g39,g9,g10,g11,g65,hcj,hlj]
      refine ⟨by simp [g0],by simp [g1],by simp [g2],by simp [g37],by simp [g38],by simp [g39],by simp [g9],by simp [g11,hsm],by simp [g65],?_⟩
      have h14:=h13.by Imp.dr
      rw [hLj] at h14
      simpa [hsm,g10] using h14
     ·have hb0:(((sm:Nat):Int) == 0)=false:=beq_eq_false_iff_ne.2 (by omega)
      have hb1:(((sm:Nat):Int) != 0)=true:=by simp [bne,hb0]
      simp [hb1,g0,g1,g2,g37,g38,g39,g9,g10,g11,g65,hcj,hlj,cell_blk ou]
      have h14:=(h13.by (Imp.un MtA.out)).by Imp.sw
      refine h14.app (cs:=#[.int .i64 (u.ai:Nat),.int .i64 (u.cost:Nat)]) (xs:=[knW u]) (Lcl.obj.star (MtA.lcl hL2)) knE_len knE_one sl_146 (by simp [knE,knW]) rfl (by first | omega | (simp; omega)) (by unfold maxLen; first | omega | (simp; omega)) fun v' w5 h15=>?_
      simp [g0,g1,g2,g37,g38,g39,g9,g10,g11,g65,hcj,hlj]
      refine ⟨by simp [g0],by simp [g1],by simp [g2],by simp [g37],by simp [g38],by simp [g39],by simp [g9],by simp [g11],by simp [g65],?_⟩
      have h16:=(h15.by (Imp.un Imp.dr)).by MtA.into
      rw [hLj] at h16
      simpa [hsm,take_snoc hu] using h16
    ·rintro ρ w9 ⟨g0,g1,g2,g37,g38,g39,g9,g11,g65,h11⟩
     rw [List.take_length] at h11
     obtain ⟨vb,hvb⟩:∃ vb,vb=ρ 10:=⟨_,rfl⟩
     have g10:=hvb.symm
     rw [g10] at h11
     obtain ⟨LB,hLB⟩:∃ LB,LB=Lb ++ if sm=0 then [] else dq.wl.map knW:=⟨_,rfl⟩
     rw [← hLB] at h11
     have hLBl:LB.length≤2000000:=by
      rw [hLB,List.length_append]
      split
      ·simp; omega
      ·simp; omega
     have hLBm:∀ pb ∈ LB,KnB dq pb:=fun pb hp=>by
      rw [hLB] at hp
      rcases List.mem_append.1 hp with hp | hp
      ·exact .inl ((hLb pb).1 hp)
      ·split at hp
       ·cases hp
       ·obtain ⟨u,hu,rfl⟩:=List.mem_map.1 hp
        exact .inr ⟨u,hu,rfl⟩
     have hLBc:∀ M' pb,KnB dq pb→(∀ pb ∈ LB,Cov T.vars M' pa pb)→Cov T.vars M' pa pb:=fun M' pb hp hall=>by
      rcases hp with hp | ⟨u,hu,rfl⟩
      ·exact hall pb (by rw [hLB]; exact List.mem_append.2 (.inl ((hLb pb).2 hp)))
      ·by_cases hsm:sm=0
       ·rintro ⟨z,hz,e1,e2⟩
        exfalso
        have h12:=hz10.1 hsm z (by rw [hC.alk.vars]; exact hz)
        have h13:=(hclo z hz).2 ⟨u,hu,e2⟩
        simp [e1,h13] at h12
       ·exact hall _ (by rw [hLB,if_neg hsm]; exact List.mem_append.2 (.inr (List.mem_map.2 ⟨u,hu,rfl⟩)))
     have hlv:=(h11.frame (MtA.rds Rds.own):Vw w9 vb knE LB)
     simp [g0,g1,g2,g37,g38,g39,g9,g10,g11,g65,hlv.len]
     have hps2:∀ p ∈ ps,p ∈ ((sm,fun z=>pa.2.2 z && dq.cl z) :: ps1):=fun p hp=>.tail _ (hps1 p hp)
     refine range_loop (n:=LB.length) (by omega) (UpB s m lim T T' q ps B2 w F mb xp op ab dx.bw (KnA dx y) (KnB dq) M pa va vb LA.length k LA LB) (by simp) (by simp)
      ⟨by simp [g0],by simp [g1],by simp [g2],by simp [g37],by simp [g38],by simp [g39],by simp [g9],by simp,M1,_,hps2,hM1,fun pb hp=>by simp at hp,by simpa using h11⟩ (by decide) (fun _ _ _ _ h=>by simpa [UpB] using h) (fun _ _ _ _ h=>by simpa [UpB] using h) ?_ ?_
     ·rintro j ρ w10 hj hcj hlj ⟨g0,g1,g2,g37,g38,g39,g9,g82,M2,ps2,hps2,hM2,hcov2,h12⟩
      obtain ⟨pb,hpb⟩:∃ pb,LB[j]?=some pb:=⟨_,List.getElem?_eq_getElem hj⟩
      have hpbK:=hLBm pb (List.mem_of_getElem? hpb)
      have hv12:=(h12.frame (MtA.rds Rds.own):Vw w10 vb knE LB)
      have ec12:=hv12.cells knE_len hpb
      simp only [knE] at ec12
      have hki12:(j:Int) < LB.length:=by omega
      have hL4:Lcl (Star (OwnA vb 149 2 knE LB) B2):=Lcl.own.star hL2
      have hL12:Lcl (MtA mb M2 (Star (OwnA vb 149 2 knE LB) B2)):=MtA.lcl hL4
      obtain ⟨bb,hbb⟩:∃ bb,bb=w10.heap.size:=⟨_,rfl⟩
      have h13:=h12.alloc knZ hL12
      rw [← hbb] at h13
      simp (disch:=omega) [g0,g1,g2,g37,g38,g39,g9,g82,hcj,hlj,hv12.idx,ec12]
      rw [← hbb]
      refine h13.st hL12 (by simp) (by simp) fun w11 h14=>?_
      replace h14:FsA s m lim T' q ps2 (Star (ObjA bb (knO pb)) (MtA mb M2 (Star (OwnA vb 149 2 knE LB) B2))) w F w11:=by simpa [knZ,knO] using h14
      have h15:=h14.by MtA.into
      have hL5:Lcl (Star (ObjA bb (knO pb)) (Star (OwnA vb 149 2 knE LB) B2)):=Lcl.obj.star hL4
      have ob15:=h14.obj
      have oa15:=h15.frame (MtA.rds (Rds.star (Rds.star r2A)))
      have ox15:=(h15.frame (MtA.rds (Rds.star (Rds.star r2X)))).obj
      unfold sdO at ox15
      unfold knO at oa15 ob15
      have hpa2:=hps2 _ (hKA pa hpaK).1
      have hpb2:=hps2 _ (hKB pb hpbK).1
      have hpa3:=(hKA pa hpaK).2
      have hpb3:=(hKB pb hpbK).2
      have fin:∀ {v:Value} {w12:World},MeetR s m lim T T' q ps2 (Star (ObjA bb (knO pb)) (Star (OwnA vb 149 2 knE LB) B2)) w F mb M2 (if dx.bw=true then pb.2.2 else pa.2.2) (cF dx.bw pa.1 pb.1) (if dx.bw=true then pa.2.2 else pb.2.2) (cA dx.bw pa.1 pb.1) v w12 →
        (v=.nilIface∧∃ M' ps',(∀ p ∈ ps,p ∈ ps')∧UpM T.vars dx.bw (KnA dx y) (KnB dq) M M' LA k∧(∀ pb ∈ LB.take (j+1),Cov T.vars M' pa pb)∧FsA s m lim T' q ps' (MtA mb M' (Star (OwnA vb 149 2 knE LB) B2)) w F w12)∨(v=berrV 10∧Full T' lim∧∃ M',At w F (MtA mb M' B) w12):=by
       rintro v w12 (⟨rfl,M3,ps3,hps3,hst,h16⟩ | ⟨rfl,hfl,M3,h16⟩)
       ·obtain ⟨e1,e2,e3⟩:=mt_step hpaK hpbK hst
        refine .inl ⟨rfl,M3,ps3,fun p hp=>hps3 p (hps2 p hp),⟨hM2.le.trans e1,hM2.src.trans e3,fun pa' h1 pb' h2=>(hM2.cov pa' h1 pb' h2).mono e1,?_,?_⟩,fun pb' h=>?_,h16.by (MtA.fr Imp.dr)⟩
        ·rcases hst with ⟨rfl,_⟩ | ⟨_,e,_⟩
         ·exact hM2.bf
         ·rw [e]; unfold cF; split <;> omega
        ·rcases hst with ⟨rfl,_⟩ | ⟨_,_,e,_⟩
         ·exact hM2.ba
         ·rw [e]; unfold cA; split <;> omega
        ·rw [take_snoc hpb] at h
         rcases List.mem_append.1 h with h | h
         ·exact (hcov2 pb' h).mono e1
         ·rcases List.mem_singleton.1 h with rfl
          exact e2
       ·exact .inr ⟨rfl,hfl,M3,h16.by (MtA.fr ((Imp.dr.trans Imp.dr).trans hb2))⟩
      cases hbw:dx.bw with
      | true =>
       rw [hbw] at ox15
       simp [hbw,cF,cA] at fin
       simp [g0,g1,g2,g37,g38,g39,g9,g82,hcj,hlj,cell_blk ox15,cell_blk ob15,cell_blk oa15]
       refine cl_of (bmeet_spec mb pb.2.1 pb.1 pa.2.1 pa.1 M2 pb.2.2 pa.2.2 hC hL5 (h15.drew (MtA.lcl hL5)) hpb2 hpa2 (by omega) (by omega) hM2.bf hM2.ba) ?_
       rintro v w12 hr
       rcases fin hr with ⟨rfl,M3,ps3,hps3,hM3,hcov3,h16⟩ | ⟨rfl,hfl,M3,h16⟩
       ·simp [g0,g1,g2,g37,g38,g39,g9,g82,hcj,hlj]
        exact ⟨by simp [g0],by simp [g1],by simp [g2],by simp [g37],by simp [g38],by simp [g39],by simp [g9],by simp [g82],M3,ps3,fun p hp=>hps3 p.1 p.2 hp,hM3,fun p hp=>hcov3 p.1 p.2.1 p.2.2 hp,h16⟩
       ·simp [berrV]
        exact .inr ⟨rfl,hfl,M3,h16⟩
      | false =>
       rw [hbw] at ox15
       simp [hbw,cF,cA] at fin
       simp [g0,g1,g2,g37,g38,g39,g9,g82,hcj,hlj,cell_blk ox15,cell_blk ob15,cell_blk oa15]
       refine cl_of (bmeet_spec mb pa.2.1 pa.1 pb.2.1 pb.1 M2 pa.2.2 pb.2.2 hC hL5 (h15.drew (MtA.lcl hL5)) hpa2 hpb2 (by omega) (by omega) hM2.bf hM2.ba) ?_
       rintro v w12 hr
       rcases fin hr with ⟨rfl,M3,ps3,hps3,hM3,hcov3,h16⟩ | ⟨rfl,hfl,M3,h16⟩
       ·simp [g0,g1,g2,g37,g38,g39,g9,g82,hcj,hlj]
        exact ⟨by simp [g0],by simp [g1],by simp [g2],by simp [g37],by simp [g38],by simp [g39],by simp [g9],by simp [g82],M3,ps3,fun p hp=>hps3 p.1 p.2 hp,hM3,fun p hp=>hcov3 p.1 p.2.1 p.2.2 hp,h16⟩
       ·simp [berrV]
        exact .inr ⟨rfl,hfl,M3,h16⟩
     ·rintro ρ w10 ⟨g0,g1,g2,g37,g38,g39,g9,g82,M2,ps2,hps2,hM2,hcov2,h12⟩
      rw [List.take_length] at hcov2
      simp [g0,g1,g2,g37,g38,g39]
      refine ⟨by simp [g0],by simp [g1],by simp [g2],by simp [g37],M2,ps2,hps2,⟨hM2.le,hM2.src,fun pa' h1 pb' h2=>?_,hM2.bf,hM2.ba⟩,?_⟩
      ·rw [take_snoc hpa] at h1
       rcases List.mem_append.1 h1 with h1 | h1
       ·exact hM2.cov pa' h1 pb' h2
       ·rcases List.mem_singleton.1 h1 with rfl
        exact hLBc M2 pb' h2 hcov2
      ·rw [hB2,hB1] at h12
       exact h12.by (MtA.fr (Imp.dr.trans Imp.dr))
   ·rintro ρ w5 ⟨g0,g1,g2,g37,M1,ps1,hps1,hM1,h5⟩
    simp
    refine ⟨M1,ps1,hps1,⟨hM1.le,fun pa pb h1 h2=>hM1.cov pa (by rw [List.take_length]; exact (hLA pa).2 h1) pb h2,hM1.src⟩,h5.by (MtA.fr Imp.dr)⟩
 ·rintro ρ w' ⟨M',ps',h4,h5,h6⟩
  simp
  exact .inl ⟨rfl,M',ps',h4,h5,h6⟩
end
end Go.Proofs.YtkhfdmelcpfgoaaGreat
end
section
set_option maxRecDepth 100000
set_option linter.unusedSimpArgs false
set_option linter.unusedVariables false
namespace Go.Bi
variable {σ:Type} {V:σ→Prop} {Step:Nat→σ→σ→Prop} {k:Nat→Nat} {S0 G:σ→Prop} {wf wb:List (Wp σ)} {clf clb:σ→Bool} {opf opb:List (Nat × (σ→Bool))}
theorem two_low (hf:SdOk V Step k S0 wf clf opf) (hb:SdOk V (fun op x z=>Step op z x) k G wb clb opb) (C c d:Nat) (hcd:C≤c+d) (hfo:∀ p,p ∈ opf→c≤p.1) (hbo:∀ p,p ∈ opb→d≤p.1) (hlb:∀ w,w ∈ wb→w.cost≤d)
  (h1:∀ w,w ∈ wf→∀ u,u ∈ wb→∀ z,V z→w.all z=true→u.all z=true→C≤w.cost+u.cost)
  (h2:∀ p,p ∈ opf→∀ u,u ∈ wb→∀ z,V z→p.2 z=true→u.all z=true→C≤p.1+u.cost)
  (h3:∀ w,w ∈ wf→∀ p,p ∈ opb→∀ z,V z→w.all z=true→p.2 z=true→C≤w.cost+p.1) :
  ∃ H,Lo V Step k G H∧(∀ z,H z≤C)∧∀ z,V z→S0 z→H z=C:=by
 have hB:=bwd_low hb d hlb hbo fun z hz hg=>by
  rcases hb.st z hz hg with h | ⟨p,hp,_,e⟩
  ·exact .inl h
  ·have:=hbo p hp
   exact .inr (by omega)
 have hBC:∀ z,V z→∀ p,p ∈ opf→p.2 z=true→C≤p.1+min (gOf wb d z) C:=fun z hz p hp e=>by
  rcases hb.dec hz with ⟨u,hu,e2⟩ | hn
  ·rw [gOf_at hb.dis hz hu e2]
   have:=h2 p hp u hu z hz e e2
   omega
  ·rw [gOf_not hn]
   have:=hfo p hp
   omega
 refine ⟨fun z=>if clf z=true then max (min (gOf wb d z) C) (C - gOf wf 0 z) else min (gOf wb d z) C,⟨fun z hz hg=>?_,fun op x y hx hy he=>?_⟩,fun z=>?_,fun z hz hs=>?_⟩
 ·have e0:=hB.1 z hz hg
  show (if _ then _ else _)=_
  rw [e0]
  by_cases e:clf z=true
  ·rw [if_pos e]
   obtain ⟨w,hw,ew⟩:=(hf.cl z hz).1 e
   rw [gOf_at hf.dis hz hw ew]
   have:C≤w.cost:=by
    rcases hb.st z hz hg with ⟨u,hu,eu,e1⟩ | ⟨p,hp,ep,e1⟩
    ·have:=h1 w hw u hu z hz ew eu; omega
    ·have:=h3 w hw p hp z hz ew ep; omega
   omega
  ·rw [if_neg e]; omega
 ·have e0:=hB.2 op x y hx hy he
  have hy0:min (gOf wb d y) C≤(if clf y=true then max (min (gOf wb d y) C) (C - gOf wf 0 y) else min (gOf wb d y) C):=by split <;> omega
  show (if _ then _ else _)≤(if _ then _ else _)+_
  by_cases e:clf x=true
  ·rw [if_pos e]
   obtain ⟨w,hw,ew⟩:=(hf.cl x hx).1 e
   rw [gOf_at hf.dis hx hw ew]
   have key:C - w.cost≤(if clf y=true then max (min (gOf wb d y) C) (C - gOf wf 0 y) else min (gOf wb d y) C)+k op:=by
    rcases hf.out w hw x op y ew hy he with ⟨w',hw',e',hl⟩ | ⟨p,hp,e',hl⟩
    ·rw [if_pos ((hf.cl y hy).2 ⟨w',hw',e'⟩),gOf_at hf.dis hy hw' e']
     omega
    ·have:=hBC y hy p hp e'
     omega
   omega
  ·rw [if_neg e]
   omega
 ·show (if _ then _ else _)≤_
  by_cases e:clf z=true
  ·rw [if_pos e]; omega
  ·rw [if_neg e]; omega
 ·show (if _ then _ else _)=_
  rcases hf.st z hz hs with ⟨w,hw,ew,e0⟩ | ⟨p,hp,ep,e0⟩
  ·rw [if_pos ((hf.cl z hz).2 ⟨w,hw,ew⟩),gOf_at hf.dis hz hw ew,e0]
   omega
  ·have:=hBC z hz p hp ep
   by_cases e:clf z=true
   ·rw [if_pos e]; omega
   ·rw [if_neg e]; omega
end Go.Bi
namespace Go.Proofs.YtkhfdmelcpfgoaaGreat
open Go Go.W Go.Tk Go.Rx Go.Bd Go.Sy Go.Maps
structure TwD (T:Nt) (ps:List Kq) (df db:Sd) (M:Mt):Prop where
 fw:df.bw=false
 bw:db.bw=true
 z0:(0,fun _=>false) ∈ ps
 kf:SdK ps df
 kb:SdK ps db
 gf:SdG T (fun z=>stP T false z=true) df
 gb:SdG T (fun z=>stP T true z=true) db
 bf:SdBd T df
 bb:SdBd T db
 cov:(df.wl=[]∧db.wl=[]∧M.fd=false)∨∀ pa pb,KnB df pa→KnB db pb→Cov T.vars M pa pb
 src:M.fd=true→StN T.vars M.st∧TrcD T (fun z=>stP T false z=true) df M.f M.st∧TrcD T (fun z=>stP T true z=true) db M.a M.st
 mf:M.f≤600000000
 ma:M.a≤600000000
section
variable {T:Nt} {ps ps':List Kq} {df db d d':Sd} {M M':Mt} {S0:List Nat→Prop} {y:Wm} {op':List (Nat × Kq)}
theorem TwD.mono (h:TwD T ps df db M) (hp:∀ p ∈ ps,p ∈ ps'):TwD T ps' df db M:={ h with z0:=hp _ h.z0,kf:=h.kf.mono hp,kb:=h.kb.mono hp }
theorem Cov.symm {vars:List Nat} {pa pb:Nat × Kq} (h:Cov vars M pa pb):Cov vars M pb pa:=fun ⟨z,h1,h2,h3⟩=>by
 obtain ⟨a,b⟩:=h ⟨z,h1,h3,h2⟩
 exact ⟨a,by omega⟩
theorem Cov.sub {vars:List Nat} {pa pb pa' pb':Nat × Kq} (h:Cov vars M pa' pb') (ea:pa'.1=pa.1) (eb:pb'.1=pb.1) (ha:∀ z,StN vars z→pa.2.2 z=true→pa'.2.2 z=true) (hb:∀ z,StN vars z→pb.2.2 z=true→pb'.2.2 z=true):Cov vars M pa pb:=fun ⟨z,h1,h2,h3⟩=>by
 obtain ⟨a,b⟩:=h ⟨z,h1,ha z h1 h2,hb z h1 h3⟩
 exact ⟨a,by omega⟩
theorem KnB.less {vars:List Nat} {p:Nat × Kq} (hs:∀ p ∈ op',∃ S:Kq,(p.1,S) ∈ d.opn∧∀ z,StN vars z→p.2.2 z=true→S.2 z=true) (h:KnB { d with opn:=op' } p):∃ p',KnB d p'∧p'.1=p.1∧∀ z,StN vars z→p.2.2 z=true→p'.2.2 z=true:=by
 rcases h with h | ⟨u,hu,rfl⟩
 ·obtain ⟨S,hS,hi⟩:=hs p h
  exact ⟨_,.inl hS,rfl,hi⟩
 ·exact ⟨_,.inr ⟨u,hu,rfl⟩,rfl,fun _ _ h=>h⟩
theorem TwD.lessF (h:TwD T ps df db M) (hs:∀ p ∈ op',∃ S:Kq,(p.1,S) ∈ df.opn∧∀ z,StN T.vars z→p.2.2 z=true→S.2 z=true) (hn:(op'.map (·.1)).Nodup) (hk:SdK ps { df with opn:=op' }) (hg:SdG T (fun z=>stP T false z=true) { df with opn:=op' }):TwD T ps { df with opn:=op' } db M :=
 { h with kf:=hk,gf:=hg,bf:=h.bf.next (fun p hp=>by obtain ⟨S,hS,_⟩:=hs p hp; exact ⟨S,hS⟩) hn,cov:=(by
   rcases h.cov with hc | hc
   ·exact .inl hc
   ·refine .inr fun pa pb h1 h2=>?_
    obtain ⟨p',h3,e,hi⟩:=KnB.less hs h1
    exact (hc p' pb h3 h2).sub e rfl hi fun _ _ h=>h) }
theorem TwD.lessB (h:TwD T ps df db M) (hs:∀ p ∈ op',∃ S:Kq,(p.1,S) ∈ db.opn∧∀ z,StN T.vars z→p.2.2 z=true→S.2 z=true) (hn:(op'.map (·.1)).Nodup) (hk:SdK ps { db with opn:=op' }) (hg:SdG T (fun z=>stP T true z=true) { db with opn:=op' }):TwD T ps df { db with opn:=op' } M :=
 { h with kb:=hk,gb:=hg,bb:=h.bb.next (fun p hp=>by obtain ⟨S,hS,_⟩:=hs p hp; exact ⟨S,hS⟩) hn,cov:=(by
   rcases h.cov with hc | hc
   ·exact .inl hc
   ·refine .inr fun pa pb h1 h2=>?_
    obtain ⟨p',h3,e,hi⟩:=KnB.less hs h2
    exact (hc pa p' h1 h3).sub rfl e (fun _ _ h=>h) hi) }
theorem kn_trc (hg:SdG T S0 d) {p:Nat × Kq} (h:KnB d p) {z:List Nat} (hz:StN T.vars z) (e:p.2.2 z=true):TrcD T S0 d p.1 z:=by
 rcases h with h | ⟨u,hu,rfl⟩
 ·exact .inl (hg.org (p.1,p.2.2) (List.mem_map.2 ⟨p,h,rfl⟩) z hz e)
 ·exact .inr ⟨wmW u,List.mem_map.2 ⟨u,hu,rfl⟩,rfl,e⟩
theorem kn_le (hb:SdBd T d) {p:Nat × Kq} (h:KnB d p):p.1≤600000000:=by
 have h1:=hb.wl
 have h2:=hb.nN
 rcases h with h | ⟨u,hu,rfl⟩
 ·have h3:p.1≤d.wl.length * 1048576:=hb.oc p h
  omega
 ·have h3:u.cost≤d.wl.length * 1048576:=hb.wc u hu
  show u.cost≤_
  omega
theorem KnA.b (hy:y ∈ d.wl) {p:Nat × Kq} (h:KnA d y p):KnB d p:=by
 rcases h with h | rfl
 ·exact .inl h
 ·exact .inr ⟨y,hy,rfl⟩
theorem trc_wl {c:Nat} {z:List Nat} (hb:d'.bw=d.bw) (hw:d'.wl=d.wl ++ [y]) (h:TrcD T S0 d c z):TrcD T S0 d' c z:=by
 show Go.Bi.Trc (EB T d'.bw) (kB T) S0 (d'.wl.map wmW) c z
 rw [hb,hw,List.map_append]
 exact h.mono fun w hw=>List.mem_append.2 (.inl hw)
theorem TwD.updF (h:TwD T ps df db M) {d':Sd} (hbw:d'.bw=df.bw) (hwl:d'.wl=df.wl ++ [y]) (hk:SdK ps d') (hg:SdG T (fun z=>stP T false z=true) d') (hb:SdBd T d') (hu:UpOk T.vars d'.bw (KnA d' y) (KnB db) M M'):TwD T ps d' db M':=by
 have hyw:y ∈ d'.wl:=by rw [hwl]; simp
 have e0:d'.bw=false:=hbw.trans h.fw
 have hs:M'.fd=true→StN T.vars M'.st∧TrcD T (fun z=>stP T false z=true) d' M'.f M'.st∧TrcD T (fun z=>stP T true z=true) db M'.a M'.st:=fun hf=>by
  rcases hu.src with rfl | ⟨_,h1,pa,pb,h2,h3,h4,h5,h6,h7⟩
  ·obtain ⟨a,b,c⟩:=h.src hf
   exact ⟨a,trc_wl hbw hwl b,c⟩
  ·rw [h6,h7,e0]
   exact ⟨h1,kn_trc hg (KnA.b hyw h2) h1 h4,kn_trc h.gb h3 h1 h5⟩
 have hfa:M'.f≤600000000∧M'.a≤600000000:=by
  rcases hu.src with rfl | ⟨_,h1,pa,pb,h2,h3,h4,h5,h6,h7⟩
  ·exact ⟨h.mf,h.ma⟩
  ·rw [h6,h7,e0]
   exact ⟨kn_le hb (KnA.b hyw h2),kn_le h.bb h3⟩
 refine ⟨e0,h.bw,h.z0,hk,h.kb,hg,h.gb,hb,h.bb,.inr fun pa pb h1 h2=>?_,hs,hfa.1,hfa.2⟩
 rcases h1 with h1 | ⟨u,hu1,rfl⟩
 ·exact hu.cov pa pb (.inl h1) h2
 ·rw [hwl] at hu1
  rcases List.mem_append.1 hu1 with hu1 | hu1
  ·rcases h.cov with ⟨e,_⟩ | hc
   ·rw [e] at hu1; cases hu1
   ·exact (hc _ pb (.inr ⟨u,hu1,rfl⟩) h2).mono hu.le
  ·rcases List.mem_singleton.1 hu1 with rfl
   exact hu.cov _ pb (.inr rfl) h2
theorem TwD.updB (h:TwD T ps df db M) {d':Sd} (hbw:d'.bw=db.bw) (hwl:d'.wl=db.wl ++ [y]) (hk:SdK ps d') (hg:SdG T (fun z=>stP T true z=true) d') (hb:SdBd T d') (hu:UpOk T.vars d'.bw (KnA d' y) (KnB df) M M'):TwD T ps df d' M':=by
 have hyw:y ∈ d'.wl:=by rw [hwl]; simp
 have e0:d'.bw=true:=hbw.trans h.bw
 have hs:M'.fd=true→StN T.vars M'.st∧TrcD T (fun z=>stP T false z=true) df M'.f M'.st∧TrcD T (fun z=>stP T true z=true) d' M'.a M'.st:=fun hf=>by
  rcases hu.src with rfl | ⟨_,h1,pa,pb,h2,h3,h4,h5,h6,h7⟩
  ·obtain ⟨a,b,c⟩:=h.src hf
   exact ⟨a,b,trc_wl hbw hwl c⟩
  ·rw [h6,h7,e0]
   exact ⟨h1,kn_trc h.gf h3 h1 h5,kn_trc hg (KnA.b hyw h2) h1 h4⟩
 have hfa:M'.f≤600000000∧M'.a≤600000000:=by
  rcases hu.src with rfl | ⟨_,h1,pa,pb,h2,h3,h4,h5,h6,h7⟩
  ·exact ⟨h.mf,h.ma⟩
  ·rw [h6,h7,e0]
   exact ⟨kn_le h.bf h3,kn_le hb (KnA.b hyw h2)⟩
 refine ⟨h.fw,e0,h.z0,h.kf,hk,h.gf,hg,h.bf,hb,.inr fun pa pb h1 h2=>?_,hs,hfa.1,hfa.2⟩
 rcases h2 with h2 | ⟨u,hu1,rfl⟩
 ·exact (hu.cov pb pa (.inl h2) h1).symm
 ·rw [hwl] at hu1
  rcases List.mem_append.1 hu1 with hu1 | hu1
  ·rcases h.cov with ⟨_,e,_⟩ | hc
   ·rw [e] at hu1; cases hu1
   ·exact (hc pa _ h1 (.inr ⟨u,hu1,rfl⟩)).mono hu.le
  ·rcases List.mem_singleton.1 hu1 with rfl
   exact (hu.cov _ pa (.inr rfl) h1).symm
theorem TwD.noF (h:TwD T ps df db M) (hf:M.fd=false):∀ y ∈ df.wl,∀ z,StN T.vars z→stP T true z=true→y.all z=false:=fun y hy z hz hs=>by
 cases e:y.all z with
 | false=>rfl
 | true =>
  exfalso
  rcases h.cov with ⟨e1,_⟩ | hc
  ·rw [e1] at hy; cases hy
  ·rcases h.gb.st z hz hs with ⟨w,hw,ew,_⟩ | ⟨p,hp,ep,_⟩
   ·obtain ⟨u,hu,rfl⟩:=List.mem_map.1 hw
    have:=(hc _ _ (.inr ⟨y,hy,rfl⟩) (.inr ⟨u,hu,rfl⟩) ⟨z,hz,e,ew⟩).1
    rw [hf] at this; cases this
   ·obtain ⟨u,hu,rfl⟩:=List.mem_map.1 hp
    have:=(hc _ _ (.inr ⟨y,hy,rfl⟩) (.inl hu) ⟨z,hz,e,ep⟩).1
    rw [hf] at this; cases this
theorem TwD.noB (h:TwD T ps df db M) (hf:M.fd=false):∀ y ∈ db.wl,∀ z,StN T.vars z→stP T false z=true→y.all z=false:=fun y hy z hz hs=>by
 cases e:y.all z with
 | false=>rfl
 | true =>
  exfalso
  rcases h.cov with ⟨_,e1,_⟩ | hc
  ·rw [e1] at hy; cases hy
  ·rcases h.gf.st z hz hs with ⟨w,hw,ew,_⟩ | ⟨p,hp,ep,_⟩
   ·obtain ⟨u,hu,rfl⟩:=List.mem_map.1 hw
    have:=(hc _ _ (.inr ⟨u,hu,rfl⟩) (.inr ⟨y,hy,rfl⟩) ⟨z,hz,ew,e⟩).1
    rw [hf] at this; cases this
   ·obtain ⟨u,hu,rfl⟩:=List.mem_map.1 hp
    have:=(hc _ _ (.inl hu) (.inr ⟨y,hy,rfl⟩) ⟨z,hz,ep,e⟩).1
    rw [hf] at this; cases this
theorem TwD.infF (h:TwD T ps df db M) (hg:NtG T) (hf:M.fd=false) (hn:NoneOk T.vars df) (I:Nat):∃ H,LoT T H∧(∀ z,StN T.vars z→H z≤I)∧H T.init=I :=
 none_inf (bw:=false) (ps:=(0,stP T (!false)) :: ps) (en:=0) hg ⟨h.fw,.tail _ h.z0,.head _,h.kf.cons,h.gf,h.bf,h.noF hf,rfl⟩ hn I
theorem TwD.infB (h:TwD T ps df db M) (hg:NtG T) (hf:M.fd=false) (hn:NoneOk T.vars db) (I:Nat):∃ H,LoT T H∧(∀ z,StN T.vars z→H z≤I)∧H T.init=I :=
 none_inf (bw:=true) (ps:=(0,stP T (!true)) :: ps) (en:=0) hg ⟨h.bw,.tail _ h.z0,.head _,h.kb.cons,h.gb,h.bb,h.noB hf,rfl⟩ hn I
theorem TwD.low (h:TwD T ps df db M) (hg:NtG T) (hf:M.fd=true) (c d:Nat) (hcd:M.f+M.a≤c+d) (hfo:∀ p ∈ df.opn,c≤p.1) (hbo:∀ p ∈ db.opn,d≤p.1) (hlb:∀ u ∈ db.wl,u.cost≤d) :
  ∃ H,LoT T H∧(∀ z,StN T.vars z→H z≤M.f+M.a)∧H T.init=M.f+M.a:=by
 have hc:∀ pa pb,KnB df pa→KnB db pb→Cov T.vars M pa pb:=by
  rcases h.cov with ⟨_,_,e⟩ | hc
  ·rw [hf] at e; cases e
  ·exact hc
 have hgf:Go.Bi.SdOk (StN T.vars) (StepT T) (kB T) (fun z=>stP T false z=true) (df.wl.map wmW) df.cl (df.opn.map fun p=>(p.1,p.2.2)):=by
  have h1:Go.Bi.SdOk (StN T.vars) (EB T df.bw) (kB T) (fun z=>stP T false z=true) (df.wl.map wmW) df.cl (df.opn.map fun p=>(p.1,p.2.2)):=h.gf
  rw [h.fw] at h1
  exact h1
 have hgb:Go.Bi.SdOk (StN T.vars) (fun op x z=>StepT T op z x) (kB T) (GoalT T) (db.wl.map wmW) db.cl (db.opn.map fun p=>(p.1,p.2.2)):=by
  have e1:(fun op x z=>StepT T op z x)=EB T true:=by
   funext op x z
   apply propext
   exact ⟨fun h=>EB.flip (bw:=true) h,fun h=>EB.flip (bw:=false) h⟩
  have e2:GoalT T=fun z=>stP T true z=true:=by
   funext z
   simp [stP]
  rw [e1,e2]
  have h1:Go.Bi.SdOk (StN T.vars) (EB T db.bw) (kB T) (fun z=>stP T true z=true) (db.wl.map wmW) db.cl (db.opn.map fun p=>(p.1,p.2.2)):=h.gb
  rw [h.bw] at h1
  exact h1
 obtain ⟨H,h1,h2,h3⟩:=Go.Bi.two_low hgf hgb (M.f+M.a) c d hcd (fun p hp=>by
   obtain ⟨a,ha,rfl⟩:=List.mem_map.1 hp
   exact hfo a ha) (fun p hp=>by
   obtain ⟨a,ha,rfl⟩:=List.mem_map.1 hp
   exact hbo a ha) (fun w hw=>by
   obtain ⟨u,hu,rfl⟩:=List.mem_map.1 hw
   exact hlb u hu) (fun w hw u hu z hz e1 e2=>by
   obtain ⟨a,ha,rfl⟩:=List.mem_map.1 hw
   obtain ⟨b,hb,rfl⟩:=List.mem_map.1 hu
   exact (hc _ _ (.inr ⟨a,ha,rfl⟩) (.inr ⟨b,hb,rfl⟩) ⟨z,hz,e1,e2⟩).2) (fun p hp u hu z hz e1 e2=>by
   obtain ⟨a,ha,rfl⟩:=List.mem_map.1 hp
   obtain ⟨b,hb,rfl⟩:=List.mem_map.1 hu
   exact (hc _ _ (.inl ha) (.inr ⟨b,hb,rfl⟩) ⟨z,hz,e1,e2⟩).2) (fun w hw p hp z hz e1 e2=>by
   obtain ⟨a,ha,rfl⟩:=List.mem_map.1 hw
   obtain ⟨b,hb,rfl⟩:=List.mem_map.1 hp
   exact (hc _ _ (.inr ⟨a,ha,rfl⟩) (.inl hb) ⟨z,hz,e1,e2⟩).2)
 exact ⟨H,h1,fun z _=>h2 z,h3 _ (init_st hg) (by simp [stP])⟩
theorem RunT.append:∀ {l1 l2:List Nat} {s z z':List Nat} {c1 c2:Nat},RunT T s l1 z c1→RunT T z l2 z' c2→RunT T s (l1 ++ l2) z' (c1+c2)
 | [],l2,s,z,z',c1,c2,h1,h2=>by
  obtain ⟨rfl,rfl⟩:=h1
  rw [Nat.zero_add]
  exact h2
 | a :: l1,l2,s,z,z',c1,c2,h1,h2=>by
  obtain ⟨o,ho,hp,hc,h⟩:=h1
  refine ⟨o,ho,hp,by omega,?_⟩
  have:=RunT.append h h2
  rwa [show c1 - o.cost+c2=c1+c2 - o.cost by omega] at this
theorem TwD.begin (hg:SdG T (fun z=>stP T false z=true) df) (hg2:SdG T (fun z=>stP T true z=true) db) (h1:df.bw=false) (h2:db.bw=true) (h3:df.wl=[]) (h4:db.wl=[]) (h0:(0,fun _=>false) ∈ ps) (kf:SdK ps df) (kb:SdK ps db) (bf:SdBd T df) (bb:SdBd T db):TwD T ps df db ⟨.slice none 0 0,[],0,0,false⟩ :=
 ⟨h1,h2,h0,kf,kb,hg,hg2,bf,bb,.inl ⟨h3,h4,rfl⟩,fun h=>(by cases h),Nat.zero_le _,Nat.zero_le _⟩
end
end Go.Proofs.YtkhfdmelcpfgoaaGreat
end
