/-
  A part of the proof of this claim's statement (BiD, BiE, BiF, BiG, LibP): plain theorems; no conditions beyond those each names.
-/
import Derived.Test.YtkhfdmelcpfgoaaGreatPk22
import Derived.Test.YtkhfdmelcpfgoaaGreatPk08
section
set_option maxRecDepth 100000
set_option linter.unusedSimpArgs false
set_option linter.unusedVariables false
namespace Go.Proofs.YtkhfdmelcpfgoaaGreat
open Go Go.W Go.Tk Go.Rx Go.Bd Go.Sy Go.Maps
def opZ:Obj:=.cells #[.string ByteArray.empty,.int .i64 0,.slice none 0 0,.slice none 0 0] 50 (0,0)
def opO (o:No):Obj:=.cells #[.string o.name,.int .i64 (o.cost:Nat),o.pv.1,o.ev.1] 50 (0,0)
def bkS (y:Wm) (i:Int):List Nat→Bool:=if 0 < i then (y.pl[(i - 1).toNat]?.map (·.2)).getD (fun _=>false) else y.all
def BkC (d:Sd) (i:Int) (c:Nat) (o:No) (z:List Nat):Prop:=(0 < i↔o.cost=0)∧∃ y ∈ d.wl,y.cost+o.cost=c∧bkS y i z=true
def NoB (T:Nt) (d:Sd) (i:Int) (c:Nat) (st:List Nat) (k:Nat):Prop:=∀ op o,op < k→T.ops[op]?=some o→∀ z,EB T d.bw op z st→¬ BkC d i c o z
section
variable {w w1:World} {F:List Nat} {A B B':Asr} {s m lim:Nat} {T T':Nt} {q:SpC} {ps:List Kq}
def BackR (s m lim:Nat) (T T':Nt) (q:SpC) (ps:List Kq) (B:Asr) (w:World) (F:List Nat) (d:Sd) (c:Nat) (st:List Nat) (v:Value) (w':World):Prop :=
 (∃ op o u st' i,T.ops[op]?=some o∧PrtR d c st i∧o.cost≤c∧v=.tuple #[.int .i64 (op:Nat),u,.int .i64 ((c - o.cost:Nat):Int),.nilIface]∧StN T.vars st'∧EB T d.bw op st' st∧BkC d i c o st'∧FsX s m lim T' q ps (Star (OwnA u 3 1 nE st') B) w F w') ∨
 (v=.tuple #[.int .i64 0,.slice none 0 0,.int .i64 0,berrV 10]∧Full T' lim∧At w F B w') ∨
 (∃ i,PrtR d c st i∧NoB T d i c st T.ops.length)
def BkI (s m lim:Nat) (T T':Nt) (q:SpC) (ps:List Kq) (B:Asr) (w:World) (F:List Nat) (x:Nat) (d:Sd) (c:Nat) (sv:Value) (st:List Nat) (i:Int) (k:Nat) (ρ:Env) (w':World):Prop :=
 ρ 0=.pointer (some ⟨x,0,none⟩)∧ρ 1=sv∧ρ 2=.int .i64 (c:Nat)∧ρ 10=.int .i64 i∧ρ 33=T.ov.1∧NoB T d i c st k∧FsX s m lim T' q ps B w F w'
set_option maxHeartbeats 2000000 in
theorem bback_spec (x c:Nat) (d:Sd) (sv:Value) (st:List Nat) (hC:BC T T' lim) (hB:Lcl B) (h:FsA s m lim T' q ps B w F w1) (hx:Rds B fun w'=>SdR w' x T s d) (hT:Rds B fun w'=>NtR w' T) (hk:SdK ps d) (hl:SdL d) (hr:Rds B fun w'=>Vw w' sv nE st) (hst:StN T.vars st) (hu:∀ y ∈ d.wl,∀ y' ∈ d.wl,y.cost=y'.cost→y=y') (hcb:c≤1000000000000) :
  Calls Tryz.prog 89 [.pointer (some ⟨x,0,none⟩),sv,.int .i64 (c:Nat)].toArray w1 fun en w'=>∃ v,en=.returned v∧BackR s m lim T T' q ps B w F d c st v w':=by
 refine enter Tryz.func89 mixed low89 (Nat.le_of_ble_eq_true rfl) ?_
 simp only [L89]
 have hst':StN T'.vars st:=by rw [hC.alk.vars]; exact hst
 have hol:=hC.g.olen
 simp
 refine cl_of (bpart_spec x d c sv st hB h hx hk hl hr hst') ?_
 rintro _ w2 ⟨i,rfl,hpr,h2⟩
 have ox:=(h2.frame hx).obj
 unfold sdO at ox
 simp [cell_blk ox,(h2.frame hT).ops.len]
 refine range_loop (n:=T.ops.length) (by omega) (BkI s m lim T T' q ps B w F x d c sv st i) (by simp) (by simp)
  ⟨by simp,by simp,by simp,by simp,by simp,fun op o hop=>by omega,ps,fun _ h=>h,h2⟩ (by decide) (fun _ _ _ _ h=>by simpa [BkI] using h) (fun _ _ _ _ h=>by simpa [BkI] using h) ?_ ?_
 ·rintro k ρ w3 hk3 hc hlm ⟨g0,g1,g2,g10,g33,hno,ps3,hps3,h3⟩
  obtain ⟨o,ho⟩:∃ o,T.ops[k]?=some o:=⟨_,List.getElem?_eq_getElem hk3⟩
  have hoc:=(hC.g.ops o (List.mem_of_getElem? ho)).cost
  have hT3:=h3.frame hT
  have ec:=hT3.ops.cells noE_len ho
  simp only [noE] at ec
  have hki:(k:Int) < T.ops.length:=by omega
  obtain ⟨ob,hob⟩:∃ ob,ob=w3.heap.size:=⟨_,rfl⟩
  have h4:=h3.alloc opZ hB
  rw [← hob] at h4
  simp (disch:=omega) [g0,g1,g2,g10,g33,hc,hlm,hT3.ops.idx,ec]
  rw [← hob]
  refine h4.st hB (by simp) (by simp [o.pv.2,o.ev.2]) fun w4 h5=>?_
  replace h5:FsA s m lim T' q ps3 (Star (ObjA ob (opO o)) B) w F w4:=by simpa [opZ,opO] using h5
  have hB5:Lcl (Star (ObjA ob (opO o)) B):=Lcl.obj.star hB
  have oo:=h5.obj
  unfold opO at oo
  simp (disch:=omega) [g0,g1,g2,g10,g33,hc,hlm,cell_blk oo,wrap_i64]
  refine cl_of (bat_spec x s T d ((c:Int) - (o.cost:Int)) (h5.frame (Rds.star hx)) hl.wl) ?_
  rintro _ w5 ⟨hat,k5⟩
  have h6:=h5.kp0 hB5 k5
  obtain ⟨yb,hyb⟩:∃ yb,yb=w5.heap.size:=⟨_,rfl⟩
  have h7:=h6.alloc (.cells #[.int .i64 0,.slice none 0 0,.int .i64 0] 74) hB5
  rw [← hyb] at h7
  rcases hat with ⟨y,hy,ey,rfl⟩ | ⟨hny,rfl⟩
  ·simp [wmV]
   rw [← hyb]
   refine h7.st hB5 (by simp) (by simp [y.pv.2]) fun w6 h8=>?_
   replace h8:FsA s m lim T' q ps3 (Star (ObjA yb (.cells #[.int .i64 (y.cost:Nat),y.pv.1,.int .i64 (y.ai:Nat)] 74)) (Star (ObjA ob (opO o)) B)) w F w6:=by simpa using h8
   have oy:=h8.obj
   have oo8:=h8.less.obj
   unfold opO at oo8
   simp (disch:=omega) [g0,g1,g2,g10,g33,hc,hlm,cell_blk oy,cell_blk oo8]
   have hB8:Lcl (Star (ObjA yb (.cells #[.int .i64 (y.cost:Nat),y.pv.1,.int .i64 (y.ai:Nat)] 74)) (Star (ObjA ob (opO o)) B)):=Lcl.obj.star hB5
   have hx8:Rds (Star (ObjA yb (.cells #[.int .i64 (y.cost:Nat),y.pv.1,.int .i64 (y.ai:Nat)] 74)) (Star (ObjA ob (opO o)) B)) fun w'=>SdR w' x T s d:=Rds.star (Rds.star hx)
   refine cd_split (fun e=>?_) (fun e=>?_)
   ·have hne:¬ (0 < i↔o.cost=0):=fun hiff=>by
     by_cases h0:o.cost=0
     ·simp [h0,hiff.2 h0] at e
     ·have h1:¬ 0 < i:=fun h=>h0 (hiff.1 h)
      have h2:¬ (o.cost:Int)=0:=by omega
      simp [h1,h2,h0] at e
    simp (disch:=omega) [g0,g1,g2,g10,g33,hc,hlm]
    refine ⟨by simp [g0],by simp [g1],by simp [g2],by simp [g10],by simp [g33],fun op o' hop ho' z hz hb=>?_,ps3,hps3,h8.less.less⟩
    rcases Nat.lt_succ_iff_lt_or_eq.1 hop with hop | rfl
    ·exact hno op o' hop ho' z hz hb
    ·rw [ho] at ho'
     cases ho'
     exact hne hb.1
   have hiff:0 < i↔o.cost=0:=by
    by_cases h0:o.cost=0
    ·refine ⟨fun _=>h0,fun _=>?_⟩
     by_cases h1:0 < i
     ·exact h1
     ·simp [h0,h1] at e
    ·refine ⟨fun h1=>?_,fun h=>absurd h h0⟩
     have h2:¬ (o.cost:Int)=0:=by omega
     simp [h1,h2,h0] at e
   by_cases hi:0 < i
   ·obtain ⟨j,p,hpj,hij⟩:∃ (j:Nat) (p:Kq),y.pl[j]?=some p∧i=((j+1:Nat):Int):=by
     rcases hpr with ⟨y0,hy0,e0,kk,p,rfl,hp,_⟩ | ⟨e0,_⟩
     ·have:y0=y:=hu y0 hy0 y hy (by have:=hiff.1 hi; omega)
      subst this
      obtain ⟨j,rfl⟩:∃ j,kk=j+1:=⟨kk - 1,by omega⟩
      have hlt:=(List.getElem?_eq_some_iff.1 hp).1
      exact ⟨j,_,List.getElem?_eq_getElem (by omega),rfl⟩
     ·omega
    have hbk:bkS y i=p.2:=by
     unfold bkS
     rw [if_pos hi,hij]
     have:(((j+1:Nat):Int) - 1).toNat=j:=by omega
     rw [this,hpj]
     rfl
    have hpv:=(h8.frame hx8).prt y hy
    have cp:=nE_cell hpv (show (y.pl.map (·.1))[j]?=some p.1 by rw [List.getElem?_map,hpj]; rfl)
    have hjl:=(List.getElem?_eq_some_iff.1 hpj).1
    have hkm:(y.pl.map (·.1)).length=y.pl.length:=List.length_map _
    have hli:=hl.pl y hy
    have ei:∀ K:Kont Value,@intH .sub .i64 i .i64 1 K=K.run (.int .i64 (j:Nat)):=fun K=>by
     rw [intS_sub,hij]
     have:(((j+1:Nat):Int) - 1)=(j:Int):=by omega
     rw [this,wrap_i64 (by omega) (by omega)]
    simp (disch:=omega) [-intS_sub,ei,g0,g1,g2,g10,g33,hc,hlm,hi,cell_blk oy,hpv.idx,cp]
    refine cl_of (bfrom_spec x k (p.1) d o (p.2) sv st hC hB8 h8 hx8 (hps3 _ ((hk.all y hy).2 p (List.mem_of_getElem? hpj))) ho (Rds.star (Rds.star hr)) hst) ?_
    rintro _ w7 (⟨u,st',rfl,hs',e1,e2,ps7,hp7,h9⟩ | ⟨rfl,hno9,ps7,hp7,h9⟩ | ⟨rfl,hf,h9⟩)
    ·have oo9:=(h9.less.less).obj
     unfold opO at oo9
     have ej:((c:Int) - (o.cost:Int))=((c - o.cost:Nat):Int):=by omega
     simp (disch:=omega) [g0,g1,g2,g10,g33,hc,hlm,cell_blk oo9,wrap_i64]
     refine .inl ⟨k,o,u,st',i,ho,hpr,by omega,by rw [← ej],hs',e2,⟨hiff,y,hy,by omega,by rw [hbk]; exact e1⟩,ps7,fun p hp=>hp7 p (hps3 p hp),?_⟩
     exact ((h9.by (Imp.un Imp.dr)).by (Imp.un Imp.dr)).drew (Lcl.own.star hB)
    ·simp (disch:=omega) [g0,g1,g2,g10,g33,hc,hlm]
     refine ⟨by simp [g0],by simp [g1],by simp [g2],by simp [g10],by simp [g33],fun op o' hop ho' z hz hb=>?_,ps7,fun p hp=>hp7 p (hps3 p hp),h9.less.less⟩
     rcases Nat.lt_succ_iff_lt_or_eq.1 hop with hop | rfl
     ·exact hno op o' hop ho' z hz hb
     ·rw [ho] at ho'
      cases ho'
      obtain ⟨_,y',hy',ec',eb⟩:=hb
      rw [hu y' hy' y hy (by omega),hbk] at eb
      exact hno9 z eb hz
    ·simp (disch:=omega) [g0,g1,g2,g10,g33,hc,hlm,berrV]
     exact .inr (.inl ⟨rfl,hf,h9.drop.drop⟩)
   ·have hbk:bkS y i=y.all:=by
     unfold bkS
     rw [if_neg hi]
    simp (disch:=omega) [g0,g1,g2,g10,g33,hc,hlm,hi,cell_blk oy]
    refine cl_of (bfrom_spec x k (y.ai) d o (y.all) sv st hC hB8 h8 hx8 (hps3 _ (hk.all y hy).1) ho (Rds.star (Rds.star hr)) hst) ?_
    rintro _ w7 (⟨u,st',rfl,hs',e1,e2,ps7,hp7,h9⟩ | ⟨rfl,hno9,ps7,hp7,h9⟩ | ⟨rfl,hf,h9⟩)
    ·have oo9:=(h9.less.less).obj
     unfold opO at oo9
     have ej:((c:Int) - (o.cost:Int))=((c - o.cost:Nat):Int):=by omega
     simp (disch:=omega) [g0,g1,g2,g10,g33,hc,hlm,cell_blk oo9,wrap_i64]
     refine .inl ⟨k,o,u,st',i,ho,hpr,by omega,by rw [← ej],hs',e2,⟨hiff,y,hy,by omega,by rw [hbk]; exact e1⟩,ps7,fun p hp=>hp7 p (hps3 p hp),?_⟩
     exact ((h9.by (Imp.un Imp.dr)).by (Imp.un Imp.dr)).drew (Lcl.own.star hB)
    ·simp (disch:=omega) [g0,g1,g2,g10,g33,hc,hlm]
     refine ⟨by simp [g0],by simp [g1],by simp [g2],by simp [g10],by simp [g33],fun op o' hop ho' z hz hb=>?_,ps7,fun p hp=>hp7 p (hps3 p hp),h9.less.less⟩
     rcases Nat.lt_succ_iff_lt_or_eq.1 hop with hop | rfl
     ·exact hno op o' hop ho' z hz hb
     ·rw [ho] at ho'
      cases ho'
      obtain ⟨_,y',hy',ec',eb⟩:=hb
      rw [hu y' hy' y hy (by omega),hbk] at eb
      exact hno9 z eb hz
    ·simp (disch:=omega) [g0,g1,g2,g10,g33,hc,hlm,berrV]
     exact .inr (.inl ⟨rfl,hf,h9.drop.drop⟩)
  ·simp [wz]
   rw [← hyb]
   refine h7.st hB5 (by simp) (by simp) fun w6 h8=>?_
   simp (disch:=omega) [g0,g1,g2,g10,g33,hc,hlm]
   refine ⟨by simp [g0],by simp [g1],by simp [g2],by simp [g10],by simp [g33],fun op o' hop ho' z hz hb=>?_,ps3,hps3,h8.less.less⟩
   rcases Nat.lt_succ_iff_lt_or_eq.1 hop with hop | rfl
   ·exact hno op o' hop ho' z hz hb
   ·rw [ho] at ho'
    cases ho'
    obtain ⟨_,y',hy',ec',eb⟩:=hb
    exact hny y' hy' (by omega)
 ·rintro ρ w3 ⟨g0,g1,g2,g10,g33,hno,ps3,hps3,h3⟩
  simp
  exact .inr (.inr ⟨i,hpr,hno⟩)
end
end Go.Proofs.YtkhfdmelcpfgoaaGreat
end
section
set_option maxRecDepth 100000
set_option linter.unusedSimpArgs false
set_option linter.unusedVariables false
namespace Go.Proofs.YtkhfdmelcpfgoaaGreat
open Go Go.W Go.Tk Go.Rx Go.Bd Go.Sy Go.Maps
def RevK (l:List Nat) (i:Nat) (X:List Nat):Prop:=X.length=l.length∧∀ k,k < l.length→X.getD k 0=if k < i∨l.length≤k+i then l.getD (l.length - 1 - k) 0 else l.getD k 0
theorem RevK.zero (l:List Nat):RevK l 0 l:=⟨rfl,fun k hk=>by rw [if_neg (by omega)]⟩
theorem getD_set2 {l:List Nat} {i k x:Nat} (h:i < l.length):(l.set i x).getD k 0=if i=k then x else l.getD k 0:=by
 by_cases e:i=k
 ·subst e; rw [if_pos rfl]; simp [List.getD,List.getElem?_set_self h]
 ·rw [if_neg e]; simp only [List.getD,List.getElem?_set_ne e]
theorem RevK.step {l X:List Nat} {i:Nat} (h:RevK l i X) (hi:i < l.length - 1 - i):RevK l (i+1) ((X.set i (X.getD (l.length - 1 - i) 0)).set (l.length - 1 - i) (X.getD i 0)):=by
 obtain ⟨hl,hg⟩:=h
 refine ⟨by simp [hl],fun k hk=>?_⟩
 rw [getD_set2 (by simp [hl]; omega),getD_set2 (by omega)]
 by_cases e1:l.length - 1 - i=k
 ·subst e1
  rw [if_pos rfl,hg i (by omega),if_neg (by omega),if_pos (by omega)]
  congr 1; omega
 ·rw [if_neg e1]
  by_cases e2:i=k
  ·subst e2
   rw [if_pos rfl,hg _ (by omega),if_neg (by omega),if_pos (by omega)]
  ·rw [if_neg e2,hg k hk]
   by_cases h3:k < i∨l.length≤k+i
   ·rw [if_pos h3,if_pos (by omega)]
   ·rw [if_neg h3,if_neg (by omega)]
theorem RevK.last {l X:List Nat} {i:Nat} (h:RevK l i X) (hi:l.length - 1≤2 * i):X=l.reverse:=by
 obtain ⟨hl,hg⟩:=h
 refine List.ext_getElem (by simp [hl]) fun k h1 h2=>?_
 have hk:k < l.length:=by omega
 have e1:X.getD k 0=X[k]:=by simp [List.getD,List.getElem?_eq_getElem h1]
 have e2:l.reverse[k]=l.getD (l.length - 1 - k) 0:=by
  rw [List.getElem_reverse]
  simp [List.getD,List.getElem?_eq_getElem (show l.length - 1 - k < l.length by omega)]
 rw [← e1,e2,hg k hk]
 by_cases h3:k < i∨l.length≤k+i
 ·rw [if_pos h3]
 ·rw [if_neg h3]
  congr 1; omega
section
variable {w w1:World} {F:List Nat} {B:Asr}
def RvI (w:World) (F:List Nat) (B:Asr) (v:Value) (l:List Nat) (n:Nat) (ρ:Env) (w':World):Prop :=
 ∃ i X,ρ 0=v∧ρ 2=.int .i64 (i:Nat)∧ρ 3=.int .i64 ((l.length:Int) - 1 - (i:Int))∧i≤l.length∧n=l.length - i∧RevK l i X∧At w F (Star (OwnA v 3 1 nE X) B) w'
set_option maxHeartbeats 1000000 in
theorem reverse_spec (v:Value) (l:List Nat) (hB:Lcl B) (h:At w F (Star (OwnA v 3 1 nE l) B) w1) (hl:l.length≤1000000000000) :
  Calls Tryz.prog 90 [v].toArray w1 fun en w'=>∃ r,en=.returned r∧At w F (Star (OwnA v 3 1 nE l.reverse) B) w':=by
 refine enter Tryz.func90 mixed low90 (Nat.le_of_ble_eq_true rfl) ?_
 simp only [L90]
 have ho:=h.own
 simp (disch:=omega) [ho.len,wrap_i64]
 refine loop_inv (RvI w F B v l) _ ⟨0,l,by simp,by simp,by simp,Nat.zero_le _,rfl,RevK.zero l,h⟩ ?_
 rintro n ρ w2 ⟨i,X,g0,g2,g3,hil,hn,hX,h2⟩
 have hXl:=hX.1
 simp [g0,g2,g3]
 refine cd_split (fun e=>?_) (fun e=>?_)
 ·have e:(i:Int) < (l.length:Int) - 1 - (i:Int):=by simpa using e
  obtain ⟨j,hj⟩:∃ j:Nat,j=l.length - 1 - i:=⟨_,rfl⟩
  have hji:((l.length:Int) - 1 - (i:Int))=(j:Int):=by omega
  rw [hji] at g3
  have ho2:=h2.own
  have hi2:(i:Int) < X.length:=by omega
  have hj2:(j:Int) < X.length:=by omega
  obtain ⟨a,ea,ha⟩:∃ a,X[i]?=some a∧a=X.getD i 0:=⟨_,List.getElem?_eq_getElem (show i < X.length by omega),by simp [List.getD,List.getElem?_eq_getElem (show i < X.length by omega)]⟩
  obtain ⟨b,eb,hb⟩:∃ b,X[j]?=some b∧b=X.getD j 0:=⟨_,List.getElem?_eq_getElem (show j < X.length by omega),by simp [List.getD,List.getElem?_eq_getElem (show j < X.length by omega)]⟩
  have ci:=ho2.cell nE_len ea (o:=0) (by omega)
  have cj:=ho2.cell nE_len eb (o:=0) (by omega)
  simp only [Nat.mul_one,Nat.add_zero,nE,List.getElem?_cons_zero] at ci cj
  simp (disch:=omega) [g0,g2,g3,ho2.idx,ci,cj]
  refine At.store1 (k:=i) (x:=b) hB (h2.drew (Lcl.own.star hB)) nE_len nE_one (by omega) rfl fun w3 h3=>?_
  have ho3:=h3.own
  have hj3:(j:Int) < (X.set i b).length:=by simp; omega
  simp (disch:=omega) [g0,g2,g3,ho3.idx,hj3]
  refine At.store1 (k:=j) (x:=a) hB h3 nE_len nE_one (by simp; omega) rfl fun w4 h4=>?_
  simp (disch:=omega) [g0,g2,g3,wrap_i64]
  refine ⟨l.length - (i+1),by omega,i+1,_,by simp [g0],by simp,by simp; omega,by omega,rfl,?_,h4⟩
  rw [ha,hb,hj]
  exact hX.step (by omega)
 ·have e:¬ (i:Int) < (l.length:Int) - 1 - (i:Int):=by simpa using e
  simp
  rw [← hX.last (by omega)]
  exact h2
end
end Go.Proofs.YtkhfdmelcpfgoaaGreat
end
section
set_option maxRecDepth 100000
set_option linter.unusedSimpArgs false
set_option linter.unusedVariables false
namespace Go.Proofs.YtkhfdmelcpfgoaaGreat
open Go Go.W Go.Tk Go.Rx Go.Bd Go.Sy Go.Maps
def RunT (T:Nt):List Nat→List Nat→List Nat→Nat→Prop
 | s,[],z,c=>s=z∧c=0
 | s,op :: l,z,c=>∃ o,T.ops[op]?=some o∧hdB s o.pre=true∧o.cost≤c∧RunT T (apS o s) l z (c - o.cost)
theorem RunT.snoc {T:Nt} {op:Nat} {o:No} (ho:T.ops[op]?=some o):∀ {l s z c},RunT T s l z c→hdB z o.pre=true→RunT T s (l ++ [op]) (apS o z) (c+o.cost)
 | [],s,z,c,h,hp=>by
  obtain ⟨rfl,rfl⟩:=h
  exact ⟨o,ho,hp,by omega,rfl,by omega⟩
 | a :: l,s,z,c,h,hp=>by
  obtain ⟨o',ho',hp',hc,h⟩:=h
  refine ⟨o',ho',hp',by omega,?_⟩
  have:=RunT.snoc ho h hp
  rwa [show c+o.cost - o'.cost=c - o'.cost+o.cost by omega]
def PthI (T:Nt) (bw:Bool) (out:List Nat) (z cur:List Nat) (k:Nat):Prop:=if bw=true then RunT T z out cur k else RunT T cur out.reverse z k
theorem PthI.nil (T:Nt) (bw:Bool) (z:List Nat):PthI T bw [] z z 0:=by
 unfold PthI
 split
 ·exact ⟨rfl,rfl⟩
 ·exact ⟨rfl,rfl⟩
theorem PthI.step {T:Nt} {bw:Bool} {out:List Nat} {z cur st':List Nat} {k op:Nat} {o:No} (h:PthI T bw out z cur k) (ho:T.ops[op]?=some o) (he:EB T bw op st' cur):PthI T bw (out ++ [op]) z st' (k+o.cost):=by
 obtain ⟨_,_,o',ho',he⟩:=he
 rw [ho] at ho'
 cases ho'
 unfold PthI at h ⊢
 cases bw with
 | true =>
  simp only [if_true] at h he ⊢
  have:=RunT.snoc ho h he.1
  rwa [he.2] at this
 | false =>
  simp only [Bool.false_eq_true,if_false] at h he ⊢
  rw [List.reverse_append,List.reverse_singleton,List.singleton_append]
  refine ⟨o,ho,he.1,by omega,?_⟩
  rw [he.2,Nat.add_sub_cancel]
  exact h
abbrev SdG (T:Nt) (S0:List Nat→Prop) (d:Sd):Prop:=Go.Bi.SdOk (StN T.vars) (EB T d.bw) (kB T) S0 (d.wl.map wmW) d.cl (d.opn.map fun p=>(p.1,p.2.2))
abbrev TrcD (T:Nt) (S0:List Nat→Prop) (d:Sd) (c:Nat) (z:List Nat):Prop:=Go.Bi.Trc (EB T d.bw) (kB T) S0 (d.wl.map wmW) c z
section
variable {T:Nt} {S0:List Nat→Prop} {d:Sd} {c:Nat} {cur:List Nat} {i:Int}
theorem SdG.inj (h:SdG T S0 d):∀ y ∈ d.wl,∀ y' ∈ d.wl,y.cost=y'.cost→y=y':=by
 have h1:=h.asc
 rw [List.pairwise_map] at h1
 revert h1
 generalize d.wl=l
 intro h1
 induction l with
 | nil=>intro y hy; cases hy
 | cons a l ih =>
  rw [List.pairwise_cons] at h1
  intro y hy y' hy' e
  rcases List.mem_cons.1 hy with e1 | hy1
  ·rcases List.mem_cons.1 hy' with e2 | hy2
   ·rw [e1,e2]
   ·have:=h1.1 y' hy2
    rw [e1] at e
    have:a.cost < y'.cost:=this
    omega
  ·rcases List.mem_cons.1 hy' with e2 | hy2
   ·have:=h1.1 y hy1
    rw [e2] at e
    have:a.cost < y.cost:=this
    omega
   ·exact ih h1.2 y hy1 y' hy2 e
theorem prt_at {y:Wm} {k:Nat} {p:Kq} (hp:y.pl[k]?=some p):(wmW y).parts[k]?=some p.2:=by
 show (y.pl.map (·.2))[k]?=_
 rw [List.getElem?_map,hp]; rfl
theorem PrtR.uniq (hu:∀ y ∈ d.wl,∀ y' ∈ d.wl,y.cost=y'.cost→y=y') {j:Int} (h1:PrtR d c cur i) (h2:PrtR d c cur j):i=j:=by
 rcases h1 with ⟨y,hy,ey,k,p,rfl,hp,hc,hn⟩ | ⟨rfl,h1⟩
 ·rcases h2 with ⟨y2,hy2,ey2,k2,p2,rfl,hp2,hc2,hn2⟩ | ⟨rfl,h2⟩
  ·have:=hu y hy y2 hy2 (by omega)
   subst this
   rcases Nat.lt_trichotomy k k2 with h | h | h
   ·rw [hn2 k h p hp] at hc; cases hc
   ·rw [h]
   ·rw [hn k2 h p2 hp2] at hc2; cases hc2
  ·rcases h2 with h2 | ⟨y2,hy2,ey2,h2⟩
   ·exact absurd ey (h2 y hy)
   ·have:=hu y hy y2 hy2 (by omega)
    subst this
    rw [h2 p (List.mem_of_getElem? hp)] at hc; cases hc
 ·rcases h2 with ⟨y2,hy2,ey2,k2,p2,rfl,hp2,hc2,hn2⟩ | ⟨rfl,h2⟩
  ·rcases h1 with h1 | ⟨y,hy,ey,h1⟩
   ·exact absurd ey2 (h1 y2 hy2)
   ·have:=hu y hy y2 hy2 (by omega)
    subst this
    rw [h1 p2 (List.mem_of_getElem? hp2)] at hc2; cases hc2
  ·rfl
theorem prt_ex (d:Sd) (c:Nat) (cur:List Nat):∃ i,PrtR d c cur i:=by
 rcases Classical.em (∃ y ∈ d.wl,(y.cost:Int)=c) with ⟨y,hy,ey⟩ | hno
 ·rcases Classical.em (∃ (k:Nat) (p:Kq),y.pl[k]?=some p∧p.2 cur=true) with ⟨k,hk⟩ | hno
  ·have:∀ n k:Nat,k≤n→(∃ p:Kq,y.pl[k]?=some p∧p.2 cur=true)→∃ (k:Nat) (p:Kq),y.pl[k]?=some p∧p.2 cur=true∧NoP y cur k:=by
    intro n
    induction n with
    | zero =>
     rintro k hk ⟨p,hp,hc⟩
     obtain rfl:k=0:=by omega
     exact ⟨0,p,hp,hc,fun j hj=>by omega⟩
    | succ n ih =>
     rintro k hk ⟨p,hp,hc⟩
     rcases Classical.em (∃ j,j < k∧∃ p',y.pl[j]?=some p'∧p'.2 cur=true) with ⟨j,hj,hx⟩ | hno
     ·exact ih j (by omega) hx
     ·refine ⟨k,p,hp,hc,fun j hj p' hp'=>?_⟩
      cases e:p'.2 cur with
      | false=>rfl
      | true=>exact absurd ⟨j,hj,p',hp',e⟩ hno
   obtain ⟨k,p,h1,h2,h3⟩:=this k k (Nat.le_refl _) hk
   exact ⟨k,.inl ⟨y,hy,ey,k,p,rfl,h1,h2,h3⟩⟩
  ·refine ⟨-1,.inr ⟨rfl,.inr ⟨y,hy,ey,fun p hp=>?_⟩⟩⟩
   obtain ⟨k,hk⟩:=List.getElem?_of_mem hp
   cases e:p.2 cur with
   | false=>rfl
   | true=>exact absurd ⟨k,p,hk,e⟩ hno
 ·exact ⟨-1,.inr ⟨rfl,.inl fun y hy e=>hno ⟨y,hy,e⟩⟩⟩
theorem kB_eb {op:Nat} {x z:List Nat} {bw:Bool} (h:EB T bw op x z):∃ o,T.ops[op]?=some o∧kB T op=o.cost:=by
 obtain ⟨_,_,o,ho,_⟩:=h
 exact ⟨o,ho,kB_at ho⟩
theorem org_of (h:SdG T S0 d) (ht:TrcD T S0 d c cur) (hv:StN T.vars cur) (hp:PrtR d c cur i) (hi:i≤0):Go.Bi.Org (EB T d.bw) (kB T) S0 (d.wl.map wmW) c cur:=by
 rcases hp with ⟨y,hy,ey,k,p,rfl,hpk,hc,hn⟩ | ⟨rfl,h1⟩
 ·obtain rfl:k=0:=by omega
  have hw:=h.wv (wmW y) (List.mem_map.2 ⟨y,hy,rfl⟩)
  have:=hw.p0 _ (prt_at hpk) cur hv hc
  have e:(wmW y).cost=c:=by show y.cost=c; omega
  rwa [e] at this
 ·rcases ht with ht | ⟨w,hw,ew,ea⟩
  ·exact ht
  ·obtain ⟨y,hy,rfl⟩:=List.mem_map.1 hw
   have e:y.cost=c:=ew
   obtain ⟨p,hp,hpc⟩:=((h.wv _ hw).un cur hv).1 ea
   obtain ⟨p',hp',rfl⟩:=List.mem_map.1 hp
   rcases h1 with h1 | ⟨y2,hy2,ey2,h1⟩
   ·exact absurd (show (y.cost:Int)=c by omega) (h1 y hy)
   ·have:=SdG.inj h y hy y2 hy2 (by omega)
    subst this
    rw [h1 p' hp'] at hpc
    cases hpc
theorem path_ex (h:SdG T S0 d) (ht:TrcD T S0 d c cur) (hv:StN T.vars cur) (hp:PrtR d c cur i) (hn:¬ (c=0∧i≤0)):¬ NoB T d i c cur T.ops.length:=fun hno=>by
 by_cases hi:0 < i
 ·rcases hp with ⟨y,hy,ey,k,p,rfl,hpk,hc,_⟩ | ⟨rfl,_⟩
  ·obtain ⟨j,rfl⟩:∃ j,k=j+1:=⟨k - 1,by omega⟩
   have hlt:=(List.getElem?_eq_some_iff.1 hpk).1
   obtain ⟨p',hp'⟩:∃ p',y.pl[j]?=some p':=⟨_,List.getElem?_eq_getElem (by omega)⟩
   obtain ⟨op,hk0,x,hx,he⟩:=(h.wv (wmW y) (List.mem_map.2 ⟨y,hy,rfl⟩)).ps j _ _ (prt_at hp') (prt_at hpk) cur hv hc
   obtain ⟨o,ho,hok⟩:=kB_eb he
   refine hno op o (List.getElem?_eq_some_iff.1 ho).1 ho x he ⟨⟨fun _=>by omega,fun _=>hi⟩,y,hy,by omega,?_⟩
   unfold bkS
   rw [if_pos hi]
   have:((((j+1:Nat):Int)) - 1).toNat=j:=by omega
   rw [this,hp']
   exact hx
  ·omega
 ·rcases org_of h ht hv hp (by omega) with ⟨h0,_⟩ | ⟨op,hk,w,hw,ec,x,hx,he⟩
  ·exact hn ⟨h0,by omega⟩
  ·obtain ⟨y,hy,rfl⟩:=List.mem_map.1 hw
   obtain ⟨o,ho,hok⟩:=kB_eb he
   have ec:y.cost+kB T op=c:=ec
   refine hno op o (List.getElem?_eq_some_iff.1 ho).1 ho x he ⟨⟨fun h=>absurd h hi,fun h=>by omega⟩,y,hy,by omega,?_⟩
   unfold bkS
   rw [if_neg hi]
   exact hx
theorem path_end (h:SdG T S0 d) (ht:TrcD T S0 d 0 cur) (hv:StN T.vars cur) (hp:PrtR d 0 cur i) (hi:i≤0):S0 cur:=by
 rcases org_of h ht hv hp hi with ⟨_,hs⟩ | ⟨op,hk,w,hw,ec,_⟩
 ·exact hs
 ·omega
theorem sum_le {l:List Wm} {y:Wm} (hy:y ∈ l):y.pl.length≤(l.map fun y=>y.pl.length).sum:=by
 induction l with
 | nil=>cases hy
 | cons a l ih =>
  rw [List.map_cons,List.sum_cons]
  rcases List.mem_cons.1 hy with rfl | hy
  ·omega
  ·have:=ih hy; omega
theorem path_step (h:SdG T S0 d) {o:No} {st':List Nat} {op:Nat} (ho:T.ops[op]?=some o) (hv:StN T.vars st') (hp:PrtR d c cur i) (hb:BkC d i c o st') {M:Nat} (hM:(d.wl.map fun y=>y.pl.length).sum+2≤M) :
  TrcD T S0 d (c - o.cost) st'∧∀ j,PrtR d (c - o.cost:Nat) st' j→(c - o.cost) * M+(j+1).toNat < c * M+(i+1).toNat:=by
 obtain ⟨hiff,y,hy,ec,hs⟩:=hb
 unfold bkS at hs
 have hlen:=sum_le hy
 have ecn:y.cost=c - o.cost:=by omega
 have jb:∀ j,PrtR d (c - o.cost:Nat) st' j→j < y.pl.length∧-1≤j:=fun j hj=>by
  rcases hj with ⟨y2,hy2,ey2,k,p,rfl,hpk,_⟩ | ⟨rfl,_⟩
  ·have:=SdG.inj h y hy y2 hy2 (by omega)
   subst this
   have:=(List.getElem?_eq_some_iff.1 hpk).1
   omega
  ·omega
 by_cases hi:0 < i
 ·have h0:=hiff.1 hi
  rw [if_pos hi] at hs
  cases hpj:y.pl[(i - 1).toNat]? with
  | none=>rw [hpj] at hs; simp at hs
  | some p' =>
   rw [hpj] at hs
   simp at hs
   have hall:y.all st'=true:=((h.wv (wmW y) (List.mem_map.2 ⟨y,hy,rfl⟩)).un st' hv).2 ⟨p'.2,List.mem_map.2 ⟨p',List.mem_of_getElem? hpj,rfl⟩,hs⟩
   refine ⟨.inr ⟨wmW y,List.mem_map.2 ⟨y,hy,rfl⟩,ecn,hall⟩,fun j hj=>?_⟩
   have ecc:c - o.cost=c:=by omega
   rw [ecc]
   rw [ecc] at hj
   rcases hj with ⟨y2,hy2,ey2,k,p,rfl,hpk,hck,hnk⟩ | ⟨rfl,_⟩
   ·have:=SdG.inj h y hy y2 hy2 (by omega)
    subst this
    have:k≤(i - 1).toNat:=by
     rcases Nat.lt_or_ge (i - 1).toNat k with hlt | hge
     ·rw [hnk _ hlt p' hpj] at hs; cases hs
     ·exact hge
    omega
   ·omega
 ·rw [if_neg hi] at hs
  have h0:o.cost≠0:=fun e=>hi (hiff.2 e)
  refine ⟨.inr ⟨wmW y,List.mem_map.2 ⟨y,hy,rfl⟩,ecn,hs⟩,fun j hj=>?_⟩
  have h2:=jb j hj
  have h3:(c - o.cost+1) * M≤c * M:=Nat.mul_le_mul_right _ (by omega)
  rw [Nat.add_mul,Nat.one_mul] at h3
  omega
end
section
variable {w w1:World} {F:List Nat} {A B B':Asr} {s m lim:Nat} {T T':Nt} {q:SpC} {ps:List Kq}
theorem FsA.app {α:Type} {enc:α→List Value} {E sz by_ t ty m2 cp:Nat} {z:List Value} {v:Value} {l xs:List α} {cs:Array Value} {P:Program} {KV:Kont (Value × World)} (hB:Lcl B) (h:FsA s m lim T' q ps (Star (OwnA v E sz enc l) B) w F w1) (he:∀ x,(enc x).length=sz) (h1:∀ x,(enc x).all oneC=true)
  (hT:slInfo P t=some (E,sz,by_,z)) (hcs:cs.toList=xs.flatMap enc) (hm:xs.length=m2) (hb:(l.length+m2) * by_≤140737488355328) (hmax:l.length+m2≤maxLen)
  (H:∀ v' w2,FsA s m lim T' q ps (Star (OwnA v' E sz enc (l ++ xs)) B) w F w2→KV.run (v',w2)):@efH P (Builtin.append_ #[t,t] ty [v,.slice (some ⟨w1.heap.size,0,none⟩) m2 cp].toArray) (w1.alloc (.cells cs E)) KV:=by
 obtain ⟨ns,ks,ss,hG,hk,hA⟩:=h
 have hL:Lcl (Star (OwnA v E sz enc l) (SpcA s m lim T' q ns ks ss B)):=Lcl.own.star (SpcA.lcl hB)
 have h2:=(SpcA.out hA).kp0 hL ((Kp.refl [] w1).alloc (.cells cs E))
 refine At.append (SpcA.lcl hB) h2 he h1 hT hm (fun j u hj=>?_) hb hmax fun v' w2 h3=>H v' w2 ⟨ns,ks,ss,hG,hk,SpcA.into h3⟩
 rw [← hcs] at hj
 rw [add_none,cell_blk alloc_new]
 simpa using hj
theorem FsA.nil {α:Type} {enc:α→List Value} {E sz:Nat} (hB:Lcl B) (h:FsA s m lim T' q ps B w F w1):FsA s m lim T' q ps (Star (OwnA (.slice none 0 0) E sz enc ([]:List α)) B) w F w1:=by
 obtain ⟨ns,ks,ss,hG,hk,hA⟩:=h
 exact ⟨ns,ks,ss,hG,hk,SpcA.into (hA.nil (SpcA.lcl hB))⟩
theorem Rds.imp2 {P:World→Prop} (hi:Imp B' B) (h:Rds B P):Rds B' P:=fun w F hb=>by
 obtain ⟨F',h1,_⟩:=hi w F hb
 exact h w F' h1
end
end Go.Proofs.YtkhfdmelcpfgoaaGreat
end
section
set_option maxRecDepth 100000
set_option linter.unusedSimpArgs false
set_option linter.unusedVariables false
namespace Go.Proofs.YtkhfdmelcpfgoaaGreat
open Go Go.W Go.Tk Go.Rx Go.Bd Go.Sy Go.Maps
section
variable {w w1:World} {F:List Nat} {A B B':Asr} {s m lim:Nat} {T T':Nt} {q:SpC} {ps:List Kq}
theorem freverse_spec (v:Value) (l:List Nat) (hB:Lcl B) (h:FsA s m lim T' q ps (Star (OwnA v 3 1 nE l) B) w F w1) (hl:l.length≤1000000000000) :
  Calls Tryz.prog 90 [v].toArray w1 fun en w'=>∃ r,en=.returned r∧FsA s m lim T' q ps (Star (OwnA v 3 1 nE l.reverse) B) w F w':=by
 obtain ⟨ns,ks,ss,hG,hk,hA⟩:=h
 refine (reverse_spec v l (SpcA.lcl hB) (SpcA.out hA) hl).mono ?_
 rintro en w' ⟨r,rfl,h2⟩
 exact ⟨r,rfl,ns,ks,ss,hG,hk,SpcA.into h2⟩
def PathR (s m lim:Nat) (T T':Nt) (q:SpC) (ps:List Kq) (B:Asr) (w:World) (F:List Nat) (S0:List Nat→Prop) (d:Sd) (c:Nat) (z:List Nat) (v:Value) (w':World):Prop :=
 (∃ u out s0,v=.tuple #[u,.nilIface]∧S0 s0∧StN T.vars s0∧(if d.bw=true then RunT T z out s0 c else RunT T s0 out z c)∧out.length≤1000000000000∧FsX s m lim T' q ps (Star (OwnA u 3 1 nE out) B) w F w') ∨
 (v=.tuple #[.slice none 0 0,berrV 10]∧Full T' lim∧At w F B w')
def PtI (s m lim:Nat) (T T':Nt) (q:SpC) (ps:List Kq) (B:Asr) (w:World) (F:List Nat) (S0:List Nat→Prop) (x:Nat) (d:Sd) (C M n0:Nat) (z:List Nat) (n:Nat) (ρ:Env) (w':World):Prop :=
 ∃ c cur out i Bc,ρ 0=.pointer (some ⟨x,0,none⟩)∧ρ 2=.int .i64 (c:Nat)∧c≤C∧StN T.vars cur∧TrcD T S0 d c cur∧PthI T d.bw out z cur (C - c)∧PrtR d c cur i∧n=c * M+(i+1).toNat∧out.length+n≤n0 ∧
  Lcl Bc∧Imp Bc B∧(Rds Bc fun w'=>Vw w' (ρ 1) nE cur)∧FsX s m lim T' q ps (Star (OwnA (ρ 8) 3 1 nE out) Bc) w F w'
set_option maxHeartbeats 2000000 in
theorem bpath_spec (x C:Nat) (S0:List Nat→Prop) (d:Sd) (sv:Value) (z:List Nat) (hC:BC T T' lim) (hB:Lcl B) (h:FsA s m lim T' q ps B w F w1) (hx:Rds B fun w'=>SdR w' x T s d) (hT:Rds B fun w'=>NtR w' T) (hk:SdK ps d) (hl:SdL d) (hr:Rds B fun w'=>Vw w' sv nE z) (hz:StN T.vars z)
  (hd:SdG T S0 d) (ht:TrcD T S0 d C z) (hcb:C≤600000000) :
  Calls Tryz.prog 64 [.pointer (some ⟨x,0,none⟩),sv,.int .i64 (C:Nat)].toArray w1 fun en w'=>∃ v,en=.returned v∧PathR s m lim T T' q ps B w F S0 d C z v w':=by
 refine enter Tryz.func64 mixed low64 (Nat.le_of_ble_eq_true rfl) ?_
 simp only [L64]
 obtain ⟨M,hM⟩:∃ M,M=(d.wl.map fun y=>y.pl.length).sum+2:=⟨_,rfl⟩
 have hMl:M≤1002:=by have:=hl.sm; omega
 obtain ⟨i0,hi0⟩:=prt_ex d C z
 obtain ⟨n0,hn0⟩:∃ n0,n0=C * M+(i0+1).toNat:=⟨_,rfl⟩
 have hi0l:(i0+1).toNat≤1001:=by
  rcases hi0 with ⟨y,hy,ey,k,p,rfl,hpk,_⟩ | ⟨rfl,_⟩
  ·have h1:=(List.getElem?_eq_some_iff.1 hpk).1
   have h2:=sum_le hy
   have h3:=hl.sm
   omega
  ·omega
 have hn0l:n0≤1000000000000:=by
  have:C * M≤600000000 * 1002:=Nat.mul_le_mul hcb hMl
  omega
 have hu:=SdG.inj hd
 simp
 refine loop_inv (PtI s m lim T T' q ps B w F S0 x d C M n0 z) n0 ⟨C,z,[],i0,B,by simp,by simp,Nat.le_refl _,hz,ht,by rw [Nat.sub_self]; exact PthI.nil _ _ _,hi0,hn0,by simp,hB,fun w' F' h=>⟨F',h,fun _ h=>h⟩,by simpa using hr,ps,fun _ h=>h,by simpa using h.nil hB⟩ ?_
 rintro n ρ w2 ⟨c,cur,out,i,Bc,g0,g2,hc,hcv,hct,hpt,hpi,hn,hout,hBc,hBi,hrc,ps2,hps2,h2⟩
 obtain ⟨uv,huv⟩:∃ uv,uv=ρ 8:=⟨_,rfl⟩
 obtain ⟨cv,hcv1⟩:∃ cv,cv=ρ 1:=⟨_,rfl⟩
 have g8:=huv.symm
 have g1:=hcv1.symm
 rw [g8] at h2
 rw [g1] at hrc
 have hB2:Lcl (Star (OwnA uv 3 1 nE out) Bc):=Lcl.own.star hBc
 have hx2:Rds (Star (OwnA uv 3 1 nE out) Bc) fun w'=>SdR w' x T s d:=Rds.star (Rds.imp2 hBi hx)
 have hT2:Rds (Star (OwnA uv 3 1 nE out) Bc) fun w'=>NtR w' T:=Rds.star (Rds.imp2 hBi hT)
 have hk2:SdK ps2 d:=hk.mono hps2
 have hcv':StN T'.vars cur:=by rw [hC.alk.vars]; exact hcv
 simp [g0,g2,g1]
 refine cl_of (bpart_spec x d c cv cur hB2 h2 hx2 hk2 hl (Rds.star hrc) hcv') ?_
 rintro _ w3 ⟨i',rfl,hpi',h3⟩
 have:=PrtR.uniq hu hpi hpi'
 subst this
 have done:c=0→i≤0→∀ w4,FsX s m lim T' q ps (Star (OwnA uv 3 1 nE (if d.bw=true then out else out.reverse)) B) w F w4→PathR s m lim T T' q ps B w F S0 d C z (.tuple #[uv,.nilIface]) w4:=fun e0 ei w4 h4=>by
  subst e0
  refine .inl ⟨uv,_,cur,rfl,path_end hd hct hcv hpi ei,hcv,?_,?_,h4⟩
  ·unfold PthI at hpt
   rw [Nat.sub_zero] at hpt
   cases hb:d.bw with
   | true=>rw [hb] at hpt; simpa using hpt
   | false=>rw [hb] at hpt; simpa using hpt
  ·split
   ·omega
   ·rw [List.length_reverse]; omega
 by_cases hst:c=0∧i≤0
 ·obtain ⟨e0,ei⟩:=hst
  have hc0:(((c:Nat):Int) == 0)=true:=by rw [e0]; rfl
  have ox3:=(h3.frame hx2).obj
  unfold sdO at ox3
  have dn:=done e0 ei
  cases hb:d.bw with
  | true =>
   rw [hb] at ox3 dn
   simp [g0,g2,hc0,ei,cell_blk ox3,g8]
   exact dn w3 ⟨ps2,hps2,(h3.by (Imp.un hBi))⟩
  | false =>
   rw [hb] at ox3 dn
   simp [g0,g2,hc0,ei,cell_blk ox3,g8]
   refine cl_of (freverse_spec uv out hBc h3 (by omega)) ?_
   rintro _ w4 h4
   simp [g8]
   exact dn w4 ⟨ps2,hps2,(h4.by (Imp.un hBi))⟩
 ·have hgd:∀ KB:Kont Bool,(c=0→¬ i≤0)→True:=fun _ _=>trivial
  by_cases e0:c=0
  ·have hc0:(((c:Nat):Int) == 0)=true:=by rw [e0]; rfl
   have ei:¬ i≤0:=fun h=>hst ⟨e0,h⟩
   simp [g0,g2,hc0,ei,g1]
   refine cl_of (bback_spec x c d cv cur hC hB2 h3 hx2 hT2 hk2 hl (Rds.star hrc) hcv hu (by omega)) ?_
   rintro _ w4 (⟨op,o,u,st',i2,ho,hpi2,hoc,rfl,hs',he,hb,ps4,hps4,h4⟩ | ⟨rfl,hf,h4⟩ | ⟨i2,hpi2,hno⟩)
   ·have:=PrtR.uniq hu hpi hpi2
    subst this
    obtain ⟨ht',hm'⟩:=path_step hd ho hs' hpi hb (Nat.le_of_eq hM.symm)
    obtain ⟨j,hj⟩:=prt_ex d (c - o.cost) st'
    have hmj:=hm' j hj
    simp [g0,g2,g8]
    have hBn:Lcl (Star (OwnA u 3 1 nE st') Bc):=Lcl.own.star hBc
    have h5:=h4.by Imp.sw
    refine h5.app (cs:=#[.int .i64 (op:Nat)]) (xs:=[op]) hBn nE_len nE_one sl_22 (by simp [nE]) rfl (by omega) (by unfold maxLen; omega) fun v5 w5 h6=>?_
    simp [g0,g2,g8]
    refine ⟨(c - o.cost) * M+(j+1).toNat,by omega,c - o.cost,st',out ++ [op],j,Star (OwnA u 3 1 nE st') Bc,by simp [g0],by simp,by omega,hs',ht',?_,hj,rfl,by simp; omega,hBn,Imp.dr.trans hBi,by simpa using (Rds.own:Rds (Star (OwnA u 3 1 nE st') Bc) fun w'=>Vw w' u nE st'),ps4,fun p hp=>hps4 p (hps2 p hp),by simpa using h6⟩
    rw [show C - (c - o.cost)=C - c+o.cost by omega]
    exact hpt.step ho he
   ·simp [g0,g2,g8,berrV]
    exact .inr ⟨rfl,hf,h4.drop.by hBi⟩
   ·have:=PrtR.uniq hu hpi hpi2
    subst this
    exact absurd hno (path_ex hd hct hcv hpi hst)
  ·have hc0:(((c:Nat):Int) == 0)=false:=beq_eq_false_iff_ne.2 (by omega)
   simp [g0,g2,hc0,g1]
   refine cl_of (bback_spec x c d cv cur hC hB2 h3 hx2 hT2 hk2 hl (Rds.star hrc) hcv hu (by omega)) ?_
   rintro _ w4 (⟨op,o,u,st',i2,ho,hpi2,hoc,rfl,hs',he,hb,ps4,hps4,h4⟩ | ⟨rfl,hf,h4⟩ | ⟨i2,hpi2,hno⟩)
   ·have:=PrtR.uniq hu hpi hpi2
    subst this
    obtain ⟨ht',hm'⟩:=path_step hd ho hs' hpi hb (Nat.le_of_eq hM.symm)
    obtain ⟨j,hj⟩:=prt_ex d (c - o.cost) st'
    have hmj:=hm' j hj
    simp [g0,g2,g8]
    have hBn:Lcl (Star (OwnA u 3 1 nE st') Bc):=Lcl.own.star hBc
    have h5:=h4.by Imp.sw
    refine h5.app (cs:=#[.int .i64 (op:Nat)]) (xs:=[op]) hBn nE_len nE_one sl_22 (by simp [nE]) rfl (by omega) (by unfold maxLen; omega) fun v5 w5 h6=>?_
    simp [g0,g2,g8]
    refine ⟨(c - o.cost) * M+(j+1).toNat,by omega,c - o.cost,st',out ++ [op],j,Star (OwnA u 3 1 nE st') Bc,by simp [g0],by simp,by omega,hs',ht',?_,hj,rfl,by simp; omega,hBn,Imp.dr.trans hBi,by simpa using (Rds.own:Rds (Star (OwnA u 3 1 nE st') Bc) fun w'=>Vw w' u nE st'),ps4,fun p hp=>hps4 p (hps2 p hp),by simpa using h6⟩
    rw [show C - (c - o.cost)=C - c+o.cost by omega]
    exact hpt.step ho he
   ·simp [g0,g2,g8,berrV]
    exact .inr ⟨rfl,hf,h4.drop.by hBi⟩
   ·have:=PrtR.uniq hu hpi hpi2
    subst this
    exact absurd hno (path_ex hd hct hcv hpi hst)
end
end Go.Proofs.YtkhfdmelcpfgoaaGreat
end
section
set_option linter.unusedVariables false
set_option linter.unusedSimpArgs false
set_option linter.unusedSectionVars false
namespace Go.W
open Go Go.Maps
section
variable {κ α:Type} [DecidableEq κ] {P:Program} {k t e:TypeId} {ek:κ→Value} {ev:α→Value} {ok:κ→Prop}
def delM (l:List (κ × α)) (x:κ):List (κ × α):=l.filter fun p=>!decide (p.1=x)
theorem mem_delM {l:List (κ × α)} {x:κ} {p:κ × α}:p ∈ delM l x↔p ∈ l∧p.1≠x:=by
 unfold delM
 rw [List.mem_filter]
 simp
theorem delM_none {l:List (κ × α)} {x:κ} (h:∀ p ∈ l,p.1≠x):delM l x=l:=by
 unfold delM
 rw [List.filter_eq_self]
 intro p hp
 simp [h p hp]
theorem delM_at:∀ {l:List (κ × α)} {x:κ} {v:α} {j:Nat},(l.map (·.1)).Nodup→l[j]?=some (x,v)→delM l x=l.eraseIdx j
 | [],_,_,_,_,h=>by simp at h
 | a :: l,x,v,0,hn,h=>by
  simp only [List.getElem?_cons_zero,Option.some.injEq] at h
  subst h
  simp only [List.map_cons,List.nodup_cons,List.mem_map,not_exists,not_and] at hn
  rw [List.eraseIdx_cons_zero]
  have:=delM_none (l:=l) (x:=x) fun p hp e=>hn.1 p hp e
  unfold delM at this ⊢
  rw [List.filter_cons_of_neg (by simp)]
  exact this
 | a :: l,x,v,j+1,hn,h=>by
  simp only [List.getElem?_cons_succ] at h
  simp only [List.map_cons,List.nodup_cons,List.mem_map,not_exists,not_and] at hn
  have ha:a.1≠x:=fun e=>hn.1 _ (List.mem_of_getElem? h) (by rw [e])
  rw [List.eraseIdx_cons_succ,← delM_at hn.2 h]
  unfold delM
  rw [List.filter_cons_of_pos (by simp [ha])]
theorem map_eraseIdx2 {β γ:Type} (f:β→γ):∀ (l:List β) (j:Nat),(l.eraseIdx j).map f=(l.map f).eraseIdx j
 | [],_=>rfl
 | a :: l,0=>rfl
 | a :: l,j+1=>by
  rw [List.eraseIdx_cons_succ,List.map_cons,List.map_cons,List.eraseIdx_cons_succ,map_eraseIdx2 f l j]
theorem MapM.del {w:World} {b:Nat} {l:List (κ × α)} (h:MapM w b ek ev ok l) (hk:KeyEnc P k ek ok) (ht:P.underlying t=some (.map k e)) {x:κ} (hx:ok x) {ty:TypeId} :
  ∃ o,(Builtin.delete_ #[t,k] ty #[.map (some b),ek x]).run P w=.ok (.tuple #[]) (w.setB b o)∧MapM (w.setB b o) b ek ev ok (delM l x):=by
 obtain ⟨es,clock,hb,hsz,hes,hok,hnd,hst⟩:=h
 obtain ⟨lx,hlx⟩:=hk.lit x hx
 rcases MapM.find (w:=w) (w':=w) (b:=b) hk hes hok hx with ⟨h1,h2⟩ | ⟨j,u,e0,h1,h2,h3,h4⟩
 ·refine ⟨.map es clock,?_,_,_,setB_new (lt_of_blk hb),hsz,?_,?_,?_,hst⟩
  ·simp [Builtin.delete_,run_underlying ht,MapKept.run_getObj_map hb,hk.keyed.check w _ hlx,h1,MapKept.run_setObj_map _ hb,Result.andThen,World.setB]
  all_goals rw [delM_none h2]
  ·exact hes
  ·exact hok
  ·exact hnd
 ·have hjs:j < es.size:=(Array.getElem?_eq_some_iff.1 h3).1
  have hsub:(es.eraseIdxIfInBounds j).toList=es.toList.eraseIdx j:=by
   unfold Array.eraseIdxIfInBounds
   rw [dif_pos hjs]
   simp
  refine ⟨.map (es.eraseIdxIfInBounds j) clock,?_,_,_,setB_new (lt_of_blk hb),Nat.le_trans (MapFrom.size_erase es j) hsz,?_,?_,?_,MapKept.stamped_erase hst j⟩
  ·simp [Builtin.delete_,run_underlying ht,MapKept.run_getObj_map hb,hk.keyed.check w _ hlx,h1,MapKept.run_setObj_map _ hb,Result.andThen,World.setB]
  ·rw [delM_at hnd h2,hsub,map_eraseIdx2,map_eraseIdx2,hes]
  ·intro p hp
   exact hok p (mem_delM.1 hp).1
  ·rw [delM_at hnd h2,map_eraseIdx2]
   exact hnd.sublist (List.eraseIdx_sublist _ _)
section
variable {w w1:World} {F:List Nat} {B:Asr} {b:Nat} {l:List (κ × α)}
theorem At.del {KV:Kont (Value × World)} {x:κ} {ty:TypeId} (hB:Lcl B) (h:At w F (Star (MapA b ek ev ok l) B) w1) (hk:KeyEnc P k ek ok) (ht:P.underlying t=some (.map k e)) (hx:ok x)
  (H:∀ w2,At w F (Star (MapA b ek ev ok (delM l x)) B) w2→KV.run (.tuple #[],w2)):@efH P (Builtin.delete_ #[t,k] ty #[.map (some b),ek x]) w1 KV:=by
 obtain ⟨o,hr,hm⟩:=h.map.del hk ht hx (ty:=ty)
 refine ef_mk hr (H _ (h.step Lcl.map hB ?_))
 rintro Fa ⟨h1,rfl⟩
 exact ⟨[b],⟨hm,rfl⟩,(Kp.refl _ _).setB (.inl (by simp)) _,fun x hx=>.inl hx⟩
end
end
end Go.W
end
