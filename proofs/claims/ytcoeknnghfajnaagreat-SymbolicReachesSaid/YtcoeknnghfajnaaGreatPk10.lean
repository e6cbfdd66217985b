/-
  A part of the proof of this claim's statement (TkNat, RxPlain, RxHeap, RxDij, RxRel, LibM, RxW1, RxW2, TkChk, RxW6, RxW7, RxW8, RxW9, RxWC, RxXA, RxXB, RxFx, RxXF, RxXG, RxXH): plain theorems; no conditions beyond those each names.
-/
import Derived.Test.YtcoeknnghfajnaaGreatPk08
import Derived.Test.YtcoeknnghfajnaaGreatPk09
set_option maxRecDepth 100000
set_option linter.unusedSimpArgs false
set_option linter.unusedVariables false
set_option linter.unusedSectionVars false
section
namespace Go.Tk
open Go Go.W
abbrev Fc:=Nat × Nat
structure Nf where
 wv:Cell1
 cnd:List Fc
 v:Nat
 x:Nat
structure No where
 name:ByteArray
 cost:Nat
 pv:Cell1
 pre:List Fc
 ev:Cell1
 effs:List Nf
structure Nt where
 vv:Cell1
 nv:Cell1
 gv:Cell1
 ov:Cell1
 vars:List Nat
 init:List Nat
 goal:List Fc
 ops:List No
def iN (n:Nat):Int:=(n:Int)
def faN (f:Fc):Fa:=((f.1:Int),(f.2:Int))
def Nf.raw (e:Nf):Ef:=⟨e.wv,e.cnd.map faN,e.v,e.x⟩
def No.raw (o:No):Oq:=⟨o.name,o.cost,o.pv,o.pre.map faN,o.ev,o.effs.map Nf.raw⟩
def Nt.raw (t:Nt):Tk:=⟨t.vv,t.nv,t.gv,t.ov,t.vars.map iN,t.init.map iN,t.goal.map faN,t.ops.map No.raw⟩
def nE (n:Nat):List Value:=[.int .i64 (n:Nat)]
theorem nE_len (i:Nat):(nE i).length=1:=rfl
theorem nE_one (i:Nat):(nE i).all oneC=true:=rfl
def fcE (f:Fc):List Value:=[.int .i64 (f.1:Nat),.int .i64 (f.2:Nat)]
theorem fcE_len (f:Fc):(fcE f).length=2:=rfl
theorem fcE_one (f:Fc):(fcE f).all oneC=true:=rfl
def nfE (e:Nf):List Value:=[e.wv.1,.int .i64 (e.v:Nat),.int .i64 (e.x:Nat)]
theorem nfE_len (e:Nf):(nfE e).length=3:=rfl
theorem nfE_one (e:Nf):(nfE e).all oneC=true:=by simp [nfE,e.wv.2]
def noE (o:No):List Value:=[.string o.name,.int .i64 (o.cost:Nat),o.pv.1,o.ev.1]
theorem noE_len (o:No):(noE o).length=4:=rfl
theorem noE_one (o:No):(noE o).all oneC=true:=by simp [noE,o.pv.2,o.ev.2]
theorem Vw.mapped {α β:Type} {encα:α→List Value} {encβ:β→List Value} {f:β→α} {w:World} {v:Value} {l:List β} (he:∀b,encα (f b)=encβ b):Vw w v encα (l.map f)↔Vw w v encβ l:=by
 have e:(l.map f).flatMap encα=l.flatMap encβ:=by
  induction l with
  | nil=>rfl
  | cons b l ih=>simp only [List.map_cons,List.flatMap_cons,ih,he]
 unfold Vw
 rw [e]
 simp
structure NoR (w:World) (o:No):Prop where
 pre:Vw w o.pv.1 fcE o.pre
 effs:Vw w o.ev.1 nfE o.effs
 cnd:∀e ∈ o.effs,Vw w e.wv.1 fcE e.cnd
structure NtR (w:World) (t:Nt):Prop where
 vars:Vw w t.vv.1 nE t.vars
 init:Vw w t.nv.1 nE t.init
 goal:Vw w t.gv.1 fcE t.goal
 ops:Vw w t.ov.1 noE t.ops
 op:∀o ∈ t.ops,NoR w o
theorem NoR.kp {w w':World} {o:No} (h:NoR w o) (k:Kp [] w w'):NoR w' o:=⟨h.pre.kp0 k,h.effs.kp0 k,fun e he=>(h.cnd e he).kp0 k⟩
theorem NtR.kp {w w':World} {t:Nt} (h:NtR w t) (k:Kp [] w w'):NtR w' t:=⟨h.vars.kp0 k,h.init.kp0 k,h.goal.kp0 k,h.ops.kp0 k,fun o ho=>(h.op o ho).kp k⟩
theorem vw_fc {w:World} {v:Value} {l:List Fc}:Vw w v faE (l.map faN)↔Vw w v fcE l:=Vw.mapped fun b=>rfl
theorem vw_n {w:World} {v:Value} {l:List Nat}:Vw w v iE (l.map iN)↔Vw w v nE l:=Vw.mapped fun b=>rfl
theorem NoR.raw {w:World} {o:No}:OqR w o.raw↔NoR w o:=by
 constructor
 ·rintro ⟨h1,h2,h3⟩
  exact ⟨vw_fc.1 h1,(Vw.mapped (f:=Nf.raw) fun b=>rfl).1 h2,fun e he=>vw_fc.1 (h3 e.raw (List.mem_map.2 ⟨e,he,rfl⟩))⟩
 ·rintro ⟨h1,h2,h3⟩
  refine ⟨vw_fc.2 h1,(Vw.mapped (f:=Nf.raw) fun b=>rfl).2 h2,fun e he=>?_⟩
  obtain ⟨e',he',rfl⟩:=List.mem_map.1 he
  exact vw_fc.2 (h3 e' he')
theorem NtR.raw {w:World} {t:Nt}:TkR w t.raw↔NtR w t:=by
 constructor
 ·rintro ⟨h1,h2,h3,h4,h5⟩
  exact ⟨vw_n.1 h1,vw_n.1 h2,vw_fc.1 h3,(Vw.mapped (f:=No.raw) fun b=>rfl).1 h4,fun o ho=>NoR.raw.1 (h5 o.raw (List.mem_map.2 ⟨o,ho,rfl⟩))⟩
 ·rintro ⟨h1,h2,h3,h4,h5⟩
  refine ⟨vw_n.2 h1,vw_n.2 h2,vw_fc.2 h3,(Vw.mapped (f:=No.raw) fun b=>rfl).2 h4,fun o ho=>?_⟩
  obtain ⟨o',ho',rfl⟩:=List.mem_map.1 ho
  exact NoR.raw.2 (h5 o' ho')
structure FcOk (vars:List Nat) (l:List Fc):Prop where
 rng:∀f ∈ l,f.1 < vars.length∧f.2 < vars.getD f.1 0
 asc:l.Pairwise fun a b=>a.1 < b.1
structure NoG (vars:List Nat) (o:No):Prop where
 cost:o.cost≤1048576
 elen:o.effs.length≤64
 pre:FcOk vars o.pre
 cnd:∀e ∈ o.effs,FcOk vars e.cnd
 eff:∀e ∈ o.effs,e.v < vars.length∧e.x < vars.getD e.v 0
structure NtG (t:Nt):Prop where
 vlen:t.vars.length≤64
 olen:t.ops.length≤4096
 vars:∀n ∈ t.vars,1≤n∧n≤64
 ilen:t.init.length=t.vars.length
 init:∀i,i < t.init.length→t.init.getD i 0 < t.vars.getD i 0
 goal:FcOk t.vars t.goal
 ops:∀o ∈ t.ops,NoG t.vars o
theorem asc_len:∀(l:List Nat) (N:Nat),l.Pairwise (· < ·)→(∀x ∈ l,x < N)→l.length≤N
 | [],N,_,_=>by simp
 | [x],N,_,h=>by have:=h x (by simp); simp; omega
 | x :: y :: l,N,hp,h=>by
  have hx:=List.pairwise_cons.1 hp
  have:=asc_len ((y :: l).map (· - 1)) (N - 1) ?_ ?_
  ·have hy:=h y (by simp)
   simp at this ⊢
   omega
  ·rw [List.pairwise_map]
   refine List.Pairwise.imp_of_mem ?_ hx.2
   intro a b ha hb hab
   have:=hx.1 a ha
   omega
  ·intro z hz
   obtain ⟨a,ha,rfl⟩:=List.mem_map.1 hz
   have:=hx.1 a ha
   have:=h a (by simp [ha])
   omega
 termination_by l=>l.length
theorem FcOk.len {vars:List Nat} {l:List Fc} (h:FcOk vars l):l.length≤vars.length:=by
 have:=asc_len (l.map (·.1)) vars.length (by rw [List.pairwise_map]; exact h.asc) (fun x hx=>by
  obtain ⟨f,hf,rfl⟩:=List.mem_map.1 hx
  exact (h.rng f hf).1)
 simpa using this
theorem prop_asc {vars:List Int} {l:List Fa} (h:propF vars l=true):(∀f ∈ l,inR vars f=true)∧l.Pairwise fun a b=>a.1 < b.1:=by
 have hat:∀i,i < l.length→inR vars (l.getD i (0,0))=true∧(0 < i→(l.getD (i - 1) (0,0)).1 < (l.getD i (0,0)).1):=fun i hi=>by
  have:=allR_at h hi
  unfold prAt at this
  simp only [Bool.and_eq_true,Bool.or_eq_true,decide_eq_true_eq] at this
  refine ⟨this.1,fun h0=>?_⟩
  rcases this.2 with h2 | h2
  ·omega
  ·exact h2
 have get:∀i (hi:i < l.length),l.getD i (0,0)=l[i]:=fun i hi=>by simp [List.getD,hi]
 refine ⟨fun f hf=>?_,?_⟩
 ·obtain ⟨i,hi,rfl⟩:=List.getElem_of_mem hf
  have:=(hat i hi).1
  rwa [get i hi] at this
 ·rw [List.pairwise_iff_getElem]
  intro i j hi hj hij
  have key:∀d i,i+d+1 < l.length→(l.getD i (0,0)).1 < (l.getD (i+d+1) (0,0)).1:=by
   intro d
   induction d with
   | zero=>intro i hi; exact (hat (i+1) (by omega)).2 (by omega)
   | succ d ih =>
    intro i hi
    have h1:=ih i (by omega)
    have h2:=(hat (i+(d+1)+1) (by omega)).2 (by omega)
    have e:i+(d+1)+1 - 1=i+d+1:=by omega
    rw [e] at h2
    omega
  have:=key (j - i - 1) i (by omega)
  rw [show i+(j - i - 1)+1=j by omega,get i hi,get j hj] at this
  exact this
theorem fa_nat {vars:List Int} {nvars:List Nat} (hv:vars=nvars.map iN) {f:Fa} (h:inR vars f=true):faN (f.1.toNat,f.2.toNat)=f∧f.1.toNat < nvars.length∧f.2.toNat < nvars.getD f.1.toNat 0:=by
 unfold inR at h
 simp only [Bool.and_eq_true,decide_eq_true_eq] at h
 obtain ⟨⟨⟨h1,h2⟩,h3⟩,h4⟩:=h
 subst hv
 have hl:f.1.toNat < nvars.length:=by simp at h2; omega
 have e:(nvars.map iN).getD f.1.toNat 0=(nvars.getD f.1.toNat 0:Int):=by simp [List.getD,hl,iN]
 rw [e] at h4
 refine ⟨?_,hl,by omega⟩
 unfold faN
 exact Prod.ext (by simp; omega) (by simp; omega)
theorem prop_nat {vars:List Int} {nvars:List Nat} (hv:vars=nvars.map iN) {l:List Fa} (h:propF vars l=true):∃m:List Fc,m.map faN=l∧FcOk nvars m:=by
 obtain ⟨h1,h2⟩:=prop_asc h
 refine ⟨l.map fun f=>(f.1.toNat,f.2.toNat),?_,?_,?_⟩
 ·rw [List.map_map]
  conv=>rhs; rw [←List.map_id l]
  exact List.map_congr_left fun f hf=>(fa_nat hv (h1 f hf)).1
 ·intro g hg
  obtain ⟨f,hf,rfl⟩:=List.mem_map.1 hg
  exact (fa_nat hv (h1 f hf)).2
 ·rw [List.pairwise_map]
  refine List.Pairwise.imp_of_mem ?_ h2
  intro a b ha hb hab
  have ea:=congrArg Prod.fst (fa_nat hv (h1 a ha)).1
  have eb:=congrArg Prod.fst (fa_nat hv (h1 b hb)).1
  simp only [faN] at ea eb
  show a.1.toNat < b.1.toNat
  omega
theorem list_nat {α β:Type} {f:β→α} {p:β→Prop}:∀{l:List α},(∀a ∈ l,∃b,f b=a∧p b)→∃m:List β,m.map f=l∧∀b ∈ m,p b
 | [],_=>⟨[],rfl,by simp⟩
 | a :: l,h=>by
  obtain ⟨b,hb,hp⟩:=h a (by simp)
  obtain ⟨m,hm,hpm⟩:=list_nat (l:=l) fun a ha=>h a (by simp [ha])
  refine ⟨b :: m,by simp [hb,hm],fun c hc=>?_⟩
  rcases List.mem_cons.1 hc with rfl | hc
  ·exact hp
  ·exact hpm c hc
theorem good_nat {t:Tk} (h:goodB t=true):∃T:Nt,T.raw=t∧NtG T:=by
 unfold goodB at h
 simp only [Bool.and_eq_true,decide_eq_true_eq] at h
 obtain ⟨⟨⟨⟨⟨h1,h2⟩,h3⟩,h4⟩,h5⟩,h6⟩:=h
 rw [List.all_eq_true] at h3 h6
 obtain ⟨nv,hnv,hnv2⟩:=list_nat (f:=iN) (p:=fun n=>1≤n∧n≤64) (l:=t.vars) fun a ha=>by
  have:=h3 a ha
  simp [varB] at this
  exact ⟨a.toNat,by unfold iN; omega,by omega,by omega⟩
 unfold stateB at h4
 simp only [Bool.and_eq_true,decide_eq_true_eq] at h4
 obtain ⟨hil,hst⟩:=h4
 have hst2:∀i,i < t.init.length→0≤t.init.getD i 0∧t.init.getD i 0 < t.vars.getD i 0:=fun i hi=>by
  have:=allR_at hst hi
  simpa [stAt] using this
 obtain ⟨ni,hni,_⟩:=list_nat (f:=iN) (p:=fun _=>True) (l:=t.init) fun a ha=>by
  obtain ⟨i,hi,rfl⟩:=List.getElem_of_mem ha
  have:=(hst2 i hi).1
  simp [List.getD,hi] at this
  exact ⟨t.init[i].toNat,by unfold iN; omega,trivial⟩
 obtain ⟨ng,hng,hgok⟩:=prop_nat hnv.symm h5
 obtain ⟨no,hno,hook⟩:=list_nat (f:=No.raw) (p:=NoG nv) (l:=t.ops) fun o ho=>by
  have:=h6 o ho
  unfold opB at this
  simp only [Bool.and_eq_true,decide_eq_true_eq] at this
  obtain ⟨⟨⟨⟨⟨c1,c2⟩,c3⟩,c4⟩,c5⟩,c6⟩:=this
  rw [List.all_eq_true] at c6
  obtain ⟨np,hnp,hpok⟩:=prop_nat hnv.symm c5
  obtain ⟨ne,hne,heok⟩:=list_nat (f:=Nf.raw) (p:=fun e=>FcOk nv e.cnd∧e.v < nv.length∧e.x < nv.getD e.v 0) (l:=o.effs) fun e he=>by
   have:=c6 e he
   unfold effB at this
   simp only [Bool.and_eq_true] at this
   obtain ⟨d1,d2⟩:=this
   obtain ⟨nc,hnc,hcok⟩:=prop_nat hnv.symm d1
   obtain ⟨f1,f2,f3⟩:=fa_nat hnv.symm d2
   refine ⟨⟨e.wv,nc,e.v.toNat,e.x.toNat⟩,?_,hcok,f2,f3⟩
   have q1:=congrArg Prod.fst f1
   have q2:=congrArg Prod.snd f1
   simp only [faN] at q1 q2
   unfold Nf.raw
   simp only [hnc]
   cases e
   simp only at q1 q2
   simp only [q1,q2]
  refine ⟨⟨o.name,o.cost.toNat,o.pv,np,o.ev,ne⟩,?_,by simp; omega,?_,hpok,fun e he=>(heok e he).1,fun e he=>(heok e he).2⟩
  ·unfold No.raw
   simp only [hnp,hne]
   have:((o.cost.toNat:Nat):Int)=o.cost:=by omega
   cases o
   simp only at this
   simp only [this]
  ·show ne.length≤64
   have:=congrArg List.length hne
   simp at this; omega
 have hlv:nv.length=t.vars.length:=by rw [←hnv]; simp
 have hlo:no.length=t.ops.length:=by rw [←hno]; simp
 have hli:ni.length=t.init.length:=by rw [←hni]; simp
 refine ⟨⟨t.vv,t.nv,t.gv,t.ov,nv,ni,ng,no⟩,?_,by show nv.length≤64; omega,by show no.length≤4096; omega,hnv2,by show ni.length=nv.length; omega,fun i hi=>?_,hgok,hook⟩
 ·unfold Nt.raw
  simp only [hnv,hni,hng,hno]
 ·have hi:i < ni.length:=hi
  have:=(hst2 i (by omega)).2
  rw [←hnv,←hni] at this
  have e1:(ni.map iN).getD i 0=(ni.getD i 0:Int):=by simp [List.getD,hi,iN]
  have e2:(nv.map iN).getD i 0=(nv.getD i 0:Int):=by simp [List.getD,show i < nv.length by omega,iN]
  rw [e1,e2] at this
  show ni.getD i 0 < nv.getD i 0
  omega
end Go.Tk
end
section
namespace Go.Rx
def Inf:Nat:=1125899906842624
structure Un where
 op:Nat
 eff:Nat
 cost:Nat
 makes:Nat
 needs:List Nat
def gr (V:Nat→Nat):List Nat→Nat
 | []=>0
 | x :: l=>max (V x) (gr V l)
section
variable {V V':Nat→Nat} {l l':List Nat} {k m:Nat}
end
section
variable {U U':List Un} {S S':List Nat} {V V':Nat→Nat} {f k:Nat}
end
end Go.Rx
end
section
namespace Go.Rx
abbrev En:=Nat × Nat
def gt (l:List En) (i:Nat):En:=l.getD i default
def swp (l:List En) (i p:Nat):List En:=(l.set i (gt l p)).set p (gt l i)
@[simp] theorem swp_len (l:List En) (i p:Nat):(swp l i p).length=l.length:=by simp [swp]
end Go.Rx
end
section
namespace Go.Rx
def updN {α:Type} (V:Nat→α) (i:Nat) (x:α):Nat→α:=fun j=>if j=i then x else V j
@[simp] theorem updN_same {α:Type} {V:Nat→α} {i:Nat} {x:α}:updN V i x i=x:=by simp [updN]
section
variable {U:List Un} {ok:Nat→Bool} {S S0:List Nat} {out:Nat→Nat} {s s':List En} {done:Nat→Bool} {cur:Nat} {pend:List Nat}
end
end Go.Rx
end
section
namespace Go.Rx
open Go.Tk Go.W Go
def psum (vars:List Nat) (v:Nat):Nat:=(vars.take v).sum
def numF (vars:List Nat) (f:Fc):Nat:=psum vars f.1+f.2
theorem sum_le {vars:List Nat} {N:Nat} (h:∀n ∈ vars,n≤N):vars.sum≤vars.length * N:=by
 induction vars with
 | nil=>simp
 | cons x l ih =>
  have:=ih fun n hn=>h n (by simp [hn])
  have:=h x (by simp)
  rw [List.sum_cons,List.length_cons,Nat.add_mul]
  omega
end Go.Rx
end
section
namespace Go.W
open Go
section
variable {α:Type} {enc:α→List Value} {E sz:Nat} {B X Y:Asr} {w w1:World} {F:List Nat}
end
section
variable {α:Type} {enc:α→List Value} {E E2:Nat} {B:Asr} {w w1:World} {F:List Nat} {v:Value} {ps:List (Cell1 × List α)}
end
end Go.W
namespace Go.W
open Go
section
variable {α:Type} {enc:α→List Value} {E E2:Nat} {B X:Asr} {w w1:World} {F:List Nat} {v:Value} {ps:List (Cell1 × List α)}
theorem Imp.as {A B C:Asr}:Imp (Star (Star A B) C) (Star A (Star B C)):=fun w F h=>Star.assoc h
theorem Imp.em {X:Asr}:Imp X (Star Emp X):=fun w F h=>⟨[] ++ F,⟨[],F,Eq.refl _,h,by simp,Eq.refl _⟩,fun x hx=>by simpa using hx⟩
end
end Go.W
namespace Go.W
open Go
theorem Imp.ow {α:Type} {v:Value} {E sz:Nat} {enc:α→List Value} {l:List α} {X:Asr}:Imp (Star (OwnA v E sz enc l) X) (Star (VwA v enc l) X):=by
 rintro w F ⟨Fa,Fb,⟨h1,e1⟩,h2,hd,e⟩
 subst e e1
 refine ⟨_,⟨v.own,Fb,⟨h1.vw,Eq.refl _,fun x hx=>?_⟩,h2,hd,Eq.refl _⟩,fun x hx=>hx⟩
 rcases h1 with ⟨rfl,_⟩ | ⟨g,cap,cur,junk,rfl,hh,_⟩
 ·cases hx
 ·simp at hx; subst hx; exact lt_of_blk hh
end Go.W
namespace Go.W
variable {X:Asr}
theorem Imp.fr2 {A1 A2:Asr}:Imp (Star A1 (Star A2 X)) (Star A2 (Star A1 X)):=Imp.sw
theorem Imp.bk2 {A1 A2:Asr}:Imp (Star A1 (Star A2 X)) (Star A2 (Star A1 X)):=Imp.sw
theorem Imp.fr3 {A1 A2 A3:Asr}:Imp (Star A1 (Star A2 (Star A3 X))) (Star A3 (Star A1 (Star A2 X))):=(Imp.un Imp.fr2).trans Imp.sw
theorem Imp.bk3 {A1 A2 A3:Asr}:Imp (Star A1 (Star A2 (Star A3 X))) (Star A2 (Star A3 (Star A1 X))):=Imp.sw.trans (Imp.un Imp.bk2)
theorem Imp.fr4 {A1 A2 A3 A4:Asr}:Imp (Star A1 (Star A2 (Star A3 (Star A4 X)))) (Star A4 (Star A1 (Star A2 (Star A3 X)))):=(Imp.un Imp.fr3).trans Imp.sw
theorem Imp.bk4 {A1 A2 A3 A4:Asr}:Imp (Star A1 (Star A2 (Star A3 (Star A4 X)))) (Star A2 (Star A3 (Star A4 (Star A1 X)))):=Imp.sw.trans (Imp.un Imp.bk3)
theorem Imp.fr5 {A1 A2 A3 A4 A5:Asr}:Imp (Star A1 (Star A2 (Star A3 (Star A4 (Star A5 X))))) (Star A5 (Star A1 (Star A2 (Star A3 (Star A4 X))))):=(Imp.un Imp.fr4).trans Imp.sw
theorem Imp.bk5 {A1 A2 A3 A4 A5:Asr}:Imp (Star A1 (Star A2 (Star A3 (Star A4 (Star A5 X))))) (Star A2 (Star A3 (Star A4 (Star A5 (Star A1 X))))):=Imp.sw.trans (Imp.un Imp.bk4)
theorem Imp.fr6 {A1 A2 A3 A4 A5 A6:Asr}:Imp (Star A1 (Star A2 (Star A3 (Star A4 (Star A5 (Star A6 X)))))) (Star A6 (Star A1 (Star A2 (Star A3 (Star A4 (Star A5 X)))))):=(Imp.un Imp.fr5).trans Imp.sw
theorem Imp.bk6 {A1 A2 A3 A4 A5 A6:Asr}:Imp (Star A1 (Star A2 (Star A3 (Star A4 (Star A5 (Star A6 X)))))) (Star A2 (Star A3 (Star A4 (Star A5 (Star A6 (Star A1 X)))))):=Imp.sw.trans (Imp.un Imp.bk5)
theorem Imp.fr7 {A1 A2 A3 A4 A5 A6 A7:Asr}:Imp (Star A1 (Star A2 (Star A3 (Star A4 (Star A5 (Star A6 (Star A7 X))))))) (Star A7 (Star A1 (Star A2 (Star A3 (Star A4 (Star A5 (Star A6 X))))))):=(Imp.un Imp.fr6).trans Imp.sw
theorem Imp.bk7 {A1 A2 A3 A4 A5 A6 A7:Asr}:Imp (Star A1 (Star A2 (Star A3 (Star A4 (Star A5 (Star A6 (Star A7 X))))))) (Star A2 (Star A3 (Star A4 (Star A5 (Star A6 (Star A7 (Star A1 X))))))):=Imp.sw.trans (Imp.un Imp.bk6)
theorem Imp.fr8 {A1 A2 A3 A4 A5 A6 A7 A8:Asr}:Imp (Star A1 (Star A2 (Star A3 (Star A4 (Star A5 (Star A6 (Star A7 (Star A8 X)))))))) (Star A8 (Star A1 (Star A2 (Star A3 (Star A4 (Star A5 (Star A6 (Star A7 X)))))))):=(Imp.un Imp.fr7).trans Imp.sw
theorem Imp.bk8 {A1 A2 A3 A4 A5 A6 A7 A8:Asr}:Imp (Star A1 (Star A2 (Star A3 (Star A4 (Star A5 (Star A6 (Star A7 (Star A8 X)))))))) (Star A2 (Star A3 (Star A4 (Star A5 (Star A6 (Star A7 (Star A8 (Star A1 X)))))))):=Imp.sw.trans (Imp.un Imp.bk7)
theorem Imp.fr9 {A1 A2 A3 A4 A5 A6 A7 A8 A9:Asr}:Imp (Star A1 (Star A2 (Star A3 (Star A4 (Star A5 (Star A6 (Star A7 (Star A8 (Star A9 X))))))))) (Star A9 (Star A1 (Star A2 (Star A3 (Star A4 (Star A5 (Star A6 (Star A7 (Star A8 X))))))))):=(Imp.un Imp.fr8).trans Imp.sw
theorem Imp.fr10 {A1 A2 A3 A4 A5 A6 A7 A8 A9 AA:Asr}:Imp (Star A1 (Star A2 (Star A3 (Star A4 (Star A5 (Star A6 (Star A7 (Star A8 (Star A9 (Star AA X)))))))))) (Star AA (Star A1 (Star A2 (Star A3 (Star A4 (Star A5 (Star A6 (Star A7 (Star A8 (Star A9 X)))))))))):=(Imp.un Imp.fr9).trans Imp.sw
end Go.W
namespace Go.W
open Go Go.Maps
section
variable {κ:Type} [DecidableEq κ] {ek:κ→Value} {ok:κ→Prop} {P:Program} {k e t:TypeId} {w:World}
end
end Go.W
namespace Go.W
end Go.W
end
section
namespace Go.Proofs.YtcoeknnghfajnaaGreat
open Go Go.W Go.Tk Go.Rx
theorem sl_nil {v:Value} {α:Type} {enc:α→List Value} {l:List α} {w:World} (h:Vw w v enc l):(v=.slice none 0 0∧l=[])∨∃a cap,v=.slice (some a) l.length cap:=by
 rcases h with h | ⟨a,cap,rfl,_⟩
 ·exact .inl h
 ·exact .inr ⟨a,cap,rfl⟩
theorem cloneI_spec {w:World} (v:Value) (l:List Nat) (hv:Vw w v nE l) (hl:l.length≤1000000) :
  Calls Tryz.prog 69 [v].toArray w fun e w'=>∃u,e=.returned u∧Nw w w' u 3 1 nE l:=by
 refine enter Tryz.func69 mixed low69 (Nat.le_of_ble_eq_true rfl) ?_
 simp only [L69]
 have h0:At w [] Emp w:=At.start rfl
 rcases sl_nil hv with ⟨rfl,rfl⟩ | ⟨a,cap,rfl⟩
 ·simp
  exact Nw.of (At.nil (E:=3) (sz:=1) (enc:=nE) .emp h0)
 ·simp [rowOf]
  have h1:=h0.lit (xs:=([]:List Nat)) (enc:=nE) (E:=3) (sz:=1) (cs:=#[]) (m:=0) .emp (by simp) nE_len (by simp [maxLen]) rfl
  refine At.appendV (xs:=l) .emp h1 (hv.kp0 ((Kp.refl [] w).alloc _)) nE_len nE_one sl_22 (by simp; omega) (by simp; unfold maxLen; omega) fun v' w2 h2=>?_
  simp
  exact Nw.of (by simpa using h2)
theorem cloneF_spec {w:World} (v:Value) (l:List Fc) (hv:Vw w v fcE l) (hl:l.length≤1000000) :
  Calls Tryz.prog 70 [v].toArray w fun e w'=>∃u,e=.returned u∧Nw w w' u 85 2 fcE l:=by
 refine enter Tryz.func70 mixed low70 (Nat.le_of_ble_eq_true rfl) ?_
 simp only [L70]
 have h0:At w [] Emp w:=At.start rfl
 rcases sl_nil hv with ⟨rfl,rfl⟩ | ⟨a,cap,rfl⟩
 ·simp
  exact Nw.of (At.nil (E:=85) (sz:=2) (enc:=fcE) .emp h0)
 ·simp [rowOf]
  have h1:=h0.lit (xs:=([]:List Fc)) (enc:=fcE) (E:=85) (sz:=2) (cs:=#[]) (m:=0) .emp (by simp) fcE_len (by simp [maxLen]) rfl
  refine At.appendV (xs:=l) .emp h1 (hv.kp0 ((Kp.refl [] w).alloc _)) fcE_len fcE_one sl_23 (by simp; omega) (by simp; unfold maxLen; omega) fun v' w2 h2=>?_
  simp
  exact Nw.of (by simpa using h2)
theorem nE_cell {w:World} {v:Value} {l:List Nat} {k x:Nat} (h:Vw w v nE l) (hx:l[k]? = some x):w.cell? (v.adr.add k)=some (.int .i64 (x:Nat)):=by
 simpa using h.at_ nE_len hx (o:=0) (u:=.int .i64 (x:Nat)) rfl
end Go.Proofs.YtcoeknnghfajnaaGreat
end
section
namespace Go.Proofs.YtcoeknnghfajnaaGreat
open Go Go.W Go.Tk Go.Rx
structure Ru where
 u:Un
 nv:Cell1
end Go.Proofs.YtcoeknnghfajnaaGreat
end
section
namespace Go.Tk
open Go Go.W
theorem prop_len {vars:List Int} {l:List Fa} (hv:∀n ∈ vars,0≤n) (h:propF vars l=true):l.length≤vars.length:=by
 have hn:vars=(vars.map Int.toNat).map iN:=by
  rw [List.map_map]
  conv=>lhs; rw [←List.map_id vars]
  exact List.map_congr_left fun n hn2=>by have:=hv n hn2; simp [iN]; omega
 obtain ⟨m,hm,ok⟩:=prop_nat hn h
 have:=ok.len
 have:=congrArg List.length hm
 simp at *
 omega
theorem chk_good (t:Tk):chkC t=none↔goodB t=true:=by
 have hc:∀{vars:List Int},vars.all varB=true→∀n ∈ vars,0≤n:=fun h n hn=>by
  have:=List.all_eq_true.1 h n hn
  simp [varB] at this
  omega
 constructor
 ·intro h
  unfold chkC at h
  split at h; · cases h
  rename_i e1
  split at h; · cases h
  rename_i e2
  split at h; · cases h
  rename_i e3
  split at h; · cases h
  rename_i e4
  split at h; · cases h
  rename_i e5
  split at h; · cases h
  rename_i e6
  split at h; · cases h
  rename_i e7
  simp only [Bool.not_eq_true,Bool.not_eq_false] at e1 e2 e3 e4 e5 e6 e7
  unfold largeB at e1
  simp only [Bool.not_eq_false',Bool.and_eq_true,decide_eq_true_eq] at e1
  obtain ⟨⟨⟨l1,l2⟩,l3⟩,l4⟩:=e1
  rw [List.all_eq_true] at l3 e3 e5 e6 e7
  have hg:propF t.vars t.goal=true:=e5 (t.gv,t.goal) (by simp [condsL])
  have ho:t.ops.all (opB t.vars)=true:=by
   rw [List.all_eq_true]
   intro o ho
   have a1:=e3 o ho
   have a2:=e7 o ho
   have a3:=l3 o ho
   have a4:propF t.vars o.pre=true:=e5 (o.pv,o.pre) (by
    unfold condsL
    exact List.mem_cons_of_mem _ (List.mem_flatMap.2 ⟨o,ho,by simp [condsO]⟩))
   have a5:o.effs.all (effB t.vars)=true:=by
    rw [List.all_eq_true]
    intro e he
    have b1:=List.all_eq_true.1 (e6 o ho) e he
    have b2:propF t.vars e.cnd=true:=e5 (e.wv,e.cnd) (by
     unfold condsL
     exact List.mem_cons_of_mem _ (List.mem_flatMap.2 ⟨o,ho,by
      unfold condsO
      exact List.mem_cons_of_mem _ (List.mem_map.2 ⟨e,he,rfl⟩)⟩))
    simp [effB,b1,b2]
   simp only [Bool.and_eq_true,decide_eq_true_eq] at a1 a3
   simp only [opB,a2,a4,a5,Bool.and_true,Bool.and_eq_true,decide_eq_true_eq]
   exact ⟨a1,a3⟩
  simp only [goodB,e2,e4,hg,ho,Bool.and_true,Bool.and_eq_true,decide_eq_true_eq]
  exact ⟨l1,l2⟩
 ·intro h
  unfold goodB at h
  simp only [Bool.and_eq_true,decide_eq_true_eq] at h
  obtain ⟨⟨⟨⟨⟨h1,h2⟩,h3⟩,h4⟩,h5⟩,h6⟩:=h
  have h6':=List.all_eq_true.1 h6
  have hop:∀o ∈ t.ops,(0≤o.cost∧o.cost≤1048576)∧o.effs.length≤64∧nameB o.name=true∧propF t.vars o.pre=true∧∀e ∈ o.effs,propF t.vars e.cnd=true∧inR t.vars (e.v,e.x)=true:=fun o ho=>by
   have:=h6' o ho
   unfold opB at this
   simp only [Bool.and_eq_true,decide_eq_true_eq,List.all_eq_true] at this
   obtain ⟨⟨⟨⟨⟨c1,c2⟩,c3⟩,c4⟩,c5⟩,c6⟩:=this
   refine ⟨⟨c1,c2⟩,c3,c4,c5,fun e he=>?_⟩
   have:=c6 e he
   unfold effB at this
   simpa only [Bool.and_eq_true] using this
  have hcp:∀p ∈ condsL t,propF t.vars p.2=true:=fun p hp=>by
   unfold condsL at hp
   rcases List.mem_cons.1 hp with rfl | hp
   ·exact h5
   ·obtain ⟨o,ho,hp⟩:=List.mem_flatMap.1 hp
    unfold condsO at hp
    rcases List.mem_cons.1 hp with rfl | hp
    ·exact (hop o ho).2.2.2.1
    ·obtain ⟨e,he,rfl⟩:=List.mem_map.1 hp
     exact ((hop o ho).2.2.2.2 e he).1
  have hl:largeB t=false:=by
   unfold largeB
   simp only [Bool.not_eq_false',Bool.and_eq_true,decide_eq_true_eq,List.all_eq_true]
   exact ⟨⟨⟨h1,h2⟩,fun o ho=>(hop o ho).2.1⟩,fun p hp=>Nat.le_trans (prop_len (hc h3) (hcp p hp)) h1⟩
  have e3:(t.ops.all fun o=>decide (0≤o.cost) && decide (o.cost≤1048576))=true:=by
   rw [List.all_eq_true]
   intro o ho
   have:=(hop o ho).1
   simp; omega
  have e5:((condsL t).all fun p=>propF t.vars p.2)=true:=by rw [List.all_eq_true]; exact hcp
  have e6:(t.ops.all fun o=>o.effs.all fun e=>inR t.vars (e.v,e.x))=true:=by
   rw [List.all_eq_true]
   intro o ho
   rw [List.all_eq_true]
   exact fun e he=>((hop o ho).2.2.2.2 e he).2
  have e7:(t.ops.all fun o=>nameB o.name)=true:=by
   rw [List.all_eq_true]
   exact fun o ho=>(hop o ho).2.2.1
  unfold chkC
  rw [if_neg (by rw [hl]; simp),if_neg (by rw [h3]; simp),if_neg (by rw [e3]; simp),if_neg (by rw [h4]; simp),if_neg (by rw [e5]; simp),if_neg (by rw [e6]; simp),if_neg (by rw [e7]; simp)]
theorem NtG.lens {T:Nt} (h:NtG T) (hn:∀o ∈ T.ops,o.name.size≤9223372036854775807):TkL T.raw:=by
 have hg:=h.goal.len
 refine ⟨by simp [Nt.raw]; have:=h.ilen; have:=h.vlen; omega,by simp [Nt.raw]; have:=h.vlen; omega,by simp [Nt.raw]; have:=h.olen; omega,by simp [Nt.raw]; have:=h.vlen; omega,fun o ho=>?_⟩
 obtain ⟨o',ho',rfl⟩:=List.mem_map.1 ho
 have g:=h.ops o' ho'
 have:=g.pre.len
 have:=h.vlen
 have:=g.elen
 refine ⟨hn o' ho',by simp [No.raw]; omega,by simp [No.raw]; omega,fun e he=>?_⟩
 obtain ⟨e',he',rfl⟩:=List.mem_map.1 he
 have:=(g.cnd e' he').len
 simp [Nf.raw]; omega
end Go.Tk
end
section
namespace Go.Proofs.YtcoeknnghfajnaaGreat
open Go Go.W Go.Tk Go.Rx Go.Maps
def zok (z:Int):Prop:=-9223372036854775808≤z∧z≤9223372036854775807
theorem zbool (w:World):(zeroValue 4).run Tryz.prog w=.ok (.bool false) w:=Tryz.zeroValue4 w
def bE (b:Bool):List Value:=[.bool b]
theorem bE_len (b:Bool):(bE b).length=1:=rfl
theorem bE_one (b:Bool):(bE b).all oneC=true:=rfl
def tabB (N:Nat) (g:Nat→Bool):List Bool:=(List.range N).map g
theorem tabB_at {N k:Nat} {g:Nat→Bool} (h:k < N):(tabB N g)[k]? = some (g k):=by simp [tabB,h]
end Go.Proofs.YtcoeknnghfajnaaGreat
end
section
namespace Go.Proofs.YtcoeknnghfajnaaGreat
open Go Go.W Go.Tk Go.Rx Go.Maps
section
variable {α:Type} {enc:α→List Value} {w w' w1 w2:World} {v:Value} {ls:List (List α)} {F:List Nat} {A B:Asr}
def LLV (enc:α→List Value) (w:World) (v:Value) (ls:List (List α)):Prop:=∃ps:List (Cell1 × List α),ps.map (·.2)=ls∧Vw w v sv1 ps∧∀p ∈ ps,Vw w p.1.1 enc p.2
theorem LLA.vw {E:Nat} (h:At w F (Star (LLA v E enc ls) B) w'):LLV enc w' v ls:=by
 obtain ⟨ps,h1,h2⟩:=LLA.opn h
 exact ⟨ps,h1,h2.own.vw,fun p hp=>h2.drop.vws hp⟩
theorem LLV.spread (h:LLV enc w v ls):∃ps:List (Cell1 × List α),ps.length=ls.length∧Vw w v sv1 ps∧∀(i:Nat) (p:Cell1 × List α),ps[i]? = some p→∃l,ls[i]? = some l∧Vw w p.1.1 enc l:=by
 obtain ⟨ps,rfl,h2,h3⟩:=h
 exact ⟨ps,by simp,h2,fun i p hp=>⟨p.2,by rw [List.getElem?_map,hp]; rfl,h3 p (List.mem_of_getElem? hp)⟩⟩
theorem At.join (hB:Lcl B) (h:At w F B w1) (t:At w1 [] (Star A Emp) w2):At w F (Star A B) w2:=by
 obtain ⟨F1,⟨Fa,Fe,h1,h2,hd,rfl⟩,hs⟩:=t.ex
 refine h.more hB t.kp ⟨Fa,h1,fun x hx=>?_⟩
 rcases hs x (by simp [hx]) with h3 | h3
 ·cases h3
 ·exact h3
theorem li_append {u ov:Value} {c:List α} {outs:List (List α)} {KV:Kont (Value × World)} (hB:Lcl B) (h:At w F (Star (OwnA u 3 1 enc c) (Star (LLA ov 22 enc outs) B)) w1) (hl:outs.length≤100000)
  (H:∀v' w2,At w F (Star (LLA v' 22 enc (outs ++ [c])) B) w2→KV.run (v',w2)) :
  @efH Tryz.prog (Builtin.append_ #[44,44] 44 [ov,.slice (some ⟨w1.heap.size,0,none⟩) 1 1].toArray) (w1.alloc (.cells #[u] 22)) KV:=by
 have hou:=h.own.o1
 obtain ⟨ps,hps,h3⟩:=LLA.opn h.rot
 have hpl:ps.length=outs.length:=by rw [←hps]; simp
 have hBX:Lcl (Star (VwsA enc ps) (Star (OwnA u 3 1 enc c) B)):=Lcl.vws.star (Lcl.own.star hB)
 have h4:=h3.kp0 (Lcl.own.star hBX) ((Kp.refl [] w1).alloc (.cells #[u] 22))
 refine At.append (xs:=[((⟨u,hou⟩,c):Cell1 × List α)]) hBX h4 sv1_len sv1_one sl_44 rfl (fun j x hj=>?_) (by omega) (by unfold maxLen; omega) fun v' w5 h5=>H v' w5 ?_
 ·simp [sv1] at hj
  rw [add_none,cell_blk alloc_new]
  simpa using hj
 ·have h6:At w F (Star (OwnA v' 22 1 sv1 (ps ++ [((⟨u,hou⟩,c):Cell1 × List α)])) (Star (VwsA enc (ps ++ [((⟨u,hou⟩,c):Cell1 × List α)])) B)) w5 :=
   ((h5.rot3.own_vw).by (Imp.trans (Imp.un Imp.sw) (Imp.trans (VwsA.add hou) Imp.sw))).by Imp.rfl
  exact LLA.cls (ls:=outs ++ [c]) (by simp [hps]) h6
end
end Go.Proofs.YtcoeknnghfajnaaGreat
end
section
namespace Go.Proofs.YtcoeknnghfajnaaGreat
open Go Go.W Go.Tk Go.Rx Go.Maps
structure StN (vars s:List Nat):Prop where
 len:s.length=vars.length
 rng:∀v,v < vars.length→s.getD v 0 < vars.getD v 0
theorem iN_at {l:List Nat} {j:Nat}:(l.map iN).getD j 0=((l.getD j 0:Nat):Int):=by
 simp only [List.getD,List.getElem?_map]
 cases l[j]? <;> simp [iN]
theorem StN.ok {vars s:List Nat} (h:StN vars s):stateB (vars.map iN) (s.map iN)=true:=by
 unfold stateB
 rw [allR_true fun j hj=>?_]
 ·simp [h.len]
 ·unfold stAt
  rw [iN_at,iN_at]
  simp at hj
  have:=h.rng j (by rw [←h.len]; exact hj)
  simp only [Bool.and_eq_true,decide_eq_true_eq]
  omega
section
variable {w:World} {b:Nat} {vars:List Nat} {goal:List Fc} {U:List Un} {vv gv fv uv nd fr:Value} {rs:List Ru} {ps:List (Cell1 × List Nat)}
end
end Go.Proofs.YtcoeknnghfajnaaGreat
end
section
namespace Go.Proofs.YtcoeknnghfajnaaGreat
open Go Go.W Go.Tk Go.Rx Go.Maps
def grF (vars:List Nat) (V:Nat→Nat) (l:List Fc):Nat:=gr V (l.map (numF vars))
theorem take_snoc {α:Type} {l:List α} {k:Nat} {x:α} (h:l[k]? = some x):l.take (k+1)=l.take k ++ [x]:=by
 rw [List.take_add_one,h]; rfl
section
variable {w:World} {b:Nat} {vars:List Nat} {goal:List Fc} {U:List Un} {vv gv fv uv nd fr:Value} {rs:List Ru} {ps:List (Cell1 × List Nat)}
end
end Go.Proofs.YtcoeknnghfajnaaGreat
end
section
namespace Go.Proofs.YtcoeknnghfajnaaGreat
open Go Go.W Go.Tk Go.Rx Go.Maps
theorem nat_append {w w1:World} {F:List Nat} {B:Asr} {ov:Value} {l:List Nat} {x:Nat} {KV:Kont (Value × World)} (hB:Lcl B) (h:At w F (Star (OwnA ov 3 1 nE l) B) w1) (hl:l.length≤1000000)
  (H:∀v' w2,At w F (Star (OwnA v' 3 1 nE (l ++ [x])) B) w2→KV.run (v',w2)) :
  @efH Tryz.prog (Builtin.append_ #[22,22] 22 [ov,.slice (some ⟨w1.heap.size,0,none⟩) 1 1].toArray) (w1.alloc (.cells #[.int .i64 (x:Nat)] 3)) KV:=by
 have h4:=h.kp0 (Lcl.own.star hB) ((Kp.refl [] w1).alloc (.cells #[.int .i64 (x:Nat)] 3))
 refine At.append (xs:=[x]) hB h4 nE_len nE_one sl_22 rfl (fun j u hj=>?_) (by omega) (by unfold maxLen; omega) fun v' w5 h5=>H v' w5 h5
 simp [nE] at hj
 rw [add_none,cell_blk alloc_new]
 simpa using hj
section
variable {w:World} {b:Nat} {vars:List Nat} {goal:List Fc} {U:List Un} {vv gv fv uv nd fr:Value} {rs:List Ru} {ps:List (Cell1 × List Nat)}
end
end Go.Proofs.YtcoeknnghfajnaaGreat
end
section
namespace Go.Proofs.YtcoeknnghfajnaaGreat
open Go Go.W Go.Tk Go.Rx Go.Maps
def ntO (T:Nt):Obj:=.cells #[T.vv.1,T.nv.1,T.gv.1,T.ov.1] 26 (0,0)
def ntV (T:Nt):Value:=.agg #[T.vv.1,T.nv.1,T.gv.1,T.ov.1]
def noV (o:No):Value:=.agg #[.string o.name,.int .i64 (o.cost:Nat),o.pv.1,o.ev.1]
end Go.Proofs.YtcoeknnghfajnaaGreat
end
section
namespace Go.Proofs.YtcoeknnghfajnaaGreat
open Go Go.W Go.Tk Go.Rx Go.Maps
section
variable {α:Type} {enc:α→List Value} {E sz:Nat} {B:Asr} {w w1:World} {F:List Nat}
end
def FcRng (vars:List Nat) (l:List Fc):Prop:=∀f ∈ l,f.1 < vars.length∧f.2 < vars.getD f.1 0
end Go.Proofs.YtcoeknnghfajnaaGreat
end
section
namespace Go.Rx
open Go.Tk Go.W Go
def Clo (A:List Un) (V:Nat→Nat):Prop:=∀u ∈ A,gr V u.needs < Inf→V u.makes≤gr V u.needs+u.cost
section
variable {A A':List Un} {S:List Nat} {V:Nat→Nat} {u:Un} {N f x:Nat}
end
end Go.Rx
end
section
namespace Go.Proofs.YtcoeknnghfajnaaGreat
open Go Go.W Go.Tk Go.Rx Go.Maps
theorem fc_append {w w1:World} {F:List Nat} {B:Asr} {ov:Value} {l:List Fc} {x:Fc} {KV:Kont (Value × World)} (hB:Lcl B) (h:At w F (Star (OwnA ov 85 2 fcE l) B) w1) (hl:l.length≤1000000)
  (H:∀v' w2,At w F (Star (OwnA v' 85 2 fcE (l ++ [x])) B) w2→KV.run (v',w2)) :
  @efH Tryz.prog (Builtin.append_ #[23,23] 23 [ov,.slice (some ⟨w1.heap.size,0,none⟩) 1 1].toArray) (w1.alloc (.cells #[.int .i64 (x.1:Nat),.int .i64 (x.2:Nat)] 85)) KV:=by
 have h4:=h.kp0 (Lcl.own.star hB) ((Kp.refl [] w1).alloc (.cells #[.int .i64 (x.1:Nat),.int .i64 (x.2:Nat)] 85))
 refine At.append (xs:=[x]) hB h4 fcE_len fcE_one sl_23 rfl (fun j u hj=>?_) (by omega) (by unfold maxLen; omega) fun v' w5 h5=>H v' w5 h5
 simp [fcE] at hj
 rw [add_none,cell_blk alloc_new]
 simpa using hj
end Go.Proofs.YtcoeknnghfajnaaGreat
end
section
namespace Go.Proofs.YtcoeknnghfajnaaGreat
open Go Go.W Go.Tk Go.Rx Go.Maps
def hdB (s:List Nat) (l:List Fc):Bool:=l.all fun f=>decide (s.getD f.1 0=f.2)
theorem hdB_succ {s:List Nat} {l:List Fc} {z:Nat} {f:Fc} (h:l[z]? = some f):hdB s (l.take (z+1))=(hdB s (l.take z) && decide (s.getD f.1 0=f.2)):=by
 unfold hdB; rw [take_snoc h,List.all_append]; simp
theorem holds_spec {w:World} (fv sv:Value) (l:List Fc) (s:List Nat) (hf:Vw w fv fcE l) (hs:Vw w sv nE s) (hl:l.length≤1000000) (hr:∀f ∈ l,f.1 < s.length) :
  Calls Tryz.prog 86 [fv,sv].toArray w fun e w'=>∃x,e=.returned x∧x=.bool (hdB s l)∧Kp [] w w':=by
 refine enter Tryz.func86 mixed low86 (Nat.le_of_ble_eq_true rfl) ?_
 simp only [L86]
 simp [hf.len]
 refine range_loop (n:=l.length) (by omega) (fun k ρ w'=>ρ 1=sv∧ρ 7=fv∧hdB s (l.take k)=true∧Kp [] w w') (by simp) (by simp)
  ⟨by simp,by simp,by simp [hdB],Kp.refl _ _⟩ (by decide) (fun _ _ _ _ h=>by simpa using h) (fun _ _ _ _ h=>by simpa using h) ?_ ?_
 rotate_left
 ·rintro ρ w4 ⟨g1,g7,g4,k4⟩
  rw [List.take_length] at g4
  simp [g4]
  exact k4
 rintro k ρ w4 hk hc hlm ⟨g1,g7,g4,k4⟩
 have hf4:=hf.kp0 k4
 obtain ⟨f,hfe⟩:∃f,l[k]? = some f:=⟨_,List.getElem?_eq_getElem hk⟩
 have hfm:=List.mem_of_getElem? hfe
 have f1:=hr f hfm
 have ec:=hf4.cells fcE_len hfe
 simp only [fcE] at ec
 obtain ⟨fb,hfb⟩:∃fb,fb=w4.heap.size:=⟨_,rfl⟩
 have hki:(k:Int) < l.length:=by omega
 simp (disch:=omega) [g7,hc,hlm,hf4.idx,ec,←hfb]
 refine st_fa (f:=faN f) .emp (At.start (w:=w4) rfl) hfb fun w7 h7=>?_
 have k7:=k4.trans h7.kp
 have hob:=h7.obj
 simp only [faN,faO] at hob
 rw [hfb] at hob
 have hs7:=hs.kp0 k7
 obtain ⟨y,hy⟩:∃y,s[f.1]? = some y:=⟨_,List.getElem?_eq_getElem f1⟩
 have hyd:s.getD f.1 0=y:=by simp [List.getD,hy]
 have n1:¬(f.1:Int) < 0:=by omega
 have n2:¬((s.length:Nat):Int)≤(f.1:Int):=by omega
 have n3:(f.1:Int) < s.length:=by omega
 have n4:¬s.length≤f.1:=by omega
 have hsc:=hdB_succ (s:=s) hfe
 rw [g4,hyd] at hsc
 by_cases hyx:y=f.2
 ·have t:((y:Int) != (f.2:Int))=false:=by simp; omega
  simp (disch:=omega) [g1,g7,hc,hlm,cell_blk hob,n1,n2,n4,hs7.len,hs7.idx,nE_cell hs7 hy,t]
  refine ⟨?_,k7.drew⟩
  rw [hsc]; simp [hyx]
 ·have t:((y:Int) != (f.2:Int))=true:=by simp; omega
  have hbad:hdB s l=false:=by
   unfold hdB
   rw [List.all_eq_false]
   exact ⟨f,hfm,by simp only [hyd,decide_eq_true_eq]; exact hyx⟩
  simp (disch:=omega) [g1,g7,hc,hlm,cell_blk hob,n1,n2,n4,hs7.len,hs7.idx,nE_cell hs7 hy,t,hbad]
  exact k7.drew
def rkK (vars s:List Nat):Nat→Nat
 | 0=>0
 | k+1=>rkK vars s k * vars.getD k 0+s.getD k 0
theorem rank_spec {w:World} (vv sv:Value) (vars s:List Nat) (hv:Vw w vv nE vars) (hs:Vw w sv nE s) (hl:s.length=vars.length) (hl2:s.length≤1000) (hb:∀k,k≤s.length→rkK vars s k≤1000000) :
  Calls Tryz.prog 48 [vv,sv].toArray w fun e w'=>∃x,e=.returned x∧x=.int .i64 (rkK vars s s.length:Nat)∧Kp [] w w':=by
 refine enter Tryz.func48 mixed low48 (Nat.le_of_ble_eq_true rfl) ?_
 simp only [L48]
 simp [hs.len]
 refine range_loop (n:=s.length) (by omega) (fun k ρ w'=>ρ 0=vv∧ρ 1=sv∧ρ 5=.int .i64 (rkK vars s k:Nat)∧Kp [] w w') (by simp) (by simp)
  ⟨by simp,by simp,by simp [rkK],Kp.refl _ _⟩ (by decide) (fun _ _ _ _ h=>by simpa using h) (fun _ _ _ _ h=>by simpa using h) ?_ ?_
 rotate_left
 ·rintro ρ w4 ⟨g0,g1,g5,k4⟩
  simp [g5]
  exact k4
 rintro k ρ w4 hk hc hlm ⟨g0,g1,g5,k4⟩
 have hv4:=hv.kp0 k4
 have hs4:=hs.kp0 k4
 obtain ⟨n,hn⟩:∃n,vars[k]? = some n:=⟨_,List.getElem?_eq_getElem (by omega)⟩
 obtain ⟨y,hy⟩:∃y,s[k]? = some y:=⟨_,List.getElem?_eq_getElem hk⟩
 have hnd:vars.getD k 0=n:=by simp [List.getD,hn]
 have hyd:s.getD k 0=y:=by simp [List.getD,hy]
 have e1:rkK vars s (k+1)=rkK vars s k * n+y:=by
  show rkK vars s k * vars.getD k 0+s.getD k 0=_
  rw [hnd,hyd]
 have hb1:=hb (k+1) (by omega)
 rw [e1] at hb1
 obtain ⟨m,hm⟩:∃m,m=rkK vars s k * n:=⟨_,rfl⟩
 have em:((rkK vars s k:Nat):Int) * (n:Nat)=(m:Int):=by rw [hm]; simp
 have e2:(m:Int)+(y:Nat)=((rkK vars s (k+1):Nat):Int):=by rw [e1,←hm]; simp
 have hki:(k:Int) < vars.length:=by omega
 have hks:(k:Int) < s.length:=by omega
 obtain ⟨m2,hm2⟩:∃m2,m2=rkK vars s (k+1):=⟨_,rfl⟩
 rw [←hm2] at e2 ⊢
 simp (disch:=omega) [g0,g1,g5,hc,hlm,hv4.idx,hs4.idx,nE_cell hv4 hn,nE_cell hs4 hy,em,wrap_i64]
 exact ⟨e2,k4.drew⟩
end Go.Proofs.YtcoeknnghfajnaaGreat
end
section
namespace Go.Proofs.YtcoeknnghfajnaaGreat
open Go Go.W Go.Tk Go.Rx Go.Maps
def extS (n:Nat) (s:List Nat):List (List Nat):=(List.range n).map fun x=>s ++ [x]
def stsK (vars:List Nat):Nat→List (List Nat)
 | 0=>[[]]
 | k+1=>(stsK vars k).flatMap (extS (vars.getD k 0))
theorem extS_len (n:Nat) (s:List Nat):(extS n s).length=n:=by simp [extS]
set_option maxHeartbeats 1000000 in
theorem states_spec {w:World} (vv:Value) (vars:List Nat) (hv:Vw w vv nE vars) (hl:vars.length≤1000) (hn:∀n ∈ vars,n≤1000) (hb:∀k,k≤vars.length→(stsK vars k).length≤10000) (hsl:∀k,k≤vars.length→∀s ∈ stsK vars k,s.length≤1000) :
  Calls Tryz.prog 16 [vv].toArray w fun e w'=>∃u,e=.returned u∧At w [] (Star (LLA u 22 nE (stsK vars vars.length)) Emp) w':=by
 refine enter Tryz.func16 mixed low16 (Nat.le_of_ble_eq_true rfl) ?_
 simp only [L16]
 have h0:At w [] Emp w:=At.start rfl
 have h1:=h0.lit (xs:=([]:List Nat)) (enc:=nE) (E:=3) (sz:=1) (cs:=#[]) (m:=0) .emp (by simp) nE_len (by simp [maxLen]) rfl
 obtain ⟨w1,hw1⟩:∃w1,w1=w.alloc (.cells #[] 3):=⟨_,rfl⟩
 obtain ⟨r,hr⟩:∃r,r=Value.slice (some ⟨w.heap.size,0,none⟩) 0 0:=⟨_,rfl⟩
 rw [←hw1,←hr] at h1
 have ho:=h1.own.o1
 have c1:=h1.own.c1
 have h2:At w [] (Star (VwsA nE [((⟨r,ho⟩,[]):Cell1 × List Nat)]) Emp) w1:=((VwsA.nil (Lcl.own.star .emp) h1).by Imp.sw).by (Imp.ow.trans (VwsA.add (ps:=[]) ho))
 have h3:=h2.lit (xs:=[((⟨r,ho⟩,[]):Cell1 × List Nat)]) (enc:=sv1) (E:=22) (sz:=1) (cs:=#[r]) (m:=1) (Lcl.vws.star .emp) (by simp [sv1]) sv1_len (by simp [maxLen]) rfl
 have h4:At w [] (Star (LLA (.slice (some ⟨w1.heap.size,0,none⟩) 1 1) 22 nE (stsK vars 0)) Emp) (w1.alloc (.cells #[r] 22)):=LLA.cls (ps:=[((⟨r,ho⟩,[]):Cell1 × List Nat)]) (by simp [stsK]) h3
 have hv4:=hv.kp0 h4.kp
 simp [←hw1,←hr,c1,rowOf,hv4.len]
 refine range_loop (n:=vars.length) (by omega) (fun k ρ w'=>ρ 12=vv∧At w [] (Star (LLA (ρ 3) 22 nE (stsK vars k)) Emp) w') (by simp) (by simp)
  ⟨by simp,by simpa using h4⟩ (by decide) (fun _ _ _ _ h=>by simpa using h) (fun _ _ _ _ h=>by simpa using h) ?_ ?_
 rotate_left
 ·rintro ρ w5 ⟨g12,h5⟩
  simp
  exact h5
 clear h1 h2 h3 h4 hv4 c1 hw1
 rintro k ρ w5 hk hck hlk ⟨g12,h5⟩
 have hv5:=hv.kp0 h5.kp
 obtain ⟨n,hne⟩:∃n,vars[k]? = some n:=⟨_,List.getElem?_eq_getElem hk⟩
 have hnb:=hn n (List.mem_of_getElem? hne)
 have hnd:vars.getD k 0=n:=by simp [List.getD,hne]
 have hki:(k:Int) < vars.length:=by omega
 obtain ⟨ov,hov⟩:∃ov,ov=ρ 3:=⟨_,rfl⟩
 rw [←hov] at h5
 obtain ⟨ps,hps,h6⟩:=LLA.opn h5
 have hpl:ps.length=(stsK vars k).length:=by rw [←hps]; simp
 have hbk:=hb k (by omega)
 have hbk1:=hb (k+1) (by omega)
 have hsk1:stsK vars (k+1)=(stsK vars k).flatMap (extS n):=by rw [←hnd]; rfl
 rw [hsk1] at hbk1
 have hX:Lcl (Star (OwnA ov 22 1 sv1 ps) (Star (VwsA nE ps) Emp)):=Lcl.own.star (Lcl.vws.star .emp)
 have h7:At w [] (Star (LLA (.slice none 0 0) 22 nE (((stsK vars k).take 0).flatMap (extS n))) (Star (OwnA ov 22 1 sv1 ps) (Star (VwsA nE ps) Emp))) w5:=LLA.nil hX h6
 simp (disch:=omega) [g12,hck,hlk,hv5.idx,nE_cell hv5 hne,←hov,h6.own.vw.len]
 refine range_loop (n:=ps.length) (by omega) (fun i ρ w'=>ρ 12=vv∧ρ 13=.int .i64 (vars.length:Nat)∧ρ 14=.int .i64 (k:Nat)∧ρ 5=.int .i64 (n:Nat)∧ρ 18=ov∧At w [] (Star (LLA (ρ 6) 22 nE (((stsK vars k).take i).flatMap (extS n))) (Star (OwnA ov 22 1 sv1 ps) (Star (VwsA nE ps) Emp))) w') (by simp) (by simp)
  ⟨by simp [g12],by simp [hlk],by simp [hck],by simp,by simp,by simpa using h7⟩ (by decide) (fun _ _ _ _ h=>by simpa using h) (fun _ _ _ _ h=>by simpa using h) ?_ ?_
 rotate_left
 ·clear g12 hck hlk hov
  rintro ρ w6 ⟨g12,g13,g14,g5,g18,h8⟩
  rw [hpl,List.take_length,←hsk1] at h8
  simp [g12,g13,g14]
  exact h8.by (Imp.un (Imp.dr.trans Imp.dr))
 clear g12 hck hlk hov h5 h6 h7 hv5
 rintro i ρ w6 hi hci hli ⟨g12,g13,g14,g5,g18,h8⟩
 obtain ⟨p,hp⟩:∃p,ps[i]? = some p:=⟨_,List.getElem?_eq_getElem hi⟩
 have hpm:=List.mem_of_getElem? hp
 obtain ⟨s,hse⟩:∃s,s=p.2:=⟨_,rfl⟩
 have hsi:(stsK vars k)[i]? = some s:=by rw [←hps,List.getElem?_map,hp,hse]; rfl
 have hsl1:=hsl k (by omega) s (List.mem_of_getElem? hsi)
 have hii:(i:Int) < ps.length:=by omega
 have hov:=h8.drop.own
 have ep:w6.cell? (ov.adr.add i)=some p.1.1:=by simpa using hov.vw.at_ sv1_len hp (o:=0) (u:=p.1.1) rfl
 have hlen:(((stsK vars k).take i).flatMap (extS n)).length+n≤10000:=by
  have e:stsK vars k=(stsK vars k).take i ++ (s :: (stsK vars k).drop (i+1)):=by
   obtain ⟨hk2,e2⟩:=List.getElem?_eq_some_iff.1 hsi
   rw [←e2,←List.drop_eq_getElem_cons hk2,List.take_append_drop]
  rw [e,List.flatMap_append,List.flatMap_cons,List.length_append,List.length_append,extS_len] at hbk1
  omega
 have htk:((stsK vars k).take (i+1)).flatMap (extS n)=((stsK vars k).take i).flatMap (extS n) ++ (extS n s).take n:=by
  have e:(extS n s).take n=extS n s:=List.take_of_length_le (by rw [extS_len]; omega)
  rw [take_snoc hsi,List.flatMap_append,e]
  simp
 simp (disch:=omega) [g5,g18,hci,hli,hov.vw.idx,ep]
 refine range_loop (n:=n) (by omega) (fun x ρ w'=>ρ 12=vv∧ρ 13=.int .i64 (vars.length:Nat)∧ρ 14=.int .i64 (k:Nat)∧ρ 5=.int .i64 (n:Nat)∧ρ 18=ov∧ρ 19=.int .i64 (ps.length:Nat)∧ρ 20=.int .i64 (i:Nat)∧ρ 8=p.1.1∧At w [] (Star (LLA (ρ 6) 22 nE (((stsK vars k).take i).flatMap (extS n) ++ (extS n s).take x)) (Star (OwnA ov 22 1 sv1 ps) (Star (VwsA nE ps) Emp))) w') (by simp) (by simp)
  ⟨by simp [g12],by simp [g13],by simp [g14],by simp [g5],by simp [g18],by simp [hli],by simp [hci],by simp,by simpa using h8⟩ (by decide) (fun _ _ _ _ h=>by simpa using h) (fun _ _ _ _ h=>by simpa using h) ?_ ?_
 rotate_left
 ·clear g12 g13 g14 g5 g18 hci hli
  rintro ρ w7 ⟨g12,g13,g14,g5,g18,g19,g20,g8,h9⟩
  rw [←htk] at h9
  simp [g12,g13,g14,g5,g18,g19,g20]
  exact h9
 clear g12 g13 g14 g5 g18 hci hli h8 hov ep
 rintro x ρ w7 hx hcx hlx ⟨g12,g13,g14,g5,g18,g19,g20,g8,h9⟩
 have hXL:Lcl (Star (LLA (ρ 6) 22 nE (((stsK vars k).take i).flatMap (extS n) ++ (extS n s).take x)) (Star (OwnA ov 22 1 sv1 ps) (Star (VwsA nE ps) Emp))):=Lcl.ll.star hX
 have h10:=h9.lit (xs:=([]:List Nat)) (enc:=nE) (E:=3) (sz:=1) (cs:=#[]) (m:=0) hXL (by simp) nE_len (by simp [maxLen]) rfl
 have hrow:Vw (w7.alloc (.cells #[] 3)) p.1.1 nE s:=by rw [hse]; exact h10.drop.drop.drop.vws hpm
 simp [hcx,g8,rowOf]
 refine At.appendV (xs:=s) hXL h10 hrow nE_len nE_one sl_22 (by simp; omega) (by simp; unfold maxLen; omega) fun v1 w8 h11=>?_
 simp
 refine nat_append hXL h11 (by simp; omega) fun v2 w9 h12=>?_
 have c12:=h12.own.c1
 simp [c12]
 have hlen2:(((stsK vars k).take i).flatMap (extS n) ++ (extS n s).take x).length≤100000:=by
  rw [List.length_append,List.length_take,extS_len]; omega
 refine li_append hX h12 hlen2 fun v3 w10 h13=>?_
 have ext:(extS n s)[x]? = some (s ++ [x]):=by unfold extS; rw [List.getElem?_map,List.getElem?_range hx]; rfl
 simp [g12,g13,g14,g5,g18,g19,g20,hcx,hlx]
 rw [take_snoc ext,←List.append_assoc]
 exact ⟨g8,by simpa using h13⟩
end Go.Proofs.YtcoeknnghfajnaaGreat
end
