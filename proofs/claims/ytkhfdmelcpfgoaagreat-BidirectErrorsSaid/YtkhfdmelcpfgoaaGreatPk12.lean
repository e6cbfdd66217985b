/-
  A part of the proof of this claim's statement (TkNat, RxPlain, RxHeap, RxDij, RxRel, LibM, RxW1, RxW2, TkChk, RxW6, RxW8, RxW9, RxXA, RxXB, RxFx, RxXF, RxXG, RxXH, RxXI, RxXJ, SyRel): plain theorems; no conditions beyond those each names.
-/
import Derived.Test.YtkhfdmelcpfgoaaGreatPk10
import Derived.Test.YtkhfdmelcpfgoaaGreatPk11
import Derived.Test.YtkhfdmelcpfgoaaGreatPk02
section
set_option linter.unusedVariables false
set_option linter.unusedSimpArgs false
namespace Go.Tk
open Go Go.W
abbrev Fc:=Nat × Nat
structure Nf where
 wv:Cell1
 cnd:List Fc
 v:Nat
 x:Nat
structure No where
 name:ByteArray
 cost:Nat
 pv:Cell1
 pre:List Fc
 ev:Cell1
 effs:List Nf
structure Nt where
 vv:Cell1
 nv:Cell1
 gv:Cell1
 ov:Cell1
 vars:List Nat
 init:List Nat
 goal:List Fc
 ops:List No
def iN (n:Nat):Int:=(n:Int)
def faN (f:Fc):Fa:=((f.1:Int),(f.2:Int))
def Nf.raw (e:Nf):Ef:=⟨e.wv,e.cnd.map faN,e.v,e.x⟩
def No.raw (o:No):Oq:=⟨o.name,o.cost,o.pv,o.pre.map faN,o.ev,o.effs.map Nf.raw⟩
def Nt.raw (t:Nt):Tk:=⟨t.vv,t.nv,t.gv,t.ov,t.vars.map iN,t.init.map iN,t.goal.map faN,t.ops.map No.raw⟩
def nE (n:Nat):List Value:=[.int .i64 (n:Nat)]
theorem nE_len (i:Nat):(nE i).length=1:=rfl
theorem nE_one (i:Nat):(nE i).all oneC=true:=rfl
def fcE (f:Fc):List Value:=[.int .i64 (f.1:Nat),.int .i64 (f.2:Nat)]
theorem fcE_len (f:Fc):(fcE f).length=2:=rfl
theorem fcE_one (f:Fc):(fcE f).all oneC=true:=rfl
def nfE (e:Nf):List Value:=[e.wv.1,.int .i64 (e.v:Nat),.int .i64 (e.x:Nat)]
theorem nfE_len (e:Nf):(nfE e).length=3:=rfl
theorem nfE_one (e:Nf):(nfE e).all oneC=true:=by simp [nfE,e.wv.2]
def noE (o:No):List Value:=[.string o.name,.int .i64 (o.cost:Nat),o.pv.1,o.ev.1]
theorem noE_len (o:No):(noE o).length=4:=rfl
theorem noE_one (o:No):(noE o).all oneC=true:=by simp [noE,o.pv.2,o.ev.2]
theorem Vw.mapped {α β:Type} {encα:α→List Value} {encβ:β→List Value} {f:β→α} {w:World} {v:Value} {l:List β} (he:∀ b,encα (f b)=encβ b):Vw w v encα (l.map f)↔Vw w v encβ l:=by
 have e:(l.map f).flatMap encα=l.flatMap encβ:=by
  induction l with
  | nil=>rfl
  | cons b l ih=>simp only [List.map_cons,List.flatMap_cons,ih,he]
 unfold Vw
 rw [e]
 simp
structure NoR (w:World) (o:No):Prop where
 pre:Vw w o.pv.1 fcE o.pre
 effs:Vw w o.ev.1 nfE o.effs
 cnd:∀ e ∈ o.effs,Vw w e.wv.1 fcE e.cnd
structure NtR (w:World) (t:Nt):Prop where
 vars:Vw w t.vv.1 nE t.vars
 init:Vw w t.nv.1 nE t.init
 goal:Vw w t.gv.1 fcE t.goal
 ops:Vw w t.ov.1 noE t.ops
 op:∀ o ∈ t.ops,NoR w o
theorem NoR.kp {w w':World} {o:No} (h:NoR w o) (k:Kp [] w w'):NoR w' o:=⟨h.pre.kp0 k,h.effs.kp0 k,fun e he=>(h.cnd e he).kp0 k⟩
theorem NtR.kp {w w':World} {t:Nt} (h:NtR w t) (k:Kp [] w w'):NtR w' t:=⟨h.vars.kp0 k,h.init.kp0 k,h.goal.kp0 k,h.ops.kp0 k,fun o ho=>(h.op o ho).kp k⟩
theorem vw_fc {w:World} {v:Value} {l:List Fc}:Vw w v faE (l.map faN)↔Vw w v fcE l:=Vw.mapped fun b=>rfl
theorem vw_n {w:World} {v:Value} {l:List Nat}:Vw w v iE (l.map iN)↔Vw w v nE l:=Vw.mapped fun b=>rfl
theorem NoR.raw {w:World} {o:No}:OqR w o.raw↔NoR w o:=by
 constructor
 ·rintro ⟨h1,h2,h3⟩
  exact ⟨vw_fc.1 h1,(Vw.mapped (f:=Nf.raw) fun b=>rfl).1 h2,fun e he=>vw_fc.1 (h3 e.raw (List.mem_map.2 ⟨e,he,rfl⟩))⟩
 ·rintro ⟨h1,h2,h3⟩
  refine ⟨vw_fc.2 h1,(Vw.mapped (f:=Nf.raw) fun b=>rfl).2 h2,fun e he=>?_⟩
  obtain ⟨e',he',rfl⟩:=List.mem_map.1 he
  exact vw_fc.2 (h3 e' he')
theorem NtR.raw {w:World} {t:Nt}:TkR w t.raw↔NtR w t:=by
 constructor
 ·rintro ⟨h1,h2,h3,h4,h5⟩
  exact ⟨vw_n.1 h1,vw_n.1 h2,vw_fc.1 h3,(Vw.mapped (f:=No.raw) fun b=>rfl).1 h4,fun o ho=>NoR.raw.1 (h5 o.raw (List.mem_map.2 ⟨o,ho,rfl⟩))⟩
 ·rintro ⟨h1,h2,h3,h4,h5⟩
  refine ⟨vw_n.2 h1,vw_n.2 h2,vw_fc.2 h3,(Vw.mapped (f:=No.raw) fun b=>rfl).2 h4,fun o ho=>?_⟩
  obtain ⟨o',ho',rfl⟩:=List.mem_map.1 ho
  exact NoR.raw.2 (h5 o' ho')
structure FcOk (vars:List Nat) (l:List Fc):Prop where
 rng:∀ f ∈ l,f.1 < vars.length∧f.2 < vars.getD f.1 0
 asc:l.Pairwise fun a b=>a.1 < b.1
structure NoG (vars:List Nat) (o:No):Prop where
 cost:o.cost≤1048576
 elen:o.effs.length≤64
 pre:FcOk vars o.pre
 cnd:∀ e ∈ o.effs,FcOk vars e.cnd
 eff:∀ e ∈ o.effs,e.v < vars.length∧e.x < vars.getD e.v 0
structure NtG (t:Nt):Prop where
 vlen:t.vars.length≤64
 olen:t.ops.length≤4096
 vars:∀ n ∈ t.vars,1≤n∧n≤64
 ilen:t.init.length=t.vars.length
 init:∀ i,i < t.init.length→t.init.getD i 0 < t.vars.getD i 0
 goal:FcOk t.vars t.goal
 ops:∀ o ∈ t.ops,NoG t.vars o
theorem asc_len:∀ (l:List Nat) (N:Nat),l.Pairwise (· < ·)→(∀ x ∈ l,x < N)→l.length≤N
 | [],N,_,_=>by simp
 | [x],N,_,h=>by have:=h x (by simp); simp; omega
 | x :: y :: l,N,hp,h=>by
  have hx:=List.pairwise_cons.1 hp
  have:=asc_len ((y :: l).map (· - 1)) (N - 1) ?_ ?_
  ·have hy:=h y (by simp)
   simp at this ⊢
   omega
  ·rw [List.pairwise_map]
   refine List.Pairwise.imp_of_mem ?_ hx.2
   intro a b ha hb hab
   have:=hx.1 a ha
   omega
  ·intro z hz
   obtain ⟨a,ha,rfl⟩:=List.mem_map.1 hz
   have:=hx.1 a ha
   have:=h a (by simp [ha])
   omega
 termination_by l=>l.length
theorem FcOk.len {vars:List Nat} {l:List Fc} (h:FcOk vars l):l.length≤vars.length:=by
 have:=asc_len (l.map (·.1)) vars.length (by rw [List.pairwise_map]; exact h.asc) (fun x hx=>by
  obtain ⟨f,hf,rfl⟩:=List.mem_map.1 hx
  exact (h.rng f hf).1)
 simpa using this
theorem prop_asc {vars:List Int} {l:List Fa} (h:propF vars l=true):(∀ f ∈ l,inR vars f=true)∧l.Pairwise fun a b=>a.1 < b.1:=by
 have hat:∀ i,i < l.length→inR vars (l.getD i (0,0))=true∧(0 < i→(l.getD (i - 1) (0,0)).1 < (l.getD i (0,0)).1):=fun i hi=>by
  have:=allR_at h hi
  unfold prAt at this
  simp only [Bool.and_eq_true,Bool.or_eq_true,decide_eq_true_eq] at this
  refine ⟨this.1,fun h0=>?_⟩
  rcases this.2 with h2 | h2
  ·omega
  ·exact h2
 have get:∀ i (hi:i < l.length),l.getD i (0,0)=l[i]:=fun i hi=>by simp [List.getD,hi]
 refine ⟨fun f hf=>?_,?_⟩
 ·obtain ⟨i,hi,rfl⟩:=List.getElem_of_mem hf
  have:=(hat i hi).1
  rwa [get i hi] at this
 ·rw [List.pairwise_iff_getElem]
  intro i j hi hj hij
  have key:∀ d i,i+d+1 < l.length→(l.getD i (0,0)).1 < (l.getD (i+d+1) (0,0)).1:=by
   intro d
   induction d with
   | zero=>intro i hi; exact (hat (i+1) (by omega)).2 (by omega)
   | succ d ih =>
    intro i hi
    have h1:=ih i (by omega)
    have h2:=(hat (i+(d+1)+1) (by omega)).2 (by omega)
    have e:i+(d+1)+1 - 1=i+d+1:=by omega
    rw [e] at h2
    omega
  have:=key (j - i - 1) i (by omega)
  rw [show i+(j - i - 1)+1=j by omega,get i hi,get j hj] at this
  exact this
theorem fa_nat {vars:List Int} {nvars:List Nat} (hv:vars=nvars.map iN) {f:Fa} (h:inR vars f=true):faN (f.1.toNat,f.2.toNat)=f∧f.1.toNat < nvars.length∧f.2.toNat < nvars.getD f.1.toNat 0:=by
 unfold inR at h
 simp only [Bool.and_eq_true,decide_eq_true_eq] at h
 obtain ⟨⟨⟨h1,h2⟩,h3⟩,h4⟩:=h
 subst hv
 have hl:f.1.toNat < nvars.length:=by simp at h2; omega
 have e:(nvars.map iN).getD f.1.toNat 0=(nvars.getD f.1.toNat 0:Int):=by simp [List.getD,hl,iN]
 rw [e] at h4
 refine ⟨?_,hl,by omega⟩
 unfold faN
 exact Prod.ext (by simp; omega) (by simp; omega)
theorem prop_nat {vars:List Int} {nvars:List Nat} (hv:vars=nvars.map iN) {l:List Fa} (h:propF vars l=true):∃ m:List Fc,m.map faN=l∧FcOk nvars m:=by
 obtain ⟨h1,h2⟩:=prop_asc h
 refine ⟨l.map fun f=>(f.1.toNat,f.2.toNat),?_,?_,?_⟩
 ·rw [List.map_map]
  conv=>rhs; rw [← List.map_id l]
  exact List.map_congr_left fun f hf=>(fa_nat hv (h1 f hf)).1
 ·intro g hg
  obtain ⟨f,hf,rfl⟩:=List.mem_map.1 hg
  exact (fa_nat hv (h1 f hf)).2
 ·rw [List.pairwise_map]
  refine List.Pairwise.imp_of_mem ?_ h2
  intro a b ha hb hab
  have ea:=congrArg Prod.fst (fa_nat hv (h1 a ha)).1
  have eb:=congrArg Prod.fst (fa_nat hv (h1 b hb)).1
  simp only [faN] at ea eb
  show a.1.toNat < b.1.toNat
  omega
theorem list_nat {α β:Type} {f:β→α} {p:β→Prop}:∀ {l:List α},(∀ a ∈ l,∃ b,f b=a∧p b)→∃ m:List β,m.map f=l∧∀ b ∈ m,p b
 | [],_=>⟨[],rfl,by simp⟩
 | a :: l,h=>by
  obtain ⟨b,hb,hp⟩:=h a (by simp)
  obtain ⟨m,hm,hpm⟩:=list_nat (l:=l) fun a ha=>h a (by simp [ha])
  refine ⟨b :: m,by simp [hb,hm],fun c hc=>?_⟩
  rcases List.mem_cons.1 hc with rfl | hc
  ·exact hp
  ·exact hpm c hc
theorem good_nat {t:Tk} (h:goodB t=true):∃ T:Nt,T.raw=t∧NtG T:=by
 unfold goodB at h
 simp only [Bool.and_eq_true,decide_eq_true_eq] at h
 obtain ⟨⟨⟨⟨⟨h1,h2⟩,h3⟩,h4⟩,h5⟩,h6⟩:=h
 rw [List.all_eq_true] at h3 h6
 obtain ⟨nv,hnv,hnv2⟩:=list_nat (f:=iN) (p:=fun n=>1≤n∧n≤64) (l:=t.vars) fun a ha=>by
  have:=h3 a ha
  simp [varB] at this
  exact ⟨a.toNat,by unfold iN; omega,by omega,by omega⟩
 unfold stateB at h4
 simp only [Bool.and_eq_true,decide_eq_true_eq] at h4
 obtain ⟨hil,hst⟩:=h4
 have hst2:∀ i,i < t.init.length→0≤t.init.getD i 0∧t.init.getD i 0 < t.vars.getD i 0:=fun i hi=>by
  have:=allR_at hst hi
  simpa [stAt] using this
 obtain ⟨ni,hni,_⟩:=list_nat (f:=iN) (p:=fun _=>True) (l:=t.init) fun a ha=>by
  obtain ⟨i,hi,rfl⟩:=List.getElem_of_mem ha
  have:=(hst2 i hi).1
  simp [List.getD,hi] at this
  exact ⟨t.init[i].toNat,by unfold iN; omega,trivial⟩
 obtain ⟨ng,hng,hgok⟩:=prop_nat hnv.symm h5
 obtain ⟨no,hno,hook⟩:=list_nat (f:=No.raw) (p:=NoG nv) (l:=t.ops) fun o ho=>by
  have:=h6 o ho
  unfold opB at this
  simp only [Bool.and_eq_true,decide_eq_true_eq] at this
  obtain ⟨⟨⟨⟨⟨c1,c2⟩,c3⟩,c4⟩,c5⟩,c6⟩:=this
  rw [List.all_eq_true] at c6
  obtain ⟨np,hnp,hpok⟩:=prop_nat hnv.symm c5
  obtain ⟨ne,hne,heok⟩:=list_nat (f:=Nf.raw) (p:=fun e=>FcOk nv e.cnd∧e.v < nv.length∧e.x < nv.getD e.v 0) (l:=o.effs) fun e he=>by
   have:=c6 e he
   unfold effB at this
   simp only [Bool.and_eq_true] at this
   obtain ⟨d1,d2⟩:=this
   obtain ⟨nc,hnc,hcok⟩:=prop_nat hnv.symm d1
   obtain ⟨f1,f2,f3⟩:=fa_nat hnv.symm d2
   refine ⟨⟨e.wv,nc,e.v.toNat,e.x.toNat⟩,?_,hcok,f2,f3⟩
   have q1:=congrArg Prod.fst f1
   have q2:=congrArg Prod.snd f1
   simp only [faN] at q1 q2
   unfold Nf.raw
   simp only [hnc]
   cases e
   simp only at q1 q2
   simp only [q1,q2]
  refine ⟨⟨o.name,o.cost.toNat,o.pv,np,o.ev,ne⟩,?_,by simp; omega,?_,hpok,fun e he=>(heok e he).1,fun e he=>(heok e he).2⟩
  ·unfold No.raw
   simp only [hnp,hne]
   have:((o.cost.toNat:Nat):Int)=o.cost:=by omega
   cases o
   simp only at this
   simp only [this]
  ·show ne.length≤64
   have:=congrArg List.length hne
   simp at this; omega
 have hlv:nv.length=t.vars.length:=by rw [← hnv]; simp
 have hlo:no.length=t.ops.length:=by rw [← hno]; simp
 have hli:ni.length=t.init.length:=by rw [← hni]; simp
 refine ⟨⟨t.vv,t.nv,t.gv,t.ov,nv,ni,ng,no⟩,?_,by show nv.length≤64; omega,by show no.length≤4096; omega,hnv2,by show ni.length=nv.length; omega,fun i hi=>?_,hgok,hook⟩
 ·unfold Nt.raw
  simp only [hnv,hni,hng,hno]
 ·have hi:i < ni.length:=hi
  have:=(hst2 i (by omega)).2
  rw [← hnv,← hni] at this
  have e1:(ni.map iN).getD i 0=(ni.getD i 0:Int):=by simp [List.getD,hi,iN]
  have e2:(nv.map iN).getD i 0=(nv.getD i 0:Int):=by simp [List.getD,show i < nv.length by omega,iN]
  rw [e1,e2] at this
  show ni.getD i 0 < nv.getD i 0
  omega
end Go.Tk
end
section
set_option linter.unusedVariables false
set_option linter.unusedSimpArgs false
namespace Go.Rx
def Inf:Nat:=1125899906842624
structure Un where
 op:Nat
 eff:Nat
 cost:Nat
 makes:Nat
 needs:List Nat
def gr (V:Nat→Nat):List Nat→Nat
 | []=>0
 | x :: l=>max (V x) (gr V l)
section
variable {V V':Nat→Nat} {l l':List Nat} {k m:Nat}
end
section
variable {U U':List Un} {S S':List Nat} {V V':Nat→Nat} {f k:Nat}
end
end Go.Rx
end
section
set_option linter.unusedVariables false
set_option linter.unusedSimpArgs false
namespace Go.Rx
abbrev En:=Nat × Nat
def gt (l:List En) (i:Nat):En:=l.getD i default
def swp (l:List En) (i p:Nat):List En:=(l.set i (gt l p)).set p (gt l i)
@[simp] theorem swp_len (l:List En) (i p:Nat):(swp l i p).length=l.length:=by simp [swp]
end Go.Rx
end
section
set_option linter.unusedVariables false
set_option linter.unusedSimpArgs false
namespace Go.Rx
def updN {α:Type} (V:Nat→α) (i:Nat) (x:α):Nat→α:=fun j=>if j=i then x else V j
@[simp] theorem updN_same {α:Type} {V:Nat→α} {i:Nat} {x:α}:updN V i x i=x:=by simp [updN]
section
variable {U:List Un} {ok:Nat→Bool} {S S0:List Nat} {out:Nat→Nat} {s s':List En} {done:Nat→Bool} {cur:Nat} {pend:List Nat}
end
end Go.Rx
end
section
set_option linter.unusedVariables false
set_option linter.unusedSimpArgs false
namespace Go.Rx
open Go.Tk Go.W Go
def psum (vars:List Nat) (v:Nat):Nat:=(vars.take v).sum
def numF (vars:List Nat) (f:Fc):Nat:=psum vars f.1+f.2
theorem sum_le {vars:List Nat} {N:Nat} (h:∀ n ∈ vars,n≤N):vars.sum≤vars.length * N:=by
 induction vars with
 | nil=>simp
 | cons x l ih =>
  have:=ih fun n hn=>h n (by simp [hn])
  have:=h x (by simp)
  rw [List.sum_cons,List.length_cons,Nat.add_mul]
  omega
end Go.Rx
end
section
set_option linter.unusedVariables false
set_option linter.unusedSimpArgs false
set_option linter.unusedSectionVars false
namespace Go.W
open Go
section
variable {α:Type} {enc:α→List Value} {E sz:Nat} {B X Y:Asr} {w w1:World} {F:List Nat}
end
section
variable {α:Type} {enc:α→List Value} {E E2:Nat} {B:Asr} {w w1:World} {F:List Nat} {v:Value} {ps:List (Cell1 × List α)}
end
end Go.W
namespace Go.W
open Go
section
variable {α:Type} {enc:α→List Value} {E E2:Nat} {B X:Asr} {w w1:World} {F:List Nat} {v:Value} {ps:List (Cell1 × List α)}
theorem Imp.as {A B C:Asr}:Imp (Star (Star A B) C) (Star A (Star B C)):=fun w F h=>Star.assoc h
theorem Imp.em {X:Asr}:Imp X (Star Emp X):=fun w F h=>⟨[] ++ F,⟨[],F,Eq.refl _,h,by simp,Eq.refl _⟩,fun x hx=>by simpa using hx⟩
end
end Go.W
namespace Go.W
open Go
theorem Imp.ow {α:Type} {v:Value} {E sz:Nat} {enc:α→List Value} {l:List α} {X:Asr}:Imp (Star (OwnA v E sz enc l) X) (Star (VwA v enc l) X):=by
 rintro w F ⟨Fa,Fb,⟨h1,e1⟩,h2,hd,e⟩
 subst e e1
 refine ⟨_,⟨v.own,Fb,⟨h1.vw,Eq.refl _,fun x hx=>?_⟩,h2,hd,Eq.refl _⟩,fun x hx=>hx⟩
 rcases h1 with ⟨rfl,_⟩ | ⟨g,cap,cur,junk,rfl,hh,_⟩
 ·cases hx
 ·simp at hx; subst hx; exact lt_of_blk hh
end Go.W
namespace Go.W
variable {X:Asr}
theorem Imp.fr2 {A1 A2:Asr}:Imp (Star A1 (Star A2 X)) (Star A2 (Star A1 X)):=Imp.sw
theorem Imp.bk2 {A1 A2:Asr}:Imp (Star A1 (Star A2 X)) (Star A2 (Star A1 X)):=Imp.sw
theorem Imp.fr3 {A1 A2 A3:Asr}:Imp (Star A1 (Star A2 (Star A3 X))) (Star A3 (Star A1 (Star A2 X))):=(Imp.un Imp.fr2).trans Imp.sw
theorem Imp.bk3 {A1 A2 A3:Asr}:Imp (Star A1 (Star A2 (Star A3 X))) (Star A2 (Star A3 (Star A1 X))):=Imp.sw.trans (Imp.un Imp.bk2)
theorem Imp.fr4 {A1 A2 A3 A4:Asr}:Imp (Star A1 (Star A2 (Star A3 (Star A4 X)))) (Star A4 (Star A1 (Star A2 (Star A3 X)))):=(Imp.un Imp.fr3).trans Imp.sw
theorem Imp.bk4 {A1 A2 A3 A4:Asr}:Imp (Star A1 (Star A2 (Star A3 (Star A4 X)))) (Star A2 (Star A3 (Star A4 (Star A1 X)))):=Imp.sw.trans (Imp.un Imp.bk3)
theorem Imp.fr5 {A1 A2 A3 A4 A5:Asr}:Imp (Star A1 (Star A2 (Star A3 (Star A4 (Star A5 X))))) (Star A5 (Star A1 (Star A2 (Star A3 (Star A4 X))))):=(Imp.un Imp.fr4).trans Imp.sw
theorem Imp.bk5 {A1 A2 A3 A4 A5:Asr}:Imp (Star A1 (Star A2 (Star A3 (Star A4 (Star A5 X))))) (Star A2 (Star A3 (Star A4 (Star A5 (Star A1 X))))):=Imp.sw.trans (Imp.un Imp.bk4)
theorem Imp.fr6 {A1 A2 A3 A4 A5 A6:Asr}:Imp (Star A1 (Star A2 (Star A3 (Star A4 (Star A5 (Star A6 X)))))) (Star A6 (Star A1 (Star A2 (Star A3 (Star A4 (Star A5 X)))))):=(Imp.un Imp.fr5).trans Imp.sw
theorem Imp.bk6 {A1 A2 A3 A4 A5 A6:Asr}:Imp (Star A1 (Star A2 (Star A3 (Star A4 (Star A5 (Star A6 X)))))) (Star A2 (Star A3 (Star A4 (Star A5 (Star A6 (Star A1 X)))))):=Imp.sw.trans (Imp.un Imp.bk5)
theorem Imp.fr7 {A1 A2 A3 A4 A5 A6 A7:Asr}:Imp (Star A1 (Star A2 (Star A3 (Star A4 (Star A5 (Star A6 (Star A7 X))))))) (Star A7 (Star A1 (Star A2 (Star A3 (Star A4 (Star A5 (Star A6 X))))))):=(Imp.un Imp.fr6).trans Imp.sw
theorem Imp.bk7 {A1 A2 A3 A4 A5 A6 A7:Asr}:Imp (Star A1 (Star A2 (Star A3 (Star A4 (Star A5 (Star A6 (Star A7 X))))))) (Star A2 (Star A3 (Star A4 (Star A5 (Star A6 (Star A7 (Star A1 X))))))):=Imp.sw.trans (Imp.un Imp.bk6)
theorem Imp.fr8 {A1 A2 A3 A4 A5 A6 A7 A8:Asr}:Imp (Star A1 (Star A2 (Star A3 (Star A4 (Star A5 (Star A6 (Star A7 (Star A8 X)))))))) (Star A8 (Star A1 (Star A2 (Star A3 (Star A4 (Star A5 (Star A6 (Star A7 X)))))))):=(Imp.un Imp.fr7).trans Imp.sw
theorem Imp.bk8 {A1 A2 A3 A4 A5 A6 A7 A8:Asr}:Imp (Star A1 (Star A2 (Star A3 (Star A4 (Star A5 (Star A6 (Star A7 (Star A8 X)))))))) (Star A2 (Star A3 (Star A4 (Star A5 (Star A6 (Star A7 (Star A8 (Star A1 X)))))))):=Imp.sw.trans (Imp.un Imp.bk7)
theorem Imp.fr9 {A1 A2 A3 A4 A5 A6 A7 A8 A9:Asr}:Imp (Star A1 (Star A2 (Star A3 (Star A4 (Star A5 (Star A6 (Star A7 (Star A8 (Star A9 X))))))))) (Star A9 (Star A1 (Star A2 (Star A3 (Star A4 (Star A5 (Star A6 (Star A7 (Star A8 X))))))))):=(Imp.un Imp.fr8).trans Imp.sw
theorem Imp.fr10 {A1 A2 A3 A4 A5 A6 A7 A8 A9 AA:Asr}:Imp (Star A1 (Star A2 (Star A3 (Star A4 (Star A5 (Star A6 (Star A7 (Star A8 (Star A9 (Star AA X)))))))))) (Star AA (Star A1 (Star A2 (Star A3 (Star A4 (Star A5 (Star A6 (Star A7 (Star A8 (Star A9 X)))))))))):=(Imp.un Imp.fr9).trans Imp.sw
end Go.W
namespace Go.W
open Go Go.Maps
section
variable {κ:Type} [DecidableEq κ] {ek:κ→Value} {ok:κ→Prop} {P:Program} {k e t:TypeId} {w:World}
end
end Go.W
namespace Go.W
end Go.W
end
section
set_option maxRecDepth 100000
set_option linter.unusedSimpArgs false
set_option linter.unusedVariables false
namespace Go.Proofs.YtkhfdmelcpfgoaaGreat
open Go Go.W Go.Tk Go.Rx
theorem sl_nil {v:Value} {α:Type} {enc:α→List Value} {l:List α} {w:World} (h:Vw w v enc l):(v=.slice none 0 0∧l=[])∨∃ a cap,v=.slice (some a) l.length cap:=by
 rcases h with h | ⟨a,cap,rfl,_⟩
 ·exact .inl h
 ·exact .inr ⟨a,cap,rfl⟩
theorem cloneI_spec {w:World} (v:Value) (l:List Nat) (hv:Vw w v nE l) (hl:l.length≤1000000) :
  Calls Tryz.prog 68 [v].toArray w fun e w'=>∃ u,e=.returned u∧Nw w w' u 3 1 nE l:=by
 refine enter Tryz.func68 mixed low68 (Nat.le_of_ble_eq_true rfl) ?_
 simp only [L68]
 have h0:At w [] Emp w:=At.start rfl
 rcases sl_nil hv with ⟨rfl,rfl⟩ | ⟨a,cap,rfl⟩
 ·simp
  exact Nw.of (At.nil (E:=3) (sz:=1) (enc:=nE) .emp h0)
 ·simp [rowOf]
  have h1:=h0.lit (xs:=([]:List Nat)) (enc:=nE) (E:=3) (sz:=1) (cs:=#[]) (m:=0) .emp (by simp) nE_len (by simp [maxLen]) rfl
  refine At.appendV (xs:=l) .emp h1 (hv.kp0 ((Kp.refl [] w).alloc _)) nE_len nE_one sl_22 (by simp; omega) (by simp; unfold maxLen; omega) fun v' w2 h2=>?_
  simp
  exact Nw.of (by simpa using h2)
theorem cloneF_spec {w:World} (v:Value) (l:List Fc) (hv:Vw w v fcE l) (hl:l.length≤1000000) :
  Calls Tryz.prog 69 [v].toArray w fun e w'=>∃ u,e=.returned u∧Nw w w' u 92 2 fcE l:=by
 refine enter Tryz.func69 mixed low69 (Nat.le_of_ble_eq_true rfl) ?_
 simp only [L69]
 have h0:At w [] Emp w:=At.start rfl
 rcases sl_nil hv with ⟨rfl,rfl⟩ | ⟨a,cap,rfl⟩
 ·simp
  exact Nw.of (At.nil (E:=92) (sz:=2) (enc:=fcE) .emp h0)
 ·simp [rowOf]
  have h1:=h0.lit (xs:=([]:List Fc)) (enc:=fcE) (E:=92) (sz:=2) (cs:=#[]) (m:=0) .emp (by simp) fcE_len (by simp [maxLen]) rfl
  refine At.appendV (xs:=l) .emp h1 (hv.kp0 ((Kp.refl [] w).alloc _)) fcE_len fcE_one sl_23 (by simp; omega) (by simp; unfold maxLen; omega) fun v' w2 h2=>?_
  simp
  exact Nw.of (by simpa using h2)
theorem nE_cell {w:World} {v:Value} {l:List Nat} {k x:Nat} (h:Vw w v nE l) (hx:l[k]?=some x):w.cell? (v.adr.add k)=some (.int .i64 (x:Nat)):=by
 simpa using h.at_ nE_len hx (o:=0) (u:=.int .i64 (x:Nat)) rfl
end Go.Proofs.YtkhfdmelcpfgoaaGreat
end
section
set_option maxRecDepth 100000
set_option linter.unusedSimpArgs false
set_option linter.unusedVariables false
namespace Go.Proofs.YtkhfdmelcpfgoaaGreat
open Go Go.W Go.Tk Go.Rx
structure Ru where
 u:Un
 nv:Cell1
end Go.Proofs.YtkhfdmelcpfgoaaGreat
end
section
set_option linter.unusedVariables false
set_option linter.unusedSimpArgs false
namespace Go.Tk
open Go Go.W
theorem prop_len {vars:List Int} {l:List Fa} (hv:∀ n ∈ vars,0≤n) (h:propF vars l=true):l.length≤vars.length:=by
 have hn:vars=(vars.map Int.toNat).map iN:=by
  rw [List.map_map]
  conv=>lhs; rw [← List.map_id vars]
  exact List.map_congr_left fun n hn2=>by have:=hv n hn2; simp [iN]; omega
 obtain ⟨m,hm,ok⟩:=prop_nat hn h
 have:=ok.len
 have:=congrArg List.length hm
 simp at *
 omega
theorem chk_good (t:Tk):chkC t=none↔goodB t=true:=by
 have hc:∀ {vars:List Int},vars.all varB=true→∀ n ∈ vars,0≤n:=fun h n hn=>by
  have:=List.all_eq_true.1 h n hn
  simp [varB] at this
  omega
 constructor
 ·intro h
  unfold chkC at h
  split at h; · cases h
  rename_i e1
  split at h; · cases h
  rename_i e2
  split at h; · cases h
  rename_i e3
  split at h; · cases h
  rename_i e4
  split at h; · cases h
  rename_i e5
  split at h; · cases h
  rename_i e6
  split at h; · cases h
  rename_i e7
  simp only [Bool.not_eq_true,Bool.not_eq_false] at e1 e2 e3 e4 e5 e6 e7
  unfold largeB at e1
  simp only [Bool.not_eq_false',Bool.and_eq_true,decide_eq_true_eq] at e1
  obtain ⟨⟨⟨l1,l2⟩,l3⟩,l4⟩:=e1
  rw [List.all_eq_true] at l3 e3 e5 e6 e7
  have hg:propF t.vars t.goal=true:=e5 (t.gv,t.goal) (by simp [condsL])
  have ho:t.ops.all (opB t.vars)=true:=by
   rw [List.all_eq_true]
   intro o ho
   have a1:=e3 o ho
   have a2:=e7 o ho
   have a3:=l3 o ho
   have a4:propF t.vars o.pre=true:=e5 (o.pv,o.pre) (by
    unfold condsL
    exact List.mem_cons_of_mem _ (List.mem_flatMap.2 ⟨o,ho,by simp [condsO]⟩))
   have a5:o.effs.all (effB t.vars)=true:=by
    rw [List.all_eq_true]
    intro e he
    have b1:=List.all_eq_true.1 (e6 o ho) e he
    have b2:propF t.vars e.cnd=true:=e5 (e.wv,e.cnd) (by
     unfold condsL
     exact List.mem_cons_of_mem _ (List.mem_flatMap.2 ⟨o,ho,by
      unfold condsO
      exact List.mem_cons_of_mem _ (List.mem_map.2 ⟨e,he,rfl⟩)⟩))
    simp [effB,b1,b2]
   simp only [Bool.and_eq_true,decide_eq_true_eq] at a1 a3
   simp only [opB,a2,a4,a5,Bool.and_true,Bool.and_eq_true,decide_eq_true_eq]
   exact ⟨a1,a3⟩
  simp only [goodB,e2,e4,hg,ho,Bool.and_true,Bool.and_eq_true,decide_eq_true_eq]
  exact ⟨l1,l2⟩
 ·intro h
  unfold goodB at h
  simp only [Bool.and_eq_true,decide_eq_true_eq] at h
  obtain ⟨⟨⟨⟨⟨h1,h2⟩,h3⟩,h4⟩,h5⟩,h6⟩:=h
  have h6':=List.all_eq_true.1 h6
  have hop:∀ o ∈ t.ops,(0≤o.cost∧o.cost≤1048576)∧o.effs.length≤64∧nameB o.name=true∧propF t.vars o.pre=true∧∀ e ∈ o.effs,propF t.vars e.cnd=true∧inR t.vars (e.v,e.x)=true:=fun o ho=>by
   have:=h6' o ho
   unfold opB at this
   simp only [Bool.and_eq_true,decide_eq_true_eq,List.all_eq_true] at this
   obtain ⟨⟨⟨⟨⟨c1,c2⟩,c3⟩,c4⟩,c5⟩,c6⟩:=this
   refine ⟨⟨c1,c2⟩,c3,c4,c5,fun e he=>?_⟩
   have:=c6 e he
   unfold effB at this
   simpa only [Bool.and_eq_true] using this
  have hcp:∀ p ∈ condsL t,propF t.vars p.2=true:=fun p hp=>by
   unfold condsL at hp
   rcases List.mem_cons.1 hp with rfl | hp
   ·exact h5
   ·obtain ⟨o,ho,hp⟩:=List.mem_flatMap.1 hp
    unfold condsO at hp
    rcases List.mem_cons.1 hp with rfl | hp
    ·exact (hop o ho).2.2.2.1
    ·obtain ⟨e,he,rfl⟩:=List.mem_map.1 hp
     exact ((hop o ho).2.2.2.2 e he).1
  have hl:largeB t=false:=by
   unfold largeB
   simp only [Bool.not_eq_false',Bool.and_eq_true,decide_eq_true_eq,List.all_eq_true]
   exact ⟨⟨⟨h1,h2⟩,fun o ho=>(hop o ho).2.1⟩,fun p hp=>Nat.le_trans (prop_len (hc h3) (hcp p hp)) h1⟩
  have e3:(t.ops.all fun o=>decide (0≤o.cost) && decide (o.cost≤1048576))=true:=by
   rw [List.all_eq_true]
   intro o ho
   have:=(hop o ho).1
   simp; omega
  have e5:((condsL t).all fun p=>propF t.vars p.2)=true:=by rw [List.all_eq_true]; exact hcp
  have e6:(t.ops.all fun o=>o.effs.all fun e=>inR t.vars (e.v,e.x))=true:=by
   rw [List.all_eq_true]
   intro o ho
   rw [List.all_eq_true]
   exact fun e he=>((hop o ho).2.2.2.2 e he).2
  have e7:(t.ops.all fun o=>nameB o.name)=true:=by
   rw [List.all_eq_true]
   exact fun o ho=>(hop o ho).2.2.1
  unfold chkC
  rw [if_neg (by rw [hl]; simp),if_neg (by rw [h3]; simp),if_neg (by rw [e3]; simp),if_neg (by rw [h4]; simp),if_neg (by rw [e5]; simp),if_neg (by rw [e6]; simp),if_neg (by rw [e7]; simp)]
theorem NtG.lens {T:Nt} (h:NtG T) (hn:∀ o ∈ T.ops,o.name.size≤9223372036854775807):TkL T.raw:=by
 have hg:=h.goal.len
 refine ⟨by simp [Nt.raw]; have:=h.ilen; have:=h.vlen; omega,by simp [Nt.raw]; have:=h.vlen; omega,by simp [Nt.raw]; have:=h.olen; omega,by simp [Nt.raw]; have:=h.vlen; omega,fun o ho=>?_⟩
 obtain ⟨o',ho',rfl⟩:=List.mem_map.1 ho
 have g:=h.ops o' ho'
 have:=g.pre.len
 have:=h.vlen
 have:=g.elen
 refine ⟨hn o' ho',by simp [No.raw]; omega,by simp [No.raw]; omega,fun e he=>?_⟩
 obtain ⟨e',he',rfl⟩:=List.mem_map.1 he
 have:=(g.cnd e' he').len
 simp [Nf.raw]; omega
end Go.Tk
end
section
set_option maxRecDepth 100000
set_option linter.unusedSimpArgs false
set_option linter.unusedVariables false
namespace Go.Proofs.YtkhfdmelcpfgoaaGreat
open Go Go.W Go.Tk Go.Rx Go.Maps
def zok (z:Int):Prop:=-9223372036854775808≤z∧z≤9223372036854775807
theorem zbool (w:World):(zeroValue 4).run Tryz.prog w=.ok (.bool false) w:=Tryz.zeroValue4 w
end Go.Proofs.YtkhfdmelcpfgoaaGreat
end
section
set_option maxRecDepth 100000
set_option linter.unusedSimpArgs false
set_option linter.unusedVariables false
namespace Go.Proofs.YtkhfdmelcpfgoaaGreat
open Go Go.W Go.Tk Go.Rx Go.Maps
structure StN (vars s:List Nat):Prop where
 len:s.length=vars.length
 rng:∀ v,v < vars.length→s.getD v 0 < vars.getD v 0
theorem iN_at {l:List Nat} {j:Nat}:(l.map iN).getD j 0=((l.getD j 0:Nat):Int):=by
 simp only [List.getD,List.getElem?_map]
 cases l[j]? <;> simp [iN]
theorem StN.ok {vars s:List Nat} (h:StN vars s):stateB (vars.map iN) (s.map iN)=true:=by
 unfold stateB
 rw [allR_true fun j hj=>?_]
 ·simp [h.len]
 ·unfold stAt
  rw [iN_at,iN_at]
  simp at hj
  have:=h.rng j (by rw [← h.len]; exact hj)
  simp only [Bool.and_eq_true,decide_eq_true_eq]
  omega
section
variable {w:World} {b:Nat} {vars:List Nat} {goal:List Fc} {U:List Un} {vv gv fv uv nd fr:Value} {rs:List Ru} {ps:List (Cell1 × List Nat)}
end
end Go.Proofs.YtkhfdmelcpfgoaaGreat
end
section
set_option maxRecDepth 100000
set_option linter.unusedSimpArgs false
set_option linter.unusedVariables false
namespace Go.Proofs.YtkhfdmelcpfgoaaGreat
open Go Go.W Go.Tk Go.Rx Go.Maps
def grF (vars:List Nat) (V:Nat→Nat) (l:List Fc):Nat:=gr V (l.map (numF vars))
theorem take_snoc {α:Type} {l:List α} {k:Nat} {x:α} (h:l[k]?=some x):l.take (k+1)=l.take k ++ [x]:=by
 rw [List.take_add_one,h]; rfl
section
variable {w:World} {b:Nat} {vars:List Nat} {goal:List Fc} {U:List Un} {vv gv fv uv nd fr:Value} {rs:List Ru} {ps:List (Cell1 × List Nat)}
end
end Go.Proofs.YtkhfdmelcpfgoaaGreat
end
section
set_option maxRecDepth 100000
set_option linter.unusedSimpArgs false
set_option linter.unusedVariables false
namespace Go.Proofs.YtkhfdmelcpfgoaaGreat
open Go Go.W Go.Tk Go.Rx Go.Maps
theorem num_err (c:Int) (w:World):Calls Tryz.prog 21 [errV c].toArray w fun e w'=>∃ x,e=.returned x∧x=.int .i64 c∧Kp [] w w':=by
 refine enter Tryz.func21 mixed low21 (Nat.le_of_ble_eq_true rfl) ?_
 simp only [L21]
 simp [errV]
 exact Kp.refl _ _
theorem ints_spec {w:World} (u v:Value) (xs ys:List Int) (hu:Vw w u iE xs) (hv:Vw w v iE ys) (hx:xs.length≤1000000) (hy:ys.length≤1000000) :
  Calls Tryz.prog 13 [u,v].toArray w fun e w'=>∃ x,e=.returned x∧x=.bool (decide (xs=ys))∧Kp [] w w':=by
 refine enter Tryz.func13 mixed low13 (Nat.le_of_ble_eq_true rfl) ?_
 simp only [L13]
 by_cases hl:xs.length=ys.length
 case neg =>
  have hne:((xs.length:Int) != ys.length)=true:=by simp; omega
  have:¬ xs=ys:=fun e=>hl (by rw [e])
  simp [hu.len,hv.len,hne,this]
  exact Kp.refl _ _
 have hne:((xs.length:Int) != ys.length)=false:=by simp; omega
 simp [hu.len,hv.len,hne]
 refine range_loop (n:=xs.length) (by omega) (fun k ρ w'=>ρ 0=u∧ρ 1=v∧xs.take k=ys.take k∧Kp [] w w') (by simp) (by simp)
  ⟨by simp,by simp,by simp,Kp.refl _ _⟩ (by decide) (fun _ _ _ _ h=>by simpa using h) (fun _ _ _ _ h=>by simpa using h) ?_ ?_
 ·rintro k ρ w4 hk hc hlim ⟨g0,g1,ht,k4⟩
  have hu4:=hu.kp0 k4
  have hv4:=hv.kp0 k4
  obtain ⟨a,ha⟩:∃ a,xs[k]?=some a:=⟨_,List.getElem?_eq_getElem hk⟩
  obtain ⟨b,hb⟩:∃ b,ys[k]?=some b:=⟨_,List.getElem?_eq_getElem (by omega)⟩
  simp (disch:=omega) [g0,g1,hc,hlim,hu4.idx,hv4.idx,iE_cell hu4 ha,iE_cell hv4 hb]
  by_cases hab:a=b
  ·subst hab
   simp [g0,g1,hc,hlim]
   refine ⟨?_,k4.drew⟩
   rw [List.take_add_one,List.take_add_one,ht,ha,hb]
  ·have:¬ xs=ys:=fun e=>hab (by rw [e,hb] at ha; exact (Option.some.inj ha).symm)
   have hn':(a != b)=true:=by simp [hab]
   rw [hn']
   simp [this]
   exact k4.drew
 ·rintro ρ w4 ⟨g0,g1,ht,k4⟩
  have:xs=ys:=by rw [List.take_of_length_le (Nat.le_refl _),List.take_of_length_le (by omega)] at ht; exact ht
  simp [this]
  exact k4
def ntO (T:Nt):Obj:=.cells #[T.vv.1,T.nv.1,T.gv.1,T.ov.1] 26 (0,0)
def ntV (T:Nt):Value:=.agg #[T.vv.1,T.nv.1,T.gv.1,T.ov.1]
def noV (o:No):Value:=.agg #[.string o.name,.int .i64 (o.cost:Nat),o.pv.1,o.ev.1]
end Go.Proofs.YtkhfdmelcpfgoaaGreat
end
section
set_option maxRecDepth 100000
set_option linter.unusedSimpArgs false
set_option linter.unusedVariables false
namespace Go.Proofs.YtkhfdmelcpfgoaaGreat
open Go Go.W Go.Tk Go.Rx Go.Maps
section
variable {α:Type} {enc:α→List Value} {E sz:Nat} {B:Asr} {w w1:World} {F:List Nat}
end
def FcRng (vars:List Nat) (l:List Fc):Prop:=∀ f ∈ l,f.1 < vars.length∧f.2 < vars.getD f.1 0
end Go.Proofs.YtkhfdmelcpfgoaaGreat
end
section
set_option linter.unusedVariables false
set_option linter.unusedSimpArgs false
namespace Go.Rx
open Go.Tk Go.W Go
def Clo (A:List Un) (V:Nat→Nat):Prop:=∀ u ∈ A,gr V u.needs < Inf→V u.makes≤gr V u.needs+u.cost
section
variable {A A':List Un} {S:List Nat} {V:Nat→Nat} {u:Un} {N f x:Nat}
end
end Go.Rx
end
section
set_option maxRecDepth 100000
set_option linter.unusedSimpArgs false
set_option linter.unusedVariables false
namespace Go.Proofs.YtkhfdmelcpfgoaaGreat
open Go Go.W Go.Tk Go.Rx Go.Maps
theorem fc_append {w w1:World} {F:List Nat} {B:Asr} {ov:Value} {l:List Fc} {x:Fc} {KV:Kont (Value × World)} (hB:Lcl B) (h:At w F (Star (OwnA ov 92 2 fcE l) B) w1) (hl:l.length≤1000000)
  (H:∀ v' w2,At w F (Star (OwnA v' 92 2 fcE (l ++ [x])) B) w2→KV.run (v',w2)) :
  @efH Tryz.prog (Builtin.append_ #[23,23] 23 [ov,.slice (some ⟨w1.heap.size,0,none⟩) 1 1].toArray) (w1.alloc (.cells #[.int .i64 (x.1:Nat),.int .i64 (x.2:Nat)] 92)) KV:=by
 have h4:=h.kp0 (Lcl.own.star hB) ((Kp.refl [] w1).alloc (.cells #[.int .i64 (x.1:Nat),.int .i64 (x.2:Nat)] 92))
 refine At.append (xs:=[x]) hB h4 fcE_len fcE_one sl_23 rfl (fun j u hj=>?_) (by omega) (by unfold maxLen; omega) fun v' w5 h5=>H v' w5 h5
 simp [fcE] at hj
 rw [add_none,cell_blk alloc_new]
 simpa using hj
end Go.Proofs.YtkhfdmelcpfgoaaGreat
end
section
set_option maxRecDepth 100000
set_option linter.unusedSimpArgs false
set_option linter.unusedVariables false
namespace Go.Proofs.YtkhfdmelcpfgoaaGreat
open Go Go.W Go.Tk Go.Rx Go.Maps
def hdB (s:List Nat) (l:List Fc):Bool:=l.all fun f=>decide (s.getD f.1 0=f.2)
theorem hdB_succ {s:List Nat} {l:List Fc} {z:Nat} {f:Fc} (h:l[z]?=some f):hdB s (l.take (z+1))=(hdB s (l.take z) && decide (s.getD f.1 0=f.2)):=by
 unfold hdB; rw [take_snoc h,List.all_append]; simp
theorem holds_spec {w:World} (fv sv:Value) (l:List Fc) (s:List Nat) (hf:Vw w fv fcE l) (hs:Vw w sv nE s) (hl:l.length≤1000000) (hr:∀ f ∈ l,f.1 < s.length) :
  Calls Tryz.prog 26 [fv,sv].toArray w fun e w'=>∃ x,e=.returned x∧x=.bool (hdB s l)∧Kp [] w w':=by
 refine enter Tryz.func26 mixed low26 (Nat.le_of_ble_eq_true rfl) ?_
 simp only [L26]
 simp [hf.len]
 refine range_loop (n:=l.length) (by omega) (fun k ρ w'=>ρ 1=sv∧ρ 7=fv∧hdB s (l.take k)=true∧Kp [] w w') (by simp) (by simp)
  ⟨by simp,by simp,by simp [hdB],Kp.refl _ _⟩ (by decide) (fun _ _ _ _ h=>by simpa using h) (fun _ _ _ _ h=>by simpa using h) ?_ ?_
 rotate_left
 ·rintro ρ w4 ⟨g1,g7,g4,k4⟩
  rw [List.take_length] at g4
  simp [g4]
  exact k4
 rintro k ρ w4 hk hc hlm ⟨g1,g7,g4,k4⟩
 have hf4:=hf.kp0 k4
 obtain ⟨f,hfe⟩:∃ f,l[k]?=some f:=⟨_,List.getElem?_eq_getElem hk⟩
 have hfm:=List.mem_of_getElem? hfe
 have f1:=hr f hfm
 have ec:=hf4.cells fcE_len hfe
 simp only [fcE] at ec
 obtain ⟨fb,hfb⟩:∃ fb,fb=w4.heap.size:=⟨_,rfl⟩
 have hki:(k:Int) < l.length:=by omega
 simp (disch:=omega) [g7,hc,hlm,hf4.idx,ec,← hfb]
 refine st_fa (f:=faN f) .emp (At.start (w:=w4) rfl) hfb fun w7 h7=>?_
 have k7:=k4.trans h7.kp
 have hob:=h7.obj
 simp only [faN,faO] at hob
 rw [hfb] at hob
 have hs7:=hs.kp0 k7
 obtain ⟨y,hy⟩:∃ y,s[f.1]?=some y:=⟨_,List.getElem?_eq_getElem f1⟩
 have hyd:s.getD f.1 0=y:=by simp [List.getD,hy]
 have n1:¬ (f.1:Int) < 0:=by omega
 have n2:¬ ((s.length:Nat):Int)≤(f.1:Int):=by omega
 have n3:(f.1:Int) < s.length:=by omega
 have n4:¬ s.length≤f.1:=by omega
 have hsc:=hdB_succ (s:=s) hfe
 rw [g4,hyd] at hsc
 by_cases hyx:y=f.2
 ·have t:((y:Int) != (f.2:Int))=false:=by simp; omega
  simp (disch:=omega) [g1,g7,hc,hlm,cell_blk hob,n1,n2,n4,hs7.len,hs7.idx,nE_cell hs7 hy,t]
  refine ⟨?_,k7.drew⟩
  rw [hsc]; simp [hyx]
 ·have t:((y:Int) != (f.2:Int))=true:=by simp; omega
  have hbad:hdB s l=false:=by
   unfold hdB
   rw [List.all_eq_false]
   exact ⟨f,hfm,by simp only [hyd,decide_eq_true_eq]; exact hyx⟩
  simp (disch:=omega) [g1,g7,hc,hlm,cell_blk hob,n1,n2,n4,hs7.len,hs7.idx,nE_cell hs7 hy,t,hbad]
  exact k7.drew
end Go.Proofs.YtkhfdmelcpfgoaaGreat
end
section
set_option maxRecDepth 100000
set_option linter.unusedSimpArgs false
set_option linter.unusedVariables false
namespace Go.Proofs.YtkhfdmelcpfgoaaGreat
open Go Go.W Go.Tk Go.Rx Go.Maps
def extS (n:Nat) (s:List Nat):List (List Nat):=(List.range n).map fun x=>s ++ [x]
def stsK (vars:List Nat):Nat→List (List Nat)
 | 0=>[[]]
 | k+1=>(stsK vars k).flatMap (extS (vars.getD k 0))
end Go.Proofs.YtkhfdmelcpfgoaaGreat
end
section
set_option maxRecDepth 100000
set_option linter.unusedSimpArgs false
set_option linter.unusedVariables false
namespace Go.Proofs.YtkhfdmelcpfgoaaGreat
open Go Go.W Go.Tk Go.Rx Go.Maps
def apK (o:No) (s:List Nat) (k:Nat):List Nat:=(o.effs.take k).foldl (fun t e=>if hdB s e.cnd then t.set e.v e.x else t) s
def apS (o:No) (s:List Nat):List Nat:=apK o s o.effs.length
theorem apK_succ {o:No} {s:List Nat} {k:Nat} {e:Nf} (h:o.effs[k]?=some e):apK o s (k+1)=if hdB s e.cnd then (apK o s k).set e.v e.x else apK o s k:=by
 unfold apK; rw [take_snoc h,List.foldl_append]; rfl
theorem apK_len (o:No) (s:List Nat):∀ k,(apK o s k).length=s.length
 | 0=>by simp [apK]
 | k+1=>by
  cases h:o.effs[k]? with
  | none =>
   have:=List.getElem?_eq_none_iff.1 h
   have h2:=apK_len o s k
   unfold apK at h2 ⊢
   rw [List.take_of_length_le (by omega)] at h2 ⊢
   exact h2
  | some e =>
   rw [apK_succ h]
   have:=apK_len o s k
   split
   ·rw [List.length_set]; exact this
   ·exact this
def apV (T:Nt) (o:No) (s:List Nat) (w:World) (x:Value) (w':World):Prop :=
 if hdB s o.pre=true then ∃ u,x=.tuple #[u,.bool true]∧Nw w w' u 3 1 nE (apS o s) else x=.tuple #[.slice none 0 0,.bool false]∧Kp [] w w'
set_option maxHeartbeats 1000000 in
theorem apply_spec {w:World} (T:Nt) (sv:Value) (s:List Nat) (i:Nat) (o:No) (hr:NtR w T) (hg:NtG T) (ho:T.ops[i]?=some o) (hs:Vw w sv nE s) (hst:StN T.vars s) :
  Calls Tryz.prog 45 [ntV T,sv,.int .i64 (i:Nat)].toArray w fun e w'=>∃ x,e=.returned x∧apV T o s w x w':=by
 refine enter Tryz.func45 mixed low45 (Nat.le_of_ble_eq_true rfl) ?_
 simp only [L45]
 have hlen:=hst.len
 have hvl:=hg.vlen
 have hol:=hg.olen
 have hom:=List.mem_of_getElem? ho
 have hgo:=hg.ops o hom
 have hi:i < T.ops.length:=(List.getElem?_eq_some_iff.1 ho).1
 have hii:(i:Int) < T.ops.length:=by omega
 obtain ⟨b,hb⟩:∃ b,b=w.heap.size:=⟨_,rfl⟩
 have h1:At w [] (Star (ObjA b (ntO T)) Emp) (w.alloc (ntO T)):=by rw [hb]; exact (At.start rfl).alloc _ .emp
 obtain ⟨w1,hw1⟩:∃ w1,w1=w.alloc (ntO T):=⟨_,rfl⟩
 rw [← hw1] at h1
 have hw1':w.alloc (.cells #[T.vv.1,T.nv.1,T.gv.1,T.ov.1] 26 (0,0))=w1:=by rw [hw1]; rfl
 have hr1:=hr.kp h1.kp
 have hob:=h1.obj
 unfold ntO at hob
 have c2:=hr1.ops.fld noE_len ho (o:=2) (u:=o.pv.1) rfl
 have n1:¬ (i:Int) < 0:=by omega
 have n2:¬ T.ops.length≤i:=by omega
 simp (disch:=omega) [ntV,← hb,hw1',cell_blk hob,n1,n2,hr1.ops.len,hr1.ops.idx,c2]
 have hgp:=hgo.pre
 have hpl:=hgp.len
 refine cl_of (holds_spec o.pv.1 sv o.pre s (hr1.op o hom).pre (hs.kp0 h1.kp) (by omega) (fun f hf=>by rw [hlen]; exact (hgp.rng f hf).1)) ?_
 rintro _ w2 ⟨rfl,k2⟩
 have h2:=h1.kp0 (Lcl.obj.star .emp) k2
 cases hp:hdB s o.pre with
 | false =>
  simp
  unfold apV
  rw [if_neg (by rw [hp]; simp)]
  exact ⟨rfl,h2.kp⟩
 | true =>
  simp [rowOf]
  have h3:=h2.lit (xs:=([]:List Nat)) (enc:=nE) (E:=3) (sz:=1) (cs:=#[]) (m:=0) (Lcl.obj.star .emp) (by simp) nE_len (by simp [maxLen]) rfl
  refine At.appendV (xs:=s) (Lcl.obj.star .emp) h3 (hs.kp0 h3.kp) nE_len nE_one sl_22 (by simp; omega) (by simp; unfold maxLen; omega) fun ov w4 h4=>?_
  have hob4:=h4.drop.obj
  unfold ntO at hob4
  have hr4:=hr.kp h4.kp
  have c3:=hr4.ops.fld noE_len ho (o:=3) (u:=o.ev.1) rfl
  have hro4:=hr4.op o hom
  have helen:=hgo.elen
  have h4:At w [] (Star (OwnA ov 3 1 nE (apK o s 0)) (Star (ObjA b (ntO T)) Emp)) w4:=by simpa [apK] using h4
  simp (disch:=omega) [← hb,cell_blk hob4,hr4.ops.idx,c3,hro4.effs.len]
  refine range_loop (n:=o.effs.length) (by omega) (fun k ρ w'=>ρ 1=sv∧ρ 8=ov∧ρ 39=o.ev.1∧At w [] (Star (OwnA ov 3 1 nE (apK o s k)) (Star (ObjA b (ntO T)) Emp)) w') (by simp) (by simp)
   ⟨by simp,by simp,by simp,h4⟩ (by decide) (fun _ _ _ _ h=>by simpa using h) (fun _ _ _ _ h=>by simpa using h) ?_ ?_
  rotate_left
  ·rintro ρ w5 ⟨g1,g8,g39,h5⟩
   simp [g8]
   unfold apV
   rw [if_pos hp]
   exact ⟨_,rfl,Nw.of h5⟩
  clear h3 h4 hob4 hr4 c3 hro4
  rintro k ρ w5 hk hck hlk ⟨g1,g8,g39,h5⟩
  have hro5:=(hr.kp h5.kp).op o hom
  obtain ⟨e,he⟩:∃ e,o.effs[k]?=some e:=⟨_,List.getElem?_eq_getElem hk⟩
  have hem:=List.mem_of_getElem? he
  have ece:=hro5.effs.cells nfE_len he
  simp only [nfE] at ece
  have hki:(k:Int) < o.effs.length:=by omega
  obtain ⟨fb,hfb⟩:∃ fb,fb=w5.heap.size:=⟨_,rfl⟩
  have hL:∀ l,Lcl (Star (OwnA ov 3 1 nE l) (Star (ObjA b (ntO T)) Emp)):=fun _=>Lcl.own.star (Lcl.obj.star .emp)
  simp (disch:=omega) [g39,hck,hlk,hro5.effs.idx,ece,← hfb]
  refine st_ef (e:=e.raw) (hL _) h5 hfb fun w6 h6=>?_
  have oe6:=h6.obj
  unfold efO Nf.raw at oe6
  rw [hfb] at oe6
  have hgc:=hgo.cnd e hem
  have hcl:=hgc.len
  obtain ⟨f1,f2⟩:=hgo.eff e hem
  simp (disch:=omega) [cell_blk oe6,g1]
  refine cl_of (holds_spec e.wv.1 sv e.cnd s (((hr.kp h6.kp).op o hom).cnd e hem) (hs.kp0 h6.kp) (by omega) (fun f hf=>by rw [hlen]; exact (hgc.rng f hf).1)) ?_
  rintro _ w7 ⟨rfl,k7⟩
  have h7:=h6.kp0 (Lcl.obj.star (hL _)) k7
  have hsuc:=apK_succ (s:=s) he
  cases hh:hdB s e.cnd with
  | false =>
   rw [hh] at hsuc
   simp [g1,g8,g39,hck,hlk]
   rw [hsuc]
   exact h7.drop
  | true =>
   rw [hh] at hsuc
   have oe7:=h7.obj
   unfold efO Nf.raw at oe7
   rw [hfb] at oe7
   have h8:=h7.drop
   have hO:=h8.own
   have hal:=apK_len o s k
   have hvi:(e.v:Int) < (apK o s k).length:=by omega
   simp (disch:=omega) [g8,cell_blk oe7,hO.idx]
   refine h8.store1 (Lcl.obj.star .emp) nE_len nE_one (k:=e.v) (by omega) (x:=e.x) rfl fun w9 h9=>?_
   simp [g1,g8,g39,hck,hlk]
   rw [hsuc]
   exact h9
end Go.Proofs.YtkhfdmelcpfgoaaGreat
end
section
set_option maxRecDepth 100000
set_option linter.unusedSimpArgs false
set_option linter.unusedVariables false
namespace Go.Proofs.YtkhfdmelcpfgoaaGreat
open Go Go.W Go.Tk Go.Rx Go.Maps
theorem sts_ok {vars:List Nat}:∀ k,k≤vars.length→∀ s ∈ stsK vars k,s.length=k∧∀ v,v < k→s.getD v 0 < vars.getD v 0
 | 0,_,s,hs=>by
  simp [stsK] at hs; subst hs
  exact ⟨rfl,fun v hv=>by omega⟩
 | k+1,hk,s,hs=>by
  unfold stsK at hs
  obtain ⟨t,ht,h2⟩:=List.mem_flatMap.1 hs
  unfold extS at h2
  obtain ⟨x,hx,rfl⟩:=List.mem_map.1 h2
  obtain ⟨e,hv⟩:=sts_ok k (by omega) t ht
  refine ⟨by simp [e],fun v hvk=>?_⟩
  by_cases h3:v < k
  ·have:=hv v h3
   simpa [List.getD,List.getElem?_append_left (show v < t.length by omega)] using this
  ·have:v=k:=by omega
   subst this
   simpa [List.getD,← e] using List.mem_range.1 hx
theorem sts_st {vars:List Nat} {s:List Nat} (h:s ∈ stsK vars vars.length):StN vars s:=by
 obtain ⟨h1,h2⟩:=sts_ok _ (Nat.le_refl _) s h
 exact ⟨h1,h2⟩
end Go.Proofs.YtkhfdmelcpfgoaaGreat
end
section
set_option maxRecDepth 100000
set_option linter.unusedSimpArgs false
set_option linter.unusedVariables false
namespace Go.Proofs.YtkhfdmelcpfgoaaGreat
open Go Go.W Go.Tk Go.Rx Go.Sy Go.Maps
def okB (vars:List Nat) (a:Nat→Bool):Bool:=(List.range vars.length).all fun v=>decide (rv vars a 0 v < vars.getD v 0)
theorem okB_iff {vars:List Nat} {a:Nat→Bool}:okB vars a=true↔StN vars (rs vars a 0):=by
 unfold okB
 rw [List.all_eq_true]
 constructor
 ·intro h
  refine ⟨rs_len _ _ _,fun v hv=>?_⟩
  rw [rs_at hv]
  have:=h v (List.mem_range.2 hv)
  simpa using this
 ·intro h v hv
  have hv:=List.mem_range.1 hv
  have:=h.rng v hv
  rw [rs_at hv] at this
  simpa using this
def lastE (o:No) (s:List Nat) (v:Nat):Nat→Nat→Option Nat
 | 0,_=>none
 | d+1,i=>match lastE o s v d (i+1) with
  | some z=>some z
  | none=>match o.effs[i]? with
   | some e=>if e.v=v∧hdB s e.cnd=true then some e.x else none
   | none=>none
theorem lastE_succ (o:No) (s:List Nat) (v d i:Nat):lastE o s v (d+1) i=(match lastE o s v d (i+1) with
  | some z=>some z
  | none=>match o.effs[i]? with
   | some e=>if e.v=v∧hdB s e.cnd=true then some e.x else none
   | none=>none):=rfl
theorem gD_same {d:List Nat} {i x:Nat} (h:i < d.length):(d.set i x).getD i 0=x:=by simp [List.getD,List.getElem?_set_self h]
theorem gD_ne {d:List Nat} {i j x:Nat} (h:i≠j):(d.set i x).getD j 0=d.getD j 0:=by simp only [List.getD,List.getElem?_set_ne h]
theorem lastE_ap {o:No} {s:List Nat} {v:Nat} (hv:v < s.length):∀ d i,i+d=o.effs.length→(apS o s).getD v 0=(lastE o s v d i).getD ((apK o s i).getD v 0)
 | 0,i,h=>by
  have:i=o.effs.length:=by omega
  subst this
  rfl
 | d+1,i,h=>by
  rw [lastE_ap hv d (i+1) (by omega)]
  obtain ⟨e,he⟩:∃ e,o.effs[i]?=some e:=⟨_,List.getElem?_eq_getElem (by omega)⟩
  rw [lastE_succ]
  cases hl:lastE o s v d (i+1) with
  | some z=>rfl
  | none =>
   rw [he]
   simp only [Option.getD_none]
   rw [apK_succ he]
   by_cases hc:hdB s e.cnd=true
   ·by_cases hev:e.v=v
    ·subst hev
     rw [if_pos hc,if_pos ⟨rfl,hc⟩]
     rw [gD_same (by rw [apK_len]; exact hv)]
     rfl
    ·rw [if_pos hc,if_neg (fun h=>hev h.1),gD_ne hev]
     rfl
   ·rw [if_neg hc,if_neg (fun h=>hc h.2)]
    rfl
def chgV (o:No) (s:List Nat) (v:Nat):Nat:=(lastE o s v o.effs.length 0).getD (s.getD v 0)
theorem chg_ap {o:No} {s:List Nat} {v:Nat} (hv:v < s.length):(apS o s).getD v 0=chgV o s v:=by
 rw [lastE_ap hv o.effs.length 0 (by omega)]
 rfl
def relB (T:Nt) (o:No) (a:Nat→Bool):Bool:=hdB (rs T.vars a 0) o.pre && decide (rs T.vars a 1=apS o (rs T.vars a 0))
def relV (T:Nt) (o:No) (v:Nat) (a:Nat→Bool):Bool:=decide (rv T.vars a 1 v=chgV o (rs T.vars a 0) v)
theorem ext_getD {l l':List Nat} (h:l.length=l'.length) (hh:∀ v,v < l.length→l.getD v 0=l'.getD v 0):l=l':=by
 apply List.ext_getElem h
 intro i h1 h2
 have:=hh i h1
 simpa [List.getD,h1,h2] using this
theorem rel_all {T:Nt} {o:No} {a:Nat→Bool}:(∀ v,v < T.vars.length→relV T o v a=true)↔rs T.vars a 1=apS o (rs T.vars a 0):=by
 have hl:(apS o (rs T.vars a 0)).length=T.vars.length:=by unfold apS; rw [apK_len,rs_len]
 constructor
 ·intro h
  refine ext_getD (by rw [rs_len,hl]) fun v hv=>?_
  rw [rs_len] at hv
  have:=h v hv
  unfold relV at this
  rw [rs_at hv,chg_ap (by rw [rs_len]; exact hv)]
  simpa using this
 ·intro h v hv
  unfold relV
  rw [decide_eq_true_iff,← chg_ap (by rw [rs_len]; exact hv),← h,rs_at hv]
def imgP (T:Nt) (o:No) (P:List Nat→Bool) (s:List Nat):Bool:=(stsK T.vars T.vars.length).any fun x=>P x && hdB x o.pre && decide (apS o x=s)
def preP (o:No) (P:List Nat→Bool) (s:List Nat):Bool:=hdB s o.pre && P (apS o s)
theorem sts_mem {vars s:List Nat}:s ∈ stsK vars vars.length↔StN vars s:=by
 refine ⟨sts_st,fun h=>?_⟩
 have key:∀ k,k≤vars.length→s.take k ∈ stsK vars k:=by
  intro k hk
  induction k with
  | zero=>simp [stsK]
  | succ k ih =>
   unfold stsK
   refine List.mem_flatMap.2 ⟨_,ih (by omega),?_⟩
   unfold extS
   have hks:k < s.length:=by rw [h.len]; omega
   refine List.mem_map.2 ⟨s.getD k 0,List.mem_range.2 (h.rng k (by omega)),?_⟩
   rw [List.take_add_one,List.getElem?_eq_getElem hks]
   simp [List.getD,List.getElem?_eq_getElem hks]
 have:=key _ (Nat.le_refl _)
 rwa [List.take_of_length_le (by rw [h.len]; exact Nat.le_refl _)] at this
theorem rs_mk2 {vars x y:List Nat} (h64:∀ n ∈ vars,n≤64) (hx:StN vars x):rs vars (mk2 vars x y) 0=x:=by
 refine ext_getD (by rw [rs_len,hx.len]) fun v hv=>?_
 rw [rs_len] at hv
 have hm:vars.getD v 0 ∈ vars:=by simp [List.getD,List.getElem?_eq_getElem hv]
 have h1:=hx.rng v hv
 have h2:=wd_ge (h64 _ hm)
 rw [rs_at hv,rv_mk2 (nx:=0) hv (by omega) (by simp only [if_true]; omega)]
 rfl
end Go.Proofs.YtkhfdmelcpfgoaaGreat
end
