/-
  Parts of the proof of this claim's statement; no conditions beyond those each theorem names.
-/
import Derived.Test.YtolkjbmcindhjaaGreatPk13
set_option maxRecDepth 100000
set_option linter.unusedSimpArgs false
set_option linter.unusedVariables false
set_option linter.unusedSectionVars false
set_option maxHeartbeats 8000000
namespace Go.Rb
section
inductive Cd where
 |O:Cd
 |A:Nat->Cd
 |R:Cd
 |I:Nat->Cd
def chs:List (Nat×Nat)->List (List Nat)
 |[]=>[[]]
 |e::r=>(chs r).flatMap fun g=>[e.1::g,e.2::g]
def msk(m:Nat)(g:List Nat):List Bool:=(List.range m).map fun i=>g.contains i
def cho(m:Nat)(q:List (Nat×Nat))(M:List Bool):List (List Nat):=(chs q).filter fun g=>msk m g==M
def frc(m:Nat)(q:List (Nat×Nat))(M:List Bool)(i:Nat):Option Nat:=(List.range q.length).find? fun j=>(cho m q M).all fun g=>g.getD j 99==i
def code(m:Nat)(q:List (Nat×Nat))(M:List Bool)(i:Nat):Cd:=bif M.getD i false then(match frc m q M i with|some j=>.A j|none=>.R) else .O
def hitE(m:Nat)(q:List (Nat×Nat))(M:List Bool):Option Nat:=(List.range q.length).find? fun j =>
 match q[j]? with|some e=>M.getD e.1 false&&M.getD e.2 false&&(frc m q M e.1).isNone&&(frc m q M e.2).isNone|none=>false
def zVq(hb:Bool)(m:Nat)(q:List (Nat×Nat))(M:List Bool):Option Nat:=bif hb then hitE m q M else none
def boxM(hb:Bool)(m:Nat)(q:List (Nat×Nat))(M:List Bool):List (List Cd) :=
 match zVq hb m q M with
 |none=>[(List.range m).map (code m q M)]
 |some j=>match q[j]? with
  |some e=>[(List.range m).map fun i=>bif i==e.1 then .A j else code m q M i,(List.range m).map fun i=>bif i==e.1 then .I j else bif i==e.2 then .A j else code m q M i]
  |none=>[(List.range m).map (code m q M)]
def zAN(hb:Bool)(m:Nat)(q:List (Nat×Nat)):List (List Cd):=(((chs q).map (msk m)).eraseDups).flatMap (boxM hb m q)
theorem zNd{hb:Bool}{m:Nat}{q:List (Nat×Nat)}{M:List Bool}{j:Nat}(h:zVq hb m q M=some j):hitE m q M=some j:=by
 unfold zVq at h;cases hb
 ·cases h
 ·exact h
def Fit(w:Nat->Nat->Int)(d:Nat->Nat)(Os:Nat->List Int)(i:Nat)(v:Int):Cd->Prop
 |.O=>v∈Os i
 |.A j=>v≠w j i/\0<=v/\v<d i
 |.R=>0<=v/\v<d i
 |.I j=>v=w j i
theorem zIk{m:Nat}{g:List Nat}{i:Nat}(hi:i<m):(msk m g).getD i false=g.contains i:=by
 unfold msk;simp[List.getD,hi]
theorem zOI{q:List (Nat×Nat)}:∀{g:List Nat},g∈chs q->g.length=q.length:=by
 induction q with
 |nil=>intro g hg;simp[chs] at hg;subst hg;rfl
 |cons e r ih =>intro g hg;obtain⟨h,hh,hg⟩:=List.mem_flatMap.1 hg;have:=ih hh;simp at hg;rcases hg with rfl|rfl<;>simp[this]
theorem zOJ{q:List (Nat×Nat)}:∀{g:List Nat} {j:Nat} {e:Nat×Nat},g∈chs q->q[j]? = some e->g[j]? = some e.1\/g[j]? = some e.2:=by
 induction q with
 |nil=>intro g j e _ h;simp at h
 |cons e r ih =>
  intro g j e' hg hj;obtain⟨h,hh,hg⟩:=List.mem_flatMap.1 hg;simp at hg;cases j with
  |zero =>simp at hj;subst hj;rcases hg with rfl|rfl<;>simp
  |succ j =>have:=ih hh (by simpa using hj);rcases hg with rfl|rfl<;>simpa using this
theorem zQR{m:Nat}{q:List (Nat×Nat)}{w:Nat->Nat->Int}{d:Nat->Nat}{Os:Nat->List Int}{z:Nat->Int}{g:List Nat}(hg:g∈chs q)(hz:∀j i,g[j]? = some i->z i≠w j i/\0<=z i/\z i<d i)(hO:∀i,i<m->i∉g->z i∈Os i){i:Nat}(hi:i<m) :
  Fit w d Os i (z i) (code m q (msk m g) i):=by
 unfold code;rw[zIk hi];cases hc:g.contains i with
 |false =>simp only[cond_false,Fit];exact hO i hi (by simpa using hc)
 |true =>
  simp only[cond_true];have hm:i∈g:=by simpa using hc
  obtain⟨j0,JB,e0⟩:=List.getElem_of_mem hm;have h0:=hz j0 i (by rw[List.getElem?_eq_getElem JB,e0]);cases hf:frc m q (msk m g) i with
  |none=>exact h0.2
  |some j =>
   have h1:=List.find?_some hf;have h2:=List.mem_of_find?_eq_some hf;rw[List.all_eq_true] at h1;have JC:g∈cho m q (msk m g):=List.mem_filter.2 ⟨hg,by simp⟩;have h3:=h1 g JC;have JA:j<g.length:=by rw[zOI hg];exact List.mem_range.1 h2
   have h4:g[j]? = some i:=by rw[List.getD,List.getElem?_eq_getElem JA] at h3;rw[List.getElem?_eq_getElem JA];simpa using h3
   exact hz j i h4
theorem zTr{hb:Bool}{m:Nat}{q:List (Nat×Nat)}{w:Nat->Nat->Int}{d:Nat->Nat}{Os:Nat->List Int}{z:Nat->Int}{g:List Nat}(hq:∀e∈q,e.1≠e.2/\e.1<m/\e.2<m)(hg:g∈chs q)(hz:∀j i,g[j]? = some i->z i≠w j i/\0<=z i/\z i<d i)(hO:∀i,i<m->i∉g->z i∈Os i) :
  ∃b∈zAN hb m q,b.length=m/\∀i c,b[i]? = some c->Fit w d Os i (z i) c:=by
 have JA:∀i,i<m->Fit w d Os i (z i) (code m q (msk m g) i):=fun i hi=>zQR hg hz hO hi;have JC:∀b:List Cd,b=(List.range m).map (code m q (msk m g))->b.length=m/\∀i c,b[i]? = some c->Fit w d Os i (z i) c:=fun b hb=>by subst hb;refine⟨by simp,fun i c hc=>?_⟩;obtain⟨hi,e⟩:=List.getElem?_eq_some_iff.1 hc;simp at hi e;subst e;exact JA i hi
 have JB:∀b,b∈boxM hb m q (msk m g)->b∈zAN hb m q:=fun b hb=>by unfold zAN;refine List.mem_flatMap.2 ⟨msk m g,?_,hb⟩;rw[List.mem_eraseDups];exact List.mem_map.2 ⟨g,hg,rfl⟩
 unfold boxM at JB;cases hh:zVq hb m q (msk m g) with
 |none =>rw[hh] at JB;exact⟨_,JB _ (by simp),JC _ rfl⟩
 |some j =>
  rw[hh] at JB;simp only at JB;have h1:=List.find?_some (zNd hh);have h2:=List.mem_of_find?_eq_some (zNd hh);have JE:=List.mem_range.1 h2;obtain⟨e,he⟩:∃e,q[j]? = some e:=⟨_,List.getElem?_eq_getElem JE⟩;rw[he] at h1 JB;simp only[Bool.and_eq_true] at h1;have JD:=hq e (List.mem_of_getElem? he);have JI:∀i,i<m->i≠e.1->i≠e.2->True:=fun _ _ _ _=>trivial
  -- the free end's own code is R
  have hR:∀i,(msk m g).getD i false=true->(frc m q (msk m g) i).isNone=true->code m q (msk m g) i=.R:=fun i a b=>by
   unfold code;rw[a];cases hf:frc m q (msk m g) i with
   |none=>rfl
   |some j=>rw[hf] at b;cases b
  have JG:=zOJ hg he;have mem1:e.1∈g:=by have:=h1.1.1.1;rw[zIk JD.2.1] at this;simpa using this
  have mem2:e.2∈g:=by have:=h1.1.1.2;rw[zIk JD.2.2] at this;simpa using this
  have rng:∀i∈g,0<=z i/\z i<d i:=fun i hi=>by obtain⟨j0,JF,e0⟩:=List.getElem_of_mem hi;exact(hz j0 i (by rw[List.getElem?_eq_getElem JF,e0])).2
  by_cases hw:z e.1=w j e.1
  ·have JH:g[j]? = some e.2:=by
    rcases JG with h|h
    ·exact absurd hw (hz j e.1 h).1
    ·exact h
   refine⟨_,JB _ (by simp only[List.mem_cons];exact .inr (.inl rfl)),by simp,fun i c hc=>?_⟩;obtain⟨hi,ec⟩:=List.getElem?_eq_some_iff.1 hc;simp only[List.length_map,List.length_range] at hi;simp only[List.getElem_map,List.getElem_range] at ec;by_cases i1:i=e.1
   ·subst i1;rw[show(e.1==e.1)=true by simp,cond_true] at ec;subst ec;exact hw
   ·rw[show(i==e.1)=false by simpa using i1,cond_false] at ec;by_cases i2:i=e.2
    ·subst i2;rw[show(e.2==e.2)=true by simp,cond_true] at ec;subst ec;exact hz j e.2 JH
    ·rw[show(i==e.2)=false by simpa using i2,cond_false] at ec;subst ec;exact JA i hi
  ·refine⟨_,JB _ (by simp only[List.mem_cons];exact .inl rfl),by simp,fun i c hc=>?_⟩;obtain⟨hi,ec⟩:=List.getElem?_eq_some_iff.1 hc;simp only[List.length_map,List.length_range] at hi;simp only[List.getElem_map,List.getElem_range] at ec;by_cases i1:i=e.1
   ·subst i1;rw[show(e.1==e.1)=true by simp,cond_true] at ec;subst ec;exact⟨hw,rng _ mem1⟩
   ·rw[show(i==e.1)=false by simpa using i1,cond_false] at ec;subst ec;exact JA i hi
end
def zOO:List (List Int)->List (List Int)
 |[]=>[[]]
 |l::ls=>l.flatMap fun x=>(zOO ls).map fun r=>x::r
theorem zG2:∀(ls:List (List Int)) (t:List Int),t.length=ls.length->(∀(i:Nat) (v:Int) (l:List Int),t[i]? = some v->ls[i]? = some l->v∈l)->t∈zOO ls
 |[],t,h,_=>by have:t=[]:=List.length_eq_zero_iff.1 h;subst this;simp[zOO]
 |l::ls,[],h,_=>by simp at h
 |l::ls,x::t,h,hm=>by refine List.mem_flatMap.2 ⟨x,hm 0 x l rfl rfl,List.mem_map.2 ⟨t,zG2 ls t (by simpa using h) (fun i v l' h1 h2=>hm (i+1) v l' (by simpa using h1) (by simpa using h2)),rfl⟩⟩
def zt:List Nat->Nat
 |[]=>1
 |x::l=>x*zt l
theorem zEb{α:Type}(c:Nat)(f:α->Nat):∀l:List α,(∀x∈l,f x=c)->(l.map f).sum=l.length*c
 |[],_=>by simp
 |x::l,h=>by rw[List.map_cons,List.sum_cons,zEb c f l (fun y hy=>h y (by simp[hy])),h x (by simp),List.length_cons,Nat.add_mul];omega
theorem zG3:∀ls:List (List Int),(zOO ls).length=zt (ls.map List.length)
 |[]=>rfl
 |l::ls=>by unfold zOO;rw[List.length_flatMap,zEb (zOO ls).length _ l (by simp),zG3 ls];rfl
abbrev Ty:=Nat×Nat×Nat×Nat
def szC(t:Ty):Cd->Nat
 |.O=>t.2.2.1
 |.A _=>t.1
 |.R=>t.2.1
 |.I _=>t.2.2.2
def szB:List Cd->List Ty->Nat
 |c::cs,t::ts=>szC t c*szB cs ts
 |_,_=>1
def Bf(bs:List (List Cd))(ts:List Ty):Nat:=(bs.map fun b=>szB b ts).sum
structure TyOk(w:Nat->Nat->Int)(d:Nat->Nat)(Os:Nat->List Int)(sp:Nat->Bool)(i:Nat)(t:Ty):Prop where
 o:(Os i).length<=t.2.2.1
 s:sp i=true->(Os i).length<=t.1/\(Os i).length<=t.2.1/\(Os i).length<=t.2.2.2
 a:sp i=false->d i-1<=t.1
 r:sp i=false->d i<=t.2.1
 i:sp i=false->1<=t.2.2.2
def vl(w:Nat->Nat->Int)(d:Nat->Nat)(Os:Nat->List Int)(sp:Nat->Bool)(i:Nat)(c:Cd):List Int :=
 if sp i=true then Os i else match c with
 |.O=>Os i
 |.A j=>((List.range (d i)).map fun(x:Nat)=>(x:Int)).filter fun v=>decide (v≠w j i)
 |.R=>(List.range (d i)).map fun(x:Nat)=>(x:Int)
 |.I j=>[w j i]
theorem zIn{n:Nat}{v:Int}(h0:0<=v)(h1:v<n):v∈(List.range n).map fun(x:Nat)=>(x:Int):=List.mem_map.2 ⟨v.toNat,List.mem_range.2 (by omega),by omega⟩
theorem zUX{w:Nat->Nat->Int}{d:Nat->Nat}{Os:Nat->List Int}{sp:Nat->Bool}{i:Nat}{c:Cd}{v:Int}(h:Fit w d Os i v c)(hs:sp i=true->v∈Os i):v∈vl w d Os sp i c:=by
 unfold vl;split
 ·rename_i JA;exact hs JA
 ·cases c with
  |O=>exact h
  |A j=>exact List.mem_filter.2 ⟨zIn h.2.1 h.2.2,by simpa using h.1⟩
  |R=>exact zIn h.1 h.2
  |I j=>rw[show v=w j i from h];simp
theorem zTF{n:Nat}{v:Int}(h0:0<=v)(h1:v<n):(((List.range n).map fun(x:Nat)=>(x:Int)).filter fun u=>decide (u≠v)).length<=n-1:=by
 have JB:((List.range n).map fun(x:Nat)=>(x:Int)).Nodup:=List.pairwise_map.2 (List.nodup_range.imp fun {a b} h e=>h (by omega));have JA:((List.range n).map fun(x:Nat)=>(x:Int)).length=n:=by simp
 have h2:((v::(((List.range n).map fun(x:Nat)=>(x:Int)).filter fun u=>decide (u≠v)))).length<=((List.range n).map fun(x:Nat)=>(x:Int)).length:=by
  refine List.Nodup.length_le_of_subset (List.nodup_cons.2 ⟨by simp,JB.filter _⟩) fun x hx=>?_;rcases List.mem_cons.1 hx with rfl|hx
  ·exact zIn h0 h1
  ·exact(List.mem_filter.1 hx).1
 rw[JA,List.length_cons] at h2;omega
theorem zUY{w:Nat->Nat->Int}{d:Nat->Nat}{Os:Nat->List Int}{sp:Nat->Bool}{i:Nat}{c:Cd}{t:Ty}(ht:TyOk w d Os sp i t)(hw:∀j,c=.A j->0<=w j i/\w j i<d i):(vl w d Os sp i c).length<=szC t c:=by
 unfold vl;split
 ·rename_i JA;have:=ht.s JA;have h2:=ht.o;cases c with
  |O=>exact h2
  |A j=>exact this.1
  |R=>exact this.2.1
  |I j=>exact this.2.2
 ·rename_i JA;have JA:sp i=false:=by simpa using JA
  cases c with
  |O=>exact ht.o
  |A j =>have:=hw j rfl;exact Nat.le_trans (zTF this.1 this.2) (ht.a JA)
  |R =>have:=ht.r JA;show((List.range (d i)).map fun(x:Nat)=>(x:Int)).length<=t.2.1;simpa using this
  |I j=>exact ht.i JA
theorem zMC:∀(b:List Cd) (ts:List Ty) (ls:List (List Int)),b.length=ts.length->b.length=ls.length->(∀(i:Nat) (c:Cd) (t:Ty) (l:List Int),b[i]? = some c->ts[i]? = some t->ls[i]? = some l->l.length<=szC t c)->zt (ls.map List.length)<=szB b ts
 |[],_,ls,_,h,_=>by have:ls=[]:=List.length_eq_zero_iff.1 h.symm;subst this;exact Nat.le_refl _
 |c::b,[],ls,h,_,_=>by simp at h
 |c::b,t::ts,[],_,h,_=>by simp at h
 |c::b,t::ts,l::ls,h1,h2,hm=>Nat.mul_le_mul (hm 0 c t l rfl rfl rfl) (zMC b ts ls (by simpa using h1) (by simpa using h2) fun i c' t' l' a1 a2 a3=>hm (i+1) c' t' l' (by simpa using a1) (by simpa using a2) (by simpa using a3))
def famB(w:Nat->Nat->Int)(d:Nat->Nat)(Os:Nat->List Int)(sp:Nat->Bool)(bs:List (List Cd)):List (List Int) :=
 bs.flatMap fun b=>zOO (b.zipIdx.map fun p=>vl w d Os sp p.2 p.1)
theorem zKO{w:Nat->Nat->Int}{d:Nat->Nat}{Os:Nat->List Int}{sp:Nat->Bool}{ts:List Ty}{m:Nat}(hm:ts.length=m)(hT:∀(i:Nat) (t:Ty),ts[i]? = some t->TyOk w d Os sp i t):∀bs:List (List Cd),(∀b∈bs,b.length=m)->(∀b∈bs,∀(i j:Nat),b[i]? = some (Cd.A j)->0<=w j i/\w j i<d i)->(famB w d Os sp bs).length<=Bf bs ts
 |[],_,_=>Nat.le_refl _
 |b::bs,hl,hw=>by
  have ih:=zKO hm hT bs (fun b' JA=>hl b' (by simp[JA])) (fun b' JA=>hw b' (by simp[JA]));unfold famB Bf at *
  rw[List.flatMap_cons,List.length_append,List.map_cons,List.sum_cons];refine Nat.add_le_add ?_ ih;rw[zG3];refine zMC b ts _ (by rw[hl b (by simp),hm]) (by simp) fun i c t l h1 h2 h3=>?_;rw[List.getElem?_map,List.getElem?_zipIdx,h1] at h3;simp at h3;subst h3;exact zUY (hT i t h2) fun j e=>by subst e;exact hw b (by simp) i j h1
theorem zQD{w:Nat->Nat->Int}{d:Nat->Nat}{Os:Nat->List Int}{sp:Nat->Bool}{bs:List (List Cd)}{b:List Cd}{m:Nat}{z:Nat->Int}(hb:b∈bs)(hl:b.length=m)(hf:∀(i:Nat) (c:Cd),b[i]? = some c->Fit w d Os i (z i) c)(hs:∀i,i<m->sp i=true->z i∈Os i):(List.range m).map z∈famB w d Os sp bs:=by
 refine List.mem_flatMap.2 ⟨b,hb,zG2 _ _ (by simp[hl]) fun i v l h1 h2=>?_⟩;rw[List.getElem?_map,List.getElem?_zipIdx] at h2;obtain⟨hi,e⟩:=List.getElem?_eq_some_iff.1 h1;simp at hi e;subst e;obtain⟨c,hc⟩:∃c,b[i]? = some c:=⟨_,List.getElem?_eq_getElem (by omega)⟩;rw[hc] at h2;simp at h2;subst h2;exact zUX (hf i c hc) (hs i hi)
theorem zOX{hb:Bool}{m:Nat}{q:List (Nat×Nat)}(hq:∀e∈q,e.1≠e.2/\e.1<m/\e.2<m){b:List Cd}(JA:b∈zAN hb m q):b.length=m/\∀(i j:Nat),b[i]? = some (Cd.A j)->∃e,q[j]? = some e/\(i=e.1\/i=e.2):=by
 unfold zAN at JA;obtain⟨M,hM,JA⟩:=List.mem_flatMap.1 JA;rw[List.mem_eraseDups] at hM;obtain⟨g0,JD,rfl⟩:=List.mem_map.1 hM;have JB:∀i j,i<m->code m q (msk m g0) i=.A j->∃e,q[j]? = some e/\(i=e.1\/i=e.2):=fun i j hi h=>by
  unfold code at h;cases hc:(msk m g0).getD i false with
  |false=>rw[hc] at h;cases h
  |true =>
   rw[hc] at h;simp only[cond_true] at h;cases hf:frc m q (msk m g0) i with
   |none=>rw[hf] at h;cases h
   |some j' =>
    rw[hf] at h;injection h with h;subst h;have h1:=List.find?_some hf;have h2:=List.mem_range.1 (List.mem_of_find?_eq_some hf);rw[List.all_eq_true] at h1;have h3:=h1 g0 (List.mem_filter.2 ⟨JD,by simp⟩);obtain⟨e,he⟩:∃e,q[j']? = some e:=⟨_,List.getElem?_eq_getElem h2⟩;refine⟨e,he,?_⟩;rcases zOJ JD he with h4|h4<;>rw[List.getD,h4] at h3<;>simp at h3
    ·exact .inl h3.symm
    ·exact .inr h3.symm
 have JC:∀b:List Cd,b=(List.range m).map (code m q (msk m g0))->b.length=m/\∀(i j:Nat),b[i]? = some (Cd.A j)->∃e,q[j]? = some e/\(i=e.1\/i=e.2):=fun b hb=>by subst hb;refine⟨by simp,fun i j hc=>?_⟩;obtain⟨hi,e⟩:=List.getElem?_eq_some_iff.1 hc;simp at hi e;exact JB i j hi e
 unfold boxM at JA;cases hh:zVq hb m q (msk m g0) with
 |none=>rw[hh] at JA;simp only[List.mem_singleton] at JA;exact JC b JA
 |some j0 =>
  rw[hh] at JA;simp only at JA;have h2:=List.mem_range.1 (List.mem_of_find?_eq_some (zNd hh));obtain⟨e,he⟩:∃e,q[j0]? = some e:=⟨_,List.getElem?_eq_getElem h2⟩;rw[he] at JA;simp only[List.mem_cons,List.not_mem_nil,or_false] at JA;rcases JA with rfl|rfl
  ·refine⟨by simp,fun i j hc=>?_⟩;obtain⟨hi,ec⟩:=List.getElem?_eq_some_iff.1 hc;simp only[List.length_map,List.length_range] at hi;simp only[List.getElem_map,List.getElem_range] at ec;by_cases i1:i=e.1
   ·rw[show(i==e.1)=true by simpa using i1,cond_true] at ec;injection ec with ec;subst ec;exact⟨e,he,.inl i1⟩
   ·rw[show(i==e.1)=false by simpa using i1,cond_false] at ec;exact JB i j hi ec
  ·refine⟨by simp,fun i j hc=>?_⟩;obtain⟨hi,ec⟩:=List.getElem?_eq_some_iff.1 hc;simp only[List.length_map,List.length_range] at hi;simp only[List.getElem_map,List.getElem_range] at ec;by_cases i1:i=e.1
   ·rw[show(i==e.1)=true by simpa using i1,cond_true] at ec;cases ec
   ·rw[show(i==e.1)=false by simpa using i1,cond_false] at ec;by_cases i2:i=e.2
    ·rw[show(i==e.2)=true by simpa using i2,cond_true] at ec;injection ec with ec;subst ec;exact⟨e,he,.inr i2⟩
    ·rw[show(i==e.2)=false by simpa using i2,cond_false] at ec;exact JB i j hi ec
inductive K4 where
 |nil:K4
 |O:K4->K4
 |A:K4->K4
 |R:K4->K4
 |I:K4->K4
inductive St where
 |nil:St
 |cons:Nat->K4->St->St
def stp(a r o i:Nat):St->St
 |.nil=>.nil
 |.cons p (.O c) t=>.cons (Nat.mul p o) c (stp a r o i t)
 |.cons p (.A c) t=>.cons (Nat.mul p a) c (stp a r o i t)
 |.cons p (.R c) t=>.cons (Nat.mul p r) c (stp a r o i t)
 |.cons p (.I c) t=>.cons (Nat.mul p i) c (stp a r o i t)
 |.cons p .nil t=>.cons p .nil (stp a r o i t)
def smS:St->Nat
 |.nil=>0
 |.cons p _ t=>Nat.add p (smS t)
def mn(a b:Nat):Nat:=bif Nat.ble a b then a else b
def lg(q:Nat):Nat:=bif Nat.ble q 1 then 0 else bif Nat.ble q 3 then 1 else bif Nat.ble q 7 then 2 else bif Nat.ble q 15 then 3 else bif Nat.ble q 31 then 4 else bif Nat.ble q 63 then 5 else 6
def ok1(k G f Q B:Nat):Bool:=bif Nat.ble f k then Nat.ble (Nat.mul (Nat.pow 2 (mn (Nat.sub k f) (lg Q))) B) G else true
def zD6(P f B:Nat):Bool:=bif ok1 5 1024 f (Nat.div 512 P) B then bif ok1 4 784 f (Nat.div 512 P) B then bif ok1 3 760 f (Nat.div 512 P) B then bif ok1 2 588 f (Nat.div 512 P) B then
 bif Nat.ble P 256 then bif ok1 4 672 f (Nat.div 256 P) B then ok1 3 496 f (Nat.div 256 P) B else false else true else false else false else false else false
def chk(leaf:Nat->Nat->Nat->Bool)(K:Nat):Nat->Nat->Nat->St->Bool
 |0,P,f,S=>leaf P f (smS S)
 |m+1,P,f,S =>
  bif chk leaf K m (Nat.mul P 2) f (stp 1 2 1 1 S) then
  bif (bif Nat.ble K f then true else chk leaf K m (Nat.mul P 2) (Nat.succ f) (stp 1 2 2 1 S)) then
  bif (bif Nat.ble (Nat.mul P 3) 512 then chk leaf K m (Nat.mul P 3) f (stp 2 3 1 1 S) else true) then
  bif (bif Nat.ble (Nat.mul P 3) 512 then(bif Nat.ble K f then true else chk leaf K m (Nat.mul P 3) (Nat.succ f) (stp 2 3 2 1 S)) else true) then
  bif (bif Nat.ble (Nat.mul P 4) 512 then chk leaf K m (Nat.mul P 4) f (stp 3 4 1 1 S) else true) then
  (bif Nat.ble (Nat.mul P 4) 512 then(bif Nat.ble K f then true else chk leaf K m (Nat.mul P 4) (Nat.succ f) (stp 3 4 2 1 S)) else true)
  else false else false else false else false else false
def k4:List Cd->K4
 |[]=>.nil
 |.O::l=>.O (k4 l)
 |.A _::l=>.A (k4 l)
 |.R::l=>.R (k4 l)
 |.I _::l=>.I (k4 l)
def st0:List (List Cd)->St
 |[]=>.nil
 |b::l=>.cons 1 (k4 b) (st0 l)
def zLL(m:Nat):List (Nat×(Nat×Nat)) :=
 ((List.range m).flatMap fun i=>(List.range m).filterMap fun j=>if i<j then some (m,(i,j)) else none)++((List.range m).map fun i=>(m+1,(i,m)))++[(m+2,(m,m+1))]
def zCi:Nat->List (Nat×List (Nat×Nat))
 |0=>[(0,[])]
 |c+1=>(zCi c).flatMap fun x=>(zLL x.1).map fun y=>(y.1,x.2++[y.2])
def tyN(x:Nat×Bool):Ty:=(x.1-1,x.1,bif x.2 then 2 else 1,1)
def zPC(ts:List Ty)(S:St):St:=ts.foldl (fun S t=>stp t.1 t.2.1 t.2.2.1 t.2.2.2 S) S
def flN(l:List (Nat×Bool)):Nat:=(l.filter fun x=>x.2).length
def pdN(l:List (Nat×Bool)):Nat:=zt (l.map fun x=>x.1)
theorem zCy{l:List (Nat×Bool)}(h:∀x∈l,2<=x.1/\x.1<=4):1<=pdN l:=by
 induction l with
 |nil=>exact Nat.le_refl _
 |cons x l ih =>have h1:=ih fun y hy=>h y (by simp[hy]);have h2:=h x (by simp);show 1<=x.1*pdN l;exact Nat.mul_pos (by omega) h1
theorem zKL(x:Nat×Bool)(l:List (Nat×Bool)):flN (x::l)=(bif x.2 then 1 else 0)+flN l:=by
 unfold flN;obtain⟨d,u⟩:=x;cases u<;>simp;omega
theorem zd{a b:Bool}(h:(bif a then b else false)=true):a=true/\b=true:=by
 cases a
 ·cases h
 ·exact⟨rfl,h⟩
theorem zLV{a b:Bool}(h:(bif a then true else b)=true)(ha:a=false):b=true:=by subst ha;exact h
theorem zCf{a b:Bool}(h:(bif a then b else true)=true)(ha:a=true):b=true:=by subst ha;exact h
theorem zWd{a b:Nat}(h:b<a):Nat.ble a b=false:=by
 cases hq:Nat.ble a b with
 |false=>rfl
 |true=>have:=Nat.le_of_ble_eq_true hq;omega
theorem zBS{a b:Nat}(h:a<=b):Nat.ble a b=true:=Nat.ble_eq_true_of_le h
theorem zOK{leaf:Nat->Nat->Nat->Bool}{K:Nat}:∀(m P f:Nat) (S:St),chk leaf K m P f S=true->∀du:List (Nat×Bool),du.length=m->(∀x∈du,2<=x.1/\x.1<=4)->P*pdN du<=512->f+flN du<=K ->
  leaf (P*pdN du) (f+flN du) (smS (zPC (du.map tyN) S))=true
 |0,P,f,S,h,du,hl,_,_,_=>by have:du=[]:=List.length_eq_zero_iff.1 hl;subst this;simpa[chk,zPC,flN,pdN,zt] using h
 |m+1,P,f,S,h,[],hl,_,_,_=>by simp at hl
 |m+1,P,f,S,h,(d,u)::r,hl,hd,hP,hf=>by
  unfold chk at h;obtain⟨h1,h⟩:=zd h;obtain⟨h2,h⟩:=zd h;obtain⟨h3,h⟩:=zd h;obtain⟨h4,h⟩:=zd h;obtain⟨h5,h6⟩:=zd h;have JD:=hd (d,u) (by simp);have JC:∀x∈r,2<=x.1/\x.1<=4:=fun x hx=>hd x (by simp[hx]);have JF:=zCy JC;have JG:pdN ((d,u)::r)=d*pdN r:=rfl;rw[JG] at hP ⊢;have JE:Nat.mul P d*pdN r<=512:=by rw[show Nat.mul P d=P*d from rfl,Nat.mul_assoc];exact hP
  have JA:Nat.mul P d<=512:=Nat.le_trans (Nat.le_mul_of_pos_right _ JF) JE;have go:∀(f':Nat),f'+flN r<=K->chk leaf K m (Nat.mul P d) f' (stp (d-1) d (bif u then 2 else 1) 1 S)=true->leaf (P*(d*pdN r)) (f'+flN r) (smS (zPC (((d,u)::r).map tyN) S))=true:=fun f' JH hc=>by have:=zOK m _ f' _ hc r (by simpa using hl) JC JE JH;rw[show Nat.mul P d*pdN r=P*(d*pdN r) by rw[show Nat.mul P d=P*d from rfl,Nat.mul_assoc]] at this;exact this
  rw[zKL] at hf ⊢;cases u with
  |false =>
   simp only[cond_false,Nat.zero_add] at hf ⊢;refine go f hf ?_;rcases(show d=2\/d=3\/d=4 by simp only at JD;omega) with rfl|rfl|rfl
   ·exact h1
   ·exact zCf h3 (zBS JA)
   ·exact zCf h5 (zBS JA)
  |true =>
   simp only[cond_true] at hf ⊢;have JB:Nat.ble K f=false:=zWd (by omega);rw[show f+(1+flN r)=Nat.succ f+flN r by omega] at hf ⊢;refine go (Nat.succ f) hf ?_;rcases(show d=2\/d=3\/d=4 by simp only at JD;omega) with rfl|rfl|rfl
   ·exact zLV h2 JB
   ·exact zLV (zCf h4 (zBS JA)) JB
   ·exact zLV (zCf h6 (zBS JA)) JB
def zFd(leaf:Nat->Nat->Nat->Bool)(K:Nat)(kd:Bool):Nat->Nat->Nat->Nat->St->Bool
 |0,_,_,_,_=>true
 |m+1,0,P,f,S=>bif kd then(bif Nat.ble (Nat.mul P 2) 512 then chk leaf K m (Nat.mul P 2) f (stp 1 1 1 1 S) else true) else
  (bif chk leaf K m (Nat.mul P 2) f (stp 2 3 2 2 S) then bif (bif Nat.ble (Nat.mul P 3) 512 then chk leaf K m (Nat.mul P 3) f (stp 3 4 2 2 S) else true) then(bif Nat.ble (Nat.mul P 4) 512 then chk leaf K m (Nat.mul P 4) f (stp 4 5 2 2 S) else true) else false else false)
 |m+1,s+1,P,f,S =>
  bif zFd leaf K kd m s (Nat.mul P 2) f (stp 1 2 1 1 S) then
  bif (bif Nat.ble K f then true else zFd leaf K kd m s (Nat.mul P 2) (Nat.succ f) (stp 1 2 2 1 S)) then
  bif (bif Nat.ble (Nat.mul P 3) 512 then zFd leaf K kd m s (Nat.mul P 3) f (stp 2 3 1 1 S) else true) then
  bif (bif Nat.ble (Nat.mul P 3) 512 then(bif Nat.ble K f then true else zFd leaf K kd m s (Nat.mul P 3) (Nat.succ f) (stp 2 3 2 1 S)) else true) then
  bif (bif Nat.ble (Nat.mul P 4) 512 then zFd leaf K kd m s (Nat.mul P 4) f (stp 3 4 1 1 S) else true) then
  (bif Nat.ble (Nat.mul P 4) 512 then(bif Nat.ble K f then true else zFd leaf K kd m s (Nat.mul P 4) (Nat.succ f) (stp 3 4 2 1 S)) else true)
  else false else false else false else false else false
def SpT(kd:Bool)(t:Ty)(d:Nat):Prop:=(kd=true/\t=(1,1,1,1)/\d=2)\/(kd=false/\t=(d,d+1,2,2)/\2<=d/\d<=4)
theorem zOL{leaf:Nat->Nat->Nat->Bool}{K:Nat}{kd:Bool}{t:Ty}{d:Nat}(ht:SpT kd t d):∀(m s P f:Nat) (S:St),zFd leaf K kd m s P f S=true->∀du dv:List (Nat×Bool),du.length=s->du.length+1+dv.length=m->(∀x∈du,2<=x.1/\x.1<=4)->(∀x∈dv,2<=x.1/\x.1<=4) ->
  P*(pdN du*(d*pdN dv))<=512->f+(flN du+flN dv)<=K->leaf (P*(pdN du*(d*pdN dv))) (f+(flN du+flN dv)) (smS (zPC (du.map tyN++t::dv.map tyN) S))=true
 |0,s,P,f,S,h,du,dv,hs,hm,_,_,_,_=>by omega
 |m+1,0,P,f,S,h,du,dv,hs,hm,_,hv,hP,hf=>by
  have:du=[]:=List.length_eq_zero_iff.1 hs;subst this;have JB:=zCy hv;have e0:P*(pdN []*(d*pdN dv))=Nat.mul P d*pdN dv:=by show P*(1*(d*pdN dv))=P*d*pdN dv;rw[Nat.one_mul,Nat.mul_assoc]
  have e1:f+(flN []+flN dv)=f+flN dv:=by show f+(0+flN dv)=_;omega
  rw[e0] at hP ⊢;rw[e1] at hf ⊢;have JA:Nat.mul P d<=512:=Nat.le_trans (Nat.le_mul_of_pos_right _ JB) hP;have go:chk leaf K m (Nat.mul P d) f (stp t.1 t.2.1 t.2.2.1 t.2.2.2 S)=true->leaf (Nat.mul P d*pdN dv) (f+flN dv) (smS (zPC (([]:List (Nat×Bool)).map tyN++t::dv.map tyN) S))=true:=fun hc=>zOK m _ f _ hc dv (by simp at hm;omega) hv hP hf;refine go ?_;unfold zFd at h;rcases ht with⟨rfl,rfl,rfl⟩|⟨rfl,rfl,h2,h4⟩
  ·exact zCf h (zBS JA)
  ·simp only[cond_false] at h;obtain⟨h1,h⟩:=zd h;obtain⟨h3,h5⟩:=zd h;rcases(show d=2\/d=3\/d=4 by omega) with rfl|rfl|rfl
   ·exact h1
   ·exact zCf h3 (zBS JA)
   ·exact zCf h5 (zBS JA)
 |m+1,s+1,P,f,S,h,[],dv,hs,hm,_,_,_,_=>by simp at hs
 |m+1,s+1,P,f,S,h,(d0,u)::r,dv,hs,hm,hd,hv,hP,hf=>by
  unfold zFd at h;obtain⟨h1,h⟩:=zd h;obtain⟨h2,h⟩:=zd h;obtain⟨h3,h⟩:=zd h;obtain⟨h4,h⟩:=zd h;obtain⟨h5,h6⟩:=zd h;have JE:=hd (d0,u) (by simp);have JD:∀x∈r,2<=x.1/\x.1<=4:=fun x hx=>hd x (by simp[hx]);have JG:2<=d:=by rcases ht with⟨_,_,rfl⟩|⟨_,_,h,_⟩<;>omega
  have JB:1<=pdN r*(d*pdN dv):=Nat.mul_pos (zCy JD) (Nat.mul_pos (by omega) (zCy hv));have e0:P*(pdN ((d0,u)::r)*(d*pdN dv))=Nat.mul P d0*(pdN r*(d*pdN dv)):=by show P*(d0*pdN r*(d*pdN dv))=P*d0*(pdN r*(d*pdN dv));rw[Nat.mul_assoc d0,Nat.mul_assoc P]
  rw[e0] at hP ⊢;have JA:Nat.mul P d0<=512:=Nat.le_trans (Nat.le_mul_of_pos_right _ JB) hP;have go:∀(f':Nat),f'+(flN r+flN dv)<=K->zFd leaf K kd m s (Nat.mul P d0) f' (stp (d0-1) d0 (bif u then 2 else 1) 1 S)=true->leaf (Nat.mul P d0*(pdN r*(d*pdN dv))) (f'+(flN r+flN dv)) (smS (zPC (((d0,u)::r).map tyN++t::dv.map tyN) S))=true:=fun f' JF hc =>
   zOL ht m s _ f' _ hc r dv (by simpa using hs) (by simp at hm ⊢;omega) JD hv hP JF
  rw[zKL] at hf ⊢;cases u with
  |false =>
   simp only[cond_false,Nat.zero_add] at hf ⊢;refine go f hf ?_;rcases(show d0=2\/d0=3\/d0=4 by simp only at JE;omega) with rfl|rfl|rfl
   ·exact h1
   ·exact zCf h3 (zBS JA)
   ·exact zCf h5 (zBS JA)
  |true =>
   simp only[cond_true] at hf ⊢;have JC:Nat.ble K f=false:=zWd (by omega);rw[show f+(1+flN r+flN dv)=Nat.succ f+(flN r+flN dv) by omega] at hf ⊢;refine go (Nat.succ f) hf ?_;rcases(show d0=2\/d0=3\/d0=4 by simp only at JE;omega) with rfl|rfl|rfl
   ·exact zLV h2 JC
   ·exact zLV (zCf h4 (zBS JA)) JC
   ·exact zLV (zCf h6 (zBS JA)) JC
def smP:List (Nat×List Cd)->List Ty->Nat
 |[],_=>0
 |(p,b)::l,ts=>p*szB b ts+smP l ts
def stP:List (Nat×List Cd)->St
 |[]=>.nil
 |(p,b)::l=>.cons p (k4 b) (stP l)
def zKz(t:Ty)(l:List (Nat×List Cd)):List (Nat×List Cd):=l.map fun x=>match x.2 with|c::b=>(x.1*szC t c,b)|[]=>x
theorem zR0(t:Ty):∀l:List (Nat×List Cd),stp t.1 t.2.1 t.2.2.1 t.2.2.2 (stP l)=stP (zKz t l)
 |[]=>rfl
 |(p,[])::l=>by show St.cons p .nil (stp t.1 t.2.1 t.2.2.1 t.2.2.2 (stP l))=_;rw[zR0 t l];rfl
 |(p,c::b)::l=>by
  have ih:=zR0 t l;have e:stP (zKz t ((p,c::b)::l))=St.cons (p*szC t c) (k4 b) (stP (zKz t l)):=rfl;rw[e,<-ih];cases c with
  |O=>rfl
  |A j=>rfl
  |R=>rfl
  |I j=>rfl
theorem zUq:∀l:List (Nat×List Cd),(∀x∈l,x.2=[])->smS (stP l)=smP l []
 |[],_=>rfl
 |(p,b)::l,h=>by have hb:b=[]:=h (p,b) (by simp);subst hb;show Nat.add p (smS (stP l))=p*1+smP l [];rw[zUq l fun x hx=>h x (by simp[hx]),Nat.mul_one];rfl
theorem zJd(t:Ty)(ts:List Ty):∀l:List (Nat×List Cd),(∀x∈l,x.2.length=ts.length+1)->smP (zKz t l) ts=smP l (t::ts)
 |[],_=>rfl
 |(p,[])::l,h=>by have:=h (p,[]) (by simp);simp at this
 |(p,c::b)::l,h=>by show p*szC t c*szB b ts+smP (zKz t l) ts=p*(szC t c*szB b ts)+smP l (t::ts);rw[zJd t ts l fun x hx=>h x (by simp[hx]),Nat.mul_assoc]
theorem zQs:∀(ts:List Ty) (l:List (Nat×List Cd)),(∀x∈l,x.2.length=ts.length)->smS (zPC ts (stP l))=smP l ts
 |[],l,h=>zUq l fun x hx=>List.length_eq_zero_iff.1 (h x hx)
 |t::ts,l,h=>by
  show smS (zPC ts (stp t.1 t.2.1 t.2.2.1 t.2.2.2 (stP l)))=_;have JA:∀x∈zKz t l,x.2.length=ts.length:=fun x hx=>by
   obtain⟨y,hy,rfl⟩:=List.mem_map.1 hx;have:=h y hy;obtain⟨p,b⟩:=y;cases b with
   |nil=>simp at this
   |cons c b=>simpa using this
  rw[zR0,zQs ts _ JA,zJd t ts l h]
theorem zML{bs:List (List Cd)}{ts:List Ty}(h:∀b∈bs,b.length=ts.length):smS (zPC ts (st0 bs))=Bf bs ts:=by
 have e1:∀bs:List (List Cd),st0 bs=stP (bs.map fun b=>(1,b)):=by
  intro bs
  induction bs with
  |nil=>rfl
  |cons b l ih=>show St.cons 1 (k4 b) (st0 l)=_;rw[ih];rfl
 have e2:∀bs:List (List Cd),smP (bs.map fun b=>(1,b)) ts=Bf bs ts:=by
  intro bs
  induction bs with
  |nil=>rfl
  |cons b l ih =>show 1*szB b ts+smP (l.map fun b=>(1,b)) ts=szB b ts+Bf l ts;rw[ih,Nat.one_mul]
 rw[e1,zQs ts _ (fun x hx=>by obtain⟨b,hb,rfl⟩:=List.mem_map.1 hx;exact h b hb),e2]
structure Gr(n:Nat)(d:Nat->Nat)(ι:List Nat)(q:List (Nat×Nat))(w:Nat->Nat->Int):Prop where
 nd:ι.Nodup
 lt:∀v∈ι,v<n
 pr:∀e∈q,e.1≠e.2/\e.1<ι.length/\e.2<ι.length
 rng:∀(j:Nat) (e:Nat×Nat),q[j]? = some e->(0<=w j e.1/\w j e.1<d (ι.getD e.1 0))/\(0<=w j e.2/\w j e.2<d (ι.getD e.2 0))
def zIN(n:Nat)(ι:List Nat)(F:Nat->Bool):Nat:=((List.range n).filter fun v=>!ι.contains v&&F v).length
def zBe(d:Nat->Nat)(F:Nat->Bool)(ι:List Nat):List (Nat×Bool):=ι.map fun v=>(d v,F v)
theorem zJn{Os:Nat->List Int}{F:Nat->Bool}:∀l:List Nat,(∀v∈l,(Os v).length<=bif F v then 2 else 1)->(zOO (l.map Os)).length<=2^(l.filter F).length
 |[],_=>Nat.le_refl _
 |v::l,h=>by
  have ih:=zJn l fun u hu=>h u (by simp[hu]);have h0:=h v (by simp);rw[zG3] at ih ⊢;show(Os v).length*zt ((l.map Os).map List.length)<=_;cases hF:F v with
  |false =>rw[hF] at h0;rw[List.filter_cons_of_neg (by simp[hF])];simp only[cond_false] at h0;exact Nat.le_trans (Nat.mul_le_mul h0 ih) (by rw[Nat.one_mul];exact Nat.le_refl _)
  |true =>rw[hF] at h0;rw[List.filter_cons_of_pos hF,List.length_cons,Nat.pow_succ,Nat.mul_comm];simp only[cond_true] at h0;exact Nat.mul_le_mul ih h0
theorem cls{β:Type}{hb:Bool}{n:Nat}{val:β->Nat->Int}{d:Nat->Nat}{ι:List Nat}{q:List (Nat×Nat)}{w:Nat->Nat->Int}(hG:Gr n d ι q w){F:Nat->Bool}{Os:Nat->List Int}{sp:Nat->Bool}{ts:List Ty}(JS:ts.length=ι.length)
  (hT:∀(i:Nat) (t:Ty),ts[i]? = some t->TyOk w (fun i=>d (ι.getD i 0)) (fun i=>Os (ι.getD i 0)) (fun i=>sp (ι.getD i 0)) i t)
  (hO:∀v,v<n->v∉ι->(Os v).length<=bif F v then 2 else 1)
  {Z:List β} (JW:Z.Nodup) (JH:∀a∈Z,∀b∈Z,(∀v,v<n->val a v=val b v)->a=b)
  (hZ:∀z∈Z,(∃g∈chs q,(∀(j i:Nat),g[j]? = some i->val z (ι.getD i 0)≠w j i/\0<=val z (ι.getD i 0)/\val z (ι.getD i 0)<d (ι.getD i 0))/\∀v,v<n->(∀i∈g,ι.getD i 0≠v)->val z v∈Os v)/\∀v,v<n->sp v=true->val z v∈Os v) :
  Z.length<=2^zIN n ι F*Bf (zAN hb ι.length q) ts:=by
 obtain⟨rest,JA⟩:∃rest,rest=(List.range n).filter fun v=>!ι.contains v:=⟨_,rfl⟩;have JF:∀v,v∈rest<->v<n/\v∉ι:=fun v=>by rw[JA,List.mem_filter,List.mem_range];simp
 obtain⟨fam,JE⟩:∃fam,fam=famB w (fun i=>d (ι.getD i 0)) (fun i=>Os (ι.getD i 0)) (fun i=>sp (ι.getD i 0)) (zAN hb ι.length q):=⟨_,rfl⟩;have JR:∀b∈zAN hb ι.length q,b.length=ι.length/\∀(i j:Nat),b[i]? = some (Cd.A j)->∃e,q[j]? = some e/\(i=e.1\/i=e.2):=fun b JB=>zOX hG.pr JB;have Jb:fam.length<=Bf (zAN hb ι.length q) ts:=by
  rw[JE];refine zKO JS hT _ (fun b JB=>(JR b JB).1) fun b JB i j JY=>?_;obtain⟨e,he,JU⟩:=(JR b JB).2 i j JY;have:=hG.rng j e he;rcases JU with rfl|rfl
  ·exact this.1
  ·exact this.2
 have JI:∀i,i<ι.length->ι.getD i 0∈ι:=fun i hi=>by rw[List.getD,List.getElem?_eq_getElem hi];exact List.getElem_mem hi
 have Ja:∀i j,i<ι.length->j<ι.length->ι.getD i 0=ι.getD j 0->i=j:=fun i j hi hj e=>by rw[List.getD,List.getD,List.getElem?_eq_getElem hi,List.getElem?_eq_getElem hj] at e;exact(List.getElem_inj hG.nd).1 (by simpa using e)
 have key:∀z∈Z,(List.range ι.length).map (fun i=>val z (ι.getD i 0))++rest.map (val z)∈fam.flatMap fun a=>(zOO (rest.map Os)).map fun r=>a++r:=fun z hz=>by
  obtain⟨⟨g,hg,JZ,JP⟩,hs⟩:=hZ z hz;have JO:∀i∈g,i<ι.length:=fun i hi=>by
   obtain⟨j,hj,e⟩:=List.getElem_of_mem hi;have JX:j<q.length:=by rw[<-zOI hg];exact hj
   obtain⟨e',JQ⟩:∃e',q[j]? = some e':=⟨_,List.getElem?_eq_getElem JX⟩;have:=hG.pr e' (List.mem_of_getElem? JQ);rcases zOJ hg JQ with h|h<;>rw[List.getElem?_eq_getElem hj,e] at h<;>cases h
   ·exact this.2.1
   ·exact this.2.2
  obtain⟨b,JB,Jc,JK⟩:=zTr (hb:=hb) (Os:=fun i=>Os (ι.getD i 0)) (z:=fun i=>val z (ι.getD i 0)) hG.pr hg JZ (fun i hi JV=>JP _ (hG.lt _ (JI i hi)) fun i' JN e=>JV (by rw[<-Ja i' i (JO i' JN) hi e];exact JN));refine List.mem_flatMap.2 ⟨_,?_,List.mem_map.2 ⟨rest.map (val z),?_,rfl⟩⟩
  ·rw[JE];exact zQD JB Jc JK fun i hi JT=>hs _ (hG.lt _ (JI i hi)) JT
  ·refine zG2 _ _ (by simp) fun k v l h1 h2=>?_;rw[List.getElem?_map] at h1 h2;cases hr:rest[k]? with
   |none=>rw[hr] at h1;cases h1
   |some u =>rw[hr] at h1 h2;simp at h1 h2;subst h1 h2;have hu:=(JF u).1 (List.mem_of_getElem? hr);exact JP u hu.1 fun i hi e=>hu.2 (by rw[<-e];exact JI i (JO i hi))
 have JD:(Z.map fun z=>(List.range ι.length).map (fun i=>val z (ι.getD i 0))++rest.map (val z)).Nodup:=by
  refine List.pairwise_map.2 (List.Pairwise.imp_of_mem ?_ JW);intro a b ha hb Jd e;refine Jd (JH a ha b hb fun v hv=>?_);have e1:=List.append_inj e (by simp);by_cases JL:v∈ι
  ·obtain⟨i,hi,rfl⟩:=List.getElem_of_mem JL;have:=congrArg (fun l=>l[i]?) e1.1;simp[hi] at this;exact this
  ·obtain⟨k,hk,rfl⟩:=List.getElem_of_mem ((JF v).2 ⟨hv,JL⟩);have:=congrArg (fun l=>l[k]?) e1.2;simp[hk] at this;exact this
 have JC:=JD.length_le_of_subset (l₂:=fam.flatMap fun a=>(zOO (rest.map Os)).map fun r=>a++r) fun x hx=>by obtain⟨z,hz,rfl⟩:=List.mem_map.1 hx;exact key z hz
 rw[List.length_map,List.length_flatMap,zEb (zOO (rest.map Os)).length _ fam (by simp)] at JC;have JM:=zJn (Os:=Os) (F:=F) rest fun v hv=>hO v ((JF v).1 hv).1 ((JF v).1 hv).2;have JG:(rest.filter F).length=zIN n ι F:=by unfold zIN;rw[JA,List.filter_filter];congr 1;apply List.filter_congr;intro v _;rw[Bool.and_comm]
 rw[JG] at JM;refine Nat.le_trans JC ?_;rw[Nat.mul_comm];exact Nat.mul_le_mul JM Jb
def zLO(P f B:Nat):Bool:=bif ok1 6 1024 f (Nat.div 512 P) B then bif ok1 5 688 f (Nat.div 512 P) B then bif ok1 4 336 f (Nat.div 512 P) B then bif ok1 3 240 f (Nat.div 512 P) B then bif ok1 2 120 f (Nat.div 512 P) B then
 bif Nat.ble P 256 then ok1 5 512 f (Nat.div 256 P) B else true else false else false else false else false else false
def zNJ(P f B:Nat):Bool:=bif ok1 5 192 f (Nat.div 512 P) B then bif ok1 4 96 f (Nat.div 512 P) B then bif ok1 3 48 f (Nat.div 512 P) B then ok1 2 24 f (Nat.div 512 P) B else false else false else false
def zD5(P f B:Nat):Bool:=bif ok1 4 672 f (Nat.div 512 P) B then ok1 3 496 f (Nat.div 512 P) B else false
def zPq(P f B:Nat):Bool:=ok1 5 1024 f (Nat.div 512 P) B
def all1(hb:Bool)(leaf:Nat->Nat->Nat->Bool)(K c:Nat):Bool:=(zCi c).all fun p=>chk leaf K p.1 1 0 (st0 (zAN hb p.1 p.2))
def allS(hb:Bool)(leaf:Nat->Nat->Nat->Bool)(K:Nat)(kd:Bool)(c:Nat):Bool:=(zCi c).all fun p=>(List.range p.1).all fun s=>zFd leaf K kd p.1 s 1 0 (st0 (zAN hb p.1 p.2))
theorem zLF{a b:List Nat}(h:a.Perm b):zt a=zt b:=by
 induction h with
 |nil=>rfl
 |cons x _ ih=>show x*_=x*_;rw[ih]
 |swap x y l=>show y*(x*_)=x*(y*_);rw[Nat.mul_left_comm]
 |trans _ _ h1 h2=>exact h1.trans h2
theorem zEo:∀a b:List Nat,zt (a++b)=zt a*zt b
 |[],b=>by show zt b=1*zt b;rw[Nat.one_mul]
 |x::a,b=>by show x*zt (a++b)=x*zt a*zt b;rw[zEo a b,Nat.mul_assoc]
theorem zHi:∀a:List Nat,(∀x∈a,2<=x)->2^a.length<=zt a
 |[],_=>Nat.le_refl _
 |x::a,h=>by have:=zHi a fun y hy=>h y (by simp[hy]);show 2^(a.length+1)<=x*zt a;rw[Nat.pow_succ,Nat.mul_comm];exact Nat.mul_le_mul (h x (by simp)) this
theorem zMZ{n:Nat}{ι:List Nat}(nd:ι.Nodup)(lt:∀v∈ι,v<n):(ι++(List.range n).filter fun v=>!ι.contains v).Perm (List.range n):=by
 refine(List.perm_ext_iff_of_nodup (List.nodup_append.2 ⟨nd,List.nodup_range.filter _,fun a ha b hb e=>?_⟩) List.nodup_range).2 fun v=>?_
 ·subst e;have:=(List.mem_filter.1 hb).2;simp[ha] at this
 ·rw[List.mem_append,List.mem_filter,List.mem_range];constructor
  ·rintro (h|h)
   ·exact lt v h
   ·exact h.1
  ·intro h;by_cases hv:v∈ι
   ·exact .inl hv
   ·exact .inr ⟨h,by simpa using hv⟩
structure Dm(n:Nat)(d:Nat->Nat)(F:Nat->Bool)(k:Nat):Prop where
 d2:∀v,v<n->2<=d v/\d v<=4
 P:zt ((List.range n).map d)<=512
 k:((List.range n).filter F).length<=k
theorem zEr{d:Nat->Nat}{F:Nat->Bool}(ι:List Nat):pdN (zBe d F ι)=zt (ι.map d):=by
 unfold pdN zBe;rw[List.map_map];rfl
theorem zGs{d:Nat->Nat}{F:Nat->Bool}(ι:List Nat):flN (zBe d F ι)=(ι.filter F).length:=by
 unfold flN zBe;rw[List.filter_map,List.length_map];rfl
theorem zRU{n:Nat}{d:Nat->Nat}{F:Nat->Bool}{k:Nat}{ι:List Nat}(h:Dm n d F k)(nd:ι.Nodup)(lt:∀v∈ι,v<n) :
  (ι.filter F).length+zIN n ι F<=k/\zt (ι.map d)*2^zIN n ι F<=512/\∀s,s<n->s∉ι->F s=false->zt (ι.map d)*2^(zIN n ι F+1)<=512:=by
 have hp:=zMZ nd lt;have JA:(((List.range n).filter fun v=>!ι.contains v).filter F).length=zIN n ι F:=by unfold zIN;rw[List.filter_filter];congr 1;apply List.filter_congr;intro v _;rw[Bool.and_comm]
 have h1:(ι.filter F).length+zIN n ι F=((List.range n).filter F).length:=by rw[<-(hp.filter F).length_eq,List.filter_append,List.length_append,JA]
 have h2:zt (ι.map d)*zt (((List.range n).filter fun v=>!ι.contains v).map d)<=512:=by rw[<-zEo,<-List.map_append,zLF (hp.map d)];exact h.P
 have h3:2^((List.range n).filter fun v=>!ι.contains v).length<=zt (((List.range n).filter fun v=>!ι.contains v).map d):=by
  have:=zHi (((List.range n).filter fun v=>!ι.contains v).map d) fun x hx=>by obtain⟨v,hv,rfl⟩:=List.mem_map.1 hx;exact(h.d2 v (List.mem_range.1 (List.mem_filter.1 hv).1)).1
  rwa[List.length_map] at this
 have h4:zt (ι.map d)*2^((List.range n).filter fun v=>!ι.contains v).length<=512:=Nat.le_trans (Nat.mul_le_mul_left _ h3) h2;refine⟨by rw[h1];exact h.k,Nat.le_trans (Nat.mul_le_mul_left _ (Nat.pow_le_pow_right (by omega) ?_)) h4,fun s hs JC hF=>Nat.le_trans (Nat.mul_le_mul_left _ (Nat.pow_le_pow_right (by omega) ?_)) h4⟩
 ·rw[<-JA];exact List.length_filter_le _ _
 ·rw[<-JA];have JB:s∈(List.range n).filter fun v=>!ι.contains v:=List.mem_filter.2 ⟨List.mem_range.2 hs,by simpa using JC⟩;have:((((List.range n).filter fun v=>!ι.contains v)).filter F).length<((List.range n).filter fun v=>!ι.contains v).length:=by
   rcases Nat.lt_or_eq_of_le (List.length_filter_le F ((List.range n).filter fun v=>!ι.contains v)) with h|h
   ·exact h
   ·have:=List.filter_eq_self.1 (List.filter_sublist.eq_of_length h) s JB;rw[hF] at this;cases this
  omega
theorem lg_le{j Q:Nat}(h:2^j<=Q)(hj:j<=6):j<=lg Q:=by
 unfold lg;have hc:∀(b:Nat) (x y:Nat),(bif Nat.ble Q b then x else y)=if Q<=b then x else y:=fun b x y=>by
  cases hq:Nat.ble Q b with
  |true=>rw[if_pos (Nat.le_of_ble_eq_true hq)];rfl
  |false=>rw[if_neg (fun hn=>by rw[zBS hn] at hq;cases hq)];rfl
 simp only[hc];rcases(show j=0\/j=1\/j=2\/j=3\/j=4\/j=5\/j=6 by omega) with rfl|rfl|rfl|rfl|rfl|rfl|rfl<;>simp only[Nat.reducePow] at h<;>repeat (first|omega|split)
theorem le_mn{j a b:Nat}(h1:j<=a)(h2:j<=b):j<=mn a b:=by
 unfold mn;cases Nat.ble a b<;>assumption
theorem zBu{k G f Q B j:Nat}(h:ok1 k G f Q B=true)(hk:f+j<=k)(hQ:2^j<=Q)(h6:j<=6):2^j*B<=G:=by
 unfold ok1 at h;have h1:=zCf h (zBS (show f<=k by omega));have h2:=Nat.le_of_ble_eq_true h1;exact Nat.le_trans (Nat.mul_le_mul_right _ (Nat.pow_le_pow_right (by omega) (le_mn (by show j<=k-f;omega) (lg_le hQ h6)))) h2
theorem zGm{P j N:Nat}(hP:0<P)(h:P*2^j<=N):2^j<=Nat.div N P:=(Nat.le_div_iff_mul_le hP).2 (by rw[Nat.mul_comm];exact h)
theorem zOH{β:Type}{c n K:Nat}{leaf:Nat->Nat->Nat->Bool}(hall:∀p∈zCi c,chk leaf K p.1 1 0 (st0 (zAN true p.1 p.2))=true){val:β->Nat->Int}{d:Nat->Nat}{ι:List Nat}{q:List (Nat×Nat)}{w:Nat->Nat->Int}(hG:Gr n d ι q w)(hp:(ι.length,q)∈zCi c){F:Nat->Bool}{k:Nat}(hD:Dm n d F k)(JH:k<=K)
  {Os:Nat->List Int} (hO:∀v,v<n->(Os v).length<=bif F v then 2 else 1)
  {Z:List β} (JG:Z.Nodup) (JB:∀a∈Z,∀b∈Z,(∀v,v<n->val a v=val b v)->a=b)
  (hZ:∀z∈Z,∃g∈chs q,(∀(j i:Nat),g[j]? = some i->val z (ι.getD i 0)≠w j i/\0<=val z (ι.getD i 0)/\val z (ι.getD i 0)<d (ι.getD i 0))/\∀v,v<n->(∀i∈g,ι.getD i 0≠v)->val z v∈Os v) :
  ∃P f B j,leaf P f B=true/\0<P/\Z.length<=2^j*B/\f+j<=k/\P*2^j<=512/\∀s,s<n->s∉ι->F s=false->P*2^(j+1)<=512:=by
 have h1:=cls (hb:=true) hG (F:=F) (Os:=Os) (sp:=fun _=>false) (ts:=(zBe d F ι).map tyN) (by simp[zBe]) (fun i t ht=>by
  unfold zBe at ht;rw[List.map_map,List.getElem?_map] at ht;cases hi:ι[i]? with
  |none=>rw[hi] at ht;cases ht
  |some v =>
   rw[hi] at ht;have ht:t=tyN (d v,F v):=by simpa using ht.symm
   have hv:ι.getD i 0=v:=by rw[List.getD,hi];rfl
   have JE:=hG.lt v (List.mem_of_getElem? hi);subst ht;refine⟨?_,fun h=>(by cases h),fun _=>?_,fun _=>?_,fun _=>Nat.le_refl _⟩
   ·show(Os (ι.getD i 0)).length<=_;rw[hv];exact hO v JE
   ·show d (ι.getD i 0)-1<=_;rw[hv];exact Nat.le_refl _
   ·show d (ι.getD i 0)<=_;rw[hv];exact Nat.le_refl _) (fun v hv _=>hO v hv) JG JB (fun z hz=>⟨hZ z hz,fun v _ h=>by cases h⟩)
 obtain⟨o1,o2,o3⟩:=zRU hD hG.nd hG.lt;have JD:∀x∈zBe d F ι,2<=x.1/\x.1<=4:=fun x hx=>by obtain⟨v,hv,rfl⟩:=List.mem_map.1 hx;exact hD.d2 v (hG.lt v hv)
 have JA:=zCy JD;have JC:=hall _ hp;have JF:pdN (zBe d F ι)<=512:=by rw[zEr];exact Nat.le_trans (Nat.le_mul_of_pos_right _ (Nat.pow_pos (by omega))) o2
 have h2:=zOK ι.length 1 0 _ JC (zBe d F ι) (by simp[zBe]) JD (by rw[Nat.one_mul];exact JF) (by rw[Nat.zero_add,zGs];omega);rw[Nat.one_mul,Nat.zero_add,zML (fun b hb=>by rw[(zOX hG.pr hb).1];simp[zBe])] at h2;refine⟨_,_,_,zIN n ι F,h2,JA,h1,by rw[zGs];exact o1,by rw[zEr];exact o2,by rw[zEr];exact o3⟩
theorem zUc{d:Nat->Nat}{F:Nat->Bool}{ι:List Nat}{s0:Nat}{t:Ty}(hs:s0<ι.length):∀(i:Nat) (u:Ty),((zBe d F (ι.take s0)).map tyN++t::(zBe d F (ι.drop (s0+1))).map tyN)[i]? = some u->(i=s0/\u=t)\/(i≠s0/\∃v,ι[i]? = some v/\u=tyN (d v,F v)):=fun i u h=>by
 have hl:((zBe d F (ι.take s0)).map tyN).length=s0:=by simp[zBe];omega
 rcases Nat.lt_trichotomy i s0 with hi|hi|hi
 ·rw[List.getElem?_append_left (by omega)] at h;unfold zBe at h;rw[List.map_map,List.getElem?_map,List.getElem?_take_of_lt hi] at h;cases hq:ι[i]? with
  |none=>rw[hq] at h;cases h
  |some v=>rw[hq] at h;exact .inr ⟨by omega,v,rfl,by simpa using h.symm⟩
 ·rw[List.getElem?_append_right (by omega),hl,hi,Nat.sub_self] at h;exact .inl ⟨hi,by simpa using h.symm⟩
 ·rw[List.getElem?_append_right (by omega),hl] at h;obtain⟨k,hk⟩:∃k,i-s0=k+1:=⟨i-s0-1,by omega⟩;rw[hk,List.getElem?_cons_succ] at h;unfold zBe at h;rw[List.map_map,List.getElem?_map,List.getElem?_drop,show s0+1+k=i by omega] at h;cases hq:ι[i]? with
  |none=>rw[hq] at h;cases h
  |some v=>rw[hq] at h;exact .inr ⟨by omega,v,rfl,by simpa using h.symm⟩
theorem zH9{β:Type}{hb:Bool}{n:Nat}{val:β->Nat->Int}{d:Nat->Nat}{ι:List Nat}{q:List (Nat×Nat)}{w:Nat->Nat->Int}(hG:Gr n d ι q w){F:Nat->Bool}{s0:Nat}(JB:s0<ι.length){t:Ty}{sp:Bool}
  {Os:Nat->List Int} (hO:∀v,v<n->v≠ι.getD s0 0->(Os v).length<=bif F v then 2 else 1)
  (ht:(Os (ι.getD s0 0)).length<=t.2.2.1/\(sp=true->(Os (ι.getD s0 0)).length<=t.1/\(Os (ι.getD s0 0)).length<=t.2.1/\(Os (ι.getD s0 0)).length<=t.2.2.2)/\(sp=false->d (ι.getD s0 0)-1<=t.1/\d (ι.getD s0 0)<=t.2.1/\1<=t.2.2.2))
  {Z:List β} (JH:Z.Nodup) (JC:∀a∈Z,∀b∈Z,(∀v,v<n->val a v=val b v)->a=b)
  (hZ:∀z∈Z,(∃g∈chs q,(∀(j i:Nat),g[j]? = some i->val z (ι.getD i 0)≠w j i/\0<=val z (ι.getD i 0)/\val z (ι.getD i 0)<d (ι.getD i 0))/\∀v,v<n->(∀i∈g,ι.getD i 0≠v)->val z v∈Os v)/\(sp=true->val z (ι.getD s0 0)∈Os (ι.getD s0 0))) :
  Z.length<=2^zIN n ι F*Bf (zAN hb ι.length q) ((zBe d F (ι.take s0)).map tyN++t::(zBe d F (ι.drop (s0+1))).map tyN):=by
 have JK:∀i,i<ι.length->ι.getD i 0=ι.getD s0 0->i=s0:=fun i hi e=>by rw[List.getD,List.getD,List.getElem?_eq_getElem hi,List.getElem?_eq_getElem JB] at e;exact(List.getElem_inj hG.nd).1 (by simpa using e)
 refine cls hG (F:=F) (Os:=Os) (sp:=fun v=>sp&&decide (v=ι.getD s0 0)) (by simp[zBe];omega) (fun i u hu=>?_) (fun v hv JF=>hO v hv fun e=>JF (by rw[e,List.getD,List.getElem?_eq_getElem JB];exact List.getElem_mem JB)) JH JC (fun z hz=>⟨(hZ z hz).1,fun v _ h=>?_⟩)
 ·rcases zUc JB i u hu with⟨rfl,rfl⟩|⟨JG,v,hv,rfl⟩
  ·refine⟨ht.1,fun h=>?_,fun h=>?_,fun h=>?_,fun h=>?_⟩
   ·simp at h;exact ht.2.1 h
   ·simp at h;exact(ht.2.2 h).1
   ·simp at h;exact(ht.2.2 h).2.1
   ·simp at h;exact(ht.2.2 h).2.2
  ·have JA:ι.getD i 0=v:=by rw[List.getD,hv];rfl
   have JE:=hG.lt v (List.mem_of_getElem? hv);have JI:=(List.getElem?_eq_some_iff.1 hv).1;have JD:v≠ι.getD s0 0:=fun e=>JG (JK i JI (by rw[JA];exact e));refine⟨?_,fun h=>?_,fun _=>?_,fun _=>?_,fun _=>Nat.le_refl _⟩
   ·show(Os (ι.getD i 0)).length<=_;rw[JA];exact hO v JE JD
   ·simp only[JA,Bool.and_eq_true,decide_eq_true_eq] at h;exact absurd h.2 JD
   ·show d (ι.getD i 0)-1<=_;rw[JA];exact Nat.le_refl _
   ·show d (ι.getD i 0)<=_;rw[JA];exact Nat.le_refl _
 ·simp only[Bool.and_eq_true,decide_eq_true_eq] at h;rw[h.2];exact(hZ z hz).2 h.1
theorem zPV{d:Nat->Nat}{ι:List Nat}{s0:Nat}(hs:s0<ι.length):zt (ι.map d)=zt ((ι.take s0).map d)*(d (ι.getD s0 0)*zt ((ι.drop (s0+1)).map d)):=by
 have e:ι=ι.take s0++ι.getD s0 0::ι.drop (s0+1):=by rw[List.getD,List.getElem?_eq_getElem hs,Option.getD_some,<-List.drop_eq_getElem_cons hs,List.take_append_drop]
 have h2:zt ((ι.take s0++ι.getD s0 0::ι.drop (s0+1)).map d)=zt ((ι.take s0).map d)*(d (ι.getD s0 0)*zt ((ι.drop (s0+1)).map d)):=by rw[List.map_append,zEo];rfl
 rw[<-h2,<-e]
theorem zNp{F:Nat->Bool}{ι:List Nat}{s0:Nat}(hs:s0<ι.length)(hF:F (ι.getD s0 0)=false):(ι.filter F).length=((ι.take s0).filter F).length+((ι.drop (s0+1)).filter F).length:=by
 have e:ι=ι.take s0++ι.getD s0 0::ι.drop (s0+1):=by rw[List.getD,List.getElem?_eq_getElem hs,Option.getD_some,<-List.drop_eq_getElem_cons hs,List.take_append_drop]
 have h2:((ι.take s0++ι.getD s0 0::ι.drop (s0+1)).filter F).length=((ι.take s0).filter F).length+((ι.drop (s0+1)).filter F).length:=by rw[List.filter_append,List.filter_cons_of_neg (by rw[hF];simp),List.length_append]
 rw[<-h2,<-e]
theorem zEW{hb:Bool}{c n K k:Nat}{kd:Bool}{leaf:Nat->Nat->Nat->Bool}(hall:∀p∈zCi c,∀s,s<p.1->zFd leaf K kd p.1 s 1 0 (st0 (zAN hb p.1 p.2))=true){d:Nat->Nat}{ι:List Nat}{q:List (Nat×Nat)}{w:Nat->Nat->Int}(hG:Gr n d ι q w)(hp:(ι.length,q)∈zCi c){F:Nat->Bool}(hD:Dm n d F k)(JK:k<=K){s0:Nat}(JC:s0<ι.length)(hF:F (ι.getD s0 0)=false){t:Ty}{ds:Nat}(ht:SpT kd t ds)(JI:ds<=d (ι.getD s0 0)) :
  ∃P f,leaf P f (Bf (zAN hb ι.length q) ((zBe d F (ι.take s0)).map tyN++t::(zBe d F (ι.drop (s0+1))).map tyN))=true/\0<P/\f+zIN n ι F<=k/\P*2^zIN n ι F<=512:=by
 obtain⟨o1,o2,_⟩:=zRU hD hG.nd hG.lt;have JA:∀(l:List Nat),(∀v∈l,v∈ι)->∀x∈zBe d F l,2<=x.1/\x.1<=4:=fun l hl x hx=>by obtain⟨v,hv,rfl⟩:=List.mem_map.1 hx;exact hD.d2 v (hG.lt v (hl v hv))
 have hu:=JA (ι.take s0) fun v hv=>List.mem_of_mem_take hv;have hv:=JA (ι.drop (s0+1)) fun v hv=>List.mem_of_mem_drop hv;have JH:2<=ds:=by rcases ht with⟨_,_,rfl⟩|⟨_,_,h,_⟩<;>omega
 have JG:pdN (zBe d F (ι.take s0))*(ds*pdN (zBe d F (ι.drop (s0+1))))<=zt (ι.map d):=by rw[zPV JC,zEr,zEr];exact Nat.mul_le_mul_left _ (Nat.mul_le_mul_right _ JI)
 have JD:0<pdN (zBe d F (ι.take s0))*(ds*pdN (zBe d F (ι.drop (s0+1)))):=Nat.mul_pos (zCy hu) (Nat.mul_pos (by omega) (zCy hv));have JB:=Nat.le_trans (Nat.mul_le_mul_right (2^zIN n ι F) JG) o2;have JE:pdN (zBe d F (ι.take s0))*(ds*pdN (zBe d F (ι.drop (s0+1))))<=512:=Nat.le_trans (Nat.le_mul_of_pos_right _ (Nat.pow_pos (by omega))) JB;have JF:flN (zBe d F (ι.take s0))+flN (zBe d F (ι.drop (s0+1)))=(ι.filter F).length:=by rw[zGs,zGs,zNp JC hF]
 have h2:=zOL ht ι.length s0 1 0 _ (hall _ hp s0 JC) (zBe d F (ι.take s0)) (zBe d F (ι.drop (s0+1))) (by simp[zBe];omega) (by simp[zBe];omega) hu hv (by rw[Nat.one_mul];exact JE) (by rw[Nat.zero_add,JF];omega);rw[Nat.one_mul,Nat.zero_add,zML (fun b hb=>by rw[(zOX hG.pr hb).1];simp[zBe];omega),JF] at h2;exact⟨_,_,h2,JD,o1,JB⟩
theorem zMD{t1 t2 t:Ty}(h1:t1.1+t2.1=t.1)(h2:t1.2.1+t2.2.1=t.2.1)(h3:t1.2.2.1+t2.2.2.1=t.2.2.1)(h4:t1.2.2.2+t2.2.2.2=t.2.2.2):∀(us vs:List Ty) (b:List Cd),b.length=us.length+1+vs.length->szB b (us++t1::vs)+szB b (us++t2::vs)=szB b (us++t::vs)
 |[],vs,[],h=>by simp at h;omega
 |[],vs,c::b,h=>by show szC t1 c*szB b vs+szC t2 c*szB b vs=szC t c*szB b vs;rw[<-Nat.add_mul];congr 1;cases c<;>assumption
 |u::us,vs,[],h=>by simp at h;omega
 |u::us,vs,c::b,h=>by show szC u c*szB b (us++t1::vs)+szC u c*szB b (us++t2::vs)=szC u c*szB b (us++t::vs);rw[<-Nat.mul_add,zMD h1 h2 h3 h4 us vs b (by simp at h ⊢;omega)]
theorem zOp{t1 t2 t:Ty}(h1:t1.1+t2.1=t.1)(h2:t1.2.1+t2.2.1=t.2.1)(h3:t1.2.2.1+t2.2.2.1=t.2.2.1)(h4:t1.2.2.2+t2.2.2.2=t.2.2.2)(us vs:List Ty):∀(bs:List (List Cd)),(∀b∈bs,b.length=us.length+1+vs.length)->Bf bs (us++t1::vs)+Bf bs (us++t2::vs)=Bf bs (us++t::vs)
 |[],_=>rfl
 |b::bs,h=>by
  have ih:=zOp h1 h2 h3 h4 us vs bs fun b' JA=>h b' (by simp[JA]);have hb:=zMD h1 h2 h3 h4 us vs b (h b (by simp));unfold Bf at *
  simp only[List.map_cons,List.sum_cons];omega
abbrev E2:=(Nat×Nat)×(Nat×Nat)
structure zT3(n:Nat)(d:Nat->Nat)(e:E2):Prop where
 ne:e.1.1≠e.2.1
 l1:e.1.1<n
 l2:e.2.1<n
 w1:e.1.2<d e.1.1
 w2:e.2.2<d e.2.1
def wE(e:E2)(v:Nat):Int:=if v=e.1.1 then(e.1.2:Nat) else(e.2.2:Nat)
theorem zSp{q:List (Nat×Nat)}:∀{g:List Nat},g.length=q.length->(∀(j i:Nat) (e:Nat×Nat),g[j]? = some i->q[j]? = some e->i=e.1\/i=e.2)->g∈chs q:=by
 induction q with
 |nil=>intro g h _;have:g=[]:=List.length_eq_zero_iff.1 h;subst this;simp[chs]
 |cons e r ih =>
  intro g hl h;cases g with
  |nil=>simp at hl
  |cons i g =>have hg:=ih (g:=g) (by simpa using hl) fun j i' e' h1 h2=>h (j+1) i' e' (by simpa using h1) (by simpa using h2);refine List.mem_flatMap.2 ⟨g,hg,?_⟩;rcases h 0 i e rfl rfl with h1|h1<;>rw[h1]<;>simp
theorem zM4{m:Nat}:(∀i j,i<j->j<m->(m,(i,j))∈zLL m)/\(∀i,i<m->(m+1,(i,m))∈zLL m)/\(m+2,(m,m+1))∈zLL m:=by
 unfold zLL;refine⟨fun i j h1 h2=>?_,fun i h=>?_,by simp⟩
 ·refine List.mem_append_left _ (List.mem_append_left _ (List.mem_flatMap.2 ⟨i,List.mem_range.2 (by omega),List.mem_filterMap.2 ⟨j,List.mem_range.2 h2,?_⟩⟩));rw[if_pos h1]
 ·exact List.mem_append_left _ (List.mem_append_right _ (List.mem_map.2 ⟨i,List.mem_range.2 h,rfl⟩))
structure GrE(n:Nat)(E:List E2)(ι:List Nat)(q:List (Nat×Nat)):Prop where
 nd:ι.Nodup
 lt:∀v∈ι,v<n
 pat:(ι.length,q)∈zCi E.length
 len:q.length=E.length
 pr:∀e∈q,e.1≠e.2/\e.1<ι.length/\e.2<ι.length
 vs:∀(j:Nat) (e:E2) (p:Nat×Nat),E[j]? = some e->q[j]? = some p->(ι.getD p.1 0=e.1.1/\ι.getD p.2 0=e.2.1)\/(ι.getD p.1 0=e.2.1/\ι.getD p.2 0=e.1.1)
 mem:∀v∈ι,∃e∈E,v=e.1.1\/v=e.2.1
theorem zEM{ι ext:List Nat}{i:Nat}(h:i<ι.length):(ι++ext).getD i 0=ι.getD i 0:=by
 rw[List.getD,List.getD,List.getElem?_append_left h]
theorem zE8{n:Nat}{E:List E2}{ι:List Nat}{q:List (Nat×Nat)}(h:GrE n E ι q){e:E2}{ext:List Nat}{p:Nat×Nat}(JD:(ι++ext).Nodup)(JE:∀v∈ext,v<n)(hp:((ι++ext).length,p)∈zLL ι.length)(JC:p.1≠p.2/\p.1<(ι++ext).length/\p.2<(ι++ext).length)
  (hv:((ι++ext).getD p.1 0=e.1.1/\(ι++ext).getD p.2 0=e.2.1)\/((ι++ext).getD p.1 0=e.2.1/\(ι++ext).getD p.2 0=e.1.1)) (hm:∀v∈ext,v=e.1.1\/v=e.2.1):GrE n (E++[e]) (ι++ext) (q++[p]):=by
 refine⟨JD,fun v hv=>?_,?_,by simp[h.len],fun e' JA=>?_,fun j e' p' h1 h2=>?_,fun v hv=>?_⟩
 ·rcases List.mem_append.1 hv with h1|h1
  ·exact h.lt v h1
  ·exact JE v h1
 ·have e1:(E++[e]).length=E.length+1:=by simp
  rw[e1];exact List.mem_flatMap.2 ⟨_,h.pat,List.mem_map.2 ⟨_,hp,rfl⟩⟩
 ·rcases List.mem_append.1 JA with h1|h1
  ·have:=h.pr e' h1;rw[List.length_append];exact⟨this.1,by omega,by omega⟩
  ·simp at h1;subst h1;exact JC
 ·by_cases hj:j<E.length
  ·rw[List.getElem?_append_left hj] at h1;rw[List.getElem?_append_left (by rw[h.len];exact hj)] at h2;have:=h.pr p' (List.mem_of_getElem? h2);rw[zEM this.2.1,zEM this.2.2];exact h.vs j e' p' h1 h2
  ·have JB:j=E.length:=by have:=(List.getElem?_eq_some_iff.1 h1).1;simp at this;omega
   rw[List.getElem?_append_right (by omega),JB,Nat.sub_self] at h1;rw[List.getElem?_append_right (by rw[h.len];omega),JB,h.len,Nat.sub_self] at h2;simp at h1 h2;subst h1 h2;exact hv
 ·rcases List.mem_append.1 hv with h1|h1
  ·obtain⟨e',JA,h2⟩:=h.mem v h1;exact⟨e',by simp[JA],h2⟩
  ·exact⟨e,by simp,hm v h1⟩
theorem zIw{ι:List Nat}{v:Nat}(h:v∈ι):∃i,i<ι.length/\ι.getD i 0=v:=by
 obtain⟨i,hi,e⟩:=List.getElem_of_mem h;exact⟨i,hi,by rw[List.getD,List.getElem?_eq_getElem hi,e];rfl⟩
theorem zVu{n:Nat}{d:Nat->Nat}:∀(c:Nat) (E:List E2),E.length=c->(∀e∈E,zT3 n d e)->∃ι q,GrE n E ι q
 |0,E,hc,_=>by have:E=[]:=List.length_eq_zero_iff.1 hc;subst this;exact⟨[],[],List.nodup_nil,by simp,by simp[zCi],rfl,by simp,by simp,by simp⟩
 |c+1,E,hc,hE=>by
  obtain⟨e,he⟩:∃e,E[c]? = some e:=⟨_,List.getElem?_eq_getElem (by omega)⟩;have JC:E=E.take c++[e]:=by have:=List.take_append_drop c E;obtain⟨h1,h2⟩:=List.getElem?_eq_some_iff.1 he;rw[List.drop_eq_getElem_cons h1,h2,List.drop_of_length_le (by omega)] at this;exact this.symm
  have JA:=hE e (List.mem_of_getElem? he);obtain⟨ι,q,h⟩:=zVu c (E.take c) (by simp;omega) fun e' JE=>hE e' (List.mem_of_mem_take JE);obtain⟨nx1,nx2,nx3⟩:=zM4 (m:=ι.length);rw[JC];have last:∀x:Nat,(ι++[x]).getD ι.length 0=x:=fun x=>by simp[List.getD]
  by_cases hx:e.1.1∈ι
  ·obtain⟨i,hi,ei⟩:=zIw hx;by_cases hy:e.2.1∈ι
   ·obtain⟨j,hj,ej⟩:=zIw hy;have JD:i≠j:=fun h0=>JA.ne (by rw[<-ei,<-ej,h0]);rcases Nat.lt_or_gt_of_ne JD with JB|JB
    ·exact⟨_,_,zE8 h (e:=e) (ext:=[]) (p:=(i,j)) (by simpa using h.nd) (by simp) (by simpa using nx1 i j JB hj) (by simp;omega) (.inl (by simp only[List.append_nil];exact⟨ei,ej⟩)) (by simp)⟩
    ·exact⟨_,_,zE8 h (e:=e) (ext:=[]) (p:=(j,i)) (by simpa using h.nd) (by simp) (by simpa using nx1 j i JB hi) (by simp;omega) (.inr (by simp only[List.append_nil];exact⟨ej,ei⟩)) (by simp)⟩
   ·refine⟨_,_,zE8 h (e:=e) (ext:=[e.2.1]) (p:=(i,ι.length)) ?_ (by simp[JA.l2]) (by simpa using nx2 i hi) (by simp;omega) (.inl ⟨by rw[zEM hi];exact ei,last _⟩) (by simp)⟩;exact List.nodup_append.2 ⟨h.nd,by simp,fun a ha b hb e0=>by simp at hb;subst hb;subst e0;exact hy ha⟩
  ·by_cases hy:e.2.1∈ι
   ·obtain⟨j,hj,ej⟩:=zIw hy;refine⟨_,_,zE8 h (e:=e) (ext:=[e.1.1]) (p:=(j,ι.length)) ?_ (by simp[JA.l1]) (by simpa using nx2 j hj) (by simp;omega) (.inr ⟨by rw[zEM hj];exact ej,last _⟩) (by simp)⟩;exact List.nodup_append.2 ⟨h.nd,by simp,fun a ha b hb e0=>by simp at hb;subst hb;subst e0;exact hx ha⟩
   ·refine⟨_,_,zE8 h (e:=e) (ext:=[e.1.1,e.2.1]) (p:=(ι.length,ι.length+1)) ?_ (by simp[JA.l1,JA.l2]) (by simpa using nx3) (by simp) (.inl ⟨by simp[List.getD],by simp[List.getD]⟩) (by simp)⟩;exact List.nodup_append.2 ⟨h.nd,by simp[JA.ne],fun a ha b hb e0=>by simp at hb;subst e0;rcases hb with rfl|rfl;exact hx ha;exact hy ha⟩
def wG(E:List E2)(ι:List Nat)(j i:Nat):Int:=match E[j]? with|some e=>wE e (ι.getD i 0)|none=>0
theorem GrE.gr{n:Nat}{d:Nat->Nat}{E:List E2}{ι:List Nat}{q:List (Nat×Nat)}(h:GrE n E ι q)(hE:∀e∈E,zT3 n d e):Gr n d ι q (wG E ι):=by
 refine⟨h.nd,h.lt,h.pr,fun j p hp=>?_⟩;have JB:j<E.length:=by rw[<-h.len];exact(List.getElem?_eq_some_iff.1 hp).1
 obtain⟨e,he⟩:∃e,E[j]? = some e:=⟨_,List.getElem?_eq_getElem JB⟩;have JA:=hE e (List.mem_of_getElem? he);have w1:0<=wE e e.1.1/\wE e e.1.1<d e.1.1:=by unfold wE;rw[if_pos rfl];have:=JA.w1;omega
 have w2:0<=wE e e.2.1/\wE e e.2.1<d e.2.1:=by unfold wE;rw[if_neg (fun e0=>JA.ne e0.symm)];have:=JA.w2;omega
 unfold wG;rw[he];simp only;rcases h.vs j e p he hp with⟨a,b⟩|⟨a,b⟩<;>rw[a,b]
 ·exact⟨w1,w2⟩
 ·exact⟨w2,w1⟩
theorem GrE.cho{n:Nat}{E:List E2}{ι:List Nat}{q:List (Nat×Nat)}(h:GrE n E ι q){u:Nat->Nat}(hu:∀(j:Nat) (e:E2),E[j]? = some e->u j=e.1.1\/u j=e.2.1) :
  ∃g∈chs q,∀(j i:Nat),g[j]? = some i->ι.getD i 0=u j/\j<E.length:=by
 have JE:∀j,j<E.length->∃i,(∃p,q[j]? = some p/\(i=p.1\/i=p.2))/\ι.getD i 0=u j:=fun j hj=>by
  obtain⟨e,he⟩:∃e,E[j]? = some e:=⟨_,List.getElem?_eq_getElem hj⟩;obtain⟨p,hp⟩:∃p,q[j]? = some p:=⟨_,List.getElem?_eq_getElem (by rw[h.len];exact hj)⟩;rcases h.vs j e p he hp with⟨a,b⟩|⟨a,b⟩<;>rcases hu j e he with c|c
  ·exact⟨p.1,⟨p,hp,.inl rfl⟩,by rw[a,c]⟩
  ·exact⟨p.2,⟨p,hp,.inr rfl⟩,by rw[b,c]⟩
  ·exact⟨p.2,⟨p,hp,.inr rfl⟩,by rw[b,c]⟩
  ·exact⟨p.1,⟨p,hp,.inl rfl⟩,by rw[a,c]⟩
 have JB:∀m,m<=E.length->∃g:List Nat,g.length=m/\∀(j i:Nat),g[j]? = some i->(∃p,q[j]? = some p/\(i=p.1\/i=p.2))/\ι.getD i 0=u j:=by
  intro m
  induction m with
  |zero=>intro _;exact⟨[],rfl,by simp⟩
  |succ m ih =>
   intro hm;obtain⟨g,hg,hh⟩:=ih (by omega);obtain⟨i,hi⟩:=JE m (by omega);refine⟨g++[i],by simp[hg],fun j i' JA=>?_⟩;by_cases hj:j<g.length
   ·rw[List.getElem?_append_left hj] at JA;exact hh j i' JA
   ·have:j=g.length:=by have:=(List.getElem?_eq_some_iff.1 JA).1;simp at this;omega
    rw[List.getElem?_append_right (by omega),this,Nat.sub_self] at JA;simp at JA;subst JA;rw[this,hg];exact hi
 obtain⟨g,hg,hh⟩:=JB E.length (Nat.le_refl _);refine⟨g,zSp (by rw[hg,h.len]) fun j i p h1 h2=>?_,fun j i h1=>⟨(hh j i h1).2,by rw[<-hg];exact(List.getElem?_eq_some_iff.1 h1).1⟩⟩;obtain⟨⟨p',JC,JD⟩,_⟩:=hh j i h1;rw[h2] at JC;cases JC;exact JD
end Go.Rb
section
namespace Go.Proofs.YtolkjbmcindhjaaGreat
open Go Go.W Go.Tk Go.Rx
open Go.Rb (Gr E2 zT3 wE wG GrE Dm zt)
def szV(vars:List Nat)(v:Nat):Nat:=vars.getD v 0
structure Ctx(vars:List Nat)(o:No)(p:List Go.Tk.Fc):Prop where
 d2:∀v,v<vars.length->2<=szV vars v/\szV vars v<=4
 P:zt ((List.range vars.length).map (szV vars))<=512
 es:EsG vars.length o.effs
 cr:∀e∈o.effs,∀g∈e.cnd,g.2<szV vars g.1
 pd:(p.map (·.1)).Nodup
 pl:∀f∈p,f.1<vars.length
def CA(o:No)(p:List Go.Tk.Fc):List Oc:=occ o p pC
def K1(o:No)(p:List Go.Tk.Fc)(k:Nat):Bool:=(occ o p pU).any fun x=>x.1==k&&(CA o p).all fun y=>!(y.1==k&&decide (y.2.1<x.2.1))
theorem zRo{o:No}{p:List Go.Tk.Fc}{k:Nat}:K1 o p k=true<->∃j e,(k,j,e)∈occ o p pU/\∀j' e',(k,j',e')∈CA o p->j<=j':=by
 unfold K1;rw[List.any_eq_true];constructor
 ·rintro⟨⟨k',j,e⟩,hx,h⟩;simp only[Bool.and_eq_true,beq_iff_eq,List.all_eq_true] at h;obtain⟨rfl,h2⟩:=h;refine⟨j,e,hx,fun j' e' hy=>?_⟩;have:=h2 _ hy;simp at this;exact this
 ·rintro⟨j,e,hx,h⟩;refine⟨_,hx,?_⟩;simp only[Bool.and_eq_true,beq_iff_eq,List.all_eq_true];refine⟨by simp,fun y hy=>?_⟩;obtain⟨k',j',e'⟩:=y;by_cases hk:k'=k
  ·subst hk;have:=h j' e' hy;simp;exact this
  ·simp[hk]
structure ClZ(vars:List Nat)(o:No)(p:List Go.Tk.Fc)(S:List Oc)(used:Nat->Bool)(W z:List Go.Tk.Fc)(i:Nat->Nat)(u:Nat->Nat->Go.Tk.Fc):Prop where
 r:PrR vars o p p.length z i u
 s:∀x∈CA o p,(i x.1<=x.2.1<->x∈S)
 us:∀k,k<p.length->used k=true->i k≠0
 nu:∀k,k<p.length->used k=false->i k≠0->K1 o p k=true
 ws:∀(k:Nat) (e:Nf),k<p.length->i k≠0->(eK o p k)[i k-1]? = some e->∀g∈e.cnd,g∈W
 wz:∀g∈W,g∈z
def fnd(l:List Go.Tk.Fc)(v:Nat):Option Go.Tk.Fc:=l.find? fun g=>decide (g.1=v)
def Ov(o:No)(p W:List Go.Tk.Fc)(used:Nat->Bool)(v:Nat):List Int :=
 match fnd o.pre v with
 |some g=>[(g.2:Nat)]
 |none=>match fnd W v with
  |some g=>[(g.2:Nat)]
  |none=>match (List.range p.length).find? fun k=>decide ((fK p k).1=v) with
   |none=>[-1]
   |some k=>if used k=true then [-1] else if K1 o p k=true then [((fK p k).2:Nat),-1] else [((fK p k).2:Nat)]
def Fl(o:No)(p:List Go.Tk.Fc)(used:Nat->Bool)(v:Nat):Bool:=(List.range p.length).any fun k=>decide ((fK p k).1=v)&&(K1 o p k && !used k)
theorem zDZ{o:No}{p W:List Go.Tk.Fc}{used:Nat->Bool}(v:Nat):(Ov o p W used v).length<=bif Fl o p used v then 2 else 1:=by
 have h1:∀x:Int,([x]:List Int).length<=bif Fl o p used v then 2 else 1:=fun x=>by cases Fl o p used v<;>simp
 unfold Ov;split
 ·exact h1 _
 ·split
  ·exact h1 _
  ·split
   ·exact h1 _
   ·rename_i k hk;split
    ·exact h1 _
    ·split
     ·rename_i hu hK;have hF:Fl o p used v=true:=by
       unfold Fl;rw[List.any_eq_true];refine⟨k,List.mem_of_find?_eq_some hk,?_⟩;have:=List.find?_some hk;simp only[decide_eq_true_eq] at this;have JA:used k=false:=by simpa using hu
       simp[this,hK,JA]
      rw[hF];simp
     ·exact h1 _
theorem zEN{l:List Go.Tk.Fc}{v:Nat}{g:Go.Tk.Fc}(h:fnd l v=some g):g∈l/\g.1=v:=by
 unfold fnd at h;have:=List.find?_some h;exact⟨List.mem_of_find?_eq_some h,by simpa using this⟩
theorem zKK{l:List Go.Tk.Fc}{v:Nat}(h:fnd l v=none):∀g∈l,g.1≠v:=fun g hg e=>by
 unfold fnd at h;have:=List.find?_eq_none.1 h g hg;simp[e] at this
theorem zRS{z:List Go.Tk.Fc}{v:Nat}(h:∀g∈z,g.1≠v):fdF z v=-1:=by
 unfold fdF;have:z.find? (fun f=>decide (f.1=v))=none:=List.find?_eq_none.2 fun g hg=>by simpa using h g hg
 rw[this]
theorem zNt{p:List Go.Tk.Fc}(hp:(p.map (·.1)).Nodup){k k':Nat}(hk:k<p.length)(JA:k'<p.length)(h:(fK p k).1=(fK p k').1):k=k':=by
 have e:∀k (hk:k<p.length),(fK p k).1=(p.map (·.1))[k]'(by simpa using hk):=fun k hk=>by simp[fK,List.getD,List.getElem?_eq_getElem hk]
 rw[e k hk,e k' JA] at h;exact(List.getElem_inj hp).1 h
theorem cl_O{vars:List Nat}{o:No}{p S:_}{used:Nat->Bool}{W z:List Go.Tk.Fc}{i:Nat->Nat}{u:Nat->Nat->Go.Tk.Fc}(hX:Ctx vars o p)(hz:vB z=true)(h:ClZ vars o p S used W z i u){v:Nat}(JF:∀x∈S,(u x.1 x.2.1).1≠v):fdF z v∈Ov o p W used v:=by
 unfold Ov;cases JA:fnd o.pre v with
 |some g =>obtain⟨h1,h2⟩:=zEN JA;have:=zBb hz (h.r.pre g h1);rw[h2] at this;simp[this]
 |none =>
  have npre:=zKK JA;simp only;cases hW:fnd W v with
  |some g =>obtain⟨h1,h2⟩:=zEN hW;have:=zBb hz (h.wz g h1);rw[h2] at this;simp[this]
  |none =>
   have nW:=zKK hW;simp only
   -- a fact of the variable can only be the fact itself
   have only:∀g∈z,g.1=v->∃k,k<p.length/\i k=0/\g=fK p k:=fun g hg hv=>by
    rcases h.r.mem g hg with h1|⟨k,hk,h1,h2⟩|⟨k,e,hk,h1,h2,h3⟩|⟨k,j,e,hk,h1,h2,h3,h4⟩
    ·exact absurd hv (npre g h1)
    ·exact⟨k,hk,h1,h2⟩
    ·exact absurd hv (nW g (h.ws k e hk h1 h2 g h3))
    ·obtain⟨_,g',JD,_⟩:=h.r.pk k j e hk h1 h2 h3;have JI:(k,j,e)∈CA o p:=zAt.2 ⟨hk,h2,by
      unfold pC;cases hc:e.cnd with
      |nil=>rw[hc] at JD;cases JD
      |cons a b=>simp[h3]⟩
     have hS:=(h.s _ JI).1 h1;exact absurd (by rw[<-h4];exact hv) (JF _ hS)
   cases hf:(List.range p.length).find? fun k=>decide ((fK p k).1=v) with
   |none =>
    simp only;have:fdF z v=-1:=zRS fun g hg hv=>by obtain⟨k,hk,_,e⟩:=only g hg hv;have:=List.find?_eq_none.1 hf k (List.mem_range.2 hk);simp[<-e,hv] at this
    simp[this]
   |some k =>
    have JB:=List.find?_some hf;simp only[decide_eq_true_eq] at JB;have hk:=List.mem_range.1 (List.mem_of_find?_eq_some hf);simp only;have JC:i k≠0->fdF z v=-1:=fun hi=>zRS fun g hg hv=>by obtain⟨k',JG,h0,e⟩:=only g hg hv;have:k'=k:=zNt hX.pd JG hk (by rw[<-e,hv,JB]);subst this;exact hi h0
    have JH:i k=0->fdF z v=((fK p k).2:Nat):=fun hi=>by
     rcases h.r.st k hk with⟨_,h2⟩|⟨e,h1,_⟩
     ·have:=zBb hz h2;rwa[JB] at this
     ·exact absurd hi h1
    by_cases hu:used k=true
    ·rw[if_pos hu];simp[JC (h.us k hk hu)]
    ·rw[if_neg hu];have JE:used k=false:=by simpa using hu
     by_cases hi:i k=0
     ·rw[JH hi];split<;>simp
     ·rw[if_pos (h.nu k hk JE hi),JC hi];simp
def e2(cnd:List Go.Tk.Fc):E2:=match cnd with
 |[]=>((0,0),(1,0))
 |[g]=>(g,(if g.1=0 then 1 else 0,0))
 |g::g'::_=>(g,g')
theorem e2_ok{n:Nat}{d:Nat->Nat}(hn:2<=n)(hd:∀v,v<n->2<=d v){cnd:List Go.Tk.Fc}(hv:vB cnd=true)(hl:∀g∈cnd,g.1<n)(hr:∀g∈cnd,g.2<d g.1):zT3 n d (e2 cnd):=by
 match cnd,hv,hl,hr with
 |[],_,_,_=>exact⟨by simp[e2],by simp[e2];omega,by simp[e2];omega,by have:=hd 0 (by omega);simp[e2];omega,by have:=hd 1 (by omega);simp[e2];omega⟩
 |[g],_,hl,hr =>
  have h1:=hl g (by simp);have h2:=hr g (by simp);by_cases h0:g.1=0
  ·have:=hd 1 (by omega);exact⟨by simp[e2,h0],h1,by simp[e2,h0];omega,h2,by simp[e2,h0];omega⟩
  ·have:=hd 0 (by omega);exact⟨by simp[e2,h0],h1,by simp[e2,h0];omega,h2,by simp[e2,h0];omega⟩
 |g::g'::l,hv,hl,hr =>have h1:=hl g (by simp);have h2:=hr g (by simp);have h3:=hl g' (by simp);have h4:=hr g' (by simp);have:=(List.pairwise_cons.1 (zHJ hv)).1 g' (by simp);exact⟨by simp[e2];omega,h1,h3,h2,h4⟩
theorem e2_w{cnd:List Go.Tk.Fc}(hv:vB cnd=true)(hl:cnd.length<=2){g:Go.Tk.Fc}(hg:g∈cnd):(g.1=(e2 cnd).1.1\/g.1=(e2 cnd).2.1)/\wE (e2 cnd) g.1=(g.2:Nat):=by
 match cnd,hv,hl,hg with
 |[a],_,_,hg =>simp at hg;subst hg;exact⟨.inl rfl,by unfold wE e2;simp⟩
 |[a,b],hv,_,hg =>
  have:=(List.pairwise_cons.1 (zHJ hv)).1 b (by simp);simp at hg;rcases hg with rfl|rfl
  ·exact⟨.inl rfl,by unfold wE e2;simp⟩
  ·exact⟨.inr rfl,by unfold wE e2;simp only;rw[if_neg (by omega)]⟩
 |a::b::c::l,_,hl,_=>simp at hl
theorem zTk{vars:List Nat}{o:No}{p:List Go.Tk.Fc}(hX:Ctx vars o p)(hn:2<=vars.length){S:List Oc}(hS:∀x∈S,x∈CA o p):∃ι q,GrE vars.length (S.map fun x=>e2 x.2.2.cnd) ι q/\Gr vars.length (szV vars) ι q (wG (S.map fun x=>e2 x.2.2.cnd) ι) /\
  ∀(used:Nat->Bool) (W z:List Go.Tk.Fc) (i:Nat->Nat) (u:Nat->Nat->Go.Tk.Fc),vB z=true->ClZ vars o p S used W z i u ->
   ∃g∈Go.Rb.chs q,(∀(j i':Nat),g[j]? = some i'->fdF z (ι.getD i' 0)≠wG (S.map fun x=>e2 x.2.2.cnd) ι j i'/\0<=fdF z (ι.getD i' 0)/\fdF z (ι.getD i' 0)<szV vars (ι.getD i' 0))/\∀v,v<vars.length->(∀i'∈g,ι.getD i' 0≠v)->fdF z v∈Ov o p W used v:=by
 have JB:∀x∈S,x.2.2∈o.effs/\x.1<p.length/\(eK o p x.1)[x.2.1]? = some x.2.2/\x.2.2.x≠(fK p x.1).2:=fun x hx=>by obtain⟨k,j,e⟩:=x;obtain⟨h1,h2,h3⟩:=zAt.1 (hS _ hx);unfold pC at h3;simp only[Bool.and_eq_true,decide_eq_true_eq] at h3;exact⟨(List.mem_filter.1 (List.mem_of_getElem? h2)).1,h1,h2,h3.1⟩
 have hE:∀e∈S.map fun x=>e2 x.2.2.cnd,zT3 vars.length (szV vars) e:=fun e he=>by obtain⟨x,hx,rfl⟩:=List.mem_map.1 he;have:=(JB x hx).1;exact e2_ok hn (fun v hv=>(hX.d2 v hv).1) (hX.es.vb _ this) (hX.es.lt _ this) (hX.cr _ this)
 obtain⟨ι,q,JC⟩:=Go.Rb.zVu (d:=szV vars) _ (S.map fun x=>e2 x.2.2.cnd) rfl hE;refine⟨ι,q,JC,JC.gr hE,fun used W z i u hz h=>?_⟩
 -- the choice
 have JE:∀x∈S,u x.1 x.2.1∈z/\∃g∈x.2.2.cnd,(u x.1 x.2.1).1=g.1/\(u x.1 x.2.1).2≠g.2/\(u x.1 x.2.1).2<vars.getD g.1 0:=fun x hx=>by have h1:=JB x hx;exact h.r.pk x.1 x.2.1 x.2.2 h1.2.1 ((h.s x (hS x hx)).2 hx) h1.2.2.1 h1.2.2.2
 obtain⟨g,hg,JF⟩:=JC.cho (u:=fun j=>match S[j]? with|some x=>(u x.1 x.2.1).1|none=>0) (fun j e he=>by
  rw[List.getElem?_map] at he;cases hx:S[j]? with
  |none=>rw[hx] at he;cases he
  |some x =>
   rw[hx] at he;have he:e2 x.2.2.cnd=e:=by simpa using he
   subst he;have JA:=List.mem_of_getElem? hx;obtain⟨_,g,hg,e1,_⟩:=JE x JA;have:=(e2_w (hX.es.vb _ (JB x JA).1) (hX.es.c2 _ (JB x JA).1) hg).1;simp only;rw[e1];exact this)
 refine⟨g,hg,fun j i' JD=>?_,fun v hv JG=>cl_O hX hz h fun x hx e=>?_⟩
 ·obtain⟨h1,h2⟩:=JF j i' JD;obtain⟨x,hx⟩:∃x,S[j]? = some x:=⟨_,List.getElem?_eq_getElem (by simpa using h2)⟩;rw[hx] at h1;simp only at h1;have JA:=List.mem_of_getElem? hx;obtain⟨a1,g',JH,a2,a3,a4⟩:=JE x JA;have hw:wG (S.map fun x=>e2 x.2.2.cnd) ι j i'=(g'.2:Nat):=by unfold wG;rw[List.getElem?_map,hx,h1,a2];exact(e2_w (hX.es.vb _ (JB x JA).1) (hX.es.c2 _ (JB x JA).1) JH).2
  have hf:=zBb hz a1;rw[hw,h1,hf,a2];unfold szV;omega
 ·obtain⟨j,hj,ej⟩:=List.getElem_of_mem hx;have JI:g.length=S.length:=by rw[Go.Rb.zOI hg,JC.len];simp
  have JD:g[j]? = some (g[j]'(by omega)):=List.getElem?_eq_getElem (by omega);obtain⟨h1,_⟩:=JF j _ JD;rw[List.getElem?_eq_getElem hj,ej] at h1;simp only at h1;exact JG _ (List.getElem_mem _) (by rw[h1];exact e)
end Go.Proofs.YtolkjbmcindhjaaGreat
end
namespace Go.Rb
section
theorem k_one:all1 true zNJ 5 1=true:=by decide +kernel
theorem k_two:all1 true zLO 6 2=true:=by decide +kernel
theorem k_twoU:allS true zPq 5 false 2=true:=by decide +kernel
end
theorem k3_a:((zCi 3).filter fun p=>Nat.ble p.1 3).all (fun p=>chk zD6 5 p.1 1 0 (st0 (zAN true p.1 p.2)))=true:=by decide +kernel
theorem k3_b:((zCi 3).filter fun p=>Nat.beq p.1 4).all (fun p=>chk zD6 5 p.1 1 0 (st0 (zAN true p.1 p.2)))=true:=by decide +kernel
theorem k3_c:(((zCi 3).filter fun p=>Nat.beq p.1 5).take 3).all (fun p=>chk zD6 5 p.1 1 0 (st0 (zAN true p.1 p.2)))=true:=by decide +kernel
theorem k3_d:(((zCi 3).filter fun p=>Nat.beq p.1 5).drop 3).all (fun p=>chk zD6 5 p.1 1 0 (st0 (zAN true p.1 p.2)))=true:=by decide +kernel
theorem k3_e:((zCi 3).filter fun p=>Nat.ble 6 p.1).all (fun p=>chk zD6 5 p.1 1 0 (st0 (zAN true p.1 p.2)))=true:=by decide +kernel
theorem s3_a:((zCi 3).filter fun p=>Nat.ble p.1 3).all (fun p=>(List.range p.1).all fun s=>zFd zD5 4 true p.1 s 1 0 (st0 (zAN false p.1 p.2)))=true:=by decide +kernel
theorem s3_b:((zCi 3).filter fun p=>Nat.beq p.1 4).all (fun p=>(List.range p.1).all fun s=>zFd zD5 4 true p.1 s 1 0 (st0 (zAN false p.1 p.2)))=true:=by decide +kernel
theorem s3_c:(((zCi 3).filter fun p=>Nat.beq p.1 5).take 3).all (fun p=>(List.range p.1).all fun s=>zFd zD5 4 true p.1 s 1 0 (st0 (zAN false p.1 p.2)))=true:=by decide +kernel
theorem s3_d:(((zCi 3).filter fun p=>Nat.beq p.1 5).drop 3).all (fun p=>(List.range p.1).all fun s=>zFd zD5 4 true p.1 s 1 0 (st0 (zAN false p.1 p.2)))=true:=by decide +kernel
theorem s3_e:((zCi 3).filter fun p=>Nat.ble 6 p.1).all (fun p=>(List.range 3).all fun s=>zFd zD5 4 true p.1 s 1 0 (st0 (zAN false p.1 p.2)))=true:=by decide +kernel
theorem s3_f:((zCi 3).filter fun p=>Nat.ble 6 p.1).all (fun p=>(List.range 3).all fun s=>zFd zD5 4 true p.1 (s+3) 1 0 (st0 (zAN false p.1 p.2)))=true:=by decide +kernel
end Go.Rb
section
namespace Go.Proofs.YtolkjbmcindhjaaGreat
open Go Go.W Go.Tk Go.Rx
open Go.Rb (Gr E2 zT3 wE wG GrE Dm zt zCi chk zFd st0 zAN zNJ zLO zD6 zD5 zPq ok1 zBu zGm zOH zH9 zEW zd zCf zBS zIN zBe tyN Bf)
theorem zMs:∀p∈zCi 3,p.1<=3\/p.1=4\/p.1=5\/6<=p.1:=fun p _=>by omega
theorem zRj{α:Type}{f:α->Bool}{l:List α}{n:Nat}(h1:(l.take n).all f=true)(h2:(l.drop n).all f=true):∀x∈l,f x=true:=fun x hx=>by
 rw[<-List.take_append_drop n l] at hx;rcases List.mem_append.1 hx with h|h
 ·exact List.all_eq_true.1 h1 x h
 ·exact List.all_eq_true.1 h2 x h
theorem k_3:∀p∈zCi 3,chk zD6 5 p.1 1 0 (st0 (zAN true p.1 p.2))=true:=fun p hp=>by
 rcases zMs p hp with h|h|h|h
 ·exact List.all_eq_true.1 Go.Rb.k3_a p (List.mem_filter.2 ⟨hp,zBS h⟩)
 ·exact List.all_eq_true.1 Go.Rb.k3_b p (List.mem_filter.2 ⟨hp,by rw[h];rfl⟩)
 ·exact zRj Go.Rb.k3_c Go.Rb.k3_d p (List.mem_filter.2 ⟨hp,by rw[h];rfl⟩)
 ·exact List.all_eq_true.1 Go.Rb.k3_e p (List.mem_filter.2 ⟨hp,zBS h⟩)
theorem zUx:(zCi 3).all (fun p=>Nat.ble p.1 6)=true:=by decide +kernel
theorem s_3:∀p∈zCi 3,∀s,s<p.1->zFd zD5 4 true p.1 s 1 0 (st0 (zAN false p.1 p.2))=true:=fun p hp s hs=>by
 have use:∀{m:Nat} {f:Nat->Bool},(List.range m).all f=true->∀s,s<m->f s=true:=fun h s hs=>List.all_eq_true.1 h s (List.mem_range.2 hs);rcases zMs p hp with h|h|h|h
 ·exact use (List.all_eq_true.1 Go.Rb.s3_a p (List.mem_filter.2 ⟨hp,zBS h⟩)) s hs
 ·exact use (List.all_eq_true.1 Go.Rb.s3_b p (List.mem_filter.2 ⟨hp,by rw[h];rfl⟩)) s hs
 ·exact use (zRj Go.Rb.s3_c Go.Rb.s3_d p (List.mem_filter.2 ⟨hp,by rw[h];rfl⟩)) s hs
 ·have h6:=Nat.le_of_ble_eq_true (List.all_eq_true.1 zUx p hp);by_cases h3:s<3
  ·exact use (List.all_eq_true.1 Go.Rb.s3_e p (List.mem_filter.2 ⟨hp,zBS h⟩)) s h3
  ·have:=use (List.all_eq_true.1 Go.Rb.s3_f p (List.mem_filter.2 ⟨hp,zBS h⟩)) (s-3) (by omega);rwa[show s-3+3=s by omega] at this
theorem k_2:∀p∈zCi 2,chk zLO 6 p.1 1 0 (st0 (zAN true p.1 p.2))=true:=List.all_eq_true.1 Go.Rb.k_two
theorem k_1:∀p∈zCi 1,chk zNJ 5 p.1 1 0 (st0 (zAN true p.1 p.2))=true:=List.all_eq_true.1 Go.Rb.k_one
def zVg(P f B:Nat):Bool:=Nat.ble B 1
theorem k_0:∀p∈zCi 0,chk zVg 99 p.1 1 0 (st0 (zAN true p.1 p.2))=true:=List.all_eq_true.1 (by decide:(zCi 0).all (fun p=>chk zVg 99 p.1 1 0 (st0 (zAN true p.1 p.2)))=true)
theorem u_2:∀p∈zCi 2,∀s,s<p.1->zFd zPq 5 false p.1 s 1 0 (st0 (zAN true p.1 p.2))=true:=fun p hp s hs=>List.all_eq_true.1 (List.all_eq_true.1 Go.Rb.k_twoU p hp) s (List.mem_range.2 hs)
theorem zGW{n:Nat}{a b:List Go.Tk.Fc}(ha:zBA n a)(hb:zBA n b)(h:∀v,v<n->fdF a v=fdF b v):a=b:=by
 have up:∀{l:List Go.Tk.Fc},vB l=true->l.Pairwise fLt:=fun hl=>(zHJ hl).imp fun h=>.inl h;refine zEC (up ha.v) (up hb.v) fun g=>⟨fun hg=>?_,fun hg=>?_⟩
 ·have:=zBb ha.v hg;rw[h g.1 (ha.lt g hg)] at this;exact zI5 this
 ·have:=zBb hb.v hg;rw[<-h g.1 (hb.lt g hg)] at this;exact zI5 this
def zB8(vars:List Nat)(o:No)(p:List Go.Tk.Fc)(used:Nat->Bool):Nat:=((List.range vars.length).filter (Fl o p used)).length
structure ClL(vars:List Nat)(o:No)(p:List Go.Tk.Fc)(S:List Oc)(used:Nat->Bool)(W:List Go.Tk.Fc)(Z:List (List Go.Tk.Fc)):Prop where
 nd:Z.Nodup
 ok:∀z∈Z,zBA vars.length z/\∃i u,ClZ vars o p S used W z i u
theorem ncl{vars:List Nat}{o:No}{p:List Go.Tk.Fc}(hX:Ctx vars o p)(hn:2<=vars.length){S:List Oc}(hS:∀x∈S,x∈CA o p){used:Nat->Bool}{W:List Go.Tk.Fc}{Z:List (List Go.Tk.Fc)}(hZ:ClL vars o p S used W Z){c K k:Nat}(hc:S.length=c){leaf:Nat->Nat->Nat->Bool}
  (hall:∀p∈zCi c,chk leaf K p.1 1 0 (st0 (zAN true p.1 p.2))=true) (hk:zB8 vars o p used<=k) (JC:k<=K) :
  ∃P f B j,leaf P f B=true/\0<P/\Z.length<=2^j*B/\f+j<=k/\P*2^j<=512:=by
 obtain⟨ι,q,JE,JD,JF⟩:=zTk hX hn hS;have JA:=JE.pat;rw[List.length_map,hc] at JA;obtain⟨P,f,B,j,h1,h2,h3,h4,h5,_⟩:=zOH (hall:=hall) (val:=fdF) JD JA (F:=Fl o p used) (k:=k) ⟨hX.d2,hX.P,hk⟩ JC (Os:=Ov o p W used) (fun v _=>zDZ v) hZ.nd (fun a ha b hb h=>zGW (hZ.ok a ha).1 (hZ.ok b hb).1 h) (fun z hz=>by obtain⟨JB,i,u,h⟩:=hZ.ok z hz;exact JF used W z i u JB.v h);exact⟨P,f,B,j,h1,h2,h3,h4,h5⟩
theorem n3{vars:List Nat}{o:No}{p:List Go.Tk.Fc}(hX:Ctx vars o p)(hn:2<=vars.length){S:List Oc}(hS:∀x∈S,x∈CA o p){used:Nat->Bool}{W:List Go.Tk.Fc}{Z:List (List Go.Tk.Fc)}(hZ:ClL vars o p S used W Z)(hc:S.length=3) :
  (zB8 vars o p used<=5->Z.length<=1024)/\(zB8 vars o p used<=4->Z.length<=784)/\(zB8 vars o p used<=3->Z.length<=760)/\(zB8 vars o p used<=2->Z.length<=588):=by
 refine⟨fun hk=>?_,fun hk=>?_,fun hk=>?_,fun hk=>?_⟩ <;>
 ·obtain⟨P,f,B,j,h1,h2,h3,h4,h5⟩:=ncl hX hn hS hZ hc k_3 hk (by omega);unfold zD6 at h1;obtain⟨a5,h1⟩:=zd h1;obtain⟨a4,h1⟩:=zd h1;obtain⟨a3,h1⟩:=zd h1;obtain⟨a2,h1⟩:=zd h1;refine Nat.le_trans h3 (zBu (by assumption) h4 (zGm h2 h5) (by omega))
theorem n2{vars:List Nat}{o:No}{p:List Go.Tk.Fc}(hX:Ctx vars o p)(hn:2<=vars.length){S:List Oc}(hS:∀x∈S,x∈CA o p){used:Nat->Bool}{W:List Go.Tk.Fc}{Z:List (List Go.Tk.Fc)}(hZ:ClL vars o p S used W Z)(hc:S.length=2) :
  (zB8 vars o p used<=6->Z.length<=1024)/\(zB8 vars o p used<=5->Z.length<=688)/\(zB8 vars o p used<=4->Z.length<=336)/\(zB8 vars o p used<=3->Z.length<=240)/\(zB8 vars o p used<=2->Z.length<=120):=by
 refine⟨fun hk=>?_,fun hk=>?_,fun hk=>?_,fun hk=>?_,fun hk=>?_⟩ <;>
 ·obtain⟨P,f,B,j,h1,h2,h3,h4,h5⟩:=ncl hX hn hS hZ hc k_2 hk (by omega);unfold zLO at h1;obtain⟨a6,h1⟩:=zd h1;obtain⟨a5,h1⟩:=zd h1;obtain⟨a4,h1⟩:=zd h1;obtain⟨a3,h1⟩:=zd h1;obtain⟨a2,h1⟩:=zd h1;refine Nat.le_trans h3 (zBu (by assumption) h4 (zGm h2 h5) (by omega))
theorem n1{vars:List Nat}{o:No}{p:List Go.Tk.Fc}(hX:Ctx vars o p)(hn:2<=vars.length){S:List Oc}(hS:∀x∈S,x∈CA o p){used:Nat->Bool}{W:List Go.Tk.Fc}{Z:List (List Go.Tk.Fc)}(hZ:ClL vars o p S used W Z)(hc:S.length=1) :
  (zB8 vars o p used<=5->Z.length<=192)/\(zB8 vars o p used<=4->Z.length<=96)/\(zB8 vars o p used<=3->Z.length<=48)/\(zB8 vars o p used<=2->Z.length<=24):=by
 refine⟨fun hk=>?_,fun hk=>?_,fun hk=>?_,fun hk=>?_⟩ <;>
 ·obtain⟨P,f,B,j,h1,h2,h3,h4,h5⟩:=ncl hX hn hS hZ hc k_1 hk (by omega);unfold zNJ at h1;obtain⟨a5,h1⟩:=zd h1;obtain⟨a4,h1⟩:=zd h1;obtain⟨a3,a2⟩:=zd h1;refine Nat.le_trans h3 (zBu (by assumption) h4 (zGm h2 h5) (by omega))
theorem n0{vars:List Nat}{o:No}{p:List Go.Tk.Fc}(hX:Ctx vars o p)(hn:2<=vars.length){S:List Oc}(hS:∀x∈S,x∈CA o p){used:Nat->Bool}{W:List Go.Tk.Fc}{Z:List (List Go.Tk.Fc)}(hZ:ClL vars o p S used W Z)(hc:S.length=0){k:Nat}(hk:zB8 vars o p used<=k)(JA:k<=9):Z.length<=2^k:=by
 obtain⟨P,f,B,j,h1,h2,h3,h4,h5⟩:=ncl hX hn hS hZ hc k_0 hk (by omega);have:=Nat.le_of_ble_eq_true (show Nat.ble B 1=true from h1);exact Nat.le_trans h3 (Nat.le_trans (Nat.mul_le_mul (Nat.pow_le_pow_right (by omega) (show j<=k by omega)) this) (by omega))
theorem n2'{vars:List Nat}{o:No}{p:List Go.Tk.Fc}(hX:Ctx vars o p)(hn:2<=vars.length){S:List Oc}(hS:∀x∈S,x∈CA o p){used:Nat->Bool}{W:List Go.Tk.Fc}{Z:List (List Go.Tk.Fc)}(hZ:ClL vars o p S used W Z)(hc:S.length<=1) :
  (zB8 vars o p used<=5->Z.length<=192)/\(zB8 vars o p used<=4->Z.length<=96)/\(zB8 vars o p used<=3->Z.length<=48)/\(zB8 vars o p used<=2->Z.length<=24):=by
 rcases(show S.length=0\/S.length=1 by omega) with h|h
 ·refine⟨fun hk=>?_,fun hk=>?_,fun hk=>?_,fun hk=>?_⟩ <;>
  ·have:=n0 hX hn hS hZ h hk (by omega);omega
 ·exact n1 hX hn hS hZ h
theorem n3'{vars:List Nat}{o:No}{p:List Go.Tk.Fc}(hX:Ctx vars o p)(hn:2<=vars.length){S:List Oc}(hS:∀x∈S,x∈CA o p){used:Nat->Bool}{W:List Go.Tk.Fc}{Z:List (List Go.Tk.Fc)}(hZ:ClL vars o p S used W Z)(hc:S.length<=2) :
  (zB8 vars o p used<=5->Z.length<=688)/\(zB8 vars o p used<=4->Z.length<=336)/\(zB8 vars o p used<=3->Z.length<=240)/\(zB8 vars o p used<=2->Z.length<=120):=by
 by_cases h:S.length=2
 ·exact(n2 hX hn hS hZ h).2
 ·have:=n2' hX hn hS hZ (by omega);exact⟨fun h=>Nat.le_trans (this.1 h) (by omega),fun h=>Nat.le_trans (this.2.1 h) (by omega),fun h=>Nat.le_trans (this.2.2.1 h) (by omega),fun h=>Nat.le_trans (this.2.2.2 h) (by omega)⟩
end Go.Proofs.YtolkjbmcindhjaaGreat
end
section
namespace Go.Proofs.YtolkjbmcindhjaaGreat
open Go Go.W Go.Tk Go.Rx
open Go.Rb (Gr E2 zT3 wE wG GrE Dm zt zCi chk zFd st0 zAN zNJ zLO zD6 zD5 zPq ok1 zBu zGm zOH zH9 zEW zd zCf zBS zIN zBe tyN Bf zOp zOX SpT)
theorem zRO{ι:List Nat}{v:Nat}(h:v∈ι):∃s0,s0<ι.length/\ι.getD s0 0=v:=Go.Rb.zIw h
theorem nS3{vars:List Nat}{o:No}{p:List Go.Tk.Fc}(hX:Ctx vars o p)(hn:2<=vars.length){S:List Oc}(hS:∀x∈S,x∈CA o p){used:Nat->Bool}{W:List Go.Tk.Fc}{Z:List (List Go.Tk.Fc)}(hZ:ClL vars o p S used W Z)(hc:S.length=3){v0:Nat}(JD:v0<vars.length)(hF:Fl o p used v0=false)(JG:∀z∈Z,fdF z v0∈Ov o p W used v0) :
  (zB8 vars o p used<=4->Z.length<=672)/\(zB8 vars o p used<=3->Z.length<=496):=by
 obtain⟨ι,q,JI,JC,JK⟩:=zTk hX hn hS;have JA:=JI.pat;rw[List.length_map,hc] at JA;have JB:∀a∈Z,∀b∈Z,(∀v,v<vars.length->fdF a v=fdF b v)->a=b:=fun a ha b hb h=>zGW (hZ.ok a ha).1 (hZ.ok b hb).1 h;have hg:=fun z hz=>(show ∃g∈Go.Rb.chs q,_ from by obtain⟨JH,i,u,h⟩:=hZ.ok z hz;exact JK used W z i u JH.v h);have ol:=zDZ (o:=o) (p:=p) (W:=W) (used:=used) v0;rw[hF] at ol;simp only[cond_false] at ol;by_cases hv:v0∈ι
 ·obtain⟨s0,JE,es0⟩:=zRO hv;have hb:=zH9 (hb:=false) (val:=fdF) JC (F:=Fl o p used) JE (t:=(1,1,1,1)) (sp:=true) (Os:=Ov o p W used) (fun v _ _=>zDZ v) (by rw[es0];exact⟨ol,fun _=>⟨ol,ol,ol⟩,fun h=>(by cases h)⟩) hZ.nd JB (fun z hz=>⟨hg z hz,fun _=>by rw[es0];exact JG z hz⟩);have fin:∀k G,k<=4->zB8 vars o p used<=k->(∀P f B,zD5 P f B=true->ok1 k G f (Nat.div 512 P) B=true)->Z.length<=G:=fun k G JF hk hl=>by obtain⟨P,f,h1,h2,h3,h4⟩:=zEW s_3 JC JA (F:=Fl o p used) (k:=k) ⟨hX.d2,hX.P,hk⟩ JF JE (by rw[es0];exact hF) (t:=(1,1,1,1)) (ds:=2) (.inl ⟨rfl,rfl,rfl⟩) (by rw[es0];exact(hX.d2 v0 JD).1);exact Nat.le_trans hb (zBu (hl _ _ _ h1) h3 (zGm h2 h4) (by omega))
  refine⟨fun hk=>fin 4 672 (by omega) hk fun P f B h=>?_,fun hk=>fin 3 496 (by omega) hk fun P f B h=>?_⟩
  ·unfold zD5 at h;exact(zd h).1
  ·unfold zD5 at h;exact(zd h).2
 ·have fin:∀k G,k<=4->zB8 vars o p used<=k->(∀P f B,P<=256->zD6 P f B=true->ok1 k G f (Nat.div 256 P) B=true)->Z.length<=G:=fun k G JF hk hl=>by
   obtain⟨P,f,B,j,h1,h2,h3,h4,h5,h6⟩:=zOH (hall:=k_3) (val:=fdF) JC JA (F:=Fl o p used) (k:=k) ⟨hX.d2,hX.P,hk⟩ (by omega) (Os:=Ov o p W used) (fun v _=>zDZ v) hZ.nd JB hg;have h7:=h6 v0 JD hv hF;have h8:P*2^j<=256:=by rw[Nat.pow_succ,<-Nat.mul_assoc] at h7;omega
   have h9:P<=256:=Nat.le_trans (Nat.le_mul_of_pos_right _ (Nat.pow_pos (by omega))) h8;exact Nat.le_trans h3 (zBu (hl P f B h9 h1) h4 (zGm h2 h8) (by omega))
  have l3:∀P f B,P<=256->zD6 P f B=true->ok1 4 672 f (Nat.div 256 P) B=true/\ok1 3 496 f (Nat.div 256 P) B=true:=fun P f B hP h=>by unfold zD6 at h;obtain⟨_,h⟩:=zd h;obtain⟨_,h⟩:=zd h;obtain⟨_,h⟩:=zd h;obtain⟨_,h⟩:=zd h;exact zd (zCf h (zBS hP))
  exact⟨fun hk=>fin 4 672 (by omega) hk fun P f B hP h=>(l3 P f B hP h).1,fun hk=>fin 3 496 (by omega) hk fun P f B hP h=>(l3 P f B hP h).2⟩
theorem nU2{vars:List Nat}{o:No}{p:List Go.Tk.Fc}(hX:Ctx vars o p)(hn:2<=vars.length){S:List Oc}(hS:∀x∈S,x∈CA o p){used used':Nat->Bool}{W W':List Go.Tk.Fc}{Z Z':List (List Go.Tk.Fc)}(hZ:ClL vars o p S used W Z)(JD:ClL vars o p S used' W' Z')(hc:S.length=2){v0:Nat}(JH:v0<vars.length)(JG:Fl o p used'=Fl o p used)(hF:Fl o p used v0=false)(JK:∀z∈Z,fdF z v0∈Ov o p W used v0)
  (hk:zB8 vars o p used<=5):Z.length+Z'.length<=1024:=by
 obtain⟨ι,q,JN,JC,JO⟩:=zTk hX hn hS;have JA:=JN.pat;rw[List.length_map,hc] at JA;have JB:∀{Z:List (List Go.Tk.Fc)} {used W},ClL vars o p S used W Z->∀a∈Z,∀b∈Z,(∀v,v<vars.length->fdF a v=fdF b v)->a=b:=fun hZ a ha b hb h=>zGW (hZ.ok a ha).1 (hZ.ok b hb).1 h;have hg:∀{Z:List (List Go.Tk.Fc)} {used W},ClL vars o p S used W Z->∀z∈Z,∃g∈Go.Rb.chs q,(∀(j i':Nat),g[j]? = some i'->fdF z (ι.getD i' 0)≠wG (S.map fun x=>e2 x.2.2.cnd) ι j i'/\0<=fdF z (ι.getD i' 0)/\fdF z (ι.getD i' 0)<szV vars (ι.getD i' 0))/\∀v,v<vars.length->(∀i'∈g,ι.getD i' 0≠v)->fdF z v∈Ov o p W used v:=fun hZ z hz=>by obtain⟨JL,i,u,h⟩:=hZ.ok z hz;exact JO _ _ z i u JL.v h
 have JI:Fl o p used' v0=false:=by rw[JG];exact hF
 have ol:=zDZ (o:=o) (p:=p) (W:=W) (used:=used) v0;rw[hF] at ol;have ol':=zDZ (o:=o) (p:=p) (W:=W') (used:=used') v0;rw[JI] at ol';simp only[cond_false] at ol ol';by_cases hv:v0∈ι
 ·obtain⟨s0,JE,es0⟩:=zRO hv;have hb:=zH9 (hb:=true) (val:=fdF) JC (F:=Fl o p used) JE (t:=(1,1,1,1)) (sp:=true) (Os:=Ov o p W used) (fun v _ _=>zDZ v) (by rw[es0];exact⟨ol,fun _=>⟨ol,ol,ol⟩,fun h=>(by cases h)⟩) hZ.nd (JB hZ) (fun z hz=>⟨hg hZ z hz,fun _=>by rw[es0];exact JK z hz⟩);have JP:=zH9 (hb:=true) (val:=fdF) JC (F:=Fl o p used) JE (t:=(szV vars v0-1,szV vars v0,1,1)) (sp:=false) (Os:=Ov o p W' used') (fun v _ _=>by have:=zDZ (o:=o) (p:=p) (W:=W') (used:=used') v;rwa[JG] at this) (by rw[es0];exact⟨ol',fun h=>(by cases h),fun _=>⟨Nat.le_refl _,Nat.le_refl _,Nat.le_refl _⟩⟩) JD.nd (JB JD) (fun z hz=>⟨hg JD z hz,fun h=>by cases h⟩);have hd:=hX.d2 v0 JH;have JF:=zOp (t1:=(1,1,1,1)) (t2:=(szV vars v0-1,szV vars v0,1,1)) (t:=(szV vars v0,szV vars v0+1,2,2)) (by simp only;omega) (by simp only;omega) rfl rfl ((zBe (szV vars) (Fl o p used) (ι.take s0)).map tyN) ((zBe (szV vars) (Fl o p used) (ι.drop (s0+1))).map tyN) (zAN true ι.length q) (fun b hb=>by rw[(zOX JC.pr hb).1];simp[zBe];omega);obtain⟨P,f,h1,h2,h3,h4⟩:=zEW u_2 JC JA (F:=Fl o p used) (k:=5) ⟨hX.d2,hX.P,hk⟩ (Nat.le_refl _) JE (by rw[es0];exact hF) (t:=(szV vars v0,szV vars v0+1,2,2)) (ds:=szV vars v0) (.inr ⟨rfl,rfl,hd.1,hd.2⟩) (by rw[es0];exact Nat.le_refl _);have h5:=zBu (show ok1 5 1024 _ _ _=true from h1) h3 (zGm h2 h4) (by omega);rw[<-JF,Nat.mul_add] at h5;omega
 ·have fin:∀{Z:List (List Go.Tk.Fc)} {used W},ClL vars o p S used W Z->Fl o p used v0=false->zB8 vars o p used<=5->Z.length<=512:=fun {Z used W} hZ hF hk=>by
   obtain⟨P,f,B,j,h1,h2,h3,h4,h5,h6⟩:=zOH (hall:=k_2) (val:=fdF) JC JA (F:=Fl o p used) (k:=5) ⟨hX.d2,hX.P,hk⟩ (by omega) (Os:=Ov o p W used) (fun v _=>zDZ v) hZ.nd (JB hZ) (hg hZ);have h7:=h6 v0 JH hv hF;have h8:P*2^j<=256:=by rw[Nat.pow_succ,<-Nat.mul_assoc] at h7;omega
   have h9:P<=256:=Nat.le_trans (Nat.le_mul_of_pos_right _ (Nat.pow_pos (by omega))) h8;unfold zLO at h1;obtain⟨_,h1⟩:=zd h1;obtain⟨_,h1⟩:=zd h1;obtain⟨_,h1⟩:=zd h1;obtain⟨_,h1⟩:=zd h1;obtain⟨_,h1⟩:=zd h1;exact Nat.le_trans h3 (zBu (zCf h1 (zBS h9)) h4 (zGm h2 h8) (by omega))
  have JM:zB8 vars o p used'<=5:=by unfold zB8 at hk ⊢;rw[JG];exact hk
  have a1:=fin hZ hF hk;have a2:=fin JD JI JM;omega
end Go.Proofs.YtolkjbmcindhjaaGreat
end
namespace Go.Proofs.YtolkjbmcindhjaaGreat
section
open Go Go.W Go.Tk Go.Rx
def KE(o:No)(p:List Go.Tk.Fc):List Oc:=(occ o p pU).filter fun x=>(CA o p).any fun y=>y.1==x.1&&decide (y.2.1<x.2.1)
theorem zKA{o:No}{p:List Go.Tk.Fc}{k j:Nat}{e:Nf}:(k,j,e)∈KE o p<->(k,j,e)∈occ o p pU/\∃j' e',(k,j',e')∈CA o p/\j'<j:=by
 unfold KE;rw[List.mem_filter,List.any_eq_true];constructor
 ·rintro⟨h1,⟨k',j',e'⟩,h2,h3⟩;simp at h3;obtain⟨rfl,h4⟩:=h3;exact⟨h1,j',e',h2,h4⟩
 ·rintro⟨h1,j',e',h2,h3⟩;exact⟨h1,_,h2,by simp[h3]⟩
def kk(o:No)(p:List Go.Tk.Fc)(used:Nat->Bool):Nat:=((List.range p.length).filter fun k=>K1 o p k && !used k).length
theorem zVy{vars:List Nat}{o:No}{p:List Go.Tk.Fc}(used:Nat->Bool):zB8 vars o p used<=kk o p used:=by
 unfold zB8 kk;have:=List.Nodup.length_le_of_subset (l₁:=(List.range vars.length).filter (Fl o p used)) (l₂:=((List.range p.length).filter fun k=>K1 o p k && !used k).map fun k=>(fK p k).1) (List.nodup_range.filter _) fun v hv=>by have h:=(List.mem_filter.1 hv).2;unfold Fl at h;obtain⟨k,hk,h2⟩:=List.any_eq_true.1 h;simp only[Bool.and_eq_true,decide_eq_true_eq] at h2;exact List.mem_map.2 ⟨k,List.mem_filter.2 ⟨hk,by simpa using h2.2⟩,h2.1⟩
 rwa[List.length_map] at this
theorem zS1{o:No}{p:List Go.Tk.Fc}{used used':Nat->Bool}(h:∀k,used k=true->used' k=true):kk o p used'<=kk o p used:=by
 unfold kk;refine List.Nodup.length_le_of_subset (List.nodup_range.filter _) fun k hk=>?_;obtain⟨h1,h2⟩:=List.mem_filter.1 hk;simp only[Bool.and_eq_true,Bool.not_eq_true'] at h2;refine List.mem_filter.2 ⟨h1,?_⟩;simp only[Bool.and_eq_true,Bool.not_eq_true'];refine⟨h2.1,?_⟩;cases hu:used k with
 |false=>rfl
 |true=>rw[h k hu] at h2;exact h2.2
theorem kk_lt{o:No}{p:List Go.Tk.Fc}{used used':Nat->Bool}(h:∀k,used k=true->used' k=true){k0:Nat}(JA:k0<p.length)(hK:K1 o p k0=true)(h0:used k0=false)(h1:used' k0=true):kk o p used'+1<=kk o p used:=by
 unfold kk;have:=List.Nodup.length_le_of_subset (l₁:=k0::(List.range p.length).filter fun k=>K1 o p k && !used' k) (l₂:=(List.range p.length).filter fun k=>K1 o p k && !used k) (List.nodup_cons.2 ⟨fun hm=>by have:=(List.mem_filter.1 hm).2;simp[h1] at this,List.nodup_range.filter _⟩) fun k hk=>by
  rcases List.mem_cons.1 hk with rfl|hk
  ·exact List.mem_filter.2 ⟨List.mem_range.2 JA,by simp[hK,h0]⟩
  ·obtain⟨h3,h2⟩:=List.mem_filter.1 hk;simp only[Bool.and_eq_true,Bool.not_eq_true'] at h2;refine List.mem_filter.2 ⟨h3,?_⟩;simp only[Bool.and_eq_true,Bool.not_eq_true'];refine⟨h2.1,?_⟩;cases hu:used k with
   |false=>rfl
   |true=>rw[h k hu] at h2;exact h2.2
 simpa using this
theorem zS2(o:No)(p:List Go.Tk.Fc):kk o p (fun _=>false)+(KE o p).length<=(occ o p pU).length:=by
 have h1:kk o p (fun _=>false)<=((occ o p pU).filter fun x=>!((CA o p).any fun y=>y.1==x.1&&decide (y.2.1<x.2.1))).length:=by
  unfold kk;have:=List.Nodup.length_le_of_subset (l₁:=(List.range p.length).filter fun k=>K1 o p k && !false) (l₂:=((occ o p pU).filter fun x=>!((CA o p).any fun y=>y.1==x.1&&decide (y.2.1<x.2.1))).map fun x=>x.1) (List.nodup_range.filter _) fun k hk=>by have h:=(List.mem_filter.1 hk).2;simp only[Bool.not_false,Bool.and_true] at h;obtain⟨j,e,h2,h3⟩:=zRo.1 h;refine List.mem_map.2 ⟨(k,j,e),List.mem_filter.2 ⟨h2,?_⟩,rfl⟩;rw[Bool.not_eq_true',<-Bool.not_eq_true,List.any_eq_true];rintro⟨⟨k',j',e'⟩,h4,h5⟩;simp at h5;obtain⟨rfl,h6⟩:=h5;have:=h3 j' e' h4;omega
  rwa[List.length_map] at this
 have h2:∀(l:List Oc) (f:Oc->Bool),(l.filter fun x=>!f x).length+(l.filter f).length=l.length:=by
  intro l f
  induction l with
  |nil=>rfl
  |cons x l ih =>
   cases h:f x with
   |true=>rw[List.filter_cons_of_neg (by simp[h]),List.filter_cons_of_pos h,List.length_cons,List.length_cons];omega
   |false=>rw[List.filter_cons_of_pos (by simp[h]),List.filter_cons_of_neg (by simp[h]),List.length_cons,List.length_cons];omega
 have:=h2 (occ o p pU) fun x=>(CA o p).any fun y=>y.1==x.1&&decide (y.2.1<x.2.1);unfold KE;omega
def offB(o:No)(p:List Go.Tk.Fc)(S:List Oc)(k:Nat):Bool:=(CA o p).any fun x=>x.1==k && !(S.any fun y=>y.1==x.1&&y.2.1==x.2.1)
theorem zEI{o:No}{p:List Go.Tk.Fc}{S:List Oc}(hS:∀x∈S,x∈CA o p){k:Nat}:offB o p S k=true<->∃x∈CA o p,x.1=k/\x∉S:=by
 unfold offB;rw[List.any_eq_true];constructor
 ·rintro⟨x,hx,h⟩;simp only[Bool.and_eq_true,beq_iff_eq,Bool.not_eq_true'] at h;refine⟨x,hx,h.1,fun JB=>?_⟩;rw[<-Bool.not_eq_true,List.any_eq_true] at h;exact h.2 ⟨x,JB,by simp⟩
 ·rintro⟨x,hx,h1,h2⟩;refine⟨x,hx,?_⟩;simp only[Bool.and_eq_true,beq_iff_eq,Bool.not_eq_true'];refine⟨h1,?_⟩;rw[<-Bool.not_eq_true,List.any_eq_true];rintro⟨y,hy,h3⟩;simp only[Bool.and_eq_true,beq_iff_eq] at h3;have JA:=zAt.1 (show(y.1,y.2.1,y.2.2)∈CA o p from hS y hy);have JC:=zAt.1 (show(x.1,x.2.1,x.2.2)∈CA o p from hx);have e1:y.2.2=x.2.2:=by have a:=JA.2.1;rw[h3.1,h3.2,JC.2.1] at a;exact(Option.some.inj a).symm
  exact h2 (by have:y=x:=Prod.ext h3.1 (Prod.ext h3.2 e1);rw[<-this];exact hy)
def zCq(o:No)(p:List Go.Tk.Fc)(i:Nat->Nat):List Oc:=(CA o p).filter fun x=>decide (i x.1<=x.2.1)
theorem zDX{o:No}{p:List Go.Tk.Fc}{i:Nat->Nat}{x:Oc}:x∈zCq o p i<->x∈CA o p/\i x.1<=x.2.1:=by
 unfold zCq;rw[List.mem_filter,decide_eq_true_eq]
theorem zKn{o:No}{p:List Go.Tk.Fc}{i:Nat->Nat}:∀x∈zCq o p i,x∈CA o p:=fun x hx=>(zDX.1 hx).1
theorem CA_x{o:No}{p:List Go.Tk.Fc}{k j:Nat}{e:Nf}(h:(k,j,e)∈CA o p):k<p.length/\(eK o p k)[j]? = some e/\e.x≠(fK p k).2:=by
 obtain⟨h1,h2,h3⟩:=zAt.1 h;unfold pC at h3;simp only[Bool.and_eq_true,decide_eq_true_eq] at h3;exact⟨h1,h2,h3.1⟩
structure Md(o:No)(p:List Go.Tk.Fc)(ex:Nat->Bool)(W z:List Go.Tk.Fc)(i:Nat->Nat):Prop where
 st:∀k,k<p.length->ex k=true->i k≠0
 un:∀(k:Nat) (e:Nf),k<p.length->ex k=false->i k≠0->(eK o p k)[i k-1]? = some e->e.cnd=[]
 w:∀(k:Nat) (e:Nf),k<p.length->ex k=true->(eK o p k)[i k-1]? = some e->∀g∈e.cnd,g∈W
 wz:∀g∈W,g∈z
def usX(o:No)(p:List Go.Tk.Fc)(ex:Nat->Bool)(S:List Oc)(k:Nat):Bool:=offB o p S k||ex k
theorem st_U{vars:List Nat}{o:No}{p z:List Go.Tk.Fc}{i:Nat->Nat}{u:Nat->Nat->Go.Tk.Fc}{ex:Nat->Bool}{W:List Go.Tk.Fc}(hr:PrR vars o p p.length z i u)(hm:Md o p ex W z i){k:Nat}(hk:k<p.length)(hx:ex k=false)(hi:i k≠0):∃e,(k,i k-1,e)∈occ o p pU:=by
 rcases hr.st k hk with⟨h0,_⟩|⟨e,_,h2,h3,_⟩
 ·exact absurd h0 hi
 ·have:=hm.un k e hk hx hi h2;exact⟨e,zAt.2 ⟨hk,h2,by unfold pU;simp[h3,this]⟩⟩
theorem zQ7{vars:List Nat}{o:No}{p z:List Go.Tk.Fc}{i:Nat->Nat}{u:Nat->Nat->Go.Tk.Fc}{ex:Nat->Bool}{W:List Go.Tk.Fc}(hr:PrR vars o p p.length z i u)(hm:Md o p ex W z i){x:Oc}(hx:x∈CA o p)(he:ex x.1=false)(JA:¬i x.1<=x.2.1):∃e,(x.1,i x.1-1,e)∈KE o p:=by
 obtain⟨k,j,e0⟩:=x;obtain⟨h1,h2,h3⟩:=CA_x hx;simp only at JA he ⊢;obtain⟨e,JB⟩:=st_U hr hm h1 he (by omega);refine⟨e,zKA.2 ⟨JB,j,e0,hx,?_⟩⟩;obtain⟨_,h5,h6⟩:=zAt.1 JB;unfold pU at h6;simp only[Bool.and_eq_true,decide_eq_true_eq] at h6;have:j≠i k-1:=fun e1=>by rw[e1,h5] at h2;cases h2;exact h3 h6.1
 omega
theorem zPk{vars:List Nat}{o:No}{p z:List Go.Tk.Fc}{i:Nat->Nat}{u:Nat->Nat->Go.Tk.Fc}{ex:Nat->Bool}{W:List Go.Tk.Fc}(hr:PrR vars o p p.length z i u)(hm:Md o p ex W z i):ClZ vars o p (zCq o p i) (usX o p ex (zCq o p i)) W z i u:=by
 refine⟨hr,fun x hx=>⟨fun h=>zDX.2 ⟨hx,h⟩,fun h=>(zDX.1 h).2⟩,fun k hk hu=>?_,fun k hk hu hi=>?_,fun k e hk hi he g hg=>?_,hm.wz⟩
 ·unfold usX at hu;rw[Bool.or_eq_true] at hu;rcases hu with hu|hu
  ·obtain⟨x,hx,rfl,hn⟩:=(zEI zKn).1 hu;intro h0;exact hn (zDX.2 ⟨hx,by omega⟩)
  ·exact hm.st k hk hu
 ·unfold usX at hu;rw[Bool.or_eq_false_iff] at hu;obtain⟨e,he⟩:=st_U hr hm hk hu.2 hi;refine zRo.2 ⟨_,e,he,fun j' e' hx=>?_⟩;have JA:(k,j',e')∈zCq o p i:=Classical.byContradiction fun hn=>by have:=(zEI zKn).2 ⟨_,hx,rfl,hn⟩;rw[hu.1] at this;cases this
  have:=(zDX.1 JA).2;simp only at this;omega
 ·cases hx:ex k with
  |true=>exact hm.w k e hk hx he g hg
  |false =>have:=hm.un k e hk hx hi he;rw[this] at hg;cases hg
theorem zWl{o:No}{p:List Go.Tk.Fc}{i:Nat->Nat}{P:Oc->Bool}(h:∀x∈CA o p,(i x.1<=x.2.1<->P x=true)):zCq o p i=(CA o p).filter P:=by
 unfold zCq;apply List.filter_congr;intro x hx;rw[Bool.eq_iff_iff,decide_eq_true_eq];exact h x hx
theorem zB6{vars:List Nat}{o:No}{p:List Go.Tk.Fc}{ex:Nat->Bool}{W:List Go.Tk.Fc}{I:List Go.Tk.Fc->Nat->Nat}{U:List Go.Tk.Fc->Nat->Nat->Go.Tk.Fc}:∀(cs:List (List Oc×Nat)) (Z:List (List Go.Tk.Fc)),Z.Nodup->(∀z∈Z,zBA vars.length z/\PrR vars o p p.length z (I z) (U z)/\Md o p ex W z (I z))->(∀z∈Z,∃c∈cs,zCq o p (I z)=c.1) ->
  (∀c∈cs,∀Z',ClL vars o p c.1 (usX o p ex c.1) W Z'->(∀z∈Z',z∈Z/\zCq o p (I z)=c.1)->Z'.length<=c.2)->Z.length<=(cs.map (·.2)).sum
 |[],Z,_,_,hc,_=>by
  have:Z=[]:=List.eq_nil_iff_forall_not_mem.2 fun z hz=>by obtain⟨c,h,_⟩:=hc z hz;cases h
  subst this;exact Nat.le_refl _
 |c::cs,Z,JB,hZ,hc,hb=>by
  haveI:DecidablePred fun z=>zCq o p (I z)=c.1:=fun _=>Classical.propDecidable _
  have h1:(Z.filter fun z=>decide (zCq o p (I z)=c.1)).length<=c.2:=hb c (by simp) _ ⟨JB.filter _,fun z hz=>by obtain⟨h1,h2⟩:=List.mem_filter.1 hz;rw[decide_eq_true_eq] at h2;obtain⟨a1,a2,a3⟩:=hZ z h1;refine⟨a1,I z,U z,?_⟩;have:=zPk a2 a3;rwa[h2] at this⟩ fun z hz=>by obtain⟨h1,h2⟩:=List.mem_filter.1 hz;rw[decide_eq_true_eq] at h2;exact⟨h1,h2⟩
  have h2:=zB6 cs (Z.filter fun z=>!decide (zCq o p (I z)=c.1)) (JB.filter _) (fun z hz=>hZ z (List.mem_filter.1 hz).1) (fun z hz=>by
   obtain⟨h1,h2⟩:=List.mem_filter.1 hz;obtain⟨d,hd,h3⟩:=hc z h1;rcases List.mem_cons.1 hd with rfl|hd
   ·rw[decide_eq_true h3] at h2;cases h2
   ·exact⟨d,hd,h3⟩) (fun c' JC Z' JD JA=>hb c' (by simp[JC]) Z' JD fun z hz=>⟨(List.mem_filter.1 (JA z hz).1).1,(JA z hz).2⟩)
  have h3:∀(l:List (List Go.Tk.Fc)) (f:List Go.Tk.Fc->Bool),l.length=(l.filter f).length+(l.filter fun x=>!f x).length:=by
   intro l f
   induction l with
   |nil=>rfl
   |cons x l ih =>
    cases h:f x with
    |true=>rw[List.filter_cons_of_pos h,List.filter_cons_of_neg (by simp[h]),List.length_cons,List.length_cons];omega
    |false=>rw[List.filter_cons_of_neg (by simp[h]),List.filter_cons_of_pos (by simp[h]),List.length_cons,List.length_cons];omega
  rw[h3 Z fun z=>decide (zCq o p (I z)=c.1),List.map_cons,List.sum_cons];exact Nat.add_le_add h1 h2
end
end Go.Proofs.YtolkjbmcindhjaaGreat
