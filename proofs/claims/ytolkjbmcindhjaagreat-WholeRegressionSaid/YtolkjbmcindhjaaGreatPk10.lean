/-
  Parts of the proof of this claim's statement; no conditions beyond those each theorem names.
-/
import Derived.Test.YtolkjbmcindhjaaGreatPk09
import Derived.Test.YtolkjbmcindhjaaGreatPk01
set_option maxRecDepth 100000
set_option linter.unusedSimpArgs false
set_option linter.unusedVariables false
set_option linter.unusedSectionVars false
set_option maxHeartbeats 8000000
namespace Go.Sy
section
open Go.Bd
theorem zSf(a b:Nat->Bool)(t:Nat):pfx a t (pfx a t b)=pfx a t b:=by
 funext i;simp only[pfx];by_cases h:i<t
 ·rw[if_pos h,if_pos h]
 ·rw[if_neg h,if_neg h]
def zAo(n:Nat)(S W:BFn->Prop)(N:Nat):Prop:=∃L:List BFn,L.length<=N/\∀G,W G->∀t a,t<n->Dep (fun b=>G (pfx a t b)) t->(fun b=>G (pfx a t b))∈L\/S fun b=>G (pfx a t b)
theorem zx.toR{n N:Nat}{S W:BFn->Prop}(h:zx n W N):zAo n S W N:=by
 obtain⟨L,a,b⟩:=h;exact⟨L,a,fun G hG t a ht hd=>.inl (b G hG t a ht hd)⟩
theorem zAo.or{n N1 N2:Nat}{S W1 W2:BFn->Prop}(h1:zAo n S W1 N1)(h2:zAo n S W2 N2):zAo n S (fun G=>W1 G\/W2 G) (N1+N2):=by
 obtain⟨L1,a1,b1⟩:=h1;obtain⟨L2,a2,b2⟩:=h2;refine⟨L1++L2,by rw[List.length_append];omega,fun G hG t a ht hd=>?_⟩;rcases hG with h|h
 ·exact(b1 G h t a ht hd).imp (List.mem_append_left _) id
 ·exact(b2 G h t a ht hd).imp (List.mem_append_right _) id
theorem zAo.mono{n N N':Nat}{S W W':BFn->Prop}(h:zAo n S W N)(hw:∀G,W' G->W G)(hn:N<=N'):zAo n S W' N':=by
 obtain⟨L,a,b⟩:=h;exact⟨L,Nat.le_trans a hn,fun G hG=>b G (hw G hG)⟩
theorem zAo.none(n:Nat)(S:BFn->Prop):zAo n S (fun _=>False) 0:=(zx.none n).toR
theorem zAo.sum{n:Nat}{S:BFn->Prop}(P:Nat->BFn->Prop)(c:Nat->Nat):∀k,(∀i,i<k->zAo n S (P i) (c i))->zAo n S (fun G=>∃i,i<k/\P i G) ((List.range k).map c).sum
 |0,_=>(zAo.none n S).mono (fun G ⟨i,hi,_⟩=>by omega) (Nat.zero_le _)
 |k+1,h=>((zAo.sum P c k fun i hi=>h i (by omega)).or (h k (by omega))).mono (fun G ⟨i,hi,e⟩=>by
   by_cases hk:i=k
   ·subst hk;exact .inr e
   ·exact .inl ⟨i,by omega,e⟩) (by rw[List.range_succ,List.map_append,List.sum_append];simp)
theorem zAo.eachW{n c:Nat}{S:BFn->Prop}(P:Nat->BFn->Prop):∀k,(∀i,i<k->zAo n S (P i) c)->zAo n S (fun G=>∃i,i<k/\P i G) (k*c)
 |0,_=>(zAo.none n S).mono (fun G ⟨i,hi,_⟩=>by omega) (Nat.zero_le _)
 |k+1,h=>((zAo.eachW P k fun i hi=>h i (by omega)).or (h k (by omega))).mono (fun G ⟨i,hi,e⟩=>by
   by_cases hk:i=k
   ·subst hk;exact .inr e
   ·exact .inl ⟨i,by omega,e⟩) (by rw[Nat.succ_mul];exact Nat.le_refl _)
theorem zAo.join{n N0 N:Nat}{S W0 W:BFn->Prop}(h0:zx n W0 N0)(hS:∀G,S G->W0 G)(h:zAo n S W N):zx n (fun G=>W0 G\/W G) (N0+N):=by
 obtain⟨L0,a0,b0⟩:=h0;obtain⟨L,a1,b1⟩:=h;refine⟨L0++L,by rw[List.length_append];omega,fun G hG t a ht hd=>?_⟩;rcases hG with h|h
 ·exact List.mem_append_left _ (b0 G h t a ht hd)
 ·rcases b1 G h t a ht hd with h|h
  ·exact List.mem_append_right _ h
  ·have e:(fun b=>(fun b=>G (pfx a t b)) (pfx a t b))=fun b=>G (pfx a t b):=funext fun b=>by show G (pfx a t (pfx a t b))=G (pfx a t b);rw[zSf]
   have:=b0 _ (hS _ h) t a ht (by rw[e];exact hd);rw[e] at this;exact List.mem_append_left _ this
theorem zE2(ps:List Nat)(Q:Nat->Prop):∀G:(Nat->Bool)->Prop,(∀a b,G a->G b->(∀i∈ps,a i=b i)->∀i,Q i->a i=b i) ->
  ∃Λ:List (Nat->Bool),Λ.length<=2^ps.length/\∀a,G a->∃π∈Λ,∀i,Q i->a i=π i:=by
 induction ps with
 |nil =>
  intro G h;by_cases hx:∃a,G a
  ·obtain⟨a,ha⟩:=hx;exact⟨[a],by simp,fun b hb=>⟨a,by simp,h b a hb ha (fun i hi=>by cases hi)⟩⟩
  ·exact⟨[],by simp,fun a ha=>absurd ⟨a,ha⟩ hx⟩
 |cons p ps ih =>
  intro G h;have key:∀x,∃Λ:List (Nat->Bool),Λ.length<=2^ps.length/\∀a,(G a/\a p=x)->∃π∈Λ,∀i,Q i->a i=π i:=fun x=>ih _ fun a b ha hb hi=>h a b ha.1 hb.1 fun i hm=>by
   rcases List.mem_cons.1 hm with rfl|hm
   ·rw[ha.2,hb.2]
   ·exact hi i hm
  obtain⟨Λ1,a1,b1⟩:=key true;obtain⟨Λ2,a2,b2⟩:=key false;refine⟨Λ1++Λ2,by rw[List.length_append,List.length_cons,Nat.pow_succ];omega,fun a ha=>?_⟩;cases hx:a p with
  |true =>obtain⟨π,h1,h2⟩:=b1 a ⟨ha,hx⟩;exact⟨π,List.mem_append_left _ h1,h2⟩
  |false =>obtain⟨π,h1,h2⟩:=b2 a ⟨ha,hx⟩;exact⟨π,List.mem_append_right _ h1,h2⟩
theorem zIo:∀ps:List Nat,∃L:List BFn,L.length<=2^2^ps.length/\∀K:BFn,(∀a c:Nat->Bool,(∀i∈ps,a i=c i)->K a=K c)->K∈L
 |[]=>⟨[fun _=>true,fun _=>false],by simp,fun K h=>by
   have e:K=fun _=>K fun _=>false:=funext fun a=>h _ _ fun i hi=>by cases hi
   rw[e];cases K fun _=>false<;>simp⟩
 |p::ps=>by
  obtain⟨L,a,b⟩:=zIo ps;refine⟨L.flatMap fun K1=>L.map fun K2=>fun x=>if x p then K1 x else K2 x,?_,fun K h=>?_⟩
  ·have:∀(l:List BFn),(l.flatMap fun K1=>L.map fun K2=>(fun x=>if x p then K1 x else K2 x:BFn)).length=l.length*L.length:=fun l=>by
    induction l with
    |nil=>simp
    |cons x l ih=>rw[List.flatMap_cons,List.length_append,ih,List.length_map,List.length_cons,Nat.succ_mul,Nat.add_comm]
   rw[this,List.length_cons,Nat.pow_succ 2 ps.length,Nat.mul_two,Nat.pow_add];exact Nat.mul_le_mul a a
  ·have key:∀z,(fun x=>K (upd x p z))∈L:=fun z=>b _ fun a c hi=>h _ _ fun i hm=>by
    by_cases e:i=p
    ·subst e;rw[zs,zs]
    ·rw[zR e,zR e];rcases List.mem_cons.1 hm with rfl|hm
     ·exact absurd rfl e
     ·exact hi i hm
   refine List.mem_flatMap.2 ⟨_,key true,List.mem_map.2 ⟨_,key false,funext fun x=>?_⟩⟩;have e:∀z,x p=z->upd x p z=x:=fun z hz=>funext fun i=>by
    by_cases e:i=p
    ·subst e;rw[zs,hz]
    ·rw[zR e]
   cases hx:x p with
   |true=>rw[if_pos rfl,e true hx]
   |false=>rw[if_neg (by decide),e false hx]
def zWn(n:Nat)(rel:Nat->Bool)(G:BFn):Prop:=∀a b:Nat->Bool,(∀i,i<n->rel i=true->a i=b i)->G a=G b
theorem zBZ{α:Type}(g:Nat->List α)(c:Nat->Nat)(h:∀t,(g t).length<=c t):∀n,((List.range n).flatMap g).length<=((List.range n).map c).sum
 |0=>by simp
 |n+1=>by have ih:=zBZ g c h n;have:=h n;rw[List.range_succ,List.flatMap_append,List.length_append,List.map_append,List.sum_append];simp only[List.flatMap_cons,List.flatMap_nil,List.append_nil,List.map_cons,List.map_nil,List.sum_cons,List.sum_nil];omega
theorem zTP{n t:Nat}{rel:Nat->Bool}{G:BFn}{a:Nat->Bool}(hG:zWn n rel G)(h:Dep (fun b=>G (pfx a t b)) t):rel t=true:=by
 obtain⟨b,hb⟩:=h;cases hr:rel t with
 |true=>rfl
 |false =>
  exfalso;apply hb;refine hG _ _ fun i hi JA=>?_;unfold pfx;by_cases h1:i<t
  ·rw[if_pos h1,if_pos h1]
  ·have:i≠t:=fun e=>by rw[e,hr] at JA;cases JA
   rw[if_neg h1,if_neg h1,zR this,zR this]
theorem zA1{t:Nat}{K:BFn}(h:Dep K t):∃b,K b=true:=by
 obtain⟨b,hb⟩:=h;cases h1:K (upd b t true) with
 |true=>exact⟨_,h1⟩
 |false =>
  cases h2:K (upd b t false) with
  |true=>exact⟨_,h2⟩
  |false=>exact absurd (h1.trans h2.symm) hb
theorem zN9{n:Nat}{S:BFn->Prop}{rel sh:Nat->Bool}{G:BFn}(hG:zWn n rel G)(c:Nat->Nat)
  (hs:∀t a,t<n->rel t=true->sh t=true->S fun b=>G (pfx a t b))
  (hc:∀t,t<n->rel t=true->sh t=false->∃Λ:List (Nat->Bool),Λ.length<=c t/\∀a,G a=true->∃π∈Λ,∀i,i<t->rel i=true->a i=π i) :
  zAo n S (fun K=>K=G) ((List.range n).map fun t=>if rel t=true/\sh t=false then c t else 0).sum:=by
 have JC:∀t,∃Λ:List (Nat->Bool),t<n->rel t=true->sh t=false->Λ.length<=c t/\∀a,G a=true->∃π∈Λ,∀i,i<t->rel i=true->a i=π i:=fun t=>by
  by_cases h:t<n/\rel t=true/\sh t=false
  ·obtain⟨Λ,hΛ⟩:=hc t h.1 h.2.1 h.2.2;exact⟨Λ,fun _ _ _=>hΛ⟩
  ·exact⟨[],fun h1 h2 h3=>absurd ⟨h1,h2,h3⟩ h⟩
 obtain⟨Λ,hΛ⟩:=Classical.skolem.1 JC
 let g:Nat->List BFn:=fun t=>if t<n/\rel t=true/\sh t=false then(Λ t).map fun π=>fun b=>G (pfx π t b) else []
 have hg:∀t,(g t).length<=if rel t=true/\sh t=false then c t else 0:=fun t=>by
  show(if t<n/\rel t=true/\sh t=false then _ else _:List BFn).length<=_;by_cases h:t<n/\rel t=true/\sh t=false
  ·rw[if_pos h,if_pos h.2,List.length_map];exact(hΛ t h.1 h.2.1 h.2.2).1
  ·rw[if_neg h];simp
 refine⟨(List.range n).flatMap g,zBZ g _ hg n,?_⟩;rintro K rfl t a ht hd;have hr:=zTP hG hd;cases JA:sh t with
 |true=>exact .inr (hs t a ht hr JA)
 |false =>
  left;obtain⟨b,hb⟩:=zA1 hd;obtain⟨π,hπ,he⟩:=(hΛ t ht hr JA).2 _ hb;refine List.mem_flatMap.2 ⟨t,List.mem_range.2 ht,?_⟩;show _∈(if t<n/\rel t=true/\sh t=false then _ else _:List BFn);rw[if_pos ⟨ht,hr,JA⟩];refine List.mem_map.2 ⟨π,hπ,funext fun x=>hG _ _ fun i hi JB=>?_⟩;unfold pfx;by_cases h1:i<t
  ·have:=he i h1 JB;unfold pfx at this;rw[if_pos h1] at this;rw[if_pos h1,if_pos h1,this]
  ·rw[if_neg h1,if_neg h1]
def cntR(rel:Nat->Bool)(t:Nat):Nat:=((List.range t).filter rel).length
noncomputable def exB (inn:Nat->Bool) (F:BFn) (k:Nat) (π:Nat->Bool):BFn:=fun a=>@decide (∃c:Nat->Bool,(∀j,inn j=false->c j=a j)/\F (pfx π k c)=true) (Classical.propDecidable _)
theorem zBz{inn:Nat->Bool}{F:BFn}{k:Nat}{π a:Nat->Bool}:exB inn F k π a=true<->∃c:Nat->Bool,(∀j,inn j=false->c j=a j)/\F (pfx π k c)=true:=by
 unfold exB;exact @decide_eq_true_iff _ (Classical.propDecidable _)
theorem zFN{x y:Bool}(h:x=true<->y=true):x=y:=by cases x<;>cases y<;>simp_all
section
variable {n:Nat} {inn:Nat->Bool} {F:BFn} (hF:∀a b:Nat->Bool,(∀i,i<n->a i=b i)->F a=F b)
include hF
theorem zDp{k:Nat}{π a b:Nat->Bool}(h:∀i,k<=i->i<n->inn i=false->a i=b i):exB inn F k π a=exB inn F k π b:=by
 have key:∀{a b:Nat->Bool},(∀i,k<=i->i<n->inn i=false->a i=b i)->exB inn F k π a=true->exB inn F k π b=true:=fun {a b} h h1=>by
  obtain⟨c,h2,h3⟩:=zBz.1 h1;refine zBz.2 ⟨fun j=>if inn j=true then c j else b j,fun j hj=>by show(if inn j=true then c j else b j)=b j;rw[if_neg (by rw[hj];decide)],?_⟩;refine(hF _ _ fun i hi=>?_).trans h3;show(if i<k then π i else if inn i=true then c i else b i)=if i<k then π i else c i;by_cases h4:i<k
  ·rw[if_pos h4,if_pos h4]
  ·rw[if_neg h4,if_neg h4];cases h5:inn i with
   |true=>rw[if_pos rfl]
   |false=>rw[if_neg (by decide),h2 i h5,h i (by omega) hi h5]
 exact zFN ⟨key h,key fun i h1 h2 h3=>(h i h1 h2 h3).symm⟩
theorem zQF{k:Nat}{π ρ:Nat->Bool}(h:∀i,i<k->π i=ρ i):exB inn F k π=exB inn F k ρ:=funext fun a=>by
 have e:∀c,pfx π k c=pfx ρ k c:=fun c=>funext fun i=>by
  unfold pfx;by_cases h1:i<k
  ·rw[if_pos h1,if_pos h1,h i h1]
  ·rw[if_neg h1,if_neg h1]
 refine zFN ?_;rw[zBz,zBz];simp only[e]
theorem zQG{k:Nat}{π a:Nat->Bool}(hk:inn k=false):exB inn F k π a=exB inn F (k+1) (upd π k (a k)) a:=by
 refine zFN ?_;rw[zBz,zBz];have e:∀c:Nat->Bool,c k=a k->pfx π k c=pfx (upd π k (a k)) (k+1) c:=fun c hc=>funext fun i=>by
  unfold pfx;by_cases h1:i<k
  ·rw[if_pos h1,if_pos (by omega),zR (by omega)]
  ·by_cases h2:i=k
   ·subst h2;rw[if_neg h1,if_pos (by omega),zs,hc]
   ·rw[if_neg h1,if_neg (by omega)]
 constructor
 ·rintro⟨c,h1,h2⟩;exact⟨c,h1,by rw[<-e c (h1 k hk)];exact h2⟩
 ·rintro⟨c,h1,h2⟩;exact⟨c,h1,by rw[e c (h1 k hk)];exact h2⟩
end
def uQ(inn sh:Nat->Bool)(n k:Nat):Nat:=((List.range n).map fun t=>if k<t/\inn t=false/\sh t=false then 2^cntR (fun i=>decide (k<i) && !inn i) t else 0).sum
def exN(inn sh:Nat->Bool)(c:Nat->Nat)(n:Nat):Nat:=((List.range n).map fun k=>if inn k=true then c k*uQ inn sh n k else if sh k=true then 0 else c k).sum
theorem zWJ{n:Nat}{S:BFn->Prop}{inn sh:Nat->Bool}{F:BFn}(hF:∀a b:Nat->Bool,(∀i,i<n->a i=b i)->F a=F b)(c:Nat->Nat)
  (hc:∀k,k<n->∃Λ:List (Nat->Bool),Λ.length<=c k/\∀a,F a=true->∃π∈Λ,∀i,i<k->a i=π i)
  (hs:∀t,t<n->inn t=false->sh t=true->∀K:BFn,(∀a b:Nat->Bool,(∀i,t<=i->i<n->inn i=false->a i=b i)->K a=K b)->S K) :
  zAo n S (fun G=>∃k π,G=exB inn F k π) (exN inn sh c n):=by
 have JG:∀k,∃Λ:List (Nat->Bool),k<n->Λ.length<=c k/\∀a,F a=true->∃π∈Λ,∀i,i<k->a i=π i:=fun k=>by
  by_cases h:k<n
  ·obtain⟨Λ,hΛ⟩:=hc k h;exact⟨Λ,fun _=>hΛ⟩
  ·exact⟨[],fun h1=>absurd h1 h⟩
 obtain⟨Λ,hΛ⟩:=Classical.skolem.1 JG
 -- patterns of the variables between
 have hp:∀k t,∃P:List (Nat->Bool),P.length<=2^cntR (fun i=>decide (k<i) && !inn i) t/\∀a:Nat->Bool,∃α∈P,∀i,i<t->k<i->inn i=false->a i=α i:=fun k t=>by obtain⟨P,h1,h2⟩:=zE2 ((List.range t).filter fun i=>decide (k<i) && !inn i) (fun i=>i<t/\k<i/\inn i=false) (fun _=>True) fun a b _ _ h i hi=>h i (List.mem_filter.2 ⟨List.mem_range.2 hi.1,by simp[hi.2.1,hi.2.2]⟩);refine⟨P,h1,fun a=>?_⟩;obtain⟨α,h3,h4⟩:=h2 a trivial;exact⟨α,h3,fun i a b c=>h4 i ⟨a,b,c⟩⟩
 obtain⟨P,hP⟩:=Classical.skolem.1 fun k=>Classical.skolem.1 (hp k)
 let q:Nat->Nat->List BFn:=fun k t=>if k<t/\inn t=false/\sh t=false then(Λ k).flatMap fun π=>(P k t).map fun α=>fun b=>exB inn F k π (pfx α t b) else []
 let g:Nat->List BFn:=fun k=>if k<n then(if inn k=true then(List.range n).flatMap (q k) else if sh k=true then [] else(Λ k).map fun π=>exB inn F k π) else []
 have hq:∀k t,k<n->(q k t).length<=c k*if k<t/\inn t=false/\sh t=false then 2^cntR (fun i=>decide (k<i) && !inn i) t else 0:=fun k t hk=>by
  show(if k<t/\inn t=false/\sh t=false then _ else _:List BFn).length<=_;by_cases h:k<t/\inn t=false/\sh t=false
  ·rw[if_pos h,if_pos h];have:∀l:List (Nat->Bool),(l.flatMap fun π=>(P k t).map fun α=>(fun b=>exB inn F k π (pfx α t b):BFn)).length=l.length*(P k t).length:=fun l=>by
    induction l with
    |nil=>simp
    |cons x l ih=>rw[List.flatMap_cons,List.length_append,ih,List.length_map,List.length_cons,Nat.succ_mul,Nat.add_comm]
   rw[this];exact Nat.mul_le_mul (hΛ k hk).1 (hP k t).1
  ·rw[if_neg h];simp
 have hg:∀k,(g k).length<=if inn k=true then c k*uQ inn sh n k else if sh k=true then 0 else c k:=fun k=>by
  show(if k<n then _ else _:List BFn).length<=_;by_cases hk:k<n
  ·rw[if_pos hk];by_cases h1:inn k=true
   ·rw[if_pos h1,if_pos h1];refine Nat.le_trans (zBZ (q k) _ (fun t=>hq k t hk) n) (Nat.le_of_eq ?_);unfold uQ
    induction n with
    |zero=>simp
    |succ m ih =>
     have mm:∀(l:List Nat) (f:Nat->Nat),(l.map fun t=>c k*f t).sum=c k*(l.map f).sum:=fun l f=>by
      induction l with
      |nil=>simp
      |cons x l ih=>simp only[List.map_cons,List.sum_cons,ih,Nat.mul_add]
     exact mm _ _
   ·rw[if_neg h1,if_neg h1];by_cases h2:sh k=true
    ·rw[if_pos h2,if_pos h2];simp
    ·rw[if_neg h2,if_neg h2,List.length_map];exact(hΛ k hk).1
  ·rw[if_neg hk];simp
 refine⟨(List.range n).flatMap g,zBZ g _ hg n,?_⟩;rintro G ⟨k,π,rfl⟩ t a ht hd
 -- from the last variables to the first
 have main:∀d k π,n<=k+d->Dep (fun b=>exB inn F k π (pfx a t b)) t->(fun b=>exB inn F k π (pfx a t b))∈(List.range n).flatMap g\/S fun b=>exB inn F k π (pfx a t b):=by
  intro d
  induction d with
  |zero =>rintro k π hk ⟨b,hb⟩;exfalso;apply hb;exact zDp hF fun i h1 h2 _=>by omega
  |succ d ih =>
   intro k π hk hd
   -- the variable counts
   have JF:inn t=false/\k<=t:=by
    obtain⟨b,hb⟩:=hd;have hx:¬(inn t=true\/t<k):=fun hx=>by
     apply hb;refine zDp hF fun i h1 h2 h3=>?_;unfold pfx;by_cases h4:i<t
     ·rw[if_pos h4,if_pos h4]
     ·have:i≠t:=fun e=>by
       subst e;rcases hx with hx|hx
       ·rw[h3] at hx;cases hx
       ·omega
      rw[if_neg h4,if_neg h4,zR this,zR this]
    refine⟨?_,by omega⟩;cases h:inn t with
    |true=>exact absurd (.inl h) hx
    |false=>rfl
   obtain⟨hit,JK⟩:=JF;cases JB:sh t with
   |true =>
    right;refine hs t ht hit JB _ fun x y h=>zDp hF fun i h1 h2 h3=>?_;unfold pfx;by_cases h4:i<t
    ·rw[if_pos h4,if_pos h4]
    ·rw[if_neg h4,if_neg h4,h i (by omega) h2 h3]
   |false =>
    -- it is true somewhere
    obtain⟨b,hb⟩:=zA1 hd;obtain⟨x,JH,JD⟩:=zBz.1 hb;obtain⟨ρ,hρ,he⟩:=(hΛ k (by omega)).2 _ JD;have e0:exB inn F k π=exB inn F k ρ:=zQF hF fun i hi=>by have:=he i hi;unfold pfx at this;rwa[if_pos hi] at this
    by_cases JA:inn k=true
    ·have JE:k<t:=by
      rcases Nat.lt_or_ge k t with h|h
      ·exact h
      ·obtain rfl:k=t:=by omega
       rw[hit] at JA;cases JA
     left;refine List.mem_flatMap.2 ⟨k,List.mem_range.2 (by omega),?_⟩;show _∈(if k<n then _ else _:List BFn);rw[if_pos (show k<n by omega),if_pos JA];refine List.mem_flatMap.2 ⟨t,List.mem_range.2 ht,?_⟩;show _∈(if k<t/\inn t=false/\sh t=false then _ else _:List BFn);rw[if_pos ⟨JE,hit,JB⟩];obtain⟨α,h1,h2⟩:=(hP k t).2 a;refine List.mem_flatMap.2 ⟨ρ,hρ,List.mem_map.2 ⟨α,h1,funext fun y=>?_⟩⟩;rw[e0];refine zDp hF fun i h3 h4 h5=>?_;have JI:i≠k:=fun e=>by subst e;rw[h5] at JA;cases JA
     unfold pfx;by_cases h6:i<t
     ·rw[if_pos h6,if_pos h6,h2 i h6 (by omega) h5]
     ·rw[if_neg h6,if_neg h6]
    ·have JA:inn k=false:=by simpa using JA
     by_cases JC:k=t
     ·subst JC;left;refine List.mem_flatMap.2 ⟨k,List.mem_range.2 (by omega),?_⟩;show _∈(if k<n then _ else _:List BFn);rw[if_pos ht,if_neg (by rw[JA];decide),if_neg (by rw[JB];decide)];refine List.mem_map.2 ⟨ρ,hρ,funext fun y=>?_⟩;rw[<-e0];refine zDp hF fun i h3 h4 h5=>?_;unfold pfx;rw[if_neg (by omega)]
     ·have e:(fun b=>exB inn F k π (pfx a t b))=fun b=>exB inn F (k+1) (upd π k (a k)) (pfx a t b):=funext fun b=>by
       rw[zQG hF JA];have:pfx a t b k=a k:=by unfold pfx;rw[if_pos (by omega)]
       rw[this]
      rw[e] at hd ⊢;exact ih (k+1) _ (by omega) hd
 exact main n k π (by omega) hd
end
end Go.Sy
namespace Go.Proofs.YtolkjbmcindhjaaGreat
section
open Go Go.W Go.Tk Go.Rx Go.Bd Go.Sy Go.Maps
def ShS(b:Nat)(K:BFn):Prop:=∃nx,nx<2/\∀a c:Nat->Bool,(∀p,b-3<=p->p<b->a (2*p+nx)=c (2*p+nx))->K a=K c
def shT(b t:Nat):Bool:=decide (2*(b-3)<=t)
theorem zWH(n b:Nat):zx n (ShS b) 512:=by
 obtain⟨L0,a0,b0⟩:=zIo ((List.range (b-(b-3))).map fun i=>2*(b-3+i)+0);obtain⟨L1,a1,b1⟩:=zIo ((List.range (b-(b-3))).map fun i=>2*(b-3+i)+1);rw[List.length_map,List.length_range] at a0 a1;have h3:b-(b-3)<=3:=by omega
 have h8:2^(b-(b-3))<=2^3:=Nat.pow_le_pow_right (by omega) h3;have JA:2^2^(b-(b-3))<=2^2^3:=Nat.pow_le_pow_right (by omega) h8;have JB:2^2^3=256:=rfl;refine⟨L0++L1,by rw[List.length_append];omega,?_⟩;rintro G ⟨nx,JC,h⟩ t a ht hd;have key:∀x y:Nat->Bool,(∀i∈((List.range (b-(b-3))).map fun i=>2*(b-3+i)+nx),x i=y i)->G (pfx a t x)=G (pfx a t y):=fun x y hi=>h _ _ fun p h1 h2=>by
  unfold pfx;by_cases h4:2*p+nx<t
  ·rw[if_pos h4,if_pos h4]
  ·rw[if_neg h4,if_neg h4];exact hi _ (List.mem_map.2 ⟨p-(b-3),List.mem_range.2 (by omega),by show 2*(b-3+(p-(b-3)))+nx=_;omega⟩)
 rcases(show nx=0\/nx=1 by omega) with rfl|rfl
 ·exact List.mem_append_left _ (b0 _ key)
 ·exact List.mem_append_right _ (b1 _ key)
def XN(nx b:Nat)(G:BFn):Prop:=∀a c:Nat->Bool,(∀p,p<b->a (2*p+nx)=c (2*p+nx))->G a=G c
theorem XN.of{b:Nat}{G:BFn}(h:XIn 0 b G):XN 0 b G:=fun a c hh=>h a c fun p _ hp=>by have:=hh p (by omega);simpa using this
theorem zJa(nx s:Nat)(hn:nx<2):∀b,((List.range (2*b)).map fun t=>if t%2=nx/\t<2*s then 2^(t/2) else 0).sum+1<=2^min b s
 |0=>by simp
 |b+1=>by
  have ih:=zJa nx s hn b;rw[show 2*(b+1)=2*b+1+1 by omega,List.range_succ,List.range_succ];simp only[List.map_append,List.sum_append,List.map_cons,List.map_nil,List.sum_cons,List.sum_nil,Nat.add_zero];rw[show 2*b%2=0 by omega,show(2*b+1)%2=1 by omega,show 2*b/2=b by omega,show(2*b+1)/2=b by omega];by_cases hb:b<s
  ·rw[Nat.min_eq_left (by omega)] at ih ⊢;rw[Nat.pow_succ];rcases(show nx=0\/nx=1 by omega) with rfl|rfl
   ·rw[if_pos ⟨rfl,by omega⟩,if_neg (by omega)];omega
   ·rw[if_neg (by omega),if_pos ⟨rfl,by omega⟩];omega
  ·rw[if_neg (by omega),if_neg (by omega),Nat.min_eq_right (by omega)];rw[Nat.min_eq_right (by omega)] at ih;omega
theorem zJZ{l:List Nat}{f g:Nat->Nat}(h:∀t∈l,f t<=g t):(l.map f).sum<=(l.map g).sum:=by
 induction l with
 |nil=>simp
 |cons x l ih =>simp only[List.map_cons,List.sum_cons];exact Nat.add_le_add (h x (by simp)) (ih fun t ht=>h t (by simp[ht]))
theorem zH4{nx b:Nat}{G:BFn}(hn:nx<2)(h:XN nx b G):zAo (2*b) (ShS b) (fun K=>K=G) (2^(b-3)):=by
 refine(zN9 (rel:=fun i=>decide (i%2=nx)) (sh:=shT b) (fun a c hi=>h a c fun p hp=>hi _ (by omega) (decide_eq_true (by omega))) (fun t=>2^(t/2)) (fun t a ht hr hs=>?_) fun t ht hr hs=>?_).mono (fun _ h=>h) ?_
 ·have hr:=of_decide_eq_true hr;have hs:=of_decide_eq_true hs;refine⟨nx,hn,fun x y hi=>h _ _ fun p hp=>?_⟩;unfold pfx;by_cases h4:2*p+nx<t
  ·rw[if_pos h4,if_pos h4]
  ·rw[if_neg h4,if_neg h4];exact hi p (by omega) hp
 ·have hr:=of_decide_eq_true hr;obtain⟨Λ,a,b⟩:=zE2 ((List.range (t/2)).map fun p=>2*p+nx) (fun i=>i<t/\i%2=nx) (fun a=>G a=true) fun a b _ _ hi i hQ=>hi i (List.mem_map.2 ⟨i/2,List.mem_range.2 (by omega),by show 2*(i/2)+nx=i;omega⟩);refine⟨Λ,by simpa using a,fun x hx=>?_⟩;obtain⟨π,h1,h2⟩:=b x hx;exact⟨π,h1,fun i hi hr=>h2 i ⟨hi,of_decide_eq_true hr⟩⟩
 ·have h1:=zJa nx (b-3) hn b;have h2:((List.range (2*b)).map fun t=>if decide (t%2=nx)=true/\shT b t=false then 2^(t/2) else 0).sum<=((List.range (2*b)).map fun t=>if t%2=nx/\t<2*(b-3) then 2^(t/2) else 0).sum:=zJZ fun t _=>by
   by_cases h3:t%2=nx/\t<2*(b-3)
   ·rw[if_pos h3];by_cases h4:decide (t%2=nx)=true/\shT b t=false
    ·rw[if_pos h4];exact Nat.le_refl _
    ·rw[if_neg h4];exact Nat.zero_le _
   ·rw[if_neg h3,if_neg]
    ·exact Nat.le_refl _
    ·rintro⟨h4,h5⟩;have h5:=of_decide_eq_false h5;exact h3 ⟨of_decide_eq_true h4,by omega⟩
  have h3:2^min b (b-3)<=2^(b-3):=Nat.pow_le_pow_right (by omega) (Nat.min_le_right _ _);omega
theorem zAo.isc{n N:Nat}{S:BFn->Prop}{F:BFn}(h:zAo n S (fun K=>K=F) N):zAo n S (fun G=>Bd.IsC F G) N:=by
 obtain⟨L,a,b⟩:=h;refine⟨L,a,?_⟩;rintro G ⟨k,π,e⟩ t α ht hd;by_cases hk:k<=t
 ·have e2:(fun x=>G (pfx α t x))=fun x=>F (pfx (fun i=>if i<k then π i else α i) t x):=funext fun x=>by
   rw[e];congr 1;funext i;simp only[pfx];by_cases h1:i<k
   ·rw[if_pos h1,if_pos (by omega),if_pos h1]
   ·rw[if_neg h1];by_cases h2:i<t
    ·rw[if_pos h2,if_pos h2,if_neg h1]
    ·rw[if_neg h2,if_neg h2]
  rw[e2] at hd ⊢;exact b F rfl t _ ht hd
 ·exfalso;obtain⟨x,hx⟩:=hd;apply hx;show G (pfx α t (upd x t true))=G (pfx α t (upd x t false));rw[e,e];congr 1;funext i;simp only[pfx];by_cases h1:i<k
  ·rw[if_pos h1,if_pos h1]
  ·rw[if_neg h1,if_neg h1,if_neg (by omega),if_neg (by omega),zR (by omega),zR (by omega)]
end
section
open Go Go.W Go.Tk Go.Rx Go.Bd Go.Sy Go.Maps
theorem zSK{vars:List Nat}{a c:Nat->Bool}{nx v:Nat}(h:rv vars a nx v=rv vars c nx v):∀k,k<wd (vars.getD v 0)->a (2*(bP vars v+k)+nx)=c (2*(bP vars v+k)+nx):=fun k hk=>by
 have h1:=(zBK (g:=fun k=>a (2*(bP vars v+k)+nx)) _ _ (zK9 vars c nx v)).2 h k hk;have h2:=(zBK (g:=fun k=>c (2*(bP vars v+k)+nx)) _ _ (zK9 vars c nx v)).2 rfl k hk;exact h1.trans h2.symm
theorem zIc{vars:List Nat}{a c:Nat->Bool}{nx:Nat}(h:rs vars a nx=rs vars c nx):∀p,p<zD vars->a (2*p+nx)=c (2*p+nx):=fun p hp=>by
 rw[<-zBn] at hp;obtain⟨v,j,hv,hj,rfl⟩:=zDV vars.length (Nat.le_refl _) p hp;exact zSK (by rw[<-zCe hv,<-zCe hv,h]) j hj
theorem rs_ev{vars:List Nat}{a c:Nat->Bool}(h:∀p,p<zD vars->a (2*p)=c (2*p)):rs vars a 0=rs vars c 0:=rs_x fun p _ hp=>h p (by omega)
theorem zV0{vars:List Nat}{l:List Go.Tk.Fc}(hl:zFt vars l):l.length<=vars.length:=by
 have:=zJK (l.map (·.1)) vars.length (List.pairwise_map.2 hl.asc) fun x hx=>by obtain⟨f,hf,rfl⟩:=List.mem_map.1 hx;exact(hl.rng f hf).1
 simpa using this
theorem zMY{T:Nt}{o:No}{j:Nat}{a:Nat->Bool}:rlB T o j a=true<->∀v,v<T.vars.length->j<=v->rv T.vars a 1 v=zJE o (rs T.vars a 0) v:=by
 unfold rlB;rw[List.all_eq_true];constructor
 ·intro h v hv hj;have:=h (v-j) (List.mem_range.2 (by omega));rw[show j+(v-j)=v by omega] at this;exact of_decide_eq_true this
 ·intro h k hk;have:=List.mem_range.1 hk;exact decide_eq_true (h (j+k) (by omega) (by omega))
end
section
open Go Go.W Go.Tk Go.Rx Go.Bd Go.Sy Go.Maps
theorem zNE{α:Type}(f:(Nat->Bool)->α)(Q:Nat->Prop):∀(l:List α) (G:(Nat->Bool)->Prop),(∀a c,G a->G c->f a=f c->∀i,Q i->a i=c i)->(∀a,G a->f a∈l) ->
  ∃Λ:List (Nat->Bool),Λ.length<=l.length/\∀a,G a->∃π∈Λ,∀i,Q i->a i=π i
 |[],G,_,hm=>⟨[],Nat.le_refl _,fun a ha=>by cases hm a ha⟩
 |x::l,G,h,hm=>by
  obtain⟨Λ,l1,l2⟩:=zNE f Q l (fun a=>G a/\f a≠x) (fun a c ha hc=>h a c ha.1 hc.1) fun a ha=>by
   rcases List.mem_cons.1 (hm a ha.1) with e|e
   ·exact absurd e ha.2
   ·exact e
  by_cases hx:∃a,G a/\f a=x
  ·obtain⟨a,ha,e⟩:=hx;refine⟨a::Λ,by rw[List.length_cons,List.length_cons];omega,fun c hc=>?_⟩;by_cases JA:f c=x
   ·exact⟨a,by simp,h c a hc ha (JA.trans e.symm)⟩
   ·obtain⟨π,h1,h2⟩:=l2 c ⟨hc,JA⟩;exact⟨π,by simp[h1],h2⟩
  ·refine⟨Λ,by rw[List.length_cons];omega,fun c hc=>l2 c ⟨hc,fun e=>hx ⟨c,hc,e⟩⟩⟩
def ptN(n M:Nat):Nat:=((List.range n).map fun t=>min (2^t) M).sum
section
variable {n M:Nat} {F:BFn} {Λ:List (Nat->Bool)}
theorem zQ4(hl:Λ.length<=M)(hp:∀a,F a=true->∃π∈Λ,∀i,i<n->a i=π i)(k:Nat)(hk:k<n):∃L:List (Nat->Bool),L.length<=min (2^k) M/\∀a,F a=true->∃π∈L,∀i,i<k->a i=π i:=by
 by_cases h:2^k<=M
 ·obtain⟨L,l1,l2⟩:=zE2 (List.range k) (fun i=>i<k) (fun a=>F a=true) fun a c _ _ hi i hQ=>hi i (List.mem_range.2 hQ);exact⟨L,by rw[Nat.min_eq_left h];simpa using l1,l2⟩
 ·refine⟨Λ,by rw[Nat.min_eq_right (by omega)];exact hl,fun a ha=>?_⟩;obtain⟨π,h1,h2⟩:=hp a ha;exact⟨π,h1,fun i hi=>h2 i (by omega)⟩
theorem zN8{S:BFn->Prop}(hF:∀a b:Nat->Bool,(∀i,i<n->a i=b i)->F a=F b)(hl:Λ.length<=M)(hp:∀a,F a=true->∃π∈Λ,∀i,i<n->a i=π i):zAo n S (fun K=>K=F) (ptN n M):=by
 refine(zN9 (rel:=fun _=>true) (sh:=fun _=>false) (fun a c hi=>hF a c fun i h=>hi i h rfl) (fun t=>min (2^t) M) (fun t a _ _ h=>by cases h) fun t ht _ _=>?_).mono (fun _ h=>h) ?_
 ·obtain⟨L,l1,l2⟩:=zQ4 hl hp t ht;refine⟨L,l1,fun a ha=>?_⟩;obtain⟨π,h1,h2⟩:=l2 a ha;exact⟨π,h1,fun i hi _=>h2 i hi⟩
 ·exact zJZ fun t _=>by rw[if_pos ⟨rfl,rfl⟩];exact Nat.le_refl _
end
def zUK(b nx i:Nat):Bool:=decide (i<2*b/\i%2=nx)
def exC(b nx M:Nat):Nat:=exN (zUK b nx) (shT b) (fun k=>min (2^k) M) (2*b)
theorem zRM(T:Nt)(nx:Nat):inn T nx=zUK (zD T.vars) nx:=funext fun i=>by
 unfold inn zUK;exact zCX
theorem zOC{T:Nt}{nx M:Nat}{F:BFn}{Λ:List (Nat->Bool)}(hn:nx<2)(hF:∀a b:Nat->Bool,(∀i,i<2*zD T.vars->a i=b i)->F a=F b)(hl:Λ.length<=M)(hp:∀a,F a=true->∃π∈Λ,∀i,i<2*zD T.vars->a i=π i) :
  zAo (2*zD T.vars) (ShS (zD T.vars)) (fun G=>∃H,Bd.IsC F H/\∀a,G a=true<->qS 1 (inn T nx) H a) (exC (zD T.vars) nx M):=by
 refine(zWJ (inn:=zUK (zD T.vars) nx) (sh:=shT (zD T.vars)) hF (fun k=>min (2^k) M) (zQ4 hl hp) fun t ht hit JA K hK=>?_).mono (fun G ⟨H,⟨k,π,e⟩,hG⟩=>⟨k,π,funext fun a=>zFN ?_⟩) (Nat.le_refl _)
 ·have hit:=of_decide_eq_false hit;have JA:=of_decide_eq_true JA;refine⟨1-nx,by omega,fun a c h=>hK a c fun i h1 h2 h3=>?_⟩;have h3:=of_decide_eq_false h3;have:=h (i/2) (by omega) (by omega);rwa[show 2*(i/2)+(1-nx)=i by omega] at this
 ·rw[hG,zBz,zRM];unfold qS;rw[if_pos rfl];simp only[e];exact⟨fun⟨c,h1,h2⟩=>⟨c,fun j hj=>h1 j hj,h2⟩,fun⟨c,h1,h2⟩=>⟨c,fun j hj=>h1 j hj,h2⟩⟩
theorem zVf(b:Nat):((List.range b).map fun p=>2*p).length=b:=by rw[List.length_map,List.length_range]
theorem zS9(T:Nt)(o:No)(P:List Nat->Bool):∃Λ:List (Nat->Bool),Λ.length<=(zAs T.vars T.vars.length).length/\∀a,imA T o P a=true->∃π∈Λ,∀i,i<2*zD T.vars->a i=π i:=by
 have h1:∀a,imA T o P a=true->okB T.vars a=true/\rs T.vars a 1=apS o (rs T.vars a 0):=fun a ha=>by unfold imA zB7 zHe at ha;simp only[Bool.and_eq_true,decide_eq_true_eq] at ha;exact⟨ha.1.1,ha.2.2⟩
 refine zNE (fun a=>rs T.vars a 0) (fun i=>i<2*zD T.vars) _ (fun a=>imA T o P a=true) (fun a c ha hc e i hi=>?_) fun a ha=>zEc.2 (zAh.1 (h1 a ha).1);have e0:rs T.vars a 0=rs T.vars c 0:=e;rcases Nat.mod_two_eq_zero_or_one i with h0|h0
 ·have:=zIc e0 (i/2) (by omega);rwa[show 2*(i/2)+0=i by omega] at this
 ·have:=zIc (nx:=1) ((h1 a ha).2.trans (by rw[e0];exact(h1 c hc).2.symm)) (i/2) (by omega);rwa[show 2*(i/2)+1=i by omega] at this
theorem zSc(T:Nt)(o:No)(P:List Nat->Bool):∃Λ:List (Nat->Bool),Λ.length<=2^zD T.vars/\∀a,prA T o P a=true->∃π∈Λ,∀i,i<2*zD T.vars->a i=π i:=by
 have h1:∀a,prA T o P a=true->rs T.vars a 1=apS o (rs T.vars a 0):=fun a ha=>by unfold prA zHe at ha;simp only[Bool.and_eq_true,decide_eq_true_eq] at ha;exact ha.1.2
 obtain⟨Λ,l1,l2⟩:=zE2 ((List.range (zD T.vars)).map fun p=>2*p) (fun i=>i<2*zD T.vars) (fun a=>prA T o P a=true) fun a c ha hc hi i hQ=>by
  have JA:∀p,p<zD T.vars->a (2*p)=c (2*p):=fun p hp=>hi _ (List.mem_map.2 ⟨p,List.mem_range.2 hp,rfl⟩);rcases Nat.mod_two_eq_zero_or_one i with h0|h0
  ·have:=JA (i/2) (by omega);rwa[show 2*(i/2)=i by omega] at this
  ·have:=zIc (nx:=1) ((h1 a ha).trans (by rw[rs_ev JA];exact(h1 c hc).symm)) (i/2) (by omega);rwa[show 2*(i/2)+1=i by omega] at this
 exact⟨Λ,by rw[zVf] at l1;exact l1,l2⟩
theorem zMp{T:Nt}{o:No}{P:List Nat->Bool}{a b:Nat->Bool}(h:∀i,i<2*zD T.vars->a i=b i):prA T o P a=prA T o P b:=by
 unfold prA;rw[zJq h];congr 1;refine zQ0 _ _ _ _ fun p _ hp=>?_;have e:∀a:Nat->Bool,sgA (2*zD T.vars) 0 a (2*p)=a (2*p+1):=fun a=>zEg (n:=2*zD T.vars) (nx:=0) (p:=p) (by omega) (by omega);rw[e,e];exact h _ (by omega)
theorem zS6{b nx:Nat}{F H:BFn}(hn:nx<2)(hF:XN nx b F)(h:Bd.IsC F H):Bd.IsC (fun a=>F (sgA (2*b) nx a)) fun a=>H (sgA (2*b) nx a):=by
 obtain⟨k,π,e⟩:=h;refine⟨2*((k+1-nx)/2),fun i=>if nx=0 then π (i-1) else π (i+1),fun a=>?_⟩;show H (sgA (2*b) nx a)=F (sgA (2*b) nx _);rw[e];refine hF _ _ fun p hp=>?_;rw[zEg (by omega) hn];show(if 2*p+nx<k then π (2*p+nx) else sgA (2*b) nx a (2*p+nx))=if 2*p+(1-nx)<2*((k+1-nx)/2) then(if nx=0 then π (2*p+(1-nx)-1) else π (2*p+(1-nx)+1)) else a (2*p+(1-nx));rw[zEg (by omega) hn];rcases(show nx=0\/nx=1 by omega) with rfl|rfl
 ·by_cases h:2*p+0<k
  ·rw[if_pos h,if_pos (by omega),if_pos rfl];rfl
  ·rw[if_neg h,if_neg (by omega)]
 ·by_cases h:2*p+1<k
  ·rw[if_pos h,if_pos (by omega),if_neg (by omega)]
  ·rw[if_neg h,if_neg (by omega)]
theorem zU1{b nx:Nat}{F:BFn}(hn:nx<2)(hF:XN nx b F):XN (1-nx) b fun a=>F (sgA (2*b) nx a):=fun a c h=>hF _ _ fun p hp=>by
 rw[zEg (by omega) hn,zEg (by omega) hn];exact h p hp
theorem zN7{b nx:Nat}{F:BFn}(hn:nx<2)(hF:XN nx b F):zAo (2*b) (ShS b) (fun G=>∃H,Bd.IsC F H/\G=fun a=>H (sgA (2*b) nx a)) (2^(b-3)) :=
 (zAo.isc (zH4 (by omega) (zU1 hn hF))).mono (fun G ⟨H,hH,e⟩=>by rw[e];exact zS6 hn hF hH) (Nat.le_refl _)
def imC(b:Nat):Nat:=ptN (2*b) 512+(exC b 0 512+2^(b-3))
def prC(b:Nat):Nat:=2^(b-3)+(ptN (2*b) (2^b)+(exC b 1 (2^b)+2^(b-3)))
def ImgT(T:Nt)(o:No)(P:List Nat->Bool)(G:BFn):Prop:=G=imA T o P\/(∃H,Bd.IsC (imA T o P) H/\∀a,G a=true<->qS 1 (inn T 0) H a) \/
 ∃X,(∀a,X a=true<->qS 1 (inn T 0) (imA T o P) a)/\∃H,Bd.IsC X H/\G=fun b=>H (sgA (2*zD T.vars) 1 b)
def PreT(T:Nt)(o:No)(P:List Nat->Bool)(G:BFn):Prop:=(∃H,Bd.IsC (zB7 T.vars P) H/\G=fun b=>H (sgA (2*zD T.vars) 0 b))\/G=prA T o P\/(∃H,Bd.IsC (prA T o P) H/\∀a,G a=true<->qS 1 (inn T 1) H a)\/G=zB7 T.vars (zFc o P)
theorem zHG(vars:List Nat)(P:List Nat->Bool):XN 0 (zD vars) (zB7 vars P):=XN.of (zQ0 vars P)
theorem ex_xn{T:Nt}{F X:BFn}(hF:∀a b:Nat->Bool,(∀i,i<2*zD T.vars->a i=b i)->F a=F b)(hX:∀a,X a=true<->qS 1 (inn T 0) F a):XN 1 (zD T.vars) X:=fun a c h=>by
 have e:∀a,X a=exB (zUK (zD T.vars) 0) F 0 (fun _=>false) a:=fun a=>zFN (by rw[hX,zBz,zRM];unfold qS;rw[if_pos rfl];simp only[zCW];exact⟨fun⟨c,h1,h2⟩=>⟨c,fun j hj=>h1 j hj,h2⟩,fun⟨c,h1,h2⟩=>⟨c,fun j hj=>h1 j hj,h2⟩⟩);rw[e,e];refine zDp hF fun i h1 h2 h3=>?_;have h3:=of_decide_eq_false h3;have:=h (i/2) (by omega);rwa[show 2*(i/2)+1=i by omega] at this
structure SmC(T:Nt):Prop where
 vars:∀n∈T.vars,1<=n/\n<=64
 ops:∀o∈T.ops,NoG T.vars o
 el:∀o∈T.ops,o.effs.length<=8
 vl:T.vars.length<=12
 pr:prL T.vars<=512
 bs:zD T.vars<=11/\180*zD T.vars+4*T.vars.sum<=2208
theorem smc{T T':Nt}(hT:SmT T)(hA:Alk T T'):SmC T':=by
 have hg:=hA.good hT.g;have hp:=hT.pr T.vars.length;rw[List.take_length] at hp;refine⟨hg.vars,hg.ops,fun o ho=>?_,by rw[hA.vars];exact hT.vl,by rw[hA.vars];exact hp,by rw[hA.vars];exact zUp hT⟩;have h1:skO o∈T.ops.map skO:=by rw[<-hA.ops];exact List.mem_map.2 ⟨o,ho,rfl⟩
 obtain⟨o2,h2,e⟩:=List.mem_map.1 h1;have h3:=hT.el o2 h2;have h4:o2.effs.length=o.effs.length:=by
  have:(o2.effs.map skE)=o.effs.map skE:=by unfold skO at e;simp only[Prod.mk.injEq] at e;exact e.2.2.2
  have:=congrArg List.length this;simpa using this
 omega
theorem zTd{T:Nt}(hT:SmC T)(o:No)(P:List Nat->Bool):zAo (2*zD T.vars) (ShS (zD T.vars)) (ImgT T o P) (imC (zD T.vars)):=by
 obtain⟨Λ,l1,l2⟩:=zS9 T o P;have hp:=hT.pr;have hl:Λ.length<=512:=by rw[zGP _ (Nat.le_refl _),List.take_length] at l1;omega
 refine(zN8 (fun a b h=>zIv h) hl l2).or (zAo.or (zOC (by omega) (fun a b h=>zIv h) hl l2) ?_);by_cases hX:∃X:BFn,∀a,X a=true<->qS 1 (inn T 0) (imA T o P) a
 ·obtain⟨X,hX⟩:=hX;refine(zN7 (F:=X) (nx:=1) (by omega) (ex_xn (fun a b h=>zIv h) hX)).mono (fun G hG=>?_) (Nat.le_refl _);obtain⟨Y,hY,H,hH,e⟩:=hG;have:Y=X:=zTN _ _ hY hX;subst this;exact⟨H,hH,e⟩
 ·exact(zAo.none _ _).mono (fun G ⟨X,h,_⟩=>hX ⟨X,h⟩) (Nat.zero_le _)
theorem zTZ(T:Nt)(o:No)(P:List Nat->Bool):zAo (2*zD T.vars) (ShS (zD T.vars)) (PreT T o P) (prC (zD T.vars)):=by
 obtain⟨Λ,l1,l2⟩:=zSc T o P;exact(zN7 (by omega) (zHG _ _)).or ((zN8 (fun a b h=>zMp h) l1 l2).or ((zOC (by omega) (fun a b h=>zMp h) l1 l2).or (zH4 (by omega) (zHG _ _))))
end
end Go.Proofs.YtolkjbmcindhjaaGreat
section
namespace Go.Proofs.YtolkjbmcindhjaaGreat
open Go Go.W Go.Tk Go.Rx Go.Bd Go.Sy Go.Maps
def zOw(n lim:Nat)(S W0:BFn->Prop)(N:Nat)(ns:Ns):Prop:=∃W:BFn->Prop,Stp n lim (fun G=>W0 G\/W G) false [] false ns/\zAo n S W N
theorem zOw.step{n lim N0 N N1:Nat}{S W0 W:BFn->Prop}{e:Bool}{ns ns':Ns}(h:zOw n lim S W0 N ns)(h0:zx n W0 N0)(hS:∀G,S G->W0 G)(hs:Stp n lim (fun G=>W0 G\/W G) false ns e ns')(hc:zAo n S W N1)(hl:N0+(N+N1)<lim):e=false/\zOw n lim S W0 (N+N1) ns':=by
 obtain⟨W1,h1,c1⟩:=h;have h2:Stp n lim (fun G=>W0 G\/(W1 G\/W G)) false [] e ns':=(h1.mono fun G hG=>hG.imp id .inl).trans (hs.mono fun G hG=>hG.imp id .inr);have JB:=c1.or hc;have JA:=zOA (ns0:=[]) h2.ext.wf (JB.join h0 hS) h2.new;have:e=false:=by
  cases e with
  |false=>rfl
  |true =>have:=h2.full rfl rfl;simp at JA;omega
 subst this;exact⟨rfl,_,h2,JB⟩
theorem zOw.start{n lim N0:Nat}{S W0:BFn->Prop}{e:Bool}{ns:Ns}(h0:zx n W0 N0)(hS:∀G,S G->W0 G)(hs:Stp n lim W0 false [] e ns)(hl:N0<lim):e=false/\zOw n lim S W0 0 ns:=by
 have h1:zOw n lim S W0 0 []:=⟨fun _=>False,Stp.refl (Wf.nil n) (Nat.zero_le _),zAo.none n S⟩;exact h1.step h0 hS (hs.mono fun G h=>.inl h) (zAo.none n S) (by omega)
def Lr(s m lim:Nat)(T:Nt)(q:SpC)(W0:BFn->Prop)(B:Asr)(w:World)(F:List Nat)(N c:Nat)(ps:List Kp2)(w':World):Prop :=
 ∃ns ks ss,zOw (2*zD T.vars) lim (ShS (zD T.vars)) W0 N ns/\SpG lim T q ns ks ss/\(∀p∈ps,Kn T ns ks p.1 p.2)/\ks.length<=c/\ss.length<=c/\At w F (zI s m lim T q ns ks ss B) w'
structure LrC(T:Nt)(W0:BFn->Prop)(N0:Nat):Prop where
 sh:∀G,ShS (zD T.vars) G->W0 G
 bas:∀G,zT5 T G->W0 G
 cov:zx (2*zD T.vars) W0 N0
section
variable {w w1:World} {F:List Nat} {B:Asr} {s m lim N N0 c:Nat} {T:Nt} {q:SpC} {W0 W:BFn->Prop} {ps:List Kp2}
theorem LrC.lit(hC:LrC T W0 N0):LitW T.vars fun G=>W0 G\/W G:=litW fun G h=>.inl (hC.bas G (.inl (.inl h)))
theorem LrC.vl(hC:LrC T W0 N0){v x:Nat}(hv:v<T.vars.length)(hx:x<T.vars.getD v 0):VlW T.vars v x 0 fun G=>W0 G\/W G:=vlW fun G h=>.inl (hC.bas G (.inl (.inr (.inl ⟨v,hv,x,hx,.inl h⟩))))
theorem LrC.fc(hC:LrC T W0 N0){l:List Go.Tk.Fc}(hr:zHB T.vars l)(h:∀j,j<l.length->W (fcB T.vars l j)):FcW T.vars l fun G=>W0 G\/W G :=
 ⟨fun f hf=>hC.vl (hr f hf).1 (hr f hf).2,fun j hj=>.inr (h j hj)⟩
theorem LrC.zb(hC:LrC T W0 N0):∀j,j<zD T.vars->(fun G=>W0 G\/W G) (zB (zD T.vars) j):=fun j hj=>.inl (hC.bas _ (.inr ⟨j,hj,rfl⟩))
theorem zDg{P:List Nat->Bool}{N1:Nat}{ns:Ns}{ks:List (Nat×Bool)}{ss:List (Nat×Nat)}{v:Value}{w':World}(hC:LrC T W0 N0)(hr:zOw (2*zD T.vars) lim (ShS (zD T.vars)) W0 N ns)(hG:SpG lim T q ns ks ss)(hk:∀p∈ps,Kn T ns ks p.1 p.2)(JD:ks.length<=c)(JC:ss.length<=c)
  (h:zKo s m lim T q ns ks ss B w F (fun G=>W0 G\/W G) P v w') (hc:zAo (2*zD T.vars) (ShS (zD T.vars)) W N1) (hl:N0+(N+N1)<lim) :
  ∃x:Nat,v=.tuple #[.int .i64 (x:Nat),.nilIface]/\Lr s m lim T q W0 B w F (N+N1) (c+1) ((x,P)::ps) w':=by
 obtain⟨x,e',ns',ss',rfl,h2,h3,h4,h5,h6,h7⟩:=h;obtain⟨rfl,JA⟩:=hr.step hC.cov hC.sh h2 hc hl;have JB:(zB5 ks x true).length<=ks.length+1:=zAd;refine⟨x,rfl,ns',_,ss',JA,h5,fun p hp=>?_,by show(zB5 ks x true).length<=_;omega,by omega,h7⟩;rcases List.mem_cons.1 hp with rfl|hp
 ·exact⟨zDR _ _ _,h4 rfl⟩
 ·exact⟨zNj (hk p hp).kn,(hk p hp).ok.stp hG.ok h2⟩
theorem zPm(a b:Nat)(P Q:List Nat->Bool)(hC:LrC T W0 N0)(hB:Lcl B)(h:Lr s m lim T q W0 B w F N c ps w1)(ha:(a,P)∈ps)(hb:(b,Q)∈ps)(hl:N0+(N+2^(zD T.vars-3))<lim)(hc:c<100000) :
  Calls Tryz.prog 36 [.pointer (some ⟨s,0,none⟩),.int .i64 (a:Nat),.int .i64 (b:Nat)].toArray w1 fun en w'=>∃v,en=.returned v/\∃x:Nat,v=.tuple #[.int .i64 (x:Nat),.nilIface]/\Lr s m lim T q W0 B w F (N+2^(zD T.vars-3)) (c+1) ((x,fun z=>P z||Q z)::ps) w':=by
 obtain⟨ns,ks,ss,hr,hG,hk,JB,JA,hA⟩:=h;refine(zKw a b P Q hG hB hA (hk _ ha) (hk _ hb) (by omega) (W:=fun G=>W0 G\/G=zB7 T.vars fun z=>P z||Q z) (.inr rfl)).mono ?_;rintro en w' ⟨v,rfl,hs⟩;exact⟨v,rfl,zDg hC hr hG hk JB JA hs (zH4 (by omega) (zHG _ _)) hl⟩
theorem zHo(a b:Nat)(P Q:List Nat->Bool)(hC:LrC T W0 N0)(hB:Lcl B)(h:Lr s m lim T q W0 B w F N c ps w1)(ha:(a,P)∈ps)(hb:(b,Q)∈ps)(hl:N0+(N+2^(zD T.vars-3))<lim)(hc:c<100000) :
  Calls Tryz.prog 41 [.pointer (some ⟨s,0,none⟩),.int .i64 (a:Nat),.int .i64 (b:Nat)].toArray w1 fun en w'=>∃v,en=.returned v/\∃x:Nat,v=.tuple #[.int .i64 (x:Nat),.nilIface]/\Lr s m lim T q W0 B w F (N+2^(zD T.vars-3)) (c+1) ((x,fun z=>P z&&Q z)::ps) w':=by
 obtain⟨ns,ks,ss,hr,hG,hk,JB,JA,hA⟩:=h;refine(zFm a b P Q hG hB hA (hk _ ha) (hk _ hb) (by omega) (W:=fun G=>W0 G\/G=zB7 T.vars fun z=>P z&&Q z) (.inr rfl)).mono ?_;rintro en w' ⟨v,rfl,hs⟩;exact⟨v,rfl,zDg hC hr hG hk JB JA hs (zH4 (by omega) (zHG _ _)) hl⟩
theorem zF7(pv:Value)(p:List Go.Tk.Fc){N1:Nat}(hC:LrC T W0 N0)(hB:Lcl B)(h:Lr s m lim T q W0 B w F N c ps w1)(hr:Rds B fun w'=>Vw w' pv fcE p)(hp:zAQ (T.vars.map iN) (p.map faN)=true)(JA:zFt T.vars p)
  (hf:zAo (2*zD T.vars) (ShS (zD T.vars)) (fun G=>∃j,j<p.length/\G=fcB T.vars p j) N1) (hl:N0+(N+(N1+2^(zD T.vars-3)))<lim) (hc:c<100000) :
  Calls Tryz.prog 32 [.pointer (some ⟨s,0,none⟩),pv].toArray w1 fun en w'=>∃v,en=.returned v/\∃x:Nat,v=.tuple #[.int .i64 (x:Nat),.nilIface]/\Lr s m lim T q W0 B w F (N+(N1+2^(zD T.vars-3))) (c+1) ((x,fun z=>hdB z p)::ps) w':=by
 obtain⟨ns,ks,ss,JC,hG,hk,JD,JB,hA⟩:=h;refine(zHk pv p hG hB hA hr hp JA (by omega) (W:=fun G=>W0 G\/((∃j,j<p.length/\G=fcB T.vars p j)\/G=zB7 T.vars fun z=>hdB z p)) hC.lit (hC.fc JA.rng fun j hj=>.inl ⟨j,hj,rfl⟩) (.inr (.inr rfl))).mono ?_;rintro en w' ⟨v,rfl,hs⟩;exact⟨v,rfl,zDg hC JC hG hk JD JB hs (hf.or (zH4 (by omega) (zHG _ _))) hl⟩
theorem zOB{p:List Go.Tk.Fc}(JA:zFt T.vars p){V:Nat}(hV:T.vars.length<=V):zAo (2*zD T.vars) (ShS (zD T.vars)) (fun G=>∃j,j<p.length/\G=fcB T.vars p j) (V*(3*zD T.vars)) :=
 (zAo.eachW (fun j G=>G=fcB T.vars p j) _ fun j _=>(zVA (fun f hf=>(JA.rng f hf).1) j).cov.toR).mono (fun _ h=>h) (Nat.mul_le_mul_right _ (Nat.le_trans (zV0 JA) hV))
theorem zPn(a op:Nat)(o:No)(P:List Nat->Bool)(hT:SmC T)(hC:LrC T W0 N0)(hR:∀G,zIH T o G->W0 G)(hB:Lcl B)(h:Lr s m lim T q W0 B w F N c ps w1)(ha:(a,P)∈ps)(ho:T.ops[op]? = some o)
  (hl:N0+(N+imC (zD T.vars))<lim) (hc:c<100000) :
  Calls Tryz.prog 40 [.pointer (some ⟨s,0,none⟩),.int .i64 (a:Nat),.int .i64 (op:Nat)].toArray w1 fun en w'=>∃v,en=.returned v/\∃x:Nat,v=.tuple #[.int .i64 (x:Nat),.nilIface]/\Lr s m lim T q W0 B w F (N+imC (zD T.vars)) (c+1) ((x,zIO T o P)::ps) w':=by
 obtain⟨ns,ks,ss,JB,hG,hk,JC,JA,hA⟩:=h;refine(zGA a op o P hG hB hA (hk _ ha) ho (by omega) (by omega) (imgW (W:=fun G=>W0 G\/ImgT T o P G) fun G hG=>?_)).mono ?_
 ·rcases hG with h|h
  ·exact .inl (h.elim (fun h=>hC.bas G (.inl (.inl h))) (hR G))
  ·exact .inr h
 rintro en w' ⟨v,rfl,hs⟩;exact⟨v,rfl,zDg hC JB hG hk JC JA hs (zTd hT o P) hl⟩
theorem zIp(a op:Nat)(o:No)(P:List Nat->Bool)(hC:LrC T W0 N0)(hR:∀G,zIH T o G->W0 G)(hB:Lcl B)(h:Lr s m lim T q W0 B w F N c ps w1)(ha:(a,P)∈ps)(ho:T.ops[op]? = some o)
  (hl:N0+(N+prC (zD T.vars))<lim) (hc:c<100000) :
  Calls Tryz.prog 35 [.pointer (some ⟨s,0,none⟩),.int .i64 (a:Nat),.int .i64 (op:Nat)].toArray w1 fun en w'=>∃v,en=.returned v/\∃x:Nat,v=.tuple #[.int .i64 (x:Nat),.nilIface]/\Lr s m lim T q W0 B w F (N+prC (zD T.vars)) (c+1) ((x,zFc o P)::ps) w':=by
 obtain⟨ns,ks,ss,JB,hG,hk,JC,JA,hA⟩:=h;refine(zGX a op o P hG hB hA (hk _ ha) ho (by omega) (by omega) (preW (W:=fun G=>W0 G\/PreT T o P G) fun G hG=>?_)).mono ?_
 ·rcases hG with h|h
  ·exact .inl (h.elim (fun h=>hC.bas G (.inl (.inl h))) (hR G))
  ·exact .inr h
 rintro en w' ⟨v,rfl,hs⟩;exact⟨v,rfl,zDg hC JB hG hk JC JA hs (zTZ T o P) hl⟩
theorem zPo(a:Nat)(P:List Nat->Bool)(hC:LrC T W0 N0)(hB:Lcl B)(h:Lr s m lim T q W0 B w F N c ps w1)(ha:(a,P)∈ps)(hl:N0+(N+3*2^zD T.vars)<lim) :
  Calls Tryz.prog 39 [.pointer (some ⟨s,0,none⟩),.int .i64 (a:Nat)].toArray w1 fun en w'=>∃v,en=.returned v/\v=zQT (ctN T.vars P)/\Lr s m lim T q W0 B w F (N+3*2^zD T.vars) c ps w':=by
 obtain⟨ns,ks,ss,JB,hG,hk,JD,JA,hA⟩:=h;refine(zGG a P hG hB hA (hk _ ha) (W:=fun G=>W0 G\/G=ctF T.vars P) hC.lit (hC.zb (W:=fun G=>G=ctF T.vars P)) (.inr rfl)).mono ?_;rintro en w' ⟨v,rfl,e',ns',rfl,h2,h3,h4⟩;obtain⟨rfl,JC⟩:=JB.step hC.cov hC.sh h2 (cov_g (ctF_g _ _)).toR hl;exact⟨_,rfl,by rw[if_neg (by simp),zRW fun n hn=>(hG.g.vars n hn).2],ns',ks,ss,JC,h3,fun p hp=>⟨(hk p hp).kn,(hk p hp).ok.stp hG.ok h2⟩,JD,JA,h4⟩
theorem Lr.kp0(hB:Lcl B)(h:Lr s m lim T q W0 B w F N c ps w1){w2:World}(k:Kp [] w1 w2):Lr s m lim T q W0 B w F N c ps w2:=by
 obtain⟨ns,ks,ss,JB,hG,hk,JC,JA,hA⟩:=h;exact⟨ns,ks,ss,JB,hG,hk,JC,JA,At.kp0 (zI.lcl hB) hA k⟩
theorem Lr.frame(h:Lr s m lim T q W0 B w F N c ps w1){P:World->Prop}(hP:Rds B P):P w1:=by
 obtain⟨ns,ks,ss,JB,hG,hk,JC,JA,hA⟩:=h;exact zI.frame hA hP
theorem Lr.eq(h:Lr s m lim T q W0 B w F N c ps w1){x y:Nat}{P Q:List Nat->Bool}(hx:(x,P)∈ps)(hy:(y,Q)∈ps)(e:∀z,StN T.vars z->P z=Q z):x=y:=by
 obtain⟨ns,ks,ss,JB,hG,hk,JC,JA,hA⟩:=h;have h1:=(hk _ hx).ok;have h2:=(hk _ hy).ok;refine zTn hG.ok.wf h1.1 h2.1 fun a=>?_;rw[h1.2,h2.2];cases ho:okB T.vars a with
 |false=>rfl
 |true =>show(true&&P (rs T.vars a 0))=(true&&Q (rs T.vars a 0));rw[e _ (zAh.1 ho)]
theorem Lr.mono(h:Lr s m lim T q W0 B w F N c ps w1){N' c':Nat}{ps':List Kp2}(hn:N<=N')(hc:c<=c')(hp:∀p∈ps',p∈ps):Lr s m lim T q W0 B w F N' c' ps' w1:=by
 obtain⟨ns,ks,ss,⟨W,r1,r2⟩,hG,hk,JB,JA,hA⟩:=h;exact⟨ns,ks,ss,⟨W,r1,r2.mono (fun _ h=>h) hn⟩,hG,fun p h=>hk p (hp p h),by omega,by omega,hA⟩
end
end Go.Proofs.YtolkjbmcindhjaaGreat
namespace Go.Proofs.YtolkjbmcindhjaaGreat
open Go Go.W Go.Tk Go.Rx Go.Bd Go.Sy Go.Maps
section
variable {w w1:World} {F:List Nat} {A B:Asr} {s m lim N N0 c:Nat} {T:Nt} {q:SpC} {W0 W:BFn->Prop} {ps:List Kp2}
theorem Lr.less(h:Lr s m lim T q W0 (zC A B) w F N c ps w1):Lr s m lim T q W0 B w F N c ps w1:=by
 obtain⟨ns,ks,ss,JB,hG,hk,JC,JA,hA⟩:=h;exact⟨ns,ks,ss,JB,hG,hk,JC,JA,zI.less hA⟩
theorem Lr.lit{α:Type}{enc:α->List Value}{E sz k:Nat}{xs:List α}{cs:Array Value}(hB:Lcl B)(h:Lr s m lim T q W0 B w F N c ps w1)(JD:cs.toList=xs.flatMap enc)(he:∀x,(enc x).length=sz)(hn:xs.length<=maxLen)(hm:k=xs.length) :
  Lr s m lim T q W0 (zC (zM (.slice (some ⟨w1.heap.size,0,none⟩) k k) E sz enc xs) B) w F N c ps (w1.alloc (.cells cs E)):=by
 obtain⟨ns,ks,ss,JB,hG,hk,JC,JA,hA⟩:=h;exact⟨ns,ks,ss,JB,hG,hk,JC,JA,zI.into (hA.lit (zI.lcl hB) JD he hn hm)⟩
end
end Go.Proofs.YtolkjbmcindhjaaGreat
end
namespace Go.Sy
section
def crd(D:Nat->Bool):Nat->Nat
 |0=>0
 |m+1=>crd D m+if D m=true then 1 else 0
def zFq(m:Nat)(D D':Nat->Bool):Prop:=∀x,x<m->D x=true->D' x=true
theorem zKW{D D':Nat->Bool}:∀{m:Nat},zFq m D D'->crd D m<=crd D' m
 |0,_=>Nat.le_refl _
 |m+1,h=>by
  have ih:=zKW (m:=m) fun x hx=>h x (by omega);have:=h m (by omega);simp only[crd];by_cases hd:D m=true
  ·rw[if_pos hd,if_pos (this hd)];omega
  ·rw[if_neg hd];split<;>omega
theorem zN5{D D':Nat->Bool}:∀{m:Nat},zFq m D D'->(∃x,x<m/\D' x=true/\¬D x=true)->crd D m<crd D' m
 |0,_,⟨x,h,_⟩=>by omega
 |m+1,h,⟨x,hx,h1,h2⟩=>by
  have ih:=zKW (m:=m) fun x hx=>h x (by omega);simp only[crd];by_cases e:x=m
  ·subst e;rw[if_pos h1,if_neg h2];omega
  ·have:=zN5 (m:=m) (fun x hx=>h x (by omega)) ⟨x,by omega,h1,h2⟩;have h3:=h m (by omega);by_cases hd:D m=true
   ·rw[if_pos hd,if_pos (h3 hd)];omega
   ·rw[if_neg hd];split<;>omega
theorem zNw{α:Type}(f:α->Nat)(p:α->Prop):∀l:List α,(∃a∈l,p a)->∃a∈l,p a/\∀b∈l,p b->f b<=f a
 |[],⟨a,h,_⟩=>by cases h
 |x::l,⟨a,h,hp⟩=>by
  by_cases hl:∃a∈l,p a
  ·obtain⟨y,hy,py,hm⟩:=zNw f p l hl;by_cases hx:p x/\f y<f x
   ·refine⟨x,by simp,hx.1,fun b hb pb=>?_⟩;rcases List.mem_cons.1 hb with rfl|hb
    ·exact Nat.le_refl _
    ·have:=hm b hb pb;omega
   ·refine⟨y,by simp[hy],py,fun b hb pb=>?_⟩;rcases List.mem_cons.1 hb with rfl|hb
    ·have:¬f y<f b:=fun h=>hx ⟨pb,h⟩;omega
    ·exact hm b hb pb
  ·have JA:a=x:=by
    rcases List.mem_cons.1 h with e|h
    ·exact e
    ·exact absurd ⟨a,h,hp⟩ hl
   subst JA;refine⟨a,by simp,hp,fun b hb pb=>?_⟩;rcases List.mem_cons.1 hb with rfl|hb
   ·exact Nat.le_refl _
   ·exact absurd ⟨b,hb,pb⟩ hl
theorem zKQ(p:Nat->Prop)(h:∃x,p x):∃x,p x/\∀y,y<x->¬p y:=by
 obtain⟨x,hx⟩:=h
 induction x using Nat.strongRecOn with
 |ind x ih =>
  by_cases h:∃y,y<x/\p y
  ·obtain⟨y,hy,py⟩:=h;exact ih y hy py
  ·exact⟨x,hx,fun y hy py=>h ⟨y,hy,py⟩⟩
def Lam(m:Nat)(D D':Nat->Bool):Prop:=zFq m D D'\/zFq m D' D\/∀x,x<m->¬(D x=true/\D' x=true)
def Two(m:Nat)(D:Nat->Bool)(x:Nat):Prop:=x<m/\D x=true/\∃z,z<x/\D z=true
section
variable {m:Nat} {l:List (Nat->Bool)}
theorem zSx(hl:∀D∈l,∀D'∈l,Lam m D D'){D:Nat->Bool}(hD:D∈l)(h2:∃x,Two m D x) :
  ∃x,Two m D x/\∀D'∈l,zFq m D' D->¬zFq m D D'->D' x=true->¬∃z,z<x/\D' z=true:=by
 refine Classical.byContradiction fun JF=>?_;have key:∀x,Two m D x->∃D'∈l,zFq m D' D/\¬zFq m D D'/\D' x=true/\∃z,z<x/\D' z=true:=fun x hx=>Classical.byContradiction fun h=>JF ⟨x,hx,fun D' h1 h2 h3 h4 h5=>h ⟨D',h1,h2,h3,h4,h5⟩⟩
 -- the least element
 obtain⟨x0,JE,dx0,z0,JD,dz0⟩:=h2;obtain⟨μ,hμ,JB⟩:=zKQ (fun x=>D x=true) ⟨z0,dz0⟩;have hμ0:μ<x0:=Nat.lt_of_le_of_lt (Nat.le_of_not_lt fun h=>JB _ h dz0) JD;have two:∀x,x<m->D x=true->x≠μ->Two m D x:=fun x h1 h2 h3=>⟨h1,h2,μ,by have:¬x<μ:=fun h=>JB _ h h2;omega,hμ⟩
 -- the greatest lesser set with an element has the least one,too
 have big:∀x,x<m->D x=true->x≠μ->∃D'∈l,(zFq m D' D/\¬zFq m D D'/\D' x=true)/\(∀E∈l,(zFq m E D/\¬zFq m D E/\E x=true)->crd E m<=crd D' m)/\D' μ=true:=fun x h1 h2 h3=>by
  obtain⟨E0,e1,e2,e3,e4,_⟩:=key x (two x h1 h2 h3);obtain⟨D',d1,d2,d3⟩:=zNw (fun E=>crd E m) (fun E=>zFq m E D/\¬zFq m D E/\E x=true) l ⟨E0,e1,e2,e3,e4⟩;refine⟨D',d1,d2,d3,Classical.byContradiction fun hn=>?_⟩;obtain⟨y,hy,JA⟩:=zKQ (fun y=>D' y=true) ⟨x,d2.2.2⟩;have JH:y<=x:=Nat.le_of_not_lt fun h=>JA _ h d2.2.2;have JC:y<m:=by omega
  have hyμ:y≠μ:=fun e=>hn (by rw[<-e];exact hy);obtain⟨E,f1,f2,f3,f4,z,hz,f5⟩:=key y (two y JC (d2.1 y JC hy) hyμ);rcases hl D' d1 E f1 with h|h|h
  ·have JG:E x=true:=h x h1 d2.2.2;have:=d3 E f1 ⟨f2,f3,JG⟩;have:=zN5 h ⟨z,by omega,f5,fun h=>JA z hz h⟩;omega
  ·exact JA z hz (h z (by omega) f5)
  ·exact h y JC ⟨hy,f4⟩
 obtain⟨E0,e1,e2,_,_⟩:=big x0 JE dx0 (by omega);obtain⟨E,f1,⟨f2,f3,f4⟩,f5⟩:=zNw (fun E=>crd E m) (fun E=>zFq m E D/\¬zFq m D E/\E μ=true) l ⟨E0,e1,e2.1,e2.2.1,by assumption⟩;refine f3 fun x h1 h2=>?_;by_cases e:x=μ
 ·rw[e];exact f4
 ·obtain⟨D',d1,d2,_,d4⟩:=big x h1 h2 e;have hμm:μ<m:=by omega
  rcases hl E f1 D' d1 with h|h|h
  ·refine Classical.byContradiction fun hn=>?_;have:=f5 D' d1 ⟨d2.1,d2.2.1,d4⟩;have:=zN5 h ⟨x,h1,d2.2.2,hn⟩;omega
  ·exact h x h1 d2.2.2
  ·exact absurd ⟨f4,d4⟩ (h μ hμm)
theorem zM1:∀{l:List Nat} {a m:Nat},l.Nodup->(∀x∈l,a<=x/\x<m)->l.length<=m-a:=by
 intro l a m hn h;have h1:∀(n:Nat) (l:List Nat),l.Nodup->(∀x∈l,a<=x/\x<a+n)->l.length<=n:=by
  intro n
  induction n with
  |zero =>
   intro l _ h;cases l with
   |nil=>exact Nat.le_refl _
   |cons x l=>have:=h x (by simp);omega
  |succ n ih =>
   intro l hn h;have e:=ih (l.erase (a+n)) (hn.erase _) fun x hx=>by have h2:=(List.Nodup.mem_erase_iff hn).1 hx;have:=h x h2.2;have:=h2.1;omega
   have:=List.length_erase_le (a:=a+n) (l:=l);by_cases hm:a+n∈l
   ·rw[List.length_erase_of_mem hm] at e;omega
   ·rw[List.erase_of_not_mem hm] at e;omega
 by_cases ha:a<=m
 ·exact h1 (m-a) l hn fun x hx=>by have:=h x hx;omega
 ·cases l with
  |nil=>simp
  |cons x l=>have:=h x (by simp);omega
theorem zSy(JD:l.Pairwise fun D D'=>¬(zFq m D D'/\zFq m D' D))(h2:∀D∈l,∃x,Two m D x)(hl:∀D∈l,∀D'∈l,Lam m D D'):l.length<=m-1:=by
 have hw:∀D,∃x,D∈l->Two m D x/\∀D'∈l,zFq m D' D->¬zFq m D D'->D' x=true->¬∃z,z<x/\D' z=true:=fun D=>by
  by_cases hD:D∈l
  ·obtain⟨x,hx⟩:=zSx hl hD (h2 D hD);exact⟨x,fun _=>hx⟩
  ·exact⟨0,fun h=>absurd h hD⟩
 obtain⟨f,hf⟩:=Classical.skolem.1 hw;have hn:(l.map f).Nodup:=by
  refine List.pairwise_map.2 (JD.imp_of_mem fun {D D'} hD JB JC e=>JC ?_);obtain⟨⟨a1,a2,a3⟩,a4⟩:=hf D hD;obtain⟨⟨b1,b2,b3⟩,b4⟩:=hf D' JB;rw[<-e] at b2 b3 b4;rcases hl D hD D' JB with h|h|h
  ·refine⟨h,Classical.byContradiction fun JA=>b4 D hD h JA a2 a3⟩
  ·refine⟨Classical.byContradiction fun JA=>a4 D' JB h JA b2 b3,h⟩
  ·exact absurd ⟨a2,b2⟩ (h _ a1)
 have:=zM1 (a:=1) (m:=m) hn fun x hx=>by obtain⟨D,hD,rfl⟩:=List.mem_map.1 hx;obtain⟨⟨a1,a2,z,a3,_⟩,_⟩:=hf D hD;omega
 rwa[List.length_map] at this
end
theorem zKR{α:Type}(P:α->Prop)(M:Nat)(h:∀l:List α,l.Nodup->(∀x∈l,P x)->l.length<=M):∃L:List α,L.length<=M/\∀x,P x->x∈L:=by
 refine Classical.byContradiction fun JA=>?_;have key:∀k,k<=M+1->∃l:List α,l.Nodup/\(∀x∈l,P x)/\l.length=k:=fun k=>by
  induction k with
  |zero=>exact fun _=>⟨[],List.nodup_nil,fun x h=>(by cases h),rfl⟩
  |succ k ih =>
   intro hk;obtain⟨l,h1,h2,h3⟩:=ih (by omega);have:∃x,P x/\x∉l:=Classical.byContradiction fun hn=>JA ⟨l,by omega,fun x hx=>Classical.byContradiction fun hm=>hn ⟨x,hx,hm⟩⟩;obtain⟨x,hx,hm⟩:=this;refine⟨x::l,List.nodup_cons.2 ⟨hm,h1⟩,fun y hy=>?_,by simp[h3]⟩;rcases List.mem_cons.1 hy with rfl|hy
   ·exact hx
   ·exact h2 y hy
 obtain⟨l,h1,h2,h3⟩:=key (M+1) (Nat.le_refl _);have:=h l h1 h2;omega
end
section
open Go.Bd
theorem zH5{n:Nat}{S W:BFn->Prop}(c:Nat->Nat)(h:∀t,t<n->∃L:List BFn,L.length<=c t/\∀G,W G->∀a,Dep (fun b=>G (pfx a t b)) t->(fun b=>G (pfx a t b))∈L\/S fun b=>G (pfx a t b)):zAo n S W ((List.range n).map c).sum:=by
 have h':∀t,∃L:List BFn,t<n->L.length<=c t/\∀G,W G->∀a,Dep (fun b=>G (pfx a t b)) t->(fun b=>G (pfx a t b))∈L\/S fun b=>G (pfx a t b):=fun t=>by
  by_cases ht:t<n
  ·obtain⟨L,hL⟩:=h t ht;exact⟨L,fun _=>hL⟩
  ·exact⟨[],fun h=>absurd h ht⟩
 obtain⟨L,hL⟩:=Classical.skolem.1 h'
 let g:Nat->List BFn:=fun t=>if t<n then L t else []
 refine⟨(List.range n).flatMap g,zBZ g c (fun t=>?_) n,fun G hG t a ht hd=>?_⟩
 ·show(if t<n then L t else []).length<=c t;by_cases ht:t<n
  ·rw[if_pos ht];exact(hL t ht).1
  ·rw[if_neg ht];exact Nat.zero_le _
 ·refine((hL t ht).2 G hG a hd).imp (fun h=>List.mem_flatMap.2 ⟨t,List.mem_range.2 ht,?_⟩) id;show _∈(if t<n then L t else []);rw[if_pos ht];exact h
theorem zNK{b kx:Nat}(P:BFn->Prop)
  (JB:∀K K',P K->P K'->∀c c':Nat->Bool,K c=true->K' c'=true->(∀q,kx<=q->q<b->c (2*q)=c' (2*q))->K c'=true)
  (JD:∀K K',P K->P K'->(∀c,K c=true->K' c=true)\/(∀c,K' c=true->K c=true)\/∀c,¬(K c=true/\K' c=true))
  (h2:∀K,P K->∃c c':Nat->Bool,K c=true/\K c'=true/\∃q,kx<=q/\q<b/\c (2*q)≠c' (2*q)) :
  ∃L:List BFn,L.length<=2^(b-kx)-1/\∀K,P K->K∈L:=by
 refine zKR P _ fun l hn hl=>?_;obtain⟨r,hr⟩:∃r,r=b-kx:=⟨_,rfl⟩;rw[<-hr]
 -- the codes at which a function is true
 have hD:∀K:BFn,∃D:Nat->Bool,∀p,D p=true<->∃c:Nat->Bool,K c=true/\∀i,i<r->c (2*(kx+i))=p.testBit (r-1-i):=fun K=>⟨fun p=>@decide _ (Classical.propDecidable _),fun p=>@decide_eq_true_iff _ (Classical.propDecidable _)⟩;obtain⟨D,hD⟩:=Classical.skolem.1 hD;have code:∀c:Nat->Bool,∃p,p<2^r/\∀i,i<r->c (2*(kx+i))=p.testBit (r-1-i):=fun c=>zDs (fun i=>c (2*(kx+i))) r;have same:∀{c c':Nat->Bool} {p:Nat},(∀i,i<r->c (2*(kx+i))=p.testBit (r-1-i))->(∀i,i<r->c' (2*(kx+i))=p.testBit (r-1-i))->∀q,kx<=q->q<b->c (2*q)=c' (2*q):=fun {c c' p} h h' q h1 h2=>by have e1:=h (q-kx) (by omega);have e2:=h' (q-kx) (by omega);rw[show kx+(q-kx)=q by omega] at e1 e2;rw[e1,e2]
 have sub:∀K K',P K->P K'->zFq (2^r) (D K) (D K')->∀c,K c=true->K' c=true:=fun K K' hK JA h c hc=>by obtain⟨p,hp,hb⟩:=code c;obtain⟨c',h1,h2⟩:=(hD K' p).1 (h p hp ((hD K p).2 ⟨c,hc,hb⟩));exact JB K' K JA hK c' c h1 hc (same h2 hb)
 have key:=zSy (m:=2^r) (l:=l.map D) (List.pairwise_map.2 (hn.imp_of_mem fun {K K'} hK JA JE ⟨s1,s2⟩=>JE (funext fun c=>by
  rw[Bool.eq_iff_iff];exact⟨sub K K' (hl K hK) (hl K' JA) s1 c,sub K' K (hl K' JA) (hl K hK) s2 c⟩))) (fun d hd=>by
  obtain⟨K,hK,rfl⟩:=List.mem_map.1 hd;obtain⟨c,c',h1,h3,q,q1,q2,q3⟩:=h2 K (hl K hK);obtain⟨p,hp,hb⟩:=code c;obtain⟨p',JC,JF⟩:=code c';have JE:p≠p':=fun e=>q3 (same (c:=c) (c':=c') hb (by rw[e];exact JF) q q1 q2);have d1:D K p=true:=(hD K p).2 ⟨c,h1,hb⟩;have d2:D K p'=true:=(hD K p').2 ⟨c',h3,JF⟩;rcases Nat.lt_or_ge p p' with h|h
  ·exact⟨p',JC,d2,p,h,d1⟩
  ·exact⟨p,hp,d1,p',by omega,d2⟩) fun d hd d' JG=>by
  obtain⟨K,hK,rfl⟩:=List.mem_map.1 hd;obtain⟨K',JA,rfl⟩:=List.mem_map.1 JG;rcases JD K K' (hl K hK) (hl K' JA) with h|h|h
  ·refine .inl fun p _ hp=>?_;obtain⟨c,h1,h2⟩:=(hD K p).1 hp;exact(hD K' p).2 ⟨c,h c h1,h2⟩
  ·refine .inr (.inl fun p _ hp=>?_);obtain⟨c,h1,h2⟩:=(hD K' p).1 hp;exact(hD K p).2 ⟨c,h c h1,h2⟩
  ·refine .inr (.inr fun p _ ⟨hp,JC⟩=>?_);obtain⟨c,h1,h2⟩:=(hD K p).1 hp;obtain⟨c',h3,h4⟩:=(hD K' p).1 JC;exact h c' ⟨JB K K' (hl K hK) (hl K' JA) c c' h1 h3 (same h2 h4),h3⟩
 rwa[List.length_map] at key
theorem zPa{n t M:Nat}{F:BFn}{Λ:List (Nat->Bool)}(hF:∀a b:Nat->Bool,(∀i,i<n->a i=b i)->F a=F b)(hM:Λ.length<=M)(hp:∀a,F a=true->∃π∈Λ,∀i,i<n->a i=π i)(ht:t<=n) :
  ∃L:List BFn,L.length<=M/2/\∀a,(∃c c':Nat->Bool,F (pfx a t c)=true/\F (pfx a t c')=true/\∃i,t<=i/\i<n/\c i≠c' i)->(fun b=>F (pfx a t b))∈L:=by
 suffices hs:∀l:List BFn,l.Nodup->(∀K∈l,∃a,K=(fun b=>F (pfx a t b))/\∃c c':Nat->Bool,F (pfx a t c)=true/\F (pfx a t c')=true/\∃i,t<=i/\i<n/\c i≠c' i)->l.length<=M/2 by obtain⟨L,h1,h2⟩:=zKR _ (M/2) hs;exact⟨L,h1,fun a h=>h2 _ ⟨a,rfl,h⟩⟩
 intro l hn hl;have hw:∀K:BFn,∃π:(Nat->Bool)×(Nat->Bool),K∈l->π.1∈Λ/\π.2∈Λ/\(∃i,i<n/\π.1 i≠π.2 i)/\(∀b,K b=F (pfx π.1 t b))/\∀b,K b=F (pfx π.2 t b):=fun K=>by
  by_cases hK:K∈l
  ·obtain⟨a,rfl,c,c',e1,e2,i,i1,i2,i3⟩:=hl K hK;obtain⟨π,m1,m2⟩:=hp _ e1;obtain⟨π',m3,m4⟩:=hp _ e2;have JA:∀{π:Nat->Bool} {c:Nat->Bool},(∀i,i<n->pfx a t c i=π i)->∀b,F (pfx a t b)=F (pfx π t b):=fun {π c} h b=>hF _ _ fun j hj=>by
    unfold pfx;by_cases h4:j<t
    ·have:=h j hj;unfold pfx at this;rw[if_pos h4] at this;rw[if_pos h4,if_pos h4,this]
    ·rw[if_neg h4,if_neg h4]
   refine⟨(π,π'),fun _=>⟨m1,m3,⟨i,i2,fun e=>i3 ?_⟩,JA m2,JA m4⟩⟩;have e3:=m2 i i2;have e4:=m4 i i2;unfold pfx at e3 e4;rw[if_neg (by omega)] at e3 e4;rw[e3,e4];exact e
  ·exact⟨(fun _=>false,fun _=>false),fun h=>absurd h hK⟩
 obtain⟨f,hf⟩:=Classical.skolem.1 hw;have key:∀l':List BFn,l'.Nodup->(∀K∈l',K∈l)->(l'.flatMap fun K=>[(f K).1,(f K).2]).Nodup/\(∀x∈l'.flatMap fun K=>[(f K).1,(f K).2],x∈Λ)/\(l'.flatMap fun K=>[(f K).1,(f K).2]).length=2*l'.length:=fun l'=>by
  induction l' with
  |nil=>exact fun _ _=>⟨List.nodup_nil,fun x h=>(by cases h),rfl⟩
  |cons K l' ih =>
   intro JC JD;rw[List.nodup_cons] at JC;obtain⟨i1,i2,i3⟩:=ih JC.2 fun K' h=>JD K' (List.mem_cons_of_mem _ h);obtain⟨g1,g2,⟨i,_,gi⟩,g3,g4⟩:=hf K (JD K (by simp));rw[List.flatMap_cons];have JB:∀x,x=(f K).1\/x=(f K).2->x∉l'.flatMap fun K=>[(f K).1,(f K).2]:=fun x hx hm=>by
    obtain⟨K',JF,JE⟩:=List.mem_flatMap.1 hm;obtain⟨_,_,_,g3',g4'⟩:=hf K' (JD K' (List.mem_cons_of_mem _ JF));have e1:∀b,K b=F (pfx x t b):=fun b=>by
     rcases hx with rfl|rfl
     ·exact g3 b
     ·exact g4 b
    have e2:∀b,K' b=F (pfx x t b):=fun b=>by
     simp at JE;rcases JE with rfl|rfl
     ·exact g3' b
     ·exact g4' b
    have:K=K':=funext fun b=>(e1 b).trans (e2 b).symm;exact JC.1 (by rw[this];exact JF)
   refine⟨?_,fun x hx=>?_,?_⟩
   ·show([(f K).1,(f K).2]++_).Nodup;rw[List.nodup_append];refine⟨by simp;exact fun e=>gi (by rw[e]),i1,fun x hx y hy e=>?_⟩;subst e;simp at hx;exact JB x hx hy
   ·rcases List.mem_append.1 hx with h|h
    ·simp at h;rcases h with rfl|rfl
     ·exact g1
     ·exact g2
    ·exact i2 x h
   ·rw[List.length_append,i3,List.length_cons];simp;omega
 obtain⟨k1,k2,k3⟩:=key l hn fun _ h=>h;have:=@zAG (Nat->Bool) (fun a b=>Classical.propDecidable (a=b)) _ Λ k1 k2;omega
theorem zAz:∀(ks:List BFn) (G:(Nat->Bool)->Prop),∃Λ:List (Nat->Bool),Λ.length<=2^ks.length/\∀a,G a->∃π∈Λ,G π/\∀f∈ks,f a=f π
 |[],G=>by
  by_cases hx:∃a,G a
  ·obtain⟨a,ha⟩:=hx;exact⟨[a],by simp,fun b hb=>⟨a,by simp,ha,fun f hf=>(by cases hf)⟩⟩
  ·exact⟨[],by simp,fun a ha=>absurd ⟨a,ha⟩ hx⟩
 |f::ks,G=>by
  obtain⟨Λ1,a1,b1⟩:=zAz ks fun a=>G a/\f a=true;obtain⟨Λ2,a2,b2⟩:=zAz ks fun a=>G a/\f a=false;refine⟨Λ1++Λ2,by rw[List.length_append,List.length_cons,Nat.pow_succ];omega,fun a ha=>?_⟩;cases hx:f a with
  |true =>
   obtain⟨π,h1,h2,h3⟩:=b1 a ⟨ha,hx⟩;refine⟨π,List.mem_append_left _ h1,h2.1,fun g hg=>?_⟩;rcases List.mem_cons.1 hg with rfl|hg
   ·rw[hx,h2.2]
   ·exact h3 g hg
  |false =>
   obtain⟨π,h1,h2,h3⟩:=b2 a ⟨ha,hx⟩;refine⟨π,List.mem_append_right _ h1,h2.1,fun g hg=>?_⟩;rcases List.mem_cons.1 hg with rfl|hg
   ·rw[hx,h2.2]
   ·exact h3 g hg
def zWA(l:List (Nat×Bool))(t:Nat):BFn:=fun a=>(l.filter fun p=>decide (p.1<t)).all fun p=>a p.1==p.2
theorem zDS(l:List (Nat×Bool))(t:Nat)(a c:Nat->Bool):zU l (pfx a t c)=(zWA l t a&&zU (l.filter fun p=>decide (t<=p.1)) c):=by
 rw[Bool.eq_iff_iff,Bool.and_eq_true];unfold zU zWA;simp only[List.all_eq_true,List.mem_filter,beq_iff_eq,decide_eq_true_eq];constructor
 ·intro h;refine⟨fun p ⟨hp,JA⟩=>?_,fun p ⟨hp,JB⟩=>?_⟩
  ·have:=h p hp;rwa[pfx,if_pos JA] at this
  ·have:=h p hp;rwa[pfx,if_neg (by omega)] at this
 ·rintro⟨h1,h2⟩ p hp;unfold pfx;by_cases JA:p.1<t
  ·rw[if_pos JA];exact h1 p ⟨hp,JA⟩
  ·rw[if_neg JA];exact h2 p ⟨hp,by omega⟩
theorem zS4{t:Nat}(ls:List (List (Nat×Bool)))(G:BFn)(h:∀a a' c:Nat->Bool,(∀l∈ls,zU l (pfx a t c)=zU l (pfx a' t c))->G (pfx a t c)=G (pfx a' t c)) :
  ∃L:List BFn,L.length<=2^ls.length/\∀a,(fun b=>G (pfx a t b))∈L:=by
 obtain⟨Λ,h1,h2⟩:=zAz (ls.map fun l=>zWA l t) fun _=>True;rw[List.length_map] at h1;refine⟨Λ.map fun π=>fun b=>G (pfx π t b),by rw[List.length_map];exact h1,fun a=>?_⟩;obtain⟨π,h3,_,h4⟩:=h2 a trivial;refine List.mem_map.2 ⟨π,h3,funext fun c=>(h a π c fun l hl=>?_).symm⟩;rw[zDS,zDS,h4 _ (List.mem_map.2 ⟨l,hl,rfl⟩)]
theorem zNx{t:Nat}(G:BFn)(h:∀a a' c:Nat->Bool,(∀q,2*q<t->a (2*q)=a' (2*q))->G (pfx a t c)=G (pfx a' t c)) :
  ∃L:List BFn,L.length<=2^((t+1)/2)/\∀a,(fun b=>G (pfx a t b))∈L:=by
 obtain⟨Λ,h1,h2⟩:=zAz ((List.range ((t+1)/2)).map fun q=>fun a=>a (2*q)) fun _=>True;rw[List.length_map,List.length_range] at h1;refine⟨Λ.map fun π=>fun b=>G (pfx π t b),by rw[List.length_map];exact h1,fun a=>?_⟩;obtain⟨π,h3,_,h4⟩:=h2 a trivial;exact List.mem_map.2 ⟨π,h3,funext fun c=>(h a π c fun q hq=>h4 _ (List.mem_map.2 ⟨q,List.mem_range.2 (by omega),rfl⟩)).symm⟩
def PtB(rel:Nat->Bool)(n t:Nat)(π:Nat->Bool):BFn:=fun c=>(List.range n).all fun i=>decide (i<t) || !rel i||(c i==π i)
theorem zBa{rel:Nat->Bool}{n t:Nat}{π c:Nat->Bool}:PtB rel n t π c=true<->∀i,t<=i->i<n->rel i=true->c i=π i:=by
 unfold PtB;rw[List.all_eq_true];constructor
 ·intro h i h1 h2 h3;have:=h i (List.mem_range.2 h2);rw[h3,decide_eq_false (by omega)] at this;simpa using this
 ·intro h i hi;have hi:=List.mem_range.1 hi;by_cases h1:i<t
  ·rw[decide_eq_true h1];rfl
  ·cases h2:rel i with
   |false=>simp
   |true=>rw[h i (by omega) hi h2];simp
theorem zSY{rel:Nat->Bool}{n t:Nat}{K:BFn}(hK:∀c c':Nat->Bool,(∀i,t<=i->i<n->rel i=true->c i=c' i)->K c=K c'){π:Nat->Bool}(h1:K π=true)(h2:∀c,K c=true->∀i,t<=i->i<n->rel i=true->c i=π i):K=PtB rel n t π:=funext fun c=>by
 rw[Bool.eq_iff_iff,zBa];exact⟨h2 c,fun h=>by rw[hK c π h];exact h1⟩
def PtS(rel:Nat->Bool)(n t0:Nat)(K:BFn):Prop:=∃t π,t0<=t/\t<=n/\K=PtB rel n t π
def zTi(rel:Nat->Bool)(n t:Nat):Nat:=((List.range n).filter fun i=>decide (t<=i)&&rel i).length
theorem zKX(rel:Nat->Bool)(n t0:Nat):zx n (PtS rel n t0) ((List.range n).map fun t=>if t0<=t/\rel t=true then 2^zTi rel n t else 0).sum:=by
 have key:∀t,∃L:List BFn,L.length<=2^zTi rel n t/\∀π,PtB rel n t π∈L:=fun t=>by obtain⟨Λ,h1,h2⟩:=zAz (((List.range n).filter fun i=>decide (t<=i)&&rel i).map fun i=>fun a=>a i) fun _=>True;rw[List.length_map] at h1;refine⟨Λ.map fun π=>PtB rel n t π,by rw[List.length_map];exact h1,fun a=>?_⟩;obtain⟨π,h3,_,h4⟩:=h2 a trivial;refine List.mem_map.2 ⟨π,h3,funext fun c=>?_⟩;rw[Bool.eq_iff_iff,zBa,zBa];have e:∀i,t<=i->i<n->rel i=true->a i=π i:=fun i i1 i2 i3=>h4 (fun a=>a i) (List.mem_map.2 ⟨i,List.mem_filter.2 ⟨List.mem_range.2 i2,by simp[i1,i3]⟩,rfl⟩);exact⟨fun h i i1 i2 i3=>by rw[h i i1 i2 i3,e i i1 i2 i3],fun h i i1 i2 i3=>by rw[h i i1 i2 i3,e i i1 i2 i3]⟩
 obtain⟨L,hL⟩:=Classical.skolem.1 key;have hc:=zH5 (n:=n) (S:=fun _=>False) (W:=PtS rel n t0) (fun t=>if t0<=t/\rel t=true then 2^zTi rel n t else 0) fun t ht=>by
  by_cases h:t0<=t/\rel t=true
  ·refine⟨L t,by rw[if_pos h];exact(hL t).1,fun G hG a hd=>.inl ?_⟩;obtain⟨t',π,h1,h2,rfl⟩:=hG
   -- it depends on the variable,so that it is no later one
   have h3:t'<=t:=Nat.le_of_not_lt fun JA=>by
    obtain⟨x,hx⟩:=hd;apply hx;show PtB rel n t' π (pfx a t (upd x t true))=PtB rel n t' π (pfx a t (upd x t false));rw[Bool.eq_iff_iff,zBa,zBa];have e:∀i,t'<=i->pfx a t (upd x t true) i=pfx a t (upd x t false) i:=fun i hi=>by unfold pfx;rw[if_neg (by omega),if_neg (by omega),zR (by omega),zR (by omega)]
    exact⟨fun h i i1 i2 i3=>by rw[<-e i i1];exact h i i1 i2 i3,fun h i i1 i2 i3=>by rw[e i i1];exact h i i1 i2 i3⟩
   have h4:∀i,t'<=i->i<t->rel i=true->a i=π i:=fun i i1 i2 i3=>by obtain⟨x,hx⟩:=zA1 hd;have:=zBa.1 hx i i1 (by omega) i3;unfold pfx at this;rwa[if_pos i2] at this
   have e:(fun b=>PtB rel n t' π (pfx a t b))=PtB rel n t π:=funext fun x=>by
    rw[Bool.eq_iff_iff];show PtB rel n t' π (pfx a t x)=true<->_;rw[zBa,zBa];constructor
    ·intro h i i1 i2 i3;have:=h i (by omega) i2 i3;unfold pfx at this;rwa[if_neg (by omega)] at this
    ·intro h i i1 i2 i3;unfold pfx;by_cases h5:i<t
     ·rw[if_pos h5];exact h4 i i1 h5 i3
     ·rw[if_neg h5];exact h i (by omega) i2 i3
   rw[e];exact(hL t).2 π
  ·refine⟨[],by simp,fun G hG a hd=>?_⟩;exfalso;obtain⟨t',π,h1,h2,rfl⟩:=hG;obtain⟨x,hx⟩:=hd;apply hx;show PtB rel n t' π (pfx a t (upd x t true))=PtB rel n t' π (pfx a t (upd x t false));rw[Bool.eq_iff_iff,zBa,zBa];have e:∀i,t'<=i->rel i=true->pfx a t (upd x t true) i=pfx a t (upd x t false) i:=fun i hi hr=>by
    unfold pfx;by_cases h5:i<t
    ·rw[if_pos h5,if_pos h5]
    ·have:i≠t:=fun e=>h ⟨by omega,by rw[<-e];exact hr⟩;rw[if_neg h5,if_neg h5,zR this,zR this]
   exact⟨fun h i i1 i2 i3=>by rw[<-e i i1 i3];exact h i i1 i2 i3,fun h i i1 i2 i3=>by rw[e i i1 i3];exact h i i1 i2 i3⟩
 obtain⟨L',l1,l2⟩:=hc;exact⟨L',l1,fun G hG t a ht hd=>(l2 G hG t a ht hd).elim id fun h=>h.elim⟩
end
section
open Go.Bd
theorem zKU:∀(ps qs:List Nat),(ps++qs).Nodup->∃L:List BFn,L.length<=(2^qs.length+1)^2^ps.length/\∀K:BFn,(∀a c:Nat->Bool,(∀i∈ps,a i=c i)->(∀i∈qs,a i=c i)->K a=K c) ->
  (∀a c:Nat->Bool,K a=true->K c=true->(∀i∈ps,a i=c i)->∀i∈qs,a i=c i)->K∈L
 |[],qs,_=>by
  obtain⟨Λ,h1,h2⟩:=zAz (qs.map fun i=>fun a=>a i) fun _=>True;rw[List.length_map] at h1;refine⟨(fun _=>false)::Λ.map fun π=>fun c=>qs.all fun i=>c i==π i,by rw[List.length_cons,List.length_map];simp;exact h1,fun K hK hd=>?_⟩;by_cases h:∃a,K a=true
  ·obtain⟨a,ha⟩:=h;obtain⟨π,h3,_,h4⟩:=h2 a trivial;refine List.mem_cons_of_mem _ (List.mem_map.2 ⟨π,h3,funext fun c=>?_⟩);rw[Bool.eq_iff_iff,List.all_eq_true];have e:∀i∈qs,a i=π i:=fun i hi=>h4 (fun a=>a i) (List.mem_map.2 ⟨i,hi,rfl⟩);constructor
   ·intro h;rw[hK c a (fun i hi=>(by cases hi)) fun i hi=>by have:=h i hi;rw[beq_iff_eq] at this;rw[this,e i hi]];exact ha
   ·intro h i hi;rw[beq_iff_eq,<-e i hi];exact hd c a h ha (fun i hi=>(by cases hi)) i hi
  ·have:K=fun _=>false:=funext fun a=>by
    cases hk:K a with
    |false=>rfl
    |true=>exact absurd ⟨a,hk⟩ h
   rw[this];exact List.mem_cons_self ..
 |p::ps,qs,hn=>by
  rw[List.cons_append,List.nodup_cons] at hn;have hp:p∉ps:=fun h=>hn.1 (List.mem_append_left _ h);have hq:p∉qs:=fun h=>hn.1 (List.mem_append_right _ h);obtain⟨L,a,b⟩:=zKU ps qs hn.2;refine⟨L.flatMap fun K1=>L.map fun K2=>fun x=>if x p then K1 x else K2 x,?_,fun K hK hd=>?_⟩
  ·have:∀(l:List BFn),(l.flatMap fun K1=>L.map fun K2=>(fun x=>if x p then K1 x else K2 x:BFn)).length=l.length*L.length:=fun l=>by
    induction l with
    |nil=>simp
    |cons x l ih=>rw[List.flatMap_cons,List.length_append,ih,List.length_map,List.length_cons,Nat.succ_mul,Nat.add_comm]
   rw[this,List.length_cons,Nat.pow_succ 2 ps.length,Nat.mul_two,Nat.pow_add];exact Nat.mul_le_mul a a
  ·have up:∀(x y:Nat->Bool) (z:Bool) (l:List Nat),p∉l->(∀i∈l,x i=y i)->∀i∈l,upd x p z i=upd y p z i:=fun x y z l hl h i hi=>by have:i≠p:=fun e=>hl (by rw[<-e];exact hi);rw[zR this,zR this];exact h i hi
   have key:∀z,(fun x=>K (upd x p z))∈L:=fun z=>b _ (fun x y h1 h2=>hK _ _ (fun i hi=>by
    rcases List.mem_cons.1 hi with rfl|hi
    ·rw[zs,zs]
    ·exact up x y z ps hp h1 i hi) (up x y z qs hq h2)) fun x y hx hy h1 i hi=>by
    have:=hd _ _ hx hy (fun i hi=>by
     rcases List.mem_cons.1 hi with rfl|hi
     ·rw[zs,zs]
     ·exact up x y z ps hp h1 i hi) i hi
    have JA:i≠p:=fun e=>hq (by rw[<-e];exact hi);rwa[zR JA,zR JA] at this
   refine List.mem_flatMap.2 ⟨_,key true,List.mem_map.2 ⟨_,key false,funext fun x=>?_⟩⟩;have e:∀z,x p=z->upd x p z=x:=fun z hz=>funext fun i=>by
    by_cases e:i=p
    ·subst e;rw[zs,hz]
    ·rw[zR e]
   cases hx:x p with
   |true=>rw[if_pos rfl,e true hx]
   |false=>rw[if_neg (by decide),e false hx]
def zWr(rel:Nat->Bool)(n t:Nat)(K:BFn):Prop:=(∀c c':Nat->Bool,(∀i,t<=i->i<n->rel i=true->c i=c' i)->K c=K c') /\
 ∀c c':Nat->Bool,K c=true->K c'=true->(∀q,t<=2*q->2*q<n->rel (2*q)=true->c (2*q)=c' (2*q))->∀i,t<=i->i<n->rel i=true->c i=c' i
def zIR(rel:Nat->Bool)(n t1:Nat)(K:BFn):Prop:=∃t,t1<=t/\zWr rel n t K
def zRc(rel:Nat->Bool)(n t x:Nat):Nat:=((List.range n).filter fun i=>decide (t<=i)&&decide (i%2=x)&&rel i).length
def zV8(rel:Nat->Bool)(n t1:Nat):Nat:=((List.range n).map fun t=>if t1<=t then(2^zRc rel n t 1+1)^2^zRc rel n t 0 else 0).sum
theorem zWr.part{rel:Nat->Bool}{n t t':Nat}{K:BFn}(h:zWr rel n t K)(ht:t<=t')(a:Nat->Bool):zWr rel n t' fun b=>K (pfx a t' b):=by
 refine⟨fun c c' hc=>h.1 _ _ fun i i1 i2 i3=>?_,fun c c' h1 h2 hc i i1 i2 i3=>?_⟩
 ·unfold pfx;by_cases h4:i<t'
  ·rw[if_pos h4,if_pos h4]
  ·rw[if_neg h4,if_neg h4];exact hc i (by omega) i2 i3
 ·have:=h.2 _ _ h1 h2 (fun q q1 q2 q3=>by
   unfold pfx;by_cases h4:2*q<t'
   ·rw[if_pos h4,if_pos h4]
   ·rw[if_neg h4,if_neg h4];exact hc q (by omega) q2 q3) i (by omega) i2 i3
  unfold pfx at this;rwa[if_neg (by omega),if_neg (by omega)] at this
theorem zEU(rel:Nat->Bool)(n t1:Nat):zx n (zIR rel n t1) (zV8 rel n t1):=by
 have hc:=zH5 (n:=n) (S:=fun _=>False) (W:=zIR rel n t1) (fun t=>if t1<=t then(2^zRc rel n t 1+1)^2^zRc rel n t 0 else 0) fun t ht=>by
  by_cases h:t1<=t
  ·obtain⟨L,l1,l2⟩:=zKU ((List.range n).filter fun i=>decide (t<=i)&&decide (i%2=0)&&rel i) ((List.range n).filter fun i=>decide (t<=i)&&decide (i%2=1)&&rel i) (by rw[List.nodup_append];refine⟨List.Pairwise.filter _ List.nodup_range,List.Pairwise.filter _ List.nodup_range,fun x hx y hy e=>?_⟩;subst e;have h1:=(List.mem_filter.1 hx).2;have h2:=(List.mem_filter.1 hy).2;simp at h1 h2;omega);refine⟨L,by rw[if_pos h];exact l1,fun G hG a hd=>.inl (l2 _ ?_ ?_)⟩
   all_goals
    obtain⟨t',JB,hK⟩:=hG;have JC:t'<=t:=Nat.le_of_not_lt fun JD=>by obtain⟨x,hx⟩:=hd;apply hx;show G (pfx a t (upd x t true))=G (pfx a t (upd x t false));refine hK.1 _ _ fun i i1 i2 i3=>?_;unfold pfx;rw[if_neg (by omega),if_neg (by omega),zR (by omega),zR (by omega)]
    have hP:=hK.part JC a;have mem:∀{x i:Nat},t<=i->i<n->i%2=x->rel i=true->i∈(List.range n).filter fun i=>decide (t<=i)&&decide (i%2=x)&&rel i:=fun h1 h2 h3 h4=>List.mem_filter.2 ⟨List.mem_range.2 h2,by simp[h1,h3,h4]⟩
   ·intro x y h1 h2;refine hP.1 x y fun i i1 i2 i3=>?_;rcases Nat.mod_two_eq_zero_or_one i with h0|h0
    ·exact h1 i (mem i1 i2 h0 i3)
    ·exact h2 i (mem i1 i2 h0 i3)
   ·intro x y hx hy h1 i hi;have JA:=List.mem_filter.1 hi;have h3:=JA.2;simp only[Bool.and_eq_true,decide_eq_true_eq] at h3;exact hP.2 x y hx hy (fun q q1 q2 q3=>h1 _ (mem q1 q2 (by omega) q3)) i h3.1.1 (List.mem_range.1 JA.1) h3.2
  ·refine⟨[],by simp,fun G hG a hd=>?_⟩;exfalso;obtain⟨t',JB,hK⟩:=hG;obtain⟨x,hx⟩:=hd;apply hx;show G (pfx a t (upd x t true))=G (pfx a t (upd x t false));refine hK.1 _ _ fun i i1 i2 i3=>?_;unfold pfx;rw[if_neg (by omega),if_neg (by omega),zR (by omega),zR (by omega)]
 obtain⟨L',l1,l2⟩:=hc;exact⟨L',l1,fun G hG t a ht hd=>(l2 G hG t a ht hd).elim id fun h=>h.elim⟩
def ptM(n t0 t1 M t:Nat):Nat:=if t1<=t then 0 else if t<t0 then min (2^t) M else min (2^t) (M/2)
def ptZ(n t0 t1 M:Nat):Nat:=((List.range n).map (ptM n t0 t1 M)).sum
def zFp(i:Nat):Bool:=true
theorem zMr{n t:Nat}{F:BFn}(hF:∀a b:Nat->Bool,(∀i,i<n->a i=b i)->F a=F b){a c c':Nat->Bool}(h:∀i,t<=i->i<n->c i=c' i):F (pfx a t c)=F (pfx a t c'):=hF _ _ fun i hi=>by
 unfold pfx;by_cases h4:i<t
 ·rw[if_pos h4,if_pos h4]
 ·rw[if_neg h4,if_neg h4];exact h i (by omega) hi
theorem zOj{n t:Nat}{F:BFn}(hF:∀a b:Nat->Bool,(∀i,i<n->a i=b i)->F a=F b):∃L:List BFn,L.length<=2^t/\∀a,(fun b=>F (pfx a t b))∈L:=by
 obtain⟨Λ,h1,h2⟩:=zAz ((List.range t).map fun q=>fun a=>a q) fun _=>True;rw[List.length_map,List.length_range] at h1;refine⟨Λ.map fun π=>fun b=>F (pfx π t b),by rw[List.length_map];exact h1,fun a=>?_⟩;obtain⟨π,h3,_,h4⟩:=h2 a trivial;refine List.mem_map.2 ⟨π,h3,funext fun c=>?_⟩;have e:pfx π t c=pfx a t c:=funext fun i=>by
  unfold pfx;by_cases h5:i<t
  ·rw[if_pos h5,if_pos h5];exact(h4 (fun a=>a i) (List.mem_map.2 ⟨i,List.mem_range.2 h5,rfl⟩)).symm
  ·rw[if_neg h5,if_neg h5]
 rw[e]
theorem zTY{n t0 t1 M:Nat}{S:BFn->Prop}{F:BFn}{Λ:List (Nat->Bool)}(hF:∀a b:Nat->Bool,(∀i,i<n->a i=b i)->F a=F b)(hM:Λ.length<=M)(hp:∀a,F a=true->∃π∈Λ,∀i,i<n->a i=π i)
  (JA:∀a b:Nat->Bool,F a=true->F b=true->(∀q,2*q<n->a (2*q)=b (2*q))->∀i,i<n->a i=b i)
  (JD:∀K,PtS zFp n t0 K->S K) (JC:∀K,zIR zFp n t1 K->S K):zAo n S (fun G=>G=F) (ptZ n t0 t1 M):=by
 refine zH5 (ptM n t0 t1 M) fun t ht=>?_;unfold ptM;by_cases h1:t1<=t
 ·rw[if_pos h1];refine⟨[],by simp,fun G hG a hd=>.inr (JC _ ?_)⟩;subst hG;refine⟨t,h1,fun c c' hc=>zMr hF fun i i1 i2=>hc i i1 i2 rfl,fun c c' e1 e2 hc i i1 i2 _=>?_⟩;have:=JA _ _ e1 e2 (fun q hq=>by
   unfold pfx;by_cases h4:2*q<t
   ·rw[if_pos h4,if_pos h4]
   ·rw[if_neg h4,if_neg h4];exact hc q (by omega) hq rfl) i i2
  unfold pfx at this;rwa[if_neg (by omega),if_neg (by omega)] at this
 rw[if_neg h1];by_cases h0:t<t0
 ·rw[if_pos h0];by_cases hm:2^t<=M
  ·obtain⟨L,l1,l2⟩:=zOj (t:=t) hF;exact⟨L,by rw[Nat.min_eq_left hm];exact l1,fun G hG a _=>.inl (by subst hG;exact l2 a)⟩
  ·refine⟨Λ.map fun π=>fun b=>F (pfx π t b),by rw[List.length_map,Nat.min_eq_right (by omega)];exact hM,fun G hG a hd=>.inl ?_⟩;subst hG;obtain⟨x,hx⟩:=zA1 hd;obtain⟨π,m1,m2⟩:=hp _ hx;refine List.mem_map.2 ⟨π,m1,funext fun c=>hF _ _ fun i hi=>?_⟩;have:=m2 i hi;unfold pfx at this ⊢;by_cases h5:i<t
   ·rw[if_pos h5] at this;rw[if_pos h5,if_pos h5,this]
   ·rw[if_neg h5,if_neg h5]
 rw[if_neg h0]
 -- two points,or one
 have two:∀a,(∃c,F (pfx a t c)=true)->(∃c c':Nat->Bool,F (pfx a t c)=true/\F (pfx a t c')=true/\∃i,t<=i/\i<n/\c i≠c' i)\/S fun b=>F (pfx a t b):=fun a ⟨π,hπ⟩=>by
  by_cases h:∃c c':Nat->Bool,F (pfx a t c)=true/\F (pfx a t c')=true/\∃i,t<=i/\i<n/\c i≠c' i
  ·exact .inl h
  ·refine .inr (JD _ ⟨t,π,by omega,by omega,zSY (fun c c' hc=>zMr hF fun i i1 i2=>hc i i1 i2 rfl) hπ fun c hc i i1 i2 _=>?_⟩);exact Classical.byContradiction fun JB=>h ⟨c,π,hc,hπ,i,i1,i2,JB⟩
 by_cases hm:2^t<=M/2
 ·obtain⟨L,l1,l2⟩:=zOj (t:=t) hF;exact⟨L,by rw[Nat.min_eq_left hm];exact l1,fun G hG a _=>.inl (by subst hG;exact l2 a)⟩
 ·obtain⟨L,l1,l2⟩:=zPa hF hM hp (t:=t) (by omega);refine⟨L,by rw[Nat.min_eq_right (by omega)];exact l1,fun G hG a hd=>?_⟩;subst hG;exact(two a (zA1 hd)).imp (l2 a) id
end
section
open Go.Bd
def rlF(b:Nat)(sb:Nat->BFn)(f:Nat):BFn:=fun a=>(List.range b).all fun q=>decide (q<f)||(a (2*q+1)==sb q a)
theorem zy{b:Nat}{sb:Nat->BFn}{f:Nat}{a:Nat->Bool}:rlF b sb f a=true<->∀q,f<=q->q<b->a (2*q+1)=sb q a:=by
 unfold rlF;rw[List.all_eq_true];constructor
 ·intro h q h1 h2;have:=h q (List.mem_range.2 h2);rw[decide_eq_false (by omega),Bool.false_or,beq_iff_eq] at this;exact this
 ·intro h q hq;have hq:=List.mem_range.1 hq;by_cases hf:q<f
  ·rw[decide_eq_true hf];rfl
  ·rw[h q (by omega) hq];simp
def EvD(b:Nat)(sb:Nat->BFn):Prop:=∀q,q<b->∀a c:Nat->Bool,(∀p,p<b->a (2*p)=c (2*p))->sb q a=sb q c
def zMe(f i:Nat):Bool:=decide (i%2=0)||decide (f<=i/2)
def rlM(b t0 t1 t:Nat):Nat:=if t1<=t then 0 else(if t%2=0 then((List.range b).map fun f=>if t/2<f then 2^(t/2) else 0).sum else 0) +
 (if t<t0 then((List.range b).map fun f=>if f<=t/2 then 2^((t+1)/2+(t/2-f)) else 0).sum else 2^b-2^((t+1)/2))
theorem z7{a c:Nat->Bool}{t i:Nat}(h:i<t):pfx a t c i=a i:=by unfold pfx;rw[if_pos h]
theorem zAL{a c:Nat->Bool}{t i:Nat}(h:t<=i):pfx a t c i=c i:=by unfold pfx;rw[if_neg (by omega)]
theorem zAW{a a' c c':Nat->Bool}{t i:Nat}(h1:i<t->a i=a' i)(h2:t<=i->c i=c' i):pfx a t c i=pfx a' t c' i:=by
 by_cases h:i<t
 ·rw[z7 h,z7 h,h1 h]
 ·rw[zAL (by omega),zAL (by omega),h2 (by omega)]
section
variable {b t0 t1:Nat} {sb:Nat->BFn} {S:BFn->Prop} (hsb:EvD b sb)
include hsb
theorem zHb{f t:Nat}(hf:t/2<f)(ht:t%2=1)(a:Nat->Bool):¬Dep (fun c=>rlF b sb f (pfx a t c)) t:=by
 rintro⟨x,hx⟩;apply hx;show rlF b sb f (pfx a t (upd x t true))=rlF b sb f (pfx a t (upd x t false));have e:∀i,i≠t->pfx a t (upd x t true) i=pfx a t (upd x t false) i:=fun i hi=>zAW (fun _=>rfl) fun _=>by rw[zR hi,zR hi]
 have e2:∀q,q<b->sb q (pfx a t (upd x t true))=sb q (pfx a t (upd x t false)):=fun q hq=>hsb q hq _ _ fun p _=>e _ (by omega);rw[Bool.eq_iff_iff,zy,zy];exact⟨fun h q h1 h2=>by rw[<-e _ (by omega),<-e2 q h2];exact h q h1 h2,fun h q h1 h2=>by rw[e _ (by omega),e2 q h2];exact h q h1 h2⟩
theorem zId{f t:Nat}{a a' c:Nat->Bool}(h1:∀q,2*q<t->a (2*q)=a' (2*q))(h2:∀q,f<=q->2*q+1<t->a (2*q+1)=a' (2*q+1)):rlF b sb f (pfx a t c)=rlF b sb f (pfx a' t c):=by
 have e2:∀q,q<b->sb q (pfx a t c)=sb q (pfx a' t c):=fun q hq=>hsb q hq _ _ fun p _=>zAW (h1 p) fun _=>rfl;have e:∀q,f<=q->pfx a t c (2*q+1)=pfx a' t c (2*q+1):=fun q hq=>zAW (h2 q hq) fun _=>rfl;rw[Bool.eq_iff_iff,zy,zy];exact⟨fun h q h1 h2=>by rw[<-e q h1,<-e2 q h2];exact h q h1 h2,fun h q h1 h2=>by rw[e q h1,e2 q h2];exact h q h1 h2⟩
theorem zIe{f:Nat}{a a':Nat->Bool}(h:∀i,i<2*b->a i=a' i):rlF b sb f a=rlF b sb f a':=by
 have e2:∀q,q<b->sb q a=sb q a':=fun q hq=>hsb q hq _ _ fun p _=>h _ (by omega);rw[Bool.eq_iff_iff,zy,zy];exact⟨fun h' q h1 h2=>by rw[<-h _ (by omega),<-e2 q h2];exact h' q h1 h2,fun h' q h1 h2=>by rw[h _ (by omega),e2 q h2];exact h' q h1 h2⟩
theorem zIf{f t:Nat}{a a' c c':Nat->Bool}(h1:rlF b sb f (pfx a t c)=true)(h2:rlF b sb f (pfx a' t c')=true)(ha:∀q,2*q<t->a (2*q)=a' (2*q))(hc:∀q,t<=2*q->q<b->c (2*q)=c' (2*q)) :
  ∀q,f<=q->q<b->pfx a t c (2*q+1)=pfx a' t c' (2*q+1):=fun q hq hb=>by
 rw[zy.1 h1 q hq hb,zy.1 h2 q hq hb];exact hsb q hb _ _ fun p hp=>zAW (ha p) fun h=>hc p h hp
theorem zTX(JI:∀K,PtS zFp (2*b) t0 K->S K)(JH:∀K,zIR zFp (2*b) t1 K->S K)(JG:∀f K,t1/2<f->f<b->zIR (zMe f) (2*b) t1 K->S K) :
  zAo (2*b) S (fun G=>∃f,f<b/\G=rlF b sb f) ((List.range (2*b)).map (rlM b t0 t1)).sum:=by
 refine zH5 (rlM b t0 t1) fun t ht=>?_;unfold rlM;by_cases h1:t1<=t
 ·rw[if_pos h1];refine⟨[],by simp,?_⟩;rintro G ⟨f,hf,rfl⟩ a hd;right;by_cases JA:t/2<f
  ·by_cases ho:t%2=1
   ·exact absurd hd (zHb hsb JA ho a)
   ·refine JG f _ (by omega) hf ⟨t,h1,fun c c' hc=>?_,fun c c' e1 e2 hc i i1 i2 i3=>?_⟩
    ·have e2:∀q,q<b->sb q (pfx a t c)=sb q (pfx a t c'):=fun q hq=>hsb q hq _ _ fun p hp=>zAW (fun _=>rfl) fun h=>hc _ h (by omega) (by unfold zMe;simp);have e:∀q,f<=q->q<b->pfx a t c (2*q+1)=pfx a t c' (2*q+1):=fun q hq JC=>zAW (fun _=>rfl) fun h=>hc _ h (by omega) (by unfold zMe;rw[show(2*q+1)/2=q by omega];simp[hq]);rw[Bool.eq_iff_iff,zy,zy];exact⟨fun h q h1 h2=>by rw[<-e q h1 h2,<-e2 q h2];exact h q h1 h2,fun h q h1 h2=>by rw[e q h1 h2,e2 q h2];exact h q h1 h2⟩
    ·rcases Nat.mod_two_eq_zero_or_one i with h0|h0
     ·have:=hc (i/2) (by omega) (by omega) (by unfold zMe;simp);rwa[show 2*(i/2)=i by omega] at this
     ·have JE:f<=i/2:=by unfold zMe at i3;rw[h0] at i3;simpa using i3
      have:=zIf hsb e1 e2 (fun _ _=>rfl) (fun q h hq=>hc q h (by omega) (by unfold zMe;simp)) (i/2) JE (by omega);rw[show 2*(i/2)+1=i by omega,zAL i1,zAL i1] at this;exact this
  ·refine JH _ ⟨t,h1,fun c c' hc=>zIe hsb fun i hi=>zAW (fun _=>rfl) fun h=>hc i h hi rfl,fun c c' e1 e2 hc i i1 i2 i3=>?_⟩;rcases Nat.mod_two_eq_zero_or_one i with h0|h0
   ·have:=hc (i/2) (by omega) (by omega) rfl;rwa[show 2*(i/2)=i by omega] at this
   ·have:=zIf hsb e1 e2 (fun _ _=>rfl) (fun q h hq=>hc q h (by omega) rfl) (i/2) (by omega) (by omega);rw[show 2*(i/2)+1=i by omega,zAL i1,zAL i1] at this;exact this
 rw[if_neg h1]
 -- those that do not read the successor yet
 have A:∃L:List BFn,L.length<=(if t%2=0 then((List.range b).map fun f=>if t/2<f then 2^(t/2) else 0).sum else 0)/\∀f,f<b->t/2<f->∀a,Dep (fun c=>rlF b sb f (pfx a t c)) t->(fun c=>rlF b sb f (pfx a t c))∈L:=by
  by_cases ho:t%2=0
  ·rw[if_pos ho];have hl:∀f,∃L:List BFn,L.length<=2^((t+1)/2)/\(t/2<f->∀a,(fun c=>rlF b sb f (pfx a t c))∈L):=fun f=>by
    by_cases hf:t/2<f
    ·obtain⟨L,l1,l2⟩:=zNx (t:=t) (rlF b sb f) fun a a' c h=>zId hsb h fun q h1 h2=>by omega
     exact⟨L,l1,fun _=>l2⟩
    ·exact⟨[],by simp,fun h=>absurd h hf⟩
   obtain⟨L,hL⟩:=Classical.skolem.1 hl;refine⟨(List.range b).flatMap fun f=>if t/2<f then L f else [],zBZ _ _ (fun f=>?_) b,fun f hf JA a _=>List.mem_flatMap.2 ⟨f,List.mem_range.2 hf,by rw[if_pos JA];exact(hL f).2 JA a⟩⟩;by_cases hf:t/2<f
   ·rw[if_pos hf,if_pos hf];have:=(hL f).1;rwa[show(t+1)/2=t/2 by omega] at this
   ·rw[if_neg hf,if_neg hf];exact Nat.le_refl _
  ·rw[if_neg ho];exact⟨[],by simp,fun f _ hf a hd=>absurd hd (zHb hsb hf (by omega) a)⟩
 -- the others
 have B:∃L:List BFn,L.length<=(if t<t0 then((List.range b).map fun f=>if f<=t/2 then 2^((t+1)/2+(t/2-f)) else 0).sum else 2^b-2^((t+1)/2))/\∀f,f<b->f<=t/2->∀a,Dep (fun c=>rlF b sb f (pfx a t c)) t->(fun c=>rlF b sb f (pfx a t c))∈L\/S fun c=>rlF b sb f (pfx a t c):=by
  by_cases h0:t<t0
  ·rw[if_pos h0];have hl:∀f,∃L:List BFn,L.length<=2^((t+1)/2+(t/2-f))/\∀a,(fun c=>rlF b sb f (pfx a t c))∈L:=fun f=>by
    obtain⟨Λ,h1,h2⟩:=zAz (((List.range ((t+1)/2)).map fun q=>fun a=>a (2*q))++((List.range (t/2-f)).map fun q=>fun a=>a (2*(f+q)+1))) fun _=>True;rw[List.length_append,List.length_map,List.length_map,List.length_range,List.length_range] at h1;refine⟨Λ.map fun π=>fun c=>rlF b sb f (pfx π t c),by rw[List.length_map];exact h1,fun a=>?_⟩;obtain⟨π,h3,_,h4⟩:=h2 a trivial;refine List.mem_map.2 ⟨π,h3,funext fun c=>(zId hsb (fun q hq=>?_) fun q h5 h6=>?_).symm⟩
    ·exact h4 (fun a=>a (2*q)) (List.mem_append_left _ (List.mem_map.2 ⟨q,List.mem_range.2 (by omega),rfl⟩))
    ·have:=h4 (fun a=>a (2*(f+(q-f))+1)) (List.mem_append_right _ (List.mem_map.2 ⟨q-f,List.mem_range.2 (by omega),rfl⟩));rwa[show f+(q-f)=q by omega] at this
   obtain⟨L,hL⟩:=Classical.skolem.1 hl;refine⟨(List.range b).flatMap fun f=>if f<=t/2 then L f else [],zBZ _ _ (fun f=>?_) b,fun f hf JA a _=>.inl (List.mem_flatMap.2 ⟨f,List.mem_range.2 hf,by rw[if_pos JA];exact(hL f).2 a⟩)⟩;by_cases hf:f<=t/2
   ·rw[if_pos hf,if_pos hf];exact(hL f).1
   ·rw[if_neg hf,if_neg hf];exact Nat.le_refl _
  ·rw[if_neg h0];obtain⟨Λ,l1,l2⟩:=zAz ((List.range ((t+1)/2)).map fun q=>fun a=>a (2*q)) fun _=>True;rw[List.length_map,List.length_range] at l1;have hl:∀π:Nat->Bool,∃L:List BFn,L.length<=2^(b-(t+1)/2)-1/\∀K,(∃f a,f<=t/2/\(∀q,2*q<t->a (2*q)=π (2*q))/\K=(fun c=>rlF b sb f (pfx a t c))/\∃c c':Nat->Bool,K c=true/\K c'=true/\∃q,(t+1)/2<=q/\q<b/\c (2*q)≠c' (2*q))->K∈L:=fun π=>by
    refine zNK _ ?_ ?_ ?_
    ·rintro K K' ⟨f,a,hf,ha,rfl,_⟩ ⟨f',a',JF,JB,rfl,_⟩ c c' h1 h2 hc;have h1:rlF b sb f (pfx a t c)=true:=h1;have h2:rlF b sb f' (pfx a' t c')=true:=h2;show rlF b sb f (pfx a t c')=true;rw[zy] at h1 h2 ⊢;have ev:∀p,p<b->pfx a t c (2*p)=pfx a t c' (2*p):=fun p hp=>zAW (fun _=>rfl) fun h=>hc p (by omega) hp;have ev':∀p,p<b->pfx a' t c' (2*p)=pfx a t c' (2*p):=fun p hp=>zAW (fun h=>by rw[ha p h,JB p h]) fun _=>rfl;intro q h3 h4;by_cases h5:2*q+1<t
     ·rw[z7 h5,<-hsb q h4 _ _ ev,<-h1 q h3 h4,z7 h5]
     ·have:=h2 q (by omega) h4;rw[zAL (by omega)] at this;rw[zAL (by omega),this];exact hsb q h4 _ _ ev'
    ·rintro K K' ⟨f,a,hf,ha,rfl,_⟩ ⟨f',a',JF,JB,rfl,_⟩;have key:∀{f f':Nat} {a a':Nat->Bool},(∀q,2*q<t->a (2*q)=π (2*q))->(∀q,2*q<t->a' (2*q)=π (2*q))->f<=f'->(∃c,rlF b sb f (pfx a t c)=true/\rlF b sb f' (pfx a' t c)=true)->∀c,rlF b sb f (pfx a t c)=true->rlF b sb f' (pfx a' t c)=true:=fun {f f' a a'} ha JB JK ⟨x,x1,x2⟩ c hc=>by
      have e:rlF b sb f' (pfx a t c)=rlF b sb f' (pfx a' t c):=zId hsb (fun q hq=>by rw[ha q hq,JB q hq]) fun q h1 h2=>by
       by_cases JC:q<b
       ·have e1:=zy.1 x1 q (by omega) JC;have e2:=zy.1 x2 q h1 JC;rw[z7 h2] at e1 e2;rw[e1,e2];exact hsb q JC _ _ fun p _=>zAW (fun h=>by rw[ha p h,JB p h]) fun _=>rfl
       ·omega
      rw[<-e,zy];exact fun q h1 h2=>zy.1 hc q (by omega) h2
     by_cases hx:∃c,rlF b sb f (pfx a t c)=true/\rlF b sb f' (pfx a' t c)=true
     ·rcases Nat.le_total f f' with h|h
      ·exact .inl (key ha JB h hx)
      ·obtain⟨c,c1,c2⟩:=hx;exact .inr (.inl (key JB ha h ⟨c,c2,c1⟩))
     ·exact .inr (.inr fun c hc=>hx ⟨c,hc⟩)
    ·rintro K ⟨f,a,hf,ha,e,h⟩;exact h
   obtain⟨L,hL⟩:=Classical.skolem.1 hl;refine⟨Λ.flatMap L,?_,fun f hf JA a hd=>?_⟩
   ·have:∀l:List (Nat->Bool),(l.flatMap L).length<=l.length*(2^(b-(t+1)/2)-1):=fun l=>by
     induction l with
     |nil=>simp
     |cons x l ih=>rw[List.flatMap_cons,List.length_append,List.length_cons,Nat.succ_mul];have:=(hL x).1;omega
    refine Nat.le_trans (this Λ) (Nat.le_trans (Nat.mul_le_mul_right _ l1) (Nat.le_of_eq ?_));rw[Nat.mul_sub,Nat.mul_one,<-Nat.pow_add,show(t+1)/2+(b-(t+1)/2)=b by omega]
   ·obtain⟨π,m1,_,m2⟩:=l2 a trivial;have ha:∀q,2*q<t->a (2*q)=π (2*q):=fun q hq=>m2 (fun a=>a (2*q)) (List.mem_map.2 ⟨q,List.mem_range.2 (by omega),rfl⟩);by_cases h2:∃c c':Nat->Bool,rlF b sb f (pfx a t c)=true/\rlF b sb f (pfx a t c')=true/\∃q,(t+1)/2<=q/\q<b/\c (2*q)≠c' (2*q)
    ·exact .inl (List.mem_flatMap.2 ⟨π,m1,(hL π).2 _ ⟨f,a,JA,ha,rfl,h2⟩⟩)
    ·obtain⟨x,hx⟩:=zA1 hd;refine .inr (JI _ ⟨t,x,by omega,by omega,zSY (K:=fun c=>rlF b sb f (pfx a t c)) (fun c c' hc=>zIe hsb fun i hi=>zAW (fun _=>rfl) fun h=>hc i h hi rfl) hx fun c hc i i1 i2 _=>?_⟩);have ev:∀q,t<=2*q->q<b->c (2*q)=x (2*q):=fun q h3 h4=>Classical.byContradiction fun JD=>h2 ⟨c,x,hc,hx,q,by omega,h4,JD⟩;rcases Nat.mod_two_eq_zero_or_one i with h0|h0
     ·have:=ev (i/2) (by omega) (by omega);rwa[show 2*(i/2)=i by omega] at this
     ·have:=zIf hsb hc hx (fun _ _=>rfl) ev (i/2) (by omega) (by omega);rwa[show 2*(i/2)+1=i by omega,zAL i1,zAL i1] at this
 obtain⟨LA,a1,a2⟩:=A;obtain⟨LB,b1,b2⟩:=B;refine⟨LA++LB,by rw[List.length_append];omega,?_⟩;rintro G ⟨f,hf,rfl⟩ a hd;by_cases JA:t/2<f
 ·exact .inl (List.mem_append_left _ (a2 f hf JA a hd))
 ·exact(b2 f hf (by omega) a hd).imp (List.mem_append_right _) id
end
def parR(x i:Nat):Bool:=decide (i%2=x)
def zUK(b nx i:Nat):Bool:=decide (i<2*b/\i%2=nx)
end
section
open Go.Bd
structure Eff where
 E:Nat
 lab:Nat->Nat
 con:Nat->List (Nat×Bool)
 val:Nat->Nat->Bool
section
variable (X:Eff)
def Eff.laK(v:Nat)(a:Nat->Bool):Nat->Option Nat
 |0=>none
 |k+1=>if X.lab k=v/\zU (X.con k) a=true then some k else Eff.laK v a k
def Eff.la(v:Nat)(a:Nat->Bool):Option Nat:=X.laK v a X.E
theorem Eff.laK_some{v i:Nat}{a:Nat->Bool}:∀k,X.laK v a k=some i<->i<k/\X.lab i=v/\zU (X.con i) a=true/\∀i',i<i'->i'<k->X.lab i'=v->¬zU (X.con i') a=true
 |0=>by simp[Eff.laK]
 |k+1=>by
  unfold Eff.laK;by_cases h:X.lab k=v/\zU (X.con k) a=true
  ·rw[if_pos h];constructor
   ·intro e;injection e with e;subst e;exact⟨by omega,h.1,h.2,fun i' h1 h2=>by omega⟩
   ·rintro⟨h1,h2,h3,h4⟩;have:i=k:=Classical.byContradiction fun JA=>h4 k (by omega) (by omega) h.1 h.2;rw[this]
  ·rw[if_neg h,Eff.laK_some k];constructor
   ·rintro⟨h1,h2,h3,h4⟩;refine⟨by omega,h2,h3,fun i' h5 h6 h7 h8=>?_⟩;by_cases e:i'=k
    ·subst e;exact h ⟨h7,h8⟩
    ·exact h4 i' h5 (by omega) h7 h8
   ·rintro⟨h1,h2,h3,h4⟩;have:i≠k:=fun e=>by subst e;exact h ⟨h2,h3⟩
    exact⟨by omega,h2,h3,fun i' h5 h6=>h4 i' h5 (by omega)⟩
theorem Eff.la_some{v i:Nat}{a:Nat->Bool}:X.la v a=some i<->i<X.E/\X.lab i=v/\zU (X.con i) a=true/\∀i',i<i'->i'<X.E->X.lab i'=v->¬zU (X.con i') a=true:=X.laK_some X.E
theorem Eff.la_ge{v i j:Nat}{a a':Nat->Bool}(h:∀i,j<=i->i<X.E->X.lab i=v->zU (X.con i) a=zU (X.con i) a')(hi:j<=i):X.la v a=some i<->X.la v a'=some i:=by
 rw[X.la_some,X.la_some];constructor
 ·rintro⟨h1,h2,h3,h4⟩;exact⟨h1,h2,by rw[<-h i hi h1 h2];exact h3,fun i' h5 h6 h7=>by rw[<-h i' (by omega) h6 h7];exact h4 i' h5 h6 h7⟩
 ·rintro⟨h1,h2,h3,h4⟩;exact⟨h1,h2,by rw[h i hi h1 h2];exact h3,fun i' h5 h6 h7=>by rw[h i' (by omega) h6 h7];exact h4 i' h5 h6 h7⟩
theorem Eff.la_eq{v:Nat}{a a':Nat->Bool}(h:∀i,i<X.E->X.lab i=v->zU (X.con i) a=zU (X.con i) a'):X.la v a=X.la v a':=by
 have key:=fun i=>X.la_ge (v:=v) (j:=0) (i:=i) (fun i _=>h i) (Nat.zero_le _);cases h1:X.la v a with
 |some i=>rw[(key i).1 h1]
 |none =>
  cases h2:X.la v a' with
  |none=>rfl
  |some i=>rw[(key i).2 h2] at h1;cases h1
def Eff.sv(v q:Nat)(a:Nat->Bool):Bool:=match X.la v a with|some i=>X.val i q|none=>a (2*q)
def Eff.cnt(v j:Nat):Nat:=((List.range X.E).filter fun i=>decide (j<=i)&&decide (X.lab i=v)).length
def Eff.Ok(b:Nat):Prop:=∀j,j<X.E->∀p∈X.con j,p.1%2=0/\p.1<2*b
theorem zN2{b:Nat}{l:List (Nat×Bool)}(hl:∀p∈l,p.1%2=0/\p.1<2*b){a c:Nat->Bool}(h:∀q,q<b->a (2*q)=c (2*q)):zU l a=zU l c:=by
 unfold zU;refine Bool.eq_iff_iff.2 ?_;rw[List.all_eq_true,List.all_eq_true];have e:∀p∈l,a p.1=c p.1:=fun p hp=>by have:=hl p hp;have:=h (p.1/2) (by omega);rwa[show 2*(p.1/2)=p.1 by omega] at this
 exact⟨fun h1 p hp=>by rw[<-e p hp];exact h1 p hp,fun h1 p hp=>by rw[e p hp];exact h1 p hp⟩
end
section
variable {X:Eff} {b:Nat} (hX:X.Ok b)
include hX
theorem zNM{v:Nat}{a c:Nat->Bool}(h:∀q,q<b->a (2*q)=c (2*q)):X.la v a=X.la v c:=X.la_eq fun i hi _=>zN2 (hX i hi) h
theorem zKy{v q:Nat}(hq:q<b){a c:Nat->Bool}(h:∀q,q<b->a (2*q)=c (2*q)):X.sv v q a=X.sv v q c:=by
 unfold Eff.sv;rw[zNM hX h,h q hq]
def kN(X:Eff)(t v j:Nat):Nat:=min (2^((t+1)/2)) (2^X.cnt v j)
theorem zNO{t v j:Nat}(G:BFn)(h:∀a a' c:Nat->Bool,(∀i,j<=i->i<X.E->X.lab i=v->zU (X.con i) (pfx a t c)=zU (X.con i) (pfx a' t c))->G (pfx a t c)=G (pfx a' t c)) :
  ∃L:List BFn,L.length<=kN X t v j/\∀a,(fun c=>G (pfx a t c))∈L:=by
 unfold kN;by_cases hm:2^((t+1)/2)<=2^X.cnt v j
 ·rw[Nat.min_eq_left hm];exact zNx G fun a a' c hh=>h a a' c fun i h1 h2 h3=>zN2 (hX i h2) fun q hq=>zAW (hh q) fun _=>rfl
 ·rw[Nat.min_eq_right (by omega)];obtain⟨L,l1,l2⟩:=zS4 (t:=t) (((List.range X.E).filter fun i=>decide (j<=i)&&decide (X.lab i=v)).map X.con) G fun a a' c hh=>h a a' c fun i h1 h2 h3=>hh _ (List.mem_map.2 ⟨i,List.mem_filter.2 ⟨List.mem_range.2 h2,by simp[h1,h3]⟩,rfl⟩);rw[List.length_map] at l1;exact⟨L,l1,l2⟩
end
theorem zLa(P:(Nat->Bool)->Prop):∃G:BFn,∀a,G a=true<->P a:=⟨fun a=>@decide _ (Classical.propDecidable _),fun a=>@decide_eq_true_iff _ (Classical.propDecidable _)⟩
structure Bts where
 sB:Nat->Nat
 eB:Nat->Nat
def FX(X:Eff)(Y:Bts)(G:BFn):Prop:=∃j,j<X.E/\((∀a,G a=true<->X.la (X.lab j) a=some j)\/(∀a,G a=true<->∀i,X.la (X.lab j) a=some i->i<j) \/
 ∀a,G a=true<->∃i,X.la (X.lab j) a=some i/\j<=i/\∀q,Y.sB (X.lab j)<=q->q<Y.eB (X.lab j)->X.val i q=X.val j q)
def xM(X:Eff)(b t:Nat):Nat:=if t%2=0/\t<2*(b-3) then((List.range X.E).map fun j=>3*kN X t (X.lab j) j).sum else 0
section
variable {X:Eff} {Y:Bts} {b t0 t1:Nat} {S:BFn->Prop} (hX:X.Ok b)
include hX
theorem zVw{G:BFn}(h:FX X Y G){a c:Nat->Bool}(hh:∀q,q<b->a (2*q)=c (2*q)):G a=G c:=by
 obtain⟨j,hj,h⟩:=h;have e:=zNM hX (v:=X.lab j) hh;rw[Bool.eq_iff_iff];rcases h with h|h|h<;>rw[h,h,e]
theorem lev_x(hS:∀K:BFn,(∀a c:Nat->Bool,(∀p,b-3<=p->p<b->a (2*p)=c (2*p))->K a=K c)->S K)(t:Nat):∃L:List BFn,L.length<=xM X b t/\∀G,FX X Y G->∀a,Dep (fun c=>G (pfx a t c)) t->(fun c=>G (pfx a t c))∈L\/S fun c=>G (pfx a t c):=by
 unfold xM;have nd:∀G,FX X Y G->∀a,Dep (fun c=>G (pfx a t c)) t->t%2=0:=fun G hG a ⟨x,hx⟩=>Classical.byContradiction fun ho=>hx (zVw hX hG fun q _=>zAW (fun _=>rfl) fun _=>by rw[zR (by omega),zR (by omega)]);by_cases hc:t%2=0/\t<2*(b-3)
 rotate_left
 ·rw[if_neg hc];refine⟨[],by simp,fun G hG a hd=>.inr (hS _ fun x y JA=>zVw hX hG fun q hq=>zAW (fun _=>rfl) fun h=>JA q ?_ hq)⟩;have:=nd G hG a hd;have:¬t<2*(b-3):=fun h=>hc ⟨this,h⟩;omega
 rw[if_pos hc];have one:∀(j:Nat) (P:(Nat->Bool)->Prop),(∀a a':Nat->Bool,(∀i,j<=i->i<X.E->X.lab i=X.lab j->zU (X.con i) a=zU (X.con i) a')->(P a<->P a'))->∃L:List BFn,L.length<=kN X t (X.lab j) j/\∀G:BFn,(∀a,G a=true<->P a)->∀a,(fun c=>G (pfx a t c))∈L:=fun j P hP=>by
  obtain⟨g,hg⟩:=zLa P;obtain⟨L,l1,l2⟩:=zNO hX (t:=t) (v:=X.lab j) (j:=j) g fun a a' c h=>by rw[Bool.eq_iff_iff,hg,hg];exact hP _ _ h
  refine⟨L,l1,fun G hG a=>?_⟩;have:G=g:=funext fun x=>by rw[Bool.eq_iff_iff,hG,hg]
  rw[this];exact l2 a
 have hl:∀j,∃L:List BFn,L.length<=3*kN X t (X.lab j) j/\∀G:BFn,((∀a,G a=true<->X.la (X.lab j) a=some j)\/(∀a,G a=true<->∀i,X.la (X.lab j) a=some i->i<j) \/
   ∀a,G a=true<->∃i,X.la (X.lab j) a=some i/\j<=i/\∀q,Y.sB (X.lab j)<=q->q<Y.eB (X.lab j)->X.val i q=X.val j q)->∀a,(fun c=>G (pfx a t c))∈L:=fun j=>by
  obtain⟨L1,a1,b1⟩:=one j (fun a=>X.la (X.lab j) a=some j) fun a a' h=>X.la_ge h (Nat.le_refl _);obtain⟨L2,a2,b2⟩:=one j (fun a=>∀i,X.la (X.lab j) a=some i->i<j) fun a a' h=>by have key:∀{a a':Nat->Bool},(∀i,j<=i->i<X.E->X.lab i=X.lab j->zU (X.con i) a=zU (X.con i) a')->(∀i,X.la (X.lab j) a=some i->i<j)->∀i,X.la (X.lab j) a'=some i->i<j:=fun {a a'} h h1 i hi=>Classical.byContradiction fun hn=>hn (h1 i ((X.la_ge h (by omega)).2 hi));exact⟨key h,key fun i h1 h2 h3=>(h i h1 h2 h3).symm⟩
  obtain⟨L3,a3,b3⟩:=one j (fun a=>∃i,X.la (X.lab j) a=some i/\j<=i/\∀q,Y.sB (X.lab j)<=q->q<Y.eB (X.lab j)->X.val i q=X.val j q) fun a a' h=>by
   constructor
   ·rintro⟨i,h1,h2,h3⟩;exact⟨i,(X.la_ge h h2).1 h1,h2,h3⟩
   ·rintro⟨i,h1,h2,h3⟩;exact⟨i,(X.la_ge h h2).2 h1,h2,h3⟩
  refine⟨L1++(L2++L3),by rw[List.length_append,List.length_append];omega,fun G hG a=>?_⟩;rcases hG with h|h|h
  ·exact List.mem_append_left _ (b1 G h a)
  ·exact List.mem_append_right _ (List.mem_append_left _ (b2 G h a))
  ·exact List.mem_append_right _ (List.mem_append_right _ (b3 G h a))
 obtain⟨L,hL⟩:=Classical.skolem.1 hl;refine⟨(List.range X.E).flatMap L,zBZ L _ (fun j=>(hL j).1) _,fun G ⟨j,hj,hG⟩ a _=>.inl (List.mem_flatMap.2 ⟨j,List.mem_range.2 hj,(hL j).2 G hG a⟩)⟩
end
def MV(X:Eff)(v:Nat)(M:Option Nat->Prop):Prop:=(∃j,j<X.E/\X.lab j=v/\(M=(fun o=>o=some j)\/M=fun o=>∃i,o=some i/\j<=i))\/M=(fun o=>o=none)\/M=fun _=>True
def VF(X:Eff)(Y:Bts)(v:Nat)(M:Option Nat->Prop)(G:BFn):Prop:=∀a,G a=true<->M (X.la v a)/\∀q,Y.sB v<=q->q<Y.eB v->a (2*q+1)=X.sv v q a
def FV(X:Eff)(Y:Bts)(v:Nat)(G:BFn):Prop:=∃M,MV X v M/\VF X Y v M G
def zAY(Y:Bts)(v i:Nat):Bool:=decide (i%2=0)||(decide (Y.sB v<=i/2)&&decide (i/2<Y.eB v))
def vM(X:Eff)(Y:Bts)(b t0 t1 v t:Nat):Nat :=
 if t1<=t then 0
 else if t<=2*Y.sB v then(if t%2=0 then((List.range X.E).map fun j=>if X.lab j=v then 2*kN X t v j else 0).sum+2*kN X t v 0 else 0)
 else if t<2*Y.eB v then(if t<t0 then(2*X.cnt v 0+2)*2^((t+1)/2) else min ((2*X.cnt v 0+2)*2^((t+1)/2)) (2^b-2^((t+1)/2)))
 else if t%2=0/\t<2*(b-3) then min (2^(t/2)) (X.cnt v 0*2^X.cnt v 0) else 0
theorem zVU{X:Eff}{v:Nat}{M M':Option Nat->Prop}(h:MV X v M)(h':MV X v M'):(∀o,M o->M' o)\/(∀o,M' o->M o)\/∀o,¬(M o/\M' o):=by
 rcases h with⟨j,hj,hl,rfl|rfl⟩|rfl|rfl
 ·rcases h' with⟨j',JB,JA,rfl|rfl⟩|rfl|rfl
  ·by_cases e:j=j'
   ·subst e;exact .inl fun o h=>h
   ·exact .inr (.inr fun o ⟨h1,h2⟩=>e (by rw[h1] at h2;exact Option.some.inj h2))
  ·by_cases e:j'<=j
   ·exact .inl fun o h=>⟨j,h,e⟩
   ·exact .inr (.inr fun o ⟨h1,i,h2,h3⟩=>by rw[h1] at h2;have:=Option.some.inj h2;omega)
  ·exact .inr (.inr fun o ⟨h1,h2⟩=>by rw[h1] at h2;cases h2)
  ·exact .inl fun _ _=>trivial
 ·rcases h' with⟨j',JB,JA,rfl|rfl⟩|rfl|rfl
  ·by_cases e:j<=j'
   ·exact .inr (.inl fun o h=>⟨j',h,e⟩)
   ·exact .inr (.inr fun o ⟨⟨i,h2,h3⟩,h1⟩=>by rw[h1] at h2;have:=Option.some.inj h2;omega)
  ·rcases Nat.le_total j j' with e|e
   ·exact .inr (.inl fun o ⟨i,h1,h2⟩=>⟨i,h1,by omega⟩)
   ·exact .inl fun o ⟨i,h1,h2⟩=>⟨i,h1,by omega⟩
  ·exact .inr (.inr fun o ⟨⟨i,h1,_⟩,h2⟩=>by rw[h1] at h2;cases h2)
  ·exact .inl fun _ _=>trivial
 ·rcases h' with⟨j',JB,JA,rfl|rfl⟩|rfl|rfl
  ·exact .inr (.inr fun o ⟨h1,h2⟩=>by rw[h1] at h2;cases h2)
  ·exact .inr (.inr fun o ⟨h1,i,h2,_⟩=>by rw[h1] at h2;cases h2)
  ·exact .inl fun o h=>h
  ·exact .inl fun _ _=>trivial
 ·exact .inr (.inl fun _ _=>trivial)
section
variable {X:Eff} {Y:Bts} {b t0 t1 v:Nat} {S:BFn->Prop} (hX:X.Ok b) (hse:Y.sB v<=Y.eB v) (heb:Y.eB v<=b)
include hX hse heb
theorem zJU{M:Option Nat->Prop}{G:BFn}(h:VF X Y v M G){t:Nat}{a a' c:Nat->Bool}(h1:∀q,2*q<t->a (2*q)=a' (2*q))(h2:∀q,Y.sB v<=q->q<Y.eB v->2*q+1<t->a (2*q+1)=a' (2*q+1)):G (pfx a t c)=G (pfx a' t c):=by
 have ev:∀q,q<b->pfx a t c (2*q)=pfx a' t c (2*q):=fun q _=>zAW (h1 q) fun _=>rfl;have e1:=zNM hX (v:=v) ev;have e2:∀q,q<b->X.sv v q (pfx a t c)=X.sv v q (pfx a' t c):=fun q hq=>zKy hX hq ev;have e3:∀q,Y.sB v<=q->q<Y.eB v->pfx a t c (2*q+1)=pfx a' t c (2*q+1):=fun q h3 h4=>zAW (h2 q h3 h4) fun _=>rfl;rw[Bool.eq_iff_iff,h,h,e1];exact⟨fun⟨h5,h6⟩=>⟨h5,fun q h3 h4=>by rw[<-e3 q h3 h4,<-e2 q (by omega)];exact h6 q h3 h4⟩,fun⟨h5,h6⟩=>⟨h5,fun q h3 h4=>by rw[e3 q h3 h4,e2 q (by omega)];exact h6 q h3 h4⟩⟩
theorem zJV{M:Option Nat->Prop}{G:BFn}(h:VF X Y v M G){t:Nat}{a c c':Nat->Bool}(hc:∀i,t<=i->i<2*b->zAY Y v i=true->c i=c' i):G (pfx a t c)=G (pfx a t c'):=by
 have ev:∀q,q<b->pfx a t c (2*q)=pfx a t c' (2*q):=fun q hq=>zAW (fun _=>rfl) fun h=>hc _ h (by omega) (by unfold zAY;simp);have e1:=zNM hX (v:=v) ev;have e2:∀q,q<b->X.sv v q (pfx a t c)=X.sv v q (pfx a t c'):=fun q hq=>zKy hX hq ev;have e3:∀q,Y.sB v<=q->q<Y.eB v->pfx a t c (2*q+1)=pfx a t c' (2*q+1):=fun q h3 h4=>zAW (fun _=>rfl) fun h=>hc _ h (by omega) (by unfold zAY;rw[show(2*q+1)/2=q by omega];simp[h3,h4]);rw[Bool.eq_iff_iff,h,h,e1];exact⟨fun⟨h5,h6⟩=>⟨h5,fun q h3 h4=>by rw[<-e3 q h3 h4,<-e2 q (by omega)];exact h6 q h3 h4⟩,fun⟨h5,h6⟩=>⟨h5,fun q h3 h4=>by rw[e3 q h3 h4,e2 q (by omega)];exact h6 q h3 h4⟩⟩
theorem zQl{M M':Option Nat->Prop}{G G':BFn}(h:VF X Y v M G)(h':VF X Y v M' G'){x y:Nat->Bool}(h1:G x=true)(h2:G' y=true)(ev:∀q,q<b->x (2*q)=y (2*q)):∀q,Y.sB v<=q->q<Y.eB v->x (2*q+1)=y (2*q+1):=fun q q1 q2=>by
 rw[((h x).1 h1).2 q q1 q2,((h' y).1 h2).2 q q1 q2];exact zKy hX (by omega) ev
theorem zGT{i:Nat}(hi:i%2=1)(h:zAY Y v i=true):Y.sB v<=i/2/\i/2<Y.eB v:=by
 unfold zAY at h;rw[hi] at h;simpa using h
theorem zL6{M:Option Nat->Prop}{G:BFn}(h:VF X Y v M G)(t:Nat)(a:Nat->Bool):zWr (zAY Y v) (2*b) t fun c=>G (pfx a t c):=by
 refine⟨fun c c' hc=>zJV hX hse heb h hc,fun c c' e1 e2 hc i i1 i2 i3=>?_⟩;rcases Nat.mod_two_eq_zero_or_one i with h0|h0
 ·have:=hc (i/2) (by omega) (by omega) (by unfold zAY;simp);rwa[show 2*(i/2)=i by omega] at this
 ·obtain⟨h1,h2⟩:=zGT hX hse heb h0 i3;have:=zQl hX hse heb h h e1 e2 (fun q hq=>zAW (fun _=>rfl) fun h=>hc q h (by omega) (by unfold zAY;simp)) (i/2) h1 h2;rwa[show 2*(i/2)+1=i by omega,zAL i1,zAL i1] at this
theorem zUZ{M:Option Nat->Prop}{G:BFn}(h:VF X Y v M G){t:Nat}{a x:Nat->Bool}(hx:G (pfx a t x)=true)(h2:¬∃c c':Nat->Bool,G (pfx a t c)=true/\G (pfx a t c')=true/\∃q,(t+1)/2<=q/\q<b/\c (2*q)≠c' (2*q)):(fun c=>G (pfx a t c))=PtB (zAY Y v) (2*b) t x:=by
 refine zSY (K:=fun c=>G (pfx a t c)) (fun c c' hc=>zJV hX hse heb h hc) hx fun c hc i i1 i2 i3=>?_;exact(zL6 hX hse heb h t a).2 c x hc hx (fun q h3 h4 _=>Classical.byContradiction fun JA=>h2 ⟨c,x,hc,hx,q,by omega,by omega,JA⟩) i i1 i2 i3
end
end
end Go.Sy
