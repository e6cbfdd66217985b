/-
  Parts of the proof of this claim's statement; no conditions beyond those each theorem names.
-/
import Derived.Test.YtolkjbmcindhjaaGreatPk10
import Derived.Test.YtolkjbmcindhjaaGreatPk05
import Derived.Test.YtolkjbmcindhjaaGreatPk06
set_option maxRecDepth 100000
set_option linter.unusedSimpArgs false
set_option linter.unusedVariables false
set_option linter.unusedSectionVars false
set_option maxHeartbeats 8000000
namespace Go.Sy
section
open Go.Bd
theorem zDO{α β:Type}(L:α->List β)(n:Nat)(h:∀x,(L x).length<=n):∀l:List α,(l.flatMap L).length<=l.length*n
 |[]=>by simp
 |x::l=>by have:=zDO L n h l;have:=h x;rw[List.flatMap_cons,List.length_append,List.length_cons,Nat.succ_mul];omega
section
variable {X:Eff} {Y:Bts} {b t0 t1 v:Nat} {S:BFn->Prop} (hX:X.Ok b) (hse:Y.sB v<=Y.eB v) (heb:Y.eB v<=b)
include hX hse heb
theorem zLZ(M:Option Nat->Prop):∃G,VF X Y v M G:=zLa _
theorem zDb{M:Option Nat->Prop}{G G':BFn}(h:VF X Y v M G)(h':VF X Y v M G'):G=G':=funext fun a=>by rw[Bool.eq_iff_iff,h,h']
theorem zVd{t:Nat}(ht:t<=2*Y.sB v):∃L:List BFn,L.length<=(if t%2=0 then((List.range X.E).map fun j=>if X.lab j=v then 2*kN X t v j else 0).sum+2*kN X t v 0 else 0)/\∀G,FV X Y v G->∀a,Dep (fun c=>G (pfx a t c)) t->(fun c=>G (pfx a t c))∈L:=by
 by_cases ho:t%2=0
 rotate_left
 ·rw[if_neg ho];refine⟨[],by simp,fun G ⟨M,hM,hG⟩ a ⟨x,hx⟩=>absurd ?_ hx⟩;refine zJV hX hse heb hG fun i i1 i2 i3=>?_;have:i≠t:=fun e=>by subst e;have:=zGT hX hse heb (show i%2=1 by omega) i3;omega
  rw[zR this,zR this]
 rw[if_pos ho];have one:∀(j:Nat) (M:Option Nat->Prop),(∀a a':Nat->Bool,(∀i,j<=i->i<X.E->X.lab i=v->zU (X.con i) a=zU (X.con i) a')->(∀q,Y.sB v<=q->q<Y.eB v->a (2*q)=a' (2*q))->M (X.la v a)->M (X.la v a')/\∀q,Y.sB v<=q->q<Y.eB v->X.sv v q a=X.sv v q a') ->
   ∃L:List BFn,L.length<=kN X t v j/\∀G:BFn,VF X Y v M G->∀a,(fun c=>G (pfx a t c))∈L:=fun j M hM=>by
  obtain⟨g,hg⟩:=zLZ hX hse heb M;obtain⟨L,l1,l2⟩:=zNO hX (t:=t) (v:=v) (j:=j) g fun a a' c h=>by
   have e:∀{a a':Nat->Bool},(∀i,j<=i->i<X.E->X.lab i=v->zU (X.con i) (pfx a t c)=zU (X.con i) (pfx a' t c))->g (pfx a t c)=true->g (pfx a' t c)=true:=fun {a a'} h h1=>by obtain⟨h2,h3⟩:=(hg _).1 h1;obtain⟨h4,h5⟩:=hM _ _ h (fun q q1 q2=>by rw[zAL (by omega),zAL (by omega)]) h2;refine(hg _).2 ⟨h4,fun q q1 q2=>?_⟩;rw[<-h5 q q1 q2,<-h3 q q1 q2,zAL (by omega),zAL (by omega)]
   rw[Bool.eq_iff_iff];exact⟨e h,e fun i h1 h2 h3=>(h i h1 h2 h3).symm⟩
  exact⟨L,l1,fun G hG a=>by rw[zDb hX hse heb hG hg];exact l2 a⟩
 have hl:∀j,∃L:List BFn,L.length<=2*kN X t v j/\∀M,(M=(fun o=>o=some j)\/M=fun o=>∃i,o=some i/\j<=i)->∀G:BFn,VF X Y v M G->∀a,(fun c=>G (pfx a t c))∈L:=fun j=>by
  obtain⟨L1,a1,b1⟩:=one j (fun o=>o=some j) fun a a' h _ hm=>by have h2:=(X.la_ge h (Nat.le_refl _)).1 hm;exact⟨h2,fun q _ _=>by unfold Eff.sv;rw[hm,h2]⟩
  obtain⟨L2,a2,b2⟩:=one j (fun o=>∃i,o=some i/\j<=i) fun a a' h _ ⟨i,hm,hi⟩=>by have h2:=(X.la_ge h hi).1 hm;exact⟨⟨i,h2,hi⟩,fun q _ _=>by unfold Eff.sv;rw[hm,h2]⟩
  refine⟨L1++L2,by rw[List.length_append];omega,fun M hM G hG a=>?_⟩;rcases hM with rfl|rfl
  ·exact List.mem_append_left _ (b1 G hG a)
  ·exact List.mem_append_right _ (b2 G hG a)
 obtain⟨L,hL⟩:=Classical.skolem.1 hl;have hall:∀(M:Option Nat->Prop) (a a':Nat->Bool),(∀i,0<=i->i<X.E->X.lab i=v->zU (X.con i) a=zU (X.con i) a')->(∀q,Y.sB v<=q->q<Y.eB v->a (2*q)=a' (2*q))->M (X.la v a)->M (X.la v a')/\∀q,Y.sB v<=q->q<Y.eB v->X.sv v q a=X.sv v q a':=fun M a a' h hq hm=>by have e:=X.la_eq (v:=v) (a:=a) (a':=a') fun i h1 h2=>h i (Nat.zero_le _) h1 h2;refine⟨by rw[<-e];exact hm,fun q q1 q2=>?_⟩;unfold Eff.sv;rw[e,hq q q1 q2]
 obtain⟨L1,a1,b1⟩:=one 0 (fun o=>o=none) (hall fun o=>o=none);obtain⟨L2,a2,b2⟩:=one 0 (fun _=>True) (hall fun _=>True);refine⟨((List.range X.E).flatMap fun j=>if X.lab j=v then L j else [])++(L1++L2),?_,fun G ⟨M,hM,hG⟩ a _=>?_⟩
 ·rw[List.length_append,List.length_append];have:=zBZ (fun j=>if X.lab j=v then L j else []) (fun j=>if X.lab j=v then 2*kN X t v j else 0) (fun j=>by
   show(if X.lab j=v then L j else []).length<=_;by_cases h:X.lab j=v
   ·rw[if_pos h,if_pos h];exact(hL j).1
   ·rw[if_neg h,if_neg h];exact Nat.le_refl _) X.E
  omega
 ·rcases hM with⟨j,hj,hlab,hM⟩|rfl|rfl
  ·exact List.mem_append_left _ (List.mem_flatMap.2 ⟨j,List.mem_range.2 hj,by rw[if_pos hlab];exact(hL j).2 M hM G hG a⟩)
  ·exact List.mem_append_right _ (List.mem_append_left _ (b1 G hG a))
  ·exact List.mem_append_right _ (List.mem_append_right _ (b2 G hG a))
theorem zI6(t:Nat):∃Λ:List (Nat->Bool),Λ.length<=2^((t+1)/2)/\∀a:Nat->Bool,∃π∈Λ,∀q,2*q<t->a (2*q)=π (2*q):=by
 obtain⟨Λ,l1,l2⟩:=zAz ((List.range ((t+1)/2)).map fun q=>fun a=>a (2*q)) fun _=>True;rw[List.length_map,List.length_range] at l1;refine⟨Λ,l1,fun a=>?_⟩;obtain⟨π,m1,_,m2⟩:=l2 a trivial;exact⟨π,m1,fun q hq=>m2 (fun a=>a (2*q)) (List.mem_map.2 ⟨q,List.mem_range.2 (by omega),rfl⟩)⟩
theorem zIi{j:Nat}:j∈((List.range X.E).filter fun i=>decide (0<=i)&&decide (X.lab i=v))<->j<X.E/\X.lab j=v:=by
 rw[List.mem_filter,List.mem_range];simp
theorem zGl{j:Nat}{P:Nat->Prop}(h:∃i,j<=i/\i<X.E/\X.lab i=v/\P i):∃i,(j<=i/\i<X.E/\X.lab i=v/\P i)/\∀i',j<=i'->i'<X.E->X.lab i'=v->P i'->i<=i':=by
 obtain⟨i,h1,h2⟩:=zKQ (fun i=>j<=i/\i<X.E/\X.lab i=v/\P i) h;exact⟨i,h1,fun i' a1 a2 a3 a4=>Nat.le_of_not_lt fun h=>h2 i' h ⟨a1,a2,a3,a4⟩⟩
theorem zRB(hv:∃j,j<X.E/\X.lab j=v)(t:Nat):∃L:List BFn,L.length<=(2*X.cnt v 0+2)*2^((t+1)/2)/\∀G,FV X Y v G->∀a,Dep (fun c=>G (pfx a t c)) t->(fun c=>G (pfx a t c))∈L:=by
 obtain⟨Λ,l1,l2⟩:=zI6 hX hse heb t;obtain⟨gO,hO⟩:=Classical.skolem.1 fun j=>zLZ hX hse heb (v:=v) (Y:=Y) (fun o=>∃i,o=some i/\j<=i);obtain⟨gT,hT⟩:=Classical.skolem.1 fun j=>zLZ hX hse heb (v:=v) (Y:=Y) (fun o=>o=some j);obtain⟨gN,hN⟩:=zLZ hX hse heb (v:=v) (Y:=Y) (fun o=>o=none);obtain⟨gC,hC⟩:=zLZ hX hse heb (v:=v) (Y:=Y) (fun _=>True)
 -- the value of an effect,or that of the state
 obtain⟨av,JC⟩:∃av:(Nat->Bool)->Nat->Nat->Bool,av=fun π j i=>if i%2=0 then π i else X.val j (i/2):=⟨_,rfl⟩;obtain⟨as',has⟩:∃as':(Nat->Bool)->Nat->Bool,as'=fun π i=>if i%2=0 then π i else π (i-1):=⟨_,rfl⟩;have av0:∀π j q,av π j (2*q)=π (2*q):=fun π j q=>by rw[JC];show(if 2*q%2=0 then _ else _)=_;rw[if_pos (by omega)]
 have av1:∀π j q,av π j (2*q+1)=X.val j q:=fun π j q=>by rw[JC];show(if(2*q+1)%2=0 then _ else X.val j ((2*q+1)/2))=_;rw[if_neg (by omega),show(2*q+1)/2=q by omega]
 have as0:∀π q,as' π (2*q)=π (2*q):=fun π q=>by rw[has];show(if 2*q%2=0 then _ else _)=_;rw[if_pos (by omega)]
 have as1:∀π q,as' π (2*q+1)=π (2*q):=fun π q=>by rw[has];show(if(2*q+1)%2=0 then _ else π (2*q+1-1))=_;rw[if_neg (by omega),show 2*q+1-1=2*q by omega]
 obtain⟨F,hF⟩:∃F:(Nat->Bool)->List BFn,F=fun π=>((((List.range X.E).filter fun i=>decide (0<=i)&&decide (X.lab i=v))).flatMap fun j=>[(fun c=>gT j (pfx (av π j) t c)),fun c=>gO j (pfx (av π j) t c)])++[(fun c=>gN (pfx (as' π) t c)),fun c=>gC (pfx (as' π) t c)]:=⟨_,rfl⟩;refine⟨Λ.flatMap F,?_,fun G ⟨M,hM,hG⟩ a hd=>?_⟩
 ·refine Nat.le_trans (zDO F (2*X.cnt v 0+2) (fun π=>?_) Λ) (by rw[Nat.mul_comm];exact Nat.mul_le_mul_left _ l1);rw[hF];rw[List.length_append];have:=zDO (fun j=>[(fun c=>gT j (pfx (av π j) t c):BFn),fun c=>gO j (pfx (av π j) t c)]) 2 (fun _=>Nat.le_refl _) ((List.range X.E).filter fun i=>decide (0<=i)&&decide (X.lab i=v));unfold Eff.cnt;simp only[List.length_cons,List.length_nil];omega
 obtain⟨x,hx⟩:=zA1 hd;obtain⟨JB,JA⟩:=(hG _).1 hx;obtain⟨π,m1,m2⟩:=l2 a;refine List.mem_flatMap.2 ⟨π,m1,?_⟩
 -- from a part at a to one of the list
 have fin:∀{M':Option Nat->Prop} {g:BFn} {j:Nat},VF X Y v M' g->(∀q,Y.sB v<=q->q<Y.eB v->2*q+1<t->a (2*q+1)=X.val j q)->(fun c=>g (pfx a t c))=fun c=>g (pfx (av π j) t c):=fun {M' g j} hg h=>funext fun c=>zJU hX hse heb hg (fun q hq=>by rw[av0];exact m2 q hq) fun q q1 q2 q3=>by rw[av1];exact h q q1 q2 q3
 have mT:∀j,j<X.E->X.lab j=v->(fun c=>gT j (pfx (av π j) t c))∈F π/\(fun c=>gO j (pfx (av π j) t c))∈F π:=fun j h1 h2=>by rw[hF];exact⟨List.mem_append_left _ (List.mem_flatMap.2 ⟨j,(zIi hX hse heb).2 ⟨h1,h2⟩,by simp⟩),List.mem_append_left _ (List.mem_flatMap.2 ⟨j,(zIi hX hse heb).2 ⟨h1,h2⟩,by simp⟩)⟩
 -- the last effect from one on
 have big:∀j,(∃i,X.la v (pfx a t x)=some i/\j<=i)->∀g:BFn,(∀c,g (pfx a t c)=true<->(∃i,X.la v (pfx a t c)=some i/\j<=i)/\∀q,Y.sB v<=q->q<Y.eB v->pfx a t c (2*q+1)=X.sv v q (pfx a t c))->(fun c=>g (pfx a t c))∈F π:=fun j ⟨i,hi,JF⟩ g hg=>by
  obtain⟨li,lv,_⟩:=X.la_some.1 hi;have JD:∀q,Y.sB v<=q->q<Y.eB v->2*q+1<t->a (2*q+1)=X.val i q:=fun q q1 q2 q3=>by have:=JA q q1 q2;rw[z7 q3] at this;rw[this];unfold Eff.sv;rw[hi]
  obtain⟨j',⟨j1,j2,j3,j4⟩,j5⟩:=zGl hX hse heb (v:=v) (P:=fun i=>∀q,Y.sB v<=q->q<Y.eB v->2*q+1<t->a (2*q+1)=X.val i q) ⟨i,JF,li,lv,JD⟩;have:(fun c=>g (pfx a t c))=fun c=>gO j' (pfx a t c):=funext fun c=>by
   rw[Bool.eq_iff_iff,hg,hO j'];constructor
   ·rintro⟨⟨k,k1,k2⟩,k3⟩;refine⟨⟨k,k1,j5 k k2 (X.la_some.1 k1).1 (X.la_some.1 k1).2.1 fun q q1 q2 q3=>?_⟩,k3⟩;have:=k3 q q1 q2;rw[z7 q3] at this;rw[this];unfold Eff.sv;rw[k1]
   ·rintro⟨⟨k,k1,k2⟩,k3⟩;exact⟨⟨k,k1,by omega⟩,k3⟩
  rw[this,fin (hO j') j4];exact(mT j' j2 j3).2
 have same:(∀q,Y.sB v<=q->q<Y.eB v->2*q+1<t->a (2*q+1)=a (2*q))->∀{M':Option Nat->Prop} {g:BFn},VF X Y v M' g->(fun c=>g (pfx a t c))=fun c=>g (pfx (as' π) t c):=fun h {M' g} hg=>funext fun c=>zJU hX hse heb hg (fun q hq=>by rw[as0];exact m2 q hq) fun q q1 q2 q3=>by rw[as1,h q q1 q2 q3];exact m2 q (by omega)
 rcases hM with⟨j,hj,hlab,rfl|rfl⟩|rfl|rfl
 ·rw[zDb hX hse heb hG (hT j),fin (hT j) fun q q1 q2 q3=>by have:=JA q q1 q2;rw[z7 q3] at this;rw[this];unfold Eff.sv;rw[JB]];exact(mT j hj hlab).1
 ·exact big j JB G fun c=>hG _
 ·have h:∀q,Y.sB v<=q->q<Y.eB v->2*q+1<t->a (2*q+1)=a (2*q):=fun q q1 q2 q3=>by have:=JA q q1 q2;rw[z7 q3] at this;rw[this];unfold Eff.sv;rw[JB];exact z7 (by omega)
  rw[zDb hX hse heb hG hN,same h hN,hF];exact List.mem_append_right _ (by simp)
 ·by_cases h:∀q,Y.sB v<=q->q<Y.eB v->2*q+1<t->a (2*q+1)=a (2*q)
  ·rw[zDb hX hse heb hG hC,same h hC,hF];exact List.mem_append_right _ (by simp)
  ·have nn:∀c,G (pfx a t c)=true->∃i,X.la v (pfx a t c)=some i/\0<=i:=fun c hc=>by
    cases JE:X.la v (pfx a t c) with
    |some i=>exact⟨i,rfl,Nat.zero_le _⟩
    |none =>exfalso;refine h fun q q1 q2 q3=>?_;have:=((hG _).1 hc).2 q q1 q2;rw[z7 q3] at this;rw[this];unfold Eff.sv;rw[JE];exact z7 (by omega)
   refine big 0 (nn x hx) G fun c=>?_;constructor
   ·intro hc;exact⟨nn c hc,((hG _).1 hc).2⟩
   ·intro hc;exact(hG _).2 ⟨trivial,hc.2⟩
theorem zVc(JD:∀K,PtS (zAY Y v) (2*b) t0 K->S K){t:Nat}(ht:t<2*b)(h0:t0<=t):∃L:List BFn,L.length<=2^b-2^((t+1)/2)/\∀G,FV X Y v G->∀a,Dep (fun c=>G (pfx a t c)) t->(fun c=>G (pfx a t c))∈L\/S fun c=>G (pfx a t c):=by
 obtain⟨Λ,l1,l2⟩:=zI6 hX hse heb t;have hl:∀π:Nat->Bool,∃L:List BFn,L.length<=2^(b-(t+1)/2)-1/\∀K,(∃G a M,MV X v M/\VF X Y v M G/\(∀q,2*q<t->a (2*q)=π (2*q))/\K=(fun c=>G (pfx a t c))/\∃c c':Nat->Bool,K c=true/\K c'=true/\∃q,(t+1)/2<=q/\q<b/\c (2*q)≠c' (2*q))->K∈L:=fun π=>by
  refine zNK _ ?_ ?_ ?_
  ·rintro K K' ⟨G,a,M,hM,hG,ha,rfl,_⟩ ⟨G',a',M',JC,JA,JB,rfl,_⟩ c c' h1 h2 hc;have h1:G (pfx a t c)=true:=h1;have h2:G' (pfx a' t c')=true:=h2;show G (pfx a t c')=true;have ev:∀q,q<b->pfx a t c (2*q)=pfx a t c' (2*q):=fun q hq=>zAW (fun _=>rfl) fun h=>hc q (by omega) hq;have ev':∀q,q<b->pfx a' t c' (2*q)=pfx a t c' (2*q):=fun q hq=>zAW (fun h=>by rw[ha q h,JB q h]) fun _=>rfl;refine(hG _).2 ⟨by rw[<-zNM hX ev];exact((hG _).1 h1).1,fun q q1 q2=>?_⟩;by_cases h5:2*q+1<t
   ·have:=((hG _).1 h1).2 q q1 q2;rw[z7 h5] at this;rw[z7 h5,this];exact zKy hX (by omega) ev
   ·have:=((JA _).1 h2).2 q q1 q2;rw[zAL (by omega)] at this;rw[zAL (by omega),this];exact zKy hX (by omega) ev'
  ·rintro K K' ⟨G,a,M,hM,hG,ha,rfl,_⟩ ⟨G',a',M',JC,JA,JB,rfl,_⟩;by_cases hx:∃c,G (pfx a t c)=true/\G' (pfx a' t c)=true
   ·obtain⟨x,x1,x2⟩:=hx;have eo:∀q,Y.sB v<=q->q<Y.eB v->2*q+1<t->a (2*q+1)=a' (2*q+1):=fun q q1 q2 q3=>by have:=zQl hX hse heb hG JA x1 x2 (fun q _=>zAW (fun h=>by rw[ha q h,JB q h]) fun _=>rfl) q q1 q2;rwa[z7 q3,z7 q3] at this
    have e2:∀c,G' (pfx a' t c)=G' (pfx a t c):=fun c=>zJU hX hse heb JA (fun q hq=>by rw[ha q hq,JB q hq]) fun q q1 q2 q3=>(eo q q1 q2 q3).symm;rcases zVU hM JC with h|h|h
    ·exact .inl fun c hc=>by show G' (pfx a' t c)=true;rw[e2,JA];obtain⟨u1,u2⟩:=(hG _).1 hc;exact⟨h _ u1,u2⟩
    ·refine .inr (.inl fun c hc=>?_);have hc:G' (pfx a' t c)=true:=hc;rw[e2,JA] at hc;show G (pfx a t c)=true;exact(hG _).2 ⟨h _ hc.1,hc.2⟩
    ·exfalso;rw[e2,JA] at x2;exact h _ ⟨((hG _).1 x1).1,x2.1⟩
   ·exact .inr (.inr fun c hc=>hx ⟨c,hc⟩)
  ·rintro K ⟨G,a,M,hM,hG,ha,e,h⟩;exact h
 obtain⟨L,hL⟩:=Classical.skolem.1 hl;refine⟨Λ.flatMap L,?_,fun G ⟨M,hM,hG⟩ a hd=>?_⟩
 ·refine Nat.le_trans (zDO L _ (fun π=>(hL π).1) Λ) (Nat.le_trans (Nat.mul_le_mul_right _ l1) (Nat.le_of_eq ?_));rw[Nat.mul_sub,Nat.mul_one,<-Nat.pow_add,show(t+1)/2+(b-(t+1)/2)=b by omega]
 ·obtain⟨π,m1,m2⟩:=l2 a;by_cases h2:∃c c':Nat->Bool,G (pfx a t c)=true/\G (pfx a t c')=true/\∃q,(t+1)/2<=q/\q<b/\c (2*q)≠c' (2*q)
  ·exact .inl (List.mem_flatMap.2 ⟨π,m1,(hL π).2 _ ⟨G,a,M,hM,hG,m2,rfl,h2⟩⟩)
  ·obtain⟨x,hx⟩:=zA1 hd;exact .inr (JD _ ⟨t,x,h0,by omega,zUZ hX hse heb hG hx h2⟩)
theorem zVe(hv:∃j,j<X.E/\X.lab j=v)(JH:∀K:BFn,(∀a c:Nat->Bool,(∀p,b-3<=p->p<b->a (2*p)=c (2*p))->K a=K c)->S K){t:Nat}(ht:2*Y.eB v<=t) :
  ∃L:List BFn,L.length<=(if t%2=0/\t<2*(b-3) then min (2^(t/2)) (X.cnt v 0*2^X.cnt v 0) else 0)/\∀G,FV X Y v G->∀a,Dep (fun c=>G (pfx a t c)) t->(fun c=>G (pfx a t c))∈L\/S (fun c=>G (pfx a t c))\/∃g,FX X Y g/\(fun c=>G (pfx a t c))=fun c=>g (pfx a t c):=by
 have only:∀{M:Option Nat->Prop} {G:BFn},VF X Y v M G->∀{a c c':Nat->Bool},(∀q,t<=2*q->q<b->c (2*q)=c' (2*q))->G (pfx a t c)=G (pfx a t c'):=fun {M G} hG {a c c'} h=>zJV hX hse heb hG fun i i1 i2 i3=>by
  rcases Nat.mod_two_eq_zero_or_one i with h0|h0
  ·have:=h (i/2) (by omega) (by omega);rwa[show 2*(i/2)=i by omega] at this
  ·have:=zGT hX hse heb h0 i3;omega
 have nd:∀{M:Option Nat->Prop} {G:BFn},VF X Y v M G->∀{a},Dep (fun c=>G (pfx a t c)) t->t%2=0:=fun {M G} hG {a} ⟨x,hx⟩=>Classical.byContradiction fun ho=>hx (only hG fun q q1 _=>by rw[zR (by omega),zR (by omega)]);by_cases hc:t%2=0/\t<2*(b-3)
 rotate_left
 ·rw[if_neg hc];refine⟨[],by simp,fun G ⟨M,hM,hG⟩ a hd=>.inr (.inl (JH _ fun x y JF=>only hG fun q q1 q2=>JF q ?_ q2))⟩;have:=nd hG hd;have:¬t<2*(b-3):=fun h=>hc ⟨this,h⟩;omega
 rw[if_pos hc]
 -- what an assignment's part means
 obtain⟨gC,hC⟩:=zLZ hX hse heb (v:=v) (Y:=Y) (fun _=>True);obtain⟨j0,⟨_,j01,j02,_⟩,j03⟩:=zGl hX hse heb (v:=v) (j:=0) (P:=fun _=>True) (by obtain⟨j,h1,h2⟩:=hv;exact⟨j,Nat.zero_le _,h1,h2,trivial⟩);obtain⟨gN,hN⟩:=zLa fun a=>∀i,X.la (X.lab j0) a=some i->i<j0;have fN:FX X Y gN:=⟨j0,j01,.inr (.inl hN)⟩;have eN:∀a,gN a=true<->X.la v a=none:=fun a=>by
  rw[hN,j02];constructor
  ·intro h;cases JA:X.la v a with
   |none=>rfl
   |some i =>have h1:=h i JA;obtain⟨h2,h3,_⟩:=X.la_some.1 JA;have:=j03 i (Nat.zero_le _) h2 h3 trivial;omega
  ·intro h i hi;rw[h] at hi;cases hi
 -- those with a last effect
 have big:∀a j,∀g:BFn,(∃c,g (pfx a t c)=true)->(∀c,g (pfx a t c)=true<->(∃i,X.la v (pfx a t c)=some i/\j<=i)/\∀q,Y.sB v<=q->q<Y.eB v->pfx a t c (2*q+1)=X.sv v q (pfx a t c))->∃g',FX X Y g'/\(fun c=>g (pfx a t c))=fun c=>g' (pfx a t c):=fun a j g ⟨x,hx⟩ hg=>by
  obtain⟨⟨i,hi,JG⟩,JB⟩:=(hg x).1 hx;obtain⟨li,lv,_⟩:=X.la_some.1 hi;have JC:∀{c:Nat->Bool} {i:Nat},X.la v (pfx a t c)=some i->((∀q,Y.sB v<=q->q<Y.eB v->pfx a t c (2*q+1)=X.sv v q (pfx a t c))<->∀q,Y.sB v<=q->q<Y.eB v->a (2*q+1)=X.val i q):=fun {c i} hi=>by
   constructor
   ·intro h q q1 q2;have:=h q q1 q2;rw[z7 (by omega)] at this;rw[this];unfold Eff.sv;rw[hi]
   ·intro h q q1 q2;rw[z7 (by omega),h q q1 q2];unfold Eff.sv;rw[hi]
  obtain⟨j',⟨j1,j2,j3,j4⟩,j5⟩:=zGl hX hse heb (v:=v) (P:=fun i=>∀q,Y.sB v<=q->q<Y.eB v->a (2*q+1)=X.val i q) ⟨i,JG,li,lv,(JC hi).1 JB⟩;obtain⟨g',JE⟩:=zLa fun a=>∃i,X.la (X.lab j') a=some i/\j'<=i/\∀q,Y.sB (X.lab j')<=q->q<Y.eB (X.lab j')->X.val i q=X.val j' q;refine⟨g',⟨j',j2,.inr (.inr JE)⟩,funext fun c=>?_⟩;rw[Bool.eq_iff_iff,hg,JE,j3];constructor
  ·rintro⟨⟨k,k1,k2⟩,k3⟩;have k4:=(JC k1).1 k3;exact⟨k,k1,j5 k k2 (X.la_some.1 k1).1 (X.la_some.1 k1).2.1 k4,fun q q1 q2=>by rw[<-k4 q q1 q2,j4 q q1 q2]⟩
  ·rintro⟨k,k1,k2,k3⟩;exact⟨⟨k,k1,by omega⟩,(JC k1).2 fun q q1 q2=>by rw[j4 q q1 q2,k3 q q1 q2]⟩
 -- the functions in which the variable keeps its value,too
 have U:∃L:List BFn,L.length<=min (2^(t/2)) (X.cnt v 0*2^X.cnt v 0)/\∀a,(∀q,Y.sB v<=q->q<Y.eB v->a (2*q+1)=a (2*q))->(fun c=>gC (pfx a t c))∈L\/(fun c=>gC (pfx a t c))=fun c=>gN (pfx a t c):=by
  by_cases hm:2^(t/2)<=X.cnt v 0*2^X.cnt v 0
  ·rw[Nat.min_eq_left hm];obtain⟨Λ,l1,l2⟩:=zI6 hX hse heb t;rw[show(t+1)/2=t/2 by omega] at l1;refine⟨Λ.map fun π=>fun c=>gC (pfx (fun i=>if i%2=0 then π i else π (i-1)) t c),by rw[List.length_map];exact l1,fun a ha=>.inl ?_⟩;obtain⟨π,m1,m2⟩:=l2 a;refine List.mem_map.2 ⟨π,m1,funext fun c=>(zJU hX hse heb hC (fun q hq=>?_) fun q q1 q2 q3=>?_).symm⟩
   ·show a (2*q)=(if 2*q%2=0 then π (2*q) else _);rw[if_pos (by omega)];exact m2 q hq
   ·show a (2*q+1)=(if(2*q+1)%2=0 then _ else π (2*q+1-1));rw[if_neg (by omega),show 2*q+1-1=2*q by omega,ha q q1 q2];exact m2 q (by omega)
  ·rw[Nat.min_eq_right (by omega)];have hl:∀j,∃(L:List BFn) (u:BFn),L.length<=2^X.cnt v 0/\(∀a,u a=true<->X.la v a=none\/∃i,X.la v a=some i/\∀q,Y.sB v<=q->q<Y.eB v->X.val i q=X.val j q)/\∀a,(fun c=>u (pfx a t c))∈L:=fun j=>by
    obtain⟨u,hu⟩:=zLa fun a=>X.la v a=none\/∃i,X.la v a=some i/\∀q,Y.sB v<=q->q<Y.eB v->X.val i q=X.val j q;obtain⟨L,l1,l2⟩:=zNO hX (t:=t) (v:=v) (j:=0) u fun a a' c h=>by have e:=X.la_eq (v:=v) (a:=pfx a t c) (a':=pfx a' t c) fun i h1 h2=>h i (Nat.zero_le _) h1 h2;rw[Bool.eq_iff_iff,hu,hu,e]
    exact⟨L,u,Nat.le_trans l1 (Nat.min_le_right _ _),hu,l2⟩
   obtain⟨L,hL⟩:=Classical.skolem.1 hl;refine⟨((List.range X.E).filter fun i=>decide (0<=i)&&decide (X.lab i=v)).flatMap L,zDO L _ (fun j=>by obtain⟨u,h,_⟩:=hL j;exact h) _,fun a ha=>?_⟩;have mean:∀c,gC (pfx a t c)=true<->X.la v (pfx a t c)=none\/∃i,X.la v (pfx a t c)=some i/\∀q,Y.sB v<=q->q<Y.eB v->X.val i q=a (2*q):=fun c=>by
    rw[hC];constructor
    ·rintro⟨_,h⟩;cases JA:X.la v (pfx a t c) with
     |none=>exact .inl rfl
     |some i =>refine .inr ⟨i,rfl,fun q q1 q2=>?_⟩;have:=h q q1 q2;rw[z7 (by omega),ha q q1 q2] at this;rw[this];unfold Eff.sv;rw[JA]
    ·intro h;refine⟨trivial,fun q q1 q2=>?_⟩;rw[z7 (by omega),ha q q1 q2];unfold Eff.sv;rcases h with h|⟨i,h,h2⟩
     ·rw[h];exact(z7 (by omega)).symm
     ·rw[h];exact(h2 q q1 q2).symm
   by_cases hj:∃j,j<X.E/\X.lab j=v/\∀q,Y.sB v<=q->q<Y.eB v->X.val j q=a (2*q)
   ·obtain⟨j,h1,h2,h3⟩:=hj;obtain⟨u,_,hu,hm⟩:=hL j;refine .inl (List.mem_flatMap.2 ⟨j,(zIi hX hse heb).2 ⟨h1,h2⟩,?_⟩);have:(fun c=>gC (pfx a t c))=fun c=>u (pfx a t c):=funext fun c=>by rw[Bool.eq_iff_iff,mean,hu];refine or_congr Iff.rfl ⟨fun⟨i,i1,i2⟩=>⟨i,i1,fun q q1 q2=>by rw[i2 q q1 q2,h3 q q1 q2]⟩,fun⟨i,i1,i2⟩=>⟨i,i1,fun q q1 q2=>by rw[i2 q q1 q2,h3 q q1 q2]⟩⟩
    rw[this];exact hm a
   ·refine .inr (funext fun c=>?_);rw[Bool.eq_iff_iff,mean,eN];constructor
    ·rintro (h|⟨i,i1,i2⟩)
     ·exact h
     ·exact absurd ⟨i,(X.la_some.1 i1).1,(X.la_some.1 i1).2.1,i2⟩ hj
    ·exact .inl
 obtain⟨L,l1,l2⟩:=U;refine⟨L,l1,fun G ⟨M,hM,hG⟩ a hd=>?_⟩;obtain⟨x,hx⟩:=zA1 hd;rcases hM with⟨j,hj,hlab,rfl|rfl⟩|rfl|rfl
 · -- one effect
  obtain⟨JD,JB⟩:=(hG _).1 hx;obtain⟨g,hg⟩:=zLa fun a=>X.la (X.lab j) a=some j;refine .inr (.inr ⟨g,⟨j,hj,.inl hg⟩,funext fun c=>?_⟩);rw[Bool.eq_iff_iff,hG,hg,hlab];refine⟨fun h=>h.1,fun h=>⟨h,fun q q1 q2=>?_⟩⟩;have:=JB q q1 q2;unfold Eff.sv at this ⊢;rw[JD,z7 (by omega)] at this;rw[h,z7 (by omega)];exact this
 ·exact .inr (.inr (big a j G ⟨x,hx⟩ fun c=>hG _))
 ·obtain⟨JD,JB⟩:=(hG _).1 hx;refine .inr (.inr ⟨gN,fN,funext fun c=>?_⟩);rw[Bool.eq_iff_iff,hG,eN];refine⟨fun h=>h.1,fun h=>⟨h,fun q q1 q2=>?_⟩⟩;have:=JB q q1 q2;unfold Eff.sv at this ⊢;rw[JD,z7 (by omega),z7 (by omega)] at this;rw[h,z7 (by omega),z7 (by omega)];exact this
 ·rw[zDb hX hse heb hG hC];by_cases h:∀q,Y.sB v<=q->q<Y.eB v->a (2*q+1)=a (2*q)
  ·rcases l2 a h with h1|h1
   ·exact .inl h1
   ·exact .inr (.inr ⟨gN,fN,h1⟩)
  ·rw[zDb hX hse heb hG hC] at hx;refine .inr (.inr (big a 0 gC ⟨x,hx⟩ fun c=>?_));rw[hC];constructor
   ·rintro⟨_,h3⟩;cases JA:X.la v (pfx a t c) with
    |some i=>exact⟨⟨i,rfl,Nat.zero_le _⟩,h3⟩
    |none =>exfalso;refine h fun q q1 q2=>?_;have:=h3 q q1 q2;unfold Eff.sv at this;rw[JA,z7 (by omega),z7 (by omega)] at this;exact this
   ·rintro⟨_,h3⟩;exact⟨trivial,h3⟩
theorem lev_v(hv:∃j,j<X.E/\X.lab j=v)(JC:∀K:BFn,(∀a c:Nat->Bool,(∀p,b-3<=p->p<b->a (2*p)=c (2*p))->K a=K c)->S K)(JB:∀K,PtS (zAY Y v) (2*b) t0 K->S K)(JA:∀K,zIR (zAY Y v) (2*b) t1 K->S K){t:Nat}(ht:t<2*b) :
  ∃L:List BFn,L.length<=vM X Y b t0 t1 v t/\∀G,FV X Y v G->∀a,Dep (fun c=>G (pfx a t c)) t->(fun c=>G (pfx a t c))∈L\/S (fun c=>G (pfx a t c))\/∃g,FX X Y g/\(fun c=>G (pfx a t c))=fun c=>g (pfx a t c):=by
 unfold vM;by_cases h1:t1<=t
 ·rw[if_pos h1];exact⟨[],Nat.zero_le _,fun G ⟨M,hM,hG⟩ a _=>.inr (.inl (JA _ ⟨t,h1,zL6 hX hse heb hG t a⟩))⟩
 rw[if_neg h1];by_cases h2:t<=2*Y.sB v
 ·rw[if_pos h2];obtain⟨L,a1,a2⟩:=zVd hX hse heb h2;exact⟨L,a1,fun G hG a hd=>.inl (a2 G hG a hd)⟩
 rw[if_neg h2];by_cases h3:t<2*Y.eB v
 ·rw[if_pos h3];by_cases h0:t<t0
  ·rw[if_pos h0];obtain⟨L,a1,a2⟩:=zRB hX hse heb hv t;exact⟨L,a1,fun G hG a hd=>.inl (a2 G hG a hd)⟩
  ·rw[if_neg h0];by_cases hm:(2*X.cnt v 0+2)*2^((t+1)/2)<=2^b-2^((t+1)/2)
   ·obtain⟨L,a1,a2⟩:=zRB hX hse heb hv t;exact⟨L,by rw[Nat.min_eq_left hm];exact a1,fun G hG a hd=>.inl (a2 G hG a hd)⟩
   ·obtain⟨L,a1,a2⟩:=zVc hX hse heb JB ht (by omega);exact⟨L,by rw[Nat.min_eq_right (by omega)];exact a1,fun G hG a hd=>(a2 G hG a hd).imp id .inl⟩
 ·rw[if_neg h3];exact zVe hX hse heb hv JC (by omega)
end
end
section
open Go.Bd
def sm(n:Nat)(f:Nat->Nat):Nat:=((List.range n).map f).sum
theorem zEd(f:Nat->Nat):sm 0 f=0:=rfl
theorem zm(n:Nat)(f:Nat->Nat):sm (n+1) f=sm n f+f n:=by
 unfold sm;rw[List.range_succ,List.map_append,List.sum_append];simp
theorem zCw{f g:Nat->Nat}:∀{n:Nat},(∀i,i<n->f i<=g i)->sm n f<=sm n g
 |0,_=>Nat.le_refl _
 |n+1,h=>by rw[zm,zm];exact Nat.add_le_add (zCw fun i hi=>h i (by omega)) (h n (by omega))
theorem zX{f g:Nat->Nat}:∀{n:Nat},(∀i,i<n->f i=g i)->sm n f=sm n g
 |0,_=>rfl
 |n+1,h=>by rw[zm,zm,zX fun i hi=>h i (by omega),h n (by omega)]
theorem zCA{f g:Nat->Nat}:∀n:Nat,sm n (fun i=>f i+g i)=sm n f+sm n g
 |0=>rfl
 |n+1=>by rw[zm,zm,zm,zCA n];omega
theorem zAP(c:Nat):∀n:Nat,sm n (fun _=>c)=n*c
 |0=>by simp[sm]
 |n+1=>by rw[zm,zAP c n,Nat.succ_mul]
theorem zHU(c:Nat){f:Nat->Nat}:∀n:Nat,sm n (fun i=>c*f i)=c*sm n f
 |0=>by simp[sm]
 |n+1=>by rw[zm,zm,zHU c n,Nat.mul_add]
theorem zIX{f:Nat->Nat}{n m:Nat}(h:n<=m):sm n f<=sm m f:=by
 obtain⟨d,rfl⟩:∃d,m=n+d:=⟨m-n,by omega⟩
 induction d with
 |zero=>exact Nat.le_refl _
 |succ d ih=>rw[<-Nat.add_assoc,zm];have:=ih (by omega);omega
theorem zGQ{f:Nat->Nat->Nat}(m:Nat):∀n:Nat,sm n (fun i=>sm m fun j=>f i j)=sm m fun j=>sm n fun i=>f i j
 |0=>by rw[zEd];exact(zX fun i _=>zEd _).trans ((zAP 0 m).trans (Nat.mul_zero _)) |>.symm
 |n+1=>by rw[zm,zGQ m n,<-zCA];exact zX fun j _=>(zm n fun i=>f i j).symm
theorem zEe{x c:Nat}:∀{n:Nat},x<n->sm n (fun i=>if i=x then c else 0)=c
 |0,h=>by omega
 |n+1,h=>by
  rw[zm];by_cases e:n=x
  ·subst e;rw[if_pos rfl,zX (g:=fun _=>0) fun i hi=>if_neg (by omega),zAP];omega
  ·rw[if_neg e,zEe (by omega)];omega
theorem zQu{f:Nat->Nat}{x:Nat}:∀{n:Nat},x<n->f x<=sm n f
 |0,h=>by omega
 |n+1,h=>by
  rw[zm];by_cases e:n=x
  ·subst e;omega
  ·have:=zQu (f:=f) (show x<n by omega);omega
def smD(E:Nat)(f:Nat->Nat):Nat->Nat
 |0=>0
 |d+1=>smD E f d+f (E-1-d)
theorem zQt(E:Nat)(f:Nat->Nat):∀d,d<=E->sm E f=sm (E-d) f+smD E f d
 |0,_=>by simp[smD]
 |d+1,h=>by
  have h1:=zQt E f d (by omega);have h2:=zm (E-(d+1)) f;rw[show E-(d+1)+1=E-d by omega] at h2;have h3:smD E f (d+1)=smD E f d+f (E-(d+1)):=by rw[show E-(d+1)=E-1-d by omega];rfl
  omega
section
variable (X:Eff)
def Eff.cq(q:Nat->Bool)(j:Nat):Nat:=((List.range X.E).filter fun i=>decide (j<=i)&&q (X.lab i)).length
theorem zOF{q:Nat->Bool}{v j:Nat}(hv:q v=true):X.cnt v j<=X.cq q j:=by
 unfold Eff.cnt Eff.cq;rw[<-List.countP_eq_length_filter,<-List.countP_eq_length_filter];refine List.countP_mono_left fun i _ h=>?_;simp only[Bool.and_eq_true,decide_eq_true_eq] at h ⊢;exact⟨h.1,by rw[h.2];exact hv⟩
theorem zAF(p:Nat->Bool):∀n,((List.range n).filter p).length=sm n fun i=>if p i=true then 1 else 0
 |0=>rfl
 |n+1=>by
  rw[List.range_succ,List.filter_append,List.length_append,zAF p n,zm];by_cases h:p n=true
  ·simp[h]
  ·simp[h]
theorem zTU{q:Nat->Bool}{j:Nat}(hj:j<X.E):X.cq q j=X.cq q (j+1)+if q (X.lab j)=true then 1 else 0:=by
 unfold Eff.cq;rw[zAF,zAF];have e:∀i,i<X.E->(if(decide (j<=i)&&q (X.lab i))=true then 1 else 0)=(if(decide (j+1<=i)&&q (X.lab i))=true then 1 else 0)+if i=j then(if q (X.lab j)=true then 1 else 0) else 0:=fun i _=>by
  by_cases h:i=j
  ·subst h;rw[decide_eq_true (Nat.le_refl i),decide_eq_false (show ¬i+1<=i by omega),if_pos rfl];simp
  ·rw[if_neg h,Nat.add_zero];have:decide (j<=i)=decide (j+1<=i):=by rw[decide_eq_decide];omega
   rw[this]
 rw[zX e,zCA,zEe hj]
theorem zNL{φ:Nat->Nat}(hφ:∀i j,i<=j->φ i<=φ j)(q:Nat->Bool):sm X.E (fun j=>if q (X.lab j)=true then φ (X.cnt (X.lab j) j) else 0)<=sm (X.cq q 0) fun i=>φ (i+1):=by
 have key:∀d,d<=X.E->smD X.E (fun j=>if q (X.lab j)=true then φ (X.cnt (X.lab j) j) else 0) d<=sm (X.cq q (X.E-d)) fun i=>φ (i+1):=fun d=>by
  induction d with
  |zero=>exact fun _=>Nat.zero_le _
  |succ d ih =>
   intro hd;have ih:=ih (by omega);unfold smD;have e1:=zTU X (q:=q) (j:=X.E-(d+1)) (by omega);rw[show X.E-(d+1)+1=X.E-d by omega] at e1;rw[show X.E-1-d=X.E-(d+1) by omega];by_cases h:q (X.lab (X.E-(d+1)))=true
   ·rw[if_pos h] at e1 ⊢;rw[e1,zm];have h2:=zOF X (j:=X.E-(d+1)) h;rw[e1] at h2;exact Nat.add_le_add ih (hφ _ _ h2)
   ·rw[if_neg h] at e1 ⊢;rw[e1];omega
 have:=key X.E (Nat.le_refl _);rw[zQt X.E _ X.E (Nat.le_refl _),Nat.sub_self,zEd,Nat.zero_add];rwa[Nat.sub_self] at this
theorem zRX{v:Nat}:X.cq (fun u=>!decide (u=v)) 0+X.cnt v 0=X.E:=by
 unfold Eff.cq Eff.cnt;rw[zAF,zAF,<-zCA];refine(zX (g:=fun _=>1) fun i _=>?_).trans (by rw[zAP];omega);by_cases h:X.lab i=v
 ·simp[h]
 ·simp[h]
theorem zRY:X.cq (fun _=>true) 0=X.E:=by
 unfold Eff.cq;rw[zAF];exact(zX (g:=fun _=>1) fun i _=>by simp).trans (by rw[zAP];omega)
theorem zWK(v:Nat):X.cnt v 0<=X.E:=by have:=zRX X (v:=v);omega
theorem zG0{v:Nat}:0<X.cnt v 0<->∃j,j<X.E/\X.lab j=v:=by
 unfold Eff.cnt;rw[List.length_pos_iff_exists_mem];constructor
 ·rintro⟨j,hj⟩;rw[List.mem_filter,List.mem_range] at hj;exact⟨j,hj.1,by simpa using hj.2⟩
 ·rintro⟨j,h1,h2⟩;exact⟨j,List.mem_filter.2 ⟨List.mem_range.2 h1,by simp[h2]⟩⟩
theorem zTf(v c:Nat):sm X.E (fun j=>if X.lab j=v then c else 0)=X.cnt v 0*c:=by
 unfold Eff.cnt;rw[zAF,Nat.mul_comm,<-zHU];exact zX fun i _=>by
  by_cases h:X.lab i=v
  ·simp[h]
  ·simp[h]
end
def fT(t i:Nat):Nat:=min (2^((t+1)/2)) (2^i)
def uT(b t:Nat):Nat:=if t<2*(b-3) then(2^(t/2)+3)/4+8 else 0
def phT(b t i:Nat):Nat:=max (4*fT t i) (uT b t)
def inT(b t0 t e:Nat):Nat:=if e=0 then 0 else if t<t0 then(2*e+2)*2^((t+1)/2) else min ((2*e+2)*2^((t+1)/2)) (2^b-2^((t+1)/2))
def mx(f:Nat->Nat):Nat->Nat
 |0=>f 0
 |n+1=>max (mx f n) (f (n+1))
theorem zSu{f:Nat->Nat}{i:Nat}:∀{n:Nat},i<=n->f i<=mx f n
 |0,h=>by
  have:i=0:=by omega
  subst this;exact Nat.le_refl _
 |n+1,h=>by
  unfold mx;by_cases e:i=n+1
  ·subst e;exact Nat.le_max_right _ _
  ·exact Nat.le_trans (zSu (by omega)) (Nat.le_max_left _ _)
def opM(b t0 t1 t:Nat):Nat:=(if t%2=0/\t<2*(b-3) then 3*sm 8 fun i=>fT t (i+1) else 0) +
 if t1<=t then 0 else if t%2=0 then mx (fun e=>inT b t0 t e+sm (8-e) fun i=>phT b t (i+1)) 8 else inT b t0 t 8
theorem zNs{t i j:Nat}(h:i<=j):fT t i<=fT t j:=by
 unfold fT;have:=Nat.pow_le_pow_right (show 0<2 by omega) h;omega
theorem zPZ{b t i j:Nat}(h:i<=j):phT b t i<=phT b t j:=by
 unfold phT;have:=zNs (t:=t) h;omega
theorem zPx{b t0 t e e':Nat}(h:e<=e'):inT b t0 t e<=inT b t0 t e':=by
 unfold inT;by_cases h0:e=0
 ·rw[if_pos h0];exact Nat.zero_le _
 ·have JA:¬e'=0:=by omega
  rw[if_neg h0,if_neg JA];have:(2*e+2)*2^((t+1)/2)<=(2*e'+2)*2^((t+1)/2):=Nat.mul_le_mul_right _ (by omega);split
  ·exact this
  ·omega
structure zOo(Y:Bts)(b V:Nat):Prop where
 le:∀v,v<V->Y.sB v<=Y.eB v/\Y.eB v<=b
 ord:∀v u,v<u->u<V->Y.eB v<=Y.sB u
section
variable {X:Eff} {Y:Bts} {b t0 t1 V t:Nat} (hY:zOo Y b V) (hlab:∀j,j<X.E->X.lab j<V) (hE:X.E<=8)
include hY hlab hE
theorem xM_le:xM X b t<=if t%2=0/\t<2*(b-3) then 3*sm 8 (fun i=>fT t (i+1)) else 0:=by
 unfold xM;by_cases h:t%2=0/\t<2*(b-3)
 ·rw[if_pos h,if_pos h];have h1:=zNL X (φ:=fun i=>fT t i) (fun i j=>zNs) fun _=>true;simp only[if_true] at h1;rw[zRY] at h1;have h2:((List.range X.E).map fun j=>3*kN X t (X.lab j) j).sum=3*sm X.E fun j=>fT t (X.cnt (X.lab j) j):=zHU 3 X.E;rw[h2];exact Nat.mul_le_mul_left _ (Nat.le_trans h1 (zIX hE))
 ·rw[if_neg h,if_neg h];exact Nat.le_refl _
theorem zRN{v u:Nat}(hv:v<V)(hu:u<V)(h1:¬t<=2*Y.sB v)(h2:t<2*Y.eB v)(h3:¬t<=2*Y.sB u)(h4:t<2*Y.eB u):v=u:=by
 rcases Nat.lt_trichotomy v u with h|h|h
 ·have:=hY.ord v u h hu;omega
 ·exact h
 ·have:=hY.ord u v h hv;omega
theorem zQo{v:Nat}(h:¬(¬t<=2*Y.sB v/\t<2*Y.eB v))(hc:0<X.cnt v 0)(he:t%2=0):vM X Y b t0 t1 v t<=sm X.E fun j=>if X.lab j=v then phT b t (X.cnt (X.lab j) j) else 0:=by
 unfold vM;by_cases h1:t1<=t
 ·rw[if_pos h1];exact Nat.zero_le _
 rw[if_neg h1];by_cases h2:t<=2*Y.sB v
 ·rw[if_pos h2,if_pos he]
  -- the first of its effects has as many as all
  obtain⟨j,⟨hj,hl⟩,JA⟩:=zKQ (fun j=>j<X.E/\X.lab j=v) ((zG0 X).1 hc);have e:X.cnt v j=X.cnt v 0:=by
   unfold Eff.cnt;congr 1;refine List.filter_congr fun i hi=>?_;by_cases h:X.lab i=v
   ·have:¬i<j:=fun JB=>JA i JB ⟨List.mem_range.1 hi,h⟩;simp[h];omega
   ·simp[h]
  have h3:2*kN X t v 0<=sm X.E fun j=>if X.lab j=v then 2*kN X t v j else 0:=by have:=zQu (f:=fun j=>if X.lab j=v then 2*kN X t v j else 0) hj;simp only[hl,if_true] at this;unfold kN at this ⊢;rw[e] at this;exact this
  have h4:(sm X.E fun j=>if X.lab j=v then 2*kN X t v j else 0)+(sm X.E fun j=>if X.lab j=v then 2*kN X t v j else 0)<=sm X.E fun j=>if X.lab j=v then phT b t (X.cnt (X.lab j) j) else 0:=by
   rw[<-zCA];refine zCw fun j _=>?_;by_cases hv:X.lab j=v
   ·rw[if_pos hv,if_pos hv,hv];unfold kN phT fT;omega
   ·rw[if_neg hv,if_neg hv];exact Nat.le_refl _
  have h5:((List.range X.E).map fun j=>if X.lab j=v then 2*kN X t v j else 0).sum=sm X.E fun j=>if X.lab j=v then 2*kN X t v j else 0:=rfl;omega
 ·rw[if_neg h2,if_neg (fun h3=>h ⟨h2,h3⟩)];by_cases h3:t%2=0/\t<2*(b-3)
  ·rw[if_pos h3];have h4:X.cnt v 0*uT b t<=sm X.E fun j=>if X.lab j=v then phT b t (X.cnt (X.lab j) j) else 0:=by
    rw[<-zTf];refine zCw fun j _=>?_;by_cases hv:X.lab j=v
    ·rw[if_pos hv,if_pos hv];exact Nat.le_max_right _ _
    ·rw[if_neg hv,if_neg hv];exact Nat.le_refl _
   refine Nat.le_trans ?_ h4;have hu:uT b t=(2^(t/2)+3)/4+8:=by unfold uT;rw[if_pos h3.2]
   rw[hu];obtain⟨c,JC⟩:∃c,c=X.cnt v 0:=⟨_,rfl⟩;obtain⟨P,hP⟩:∃P,P=2^(t/2):=⟨_,rfl⟩;rw[<-JC,<-hP];by_cases h5:c<=3
   ·have h6:2^c<=8:=Nat.pow_le_pow_right (show 0<2 by omega) h5;have h7:c*2^c<=c*8:=Nat.mul_le_mul_left _ h6;have h8:c*8<=c*((P+3)/4+8):=Nat.mul_le_mul_left _ (by omega);omega
   ·have h6:4*((P+3)/4+8)<=c*((P+3)/4+8):=Nat.mul_le_mul_right _ (by omega);omega
  ·rw[if_neg h3];exact Nat.zero_le _
theorem zUb{v:Nat}(h1:¬t<=2*Y.sB v)(h2:t<2*Y.eB v)(hc:0<X.cnt v 0):vM X Y b t0 t1 v t<=inT b t0 t (X.cnt v 0):=by
 unfold vM inT;have JA:¬X.cnt v 0=0:=by omega
 rw[if_neg h1,if_pos h2,if_neg JA];split
 ·exact Nat.zero_le _
 ·exact Nat.le_refl _
theorem zVP:xM X b t+sm V (fun v=>if 0<X.cnt v 0 then vM X Y b t0 t1 v t else 0)<=opM b t0 t1 t:=by
 unfold opM;refine Nat.add_le_add (xM_le hY hlab hE) ?_;by_cases h1:t1<=t
 ·rw[if_pos h1];refine Nat.le_of_eq ((zX (g:=fun _=>0) fun v _=>?_).trans (by rw[zAP];omega));unfold vM;rw[if_pos h1];split<;>rfl
 rw[if_neg h1];by_cases he:t%2=0
 ·rw[if_pos he]
  -- the terms of all variables but one
  have out:∀q:Nat->Bool,sm V (fun v=>if q v=true then sm X.E fun j=>if X.lab j=v then phT b t (X.cnt (X.lab j) j) else 0 else 0)<=sm (X.cq q 0) fun i=>phT b t (i+1):=fun q=>by
   refine Nat.le_trans (Nat.le_of_eq ?_) (zNL X (φ:=phT b t) (fun i j=>zPZ) q);have e1:∀v,v<V->(if q v=true then sm X.E fun j=>if X.lab j=v then phT b t (X.cnt (X.lab j) j) else 0 else 0)=sm X.E fun j=>if v=X.lab j then(if q (X.lab j)=true then phT b t (X.cnt (X.lab j) j) else 0) else 0:=fun v _=>by
    by_cases hq:q v=true
    ·rw[if_pos hq];refine zX fun j _=>?_;by_cases hl:X.lab j=v
     ·rw[if_pos hl,if_pos hl.symm,if_pos (by rw[hl];exact hq)]
     ·rw[if_neg hl,if_neg fun h=>hl h.symm]
    ·rw[if_neg hq];refine((zX (g:=fun _=>0) fun j _=>?_).trans (by rw[zAP];omega)).symm;by_cases hl:v=X.lab j
     ·rw[if_pos hl,if_neg (by rw[<-hl];exact hq)]
     ·rw[if_neg hl]
   rw[zX e1,zGQ];exact zX fun j hj=>zEe (hlab j hj)
  by_cases JB:∃v,v<V/\0<X.cnt v 0/\¬t<=2*Y.sB v/\t<2*Y.eB v
  ·obtain⟨v,hv,hc,i1,i2⟩:=JB;have h2:sm V (fun u=>if 0<X.cnt u 0 then vM X Y b t0 t1 u t else 0)<=sm V (fun u=>(if u=v then inT b t0 t (X.cnt v 0) else 0)+if(!decide (u=v))=true then sm X.E fun j=>if X.lab j=u then phT b t (X.cnt (X.lab j) j) else 0 else 0):=zCw fun u hu=>by
    by_cases e:u=v
    ·subst e;rw[if_pos hc,if_pos rfl];have:=zUb (t0:=t0) (t1:=t1) hY hlab hE i1 i2 hc;omega
    ·have hq:(!decide (u=v))=true:=by simp[e]
     rw[if_neg e,if_pos hq,Nat.zero_add];by_cases JA:0<X.cnt u 0
     ·rw[if_pos JA];exact zQo hY hlab hE (fun⟨h5,h6⟩=>e (zRN hY hlab hE hu hv h5 h6 i1 i2)) JA he
     ·rw[if_neg JA];exact Nat.zero_le _
   rw[zCA,zEe hv] at h2;have h3:=out fun u=>!decide (u=v);have h4:=zRX X (v:=v);have h5:sm (X.cq (fun u=>!decide (u=v)) 0) (fun i=>phT b t (i+1))<=sm (8-X.cnt v 0) fun i=>phT b t (i+1):=zIX (by omega);have h6:=zSu (f:=fun e=>inT b t0 t e+sm (8-e) fun i=>phT b t (i+1)) (i:=X.cnt v 0) (n:=8) (by omega);have h6:inT b t0 t (X.cnt v 0)+sm (8-X.cnt v 0) (fun i=>phT b t (i+1))<=_:=h6;omega
  ·have h2:sm V (fun u=>if 0<X.cnt u 0 then vM X Y b t0 t1 u t else 0)<=sm V (fun u=>if(true:Bool)=true then sm X.E fun j=>if X.lab j=u then phT b t (X.cnt (X.lab j) j) else 0 else 0):=zCw fun u hu=>by
    rw[if_pos rfl];by_cases JA:0<X.cnt u 0
    ·rw[if_pos JA];exact zQo hY hlab hE (fun⟨h5,h6⟩=>JB ⟨u,hu,JA,h5,h6⟩) JA he
    ·rw[if_neg JA];exact Nat.zero_le _
   have h3:=out fun _=>true;rw[zRY] at h3;have h5:sm X.E (fun i=>phT b t (i+1))<=sm (8-0) fun i=>phT b t (i+1):=zIX (by omega);have h6:=zSu (f:=fun e=>inT b t0 t e+sm (8-e) fun i=>phT b t (i+1)) (i:=0) (n:=8) (by omega);have h6:inT b t0 t 0+sm (8-0) (fun i=>phT b t (i+1))<=_:=h6;omega
 ·rw[if_neg he];have odd:∀v,¬(¬t<=2*Y.sB v/\t<2*Y.eB v)->vM X Y b t0 t1 v t=0:=fun v h=>by
   unfold vM;rw[if_neg h1];by_cases h2:t<=2*Y.sB v
   ·rw[if_pos h2,if_neg he]
   ·rw[if_neg h2,if_neg fun h3=>h ⟨h2,h3⟩,if_neg fun h3=>he h3.1]
  by_cases JB:∃v,v<V/\0<X.cnt v 0/\¬t<=2*Y.sB v/\t<2*Y.eB v
  ·obtain⟨v,hv,hc,i1,i2⟩:=JB;have h2:sm V (fun u=>if 0<X.cnt u 0 then vM X Y b t0 t1 u t else 0)<=sm V (fun u=>if u=v then inT b t0 t (X.cnt v 0) else 0):=zCw fun u hu=>by
    by_cases e:u=v
    ·subst e;rw[if_pos hc,if_pos rfl];exact zUb hY hlab hE i1 i2 hc
    ·rw[if_neg e,odd u fun⟨h5,h6⟩=>e (zRN hY hlab hE hu hv h5 h6 i1 i2)];split<;>omega
   rw[zEe hv] at h2;have:=zWK X v;exact Nat.le_trans h2 (zPx (by omega))
  ·refine Nat.le_trans (Nat.le_of_eq ((zX (g:=fun _=>0) fun u hu=>?_).trans (by rw[zAP];omega))) (Nat.zero_le _);by_cases JA:0<X.cnt u 0
   ·rw[if_pos JA,odd u fun⟨h5,h6⟩=>JB ⟨u,hu,JA,h5,h6⟩]
   ·rw[if_neg JA]
end
theorem zTb{X:Eff}{Y:Bts}{b t0 t1 V:Nat}{S:BFn->Prop}(hX:X.Ok b)(hY:zOo Y b V)(hlab:∀j,j<X.E->X.lab j<V)(hE:X.E<=8)
  (JA:∀K:BFn,(∀a c:Nat->Bool,(∀p,b-3<=p->p<b->a (2*p)=c (2*p))->K a=K c)->S K) (JC:∀v K,v<V->PtS (zAY Y v) (2*b) t0 K->S K) (JB:∀v K,v<V->zIR (zAY Y v) (2*b) t1 K->S K) :
  zAo (2*b) S (fun G=>FX X Y G\/∃v,v<V/\0<X.cnt v 0/\FV X Y v G) ((List.range (2*b)).map (opM b t0 t1)).sum:=by
 refine(zH5 (fun t=>xM X b t+sm V (fun v=>if 0<X.cnt v 0 then vM X Y b t0 t1 v t else 0)) fun t ht=>?_).mono (fun _ h=>h) (zCw fun t _=>zVP hY hlab hE);obtain⟨Lx,x1,x2⟩:=lev_x (X:=X) (Y:=Y) hX JA t;have hl:∀v,∃L:List BFn,v<V->0<X.cnt v 0->L.length<=vM X Y b t0 t1 v t/\∀G,FV X Y v G->∀a,Dep (fun c=>G (pfx a t c)) t->(fun c=>G (pfx a t c))∈L\/S (fun c=>G (pfx a t c))\/∃g,FX X Y g/\(fun c=>G (pfx a t c))=fun c=>g (pfx a t c):=fun v=>by
  by_cases h:v<V/\0<X.cnt v 0
  ·obtain⟨L,hL⟩:=lev_v hX (hY.le v h.1).1 (hY.le v h.1).2 ((zG0 X).1 h.2) JA (fun K=>JC v K h.1) (fun K=>JB v K h.1) ht;exact⟨L,fun _ _=>hL⟩
  ·exact⟨[],fun h1 h2=>absurd ⟨h1,h2⟩ h⟩
 obtain⟨L,hL⟩:=Classical.skolem.1 hl;refine⟨Lx++(List.range V).flatMap fun v=>if v<V/\0<X.cnt v 0 then L v else [],?_,?_⟩
 ·rw[List.length_append];refine Nat.add_le_add x1 (Nat.le_trans (zBZ _ (fun v=>if v<V/\0<X.cnt v 0 then vM X Y b t0 t1 v t else 0) (fun v=>?_) V) (zCw fun v hv=>?_))
  ·show(if v<V/\0<X.cnt v 0 then L v else []).length<=_;by_cases h:v<V/\0<X.cnt v 0
   ·rw[if_pos h,if_pos h];exact(hL v h.1 h.2).1
   ·rw[if_neg h,if_neg h];exact Nat.le_refl _
  ·by_cases h:0<X.cnt v 0
   ·rw[if_pos h,if_pos ⟨hv,h⟩];exact Nat.le_refl _
   ·rw[if_neg h,if_neg fun h2=>h h2.2];exact Nat.le_refl _
 ·rintro G (hG|⟨v,hv,hc,hG⟩) a hd
  ·exact(x2 G hG a hd).imp (List.mem_append_left _) id
  ·rcases(hL v hv hc).2 G hG a hd with h|h|⟨g,hg,e⟩
   ·exact .inl (List.mem_append_right _ (List.mem_flatMap.2 ⟨v,List.mem_range.2 hv,by rw[if_pos ⟨hv,hc⟩];exact h⟩))
   ·exact .inr h
   ·rw[e] at hd ⊢;exact(x2 g hg a hd).imp (List.mem_append_left _) id
end
end Go.Sy
namespace Go.Proofs.YtolkjbmcindhjaaGreat
section
open Go Go.W Go.Tk Go.Rx Go.Bd Go.Sy Go.Maps
def zVb(vars:List Nat)(f:Go.Tk.Fc):List (Nat×Bool):=(List.range (wd (vars.getD f.1 0))).map fun k=>(2*(bP vars f.1+k),f.2.testBit (wd (vars.getD f.1 0)-1-k))
def zBf(vars:List Nat)(l:List Go.Tk.Fc):List (Nat×Bool):=l.flatMap (zVb vars)
section
variable {vars:List Nat} (h64:∀n∈vars,1<=n/\n<=64)
include h64
theorem zQm{v x:Nat}(hv:v<vars.length)(hx:x<vars.getD v 0):x<2^wd (vars.getD v 0):=by
 have hm:vars.getD v 0∈vars:=by simp[List.getD,List.getElem?_eq_getElem hv]
 have:=zKt (h64 _ hm).2;omega
theorem zJh{v x nx:Nat}{a:Nat->Bool}(hx:x<2^wd (vars.getD v 0)):rv vars a nx v=x<->∀k,k<wd (vars.getD v 0)->a (2*(bP vars v+k)+nx)=x.testBit (wd (vars.getD v 0)-1-k):=by
 unfold rv;exact(zBK _ _ hx).symm
theorem zKV{f:Go.Tk.Fc}(hf:f.1<vars.length/\f.2<vars.getD f.1 0)(a:Nat->Bool):zU (zVb vars f) a=decide (rv vars a 0 f.1=f.2):=by
 rw[Bool.eq_iff_iff,decide_eq_true_iff,zJh h64 (zQm h64 hf.1 hf.2)];unfold zU zVb;rw[List.all_map,List.all_eq_true];constructor
 ·intro h k hk;have:=h k (List.mem_range.2 hk);simpa using this
 ·intro h k hk;have:=h k (List.mem_range.1 hk);simpa using this
theorem zET{l:List Go.Tk.Fc}(hl:∀f∈l,f.1<vars.length/\f.2<vars.getD f.1 0)(a:Nat->Bool):zU (zBf vars l) a=hdB (rs vars a 0) l:=by
 induction l with
 |nil=>rfl
 |cons f l ih =>
  have ih:=ih fun g hg=>hl g (by simp[hg]);have h1:=zKV h64 (hl f (by simp)) a;have e:zU (zBf vars (f::l)) a=(zU (zVb vars f) a&&zU (zBf vars l) a):=by unfold zBf zU;rw[List.flatMap_cons,List.all_append]
  rw[e,ih,h1];unfold hdB;rw[List.all_cons,zCe (hl f (by simp)).1]
theorem zGk{l:List Go.Tk.Fc}(hl:∀f∈l,f.1<vars.length):∀p∈zBf vars l,p.1%2=0/\p.1<2*zD vars:=fun p hp=>by
 obtain⟨f,hf,h⟩:=List.mem_flatMap.1 hp;obtain⟨k,hk,rfl⟩:=List.mem_map.1 h;have hk:=List.mem_range.1 hk;have:=zWe (hl f hf);exact⟨by show 2*_%2=0;omega,by show 2*_<_;omega⟩
end
def zBF(vars:List Nat)(o:No):Eff:={
 E:=o.effs.length
 lab:=fun j=>match o.effs[j]? with|some x=>x.v|none=>0
 con:=fun j=>match o.effs[j]? with|some x=>zBf vars x.cnd|none=>[]
 val:=fun j q=>match o.effs[j]? with|some x=>x.x.testBit (wd (vars.getD x.v 0)-1-(q-bP vars x.v))|none=>false }
def zQU(vars:List Nat):Bts:=⟨bP vars,fun v=>bP vars (v+1)⟩
theorem zC5{vars:List Nat}{v:Nat}(hv:v<vars.length):bP vars (v+1)=bP vars v+wd (vars.getD v 0):=zC4 (by simp[List.getD,List.getElem?_eq_getElem hv])
theorem zOW(vars:List Nat):zOo (zQU vars) (zD vars) vars.length :=
 ⟨fun v hv=>⟨zAl (Nat.le_succ _),by have:=zAl (vars:=vars) (show v+1<=vars.length by omega);rw[zBn] at this;exact this⟩,fun v u h1 h2=>zAl h1⟩
theorem zVh{X:Eff}{v:Nat}{a:Nat->Bool}{i:Nat}(hi:i<X.E)(hl:X.lab i=v)(hc:zU (X.con i) a=true):∃k,X.la v a=some k/\i<=k:=by
 have key:∀n,i<n->n<=X.E->∃k,X.laK v a n=some k/\i<=k:=fun n=>by
  induction n with
  |zero=>intro h;omega
  |succ n ih =>
   intro h h2;unfold Eff.laK;by_cases hh:X.lab n=v/\zU (X.con n) a=true
   ·rw[if_pos hh];exact⟨n,rfl,by omega⟩
   ·rw[if_neg hh];have:i≠n:=fun e=>by subst e;exact hh ⟨hl,hc⟩
    exact ih (by omega) (by omega)
 exact key X.E hi (Nat.le_refl _)
section
variable {T:Nt} {o:No} (h64:∀n∈T.vars,1<=n/\n<=64) (ho:NoG T.vars o)
include h64 ho
theorem zC2{j:Nat}{x:Nf}(h:o.effs[j]? = some x):(zBF T.vars o).lab j=x.v/\(zBF T.vars o).con j=zBf T.vars x.cnd/\∀q,(zBF T.vars o).val j q=x.x.testBit (wd (T.vars.getD x.v 0)-1-(q-bP T.vars x.v)):=by
 unfold zBF;simp only[h];exact⟨trivial,trivial,fun _=>trivial⟩
theorem zGt{j:Nat}(hj:j<(zBF T.vars o).E):∃x,o.effs[j]? = some x/\x∈o.effs:=by
 have hj:j<o.effs.length:=hj;exact⟨o.effs[j],List.getElem?_eq_getElem hj,List.getElem_mem hj⟩
theorem zN0:(zBF T.vars o).Ok (zD T.vars):=fun j hj p hp=>by
 obtain⟨x,hx,hm⟩:=zGt h64 ho hj;rw[(zC2 h64 ho hx).2.1] at hp;exact zGk h64 (fun f hf=>((ho.cnd x hm).rng f hf).1) p hp
theorem zQK:∀j,j<(zBF T.vars o).E->(zBF T.vars o).lab j<T.vars.length:=fun j hj=>by
 obtain⟨x,hx,hm⟩:=zGt h64 ho hj;rw[(zC2 h64 ho hx).1];exact(ho.eff x hm).1
theorem zGn{v:Nat}{a:Nat->Bool}:∀d j,j+d=o.effs.length->zFk o (rs T.vars a 0) v d j=(match (zBF T.vars o).la v a with|some i=>if j<=i then(match o.effs[i]? with|some x=>some x.x|none=>none) else none|none=>none)
 |0,j,h=>by
  cases JA:(zBF T.vars o).la v a with
  |none=>rfl
  |some i =>have:i<o.effs.length:=((zBF T.vars o).la_some.1 JA).1;show none=if j<=i then _ else none;rw[if_neg (by omega)]
 |d+1,j,h=>by
  have ih:=zGn (v:=v) (a:=a) d (j+1) (by omega);obtain⟨x,hx,hm⟩:=zGt h64 ho (j:=j) (by show j<o.effs.length;omega);obtain⟨e1,e2,_⟩:=zC2 h64 ho hx;have ec:zU ((zBF T.vars o).con j) a=hdB (rs T.vars a 0) x.cnd:=by rw[e2];exact zET h64 (fun f hf=>(ho.cnd x hm).rng f hf) a
  rw[zDh,ih,hx];cases JA:(zBF T.vars o).la v a with
  |none =>
   have:¬(x.v=v/\hdB (rs T.vars a 0) x.cnd=true):=fun hh=>by obtain⟨k,hk,_⟩:=zVh (X:=zBF T.vars o) (v:=v) (a:=a) (i:=j) (by show j<o.effs.length;omega) (by rw[e1];exact hh.1) (by rw[ec];exact hh.2);rw[JA] at hk;cases hk
   simp only;rw[if_neg this]
  |some i =>
   obtain⟨l1,l2,l3,l4⟩:=(zBF T.vars o).la_some.1 JA;have l1:i<o.effs.length:=l1;obtain⟨y,hy⟩:∃y,o.effs[i]? = some y:=⟨_,List.getElem?_eq_getElem l1⟩;simp only[hy];by_cases h1:j+1<=i
   ·have h3:j<=i:=by omega
    rw[if_pos h1,if_pos h3]
   ·rw[if_neg h1];by_cases h2:j=i
    ·subst h2;rw[hx] at hy;injection hy with hy;subst hy;rw[if_pos (Nat.le_refl _)];simp only;rw[if_pos ⟨by rw[<-e1];exact l2,by rw[<-ec];exact l3⟩]
    ·have:¬(x.v=v/\hdB (rs T.vars a 0) x.cnd=true):=fun hh=>l4 j (by omega) (by show j<o.effs.length;omega) (by rw[e1];exact hh.1) (by rw[ec];exact hh.2);simp only;rw[if_neg this,if_neg (by omega)]
theorem zPr{v j:Nat}(hj:j<=o.effs.length)(a:Nat->Bool):leB T.vars o v j a=true<->∀i,(zBF T.vars o).la v a=some i->i<j:=by
 unfold leB lsE;rw[zGn h64 ho _ _ (by omega)];cases JA:(zBF T.vars o).la v a with
 |none=>simp
 |some i =>
  have l1:i<o.effs.length:=((zBF T.vars o).la_some.1 JA).1;obtain⟨y,hy⟩:∃y,o.effs[i]? = some y:=⟨_,List.getElem?_eq_getElem l1⟩;simp only[hy];by_cases h:j<=i
  ·rw[if_pos h];constructor
   ·intro hh;cases hh
   ·intro hh;have:=hh i rfl;omega
  ·rw[if_neg h];constructor
   ·intro _ k hk;injection hk with hk;omega
   ·intro _;rfl
theorem zSJ{v i:Nat}{y:Nf}{a:Nat->Bool}(hy:o.effs[i]? = some y)(hv:y.v=v):rv T.vars a 1 v=y.x<->∀q,bP T.vars v<=q->q<bP T.vars (v+1)->a (2*q+1)=(zBF T.vars o).val i q:=by
 have hm:=List.mem_of_getElem? hy;obtain⟨h1,h2⟩:=ho.eff y hm;subst hv;rw[zJh h64 (zQm h64 h1 h2),zC5 h1];have e3:=(zC2 h64 ho hy).2.2;constructor
 ·intro h q q1 q2;have:=h (q-bP T.vars y.v) (by omega);rw[show bP T.vars y.v+(q-bP T.vars y.v)=q by omega] at this;rw[this,e3]
 ·intro h k hk;have:=h (bP T.vars y.v+k) (by omega) (by omega);rw[this,e3,show bP T.vars y.v+k-bP T.vars y.v=k by omega]
theorem zIb{v:Nat}(hv:v<T.vars.length){a:Nat->Bool}:rv T.vars a 1 v=rv T.vars a 0 v<->∀q,bP T.vars v<=q->q<bP T.vars (v+1)->a (2*q+1)=a (2*q):=by
 have hx:=zK9 T.vars a 0 v;have h0:=(zJh h64 (nx:=0) (a:=a) hx).1 rfl;rw[zJh h64 hx,zC5 hv];constructor
 ·intro h q q1 q2;have h1:=h (q-bP T.vars v) (by omega);have h2:=h0 (q-bP T.vars v) (by omega);rw[show bP T.vars v+(q-bP T.vars v)=q by omega] at h1 h2;rw[h1,<-h2];rfl
 ·intro h k hk;have h1:=h (bP T.vars v+k) (by omega) (by omega);rw[h1];exact h0 k hk
theorem zLi{v:Nat}(hv:v<T.vars.length){a:Nat->Bool}:rv T.vars a 1 v=zJE o (rs T.vars a 0) v<->∀q,bP T.vars v<=q->q<bP T.vars (v+1)->a (2*q+1)=(zBF T.vars o).sv v q a:=by
 unfold zJE Eff.sv;rw[zGn h64 ho _ _ (by omega)];cases JA:(zBF T.vars o).la v a with
 |none =>simp only[Option.getD_none];rw[zCe hv,zIb h64 ho hv]
 |some i =>obtain⟨l1,l2,_⟩:=(zBF T.vars o).la_some.1 JA;have l1:i<o.effs.length:=l1;obtain⟨y,hy⟩:∃y,o.effs[i]? = some y:=⟨_,List.getElem?_eq_getElem l1⟩;simp only[hy,Nat.zero_le,if_true,Option.getD_some];rw[(zC2 h64 ho hy).1] at l2;exact zSJ h64 ho hy l2
theorem zO3{v:Nat}{M:Option Nat->Prop}(hM:MV (zBF T.vars o) v M){G:BFn}(h:∀a,G a=true<->M ((zBF T.vars o).la v a)/\∀q,bP T.vars v<=q->q<bP T.vars (v+1)->a (2*q+1)=(zBF T.vars o).sv v q a):FV (zBF T.vars o) (zQU T.vars) v G:=⟨M,hM,h⟩
end
def sbX(T:Nt)(o:No)(q:Nat)(a:Nat->Bool):Bool:=(List.range T.vars.length).any fun v=>decide (bP T.vars v<=q)&&decide (q<bP T.vars (v+1))&&(zBF T.vars o).sv v q a
def SaZ(vars:List Nat)(G:BFn):Prop:=∃v,v<vars.length/\(SaS vars v G\/G=saB vars v 0)
def CuZ(vars:List Nat)(l:List Go.Tk.Fc)(G:BFn):Prop:=(∃j,j<l.length/\G=fcB vars l j)\/G=fun a=>!hdB (rs vars a 0) l
def ValZ(vars:List Nat)(G:BFn):Prop:=∃v,v<vars.length/\∃x,x<vars.getD v 0/\∃nx,nx<2/\VlS vars v x nx G
section
variable {T:Nt} {o:No} (h64:∀n∈T.vars,1<=n/\n<=64) (ho:NoG T.vars o)
include h64 ho
theorem zFz{v q:Nat}(hv:v<T.vars.length)(h1:bP T.vars v<=q)(h2:q<bP T.vars (v+1))(a:Nat->Bool):sbX T o q a=(zBF T.vars o).sv v q a:=by
 unfold sbX;rw[Bool.eq_iff_iff,List.any_eq_true];constructor
 ·rintro⟨u,hu,h⟩;simp only[Bool.and_eq_true,decide_eq_true_eq] at h;have:u=v:=by
   rcases Nat.lt_trichotomy u v with hh|hh|hh
   ·have:=zAl (vars:=T.vars) (show u+1<=v by omega);omega
   ·exact hh
   ·have:=zAl (vars:=T.vars) (show v+1<=u by omega);omega
  rw[<-this];exact h.2
 ·intro h;exact⟨v,List.mem_range.2 hv,by simp[h1,h2,h]⟩
theorem zJg:EvD (zD T.vars) (sbX T o):=fun q hq a c h=>by
 rw[<-zBn] at hq;obtain⟨v,k,hv,hk,rfl⟩:=zDV T.vars.length (Nat.le_refl _) q hq;have:=zC5 hv;rw[zFz h64 ho hv (by omega) (by omega),zFz h64 ho hv (by omega) (by omega)];rw[zBn] at hq;exact zKy (zN0 h64 ho) hq h
theorem zSL(j:Nat)(hj:j<T.vars.length):rlB T o j=rlF (zD T.vars) (sbX T o) (bP T.vars j):=funext fun a=>by
 rw[Bool.eq_iff_iff,zMY,zy];constructor
 ·intro h q h1 h2;rw[<-zBn] at h2;obtain⟨v,k,hv,hk,rfl⟩:=zDV T.vars.length (Nat.le_refl _) q h2;have hn:=zC5 hv;have JA:j<=v:=Nat.le_of_not_lt fun JB=>by have:=zAl (vars:=T.vars) (show v+1<=j by omega);omega
  rw[zFz h64 ho hv (by omega) (by omega)];exact(zLi h64 ho hv).1 (h v hv JA) _ (by omega) (by omega)
 ·intro h v hv JA;refine(zLi h64 ho hv).2 fun q q1 q2=>?_;rw[<-zFz h64 ho hv q1 q2];have h1:=zAl (vars:=T.vars) JA;have h2:=zAl (vars:=T.vars) (show v+1<=T.vars.length by omega);rw[zBn] at h2;exact h q (by omega) (by omega)
theorem zSS{G:BFn}(h:zIH T o G):SaZ T.vars G\/ValZ T.vars G\/(CuZ T.vars o.pre G\/∃x∈o.effs,CuZ T.vars x.cnd G)\/(FX (zBF T.vars o) (zQU T.vars) G\/∃v,v<T.vars.length/\0<(zBF T.vars o).cnt v 0/\FV (zBF T.vars o) (zQU T.vars) v G) \/
  (∃j,j<T.vars.length/\G=rlF (zD T.vars) (sbX T o) (bP T.vars j))\/G=fun a=>zU (zBf T.vars o.pre) a&&rlF (zD T.vars) (sbX T o) 0 a:=by
 have fac:∀l,zFt T.vars l->∀G,zWq T.vars l G->ValZ T.vars G\/CuZ T.vars l G:=fun l hl G hG=>by
  rcases hG with⟨i,hi,hv⟩|⟨j,hj,rfl⟩
  ·have hm:l.getD i (0,0)∈l:=by simp[List.getD,List.getElem?_eq_getElem hi]
   obtain⟨h1,h2⟩:=hl.rng _ hm;exact .inl ⟨_,h1,_,h2,0,by omega,hv⟩
  ·exact .inr (.inl ⟨j,hj,rfl⟩)
 rcases h with⟨v,hv,h⟩|⟨j,hj,rfl⟩|h|rfl
 ·have nolab:¬0<(zBF T.vars o).cnt v 0->∀a,(zBF T.vars o).la v a=none:=fun hn a=>by
   cases JA:(zBF T.vars o).la v a with
   |none=>rfl
   |some i =>obtain⟨l1,l2,_⟩:=(zBF T.vars o).la_some.1 JA;exact absurd ((zG0 (zBF T.vars o)).2 ⟨i,l1,l2⟩) hn
  have sa0:∀a,saB T.vars v 0 a=true<->∀q,bP T.vars v<=q->q<bP T.vars (v+1)->a (2*q+1)=a (2*q):=fun a=>by
   unfold saB;rw[List.all_eq_true,zC5 hv];constructor
   ·intro h q q1 q2;have:=h (q-bP T.vars v) (List.mem_range.2 (by omega));rw[decide_eq_true_iff,show bP T.vars v+(0+(q-bP T.vars v))=q by omega] at this;exact this.symm
   ·intro h k hk;have hk:=List.mem_range.1 hk;rw[decide_eq_true_iff];have:=h (bP T.vars v+(0+k)) (by omega) (by omega);exact this.symm
  rcases h with h|rfl|rfl|⟨j,hj,x,hx,JC,h⟩
  ·exact .inl ⟨v,hv,.inl h⟩
  ·by_cases hc:0<(zBF T.vars o).cnt v 0
   ·refine .inr (.inr (.inr (.inl (.inr ⟨v,hv,hc,zO3 h64 ho (.inr (.inl rfl)) fun a=>?_⟩))));rw[Bool.and_eq_true,decide_eq_true_iff,zPr h64 ho (Nat.zero_le _)];have e0:(∀i,(zBF T.vars o).la v a=some i->i<0)<->(zBF T.vars o).la v a=none:=by
     constructor
     ·intro h;cases JA:(zBF T.vars o).la v a with
      |none=>rfl
      |some i=>have:=h i JA;omega
     ·intro h i hi;rw[h] at hi;cases hi
    rw[e0];refine and_congr_right fun JA=>?_;rw[eq_comm,zIb h64 ho hv];unfold Eff.sv;rw[JA]
   ·refine .inl ⟨v,hv,.inr (funext fun a=>?_)⟩;rw[Bool.eq_iff_iff,sa0,Bool.and_eq_true,decide_eq_true_iff,zPr h64 ho (Nat.zero_le _),eq_comm,zIb h64 ho hv];exact⟨fun h=>h.2,fun h=>⟨fun i hi=>(by rw[nolab hc a] at hi;cases hi),h⟩⟩
  ·by_cases hc:0<(zBF T.vars o).cnt v 0
   ·refine .inr (.inr (.inr (.inl (.inr ⟨v,hv,hc,zO3 h64 ho (.inr (.inr rfl)) fun a=>?_⟩))));rw[decide_eq_true_iff,zLi h64 ho hv];exact⟨fun h=>⟨trivial,h⟩,fun h=>h.2⟩
   ·refine .inl ⟨v,hv,.inr (funext fun a=>?_)⟩;rw[Bool.eq_iff_iff,sa0,decide_eq_true_iff,zLi h64 ho hv];unfold Eff.sv;rw[nolab hc a]
  ·have hm:=List.mem_of_getElem? hx;obtain⟨e1,e2,_⟩:=zC2 h64 ho hx;have hlab:(zBF T.vars o).lab j=v:=by rw[e1,JC]
   have JB:j<(zBF T.vars o).E:=hj;have hc:0<(zBF T.vars o).cnt v 0:=(zG0 _).2 ⟨j,JB,hlab⟩
   -- the effect is the last one
   have last:∀a,(leB T.vars o v (j+1) a&&hdB (rs T.vars a 0) x.cnd)=true<->(zBF T.vars o).la v a=some j:=fun a=>by
    rw[Bool.and_eq_true,zPr h64 ho (by omega),<-zET h64 (fun f hf=>(ho.cnd x hm).rng f hf) a,<-e2];constructor
    ·rintro⟨h1,h2⟩;obtain⟨k,hk,JF⟩:=zVh JB hlab h2;have:=h1 k hk;have:k=j:=by omega
     rw[hk,this]
    ·intro h;obtain⟨_,_,l3,_⟩:=(zBF T.vars o).la_some.1 h;exact⟨fun i hi=>by rw[h] at hi;injection hi with hi;omega,l3⟩
   rcases h with h|h|rfl|rfl|rfl|rfl|rfl
   ·rcases fac _ (ho.cnd x hm) G h with h|h
    ·exact .inr (.inl h)
    ·exact .inr (.inr (.inl (.inr ⟨x,hm,h⟩)))
   ·refine .inr (.inl ⟨v,hv,x.x,?_,1,by omega,h⟩);have:=(ho.eff x hm).2;rwa[JC] at this
   ·refine .inr (.inr (.inr (.inl (.inl ⟨j,JB,.inl fun a=>?_⟩))));rw[hlab];exact last a
   ·refine .inr (.inr (.inr (.inl (.inr ⟨v,hv,hc,zO3 h64 ho (.inl ⟨j,JB,hlab,.inl rfl⟩) fun a=>?_⟩))));show((leB T.vars o v (j+1) a&&hdB (rs T.vars a 0) x.cnd)&&decide (rv T.vars a 1 v=x.x))=true<->_;rw[Bool.and_eq_true,last a,decide_eq_true_iff,zSJ h64 ho hx JC];refine and_congr_right fun JA=>?_;unfold Eff.sv;rw[JA]
   ·refine .inr (.inr (.inr (.inl (.inr ⟨v,hv,hc,zO3 h64 ho (.inl ⟨j,JB,hlab,.inr rfl⟩) fun a=>?_⟩))));unfold ouB lsE;rw[zGn h64 ho _ _ (by omega)];cases JA:(zBF T.vars o).la v a with
    |none =>
     constructor
     ·intro h;cases h
     ·rintro⟨⟨i,h,_⟩,_⟩;cases h
    |some i =>
     obtain⟨l1,l2,_⟩:=(zBF T.vars o).la_some.1 JA;have l1:i<o.effs.length:=l1;obtain⟨y,hy⟩:∃y,o.effs[i]? = some y:=⟨_,List.getElem?_eq_getElem l1⟩;rw[(zC2 h64 ho hy).1] at l2;simp only[hy];by_cases JD:j<=i
     ·rw[if_pos JD];show decide (rv T.vars a 1 v=y.x)=true<->_;rw[decide_eq_true_iff,zSJ h64 ho hy l2];unfold Eff.sv;rw[JA];exact⟨fun h=>⟨⟨i,rfl,JD⟩,h⟩,fun h=>h.2⟩
     ·rw[if_neg JD];constructor
      ·intro h;cases h
      ·rintro⟨⟨k,hk,JE⟩,_⟩;injection hk with hk;omega
   ·exact .inr (.inr (.inl (.inr ⟨x,hm,.inr rfl⟩)))
   ·refine .inr (.inr (.inr (.inl (.inl ⟨j,JB,.inr (.inl fun a=>?_)⟩))));rw[hlab];exact zPr h64 ho (by omega) a
 ·exact .inr (.inr (.inr (.inr (.inl ⟨j,hj,zSL h64 ho j hj⟩))))
 ·rcases fac _ ho.pre G h with h|h
  ·exact .inr (.inl h)
  ·exact .inr (.inr (.inl (.inl h)))
 ·refine .inr (.inr (.inr (.inr (.inr (funext fun a=>?_)))));show(hdB (rs T.vars a 0) o.pre&&rlB T o 0 a)=_;rw[zET h64 (fun f hf=>ho.pre.rng f hf)];congr 1;rw[Bool.eq_iff_iff,zMY,zy];constructor
  ·intro h q h1 h2;rw[<-zBn] at h2;obtain⟨v,k,hv,hk,rfl⟩:=zDV T.vars.length (Nat.le_refl _) q h2;have hn:=zC5 hv;rw[zFz h64 ho hv (by omega) (by omega)];exact(zLi h64 ho hv).1 (h v hv (Nat.zero_le _)) _ (by omega) (by omega)
  ·intro h v hv _;refine(zLi h64 ho hv).2 fun q q1 q2=>?_;rw[<-zFz h64 ho hv q1 q2];have h2:=zAl (vars:=T.vars) (show v+1<=T.vars.length by omega);rw[zBn] at h2;exact h q (Nat.zero_le _) (by omega)
end
end
end Go.Proofs.YtolkjbmcindhjaaGreat
section
namespace Go.Sy
open Go.Bd
theorem zIV{g:Nat->Nat}(o:Nat->Nat){N:Nat}(hg:∀x y,x+y<=N->g x+g y<=g (x+y)+g 0):∀V,sm V o<=N->sm V (fun v=>g (o v))<=g (sm V o)+V*g 0
 |0,_=>by rw[zEd,zEd];omega
 |V+1,h=>by rw[zm] at h;have ih:=zIV o hg V (by omega);have h1:=hg (sm V o) (o V) h;rw[zm,zm,Nat.succ_mul];omega
theorem zRw(e:Nat):∀x y,2^(e+x)+2^(e+y)<=2^(e+(x+y))+2^(e+0):=fun x y=>by
 have e1:2^(e+(x+y))=2^e*(2^x*2^y):=by rw[Nat.pow_add,Nat.pow_add]
 rw[e1,Nat.pow_add,Nat.pow_add,Nat.add_zero,<-Nat.mul_add];have h1:1<=2^x:=Nat.one_le_two_pow;have h2:1<=2^y:=Nat.one_le_two_pow;obtain⟨p,hp⟩:∃p,2^x=p+1:=⟨2^x-1,by omega⟩;obtain⟨q,hq⟩:∃q,2^y=q+1:=⟨2^y-1,by omega⟩;rw[hp,hq];have:p+1+(q+1)<=(p+1)*(q+1)+1:=by rw[Nat.mul_add,Nat.add_mul];omega
 have h3:2^e*(p+1+(q+1))<=2^e*((p+1)*(q+1)+1):=Nat.mul_le_mul_left _ this;rw[Nat.mul_add (2^e) ((p+1)*(q+1)) 1,Nat.mul_one] at h3;exact h3
theorem zRy:∀e,e<=2->∀x y,x+y<=3->(2^x+1)^2^e+(2^y+1)^2^e<=(2^(x+y)+1)^2^e+(2^0+1)^2^e:=fun e he x y h=>by
 have key:∀e,e<3->∀x,x<4->∀y,y<4->x+y<=3->(2^x+1)^2^e+(2^y+1)^2^e<=(2^(x+y)+1)^2^e+(2^0+1)^2^e:=by decide
 exact key e (by omega) x (by omega) y (by omega) h
theorem zRQ{b t:Nat}:((List.range (2*b)).filter fun i=>decide (t<=i)&&decide (i%2=0)).length=b-(t+1)/2:=by
 rw[zAF]
 induction b with
 |zero=>simp[sm]
 |succ b ih =>
  rw[show 2*(b+1)=2*b+1+1 by omega,zm,zm,ih];have h1:¬(decide (t<=2*b+1)&&decide ((2*b+1)%2=0))=true:=by rw[decide_eq_false (show ¬(2*b+1)%2=0 by omega)];simp
  rw[if_neg h1];by_cases h:t<=2*b
  ·rw[if_pos (by simp[h])];omega
  ·rw[if_neg (by simp[h])];omega
theorem zVx{b t:Nat}:((List.range (2*b)).filter fun i=>decide (t<=i)&&decide (i%2=1)).length=b-t/2:=by
 rw[zAF]
 induction b with
 |zero=>simp[sm]
 |succ b ih =>
  rw[show 2*(b+1)=2*b+1+1 by omega,zm,zm,ih];have h1:¬(decide (t<=2*b)&&decide (2*b%2=1))=true:=by rw[decide_eq_false (show ¬2*b%2=1 by omega)];simp
  rw[if_neg h1];by_cases h:t<=2*b+1
  ·rw[if_pos (by simp[h])];omega
  ·rw[if_neg (by simp[h])];omega
def oV(Y:Bts)(b v t:Nat):Nat:=((List.range (2*b)).filter fun i=>decide (t<=i)&&decide (i%2=1)&&(decide (Y.sB v<=i/2)&&decide (i/2<Y.eB v))).length
theorem zWL{Y:Bts}{b v t:Nat}:zTi (zAY Y v) (2*b) t=(b-(t+1)/2)+oV Y b v t:=by
 unfold zTi oV;rw[<-zRQ (b:=b) (t:=t),zAF,zAF,zAF,<-zCA];refine zX fun i _=>?_;unfold zAY;rcases Nat.mod_two_eq_zero_or_one i with h|h
 ·simp[h]
 ·simp[h]
theorem zRb{Y:Bts}{b v t:Nat}:zRc (zAY Y v) (2*b) t 0=b-(t+1)/2/\zRc (zAY Y v) (2*b) t 1=oV Y b v t:=by
 constructor
 ·unfold zRc;rw[<-zRQ (b:=b) (t:=t)];congr 1;refine List.filter_congr fun i _=>?_;unfold zAY;rcases Nat.mod_two_eq_zero_or_one i with h|h<;>simp[h]
 ·unfold zRc oV;congr 1;refine List.filter_congr fun i _=>?_;unfold zAY;rcases Nat.mod_two_eq_zero_or_one i with h|h<;>simp[h]
theorem zVR{Y:Bts}{b V t:Nat}(hY:zOo Y b V):sm V (fun v=>oV Y b v t)<=b-t/2:=by
 rw[<-zVx (b:=b) (t:=t),zAF];have e:∀v,v<V->oV Y b v t=sm (2*b) fun i=>if(decide (t<=i)&&decide (i%2=1)&&(decide (Y.sB v<=i/2)&&decide (i/2<Y.eB v)))=true then 1 else 0:=fun v _=>zAF _ _;rw[zX e,zGQ];refine zCw fun i _=>?_;by_cases h:(decide (t<=i)&&decide (i%2=1))=true
 ·rw[if_pos h];by_cases hv:∃v,v<V/\Y.sB v<=i/2/\i/2<Y.eB v
  ·obtain⟨v,v1,v2,v3⟩:=hv;refine Nat.le_trans (zCw (g:=fun u=>if u=v then 1 else 0) fun u hu=>?_) (Nat.le_of_eq (zEe v1));by_cases e:u=v
   ·rw[if_pos e];split<;>omega
   ·rw[if_neg e,if_neg]
    ·exact Nat.le_refl _
    ·intro hh;simp only[Bool.and_eq_true,decide_eq_true_eq] at hh;rcases Nat.lt_trichotomy u v with h|h|h
     ·have:=hY.ord u v h v1;omega
     ·exact e h
     ·have:=hY.ord v u h hu;omega
  ·refine Nat.le_trans (Nat.le_of_eq ((zX (g:=fun _=>0) fun u hu=>?_).trans (by rw[zAP];omega))) (Nat.zero_le _);rw[if_neg];intro hh;simp only[Bool.and_eq_true,decide_eq_true_eq] at hh;exact hv ⟨u,hu,hh.2⟩
 ·rw[if_neg h];refine Nat.le_of_eq ((zX (g:=fun _=>0) fun u hu=>?_).trans (by rw[zAP];omega));rw[if_neg];intro hh;rw[Bool.and_eq_true] at hh;exact h hh.1
def zV(b t0 t1 V:Nat):Nat:=sm (2*b) (fun t=>(if t0<=t then 2^((b-(t+1)/2)+(b-t/2))+V*2^(b-(t+1)/2) else 0)+if t1<=t then(2^(b-t/2)+1)^2^(b-(t+1)/2)+V*2^2^(b-(t+1)/2) else 0)
theorem zWE{Y:Bts}{b V t0 t1:Nat}(hY:zOo Y b V)(h1:∀t,t1<=t->b-(t+1)/2<=2/\b-t/2<=3):zx (2*b) (fun G=>∃v,v<V/\(PtS (zAY Y v) (2*b) t0 G\/zIR (zAY Y v) (2*b) t1 G)) (zV b t0 t1 V):=by
 refine(zx.sum (n:=2*b) (fun v G=>PtS (zAY Y v) (2*b) t0 G\/zIR (zAY Y v) (2*b) t1 G) _ V fun v _=>(zKX (zAY Y v) (2*b) t0).or (zEU (zAY Y v) (2*b) t1)).mono (fun _ h=>h) ?_;have e:((List.range V).map fun v=>((List.range (2*b)).map fun t=>if t0<=t/\zAY Y v t=true then 2^zTi (zAY Y v) (2*b) t else 0).sum+zV8 (zAY Y v) (2*b) t1).sum<=sm V fun v=>sm (2*b) fun t=>(if t0<=t then 2^((b-(t+1)/2)+oV Y b v t) else 0)+if t1<=t then(2^oV Y b v t+1)^2^(b-(t+1)/2) else 0:=by
  refine zCw fun v _=>?_;rw[zCA];refine Nat.add_le_add (zCw fun t _=>?_) (zCw fun t _=>?_)
  ·rw[zWL];by_cases h:t0<=t
   ·rw[if_pos h];split
    ·exact Nat.le_refl _
    ·exact Nat.zero_le _
   ·rw[if_neg h,if_neg fun hh=>h hh.1];exact Nat.le_refl _
  ·rw[zRb.1,zRb.2];exact Nat.le_refl _
 refine Nat.le_trans e ?_;unfold zV;rw[zGQ];refine zCw fun t _=>?_;rw[zCA];have ho:=zVR (t:=t) hY;refine Nat.add_le_add ?_ ?_
 ·by_cases h:t0<=t
  ·rw[if_pos h,zX (g:=fun v=>2^((b-(t+1)/2)+oV Y b v t)) fun v _=>if_pos h];have:=zIV (g:=fun x=>2^((b-(t+1)/2)+x)) (fun v=>oV Y b v t) (N:=b-t/2) (fun x y _=>zRw _ x y) V ho;have h2:2^((b-(t+1)/2)+sm V fun v=>oV Y b v t)<=2^((b-(t+1)/2)+(b-t/2)):=Nat.pow_le_pow_right (by omega) (by omega);exact Nat.le_trans this (Nat.add_le_add h2 (Nat.le_refl _))
  ·rw[if_neg h,zX (g:=fun _=>0) fun v _=>if_neg h,zAP];omega
 ·by_cases h:t1<=t
  ·rw[if_pos h,zX (g:=fun v=>(2^oV Y b v t+1)^2^(b-(t+1)/2)) fun v _=>if_pos h];obtain⟨h3,h4⟩:=h1 t h;have:=zIV (g:=fun x=>(2^x+1)^2^(b-(t+1)/2)) (fun v=>oV Y b v t) (N:=3) (fun x y JA=>zRy _ h3 x y JA) V (by omega);have h2:(2^(sm V fun v=>oV Y b v t)+1)^2^(b-(t+1)/2)<=(2^(b-t/2)+1)^2^(b-(t+1)/2):=Nat.pow_le_pow_left (by have:=Nat.pow_le_pow_right (show 0<2 by omega) ho;omega) _;exact Nat.le_trans this (Nat.add_le_add h2 (Nat.le_refl _))
  ·rw[if_neg h,zX (g:=fun _=>0) fun v _=>if_neg h,zAP];omega
end Go.Sy
namespace Go.Proofs.YtolkjbmcindhjaaGreat
open Go Go.W Go.Tk Go.Rx Go.Bd Go.Sy Go.Maps
def tA(b:Nat):Nat:=2*b-11
def tB(b:Nat):Nat:=2*b-5
def ShZ(vars:List Nat)(K:BFn):Prop:=ShS (zD vars) K\/(PtS zFp (2*zD vars) (tA (zD vars)) K\/zIR zFp (2*zD vars) (tB (zD vars)) K) \/
 (∃v,v<vars.length/\(PtS (zAY (zQU vars) v) (2*zD vars) (tA (zD vars)) K\/zIR (zAY (zQU vars) v) (2*zD vars) (tB (zD vars)) K)) \/
 (zIR (zMe (zD vars-1)) (2*zD vars) (tB (zD vars)) K\/zIR (zMe (zD vars-2)) (2*zD vars) (tB (zD vars)) K)\/(PtS (parR 0) (2*zD vars) 0 K\/PtS (parR 1) (2*zD vars) 0 K)
def ptN2(rel:Nat->Bool)(n t0:Nat):Nat:=((List.range n).map fun t=>if t0<=t/\rel t=true then 2^zTi rel n t else 0).sum
def shN(b V:Nat):Nat:=512+((ptN2 zFp (2*b) (tA b)+zV8 zFp (2*b) (tB b))+(zV b (tA b) (tB b) V+((zV8 (zMe (b-1)) (2*b) (tB b)+zV8 (zMe (b-2)) (2*b) (tB b))+(ptN2 (parR 0) (2*b) 0+ptN2 (parR 1) (2*b) 0))))
theorem zTW(vars:List Nat):zx (2*zD vars) (ShZ vars) (shN (zD vars) vars.length) :=
 (zWH _ _).or (((zKX _ _ _).or (zEU _ _ _)).or ((zWE (t0:=tA (zD vars)) (t1:=tB (zD vars)) (zOW vars) fun t ht=>by unfold tB at ht;omega).or (((zEU _ _ _).or (zEU _ _ _)).or ((zKX _ _ _).or (zKX _ _ _)))))
section
variable {vars:List Nat}
theorem zUs{nx:Nat}(hn:nx<2){K:BFn}(h:∀a c:Nat->Bool,(∀p,zD vars-3<=p->p<zD vars->a (2*p+nx)=c (2*p+nx))->K a=K c):ShZ vars K:=.inl ⟨nx,hn,h⟩
theorem zQy{K:BFn}(h:PtS zFp (2*zD vars) (tA (zD vars)) K):ShZ vars K:=.inr (.inl (.inl h))
theorem zQz{K:BFn}(h:zIR zFp (2*zD vars) (tB (zD vars)) K):ShZ vars K:=.inr (.inl (.inr h))
theorem zUt{v:Nat}{K:BFn}(hv:v<vars.length)(h:PtS (zAY (zQU vars) v) (2*zD vars) (tA (zD vars)) K):ShZ vars K:=.inr (.inr (.inl ⟨v,hv,.inl h⟩))
theorem zUu{v:Nat}{K:BFn}(hv:v<vars.length)(h:zIR (zAY (zQU vars) v) (2*zD vars) (tB (zD vars)) K):ShZ vars K:=.inr (.inr (.inl ⟨v,hv,.inr h⟩))
theorem zUv{f:Nat}{K:BFn}(h1:tB (zD vars)/2<f)(h2:f<zD vars)(h:zIR (zMe f) (2*zD vars) (tB (zD vars)) K):ShZ vars K:=by
 unfold tB at h1;rcases(show f=zD vars-1\/f=zD vars-2 by omega) with rfl|rfl
 ·exact .inr (.inr (.inr (.inl (.inl h))))
 ·exact .inr (.inr (.inr (.inl (.inr h))))
end
theorem zRZ{vars:List Nat}(h64:∀n∈vars,1<=n/\n<=64){l:List Go.Tk.Fc}(hl:zFt vars l):zx (2*zD vars) (CuZ vars l) (2*zD vars):=by
 have JE:∀j a,fcB vars l j a=zU (zBf vars (l.drop j)) a:=fun j a=>by
  have h:∀f∈l.drop j,f.1<vars.length/\f.2<vars.getD f.1 0:=fun f hf=>hl.rng f (List.mem_of_mem_drop hf);have e:∀{l:List Go.Tk.Fc},(∀f∈l,f.1<vars.length/\f.2<vars.getD f.1 0)->(l.all fun f=>decide (rv vars a 0 f.1=f.2))=zU (zBf vars l) a:=fun {l}=>by
   induction l with
   |nil=>exact fun _=>rfl
   |cons f l ih =>
    intro h;have e:zU (zBf vars (f::l)) a=(zU (zVb vars f) a&&zU (zBf vars l) a):=by unfold zBf zU;rw[List.flatMap_cons,List.all_append]
    rw[List.all_cons,ih fun g hg=>h g (by simp[hg]),e,zKV h64 (h f (by simp))]
  exact e h
 let C:Nat->BFn:=fun q=>zU ((zBf vars l).filter fun p=>decide (2*q<=p.1))
 refine⟨((List.range (zD vars)).map C)++(List.range (zD vars)).map fun q=>fun a=>!C q a,by rw[List.length_append,List.length_map,List.length_map,List.length_range];omega,?_⟩
 -- a part of a cube that depends on the next variable
 have key:∀j t a,t<2*zD vars->Dep (fun c=>zU (zBf vars (l.drop j)) (pfx a t c)) t->∃q,q<zD vars/\(fun c=>zU (zBf vars (l.drop j)) (pfx a t c))=C q:=fun j t a ht hd=>by
  obtain⟨x,hx⟩:=zA1 hd;have hA:zWA (zBf vars (l.drop j)) t a=true:=by have:(zWA (zBf vars (l.drop j)) t a&&_)=true:=(zDS _ t a x).symm.trans hx;rw[Bool.and_eq_true] at this;exact this.1
  have e1:∀c,zU (zBf vars (l.drop j)) (pfx a t c)=zU ((zBf vars (l.drop j)).filter fun p=>decide (t<=p.1)) c:=fun c=>by rw[zDS,hA,Bool.true_and]
  -- the variable is one of its literals
  have JA:∃p∈zBf vars (l.drop j),p.1=t:=Classical.byContradiction fun hn=>by
   obtain⟨y,hy⟩:=hd;apply hy;show zU _ (pfx a t (upd y t true))=zU _ (pfx a t (upd y t false));rw[e1,e1,Bool.eq_iff_iff];unfold zU;rw[List.all_eq_true,List.all_eq_true];have e:∀p∈(zBf vars (l.drop j)).filter fun p=>decide (t<=p.1),upd y t true p.1=upd y t false p.1:=fun p hp=>by have:p.1≠t:=fun e=>hn ⟨p,(List.mem_filter.1 hp).1,e⟩;rw[zR this,zR this]
   exact⟨fun h p hp=>by rw[<-e p hp];exact h p hp,fun h p hp=>by rw[e p hp];exact h p hp⟩
  obtain⟨p,hp,rfl⟩:=JA;obtain⟨f,hf,JD⟩:=List.mem_flatMap.1 hp;obtain⟨k,hk,rfl⟩:=List.mem_map.1 JD;have hk:=List.mem_range.1 hk;refine⟨bP vars f.1+k,by show _;have:2*(bP vars f.1+k)<2*zD vars:=ht;omega,funext fun c=>?_⟩;rw[e1];show zU _ c=zU ((zBf vars l).filter fun p=>decide (2*(bP vars f.1+k)<=p.1)) c;congr 1;have es:zBf vars l=zBf vars (l.take j)++zBf vars (l.drop j):=by unfold zBf;rw[<-List.flatMap_append,List.take_append_drop]
  rw[es,List.filter_append];have:(zBf vars (l.take j)).filter (fun p=>decide (2*(bP vars f.1+k)<=p.1))=[]:=by
   rw[List.filter_eq_nil_iff];intro r hr;obtain⟨g,hg,JC⟩:=List.mem_flatMap.1 hr;obtain⟨k',JB,rfl⟩:=List.mem_map.1 JC;have JB:=List.mem_range.1 JB;have JG:g.1<f.1:=by have h1:=hl.asc;rw[<-List.take_append_drop j l,List.pairwise_append] at h1;exact h1.2.2 g hg f hf
   have h2:=zC5 (hl.rng g (List.mem_of_mem_take hg)).1;have h3:=zAl (vars:=vars) (show g.1+1<=f.1 by omega);simp only[decide_eq_true_eq];omega
  rw[this,List.nil_append]
 rintro G hG t a ht hd;rcases hG with⟨j,hj,rfl⟩|rfl
 ·have e:fcB vars l j=zU (zBf vars (l.drop j)):=funext (JE j);rw[e] at hd ⊢;obtain⟨q,hq,h⟩:=key j t a ht hd;rw[h];exact List.mem_append_left _ (List.mem_map.2 ⟨q,List.mem_range.2 hq,rfl⟩)
 ·have e:(fun a=>!hdB (rs vars a 0) l)=fun a=>!zU (zBf vars (l.drop 0)) a:=funext fun a=>by rw[List.drop_zero,zET h64 hl.rng]
  rw[e] at hd ⊢;have JF:Dep (fun c=>zU (zBf vars (l.drop 0)) (pfx a t c)) t:=by obtain⟨y,hy⟩:=hd;exact⟨y,fun h=>hy (by show(!_)=(!_);exact congrArg (fun x=>!x) h)⟩
  obtain⟨q,hq,h⟩:=key 0 t a ht JF;have h':(fun c=>!zU (zBf vars (l.drop 0)) (pfx a t c))=fun c=>!C q c:=funext fun c=>congrArg (fun x=>!x) (congrFun h c);rw[h'];exact List.mem_append_right _ (List.mem_map.2 ⟨q,List.mem_range.2 hq,rfl⟩)
def zLD(b:Nat)(p:Bool):Nat:=((List.range (2*b)).map (rlM b (tA b) (tB b))).sum+(((List.range (2*b)).map (opM b (tA b) (tB b))).sum+(18*b+if p=true then ptZ (2*b) (tA b) (tB b) (2^(b-1)) else 0))
def zLu(vars:List Nat)(o:No):Bool:=!(zBf vars o.pre).isEmpty
theorem zMX{b:Nat}{sb:Nat->BFn}{f:Nat}(h:b<=f)(a:Nat->Bool):rlF b sb f a=true:=zy.2 fun q h1 h2=>by omega
theorem zSb{T:Nt}{o:No}(h64:∀n∈T.vars,1<=n/\n<=64)(ho:NoG T.vars o)(hp:zLu T.vars o=true)(Q:BFn)(hQ:∀a,Q a=true->zU (zBf T.vars o.pre) a=true/\rlF (zD T.vars) (sbX T o) 0 a=true) :
  ∃Λ:List (Nat->Bool),Λ.length<=2^(zD T.vars-1)/\∀a,Q a=true->∃π∈Λ,∀i,i<2*zD T.vars->a i=π i:=by
 obtain⟨p,JA⟩:∃p,p∈zBf T.vars o.pre:=by
  unfold zLu at hp;cases hl:zBf T.vars o.pre with
  |nil=>rw[hl] at hp;cases hp
  |cons p l=>exact⟨p,by simp⟩
 obtain⟨p1,p2⟩:=zGk h64 (fun f hf=>(ho.pre.rng f hf).1) p JA;obtain⟨Λ,l1,l2⟩:=zE2 (((List.range (zD T.vars)).filter fun q=>!decide (2*q=p.1)).map fun q=>2*q) (fun i=>i<2*zD T.vars) (fun a=>Q a=true) fun a c ha hc hi i JB=>by
  obtain⟨a1,a2⟩:=hQ a ha;obtain⟨c1,c2⟩:=hQ c hc;have ev:∀q,q<zD T.vars->a (2*q)=c (2*q):=fun q hq=>by
   by_cases e:2*q=p.1
   ·unfold zU at a1 c1;rw[List.all_eq_true] at a1 c1;have h1:=a1 p JA;have h2:=c1 p JA;rw[beq_iff_eq] at h1 h2;rw[e,h1,h2]
   ·exact hi _ (List.mem_map.2 ⟨q,List.mem_filter.2 ⟨List.mem_range.2 hq,by simp[e]⟩,rfl⟩)
  rcases Nat.mod_two_eq_zero_or_one i with h0|h0
  ·have:=ev (i/2) (by omega);rwa[show 2*(i/2)=i by omega] at this
  ·have h1:=zy.1 a2 (i/2) (Nat.zero_le _) (by omega);have h2:=zy.1 c2 (i/2) (Nat.zero_le _) (by omega);rw[show 2*(i/2)+1=i by omega] at h1 h2;rw[h1,h2];exact zJg h64 ho _ (by omega) a c ev
 refine⟨Λ,?_,l2⟩;rw[List.length_map] at l1;have:((List.range (zD T.vars)).filter fun q=>!decide (2*q=p.1)).length+1=zD T.vars:=by
  rw[zAF];have e:∀q,q<zD T.vars->(if(!decide (2*q=p.1))=true then 1 else 0)+(if q=p.1/2 then 1 else 0)=1:=fun q _=>by
   by_cases h:2*q=p.1
   ·rw[if_neg (by simp[h]),if_pos (by omega)]
   ·rw[if_pos (by simp[h]),if_neg (by omega)]
  have h1:=zCA (f:=fun q=>if(!decide (2*q=p.1))=true then 1 else 0) (g:=fun q=>if q=p.1/2 then 1 else 0) (zD T.vars);rw[zEe (show p.1/2<zD T.vars by omega),zX e,zAP] at h1;omega
 rw[show zD T.vars-1=((List.range (zD T.vars)).filter fun q=>!decide (2*q=p.1)).length by omega];exact l1
theorem zQP{T:Nt}{o:No}(h64:∀n∈T.vars,1<=n/\n<=64)(ho:NoG T.vars o)(he:o.effs.length<=8){W0:BFn->Prop}(h1:∀G,SaZ T.vars G->W0 G)(h2:∀G,ValZ T.vars G->W0 G) :
  zAo (2*zD T.vars) (ShZ T.vars) (fun G=>zIH T o G/\¬W0 G) (zLD (zD T.vars) (zLu T.vars o)):=by
 have cR:=zTX (b:=zD T.vars) (t0:=tA (zD T.vars)) (t1:=tB (zD T.vars)) (S:=ShZ T.vars) (zJg h64 ho) (fun K=>zQy) (fun K=>zQz) fun f K a b c=>zUv a b c;have cO:=zTb (X:=zBF T.vars o) (Y:=zQU T.vars) (t0:=tA (zD T.vars)) (t1:=tB (zD T.vars)) (S:=ShZ T.vars) (zN0 h64 ho) (zOW T.vars) (zQK h64 ho) he (fun K h=>zUs (nx:=0) (by omega) h) (fun v K hv h=>zUt hv h) fun v K hv h=>zUu hv h;have cC:zAo (2*zD T.vars) (ShZ T.vars) (fun G=>CuZ T.vars o.pre G\/∃j,j<o.effs.length/\∃x,o.effs[j]? = some x/\CuZ T.vars x.cnd G) (18*zD T.vars) :=
  ((zRZ h64 ho.pre).or (zx.eachW (fun j G=>∃x,o.effs[j]? = some x/\CuZ T.vars x.cnd G) _ fun j _=>zTa fun x hx=>zRZ h64 (ho.cnd x (List.mem_of_getElem? hx)))).toR.mono (fun _ h=>h) (by have:o.effs.length*(2*zD T.vars)<=8*(2*zD T.vars):=Nat.mul_le_mul_right _ he;omega)
 have fin0:∀a c:Nat->Bool,(∀i,i<2*zD T.vars->a i=c i)->(zU (zBf T.vars o.pre) a&&rlF (zD T.vars) (sbX T o) 0 a)=(zU (zBf T.vars o.pre) c&&rlF (zD T.vars) (sbX T o) 0 c):=fun a c h=>by rw[zIe (zJg h64 ho) h,zN2 (zGk h64 fun f hf=>(ho.pre.rng f hf).1) fun q hq=>h _ (by omega)]
 have cP:zAo (2*zD T.vars) (ShZ T.vars) (fun G=>zLu T.vars o=true/\G=fun a=>zU (zBf T.vars o.pre) a&&rlF (zD T.vars) (sbX T o) 0 a) (if zLu T.vars o=true then ptZ (2*zD T.vars) (tA (zD T.vars)) (tB (zD T.vars)) (2^(zD T.vars-1)) else 0):=by
  by_cases hp:zLu T.vars o=true
  ·rw[if_pos hp];obtain⟨Λ,l1,l2⟩:=zSb h64 ho hp (fun a=>zU (zBf T.vars o.pre) a&&rlF (zD T.vars) (sbX T o) 0 a) fun a ha=>by rw[Bool.and_eq_true] at ha;exact ha
   refine(zTY (t0:=tA (zD T.vars)) (t1:=tB (zD T.vars)) (S:=ShZ T.vars) fin0 l1 l2 (fun a c ha hc ev i hi=>?_) (fun K=>zQy) fun K=>zQz).mono (fun G h=>h.2) (Nat.le_refl _);rw[Bool.and_eq_true] at ha hc;rcases Nat.mod_two_eq_zero_or_one i with h0|h0
   ·have:=ev (i/2) (by omega);rwa[show 2*(i/2)=i by omega] at this
   ·have e1:=zy.1 ha.2 (i/2) (Nat.zero_le _) (by omega);have e2:=zy.1 hc.2 (i/2) (Nat.zero_le _) (by omega);rw[show 2*(i/2)+1=i by omega] at e1 e2;rw[e1,e2];exact zJg h64 ho _ (by omega) a c fun p hp=>ev p (by omega)
  ·rw[if_neg hp];exact(zAo.none _ _).mono (fun G h=>hp h.1) (Nat.le_refl _)
 have cE:zAo (2*zD T.vars) (ShZ T.vars) (fun G=>∃f,zD T.vars<=f/\G=rlF (zD T.vars) (sbX T o) f) 0:=by refine⟨[],Nat.le_refl _,?_⟩;rintro G ⟨f,hf,rfl⟩ t a ht ⟨x,hx⟩;exact absurd (by show rlF _ _ _ _=rlF _ _ _ _;rw[zMX hf,zMX hf]) hx
 refine(cR.or (cO.or (cC.or (cP.or cE)))).mono (fun G ⟨hG,hW⟩=>?_) (by unfold zLD;omega);have hf:∀f,G=rlF (zD T.vars) (sbX T o) f->(∃f,f<zD T.vars/\G=rlF (zD T.vars) (sbX T o) f)\/∃f,zD T.vars<=f/\G=rlF (zD T.vars) (sbX T o) f:=fun f e=>by
  by_cases h:f<zD T.vars
  ·exact .inl ⟨f,h,e⟩
  ·exact .inr ⟨f,by omega,e⟩
 rcases zSS h64 ho hG with h|h|(h|⟨x,hx,h⟩)|h|⟨j,hj,h⟩|h
 ·exact absurd (h1 G h) hW
 ·exact absurd (h2 G h) hW
 ·exact .inr (.inr (.inl (.inl h)))
 ·obtain⟨j,hj⟩:=List.mem_iff_getElem?.1 hx;exact .inr (.inr (.inl (.inr ⟨j,(List.getElem?_eq_some_iff.1 hj).1,x,hj,h⟩)))
 ·exact .inr (.inl h)
 ·rcases hf _ h with h|h
  ·exact .inl h
  ·exact .inr (.inr (.inr (.inr h)))
 ·by_cases hp:zLu T.vars o=true
  ·exact .inr (.inr (.inr (.inl ⟨hp,h⟩)))
  ·have JA:zBf T.vars o.pre=[]:=by
    unfold zLu at hp;cases hl:zBf T.vars o.pre with
    |nil=>rfl
    |cons p l=>rw[hl] at hp;simp at hp
   have e:G=rlF (zD T.vars) (sbX T o) 0:=by rw[h];funext a;rw[JA];rfl
   rcases hf _ e with h|h
   ·exact .inl h
   ·exact .inr (.inr (.inr (.inr h)))
end Go.Proofs.YtolkjbmcindhjaaGreat
end
namespace Go.Proofs.YtolkjbmcindhjaaGreat
section
open Go Go.W Go.Tk Go.Rx Go.Bd Go.Sy Go.Maps
def Val1(vars:List Nat)(G:BFn):Prop:=∃v,v<vars.length/\∃x,x<vars.getD v 0/\VlS vars v x 1 G
def W0Z(T:Nt)(G:BFn):Prop:=zT5 T G\/(ShZ T.vars G\/(SaZ T.vars G\/Val1 T.vars G))
def n0Z(b:Nat):Nat:=(4*b+196*(552-45*b)+3*(b*b))+(shN b 12+((72*b+216)+108*(552-45*b)))
theorem zRq{b t0 t1 V V':Nat}(h:V<=V'):zV b t0 t1 V<=zV b t0 t1 V':=by
 unfold zV;refine zCw fun t _=>Nat.add_le_add ?_ ?_
 ·split
  ·exact Nat.add_le_add (Nat.le_refl _) (Nat.mul_le_mul_right _ h)
  ·exact Nat.le_refl _
 ·split
  ·exact Nat.add_le_add (Nat.le_refl _) (Nat.mul_le_mul_right _ h)
  ·exact Nat.le_refl _
theorem zPL{b V V':Nat}(h:V<=V'):shN b V<=shN b V':=by
 have:=zRq (b:=b) (t0:=tA b) (t1:=tB b) h;unfold shN;omega
theorem zUh(vars:List Nat):sm vars.length (fun v=>vars.getD v 0)=vars.sum:=by
 unfold sm;congr 1;apply List.ext_getElem (by simp);intro i h1 h2;simp;rw[List.getElem?_eq_getElem (by simpa using h1)];rfl
theorem zRz(vars:List Nat):sm vars.length (fun v=>wd (vars.getD v 0))=zD vars:=by
 unfold sm zD;congr 1;apply List.ext_getElem (by simp);intro i h1 h2;simp;rw[List.getElem?_eq_getElem (by simpa using h1)];rfl
theorem zTV{T:Nt}(hT:SmC T):zx (2*zD T.vars) (W0Z T) (n0Z (zD T.vars)):=by
 obtain⟨b1,b2⟩:=hT.bs;have hV:=hT.vl;have c1:zx (2*zD T.vars) (SaZ T.vars) (72*zD T.vars+216):=by
  refine(zx.sum (n:=2*zD T.vars) (fun v G=>SaS T.vars v G\/G=saB T.vars v 0) (fun v=>wd (T.vars.getD v 0)*72+18) T.vars.length fun v hv=>?_).mono (fun _ h=>h) ?_
  ·have hw:=zFi (T.vars.getD v 0);refine zx.or (zx.eachW (fun j G=>G=(fun a=>a (2*(bP T.vars v+j))&&a (2*(bP T.vars v+j)+1))\/G=(fun a=>!a (2*(bP T.vars v+j)) && !a (2*(bP T.vars v+j)+1)) \/
     G=(fun a=>(a (2*(bP T.vars v+j))&&a (2*(bP T.vars v+j)+1))||(!a (2*(bP T.vars v+j)) && !a (2*(bP T.vars v+j)+1)))\/G=saB T.vars v j) (wd (T.vars.getD v 0)) (c:=72) fun j hj=>?_) ((zU8 T.vars v 0).cov.mono (fun _ h=>h) (by omega))
   have one:∀f:Bool->Bool->Bool,zx (2*zD T.vars) (fun K=>K=fun a=>f (a (2*(bP T.vars v+j))) (a (2*(bP T.vars v+j)+1))) 18:=fun f=>(zAf.one (s:=bP T.vars v) (w:=wd (T.vars.getD v 0)) hj f).cov.mono (fun _ h=>h) (by omega);exact(one fun x y=>x&&y).or ((one fun x y=>!x && !y).or ((one fun x y=>(x&&y)||(!x && !y)).or ((zU8 T.vars v j).cov.mono (N':=18) (fun _ h=>h) (by omega))))
  ·have e:((List.range T.vars.length).map fun v=>wd (T.vars.getD v 0)*72+18).sum=sm T.vars.length fun v=>72*wd (T.vars.getD v 0)+18:=zX fun v _=>by omega
   rw[e,zCA,zHU,zAP,zRz];omega
 have c2:zx (2*zD T.vars) (Val1 T.vars) (108*(552-45*zD T.vars)):=by
  refine(zx.sum (n:=2*zD T.vars) (fun v G=>∃x,x<T.vars.getD v 0/\VlS T.vars v x 1 G) (fun v=>T.vars.getD v 0*108) T.vars.length fun v hv=>zx.eachW _ _ fun x hx=>?_).mono (fun _ h=>h) ?_
  ·refine(zx.eachW (fun j G=>G=vlB T.vars v x 1 j) _ fun j _=>(zSd T.vars v x (by omega) j).cov).mono (fun _ h=>h) ?_;have:=zFi (T.vars.getD v 0);have h2:wd (T.vars.getD v 0)*(3*wd (T.vars.getD v 0))<=6*(3*6):=Nat.mul_le_mul this (by omega);omega
  ·have e:((List.range T.vars.length).map fun v=>T.vars.getD v 0*108).sum=sm T.vars.length fun v=>108*T.vars.getD v 0:=zX fun v _=>by omega
   rw[e,zHU,zUh];have:T.vars.sum<=552-45*zD T.vars:=by omega
   exact Nat.mul_le_mul_left _ this
 refine((zQQ hT.vars).or ((zTW T.vars).or (c1.or c2))).mono (fun _ h=>h) ?_;have h4:T.vars.length*(T.vars.sum*2)<=12*(T.vars.sum*2):=Nat.mul_le_mul_right _ hT.vl;have h5:zD T.vars*(3*zD T.vars)=3*(zD T.vars*zD T.vars):=Nat.mul_left_comm _ _ _;have h6:=zPL (b:=zD T.vars) hV;unfold n0Z nbL;rw[h5];omega
theorem zJT{T:Nt}:∀G,ShZ T.vars G->W0Z T G:=fun G h=>.inr (.inl h)
theorem zRt{T:Nt}{o:No}(h64:∀n∈T.vars,1<=n/\n<=64)(ho:NoG T.vars o)(he:o.effs.length<=8):zAo (2*zD T.vars) (ShZ T.vars) (fun G=>zIH T o G/\¬W0Z T G) (zLD (zD T.vars) (zLu T.vars o)) :=
 zQP h64 ho he (fun G h=>.inr (.inr (.inl h))) fun G ⟨v,hv,x,hx,nx,hn,h⟩=>by
  rcases(show nx=0\/nx=1 by omega) with rfl|rfl
  ·exact .inl (.inl (.inr (.inl ⟨v,hv,x,hx,.inl h⟩)))
  ·exact .inr (.inr (.inr ⟨v,hv,x,hx,h⟩))
section
variable {T:Nt} {W:BFn->Prop}
end
end
section
open Go Go.W Go.Tk Go.Rx
def c3(a b:Nat):Int:=if a<b then -1 else if b<a then 1 else 0
def cF(x y:Go.Tk.Fc):Int:=if c3 x.1 y.1≠0 then c3 x.1 y.1 else c3 x.2 y.2
def cL:List Go.Tk.Fc->List Go.Tk.Fc->Int
 |[],[]=>0
 |[],_::_=>-1
 |_::_,[]=>1
 |x::l,y::m=>if cF x y≠0 then cF x y else cL l m
theorem zJ6(a:Int)(w:World):Calls Tryz.prog 209 [.int .i64 a].toArray w fun e w'=>∃x,e=.returned x/\x=.bool false/\w'=w:=by
 refine enter Tryz.func209 mixed low209 (Nat.le_of_ble_eq_true rfl) ?_;simp only[L209];simp
theorem zAV(a b:Nat)(w:World):Calls Tryz.prog 146 [.int .i64 (a:Nat),.int .i64 (b:Nat)].toArray w fun e w'=>∃x,e=.returned x/\x=.int .i64 (c3 a b)/\w'=w:=by
 refine enter Tryz.func146 mixed low146 (Nat.le_of_ble_eq_true rfl) ?_;simp only[L146];simp;refine zG (zJ6 a w) ?_;rintro _ w1 ⟨rfl,rfl⟩;simp;refine zG (zJ6 b w1) ?_;rintro _ w2 ⟨rfl,rfl⟩;unfold c3;by_cases h1:a<b
 ·have JA:(a:Int)<b:=by omega
  simp[h1,JA]
 ·have JA:¬(a:Int)<b:=by omega
  by_cases h2:b<a
  ·have JB:(b:Int)<a:=by omega
   simp[h1,JA,h2,JB]
  ·have JB:¬(b:Int)<a:=by omega
   simp[h1,JA,h2,JB]
theorem zSg{w:World}(v:Value)(a b:Int)(hv:Vw w v iE [a,b]):Calls Tryz.prog 145 [v].toArray w fun e w'=>∃x,e=.returned x/\x=.int .i64 (if a≠0 then a else b)/\Kp [] w w':=by
 refine enter Tryz.func145 mixed low145 (Nat.le_of_ble_eq_true rfl) ?_;simp only[L145];simp[hv.len];refine zF (n:=2) (by omega) (fun k ρ w'=>ρ 6=v/\ρ 3=.int .i64 0/\(0<k->a=0)/\(1<k->b=0)/\Kp [] w w') (by simp) (by simp)
  ⟨by simp,by simp,by omega,by omega,Kp.refl _ _⟩ (by decide) (fun _ _ _ _ h=>by simpa using h) (fun _ _ _ _ h=>by simpa using h) ?_ ?_
 ·rintro k ρ w4 hk hc JA ⟨g6,g3,h0,h1,k4⟩;have JB:=hv.kp0 k4;rcases(show k=0\/k=1 by omega) with rfl|rfl
  ·have e:w4.cell? (v.adr.add 0)=some (.int .i64 a):=ze JB rfl;have ix:=fun {K:zw Value}=>JB.idx (P:=Tryz.prog) (T:=22) (k:=.i64) (i:=(0:Int)) (K:=K) (by omega) (by simp);simp[g6,g3,hc,JA,ix,e];by_cases ha:a=0
   ·simp[ha,g6,g3,hc,JA];exact k4
   ·have hn:(a != 0)=true:=by simp[ha]
    simp[ha,hn];exact k4
  ·have e:w4.cell? (v.adr.add 1)=some (.int .i64 b):=ze JB rfl;have ha:=h0 (by omega);have ix:=fun {K:zw Value}=>JB.idx (P:=Tryz.prog) (T:=22) (k:=.i64) (i:=(1:Int)) (K:=K) (by omega) (by simp);simp[g6,g3,hc,JA,ix,e];by_cases hb:b=0
   ·simp[hb,g6,g3,hc,JA];exact⟨ha,k4⟩
   ·have hn:(b != 0)=true:=by simp[hb]
    rw[hn];simp[hb,ha];exact k4
 ·rintro ρ w4 ⟨g6,g3,h0,h1,k4⟩;have ha:=h0 (by omega);have hb:=h1 (by omega);simp[ha,hb,g3];exact k4
end
section
open Go Go.W Go.Tk Go.Rx
theorem zKe(a b:Nat):(a<b/\c3 a b=-1)\/(a=b/\c3 a b=0)\/(b<a/\c3 a b=1):=by
 unfold c3;rcases Nat.lt_trichotomy a b with h|h|h
 ·exact .inl ⟨h,by simp[h]⟩
 ·exact .inr (.inl ⟨h,by simp[h]⟩)
 ·have h':¬a<b:=by omega
  exact .inr (.inr ⟨h,by simp[h,h']⟩)
def fLt(x y:Go.Tk.Fc):Prop:=x.1<y.1\/(x.1=y.1/\x.2<y.2)
theorem zA3(x y:Go.Tk.Fc):(fLt x y/\cF x y=-1)\/(x=y/\cF x y=0)\/(fLt y x/\cF x y=1):=by
 unfold cF fLt;rcases zKe x.1 y.1 with⟨h,e⟩|⟨h,e⟩|⟨h,e⟩
 ·exact .inl ⟨.inl h,by rw[e];rfl⟩
 ·rw[e,if_neg (by simp)];rcases zKe x.2 y.2 with⟨h2,e2⟩|⟨h2,e2⟩|⟨h2,e2⟩
  ·exact .inl ⟨.inr ⟨h,h2⟩,e2⟩
  ·exact .inr (.inl ⟨Prod.ext h h2,e2⟩)
  ·exact .inr (.inr ⟨.inr ⟨h.symm,h2⟩,e2⟩)
 ·exact .inr (.inr ⟨.inl h,by rw[e];rfl⟩)
theorem zAj{x y z:Go.Tk.Fc}(h1:fLt x y)(h2:fLt y z):fLt x z:=by
 unfold fLt at *
 omega
theorem zBy{x:Go.Tk.Fc}:¬fLt x x:=by
 unfold fLt;omega
def lLt:List Go.Tk.Fc->List Go.Tk.Fc->Prop
 |[],[]=>False
 |[],_::_=>True
 |_::_,[]=>False
 |x::l,y::m=>fLt x y\/(x=y/\lLt l m)
theorem zCc:∀x y:List Go.Tk.Fc,(lLt x y/\cL x y=-1)\/(x=y/\cL x y=0)\/(lLt y x/\cL x y=1)
 |[],[]=>.inr (.inl ⟨rfl,rfl⟩)
 |[],_::_=>.inl ⟨trivial,rfl⟩
 |_::_,[]=>.inr (.inr ⟨trivial,rfl⟩)
 |x::l,y::m=>by
  have e:cL (x::l) (y::m)=if cF x y≠0 then cF x y else cL l m:=rfl;rw[e];rcases zA3 x y with⟨h,e1⟩|⟨h,e1⟩|⟨h,e1⟩
  ·exact .inl ⟨.inl h,by rw[e1];rfl⟩
  ·rw[e1,if_neg (by simp)];rcases zCc l m with⟨h2,e2⟩|⟨h2,e2⟩|⟨h2,e2⟩
   ·exact .inl ⟨.inr ⟨h,h2⟩,e2⟩
   ·exact .inr (.inl ⟨by rw[h,h2],e2⟩)
   ·exact .inr (.inr ⟨.inr ⟨h.symm,h2⟩,e2⟩)
  ·exact .inr (.inr ⟨.inl h,by rw[e1];rfl⟩)
theorem zCH:∀{x y z:List Go.Tk.Fc},lLt x y->lLt y z->lLt x z
 |[],[],_,h,_=>h.elim
 |[],_::_,[],_,h=>h.elim
 |[],_::_,_::_,_,_=>trivial
 |_::_,[],_,h,_=>h.elim
 |_::_,_::_,[],_,h=>h.elim
 |x::l,y::m,z::n,h1,h2=>by
  rcases h1 with h1|⟨rfl,h1⟩
  ·rcases h2 with h2|⟨rfl,h2⟩
   ·exact .inl (zAj h1 h2)
   ·exact .inl h1
  ·rcases h2 with h2|⟨rfl,h2⟩
   ·exact .inl h2
   ·exact .inr ⟨rfl,zCH h1 h2⟩
theorem zC0:∀{x:List Go.Tk.Fc},¬lLt x x
 |[]=>id
 |x::l=>fun h=>h.elim zBy fun h=>zC0 h.2
theorem zGJ{x y:List Go.Tk.Fc}:cL x y<0<->lLt x y:=by
 rcases zCc x y with⟨h,e⟩|⟨h,e⟩|⟨h,e⟩
 ·exact⟨fun _=>h,fun _=>by omega⟩
 ·subst h;exact⟨fun h=>by omega,fun h=>(zC0 h).elim⟩
 ·exact⟨fun h=>by omega,fun h2=>(zC0 (zCH h h2)).elim⟩
theorem zJI{x y:List Go.Tk.Fc}:cL x y=0<->x=y:=by
 rcases zCc x y with⟨h,e⟩|⟨h,e⟩|⟨h,e⟩
 ·exact⟨fun h=>by omega,fun h2=>by subst h2;exact(zC0 h).elim⟩
 ·exact⟨fun _=>h,fun _=>e⟩
 ·exact⟨fun h=>by omega,fun h2=>by subst h2;exact(zC0 h).elim⟩
end
section
open Go Go.W Go.Tk Go.Rx
def fcO(f:Go.Tk.Fc):Obj:=.cells #[.int .i64 (f.1:Nat),.int .i64 (f.2:Nat)] 100 (0,0)
theorem zIy(i:Int):(iE i).length=1:=rfl
theorem zOG(x y:Go.Tk.Fc)(w:World):Calls Tryz.prog 144 [fcV x,fcV y].toArray w fun e w'=>∃v,e=.returned v/\v=.int .i64 (cF x y)/\Kp [] w w':=by
 refine enter Tryz.func144 mixed low144 (Nat.le_of_ble_eq_true rfl) ?_;simp only[L144];obtain⟨b1,JF⟩:∃b,b=w.heap.size:=⟨_,rfl⟩;obtain⟨w1,JD⟩:∃w1,w1=w.alloc (fcO x):=⟨_,rfl⟩;have k1:Kp [] w w1:=by rw[JD];exact(Kp.refl [] w).alloc _
 have o1:w1.heap[b1]? = some (fcO x):=by rw[JF,JD];exact zO
 have JC:w.alloc (.cells #[.int .i64 (x.1:Nat),.int .i64 (x.2:Nat)] 100 (0,0))=w1:=by rw[JD];rfl
 obtain⟨b2,JE⟩:∃b,b=w1.heap.size:=⟨_,rfl⟩;obtain⟨w2,JB⟩:∃w2,w2=w1.alloc (fcO y):=⟨_,rfl⟩;have k2:Kp [] w1 w2:=by rw[JB];exact(Kp.refl [] w1).alloc _
 have o2:w2.heap[b2]? = some (fcO y):=by rw[JE,JB];exact zO
 have o12:w2.heap[b1]? = some (fcO x):=k2.blk o1 (by simp);have JA:w1.alloc (.cells #[.int .i64 (y.1:Nat),.int .i64 (y.2:Nat)] 100 (0,0))=w2:=by rw[JB];rfl
 unfold fcO at o2 o12;simp[fcV,<-JF,JC,<-JE,JA,zA o2,zA o12];have h5:=(At.start rfl:At w2.drew [] Emp w2.drew).lit (xs:=[c3 x.1 y.1,c3 x.2 y.2]) (enc:=iE) (E:=3) (sz:=1) (cs:=#[.int .i64 (c3 x.1 y.1),.int .i64 (c3 x.2 y.2)]) (m:=2) .emp (by simp[iE]) zIy (by simp[maxLen]) rfl;have k5:Kp [] w (w2.drew.alloc (.cells #[.int .i64 (c3 x.1 y.1),.int .i64 (c3 x.2 y.2)] 3)):=(k1.trans k2).drew.trans h5.kp;refine⟨?_,?_,?_,?_⟩ <;>
 ·refine zG (zAV x.1 y.1 _) ?_;rintro _ w3 ⟨rfl,rfl⟩;simp[zA o2,zA o12];refine zG (zAV x.2 y.2 _) ?_;rintro _ w4 ⟨rfl,rfl⟩;simp[zW];refine zG (zSg _ _ _ h5.own.vw) ?_;rintro _ w5 ⟨rfl,k6⟩;simp;exact⟨by unfold cF;simp,k5.trans k6⟩
theorem zf(f:Go.Tk.Fc):(fcE f).length=2:=rfl
theorem zRf(y:List Go.Tk.Fc):cL [] y=if 0<y.length then -1 else 0:=by cases y<;>rfl
theorem zOT{xs ys:List Go.Tk.Fc}{k:Nat}{x y:Go.Tk.Fc}(hx:xs[k]? = some x)(hy:ys[k]? = some y):cL (xs.drop k) (ys.drop k)=if cF x y≠0 then cF x y else cL (xs.drop (k+1)) (ys.drop (k+1)):=by
 obtain⟨h1,e1⟩:=List.getElem?_eq_some_iff.1 hx;obtain⟨h2,e2⟩:=List.getElem?_eq_some_iff.1 hy;rw[List.drop_eq_getElem_cons h1,List.drop_eq_getElem_cons h2,e1,e2];rfl
theorem zOS{xs ys:List Go.Tk.Fc}{k:Nat}(hx:k<xs.length)(hy:ys.length<=k):cL (xs.drop k) (ys.drop k)=1:=by
 rw[List.drop_eq_getElem_cons hx,List.drop_of_length_le hy];rfl
theorem zLf{w:World}(u v:Value)(xs ys:List Go.Tk.Fc)(hu:Vw w u fcE xs)(hv:Vw w v fcE ys)(hx:xs.length<=1000000)(hy:ys.length<=1000000) :
  Calls Tryz.prog 143 [u,v,.func (.func 144) #[] #[]].toArray w fun e w'=>∃x,e=.returned x/\x=.int .i64 (cL xs ys)/\Kp [] w w':=by
 refine enter Tryz.func143 mixed low143 (Nat.le_of_ble_eq_true rfl) ?_;simp only[L143];simp[hu.len];refine zF (n:=xs.length) (by omega) (fun k ρ w'=>ρ 0=u/\ρ 1=v/\ρ 2=.func (.func 144) #[] #[]/\ρ 11=u/\cL xs ys=cL (xs.drop k) (ys.drop k)/\k<=ys.length/\At w [] Emp w') (by simp) (by simp)
  ⟨by simp,by simp,by simp,by simp,by simp,by omega,At.start rfl⟩ (by decide) (fun _ _ _ _ h=>by simpa using h) (fun _ _ _ _ h=>by simpa using h) ?_ ?_
 ·rintro k ρ w4 hk hc JD ⟨g0,g1,g2,g11,JA,JN,h4⟩;have k4:=h4.kp;have JC:=hu.kp0 k4;have JF:=hv.kp0 k4;obtain⟨x,JM⟩:∃x,xs[k]? = some x:=⟨_,List.getElem?_eq_getElem hk⟩;have ex:=JC.cells zf JM;simp only[fcE] at ex;have JQ:(k:Int)<xs.length:=by omega
  obtain⟨b1,JH⟩:∃b,b=w4.heap.size:=⟨_,rfl⟩;have h5:At w [] (zC (zL b1 (fcO (0,0))) Emp) (w4.alloc (fcO (0,0))):=by rw[JH];exact h4.alloc _ .emp
  unfold fcO at h5;simp(disch:=omega)[g0,g1,g2,g11,hc,JD,JC.idx,ex,<-JH];refine h5.st .emp (by simp) (by simp) fun w6 h6=>?_;have JK:At w [] (zC (zL b1 (fcO x)) Emp) w6:=by simpa[fcO] using h6
  have JE:=hv.kp0 JK.kp;by_cases hl:ys.length<=k
  ·have JB:(ys.length:Int)<=k:=by omega
   rw[zOS hk hl] at JA;simp[g0,g1,g2,hc,JE.len,JB,hl,JA];exact JK.kp
  have JB:¬(ys.length:Int)<=k:=by omega
  obtain⟨y,JL⟩:∃y,ys[k]? = some y:=⟨_,List.getElem?_eq_getElem (by omega)⟩;have ey:=JE.cells zf JL;simp only[fcE] at ey;have JP:(k:Int)<ys.length:=by omega
  obtain⟨b2,JG⟩:∃b,b=w6.heap.size:=⟨_,rfl⟩;have JO:Lcl (zC (zL b1 (fcO x)) Emp):=Lcl.obj.star .emp;have h7:At w [] (zC (zL b2 (fcO (0,0))) (zC (zL b1 (fcO x)) Emp)) (w6.alloc (fcO (0,0))):=by rw[JG];exact JK.alloc _ JO
  unfold fcO at h7;simp(disch:=omega)[g0,g1,g2,hc,JE.len,JB,hl,JE.idx,ey,<-JG];refine h7.st (Lcl.obj.star .emp) (by simp) (by simp) fun w8 h8=>?_;have JI:At w [] (zC (zL b2 (fcO y)) (zC (zL b1 (fcO x)) Emp)) w8:=by simpa[fcO] using h8
  have o2:=JI.obj;have o1:=JI.drop.obj;unfold fcO at o1 o2;have r1:zK w8 ⟨b1,0,none⟩ 0 2=some [.int .i64 (x.1:Nat),.int .i64 (x.2:Nat)]:=by simp[zK,Addr.add,zA o1]
  have r2:zK w8 ⟨b2,0,none⟩ 0 2=some [.int .i64 (y.1:Nat),.int .i64 (y.2:Nat)]:=by simp[zK,Addr.add,zA o2]
  simp[g2,<-JH,<-JG,r1,r2];refine zG (zOG x y w8) ?_;rintro _ w9 ⟨rfl,k9⟩;have h9:=JI.drop.drop.kp0 .emp k9;rw[zOT JM JL] at JA;by_cases hz:cF x y=0
  ·rw[if_neg (by simpa using hz)] at JA;simp[hz,g0,g1,g2,g11,hc,JD];exact⟨JA,by omega,h9⟩
  ·have hn:(cF x y != 0)=true:=by simp[hz]
   rw[if_pos hz] at JA;simp[hz,hn,JA];exact h9.kp
 ·rintro ρ w4 ⟨g0,g1,g2,g11,JA,JN,h4⟩;rw[List.drop_of_length_le (Nat.le_refl _),zRf,List.length_drop] at JA;have JC:=hu.kp0 h4.kp;have JF:=hv.kp0 h4.kp;by_cases hl:xs.length<ys.length
  ·have JB:(xs.length:Int)<ys.length:=by omega
   rw[if_pos (by omega)] at JA;simp[g0,g1,JC.len,JF.len,hl,JB,JA];exact h4.kp
  ·have JB:¬(xs.length:Int)<ys.length:=by omega
   rw[if_neg (by omega)] at JA;simp[g0,g1,JC.len,JF.len,hl,JB,JA];exact h4.kp
end
section
open Go Go.W Go.Tk Go.Rx
theorem zDd{w:World}(u v:Value)(xs ys:List Go.Tk.Fc)(hu:Vw w u fcE xs)(hv:Vw w v fcE ys)(hx:xs.length<=1000000)(hy:ys.length<=1000000) :
  Calls Tryz.prog 90 [u,v].toArray w fun e w'=>∃x,e=.returned x/\x=.int .i64 (cL xs ys)/\Kp [] w w':=by
 refine enter Tryz.func90 mixed low90 (Nat.le_of_ble_eq_true rfl) ?_;simp only[L90];simp;refine zG (zLf u v xs ys hu hv hx hy) ?_;rintro _ w1 ⟨rfl,k1⟩;simp;exact k1
theorem zHz{w w1:World}{F:List Nat}{B:Asr}{x:Go.Tk.Fc}{b:Nat}{KW:zw World}(hB:Lcl B)(h:At w F B w1)(hb:b=w1.heap.size)(H:∀w2,At w F (zC (zL b (fcO x)) B) w2->KW.run w2) :
  @stJ (w1.alloc (.cells #[.int .i64 0,.int .i64 0] 100 (0,0))) ⟨b,0,none⟩ [.int .i64 (x.1:Nat),.int .i64 (x.2:Nat)] KW:=by
 have h1:At w F (zC (zL b (.cells #[.int .i64 0,.int .i64 0] 100 (0,0))) B) (w1.alloc (.cells #[.int .i64 0,.int .i64 0] 100 (0,0))):=by rw[hb];exact h.alloc _ hB
 refine h1.st hB (by simp) (by simp) fun w2 h2=>H w2 ?_;simpa[fcO] using h2
def vAt(p:List Go.Tk.Fc)(i:Nat):Bool:=i==0||decide ((p.getD (i-1) (0,0)).1<(p.getD i (0,0)).1)
def vB(p:List Go.Tk.Fc):Bool:=(List.range p.length).all (vAt p)
theorem zL8{p:List Go.Tk.Fc}(h:∀i,i<p.length->vAt p i=true):vB p=true:=List.all_eq_true.2 fun i hi=>h i (List.mem_range.1 hi)
theorem zO6{p:List Go.Tk.Fc}{i:Nat}(hi:i<p.length)(h:vAt p i=false):vB p=false:=by
 rw[Bool.eq_false_iff];intro e;have:=List.all_eq_true.1 e i (List.mem_range.2 hi);rw[h] at this;cases this
theorem zBi{w:World}(v:Value)(p:List Go.Tk.Fc)(hv:Vw w v fcE p)(hp:p.length<=1000000) :
  Calls Tryz.prog 103 [v].toArray w fun e w'=>∃x,e=.returned x/\x=.bool (vB p)/\Kp [] w w':=by
 refine enter Tryz.func103 mixed low103 (Nat.le_of_ble_eq_true rfl) ?_;simp only[L103];simp[hv.len];refine zF (n:=p.length) (by omega) (fun k ρ w'=>ρ 0=v/\ρ 5=v/\(∀j,j<k->vAt p j=true)/\At w [] Emp w') (by simp) (by simp)
  ⟨by simp,by simp,by omega,At.start rfl⟩ (by decide) (fun _ _ _ _ h=>by simpa using h) (fun _ _ _ _ h=>by simpa using h) ?_ ?_
 rotate_left
 ·rintro ρ w4 ⟨g0,g5,hall,h4⟩;simp[zL8 hall];exact h4.kp
 rintro k ρ w4 hk hc JA ⟨g0,g5,hall,h4⟩;have JD:=hv.kp0 h4.kp;obtain⟨x,hx⟩:∃x,p[k]? = some x:=⟨_,List.getElem?_eq_getElem hk⟩;have ex:=JD.cells zf hx;simp only[fcE] at ex;have JH:(k:Int)<p.length:=by omega
 obtain⟨b,hb⟩:∃b,b=w4.heap.size:=⟨_,rfl⟩;simp(disch:=omega)[g0,g5,hc,JA,JD.idx,ex,<-hb];refine zHz (x:=x) .emp h4 hb fun w6 h6=>?_;have o6:=h6.obj;unfold fcO at o6;have JC:=hv.kp0 h6.kp;have xd:p.getD k (0,0)=x:=by simp[List.getD,hx]
 by_cases h0:k=0
 ·subst h0;have n1:¬(x.1:Int)<0:=by omega
  have n2:¬(x.2:Int)<0:=by omega
  simp[g0,g5,hc,JA,<-hb,zA o6,n1,n2];exact⟨rfl,h6.drop.drew .emp⟩
 have n1:¬(x.1:Int)<0:=by omega
 have n2:¬(x.2:Int)<0:=by omega
 have JF:(0:Int)<k:=by omega
 have JE:0<k:=by omega
 obtain⟨j,hj⟩:∃j,j=k-1:=⟨_,rfl⟩;have ej:(k:Int)-1=(j:Int):=by omega
 obtain⟨y,hy⟩:∃y,p[j]? = some y:=⟨_,List.getElem?_eq_getElem (by omega)⟩;have yd:p.getD (k-1) (0,0)=y:=by rw[<-hj];simp[List.getD,hy]
 have ey:=JC.fld zf hy (o:=0) (u:=.int .i64 (y.1:Nat)) rfl;have JI:(j:Int)<p.length:=by omega
 have ev:vAt p k=decide (y.1<x.1):=by
  unfold vAt;rw[xd,yd];have:(k==0)=false:=by simp[h0]
  rw[this,Bool.false_or]
 by_cases JG:x.1<=y.1
 ·have JB:(x.1:Int)<=y.1:=by omega
  have hf:=zO6 hk (by rw[ev];simp;omega);simp(disch:=omega)[g0,g5,hc,JA,<-hb,zA o6,n1,n2,JF,JE,ej,zH,JC.idx,ey,JB,hf];exact h6.kp.drew
 ·have JB:¬(x.1:Int)<=y.1:=by omega
  simp(disch:=omega)[g0,g5,hc,JA,<-hb,zA o6,n1,n2,JF,JE,ej,zH,JC.idx,ey,JB];refine⟨fun i hi=>?_,h6.drop.drew .emp⟩;rcases(show i<k\/i=k by omega) with h|rfl
  ·exact hall i h
  ·rw[ev];simp;omega
def fdF(p:List Go.Tk.Fc)(v:Nat):Int:=match p.find? fun f=>decide (f.1=v) with|some f=>(f.2:Nat)|none=>-1
theorem zNn{w:World}(u:Value)(p:List Go.Tk.Fc)(v:Nat)(hu:Vw w u fcE p)(hp:p.length<=1000000) :
  Calls Tryz.prog 159 [u,.int .i64 (v:Nat)].toArray w fun e w'=>∃x,e=.returned x/\x=.int .i64 (fdF p v)/\Kp [] w w':=by
 refine enter Tryz.func159 mixed low159 (Nat.le_of_ble_eq_true rfl) ?_;simp only[L159];simp[hu.len];refine zF (n:=p.length) (by omega) (fun k ρ w'=>ρ 1=.int .i64 (v:Nat)/\ρ 7=u/\fdF p v=fdF (p.drop k) v/\At w [] Emp w') (by simp) (by simp)
  ⟨by simp,by simp,by simp,At.start rfl⟩ (by decide) (fun _ _ _ _ h=>by simpa using h) (fun _ _ _ _ h=>by simpa using h) ?_ ?_
 rotate_left
 ·rintro ρ w4 ⟨g1,g7,hd,h4⟩;rw[List.drop_of_length_le (Nat.le_refl _)] at hd;have JB:fdF p v=-1:=by rw[hd];rfl
  simp[JB];exact h4.kp
 rintro k ρ w4 hk hc JA ⟨g1,g7,hd,h4⟩;have JC:=hu.kp0 h4.kp;obtain⟨x,hx⟩:∃x,p[k]? = some x:=⟨_,List.getElem?_eq_getElem hk⟩;have ex:=JC.cells zf hx;simp only[fcE] at ex;have JE:(k:Int)<p.length:=by omega
 obtain⟨b,hb⟩:∃b,b=w4.heap.size:=⟨_,rfl⟩;simp(disch:=omega)[g1,g7,hc,JA,JC.idx,ex,<-hb];refine zHz (x:=x) .emp h4 hb fun w6 h6=>?_;have o6:=h6.obj;unfold fcO at o6;have ed:p.drop k=x::p.drop (k+1):=by obtain⟨h1,e1⟩:=List.getElem?_eq_some_iff.1 hx;rw[List.drop_eq_getElem_cons h1,e1]
 rw[ed] at hd;by_cases he:x.1=v
 ·have JB:fdF p v=(x.2:Nat):=by rw[hd];simp[fdF,he]
  simp[g1,g7,hc,JA,<-hb,zA o6,he,JB];exact h6.kp
 ·have JD:(((x.1:Nat):Int)==((v:Nat):Int))=false:=by rw[beq_eq_false_iff_ne];omega
  have JB:fdF p v=fdF (p.drop (k+1)) v:=by rw[hd];simp[fdF,he]
  simp[g1,g7,hc,JA,<-hb,zA o6,JD,he];exact⟨JB,h6.drop⟩
def zLc(a b:List Go.Tk.Fc):Bool:=b.all fun f=>decide (fdF a f.1=(f.2:Nat))
theorem zGz{w:World}(u v:Value)(a b:List Go.Tk.Fc)(hu:Vw w u fcE a)(hv:Vw w v fcE b)(ha:a.length<=1000000)(hb:b.length<=1000000) :
  Calls Tryz.prog 104 [u,v].toArray w fun e w'=>∃x,e=.returned x/\x=.bool (zLc a b)/\Kp [] w w':=by
 refine enter Tryz.func104 mixed low104 (Nat.le_of_ble_eq_true rfl) ?_;simp only[L104];simp[hv.len];refine zF (n:=b.length) (by omega) (fun k ρ w'=>ρ 0=u/\ρ 7=v/\zLc a b=zLc a (b.drop k)/\At w [] Emp w') (by simp) (by simp)
  ⟨by simp,by simp,by simp,At.start rfl⟩ (by decide) (fun _ _ _ _ h=>by simpa using h) (fun _ _ _ _ h=>by simpa using h) ?_ ?_
 rotate_left
 ·rintro ρ w4 ⟨g0,g7,hd,h4⟩;rw[List.drop_of_length_le (Nat.le_refl _)] at hd;have JH:zLc a b=true:=by rw[hd];rfl
  simp[JH];exact h4.kp
 rintro k ρ w4 hk hc JA ⟨g0,g7,hd,h4⟩;have JE:=hv.kp0 h4.kp;obtain⟨x,hx⟩:∃x,b[k]? = some x:=⟨_,List.getElem?_eq_getElem hk⟩;have ex:=JE.cells zf hx;simp only[fcE] at ex;have JI:(k:Int)<b.length:=by omega
 obtain⟨bb,JC⟩:∃b,b=w4.heap.size:=⟨_,rfl⟩;simp(disch:=omega)[g0,g7,hc,JA,JE.idx,ex,<-JC];refine zHz (x:=x) .emp h4 JC fun w6 h6=>?_;have ed:b.drop k=x::b.drop (k+1):=by obtain⟨h1,e1⟩:=List.getElem?_eq_some_iff.1 hx;rw[List.drop_eq_getElem_cons h1,e1]
 rw[ed] at hd;have JB:zLc a b=(decide (fdF a x.1=(x.2:Nat))&&zLc a (b.drop (k+1))):=by rw[hd];rfl
 have JF:Lcl (zC (zL bb (fcO x)) Emp):=Lcl.obj.star .emp;have JD:=h6.drew JF;have o6:=JD.obj;unfold fcO at o6;have o6':=h6.obj;unfold fcO at o6';simp[g0,<-JC,zA o6'];refine⟨?_,?_⟩ <;>
 ·refine zG (zNn u a x.1 (hu.kp0 JD.kp) ha) ?_;rintro _ w7 ⟨rfl,k7⟩;have h7:=JD.kp0 JF k7;have o7:=h7.obj;unfold fcO at o7;by_cases he:fdF a x.1=(x.2:Nat)
  ·rw[decide_eq_true he,Bool.true_and] at JB;simp[g0,g7,hc,JA,zA o7,he];exact⟨JB,h7.drop⟩
  ·have JG:(fdF a x.1 != ((x.2:Nat):Int))=true:=by simpa using he
   rw[decide_eq_false he,Bool.false_and] at JB;simp[g0,g7,hc,JA,zA o7,JG,JB];exact h7.kp
end
section
open Go Go.W Go.Tk Go.Rx
abbrev Rw:=zP×List Go.Tk.Fc
structure zIP(w:World)(v:Value)(ps:List Rw):Prop where
 vw:Vw w v sv1 ps
 row:∀p∈ps,Vw w p.1.1 fcE p.2
 sh:∀p∈ps,p.2.length<=1000000
theorem zIP.kp{w w':World}{v:Value}{ps:List Rw}(h:zIP w v ps)(k:Kp [] w w'):zIP w' v ps:=⟨h.vw.kp0 k,fun p hp=>(h.row p hp).kp0 k,h.sh⟩
theorem zJG{w:World}(u zv:Value)(zb:Nat)(y z:List Go.Tk.Fc)(hu:Vw w u fcE y)(hz:Vw w zv fcE z)(ho:w.heap[zb]? = some (.cells #[zv] 23 (0,0)))(hy:y.length<=1000000)(JA:z.length<=1000000) :
  Calls Tryz.prog 197 [u,.pointer (some ⟨zb,0,none⟩)].toArray w fun e w'=>∃x,e=.returned x/\x=.bool (decide (cL y z=0))/\Kp [] w w':=by
 refine enter Tryz.func197 mixed low197 (Nat.le_of_ble_eq_true rfl) ?_;simp only[L197];simp[zA ho];refine zG (zDd u zv y z hu hz hy JA) ?_;rintro _ w1 ⟨rfl,k1⟩;simp;refine⟨?_,k1⟩;by_cases h:cL y z=0<;>simp[h]
def ceB(ps:List Rw)(z:List Go.Tk.Fc):Bool:=ps.any fun p=>decide (cL p.2 z=0)
theorem zIt{w:World}(v zv:Value)(zb:Nat)(ps:List Rw)(z:List Go.Tk.Fc)(hv:zIP w v ps)(hz:Vw w zv fcE z)(ho:w.heap[zb]? = some (.cells #[zv] 23 (0,0)))(hl:ps.length<=1000000)(JF:z.length<=1000000) :
  Calls Tryz.prog 217 [v,.func (.func 197) #[] #[.pointer (some ⟨zb,0,none⟩)]].toArray w fun e w'=>∃x,e=.returned x/\(∃i:Int,x=.int .i64 i/\decide (0<=i)=ceB ps z)/\Kp [] w w':=by
 refine enter Tryz.func217 mixed low217 (Nat.le_of_ble_eq_true rfl) ?_;simp only[L217];simp[hv.vw.len];refine zF (n:=ps.length) (by omega) (fun k ρ w'=>ρ 0=v/\ρ 1=.func (.func 197) #[] #[.pointer (some ⟨zb,0,none⟩)]/\ceB ps z=ceB (ps.drop k) z/\Kp [] w w') (by simp) (by simp)
  ⟨by simp,by simp,by simp,Kp.refl _ _⟩ (by decide) (fun _ _ _ _ h=>by simpa using h) (fun _ _ _ _ h=>by simpa using h) ?_ ?_
 rotate_left
 ·rintro ρ w4 ⟨g0,g1,hd,k4⟩;rw[List.drop_of_length_le (Nat.le_refl _)] at hd;have JG:ceB ps z=false:=by rw[hd];rfl
  simp[JG];exact k4
 rintro k ρ w4 hk hc JD ⟨g0,g1,hd,k4⟩;obtain⟨p,JC⟩:∃p,ps[k]? = some p:=⟨_,List.getElem?_eq_getElem hk⟩;have JB:=hv.kp k4;have JE:=List.mem_of_getElem? JC;have ei:w4.cell? (v.adr.add k)=some p.1.1:=by simpa using JB.vw.at_ zT JC (o:=0) (u:=p.1.1) rfl
 have ed:ps.drop k=p::ps.drop (k+1):=by obtain⟨h1,e1⟩:=List.getElem?_eq_some_iff.1 JC;rw[List.drop_eq_getElem_cons h1,e1]
 have JA:ceB ps z=(decide (cL p.2 z=0)||ceB (ps.drop (k+1)) z):=by rw[hd,ed];rfl
 simp(disch:=omega)[g0,g1,hc,JD,JB.vw.idx,ei];refine zG (zJG p.1.1 zv zb p.2 z (JB.row p JE) (hz.kp0 k4) (k4.blk ho (by simp)) (hv.sh p JE) JF) ?_;rintro _ w5 ⟨rfl,k5⟩;by_cases t:cL p.2 z=0
 ·rw[decide_eq_true t,Bool.true_or] at JA;simp[t,g0,g1,hc,JD,JA];exact k4.trans0 k5
 ·rw[decide_eq_false t,Bool.false_or] at JA;simp[t,g0,g1,hc,JD];exact⟨JA,k4.trans0 k5⟩
theorem zFn{w:World}(v zv:Value)(zb:Nat)(ps:List Rw)(z:List Go.Tk.Fc)(hv:zIP w v ps)(hz:Vw w zv fcE z)(ho:w.heap[zb]? = some (.cells #[zv] 23 (0,0)))(hl:ps.length<=1000000)(JA:z.length<=1000000) :
  Calls Tryz.prog 163 [v,.func (.func 197) #[] #[.pointer (some ⟨zb,0,none⟩)]].toArray w fun e w'=>∃x,e=.returned x/\x=.bool (ceB ps z)/\Kp [] w w':=by
 refine enter Tryz.func163 mixed low163 (Nat.le_of_ble_eq_true rfl) ?_;simp only[L163];simp;refine zG (zIt v zv zb ps z hv hz ho hl JA) ?_;rintro _ w5 ⟨⟨i,rfl,hi⟩,k5⟩;simp[hi];exact k5
end
end Go.Proofs.YtolkjbmcindhjaaGreat
