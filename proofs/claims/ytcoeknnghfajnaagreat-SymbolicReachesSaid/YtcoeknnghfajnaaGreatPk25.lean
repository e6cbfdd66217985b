/-
  A part of the proof of this claim's statement (SyEF, SyEG): plain theorems; no conditions beyond those each names.
-/
import Derived.Test.YtcoeknnghfajnaaGreatPk24
set_option maxRecDepth 100000
set_option linter.unusedSimpArgs false
set_option linter.unusedVariables false
set_option linter.unusedSectionVars false
section
namespace Go.Sy
open Go.Bd
theorem len_flat {α β:Type} (L:α→List β) (n:Nat) (h:∀x,(L x).length≤n):∀l:List α,(l.flatMap L).length≤l.length * n
 | []=>by simp
 | x :: l=>by
  have:=len_flat L n h l
  have:=h x
  rw [List.flatMap_cons,List.length_append,List.length_cons,Nat.succ_mul]
  omega
section
variable {X:Eff} {Y:Bts} {b t0 t1 v:Nat} {S:BFn→Prop} (hX:X.Ok b) (hse:Y.sB v≤Y.eB v) (heb:Y.eB v≤b)
include hX hse heb
theorem ex_vf (M:Option Nat→Prop):∃G,VF X Y v M G:=ex_fn _
theorem vf_uniq {M:Option Nat→Prop} {G G':BFn} (h:VF X Y v M G) (h':VF X Y v M G'):G=G':=funext fun a=>by rw [Bool.eq_iff_iff,h,h']
theorem lev_vb {t:Nat} (ht:t≤2 * Y.sB v):∃L:List BFn,L.length≤(if t % 2=0 then ((List.range X.E).map fun j=>if X.lab j=v then 2 * kN X t v j else 0).sum+2 * kN X t v 0 else 0)∧∀G,FV X Y v G→∀a,Dep (fun c=>G (pfx a t c)) t→(fun c=>G (pfx a t c)) ∈ L:=by
 by_cases ho:t % 2=0
 rotate_left
 ·rw [if_neg ho]
  refine ⟨[],by simp,fun G ⟨M,hM,hG⟩ a ⟨x,hx⟩=>absurd ?_ hx⟩
  refine vf_fin hX hse heb hG fun i i1 i2 i3=>?_
  have:i≠t:=fun e=>by
   subst e
   have:=relVr_od hX hse heb (show i % 2=1 by omega) i3
   omega
  rw [upd_ne this,upd_ne this]
 rw [if_pos ho]
 have one:∀(j:Nat) (M:Option Nat→Prop),(∀a a':Nat→Bool,(∀i,j≤i→i < X.E→X.lab i=v→cubeB (X.con i) a=cubeB (X.con i) a')→(∀q,Y.sB v≤q→q < Y.eB v→a (2 * q)=a' (2 * q))→M (X.la v a)→M (X.la v a')∧∀q,Y.sB v≤q→q < Y.eB v→X.sv v q a=X.sv v q a') →
   ∃L:List BFn,L.length≤kN X t v j∧∀G:BFn,VF X Y v M G→∀a,(fun c=>G (pfx a t c)) ∈ L:=fun j M hM=>by
  obtain ⟨g,hg⟩:=ex_vf hX hse heb M
  obtain ⟨L,l1,l2⟩:=key_at hX (t:=t) (v:=v) (j:=j) g fun a a' c h=>by
   have e:∀{a a':Nat→Bool},(∀i,j≤i→i < X.E→X.lab i=v→cubeB (X.con i) (pfx a t c)=cubeB (X.con i) (pfx a' t c))→g (pfx a t c)=true→g (pfx a' t c)=true:=fun {a a'} h h1=>by
    obtain ⟨h2,h3⟩:=(hg _).1 h1
    obtain ⟨h4,h5⟩:=hM _ _ h (fun q q1 q2=>by rw [pfx_out (by omega),pfx_out (by omega)]) h2
    refine (hg _).2 ⟨h4,fun q q1 q2=>?_⟩
    rw [←h5 q q1 q2,←h3 q q1 q2,pfx_out (by omega),pfx_out (by omega)]
   rw [Bool.eq_iff_iff]
   exact ⟨e h,e fun i h1 h2 h3=>(h i h1 h2 h3).symm⟩
  exact ⟨L,l1,fun G hG a=>by rw [vf_uniq hX hse heb hG hg]; exact l2 a⟩
 have hl:∀j,∃L:List BFn,L.length≤2 * kN X t v j∧∀M,(M=(fun o=>o=some j)∨M=fun o=>∃i,o=some i∧j≤i)→∀G:BFn,VF X Y v M G→∀a,(fun c=>G (pfx a t c)) ∈ L:=fun j=>by
  obtain ⟨L1,a1,b1⟩:=one j (fun o=>o=some j) fun a a' h _ hm=>by
   have h2:=(X.la_ge h (Nat.le_refl _)).1 hm
   exact ⟨h2,fun q _ _=>by unfold Eff.sv; rw [hm,h2]⟩
  obtain ⟨L2,a2,b2⟩:=one j (fun o=>∃i,o=some i∧j≤i) fun a a' h _ ⟨i,hm,hi⟩=>by
   have h2:=(X.la_ge h hi).1 hm
   exact ⟨⟨i,h2,hi⟩,fun q _ _=>by unfold Eff.sv; rw [hm,h2]⟩
  refine ⟨L1 ++ L2,by rw [List.length_append]; omega,fun M hM G hG a=>?_⟩
  rcases hM with rfl | rfl
  ·exact List.mem_append_left _ (b1 G hG a)
  ·exact List.mem_append_right _ (b2 G hG a)
 obtain ⟨L,hL⟩:=Classical.skolem.1 hl
 have hall:∀(M:Option Nat→Prop) (a a':Nat→Bool),(∀i,0≤i→i < X.E→X.lab i=v→cubeB (X.con i) a=cubeB (X.con i) a')→(∀q,Y.sB v≤q→q < Y.eB v→a (2 * q)=a' (2 * q))→M (X.la v a)→M (X.la v a')∧∀q,Y.sB v≤q→q < Y.eB v→X.sv v q a=X.sv v q a':=fun M a a' h hq hm=>by
  have e:=X.la_eq (v:=v) (a:=a) (a':=a') fun i h1 h2=>h i (Nat.zero_le _) h1 h2
  refine ⟨by rw [←e]; exact hm,fun q q1 q2=>?_⟩
  unfold Eff.sv
  rw [e,hq q q1 q2]
 obtain ⟨L1,a1,b1⟩:=one 0 (fun o=>o=none) (hall fun o=>o=none)
 obtain ⟨L2,a2,b2⟩:=one 0 (fun _=>True) (hall fun _=>True)
 refine ⟨((List.range X.E).flatMap fun j=>if X.lab j=v then L j else []) ++ (L1 ++ L2),?_,fun G ⟨M,hM,hG⟩ a _=>?_⟩
 ·rw [List.length_append,List.length_append]
  have:=sum_len (fun j=>if X.lab j=v then L j else []) (fun j=>if X.lab j=v then 2 * kN X t v j else 0) (fun j=>by
   show (if X.lab j=v then L j else []).length≤_
   by_cases h:X.lab j=v
   ·rw [if_pos h,if_pos h]; exact (hL j).1
   ·rw [if_neg h,if_neg h]; exact Nat.le_refl _) X.E
  omega
 ·rcases hM with ⟨j,hj,hlab,hM⟩ | rfl | rfl
  ·exact List.mem_append_left _ (List.mem_flatMap.2 ⟨j,List.mem_range.2 hj,by rw [if_pos hlab]; exact (hL j).2 M hM G hG a⟩)
  ·exact List.mem_append_right _ (List.mem_append_left _ (b1 G hG a))
  ·exact List.mem_append_right _ (List.mem_append_right _ (b2 G hG a))
theorem ev_reps (t:Nat):∃Λ:List (Nat→Bool),Λ.length≤2 ^ ((t+1) / 2)∧∀a:Nat→Bool,∃π ∈ Λ,∀q,2 * q < t→a (2 * q)=π (2 * q):=by
 obtain ⟨Λ,l1,l2⟩:=lst_keys ((List.range ((t+1) / 2)).map fun q=>fun a=>a (2 * q)) fun _=>True
 rw [List.length_map,List.length_range] at l1
 refine ⟨Λ,l1,fun a=>?_⟩
 obtain ⟨π,m1,_,m2⟩:=l2 a trivial
 exact ⟨π,m1,fun q hq=>m2 (fun a=>a (2 * q)) (List.mem_map.2 ⟨q,List.mem_range.2 (by omega),rfl⟩)⟩
theorem ons_mem {j:Nat}:j ∈ ((List.range X.E).filter fun i=>decide (0≤i) && decide (X.lab i=v))↔j < X.E∧X.lab j=v:=by
 rw [List.mem_filter,List.mem_range]
 simp
theorem least_of {j:Nat} {P:Nat→Prop} (h:∃i,j≤i∧i < X.E∧X.lab i=v∧P i):∃i,(j≤i∧i < X.E∧X.lab i=v∧P i)∧∀i',j≤i'→i' < X.E→X.lab i'=v→P i'→i≤i':=by
 obtain ⟨i,h1,h2⟩:=ex_min (fun i=>j≤i∧i < X.E∧X.lab i=v∧P i) h
 exact ⟨i,h1,fun i' a1 a2 a3 a4=>Nat.le_of_not_lt fun h=>h2 i' h ⟨a1,a2,a3,a4⟩⟩
theorem lev_vi (hv:∃j,j < X.E∧X.lab j=v) (t:Nat):∃L:List BFn,L.length≤(2 * X.cnt v 0+2) * 2 ^ ((t+1) / 2)∧∀G,FV X Y v G→∀a,Dep (fun c=>G (pfx a t c)) t→(fun c=>G (pfx a t c)) ∈ L:=by
 obtain ⟨Λ,l1,l2⟩:=ev_reps hX hse heb t
 obtain ⟨gO,hO⟩:=Classical.skolem.1 fun j=>ex_vf hX hse heb (v:=v) (Y:=Y) (fun o=>∃i,o=some i∧j≤i)
 obtain ⟨gT,hT⟩:=Classical.skolem.1 fun j=>ex_vf hX hse heb (v:=v) (Y:=Y) (fun o=>o=some j)
 obtain ⟨gN,hN⟩:=ex_vf hX hse heb (v:=v) (Y:=Y) (fun o=>o=none)
 obtain ⟨gC,hC⟩:=ex_vf hX hse heb (v:=v) (Y:=Y) (fun _=>True)
 -- the value of an effect,or that of the state
 obtain ⟨av,hav⟩:∃av:(Nat→Bool)→Nat→Nat→Bool,av=fun π j i=>if i % 2=0 then π i else X.val j (i / 2):=⟨_,rfl⟩
 obtain ⟨as',has⟩:∃as':(Nat→Bool)→Nat→Bool,as'=fun π i=>if i % 2=0 then π i else π (i - 1):=⟨_,rfl⟩
 have av0:∀π j q,av π j (2 * q)=π (2 * q):=fun π j q=>by rw [hav]; show (if 2 * q % 2=0 then _ else _)=_; rw [if_pos (by omega)]
 have av1:∀π j q,av π j (2 * q+1)=X.val j q:=fun π j q=>by rw [hav]; show (if (2 * q+1) % 2=0 then _ else X.val j ((2 * q+1) / 2))=_; rw [if_neg (by omega),show (2 * q+1) / 2=q by omega]
 have as0:∀π q,as' π (2 * q)=π (2 * q):=fun π q=>by rw [has]; show (if 2 * q % 2=0 then _ else _)=_; rw [if_pos (by omega)]
 have as1:∀π q,as' π (2 * q+1)=π (2 * q):=fun π q=>by rw [has]; show (if (2 * q+1) % 2=0 then _ else π (2 * q+1 - 1))=_; rw [if_neg (by omega),show 2 * q+1 - 1=2 * q by omega]
 obtain ⟨F,hF⟩:∃F:(Nat→Bool)→List BFn,F=fun π=>((((List.range X.E).filter fun i=>decide (0≤i) && decide (X.lab i=v))).flatMap fun j=>[(fun c=>gT j (pfx (av π j) t c)),fun c=>gO j (pfx (av π j) t c)]) ++ [(fun c=>gN (pfx (as' π) t c)),fun c=>gC (pfx (as' π) t c)]:=⟨_,rfl⟩
 refine ⟨Λ.flatMap F,?_,fun G ⟨M,hM,hG⟩ a hd=>?_⟩
 ·refine Nat.le_trans (len_flat F (2 * X.cnt v 0+2) (fun π=>?_) Λ) (by rw [Nat.mul_comm]; exact Nat.mul_le_mul_left _ l1)
  rw [hF]
  rw [List.length_append]
  have:=len_flat (fun j=>[(fun c=>gT j (pfx (av π j) t c):BFn),fun c=>gO j (pfx (av π j) t c)]) 2 (fun _=>Nat.le_refl _) ((List.range X.E).filter fun i=>decide (0≤i) && decide (X.lab i=v))
  unfold Eff.cnt
  simp only [List.length_cons,List.length_nil]
  omega
 obtain ⟨x,hx⟩:=dep_true hd
 obtain ⟨hMx,hxo⟩:=(hG _).1 hx
 obtain ⟨π,m1,m2⟩:=l2 a
 refine List.mem_flatMap.2 ⟨π,m1,?_⟩
 -- from a part at a to one of the list
 have fin:∀{M':Option Nat→Prop} {g:BFn} {j:Nat},VF X Y v M' g→(∀q,Y.sB v≤q→q < Y.eB v→2 * q+1 < t→a (2 * q+1)=X.val j q)→(fun c=>g (pfx a t c))=fun c=>g (pfx (av π j) t c):=fun {M' g j} hg h=>funext fun c=>vf_pfx hX hse heb hg (fun q hq=>by rw [av0]; exact m2 q hq) fun q q1 q2 q3=>by rw [av1]; exact h q q1 q2 q3
 have mT:∀j,j < X.E→X.lab j=v→(fun c=>gT j (pfx (av π j) t c)) ∈ F π∧(fun c=>gO j (pfx (av π j) t c)) ∈ F π:=fun j h1 h2=>by
  rw [hF]
  exact ⟨List.mem_append_left _ (List.mem_flatMap.2 ⟨j,(ons_mem hX hse heb).2 ⟨h1,h2⟩,by simp⟩),List.mem_append_left _ (List.mem_flatMap.2 ⟨j,(ons_mem hX hse heb).2 ⟨h1,h2⟩,by simp⟩)⟩
 -- the last effect from one on
 have big:∀j,(∃i,X.la v (pfx a t x)=some i∧j≤i)→∀g:BFn,(∀c,g (pfx a t c)=true↔(∃i,X.la v (pfx a t c)=some i∧j≤i)∧∀q,Y.sB v≤q→q < Y.eB v→pfx a t c (2 * q+1)=X.sv v q (pfx a t c))→(fun c=>g (pfx a t c)) ∈ F π:=fun j ⟨i,hi,hji⟩ g hg=>by
  obtain ⟨li,lv,_⟩:=X.la_some.1 hi
  have hsv:∀q,Y.sB v≤q→q < Y.eB v→2 * q+1 < t→a (2 * q+1)=X.val i q:=fun q q1 q2 q3=>by
   have:=hxo q q1 q2
   rw [pfx_in q3] at this
   rw [this]
   unfold Eff.sv
   rw [hi]
  obtain ⟨j',⟨j1,j2,j3,j4⟩,j5⟩:=least_of hX hse heb (v:=v) (P:=fun i=>∀q,Y.sB v≤q→q < Y.eB v→2 * q+1 < t→a (2 * q+1)=X.val i q) ⟨i,hji,li,lv,hsv⟩
  have:(fun c=>g (pfx a t c))=fun c=>gO j' (pfx a t c):=funext fun c=>by
   rw [Bool.eq_iff_iff,hg,hO j']
   constructor
   ·rintro ⟨⟨k,k1,k2⟩,k3⟩
    refine ⟨⟨k,k1,j5 k k2 (X.la_some.1 k1).1 (X.la_some.1 k1).2.1 fun q q1 q2 q3=>?_⟩,k3⟩
    have:=k3 q q1 q2
    rw [pfx_in q3] at this
    rw [this]
    unfold Eff.sv
    rw [k1]
   ·rintro ⟨⟨k,k1,k2⟩,k3⟩
    exact ⟨⟨k,k1,by omega⟩,k3⟩
  rw [this,fin (hO j') j4]
  exact (mT j' j2 j3).2
 have same:(∀q,Y.sB v≤q→q < Y.eB v→2 * q+1 < t→a (2 * q+1)=a (2 * q))→∀{M':Option Nat→Prop} {g:BFn},VF X Y v M' g→(fun c=>g (pfx a t c))=fun c=>g (pfx (as' π) t c):=fun h {M' g} hg=>funext fun c=>vf_pfx hX hse heb hg (fun q hq=>by rw [as0]; exact m2 q hq) fun q q1 q2 q3=>by rw [as1,h q q1 q2 q3]; exact m2 q (by omega)
 rcases hM with ⟨j,hj,hlab,rfl | rfl⟩ | rfl | rfl
 ·rw [vf_uniq hX hse heb hG (hT j),fin (hT j) fun q q1 q2 q3=>by
   have:=hxo q q1 q2
   rw [pfx_in q3] at this
   rw [this]
   unfold Eff.sv
   rw [hMx]]
  exact (mT j hj hlab).1
 ·exact big j hMx G fun c=>hG _
 ·have h:∀q,Y.sB v≤q→q < Y.eB v→2 * q+1 < t→a (2 * q+1)=a (2 * q):=fun q q1 q2 q3=>by
   have:=hxo q q1 q2
   rw [pfx_in q3] at this
   rw [this]
   unfold Eff.sv
   rw [hMx]
   exact pfx_in (by omega)
  rw [vf_uniq hX hse heb hG hN,same h hN,hF]
  exact List.mem_append_right _ (by simp)
 ·by_cases h:∀q,Y.sB v≤q→q < Y.eB v→2 * q+1 < t→a (2 * q+1)=a (2 * q)
  ·rw [vf_uniq hX hse heb hG hC,same h hC,hF]
   exact List.mem_append_right _ (by simp)
  ·have nn:∀c,G (pfx a t c)=true→∃i,X.la v (pfx a t c)=some i∧0≤i:=fun c hc=>by
    cases hla:X.la v (pfx a t c) with
    | some i=>exact ⟨i,rfl,Nat.zero_le _⟩
    | none =>
     exfalso
     refine h fun q q1 q2 q3=>?_
     have:=((hG _).1 hc).2 q q1 q2
     rw [pfx_in q3] at this
     rw [this]
     unfold Eff.sv
     rw [hla]
     exact pfx_in (by omega)
   refine big 0 (nn x hx) G fun c=>?_
   constructor
   ·intro hc
    exact ⟨nn c hc,((hG _).1 hc).2⟩
   ·intro hc
    exact (hG _).2 ⟨trivial,hc.2⟩
theorem lev_vl (hS1:∀K,PtS (relVr Y v) (2 * b) t0 K→S K) {t:Nat} (ht:t < 2 * b) (h0:t0≤t):∃L:List BFn,L.length≤2 ^ b - 2 ^ ((t+1) / 2)∧∀G,FV X Y v G→∀a,Dep (fun c=>G (pfx a t c)) t→(fun c=>G (pfx a t c)) ∈ L∨S fun c=>G (pfx a t c):=by
 obtain ⟨Λ,l1,l2⟩:=ev_reps hX hse heb t
 have hl:∀π:Nat→Bool,∃L:List BFn,L.length≤2 ^ (b - (t+1) / 2) - 1∧∀K,(∃G a M,MV X v M∧VF X Y v M G∧(∀q,2 * q < t→a (2 * q)=π (2 * q))∧K=(fun c=>G (pfx a t c))∧∃c c':Nat→Bool,K c=true∧K c'=true∧∃q,(t+1) / 2≤q∧q < b∧c (2 * q)≠c' (2 * q))→K ∈ L:=fun π=>by
  refine lam_cov _ ?_ ?_ ?_
  ·rintro K K' ⟨G,a,M,hM,hG,ha,rfl,_⟩ ⟨G',a',M',hM',hG',ha',rfl,_⟩ c c' h1 h2 hc
   have h1:G (pfx a t c)=true:=h1
   have h2:G' (pfx a' t c')=true:=h2
   show G (pfx a t c')=true
   have ev:∀q,q < b→pfx a t c (2 * q)=pfx a t c' (2 * q):=fun q hq=>pfx_ag (fun _=>rfl) fun h=>hc q (by omega) hq
   have ev':∀q,q < b→pfx a' t c' (2 * q)=pfx a t c' (2 * q):=fun q hq=>pfx_ag (fun h=>by rw [ha q h,ha' q h]) fun _=>rfl
   refine (hG _).2 ⟨by rw [←la_ev hX ev]; exact ((hG _).1 h1).1,fun q q1 q2=>?_⟩
   by_cases h5:2 * q+1 < t
   ·have:=((hG _).1 h1).2 q q1 q2
    rw [pfx_in h5] at this
    rw [pfx_in h5,this]
    exact sv_ev hX (by omega) ev
   ·have:=((hG' _).1 h2).2 q q1 q2
    rw [pfx_out (by omega)] at this
    rw [pfx_out (by omega),this]
    exact sv_ev hX (by omega) ev'
  ·rintro K K' ⟨G,a,M,hM,hG,ha,rfl,_⟩ ⟨G',a',M',hM',hG',ha',rfl,_⟩
   by_cases hx:∃c,G (pfx a t c)=true∧G' (pfx a' t c)=true
   ·obtain ⟨x,x1,x2⟩:=hx
    have eo:∀q,Y.sB v≤q→q < Y.eB v→2 * q+1 < t→a (2 * q+1)=a' (2 * q+1):=fun q q1 q2 q3=>by
     have:=vf_det hX hse heb hG hG' x1 x2 (fun q _=>pfx_ag (fun h=>by rw [ha q h,ha' q h]) fun _=>rfl) q q1 q2
     rwa [pfx_in q3,pfx_in q3] at this
    have e2:∀c,G' (pfx a' t c)=G' (pfx a t c):=fun c=>vf_pfx hX hse heb hG' (fun q hq=>by rw [ha q hq,ha' q hq]) fun q q1 q2 q3=>(eo q q1 q2 q3).symm
    rcases mv_lam hM hM' with h | h | h
    ·exact .inl fun c hc=>by
      show G' (pfx a' t c)=true
      rw [e2,hG']
      obtain ⟨u1,u2⟩:=(hG _).1 hc
      exact ⟨h _ u1,u2⟩
    ·refine .inr (.inl fun c hc=>?_)
     have hc:G' (pfx a' t c)=true:=hc
     rw [e2,hG'] at hc
     show G (pfx a t c)=true
     exact (hG _).2 ⟨h _ hc.1,hc.2⟩
    ·exfalso
     rw [e2,hG'] at x2
     exact h _ ⟨((hG _).1 x1).1,x2.1⟩
   ·exact .inr (.inr fun c hc=>hx ⟨c,hc⟩)
  ·rintro K ⟨G,a,M,hM,hG,ha,e,h⟩
   exact h
 obtain ⟨L,hL⟩:=Classical.skolem.1 hl
 refine ⟨Λ.flatMap L,?_,fun G ⟨M,hM,hG⟩ a hd=>?_⟩
 ·refine Nat.le_trans (len_flat L _ (fun π=>(hL π).1) Λ) (Nat.le_trans (Nat.mul_le_mul_right _ l1) (Nat.le_of_eq ?_))
  rw [Nat.mul_sub,Nat.mul_one,←Nat.pow_add,show (t+1) / 2+(b - (t+1) / 2)=b by omega]
 ·obtain ⟨π,m1,m2⟩:=l2 a
  by_cases h2:∃c c':Nat→Bool,G (pfx a t c)=true∧G (pfx a t c')=true∧∃q,(t+1) / 2≤q∧q < b∧c (2 * q)≠c' (2 * q)
  ·exact .inl (List.mem_flatMap.2 ⟨π,m1,(hL π).2 _ ⟨G,a,M,hM,hG,m2,rfl,h2⟩⟩)
  ·obtain ⟨x,hx⟩:=dep_true hd
   exact .inr (hS1 _ ⟨t,x,h0,by omega,vf_one hX hse heb hG hx h2⟩)
theorem lev_va (hv:∃j,j < X.E∧X.lab j=v) (hS0:∀K:BFn,(∀a c:Nat→Bool,(∀p,b - 3≤p→p < b→a (2 * p)=c (2 * p))→K a=K c)→S K) {t:Nat} (ht:2 * Y.eB v≤t) :
  ∃L:List BFn,L.length≤(if t % 2=0∧t < 2 * (b - 3) then min (2 ^ (t / 2)) (X.cnt v 0 * 2 ^ X.cnt v 0) else 0)∧∀G,FV X Y v G→∀a,Dep (fun c=>G (pfx a t c)) t→(fun c=>G (pfx a t c)) ∈ L∨S (fun c=>G (pfx a t c))∨∃g,FX X Y g∧(fun c=>G (pfx a t c))=fun c=>g (pfx a t c):=by
 have only:∀{M:Option Nat→Prop} {G:BFn},VF X Y v M G→∀{a c c':Nat→Bool},(∀q,t≤2 * q→q < b→c (2 * q)=c' (2 * q))→G (pfx a t c)=G (pfx a t c'):=fun {M G} hG {a c c'} h=>vf_fin hX hse heb hG fun i i1 i2 i3=>by
  rcases Nat.mod_two_eq_zero_or_one i with h0 | h0
  ·have:=h (i / 2) (by omega) (by omega)
   rwa [show 2 * (i / 2)=i by omega] at this
  ·have:=relVr_od hX hse heb h0 i3
   omega
 have nd:∀{M:Option Nat→Prop} {G:BFn},VF X Y v M G→∀{a},Dep (fun c=>G (pfx a t c)) t→t % 2=0:=fun {M G} hG {a} ⟨x,hx⟩=>Classical.byContradiction fun ho=>hx (only hG fun q q1 _=>by rw [upd_ne (by omega),upd_ne (by omega)])
 by_cases hc:t % 2=0∧t < 2 * (b - 3)
 rotate_left
 ·rw [if_neg hc]
  refine ⟨[],by simp,fun G ⟨M,hM,hG⟩ a hd=>.inr (.inl (hS0 _ fun x y hxy=>only hG fun q q1 q2=>hxy q ?_ q2))⟩
  have:=nd hG hd
  have:¬t < 2 * (b - 3):=fun h=>hc ⟨this,h⟩
  omega
 rw [if_pos hc]
 -- what an assignment's part means
 obtain ⟨gC,hC⟩:=ex_vf hX hse heb (v:=v) (Y:=Y) (fun _=>True)
 obtain ⟨j0,⟨_,j01,j02,_⟩,j03⟩:=least_of hX hse heb (v:=v) (j:=0) (P:=fun _=>True) (by obtain ⟨j,h1,h2⟩:=hv; exact ⟨j,Nat.zero_le _,h1,h2,trivial⟩)
 obtain ⟨gN,hN⟩:=ex_fn fun a=>∀i,X.la (X.lab j0) a=some i→i < j0
 have fN:FX X Y gN:=⟨j0,j01,.inr (.inl hN)⟩
 have eN:∀a,gN a=true↔X.la v a=none:=fun a=>by
  rw [hN,j02]
  constructor
  ·intro h
   cases hla:X.la v a with
   | none=>rfl
   | some i =>
    have h1:=h i hla
    obtain ⟨h2,h3,_⟩:=X.la_some.1 hla
    have:=j03 i (Nat.zero_le _) h2 h3 trivial
    omega
  ·intro h i hi
   rw [h] at hi
   cases hi
 -- those with a last effect
 have big:∀a j,∀g:BFn,(∃c,g (pfx a t c)=true)→(∀c,g (pfx a t c)=true↔(∃i,X.la v (pfx a t c)=some i∧j≤i)∧∀q,Y.sB v≤q→q < Y.eB v→pfx a t c (2 * q+1)=X.sv v q (pfx a t c))→∃g',FX X Y g'∧(fun c=>g (pfx a t c))=fun c=>g' (pfx a t c):=fun a j g ⟨x,hx⟩ hg=>by
  obtain ⟨⟨i,hi,hji⟩,hxo⟩:=(hg x).1 hx
  obtain ⟨li,lv,_⟩:=X.la_some.1 hi
  have hsv:∀{c:Nat→Bool} {i:Nat},X.la v (pfx a t c)=some i→((∀q,Y.sB v≤q→q < Y.eB v→pfx a t c (2 * q+1)=X.sv v q (pfx a t c))↔∀q,Y.sB v≤q→q < Y.eB v→a (2 * q+1)=X.val i q):=fun {c i} hi=>by
   constructor
   ·intro h q q1 q2
    have:=h q q1 q2
    rw [pfx_in (by omega)] at this
    rw [this]
    unfold Eff.sv
    rw [hi]
   ·intro h q q1 q2
    rw [pfx_in (by omega),h q q1 q2]
    unfold Eff.sv
    rw [hi]
  obtain ⟨j',⟨j1,j2,j3,j4⟩,j5⟩:=least_of hX hse heb (v:=v) (P:=fun i=>∀q,Y.sB v≤q→q < Y.eB v→a (2 * q+1)=X.val i q) ⟨i,hji,li,lv,(hsv hi).1 hxo⟩
  obtain ⟨g',hg'⟩:=ex_fn fun a=>∃i,X.la (X.lab j') a=some i∧j'≤i∧∀q,Y.sB (X.lab j')≤q→q < Y.eB (X.lab j')→X.val i q=X.val j' q
  refine ⟨g',⟨j',j2,.inr (.inr hg')⟩,funext fun c=>?_⟩
  rw [Bool.eq_iff_iff,hg,hg',j3]
  constructor
  ·rintro ⟨⟨k,k1,k2⟩,k3⟩
   have k4:=(hsv k1).1 k3
   exact ⟨k,k1,j5 k k2 (X.la_some.1 k1).1 (X.la_some.1 k1).2.1 k4,fun q q1 q2=>by rw [←k4 q q1 q2,j4 q q1 q2]⟩
  ·rintro ⟨k,k1,k2,k3⟩
   exact ⟨⟨k,k1,by omega⟩,(hsv k1).2 fun q q1 q2=>by rw [j4 q q1 q2,k3 q q1 q2]⟩
 -- the functions in which the variable keeps its value,too
 have U:∃L:List BFn,L.length≤min (2 ^ (t / 2)) (X.cnt v 0 * 2 ^ X.cnt v 0)∧∀a,(∀q,Y.sB v≤q→q < Y.eB v→a (2 * q+1)=a (2 * q))→(fun c=>gC (pfx a t c)) ∈ L∨(fun c=>gC (pfx a t c))=fun c=>gN (pfx a t c):=by
  by_cases hm:2 ^ (t / 2)≤X.cnt v 0 * 2 ^ X.cnt v 0
  ·rw [Nat.min_eq_left hm]
   obtain ⟨Λ,l1,l2⟩:=ev_reps hX hse heb t
   rw [show (t+1) / 2=t / 2 by omega] at l1
   refine ⟨Λ.map fun π=>fun c=>gC (pfx (fun i=>if i % 2=0 then π i else π (i - 1)) t c),by rw [List.length_map]; exact l1,fun a ha=>.inl ?_⟩
   obtain ⟨π,m1,m2⟩:=l2 a
   refine List.mem_map.2 ⟨π,m1,funext fun c=>(vf_pfx hX hse heb hC (fun q hq=>?_) fun q q1 q2 q3=>?_).symm⟩
   ·show a (2 * q)=(if 2 * q % 2=0 then π (2 * q) else _)
    rw [if_pos (by omega)]
    exact m2 q hq
   ·show a (2 * q+1)=(if (2 * q+1) % 2=0 then _ else π (2 * q+1 - 1))
    rw [if_neg (by omega),show 2 * q+1 - 1=2 * q by omega,ha q q1 q2]
    exact m2 q (by omega)
  ·rw [Nat.min_eq_right (by omega)]
   have hl:∀j,∃(L:List BFn) (u:BFn),L.length≤2 ^ X.cnt v 0∧(∀a,u a=true↔X.la v a=none∨∃i,X.la v a=some i∧∀q,Y.sB v≤q→q < Y.eB v→X.val i q=X.val j q)∧∀a,(fun c=>u (pfx a t c)) ∈ L:=fun j=>by
    obtain ⟨u,hu⟩:=ex_fn fun a=>X.la v a=none∨∃i,X.la v a=some i∧∀q,Y.sB v≤q→q < Y.eB v→X.val i q=X.val j q
    obtain ⟨L,l1,l2⟩:=key_at hX (t:=t) (v:=v) (j:=0) u fun a a' c h=>by
     have e:=X.la_eq (v:=v) (a:=pfx a t c) (a':=pfx a' t c) fun i h1 h2=>h i (Nat.zero_le _) h1 h2
     rw [Bool.eq_iff_iff,hu,hu,e]
    exact ⟨L,u,Nat.le_trans l1 (Nat.min_le_right _ _),hu,l2⟩
   obtain ⟨L,hL⟩:=Classical.skolem.1 hl
   refine ⟨((List.range X.E).filter fun i=>decide (0≤i) && decide (X.lab i=v)).flatMap L,len_flat L _ (fun j=>by obtain ⟨u,h,_⟩:=hL j; exact h) _,fun a ha=>?_⟩
   have mean:∀c,gC (pfx a t c)=true↔X.la v (pfx a t c)=none∨∃i,X.la v (pfx a t c)=some i∧∀q,Y.sB v≤q→q < Y.eB v→X.val i q=a (2 * q):=fun c=>by
    rw [hC]
    constructor
    ·rintro ⟨_,h⟩
     cases hla:X.la v (pfx a t c) with
     | none=>exact .inl rfl
     | some i =>
      refine .inr ⟨i,rfl,fun q q1 q2=>?_⟩
      have:=h q q1 q2
      rw [pfx_in (by omega),ha q q1 q2] at this
      rw [this]
      unfold Eff.sv
      rw [hla]
    ·intro h
     refine ⟨trivial,fun q q1 q2=>?_⟩
     rw [pfx_in (by omega),ha q q1 q2]
     unfold Eff.sv
     rcases h with h | ⟨i,h,h2⟩
     ·rw [h]
      exact (pfx_in (by omega)).symm
     ·rw [h]
      exact (h2 q q1 q2).symm
   by_cases hj:∃j,j < X.E∧X.lab j=v∧∀q,Y.sB v≤q→q < Y.eB v→X.val j q=a (2 * q)
   ·obtain ⟨j,h1,h2,h3⟩:=hj
    obtain ⟨u,_,hu,hm⟩:=hL j
    refine .inl (List.mem_flatMap.2 ⟨j,(ons_mem hX hse heb).2 ⟨h1,h2⟩,?_⟩)
    have:(fun c=>gC (pfx a t c))=fun c=>u (pfx a t c):=funext fun c=>by
     rw [Bool.eq_iff_iff,mean,hu]
     refine or_congr Iff.rfl ⟨fun ⟨i,i1,i2⟩=>⟨i,i1,fun q q1 q2=>by rw [i2 q q1 q2,h3 q q1 q2]⟩,fun ⟨i,i1,i2⟩=>⟨i,i1,fun q q1 q2=>by rw [i2 q q1 q2,h3 q q1 q2]⟩⟩
    rw [this]
    exact hm a
   ·refine .inr (funext fun c=>?_)
    rw [Bool.eq_iff_iff,mean,eN]
    constructor
    ·rintro (h | ⟨i,i1,i2⟩)
     ·exact h
     ·exact absurd ⟨i,(X.la_some.1 i1).1,(X.la_some.1 i1).2.1,i2⟩ hj
    ·exact .inl
 obtain ⟨L,l1,l2⟩:=U
 refine ⟨L,l1,fun G ⟨M,hM,hG⟩ a hd=>?_⟩
 obtain ⟨x,hx⟩:=dep_true hd
 rcases hM with ⟨j,hj,hlab,rfl | rfl⟩ | rfl | rfl
 · -- one effect
  obtain ⟨hMx,hxo⟩:=(hG _).1 hx
  obtain ⟨g,hg⟩:=ex_fn fun a=>X.la (X.lab j) a=some j
  refine .inr (.inr ⟨g,⟨j,hj,.inl hg⟩,funext fun c=>?_⟩)
  rw [Bool.eq_iff_iff,hG,hg,hlab]
  refine ⟨fun h=>h.1,fun h=>⟨h,fun q q1 q2=>?_⟩⟩
  have:=hxo q q1 q2
  unfold Eff.sv at this ⊢
  rw [hMx,pfx_in (by omega)] at this
  rw [h,pfx_in (by omega)]
  exact this
 ·exact .inr (.inr (big a j G ⟨x,hx⟩ fun c=>hG _))
 ·obtain ⟨hMx,hxo⟩:=(hG _).1 hx
  refine .inr (.inr ⟨gN,fN,funext fun c=>?_⟩)
  rw [Bool.eq_iff_iff,hG,eN]
  refine ⟨fun h=>h.1,fun h=>⟨h,fun q q1 q2=>?_⟩⟩
  have:=hxo q q1 q2
  unfold Eff.sv at this ⊢
  rw [hMx,pfx_in (by omega),pfx_in (by omega)] at this
  rw [h,pfx_in (by omega),pfx_in (by omega)]
  exact this
 ·rw [vf_uniq hX hse heb hG hC]
  by_cases h:∀q,Y.sB v≤q→q < Y.eB v→a (2 * q+1)=a (2 * q)
  ·rcases l2 a h with h1 | h1
   ·exact .inl h1
   ·exact .inr (.inr ⟨gN,fN,h1⟩)
  ·rw [vf_uniq hX hse heb hG hC] at hx
   refine .inr (.inr (big a 0 gC ⟨x,hx⟩ fun c=>?_))
   rw [hC]
   constructor
   ·rintro ⟨_,h3⟩
    cases hla:X.la v (pfx a t c) with
    | some i=>exact ⟨⟨i,rfl,Nat.zero_le _⟩,h3⟩
    | none =>
     exfalso
     refine h fun q q1 q2=>?_
     have:=h3 q q1 q2
     unfold Eff.sv at this
     rw [hla,pfx_in (by omega),pfx_in (by omega)] at this
     exact this
   ·rintro ⟨_,h3⟩
    exact ⟨trivial,h3⟩
theorem lev_v (hv:∃j,j < X.E∧X.lab j=v) (hS0:∀K:BFn,(∀a c:Nat→Bool,(∀p,b - 3≤p→p < b→a (2 * p)=c (2 * p))→K a=K c)→S K) (hS1:∀K,PtS (relVr Y v) (2 * b) t0 K→S K) (hS2:∀K,DetS (relVr Y v) (2 * b) t1 K→S K) {t:Nat} (ht:t < 2 * b) :
  ∃L:List BFn,L.length≤vM X Y b t0 t1 v t∧∀G,FV X Y v G→∀a,Dep (fun c=>G (pfx a t c)) t→(fun c=>G (pfx a t c)) ∈ L∨S (fun c=>G (pfx a t c))∨∃g,FX X Y g∧(fun c=>G (pfx a t c))=fun c=>g (pfx a t c):=by
 unfold vM
 by_cases h1:t1≤t
 ·rw [if_pos h1]
  exact ⟨[],Nat.zero_le _,fun G ⟨M,hM,hG⟩ a _=>.inr (.inl (hS2 _ ⟨t,h1,vf_detA hX hse heb hG t a⟩))⟩
 rw [if_neg h1]
 by_cases h2:t≤2 * Y.sB v
 ·rw [if_pos h2]
  obtain ⟨L,a1,a2⟩:=lev_vb hX hse heb h2
  exact ⟨L,a1,fun G hG a hd=>.inl (a2 G hG a hd)⟩
 rw [if_neg h2]
 by_cases h3:t < 2 * Y.eB v
 ·rw [if_pos h3]
  by_cases h0:t < t0
  ·rw [if_pos h0]
   obtain ⟨L,a1,a2⟩:=lev_vi hX hse heb hv t
   exact ⟨L,a1,fun G hG a hd=>.inl (a2 G hG a hd)⟩
  ·rw [if_neg h0]
   by_cases hm:(2 * X.cnt v 0+2) * 2 ^ ((t+1) / 2)≤2 ^ b - 2 ^ ((t+1) / 2)
   ·obtain ⟨L,a1,a2⟩:=lev_vi hX hse heb hv t
    exact ⟨L,by rw [Nat.min_eq_left hm]; exact a1,fun G hG a hd=>.inl (a2 G hG a hd)⟩
   ·obtain ⟨L,a1,a2⟩:=lev_vl hX hse heb hS1 ht (by omega)
    exact ⟨L,by rw [Nat.min_eq_right (by omega)]; exact a1,fun G hG a hd=>(a2 G hG a hd).imp id .inl⟩
 ·rw [if_neg h3]
  exact lev_va hX hse heb hv hS0 (by omega)
end
end Go.Sy
end
section
namespace Go.Sy
open Go.Bd
def sm (n:Nat) (f:Nat→Nat):Nat:=((List.range n).map f).sum
theorem sm_zero (f:Nat→Nat):sm 0 f=0:=rfl
theorem sm_succ (n:Nat) (f:Nat→Nat):sm (n+1) f=sm n f+f n:=by
 unfold sm
 rw [List.range_succ,List.map_append,List.sum_append]
 simp
theorem sm_le {f g:Nat→Nat}:∀{n:Nat},(∀i,i < n→f i≤g i)→sm n f≤sm n g
 | 0,_=>Nat.le_refl _
 | n+1,h=>by
  rw [sm_succ,sm_succ]
  exact Nat.add_le_add (sm_le fun i hi=>h i (by omega)) (h n (by omega))
theorem sm_congr {f g:Nat→Nat}:∀{n:Nat},(∀i,i < n→f i=g i)→sm n f=sm n g
 | 0,_=>rfl
 | n+1,h=>by rw [sm_succ,sm_succ,sm_congr fun i hi=>h i (by omega),h n (by omega)]
theorem sm_add {f g:Nat→Nat}:∀n:Nat,sm n (fun i=>f i+g i)=sm n f+sm n g
 | 0=>rfl
 | n+1=>by rw [sm_succ,sm_succ,sm_succ,sm_add n]; omega
theorem sm_const (c:Nat):∀n:Nat,sm n (fun _=>c)=n * c
 | 0=>by simp [sm]
 | n+1=>by rw [sm_succ,sm_const c n,Nat.succ_mul]
theorem sm_mul (c:Nat) {f:Nat→Nat}:∀n:Nat,sm n (fun i=>c * f i)=c * sm n f
 | 0=>by simp [sm]
 | n+1=>by rw [sm_succ,sm_succ,sm_mul c n,Nat.mul_add]
theorem sm_mono {f:Nat→Nat} {n m:Nat} (h:n≤m):sm n f≤sm m f:=by
 obtain ⟨d,rfl⟩:∃d,m=n+d:=⟨m - n,by omega⟩
 induction d with
 | zero=>exact Nat.le_refl _
 | succ d ih=>rw [←Nat.add_assoc,sm_succ]; have:=ih (by omega); omega
theorem sm_swap {f:Nat→Nat→Nat} (m:Nat):∀n:Nat,sm n (fun i=>sm m fun j=>f i j)=sm m fun j=>sm n fun i=>f i j
 | 0=>by rw [sm_zero]; exact (sm_congr fun i _=>sm_zero _).trans ((sm_const 0 m).trans (Nat.mul_zero _)) |>.symm
 | n+1=>by
  rw [sm_succ,sm_swap m n,←sm_add]
  exact sm_congr fun j _=>(sm_succ n fun i=>f i j).symm
theorem sm_one {x c:Nat}:∀{n:Nat},x < n→sm n (fun i=>if i=x then c else 0)=c
 | 0,h=>by omega
 | n+1,h=>by
  rw [sm_succ]
  by_cases e:n=x
  ·subst e
   rw [if_pos rfl,sm_congr (g:=fun _=>0) fun i hi=>if_neg (by omega),sm_const]
   omega
  ·rw [if_neg e,sm_one (by omega)]
   omega
theorem sm_pos {f:Nat→Nat} {x:Nat}:∀{n:Nat},x < n→f x≤sm n f
 | 0,h=>by omega
 | n+1,h=>by
  rw [sm_succ]
  by_cases e:n=x
  ·subst e; omega
  ·have:=sm_pos (f:=f) (show x < n by omega); omega
def smD (E:Nat) (f:Nat→Nat):Nat→Nat
 | 0=>0
 | d+1=>smD E f d+f (E - 1 - d)
theorem sm_smD (E:Nat) (f:Nat→Nat):∀d,d≤E→sm E f=sm (E - d) f+smD E f d
 | 0,_=>by simp [smD]
 | d+1,h=>by
  have h1:=sm_smD E f d (by omega)
  have h2:=sm_succ (E - (d+1)) f
  rw [show E - (d+1)+1=E - d by omega] at h2
  have h3:smD E f (d+1)=smD E f d+f (E - (d+1)):=by rw [show E - (d+1)=E - 1 - d by omega]; rfl
  omega
section
variable (X:Eff)
def Eff.cq (q:Nat→Bool) (j:Nat):Nat:=((List.range X.E).filter fun i=>decide (j≤i) && q (X.lab i)).length
theorem cnt_le_cq {q:Nat→Bool} {v j:Nat} (hv:q v=true):X.cnt v j≤X.cq q j:=by
 unfold Eff.cnt Eff.cq
 rw [←List.countP_eq_length_filter,←List.countP_eq_length_filter]
 refine List.countP_mono_left fun i _ h=>?_
 simp only [Bool.and_eq_true,decide_eq_true_eq] at h ⊢
 exact ⟨h.1,by rw [h.2]; exact hv⟩
theorem len_filt (p:Nat→Bool):∀n,((List.range n).filter p).length=sm n fun i=>if p i=true then 1 else 0
 | 0=>rfl
 | n+1=>by
  rw [List.range_succ,List.filter_append,List.length_append,len_filt p n,sm_succ]
  by_cases h:p n=true
  ·simp [h]
  ·simp [h]
theorem cq_step {q:Nat→Bool} {j:Nat} (hj:j < X.E):X.cq q j=X.cq q (j+1)+if q (X.lab j)=true then 1 else 0:=by
 unfold Eff.cq
 rw [len_filt,len_filt]
 have e:∀i,i < X.E→(if (decide (j≤i) && q (X.lab i))=true then 1 else 0)=(if (decide (j+1≤i) && q (X.lab i))=true then 1 else 0)+if i=j then (if q (X.lab j)=true then 1 else 0) else 0:=fun i _=>by
  by_cases h:i=j
  ·subst h
   rw [decide_eq_true (Nat.le_refl i),decide_eq_false (show ¬i+1≤i by omega),if_pos rfl]
   simp
  ·rw [if_neg h,Nat.add_zero]
   have:decide (j≤i)=decide (j+1≤i):=by rw [decide_eq_decide]; omega
   rw [this]
 rw [sm_congr e,sm_add,sm_one hj]
theorem lab_sum {φ:Nat→Nat} (hφ:∀i j,i≤j→φ i≤φ j) (q:Nat→Bool):sm X.E (fun j=>if q (X.lab j)=true then φ (X.cnt (X.lab j) j) else 0)≤sm (X.cq q 0) fun i=>φ (i+1):=by
 have key:∀d,d≤X.E→smD X.E (fun j=>if q (X.lab j)=true then φ (X.cnt (X.lab j) j) else 0) d≤sm (X.cq q (X.E - d)) fun i=>φ (i+1):=fun d=>by
  induction d with
  | zero=>exact fun _=>Nat.zero_le _
  | succ d ih =>
   intro hd
   have ih:=ih (by omega)
   unfold smD
   have e1:=cq_step X (q:=q) (j:=X.E - (d+1)) (by omega)
   rw [show X.E - (d+1)+1=X.E - d by omega] at e1
   rw [show X.E - 1 - d=X.E - (d+1) by omega]
   by_cases h:q (X.lab (X.E - (d+1)))=true
   ·rw [if_pos h] at e1 ⊢
    rw [e1,sm_succ]
    have h2:=cnt_le_cq X (j:=X.E - (d+1)) h
    rw [e1] at h2
    exact Nat.add_le_add ih (hφ _ _ h2)
   ·rw [if_neg h] at e1 ⊢
    rw [e1]
    omega
 have:=key X.E (Nat.le_refl _)
 rw [sm_smD X.E _ X.E (Nat.le_refl _),Nat.sub_self,sm_zero,Nat.zero_add]
 rwa [Nat.sub_self] at this
theorem cq_not {v:Nat}:X.cq (fun u=>!decide (u=v)) 0+X.cnt v 0=X.E:=by
 unfold Eff.cq Eff.cnt
 rw [len_filt,len_filt,←sm_add]
 refine (sm_congr (g:=fun _=>1) fun i _=>?_).trans (by rw [sm_const]; omega)
 by_cases h:X.lab i=v
 ·simp [h]
 ·simp [h]
theorem cq_all:X.cq (fun _=>true) 0=X.E:=by
 unfold Eff.cq
 rw [len_filt]
 exact (sm_congr (g:=fun _=>1) fun i _=>by simp).trans (by rw [sm_const]; omega)
theorem cnt_le (v:Nat):X.cnt v 0≤X.E:=by have:=cq_not X (v:=v); omega
theorem cnt_pos {v:Nat}:0 < X.cnt v 0↔∃j,j < X.E∧X.lab j=v:=by
 unfold Eff.cnt
 rw [List.length_pos_iff_exists_mem]
 constructor
 ·rintro ⟨j,hj⟩
  rw [List.mem_filter,List.mem_range] at hj
  exact ⟨j,hj.1,by simpa using hj.2⟩
 ·rintro ⟨j,h1,h2⟩
  exact ⟨j,List.mem_filter.2 ⟨List.mem_range.2 h1,by simp [h2]⟩⟩
theorem cnt_sum (v c:Nat):sm X.E (fun j=>if X.lab j=v then c else 0)=X.cnt v 0 * c:=by
 unfold Eff.cnt
 rw [len_filt,Nat.mul_comm,←sm_mul]
 exact sm_congr fun i _=>by
  by_cases h:X.lab i=v
  ·simp [h]
  ·simp [h]
end
def fT (t i:Nat):Nat:=min (2 ^ ((t+1) / 2)) (2 ^ i)
def uT (b t:Nat):Nat:=if t < 2 * (b - 3) then (2 ^ (t / 2)+3) / 4+8 else 0
def phT (b t i:Nat):Nat:=max (4 * fT t i) (uT b t)
def inT (b t0 t e:Nat):Nat:=if e=0 then 0 else if t < t0 then (2 * e+2) * 2 ^ ((t+1) / 2) else min ((2 * e+2) * 2 ^ ((t+1) / 2)) (2 ^ b - 2 ^ ((t+1) / 2))
def mx (f:Nat→Nat):Nat→Nat
 | 0=>f 0
 | n+1=>max (mx f n) (f (n+1))
theorem le_mx {f:Nat→Nat} {i:Nat}:∀{n:Nat},i≤n→f i≤mx f n
 | 0,h=>by
  have:i=0:=by omega
  subst this; exact Nat.le_refl _
 | n+1,h=>by
  unfold mx
  by_cases e:i=n+1
  ·subst e; exact Nat.le_max_right _ _
  ·exact Nat.le_trans (le_mx (by omega)) (Nat.le_max_left _ _)
def opM (b t0 t1 t:Nat):Nat:=(if t % 2=0∧t < 2 * (b - 3) then 3 * sm 8 fun i=>fT t (i+1) else 0) +
 if t1≤t then 0 else if t % 2=0 then mx (fun e=>inT b t0 t e+sm (8 - e) fun i=>phT b t (i+1)) 8 else inT b t0 t 8
theorem fT_mono {t i j:Nat} (h:i≤j):fT t i≤fT t j:=by
 unfold fT
 have:=Nat.pow_le_pow_right (show 0 < 2 by omega) h
 omega
theorem phT_mono {b t i j:Nat} (h:i≤j):phT b t i≤phT b t j:=by
 unfold phT
 have:=fT_mono (t:=t) h
 omega
theorem inT_mono {b t0 t e e':Nat} (h:e≤e'):inT b t0 t e≤inT b t0 t e':=by
 unfold inT
 by_cases h0:e=0
 ·rw [if_pos h0]; exact Nat.zero_le _
 ·have h0':¬e'=0:=by omega
  rw [if_neg h0,if_neg h0']
  have:(2 * e+2) * 2 ^ ((t+1) / 2)≤(2 * e'+2) * 2 ^ ((t+1) / 2):=Nat.mul_le_mul_right _ (by omega)
  split
  ·exact this
  ·omega
structure BtsOk (Y:Bts) (b V:Nat):Prop where
 le:∀v,v < V→Y.sB v≤Y.eB v∧Y.eB v≤b
 ord:∀v u,v < u→u < V→Y.eB v≤Y.sB u
section
variable {X:Eff} {Y:Bts} {b t0 t1 V t:Nat} (hY:BtsOk Y b V) (hlab:∀j,j < X.E→X.lab j < V) (hE:X.E≤8)
include hY hlab hE
theorem xM_le:xM X b t≤if t % 2=0∧t < 2 * (b - 3) then 3 * sm 8 (fun i=>fT t (i+1)) else 0:=by
 unfold xM
 by_cases h:t % 2=0∧t < 2 * (b - 3)
 ·rw [if_pos h,if_pos h]
  have h1:=lab_sum X (φ:=fun i=>fT t i) (fun i j=>fT_mono) fun _=>true
  simp only [if_true] at h1
  rw [cq_all] at h1
  have h2:((List.range X.E).map fun j=>3 * kN X t (X.lab j) j).sum=3 * sm X.E fun j=>fT t (X.cnt (X.lab j) j):=sm_mul 3 X.E
  rw [h2]
  exact Nat.mul_le_mul_left _ (Nat.le_trans h1 (sm_mono hE))
 ·rw [if_neg h,if_neg h]; exact Nat.le_refl _
theorem in_one {v u:Nat} (hv:v < V) (hu:u < V) (h1:¬t≤2 * Y.sB v) (h2:t < 2 * Y.eB v) (h3:¬t≤2 * Y.sB u) (h4:t < 2 * Y.eB u):v=u:=by
 rcases Nat.lt_trichotomy v u with h | h | h
 ·have:=hY.ord v u h hu; omega
 ·exact h
 ·have:=hY.ord u v h hv; omega
theorem vM_out {v:Nat} (h:¬(¬t≤2 * Y.sB v∧t < 2 * Y.eB v)) (hc:0 < X.cnt v 0) (he:t % 2=0):vM X Y b t0 t1 v t≤sm X.E fun j=>if X.lab j=v then phT b t (X.cnt (X.lab j) j) else 0:=by
 unfold vM
 by_cases h1:t1≤t
 ·rw [if_pos h1]; exact Nat.zero_le _
 rw [if_neg h1]
 by_cases h2:t≤2 * Y.sB v
 ·rw [if_pos h2,if_pos he]
  -- the first of its effects has as many as all
  obtain ⟨j,⟨hj,hl⟩,hmin⟩:=ex_min (fun j=>j < X.E∧X.lab j=v) ((cnt_pos X).1 hc)
  have e:X.cnt v j=X.cnt v 0:=by
   unfold Eff.cnt
   congr 1
   refine List.filter_congr fun i hi=>?_
   by_cases h:X.lab i=v
   ·have:¬i < j:=fun hlt=>hmin i hlt ⟨List.mem_range.1 hi,h⟩
    simp [h]; omega
   ·simp [h]
  have h3:2 * kN X t v 0≤sm X.E fun j=>if X.lab j=v then 2 * kN X t v j else 0:=by
   have:=sm_pos (f:=fun j=>if X.lab j=v then 2 * kN X t v j else 0) hj
   simp only [hl,if_true] at this
   unfold kN at this ⊢
   rw [e] at this
   exact this
  have h4:(sm X.E fun j=>if X.lab j=v then 2 * kN X t v j else 0)+(sm X.E fun j=>if X.lab j=v then 2 * kN X t v j else 0)≤sm X.E fun j=>if X.lab j=v then phT b t (X.cnt (X.lab j) j) else 0:=by
   rw [←sm_add]
   refine sm_le fun j _=>?_
   by_cases hv:X.lab j=v
   ·rw [if_pos hv,if_pos hv,hv]
    unfold kN phT fT
    omega
   ·rw [if_neg hv,if_neg hv]; exact Nat.le_refl _
  have h5:((List.range X.E).map fun j=>if X.lab j=v then 2 * kN X t v j else 0).sum=sm X.E fun j=>if X.lab j=v then 2 * kN X t v j else 0:=rfl
  omega
 ·rw [if_neg h2,if_neg (fun h3=>h ⟨h2,h3⟩)]
  by_cases h3:t % 2=0∧t < 2 * (b - 3)
  ·rw [if_pos h3]
   have h4:X.cnt v 0 * uT b t≤sm X.E fun j=>if X.lab j=v then phT b t (X.cnt (X.lab j) j) else 0:=by
    rw [←cnt_sum]
    refine sm_le fun j _=>?_
    by_cases hv:X.lab j=v
    ·rw [if_pos hv,if_pos hv]; exact Nat.le_max_right _ _
    ·rw [if_neg hv,if_neg hv]; exact Nat.le_refl _
   refine Nat.le_trans ?_ h4
   have hu:uT b t=(2 ^ (t / 2)+3) / 4+8:=by unfold uT; rw [if_pos h3.2]
   rw [hu]
   obtain ⟨c,hcc⟩:∃c,c=X.cnt v 0:=⟨_,rfl⟩
   obtain ⟨P,hP⟩:∃P,P=2 ^ (t / 2):=⟨_,rfl⟩
   rw [←hcc,←hP]
   by_cases h5:c≤3
   ·have h6:2 ^ c≤8:=Nat.pow_le_pow_right (show 0 < 2 by omega) h5
    have h7:c * 2 ^ c≤c * 8:=Nat.mul_le_mul_left _ h6
    have h8:c * 8≤c * ((P+3) / 4+8):=Nat.mul_le_mul_left _ (by omega)
    omega
   ·have h6:4 * ((P+3) / 4+8)≤c * ((P+3) / 4+8):=Nat.mul_le_mul_right _ (by omega)
    omega
  ·rw [if_neg h3]; exact Nat.zero_le _
theorem vM_in {v:Nat} (h1:¬t≤2 * Y.sB v) (h2:t < 2 * Y.eB v) (hc:0 < X.cnt v 0):vM X Y b t0 t1 v t≤inT b t0 t (X.cnt v 0):=by
 unfold vM inT
 have hc0:¬X.cnt v 0=0:=by omega
 rw [if_neg h1,if_pos h2,if_neg hc0]
 split
 ·exact Nat.zero_le _
 ·exact Nat.le_refl _
theorem opM_le:xM X b t+sm V (fun v=>if 0 < X.cnt v 0 then vM X Y b t0 t1 v t else 0)≤opM b t0 t1 t:=by
 unfold opM
 refine Nat.add_le_add (xM_le hY hlab hE) ?_
 by_cases h1:t1≤t
 ·rw [if_pos h1]
  refine Nat.le_of_eq ((sm_congr (g:=fun _=>0) fun v _=>?_).trans (by rw [sm_const]; omega))
  unfold vM
  rw [if_pos h1]
  split <;> rfl
 rw [if_neg h1]
 by_cases he:t % 2=0
 ·rw [if_pos he]
  -- the terms of all variables but one
  have out:∀q:Nat→Bool,sm V (fun v=>if q v=true then sm X.E fun j=>if X.lab j=v then phT b t (X.cnt (X.lab j) j) else 0 else 0)≤sm (X.cq q 0) fun i=>phT b t (i+1):=fun q=>by
   refine Nat.le_trans (Nat.le_of_eq ?_) (lab_sum X (φ:=phT b t) (fun i j=>phT_mono) q)
   have e1:∀v,v < V→(if q v=true then sm X.E fun j=>if X.lab j=v then phT b t (X.cnt (X.lab j) j) else 0 else 0)=sm X.E fun j=>if v=X.lab j then (if q (X.lab j)=true then phT b t (X.cnt (X.lab j) j) else 0) else 0:=fun v _=>by
    by_cases hq:q v=true
    ·rw [if_pos hq]
     refine sm_congr fun j _=>?_
     by_cases hl:X.lab j=v
     ·rw [if_pos hl,if_pos hl.symm,if_pos (by rw [hl]; exact hq)]
     ·rw [if_neg hl,if_neg fun h=>hl h.symm]
    ·rw [if_neg hq]
     refine ((sm_congr (g:=fun _=>0) fun j _=>?_).trans (by rw [sm_const]; omega)).symm
     by_cases hl:v=X.lab j
     ·rw [if_pos hl,if_neg (by rw [←hl]; exact hq)]
     ·rw [if_neg hl]
   rw [sm_congr e1,sm_swap]
   exact sm_congr fun j hj=>sm_one (hlab j hj)
  by_cases hin:∃v,v < V∧0 < X.cnt v 0∧¬t≤2 * Y.sB v∧t < 2 * Y.eB v
  ·obtain ⟨v,hv,hc,i1,i2⟩:=hin
   have h2:sm V (fun u=>if 0 < X.cnt u 0 then vM X Y b t0 t1 u t else 0)≤sm V (fun u=>(if u=v then inT b t0 t (X.cnt v 0) else 0)+if (!decide (u=v))=true then sm X.E fun j=>if X.lab j=u then phT b t (X.cnt (X.lab j) j) else 0 else 0):=sm_le fun u hu=>by
    by_cases e:u=v
    ·subst e
     rw [if_pos hc,if_pos rfl]
     have:=vM_in (t0:=t0) (t1:=t1) hY hlab hE i1 i2 hc
     omega
    ·have hq:(!decide (u=v))=true:=by simp [e]
     rw [if_neg e,if_pos hq,Nat.zero_add]
     by_cases hcu:0 < X.cnt u 0
     ·rw [if_pos hcu]
      exact vM_out hY hlab hE (fun ⟨h5,h6⟩=>e (in_one hY hlab hE hu hv h5 h6 i1 i2)) hcu he
     ·rw [if_neg hcu]; exact Nat.zero_le _
   rw [sm_add,sm_one hv] at h2
   have h3:=out fun u=>!decide (u=v)
   have h4:=cq_not X (v:=v)
   have h5:sm (X.cq (fun u=>!decide (u=v)) 0) (fun i=>phT b t (i+1))≤sm (8 - X.cnt v 0) fun i=>phT b t (i+1):=sm_mono (by omega)
   have h6:=le_mx (f:=fun e=>inT b t0 t e+sm (8 - e) fun i=>phT b t (i+1)) (i:=X.cnt v 0) (n:=8) (by omega)
   have h6:inT b t0 t (X.cnt v 0)+sm (8 - X.cnt v 0) (fun i=>phT b t (i+1))≤_:=h6
   omega
  ·have h2:sm V (fun u=>if 0 < X.cnt u 0 then vM X Y b t0 t1 u t else 0)≤sm V (fun u=>if (true:Bool)=true then sm X.E fun j=>if X.lab j=u then phT b t (X.cnt (X.lab j) j) else 0 else 0):=sm_le fun u hu=>by
    rw [if_pos rfl]
    by_cases hcu:0 < X.cnt u 0
    ·rw [if_pos hcu]
     exact vM_out hY hlab hE (fun ⟨h5,h6⟩=>hin ⟨u,hu,hcu,h5,h6⟩) hcu he
    ·rw [if_neg hcu]; exact Nat.zero_le _
   have h3:=out fun _=>true
   rw [cq_all] at h3
   have h5:sm X.E (fun i=>phT b t (i+1))≤sm (8 - 0) fun i=>phT b t (i+1):=sm_mono (by omega)
   have h6:=le_mx (f:=fun e=>inT b t0 t e+sm (8 - e) fun i=>phT b t (i+1)) (i:=0) (n:=8) (by omega)
   have h6:inT b t0 t 0+sm (8 - 0) (fun i=>phT b t (i+1))≤_:=h6
   omega
 ·rw [if_neg he]
  have odd:∀v,¬(¬t≤2 * Y.sB v∧t < 2 * Y.eB v)→vM X Y b t0 t1 v t=0:=fun v h=>by
   unfold vM
   rw [if_neg h1]
   by_cases h2:t≤2 * Y.sB v
   ·rw [if_pos h2,if_neg he]
   ·rw [if_neg h2,if_neg fun h3=>h ⟨h2,h3⟩,if_neg fun h3=>he h3.1]
  by_cases hin:∃v,v < V∧0 < X.cnt v 0∧¬t≤2 * Y.sB v∧t < 2 * Y.eB v
  ·obtain ⟨v,hv,hc,i1,i2⟩:=hin
   have h2:sm V (fun u=>if 0 < X.cnt u 0 then vM X Y b t0 t1 u t else 0)≤sm V (fun u=>if u=v then inT b t0 t (X.cnt v 0) else 0):=sm_le fun u hu=>by
    by_cases e:u=v
    ·subst e
     rw [if_pos hc,if_pos rfl]
     exact vM_in hY hlab hE i1 i2 hc
    ·rw [if_neg e,odd u fun ⟨h5,h6⟩=>e (in_one hY hlab hE hu hv h5 h6 i1 i2)]
     split <;> omega
   rw [sm_one hv] at h2
   have:=cnt_le X v
   exact Nat.le_trans h2 (inT_mono (by omega))
  ·refine Nat.le_trans (Nat.le_of_eq ((sm_congr (g:=fun _=>0) fun u hu=>?_).trans (by rw [sm_const]; omega))) (Nat.zero_le _)
   by_cases hcu:0 < X.cnt u 0
   ·rw [if_pos hcu,odd u fun ⟨h5,h6⟩=>hin ⟨u,hu,hcu,h5,h6⟩]
   ·rw [if_neg hcu]
end
theorem cov_opf {X:Eff} {Y:Bts} {b t0 t1 V:Nat} {S:BFn→Prop} (hX:X.Ok b) (hY:BtsOk Y b V) (hlab:∀j,j < X.E→X.lab j < V) (hE:X.E≤8)
  (hS0:∀K:BFn,(∀a c:Nat→Bool,(∀p,b - 3≤p→p < b→a (2 * p)=c (2 * p))→K a=K c)→S K) (hS1:∀v K,v < V→PtS (relVr Y v) (2 * b) t0 K→S K) (hS2:∀v K,v < V→DetS (relVr Y v) (2 * b) t1 K→S K) :
  CovR (2 * b) S (fun G=>FX X Y G∨∃v,v < V∧0 < X.cnt v 0∧FV X Y v G) ((List.range (2 * b)).map (opM b t0 t1)).sum:=by
 refine (cov_at (fun t=>xM X b t+sm V (fun v=>if 0 < X.cnt v 0 then vM X Y b t0 t1 v t else 0)) fun t ht=>?_).mono (fun _ h=>h) (sm_le fun t _=>opM_le hY hlab hE)
 obtain ⟨Lx,x1,x2⟩:=lev_x (X:=X) (Y:=Y) hX hS0 t
 have hl:∀v,∃L:List BFn,v < V→0 < X.cnt v 0→L.length≤vM X Y b t0 t1 v t∧∀G,FV X Y v G→∀a,Dep (fun c=>G (pfx a t c)) t→(fun c=>G (pfx a t c)) ∈ L∨S (fun c=>G (pfx a t c))∨∃g,FX X Y g∧(fun c=>G (pfx a t c))=fun c=>g (pfx a t c):=fun v=>by
  by_cases h:v < V∧0 < X.cnt v 0
  ·obtain ⟨L,hL⟩:=lev_v hX (hY.le v h.1).1 (hY.le v h.1).2 ((cnt_pos X).1 h.2) hS0 (fun K=>hS1 v K h.1) (fun K=>hS2 v K h.1) ht
   exact ⟨L,fun _ _=>hL⟩
  ·exact ⟨[],fun h1 h2=>absurd ⟨h1,h2⟩ h⟩
 obtain ⟨L,hL⟩:=Classical.skolem.1 hl
 refine ⟨Lx ++ (List.range V).flatMap fun v=>if v < V∧0 < X.cnt v 0 then L v else [],?_,?_⟩
 ·rw [List.length_append]
  refine Nat.add_le_add x1 (Nat.le_trans (sum_len _ (fun v=>if v < V∧0 < X.cnt v 0 then vM X Y b t0 t1 v t else 0) (fun v=>?_) V) (sm_le fun v hv=>?_))
  ·show (if v < V∧0 < X.cnt v 0 then L v else []).length≤_
   by_cases h:v < V∧0 < X.cnt v 0
   ·rw [if_pos h,if_pos h]; exact (hL v h.1 h.2).1
   ·rw [if_neg h,if_neg h]; exact Nat.le_refl _
  ·by_cases h:0 < X.cnt v 0
   ·rw [if_pos h,if_pos ⟨hv,h⟩]; exact Nat.le_refl _
   ·rw [if_neg h,if_neg fun h2=>h h2.2]; exact Nat.le_refl _
 ·rintro G (hG | ⟨v,hv,hc,hG⟩) a hd
  ·exact (x2 G hG a hd).imp (List.mem_append_left _) id
  ·rcases (hL v hv hc).2 G hG a hd with h | h | ⟨g,hg,e⟩
   ·exact .inl (List.mem_append_right _ (List.mem_flatMap.2 ⟨v,List.mem_range.2 hv,by rw [if_pos ⟨hv,hc⟩]; exact h⟩))
   ·exact .inr h
   ·rw [e] at hd ⊢
    exact (x2 g hg a hd).imp (List.mem_append_left _) id
end Go.Sy
end
