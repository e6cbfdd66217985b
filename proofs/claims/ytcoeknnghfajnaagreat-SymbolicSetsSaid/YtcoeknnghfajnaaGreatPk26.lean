/-
  A part of the proof of this claim's statement (SyEC, SyED): plain theorems; no conditions beyond those each names.
-/
import Derived.Test.YtcoeknnghfajnaaGreatPk25
set_option maxRecDepth 100000
set_option linter.unusedSimpArgs false
set_option linter.unusedVariables false
set_option linter.unusedSectionVars false
section
namespace Go.Sy
open Go.Bd
theorem CovR.smono {n N:Nat} {S S' W:BFn→Prop} (h:CovR n S W N) (hs:∀K,S K→S' K):CovR n S' W N:=by
 obtain ⟨L,a,b⟩:=h
 exact ⟨L,a,fun G hG t a ht hd=>(b G hG t a ht hd).imp id (hs _)⟩
theorem det_list:∀(ps qs:List Nat),(ps ++ qs).Nodup→∃L:List BFn,L.length≤(2 ^ qs.length+1) ^ 2 ^ ps.length∧∀K:BFn,(∀a c:Nat→Bool,(∀i ∈ ps,a i=c i)→(∀i ∈ qs,a i=c i)→K a=K c) →
  (∀a c:Nat→Bool,K a=true→K c=true→(∀i ∈ ps,a i=c i)→∀i ∈ qs,a i=c i)→K ∈ L
 | [],qs,_=>by
  obtain ⟨Λ,h1,h2⟩:=lst_keys (qs.map fun i=>fun a=>a i) fun _=>True
  rw [List.length_map] at h1
  refine ⟨(fun _=>false) :: Λ.map fun π=>fun c=>qs.all fun i=>c i == π i,by rw [List.length_cons,List.length_map]; simp; exact h1,fun K hK hd=>?_⟩
  by_cases h:∃a,K a=true
  ·obtain ⟨a,ha⟩:=h
   obtain ⟨π,h3,_,h4⟩:=h2 a trivial
   refine List.mem_cons_of_mem _ (List.mem_map.2 ⟨π,h3,funext fun c=>?_⟩)
   rw [Bool.eq_iff_iff,List.all_eq_true]
   have e:∀i ∈ qs,a i=π i:=fun i hi=>h4 (fun a=>a i) (List.mem_map.2 ⟨i,hi,rfl⟩)
   constructor
   ·intro h
    rw [hK c a (fun i hi=>(by cases hi)) fun i hi=>by have:=h i hi; rw [beq_iff_eq] at this; rw [this,e i hi]]
    exact ha
   ·intro h i hi
    rw [beq_iff_eq,←e i hi]
    exact hd c a h ha (fun i hi=>(by cases hi)) i hi
  ·have:K=fun _=>false:=funext fun a=>by
    cases hk:K a with
    | false=>rfl
    | true=>exact absurd ⟨a,hk⟩ h
   rw [this]
   exact List.mem_cons_self ..
 | p :: ps,qs,hn=>by
  rw [List.cons_append,List.nodup_cons] at hn
  have hp:p ∉ ps:=fun h=>hn.1 (List.mem_append_left _ h)
  have hq:p ∉ qs:=fun h=>hn.1 (List.mem_append_right _ h)
  obtain ⟨L,a,b⟩:=det_list ps qs hn.2
  refine ⟨L.flatMap fun K1=>L.map fun K2=>fun x=>if x p then K1 x else K2 x,?_,fun K hK hd=>?_⟩
  ·have:∀(l:List BFn),(l.flatMap fun K1=>L.map fun K2=>(fun x=>if x p then K1 x else K2 x:BFn)).length=l.length * L.length:=fun l=>by
    induction l with
    | nil=>simp
    | cons x l ih=>rw [List.flatMap_cons,List.length_append,ih,List.length_map,List.length_cons,Nat.succ_mul,Nat.add_comm]
   rw [this,List.length_cons,Nat.pow_succ 2 ps.length,Nat.mul_two,Nat.pow_add]
   exact Nat.mul_le_mul a a
  ·have up:∀(x y:Nat→Bool) (z:Bool) (l:List Nat),p ∉ l→(∀i ∈ l,x i=y i)→∀i ∈ l,upd x p z i=upd y p z i:=fun x y z l hl h i hi=>by
    have:i≠p:=fun e=>hl (by rw [←e]; exact hi)
    rw [upd_ne this,upd_ne this]
    exact h i hi
   have key:∀z,(fun x=>K (upd x p z)) ∈ L:=fun z=>b _ (fun x y h1 h2=>hK _ _ (fun i hi=>by
    rcases List.mem_cons.1 hi with rfl | hi
    ·rw [upd_same,upd_same]
    ·exact up x y z ps hp h1 i hi) (up x y z qs hq h2)) fun x y hx hy h1 i hi=>by
    have:=hd _ _ hx hy (fun i hi=>by
     rcases List.mem_cons.1 hi with rfl | hi
     ·rw [upd_same,upd_same]
     ·exact up x y z ps hp h1 i hi) i hi
    have hne:i≠p:=fun e=>hq (by rw [←e]; exact hi)
    rwa [upd_ne hne,upd_ne hne] at this
   refine List.mem_flatMap.2 ⟨_,key true,List.mem_map.2 ⟨_,key false,funext fun x=>?_⟩⟩
   have e:∀z,x p=z→upd x p z=x:=fun z hz=>funext fun i=>by
    by_cases e:i=p
    ·subst e; rw [upd_same,hz]
    ·rw [upd_ne e]
   cases hx:x p with
   | true=>rw [if_pos rfl,e true hx]
   | false=>rw [if_neg (by decide),e false hx]
def DetA (rel:Nat→Bool) (n t:Nat) (K:BFn):Prop:=(∀c c':Nat→Bool,(∀i,t≤i→i < n→rel i=true→c i=c' i)→K c=K c') ∧
 ∀c c':Nat→Bool,K c=true→K c'=true→(∀q,t≤2 * q→2 * q < n→rel (2 * q)=true→c (2 * q)=c' (2 * q))→∀i,t≤i→i < n→rel i=true→c i=c' i
def DetS (rel:Nat→Bool) (n t1:Nat) (K:BFn):Prop:=∃t,t1≤t∧DetA rel n t K
def cntP (rel:Nat→Bool) (n t x:Nat):Nat:=((List.range n).filter fun i=>decide (t≤i) && decide (i % 2=x) && rel i).length
def detN (rel:Nat→Bool) (n t1:Nat):Nat:=((List.range n).map fun t=>if t1≤t then (2 ^ cntP rel n t 1+1) ^ 2 ^ cntP rel n t 0 else 0).sum
theorem DetA.part {rel:Nat→Bool} {n t t':Nat} {K:BFn} (h:DetA rel n t K) (ht:t≤t') (a:Nat→Bool):DetA rel n t' fun b=>K (pfx a t' b):=by
 refine ⟨fun c c' hc=>h.1 _ _ fun i i1 i2 i3=>?_,fun c c' h1 h2 hc i i1 i2 i3=>?_⟩
 ·unfold pfx
  by_cases h4:i < t'
  ·rw [if_pos h4,if_pos h4]
  ·rw [if_neg h4,if_neg h4]; exact hc i (by omega) i2 i3
 ·have:=h.2 _ _ h1 h2 (fun q q1 q2 q3=>by
   unfold pfx
   by_cases h4:2 * q < t'
   ·rw [if_pos h4,if_pos h4]
   ·rw [if_neg h4,if_neg h4]; exact hc q (by omega) q2 q3) i (by omega) i2 i3
  unfold pfx at this
  rwa [if_neg (by omega),if_neg (by omega)] at this
theorem cov_det2 (rel:Nat→Bool) (n t1:Nat):CovW n (DetS rel n t1) (detN rel n t1):=by
 have hc:=cov_at (n:=n) (S:=fun _=>False) (W:=DetS rel n t1) (fun t=>if t1≤t then (2 ^ cntP rel n t 1+1) ^ 2 ^ cntP rel n t 0 else 0) fun t ht=>by
  by_cases h:t1≤t
  ·obtain ⟨L,l1,l2⟩:=det_list ((List.range n).filter fun i=>decide (t≤i) && decide (i % 2=0) && rel i) ((List.range n).filter fun i=>decide (t≤i) && decide (i % 2=1) && rel i) (by
    rw [List.nodup_append]
    refine ⟨List.Pairwise.filter _ List.nodup_range,List.Pairwise.filter _ List.nodup_range,fun x hx y hy e=>?_⟩
    subst e
    have h1:=(List.mem_filter.1 hx).2
    have h2:=(List.mem_filter.1 hy).2
    simp at h1 h2
    omega)
   refine ⟨L,by rw [if_pos h]; exact l1,fun G hG a hd=>.inl (l2 _ ?_ ?_)⟩
   all_goals
    obtain ⟨t',ht',hK⟩:=hG
    have hle:t'≤t:=Nat.le_of_not_lt fun hlt=>by
     obtain ⟨x,hx⟩:=hd
     apply hx
     show G (pfx a t (upd x t true))=G (pfx a t (upd x t false))
     refine hK.1 _ _ fun i i1 i2 i3=>?_
     unfold pfx
     rw [if_neg (by omega),if_neg (by omega),upd_ne (by omega),upd_ne (by omega)]
    have hP:=hK.part hle a
    have mem:∀{x i:Nat},t≤i→i < n→i % 2=x→rel i=true→i ∈ (List.range n).filter fun i=>decide (t≤i) && decide (i % 2=x) && rel i:=fun h1 h2 h3 h4=>List.mem_filter.2 ⟨List.mem_range.2 h2,by simp [h1,h3,h4]⟩
   ·intro x y h1 h2
    refine hP.1 x y fun i i1 i2 i3=>?_
    rcases Nat.mod_two_eq_zero_or_one i with h0 | h0
    ·exact h1 i (mem i1 i2 h0 i3)
    ·exact h2 i (mem i1 i2 h0 i3)
   ·intro x y hx hy h1 i hi
    have hi':=List.mem_filter.1 hi
    have h3:=hi'.2
    simp only [Bool.and_eq_true,decide_eq_true_eq] at h3
    exact hP.2 x y hx hy (fun q q1 q2 q3=>h1 _ (mem q1 q2 (by omega) q3)) i h3.1.1 (List.mem_range.1 hi'.1) h3.2
  ·refine ⟨[],by simp,fun G hG a hd=>?_⟩
   exfalso
   obtain ⟨t',ht',hK⟩:=hG
   obtain ⟨x,hx⟩:=hd
   apply hx
   show G (pfx a t (upd x t true))=G (pfx a t (upd x t false))
   refine hK.1 _ _ fun i i1 i2 i3=>?_
   unfold pfx
   rw [if_neg (by omega),if_neg (by omega),upd_ne (by omega),upd_ne (by omega)]
 obtain ⟨L',l1,l2⟩:=hc
 exact ⟨L',l1,fun G hG t a ht hd=>(l2 G hG t a ht hd).elim id fun h=>h.elim⟩
theorem lam_abs {α:Type} (Λ:List α) (R:BFn→(α→Prop)→Prop) (hK:∀K K' D D',R K D→R K' D'→(∀π ∈ Λ,D π↔D' π)→K=K')
  (hlam:∀K K' D D',R K D→R K' D'→(∀π ∈ Λ,D π→D' π)∨(∀π ∈ Λ,D' π→D π)∨∀π ∈ Λ,¬(D π∧D' π)) :
  ∃L:List BFn,L.length≤Λ.length - 1∧∀K D,R K D→(∃π ∈ Λ,∃π' ∈ Λ,D π∧D π'∧π≠π')→K ∈ L:=by
 suffices hs:∀l:List BFn,l.Nodup→(∀K ∈ l,∃D,R K D∧∃π ∈ Λ,∃π' ∈ Λ,D π∧D π'∧π≠π')→l.length≤Λ.length - 1 by
  obtain ⟨L,h1,h2⟩:=ex_cover _ _ hs
  exact ⟨L,h1,fun K D hR h=>h2 K ⟨D,hR,h⟩⟩
 intro l hn hl
 have hf:∀K,∃D:α→Prop,K ∈ l→R K D∧∃π ∈ Λ,∃π' ∈ Λ,D π∧D π'∧π≠π':=fun K=>by
  by_cases h:K ∈ l
  ·obtain ⟨D,hD⟩:=hl K h
   exact ⟨D,fun _=>hD⟩
  ·exact ⟨fun _=>True,fun h'=>absurd h' h⟩
 obtain ⟨D,hD⟩:=Classical.skolem.1 hf
 have hB:∀K:BFn,∃B:Nat→Bool,∀i,B i=true↔∃π,Λ[i]? = some π∧D K π:=fun K=>⟨fun i=>@decide _ (Classical.propDecidable _),fun i=>@decide_eq_true_iff _ (Classical.propDecidable _)⟩
 obtain ⟨B,hB⟩:=Classical.skolem.1 hB
 have sub:∀K K',SubB Λ.length (B K) (B K')→∀π ∈ Λ,D K π→D K' π:=fun K K' h π hπ hd=>by
  obtain ⟨i,hi⟩:=List.mem_iff_getElem?.1 hπ
  obtain ⟨π',h1,h2⟩:=(hB K' i).1 (h i (List.getElem?_eq_some_iff.1 hi).1 ((hB K i).2 ⟨π,hi,hd⟩))
  rw [hi] at h1
  injection h1 with h1
  rw [h1]; exact h2
 have mem:∀{i:Nat} {π:α},Λ[i]? = some π→π ∈ Λ:=fun h=>List.mem_of_getElem? h
 have key:=lam_len (m:=Λ.length) (l:=l.map B) (List.pairwise_map.2 (hn.imp_of_mem fun {K K'} h1 h2 hne ⟨s1,s2⟩=>hne (hK K K' _ _ (hD K h1).1 (hD K' h2).1 fun π hπ=>⟨sub K K' s1 π hπ,sub K' K s2 π hπ⟩))) (fun d hd=>by
  obtain ⟨K,hKl,rfl⟩:=List.mem_map.1 hd
  obtain ⟨_,π,m1,π',m2,d1,d2,hne⟩:=hD K hKl
  obtain ⟨i,hi⟩:=List.mem_iff_getElem?.1 m1
  obtain ⟨j,hj⟩:=List.mem_iff_getElem?.1 m2
  have b1:B K i=true:=(hB K i).2 ⟨π,hi,d1⟩
  have b2:B K j=true:=(hB K j).2 ⟨π',hj,d2⟩
  have hij:i≠j:=fun e=>hne (by rw [e,hj] at hi; exact (Option.some.inj hi).symm)
  have l1:=(List.getElem?_eq_some_iff.1 hi).1
  have l2:=(List.getElem?_eq_some_iff.1 hj).1
  rcases Nat.lt_or_ge i j with h | h
  ·exact ⟨j,l2,b2,i,h,b1⟩
  ·exact ⟨i,l1,b1,j,by omega,b2⟩) fun d hd d' hd'=>by
  obtain ⟨K,k1,rfl⟩:=List.mem_map.1 hd
  obtain ⟨K',k2,rfl⟩:=List.mem_map.1 hd'
  rcases hlam K K' _ _ (hD K k1).1 (hD K' k2).1 with h | h | h
  ·refine .inl fun i _ hi=>?_
   obtain ⟨π,h1,h2⟩:=(hB K i).1 hi
   exact (hB K' i).2 ⟨π,h1,h π (mem h1) h2⟩
  ·refine .inr (.inl fun i _ hi=>?_)
   obtain ⟨π,h1,h2⟩:=(hB K' i).1 hi
   exact (hB K i).2 ⟨π,h1,h π (mem h1) h2⟩
  ·refine .inr (.inr fun i _ ⟨h1,h2⟩=>?_)
   obtain ⟨π,h3,h4⟩:=(hB K i).1 h1
   obtain ⟨π',h5,h6⟩:=(hB K' i).1 h2
   rw [h3] at h5
   injection h5 with h5
   subst h5
   exact h π (mem h3) ⟨h4,h6⟩
 rwa [List.length_map] at key
def ptM (n t0 t1 M t:Nat):Nat:=if t1≤t then 0 else if t < t0 then min (2 ^ t) M else min (2 ^ t) (M / 2)
def ptZ (n t0 t1 M:Nat):Nat:=((List.range n).map (ptM n t0 t1 M)).sum
def allR (i:Nat):Bool:=true
theorem pfx_fin {n t:Nat} {F:BFn} (hF:∀a b:Nat→Bool,(∀i,i < n→a i=b i)→F a=F b) {a c c':Nat→Bool} (h:∀i,t≤i→i < n→c i=c' i):F (pfx a t c)=F (pfx a t c'):=hF _ _ fun i hi=>by
 unfold pfx
 by_cases h4:i < t
 ·rw [if_pos h4,if_pos h4]
 ·rw [if_neg h4,if_neg h4]; exact h i (by omega) hi
theorem all_cov {n t:Nat} {F:BFn} (hF:∀a b:Nat→Bool,(∀i,i < n→a i=b i)→F a=F b):∃L:List BFn,L.length≤2 ^ t∧∀a,(fun b=>F (pfx a t b)) ∈ L:=by
 obtain ⟨Λ,h1,h2⟩:=lst_keys ((List.range t).map fun q=>fun a=>a q) fun _=>True
 rw [List.length_map,List.length_range] at h1
 refine ⟨Λ.map fun π=>fun b=>F (pfx π t b),by rw [List.length_map]; exact h1,fun a=>?_⟩
 obtain ⟨π,h3,_,h4⟩:=h2 a trivial
 refine List.mem_map.2 ⟨π,h3,funext fun c=>?_⟩
 have e:pfx π t c=pfx a t c:=funext fun i=>by
  unfold pfx
  by_cases h5:i < t
  ·rw [if_pos h5,if_pos h5]; exact (h4 (fun a=>a i) (List.mem_map.2 ⟨i,List.mem_range.2 h5,rfl⟩)).symm
  ·rw [if_neg h5,if_neg h5]
 rw [e]
theorem cov_ptz {n t0 t1 M:Nat} {S:BFn→Prop} {F:BFn} {Λ:List (Nat→Bool)} (hF:∀a b:Nat→Bool,(∀i,i < n→a i=b i)→F a=F b) (hM:Λ.length≤M) (hp:∀a,F a=true→∃π ∈ Λ,∀i,i < n→a i=π i)
  (hdet:∀a b:Nat→Bool,F a=true→F b=true→(∀q,2 * q < n→a (2 * q)=b (2 * q))→∀i,i < n→a i=b i)
  (hS1:∀K,PtS allR n t0 K→S K) (hS2:∀K,DetS allR n t1 K→S K):CovR n S (fun G=>G=F) (ptZ n t0 t1 M):=by
 refine cov_at (ptM n t0 t1 M) fun t ht=>?_
 unfold ptM
 by_cases h1:t1≤t
 ·rw [if_pos h1]
  refine ⟨[],by simp,fun G hG a hd=>.inr (hS2 _ ?_)⟩
  subst hG
  refine ⟨t,h1,fun c c' hc=>pfx_fin hF fun i i1 i2=>hc i i1 i2 rfl,fun c c' e1 e2 hc i i1 i2 _=>?_⟩
  have:=hdet _ _ e1 e2 (fun q hq=>by
   unfold pfx
   by_cases h4:2 * q < t
   ·rw [if_pos h4,if_pos h4]
   ·rw [if_neg h4,if_neg h4]; exact hc q (by omega) hq rfl) i i2
  unfold pfx at this
  rwa [if_neg (by omega),if_neg (by omega)] at this
 rw [if_neg h1]
 by_cases h0:t < t0
 ·rw [if_pos h0]
  by_cases hm:2 ^ t≤M
  ·obtain ⟨L,l1,l2⟩:=all_cov (t:=t) hF
   exact ⟨L,by rw [Nat.min_eq_left hm]; exact l1,fun G hG a _=>.inl (by subst hG; exact l2 a)⟩
  ·refine ⟨Λ.map fun π=>fun b=>F (pfx π t b),by rw [List.length_map,Nat.min_eq_right (by omega)]; exact hM,fun G hG a hd=>.inl ?_⟩
   subst hG
   obtain ⟨x,hx⟩:=dep_true hd
   obtain ⟨π,m1,m2⟩:=hp _ hx
   refine List.mem_map.2 ⟨π,m1,funext fun c=>hF _ _ fun i hi=>?_⟩
   have:=m2 i hi
   unfold pfx at this ⊢
   by_cases h5:i < t
   ·rw [if_pos h5] at this; rw [if_pos h5,if_pos h5,this]
   ·rw [if_neg h5,if_neg h5]
 rw [if_neg h0]
 -- two points,or one
 have two:∀a,(∃c,F (pfx a t c)=true)→(∃c c':Nat→Bool,F (pfx a t c)=true∧F (pfx a t c')=true∧∃i,t≤i∧i < n∧c i≠c' i)∨S fun b=>F (pfx a t b):=fun a ⟨π,hπ⟩=>by
  by_cases h:∃c c':Nat→Bool,F (pfx a t c)=true∧F (pfx a t c')=true∧∃i,t≤i∧i < n∧c i≠c' i
  ·exact .inl h
  ·refine .inr (hS1 _ ⟨t,π,by omega,by omega,pt_of (fun c c' hc=>pfx_fin hF fun i i1 i2=>hc i i1 i2 rfl) hπ fun c hc i i1 i2 _=>?_⟩)
   exact Classical.byContradiction fun hne=>h ⟨c,π,hc,hπ,i,i1,i2,hne⟩
 by_cases hm:2 ^ t≤M / 2
 ·obtain ⟨L,l1,l2⟩:=all_cov (t:=t) hF
  exact ⟨L,by rw [Nat.min_eq_left hm]; exact l1,fun G hG a _=>.inl (by subst hG; exact l2 a)⟩
 ·obtain ⟨L,l1,l2⟩:=part_cov hF hM hp (t:=t) (by omega)
  refine ⟨L,by rw [Nat.min_eq_right (by omega)]; exact l1,fun G hG a hd=>?_⟩
  subst hG
  exact (two a (dep_true hd)).imp (l2 a) id
end Go.Sy
end
section
namespace Go.Sy
open Go.Bd
def rlF (b:Nat) (sb:Nat→BFn) (f:Nat):BFn:=fun a=>(List.range b).all fun q=>decide (q < f) || (a (2 * q+1) == sb q a)
theorem rlF_iff {b:Nat} {sb:Nat→BFn} {f:Nat} {a:Nat→Bool}:rlF b sb f a=true↔∀q,f≤q→q < b→a (2 * q+1)=sb q a:=by
 unfold rlF
 rw [List.all_eq_true]
 constructor
 ·intro h q h1 h2
  have:=h q (List.mem_range.2 h2)
  rw [decide_eq_false (by omega),Bool.false_or,beq_iff_eq] at this
  exact this
 ·intro h q hq
  have hq:=List.mem_range.1 hq
  by_cases hf:q < f
  ·rw [decide_eq_true hf]; rfl
  ·rw [h q (by omega) hq]; simp
def EvD (b:Nat) (sb:Nat→BFn):Prop:=∀q,q < b→∀a c:Nat→Bool,(∀p,p < b→a (2 * p)=c (2 * p))→sb q a=sb q c
def relF (f i:Nat):Bool:=decide (i % 2=0) || decide (f≤i / 2)
def rlM (b t0 t1 t:Nat):Nat:=if t1≤t then 0 else (if t % 2=0 then ((List.range b).map fun f=>if t / 2 < f then 2 ^ (t / 2) else 0).sum else 0) +
 (if t < t0 then ((List.range b).map fun f=>if f≤t / 2 then 2 ^ ((t+1) / 2+(t / 2 - f)) else 0).sum else 2 ^ b - 2 ^ ((t+1) / 2))
theorem pfx_in {a c:Nat→Bool} {t i:Nat} (h:i < t):pfx a t c i=a i:=by unfold pfx; rw [if_pos h]
theorem pfx_out {a c:Nat→Bool} {t i:Nat} (h:t≤i):pfx a t c i=c i:=by unfold pfx; rw [if_neg (by omega)]
theorem pfx_ag {a a' c c':Nat→Bool} {t i:Nat} (h1:i < t→a i=a' i) (h2:t≤i→c i=c' i):pfx a t c i=pfx a' t c' i:=by
 by_cases h:i < t
 ·rw [pfx_in h,pfx_in h,h1 h]
 ·rw [pfx_out (by omega),pfx_out (by omega),h2 (by omega)]
section
variable {b t0 t1:Nat} {sb:Nat→BFn} {S:BFn→Prop} (hsb:EvD b sb)
include hsb
theorem rlF_nodep {f t:Nat} (hf:t / 2 < f) (ht:t % 2=1) (a:Nat→Bool):¬Dep (fun c=>rlF b sb f (pfx a t c)) t:=by
 rintro ⟨x,hx⟩
 apply hx
 show rlF b sb f (pfx a t (upd x t true))=rlF b sb f (pfx a t (upd x t false))
 have e:∀i,i≠t→pfx a t (upd x t true) i=pfx a t (upd x t false) i:=fun i hi=>pfx_ag (fun _=>rfl) fun _=>by rw [upd_ne hi,upd_ne hi]
 have e2:∀q,q < b→sb q (pfx a t (upd x t true))=sb q (pfx a t (upd x t false)):=fun q hq=>hsb q hq _ _ fun p _=>e _ (by omega)
 rw [Bool.eq_iff_iff,rlF_iff,rlF_iff]
 exact ⟨fun h q h1 h2=>by rw [←e _ (by omega),←e2 q h2]; exact h q h1 h2,fun h q h1 h2=>by rw [e _ (by omega),e2 q h2]; exact h q h1 h2⟩
theorem rlF_pfx {f t:Nat} {a a' c:Nat→Bool} (h1:∀q,2 * q < t→a (2 * q)=a' (2 * q)) (h2:∀q,f≤q→2 * q+1 < t→a (2 * q+1)=a' (2 * q+1)):rlF b sb f (pfx a t c)=rlF b sb f (pfx a' t c):=by
 have e2:∀q,q < b→sb q (pfx a t c)=sb q (pfx a' t c):=fun q hq=>hsb q hq _ _ fun p _=>pfx_ag (h1 p) fun _=>rfl
 have e:∀q,f≤q→pfx a t c (2 * q+1)=pfx a' t c (2 * q+1):=fun q hq=>pfx_ag (h2 q hq) fun _=>rfl
 rw [Bool.eq_iff_iff,rlF_iff,rlF_iff]
 exact ⟨fun h q h1 h2=>by rw [←e q h1,←e2 q h2]; exact h q h1 h2,fun h q h1 h2=>by rw [e q h1,e2 q h2]; exact h q h1 h2⟩
theorem rlF_fin {f:Nat} {a a':Nat→Bool} (h:∀i,i < 2 * b→a i=a' i):rlF b sb f a=rlF b sb f a':=by
 have e2:∀q,q < b→sb q a=sb q a':=fun q hq=>hsb q hq _ _ fun p _=>h _ (by omega)
 rw [Bool.eq_iff_iff,rlF_iff,rlF_iff]
 exact ⟨fun h' q h1 h2=>by rw [←h _ (by omega),←e2 q h2]; exact h' q h1 h2,fun h' q h1 h2=>by rw [h _ (by omega),e2 q h2]; exact h' q h1 h2⟩
theorem rlF_det {f t:Nat} {a a' c c':Nat→Bool} (h1:rlF b sb f (pfx a t c)=true) (h2:rlF b sb f (pfx a' t c')=true) (ha:∀q,2 * q < t→a (2 * q)=a' (2 * q)) (hc:∀q,t≤2 * q→q < b→c (2 * q)=c' (2 * q)) :
  ∀q,f≤q→q < b→pfx a t c (2 * q+1)=pfx a' t c' (2 * q+1):=fun q hq hb=>by
 rw [rlF_iff.1 h1 q hq hb,rlF_iff.1 h2 q hq hb]
 exact hsb q hb _ _ fun p hp=>pfx_ag (ha p) fun h=>hc p h hp
theorem cov_rlf (hS1:∀K,PtS allR (2 * b) t0 K→S K) (hS2:∀K,DetS allR (2 * b) t1 K→S K) (hS3:∀f K,t1 / 2 < f→f < b→DetS (relF f) (2 * b) t1 K→S K) :
  CovR (2 * b) S (fun G=>∃f,f < b∧G=rlF b sb f) ((List.range (2 * b)).map (rlM b t0 t1)).sum:=by
 refine cov_at (rlM b t0 t1) fun t ht=>?_
 unfold rlM
 by_cases h1:t1≤t
 ·rw [if_pos h1]
  refine ⟨[],by simp,?_⟩
  rintro G ⟨f,hf,rfl⟩ a hd
  right
  by_cases hft:t / 2 < f
  ·by_cases ho:t % 2=1
   ·exact absurd hd (rlF_nodep hsb hft ho a)
   ·refine hS3 f _ (by omega) hf ⟨t,h1,fun c c' hc=>?_,fun c c' e1 e2 hc i i1 i2 i3=>?_⟩
    ·have e2:∀q,q < b→sb q (pfx a t c)=sb q (pfx a t c'):=fun q hq=>hsb q hq _ _ fun p hp=>pfx_ag (fun _=>rfl) fun h=>hc _ h (by omega) (by unfold relF; simp)
     have e:∀q,f≤q→q < b→pfx a t c (2 * q+1)=pfx a t c' (2 * q+1):=fun q hq hqb=>pfx_ag (fun _=>rfl) fun h=>hc _ h (by omega) (by unfold relF; rw [show (2 * q+1) / 2=q by omega]; simp [hq])
     rw [Bool.eq_iff_iff,rlF_iff,rlF_iff]
     exact ⟨fun h q h1 h2=>by rw [←e q h1 h2,←e2 q h2]; exact h q h1 h2,fun h q h1 h2=>by rw [e q h1 h2,e2 q h2]; exact h q h1 h2⟩
    ·rcases Nat.mod_two_eq_zero_or_one i with h0 | h0
     ·have:=hc (i / 2) (by omega) (by omega) (by unfold relF; simp)
      rwa [show 2 * (i / 2)=i by omega] at this
     ·have hfi:f≤i / 2:=by
       unfold relF at i3
       rw [h0] at i3
       simpa using i3
      have:=rlF_det hsb e1 e2 (fun _ _=>rfl) (fun q h hq=>hc q h (by omega) (by unfold relF; simp)) (i / 2) hfi (by omega)
      rw [show 2 * (i / 2)+1=i by omega,pfx_out i1,pfx_out i1] at this
      exact this
  ·refine hS2 _ ⟨t,h1,fun c c' hc=>rlF_fin hsb fun i hi=>pfx_ag (fun _=>rfl) fun h=>hc i h hi rfl,fun c c' e1 e2 hc i i1 i2 i3=>?_⟩
   rcases Nat.mod_two_eq_zero_or_one i with h0 | h0
   ·have:=hc (i / 2) (by omega) (by omega) rfl
    rwa [show 2 * (i / 2)=i by omega] at this
   ·have:=rlF_det hsb e1 e2 (fun _ _=>rfl) (fun q h hq=>hc q h (by omega) rfl) (i / 2) (by omega) (by omega)
    rw [show 2 * (i / 2)+1=i by omega,pfx_out i1,pfx_out i1] at this
    exact this
 rw [if_neg h1]
 -- those that do not read the successor yet
 have A:∃L:List BFn,L.length≤(if t % 2=0 then ((List.range b).map fun f=>if t / 2 < f then 2 ^ (t / 2) else 0).sum else 0)∧∀f,f < b→t / 2 < f→∀a,Dep (fun c=>rlF b sb f (pfx a t c)) t→(fun c=>rlF b sb f (pfx a t c)) ∈ L:=by
  by_cases ho:t % 2=0
  ·rw [if_pos ho]
   have hl:∀f,∃L:List BFn,L.length≤2 ^ ((t+1) / 2)∧(t / 2 < f→∀a,(fun c=>rlF b sb f (pfx a t c)) ∈ L):=fun f=>by
    by_cases hf:t / 2 < f
    ·obtain ⟨L,l1,l2⟩:=evn_cov (t:=t) (rlF b sb f) fun a a' c h=>rlF_pfx hsb h fun q h1 h2=>by omega
     exact ⟨L,l1,fun _=>l2⟩
    ·exact ⟨[],by simp,fun h=>absurd h hf⟩
   obtain ⟨L,hL⟩:=Classical.skolem.1 hl
   refine ⟨(List.range b).flatMap fun f=>if t / 2 < f then L f else [],sum_len _ _ (fun f=>?_) b,fun f hf hft a _=>List.mem_flatMap.2 ⟨f,List.mem_range.2 hf,by rw [if_pos hft]; exact (hL f).2 hft a⟩⟩
   by_cases hf:t / 2 < f
   ·rw [if_pos hf,if_pos hf]
    have:=(hL f).1
    rwa [show (t+1) / 2=t / 2 by omega] at this
   ·rw [if_neg hf,if_neg hf]; exact Nat.le_refl _
  ·rw [if_neg ho]
   exact ⟨[],by simp,fun f _ hf a hd=>absurd hd (rlF_nodep hsb hf (by omega) a)⟩
 -- the others
 have B:∃L:List BFn,L.length≤(if t < t0 then ((List.range b).map fun f=>if f≤t / 2 then 2 ^ ((t+1) / 2+(t / 2 - f)) else 0).sum else 2 ^ b - 2 ^ ((t+1) / 2))∧∀f,f < b→f≤t / 2→∀a,Dep (fun c=>rlF b sb f (pfx a t c)) t→(fun c=>rlF b sb f (pfx a t c)) ∈ L∨S fun c=>rlF b sb f (pfx a t c):=by
  by_cases h0:t < t0
  ·rw [if_pos h0]
   have hl:∀f,∃L:List BFn,L.length≤2 ^ ((t+1) / 2+(t / 2 - f))∧∀a,(fun c=>rlF b sb f (pfx a t c)) ∈ L:=fun f=>by
    obtain ⟨Λ,h1,h2⟩:=lst_keys (((List.range ((t+1) / 2)).map fun q=>fun a=>a (2 * q)) ++ ((List.range (t / 2 - f)).map fun q=>fun a=>a (2 * (f+q)+1))) fun _=>True
    rw [List.length_append,List.length_map,List.length_map,List.length_range,List.length_range] at h1
    refine ⟨Λ.map fun π=>fun c=>rlF b sb f (pfx π t c),by rw [List.length_map]; exact h1,fun a=>?_⟩
    obtain ⟨π,h3,_,h4⟩:=h2 a trivial
    refine List.mem_map.2 ⟨π,h3,funext fun c=>(rlF_pfx hsb (fun q hq=>?_) fun q h5 h6=>?_).symm⟩
    ·exact h4 (fun a=>a (2 * q)) (List.mem_append_left _ (List.mem_map.2 ⟨q,List.mem_range.2 (by omega),rfl⟩))
    ·have:=h4 (fun a=>a (2 * (f+(q - f))+1)) (List.mem_append_right _ (List.mem_map.2 ⟨q - f,List.mem_range.2 (by omega),rfl⟩))
     rwa [show f+(q - f)=q by omega] at this
   obtain ⟨L,hL⟩:=Classical.skolem.1 hl
   refine ⟨(List.range b).flatMap fun f=>if f≤t / 2 then L f else [],sum_len _ _ (fun f=>?_) b,fun f hf hft a _=>.inl (List.mem_flatMap.2 ⟨f,List.mem_range.2 hf,by rw [if_pos hft]; exact (hL f).2 a⟩)⟩
   by_cases hf:f≤t / 2
   ·rw [if_pos hf,if_pos hf]; exact (hL f).1
   ·rw [if_neg hf,if_neg hf]; exact Nat.le_refl _
  ·rw [if_neg h0]
   obtain ⟨Λ,l1,l2⟩:=lst_keys ((List.range ((t+1) / 2)).map fun q=>fun a=>a (2 * q)) fun _=>True
   rw [List.length_map,List.length_range] at l1
   have hl:∀π:Nat→Bool,∃L:List BFn,L.length≤2 ^ (b - (t+1) / 2) - 1∧∀K,(∃f a,f≤t / 2∧(∀q,2 * q < t→a (2 * q)=π (2 * q))∧K=(fun c=>rlF b sb f (pfx a t c))∧∃c c':Nat→Bool,K c=true∧K c'=true∧∃q,(t+1) / 2≤q∧q < b∧c (2 * q)≠c' (2 * q))→K ∈ L:=fun π=>by
    refine lam_cov _ ?_ ?_ ?_
    ·rintro K K' ⟨f,a,hf,ha,rfl,_⟩ ⟨f',a',hf',ha',rfl,_⟩ c c' h1 h2 hc
     have h1:rlF b sb f (pfx a t c)=true:=h1
     have h2:rlF b sb f' (pfx a' t c')=true:=h2
     show rlF b sb f (pfx a t c')=true
     rw [rlF_iff] at h1 h2 ⊢
     have ev:∀p,p < b→pfx a t c (2 * p)=pfx a t c' (2 * p):=fun p hp=>pfx_ag (fun _=>rfl) fun h=>hc p (by omega) hp
     have ev':∀p,p < b→pfx a' t c' (2 * p)=pfx a t c' (2 * p):=fun p hp=>pfx_ag (fun h=>by rw [ha p h,ha' p h]) fun _=>rfl
     intro q h3 h4
     by_cases h5:2 * q+1 < t
     ·rw [pfx_in h5,←hsb q h4 _ _ ev,←h1 q h3 h4,pfx_in h5]
     ·have:=h2 q (by omega) h4
      rw [pfx_out (by omega)] at this
      rw [pfx_out (by omega),this]
      exact hsb q h4 _ _ ev'
    ·rintro K K' ⟨f,a,hf,ha,rfl,_⟩ ⟨f',a',hf',ha',rfl,_⟩
     have key:∀{f f':Nat} {a a':Nat→Bool},(∀q,2 * q < t→a (2 * q)=π (2 * q))→(∀q,2 * q < t→a' (2 * q)=π (2 * q))→f≤f'→(∃c,rlF b sb f (pfx a t c)=true∧rlF b sb f' (pfx a' t c)=true)→∀c,rlF b sb f (pfx a t c)=true→rlF b sb f' (pfx a' t c)=true:=fun {f f' a a'} ha ha' hff ⟨x,x1,x2⟩ c hc=>by
      have e:rlF b sb f' (pfx a t c)=rlF b sb f' (pfx a' t c):=rlF_pfx hsb (fun q hq=>by rw [ha q hq,ha' q hq]) fun q h1 h2=>by
       by_cases hqb:q < b
       ·have e1:=rlF_iff.1 x1 q (by omega) hqb
        have e2:=rlF_iff.1 x2 q h1 hqb
        rw [pfx_in h2] at e1 e2
        rw [e1,e2]
        exact hsb q hqb _ _ fun p _=>pfx_ag (fun h=>by rw [ha p h,ha' p h]) fun _=>rfl
       ·omega
      rw [←e,rlF_iff]
      exact fun q h1 h2=>rlF_iff.1 hc q (by omega) h2
     by_cases hx:∃c,rlF b sb f (pfx a t c)=true∧rlF b sb f' (pfx a' t c)=true
     ·rcases Nat.le_total f f' with h | h
      ·exact .inl (key ha ha' h hx)
      ·obtain ⟨c,c1,c2⟩:=hx
       exact .inr (.inl (key ha' ha h ⟨c,c2,c1⟩))
     ·exact .inr (.inr fun c hc=>hx ⟨c,hc⟩)
    ·rintro K ⟨f,a,hf,ha,e,h⟩
     exact h
   obtain ⟨L,hL⟩:=Classical.skolem.1 hl
   refine ⟨Λ.flatMap L,?_,fun f hf hft a hd=>?_⟩
   ·have:∀l:List (Nat→Bool),(l.flatMap L).length≤l.length * (2 ^ (b - (t+1) / 2) - 1):=fun l=>by
     induction l with
     | nil=>simp
     | cons x l ih=>rw [List.flatMap_cons,List.length_append,List.length_cons,Nat.succ_mul]; have:=(hL x).1; omega
    refine Nat.le_trans (this Λ) (Nat.le_trans (Nat.mul_le_mul_right _ l1) (Nat.le_of_eq ?_))
    rw [Nat.mul_sub,Nat.mul_one,←Nat.pow_add,show (t+1) / 2+(b - (t+1) / 2)=b by omega]
   ·obtain ⟨π,m1,_,m2⟩:=l2 a trivial
    have ha:∀q,2 * q < t→a (2 * q)=π (2 * q):=fun q hq=>m2 (fun a=>a (2 * q)) (List.mem_map.2 ⟨q,List.mem_range.2 (by omega),rfl⟩)
    by_cases h2:∃c c':Nat→Bool,rlF b sb f (pfx a t c)=true∧rlF b sb f (pfx a t c')=true∧∃q,(t+1) / 2≤q∧q < b∧c (2 * q)≠c' (2 * q)
    ·exact .inl (List.mem_flatMap.2 ⟨π,m1,(hL π).2 _ ⟨f,a,hft,ha,rfl,h2⟩⟩)
    ·obtain ⟨x,hx⟩:=dep_true hd
     refine .inr (hS1 _ ⟨t,x,by omega,by omega,pt_of (K:=fun c=>rlF b sb f (pfx a t c)) (fun c c' hc=>rlF_fin hsb fun i hi=>pfx_ag (fun _=>rfl) fun h=>hc i h hi rfl) hx fun c hc i i1 i2 _=>?_⟩)
     have ev:∀q,t≤2 * q→q < b→c (2 * q)=x (2 * q):=fun q h3 h4=>Classical.byContradiction fun hne=>h2 ⟨c,x,hc,hx,q,by omega,h4,hne⟩
     rcases Nat.mod_two_eq_zero_or_one i with h0 | h0
     ·have:=ev (i / 2) (by omega) (by omega)
      rwa [show 2 * (i / 2)=i by omega] at this
     ·have:=rlF_det hsb hc hx (fun _ _=>rfl) ev (i / 2) (by omega) (by omega)
      rwa [show 2 * (i / 2)+1=i by omega,pfx_out i1,pfx_out i1] at this
 obtain ⟨LA,a1,a2⟩:=A
 obtain ⟨LB,b1,b2⟩:=B
 refine ⟨LA ++ LB,by rw [List.length_append]; omega,?_⟩
 rintro G ⟨f,hf,rfl⟩ a hd
 by_cases hft:t / 2 < f
 ·exact .inl (List.mem_append_left _ (a2 f hf hft a hd))
 ·exact (b2 f hf (by omega) a hd).imp (List.mem_append_right _) id
end
def parR (x i:Nat):Bool:=decide (i % 2=x)
def innN (b nx i:Nat):Bool:=decide (i < 2 * b∧i % 2=nx)
def exM (b y M t:Nat):Nat:=if t % 2=1 - y∧t < 2 * (b - 3) then min (((List.range ((t+1 - y) / 2+1)).map fun j=>2 ^ (t / 2+j)).sum) M else 0
theorem cov_exl {b y M:Nat} {S:BFn→Prop} {F:BFn} {Λ:List (Nat→Bool)} (hy:y < 2) (hF:∀a c:Nat→Bool,(∀i,i < 2 * b→a i=c i)→F a=F c) (hM:Λ.length≤M) (hΛ:∀π ∈ Λ,F π=true) (hp:∀a,F a=true→∃π ∈ Λ,∀i,i < 2 * b→a i=π i)
  (hS1:∀K,PtS (parR (1 - y)) (2 * b) 0 K→S K) (hS2:∀K:BFn,(∀a c:Nat→Bool,(∀p,b - 3≤p→p < b→a (2 * p+(1 - y))=c (2 * p+(1 - y)))→K a=K c)→S K) :
  CovR (2 * b) S (fun G=>∃k π,G=exB (innN b y) F k π) ((List.range (2 * b)).map (exM b y M)).sum:=by
 refine cov_at (exM b y M) fun t ht=>?_
 have free:∀{i},i < 2 * b→(innN b y i=false↔i % 2=1 - y):=fun {i} hi=>by
  unfold innN
  rw [decide_eq_false_iff_not]
  constructor
  ·intro h
   have:¬i % 2=y:=fun e=>h ⟨hi,e⟩
   omega
  ·intro h h2
   omega
 -- only free variables from the given ones on count
 have dep:∀{k π a},Dep (fun c=>exB (innN b y) F k π (pfx a t c)) t→k≤t∧t % 2=1 - y:=fun {k π a} ⟨x,hx⟩=>by
  have hn:¬(t < k∨innN b y t=true):=fun h=>hx (exB_dep hF fun i h1 h2 h3=>pfx_ag (fun _=>rfl) fun h4=>by
   have:i≠t:=fun e=>by
    subst e
    rcases h with h | h
    ·omega
    ·rw [h3] at h; cases h
   rw [upd_ne this,upd_ne this])
  refine ⟨by omega,(free ht).1 ?_⟩
  cases h:innN b y t with
  | false=>rfl
  | true=>exact absurd (.inr h) hn
 unfold exM
 by_cases hc:t % 2=1 - y∧t < 2 * (b - 3)
 rotate_left
 ·rw [if_neg hc]
  refine ⟨[],by simp,?_⟩
  rintro G ⟨k,π,rfl⟩ a hd
  obtain ⟨d1,d2⟩:=dep hd
  refine .inr (hS2 _ fun x z hxz=>exB_dep hF fun i h1 h2 h3=>pfx_ag (fun _=>rfl) fun h4=>?_)
  have h5:=(free h2).1 h3
  have:¬t < 2 * (b - 3):=fun h=>hc ⟨d2,h⟩
  have:=hxz (i / 2) (by omega) (by omega)
  rwa [show 2 * (i / 2)+(1 - y)=i by omega] at this
 rw [if_pos hc]
 -- what a part means
 have char:∀{k π a},k≤t→∀c,exB (innN b y) F k π (pfx a t c)=true↔∃ρ ∈ Λ,((∀i,i < k→i < 2 * b→innN b y i=true→ρ i=π i)∧∀i,i < t→i < 2 * b→innN b y i=false→ρ i=if i < k then π i else a i)∧∀i,t≤i→i < 2 * b→innN b y i=false→ρ i=c i:=fun {k π a} hk c=>by
  rw [exB_iff]
  constructor
  ·rintro ⟨x,h1,h2⟩
   obtain ⟨ρ,m1,m2⟩:=hp _ h2
   refine ⟨ρ,m1,⟨fun i i1 i2 i3=>?_,fun i i1 i2 i3=>?_⟩,fun i i1 i2 i3=>?_⟩
   ·rw [←m2 i i2,pfx_in i1]
   ·rw [←m2 i i2]
    by_cases h:i < k
    ·rw [pfx_in h,if_pos h]
    ·rw [pfx_out (by omega),if_neg h,h1 i i3,pfx_in i1]
   ·rw [←m2 i i2,pfx_out (by omega),h1 i i3,pfx_out i1]
  ·rintro ⟨ρ,m1,⟨h1,h2⟩,h3⟩
   refine ⟨fun j=>if j < 2 * b then (if innN b y j=true then ρ j else pfx a t c j) else pfx a t c j,fun j hj=>?_,(hF _ _ fun i hi=>?_).trans (hΛ ρ m1)⟩
   ·show (if j < 2 * b then (if innN b y j=true then ρ j else pfx a t c j) else pfx a t c j)=_
    rw [hj]
    split <;> rfl
   ·by_cases h:i < k
    ·rw [pfx_in h]
     cases h4:innN b y i with
     | true=>exact (h1 i h hi h4).symm
     | false =>
      have:=h2 i (by omega) hi h4
      rw [if_pos h] at this
      exact this.symm
    ·rw [pfx_out (by omega)]
     show (if i < 2 * b then _ else _)=_
     rw [if_pos hi]
     cases h4:innN b y i with
     | true=>rw [if_pos rfl]
     | false =>
      rw [if_neg (by decide)]
      by_cases h5:i < t
      ·have:=h2 i h5 hi h4
       rw [if_neg h] at this
       rw [pfx_in h5,this]
      ·rw [pfx_out (by omega),h3 i (by omega) hi h4]
 -- at most so many by what is given
 have A:∃L:List BFn,L.length≤((List.range ((t+1 - y) / 2+1)).map fun j=>2 ^ (t / 2+j)).sum∧∀k π a,k≤t→(fun c=>exB (innN b y) F k π (pfx a t c)) ∈ L:=by
  have hl:∀j,∃L:List BFn,L.length≤2 ^ (t / 2+j)∧∀k π a,k≤t→(k+1 - y) / 2=j→(fun c=>exB (innN b y) F k π (pfx a t c)) ∈ L:=fun j=>by
   -- a list of given values: those of the quantified ones,and those of the free ones
   obtain ⟨Q,q1,q2⟩:=lst_keys (((List.range (t / 2)).map fun i=>fun a=>a (2 * i+(1 - y))) ++ (List.range j).map fun i=>fun a=>a (2 * i+y)) fun _=>True
   rw [List.length_append,List.length_map,List.length_map,List.length_range,List.length_range] at q1
   -- the greatest number of given variables with as many quantified ones
   refine ⟨Q.map fun ρ=>fun c=>exB (innN b y) F (2 * j+y - 1) ρ (pfx ρ t c),by rw [List.length_map]; exact q1,fun k π a hk hj=>?_⟩
   obtain ⟨ρ,m1,_,m2⟩:=q2 (fun i=>if i < k then π i else a i) trivial
   refine List.mem_map.2 ⟨ρ,m1,funext fun c=>?_⟩
   have hk2:2 * j+y - 1≤t:=by omega
   rw [Bool.eq_iff_iff,char hk2,char hk]
   have e1:∀i,i < t→i % 2=1 - y→(if i < k then π i else a i)=ρ i:=fun i h1 h2=>by
    have:=m2 (fun a=>a (2 * (i / 2)+(1 - y))) (List.mem_append_left _ (List.mem_map.2 ⟨i / 2,List.mem_range.2 (by omega),rfl⟩))
    rwa [show 2 * (i / 2)+(1 - y)=i by omega] at this
   have e2:∀i,i < k→i % 2=y→π i=ρ i:=fun i h1 h2=>by
    have:=m2 (fun a=>a (2 * (i / 2)+y)) (List.mem_append_right _ (List.mem_map.2 ⟨i / 2,List.mem_range.2 (by omega),rfl⟩))
    rw [show 2 * (i / 2)+y=i by omega] at this
    have this:(if i < k then π i else a i)=ρ i:=this
    rwa [if_pos h1] at this
   have q:∀i,i < 2 * b→(innN b y i=true↔i % 2=y):=fun i hi=>by unfold innN; rw [decide_eq_true_iff]; exact ⟨fun h=>h.2,fun h=>⟨hi,h⟩⟩
   constructor
   ·rintro ⟨σ,s1,⟨s2,s3⟩,s4⟩
    refine ⟨σ,s1,⟨fun i i1 i2 i3=>?_,fun i i1 i2 i3=>?_⟩,s4⟩
    ·have h5:=(q i i2).1 i3
     rw [s2 i (by omega) i2 i3,e2 i i1 h5]
    ·have h5:=(free i2).1 i3
     have:=s3 i i1 i2 i3
     rw [e1 i i1 h5]
     rw [this]
     split <;> rfl
   ·rintro ⟨σ,s1,⟨s2,s3⟩,s4⟩
    refine ⟨σ,s1,⟨fun i i1 i2 i3=>?_,fun i i1 i2 i3=>?_⟩,s4⟩
    ·have h5:=(q i i2).1 i3
     have hik:i < k:=by omega
     rw [s2 i hik i2 i3,e2 i hik h5]
    ·have h5:=(free i2).1 i3
     rw [s3 i i1 i2 i3,e1 i i1 h5]
     split <;> rfl
  obtain ⟨L,hL⟩:=Classical.skolem.1 hl
  refine ⟨(List.range ((t+1 - y) / 2+1)).flatMap L,sum_len L _ (fun j=>(hL j).1) _,fun k π a hk=>List.mem_flatMap.2 ⟨(k+1 - y) / 2,List.mem_range.2 (by omega),(hL _).2 k π a hk rfl⟩⟩
 -- at most so many by the points
 have B:∃L:List BFn,L.length≤M∧∀k π a,k≤t→Dep (fun c=>exB (innN b y) F k π (pfx a t c)) t→(fun c=>exB (innN b y) F k π (pfx a t c)) ∈ L∨S fun c=>exB (innN b y) F k π (pfx a t c):=by
  obtain ⟨L,l1,l2⟩:=lam_abs Λ (fun K D=>∃k π a,k≤t∧K=(fun c=>exB (innN b y) F k π (pfx a t c))∧D=fun ρ=>(∀i,i < k→i < 2 * b→innN b y i=true→ρ i=π i)∧∀i,i < t→i < 2 * b→innN b y i=false→ρ i=if i < k then π i else a i) (by
   rintro K K' D D' ⟨k,π,a,hk,rfl,rfl⟩ ⟨k',π',a',hk',rfl,rfl⟩ h
   refine funext fun c=>?_
   rw [Bool.eq_iff_iff,char hk,char hk']
   exact ⟨fun ⟨ρ,m1,m2,m3⟩=>⟨ρ,m1,(h ρ m1).1 m2,m3⟩,fun ⟨ρ,m1,m2,m3⟩=>⟨ρ,m1,(h ρ m1).2 m2,m3⟩⟩) (by
   rintro K K' D D' ⟨k,π,a,hk,rfl,rfl⟩ ⟨k',π',a',hk',rfl,rfl⟩
   have key:∀{k k':Nat} {π π' a a':Nat→Bool} {ρ:Nat→Bool},k≤k'→((∀i,i < k→i < 2 * b→innN b y i=true→ρ i=π i)∧∀i,i < t→i < 2 * b→innN b y i=false→ρ i=if i < k then π i else a i)→((∀i,i < k'→i < 2 * b→innN b y i=true→ρ i=π' i)∧∀i,i < t→i < 2 * b→innN b y i=false→ρ i=if i < k' then π' i else a' i) →
     ∀σ:Nat→Bool,((∀i,i < k'→i < 2 * b→innN b y i=true→σ i=π' i)∧∀i,i < t→i < 2 * b→innN b y i=false→σ i=if i < k' then π' i else a' i)→((∀i,i < k→i < 2 * b→innN b y i=true→σ i=π i)∧∀i,i < t→i < 2 * b→innN b y i=false→σ i=if i < k then π i else a i):=fun hkk r1 r2 σ s=>by
    refine ⟨fun i i1 i2 i3=>?_,fun i i1 i2 i3=>?_⟩
    ·rw [s.1 i (by omega) i2 i3,←r2.1 i (by omega) i2 i3,r1.1 i i1 i2 i3]
    ·rw [s.2 i i1 i2 i3,←r2.2 i i1 i2 i3,r1.2 i i1 i2 i3]
   by_cases hx:∃ρ ∈ Λ,((∀i,i < k→i < 2 * b→innN b y i=true→ρ i=π i)∧∀i,i < t→i < 2 * b→innN b y i=false→ρ i=if i < k then π i else a i)∧((∀i,i < k'→i < 2 * b→innN b y i=true→ρ i=π' i)∧∀i,i < t→i < 2 * b→innN b y i=false→ρ i=if i < k' then π' i else a' i)
   ·obtain ⟨ρ,m1,r1,r2⟩:=hx
    rcases Nat.le_total k k' with h | h
    ·exact .inr (.inl fun σ _ hs=>key h r1 r2 σ hs)
    ·exact .inl fun σ _ hs=>key h r2 r1 σ hs
   ·exact .inr (.inr fun σ m hs=>hx ⟨σ,m,hs⟩))
  refine ⟨L,by omega,fun k π a hk hd=>?_⟩
  by_cases h2:∃ρ ∈ Λ,∃ρ' ∈ Λ,((∀i,i < k→i < 2 * b→innN b y i=true→ρ i=π i)∧∀i,i < t→i < 2 * b→innN b y i=false→ρ i=if i < k then π i else a i)∧((∀i,i < k→i < 2 * b→innN b y i=true→ρ' i=π i)∧∀i,i < t→i < 2 * b→innN b y i=false→ρ' i=if i < k then π i else a i)∧ρ≠ρ'
  ·exact .inl (l2 _ _ ⟨k,π,a,hk,rfl,rfl⟩ h2)
  ·obtain ⟨x,hx⟩:=dep_true hd
   obtain ⟨ρ,m1,m2,m3⟩:=(char hk x).1 hx
   refine .inr (hS1 _ ⟨t,ρ,by omega,by omega,funext fun c=>?_⟩)
   rw [Bool.eq_iff_iff,char hk,ptB_iff]
   constructor
   ·rintro ⟨σ,s1,s2,s3⟩ i i1 i2 i3
    have:σ=ρ:=Classical.byContradiction fun hne=>h2 ⟨σ,s1,ρ,m1,s2,m2,hne⟩
    subst this
    have h5:i % 2=1 - y:=of_decide_eq_true i3
    exact (s3 i i1 i2 ((free i2).2 h5)).symm
   ·intro h
    refine ⟨ρ,m1,m2,fun i i1 i2 i3=>?_⟩
    exact (h i i1 i2 (decide_eq_true ((free i2).1 i3))).symm
 by_cases hm:((List.range ((t+1 - y) / 2+1)).map fun j=>2 ^ (t / 2+j)).sum≤M
 ·obtain ⟨L,l1,l2⟩:=A
  refine ⟨L,by rw [Nat.min_eq_left hm]; exact l1,?_⟩
  rintro G ⟨k,π,rfl⟩ a hd
  exact .inl (l2 k π a (dep hd).1)
 ·obtain ⟨L,l1,l2⟩:=B
  refine ⟨L,by rw [Nat.min_eq_right (by omega)]; exact l1,?_⟩
  rintro G ⟨k,π,rfl⟩ a hd
  exact l2 k π a (dep hd).1 hd
end Go.Sy
end
