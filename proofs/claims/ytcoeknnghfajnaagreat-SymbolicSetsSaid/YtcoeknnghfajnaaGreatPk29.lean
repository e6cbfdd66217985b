/-
  A part of the proof of this claim's statement (SyEI, SyEJ, SyEK): plain theorems; no conditions beyond those each names.
-/
import Derived.Test.YtcoeknnghfajnaaGreatPk28
set_option maxRecDepth 100000
set_option linter.unusedSimpArgs false
set_option linter.unusedVariables false
set_option linter.unusedSectionVars false
section
namespace Go.Sy
open Go.Bd
theorem sup_sum {g:Nat→Nat} (o:Nat→Nat) {N:Nat} (hg:∀x y,x+y≤N→g x+g y≤g (x+y)+g 0):∀V,sm V o≤N→sm V (fun v=>g (o v))≤g (sm V o)+V * g 0
 | 0,_=>by rw [sm_zero,sm_zero]; omega
 | V+1,h=>by
  rw [sm_succ] at h
  have ih:=sup_sum o hg V (by omega)
  have h1:=hg (sm V o) (o V) h
  rw [sm_succ,sm_succ,Nat.succ_mul]
  omega
theorem sup_pow (e:Nat):∀x y,2 ^ (e+x)+2 ^ (e+y)≤2 ^ (e+(x+y))+2 ^ (e+0):=fun x y=>by
 have e1:2 ^ (e+(x+y))=2 ^ e * (2 ^ x * 2 ^ y):=by rw [Nat.pow_add,Nat.pow_add]
 rw [e1,Nat.pow_add,Nat.pow_add,Nat.add_zero,←Nat.mul_add]
 have h1:1≤2 ^ x:=Nat.one_le_two_pow
 have h2:1≤2 ^ y:=Nat.one_le_two_pow
 obtain ⟨p,hp⟩:∃p,2 ^ x=p+1:=⟨2 ^ x - 1,by omega⟩
 obtain ⟨q,hq⟩:∃q,2 ^ y=q+1:=⟨2 ^ y - 1,by omega⟩
 rw [hp,hq]
 have:p+1+(q+1)≤(p+1) * (q+1)+1:=by rw [Nat.mul_add,Nat.add_mul]; omega
 have h3:2 ^ e * (p+1+(q+1))≤2 ^ e * ((p+1) * (q+1)+1):=Nat.mul_le_mul_left _ this
 rw [Nat.mul_add (2 ^ e) ((p+1) * (q+1)) 1,Nat.mul_one] at h3
 exact h3
theorem sup_det:∀e,e≤2→∀x y,x+y≤3→(2 ^ x+1) ^ 2 ^ e+(2 ^ y+1) ^ 2 ^ e≤(2 ^ (x+y)+1) ^ 2 ^ e+(2 ^ 0+1) ^ 2 ^ e:=fun e he x y h=>by
 have key:∀e,e < 3→∀x,x < 4→∀y,y < 4→x+y≤3→(2 ^ x+1) ^ 2 ^ e+(2 ^ y+1) ^ 2 ^ e≤(2 ^ (x+y)+1) ^ 2 ^ e+(2 ^ 0+1) ^ 2 ^ e:=by decide
 exact key e (by omega) x (by omega) y (by omega) h
theorem flt_ev {b t:Nat}:((List.range (2 * b)).filter fun i=>decide (t≤i) && decide (i % 2=0)).length=b - (t+1) / 2:=by
 rw [len_filt]
 induction b with
 | zero=>simp [sm]
 | succ b ih =>
  rw [show 2 * (b+1)=2 * b+1+1 by omega,sm_succ,sm_succ,ih]
  have h1:¬(decide (t≤2 * b+1) && decide ((2 * b+1) % 2=0))=true:=by
   rw [decide_eq_false (show ¬(2 * b+1) % 2=0 by omega)]; simp
  rw [if_neg h1]
  by_cases h:t≤2 * b
  ·rw [if_pos (by simp [h])]; omega
  ·rw [if_neg (by simp [h])]; omega
theorem flt_od {b t:Nat}:((List.range (2 * b)).filter fun i=>decide (t≤i) && decide (i % 2=1)).length=b - t / 2:=by
 rw [len_filt]
 induction b with
 | zero=>simp [sm]
 | succ b ih =>
  rw [show 2 * (b+1)=2 * b+1+1 by omega,sm_succ,sm_succ,ih]
  have h1:¬(decide (t≤2 * b) && decide (2 * b % 2=1))=true:=by
   rw [decide_eq_false (show ¬2 * b % 2=1 by omega)]; simp
  rw [if_neg h1]
  by_cases h:t≤2 * b+1
  ·rw [if_pos (by simp [h])]; omega
  ·rw [if_neg (by simp [h])]; omega
def oV (Y:Bts) (b v t:Nat):Nat:=((List.range (2 * b)).filter fun i=>decide (t≤i) && decide (i % 2=1) && (decide (Y.sB v≤i / 2) && decide (i / 2 < Y.eB v))).length
theorem cntF_V {Y:Bts} {b v t:Nat}:cntF (relVr Y v) (2 * b) t=(b - (t+1) / 2)+oV Y b v t:=by
 unfold cntF oV
 rw [←flt_ev (b:=b) (t:=t),len_filt,len_filt,len_filt,←sm_add]
 refine sm_congr fun i _=>?_
 unfold relVr
 rcases Nat.mod_two_eq_zero_or_one i with h | h
 ·simp [h]
 ·simp [h]
theorem cntP_V {Y:Bts} {b v t:Nat}:cntP (relVr Y v) (2 * b) t 0=b - (t+1) / 2∧cntP (relVr Y v) (2 * b) t 1=oV Y b v t:=by
 constructor
 ·unfold cntP
  rw [←flt_ev (b:=b) (t:=t)]
  congr 1
  refine List.filter_congr fun i _=>?_
  unfold relVr
  rcases Nat.mod_two_eq_zero_or_one i with h | h <;> simp [h]
 ·unfold cntP oV
  congr 1
  refine List.filter_congr fun i _=>?_
  unfold relVr
  rcases Nat.mod_two_eq_zero_or_one i with h | h <;> simp [h]
theorem oV_sum {Y:Bts} {b V t:Nat} (hY:BtsOk Y b V):sm V (fun v=>oV Y b v t)≤b - t / 2:=by
 rw [←flt_od (b:=b) (t:=t),len_filt]
 have e:∀v,v < V→oV Y b v t=sm (2 * b) fun i=>if (decide (t≤i) && decide (i % 2=1) && (decide (Y.sB v≤i / 2) && decide (i / 2 < Y.eB v)))=true then 1 else 0:=fun v _=>len_filt _ _
 rw [sm_congr e,sm_swap]
 refine sm_le fun i _=>?_
 by_cases h:(decide (t≤i) && decide (i % 2=1))=true
 ·rw [if_pos h]
  by_cases hv:∃v,v < V∧Y.sB v≤i / 2∧i / 2 < Y.eB v
  ·obtain ⟨v,v1,v2,v3⟩:=hv
   refine Nat.le_trans (sm_le (g:=fun u=>if u=v then 1 else 0) fun u hu=>?_) (Nat.le_of_eq (sm_one v1))
   by_cases e:u=v
   ·rw [if_pos e]; split <;> omega
   ·rw [if_neg e,if_neg]
    ·exact Nat.le_refl _
    ·intro hh
     simp only [Bool.and_eq_true,decide_eq_true_eq] at hh
     rcases Nat.lt_trichotomy u v with h | h | h
     ·have:=hY.ord u v h v1; omega
     ·exact e h
     ·have:=hY.ord v u h hu; omega
  ·refine Nat.le_trans (Nat.le_of_eq ((sm_congr (g:=fun _=>0) fun u hu=>?_).trans (by rw [sm_const]; omega))) (Nat.zero_le _)
   rw [if_neg]
   intro hh
   simp only [Bool.and_eq_true,decide_eq_true_eq] at hh
   exact hv ⟨u,hu,hh.2⟩
 ·rw [if_neg h]
  refine Nat.le_of_eq ((sm_congr (g:=fun _=>0) fun u hu=>?_).trans (by rw [sm_const]; omega))
  rw [if_neg]
  intro hh
  rw [Bool.and_eq_true] at hh
  exact h hh.1
def zV (b t0 t1 V:Nat):Nat:=sm (2 * b) (fun t=>(if t0≤t then 2 ^ ((b - (t+1) / 2)+(b - t / 2))+V * 2 ^ (b - (t+1) / 2) else 0)+if t1≤t then (2 ^ (b - t / 2)+1) ^ 2 ^ (b - (t+1) / 2)+V * 2 ^ 2 ^ (b - (t+1) / 2) else 0)
theorem cov_zV {Y:Bts} {b V t0 t1:Nat} (hY:BtsOk Y b V) (h1:∀t,t1≤t→b - (t+1) / 2≤2∧b - t / 2≤3):CovW (2 * b) (fun G=>∃v,v < V∧(PtS (relVr Y v) (2 * b) t0 G∨DetS (relVr Y v) (2 * b) t1 G)) (zV b t0 t1 V):=by
 refine (CovW.sum (n:=2 * b) (fun v G=>PtS (relVr Y v) (2 * b) t0 G∨DetS (relVr Y v) (2 * b) t1 G) _ V fun v _=>(cov_pt (relVr Y v) (2 * b) t0).or (cov_det2 (relVr Y v) (2 * b) t1)).mono (fun _ h=>h) ?_
 have e:((List.range V).map fun v=>((List.range (2 * b)).map fun t=>if t0≤t∧relVr Y v t=true then 2 ^ cntF (relVr Y v) (2 * b) t else 0).sum+detN (relVr Y v) (2 * b) t1).sum≤sm V fun v=>sm (2 * b) fun t=>(if t0≤t then 2 ^ ((b - (t+1) / 2)+oV Y b v t) else 0)+if t1≤t then (2 ^ oV Y b v t+1) ^ 2 ^ (b - (t+1) / 2) else 0:=by
  refine sm_le fun v _=>?_
  rw [sm_add]
  refine Nat.add_le_add (sm_le fun t _=>?_) (sm_le fun t _=>?_)
  ·rw [cntF_V]
   by_cases h:t0≤t
   ·rw [if_pos h]
    split
    ·exact Nat.le_refl _
    ·exact Nat.zero_le _
   ·rw [if_neg h,if_neg fun hh=>h hh.1]; exact Nat.le_refl _
  ·rw [cntP_V.1,cntP_V.2]; exact Nat.le_refl _
 refine Nat.le_trans e ?_
 unfold zV
 rw [sm_swap]
 refine sm_le fun t _=>?_
 rw [sm_add]
 have ho:=oV_sum (t:=t) hY
 refine Nat.add_le_add ?_ ?_
 ·by_cases h:t0≤t
  ·rw [if_pos h,sm_congr (g:=fun v=>2 ^ ((b - (t+1) / 2)+oV Y b v t)) fun v _=>if_pos h]
   have:=sup_sum (g:=fun x=>2 ^ ((b - (t+1) / 2)+x)) (fun v=>oV Y b v t) (N:=b - t / 2) (fun x y _=>sup_pow _ x y) V ho
   have h2:2 ^ ((b - (t+1) / 2)+sm V fun v=>oV Y b v t)≤2 ^ ((b - (t+1) / 2)+(b - t / 2)):=Nat.pow_le_pow_right (by omega) (by omega)
   exact Nat.le_trans this (Nat.add_le_add h2 (Nat.le_refl _))
  ·rw [if_neg h,sm_congr (g:=fun _=>0) fun v _=>if_neg h,sm_const]; omega
 ·by_cases h:t1≤t
  ·rw [if_pos h,sm_congr (g:=fun v=>(2 ^ oV Y b v t+1) ^ 2 ^ (b - (t+1) / 2)) fun v _=>if_pos h]
   obtain ⟨h3,h4⟩:=h1 t h
   have:=sup_sum (g:=fun x=>(2 ^ x+1) ^ 2 ^ (b - (t+1) / 2)) (fun v=>oV Y b v t) (N:=3) (fun x y hxy=>sup_det _ h3 x y hxy) V (by omega)
   have h2:(2 ^ (sm V fun v=>oV Y b v t)+1) ^ 2 ^ (b - (t+1) / 2)≤(2 ^ (b - t / 2)+1) ^ 2 ^ (b - (t+1) / 2):=Nat.pow_le_pow_left (by have:=Nat.pow_le_pow_right (show 0 < 2 by omega) ho; omega) _
   exact Nat.le_trans this (Nat.add_le_add h2 (Nat.le_refl _))
  ·rw [if_neg h,sm_congr (g:=fun _=>0) fun v _=>if_neg h,sm_const]; omega
end Go.Sy
namespace Go.Proofs.YtcoeknnghfajnaaGreat
open Go Go.W Go.Tk Go.Rx Go.Bd Go.Sy Go.Maps
def tA (b:Nat):Nat:=2 * b - 11
def tB (b:Nat):Nat:=2 * b - 5
def ShZ (vars:List Nat) (K:BFn):Prop:=ShS (nBits vars) K∨(PtS allR (2 * nBits vars) (tA (nBits vars)) K∨DetS allR (2 * nBits vars) (tB (nBits vars)) K) ∨
 (∃v,v < vars.length∧(PtS (relVr (btsX vars) v) (2 * nBits vars) (tA (nBits vars)) K∨DetS (relVr (btsX vars) v) (2 * nBits vars) (tB (nBits vars)) K)) ∨
 (DetS (relF (nBits vars - 1)) (2 * nBits vars) (tB (nBits vars)) K∨DetS (relF (nBits vars - 2)) (2 * nBits vars) (tB (nBits vars)) K)∨(PtS (parR 0) (2 * nBits vars) 0 K∨PtS (parR 1) (2 * nBits vars) 0 K)
def ptN2 (rel:Nat→Bool) (n t0:Nat):Nat:=((List.range n).map fun t=>if t0≤t∧rel t=true then 2 ^ cntF rel n t else 0).sum
def shN (b V:Nat):Nat:=512+((ptN2 allR (2 * b) (tA b)+detN allR (2 * b) (tB b))+(zV b (tA b) (tB b) V+((detN (relF (b - 1)) (2 * b) (tB b)+detN (relF (b - 2)) (2 * b) (tB b))+(ptN2 (parR 0) (2 * b) 0+ptN2 (parR 1) (2 * b) 0))))
theorem cov_shZ (vars:List Nat):CovW (2 * nBits vars) (ShZ vars) (shN (nBits vars) vars.length) :=
 (cov_sh _ _).or (((cov_pt _ _ _).or (cov_det2 _ _ _)).or ((cov_zV (t0:=tA (nBits vars)) (t1:=tB (nBits vars)) (btsX_ok vars) fun t ht=>by unfold tB at ht; omega).or (((cov_det2 _ _ _).or (cov_det2 _ _ _)).or ((cov_pt _ _ _).or (cov_pt _ _ _)))))
section
variable {vars:List Nat}
theorem shZ_s0 {nx:Nat} (hn:nx < 2) {K:BFn} (h:∀a c:Nat→Bool,(∀p,nBits vars - 3≤p→p < nBits vars→a (2 * p+nx)=c (2 * p+nx))→K a=K c):ShZ vars K:=.inl ⟨nx,hn,h⟩
theorem shZ_pa {K:BFn} (h:PtS allR (2 * nBits vars) (tA (nBits vars)) K):ShZ vars K:=.inr (.inl (.inl h))
theorem shZ_da {K:BFn} (h:DetS allR (2 * nBits vars) (tB (nBits vars)) K):ShZ vars K:=.inr (.inl (.inr h))
theorem shZ_pv {v:Nat} {K:BFn} (hv:v < vars.length) (h:PtS (relVr (btsX vars) v) (2 * nBits vars) (tA (nBits vars)) K):ShZ vars K:=.inr (.inr (.inl ⟨v,hv,.inl h⟩))
theorem shZ_dv {v:Nat} {K:BFn} (hv:v < vars.length) (h:DetS (relVr (btsX vars) v) (2 * nBits vars) (tB (nBits vars)) K):ShZ vars K:=.inr (.inr (.inl ⟨v,hv,.inr h⟩))
theorem shZ_df {f:Nat} {K:BFn} (h1:tB (nBits vars) / 2 < f) (h2:f < nBits vars) (h:DetS (relF f) (2 * nBits vars) (tB (nBits vars)) K):ShZ vars K:=by
 unfold tB at h1
 rcases (show f=nBits vars - 1∨f=nBits vars - 2 by omega) with rfl | rfl
 ·exact .inr (.inr (.inr (.inl (.inl h))))
 ·exact .inr (.inr (.inr (.inl (.inr h))))
theorem shZ_pp {x:Nat} {K:BFn} (hx:x < 2) (h:PtS (parR x) (2 * nBits vars) 0 K):ShZ vars K:=by
 rcases (show x=0∨x=1 by omega) with rfl | rfl
 ·exact .inr (.inr (.inr (.inr (.inl h))))
 ·exact .inr (.inr (.inr (.inr (.inr h))))
end
theorem cov_cu {vars:List Nat} (h64:∀n ∈ vars,1≤n∧n≤64) {l:List Go.Tk.Fc} (hl:FcOk vars l):CovW (2 * nBits vars) (CuZ vars l) (2 * nBits vars):=by
 have hfc:∀j a,fcB vars l j a=cubeB (litL vars (l.drop j)) a:=fun j a=>by
  have h:∀f ∈ l.drop j,f.1 < vars.length∧f.2 < vars.getD f.1 0:=fun f hf=>hl.rng f (List.mem_of_mem_drop hf)
  have e:∀{l:List Go.Tk.Fc},(∀f ∈ l,f.1 < vars.length∧f.2 < vars.getD f.1 0)→(l.all fun f=>decide (rv vars a 0 f.1=f.2))=cubeB (litL vars l) a:=fun {l}=>by
   induction l with
   | nil=>exact fun _=>rfl
   | cons f l ih =>
    intro h
    have e:cubeB (litL vars (f :: l)) a=(cubeB (litF vars f) a && cubeB (litL vars l) a):=by
     unfold litL cubeB
     rw [List.flatMap_cons,List.all_append]
    rw [List.all_cons,ih fun g hg=>h g (by simp [hg]),e,cub_litF h64 (h f (by simp))]
  exact e h
 let C:Nat→BFn:=fun q=>cubeB ((litL vars l).filter fun p=>decide (2 * q≤p.1))
 refine ⟨((List.range (nBits vars)).map C) ++ (List.range (nBits vars)).map fun q=>fun a=>!C q a,by rw [List.length_append,List.length_map,List.length_map,List.length_range]; omega,?_⟩
 -- a part of a cube that depends on the next variable
 have key:∀j t a,t < 2 * nBits vars→Dep (fun c=>cubeB (litL vars (l.drop j)) (pfx a t c)) t→∃q,q < nBits vars∧(fun c=>cubeB (litL vars (l.drop j)) (pfx a t c))=C q:=fun j t a ht hd=>by
  obtain ⟨x,hx⟩:=dep_true hd
  have hA:cubA (litL vars (l.drop j)) t a=true:=by
   have:(cubA (litL vars (l.drop j)) t a && _)=true:=(cub_split _ t a x).symm.trans hx
   rw [Bool.and_eq_true] at this
   exact this.1
  have e1:∀c,cubeB (litL vars (l.drop j)) (pfx a t c)=cubeB ((litL vars (l.drop j)).filter fun p=>decide (t≤p.1)) c:=fun c=>by rw [cub_split,hA,Bool.true_and]
  -- the variable is one of its literals
  have hlit:∃p ∈ litL vars (l.drop j),p.1=t:=Classical.byContradiction fun hn=>by
   obtain ⟨y,hy⟩:=hd
   apply hy
   show cubeB _ (pfx a t (upd y t true))=cubeB _ (pfx a t (upd y t false))
   rw [e1,e1,Bool.eq_iff_iff]
   unfold cubeB
   rw [List.all_eq_true,List.all_eq_true]
   have e:∀p ∈ (litL vars (l.drop j)).filter fun p=>decide (t≤p.1),upd y t true p.1=upd y t false p.1:=fun p hp=>by
    have:p.1≠t:=fun e=>hn ⟨p,(List.mem_filter.1 hp).1,e⟩
    rw [upd_ne this,upd_ne this]
   exact ⟨fun h p hp=>by rw [←e p hp]; exact h p hp,fun h p hp=>by rw [e p hp]; exact h p hp⟩
  obtain ⟨p,hp,rfl⟩:=hlit
  obtain ⟨f,hf,hpf⟩:=List.mem_flatMap.1 hp
  obtain ⟨k,hk,rfl⟩:=List.mem_map.1 hpf
  have hk:=List.mem_range.1 hk
  refine ⟨bP vars f.1+k,by show _; have:2 * (bP vars f.1+k) < 2 * nBits vars:=ht; omega,funext fun c=>?_⟩
  rw [e1]
  show cubeB _ c=cubeB ((litL vars l).filter fun p=>decide (2 * (bP vars f.1+k)≤p.1)) c
  congr 1
  have es:litL vars l=litL vars (l.take j) ++ litL vars (l.drop j):=by
   unfold litL
   rw [←List.flatMap_append,List.take_append_drop]
  rw [es,List.filter_append]
  have:(litL vars (l.take j)).filter (fun p=>decide (2 * (bP vars f.1+k)≤p.1))=[]:=by
   rw [List.filter_eq_nil_iff]
   intro r hr
   obtain ⟨g,hg,hrg⟩:=List.mem_flatMap.1 hr
   obtain ⟨k',hk',rfl⟩:=List.mem_map.1 hrg
   have hk':=List.mem_range.1 hk'
   have hgf:g.1 < f.1:=by
    have h1:=hl.asc
    rw [←List.take_append_drop j l,List.pairwise_append] at h1
    exact h1.2.2 g hg f hf
   have h2:=bP_next (hl.rng g (List.mem_of_mem_take hg)).1
   have h3:=bP_mono (vars:=vars) (show g.1+1≤f.1 by omega)
   simp only [decide_eq_true_eq]
   omega
  rw [this,List.nil_append]
 rintro G hG t a ht hd
 rcases hG with ⟨j,hj,rfl⟩ | rfl
 ·have e:fcB vars l j=cubeB (litL vars (l.drop j)):=funext (hfc j)
  rw [e] at hd ⊢
  obtain ⟨q,hq,h⟩:=key j t a ht hd
  rw [h]
  exact List.mem_append_left _ (List.mem_map.2 ⟨q,List.mem_range.2 hq,rfl⟩)
 ·have e:(fun a=>!hdB (rs vars a 0) l)=fun a=>!cubeB (litL vars (l.drop 0)) a:=funext fun a=>by rw [List.drop_zero,cub_litL h64 hl.rng]
  rw [e] at hd ⊢
  have hd2:Dep (fun c=>cubeB (litL vars (l.drop 0)) (pfx a t c)) t:=by
   obtain ⟨y,hy⟩:=hd
   exact ⟨y,fun h=>hy (by show (!_)=(!_); exact congrArg (fun x=>!x) h)⟩
  obtain ⟨q,hq,h⟩:=key 0 t a ht hd2
  have h':(fun c=>!cubeB (litL vars (l.drop 0)) (pfx a t c))=fun c=>!C q c:=funext fun c=>congrArg (fun x=>!x) (congrFun h c)
  rw [h']
  exact List.mem_append_right _ (List.mem_map.2 ⟨q,List.mem_range.2 hq,rfl⟩)
def relZ (b:Nat) (p:Bool):Nat:=((List.range (2 * b)).map (rlM b (tA b) (tB b))).sum+(((List.range (2 * b)).map (opM b (tA b) (tB b))).sum+(18 * b+if p=true then ptZ (2 * b) (tA b) (tB b) (2 ^ (b - 1)) else 0))
def preL (vars:List Nat) (o:No):Bool:=!(litL vars o.pre).isEmpty
theorem rlF_end {b:Nat} {sb:Nat→BFn} {f:Nat} (h:b≤f) (a:Nat→Bool):rlF b sb f a=true:=rlF_iff.2 fun q h1 h2=>by omega
theorem pre_pts {T:Nt} {o:No} (h64:∀n ∈ T.vars,1≤n∧n≤64) (ho:NoG T.vars o) (hp:preL T.vars o=true) (Q:BFn) (hQ:∀a,Q a=true→cubeB (litL T.vars o.pre) a=true∧rlF (nBits T.vars) (sbX T o) 0 a=true) :
  ∃Λ:List (Nat→Bool),Λ.length≤2 ^ (nBits T.vars - 1)∧∀a,Q a=true→∃π ∈ Λ,∀i,i < 2 * nBits T.vars→a i=π i:=by
 obtain ⟨p,hpm⟩:∃p,p ∈ litL T.vars o.pre:=by
  unfold preL at hp
  cases hl:litL T.vars o.pre with
  | nil=>rw [hl] at hp; cases hp
  | cons p l=>exact ⟨p,by simp⟩
 obtain ⟨p1,p2⟩:=lit_even h64 (fun f hf=>(ho.pre.rng f hf).1) p hpm
 obtain ⟨Λ,l1,l2⟩:=lst_det (((List.range (nBits T.vars)).filter fun q=>!decide (2 * q=p.1)).map fun q=>2 * q) (fun i=>i < 2 * nBits T.vars) (fun a=>Q a=true) fun a c ha hc hi i hib=>by
  obtain ⟨a1,a2⟩:=hQ a ha
  obtain ⟨c1,c2⟩:=hQ c hc
  have ev:∀q,q < nBits T.vars→a (2 * q)=c (2 * q):=fun q hq=>by
   by_cases e:2 * q=p.1
   ·unfold cubeB at a1 c1
    rw [List.all_eq_true] at a1 c1
    have h1:=a1 p hpm
    have h2:=c1 p hpm
    rw [beq_iff_eq] at h1 h2
    rw [e,h1,h2]
   ·exact hi _ (List.mem_map.2 ⟨q,List.mem_filter.2 ⟨List.mem_range.2 hq,by simp [e]⟩,rfl⟩)
  rcases Nat.mod_two_eq_zero_or_one i with h0 | h0
  ·have:=ev (i / 2) (by omega)
   rwa [show 2 * (i / 2)=i by omega] at this
  ·have h1:=rlF_iff.1 a2 (i / 2) (Nat.zero_le _) (by omega)
   have h2:=rlF_iff.1 c2 (i / 2) (Nat.zero_le _) (by omega)
   rw [show 2 * (i / 2)+1=i by omega] at h1 h2
   rw [h1,h2]
   exact sbX_ev h64 ho _ (by omega) a c ev
 refine ⟨Λ,?_,l2⟩
 rw [List.length_map] at l1
 have:((List.range (nBits T.vars)).filter fun q=>!decide (2 * q=p.1)).length+1=nBits T.vars:=by
  rw [len_filt]
  have e:∀q,q < nBits T.vars→(if (!decide (2 * q=p.1))=true then 1 else 0)+(if q=p.1 / 2 then 1 else 0)=1:=fun q _=>by
   by_cases h:2 * q=p.1
   ·rw [if_neg (by simp [h]),if_pos (by omega)]
   ·rw [if_pos (by simp [h]),if_neg (by omega)]
  have h1:=sm_add (f:=fun q=>if (!decide (2 * q=p.1))=true then 1 else 0) (g:=fun q=>if q=p.1 / 2 then 1 else 0) (nBits T.vars)
  rw [sm_one (show p.1 / 2 < nBits T.vars by omega),sm_congr e,sm_const] at h1
  omega
 rw [show nBits T.vars - 1=((List.range (nBits T.vars)).filter fun q=>!decide (2 * q=p.1)).length by omega]
 exact l1
theorem cov_rel5 {T:Nt} {o:No} (h64:∀n ∈ T.vars,1≤n∧n≤64) (ho:NoG T.vars o) (he:o.effs.length≤8) {W0:BFn→Prop} (h1:∀G,SaZ T.vars G→W0 G) (h2:∀G,ValZ T.vars G→W0 G) :
  CovR (2 * nBits T.vars) (ShZ T.vars) (fun G=>RelS2 T o G∧¬W0 G) (relZ (nBits T.vars) (preL T.vars o)):=by
 have cR:=cov_rlf (b:=nBits T.vars) (t0:=tA (nBits T.vars)) (t1:=tB (nBits T.vars)) (S:=ShZ T.vars) (sbX_ev h64 ho) (fun K=>shZ_pa) (fun K=>shZ_da) fun f K a b c=>shZ_df a b c
 have cO:=cov_opf (X:=effX T.vars o) (Y:=btsX T.vars) (t0:=tA (nBits T.vars)) (t1:=tB (nBits T.vars)) (S:=ShZ T.vars) (effX_ok h64 ho) (btsX_ok T.vars) (effX_lab h64 ho) he (fun K h=>shZ_s0 (nx:=0) (by omega) h) (fun v K hv h=>shZ_pv hv h) fun v K hv h=>shZ_dv hv h
 have cC:CovR (2 * nBits T.vars) (ShZ T.vars) (fun G=>CuZ T.vars o.pre G∨∃j,j < o.effs.length∧∃x,o.effs[j]? = some x∧CuZ T.vars x.cnd G) (18 * nBits T.vars) :=
  ((cov_cu h64 ho.pre).or (CovW.eachW (fun j G=>∃x,o.effs[j]? = some x∧CuZ T.vars x.cnd G) _ fun j _=>cov_opt fun x hx=>cov_cu h64 (ho.cnd x (List.mem_of_getElem? hx)))).toR.mono (fun _ h=>h) (by
   have:o.effs.length * (2 * nBits T.vars)≤8 * (2 * nBits T.vars):=Nat.mul_le_mul_right _ he
   omega)
 have fin0:∀a c:Nat→Bool,(∀i,i < 2 * nBits T.vars→a i=c i)→(cubeB (litL T.vars o.pre) a && rlF (nBits T.vars) (sbX T o) 0 a)=(cubeB (litL T.vars o.pre) c && rlF (nBits T.vars) (sbX T o) 0 c):=fun a c h=>by
  rw [rlF_fin (sbX_ev h64 ho) h,cub_ev (lit_even h64 fun f hf=>(ho.pre.rng f hf).1) fun q hq=>h _ (by omega)]
 have cP:CovR (2 * nBits T.vars) (ShZ T.vars) (fun G=>preL T.vars o=true∧G=fun a=>cubeB (litL T.vars o.pre) a && rlF (nBits T.vars) (sbX T o) 0 a) (if preL T.vars o=true then ptZ (2 * nBits T.vars) (tA (nBits T.vars)) (tB (nBits T.vars)) (2 ^ (nBits T.vars - 1)) else 0):=by
  by_cases hp:preL T.vars o=true
  ·rw [if_pos hp]
   obtain ⟨Λ,l1,l2⟩:=pre_pts h64 ho hp (fun a=>cubeB (litL T.vars o.pre) a && rlF (nBits T.vars) (sbX T o) 0 a) fun a ha=>by rw [Bool.and_eq_true] at ha; exact ha
   refine (cov_ptz (t0:=tA (nBits T.vars)) (t1:=tB (nBits T.vars)) (S:=ShZ T.vars) fin0 l1 l2 (fun a c ha hc ev i hi=>?_) (fun K=>shZ_pa) fun K=>shZ_da).mono (fun G h=>h.2) (Nat.le_refl _)
   rw [Bool.and_eq_true] at ha hc
   rcases Nat.mod_two_eq_zero_or_one i with h0 | h0
   ·have:=ev (i / 2) (by omega)
    rwa [show 2 * (i / 2)=i by omega] at this
   ·have e1:=rlF_iff.1 ha.2 (i / 2) (Nat.zero_le _) (by omega)
    have e2:=rlF_iff.1 hc.2 (i / 2) (Nat.zero_le _) (by omega)
    rw [show 2 * (i / 2)+1=i by omega] at e1 e2
    rw [e1,e2]
    exact sbX_ev h64 ho _ (by omega) a c fun p hp=>ev p (by omega)
  ·rw [if_neg hp]
   exact (CovR.none _ _).mono (fun G h=>hp h.1) (Nat.le_refl _)
 have cE:CovR (2 * nBits T.vars) (ShZ T.vars) (fun G=>∃f,nBits T.vars≤f∧G=rlF (nBits T.vars) (sbX T o) f) 0:=by
  refine ⟨[],Nat.le_refl _,?_⟩
  rintro G ⟨f,hf,rfl⟩ t a ht ⟨x,hx⟩
  exact absurd (by show rlF _ _ _ _=rlF _ _ _ _; rw [rlF_end hf,rlF_end hf]) hx
 refine (cR.or (cO.or (cC.or (cP.or cE)))).mono (fun G ⟨hG,hW⟩=>?_) (by unfold relZ; omega)
 have hf:∀f,G=rlF (nBits T.vars) (sbX T o) f→(∃f,f < nBits T.vars∧G=rlF (nBits T.vars) (sbX T o) f)∨∃f,nBits T.vars≤f∧G=rlF (nBits T.vars) (sbX T o) f:=fun f e=>by
  by_cases h:f < nBits T.vars
  ·exact .inl ⟨f,h,e⟩
  ·exact .inr ⟨f,by omega,e⟩
 rcases rel2_in h64 ho hG with h | h | (h | ⟨x,hx,h⟩) | h | ⟨j,hj,h⟩ | h
 ·exact absurd (h1 G h) hW
 ·exact absurd (h2 G h) hW
 ·exact .inr (.inr (.inl (.inl h)))
 ·obtain ⟨j,hj⟩:=List.mem_iff_getElem?.1 hx
  exact .inr (.inr (.inl (.inr ⟨j,(List.getElem?_eq_some_iff.1 hj).1,x,hj,h⟩)))
 ·exact .inr (.inl h)
 ·rcases hf _ h with h | h
  ·exact .inl h
  ·exact .inr (.inr (.inr (.inr h)))
 ·by_cases hp:preL T.vars o=true
  ·exact .inr (.inr (.inr (.inl ⟨hp,h⟩)))
  ·have hnil:litL T.vars o.pre=[]:=by
    unfold preL at hp
    cases hl:litL T.vars o.pre with
    | nil=>rfl
    | cons p l=>rw [hl] at hp; simp at hp
   have e:G=rlF (nBits T.vars) (sbX T o) 0:=by
    rw [h]
    funext a
    rw [hnil]
    rfl
   rcases hf _ e with h | h
   ·exact .inl h
   ·exact .inr (.inr (.inr (.inr h)))
end Go.Proofs.YtcoeknnghfajnaaGreat
end
section
namespace Go.Proofs.YtcoeknnghfajnaaGreat
open Go Go.W Go.Tk Go.Rx Go.Bd Go.Sy Go.Maps
section
variable {T:Nt} {o:No} (h64:∀n ∈ T.vars,1≤n∧n≤64) (ho:NoG T.vars o)
include h64 ho
theorem relB_cub {a:Nat→Bool} (h:relB T o a=true):cubeB (litL T.vars o.pre) a=true∧rlF (nBits T.vars) (sbX T o) 0 a=true:=by
 unfold relB at h
 rw [Bool.and_eq_true,decide_eq_true_eq] at h
 refine ⟨by rw [cub_litL h64 fun f hf=>ho.pre.rng f hf]; exact h.1,rlF_iff.2 fun q _ h2=>?_⟩
 have hs:=rel_all.2 h.2
 rw [←bP_all] at h2
 obtain ⟨v,k,hv,hk,rfl⟩:=bP_split T.vars.length (Nat.le_refl _) q h2
 have hn:=bP_next hv
 rw [sbX_at h64 ho hv (by omega) (by omega)]
 have:=hs v hv
 unfold relV at this
 exact (ch_sv h64 ho hv).1 (of_decide_eq_true this) _ (by omega) (by omega)
theorem relB_det {a c:Nat→Bool} (ha:relB T o a=true) (hc:relB T o c=true) (ev:∀q,2 * q < 2 * nBits T.vars→a (2 * q)=c (2 * q)):∀i,i < 2 * nBits T.vars→a i=c i:=fun i hi=>by
 rcases Nat.mod_two_eq_zero_or_one i with h0 | h0
 ·have:=ev (i / 2) (by omega)
  rwa [show 2 * (i / 2)=i by omega] at this
 ·have e1:=rlF_iff.1 (relB_cub h64 ho ha).2 (i / 2) (Nat.zero_le _) (by omega)
  have e2:=rlF_iff.1 (relB_cub h64 ho hc).2 (i / 2) (Nat.zero_le _) (by omega)
  rw [show 2 * (i / 2)+1=i by omega] at e1 e2
  rw [e1,e2]
  exact sbX_ev h64 ho _ (by omega) a c fun p hp=>ev p (by omega)
end
theorem cov_two {T:Nt} {o:No} {y M:Nat} (h64:∀n ∈ T.vars,1≤n∧n≤64) (ho:NoG T.vars o) (hy:y < 2) {F:BFn} (hF:∀a c:Nat→Bool,(∀i,i < 2 * nBits T.vars→a i=c i)→F a=F c) (hR:∀a,F a=true→relB T o a=true) (hp:∃Λ:List (Nat→Bool),Λ.length≤M∧∀a,F a=true→∃π ∈ Λ,∀i,i < 2 * nBits T.vars→a i=π i) :
  CovR (2 * nBits T.vars) (ShZ T.vars) (fun G=>G=F∨∃H,Bd.IsC F H∧∀a,G a=true↔qS 1 (inn T y) H a) (ptZ (2 * nBits T.vars) (tA (nBits T.vars)) (tB (nBits T.vars)) M+((List.range (2 * nBits T.vars)).map (exM (nBits T.vars) y M)).sum):=by
 obtain ⟨Λ0,l1,l2⟩:=hp
 -- points of the function alone
 have l1':(Λ0.filter F).length≤M:=Nat.le_trans (List.length_filter_le _ _) l1
 have l2':∀a,F a=true→∃π ∈ Λ0.filter F,∀i,i < 2 * nBits T.vars→a i=π i:=fun a ha=>by
  obtain ⟨π,m1,m2⟩:=l2 a ha
  exact ⟨π,List.mem_filter.2 ⟨m1,by rw [←hF a π m2]; exact ha⟩,m2⟩
 refine (cov_ptz (t0:=tA (nBits T.vars)) (t1:=tB (nBits T.vars)) (S:=ShZ T.vars) hF l1' l2' (fun a c ha hc ev=>relB_det h64 ho (hR a ha) (hR c hc) ev) (fun K=>shZ_pa) fun K=>shZ_da).or ?_
 refine (cov_exl (b:=nBits T.vars) (y:=y) (S:=ShZ T.vars) hy hF l1' (fun π hπ=>(List.mem_filter.1 hπ).2) l2' (fun K=>shZ_pp (by omega)) fun K h=>shZ_s0 (nx:=1 - y) (by omega) h).mono (fun G ⟨H,⟨k,π,e⟩,hG⟩=>⟨k,π,funext fun a=>bool_eq ?_⟩) (Nat.le_refl _)
 have hin:∀j,inn T y j=Go.Sy.innN (nBits T.vars) y j:=fun j=>by rw [inn_eq]; rfl
 rw [hG,exB_iff]
 unfold qS
 rw [if_pos rfl]
 simp only [e]
 exact ⟨fun ⟨c,h1,h2⟩=>⟨c,fun j hj=>h1 j (by rw [hin]; exact hj),h2⟩,fun ⟨c,h1,h2⟩=>⟨c,fun j hj=>h1 j (by rw [←hin]; exact hj),h2⟩⟩
def imZ (b:Nat) (p:Bool):Nat:=(ptZ (2 * b) (tA b) (tB b) (if p=true then 256 else 512)+((List.range (2 * b)).map (exM b 0 (if p=true then 256 else 512))).sum)+2 ^ (b - 3)
def prZ (b:Nat) (p:Bool):Nat:=2 ^ (b - 3)+((ptZ (2 * b) (tA b) (tB b) (if p=true then 2 ^ (b - 1) else 2 ^ b)+((List.range (2 * b)).map (exM b 1 (if p=true then 2 ^ (b - 1) else 2 ^ b))).sum)+2 ^ (b - 3))
theorem CovR.toZ {vars:List Nat} {W:BFn→Prop} {N:Nat} (h:CovR (2 * nBits vars) (ShS (nBits vars)) W N):CovR (2 * nBits vars) (ShZ vars) W N:=Go.Sy.CovR.smono h fun K hK=>.inl hK
theorem imA_rel {T:Nt} {o:No} {P:List Nat→Bool} {a:Nat→Bool} (h:imA T o P a=true):okB T.vars a=true∧relB T o a=true:=by
 unfold imA setF at h
 simp only [Bool.and_eq_true] at h
 exact ⟨h.1.1,h.2⟩
theorem prA_rel {T:Nt} {o:No} {P:List Nat→Bool} {a:Nat→Bool} (h:prA T o P a=true):relB T o a=true:=by
 unfold prA at h
 simp only [Bool.and_eq_true] at h
 exact h.1
theorem sts_half {vars:List Nat} {f:Go.Tk.Fc} (hf:f.1 < vars.length) (h2:2≤vars.getD f.1 0):∃L:List (List Nat),L.length≤(stsK vars vars.length).length / 2∧∀s,s ∈ stsK vars vars.length→s.getD f.1 0=f.2→s ∈ L:=by
 obtain ⟨L,l1,l2⟩:=ex_cover (fun s=>s ∈ stsK vars vars.length∧s.getD f.1 0=f.2) ((stsK vars vars.length).length / 2) (by
  intro l hn hl
  obtain ⟨z,hz⟩:∃z,z=if f.2=0 then 1 else 0:=⟨_,rfl⟩
  have hz2:z < 2∧z≠f.2:=by
   rw [hz]
   split <;> omega
  have hlen:∀s ∈ l,f.1 < s.length:=fun s hs=>by rw [(sts_mem.1 (hl s hs).1).len]; exact hf
  have hn2:(l ++ l.map fun s=>s.set f.1 z).Nodup:=by
   rw [List.nodup_append]
   refine ⟨hn,?_,?_⟩
   ·refine List.pairwise_map.2 (hn.imp_of_mem ?_)
    intro s s' hs hs' hne e
    refine hne ?_
    have h1:=(hl s hs).2
    have h3:=(hl s' hs').2
    have e2:(s.set f.1 z).set f.1 f.2=(s'.set f.1 z).set f.1 f.2:=congrArg (fun l:List Nat=>l.set f.1 f.2) e
    rw [List.set_set,List.set_set] at e2
    have same:∀s:List Nat,f.1 < s.length→s.getD f.1 0=f.2→s.set f.1 f.2=s:=fun s hl h=>by
     apply List.ext_getElem (by simp)
     intro i i1 i2
     rw [List.getElem_set]
     split
     ·rename_i e
      subst e
      rw [List.getD_eq_getElem?_getD,List.getElem?_eq_getElem i2] at h
      exact h.symm
     ·rfl
    rwa [same s (hlen s hs) h1,same s' (hlen s' hs') h3] at e2
   ·intro s hs x hx e
    obtain ⟨s',hs',rfl⟩:=List.mem_map.1 hx
    have h1:=(hl s hs).2
    rw [e,List.getD_eq_getElem?_getD,List.getElem?_set_self (hlen s' hs')] at h1
    exact hz2.2 h1
  have hsub:∀s ∈ l ++ l.map fun s=>s.set f.1 z,s ∈ stsK vars vars.length:=fun s hs=>by
   rcases List.mem_append.1 hs with h | h
   ·exact (hl s h).1
   ·obtain ⟨s',hs',rfl⟩:=List.mem_map.1 h
    have hst:=sts_mem.1 (hl s' hs').1
    refine sts_mem.2 ⟨by rw [List.length_set]; exact hst.len,fun v hv=>?_⟩
    by_cases e:f.1=v
    ·subst e
     rw [List.getD_eq_getElem?_getD,List.getElem?_set_self (hlen s' hs')]
     show z < _
     omega
    ·rw [List.getD_eq_getElem?_getD,List.getElem?_set_ne e]
     have:=hst.rng v hv
     rwa [List.getD_eq_getElem?_getD] at this
  have:=@nodup_len (List Nat) (fun a b=>Classical.propDecidable (a=b)) _ _ hn2 hsub
  rw [List.length_append,List.length_map] at this
  omega)
 exact ⟨L,l1,fun s h1 h3=>l2 s ⟨h1,h3⟩⟩
theorem imA_pts2 {T:Nt} {o:No} (h64:∀n ∈ T.vars,1≤n∧n≤64) (ho:NoG T.vars o) (hpr:prL T.vars≤512) (P:List Nat→Bool):∃Λ:List (Nat→Bool),Λ.length≤(if preL T.vars o=true then 256 else 512)∧∀a,imA T o P a=true→∃π ∈ Λ,∀i,i < 2 * nBits T.vars→a i=π i:=by
 have hlen:(stsK T.vars T.vars.length).length≤512:=by rw [stsK_len _ (Nat.le_refl _),List.take_length]; exact hpr
 by_cases hp:preL T.vars o=true
 ·rw [if_pos hp]
  -- a fact of which some bit is given
  obtain ⟨f,hf,h2⟩:∃f ∈ o.pre,2≤T.vars.getD f.1 0:=by
   unfold preL at hp
   cases hl:litL T.vars o.pre with
   | nil=>rw [hl] at hp; cases hp
   | cons p l =>
    have hm:p ∈ litL T.vars o.pre:=by rw [hl]; simp
    obtain ⟨f,hf,h⟩:=List.mem_flatMap.1 hm
    obtain ⟨k,hk,_⟩:=List.mem_map.1 h
    have hk:=List.mem_range.1 hk
    refine ⟨f,hf,Nat.le_of_not_lt fun hlt=>?_⟩
    have:wd (T.vars.getD f.1 0)=0:=by unfold wd; rw [if_pos (by omega)]
    omega
  obtain ⟨L,l1,l2⟩:=sts_half (f:=f) (ho.pre.rng f hf).1 h2
  obtain ⟨Λ,a1,a2⟩:=lst_img (fun a=>rs T.vars a 0) (fun i=>i < 2 * nBits T.vars) L (fun a=>imA T o P a=true) (fun a c ha hc e i hi=>relB_det h64 ho (imA_rel ha).2 (imA_rel hc).2 (fun q hq=>rs_bits (nx:=0) e q (by omega)) i hi) fun a ha=>by
   obtain ⟨h3,h4⟩:=imA_rel ha
   refine l2 _ (sts_mem.2 (okB_iff.1 h3)) ?_
   unfold relB hdB at h4
   rw [Bool.and_eq_true,List.all_eq_true] at h4
   exact of_decide_eq_true (h4.1 f hf)
  exact ⟨Λ,by omega,a2⟩
 ·rw [if_neg hp]
  obtain ⟨Λ,a1,a2⟩:=imA_pts T o P
  exact ⟨Λ,by omega,a2⟩
theorem cov_imz {T:Nt} {o:No} (h64:∀n ∈ T.vars,1≤n∧n≤64) (ho:NoG T.vars o) (hpr:prL T.vars≤512) (P:List Nat→Bool):CovR (2 * nBits T.vars) (ShZ T.vars) (ImgT T o P) (imZ (nBits T.vars) (preL T.vars o)):=by
 refine ((cov_two h64 ho (y:=0) (by omega) (fun a b h=>imA_fin h) (fun a h=>(imA_rel h).2) (imA_pts2 h64 ho hpr P)).or (W2:=fun G=>∃X,(∀a,X a=true↔qS 1 (inn T 0) (imA T o P) a)∧∃H,Bd.IsC X H∧G=fun b=>H (sgA (2 * nBits T.vars) 1 b)) (N2:=2 ^ (nBits T.vars - 3)) ?_).mono (fun G hG=>?_) (Nat.le_refl _)
 ·by_cases hX:∃X:BFn,∀a,X a=true↔qS 1 (inn T 0) (imA T o P) a
  ·obtain ⟨X,hX⟩:=hX
   refine (CovR.toZ (cov_ren (F:=X) (nx:=1) (by omega) (ex_xn (fun a b h=>imA_fin h) hX))).mono (fun G hG=>?_) (Nat.le_refl _)
   obtain ⟨Y,hY,H,hH,e⟩:=hG
   have:Y=X:=ex_uniq _ _ hY hX
   subst this
   exact ⟨H,hH,e⟩
  ·exact (CovR.none _ _).mono (fun G ⟨X,h,_⟩=>hX ⟨X,h⟩) (Nat.zero_le _)
 ·rcases hG with h | h | h
  ·exact .inl (.inl h)
  ·exact .inl (.inr h)
  ·exact .inr h
theorem cov_prz {T:Nt} {o:No} (h64:∀n ∈ T.vars,1≤n∧n≤64) (ho:NoG T.vars o) (P:List Nat→Bool):CovR (2 * nBits T.vars) (ShZ T.vars) (PreT T o P) (prZ (nBits T.vars) (preL T.vars o)):=by
 have hpts:∃Λ:List (Nat→Bool),Λ.length≤(if preL T.vars o=true then 2 ^ (nBits T.vars - 1) else 2 ^ nBits T.vars)∧∀a,prA T o P a=true→∃π ∈ Λ,∀i,i < 2 * nBits T.vars→a i=π i:=by
  by_cases hp:preL T.vars o=true
  ·rw [if_pos hp]
   exact pre_pts h64 ho hp _ fun a ha=>relB_cub h64 ho (prA_rel ha)
  ·rw [if_neg hp]
   exact prA_pts T o P
 refine ((CovR.toZ (cov_ren (F:=setF T.vars P) (nx:=0) (by omega) (xn_set T.vars P))).or ((cov_two h64 ho (y:=1) (by omega) (fun a b h=>prA_fin h) (fun a h=>prA_rel h) hpts).or (CovR.toZ (cov_xn (by omega) (xn_set T.vars (preP o P)))))).mono (fun G hG=>?_) (Nat.le_refl _)
 rcases hG with h | h | h | h
 ·exact .inl h
 ·exact .inr (.inl (.inl h))
 ·exact .inr (.inl (.inr h))
 ·exact .inr (.inr h)
end Go.Proofs.YtcoeknnghfajnaaGreat
end
section
namespace Go.Proofs.YtcoeknnghfajnaaGreat
open Go Go.W Go.Tk Go.Rx Go.Bd Go.Sy Go.Maps
def ctC (b:Nat):Nat:=((List.range (2 * b)).map fun t=>min (2 ^ ((t+1) / 2)) (2 ^ 2 ^ (b - (t+1) / 2))).sum
theorem cov_gt {b:Nat} {S:BFn→Prop} {G:BFn} (hG:Gtd b G):CovR (2 * b) S (fun K=>K=G) (ctC b):=by
 refine cov_at (fun t=>min (2 ^ ((t+1) / 2)) (2 ^ 2 ^ (b - (t+1) / 2))) fun t ht=>?_
 -- the bits of the successor that are given are false
 have hz:∀a,Dep (fun c=>G (pfx a t c)) t→∀p,2 * p+1 < t→a (2 * p+1)=false:=fun a hd p hp=>by
  obtain ⟨x,hx⟩:=dep_true hd
  have:=hG.1 _ hx p (by omega)
  rwa [pfx_in hp] at this
 have hc:∀a a' c,(∀p,2 * p+1 < t→a (2 * p+1)=false)→(∀p,2 * p+1 < t→a' (2 * p+1)=false)→(∀q,2 * q < t→a (2 * q)=a' (2 * q))→G (pfx a t c)=G (pfx a' t c):=fun a a' c h1 h2 h3=>hG.2 _ _ fun p _=>⟨pfx_ag (h3 p) fun _=>rfl,pfx_ag (fun h=>by rw [h1 p h,h2 p h]) fun _=>rfl⟩
 by_cases hm:2 ^ ((t+1) / 2)≤2 ^ 2 ^ (b - (t+1) / 2)
 ·rw [Nat.min_eq_left hm]
  obtain ⟨Λ,l1,l2⟩:=lst_keys ((List.range ((t+1) / 2)).map fun q=>fun a=>a (2 * q)) fun _=>True
  rw [List.length_map,List.length_range] at l1
  refine ⟨Λ.map fun π=>fun c=>G (pfx (fun i=>if i % 2=0 then π i else false) t c),by rw [List.length_map]; exact l1,fun K hK a hd=>.inl ?_⟩
  subst hK
  obtain ⟨π,m1,_,m2⟩:=l2 a trivial
  refine List.mem_map.2 ⟨π,m1,funext fun c=>hc _ _ c (fun p _=>?_) (hz a hd) fun q hq=>?_⟩
  ·show (if (2 * p+1) % 2=0 then _ else false)=false
   rw [if_neg (by omega)]
  ·show (if 2 * q % 2=0 then π (2 * q) else false)=a (2 * q)
   rw [if_pos (by omega)]
   exact (m2 (fun a=>a (2 * q)) (List.mem_map.2 ⟨q,List.mem_range.2 (by omega),rfl⟩)).symm
 ·rw [Nat.min_eq_right (by omega)]
  obtain ⟨L,l1,l2⟩:=lst_fun ((List.range (b - (t+1) / 2)).map fun i=>2 * ((t+1) / 2+i))
  rw [List.length_map,List.length_range] at l1
  let Z:(Nat→Bool)→Bool:=fun c=>(List.range b).all fun p=>decide (2 * p+1 < t) || !c (2 * p+1)
  have hZ:∀c,Z c=true↔∀p,t≤2 * p+1→p < b→c (2 * p+1)=false:=fun c=>by
   show ((List.range b).all fun p=>decide (2 * p+1 < t) || !c (2 * p+1))=true↔_
   rw [List.all_eq_true]
   constructor
   ·intro h p h1 h2
    have:=h p (List.mem_range.2 h2)
    rw [decide_eq_false (by omega)] at this
    simpa using this
   ·intro h p hp
    have hp:=List.mem_range.1 hp
    by_cases h1:2 * p+1 < t
    ·rw [decide_eq_true h1]; rfl
    ·rw [h p (by omega) hp]; simp
  refine ⟨L.map fun K0=>fun c=>K0 c && Z c,by rw [List.length_map]; exact l1,fun K hK a hd=>.inl ?_⟩
  subst hK
  have ha:=hz a hd
  refine List.mem_map.2 ⟨fun c=>K (pfx a t fun i=>if i % 2=0 then c i else false),l2 _ fun x y hxy=>hG.2 _ _ fun p hp=>⟨pfx_ag (fun _=>rfl) fun h=>?_,pfx_ag (fun _=>rfl) fun h=>?_⟩,funext fun c=>?_⟩
  ·show (if 2 * p % 2=0 then x (2 * p) else false)=if 2 * p % 2=0 then y (2 * p) else false
   rw [if_pos (by omega),if_pos (by omega)]
   have:=hxy (2 * ((t+1) / 2+(p - (t+1) / 2))) (List.mem_map.2 ⟨p - (t+1) / 2,List.mem_range.2 (by omega),rfl⟩)
   rwa [show (t+1) / 2+(p - (t+1) / 2)=p by omega] at this
  ·show (if (2 * p+1) % 2=0 then _ else false)=if (2 * p+1) % 2=0 then _ else false
   rw [if_neg (by omega),if_neg (by omega)]
  ·show (K (pfx a t fun i=>if i % 2=0 then c i else false) && Z c)=K (pfx a t c)
   have e:Z c=true→K (pfx a t fun i=>if i % 2=0 then c i else false)=K (pfx a t c):=fun h=>hG.2 _ _ fun p hp=>⟨pfx_ag (fun _=>rfl) fun _=>by show (if 2 * p % 2=0 then c (2 * p) else false)=c (2 * p); rw [if_pos (by omega)],pfx_ag (fun _=>rfl) fun h2=>by
    show (if (2 * p+1) % 2=0 then _ else false)=c (2 * p+1)
    rw [if_neg (by omega)]
    exact ((hZ c).1 h p h2 hp).symm⟩
   cases hzc:Z c with
   | true=>rw [Bool.and_true]; exact e hzc
   | false =>
    rw [Bool.and_false]
    cases hk:K (pfx a t c) with
    | false=>rfl
    | true =>
     rw [←hzc]
     exact (hZ c).2 fun p h1 h2=>by
      have:=hG.1 _ hk p h2
      rwa [pfx_out h1] at this
def Val1 (vars:List Nat) (G:BFn):Prop:=∃v,v < vars.length∧∃x,x < vars.getD v 0∧VlS vars v x 1 G
def W0Z (T:Nt) (G:BFn):Prop:=BasS T G∨(ShZ T.vars G∨(SaZ T.vars G∨Val1 T.vars G))
def n0Z (b:Nat):Nat:=(4 * b+196 * (552 - 45 * b)+3 * (b * b))+(shN b 12+((72 * b+216)+108 * (552 - 45 * b)))
theorem zV_mono {b t0 t1 V V':Nat} (h:V≤V'):zV b t0 t1 V≤zV b t0 t1 V':=by
 unfold zV
 refine sm_le fun t _=>Nat.add_le_add ?_ ?_
 ·split
  ·exact Nat.add_le_add (Nat.le_refl _) (Nat.mul_le_mul_right _ h)
  ·exact Nat.le_refl _
 ·split
  ·exact Nat.add_le_add (Nat.le_refl _) (Nat.mul_le_mul_right _ h)
  ·exact Nat.le_refl _
theorem shN_mono {b V V':Nat} (h:V≤V'):shN b V≤shN b V':=by
 have:=zV_mono (b:=b) (t0:=tA b) (t1:=tB b) h
 unfold shN
 omega
theorem sum_gd (vars:List Nat):sm vars.length (fun v=>vars.getD v 0)=vars.sum:=by
 unfold sm
 congr 1
 apply List.ext_getElem (by simp)
 intro i h1 h2
 simp
 rw [List.getElem?_eq_getElem (by simpa using h1)]
 rfl
theorem sum_wd2 (vars:List Nat):sm vars.length (fun v=>wd (vars.getD v 0))=nBits vars:=by
 unfold sm nBits
 congr 1
 apply List.ext_getElem (by simp)
 intro i h1 h2
 simp
 rw [List.getElem?_eq_getElem (by simpa using h1)]
 rfl
theorem cov_w0z {T:Nt} (hT:SmC T):CovW (2 * nBits T.vars) (W0Z T) (n0Z (nBits T.vars)):=by
 obtain ⟨b1,b2⟩:=hT.bs
 have hV:=hT.vl
 have c1:CovW (2 * nBits T.vars) (SaZ T.vars) (72 * nBits T.vars+216):=by
  refine (CovW.sum (n:=2 * nBits T.vars) (fun v G=>SaS T.vars v G∨G=saB T.vars v 0) (fun v=>wd (T.vars.getD v 0) * 72+18) T.vars.length fun v hv=>?_).mono (fun _ h=>h) ?_
  ·have hw:=wd_le (T.vars.getD v 0)
   refine CovW.or (CovW.eachW (fun j G=>G=(fun a=>a (2 * (bP T.vars v+j)) && a (2 * (bP T.vars v+j)+1))∨G=(fun a=>!a (2 * (bP T.vars v+j)) && !a (2 * (bP T.vars v+j)+1)) ∨
     G=(fun a=>(a (2 * (bP T.vars v+j)) && a (2 * (bP T.vars v+j)+1)) || (!a (2 * (bP T.vars v+j)) && !a (2 * (bP T.vars v+j)+1)))∨G=saB T.vars v j) (wd (T.vars.getD v 0)) (c:=72) fun j hj=>?_) ((pl_sa T.vars v 0).cov.mono (fun _ h=>h) (by omega))
   have one:∀f:Bool→Bool→Bool,CovW (2 * nBits T.vars) (fun K=>K=fun a=>f (a (2 * (bP T.vars v+j))) (a (2 * (bP T.vars v+j)+1))) 18:=fun f=>(PairL.one (s:=bP T.vars v) (w:=wd (T.vars.getD v 0)) hj f).cov.mono (fun _ h=>h) (by omega)
   exact (one fun x y=>x && y).or ((one fun x y=>!x && !y).or ((one fun x y=>(x && y) || (!x && !y)).or ((pl_sa T.vars v j).cov.mono (N':=18) (fun _ h=>h) (by omega))))
  ·have e:((List.range T.vars.length).map fun v=>wd (T.vars.getD v 0) * 72+18).sum=sm T.vars.length fun v=>72 * wd (T.vars.getD v 0)+18:=sm_congr fun v _=>by omega
   rw [e,sm_add,sm_mul,sm_const,sum_wd2]
   omega
 have c2:CovW (2 * nBits T.vars) (Val1 T.vars) (108 * (552 - 45 * nBits T.vars)):=by
  refine (CovW.sum (n:=2 * nBits T.vars) (fun v G=>∃x,x < T.vars.getD v 0∧VlS T.vars v x 1 G) (fun v=>T.vars.getD v 0 * 108) T.vars.length fun v hv=>CovW.eachW _ _ fun x hx=>?_).mono (fun _ h=>h) ?_
  ·refine (CovW.eachW (fun j G=>G=vlB T.vars v x 1 j) _ fun j _=>(pl_vl T.vars v x (by omega) j).cov).mono (fun _ h=>h) ?_
   have:=wd_le (T.vars.getD v 0)
   have h2:wd (T.vars.getD v 0) * (3 * wd (T.vars.getD v 0))≤6 * (3 * 6):=Nat.mul_le_mul this (by omega)
   omega
  ·have e:((List.range T.vars.length).map fun v=>T.vars.getD v 0 * 108).sum=sm T.vars.length fun v=>108 * T.vars.getD v 0:=sm_congr fun v _=>by omega
   rw [e,sm_mul,sum_gd]
   have:T.vars.sum≤552 - 45 * nBits T.vars:=by omega
   exact Nat.mul_le_mul_left _ this
 refine ((cov_basL hT.vars).or ((cov_shZ T.vars).or (c1.or c2))).mono (fun _ h=>h) ?_
 have h4:T.vars.length * (T.vars.sum * 2)≤12 * (T.vars.sum * 2):=Nat.mul_le_mul_right _ hT.vl
 have h5:nBits T.vars * (3 * nBits T.vars)=3 * (nBits T.vars * nBits T.vars):=Nat.mul_left_comm _ _ _
 have h6:=shN_mono (b:=nBits T.vars) hV
 unfold n0Z nbL
 rw [h5]
 omega
theorem w0z_sh {T:Nt}:∀G,ShZ T.vars G→W0Z T G:=fun G h=>.inr (.inl h)
theorem w0z_rel {T:Nt} {o:No} (h64:∀n ∈ T.vars,1≤n∧n≤64) (ho:NoG T.vars o) (he:o.effs.length≤8):CovR (2 * nBits T.vars) (ShZ T.vars) (fun G=>RelS2 T o G∧¬W0Z T G) (relZ (nBits T.vars) (preL T.vars o)) :=
 cov_rel5 h64 ho he (fun G h=>.inr (.inr (.inl h))) fun G ⟨v,hv,x,hx,nx,hn,h⟩=>by
  rcases (show nx=0∨nx=1 by omega) with rfl | rfl
  ·exact .inl (.inl (.inr (.inl ⟨v,hv,x,hx,.inl h⟩)))
  ·exact .inr (.inr (.inr ⟨v,hv,x,hx,h⟩))
def actZ (b:Nat):Nat:=max (max (relZ b false+prZ b false) (relZ b true+prZ b true)) (max (max (relZ b false+imZ b false) (relZ b true+imZ b true)) (12 * (3 * b)+(2 ^ (b - 3)+2 ^ (b - 3))))
def setsN (b:Nat):Nat:=n0Z b+(20 * actZ b+22 * ctC b)
theorem sets_num:∀b,b < 12→setsN b < 1048576:=by decide +kernel
def ActC (T:Nt) (W:BFn→Prop):Prop:=CovR (2 * nBits T.vars) (ShZ T.vars) (fun G=>W G∧¬W0Z T G) (actZ (nBits T.vars))
section
variable {T:Nt} {W:BFn→Prop}
theorem litZ:LitW T.vars fun G=>W0Z T G∨W G:=litW fun G h=>.inl (.inl (.inl (.inl h)))
theorem vlZ {v x:Nat} (hv:v < T.vars.length) (hx:x < T.vars.getD v 0):VlW T.vars v x 0 fun G=>W0Z T G∨W G:=vlW fun G h=>.inl (.inl (.inl (.inr (.inl ⟨v,hv,x,hx,.inl h⟩))))
theorem fcZ {l:List Go.Tk.Fc} (hr:FcRng T.vars l) (h:∀j,j < l.length→W (fcB T.vars l j)):FcW T.vars l fun G=>W0Z T G∨W G:=⟨fun f hf=>vlZ (hr f hf).1 (hr f hf).2,fun j hj=>.inr (h j hj)⟩
theorem zbZ:∀j,j < nBits T.vars→(fun G=>W0Z T G∨W G) (zB (nBits T.vars) j):=fun j hj=>.inl (.inl (.inr ⟨j,hj,rfl⟩))
theorem act_of {N:Nat} (h:CovR (2 * nBits T.vars) (ShZ T.vars) W N) (hn:N≤actZ (nBits T.vars)):ActC T fun G=>W0Z T G∨W G:=h.mono (fun G ⟨h1,h2⟩=>h1.elim (fun h=>absurd h h2) id) hn
theorem act_one {P:List Nat→Bool}:ActC T fun G=>W0Z T G∨G=setF T.vars P:=act_of (CovR.toZ (cov_xn (by omega) (xn_set _ _))) (by unfold actZ; omega)
theorem act_two {P Q:List Nat→Bool}:ActC T fun G=>W0Z T G∨((G=fun a=>!setF T.vars Q a)∨G=setF T.vars P):=act_of ((CovR.toZ (cov_xn (by omega) (XN.of (nsetF_x _ _)))).or (CovR.toZ (cov_xn (by omega) (xn_set _ _)))) (by unfold actZ; omega)
theorem act_part {p:List Go.Tk.Fc} {P:List Nat→Bool} (hp:FcOk T.vars p) (hV:T.vars.length≤12):ActC T fun G=>W0Z T G∨((∃j,j < p.length∧G=fcB T.vars p j)∨G=setF T.vars P):=act_of ((CovR.toZ (cov_fcs hp hV)).or (CovR.toZ (cov_xn (by omega) (xn_set _ _)))) (Nat.le_trans (Nat.add_le_add_left (Nat.le_add_right _ _) _) (Nat.le_trans (Nat.le_max_right _ _) (Nat.le_max_right _ _)))
theorem act_img {o:No} {P:List Nat→Bool} (hT:SmC T) (ho:o ∈ T.ops):ActC T fun G=>W0Z T G∨(RelS2 T o G∨ImgT T o P G):=by
 refine ((w0z_rel hT.vars (hT.ops o ho) (hT.el o ho)).or (cov_imz hT.vars (hT.ops o ho) hT.pr P)).mono (fun G ⟨h1,h2⟩=>?_) ?_
 ·rcases h1 with h | h | h
  ·exact absurd h h2
  ·exact .inl ⟨h,h2⟩
  ·exact .inr h
 ·unfold actZ
  cases preL T.vars o <;> omega
theorem act_pre {o:No} {P:List Nat→Bool} (hT:SmC T) (ho:o ∈ T.ops):ActC T fun G=>W0Z T G∨(RelS2 T o G∨PreT T o P G):=by
 refine ((w0z_rel hT.vars (hT.ops o ho) (hT.el o ho)).or (cov_prz hT.vars (hT.ops o ho) P)).mono (fun G ⟨h1,h2⟩=>?_) ?_
 ·rcases h1 with h | h | h
  ·exact absurd h h2
  ·exact .inl ⟨h,h2⟩
  ·exact .inr h
 ·unfold actZ
  cases preL T.vars o <;> omega
end
def RunZ (T:Nt) (lim N:Nat) (ns:Ns):Prop:=RunR (2 * nBits T.vars) lim (ShZ T.vars) (W0Z T) N ns
theorem RunZ.step {T:Nt} {lim N N1:Nat} {W:BFn→Prop} {e:Bool} {ns ns':Ns} (h:RunZ T lim N ns) (hT:SmC T) (hs:Stp (2 * nBits T.vars) lim W false ns e ns') (hc:CovR (2 * nBits T.vars) (ShZ T.vars) (fun G=>W G∧¬W0Z T G) N1) (hl:n0Z (nBits T.vars)+(N+N1) < lim):e=false∧RunZ T lim (N+N1) ns' :=
 RunR.step h (cov_w0z hT) w0z_sh (hs.mono fun G hG=>by
  by_cases h:W0Z T G
  ·exact .inl h
  ·exact .inr ⟨hG,h⟩) hc hl
theorem RunZ.start {T:Nt} {lim:Nat} {e:Bool} {ns:Ns} (hT:SmC T) (hs:Stp (2 * nBits T.vars) lim (W0Z T) false [] e ns) (hl:n0Z (nBits T.vars) < lim):e=false∧RunZ T lim 0 ns:=RunR.start (cov_w0z hT) w0z_sh hs hl
theorem RunZ.mono {T:Nt} {lim N N':Nat} {ns:Ns} (h:RunZ T lim N ns) (hn:N≤N'):RunZ T lim N' ns:=by
 obtain ⟨W,a,b⟩:=h
 exact ⟨W,a,b.mono (fun _ h=>h) hn⟩
end Go.Proofs.YtcoeknnghfajnaaGreat
end
