/-
  A part of the proof of this claim's statement (SyED, SyEE): plain theorems; no conditions beyond those each names.
-/
import Derived.Test.YtcoeknnghfajnaaGreatPk23
set_option maxRecDepth 100000
set_option linter.unusedSimpArgs false
set_option linter.unusedVariables false
set_option linter.unusedSectionVars false
section
namespace Go.Sy
open Go.Bd
def rlF (b:Nat) (sb:Nat→BFn) (f:Nat):BFn:=fun a=>(List.range b).all fun q=>decide (q < f) || (a (2 * q+1) == sb q a)
theorem rlF_iff {b:Nat} {sb:Nat→BFn} {f:Nat} {a:Nat→Bool}:rlF b sb f a=true↔∀q,f≤q→q < b→a (2 * q+1)=sb q a:=by
 unfold rlF
 rw [List.all_eq_true]
 constructor
 ·intro h q h1 h2
  have:=h q (List.mem_range.2 h2)
  rw [decide_eq_false (by omega),Bool.false_or,beq_iff_eq] at this
  exact this
 ·intro h q hq
  have hq:=List.mem_range.1 hq
  by_cases hf:q < f
  ·rw [decide_eq_true hf]; rfl
  ·rw [h q (by omega) hq]; simp
def EvD (b:Nat) (sb:Nat→BFn):Prop:=∀q,q < b→∀a c:Nat→Bool,(∀p,p < b→a (2 * p)=c (2 * p))→sb q a=sb q c
def relF (f i:Nat):Bool:=decide (i % 2=0) || decide (f≤i / 2)
def rlM (b t0 t1 t:Nat):Nat:=if t1≤t then 0 else (if t % 2=0 then ((List.range b).map fun f=>if t / 2 < f then 2 ^ (t / 2) else 0).sum else 0) +
 (if t < t0 then ((List.range b).map fun f=>if f≤t / 2 then 2 ^ ((t+1) / 2+(t / 2 - f)) else 0).sum else 2 ^ b - 2 ^ ((t+1) / 2))
theorem pfx_in {a c:Nat→Bool} {t i:Nat} (h:i < t):pfx a t c i=a i:=by unfold pfx; rw [if_pos h]
theorem pfx_out {a c:Nat→Bool} {t i:Nat} (h:t≤i):pfx a t c i=c i:=by unfold pfx; rw [if_neg (by omega)]
theorem pfx_ag {a a' c c':Nat→Bool} {t i:Nat} (h1:i < t→a i=a' i) (h2:t≤i→c i=c' i):pfx a t c i=pfx a' t c' i:=by
 by_cases h:i < t
 ·rw [pfx_in h,pfx_in h,h1 h]
 ·rw [pfx_out (by omega),pfx_out (by omega),h2 (by omega)]
section
variable {b t0 t1:Nat} {sb:Nat→BFn} {S:BFn→Prop} (hsb:EvD b sb)
include hsb
theorem rlF_nodep {f t:Nat} (hf:t / 2 < f) (ht:t % 2=1) (a:Nat→Bool):¬Dep (fun c=>rlF b sb f (pfx a t c)) t:=by
 rintro ⟨x,hx⟩
 apply hx
 show rlF b sb f (pfx a t (upd x t true))=rlF b sb f (pfx a t (upd x t false))
 have e:∀i,i≠t→pfx a t (upd x t true) i=pfx a t (upd x t false) i:=fun i hi=>pfx_ag (fun _=>rfl) fun _=>by rw [upd_ne hi,upd_ne hi]
 have e2:∀q,q < b→sb q (pfx a t (upd x t true))=sb q (pfx a t (upd x t false)):=fun q hq=>hsb q hq _ _ fun p _=>e _ (by omega)
 rw [Bool.eq_iff_iff,rlF_iff,rlF_iff]
 exact ⟨fun h q h1 h2=>by rw [←e _ (by omega),←e2 q h2]; exact h q h1 h2,fun h q h1 h2=>by rw [e _ (by omega),e2 q h2]; exact h q h1 h2⟩
theorem rlF_pfx {f t:Nat} {a a' c:Nat→Bool} (h1:∀q,2 * q < t→a (2 * q)=a' (2 * q)) (h2:∀q,f≤q→2 * q+1 < t→a (2 * q+1)=a' (2 * q+1)):rlF b sb f (pfx a t c)=rlF b sb f (pfx a' t c):=by
 have e2:∀q,q < b→sb q (pfx a t c)=sb q (pfx a' t c):=fun q hq=>hsb q hq _ _ fun p _=>pfx_ag (h1 p) fun _=>rfl
 have e:∀q,f≤q→pfx a t c (2 * q+1)=pfx a' t c (2 * q+1):=fun q hq=>pfx_ag (h2 q hq) fun _=>rfl
 rw [Bool.eq_iff_iff,rlF_iff,rlF_iff]
 exact ⟨fun h q h1 h2=>by rw [←e q h1,←e2 q h2]; exact h q h1 h2,fun h q h1 h2=>by rw [e q h1,e2 q h2]; exact h q h1 h2⟩
theorem rlF_fin {f:Nat} {a a':Nat→Bool} (h:∀i,i < 2 * b→a i=a' i):rlF b sb f a=rlF b sb f a':=by
 have e2:∀q,q < b→sb q a=sb q a':=fun q hq=>hsb q hq _ _ fun p _=>h _ (by omega)
 rw [Bool.eq_iff_iff,rlF_iff,rlF_iff]
 exact ⟨fun h' q h1 h2=>by rw [←h _ (by omega),←e2 q h2]; exact h' q h1 h2,fun h' q h1 h2=>by rw [h _ (by omega),e2 q h2]; exact h' q h1 h2⟩
theorem rlF_det {f t:Nat} {a a' c c':Nat→Bool} (h1:rlF b sb f (pfx a t c)=true) (h2:rlF b sb f (pfx a' t c')=true) (ha:∀q,2 * q < t→a (2 * q)=a' (2 * q)) (hc:∀q,t≤2 * q→q < b→c (2 * q)=c' (2 * q)) :
  ∀q,f≤q→q < b→pfx a t c (2 * q+1)=pfx a' t c' (2 * q+1):=fun q hq hb=>by
 rw [rlF_iff.1 h1 q hq hb,rlF_iff.1 h2 q hq hb]
 exact hsb q hb _ _ fun p hp=>pfx_ag (ha p) fun h=>hc p h hp
theorem cov_rlf (hS1:∀K,PtS allR (2 * b) t0 K→S K) (hS2:∀K,DetS allR (2 * b) t1 K→S K) (hS3:∀f K,t1 / 2 < f→f < b→DetS (relF f) (2 * b) t1 K→S K) :
  CovR (2 * b) S (fun G=>∃f,f < b∧G=rlF b sb f) ((List.range (2 * b)).map (rlM b t0 t1)).sum:=by
 refine cov_at (rlM b t0 t1) fun t ht=>?_
 unfold rlM
 by_cases h1:t1≤t
 ·rw [if_pos h1]
  refine ⟨[],by simp,?_⟩
  rintro G ⟨f,hf,rfl⟩ a hd
  right
  by_cases hft:t / 2 < f
  ·by_cases ho:t % 2=1
   ·exact absurd hd (rlF_nodep hsb hft ho a)
   ·refine hS3 f _ (by omega) hf ⟨t,h1,fun c c' hc=>?_,fun c c' e1 e2 hc i i1 i2 i3=>?_⟩
    ·have e2:∀q,q < b→sb q (pfx a t c)=sb q (pfx a t c'):=fun q hq=>hsb q hq _ _ fun p hp=>pfx_ag (fun _=>rfl) fun h=>hc _ h (by omega) (by unfold relF; simp)
     have e:∀q,f≤q→q < b→pfx a t c (2 * q+1)=pfx a t c' (2 * q+1):=fun q hq hqb=>pfx_ag (fun _=>rfl) fun h=>hc _ h (by omega) (by unfold relF; rw [show (2 * q+1) / 2=q by omega]; simp [hq])
     rw [Bool.eq_iff_iff,rlF_iff,rlF_iff]
     exact ⟨fun h q h1 h2=>by rw [←e q h1 h2,←e2 q h2]; exact h q h1 h2,fun h q h1 h2=>by rw [e q h1 h2,e2 q h2]; exact h q h1 h2⟩
    ·rcases Nat.mod_two_eq_zero_or_one i with h0 | h0
     ·have:=hc (i / 2) (by omega) (by omega) (by unfold relF; simp)
      rwa [show 2 * (i / 2)=i by omega] at this
     ·have hfi:f≤i / 2:=by
       unfold relF at i3
       rw [h0] at i3
       simpa using i3
      have:=rlF_det hsb e1 e2 (fun _ _=>rfl) (fun q h hq=>hc q h (by omega) (by unfold relF; simp)) (i / 2) hfi (by omega)
      rw [show 2 * (i / 2)+1=i by omega,pfx_out i1,pfx_out i1] at this
      exact this
  ·refine hS2 _ ⟨t,h1,fun c c' hc=>rlF_fin hsb fun i hi=>pfx_ag (fun _=>rfl) fun h=>hc i h hi rfl,fun c c' e1 e2 hc i i1 i2 i3=>?_⟩
   rcases Nat.mod_two_eq_zero_or_one i with h0 | h0
   ·have:=hc (i / 2) (by omega) (by omega) rfl
    rwa [show 2 * (i / 2)=i by omega] at this
   ·have:=rlF_det hsb e1 e2 (fun _ _=>rfl) (fun q h hq=>hc q h (by omega) rfl) (i / 2) (by omega) (by omega)
    rw [show 2 * (i / 2)+1=i by omega,pfx_out i1,pfx_out i1] at this
    exact this
 rw [if_neg h1]
 -- those that do not read the successor yet
 have A:∃L:List BFn,L.length≤(if t % 2=0 then ((List.range b).map fun f=>if t / 2 < f then 2 ^ (t / 2) else 0).sum else 0)∧∀f,f < b→t / 2 < f→∀a,Dep (fun c=>rlF b sb f (pfx a t c)) t→(fun c=>rlF b sb f (pfx a t c)) ∈ L:=by
  by_cases ho:t % 2=0
  ·rw [if_pos ho]
   have hl:∀f,∃L:List BFn,L.length≤2 ^ ((t+1) / 2)∧(t / 2 < f→∀a,(fun c=>rlF b sb f (pfx a t c)) ∈ L):=fun f=>by
    by_cases hf:t / 2 < f
    ·obtain ⟨L,l1,l2⟩:=evn_cov (t:=t) (rlF b sb f) fun a a' c h=>rlF_pfx hsb h fun q h1 h2=>by omega
     exact ⟨L,l1,fun _=>l2⟩
    ·exact ⟨[],by simp,fun h=>absurd h hf⟩
   obtain ⟨L,hL⟩:=Classical.skolem.1 hl
   refine ⟨(List.range b).flatMap fun f=>if t / 2 < f then L f else [],sum_len _ _ (fun f=>?_) b,fun f hf hft a _=>List.mem_flatMap.2 ⟨f,List.mem_range.2 hf,by rw [if_pos hft]; exact (hL f).2 hft a⟩⟩
   by_cases hf:t / 2 < f
   ·rw [if_pos hf,if_pos hf]
    have:=(hL f).1
    rwa [show (t+1) / 2=t / 2 by omega] at this
   ·rw [if_neg hf,if_neg hf]; exact Nat.le_refl _
  ·rw [if_neg ho]
   exact ⟨[],by simp,fun f _ hf a hd=>absurd hd (rlF_nodep hsb hf (by omega) a)⟩
 -- the others
 have B:∃L:List BFn,L.length≤(if t < t0 then ((List.range b).map fun f=>if f≤t / 2 then 2 ^ ((t+1) / 2+(t / 2 - f)) else 0).sum else 2 ^ b - 2 ^ ((t+1) / 2))∧∀f,f < b→f≤t / 2→∀a,Dep (fun c=>rlF b sb f (pfx a t c)) t→(fun c=>rlF b sb f (pfx a t c)) ∈ L∨S fun c=>rlF b sb f (pfx a t c):=by
  by_cases h0:t < t0
  ·rw [if_pos h0]
   have hl:∀f,∃L:List BFn,L.length≤2 ^ ((t+1) / 2+(t / 2 - f))∧∀a,(fun c=>rlF b sb f (pfx a t c)) ∈ L:=fun f=>by
    obtain ⟨Λ,h1,h2⟩:=lst_keys (((List.range ((t+1) / 2)).map fun q=>fun a=>a (2 * q)) ++ ((List.range (t / 2 - f)).map fun q=>fun a=>a (2 * (f+q)+1))) fun _=>True
    rw [List.length_append,List.length_map,List.length_map,List.length_range,List.length_range] at h1
    refine ⟨Λ.map fun π=>fun c=>rlF b sb f (pfx π t c),by rw [List.length_map]; exact h1,fun a=>?_⟩
    obtain ⟨π,h3,_,h4⟩:=h2 a trivial
    refine List.mem_map.2 ⟨π,h3,funext fun c=>(rlF_pfx hsb (fun q hq=>?_) fun q h5 h6=>?_).symm⟩
    ·exact h4 (fun a=>a (2 * q)) (List.mem_append_left _ (List.mem_map.2 ⟨q,List.mem_range.2 (by omega),rfl⟩))
    ·have:=h4 (fun a=>a (2 * (f+(q - f))+1)) (List.mem_append_right _ (List.mem_map.2 ⟨q - f,List.mem_range.2 (by omega),rfl⟩))
     rwa [show f+(q - f)=q by omega] at this
   obtain ⟨L,hL⟩:=Classical.skolem.1 hl
   refine ⟨(List.range b).flatMap fun f=>if f≤t / 2 then L f else [],sum_len _ _ (fun f=>?_) b,fun f hf hft a _=>.inl (List.mem_flatMap.2 ⟨f,List.mem_range.2 hf,by rw [if_pos hft]; exact (hL f).2 a⟩)⟩
   by_cases hf:f≤t / 2
   ·rw [if_pos hf,if_pos hf]; exact (hL f).1
   ·rw [if_neg hf,if_neg hf]; exact Nat.le_refl _
  ·rw [if_neg h0]
   obtain ⟨Λ,l1,l2⟩:=lst_keys ((List.range ((t+1) / 2)).map fun q=>fun a=>a (2 * q)) fun _=>True
   rw [List.length_map,List.length_range] at l1
   have hl:∀π:Nat→Bool,∃L:List BFn,L.length≤2 ^ (b - (t+1) / 2) - 1∧∀K,(∃f a,f≤t / 2∧(∀q,2 * q < t→a (2 * q)=π (2 * q))∧K=(fun c=>rlF b sb f (pfx a t c))∧∃c c':Nat→Bool,K c=true∧K c'=true∧∃q,(t+1) / 2≤q∧q < b∧c (2 * q)≠c' (2 * q))→K ∈ L:=fun π=>by
    refine lam_cov _ ?_ ?_ ?_
    ·rintro K K' ⟨f,a,hf,ha,rfl,_⟩ ⟨f',a',hf',ha',rfl,_⟩ c c' h1 h2 hc
     have h1:rlF b sb f (pfx a t c)=true:=h1
     have h2:rlF b sb f' (pfx a' t c')=true:=h2
     show rlF b sb f (pfx a t c')=true
     rw [rlF_iff] at h1 h2 ⊢
     have ev:∀p,p < b→pfx a t c (2 * p)=pfx a t c' (2 * p):=fun p hp=>pfx_ag (fun _=>rfl) fun h=>hc p (by omega) hp
     have ev':∀p,p < b→pfx a' t c' (2 * p)=pfx a t c' (2 * p):=fun p hp=>pfx_ag (fun h=>by rw [ha p h,ha' p h]) fun _=>rfl
     intro q h3 h4
     by_cases h5:2 * q+1 < t
     ·rw [pfx_in h5,←hsb q h4 _ _ ev,←h1 q h3 h4,pfx_in h5]
     ·have:=h2 q (by omega) h4
      rw [pfx_out (by omega)] at this
      rw [pfx_out (by omega),this]
      exact hsb q h4 _ _ ev'
    ·rintro K K' ⟨f,a,hf,ha,rfl,_⟩ ⟨f',a',hf',ha',rfl,_⟩
     have key:∀{f f':Nat} {a a':Nat→Bool},(∀q,2 * q < t→a (2 * q)=π (2 * q))→(∀q,2 * q < t→a' (2 * q)=π (2 * q))→f≤f'→(∃c,rlF b sb f (pfx a t c)=true∧rlF b sb f' (pfx a' t c)=true)→∀c,rlF b sb f (pfx a t c)=true→rlF b sb f' (pfx a' t c)=true:=fun {f f' a a'} ha ha' hff ⟨x,x1,x2⟩ c hc=>by
      have e:rlF b sb f' (pfx a t c)=rlF b sb f' (pfx a' t c):=rlF_pfx hsb (fun q hq=>by rw [ha q hq,ha' q hq]) fun q h1 h2=>by
       by_cases hqb:q < b
       ·have e1:=rlF_iff.1 x1 q (by omega) hqb
        have e2:=rlF_iff.1 x2 q h1 hqb
        rw [pfx_in h2] at e1 e2
        rw [e1,e2]
        exact hsb q hqb _ _ fun p _=>pfx_ag (fun h=>by rw [ha p h,ha' p h]) fun _=>rfl
       ·omega
      rw [←e,rlF_iff]
      exact fun q h1 h2=>rlF_iff.1 hc q (by omega) h2
     by_cases hx:∃c,rlF b sb f (pfx a t c)=true∧rlF b sb f' (pfx a' t c)=true
     ·rcases Nat.le_total f f' with h | h
      ·exact .inl (key ha ha' h hx)
      ·obtain ⟨c,c1,c2⟩:=hx
       exact .inr (.inl (key ha' ha h ⟨c,c2,c1⟩))
     ·exact .inr (.inr fun c hc=>hx ⟨c,hc⟩)
    ·rintro K ⟨f,a,hf,ha,e,h⟩
     exact h
   obtain ⟨L,hL⟩:=Classical.skolem.1 hl
   refine ⟨Λ.flatMap L,?_,fun f hf hft a hd=>?_⟩
   ·have:∀l:List (Nat→Bool),(l.flatMap L).length≤l.length * (2 ^ (b - (t+1) / 2) - 1):=fun l=>by
     induction l with
     | nil=>simp
     | cons x l ih=>rw [List.flatMap_cons,List.length_append,List.length_cons,Nat.succ_mul]; have:=(hL x).1; omega
    refine Nat.le_trans (this Λ) (Nat.le_trans (Nat.mul_le_mul_right _ l1) (Nat.le_of_eq ?_))
    rw [Nat.mul_sub,Nat.mul_one,←Nat.pow_add,show (t+1) / 2+(b - (t+1) / 2)=b by omega]
   ·obtain ⟨π,m1,_,m2⟩:=l2 a trivial
    have ha:∀q,2 * q < t→a (2 * q)=π (2 * q):=fun q hq=>m2 (fun a=>a (2 * q)) (List.mem_map.2 ⟨q,List.mem_range.2 (by omega),rfl⟩)
    by_cases h2:∃c c':Nat→Bool,rlF b sb f (pfx a t c)=true∧rlF b sb f (pfx a t c')=true∧∃q,(t+1) / 2≤q∧q < b∧c (2 * q)≠c' (2 * q)
    ·exact .inl (List.mem_flatMap.2 ⟨π,m1,(hL π).2 _ ⟨f,a,hft,ha,rfl,h2⟩⟩)
    ·obtain ⟨x,hx⟩:=dep_true hd
     refine .inr (hS1 _ ⟨t,x,by omega,by omega,pt_of (K:=fun c=>rlF b sb f (pfx a t c)) (fun c c' hc=>rlF_fin hsb fun i hi=>pfx_ag (fun _=>rfl) fun h=>hc i h hi rfl) hx fun c hc i i1 i2 _=>?_⟩)
     have ev:∀q,t≤2 * q→q < b→c (2 * q)=x (2 * q):=fun q h3 h4=>Classical.byContradiction fun hne=>h2 ⟨c,x,hc,hx,q,by omega,h4,hne⟩
     rcases Nat.mod_two_eq_zero_or_one i with h0 | h0
     ·have:=ev (i / 2) (by omega) (by omega)
      rwa [show 2 * (i / 2)=i by omega] at this
     ·have:=rlF_det hsb hc hx (fun _ _=>rfl) ev (i / 2) (by omega) (by omega)
      rwa [show 2 * (i / 2)+1=i by omega,pfx_out i1,pfx_out i1] at this
 obtain ⟨LA,a1,a2⟩:=A
 obtain ⟨LB,b1,b2⟩:=B
 refine ⟨LA ++ LB,by rw [List.length_append]; omega,?_⟩
 rintro G ⟨f,hf,rfl⟩ a hd
 by_cases hft:t / 2 < f
 ·exact .inl (List.mem_append_left _ (a2 f hf hft a hd))
 ·exact (b2 f hf (by omega) a hd).imp (List.mem_append_right _) id
end
def parR (x i:Nat):Bool:=decide (i % 2=x)
def innN (b nx i:Nat):Bool:=decide (i < 2 * b∧i % 2=nx)
def exM (b y M t:Nat):Nat:=if t % 2=1 - y∧t < 2 * (b - 3) then min (((List.range ((t+1 - y) / 2+1)).map fun j=>2 ^ (t / 2+j)).sum) M else 0
theorem cov_exl {b y M:Nat} {S:BFn→Prop} {F:BFn} {Λ:List (Nat→Bool)} (hy:y < 2) (hF:∀a c:Nat→Bool,(∀i,i < 2 * b→a i=c i)→F a=F c) (hM:Λ.length≤M) (hΛ:∀π ∈ Λ,F π=true) (hp:∀a,F a=true→∃π ∈ Λ,∀i,i < 2 * b→a i=π i)
  (hS1:∀K,PtS (parR (1 - y)) (2 * b) 0 K→S K) (hS2:∀K:BFn,(∀a c:Nat→Bool,(∀p,b - 3≤p→p < b→a (2 * p+(1 - y))=c (2 * p+(1 - y)))→K a=K c)→S K) :
  CovR (2 * b) S (fun G=>∃k π,G=exB (innN b y) F k π) ((List.range (2 * b)).map (exM b y M)).sum:=by
 refine cov_at (exM b y M) fun t ht=>?_
 have free:∀{i},i < 2 * b→(innN b y i=false↔i % 2=1 - y):=fun {i} hi=>by
  unfold innN
  rw [decide_eq_false_iff_not]
  constructor
  ·intro h
   have:¬i % 2=y:=fun e=>h ⟨hi,e⟩
   omega
  ·intro h h2
   omega
 -- only free variables from the given ones on count
 have dep:∀{k π a},Dep (fun c=>exB (innN b y) F k π (pfx a t c)) t→k≤t∧t % 2=1 - y:=fun {k π a} ⟨x,hx⟩=>by
  have hn:¬(t < k∨innN b y t=true):=fun h=>hx (exB_dep hF fun i h1 h2 h3=>pfx_ag (fun _=>rfl) fun h4=>by
   have:i≠t:=fun e=>by
    subst e
    rcases h with h | h
    ·omega
    ·rw [h3] at h; cases h
   rw [upd_ne this,upd_ne this])
  refine ⟨by omega,(free ht).1 ?_⟩
  cases h:innN b y t with
  | false=>rfl
  | true=>exact absurd (.inr h) hn
 unfold exM
 by_cases hc:t % 2=1 - y∧t < 2 * (b - 3)
 rotate_left
 ·rw [if_neg hc]
  refine ⟨[],by simp,?_⟩
  rintro G ⟨k,π,rfl⟩ a hd
  obtain ⟨d1,d2⟩:=dep hd
  refine .inr (hS2 _ fun x z hxz=>exB_dep hF fun i h1 h2 h3=>pfx_ag (fun _=>rfl) fun h4=>?_)
  have h5:=(free h2).1 h3
  have:¬t < 2 * (b - 3):=fun h=>hc ⟨d2,h⟩
  have:=hxz (i / 2) (by omega) (by omega)
  rwa [show 2 * (i / 2)+(1 - y)=i by omega] at this
 rw [if_pos hc]
 -- what a part means
 have char:∀{k π a},k≤t→∀c,exB (innN b y) F k π (pfx a t c)=true↔∃ρ ∈ Λ,((∀i,i < k→i < 2 * b→innN b y i=true→ρ i=π i)∧∀i,i < t→i < 2 * b→innN b y i=false→ρ i=if i < k then π i else a i)∧∀i,t≤i→i < 2 * b→innN b y i=false→ρ i=c i:=fun {k π a} hk c=>by
  rw [exB_iff]
  constructor
  ·rintro ⟨x,h1,h2⟩
   obtain ⟨ρ,m1,m2⟩:=hp _ h2
   refine ⟨ρ,m1,⟨fun i i1 i2 i3=>?_,fun i i1 i2 i3=>?_⟩,fun i i1 i2 i3=>?_⟩
   ·rw [←m2 i i2,pfx_in i1]
   ·rw [←m2 i i2]
    by_cases h:i < k
    ·rw [pfx_in h,if_pos h]
    ·rw [pfx_out (by omega),if_neg h,h1 i i3,pfx_in i1]
   ·rw [←m2 i i2,pfx_out (by omega),h1 i i3,pfx_out i1]
  ·rintro ⟨ρ,m1,⟨h1,h2⟩,h3⟩
   refine ⟨fun j=>if j < 2 * b then (if innN b y j=true then ρ j else pfx a t c j) else pfx a t c j,fun j hj=>?_,(hF _ _ fun i hi=>?_).trans (hΛ ρ m1)⟩
   ·show (if j < 2 * b then (if innN b y j=true then ρ j else pfx a t c j) else pfx a t c j)=_
    rw [hj]
    split <;> rfl
   ·by_cases h:i < k
    ·rw [pfx_in h]
     cases h4:innN b y i with
     | true=>exact (h1 i h hi h4).symm
     | false =>
      have:=h2 i (by omega) hi h4
      rw [if_pos h] at this
      exact this.symm
    ·rw [pfx_out (by omega)]
     show (if i < 2 * b then _ else _)=_
     rw [if_pos hi]
     cases h4:innN b y i with
     | true=>rw [if_pos rfl]
     | false =>
      rw [if_neg (by decide)]
      by_cases h5:i < t
      ·have:=h2 i h5 hi h4
       rw [if_neg h] at this
       rw [pfx_in h5,this]
      ·rw [pfx_out (by omega),h3 i (by omega) hi h4]
 -- at most so many by what is given
 have A:∃L:List BFn,L.length≤((List.range ((t+1 - y) / 2+1)).map fun j=>2 ^ (t / 2+j)).sum∧∀k π a,k≤t→(fun c=>exB (innN b y) F k π (pfx a t c)) ∈ L:=by
  have hl:∀j,∃L:List BFn,L.length≤2 ^ (t / 2+j)∧∀k π a,k≤t→(k+1 - y) / 2=j→(fun c=>exB (innN b y) F k π (pfx a t c)) ∈ L:=fun j=>by
   -- a list of given values: those of the quantified ones,and those of the free ones
   obtain ⟨Q,q1,q2⟩:=lst_keys (((List.range (t / 2)).map fun i=>fun a=>a (2 * i+(1 - y))) ++ (List.range j).map fun i=>fun a=>a (2 * i+y)) fun _=>True
   rw [List.length_append,List.length_map,List.length_map,List.length_range,List.length_range] at q1
   -- the greatest number of given variables with as many quantified ones
   refine ⟨Q.map fun ρ=>fun c=>exB (innN b y) F (2 * j+y - 1) ρ (pfx ρ t c),by rw [List.length_map]; exact q1,fun k π a hk hj=>?_⟩
   obtain ⟨ρ,m1,_,m2⟩:=q2 (fun i=>if i < k then π i else a i) trivial
   refine List.mem_map.2 ⟨ρ,m1,funext fun c=>?_⟩
   have hk2:2 * j+y - 1≤t:=by omega
   rw [Bool.eq_iff_iff,char hk2,char hk]
   have e1:∀i,i < t→i % 2=1 - y→(if i < k then π i else a i)=ρ i:=fun i h1 h2=>by
    have:=m2 (fun a=>a (2 * (i / 2)+(1 - y))) (List.mem_append_left _ (List.mem_map.2 ⟨i / 2,List.mem_range.2 (by omega),rfl⟩))
    rwa [show 2 * (i / 2)+(1 - y)=i by omega] at this
   have e2:∀i,i < k→i % 2=y→π i=ρ i:=fun i h1 h2=>by
    have:=m2 (fun a=>a (2 * (i / 2)+y)) (List.mem_append_right _ (List.mem_map.2 ⟨i / 2,List.mem_range.2 (by omega),rfl⟩))
    rw [show 2 * (i / 2)+y=i by omega] at this
    have this:(if i < k then π i else a i)=ρ i:=this
    rwa [if_pos h1] at this
   have q:∀i,i < 2 * b→(innN b y i=true↔i % 2=y):=fun i hi=>by unfold innN; rw [decide_eq_true_iff]; exact ⟨fun h=>h.2,fun h=>⟨hi,h⟩⟩
   constructor
   ·rintro ⟨σ,s1,⟨s2,s3⟩,s4⟩
    refine ⟨σ,s1,⟨fun i i1 i2 i3=>?_,fun i i1 i2 i3=>?_⟩,s4⟩
    ·have h5:=(q i i2).1 i3
     rw [s2 i (by omega) i2 i3,e2 i i1 h5]
    ·have h5:=(free i2).1 i3
     have:=s3 i i1 i2 i3
     rw [e1 i i1 h5]
     rw [this]
     split <;> rfl
   ·rintro ⟨σ,s1,⟨s2,s3⟩,s4⟩
    refine ⟨σ,s1,⟨fun i i1 i2 i3=>?_,fun i i1 i2 i3=>?_⟩,s4⟩
    ·have h5:=(q i i2).1 i3
     have hik:i < k:=by omega
     rw [s2 i hik i2 i3,e2 i hik h5]
    ·have h5:=(free i2).1 i3
     rw [s3 i i1 i2 i3,e1 i i1 h5]
     split <;> rfl
  obtain ⟨L,hL⟩:=Classical.skolem.1 hl
  refine ⟨(List.range ((t+1 - y) / 2+1)).flatMap L,sum_len L _ (fun j=>(hL j).1) _,fun k π a hk=>List.mem_flatMap.2 ⟨(k+1 - y) / 2,List.mem_range.2 (by omega),(hL _).2 k π a hk rfl⟩⟩
 -- at most so many by the points
 have B:∃L:List BFn,L.length≤M∧∀k π a,k≤t→Dep (fun c=>exB (innN b y) F k π (pfx a t c)) t→(fun c=>exB (innN b y) F k π (pfx a t c)) ∈ L∨S fun c=>exB (innN b y) F k π (pfx a t c):=by
  obtain ⟨L,l1,l2⟩:=lam_abs Λ (fun K D=>∃k π a,k≤t∧K=(fun c=>exB (innN b y) F k π (pfx a t c))∧D=fun ρ=>(∀i,i < k→i < 2 * b→innN b y i=true→ρ i=π i)∧∀i,i < t→i < 2 * b→innN b y i=false→ρ i=if i < k then π i else a i) (by
   rintro K K' D D' ⟨k,π,a,hk,rfl,rfl⟩ ⟨k',π',a',hk',rfl,rfl⟩ h
   refine funext fun c=>?_
   rw [Bool.eq_iff_iff,char hk,char hk']
   exact ⟨fun ⟨ρ,m1,m2,m3⟩=>⟨ρ,m1,(h ρ m1).1 m2,m3⟩,fun ⟨ρ,m1,m2,m3⟩=>⟨ρ,m1,(h ρ m1).2 m2,m3⟩⟩) (by
   rintro K K' D D' ⟨k,π,a,hk,rfl,rfl⟩ ⟨k',π',a',hk',rfl,rfl⟩
   have key:∀{k k':Nat} {π π' a a':Nat→Bool} {ρ:Nat→Bool},k≤k'→((∀i,i < k→i < 2 * b→innN b y i=true→ρ i=π i)∧∀i,i < t→i < 2 * b→innN b y i=false→ρ i=if i < k then π i else a i)→((∀i,i < k'→i < 2 * b→innN b y i=true→ρ i=π' i)∧∀i,i < t→i < 2 * b→innN b y i=false→ρ i=if i < k' then π' i else a' i) →
     ∀σ:Nat→Bool,((∀i,i < k'→i < 2 * b→innN b y i=true→σ i=π' i)∧∀i,i < t→i < 2 * b→innN b y i=false→σ i=if i < k' then π' i else a' i)→((∀i,i < k→i < 2 * b→innN b y i=true→σ i=π i)∧∀i,i < t→i < 2 * b→innN b y i=false→σ i=if i < k then π i else a i):=fun hkk r1 r2 σ s=>by
    refine ⟨fun i i1 i2 i3=>?_,fun i i1 i2 i3=>?_⟩
    ·rw [s.1 i (by omega) i2 i3,←r2.1 i (by omega) i2 i3,r1.1 i i1 i2 i3]
    ·rw [s.2 i i1 i2 i3,←r2.2 i i1 i2 i3,r1.2 i i1 i2 i3]
   by_cases hx:∃ρ ∈ Λ,((∀i,i < k→i < 2 * b→innN b y i=true→ρ i=π i)∧∀i,i < t→i < 2 * b→innN b y i=false→ρ i=if i < k then π i else a i)∧((∀i,i < k'→i < 2 * b→innN b y i=true→ρ i=π' i)∧∀i,i < t→i < 2 * b→innN b y i=false→ρ i=if i < k' then π' i else a' i)
   ·obtain ⟨ρ,m1,r1,r2⟩:=hx
    rcases Nat.le_total k k' with h | h
    ·exact .inr (.inl fun σ _ hs=>key h r1 r2 σ hs)
    ·exact .inl fun σ _ hs=>key h r2 r1 σ hs
   ·exact .inr (.inr fun σ m hs=>hx ⟨σ,m,hs⟩))
  refine ⟨L,by omega,fun k π a hk hd=>?_⟩
  by_cases h2:∃ρ ∈ Λ,∃ρ' ∈ Λ,((∀i,i < k→i < 2 * b→innN b y i=true→ρ i=π i)∧∀i,i < t→i < 2 * b→innN b y i=false→ρ i=if i < k then π i else a i)∧((∀i,i < k→i < 2 * b→innN b y i=true→ρ' i=π i)∧∀i,i < t→i < 2 * b→innN b y i=false→ρ' i=if i < k then π i else a i)∧ρ≠ρ'
  ·exact .inl (l2 _ _ ⟨k,π,a,hk,rfl,rfl⟩ h2)
  ·obtain ⟨x,hx⟩:=dep_true hd
   obtain ⟨ρ,m1,m2,m3⟩:=(char hk x).1 hx
   refine .inr (hS1 _ ⟨t,ρ,by omega,by omega,funext fun c=>?_⟩)
   rw [Bool.eq_iff_iff,char hk,ptB_iff]
   constructor
   ·rintro ⟨σ,s1,s2,s3⟩ i i1 i2 i3
    have:σ=ρ:=Classical.byContradiction fun hne=>h2 ⟨σ,s1,ρ,m1,s2,m2,hne⟩
    subst this
    have h5:i % 2=1 - y:=of_decide_eq_true i3
    exact (s3 i i1 i2 ((free i2).2 h5)).symm
   ·intro h
    refine ⟨ρ,m1,m2,fun i i1 i2 i3=>?_⟩
    exact (h i i1 i2 (decide_eq_true ((free i2).1 i3))).symm
 by_cases hm:((List.range ((t+1 - y) / 2+1)).map fun j=>2 ^ (t / 2+j)).sum≤M
 ·obtain ⟨L,l1,l2⟩:=A
  refine ⟨L,by rw [Nat.min_eq_left hm]; exact l1,?_⟩
  rintro G ⟨k,π,rfl⟩ a hd
  exact .inl (l2 k π a (dep hd).1)
 ·obtain ⟨L,l1,l2⟩:=B
  refine ⟨L,by rw [Nat.min_eq_right (by omega)]; exact l1,?_⟩
  rintro G ⟨k,π,rfl⟩ a hd
  exact l2 k π a (dep hd).1 hd
end Go.Sy
end
section
namespace Go.Sy
open Go.Bd
structure Eff where
 E:Nat
 lab:Nat→Nat
 con:Nat→List (Nat × Bool)
 val:Nat→Nat→Bool
section
variable (X:Eff)
def Eff.laK (v:Nat) (a:Nat→Bool):Nat→Option Nat
 | 0=>none
 | k+1=>if X.lab k=v∧cubeB (X.con k) a=true then some k else Eff.laK v a k
def Eff.la (v:Nat) (a:Nat→Bool):Option Nat:=X.laK v a X.E
theorem Eff.laK_some {v i:Nat} {a:Nat→Bool}:∀k,X.laK v a k=some i↔i < k∧X.lab i=v∧cubeB (X.con i) a=true∧∀i',i < i'→i' < k→X.lab i'=v→¬cubeB (X.con i') a=true
 | 0=>by simp [Eff.laK]
 | k+1=>by
  unfold Eff.laK
  by_cases h:X.lab k=v∧cubeB (X.con k) a=true
  ·rw [if_pos h]
   constructor
   ·intro e
    injection e with e
    subst e
    exact ⟨by omega,h.1,h.2,fun i' h1 h2=>by omega⟩
   ·rintro ⟨h1,h2,h3,h4⟩
    have:i=k:=Classical.byContradiction fun hne=>h4 k (by omega) (by omega) h.1 h.2
    rw [this]
  ·rw [if_neg h,Eff.laK_some k]
   constructor
   ·rintro ⟨h1,h2,h3,h4⟩
    refine ⟨by omega,h2,h3,fun i' h5 h6 h7 h8=>?_⟩
    by_cases e:i'=k
    ·subst e; exact h ⟨h7,h8⟩
    ·exact h4 i' h5 (by omega) h7 h8
   ·rintro ⟨h1,h2,h3,h4⟩
    have:i≠k:=fun e=>by subst e; exact h ⟨h2,h3⟩
    exact ⟨by omega,h2,h3,fun i' h5 h6=>h4 i' h5 (by omega)⟩
theorem Eff.la_some {v i:Nat} {a:Nat→Bool}:X.la v a=some i↔i < X.E∧X.lab i=v∧cubeB (X.con i) a=true∧∀i',i < i'→i' < X.E→X.lab i'=v→¬cubeB (X.con i') a=true:=X.laK_some X.E
theorem Eff.la_ge {v i j:Nat} {a a':Nat→Bool} (h:∀i,j≤i→i < X.E→X.lab i=v→cubeB (X.con i) a=cubeB (X.con i) a') (hi:j≤i):X.la v a=some i↔X.la v a'=some i:=by
 rw [X.la_some,X.la_some]
 constructor
 ·rintro ⟨h1,h2,h3,h4⟩
  exact ⟨h1,h2,by rw [←h i hi h1 h2]; exact h3,fun i' h5 h6 h7=>by rw [←h i' (by omega) h6 h7]; exact h4 i' h5 h6 h7⟩
 ·rintro ⟨h1,h2,h3,h4⟩
  exact ⟨h1,h2,by rw [h i hi h1 h2]; exact h3,fun i' h5 h6 h7=>by rw [h i' (by omega) h6 h7]; exact h4 i' h5 h6 h7⟩
theorem Eff.la_eq {v:Nat} {a a':Nat→Bool} (h:∀i,i < X.E→X.lab i=v→cubeB (X.con i) a=cubeB (X.con i) a'):X.la v a=X.la v a':=by
 have key:=fun i=>X.la_ge (v:=v) (j:=0) (i:=i) (fun i _=>h i) (Nat.zero_le _)
 cases h1:X.la v a with
 | some i=>rw [(key i).1 h1]
 | none =>
  cases h2:X.la v a' with
  | none=>rfl
  | some i=>rw [(key i).2 h2] at h1; cases h1
def Eff.sv (v q:Nat) (a:Nat→Bool):Bool:=match X.la v a with | some i=>X.val i q | none=>a (2 * q)
def Eff.cnt (v j:Nat):Nat:=((List.range X.E).filter fun i=>decide (j≤i) && decide (X.lab i=v)).length
def Eff.Ok (b:Nat):Prop:=∀j,j < X.E→∀p ∈ X.con j,p.1 % 2=0∧p.1 < 2 * b
theorem cub_ev {b:Nat} {l:List (Nat × Bool)} (hl:∀p ∈ l,p.1 % 2=0∧p.1 < 2 * b) {a c:Nat→Bool} (h:∀q,q < b→a (2 * q)=c (2 * q)):cubeB l a=cubeB l c:=by
 unfold cubeB
 refine Bool.eq_iff_iff.2 ?_
 rw [List.all_eq_true,List.all_eq_true]
 have e:∀p ∈ l,a p.1=c p.1:=fun p hp=>by
  have:=hl p hp
  have:=h (p.1 / 2) (by omega)
  rwa [show 2 * (p.1 / 2)=p.1 by omega] at this
 exact ⟨fun h1 p hp=>by rw [←e p hp]; exact h1 p hp,fun h1 p hp=>by rw [e p hp]; exact h1 p hp⟩
end
section
variable {X:Eff} {b:Nat} (hX:X.Ok b)
include hX
theorem la_ev {v:Nat} {a c:Nat→Bool} (h:∀q,q < b→a (2 * q)=c (2 * q)):X.la v a=X.la v c:=X.la_eq fun i hi _=>cub_ev (hX i hi) h
theorem sv_ev {v q:Nat} (hq:q < b) {a c:Nat→Bool} (h:∀q,q < b→a (2 * q)=c (2 * q)):X.sv v q a=X.sv v q c:=by
 unfold Eff.sv
 rw [la_ev hX h,h q hq]
def kN (X:Eff) (t v j:Nat):Nat:=min (2 ^ ((t+1) / 2)) (2 ^ X.cnt v j)
theorem key_at {t v j:Nat} (G:BFn) (h:∀a a' c:Nat→Bool,(∀i,j≤i→i < X.E→X.lab i=v→cubeB (X.con i) (pfx a t c)=cubeB (X.con i) (pfx a' t c))→G (pfx a t c)=G (pfx a' t c)) :
  ∃L:List BFn,L.length≤kN X t v j∧∀a,(fun c=>G (pfx a t c)) ∈ L:=by
 unfold kN
 by_cases hm:2 ^ ((t+1) / 2)≤2 ^ X.cnt v j
 ·rw [Nat.min_eq_left hm]
  exact evn_cov G fun a a' c hh=>h a a' c fun i h1 h2 h3=>cub_ev (hX i h2) fun q hq=>pfx_ag (hh q) fun _=>rfl
 ·rw [Nat.min_eq_right (by omega)]
  obtain ⟨L,l1,l2⟩:=key_cov (t:=t) (((List.range X.E).filter fun i=>decide (j≤i) && decide (X.lab i=v)).map X.con) G fun a a' c hh=>h a a' c fun i h1 h2 h3=>hh _ (List.mem_map.2 ⟨i,List.mem_filter.2 ⟨List.mem_range.2 h2,by simp [h1,h3]⟩,rfl⟩)
  rw [List.length_map] at l1
  exact ⟨L,l1,l2⟩
end
theorem ex_fn (P:(Nat→Bool)→Prop):∃G:BFn,∀a,G a=true↔P a:=⟨fun a=>@decide _ (Classical.propDecidable _),fun a=>@decide_eq_true_iff _ (Classical.propDecidable _)⟩
structure Bts where
 sB:Nat→Nat
 eB:Nat→Nat
def FX (X:Eff) (Y:Bts) (G:BFn):Prop:=∃j,j < X.E∧((∀a,G a=true↔X.la (X.lab j) a=some j)∨(∀a,G a=true↔∀i,X.la (X.lab j) a=some i→i < j) ∨
 ∀a,G a=true↔∃i,X.la (X.lab j) a=some i∧j≤i∧∀q,Y.sB (X.lab j)≤q→q < Y.eB (X.lab j)→X.val i q=X.val j q)
def xM (X:Eff) (b t:Nat):Nat:=if t % 2=0∧t < 2 * (b - 3) then ((List.range X.E).map fun j=>3 * kN X t (X.lab j) j).sum else 0
section
variable {X:Eff} {Y:Bts} {b t0 t1:Nat} {S:BFn→Prop} (hX:X.Ok b)
include hX
theorem fx_ev {G:BFn} (h:FX X Y G) {a c:Nat→Bool} (hh:∀q,q < b→a (2 * q)=c (2 * q)):G a=G c:=by
 obtain ⟨j,hj,h⟩:=h
 have e:=la_ev hX (v:=X.lab j) hh
 rw [Bool.eq_iff_iff]
 rcases h with h | h | h <;> rw [h,h,e]
theorem lev_x (hS:∀K:BFn,(∀a c:Nat→Bool,(∀p,b - 3≤p→p < b→a (2 * p)=c (2 * p))→K a=K c)→S K) (t:Nat):∃L:List BFn,L.length≤xM X b t∧∀G,FX X Y G→∀a,Dep (fun c=>G (pfx a t c)) t→(fun c=>G (pfx a t c)) ∈ L∨S fun c=>G (pfx a t c):=by
 unfold xM
 have nd:∀G,FX X Y G→∀a,Dep (fun c=>G (pfx a t c)) t→t % 2=0:=fun G hG a ⟨x,hx⟩=>Classical.byContradiction fun ho=>hx (fx_ev hX hG fun q _=>pfx_ag (fun _=>rfl) fun _=>by rw [upd_ne (by omega),upd_ne (by omega)])
 by_cases hc:t % 2=0∧t < 2 * (b - 3)
 rotate_left
 ·rw [if_neg hc]
  refine ⟨[],by simp,fun G hG a hd=>.inr (hS _ fun x y hxy=>fx_ev hX hG fun q hq=>pfx_ag (fun _=>rfl) fun h=>hxy q ?_ hq)⟩
  have:=nd G hG a hd
  have:¬t < 2 * (b - 3):=fun h=>hc ⟨this,h⟩
  omega
 rw [if_pos hc]
 have one:∀(j:Nat) (P:(Nat→Bool)→Prop),(∀a a':Nat→Bool,(∀i,j≤i→i < X.E→X.lab i=X.lab j→cubeB (X.con i) a=cubeB (X.con i) a')→(P a↔P a'))→∃L:List BFn,L.length≤kN X t (X.lab j) j∧∀G:BFn,(∀a,G a=true↔P a)→∀a,(fun c=>G (pfx a t c)) ∈ L:=fun j P hP=>by
  obtain ⟨g,hg⟩:=ex_fn P
  obtain ⟨L,l1,l2⟩:=key_at hX (t:=t) (v:=X.lab j) (j:=j) g fun a a' c h=>by rw [Bool.eq_iff_iff,hg,hg]; exact hP _ _ h
  refine ⟨L,l1,fun G hG a=>?_⟩
  have:G=g:=funext fun x=>by rw [Bool.eq_iff_iff,hG,hg]
  rw [this]
  exact l2 a
 have hl:∀j,∃L:List BFn,L.length≤3 * kN X t (X.lab j) j∧∀G:BFn,((∀a,G a=true↔X.la (X.lab j) a=some j)∨(∀a,G a=true↔∀i,X.la (X.lab j) a=some i→i < j) ∨
   ∀a,G a=true↔∃i,X.la (X.lab j) a=some i∧j≤i∧∀q,Y.sB (X.lab j)≤q→q < Y.eB (X.lab j)→X.val i q=X.val j q)→∀a,(fun c=>G (pfx a t c)) ∈ L:=fun j=>by
  obtain ⟨L1,a1,b1⟩:=one j (fun a=>X.la (X.lab j) a=some j) fun a a' h=>X.la_ge h (Nat.le_refl _)
  obtain ⟨L2,a2,b2⟩:=one j (fun a=>∀i,X.la (X.lab j) a=some i→i < j) fun a a' h=>by
   have key:∀{a a':Nat→Bool},(∀i,j≤i→i < X.E→X.lab i=X.lab j→cubeB (X.con i) a=cubeB (X.con i) a')→(∀i,X.la (X.lab j) a=some i→i < j)→∀i,X.la (X.lab j) a'=some i→i < j:=fun {a a'} h h1 i hi=>Classical.byContradiction fun hn=>hn (h1 i ((X.la_ge h (by omega)).2 hi))
   exact ⟨key h,key fun i h1 h2 h3=>(h i h1 h2 h3).symm⟩
  obtain ⟨L3,a3,b3⟩:=one j (fun a=>∃i,X.la (X.lab j) a=some i∧j≤i∧∀q,Y.sB (X.lab j)≤q→q < Y.eB (X.lab j)→X.val i q=X.val j q) fun a a' h=>by
   constructor
   ·rintro ⟨i,h1,h2,h3⟩
    exact ⟨i,(X.la_ge h h2).1 h1,h2,h3⟩
   ·rintro ⟨i,h1,h2,h3⟩
    exact ⟨i,(X.la_ge h h2).2 h1,h2,h3⟩
  refine ⟨L1 ++ (L2 ++ L3),by rw [List.length_append,List.length_append]; omega,fun G hG a=>?_⟩
  rcases hG with h | h | h
  ·exact List.mem_append_left _ (b1 G h a)
  ·exact List.mem_append_right _ (List.mem_append_left _ (b2 G h a))
  ·exact List.mem_append_right _ (List.mem_append_right _ (b3 G h a))
 obtain ⟨L,hL⟩:=Classical.skolem.1 hl
 refine ⟨(List.range X.E).flatMap L,sum_len L _ (fun j=>(hL j).1) _,fun G ⟨j,hj,hG⟩ a _=>.inl (List.mem_flatMap.2 ⟨j,List.mem_range.2 hj,(hL j).2 G hG a⟩)⟩
end
def MV (X:Eff) (v:Nat) (M:Option Nat→Prop):Prop:=(∃j,j < X.E∧X.lab j=v∧(M=(fun o=>o=some j)∨M=fun o=>∃i,o=some i∧j≤i))∨M=(fun o=>o=none)∨M=fun _=>True
def VF (X:Eff) (Y:Bts) (v:Nat) (M:Option Nat→Prop) (G:BFn):Prop:=∀a,G a=true↔M (X.la v a)∧∀q,Y.sB v≤q→q < Y.eB v→a (2 * q+1)=X.sv v q a
def FV (X:Eff) (Y:Bts) (v:Nat) (G:BFn):Prop:=∃M,MV X v M∧VF X Y v M G
def relVr (Y:Bts) (v i:Nat):Bool:=decide (i % 2=0) || (decide (Y.sB v≤i / 2) && decide (i / 2 < Y.eB v))
def vM (X:Eff) (Y:Bts) (b t0 t1 v t:Nat):Nat :=
 if t1≤t then 0
 else if t≤2 * Y.sB v then (if t % 2=0 then ((List.range X.E).map fun j=>if X.lab j=v then 2 * kN X t v j else 0).sum+2 * kN X t v 0 else 0)
 else if t < 2 * Y.eB v then (if t < t0 then (2 * X.cnt v 0+2) * 2 ^ ((t+1) / 2) else min ((2 * X.cnt v 0+2) * 2 ^ ((t+1) / 2)) (2 ^ b - 2 ^ ((t+1) / 2)))
 else if t % 2=0∧t < 2 * (b - 3) then min (2 ^ (t / 2)) (X.cnt v 0 * 2 ^ X.cnt v 0) else 0
theorem mv_lam {X:Eff} {v:Nat} {M M':Option Nat→Prop} (h:MV X v M) (h':MV X v M'):(∀o,M o→M' o)∨(∀o,M' o→M o)∨∀o,¬(M o∧M' o):=by
 rcases h with ⟨j,hj,hl,rfl | rfl⟩ | rfl | rfl
 ·rcases h' with ⟨j',hj',hl',rfl | rfl⟩ | rfl | rfl
  ·by_cases e:j=j'
   ·subst e; exact .inl fun o h=>h
   ·exact .inr (.inr fun o ⟨h1,h2⟩=>e (by rw [h1] at h2; exact Option.some.inj h2))
  ·by_cases e:j'≤j
   ·exact .inl fun o h=>⟨j,h,e⟩
   ·exact .inr (.inr fun o ⟨h1,i,h2,h3⟩=>by rw [h1] at h2; have:=Option.some.inj h2; omega)
  ·exact .inr (.inr fun o ⟨h1,h2⟩=>by rw [h1] at h2; cases h2)
  ·exact .inl fun _ _=>trivial
 ·rcases h' with ⟨j',hj',hl',rfl | rfl⟩ | rfl | rfl
  ·by_cases e:j≤j'
   ·exact .inr (.inl fun o h=>⟨j',h,e⟩)
   ·exact .inr (.inr fun o ⟨⟨i,h2,h3⟩,h1⟩=>by rw [h1] at h2; have:=Option.some.inj h2; omega)
  ·rcases Nat.le_total j j' with e | e
   ·exact .inr (.inl fun o ⟨i,h1,h2⟩=>⟨i,h1,by omega⟩)
   ·exact .inl fun o ⟨i,h1,h2⟩=>⟨i,h1,by omega⟩
  ·exact .inr (.inr fun o ⟨⟨i,h1,_⟩,h2⟩=>by rw [h1] at h2; cases h2)
  ·exact .inl fun _ _=>trivial
 ·rcases h' with ⟨j',hj',hl',rfl | rfl⟩ | rfl | rfl
  ·exact .inr (.inr fun o ⟨h1,h2⟩=>by rw [h1] at h2; cases h2)
  ·exact .inr (.inr fun o ⟨h1,i,h2,_⟩=>by rw [h1] at h2; cases h2)
  ·exact .inl fun o h=>h
  ·exact .inl fun _ _=>trivial
 ·exact .inr (.inl fun _ _=>trivial)
section
variable {X:Eff} {Y:Bts} {b t0 t1 v:Nat} {S:BFn→Prop} (hX:X.Ok b) (hse:Y.sB v≤Y.eB v) (heb:Y.eB v≤b)
include hX hse heb
theorem vf_pfx {M:Option Nat→Prop} {G:BFn} (h:VF X Y v M G) {t:Nat} {a a' c:Nat→Bool} (h1:∀q,2 * q < t→a (2 * q)=a' (2 * q)) (h2:∀q,Y.sB v≤q→q < Y.eB v→2 * q+1 < t→a (2 * q+1)=a' (2 * q+1)):G (pfx a t c)=G (pfx a' t c):=by
 have ev:∀q,q < b→pfx a t c (2 * q)=pfx a' t c (2 * q):=fun q _=>pfx_ag (h1 q) fun _=>rfl
 have e1:=la_ev hX (v:=v) ev
 have e2:∀q,q < b→X.sv v q (pfx a t c)=X.sv v q (pfx a' t c):=fun q hq=>sv_ev hX hq ev
 have e3:∀q,Y.sB v≤q→q < Y.eB v→pfx a t c (2 * q+1)=pfx a' t c (2 * q+1):=fun q h3 h4=>pfx_ag (h2 q h3 h4) fun _=>rfl
 rw [Bool.eq_iff_iff,h,h,e1]
 exact ⟨fun ⟨h5,h6⟩=>⟨h5,fun q h3 h4=>by rw [←e3 q h3 h4,←e2 q (by omega)]; exact h6 q h3 h4⟩,fun ⟨h5,h6⟩=>⟨h5,fun q h3 h4=>by rw [e3 q h3 h4,e2 q (by omega)]; exact h6 q h3 h4⟩⟩
theorem vf_fin {M:Option Nat→Prop} {G:BFn} (h:VF X Y v M G) {t:Nat} {a c c':Nat→Bool} (hc:∀i,t≤i→i < 2 * b→relVr Y v i=true→c i=c' i):G (pfx a t c)=G (pfx a t c'):=by
 have ev:∀q,q < b→pfx a t c (2 * q)=pfx a t c' (2 * q):=fun q hq=>pfx_ag (fun _=>rfl) fun h=>hc _ h (by omega) (by unfold relVr; simp)
 have e1:=la_ev hX (v:=v) ev
 have e2:∀q,q < b→X.sv v q (pfx a t c)=X.sv v q (pfx a t c'):=fun q hq=>sv_ev hX hq ev
 have e3:∀q,Y.sB v≤q→q < Y.eB v→pfx a t c (2 * q+1)=pfx a t c' (2 * q+1):=fun q h3 h4=>pfx_ag (fun _=>rfl) fun h=>hc _ h (by omega) (by unfold relVr; rw [show (2 * q+1) / 2=q by omega]; simp [h3,h4])
 rw [Bool.eq_iff_iff,h,h,e1]
 exact ⟨fun ⟨h5,h6⟩=>⟨h5,fun q h3 h4=>by rw [←e3 q h3 h4,←e2 q (by omega)]; exact h6 q h3 h4⟩,fun ⟨h5,h6⟩=>⟨h5,fun q h3 h4=>by rw [e3 q h3 h4,e2 q (by omega)]; exact h6 q h3 h4⟩⟩
theorem vf_det {M M':Option Nat→Prop} {G G':BFn} (h:VF X Y v M G) (h':VF X Y v M' G') {x y:Nat→Bool} (h1:G x=true) (h2:G' y=true) (ev:∀q,q < b→x (2 * q)=y (2 * q)):∀q,Y.sB v≤q→q < Y.eB v→x (2 * q+1)=y (2 * q+1):=fun q q1 q2=>by
 rw [((h x).1 h1).2 q q1 q2,((h' y).1 h2).2 q q1 q2]
 exact sv_ev hX (by omega) ev
theorem relVr_od {i:Nat} (hi:i % 2=1) (h:relVr Y v i=true):Y.sB v≤i / 2∧i / 2 < Y.eB v:=by
 unfold relVr at h
 rw [hi] at h
 simpa using h
theorem vf_detA {M:Option Nat→Prop} {G:BFn} (h:VF X Y v M G) (t:Nat) (a:Nat→Bool):DetA (relVr Y v) (2 * b) t fun c=>G (pfx a t c):=by
 refine ⟨fun c c' hc=>vf_fin hX hse heb h hc,fun c c' e1 e2 hc i i1 i2 i3=>?_⟩
 rcases Nat.mod_two_eq_zero_or_one i with h0 | h0
 ·have:=hc (i / 2) (by omega) (by omega) (by unfold relVr; simp)
  rwa [show 2 * (i / 2)=i by omega] at this
 ·obtain ⟨h1,h2⟩:=relVr_od hX hse heb h0 i3
  have:=vf_det hX hse heb h h e1 e2 (fun q hq=>pfx_ag (fun _=>rfl) fun h=>hc q h (by omega) (by unfold relVr; simp)) (i / 2) h1 h2
  rwa [show 2 * (i / 2)+1=i by omega,pfx_out i1,pfx_out i1] at this
theorem vf_one {M:Option Nat→Prop} {G:BFn} (h:VF X Y v M G) {t:Nat} {a x:Nat→Bool} (hx:G (pfx a t x)=true) (h2:¬∃c c':Nat→Bool,G (pfx a t c)=true∧G (pfx a t c')=true∧∃q,(t+1) / 2≤q∧q < b∧c (2 * q)≠c' (2 * q)):(fun c=>G (pfx a t c))=PtB (relVr Y v) (2 * b) t x:=by
 refine pt_of (K:=fun c=>G (pfx a t c)) (fun c c' hc=>vf_fin hX hse heb h hc) hx fun c hc i i1 i2 i3=>?_
 exact (vf_detA hX hse heb h t a).2 c x hc hx (fun q h3 h4 _=>Classical.byContradiction fun hne=>h2 ⟨c,x,hc,hx,q,by omega,by omega,hne⟩) i i1 i2 i3
end
end Go.Sy
end
