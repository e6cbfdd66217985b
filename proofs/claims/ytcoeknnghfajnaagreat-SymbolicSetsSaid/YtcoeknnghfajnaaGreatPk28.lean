/-
  A part of the proof of this claim's statement (SyEG, SyEH): plain theorems; no conditions beyond those each names.
-/
import Derived.Test.YtcoeknnghfajnaaGreatPk27
import Derived.Test.YtcoeknnghfajnaaGreatPk25
set_option maxRecDepth 100000
set_option linter.unusedSimpArgs false
set_option linter.unusedVariables false
set_option linter.unusedSectionVars false
section
namespace Go.Sy
open Go.Bd
def sm (n:Nat) (f:Nat→Nat):Nat:=((List.range n).map f).sum
theorem sm_zero (f:Nat→Nat):sm 0 f=0:=rfl
theorem sm_succ (n:Nat) (f:Nat→Nat):sm (n+1) f=sm n f+f n:=by
 unfold sm
 rw [List.range_succ,List.map_append,List.sum_append]
 simp
theorem sm_le {f g:Nat→Nat}:∀{n:Nat},(∀i,i < n→f i≤g i)→sm n f≤sm n g
 | 0,_=>Nat.le_refl _
 | n+1,h=>by
  rw [sm_succ,sm_succ]
  exact Nat.add_le_add (sm_le fun i hi=>h i (by omega)) (h n (by omega))
theorem sm_congr {f g:Nat→Nat}:∀{n:Nat},(∀i,i < n→f i=g i)→sm n f=sm n g
 | 0,_=>rfl
 | n+1,h=>by rw [sm_succ,sm_succ,sm_congr fun i hi=>h i (by omega),h n (by omega)]
theorem sm_add {f g:Nat→Nat}:∀n:Nat,sm n (fun i=>f i+g i)=sm n f+sm n g
 | 0=>rfl
 | n+1=>by rw [sm_succ,sm_succ,sm_succ,sm_add n]; omega
theorem sm_const (c:Nat):∀n:Nat,sm n (fun _=>c)=n * c
 | 0=>by simp [sm]
 | n+1=>by rw [sm_succ,sm_const c n,Nat.succ_mul]
theorem sm_mul (c:Nat) {f:Nat→Nat}:∀n:Nat,sm n (fun i=>c * f i)=c * sm n f
 | 0=>by simp [sm]
 | n+1=>by rw [sm_succ,sm_succ,sm_mul c n,Nat.mul_add]
theorem sm_mono {f:Nat→Nat} {n m:Nat} (h:n≤m):sm n f≤sm m f:=by
 obtain ⟨d,rfl⟩:∃d,m=n+d:=⟨m - n,by omega⟩
 induction d with
 | zero=>exact Nat.le_refl _
 | succ d ih=>rw [←Nat.add_assoc,sm_succ]; have:=ih (by omega); omega
theorem sm_swap {f:Nat→Nat→Nat} (m:Nat):∀n:Nat,sm n (fun i=>sm m fun j=>f i j)=sm m fun j=>sm n fun i=>f i j
 | 0=>by rw [sm_zero]; exact (sm_congr fun i _=>sm_zero _).trans ((sm_const 0 m).trans (Nat.mul_zero _)) |>.symm
 | n+1=>by
  rw [sm_succ,sm_swap m n,←sm_add]
  exact sm_congr fun j _=>(sm_succ n fun i=>f i j).symm
theorem sm_one {x c:Nat}:∀{n:Nat},x < n→sm n (fun i=>if i=x then c else 0)=c
 | 0,h=>by omega
 | n+1,h=>by
  rw [sm_succ]
  by_cases e:n=x
  ·subst e
   rw [if_pos rfl,sm_congr (g:=fun _=>0) fun i hi=>if_neg (by omega),sm_const]
   omega
  ·rw [if_neg e,sm_one (by omega)]
   omega
theorem sm_pos {f:Nat→Nat} {x:Nat}:∀{n:Nat},x < n→f x≤sm n f
 | 0,h=>by omega
 | n+1,h=>by
  rw [sm_succ]
  by_cases e:n=x
  ·subst e; omega
  ·have:=sm_pos (f:=f) (show x < n by omega); omega
def smD (E:Nat) (f:Nat→Nat):Nat→Nat
 | 0=>0
 | d+1=>smD E f d+f (E - 1 - d)
theorem sm_smD (E:Nat) (f:Nat→Nat):∀d,d≤E→sm E f=sm (E - d) f+smD E f d
 | 0,_=>by simp [smD]
 | d+1,h=>by
  have h1:=sm_smD E f d (by omega)
  have h2:=sm_succ (E - (d+1)) f
  rw [show E - (d+1)+1=E - d by omega] at h2
  have h3:smD E f (d+1)=smD E f d+f (E - (d+1)):=by rw [show E - (d+1)=E - 1 - d by omega]; rfl
  omega
section
variable (X:Eff)
def Eff.cq (q:Nat→Bool) (j:Nat):Nat:=((List.range X.E).filter fun i=>decide (j≤i) && q (X.lab i)).length
theorem cnt_le_cq {q:Nat→Bool} {v j:Nat} (hv:q v=true):X.cnt v j≤X.cq q j:=by
 unfold Eff.cnt Eff.cq
 rw [←List.countP_eq_length_filter,←List.countP_eq_length_filter]
 refine List.countP_mono_left fun i _ h=>?_
 simp only [Bool.and_eq_true,decide_eq_true_eq] at h ⊢
 exact ⟨h.1,by rw [h.2]; exact hv⟩
theorem len_filt (p:Nat→Bool):∀n,((List.range n).filter p).length=sm n fun i=>if p i=true then 1 else 0
 | 0=>rfl
 | n+1=>by
  rw [List.range_succ,List.filter_append,List.length_append,len_filt p n,sm_succ]
  by_cases h:p n=true
  ·simp [h]
  ·simp [h]
theorem cq_step {q:Nat→Bool} {j:Nat} (hj:j < X.E):X.cq q j=X.cq q (j+1)+if q (X.lab j)=true then 1 else 0:=by
 unfold Eff.cq
 rw [len_filt,len_filt]
 have e:∀i,i < X.E→(if (decide (j≤i) && q (X.lab i))=true then 1 else 0)=(if (decide (j+1≤i) && q (X.lab i))=true then 1 else 0)+if i=j then (if q (X.lab j)=true then 1 else 0) else 0:=fun i _=>by
  by_cases h:i=j
  ·subst h
   rw [decide_eq_true (Nat.le_refl i),decide_eq_false (show ¬i+1≤i by omega),if_pos rfl]
   simp
  ·rw [if_neg h,Nat.add_zero]
   have:decide (j≤i)=decide (j+1≤i):=by rw [decide_eq_decide]; omega
   rw [this]
 rw [sm_congr e,sm_add,sm_one hj]
theorem lab_sum {φ:Nat→Nat} (hφ:∀i j,i≤j→φ i≤φ j) (q:Nat→Bool):sm X.E (fun j=>if q (X.lab j)=true then φ (X.cnt (X.lab j) j) else 0)≤sm (X.cq q 0) fun i=>φ (i+1):=by
 have key:∀d,d≤X.E→smD X.E (fun j=>if q (X.lab j)=true then φ (X.cnt (X.lab j) j) else 0) d≤sm (X.cq q (X.E - d)) fun i=>φ (i+1):=fun d=>by
  induction d with
  | zero=>exact fun _=>Nat.zero_le _
  | succ d ih =>
   intro hd
   have ih:=ih (by omega)
   unfold smD
   have e1:=cq_step X (q:=q) (j:=X.E - (d+1)) (by omega)
   rw [show X.E - (d+1)+1=X.E - d by omega] at e1
   rw [show X.E - 1 - d=X.E - (d+1) by omega]
   by_cases h:q (X.lab (X.E - (d+1)))=true
   ·rw [if_pos h] at e1 ⊢
    rw [e1,sm_succ]
    have h2:=cnt_le_cq X (j:=X.E - (d+1)) h
    rw [e1] at h2
    exact Nat.add_le_add ih (hφ _ _ h2)
   ·rw [if_neg h] at e1 ⊢
    rw [e1]
    omega
 have:=key X.E (Nat.le_refl _)
 rw [sm_smD X.E _ X.E (Nat.le_refl _),Nat.sub_self,sm_zero,Nat.zero_add]
 rwa [Nat.sub_self] at this
theorem cq_not {v:Nat}:X.cq (fun u=>!decide (u=v)) 0+X.cnt v 0=X.E:=by
 unfold Eff.cq Eff.cnt
 rw [len_filt,len_filt,←sm_add]
 refine (sm_congr (g:=fun _=>1) fun i _=>?_).trans (by rw [sm_const]; omega)
 by_cases h:X.lab i=v
 ·simp [h]
 ·simp [h]
theorem cq_all:X.cq (fun _=>true) 0=X.E:=by
 unfold Eff.cq
 rw [len_filt]
 exact (sm_congr (g:=fun _=>1) fun i _=>by simp).trans (by rw [sm_const]; omega)
theorem cnt_le (v:Nat):X.cnt v 0≤X.E:=by have:=cq_not X (v:=v); omega
theorem cnt_pos {v:Nat}:0 < X.cnt v 0↔∃j,j < X.E∧X.lab j=v:=by
 unfold Eff.cnt
 rw [List.length_pos_iff_exists_mem]
 constructor
 ·rintro ⟨j,hj⟩
  rw [List.mem_filter,List.mem_range] at hj
  exact ⟨j,hj.1,by simpa using hj.2⟩
 ·rintro ⟨j,h1,h2⟩
  exact ⟨j,List.mem_filter.2 ⟨List.mem_range.2 h1,by simp [h2]⟩⟩
theorem cnt_sum (v c:Nat):sm X.E (fun j=>if X.lab j=v then c else 0)=X.cnt v 0 * c:=by
 unfold Eff.cnt
 rw [len_filt,Nat.mul_comm,←sm_mul]
 exact sm_congr fun i _=>by
  by_cases h:X.lab i=v
  ·simp [h]
  ·simp [h]
end
def fT (t i:Nat):Nat:=min (2 ^ ((t+1) / 2)) (2 ^ i)
def uT (b t:Nat):Nat:=if t < 2 * (b - 3) then (2 ^ (t / 2)+3) / 4+8 else 0
def phT (b t i:Nat):Nat:=max (4 * fT t i) (uT b t)
def inT (b t0 t e:Nat):Nat:=if e=0 then 0 else if t < t0 then (2 * e+2) * 2 ^ ((t+1) / 2) else min ((2 * e+2) * 2 ^ ((t+1) / 2)) (2 ^ b - 2 ^ ((t+1) / 2))
def mx (f:Nat→Nat):Nat→Nat
 | 0=>f 0
 | n+1=>max (mx f n) (f (n+1))
theorem le_mx {f:Nat→Nat} {i:Nat}:∀{n:Nat},i≤n→f i≤mx f n
 | 0,h=>by
  have:i=0:=by omega
  subst this; exact Nat.le_refl _
 | n+1,h=>by
  unfold mx
  by_cases e:i=n+1
  ·subst e; exact Nat.le_max_right _ _
  ·exact Nat.le_trans (le_mx (by omega)) (Nat.le_max_left _ _)
def opM (b t0 t1 t:Nat):Nat:=(if t % 2=0∧t < 2 * (b - 3) then 3 * sm 8 fun i=>fT t (i+1) else 0) +
 if t1≤t then 0 else if t % 2=0 then mx (fun e=>inT b t0 t e+sm (8 - e) fun i=>phT b t (i+1)) 8 else inT b t0 t 8
theorem fT_mono {t i j:Nat} (h:i≤j):fT t i≤fT t j:=by
 unfold fT
 have:=Nat.pow_le_pow_right (show 0 < 2 by omega) h
 omega
theorem phT_mono {b t i j:Nat} (h:i≤j):phT b t i≤phT b t j:=by
 unfold phT
 have:=fT_mono (t:=t) h
 omega
theorem inT_mono {b t0 t e e':Nat} (h:e≤e'):inT b t0 t e≤inT b t0 t e':=by
 unfold inT
 by_cases h0:e=0
 ·rw [if_pos h0]; exact Nat.zero_le _
 ·have h0':¬e'=0:=by omega
  rw [if_neg h0,if_neg h0']
  have:(2 * e+2) * 2 ^ ((t+1) / 2)≤(2 * e'+2) * 2 ^ ((t+1) / 2):=Nat.mul_le_mul_right _ (by omega)
  split
  ·exact this
  ·omega
structure BtsOk (Y:Bts) (b V:Nat):Prop where
 le:∀v,v < V→Y.sB v≤Y.eB v∧Y.eB v≤b
 ord:∀v u,v < u→u < V→Y.eB v≤Y.sB u
section
variable {X:Eff} {Y:Bts} {b t0 t1 V t:Nat} (hY:BtsOk Y b V) (hlab:∀j,j < X.E→X.lab j < V) (hE:X.E≤8)
include hY hlab hE
theorem xM_le:xM X b t≤if t % 2=0∧t < 2 * (b - 3) then 3 * sm 8 (fun i=>fT t (i+1)) else 0:=by
 unfold xM
 by_cases h:t % 2=0∧t < 2 * (b - 3)
 ·rw [if_pos h,if_pos h]
  have h1:=lab_sum X (φ:=fun i=>fT t i) (fun i j=>fT_mono) fun _=>true
  simp only [if_true] at h1
  rw [cq_all] at h1
  have h2:((List.range X.E).map fun j=>3 * kN X t (X.lab j) j).sum=3 * sm X.E fun j=>fT t (X.cnt (X.lab j) j):=sm_mul 3 X.E
  rw [h2]
  exact Nat.mul_le_mul_left _ (Nat.le_trans h1 (sm_mono hE))
 ·rw [if_neg h,if_neg h]; exact Nat.le_refl _
theorem in_one {v u:Nat} (hv:v < V) (hu:u < V) (h1:¬t≤2 * Y.sB v) (h2:t < 2 * Y.eB v) (h3:¬t≤2 * Y.sB u) (h4:t < 2 * Y.eB u):v=u:=by
 rcases Nat.lt_trichotomy v u with h | h | h
 ·have:=hY.ord v u h hu; omega
 ·exact h
 ·have:=hY.ord u v h hv; omega
theorem vM_out {v:Nat} (h:¬(¬t≤2 * Y.sB v∧t < 2 * Y.eB v)) (hc:0 < X.cnt v 0) (he:t % 2=0):vM X Y b t0 t1 v t≤sm X.E fun j=>if X.lab j=v then phT b t (X.cnt (X.lab j) j) else 0:=by
 unfold vM
 by_cases h1:t1≤t
 ·rw [if_pos h1]; exact Nat.zero_le _
 rw [if_neg h1]
 by_cases h2:t≤2 * Y.sB v
 ·rw [if_pos h2,if_pos he]
  -- the first of its effects has as many as all
  obtain ⟨j,⟨hj,hl⟩,hmin⟩:=ex_min (fun j=>j < X.E∧X.lab j=v) ((cnt_pos X).1 hc)
  have e:X.cnt v j=X.cnt v 0:=by
   unfold Eff.cnt
   congr 1
   refine List.filter_congr fun i hi=>?_
   by_cases h:X.lab i=v
   ·have:¬i < j:=fun hlt=>hmin i hlt ⟨List.mem_range.1 hi,h⟩
    simp [h]; omega
   ·simp [h]
  have h3:2 * kN X t v 0≤sm X.E fun j=>if X.lab j=v then 2 * kN X t v j else 0:=by
   have:=sm_pos (f:=fun j=>if X.lab j=v then 2 * kN X t v j else 0) hj
   simp only [hl,if_true] at this
   unfold kN at this ⊢
   rw [e] at this
   exact this
  have h4:(sm X.E fun j=>if X.lab j=v then 2 * kN X t v j else 0)+(sm X.E fun j=>if X.lab j=v then 2 * kN X t v j else 0)≤sm X.E fun j=>if X.lab j=v then phT b t (X.cnt (X.lab j) j) else 0:=by
   rw [←sm_add]
   refine sm_le fun j _=>?_
   by_cases hv:X.lab j=v
   ·rw [if_pos hv,if_pos hv,hv]
    unfold kN phT fT
    omega
   ·rw [if_neg hv,if_neg hv]; exact Nat.le_refl _
  have h5:((List.range X.E).map fun j=>if X.lab j=v then 2 * kN X t v j else 0).sum=sm X.E fun j=>if X.lab j=v then 2 * kN X t v j else 0:=rfl
  omega
 ·rw [if_neg h2,if_neg (fun h3=>h ⟨h2,h3⟩)]
  by_cases h3:t % 2=0∧t < 2 * (b - 3)
  ·rw [if_pos h3]
   have h4:X.cnt v 0 * uT b t≤sm X.E fun j=>if X.lab j=v then phT b t (X.cnt (X.lab j) j) else 0:=by
    rw [←cnt_sum]
    refine sm_le fun j _=>?_
    by_cases hv:X.lab j=v
    ·rw [if_pos hv,if_pos hv]; exact Nat.le_max_right _ _
    ·rw [if_neg hv,if_neg hv]; exact Nat.le_refl _
   refine Nat.le_trans ?_ h4
   have hu:uT b t=(2 ^ (t / 2)+3) / 4+8:=by unfold uT; rw [if_pos h3.2]
   rw [hu]
   obtain ⟨c,hcc⟩:∃c,c=X.cnt v 0:=⟨_,rfl⟩
   obtain ⟨P,hP⟩:∃P,P=2 ^ (t / 2):=⟨_,rfl⟩
   rw [←hcc,←hP]
   by_cases h5:c≤3
   ·have h6:2 ^ c≤8:=Nat.pow_le_pow_right (show 0 < 2 by omega) h5
    have h7:c * 2 ^ c≤c * 8:=Nat.mul_le_mul_left _ h6
    have h8:c * 8≤c * ((P+3) / 4+8):=Nat.mul_le_mul_left _ (by omega)
    omega
   ·have h6:4 * ((P+3) / 4+8)≤c * ((P+3) / 4+8):=Nat.mul_le_mul_right _ (by omega)
    omega
  ·rw [if_neg h3]; exact Nat.zero_le _
theorem vM_in {v:Nat} (h1:¬t≤2 * Y.sB v) (h2:t < 2 * Y.eB v) (hc:0 < X.cnt v 0):vM X Y b t0 t1 v t≤inT b t0 t (X.cnt v 0):=by
 unfold vM inT
 have hc0:¬X.cnt v 0=0:=by omega
 rw [if_neg h1,if_pos h2,if_neg hc0]
 split
 ·exact Nat.zero_le _
 ·exact Nat.le_refl _
theorem opM_le:xM X b t+sm V (fun v=>if 0 < X.cnt v 0 then vM X Y b t0 t1 v t else 0)≤opM b t0 t1 t:=by
 unfold opM
 refine Nat.add_le_add (xM_le hY hlab hE) ?_
 by_cases h1:t1≤t
 ·rw [if_pos h1]
  refine Nat.le_of_eq ((sm_congr (g:=fun _=>0) fun v _=>?_).trans (by rw [sm_const]; omega))
  unfold vM
  rw [if_pos h1]
  split <;> rfl
 rw [if_neg h1]
 by_cases he:t % 2=0
 ·rw [if_pos he]
  -- the terms of all variables but one
  have out:∀q:Nat→Bool,sm V (fun v=>if q v=true then sm X.E fun j=>if X.lab j=v then phT b t (X.cnt (X.lab j) j) else 0 else 0)≤sm (X.cq q 0) fun i=>phT b t (i+1):=fun q=>by
   refine Nat.le_trans (Nat.le_of_eq ?_) (lab_sum X (φ:=phT b t) (fun i j=>phT_mono) q)
   have e1:∀v,v < V→(if q v=true then sm X.E fun j=>if X.lab j=v then phT b t (X.cnt (X.lab j) j) else 0 else 0)=sm X.E fun j=>if v=X.lab j then (if q (X.lab j)=true then phT b t (X.cnt (X.lab j) j) else 0) else 0:=fun v _=>by
    by_cases hq:q v=true
    ·rw [if_pos hq]
     refine sm_congr fun j _=>?_
     by_cases hl:X.lab j=v
     ·rw [if_pos hl,if_pos hl.symm,if_pos (by rw [hl]; exact hq)]
     ·rw [if_neg hl,if_neg fun h=>hl h.symm]
    ·rw [if_neg hq]
     refine ((sm_congr (g:=fun _=>0) fun j _=>?_).trans (by rw [sm_const]; omega)).symm
     by_cases hl:v=X.lab j
     ·rw [if_pos hl,if_neg (by rw [←hl]; exact hq)]
     ·rw [if_neg hl]
   rw [sm_congr e1,sm_swap]
   exact sm_congr fun j hj=>sm_one (hlab j hj)
  by_cases hin:∃v,v < V∧0 < X.cnt v 0∧¬t≤2 * Y.sB v∧t < 2 * Y.eB v
  ·obtain ⟨v,hv,hc,i1,i2⟩:=hin
   have h2:sm V (fun u=>if 0 < X.cnt u 0 then vM X Y b t0 t1 u t else 0)≤sm V (fun u=>(if u=v then inT b t0 t (X.cnt v 0) else 0)+if (!decide (u=v))=true then sm X.E fun j=>if X.lab j=u then phT b t (X.cnt (X.lab j) j) else 0 else 0):=sm_le fun u hu=>by
    by_cases e:u=v
    ·subst e
     rw [if_pos hc,if_pos rfl]
     have:=vM_in (t0:=t0) (t1:=t1) hY hlab hE i1 i2 hc
     omega
    ·have hq:(!decide (u=v))=true:=by simp [e]
     rw [if_neg e,if_pos hq,Nat.zero_add]
     by_cases hcu:0 < X.cnt u 0
     ·rw [if_pos hcu]
      exact vM_out hY hlab hE (fun ⟨h5,h6⟩=>e (in_one hY hlab hE hu hv h5 h6 i1 i2)) hcu he
     ·rw [if_neg hcu]; exact Nat.zero_le _
   rw [sm_add,sm_one hv] at h2
   have h3:=out fun u=>!decide (u=v)
   have h4:=cq_not X (v:=v)
   have h5:sm (X.cq (fun u=>!decide (u=v)) 0) (fun i=>phT b t (i+1))≤sm (8 - X.cnt v 0) fun i=>phT b t (i+1):=sm_mono (by omega)
   have h6:=le_mx (f:=fun e=>inT b t0 t e+sm (8 - e) fun i=>phT b t (i+1)) (i:=X.cnt v 0) (n:=8) (by omega)
   have h6:inT b t0 t (X.cnt v 0)+sm (8 - X.cnt v 0) (fun i=>phT b t (i+1))≤_:=h6
   omega
  ·have h2:sm V (fun u=>if 0 < X.cnt u 0 then vM X Y b t0 t1 u t else 0)≤sm V (fun u=>if (true:Bool)=true then sm X.E fun j=>if X.lab j=u then phT b t (X.cnt (X.lab j) j) else 0 else 0):=sm_le fun u hu=>by
    rw [if_pos rfl]
    by_cases hcu:0 < X.cnt u 0
    ·rw [if_pos hcu]
     exact vM_out hY hlab hE (fun ⟨h5,h6⟩=>hin ⟨u,hu,hcu,h5,h6⟩) hcu he
    ·rw [if_neg hcu]; exact Nat.zero_le _
   have h3:=out fun _=>true
   rw [cq_all] at h3
   have h5:sm X.E (fun i=>phT b t (i+1))≤sm (8 - 0) fun i=>phT b t (i+1):=sm_mono (by omega)
   have h6:=le_mx (f:=fun e=>inT b t0 t e+sm (8 - e) fun i=>phT b t (i+1)) (i:=0) (n:=8) (by omega)
   have h6:inT b t0 t 0+sm (8 - 0) (fun i=>phT b t (i+1))≤_:=h6
   omega
 ·rw [if_neg he]
  have odd:∀v,¬(¬t≤2 * Y.sB v∧t < 2 * Y.eB v)→vM X Y b t0 t1 v t=0:=fun v h=>by
   unfold vM
   rw [if_neg h1]
   by_cases h2:t≤2 * Y.sB v
   ·rw [if_pos h2,if_neg he]
   ·rw [if_neg h2,if_neg fun h3=>h ⟨h2,h3⟩,if_neg fun h3=>he h3.1]
  by_cases hin:∃v,v < V∧0 < X.cnt v 0∧¬t≤2 * Y.sB v∧t < 2 * Y.eB v
  ·obtain ⟨v,hv,hc,i1,i2⟩:=hin
   have h2:sm V (fun u=>if 0 < X.cnt u 0 then vM X Y b t0 t1 u t else 0)≤sm V (fun u=>if u=v then inT b t0 t (X.cnt v 0) else 0):=sm_le fun u hu=>by
    by_cases e:u=v
    ·subst e
     rw [if_pos hc,if_pos rfl]
     exact vM_in hY hlab hE i1 i2 hc
    ·rw [if_neg e,odd u fun ⟨h5,h6⟩=>e (in_one hY hlab hE hu hv h5 h6 i1 i2)]
     split <;> omega
   rw [sm_one hv] at h2
   have:=cnt_le X v
   exact Nat.le_trans h2 (inT_mono (by omega))
  ·refine Nat.le_trans (Nat.le_of_eq ((sm_congr (g:=fun _=>0) fun u hu=>?_).trans (by rw [sm_const]; omega))) (Nat.zero_le _)
   by_cases hcu:0 < X.cnt u 0
   ·rw [if_pos hcu,odd u fun ⟨h5,h6⟩=>hin ⟨u,hu,hcu,h5,h6⟩]
   ·rw [if_neg hcu]
end
theorem cov_opf {X:Eff} {Y:Bts} {b t0 t1 V:Nat} {S:BFn→Prop} (hX:X.Ok b) (hY:BtsOk Y b V) (hlab:∀j,j < X.E→X.lab j < V) (hE:X.E≤8)
  (hS0:∀K:BFn,(∀a c:Nat→Bool,(∀p,b - 3≤p→p < b→a (2 * p)=c (2 * p))→K a=K c)→S K) (hS1:∀v K,v < V→PtS (relVr Y v) (2 * b) t0 K→S K) (hS2:∀v K,v < V→DetS (relVr Y v) (2 * b) t1 K→S K) :
  CovR (2 * b) S (fun G=>FX X Y G∨∃v,v < V∧0 < X.cnt v 0∧FV X Y v G) ((List.range (2 * b)).map (opM b t0 t1)).sum:=by
 refine (cov_at (fun t=>xM X b t+sm V (fun v=>if 0 < X.cnt v 0 then vM X Y b t0 t1 v t else 0)) fun t ht=>?_).mono (fun _ h=>h) (sm_le fun t _=>opM_le hY hlab hE)
 obtain ⟨Lx,x1,x2⟩:=lev_x (X:=X) (Y:=Y) hX hS0 t
 have hl:∀v,∃L:List BFn,v < V→0 < X.cnt v 0→L.length≤vM X Y b t0 t1 v t∧∀G,FV X Y v G→∀a,Dep (fun c=>G (pfx a t c)) t→(fun c=>G (pfx a t c)) ∈ L∨S (fun c=>G (pfx a t c))∨∃g,FX X Y g∧(fun c=>G (pfx a t c))=fun c=>g (pfx a t c):=fun v=>by
  by_cases h:v < V∧0 < X.cnt v 0
  ·obtain ⟨L,hL⟩:=lev_v hX (hY.le v h.1).1 (hY.le v h.1).2 ((cnt_pos X).1 h.2) hS0 (fun K=>hS1 v K h.1) (fun K=>hS2 v K h.1) ht
   exact ⟨L,fun _ _=>hL⟩
  ·exact ⟨[],fun h1 h2=>absurd ⟨h1,h2⟩ h⟩
 obtain ⟨L,hL⟩:=Classical.skolem.1 hl
 refine ⟨Lx ++ (List.range V).flatMap fun v=>if v < V∧0 < X.cnt v 0 then L v else [],?_,?_⟩
 ·rw [List.length_append]
  refine Nat.add_le_add x1 (Nat.le_trans (sum_len _ (fun v=>if v < V∧0 < X.cnt v 0 then vM X Y b t0 t1 v t else 0) (fun v=>?_) V) (sm_le fun v hv=>?_))
  ·show (if v < V∧0 < X.cnt v 0 then L v else []).length≤_
   by_cases h:v < V∧0 < X.cnt v 0
   ·rw [if_pos h,if_pos h]; exact (hL v h.1 h.2).1
   ·rw [if_neg h,if_neg h]; exact Nat.le_refl _
  ·by_cases h:0 < X.cnt v 0
   ·rw [if_pos h,if_pos ⟨hv,h⟩]; exact Nat.le_refl _
   ·rw [if_neg h,if_neg fun h2=>h h2.2]; exact Nat.le_refl _
 ·rintro G (hG | ⟨v,hv,hc,hG⟩) a hd
  ·exact (x2 G hG a hd).imp (List.mem_append_left _) id
  ·rcases (hL v hv hc).2 G hG a hd with h | h | ⟨g,hg,e⟩
   ·exact .inl (List.mem_append_right _ (List.mem_flatMap.2 ⟨v,List.mem_range.2 hv,by rw [if_pos ⟨hv,hc⟩]; exact h⟩))
   ·exact .inr h
   ·rw [e] at hd ⊢
    exact (x2 g hg a hd).imp (List.mem_append_left _) id
end Go.Sy
end
section
namespace Go.Proofs.YtcoeknnghfajnaaGreat
open Go Go.W Go.Tk Go.Rx Go.Bd Go.Sy Go.Maps
def litF (vars:List Nat) (f:Go.Tk.Fc):List (Nat × Bool):=(List.range (wd (vars.getD f.1 0))).map fun k=>(2 * (bP vars f.1+k),f.2.testBit (wd (vars.getD f.1 0) - 1 - k))
def litL (vars:List Nat) (l:List Go.Tk.Fc):List (Nat × Bool):=l.flatMap (litF vars)
section
variable {vars:List Nat} (h64:∀n ∈ vars,1≤n∧n≤64)
include h64
theorem val_wd {v x:Nat} (hv:v < vars.length) (hx:x < vars.getD v 0):x < 2 ^ wd (vars.getD v 0):=by
 have hm:vars.getD v 0 ∈ vars:=by simp [List.getD,List.getElem?_eq_getElem hv]
 have:=wd_ge (h64 _ hm).2
 omega
theorem rv_bit {v x nx:Nat} {a:Nat→Bool} (hx:x < 2 ^ wd (vars.getD v 0)):rv vars a nx v=x↔∀k,k < wd (vars.getD v 0)→a (2 * (bP vars v+k)+nx)=x.testBit (wd (vars.getD v 0) - 1 - k):=by
 unfold rv
 exact (valK_eq _ _ hx).symm
theorem cub_litF {f:Go.Tk.Fc} (hf:f.1 < vars.length∧f.2 < vars.getD f.1 0) (a:Nat→Bool):cubeB (litF vars f) a=decide (rv vars a 0 f.1=f.2):=by
 rw [Bool.eq_iff_iff,decide_eq_true_iff,rv_bit h64 (val_wd h64 hf.1 hf.2)]
 unfold cubeB litF
 rw [List.all_map,List.all_eq_true]
 constructor
 ·intro h k hk
  have:=h k (List.mem_range.2 hk)
  simpa using this
 ·intro h k hk
  have:=h k (List.mem_range.1 hk)
  simpa using this
theorem cub_litL {l:List Go.Tk.Fc} (hl:∀f ∈ l,f.1 < vars.length∧f.2 < vars.getD f.1 0) (a:Nat→Bool):cubeB (litL vars l) a=hdB (rs vars a 0) l:=by
 induction l with
 | nil=>rfl
 | cons f l ih =>
  have ih:=ih fun g hg=>hl g (by simp [hg])
  have h1:=cub_litF h64 (hl f (by simp)) a
  have e:cubeB (litL vars (f :: l)) a=(cubeB (litF vars f) a && cubeB (litL vars l) a):=by
   unfold litL cubeB
   rw [List.flatMap_cons,List.all_append]
  rw [e,ih,h1]
  unfold hdB
  rw [List.all_cons,rs_at (hl f (by simp)).1]
theorem lit_even {l:List Go.Tk.Fc} (hl:∀f ∈ l,f.1 < vars.length):∀p ∈ litL vars l,p.1 % 2=0∧p.1 < 2 * nBits vars:=fun p hp=>by
 obtain ⟨f,hf,h⟩:=List.mem_flatMap.1 hp
 obtain ⟨k,hk,rfl⟩:=List.mem_map.1 h
 have hk:=List.mem_range.1 hk
 have:=bP_wd (hl f hf)
 exact ⟨by show 2 * _ % 2=0; omega,by show 2 * _ < _; omega⟩
end
def effX (vars:List Nat) (o:No):Eff:={
 E:=o.effs.length
 lab:=fun j=>match o.effs[j]? with | some x=>x.v | none=>0
 con:=fun j=>match o.effs[j]? with | some x=>litL vars x.cnd | none=>[]
 val:=fun j q=>match o.effs[j]? with | some x=>x.x.testBit (wd (vars.getD x.v 0) - 1 - (q - bP vars x.v)) | none=>false }
def btsX (vars:List Nat):Bts:=⟨bP vars,fun v=>bP vars (v+1)⟩
theorem bP_next {vars:List Nat} {v:Nat} (hv:v < vars.length):bP vars (v+1)=bP vars v+wd (vars.getD v 0):=bP_succ (by simp [List.getD,List.getElem?_eq_getElem hv])
theorem btsX_ok (vars:List Nat):BtsOk (btsX vars) (nBits vars) vars.length :=
 ⟨fun v hv=>⟨bP_mono (Nat.le_succ _),by have:=bP_mono (vars:=vars) (show v+1≤vars.length by omega); rw [bP_all] at this; exact this⟩,fun v u h1 h2=>bP_mono h1⟩
theorem la_no {X:Eff} {v:Nat} {a:Nat→Bool} {i:Nat} (hi:i < X.E) (hl:X.lab i=v) (hc:cubeB (X.con i) a=true):∃k,X.la v a=some k∧i≤k:=by
 have key:∀n,i < n→n≤X.E→∃k,X.laK v a n=some k∧i≤k:=fun n=>by
  induction n with
  | zero=>intro h; omega
  | succ n ih =>
   intro h h2
   unfold Eff.laK
   by_cases hh:X.lab n=v∧cubeB (X.con n) a=true
   ·rw [if_pos hh]; exact ⟨n,rfl,by omega⟩
   ·rw [if_neg hh]
    have:i≠n:=fun e=>by subst e; exact hh ⟨hl,hc⟩
    exact ih (by omega) (by omega)
 exact key X.E hi (Nat.le_refl _)
section
variable {T:Nt} {o:No} (h64:∀n ∈ T.vars,1≤n∧n≤64) (ho:NoG T.vars o)
include h64 ho
theorem effX_at {j:Nat} {x:Nf} (h:o.effs[j]? = some x):(effX T.vars o).lab j=x.v∧(effX T.vars o).con j=litL T.vars x.cnd∧∀q,(effX T.vars o).val j q=x.x.testBit (wd (T.vars.getD x.v 0) - 1 - (q - bP T.vars x.v)):=by
 unfold effX
 simp only [h]
 exact ⟨trivial,trivial,fun _=>trivial⟩
theorem effX_get {j:Nat} (hj:j < (effX T.vars o).E):∃x,o.effs[j]? = some x∧x ∈ o.effs:=by
 have hj:j < o.effs.length:=hj
 exact ⟨o.effs[j],List.getElem?_eq_getElem hj,List.getElem_mem hj⟩
theorem effX_ok:(effX T.vars o).Ok (nBits T.vars):=fun j hj p hp=>by
 obtain ⟨x,hx,hm⟩:=effX_get h64 ho hj
 rw [(effX_at h64 ho hx).2.1] at hp
 exact lit_even h64 (fun f hf=>((ho.cnd x hm).rng f hf).1) p hp
theorem effX_lab:∀j,j < (effX T.vars o).E→(effX T.vars o).lab j < T.vars.length:=fun j hj=>by
 obtain ⟨x,hx,hm⟩:=effX_get h64 ho hj
 rw [(effX_at h64 ho hx).1]
 exact (ho.eff x hm).1
theorem la_last {v:Nat} {a:Nat→Bool}:∀d j,j+d=o.effs.length→lastE o (rs T.vars a 0) v d j=(match (effX T.vars o).la v a with | some i=>if j≤i then (match o.effs[i]? with | some x=>some x.x | none=>none) else none | none=>none)
 | 0,j,h=>by
  cases hla:(effX T.vars o).la v a with
  | none=>rfl
  | some i =>
   have:i < o.effs.length:=((effX T.vars o).la_some.1 hla).1
   show none=if j≤i then _ else none
   rw [if_neg (by omega)]
 | d+1,j,h=>by
  have ih:=la_last (v:=v) (a:=a) d (j+1) (by omega)
  obtain ⟨x,hx,hm⟩:=effX_get h64 ho (j:=j) (by show j < o.effs.length; omega)
  obtain ⟨e1,e2,_⟩:=effX_at h64 ho hx
  have ec:cubeB ((effX T.vars o).con j) a=hdB (rs T.vars a 0) x.cnd:=by rw [e2]; exact cub_litL h64 (fun f hf=>(ho.cnd x hm).rng f hf) a
  rw [lastE_succ,ih,hx]
  cases hla:(effX T.vars o).la v a with
  | none =>
   have:¬(x.v=v∧hdB (rs T.vars a 0) x.cnd=true):=fun hh=>by
    obtain ⟨k,hk,_⟩:=la_no (X:=effX T.vars o) (v:=v) (a:=a) (i:=j) (by show j < o.effs.length; omega) (by rw [e1]; exact hh.1) (by rw [ec]; exact hh.2)
    rw [hla] at hk; cases hk
   simp only
   rw [if_neg this]
  | some i =>
   obtain ⟨l1,l2,l3,l4⟩:=(effX T.vars o).la_some.1 hla
   have l1:i < o.effs.length:=l1
   obtain ⟨y,hy⟩:∃y,o.effs[i]? = some y:=⟨_,List.getElem?_eq_getElem l1⟩
   simp only [hy]
   by_cases h1:j+1≤i
   ·have h3:j≤i:=by omega
    rw [if_pos h1,if_pos h3]
   ·rw [if_neg h1]
    by_cases h2:j=i
    ·subst h2
     rw [hx] at hy
     injection hy with hy
     subst hy
     rw [if_pos (Nat.le_refl _)]
     simp only
     rw [if_pos ⟨by rw [←e1]; exact l2,by rw [←ec]; exact l3⟩]
    ·have:¬(x.v=v∧hdB (rs T.vars a 0) x.cnd=true):=fun hh=>l4 j (by omega) (by show j < o.effs.length; omega) (by rw [e1]; exact hh.1) (by rw [ec]; exact hh.2)
     simp only
     rw [if_neg this,if_neg (by omega)]
theorem le_la {v j:Nat} (hj:j≤o.effs.length) (a:Nat→Bool):leB T.vars o v j a=true↔∀i,(effX T.vars o).la v a=some i→i < j:=by
 unfold leB lsE
 rw [la_last h64 ho _ _ (by omega)]
 cases hla:(effX T.vars o).la v a with
 | none=>simp
 | some i =>
  have l1:i < o.effs.length:=((effX T.vars o).la_some.1 hla).1
  obtain ⟨y,hy⟩:∃y,o.effs[i]? = some y:=⟨_,List.getElem?_eq_getElem l1⟩
  simp only [hy]
  by_cases h:j≤i
  ·rw [if_pos h]
   constructor
   ·intro hh; cases hh
   ·intro hh; have:=hh i rfl; omega
  ·rw [if_neg h]
   constructor
   ·intro _ k hk; injection hk with hk; omega
   ·intro _; rfl
theorem rv_sv {v i:Nat} {y:Nf} {a:Nat→Bool} (hy:o.effs[i]? = some y) (hv:y.v=v):rv T.vars a 1 v=y.x↔∀q,bP T.vars v≤q→q < bP T.vars (v+1)→a (2 * q+1)=(effX T.vars o).val i q:=by
 have hm:=List.mem_of_getElem? hy
 obtain ⟨h1,h2⟩:=ho.eff y hm
 subst hv
 rw [rv_bit h64 (val_wd h64 h1 h2),bP_next h1]
 have e3:=(effX_at h64 ho hy).2.2
 constructor
 ·intro h q q1 q2
  have:=h (q - bP T.vars y.v) (by omega)
  rw [show bP T.vars y.v+(q - bP T.vars y.v)=q by omega] at this
  rw [this,e3]
 ·intro h k hk
  have:=h (bP T.vars y.v+k) (by omega) (by omega)
  rw [this,e3,show bP T.vars y.v+k - bP T.vars y.v=k by omega]
theorem rv_same {v:Nat} (hv:v < T.vars.length) {a:Nat→Bool}:rv T.vars a 1 v=rv T.vars a 0 v↔∀q,bP T.vars v≤q→q < bP T.vars (v+1)→a (2 * q+1)=a (2 * q):=by
 have hx:=rv_lt T.vars a 0 v
 have h0:=(rv_bit h64 (nx:=0) (a:=a) hx).1 rfl
 rw [rv_bit h64 hx,bP_next hv]
 constructor
 ·intro h q q1 q2
  have h1:=h (q - bP T.vars v) (by omega)
  have h2:=h0 (q - bP T.vars v) (by omega)
  rw [show bP T.vars v+(q - bP T.vars v)=q by omega] at h1 h2
  rw [h1,←h2]
  rfl
 ·intro h k hk
  have h1:=h (bP T.vars v+k) (by omega) (by omega)
  rw [h1]
  exact h0 k hk
theorem ch_sv {v:Nat} (hv:v < T.vars.length) {a:Nat→Bool}:rv T.vars a 1 v=chgV o (rs T.vars a 0) v↔∀q,bP T.vars v≤q→q < bP T.vars (v+1)→a (2 * q+1)=(effX T.vars o).sv v q a:=by
 unfold chgV Eff.sv
 rw [la_last h64 ho _ _ (by omega)]
 cases hla:(effX T.vars o).la v a with
 | none =>
  simp only [Option.getD_none]
  rw [rs_at hv,rv_same h64 ho hv]
 | some i =>
  obtain ⟨l1,l2,_⟩:=(effX T.vars o).la_some.1 hla
  have l1:i < o.effs.length:=l1
  obtain ⟨y,hy⟩:∃y,o.effs[i]? = some y:=⟨_,List.getElem?_eq_getElem l1⟩
  simp only [hy,Nat.zero_le,if_true,Option.getD_some]
  rw [(effX_at h64 ho hy).1] at l2
  exact rv_sv h64 ho hy l2
theorem vf_of {v:Nat} {M:Option Nat→Prop} (hM:MV (effX T.vars o) v M) {G:BFn} (h:∀a,G a=true↔M ((effX T.vars o).la v a)∧∀q,bP T.vars v≤q→q < bP T.vars (v+1)→a (2 * q+1)=(effX T.vars o).sv v q a):FV (effX T.vars o) (btsX T.vars) v G:=⟨M,hM,h⟩
end
def sbX (T:Nt) (o:No) (q:Nat) (a:Nat→Bool):Bool:=(List.range T.vars.length).any fun v=>decide (bP T.vars v≤q) && decide (q < bP T.vars (v+1)) && (effX T.vars o).sv v q a
def SaZ (vars:List Nat) (G:BFn):Prop:=∃v,v < vars.length∧(SaS vars v G∨G=saB vars v 0)
def CuZ (vars:List Nat) (l:List Go.Tk.Fc) (G:BFn):Prop:=(∃j,j < l.length∧G=fcB vars l j)∨G=fun a=>!hdB (rs vars a 0) l
def ValZ (vars:List Nat) (G:BFn):Prop:=∃v,v < vars.length∧∃x,x < vars.getD v 0∧∃nx,nx < 2∧VlS vars v x nx G
section
variable {T:Nt} {o:No} (h64:∀n ∈ T.vars,1≤n∧n≤64) (ho:NoG T.vars o)
include h64 ho
theorem sbX_at {v q:Nat} (hv:v < T.vars.length) (h1:bP T.vars v≤q) (h2:q < bP T.vars (v+1)) (a:Nat→Bool):sbX T o q a=(effX T.vars o).sv v q a:=by
 unfold sbX
 rw [Bool.eq_iff_iff,List.any_eq_true]
 constructor
 ·rintro ⟨u,hu,h⟩
  simp only [Bool.and_eq_true,decide_eq_true_eq] at h
  have:u=v:=by
   rcases Nat.lt_trichotomy u v with hh | hh | hh
   ·have:=bP_mono (vars:=T.vars) (show u+1≤v by omega); omega
   ·exact hh
   ·have:=bP_mono (vars:=T.vars) (show v+1≤u by omega); omega
  rw [←this]
  exact h.2
 ·intro h
  exact ⟨v,List.mem_range.2 hv,by simp [h1,h2,h]⟩
theorem sbX_ev:EvD (nBits T.vars) (sbX T o):=fun q hq a c h=>by
 rw [←bP_all] at hq
 obtain ⟨v,k,hv,hk,rfl⟩:=bP_split T.vars.length (Nat.le_refl _) q hq
 have:=bP_next hv
 rw [sbX_at h64 ho hv (by omega) (by omega),sbX_at h64 ho hv (by omega) (by omega)]
 rw [bP_all] at hq
 exact sv_ev (effX_ok h64 ho) hq h
theorem rlB_rlF (j:Nat) (hj:j < T.vars.length):rlB T o j=rlF (nBits T.vars) (sbX T o) (bP T.vars j):=funext fun a=>by
 rw [Bool.eq_iff_iff,rlB_iff,rlF_iff]
 constructor
 ·intro h q h1 h2
  rw [←bP_all] at h2
  obtain ⟨v,k,hv,hk,rfl⟩:=bP_split T.vars.length (Nat.le_refl _) q h2
  have hn:=bP_next hv
  have hjv:j≤v:=Nat.le_of_not_lt fun hlt=>by
   have:=bP_mono (vars:=T.vars) (show v+1≤j by omega)
   omega
  rw [sbX_at h64 ho hv (by omega) (by omega)]
  exact (ch_sv h64 ho hv).1 (h v hv hjv) _ (by omega) (by omega)
 ·intro h v hv hjv
  refine (ch_sv h64 ho hv).2 fun q q1 q2=>?_
  rw [←sbX_at h64 ho hv q1 q2]
  have h1:=bP_mono (vars:=T.vars) hjv
  have h2:=bP_mono (vars:=T.vars) (show v+1≤T.vars.length by omega)
  rw [bP_all] at h2
  exact h q (by omega) (by omega)
theorem rel2_in {G:BFn} (h:RelS2 T o G):SaZ T.vars G∨ValZ T.vars G∨(CuZ T.vars o.pre G∨∃x ∈ o.effs,CuZ T.vars x.cnd G)∨(FX (effX T.vars o) (btsX T.vars) G∨∃v,v < T.vars.length∧0 < (effX T.vars o).cnt v 0∧FV (effX T.vars o) (btsX T.vars) v G) ∨
  (∃j,j < T.vars.length∧G=rlF (nBits T.vars) (sbX T o) (bP T.vars j))∨G=fun a=>cubeB (litL T.vars o.pre) a && rlF (nBits T.vars) (sbX T o) 0 a:=by
 have fac:∀l,FcOk T.vars l→∀G,FacS T.vars l G→ValZ T.vars G∨CuZ T.vars l G:=fun l hl G hG=>by
  rcases hG with ⟨i,hi,hv⟩ | ⟨j,hj,rfl⟩
  ·have hm:l.getD i (0,0) ∈ l:=by simp [List.getD,List.getElem?_eq_getElem hi]
   obtain ⟨h1,h2⟩:=hl.rng _ hm
   exact .inl ⟨_,h1,_,h2,0,by omega,hv⟩
  ·exact .inr (.inl ⟨j,hj,rfl⟩)
 rcases h with ⟨v,hv,h⟩ | ⟨j,hj,rfl⟩ | h | rfl
 ·have nolab:¬0 < (effX T.vars o).cnt v 0→∀a,(effX T.vars o).la v a=none:=fun hn a=>by
   cases hla:(effX T.vars o).la v a with
   | none=>rfl
   | some i =>
    obtain ⟨l1,l2,_⟩:=(effX T.vars o).la_some.1 hla
    exact absurd ((cnt_pos (effX T.vars o)).2 ⟨i,l1,l2⟩) hn
  have sa0:∀a,saB T.vars v 0 a=true↔∀q,bP T.vars v≤q→q < bP T.vars (v+1)→a (2 * q+1)=a (2 * q):=fun a=>by
   unfold saB
   rw [List.all_eq_true,bP_next hv]
   constructor
   ·intro h q q1 q2
    have:=h (q - bP T.vars v) (List.mem_range.2 (by omega))
    rw [decide_eq_true_iff,show bP T.vars v+(0+(q - bP T.vars v))=q by omega] at this
    exact this.symm
   ·intro h k hk
    have hk:=List.mem_range.1 hk
    rw [decide_eq_true_iff]
    have:=h (bP T.vars v+(0+k)) (by omega) (by omega)
    exact this.symm
  rcases h with h | rfl | rfl | ⟨j,hj,x,hx,hxv,h⟩
  ·exact .inl ⟨v,hv,.inl h⟩
  ·by_cases hc:0 < (effX T.vars o).cnt v 0
   ·refine .inr (.inr (.inr (.inl (.inr ⟨v,hv,hc,vf_of h64 ho (.inr (.inl rfl)) fun a=>?_⟩))))
    rw [Bool.and_eq_true,decide_eq_true_iff,le_la h64 ho (Nat.zero_le _)]
    have e0:(∀i,(effX T.vars o).la v a=some i→i < 0)↔(effX T.vars o).la v a=none:=by
     constructor
     ·intro h
      cases hla:(effX T.vars o).la v a with
      | none=>rfl
      | some i=>have:=h i hla; omega
     ·intro h i hi; rw [h] at hi; cases hi
    rw [e0]
    refine and_congr_right fun hla=>?_
    rw [eq_comm,rv_same h64 ho hv]
    unfold Eff.sv
    rw [hla]
   ·refine .inl ⟨v,hv,.inr (funext fun a=>?_)⟩
    rw [Bool.eq_iff_iff,sa0,Bool.and_eq_true,decide_eq_true_iff,le_la h64 ho (Nat.zero_le _),eq_comm,rv_same h64 ho hv]
    exact ⟨fun h=>h.2,fun h=>⟨fun i hi=>(by rw [nolab hc a] at hi; cases hi),h⟩⟩
  ·by_cases hc:0 < (effX T.vars o).cnt v 0
   ·refine .inr (.inr (.inr (.inl (.inr ⟨v,hv,hc,vf_of h64 ho (.inr (.inr rfl)) fun a=>?_⟩))))
    rw [decide_eq_true_iff,ch_sv h64 ho hv]
    exact ⟨fun h=>⟨trivial,h⟩,fun h=>h.2⟩
   ·refine .inl ⟨v,hv,.inr (funext fun a=>?_)⟩
    rw [Bool.eq_iff_iff,sa0,decide_eq_true_iff,ch_sv h64 ho hv]
    unfold Eff.sv
    rw [nolab hc a]
  ·have hm:=List.mem_of_getElem? hx
   obtain ⟨e1,e2,_⟩:=effX_at h64 ho hx
   have hlab:(effX T.vars o).lab j=v:=by rw [e1,hxv]
   have hjE:j < (effX T.vars o).E:=hj
   have hc:0 < (effX T.vars o).cnt v 0:=(cnt_pos _).2 ⟨j,hjE,hlab⟩
   -- the effect is the last one
   have last:∀a,(leB T.vars o v (j+1) a && hdB (rs T.vars a 0) x.cnd)=true↔(effX T.vars o).la v a=some j:=fun a=>by
    rw [Bool.and_eq_true,le_la h64 ho (by omega),←cub_litL h64 (fun f hf=>(ho.cnd x hm).rng f hf) a,←e2]
    constructor
    ·rintro ⟨h1,h2⟩
     obtain ⟨k,hk,hjk⟩:=la_no hjE hlab h2
     have:=h1 k hk
     have:k=j:=by omega
     rw [hk,this]
    ·intro h
     obtain ⟨_,_,l3,_⟩:=(effX T.vars o).la_some.1 h
     exact ⟨fun i hi=>by rw [h] at hi; injection hi with hi; omega,l3⟩
   rcases h with h | h | rfl | rfl | rfl | rfl | rfl
   ·rcases fac _ (ho.cnd x hm) G h with h | h
    ·exact .inr (.inl h)
    ·exact .inr (.inr (.inl (.inr ⟨x,hm,h⟩)))
   ·refine .inr (.inl ⟨v,hv,x.x,?_,1,by omega,h⟩)
    have:=(ho.eff x hm).2
    rwa [hxv] at this
   ·refine .inr (.inr (.inr (.inl (.inl ⟨j,hjE,.inl fun a=>?_⟩))))
    rw [hlab]
    exact last a
   ·refine .inr (.inr (.inr (.inl (.inr ⟨v,hv,hc,vf_of h64 ho (.inl ⟨j,hjE,hlab,.inl rfl⟩) fun a=>?_⟩))))
    show ((leB T.vars o v (j+1) a && hdB (rs T.vars a 0) x.cnd) && decide (rv T.vars a 1 v=x.x))=true↔_
    rw [Bool.and_eq_true,last a,decide_eq_true_iff,rv_sv h64 ho hx hxv]
    refine and_congr_right fun hla=>?_
    unfold Eff.sv
    rw [hla]
   ·refine .inr (.inr (.inr (.inl (.inr ⟨v,hv,hc,vf_of h64 ho (.inl ⟨j,hjE,hlab,.inr rfl⟩) fun a=>?_⟩))))
    unfold ouB lsE
    rw [la_last h64 ho _ _ (by omega)]
    cases hla:(effX T.vars o).la v a with
    | none =>
     constructor
     ·intro h; cases h
     ·rintro ⟨⟨i,h,_⟩,_⟩; cases h
    | some i =>
     obtain ⟨l1,l2,_⟩:=(effX T.vars o).la_some.1 hla
     have l1:i < o.effs.length:=l1
     obtain ⟨y,hy⟩:∃y,o.effs[i]? = some y:=⟨_,List.getElem?_eq_getElem l1⟩
     rw [(effX_at h64 ho hy).1] at l2
     simp only [hy]
     by_cases hji:j≤i
     ·rw [if_pos hji]
      show decide (rv T.vars a 1 v=y.x)=true↔_
      rw [decide_eq_true_iff,rv_sv h64 ho hy l2]
      unfold Eff.sv
      rw [hla]
      exact ⟨fun h=>⟨⟨i,rfl,hji⟩,h⟩,fun h=>h.2⟩
     ·rw [if_neg hji]
      constructor
      ·intro h; cases h
      ·rintro ⟨⟨k,hk,hk2⟩,_⟩
       injection hk with hk
       omega
   ·exact .inr (.inr (.inl (.inr ⟨x,hm,.inr rfl⟩)))
   ·refine .inr (.inr (.inr (.inl (.inl ⟨j,hjE,.inr (.inl fun a=>?_)⟩))))
    rw [hlab]
    exact le_la h64 ho (by omega) a
 ·exact .inr (.inr (.inr (.inr (.inl ⟨j,hj,rlB_rlF h64 ho j hj⟩))))
 ·rcases fac _ ho.pre G h with h | h
  ·exact .inr (.inl h)
  ·exact .inr (.inr (.inl (.inl h)))
 ·refine .inr (.inr (.inr (.inr (.inr (funext fun a=>?_)))))
  show (hdB (rs T.vars a 0) o.pre && rlB T o 0 a)=_
  rw [cub_litL h64 (fun f hf=>ho.pre.rng f hf)]
  congr 1
  rw [Bool.eq_iff_iff,rlB_iff,rlF_iff]
  constructor
  ·intro h q h1 h2
   rw [←bP_all] at h2
   obtain ⟨v,k,hv,hk,rfl⟩:=bP_split T.vars.length (Nat.le_refl _) q h2
   have hn:=bP_next hv
   rw [sbX_at h64 ho hv (by omega) (by omega)]
   exact (ch_sv h64 ho hv).1 (h v hv (Nat.zero_le _)) _ (by omega) (by omega)
  ·intro h v hv _
   refine (ch_sv h64 ho hv).2 fun q q1 q2=>?_
   rw [←sbX_at h64 ho hv q1 q2]
   have h2:=bP_mono (vars:=T.vars) (show v+1≤T.vars.length by omega)
   rw [bP_all] at h2
   exact h q (Nat.zero_le _) (by omega)
end
end Go.Proofs.YtcoeknnghfajnaaGreat
end
