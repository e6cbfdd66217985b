/-
  A part of the proof of this claim's statement (SxB, SxC, SxD): plain theorems; no conditions beyond those each names.
-/
import Derived.Test.YtolkjbmcindhjaaGreatPk16
set_option maxRecDepth 100000
set_option linter.unusedSimpArgs false
set_option linter.unusedVariables false
set_option linter.unusedSectionVars false
section
namespace Go.Sx
open Classical in
theorem distinct_len:∀(N:Nat) (L:List (Nat→Prop)),L.Pairwise (fun P Q=>∃j,j < N∧¬(P j↔Q j))→L.length≤2 ^ N
 | 0,[],_=>by simp
 | 0,[_],_=>by simp
 | 0,P :: Q :: L,h=>by
  rw [List.pairwise_cons] at h
  obtain ⟨j,hj,_⟩:=h.1 Q (by simp)
  omega
 | N+1,L,h=>by
  have e:L.length=(L.filter fun P=>decide (P N)).length+(L.filter fun P=>!decide (P N)).length:=by
   rw [←List.countP_eq_length_filter,←List.countP_eq_length_filter,List.length_eq_countP_add_countP (fun P=>decide (P N))]
   congr 1
   exact List.countP_congr fun P _=>by simp
  have a1:=distinct_len N (L.filter fun P=>decide (P N)) (by
   refine List.Pairwise.imp_of_mem ?_ (h.filter _)
   rintro P Q hP hQ ⟨j,hj,hn⟩
   have p:=of_decide_eq_true (List.mem_filter.1 hP).2
   have q:=of_decide_eq_true (List.mem_filter.1 hQ).2
   by_cases ej:j=N
   ·subst ej; exact absurd ⟨fun _=>q,fun _=>p⟩ hn
   ·exact ⟨j,by omega,hn⟩)
  have a2:=distinct_len N (L.filter fun P=>!decide (P N)) (by
   refine List.Pairwise.imp_of_mem ?_ (h.filter _)
   rintro P Q hP hQ ⟨j,hj,hn⟩
   have p:¬P N:=by have:=(List.mem_filter.1 hP).2; simpa using this
   have q:¬Q N:=by have:=(List.mem_filter.1 hQ).2; simpa using this
   by_cases ej:j=N
   ·subst ej; exact absurd ⟨fun x=>absurd x p,fun x=>absurd x q⟩ hn
   ·exact ⟨j,by omega,hn⟩)
  rw [e,Nat.pow_succ]
  omega
theorem Way.len {m N t:Nat} {T:Nat→Tb} {r k:Nat→Nat} (h:Way m N T r k t):t < 2 ^ N:=by
 have:=distinct_len N ((List.range (t+1)).map fun n=>InB m (T n)) (by
  rw [List.pairwise_map]
  refine List.Pairwise.imp_of_mem ?_ List.pairwise_lt_range
  intro p q hp hq hpq
  have hq':=List.mem_range.1 hq
  refine Classical.byContradiction fun hn=>h.once hpq (by omega) fun j=>?_
  by_cases hj:j < N
  ·exact Classical.byContradiction fun hx=>hn ⟨j,hj,hx⟩
  ·constructor
   ·rintro ⟨i,hi,e⟩
    have:=(h.can p (by omega)).sb i hi
    omega
   ·rintro ⟨i,hi,e⟩
    have:=(h.can q (by omega)).sb i hi
    omega)
 rw [List.length_map,List.length_range] at this
 omega
def tb0 (m n:Nat) (A:Nat→Nat→Rat) (b:Nat→Rat):Tb where
 a i j:=if i < m then (if j < n then A i j else if j=n+i then 1 else 0) else 0
 b i:=if i < m then b i else 0
 s i:=if i < m then n+i else 0
 c j:=if j < n then 1 else 0
 z:=0
theorem tb0_can {m n:Nat} {A:Nat→Nat→Rat} {b:Nat→Rat} (hb:∀i,i < m→0≤b i):Can m (n+m) (tb0 m n A b):=by
 refine ⟨fun i hi=>by simp only [tb0,if_pos hi]; omega,fun i i' hi hi'=>?_,fun i hi=>by simp only [tb0,if_pos hi]; rw [if_neg (by omega)],fun i hi=>by simp only [tb0,if_pos hi]; exact hb i hi⟩
 simp only [tb0,if_pos hi,if_pos hi']
 rw [if_neg (by omega)]
 by_cases e:i=i'
 ·rw [if_pos (by omega),if_pos e]
 ·rw [if_neg (by omega),if_neg e]
theorem sumN_split {n:Nat} {f:Nat→Rat}:∀m,sumN (n+m) f=sumN n f+sumN m fun i=>f (n+i)
 | 0=>by simp only [sumN,Nat.add_zero]; grind
 | m+1=>by
  have:=sumN_split (n:=n) (f:=f) m
  rw [←Nat.add_assoc]
  simp only [sumN]
  rw [this]
  grind
theorem sumN_nn {n:Nat} {f:Nat→Rat} (h:∀i,i < n→0≤f i):0≤sumN n f:=by
 have:=sumN_le (n:=n) (f:=fun _=>0) (g:=f) h
 rw [sumN_zero fun _ _=>rfl] at this
 exact this
theorem tb0_row {m n:Nat} {A:Nat→Nat→Rat} {b:Nat→Rat} {x:Nat→Rat} {i:Nat} (hi:i < m):sumN (n+m) (fun j=>(tb0 m n A b).a i j * x j)=sumN n (fun j=>A i j * x j)+x (n+i):=by
 rw [sumN_split]
 congr 1
 ·exact sumN_congr fun j hj=>by simp [tb0,hi,hj]
 ·rw [sumN_one hi fun i' _ hne=>?_]
  ·have:¬n+i < n:=by omega
   simp only [tb0,if_pos hi,if_neg this]
   simp
  ·have:¬n+i' < n:=by omega
   simp only [tb0,if_pos hi,if_neg this]
   rw [if_neg (by omega)]
   grind
theorem tb0_obj {m n:Nat} {A:Nat→Nat→Rat} {b:Nat→Rat} {x:Nat→Rat}:obj (n+m) (tb0 m n A b) x=sumN n x:=by
 unfold obj
 have e0:sumN m (fun i=>(tb0 m n A b).c (n+i) * x (n+i))=0:=sumN_zero fun i _=>by
  have:¬n+i < n:=by omega
  simp only [tb0,if_neg this]
  grind
 rw [sumN_split,e0]
 have:sumN n (fun j=>(tb0 m n A b).c j * x j)=sumN n x:=sumN_congr fun j hj=>by simp [tb0,hj]
 rw [this]
 simp only [tb0]
 grind
structure Fea (m n:Nat) (A:Nat→Nat→Rat) (b:Nat→Rat) (v:Nat→Rat):Prop where
 nn:∀j,j < n→0≤v j
 le:∀i,i < m→sumN n (fun j=>A i j * v j)≤b i
section
variable {m n t:Nat} {A:Nat→Nat→Rat} {b:Nat→Rat} {T:Nat→Tb} {r k:Nat→Nat}
theorem sol_fea {x:Nat→Rat} (hs:Sol m (n+m) (tb0 m n A b) x) (hx:∀j,j < n+m→0≤x j):Fea m n A b x:=by
 refine ⟨fun j hj=>hx j (by omega),fun i hi=>?_⟩
 have h1:=hs i hi
 rw [tb0_row hi] at h1
 have h2:=hx (n+i) (by omega)
 have h3:(tb0 m n A b).b i=b i:=by simp only [tb0,if_pos hi]
 grind
def slk (n:Nat) (A:Nat→Nat→Rat) (b:Nat→Rat) (v:Nat→Rat) (j:Nat):Rat:=if j < n then v j else b (j - n) - sumN n fun k=>A (j - n) k * v k
theorem slk_sum {v:Nat→Rat} {f:Nat→Rat}:sumN n (fun j=>f j * slk n A b v j)=sumN n fun j=>f j * v j:=sumN_congr fun j hj=>by simp [slk,hj]
theorem slk_sol {v:Nat→Rat}:Sol m (n+m) (tb0 m n A b) (slk n A b v):=fun i hi=>by
 rw [tb0_row hi,slk_sum]
 have e1:slk n A b v (n+i)=b i - sumN n fun k=>A i k * v k:=by
  unfold slk
  rw [if_neg (by omega),show n+i - n=i by omega]
 have e2:(tb0 m n A b).b i=b i:=by simp only [tb0,if_pos hi]
 rw [e1,e2]
 grind
theorem slk_nn {v:Nat→Rat} (h:Fea m n A b v):∀j,j < n+m→0≤slk n A b v j:=fun j hj=>by
 unfold slk
 by_cases e:j < n
 ·rw [if_pos e]; exact h.nn j e
 ·rw [if_neg e]
  have:=h.le (j - n) (by omega)
  grind
theorem Way.opt (h:Way m (n+m) T r k t) (h0:T 0=tb0 m n A b) (hend:∀j,j < n+m→(T t).c j≤0) {v:Nat→Rat} (hv:Fea m n A b v):sumN n v≤(T t).z:=by
 have s0:Sol m (n+m) (T 0) (slk n A b v):=by rw [h0]; exact slk_sol
 have o:=h.obj s0 t (Nat.le_refl _)
 rw [h0,tb0_obj] at o
 have e:sumN n (slk n A b v)=sumN n v:=sumN_congr fun j hj=>by simp [slk,hj]
 rw [e] at o
 have l:sumN (n+m) (fun j=>(T t).c j * slk n A b v j)≤sumN (n+m) fun _=>0:=sumN_le fun j hj=>by
  have a1:=hend j hj
  have a2:=slk_nn hv j hj
  have:=Rat.mul_nonneg (show 0≤- (T t).c j by grind) a2
  grind
 rw [sumN_zero (n:=n+m) (f:=fun _=>0) fun _ _=>rfl] at l
 unfold Sx.obj at o
 grind
def pt (m:Nat) (T:Tb) (j:Nat):Rat:=sumN m fun i=>if T.s i=j then T.b i else 0
theorem pt_xL {T:Tb} {k:Nat}:pt m T=xL m T k 0:=by
 funext j
 unfold pt xL
 have:sumN m (fun i=>if T.s i=j then T.b i else 0)=sumN m (fun i=>if T.s i=j then T.b i - 0 * T.a i k else 0):=sumN_congr fun i _=>by grind
 rw [this]
 grind
theorem pt_nn {T:Tb} {N:Nat} (hc:Can m N T) (j:Nat):0≤pt m T j:=sumN_nn fun i hi=>by
 have:=hc.nn i hi
 split <;> grind
theorem pt_at {T:Tb} {N:Nat} (hc:Can m N T) {i:Nat} (hi:i < m):pt m T (T.s i)=T.b i:=by
 unfold pt
 rw [sumN_one hi fun i' hi' hne=>?_]
 ·simp
 ·rw [if_neg fun e=>hne (hc.inj hi' hi e)]
theorem pt_out {T:Tb} {j:Nat} (h:¬InB m T j):pt m T j=0:=sumN_zero fun i hi=>by rw [if_neg fun e=>h ⟨i,hi,e⟩]
theorem Way.pt (h:Way m (n+m) T r k t) (h0:T 0=tb0 m n A b) {q:Nat} (hq:q≤t):Fea m n A b (pt m (T q))∧sumN n (pt m (T q))=(T q).z:=by
 have hc:=h.can q hq
 by_cases hN:0 < n+m
 ·have s0:=(h.sol _ q hq).1 (xL_sol (k:=0) (l:=0) hc hN)
  have o:=h.obj s0 q hq
  rw [xL_obj hc hN,h0,tb0_obj] at o
  rw [h0] at s0
  rw [pt_xL (k:=0)]
  refine ⟨sol_fea s0 fun j hj=>?_,by grind⟩
  rw [←pt_xL]
  exact pt_nn hc j
 ·have:n=0:=by omega
  subst this
  have:m=0:=by omega
  subst this
  refine ⟨⟨fun j hj=>by omega,fun i hi=>by omega⟩,?_⟩
  have ht:t=0:=by
   have:=h.len
   simp at this
   exact this
  have:q=0:=by omega
  subst this
  rw [h0]
  rfl
theorem Fea.le_sum {v:Nat→Rat} (h:Fea m n A b v) (hA:∀i j,0≤A i j) {j:Nat} (hj:j < n) {i:Nat} (hi:i < m) (h1:A i j=1):v j≤b i:=by
 refine Rat.le_trans ?_ (h.le i hi)
 have e:sumN n (fun j'=>if j'=j then v j else 0)=v j:=by
  rw [sumN_one hj fun i' _ hne=>by rw [if_neg hne]]
  simp
 rw [←e]
 refine sumN_le fun j' hj'=>?_
 by_cases ej:j'=j
 ·subst ej; rw [if_pos rfl,h1]; grind
 ·rw [if_neg ej]; exact Rat.mul_nonneg (hA i j') (h.nn j' hj')
theorem Way.ray (h:Way m (n+m) T r k t) (h0:T 0=tb0 m n A b) (hA:∀i j,0≤A i j) (hb:∀i,i < m→0≤b i) (h1:∀j,j < n→∃i,i < m∧A i j=1) {q:Nat} (hq:q≤t) {c:Nat} (hcN:c < n+m) (hcp:0 < (T q).c c) (hr:∀i,i < m→(T q).a i c≤0):False:=by
 have hc:=h.can q hq
 have hray:∀l:Rat,0≤l→(T q).z+(T q).c c * l≤sumN n fun _=>sumN m b:=fun l hl=>by
  have s0:=(h.sol _ q hq).1 (xL_sol (k:=c) (l:=l) hc hcN)
  have o:=h.obj s0 q hq
  rw [xL_obj hc hcN,h0,tb0_obj] at o
  rw [h0] at s0
  have hx:∀j,0≤xL m (T q) c l j:=fun j=>by
   unfold xL
   have:0≤sumN m (fun i=>if (T q).s i=j then (T q).b i - l * (T q).a i c else 0):=sumN_nn fun i hi=>by
    have a1:=hc.nn i hi
    have a2:=Rat.mul_nonneg hl (show 0≤- (T q).a i c by have:=hr i hi; grind)
    split <;> grind
   split <;> grind
  have hf:=sol_fea s0 fun j _=>hx j
  rw [o]
  refine sumN_le fun j hj=>?_
  obtain ⟨i,hi,e⟩:=h1 j hj
  refine Rat.le_trans (hf.le_sum hA hj hi e) ?_
  have e2:sumN m (fun i'=>if i'=i then b i else 0)=b i:=by
   rw [sumN_one hi fun i' _ hne=>by rw [if_neg hne]]
   simp
  rw [←e2]
  refine sumN_le fun i' hi'=>?_
  by_cases ei:i'=i
  ·subst ei; simp
  ·rw [if_neg ei]; exact hb i' hi'
 have z0:0≤(T q).z:=by
  have:=h.z_le q (Nat.zero_le _) hq
  rw [h0] at this
  exact this
 have hS:0≤sumN n fun _=>sumN m b:=sumN_nn fun _ _=>sumN_nn hb
 have:=hray (((sumN n fun _=>sumN m b)+1) / (T q).c c) (div_nn (by grind) hcp)
 have e:(T q).c c * (((sumN n fun _=>sumN m b)+1) / (T q).c c)=(sumN n fun _=>sumN m b)+1:=by grind
 rw [e] at this
 grind
end
end Go.Sx
end
section
namespace Go.Sx
def sgn (j:Nat):Rat:=if j % 2=0 then 1 else -1
theorem sgn_succ (j:Nat):sgn (j+1)=- sgn j:=by
 unfold sgn
 rcases Nat.mod_two_eq_zero_or_one j with h | h
 ·rw [if_neg (by omega),if_pos h]
 ·rw [if_pos (by omega),if_neg (by omega)]; grind
def mnr (A:Nat→Nat→Rat) (j:Nat) (i k:Nat):Rat:=A (i+1) (if k < j then k else k+1)
def det:Nat→(Nat→Nat→Rat)→Rat
 | 0,_=>1
 | n+1,A=>sumN (n+1) fun j=>sgn j * A 0 j * det n (mnr A j)
theorem det_congr:∀{n:Nat} {A B:Nat→Nat→Rat},(∀i j,i < n→j < n→A i j=B i j)→det n A=det n B
 | 0,_,_,_=>rfl
 | n+1,A,B,h=>by
  simp only [det]
  refine sumN_congr fun j hj=>?_
  rw [h 0 j (by omega) hj,det_congr (A:=mnr A j) (B:=mnr B j) fun i k hi hk=>by unfold mnr; exact h _ _ (by omega) (by split <;> omega)]
def upc (A:Nat→Nat→Rat) (k:Nat) (u:Nat→Rat) (i j:Nat):Rat:=if j=k then u i else A i j
theorem mnr_upc_same {A:Nat→Nat→Rat} {k:Nat} {u:Nat→Rat}:mnr (upc A k u) k=mnr A k:=by
 funext i j
 unfold mnr upc
 by_cases h:j < k
 ·rw [if_pos h,if_neg (by omega)]
 ·rw [if_neg h,if_neg (by omega)]
theorem mnr_upc {A:Nat→Nat→Rat} {k j:Nat} {u:Nat→Rat} (h:j≠k):mnr (upc A k u) j=upc (mnr A j) (if k < j then k else k - 1) fun i=>u (i+1):=by
 funext i c
 unfold mnr upc
 by_cases h1:c < j
 ·by_cases h2:k < j
  ·simp [h1,h2]
  ·rw [if_pos h1,if_neg h2,if_neg (by omega),if_neg (by omega)]
   simp [h1]
 ·by_cases h2:k < j
  ·rw [if_neg h1,if_pos h2,if_neg (by omega),if_neg (by omega)]
   simp [h1]
  ·rw [if_neg h1,if_neg h2]
   by_cases e:c+1=k
   ·rw [if_pos e,if_pos (by omega)]
   ·rw [if_neg e,if_neg (by omega)]
    simp [h1]
theorem det_lin:∀{n:Nat} {A:Nat→Nat→Rat} {k:Nat} {u v:Nat→Rat} {c:Rat},k < n→det n (upc A k fun i=>u i+c * v i)=det n (upc A k u)+c * det n (upc A k v)
 | 0,_,_,_,_,_,h=>absurd h (by omega)
 | n+1,A,k,u,v,c,h=>by
  simp only [det]
  rw [←sumN_mul,←sumN_add]
  refine sumN_congr fun j hj=>?_
  by_cases e:j=k
  ·subst e
   rw [mnr_upc_same,mnr_upc_same,mnr_upc_same]
   simp only [upc,if_pos]
   grind
  ·rw [mnr_upc e,mnr_upc e,mnr_upc e,det_lin (by split <;> omega)]
   simp only [upc,if_neg e]
   grind
theorem det_zero {n:Nat} {A:Nat→Nat→Rat} {k:Nat} (h:k < n):det n (upc A k fun _=>0)=0:=by
 have:=det_lin (n:=n) (A:=A) (k:=k) (u:=fun _=>0) (v:=fun _=>0) (c:=1) h
 have e:(fun _:Nat=>(0:Rat)+1 * 0)=fun _=>0:=by funext _; grind
 rw [e] at this
 grind
theorem det_adj:∀{n:Nat} {A:Nat→Nat→Rat} {p:Nat},p+1 < n→(∀i,A i p=A i (p+1))→det n A=0
 | 0,_,_,h,_=>absurd h (by omega)
 | n+1,A,p,h,hA=>by
  have key:∀j,j≠p→j≠p+1→j < n+1→sgn j * A 0 j * det n (mnr A j)=0:=fun j h1 h2 hj=>by
   have:det n (mnr A j)=0:=by
    by_cases e:j < p
    ·refine det_adj (p:=p - 1) (by omega) fun i=>?_
     unfold mnr
     rw [if_neg (by omega),if_neg (by omega)]
     have:=hA (i+1)
     rw [show p - 1+1=p by omega]
     exact this
    ·refine det_adj (p:=p) (by omega) fun i=>?_
     unfold mnr
     rw [if_pos (by omega),if_pos (by omega)]
     exact hA (i+1)
   rw [this]
   grind
  have em:mnr A p=mnr A (p+1):=by
   funext i k
   unfold mnr
   by_cases h1:k < p
   ·rw [if_pos h1,if_pos (by omega)]
   ·by_cases h2:k=p
    ·subst h2
     rw [if_neg h1,if_pos (by omega)]
     exact (hA (i+1)).symm
    ·rw [if_neg h1,if_neg (by omega)]
  simp only [det]
  have e:sumN (n+1) (fun j=>sgn j * A 0 j * det n (mnr A j))=sumN (n+1) (fun j=>(if j=p then sgn p * A 0 p * det n (mnr A p) else 0)+(if j=p+1 then - (sgn p * A 0 p * det n (mnr A p)) else 0)):=by
   refine sumN_congr fun j hj=>?_
   by_cases e1:j=p
   ·subst e1; simp; grind
   ·by_cases e2:j=p+1
    ·subst e2
     rw [if_neg (by omega),if_pos rfl,sgn_succ,←em,←hA 0]
     grind
    ·rw [if_neg e1,if_neg e2,key j e1 e2 hj]; grind
  rw [e,sumN_add,sumN_one (k:=p) (by omega) (fun i _ hne=>by rw [if_neg hne]),sumN_one (k:=p+1) h (fun i _ hne=>by rw [if_neg hne])]
  simp
  grind
theorem det_swap {n:Nat} {A:Nat→Nat→Rat} {p:Nat} (h:p+1 < n):det n (upc (upc A p fun i=>A i (p+1)) (p+1) fun i=>A i p)=- det n A:=by
 have f:∀u v:Nat→Rat,det n (upc (upc A p u) (p+1) v)=det n (upc (upc A (p+1) v) p u):=fun u v=>by
  refine det_congr fun i j _ _=>?_
  unfold upc
  by_cases e:j=p+1
  ·rw [if_pos e,if_neg (by omega),if_pos e]
  ·rw [if_neg e,if_neg e]
 have z:∀u:Nat→Rat,det n (upc (upc A p u) (p+1) u)=0:=fun u=>det_adj (p:=p) h fun i=>by
  unfold upc
  rw [if_neg (by omega),if_pos rfl,if_pos rfl]
 have l1:∀u v w:Nat→Rat,det n (upc (upc A p u) (p+1) fun i=>v i+1 * w i)=det n (upc (upc A p u) (p+1) v)+1 * det n (upc (upc A p u) (p+1) w):=fun u v w=>det_lin h
 have l2:∀u v w:Nat→Rat,det n (upc (upc A p fun i=>u i+1 * v i) (p+1) w)=det n (upc (upc A p u) (p+1) w)+1 * det n (upc (upc A p v) (p+1) w):=fun u v w=>by
  rw [f,f u,f v]
  exact det_lin (by omega)
 have e0:det n (upc (upc A p fun i=>A i p) (p+1) fun i=>A i (p+1))=det n A:=det_congr fun i j _ _=>by
  unfold upc
  by_cases e:j=p+1
  ·rw [if_pos e,e]
  ·rw [if_neg e]
   by_cases e':j=p
   ·rw [if_pos e',e']
   ·rw [if_neg e']
 have t:=z fun i=>A i p+1 * A i (p+1)
 rw [l1,l2,l2,z,z,e0] at t
 grind
theorem det_eq0 {n:Nat}:∀{A:Nat→Nat→Rat} (d p:Nat),p+1+d < n→(∀i,A i p=A i (p+1+d))→det n A=0
 | A,0,p,h,hA=>det_adj h hA
 | A,d+1,p,h,hA=>by
  have h1:p+d+1+1 < n:=by omega
  have s:=det_swap (A:=A) h1
  have z:det n (upc (upc A (p+d+1) fun i=>A i (p+d+1+1)) (p+d+1+1) fun i=>A i (p+d+1))=0:=by
   refine det_eq0 d p (by omega) fun i=>?_
   unfold upc
   rw [if_neg (by omega),if_neg (by omega),if_neg (by omega),if_pos (by omega),hA i]
   congr 1
   omega
  rw [z] at s
  grind
theorem det_sum {n:Nat} {A:Nat→Nat→Rat} {k:Nat} (hk:k < n) (x:Nat→Rat):∀t,t≤n→det n (upc A k fun i=>sumN t fun l=>A i l * x l)=(if k < t then x k * det n A else 0)
 | 0,_=>by simp only [sumN]; rw [det_zero hk]; simp
 | t+1,ht=>by
  have e:(fun i=>sumN (t+1) fun l=>A i l * x l)=fun i=>(sumN t fun l=>A i l * x l)+x t * A i t:=by
   funext i
   simp only [sumN]
   grind
  rw [e,det_lin hk,det_sum hk x t (by omega)]
  by_cases e1:t=k
  ·subst e1
   have:det n (upc A t fun i=>A i t)=det n A:=det_congr fun i j _ _=>by
    unfold upc
    by_cases e:j=t
    ·rw [if_pos e,e]
    ·rw [if_neg e]
   rw [this,if_neg (by omega),if_pos (by omega)]
   grind
  ·have:det n (upc A k fun i=>A i t)=0:=by
    by_cases e2:t < k
    ·refine det_eq0 (k - t - 1) t (by omega) fun i=>?_
     unfold upc
     rw [if_neg (show t≠k by omega),if_pos (show t+1+(k - t - 1)=k by omega)]
    ·refine det_eq0 (t - k - 1) k (by omega) fun i=>?_
     unfold upc
     rw [if_pos rfl,if_neg (by omega),show k+1+(t - k - 1)=t by omega]
   rw [this]
   by_cases e2:k < t
   ·rw [if_pos e2,if_pos (by omega)]; grind
   ·rw [if_neg e2,if_neg (by omega)]; grind
theorem cramer {n:Nat} {A:Nat→Nat→Rat} {k:Nat} (hk:k < n) (x:Nat→Rat) {u:Nat→Rat} (hu:∀i,i < n→u i=sumN n fun l=>A i l * x l):det n (upc A k u)=x k * det n A:=by
 have:=det_sum (A:=A) hk x n (Nat.le_refl _)
 rw [if_pos hk] at this
 rw [←this]
 refine det_congr fun i j hi _=>?_
 unfold upc
 rw [hu i hi]
theorem det_id:∀n:Nat,det n (fun i j=>if i=j then 1 else 0)=1
 | 0=>rfl
 | n+1=>by
  simp only [det]
  rw [sumN_one (k:=0) (by omega) fun i _ hne=>by rw [if_neg (Ne.symm hne)]; grind]
  have:det n (mnr (fun i j=>if i=j then (1:Rat) else 0) 0)=det n (fun i j=>if i=j then 1 else 0):=det_congr fun i j _ _=>by
   unfold mnr
   simp
  rw [this,det_id n]
  simp [sgn]
def IsI (x:Rat):Prop:=∃z:Int,x=z
theorem IsI.int (z:Int):IsI (z:Rat):=⟨z,rfl⟩
theorem IsI.zero:IsI 0:=⟨0,by simp⟩
theorem IsI.one:IsI 1:=⟨1,by simp⟩
theorem IsI.add {x y:Rat}:IsI x→IsI y→IsI (x+y):=fun ⟨a,ha⟩ ⟨b,hb⟩=>⟨a+b,by rw [ha,hb,Rat.intCast_add]⟩
theorem IsI.mul {x y:Rat}:IsI x→IsI y→IsI (x * y):=fun ⟨a,ha⟩ ⟨b,hb⟩=>⟨a * b,by rw [ha,hb,Rat.intCast_mul]⟩
theorem IsI.neg {x:Rat}:IsI x→IsI (-x):=fun ⟨a,ha⟩=>⟨-a,by rw [ha,Rat.intCast_neg]⟩
theorem IsI.sum {n:Nat} {f:Nat→Rat} (h:∀i,i < n→IsI (f i)):IsI (sumN n f):=by
 induction n with
 | zero=>exact IsI.zero
 | succ n ih=>exact (ih fun i hi=>h i (by omega)).add (h n (by omega))
theorem IsI.sgn (j:Nat):IsI (sgn j):=by unfold Sx.sgn; split; exact IsI.one; exact IsI.one.neg
theorem IsI.det:∀{n:Nat} {A:Nat→Nat→Rat},(∀i j,i < n→j < n→IsI (A i j))→IsI (det n A)
 | 0,_,_=>IsI.one
 | n+1,A,h=>IsI.sum fun j hj=>((IsI.sgn j).mul (h 0 j (by omega) hj)).mul (IsI.det fun i k hi hk=>by unfold mnr; exact h _ _ (by omega) (by split <;> omega))
def Z1 (n:Nat) (A:Nat→Nat→Rat):Prop:=∀i j,i < n→j < n→A i j=0∨A i j=1
theorem Z1.mnr {n:Nat} {A:Nat→Nat→Rat} (h:Z1 (n+1) A) (j:Nat):Z1 n (mnr A j):=fun i k hi hk=>by unfold Sx.mnr; exact h _ _ (by omega) (by split <;> omega)
theorem sum_bd {n:Nat} {f:Nat→Rat} {M:Rat} (h:∀i,i < n→-M≤f i∧f i≤M):-(n * M)≤sumN n f∧sumN n f≤n * M:=by
 induction n with
 | zero=>simp [sumN]
 | succ n ih =>
  have h1:=ih fun i hi=>h i (by omega)
  have h2:=h n (by omega)
  have e:((n+1:Nat):Rat)=(n:Rat)+1:=by simp
  simp only [sumN]
  rw [e]
  constructor <;> grind
theorem term_bd {s a d M:Rat} (hs:s=1∨s=-1) (ha:a=0∨a=1) (hd:-M≤d∧d≤M):-M≤s * a * d∧s * a * d≤M:=by
 rcases hs with rfl | rfl <;> rcases ha with rfl | rfl <;> constructor <;> grind
theorem sgn_or (j:Nat):sgn j=1∨sgn j=-1:=by unfold sgn; split; exact .inl rfl; exact .inr rfl
theorem det_bd {n:Nat} {M:Rat} (ih:∀A,Z1 n A→-M≤det n A∧det n A≤M) (A:Nat→Nat→Rat) (h:Z1 (n+1) A):-((n+1:Nat) * M)≤det (n+1) A∧det (n+1) A≤(n+1:Nat) * M:=by
 simp only [det]
 exact sum_bd fun j hj=>term_bd (sgn_or j) (h 0 j (by omega) hj) (ih _ (h.mnr j))
end Go.Sx
end
section
namespace Go.Sx
theorem det1 (A:Nat→Nat→Rat):det 1 A=A 0 0:=by
 simp [det,sumN,sgn]
 grind
theorem det2 (A:Nat→Nat→Rat):det 2 A=A 0 0 * A 1 1 - A 0 1 * A 1 0:=by
 simp [det,sumN,sgn,mnr]
 grind
theorem det3 (A:Nat→Nat→Rat):det 3 A=A 0 0 * (A 1 1 * A 2 2 - A 1 2 * A 2 1) - A 0 1 * (A 1 0 * A 2 2 - A 1 2 * A 2 0)+A 0 2 * (A 1 0 * A 2 1 - A 1 1 * A 2 0):=by
 have e:det 3 A=sumN 3 fun j=>sgn j * A 0 j * det 2 (mnr A j):=rfl
 rw [e]
 simp only [sumN,det2]
 simp [sgn,mnr]
 grind
theorem bd1 (A:Nat→Nat→Rat) (h:Z1 1 A):-1≤det 1 A∧det 1 A≤1:=by
 rw [det1]
 rcases h 0 0 (by omega) (by omega) with e | e <;> rw [e] <;> constructor <;> grind
theorem bd2 (A:Nat→Nat→Rat) (h:Z1 2 A):-1≤det 2 A∧det 2 A≤1:=by
 rw [det2]
 rcases h 0 0 (by omega) (by omega) with e1 | e1 <;> rcases h 0 1 (by omega) (by omega) with e2 | e2 <;> rcases h 1 0 (by omega) (by omega) with e3 | e3 <;> rcases h 1 1 (by omega) (by omega) with e4 | e4 <;> rw [e1,e2,e3,e4] <;> constructor <;> grind
def bz (n k:Nat):Int:=if n.testBit k then 1 else 0
theorem dec3:∀p q r:Fin 8,-2≤bz p 0 * (bz q 1 * bz r 2 - bz q 2 * bz r 1) - bz p 1 * (bz q 0 * bz r 2 - bz q 2 * bz r 0)+bz p 2 * (bz q 0 * bz r 1 - bz q 1 * bz r 0)∧bz p 0 * (bz q 1 * bz r 2 - bz q 2 * bz r 1) - bz p 1 * (bz q 0 * bz r 2 - bz q 2 * bz r 0)+bz p 2 * (bz q 0 * bz r 1 - bz q 1 * bz r 0)≤2:=by decide +kernel
theorem row3 {x y z:Rat} (hx:x=0∨x=1) (hy:y=0∨y=1) (hz:z=0∨z=1):∃p:Fin 8,x=(bz p 0:Int)∧y=(bz p 1:Int)∧z=(bz p 2:Int):=by
 rcases hx with rfl | rfl <;> rcases hy with rfl | rfl <;> rcases hz with rfl | rfl
 ·exact ⟨0,by decide,by decide,by decide⟩
 ·exact ⟨4,by decide,by decide,by decide⟩
 ·exact ⟨2,by decide,by decide,by decide⟩
 ·exact ⟨6,by decide,by decide,by decide⟩
 ·exact ⟨1,by decide,by decide,by decide⟩
 ·exact ⟨5,by decide,by decide,by decide⟩
 ·exact ⟨3,by decide,by decide,by decide⟩
 ·exact ⟨7,by decide,by decide,by decide⟩
theorem row4 {x y z u:Rat} (hx:x=0∨x=1) (hy:y=0∨y=1) (hz:z=0∨z=1) (hu:u=0∨u=1):∃p:Fin 16,x=(bz p 0:Int)∧y=(bz p 1:Int)∧z=(bz p 2:Int)∧u=(bz p 3:Int):=by
 rcases hx with rfl | rfl <;> rcases hy with rfl | rfl <;> rcases hz with rfl | rfl <;> rcases hu with rfl | rfl
 ·exact ⟨0,by decide,by decide,by decide,by decide⟩
 ·exact ⟨8,by decide,by decide,by decide,by decide⟩
 ·exact ⟨4,by decide,by decide,by decide,by decide⟩
 ·exact ⟨12,by decide,by decide,by decide,by decide⟩
 ·exact ⟨2,by decide,by decide,by decide,by decide⟩
 ·exact ⟨10,by decide,by decide,by decide,by decide⟩
 ·exact ⟨6,by decide,by decide,by decide,by decide⟩
 ·exact ⟨14,by decide,by decide,by decide,by decide⟩
 ·exact ⟨1,by decide,by decide,by decide,by decide⟩
 ·exact ⟨9,by decide,by decide,by decide,by decide⟩
 ·exact ⟨5,by decide,by decide,by decide,by decide⟩
 ·exact ⟨13,by decide,by decide,by decide,by decide⟩
 ·exact ⟨3,by decide,by decide,by decide,by decide⟩
 ·exact ⟨11,by decide,by decide,by decide,by decide⟩
 ·exact ⟨7,by decide,by decide,by decide,by decide⟩
 ·exact ⟨15,by decide,by decide,by decide,by decide⟩
theorem bd3 (A:Nat→Nat→Rat) (h:Z1 3 A):-2≤det 3 A∧det 3 A≤2:=by
 rw [det3]
 obtain ⟨p,p0,p1,p2⟩:=row3 (h 0 0 (by omega) (by omega)) (h 0 1 (by omega) (by omega)) (h 0 2 (by omega) (by omega))
 obtain ⟨q,q0,q1,q2⟩:=row3 (h 1 0 (by omega) (by omega)) (h 1 1 (by omega) (by omega)) (h 1 2 (by omega) (by omega))
 obtain ⟨r,r0,r1,r2⟩:=row3 (h 2 0 (by omega) (by omega)) (h 2 1 (by omega) (by omega)) (h 2 2 (by omega) (by omega))
 rw [p0,p1,p2,q0,q1,q2,r0,r1,r2]
 have ⟨d1,d2⟩:=dec3 p q r
 rw [←Rat.intCast_le_intCast] at d1 d2
 simp only [Rat.intCast_add,Rat.intCast_sub,Rat.intCast_mul,Rat.intCast_neg] at d1 d2
 exact ⟨by simpa using d1,by simpa using d2⟩
def m3 (p q r i j k:Nat):Int:=bz p i * (bz q j * bz r k - bz q k * bz r j) - bz p j * (bz q i * bz r k - bz q k * bz r i)+bz p k * (bz q i * bz r j - bz q j * bz r i)
theorem dec4:∀p q r:Fin 16,-6≤m3 p q r 1 2 3 - m3 p q r 0 2 3+m3 p q r 0 1 3 - m3 p q r 0 1 2∧m3 p q r 1 2 3 - m3 p q r 0 2 3+m3 p q r 0 1 3 - m3 p q r 0 1 2≤6:=by decide +kernel
theorem bd4 (A:Nat→Nat→Rat) (h:Z1 4 A):-6≤det 4 A∧det 4 A≤6:=by
 have e:det 4 A=A 0 0 * det 3 (mnr A 0) - A 0 1 * det 3 (mnr A 1)+A 0 2 * det 3 (mnr A 2) - A 0 3 * det 3 (mnr A 3):=by
  have e:det 4 A=sumN 4 fun j=>sgn j * A 0 j * det 3 (mnr A j):=rfl
  rw [e]
  simp only [sumN]
  simp [sgn]
  grind
 rw [e]
 have b0:=bd3 _ (h.mnr 0)
 have b1:=bd3 _ (h.mnr 1)
 have b2:=bd3 _ (h.mnr 2)
 have b3:=bd3 _ (h.mnr 3)
 have d:A 0 0=1→A 0 1=1→A 0 2=1→A 0 3=1→-6≤A 0 0 * det 3 (mnr A 0) - A 0 1 * det 3 (mnr A 1)+A 0 2 * det 3 (mnr A 2) - A 0 3 * det 3 (mnr A 3)∧A 0 0 * det 3 (mnr A 0) - A 0 1 * det 3 (mnr A 1)+A 0 2 * det 3 (mnr A 2) - A 0 3 * det 3 (mnr A 3)≤6:=fun e0 e1 e2 e3=>by
  rw [e0,e1,e2,e3]
  obtain ⟨p,p0,p1,p2,p3⟩:=row4 (h 1 0 (by omega) (by omega)) (h 1 1 (by omega) (by omega)) (h 1 2 (by omega) (by omega)) (h 1 3 (by omega) (by omega))
  obtain ⟨q,q0,q1,q2,q3⟩:=row4 (h 2 0 (by omega) (by omega)) (h 2 1 (by omega) (by omega)) (h 2 2 (by omega) (by omega)) (h 2 3 (by omega) (by omega))
  obtain ⟨r,r0,r1,r2,r3⟩:=row4 (h 3 0 (by omega) (by omega)) (h 3 1 (by omega) (by omega)) (h 3 2 (by omega) (by omega)) (h 3 3 (by omega) (by omega))
  have f0:det 3 (mnr A 0)=(m3 p q r 1 2 3:Int):=by
   rw [det3]
   simp only [mnr]
   simp only [Nat.not_lt_zero,if_false,Nat.zero_add,Nat.reduceAdd]
   rw [p1,p2,p3,q1,q2,q3,r1,r2,r3]
   simp only [m3,Rat.intCast_add,Rat.intCast_sub,Rat.intCast_mul]
  have f1:det 3 (mnr A 1)=(m3 p q r 0 2 3:Int):=by
   rw [det3]
   simp [mnr]
   rw [p0,p2,p3,q0,q2,q3,r0,r2,r3]
   simp only [m3,Rat.intCast_add,Rat.intCast_sub,Rat.intCast_mul]
  have f2:det 3 (mnr A 2)=(m3 p q r 0 1 3:Int):=by
   rw [det3]
   simp [mnr]
   rw [p0,p1,p3,q0,q1,q3,r0,r1,r3]
   simp only [m3,Rat.intCast_add,Rat.intCast_sub,Rat.intCast_mul]
  have f3:det 3 (mnr A 3)=(m3 p q r 0 1 2:Int):=by
   rw [det3]
   simp [mnr]
   rw [p0,p1,p2,q0,q1,q2,r0,r1,r2]
   simp only [m3,Rat.intCast_add,Rat.intCast_sub,Rat.intCast_mul]
  rw [f0,f1,f2,f3]
  have ⟨d1,d2⟩:=dec4 p q r
  rw [←Rat.intCast_le_intCast] at d1 d2
  simp only [Rat.intCast_add,Rat.intCast_sub] at d1 d2
  simp only [Rat.one_mul]
  exact ⟨by simpa using d1,by simpa using d2⟩
 rcases h 0 0 (by omega) (by omega) with e0 | e0
 ·rcases h 0 1 (by omega) (by omega) with e1 | e1 <;> rcases h 0 2 (by omega) (by omega) with e2 | e2 <;> rcases h 0 3 (by omega) (by omega) with e3 | e3 <;> rw [e0,e1,e2,e3] <;> constructor <;> grind
 ·rcases h 0 1 (by omega) (by omega) with e1 | e1
  ·rcases h 0 2 (by omega) (by omega) with e2 | e2 <;> rcases h 0 3 (by omega) (by omega) with e3 | e3 <;> rw [e0,e1,e2,e3] <;> constructor <;> grind
  ·rcases h 0 2 (by omega) (by omega) with e2 | e2
   ·rcases h 0 3 (by omega) (by omega) with e3 | e3 <;> rw [e0,e1,e2,e3] <;> constructor <;> grind
   ·rcases h 0 3 (by omega) (by omega) with e3 | e3
    ·rw [e0,e1,e2,e3]; constructor <;> grind
    ·exact d e0 e1 e2 e3
theorem step_bd {n:Nat} {a b:Int} (hab:((n+1:Nat):Int) * a≤b) (ih:∀A,Z1 n A→-(a:Rat)≤det n A∧det n A≤a) (A:Nat→Nat→Rat) (h:Z1 (n+1) A):-(b:Rat)≤det (n+1) A∧det (n+1) A≤b:=by
 have h1:=det_bd ih A h
 have h2:(((n+1:Nat):Int):Rat) * (a:Rat)≤b:=by
  rw [←Rat.intCast_mul,Rat.intCast_le_intCast]
  exact hab
 have h3:(((n+1:Nat):Int):Rat)=((n+1:Nat):Rat):=Rat.intCast_natCast _
 rw [h3] at h2
 constructor <;> grind
theorem bd10:∀n,n≤10→∀A,Z1 n A→-((907200:Int):Rat)≤det n A∧det n A≤((907200:Int):Rat):=by
 have b4:∀A,Z1 4 A→-((6:Int):Rat)≤det 4 A∧det 4 A≤((6:Int):Rat):=fun A h=>by have:=bd4 A h; simpa using this
 have b5:=step_bd (b:=30) (by decide) b4
 have b6:=step_bd (b:=180) (by decide) b5
 have b7:=step_bd (b:=1260) (by decide) b6
 have b8:=step_bd (b:=10080) (by decide) b7
 have b9:=step_bd (b:=90720) (by decide) b8
 have b10:=step_bd (b:=907200) (by decide) b9
 have up:∀{n:Nat} {a:Int},a≤907200→(∀A,Z1 n A→-(a:Rat)≤det n A∧det n A≤a)→∀A,Z1 n A→-((907200:Int):Rat)≤det n A∧det n A≤((907200:Int):Rat):=fun ha h A hA=>by
  have h1:=h A hA
  rw [←Rat.intCast_le_intCast] at ha
  constructor <;> grind
 intro n hn
 match n,hn with
 | 0,_=>intro A _; simp only [det]; constructor <;> decide
 | 1,_=>exact up (a:=1) (by decide) fun A h=>by have:=bd1 A h; simpa using this
 | 2,_=>exact up (a:=1) (by decide) fun A h=>by have:=bd2 A h; simpa using this
 | 3,_=>exact up (a:=2) (by decide) fun A h=>by have:=bd3 A h; simpa using this
 | 4,_=>exact up (by decide) b4
 | 5,_=>exact up (by decide) b5
 | 6,_=>exact up (by decide) b6
 | 7,_=>exact up (by decide) b7
 | 8,_=>exact up (by decide) b8
 | 9,_=>exact up (by decide) b9
 | 10,_=>exact b10
section
variable {m n t:Nat} {A:Nat→Nat→Rat} {b:Nat→Rat} {T:Nat→Tb} {r k:Nat→Nat}
structure Cols (m N:Nat) (T0 T:Tb):Prop where
 a:∀i j,i < m→j < N→T0.a i j=sumN m fun l=>T0.a i (T.s l) * T.a l j
 b:∀i,i < m→T0.b i=sumN m fun l=>T0.a i (T.s l) * T.b l
theorem cols_step {N:Nat} {T0 T:Tb} {r k:Nat} (hb:Bl m N T r k) {i:Nat} {x:Nat→Rat} {y:Rat} (hk:T0.a i k=sumN m fun l=>T0.a i (T.s l) * T.a l k) (h:y=sumN m fun l=>T0.a i (T.s l) * x l) :
  y=sumN m fun l=>T0.a i ((T.piv r k).s l) * (if l=r then x r / T.a r k else x l - T.a l k * (x r / T.a r k)):=by
 have hp:=hb.pr
 have e:(sumN m fun l=>T0.a i ((T.piv r k).s l) * (if l=r then x r / T.a r k else x l - T.a l k * (x r / T.a r k)))=sumN m fun l=>(T0.a i (T.s l) * x l+(- (x r / T.a r k)) * (T0.a i (T.s l) * T.a l k))+(if l=r then T0.a i k * (x r / T.a r k) else 0):=by
  refine sumN_congr fun l _=>?_
  by_cases e:l=r
  ·subst e
   simp only [Tb.piv,if_pos]
   grind
  ·simp only [Tb.piv,if_neg e]
   grind
 rw [e,sumN_add,sumN_add,sumN_mul,←hk,←h,sumN_one hb.rm fun i _ hne=>by rw [if_neg hne]]
 simp
 grind
theorem Way.cols {N:Nat} (h:Way m N T r k t) (h0:Cols m N (T 0) (T 0)):∀q,q≤t→Cols m N (T 0) (T q)
 | 0,_=>h0
 | q+1,hq=>by
  have ⟨hb,e⟩:=h.st q (by omega)
  have c:=h.cols h0 q (by omega)
  rw [e]
  refine ⟨fun i j hi hj=>?_,fun i hi=>?_⟩
  ·exact cols_step hb (c.a i _ hi hb.kN) (c.a i j hi hj)
  ·exact cols_step hb (c.a i _ hi hb.kN) (c.b i hi)
theorem tb0_cols:Cols m (n+m) (tb0 m n A b) (tb0 m n A b):=by
 have e:∀i l,i < m→l < m→(tb0 m n A b).a i ((tb0 m n A b).s l)=if l=i then 1 else 0:=fun i l hi hl=>by
  simp only [tb0,if_pos hi,if_pos hl]
  rw [if_neg (by omega)]
  by_cases h:l=i
  ·rw [if_pos (by omega),if_pos h]
  ·rw [if_neg (by omega),if_neg h]
 refine ⟨fun i j hi hj=>?_,fun i hi=>?_⟩
 ·rw [sumN_one hi fun l hl hne=>by rw [e i l hi hl,if_neg hne]; grind,e i i hi hi]
  simp
 ·rw [sumN_one hi fun l hl hne=>by rw [e i l hi hl,if_neg hne]; grind,e i i hi hi]
  simp
def bas (T0 T:Tb) (i l:Nat):Rat:=T0.a i (T.s l)
theorem Way.det {N:Nat} (h:Way m N T r k t) (h0:Cols m N (T 0) (T 0)) (h1:det m (bas (T 0) (T 0))=1):∀q,q≤t→det m (bas (T 0) (T q))≠0
 | 0,_=>by rw [h1]; grind
 | q+1,hq=>by
  have ⟨hb,e⟩:=h.st q (by omega)
  have c:=h.cols h0 q (by omega)
  have ih:=h.det h0 h1 q (by omega)
  have e1:Sx.det m (bas (T 0) (T (q+1)))=Sx.det m (upc (bas (T 0) (T q)) (r q) fun i=>(T 0).a i (k q)):=det_congr fun i l _ _=>by
   rw [e]
   unfold bas upc
   by_cases el:l=r q
   ·simp [Tb.piv,el]
   ·simp [Tb.piv,el]
  rw [e1,cramer (A:=bas (T 0) (T q)) hb.rm (fun l=>(T q).a l (k q)) fun i hi=>c.a i _ hi hb.kN]
  have:=hb.pr
  grind
theorem rat_abs (z:Int):z≠0→∃s:Int,(s=1∨s=-1)∧0 < s * z:=fun h=>by
 by_cases g:0 < z
 ·exact ⟨1,.inl rfl,by omega⟩
 ·exact ⟨-1,.inr rfl,by omega⟩
theorem Way.den (h:Way m (n+m) T r k t) (h0:T 0=tb0 m n A b) (hm:m≤10) (hA:∀i j,i < m→j < n→A i j=0∨A i j=1) (hb:∀i,i < m→IsI (b i)) {q:Nat} (hq:q≤t):∃D:Int,1≤D∧D≤907200∧∀j,IsI ((D:Rat) * Sx.pt m (T q) j):=by
 have hc:=h.can q hq
 have c0:Cols m (n+m) (T 0) (T 0):=by rw [h0]; exact tb0_cols
 have d0:Sx.det m (bas (T 0) (T 0))=1:=by
  rw [←det_id m]
  refine det_congr fun i l hi hl=>?_
  rw [h0]
  simp only [bas,tb0,if_pos hi,if_pos hl]
  rw [if_neg (by omega)]
  by_cases g:l=i
  ·rw [if_pos (by omega),if_pos g.symm]
  ·rw [if_neg (by omega),if_neg (Ne.symm g)]
 have hz:Z1 m (bas (T 0) (T q)):=fun i l hi hl=>by
  rw [h0]
  simp only [bas,tb0,if_pos hi]
  by_cases g:(T q).s l < n
  ·rw [if_pos g]; exact hA i _ hi g
  ·rw [if_neg g]
   by_cases g2:(T q).s l=n+i
   ·rw [if_pos g2]; exact .inr rfl
   ·rw [if_neg g2]; exact .inl rfl
 have hi1:∀i l,i < m→l < m→IsI (bas (T 0) (T q) i l):=fun i l hi hl=>by
  rcases hz i l hi hl with e | e <;> rw [e]
  ·exact IsI.zero
  ·exact IsI.one
 obtain ⟨z,ez⟩:=IsI.det hi1
 have hne:=h.det c0 d0 q hq
 have hbd:=bd10 m hm _ hz
 rw [ez] at hne hbd
 have hz0:z≠0:=fun e=>hne (by rw [e]; simp)
 obtain ⟨s,hs,hp⟩:=rat_abs z hz0
 rw [←Rat.intCast_neg,Rat.intCast_le_intCast,Rat.intCast_le_intCast] at hbd
 have key:∀i,i < m→IsI ((T q).b i * (z:Rat)):=fun i hi=>by
  rw [←ez,←cramer (A:=bas (T 0) (T q)) hi (fun l=>(T q).b l) fun i hi=>(h.cols c0 q hq).b i hi]
  refine IsI.det fun i' l hi' hl=>?_
  unfold upc
  split
  ·rw [h0]; simp only [tb0,if_pos hi']; exact hb i' hi'
  ·exact hi1 i' l hi' hl
 refine ⟨s * z,by omega,by rcases hs with rfl | rfl <;> omega,fun j=>?_⟩
 rw [Rat.intCast_mul]
 by_cases g:InB m (T q) j
 ·obtain ⟨i,hi,rfl⟩:=g
  rw [pt_at hc hi]
  have:=(IsI.int s).mul (key i hi)
  rw [show (s:Rat) * (z:Rat) * (T q).b i=(s:Rat) * ((T q).b i * (z:Rat)) by grind]
  exact this
 ·rw [pt_out g,show (s:Rat) * (z:Rat) * 0=0 by grind]
  exact IsI.zero
end
end Go.Sx
end
