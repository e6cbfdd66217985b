/-
  A part of the proof of this claim's statement (SyEH, SyEI): plain theorems; no conditions beyond those each names.
-/
import Derived.Test.YtcoeknnghfajnaaGreatPk23
import Derived.Test.YtcoeknnghfajnaaGreatPk25
set_option maxRecDepth 100000
set_option linter.unusedSimpArgs false
set_option linter.unusedVariables false
set_option linter.unusedSectionVars false
section
namespace Go.Proofs.YtcoeknnghfajnaaGreat
open Go Go.W Go.Tk Go.Rx Go.Bd Go.Sy Go.Maps
def litF (vars:List Nat) (f:Go.Tk.Fc):List (Nat × Bool):=(List.range (wd (vars.getD f.1 0))).map fun k=>(2 * (bP vars f.1+k),f.2.testBit (wd (vars.getD f.1 0) - 1 - k))
def litL (vars:List Nat) (l:List Go.Tk.Fc):List (Nat × Bool):=l.flatMap (litF vars)
section
variable {vars:List Nat} (h64:∀n ∈ vars,1≤n∧n≤64)
include h64
theorem val_wd {v x:Nat} (hv:v < vars.length) (hx:x < vars.getD v 0):x < 2 ^ wd (vars.getD v 0):=by
 have hm:vars.getD v 0 ∈ vars:=by simp [List.getD,List.getElem?_eq_getElem hv]
 have:=wd_ge (h64 _ hm).2
 omega
theorem rv_bit {v x nx:Nat} {a:Nat→Bool} (hx:x < 2 ^ wd (vars.getD v 0)):rv vars a nx v=x↔∀k,k < wd (vars.getD v 0)→a (2 * (bP vars v+k)+nx)=x.testBit (wd (vars.getD v 0) - 1 - k):=by
 unfold rv
 exact (valK_eq _ _ hx).symm
theorem cub_litF {f:Go.Tk.Fc} (hf:f.1 < vars.length∧f.2 < vars.getD f.1 0) (a:Nat→Bool):cubeB (litF vars f) a=decide (rv vars a 0 f.1=f.2):=by
 rw [Bool.eq_iff_iff,decide_eq_true_iff,rv_bit h64 (val_wd h64 hf.1 hf.2)]
 unfold cubeB litF
 rw [List.all_map,List.all_eq_true]
 constructor
 ·intro h k hk
  have:=h k (List.mem_range.2 hk)
  simpa using this
 ·intro h k hk
  have:=h k (List.mem_range.1 hk)
  simpa using this
theorem cub_litL {l:List Go.Tk.Fc} (hl:∀f ∈ l,f.1 < vars.length∧f.2 < vars.getD f.1 0) (a:Nat→Bool):cubeB (litL vars l) a=hdB (rs vars a 0) l:=by
 induction l with
 | nil=>rfl
 | cons f l ih =>
  have ih:=ih fun g hg=>hl g (by simp [hg])
  have h1:=cub_litF h64 (hl f (by simp)) a
  have e:cubeB (litL vars (f :: l)) a=(cubeB (litF vars f) a && cubeB (litL vars l) a):=by
   unfold litL cubeB
   rw [List.flatMap_cons,List.all_append]
  rw [e,ih,h1]
  unfold hdB
  rw [List.all_cons,rs_at (hl f (by simp)).1]
theorem lit_even {l:List Go.Tk.Fc} (hl:∀f ∈ l,f.1 < vars.length):∀p ∈ litL vars l,p.1 % 2=0∧p.1 < 2 * nBits vars:=fun p hp=>by
 obtain ⟨f,hf,h⟩:=List.mem_flatMap.1 hp
 obtain ⟨k,hk,rfl⟩:=List.mem_map.1 h
 have hk:=List.mem_range.1 hk
 have:=bP_wd (hl f hf)
 exact ⟨by show 2 * _ % 2=0; omega,by show 2 * _ < _; omega⟩
end
def effX (vars:List Nat) (o:No):Eff:={
 E:=o.effs.length
 lab:=fun j=>match o.effs[j]? with | some x=>x.v | none=>0
 con:=fun j=>match o.effs[j]? with | some x=>litL vars x.cnd | none=>[]
 val:=fun j q=>match o.effs[j]? with | some x=>x.x.testBit (wd (vars.getD x.v 0) - 1 - (q - bP vars x.v)) | none=>false }
def btsX (vars:List Nat):Bts:=⟨bP vars,fun v=>bP vars (v+1)⟩
theorem bP_next {vars:List Nat} {v:Nat} (hv:v < vars.length):bP vars (v+1)=bP vars v+wd (vars.getD v 0):=bP_succ (by simp [List.getD,List.getElem?_eq_getElem hv])
theorem btsX_ok (vars:List Nat):BtsOk (btsX vars) (nBits vars) vars.length :=
 ⟨fun v hv=>⟨bP_mono (Nat.le_succ _),by have:=bP_mono (vars:=vars) (show v+1≤vars.length by omega); rw [bP_all] at this; exact this⟩,fun v u h1 h2=>bP_mono h1⟩
theorem la_no {X:Eff} {v:Nat} {a:Nat→Bool} {i:Nat} (hi:i < X.E) (hl:X.lab i=v) (hc:cubeB (X.con i) a=true):∃k,X.la v a=some k∧i≤k:=by
 have key:∀n,i < n→n≤X.E→∃k,X.laK v a n=some k∧i≤k:=fun n=>by
  induction n with
  | zero=>intro h; omega
  | succ n ih =>
   intro h h2
   unfold Eff.laK
   by_cases hh:X.lab n=v∧cubeB (X.con n) a=true
   ·rw [if_pos hh]; exact ⟨n,rfl,by omega⟩
   ·rw [if_neg hh]
    have:i≠n:=fun e=>by subst e; exact hh ⟨hl,hc⟩
    exact ih (by omega) (by omega)
 exact key X.E hi (Nat.le_refl _)
section
variable {T:Nt} {o:No} (h64:∀n ∈ T.vars,1≤n∧n≤64) (ho:NoG T.vars o)
include h64 ho
theorem effX_at {j:Nat} {x:Nf} (h:o.effs[j]? = some x):(effX T.vars o).lab j=x.v∧(effX T.vars o).con j=litL T.vars x.cnd∧∀q,(effX T.vars o).val j q=x.x.testBit (wd (T.vars.getD x.v 0) - 1 - (q - bP T.vars x.v)):=by
 unfold effX
 simp only [h]
 exact ⟨trivial,trivial,fun _=>trivial⟩
theorem effX_get {j:Nat} (hj:j < (effX T.vars o).E):∃x,o.effs[j]? = some x∧x ∈ o.effs:=by
 have hj:j < o.effs.length:=hj
 exact ⟨o.effs[j],List.getElem?_eq_getElem hj,List.getElem_mem hj⟩
theorem effX_ok:(effX T.vars o).Ok (nBits T.vars):=fun j hj p hp=>by
 obtain ⟨x,hx,hm⟩:=effX_get h64 ho hj
 rw [(effX_at h64 ho hx).2.1] at hp
 exact lit_even h64 (fun f hf=>((ho.cnd x hm).rng f hf).1) p hp
theorem effX_lab:∀j,j < (effX T.vars o).E→(effX T.vars o).lab j < T.vars.length:=fun j hj=>by
 obtain ⟨x,hx,hm⟩:=effX_get h64 ho hj
 rw [(effX_at h64 ho hx).1]
 exact (ho.eff x hm).1
theorem la_last {v:Nat} {a:Nat→Bool}:∀d j,j+d=o.effs.length→lastE o (rs T.vars a 0) v d j=(match (effX T.vars o).la v a with | some i=>if j≤i then (match o.effs[i]? with | some x=>some x.x | none=>none) else none | none=>none)
 | 0,j,h=>by
  cases hla:(effX T.vars o).la v a with
  | none=>rfl
  | some i =>
   have:i < o.effs.length:=((effX T.vars o).la_some.1 hla).1
   show none=if j≤i then _ else none
   rw [if_neg (by omega)]
 | d+1,j,h=>by
  have ih:=la_last (v:=v) (a:=a) d (j+1) (by omega)
  obtain ⟨x,hx,hm⟩:=effX_get h64 ho (j:=j) (by show j < o.effs.length; omega)
  obtain ⟨e1,e2,_⟩:=effX_at h64 ho hx
  have ec:cubeB ((effX T.vars o).con j) a=hdB (rs T.vars a 0) x.cnd:=by rw [e2]; exact cub_litL h64 (fun f hf=>(ho.cnd x hm).rng f hf) a
  rw [lastE_succ,ih,hx]
  cases hla:(effX T.vars o).la v a with
  | none =>
   have:¬(x.v=v∧hdB (rs T.vars a 0) x.cnd=true):=fun hh=>by
    obtain ⟨k,hk,_⟩:=la_no (X:=effX T.vars o) (v:=v) (a:=a) (i:=j) (by show j < o.effs.length; omega) (by rw [e1]; exact hh.1) (by rw [ec]; exact hh.2)
    rw [hla] at hk; cases hk
   simp only
   rw [if_neg this]
  | some i =>
   obtain ⟨l1,l2,l3,l4⟩:=(effX T.vars o).la_some.1 hla
   have l1:i < o.effs.length:=l1
   obtain ⟨y,hy⟩:∃y,o.effs[i]? = some y:=⟨_,List.getElem?_eq_getElem l1⟩
   simp only [hy]
   by_cases h1:j+1≤i
   ·have h3:j≤i:=by omega
    rw [if_pos h1,if_pos h3]
   ·rw [if_neg h1]
    by_cases h2:j=i
    ·subst h2
     rw [hx] at hy
     injection hy with hy
     subst hy
     rw [if_pos (Nat.le_refl _)]
     simp only
     rw [if_pos ⟨by rw [←e1]; exact l2,by rw [←ec]; exact l3⟩]
    ·have:¬(x.v=v∧hdB (rs T.vars a 0) x.cnd=true):=fun hh=>l4 j (by omega) (by show j < o.effs.length; omega) (by rw [e1]; exact hh.1) (by rw [ec]; exact hh.2)
     simp only
     rw [if_neg this,if_neg (by omega)]
theorem le_la {v j:Nat} (hj:j≤o.effs.length) (a:Nat→Bool):leB T.vars o v j a=true↔∀i,(effX T.vars o).la v a=some i→i < j:=by
 unfold leB lsE
 rw [la_last h64 ho _ _ (by omega)]
 cases hla:(effX T.vars o).la v a with
 | none=>simp
 | some i =>
  have l1:i < o.effs.length:=((effX T.vars o).la_some.1 hla).1
  obtain ⟨y,hy⟩:∃y,o.effs[i]? = some y:=⟨_,List.getElem?_eq_getElem l1⟩
  simp only [hy]
  by_cases h:j≤i
  ·rw [if_pos h]
   constructor
   ·intro hh; cases hh
   ·intro hh; have:=hh i rfl; omega
  ·rw [if_neg h]
   constructor
   ·intro _ k hk; injection hk with hk; omega
   ·intro _; rfl
theorem rv_sv {v i:Nat} {y:Nf} {a:Nat→Bool} (hy:o.effs[i]? = some y) (hv:y.v=v):rv T.vars a 1 v=y.x↔∀q,bP T.vars v≤q→q < bP T.vars (v+1)→a (2 * q+1)=(effX T.vars o).val i q:=by
 have hm:=List.mem_of_getElem? hy
 obtain ⟨h1,h2⟩:=ho.eff y hm
 subst hv
 rw [rv_bit h64 (val_wd h64 h1 h2),bP_next h1]
 have e3:=(effX_at h64 ho hy).2.2
 constructor
 ·intro h q q1 q2
  have:=h (q - bP T.vars y.v) (by omega)
  rw [show bP T.vars y.v+(q - bP T.vars y.v)=q by omega] at this
  rw [this,e3]
 ·intro h k hk
  have:=h (bP T.vars y.v+k) (by omega) (by omega)
  rw [this,e3,show bP T.vars y.v+k - bP T.vars y.v=k by omega]
theorem rv_same {v:Nat} (hv:v < T.vars.length) {a:Nat→Bool}:rv T.vars a 1 v=rv T.vars a 0 v↔∀q,bP T.vars v≤q→q < bP T.vars (v+1)→a (2 * q+1)=a (2 * q):=by
 have hx:=rv_lt T.vars a 0 v
 have h0:=(rv_bit h64 (nx:=0) (a:=a) hx).1 rfl
 rw [rv_bit h64 hx,bP_next hv]
 constructor
 ·intro h q q1 q2
  have h1:=h (q - bP T.vars v) (by omega)
  have h2:=h0 (q - bP T.vars v) (by omega)
  rw [show bP T.vars v+(q - bP T.vars v)=q by omega] at h1 h2
  rw [h1,←h2]
  rfl
 ·intro h k hk
  have h1:=h (bP T.vars v+k) (by omega) (by omega)
  rw [h1]
  exact h0 k hk
theorem ch_sv {v:Nat} (hv:v < T.vars.length) {a:Nat→Bool}:rv T.vars a 1 v=chgV o (rs T.vars a 0) v↔∀q,bP T.vars v≤q→q < bP T.vars (v+1)→a (2 * q+1)=(effX T.vars o).sv v q a:=by
 unfold chgV Eff.sv
 rw [la_last h64 ho _ _ (by omega)]
 cases hla:(effX T.vars o).la v a with
 | none =>
  simp only [Option.getD_none]
  rw [rs_at hv,rv_same h64 ho hv]
 | some i =>
  obtain ⟨l1,l2,_⟩:=(effX T.vars o).la_some.1 hla
  have l1:i < o.effs.length:=l1
  obtain ⟨y,hy⟩:∃y,o.effs[i]? = some y:=⟨_,List.getElem?_eq_getElem l1⟩
  simp only [hy,Nat.zero_le,if_true,Option.getD_some]
  rw [(effX_at h64 ho hy).1] at l2
  exact rv_sv h64 ho hy l2
theorem vf_of {v:Nat} {M:Option Nat→Prop} (hM:MV (effX T.vars o) v M) {G:BFn} (h:∀a,G a=true↔M ((effX T.vars o).la v a)∧∀q,bP T.vars v≤q→q < bP T.vars (v+1)→a (2 * q+1)=(effX T.vars o).sv v q a):FV (effX T.vars o) (btsX T.vars) v G:=⟨M,hM,h⟩
end
def sbX (T:Nt) (o:No) (q:Nat) (a:Nat→Bool):Bool:=(List.range T.vars.length).any fun v=>decide (bP T.vars v≤q) && decide (q < bP T.vars (v+1)) && (effX T.vars o).sv v q a
def SaZ (vars:List Nat) (G:BFn):Prop:=∃v,v < vars.length∧(SaS vars v G∨G=saB vars v 0)
def CuZ (vars:List Nat) (l:List Go.Tk.Fc) (G:BFn):Prop:=(∃j,j < l.length∧G=fcB vars l j)∨G=fun a=>!hdB (rs vars a 0) l
def ValZ (vars:List Nat) (G:BFn):Prop:=∃v,v < vars.length∧∃x,x < vars.getD v 0∧∃nx,nx < 2∧VlS vars v x nx G
section
variable {T:Nt} {o:No} (h64:∀n ∈ T.vars,1≤n∧n≤64) (ho:NoG T.vars o)
include h64 ho
theorem sbX_at {v q:Nat} (hv:v < T.vars.length) (h1:bP T.vars v≤q) (h2:q < bP T.vars (v+1)) (a:Nat→Bool):sbX T o q a=(effX T.vars o).sv v q a:=by
 unfold sbX
 rw [Bool.eq_iff_iff,List.any_eq_true]
 constructor
 ·rintro ⟨u,hu,h⟩
  simp only [Bool.and_eq_true,decide_eq_true_eq] at h
  have:u=v:=by
   rcases Nat.lt_trichotomy u v with hh | hh | hh
   ·have:=bP_mono (vars:=T.vars) (show u+1≤v by omega); omega
   ·exact hh
   ·have:=bP_mono (vars:=T.vars) (show v+1≤u by omega); omega
  rw [←this]
  exact h.2
 ·intro h
  exact ⟨v,List.mem_range.2 hv,by simp [h1,h2,h]⟩
theorem sbX_ev:EvD (nBits T.vars) (sbX T o):=fun q hq a c h=>by
 rw [←bP_all] at hq
 obtain ⟨v,k,hv,hk,rfl⟩:=bP_split T.vars.length (Nat.le_refl _) q hq
 have:=bP_next hv
 rw [sbX_at h64 ho hv (by omega) (by omega),sbX_at h64 ho hv (by omega) (by omega)]
 rw [bP_all] at hq
 exact sv_ev (effX_ok h64 ho) hq h
theorem rlB_rlF (j:Nat) (hj:j < T.vars.length):rlB T o j=rlF (nBits T.vars) (sbX T o) (bP T.vars j):=funext fun a=>by
 rw [Bool.eq_iff_iff,rlB_iff,rlF_iff]
 constructor
 ·intro h q h1 h2
  rw [←bP_all] at h2
  obtain ⟨v,k,hv,hk,rfl⟩:=bP_split T.vars.length (Nat.le_refl _) q h2
  have hn:=bP_next hv
  have hjv:j≤v:=Nat.le_of_not_lt fun hlt=>by
   have:=bP_mono (vars:=T.vars) (show v+1≤j by omega)
   omega
  rw [sbX_at h64 ho hv (by omega) (by omega)]
  exact (ch_sv h64 ho hv).1 (h v hv hjv) _ (by omega) (by omega)
 ·intro h v hv hjv
  refine (ch_sv h64 ho hv).2 fun q q1 q2=>?_
  rw [←sbX_at h64 ho hv q1 q2]
  have h1:=bP_mono (vars:=T.vars) hjv
  have h2:=bP_mono (vars:=T.vars) (show v+1≤T.vars.length by omega)
  rw [bP_all] at h2
  exact h q (by omega) (by omega)
theorem rel2_in {G:BFn} (h:RelS2 T o G):SaZ T.vars G∨ValZ T.vars G∨(CuZ T.vars o.pre G∨∃x ∈ o.effs,CuZ T.vars x.cnd G)∨(FX (effX T.vars o) (btsX T.vars) G∨∃v,v < T.vars.length∧0 < (effX T.vars o).cnt v 0∧FV (effX T.vars o) (btsX T.vars) v G) ∨
  (∃j,j < T.vars.length∧G=rlF (nBits T.vars) (sbX T o) (bP T.vars j))∨G=fun a=>cubeB (litL T.vars o.pre) a && rlF (nBits T.vars) (sbX T o) 0 a:=by
 have fac:∀l,FcOk T.vars l→∀G,FacS T.vars l G→ValZ T.vars G∨CuZ T.vars l G:=fun l hl G hG=>by
  rcases hG with ⟨i,hi,hv⟩ | ⟨j,hj,rfl⟩
  ·have hm:l.getD i (0,0) ∈ l:=by simp [List.getD,List.getElem?_eq_getElem hi]
   obtain ⟨h1,h2⟩:=hl.rng _ hm
   exact .inl ⟨_,h1,_,h2,0,by omega,hv⟩
  ·exact .inr (.inl ⟨j,hj,rfl⟩)
 rcases h with ⟨v,hv,h⟩ | ⟨j,hj,rfl⟩ | h | rfl
 ·have nolab:¬0 < (effX T.vars o).cnt v 0→∀a,(effX T.vars o).la v a=none:=fun hn a=>by
   cases hla:(effX T.vars o).la v a with
   | none=>rfl
   | some i =>
    obtain ⟨l1,l2,_⟩:=(effX T.vars o).la_some.1 hla
    exact absurd ((cnt_pos (effX T.vars o)).2 ⟨i,l1,l2⟩) hn
  have sa0:∀a,saB T.vars v 0 a=true↔∀q,bP T.vars v≤q→q < bP T.vars (v+1)→a (2 * q+1)=a (2 * q):=fun a=>by
   unfold saB
   rw [List.all_eq_true,bP_next hv]
   constructor
   ·intro h q q1 q2
    have:=h (q - bP T.vars v) (List.mem_range.2 (by omega))
    rw [decide_eq_true_iff,show bP T.vars v+(0+(q - bP T.vars v))=q by omega] at this
    exact this.symm
   ·intro h k hk
    have hk:=List.mem_range.1 hk
    rw [decide_eq_true_iff]
    have:=h (bP T.vars v+(0+k)) (by omega) (by omega)
    exact this.symm
  rcases h with h | rfl | rfl | ⟨j,hj,x,hx,hxv,h⟩
  ·exact .inl ⟨v,hv,.inl h⟩
  ·by_cases hc:0 < (effX T.vars o).cnt v 0
   ·refine .inr (.inr (.inr (.inl (.inr ⟨v,hv,hc,vf_of h64 ho (.inr (.inl rfl)) fun a=>?_⟩))))
    rw [Bool.and_eq_true,decide_eq_true_iff,le_la h64 ho (Nat.zero_le _)]
    have e0:(∀i,(effX T.vars o).la v a=some i→i < 0)↔(effX T.vars o).la v a=none:=by
     constructor
     ·intro h
      cases hla:(effX T.vars o).la v a with
      | none=>rfl
      | some i=>have:=h i hla; omega
     ·intro h i hi; rw [h] at hi; cases hi
    rw [e0]
    refine and_congr_right fun hla=>?_
    rw [eq_comm,rv_same h64 ho hv]
    unfold Eff.sv
    rw [hla]
   ·refine .inl ⟨v,hv,.inr (funext fun a=>?_)⟩
    rw [Bool.eq_iff_iff,sa0,Bool.and_eq_true,decide_eq_true_iff,le_la h64 ho (Nat.zero_le _),eq_comm,rv_same h64 ho hv]
    exact ⟨fun h=>h.2,fun h=>⟨fun i hi=>(by rw [nolab hc a] at hi; cases hi),h⟩⟩
  ·by_cases hc:0 < (effX T.vars o).cnt v 0
   ·refine .inr (.inr (.inr (.inl (.inr ⟨v,hv,hc,vf_of h64 ho (.inr (.inr rfl)) fun a=>?_⟩))))
    rw [decide_eq_true_iff,ch_sv h64 ho hv]
    exact ⟨fun h=>⟨trivial,h⟩,fun h=>h.2⟩
   ·refine .inl ⟨v,hv,.inr (funext fun a=>?_)⟩
    rw [Bool.eq_iff_iff,sa0,decide_eq_true_iff,ch_sv h64 ho hv]
    unfold Eff.sv
    rw [nolab hc a]
  ·have hm:=List.mem_of_getElem? hx
   obtain ⟨e1,e2,_⟩:=effX_at h64 ho hx
   have hlab:(effX T.vars o).lab j=v:=by rw [e1,hxv]
   have hjE:j < (effX T.vars o).E:=hj
   have hc:0 < (effX T.vars o).cnt v 0:=(cnt_pos _).2 ⟨j,hjE,hlab⟩
   -- the effect is the last one
   have last:∀a,(leB T.vars o v (j+1) a && hdB (rs T.vars a 0) x.cnd)=true↔(effX T.vars o).la v a=some j:=fun a=>by
    rw [Bool.and_eq_true,le_la h64 ho (by omega),←cub_litL h64 (fun f hf=>(ho.cnd x hm).rng f hf) a,←e2]
    constructor
    ·rintro ⟨h1,h2⟩
     obtain ⟨k,hk,hjk⟩:=la_no hjE hlab h2
     have:=h1 k hk
     have:k=j:=by omega
     rw [hk,this]
    ·intro h
     obtain ⟨_,_,l3,_⟩:=(effX T.vars o).la_some.1 h
     exact ⟨fun i hi=>by rw [h] at hi; injection hi with hi; omega,l3⟩
   rcases h with h | h | rfl | rfl | rfl | rfl | rfl
   ·rcases fac _ (ho.cnd x hm) G h with h | h
    ·exact .inr (.inl h)
    ·exact .inr (.inr (.inl (.inr ⟨x,hm,h⟩)))
   ·refine .inr (.inl ⟨v,hv,x.x,?_,1,by omega,h⟩)
    have:=(ho.eff x hm).2
    rwa [hxv] at this
   ·refine .inr (.inr (.inr (.inl (.inl ⟨j,hjE,.inl fun a=>?_⟩))))
    rw [hlab]
    exact last a
   ·refine .inr (.inr (.inr (.inl (.inr ⟨v,hv,hc,vf_of h64 ho (.inl ⟨j,hjE,hlab,.inl rfl⟩) fun a=>?_⟩))))
    show ((leB T.vars o v (j+1) a && hdB (rs T.vars a 0) x.cnd) && decide (rv T.vars a 1 v=x.x))=true↔_
    rw [Bool.and_eq_true,last a,decide_eq_true_iff,rv_sv h64 ho hx hxv]
    refine and_congr_right fun hla=>?_
    unfold Eff.sv
    rw [hla]
   ·refine .inr (.inr (.inr (.inl (.inr ⟨v,hv,hc,vf_of h64 ho (.inl ⟨j,hjE,hlab,.inr rfl⟩) fun a=>?_⟩))))
    unfold ouB lsE
    rw [la_last h64 ho _ _ (by omega)]
    cases hla:(effX T.vars o).la v a with
    | none =>
     constructor
     ·intro h; cases h
     ·rintro ⟨⟨i,h,_⟩,_⟩; cases h
    | some i =>
     obtain ⟨l1,l2,_⟩:=(effX T.vars o).la_some.1 hla
     have l1:i < o.effs.length:=l1
     obtain ⟨y,hy⟩:∃y,o.effs[i]? = some y:=⟨_,List.getElem?_eq_getElem l1⟩
     rw [(effX_at h64 ho hy).1] at l2
     simp only [hy]
     by_cases hji:j≤i
     ·rw [if_pos hji]
      show decide (rv T.vars a 1 v=y.x)=true↔_
      rw [decide_eq_true_iff,rv_sv h64 ho hy l2]
      unfold Eff.sv
      rw [hla]
      exact ⟨fun h=>⟨⟨i,rfl,hji⟩,h⟩,fun h=>h.2⟩
     ·rw [if_neg hji]
      constructor
      ·intro h; cases h
      ·rintro ⟨⟨k,hk,hk2⟩,_⟩
       injection hk with hk
       omega
   ·exact .inr (.inr (.inl (.inr ⟨x,hm,.inr rfl⟩)))
   ·refine .inr (.inr (.inr (.inl (.inl ⟨j,hjE,.inr (.inl fun a=>?_)⟩))))
    rw [hlab]
    exact le_la h64 ho (by omega) a
 ·exact .inr (.inr (.inr (.inr (.inl ⟨j,hj,rlB_rlF h64 ho j hj⟩))))
 ·rcases fac _ ho.pre G h with h | h
  ·exact .inr (.inl h)
  ·exact .inr (.inr (.inl (.inl h)))
 ·refine .inr (.inr (.inr (.inr (.inr (funext fun a=>?_)))))
  show (hdB (rs T.vars a 0) o.pre && rlB T o 0 a)=_
  rw [cub_litL h64 (fun f hf=>ho.pre.rng f hf)]
  congr 1
  rw [Bool.eq_iff_iff,rlB_iff,rlF_iff]
  constructor
  ·intro h q h1 h2
   rw [←bP_all] at h2
   obtain ⟨v,k,hv,hk,rfl⟩:=bP_split T.vars.length (Nat.le_refl _) q h2
   have hn:=bP_next hv
   rw [sbX_at h64 ho hv (by omega) (by omega)]
   exact (ch_sv h64 ho hv).1 (h v hv (Nat.zero_le _)) _ (by omega) (by omega)
  ·intro h v hv _
   refine (ch_sv h64 ho hv).2 fun q q1 q2=>?_
   rw [←sbX_at h64 ho hv q1 q2]
   have h2:=bP_mono (vars:=T.vars) (show v+1≤T.vars.length by omega)
   rw [bP_all] at h2
   exact h q (Nat.zero_le _) (by omega)
end
end Go.Proofs.YtcoeknnghfajnaaGreat
end
section
namespace Go.Sy
open Go.Bd
theorem sup_sum {g:Nat→Nat} (o:Nat→Nat) {N:Nat} (hg:∀x y,x+y≤N→g x+g y≤g (x+y)+g 0):∀V,sm V o≤N→sm V (fun v=>g (o v))≤g (sm V o)+V * g 0
 | 0,_=>by rw [sm_zero,sm_zero]; omega
 | V+1,h=>by
  rw [sm_succ] at h
  have ih:=sup_sum o hg V (by omega)
  have h1:=hg (sm V o) (o V) h
  rw [sm_succ,sm_succ,Nat.succ_mul]
  omega
theorem sup_pow (e:Nat):∀x y,2 ^ (e+x)+2 ^ (e+y)≤2 ^ (e+(x+y))+2 ^ (e+0):=fun x y=>by
 have e1:2 ^ (e+(x+y))=2 ^ e * (2 ^ x * 2 ^ y):=by rw [Nat.pow_add,Nat.pow_add]
 rw [e1,Nat.pow_add,Nat.pow_add,Nat.add_zero,←Nat.mul_add]
 have h1:1≤2 ^ x:=Nat.one_le_two_pow
 have h2:1≤2 ^ y:=Nat.one_le_two_pow
 obtain ⟨p,hp⟩:∃p,2 ^ x=p+1:=⟨2 ^ x - 1,by omega⟩
 obtain ⟨q,hq⟩:∃q,2 ^ y=q+1:=⟨2 ^ y - 1,by omega⟩
 rw [hp,hq]
 have:p+1+(q+1)≤(p+1) * (q+1)+1:=by rw [Nat.mul_add,Nat.add_mul]; omega
 have h3:2 ^ e * (p+1+(q+1))≤2 ^ e * ((p+1) * (q+1)+1):=Nat.mul_le_mul_left _ this
 rw [Nat.mul_add (2 ^ e) ((p+1) * (q+1)) 1,Nat.mul_one] at h3
 exact h3
theorem sup_det:∀e,e≤2→∀x y,x+y≤3→(2 ^ x+1) ^ 2 ^ e+(2 ^ y+1) ^ 2 ^ e≤(2 ^ (x+y)+1) ^ 2 ^ e+(2 ^ 0+1) ^ 2 ^ e:=fun e he x y h=>by
 have key:∀e,e < 3→∀x,x < 4→∀y,y < 4→x+y≤3→(2 ^ x+1) ^ 2 ^ e+(2 ^ y+1) ^ 2 ^ e≤(2 ^ (x+y)+1) ^ 2 ^ e+(2 ^ 0+1) ^ 2 ^ e:=by decide
 exact key e (by omega) x (by omega) y (by omega) h
theorem flt_ev {b t:Nat}:((List.range (2 * b)).filter fun i=>decide (t≤i) && decide (i % 2=0)).length=b - (t+1) / 2:=by
 rw [len_filt]
 induction b with
 | zero=>simp [sm]
 | succ b ih =>
  rw [show 2 * (b+1)=2 * b+1+1 by omega,sm_succ,sm_succ,ih]
  have h1:¬(decide (t≤2 * b+1) && decide ((2 * b+1) % 2=0))=true:=by
   rw [decide_eq_false (show ¬(2 * b+1) % 2=0 by omega)]; simp
  rw [if_neg h1]
  by_cases h:t≤2 * b
  ·rw [if_pos (by simp [h])]; omega
  ·rw [if_neg (by simp [h])]; omega
theorem flt_od {b t:Nat}:((List.range (2 * b)).filter fun i=>decide (t≤i) && decide (i % 2=1)).length=b - t / 2:=by
 rw [len_filt]
 induction b with
 | zero=>simp [sm]
 | succ b ih =>
  rw [show 2 * (b+1)=2 * b+1+1 by omega,sm_succ,sm_succ,ih]
  have h1:¬(decide (t≤2 * b) && decide (2 * b % 2=1))=true:=by
   rw [decide_eq_false (show ¬2 * b % 2=1 by omega)]; simp
  rw [if_neg h1]
  by_cases h:t≤2 * b+1
  ·rw [if_pos (by simp [h])]; omega
  ·rw [if_neg (by simp [h])]; omega
def oV (Y:Bts) (b v t:Nat):Nat:=((List.range (2 * b)).filter fun i=>decide (t≤i) && decide (i % 2=1) && (decide (Y.sB v≤i / 2) && decide (i / 2 < Y.eB v))).length
theorem cntF_V {Y:Bts} {b v t:Nat}:cntF (relVr Y v) (2 * b) t=(b - (t+1) / 2)+oV Y b v t:=by
 unfold cntF oV
 rw [←flt_ev (b:=b) (t:=t),len_filt,len_filt,len_filt,←sm_add]
 refine sm_congr fun i _=>?_
 unfold relVr
 rcases Nat.mod_two_eq_zero_or_one i with h | h
 ·simp [h]
 ·simp [h]
theorem cntP_V {Y:Bts} {b v t:Nat}:cntP (relVr Y v) (2 * b) t 0=b - (t+1) / 2∧cntP (relVr Y v) (2 * b) t 1=oV Y b v t:=by
 constructor
 ·unfold cntP
  rw [←flt_ev (b:=b) (t:=t)]
  congr 1
  refine List.filter_congr fun i _=>?_
  unfold relVr
  rcases Nat.mod_two_eq_zero_or_one i with h | h <;> simp [h]
 ·unfold cntP oV
  congr 1
  refine List.filter_congr fun i _=>?_
  unfold relVr
  rcases Nat.mod_two_eq_zero_or_one i with h | h <;> simp [h]
theorem oV_sum {Y:Bts} {b V t:Nat} (hY:BtsOk Y b V):sm V (fun v=>oV Y b v t)≤b - t / 2:=by
 rw [←flt_od (b:=b) (t:=t),len_filt]
 have e:∀v,v < V→oV Y b v t=sm (2 * b) fun i=>if (decide (t≤i) && decide (i % 2=1) && (decide (Y.sB v≤i / 2) && decide (i / 2 < Y.eB v)))=true then 1 else 0:=fun v _=>len_filt _ _
 rw [sm_congr e,sm_swap]
 refine sm_le fun i _=>?_
 by_cases h:(decide (t≤i) && decide (i % 2=1))=true
 ·rw [if_pos h]
  by_cases hv:∃v,v < V∧Y.sB v≤i / 2∧i / 2 < Y.eB v
  ·obtain ⟨v,v1,v2,v3⟩:=hv
   refine Nat.le_trans (sm_le (g:=fun u=>if u=v then 1 else 0) fun u hu=>?_) (Nat.le_of_eq (sm_one v1))
   by_cases e:u=v
   ·rw [if_pos e]; split <;> omega
   ·rw [if_neg e,if_neg]
    ·exact Nat.le_refl _
    ·intro hh
     simp only [Bool.and_eq_true,decide_eq_true_eq] at hh
     rcases Nat.lt_trichotomy u v with h | h | h
     ·have:=hY.ord u v h v1; omega
     ·exact e h
     ·have:=hY.ord v u h hu; omega
  ·refine Nat.le_trans (Nat.le_of_eq ((sm_congr (g:=fun _=>0) fun u hu=>?_).trans (by rw [sm_const]; omega))) (Nat.zero_le _)
   rw [if_neg]
   intro hh
   simp only [Bool.and_eq_true,decide_eq_true_eq] at hh
   exact hv ⟨u,hu,hh.2⟩
 ·rw [if_neg h]
  refine Nat.le_of_eq ((sm_congr (g:=fun _=>0) fun u hu=>?_).trans (by rw [sm_const]; omega))
  rw [if_neg]
  intro hh
  rw [Bool.and_eq_true] at hh
  exact h hh.1
def zV (b t0 t1 V:Nat):Nat:=sm (2 * b) (fun t=>(if t0≤t then 2 ^ ((b - (t+1) / 2)+(b - t / 2))+V * 2 ^ (b - (t+1) / 2) else 0)+if t1≤t then (2 ^ (b - t / 2)+1) ^ 2 ^ (b - (t+1) / 2)+V * 2 ^ 2 ^ (b - (t+1) / 2) else 0)
theorem cov_zV {Y:Bts} {b V t0 t1:Nat} (hY:BtsOk Y b V) (h1:∀t,t1≤t→b - (t+1) / 2≤2∧b - t / 2≤3):CovW (2 * b) (fun G=>∃v,v < V∧(PtS (relVr Y v) (2 * b) t0 G∨DetS (relVr Y v) (2 * b) t1 G)) (zV b t0 t1 V):=by
 refine (CovW.sum (n:=2 * b) (fun v G=>PtS (relVr Y v) (2 * b) t0 G∨DetS (relVr Y v) (2 * b) t1 G) _ V fun v _=>(cov_pt (relVr Y v) (2 * b) t0).or (cov_det2 (relVr Y v) (2 * b) t1)).mono (fun _ h=>h) ?_
 have e:((List.range V).map fun v=>((List.range (2 * b)).map fun t=>if t0≤t∧relVr Y v t=true then 2 ^ cntF (relVr Y v) (2 * b) t else 0).sum+detN (relVr Y v) (2 * b) t1).sum≤sm V fun v=>sm (2 * b) fun t=>(if t0≤t then 2 ^ ((b - (t+1) / 2)+oV Y b v t) else 0)+if t1≤t then (2 ^ oV Y b v t+1) ^ 2 ^ (b - (t+1) / 2) else 0:=by
  refine sm_le fun v _=>?_
  rw [sm_add]
  refine Nat.add_le_add (sm_le fun t _=>?_) (sm_le fun t _=>?_)
  ·rw [cntF_V]
   by_cases h:t0≤t
   ·rw [if_pos h]
    split
    ·exact Nat.le_refl _
    ·exact Nat.zero_le _
   ·rw [if_neg h,if_neg fun hh=>h hh.1]; exact Nat.le_refl _
  ·rw [cntP_V.1,cntP_V.2]; exact Nat.le_refl _
 refine Nat.le_trans e ?_
 unfold zV
 rw [sm_swap]
 refine sm_le fun t _=>?_
 rw [sm_add]
 have ho:=oV_sum (t:=t) hY
 refine Nat.add_le_add ?_ ?_
 ·by_cases h:t0≤t
  ·rw [if_pos h,sm_congr (g:=fun v=>2 ^ ((b - (t+1) / 2)+oV Y b v t)) fun v _=>if_pos h]
   have:=sup_sum (g:=fun x=>2 ^ ((b - (t+1) / 2)+x)) (fun v=>oV Y b v t) (N:=b - t / 2) (fun x y _=>sup_pow _ x y) V ho
   have h2:2 ^ ((b - (t+1) / 2)+sm V fun v=>oV Y b v t)≤2 ^ ((b - (t+1) / 2)+(b - t / 2)):=Nat.pow_le_pow_right (by omega) (by omega)
   exact Nat.le_trans this (Nat.add_le_add h2 (Nat.le_refl _))
  ·rw [if_neg h,sm_congr (g:=fun _=>0) fun v _=>if_neg h,sm_const]; omega
 ·by_cases h:t1≤t
  ·rw [if_pos h,sm_congr (g:=fun v=>(2 ^ oV Y b v t+1) ^ 2 ^ (b - (t+1) / 2)) fun v _=>if_pos h]
   obtain ⟨h3,h4⟩:=h1 t h
   have:=sup_sum (g:=fun x=>(2 ^ x+1) ^ 2 ^ (b - (t+1) / 2)) (fun v=>oV Y b v t) (N:=3) (fun x y hxy=>sup_det _ h3 x y hxy) V (by omega)
   have h2:(2 ^ (sm V fun v=>oV Y b v t)+1) ^ 2 ^ (b - (t+1) / 2)≤(2 ^ (b - t / 2)+1) ^ 2 ^ (b - (t+1) / 2):=Nat.pow_le_pow_left (by have:=Nat.pow_le_pow_right (show 0 < 2 by omega) ho; omega) _
   exact Nat.le_trans this (Nat.add_le_add h2 (Nat.le_refl _))
  ·rw [if_neg h,sm_congr (g:=fun _=>0) fun v _=>if_neg h,sm_const]; omega
end Go.Sy
namespace Go.Proofs.YtcoeknnghfajnaaGreat
open Go Go.W Go.Tk Go.Rx Go.Bd Go.Sy Go.Maps
def tA (b:Nat):Nat:=2 * b - 11
def tB (b:Nat):Nat:=2 * b - 5
def ShZ (vars:List Nat) (K:BFn):Prop:=ShS (nBits vars) K∨(PtS allR (2 * nBits vars) (tA (nBits vars)) K∨DetS allR (2 * nBits vars) (tB (nBits vars)) K) ∨
 (∃v,v < vars.length∧(PtS (relVr (btsX vars) v) (2 * nBits vars) (tA (nBits vars)) K∨DetS (relVr (btsX vars) v) (2 * nBits vars) (tB (nBits vars)) K)) ∨
 (DetS (relF (nBits vars - 1)) (2 * nBits vars) (tB (nBits vars)) K∨DetS (relF (nBits vars - 2)) (2 * nBits vars) (tB (nBits vars)) K)∨(PtS (parR 0) (2 * nBits vars) 0 K∨PtS (parR 1) (2 * nBits vars) 0 K)
def ptN2 (rel:Nat→Bool) (n t0:Nat):Nat:=((List.range n).map fun t=>if t0≤t∧rel t=true then 2 ^ cntF rel n t else 0).sum
def shN (b V:Nat):Nat:=512+((ptN2 allR (2 * b) (tA b)+detN allR (2 * b) (tB b))+(zV b (tA b) (tB b) V+((detN (relF (b - 1)) (2 * b) (tB b)+detN (relF (b - 2)) (2 * b) (tB b))+(ptN2 (parR 0) (2 * b) 0+ptN2 (parR 1) (2 * b) 0))))
theorem cov_shZ (vars:List Nat):CovW (2 * nBits vars) (ShZ vars) (shN (nBits vars) vars.length) :=
 (cov_sh _ _).or (((cov_pt _ _ _).or (cov_det2 _ _ _)).or ((cov_zV (t0:=tA (nBits vars)) (t1:=tB (nBits vars)) (btsX_ok vars) fun t ht=>by unfold tB at ht; omega).or (((cov_det2 _ _ _).or (cov_det2 _ _ _)).or ((cov_pt _ _ _).or (cov_pt _ _ _)))))
section
variable {vars:List Nat}
theorem shZ_s0 {nx:Nat} (hn:nx < 2) {K:BFn} (h:∀a c:Nat→Bool,(∀p,nBits vars - 3≤p→p < nBits vars→a (2 * p+nx)=c (2 * p+nx))→K a=K c):ShZ vars K:=.inl ⟨nx,hn,h⟩
theorem shZ_pa {K:BFn} (h:PtS allR (2 * nBits vars) (tA (nBits vars)) K):ShZ vars K:=.inr (.inl (.inl h))
theorem shZ_da {K:BFn} (h:DetS allR (2 * nBits vars) (tB (nBits vars)) K):ShZ vars K:=.inr (.inl (.inr h))
theorem shZ_pv {v:Nat} {K:BFn} (hv:v < vars.length) (h:PtS (relVr (btsX vars) v) (2 * nBits vars) (tA (nBits vars)) K):ShZ vars K:=.inr (.inr (.inl ⟨v,hv,.inl h⟩))
theorem shZ_dv {v:Nat} {K:BFn} (hv:v < vars.length) (h:DetS (relVr (btsX vars) v) (2 * nBits vars) (tB (nBits vars)) K):ShZ vars K:=.inr (.inr (.inl ⟨v,hv,.inr h⟩))
theorem shZ_df {f:Nat} {K:BFn} (h1:tB (nBits vars) / 2 < f) (h2:f < nBits vars) (h:DetS (relF f) (2 * nBits vars) (tB (nBits vars)) K):ShZ vars K:=by
 unfold tB at h1
 rcases (show f=nBits vars - 1∨f=nBits vars - 2 by omega) with rfl | rfl
 ·exact .inr (.inr (.inr (.inl (.inl h))))
 ·exact .inr (.inr (.inr (.inl (.inr h))))
theorem shZ_pp {x:Nat} {K:BFn} (hx:x < 2) (h:PtS (parR x) (2 * nBits vars) 0 K):ShZ vars K:=by
 rcases (show x=0∨x=1 by omega) with rfl | rfl
 ·exact .inr (.inr (.inr (.inr (.inl h))))
 ·exact .inr (.inr (.inr (.inr (.inr h))))
end
theorem cov_cu {vars:List Nat} (h64:∀n ∈ vars,1≤n∧n≤64) {l:List Go.Tk.Fc} (hl:FcOk vars l):CovW (2 * nBits vars) (CuZ vars l) (2 * nBits vars):=by
 have hfc:∀j a,fcB vars l j a=cubeB (litL vars (l.drop j)) a:=fun j a=>by
  have h:∀f ∈ l.drop j,f.1 < vars.length∧f.2 < vars.getD f.1 0:=fun f hf=>hl.rng f (List.mem_of_mem_drop hf)
  have e:∀{l:List Go.Tk.Fc},(∀f ∈ l,f.1 < vars.length∧f.2 < vars.getD f.1 0)→(l.all fun f=>decide (rv vars a 0 f.1=f.2))=cubeB (litL vars l) a:=fun {l}=>by
   induction l with
   | nil=>exact fun _=>rfl
   | cons f l ih =>
    intro h
    have e:cubeB (litL vars (f :: l)) a=(cubeB (litF vars f) a && cubeB (litL vars l) a):=by
     unfold litL cubeB
     rw [List.flatMap_cons,List.all_append]
    rw [List.all_cons,ih fun g hg=>h g (by simp [hg]),e,cub_litF h64 (h f (by simp))]
  exact e h
 let C:Nat→BFn:=fun q=>cubeB ((litL vars l).filter fun p=>decide (2 * q≤p.1))
 refine ⟨((List.range (nBits vars)).map C) ++ (List.range (nBits vars)).map fun q=>fun a=>!C q a,by rw [List.length_append,List.length_map,List.length_map,List.length_range]; omega,?_⟩
 -- a part of a cube that depends on the next variable
 have key:∀j t a,t < 2 * nBits vars→Dep (fun c=>cubeB (litL vars (l.drop j)) (pfx a t c)) t→∃q,q < nBits vars∧(fun c=>cubeB (litL vars (l.drop j)) (pfx a t c))=C q:=fun j t a ht hd=>by
  obtain ⟨x,hx⟩:=dep_true hd
  have hA:cubA (litL vars (l.drop j)) t a=true:=by
   have:(cubA (litL vars (l.drop j)) t a && _)=true:=(cub_split _ t a x).symm.trans hx
   rw [Bool.and_eq_true] at this
   exact this.1
  have e1:∀c,cubeB (litL vars (l.drop j)) (pfx a t c)=cubeB ((litL vars (l.drop j)).filter fun p=>decide (t≤p.1)) c:=fun c=>by rw [cub_split,hA,Bool.true_and]
  -- the variable is one of its literals
  have hlit:∃p ∈ litL vars (l.drop j),p.1=t:=Classical.byContradiction fun hn=>by
   obtain ⟨y,hy⟩:=hd
   apply hy
   show cubeB _ (pfx a t (upd y t true))=cubeB _ (pfx a t (upd y t false))
   rw [e1,e1,Bool.eq_iff_iff]
   unfold cubeB
   rw [List.all_eq_true,List.all_eq_true]
   have e:∀p ∈ (litL vars (l.drop j)).filter fun p=>decide (t≤p.1),upd y t true p.1=upd y t false p.1:=fun p hp=>by
    have:p.1≠t:=fun e=>hn ⟨p,(List.mem_filter.1 hp).1,e⟩
    rw [upd_ne this,upd_ne this]
   exact ⟨fun h p hp=>by rw [←e p hp]; exact h p hp,fun h p hp=>by rw [e p hp]; exact h p hp⟩
  obtain ⟨p,hp,rfl⟩:=hlit
  obtain ⟨f,hf,hpf⟩:=List.mem_flatMap.1 hp
  obtain ⟨k,hk,rfl⟩:=List.mem_map.1 hpf
  have hk:=List.mem_range.1 hk
  refine ⟨bP vars f.1+k,by show _; have:2 * (bP vars f.1+k) < 2 * nBits vars:=ht; omega,funext fun c=>?_⟩
  rw [e1]
  show cubeB _ c=cubeB ((litL vars l).filter fun p=>decide (2 * (bP vars f.1+k)≤p.1)) c
  congr 1
  have es:litL vars l=litL vars (l.take j) ++ litL vars (l.drop j):=by
   unfold litL
   rw [←List.flatMap_append,List.take_append_drop]
  rw [es,List.filter_append]
  have:(litL vars (l.take j)).filter (fun p=>decide (2 * (bP vars f.1+k)≤p.1))=[]:=by
   rw [List.filter_eq_nil_iff]
   intro r hr
   obtain ⟨g,hg,hrg⟩:=List.mem_flatMap.1 hr
   obtain ⟨k',hk',rfl⟩:=List.mem_map.1 hrg
   have hk':=List.mem_range.1 hk'
   have hgf:g.1 < f.1:=by
    have h1:=hl.asc
    rw [←List.take_append_drop j l,List.pairwise_append] at h1
    exact h1.2.2 g hg f hf
   have h2:=bP_next (hl.rng g (List.mem_of_mem_take hg)).1
   have h3:=bP_mono (vars:=vars) (show g.1+1≤f.1 by omega)
   simp only [decide_eq_true_eq]
   omega
  rw [this,List.nil_append]
 rintro G hG t a ht hd
 rcases hG with ⟨j,hj,rfl⟩ | rfl
 ·have e:fcB vars l j=cubeB (litL vars (l.drop j)):=funext (hfc j)
  rw [e] at hd ⊢
  obtain ⟨q,hq,h⟩:=key j t a ht hd
  rw [h]
  exact List.mem_append_left _ (List.mem_map.2 ⟨q,List.mem_range.2 hq,rfl⟩)
 ·have e:(fun a=>!hdB (rs vars a 0) l)=fun a=>!cubeB (litL vars (l.drop 0)) a:=funext fun a=>by rw [List.drop_zero,cub_litL h64 hl.rng]
  rw [e] at hd ⊢
  have hd2:Dep (fun c=>cubeB (litL vars (l.drop 0)) (pfx a t c)) t:=by
   obtain ⟨y,hy⟩:=hd
   exact ⟨y,fun h=>hy (by show (!_)=(!_); exact congrArg (fun x=>!x) h)⟩
  obtain ⟨q,hq,h⟩:=key 0 t a ht hd2
  have h':(fun c=>!cubeB (litL vars (l.drop 0)) (pfx a t c))=fun c=>!C q c:=funext fun c=>congrArg (fun x=>!x) (congrFun h c)
  rw [h']
  exact List.mem_append_right _ (List.mem_map.2 ⟨q,List.mem_range.2 hq,rfl⟩)
def relZ (b:Nat) (p:Bool):Nat:=((List.range (2 * b)).map (rlM b (tA b) (tB b))).sum+(((List.range (2 * b)).map (opM b (tA b) (tB b))).sum+(18 * b+if p=true then ptZ (2 * b) (tA b) (tB b) (2 ^ (b - 1)) else 0))
def preL (vars:List Nat) (o:No):Bool:=!(litL vars o.pre).isEmpty
theorem rlF_end {b:Nat} {sb:Nat→BFn} {f:Nat} (h:b≤f) (a:Nat→Bool):rlF b sb f a=true:=rlF_iff.2 fun q h1 h2=>by omega
theorem pre_pts {T:Nt} {o:No} (h64:∀n ∈ T.vars,1≤n∧n≤64) (ho:NoG T.vars o) (hp:preL T.vars o=true) (Q:BFn) (hQ:∀a,Q a=true→cubeB (litL T.vars o.pre) a=true∧rlF (nBits T.vars) (sbX T o) 0 a=true) :
  ∃Λ:List (Nat→Bool),Λ.length≤2 ^ (nBits T.vars - 1)∧∀a,Q a=true→∃π ∈ Λ,∀i,i < 2 * nBits T.vars→a i=π i:=by
 obtain ⟨p,hpm⟩:∃p,p ∈ litL T.vars o.pre:=by
  unfold preL at hp
  cases hl:litL T.vars o.pre with
  | nil=>rw [hl] at hp; cases hp
  | cons p l=>exact ⟨p,by simp⟩
 obtain ⟨p1,p2⟩:=lit_even h64 (fun f hf=>(ho.pre.rng f hf).1) p hpm
 obtain ⟨Λ,l1,l2⟩:=lst_det (((List.range (nBits T.vars)).filter fun q=>!decide (2 * q=p.1)).map fun q=>2 * q) (fun i=>i < 2 * nBits T.vars) (fun a=>Q a=true) fun a c ha hc hi i hib=>by
  obtain ⟨a1,a2⟩:=hQ a ha
  obtain ⟨c1,c2⟩:=hQ c hc
  have ev:∀q,q < nBits T.vars→a (2 * q)=c (2 * q):=fun q hq=>by
   by_cases e:2 * q=p.1
   ·unfold cubeB at a1 c1
    rw [List.all_eq_true] at a1 c1
    have h1:=a1 p hpm
    have h2:=c1 p hpm
    rw [beq_iff_eq] at h1 h2
    rw [e,h1,h2]
   ·exact hi _ (List.mem_map.2 ⟨q,List.mem_filter.2 ⟨List.mem_range.2 hq,by simp [e]⟩,rfl⟩)
  rcases Nat.mod_two_eq_zero_or_one i with h0 | h0
  ·have:=ev (i / 2) (by omega)
   rwa [show 2 * (i / 2)=i by omega] at this
  ·have h1:=rlF_iff.1 a2 (i / 2) (Nat.zero_le _) (by omega)
   have h2:=rlF_iff.1 c2 (i / 2) (Nat.zero_le _) (by omega)
   rw [show 2 * (i / 2)+1=i by omega] at h1 h2
   rw [h1,h2]
   exact sbX_ev h64 ho _ (by omega) a c ev
 refine ⟨Λ,?_,l2⟩
 rw [List.length_map] at l1
 have:((List.range (nBits T.vars)).filter fun q=>!decide (2 * q=p.1)).length+1=nBits T.vars:=by
  rw [len_filt]
  have e:∀q,q < nBits T.vars→(if (!decide (2 * q=p.1))=true then 1 else 0)+(if q=p.1 / 2 then 1 else 0)=1:=fun q _=>by
   by_cases h:2 * q=p.1
   ·rw [if_neg (by simp [h]),if_pos (by omega)]
   ·rw [if_pos (by simp [h]),if_neg (by omega)]
  have h1:=sm_add (f:=fun q=>if (!decide (2 * q=p.1))=true then 1 else 0) (g:=fun q=>if q=p.1 / 2 then 1 else 0) (nBits T.vars)
  rw [sm_one (show p.1 / 2 < nBits T.vars by omega),sm_congr e,sm_const] at h1
  omega
 rw [show nBits T.vars - 1=((List.range (nBits T.vars)).filter fun q=>!decide (2 * q=p.1)).length by omega]
 exact l1
theorem cov_rel5 {T:Nt} {o:No} (h64:∀n ∈ T.vars,1≤n∧n≤64) (ho:NoG T.vars o) (he:o.effs.length≤8) {W0:BFn→Prop} (h1:∀G,SaZ T.vars G→W0 G) (h2:∀G,ValZ T.vars G→W0 G) :
  CovR (2 * nBits T.vars) (ShZ T.vars) (fun G=>RelS2 T o G∧¬W0 G) (relZ (nBits T.vars) (preL T.vars o)):=by
 have cR:=cov_rlf (b:=nBits T.vars) (t0:=tA (nBits T.vars)) (t1:=tB (nBits T.vars)) (S:=ShZ T.vars) (sbX_ev h64 ho) (fun K=>shZ_pa) (fun K=>shZ_da) fun f K a b c=>shZ_df a b c
 have cO:=cov_opf (X:=effX T.vars o) (Y:=btsX T.vars) (t0:=tA (nBits T.vars)) (t1:=tB (nBits T.vars)) (S:=ShZ T.vars) (effX_ok h64 ho) (btsX_ok T.vars) (effX_lab h64 ho) he (fun K h=>shZ_s0 (nx:=0) (by omega) h) (fun v K hv h=>shZ_pv hv h) fun v K hv h=>shZ_dv hv h
 have cC:CovR (2 * nBits T.vars) (ShZ T.vars) (fun G=>CuZ T.vars o.pre G∨∃j,j < o.effs.length∧∃x,o.effs[j]? = some x∧CuZ T.vars x.cnd G) (18 * nBits T.vars) :=
  ((cov_cu h64 ho.pre).or (CovW.eachW (fun j G=>∃x,o.effs[j]? = some x∧CuZ T.vars x.cnd G) _ fun j _=>cov_opt fun x hx=>cov_cu h64 (ho.cnd x (List.mem_of_getElem? hx)))).toR.mono (fun _ h=>h) (by
   have:o.effs.length * (2 * nBits T.vars)≤8 * (2 * nBits T.vars):=Nat.mul_le_mul_right _ he
   omega)
 have fin0:∀a c:Nat→Bool,(∀i,i < 2 * nBits T.vars→a i=c i)→(cubeB (litL T.vars o.pre) a && rlF (nBits T.vars) (sbX T o) 0 a)=(cubeB (litL T.vars o.pre) c && rlF (nBits T.vars) (sbX T o) 0 c):=fun a c h=>by
  rw [rlF_fin (sbX_ev h64 ho) h,cub_ev (lit_even h64 fun f hf=>(ho.pre.rng f hf).1) fun q hq=>h _ (by omega)]
 have cP:CovR (2 * nBits T.vars) (ShZ T.vars) (fun G=>preL T.vars o=true∧G=fun a=>cubeB (litL T.vars o.pre) a && rlF (nBits T.vars) (sbX T o) 0 a) (if preL T.vars o=true then ptZ (2 * nBits T.vars) (tA (nBits T.vars)) (tB (nBits T.vars)) (2 ^ (nBits T.vars - 1)) else 0):=by
  by_cases hp:preL T.vars o=true
  ·rw [if_pos hp]
   obtain ⟨Λ,l1,l2⟩:=pre_pts h64 ho hp (fun a=>cubeB (litL T.vars o.pre) a && rlF (nBits T.vars) (sbX T o) 0 a) fun a ha=>by rw [Bool.and_eq_true] at ha; exact ha
   refine (cov_ptz (t0:=tA (nBits T.vars)) (t1:=tB (nBits T.vars)) (S:=ShZ T.vars) fin0 l1 l2 (fun a c ha hc ev i hi=>?_) (fun K=>shZ_pa) fun K=>shZ_da).mono (fun G h=>h.2) (Nat.le_refl _)
   rw [Bool.and_eq_true] at ha hc
   rcases Nat.mod_two_eq_zero_or_one i with h0 | h0
   ·have:=ev (i / 2) (by omega)
    rwa [show 2 * (i / 2)=i by omega] at this
   ·have e1:=rlF_iff.1 ha.2 (i / 2) (Nat.zero_le _) (by omega)
    have e2:=rlF_iff.1 hc.2 (i / 2) (Nat.zero_le _) (by omega)
    rw [show 2 * (i / 2)+1=i by omega] at e1 e2
    rw [e1,e2]
    exact sbX_ev h64 ho _ (by omega) a c fun p hp=>ev p (by omega)
  ·rw [if_neg hp]
   exact (CovR.none _ _).mono (fun G h=>hp h.1) (Nat.le_refl _)
 have cE:CovR (2 * nBits T.vars) (ShZ T.vars) (fun G=>∃f,nBits T.vars≤f∧G=rlF (nBits T.vars) (sbX T o) f) 0:=by
  refine ⟨[],Nat.le_refl _,?_⟩
  rintro G ⟨f,hf,rfl⟩ t a ht ⟨x,hx⟩
  exact absurd (by show rlF _ _ _ _=rlF _ _ _ _; rw [rlF_end hf,rlF_end hf]) hx
 refine (cR.or (cO.or (cC.or (cP.or cE)))).mono (fun G ⟨hG,hW⟩=>?_) (by unfold relZ; omega)
 have hf:∀f,G=rlF (nBits T.vars) (sbX T o) f→(∃f,f < nBits T.vars∧G=rlF (nBits T.vars) (sbX T o) f)∨∃f,nBits T.vars≤f∧G=rlF (nBits T.vars) (sbX T o) f:=fun f e=>by
  by_cases h:f < nBits T.vars
  ·exact .inl ⟨f,h,e⟩
  ·exact .inr ⟨f,by omega,e⟩
 rcases rel2_in h64 ho hG with h | h | (h | ⟨x,hx,h⟩) | h | ⟨j,hj,h⟩ | h
 ·exact absurd (h1 G h) hW
 ·exact absurd (h2 G h) hW
 ·exact .inr (.inr (.inl (.inl h)))
 ·obtain ⟨j,hj⟩:=List.mem_iff_getElem?.1 hx
  exact .inr (.inr (.inl (.inr ⟨j,(List.getElem?_eq_some_iff.1 hj).1,x,hj,h⟩)))
 ·exact .inr (.inl h)
 ·rcases hf _ h with h | h
  ·exact .inl h
  ·exact .inr (.inr (.inr (.inr h)))
 ·by_cases hp:preL T.vars o=true
  ·exact .inr (.inr (.inr (.inl ⟨hp,h⟩)))
  ·have hnil:litL T.vars o.pre=[]:=by
    unfold preL at hp
    cases hl:litL T.vars o.pre with
    | nil=>rfl
    | cons p l=>rw [hl] at hp; simp at hp
   have e:G=rlF (nBits T.vars) (sbX T o) 0:=by
    rw [h]
    funext a
    rw [hnil]
    rfl
   rcases hf _ e with h | h
   ·exact .inl h
   ·exact .inr (.inr (.inr (.inr h)))
end Go.Proofs.YtcoeknnghfajnaaGreat
end
