/-
  A part of the proof of this claim's statement (SyEE, SyEF): plain theorems; no conditions beyond those each names.
-/
import Derived.Test.YtcoeknnghfajnaaGreatPk26
set_option maxRecDepth 100000
set_option linter.unusedSimpArgs false
set_option linter.unusedVariables false
set_option linter.unusedSectionVars false
section
namespace Go.Sy
open Go.Bd
structure Eff where
 E:Nat
 lab:Nat→Nat
 con:Nat→List (Nat × Bool)
 val:Nat→Nat→Bool
section
variable (X:Eff)
def Eff.laK (v:Nat) (a:Nat→Bool):Nat→Option Nat
 | 0=>none
 | k+1=>if X.lab k=v∧cubeB (X.con k) a=true then some k else Eff.laK v a k
def Eff.la (v:Nat) (a:Nat→Bool):Option Nat:=X.laK v a X.E
theorem Eff.laK_some {v i:Nat} {a:Nat→Bool}:∀k,X.laK v a k=some i↔i < k∧X.lab i=v∧cubeB (X.con i) a=true∧∀i',i < i'→i' < k→X.lab i'=v→¬cubeB (X.con i') a=true
 | 0=>by simp [Eff.laK]
 | k+1=>by
  unfold Eff.laK
  by_cases h:X.lab k=v∧cubeB (X.con k) a=true
  ·rw [if_pos h]
   constructor
   ·intro e
    injection e with e
    subst e
    exact ⟨by omega,h.1,h.2,fun i' h1 h2=>by omega⟩
   ·rintro ⟨h1,h2,h3,h4⟩
    have:i=k:=Classical.byContradiction fun hne=>h4 k (by omega) (by omega) h.1 h.2
    rw [this]
  ·rw [if_neg h,Eff.laK_some k]
   constructor
   ·rintro ⟨h1,h2,h3,h4⟩
    refine ⟨by omega,h2,h3,fun i' h5 h6 h7 h8=>?_⟩
    by_cases e:i'=k
    ·subst e; exact h ⟨h7,h8⟩
    ·exact h4 i' h5 (by omega) h7 h8
   ·rintro ⟨h1,h2,h3,h4⟩
    have:i≠k:=fun e=>by subst e; exact h ⟨h2,h3⟩
    exact ⟨by omega,h2,h3,fun i' h5 h6=>h4 i' h5 (by omega)⟩
theorem Eff.la_some {v i:Nat} {a:Nat→Bool}:X.la v a=some i↔i < X.E∧X.lab i=v∧cubeB (X.con i) a=true∧∀i',i < i'→i' < X.E→X.lab i'=v→¬cubeB (X.con i') a=true:=X.laK_some X.E
theorem Eff.la_ge {v i j:Nat} {a a':Nat→Bool} (h:∀i,j≤i→i < X.E→X.lab i=v→cubeB (X.con i) a=cubeB (X.con i) a') (hi:j≤i):X.la v a=some i↔X.la v a'=some i:=by
 rw [X.la_some,X.la_some]
 constructor
 ·rintro ⟨h1,h2,h3,h4⟩
  exact ⟨h1,h2,by rw [←h i hi h1 h2]; exact h3,fun i' h5 h6 h7=>by rw [←h i' (by omega) h6 h7]; exact h4 i' h5 h6 h7⟩
 ·rintro ⟨h1,h2,h3,h4⟩
  exact ⟨h1,h2,by rw [h i hi h1 h2]; exact h3,fun i' h5 h6 h7=>by rw [h i' (by omega) h6 h7]; exact h4 i' h5 h6 h7⟩
theorem Eff.la_eq {v:Nat} {a a':Nat→Bool} (h:∀i,i < X.E→X.lab i=v→cubeB (X.con i) a=cubeB (X.con i) a'):X.la v a=X.la v a':=by
 have key:=fun i=>X.la_ge (v:=v) (j:=0) (i:=i) (fun i _=>h i) (Nat.zero_le _)
 cases h1:X.la v a with
 | some i=>rw [(key i).1 h1]
 | none =>
  cases h2:X.la v a' with
  | none=>rfl
  | some i=>rw [(key i).2 h2] at h1; cases h1
def Eff.sv (v q:Nat) (a:Nat→Bool):Bool:=match X.la v a with | some i=>X.val i q | none=>a (2 * q)
def Eff.cnt (v j:Nat):Nat:=((List.range X.E).filter fun i=>decide (j≤i) && decide (X.lab i=v)).length
def Eff.Ok (b:Nat):Prop:=∀j,j < X.E→∀p ∈ X.con j,p.1 % 2=0∧p.1 < 2 * b
theorem cub_ev {b:Nat} {l:List (Nat × Bool)} (hl:∀p ∈ l,p.1 % 2=0∧p.1 < 2 * b) {a c:Nat→Bool} (h:∀q,q < b→a (2 * q)=c (2 * q)):cubeB l a=cubeB l c:=by
 unfold cubeB
 refine Bool.eq_iff_iff.2 ?_
 rw [List.all_eq_true,List.all_eq_true]
 have e:∀p ∈ l,a p.1=c p.1:=fun p hp=>by
  have:=hl p hp
  have:=h (p.1 / 2) (by omega)
  rwa [show 2 * (p.1 / 2)=p.1 by omega] at this
 exact ⟨fun h1 p hp=>by rw [←e p hp]; exact h1 p hp,fun h1 p hp=>by rw [e p hp]; exact h1 p hp⟩
end
section
variable {X:Eff} {b:Nat} (hX:X.Ok b)
include hX
theorem la_ev {v:Nat} {a c:Nat→Bool} (h:∀q,q < b→a (2 * q)=c (2 * q)):X.la v a=X.la v c:=X.la_eq fun i hi _=>cub_ev (hX i hi) h
theorem sv_ev {v q:Nat} (hq:q < b) {a c:Nat→Bool} (h:∀q,q < b→a (2 * q)=c (2 * q)):X.sv v q a=X.sv v q c:=by
 unfold Eff.sv
 rw [la_ev hX h,h q hq]
def kN (X:Eff) (t v j:Nat):Nat:=min (2 ^ ((t+1) / 2)) (2 ^ X.cnt v j)
theorem key_at {t v j:Nat} (G:BFn) (h:∀a a' c:Nat→Bool,(∀i,j≤i→i < X.E→X.lab i=v→cubeB (X.con i) (pfx a t c)=cubeB (X.con i) (pfx a' t c))→G (pfx a t c)=G (pfx a' t c)) :
  ∃L:List BFn,L.length≤kN X t v j∧∀a,(fun c=>G (pfx a t c)) ∈ L:=by
 unfold kN
 by_cases hm:2 ^ ((t+1) / 2)≤2 ^ X.cnt v j
 ·rw [Nat.min_eq_left hm]
  exact evn_cov G fun a a' c hh=>h a a' c fun i h1 h2 h3=>cub_ev (hX i h2) fun q hq=>pfx_ag (hh q) fun _=>rfl
 ·rw [Nat.min_eq_right (by omega)]
  obtain ⟨L,l1,l2⟩:=key_cov (t:=t) (((List.range X.E).filter fun i=>decide (j≤i) && decide (X.lab i=v)).map X.con) G fun a a' c hh=>h a a' c fun i h1 h2 h3=>hh _ (List.mem_map.2 ⟨i,List.mem_filter.2 ⟨List.mem_range.2 h2,by simp [h1,h3]⟩,rfl⟩)
  rw [List.length_map] at l1
  exact ⟨L,l1,l2⟩
end
theorem ex_fn (P:(Nat→Bool)→Prop):∃G:BFn,∀a,G a=true↔P a:=⟨fun a=>@decide _ (Classical.propDecidable _),fun a=>@decide_eq_true_iff _ (Classical.propDecidable _)⟩
structure Bts where
 sB:Nat→Nat
 eB:Nat→Nat
def FX (X:Eff) (Y:Bts) (G:BFn):Prop:=∃j,j < X.E∧((∀a,G a=true↔X.la (X.lab j) a=some j)∨(∀a,G a=true↔∀i,X.la (X.lab j) a=some i→i < j) ∨
 ∀a,G a=true↔∃i,X.la (X.lab j) a=some i∧j≤i∧∀q,Y.sB (X.lab j)≤q→q < Y.eB (X.lab j)→X.val i q=X.val j q)
def xM (X:Eff) (b t:Nat):Nat:=if t % 2=0∧t < 2 * (b - 3) then ((List.range X.E).map fun j=>3 * kN X t (X.lab j) j).sum else 0
section
variable {X:Eff} {Y:Bts} {b t0 t1:Nat} {S:BFn→Prop} (hX:X.Ok b)
include hX
theorem fx_ev {G:BFn} (h:FX X Y G) {a c:Nat→Bool} (hh:∀q,q < b→a (2 * q)=c (2 * q)):G a=G c:=by
 obtain ⟨j,hj,h⟩:=h
 have e:=la_ev hX (v:=X.lab j) hh
 rw [Bool.eq_iff_iff]
 rcases h with h | h | h <;> rw [h,h,e]
theorem lev_x (hS:∀K:BFn,(∀a c:Nat→Bool,(∀p,b - 3≤p→p < b→a (2 * p)=c (2 * p))→K a=K c)→S K) (t:Nat):∃L:List BFn,L.length≤xM X b t∧∀G,FX X Y G→∀a,Dep (fun c=>G (pfx a t c)) t→(fun c=>G (pfx a t c)) ∈ L∨S fun c=>G (pfx a t c):=by
 unfold xM
 have nd:∀G,FX X Y G→∀a,Dep (fun c=>G (pfx a t c)) t→t % 2=0:=fun G hG a ⟨x,hx⟩=>Classical.byContradiction fun ho=>hx (fx_ev hX hG fun q _=>pfx_ag (fun _=>rfl) fun _=>by rw [upd_ne (by omega),upd_ne (by omega)])
 by_cases hc:t % 2=0∧t < 2 * (b - 3)
 rotate_left
 ·rw [if_neg hc]
  refine ⟨[],by simp,fun G hG a hd=>.inr (hS _ fun x y hxy=>fx_ev hX hG fun q hq=>pfx_ag (fun _=>rfl) fun h=>hxy q ?_ hq)⟩
  have:=nd G hG a hd
  have:¬t < 2 * (b - 3):=fun h=>hc ⟨this,h⟩
  omega
 rw [if_pos hc]
 have one:∀(j:Nat) (P:(Nat→Bool)→Prop),(∀a a':Nat→Bool,(∀i,j≤i→i < X.E→X.lab i=X.lab j→cubeB (X.con i) a=cubeB (X.con i) a')→(P a↔P a'))→∃L:List BFn,L.length≤kN X t (X.lab j) j∧∀G:BFn,(∀a,G a=true↔P a)→∀a,(fun c=>G (pfx a t c)) ∈ L:=fun j P hP=>by
  obtain ⟨g,hg⟩:=ex_fn P
  obtain ⟨L,l1,l2⟩:=key_at hX (t:=t) (v:=X.lab j) (j:=j) g fun a a' c h=>by rw [Bool.eq_iff_iff,hg,hg]; exact hP _ _ h
  refine ⟨L,l1,fun G hG a=>?_⟩
  have:G=g:=funext fun x=>by rw [Bool.eq_iff_iff,hG,hg]
  rw [this]
  exact l2 a
 have hl:∀j,∃L:List BFn,L.length≤3 * kN X t (X.lab j) j∧∀G:BFn,((∀a,G a=true↔X.la (X.lab j) a=some j)∨(∀a,G a=true↔∀i,X.la (X.lab j) a=some i→i < j) ∨
   ∀a,G a=true↔∃i,X.la (X.lab j) a=some i∧j≤i∧∀q,Y.sB (X.lab j)≤q→q < Y.eB (X.lab j)→X.val i q=X.val j q)→∀a,(fun c=>G (pfx a t c)) ∈ L:=fun j=>by
  obtain ⟨L1,a1,b1⟩:=one j (fun a=>X.la (X.lab j) a=some j) fun a a' h=>X.la_ge h (Nat.le_refl _)
  obtain ⟨L2,a2,b2⟩:=one j (fun a=>∀i,X.la (X.lab j) a=some i→i < j) fun a a' h=>by
   have key:∀{a a':Nat→Bool},(∀i,j≤i→i < X.E→X.lab i=X.lab j→cubeB (X.con i) a=cubeB (X.con i) a')→(∀i,X.la (X.lab j) a=some i→i < j)→∀i,X.la (X.lab j) a'=some i→i < j:=fun {a a'} h h1 i hi=>Classical.byContradiction fun hn=>hn (h1 i ((X.la_ge h (by omega)).2 hi))
   exact ⟨key h,key fun i h1 h2 h3=>(h i h1 h2 h3).symm⟩
  obtain ⟨L3,a3,b3⟩:=one j (fun a=>∃i,X.la (X.lab j) a=some i∧j≤i∧∀q,Y.sB (X.lab j)≤q→q < Y.eB (X.lab j)→X.val i q=X.val j q) fun a a' h=>by
   constructor
   ·rintro ⟨i,h1,h2,h3⟩
    exact ⟨i,(X.la_ge h h2).1 h1,h2,h3⟩
   ·rintro ⟨i,h1,h2,h3⟩
    exact ⟨i,(X.la_ge h h2).2 h1,h2,h3⟩
  refine ⟨L1 ++ (L2 ++ L3),by rw [List.length_append,List.length_append]; omega,fun G hG a=>?_⟩
  rcases hG with h | h | h
  ·exact List.mem_append_left _ (b1 G h a)
  ·exact List.mem_append_right _ (List.mem_append_left _ (b2 G h a))
  ·exact List.mem_append_right _ (List.mem_append_right _ (b3 G h a))
 obtain ⟨L,hL⟩:=Classical.skolem.1 hl
 refine ⟨(List.range X.E).flatMap L,sum_len L _ (fun j=>(hL j).1) _,fun G ⟨j,hj,hG⟩ a _=>.inl (List.mem_flatMap.2 ⟨j,List.mem_range.2 hj,(hL j).2 G hG a⟩)⟩
end
def MV (X:Eff) (v:Nat) (M:Option Nat→Prop):Prop:=(∃j,j < X.E∧X.lab j=v∧(M=(fun o=>o=some j)∨M=fun o=>∃i,o=some i∧j≤i))∨M=(fun o=>o=none)∨M=fun _=>True
def VF (X:Eff) (Y:Bts) (v:Nat) (M:Option Nat→Prop) (G:BFn):Prop:=∀a,G a=true↔M (X.la v a)∧∀q,Y.sB v≤q→q < Y.eB v→a (2 * q+1)=X.sv v q a
def FV (X:Eff) (Y:Bts) (v:Nat) (G:BFn):Prop:=∃M,MV X v M∧VF X Y v M G
def relVr (Y:Bts) (v i:Nat):Bool:=decide (i % 2=0) || (decide (Y.sB v≤i / 2) && decide (i / 2 < Y.eB v))
def vM (X:Eff) (Y:Bts) (b t0 t1 v t:Nat):Nat :=
 if t1≤t then 0
 else if t≤2 * Y.sB v then (if t % 2=0 then ((List.range X.E).map fun j=>if X.lab j=v then 2 * kN X t v j else 0).sum+2 * kN X t v 0 else 0)
 else if t < 2 * Y.eB v then (if t < t0 then (2 * X.cnt v 0+2) * 2 ^ ((t+1) / 2) else min ((2 * X.cnt v 0+2) * 2 ^ ((t+1) / 2)) (2 ^ b - 2 ^ ((t+1) / 2)))
 else if t % 2=0∧t < 2 * (b - 3) then min (2 ^ (t / 2)) (X.cnt v 0 * 2 ^ X.cnt v 0) else 0
theorem mv_lam {X:Eff} {v:Nat} {M M':Option Nat→Prop} (h:MV X v M) (h':MV X v M'):(∀o,M o→M' o)∨(∀o,M' o→M o)∨∀o,¬(M o∧M' o):=by
 rcases h with ⟨j,hj,hl,rfl | rfl⟩ | rfl | rfl
 ·rcases h' with ⟨j',hj',hl',rfl | rfl⟩ | rfl | rfl
  ·by_cases e:j=j'
   ·subst e; exact .inl fun o h=>h
   ·exact .inr (.inr fun o ⟨h1,h2⟩=>e (by rw [h1] at h2; exact Option.some.inj h2))
  ·by_cases e:j'≤j
   ·exact .inl fun o h=>⟨j,h,e⟩
   ·exact .inr (.inr fun o ⟨h1,i,h2,h3⟩=>by rw [h1] at h2; have:=Option.some.inj h2; omega)
  ·exact .inr (.inr fun o ⟨h1,h2⟩=>by rw [h1] at h2; cases h2)
  ·exact .inl fun _ _=>trivial
 ·rcases h' with ⟨j',hj',hl',rfl | rfl⟩ | rfl | rfl
  ·by_cases e:j≤j'
   ·exact .inr (.inl fun o h=>⟨j',h,e⟩)
   ·exact .inr (.inr fun o ⟨⟨i,h2,h3⟩,h1⟩=>by rw [h1] at h2; have:=Option.some.inj h2; omega)
  ·rcases Nat.le_total j j' with e | e
   ·exact .inr (.inl fun o ⟨i,h1,h2⟩=>⟨i,h1,by omega⟩)
   ·exact .inl fun o ⟨i,h1,h2⟩=>⟨i,h1,by omega⟩
  ·exact .inr (.inr fun o ⟨⟨i,h1,_⟩,h2⟩=>by rw [h1] at h2; cases h2)
  ·exact .inl fun _ _=>trivial
 ·rcases h' with ⟨j',hj',hl',rfl | rfl⟩ | rfl | rfl
  ·exact .inr (.inr fun o ⟨h1,h2⟩=>by rw [h1] at h2; cases h2)
  ·exact .inr (.inr fun o ⟨h1,i,h2,_⟩=>by rw [h1] at h2; cases h2)
  ·exact .inl fun o h=>h
  ·exact .inl fun _ _=>trivial
 ·exact .inr (.inl fun _ _=>trivial)
section
variable {X:Eff} {Y:Bts} {b t0 t1 v:Nat} {S:BFn→Prop} (hX:X.Ok b) (hse:Y.sB v≤Y.eB v) (heb:Y.eB v≤b)
include hX hse heb
theorem vf_pfx {M:Option Nat→Prop} {G:BFn} (h:VF X Y v M G) {t:Nat} {a a' c:Nat→Bool} (h1:∀q,2 * q < t→a (2 * q)=a' (2 * q)) (h2:∀q,Y.sB v≤q→q < Y.eB v→2 * q+1 < t→a (2 * q+1)=a' (2 * q+1)):G (pfx a t c)=G (pfx a' t c):=by
 have ev:∀q,q < b→pfx a t c (2 * q)=pfx a' t c (2 * q):=fun q _=>pfx_ag (h1 q) fun _=>rfl
 have e1:=la_ev hX (v:=v) ev
 have e2:∀q,q < b→X.sv v q (pfx a t c)=X.sv v q (pfx a' t c):=fun q hq=>sv_ev hX hq ev
 have e3:∀q,Y.sB v≤q→q < Y.eB v→pfx a t c (2 * q+1)=pfx a' t c (2 * q+1):=fun q h3 h4=>pfx_ag (h2 q h3 h4) fun _=>rfl
 rw [Bool.eq_iff_iff,h,h,e1]
 exact ⟨fun ⟨h5,h6⟩=>⟨h5,fun q h3 h4=>by rw [←e3 q h3 h4,←e2 q (by omega)]; exact h6 q h3 h4⟩,fun ⟨h5,h6⟩=>⟨h5,fun q h3 h4=>by rw [e3 q h3 h4,e2 q (by omega)]; exact h6 q h3 h4⟩⟩
theorem vf_fin {M:Option Nat→Prop} {G:BFn} (h:VF X Y v M G) {t:Nat} {a c c':Nat→Bool} (hc:∀i,t≤i→i < 2 * b→relVr Y v i=true→c i=c' i):G (pfx a t c)=G (pfx a t c'):=by
 have ev:∀q,q < b→pfx a t c (2 * q)=pfx a t c' (2 * q):=fun q hq=>pfx_ag (fun _=>rfl) fun h=>hc _ h (by omega) (by unfold relVr; simp)
 have e1:=la_ev hX (v:=v) ev
 have e2:∀q,q < b→X.sv v q (pfx a t c)=X.sv v q (pfx a t c'):=fun q hq=>sv_ev hX hq ev
 have e3:∀q,Y.sB v≤q→q < Y.eB v→pfx a t c (2 * q+1)=pfx a t c' (2 * q+1):=fun q h3 h4=>pfx_ag (fun _=>rfl) fun h=>hc _ h (by omega) (by unfold relVr; rw [show (2 * q+1) / 2=q by omega]; simp [h3,h4])
 rw [Bool.eq_iff_iff,h,h,e1]
 exact ⟨fun ⟨h5,h6⟩=>⟨h5,fun q h3 h4=>by rw [←e3 q h3 h4,←e2 q (by omega)]; exact h6 q h3 h4⟩,fun ⟨h5,h6⟩=>⟨h5,fun q h3 h4=>by rw [e3 q h3 h4,e2 q (by omega)]; exact h6 q h3 h4⟩⟩
theorem vf_det {M M':Option Nat→Prop} {G G':BFn} (h:VF X Y v M G) (h':VF X Y v M' G') {x y:Nat→Bool} (h1:G x=true) (h2:G' y=true) (ev:∀q,q < b→x (2 * q)=y (2 * q)):∀q,Y.sB v≤q→q < Y.eB v→x (2 * q+1)=y (2 * q+1):=fun q q1 q2=>by
 rw [((h x).1 h1).2 q q1 q2,((h' y).1 h2).2 q q1 q2]
 exact sv_ev hX (by omega) ev
theorem relVr_od {i:Nat} (hi:i % 2=1) (h:relVr Y v i=true):Y.sB v≤i / 2∧i / 2 < Y.eB v:=by
 unfold relVr at h
 rw [hi] at h
 simpa using h
theorem vf_detA {M:Option Nat→Prop} {G:BFn} (h:VF X Y v M G) (t:Nat) (a:Nat→Bool):DetA (relVr Y v) (2 * b) t fun c=>G (pfx a t c):=by
 refine ⟨fun c c' hc=>vf_fin hX hse heb h hc,fun c c' e1 e2 hc i i1 i2 i3=>?_⟩
 rcases Nat.mod_two_eq_zero_or_one i with h0 | h0
 ·have:=hc (i / 2) (by omega) (by omega) (by unfold relVr; simp)
  rwa [show 2 * (i / 2)=i by omega] at this
 ·obtain ⟨h1,h2⟩:=relVr_od hX hse heb h0 i3
  have:=vf_det hX hse heb h h e1 e2 (fun q hq=>pfx_ag (fun _=>rfl) fun h=>hc q h (by omega) (by unfold relVr; simp)) (i / 2) h1 h2
  rwa [show 2 * (i / 2)+1=i by omega,pfx_out i1,pfx_out i1] at this
theorem vf_one {M:Option Nat→Prop} {G:BFn} (h:VF X Y v M G) {t:Nat} {a x:Nat→Bool} (hx:G (pfx a t x)=true) (h2:¬∃c c':Nat→Bool,G (pfx a t c)=true∧G (pfx a t c')=true∧∃q,(t+1) / 2≤q∧q < b∧c (2 * q)≠c' (2 * q)):(fun c=>G (pfx a t c))=PtB (relVr Y v) (2 * b) t x:=by
 refine pt_of (K:=fun c=>G (pfx a t c)) (fun c c' hc=>vf_fin hX hse heb h hc) hx fun c hc i i1 i2 i3=>?_
 exact (vf_detA hX hse heb h t a).2 c x hc hx (fun q h3 h4 _=>Classical.byContradiction fun hne=>h2 ⟨c,x,hc,hx,q,by omega,by omega,hne⟩) i i1 i2 i3
end
end Go.Sy
end
section
namespace Go.Sy
open Go.Bd
theorem len_flat {α β:Type} (L:α→List β) (n:Nat) (h:∀x,(L x).length≤n):∀l:List α,(l.flatMap L).length≤l.length * n
 | []=>by simp
 | x :: l=>by
  have:=len_flat L n h l
  have:=h x
  rw [List.flatMap_cons,List.length_append,List.length_cons,Nat.succ_mul]
  omega
section
variable {X:Eff} {Y:Bts} {b t0 t1 v:Nat} {S:BFn→Prop} (hX:X.Ok b) (hse:Y.sB v≤Y.eB v) (heb:Y.eB v≤b)
include hX hse heb
theorem ex_vf (M:Option Nat→Prop):∃G,VF X Y v M G:=ex_fn _
theorem vf_uniq {M:Option Nat→Prop} {G G':BFn} (h:VF X Y v M G) (h':VF X Y v M G'):G=G':=funext fun a=>by rw [Bool.eq_iff_iff,h,h']
theorem lev_vb {t:Nat} (ht:t≤2 * Y.sB v):∃L:List BFn,L.length≤(if t % 2=0 then ((List.range X.E).map fun j=>if X.lab j=v then 2 * kN X t v j else 0).sum+2 * kN X t v 0 else 0)∧∀G,FV X Y v G→∀a,Dep (fun c=>G (pfx a t c)) t→(fun c=>G (pfx a t c)) ∈ L:=by
 by_cases ho:t % 2=0
 rotate_left
 ·rw [if_neg ho]
  refine ⟨[],by simp,fun G ⟨M,hM,hG⟩ a ⟨x,hx⟩=>absurd ?_ hx⟩
  refine vf_fin hX hse heb hG fun i i1 i2 i3=>?_
  have:i≠t:=fun e=>by
   subst e
   have:=relVr_od hX hse heb (show i % 2=1 by omega) i3
   omega
  rw [upd_ne this,upd_ne this]
 rw [if_pos ho]
 have one:∀(j:Nat) (M:Option Nat→Prop),(∀a a':Nat→Bool,(∀i,j≤i→i < X.E→X.lab i=v→cubeB (X.con i) a=cubeB (X.con i) a')→(∀q,Y.sB v≤q→q < Y.eB v→a (2 * q)=a' (2 * q))→M (X.la v a)→M (X.la v a')∧∀q,Y.sB v≤q→q < Y.eB v→X.sv v q a=X.sv v q a') →
   ∃L:List BFn,L.length≤kN X t v j∧∀G:BFn,VF X Y v M G→∀a,(fun c=>G (pfx a t c)) ∈ L:=fun j M hM=>by
  obtain ⟨g,hg⟩:=ex_vf hX hse heb M
  obtain ⟨L,l1,l2⟩:=key_at hX (t:=t) (v:=v) (j:=j) g fun a a' c h=>by
   have e:∀{a a':Nat→Bool},(∀i,j≤i→i < X.E→X.lab i=v→cubeB (X.con i) (pfx a t c)=cubeB (X.con i) (pfx a' t c))→g (pfx a t c)=true→g (pfx a' t c)=true:=fun {a a'} h h1=>by
    obtain ⟨h2,h3⟩:=(hg _).1 h1
    obtain ⟨h4,h5⟩:=hM _ _ h (fun q q1 q2=>by rw [pfx_out (by omega),pfx_out (by omega)]) h2
    refine (hg _).2 ⟨h4,fun q q1 q2=>?_⟩
    rw [←h5 q q1 q2,←h3 q q1 q2,pfx_out (by omega),pfx_out (by omega)]
   rw [Bool.eq_iff_iff]
   exact ⟨e h,e fun i h1 h2 h3=>(h i h1 h2 h3).symm⟩
  exact ⟨L,l1,fun G hG a=>by rw [vf_uniq hX hse heb hG hg]; exact l2 a⟩
 have hl:∀j,∃L:List BFn,L.length≤2 * kN X t v j∧∀M,(M=(fun o=>o=some j)∨M=fun o=>∃i,o=some i∧j≤i)→∀G:BFn,VF X Y v M G→∀a,(fun c=>G (pfx a t c)) ∈ L:=fun j=>by
  obtain ⟨L1,a1,b1⟩:=one j (fun o=>o=some j) fun a a' h _ hm=>by
   have h2:=(X.la_ge h (Nat.le_refl _)).1 hm
   exact ⟨h2,fun q _ _=>by unfold Eff.sv; rw [hm,h2]⟩
  obtain ⟨L2,a2,b2⟩:=one j (fun o=>∃i,o=some i∧j≤i) fun a a' h _ ⟨i,hm,hi⟩=>by
   have h2:=(X.la_ge h hi).1 hm
   exact ⟨⟨i,h2,hi⟩,fun q _ _=>by unfold Eff.sv; rw [hm,h2]⟩
  refine ⟨L1 ++ L2,by rw [List.length_append]; omega,fun M hM G hG a=>?_⟩
  rcases hM with rfl | rfl
  ·exact List.mem_append_left _ (b1 G hG a)
  ·exact List.mem_append_right _ (b2 G hG a)
 obtain ⟨L,hL⟩:=Classical.skolem.1 hl
 have hall:∀(M:Option Nat→Prop) (a a':Nat→Bool),(∀i,0≤i→i < X.E→X.lab i=v→cubeB (X.con i) a=cubeB (X.con i) a')→(∀q,Y.sB v≤q→q < Y.eB v→a (2 * q)=a' (2 * q))→M (X.la v a)→M (X.la v a')∧∀q,Y.sB v≤q→q < Y.eB v→X.sv v q a=X.sv v q a':=fun M a a' h hq hm=>by
  have e:=X.la_eq (v:=v) (a:=a) (a':=a') fun i h1 h2=>h i (Nat.zero_le _) h1 h2
  refine ⟨by rw [←e]; exact hm,fun q q1 q2=>?_⟩
  unfold Eff.sv
  rw [e,hq q q1 q2]
 obtain ⟨L1,a1,b1⟩:=one 0 (fun o=>o=none) (hall fun o=>o=none)
 obtain ⟨L2,a2,b2⟩:=one 0 (fun _=>True) (hall fun _=>True)
 refine ⟨((List.range X.E).flatMap fun j=>if X.lab j=v then L j else []) ++ (L1 ++ L2),?_,fun G ⟨M,hM,hG⟩ a _=>?_⟩
 ·rw [List.length_append,List.length_append]
  have:=sum_len (fun j=>if X.lab j=v then L j else []) (fun j=>if X.lab j=v then 2 * kN X t v j else 0) (fun j=>by
   show (if X.lab j=v then L j else []).length≤_
   by_cases h:X.lab j=v
   ·rw [if_pos h,if_pos h]; exact (hL j).1
   ·rw [if_neg h,if_neg h]; exact Nat.le_refl _) X.E
  omega
 ·rcases hM with ⟨j,hj,hlab,hM⟩ | rfl | rfl
  ·exact List.mem_append_left _ (List.mem_flatMap.2 ⟨j,List.mem_range.2 hj,by rw [if_pos hlab]; exact (hL j).2 M hM G hG a⟩)
  ·exact List.mem_append_right _ (List.mem_append_left _ (b1 G hG a))
  ·exact List.mem_append_right _ (List.mem_append_right _ (b2 G hG a))
theorem ev_reps (t:Nat):∃Λ:List (Nat→Bool),Λ.length≤2 ^ ((t+1) / 2)∧∀a:Nat→Bool,∃π ∈ Λ,∀q,2 * q < t→a (2 * q)=π (2 * q):=by
 obtain ⟨Λ,l1,l2⟩:=lst_keys ((List.range ((t+1) / 2)).map fun q=>fun a=>a (2 * q)) fun _=>True
 rw [List.length_map,List.length_range] at l1
 refine ⟨Λ,l1,fun a=>?_⟩
 obtain ⟨π,m1,_,m2⟩:=l2 a trivial
 exact ⟨π,m1,fun q hq=>m2 (fun a=>a (2 * q)) (List.mem_map.2 ⟨q,List.mem_range.2 (by omega),rfl⟩)⟩
theorem ons_mem {j:Nat}:j ∈ ((List.range X.E).filter fun i=>decide (0≤i) && decide (X.lab i=v))↔j < X.E∧X.lab j=v:=by
 rw [List.mem_filter,List.mem_range]
 simp
theorem least_of {j:Nat} {P:Nat→Prop} (h:∃i,j≤i∧i < X.E∧X.lab i=v∧P i):∃i,(j≤i∧i < X.E∧X.lab i=v∧P i)∧∀i',j≤i'→i' < X.E→X.lab i'=v→P i'→i≤i':=by
 obtain ⟨i,h1,h2⟩:=ex_min (fun i=>j≤i∧i < X.E∧X.lab i=v∧P i) h
 exact ⟨i,h1,fun i' a1 a2 a3 a4=>Nat.le_of_not_lt fun h=>h2 i' h ⟨a1,a2,a3,a4⟩⟩
theorem lev_vi (hv:∃j,j < X.E∧X.lab j=v) (t:Nat):∃L:List BFn,L.length≤(2 * X.cnt v 0+2) * 2 ^ ((t+1) / 2)∧∀G,FV X Y v G→∀a,Dep (fun c=>G (pfx a t c)) t→(fun c=>G (pfx a t c)) ∈ L:=by
 obtain ⟨Λ,l1,l2⟩:=ev_reps hX hse heb t
 obtain ⟨gO,hO⟩:=Classical.skolem.1 fun j=>ex_vf hX hse heb (v:=v) (Y:=Y) (fun o=>∃i,o=some i∧j≤i)
 obtain ⟨gT,hT⟩:=Classical.skolem.1 fun j=>ex_vf hX hse heb (v:=v) (Y:=Y) (fun o=>o=some j)
 obtain ⟨gN,hN⟩:=ex_vf hX hse heb (v:=v) (Y:=Y) (fun o=>o=none)
 obtain ⟨gC,hC⟩:=ex_vf hX hse heb (v:=v) (Y:=Y) (fun _=>True)
 -- the value of an effect,or that of the state
 obtain ⟨av,hav⟩:∃av:(Nat→Bool)→Nat→Nat→Bool,av=fun π j i=>if i % 2=0 then π i else X.val j (i / 2):=⟨_,rfl⟩
 obtain ⟨as',has⟩:∃as':(Nat→Bool)→Nat→Bool,as'=fun π i=>if i % 2=0 then π i else π (i - 1):=⟨_,rfl⟩
 have av0:∀π j q,av π j (2 * q)=π (2 * q):=fun π j q=>by rw [hav]; show (if 2 * q % 2=0 then _ else _)=_; rw [if_pos (by omega)]
 have av1:∀π j q,av π j (2 * q+1)=X.val j q:=fun π j q=>by rw [hav]; show (if (2 * q+1) % 2=0 then _ else X.val j ((2 * q+1) / 2))=_; rw [if_neg (by omega),show (2 * q+1) / 2=q by omega]
 have as0:∀π q,as' π (2 * q)=π (2 * q):=fun π q=>by rw [has]; show (if 2 * q % 2=0 then _ else _)=_; rw [if_pos (by omega)]
 have as1:∀π q,as' π (2 * q+1)=π (2 * q):=fun π q=>by rw [has]; show (if (2 * q+1) % 2=0 then _ else π (2 * q+1 - 1))=_; rw [if_neg (by omega),show 2 * q+1 - 1=2 * q by omega]
 obtain ⟨F,hF⟩:∃F:(Nat→Bool)→List BFn,F=fun π=>((((List.range X.E).filter fun i=>decide (0≤i) && decide (X.lab i=v))).flatMap fun j=>[(fun c=>gT j (pfx (av π j) t c)),fun c=>gO j (pfx (av π j) t c)]) ++ [(fun c=>gN (pfx (as' π) t c)),fun c=>gC (pfx (as' π) t c)]:=⟨_,rfl⟩
 refine ⟨Λ.flatMap F,?_,fun G ⟨M,hM,hG⟩ a hd=>?_⟩
 ·refine Nat.le_trans (len_flat F (2 * X.cnt v 0+2) (fun π=>?_) Λ) (by rw [Nat.mul_comm]; exact Nat.mul_le_mul_left _ l1)
  rw [hF]
  rw [List.length_append]
  have:=len_flat (fun j=>[(fun c=>gT j (pfx (av π j) t c):BFn),fun c=>gO j (pfx (av π j) t c)]) 2 (fun _=>Nat.le_refl _) ((List.range X.E).filter fun i=>decide (0≤i) && decide (X.lab i=v))
  unfold Eff.cnt
  simp only [List.length_cons,List.length_nil]
  omega
 obtain ⟨x,hx⟩:=dep_true hd
 obtain ⟨hMx,hxo⟩:=(hG _).1 hx
 obtain ⟨π,m1,m2⟩:=l2 a
 refine List.mem_flatMap.2 ⟨π,m1,?_⟩
 -- from a part at a to one of the list
 have fin:∀{M':Option Nat→Prop} {g:BFn} {j:Nat},VF X Y v M' g→(∀q,Y.sB v≤q→q < Y.eB v→2 * q+1 < t→a (2 * q+1)=X.val j q)→(fun c=>g (pfx a t c))=fun c=>g (pfx (av π j) t c):=fun {M' g j} hg h=>funext fun c=>vf_pfx hX hse heb hg (fun q hq=>by rw [av0]; exact m2 q hq) fun q q1 q2 q3=>by rw [av1]; exact h q q1 q2 q3
 have mT:∀j,j < X.E→X.lab j=v→(fun c=>gT j (pfx (av π j) t c)) ∈ F π∧(fun c=>gO j (pfx (av π j) t c)) ∈ F π:=fun j h1 h2=>by
  rw [hF]
  exact ⟨List.mem_append_left _ (List.mem_flatMap.2 ⟨j,(ons_mem hX hse heb).2 ⟨h1,h2⟩,by simp⟩),List.mem_append_left _ (List.mem_flatMap.2 ⟨j,(ons_mem hX hse heb).2 ⟨h1,h2⟩,by simp⟩)⟩
 -- the last effect from one on
 have big:∀j,(∃i,X.la v (pfx a t x)=some i∧j≤i)→∀g:BFn,(∀c,g (pfx a t c)=true↔(∃i,X.la v (pfx a t c)=some i∧j≤i)∧∀q,Y.sB v≤q→q < Y.eB v→pfx a t c (2 * q+1)=X.sv v q (pfx a t c))→(fun c=>g (pfx a t c)) ∈ F π:=fun j ⟨i,hi,hji⟩ g hg=>by
  obtain ⟨li,lv,_⟩:=X.la_some.1 hi
  have hsv:∀q,Y.sB v≤q→q < Y.eB v→2 * q+1 < t→a (2 * q+1)=X.val i q:=fun q q1 q2 q3=>by
   have:=hxo q q1 q2
   rw [pfx_in q3] at this
   rw [this]
   unfold Eff.sv
   rw [hi]
  obtain ⟨j',⟨j1,j2,j3,j4⟩,j5⟩:=least_of hX hse heb (v:=v) (P:=fun i=>∀q,Y.sB v≤q→q < Y.eB v→2 * q+1 < t→a (2 * q+1)=X.val i q) ⟨i,hji,li,lv,hsv⟩
  have:(fun c=>g (pfx a t c))=fun c=>gO j' (pfx a t c):=funext fun c=>by
   rw [Bool.eq_iff_iff,hg,hO j']
   constructor
   ·rintro ⟨⟨k,k1,k2⟩,k3⟩
    refine ⟨⟨k,k1,j5 k k2 (X.la_some.1 k1).1 (X.la_some.1 k1).2.1 fun q q1 q2 q3=>?_⟩,k3⟩
    have:=k3 q q1 q2
    rw [pfx_in q3] at this
    rw [this]
    unfold Eff.sv
    rw [k1]
   ·rintro ⟨⟨k,k1,k2⟩,k3⟩
    exact ⟨⟨k,k1,by omega⟩,k3⟩
  rw [this,fin (hO j') j4]
  exact (mT j' j2 j3).2
 have same:(∀q,Y.sB v≤q→q < Y.eB v→2 * q+1 < t→a (2 * q+1)=a (2 * q))→∀{M':Option Nat→Prop} {g:BFn},VF X Y v M' g→(fun c=>g (pfx a t c))=fun c=>g (pfx (as' π) t c):=fun h {M' g} hg=>funext fun c=>vf_pfx hX hse heb hg (fun q hq=>by rw [as0]; exact m2 q hq) fun q q1 q2 q3=>by rw [as1,h q q1 q2 q3]; exact m2 q (by omega)
 rcases hM with ⟨j,hj,hlab,rfl | rfl⟩ | rfl | rfl
 ·rw [vf_uniq hX hse heb hG (hT j),fin (hT j) fun q q1 q2 q3=>by
   have:=hxo q q1 q2
   rw [pfx_in q3] at this
   rw [this]
   unfold Eff.sv
   rw [hMx]]
  exact (mT j hj hlab).1
 ·exact big j hMx G fun c=>hG _
 ·have h:∀q,Y.sB v≤q→q < Y.eB v→2 * q+1 < t→a (2 * q+1)=a (2 * q):=fun q q1 q2 q3=>by
   have:=hxo q q1 q2
   rw [pfx_in q3] at this
   rw [this]
   unfold Eff.sv
   rw [hMx]
   exact pfx_in (by omega)
  rw [vf_uniq hX hse heb hG hN,same h hN,hF]
  exact List.mem_append_right _ (by simp)
 ·by_cases h:∀q,Y.sB v≤q→q < Y.eB v→2 * q+1 < t→a (2 * q+1)=a (2 * q)
  ·rw [vf_uniq hX hse heb hG hC,same h hC,hF]
   exact List.mem_append_right _ (by simp)
  ·have nn:∀c,G (pfx a t c)=true→∃i,X.la v (pfx a t c)=some i∧0≤i:=fun c hc=>by
    cases hla:X.la v (pfx a t c) with
    | some i=>exact ⟨i,rfl,Nat.zero_le _⟩
    | none =>
     exfalso
     refine h fun q q1 q2 q3=>?_
     have:=((hG _).1 hc).2 q q1 q2
     rw [pfx_in q3] at this
     rw [this]
     unfold Eff.sv
     rw [hla]
     exact pfx_in (by omega)
   refine big 0 (nn x hx) G fun c=>?_
   constructor
   ·intro hc
    exact ⟨nn c hc,((hG _).1 hc).2⟩
   ·intro hc
    exact (hG _).2 ⟨trivial,hc.2⟩
theorem lev_vl (hS1:∀K,PtS (relVr Y v) (2 * b) t0 K→S K) {t:Nat} (ht:t < 2 * b) (h0:t0≤t):∃L:List BFn,L.length≤2 ^ b - 2 ^ ((t+1) / 2)∧∀G,FV X Y v G→∀a,Dep (fun c=>G (pfx a t c)) t→(fun c=>G (pfx a t c)) ∈ L∨S fun c=>G (pfx a t c):=by
 obtain ⟨Λ,l1,l2⟩:=ev_reps hX hse heb t
 have hl:∀π:Nat→Bool,∃L:List BFn,L.length≤2 ^ (b - (t+1) / 2) - 1∧∀K,(∃G a M,MV X v M∧VF X Y v M G∧(∀q,2 * q < t→a (2 * q)=π (2 * q))∧K=(fun c=>G (pfx a t c))∧∃c c':Nat→Bool,K c=true∧K c'=true∧∃q,(t+1) / 2≤q∧q < b∧c (2 * q)≠c' (2 * q))→K ∈ L:=fun π=>by
  refine lam_cov _ ?_ ?_ ?_
  ·rintro K K' ⟨G,a,M,hM,hG,ha,rfl,_⟩ ⟨G',a',M',hM',hG',ha',rfl,_⟩ c c' h1 h2 hc
   have h1:G (pfx a t c)=true:=h1
   have h2:G' (pfx a' t c')=true:=h2
   show G (pfx a t c')=true
   have ev:∀q,q < b→pfx a t c (2 * q)=pfx a t c' (2 * q):=fun q hq=>pfx_ag (fun _=>rfl) fun h=>hc q (by omega) hq
   have ev':∀q,q < b→pfx a' t c' (2 * q)=pfx a t c' (2 * q):=fun q hq=>pfx_ag (fun h=>by rw [ha q h,ha' q h]) fun _=>rfl
   refine (hG _).2 ⟨by rw [←la_ev hX ev]; exact ((hG _).1 h1).1,fun q q1 q2=>?_⟩
   by_cases h5:2 * q+1 < t
   ·have:=((hG _).1 h1).2 q q1 q2
    rw [pfx_in h5] at this
    rw [pfx_in h5,this]
    exact sv_ev hX (by omega) ev
   ·have:=((hG' _).1 h2).2 q q1 q2
    rw [pfx_out (by omega)] at this
    rw [pfx_out (by omega),this]
    exact sv_ev hX (by omega) ev'
  ·rintro K K' ⟨G,a,M,hM,hG,ha,rfl,_⟩ ⟨G',a',M',hM',hG',ha',rfl,_⟩
   by_cases hx:∃c,G (pfx a t c)=true∧G' (pfx a' t c)=true
   ·obtain ⟨x,x1,x2⟩:=hx
    have eo:∀q,Y.sB v≤q→q < Y.eB v→2 * q+1 < t→a (2 * q+1)=a' (2 * q+1):=fun q q1 q2 q3=>by
     have:=vf_det hX hse heb hG hG' x1 x2 (fun q _=>pfx_ag (fun h=>by rw [ha q h,ha' q h]) fun _=>rfl) q q1 q2
     rwa [pfx_in q3,pfx_in q3] at this
    have e2:∀c,G' (pfx a' t c)=G' (pfx a t c):=fun c=>vf_pfx hX hse heb hG' (fun q hq=>by rw [ha q hq,ha' q hq]) fun q q1 q2 q3=>(eo q q1 q2 q3).symm
    rcases mv_lam hM hM' with h | h | h
    ·exact .inl fun c hc=>by
      show G' (pfx a' t c)=true
      rw [e2,hG']
      obtain ⟨u1,u2⟩:=(hG _).1 hc
      exact ⟨h _ u1,u2⟩
    ·refine .inr (.inl fun c hc=>?_)
     have hc:G' (pfx a' t c)=true:=hc
     rw [e2,hG'] at hc
     show G (pfx a t c)=true
     exact (hG _).2 ⟨h _ hc.1,hc.2⟩
    ·exfalso
     rw [e2,hG'] at x2
     exact h _ ⟨((hG _).1 x1).1,x2.1⟩
   ·exact .inr (.inr fun c hc=>hx ⟨c,hc⟩)
  ·rintro K ⟨G,a,M,hM,hG,ha,e,h⟩
   exact h
 obtain ⟨L,hL⟩:=Classical.skolem.1 hl
 refine ⟨Λ.flatMap L,?_,fun G ⟨M,hM,hG⟩ a hd=>?_⟩
 ·refine Nat.le_trans (len_flat L _ (fun π=>(hL π).1) Λ) (Nat.le_trans (Nat.mul_le_mul_right _ l1) (Nat.le_of_eq ?_))
  rw [Nat.mul_sub,Nat.mul_one,←Nat.pow_add,show (t+1) / 2+(b - (t+1) / 2)=b by omega]
 ·obtain ⟨π,m1,m2⟩:=l2 a
  by_cases h2:∃c c':Nat→Bool,G (pfx a t c)=true∧G (pfx a t c')=true∧∃q,(t+1) / 2≤q∧q < b∧c (2 * q)≠c' (2 * q)
  ·exact .inl (List.mem_flatMap.2 ⟨π,m1,(hL π).2 _ ⟨G,a,M,hM,hG,m2,rfl,h2⟩⟩)
  ·obtain ⟨x,hx⟩:=dep_true hd
   exact .inr (hS1 _ ⟨t,x,h0,by omega,vf_one hX hse heb hG hx h2⟩)
theorem lev_va (hv:∃j,j < X.E∧X.lab j=v) (hS0:∀K:BFn,(∀a c:Nat→Bool,(∀p,b - 3≤p→p < b→a (2 * p)=c (2 * p))→K a=K c)→S K) {t:Nat} (ht:2 * Y.eB v≤t) :
  ∃L:List BFn,L.length≤(if t % 2=0∧t < 2 * (b - 3) then min (2 ^ (t / 2)) (X.cnt v 0 * 2 ^ X.cnt v 0) else 0)∧∀G,FV X Y v G→∀a,Dep (fun c=>G (pfx a t c)) t→(fun c=>G (pfx a t c)) ∈ L∨S (fun c=>G (pfx a t c))∨∃g,FX X Y g∧(fun c=>G (pfx a t c))=fun c=>g (pfx a t c):=by
 have only:∀{M:Option Nat→Prop} {G:BFn},VF X Y v M G→∀{a c c':Nat→Bool},(∀q,t≤2 * q→q < b→c (2 * q)=c' (2 * q))→G (pfx a t c)=G (pfx a t c'):=fun {M G} hG {a c c'} h=>vf_fin hX hse heb hG fun i i1 i2 i3=>by
  rcases Nat.mod_two_eq_zero_or_one i with h0 | h0
  ·have:=h (i / 2) (by omega) (by omega)
   rwa [show 2 * (i / 2)=i by omega] at this
  ·have:=relVr_od hX hse heb h0 i3
   omega
 have nd:∀{M:Option Nat→Prop} {G:BFn},VF X Y v M G→∀{a},Dep (fun c=>G (pfx a t c)) t→t % 2=0:=fun {M G} hG {a} ⟨x,hx⟩=>Classical.byContradiction fun ho=>hx (only hG fun q q1 _=>by rw [upd_ne (by omega),upd_ne (by omega)])
 by_cases hc:t % 2=0∧t < 2 * (b - 3)
 rotate_left
 ·rw [if_neg hc]
  refine ⟨[],by simp,fun G ⟨M,hM,hG⟩ a hd=>.inr (.inl (hS0 _ fun x y hxy=>only hG fun q q1 q2=>hxy q ?_ q2))⟩
  have:=nd hG hd
  have:¬t < 2 * (b - 3):=fun h=>hc ⟨this,h⟩
  omega
 rw [if_pos hc]
 -- what an assignment's part means
 obtain ⟨gC,hC⟩:=ex_vf hX hse heb (v:=v) (Y:=Y) (fun _=>True)
 obtain ⟨j0,⟨_,j01,j02,_⟩,j03⟩:=least_of hX hse heb (v:=v) (j:=0) (P:=fun _=>True) (by obtain ⟨j,h1,h2⟩:=hv; exact ⟨j,Nat.zero_le _,h1,h2,trivial⟩)
 obtain ⟨gN,hN⟩:=ex_fn fun a=>∀i,X.la (X.lab j0) a=some i→i < j0
 have fN:FX X Y gN:=⟨j0,j01,.inr (.inl hN)⟩
 have eN:∀a,gN a=true↔X.la v a=none:=fun a=>by
  rw [hN,j02]
  constructor
  ·intro h
   cases hla:X.la v a with
   | none=>rfl
   | some i =>
    have h1:=h i hla
    obtain ⟨h2,h3,_⟩:=X.la_some.1 hla
    have:=j03 i (Nat.zero_le _) h2 h3 trivial
    omega
  ·intro h i hi
   rw [h] at hi
   cases hi
 -- those with a last effect
 have big:∀a j,∀g:BFn,(∃c,g (pfx a t c)=true)→(∀c,g (pfx a t c)=true↔(∃i,X.la v (pfx a t c)=some i∧j≤i)∧∀q,Y.sB v≤q→q < Y.eB v→pfx a t c (2 * q+1)=X.sv v q (pfx a t c))→∃g',FX X Y g'∧(fun c=>g (pfx a t c))=fun c=>g' (pfx a t c):=fun a j g ⟨x,hx⟩ hg=>by
  obtain ⟨⟨i,hi,hji⟩,hxo⟩:=(hg x).1 hx
  obtain ⟨li,lv,_⟩:=X.la_some.1 hi
  have hsv:∀{c:Nat→Bool} {i:Nat},X.la v (pfx a t c)=some i→((∀q,Y.sB v≤q→q < Y.eB v→pfx a t c (2 * q+1)=X.sv v q (pfx a t c))↔∀q,Y.sB v≤q→q < Y.eB v→a (2 * q+1)=X.val i q):=fun {c i} hi=>by
   constructor
   ·intro h q q1 q2
    have:=h q q1 q2
    rw [pfx_in (by omega)] at this
    rw [this]
    unfold Eff.sv
    rw [hi]
   ·intro h q q1 q2
    rw [pfx_in (by omega),h q q1 q2]
    unfold Eff.sv
    rw [hi]
  obtain ⟨j',⟨j1,j2,j3,j4⟩,j5⟩:=least_of hX hse heb (v:=v) (P:=fun i=>∀q,Y.sB v≤q→q < Y.eB v→a (2 * q+1)=X.val i q) ⟨i,hji,li,lv,(hsv hi).1 hxo⟩
  obtain ⟨g',hg'⟩:=ex_fn fun a=>∃i,X.la (X.lab j') a=some i∧j'≤i∧∀q,Y.sB (X.lab j')≤q→q < Y.eB (X.lab j')→X.val i q=X.val j' q
  refine ⟨g',⟨j',j2,.inr (.inr hg')⟩,funext fun c=>?_⟩
  rw [Bool.eq_iff_iff,hg,hg',j3]
  constructor
  ·rintro ⟨⟨k,k1,k2⟩,k3⟩
   have k4:=(hsv k1).1 k3
   exact ⟨k,k1,j5 k k2 (X.la_some.1 k1).1 (X.la_some.1 k1).2.1 k4,fun q q1 q2=>by rw [←k4 q q1 q2,j4 q q1 q2]⟩
  ·rintro ⟨k,k1,k2,k3⟩
   exact ⟨⟨k,k1,by omega⟩,(hsv k1).2 fun q q1 q2=>by rw [j4 q q1 q2,k3 q q1 q2]⟩
 -- the functions in which the variable keeps its value,too
 have U:∃L:List BFn,L.length≤min (2 ^ (t / 2)) (X.cnt v 0 * 2 ^ X.cnt v 0)∧∀a,(∀q,Y.sB v≤q→q < Y.eB v→a (2 * q+1)=a (2 * q))→(fun c=>gC (pfx a t c)) ∈ L∨(fun c=>gC (pfx a t c))=fun c=>gN (pfx a t c):=by
  by_cases hm:2 ^ (t / 2)≤X.cnt v 0 * 2 ^ X.cnt v 0
  ·rw [Nat.min_eq_left hm]
   obtain ⟨Λ,l1,l2⟩:=ev_reps hX hse heb t
   rw [show (t+1) / 2=t / 2 by omega] at l1
   refine ⟨Λ.map fun π=>fun c=>gC (pfx (fun i=>if i % 2=0 then π i else π (i - 1)) t c),by rw [List.length_map]; exact l1,fun a ha=>.inl ?_⟩
   obtain ⟨π,m1,m2⟩:=l2 a
   refine List.mem_map.2 ⟨π,m1,funext fun c=>(vf_pfx hX hse heb hC (fun q hq=>?_) fun q q1 q2 q3=>?_).symm⟩
   ·show a (2 * q)=(if 2 * q % 2=0 then π (2 * q) else _)
    rw [if_pos (by omega)]
    exact m2 q hq
   ·show a (2 * q+1)=(if (2 * q+1) % 2=0 then _ else π (2 * q+1 - 1))
    rw [if_neg (by omega),show 2 * q+1 - 1=2 * q by omega,ha q q1 q2]
    exact m2 q (by omega)
  ·rw [Nat.min_eq_right (by omega)]
   have hl:∀j,∃(L:List BFn) (u:BFn),L.length≤2 ^ X.cnt v 0∧(∀a,u a=true↔X.la v a=none∨∃i,X.la v a=some i∧∀q,Y.sB v≤q→q < Y.eB v→X.val i q=X.val j q)∧∀a,(fun c=>u (pfx a t c)) ∈ L:=fun j=>by
    obtain ⟨u,hu⟩:=ex_fn fun a=>X.la v a=none∨∃i,X.la v a=some i∧∀q,Y.sB v≤q→q < Y.eB v→X.val i q=X.val j q
    obtain ⟨L,l1,l2⟩:=key_at hX (t:=t) (v:=v) (j:=0) u fun a a' c h=>by
     have e:=X.la_eq (v:=v) (a:=pfx a t c) (a':=pfx a' t c) fun i h1 h2=>h i (Nat.zero_le _) h1 h2
     rw [Bool.eq_iff_iff,hu,hu,e]
    exact ⟨L,u,Nat.le_trans l1 (Nat.min_le_right _ _),hu,l2⟩
   obtain ⟨L,hL⟩:=Classical.skolem.1 hl
   refine ⟨((List.range X.E).filter fun i=>decide (0≤i) && decide (X.lab i=v)).flatMap L,len_flat L _ (fun j=>by obtain ⟨u,h,_⟩:=hL j; exact h) _,fun a ha=>?_⟩
   have mean:∀c,gC (pfx a t c)=true↔X.la v (pfx a t c)=none∨∃i,X.la v (pfx a t c)=some i∧∀q,Y.sB v≤q→q < Y.eB v→X.val i q=a (2 * q):=fun c=>by
    rw [hC]
    constructor
    ·rintro ⟨_,h⟩
     cases hla:X.la v (pfx a t c) with
     | none=>exact .inl rfl
     | some i =>
      refine .inr ⟨i,rfl,fun q q1 q2=>?_⟩
      have:=h q q1 q2
      rw [pfx_in (by omega),ha q q1 q2] at this
      rw [this]
      unfold Eff.sv
      rw [hla]
    ·intro h
     refine ⟨trivial,fun q q1 q2=>?_⟩
     rw [pfx_in (by omega),ha q q1 q2]
     unfold Eff.sv
     rcases h with h | ⟨i,h,h2⟩
     ·rw [h]
      exact (pfx_in (by omega)).symm
     ·rw [h]
      exact (h2 q q1 q2).symm
   by_cases hj:∃j,j < X.E∧X.lab j=v∧∀q,Y.sB v≤q→q < Y.eB v→X.val j q=a (2 * q)
   ·obtain ⟨j,h1,h2,h3⟩:=hj
    obtain ⟨u,_,hu,hm⟩:=hL j
    refine .inl (List.mem_flatMap.2 ⟨j,(ons_mem hX hse heb).2 ⟨h1,h2⟩,?_⟩)
    have:(fun c=>gC (pfx a t c))=fun c=>u (pfx a t c):=funext fun c=>by
     rw [Bool.eq_iff_iff,mean,hu]
     refine or_congr Iff.rfl ⟨fun ⟨i,i1,i2⟩=>⟨i,i1,fun q q1 q2=>by rw [i2 q q1 q2,h3 q q1 q2]⟩,fun ⟨i,i1,i2⟩=>⟨i,i1,fun q q1 q2=>by rw [i2 q q1 q2,h3 q q1 q2]⟩⟩
    rw [this]
    exact hm a
   ·refine .inr (funext fun c=>?_)
    rw [Bool.eq_iff_iff,mean,eN]
    constructor
    ·rintro (h | ⟨i,i1,i2⟩)
     ·exact h
     ·exact absurd ⟨i,(X.la_some.1 i1).1,(X.la_some.1 i1).2.1,i2⟩ hj
    ·exact .inl
 obtain ⟨L,l1,l2⟩:=U
 refine ⟨L,l1,fun G ⟨M,hM,hG⟩ a hd=>?_⟩
 obtain ⟨x,hx⟩:=dep_true hd
 rcases hM with ⟨j,hj,hlab,rfl | rfl⟩ | rfl | rfl
 · -- one effect
  obtain ⟨hMx,hxo⟩:=(hG _).1 hx
  obtain ⟨g,hg⟩:=ex_fn fun a=>X.la (X.lab j) a=some j
  refine .inr (.inr ⟨g,⟨j,hj,.inl hg⟩,funext fun c=>?_⟩)
  rw [Bool.eq_iff_iff,hG,hg,hlab]
  refine ⟨fun h=>h.1,fun h=>⟨h,fun q q1 q2=>?_⟩⟩
  have:=hxo q q1 q2
  unfold Eff.sv at this ⊢
  rw [hMx,pfx_in (by omega)] at this
  rw [h,pfx_in (by omega)]
  exact this
 ·exact .inr (.inr (big a j G ⟨x,hx⟩ fun c=>hG _))
 ·obtain ⟨hMx,hxo⟩:=(hG _).1 hx
  refine .inr (.inr ⟨gN,fN,funext fun c=>?_⟩)
  rw [Bool.eq_iff_iff,hG,eN]
  refine ⟨fun h=>h.1,fun h=>⟨h,fun q q1 q2=>?_⟩⟩
  have:=hxo q q1 q2
  unfold Eff.sv at this ⊢
  rw [hMx,pfx_in (by omega),pfx_in (by omega)] at this
  rw [h,pfx_in (by omega),pfx_in (by omega)]
  exact this
 ·rw [vf_uniq hX hse heb hG hC]
  by_cases h:∀q,Y.sB v≤q→q < Y.eB v→a (2 * q+1)=a (2 * q)
  ·rcases l2 a h with h1 | h1
   ·exact .inl h1
   ·exact .inr (.inr ⟨gN,fN,h1⟩)
  ·rw [vf_uniq hX hse heb hG hC] at hx
   refine .inr (.inr (big a 0 gC ⟨x,hx⟩ fun c=>?_))
   rw [hC]
   constructor
   ·rintro ⟨_,h3⟩
    cases hla:X.la v (pfx a t c) with
    | some i=>exact ⟨⟨i,rfl,Nat.zero_le _⟩,h3⟩
    | none =>
     exfalso
     refine h fun q q1 q2=>?_
     have:=h3 q q1 q2
     unfold Eff.sv at this
     rw [hla,pfx_in (by omega),pfx_in (by omega)] at this
     exact this
   ·rintro ⟨_,h3⟩
    exact ⟨trivial,h3⟩
theorem lev_v (hv:∃j,j < X.E∧X.lab j=v) (hS0:∀K:BFn,(∀a c:Nat→Bool,(∀p,b - 3≤p→p < b→a (2 * p)=c (2 * p))→K a=K c)→S K) (hS1:∀K,PtS (relVr Y v) (2 * b) t0 K→S K) (hS2:∀K,DetS (relVr Y v) (2 * b) t1 K→S K) {t:Nat} (ht:t < 2 * b) :
  ∃L:List BFn,L.length≤vM X Y b t0 t1 v t∧∀G,FV X Y v G→∀a,Dep (fun c=>G (pfx a t c)) t→(fun c=>G (pfx a t c)) ∈ L∨S (fun c=>G (pfx a t c))∨∃g,FX X Y g∧(fun c=>G (pfx a t c))=fun c=>g (pfx a t c):=by
 unfold vM
 by_cases h1:t1≤t
 ·rw [if_pos h1]
  exact ⟨[],Nat.zero_le _,fun G ⟨M,hM,hG⟩ a _=>.inr (.inl (hS2 _ ⟨t,h1,vf_detA hX hse heb hG t a⟩))⟩
 rw [if_neg h1]
 by_cases h2:t≤2 * Y.sB v
 ·rw [if_pos h2]
  obtain ⟨L,a1,a2⟩:=lev_vb hX hse heb h2
  exact ⟨L,a1,fun G hG a hd=>.inl (a2 G hG a hd)⟩
 rw [if_neg h2]
 by_cases h3:t < 2 * Y.eB v
 ·rw [if_pos h3]
  by_cases h0:t < t0
  ·rw [if_pos h0]
   obtain ⟨L,a1,a2⟩:=lev_vi hX hse heb hv t
   exact ⟨L,a1,fun G hG a hd=>.inl (a2 G hG a hd)⟩
  ·rw [if_neg h0]
   by_cases hm:(2 * X.cnt v 0+2) * 2 ^ ((t+1) / 2)≤2 ^ b - 2 ^ ((t+1) / 2)
   ·obtain ⟨L,a1,a2⟩:=lev_vi hX hse heb hv t
    exact ⟨L,by rw [Nat.min_eq_left hm]; exact a1,fun G hG a hd=>.inl (a2 G hG a hd)⟩
   ·obtain ⟨L,a1,a2⟩:=lev_vl hX hse heb hS1 ht (by omega)
    exact ⟨L,by rw [Nat.min_eq_right (by omega)]; exact a1,fun G hG a hd=>(a2 G hG a hd).imp id .inl⟩
 ·rw [if_neg h3]
  exact lev_va hX hse heb hv hS0 (by omega)
end
end Go.Sy
end
