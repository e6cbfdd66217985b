/-
  A part of the proof of this claim's statement (SyCw, SyBA, SyAR, SyBB, SyDA, SyDB, SyDC): plain theorems; no conditions beyond those each names.
-/
import Derived.Test.YtcoeknnghfajnaaGreatPk21
import Derived.Test.YtcoeknnghfajnaaGreatPk12
set_option maxRecDepth 100000
set_option linter.unusedSimpArgs false
set_option linter.unusedVariables false
set_option linter.unusedSectionVars false
section
namespace Go.Sy
open Go.Bd
def IvIn (s w:Nat) (G:BFn):Prop:=∀a b:Nat→Bool,(∀i,s≤i→i < s+w→a i=b i)→G a=G b
theorem cov_iv {n s w N:Nat} {G:BFn} (h:IvIn s w G) (hN:2 ^ w≤N+1):CovW n (fun K=>K=G) N:=by
 refine ⟨(List.range w).flatMap fun k=>(List.range (2 ^ k)).map fun p=>fun b=>G (pfx (fun i=>p.testBit (k - 1 - (i - s))) (s+k) b),by have:=len_pats (fun k p=>fun b=>G (pfx (fun i=>p.testBit (k - 1 - (i - s))) (s+k) b)) w; omega,?_⟩
 rintro _ rfl t a ht ⟨b,hb⟩
 have hin:∃k,k < w∧t=s+k:=by
  apply Classical.byContradiction
  intro hn
  apply hb
  refine h _ _ fun p h1 h2=>?_
  unfold pfx
  by_cases h3:p < t
  ·rw [if_pos h3,if_pos h3]
  ·rw [if_neg h3,if_neg h3]
   by_cases h4:p=t
   ·exact absurd ⟨p - s,by omega,by omega⟩ hn
   ·rw [upd_ne h4,upd_ne h4]
 obtain ⟨k,hk,rfl⟩:=hin
 obtain ⟨p,hp,hbits⟩:=bits_of (fun i=>a (s+i)) k
 refine List.mem_flatMap.2 ⟨k,List.mem_range.2 hk,List.mem_map.2 ⟨p,List.mem_range.2 hp,funext fun c=>h _ _ fun q h1 h2=>?_⟩⟩
 simp only [pfx]
 by_cases h3:q < s+k
 ·rw [if_pos h3,if_pos h3]
  have:=hbits (q - s) (by omega)
  rw [show s+(q - s)=q by omega] at this
  exact this.symm
 ·rw [if_neg h3,if_neg h3]
theorem cov_and2 {n s NB NR:Nat} {B R:BFn} (hB:∀a b:Nat→Bool,(∀i,i < s→a i=b i)→B a=B b) (hR:∀a b:Nat→Bool,(∀i,s≤i→a i=b i)→R a=R b)
  (cB:CovW n (fun K=>K=B) NB) (cR:CovW n (fun K=>K=R) NR):CovW n (fun K=>K=fun a=>B a && R a) (NB+NR):=by
 obtain ⟨LB,b1,b2⟩:=cB
 obtain ⟨LR,r1,r2⟩:=cR
 refine ⟨LB.map (fun K b=>K b && R b) ++ LR,by rw [List.length_append,List.length_map]; omega,?_⟩
 rintro _ rfl t a ht hd
 by_cases hts:t < s
 ·have eR:∀b,R (pfx a t b)=R b:=fun b=>hR _ _ fun i hi=>by unfold pfx; rw [if_neg (by omega)]
  refine List.mem_append_left _ (List.mem_map.2 ⟨fun b=>B (pfx a t b),b2 B rfl t a ht ?_,funext fun b=>by
   show (B (pfx a t b) && R b)=(B (pfx a t b) && R (pfx a t b))
   rw [eR]⟩)
  obtain ⟨b,hb⟩:=hd
  refine ⟨b,fun e=>hb ?_⟩
  have e:B (pfx a t (upd b t true))=B (pfx a t (upd b t false)):=e
  show (B (pfx a t (upd b t true)) && R (pfx a t (upd b t true)))=(B (pfx a t (upd b t false)) && R (pfx a t (upd b t false)))
  rw [e,eR,eR,hR (upd b t true) (upd b t false) fun i hi=>by rw [upd_ne (by omega),upd_ne (by omega)]]
 ·have eB:∀b,B (pfx a t b)=B a:=fun b=>hB _ _ fun i hi=>by unfold pfx; rw [if_pos (by omega)]
  cases hBa:B a with
  | false =>
   obtain ⟨b,hb⟩:=hd
   exfalso
   apply hb
   show (B (pfx a t (upd b t true)) && R (pfx a t (upd b t true)))=(B (pfx a t (upd b t false)) && R (pfx a t (upd b t false)))
   rw [eB,eB,hBa]
   rfl
  | true =>
   have e:(fun b=>B (pfx a t b) && R (pfx a t b))=fun b=>R (pfx a t b):=funext fun b=>by rw [eB,hBa]; rfl
   rw [e] at hd ⊢
   exact List.mem_append_right _ (r2 R rfl t a ht hd)
theorem cov_const {n:Nat} (c:Bool):CovW n (fun K=>K=fun _=>c) 0:=⟨[],Nat.le_refl _,by
 rintro _ rfl t a ht ⟨b,hb⟩
 exact absurd rfl hb⟩
theorem CovW.list {n N:Nat} {α:Type} (P:α→BFn→Prop):∀l:List α,(∀x ∈ l,CovW n (P x) N)→CovW n (fun G=>∃x ∈ l,P x G) (l.length * N)
 | [],_=>(CovW.none n).mono (fun G ⟨x,h,_⟩=>by cases h) (Nat.zero_le _)
 | x :: l,h=>((h x (by simp)).or (CovW.list P l fun y hy=>h y (by simp [hy]))).mono (fun G ⟨y,hy,e⟩=>by
   rcases List.mem_cons.1 hy with rfl | hy
   ·exact .inl e
   ·exact .inr ⟨y,hy,e⟩) (by rw [List.length_cons,Nat.succ_mul,Nat.add_comm]; exact Nat.le_refl _)
def pairB (b:Nat) (D:Nat→Bool→Bool→Bool) (a:Nat→Bool):Bool:=(List.range b).all fun p=>D p (a (2 * p)) (a (2 * p+1))
theorem pairB_iff {b:Nat} {D:Nat→Bool→Bool→Bool} {a:Nat→Bool}:pairB b D a=true↔∀p,p < b→D p (a (2 * p)) (a (2 * p+1))=true:=by
 unfold pairB
 rw [List.all_eq_true]
 exact ⟨fun h p hp=>h p (List.mem_range.2 hp),fun h p hp=>h p (List.mem_range.1 hp)⟩
def PairF (b:Nat) (G:BFn):Prop:=∃c D,∀a,G a=(c && pairB b D a)
theorem cov_pair {n:Nat} (D:Nat→Bool→Bool→Bool):∀b,CovW n (fun K=>K=pairB b D) (3 * b)
 | 0=>(cov_const true).mono (fun K h=>h) (Nat.le_refl _)
 | b+1=>by
  have e:pairB (b+1) D=fun a=>pairB b D a && D b (a (2 * b)) (a (2 * b+1)):=funext fun a=>by
   unfold pairB
   rw [List.range_succ,List.all_append]
   simp
  rw [e]
  refine (cov_and2 (s:=2 * b) (NR:=3) ?_ ?_ (cov_pair D b) (cov_iv (s:=2 * b) (w:=2) ?_ (by omega))).mono (fun _ h=>h) (by omega)
  ·intro a c h
   rw [Bool.eq_iff_iff,pairB_iff,pairB_iff]
   constructor <;> intro h2 p hp <;> have:=h2 p hp
   ·rwa [h _ (by omega),h _ (by omega)] at this
   ·rwa [←h _ (by omega),←h _ (by omega)] at this
  ·intro a c h
   rw [h _ (by omega),h _ (by omega)]
  ·intro a c h
   show D b (a (2 * b)) (a (2 * b+1))=D b (c (2 * b)) (c (2 * b+1))
   rw [h _ (by omega) (by omega),h _ (by omega) (by omega)]
theorem PairF.cov {n b:Nat} {G:BFn} (h:PairF b G):CovW n (fun K=>K=G) (3 * b):=by
 obtain ⟨c,D,h⟩:=h
 have e:G=fun a=>c && pairB b D a:=funext h
 rw [e]
 cases c with
 | false=>exact (cov_const false).mono (fun _ h=>h) (Nat.zero_le _)
 | true=>exact cov_pair D b
theorem PairF.const (b:Nat) (c:Bool):PairF b fun _=>c:=⟨c,fun _ _ _=>true,fun a=>by
 have:pairB b (fun _ _ _=>true) a=true:=pairB_iff.2 fun _ _=>rfl
 rw [this,Bool.and_true]⟩
theorem PairF.and {b:Nat} {G H:BFn} (h1:PairF b G) (h2:PairF b H):PairF b fun a=>G a && H a:=by
 obtain ⟨c1,D1,e1⟩:=h1
 obtain ⟨c2,D2,e2⟩:=h2
 refine ⟨c1 && c2,fun p x y=>D1 p x y && D2 p x y,fun a=>?_⟩
 show (G a && H a)=_
 rw [e1,e2,Bool.eq_iff_iff]
 simp only [Bool.and_eq_true,pairB_iff]
 exact ⟨fun ⟨⟨p1,p2⟩,q1,q2⟩=>⟨⟨p1,q1⟩,fun p hp=>⟨p2 p hp,q2 p hp⟩⟩,fun ⟨⟨p1,q1⟩,h⟩=>⟨⟨p1,fun p hp=>(h p hp).1⟩,q1,fun p hp=>(h p hp).2⟩⟩
theorem PairF.all {b:Nat} {α:Type} (f:α→BFn):∀l:List α,(∀x ∈ l,PairF b (f x))→PairF b fun a=>l.all fun x=>f x a
 | [],_=>by simpa using PairF.const b true
 | x :: l,h=>by
  have:=(h x (by simp)).and (PairF.all f l fun y hy=>h y (by simp [hy]))
  simpa using this
theorem PairF.one {b p:Nat} (hp:p < b) (f:Bool→Bool→Bool):PairF b fun a=>f (a (2 * p)) (a (2 * p+1)):=by
 refine ⟨true,fun q x y=>decide (q≠p) || f x y,fun a=>?_⟩
 rw [Bool.true_and,Bool.eq_iff_iff,pairB_iff]
 constructor
 ·intro h q hq
  by_cases e:q=p
  ·subst e; simp [h]
  ·simp [e]
 ·intro h
  simpa using h p hp
end Go.Sy
namespace Go.Sy
open Go.Bd
def PairL (s w:Nat) (G:BFn):Prop:=∃(c:Bool) (D:Nat→Bool→Bool→Bool),∀a,G a=(c && (List.range w).all fun p=>D p (a (2 * (s+p))) (a (2 * (s+p)+1)))
theorem rangeAll {w:Nat} {f:Nat→Bool}:((List.range w).all f)=true↔∀p,p < w→f p=true:=by
 rw [List.all_eq_true]
 exact ⟨fun h p hp=>h p (List.mem_range.2 hp),fun h p hp=>h p (List.mem_range.1 hp)⟩
theorem PairL.eq {s w:Nat} {G H:BFn} (h:PairL s w G) (e:∀a,H a=G a):PairL s w H:=by
 obtain ⟨c,D,h⟩:=h
 exact ⟨c,D,fun a=>by rw [e,h]⟩
theorem PairL.const (s w:Nat) (c:Bool):PairL s w fun _=>c:=⟨c,fun _ _ _=>true,fun a=>by
 have:((List.range w).all fun p=>true)=true:=rangeAll.2 fun _ _=>rfl
 rw [this,Bool.and_true]⟩
theorem PairL.and {s w:Nat} {G H:BFn} (h1:PairL s w G) (h2:PairL s w H):PairL s w fun a=>G a && H a:=by
 obtain ⟨c1,D1,e1⟩:=h1
 obtain ⟨c2,D2,e2⟩:=h2
 refine ⟨c1 && c2,fun p x y=>D1 p x y && D2 p x y,fun a=>?_⟩
 show (G a && H a)=_
 rw [e1,e2,Bool.eq_iff_iff]
 simp only [Bool.and_eq_true,rangeAll]
 exact ⟨fun ⟨⟨p1,p2⟩,q1,q2⟩=>⟨⟨p1,q1⟩,fun p hp=>⟨p2 p hp,q2 p hp⟩⟩,fun ⟨⟨p1,q1⟩,h⟩=>⟨⟨p1,fun p hp=>(h p hp).1⟩,q1,fun p hp=>(h p hp).2⟩⟩
theorem PairL.all {s w:Nat} {α:Type} (f:α→BFn):∀l:List α,(∀x ∈ l,PairL s w (f x))→PairL s w fun a=>l.all fun x=>f x a
 | [],_=>by simpa using PairL.const s w true
 | x :: l,h=>by
  have:=(h x (by simp)).and (PairL.all f l fun y hy=>h y (by simp [hy]))
  simpa using this
theorem PairL.one {s w p:Nat} (hp:p < w) (f:Bool→Bool→Bool):PairL s w fun a=>f (a (2 * (s+p))) (a (2 * (s+p)+1)):=by
 refine ⟨true,fun q x y=>decide (q≠p) || f x y,fun a=>?_⟩
 rw [Bool.true_and,Bool.eq_iff_iff,rangeAll]
 constructor
 ·intro h q hq
  by_cases e:q=p
  ·subst e; simp [h]
  ·simp [e]
 ·intro h
  simpa using h p hp
theorem PairL.cov {n s w:Nat} {G:BFn} (h:PairL s w G):CovW n (fun K=>K=G) (3 * w):=by
 obtain ⟨c,D,h⟩:=h
 have e:G=fun a=>c && (List.range w).all fun p=>D p (a (2 * (s+p))) (a (2 * (s+p)+1)):=funext h
 rw [e]
 cases c with
 | false=>exact (cov_const false).mono (fun _ h=>h) (Nat.zero_le _)
 | true =>
  clear e h
  show CovW n (fun K=>K=fun a=>(List.range w).all fun p=>D p (a (2 * (s+p))) (a (2 * (s+p)+1))) (3 * w)
  induction w with
  | zero=>exact (cov_const true).mono (fun K h=>h) (Nat.le_refl _)
  | succ w ih =>
   have e:(fun a:Nat→Bool=>(List.range (w+1)).all fun p=>D p (a (2 * (s+p))) (a (2 * (s+p)+1)))=fun a=>((List.range w).all fun p=>D p (a (2 * (s+p))) (a (2 * (s+p)+1))) && D w (a (2 * (s+w))) (a (2 * (s+w)+1)):=funext fun a=>by
    rw [List.range_succ,List.all_append]
    simp
   rw [e]
   refine (cov_and2 (s:=2 * (s+w)) (B:=fun a=>(List.range w).all fun p=>D p (a (2 * (s+p))) (a (2 * (s+p)+1))) (R:=fun a=>D w (a (2 * (s+w))) (a (2 * (s+w)+1))) (NR:=3) ?_ ?_ ih (cov_iv (s:=2 * (s+w)) (w:=2) ?_ (by omega))).mono (fun _ h=>h) (by omega)
   ·intro a c h
    show ((List.range w).all fun p=>D p (a (2 * (s+p))) (a (2 * (s+p)+1)))=((List.range w).all fun p=>D p (c (2 * (s+p))) (c (2 * (s+p)+1)))
    rw [Bool.eq_iff_iff,rangeAll,rangeAll]
    constructor <;> intro h2 p hp <;> have:=h2 p hp
    ·rwa [h _ (by omega),h _ (by omega)] at this
    ·rwa [←h _ (by omega),←h _ (by omega)] at this
   ·intro a c h
    show D w (a (2 * (s+w))) (a (2 * (s+w)+1))=D w (c (2 * (s+w))) (c (2 * (s+w)+1))
    rw [h _ (by omega),h _ (by omega)]
   ·intro a c h
    show D w (a (2 * (s+w))) (a (2 * (s+w)+1))=D w (c (2 * (s+w))) (c (2 * (s+w)+1))
    rw [h _ (by omega) (by omega),h _ (by omega) (by omega)]
theorem PairL.pair {s w b:Nat} {G:BFn} (h:PairL s w G) (hb:s+w≤b):PairF b G:=by
 obtain ⟨c,D,h⟩:=h
 refine ⟨c,fun p x y=>decide (p < s) || decide (s+w≤p) || D (p - s) x y,fun a=>?_⟩
 rw [h,Bool.eq_iff_iff,Bool.and_eq_true,Bool.and_eq_true,rangeAll,pairB_iff]
 constructor
 ·rintro ⟨h1,h2⟩
  refine ⟨h1,fun p hp=>?_⟩
  by_cases e1:p < s
  ·simp [e1]
  by_cases e2:s+w≤p
  ·simp [e2]
  have:=h2 (p - s) (by omega)
  rw [show s+(p - s)=p by omega] at this
  simp [this]
 ·rintro ⟨h1,h2⟩
  refine ⟨h1,fun p hp=>?_⟩
  have:=h2 (s+p) (by omega)
  simpa [show ¬s+p < s by omega,show ¬s+w≤s+p by omega,show s+p - s=p by omega] using this
def FinW (W:BFn→Prop) (N:Nat):Prop:=∃L:List BFn,L.length≤N∧∀G,W G→G ∈ L
theorem FinW.mono {W W':BFn→Prop} {N N':Nat} (h:FinW W N) (hw:∀G,W' G→W G) (hn:N≤N'):FinW W' N':=by
 obtain ⟨L,a,b⟩:=h
 exact ⟨L,Nat.le_trans a hn,fun G hG=>b G (hw G hG)⟩
theorem FinW.one (F:BFn):FinW (fun G=>G=F) 1:=⟨[F],Nat.le_refl _,fun G h=>by simp [h]⟩
theorem FinW.none:FinW (fun _=>False) 0:=⟨[],Nat.le_refl _,fun G h=>h.elim⟩
theorem FinW.or {W1 W2:BFn→Prop} {N1 N2:Nat} (h1:FinW W1 N1) (h2:FinW W2 N2):FinW (fun G=>W1 G∨W2 G) (N1+N2):=by
 obtain ⟨L1,a1,b1⟩:=h1
 obtain ⟨L2,a2,b2⟩:=h2
 refine ⟨L1 ++ L2,by rw [List.length_append]; omega,fun G hG=>?_⟩
 rcases hG with h | h
 ·exact List.mem_append_left _ (b1 G h)
 ·exact List.mem_append_right _ (b2 G h)
theorem FinW.each {c:Nat} (P:Nat→BFn→Prop):∀k,(∀i,i < k→FinW (P i) c)→FinW (fun G=>∃i,i < k∧P i G) (k * c)
 | 0,_=>FinW.none.mono (fun G ⟨i,hi,_⟩=>by omega) (Nat.zero_le _)
 | k+1,h=>((FinW.each P k fun i hi=>h i (by omega)).or (h k (by omega))).mono (fun G ⟨i,hi,e⟩=>by
   by_cases hk:i=k
   ·subst hk; exact .inr e
   ·exact .inl ⟨i,by omega,e⟩) (by rw [Nat.succ_mul]; exact Nat.le_refl _)
theorem FinW.cov {n N C:Nat} {W:BFn→Prop} (h:FinW W N) (hC:∀G,W G→CovW n (fun K=>K=G) C):CovW n W (N * C):=by
 obtain ⟨L,a,b⟩:=h
 refine (CovW.list (n:=n) (N:=C) (fun H G=>G=H∧W H) L fun H _=>?_).mono (fun G hG=>⟨G,b G hG,rfl,hG⟩) (Nat.mul_le_mul_right _ a)
 by_cases hH:W H
 ·exact (hC H hH).mono (fun G h=>h.1) (Nat.le_refl _)
 ·exact (CovW.none n).mono (fun G h=>hH h.2) (Nat.zero_le _)
end Go.Sy
end
section
namespace Go.Proofs.YtcoeknnghfajnaaGreat
open Go Go.W Go.Tk Go.Rx Go.Bd Go.Sy Go.Maps
theorem pl_bit {s w p nx:Nat} (hp:p < w) (hn:nx < 2) (f:Bool→Bool):PairL s w fun a=>f (a (2 * (s+p)+nx)):=by
 rcases (show nx=0∨nx=1 by omega) with rfl | rfl
 ·exact PairL.one hp fun x _=>f x
 ·exact PairL.one hp fun _ y=>f y
theorem pl_vl (vars:List Nat) (v x:Nat) {nx:Nat} (hn:nx < 2) (j:Nat):PairL (bP vars v) (wd (vars.getD v 0)) (vlB vars v x nx j) :=
 PairL.all (fun i a=>decide (a (2 * (bP vars v+(j+i))+nx)=x.testBit (wd (vars.getD v 0) - 1 - (j+i)))) _ fun i hi=>by
  have:=List.mem_range.1 hi
  exact pl_bit (by omega) hn fun y=>decide (y=x.testBit (wd (vars.getD v 0) - 1 - (j+i)))
theorem pl_rv (vars:List Nat) (v x:Nat) {nx:Nat} (hn:nx < 2):PairL (bP vars v) (wd (vars.getD v 0)) fun a=>decide (rv vars a nx v=x):=by
 by_cases hx:x < 2 ^ wd (vars.getD v 0)
 ·exact (pl_vl vars v x hn 0).eq fun a=>(vlB_all hx).symm
 ·exact (PairL.const _ _ false).eq fun a=>decide_eq_false fun e=>hx (by rw [←e]; exact rv_lt _ _ _ _)
theorem pl_sa (vars:List Nat) (v j:Nat):PairL (bP vars v) (wd (vars.getD v 0)) (saB vars v j) :=
 PairL.all (fun i a=>decide (a (2 * (bP vars v+(j+i)))=a (2 * (bP vars v+(j+i))+1))) _ fun i hi=>by
  have:=List.mem_range.1 hi
  exact PairL.one (by omega) fun x y=>decide (x=y)
theorem bP_wd {vars:List Nat} {v:Nat} (hv:v < vars.length):bP vars v+wd (vars.getD v 0)≤nBits vars:=by
 have hn:vars[v]? = some (vars.getD v 0):=by simp [List.getD,List.getElem?_eq_getElem hv]
 have h2:=bP_succ hn
 have h3:=bP_mono (vars:=vars) (show v+1≤vars.length by omega)
 rw [bP_all] at h3
 omega
theorem pf_fc {vars:List Nat} {l:List Go.Tk.Fc} (hr:∀f ∈ l,f.1 < vars.length) (j:Nat):PairF (nBits vars) (fcB vars l j) :=
 PairF.all (fun (f:Go.Tk.Fc) a=>decide (rv vars a 0 f.1=f.2)) _ fun f hf=>(pl_rv vars f.1 f.2 (by omega)).pair (bP_wd (hr f (List.mem_of_mem_drop hf)))
theorem finVl (vars:List Nat) (v x nx:Nat):FinW (VlS vars v x nx) 6:=((FinW.each (fun j G=>G=vlB vars v x nx j) _ fun j _=>FinW.one _).mono (fun _ h=>h) (by have:=wd_le (vars.getD v 0); omega))
def RelS2 (T:Nt) (o:No) (G:BFn):Prop:=(∃v,v < T.vars.length∧ChS T.vars o v G)∨((∃j,j < T.vars.length∧G=rlB T o j)∨FacS T.vars o.pre G∨G=fun a=>hdB (rs T.vars a 0) o.pre && rlB T o 0 a)
end Go.Proofs.YtcoeknnghfajnaaGreat
end
section
namespace Go.Proofs.YtcoeknnghfajnaaGreat
open Go Go.W Go.Tk Go.Rx Go.Bd Go.Sy Go.Maps
theorem wd_a:∀n,n < 65→1≤n→2 ^ (180 * wd n+4 * n)≤n ^ 240 * 2 ^ 4:=by decide +kernel
theorem wd_b:∀n,n < 65→1≤n→2 ^ (10 * wd n)≤n ^ 13:=by decide +kernel
theorem bs_a:∀l:List Nat,(∀n ∈ l,1≤n∧n≤64)→2 ^ (180 * nBits l+4 * l.sum)≤prL l ^ 240 * 2 ^ (4 * l.length)
 | [],_=>by simp [nBits,prL]
 | n :: l,h=>by
  have ih:=bs_a l fun m hm=>h m (by simp [hm])
  have hn:=h n (by simp)
  have h1:=wd_a n (by omega) hn.1
  have e1:180 * nBits (n :: l)+4 * (n :: l).sum=(180 * wd n+4 * n)+(180 * nBits l+4 * l.sum):=by
   unfold nBits
   simp only [List.map_cons,List.sum_cons]
   omega
  have e2:4 * (n :: l).length=4+4 * l.length:=by simp only [List.length_cons]; omega
  rw [e1,e2,Nat.pow_add,Nat.pow_add 2 4]
  show _≤(n * prL l) ^ 240 * _
  rw [Nat.mul_pow]
  calc _≤(n ^ 240 * 2 ^ 4) * (prL l ^ 240 * 2 ^ (4 * l.length)):=Nat.mul_le_mul h1 ih
   _=n ^ 240 * prL l ^ 240 * (2 ^ 4 * 2 ^ (4 * l.length)):=by simp only [Nat.mul_assoc,Nat.mul_left_comm (2 ^ 4)]
theorem bs_b:∀l:List Nat,(∀n ∈ l,1≤n∧n≤64)→2 ^ (10 * nBits l)≤prL l ^ 13
 | [],_=>by simp [nBits,prL]
 | n :: l,h=>by
  have ih:=bs_b l fun m hm=>h m (by simp [hm])
  have hn:=h n (by simp)
  have h1:=wd_b n (by omega) hn.1
  have e1:10 * nBits (n :: l)=10 * wd n+10 * nBits l:=by
   unfold nBits
   simp only [List.map_cons,List.sum_cons]
   omega
  rw [e1,Nat.pow_add]
  show _≤(n * prL l) ^ 13
  rw [Nat.mul_pow]
  exact Nat.mul_le_mul h1 ih
theorem sm_bs {T:Nt} (hT:SmT T):nBits T.vars≤11∧180 * nBits T.vars+4 * T.vars.sum≤2208:=by
 have hp:prL T.vars≤512:=by
  have:=hT.pr T.vars.length
  rwa [List.take_length] at this
 have h1:=bs_a T.vars hT.g.vars
 have h2:=bs_b T.vars hT.g.vars
 have h3:prL T.vars ^ 240≤512 ^ 240:=Nat.pow_le_pow_left hp _
 have h4:prL T.vars ^ 13≤512 ^ 13:=Nat.pow_le_pow_left hp _
 obtain ⟨E,hE⟩:∃E,E=9 * 240:=⟨_,rfl⟩
 have e3:(512:Nat) ^ 240=2 ^ E:=by rw [show (512:Nat)=2 ^ 9 from rfl,←Nat.pow_mul,hE]
 have e4:(512:Nat) ^ 13=2 ^ (9 * 13):=by rw [show (512:Nat)=2 ^ 9 from rfl,←Nat.pow_mul]
 rw [e3] at h3
 rw [e4] at h4
 have h5:10 * nBits T.vars≤9 * 13:=(Nat.pow_le_pow_iff_right (by omega)).1 (Nat.le_trans h2 h4)
 have h6:180 * nBits T.vars+4 * T.vars.sum≤E+4 * T.vars.length:=by
  refine (Nat.pow_le_pow_iff_right (a:=2) (by omega)).1 (Nat.le_trans h1 ?_)
  rw [Nat.pow_add 2 E]
  exact Nat.mul_le_mul_right _ h3
 have:=hT.vl
 omega
theorem sum_getD (l:List Nat):∀k,k≤l.length→((List.range k).map fun v=>l.getD v 0).sum=(l.take k).sum
 | 0,_=>by simp
 | k+1,h=>by
  have ih:=sum_getD l k (by omega)
  rw [List.range_succ,List.map_append,List.sum_append,ih,List.take_add_one,List.getElem?_eq_getElem (show k < l.length by omega),List.sum_append]
  simp [List.getD,List.getElem?_eq_getElem (show k < l.length by omega)]
theorem sum_mul (f:Nat→Nat) (c:Nat):∀l:List Nat,(l.map fun v=>f v * c).sum=(l.map f).sum * c
 | []=>by simp
 | v :: l=>by
  simp only [List.map_cons,List.sum_cons,sum_mul f c l,Nat.add_mul]
end Go.Proofs.YtcoeknnghfajnaaGreat
end
section
namespace Go.Proofs.YtcoeknnghfajnaaGreat
open Go Go.W Go.Tk Go.Rx Go.Bd Go.Sy Go.Maps
theorem bP_split {vars:List Nat}:∀k,k≤vars.length→∀p,p < bP vars k→∃v j,v < k∧j < wd (vars.getD v 0)∧p=bP vars v+j
 | 0,_,p,h=>by unfold bP at h; simp at h
 | k+1,hk,p,h=>by
  have hn:vars[k]? = some (vars.getD k 0):=by simp [List.getD,List.getElem?_eq_getElem (show k < vars.length by omega)]
  rw [bP_succ hn] at h
  by_cases hp:p < bP vars k
  ·obtain ⟨v,j,h1,h2,h3⟩:=bP_split k (by omega) p hp
   exact ⟨v,j,by omega,h2,h3⟩
  ·exact ⟨k,p - bP vars k,by omega,by omega,by omega⟩
theorem cov_blocks {n:Nat} (vars:List Nat) (B:Nat→BFn) (N:Nat→Nat) (hB:∀v,v < vars.length→IvIn (2 * bP vars v) (2 * wd (vars.getD v 0)) (B v)) (hN:∀v,v < vars.length→CovW n (fun K=>K=B v) (N v)) :
  ∀k,k≤vars.length→CovW n (fun K=>K=fun a=>(List.range k).all fun v=>B v a) ((List.range k).map N).sum
 | 0,_=>(cov_const true).mono (fun K h=>h) (Nat.zero_le _)
 | k+1,hk=>by
  have e:(fun a=>(List.range (k+1)).all fun v=>B v a)=fun a=>((List.range k).all fun v=>B v a) && B k a:=funext fun a=>by
   rw [List.range_succ,List.all_append]
   simp
  rw [e,List.range_succ,List.map_append,List.sum_append]
  have e2:([k].map N).sum=N k:=by simp
  rw [e2]
  refine cov_and2 (s:=2 * bP vars k) (B:=fun a=>(List.range k).all fun v=>B v a) (R:=B k) (fun a b h=>?_) (fun a b h=>hB k (by omega) a b fun i h1 h2=>h i h1) (cov_blocks vars B N hB hN k (by omega)) (hN k (by omega))
  refine allc_congr fun v hv=>?_
  have hv:=List.mem_range.1 hv
  refine hB v (by omega) a b fun i h1 h2=>h i ?_
  have hn:vars[v]? = some (vars.getD v 0):=by simp [List.getD,List.getElem?_eq_getElem (show v < vars.length by omega)]
  have h3:=bP_succ hn
  have h4:=bP_mono (vars:=vars) (show v+1≤k by omega)
  omega
theorem sum_le (f g:Nat→Nat):∀k,(∀v,v < k→f v≤g v)→((List.range k).map f).sum≤((List.range k).map g).sum
 | 0,_=>by simp
 | k+1,h=>by
  have:=sum_le f g k fun v hv=>h v (by omega)
  have:=h k (by omega)
  rw [List.range_succ,List.map_append,List.sum_append,List.map_append,List.sum_append]
  simp
  omega
theorem wd_dbl {n:Nat} (h:1≤n):2 ^ wd n≤n * 2:=by
 by_cases h0:wd n=0
 ·rw [h0]; omega
 ·have:=wd_lt (n:=n) (w:=wd n - 1) (by omega)
  have e:2 ^ wd n=2 ^ (wd n - 1) * 2:=by rw [←Nat.pow_succ]; congr 1; omega
  omega
theorem take_sum (l:List Nat) (k:Nat):(l.take k).sum≤l.sum:=by
 have:(l.take k).sum+(l.drop k).sum=l.sum:=by rw [←List.sum_append,List.take_append_drop]
 omega
theorem sum_lin {vars:List Nat} {f:Nat→Nat} {c:Nat} (h:∀v,v < vars.length→f v≤vars.getD v 0 * c) {k:Nat} (hk:k≤vars.length):((List.range k).map f).sum≤vars.sum * c:=by
 refine Nat.le_trans (sum_le f (fun v=>vars.getD v 0 * c) k fun v hv=>h v (by omega)) ?_
 rw [sum_mul (fun v=>vars.getD v 0),sum_getD _ _ hk]
 exact Nat.mul_le_mul_right _ (take_sum _ _)
theorem rv_iv (vars:List Nat) (v:Nat):∀a b:Nat→Bool,(∀i,2 * bP vars v≤i→i < 2 * bP vars v+2 * wd (vars.getD v 0)→a i=b i)→rv vars a 0 v=rv vars b 0 v:=fun a b h=>rv_x fun p h1 h2=>h _ (by omega) (by omega)
theorem cov_okp {n:Nat} {vars:List Nat} (h1:∀m ∈ vars,1≤m∧m≤64) {k:Nat} (hk:k≤vars.length):CovW n (fun K=>K=okP vars k) (vars.sum * 2):=by
 refine (cov_blocks vars (fun v a=>decide (rv vars a 0 v < vars.getD v 0)) (fun v=>2 ^ wd (vars.getD v 0)) (fun v hv a b h=>by
  show decide (rv vars a 0 v < vars.getD v 0)=decide (rv vars b 0 v < vars.getD v 0)
  rw [rv_iv vars v a b h]) (fun v hv=>cov_x (s:=bP vars v) (w:=wd (vars.getD v 0)) fun a b h=>congrArg (fun y=>decide (y < vars.getD v 0)) (rv_x h)) k hk).mono (fun _ h=>h) (sum_lin (fun v hv=>wd_dbl (h1 _ (by simp [List.getD,List.getElem?_eq_getElem hv])).1) hk)
def nbL (T:Nt):Nat:=2 * nBits T.vars * 2+(T.vars.sum * 172+T.vars.length * (T.vars.sum * 2))+nBits T.vars * (3 * nBits T.vars)
theorem cov_basL {T:Nt} (h1:∀m ∈ T.vars,1≤m∧m≤64):CovW (2 * nBits T.vars) (BasS T) (nbL T):=by
 unfold nbL
 refine CovW.or (((?_:CovW _ (LitS T.vars) _).or (CovW.or (N2:=T.vars.length * (T.vars.sum * 2)) ((CovW.sum _ (fun v=>T.vars.getD v 0 * 172) _ fun v hv=>?_).mono (N':=T.vars.sum * 172) (fun _ h=>h) (sum_lin (fun v hv=>Nat.le_refl _) (Nat.le_refl _))) (CovW.eachW (fun k G=>G=okP T.vars (k+1)) _ fun k hk=>cov_okp h1 (by omega))))) (CovW.eachW (fun j G=>G=zB (nBits T.vars) j) _ fun j _=>?_)
 ·refine CovW.eachW _ _ fun i hi=>(CovW.or (N1:=1) (N2:=1) (cov_iv (s:=i) (w:=1) (fun a b h=>?_) (by omega)) (cov_iv (s:=i) (w:=1) (fun a b h=>?_) (by omega)))
  ·exact h i (by omega) (by omega)
  ·exact congrArg (fun x=>!x) (h i (by omega) (by omega))
 ·refine CovW.eachW (fun x G=>VlS T.vars v x 0 G∨G=fun a=>decide (rv T.vars a 0 v < x+1)) _ fun x _=>CovW.or (N1:=108) ?_ ((cov_x (thr_x T.vars v x)).mono (fun _ h=>h) (pow_wd _))
  refine (finVl T.vars v x 0).cov (C:=18) fun G hG=>?_
  obtain ⟨j,hj,rfl⟩:=hG
  exact (pl_vl T.vars v x (by omega) j).cov.mono (fun _ h=>h) (by have:=wd_le (T.vars.getD v 0); omega)
 ·exact (PairF.cov (b:=nBits T.vars) (PairF.all (fun i a=>!a (2 * (j+i)+1)) _ fun i hi=>PairF.one (p:=j+i) (by have:=List.mem_range.1 hi; omega) fun _ y=>!y))
end Go.Proofs.YtcoeknnghfajnaaGreat
end
section
namespace Go.Sy
open Go.Bd
theorem pfx_pfx (a b:Nat→Bool) (t:Nat):pfx a t (pfx a t b)=pfx a t b:=by
 funext i
 simp only [pfx]
 by_cases h:i < t
 ·rw [if_pos h,if_pos h]
 ·rw [if_neg h,if_neg h]
def CovR (n:Nat) (S W:BFn→Prop) (N:Nat):Prop:=∃L:List BFn,L.length≤N∧∀G,W G→∀t a,t < n→Dep (fun b=>G (pfx a t b)) t→(fun b=>G (pfx a t b)) ∈ L∨S fun b=>G (pfx a t b)
theorem CovW.toR {n N:Nat} {S W:BFn→Prop} (h:CovW n W N):CovR n S W N:=by
 obtain ⟨L,a,b⟩:=h
 exact ⟨L,a,fun G hG t a ht hd=>.inl (b G hG t a ht hd)⟩
theorem CovR.or {n N1 N2:Nat} {S W1 W2:BFn→Prop} (h1:CovR n S W1 N1) (h2:CovR n S W2 N2):CovR n S (fun G=>W1 G∨W2 G) (N1+N2):=by
 obtain ⟨L1,a1,b1⟩:=h1
 obtain ⟨L2,a2,b2⟩:=h2
 refine ⟨L1 ++ L2,by rw [List.length_append]; omega,fun G hG t a ht hd=>?_⟩
 rcases hG with h | h
 ·exact (b1 G h t a ht hd).imp (List.mem_append_left _) id
 ·exact (b2 G h t a ht hd).imp (List.mem_append_right _) id
theorem CovR.mono {n N N':Nat} {S W W':BFn→Prop} (h:CovR n S W N) (hw:∀G,W' G→W G) (hn:N≤N'):CovR n S W' N':=by
 obtain ⟨L,a,b⟩:=h
 exact ⟨L,Nat.le_trans a hn,fun G hG=>b G (hw G hG)⟩
theorem CovR.none (n:Nat) (S:BFn→Prop):CovR n S (fun _=>False) 0:=(CovW.none n).toR
theorem CovR.sum {n:Nat} {S:BFn→Prop} (P:Nat→BFn→Prop) (c:Nat→Nat):∀k,(∀i,i < k→CovR n S (P i) (c i))→CovR n S (fun G=>∃i,i < k∧P i G) ((List.range k).map c).sum
 | 0,_=>(CovR.none n S).mono (fun G ⟨i,hi,_⟩=>by omega) (Nat.zero_le _)
 | k+1,h=>((CovR.sum P c k fun i hi=>h i (by omega)).or (h k (by omega))).mono (fun G ⟨i,hi,e⟩=>by
   by_cases hk:i=k
   ·subst hk; exact .inr e
   ·exact .inl ⟨i,by omega,e⟩) (by rw [List.range_succ,List.map_append,List.sum_append]; simp)
theorem CovR.eachW {n c:Nat} {S:BFn→Prop} (P:Nat→BFn→Prop):∀k,(∀i,i < k→CovR n S (P i) c)→CovR n S (fun G=>∃i,i < k∧P i G) (k * c)
 | 0,_=>(CovR.none n S).mono (fun G ⟨i,hi,_⟩=>by omega) (Nat.zero_le _)
 | k+1,h=>((CovR.eachW P k fun i hi=>h i (by omega)).or (h k (by omega))).mono (fun G ⟨i,hi,e⟩=>by
   by_cases hk:i=k
   ·subst hk; exact .inr e
   ·exact .inl ⟨i,by omega,e⟩) (by rw [Nat.succ_mul]; exact Nat.le_refl _)
theorem CovR.join {n N0 N:Nat} {S W0 W:BFn→Prop} (h0:CovW n W0 N0) (hS:∀G,S G→W0 G) (h:CovR n S W N):CovW n (fun G=>W0 G∨W G) (N0+N):=by
 obtain ⟨L0,a0,b0⟩:=h0
 obtain ⟨L,a1,b1⟩:=h
 refine ⟨L0 ++ L,by rw [List.length_append]; omega,fun G hG t a ht hd=>?_⟩
 rcases hG with h | h
 ·exact List.mem_append_left _ (b0 G h t a ht hd)
 ·rcases b1 G h t a ht hd with h | h
  ·exact List.mem_append_right _ h
  ·have e:(fun b=>(fun b=>G (pfx a t b)) (pfx a t b))=fun b=>G (pfx a t b):=funext fun b=>by
    show G (pfx a t (pfx a t b))=G (pfx a t b)
    rw [pfx_pfx]
   have:=b0 _ (hS _ h) t a ht (by rw [e]; exact hd)
   rw [e] at this
   exact List.mem_append_left _ this
theorem lst_det (ps:List Nat) (Q:Nat→Prop):∀G:(Nat→Bool)→Prop,(∀a b,G a→G b→(∀i ∈ ps,a i=b i)→∀i,Q i→a i=b i) →
  ∃Λ:List (Nat→Bool),Λ.length≤2 ^ ps.length∧∀a,G a→∃π ∈ Λ,∀i,Q i→a i=π i:=by
 induction ps with
 | nil =>
  intro G h
  by_cases hx:∃a,G a
  ·obtain ⟨a,ha⟩:=hx
   exact ⟨[a],by simp,fun b hb=>⟨a,by simp,h b a hb ha (fun i hi=>by cases hi)⟩⟩
  ·exact ⟨[],by simp,fun a ha=>absurd ⟨a,ha⟩ hx⟩
 | cons p ps ih =>
  intro G h
  have key:∀x,∃Λ:List (Nat→Bool),Λ.length≤2 ^ ps.length∧∀a,(G a∧a p=x)→∃π ∈ Λ,∀i,Q i→a i=π i:=fun x=>ih _ fun a b ha hb hi=>h a b ha.1 hb.1 fun i hm=>by
   rcases List.mem_cons.1 hm with rfl | hm
   ·rw [ha.2,hb.2]
   ·exact hi i hm
  obtain ⟨Λ1,a1,b1⟩:=key true
  obtain ⟨Λ2,a2,b2⟩:=key false
  refine ⟨Λ1 ++ Λ2,by rw [List.length_append,List.length_cons,Nat.pow_succ]; omega,fun a ha=>?_⟩
  cases hx:a p with
  | true =>
   obtain ⟨π,h1,h2⟩:=b1 a ⟨ha,hx⟩
   exact ⟨π,List.mem_append_left _ h1,h2⟩
  | false =>
   obtain ⟨π,h1,h2⟩:=b2 a ⟨ha,hx⟩
   exact ⟨π,List.mem_append_right _ h1,h2⟩
theorem lst_fun:∀ps:List Nat,∃L:List BFn,L.length≤2 ^ 2 ^ ps.length∧∀K:BFn,(∀a c:Nat→Bool,(∀i ∈ ps,a i=c i)→K a=K c)→K ∈ L
 | []=>⟨[fun _=>true,fun _=>false],by simp,fun K h=>by
   have e:K=fun _=>K fun _=>false:=funext fun a=>h _ _ fun i hi=>by cases hi
   rw [e]
   cases K fun _=>false <;> simp⟩
 | p :: ps=>by
  obtain ⟨L,a,b⟩:=lst_fun ps
  refine ⟨L.flatMap fun K1=>L.map fun K2=>fun x=>if x p then K1 x else K2 x,?_,fun K h=>?_⟩
  ·have:∀(l:List BFn),(l.flatMap fun K1=>L.map fun K2=>(fun x=>if x p then K1 x else K2 x:BFn)).length=l.length * L.length:=fun l=>by
    induction l with
    | nil=>simp
    | cons x l ih=>rw [List.flatMap_cons,List.length_append,ih,List.length_map,List.length_cons,Nat.succ_mul,Nat.add_comm]
   rw [this,List.length_cons,Nat.pow_succ 2 ps.length,Nat.mul_two,Nat.pow_add]
   exact Nat.mul_le_mul a a
  ·have key:∀z,(fun x=>K (upd x p z)) ∈ L:=fun z=>b _ fun a c hi=>h _ _ fun i hm=>by
    by_cases e:i=p
    ·subst e; rw [upd_same,upd_same]
    ·rw [upd_ne e,upd_ne e]
     rcases List.mem_cons.1 hm with rfl | hm
     ·exact absurd rfl e
     ·exact hi i hm
   refine List.mem_flatMap.2 ⟨_,key true,List.mem_map.2 ⟨_,key false,funext fun x=>?_⟩⟩
   have e:∀z,x p=z→upd x p z=x:=fun z hz=>funext fun i=>by
    by_cases e:i=p
    ·subst e; rw [upd_same,hz]
    ·rw [upd_ne e]
   cases hx:x p with
   | true=>rw [if_pos rfl,e true hx]
   | false=>rw [if_neg (by decide),e false hx]
def RelIn (n:Nat) (rel:Nat→Bool) (G:BFn):Prop:=∀a b:Nat→Bool,(∀i,i < n→rel i=true→a i=b i)→G a=G b
theorem sum_len {α:Type} (g:Nat→List α) (c:Nat→Nat) (h:∀t,(g t).length≤c t):∀n,((List.range n).flatMap g).length≤((List.range n).map c).sum
 | 0=>by simp
 | n+1=>by
  have ih:=sum_len g c h n
  have:=h n
  rw [List.range_succ,List.flatMap_append,List.length_append,List.map_append,List.sum_append]
  simp only [List.flatMap_cons,List.flatMap_nil,List.append_nil,List.map_cons,List.map_nil,List.sum_cons,List.sum_nil]
  omega
theorem dep_rel {n t:Nat} {rel:Nat→Bool} {G:BFn} {a:Nat→Bool} (hG:RelIn n rel G) (h:Dep (fun b=>G (pfx a t b)) t):rel t=true:=by
 obtain ⟨b,hb⟩:=h
 cases hr:rel t with
 | true=>rfl
 | false =>
  exfalso
  apply hb
  refine hG _ _ fun i hi hri=>?_
  unfold pfx
  by_cases h1:i < t
  ·rw [if_pos h1,if_pos h1]
  ·have:i≠t:=fun e=>by rw [e,hr] at hri; cases hri
   rw [if_neg h1,if_neg h1,upd_ne this,upd_ne this]
theorem dep_true {t:Nat} {K:BFn} (h:Dep K t):∃b,K b=true:=by
 obtain ⟨b,hb⟩:=h
 cases h1:K (upd b t true) with
 | true=>exact ⟨_,h1⟩
 | false =>
  cases h2:K (upd b t false) with
  | true=>exact ⟨_,h2⟩
  | false=>exact absurd (h1.trans h2.symm) hb
theorem cov_lev {n:Nat} {S:BFn→Prop} {rel sh:Nat→Bool} {G:BFn} (hG:RelIn n rel G) (c:Nat→Nat)
  (hs:∀t a,t < n→rel t=true→sh t=true→S fun b=>G (pfx a t b))
  (hc:∀t,t < n→rel t=true→sh t=false→∃Λ:List (Nat→Bool),Λ.length≤c t∧∀a,G a=true→∃π ∈ Λ,∀i,i < t→rel i=true→a i=π i) :
  CovR n S (fun K=>K=G) ((List.range n).map fun t=>if rel t=true∧sh t=false then c t else 0).sum:=by
 have hc':∀t,∃Λ:List (Nat→Bool),t < n→rel t=true→sh t=false→Λ.length≤c t∧∀a,G a=true→∃π ∈ Λ,∀i,i < t→rel i=true→a i=π i:=fun t=>by
  by_cases h:t < n∧rel t=true∧sh t=false
  ·obtain ⟨Λ,hΛ⟩:=hc t h.1 h.2.1 h.2.2
   exact ⟨Λ,fun _ _ _=>hΛ⟩
  ·exact ⟨[],fun h1 h2 h3=>absurd ⟨h1,h2,h3⟩ h⟩
 obtain ⟨Λ,hΛ⟩:=Classical.skolem.1 hc'
 let g:Nat→List BFn:=fun t=>if t < n∧rel t=true∧sh t=false then (Λ t).map fun π=>fun b=>G (pfx π t b) else []
 have hg:∀t,(g t).length≤if rel t=true∧sh t=false then c t else 0:=fun t=>by
  show (if t < n∧rel t=true∧sh t=false then _ else _:List BFn).length≤_
  by_cases h:t < n∧rel t=true∧sh t=false
  ·rw [if_pos h,if_pos h.2,List.length_map]
   exact (hΛ t h.1 h.2.1 h.2.2).1
  ·rw [if_neg h]; simp
 refine ⟨(List.range n).flatMap g,sum_len g _ hg n,?_⟩
 rintro K rfl t a ht hd
 have hr:=dep_rel hG hd
 cases hsh:sh t with
 | true=>exact .inr (hs t a ht hr hsh)
 | false =>
  left
  obtain ⟨b,hb⟩:=dep_true hd
  obtain ⟨π,hπ,he⟩:=(hΛ t ht hr hsh).2 _ hb
  refine List.mem_flatMap.2 ⟨t,List.mem_range.2 ht,?_⟩
  show _ ∈ (if t < n∧rel t=true∧sh t=false then _ else _:List BFn)
  rw [if_pos ⟨ht,hr,hsh⟩]
  refine List.mem_map.2 ⟨π,hπ,funext fun x=>hG _ _ fun i hi hri=>?_⟩
  unfold pfx
  by_cases h1:i < t
  ·have:=he i h1 hri
   unfold pfx at this
   rw [if_pos h1] at this
   rw [if_pos h1,if_pos h1,this]
  ·rw [if_neg h1,if_neg h1]
noncomputable def exB (inn:Nat→Bool) (F:BFn) (k:Nat) (π:Nat→Bool):BFn:=fun a=>@decide (∃c:Nat→Bool,(∀j,inn j=false→c j=a j)∧F (pfx π k c)=true) (Classical.propDecidable _)
theorem exB_iff {inn:Nat→Bool} {F:BFn} {k:Nat} {π a:Nat→Bool}:exB inn F k π a=true↔∃c:Nat→Bool,(∀j,inn j=false→c j=a j)∧F (pfx π k c)=true:=by
 unfold exB
 exact @decide_eq_true_iff _ (Classical.propDecidable _)
theorem bool_eq {x y:Bool} (h:x=true↔y=true):x=y:=by cases x <;> cases y <;> simp_all
section
variable {n:Nat} {inn:Nat→Bool} {F:BFn} (hF:∀a b:Nat→Bool,(∀i,i < n→a i=b i)→F a=F b)
include hF
theorem exB_dep {k:Nat} {π a b:Nat→Bool} (h:∀i,k≤i→i < n→inn i=false→a i=b i):exB inn F k π a=exB inn F k π b:=by
 have key:∀{a b:Nat→Bool},(∀i,k≤i→i < n→inn i=false→a i=b i)→exB inn F k π a=true→exB inn F k π b=true:=fun {a b} h h1=>by
  obtain ⟨c,h2,h3⟩:=exB_iff.1 h1
  refine exB_iff.2 ⟨fun j=>if inn j=true then c j else b j,fun j hj=>by
   show (if inn j=true then c j else b j)=b j
   rw [if_neg (by rw [hj]; decide)],?_⟩
  refine (hF _ _ fun i hi=>?_).trans h3
  show (if i < k then π i else if inn i=true then c i else b i)=if i < k then π i else c i
  by_cases h4:i < k
  ·rw [if_pos h4,if_pos h4]
  ·rw [if_neg h4,if_neg h4]
   cases h5:inn i with
   | true=>rw [if_pos rfl]
   | false=>rw [if_neg (by decide),h2 i h5,h i (by omega) hi h5]
 exact bool_eq ⟨key h,key fun i h1 h2 h3=>(h i h1 h2 h3).symm⟩
end
end Go.Sy
end
section
namespace Go.Proofs.YtcoeknnghfajnaaGreat
open Go Go.W Go.Tk Go.Rx Go.Bd Go.Sy Go.Maps
def ShS (b:Nat) (K:BFn):Prop:=∃nx,nx < 2∧∀a c:Nat→Bool,(∀p,b - 3≤p→p < b→a (2 * p+nx)=c (2 * p+nx))→K a=K c
def shT (b t:Nat):Bool:=decide (2 * (b - 3)≤t)
theorem cov_sh (n b:Nat):CovW n (ShS b) 512:=by
 obtain ⟨L0,a0,b0⟩:=lst_fun ((List.range (b - (b - 3))).map fun i=>2 * (b - 3+i)+0)
 obtain ⟨L1,a1,b1⟩:=lst_fun ((List.range (b - (b - 3))).map fun i=>2 * (b - 3+i)+1)
 rw [List.length_map,List.length_range] at a0 a1
 have h3:b - (b - 3)≤3:=by omega
 have h8:2 ^ (b - (b - 3))≤2 ^ 3:=Nat.pow_le_pow_right (by omega) h3
 have h256:2 ^ 2 ^ (b - (b - 3))≤2 ^ 2 ^ 3:=Nat.pow_le_pow_right (by omega) h8
 have e256:2 ^ 2 ^ 3=256:=rfl
 refine ⟨L0 ++ L1,by rw [List.length_append]; omega,?_⟩
 rintro G ⟨nx,hnx,h⟩ t a ht hd
 have key:∀x y:Nat→Bool,(∀i ∈ ((List.range (b - (b - 3))).map fun i=>2 * (b - 3+i)+nx),x i=y i)→G (pfx a t x)=G (pfx a t y):=fun x y hi=>h _ _ fun p h1 h2=>by
  unfold pfx
  by_cases h4:2 * p+nx < t
  ·rw [if_pos h4,if_pos h4]
  ·rw [if_neg h4,if_neg h4]
   exact hi _ (List.mem_map.2 ⟨p - (b - 3),List.mem_range.2 (by omega),by show 2 * (b - 3+(p - (b - 3)))+nx=_; omega⟩)
 rcases (show nx=0∨nx=1 by omega) with rfl | rfl
 ·exact List.mem_append_left _ (b0 _ key)
 ·exact List.mem_append_right _ (b1 _ key)
def XN (nx b:Nat) (G:BFn):Prop:=∀a c:Nat→Bool,(∀p,p < b→a (2 * p+nx)=c (2 * p+nx))→G a=G c
theorem XN.of {b:Nat} {G:BFn} (h:XIn 0 b G):XN 0 b G:=fun a c hh=>h a c fun p _ hp=>by have:=hh p (by omega); simpa using this
theorem sum_half (nx s:Nat) (hn:nx < 2):∀b,((List.range (2 * b)).map fun t=>if t % 2=nx∧t < 2 * s then 2 ^ (t / 2) else 0).sum+1≤2 ^ min b s
 | 0=>by simp
 | b+1=>by
  have ih:=sum_half nx s hn b
  rw [show 2 * (b+1)=2 * b+1+1 by omega,List.range_succ,List.range_succ]
  simp only [List.map_append,List.sum_append,List.map_cons,List.map_nil,List.sum_cons,List.sum_nil,Nat.add_zero]
  rw [show 2 * b % 2=0 by omega,show (2 * b+1) % 2=1 by omega,show 2 * b / 2=b by omega,show (2 * b+1) / 2=b by omega]
  by_cases hb:b < s
  ·rw [Nat.min_eq_left (by omega)] at ih ⊢
   rw [Nat.pow_succ]
   rcases (show nx=0∨nx=1 by omega) with rfl | rfl
   ·rw [if_pos ⟨rfl,by omega⟩,if_neg (by omega)]; omega
   ·rw [if_neg (by omega),if_pos ⟨rfl,by omega⟩]; omega
  ·rw [if_neg (by omega),if_neg (by omega),Nat.min_eq_right (by omega)]
   rw [Nat.min_eq_right (by omega)] at ih
   omega
theorem sum_mono {l:List Nat} {f g:Nat→Nat} (h:∀t ∈ l,f t≤g t):(l.map f).sum≤(l.map g).sum:=by
 induction l with
 | nil=>simp
 | cons x l ih =>
  simp only [List.map_cons,List.sum_cons]
  exact Nat.add_le_add (h x (by simp)) (ih fun t ht=>h t (by simp [ht]))
theorem cov_xn {nx b:Nat} {G:BFn} (hn:nx < 2) (h:XN nx b G):CovR (2 * b) (ShS b) (fun K=>K=G) (2 ^ (b - 3)):=by
 refine (cov_lev (rel:=fun i=>decide (i % 2=nx)) (sh:=shT b) (fun a c hi=>h a c fun p hp=>hi _ (by omega) (decide_eq_true (by omega))) (fun t=>2 ^ (t / 2)) (fun t a ht hr hs=>?_) fun t ht hr hs=>?_).mono (fun _ h=>h) ?_
 ·have hr:=of_decide_eq_true hr
  have hs:=of_decide_eq_true hs
  refine ⟨nx,hn,fun x y hi=>h _ _ fun p hp=>?_⟩
  unfold pfx
  by_cases h4:2 * p+nx < t
  ·rw [if_pos h4,if_pos h4]
  ·rw [if_neg h4,if_neg h4]
   exact hi p (by omega) hp
 ·have hr:=of_decide_eq_true hr
  obtain ⟨Λ,a,b⟩:=lst_det ((List.range (t / 2)).map fun p=>2 * p+nx) (fun i=>i < t∧i % 2=nx) (fun a=>G a=true) fun a b _ _ hi i hQ=>hi i (List.mem_map.2 ⟨i / 2,List.mem_range.2 (by omega),by show 2 * (i / 2)+nx=i; omega⟩)
  refine ⟨Λ,by simpa using a,fun x hx=>?_⟩
  obtain ⟨π,h1,h2⟩:=b x hx
  exact ⟨π,h1,fun i hi hr=>h2 i ⟨hi,of_decide_eq_true hr⟩⟩
 ·have h1:=sum_half nx (b - 3) hn b
  have h2:((List.range (2 * b)).map fun t=>if decide (t % 2=nx)=true∧shT b t=false then 2 ^ (t / 2) else 0).sum≤((List.range (2 * b)).map fun t=>if t % 2=nx∧t < 2 * (b - 3) then 2 ^ (t / 2) else 0).sum:=sum_mono fun t _=>by
   by_cases h3:t % 2=nx∧t < 2 * (b - 3)
   ·rw [if_pos h3]
    by_cases h4:decide (t % 2=nx)=true∧shT b t=false
    ·rw [if_pos h4]; exact Nat.le_refl _
    ·rw [if_neg h4]; exact Nat.zero_le _
   ·rw [if_neg h3,if_neg]
    ·exact Nat.le_refl _
    ·rintro ⟨h4,h5⟩
     have h5:=of_decide_eq_false h5
     exact h3 ⟨of_decide_eq_true h4,by omega⟩
  have h3:2 ^ min b (b - 3)≤2 ^ (b - 3):=Nat.pow_le_pow_right (by omega) (Nat.min_le_right _ _)
  omega
theorem CovR.isc {n N:Nat} {S:BFn→Prop} {F:BFn} (h:CovR n S (fun K=>K=F) N):CovR n S (fun G=>Bd.IsC F G) N:=by
 obtain ⟨L,a,b⟩:=h
 refine ⟨L,a,?_⟩
 rintro G ⟨k,π,e⟩ t α ht hd
 by_cases hk:k≤t
 ·have e2:(fun x=>G (pfx α t x))=fun x=>F (pfx (fun i=>if i < k then π i else α i) t x):=funext fun x=>by
   rw [e]
   congr 1
   funext i
   simp only [pfx]
   by_cases h1:i < k
   ·rw [if_pos h1,if_pos (by omega),if_pos h1]
   ·rw [if_neg h1]
    by_cases h2:i < t
    ·rw [if_pos h2,if_pos h2,if_neg h1]
    ·rw [if_neg h2,if_neg h2]
  rw [e2] at hd ⊢
  exact b F rfl t _ ht hd
 ·exfalso
  obtain ⟨x,hx⟩:=hd
  apply hx
  show G (pfx α t (upd x t true))=G (pfx α t (upd x t false))
  rw [e,e]
  congr 1
  funext i
  simp only [pfx]
  by_cases h1:i < k
  ·rw [if_pos h1,if_pos h1]
  ·rw [if_neg h1,if_neg h1,if_neg (by omega),if_neg (by omega),upd_ne (by omega),upd_ne (by omega)]
end Go.Proofs.YtcoeknnghfajnaaGreat
end
section
namespace Go.Proofs.YtcoeknnghfajnaaGreat
open Go Go.W Go.Tk Go.Rx Go.Bd Go.Sy Go.Maps
theorem rv_bits {vars:List Nat} {a c:Nat→Bool} {nx v:Nat} (h:rv vars a nx v=rv vars c nx v):∀k,k < wd (vars.getD v 0)→a (2 * (bP vars v+k)+nx)=c (2 * (bP vars v+k)+nx):=fun k hk=>by
 have h1:=(valK_eq (g:=fun k=>a (2 * (bP vars v+k)+nx)) _ _ (rv_lt vars c nx v)).2 h k hk
 have h2:=(valK_eq (g:=fun k=>c (2 * (bP vars v+k)+nx)) _ _ (rv_lt vars c nx v)).2 rfl k hk
 exact h1.trans h2.symm
theorem rs_bits {vars:List Nat} {a c:Nat→Bool} {nx:Nat} (h:rs vars a nx=rs vars c nx):∀p,p < nBits vars→a (2 * p+nx)=c (2 * p+nx):=fun p hp=>by
 rw [←bP_all] at hp
 obtain ⟨v,j,hv,hj,rfl⟩:=bP_split vars.length (Nat.le_refl _) p hp
 exact rv_bits (by rw [←rs_at hv,←rs_at hv,h]) j hj
theorem rlB_iff {T:Nt} {o:No} {j:Nat} {a:Nat→Bool}:rlB T o j a=true↔∀v,v < T.vars.length→j≤v→rv T.vars a 1 v=chgV o (rs T.vars a 0) v:=by
 unfold rlB
 rw [List.all_eq_true]
 constructor
 ·intro h v hv hj
  have:=h (v - j) (List.mem_range.2 (by omega))
  rw [show j+(v - j)=v by omega] at this
  exact of_decide_eq_true this
 ·intro h k hk
  have:=List.mem_range.1 hk
  exact decide_eq_true (h (j+k) (by omega) (by omega))
end Go.Proofs.YtcoeknnghfajnaaGreat
end
