/-
  A part of the proof of this claim's statement (SyDD, SyDE, SyEA, SyEB, SyEC): plain theorems; no conditions beyond those each names.
-/
import Derived.Test.YtcoeknnghfajnaaGreatPk22
set_option maxRecDepth 100000
set_option linter.unusedSimpArgs false
set_option linter.unusedVariables false
set_option linter.unusedSectionVars false
section
namespace Go.Proofs.YtcoeknnghfajnaaGreat
open Go Go.W Go.Tk Go.Rx Go.Bd Go.Sy Go.Maps
theorem lst_img {α:Type} (f:(Nat→Bool)→α) (Q:Nat→Prop):∀(l:List α) (G:(Nat→Bool)→Prop),(∀a c,G a→G c→f a=f c→∀i,Q i→a i=c i)→(∀a,G a→f a ∈ l) →
  ∃Λ:List (Nat→Bool),Λ.length≤l.length∧∀a,G a→∃π ∈ Λ,∀i,Q i→a i=π i
 | [],G,_,hm=>⟨[],Nat.le_refl _,fun a ha=>by cases hm a ha⟩
 | x :: l,G,h,hm=>by
  obtain ⟨Λ,l1,l2⟩:=lst_img f Q l (fun a=>G a∧f a≠x) (fun a c ha hc=>h a c ha.1 hc.1) fun a ha=>by
   rcases List.mem_cons.1 (hm a ha.1) with e | e
   ·exact absurd e ha.2
   ·exact e
  by_cases hx:∃a,G a∧f a=x
  ·obtain ⟨a,ha,e⟩:=hx
   refine ⟨a :: Λ,by rw [List.length_cons,List.length_cons]; omega,fun c hc=>?_⟩
   by_cases hcx:f c=x
   ·exact ⟨a,by simp,h c a hc ha (hcx.trans e.symm)⟩
   ·obtain ⟨π,h1,h2⟩:=l2 c ⟨hc,hcx⟩
    exact ⟨π,by simp [h1],h2⟩
  ·refine ⟨Λ,by rw [List.length_cons]; omega,fun c hc=>l2 c ⟨hc,fun e=>hx ⟨c,hc,e⟩⟩⟩
section
variable {n M:Nat} {F:BFn} {Λ:List (Nat→Bool)}
end
def innN (b nx i:Nat):Bool:=decide (i < 2 * b∧i % 2=nx)
theorem inn_eq (T:Nt) (nx:Nat):inn T nx=innN (nBits T.vars) nx:=funext fun i=>by
 unfold inn innN
 exact ins_half
theorem imA_pts (T:Nt) (o:No) (P:List Nat→Bool):∃Λ:List (Nat→Bool),Λ.length≤(stsK T.vars T.vars.length).length∧∀a,imA T o P a=true→∃π ∈ Λ,∀i,i < 2 * nBits T.vars→a i=π i:=by
 have h1:∀a,imA T o P a=true→okB T.vars a=true∧rs T.vars a 1=apS o (rs T.vars a 0):=fun a ha=>by
  unfold imA setF relB at ha
  simp only [Bool.and_eq_true,decide_eq_true_eq] at ha
  exact ⟨ha.1.1,ha.2.2⟩
 refine lst_img (fun a=>rs T.vars a 0) (fun i=>i < 2 * nBits T.vars) _ (fun a=>imA T o P a=true) (fun a c ha hc e i hi=>?_) fun a ha=>sts_mem.2 (okB_iff.1 (h1 a ha).1)
 have e0:rs T.vars a 0=rs T.vars c 0:=e
 rcases Nat.mod_two_eq_zero_or_one i with h0 | h0
 ·have:=rs_bits e0 (i / 2) (by omega)
  rwa [show 2 * (i / 2)+0=i by omega] at this
 ·have:=rs_bits (nx:=1) ((h1 a ha).2.trans (by rw [e0]; exact (h1 c hc).2.symm)) (i / 2) (by omega)
  rwa [show 2 * (i / 2)+1=i by omega] at this
theorem isc_ren {b nx:Nat} {F H:BFn} (hn:nx < 2) (hF:XN nx b F) (h:Bd.IsC F H):Bd.IsC (fun a=>F (sgA (2 * b) nx a)) fun a=>H (sgA (2 * b) nx a):=by
 obtain ⟨k,π,e⟩:=h
 refine ⟨2 * ((k+1 - nx) / 2),fun i=>if nx=0 then π (i - 1) else π (i+1),fun a=>?_⟩
 show H (sgA (2 * b) nx a)=F (sgA (2 * b) nx _)
 rw [e]
 refine hF _ _ fun p hp=>?_
 rw [sgA_in (by omega) hn]
 show (if 2 * p+nx < k then π (2 * p+nx) else sgA (2 * b) nx a (2 * p+nx))=if 2 * p+(1 - nx) < 2 * ((k+1 - nx) / 2) then (if nx=0 then π (2 * p+(1 - nx) - 1) else π (2 * p+(1 - nx)+1)) else a (2 * p+(1 - nx))
 rw [sgA_in (by omega) hn]
 rcases (show nx=0∨nx=1 by omega) with rfl | rfl
 ·by_cases h:2 * p+0 < k
  ·rw [if_pos h,if_pos (by omega),if_pos rfl]; rfl
  ·rw [if_neg h,if_neg (by omega)]
 ·by_cases h:2 * p+1 < k
  ·rw [if_pos h,if_pos (by omega),if_neg (by omega)]
  ·rw [if_neg h,if_neg (by omega)]
theorem ren_xn {b nx:Nat} {F:BFn} (hn:nx < 2) (hF:XN nx b F):XN (1 - nx) b fun a=>F (sgA (2 * b) nx a):=fun a c h=>hF _ _ fun p hp=>by
 rw [sgA_in (by omega) hn,sgA_in (by omega) hn]
 exact h p hp
theorem cov_ren {b nx:Nat} {F:BFn} (hn:nx < 2) (hF:XN nx b F):CovR (2 * b) (ShS b) (fun G=>∃H,Bd.IsC F H∧G=fun a=>H (sgA (2 * b) nx a)) (2 ^ (b - 3)) :=
 (CovR.isc (cov_xn (by omega) (ren_xn hn hF))).mono (fun G ⟨H,hH,e⟩=>by rw [e]; exact isc_ren hn hF hH) (Nat.le_refl _)
def ImgT (T:Nt) (o:No) (P:List Nat→Bool) (G:BFn):Prop:=G=imA T o P∨(∃H,Bd.IsC (imA T o P) H∧∀a,G a=true↔qS 1 (inn T 0) H a) ∨
 ∃X,(∀a,X a=true↔qS 1 (inn T 0) (imA T o P) a)∧∃H,Bd.IsC X H∧G=fun b=>H (sgA (2 * nBits T.vars) 1 b)
theorem xn_set (vars:List Nat) (P:List Nat→Bool):XN 0 (nBits vars) (setF vars P):=XN.of (setF_x vars P)
theorem ex_xn {T:Nt} {F X:BFn} (hF:∀a b:Nat→Bool,(∀i,i < 2 * nBits T.vars→a i=b i)→F a=F b) (hX:∀a,X a=true↔qS 1 (inn T 0) F a):XN 1 (nBits T.vars) X:=fun a c h=>by
 have e:∀a,X a=exB (innN (nBits T.vars) 0) F 0 (fun _=>false) a:=fun a=>bool_eq (by
  rw [hX,exB_iff,inn_eq]
  unfold qS
  rw [if_pos rfl]
  simp only [pfx_zero]
  exact ⟨fun ⟨c,h1,h2⟩=>⟨c,fun j hj=>h1 j hj,h2⟩,fun ⟨c,h1,h2⟩=>⟨c,fun j hj=>h1 j hj,h2⟩⟩)
 rw [e,e]
 refine exB_dep hF fun i h1 h2 h3=>?_
 have h3:=of_decide_eq_false h3
 have:=h (i / 2) (by omega)
 rwa [show 2 * (i / 2)+1=i by omega] at this
structure SmC (T:Nt):Prop where
 vars:∀n ∈ T.vars,1≤n∧n≤64
 ops:∀o ∈ T.ops,NoG T.vars o
 el:∀o ∈ T.ops,o.effs.length≤8
 vl:T.vars.length≤12
 pr:prL T.vars≤512
 bs:nBits T.vars≤11∧180 * nBits T.vars+4 * T.vars.sum≤2208
theorem smc {T T':Nt} (hT:SmT T) (hA:Alk T T'):SmC T':=by
 have hg:=hA.good hT.g
 have hp:=hT.pr T.vars.length
 rw [List.take_length] at hp
 refine ⟨hg.vars,hg.ops,fun o ho=>?_,by rw [hA.vars]; exact hT.vl,by rw [hA.vars]; exact hp,by rw [hA.vars]; exact sm_bs hT⟩
 have h1:skO o ∈ T.ops.map skO:=by rw [←hA.ops]; exact List.mem_map.2 ⟨o,ho,rfl⟩
 obtain ⟨o2,h2,e⟩:=List.mem_map.1 h1
 have h3:=hT.el o2 h2
 have h4:o2.effs.length=o.effs.length:=by
  have:(o2.effs.map skE)=o.effs.map skE:=by
   unfold skO at e
   simp only [Prod.mk.injEq] at e
   exact e.2.2.2
  have:=congrArg List.length this
  simpa using this
 omega
end Go.Proofs.YtcoeknnghfajnaaGreat
end
section
namespace Go.Proofs.YtcoeknnghfajnaaGreat
open Go Go.W Go.Tk Go.Rx Go.Bd Go.Sy Go.Maps
def RunR (n lim:Nat) (S W0:BFn→Prop) (N:Nat) (ns:Ns):Prop:=∃W:BFn→Prop,Stp n lim (fun G=>W0 G∨W G) false [] false ns∧CovR n S W N
theorem RunR.step {n lim N0 N N1:Nat} {S W0 W:BFn→Prop} {e:Bool} {ns ns':Ns} (h:RunR n lim S W0 N ns) (h0:CovW n W0 N0) (hS:∀G,S G→W0 G) (hs:Stp n lim (fun G=>W0 G∨W G) false ns e ns') (hc:CovR n S W N1) (hl:N0+(N+N1) < lim):e=false∧RunR n lim S W0 (N+N1) ns':=by
 obtain ⟨W1,h1,c1⟩:=h
 have h2:Stp n lim (fun G=>W0 G∨(W1 G∨W G)) false [] e ns':=(h1.mono fun G hG=>hG.imp id .inl).trans (hs.mono fun G hG=>hG.imp id .inr)
 have hc2:=c1.or hc
 have hlen:=cov_len (ns0:=[]) h2.ext.wf (hc2.join h0 hS) h2.new
 have:e=false:=by
  cases e with
  | false=>rfl
  | true =>
   have:=h2.full rfl rfl
   simp at hlen
   omega
 subst this
 exact ⟨rfl,_,h2,hc2⟩
theorem RunR.start {n lim N0:Nat} {S W0:BFn→Prop} {e:Bool} {ns:Ns} (h0:CovW n W0 N0) (hS:∀G,S G→W0 G) (hs:Stp n lim W0 false [] e ns) (hl:N0 < lim):e=false∧RunR n lim S W0 0 ns:=by
 have h1:RunR n lim S W0 0 []:=⟨fun _=>False,Stp.refl (Wf.nil n) (Nat.zero_le _),CovR.none n S⟩
 exact h1.step h0 hS (hs.mono fun G h=>.inl h) (CovR.none n S) (by omega)
section
variable {w w1:World} {F:List Nat} {B:Asr} {s m lim N N0 c:Nat} {T:Nt} {q:SpC} {W0 W:BFn→Prop} {ps:List Kp2}
end
end Go.Proofs.YtcoeknnghfajnaaGreat
namespace Go.Proofs.YtcoeknnghfajnaaGreat
open Go Go.W Go.Tk Go.Rx Go.Bd Go.Sy Go.Maps
section
variable {w w1:World} {F:List Nat} {A B:Asr} {s m lim N N0 c:Nat} {T:Nt} {q:SpC} {W0 W:BFn→Prop} {ps:List Kp2}
end
end Go.Proofs.YtcoeknnghfajnaaGreat
end
section
namespace Go.Sy
def crd (D:Nat→Bool):Nat→Nat
 | 0=>0
 | m+1=>crd D m+if D m=true then 1 else 0
def SubB (m:Nat) (D D':Nat→Bool):Prop:=∀x,x < m→D x=true→D' x=true
theorem crd_mono {D D':Nat→Bool}:∀{m:Nat},SubB m D D'→crd D m≤crd D' m
 | 0,_=>Nat.le_refl _
 | m+1,h=>by
  have ih:=crd_mono (m:=m) fun x hx=>h x (by omega)
  have:=h m (by omega)
  simp only [crd]
  by_cases hd:D m=true
  ·rw [if_pos hd,if_pos (this hd)]; omega
  ·rw [if_neg hd]; split <;> omega
theorem crd_lt {D D':Nat→Bool}:∀{m:Nat},SubB m D D'→(∃x,x < m∧D' x=true∧¬D x=true)→crd D m < crd D' m
 | 0,_,⟨x,h,_⟩=>by omega
 | m+1,h,⟨x,hx,h1,h2⟩=>by
  have ih:=crd_mono (m:=m) fun x hx=>h x (by omega)
  simp only [crd]
  by_cases e:x=m
  ·subst e
   rw [if_pos h1,if_neg h2]; omega
  ·have:=crd_lt (m:=m) (fun x hx=>h x (by omega)) ⟨x,by omega,h1,h2⟩
   have h3:=h m (by omega)
   by_cases hd:D m=true
   ·rw [if_pos hd,if_pos (h3 hd)]; omega
   ·rw [if_neg hd]; split <;> omega
theorem ex_max {α:Type} (f:α→Nat) (p:α→Prop):∀l:List α,(∃a ∈ l,p a)→∃a ∈ l,p a∧∀b ∈ l,p b→f b≤f a
 | [],⟨a,h,_⟩=>by cases h
 | x :: l,⟨a,h,hp⟩=>by
  by_cases hl:∃a ∈ l,p a
  ·obtain ⟨y,hy,py,hm⟩:=ex_max f p l hl
   by_cases hx:p x∧f y < f x
   ·refine ⟨x,by simp,hx.1,fun b hb pb=>?_⟩
    rcases List.mem_cons.1 hb with rfl | hb
    ·exact Nat.le_refl _
    ·have:=hm b hb pb; omega
   ·refine ⟨y,by simp [hy],py,fun b hb pb=>?_⟩
    rcases List.mem_cons.1 hb with rfl | hb
    ·have:¬f y < f b:=fun h=>hx ⟨pb,h⟩
     omega
    ·exact hm b hb pb
  ·have hax:a=x:=by
    rcases List.mem_cons.1 h with e | h
    ·exact e
    ·exact absurd ⟨a,h,hp⟩ hl
   subst hax
   refine ⟨a,by simp,hp,fun b hb pb=>?_⟩
   rcases List.mem_cons.1 hb with rfl | hb
   ·exact Nat.le_refl _
   ·exact absurd ⟨b,hb,pb⟩ hl
theorem ex_min (p:Nat→Prop) (h:∃x,p x):∃x,p x∧∀y,y < x→¬p y:=by
 obtain ⟨x,hx⟩:=h
 induction x using Nat.strongRecOn with
 | ind x ih =>
  by_cases h:∃y,y < x∧p y
  ·obtain ⟨y,hy,py⟩:=h
   exact ih y hy py
  ·exact ⟨x,hx,fun y hy py=>h ⟨y,hy,py⟩⟩
def Lam (m:Nat) (D D':Nat→Bool):Prop:=SubB m D D'∨SubB m D' D∨∀x,x < m→¬(D x=true∧D' x=true)
def Two (m:Nat) (D:Nat→Bool) (x:Nat):Prop:=x < m∧D x=true∧∃z,z < x∧D z=true
section
variable {m:Nat} {l:List (Nat→Bool)}
theorem lam_wit (hl:∀D ∈ l,∀D' ∈ l,Lam m D D') {D:Nat→Bool} (hD:D ∈ l) (h2:∃x,Two m D x) :
  ∃x,Two m D x∧∀D' ∈ l,SubB m D' D→¬SubB m D D'→D' x=true→¬∃z,z < x∧D' z=true:=by
 refine Classical.byContradiction fun hno=>?_
 have key:∀x,Two m D x→∃D' ∈ l,SubB m D' D∧¬SubB m D D'∧D' x=true∧∃z,z < x∧D' z=true:=fun x hx=>Classical.byContradiction fun h=>hno ⟨x,hx,fun D' h1 h2 h3 h4 h5=>h ⟨D',h1,h2,h3,h4,h5⟩⟩
 -- the least element
 obtain ⟨x0,hx0,dx0,z0,hz0,dz0⟩:=h2
 obtain ⟨μ,hμ,hmin⟩:=ex_min (fun x=>D x=true) ⟨z0,dz0⟩
 have hμ0:μ < x0:=Nat.lt_of_le_of_lt (Nat.le_of_not_lt fun h=>hmin _ h dz0) hz0
 have two:∀x,x < m→D x=true→x≠μ→Two m D x:=fun x h1 h2 h3=>⟨h1,h2,μ,by
  have:¬x < μ:=fun h=>hmin _ h h2
  omega,hμ⟩
 -- the greatest lesser set with an element has the least one,too
 have big:∀x,x < m→D x=true→x≠μ→∃D' ∈ l,(SubB m D' D∧¬SubB m D D'∧D' x=true)∧(∀E ∈ l,(SubB m E D∧¬SubB m D E∧E x=true)→crd E m≤crd D' m)∧D' μ=true:=fun x h1 h2 h3=>by
  obtain ⟨E0,e1,e2,e3,e4,_⟩:=key x (two x h1 h2 h3)
  obtain ⟨D',d1,d2,d3⟩:=ex_max (fun E=>crd E m) (fun E=>SubB m E D∧¬SubB m D E∧E x=true) l ⟨E0,e1,e2,e3,e4⟩
  refine ⟨D',d1,d2,d3,Classical.byContradiction fun hn=>?_⟩
  obtain ⟨y,hy,hymin⟩:=ex_min (fun y=>D' y=true) ⟨x,d2.2.2⟩
  have hyx:y≤x:=Nat.le_of_not_lt fun h=>hymin _ h d2.2.2
  have hym:y < m:=by omega
  have hyμ:y≠μ:=fun e=>hn (by rw [←e]; exact hy)
  obtain ⟨E,f1,f2,f3,f4,z,hz,f5⟩:=key y (two y hym (d2.1 y hym hy) hyμ)
  rcases hl D' d1 E f1 with h | h | h
  ·have hEx:E x=true:=h x h1 d2.2.2
   have:=d3 E f1 ⟨f2,f3,hEx⟩
   have:=crd_lt h ⟨z,by omega,f5,fun h=>hymin z hz h⟩
   omega
  ·exact hymin z hz (h z (by omega) f5)
  ·exact h y hym ⟨hy,f4⟩
 obtain ⟨E0,e1,e2,_,_⟩:=big x0 hx0 dx0 (by omega)
 obtain ⟨E,f1,⟨f2,f3,f4⟩,f5⟩:=ex_max (fun E=>crd E m) (fun E=>SubB m E D∧¬SubB m D E∧E μ=true) l ⟨E0,e1,e2.1,e2.2.1,by assumption⟩
 refine f3 fun x h1 h2=>?_
 by_cases e:x=μ
 ·rw [e]; exact f4
 ·obtain ⟨D',d1,d2,_,d4⟩:=big x h1 h2 e
  have hμm:μ < m:=by omega
  rcases hl E f1 D' d1 with h | h | h
  ·refine Classical.byContradiction fun hn=>?_
   have:=f5 D' d1 ⟨d2.1,d2.2.1,d4⟩
   have:=crd_lt h ⟨x,h1,d2.2.2,hn⟩
   omega
  ·exact h x h1 d2.2.2
  ·exact absurd ⟨f4,d4⟩ (h μ hμm)
theorem nodup_rng:∀{l:List Nat} {a m:Nat},l.Nodup→(∀x ∈ l,a≤x∧x < m)→l.length≤m - a:=by
 intro l a m hn h
 have h1:∀(n:Nat) (l:List Nat),l.Nodup→(∀x ∈ l,a≤x∧x < a+n)→l.length≤n:=by
  intro n
  induction n with
  | zero =>
   intro l _ h
   cases l with
   | nil=>exact Nat.le_refl _
   | cons x l=>have:=h x (by simp); omega
  | succ n ih =>
   intro l hn h
   have e:=ih (l.erase (a+n)) (hn.erase _) fun x hx=>by
    have h2:=(List.Nodup.mem_erase_iff hn).1 hx
    have:=h x h2.2
    have:=h2.1
    omega
   have:=List.length_erase_le (a:=a+n) (l:=l)
   by_cases hm:a+n ∈ l
   ·rw [List.length_erase_of_mem hm] at e
    omega
   ·rw [List.erase_of_not_mem hm] at e
    omega
 by_cases ha:a≤m
 ·exact h1 (m - a) l hn fun x hx=>by have:=h x hx; omega
 ·cases l with
  | nil=>simp
  | cons x l=>have:=h x (by simp); omega
theorem lam_len (hnd:l.Pairwise fun D D'=>¬(SubB m D D'∧SubB m D' D)) (h2:∀D ∈ l,∃x,Two m D x) (hl:∀D ∈ l,∀D' ∈ l,Lam m D D'):l.length≤m - 1:=by
 have hw:∀D,∃x,D ∈ l→Two m D x∧∀D' ∈ l,SubB m D' D→¬SubB m D D'→D' x=true→¬∃z,z < x∧D' z=true:=fun D=>by
  by_cases hD:D ∈ l
  ·obtain ⟨x,hx⟩:=lam_wit hl hD (h2 D hD)
   exact ⟨x,fun _=>hx⟩
  ·exact ⟨0,fun h=>absurd h hD⟩
 obtain ⟨f,hf⟩:=Classical.skolem.1 hw
 have hn:(l.map f).Nodup:=by
  refine List.pairwise_map.2 (hnd.imp_of_mem fun {D D'} hD hD' hne e=>hne ?_)
  obtain ⟨⟨a1,a2,a3⟩,a4⟩:=hf D hD
  obtain ⟨⟨b1,b2,b3⟩,b4⟩:=hf D' hD'
  rw [←e] at b2 b3 b4
  rcases hl D hD D' hD' with h | h | h
  ·refine ⟨h,Classical.byContradiction fun hno=>b4 D hD h hno a2 a3⟩
  ·refine ⟨Classical.byContradiction fun hno=>a4 D' hD' h hno b2 b3,h⟩
  ·exact absurd ⟨a2,b2⟩ (h _ a1)
 have:=nodup_rng (a:=1) (m:=m) hn fun x hx=>by
  obtain ⟨D,hD,rfl⟩:=List.mem_map.1 hx
  obtain ⟨⟨a1,a2,z,a3,_⟩,_⟩:=hf D hD
  omega
 rwa [List.length_map] at this
end
theorem ex_cover {α:Type} (P:α→Prop) (M:Nat) (h:∀l:List α,l.Nodup→(∀x ∈ l,P x)→l.length≤M):∃L:List α,L.length≤M∧∀x,P x→x ∈ L:=by
 refine Classical.byContradiction fun hno=>?_
 have key:∀k,k≤M+1→∃l:List α,l.Nodup∧(∀x ∈ l,P x)∧l.length=k:=fun k=>by
  induction k with
  | zero=>exact fun _=>⟨[],List.nodup_nil,fun x h=>(by cases h),rfl⟩
  | succ k ih =>
   intro hk
   obtain ⟨l,h1,h2,h3⟩:=ih (by omega)
   have:∃x,P x∧x ∉ l:=Classical.byContradiction fun hn=>hno ⟨l,by omega,fun x hx=>Classical.byContradiction fun hm=>hn ⟨x,hx,hm⟩⟩
   obtain ⟨x,hx,hm⟩:=this
   refine ⟨x :: l,List.nodup_cons.2 ⟨hm,h1⟩,fun y hy=>?_,by simp [h3]⟩
   rcases List.mem_cons.1 hy with rfl | hy
   ·exact hx
   ·exact h2 y hy
 obtain ⟨l,h1,h2,h3⟩:=key (M+1) (Nat.le_refl _)
 have:=h l h1 h2
 omega
end Go.Sy
end
section
namespace Go.Sy
open Go.Bd
theorem cov_at {n:Nat} {S W:BFn→Prop} (c:Nat→Nat) (h:∀t,t < n→∃L:List BFn,L.length≤c t∧∀G,W G→∀a,Dep (fun b=>G (pfx a t b)) t→(fun b=>G (pfx a t b)) ∈ L∨S fun b=>G (pfx a t b)):CovR n S W ((List.range n).map c).sum:=by
 have h':∀t,∃L:List BFn,t < n→L.length≤c t∧∀G,W G→∀a,Dep (fun b=>G (pfx a t b)) t→(fun b=>G (pfx a t b)) ∈ L∨S fun b=>G (pfx a t b):=fun t=>by
  by_cases ht:t < n
  ·obtain ⟨L,hL⟩:=h t ht
   exact ⟨L,fun _=>hL⟩
  ·exact ⟨[],fun h=>absurd h ht⟩
 obtain ⟨L,hL⟩:=Classical.skolem.1 h'
 let g:Nat→List BFn:=fun t=>if t < n then L t else []
 refine ⟨(List.range n).flatMap g,sum_len g c (fun t=>?_) n,fun G hG t a ht hd=>?_⟩
 ·show (if t < n then L t else []).length≤c t
  by_cases ht:t < n
  ·rw [if_pos ht]; exact (hL t ht).1
  ·rw [if_neg ht]; exact Nat.zero_le _
 ·refine ((hL t ht).2 G hG a hd).imp (fun h=>List.mem_flatMap.2 ⟨t,List.mem_range.2 ht,?_⟩) id
  show _ ∈ (if t < n then L t else [])
  rw [if_pos ht]
  exact h
theorem lam_cov {b kx:Nat} (P:BFn→Prop)
  (hdet:∀K K',P K→P K'→∀c c':Nat→Bool,K c=true→K' c'=true→(∀q,kx≤q→q < b→c (2 * q)=c' (2 * q))→K c'=true)
  (hlam:∀K K',P K→P K'→(∀c,K c=true→K' c=true)∨(∀c,K' c=true→K c=true)∨∀c,¬(K c=true∧K' c=true))
  (h2:∀K,P K→∃c c':Nat→Bool,K c=true∧K c'=true∧∃q,kx≤q∧q < b∧c (2 * q)≠c' (2 * q)) :
  ∃L:List BFn,L.length≤2 ^ (b - kx) - 1∧∀K,P K→K ∈ L:=by
 refine ex_cover P _ fun l hn hl=>?_
 obtain ⟨r,hr⟩:∃r,r=b - kx:=⟨_,rfl⟩
 rw [←hr]
 -- the codes at which a function is true
 have hD:∀K:BFn,∃D:Nat→Bool,∀p,D p=true↔∃c:Nat→Bool,K c=true∧∀i,i < r→c (2 * (kx+i))=p.testBit (r - 1 - i):=fun K=>⟨fun p=>@decide _ (Classical.propDecidable _),fun p=>@decide_eq_true_iff _ (Classical.propDecidable _)⟩
 obtain ⟨D,hD⟩:=Classical.skolem.1 hD
 have code:∀c:Nat→Bool,∃p,p < 2 ^ r∧∀i,i < r→c (2 * (kx+i))=p.testBit (r - 1 - i):=fun c=>bits_of (fun i=>c (2 * (kx+i))) r
 have same:∀{c c':Nat→Bool} {p:Nat},(∀i,i < r→c (2 * (kx+i))=p.testBit (r - 1 - i))→(∀i,i < r→c' (2 * (kx+i))=p.testBit (r - 1 - i))→∀q,kx≤q→q < b→c (2 * q)=c' (2 * q):=fun {c c' p} h h' q h1 h2=>by
  have e1:=h (q - kx) (by omega)
  have e2:=h' (q - kx) (by omega)
  rw [show kx+(q - kx)=q by omega] at e1 e2
  rw [e1,e2]
 have sub:∀K K',P K→P K'→SubB (2 ^ r) (D K) (D K')→∀c,K c=true→K' c=true:=fun K K' hK hK' h c hc=>by
  obtain ⟨p,hp,hb⟩:=code c
  obtain ⟨c',h1,h2⟩:=(hD K' p).1 (h p hp ((hD K p).2 ⟨c,hc,hb⟩))
  exact hdet K' K hK' hK c' c h1 hc (same h2 hb)
 have key:=lam_len (m:=2 ^ r) (l:=l.map D) (List.pairwise_map.2 (hn.imp_of_mem fun {K K'} hK hK' hne ⟨s1,s2⟩=>hne (funext fun c=>by
  rw [Bool.eq_iff_iff]
  exact ⟨sub K K' (hl K hK) (hl K' hK') s1 c,sub K' K (hl K' hK') (hl K hK) s2 c⟩))) (fun d hd=>by
  obtain ⟨K,hK,rfl⟩:=List.mem_map.1 hd
  obtain ⟨c,c',h1,h3,q,q1,q2,q3⟩:=h2 K (hl K hK)
  obtain ⟨p,hp,hb⟩:=code c
  obtain ⟨p',hp',hb'⟩:=code c'
  have hne:p≠p':=fun e=>q3 (same (c:=c) (c':=c') hb (by rw [e]; exact hb') q q1 q2)
  have d1:D K p=true:=(hD K p).2 ⟨c,h1,hb⟩
  have d2:D K p'=true:=(hD K p').2 ⟨c',h3,hb'⟩
  rcases Nat.lt_or_ge p p' with h | h
  ·exact ⟨p',hp',d2,p,h,d1⟩
  ·exact ⟨p,hp,d1,p',by omega,d2⟩) fun d hd d' hd'=>by
  obtain ⟨K,hK,rfl⟩:=List.mem_map.1 hd
  obtain ⟨K',hK',rfl⟩:=List.mem_map.1 hd'
  rcases hlam K K' (hl K hK) (hl K' hK') with h | h | h
  ·refine .inl fun p _ hp=>?_
   obtain ⟨c,h1,h2⟩:=(hD K p).1 hp
   exact (hD K' p).2 ⟨c,h c h1,h2⟩
  ·refine .inr (.inl fun p _ hp=>?_)
   obtain ⟨c,h1,h2⟩:=(hD K' p).1 hp
   exact (hD K p).2 ⟨c,h c h1,h2⟩
  ·refine .inr (.inr fun p _ ⟨hp,hp'⟩=>?_)
   obtain ⟨c,h1,h2⟩:=(hD K p).1 hp
   obtain ⟨c',h3,h4⟩:=(hD K' p).1 hp'
   exact h c' ⟨hdet K K' (hl K hK) (hl K' hK') c c' h1 h3 (same h2 h4),h3⟩
 rwa [List.length_map] at key
theorem part_cov {n t M:Nat} {F:BFn} {Λ:List (Nat→Bool)} (hF:∀a b:Nat→Bool,(∀i,i < n→a i=b i)→F a=F b) (hM:Λ.length≤M) (hp:∀a,F a=true→∃π ∈ Λ,∀i,i < n→a i=π i) (ht:t≤n) :
  ∃L:List BFn,L.length≤M / 2∧∀a,(∃c c':Nat→Bool,F (pfx a t c)=true∧F (pfx a t c')=true∧∃i,t≤i∧i < n∧c i≠c' i)→(fun b=>F (pfx a t b)) ∈ L:=by
 suffices hs:∀l:List BFn,l.Nodup→(∀K ∈ l,∃a,K=(fun b=>F (pfx a t b))∧∃c c':Nat→Bool,F (pfx a t c)=true∧F (pfx a t c')=true∧∃i,t≤i∧i < n∧c i≠c' i)→l.length≤M / 2 by
  obtain ⟨L,h1,h2⟩:=ex_cover _ (M / 2) hs
  exact ⟨L,h1,fun a h=>h2 _ ⟨a,rfl,h⟩⟩
 intro l hn hl
 have hw:∀K:BFn,∃π:(Nat→Bool) × (Nat→Bool),K ∈ l→π.1 ∈ Λ∧π.2 ∈ Λ∧(∃i,i < n∧π.1 i≠π.2 i)∧(∀b,K b=F (pfx π.1 t b))∧∀b,K b=F (pfx π.2 t b):=fun K=>by
  by_cases hK:K ∈ l
  ·obtain ⟨a,rfl,c,c',e1,e2,i,i1,i2,i3⟩:=hl K hK
   obtain ⟨π,m1,m2⟩:=hp _ e1
   obtain ⟨π',m3,m4⟩:=hp _ e2
   have hpre:∀{π:Nat→Bool} {c:Nat→Bool},(∀i,i < n→pfx a t c i=π i)→∀b,F (pfx a t b)=F (pfx π t b):=fun {π c} h b=>hF _ _ fun j hj=>by
    unfold pfx
    by_cases h4:j < t
    ·have:=h j hj
     unfold pfx at this
     rw [if_pos h4] at this
     rw [if_pos h4,if_pos h4,this]
    ·rw [if_neg h4,if_neg h4]
   refine ⟨(π,π'),fun _=>⟨m1,m3,⟨i,i2,fun e=>i3 ?_⟩,hpre m2,hpre m4⟩⟩
   have e3:=m2 i i2
   have e4:=m4 i i2
   unfold pfx at e3 e4
   rw [if_neg (by omega)] at e3 e4
   rw [e3,e4]
   exact e
  ·exact ⟨(fun _=>false,fun _=>false),fun h=>absurd h hK⟩
 obtain ⟨f,hf⟩:=Classical.skolem.1 hw
 have key:∀l':List BFn,l'.Nodup→(∀K ∈ l',K ∈ l)→(l'.flatMap fun K=>[(f K).1,(f K).2]).Nodup∧(∀x ∈ l'.flatMap fun K=>[(f K).1,(f K).2],x ∈ Λ)∧(l'.flatMap fun K=>[(f K).1,(f K).2]).length=2 * l'.length:=fun l'=>by
  induction l' with
  | nil=>exact fun _ _=>⟨List.nodup_nil,fun x h=>(by cases h),rfl⟩
  | cons K l' ih =>
   intro hn' hl'
   rw [List.nodup_cons] at hn'
   obtain ⟨i1,i2,i3⟩:=ih hn'.2 fun K' h=>hl' K' (List.mem_cons_of_mem _ h)
   obtain ⟨g1,g2,⟨i,_,gi⟩,g3,g4⟩:=hf K (hl' K (by simp))
   rw [List.flatMap_cons]
   have hnot:∀x,x=(f K).1∨x=(f K).2→x ∉ l'.flatMap fun K=>[(f K).1,(f K).2]:=fun x hx hm=>by
    obtain ⟨K',hK',hx'⟩:=List.mem_flatMap.1 hm
    obtain ⟨_,_,_,g3',g4'⟩:=hf K' (hl' K' (List.mem_cons_of_mem _ hK'))
    have e1:∀b,K b=F (pfx x t b):=fun b=>by
     rcases hx with rfl | rfl
     ·exact g3 b
     ·exact g4 b
    have e2:∀b,K' b=F (pfx x t b):=fun b=>by
     simp at hx'
     rcases hx' with rfl | rfl
     ·exact g3' b
     ·exact g4' b
    have:K=K':=funext fun b=>(e1 b).trans (e2 b).symm
    exact hn'.1 (by rw [this]; exact hK')
   refine ⟨?_,fun x hx=>?_,?_⟩
   ·show ([(f K).1,(f K).2] ++ _).Nodup
    rw [List.nodup_append]
    refine ⟨by simp; exact fun e=>gi (by rw [e]),i1,fun x hx y hy e=>?_⟩
    subst e
    simp at hx
    exact hnot x hx hy
   ·rcases List.mem_append.1 hx with h | h
    ·simp at h
     rcases h with rfl | rfl
     ·exact g1
     ·exact g2
    ·exact i2 x h
   ·rw [List.length_append,i3,List.length_cons]
    simp
    omega
 obtain ⟨k1,k2,k3⟩:=key l hn fun _ h=>h
 have:=@nodup_len (Nat→Bool) (fun a b=>Classical.propDecidable (a=b)) _ Λ k1 k2
 omega
theorem lst_keys:∀(ks:List BFn) (G:(Nat→Bool)→Prop),∃Λ:List (Nat→Bool),Λ.length≤2 ^ ks.length∧∀a,G a→∃π ∈ Λ,G π∧∀f ∈ ks,f a=f π
 | [],G=>by
  by_cases hx:∃a,G a
  ·obtain ⟨a,ha⟩:=hx
   exact ⟨[a],by simp,fun b hb=>⟨a,by simp,ha,fun f hf=>(by cases hf)⟩⟩
  ·exact ⟨[],by simp,fun a ha=>absurd ⟨a,ha⟩ hx⟩
 | f :: ks,G=>by
  obtain ⟨Λ1,a1,b1⟩:=lst_keys ks fun a=>G a∧f a=true
  obtain ⟨Λ2,a2,b2⟩:=lst_keys ks fun a=>G a∧f a=false
  refine ⟨Λ1 ++ Λ2,by rw [List.length_append,List.length_cons,Nat.pow_succ]; omega,fun a ha=>?_⟩
  cases hx:f a with
  | true =>
   obtain ⟨π,h1,h2,h3⟩:=b1 a ⟨ha,hx⟩
   refine ⟨π,List.mem_append_left _ h1,h2.1,fun g hg=>?_⟩
   rcases List.mem_cons.1 hg with rfl | hg
   ·rw [hx,h2.2]
   ·exact h3 g hg
  | false =>
   obtain ⟨π,h1,h2,h3⟩:=b2 a ⟨ha,hx⟩
   refine ⟨π,List.mem_append_right _ h1,h2.1,fun g hg=>?_⟩
   rcases List.mem_cons.1 hg with rfl | hg
   ·rw [hx,h2.2]
   ·exact h3 g hg
def cubA (l:List (Nat × Bool)) (t:Nat):BFn:=fun a=>(l.filter fun p=>decide (p.1 < t)).all fun p=>a p.1 == p.2
theorem cub_split (l:List (Nat × Bool)) (t:Nat) (a c:Nat→Bool):cubeB l (pfx a t c)=(cubA l t a && cubeB (l.filter fun p=>decide (t≤p.1)) c):=by
 rw [Bool.eq_iff_iff,Bool.and_eq_true]
 unfold cubeB cubA
 simp only [List.all_eq_true,List.mem_filter,beq_iff_eq,decide_eq_true_eq]
 constructor
 ·intro h
  refine ⟨fun p ⟨hp,hlt⟩=>?_,fun p ⟨hp,hge⟩=>?_⟩
  ·have:=h p hp
   rwa [pfx,if_pos hlt] at this
  ·have:=h p hp
   rwa [pfx,if_neg (by omega)] at this
 ·rintro ⟨h1,h2⟩ p hp
  unfold pfx
  by_cases hlt:p.1 < t
  ·rw [if_pos hlt]; exact h1 p ⟨hp,hlt⟩
  ·rw [if_neg hlt]; exact h2 p ⟨hp,by omega⟩
theorem key_cov {t:Nat} (ls:List (List (Nat × Bool))) (G:BFn) (h:∀a a' c:Nat→Bool,(∀l ∈ ls,cubeB l (pfx a t c)=cubeB l (pfx a' t c))→G (pfx a t c)=G (pfx a' t c)) :
  ∃L:List BFn,L.length≤2 ^ ls.length∧∀a,(fun b=>G (pfx a t b)) ∈ L:=by
 obtain ⟨Λ,h1,h2⟩:=lst_keys (ls.map fun l=>cubA l t) fun _=>True
 rw [List.length_map] at h1
 refine ⟨Λ.map fun π=>fun b=>G (pfx π t b),by rw [List.length_map]; exact h1,fun a=>?_⟩
 obtain ⟨π,h3,_,h4⟩:=h2 a trivial
 refine List.mem_map.2 ⟨π,h3,funext fun c=>(h a π c fun l hl=>?_).symm⟩
 rw [cub_split,cub_split,h4 _ (List.mem_map.2 ⟨l,hl,rfl⟩)]
theorem evn_cov {t:Nat} (G:BFn) (h:∀a a' c:Nat→Bool,(∀q,2 * q < t→a (2 * q)=a' (2 * q))→G (pfx a t c)=G (pfx a' t c)) :
  ∃L:List BFn,L.length≤2 ^ ((t+1) / 2)∧∀a,(fun b=>G (pfx a t b)) ∈ L:=by
 obtain ⟨Λ,h1,h2⟩:=lst_keys ((List.range ((t+1) / 2)).map fun q=>fun a=>a (2 * q)) fun _=>True
 rw [List.length_map,List.length_range] at h1
 refine ⟨Λ.map fun π=>fun b=>G (pfx π t b),by rw [List.length_map]; exact h1,fun a=>?_⟩
 obtain ⟨π,h3,_,h4⟩:=h2 a trivial
 exact List.mem_map.2 ⟨π,h3,funext fun c=>(h a π c fun q hq=>h4 _ (List.mem_map.2 ⟨q,List.mem_range.2 (by omega),rfl⟩)).symm⟩
def PtB (rel:Nat→Bool) (n t:Nat) (π:Nat→Bool):BFn:=fun c=>(List.range n).all fun i=>decide (i < t) || !rel i || (c i == π i)
theorem ptB_iff {rel:Nat→Bool} {n t:Nat} {π c:Nat→Bool}:PtB rel n t π c=true↔∀i,t≤i→i < n→rel i=true→c i=π i:=by
 unfold PtB
 rw [List.all_eq_true]
 constructor
 ·intro h i h1 h2 h3
  have:=h i (List.mem_range.2 h2)
  rw [h3,decide_eq_false (by omega)] at this
  simpa using this
 ·intro h i hi
  have hi:=List.mem_range.1 hi
  by_cases h1:i < t
  ·rw [decide_eq_true h1]; rfl
  ·cases h2:rel i with
   | false=>simp
   | true=>rw [h i (by omega) hi h2]; simp
theorem pt_of {rel:Nat→Bool} {n t:Nat} {K:BFn} (hK:∀c c':Nat→Bool,(∀i,t≤i→i < n→rel i=true→c i=c' i)→K c=K c') {π:Nat→Bool} (h1:K π=true) (h2:∀c,K c=true→∀i,t≤i→i < n→rel i=true→c i=π i):K=PtB rel n t π:=funext fun c=>by
 rw [Bool.eq_iff_iff,ptB_iff]
 exact ⟨h2 c,fun h=>by rw [hK c π h]; exact h1⟩
def PtS (rel:Nat→Bool) (n t0:Nat) (K:BFn):Prop:=∃t π,t0≤t∧t≤n∧K=PtB rel n t π
def cntF (rel:Nat→Bool) (n t:Nat):Nat:=((List.range n).filter fun i=>decide (t≤i) && rel i).length
theorem cov_pt (rel:Nat→Bool) (n t0:Nat):CovW n (PtS rel n t0) ((List.range n).map fun t=>if t0≤t∧rel t=true then 2 ^ cntF rel n t else 0).sum:=by
 have key:∀t,∃L:List BFn,L.length≤2 ^ cntF rel n t∧∀π,PtB rel n t π ∈ L:=fun t=>by
  obtain ⟨Λ,h1,h2⟩:=lst_keys (((List.range n).filter fun i=>decide (t≤i) && rel i).map fun i=>fun a=>a i) fun _=>True
  rw [List.length_map] at h1
  refine ⟨Λ.map fun π=>PtB rel n t π,by rw [List.length_map]; exact h1,fun a=>?_⟩
  obtain ⟨π,h3,_,h4⟩:=h2 a trivial
  refine List.mem_map.2 ⟨π,h3,funext fun c=>?_⟩
  rw [Bool.eq_iff_iff,ptB_iff,ptB_iff]
  have e:∀i,t≤i→i < n→rel i=true→a i=π i:=fun i i1 i2 i3=>h4 (fun a=>a i) (List.mem_map.2 ⟨i,List.mem_filter.2 ⟨List.mem_range.2 i2,by simp [i1,i3]⟩,rfl⟩)
  exact ⟨fun h i i1 i2 i3=>by rw [h i i1 i2 i3,e i i1 i2 i3],fun h i i1 i2 i3=>by rw [h i i1 i2 i3,e i i1 i2 i3]⟩
 obtain ⟨L,hL⟩:=Classical.skolem.1 key
 have hc:=cov_at (n:=n) (S:=fun _=>False) (W:=PtS rel n t0) (fun t=>if t0≤t∧rel t=true then 2 ^ cntF rel n t else 0) fun t ht=>by
  by_cases h:t0≤t∧rel t=true
  ·refine ⟨L t,by rw [if_pos h]; exact (hL t).1,fun G hG a hd=>.inl ?_⟩
   obtain ⟨t',π,h1,h2,rfl⟩:=hG
   -- it depends on the variable,so that it is no later one
   have h3:t'≤t:=Nat.le_of_not_lt fun hlt=>by
    obtain ⟨x,hx⟩:=hd
    apply hx
    show PtB rel n t' π (pfx a t (upd x t true))=PtB rel n t' π (pfx a t (upd x t false))
    rw [Bool.eq_iff_iff,ptB_iff,ptB_iff]
    have e:∀i,t'≤i→pfx a t (upd x t true) i=pfx a t (upd x t false) i:=fun i hi=>by
     unfold pfx
     rw [if_neg (by omega),if_neg (by omega),upd_ne (by omega),upd_ne (by omega)]
    exact ⟨fun h i i1 i2 i3=>by rw [←e i i1]; exact h i i1 i2 i3,fun h i i1 i2 i3=>by rw [e i i1]; exact h i i1 i2 i3⟩
   have h4:∀i,t'≤i→i < t→rel i=true→a i=π i:=fun i i1 i2 i3=>by
    obtain ⟨x,hx⟩:=dep_true hd
    have:=ptB_iff.1 hx i i1 (by omega) i3
    unfold pfx at this
    rwa [if_pos i2] at this
   have e:(fun b=>PtB rel n t' π (pfx a t b))=PtB rel n t π:=funext fun x=>by
    rw [Bool.eq_iff_iff]
    show PtB rel n t' π (pfx a t x)=true↔_
    rw [ptB_iff,ptB_iff]
    constructor
    ·intro h i i1 i2 i3
     have:=h i (by omega) i2 i3
     unfold pfx at this
     rwa [if_neg (by omega)] at this
    ·intro h i i1 i2 i3
     unfold pfx
     by_cases h5:i < t
     ·rw [if_pos h5]; exact h4 i i1 h5 i3
     ·rw [if_neg h5]; exact h i (by omega) i2 i3
   rw [e]
   exact (hL t).2 π
  ·refine ⟨[],by simp,fun G hG a hd=>?_⟩
   exfalso
   obtain ⟨t',π,h1,h2,rfl⟩:=hG
   obtain ⟨x,hx⟩:=hd
   apply hx
   show PtB rel n t' π (pfx a t (upd x t true))=PtB rel n t' π (pfx a t (upd x t false))
   rw [Bool.eq_iff_iff,ptB_iff,ptB_iff]
   have e:∀i,t'≤i→rel i=true→pfx a t (upd x t true) i=pfx a t (upd x t false) i:=fun i hi hr=>by
    unfold pfx
    by_cases h5:i < t
    ·rw [if_pos h5,if_pos h5]
    ·have:i≠t:=fun e=>h ⟨by omega,by rw [←e]; exact hr⟩
     rw [if_neg h5,if_neg h5,upd_ne this,upd_ne this]
   exact ⟨fun h i i1 i2 i3=>by rw [←e i i1 i3]; exact h i i1 i2 i3,fun h i i1 i2 i3=>by rw [e i i1 i3]; exact h i i1 i2 i3⟩
 obtain ⟨L',l1,l2⟩:=hc
 exact ⟨L',l1,fun G hG t a ht hd=>(l2 G hG t a ht hd).elim id fun h=>h.elim⟩
end Go.Sy
end
section
namespace Go.Sy
open Go.Bd
theorem CovR.smono {n N:Nat} {S S' W:BFn→Prop} (h:CovR n S W N) (hs:∀K,S K→S' K):CovR n S' W N:=by
 obtain ⟨L,a,b⟩:=h
 exact ⟨L,a,fun G hG t a ht hd=>(b G hG t a ht hd).imp id (hs _)⟩
theorem det_list:∀(ps qs:List Nat),(ps ++ qs).Nodup→∃L:List BFn,L.length≤(2 ^ qs.length+1) ^ 2 ^ ps.length∧∀K:BFn,(∀a c:Nat→Bool,(∀i ∈ ps,a i=c i)→(∀i ∈ qs,a i=c i)→K a=K c) →
  (∀a c:Nat→Bool,K a=true→K c=true→(∀i ∈ ps,a i=c i)→∀i ∈ qs,a i=c i)→K ∈ L
 | [],qs,_=>by
  obtain ⟨Λ,h1,h2⟩:=lst_keys (qs.map fun i=>fun a=>a i) fun _=>True
  rw [List.length_map] at h1
  refine ⟨(fun _=>false) :: Λ.map fun π=>fun c=>qs.all fun i=>c i == π i,by rw [List.length_cons,List.length_map]; simp; exact h1,fun K hK hd=>?_⟩
  by_cases h:∃a,K a=true
  ·obtain ⟨a,ha⟩:=h
   obtain ⟨π,h3,_,h4⟩:=h2 a trivial
   refine List.mem_cons_of_mem _ (List.mem_map.2 ⟨π,h3,funext fun c=>?_⟩)
   rw [Bool.eq_iff_iff,List.all_eq_true]
   have e:∀i ∈ qs,a i=π i:=fun i hi=>h4 (fun a=>a i) (List.mem_map.2 ⟨i,hi,rfl⟩)
   constructor
   ·intro h
    rw [hK c a (fun i hi=>(by cases hi)) fun i hi=>by have:=h i hi; rw [beq_iff_eq] at this; rw [this,e i hi]]
    exact ha
   ·intro h i hi
    rw [beq_iff_eq,←e i hi]
    exact hd c a h ha (fun i hi=>(by cases hi)) i hi
  ·have:K=fun _=>false:=funext fun a=>by
    cases hk:K a with
    | false=>rfl
    | true=>exact absurd ⟨a,hk⟩ h
   rw [this]
   exact List.mem_cons_self ..
 | p :: ps,qs,hn=>by
  rw [List.cons_append,List.nodup_cons] at hn
  have hp:p ∉ ps:=fun h=>hn.1 (List.mem_append_left _ h)
  have hq:p ∉ qs:=fun h=>hn.1 (List.mem_append_right _ h)
  obtain ⟨L,a,b⟩:=det_list ps qs hn.2
  refine ⟨L.flatMap fun K1=>L.map fun K2=>fun x=>if x p then K1 x else K2 x,?_,fun K hK hd=>?_⟩
  ·have:∀(l:List BFn),(l.flatMap fun K1=>L.map fun K2=>(fun x=>if x p then K1 x else K2 x:BFn)).length=l.length * L.length:=fun l=>by
    induction l with
    | nil=>simp
    | cons x l ih=>rw [List.flatMap_cons,List.length_append,ih,List.length_map,List.length_cons,Nat.succ_mul,Nat.add_comm]
   rw [this,List.length_cons,Nat.pow_succ 2 ps.length,Nat.mul_two,Nat.pow_add]
   exact Nat.mul_le_mul a a
  ·have up:∀(x y:Nat→Bool) (z:Bool) (l:List Nat),p ∉ l→(∀i ∈ l,x i=y i)→∀i ∈ l,upd x p z i=upd y p z i:=fun x y z l hl h i hi=>by
    have:i≠p:=fun e=>hl (by rw [←e]; exact hi)
    rw [upd_ne this,upd_ne this]
    exact h i hi
   have key:∀z,(fun x=>K (upd x p z)) ∈ L:=fun z=>b _ (fun x y h1 h2=>hK _ _ (fun i hi=>by
    rcases List.mem_cons.1 hi with rfl | hi
    ·rw [upd_same,upd_same]
    ·exact up x y z ps hp h1 i hi) (up x y z qs hq h2)) fun x y hx hy h1 i hi=>by
    have:=hd _ _ hx hy (fun i hi=>by
     rcases List.mem_cons.1 hi with rfl | hi
     ·rw [upd_same,upd_same]
     ·exact up x y z ps hp h1 i hi) i hi
    have hne:i≠p:=fun e=>hq (by rw [←e]; exact hi)
    rwa [upd_ne hne,upd_ne hne] at this
   refine List.mem_flatMap.2 ⟨_,key true,List.mem_map.2 ⟨_,key false,funext fun x=>?_⟩⟩
   have e:∀z,x p=z→upd x p z=x:=fun z hz=>funext fun i=>by
    by_cases e:i=p
    ·subst e; rw [upd_same,hz]
    ·rw [upd_ne e]
   cases hx:x p with
   | true=>rw [if_pos rfl,e true hx]
   | false=>rw [if_neg (by decide),e false hx]
def DetA (rel:Nat→Bool) (n t:Nat) (K:BFn):Prop:=(∀c c':Nat→Bool,(∀i,t≤i→i < n→rel i=true→c i=c' i)→K c=K c') ∧
 ∀c c':Nat→Bool,K c=true→K c'=true→(∀q,t≤2 * q→2 * q < n→rel (2 * q)=true→c (2 * q)=c' (2 * q))→∀i,t≤i→i < n→rel i=true→c i=c' i
def DetS (rel:Nat→Bool) (n t1:Nat) (K:BFn):Prop:=∃t,t1≤t∧DetA rel n t K
def cntP (rel:Nat→Bool) (n t x:Nat):Nat:=((List.range n).filter fun i=>decide (t≤i) && decide (i % 2=x) && rel i).length
def detN (rel:Nat→Bool) (n t1:Nat):Nat:=((List.range n).map fun t=>if t1≤t then (2 ^ cntP rel n t 1+1) ^ 2 ^ cntP rel n t 0 else 0).sum
theorem DetA.part {rel:Nat→Bool} {n t t':Nat} {K:BFn} (h:DetA rel n t K) (ht:t≤t') (a:Nat→Bool):DetA rel n t' fun b=>K (pfx a t' b):=by
 refine ⟨fun c c' hc=>h.1 _ _ fun i i1 i2 i3=>?_,fun c c' h1 h2 hc i i1 i2 i3=>?_⟩
 ·unfold pfx
  by_cases h4:i < t'
  ·rw [if_pos h4,if_pos h4]
  ·rw [if_neg h4,if_neg h4]; exact hc i (by omega) i2 i3
 ·have:=h.2 _ _ h1 h2 (fun q q1 q2 q3=>by
   unfold pfx
   by_cases h4:2 * q < t'
   ·rw [if_pos h4,if_pos h4]
   ·rw [if_neg h4,if_neg h4]; exact hc q (by omega) q2 q3) i (by omega) i2 i3
  unfold pfx at this
  rwa [if_neg (by omega),if_neg (by omega)] at this
theorem cov_det2 (rel:Nat→Bool) (n t1:Nat):CovW n (DetS rel n t1) (detN rel n t1):=by
 have hc:=cov_at (n:=n) (S:=fun _=>False) (W:=DetS rel n t1) (fun t=>if t1≤t then (2 ^ cntP rel n t 1+1) ^ 2 ^ cntP rel n t 0 else 0) fun t ht=>by
  by_cases h:t1≤t
  ·obtain ⟨L,l1,l2⟩:=det_list ((List.range n).filter fun i=>decide (t≤i) && decide (i % 2=0) && rel i) ((List.range n).filter fun i=>decide (t≤i) && decide (i % 2=1) && rel i) (by
    rw [List.nodup_append]
    refine ⟨List.Pairwise.filter _ List.nodup_range,List.Pairwise.filter _ List.nodup_range,fun x hx y hy e=>?_⟩
    subst e
    have h1:=(List.mem_filter.1 hx).2
    have h2:=(List.mem_filter.1 hy).2
    simp at h1 h2
    omega)
   refine ⟨L,by rw [if_pos h]; exact l1,fun G hG a hd=>.inl (l2 _ ?_ ?_)⟩
   all_goals
    obtain ⟨t',ht',hK⟩:=hG
    have hle:t'≤t:=Nat.le_of_not_lt fun hlt=>by
     obtain ⟨x,hx⟩:=hd
     apply hx
     show G (pfx a t (upd x t true))=G (pfx a t (upd x t false))
     refine hK.1 _ _ fun i i1 i2 i3=>?_
     unfold pfx
     rw [if_neg (by omega),if_neg (by omega),upd_ne (by omega),upd_ne (by omega)]
    have hP:=hK.part hle a
    have mem:∀{x i:Nat},t≤i→i < n→i % 2=x→rel i=true→i ∈ (List.range n).filter fun i=>decide (t≤i) && decide (i % 2=x) && rel i:=fun h1 h2 h3 h4=>List.mem_filter.2 ⟨List.mem_range.2 h2,by simp [h1,h3,h4]⟩
   ·intro x y h1 h2
    refine hP.1 x y fun i i1 i2 i3=>?_
    rcases Nat.mod_two_eq_zero_or_one i with h0 | h0
    ·exact h1 i (mem i1 i2 h0 i3)
    ·exact h2 i (mem i1 i2 h0 i3)
   ·intro x y hx hy h1 i hi
    have hi':=List.mem_filter.1 hi
    have h3:=hi'.2
    simp only [Bool.and_eq_true,decide_eq_true_eq] at h3
    exact hP.2 x y hx hy (fun q q1 q2 q3=>h1 _ (mem q1 q2 (by omega) q3)) i h3.1.1 (List.mem_range.1 hi'.1) h3.2
  ·refine ⟨[],by simp,fun G hG a hd=>?_⟩
   exfalso
   obtain ⟨t',ht',hK⟩:=hG
   obtain ⟨x,hx⟩:=hd
   apply hx
   show G (pfx a t (upd x t true))=G (pfx a t (upd x t false))
   refine hK.1 _ _ fun i i1 i2 i3=>?_
   unfold pfx
   rw [if_neg (by omega),if_neg (by omega),upd_ne (by omega),upd_ne (by omega)]
 obtain ⟨L',l1,l2⟩:=hc
 exact ⟨L',l1,fun G hG t a ht hd=>(l2 G hG t a ht hd).elim id fun h=>h.elim⟩
theorem lam_abs {α:Type} (Λ:List α) (R:BFn→(α→Prop)→Prop) (hK:∀K K' D D',R K D→R K' D'→(∀π ∈ Λ,D π↔D' π)→K=K')
  (hlam:∀K K' D D',R K D→R K' D'→(∀π ∈ Λ,D π→D' π)∨(∀π ∈ Λ,D' π→D π)∨∀π ∈ Λ,¬(D π∧D' π)) :
  ∃L:List BFn,L.length≤Λ.length - 1∧∀K D,R K D→(∃π ∈ Λ,∃π' ∈ Λ,D π∧D π'∧π≠π')→K ∈ L:=by
 suffices hs:∀l:List BFn,l.Nodup→(∀K ∈ l,∃D,R K D∧∃π ∈ Λ,∃π' ∈ Λ,D π∧D π'∧π≠π')→l.length≤Λ.length - 1 by
  obtain ⟨L,h1,h2⟩:=ex_cover _ _ hs
  exact ⟨L,h1,fun K D hR h=>h2 K ⟨D,hR,h⟩⟩
 intro l hn hl
 have hf:∀K,∃D:α→Prop,K ∈ l→R K D∧∃π ∈ Λ,∃π' ∈ Λ,D π∧D π'∧π≠π':=fun K=>by
  by_cases h:K ∈ l
  ·obtain ⟨D,hD⟩:=hl K h
   exact ⟨D,fun _=>hD⟩
  ·exact ⟨fun _=>True,fun h'=>absurd h' h⟩
 obtain ⟨D,hD⟩:=Classical.skolem.1 hf
 have hB:∀K:BFn,∃B:Nat→Bool,∀i,B i=true↔∃π,Λ[i]? = some π∧D K π:=fun K=>⟨fun i=>@decide _ (Classical.propDecidable _),fun i=>@decide_eq_true_iff _ (Classical.propDecidable _)⟩
 obtain ⟨B,hB⟩:=Classical.skolem.1 hB
 have sub:∀K K',SubB Λ.length (B K) (B K')→∀π ∈ Λ,D K π→D K' π:=fun K K' h π hπ hd=>by
  obtain ⟨i,hi⟩:=List.mem_iff_getElem?.1 hπ
  obtain ⟨π',h1,h2⟩:=(hB K' i).1 (h i (List.getElem?_eq_some_iff.1 hi).1 ((hB K i).2 ⟨π,hi,hd⟩))
  rw [hi] at h1
  injection h1 with h1
  rw [h1]; exact h2
 have mem:∀{i:Nat} {π:α},Λ[i]? = some π→π ∈ Λ:=fun h=>List.mem_of_getElem? h
 have key:=lam_len (m:=Λ.length) (l:=l.map B) (List.pairwise_map.2 (hn.imp_of_mem fun {K K'} h1 h2 hne ⟨s1,s2⟩=>hne (hK K K' _ _ (hD K h1).1 (hD K' h2).1 fun π hπ=>⟨sub K K' s1 π hπ,sub K' K s2 π hπ⟩))) (fun d hd=>by
  obtain ⟨K,hKl,rfl⟩:=List.mem_map.1 hd
  obtain ⟨_,π,m1,π',m2,d1,d2,hne⟩:=hD K hKl
  obtain ⟨i,hi⟩:=List.mem_iff_getElem?.1 m1
  obtain ⟨j,hj⟩:=List.mem_iff_getElem?.1 m2
  have b1:B K i=true:=(hB K i).2 ⟨π,hi,d1⟩
  have b2:B K j=true:=(hB K j).2 ⟨π',hj,d2⟩
  have hij:i≠j:=fun e=>hne (by rw [e,hj] at hi; exact (Option.some.inj hi).symm)
  have l1:=(List.getElem?_eq_some_iff.1 hi).1
  have l2:=(List.getElem?_eq_some_iff.1 hj).1
  rcases Nat.lt_or_ge i j with h | h
  ·exact ⟨j,l2,b2,i,h,b1⟩
  ·exact ⟨i,l1,b1,j,by omega,b2⟩) fun d hd d' hd'=>by
  obtain ⟨K,k1,rfl⟩:=List.mem_map.1 hd
  obtain ⟨K',k2,rfl⟩:=List.mem_map.1 hd'
  rcases hlam K K' _ _ (hD K k1).1 (hD K' k2).1 with h | h | h
  ·refine .inl fun i _ hi=>?_
   obtain ⟨π,h1,h2⟩:=(hB K i).1 hi
   exact (hB K' i).2 ⟨π,h1,h π (mem h1) h2⟩
  ·refine .inr (.inl fun i _ hi=>?_)
   obtain ⟨π,h1,h2⟩:=(hB K' i).1 hi
   exact (hB K i).2 ⟨π,h1,h π (mem h1) h2⟩
  ·refine .inr (.inr fun i _ ⟨h1,h2⟩=>?_)
   obtain ⟨π,h3,h4⟩:=(hB K i).1 h1
   obtain ⟨π',h5,h6⟩:=(hB K' i).1 h2
   rw [h3] at h5
   injection h5 with h5
   subst h5
   exact h π (mem h3) ⟨h4,h6⟩
 rwa [List.length_map] at key
def ptM (n t0 t1 M t:Nat):Nat:=if t1≤t then 0 else if t < t0 then min (2 ^ t) M else min (2 ^ t) (M / 2)
def ptZ (n t0 t1 M:Nat):Nat:=((List.range n).map (ptM n t0 t1 M)).sum
def allR (i:Nat):Bool:=true
theorem pfx_fin {n t:Nat} {F:BFn} (hF:∀a b:Nat→Bool,(∀i,i < n→a i=b i)→F a=F b) {a c c':Nat→Bool} (h:∀i,t≤i→i < n→c i=c' i):F (pfx a t c)=F (pfx a t c'):=hF _ _ fun i hi=>by
 unfold pfx
 by_cases h4:i < t
 ·rw [if_pos h4,if_pos h4]
 ·rw [if_neg h4,if_neg h4]; exact h i (by omega) hi
theorem all_cov {n t:Nat} {F:BFn} (hF:∀a b:Nat→Bool,(∀i,i < n→a i=b i)→F a=F b):∃L:List BFn,L.length≤2 ^ t∧∀a,(fun b=>F (pfx a t b)) ∈ L:=by
 obtain ⟨Λ,h1,h2⟩:=lst_keys ((List.range t).map fun q=>fun a=>a q) fun _=>True
 rw [List.length_map,List.length_range] at h1
 refine ⟨Λ.map fun π=>fun b=>F (pfx π t b),by rw [List.length_map]; exact h1,fun a=>?_⟩
 obtain ⟨π,h3,_,h4⟩:=h2 a trivial
 refine List.mem_map.2 ⟨π,h3,funext fun c=>?_⟩
 have e:pfx π t c=pfx a t c:=funext fun i=>by
  unfold pfx
  by_cases h5:i < t
  ·rw [if_pos h5,if_pos h5]; exact (h4 (fun a=>a i) (List.mem_map.2 ⟨i,List.mem_range.2 h5,rfl⟩)).symm
  ·rw [if_neg h5,if_neg h5]
 rw [e]
theorem cov_ptz {n t0 t1 M:Nat} {S:BFn→Prop} {F:BFn} {Λ:List (Nat→Bool)} (hF:∀a b:Nat→Bool,(∀i,i < n→a i=b i)→F a=F b) (hM:Λ.length≤M) (hp:∀a,F a=true→∃π ∈ Λ,∀i,i < n→a i=π i)
  (hdet:∀a b:Nat→Bool,F a=true→F b=true→(∀q,2 * q < n→a (2 * q)=b (2 * q))→∀i,i < n→a i=b i)
  (hS1:∀K,PtS allR n t0 K→S K) (hS2:∀K,DetS allR n t1 K→S K):CovR n S (fun G=>G=F) (ptZ n t0 t1 M):=by
 refine cov_at (ptM n t0 t1 M) fun t ht=>?_
 unfold ptM
 by_cases h1:t1≤t
 ·rw [if_pos h1]
  refine ⟨[],by simp,fun G hG a hd=>.inr (hS2 _ ?_)⟩
  subst hG
  refine ⟨t,h1,fun c c' hc=>pfx_fin hF fun i i1 i2=>hc i i1 i2 rfl,fun c c' e1 e2 hc i i1 i2 _=>?_⟩
  have:=hdet _ _ e1 e2 (fun q hq=>by
   unfold pfx
   by_cases h4:2 * q < t
   ·rw [if_pos h4,if_pos h4]
   ·rw [if_neg h4,if_neg h4]; exact hc q (by omega) hq rfl) i i2
  unfold pfx at this
  rwa [if_neg (by omega),if_neg (by omega)] at this
 rw [if_neg h1]
 by_cases h0:t < t0
 ·rw [if_pos h0]
  by_cases hm:2 ^ t≤M
  ·obtain ⟨L,l1,l2⟩:=all_cov (t:=t) hF
   exact ⟨L,by rw [Nat.min_eq_left hm]; exact l1,fun G hG a _=>.inl (by subst hG; exact l2 a)⟩
  ·refine ⟨Λ.map fun π=>fun b=>F (pfx π t b),by rw [List.length_map,Nat.min_eq_right (by omega)]; exact hM,fun G hG a hd=>.inl ?_⟩
   subst hG
   obtain ⟨x,hx⟩:=dep_true hd
   obtain ⟨π,m1,m2⟩:=hp _ hx
   refine List.mem_map.2 ⟨π,m1,funext fun c=>hF _ _ fun i hi=>?_⟩
   have:=m2 i hi
   unfold pfx at this ⊢
   by_cases h5:i < t
   ·rw [if_pos h5] at this; rw [if_pos h5,if_pos h5,this]
   ·rw [if_neg h5,if_neg h5]
 rw [if_neg h0]
 -- two points,or one
 have two:∀a,(∃c,F (pfx a t c)=true)→(∃c c':Nat→Bool,F (pfx a t c)=true∧F (pfx a t c')=true∧∃i,t≤i∧i < n∧c i≠c' i)∨S fun b=>F (pfx a t b):=fun a ⟨π,hπ⟩=>by
  by_cases h:∃c c':Nat→Bool,F (pfx a t c)=true∧F (pfx a t c')=true∧∃i,t≤i∧i < n∧c i≠c' i
  ·exact .inl h
  ·refine .inr (hS1 _ ⟨t,π,by omega,by omega,pt_of (fun c c' hc=>pfx_fin hF fun i i1 i2=>hc i i1 i2 rfl) hπ fun c hc i i1 i2 _=>?_⟩)
   exact Classical.byContradiction fun hne=>h ⟨c,π,hc,hπ,i,i1,i2,hne⟩
 by_cases hm:2 ^ t≤M / 2
 ·obtain ⟨L,l1,l2⟩:=all_cov (t:=t) hF
  exact ⟨L,by rw [Nat.min_eq_left hm]; exact l1,fun G hG a _=>.inl (by subst hG; exact l2 a)⟩
 ·obtain ⟨L,l1,l2⟩:=part_cov hF hM hp (t:=t) (by omega)
  refine ⟨L,by rw [Nat.min_eq_right (by omega)]; exact l1,fun G hG a hd=>?_⟩
  subst hG
  exact (two a (dep_true hd)).imp (l2 a) id
end Go.Sy
end
