/-
  A part of the proof of this claim's statement (LdFr, LdA, LdB, LdC, WhTab): plain theorems; no conditions beyond those each names.
-/
import Derived.Test.YtolkjbmcindhjaaGreatPk16
import Derived.Test.YtolkjbmcindhjaaGreatPk17
import Derived.Test.YtolkjbmcindhjaaGreatPk10
set_option maxRecDepth 100000
set_option linter.unusedSimpArgs false
set_option linter.unusedVariables false
set_option linter.unusedSectionVars false
section
namespace Go.Proofs.YtolkjbmcindhjaaGreat
open Go Go.W Go.Tk Go.Rx Go.Sx
def rv (f:Fr):Rat:=(f.1:Rat) / (f.2:Rat)
theorem rv_zero:rv (0,1)=0:=by unfold rv; simp; grind
theorem rc_ne {d:Int} (h:d≠0):(d:Rat)≠0:=fun e=>h (by have:=Rat.intCast_inj.1 (show (d:Rat)=((0:Int):Rat) by rw [e]; simp); exact this)
theorem rc_pos {d:Int} (h:1≤d):(0:Rat) < (d:Rat):=by
 have:=Rat.intCast_lt_intCast.2 (show (0:Int) < d by omega)
 simpa using this
theorem frP_pos {f:Fr} (h:frP f=true):(0:Rat) < (f.2:Rat):=rc_pos (frP_iff.1 h).1
theorem rv_mul {f:Fr} (h:frP f=true):rv f * (f.2:Rat)=(f.1:Rat):=by
 have:=frP_pos h
 unfold rv
 grind
theorem rv_eq {f:Fr} {x y:Int} (h:frP f=true) (hy:y≠0) (e:f.1 * y=x * f.2):rv f=(x:Rat) / (y:Rat):=by
 have h1:=frP_pos h
 have h2:=rc_ne hy
 have h3:(f.1:Rat) * (y:Rat)=(x:Rat) * (f.2:Rat):=by rw [←Rat.intCast_mul,←Rat.intCast_mul,e]
 unfold rv
 grind
theorem frNew_rv {n d:Int} {f:Fr} (hd:1≤d) (h:frNew n d=some f):frP f=true∧rv f=(n:Rat) / (d:Rat):=by
 obtain ⟨h1,h2⟩:=frNew_ok hd h
 exact ⟨h1,rv_eq h1 (by omega) h2⟩
theorem frAdd_rv {a b f:Fr} (ha:frP a=true) (hb:frP b=true) (h:frAdd a b=some f):frP f=true∧rv f=rv a+rv b:=by
 have ha':=frP_iff.1 ha
 have hb':=frP_iff.1 hb
 obtain ⟨h1,h2⟩:=frNew_rv (den_bd ha'.1 ha'.2.1 hb'.1 hb'.2.1).1 h
 refine ⟨h1,?_⟩
 rw [h2,Rat.intCast_add,Rat.intCast_mul,Rat.intCast_mul,Rat.intCast_mul]
 have p1:=frP_pos ha
 have p2:=frP_pos hb
 unfold rv
 grind
def frSub (a b:Fr):Option Fr:=frNew (a.1 * b.2 - b.1 * a.2) (a.2 * b.2)
theorem frSub_rv {a b f:Fr} (ha:frP a=true) (hb:frP b=true) (h:frSub a b=some f):frP f=true∧rv f=rv a - rv b:=by
 have ha':=frP_iff.1 ha
 have hb':=frP_iff.1 hb
 obtain ⟨h1,h2⟩:=frNew_rv (den_bd ha'.1 ha'.2.1 hb'.1 hb'.2.1).1 h
 refine ⟨h1,?_⟩
 rw [h2,Rat.intCast_sub,Rat.intCast_mul,Rat.intCast_mul,Rat.intCast_mul]
 have p1:=frP_pos ha
 have p2:=frP_pos hb
 unfold rv
 grind
theorem div_lt {a b c d:Rat} (hb:0 < b) (hd:0 < d):a / b < c / d↔a * d < c * b:=by
 have e1:a / b * (b * d)=a * d:=by grind
 have e2:c / d * (b * d)=c * b:=by grind
 have hp:=Rat.mul_pos hb hd
 rw [←e1,←e2]
 constructor
 ·intro h
  exact Rat.mul_lt_mul_of_pos_right h hp
 ·intro h
  by_cases g:a / b < c / d
  ·exact g
  ·have:=Rat.mul_le_mul_of_nonneg_right (show c / d≤a / b by grind) (Rat.le_of_lt hp)
   grind
theorem rv_lt {a b:Fr} (ha:frP a=true) (hb:frP b=true):rv a < rv b↔a.1 * b.2 < b.1 * a.2:=by
 unfold rv
 rw [div_lt (frP_pos ha) (frP_pos hb),←Rat.intCast_mul,←Rat.intCast_mul,Rat.intCast_lt_intCast]
theorem frCmp_neg {a b:Fr} (ha:frP a=true) (hb:frP b=true):frCmp a b < 0↔rv a < rv b:=by
 rw [rv_lt ha hb]
 unfold frCmp
 constructor
 ·intro h
  split at h
  ·assumption
  ·split at h <;> omega
 ·intro h
  rw [if_pos h]
  omega
theorem frCmp_pos {a b:Fr} (ha:frP a=true) (hb:frP b=true):0 < frCmp a b↔rv b < rv a:=by
 rw [rv_lt hb ha]
 unfold frCmp
 constructor
 ·intro h
  split at h
  ·omega
  ·split at h
   ·assumption
   ·omega
 ·intro h
  rw [if_neg (by omega),if_pos h]
  omega
theorem frCmp_zero {a b:Fr} (ha:frP a=true) (hb:frP b=true):frCmp a b=0↔rv a=rv b:=by
 have h1:=frCmp_neg ha hb
 have h2:=frCmp_pos ha hb
 constructor
 ·intro h
  have a1:¬rv a < rv b:=fun x=>by have:=h1.2 x; omega
  have a2:¬rv b < rv a:=fun x=>by have:=h2.2 x; omega
  grind
 ·intro h
  have a1:¬frCmp a b < 0:=fun x=>by have:=h1.1 x; grind
  have a2:¬0 < frCmp a b:=fun x=>by have:=h2.1 x; grind
  omega
theorem rv_pos {f:Fr} (h:frP f=true):0 < rv f↔0 < f.1:=by
 have:=rv_lt (a:=(0,1)) (b:=f) (by decide) h
 have e:rv (0,1)=0:=rv_zero
 rw [e] at this
 rw [this]
 have:=(frP_iff.1 h).1
 constructor <;> intro <;> omega
theorem rv_nn {f:Fr} (h:frP f=true):0≤rv f↔0≤f.1:=by
 have:=rv_lt (a:=f) (b:=(0,1)) h (by decide)
 have e:rv (0,1)=0:=rv_zero
 rw [e] at this
 have h3:¬rv f < 0↔¬f.1 < 0:=by
  rw [this]
  constructor <;> intro <;> omega
 constructor
 ·intro h4
  have:=h3.1 (by grind)
  omega
 ·intro h4
  have:=h3.2 (by omega)
  grind
theorem rv_whole (n:Int):rv (n,1)=(n:Rat):=by
 unfold rv
 have:((1:Int):Rat)=1:=by simp
 rw [this]
 grind
theorem frCeil_le {f:Fr} (h:frP f=true) (N:Int):frCeil f≤N↔rv f≤(N:Rat):=by
 have h':=frP_iff.1 h
 have e0:rv f≤(N:Rat)↔f.1≤N * f.2:=by
  have:=rv_lt (a:=f) (b:=f) h h
  have hp:=frP_pos h
  have h1:=rv_mul h
  rw [←Rat.intCast_le_intCast,Rat.intCast_mul,←h1]
  constructor
  ·intro g
   exact Rat.mul_le_mul_of_nonneg_right g (Rat.le_of_lt hp)
  ·intro g
   by_cases k:rv f≤(N:Rat)
   ·exact k
   ·have:=Rat.mul_lt_mul_of_pos_right (show (N:Rat) < rv f by grind) hp
    grind
 rw [e0]
 unfold frCeil
 obtain ⟨q,hq⟩:∃q,q=f.1.tdiv f.2:=⟨_,rfl⟩
 have hm:=Int.tdiv_mul_add_tmod f.1 f.2
 have hr1:(f.1.tmod f.2).natAbs < f.2.natAbs:=by
  rw [Int.natAbs_tmod]
  exact Nat.mod_lt _ (by omega)
 obtain ⟨r,hr⟩:∃r,r=f.1.tmod f.2:=⟨_,rfl⟩
 rw [←hr] at hm hr1
 rw [←hq] at hm ⊢
 obtain ⟨z,hz⟩:∃z,z=q * f.2:=⟨_,rfl⟩
 rw [←hz] at hm ⊢
 have key:∀M:Int,(M≤N→M * f.2≤N * f.2)∧(N < M→N * f.2+f.2≤M * f.2):=fun M=>by
  refine ⟨fun g=>Int.mul_le_mul_of_nonneg_right g (by omega),fun g=>?_⟩
  have:=Int.mul_le_mul_of_nonneg_right (show N+1≤M by omega) (show 0≤f.2 by omega)
  rw [Int.add_mul,Int.one_mul] at this
  exact this
 have k0:=key q
 have k1:=key (q+1)
 have e1:(q+1) * f.2=z+f.2:=by rw [Int.add_mul,Int.one_mul,hz]
 rw [e1] at k1
 rw [←hz] at k0
 split
 ·constructor
  ·intro g
   have:=k1.1 g
   omega
  ·intro g
   by_cases k:q+1≤N
   ·exact k
   ·have:=k1.2 (by omega)
    by_cases k':q≤N
    ·have:q=N:=by omega
     rw [←this,←hz] at g
     omega
    ·have:=k0.2 (by omega)
     omega
 ·constructor
  ·intro g
   have:=k0.1 g
   omega
  ·intro g
   by_cases k:q≤N
   ·exact k
   ·have:=k0.2 (by omega)
    omega
def frTimes (n d o r:Int):Option Fr :=
 if n=0∨o=0 then some (0,1) else
 if (1099511627776:Int).tdiv ((o.tdiv (Nat.gcd o.natAbs d.natAbs:Nat)).natAbs:Nat) < ((n.tdiv (Nat.gcd n.natAbs r.natAbs:Nat)).natAbs:Nat)∨(1048576:Int).tdiv (r.tdiv (Nat.gcd n.natAbs r.natAbs:Nat)) < d.tdiv (Nat.gcd o.natAbs d.natAbs:Nat) then none
 else some (n.tdiv (Nat.gcd n.natAbs r.natAbs:Nat) * o.tdiv (Nat.gcd o.natAbs d.natAbs:Nat),d.tdiv (Nat.gcd o.natAbs d.natAbs:Nat) * r.tdiv (Nat.gcd n.natAbs r.natAbs:Nat))
theorem gcd_parts {n:Int} {d:Int} (hd:1≤d):∃(g:Int) (m:Int) (q:Int),(Nat.gcd n.natAbs d.natAbs:Nat)=g∧1≤g∧n=m * g∧d=q * g∧1≤q∧n.tdiv g=m∧d.tdiv g=q∧Nat.Coprime m.natAbs q.natAbs:=by
 obtain ⟨g,hg⟩:∃g,g=Nat.gcd n.natAbs d.natAbs:=⟨_,rfl⟩
 have hg1:1≤g:=by rw [hg]; exact Nat.gcd_pos_of_pos_right _ (by omega)
 have d1:(g:Int) ∣ n:=by rw [hg]; exact Int.ofNat_dvd_left.2 (Nat.gcd_dvd_left _ _)
 have d2:(g:Int) ∣ d:=by rw [hg]; exact Int.ofNat_dvd_left.2 (Nat.gcd_dvd_right _ _)
 obtain ⟨m,hm⟩:=d1
 obtain ⟨q,hq⟩:=d2
 have hq1:1≤q:=by
  by_cases h:1≤q
  ·exact h
  ·have:(g:Int) * q≤0:=Int.mul_nonpos_of_nonneg_of_nonpos (by omega) (by omega)
   omega
 have gz:(g:Int)≠0:=by omega
 refine ⟨g,m,q,by rw [←hg],by omega,by rw [hm,Int.mul_comm],by rw [hq,Int.mul_comm],hq1,by rw [hm]; exact Int.mul_tdiv_cancel_left _ gz,by rw [hq]; exact Int.mul_tdiv_cancel_left _ gz,?_⟩
 have e1:n.natAbs=g * m.natAbs:=by rw [hm,Int.natAbs_mul]; rfl
 have e2:d.natAbs=g * q.natAbs:=by rw [hq,Int.natAbs_mul]; rfl
 have h1:Nat.gcd (g * m.natAbs) (g * q.natAbs)=g:=by rw [←e1,←e2]; exact hg.symm
 rw [Nat.gcd_mul_left] at h1
 have h3:g * Nat.gcd m.natAbs q.natAbs=g * 1:=by omega
 exact Nat.eq_of_mul_eq_mul_left (by omega) h3
theorem cop_of_mul {m q g h:Nat} (hc:Nat.Coprime (m * g) (q * h)):Nat.Coprime m q:=Nat.Coprime.coprime_mul_right (Nat.Coprime.coprime_mul_right_right hc)
theorem le_tdiv {a b c:Int} (ha:0≤a) (hc:1≤c) (h:b≤a.tdiv c) (hb:0≤b):b * c≤a:=by
 rw [Int.tdiv_eq_ediv_of_nonneg ha] at h
 exact (Int.le_ediv_iff_mul_le (by omega)).1 h
theorem frTimes_rv {n d o r:Int} {f:Fr} (hd:1≤d) (hr:1≤r) (c1:Nat.Coprime n.natAbs d.natAbs) (c2:Nat.Coprime o.natAbs r.natAbs) (h:frTimes n d o r=some f):frP f=true∧rv f=(n:Rat) / (d:Rat) * ((o:Rat) / (r:Rat)):=by
 unfold frTimes at h
 by_cases h0:n=0∨o=0
 ·rw [if_pos h0] at h
  simp only [Option.some.injEq] at h
  subst h
  refine ⟨by decide,?_⟩
  have e:rv (0,1)=0:=rv_zero
  rw [e]
  rcases h0 with rfl | rfl
  ·have:((0:Int):Rat)=0:=by simp
   rw [this]
   grind
  ·have:((0:Int):Rat)=0:=by simp
   rw [this]
   grind
 ·rw [if_neg h0] at h
  obtain ⟨g,n',r',hg,hg1,en,er,hr1,tn,tr,cg⟩:=gcd_parts (n:=n) hr
  obtain ⟨k,o',d',hk,hk1,eo,ed,hd1,to,td,ck⟩:=gcd_parts (n:=o) hd
  rw [hg,hk,tn,tr,to,td] at h
  split at h
  ·cases h
  ·rename_i hn
   simp only [Option.some.injEq] at h
   have ho0:o'≠0:=fun e=>h0 (.inr (by rw [eo,e]; simp))
   have b1:((n'.natAbs:Nat):Int) * ((o'.natAbs:Nat):Int)≤1099511627776:=le_tdiv (by omega) (by omega) (by omega) (by omega)
   have b2:d' * r'≤1048576:=le_tdiv (by omega) hr1 (by omega) (by omega)
   have b3:1≤d' * r':=by
    have:=Int.mul_le_mul hd1 hr1 (by omega) (by omega)
    simpa using this
   have b4:(n' * o').natAbs=n'.natAbs * o'.natAbs:=Int.natAbs_mul _ _
   rw [←Int.natCast_mul,←b4] at b1
   have c1':Nat.Coprime n'.natAbs d'.natAbs:=by
    have:Nat.Coprime (n'.natAbs * g.natAbs) (d'.natAbs * k.natAbs):=by rw [←Int.natAbs_mul,←Int.natAbs_mul,←en,←ed]; exact c1
    exact cop_of_mul this
   have c2':Nat.Coprime o'.natAbs r'.natAbs:=by
    have:Nat.Coprime (o'.natAbs * k.natAbs) (r'.natAbs * g.natAbs):=by rw [←Int.natAbs_mul,←Int.natAbs_mul,←eo,←er]; exact c2
    exact cop_of_mul this
   have hP:frP f=true:=by
    rw [←h]
    refine frP_iff.2 ⟨b3,b2,by omega,by omega,?_⟩
    show Nat.gcd (n' * o').natAbs (d' * r').natAbs=1
    rw [Int.natAbs_mul,Int.natAbs_mul]
    exact Nat.Coprime.mul_left (Nat.Coprime.mul_right c1' cg) (Nat.Coprime.mul_right ck c2')
   refine ⟨hP,?_⟩
   have z1:=rc_pos hg1
   have z2:=rc_pos hk1
   have z3:=rc_pos hd1
   have z4:=rc_pos hr1
   rw [←h]
   unfold rv
   simp only []
   rw [en,er,eo,ed]
   simp only [Rat.intCast_mul]
   grind
def frMul (a b:Fr):Option Fr:=frTimes a.1 a.2 b.1 b.2
theorem frMul_rv {a b f:Fr} (ha:frP a=true) (hb:frP b=true) (h:frMul a b=some f):frP f=true∧rv f=rv a * rv b:=by
 have ha':=frP_iff.1 ha
 have hb':=frP_iff.1 hb
 exact frTimes_rv ha'.1 hb'.1 ha'.2.2.2.2 hb'.2.2.2.2 h
def frDiv (a b:Fr):Option Fr:=frTimes a.1 a.2 b.2 b.1
theorem frDiv_rv {a b f:Fr} (ha:frP a=true) (hb:frP b=true) (hp:0 < b.1) (h:frDiv a b=some f):frP f=true∧rv f=rv a / rv b:=by
 have ha':=frP_iff.1 ha
 have hb':=frP_iff.1 hb
 have ⟨h1,h2⟩:=frTimes_rv ha'.1 (show 1≤b.1 by omega) ha'.2.2.2.2 (Nat.Coprime.symm hb'.2.2.2.2) h
 refine ⟨h1,?_⟩
 rw [h2]
 have z1:=frP_pos hb
 have z2:=rc_pos (show 1≤b.1 by omega)
 have z3:=frP_pos ha
 unfold rv
 grind
theorem den_dvd {p q:Int} {D:Int} (hq:1≤q) (hc:Nat.Coprime p.natAbs q.natAbs) (hI:IsI ((D:Rat) * ((p:Rat) / (q:Rat)))):q ∣ D:=by
 obtain ⟨z,hz⟩:=hI
 have hp:=rc_pos hq
 have e:(D:Rat) * (p:Rat)=(z:Rat) * (q:Rat):=by grind
 rw [←Rat.intCast_mul,←Rat.intCast_mul,Rat.intCast_inj] at e
 have d:q ∣ D * p:=⟨z,by rw [e,Int.mul_comm]⟩
 have dn:q.natAbs ∣ D.natAbs * p.natAbs:=by rw [←Int.natAbs_mul]; exact Int.natAbs_dvd_natAbs.2 d
 exact Int.natAbs_dvd_natAbs.1 (Nat.Coprime.dvd_of_dvd_mul_right (Nat.Coprime.symm hc) dn)
theorem frNew_some {n d:Int} {D:Int} (hd:1≤d) (h1:1≤D) (h2:D≤907200) (hI:IsI ((D:Rat) * ((n:Rat) / (d:Rat)))) (h0:0≤n) (hM:n≤1048576 * d):∃f,frNew n d=some f:=by
 obtain ⟨g,m,q,hg,hg1,en,ed,hq1,tn,td,hc⟩:=gcd_parts (n:=n) hd
 unfold frNew
 simp only [hg,tn,td]
 have z1:=rc_pos hg1
 have z2:=rc_pos hq1
 have hI2:IsI ((D:Rat) * ((m:Rat) / (q:Rat))):=by
  have:(n:Rat) / (d:Rat)=(m:Rat) / (q:Rat):=by
   rw [en,ed,Rat.intCast_mul,Rat.intCast_mul]
   grind
  rw [←this]
  exact hI
 have hqD:q≤D:=Int.le_of_dvd (by omega) (den_dvd hq1 hc hI2)
 have hm:m≤1048576 * q:=by
  rw [en,ed,←Int.mul_assoc] at hM
  exact Int.le_of_mul_le_mul_right hM (by omega)
 have hm0:0≤m:=by
  by_cases h:0≤m
  ·exact h
  ·have:m * g < 0:=Int.mul_neg_of_neg_of_pos (by omega) (by omega)
   omega
 rw [if_neg (by omega)]
 exact ⟨_,rfl⟩
theorem frSum_some {D:Int} (h1:1≤D) (h2:D≤907200):∀(l:List Fr) (s:Fr),frP s=true→(∀x ∈ l,frP x=true)→0≤rv s→(∀x ∈ l,0≤rv x)→IsI ((D:Rat) * rv s)→(∀x ∈ l,IsI ((D:Rat) * rv x))→rv s+(l.map rv).sum≤1048576→∃f,frSum l s=some f
 | [],s,_,_,_,_,_,_,_=>⟨s,rfl⟩
 | x :: l,s,hs,hl,hn,hln,hi,hli,hM=>by
  have hx:=hl x (by simp)
  have hs':=frP_iff.1 hs
  have hx':=frP_iff.1 hx
  have p1:=frP_pos hs
  have p2:=frP_pos hx
  have hd:=den_bd hs'.1 hs'.2.1 hx'.1 hx'.2.1
  have hlsum:0≤(l.map rv).sum:=by
   have:∀k:List Fr,(∀x ∈ k,0≤rv x)→0≤(k.map rv).sum:=fun k=>by
    induction k with
    | nil=>intro _; simp
    | cons y k ih =>
     intro h
     have a1:=h y (by simp)
     have a2:=ih fun z hz=>h z (List.mem_cons_of_mem _ hz)
     rw [List.map_cons,List.sum_cons]
     grind
   exact this l fun y hy=>hln y (List.mem_cons_of_mem _ hy)
  rw [List.map_cons,List.sum_cons] at hM
  have hxn:=hln x (by simp)
  have e:(((s.1 * x.2+x.1 * s.2:Int):Rat) / ((s.2 * x.2:Int):Rat))=rv s+rv x:=by
   rw [Rat.intCast_add,Rat.intCast_mul,Rat.intCast_mul,Rat.intCast_mul]
   unfold rv
   grind
  have n1:=(rv_nn hs).1 hn
  have n2:=(rv_nn hx).1 hxn
  have q1:0≤s.1 * x.2:=Int.mul_nonneg n1 (by omega)
  have q2:0≤x.1 * s.2:=Int.mul_nonneg n2 (by omega)
  have hle:s.1 * x.2+x.1 * s.2≤1048576 * (s.2 * x.2):=by
   have g:rv s+rv x≤1048576:=by grind
   rw [←e] at g
   have pz:=rc_pos hd.1
   have g2:=Rat.mul_le_mul_of_nonneg_right g (Rat.le_of_lt pz)
   have e3:((s.1 * x.2+x.1 * s.2:Int):Rat) / ((s.2 * x.2:Int):Rat) * ((s.2 * x.2:Int):Rat)=((s.1 * x.2+x.1 * s.2:Int):Rat):=by grind
   rw [e3] at g2
   have e4:(1048576:Rat)=((1048576:Int):Rat):=by simp
   rw [e4,←Rat.intCast_mul,Rat.intCast_le_intCast] at g2
   exact g2
  obtain ⟨f,hf⟩:=frNew_some hd.1 h1 h2 (by rw [e,show (D:Rat) * (rv s+rv x)=(D:Rat) * rv s+(D:Rat) * rv x by grind]; exact hi.add (hli x (by simp))) (by omega) hle
  have hfa:frAdd s x=some f:=hf
  obtain ⟨hfp,hfv⟩:=frAdd_rv hs hx hfa
  obtain ⟨k,hk⟩:=frSum_some h1 h2 l f hfp (fun y hy=>hl y (List.mem_cons_of_mem _ hy)) (by rw [hfv]; grind) (fun y hy=>hln y (List.mem_cons_of_mem _ hy)) (by rw [hfv,show (D:Rat) * (rv s+rv x)=(D:Rat) * rv s+(D:Rat) * rv x by grind]; exact hi.add (hli x (by simp))) (fun y hy=>hli y (List.mem_cons_of_mem _ hy)) (by rw [hfv]; grind)
  exact ⟨k,by simp only [frSum,hfa,hk]⟩
theorem frSum_rv:∀(l:List Fr) (s f:Fr),frP s=true→(∀x ∈ l,frP x=true)→frSum l s=some f→frP f=true∧rv f=rv s+(l.map rv).sum
 | [],s,f,hs,_,h=>by
  simp only [frSum,Option.some.injEq] at h
  subst h
  refine ⟨hs,?_⟩
  simp
  grind
 | x :: l,s,f,hs,hl,h=>by
  simp only [frSum] at h
  cases ha:frAdd s x with
  | none=>rw [ha] at h; cases h
  | some s' =>
   rw [ha] at h
   obtain ⟨h1,h2⟩:=frAdd_rv hs (hl x (by simp)) ha
   obtain ⟨h3,h4⟩:=frSum_rv l s' f h1 (fun y hy=>hl y (List.mem_cons_of_mem _ hy)) h
   refine ⟨h3,?_⟩
   rw [h4,h2,List.map_cons,List.sum_cons]
   grind
end Go.Proofs.YtolkjbmcindhjaaGreat
end
section
namespace Go.Proofs.YtolkjbmcindhjaaGreat
open Go Go.W Go.Tk Go.Rx Go.Maps Go.Sx
theorem par_le {m g n:Int} (h:n=m * g) (hg:1≤g):m.natAbs≤n.natAbs:=by
 rw [h,Int.natAbs_mul]
 exact Nat.le_mul_of_pos_right _ (by omega)
theorem tdiv_bd {a:Int} {c:Int} (ha:0≤a) (hc:1≤c):0≤a.tdiv c∧a.tdiv c≤a:=by
 rw [Int.tdiv_eq_ediv_of_nonneg ha]
 exact ⟨Int.ediv_nonneg ha (by omega),Int.ediv_le_self _ ha⟩
set_option maxHeartbeats 1000000 in
theorem times_spec {w:World} (n d o r:Int) (n1:-1099511627776≤n) (n2:n≤1099511627776) (d1:1≤d) (d2:d≤1099511627776) (o1:-1099511627776≤o) (o2:o≤1099511627776) (r1:1≤r) (r2:r≤1099511627776) :
  Calls Tryz.prog 247 [.int .i64 n,.int .i64 d,.int .i64 o,.int .i64 r].toArray w fun e w'=>∃x,e=.returned x∧x=frR (frTimes n d o r)∧Kp [] w w':=by
 refine enter Tryz.func247 mixed low247 (Nat.le_of_ble_eq_true rfl) ?_
 simp only [L247]
 obtain ⟨b,hb⟩:∃b,b=w.heap.size:=⟨_,rfl⟩
 have a1:At w [] (Star (ObjA b (frO (0,0))) Emp) (w.alloc (frO (0,0))):=by rw [hb]; exact (At.start rfl).alloc _ .emp
 obtain ⟨w1,hw1⟩:∃w1,w1=w.alloc (frO (0,0)):=⟨_,rfl⟩
 rw [←hw1] at a1
 have hw1':w.alloc (.cells #[.int .i64 0,.int .i64 0] 151 (0,0))=w1:=by rw [hw1]; rfl
 have hL:Lcl (Star (ObjA b (frO (0,0))) Emp):=Lcl.obj.star .emp
 by_cases hn0:n=0
 ·have e:frTimes n d o r=some (0,1):=by unfold frTimes; rw [if_pos (.inl hn0)]
  rw [e]
  subst hn0
  simp [←hb,hw1']
  refine st_fr (f:=(0,0)) (g:=(0,1)) .emp a1 fun w7 a7=>?_
  simp
  refine postL_c2 ag_151 (by simp) a7.obj rfl rfl ?_
  exact ⟨_,rfl,rfl,a7.kp⟩
 have bn0:(n == 0)=false:=by simp; exact hn0
 by_cases ho0:o=0
 ·have e:frTimes n d o r=some (0,1):=by unfold frTimes; rw [if_pos (.inr ho0)]
  rw [e]
  subst ho0
  simp [←hb,hw1',bn0,hn0]
  refine st_fr (f:=(0,0)) (g:=(0,1)) .emp a1 fun w7 a7=>?_
  simp
  refine postL_c2 ag_151 (by simp) a7.obj rfl rfl ?_
  exact ⟨_,rfl,rfl,a7.kp⟩
 have bo0:(o == 0)=false:=by simp; exact ho0
 obtain ⟨g,n',r',hg,hg1,en,er,hr1,tn,tr,_⟩:=gcd_parts (n:=n) r1
 obtain ⟨k,o',d',hk,hk1,eo,ed,hd1,to,td,_⟩:=gcd_parts (n:=o) d1
 obtain ⟨rn,hrn⟩:∃rn:Nat,r=(rn:Int):=⟨r.natAbs,by omega⟩
 obtain ⟨dn,hdn⟩:∃dn:Nat,d=(dn:Int):=⟨d.natAbs,by omega⟩
 have bn:=par_le en hg1
 have br:=par_le er hg1
 have bo:=par_le eo hk1
 have bd:=par_le ed hk1
 have hg2:g≤1099511627776:=by
  have:=Nat.gcd_le_right n.natAbs (show 0 < r.natAbs by omega)
  omega
 have hk2:k≤1099511627776:=by
  have:=Nat.gcd_le_right o.natAbs (show 0 < d.natAbs by omega)
  omega
 have ho'0:o'≠0:=fun e=>ho0 (by rw [eo,e]; simp)
 have hgz:¬g=0:=by omega
 have hkz:¬k=0:=by omega
 have q1:=tdiv_bd (a:=1099511627776) (c:=((o'.natAbs:Nat):Int)) (by omega) (by omega)
 have q2:=tdiv_bd (a:=1048576) (c:=r') (by omega) (by omega)
 have hfr:frTimes n d o r=if (1099511627776:Int).tdiv ((o'.natAbs:Nat):Int) < ((n'.natAbs:Nat):Int)∨(1048576:Int).tdiv r' < d' then none else some (n' * o',d' * r'):=by
  unfold frTimes
  rw [if_neg (by omega),hg,hk,tn,tr,to,td]
 obtain ⟨x1,hx1⟩:∃x1,x1=(1099511627776:Int).tdiv ((o'.natAbs:Nat):Int):=⟨_,rfl⟩
 obtain ⟨x2,hx2⟩:∃x2,x2=(1048576:Int).tdiv r':=⟨_,rfl⟩
 rw [←hx1] at q1
 rw [←hx2] at q2
 rw [←hx1,←hx2] at hfr
 have hoz:¬(o'.natAbs:Int)=0:=by omega
 have hoz2:¬o'=0:=ho'0
 have hrz:¬r'=0:=by omega
 have hgn:((Nat.gcd n.natAbs rn:Nat):Int)=g:=by rw [←hg,hrn]; rfl
 have hkn:((Nat.gcd o.natAbs dn:Nat):Int)=k:=by rw [←hk,hdn]; rfl
 simp [←hb,hw1',bn0,bo0,hn0,ho0]
 refine cl_of (abs_spec n (by omega) (by omega)) ?_
 rintro _ w2 ⟨rfl,k2⟩
 rw [hrn]
 simp
 refine cl_of (gcd_spec n.natAbs rn (by omega) (by omega)) ?_
 rintro _ w3 ⟨rfl,k3⟩
 rw [hgn,←hrn]
 simp
 refine cl_of (abs_spec o (by omega) (by omega)) ?_
 rintro _ w4 ⟨rfl,k4⟩
 rw [hdn]
 simp
 refine cl_of (gcd_spec o.natAbs dn (by omega) (by omega)) ?_
 rintro _ w5 ⟨rfl,k5⟩
 rw [hkn,←hdn]
 have a5:=(((a1.kp0 hL k2).kp0 hL k3).kp0 hL k4).kp0 hL k5
 simp (disch:=omega) [tn,tr,to,td,hgz,hkz,wrap_i64]
 have a6:=a5.drew hL
 refine cl_of (abs_spec n' (by omega) (by omega)) ?_
 rintro _ w6 ⟨rfl,k6⟩
 simp
 refine cl_of (abs_spec o' (by omega) (by omega)) ?_
 rintro _ w7 ⟨rfl,k7⟩
 have a7:=(a6.kp0 hL k6).kp0 hL k7
 have a8:=a7.drew hL
 by_cases t1:x1 < ((n'.natAbs:Nat):Int)
 ·rw [if_pos (.inl t1)] at hfr
  rw [hfr]
  simp (disch:=omega) [←hx1,hoz,hoz2,wrap_i64,t1]
  refine st_fr (f:=(0,0)) (g:=(0,0)) .emp (by first | exact a7 | exact a8) fun w9 a9=>?_
  simp
  refine postL_c2 ag_151 (by simp) a9.obj rfl rfl ?_
  exact ⟨_,rfl,rfl,a9.kp⟩
 by_cases t2:x2 < d'
 ·rw [if_pos (.inr t2)] at hfr
  rw [hfr]
  simp (disch:=omega) [←hx1,←hx2,hoz,hoz2,hrz,wrap_i64,t1,t2]
  refine st_fr (f:=(0,0)) (g:=(0,0)) .emp (by first | exact a7 | exact a8) fun w9 a9=>?_
  simp
  refine postL_c2 ag_151 (by simp) a9.obj rfl rfl ?_
  exact ⟨_,rfl,rfl,a9.kp⟩
 rw [if_neg (by omega)] at hfr
 rw [hfr]
 have m1:((n'.natAbs:Nat):Int) * ((o'.natAbs:Nat):Int)≤1099511627776:=le_tdiv (by omega) (by omega) (by omega) (by omega)
 have m2:d' * r'≤1048576:=le_tdiv (by omega) hr1 (by omega) (by omega)
 have m3:1≤d' * r':=by
  have:=Int.mul_le_mul hd1 hr1 (by omega) (by omega)
  simpa using this
 have m4:(n' * o').natAbs=n'.natAbs * o'.natAbs:=Int.natAbs_mul _ _
 rw [←Int.natCast_mul,←m4] at m1
 obtain ⟨y1,hy1⟩:∃y1,y1=n' * o':=⟨_,rfl⟩
 obtain ⟨y2,hy2⟩:∃y2,y2=d' * r':=⟨_,rfl⟩
 rw [←hy1] at m1
 rw [←hy2] at m2 m3
 simp (disch:=omega) [←hx1,←hx2,hoz,hoz2,hrz,wrap_i64,t1,t2,←hy1,←hy2]
 refine st_fr (f:=(0,0)) (g:=(y1,y2)) .emp (by first | exact a7 | exact a8) fun w9 a9=>?_
 simp
 refine postL_c2 ag_151 (by simp) a9.obj rfl rfl ?_
 exact ⟨_,rfl,by simp [frR,frV],a9.kp⟩
theorem three_fr {w:World} (a b:Fr):∃ab w3,ab=w.heap.size∧((w.alloc (.cells #[.int .i64 a.1,.int .i64 a.2] 151 (0,0))).alloc (.cells #[.int .i64 b.1,.int .i64 b.2] 151 (0,0))).alloc (.cells #[.int .i64 0,.int .i64 0] 151 (0,0))=w3∧At w [] (Star (ObjA (ab+2) (frO (0,0))) (Star (ObjA (ab+1) (frO b)) (Star (ObjA ab (frO a)) Emp))) w3:=by
 refine ⟨_,_,rfl,rfl,?_⟩
 have a1:At w [] (Star (ObjA w.heap.size (frO a)) Emp) (w.alloc (frO a)):=(At.start rfl).alloc _ .emp
 have a2:=a1.alloc (frO b) (Lcl.obj.star .emp)
 have a3:=a2.alloc (frO (0,0)) (Lcl.obj.star (Lcl.obj.star .emp))
 have s1:(w.alloc (frO a)).heap.size=w.heap.size+1:=by simp
 have s2:((w.alloc (frO a)).alloc (frO b)).heap.size=w.heap.size+2:=by simp
 rw [s1,s2] at a3
 exact a3
set_option maxHeartbeats 1000000 in
theorem mul9_spec {w:World} (a b:Fr) (ha:frP a=true) (hb:frP b=true) :
  Calls Tryz.prog 232 [frV a,frV b].toArray w fun e w'=>∃x,e=.returned x∧x=frR (frMul a b)∧Kp [] w w':=by
 refine enter Tryz.func232 mixed low232 (Nat.le_of_ble_eq_true rfl) ?_
 simp only [L232]
 have ha':=frP_iff.1 ha
 have hb':=frP_iff.1 hb
 obtain ⟨ab,w3,hab,hw3,a3⟩:=three_fr (w:=w) a b
 have hL1:Lcl (Star (ObjA ab (frO a)) Emp):=Lcl.obj.star .emp
 have hL2:Lcl (Star (ObjA (ab+1) (frO b)) (Star (ObjA ab (frO a)) Emp)):=Lcl.obj.star hL1
 have hL3:Lcl (Star (ObjA (ab+2) (frO (0,0))) (Star (ObjA (ab+1) (frO b)) (Star (ObjA ab (frO a)) Emp))):=Lcl.obj.star hL2
 have ra:=rd_fr a3.drop.drop.obj
 simp [frV,hw3,←hab,ra]
 refine cl_of (proper9_spec a) ?_
 rintro _ w4 ⟨rfl,k4⟩
 have a4:=a3.kp0 hL3 k4
 have rb4:=rd_fr a4.drop.obj
 rw [ha]
 simp [rb4]
 refine cl_of (proper9_spec b) ?_
 rintro _ w5 ⟨rfl,k5⟩
 have a5:=a4.kp0 hL3 k5
 rw [hb]
 have oa5:=a5.drop.drop.obj
 unfold frO at oa5
 have ob5:=a5.drop.obj
 unfold frO at ob5
 simp [cell_blk oa5,cell_blk ob5]
 refine cl_of (times_spec a.1 a.2 b.1 b.2 (by omega) (by omega) (by omega) (by omega) (by omega) (by omega) (by omega) (by omega)) ?_
 rintro _ w6 ⟨rfl,k6⟩
 have a6:=a5.kp0 hL3 k6
 have e:frTimes a.1 a.2 b.1 b.2=frMul a b:=rfl
 rw [e]
 cases hf:frMul a b with
 | none =>
  simp [frR,frV]
  refine st_fr (f:=(0,0)) (g:=(0,0)) hL2 a6 fun w7 a7=>?_
  simp
  refine postL_c2 ag_151 (by simp) a7.obj rfl rfl ?_
  exact ⟨_,rfl,by simp [frR,frV],a7.kp⟩
 | some f =>
  simp [frR,frV]
  refine st_fr (f:=(0,0)) (g:=f) hL2 a6 fun w7 a7=>?_
  simp
  refine postL_c2 ag_151 (by simp) a7.obj rfl rfl ?_
  exact ⟨_,rfl,by simp [frR,frV],a7.kp⟩
set_option maxHeartbeats 1000000 in
theorem div9_spec {w:World} (a b:Fr) (ha:frP a=true) (hb:frP b=true) (hp:0 < b.1) :
  Calls Tryz.prog 229 [frV a,frV b].toArray w fun e w'=>∃x,e=.returned x∧x=frR (frDiv a b)∧Kp [] w w':=by
 refine enter Tryz.func229 mixed low229 (Nat.le_of_ble_eq_true rfl) ?_
 simp only [L229]
 have ha':=frP_iff.1 ha
 have hb':=frP_iff.1 hb
 obtain ⟨ab,w3,hab,hw3,a3⟩:=three_fr (w:=w) a b
 have hL1:Lcl (Star (ObjA ab (frO a)) Emp):=Lcl.obj.star .emp
 have hL2:Lcl (Star (ObjA (ab+1) (frO b)) (Star (ObjA ab (frO a)) Emp)):=Lcl.obj.star hL1
 have hL3:Lcl (Star (ObjA (ab+2) (frO (0,0))) (Star (ObjA (ab+1) (frO b)) (Star (ObjA ab (frO a)) Emp))):=Lcl.obj.star hL2
 have ra:=rd_fr a3.drop.drop.obj
 simp [frV,hw3,←hab,ra]
 refine cl_of (proper9_spec a) ?_
 rintro _ w4 ⟨rfl,k4⟩
 have a4:=a3.kp0 hL3 k4
 have rb4:=rd_fr a4.drop.obj
 rw [ha]
 simp [rb4]
 refine cl_of (proper9_spec b) ?_
 rintro _ w5 ⟨rfl,k5⟩
 have a5:=a4.kp0 hL3 k5
 rw [hb]
 have oa5:=a5.drop.drop.obj
 unfold frO at oa5
 have ob5:=a5.drop.obj
 unfold frO at ob5
 have z1:(b.1 == 0)=false:=by simp; omega
 have z2:¬b.1=0:=by omega
 have z3:¬b.1 < 0:=by omega
 simp [cell_blk oa5,cell_blk ob5,z1,z2,z3]
 refine cl_of (times_spec a.1 a.2 b.2 b.1 (by omega) (by omega) (by omega) (by omega) (by omega) (by omega) (by omega) (by omega)) ?_
 rintro _ w6 ⟨rfl,k6⟩
 have a6:=a5.kp0 hL3 k6
 have e:frTimes a.1 a.2 b.2 b.1=frDiv a b:=rfl
 rw [e]
 cases hf:frDiv a b with
 | none =>
  simp [frR,frV]
  refine st_fr (f:=(0,0)) (g:=(0,0)) hL2 a6 fun w7 a7=>?_
  simp
  refine postL_c2 ag_151 (by simp) a7.obj rfl rfl ?_
  exact ⟨_,rfl,by simp [frR,frV],a7.kp⟩
 | some f =>
  simp [frR,frV]
  refine st_fr (f:=(0,0)) (g:=f) hL2 a6 fun w7 a7=>?_
  simp
  refine postL_c2 ag_151 (by simp) a7.obj rfl rfl ?_
  exact ⟨_,rfl,by simp [frR,frV],a7.kp⟩
set_option maxHeartbeats 1000000 in
theorem sub9_spec {w:World} (a b:Fr) (ha:frP a=true) (hb:frP b=true) :
  Calls Tryz.prog 248 [frV a,frV b].toArray w fun e w'=>∃x,e=.returned x∧x=frR (frSub a b)∧Kp [] w w':=by
 refine enter Tryz.func248 mixed low248 (Nat.le_of_ble_eq_true rfl) ?_
 simp only [L248]
 have ha':=frP_iff.1 ha
 have hb':=frP_iff.1 hb
 obtain ⟨ab,w3,hab,hw3,a3⟩:=three_fr (w:=w) a b
 have hL1:Lcl (Star (ObjA ab (frO a)) Emp):=Lcl.obj.star .emp
 have hL2:Lcl (Star (ObjA (ab+1) (frO b)) (Star (ObjA ab (frO a)) Emp)):=Lcl.obj.star hL1
 have hL3:Lcl (Star (ObjA (ab+2) (frO (0,0))) (Star (ObjA (ab+1) (frO b)) (Star (ObjA ab (frO a)) Emp))):=Lcl.obj.star hL2
 have ra:=rd_fr a3.drop.drop.obj
 simp [frV,hw3,←hab,ra]
 refine cl_of (proper9_spec a) ?_
 rintro _ w4 ⟨rfl,k4⟩
 have a4:=a3.kp0 hL3 k4
 have rb4:=rd_fr a4.drop.obj
 rw [ha]
 simp [rb4]
 refine cl_of (proper9_spec b) ?_
 rintro _ w5 ⟨rfl,k5⟩
 have a5:=a4.kp0 hL3 k5
 rw [hb]
 have oa5:=a5.drop.drop.obj
 unfold frO at oa5
 have ob5:=a5.drop.obj
 unfold frO at ob5
 have m1:=mul_bd ha'.2.2.1 ha'.2.2.2.1 hb'.1 hb'.2.1
 have m2:=mul_bd hb'.2.2.1 hb'.2.2.2.1 ha'.1 ha'.2.1
 have m3:=den_bd ha'.1 ha'.2.1 hb'.1 hb'.2.1
 obtain ⟨x,hx⟩:∃x,x=a.1 * b.2:=⟨_,rfl⟩
 obtain ⟨y,hy⟩:∃y,y=b.1 * a.2:=⟨_,rfl⟩
 obtain ⟨z,hz⟩:∃z,z=a.2 * b.2:=⟨_,rfl⟩
 have hadd:frSub a b=frNew (x - y) z:=by unfold frSub; rw [hx,hy,hz]
 rw [←hx] at m1
 rw [←hy] at m2
 rw [←hz] at m3
 simp (disch:=omega) [cell_blk oa5,cell_blk ob5,←hx,←hy,←hz,wrap_i64]
 refine cl_of (new9_spec (x - y) z (by omega) (by omega) (by omega) (by omega)) ?_
 rintro _ w6 ⟨rfl,k6⟩
 have a6:=a5.kp0 hL3 k6
 rw [←hadd]
 cases hf:frSub a b with
 | none =>
  simp [frR,frV]
  refine st_fr (f:=(0,0)) (g:=(0,0)) hL2 a6 fun w7 a7=>?_
  simp
  refine postL_c2 ag_151 (by simp) a7.obj rfl rfl ?_
  exact ⟨_,rfl,by simp [frR,frV],a7.kp⟩
 | some f =>
  simp [frR,frV]
  refine st_fr (f:=(0,0)) (g:=f) hL2 a6 fun w7 a7=>?_
  simp
  refine postL_c2 ag_151 (by simp) a7.obj rfl rfl ?_
  exact ⟨_,rfl,by simp [frR,frV],a7.kp⟩
end Go.Proofs.YtolkjbmcindhjaaGreat
end
section
namespace Go.Proofs.YtolkjbmcindhjaaGreat
open Go Go.W Go.Tk Go.Rx Go.Maps Go.Sx
def Rds (B:Asr) (P:World→Prop):Prop:=∀w' F',B w' F'→P w'
theorem Rds.star {A B:Asr} {P:World→Prop} (h:Rds B P):Rds (Star A B) P:=fun w' F' hs=>by
 obtain ⟨Fa,Fb,_,h2,_,_⟩:=hs
 exact h _ _ h2
theorem Rds.fst {A B:Asr} {P:World→Prop} (h:Rds A P):Rds (Star A B) P:=fun w' F' hs=>by
 obtain ⟨Fa,Fb,h2,_,_,_⟩:=hs
 exact h _ _ h2
theorem Rds.own {α:Type} {v:Value} {E sz:Nat} {enc:α→List Value} {l:List α} {B:Asr}:Rds (Star (OwnA v E sz enc l) B) fun w'=>Vw w' v enc l:=fun w' F' hs=>by
 obtain ⟨Fa,Fb,h1,_,_,_⟩:=hs
 exact h1.1.vw
theorem Rds.rows {α:Type} {E sz:Nat} {enc:α→List Value} {B:Asr}:∀{ps:List (Cell1 × List α)} {p:Cell1 × List α},p ∈ ps→Rds (RowsA E sz enc ps B) fun w'=>Vw w' p.1.1 enc p.2
 | q :: ps,p,hp=>by
  rcases List.mem_cons.1 hp with rfl | hp
  ·exact Rds.own
  ·exact Rds.star (Rds.rows hp)
theorem at_rds {w w':World} {F:List Nat} {B:Asr} {P:World→Prop} (h:At w F B w') (hp:Rds B P):P w':=by
 obtain ⟨⟨F',h2,_⟩,_⟩:=h
 exact hp _ _ h2
theorem zero_spec {w:World}:Calls Tryz.prog 195 ([]:List Value).toArray w fun e w'=>∃x,e=.returned x∧x=frV (0,1)∧Kp [] w w':=by
 refine enter Tryz.func195 mixed low195 (Nat.le_of_ble_eq_true rfl) ?_
 simp only [L195]
 obtain ⟨b,hb⟩:∃b,b=w.heap.size:=⟨_,rfl⟩
 simp [←hb]
 refine st_fr0 (f:=(0,1)) .emp (At.start rfl:At w [] Emp w) hb fun w2 h2=>?_
 simp
 refine postL_c1 ag_151 (by simp) h2.obj rfl rfl ?_
 exact ⟨_,rfl,rfl,h2.kp⟩
theorem positive_spec {w:World} (f:Fr):Calls Tryz.prog 192 [frV f].toArray w fun e w'=>∃x,e=.returned x∧x=.bool (decide (0 < f.1))∧Kp [] w w':=by
 refine enter Tryz.func192 mixed low192 (Nat.le_of_ble_eq_true rfl) ?_
 simp only [L192]
 obtain ⟨b,hb⟩:∃b,b=w.heap.size:=⟨_,rfl⟩
 have h1:At w [] (Star (ObjA b (frO f)) Emp) (w.alloc (frO f)):=by rw [hb]; exact (At.start rfl).alloc _ .emp
 obtain ⟨w1,hw1⟩:∃w1,w1=w.alloc (frO f):=⟨_,rfl⟩
 rw [←hw1] at h1
 have hw1':w.alloc (.cells #[.int .i64 f.1,.int .i64 f.2] 151 (0,0))=w1:=by rw [hw1]; rfl
 have ob1:=h1.obj
 unfold frO at ob1
 simp [frV,←hb,hw1',cell_blk ob1]
 exact h1.kp
def frLess (x f y:Fr):Option Fr:=match frMul f y with
 | none=>none
 | some p=>frSub x p
theorem frLess_rv {x f y r:Fr} (hx:frP x=true) (hf:frP f=true) (hy:frP y=true) (h:frLess x f y=some r):frP r=true∧rv r=rv x - rv f * rv y:=by
 unfold frLess at h
 cases hm:frMul f y with
 | none=>rw [hm] at h; cases h
 | some p =>
  rw [hm] at h
  obtain ⟨h1,h2⟩:=frMul_rv hf hy hm
  obtain ⟨h3,h4⟩:=frSub_rv hx h1 h
  exact ⟨h3,by rw [h4,h2]⟩
set_option maxHeartbeats 1000000 in
theorem sxless_spec {w:World} (x f y:Fr) (hx:frP x=true) (hf:frP f=true) (hy:frP y=true) :
  Calls Tryz.prog 231 [frV x,frV f,frV y].toArray w fun e w'=>∃v,e=.returned v∧v=frR (frLess x f y)∧Kp [] w w':=by
 refine enter Tryz.func231 mixed low231 (Nat.le_of_ble_eq_true rfl) ?_
 simp only [L231]
 obtain ⟨b,hb⟩:∃b,b=w.heap.size:=⟨_,rfl⟩
 have a1:At w [] (Star (ObjA b (frO x)) Emp) (w.alloc (frO x)):=by rw [hb]; exact (At.start rfl).alloc _ .emp
 have hL1:Lcl (Star (ObjA b (frO x)) Emp):=Lcl.obj.star .emp
 have a2:=a1.alloc (frO f) hL1
 have hL2:Lcl (Star (ObjA (b+1) (frO f)) (Star (ObjA b (frO x)) Emp)):=Lcl.obj.star hL1
 have s1:(w.alloc (frO x)).heap.size=b+1:=by rw [hb]; simp
 rw [s1] at a2
 have a3:=a2.alloc (frO y) hL2
 have s2:((w.alloc (frO x)).alloc (frO f)).heap.size=b+2:=by rw [hb]; simp
 rw [s2] at a3
 have hL3:Lcl (Star (ObjA (b+2) (frO y)) (Star (ObjA (b+1) (frO f)) (Star (ObjA b (frO x)) Emp))):=Lcl.obj.star hL2
 have a4:=a3.alloc (frO (0,0)) hL3
 have s3:(((w.alloc (frO x)).alloc (frO f)).alloc (frO y)).heap.size=b+3:=by rw [hb]; simp
 rw [s3] at a4
 have hL4:Lcl (Star (ObjA (b+3) (frO (0,0))) (Star (ObjA (b+2) (frO y)) (Star (ObjA (b+1) (frO f)) (Star (ObjA b (frO x)) Emp)))):=Lcl.obj.star hL3
 obtain ⟨w4,hw4⟩:∃w4,w4=(((w.alloc (frO x)).alloc (frO f)).alloc (frO y)).alloc (frO (0,0)):=⟨_,rfl⟩
 rw [←hw4] at a4
 have hw4':(((w.alloc (.cells #[.int .i64 x.1,.int .i64 x.2] 151 (0,0))).alloc (.cells #[.int .i64 f.1,.int .i64 f.2] 151 (0,0))).alloc (.cells #[.int .i64 y.1,.int .i64 y.2] 151 (0,0))).alloc (.cells #[.int .i64 0,.int .i64 0] 151 (0,0))=w4:=by rw [hw4]; rfl
 simp [frV,←hb,hw4',rd_fr a4.drop.obj,rd_fr a4.drop.drop.obj]
 refine cl_of (mul9_spec f y hf hy) ?_
 rintro _ w5 ⟨rfl,k5⟩
 have a5:=a4.kp0 hL4 k5
 obtain ⟨c,hc⟩:∃c,c=w5.heap.size:=⟨_,rfl⟩
 cases hm:frMul f y with
 | none =>
  have hl:frLess x f y=none:=by unfold frLess; rw [hm]
  rw [hl]
  simp [frR,frV,←hc]
  refine st_fr0 (f:=(0,0)) hL4 a5 hc fun w6 a6=>?_
  simp [errV]
  refine st_fr (f:=(0,0)) (g:=(0,0)) (Lcl.obj.star hL3) (a6.by Imp.sw) fun w7 a7=>?_
  simp
  refine postL_c2 ag_151 (by simp) a7.obj rfl rfl ?_
  exact ⟨_,rfl,by simp [frR,frV,errV],a7.kp⟩
 | some p =>
  have hl:frLess x f y=frSub x p:=by unfold frLess; rw [hm]
  rw [hl]
  have hp:=(frMul_rv hf hy hm).1
  simp [frR,frV,←hc]
  refine st_fr0 (f:=p) hL4 a5 hc fun w6 a6=>?_
  have r6:=rd_fr a6.obj
  rw [hc] at r6
  simp [rd_fr a6.drop.drop.drop.drop.obj,r6]
  refine cl_of (sub9_spec x p hx hp) ?_
  rintro _ w7 ⟨rfl,k7⟩
  have a7:=(a6.kp0 (Lcl.obj.star hL4) k7).by Imp.sw
  cases hs:frSub x p with
  | none =>
   simp [frR,frV]
   refine st_fr (f:=(0,0)) (g:=(0,0)) (Lcl.obj.star hL3) a7 fun w8 a8=>?_
   simp
   refine postL_c2 ag_151 (by simp) a8.obj rfl rfl ?_
   exact ⟨_,rfl,by simp [frR,frV],a8.kp⟩
  | some r =>
   simp [frR,frV]
   refine st_fr (f:=(0,0)) (g:=r) (Lcl.obj.star hL3) a7 fun w8 a8=>?_
   simp
   refine postL_c2 ag_151 (by simp) a8.obj rfl rfl ?_
   exact ⟨_,rfl,by simp [frR,frV],a8.kp⟩
end Go.Proofs.YtolkjbmcindhjaaGreat
end
section
namespace Go.Proofs.YtolkjbmcindhjaaGreat
open Go Go.W Go.Tk Go.Rx Go.Maps Go.Sx
def fr0:Fr:=(0,1)
structure ElR (row piv:List Fr) (f:Fr) (row':List Fr):Prop where
 len:row'.length=row.length
 at_:∀i,i < row.length→frLess (row.getD i fr0) f (piv.getD i fr0)=some (row'.getD i fr0)
theorem getD_of {α:Type} {l:List α} {i:Nat} {x d:α} (h:l[i]? = some x):l.getD i d=x:=by rw [List.getD_eq_getElem?_getD,h]; rfl
theorem getD_set {α:Type} {l:List α} {i j:Nat} {x d:α} (h:i < l.length):(l.set i x).getD j d=if j=i then x else l.getD j d:=by
 rw [List.getD_eq_getElem?_getD,List.getD_eq_getElem?_getD,List.getElem?_set]
 by_cases e:i=j
 ·subst e; simp [h]
 ·rw [if_neg e,if_neg (Ne.symm e)]
def ElI (w:World) (F:List Nat) (rw_ pv:Value) (fb:Nat) (row piv:List Fr) (f:Fr) (B:Asr) (k:Nat) (ρ:Env) (w':World):Prop :=
 ρ 0=rw_∧ρ 1=pv∧ρ 5=.pointer (some ⟨fb,0,none⟩)∧∃row',row'.length=row.length∧(∀i,i < k→frLess (row.getD i fr0) f (piv.getD i fr0)=some (row'.getD i fr0))∧(∀i,k≤i→row'.getD i fr0=row.getD i fr0)∧At w F (Star (ObjA fb (frO f)) (Star (OwnA rw_ 151 2 frE row') B)) w'
def ElP (w:World) (F:List Nat) (rw_:Value) (row piv:List Fr) (f:Fr) (B:Asr) (x:Value) (w':World):Prop :=
 ∃row',At w F (Star (OwnA rw_ 151 2 frE row') B) w'∧(x=errV 5∨(x=.nilIface∧ElR row piv f row'))
set_option maxHeartbeats 4000000 in
theorem elim_spec {w w1:World} {F:List Nat} {B:Asr} (rw_ pv:Value) (row piv:List Fr) (f:Fr) (hB:Lcl B) (h:At w F (Star (OwnA rw_ 151 2 frE row) B) w1) (hp:Rds B fun w'=>Vw w' pv frE piv) (hl:piv.length=row.length) (hlen:row.length≤1000) (h1:∀x ∈ row,frP x=true) (h2:∀x ∈ piv,frP x=true) (hf:frP f=true) :
  Calls Tryz.prog 230 [rw_,pv,frV f].toArray w1 fun e w'=>∃x,e=.returned x∧ElP w F rw_ row piv f B x w':=by
 refine enter Tryz.func230 mixed low230 (Nat.le_of_ble_eq_true rfl) ?_
 simp only [L230]
 obtain ⟨fb,hfb⟩:∃fb,fb=w1.heap.size:=⟨_,rfl⟩
 have hL1:∀r,Lcl (Star (OwnA rw_ 151 2 frE r) B):=fun r=>Lcl.own.star hB
 have hL2:∀r,Lcl (Star (ObjA fb (frO f)) (Star (OwnA rw_ 151 2 frE r) B)):=fun r=>Lcl.obj.star (hL1 r)
 have a1:=h.alloc (frO f) (hL1 row)
 rw [←hfb] at a1
 obtain ⟨w2,hw2⟩:∃w2,w2=w1.alloc (frO f):=⟨_,rfl⟩
 rw [←hw2] at a1
 have hw2':w1.alloc (.cells #[.int .i64 f.1,.int .i64 f.2] 151 (0,0))=w2:=by rw [hw2]; rfl
 simp [frV,←hfb,hw2',a1.drop.own.len]
 refine range_loop (n:=row.length) (by omega) (ElI w F rw_ pv fb row piv f B) (by simp) (by simp)
  ⟨by simp,by simp,by simp,row,rfl,fun i hi=>absurd hi (by omega),fun _ _=>rfl,a1⟩ (by decide) (fun _ _ _ _ h=>by simpa [ElI] using h) (fun _ _ _ _ h=>by simpa [ElI] using h) ?_ ?_
 rotate_left
 ·rintro ρ w3 ⟨g0,g1,g5,row',hl',hd,_,h3⟩
  simp
  exact ⟨row',h3.drop,.inr ⟨rfl,hl',hd⟩⟩
 rintro k ρ w3 hk hc hlm ⟨g0,g1,g5,row',hl',hd,hrest,h3⟩
 obtain ⟨x,hx⟩:∃x,row[k]? = some x:=⟨_,List.getElem?_eq_getElem hk⟩
 obtain ⟨y,hy⟩:∃y,piv[k]? = some y:=⟨_,List.getElem?_eq_getElem (by omega)⟩
 have hx':row'[k]? = some x:=by
  have:=hrest k (Nat.le_refl _)
  rw [getD_of hx,List.getD_eq_getElem?_getD,List.getElem?_eq_getElem (by omega)] at this
  rw [List.getElem?_eq_getElem (by omega)]
  exact congrArg some this
 have ho:=h3.drop.own
 have ex:=ho.cells frE_len hx'
 have hpv:=at_rds h3.drop.drop hp
 have ey:=hpv.cells frE_len hy
 simp only [frE] at ex ey
 have hki:(k:Int) < row'.length:=by omega
 have hkp:(k:Int) < piv.length:=by omega
 have rfb:=rd_fr h3.obj
 have fin:∀(r:Fr) (c:Nat) (w5:World),frLess x f y=some r→At w F (Star (ObjA c (frO r)) (Star (ObjA fb (frO f)) (Star (OwnA rw_ 151 2 frE row') B))) w5→∀KW:Kont World,(∀w6,(∃row'',row''.length=row.length∧(∀i,i < k+1→frLess (row.getD i fr0) f (piv.getD i fr0)=some (row''.getD i fr0))∧(∀i,k+1≤i→row''.getD i fr0=row.getD i fr0)∧At w F (Star (ObjA fb (frO f)) (Star (OwnA rw_ 151 2 frE row'') B)) w6)→KW.run w6)→@stJ w5 ⟨rw_.blk,k * 2,none⟩ [.int .i64 r.1,.int .i64 r.2] KW:=fun r c w5 hr h5 KW hK=>by
  refine At.store (x:=r) (Lcl.obj.star hB) ((h5.by Imp.dr).by Imp.sw) frE_len frE_one (by omega) rfl fun w6 h6=>hK w6 ⟨row'.set k r,by simp [hl'],fun i hi=>?_,fun i hi=>?_,h6.by Imp.sw⟩
  ·rw [getD_set (by omega)]
   by_cases e:i=k
   ·rw [if_pos e,e,getD_of hx,getD_of hy,hr]
   ·rw [if_neg e]; exact hd i (by omega)
  ·rw [getD_set (by omega),if_neg (by omega)]
   exact hrest i (by omega)
 obtain ⟨c,hc'⟩:∃c,c=w3.heap.size:=⟨_,rfl⟩
 simp (disch:=omega) [g0,g1,g5,hc,hlm,ho.idx,hpv.idx,ex,ey,rfb]
 refine ⟨?_,?_⟩
 ·refine cl_of (sxless_spec x f y (h1 x (List.mem_of_getElem? hx)) hf (h2 y (List.mem_of_getElem? hy))) ?_
  rintro _ w4 ⟨rfl,k4⟩
  have h4:=(h3.drew (hL2 row')).kp0 (hL2 row') k4
  obtain ⟨c,hc'⟩:∃c,c=w4.heap.size:=⟨_,rfl⟩
  cases hr:frLess x f y with
  | none =>
   simp [frR,frV,←hc']
   refine st_fr0 (f:=(0,0)) (hL2 row') h4 hc' fun w5 h5=>?_
   simp [errV]
   exact ⟨row',h5.drop.drop,.inl rfl⟩
  | some r =>
   simp [frR,frV,←hc']
   refine st_fr0 (f:=r) (hL2 row') h4 hc' fun w5 h5=>?_
   have r5:=rd_fr h5.obj
   have o5:=h5.drop.drop.own
   rw [hc'] at r5
   simp (disch:=omega) [g0,g1,g5,hc,hlm,o5.idx,r5]
   refine fin r c w5 hr h5 _ fun w6 h6=>?_
   simp [g0,g1,g5,hc,hlm]
   exact ⟨by simp [g0],by simp [g1],by simp [g5],h6⟩
 ·obtain ⟨c,hc'⟩:∃c,c=w3.heap.size:=⟨_,rfl⟩
  have h4:=(h3.drew (hL2 row')).alloc (frO (0,0)) (hL2 row')
  have hcd:w3.drew.heap.size=c:=by rw [hc']; rfl
  rw [hcd] at h4
  have hL3:∀r,Lcl (Star (ObjA c (frO r)) (Star (ObjA fb (frO f)) (Star (OwnA rw_ 151 2 frE row') B))):=fun r=>Lcl.obj.star (hL2 row')
  refine cl_of (sxless_spec x f y (h1 x (List.mem_of_getElem? hx)) hf (h2 y (List.mem_of_getElem? hy))) ?_
  rintro _ w4 ⟨rfl,k4⟩
  have h4':At w F (Star (ObjA c (frO (0,0))) (Star (ObjA fb (frO f)) (Star (OwnA rw_ 151 2 frE row') B))) w4:=h4.kp0 (hL3 (0,0)) k4
  rw [hc'] at h4'
  cases hr:frLess x f y with
  | none =>
   simp [frR,frV,hcd]
   refine st_fr (f:=(0,0)) (g:=(0,0)) (hL2 row') h4' fun w5 h5=>?_
   simp [errV]
   exact ⟨row',h5.drop.drop,.inl rfl⟩
  | some r =>
   simp [frR,frV,hcd]
   refine st_fr (f:=(0,0)) (g:=r) (hL2 row') h4' fun w5 h5=>?_
   have r5:=rd_fr h5.obj
   have o5:=h5.drop.drop.own
   simp (disch:=omega) [g0,g1,g5,hc,hlm,o5.idx,r5,hcd]
   refine fin r _ w5 hr h5 _ fun w6 h6=>?_
   simp [g0,g1,g5,hc,hlm]
   exact ⟨by simp [g0],by simp [g1],by simp [g5],h6⟩
end Go.Proofs.YtolkjbmcindhjaaGreat
end
section
namespace Go.W
open Go
section
variable {α:Type} {enc:α→List Value} {E E2 sz:Nat} {B X:Asr} {w w1:World} {F:List Nat} {v:Value} {ps:List (Cell1 × List α)}
def TbS (v:Value) (E2 E sz:Nat) (enc:α→List Value) (ps:List (Cell1 × List α)) (B:Asr):Asr:=Star (OwnA v E2 1 sv1 ps) (RowsA E sz enc ps B)
def TabS (v:Value) (E2 E sz:Nat) (enc:α→List Value) (ps:List (Cell1 × List α)):Asr:=TbS v E2 E sz enc ps Emp
theorem Lcl.tabS:Lcl (TabS v E2 E sz enc ps):=Lcl.own.star (Lcl.rows .emp ps)
theorem RowsA.opnS:∀(ps:List (Cell1 × List α)),Imp (Star (RowsA E sz enc ps Emp) X) (RowsA E sz enc ps X)
 | []=>Imp.dr
 | p :: ps=>Imp.as.trans (Imp.un (RowsA.opnS ps))
theorem RowsA.clsS:∀(ps:List (Cell1 × List α)),Imp (RowsA E sz enc ps X) (Star (RowsA E sz enc ps Emp) X)
 | []=>Imp.em
 | p :: ps=>(Imp.un (RowsA.clsS ps)).trans Imp.as'
theorem TabS.opn:Imp (Star (TabS v E2 E sz enc ps) X) (TbS v E2 E sz enc ps X):=Imp.as.trans (Imp.un (RowsA.opnS ps))
theorem TabS.cls:Imp (TbS v E2 E sz enc ps X) (Star (TabS v E2 E sz enc ps) X):=(Imp.un (RowsA.clsS ps)).trans Imp.as'
theorem TbS.rowI {i:Nat} {p:Cell1 × List α} (hi:ps[i]? = some p):Imp (TbS v E2 E sz enc ps B) (Star (OwnA p.1.1 E sz enc p.2) (Star (OwnA v E2 1 sv1 ps) (RowsA E sz enc (ps.eraseIdx i) B))):=(Imp.un (RowsA.out ps i p hi)).trans Imp.sw
theorem TabS.row {i:Nat} {p:Cell1 × List α} (h:At w F (Star (TabS v E2 E sz enc ps) B) w1) (hi:ps[i]? = some p):Own w1 p.1.1 E sz enc p.2:=((h.by TabS.opn).by (TbS.rowI hi)).own
theorem TabS.own (h:At w F (Star (TabS v E2 E sz enc ps) B) w1):Own w1 v E2 1 sv1 ps:=At.own (h.by TabS.opn)
theorem TabS.cell {i:Nat} {p:Cell1 × List α} (h:At w F (Star (TabS v E2 E sz enc ps) B) w1) (hi:ps[i]? = some p):w1.cell? ⟨v.blk,i,none⟩=some p.1.1:=by
 have:=(TabS.own h).cell sv1_len hi (o:=0) (by omega)
 simpa [sv1] using this
theorem TabS.take {i:Nat} {p:Cell1 × List α} (hi:ps[i]? = some p):Imp (Star (TabS v E2 E sz enc ps) B) (Star (OwnA p.1.1 E sz enc p.2) (Star (OwnA v E2 1 sv1 ps) (RowsA E sz enc (ps.eraseIdx i) B))):=TabS.opn.trans (TbS.rowI hi)
end
end Go.W
end
