/-
  A part of the proof of this claim's statement (WhFr, WhFs, SxA): plain theorems; no conditions beyond those each names.
-/
import Derived.Test.YtolkjbmcindhjaaGreatPk15
import Derived.Test.YtolkjbmcindhjaaGreatPk06
set_option maxRecDepth 100000
set_option linter.unusedSimpArgs false
set_option linter.unusedVariables false
set_option linter.unusedSectionVars false
section
namespace Go.Proofs.YtolkjbmcindhjaaGreat
open Go Go.W Go.Tk Go.Rx Go.Maps
abbrev Fr:=Int × Int
def frE (f:Fr):List Value:=[.int .i64 f.1,.int .i64 f.2]
theorem frE_len (f:Fr):(frE f).length=2:=rfl
theorem frE_one (f:Fr):(frE f).all oneC=true:=rfl
def frV (f:Fr):Value:=.agg #[.int .i64 f.1,.int .i64 f.2]
def frO (f:Fr):Obj:=.cells #[.int .i64 f.1,.int .i64 f.2] 151 (0,0)
def frP (f:Fr):Bool:=decide (1≤f.2) && decide (f.2≤1048576) && decide (-1099511627776≤f.1) && decide (f.1≤1099511627776) && decide (Nat.gcd f.1.natAbs f.2.natAbs=1)
theorem frP_iff {f:Fr}:frP f=true↔1≤f.2∧f.2≤1048576∧-1099511627776≤f.1∧f.1≤1099511627776∧Nat.gcd f.1.natAbs f.2.natAbs=1:=by
 unfold frP
 simp only [Bool.and_eq_true,decide_eq_true_eq,and_assoc]
theorem rd_fr {w:World} {b:Nat} {f:Fr} (h:w.heap[b]? = some (frO f)):cellsAt w ⟨b,0,none⟩ 0 2=some [.int .i64 f.1,.int .i64 f.2]:=by
 unfold frO at h
 simp [cellsAt,Addr.add,cell_blk h]
theorem gcd_spec {w:World} (a b:Nat) (ha:a≤9223372036854775807) (hb:b≤9223372036854775807) :
  Calls Tryz.prog 161 [.int .i64 (a:Nat),.int .i64 (b:Nat)].toArray w fun e w'=>∃x,e=.returned x∧x=.int .i64 (Nat.gcd a b:Nat)∧Kp [] w w':=by
 refine enter Tryz.func161 mixed low161 (Nat.le_of_ble_eq_true rfl) ?_
 simp only [L161]
 refine seq_cut (fun ρ w'=>ρ 0=.int .i64 (a:Nat)∧ρ 1=.int .i64 (b:Nat)∧Kp [] w w') ?_ ?_
 ·simp
  exact Kp.refl _ _
 rintro ρ w1 ⟨g0,g1,k1⟩
 refine seq_cut (fun ρ w'=>ρ 0=.int .i64 (Nat.gcd a b:Nat)∧Kp [] w w') ?_ ?_
 rotate_left
 ·rintro ρ w2 ⟨g0,k2⟩
  simp [g0]
  exact k2
 simp
 refine loop_inv (fun m ρ w'=>∃x y:Nat,m=y∧ρ 0=.int .i64 (x:Nat)∧ρ 1=.int .i64 (y:Nat)∧x≤9223372036854775807∧y≤9223372036854775807∧Nat.gcd x y=Nat.gcd a b∧Kp [] w w') b ⟨a,b,rfl,g0,g1,ha,hb,rfl,k1⟩ ?_
 clear g0 g1 k1
 rintro m ρ w2 ⟨x,y,rfl,g0,g1,hx,hy,hg,k2⟩
 by_cases h0:m=0
 ·subst h0
  simp [g0,g1]
  rw [←hg,Nat.gcd_zero_right]
  exact ⟨rfl,k2⟩
 ·have n1:((m:Int) != 0)=true:=by simp; omega
  have hr:(x:Int).tmod (m:Int)=((x % m:Nat):Int):=by rw [Int.tmod_eq_emod_of_nonneg (by omega)]; simp
  obtain ⟨r,hrr⟩:∃r,r=x % m:=⟨_,rfl⟩
  have hlt:r < m:=by rw [hrr]; exact Nat.mod_lt _ (by omega)
  rw [←hrr] at hr
  simp [g0,g1,n1,hr,h0]
  refine ⟨r,hlt,m,rfl,rfl,hy,by omega,?_,k2.drew⟩
  rw [←hg,hrr,Nat.gcd_comm m,←Nat.gcd_rec,Nat.gcd_comm]
theorem abs_spec {w:World} (n:Int) (h1:-9223372036854775807≤n) (h2:n≤9223372036854775807) :
  Calls Tryz.prog 162 [.int .i64 n].toArray w fun e w'=>∃x,e=.returned x∧x=.int .i64 (n.natAbs:Nat)∧Kp [] w w':=by
 refine enter Tryz.func162 mixed low162 (Nat.le_of_ble_eq_true rfl) ?_
 simp only [L162]
 have e1:max n (0 - n)=(n.natAbs:Int):=by omega
 have e2:IntKind.i64.wrap (0 - n)=0 - n:=wrap_i64 (by omega) (by omega)
 simp only [Int.zero_sub] at e1 e2
 simp [e1,e2]
 exact Kp.refl _ _
theorem gcd_le {f:Fr} {B:Nat} (h:f.1.natAbs≤B) (h2:f.2.natAbs≤B):Nat.gcd f.1.natAbs f.2.natAbs≤B:=by
 rcases Nat.eq_zero_or_pos f.1.natAbs with e | e
 ·rw [e,Nat.gcd_zero_left]; exact h2
 ·exact Nat.le_trans (Nat.gcd_le_left _ e) h
theorem proper9_spec {w:World} (f:Fr) :
  Calls Tryz.prog 137 [frV f].toArray w fun e w'=>∃x,e=.returned x∧x=.bool (frP f)∧Kp [] w w':=by
 refine enter Tryz.func137 mixed low137 (Nat.le_of_ble_eq_true rfl) ?_
 simp only [L137]
 obtain ⟨b,hb⟩:∃b,b=w.heap.size:=⟨_,rfl⟩
 have h1:At w [] (Star (ObjA b (frO f)) Emp) (w.alloc (frO f)):=by rw [hb]; exact (At.start rfl).alloc _ .emp
 obtain ⟨w1,hw1⟩:∃w1,w1=w.alloc (frO f):=⟨_,rfl⟩
 rw [←hw1] at h1
 have hw1':w.alloc (.cells #[.int .i64 f.1,.int .i64 f.2] 151 (0,0))=w1:=by rw [hw1]; rfl
 have hL:Lcl (Star (ObjA b (frO f)) Emp):=Lcl.obj.star .emp
 have ob1:=h1.obj
 unfold frO at ob1
 have hk:=h1.kp.drew
 by_cases t1:1≤f.2
 case neg =>
  have e:frP f=false:=by cases h:frP f with | false=>rfl | true=>exact absurd (frP_iff.1 h).1 t1
  simp [frV,←hb,hw1',cell_blk ob1,t1,e]
  exact hk
 by_cases t2:f.2≤1048576
 case neg =>
  have e:frP f=false:=by cases h:frP f with | false=>rfl | true=>exact absurd (frP_iff.1 h).2.1 t2
  simp [frV,←hb,hw1',cell_blk ob1,t1,t2,e]
  exact hk
 by_cases t3:-1099511627776≤f.1
 case neg =>
  have e:frP f=false:=by cases h:frP f with | false=>rfl | true=>exact absurd (frP_iff.1 h).2.2.1 t3
  simp [frV,←hb,hw1',cell_blk ob1,t1,t2,t3,e]
  exact hk
 by_cases t4:f.1≤1099511627776
 case neg =>
  have e:frP f=false:=by cases h:frP f with | false=>rfl | true=>exact absurd (frP_iff.1 h).2.2.2.1 t4
  simp [frV,←hb,hw1',cell_blk ob1,t1,t2,t3,t4,e]
  exact hk
 have e:frP f=decide (Nat.gcd f.1.natAbs f.2.natAbs=1):=by unfold frP; simp [t1,t2,t3,t4]
 obtain ⟨d,hd⟩:∃d:Nat,d=f.2.natAbs:=⟨_,rfl⟩
 have hdi:f.2=(d:Int):=by omega
 have hgl:=gcd_le (f:=f) (B:=1099511627776) (by omega) (by omega)
 rw [←hd] at e hgl
 have heq:((Nat.gcd f.1.natAbs d:Nat):Int)=1↔Nat.gcd f.1.natAbs d=1:=by omega
 simp [frV,←hb,hw1',cell_blk ob1,t1,t2,t3,t4]
 refine ⟨?_,?_⟩
 all_goals
  refine cl_of (abs_spec f.1 (by omega) (by omega)) ?_
  rintro _ w2 ⟨rfl,k2⟩
  have h2:=(h1.drew hL).kp0 hL k2
  have ob2:=h2.obj
  unfold frO at ob2
  simp [cell_blk ob2]
  rw [hdi]
  refine cl_of (gcd_spec f.1.natAbs d (by omega) (by omega)) ?_
  rintro _ w3 ⟨rfl,k3⟩
  rw [e]
  simp
  exact ⟨by rw [Bool.eq_iff_iff,beq_iff_eq,decide_eq_true_eq]; exact heq,(h2.kp0 hL k3).kp⟩
theorem st_fr {f g:Fr} {b:Nat} {w w1:World} {F:List Nat} {X:Asr} {KW:Kont World} (hX:Lcl X) (h:At w F (Star (ObjA b (frO f)) X) w1) (H:∀w2,At w F (Star (ObjA b (frO g)) X) w2→KW.run w2) :
  @stJ w1 ⟨b,0,none⟩ [.int .i64 g.1,.int .i64 g.2] KW :=
 (show At w F (Star (ObjA b (.cells #[.int .i64 f.1,.int .i64 f.2] 151 (0,0))) X) w1 from h).st hX (by simp) (by simp) fun w2 h2=>H w2 (by simpa [frO] using h2)
theorem value_spec {w:World} (f:Fr) (hf:frP f=true) :
  Calls Tryz.prog 138 [frV f].toArray w fun e w'=>∃x,e=.returned x∧x=frV f∧Kp [] w w':=by
 refine enter Tryz.func138 mixed low138 (Nat.le_of_ble_eq_true rfl) ?_
 simp only [L138]
 obtain ⟨b,hb⟩:∃b,b=w.heap.size:=⟨_,rfl⟩
 have h1:At w [] (Star (ObjA b (frO f)) Emp) (w.alloc (frO f)):=by rw [hb]; exact (At.start rfl).alloc _ .emp
 obtain ⟨w1,hw1⟩:∃w1,w1=w.alloc (frO f):=⟨_,rfl⟩
 rw [←hw1] at h1
 have hw1':w.alloc (.cells #[.int .i64 f.1,.int .i64 f.2] 151 (0,0))=w1:=by rw [hw1]; rfl
 have hL:Lcl (Star (ObjA b (frO f)) Emp):=Lcl.obj.star .emp
 obtain ⟨r,hr⟩:∃r,r=w1.heap.size:=⟨_,rfl⟩
 have h2:At w [] (Star (ObjA r (frO (0,0))) (Star (ObjA b (frO f)) Emp)) (w1.alloc (frO (0,0))):=by rw [hr]; exact h1.alloc _ hL
 obtain ⟨w2,hw2⟩:∃w2,w2=w1.alloc (frO (0,0)):=⟨_,rfl⟩
 rw [←hw2] at h2
 have hw2':w1.alloc (.cells #[.int .i64 0,.int .i64 0] 151 (0,0))=w2:=by rw [hw2]; rfl
 simp [frV,←hb,hw1',←hr,hw2',rd_fr h2.drop.obj]
 refine cl_of (proper9_spec f) ?_
 rintro _ w3 ⟨rfl,k3⟩
 have h3:=h2.kp0 (Lcl.obj.star hL) k3
 rw [hf]
 simp [rd_fr h3.drop.obj]
 refine st_fr (f:=(0,0)) (g:=f) hL h3 fun w4 h4=>?_
 simp
 refine postL_c1 ag_151 (by simp) h4.obj rfl rfl ?_
 exact ⟨_,rfl,rfl,h4.kp⟩
def frNew (n d:Int):Option Fr:=let g:Int:=(Nat.gcd n.natAbs d.natAbs:Nat)
 if 1099511627776 < (n.tdiv g).natAbs∨1048576 < d.tdiv g then none else some (n.tdiv g,d.tdiv g)
def frR (o:Option Fr):Value:=match o with | some f=>.tuple #[frV f,.nilIface] | none=>.tuple #[frV (0,0),errV 5]
theorem tdiv_le {n:Int} {g:Nat} (h:1≤g):(n.tdiv (g:Int)).natAbs≤n.natAbs:=by
 rw [Int.natAbs_tdiv]
 exact Nat.div_le_self _ _
theorem new9_spec {w:World} (n d:Int) (h1:-9223372036854775807≤n) (h2:n≤9223372036854775807) (h3:1≤d) (h4:d≤9223372036854775807) :
  Calls Tryz.prog 106 [.int .i64 n,.int .i64 d].toArray w fun e w'=>∃x,e=.returned x∧x=frR (frNew n d)∧Kp [] w w':=by
 refine enter Tryz.func106 mixed low106 (Nat.le_of_ble_eq_true rfl) ?_
 simp only [L106]
 obtain ⟨b,hb⟩:∃b,b=w.heap.size:=⟨_,rfl⟩
 have a1:At w [] (Star (ObjA b (frO (0,0))) Emp) (w.alloc (frO (0,0))):=by rw [hb]; exact (At.start rfl).alloc _ .emp
 obtain ⟨w1,hw1⟩:∃w1,w1=w.alloc (frO (0,0)):=⟨_,rfl⟩
 rw [←hw1] at a1
 have hw1':w.alloc (.cells #[.int .i64 0,.int .i64 0] 151 (0,0))=w1:=by rw [hw1]; rfl
 have hL:Lcl (Star (ObjA b (frO (0,0))) Emp):=Lcl.obj.star .emp
 have n1:(d == 0)=false:=by simp; omega
 have n2:(n == -9223372036854775808)=false:=by simp; omega
 have n3:(d == -9223372036854775808)=false:=by simp; omega
 have n4:¬d < 0:=by omega
 obtain ⟨e,he⟩:∃e:Nat,e=d.natAbs:=⟨_,rfl⟩
 have hde:d=(e:Int):=by omega
 obtain ⟨g,hg⟩:∃g,g=Nat.gcd n.natAbs e:=⟨_,rfl⟩
 have hg1:1≤g:=by rw [hg]; exact Nat.gcd_pos_of_pos_right _ (by omega)
 have hfn:frNew n d=if 1099511627776 < (n.tdiv (g:Int)).natAbs∨1048576 < d.tdiv (g:Int) then none else some (n.tdiv (g:Int),d.tdiv (g:Int)):=by
  unfold frNew
  rw [←he,←hg]
 obtain ⟨p,hp⟩:∃p,p=n.tdiv (g:Int):=⟨_,rfl⟩
 obtain ⟨q,hq⟩:∃q,q=d.tdiv (g:Int):=⟨_,rfl⟩
 have hpb:=tdiv_le (n:=n) hg1
 have hqb:=tdiv_le (n:=d) hg1
 rw [←hp] at hpb
 rw [←hq] at hqb
 rw [←hp,←hq] at hfn
 have hg0:¬g=0:=by omega
 simp [←hb,hw1',n1,n2,n3,n4]
 refine cl_of (abs_spec n h1 h2) ?_
 rintro _ w2 ⟨rfl,k2⟩
 have a2:=a1.kp0 hL k2
 simp
 rw [hde]
 refine cl_of (gcd_spec n.natAbs e (by omega) (by omega)) ?_
 rintro _ w3 ⟨rfl,k3⟩
 have a3:=a2.kp0 hL k3
 rw [←hg]
 obtain ⟨c,hc⟩:∃c,c=w3.heap.size:=⟨_,rfl⟩
 rw [hde] at hq
 simp (disch:=omega) [←hp,←hq,hg0,wrap_i64,←hc]
 have a4:At w [] (Star (ObjA c (frO (0,0))) (Star (ObjA b (frO (0,0))) Emp)) (w3.drew.alloc (frO (0,0))):=by rw [hc]; exact (a3.drew hL).alloc _ hL
 have hL4:Lcl (Star (ObjA c (frO (p,q))) (Star (ObjA b (frO (0,0))) Emp)):=Lcl.obj.star hL
 refine st_fr (f:=(0,0)) (g:=(p,q)) hL (show At w [] _ (w3.drew.alloc _) from a4) fun w4 a5=>?_
 have ob5:=a5.obj
 unfold frO at ob5
 rw [hc] at ob5
 simp [cell_blk ob5]
 refine cl_of (abs_spec p (by omega) (by omega)) ?_
 rintro _ w5 ⟨rfl,k5⟩
 have a6:=a5.kp0 hL4 k5
 have ob6:=a6.obj
 unfold frO at ob6
 rw [hc] at ob6
 have r6:=rd_fr a6.obj
 rw [hc] at r6
 have hLc:Lcl (Star (ObjA c (frO (p,q))) Emp):=Lcl.obj.star .emp
 by_cases t1:1099511627776 < p.natAbs
 ·have t1':(1099511627776:Int) < (p.natAbs:Int):=by omega
  have hres:frNew n (e:Int)=none:=by rw [←hde,hfn,if_pos (.inl t1)]
  simp [t1,t1',cell_blk ob6,hres]
  refine st_fr (f:=(0,0)) (g:=(0,0)) hLc (a6.by Imp.sw) fun w7 a7=>?_
  simp
  refine postL_c2 ag_151 (by simp) a7.obj rfl rfl ?_
  exact ⟨_,rfl,rfl,a7.kp⟩
 ·have t1':¬(1099511627776:Int) < (p.natAbs:Int):=by omega
  by_cases t2:1048576 < q
  ·have hres:frNew n (e:Int)=none:=by rw [←hde,hfn,if_pos (.inr t2)]
   simp [t1,t1',t2,cell_blk ob6,hres]
   refine st_fr (f:=(0,0)) (g:=(0,0)) hLc (a6.by Imp.sw) fun w7 a7=>?_
   simp
   refine postL_c2 ag_151 (by simp) a7.obj rfl rfl ?_
   exact ⟨_,rfl,rfl,a7.kp⟩
  ·have hres:frNew n (e:Int)=some (p,q):=by rw [←hde,hfn,if_neg (by omega)]
   simp [t1,t1',t2,cell_blk ob6,r6,hres]
   refine st_fr (f:=(0,0)) (g:=(p,q)) hLc (a6.by Imp.sw) fun w7 a7=>?_
   simp
   refine postL_c2 ag_151 (by simp) a7.obj rfl rfl ?_
   exact ⟨_,rfl,rfl,a7.kp⟩
def frAdd (a b:Fr):Option Fr:=frNew (a.1 * b.2+b.1 * a.2) (a.2 * b.2)
theorem mul_bd {x y:Int} (h1:-1099511627776≤x) (h2:x≤1099511627776) (h3:1≤y) (h4:y≤1048576):-1152921504606846976≤x * y∧x * y≤1152921504606846976:=by
 rcases Int.le_total 0 x with hx | hx
 ·have a1:x * y≤1099511627776 * 1048576:=Int.mul_le_mul h2 h4 (by omega) (by omega)
  have a2:0≤x * y:=Int.mul_nonneg hx (by omega)
  omega
 ·have a1:(-x) * y≤1099511627776 * 1048576:=Int.mul_le_mul (by omega) h4 (by omega) (by omega)
  have a2:0≤(-x) * y:=Int.mul_nonneg (by omega) (by omega)
  rw [Int.neg_mul] at a1 a2
  omega
theorem den_bd {x y:Int} (h1:1≤x) (h2:x≤1048576) (h3:1≤y) (h4:y≤1048576):1≤x * y∧x * y≤1099511627776:=by
 have a1:x * y≤1048576 * 1048576:=Int.mul_le_mul h2 h4 (by omega) (by omega)
 have a2:1 * 1≤x * y:=Int.mul_le_mul h1 h3 (by omega) (by omega)
 omega
theorem add9_spec {w:World} (a b:Fr) (ha:frP a=true) (hb:frP b=true) :
  Calls Tryz.prog 136 [frV a,frV b].toArray w fun e w'=>∃x,e=.returned x∧x=frR (frAdd a b)∧Kp [] w w':=by
 refine enter Tryz.func136 mixed low136 (Nat.le_of_ble_eq_true rfl) ?_
 simp only [L136]
 have ha':=frP_iff.1 ha
 have hb':=frP_iff.1 hb
 obtain ⟨ab,hab⟩:∃ab,ab=w.heap.size:=⟨_,rfl⟩
 have a1:At w [] (Star (ObjA ab (frO a)) Emp) (w.alloc (frO a)):=by rw [hab]; exact (At.start rfl).alloc _ .emp
 have hL1:Lcl (Star (ObjA ab (frO a)) Emp):=Lcl.obj.star .emp
 have a2:=a1.alloc (frO b) hL1
 have hL2:∀c,Lcl (Star (ObjA c (frO b)) (Star (ObjA ab (frO a)) Emp)):=fun c=>Lcl.obj.star hL1
 have a3:=a2.alloc (frO (0,0)) (hL2 _)
 have s1:(w.alloc (frO a)).heap.size=ab+1:=by rw [hab]; simp
 have s2:((w.alloc (frO a)).alloc (frO b)).heap.size=ab+2:=by rw [hab]; simp
 rw [s1,s2] at a3
 obtain ⟨w3,hw3⟩:∃w3,w3=((w.alloc (frO a)).alloc (frO b)).alloc (frO (0,0)):=⟨_,rfl⟩
 rw [←hw3] at a3
 have hw3':((w.alloc (.cells #[.int .i64 a.1,.int .i64 a.2] 151 (0,0))).alloc (.cells #[.int .i64 b.1,.int .i64 b.2] 151 (0,0))).alloc (.cells #[.int .i64 0,.int .i64 0] 151 (0,0))=w3:=by rw [hw3]; rfl
 have hL3:Lcl (Star (ObjA (ab+2) (frO (0,0))) (Star (ObjA (ab+1) (frO b)) (Star (ObjA ab (frO a)) Emp))):=Lcl.obj.star (hL2 _)
 have ra:=rd_fr a3.drop.drop.obj
 have rb:=rd_fr a3.drop.obj
 simp [frV,hw3',←hab,ra]
 refine cl_of (proper9_spec a) ?_
 rintro _ w4 ⟨rfl,k4⟩
 have a4:=a3.kp0 hL3 k4
 have rb4:=rd_fr a4.drop.obj
 rw [ha]
 simp [rb4]
 refine cl_of (proper9_spec b) ?_
 rintro _ w5 ⟨rfl,k5⟩
 have a5:=a4.kp0 hL3 k5
 rw [hb]
 have oa5:=a5.drop.drop.obj
 unfold frO at oa5
 have ob5:=a5.drop.obj
 unfold frO at ob5
 have m1:=mul_bd ha'.2.2.1 ha'.2.2.2.1 hb'.1 hb'.2.1
 have m2:=mul_bd hb'.2.2.1 hb'.2.2.2.1 ha'.1 ha'.2.1
 have m3:=den_bd ha'.1 ha'.2.1 hb'.1 hb'.2.1
 obtain ⟨x,hx⟩:∃x,x=a.1 * b.2:=⟨_,rfl⟩
 obtain ⟨y,hy⟩:∃y,y=b.1 * a.2:=⟨_,rfl⟩
 obtain ⟨z,hz⟩:∃z,z=a.2 * b.2:=⟨_,rfl⟩
 have hadd:frAdd a b=frNew (x+y) z:=by unfold frAdd; rw [hx,hy,hz]
 rw [←hx] at m1
 rw [←hy] at m2
 rw [←hz] at m3
 simp (disch:=omega) [cell_blk oa5,cell_blk ob5,←hx,←hy,←hz,wrap_i64]
 refine cl_of (new9_spec (x+y) z (by omega) (by omega) (by omega) (by omega)) ?_
 rintro _ w6 ⟨rfl,k6⟩
 have a6:=a5.kp0 hL3 k6
 rw [←hadd]
 cases hf:frAdd a b with
 | none =>
  simp [frR,frV]
  refine st_fr (f:=(0,0)) (g:=(0,0)) (hL2 _) a6 fun w7 a7=>?_
  simp
  refine postL_c2 ag_151 (by simp) a7.obj rfl rfl ?_
  exact ⟨_,rfl,by simp [frR,frV],a7.kp⟩
 | some f =>
  simp [frR,frV]
  refine st_fr (f:=(0,0)) (g:=f) (hL2 _) a6 fun w7 a7=>?_
  simp
  refine postL_c2 ag_151 (by simp) a7.obj rfl rfl ?_
  exact ⟨_,rfl,by simp [frR,frV],a7.kp⟩
theorem frNew_ok {n d:Int} {f:Fr} (hd:1≤d) (h:frNew n d=some f):frP f=true∧f.1 * d=n * f.2:=by
 obtain ⟨e,he⟩:∃e:Nat,d=(e:Int):=⟨d.natAbs,by omega⟩
 subst he
 unfold frNew at h
 obtain ⟨g,hg⟩:∃g,g=Nat.gcd n.natAbs e:=⟨_,rfl⟩
 have e0:(e:Int).natAbs=e:=by omega
 simp only [e0,←hg] at h
 have hg1:1≤g:=by rw [hg]; exact Nat.gcd_pos_of_pos_right _ (by omega)
 have d1:g ∣ e:=by rw [hg]; exact Nat.gcd_dvd_right _ _
 have d2:g ∣ n.natAbs:=by rw [hg]; exact Nat.gcd_dvd_left _ _
 split at h
 ·cases h
 ·rename_i hn
  simp only [Option.some.injEq] at h
  subst h
  obtain ⟨q,rfl⟩:=d1
  obtain ⟨m,hm⟩:∃m:Int,n=(g:Int) * m:=by
   obtain ⟨k,hk⟩:=d2
   rcases Int.le_total 0 n with h | h
   ·exact ⟨k,by rw [←Int.natCast_mul,←hk]; omega⟩
   ·exact ⟨-k,by rw [Int.mul_neg,←Int.natCast_mul,←hk]; omega⟩
  subst hm
  have gz:(g:Int)≠0:=by omega
  have e1:((g:Int) * m).tdiv (g:Int)=m:=Int.mul_tdiv_cancel_left _ gz
  have e2:((g * q:Nat):Int).tdiv (g:Int)=(q:Int):=by rw [Int.natCast_mul]; exact Int.mul_tdiv_cancel_left _ gz
  have hq1:1≤q:=by
   rcases Nat.eq_zero_or_pos q with h | h
   ·subst h; simp at hd
   ·exact h
  rw [e1,e2] at hn
  refine ⟨frP_iff.2 ?_,?_⟩
  ·simp only [e1,e2]
   refine ⟨by omega,by omega,by omega,by omega,?_⟩
   have h1:Nat.gcd (g * m.natAbs) (g * q)=g:=by
    have:((g:Int) * m).natAbs=g * m.natAbs:=by rw [Int.natAbs_mul]; rfl
    rw [←this]; exact hg.symm
   rw [Nat.gcd_mul_left] at h1
   have h2:((q:Nat):Int).natAbs=q:=by omega
   rw [h2]
   have h3:g * Nat.gcd m.natAbs q=g * 1:=by omega
   exact Nat.eq_of_mul_eq_mul_left (by omega) h3
  ·simp only [e1,e2]
   rw [Int.natCast_mul,Int.mul_comm (g:Int) m,Int.mul_assoc]
theorem frAdd_ok {a b f:Fr} (ha:frP a=true) (hb:frP b=true) (h:frAdd a b=some f):frP f=true:=by
 have ha':=frP_iff.1 ha
 have hb':=frP_iff.1 hb
 exact (frNew_ok (den_bd ha'.1 ha'.2.1 hb'.1 hb'.2.1).1 h).1
def frSum:List Fr→Fr→Option Fr
 | [],s=>some s
 | f :: l,s=>match frAdd s f with
  | none=>none
  | some s'=>frSum l s'
end Go.Proofs.YtolkjbmcindhjaaGreat
end
section
namespace Go.Proofs.YtolkjbmcindhjaaGreat
open Go Go.W Go.Tk Go.Rx Go.Maps
theorem st_fr0 {f:Fr} {b:Nat} {w wa:World} {F:List Nat} {X:Asr} {KW:Kont World} (hX:Lcl X) (h:At w F X wa) (hb:b=wa.heap.size) (H:∀w2,At w F (Star (ObjA b (frO f)) X) w2→KW.run w2) :
  @stJ (wa.alloc (.cells #[.int .i64 0,.int .i64 0] 151 (0,0))) ⟨b,0,none⟩ [.int .i64 f.1,.int .i64 f.2] KW:=by
 have h1:At w F (Star (ObjA b (frO (0,0))) X) (wa.alloc (frO (0,0))):=by rw [hb]; exact h.alloc _ hX
 exact st_fr (f:=(0,0)) (g:=f) hX h1 H
def SuI (r sb:Nat) (lv:Value) (l:List Fr) (w:World) (k:Nat) (ρ:Env) (w':World):Prop :=
 ρ 2=.pointer (some ⟨r,0,none⟩)∧ρ 4=.pointer (some ⟨sb,0,none⟩)∧ρ 10=lv∧∃s,frP s=true∧frSum l (0,1)=frSum (l.drop k) s∧At w [] (Star (ObjA sb (frO s)) (Star (ObjA r (frO (0,0))) Emp)) w'
set_option maxHeartbeats 1000000 in
theorem sum9_spec {w:World} (lv:Value) (l:List Fr) (hv:Vw w lv frE l) (hl:l.length≤1000000) (hp:∀f ∈ l,frP f=true) :
  Calls Tryz.prog 77 [lv].toArray w fun e w'=>∃x,e=.returned x∧x=frR (frSum l (0,1))∧Kp [] w w':=by
 refine enter Tryz.func77 mixed low77 (Nat.le_of_ble_eq_true rfl) ?_
 simp only [L77]
 obtain ⟨r,hr⟩:∃r,r=w.heap.size:=⟨_,rfl⟩
 have h1:At w [] (Star (ObjA r (frO (0,0))) Emp) (w.alloc (frO (0,0))):=by rw [hr]; exact (At.start rfl).alloc _ .emp
 obtain ⟨w1,hw1⟩:∃w1,w1=w.alloc (frO (0,0)):=⟨_,rfl⟩
 rw [←hw1] at h1
 have hw1':w.alloc (.cells #[.int .i64 0,.int .i64 0] 151 (0,0))=w1:=by rw [hw1]; rfl
 have hL:Lcl (Star (ObjA r (frO (0,0))) Emp):=Lcl.obj.star .emp
 have hL2:∀b f,Lcl (Star (ObjA b (frO f)) (Star (ObjA r (frO (0,0))) Emp)):=fun _ _=>Lcl.obj.star hL
 obtain ⟨sb,hsb⟩:∃sb,sb=w1.heap.size:=⟨_,rfl⟩
 simp [←hr,hw1',←hsb]
 refine st_fr0 (f:=(0,1)) hL h1 hsb fun w2 h2=>?_
 simp [(hv.kp0 h2.kp).len]
 refine range_loop (n:=l.length) (by omega) (SuI r sb lv l w) (by simp) (by simp)
  ⟨by simp,by simp [←hsb],by simp,(0,1),by decide,by simp,h2⟩ (by decide) (fun _ _ _ _ h=>by simpa [SuI] using h) (fun _ _ _ _ h=>by simpa [SuI] using h) ?_ ?_
 rotate_left
 ·rintro ρ w3 ⟨g2,g4,g10,s,hs,he,h3⟩
  rw [List.drop_length] at he
  simp [g4,g2,rd_fr h3.obj]
  refine st_fr (f:=(0,0)) (g:=s) (Lcl.obj.star .emp) (h3.by Imp.sw) fun w4 h4=>?_
  simp
  refine postL_c2 ag_151 (by simp [g2]) h4.obj rfl rfl ?_
  refine ⟨_,rfl,?_,h4.kp⟩
  rw [he]
  simp [frSum,frR,frV]
 clear h1 h2 hw1 hw1' hr hsb
 rintro k ρ w3 hk hc hlm ⟨g2,g4,g10,s,hs,he,h3⟩
 obtain ⟨f,hf⟩:∃f,l[k]? = some f:=⟨_,List.getElem?_eq_getElem hk⟩
 have hfp:=hp f (List.mem_of_getElem? hf)
 have hdr:l.drop k=f :: l.drop (k+1):=by rw [List.drop_eq_getElem_cons hk,(List.getElem?_eq_some_iff.1 hf).2]
 rw [hdr] at he
 simp only [frSum] at he
 have hv3:=hv.kp0 h3.kp
 have ecf:=hv3.cells frE_len hf
 simp only [frE] at ecf
 obtain ⟨fb,hfb⟩:∃fb,fb=w3.heap.size:=⟨_,rfl⟩
 have hki:(k:Int) < l.length:=by omega
 simp (disch:=omega) [g10,hc,hlm,hv3.idx,ecf,←hfb]
 refine st_fr0 (f:=f) (hL2 _ _) h3 hfb fun w4 h4=>?_
 have rf4:=rd_fr h4.obj
 rw [hfb] at rf4
 simp [g4,rd_fr h4.drop.obj,rf4]
 refine cl_of (add9_spec s f hs hfp) ?_
 rintro _ w5 ⟨rfl,k5⟩
 have h5:=h4.kp0 (Lcl.obj.star (hL2 _ _)) k5
 have hL5:Lcl (Star (ObjA fb (frO f)) (Star (ObjA sb (frO s)) (Star (ObjA r (frO (0,0))) Emp))):=Lcl.obj.star (hL2 _ _)
 obtain ⟨nb,hnb⟩:∃nb,nb=w5.heap.size:=⟨_,rfl⟩
 cases ha:frAdd s f with
 | none =>
  rw [ha] at he
  simp [frR,frV,←hnb]
  refine st_fr0 (f:=(0,0)) hL5 h5 hnb fun w6 h6=>?_
  simp [errV,g2]
  refine st_fr (f:=(0,0)) (g:=(0,0)) (Lcl.obj.star (Lcl.obj.star (Lcl.obj.star .emp))) (h6.by Imp.fr4) fun w7 h7=>?_
  simp
  refine postL_c2 ag_151 (by simp [g2]) h7.obj rfl rfl ?_
  refine ⟨_,rfl,?_,h7.kp⟩
  rw [he]
  simp [frR,frV,errV]
 | some s' =>
  rw [ha] at he
  simp [frR,frV,←hnb]
  refine st_fr0 (f:=s') hL5 h5 hnb fun w6 h6=>?_
  have rs6:=rd_fr h6.obj
  rw [hnb] at rs6
  simp [g4,rs6]
  refine st_fr (f:=s) (g:=s') (Lcl.obj.star (Lcl.obj.star (Lcl.obj.star .emp))) (h6.by Imp.fr3) fun w7 h7=>?_
  simp [hc,hlm]
  exact ⟨by simp [g2],by simp [g4],by simp [g10],s',frAdd_ok hs hfp ha,he,h7.by (Imp.un (Imp.dr.trans Imp.dr))⟩
def frCmp (a b:Fr):Int:=if a.1 * b.2 < b.1 * a.2 then -1 else if b.1 * a.2 < a.1 * b.2 then 1 else 0
theorem cmp9_spec {w:World} (a b:Fr) (ha:frP a=true) (hb:frP b=true) :
  Calls Tryz.prog 79 [frV a,frV b].toArray w fun e w'=>∃x,e=.returned x∧x=.int .i64 (frCmp a b)∧Kp [] w w':=by
 refine enter Tryz.func79 mixed low79 (Nat.le_of_ble_eq_true rfl) ?_
 simp only [L79]
 have ha':=frP_iff.1 ha
 have hb':=frP_iff.1 hb
 obtain ⟨ab,hab⟩:∃ab,ab=w.heap.size:=⟨_,rfl⟩
 have a1:At w [] (Star (ObjA ab (frO a)) Emp) (w.alloc (frO a)):=by rw [hab]; exact (At.start rfl).alloc _ .emp
 have hL1:Lcl (Star (ObjA ab (frO a)) Emp):=Lcl.obj.star .emp
 have a2:=a1.alloc (frO b) hL1
 have s1:(w.alloc (frO a)).heap.size=ab+1:=by rw [hab]; simp
 rw [s1] at a2
 obtain ⟨w2,hw2⟩:∃w2,w2=(w.alloc (frO a)).alloc (frO b):=⟨_,rfl⟩
 rw [←hw2] at a2
 have hw2':(w.alloc (.cells #[.int .i64 a.1,.int .i64 a.2] 151 (0,0))).alloc (.cells #[.int .i64 b.1,.int .i64 b.2] 151 (0,0))=w2:=by rw [hw2]; rfl
 have hL2:Lcl (Star (ObjA (ab+1) (frO b)) (Star (ObjA ab (frO a)) Emp)):=Lcl.obj.star hL1
 have a3:=a2.drew hL2
 have ra:=rd_fr a3.drop.obj
 have rb:=rd_fr a3.obj
 simp [frV,hw2',←hab,ra,rb]
 have m1:=mul_bd ha'.2.2.1 ha'.2.2.2.1 hb'.1 hb'.2.1
 have m2:=mul_bd hb'.2.2.1 hb'.2.2.2.1 ha'.1 ha'.2.1
 obtain ⟨x,hx⟩:∃x,x=a.1 * b.2:=⟨_,rfl⟩
 obtain ⟨y,hy⟩:∃y,y=b.1 * a.2:=⟨_,rfl⟩
 have hcmp:frCmp a b=if x < y then -1 else if y < x then 1 else 0:=by unfold frCmp; rw [hx,hy]
 rw [←hx] at m1
 rw [←hy] at m2
 refine ⟨?_,?_⟩
 all_goals
  refine cl_of (value_spec a ha) ?_
  rintro _ w4 ⟨rfl,k4⟩
  have a4:=a3.kp0 hL2 k4
  have rb4:=rd_fr a4.obj
  simp [frV,rb4]
  refine cl_of (value_spec b hb) ?_
  rintro _ w5 ⟨rfl,k5⟩
  have a5:=a4.kp0 hL2 k5
  simp [frV]
  refine st_fr (f:=a) (g:=a) (Lcl.obj.star .emp) (a5.by Imp.sw) fun w6 a6=>?_
  simp [frV]
  refine st_fr (f:=b) (g:=b) (Lcl.obj.star .emp) (a6.by Imp.sw) fun w7 a7=>?_
  have oa7:=a7.drop.obj
  unfold frO at oa7
  have ob7:=a7.obj
  unfold frO at ob7
  have hk7:=a7.kp.drew
  by_cases t1:x < y
  ·rw [if_pos t1] at hcmp
   simp (disch:=omega) [cell_blk oa7,cell_blk ob7,←hx,←hy,wrap_i64,t1,hcmp]
   exact hk7
  ·rw [if_neg t1] at hcmp
   by_cases t2:y < x
   ·rw [if_pos t2] at hcmp
    simp (disch:=omega) [cell_blk oa7,cell_blk ob7,←hx,←hy,wrap_i64,t1,t2,hcmp]
    exact hk7
   ·rw [if_neg t2] at hcmp
    simp (disch:=omega) [cell_blk oa7,cell_blk ob7,←hx,←hy,wrap_i64,t1,t2,hcmp]
    exact hk7
def frCeil (f:Fr):Int:=if f.1.tdiv f.2 * f.2 < f.1 then f.1.tdiv f.2+1 else f.1.tdiv f.2
theorem ceil9_spec {w:World} (f:Fr) (hf:frP f=true) :
  Calls Tryz.prog 107 [frV f].toArray w fun e w'=>∃x,e=.returned x∧x=.int .i64 (frCeil f)∧Kp [] w w':=by
 refine enter Tryz.func107 mixed low107 (Nat.le_of_ble_eq_true rfl) ?_
 simp only [L107]
 have hf':=frP_iff.1 hf
 obtain ⟨b,hb⟩:∃b,b=w.heap.size:=⟨_,rfl⟩
 have h1:At w [] (Star (ObjA b (frO f)) Emp) (w.alloc (frO f)):=by rw [hb]; exact (At.start rfl).alloc _ .emp
 obtain ⟨w1,hw1⟩:∃w1,w1=w.alloc (frO f):=⟨_,rfl⟩
 rw [←hw1] at h1
 have hw1':w.alloc (.cells #[.int .i64 f.1,.int .i64 f.2] 151 (0,0))=w1:=by rw [hw1]; rfl
 have hL:Lcl (Star (ObjA b (frO f)) Emp):=Lcl.obj.star .emp
 obtain ⟨d,hd⟩:∃d:Nat,f.2=(d:Int):=⟨f.2.natAbs,by omega⟩
 obtain ⟨q,hq⟩:∃q,q=f.1.tdiv f.2:=⟨_,rfl⟩
 have hq1:q.natAbs≤f.1.natAbs:=by rw [hq,hd]; exact tdiv_le (by omega)
 have hm:=mul_bd (x:=q) (y:=f.2) (by omega) (by omega) hf'.1 hf'.2.1
 obtain ⟨z,hz⟩:∃z,z=q * f.2:=⟨_,rfl⟩
 have hceil:frCeil f=if z < f.1 then q+1 else q:=by unfold frCeil; rw [hz,hq]
 rw [←hz] at hm
 have h0:¬f.2=0:=by omega
 simp [frV,←hb,hw1',rd_fr h1.obj]
 refine cl_of (value_spec f hf) ?_
 rintro _ w2 ⟨rfl,k2⟩
 have h2:=h1.kp0 hL k2
 simp [frV]
 refine st_fr (f:=f) (g:=f) .emp h2 fun w3 h3=>?_
 have o3:=h3.obj
 unfold frO at o3
 have hk3:=h3.kp
 by_cases t1:z < f.1
 ·rw [if_pos t1] at hceil
  simp (disch:=omega) [cell_blk o3,←hq,←hz,wrap_i64,h0,t1,hceil]
  exact hk3
 ·rw [if_neg t1] at hceil
  simp (disch:=omega) [cell_blk o3,←hq,←hz,wrap_i64,h0,t1,hceil]
  exact hk3
def vlR (o:Option Fr):Value:=match o with | some f=>.tuple #[.int .i64 (frCeil f),.nilIface] | none=>.tuple #[.int .i64 0,errV 5]
theorem frSum_ok:∀{l:List Fr} {s f:Fr},frP s=true→(∀x ∈ l,frP x=true)→frSum l s=some f→frP f=true
 | [],s,f,hs,_,h=>by simp only [frSum,Option.some.injEq] at h; subst h; exact hs
 | x :: l,s,f,hs,hl,h=>by
  simp only [frSum] at h
  cases ha:frAdd s x with
  | none=>rw [ha] at h; cases h
  | some s' =>
   rw [ha] at h
   exact frSum_ok (frAdd_ok hs (hl x (by simp)) ha) (fun y hy=>hl y (List.mem_cons_of_mem _ hy)) h
theorem paValue_spec {w:World} (lv:Value) (l:List Fr) (hv:Vw w lv frE l) (hl:l.length≤1000000) (hp:∀f ∈ l,frP f=true) :
  Calls Tryz.prog 45 [lv].toArray w fun e w'=>∃x,e=.returned x∧x=vlR (frSum l (0,1))∧Kp [] w w':=by
 refine enter Tryz.func45 mixed low45 (Nat.le_of_ble_eq_true rfl) ?_
 simp only [L45]
 simp
 refine cl_of (sum9_spec lv l hv hl hp) ?_
 rintro _ w1 ⟨rfl,k1⟩
 have h1:At w [] Emp w1:=At.kp0 .emp (At.start rfl) k1
 obtain ⟨b,hb⟩:∃b,b=w1.heap.size:=⟨_,rfl⟩
 cases hs:frSum l (0,1) with
 | none =>
  simp [frR,frV,←hb]
  refine st_fr0 (f:=(0,0)) .emp h1 hb fun w2 h2=>?_
  simp [errV,vlR]
  exact h2.kp
 | some f =>
  have hfp:=frSum_ok (by decide) hp hs
  simp [frR,frV,←hb]
  refine st_fr0 (f:=f) .emp h1 hb fun w2 h2=>?_
  have r2:=rd_fr h2.obj
  rw [hb] at r2
  simp [r2]
  refine cl_of (ceil9_spec f hfp) ?_
  rintro _ w3 ⟨rfl,k3⟩
  simp [vlR]
  exact h2.kp.trans k3
end Go.Proofs.YtolkjbmcindhjaaGreat
end
section
namespace Go.Sx
def sumN:Nat→(Nat→Rat)→Rat
 | 0,_=>0
 | n+1,f=>sumN n f+f n
theorem sumN_congr {n:Nat} {f g:Nat→Rat} (h:∀i,i < n→f i=g i):sumN n f=sumN n g:=by
 induction n with
 | zero=>rfl
 | succ n ih=>simp only [sumN]; rw [ih fun i hi=>h i (by omega),h n (by omega)]
theorem sumN_zero {n:Nat} {f:Nat→Rat} (h:∀i,i < n→f i=0):sumN n f=0:=by
 induction n with
 | zero=>rfl
 | succ n ih=>simp only [sumN]; rw [ih fun i hi=>h i (by omega),h n (by omega)]; grind
theorem sumN_add {n:Nat} {f g:Nat→Rat}:sumN n (fun i=>f i+g i)=sumN n f+sumN n g:=by
 induction n with
 | zero=>simp only [sumN]; grind
 | succ n ih=>simp only [sumN]; rw [ih]; grind
theorem sumN_mul {n:Nat} {c:Rat} {f:Nat→Rat}:sumN n (fun i=>c * f i)=c * sumN n f:=by
 induction n with
 | zero=>simp only [sumN]; grind
 | succ n ih=>simp only [sumN]; rw [ih]; grind
theorem sumN_lin {n:Nat} {u v x:Nat→Rat} {f:Rat}:sumN n (fun j=>(u j - f * v j) * x j)=sumN n (fun j=>u j * x j) - f * sumN n (fun j=>v j * x j):=by
 induction n with
 | zero=>simp only [sumN]; grind
 | succ n ih=>simp only [sumN]; rw [ih]; grind
theorem sumN_div {n:Nat} {v x:Nat→Rat} {p:Rat}:sumN n (fun j=>(v j / p) * x j)=sumN n (fun j=>v j * x j) / p:=by
 induction n with
 | zero=>simp only [sumN]; grind
 | succ n ih=>simp only [sumN]; rw [ih]; grind
theorem sumN_one {n k:Nat} {f:Nat→Rat} (hk:k < n) (h:∀i,i < n→i≠k→f i=0):sumN n f=f k:=by
 induction n with
 | zero=>omega
 | succ n ih =>
  simp only [sumN]
  by_cases e:k=n
  ·subst e
   rw [sumN_zero fun i hi=>h i (by omega) (by omega)]
   grind
  ·rw [ih (by omega) fun i hi=>h i (by omega),h n (by omega) (by omega)]
   grind
theorem sumN_swap {n m:Nat} {f:Nat→Nat→Rat}:sumN n (fun i=>sumN m fun j=>f i j)=sumN m fun j=>sumN n fun i=>f i j:=by
 induction n with
 | zero=>simp only [sumN]; rw [sumN_zero fun _ _=>rfl]
 | succ n ih=>simp only [sumN]; rw [ih,←sumN_add]
theorem sumN_le {n:Nat} {f g:Nat→Rat} (h:∀i,i < n→f i≤g i):sumN n f≤sumN n g:=by
 induction n with
 | zero=>simp only [sumN]; grind
 | succ n ih=>simp only [sumN]; have h1:=ih fun i hi=>h i (by omega); have h2:=h n (by omega); grind
theorem sumN_neg {n:Nat} {f:Nat→Rat} (h:sumN n f < 0):∃i,i < n∧f i < 0:=by
 induction n with
 | zero=>simp only [sumN] at h; grind
 | succ n ih =>
  simp only [sumN] at h
  by_cases h1:f n < 0
  ·exact ⟨n,by omega,h1⟩
  ·obtain ⟨i,hi,h2⟩:=ih (by grind)
   exact ⟨i,by omega,h2⟩
structure Tb where
 a:Nat→Nat→Rat
 b:Nat→Rat
 s:Nat→Nat
 c:Nat→Rat
 z:Rat
def Tb.piv (T:Tb) (r k:Nat):Tb where
 a i j:=if i=r then T.a r j / T.a r k else T.a i j - T.a i k * (T.a r j / T.a r k)
 b i:=if i=r then T.b r / T.a r k else T.b i - T.a i k * (T.b r / T.a r k)
 s i:=if i=r then k else T.s i
 c j:=T.c j - T.c k * (T.a r j / T.a r k)
 z:=T.z+T.c k * (T.b r / T.a r k)
def Sol (m N:Nat) (T:Tb) (x:Nat→Rat):Prop:=∀i,i < m→sumN N (fun j=>T.a i j * x j)=T.b i
def obj (N:Nat) (T:Tb) (x:Nat→Rat):Rat:=T.z+sumN N fun j=>T.c j * x j
theorem piv_sol {m N:Nat} {T:Tb} {r k:Nat} {x:Nat→Rat} (hr:r < m) (hp:T.a r k≠0):Sol m N (T.piv r k) x↔Sol m N T x:=by
 have e1:sumN N (fun j=>(T.piv r k).a r j * x j)=sumN N (fun j=>T.a r j * x j) / T.a r k:=by
  rw [←sumN_div]
  exact sumN_congr fun j _=>by simp [Tb.piv]
 have e2:∀i,i≠r→sumN N (fun j=>(T.piv r k).a i j * x j)=sumN N (fun j=>T.a i j * x j) - T.a i k * (sumN N (fun j=>T.a r j * x j) / T.a r k):=fun i hi=>by
  rw [←sumN_div,←sumN_lin]
  exact sumN_congr fun j _=>by simp [Tb.piv,hi]
 have b1:(T.piv r k).b r=T.b r / T.a r k:=by simp [Tb.piv]
 have b2:∀i,i≠r→(T.piv r k).b i=T.b i - T.a i k * (T.b r / T.a r k):=fun i hi=>by simp [Tb.piv,hi]
 constructor
 ·intro h
  have h0:=h r hr
  rw [e1,b1] at h0
  have h1:sumN N (fun j=>T.a r j * x j)=T.b r:=by grind
  intro i hi
  by_cases e:i=r
  ·rw [e]; exact h1
  ·have h2:=h i hi
   rw [e2 i e,b2 i e,h1] at h2
   grind
 ·intro h i hi
  have h1:=h r hr
  by_cases e:i=r
  ·rw [e,e1,b1,h1]
  ·rw [e2 i e,b2 i e,h1,h i hi]
theorem piv_obj {m N:Nat} {T:Tb} {r k:Nat} {x:Nat→Rat} (hr:r < m) (h:Sol m N T x):obj N (T.piv r k) x=obj N T x:=by
 have e:sumN N (fun j=>(T.piv r k).c j * x j)=sumN N (fun j=>T.c j * x j) - T.c k * (sumN N (fun j=>T.a r j * x j) / T.a r k):=by
  rw [←sumN_div,←sumN_lin]
  exact sumN_congr fun j _=>by simp [Tb.piv]
 unfold obj
 rw [e,h r hr]
 simp only [Tb.piv]
 grind
structure Can (m N:Nat) (T:Tb):Prop where
 sb:∀i,i < m→T.s i < N
 un:∀i i',i < m→i' < m→T.a i (T.s i')=if i=i' then 1 else 0
 cz:∀i,i < m→T.c (T.s i)=0
 nn:∀i,i < m→0≤T.b i
theorem Can.inj {m N:Nat} {T:Tb} (h:Can m N T) {i i':Nat} (hi:i < m) (hi':i' < m) (e:T.s i=T.s i'):i=i':=by
 have h1:=h.un i i' hi hi'
 have h2:=h.un i i hi hi
 rw [e] at h2
 rw [h1] at h2
 by_cases hh:i=i'
 ·exact hh
 ·simp [hh] at h2
structure Bl (m N:Nat) (T:Tb) (r k:Nat):Prop where
 kN:k < N
 ck:0 < T.c k
 cj:∀j,j < k→T.c j≤0
 rm:r < m
 pr:0 < T.a r k
 le:∀i,i < m→0 < T.a i k→T.b r / T.a r k < T.b i / T.a i k∨T.b r / T.a r k=T.b i / T.a i k∧T.s r≤T.s i
theorem div_nn {a b:Rat} (ha:0≤a) (hb:0 < b):0≤a / b:=by
 rw [Rat.div_def]
 exact Rat.mul_nonneg ha (Rat.le_of_lt (Rat.inv_pos.2 hb))
theorem Bl.ratio {m N:Nat} {T:Tb} {r k:Nat} (h:Bl m N T r k) (hc:Can m N T) {i:Nat} (hi:i < m):0≤T.b i - T.a i k * (T.b r / T.a r k):=by
 have q:=div_nn (hc.nn r h.rm) h.pr
 by_cases h0:0 < T.a i k
 ·have h1:T.b r / T.a r k≤T.b i / T.a i k:=by
   rcases h.le i hi h0 with h | ⟨h,_⟩
   ·exact Rat.le_of_lt h
   ·exact h ▸ Rat.le_refl
  have h2:=Rat.mul_le_mul_of_nonneg_left h1 (Rat.le_of_lt h0)
  have h3:T.a i k * (T.b i / T.a i k)=T.b i:=by grind
  grind
 ·have h1:=hc.nn i hi
  have h2:0≤(- T.a i k) * (T.b r / T.a r k):=Rat.mul_nonneg (by grind) q
  grind
theorem Bl.nb {m N:Nat} {T:Tb} {r k:Nat} (h:Bl m N T r k) (hc:Can m N T) {i:Nat} (hi:i < m):T.s i≠k:=fun e=>by
 have h1:=hc.cz i hi
 have h2:=h.ck
 rw [e] at h1
 grind
theorem Bl.can {m N:Nat} {T:Tb} {r k:Nat} (h:Bl m N T r k) (hc:Can m N T):Can m N (T.piv r k):=by
 have hp:=h.pr
 have hr:=h.rm
 refine ⟨fun i hi=>?_,fun i i' hi hi'=>?_,fun i hi=>?_,fun i hi=>?_⟩
 ·by_cases e:i=r
  ·simp [Tb.piv,e]; exact h.kN
  ·simp [Tb.piv,e]; exact hc.sb i hi
 ·by_cases e':i'=r
  ·subst e'
   by_cases e:i=i'
   ·simp [Tb.piv,e]; grind
   ·simp [Tb.piv,e]; grind
  ·have u1:=hc.un r i' hr hi'
   have u2:=hc.un i i' hi hi'
   rw [if_neg (fun h=>e' h.symm)] at u1
   by_cases e:i=r
   ·subst e
    simp only [Tb.piv,if_pos,if_neg e']
    rw [u1,if_neg (fun h=>e' h.symm)]
    grind
   ·simp only [Tb.piv,if_neg e,if_neg e']
    rw [u1,u2]
    grind
 ·by_cases e:i=r
  ·simp only [Tb.piv,if_pos e]; grind
  ·simp only [Tb.piv,if_neg e]
   have u1:=hc.un r i hr hi
   rw [if_neg (fun h=>e h.symm)] at u1
   rw [u1,hc.cz i hi]
   grind
 ·by_cases e:i=r
  ·simp only [Tb.piv,if_pos e]
   exact div_nn (hc.nn r hr) hp
  ·simp only [Tb.piv,if_neg e]
   exact h.ratio hc hi
theorem Bl.z_le {m N:Nat} {T:Tb} {r k:Nat} (h:Bl m N T r k) (hc:Can m N T):T.z≤(T.piv r k).z:=by
 have:=Rat.mul_nonneg (Rat.le_of_lt h.ck) (div_nn (hc.nn r h.rm) h.pr)
 simp only [Tb.piv]
 grind
theorem Bl.z_eq {m N:Nat} {T:Tb} {r k:Nat} (h:Bl m N T r k) (e:(T.piv r k).z=T.z):T.b r=0:=by
 simp only [Tb.piv] at e
 have h1:=h.ck
 have h2:=h.pr
 have h3:T.c k * (T.b r / T.a r k)=0:=by grind
 have h4:T.c k≠0:=by grind
 have h5:T.a r k≠0:=by grind
 grind
def xL (m:Nat) (T:Tb) (k:Nat) (l:Rat) (j:Nat):Rat:=(if j=k then l else 0)+sumN m fun i=>if T.s i=j then T.b i - l * T.a i k else 0
theorem xL_sum {m N:Nat} {T:Tb} {k:Nat} {l:Rat} {f:Nat→Rat} (hc:Can m N T) (hk:k < N):sumN N (fun j=>f j * xL m T k l j)=f k * l+sumN m fun i=>f (T.s i) * (T.b i - l * T.a i k):=by
 have e1:sumN N (fun j=>f j * xL m T k l j)=sumN N (fun j=>f j * (if j=k then l else 0)+sumN m fun i=>f j * (if T.s i=j then T.b i - l * T.a i k else 0)):=by
  refine sumN_congr fun j _=>?_
  unfold xL
  rw [sumN_mul]
  grind
 rw [e1,sumN_add,sumN_swap]
 rw [sumN_one hk (fun i _ hi=>by simp [hi])]
 simp only [if_pos]
 congr 1
 refine sumN_congr fun i hi=>?_
 rw [sumN_one (hc.sb i hi) (fun j _ hj=>by simp [Ne.symm hj])]
 simp
theorem xL_sol {m N:Nat} {T:Tb} {k:Nat} {l:Rat} (hc:Can m N T) (hk:k < N):Sol m N T (xL m T k l):=fun i hi=>by
 rw [xL_sum hc hk,sumN_one hi (fun i' hi' hne=>by rw [hc.un i i' hi hi',if_neg (Ne.symm hne)]; grind),hc.un i i hi hi]
 simp
 grind
theorem xL_obj {m N:Nat} {T:Tb} {k:Nat} {l:Rat} (hc:Can m N T) (hk:k < N):obj N T (xL m T k l)=T.z+T.c k * l:=by
 unfold obj
 rw [xL_sum hc hk,sumN_zero fun i hi=>by rw [hc.cz i hi]; grind]
 grind
structure Way (m N:Nat) (T:Nat→Tb) (r k:Nat→Nat) (t:Nat):Prop where
 c0:Can m N (T 0)
 st:∀n,n < t→Bl m N (T n) (r n) (k n)∧T (n+1)=(T n).piv (r n) (k n)
section
variable {m N t:Nat} {T:Nat→Tb} {r k:Nat→Nat}
theorem Way.can (h:Way m N T r k t):∀n,n≤t→Can m N (T n)
 | 0,_=>h.c0
 | n+1,hn=>by
  have ⟨h1,h2⟩:=h.st n (by omega)
  rw [h2]
  exact h1.can (h.can n (by omega))
theorem Way.sol (h:Way m N T r k t) (x:Nat→Rat):∀n,n≤t→(Sol m N (T n) x↔Sol m N (T 0) x)
 | 0,_=>Iff.rfl
 | n+1,hn=>by
  have ⟨h1,h2⟩:=h.st n (by omega)
  have:=h1.pr
  rw [h2,piv_sol h1.rm (by grind)]
  exact h.sol x n (by omega)
theorem Way.obj (h:Way m N T r k t) {x:Nat→Rat} (hx:Sol m N (T 0) x):∀n,n≤t→obj N (T n) x=obj N (T 0) x
 | 0,_=>rfl
 | n+1,hn=>by
  have ⟨h1,h2⟩:=h.st n (by omega)
  rw [h2,piv_obj h1.rm ((h.sol x n (by omega)).2 hx)]
  exact h.obj hx n (by omega)
def InB (m:Nat) (T:Tb) (j:Nat):Prop:=∃i,i < m∧T.s i=j
theorem Way.stay (h:Way m N T r k t) {n:Nat} (hn:n < t) {j:Nat} (h1:InB m (T n) j) (h2:¬InB m (T (n+1)) j):j=(T n).s (r n):=by
 obtain ⟨i,hi,rfl⟩:=h1
 have ⟨hb,e⟩:=h.st n hn
 by_cases hr:i=r n
 ·rw [hr]
 ·exact absurd ⟨i,hi,by rw [e]; simp [Tb.piv,hr]⟩ h2
theorem Way.come (h:Way m N T r k t) {n:Nat} (hn:n < t) {j:Nat} (h1:¬InB m (T n) j) (h2:InB m (T (n+1)) j):j=k n:=by
 obtain ⟨i,hi,rfl⟩:=h2
 have ⟨hb,e⟩:=h.st n hn
 by_cases hr:i=r n
 ·rw [e]; simp [Tb.piv,hr]
 ·refine absurd ⟨i,hi,?_⟩ h1
  rw [e]; simp [Tb.piv,hr]
theorem Way.enter (h:Way m N T r k t) {j:Nat} {p:Nat} (h1:¬InB m (T p) j):∀q,p≤q→q≤t→InB m (T q) j→∃n,p≤n∧n < q∧k n=j
 | 0,hpq,_,h2=>by
  have:p=0:=by omega
  subst this
  exact absurd h2 h1
 | q+1,hpq,hq,h2=>by
  by_cases e:p=q+1
  ·subst e; exact absurd h2 h1
  by_cases h3:InB m (T q) j
  ·obtain ⟨n,a,b,c⟩:=h.enter h1 q (by omega) (by omega) h3
   exact ⟨n,a,by omega,c⟩
  ·exact ⟨q,by omega,by omega,(h.come (by omega) h3 h2).symm⟩
theorem Way.leave (h:Way m N T r k t) {j:Nat} {p:Nat} (h1:InB m (T p) j):∀q,p≤q→q≤t→¬InB m (T q) j→∃n,p≤n∧n < q∧(T n).s (r n)=j
 | 0,hpq,_,h2=>by
  have:p=0:=by omega
  subst this
  exact absurd h1 h2
 | q+1,hpq,hq,h2=>by
  by_cases e:p=q+1
  ·subst e; exact absurd h1 h2
  by_cases h3:InB m (T q) j
  ·exact ⟨q,by omega,by omega,(h.stay (by omega) h3 h2).symm⟩
  ·obtain ⟨n,a,b,c⟩:=h.leave h1 q (by omega) (by omega) h3
   exact ⟨n,a,by omega,c⟩
theorem Way.z_le (h:Way m N T r k t) {p:Nat}:∀q,p≤q→q≤t→(T p).z≤(T q).z
 | 0,hpq,_=>by
  have:p=0:=by omega
  subst this
  exact Rat.le_refl
 | q+1,hpq,hq=>by
  by_cases e:p=q+1
  ·subst e; exact Rat.le_refl
  have ⟨h1,h2⟩:=h.st q (by omega)
  rw [h2]
  exact Rat.le_trans (h.z_le q (by omega) (by omega)) (h1.z_le (h.can q (by omega)))
theorem Way.z_eq (h:Way m N T r k t) {p q:Nat} (hp:p≤t) (hq:q≤t) (hN:0 < N) (hB:∀j,InB m (T p) j↔InB m (T q) j):(T p).z=(T q).z:=by
 have cp:=h.can p hp
 have cq:=h.can q hq
 have s0:=(h.sol _ q hq).1 (xL_sol (k:=0) (l:=0) cq hN)
 have o1:=h.obj s0 p hp
 have o2:=h.obj s0 q hq
 rw [xL_obj cq hN] at o2
 have o3:Sx.obj N (T p) (xL m (T q) 0 0)=(T p).z:=by
  unfold Sx.obj
  rw [xL_sum cq hN,sumN_zero fun i hi=>?_]
  ·grind
  ·obtain ⟨i',hi',e⟩:=(hB ((T q).s i)).2 ⟨i,hi,rfl⟩
   rw [←e,cp.cz i' hi']
   grind
 rw [o3] at o1
 rw [o1,←o2]
 grind
def Zr (m:Nat) (T:Tb) (v:Nat):Prop:=∀i,i < m→T.s i=v→T.b i=0
theorem Way.zr_step (h:Way m N T r k t) {n v:Nat} (hn:n < t) (hz:(T n).b (r n)=0):Zr m (T n) v↔Zr m (T (n+1)) v:=by
 have ⟨hb,e⟩:=h.st n hn
 have z0:(T n).b (r n) / (T n).a (r n) (k n)=0:=by rw [hz]; grind
 constructor
 ·intro hv i hi hs
  rw [e] at hs ⊢
  by_cases hr:i=r n
  ·simp only [Tb.piv,if_pos hr]; exact z0
  ·simp only [Tb.piv,if_neg hr] at hs ⊢
   rw [hv i hi hs,z0]; grind
 ·intro hv i hi hs
  by_cases hr:i=r n
  ·rw [hr]; exact hz
  ·have h1:=hv i hi (by rw [e]; simp only [Tb.piv,if_neg hr]; exact hs)
   rw [e] at h1
   simp only [Tb.piv,if_neg hr] at h1
   rw [z0] at h1
   grind
theorem Way.zr (h:Way m N T r k t) {p q v:Nat} (hq:q≤t) (hz:∀n,p≤n→n < q→(T n).b (r n)=0):∀n,p≤n→n≤q→(Zr m (T p) v↔Zr m (T n) v)
 | 0,h1,_=>by
  have:p=0:=by omega
  subst this
  exact Iff.rfl
 | n+1,h1,h2=>by
  by_cases e:p=n+1
  ·subst e; exact Iff.rfl
  exact (h.zr hq hz n (by omega) (by omega)).trans (h.zr_step (by omega) (hz n (by omega) (by omega)))
theorem max_ex {P:Nat→Prop}:∀(B:Nat),(∃v,P v)→(∀v,P v→v < B)→∃v,P v∧∀u,P u→u≤v
 | 0,⟨v,hv⟩,hB=>absurd (hB v hv) (by omega)
 | B+1,hex,hB=>by
  by_cases h:P B
  ·exact ⟨B,h,fun u hu=>by have:=hB u hu; omega⟩
  ·exact max_ex B hex fun v hv=>by
    have h1:=hB v hv
    by_cases e:v=B
    ·subst e; exact absurd hv h
    ·omega
theorem Way.once (h:Way m N T r k t) {p q:Nat} (hpq:p < q) (hq:q≤t) (hB:∀j,InB m (T p) j↔InB m (T q) j):False:=by
 have hN:0 < N:=by have:=(h.st p (by omega)).1.kN; omega
 have hz0:=h.z_eq (by omega) hq hN hB
 have hz:∀n,p≤n→n < q→(T n).b (r n)=0:=fun n h1 h2=>by
  have ⟨hb,e⟩:=h.st n (by omega)
  refine hb.z_eq ?_
  rw [←e]
  have a1:=h.z_le n h1 (by omega)
  have a2:=h.z_le q (show n+1≤q by omega) hq
  have a3:=hb.z_le (h.can n (by omega))
  rw [←e] at a3
  grind
 have back:∀v n1 n2,p≤n1→n1≤q→p≤n2→n2≤q→¬InB m (T n1) v→InB m (T n2) v→∃n,p≤n∧n < q∧k n=v:=fun v n1 n2 a1 a2 a3 a4 b1 b2=>by
  by_cases e:n1≤n2
  ·obtain ⟨n,c1,c2,c3⟩:=h.enter b1 n2 e (by omega) b2
   exact ⟨n,by omega,by omega,c3⟩
  ·by_cases f:InB m (T q) v
   ·obtain ⟨n,c1,c2,c3⟩:=h.enter b1 q a2 hq f
    exact ⟨n,by omega,by omega,c3⟩
   ·obtain ⟨n,c1,c2,c3⟩:=h.enter (fun g=>f ((hB v).1 g)) n2 a3 (by omega) b2
    exact ⟨n,by omega,by omega,c3⟩
 obtain ⟨v,⟨q0,hq1,hq2,hv⟩,hmax⟩:=max_ex (P:=fun v=>∃n,p≤n∧n < q∧k n=v) N ⟨k p,p,by omega,hpq,rfl⟩ (fun v ⟨n,a,b,c⟩=>by rw [←c]; exact (h.st n (by omega)).1.kN)
 have hbq:=(h.st q0 (by omega)).1
 have hcq:=h.can q0 (by omega)
 have nq0:¬InB m (T q0) v:=fun ⟨i,hi,e⟩=>hbq.nb hcq hi (by rw [e,hv])
 obtain ⟨p0,hp1,hp2,hl⟩:∃p0,p≤p0∧p0 < q∧(T p0).s (r p0)=v:=by
  by_cases f:InB m (T p) v
  ·obtain ⟨n,c1,c2,c3⟩:=h.leave f q0 hq1 (by omega) nq0
   exact ⟨n,c1,by omega,c3⟩
  ·have g:InB m (T (q0+1)) v:=⟨r q0,hbq.rm,by rw [(h.st q0 (by omega)).2]; simp [Tb.piv,hv]⟩
   obtain ⟨n,c1,c2,c3⟩:=h.leave g q (by omega) hq (fun x=>f ((hB v).2 x))
   exact ⟨n,by omega,c2,c3⟩
 have hbp:=(h.st p0 (by omega)).1
 have hcp:=h.can p0 (by omega)
 have hsle:k p0≤v:=hmax _ ⟨p0,hp1,hp2,rfl⟩
 have hsne:k p0≠v:=fun e=>hbp.nb hcp hbp.rm (by rw [hl,e])
 have cs:(T q0).c (k p0)≤0:=hbq.cj _ (by rw [hv]; omega)
 have cv:0 < (T q0).c v:=by have:=hbq.ck; rw [hv] at this; exact this
 have o:∀l:Rat,(T p0).z+(T p0).c (k p0) * l=(T q0).z+((T q0).c (k p0) * l+sumN m fun i=>(T q0).c ((T p0).s i) * ((T p0).b i - l * (T p0).a i (k p0))):=fun l=>by
  have s0:=(h.sol _ p0 (by omega)).1 (xL_sol (k:=k p0) (l:=l) hcp hbp.kN)
  rw [←xL_obj hcp hbp.kN,h.obj s0 p0 (by omega),←h.obj s0 q0 (by omega)]
  unfold Sx.obj
  rw [xL_sum hcp hbp.kN]
 have o0:=o 0
 have o1:=o 1
 have e0:(sumN m fun i=>(T q0).c ((T p0).s i) * ((T p0).b i - 0 * (T p0).a i (k p0)))=sumN m fun i=>(T q0).c ((T p0).s i) * (T p0).b i:=sumN_congr fun i _=>by grind
 have e1:(sumN m fun i=>(T q0).c ((T p0).s i) * ((T p0).b i - 1 * (T p0).a i (k p0)))=(sumN m fun i=>(T q0).c ((T p0).s i) * (T p0).b i)+(-1) * sumN m fun i=>(T q0).c ((T p0).s i) * (T p0).a i (k p0):=by
  rw [←sumN_mul,←sumN_add]
  exact sumN_congr fun i _=>by grind
 rw [e0] at o0
 rw [e1] at o1
 have hck:=hbp.ck
 have hneg:(sumN m fun i=>(T q0).c ((T p0).s i) * (T p0).a i (k p0)) < 0:=by grind
 obtain ⟨i,hi,hlt⟩:=sumN_neg hneg
 have hne:i≠r p0:=fun e=>by
  rw [e,hl] at hlt
  have:=Rat.mul_pos cv hbp.pr
  grind
 have hnb:¬InB m (T q0) ((T p0).s i):=fun ⟨i',hi',e⟩=>by
  rw [←e,hcq.cz i' hi'] at hlt
  grind
 have hfk:=back _ q0 p0 hq1 (by omega) hp1 (by omega) hnb ⟨i,hi,rfl⟩
 have hle:(T p0).s i≤v:=hmax _ hfk
 have hnv:(T p0).s i≠v:=fun e=>hne (hcp.inj hi hbp.rm (by rw [e,hl]))
 have hcn:(T q0).c ((T p0).s i)≤0:=hbq.cj _ (by rw [hv]; omega)
 have hap:0 < (T p0).a i (k p0):=by
  by_cases g:0 < (T p0).a i (k p0)
  ·exact g
  ·have:=Rat.mul_nonneg (show 0≤- (T q0).c ((T p0).s i) by grind) (show 0≤- (T p0).a i (k p0) by grind)
   grind
 have hzr:(T p0).b i=0:=by
  have z1:Zr m (T q0) ((T p0).s i):=fun i' hi' e=>absurd ⟨i',hi',e⟩ hnb
  have z2:=(h.zr (v:=(T p0).s i) hq hz q0 hq1 (by omega)).2 z1
  exact (h.zr (v:=(T p0).s i) hq hz p0 hp1 (by omega)).1 z2 i hi rfl
 rcases hbp.le i hi hap with h1 | ⟨_,h1⟩
 ·rw [hz p0 hp1 hp2,hzr] at h1
  have z1:(0:Rat) / (T p0).a (r p0) (k p0)=0:=by grind
  have z2:(0:Rat) / (T p0).a i (k p0)=0:=by grind
  rw [z1,z2] at h1
  exact absurd h1 (by grind)
 ·rw [hl] at h1
  omega
end
end Go.Sx
end
