/-
  A part of the proof of this claim's statement (RxW9, RxWC, RxXA, RxXB, RxFx, RxXF, RxXG, RxXH, RxXI, RxXJ, SyRel, BdW1, BdW2): plain theorems; no conditions beyond those each names.
-/
import Derived.Test.YtkhfdmelcpfgoaaGreatPk12
import Derived.Test.YtkhfdmelcpfgoaaGreatPk02
import Derived.Test.YtkhfdmelcpfgoaaGreatPk09
import Derived.Test.YtkhfdmelcpfgoaaGreatPk08
import Derived.Test.YtkhfdmelcpfgoaaGreatPk01
section
set_option maxRecDepth 100000
set_option linter.unusedSimpArgs false
set_option linter.unusedVariables false
namespace Go.Proofs.YtkhfdmelcpfgoaaGreat
open Go Go.W Go.Tk Go.Rx Go.Maps
def grF (vars:List Nat) (V:Nat→Nat) (l:List Fc):Nat:=gr V (l.map (numF vars))
theorem take_snoc {α:Type} {l:List α} {k:Nat} {x:α} (h:l[k]?=some x):l.take (k+1)=l.take k ++ [x]:=by
 rw [List.take_add_one,h]; rfl
section
variable {w:World} {b:Nat} {vars:List Nat} {goal:List Fc} {U:List Un} {vv gv fv uv nd fr:Value} {rs:List Ru} {ps:List (Cell1 × List Nat)}
end
end Go.Proofs.YtkhfdmelcpfgoaaGreat
end
section
set_option maxRecDepth 100000
set_option linter.unusedSimpArgs false
set_option linter.unusedVariables false
namespace Go.Proofs.YtkhfdmelcpfgoaaGreat
open Go Go.W Go.Tk Go.Rx Go.Maps
theorem nat_append {w w1:World} {F:List Nat} {B:Asr} {ov:Value} {l:List Nat} {x:Nat} {KV:Kont (Value × World)} (hB:Lcl B) (h:At w F (Star (OwnA ov 3 1 nE l) B) w1) (hl:l.length≤1000000)
  (H:∀ v' w2,At w F (Star (OwnA v' 3 1 nE (l ++ [x])) B) w2→KV.run (v',w2)) :
  @efH Tryz.prog (Builtin.append_ #[22,22] 22 [ov,.slice (some ⟨w1.heap.size,0,none⟩) 1 1].toArray) (w1.alloc (.cells #[.int .i64 (x:Nat)] 3)) KV:=by
 have h4:=h.kp0 (Lcl.own.star hB) ((Kp.refl [] w1).alloc (.cells #[.int .i64 (x:Nat)] 3))
 refine At.append (xs:=[x]) hB h4 nE_len nE_one sl_22 rfl (fun j u hj=>?_) (by omega) (by unfold maxLen; omega) fun v' w5 h5=>H v' w5 h5
 simp [nE] at hj
 rw [add_none,cell_blk alloc_new]
 simpa using hj
section
variable {w:World} {b:Nat} {vars:List Nat} {goal:List Fc} {U:List Un} {vv gv fv uv nd fr:Value} {rs:List Ru} {ps:List (Cell1 × List Nat)}
end
end Go.Proofs.YtkhfdmelcpfgoaaGreat
end
section
set_option maxRecDepth 100000
set_option linter.unusedSimpArgs false
set_option linter.unusedVariables false
namespace Go.Proofs.YtkhfdmelcpfgoaaGreat
open Go Go.W Go.Tk Go.Rx Go.Maps
theorem ints_spec {w:World} (u v:Value) (xs ys:List Int) (hu:Vw w u iE xs) (hv:Vw w v iE ys) (hx:xs.length≤1000000) (hy:ys.length≤1000000) :
  Calls Tryz.prog 13 [u,v].toArray w fun e w'=>∃ x,e=.returned x∧x=.bool (decide (xs=ys))∧Kp [] w w':=by
 refine enter Tryz.func13 mixed low13 (Nat.le_of_ble_eq_true rfl) ?_
 simp only [L13]
 by_cases hl:xs.length=ys.length
 case neg =>
  have hne:((xs.length:Int) != ys.length)=true:=by simp; omega
  have:¬ xs=ys:=fun e=>hl (by rw [e])
  simp [hu.len,hv.len,hne,this]
  exact Kp.refl _ _
 have hne:((xs.length:Int) != ys.length)=false:=by simp; omega
 simp [hu.len,hv.len,hne]
 refine range_loop (n:=xs.length) (by omega) (fun k ρ w'=>ρ 0=u∧ρ 1=v∧xs.take k=ys.take k∧Kp [] w w') (by simp) (by simp)
  ⟨by simp,by simp,by simp,Kp.refl _ _⟩ (by decide) (fun _ _ _ _ h=>by simpa using h) (fun _ _ _ _ h=>by simpa using h) ?_ ?_
 ·rintro k ρ w4 hk hc hlim ⟨g0,g1,ht,k4⟩
  have hu4:=hu.kp0 k4
  have hv4:=hv.kp0 k4
  obtain ⟨a,ha⟩:∃ a,xs[k]?=some a:=⟨_,List.getElem?_eq_getElem hk⟩
  obtain ⟨b,hb⟩:∃ b,ys[k]?=some b:=⟨_,List.getElem?_eq_getElem (by omega)⟩
  simp (disch:=omega) [g0,g1,hc,hlim,hu4.idx,hv4.idx,iE_cell hu4 ha,iE_cell hv4 hb]
  by_cases hab:a=b
  ·subst hab
   simp [g0,g1,hc,hlim]
   refine ⟨?_,k4.drew⟩
   rw [List.take_add_one,List.take_add_one,ht,ha,hb]
  ·have:¬ xs=ys:=fun e=>hab (by rw [e,hb] at ha; exact (Option.some.inj ha).symm)
   have hn':(a != b)=true:=by simp [hab]
   rw [hn']
   simp [this]
   exact k4.drew
 ·rintro ρ w4 ⟨g0,g1,ht,k4⟩
  have:xs=ys:=by rw [List.take_of_length_le (Nat.le_refl _),List.take_of_length_le (by omega)] at ht; exact ht
  simp [this]
  exact k4
def ntO (T:Nt):Obj:=.cells #[T.vv.1,T.nv.1,T.gv.1,T.ov.1] 26 (0,0)
def ntV (T:Nt):Value:=.agg #[T.vv.1,T.nv.1,T.gv.1,T.ov.1]
def noV (o:No):Value:=.agg #[.string o.name,.int .i64 (o.cost:Nat),o.pv.1,o.ev.1]
end Go.Proofs.YtkhfdmelcpfgoaaGreat
end
section
set_option maxRecDepth 100000
set_option linter.unusedSimpArgs false
set_option linter.unusedVariables false
namespace Go.Proofs.YtkhfdmelcpfgoaaGreat
open Go Go.W Go.Tk Go.Rx Go.Maps
section
variable {α:Type} {enc:α→List Value} {E sz:Nat} {B:Asr} {w w1:World} {F:List Nat}
end
def FcRng (vars:List Nat) (l:List Fc):Prop:=∀ f ∈ l,f.1 < vars.length∧f.2 < vars.getD f.1 0
end Go.Proofs.YtkhfdmelcpfgoaaGreat
end
section
set_option linter.unusedVariables false
set_option linter.unusedSimpArgs false
namespace Go.Rx
open Go.Tk Go.W Go
def Clo (A:List Un) (V:Nat→Nat):Prop:=∀ u ∈ A,gr V u.needs < Inf→V u.makes≤gr V u.needs+u.cost
section
variable {A A':List Un} {S:List Nat} {V:Nat→Nat} {u:Un} {N f x:Nat}
end
end Go.Rx
end
section
set_option maxRecDepth 100000
set_option linter.unusedSimpArgs false
set_option linter.unusedVariables false
namespace Go.Proofs.YtkhfdmelcpfgoaaGreat
open Go Go.W Go.Tk Go.Rx Go.Maps
theorem fc_append {w w1:World} {F:List Nat} {B:Asr} {ov:Value} {l:List Fc} {x:Fc} {KV:Kont (Value × World)} (hB:Lcl B) (h:At w F (Star (OwnA ov 92 2 fcE l) B) w1) (hl:l.length≤1000000)
  (H:∀ v' w2,At w F (Star (OwnA v' 92 2 fcE (l ++ [x])) B) w2→KV.run (v',w2)) :
  @efH Tryz.prog (Builtin.append_ #[23,23] 23 [ov,.slice (some ⟨w1.heap.size,0,none⟩) 1 1].toArray) (w1.alloc (.cells #[.int .i64 (x.1:Nat),.int .i64 (x.2:Nat)] 92)) KV:=by
 have h4:=h.kp0 (Lcl.own.star hB) ((Kp.refl [] w1).alloc (.cells #[.int .i64 (x.1:Nat),.int .i64 (x.2:Nat)] 92))
 refine At.append (xs:=[x]) hB h4 fcE_len fcE_one sl_23 rfl (fun j u hj=>?_) (by omega) (by unfold maxLen; omega) fun v' w5 h5=>H v' w5 h5
 simp [fcE] at hj
 rw [add_none,cell_blk alloc_new]
 simpa using hj
end Go.Proofs.YtkhfdmelcpfgoaaGreat
end
section
set_option maxRecDepth 100000
set_option linter.unusedSimpArgs false
set_option linter.unusedVariables false
namespace Go.Proofs.YtkhfdmelcpfgoaaGreat
open Go Go.W Go.Tk Go.Rx Go.Maps
def hdB (s:List Nat) (l:List Fc):Bool:=l.all fun f=>decide (s.getD f.1 0=f.2)
theorem hdB_succ {s:List Nat} {l:List Fc} {z:Nat} {f:Fc} (h:l[z]?=some f):hdB s (l.take (z+1))=(hdB s (l.take z) && decide (s.getD f.1 0=f.2)):=by
 unfold hdB; rw [take_snoc h,List.all_append]; simp
theorem holds_spec {w:World} (fv sv:Value) (l:List Fc) (s:List Nat) (hf:Vw w fv fcE l) (hs:Vw w sv nE s) (hl:l.length≤1000000) (hr:∀ f ∈ l,f.1 < s.length) :
  Calls Tryz.prog 26 [fv,sv].toArray w fun e w'=>∃ x,e=.returned x∧x=.bool (hdB s l)∧Kp [] w w':=by
 refine enter Tryz.func26 mixed low26 (Nat.le_of_ble_eq_true rfl) ?_
 simp only [L26]
 simp [hf.len]
 refine range_loop (n:=l.length) (by omega) (fun k ρ w'=>ρ 1=sv∧ρ 7=fv∧hdB s (l.take k)=true∧Kp [] w w') (by simp) (by simp)
  ⟨by simp,by simp,by simp [hdB],Kp.refl _ _⟩ (by decide) (fun _ _ _ _ h=>by simpa using h) (fun _ _ _ _ h=>by simpa using h) ?_ ?_
 rotate_left
 ·rintro ρ w4 ⟨g1,g7,g4,k4⟩
  rw [List.take_length] at g4
  simp [g4]
  exact k4
 rintro k ρ w4 hk hc hlm ⟨g1,g7,g4,k4⟩
 have hf4:=hf.kp0 k4
 obtain ⟨f,hfe⟩:∃ f,l[k]?=some f:=⟨_,List.getElem?_eq_getElem hk⟩
 have hfm:=List.mem_of_getElem? hfe
 have f1:=hr f hfm
 have ec:=hf4.cells fcE_len hfe
 simp only [fcE] at ec
 obtain ⟨fb,hfb⟩:∃ fb,fb=w4.heap.size:=⟨_,rfl⟩
 have hki:(k:Int) < l.length:=by omega
 simp (disch:=omega) [g7,hc,hlm,hf4.idx,ec,← hfb]
 refine st_fa (f:=faN f) .emp (At.start (w:=w4) rfl) hfb fun w7 h7=>?_
 have k7:=k4.trans h7.kp
 have hob:=h7.obj
 simp only [faN,faO] at hob
 rw [hfb] at hob
 have hs7:=hs.kp0 k7
 obtain ⟨y,hy⟩:∃ y,s[f.1]?=some y:=⟨_,List.getElem?_eq_getElem f1⟩
 have hyd:s.getD f.1 0=y:=by simp [List.getD,hy]
 have n1:¬ (f.1:Int) < 0:=by omega
 have n2:¬ ((s.length:Nat):Int)≤(f.1:Int):=by omega
 have n3:(f.1:Int) < s.length:=by omega
 have n4:¬ s.length≤f.1:=by omega
 have hsc:=hdB_succ (s:=s) hfe
 rw [g4,hyd] at hsc
 by_cases hyx:y=f.2
 ·have t:((y:Int) != (f.2:Int))=false:=by simp; omega
  simp (disch:=omega) [g1,g7,hc,hlm,cell_blk hob,n1,n2,n4,hs7.len,hs7.idx,nE_cell hs7 hy,t]
  refine ⟨?_,k7.drew⟩
  rw [hsc]; simp [hyx]
 ·have t:((y:Int) != (f.2:Int))=true:=by simp; omega
  have hbad:hdB s l=false:=by
   unfold hdB
   rw [List.all_eq_false]
   exact ⟨f,hfm,by simp only [hyd,decide_eq_true_eq]; exact hyx⟩
  simp (disch:=omega) [g1,g7,hc,hlm,cell_blk hob,n1,n2,n4,hs7.len,hs7.idx,nE_cell hs7 hy,t,hbad]
  exact k7.drew
def rkK (vars s:List Nat):Nat→Nat
 | 0=>0
 | k+1=>rkK vars s k * vars.getD k 0+s.getD k 0
theorem rank_spec {w:World} (vv sv:Value) (vars s:List Nat) (hv:Vw w vv nE vars) (hs:Vw w sv nE s) (hl:s.length=vars.length) (hl2:s.length≤1000) (hb:∀ k,k≤s.length→rkK vars s k≤1000000) :
  Calls Tryz.prog 35 [vv,sv].toArray w fun e w'=>∃ x,e=.returned x∧x=.int .i64 (rkK vars s s.length:Nat)∧Kp [] w w':=by
 refine enter Tryz.func35 mixed low35 (Nat.le_of_ble_eq_true rfl) ?_
 simp only [L35]
 simp [hs.len]
 refine range_loop (n:=s.length) (by omega) (fun k ρ w'=>ρ 0=vv∧ρ 1=sv∧ρ 5=.int .i64 (rkK vars s k:Nat)∧Kp [] w w') (by simp) (by simp)
  ⟨by simp,by simp,by simp [rkK],Kp.refl _ _⟩ (by decide) (fun _ _ _ _ h=>by simpa using h) (fun _ _ _ _ h=>by simpa using h) ?_ ?_
 rotate_left
 ·rintro ρ w4 ⟨g0,g1,g5,k4⟩
  simp [g5]
  exact k4
 rintro k ρ w4 hk hc hlm ⟨g0,g1,g5,k4⟩
 have hv4:=hv.kp0 k4
 have hs4:=hs.kp0 k4
 obtain ⟨n,hn⟩:∃ n,vars[k]?=some n:=⟨_,List.getElem?_eq_getElem (by omega)⟩
 obtain ⟨y,hy⟩:∃ y,s[k]?=some y:=⟨_,List.getElem?_eq_getElem hk⟩
 have hnd:vars.getD k 0=n:=by simp [List.getD,hn]
 have hyd:s.getD k 0=y:=by simp [List.getD,hy]
 have e1:rkK vars s (k+1)=rkK vars s k * n+y:=by
  show rkK vars s k * vars.getD k 0+s.getD k 0=_
  rw [hnd,hyd]
 have hb1:=hb (k+1) (by omega)
 rw [e1] at hb1
 obtain ⟨m,hm⟩:∃ m,m=rkK vars s k * n:=⟨_,rfl⟩
 have em:((rkK vars s k:Nat):Int) * (n:Nat)=(m:Int):=by rw [hm]; simp
 have e2:(m:Int)+(y:Nat)=((rkK vars s (k+1):Nat):Int):=by rw [e1,← hm]; simp
 have hki:(k:Int) < vars.length:=by omega
 have hks:(k:Int) < s.length:=by omega
 obtain ⟨m2,hm2⟩:∃ m2,m2=rkK vars s (k+1):=⟨_,rfl⟩
 rw [← hm2] at e2 ⊢
 simp (disch:=omega) [g0,g1,g5,hc,hlm,hv4.idx,hs4.idx,nE_cell hv4 hn,nE_cell hs4 hy,em,wrap_i64]
 exact ⟨e2,k4.drew⟩
end Go.Proofs.YtkhfdmelcpfgoaaGreat
end
section
set_option maxRecDepth 100000
set_option linter.unusedSimpArgs false
set_option linter.unusedVariables false
namespace Go.Proofs.YtkhfdmelcpfgoaaGreat
open Go Go.W Go.Tk Go.Rx Go.Maps
def extS (n:Nat) (s:List Nat):List (List Nat):=(List.range n).map fun x=>s ++ [x]
def stsK (vars:List Nat):Nat→List (List Nat)
 | 0=>[[]]
 | k+1=>(stsK vars k).flatMap (extS (vars.getD k 0))
theorem extS_len (n:Nat) (s:List Nat):(extS n s).length=n:=by simp [extS]
set_option maxHeartbeats 1000000 in
theorem states_spec {w:World} (vv:Value) (vars:List Nat) (hv:Vw w vv nE vars) (hl:vars.length≤1000) (hn:∀ n ∈ vars,n≤1000) (hb:∀ k,k≤vars.length→(stsK vars k).length≤10000) (hsl:∀ k,k≤vars.length→∀ s ∈ stsK vars k,s.length≤1000) :
  Calls Tryz.prog 25 [vv].toArray w fun e w'=>∃ u,e=.returned u∧At w [] (Star (LLA u 22 nE (stsK vars vars.length)) Emp) w':=by
 refine enter Tryz.func25 mixed low25 (Nat.le_of_ble_eq_true rfl) ?_
 simp only [L25]
 have h0:At w [] Emp w:=At.start rfl
 have h1:=h0.lit (xs:=([]:List Nat)) (enc:=nE) (E:=3) (sz:=1) (cs:=#[]) (m:=0) .emp (by simp) nE_len (by simp [maxLen]) rfl
 obtain ⟨w1,hw1⟩:∃ w1,w1=w.alloc (.cells #[] 3):=⟨_,rfl⟩
 obtain ⟨r,hr⟩:∃ r,r=Value.slice (some ⟨w.heap.size,0,none⟩) 0 0:=⟨_,rfl⟩
 rw [← hw1,← hr] at h1
 have ho:=h1.own.o1
 have c1:=h1.own.c1
 have h2:At w [] (Star (VwsA nE [((⟨r,ho⟩,[]):Cell1 × List Nat)]) Emp) w1:=((VwsA.nil (Lcl.own.star .emp) h1).by Imp.sw).by (Imp.ow.trans (VwsA.add (ps:=[]) ho))
 have h3:=h2.lit (xs:=[((⟨r,ho⟩,[]):Cell1 × List Nat)]) (enc:=sv1) (E:=22) (sz:=1) (cs:=#[r]) (m:=1) (Lcl.vws.star .emp) (by simp [sv1]) sv1_len (by simp [maxLen]) rfl
 have h4:At w [] (Star (LLA (.slice (some ⟨w1.heap.size,0,none⟩) 1 1) 22 nE (stsK vars 0)) Emp) (w1.alloc (.cells #[r] 22)):=LLA.cls (ps:=[((⟨r,ho⟩,[]):Cell1 × List Nat)]) (by simp [stsK]) h3
 have hv4:=hv.kp0 h4.kp
 simp [← hw1,← hr,c1,rowOf,hv4.len]
 refine range_loop (n:=vars.length) (by omega) (fun k ρ w'=>ρ 12=vv∧At w [] (Star (LLA (ρ 3) 22 nE (stsK vars k)) Emp) w') (by simp) (by simp)
  ⟨by simp,by simpa using h4⟩ (by decide) (fun _ _ _ _ h=>by simpa using h) (fun _ _ _ _ h=>by simpa using h) ?_ ?_
 rotate_left
 ·rintro ρ w5 ⟨g12,h5⟩
  simp
  exact h5
 clear h1 h2 h3 h4 hv4 c1 hw1
 rintro k ρ w5 hk hck hlk ⟨g12,h5⟩
 have hv5:=hv.kp0 h5.kp
 obtain ⟨n,hne⟩:∃ n,vars[k]?=some n:=⟨_,List.getElem?_eq_getElem hk⟩
 have hnb:=hn n (List.mem_of_getElem? hne)
 have hnd:vars.getD k 0=n:=by simp [List.getD,hne]
 have hki:(k:Int) < vars.length:=by omega
 obtain ⟨ov,hov⟩:∃ ov,ov=ρ 3:=⟨_,rfl⟩
 rw [← hov] at h5
 obtain ⟨ps,hps,h6⟩:=LLA.opn h5
 have hpl:ps.length=(stsK vars k).length:=by rw [← hps]; simp
 have hbk:=hb k (by omega)
 have hbk1:=hb (k+1) (by omega)
 have hsk1:stsK vars (k+1)=(stsK vars k).flatMap (extS n):=by rw [← hnd]; rfl
 rw [hsk1] at hbk1
 have hX:Lcl (Star (OwnA ov 22 1 sv1 ps) (Star (VwsA nE ps) Emp)):=Lcl.own.star (Lcl.vws.star .emp)
 have h7:At w [] (Star (LLA (.slice none 0 0) 22 nE (((stsK vars k).take 0).flatMap (extS n))) (Star (OwnA ov 22 1 sv1 ps) (Star (VwsA nE ps) Emp))) w5:=LLA.nil hX h6
 simp (disch:=omega) [g12,hck,hlk,hv5.idx,nE_cell hv5 hne,← hov,h6.own.vw.len]
 refine range_loop (n:=ps.length) (by omega) (fun i ρ w'=>ρ 12=vv∧ρ 13=.int .i64 (vars.length:Nat)∧ρ 14=.int .i64 (k:Nat)∧ρ 5=.int .i64 (n:Nat)∧ρ 18=ov∧At w [] (Star (LLA (ρ 6) 22 nE (((stsK vars k).take i).flatMap (extS n))) (Star (OwnA ov 22 1 sv1 ps) (Star (VwsA nE ps) Emp))) w') (by simp) (by simp)
  ⟨by simp [g12],by simp [hlk],by simp [hck],by simp,by simp,by simpa using h7⟩ (by decide) (fun _ _ _ _ h=>by simpa using h) (fun _ _ _ _ h=>by simpa using h) ?_ ?_
 rotate_left
 ·clear g12 hck hlk hov
  rintro ρ w6 ⟨g12,g13,g14,g5,g18,h8⟩
  rw [hpl,List.take_length,← hsk1] at h8
  simp [g12,g13,g14]
  exact h8.by (Imp.un (Imp.dr.trans Imp.dr))
 clear g12 hck hlk hov h5 h6 h7 hv5
 rintro i ρ w6 hi hci hli ⟨g12,g13,g14,g5,g18,h8⟩
 obtain ⟨p,hp⟩:∃ p,ps[i]?=some p:=⟨_,List.getElem?_eq_getElem hi⟩
 have hpm:=List.mem_of_getElem? hp
 obtain ⟨s,hse⟩:∃ s,s=p.2:=⟨_,rfl⟩
 have hsi:(stsK vars k)[i]?=some s:=by rw [← hps,List.getElem?_map,hp,hse]; rfl
 have hsl1:=hsl k (by omega) s (List.mem_of_getElem? hsi)
 have hii:(i:Int) < ps.length:=by omega
 have hov:=h8.drop.own
 have ep:w6.cell? (ov.adr.add i)=some p.1.1:=by simpa using hov.vw.at_ sv1_len hp (o:=0) (u:=p.1.1) rfl
 have hlen:(((stsK vars k).take i).flatMap (extS n)).length+n≤10000:=by
  have e:stsK vars k=(stsK vars k).take i ++ (s :: (stsK vars k).drop (i+1)):=by
   obtain ⟨hk2,e2⟩:=List.getElem?_eq_some_iff.1 hsi
   rw [← e2,← List.drop_eq_getElem_cons hk2,List.take_append_drop]
  rw [e,List.flatMap_append,List.flatMap_cons,List.length_append,List.length_append,extS_len] at hbk1
  omega
 have htk:((stsK vars k).take (i+1)).flatMap (extS n)=((stsK vars k).take i).flatMap (extS n) ++ (extS n s).take n:=by
  have e:(extS n s).take n=extS n s:=List.take_of_length_le (by rw [extS_len]; omega)
  rw [take_snoc hsi,List.flatMap_append,e]
  simp
 simp (disch:=omega) [g5,g18,hci,hli,hov.vw.idx,ep]
 refine range_loop (n:=n) (by omega) (fun x ρ w'=>ρ 12=vv∧ρ 13=.int .i64 (vars.length:Nat)∧ρ 14=.int .i64 (k:Nat)∧ρ 5=.int .i64 (n:Nat)∧ρ 18=ov∧ρ 19=.int .i64 (ps.length:Nat)∧ρ 20=.int .i64 (i:Nat)∧ρ 8=p.1.1∧At w [] (Star (LLA (ρ 6) 22 nE (((stsK vars k).take i).flatMap (extS n) ++ (extS n s).take x)) (Star (OwnA ov 22 1 sv1 ps) (Star (VwsA nE ps) Emp))) w') (by simp) (by simp)
  ⟨by simp [g12],by simp [g13],by simp [g14],by simp [g5],by simp [g18],by simp [hli],by simp [hci],by simp,by simpa using h8⟩ (by decide) (fun _ _ _ _ h=>by simpa using h) (fun _ _ _ _ h=>by simpa using h) ?_ ?_
 rotate_left
 ·clear g12 g13 g14 g5 g18 hci hli
  rintro ρ w7 ⟨g12,g13,g14,g5,g18,g19,g20,g8,h9⟩
  rw [← htk] at h9
  simp [g12,g13,g14,g5,g18,g19,g20]
  exact h9
 clear g12 g13 g14 g5 g18 hci hli h8 hov ep
 rintro x ρ w7 hx hcx hlx ⟨g12,g13,g14,g5,g18,g19,g20,g8,h9⟩
 have hXL:Lcl (Star (LLA (ρ 6) 22 nE (((stsK vars k).take i).flatMap (extS n) ++ (extS n s).take x)) (Star (OwnA ov 22 1 sv1 ps) (Star (VwsA nE ps) Emp))):=Lcl.ll.star hX
 have h10:=h9.lit (xs:=([]:List Nat)) (enc:=nE) (E:=3) (sz:=1) (cs:=#[]) (m:=0) hXL (by simp) nE_len (by simp [maxLen]) rfl
 have hrow:Vw (w7.alloc (.cells #[] 3)) p.1.1 nE s:=by rw [hse]; exact h10.drop.drop.drop.vws hpm
 simp [hcx,g8,rowOf]
 refine At.appendV (xs:=s) hXL h10 hrow nE_len nE_one sl_22 (by simp; omega) (by simp; unfold maxLen; omega) fun v1 w8 h11=>?_
 simp
 refine nat_append hXL h11 (by simp; omega) fun v2 w9 h12=>?_
 have c12:=h12.own.c1
 simp [c12]
 have hlen2:(((stsK vars k).take i).flatMap (extS n) ++ (extS n s).take x).length≤100000:=by
  rw [List.length_append,List.length_take,extS_len]; omega
 refine li_append hX h12 hlen2 fun v3 w10 h13=>?_
 have ext:(extS n s)[x]?=some (s ++ [x]):=by unfold extS; rw [List.getElem?_map,List.getElem?_range hx]; rfl
 simp [g12,g13,g14,g5,g18,g19,g20,hcx,hlx]
 rw [take_snoc ext,← List.append_assoc]
 exact ⟨g8,by simpa using h13⟩
end Go.Proofs.YtkhfdmelcpfgoaaGreat
end
section
set_option maxRecDepth 100000
set_option linter.unusedSimpArgs false
set_option linter.unusedVariables false
namespace Go.Proofs.YtkhfdmelcpfgoaaGreat
open Go Go.W Go.Tk Go.Rx Go.Maps
def apK (o:No) (s:List Nat) (k:Nat):List Nat:=(o.effs.take k).foldl (fun t e=>if hdB s e.cnd then t.set e.v e.x else t) s
def apS (o:No) (s:List Nat):List Nat:=apK o s o.effs.length
theorem apK_succ {o:No} {s:List Nat} {k:Nat} {e:Nf} (h:o.effs[k]?=some e):apK o s (k+1)=if hdB s e.cnd then (apK o s k).set e.v e.x else apK o s k:=by
 unfold apK; rw [take_snoc h,List.foldl_append]; rfl
theorem apK_len (o:No) (s:List Nat):∀ k,(apK o s k).length=s.length
 | 0=>by simp [apK]
 | k+1=>by
  cases h:o.effs[k]? with
  | none =>
   have:=List.getElem?_eq_none_iff.1 h
   have h2:=apK_len o s k
   unfold apK at h2 ⊢
   rw [List.take_of_length_le (by omega)] at h2 ⊢
   exact h2
  | some e =>
   rw [apK_succ h]
   have:=apK_len o s k
   split
   ·rw [List.length_set]; exact this
   ·exact this
def apV (T:Nt) (o:No) (s:List Nat) (w:World) (x:Value) (w':World):Prop :=
 if hdB s o.pre=true then ∃ u,x=.tuple #[u,.bool true]∧Nw w w' u 3 1 nE (apS o s) else x=.tuple #[.slice none 0 0,.bool false]∧Kp [] w w'
set_option maxHeartbeats 1000000 in
theorem apply_spec {w:World} (T:Nt) (sv:Value) (s:List Nat) (i:Nat) (o:No) (hr:NtR w T) (hg:NtG T) (ho:T.ops[i]?=some o) (hs:Vw w sv nE s) (hst:StN T.vars s) :
  Calls Tryz.prog 45 [ntV T,sv,.int .i64 (i:Nat)].toArray w fun e w'=>∃ x,e=.returned x∧apV T o s w x w':=by
 refine enter Tryz.func45 mixed low45 (Nat.le_of_ble_eq_true rfl) ?_
 simp only [L45]
 have hlen:=hst.len
 have hvl:=hg.vlen
 have hol:=hg.olen
 have hom:=List.mem_of_getElem? ho
 have hgo:=hg.ops o hom
 have hi:i < T.ops.length:=(List.getElem?_eq_some_iff.1 ho).1
 have hii:(i:Int) < T.ops.length:=by omega
 obtain ⟨b,hb⟩:∃ b,b=w.heap.size:=⟨_,rfl⟩
 have h1:At w [] (Star (ObjA b (ntO T)) Emp) (w.alloc (ntO T)):=by rw [hb]; exact (At.start rfl).alloc _ .emp
 obtain ⟨w1,hw1⟩:∃ w1,w1=w.alloc (ntO T):=⟨_,rfl⟩
 rw [← hw1] at h1
 have hw1':w.alloc (.cells #[T.vv.1,T.nv.1,T.gv.1,T.ov.1] 26 (0,0))=w1:=by rw [hw1]; rfl
 have hr1:=hr.kp h1.kp
 have hob:=h1.obj
 unfold ntO at hob
 have c2:=hr1.ops.fld noE_len ho (o:=2) (u:=o.pv.1) rfl
 have n1:¬ (i:Int) < 0:=by omega
 have n2:¬ T.ops.length≤i:=by omega
 simp (disch:=omega) [ntV,← hb,hw1',cell_blk hob,n1,n2,hr1.ops.len,hr1.ops.idx,c2]
 have hgp:=hgo.pre
 have hpl:=hgp.len
 refine cl_of (holds_spec o.pv.1 sv o.pre s (hr1.op o hom).pre (hs.kp0 h1.kp) (by omega) (fun f hf=>by rw [hlen]; exact (hgp.rng f hf).1)) ?_
 rintro _ w2 ⟨rfl,k2⟩
 have h2:=h1.kp0 (Lcl.obj.star .emp) k2
 cases hp:hdB s o.pre with
 | false =>
  simp
  unfold apV
  rw [if_neg (by rw [hp]; simp)]
  exact ⟨rfl,h2.kp⟩
 | true =>
  simp [rowOf]
  have h3:=h2.lit (xs:=([]:List Nat)) (enc:=nE) (E:=3) (sz:=1) (cs:=#[]) (m:=0) (Lcl.obj.star .emp) (by simp) nE_len (by simp [maxLen]) rfl
  refine At.appendV (xs:=s) (Lcl.obj.star .emp) h3 (hs.kp0 h3.kp) nE_len nE_one sl_22 (by simp; omega) (by simp; unfold maxLen; omega) fun ov w4 h4=>?_
  have hob4:=h4.drop.obj
  unfold ntO at hob4
  have hr4:=hr.kp h4.kp
  have c3:=hr4.ops.fld noE_len ho (o:=3) (u:=o.ev.1) rfl
  have hro4:=hr4.op o hom
  have helen:=hgo.elen
  have h4:At w [] (Star (OwnA ov 3 1 nE (apK o s 0)) (Star (ObjA b (ntO T)) Emp)) w4:=by simpa [apK] using h4
  simp (disch:=omega) [← hb,cell_blk hob4,hr4.ops.idx,c3,hro4.effs.len]
  refine range_loop (n:=o.effs.length) (by omega) (fun k ρ w'=>ρ 1=sv∧ρ 8=ov∧ρ 39=o.ev.1∧At w [] (Star (OwnA ov 3 1 nE (apK o s k)) (Star (ObjA b (ntO T)) Emp)) w') (by simp) (by simp)
   ⟨by simp,by simp,by simp,h4⟩ (by decide) (fun _ _ _ _ h=>by simpa using h) (fun _ _ _ _ h=>by simpa using h) ?_ ?_
  rotate_left
  ·rintro ρ w5 ⟨g1,g8,g39,h5⟩
   simp [g8]
   unfold apV
   rw [if_pos hp]
   exact ⟨_,rfl,Nw.of h5⟩
  clear h3 h4 hob4 hr4 c3 hro4
  rintro k ρ w5 hk hck hlk ⟨g1,g8,g39,h5⟩
  have hro5:=(hr.kp h5.kp).op o hom
  obtain ⟨e,he⟩:∃ e,o.effs[k]?=some e:=⟨_,List.getElem?_eq_getElem hk⟩
  have hem:=List.mem_of_getElem? he
  have ece:=hro5.effs.cells nfE_len he
  simp only [nfE] at ece
  have hki:(k:Int) < o.effs.length:=by omega
  obtain ⟨fb,hfb⟩:∃ fb,fb=w5.heap.size:=⟨_,rfl⟩
  have hL:∀ l,Lcl (Star (OwnA ov 3 1 nE l) (Star (ObjA b (ntO T)) Emp)):=fun _=>Lcl.own.star (Lcl.obj.star .emp)
  simp (disch:=omega) [g39,hck,hlk,hro5.effs.idx,ece,← hfb]
  refine st_ef (e:=e.raw) (hL _) h5 hfb fun w6 h6=>?_
  have oe6:=h6.obj
  unfold efO Nf.raw at oe6
  rw [hfb] at oe6
  have hgc:=hgo.cnd e hem
  have hcl:=hgc.len
  obtain ⟨f1,f2⟩:=hgo.eff e hem
  simp (disch:=omega) [cell_blk oe6,g1]
  refine cl_of (holds_spec e.wv.1 sv e.cnd s (((hr.kp h6.kp).op o hom).cnd e hem) (hs.kp0 h6.kp) (by omega) (fun f hf=>by rw [hlen]; exact (hgc.rng f hf).1)) ?_
  rintro _ w7 ⟨rfl,k7⟩
  have h7:=h6.kp0 (Lcl.obj.star (hL _)) k7
  have hsuc:=apK_succ (s:=s) he
  cases hh:hdB s e.cnd with
  | false =>
   rw [hh] at hsuc
   simp [g1,g8,g39,hck,hlk]
   rw [hsuc]
   exact h7.drop
  | true =>
   rw [hh] at hsuc
   have oe7:=h7.obj
   unfold efO Nf.raw at oe7
   rw [hfb] at oe7
   have h8:=h7.drop
   have hO:=h8.own
   have hal:=apK_len o s k
   have hvi:(e.v:Int) < (apK o s k).length:=by omega
   simp (disch:=omega) [g8,cell_blk oe7,hO.idx]
   refine h8.store1 (Lcl.obj.star .emp) nE_len nE_one (k:=e.v) (by omega) (x:=e.x) rfl fun w9 h9=>?_
   simp [g1,g8,g39,hck,hlk]
   rw [hsuc]
   exact h9
end Go.Proofs.YtkhfdmelcpfgoaaGreat
end
section
set_option maxRecDepth 100000
set_option linter.unusedSimpArgs false
set_option linter.unusedVariables false
namespace Go.Proofs.YtkhfdmelcpfgoaaGreat
open Go Go.W Go.Tk Go.Rx Go.Maps
theorem sts_ok {vars:List Nat}:∀ k,k≤vars.length→∀ s ∈ stsK vars k,s.length=k∧∀ v,v < k→s.getD v 0 < vars.getD v 0
 | 0,_,s,hs=>by
  simp [stsK] at hs; subst hs
  exact ⟨rfl,fun v hv=>by omega⟩
 | k+1,hk,s,hs=>by
  unfold stsK at hs
  obtain ⟨t,ht,h2⟩:=List.mem_flatMap.1 hs
  unfold extS at h2
  obtain ⟨x,hx,rfl⟩:=List.mem_map.1 h2
  obtain ⟨e,hv⟩:=sts_ok k (by omega) t ht
  refine ⟨by simp [e],fun v hvk=>?_⟩
  by_cases h3:v < k
  ·have:=hv v h3
   simpa [List.getD,List.getElem?_append_left (show v < t.length by omega)] using this
  ·have:v=k:=by omega
   subst this
   simpa [List.getD,← e] using List.mem_range.1 hx
theorem sts_st {vars:List Nat} {s:List Nat} (h:s ∈ stsK vars vars.length):StN vars s:=by
 obtain ⟨h1,h2⟩:=sts_ok _ (Nat.le_refl _) s h
 exact ⟨h1,h2⟩
end Go.Proofs.YtkhfdmelcpfgoaaGreat
end
section
set_option maxRecDepth 100000
set_option linter.unusedSimpArgs false
set_option linter.unusedVariables false
namespace Go.Proofs.YtkhfdmelcpfgoaaGreat
open Go Go.W Go.Tk Go.Rx Go.Sy Go.Maps
def okB (vars:List Nat) (a:Nat→Bool):Bool:=(List.range vars.length).all fun v=>decide (rv vars a 0 v < vars.getD v 0)
theorem okB_iff {vars:List Nat} {a:Nat→Bool}:okB vars a=true↔StN vars (rs vars a 0):=by
 unfold okB
 rw [List.all_eq_true]
 constructor
 ·intro h
  refine ⟨rs_len _ _ _,fun v hv=>?_⟩
  rw [rs_at hv]
  have:=h v (List.mem_range.2 hv)
  simpa using this
 ·intro h v hv
  have hv:=List.mem_range.1 hv
  have:=h.rng v hv
  rw [rs_at hv] at this
  simpa using this
def lastE (o:No) (s:List Nat) (v:Nat):Nat→Nat→Option Nat
 | 0,_=>none
 | d+1,i=>match lastE o s v d (i+1) with
  | some z=>some z
  | none=>match o.effs[i]? with
   | some e=>if e.v=v∧hdB s e.cnd=true then some e.x else none
   | none=>none
theorem lastE_succ (o:No) (s:List Nat) (v d i:Nat):lastE o s v (d+1) i=(match lastE o s v d (i+1) with
  | some z=>some z
  | none=>match o.effs[i]? with
   | some e=>if e.v=v∧hdB s e.cnd=true then some e.x else none
   | none=>none):=rfl
theorem gD_same {d:List Nat} {i x:Nat} (h:i < d.length):(d.set i x).getD i 0=x:=by simp [List.getD,List.getElem?_set_self h]
theorem gD_ne {d:List Nat} {i j x:Nat} (h:i≠j):(d.set i x).getD j 0=d.getD j 0:=by simp only [List.getD,List.getElem?_set_ne h]
theorem lastE_ap {o:No} {s:List Nat} {v:Nat} (hv:v < s.length):∀ d i,i+d=o.effs.length→(apS o s).getD v 0=(lastE o s v d i).getD ((apK o s i).getD v 0)
 | 0,i,h=>by
  have:i=o.effs.length:=by omega
  subst this
  rfl
 | d+1,i,h=>by
  rw [lastE_ap hv d (i+1) (by omega)]
  obtain ⟨e,he⟩:∃ e,o.effs[i]?=some e:=⟨_,List.getElem?_eq_getElem (by omega)⟩
  rw [lastE_succ]
  cases hl:lastE o s v d (i+1) with
  | some z=>rfl
  | none =>
   rw [he]
   simp only [Option.getD_none]
   rw [apK_succ he]
   by_cases hc:hdB s e.cnd=true
   ·by_cases hev:e.v=v
    ·subst hev
     rw [if_pos hc,if_pos ⟨rfl,hc⟩]
     rw [gD_same (by rw [apK_len]; exact hv)]
     rfl
    ·rw [if_pos hc,if_neg (fun h=>hev h.1),gD_ne hev]
     rfl
   ·rw [if_neg hc,if_neg (fun h=>hc h.2)]
    rfl
def chgV (o:No) (s:List Nat) (v:Nat):Nat:=(lastE o s v o.effs.length 0).getD (s.getD v 0)
theorem chg_ap {o:No} {s:List Nat} {v:Nat} (hv:v < s.length):(apS o s).getD v 0=chgV o s v:=by
 rw [lastE_ap hv o.effs.length 0 (by omega)]
 rfl
def relB (T:Nt) (o:No) (a:Nat→Bool):Bool:=hdB (rs T.vars a 0) o.pre && decide (rs T.vars a 1=apS o (rs T.vars a 0))
def relV (T:Nt) (o:No) (v:Nat) (a:Nat→Bool):Bool:=decide (rv T.vars a 1 v=chgV o (rs T.vars a 0) v)
theorem ext_getD {l l':List Nat} (h:l.length=l'.length) (hh:∀ v,v < l.length→l.getD v 0=l'.getD v 0):l=l':=by
 apply List.ext_getElem h
 intro i h1 h2
 have:=hh i h1
 simpa [List.getD,h1,h2] using this
theorem rel_all {T:Nt} {o:No} {a:Nat→Bool}:(∀ v,v < T.vars.length→relV T o v a=true)↔rs T.vars a 1=apS o (rs T.vars a 0):=by
 have hl:(apS o (rs T.vars a 0)).length=T.vars.length:=by unfold apS; rw [apK_len,rs_len]
 constructor
 ·intro h
  refine ext_getD (by rw [rs_len,hl]) fun v hv=>?_
  rw [rs_len] at hv
  have:=h v hv
  unfold relV at this
  rw [rs_at hv,chg_ap (by rw [rs_len]; exact hv)]
  simpa using this
 ·intro h v hv
  unfold relV
  rw [decide_eq_true_iff,← chg_ap (by rw [rs_len]; exact hv),← h,rs_at hv]
def imgP (T:Nt) (o:No) (P:List Nat→Bool) (s:List Nat):Bool:=(stsK T.vars T.vars.length).any fun x=>P x && hdB x o.pre && decide (apS o x=s)
def preP (o:No) (P:List Nat→Bool) (s:List Nat):Bool:=hdB s o.pre && P (apS o s)
theorem sts_mem {vars s:List Nat}:s ∈ stsK vars vars.length↔StN vars s:=by
 refine ⟨sts_st,fun h=>?_⟩
 have key:∀ k,k≤vars.length→s.take k ∈ stsK vars k:=by
  intro k hk
  induction k with
  | zero=>simp [stsK]
  | succ k ih =>
   unfold stsK
   refine List.mem_flatMap.2 ⟨_,ih (by omega),?_⟩
   unfold extS
   have hks:k < s.length:=by rw [h.len]; omega
   refine List.mem_map.2 ⟨s.getD k 0,List.mem_range.2 (h.rng k (by omega)),?_⟩
   rw [List.take_add_one,List.getElem?_eq_getElem hks]
   simp [List.getD,List.getElem?_eq_getElem hks]
 have:=key _ (Nat.le_refl _)
 rwa [List.take_of_length_le (by rw [h.len]; exact Nat.le_refl _)] at this
theorem rs_mk2 {vars x y:List Nat} (h64:∀ n ∈ vars,n≤64) (hx:StN vars x):rs vars (mk2 vars x y) 0=x:=by
 refine ext_getD (by rw [rs_len,hx.len]) fun v hv=>?_
 rw [rs_len] at hv
 have hm:vars.getD v 0 ∈ vars:=by simp [List.getD,List.getElem?_eq_getElem hv]
 have h1:=hx.rng v hv
 have h2:=wd_ge (h64 _ hm)
 rw [rs_at hv,rv_mk2 (nx:=0) hv (by omega) (by simp only [if_true]; omega)]
 rfl
end Go.Proofs.YtkhfdmelcpfgoaaGreat
end
section
set_option maxRecDepth 100000
set_option linter.unusedSimpArgs false
set_option linter.unusedVariables false
namespace Go.Proofs.YtkhfdmelcpfgoaaGreat
open Go Go.W Go.Bd Go.Maps
theorem blaidOut:laidOutB Tryz.prog=true:=by kernel_rfl
def en (d:Nd):List Value:=ints [d.v,d.low,d.high]
theorem bn_len (d:Nd):(en d).length=3:=rfl
theorem en_one (d:Nd):(en d).all oneC=true:=rfl
def ndV (d:Nd):Value:=.agg (en d).toArray
def nd_ok (d:Nd):Prop:=∀ x ∈ [d.v,d.low,d.high],i64ok x
theorem keyN:KeyEnc Tryz.prog 137 ndV nd_ok:={
 keyed:=Keyed.of_law (deep_law_laid blaidOut (m:=5) (by omega) (of_decide_eq_true (by kernel_rfl)) (by kernel_rfl) (by kernel_rfl))
 lit:=fun d hd=>key_struct Tryz.underlying137 (by kernel_rfl) (by intro f hf; simp at hf; rcases hf with rfl | rfl | rfl <;> kernel_rfl) (by kernel_rfl) (by kernel_rfl) (m:=Tryz.prog.types.size - 1) (by kernel_rfl) rfl hd
 inj:=fun x y h=>by
  have:=ints_inj h
  cases x; cases y; simp at this; simp [this] }
def natV (k:Nat):Value:=.int .i64 (k:Int)
def idx (ns:Ns):List (Nd × Nat):=ns.zipIdx.map fun p=>(p.1,p.2+2)
theorem idx_snoc (ns:Ns) (d:Nd):idx (ns ++ [d])=idx ns ++ [(d,ns.length+2)]:=by simp [idx,List.zipIdx_append]
theorem idx_len (ns:Ns):(idx ns).length=ns.length:=by simp [idx]
theorem getM_idx (ns:Ns) (d:Nd):getM (idx ns) d=(ns.findIdx? fun x=>decide (x=d)).map (·+2):=by
 have key:∀ (l:Ns) (o:Nat),(((l.zipIdx o).map fun p=>(p.1,p.2+2)).find? fun p=>decide (p.1=d)).map (·.2)=(l.findIdx? fun x=>decide (x=d)).map (·+o+2):=by
  intro l
  induction l with
  | nil=>intro o; rfl
  | cons x l ih =>
   intro o
   rw [List.zipIdx_cons,List.map_cons,List.findIdx?_cons]
   by_cases hx:x=d
   ·simp [hx]
   ·rw [List.find?_cons_of_neg (by simpa using hx),ih (o+1)]
    simp only [hx,decide_false,Bool.false_eq_true,if_false,Option.map_map]
    congr 1
    funext k; simp only [Function.comp]; omega
 exact key ns 0
def mgrO (n lim:Nat) (nv:Value) (b:Nat):Obj:=.cells #[.int .i64 n,.int .i64 lim,nv,.map (some b)] 127 (0,0)
def MgrA (m n lim:Nat) (ns:Ns):Asr:=ExA fun q:Value × Nat=>Star (ObjA m (mgrO n lim q.1 q.2)) (Star (OwnA q.1 137 3 en ns) (MapA q.2 ndV natV nd_ok (idx ns)))
theorem Lcl.mgr {m n lim:Nat} {ns:Ns}:Lcl (MgrA m n lim ns):=Lcl.ex fun _=>Lcl.star Lcl.obj (Lcl.star Lcl.own Lcl.map)
section
variable {w w1:World} {F:List Nat} {B:Asr} {m n lim:Nat} {ns:Ns}
theorem MgrA.opn (h:At w F (Star (MgrA m n lim ns) B) w1):∃ nv b,At w F (Star (ObjA m (mgrO n lim nv b)) (Star (OwnA nv 137 3 en ns) (Star (MapA b ndV natV nd_ok (idx ns)) B))) w1:=by
 obtain ⟨⟨nv,b⟩,h⟩:=h.ex_open
 exact ⟨nv,b,h.assoc.rot.assoc.rot3⟩
theorem MgrA.cls {nv:Value} {b:Nat} (h:At w F (Star (ObjA m (mgrO n lim nv b)) (Star (OwnA nv 137 3 en ns) (Star (MapA b ndV natV nd_ok (idx ns)) B))) w1):At w F (Star (MgrA m n lim ns) B) w1 :=
 At.ex_close (x:=(nv,b)) h.rot.rot3.rot.assoc'.rot.assoc'
structure MgrF (w:World) (m n lim:Nat) (ns:Ns):Prop where
 ex:∃ nv b,w.heap[m]?=some (mgrO n lim nv b)∧Own w nv 137 3 en ns∧MapM w b ndV natV nd_ok (idx ns)
theorem MgrF.kp0 {w':World} (h:MgrF w m n lim ns) (hk:Kp [] w w'):MgrF w' m n lim ns:=by
 obtain ⟨nv,b,h1,h2,h3⟩:=h
 exact ⟨nv,b,hk.blk h1 (by simp),h2.kp hk (by simp),h3.kp hk (by simp)⟩
theorem MgrA.rd (h:At w F (Star (MgrA m n lim ns) B) w1):MgrF w1 m n lim ns:=by
 obtain ⟨nv,b,h⟩:=MgrA.opn h
 exact ⟨nv,b,h.obj,h.drop.own,h.drop.drop.map⟩
end
structure Bnd (n lim:Nat) (ns:Ns):Prop where
 hn:n≤256
 hl:lim≤1048576
 hs:ns.length≤lim
theorem at_spec (m n lim f:Nat) (ns:Ns) (w:World) (h:MgrF w m n lim ns) (hb:Bnd n lim ns) (hf:Ref ns f) :
  Calls Tryz.prog 86 [.pointer (some ⟨m,0,none⟩),.int .i64 (f:Nat)].toArray w fun e w'=>∃ v,e=.returned v∧v=ndV (at_ n ns f)∧Kp [] w w':=by
 obtain ⟨hbn,hbl,hbs⟩:=hb
 obtain ⟨nv,b,ho,hown,hmap⟩:=h
 have hf':f < ns.length+2:=hf
 refine enter Tryz.func86 mixed low86 (Nat.le_of_ble_eq_true rfl) ?_
 simp only [L86]
 have ka:Kp [] w (w.alloc (.cells #[.int .i64 0,.int .i64 0,.int .i64 0] 137)):=(Kp.refl _ _).alloc _
 have ho':=ka.blk ho (by simp)
 have hown':=hown.kp ka (by simp)
 unfold mgrO at ho'
 rcases Nat.lt_or_ge f 2 with h2 | h2
 ·have h2':(f:Int) < 2:=by omega
  simp [h2',cell_blk ho']
  refine st_obj alloc_new (by simp) (by simp) ?_
  intro w2 hk2 hs2 hb2
  simp
  refine postL_c1 (g:=w.heap.size) (n:=3) ag_137 (by simp) (by simpa using hb2) rfl rfl ?_
  refine ⟨_,rfl,?_,ka.trans' hk2 (fun x hx=>.inr (by simp at hx; omega))⟩
  rw [at_lt h2]; rfl
 ·have h2':¬ (f:Int) < 2:=by omega
  have hlt:f - 2 < ns.length:=by omega
  have hi:((f:Int) - 2)=((f - 2:Nat):Int):=by omega
  have hget:ns[f - 2]?=some (at_ n ns f):=by rw [at_ge h2 hf]; exact List.getElem?_eq_getElem _
  simp (disch:=omega) [h2',cell_blk ho',wrap_i64]
  rw [hi]
  simp (disch:=omega) [hown'.idx,hown'.cells bn_len hget,bn_len]
  refine st_obj alloc_new (by simp [en,ints]) (by simp [en,ints]) ?_
  intro w2 hk2 hs2 hb2
  simp
  refine postL_c1 (g:=w.heap.size) (n:=3) ag_137 (by simp) (by simpa [en,ints] using hb2) rfl rfl ?_
  exact ⟨_,rfl,rfl,ka.trans' hk2 (fun x hx=>.inr (by simp at hx; omega))⟩
end Go.Proofs.YtkhfdmelcpfgoaaGreat
end
section
set_option maxRecDepth 100000
set_option linter.unusedSimpArgs false
set_option linter.unusedVariables false
namespace Go.Proofs.YtkhfdmelcpfgoaaGreat
open Go Go.W Go.Bd Go.Maps
def berrV (c:Int):Value:=.iface 46 (.int .i64 c)
def okV (x:Nat):Value:=.tuple #[.int .i64 (x:Int),.nilIface]
def bnoV (c:Int):Value:=.tuple #[.int .i64 0,berrV c]
def optV:Option Nat→Value
 | some x=>okV x
 | none=>bnoV 10
theorem kindex:Tryz.prog.underlying 124=some (.map 137 3):=Tryz.underlying124
theorem zint (w:World):(zeroValue 3).run Tryz.prog w=.ok (.int .i64 0) w:=Tryz.zeroValue3 w
theorem make_spec {w w1:World} {F:List Nat} {B:Asr} (m n lim:Nat) (ns:Ns) (v l h:Nat) (hB:Lcl B) (hA:At w F (Star (MgrA m n lim ns) B) w1) (hb:Bnd n lim ns) (hv:v≤1000000) (hl:l≤2000000) (hh:h≤2000000) :
  Calls Tryz.prog 103 [.pointer (some ⟨m,0,none⟩),.int .i64 (v:Nat),.int .i64 (l:Nat),.int .i64 (h:Nat)].toArray w1 fun e w'=>∃ x,e=.returned x∧x=optV (mkF lim ns v l h).1∧At w F (Star (MgrA m n lim (mkF lim ns v l h).2) B) w':=by
 obtain ⟨hbn,hbl,hbs⟩:=hb
 refine enter Tryz.func103 mixed low103 (Nat.le_of_ble_eq_true rfl) ?_
 simp only [L103]
 by_cases hlh:l=h
 ·subst hlh
  simp
  exact ⟨by simp [mkF,optV,okV],by simpa [mkF] using hA⟩
 have hlh':((l:Int) == h)=false:=by rw [beq_eq_false_iff_ne]; omega
 simp [hlh',hlh]
 have hlm:Lcl (MgrA m n lim ns):=Lcl.mgr
 have h0:=hA.alloc (.cells #[.int .i64 0,.int .i64 0,.int .i64 0] 137) (hlm.star hB)
 refine h0.st (hlm.star hB) (by simp) (by simp) fun w2 h2=>?_
 obtain ⟨t,ht⟩:∃ t,t=w1.heap.size:=⟨_,rfl⟩
 rw [← ht] at h2 ⊢
 have hLl:=Lcl.obj.star (hlm.star hB) (A:=ObjA t (.cells (wrAt #[.int .i64 0,.int .i64 0,.int .i64 0] 0 [.int .i64 (v:Nat),.int .i64 (l:Nat),.int .i64 (h:Nat)]) 137 (0,0)))
 have ht2:=h2.obj
 simp at ht2
 obtain ⟨nv,b,h5⟩:=MgrA.opn h2.rot
 have ho:=h5.obj
 have hown:=h5.drop.own
 have hmap:=h5.drop.drop.map
 have hmapd:MapM w2.drew b ndV natV nd_ok (idx ns):=hmap
 have hok:nd_ok ⟨v,l,h⟩:=by
  intro x hx
  simp at hx
  unfold i64ok
  rcases hx with rfl | rfl | rfl <;> omega
 unfold mgrO at ho
 simp [cell_blk ho,cell_blk ht2]
 have hcs:cellsAt w2 ⟨t,0,none⟩ 0 3=some (en ⟨v,l,h⟩):=by
  simp [cellsAt,Addr.add,cell_blk ht2,en,ints]
 simp [hcs]
 refine hmapd.look2 (x:=(⟨v,l,h⟩:Nd)) keyN kindex zint hok ?_
 have hgi:=getM_idx ns ⟨v,l,h⟩
 cases hf:ns.findIdx? fun x=>decide (x=(⟨v,l,h⟩:Nd)) with
 | some k =>
  rw [hf] at hgi
  simp only [Option.map_some] at hgi
  have hm:mkF lim ns v l h=(some (k+2),ns):=by simp [mkF,hlh,hf]
  simp [hgi,natV]
  rw [hm]
  exact ⟨by simp [optV,okV],(h2.drew hLl).drop⟩
 | none =>
 rw [hf] at hgi
 simp only [Option.map_none] at hgi
 simp [hgi,cell_blk ho,hown.len]
 by_cases hlim:lim≤ns.length
 ·have hlim':(lim:Int)≤ns.length:=by omega
  have hm:mkF lim ns v l h=(none,ns):=by simp [mkF,hlh,hf,hlim]
  simp [hlim,hlim']
  rw [hm]
  exact ⟨by simp [optV,bnoV,berrV],((h2.drew hLl).drew hLl).drop⟩
 have hlim':¬ (lim:Int)≤ns.length:=by omega
 have hm:mkF lim ns v l h=(some (ns.length+2),ns ++ [⟨v,l,h⟩]):=by simp [mkF,hlh,hf,hlim]
 have h4:=((h2.drew hLl).drew hLl).drew hLl
 have hL5:Lcl (Star (ObjA m (mgrO n lim nv b)) (Star (OwnA nv 137 3 en ns) (Star (MapA b ndV natV nd_ok (idx ns)) (Star (ObjA t (.cells (wrAt #[.int .i64 0,.int .i64 0,.int .i64 0] 0 [.int .i64 (v:Nat),.int .i64 (l:Nat),.int .i64 (h:Nat)]) 137 (0,0))) B)))) :=
  Lcl.obj.star (Lcl.own.star (Lcl.map.star (Lcl.obj.star hB)))
 have h6:=((h5.drew hL5).drew hL5).drew hL5
 simp [hlim,hlim',cell_blk ho,hcs,bn_len,rowOf]
 have e3:wrAt #[.int .i64 0,.int .i64 0,.int .i64 0] 0 (en ⟨v,l,h⟩)=(en ⟨v,l,h⟩).toArray:=by simp [en,ints]
 rw [e3]
 have h7:=(h6.rot).kp0 (Lcl.own.star (Lcl.obj.star (Lcl.map.star (Lcl.obj.star hB)))) ((Kp.refl [] w2.drew.drew.drew).alloc (.cells (en ⟨v,l,h⟩).toArray 137))
 refine At.append (xs:=[(⟨v,l,h⟩:Nd)]) (Lcl.obj.star (Lcl.map.star (Lcl.obj.star hB))) h7 bn_len en_one sl_125 rfl (fun j u hj=>?_) (by omega) (by unfold maxLen; omega) fun v8 w8 h8=>?_
 ·rw [addr_add,Nat.zero_add,show w2.heap.size=w2.drew.drew.drew.heap.size from rfl,cell_blk alloc_new]
  simpa using hj
 have h9:=h8.rot
 have ho9:=h9.obj
 unfold mgrO at h9 ho9
 simp [h8.own.c1]
 refine h9.st (Lcl.own.star (Lcl.map.star (Lcl.obj.star hB))) (by simp) (by simp [h8.own.o1]) fun w10 h10=>?_
 have hL10:=Lcl.obj.star (Lcl.own.star (Lcl.map.star (Lcl.obj.star hB))) (A:=ObjA m (mgrO n lim v8 b)) (B:=Star (OwnA v8 137 3 en (ns ++ [(⟨v,l,h⟩:Nd)])) (Star (MapA b ndV natV nd_ok (idx ns)) (Star (ObjA t (.cells (wrAt #[.int .i64 0,.int .i64 0,.int .i64 0] 0 [.int .i64 (v:Nat),.int .i64 (l:Nat),.int .i64 (h:Nat)]) 137 (0,0))) B)))
 have h10:At w F (Star (ObjA m (mgrO n lim v8 b)) (Star (OwnA v8 137 3 en (ns ++ [(⟨v,l,h⟩:Nd)])) (Star (MapA b ndV natV nd_ok (idx ns)) (Star (ObjA t (.cells (wrAt #[.int .i64 0,.int .i64 0,.int .i64 0] 0 [.int .i64 (v:Nat),.int .i64 (l:Nat),.int .i64 (h:Nat)]) 137 (0,0))) B)))) w10:=by
  simpa [mgrO] using h10
 have hoa:=h10.obj
 unfold mgrO at hoa
 have hta:=h10.drop.drop.drop.obj
 have hown10:=h10.drop.own
 simp at hta
 have hcsa:cellsAt w10 ⟨t,0,none⟩ 0 3=some (en ⟨v,l,h⟩):=by
  simp [cellsAt,Addr.add,cell_blk hta,en,ints]
 simp (disch:=omega) [cell_blk hoa,hcsa,hown10.len,wrap_i64]
 have e1:Value.int .i64 ((ns.length:Int)+1+1)=natV (ns.length+2):=by unfold natV; congr 1
 rw [e1]
 have hb11:=(h10.drew hL10).drop.drop
 refine At.put (x:=(⟨v,l,h⟩:Nd)) (Lcl.obj.star (Lcl.own.star (Lcl.obj.star hB))) ((h10.drew hL10).rot3) keyN kindex hok (by rw [idx_len]; unfold maxLen; omega) fun w12 h12=>?_
 have hput:putM (idx ns) (⟨v,l,h⟩:Nd) (ns.length+2)=idx (ns ++ [(⟨v,l,h⟩:Nd)]):=by
  rw [idx_snoc,putM,if_neg]
  simp only [getM,Option.map_eq_none_iff,List.find?_eq_none] at hgi
  simp only [List.any_eq_true,not_exists,not_and]
  exact hgi
 rw [hput] at h12
 have h12:=h12.rot.rot3.rot
 have hoc:=h12.obj
 unfold mgrO at hoc
 have hownc:=h12.drop.own
 simp (disch:=omega) [cell_blk hoc,hownc.len,wrap_i64]
 rw [hm]
 exact ⟨by simp [optV,okV]; omega,(MgrA.cls h12).rot.drop⟩
theorem short_spec (op f g:Nat) (w:World) (hop:op≤2):Calls Tryz.prog 126 [.int .i64 (op:Nat),.int .i64 (f:Nat),.int .i64 (g:Nat)].toArray w fun e w'=>∃ x,e=.returned x∧x=.tuple #[.int .i64 ((sh op f g).1:Nat),.bool (sh op f g).2]∧Kp [] w w':=by
 refine enter Tryz.func126 mixed low126 (Nat.le_of_ble_eq_true rfl) ?_
 simp only [L126]
 have e:∀ a b:Nat,((a:Int) == (b:Int))=decide (a=b):=fun a b=>by
  by_cases h:a=b
  ·simp [h]
  ·have:((a:Int) == b)=false:=by rw [beq_eq_false_iff_ne]; omega
   rw [this]; simp [h]
 have e0:∀ a:Nat,((a:Int) == 0)=decide (a=0):=fun a=>e a 0
 have e1:∀ a:Nat,((a:Int) == 1)=decide (a=1):=fun a=>e a 1
 unfold sh
 have hc:op=0∨op=1∨op=2:=by omega
 rcases hc with rfl | rfl | rfl
 ·by_cases h1:f=0
  ·subst h1
   simp
   exact Kp.refl _ _
  by_cases h2:g=0
  ·subst h2
   simp [e0,h1]
   exact Kp.refl _ _
  by_cases h3:f=1
  ·subst h3
   simp [e0,h2]
   exact Kp.refl _ _
  by_cases h4:f=g
  ·subst h4
   simp [e0,e1,h1,h3]
   exact Kp.refl _ _
  ·simp [e0,e1,e,h1,h2,h3,h4]
   exact Kp.refl _ _
 ·by_cases h1:f=1
  ·subst h1
   simp
   exact Kp.refl _ _
  by_cases h2:g=1
  ·subst h2
   simp [e1,h1]
   exact Kp.refl _ _
  by_cases h3:f=0
  ·subst h3
   simp [e1,h2]
   exact Kp.refl _ _
  by_cases h4:f=g
  ·subst h4
   simp [e0,e1,h1,h3]
   exact Kp.refl _ _
  ·simp [e0,e1,e,h1,h2,h3,h4]
   exact Kp.refl _ _
 ·by_cases h4:f=g
  ·subst h4
   simp
   exact Kp.refl _ _
  by_cases h3:f=0
  ·subst h3
   have h5:((0:Int) == g)=false:=by rw [beq_eq_false_iff_ne]; omega
   simp [h5,h4]
   exact Kp.refl _ _
  ·simp [e0,e1,e,h3,h4]
   exact Kp.refl _ _
end Go.Proofs.YtkhfdmelcpfgoaaGreat
end
