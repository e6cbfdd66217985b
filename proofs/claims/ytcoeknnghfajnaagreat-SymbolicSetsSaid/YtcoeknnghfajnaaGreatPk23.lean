/-
  A part of the proof of this claim's statement (SyXB, SyXC, SyXD, SyXE, SyAP, SyAQ): plain theorems; no conditions beyond those each names.
-/
import Derived.Test.YtcoeknnghfajnaaGreatPk22
import Derived.Test.YtcoeknnghfajnaaGreatPk15
set_option maxRecDepth 100000
set_option linter.unusedSimpArgs false
set_option linter.unusedVariables false
set_option linter.unusedSectionVars false
section
namespace Go.Proofs.YtcoeknnghfajnaaGreat
open Go Go.W Go.Tk Go.Rx Go.Bd Go.Sy Go.Maps
def ZrP (vars:List Nat) (P:List Nat→Bool) (w:World) (v:Value) (w':World):Prop:=At w [] (Star (OwnA v 4 1 bE (stT vars P)) Emp) w'
theorem zunion_spec {w:World} (vars:List Nat) (av bv:Value) (P Q:List Nat→Bool) (ha:Vw w av bE (stT vars P)) (hb:Vw w bv bE (stT vars Q)) (hN:nS vars≤512) :
  Calls Tryz.prog 61 [av,bv].toArray w fun e w'=>∃u,e=.returned u∧ZrP vars (fun s=>P s || Q s) w u w':=by
 refine enter Tryz.func61 mixed low61 (Nat.le_of_ble_eq_true rfl) ?_
 simp only [L61]
 obtain ⟨N,hNe⟩:∃N,N=nS vars:=⟨_,rfl⟩
 have hla:(stT vars P).length=N:=by rw [stT_len,hNe]
 have hlb:(stT vars Q).length=N:=by rw [stT_len,hNe]
 simp [ha.len,hla]
 refine gd_mk (by omega) ?_
 have h1:=(At.start rfl:At w [] Emp w).made (E:=4) (enc:=bE) (x:=false) (z:=[.bool false]) (n:=N) .emp rfl bE_len (by unfold maxLen; omega)
 rw [uptoB_zero N (setI vars fun s=>P s || Q s)] at h1
 obtain ⟨uv,huv⟩:∃uv,uv=Value.slice (some ⟨w.heap.size,0,none⟩) N N:=⟨_,rfl⟩
 rw [←huv] at h1
 simp [←huv,ha.len,hla]
 refine range_loop (n:=N) (by omega) (fun i ρ w'=>ρ 0=av∧ρ 1=bv∧ρ 5=uv∧At w [] (Star (OwnA uv 4 1 bE (tabB N (uptoB i (setI vars fun s=>P s || Q s)))) Emp) w') (by simp) (by simp)
  ⟨by simp,by simp,by simp,by simpa using h1⟩ (by decide) (fun _ _ _ _ h=>by simpa using h) (fun _ _ _ _ h=>by simpa using h) ?_ ?_
 rotate_left
 ·rintro ρ w4 ⟨g0,g1,g5,h4⟩
  simp [g5]
  rw [uptoB_all,hNe] at h4
  exact h4
 rintro k ρ w4 hk hc hlm ⟨g0,g1,g5,h4⟩
 obtain ⟨s,hs⟩:∃s,(stsK vars vars.length)[k]? = some s:=⟨_,List.getElem?_eq_getElem (by unfold nS at hNe; omega)⟩
 have ha4:=ha.kp0 h4.kp
 have hb4:=hb.kp0 h4.kp
 have ca:=bE_cell ha4 (stT_at hs)
 have cb:=bE_cell hb4 (stT_at hs)
 have hla1:(k:Int) < (stT vars P).length:=by omega
 have hlb1:(k:Int) < (stT vars Q).length:=by omega
 have hlu:(tabB N (uptoB k (setI vars fun s=>P s || Q s))).length=N:=tabB_len _ _
 have hkN:(k:Int) < N:=by omega
 have fin:∀x,x=(P s || Q s)→∀KW:Kont World,(∀w2,At w [] (Star (OwnA uv 4 1 bE (tabB N (uptoB (k+1) (setI vars fun s=>P s || Q s)))) Emp) w2→KW.run w2)→@stJ w4 ⟨uv.blk,k,none⟩ [.bool x] KW:=by
  intro x hx KW H
  refine h4.store1 .emp bE_len bE_one (k:=k) (by omega) (x:=x) rfl fun w5 h5=>H w5 ?_
  rw [tabB_set hk] at h5
  have e:x=setI vars (fun s=>P s || Q s) k:=by rw [setI_at hs,hx]
  rw [e,uptoB_succ] at h5
  exact h5
 cases hp:P s with
 | true =>
  rw [hp] at ca
  simp (disch:=omega) [g0,g1,g5,hc,hlm,ha4.idx,hb4.idx,ca,cb,h4.own.idx,hlu]
  refine fin true (by rw [hp]; rfl) _ fun w5 h5=>?_
  simp [g0,g1,g5,hc,hlm]
  exact h5
 | false =>
  rw [hp] at ca
  simp (disch:=omega) [g0,g1,g5,hc,hlm,ha4.idx,hb4.idx,ca,cb,h4.own.idx,hlu]
  refine fin (Q s) (by rw [hp]; rfl) _ fun w5 h5=>?_
  simp [g0,g1,g5,hc,hlm]
  exact h5
theorem zminus_spec {w:World} (vars:List Nat) (av bv:Value) (P Q:List Nat→Bool) (ha:Vw w av bE (stT vars P)) (hb:Vw w bv bE (stT vars Q)) (hN:nS vars≤512) :
  Calls Tryz.prog 56 [av,bv].toArray w fun e w'=>∃u,e=.returned u∧ZrP vars (fun s=>P s && !Q s) w u w':=by
 refine enter Tryz.func56 mixed low56 (Nat.le_of_ble_eq_true rfl) ?_
 simp only [L56]
 obtain ⟨N,hNe⟩:∃N,N=nS vars:=⟨_,rfl⟩
 have hla:(stT vars P).length=N:=by rw [stT_len,hNe]
 have hlb:(stT vars Q).length=N:=by rw [stT_len,hNe]
 simp [ha.len,hla]
 refine gd_mk (by omega) ?_
 have h1:=(At.start rfl:At w [] Emp w).made (E:=4) (enc:=bE) (x:=false) (z:=[.bool false]) (n:=N) .emp rfl bE_len (by unfold maxLen; omega)
 rw [uptoB_zero N (setI vars fun s=>P s && !Q s)] at h1
 obtain ⟨uv,huv⟩:∃uv,uv=Value.slice (some ⟨w.heap.size,0,none⟩) N N:=⟨_,rfl⟩
 rw [←huv] at h1
 simp [←huv,ha.len,hla]
 refine range_loop (n:=N) (by omega) (fun i ρ w'=>ρ 0=av∧ρ 1=bv∧ρ 5=uv∧At w [] (Star (OwnA uv 4 1 bE (tabB N (uptoB i (setI vars fun s=>P s && !Q s)))) Emp) w') (by simp) (by simp)
  ⟨by simp,by simp,by simp,by simpa using h1⟩ (by decide) (fun _ _ _ _ h=>by simpa using h) (fun _ _ _ _ h=>by simpa using h) ?_ ?_
 rotate_left
 ·rintro ρ w4 ⟨g0,g1,g5,h4⟩
  simp [g5]
  rw [uptoB_all,hNe] at h4
  exact h4
 rintro k ρ w4 hk hc hlm ⟨g0,g1,g5,h4⟩
 obtain ⟨s,hs⟩:∃s,(stsK vars vars.length)[k]? = some s:=⟨_,List.getElem?_eq_getElem (by unfold nS at hNe; omega)⟩
 have ha4:=ha.kp0 h4.kp
 have hb4:=hb.kp0 h4.kp
 have ca:=bE_cell ha4 (stT_at hs)
 have cb:=bE_cell hb4 (stT_at hs)
 have hla1:(k:Int) < (stT vars P).length:=by omega
 have hlb1:(k:Int) < (stT vars Q).length:=by omega
 have hlu:(tabB N (uptoB k (setI vars fun s=>P s && !Q s))).length=N:=tabB_len _ _
 have hkN:(k:Int) < N:=by omega
 have fin:∀x,x=(P s && !Q s)→∀KW:Kont World,(∀w2,At w [] (Star (OwnA uv 4 1 bE (tabB N (uptoB (k+1) (setI vars fun s=>P s && !Q s)))) Emp) w2→KW.run w2)→@stJ w4 ⟨uv.blk,k,none⟩ [.bool x] KW:=by
  intro x hx KW H
  refine h4.store1 .emp bE_len bE_one (k:=k) (by omega) (x:=x) rfl fun w5 h5=>H w5 ?_
  rw [tabB_set hk] at h5
  have e:x=setI vars (fun s=>P s && !Q s) k:=by rw [setI_at hs,hx]
  rw [e,uptoB_succ] at h5
  exact h5
 cases hp:P s with
 | false =>
  rw [hp] at ca
  simp (disch:=omega) [g0,g1,g5,hc,hlm,ha4.idx,hb4.idx,ca,cb,h4.own.idx,hlu]
  refine fin false (by rw [hp]; rfl) _ fun w5 h5=>?_
  simp [g0,g1,g5,hc,hlm]
  exact h5
 | true =>
  rw [hp] at ca
  simp (disch:=omega) [g0,g1,g5,hc,hlm,ha4.idx,hb4.idx,ca,cb,h4.own.idx,hlu]
  refine fin (!Q s) (by rw [hp]; rfl) _ fun w5 h5=>?_
  simp [g0,g1,g5,hc,hlm]
  exact h5
end Go.Proofs.YtcoeknnghfajnaaGreat
end
section
namespace Go.Proofs.YtcoeknnghfajnaaGreat
open Go Go.W Go.Tk Go.Rx Go.Bd Go.Sy Go.Maps
def ZI (vars:List Nat) (w:World) (uv sv:Value) (ps:List (Cell1 × List Nat)) (f:Nat→Bool) (w':World):Prop :=
 At w [] (Star (OwnA uv 4 1 bE (tabB (nS vars) f)) (Star (OwnA sv 22 1 sv1 ps) (Star (VwsA nE ps) Emp))) w'
section
variable {vars:List Nat} {w w' w2:World} {uv sv:Value} {ps:List (Cell1 × List Nat)} {f:Nat→Bool}
theorem ZI.kp0 (h:ZI vars w uv sv ps f w') (k:Kp [] w' w2):ZI vars w uv sv ps f w2:=by
 unfold ZI at h ⊢
 exact At.kp0 (Lcl.own.star (Lcl.own.star (Lcl.vws.star .emp))) h k
theorem ZI.kp (h:ZI vars w uv sv ps f w'):Kp [] w w':=by
 unfold ZI at h
 exact At.kp h
theorem ZI.own (h:ZI vars w uv sv ps f w'):Own w' uv 4 1 bE (tabB (nS vars) f):=by
 unfold ZI at h
 exact At.own h
theorem ZI.sts (h:ZI vars w uv sv ps f w'):Vw w' sv sv1 ps:=by
 unfold ZI at h
 exact h.drop.own.vw
theorem ZI.row (h:ZI vars w uv sv ps f w') {p:Cell1 × List Nat} (hp:p ∈ ps):Vw w' p.1.1 nE p.2:=by
 unfold ZI at h
 exact h.drop.drop.vws hp
theorem ZI.store {KW:Kont World} {k:Nat} {x:Bool} {g:Nat→Bool} (h:ZI vars w uv sv ps f w') (hk:k < nS vars) (hg:∀i,i < nS vars→updN f k x i=g i) (H:∀w2,ZI vars w uv sv ps g w2→KW.run w2):@stJ w' ⟨uv.blk,k,none⟩ [.bool x] KW:=by
 unfold ZI at h
 refine h.store1 (Lcl.own.star (Lcl.vws.star .emp)) bE_len bE_one (k:=k) (by rw [tabB_len]; exact hk) (x:=x) rfl fun w5 h5=>H w5 ?_
 rw [tabB_set hk,tabB_congr hg] at h5
 unfold ZI
 exact h5
theorem ZI.zero {u2:Value} {w2 w3:World} (h2:At w [] (Star (OwnA uv 4 1 bE (List.replicate (nS vars) false)) Emp) w2) (h3:At w2 [] (Star (LLA sv 22 nE (stsK vars vars.length)) Emp) w3) (hf:∀i,f i=false) :
  ∃ps:List (Cell1 × List Nat),ps.map (·.2)=stsK vars vars.length∧ZI vars w uv sv ps f w3:=by
 have h4:=At.join (Lcl.own.star .emp) h2 h3
 obtain ⟨ps,hps,h5⟩:=LLA.opn h4
 refine ⟨ps,hps,?_⟩
 unfold ZI
 have e:List.replicate (nS vars) false=tabB (nS vars) f:=by
  rw [uptoB_zero (nS vars) f]
  exact tabB_congr fun i hi=>by unfold uptoB; rw [if_neg (by omega),hf]
 rw [e] at h5
 exact h5.rot3
theorem ZI.fin {P:List Nat→Bool} (h:ZI vars w uv sv ps f w') (hf:∀i,i < nS vars→f i=setI vars P i):ZrP vars P w uv w':=by
 unfold ZI at h
 rw [tabB_congr hf] at h
 unfold ZrP stT
 exact h.imp fun F1 ⟨Fa,Fb,h1,h2,hd,e⟩=>⟨Fa,⟨Fa,[],h1,rfl,by simp,by simp⟩,fun x hx=>by rw [e]; simp [hx]⟩
end
theorem ps_at {ps:List (Cell1 × List Nat)} {l:List (List Nat)} {i:Nat} (h:ps.map (·.2)=l) (hi:i < l.length):∃p,ps[i]? = some p∧l[i]? = some p.2:=by
 subst h
 rw [List.length_map] at hi
 exact ⟨_,List.getElem?_eq_getElem hi,by rw [List.getElem?_map,List.getElem?_eq_getElem hi]; rfl⟩
theorem zpartial_spec {w:World} (T:Nt) (pv:Value) (p:List Go.Tk.Fc) (hr:NtR w T) (hT:SmT T) (hp:Vw w pv fcE p) (hpr:∀f ∈ p,f.1 < T.vars.length) (hpl:p.length≤1000000) :
  Calls Tryz.prog 52 [ntV T,pv].toArray w fun e w'=>∃u,e=.returned u∧ZrP T.vars (fun s=>hdB s p) w u w':=by
 refine enter Tryz.func52 mixed low52 (Nat.le_of_ble_eq_true rfl) ?_
 simp only [L52]
 obtain ⟨b,hb⟩:∃b,b=w.heap.size:=⟨_,rfl⟩
 obtain ⟨w1,hw1⟩:∃w1,w1=w.alloc (ntO T):=⟨_,rfl⟩
 have k1:Kp [] w w1:=by rw [hw1]; exact (Kp.refl [] w).alloc _
 have ob:w1.heap[b]? = some (ntO T):=by rw [hb,hw1]; exact alloc_new
 have hw1':w.alloc (.cells #[T.vv.1,T.nv.1,T.gv.1,T.ov.1] 26 (0,0))=w1:=by rw [hw1]; rfl
 simp [ntV,←hb,hw1',rd_nt ob]
 refine cl_of (zempty_spec T (hr.kp k1) hT) ?_
 rintro uv w2 h2
 have ob2:=h2.kp.blk ob (by simp)
 have oc2:=ob2
 unfold ntO at oc2
 have hvl:=hT.vl
 have hN:nS T.vars≤512:=sts512 hT
 simp [cell_blk oc2]
 refine cl_of (states_spec T.vv.1 T.vars (hr.kp (k1.trans h2.kp)).vars (by omega) (fun n hn=>by have:=hT.g.vars n hn; omega) (SmT.sts hT) (fun k hk s hs=>by have:=(sts_ok k hk s hs).1; omega)) ?_
 rintro sv w3 h3
 obtain ⟨ps,hps,h4⟩:=ZI.zero (u2:=uv) (f:=uptoB 0 (setI T.vars fun s=>hdB s p)) h2 h3 (fun i=>by simp [uptoB])
 have hpl2:ps.length=nS T.vars:=by unfold nS; rw [←hps]; simp
 simp [h4.sts.len,hpl2]
 refine range_loop (n:=nS T.vars) (by omega) (fun i ρ w'=>ρ 1=pv∧ρ 5=uv∧ρ 12=sv∧ZI T.vars w1 uv sv ps (uptoB i (setI T.vars fun s=>hdB s p)) w') (by simp) (by simp)
  ⟨by simp,by simp,by simp,h4.kp0 (Kp.refl _ _)⟩ (by decide) (fun _ _ _ _ h=>by simpa using h) (fun _ _ _ _ h=>by simpa using h) ?_ ?_
 rotate_left
 ·rintro ρ w5 ⟨g1,g5,g12,h5⟩
  simp [g5]
  have:=h5.fin (P:=fun s=>hdB s p) fun i hi=>by unfold uptoB; rw [if_pos hi]
  unfold ZrP at this ⊢
  exact At.pre0 k1 this
 rintro k ρ w5 hk hc hlm ⟨g1,g5,g12,h5⟩
 obtain ⟨q,hq,hqs⟩:=ps_at hps hk
 have hst:=sts_st (List.mem_of_getElem? hqs)
 have es:w5.cell? (sv.adr.add k)=some q.1.1:=by simpa using h5.sts.at_ sv1_len hq (o:=0) (u:=q.1.1) rfl
 have hki:(k:Int) < ps.length:=by omega
 simp (disch:=omega) [g1,g5,g12,hc,hlm,h5.sts.idx,es]
 refine cl_of (holds_spec pv q.1.1 p q.2 (hp.kp0 (k1.trans h5.kp)) (h5.row (List.mem_of_getElem? hq)) hpl (fun f hf=>by rw [hst.len]; exact hpr f hf)) ?_
 rintro _ w6 ⟨rfl,k6⟩
 have h6:=h5.kp0 k6
 have hlu:(tabB (nS T.vars) (uptoB k (setI T.vars fun s=>hdB s p))).length=nS T.vars:=tabB_len _ _
 have hkN:(k:Int) < nS T.vars:=by omega
 simp (disch:=omega) [g5,hc,h6.own.idx,hlu]
 refine h6.store hk (g:=uptoB (k+1) (setI T.vars fun s=>hdB s p)) (fun i hi=>?_) fun w7 h7=>?_
 ·rw [←uptoB_succ,setI_at hqs]
 simp [g1,g5,g12,hc,hlm]
 exact h7
end Go.Proofs.YtcoeknnghfajnaaGreat
end
section
namespace Go.Proofs.YtcoeknnghfajnaaGreat
open Go Go.W Go.Tk Go.Rx Go.Bd Go.Sy Go.Maps
def zsg (vars:List Nat) (i:Nat):List Nat:=(stsK vars vars.length).getD i []
theorem zsg_at {vars:List Nat} {i:Nat} {s:List Nat} (h:(stsK vars vars.length)[i]? = some s):zsg vars i=s:=by
 unfold zsg
 simp [List.getD,h]
def imK (T:Nt) (o:No) (P:List Nat→Bool) (k:Nat) (j:Nat):Bool:=(List.range k).any fun i=>P (zsg T.vars i) && hdB (zsg T.vars i) o.pre && decide (rkK T.vars (apS o (zsg T.vars i)) T.vars.length=j)
theorem imK_zero (T:Nt) (o:No) (P:List Nat→Bool) (j:Nat):imK T o P 0 j=false:=by simp [imK]
theorem imK_succ (T:Nt) (o:No) (P:List Nat→Bool) (k j:Nat):imK T o P (k+1) j=(imK T o P k j || (P (zsg T.vars k) && hdB (zsg T.vars k) o.pre && decide (rkK T.vars (apS o (zsg T.vars k)) T.vars.length=j))):=by
 unfold imK
 rw [List.range_succ,List.any_append]
 simp
theorem imK_no {T:Nt} {o:No} {P:List Nat→Bool} {k:Nat} (h:(P (zsg T.vars k) && hdB (zsg T.vars k) o.pre)=false) (j:Nat):imK T o P (k+1) j=imK T o P k j:=by
 rw [imK_succ,h]
 simp
theorem imK_yes {T:Nt} {o:No} {P:List Nat→Bool} {k:Nat} (h:(P (zsg T.vars k) && hdB (zsg T.vars k) o.pre)=true) (j:Nat):updN (imK T o P k) (rkK T.vars (apS o (zsg T.vars k)) T.vars.length) true j=imK T o P (k+1) j:=by
 rw [imK_succ,h]
 unfold updN
 by_cases e:j=rkK T.vars (apS o (zsg T.vars k)) T.vars.length
 ·rw [if_pos e,e]
  simp
 ·rw [if_neg e]
  have:decide (rkK T.vars (apS o (zsg T.vars k)) T.vars.length=j)=false:=decide_eq_false fun h=>e h.symm
  rw [this]
  simp
theorem imK_all {T:Nt} {o:No} {P:List Nat→Bool} (hT:SmT T) (ho:NoG T.vars o) {j:Nat} (hj:j < nS T.vars):imK T o P (nS T.vars) j=setI T.vars (imgP T o P) j:=by
 obtain ⟨s,hs⟩:∃s,(stsK T.vars T.vars.length)[j]? = some s:=⟨_,List.getElem?_eq_getElem hj⟩
 rw [setI_at hs,Bool.eq_iff_iff]
 unfold imK imgP
 rw [List.any_eq_true,List.any_eq_true]
 constructor
 ·rintro ⟨i,hi,h⟩
  have hi:=List.mem_range.1 hi
  obtain ⟨x,hx⟩:∃x,(stsK T.vars T.vars.length)[i]? = some x:=⟨_,List.getElem?_eq_getElem hi⟩
  rw [zsg_at hx] at h
  rw [Bool.and_eq_true,decide_eq_true_iff] at h
  have hst:=apS_st (sts_st (List.mem_of_getElem? hx)) ho
  have h2:=rk_all hst
  rw [h.2,hs] at h2
  refine ⟨x,List.mem_of_getElem? hx,?_⟩
  rw [Bool.and_eq_true,decide_eq_true_iff]
  exact ⟨h.1,by simpa using h2.symm⟩
 ·rintro ⟨x,hx,h⟩
  rw [Bool.and_eq_true,decide_eq_true_iff] at h
  have hxs:=sts_st hx
  have h1:=rk_all hxs
  refine ⟨rkK T.vars x T.vars.length,List.mem_range.2 (List.getElem?_eq_some_iff.1 h1).1,?_⟩
  rw [zsg_at h1,Bool.and_eq_true,decide_eq_true_iff]
  refine ⟨h.1,?_⟩
  have h2:=rk_all (apS_st hxs ho)
  rw [h.2] at h2 ⊢
  exact (List.getElem?_inj (List.getElem?_eq_some_iff.1 h2).1 (sts_nd T.vars T.vars.length)).1 (h2.trans hs.symm)
set_option maxHeartbeats 1000000 in
theorem zimage_spec {w:World} (T:Nt) (av:Value) (op:Nat) (o:No) (P:List Nat→Bool) (hr:NtR w T) (hT:SmT T) (ho:T.ops[op]? = some o) (ha:Vw w av bE (stT T.vars P)) :
  Calls Tryz.prog 58 [ntV T,av,.int .i64 (op:Nat)].toArray w fun e w'=>∃u,e=.returned u∧ZrP T.vars (imgP T o P) w u w':=by
 refine enter Tryz.func58 mixed low58 (Nat.le_of_ble_eq_true rfl) ?_
 simp only [L58]
 have hgo:=hT.g.ops o (List.mem_of_getElem? ho)
 obtain ⟨b,hb⟩:∃b,b=w.heap.size:=⟨_,rfl⟩
 obtain ⟨w1,hw1⟩:∃w1,w1=w.alloc (ntO T):=⟨_,rfl⟩
 have k1:Kp [] w w1:=by rw [hw1]; exact (Kp.refl [] w).alloc _
 have ob:w1.heap[b]? = some (ntO T):=by rw [hb,hw1]; exact alloc_new
 have hw1':w.alloc (.cells #[T.vv.1,T.nv.1,T.gv.1,T.ov.1] 26 (0,0))=w1:=by rw [hw1]; rfl
 simp [ntV,←hb,hw1',rd_nt ob]
 refine cl_of (zempty_spec T (hr.kp k1) hT) ?_
 rintro uv w2 h2
 have ob2:=h2.kp.blk ob (by simp)
 have oc2:=ob2
 unfold ntO at oc2
 have hvl:=hT.vl
 have hN:nS T.vars≤512:=sts512 hT
 simp [cell_blk oc2]
 refine cl_of (states_spec T.vv.1 T.vars (hr.kp (k1.trans h2.kp)).vars (by omega) (fun n hn=>by have:=hT.g.vars n hn; omega) (SmT.sts hT) (fun k hk s hs=>by have:=(sts_ok k hk s hs).1; omega)) ?_
 rintro sv w3 h3
 obtain ⟨ps,hps,h4⟩:=ZI.zero (u2:=uv) (f:=imK T o P 0) h2 h3 (fun i=>imK_zero T o P i)
 have hpl2:ps.length=nS T.vars:=by unfold nS; rw [←hps]; simp
 simp [h4.sts.len,hpl2]
 refine range_loop (n:=nS T.vars) (by omega) (fun i ρ w'=>ρ 1=av∧ρ 2=.int .i64 (op:Nat)∧ρ 3=.pointer (some ⟨b,0,none⟩)∧ρ 7=uv∧ρ 16=sv∧ZI T.vars w1 uv sv ps (imK T o P i) w') (by simp) (by simp)
  ⟨by simp,by simp,by simp,by simp,by simp,h4.kp0 (Kp.refl _ _)⟩ (by decide) (fun _ _ _ _ h=>by simpa using h) (fun _ _ _ _ h=>by simpa using h) ?_ ?_
 rotate_left
 ·rintro ρ w5 ⟨g1,g2,g3,g7,g16,h5⟩
  simp [g7]
  have:=h5.fin (P:=imgP T o P) fun i hi=>imK_all hT hgo hi
  unfold ZrP at this ⊢
  exact At.pre0 k1 this
 rintro k ρ w5 hk hc hlm ⟨g1,g2,g3,g7,g16,h5⟩
 obtain ⟨q,hq,hqs⟩:=ps_at hps hk
 have hst:=sts_st (List.mem_of_getElem? hqs)
 have es:w5.cell? (sv.adr.add k)=some q.1.1:=by simpa using h5.sts.at_ sv1_len hq (o:=0) (u:=q.1.1) rfl
 have hki:(k:Int) < ps.length:=by omega
 have ob5:=h5.kp.blk ob (by simp)
 simp (disch:=omega) [g1,g2,g3,g7,g16,hc,hlm,h5.sts.idx,es,rd_nt ob5]
 have k05:=k1.trans h5.kp
 refine cl_of (apply_spec T q.1.1 q.2 op o (hr.kp k05) hT.g ho (h5.row (List.mem_of_getElem? hq)) hst) ?_
 rintro v6 w6 h6
 have ez:=zsg_at hqs
 unfold apV at h6
 have ca5:∀{wx:World},Kp [] w5 wx→wx.cell? (av.adr.add k)=some (.bool (P q.2)):=fun kx=>bE_cell (ha.kp0 (k05.trans kx)) (stT_at hqs)
 have hax:∀{wx:World},Kp [] w5 wx→Vw wx av bE (stT T.vars P):=fun kx=>ha.kp0 (k05.trans kx)
 have hla:(stT T.vars P).length=nS T.vars:=stT_len _ _
 have hkN:(k:Int) < nS T.vars:=by omega
 cases hp:hdB q.2 o.pre with
 | false =>
  rw [hp] at h6
  simp only [Bool.false_eq_true,if_false] at h6
  obtain ⟨rfl,k6⟩:=h6
  have hno:∀j,imK T o P (k+1) j=imK T o P k j:=imK_no (by rw [ez,hp]; simp)
  have h7:ZI T.vars w1 uv sv ps (imK T o P (k+1)) w6:=by rw [show imK T o P (k+1)=imK T o P k from funext hno]; exact h5.kp0 k6
  have c6:=ca5 k6
  have hax6:=hax k6
  cases hP:P q.2 with
  | false =>
   rw [hP] at c6
   simp (disch:=omega) [g1,g2,g3,g7,g16,hc,hlm,hax6.idx,hla,c6]
   exact h7
  | true =>
   rw [hP] at c6
   simp (disch:=omega) [g1,g2,g3,g7,g16,hc,hlm,hax6.idx,hla,c6]
   exact h7
 | true =>
  rw [hp] at h6
  simp only [if_true] at h6
  obtain ⟨u,rfl,h6⟩:=h6
  have k6:=h6.kp
  have c6:=ca5 k6
  have hax6:=hax k6
  have h7:=h5.kp0 k6
  cases hP:P q.2 with
  | false =>
   have hno:∀j,imK T o P (k+1) j=imK T o P k j:=imK_no (by rw [ez,hP]; simp)
   rw [show imK T o P k=imK T o P (k+1) from (funext hno).symm] at h7
   rw [hP] at c6
   simp (disch:=omega) [g1,g2,g3,g7,g16,hc,hlm,hax6.idx,hla,c6]
   exact h7
  | true =>
   rw [hP] at c6
   have ob6:=h7.kp.blk ob (by simp)
   have oc6:=ob6
   unfold ntO at oc6
   simp (disch:=omega) [g1,g2,g3,g7,g16,hc,hlm,hax6.idx,hla,c6,cell_blk oc6]
   have hst2:=apS_st hst hgo
   have hl2:=hst2.len
   refine cl_of (rank_spec T.vv.1 u T.vars (apS o q.2) (hr.kp (k05.trans k6)).vars h6.own.vw hl2 (by omega) (fun j hj=>by have:=rk_sm hT hst2 j (by omega); omega)) ?_
   rintro _ w8 ⟨rfl,k8⟩
   have h8:=h7.kp0 k8
   have hrk:=(List.getElem?_eq_some_iff.1 (rk_all hst2)).1
   have hlu:(tabB (nS T.vars) (imK T o P k)).length=nS T.vars:=tabB_len _ _
   have hrN:rkK T.vars (apS o q.2) T.vars.length < nS T.vars:=hrk
   rw [hl2]
   obtain ⟨r,hre⟩:∃r,r=rkK T.vars (apS o q.2) T.vars.length:=⟨_,rfl⟩
   rw [←hre] at hrN ⊢
   have hrN2:(r:Int) < nS T.vars:=by omega
   simp (disch:=omega) [g7,h8.own.idx,hlu]
   refine h8.store hrN (g:=imK T o P (k+1)) (fun i hi=>?_) fun w9 h9=>?_
   ·rw [hre,←ez]
    exact imK_yes (by rw [ez,hP,hp]; rfl) i
   simp [g1,g2,g3,g7,g16,hc,hlm]
   exact h9
set_option maxHeartbeats 1000000 in
theorem zpreimage_spec {w:World} (T:Nt) (av:Value) (op:Nat) (o:No) (P:List Nat→Bool) (hr:NtR w T) (hT:SmT T) (ho:T.ops[op]? = some o) (ha:Vw w av bE (stT T.vars P)) :
  Calls Tryz.prog 60 [ntV T,av,.int .i64 (op:Nat)].toArray w fun e w'=>∃u,e=.returned u∧ZrP T.vars (preP o P) w u w':=by
 refine enter Tryz.func60 mixed low60 (Nat.le_of_ble_eq_true rfl) ?_
 simp only [L60]
 have hgo:=hT.g.ops o (List.mem_of_getElem? ho)
 obtain ⟨b,hb⟩:∃b,b=w.heap.size:=⟨_,rfl⟩
 obtain ⟨w1,hw1⟩:∃w1,w1=w.alloc (ntO T):=⟨_,rfl⟩
 have k1:Kp [] w w1:=by rw [hw1]; exact (Kp.refl [] w).alloc _
 have ob:w1.heap[b]? = some (ntO T):=by rw [hb,hw1]; exact alloc_new
 have hw1':w.alloc (.cells #[T.vv.1,T.nv.1,T.gv.1,T.ov.1] 26 (0,0))=w1:=by rw [hw1]; rfl
 simp [ntV,←hb,hw1',rd_nt ob]
 refine cl_of (zempty_spec T (hr.kp k1) hT) ?_
 rintro uv w2 h2
 have ob2:=h2.kp.blk ob (by simp)
 have oc2:=ob2
 unfold ntO at oc2
 have hvl:=hT.vl
 have hN:nS T.vars≤512:=sts512 hT
 simp [cell_blk oc2]
 refine cl_of (states_spec T.vv.1 T.vars (hr.kp (k1.trans h2.kp)).vars (by omega) (fun n hn=>by have:=hT.g.vars n hn; omega) (SmT.sts hT) (fun k hk s hs=>by have:=(sts_ok k hk s hs).1; omega)) ?_
 rintro sv w3 h3
 obtain ⟨ps,hps,h4⟩:=ZI.zero (u2:=uv) (f:=uptoB 0 (setI T.vars (preP o P))) h2 h3 (fun i=>by simp [uptoB])
 have hpl2:ps.length=nS T.vars:=by unfold nS; rw [←hps]; simp
 simp [h4.sts.len,hpl2]
 refine range_loop (n:=nS T.vars) (by omega) (fun i ρ w'=>ρ 1=av∧ρ 2=.int .i64 (op:Nat)∧ρ 3=.pointer (some ⟨b,0,none⟩)∧ρ 7=uv∧ρ 16=sv∧ZI T.vars w1 uv sv ps (uptoB i (setI T.vars (preP o P))) w') (by simp) (by simp)
  ⟨by simp,by simp,by simp,by simp,by simp,h4.kp0 (Kp.refl _ _)⟩ (by decide) (fun _ _ _ _ h=>by simpa using h) (fun _ _ _ _ h=>by simpa using h) ?_ ?_
 rotate_left
 ·rintro ρ w5 ⟨g1,g2,g3,g7,g16,h5⟩
  simp [g7]
  have:=h5.fin (P:=preP o P) fun i hi=>by unfold uptoB; rw [if_pos hi]
  unfold ZrP at this ⊢
  exact At.pre0 k1 this
 rintro k ρ w5 hk hc hlm ⟨g1,g2,g3,g7,g16,h5⟩
 obtain ⟨q,hq,hqs⟩:=ps_at hps hk
 have hst:=sts_st (List.mem_of_getElem? hqs)
 have es:w5.cell? (sv.adr.add k)=some q.1.1:=by simpa using h5.sts.at_ sv1_len hq (o:=0) (u:=q.1.1) rfl
 have hki:(k:Int) < ps.length:=by omega
 have ob5:=h5.kp.blk ob (by simp)
 simp (disch:=omega) [g1,g2,g3,g7,g16,hc,hlm,h5.sts.idx,es,rd_nt ob5]
 have k05:=k1.trans h5.kp
 refine cl_of (apply_spec T q.1.1 q.2 op o (hr.kp k05) hT.g ho (h5.row (List.mem_of_getElem? hq)) hst) ?_
 rintro v6 w6 h6
 unfold apV at h6
 have hlu:(tabB (nS T.vars) (uptoB k (setI T.vars (preP o P)))).length=nS T.vars:=tabB_len _ _
 have hla:(stT T.vars P).length=nS T.vars:=stT_len _ _
 have hkN:(k:Int) < nS T.vars:=by omega
 cases hp:hdB q.2 o.pre with
 | false =>
  rw [hp] at h6
  simp only [Bool.false_eq_true,if_false] at h6
  obtain ⟨rfl,k6⟩:=h6
  have h7:=h5.kp0 k6
  simp (disch:=omega) [g1,g2,g3,g7,g16,hc,hlm,h7.own.idx,hlu]
  refine h7.store hk (g:=uptoB (k+1) (setI T.vars (preP o P))) (fun i hi=>?_) fun w9 h9=>?_
  ·rw [←uptoB_succ,setI_at hqs]
   unfold preP
   rw [hp]
   rfl
  simp [g1,g2,g3,g7,g16,hc,hlm]
  exact h9
 | true =>
  rw [hp] at h6
  simp only [if_true] at h6
  obtain ⟨u,rfl,h6⟩:=h6
  have k6:=h6.kp
  have h7:=h5.kp0 k6
  have ob6:=h7.kp.blk ob (by simp)
  have oc6:=ob6
  unfold ntO at oc6
  simp (disch:=omega) [g1,g2,g3,g7,g16,hc,hlm,cell_blk oc6]
  have hst2:=apS_st hst hgo
  have hl2:=hst2.len
  refine cl_of (rank_spec T.vv.1 u T.vars (apS o q.2) (hr.kp (k05.trans k6)).vars h6.own.vw hl2 (by omega) (fun j hj=>by have:=rk_sm hT hst2 j (by omega); omega)) ?_
  rintro _ w8 ⟨rfl,k8⟩
  have h8:=h7.kp0 k8
  have hrA:=rk_all hst2
  have hrN:rkK T.vars (apS o q.2) T.vars.length < nS T.vars:=(List.getElem?_eq_some_iff.1 hrA).1
  rw [hl2]
  obtain ⟨r,hre⟩:∃r,r=rkK T.vars (apS o q.2) T.vars.length:=⟨_,rfl⟩
  rw [←hre] at hrN hrA ⊢
  have hrN2:(r:Int) < nS T.vars:=by omega
  have ha8:=ha.kp0 ((k05.trans k6).trans k8)
  have ca8:=bE_cell ha8 (stT_at hrA)
  simp (disch:=omega) [g1,g2,g3,g7,g16,hc,hlm,ha8.idx,hla,ca8,h8.own.idx,hlu]
  refine h8.store hk (g:=uptoB (k+1) (setI T.vars (preP o P))) (fun i hi=>?_) fun w9 h9=>?_
  ·rw [←uptoB_succ,setI_at hqs]
   unfold preP
   rw [hp]
   rfl
  simp [g1,g2,g3,g7,g16,hc,hlm]
  exact h9
end Go.Proofs.YtcoeknnghfajnaaGreat
end
section
namespace Go.Proofs.YtcoeknnghfajnaaGreat
open Go Go.W Go.Tk Go.Rx Go.Bd Go.Sy Go.Maps
abbrev Pr:=Nat × Cell1 × (List Nat→Bool)
def zpE (p:Pr):List Value:=[.int .i64 (p.1:Nat),p.2.1.1]
theorem zpE_len (p:Pr):(zpE p).length=2:=rfl
theorem zpE_one (p:Pr):(zpE p).all oneC=true:=by simp [zpE,p.2.1.2]
def zpV (p:Pr):Value:=.agg #[.int .i64 (p.1:Nat),p.2.1.1]
def zpO (p:Pr):Obj:=.cells #[.int .i64 (p.1:Nat),p.2.1.1] 53 (0,0)
def zpW (vars:List Nat) (p:Pr):Cell1 × List Bool:=(p.2.1,stT vars p.2.2)
def PrsA (vars:List Nat) (lv:Value) (ps:List Pr) (B:Asr):Asr:=Star (OwnA lv 53 2 zpE ps) (Star (VwsA bE (ps.map (zpW vars))) B)
theorem PrsA.lcl {vars:List Nat} {lv:Value} {ps:List Pr} {B:Asr} (hB:Lcl B):Lcl (PrsA vars lv ps B):=Lcl.own.star (Lcl.vws.star hB)
theorem Rds.vws {α:Type} {enc:α→List Value} {ps:List (Cell1 × List α)} {B:Asr} {p:Cell1 × List α} (hp:p ∈ ps):Rds (Star (VwsA enc ps) B) fun w'=>Vw w' p.1.1 enc p.2:=fun w' F' hs=>by
 obtain ⟨Fa,Fb,ha,_⟩:=hs
 exact ha.1 p hp
theorem rd_zp {w:World} {b:Nat} {p:Pr} (h:w.heap[b]? = some (zpO p)):cellsAt w ⟨b,0,none⟩ 0 2=some [.int .i64 (p.1:Nat),p.2.1.1]:=by
 unfold zpO at h
 simp [cellsAt,Addr.add,cell_blk h]
theorem cells_o1 {v:Value} (h:oneC v=true):v.cells=#[v]:=by
 cases v <;> first | rfl | simp_all [oneC]
theorem stT_false (vars:List Nat):List.replicate (nS vars) false=stT vars fun _=>false:=by
 unfold stT
 rw [uptoB_zero (nS vars) (setI vars fun _=>false)]
 exact tabB_congr fun i hi=>by unfold uptoB setI; simp
section
variable {w w1:World} {F:List Nat} {B:Asr} {s m lim:Nat} {T T':Nt} {q:SpC} {ns:Ns} {ks:List (Nat × Bool)} {ss:List (Nat × Nat)}
theorem SpcA.intoI {A:Asr}:Imp (Star A (SpcA s m lim T q ns ks ss B)) (SpcA s m lim T q ns ks ss (Star A B)):=by
 unfold SpcA
 exact Imp.bk8
theorem SpcA.outI {A:Asr}:Imp (SpcA s m lim T q ns ks ss (Star A B)) (Star A (SpcA s m lim T q ns ks ss B)):=by
 unfold SpcA
 exact Imp.fr8
theorem SpcA.rds {P:World→Prop} (h:Rds B P):Rds (SpcA s m lim T q ns ks ss B) P:=by
 unfold SpcA
 exact Rds.star (Rds.star (Rds.star (Rds.star (Rds.star (Rds.star (Rds.star h))))))
set_option maxHeartbeats 1000000 in
theorem ymeans_spec (p:Pr) (hG:SpG lim T' q ns ks ss) (hB:Lcl B) (h:At w F (SpcA s m lim T' q ns ks ss B) w1) (hA:Alk T T') (hT:SmT T) (hr:Rds B fun w'=>NtR w' T) (hp:Rds B fun w'=>Vw w' p.2.1.1 bE (stT T.vars p.2.2)) (hk2:Kn T' ns ks p.1 p.2.2) :
  Calls Tryz.prog 19 [ntV T,.pointer (some ⟨s,0,none⟩),zpV p].toArray w1 fun e w'=>∃v,e=.returned v∧v=.bool true∧At w F (SpcA s m lim T' q ns ks ss B) w':=by
 refine enter Tryz.func19 mixed low19 (Nat.le_of_ble_eq_true rfl) ?_
 simp only [L19]
 have hLS:Lcl (SpcA s m lim T' q ns ks ss B):=SpcA.lcl hB
 obtain ⟨tb,htb⟩:∃tb,tb=w1.heap.size:=⟨_,rfl⟩
 obtain ⟨w2,hw2⟩:∃w2,w2=w1.alloc (ntO T):=⟨_,rfl⟩
 have h2:At w F (SpcA s m lim T' q ns ks ss (Star (ObjA tb (ntO T)) B)) w2:=by rw [htb,hw2]; exact SpcA.into (h.alloc _ hLS)
 have hw2':w1.alloc (.cells #[T.vv.1,T.nv.1,T.gv.1,T.ov.1] 26 (0,0))=w2:=by rw [hw2]; rfl
 have hL2:Lcl (Star (ObjA tb (ntO T)) B):=Lcl.obj.star hB
 obtain ⟨pb,hpb⟩:∃pb,pb=w2.heap.size:=⟨_,rfl⟩
 obtain ⟨w3,hw3⟩:∃w3,w3=w2.alloc (zpO p):=⟨_,rfl⟩
 have h3:At w F (SpcA s m lim T' q ns ks ss (Star (ObjA pb (zpO p)) (Star (ObjA tb (ntO T)) B))) w3:=by rw [hpb,hw3]; exact SpcA.into (h2.alloc _ (SpcA.lcl hL2))
 have hw3':w2.alloc (.cells #[.int .i64 (p.1:Nat),p.2.1.1] 53 (0,0))=w3:=by rw [hw3]; rfl
 have hL3:Lcl (Star (ObjA pb (zpO p)) (Star (ObjA tb (ntO T)) B)):=Lcl.obj.star hL2
 have oc:=SpcA.frame h3 (Rds.star Rds.obj:Rds (Star (ObjA pb (zpO p)) (Star (ObjA tb (ntO T)) B)) fun w'=>w'.heap[tb]? = some (ntO T))
 unfold ntO at oc
 have hvl:=hT.vl
 have hN:nS T.vars≤512:=sts512 hT
 simp [ntV,zpV,←htb,hw2',←hpb,hw3',cell_blk oc]
 refine cl_of (states_spec T.vv.1 T.vars (SpcA.frame h3 (Rds.star (Rds.star hr))).vars (by omega) (fun n hn=>by have:=hT.g.vars n hn; omega) (SmT.sts hT) (fun k hk s hs=>by have:=(sts_ok k hk s hs).1; omega)) ?_
 rintro sv w4 h4
 obtain ⟨rs,hrs,h5⟩:=LLA.opn (At.join (SpcA.lcl hL3) h3 h4)
 have h6:=SpcA.into (h5.by (Imp.un SpcA.intoI))
 obtain ⟨B6,hB6⟩:∃B6,B6=Star (OwnA sv 22 1 sv1 rs) (Star (VwsA nE rs) (Star (ObjA pb (zpO p)) (Star (ObjA tb (ntO T)) B))):=⟨_,rfl⟩
 have hL6:Lcl B6:=by rw [hB6]; exact Lcl.own.star (Lcl.vws.star hL3)
 rw [←hB6] at h6
 have rsv:Rds B6 fun w'=>Vw w' sv sv1 rs:=by rw [hB6]; exact Rds.own
 have rrw:∀r ∈ rs,Rds B6 fun w'=>Vw w' r.1.1 nE r.2:=fun r hr=>by rw [hB6]; exact Rds.star (Rds.vws hr)
 have rpb:Rds B6 fun w'=>w'.heap[pb]? = some (zpO p):=by rw [hB6]; exact Rds.star (Rds.star Rds.obj)
 have rpv:Rds B6 fun w'=>Vw w' p.2.1.1 bE (stT T.vars p.2.2):=by rw [hB6]; exact Rds.star (Rds.star (Rds.star (Rds.star hp)))
 have hfin:∀w',At w F (SpcA s m lim T' q ns ks ss B6) w'→At w F (SpcA s m lim T' q ns ks ss B) w':=fun w' h'=>by
  rw [hB6] at h'
  exact SpcA.less (SpcA.less (SpcA.less (SpcA.less h')))
 have hrl:rs.length=nS T.vars:=by unfold nS; rw [←hrs]; simp
 simp [(SpcA.frame h6 rsv).len,hrl]
 refine range_loop (n:=nS T.vars) (by omega) (fun i ρ w'=>ρ 1=.pointer (some ⟨s,0,none⟩)∧ρ 5=.pointer (some ⟨pb,0,none⟩)∧ρ 13=sv∧At w F (SpcA s m lim T' q ns ks ss B6) w') (by simp) (by simp)
  ⟨by simp,by simp,by simp,h6⟩ (by decide) (fun _ _ _ _ h=>by simpa using h) (fun _ _ _ _ h=>by simpa using h) ?_ ?_
 rotate_left
 ·rintro ρ w5 ⟨g1,g5,g13,h7⟩
  simp
  exact hfin _ h7
 rintro k ρ w5 hk hc hlm ⟨g1,g5,g13,h7⟩
 obtain ⟨r,hr1,hr2⟩:=ps_at hrs hk
 have hst:=sts_st (List.mem_of_getElem? hr2)
 have hsv:=SpcA.frame h7 rsv
 have es:w5.cell? (sv.adr.add k)=some r.1.1:=by simpa using hsv.at_ sv1_len hr1 (o:=0) (u:=r.1.1) rfl
 have hki:(k:Int) < rs.length:=by omega
 have op5:=SpcA.frame h7 rpb
 unfold zpO at op5
 simp (disch:=omega) [g1,g5,g13,hc,hlm,hsv.idx,es,cell_blk op5]
 refine cl_of (has_spec p.1 r.1.1 r.2 p.2.2 hG hL6 h7 hk2 (rrw r (List.mem_of_getElem? hr1)) (by rw [hA.vars]; exact hst)) ?_
 rintro _ w6 ⟨rfl,h8⟩
 have op6:=SpcA.frame h8 rpb
 unfold zpO at op6
 have hpv:=SpcA.frame h8 rpv
 have cp:=bE_cell hpv (stT_at hr2)
 have hla:(stT T.vars p.2.2).length=nS T.vars:=stT_len _ _
 have hkN:(k:Int) < nS T.vars:=by omega
 cases hP:p.2.2 r.2 with
 | false =>
  rw [hP] at cp
  simp (disch:=omega) [g1,g5,g13,hc,hlm,cell_blk op6,hpv.idx,hla,cp]
  exact h8
 | true =>
  rw [hP] at cp
  simp (disch:=omega) [g1,g5,g13,hc,hlm,cell_blk op6,hpv.idx,hla,cp]
  exact h8
set_option maxHeartbeats 1000000 in
theorem ybegin_spec (hG:SpG lim T' q ns ks ss) (hB:Lcl B) (h:At w F (SpcA s m lim T' q ns ks ss B) w1) (hT:SmT T) (hr:Rds B fun w'=>NtR w' T) :
  Calls Tryz.prog 17 [ntV T,.pointer (some ⟨s,0,none⟩)].toArray w1 fun e w'=>∃v,e=.returned v∧∃c0 c1:Cell1,At w F (SpcA s m lim T' q ns ks ss (PrsA T.vars v [(0,c0,fun _=>false),(q.all,c1,fun _=>true)] B)) w':=by
 refine enter Tryz.func17 mixed low17 (Nat.le_of_ble_eq_true rfl) ?_
 simp only [L17]
 have hLS:Lcl (SpcA s m lim T' q ns ks ss B):=SpcA.lcl hB
 obtain ⟨tb,htb⟩:∃tb,tb=w1.heap.size:=⟨_,rfl⟩
 obtain ⟨w2,hw2⟩:∃w2,w2=w1.alloc (ntO T):=⟨_,rfl⟩
 have h2:At w F (Star (ObjA tb (ntO T)) (SpcA s m lim T' q ns ks ss B)) w2:=by rw [htb,hw2]; exact h.alloc _ hLS
 have hw2':w1.alloc (.cells #[T.vv.1,T.nv.1,T.gv.1,T.ov.1] 26 (0,0))=w2:=by rw [hw2]; rfl
 have hL2:Lcl (Star (ObjA tb (ntO T)) (SpcA s m lim T' q ns ks ss B)):=Lcl.obj.star hLS
 have hrS:Rds (SpcA s m lim T' q ns ks ss B) fun w'=>NtR w' T:=SpcA.rds hr
 have hr2:NtR w2 T:=SpcA.frame h2.drop hr
 simp [ntV,←htb,hw2',rd_nt h2.obj]
 refine cl_of (zempty_spec T hr2 hT) ?_
 rintro uv w3 h3
 rw [stT_false] at h3
 have h4:=VwsA.nil (enc:=bE) (Lcl.own.star hL2) (At.join hL2 h2 h3)
 have h5:=(h4.by Imp.sw).by (Imp.ow.trans (VwsA.add h4.drop.own.o1))
 have hL5:∀ps:List (Cell1 × List Bool),Lcl (Star (VwsA bE ps) (Star (ObjA tb (ntO T)) (SpcA s m lim T' q ns ks ss B))):=fun ps=>Lcl.vws.star hL2
 obtain ⟨c0,hc0⟩:∃c0:Cell1,c0=⟨uv,h4.drop.own.o1⟩:=⟨_,rfl⟩
 have e0:c0.1=uv:=by rw [hc0]
 rw [←hc0] at h5
 have ob5:=h5.drop.obj
 have fin:∀(uv2:Value) (w5 w7:World),At w F (Star (VwsA bE [(c0,stT T.vars fun _=>false)]) (Star (ObjA tb (ntO T)) (SpcA s m lim T' q ns ks ss B))) w5→ZrP T.vars (fun s=>hdB s []) w5 uv2 w7 →
   ∃c0 c1:Cell1,At w F (SpcA s m lim T' q ns ks ss (PrsA T.vars (.slice (some ⟨w7.heap.size,0,none⟩) 2 2) [(0,c0,fun _=>false),(q.all,c1,fun _=>true)] B)) (w7.alloc (.cells #[.int .i64 0,uv,.int .i64 (q.all:Nat),uv2] 53)):=by
  intro uv2 w5 w7 h6 h7
  unfold ZrP at h7
  have h8:=At.join (hL5 _) h6 h7
  have e1:(stT T.vars fun s=>hdB s [])=stT T.vars fun _=>true:=stT_congr fun s _=>rfl
  rw [e1] at h8
  have h9:=h8.by (Imp.ow.trans (VwsA.add h8.own.o1))
  refine ⟨c0,⟨uv2,h8.own.o1⟩,?_⟩
  have h10:=h9.lit (xs:=[((0,c0,fun _=>false):Pr),(q.all,⟨uv2,h8.own.o1⟩,fun _=>true)]) (enc:=zpE) (E:=53) (sz:=2) (cs:=#[.int .i64 0,uv,.int .i64 (q.all:Nat),uv2]) (m:=2) (hL5 _) (by simp [zpE,e0]) zpE_len (by simp [maxLen]) rfl
  unfold PrsA
  have h11:=h10.by (Imp.un (Imp.un Imp.dr))
  exact SpcA.into (h11.by (Imp.un SpcA.intoI))
 simp [cells_o1 (v:=uv) h4.drop.own.o1]
 have h5d:=At.drew (hL5 _) h5
 have hrF:∀{w':World} {ps:List (Cell1 × List Bool)},At w F (Star (VwsA bE ps) (Star (ObjA tb (ntO T)) (SpcA s m lim T' q ns ks ss B))) w'→NtR w' T:=fun h=>SpcA.frame h.drop.drop hr
 have hall:∀(w5:World),At w F (Star (VwsA bE [(c0,stT T.vars fun _=>false)]) (Star (ObjA tb (ntO T)) (SpcA s m lim T' q ns ks ss B))) w5 →
   Calls Tryz.prog 27 [.pointer (some ⟨s,0,none⟩)].toArray w5 fun en w'=>∃v,en=.returned v∧v=.int .i64 (q.all:Nat)∧At w F (Star (VwsA bE [(c0,stT T.vars fun _=>false)]) (Star (ObjA tb (ntO T)) (SpcA s m lim T' q ns ks ss B))) w':=fun w5 h=>by
  have h1:=SpcA.into (h.by (Imp.un SpcA.intoI))
  refine (all_spec h1).mono ?_
  rintro e w' ⟨v,rfl,hv,h2⟩
  refine ⟨v,rfl,hv,?_⟩
  exact (SpcA.out h2).by (Imp.un SpcA.outI)
 refine ⟨?_,?_⟩
 ·simp [rd_nt ob5]
  refine cl_of (hall _ h5d) ?_
  rintro _ w5 ⟨rfl,h6⟩
  simp
  refine cl_of (zpartial_spec T (.slice none 0 0) [] (hrF h6) hT (Vw.nil _ _) (fun _ h=>by cases h) (by simp)) ?_
  rintro uv2 w7 h7
  have ho2:oneC uv2=true:=by unfold ZrP at h7; exact h7.own.o1
  simp [cells_o1 h4.drop.own.o1,cells_o1 ho2,rowOf]
  obtain ⟨d0,d1,h8⟩:=fin uv2 w5 w7 h6 h7
  exact ⟨d0.1,d0.2,d1.1,d1.2,h8⟩
 ·refine cl_of (hall _ h5d) ?_
  rintro _ w5 ⟨rfl,h6⟩
  have ob6:=h6.drop.obj
  simp [rd_nt ob6]
  refine cl_of (zpartial_spec T (.slice none 0 0) [] (hrF h6) hT (Vw.nil _ _) (fun _ h=>by cases h) (by simp)) ?_
  rintro uv2 w7 h7
  have ho2:oneC uv2=true:=by unfold ZrP at h7; exact h7.own.o1
  simp [cells_o1 h4.drop.own.o1,cells_o1 ho2,rowOf]
  obtain ⟨d0,d1,h8⟩:=fin uv2 w5 w7 h6 h7
  exact ⟨d0.1,d0.2,d1.1,d1.2,h8⟩
end
end Go.Proofs.YtcoeknnghfajnaaGreat
end
section
namespace Go.Proofs.YtcoeknnghfajnaaGreat
open Go Go.W Go.Tk Go.Rx Go.Bd Go.Sy Go.Maps
theorem allc_congr {α:Type} {l:List α} {f g:α→Bool} (h:∀x ∈ l,f x=g x):l.all f=l.all g:=by
 induction l with
 | nil=>rfl
 | cons x l ih=>rw [List.all_cons,List.all_cons,h x (by simp),ih fun y hy=>h y (by simp [hy])]
theorem rv_x {vars:List Nat} {a b:Nat→Bool} {v:Nat} (h:∀p,bP vars v≤p→p < bP vars v+wd (vars.getD v 0)→a (2 * p)=b (2 * p)):rv vars a 0 v=rv vars b 0 v:=valK_congr _ fun k hk=>by
 have:=h (bP vars v+k) (by omega) (by omega)
 simpa using this
theorem rs_x {vars:List Nat} {a b:Nat→Bool} (h:∀p,0≤p→p < 0+nBits vars→a (2 * p)=b (2 * p)):rs vars a 0=rs vars b 0:=rs_congr fun p hp=>by
 have:=h p (Nat.zero_le _) (by omega)
 simpa using this
theorem setF_x (vars:List Nat) (P:List Nat→Bool):XIn 0 (nBits vars) (setF vars P):=fun a b h=>by
 unfold setF
 rw [rs_x h,okB_congr (rs_x h)]
theorem nsetF_x (vars:List Nat) (P:List Nat→Bool):XIn 0 (nBits vars) fun a=>!setF vars P a:=fun a b h=>congrArg (fun x=>!x) (setF_x vars P a b h)
theorem thr_x (vars:List Nat) (v x:Nat):XIn (bP vars v) (wd (vars.getD v 0)) fun a=>decide (rv vars a 0 v < x+1):=fun a b h=>congrArg (fun y=>decide (y < x+1)) (rv_x h)
theorem ctF_g (vars:List Nat) (P:List Nat→Bool):Gtd (nBits vars) (ctF vars P):=by
 refine ⟨fun a h p hp=>?_,fun a b h=>?_⟩
 ·unfold ctF at h
  rw [Bool.and_eq_true] at h
  exact zB_all.1 h.2 p hp
 ·have hf:∀i,i < 2 * nBits vars→a i=b i:=fun i hi=>by
   rcases Nat.mod_two_eq_zero_or_one i with h0 | h0
   ·have:=(h (i / 2) (by omega)).1
    rwa [show 2 * (i / 2)=i by omega] at this
   ·have:=(h (i / 2) (by omega)).2
    rwa [show 2 * (i / 2)+1=i by omega] at this
  have h1:=setF_fin (vars:=vars) (P:=P) hf
  unfold setF at h1
  unfold ctF
  rw [h1]
  congr 1
  unfold zB
  refine allc_congr fun j hj=>?_
  have:=List.mem_range.1 hj
  rw [hf (2 * (0+j)+1) (by omega)]
def BasS (T:Nt) (G:BFn):Prop:=NewS T G∨∃j,j < nBits T.vars∧G=zB (nBits T.vars) j
def nb (T:Nt):Nat:=2 * nBits T.vars * (2 * nBits T.vars+2 * nBits T.vars)+(((List.range T.vars.length).map fun v=>T.vars.getD v 0 * 448).sum+T.vars.length * 2 ^ nBits T.vars)+nBits T.vars * (2 * nBits T.vars)
theorem pow_wd (n:Nat):2 ^ wd n≤64:=by
 have:2 ^ wd n≤2 ^ 6:=Nat.pow_le_pow_right (by omega) (wd_le n)
 omega
end Go.Proofs.YtcoeknnghfajnaaGreat
end
section
namespace Go.Proofs.YtcoeknnghfajnaaGreat
open Go Go.W Go.Tk Go.Rx Go.Bd Go.Sy Go.Maps
abbrev Kp2:=Nat × (List Nat→Bool)
section
variable {w w1:World} {F:List Nat} {B:Asr} {s m lim N N0 c:Nat} {T:Nt} {q:SpC} {W0 W:BFn→Prop} {ps:List Kp2}
end
end Go.Proofs.YtcoeknnghfajnaaGreat
namespace Go.Proofs.YtcoeknnghfajnaaGreat
open Go Go.W Go.Tk Go.Rx Go.Bd Go.Sy Go.Maps
section
variable {w w1:World} {F:List Nat} {A B:Asr} {s m lim N N0 c:Nat} {T:Nt} {q:SpC} {W0 W:BFn→Prop} {ps:List Kp2}
end
end Go.Proofs.YtcoeknnghfajnaaGreat
end
