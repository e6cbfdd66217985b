/-
  A part of the proof of this claim's statement (BdW3, BdW4, BdW5, BdW6, BdR, BdT): plain theorems; no conditions beyond those each names.
-/
import Derived.Test.YtkhfdmelcpfgoaaGreatPk13
import Derived.Test.YtkhfdmelcpfgoaaGreatPk01
import Derived.Test.YtkhfdmelcpfgoaaGreatPk02
section
set_option maxRecDepth 100000
set_option linter.unusedSimpArgs false
set_option linter.unusedVariables false
namespace Go.Proofs.YtkhfdmelcpfgoaaGreat
open Go Go.W Go.Bd Go.Maps
def p2V (p:Nat × Nat):Value:=.agg (ints [p.1,p.2]).toArray
def p2_ok (p:Nat × Nat):Prop:=∀ x ∈ [p.1,p.2],i64ok x
theorem key2:KeyEnc Tryz.prog 185 p2V p2_ok:={
 keyed:=Keyed.of_law (deep_law_laid blaidOut (m:=5) (by omega) (of_decide_eq_true (by kernel_rfl)) (by kernel_rfl) (by kernel_rfl))
 lit:=fun d hd=>key_array Tryz.underlying185 Tryz.underlying3 (by kernel_rfl) (by kernel_rfl) (by kernel_rfl) (m:=Tryz.prog.types.size - 1) (by kernel_rfl) rfl hd
 inj:=fun x y h=>by
  have:=ints_inj h
  cases x; cases y; simp at this; simp [this] }
abbrev MemA (b:Nat) (M:Mem2):Asr:=MapA b p2V natV p2_ok M
def ApPost (m n lim op:Nat) (S:Nat→Nat→Prop) (ns:Ns) (M:Mem2) (f g b:Nat) (B:Asr) (w:World) (F:List Nat) (v:Value) (w':World):Prop :=
 ∃ r ns' M',v=optV r∧ApOk n lim op S ns M f g r ns' M'∧At w F (Star (MgrA m n lim ns') (Star (MemA b M') B)) w'
def ApE (m op p q b:Nat) (ρ:Env):Prop:=ρ 0=.pointer (some ⟨m,0,none⟩)∧ρ 1=.int .i64 (op:Nat)∧ρ 2=.int .i64 (p:Nat)∧ρ 3=.int .i64 (q:Nat)∧ρ 4=.map (some b)
theorem getM_in {κ α:Type} [DecidableEq κ] {l:List (κ × α)} {x:κ} {v:α} (h:getM l x=some v):(x,v) ∈ l:=by
 rw [getM,Option.map_eq_some_iff] at h
 obtain ⟨q,hq,rfl⟩:=h
 have h1:=List.mem_of_find?_eq_some hq
 have h2:q.1=x:=by simpa using List.find?_some hq
 rw [← h2]; exact h1
theorem getM_no {κ α:Type} [DecidableEq κ] {l:List (κ × α)} {x:κ} (h:getM l x=none):∀ q ∈ l,q.1≠x:=by
 rw [getM,Option.map_eq_none_iff,List.find?_eq_none] at h
 intro q hq; simpa using h q hq
theorem putM_no {κ α:Type} [DecidableEq κ] {l:List (κ × α)} {x:κ} {v:α} (h:∀ q ∈ l,q.1≠x):putM l x v=l ++ [(x,v)]:=by
 rw [putM,if_neg]
 simp only [List.any_eq_true,decide_eq_true_eq,not_exists,not_and]
 exact h
theorem MapM.nodup {κ α:Type} {ek:κ→Value} {ev:α→Value} {ok:κ→Prop} {w:World} {b:Nat} {l:List (κ × α)} (h:MapM w b ek ev ok l):(l.map (·.1)).Nodup:=by
 obtain ⟨es,clock,_,_,_,_,hnd,_⟩:=h
 exact hnd
set_option maxHeartbeats 4000000 in
theorem apply_aux (m n lim op b:Nat) (hop:op≤2) (S:Nat→Nat→Prop) (w:World) (F:List Nat):∀ (d f g:Nat) (ns:Ns) (M:Mem2) (B:Asr) (w1:World),Lcl B→Wf n ns→Bnd n lim ns→Ref ns f→Ref ns g→n≤d+min (tv n ns f) (tv n ns g)→MemOk op ns M→Clo n op ns S→Sn op S f g →
  At w F (Star (MgrA m n lim ns) (Star (MemA b M) B)) w1 →
  Calls Tryz.prog 107 [.pointer (some ⟨m,0,none⟩),.int .i64 (op:Nat),.int .i64 (f:Nat),.int .i64 (g:Nat),.map (some b)].toArray w1 fun e w'=>∃ v,e=.returned v∧ApPost m n lim op S ns M f g b B w F v w':=by
 intro d
 induction d using Nat.strongRecOn with
 | ind d ih =>
 intro f g ns M B w1 hB hw hb hf hg hd hM hC hS hA
 obtain ⟨hbn,hbl,hbs⟩:=hb
 refine enter Tryz.func107 mixed low107 (Nat.le_of_ble_eq_true rfl) ?_
 simp only [L107]
 refine seq_cut (fun ρ w'=>ApE m op f g b ρ∧w'=w1) (by simp [ApE]) ?_
 rintro ρ w' ⟨⟨g0,g1,g2,g3,g4⟩,rfl⟩
 refine seq_cut (fun ρ w''=>ApE m op (min f g) (max f g) b ρ∧w''=w') ?_ ?_
 ·rcases Nat.lt_or_ge g f with h | h
  ·have h':(g:Int) < f:=by omega
   simp [g2,g3,h,h',ApE,g0,g1,g4]
   omega
  ·have h':¬ (g:Int) < f:=by omega
   have h'':¬ g < f:=by omega
   simp [g2,g3,h',h'',ApE,g0,g1,g4]
   omega
 clear g0 g1 g2 g3 g4
 rintro ρ w2 ⟨⟨g0,g1,g2,g3,g4⟩,rfl⟩
 have hfin:∀ v w'',ApPost m n lim op S ns M (min f g) (max f g) b B w F v w''→ApPost m n lim op S ns M f g b B w F v w'':=by
  rintro v w'' ⟨r,ns',M',h1,h2,h3⟩
  refine ⟨r,ns',M',h1,?_,h3⟩
  rcases Nat.le_total f g with h | h
  ·rwa [Nat.min_eq_left h,Nat.max_eq_right h] at h2
  ·rw [Nat.min_eq_right h,Nat.max_eq_left h] at h2; exact h2.swap
 have hpq:min f g≤max f g:=by omega
 have hrp:Ref ns (min f g):=by unfold Ref at *; omega
 have hrq:Ref ns (max f g):=by unfold Ref at *; omega
 have hdm:n≤d+min (tv n ns (min f g)) (tv n ns (max f g)):=by
  rcases Nat.le_total f g with h | h
  ·rwa [Nat.min_eq_left h,Nat.max_eq_right h]
  ·rw [Nat.min_eq_right h,Nat.max_eq_left h,Nat.min_comm]; exact hd
 unfold Sn at hS
 obtain ⟨p,hp⟩:∃ p,p=min f g:=⟨_,rfl⟩
 obtain ⟨q,hq⟩:∃ q,q=max f g:=⟨_,rfl⟩
 rw [← hp,← hq] at hfin hpq hdm hS
 rw [← hp] at hrp g2
 rw [← hq] at hrq g3
 refine seq_cut (fun ρ w''=>ApE m op p q b ρ∧(sh op p q).2=false∧At w F (Star (MgrA m n lim ns) (Star (MemA b M) B)) w'') ?_ ?_
 ·simp [g1,g2,g3]
  refine cl_of (short_spec op p q w2 hop) ?_
  rintro v w3 ⟨rfl,k3⟩
  have h3:=hA.kp0 (Lcl.mgr.star (Lcl.map.star hB)) k3
  cases hsh:sh op p q with
  | mk r t =>
  cases t with
  | true =>
   simp
   refine hfin _ _ ⟨some r,ns,M,rfl,ap_short hw hbs hrp hrq hM hsh,h3⟩
  | false =>
   simp [ApE,g0,g1,g2,g3,g4]
   exact h3
 clear g0 g1 g2 g3 g4
 rintro ρ w3 ⟨⟨g0,g1,g2,g3,g4⟩,hshf,h3⟩
 have hSpq:S p q:=by
  rcases hS with h | h
  ·rw [h] at hshf; cases hshf
  ·exact h
 have hok:p2_ok (p,q):=by
  intro x hx
  unfold i64ok Ref at *
  simp at hx
  rcases hx with rfl | rfl <;> omega
 refine seq_cut (fun ρ w''=>ApE m op p q b ρ∧getM M (p,q)=none∧At w F (Star (MgrA m n lim ns) (Star (MemA b M) B)) w'') ?_ ?_
 ·simp [g2,g3,g4]
  refine MapM.look2 (x:=(p,q)) h3.drop.map key2 Tryz.underlying167 zint hok ?_
  cases hgm:getM M (p,q) with
  | some r =>
   simp [natV]
   exact hfin _ _ ⟨some r,ns,M,rfl,ap_known hw hbs hM (getM_in hgm),h3⟩
  | none =>
   simp [ApE,g0,g1,g2,g3,g4]
   exact h3
 clear g0 g1 g2 g3 g4
 rintro ρ w4 ⟨⟨g0,g1,g2,g3,g4⟩,hgm,h4⟩
 have hb':Bnd n lim ns:=⟨hbn,hbl,hbs⟩
 have hLX:Lcl (Star (MgrA m n lim ns) (Star (MemA b M) B)):=Lcl.mgr.star (Lcl.map.star hB)
 refine seq_cut (fun ρ w''=>ApE m op p q b ρ∧∃ ta tb,ρ 16=.pointer (some ⟨ta,0,none⟩)∧ρ 17=.pointer (some ⟨tb,0,none⟩) ∧
   At w F (Star (ObjA ta (.cells (en (at_ n ns p)).toArray 137 (0,0))) (Star (ObjA tb (.cells (en (at_ n ns q)).toArray 137 (0,0))) (Star (MgrA m n lim ns) (Star (MemA b M) B)))) w'') ?_ ?_
 ·simp [g0,g2,g3]
  refine cl_of (at_spec m n lim p ns w4 (MgrA.rd h4) hb' hrp) ?_
  rintro v w5 ⟨rfl,k5⟩
  have h5:=h4.kp0 hLX k5
  simp [g0,g2,g3]
  refine cl_of (at_spec m n lim q ns w5 (MgrA.rd h5) hb' hrq) ?_
  rintro v w6 ⟨rfl,k6⟩
  have h6:=h5.kp0 hLX k6
  obtain ⟨a1,ha1⟩:∃ d,d=at_ n ns p:=⟨_,rfl⟩
  obtain ⟨b1,hb1⟩:∃ d,d=at_ n ns q:=⟨_,rfl⟩
  rw [← ha1,← hb1]
  have h7:=h6.alloc (.cells #[.int .i64 0,.int .i64 0,.int .i64 0] 137) hLX
  have h8:=h7.alloc (.cells #[.int .i64 0,.int .i64 0,.int .i64 0] 137) (Lcl.obj.star hLX)
  rw [show (w6.alloc (.cells #[.int .i64 0,.int .i64 0,.int .i64 0] 137)).heap.size=w6.heap.size+1 by simp] at h8
  simp [ndV,bn_len]
  refine h8.rot.st (Lcl.obj.star hLX) (by simp [en,ints]) (by simp [en,ints]) fun w9 h9=>?_
  simp [ndV,bn_len]
  refine h9.rot.st (Lcl.obj.star hLX) (by simp [en,ints]) (by simp [en,ints]) fun w10 h10=>?_
  simp [ApE,g0,g1,g2,g3,g4]
  have e3:∀ d:Nd,wrAt #[.int .i64 0,.int .i64 0,.int .i64 0] 0 (en d)=(en d).toArray:=fun d=>by simp [en,ints]
  rw [e3,e3] at h10
  exact h10.rot
 clear g0 g1 g2 g3 g4
 rintro ρ w5 ⟨⟨g0,g1,g2,g3,g4⟩,ta,tb,g16,g17,h5⟩
 have hpre:ApPre n op S ns M p q (min (tv n ns p) (tv n ns q)):=ApPre.mk' hw hrp hrq hSpq hpq hshf (getM_no hgm)
 obtain ⟨v,hv⟩:∃ v,v=min (tv n ns p) (tv n ns q):=⟨_,rfl⟩
 rw [← hv] at hpre
 have hlp:∀ x,Ref ns x→x≤1048577:=fun x hx=>by unfold Ref at hx; omega
 have hoa:=h5.obj
 have hob:=h5.drop.obj
 refine seq_cut (fun ρ w''=>ApE m op p q b ρ∧ρ 16=.pointer (some ⟨ta,0,none⟩)∧ρ 17=.pointer (some ⟨tb,0,none⟩)∧ρ 18=.int .i64 (v:Nat)∧w''=w5) ?_ ?_
 ·simp [g16,g17,cell_blk hoa,cell_blk hob,en,ints,ApE,g0,g1,g2,g3,g4]
  have:tv n ns p=(at_ n ns p).v:=rfl
  have:tv n ns q=(at_ n ns q).v:=rfl
  omega
 clear g0 g1 g2 g3 g4 g16 g17
 rintro ρ w6 ⟨⟨g0,g1,g2,g3,g4⟩,g16,g17,g18,rfl⟩
 have hLB:Lcl (Star (ObjA tb (.cells (en (at_ n ns q)).toArray 137 (0,0))) (Star (MgrA m n lim ns) (Star (MemA b M) B))):=Lcl.obj.star hLX
 refine seq_cut (fun ρ w''=>ApE m op p q b ρ∧ρ 16=.pointer (some ⟨ta,0,none⟩)∧ρ 17=.pointer (some ⟨tb,0,none⟩)∧ρ 18=.int .i64 (v:Nat) ∧
   At w F (Star (ObjA ta (.cells (en ⟨v,lo n ns v p,hi n ns v p⟩).toArray 137 (0,0))) (Star (ObjA tb (.cells (en (at_ n ns q)).toArray 137 (0,0))) (Star (MgrA m n lim ns) (Star (MemA b M) B)))) w'') ?_ ?_
 ·have e:tv n ns p=(at_ n ns p).v:=rfl
  by_cases hgt:v < (at_ n ns p).v
  ·have hgt':(v:Int) < (at_ n ns p).v:=by omega
   simp [g16,g18,g2,cell_blk hoa,en,ints,hgt,hgt']
   refine h5.st hLB (by simp [en,ints]) (by simp) fun w7 h7=>?_
   simp [ApE,g0,g1,g2,g3,g4,g16,g17,g18]
   have hlo:lo n ns v p=p:=by unfold lo; rw [if_pos (by rw [e]; exact hgt)]
   have hhi:hi n ns v p=p:=by unfold hi; rw [if_pos (by rw [e]; exact hgt)]
   rw [hlo,hhi]
   simpa [en,ints] using h7
  ·have hgt':¬ (v:Int) < (at_ n ns p).v:=by omega
   have hev:(at_ n ns p).v=v:=by rw [e] at hv; omega
   have hlo:lo n ns v p=(at_ n ns p).low:=by unfold lo; rw [if_neg (by rw [e]; exact hgt)]
   have hhi:hi n ns v p=(at_ n ns p).high:=by unfold hi; rw [if_neg (by rw [e]; exact hgt)]
   simp [g16,g18,g2,cell_blk hoa,en,ints,hgt,hgt',ApE,g0,g1,g3,g4,g17]
   rw [hlo,hhi]
   have h5':=h5
   simpa [en,ints,hev] using h5'
 clear g0 g1 g2 g3 g4 g16 g17 g18
 rintro ρ w7 ⟨⟨g0,g1,g2,g3,g4⟩,g16,g17,g18,h7⟩
 have hob:=h7.drop.obj
 have hLA:Lcl (Star (ObjA ta (.cells (en ⟨v,lo n ns v p,hi n ns v p⟩).toArray 137 (0,0))) (Star (MgrA m n lim ns) (Star (MemA b M) B))):=Lcl.obj.star hLX
 refine seq_cut (fun ρ w''=>ApE m op p q b ρ∧ρ 16=.pointer (some ⟨ta,0,none⟩)∧ρ 17=.pointer (some ⟨tb,0,none⟩)∧ρ 18=.int .i64 (v:Nat) ∧
   At w F (Star (ObjA ta (.cells (en ⟨v,lo n ns v p,hi n ns v p⟩).toArray 137 (0,0))) (Star (ObjA tb (.cells (en ⟨v,lo n ns v q,hi n ns v q⟩).toArray 137 (0,0))) (Star (MgrA m n lim ns) (Star (MemA b M) B)))) w'') ?_ ?_
 ·have e:tv n ns q=(at_ n ns q).v:=rfl
  by_cases hgt:v < (at_ n ns q).v
  ·have hgt':(v:Int) < (at_ n ns q).v:=by omega
   simp [g17,g18,g3,cell_blk hob,en,ints,hgt,hgt']
   refine h7.rot.st hLA (by simp [en,ints]) (by simp) fun w8 h8=>?_
   simp [ApE,g0,g1,g2,g3,g4,g16,g17,g18]
   have hlo:lo n ns v q=q:=by unfold lo; rw [if_pos (by rw [e]; exact hgt)]
   have hhi:hi n ns v q=q:=by unfold hi; rw [if_pos (by rw [e]; exact hgt)]
   rw [hlo,hhi]
   simpa [en,ints] using h8.rot
  ·have hgt':¬ (v:Int) < (at_ n ns q).v:=by omega
   have hev:(at_ n ns q).v=v:=by rw [e] at hv; omega
   have hlo:lo n ns v q=(at_ n ns q).low:=by unfold lo; rw [if_neg (by rw [e]; exact hgt)]
   have hhi:hi n ns v q=(at_ n ns q).high:=by unfold hi; rw [if_neg (by rw [e]; exact hgt)]
   simp [g17,g18,g3,cell_blk hob,en,ints,hgt,hgt',ApE,g0,g1,g2,g4,g16]
   rw [hlo,hhi]
   simpa [en,ints,hev] using h7
 clear g0 g1 g2 g3 g4 g16 g17 g18
 rintro ρ w8 ⟨⟨g0,g1,g2,g3,g4⟩,g16,g17,g18,h8⟩
 have hclo:=hC p q hSpq
 rw [← hv] at hclo
 obtain ⟨_,_,hSl,hSh⟩:=hclo
 have hcp:=hpre.cp
 have hcq:=hpre.cq
 have hLo:Lcl (Star (ObjA ta (.cells (en ⟨v,lo n ns v p,hi n ns v p⟩).toArray 137 (0,0))) (Star (ObjA tb (.cells (en ⟨v,lo n ns v q,hi n ns v q⟩).toArray 137 (0,0))) B)):=Lcl.obj.star (Lcl.obj.star hB)
 have hoa:=h8.obj
 have hob:=h8.drop.obj
 simp [g0,g1,g4,g16,g17,cell_blk hoa,cell_blk hob,en,ints]
 have tl1:=hcp.tl
 have tl2:=hcq.tl
 have th1:=hcp.th
 have th2:=hcq.th
 have hvn0:=hpre.vn
 refine cl_of (ih (d - 1) (by omega) (lo n ns v p) (lo n ns v q) ns M _ w8 hLo hw hb' hcp.rl hcq.rl (by omega) hM hC hSl h8.rot4.rot4) ?_
 rintro _ w9 ⟨r1,ns1,M1,rfl,hl,h9⟩
 have drp:∀ {nsx:Ns} {Mx:Mem2} {wx:World},At w F (Star (MgrA m n lim nsx) (Star (MemA b Mx) (Star (ObjA ta (.cells (en ⟨v,lo n ns v p,hi n ns v p⟩).toArray 137 (0,0))) (Star (ObjA tb (.cells (en ⟨v,lo n ns v q,hi n ns v q⟩).toArray 137 (0,0))) B)))) wx→At w F (Star (MgrA m n lim nsx) (Star (MemA b Mx) B)) wx:=fun h=>h.by (Imp.un (Imp.un (Imp.dr.trans Imp.dr)))
 cases r1 with
 | none =>
  simp [optV,bnoV,berrV]
  exact hfin _ _ ⟨none,ns1,M1,rfl,ap_low hpre hl,drp h9⟩
 | some l =>
 have hw1:=hl.ext.wf
 have hb1:Bnd n lim ns1:=⟨hbn,hbl,hl.lim⟩
 have hoa:=h9.drop.drop.obj
 have hob:=h9.drop.drop.drop.obj
 simp [optV,okV,g0,g1,g4,g16,g17,cell_blk hoa,cell_blk hob,en,ints]
 refine cl_of (ih (d - 1) (by omega) (hi n ns v p) (hi n ns v q) ns1 M1 _ w9 hLo hw1 hb1 (hl.ext.ref hcp.rh) (hl.ext.ref hcq.rh) (by rw [hl.ext.tv hcp.rh,hl.ext.tv hcq.rh]; omega) hl.mem (hC.ext hl.ext) hSh h9) ?_
 rintro _ w10 ⟨r2,ns2,M2,rfl,hh,h10⟩
 rw [← hi_ext hl.ext hpre.rp,← hi_ext hl.ext hpre.rq] at hh
 cases r2 with
 | none =>
  simp [optV,bnoV,berrV]
  exact hfin _ _ ⟨none,ns2,M2,rfl,ap_high hpre hl hh,drp h10⟩
 | some hgh =>
 have hm:=ap_mid hpre hl hh
 have hmk:=ap_make hpre hl hh
 have hb2:Bnd n lim ns2:=⟨hbn,hbl,hm.lim⟩
 have hl2:=hm.lim
 have hvn:=hpre.vn
 have hlr:l≤2000000:=by have:=hmk.1; unfold Ref at this; omega
 have hhr:hgh≤2000000:=by have:=hmk.2.1; unfold Ref at this; omega
 simp [optV,okV,g0,g18]
 refine cl_of (make_spec m n lim ns2 v l hgh (Lcl.map.star hLo) h10 hb2 (by omega) hlr hhr) ?_
 rintro _ w11 ⟨rfl,h11⟩
 cases hk:(mkF lim ns2 v l hgh).1 with
 | none =>
  simp [optV,bnoV,berrV]
  exact hfin _ _ ⟨none,_,M2,rfl,ap_full hpre hl hh hk,drp h11⟩
 | some x =>
 simp [optV,okV,g2,g3,g4]
 have hml:=mem_small (N:=1048578) (by omega) (fun q hq=>⟨(hm.mem q hq).1,(hm.mem q hq).2.1⟩) (MapM.nodup h10.drop.map)
 refine At.put (x:=(p,q)) (v:=x) (Lcl.mgr.star hLo) h11.rot key2 Tryz.underlying167 hok (by unfold maxLen; omega) fun w12 h12=>?_
 rw [putM_no (mid_nokey hpre hm)] at h12
 simp
 exact hfin _ _ ⟨some x,_,_,rfl,ap_done hpre hl hh hk,drp h12.rot⟩
theorem bddApply_spec {w w1:World} {F:List Nat} {B:Asr} (m n lim op b f g:Nat) (hop:op≤2) (S:Nat→Nat→Prop) (ns:Ns) (M:Mem2) (hB:Lcl B) (hw:Wf n ns) (hb:Bnd n lim ns) (hf:Ref ns f) (hg:Ref ns g) (hM:MemOk op ns M) (hC:Clo n op ns S) (hS:Sn op S f g)
  (hA:At w F (Star (MgrA m n lim ns) (Star (MemA b M) B)) w1) :
  Calls Tryz.prog 107 [.pointer (some ⟨m,0,none⟩),.int .i64 (op:Nat),.int .i64 (f:Nat),.int .i64 (g:Nat),.map (some b)].toArray w1 fun e w'=>∃ v,e=.returned v∧ApPost m n lim op S ns M f g b B w F v w' :=
 apply_aux m n lim op b hop S w F n f g ns M B w1 hB hw hb hf hg (by omega) hM hC hS hA
def iv (n:Int):List Value:=[.int .i64 n]
theorem iv_len (n:Int):(iv n).length=1:=rfl
theorem iv_one (n:Int):(iv n).all oneC=true:=rfl
theorem iv_cell {w:World} {v:Value} {xs:List Int} (h:Vw w v iv xs) {k:Nat} {x:Int} (hx:xs[k]?=some x):w.cell? (v.adr.add k)=some (.int .i64 x):=Vw.cell (f:=fun n:Int=>.int .i64 n) h hx
def refB (ns:Ns) (x:Int):Bool:=decide (0≤x) && decide (x < ns.length+2)
def bchkV (b:Bool):Value:=if b then .nilIface else berrV 1
theorem check_spec (m n lim:Nat) (ns:Ns) (v:Value) (xs:List Int) (w:World) (h:MgrF w m n lim ns) (hb:Bnd n lim ns) (hv:Vw w v iv xs) (hx:xs.length≤1000000) :
  Calls Tryz.prog 83 [.pointer (some ⟨m,0,none⟩),v].toArray w fun e w'=>∃ x,e=.returned x∧x=bchkV (xs.all (refB ns))∧Kp [] w w':=by
 obtain ⟨hbn,hbl,hbs⟩:=hb
 refine enter Tryz.func83 mixed low83 (Nat.le_of_ble_eq_true rfl) ?_
 simp only [L83]
 simp [hv.len]
 refine range_loop (n:=xs.length) (by omega) (fun k ρ w1=>ρ 0=.pointer (some ⟨m,0,none⟩)∧ρ 10=v∧(∀ j x,j < k→xs[j]?=some x→refB ns x=true)∧Kp [] w w1) (by simp) (by simp)
  ⟨by simp,by simp,by simp,Kp.refl _ _⟩ (by decide) (fun _ _ _ _ h=>by simpa using h) (fun _ _ _ _ h=>by simpa using h) ?_ ?_
 ·rintro k ρ w1 hk hc hlim ⟨g0,g10,hall,hkp⟩
  have hv1:=hv.kp0 hkp
  obtain ⟨nv,b,ho,hown,_⟩:=h.kp0 hkp
  have ek:xs[k]?=some xs[k]:=List.getElem?_eq_getElem hk
  obtain ⟨x,hxe⟩:∃ x,x=xs[k]:=⟨_,rfl⟩
  rw [← hxe] at ek
  have bad:refB ns x=false→xs.all (refB ns)=false:=fun h=>by
   rw [List.all_eq_false]
   exact ⟨x,List.mem_of_getElem? ek,by simp [h]⟩
  unfold mgrO at ho
  simp (disch:=omega) [g0,g10,hc,hv1.idx,iv_cell hv1 ek,cell_blk ho,hown.len,wrap_i64]
  by_cases h1:x < 0
  ·simp [h1]
   refine ⟨?_,hkp⟩
   rw [bad (by simp [refB]; omega)]; rfl
  by_cases h2:(ns.length:Int)+2≤x
  ·simp (disch:=omega) [h1,h2,wrap_i64,cell_blk ho,hown.len,g0]
   refine ⟨?_,hkp⟩
   rw [bad (by simp [refB]; omega)]; rfl
  ·simp (disch:=omega) [h1,h2,wrap_i64,cell_blk ho,hown.len,hc,hlim,g0,g10]
   refine ⟨fun j y hj hy=>?_,hkp⟩
   rcases Nat.lt_or_ge j k with h3 | h3
   ·exact hall j y h3 hy
   ·have:j=k:=by omega
    subst this
    rw [ek] at hy
    rw [← Option.some.inj hy]
    simp [refB]; omega
 ·rintro ρ w1 ⟨g0,g10,hall,hkp⟩
  simp
  refine ⟨?_,hkp⟩
  have:xs.all (refB ns)=true:=by
   rw [List.all_eq_true]
   intro x hx
   obtain ⟨j,hj⟩:=List.getElem?_of_mem hx
   exact hall j x (List.getElem?_eq_some_iff.1 hj).1 hj
  rw [this]; rfl
end Go.Proofs.YtkhfdmelcpfgoaaGreat
end
section
set_option maxRecDepth 100000
set_option linter.unusedSimpArgs false
set_option linter.unusedVariables false
namespace Go.Proofs.YtkhfdmelcpfgoaaGreat
open Go Go.W Go.Bd Go.Maps
theorem new_spec {w w1:World} {F:List Nat} {B:Asr} (n lim:Nat) (hB:Lcl B) (hA:At w F B w1) (hn:n≤256) (h1:1≤lim) (h2:lim≤1048576) :
  Calls Tryz.prog 47 [.int .i64 (n:Nat),.int .i64 (lim:Nat)].toArray w1 fun e w'=>∃ x,e=.returned x∧∃ m,x=.tuple #[.pointer (some ⟨m,0,none⟩),.nilIface]∧At w F (Star (MgrA m n lim []) B) w':=by
 refine enter Tryz.func47 mixed low47 (Nat.le_of_ble_eq_true rfl) ?_
 simp only [L47]
 have a1:¬ (n:Int) < 0:=by omega
 have a2:¬ (256:Int) < n:=by omega
 have a3:¬ (lim:Int) < 1:=by omega
 have a4:¬ (1048576:Int) < lim:=by omega
 simp [a1,a2,a3,a4]
 have h3:=hA.newmap (ek:=ndV) (ev:=natV) (ok:=nd_ok) hB
 have h4:=h3.alloc (.cells #[.int .i64 n,.int .i64 lim,.slice none 0 0,.map (some w1.heap.size)] 127 (0,0)) (Lcl.map.star hB)
 rw [show (w1.alloc (.map #[] 0)).heap.size=w1.heap.size+1 by simp] at h4
 have h5:=At.nil (E:=137) (sz:=3) (enc:=en) (Lcl.obj.star (Lcl.map.star hB)) h4
 exact MgrA.cls (ns:=[]) (nv:=.slice none 0 0) h5.rot
theorem var_spec {w w1:World} {F:List Nat} {B:Asr} (m n lim:Nat) (ns:Ns) (i:Nat) (hB:Lcl B) (hA:At w F (Star (MgrA m n lim ns) B) w1) (hb:Bnd n lim ns) (hi:i < n) :
  Calls Tryz.prog 82 [.pointer (some ⟨m,0,none⟩),.int .i64 (i:Nat)].toArray w1 fun e w'=>∃ x,e=.returned x∧x=optV (mkF lim ns i 0 1).1∧At w F (Star (MgrA m n lim (mkF lim ns i 0 1).2) B) w':=by
 have hbn:=hb.hn
 refine enter Tryz.func82 mixed low82 (Nat.le_of_ble_eq_true rfl) ?_
 simp only [L82]
 obtain ⟨nv,b,ho,hown,_⟩:=MgrA.rd hA
 unfold mgrO at ho
 have h1:¬ (i:Int) < 0:=by omega
 have h2:¬ (n:Int)≤i:=by omega
 have h2':¬ n≤i:=by omega
 simp [h1,h2,h2',cell_blk ho]
 refine cl_of (make_spec m n lim ns i 0 1 hB hA hb (by omega) (by omega) (by omega)) ?_
 rintro v w2 ⟨rfl,h3⟩
 cases hk:(mkF lim ns i 0 1).1 <;> simp [optV,okV,bnoV,berrV] <;> exact h3
theorem lit_ints {w w1:World} {F:List Nat} {B:Asr} {xs:List Int} {cs:Array Value} (hB:Lcl B) (h:At w F B w1) (hcs:cs.toList=xs.flatMap iv) (hn:xs.length≤1000000) {m:Nat} (hm:m=xs.length) :
  At w F (Star (OwnA (.slice (some ⟨w1.heap.size,0,none⟩) m m) 3 1 iv xs) B) (w1.alloc (.cells cs 3)) :=
 h.lit hB hcs iv_len (by unfold maxLen; omega) hm
def BinPost (m n lim op:Nat) (S:Nat→Nat→Prop) (ns:Ns) (f g:Nat) (B:Asr) (w:World) (F:List Nat) (v:Value) (w':World):Prop :=
 ∃ r ns',v=optV r∧BinOk n lim op S ns f g r ns'∧At w F (Star (MgrA m n lim ns') B) w'
theorem binary_spec {w w1:World} {F:List Nat} {B:Asr} (m n lim:Nat) (ns:Ns) (op f g:Nat) (S:Nat→Nat→Prop) (hop:op≤2) (hB:Lcl B) (hA:At w F (Star (MgrA m n lim ns) B) w1) (hw:Wf n ns) (hb:Bnd n lim ns) (hf:Ref ns f) (hg:Ref ns g) (hC:Clo n op ns S) (hS:Sn op S f g) :
  Calls Tryz.prog 94 [.pointer (some ⟨m,0,none⟩),.int .i64 (op:Nat),.int .i64 (f:Nat),.int .i64 (g:Nat)].toArray w1 fun e w'=>∃ x,e=.returned x∧BinPost m n lim op S ns f g B w F x w':=by
 refine enter Tryz.func94 mixed low94 (Nat.le_of_ble_eq_true rfl) ?_
 simp only [L94]
 have hl:Lcl (Star (MgrA m n lim ns) B):=Lcl.mgr.star hB
 have h1:=lit_ints (xs:=[(f:Int),(g:Int)]) (cs:=#[.int .i64 f,.int .i64 g]) hl hA rfl (by simp) rfl
 simp [rowOf]
 refine cl_of (check_spec m n lim ns _ [(f:Int),(g:Int)] _ (MgrA.rd h1.drop) hb h1.own.vw (by simp)) ?_
 rintro v w2 ⟨rfl,k2⟩
 have h2:=(h1.drop).kp0 hl k2
 have:[(f:Int),(g:Int)].all (refB ns)=true:=by
  unfold Ref at hf hg
  simp [refB]; omega
 rw [this]
 simp [bchkV]
 have h3:=(h2.newmap (ek:=p2V) (ev:=natV) (ok:=p2_ok) hl).rot
 refine cl_of (bddApply_spec m n lim op _ f g hop S ns [] hB hw hb hf hg (fun q hq=>by cases hq) hC hS h3) ?_
 rintro _ w4 ⟨r,ns',M',rfl,hap,h4⟩
 have hbin:=bin_of_ap hap (MapM.nodup h4.drop.map)
 cases r with
 | none=>simp [optV,bnoV,berrV]; exact ⟨none,ns',rfl,hbin,h4.by (Imp.un Imp.dr)⟩
 | some x=>simp [optV,okV]; exact ⟨some x,ns',rfl,hbin,h4.by (Imp.un Imp.dr)⟩
end Go.Proofs.YtkhfdmelcpfgoaaGreat
end
section
set_option maxRecDepth 100000
set_option linter.unusedSimpArgs false
set_option linter.unusedVariables false
namespace Go.Proofs.YtkhfdmelcpfgoaaGreat
open Go Go.W Go.Bd Go.Maps
theorem bkeyI:KeyEnc Tryz.prog 3 natV i64ok:={
 keyed:=int_keyed Tryz.underlying3
 lit:=fun d hd=>⟨_,keyOf_int_mk Tryz.underlying3 (wf_nat hd)⟩
 inj:=fun x y h=>by
  injection h with _ h; omega }
abbrev MemB (b:Nat) (M:Mem1):Asr:=MapA b natV natV i64ok M
def bv (b:Bool):List Value:=[.bool b]
theorem bv_len (b:Bool):(bv b).length=1:=rfl
theorem bv_one (b:Bool):(bv b).all oneC=true:=rfl
theorem bv_cell {w:World} {v:Value} {xs:List Bool} (h:Vw w v bv xs) {k:Nat} {x:Bool} (hx:xs[k]?=some x):w.cell? (v.adr.add k)=some (.bool x):=Vw.cell (f:=Value.bool) h hx
def inB (ins:List Bool) (i:Nat):Bool:=ins.getD i false
def QPost (m n lim op:Nat) (ins:List Bool) (iv:Value) (ns:Ns) (f b:Nat) (B:Asr) (w:World) (F:List Nat) (v:Value) (w':World):Prop :=
 ∃ r ns' M',v=optV r∧QOk n lim op (inB ins) ns f r ns' M'∧At w F (Star (MgrA m n lim ns') (Star (MemB b M') (Star (VwA iv bv ins) B))) w'
theorem putM_mem {κ α:Type} [DecidableEq κ] {l:List (κ × α)} {x:κ} {v:α} {q:κ × α} (h:q ∈ putM l x v):q ∈ l∨q=(x,v):=by
 unfold putM at h
 split at h
 ·obtain ⟨p,hp,e⟩:=List.mem_map.1 h
  split at e
  ·exact .inr e.symm
  ·exact .inl (e ▸ hp)
 ·rcases List.mem_append.1 h with h | h
  ·exact .inl h
  ·simp at h; exact .inr h
set_option maxHeartbeats 4000000 in
theorem quantify_aux (m n lim op b:Nat) (hop:op≤1) (ins:List Bool) (iv:Value) (hins:ins.length=n+1) (w:World) (F:List Nat):∀ (d f:Nat) (ns:Ns) (M:Mem1) (B:Asr) (w1:World),Lcl B→Wf n ns→Bnd n lim ns→Ref ns f→f≤d→MemQ op (inB ins) ns M →
  At w F (Star (MgrA m n lim ns) (Star (MemB b M) (Star (VwA iv bv ins) B))) w1 →
  Calls Tryz.prog 139 [.pointer (some ⟨m,0,none⟩),.int .i64 (op:Nat),.int .i64 (f:Nat),iv,.map (some b)].toArray w1 fun e w'=>∃ v,e=.returned v∧QPost m n lim op ins iv ns f b B w F v w':=by
 intro d
 induction d using Nat.strongRecOn with
 | ind d ih =>
 intro f ns M B w1 hB hw hb hf hd hM hA
 obtain ⟨hbn,hbl,hbs⟩:=hb
 have hb':Bnd n lim ns:=⟨hbn,hbl,hbs⟩
 have hLV:Lcl (Star (VwA iv bv ins) B):=Lcl.vw.star hB
 have hLX:Lcl (Star (MgrA m n lim ns) (Star (MemB b M) (Star (VwA iv bv ins) B))):=Lcl.mgr.star (Lcl.map.star hLV)
 have hrf:f≤1048578:=by unfold Ref at hf; omega
 refine enter Tryz.func139 mixed low139 (Nat.le_of_ble_eq_true rfl) ?_
 simp only [L139]
 by_cases h2:f < 2
 ·have h2':(f:Int) < 2:=by omega
  simp [h2']
  exact ⟨some f,ns,M,rfl,q_const hw hbs hf h2 hM,hA⟩
 have h2':¬ (f:Int) < 2:=by omega
 simp [h2']
 refine MapM.look2 (x:=f) hA.drop.map bkeyI Tryz.underlying76 zint (show i64ok f by unfold i64ok; omega) ?_
 cases hgm:getM M f with
 | some r =>
  simp [natV]
  exact ⟨some r,ns,M,rfl,q_known hw hbs hM (getM_in hgm),hA⟩
 | none =>
 simp
 refine cl_of (at_spec m n lim f ns w1 (MgrA.rd hA) hb' hf) ?_
 rintro v w2 ⟨rfl,k2⟩
 have h3:=(hA.kp0 hLX k2).alloc (.cells #[.int .i64 0,.int .i64 0,.int .i64 0] 137) hLX
 simp [ndV,bn_len]
 refine h3.st hLX (by simp [en,ints]) (by simp [en,ints]) fun w4 h4=>?_
 have e3:∀ d:Nd,wrAt #[.int .i64 0,.int .i64 0,.int .i64 0] 0 (en d)=(en d).toArray:=fun d=>by simp [en,ints]
 rw [e3] at h4
 obtain ⟨t,ht⟩:∃ t,t=w2.heap.size:=⟨_,rfl⟩
 rw [← ht] at h4 ⊢
 have h5:=h4.tor4
 have hLT:Lcl (Star (ObjA t (.cells (en (at_ n ns f)).toArray 137 (0,0))) B):=Lcl.obj.star hB
 have hot:=h4.obj
 have hf2:2≤f:=by omega
 have l1:=hw.lt_low hf2 hf
 have l2:=hw.lt_high hf2 hf
 have tvn:=hw.tv_var hf2 hf
 have etv:tv n ns f=(at_ n ns f).v:=rfl
 simp [cell_blk hot,en,ints]
 refine cl_of (ih (d - 1) (by omega) (at_ n ns f).low ns M _ w4 hLT hw hb' (hw.ref_low hf) (by omega) hM h5) ?_
 rintro _ w6 ⟨r1,ns1,M1,rfl,hl,h6⟩
 have drp:∀ {nsx:Ns} {Mx:Mem1} {wx:World},At w F (Star (MgrA m n lim nsx) (Star (MemB b Mx) (Star (VwA iv bv ins) (Star (ObjA t (.cells (en (at_ n ns f)).toArray 137 (0,0))) B)))) wx→At w F (Star (MgrA m n lim nsx) (Star (MemB b Mx) (Star (VwA iv bv ins) B))) wx:=fun h=>h.by (Imp.un (Imp.un (Imp.un Imp.dr)))
 cases r1 with
 | none =>
  simp [optV,bnoV,berrV]
  exact ⟨none,ns1,M1,rfl,q_low hw hf hf2 hl,drp h6⟩
 | some l =>
 have hw1:=hl.ext.wf
 have hb1:Bnd n lim ns1:=⟨hbn,hbl,hl.lim⟩
 have hot:=h6.drop.drop.drop.obj
 simp [optV,okV,cell_blk hot,en,ints]
 refine cl_of (ih (d - 1) (by omega) (at_ n ns f).high ns1 M1 _ w6 hLT hw1 hb1 (hl.ext.ref (hw.ref_high hf)) (by omega) hl.mem h6) ?_
 rintro _ w7 ⟨r2,ns2,M2,rfl,hh,h7⟩
 cases r2 with
 | none =>
  simp [optV,bnoV,berrV]
  exact ⟨none,ns2,M2,rfl,q_high hw hf hf2 hl hh,drp h7⟩
 | some h =>
 have hm:=q_mid hw hf hf2 hl hh
 have hw2:=hm.ext.wf
 have hb2:Bnd n lim ns2:=⟨hbn,hbl,hm.lim⟩
 have hl2:=hm.lim
 have hot:=h7.drop.drop.drop.obj
 have hvw:=h7.drop.drop.vw
 have htl:=hm.tl
 have hth:=hm.th
 have htv:(at_ n ns f).v < ins.length:=by omega
 have hget:ins[(at_ n ns f).v]?=some (inB ins (at_ n ns f).v):=by simp [inB,List.getD,List.getElem?_eq_getElem htv]
 simp (disch:=omega) [optV,okV,cell_blk hot,en,ints,hvw.idx,bv_cell hvw hget]
 have hrl:=hm.rl
 have hrh:=hm.rh
 have hml:M2.length≤1048578:=mem1_small (ns:=ns2) (N:=1048578) (by omega) (fun q hq=>(hm.mem q hq).1) (MapM.nodup h7.drop.map)
 cases hin:inB ins (at_ n ns f).v with
 | true =>
  have h8:=(h7.newmap (ek:=p2V) (ev:=natV) (ok:=p2_ok) (Lcl.mgr.star (Lcl.map.star (Lcl.vw.star hLT)))).rot
  have hpc0:=pairs_clo (op:=op) hw2 (n - tv n ns f - 1) l h hrl hrh (by omega)
  have hps:=ps_clo hw2 op hrl hrh
  have hpc:=And.intro (Sn.and hpc0.1 hps.1) (Clo.and hpc0.2 hps.2)
  simp [cell_blk hot]
  refine cl_of (bddApply_spec m n lim op _ l h (by omega) _ ns2 [] (Lcl.map.star (Lcl.vw.star hLT)) hw2 hb2 hrl hrh (fun q hq=>by cases hq) hpc.2 hpc.1 h8) ?_
  rintro _ w9 ⟨r3,ns3,M3,rfl,hap,h9⟩
  have hbin:=bin_of_ap hap (MapM.nodup h9.drop.map)
  have h10:=h9.by (Imp.un Imp.dr)
  have hcnt:=hbin.cnt _ (fun x y h=>h.1)
  have hnew:∀ z,ns2.length+2≤z→z < ns3.length+2→∃ G:(Nat→Bool)→Bool,(∀ a,G a=true↔qS op (inB ins) (fun c=>eval ns c f) a)∧IsC G fun b=>eval ns3 b z:=fun z h1 h2 =>
   ⟨fun a=>opB op (eval ns2 a l) (eval ns2 a h),fun a=>q_sem_in hw hf hf2 hop hm hin a,hbin.new hw2 (fun x y h=>h.2) z h1 h2⟩
  have hpl:=pairs_len n op ns2 (n - tv n ns f - 1) l h
  have hp0:=Nat.two_pow_pos (n - tv n ns f - 1)
  have hsem:∀ x,r3=some x→Ref ns3 x∧∀ a,eval ns3 a x=true↔qS op (inB ins) (fun c=>eval ns c f) a:=fun x hx=>by
   obtain ⟨q1,q2⟩:=hbin.ok x hx
   exact ⟨q1,fun a=>by rw [q2,q_sem_in hw hf hf2 hop hm hin]⟩
  cases r3 with
  | none =>
   simp [optV,bnoV,berrV]
   exact ⟨none,ns3,M2,rfl,q_done hw hf hf2 hm hbin.ext hbin.lim (by omega) (fun _=>by have:=hcnt.2 rfl; omega) hsem (fun q hq=>.inl hq) hnew hbin.hit,drp h10⟩
  | some x =>
   simp [optV,okV]
   refine At.put (x:=f) (v:=x) (Lcl.mgr.star (Lcl.vw.star hLT)) h10.rot bkeyI Tryz.underlying76 (show i64ok f by unfold i64ok; omega) (by unfold maxLen; omega) fun w12 h12=>?_
   simp
   exact ⟨some x,ns3,_,rfl,q_done hw hf hf2 hm hbin.ext hbin.lim (by omega) (fun h=>by cases h) hsem (fun q hq=>(putM_mem hq).imp id fun e=>⟨x,rfl,e⟩) hnew (fun h=>by cases h),drp h12.rot⟩
 | false =>
  simp [cell_blk hot,en,ints]
  have hlr:l≤2000000:=by unfold Ref at hrl; omega
  have hhr:h≤2000000:=by unfold Ref at hrh; omega
  refine cl_of (make_spec m n lim ns2 (at_ n ns f).v l h (Lcl.map.star (Lcl.vw.star hLT)) h7 hb2 (by omega) hlr hhr) ?_
  rintro _ w9 ⟨rfl,h9⟩
  have mk:=mkF_ok (lim:=lim) hw2 (v:=(at_ n ns f).v) (by omega) hrl hrh htl hth
  have hp0:=Nat.two_pow_pos (n - tv n ns f - 1)
  have mlen:=mk.len
  have hsem:∀ x,(mkF lim ns2 (at_ n ns f).v l h).1=some x→Ref (mkF lim ns2 (at_ n ns f).v l h).2 x∧∀ a,eval (mkF lim ns2 (at_ n ns f).v l h).2 a x=true↔qS op (inB ins) (fun c=>eval ns c f) a:=fun x hx=>by
   obtain ⟨q1,_,q2⟩:=mk.ok x hx
   refine ⟨q1,fun a=>?_⟩
   rw [q2,mk.ext.eval hw2 a hrh,mk.ext.eval hw2 a hrl]
   exact q_sem_out hw hf hf2 hm hin a
  cases hk:(mkF lim ns2 (at_ n ns f).v l h).1 with
  | none =>
   simp [optV,bnoV,berrV]
   exact ⟨none,_,M2,rfl,q_done hw hf hf2 hm mk.ext (mk.lim hl2) (by omega) (fun _=>by have:=(mk.full hk).1; omega) (fun x hx=>by cases hx) (fun q hq=>.inl hq) (fun z h1 h2=>by rw [(mk.full hk).2] at h2; omega) (fun _=>by rw [(mk.full hk).2]; exact (mk.full hk).1),drp h9⟩
  | some x =>
   simp [optV,okV]
   refine At.put (x:=f) (v:=x) (Lcl.mgr.star (Lcl.vw.star hLT)) h9.rot bkeyI Tryz.underlying76 (show i64ok f by unfold i64ok; omega) (by unfold maxLen; omega) fun w12 h12=>?_
   simp
   exact ⟨some x,_,_,rfl,q_done hw hf hf2 hm mk.ext (mk.lim hl2) (by omega) (fun h=>by cases h) (fun y hy=>hsem y (by rw [hk]; exact hy)) (fun q hq=>(putM_mem hq).imp id fun e=>⟨x,rfl,e⟩) (fun z h1 h2=>⟨fun a=>eval (mkF lim ns2 (at_ n ns f).v l h).2 a z,fun a=>(hsem z (by rw [mkF_new hk h1 h2]; exact hk)).2 a,IsC.refl _⟩) (fun h=>by cases h),drp h12.rot⟩
end Go.Proofs.YtkhfdmelcpfgoaaGreat
end
section
set_option maxRecDepth 100000
set_option linter.unusedSimpArgs false
set_option linter.unusedVariables false
namespace Go.Proofs.YtkhfdmelcpfgoaaGreat
open Go Go.W Go.Bd Go.Maps
def varB (n:Nat) (x:Int):Bool:=decide (0≤x) && decide (x < n)
theorem checkVars_spec (m n lim:Nat) (ns:Ns) (v:Value) (xs:List Int) (w:World) (h:MgrF w m n lim ns) (hv:Vw w v iv xs) (hx:xs.length≤1000000) :
  Calls Tryz.prog 122 [.pointer (some ⟨m,0,none⟩),v].toArray w fun e w'=>∃ x,e=.returned x∧x=bchkV (xs.all (varB n))∧Kp [] w w':=by
 refine enter Tryz.func122 mixed low122 (Nat.le_of_ble_eq_true rfl) ?_
 simp only [L122]
 simp [hv.len]
 refine range_loop (n:=xs.length) (by omega) (fun k ρ w1=>ρ 0=.pointer (some ⟨m,0,none⟩)∧ρ 7=v∧(∀ j x,j < k→xs[j]?=some x→varB n x=true)∧Kp [] w w1) (by simp) (by simp)
  ⟨by simp,by simp,by simp,Kp.refl _ _⟩ (by decide) (fun _ _ _ _ h=>by simpa using h) (fun _ _ _ _ h=>by simpa using h) ?_ ?_
 ·rintro k ρ w1 hk hc hlim ⟨g0,g7,hall,hkp⟩
  have hv1:=hv.kp0 hkp
  obtain ⟨nv,b,ho,hown,_⟩:=h.kp0 hkp
  have ek:xs[k]?=some xs[k]:=List.getElem?_eq_getElem hk
  obtain ⟨x,hxe⟩:∃ x,x=xs[k]:=⟨_,rfl⟩
  rw [← hxe] at ek
  have bad:varB n x=false→xs.all (varB n)=false:=fun h=>by
   rw [List.all_eq_false]
   exact ⟨x,List.mem_of_getElem? ek,by simp [h]⟩
  unfold mgrO at ho
  simp (disch:=omega) [g0,g7,hc,hv1.idx,iv_cell hv1 ek,cell_blk ho]
  by_cases h1:x < 0
  ·simp [h1]
   refine ⟨?_,hkp⟩
   rw [bad (by simp [varB]; omega)]; rfl
  by_cases h2:(n:Int)≤x
  ·simp (disch:=omega) [h1,h2,cell_blk ho,g0]
   refine ⟨?_,hkp⟩
   rw [bad (by simp [varB]; omega)]; rfl
  ·simp (disch:=omega) [h1,h2,cell_blk ho,hc,hlim,g0,g7]
   refine ⟨fun j y hj hy=>?_,hkp⟩
   rcases Nat.lt_or_ge j k with h3 | h3
   ·exact hall j y h3 hy
   ·have:j=k:=by omega
    subst this
    rw [ek] at hy
    rw [← Option.some.inj hy]
    simp [varB]; omega
 ·rintro ρ w1 ⟨g0,g7,hall,hkp⟩
  simp
  refine ⟨?_,hkp⟩
  have:xs.all (varB n)=true:=by
   rw [List.all_eq_true]
   intro x hx
   obtain ⟨j,hj⟩:=List.getElem?_of_mem hx
   exact hall j x (List.getElem?_eq_some_iff.1 hj).1 hj
  rw [this]; rfl
def insOf (n:Nat) (xs:List Int):List Bool:=xs.foldl (fun l v=>l.set v.toNat true) (List.replicate (n+1) false)
theorem insOf_len (n:Nat) (xs:List Int):(insOf n xs).length=n+1:=by
 have key:∀ (xs:List Int) (l:List Bool),(xs.foldl (fun l v=>l.set v.toNat true) l).length=l.length:=by
  intro xs
  induction xs with
  | nil=>intro l; rfl
  | cons x xs ih=>intro l; rw [List.foldl_cons,ih]; simp
 rw [insOf,key]; simp
theorem insOf_snoc (n:Nat) (xs:List Int) (x:Int):insOf n (xs ++ [x])=(insOf n xs).set x.toNat true:=by simp [insOf,List.foldl_append]
theorem insOf_take {n:Nat} {xs:List Int} {k:Nat} {x:Int} (h:xs[k]?=some x):insOf n (xs.take (k+1))=(insOf n (xs.take k)).set x.toNat true:=by
 have hk:=(List.getElem?_eq_some_iff.1 h).1
 rw [← insOf_snoc]
 congr 1
 rw [List.take_add_one,h]; rfl
def QuPost (m n lim op:Nat) (xs:List Int) (vv:Value) (ns:Ns) (f:Nat) (B:Asr) (w:World) (F:List Nat) (v:Value) (w':World):Prop :=
 ∃ r ns' M',v=optV r∧QOk n lim op (inB (insOf n xs)) ns f r ns' M'∧At w F (Star (MgrA m n lim ns') (Star (VwA vv iv xs) B)) w'
theorem quantified_spec {w w1:World} {F:List Nat} {B:Asr} (m n lim:Nat) (ns:Ns) (op f:Nat) (v:Value) (xs:List Int) (hop:op≤1) (hB:Lcl B) (hA:At w F (Star (MgrA m n lim ns) (Star (VwA v iv xs) B)) w1) (hw:Wf n ns) (hb:Bnd n lim ns) (hf:Ref ns f) (hx:xs.length≤1000000) (hv:xs.all (varB n)=true) :
  Calls Tryz.prog 136 [.pointer (some ⟨m,0,none⟩),.int .i64 (op:Nat),.int .i64 (f:Nat),v].toArray w1 fun e w'=>∃ x,e=.returned x∧QuPost m n lim op xs v ns f B w F x w':=by
 have hbn:=hb.hn
 refine enter Tryz.func136 mixed low136 (Nat.le_of_ble_eq_true rfl) ?_
 simp only [L136]
 have hl:Lcl (Star (MgrA m n lim ns) (Star (VwA v iv xs) B)):=Lcl.mgr.star (Lcl.vw.star hB)
 have h1:=lit_ints (xs:=[(f:Int)]) (cs:=#[.int .i64 f]) hl hA rfl (by simp) rfl
 simp [rowOf]
 refine cl_of (check_spec m n lim ns _ [(f:Int)] _ (MgrA.rd h1.drop) hb h1.own.vw (by simp)) ?_
 rintro u w2 ⟨rfl,k2⟩
 have h2:=(h1.drop).kp0 hl k2
 have hr:[(f:Int)].all (refB ns)=true:=by
  unfold Ref at hf
  simp [refB]; omega
 rw [hr]
 simp [bchkV]
 refine cl_of (checkVars_spec m n lim ns v xs _ (MgrA.rd h2) h2.drop.vw hx) ?_
 rintro u w3 ⟨rfl,k3⟩
 have h3:=h2.kp0 hl k3
 rw [hv]
 obtain ⟨nv,b,ho,hown,_⟩:=MgrA.rd h3
 unfold mgrO at ho
 have hn1:((n:Int)+1).toNat=n+1:=by omega
 have h4:=h3.made (E:=4) (enc:=bv) (x:=false) (z:=[.bool false]) (n:=n+1) hl rfl bv_len (by unfold maxLen; omega)
 simp (disch:=omega) [bchkV,cell_blk ho,wrap_i64,hn1]
 refine gd_mk (by omega) ?_
 simp [h3.drop.vw.len]
 obtain ⟨sv,hsv⟩:∃ sv,sv=Value.slice (some ⟨w3.heap.size,0,none⟩) (n+1) (n+1):=⟨_,rfl⟩
 rw [← hsv] at h4 ⊢
 have hall:∀ (j:Nat) (x:Int),xs[j]?=some x→0≤x∧x < n:=fun j x hj=>by
  have:=List.all_eq_true.1 hv x (List.mem_of_getElem? hj)
  simpa [varB] using this
 refine range_loop (n:=xs.length) (by omega) (fun k ρ w5=>ρ 0=.pointer (some ⟨m,0,none⟩)∧ρ 1=.int .i64 (op:Nat)∧ρ 2=.int .i64 (f:Nat)∧ρ 12=sv∧ρ 34=v ∧
   At w F (Star (OwnA sv 4 1 bv (insOf n (xs.take k))) (Star (MgrA m n lim ns) (Star (VwA v iv xs) B))) w5) (by simp) (by simp)
  ⟨by simp,by simp,by simp,by simp,by simp,h4⟩ (by decide) (fun _ _ _ _ h=>by simpa using h) (fun _ _ _ _ h=>by simpa using h) ?_ ?_
 ·rintro k ρ w5 hk hc hlim ⟨g0,g1,g2,g12,g34,h5⟩
  have ek:xs[k]?=some xs[k]:=List.getElem?_eq_getElem hk
  obtain ⟨x,hxe⟩:∃ x,x=xs[k]:=⟨_,rfl⟩
  rw [← hxe] at ek
  obtain ⟨x0,x1⟩:=hall k x ek
  have hvw:=h5.drop.drop.vw
  have hlen:=insOf_len n (xs.take k)
  have hxl:x < (insOf n (xs.take k)).length:=by rw [hlen]; omega
  simp (disch:=omega) [g0,g1,g2,g12,g34,hc,hvw.idx,iv_cell hvw ek,h5.own.idx x0 hxl]
  refine At.store1 (k:=x.toNat) (x:=true) hl h5 bv_len bv_one (by omega) rfl fun w6 h6=>?_
  rw [← insOf_take ek] at h6
  simp [g0,g1,g2,g12,g34,hc,hlim]
  exact h6
 ·rintro ρ w5 ⟨g0,g1,g2,g12,g34,h5⟩
  rw [List.take_length] at h5
  simp [g0,g1,g2,g12]
  have h6:=(h5.own_vw.newmap (ek:=natV) (ev:=natV) (ok:=i64ok) (Lcl.vw.star hl))
  have h7:=h6.by (Imp.trans (Imp.un Imp.sw) Imp.sw)
  have h8:At w F (Star (MgrA m n lim ns) (Star (MemB w5.heap.size []) (Star (VwA sv bv (insOf n xs)) (Star (VwA v iv xs) B)))) (w5.alloc (.map #[] 0)):=h7
  refine cl_of (quantify_aux m n lim op _ hop (insOf n xs) sv (insOf_len n xs) w F f f ns [] _ _ (Lcl.vw.star hB) hw hb hf (Nat.le_refl _) (fun q hq=>by cases hq) h8) ?_
  rintro _ w9 ⟨r,ns',M',rfl,hq,h9⟩
  cases r with
  | none=>simp [optV,bnoV,berrV]; exact ⟨none,ns',M',rfl,hq,h9.by (Imp.un (Imp.dr.trans Imp.dr))⟩
  | some y=>simp [optV,okV]; exact ⟨some y,ns',M',rfl,hq,h9.by (Imp.un (Imp.dr.trans Imp.dr))⟩
theorem insOf_get {n:Nat} {xs:List Int} (hv:∀ x ∈ xs,0≤x∧x < n) (i:Nat):inB (insOf n xs) i=decide ((i:Int) ∈ xs):=by
 have key:∀ k,k≤xs.length→inB (insOf n (xs.take k)) i=decide ((i:Int) ∈ xs.take k):=by
  intro k
  induction k with
  | zero=>intro _; simp [insOf,inB,List.getElem?_replicate]; split <;> rfl
  | succ k ih =>
   intro hk
   have ek:xs[k]?=some xs[k]:=List.getElem?_eq_getElem (by omega)
   have hx:=hv xs[k] (List.getElem_mem _)
   have hlen:=insOf_len n (xs.take k)
   have ht:xs.take (k+1)=xs.take k ++ [xs[k]]:=by rw [List.take_add_one,ek]; rfl
   have ih':=ih (by omega)
   rw [insOf_take ek,ht]
   simp only [inB,List.getD_eq_getElem?_getD,List.getElem?_set,List.mem_append,List.mem_singleton] at ih' ⊢
   by_cases he:xs[k].toNat=i
   ·have:(i:Int)=xs[k]:=by omega
    rw [if_pos he,if_pos (by omega)]
    simp [this]
   ·have:¬ (i:Int)=xs[k]:=by omega
    rw [if_neg he,ih']
    simp [this]
 have:=key xs.length (Nat.le_refl _)
 rwa [List.take_length] at this
end Go.Proofs.YtkhfdmelcpfgoaaGreat
end
section
set_option linter.unusedVariables false
set_option linter.unusedSimpArgs false
namespace Go.Bd
inductive Rch (n:Nat) (ns:Ns):Nat→Nat→Prop
 | self {f:Nat} (h:2≤f):Rch n ns f f
 | low {f y:Nat} (h:2≤f) (k:Rch n ns (at_ n ns f).low y):Rch n ns f y
 | high {f y:Nat} (h:2≤f) (k:Rch n ns (at_ n ns f).high y):Rch n ns f y
theorem Rch.ge {n:Nat} {ns:Ns} {f y:Nat} (h:Rch n ns f y):2≤y:=by
 induction h with
 | self h=>exact h
 | low _ _ ih=>exact ih
 | high _ _ ih=>exact ih
theorem Rch.ref {n:Nat} {ns:Ns} (w:Wf n ns) {f y:Nat} (h:Rch n ns f y) (hf:Ref ns f):Ref ns y:=by
 induction h with
 | self h=>exact hf
 | low h _ ih=>exact ih (w.ref_low hf)
 | high h _ ih=>exact ih (w.ref_high hf)
abbrev MemR:=List (Nat × Bool)
def keys (M:MemR):List Nat:=M.map (·.1)
structure ROk (n:Nat) (ns:Ns) (f:Nat) (M M':MemR):Prop where
 sub:∀ x ∈ keys M,x ∈ keys M'
 new:∀ x ∈ keys M',x ∈ keys M∨Rch n ns f x
 clo:∀ x ∈ keys M',x ∉ keys M→((at_ n ns x).low < 2∨(at_ n ns x).low ∈ keys M')∧((at_ n ns x).high < 2∨(at_ n ns x).high ∈ keys M')
 top:f < 2∨f ∈ keys M'
 all:∀ q ∈ M',q.2=true
section
variable {n:Nat} {ns:Ns} {f:Nat} {M M1 M2 M3:MemR}
theorem ROk.same (h:f < 2∨f ∈ keys M) (ha:∀ q ∈ M,q.2=true):ROk n ns f M M :=
 ⟨fun x hx=>hx,fun x hx=>.inl hx,fun x hx hn=>absurd hx hn,h,ha⟩
theorem ROk.node (h2:2≤f) (h1:∀ x,x ∈ keys M1↔x ∈ keys M∨x=f) (hl:ROk n ns (at_ n ns f).low M1 M2) (hh:ROk n ns (at_ n ns f).high M2 M3):ROk n ns f M M3:=by
 refine ⟨fun x hx=>hh.sub x (hl.sub x ((h1 x).2 (.inl hx))),fun x hx=>?_,fun x hx hn=>?_,.inr (hh.sub f (hl.sub f ((h1 f).2 (.inr rfl)))),hh.all⟩
 ·rcases hh.new x hx with h | h
  ·rcases hl.new x h with h | h
   ·rcases (h1 x).1 h with h | rfl
    ·exact .inl h
    ·exact .inr (.self h2)
   ·exact .inr (.low h2 h)
  ·exact .inr (.high h2 h)
 ·by_cases hx2:x ∈ keys M2
  ·by_cases hx1:x ∈ keys M1
   ·rcases (h1 x).1 hx1 with h | rfl
    ·exact absurd h hn
    ·refine ⟨?_,hh.top⟩
     rcases hl.top with h | h
     ·exact .inl h
     ·exact .inr (hh.sub _ h)
   ·obtain ⟨a,b⟩:=hl.clo x hx2 hx1
    exact ⟨a.imp_right (hh.sub _),b.imp_right (hh.sub _)⟩
  ·exact hh.clo x hx hx2
theorem ROk.all_rch (h:ROk n ns f [] M) (x:Nat):x ∈ keys M↔Rch n ns f x:=by
 constructor
 ·intro hx
  rcases h.new x hx with h | h
  ·cases h
  ·exact h
 ·intro hr
  have key:∀ g y,Rch n ns g y→(g < 2∨g ∈ keys M)→y ∈ keys M:=by
   intro g y hr
   induction hr with
   | self h2 =>
    rintro (h1 | h1)
    ·omega
    ·exact h1
   | low h2 k ih =>
    rintro (h1 | h1)
    ·omega
    ·exact ih (h.clo _ h1 (by simp [keys])).1
   | high h2 k ih =>
    rintro (h1 | h1)
    ·omega
    ·exact ih (h.clo _ h1 (by simp [keys])).2
  exact key f x hr h.top
end
end Go.Bd
end
section
set_option linter.unusedVariables false
set_option linter.unusedSimpArgs false
namespace Go.Bd
def Loc (n:Nat) (F:(Nat→Bool)→Bool):Prop:=∀ a b:Nat→Bool,(∀ i,i < n→a i=b i)→F a=F b
def rk:Nat→(Nat→Bool)→Nat
 | 0,_=>0
 | n+1,b=>2 * rk n b+(b n).toNat
theorem eval_loc {n:Nat} {ns:Ns} (w:Wf n ns):∀ {f:Nat},Ref ns f→Loc n (fun a=>eval ns a f):=by
 intro f
 induction f using Nat.strongRecOn with
 | ind f ih =>
  intro hf a b hab
  rcases Nat.lt_or_ge f 2 with h | h
  ·have:f=0∨f=1:=by omega
   rcases this with rfl | rfl
   ·show eval ns a 0=eval ns b 0
    rw [eval_zero,eval_zero]
   ·show eval ns a 1=eval ns b 1
    rw [eval_one,eval_one]
  ·show eval ns a f=eval ns b f
   rw [eval_node w a h hf,eval_node w b h hf,hab (at_ n ns f).v (w.tv_var h hf),show eval ns a (at_ n ns f).high=eval ns b (at_ n ns f).high from ih _ (w.lt_high h hf) (w.ref_high hf) a b hab,
    show eval ns a (at_ n ns f).low=eval ns b (at_ n ns f).low from ih _ (w.lt_low h hf) (w.ref_low hf) a b hab]
end Go.Bd
namespace Go.Bd
end Go.Bd
end
