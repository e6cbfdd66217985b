/-
  A part of the proof of this claim's statement (TkW8, TkNat, RxPlain, RxHeap, RxDij, RxRel, LibM, RxW1, RxW2, TkChk, RxW3, RxW5, RxW6, RxW7, RxW8): plain theorems; no conditions beyond those each names.
-/
import Derived.Test.YtkhfdmelcpfgoaaGreatPk11
import Derived.Test.YtkhfdmelcpfgoaaGreatPk10
section
set_option maxRecDepth 100000
set_option linter.unusedSimpArgs false
set_option linter.unusedVariables false
namespace Go.Proofs.YtkhfdmelcpfgoaaGreat
open Go Go.W Go.Tk
def errV (c:Int):Value:=.iface 46 (.int .i64 c)
def chkV (c:Option Int):Value:=match c with | none=>.nilIface | some c=>errV c
def costB (o:Oq):Bool:=decide (0≤o.cost) && decide (o.cost≤1048576)
def effsB (vars:List Int) (o:Oq):Bool:=o.effs.all fun e=>inR vars (e.v,e.x)
theorem chk_eq (t:Tk):chkC t=if largeB t=true then some 5 else if (t.vars.all varB)=false then some 1 else if (t.ops.all costB)=false then some 1 else if stateB t.vars t.init=false then some 2
  else if ((condsL t).all fun p=>propF t.vars p.2)=false then some 2 else if (t.ops.all (effsB t.vars))=false then some 2 else if (t.ops.all fun o=>nameB o.name)=false then some 8 else none:=rfl
theorem ops_all {α:Type} {l:List α} {p:α→Bool} (h:∀ j x,j < l.length→l[j]?=some x→p x=true):l.all p=true:=by
 rw [List.all_eq_true]
 intro x hx
 obtain ⟨j,hj,rfl⟩:=List.getElem_of_mem hx
 exact h j _ hj (List.getElem?_eq_getElem hj)
def AllK {α:Type} (l:List α) (p:α→Bool) (k:Nat):Prop:=∀ j x,j < k→l[j]?=some x→p x=true
theorem AllK.zero {α:Type} (l:List α) (p:α→Bool):AllK l p 0:=fun j x h=>by omega
theorem AllK.succ {α:Type} {l:List α} {p:α→Bool} {k:Nat} {x:α} (h:AllK l p k) (hx:l[k]?=some x) (hp:p x=true):AllK l p (k+1):=fun j y hj hy=>by
 rcases (show j < k∨j=k by omega) with h1 | h1
 ·exact h j y h1 hy
 ·subst h1; rw [hx] at hy; cases hy; exact hp
theorem AllK.all {α:Type} {l:List α} {p:α→Bool} (h:AllK l p l.length):l.all p=true:=ops_all fun j x hj hx=>h j x hj hx
set_option maxHeartbeats 4000000 in
theorem tcheck_spec {w:World} (t:Tk) (ht:TkR w t) (hl:TkL t) :
  Calls Tryz.prog 22 [tkV t].toArray w fun e w'=>∃ x,e=.returned x∧x=chkV (chkC t)∧Kp [] w w':=by
 refine enter Tryz.func22 mixed low22 (Nat.le_of_ble_eq_true rfl) ?_
 simp only [L22]
 have h0:At w [] Emp w:=At.start rfl
 have h1:At w [] (Star (ObjA w.heap.size (tkO t)) Emp) _:=h0.alloc (tkO t) Lcl.emp
 obtain ⟨b,hb⟩:∃ b,b=w.heap.size:=⟨_,rfl⟩
 rw [← hb] at h1
 have hLB:Lcl (Star (ObjA b (tkO t)) Emp):=.star .obj .emp
 obtain ⟨w1,hw1⟩:∃ w1,w1=w.alloc (tkO t):=⟨_,rfl⟩
 rw [← hw1] at h1
 have hw1':w.alloc (.cells #[t.vv.1,t.nv.1,t.gv.1,t.ov.1] 26 (0,0))=w1:=by rw [hw1]; rfl
 have rdb:∀ {w'},At w [] (Star (ObjA b (tkO t)) Emp) w'→w'.heap[b]?=some (.cells #[t.vv.1,t.nv.1,t.gv.1,t.ov.1] 26 (0,0)):=fun h=>by
  have:=h.obj
  unfold tkO at this
  exact this
 have hC:=chk_eq t
 refine seq_cut (fun ρ w'=>ρ 1=.pointer (some ⟨b,0,none⟩)∧At w [] (Star (ObjA b (tkO t)) Emp) w') ?_ ?_
 ·simp [tkV,← hb,hw1']
  exact h1
 clear h0 h1 hw1 hw1'
 -- large
 rintro ρ w2 ⟨g1,h2⟩
 refine seq_cut (fun ρ w'=>(ρ 1=.pointer (some ⟨b,0,none⟩)∧At w [] (Star (ObjA b (tkO t)) Emp) w')∧largeB t=false) ?_ ?_
 ·simp [g1,rd_tk h2.obj]
  refine cl_of (tlarge_spec t (ht.kp h2.kp) hl) ?_
  rintro _ w3 ⟨rfl,k3⟩
  have h3:=h2.kp0 hLB k3
  cases s:largeB t with
  | true =>
   rw [if_pos s] at hC
   simp [hC,chkV,errV]
   exact h3.kp
  | false =>
   simp [g1]
   exact h3
 clear g1 h2
 rintro ρ w2 ⟨⟨g1,h2⟩,e1⟩
 rw [if_neg (by rw [e1]; simp)] at hC
 have hbig:t.vars.length≤64∧t.ops.length≤4096∧∀ o ∈ t.ops,o.effs.length≤64:=by
  unfold largeB at e1
  simp only [Bool.not_eq_false',Bool.and_eq_true,decide_eq_true_eq,List.all_eq_true] at e1
  exact ⟨e1.1.1.1,e1.1.1.2,e1.1.2⟩
 obtain ⟨lv,lo,le⟩:=hbig
 -- variables
 refine seq_cut (fun ρ w'=>(ρ 1=.pointer (some ⟨b,0,none⟩)∧At w [] (Star (ObjA b (tkO t)) Emp) w')∧t.vars.all varB=true) ?_ ?_
 ·have ht2:=ht.kp h2.kp
  simp [g1,cell_blk (rdb h2),ht2.vars.len]
  refine range_loop (n:=t.vars.length) (by omega) (fun k ρ w'=>ρ 1=.pointer (some ⟨b,0,none⟩)∧ρ 19=t.vv.1∧AllK t.vars varB k∧w'=w2) (by simp) (by simp)
   ⟨by simp [g1],by simp,AllK.zero _ _,rfl⟩ (by decide) (fun _ _ _ _ h=>by simpa using h) (fun _ _ _ _ h=>by simpa using h) ?_ ?_
  ·rintro k ρ w4 hk hc hlm ⟨g1,g18,hall,rfl⟩
   obtain ⟨x,hx⟩:∃ x,t.vars[k]?=some x:=⟨_,List.getElem?_eq_getElem hk⟩
   have bad:varB x=false→chkC t=some 1:=fun h=>by
    rw [hC,if_pos (all_false (List.mem_of_getElem? hx) h)]
   by_cases s1:x < 1
   ·have e:=bad (by simp [varB]; omega)
    simp (disch:=omega) [g1,g18,hc,hlm,ht2.vars.idx,iE_cell ht2.vars hx,s1,e,chkV,errV]
    exact h2.kp
   by_cases s2:64 < x
   ·have e:=bad (by simp [varB]; omega)
    simp (disch:=omega) [g1,g18,hc,hlm,ht2.vars.idx,iE_cell ht2.vars hx,s1,s2,e,chkV,errV]
    exact h2.kp
   simp (disch:=omega) [g1,g18,hc,hlm,ht2.vars.idx,iE_cell ht2.vars hx,s1,s2]
   exact hall.succ hx (by simp [varB]; omega)
  rintro ρ w4 ⟨g1,g18,hall,rfl⟩
  simp only [thenK_nrm]
  exact ⟨⟨g1,h2⟩,by simpa using hall.all⟩
 clear g1 h2
 rintro ρ w2 ⟨⟨g1,h2⟩,e2⟩
 rw [if_neg (by rw [e2]; simp)] at hC
 -- costs
 refine seq_cut (fun ρ w'=>(ρ 1=.pointer (some ⟨b,0,none⟩)∧At w [] (Star (ObjA b (tkO t)) Emp) w')∧t.ops.all costB=true) ?_ ?_
 ·have ht2:=ht.kp h2.kp
  simp [g1,cell_blk (rdb h2),ht2.ops.len]
  refine range_loop (n:=t.ops.length) (by omega) (fun k ρ w'=>ρ 1=.pointer (some ⟨b,0,none⟩)∧ρ 34=t.ov.1∧AllK t.ops costB k∧At w [] (Star (ObjA b (tkO t)) Emp) w') (by simp) (by simp)
   ⟨by simp [g1],by simp,AllK.zero _ _,h2⟩ (by decide) (fun _ _ _ _ h=>by simpa using h) (fun _ _ _ _ h=>by simpa using h) ?_ ?_
  ·rintro k ρ w5 hk hc hlm ⟨g1,g16,hall,h5⟩
   obtain ⟨o,hok⟩:∃ o,t.ops[k]?=some o:=⟨_,List.getElem?_eq_getElem hk⟩
   have hom:=List.mem_of_getElem? hok
   have ht5:=ht.kp h5.kp
   have ec:=ht5.ops.cells oqE_len hok
   simp only [oqE] at ec
   obtain ⟨eb,heb⟩:∃ eb,eb=w5.heap.size:=⟨_,rfl⟩
   have bad:costB o=false→chkC t=some 1:=fun h=>by
    rw [hC,if_pos (all_false hom h)]
   simp (disch:=omega) [g16,hc,hlm,ht5.ops.idx,ec,← heb]
   refine st_oq (o:=o) .emp (At.start rfl:At w5 [] Emp w5) heb fun w6 h6=>?_
   have h7:=h5.kp0 hLB h6.kp
   have ho6:=h6.obj
   unfold oqO at ho6
   rw [heb] at ho6
   by_cases s1:o.cost < 0
   ·have e:=bad (by simp [costB]; omega)
    simp [cell_blk ho6,s1,e,chkV,errV]
    exact h7.kp
   by_cases s2:1048576 < o.cost
   ·have e:=bad (by simp [costB]; omega)
    simp [cell_blk ho6,s1,s2,e,chkV,errV]
    exact h7.kp
   simp [cell_blk ho6,s1,s2,g1,g16,hc,hlm]
   exact ⟨hall.succ hok (by simp [costB]; omega),h7⟩
  rintro ρ w4 ⟨g1,g18,hall,h4⟩
  simp only [thenK_nrm]
  exact ⟨⟨g1,h4⟩,by simpa using hall.all⟩
 clear g1 h2
 rintro ρ w2 ⟨⟨g1,h2⟩,e3⟩
 rw [if_neg (by rw [e3]; simp)] at hC
 -- initial state
 refine seq_cut (fun ρ w'=>(ρ 1=.pointer (some ⟨b,0,none⟩)∧At w [] (Star (ObjA b (tkO t)) Emp) w')∧stateB t.vars t.init=true) ?_ ?_
 ·have ht2:=ht.kp h2.kp
  simp [g1,cell_blk (rdb h2)]
  refine cl_of (tproper_spec t.vv.1 t.nv.1 t.vars t.init ht2.vars ht2.init hl.init) ?_
  rintro _ w3 ⟨rfl,k3⟩
  have h3:=h2.kp0 hLB k3
  cases s:stateB t.vars t.init with
  | false =>
   rw [if_pos s] at hC
   simp [hC,chkV,errV]
   exact h3.kp
  | true =>
   simp [g1]
   exact h3
 clear g1 h2
 rintro ρ w2 ⟨⟨g1,h2⟩,e4⟩
 rw [if_neg (by rw [e4]; simp)] at hC
 -- conditions
 refine seq_cut (fun ρ w'=>(ρ 1=.pointer (some ⟨b,0,none⟩)∧At w [] (Star (ObjA b (tkO t)) Emp) w')∧((condsL t).all fun p=>propF t.vars p.2)=true) ?_ ?_
 ·have ht2:=ht.kp h2.kp
  simp [g1,rd_tk h2.obj]
  refine cl_of (tconds_spec t ht2 lo le) ?_
  rintro u w3 hu
  have h3:=h2.kp0 hLB hu.kp
  have hcl:(condsL t).length≤1000000:=by
   have:=conds_len le
   simp only [condsL,List.length_cons]
   omega
  have hvw:=conds_vw (ht2.kp hu.kp)
  simp [hu.own.vw.len]
  refine range_loop (n:=(condsL t).length) (by omega) (fun k ρ w'=>ρ 1=.pointer (some ⟨b,0,none⟩)∧ρ 58=u∧AllK (condsL t) (fun p=>propF t.vars p.2) k∧At w [] (Star (ObjA b (tkO t)) Emp) w'∧Kp [] w3 w') (by simp) (by simp)
   ⟨by simp [g1],by simp,AllK.zero _ _,h3,Kp.refl _ _⟩ (by decide) (fun _ _ _ _ h=>by simpa using h) (fun _ _ _ _ h=>by simpa using h) ?_ ?_
  ·rintro k ρ w5 hk hc hlm ⟨g1,g16,hall,h5,k5⟩
   obtain ⟨p,hpk⟩:∃ p,(condsL t)[k]?=some p:=⟨_,List.getElem?_eq_getElem hk⟩
   have hpm:=List.mem_of_getElem? hpk
   have hv5:=hu.own.vw.kp0 k5
   have ht5:=ht.kp h5.kp
   have ei:w5.cell? (u.adr.add k)=some p.1.1:=by simpa using hv5.at_ sv1_len hpk (o:=0) (u:=p.1.1) rfl
   have hlen:p.2.length≤64:=by
    unfold largeB at e1
    simp only [Bool.not_eq_false',Bool.and_eq_true,decide_eq_true_eq,List.all_eq_true] at e1
    exact e1.2 p hpm
   simp (disch:=omega) [g1,g16,hc,hlm,hv5.idx,ei,cell_blk (rdb h5)]
   refine cl_of (tfacts_spec t.vv.1 p.1.1 t.vars p.2 ht5.vars ((hvw p hpm).kp0 k5) (by omega)) ?_
   rintro _ w6 ⟨rfl,k6⟩
   have h6:=h5.kp0 hLB k6
   cases s:propF t.vars p.2 with
   | false =>
    have e:chkC t=some 2:=by rw [hC,if_pos (all_false hpm s)]
    simp [e,chkV,errV]
    exact h6.kp
   | true =>
    simp [g1,g16,hc,hlm]
    exact ⟨hall.succ hpk s,h6,k5.trans0 k6⟩
  rintro ρ w4 ⟨g1,g18,hall,h4,_⟩
  simp only [thenK_nrm]
  exact ⟨⟨g1,h4⟩,by simpa using hall.all⟩
 clear g1 h2
 rintro ρ w2 ⟨⟨g1,h2⟩,e5⟩
 rw [if_neg (by rw [e5]; simp)] at hC
 -- effects
 refine seq_cut (fun ρ w'=>(ρ 1=.pointer (some ⟨b,0,none⟩)∧At w [] (Star (ObjA b (tkO t)) Emp) w')∧t.ops.all (effsB t.vars)=true) ?_ ?_
 ·have ht2:=ht.kp h2.kp
  simp [g1,cell_blk (rdb h2),ht2.ops.len]
  refine range_loop (n:=t.ops.length) (by omega) (fun k ρ w'=>ρ 1=.pointer (some ⟨b,0,none⟩)∧ρ 72=t.ov.1∧AllK t.ops (effsB t.vars) k∧At w [] (Star (ObjA b (tkO t)) Emp) w') (by simp) (by simp)
   ⟨by simp [g1],by simp,AllK.zero _ _,h2⟩ (by decide) (fun _ _ _ _ h=>by simpa using h) (fun _ _ _ _ h=>by simpa using h) ?_ ?_
  ·rintro k ρ w5 hk hc hlm ⟨g1,g16,hall,h5⟩
   obtain ⟨o,hok⟩:∃ o,t.ops[k]?=some o:=⟨_,List.getElem?_eq_getElem hk⟩
   have hom:=List.mem_of_getElem? hok
   have ht5:=ht.kp h5.kp
   have ec:=ht5.ops.cells oqE_len hok
   simp only [oqE] at ec
   obtain ⟨eb,heb⟩:∃ eb,eb=w5.heap.size:=⟨_,rfl⟩
   have bad:effsB t.vars o=false→chkC t=some 2:=fun h=>by
    rw [hC,if_pos (all_false hom h)]
   simp (disch:=omega) [g16,hc,hlm,ht5.ops.idx,ec,← heb]
   refine st_oq (o:=o) .emp (At.start rfl:At w5 [] Emp w5) heb fun w6 h6=>?_
   have h7:=h5.kp0 hLB h6.kp
   have ho6:=h6.obj
   unfold oqO at ho6
   rw [heb] at ho6
   have hR:=(ht5.kp h6.kp).op o hom
   have hel:=le o hom
   simp [cell_blk ho6,hR.effs.len]
   refine range_loop (n:=o.effs.length) (by omega) (fun j ρ w'=>ρ 1=.pointer (some ⟨b,0,none⟩)∧ρ 72=t.ov.1∧ρ 73=.int .i64 (t.ops.length:Nat)∧ρ 74=.int .i64 (k:Nat)∧ρ 79=o.ev.1∧AllK o.effs (fun e=>inR t.vars (e.v,e.x)) j∧At w [] (Star (ObjA b (tkO t)) Emp) w'∧Kp [] w6 w') (by simp) (by simp)
    ⟨by simp [g1],by simp [g16],by simp [hlm],by simp [hc],by simp,AllK.zero _ _,h7,Kp.refl _ _⟩ (by decide) (fun _ _ _ _ h=>by simpa using h) (fun _ _ _ _ h=>by simpa using h) ?_ ?_
   rotate_left
   ·rintro ρ w8 ⟨g1,g72,g73,g74,g79,hall2,h8,_⟩
    simp [g1,g72,g73,g74]
    exact ⟨hall.succ hok hall2.all,h8⟩
   rintro j ρ w8 hj hcj hlj ⟨g1,g72,g73,g74,g79,hall2,h8,k8⟩
   obtain ⟨e,hej⟩:∃ e,o.effs[j]?=some e:=⟨_,List.getElem?_eq_getElem hj⟩
   have hem:=List.mem_of_getElem? hej
   have hR8:=hR.kp k8
   have ece:=hR8.effs.cells efE_len hej
   simp only [efE] at ece
   obtain ⟨fb,hfb⟩:∃ fb,fb=w8.heap.size:=⟨_,rfl⟩
   simp (disch:=omega) [g79,hcj,hlj,hR8.effs.idx,ece,← hfb]
   refine st_ef (e:=e) .emp (At.start rfl:At w8 [] Emp w8) hfb fun w9 h9=>?_
   have h10:=h8.kp0 hLB h9.kp
   have ho9:=h9.obj
   unfold efO at ho9
   rw [hfb] at ho9
   simp [g1,cell_blk ho9,cell_blk (rdb h10),rowOf]
   have h11:=(At.start rfl:At w9 [] Emp w9).lit (xs:=[((e.v,e.x):Fa)]) (enc:=faE) (E:=92) (sz:=2) (cs:=#[.int .i64 e.v,.int .i64 e.x]) (m:=1) .emp (by simp [faE]) faE_len (by simp [maxLen]) rfl
   have h12:=h10.kp0 hLB h11.kp
   refine cl_of (tfacts_spec t.vv.1 _ t.vars [((e.v,e.x):Fa)] (ht.kp h12.kp).vars h11.own.vw (by simp)) ?_
   rintro _ w12 ⟨rfl,k12⟩
   rw [propF_one]
   have h13:=h12.kp0 hLB k12
   cases s:inR t.vars (e.v,e.x) with
   | false =>
    have e:=bad (by unfold effsB; exact all_false hem s)
    simp [e,chkV,errV]
    exact h13.kp
   | true =>
    simp [g1,g72,g73,g74,g79,hcj,hlj]
    exact ⟨hall2.succ hej s,h13,((k8.trans0 h9.kp).trans0 h11.kp).trans0 k12⟩
  rintro ρ w4 ⟨g1,g18,hall,h4⟩
  simp only [thenK_nrm]
  exact ⟨⟨g1,h4⟩,by simpa using hall.all⟩
 clear g1 h2
 rintro ρ w2 ⟨⟨g1,h2⟩,e6⟩
 rw [if_neg (by rw [e6]; simp)] at hC
 -- names
 have ht2:=ht.kp h2.kp
 simp [g1,cell_blk (rdb h2),ht2.ops.len]
 refine range_loop (n:=t.ops.length) (by omega) (fun k ρ w'=>ρ 1=.pointer (some ⟨b,0,none⟩)∧ρ 99=t.ov.1∧AllK t.ops (fun o=>nameB o.name) k∧At w [] (Star (ObjA b (tkO t)) Emp) w') (by simp) (by simp)
  ⟨by simp [g1],by simp,AllK.zero _ _,h2⟩ (by decide) (fun _ _ _ _ h=>by simpa using h) (fun _ _ _ _ h=>by simpa using h) ?_ ?_
 ·rintro k ρ w5 hk hc hlm ⟨g1,g16,hall,h5⟩
  obtain ⟨o,hok⟩:∃ o,t.ops[k]?=some o:=⟨_,List.getElem?_eq_getElem hk⟩
  have hom:=List.mem_of_getElem? hok
  have ht5:=ht.kp h5.kp
  have ec:=ht5.ops.cells oqE_len hok
  simp only [oqE] at ec
  obtain ⟨eb,heb⟩:∃ eb,eb=w5.heap.size:=⟨_,rfl⟩
  simp (disch:=omega) [g16,hc,hlm,ht5.ops.idx,ec,← heb]
  refine st_oq (o:=o) .emp (At.start rfl:At w5 [] Emp w5) heb fun w6 h6=>?_
  have h7:=h5.kp0 hLB h6.kp
  have ho6:=h6.obj
  unfold oqO at ho6
  rw [heb] at ho6
  obtain ⟨l1,_,_,_⟩:=hl.op o hom
  simp [cell_blk ho6]
  refine cl_of (tnamed_spec o.name l1) ?_
  rintro _ w8 ⟨rfl,k8⟩
  have h8:=h7.kp0 hLB k8
  cases s:nameB o.name with
  | false =>
   have e:chkC t=some 8:=by rw [hC,if_pos (all_false hom s)]
   simp [e,chkV,errV]
   exact h8.kp
  | true =>
   simp [g1,g16,hc,hlm]
   exact ⟨hall.succ hok s,h8⟩
 rintro ρ w4 ⟨g1,g18,hall,h4⟩
 rw [if_neg (by rw [hall.all]; simp)] at hC
 simp [hC,chkV]
 exact h4.kp
end Go.Proofs.YtkhfdmelcpfgoaaGreat
end
section
set_option linter.unusedVariables false
set_option linter.unusedSimpArgs false
namespace Go.Tk
open Go Go.W
abbrev Fc:=Nat × Nat
structure Nf where
 wv:Cell1
 cnd:List Fc
 v:Nat
 x:Nat
structure No where
 name:ByteArray
 cost:Nat
 pv:Cell1
 pre:List Fc
 ev:Cell1
 effs:List Nf
structure Nt where
 vv:Cell1
 nv:Cell1
 gv:Cell1
 ov:Cell1
 vars:List Nat
 init:List Nat
 goal:List Fc
 ops:List No
def iN (n:Nat):Int:=(n:Int)
def faN (f:Fc):Fa:=((f.1:Int),(f.2:Int))
def Nf.raw (e:Nf):Ef:=⟨e.wv,e.cnd.map faN,e.v,e.x⟩
def No.raw (o:No):Oq:=⟨o.name,o.cost,o.pv,o.pre.map faN,o.ev,o.effs.map Nf.raw⟩
def Nt.raw (t:Nt):Tk:=⟨t.vv,t.nv,t.gv,t.ov,t.vars.map iN,t.init.map iN,t.goal.map faN,t.ops.map No.raw⟩
def nE (n:Nat):List Value:=[.int .i64 (n:Nat)]
theorem nE_len (i:Nat):(nE i).length=1:=rfl
theorem nE_one (i:Nat):(nE i).all oneC=true:=rfl
def fcE (f:Fc):List Value:=[.int .i64 (f.1:Nat),.int .i64 (f.2:Nat)]
theorem fcE_len (f:Fc):(fcE f).length=2:=rfl
theorem fcE_one (f:Fc):(fcE f).all oneC=true:=rfl
def nfE (e:Nf):List Value:=[e.wv.1,.int .i64 (e.v:Nat),.int .i64 (e.x:Nat)]
theorem nfE_len (e:Nf):(nfE e).length=3:=rfl
theorem nfE_one (e:Nf):(nfE e).all oneC=true:=by simp [nfE,e.wv.2]
def noE (o:No):List Value:=[.string o.name,.int .i64 (o.cost:Nat),o.pv.1,o.ev.1]
theorem noE_len (o:No):(noE o).length=4:=rfl
theorem noE_one (o:No):(noE o).all oneC=true:=by simp [noE,o.pv.2,o.ev.2]
theorem Vw.mapped {α β:Type} {encα:α→List Value} {encβ:β→List Value} {f:β→α} {w:World} {v:Value} {l:List β} (he:∀ b,encα (f b)=encβ b):Vw w v encα (l.map f)↔Vw w v encβ l:=by
 have e:(l.map f).flatMap encα=l.flatMap encβ:=by
  induction l with
  | nil=>rfl
  | cons b l ih=>simp only [List.map_cons,List.flatMap_cons,ih,he]
 unfold Vw
 rw [e]
 simp
structure NoR (w:World) (o:No):Prop where
 pre:Vw w o.pv.1 fcE o.pre
 effs:Vw w o.ev.1 nfE o.effs
 cnd:∀ e ∈ o.effs,Vw w e.wv.1 fcE e.cnd
structure NtR (w:World) (t:Nt):Prop where
 vars:Vw w t.vv.1 nE t.vars
 init:Vw w t.nv.1 nE t.init
 goal:Vw w t.gv.1 fcE t.goal
 ops:Vw w t.ov.1 noE t.ops
 op:∀ o ∈ t.ops,NoR w o
theorem NoR.kp {w w':World} {o:No} (h:NoR w o) (k:Kp [] w w'):NoR w' o:=⟨h.pre.kp0 k,h.effs.kp0 k,fun e he=>(h.cnd e he).kp0 k⟩
theorem NtR.kp {w w':World} {t:Nt} (h:NtR w t) (k:Kp [] w w'):NtR w' t:=⟨h.vars.kp0 k,h.init.kp0 k,h.goal.kp0 k,h.ops.kp0 k,fun o ho=>(h.op o ho).kp k⟩
theorem vw_fc {w:World} {v:Value} {l:List Fc}:Vw w v faE (l.map faN)↔Vw w v fcE l:=Vw.mapped fun b=>rfl
theorem vw_n {w:World} {v:Value} {l:List Nat}:Vw w v iE (l.map iN)↔Vw w v nE l:=Vw.mapped fun b=>rfl
theorem NoR.raw {w:World} {o:No}:OqR w o.raw↔NoR w o:=by
 constructor
 ·rintro ⟨h1,h2,h3⟩
  exact ⟨vw_fc.1 h1,(Vw.mapped (f:=Nf.raw) fun b=>rfl).1 h2,fun e he=>vw_fc.1 (h3 e.raw (List.mem_map.2 ⟨e,he,rfl⟩))⟩
 ·rintro ⟨h1,h2,h3⟩
  refine ⟨vw_fc.2 h1,(Vw.mapped (f:=Nf.raw) fun b=>rfl).2 h2,fun e he=>?_⟩
  obtain ⟨e',he',rfl⟩:=List.mem_map.1 he
  exact vw_fc.2 (h3 e' he')
theorem NtR.raw {w:World} {t:Nt}:TkR w t.raw↔NtR w t:=by
 constructor
 ·rintro ⟨h1,h2,h3,h4,h5⟩
  exact ⟨vw_n.1 h1,vw_n.1 h2,vw_fc.1 h3,(Vw.mapped (f:=No.raw) fun b=>rfl).1 h4,fun o ho=>NoR.raw.1 (h5 o.raw (List.mem_map.2 ⟨o,ho,rfl⟩))⟩
 ·rintro ⟨h1,h2,h3,h4,h5⟩
  refine ⟨vw_n.2 h1,vw_n.2 h2,vw_fc.2 h3,(Vw.mapped (f:=No.raw) fun b=>rfl).2 h4,fun o ho=>?_⟩
  obtain ⟨o',ho',rfl⟩:=List.mem_map.1 ho
  exact NoR.raw.2 (h5 o' ho')
structure FcOk (vars:List Nat) (l:List Fc):Prop where
 rng:∀ f ∈ l,f.1 < vars.length∧f.2 < vars.getD f.1 0
 asc:l.Pairwise fun a b=>a.1 < b.1
structure NoG (vars:List Nat) (o:No):Prop where
 cost:o.cost≤1048576
 elen:o.effs.length≤64
 pre:FcOk vars o.pre
 cnd:∀ e ∈ o.effs,FcOk vars e.cnd
 eff:∀ e ∈ o.effs,e.v < vars.length∧e.x < vars.getD e.v 0
structure NtG (t:Nt):Prop where
 vlen:t.vars.length≤64
 olen:t.ops.length≤4096
 vars:∀ n ∈ t.vars,1≤n∧n≤64
 ilen:t.init.length=t.vars.length
 init:∀ i,i < t.init.length→t.init.getD i 0 < t.vars.getD i 0
 goal:FcOk t.vars t.goal
 ops:∀ o ∈ t.ops,NoG t.vars o
theorem asc_len:∀ (l:List Nat) (N:Nat),l.Pairwise (· < ·)→(∀ x ∈ l,x < N)→l.length≤N
 | [],N,_,_=>by simp
 | [x],N,_,h=>by have:=h x (by simp); simp; omega
 | x :: y :: l,N,hp,h=>by
  have hx:=List.pairwise_cons.1 hp
  have:=asc_len ((y :: l).map (· - 1)) (N - 1) ?_ ?_
  ·have hy:=h y (by simp)
   simp at this ⊢
   omega
  ·rw [List.pairwise_map]
   refine List.Pairwise.imp_of_mem ?_ hx.2
   intro a b ha hb hab
   have:=hx.1 a ha
   omega
  ·intro z hz
   obtain ⟨a,ha,rfl⟩:=List.mem_map.1 hz
   have:=hx.1 a ha
   have:=h a (by simp [ha])
   omega
 termination_by l=>l.length
theorem FcOk.len {vars:List Nat} {l:List Fc} (h:FcOk vars l):l.length≤vars.length:=by
 have:=asc_len (l.map (·.1)) vars.length (by rw [List.pairwise_map]; exact h.asc) (fun x hx=>by
  obtain ⟨f,hf,rfl⟩:=List.mem_map.1 hx
  exact (h.rng f hf).1)
 simpa using this
theorem prop_asc {vars:List Int} {l:List Fa} (h:propF vars l=true):(∀ f ∈ l,inR vars f=true)∧l.Pairwise fun a b=>a.1 < b.1:=by
 have hat:∀ i,i < l.length→inR vars (l.getD i (0,0))=true∧(0 < i→(l.getD (i - 1) (0,0)).1 < (l.getD i (0,0)).1):=fun i hi=>by
  have:=allR_at h hi
  unfold prAt at this
  simp only [Bool.and_eq_true,Bool.or_eq_true,decide_eq_true_eq] at this
  refine ⟨this.1,fun h0=>?_⟩
  rcases this.2 with h2 | h2
  ·omega
  ·exact h2
 have get:∀ i (hi:i < l.length),l.getD i (0,0)=l[i]:=fun i hi=>by simp [List.getD,hi]
 refine ⟨fun f hf=>?_,?_⟩
 ·obtain ⟨i,hi,rfl⟩:=List.getElem_of_mem hf
  have:=(hat i hi).1
  rwa [get i hi] at this
 ·rw [List.pairwise_iff_getElem]
  intro i j hi hj hij
  have key:∀ d i,i+d+1 < l.length→(l.getD i (0,0)).1 < (l.getD (i+d+1) (0,0)).1:=by
   intro d
   induction d with
   | zero=>intro i hi; exact (hat (i+1) (by omega)).2 (by omega)
   | succ d ih =>
    intro i hi
    have h1:=ih i (by omega)
    have h2:=(hat (i+(d+1)+1) (by omega)).2 (by omega)
    have e:i+(d+1)+1 - 1=i+d+1:=by omega
    rw [e] at h2
    omega
  have:=key (j - i - 1) i (by omega)
  rw [show i+(j - i - 1)+1=j by omega,get i hi,get j hj] at this
  exact this
theorem fa_nat {vars:List Int} {nvars:List Nat} (hv:vars=nvars.map iN) {f:Fa} (h:inR vars f=true):faN (f.1.toNat,f.2.toNat)=f∧f.1.toNat < nvars.length∧f.2.toNat < nvars.getD f.1.toNat 0:=by
 unfold inR at h
 simp only [Bool.and_eq_true,decide_eq_true_eq] at h
 obtain ⟨⟨⟨h1,h2⟩,h3⟩,h4⟩:=h
 subst hv
 have hl:f.1.toNat < nvars.length:=by simp at h2; omega
 have e:(nvars.map iN).getD f.1.toNat 0=(nvars.getD f.1.toNat 0:Int):=by simp [List.getD,hl,iN]
 rw [e] at h4
 refine ⟨?_,hl,by omega⟩
 unfold faN
 exact Prod.ext (by simp; omega) (by simp; omega)
theorem prop_nat {vars:List Int} {nvars:List Nat} (hv:vars=nvars.map iN) {l:List Fa} (h:propF vars l=true):∃ m:List Fc,m.map faN=l∧FcOk nvars m:=by
 obtain ⟨h1,h2⟩:=prop_asc h
 refine ⟨l.map fun f=>(f.1.toNat,f.2.toNat),?_,?_,?_⟩
 ·rw [List.map_map]
  conv=>rhs; rw [← List.map_id l]
  exact List.map_congr_left fun f hf=>(fa_nat hv (h1 f hf)).1
 ·intro g hg
  obtain ⟨f,hf,rfl⟩:=List.mem_map.1 hg
  exact (fa_nat hv (h1 f hf)).2
 ·rw [List.pairwise_map]
  refine List.Pairwise.imp_of_mem ?_ h2
  intro a b ha hb hab
  have ea:=congrArg Prod.fst (fa_nat hv (h1 a ha)).1
  have eb:=congrArg Prod.fst (fa_nat hv (h1 b hb)).1
  simp only [faN] at ea eb
  show a.1.toNat < b.1.toNat
  omega
theorem list_nat {α β:Type} {f:β→α} {p:β→Prop}:∀ {l:List α},(∀ a ∈ l,∃ b,f b=a∧p b)→∃ m:List β,m.map f=l∧∀ b ∈ m,p b
 | [],_=>⟨[],rfl,by simp⟩
 | a :: l,h=>by
  obtain ⟨b,hb,hp⟩:=h a (by simp)
  obtain ⟨m,hm,hpm⟩:=list_nat (l:=l) fun a ha=>h a (by simp [ha])
  refine ⟨b :: m,by simp [hb,hm],fun c hc=>?_⟩
  rcases List.mem_cons.1 hc with rfl | hc
  ·exact hp
  ·exact hpm c hc
theorem good_nat {t:Tk} (h:goodB t=true):∃ T:Nt,T.raw=t∧NtG T:=by
 unfold goodB at h
 simp only [Bool.and_eq_true,decide_eq_true_eq] at h
 obtain ⟨⟨⟨⟨⟨h1,h2⟩,h3⟩,h4⟩,h5⟩,h6⟩:=h
 rw [List.all_eq_true] at h3 h6
 obtain ⟨nv,hnv,hnv2⟩:=list_nat (f:=iN) (p:=fun n=>1≤n∧n≤64) (l:=t.vars) fun a ha=>by
  have:=h3 a ha
  simp [varB] at this
  exact ⟨a.toNat,by unfold iN; omega,by omega,by omega⟩
 unfold stateB at h4
 simp only [Bool.and_eq_true,decide_eq_true_eq] at h4
 obtain ⟨hil,hst⟩:=h4
 have hst2:∀ i,i < t.init.length→0≤t.init.getD i 0∧t.init.getD i 0 < t.vars.getD i 0:=fun i hi=>by
  have:=allR_at hst hi
  simpa [stAt] using this
 obtain ⟨ni,hni,_⟩:=list_nat (f:=iN) (p:=fun _=>True) (l:=t.init) fun a ha=>by
  obtain ⟨i,hi,rfl⟩:=List.getElem_of_mem ha
  have:=(hst2 i hi).1
  simp [List.getD,hi] at this
  exact ⟨t.init[i].toNat,by unfold iN; omega,trivial⟩
 obtain ⟨ng,hng,hgok⟩:=prop_nat hnv.symm h5
 obtain ⟨no,hno,hook⟩:=list_nat (f:=No.raw) (p:=NoG nv) (l:=t.ops) fun o ho=>by
  have:=h6 o ho
  unfold opB at this
  simp only [Bool.and_eq_true,decide_eq_true_eq] at this
  obtain ⟨⟨⟨⟨⟨c1,c2⟩,c3⟩,c4⟩,c5⟩,c6⟩:=this
  rw [List.all_eq_true] at c6
  obtain ⟨np,hnp,hpok⟩:=prop_nat hnv.symm c5
  obtain ⟨ne,hne,heok⟩:=list_nat (f:=Nf.raw) (p:=fun e=>FcOk nv e.cnd∧e.v < nv.length∧e.x < nv.getD e.v 0) (l:=o.effs) fun e he=>by
   have:=c6 e he
   unfold effB at this
   simp only [Bool.and_eq_true] at this
   obtain ⟨d1,d2⟩:=this
   obtain ⟨nc,hnc,hcok⟩:=prop_nat hnv.symm d1
   obtain ⟨f1,f2,f3⟩:=fa_nat hnv.symm d2
   refine ⟨⟨e.wv,nc,e.v.toNat,e.x.toNat⟩,?_,hcok,f2,f3⟩
   have q1:=congrArg Prod.fst f1
   have q2:=congrArg Prod.snd f1
   simp only [faN] at q1 q2
   unfold Nf.raw
   simp only [hnc]
   cases e
   simp only at q1 q2
   simp only [q1,q2]
  refine ⟨⟨o.name,o.cost.toNat,o.pv,np,o.ev,ne⟩,?_,by simp; omega,?_,hpok,fun e he=>(heok e he).1,fun e he=>(heok e he).2⟩
  ·unfold No.raw
   simp only [hnp,hne]
   have:((o.cost.toNat:Nat):Int)=o.cost:=by omega
   cases o
   simp only at this
   simp only [this]
  ·show ne.length≤64
   have:=congrArg List.length hne
   simp at this; omega
 have hlv:nv.length=t.vars.length:=by rw [← hnv]; simp
 have hlo:no.length=t.ops.length:=by rw [← hno]; simp
 have hli:ni.length=t.init.length:=by rw [← hni]; simp
 refine ⟨⟨t.vv,t.nv,t.gv,t.ov,nv,ni,ng,no⟩,?_,by show nv.length≤64; omega,by show no.length≤4096; omega,hnv2,by show ni.length=nv.length; omega,fun i hi=>?_,hgok,hook⟩
 ·unfold Nt.raw
  simp only [hnv,hni,hng,hno]
 ·have hi:i < ni.length:=hi
  have:=(hst2 i (by omega)).2
  rw [← hnv,← hni] at this
  have e1:(ni.map iN).getD i 0=(ni.getD i 0:Int):=by simp [List.getD,hi,iN]
  have e2:(nv.map iN).getD i 0=(nv.getD i 0:Int):=by simp [List.getD,show i < nv.length by omega,iN]
  rw [e1,e2] at this
  show ni.getD i 0 < nv.getD i 0
  omega
end Go.Tk
end
section
set_option linter.unusedVariables false
set_option linter.unusedSimpArgs false
namespace Go.Rx
def Inf:Nat:=1125899906842624
structure Un where
 op:Nat
 eff:Nat
 cost:Nat
 makes:Nat
 needs:List Nat
def gr (V:Nat→Nat):List Nat→Nat
 | []=>0
 | x :: l=>max (V x) (gr V l)
section
variable {V V':Nat→Nat} {l l':List Nat} {k m:Nat}
end
section
variable {U U':List Un} {S S':List Nat} {V V':Nat→Nat} {f k:Nat}
end
end Go.Rx
end
section
set_option linter.unusedVariables false
set_option linter.unusedSimpArgs false
namespace Go.Rx
abbrev En:=Nat × Nat
def gt (l:List En) (i:Nat):En:=l.getD i default
def swp (l:List En) (i p:Nat):List En:=(l.set i (gt l p)).set p (gt l i)
@[simp] theorem swp_len (l:List En) (i p:Nat):(swp l i p).length=l.length:=by simp [swp]
end Go.Rx
end
section
set_option linter.unusedVariables false
set_option linter.unusedSimpArgs false
namespace Go.Rx
def updN {α:Type} (V:Nat→α) (i:Nat) (x:α):Nat→α:=fun j=>if j=i then x else V j
@[simp] theorem updN_same {α:Type} {V:Nat→α} {i:Nat} {x:α}:updN V i x i=x:=by simp [updN]
theorem updN_ne {α:Type} {V:Nat→α} {i j:Nat} {x:α} (h:j≠i):updN V i x j=V j:=by simp [updN,h]
section
variable {U:List Un} {ok:Nat→Bool} {S S0:List Nat} {out:Nat→Nat} {s s':List En} {done:Nat→Bool} {cur:Nat} {pend:List Nat}
end
end Go.Rx
end
section
set_option linter.unusedVariables false
set_option linter.unusedSimpArgs false
namespace Go.Rx
open Go.Tk Go.W Go
def psum (vars:List Nat) (v:Nat):Nat:=(vars.take v).sum
def numF (vars:List Nat) (f:Fc):Nat:=psum vars f.1+f.2
theorem sum_le {vars:List Nat} {N:Nat} (h:∀ n ∈ vars,n≤N):vars.sum≤vars.length * N:=by
 induction vars with
 | nil=>simp
 | cons x l ih =>
  have:=ih fun n hn=>h n (by simp [hn])
  have:=h x (by simp)
  rw [List.sum_cons,List.length_cons,Nat.add_mul]
  omega
end Go.Rx
end
section
set_option linter.unusedVariables false
set_option linter.unusedSimpArgs false
set_option linter.unusedSectionVars false
namespace Go.W
open Go
section
variable {α:Type} {enc:α→List Value} {E sz:Nat} {B X Y:Asr} {w w1:World} {F:List Nat}
end
section
variable {α:Type} {enc:α→List Value} {E E2:Nat} {B:Asr} {w w1:World} {F:List Nat} {v:Value} {ps:List (Cell1 × List α)}
end
end Go.W
namespace Go.W
open Go
section
variable {α:Type} {enc:α→List Value} {E E2:Nat} {B X:Asr} {w w1:World} {F:List Nat} {v:Value} {ps:List (Cell1 × List α)}
theorem Imp.as {A B C:Asr}:Imp (Star (Star A B) C) (Star A (Star B C)):=fun w F h=>Star.assoc h
theorem Imp.em {X:Asr}:Imp X (Star Emp X):=fun w F h=>⟨[] ++ F,⟨[],F,Eq.refl _,h,by simp,Eq.refl _⟩,fun x hx=>by simpa using hx⟩
end
end Go.W
namespace Go.W
open Go
theorem Imp.ow {α:Type} {v:Value} {E sz:Nat} {enc:α→List Value} {l:List α} {X:Asr}:Imp (Star (OwnA v E sz enc l) X) (Star (VwA v enc l) X):=by
 rintro w F ⟨Fa,Fb,⟨h1,e1⟩,h2,hd,e⟩
 subst e e1
 refine ⟨_,⟨v.own,Fb,⟨h1.vw,Eq.refl _,fun x hx=>?_⟩,h2,hd,Eq.refl _⟩,fun x hx=>hx⟩
 rcases h1 with ⟨rfl,_⟩ | ⟨g,cap,cur,junk,rfl,hh,_⟩
 ·cases hx
 ·simp at hx; subst hx; exact lt_of_blk hh
end Go.W
namespace Go.W
variable {X:Asr}
theorem Imp.fr2 {A1 A2:Asr}:Imp (Star A1 (Star A2 X)) (Star A2 (Star A1 X)):=Imp.sw
theorem Imp.bk2 {A1 A2:Asr}:Imp (Star A1 (Star A2 X)) (Star A2 (Star A1 X)):=Imp.sw
theorem Imp.fr3 {A1 A2 A3:Asr}:Imp (Star A1 (Star A2 (Star A3 X))) (Star A3 (Star A1 (Star A2 X))):=(Imp.un Imp.fr2).trans Imp.sw
theorem Imp.bk3 {A1 A2 A3:Asr}:Imp (Star A1 (Star A2 (Star A3 X))) (Star A2 (Star A3 (Star A1 X))):=Imp.sw.trans (Imp.un Imp.bk2)
theorem Imp.fr4 {A1 A2 A3 A4:Asr}:Imp (Star A1 (Star A2 (Star A3 (Star A4 X)))) (Star A4 (Star A1 (Star A2 (Star A3 X)))):=(Imp.un Imp.fr3).trans Imp.sw
theorem Imp.bk4 {A1 A2 A3 A4:Asr}:Imp (Star A1 (Star A2 (Star A3 (Star A4 X)))) (Star A2 (Star A3 (Star A4 (Star A1 X)))):=Imp.sw.trans (Imp.un Imp.bk3)
theorem Imp.fr5 {A1 A2 A3 A4 A5:Asr}:Imp (Star A1 (Star A2 (Star A3 (Star A4 (Star A5 X))))) (Star A5 (Star A1 (Star A2 (Star A3 (Star A4 X))))):=(Imp.un Imp.fr4).trans Imp.sw
theorem Imp.bk5 {A1 A2 A3 A4 A5:Asr}:Imp (Star A1 (Star A2 (Star A3 (Star A4 (Star A5 X))))) (Star A2 (Star A3 (Star A4 (Star A5 (Star A1 X))))):=Imp.sw.trans (Imp.un Imp.bk4)
theorem Imp.fr6 {A1 A2 A3 A4 A5 A6:Asr}:Imp (Star A1 (Star A2 (Star A3 (Star A4 (Star A5 (Star A6 X)))))) (Star A6 (Star A1 (Star A2 (Star A3 (Star A4 (Star A5 X)))))):=(Imp.un Imp.fr5).trans Imp.sw
theorem Imp.bk6 {A1 A2 A3 A4 A5 A6:Asr}:Imp (Star A1 (Star A2 (Star A3 (Star A4 (Star A5 (Star A6 X)))))) (Star A2 (Star A3 (Star A4 (Star A5 (Star A6 (Star A1 X)))))):=Imp.sw.trans (Imp.un Imp.bk5)
theorem Imp.fr7 {A1 A2 A3 A4 A5 A6 A7:Asr}:Imp (Star A1 (Star A2 (Star A3 (Star A4 (Star A5 (Star A6 (Star A7 X))))))) (Star A7 (Star A1 (Star A2 (Star A3 (Star A4 (Star A5 (Star A6 X))))))):=(Imp.un Imp.fr6).trans Imp.sw
theorem Imp.bk7 {A1 A2 A3 A4 A5 A6 A7:Asr}:Imp (Star A1 (Star A2 (Star A3 (Star A4 (Star A5 (Star A6 (Star A7 X))))))) (Star A2 (Star A3 (Star A4 (Star A5 (Star A6 (Star A7 (Star A1 X))))))):=Imp.sw.trans (Imp.un Imp.bk6)
theorem Imp.fr8 {A1 A2 A3 A4 A5 A6 A7 A8:Asr}:Imp (Star A1 (Star A2 (Star A3 (Star A4 (Star A5 (Star A6 (Star A7 (Star A8 X)))))))) (Star A8 (Star A1 (Star A2 (Star A3 (Star A4 (Star A5 (Star A6 (Star A7 X)))))))):=(Imp.un Imp.fr7).trans Imp.sw
theorem Imp.bk8 {A1 A2 A3 A4 A5 A6 A7 A8:Asr}:Imp (Star A1 (Star A2 (Star A3 (Star A4 (Star A5 (Star A6 (Star A7 (Star A8 X)))))))) (Star A2 (Star A3 (Star A4 (Star A5 (Star A6 (Star A7 (Star A8 (Star A1 X)))))))):=Imp.sw.trans (Imp.un Imp.bk7)
theorem Imp.fr9 {A1 A2 A3 A4 A5 A6 A7 A8 A9:Asr}:Imp (Star A1 (Star A2 (Star A3 (Star A4 (Star A5 (Star A6 (Star A7 (Star A8 (Star A9 X))))))))) (Star A9 (Star A1 (Star A2 (Star A3 (Star A4 (Star A5 (Star A6 (Star A7 (Star A8 X))))))))):=(Imp.un Imp.fr8).trans Imp.sw
theorem Imp.fr10 {A1 A2 A3 A4 A5 A6 A7 A8 A9 AA:Asr}:Imp (Star A1 (Star A2 (Star A3 (Star A4 (Star A5 (Star A6 (Star A7 (Star A8 (Star A9 (Star AA X)))))))))) (Star AA (Star A1 (Star A2 (Star A3 (Star A4 (Star A5 (Star A6 (Star A7 (Star A8 (Star A9 X)))))))))):=(Imp.un Imp.fr9).trans Imp.sw
end Go.W
namespace Go.W
open Go Go.Maps
section
variable {κ:Type} [DecidableEq κ] {ek:κ→Value} {ok:κ→Prop} {P:Program} {k e t:TypeId} {w:World}
end
end Go.W
namespace Go.W
end Go.W
end
section
set_option maxRecDepth 100000
set_option linter.unusedSimpArgs false
set_option linter.unusedVariables false
namespace Go.Proofs.YtkhfdmelcpfgoaaGreat
open Go Go.W Go.Tk Go.Rx
theorem sl_nil {v:Value} {α:Type} {enc:α→List Value} {l:List α} {w:World} (h:Vw w v enc l):(v=.slice none 0 0∧l=[])∨∃ a cap,v=.slice (some a) l.length cap:=by
 rcases h with h | ⟨a,cap,rfl,_⟩
 ·exact .inl h
 ·exact .inr ⟨a,cap,rfl⟩
theorem cloneI_spec {w:World} (v:Value) (l:List Nat) (hv:Vw w v nE l) (hl:l.length≤1000000) :
  Calls Tryz.prog 68 [v].toArray w fun e w'=>∃ u,e=.returned u∧Nw w w' u 3 1 nE l:=by
 refine enter Tryz.func68 mixed low68 (Nat.le_of_ble_eq_true rfl) ?_
 simp only [L68]
 have h0:At w [] Emp w:=At.start rfl
 rcases sl_nil hv with ⟨rfl,rfl⟩ | ⟨a,cap,rfl⟩
 ·simp
  exact Nw.of (At.nil (E:=3) (sz:=1) (enc:=nE) .emp h0)
 ·simp [rowOf]
  have h1:=h0.lit (xs:=([]:List Nat)) (enc:=nE) (E:=3) (sz:=1) (cs:=#[]) (m:=0) .emp (by simp) nE_len (by simp [maxLen]) rfl
  refine At.appendV (xs:=l) .emp h1 (hv.kp0 ((Kp.refl [] w).alloc _)) nE_len nE_one sl_22 (by simp; omega) (by simp; unfold maxLen; omega) fun v' w2 h2=>?_
  simp
  exact Nw.of (by simpa using h2)
theorem cloneF_spec {w:World} (v:Value) (l:List Fc) (hv:Vw w v fcE l) (hl:l.length≤1000000) :
  Calls Tryz.prog 69 [v].toArray w fun e w'=>∃ u,e=.returned u∧Nw w w' u 92 2 fcE l:=by
 refine enter Tryz.func69 mixed low69 (Nat.le_of_ble_eq_true rfl) ?_
 simp only [L69]
 have h0:At w [] Emp w:=At.start rfl
 rcases sl_nil hv with ⟨rfl,rfl⟩ | ⟨a,cap,rfl⟩
 ·simp
  exact Nw.of (At.nil (E:=92) (sz:=2) (enc:=fcE) .emp h0)
 ·simp [rowOf]
  have h1:=h0.lit (xs:=([]:List Fc)) (enc:=fcE) (E:=92) (sz:=2) (cs:=#[]) (m:=0) .emp (by simp) fcE_len (by simp [maxLen]) rfl
  refine At.appendV (xs:=l) .emp h1 (hv.kp0 ((Kp.refl [] w).alloc _)) fcE_len fcE_one sl_23 (by simp; omega) (by simp; unfold maxLen; omega) fun v' w2 h2=>?_
  simp
  exact Nw.of (by simpa using h2)
theorem nE_cell {w:World} {v:Value} {l:List Nat} {k x:Nat} (h:Vw w v nE l) (hx:l[k]?=some x):w.cell? (v.adr.add k)=some (.int .i64 (x:Nat)):=by
 simpa using h.at_ nE_len hx (o:=0) (u:=.int .i64 (x:Nat)) rfl
end Go.Proofs.YtkhfdmelcpfgoaaGreat
end
section
set_option maxRecDepth 100000
set_option linter.unusedSimpArgs false
set_option linter.unusedVariables false
namespace Go.Proofs.YtkhfdmelcpfgoaaGreat
open Go Go.W Go.Tk Go.Rx
structure Ru where
 u:Un
 nv:Cell1
end Go.Proofs.YtkhfdmelcpfgoaaGreat
end
section
set_option linter.unusedVariables false
set_option linter.unusedSimpArgs false
namespace Go.Tk
open Go Go.W
theorem prop_len {vars:List Int} {l:List Fa} (hv:∀ n ∈ vars,0≤n) (h:propF vars l=true):l.length≤vars.length:=by
 have hn:vars=(vars.map Int.toNat).map iN:=by
  rw [List.map_map]
  conv=>lhs; rw [← List.map_id vars]
  exact List.map_congr_left fun n hn2=>by have:=hv n hn2; simp [iN]; omega
 obtain ⟨m,hm,ok⟩:=prop_nat hn h
 have:=ok.len
 have:=congrArg List.length hm
 simp at *
 omega
theorem chk_good (t:Tk):chkC t=none↔goodB t=true:=by
 have hc:∀ {vars:List Int},vars.all varB=true→∀ n ∈ vars,0≤n:=fun h n hn=>by
  have:=List.all_eq_true.1 h n hn
  simp [varB] at this
  omega
 constructor
 ·intro h
  unfold chkC at h
  split at h; · cases h
  rename_i e1
  split at h; · cases h
  rename_i e2
  split at h; · cases h
  rename_i e3
  split at h; · cases h
  rename_i e4
  split at h; · cases h
  rename_i e5
  split at h; · cases h
  rename_i e6
  split at h; · cases h
  rename_i e7
  simp only [Bool.not_eq_true,Bool.not_eq_false] at e1 e2 e3 e4 e5 e6 e7
  unfold largeB at e1
  simp only [Bool.not_eq_false',Bool.and_eq_true,decide_eq_true_eq] at e1
  obtain ⟨⟨⟨l1,l2⟩,l3⟩,l4⟩:=e1
  rw [List.all_eq_true] at l3 e3 e5 e6 e7
  have hg:propF t.vars t.goal=true:=e5 (t.gv,t.goal) (by simp [condsL])
  have ho:t.ops.all (opB t.vars)=true:=by
   rw [List.all_eq_true]
   intro o ho
   have a1:=e3 o ho
   have a2:=e7 o ho
   have a3:=l3 o ho
   have a4:propF t.vars o.pre=true:=e5 (o.pv,o.pre) (by
    unfold condsL
    exact List.mem_cons_of_mem _ (List.mem_flatMap.2 ⟨o,ho,by simp [condsO]⟩))
   have a5:o.effs.all (effB t.vars)=true:=by
    rw [List.all_eq_true]
    intro e he
    have b1:=List.all_eq_true.1 (e6 o ho) e he
    have b2:propF t.vars e.cnd=true:=e5 (e.wv,e.cnd) (by
     unfold condsL
     exact List.mem_cons_of_mem _ (List.mem_flatMap.2 ⟨o,ho,by
      unfold condsO
      exact List.mem_cons_of_mem _ (List.mem_map.2 ⟨e,he,rfl⟩)⟩))
    simp [effB,b1,b2]
   simp only [Bool.and_eq_true,decide_eq_true_eq] at a1 a3
   simp only [opB,a2,a4,a5,Bool.and_true,Bool.and_eq_true,decide_eq_true_eq]
   exact ⟨a1,a3⟩
  simp only [goodB,e2,e4,hg,ho,Bool.and_true,Bool.and_eq_true,decide_eq_true_eq]
  exact ⟨l1,l2⟩
 ·intro h
  unfold goodB at h
  simp only [Bool.and_eq_true,decide_eq_true_eq] at h
  obtain ⟨⟨⟨⟨⟨h1,h2⟩,h3⟩,h4⟩,h5⟩,h6⟩:=h
  have h6':=List.all_eq_true.1 h6
  have hop:∀ o ∈ t.ops,(0≤o.cost∧o.cost≤1048576)∧o.effs.length≤64∧nameB o.name=true∧propF t.vars o.pre=true∧∀ e ∈ o.effs,propF t.vars e.cnd=true∧inR t.vars (e.v,e.x)=true:=fun o ho=>by
   have:=h6' o ho
   unfold opB at this
   simp only [Bool.and_eq_true,decide_eq_true_eq,List.all_eq_true] at this
   obtain ⟨⟨⟨⟨⟨c1,c2⟩,c3⟩,c4⟩,c5⟩,c6⟩:=this
   refine ⟨⟨c1,c2⟩,c3,c4,c5,fun e he=>?_⟩
   have:=c6 e he
   unfold effB at this
   simpa only [Bool.and_eq_true] using this
  have hcp:∀ p ∈ condsL t,propF t.vars p.2=true:=fun p hp=>by
   unfold condsL at hp
   rcases List.mem_cons.1 hp with rfl | hp
   ·exact h5
   ·obtain ⟨o,ho,hp⟩:=List.mem_flatMap.1 hp
    unfold condsO at hp
    rcases List.mem_cons.1 hp with rfl | hp
    ·exact (hop o ho).2.2.2.1
    ·obtain ⟨e,he,rfl⟩:=List.mem_map.1 hp
     exact ((hop o ho).2.2.2.2 e he).1
  have hl:largeB t=false:=by
   unfold largeB
   simp only [Bool.not_eq_false',Bool.and_eq_true,decide_eq_true_eq,List.all_eq_true]
   exact ⟨⟨⟨h1,h2⟩,fun o ho=>(hop o ho).2.1⟩,fun p hp=>Nat.le_trans (prop_len (hc h3) (hcp p hp)) h1⟩
  have e3:(t.ops.all fun o=>decide (0≤o.cost) && decide (o.cost≤1048576))=true:=by
   rw [List.all_eq_true]
   intro o ho
   have:=(hop o ho).1
   simp; omega
  have e5:((condsL t).all fun p=>propF t.vars p.2)=true:=by rw [List.all_eq_true]; exact hcp
  have e6:(t.ops.all fun o=>o.effs.all fun e=>inR t.vars (e.v,e.x))=true:=by
   rw [List.all_eq_true]
   intro o ho
   rw [List.all_eq_true]
   exact fun e he=>((hop o ho).2.2.2.2 e he).2
  have e7:(t.ops.all fun o=>nameB o.name)=true:=by
   rw [List.all_eq_true]
   exact fun o ho=>(hop o ho).2.2.1
  unfold chkC
  rw [if_neg (by rw [hl]; simp),if_neg (by rw [h3]; simp),if_neg (by rw [e3]; simp),if_neg (by rw [h4]; simp),if_neg (by rw [e5]; simp),if_neg (by rw [e6]; simp),if_neg (by rw [e7]; simp)]
theorem NtG.lens {T:Nt} (h:NtG T) (hn:∀ o ∈ T.ops,o.name.size≤9223372036854775807):TkL T.raw:=by
 have hg:=h.goal.len
 refine ⟨by simp [Nt.raw]; have:=h.ilen; have:=h.vlen; omega,by simp [Nt.raw]; have:=h.vlen; omega,by simp [Nt.raw]; have:=h.olen; omega,by simp [Nt.raw]; have:=h.vlen; omega,fun o ho=>?_⟩
 obtain ⟨o',ho',rfl⟩:=List.mem_map.1 ho
 have g:=h.ops o' ho'
 have:=g.pre.len
 have:=h.vlen
 have:=g.elen
 refine ⟨hn o' ho',by simp [No.raw]; omega,by simp [No.raw]; omega,fun e he=>?_⟩
 obtain ⟨e',he',rfl⟩:=List.mem_map.1 he
 have:=(g.cnd e' he').len
 simp [Nf.raw]; omega
end Go.Tk
end
section
set_option maxRecDepth 100000
set_option linter.unusedSimpArgs false
set_option linter.unusedVariables false
namespace Go.Proofs.YtkhfdmelcpfgoaaGreat
open Go Go.W Go.Tk Go.Rx
def cst (T:Nt) (cs:List Int) (i:Nat):Nat:=if cs.length=0 then (match T.ops[i]? with | some o=>o.cost | none=>0) else (cs.getD i 0).toNat
end Go.Proofs.YtkhfdmelcpfgoaaGreat
end
section
set_option maxRecDepth 100000
set_option linter.unusedSimpArgs false
set_option linter.unusedVariables false
namespace Go.Proofs.YtkhfdmelcpfgoaaGreat
open Go Go.W Go.Tk Go.Rx
def tabN (N:Nat) (g:Nat→Nat):List Nat:=(List.range N).map g
theorem tabN_len (N:Nat) (g:Nat→Nat):(tabN N g).length=N:=by simp [tabN]
theorem tabN_at {N k:Nat} {g:Nat→Nat} (h:k < N):(tabN N g)[k]?=some (g k):=by simp [tabN,h]
theorem tabN_set {N k x:Nat} {g:Nat→Nat} (h:k < N):(tabN N g).set k x=tabN N (updN g k x):=by
 unfold tabN
 apply List.ext_getElem
 ·simp
 ·intro i h1 h2
  rw [List.getElem_set]
  by_cases e:k=i
  ·subst e; simp
  ·rw [if_neg e]; simp [updN_ne (Ne.symm e)]
theorem tabN_congr {N:Nat} {f g:Nat→Nat} (h:∀ i,i < N→f i=g i):tabN N f=tabN N g:=List.map_congr_left fun i hi=>h i (List.mem_range.1 hi)
end Go.Proofs.YtkhfdmelcpfgoaaGreat
end
section
set_option maxRecDepth 100000
set_option linter.unusedSimpArgs false
set_option linter.unusedVariables false
namespace Go.Proofs.YtkhfdmelcpfgoaaGreat
open Go Go.W Go.Tk Go.Rx Go.Maps
def zok (z:Int):Prop:=-9223372036854775808≤z∧z≤9223372036854775807
theorem zbool (w:World):(zeroValue 4).run Tryz.prog w=.ok (.bool false) w:=Tryz.zeroValue4 w
def upto (k:Nat) (g:Nat→Nat) (d:Nat):Nat→Nat:=fun j=>if j < k then g j else d
theorem upto_succ (k:Nat) (g:Nat→Nat) (d:Nat):updN (upto k g d) k (g k)=upto (k+1) g d:=by
 funext j
 by_cases e:j=k
 ·subst e; simp [upto]
 ·rw [updN_ne e]; unfold upto
  by_cases h:j < k
  ·rw [if_pos h,if_pos (by omega)]
  ·rw [if_neg h,if_neg (by omega)]
theorem upto_all (N:Nat) (g:Nat→Nat) (d:Nat):tabN N (upto N g d)=tabN N g:=tabN_congr fun i hi=>by unfold upto; rw [if_pos hi]
theorem upto_zero (N d:Nat) (g:Nat→Nat):List.replicate N d=tabN N (upto 0 g d):=by
 apply List.ext_getElem
 ·simp [tabN]
 ·intro i h1 h2
  simp [tabN,upto]
end Go.Proofs.YtkhfdmelcpfgoaaGreat
end
section
set_option maxRecDepth 100000
set_option linter.unusedSimpArgs false
set_option linter.unusedVariables false
namespace Go.Proofs.YtkhfdmelcpfgoaaGreat
open Go Go.W Go.Tk Go.Rx Go.Maps
section
variable {α:Type} {enc:α→List Value} {w w' w1 w2:World} {v:Value} {ls:List (List α)} {F:List Nat} {A B:Asr}
def LLV (enc:α→List Value) (w:World) (v:Value) (ls:List (List α)):Prop:=∃ ps:List (Cell1 × List α),ps.map (·.2)=ls∧Vw w v sv1 ps∧∀ p ∈ ps,Vw w p.1.1 enc p.2
theorem LLA.vw {E:Nat} (h:At w F (Star (LLA v E enc ls) B) w'):LLV enc w' v ls:=by
 obtain ⟨ps,h1,h2⟩:=LLA.opn h
 exact ⟨ps,h1,h2.own.vw,fun p hp=>h2.drop.vws hp⟩
theorem LLV.spread (h:LLV enc w v ls):∃ ps:List (Cell1 × List α),ps.length=ls.length∧Vw w v sv1 ps∧∀ (i:Nat) (p:Cell1 × List α),ps[i]?=some p→∃ l,ls[i]?=some l∧Vw w p.1.1 enc l:=by
 obtain ⟨ps,rfl,h2,h3⟩:=h
 exact ⟨ps,by simp,h2,fun i p hp=>⟨p.2,by rw [List.getElem?_map,hp]; rfl,h3 p (List.mem_of_getElem? hp)⟩⟩
theorem At.join (hB:Lcl B) (h:At w F B w1) (t:At w1 [] (Star A Emp) w2):At w F (Star A B) w2:=by
 obtain ⟨F1,⟨Fa,Fe,h1,h2,hd,rfl⟩,hs⟩:=t.ex
 refine h.more hB t.kp ⟨Fa,h1,fun x hx=>?_⟩
 rcases hs x (by simp [hx]) with h3 | h3
 ·cases h3
 ·exact h3
theorem li_append {u ov:Value} {c:List α} {outs:List (List α)} {KV:Kont (Value × World)} (hB:Lcl B) (h:At w F (Star (OwnA u 3 1 enc c) (Star (LLA ov 22 enc outs) B)) w1) (hl:outs.length≤100000)
  (H:∀ v' w2,At w F (Star (LLA v' 22 enc (outs ++ [c])) B) w2→KV.run (v',w2)) :
  @efH Tryz.prog (Builtin.append_ #[55,55] 55 [ov,.slice (some ⟨w1.heap.size,0,none⟩) 1 1].toArray) (w1.alloc (.cells #[u] 22)) KV:=by
 have hou:=h.own.o1
 obtain ⟨ps,hps,h3⟩:=LLA.opn h.rot
 have hpl:ps.length=outs.length:=by rw [← hps]; simp
 have hBX:Lcl (Star (VwsA enc ps) (Star (OwnA u 3 1 enc c) B)):=Lcl.vws.star (Lcl.own.star hB)
 have h4:=h3.kp0 (Lcl.own.star hBX) ((Kp.refl [] w1).alloc (.cells #[u] 22))
 refine At.append (xs:=[((⟨u,hou⟩,c):Cell1 × List α)]) hBX h4 sv1_len sv1_one sl_55 rfl (fun j x hj=>?_) (by omega) (by unfold maxLen; omega) fun v' w5 h5=>H v' w5 ?_
 ·simp [sv1] at hj
  rw [add_none,cell_blk alloc_new]
  simpa using hj
 ·have h6:At w F (Star (OwnA v' 22 1 sv1 (ps ++ [((⟨u,hou⟩,c):Cell1 × List α)])) (Star (VwsA enc (ps ++ [((⟨u,hou⟩,c):Cell1 × List α)])) B)) w5 :=
   ((h5.rot3.own_vw).by (Imp.trans (Imp.un Imp.sw) (Imp.trans (VwsA.add hou) Imp.sw))).by Imp.rfl
  exact LLA.cls (ls:=outs ++ [c]) (by simp [hps]) h6
end
end Go.Proofs.YtkhfdmelcpfgoaaGreat
end
section
set_option maxRecDepth 100000
set_option linter.unusedSimpArgs false
set_option linter.unusedVariables false
namespace Go.Proofs.YtkhfdmelcpfgoaaGreat
open Go Go.W Go.Tk Go.Rx Go.Maps
structure StN (vars s:List Nat):Prop where
 len:s.length=vars.length
 rng:∀ v,v < vars.length→s.getD v 0 < vars.getD v 0
theorem iN_at {l:List Nat} {j:Nat}:(l.map iN).getD j 0=((l.getD j 0:Nat):Int):=by
 simp only [List.getD,List.getElem?_map]
 cases l[j]? <;> simp [iN]
theorem StN.ok {vars s:List Nat} (h:StN vars s):stateB (vars.map iN) (s.map iN)=true:=by
 unfold stateB
 rw [allR_true fun j hj=>?_]
 ·simp [h.len]
 ·unfold stAt
  rw [iN_at,iN_at]
  simp at hj
  have:=h.rng j (by rw [← h.len]; exact hj)
  simp only [Bool.and_eq_true,decide_eq_true_eq]
  omega
section
variable {w:World} {b:Nat} {vars:List Nat} {goal:List Fc} {U:List Un} {vv gv fv uv nd fr:Value} {rs:List Ru} {ps:List (Cell1 × List Nat)}
end
end Go.Proofs.YtkhfdmelcpfgoaaGreat
end
