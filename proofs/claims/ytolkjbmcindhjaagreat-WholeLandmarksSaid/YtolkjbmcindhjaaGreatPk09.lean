/-
  A part of the proof of this claim's statement (TkW8, TkNat, RxPlain, RxHeap): plain theorems; no conditions beyond those each names.
-/
import Derived.Test.YtolkjbmcindhjaaGreatPk08
import Derived.Test.YtolkjbmcindhjaaGreatPk07
set_option maxRecDepth 100000
set_option linter.unusedSimpArgs false
set_option linter.unusedVariables false
set_option linter.unusedSectionVars false
section
namespace Go.Proofs.YtolkjbmcindhjaaGreat
open Go Go.W Go.Tk
def errV (c:Int):Value:=.iface 101 (.int .i64 c)
def chkV (c:Option Int):Value:=match c with | none=>.nilIface | some c=>errV c
def costB (o:Oq):Bool:=decide (0≤o.cost) && decide (o.cost≤1048576)
def effsB (vars:List Int) (o:Oq):Bool:=o.effs.all fun e=>inR vars (e.v,e.x)
theorem chk_eq (t:Tk):chkC t=if largeB t=true then some 5 else if (t.vars.all varB)=false then some 1 else if (t.ops.all costB)=false then some 1 else if stateB t.vars t.init=false then some 2
  else if ((condsL t).all fun p=>propF t.vars p.2)=false then some 2 else if (t.ops.all (effsB t.vars))=false then some 2 else if (t.ops.all fun o=>nameB o.name)=false then some 8 else none:=rfl
theorem ops_all {α:Type} {l:List α} {p:α→Bool} (h:∀j x,j < l.length→l[j]? = some x→p x=true):l.all p=true:=by
 rw [List.all_eq_true]
 intro x hx
 obtain ⟨j,hj,rfl⟩:=List.getElem_of_mem hx
 exact h j _ hj (List.getElem?_eq_getElem hj)
def AllK {α:Type} (l:List α) (p:α→Bool) (k:Nat):Prop:=∀j x,j < k→l[j]? = some x→p x=true
theorem AllK.zero {α:Type} (l:List α) (p:α→Bool):AllK l p 0:=fun j x h=>by omega
theorem AllK.succ {α:Type} {l:List α} {p:α→Bool} {k:Nat} {x:α} (h:AllK l p k) (hx:l[k]? = some x) (hp:p x=true):AllK l p (k+1):=fun j y hj hy=>by
 rcases (show j < k∨j=k by omega) with h1 | h1
 ·exact h j y h1 hy
 ·subst h1; rw [hx] at hy; cases hy; exact hp
theorem AllK.all {α:Type} {l:List α} {p:α→Bool} (h:AllK l p l.length):l.all p=true:=ops_all fun j x hj hx=>h j x hj hx
set_option maxHeartbeats 4000000 in
theorem tcheck_spec {w:World} (t:Tk) (ht:TkR w t) (hl:TkL t) :
  Calls Tryz.prog 47 [tkV t].toArray w fun e w'=>∃x,e=.returned x∧x=chkV (chkC t)∧Kp [] w w':=by
 refine enter Tryz.func47 mixed low47 (Nat.le_of_ble_eq_true rfl) ?_
 simp only [L47]
 have h0:At w [] Emp w:=At.start rfl
 have h1:At w [] (Star (ObjA w.heap.size (tkO t)) Emp) _:=h0.alloc (tkO t) Lcl.emp
 obtain ⟨b,hb⟩:∃b,b=w.heap.size:=⟨_,rfl⟩
 rw [←hb] at h1
 have hLB:Lcl (Star (ObjA b (tkO t)) Emp):=.star .obj .emp
 obtain ⟨w1,hw1⟩:∃w1,w1=w.alloc (tkO t):=⟨_,rfl⟩
 rw [←hw1] at h1
 have hw1':w.alloc (.cells #[t.vv.1,t.nv.1,t.gv.1,t.ov.1] 26 (0,0))=w1:=by rw [hw1]; rfl
 have rdb:∀{w'},At w [] (Star (ObjA b (tkO t)) Emp) w'→w'.heap[b]? = some (.cells #[t.vv.1,t.nv.1,t.gv.1,t.ov.1] 26 (0,0)):=fun h=>by
  have:=h.obj
  unfold tkO at this
  exact this
 have hC:=chk_eq t
 refine seq_cut (fun ρ w'=>ρ 1=.pointer (some ⟨b,0,none⟩)∧At w [] (Star (ObjA b (tkO t)) Emp) w') ?_ ?_
 ·simp [tkV,←hb,hw1']
  exact h1
 clear h0 h1 hw1 hw1'
 -- large
 rintro ρ w2 ⟨g1,h2⟩
 refine seq_cut (fun ρ w'=>(ρ 1=.pointer (some ⟨b,0,none⟩)∧At w [] (Star (ObjA b (tkO t)) Emp) w')∧largeB t=false) ?_ ?_
 ·simp [g1,rd_tk h2.obj]
  refine cl_of (tlarge_spec t (ht.kp h2.kp) hl) ?_
  rintro _ w3 ⟨rfl,k3⟩
  have h3:=h2.kp0 hLB k3
  cases s:largeB t with
  | true =>
   rw [if_pos s] at hC
   simp [hC,chkV,errV]
   exact h3.kp
  | false =>
   simp [g1]
   exact h3
 clear g1 h2
 rintro ρ w2 ⟨⟨g1,h2⟩,e1⟩
 rw [if_neg (by rw [e1]; simp)] at hC
 have hbig:t.vars.length≤64∧t.ops.length≤4096∧∀o ∈ t.ops,o.effs.length≤64:=by
  unfold largeB at e1
  simp only [Bool.not_eq_false',Bool.and_eq_true,decide_eq_true_eq,List.all_eq_true] at e1
  exact ⟨e1.1.1.1,e1.1.1.2,e1.1.2⟩
 obtain ⟨lv,lo,le⟩:=hbig
 -- variables
 refine seq_cut (fun ρ w'=>(ρ 1=.pointer (some ⟨b,0,none⟩)∧At w [] (Star (ObjA b (tkO t)) Emp) w')∧t.vars.all varB=true) ?_ ?_
 ·have ht2:=ht.kp h2.kp
  simp [g1,cell_blk (rdb h2),ht2.vars.len]
  refine range_loop (n:=t.vars.length) (by omega) (fun k ρ w'=>ρ 1=.pointer (some ⟨b,0,none⟩)∧ρ 19=t.vv.1∧AllK t.vars varB k∧w'=w2) (by simp) (by simp)
   ⟨by simp [g1],by simp,AllK.zero _ _,rfl⟩ (by decide) (fun _ _ _ _ h=>by simpa using h) (fun _ _ _ _ h=>by simpa using h) ?_ ?_
  ·rintro k ρ w4 hk hc hlm ⟨g1,g18,hall,rfl⟩
   obtain ⟨x,hx⟩:∃x,t.vars[k]? = some x:=⟨_,List.getElem?_eq_getElem hk⟩
   have bad:varB x=false→chkC t=some 1:=fun h=>by
    rw [hC,if_pos (all_false (List.mem_of_getElem? hx) h)]
   by_cases s1:x < 1
   ·have e:=bad (by simp [varB]; omega)
    simp (disch:=omega) [g1,g18,hc,hlm,ht2.vars.idx,iE_cell ht2.vars hx,s1,e,chkV,errV]
    exact h2.kp
   by_cases s2:64 < x
   ·have e:=bad (by simp [varB]; omega)
    simp (disch:=omega) [g1,g18,hc,hlm,ht2.vars.idx,iE_cell ht2.vars hx,s1,s2,e,chkV,errV]
    exact h2.kp
   simp (disch:=omega) [g1,g18,hc,hlm,ht2.vars.idx,iE_cell ht2.vars hx,s1,s2]
   exact hall.succ hx (by simp [varB]; omega)
  rintro ρ w4 ⟨g1,g18,hall,rfl⟩
  simp only [thenK_nrm]
  exact ⟨⟨g1,h2⟩,by simpa using hall.all⟩
 clear g1 h2
 rintro ρ w2 ⟨⟨g1,h2⟩,e2⟩
 rw [if_neg (by rw [e2]; simp)] at hC
 -- costs
 refine seq_cut (fun ρ w'=>(ρ 1=.pointer (some ⟨b,0,none⟩)∧At w [] (Star (ObjA b (tkO t)) Emp) w')∧t.ops.all costB=true) ?_ ?_
 ·have ht2:=ht.kp h2.kp
  simp [g1,cell_blk (rdb h2),ht2.ops.len]
  refine range_loop (n:=t.ops.length) (by omega) (fun k ρ w'=>ρ 1=.pointer (some ⟨b,0,none⟩)∧ρ 34=t.ov.1∧AllK t.ops costB k∧At w [] (Star (ObjA b (tkO t)) Emp) w') (by simp) (by simp)
   ⟨by simp [g1],by simp,AllK.zero _ _,h2⟩ (by decide) (fun _ _ _ _ h=>by simpa using h) (fun _ _ _ _ h=>by simpa using h) ?_ ?_
  ·rintro k ρ w5 hk hc hlm ⟨g1,g16,hall,h5⟩
   obtain ⟨o,hok⟩:∃o,t.ops[k]? = some o:=⟨_,List.getElem?_eq_getElem hk⟩
   have hom:=List.mem_of_getElem? hok
   have ht5:=ht.kp h5.kp
   have ec:=ht5.ops.cells oqE_len hok
   simp only [oqE] at ec
   obtain ⟨eb,heb⟩:∃eb,eb=w5.heap.size:=⟨_,rfl⟩
   have bad:costB o=false→chkC t=some 1:=fun h=>by
    rw [hC,if_pos (all_false hom h)]
   simp (disch:=omega) [g16,hc,hlm,ht5.ops.idx,ec,←heb]
   refine st_oq (o:=o) .emp (At.start rfl:At w5 [] Emp w5) heb fun w6 h6=>?_
   have h7:=h5.kp0 hLB h6.kp
   have ho6:=h6.obj
   unfold oqO at ho6
   rw [heb] at ho6
   by_cases s1:o.cost < 0
   ·have e:=bad (by simp [costB]; omega)
    simp [cell_blk ho6,s1,e,chkV,errV]
    exact h7.kp
   by_cases s2:1048576 < o.cost
   ·have e:=bad (by simp [costB]; omega)
    simp [cell_blk ho6,s1,s2,e,chkV,errV]
    exact h7.kp
   simp [cell_blk ho6,s1,s2,g1,g16,hc,hlm]
   exact ⟨hall.succ hok (by simp [costB]; omega),h7⟩
  rintro ρ w4 ⟨g1,g18,hall,h4⟩
  simp only [thenK_nrm]
  exact ⟨⟨g1,h4⟩,by simpa using hall.all⟩
 clear g1 h2
 rintro ρ w2 ⟨⟨g1,h2⟩,e3⟩
 rw [if_neg (by rw [e3]; simp)] at hC
 -- initial state
 refine seq_cut (fun ρ w'=>(ρ 1=.pointer (some ⟨b,0,none⟩)∧At w [] (Star (ObjA b (tkO t)) Emp) w')∧stateB t.vars t.init=true) ?_ ?_
 ·have ht2:=ht.kp h2.kp
  simp [g1,cell_blk (rdb h2)]
  refine cl_of (tproper_spec t.vv.1 t.nv.1 t.vars t.init ht2.vars ht2.init hl.init) ?_
  rintro _ w3 ⟨rfl,k3⟩
  have h3:=h2.kp0 hLB k3
  cases s:stateB t.vars t.init with
  | false =>
   rw [if_pos s] at hC
   simp [hC,chkV,errV]
   exact h3.kp
  | true =>
   simp [g1]
   exact h3
 clear g1 h2
 rintro ρ w2 ⟨⟨g1,h2⟩,e4⟩
 rw [if_neg (by rw [e4]; simp)] at hC
 -- conditions
 refine seq_cut (fun ρ w'=>(ρ 1=.pointer (some ⟨b,0,none⟩)∧At w [] (Star (ObjA b (tkO t)) Emp) w')∧((condsL t).all fun p=>propF t.vars p.2)=true) ?_ ?_
 ·have ht2:=ht.kp h2.kp
  simp [g1,rd_tk h2.obj]
  refine cl_of (tconds_spec t ht2 lo le) ?_
  rintro u w3 hu
  have h3:=h2.kp0 hLB hu.kp
  have hcl:(condsL t).length≤1000000:=by
   have:=conds_len le
   simp only [condsL,List.length_cons]
   omega
  have hvw:=conds_vw (ht2.kp hu.kp)
  simp [hu.own.vw.len]
  refine range_loop (n:=(condsL t).length) (by omega) (fun k ρ w'=>ρ 1=.pointer (some ⟨b,0,none⟩)∧ρ 58=u∧AllK (condsL t) (fun p=>propF t.vars p.2) k∧At w [] (Star (ObjA b (tkO t)) Emp) w'∧Kp [] w3 w') (by simp) (by simp)
   ⟨by simp [g1],by simp,AllK.zero _ _,h3,Kp.refl _ _⟩ (by decide) (fun _ _ _ _ h=>by simpa using h) (fun _ _ _ _ h=>by simpa using h) ?_ ?_
  ·rintro k ρ w5 hk hc hlm ⟨g1,g16,hall,h5,k5⟩
   obtain ⟨p,hpk⟩:∃p,(condsL t)[k]? = some p:=⟨_,List.getElem?_eq_getElem hk⟩
   have hpm:=List.mem_of_getElem? hpk
   have hv5:=hu.own.vw.kp0 k5
   have ht5:=ht.kp h5.kp
   have ei:w5.cell? (u.adr.add k)=some p.1.1:=by simpa using hv5.at_ sv1_len hpk (o:=0) (u:=p.1.1) rfl
   have hlen:p.2.length≤64:=by
    unfold largeB at e1
    simp only [Bool.not_eq_false',Bool.and_eq_true,decide_eq_true_eq,List.all_eq_true] at e1
    exact e1.2 p hpm
   simp (disch:=omega) [g1,g16,hc,hlm,hv5.idx,ei,cell_blk (rdb h5)]
   refine cl_of (tfacts_spec t.vv.1 p.1.1 t.vars p.2 ht5.vars ((hvw p hpm).kp0 k5) (by omega)) ?_
   rintro _ w6 ⟨rfl,k6⟩
   have h6:=h5.kp0 hLB k6
   cases s:propF t.vars p.2 with
   | false =>
    have e:chkC t=some 2:=by rw [hC,if_pos (all_false hpm s)]
    simp [e,chkV,errV]
    exact h6.kp
   | true =>
    simp [g1,g16,hc,hlm]
    exact ⟨hall.succ hpk s,h6,k5.trans0 k6⟩
  rintro ρ w4 ⟨g1,g18,hall,h4,_⟩
  simp only [thenK_nrm]
  exact ⟨⟨g1,h4⟩,by simpa using hall.all⟩
 clear g1 h2
 rintro ρ w2 ⟨⟨g1,h2⟩,e5⟩
 rw [if_neg (by rw [e5]; simp)] at hC
 -- effects
 refine seq_cut (fun ρ w'=>(ρ 1=.pointer (some ⟨b,0,none⟩)∧At w [] (Star (ObjA b (tkO t)) Emp) w')∧t.ops.all (effsB t.vars)=true) ?_ ?_
 ·have ht2:=ht.kp h2.kp
  simp [g1,cell_blk (rdb h2),ht2.ops.len]
  refine range_loop (n:=t.ops.length) (by omega) (fun k ρ w'=>ρ 1=.pointer (some ⟨b,0,none⟩)∧ρ 72=t.ov.1∧AllK t.ops (effsB t.vars) k∧At w [] (Star (ObjA b (tkO t)) Emp) w') (by simp) (by simp)
   ⟨by simp [g1],by simp,AllK.zero _ _,h2⟩ (by decide) (fun _ _ _ _ h=>by simpa using h) (fun _ _ _ _ h=>by simpa using h) ?_ ?_
  ·rintro k ρ w5 hk hc hlm ⟨g1,g16,hall,h5⟩
   obtain ⟨o,hok⟩:∃o,t.ops[k]? = some o:=⟨_,List.getElem?_eq_getElem hk⟩
   have hom:=List.mem_of_getElem? hok
   have ht5:=ht.kp h5.kp
   have ec:=ht5.ops.cells oqE_len hok
   simp only [oqE] at ec
   obtain ⟨eb,heb⟩:∃eb,eb=w5.heap.size:=⟨_,rfl⟩
   have bad:effsB t.vars o=false→chkC t=some 2:=fun h=>by
    rw [hC,if_pos (all_false hom h)]
   simp (disch:=omega) [g16,hc,hlm,ht5.ops.idx,ec,←heb]
   refine st_oq (o:=o) .emp (At.start rfl:At w5 [] Emp w5) heb fun w6 h6=>?_
   have h7:=h5.kp0 hLB h6.kp
   have ho6:=h6.obj
   unfold oqO at ho6
   rw [heb] at ho6
   have hR:=(ht5.kp h6.kp).op o hom
   have hel:=le o hom
   simp [cell_blk ho6,hR.effs.len]
   refine range_loop (n:=o.effs.length) (by omega) (fun j ρ w'=>ρ 1=.pointer (some ⟨b,0,none⟩)∧ρ 72=t.ov.1∧ρ 73=.int .i64 (t.ops.length:Nat)∧ρ 74=.int .i64 (k:Nat)∧ρ 79=o.ev.1∧AllK o.effs (fun e=>inR t.vars (e.v,e.x)) j∧At w [] (Star (ObjA b (tkO t)) Emp) w'∧Kp [] w6 w') (by simp) (by simp)
    ⟨by simp [g1],by simp [g16],by simp [hlm],by simp [hc],by simp,AllK.zero _ _,h7,Kp.refl _ _⟩ (by decide) (fun _ _ _ _ h=>by simpa using h) (fun _ _ _ _ h=>by simpa using h) ?_ ?_
   rotate_left
   ·rintro ρ w8 ⟨g1,g72,g73,g74,g79,hall2,h8,_⟩
    simp [g1,g72,g73,g74]
    exact ⟨hall.succ hok hall2.all,h8⟩
   rintro j ρ w8 hj hcj hlj ⟨g1,g72,g73,g74,g79,hall2,h8,k8⟩
   obtain ⟨e,hej⟩:∃e,o.effs[j]? = some e:=⟨_,List.getElem?_eq_getElem hj⟩
   have hem:=List.mem_of_getElem? hej
   have hR8:=hR.kp k8
   have ece:=hR8.effs.cells efE_len hej
   simp only [efE] at ece
   obtain ⟨fb,hfb⟩:∃fb,fb=w8.heap.size:=⟨_,rfl⟩
   simp (disch:=omega) [g79,hcj,hlj,hR8.effs.idx,ece,←hfb]
   refine st_ef (e:=e) .emp (At.start rfl:At w8 [] Emp w8) hfb fun w9 h9=>?_
   have h10:=h8.kp0 hLB h9.kp
   have ho9:=h9.obj
   unfold efO at ho9
   rw [hfb] at ho9
   simp [g1,cell_blk ho9,cell_blk (rdb h10),rowOf]
   have h11:=(At.start rfl:At w9 [] Emp w9).lit (xs:=[((e.v,e.x):Fa)]) (enc:=faE) (E:=100) (sz:=2) (cs:=#[.int .i64 e.v,.int .i64 e.x]) (m:=1) .emp (by simp [faE]) faE_len (by simp [maxLen]) rfl
   have h12:=h10.kp0 hLB h11.kp
   refine cl_of (tfacts_spec t.vv.1 _ t.vars [((e.v,e.x):Fa)] (ht.kp h12.kp).vars h11.own.vw (by simp)) ?_
   rintro _ w12 ⟨rfl,k12⟩
   rw [propF_one]
   have h13:=h12.kp0 hLB k12
   cases s:inR t.vars (e.v,e.x) with
   | false =>
    have e:=bad (by unfold effsB; exact all_false hem s)
    simp [e,chkV,errV]
    exact h13.kp
   | true =>
    simp [g1,g72,g73,g74,g79,hcj,hlj]
    exact ⟨hall2.succ hej s,h13,((k8.trans0 h9.kp).trans0 h11.kp).trans0 k12⟩
  rintro ρ w4 ⟨g1,g18,hall,h4⟩
  simp only [thenK_nrm]
  exact ⟨⟨g1,h4⟩,by simpa using hall.all⟩
 clear g1 h2
 rintro ρ w2 ⟨⟨g1,h2⟩,e6⟩
 rw [if_neg (by rw [e6]; simp)] at hC
 -- names
 have ht2:=ht.kp h2.kp
 simp [g1,cell_blk (rdb h2),ht2.ops.len]
 refine range_loop (n:=t.ops.length) (by omega) (fun k ρ w'=>ρ 1=.pointer (some ⟨b,0,none⟩)∧ρ 99=t.ov.1∧AllK t.ops (fun o=>nameB o.name) k∧At w [] (Star (ObjA b (tkO t)) Emp) w') (by simp) (by simp)
  ⟨by simp [g1],by simp,AllK.zero _ _,h2⟩ (by decide) (fun _ _ _ _ h=>by simpa using h) (fun _ _ _ _ h=>by simpa using h) ?_ ?_
 ·rintro k ρ w5 hk hc hlm ⟨g1,g16,hall,h5⟩
  obtain ⟨o,hok⟩:∃o,t.ops[k]? = some o:=⟨_,List.getElem?_eq_getElem hk⟩
  have hom:=List.mem_of_getElem? hok
  have ht5:=ht.kp h5.kp
  have ec:=ht5.ops.cells oqE_len hok
  simp only [oqE] at ec
  obtain ⟨eb,heb⟩:∃eb,eb=w5.heap.size:=⟨_,rfl⟩
  simp (disch:=omega) [g16,hc,hlm,ht5.ops.idx,ec,←heb]
  refine st_oq (o:=o) .emp (At.start rfl:At w5 [] Emp w5) heb fun w6 h6=>?_
  have h7:=h5.kp0 hLB h6.kp
  have ho6:=h6.obj
  unfold oqO at ho6
  rw [heb] at ho6
  obtain ⟨l1,_,_,_⟩:=hl.op o hom
  simp [cell_blk ho6]
  refine cl_of (tnamed_spec o.name l1) ?_
  rintro _ w8 ⟨rfl,k8⟩
  have h8:=h7.kp0 hLB k8
  cases s:nameB o.name with
  | false =>
   have e:chkC t=some 8:=by rw [hC,if_pos (all_false hom s)]
   simp [e,chkV,errV]
   exact h8.kp
  | true =>
   simp [g1,g16,hc,hlm]
   exact ⟨hall.succ hok s,h8⟩
 rintro ρ w4 ⟨g1,g18,hall,h4⟩
 rw [if_neg (by rw [hall.all]; simp)] at hC
 simp [hC,chkV]
 exact h4.kp
end Go.Proofs.YtolkjbmcindhjaaGreat
end
section
namespace Go.Tk
open Go Go.W
abbrev Fc:=Nat × Nat
structure Nf where
 wv:Cell1
 cnd:List Fc
 v:Nat
 x:Nat
structure No where
 name:ByteArray
 cost:Nat
 pv:Cell1
 pre:List Fc
 ev:Cell1
 effs:List Nf
structure Nt where
 vv:Cell1
 nv:Cell1
 gv:Cell1
 ov:Cell1
 vars:List Nat
 init:List Nat
 goal:List Fc
 ops:List No
def iN (n:Nat):Int:=(n:Int)
def faN (f:Fc):Fa:=((f.1:Int),(f.2:Int))
def Nf.raw (e:Nf):Ef:=⟨e.wv,e.cnd.map faN,e.v,e.x⟩
def No.raw (o:No):Oq:=⟨o.name,o.cost,o.pv,o.pre.map faN,o.ev,o.effs.map Nf.raw⟩
def Nt.raw (t:Nt):Tk:=⟨t.vv,t.nv,t.gv,t.ov,t.vars.map iN,t.init.map iN,t.goal.map faN,t.ops.map No.raw⟩
def nE (n:Nat):List Value:=[.int .i64 (n:Nat)]
theorem nE_len (i:Nat):(nE i).length=1:=rfl
theorem nE_one (i:Nat):(nE i).all oneC=true:=rfl
def fcE (f:Fc):List Value:=[.int .i64 (f.1:Nat),.int .i64 (f.2:Nat)]
theorem fcE_len (f:Fc):(fcE f).length=2:=rfl
theorem fcE_one (f:Fc):(fcE f).all oneC=true:=rfl
def nfE (e:Nf):List Value:=[e.wv.1,.int .i64 (e.v:Nat),.int .i64 (e.x:Nat)]
theorem nfE_len (e:Nf):(nfE e).length=3:=rfl
def noE (o:No):List Value:=[.string o.name,.int .i64 (o.cost:Nat),o.pv.1,o.ev.1]
theorem noE_len (o:No):(noE o).length=4:=rfl
theorem noE_one (o:No):(noE o).all oneC=true:=by simp [noE,o.pv.2,o.ev.2]
theorem Vw.mapped {α β:Type} {encα:α→List Value} {encβ:β→List Value} {f:β→α} {w:World} {v:Value} {l:List β} (he:∀b,encα (f b)=encβ b):Vw w v encα (l.map f)↔Vw w v encβ l:=by
 have e:(l.map f).flatMap encα=l.flatMap encβ:=by
  induction l with
  | nil=>rfl
  | cons b l ih=>simp only [List.map_cons,List.flatMap_cons,ih,he]
 unfold Vw
 rw [e]
 simp
structure NoR (w:World) (o:No):Prop where
 pre:Vw w o.pv.1 fcE o.pre
 effs:Vw w o.ev.1 nfE o.effs
 cnd:∀e ∈ o.effs,Vw w e.wv.1 fcE e.cnd
structure NtR (w:World) (t:Nt):Prop where
 vars:Vw w t.vv.1 nE t.vars
 init:Vw w t.nv.1 nE t.init
 goal:Vw w t.gv.1 fcE t.goal
 ops:Vw w t.ov.1 noE t.ops
 op:∀o ∈ t.ops,NoR w o
theorem NoR.kp {w w':World} {o:No} (h:NoR w o) (k:Kp [] w w'):NoR w' o:=⟨h.pre.kp0 k,h.effs.kp0 k,fun e he=>(h.cnd e he).kp0 k⟩
theorem NtR.kp {w w':World} {t:Nt} (h:NtR w t) (k:Kp [] w w'):NtR w' t:=⟨h.vars.kp0 k,h.init.kp0 k,h.goal.kp0 k,h.ops.kp0 k,fun o ho=>(h.op o ho).kp k⟩
theorem vw_fc {w:World} {v:Value} {l:List Fc}:Vw w v faE (l.map faN)↔Vw w v fcE l:=Vw.mapped fun b=>rfl
theorem vw_n {w:World} {v:Value} {l:List Nat}:Vw w v iE (l.map iN)↔Vw w v nE l:=Vw.mapped fun b=>rfl
theorem NoR.raw {w:World} {o:No}:OqR w o.raw↔NoR w o:=by
 constructor
 ·rintro ⟨h1,h2,h3⟩
  exact ⟨vw_fc.1 h1,(Vw.mapped (f:=Nf.raw) fun b=>rfl).1 h2,fun e he=>vw_fc.1 (h3 e.raw (List.mem_map.2 ⟨e,he,rfl⟩))⟩
 ·rintro ⟨h1,h2,h3⟩
  refine ⟨vw_fc.2 h1,(Vw.mapped (f:=Nf.raw) fun b=>rfl).2 h2,fun e he=>?_⟩
  obtain ⟨e',he',rfl⟩:=List.mem_map.1 he
  exact vw_fc.2 (h3 e' he')
theorem NtR.raw {w:World} {t:Nt}:TkR w t.raw↔NtR w t:=by
 constructor
 ·rintro ⟨h1,h2,h3,h4,h5⟩
  exact ⟨vw_n.1 h1,vw_n.1 h2,vw_fc.1 h3,(Vw.mapped (f:=No.raw) fun b=>rfl).1 h4,fun o ho=>NoR.raw.1 (h5 o.raw (List.mem_map.2 ⟨o,ho,rfl⟩))⟩
 ·rintro ⟨h1,h2,h3,h4,h5⟩
  refine ⟨vw_n.2 h1,vw_n.2 h2,vw_fc.2 h3,(Vw.mapped (f:=No.raw) fun b=>rfl).2 h4,fun o ho=>?_⟩
  obtain ⟨o',ho',rfl⟩:=List.mem_map.1 ho
  exact NoR.raw.2 (h5 o' ho')
structure FcOk (vars:List Nat) (l:List Fc):Prop where
 rng:∀f ∈ l,f.1 < vars.length∧f.2 < vars.getD f.1 0
 asc:l.Pairwise fun a b=>a.1 < b.1
structure NoG (vars:List Nat) (o:No):Prop where
 cost:o.cost≤1048576
 elen:o.effs.length≤64
 pre:FcOk vars o.pre
 cnd:∀e ∈ o.effs,FcOk vars e.cnd
 eff:∀e ∈ o.effs,e.v < vars.length∧e.x < vars.getD e.v 0
structure NtG (t:Nt):Prop where
 vlen:t.vars.length≤64
 olen:t.ops.length≤4096
 vars:∀n ∈ t.vars,1≤n∧n≤64
 ilen:t.init.length=t.vars.length
 init:∀i,i < t.init.length→t.init.getD i 0 < t.vars.getD i 0
 goal:FcOk t.vars t.goal
 ops:∀o ∈ t.ops,NoG t.vars o
theorem asc_len:∀(l:List Nat) (N:Nat),l.Pairwise (· < ·)→(∀x ∈ l,x < N)→l.length≤N
 | [],N,_,_=>by simp
 | [x],N,_,h=>by have:=h x (by simp); simp; omega
 | x :: y :: l,N,hp,h=>by
  have hx:=List.pairwise_cons.1 hp
  have:=asc_len ((y :: l).map (· - 1)) (N - 1) ?_ ?_
  ·have hy:=h y (by simp)
   simp at this ⊢
   omega
  ·rw [List.pairwise_map]
   refine List.Pairwise.imp_of_mem ?_ hx.2
   intro a b ha hb hab
   have:=hx.1 a ha
   omega
  ·intro z hz
   obtain ⟨a,ha,rfl⟩:=List.mem_map.1 hz
   have:=hx.1 a ha
   have:=h a (by simp [ha])
   omega
 termination_by l=>l.length
theorem FcOk.len {vars:List Nat} {l:List Fc} (h:FcOk vars l):l.length≤vars.length:=by
 have:=asc_len (l.map (·.1)) vars.length (by rw [List.pairwise_map]; exact h.asc) (fun x hx=>by
  obtain ⟨f,hf,rfl⟩:=List.mem_map.1 hx
  exact (h.rng f hf).1)
 simpa using this
theorem prop_asc {vars:List Int} {l:List Fa} (h:propF vars l=true):(∀f ∈ l,inR vars f=true)∧l.Pairwise fun a b=>a.1 < b.1:=by
 have hat:∀i,i < l.length→inR vars (l.getD i (0,0))=true∧(0 < i→(l.getD (i - 1) (0,0)).1 < (l.getD i (0,0)).1):=fun i hi=>by
  have:=allR_at h hi
  unfold prAt at this
  simp only [Bool.and_eq_true,Bool.or_eq_true,decide_eq_true_eq] at this
  refine ⟨this.1,fun h0=>?_⟩
  rcases this.2 with h2 | h2
  ·omega
  ·exact h2
 have get:∀i (hi:i < l.length),l.getD i (0,0)=l[i]:=fun i hi=>by simp [List.getD,hi]
 refine ⟨fun f hf=>?_,?_⟩
 ·obtain ⟨i,hi,rfl⟩:=List.getElem_of_mem hf
  have:=(hat i hi).1
  rwa [get i hi] at this
 ·rw [List.pairwise_iff_getElem]
  intro i j hi hj hij
  have key:∀d i,i+d+1 < l.length→(l.getD i (0,0)).1 < (l.getD (i+d+1) (0,0)).1:=by
   intro d
   induction d with
   | zero=>intro i hi; exact (hat (i+1) (by omega)).2 (by omega)
   | succ d ih =>
    intro i hi
    have h1:=ih i (by omega)
    have h2:=(hat (i+(d+1)+1) (by omega)).2 (by omega)
    have e:i+(d+1)+1 - 1=i+d+1:=by omega
    rw [e] at h2
    omega
  have:=key (j - i - 1) i (by omega)
  rw [show i+(j - i - 1)+1=j by omega,get i hi,get j hj] at this
  exact this
theorem fa_nat {vars:List Int} {nvars:List Nat} (hv:vars=nvars.map iN) {f:Fa} (h:inR vars f=true):faN (f.1.toNat,f.2.toNat)=f∧f.1.toNat < nvars.length∧f.2.toNat < nvars.getD f.1.toNat 0:=by
 unfold inR at h
 simp only [Bool.and_eq_true,decide_eq_true_eq] at h
 obtain ⟨⟨⟨h1,h2⟩,h3⟩,h4⟩:=h
 subst hv
 have hl:f.1.toNat < nvars.length:=by simp at h2; omega
 have e:(nvars.map iN).getD f.1.toNat 0=(nvars.getD f.1.toNat 0:Int):=by simp [List.getD,hl,iN]
 rw [e] at h4
 refine ⟨?_,hl,by omega⟩
 unfold faN
 exact Prod.ext (by simp; omega) (by simp; omega)
theorem prop_nat {vars:List Int} {nvars:List Nat} (hv:vars=nvars.map iN) {l:List Fa} (h:propF vars l=true):∃m:List Fc,m.map faN=l∧FcOk nvars m:=by
 obtain ⟨h1,h2⟩:=prop_asc h
 refine ⟨l.map fun f=>(f.1.toNat,f.2.toNat),?_,?_,?_⟩
 ·rw [List.map_map]
  conv=>rhs; rw [←List.map_id l]
  exact List.map_congr_left fun f hf=>(fa_nat hv (h1 f hf)).1
 ·intro g hg
  obtain ⟨f,hf,rfl⟩:=List.mem_map.1 hg
  exact (fa_nat hv (h1 f hf)).2
 ·rw [List.pairwise_map]
  refine List.Pairwise.imp_of_mem ?_ h2
  intro a b ha hb hab
  have ea:=congrArg Prod.fst (fa_nat hv (h1 a ha)).1
  have eb:=congrArg Prod.fst (fa_nat hv (h1 b hb)).1
  simp only [faN] at ea eb
  show a.1.toNat < b.1.toNat
  omega
theorem list_nat {α β:Type} {f:β→α} {p:β→Prop}:∀{l:List α},(∀a ∈ l,∃b,f b=a∧p b)→∃m:List β,m.map f=l∧∀b ∈ m,p b
 | [],_=>⟨[],rfl,by simp⟩
 | a :: l,h=>by
  obtain ⟨b,hb,hp⟩:=h a (by simp)
  obtain ⟨m,hm,hpm⟩:=list_nat (l:=l) fun a ha=>h a (by simp [ha])
  refine ⟨b :: m,by simp [hb,hm],fun c hc=>?_⟩
  rcases List.mem_cons.1 hc with rfl | hc
  ·exact hp
  ·exact hpm c hc
theorem good_nat {t:Tk} (h:goodB t=true):∃T:Nt,T.raw=t∧NtG T:=by
 unfold goodB at h
 simp only [Bool.and_eq_true,decide_eq_true_eq] at h
 obtain ⟨⟨⟨⟨⟨h1,h2⟩,h3⟩,h4⟩,h5⟩,h6⟩:=h
 rw [List.all_eq_true] at h3 h6
 obtain ⟨nv,hnv,hnv2⟩:=list_nat (f:=iN) (p:=fun n=>1≤n∧n≤64) (l:=t.vars) fun a ha=>by
  have:=h3 a ha
  simp [varB] at this
  exact ⟨a.toNat,by unfold iN; omega,by omega,by omega⟩
 unfold stateB at h4
 simp only [Bool.and_eq_true,decide_eq_true_eq] at h4
 obtain ⟨hil,hst⟩:=h4
 have hst2:∀i,i < t.init.length→0≤t.init.getD i 0∧t.init.getD i 0 < t.vars.getD i 0:=fun i hi=>by
  have:=allR_at hst hi
  simpa [stAt] using this
 obtain ⟨ni,hni,_⟩:=list_nat (f:=iN) (p:=fun _=>True) (l:=t.init) fun a ha=>by
  obtain ⟨i,hi,rfl⟩:=List.getElem_of_mem ha
  have:=(hst2 i hi).1
  simp [List.getD,hi] at this
  exact ⟨t.init[i].toNat,by unfold iN; omega,trivial⟩
 obtain ⟨ng,hng,hgok⟩:=prop_nat hnv.symm h5
 obtain ⟨no,hno,hook⟩:=list_nat (f:=No.raw) (p:=NoG nv) (l:=t.ops) fun o ho=>by
  have:=h6 o ho
  unfold opB at this
  simp only [Bool.and_eq_true,decide_eq_true_eq] at this
  obtain ⟨⟨⟨⟨⟨c1,c2⟩,c3⟩,c4⟩,c5⟩,c6⟩:=this
  rw [List.all_eq_true] at c6
  obtain ⟨np,hnp,hpok⟩:=prop_nat hnv.symm c5
  obtain ⟨ne,hne,heok⟩:=list_nat (f:=Nf.raw) (p:=fun e=>FcOk nv e.cnd∧e.v < nv.length∧e.x < nv.getD e.v 0) (l:=o.effs) fun e he=>by
   have:=c6 e he
   unfold effB at this
   simp only [Bool.and_eq_true] at this
   obtain ⟨d1,d2⟩:=this
   obtain ⟨nc,hnc,hcok⟩:=prop_nat hnv.symm d1
   obtain ⟨f1,f2,f3⟩:=fa_nat hnv.symm d2
   refine ⟨⟨e.wv,nc,e.v.toNat,e.x.toNat⟩,?_,hcok,f2,f3⟩
   have q1:=congrArg Prod.fst f1
   have q2:=congrArg Prod.snd f1
   simp only [faN] at q1 q2
   unfold Nf.raw
   simp only [hnc]
   cases e
   simp only at q1 q2
   simp only [q1,q2]
  refine ⟨⟨o.name,o.cost.toNat,o.pv,np,o.ev,ne⟩,?_,by simp; omega,?_,hpok,fun e he=>(heok e he).1,fun e he=>(heok e he).2⟩
  ·unfold No.raw
   simp only [hnp,hne]
   have:((o.cost.toNat:Nat):Int)=o.cost:=by omega
   cases o
   simp only at this
   simp only [this]
  ·show ne.length≤64
   have:=congrArg List.length hne
   simp at this; omega
 have hlv:nv.length=t.vars.length:=by rw [←hnv]; simp
 have hlo:no.length=t.ops.length:=by rw [←hno]; simp
 have hli:ni.length=t.init.length:=by rw [←hni]; simp
 refine ⟨⟨t.vv,t.nv,t.gv,t.ov,nv,ni,ng,no⟩,?_,by show nv.length≤64; omega,by show no.length≤4096; omega,hnv2,by show ni.length=nv.length; omega,fun i hi=>?_,hgok,hook⟩
 ·unfold Nt.raw
  simp only [hnv,hni,hng,hno]
 ·have hi:i < ni.length:=hi
  have:=(hst2 i (by omega)).2
  rw [←hnv,←hni] at this
  have e1:(ni.map iN).getD i 0=(ni.getD i 0:Int):=by simp [List.getD,hi,iN]
  have e2:(nv.map iN).getD i 0=(nv.getD i 0:Int):=by simp [List.getD,show i < nv.length by omega,iN]
  rw [e1,e2] at this
  show ni.getD i 0 < nv.getD i 0
  omega
end Go.Tk
end
section
namespace Go.Rx
def Inf:Nat:=1125899906842624
structure Un where
 op:Nat
 eff:Nat
 cost:Nat
 makes:Nat
 needs:List Nat
def gr (V:Nat→Nat):List Nat→Nat
 | []=>0
 | x :: l=>max (V x) (gr V l)
section
variable {V V':Nat→Nat} {l l':List Nat} {k m:Nat}
theorem gr_le_iff:gr V l≤k↔∀x ∈ l,V x≤k:=by
 induction l with
 | nil=>simp [gr]
 | cons x l ih=>simp only [gr,Nat.max_le,ih,List.mem_cons,forall_eq_or_imp]
theorem gr_lt_iff (h:0 < k):gr V l < k↔∀x ∈ l,V x < k:=by
 induction l with
 | nil=>simp [gr,h]
 | cons x l ih=>simp only [gr,Nat.max_lt,ih,List.mem_cons,forall_eq_or_imp]
theorem gr_mem {x:Nat} (h:x ∈ l):V x≤gr V l:=(gr_le_iff (k:=gr V l)).1 (Nat.le_refl _) x h
theorem gr_mono (h:∀x ∈ l,V x≤V' x):gr V l≤gr V' l:=gr_le_iff.2 fun x hx=>Nat.le_trans (h x hx) (gr_mem hx)
theorem gr_congr (h:∀x ∈ l,V x=V' x):gr V l=gr V' l:=Nat.le_antisymm (gr_mono fun x hx=>Nat.le_of_eq (h x hx)) (gr_mono fun x hx=>Nat.le_of_eq (h x hx).symm)
theorem gr_sub (h:∀x ∈ l,x ∈ l'):gr V l≤gr V l':=gr_le_iff.2 fun x hx=>gr_mem (h x hx)
theorem gr_set (h:∀x,x ∈ l↔x ∈ l'):gr V l=gr V l':=Nat.le_antisymm (gr_sub fun x=>(h x).1) (gr_sub fun x=>(h x).2)
theorem gr_app:gr V (l ++ l')=max (gr V l) (gr V l'):=by
 induction l with
 | nil=>simp [gr]
 | cons x l ih=>simp only [List.cons_append,gr,ih]; omega
theorem gr_attain (h:0 < gr V l):∃x ∈ l,V x=gr V l:=by
 induction l with
 | nil=>simp [gr] at h
 | cons x l ih =>
  by_cases hx:V x=gr V (x :: l)
  ·exact ⟨x,by simp,hx⟩
  ·have e:gr V (x :: l)=gr V l:=by simp only [gr] at hx ⊢; omega
   rw [e] at h ⊢
   obtain ⟨y,hy,e2⟩:=ih h
   exact ⟨y,by simp [hy],e2⟩
end
inductive Der (U:List Un) (S:List Nat):Nat→Nat→Prop
 | base {f:Nat} (h:f ∈ S):Der U S f 0
 | step {u:Un} (hu:u ∈ U) (k:Nat→Nat) (h:∀n ∈ u.needs,Der U S n (k n)):Der U S u.makes (gr k u.needs+u.cost)
structure IsVal (U:List Un) (S:List Nat) (V:Nat→Nat):Prop where
 s0:∀f ∈ S,V f=0
 cl:∀u ∈ U,gr V u.needs < Inf→V u.makes≤gr V u.needs+u.cost
 der:∀f,V f < Inf→Der U S f (V f)
 le:∀f,V f≤Inf
section
variable {U U':List Un} {S S':List Nat} {V V':Nat→Nat} {f k:Nat}
theorem IsVal.below (h:IsVal U S V) (hS:∀f ∈ S',f ∈ S) (hU:∀u ∈ U',∃v ∈ U,v.makes=u.makes∧v.cost≤u.cost∧∀n ∈ v.needs,n ∈ u.needs) (d:Der U' S' f k):V f≤k:=by
 induction d with
 | base hf=>rw [h.s0 _ (hS _ hf)]; exact Nat.le_refl _
 | step hu k hk ih =>
  rename_i u
  obtain ⟨v,hv,e1,e2,e3⟩:=hU u hu
  have h1:gr V v.needs≤gr k u.needs:=Nat.le_trans (gr_mono (V':=k) fun n hn=>ih n (e3 n hn)) (gr_sub e3)
  rw [←e1]
  rcases Nat.lt_or_ge (gr V v.needs) Inf with h2 | h2
  ·have:=h.cl v hv h2
   omega
  ·have:=h.le v.makes
   omega
theorem IsVal.least (h:IsVal U S V) (d:Der U S f k):V f≤k :=
 h.below (fun _ h=>h) (fun u hu=>⟨u,hu,rfl,Nat.le_refl _,fun _ h=>h⟩) d
theorem IsVal.uniq (h:IsVal U S V) (h':IsVal U S V'):V=V':=by
 have key:∀{A B:Nat→Nat},IsVal U S A→IsVal U S B→∀f,A f≤B f:=fun {A B} ha hb f=>by
  rcases Nat.lt_or_ge (B f) Inf with h1 | h1
  ·exact ha.least (hb.der f h1)
  ·have:=ha.le f; omega
 funext f
 exact Nat.le_antisymm (key h h' f) (key h' h f)
theorem Der.mono (hU:∀u ∈ U,∃v ∈ U',v.makes=u.makes∧v.cost=u.cost∧∀n,n ∈ v.needs↔n ∈ u.needs) (d:Der U S f k):Der U' S f k:=by
 induction d with
 | base h=>exact .base h
 | step hu k hk ih =>
  rename_i u
  obtain ⟨v,hv,e1,e2,e3⟩:=hU u hu
  rw [←e1,←e2,←gr_set e3]
  exact .step hv k fun n hn=>ih n ((e3 n).1 hn)
theorem IsVal.same (h:IsVal U S V) (h1:∀u ∈ U,∃v ∈ U',v.makes=u.makes∧v.cost=u.cost∧∀n,n ∈ v.needs↔n ∈ u.needs) (h2:∀u ∈ U',∃v ∈ U,v.makes=u.makes∧v.cost=u.cost∧∀n,n ∈ v.needs↔n ∈ u.needs):IsVal U' S V:=by
 refine ⟨h.s0,fun u hu=>?_,fun f hf=>(h.der f hf).mono h1,h.le⟩
 obtain ⟨v,hv,e1,e2,e3⟩:=h2 u hu
 rw [←e1,←e2,←gr_set e3]
 exact h.cl v hv
theorem least_ex {p:Nat→Prop}:∀(n:Nat),p n→∃k,p k∧∀j,p j→k≤j:=by
 intro n
 induction n using Nat.strongRecOn with
 | ind n ih =>
  intro h
  rcases Classical.em (∃j,j < n∧p j) with ⟨j,hj,hp⟩ | hno
  ·exact ih j hj hp
  ·exact ⟨n,h,fun j hj=>Nat.le_of_not_lt fun hlt=>hno ⟨j,hlt,hj⟩⟩
def Lst (U:List Un) (S:List Nat) (f w:Nat):Prop:=Der U S f w∧∀j,Der U S f j→w≤j
theorem Lst.ex (d:Der U S f k):∃w,Lst U S f w:=least_ex k d
theorem lst_window {C:Nat} (hC:∀u ∈ U,u.cost≤C) (d:Der U S f k):∀w,Lst U S f w→∀t,t < w→∃g x,Lst U S g x∧t < x∧x≤t+C:=by
 induction d with
 | base h =>
  intro w hw t ht
  have:=hw.2 0 (.base h)
  omega
 | step hu kk hk ih =>
  rename_i u
  intro w hw t ht
  by_cases hle:w≤t+C
  ·exact ⟨_,w,hw,ht,hle⟩
  have hex:∀n,∃x,n ∈ u.needs→Lst U S n x:=fun n=>by
   by_cases hn:n ∈ u.needs
   ·obtain ⟨x,hx⟩:=Lst.ex (hk n hn)
    exact ⟨x,fun _=>hx⟩
   ·exact ⟨0,fun h=>absurd h hn⟩
  have hw2:=hw.2 _ (.step hu (fun n=>Classical.choose (hex n)) fun n hn=>(Classical.choose_spec (hex n) hn).1)
  have hc:=hC u hu
  obtain ⟨n,hn,e⟩:=gr_attain (V:=fun n=>Classical.choose (hex n)) (l:=u.needs) (by omega)
  exact ih n hn _ (Classical.choose_spec (hex n) hn) t (by omega)
theorem nodup_sub {α:Type} [DecidableEq α]:∀(xs ys:List α),xs.Nodup→(∀x ∈ xs,x ∈ ys)→xs.length≤ys.length
 | [],ys,_,_=>by simp
 | x :: xs,ys,hn,hs=>by
  rw [List.nodup_cons] at hn
  have hx:x ∈ ys:=hs x (by simp)
  have:=nodup_sub xs (ys.erase x) hn.2 (fun y hy=>by
   have hne:y≠x:=fun e=>hn.1 (e ▸ hy)
   exact (List.mem_erase_of_ne hne).2 (hs y (by simp [hy])))
  rw [List.length_erase_of_mem hx] at this
  have:0 < ys.length:=List.length_pos_of_mem hx
  simp; omega
theorem nodup_le (l:List Nat) (N:Nat) (hn:l.Nodup) (hl:∀x ∈ l,x < N):l.length≤N:=by
 have:=nodup_sub l (List.range N) hn fun x hx=>List.mem_range.2 (hl x hx)
 simpa using this
theorem lst_bound {C N:Nat} (hC:∀u ∈ U,u.cost≤C) (hN:∀f k,Der U S f k→f < N) {w:Nat} (hw:Lst U S f w):w≤N * C:=by
 apply Nat.le_of_not_lt
 intro hlt
 have hwin:∀j,∃q:Nat × Nat,j≤N→Lst U S q.1 q.2∧j * C < q.2∧q.2≤j * C+C:=fun j=>by
  by_cases hj:j≤N
  ·obtain ⟨g,x,h⟩:=lst_window hC hw.1 w hw (j * C) (Nat.lt_of_le_of_lt (Nat.mul_le_mul_right _ hj) hlt)
   exact ⟨(g,x),fun _=>h⟩
  ·exact ⟨(0,0),fun h=>absurd h hj⟩
 have hl:=nodup_le ((List.range (N+1)).map fun j=>(Classical.choose (hwin j)).1) N ?_ ?_
 ·simp at hl
  omega
 ·rw [List.nodup_iff_pairwise_ne,List.pairwise_map]
  refine List.Pairwise.imp_of_mem ?_ List.pairwise_lt_range
  intro a b ha hb hab e
  have ha:=Classical.choose_spec (hwin a) (by have:=List.mem_range.1 ha; omega)
  have hb:=Classical.choose_spec (hwin b) (by have:=List.mem_range.1 hb; omega)
  rw [e] at ha
  have h1:=ha.1.2 _ hb.1.1
  have h2:=hb.1.2 _ ha.1.1
  have h3:(a+1) * C≤b * C:=Nat.mul_le_mul_right _ hab
  rw [Nat.add_mul,Nat.one_mul] at h3
  omega
 ·intro x hx
  obtain ⟨j,hj,rfl⟩:=List.mem_map.1 hx
  exact hN _ _ (Classical.choose_spec (hwin j) (by have:=List.mem_range.1 hj; omega)).1.1
theorem IsVal.fin {C N:Nat} (h:IsVal U S V) (hC:∀u ∈ U,u.cost≤C) (hN:∀f k,Der U S f k→f < N) (hs:N * C < Inf):V f < Inf↔∃k,Der U S f k:=by
 constructor
 ·exact fun hf=>⟨_,h.der f hf⟩
 ·rintro ⟨k,hk⟩
  obtain ⟨w,hw⟩:=Lst.ex hk
  have:=lst_bound hC hN hw
  have:=h.least hw.1
  omega
end
end Go.Rx
end
section
namespace Go.Rx
abbrev En:=Nat × Nat
def bef (a b:En):Bool:=decide (a.1 < b.1)
theorem bef_irr (a:En):bef a a=false:=by simp [bef]
theorem nbef_trans {a b c:En} (h:bef b a=false) (k:bef c b=false):bef c a=false:=by
 simp only [bef,decide_eq_false_iff_not] at *; omega
theorem bef_asym {a b:En} (h:bef a b=true):bef b a=false:=by
 simp only [bef,decide_eq_false_iff_not,decide_eq_true_eq] at *; omega
def gt (l:List En) (i:Nat):En:=l.getD i default
def swp (l:List En) (i p:Nat):List En:=(l.set i (gt l p)).set p (gt l i)
@[simp] theorem swp_len (l:List En) (i p:Nat):(swp l i p).length=l.length:=by simp [swp]
def upL (l:List En) (i:Nat):List En :=
 if h:i=0 then l else if bef (gt l i) (gt l ((i - 1) / 2)) then upL (swp l i ((i - 1) / 2)) ((i - 1) / 2) else l
 termination_by i
 decreasing_by omega
def kid (l:List En) (i:Nat):Nat:=if 2 * i+2 < l.length∧bef (gt l (2 * i+2)) (gt l (2 * i+1))=true then 2 * i+2 else 2 * i+1
def downL (l:List En) (i:Nat):List En :=
 if h:l.length≤2 * i+1 then l else if bef (gt l (kid l i)) (gt l i) then downL (swp l i (kid l i)) (kid l i) else l
 termination_by l.length - i
 decreasing_by
 have:kid l i < l.length∧i < kid l i:=by unfold kid; split <;> omega
 simp; omega
theorem gt_lt {l:List En} {i:Nat} (h:i < l.length):gt l i=l[i]:=by simp [gt,h]
theorem gt_set {l:List En} {i j:Nat} {x:En} (hj:j < l.length):gt (l.set i x) j=if i=j then x else gt l j:=by
 rw [gt_lt (by simpa using hj),gt_lt hj,List.getElem_set]
theorem gt_swp {l:List En} {i p j:Nat} (hi:i < l.length) (hp:p < l.length) (hj:j < l.length):gt (swp l i p) j=if j=p then gt l i else if j=i then gt l p else gt l j:=by
 unfold swp
 rw [gt_set (by simpa using hj),gt_set hj]
 by_cases h1:p=j
 ·subst h1; simp
 ·by_cases h2:i=j
  ·subst h2; simp [h1,Ne.symm h1]
  ·simp [h1,h2,Ne.symm h1,Ne.symm h2]
theorem swp_perm {l:List En} {i p:Nat} (hi:i < l.length) (hp:p < l.length):(swp l i p).Perm l:=by
 have h:swp l i p=(l.toArray.swap i p (by simpa using hi) (by simpa using hp)).toList:=by
  simp [swp,Array.swap_def,gt_lt hi,gt_lt hp]
 rw [h]
 exact (Array.swap_perm (by simpa using hi) (by simpa using hp)).toList
def HeapFrom (s:Nat) (l:List En):Prop:=∀j,0 < j→j < l.length→s≤(j - 1) / 2→bef (gt l j) (gt l ((j - 1) / 2))=false
theorem upL_ok:∀(i:Nat) (l:List En),i < l.length →
  (∀j,0 < j→j < l.length→j≠i→bef (gt l j) (gt l ((j - 1) / 2))=false) →
  (∀j,0 < j→j < l.length→(j - 1) / 2=i→0 < i→bef (gt l j) (gt l ((i - 1) / 2))=false) →
  HeapFrom 0 (upL l i)∧(upL l i).Perm l:=by
 intro i
 induction i using Nat.strongRecOn with
 | _ i ih =>
  intro l hi h1 h2
  rw [upL]
  by_cases h0:i=0
  ·rw [dif_pos h0]
   refine ⟨fun j hj hjl _=>h1 j hj hjl (by omega),List.Perm.refl _⟩
  ·rw [dif_neg h0]
   cases hb:bef (gt l i) (gt l ((i - 1) / 2)) with
   | false =>
    simp only [Bool.false_eq_true,if_false]
    refine ⟨fun j hj hjl _=>?_,List.Perm.refl _⟩
    by_cases hji:j=i
    ·subst hji; exact hb
    ·exact h1 j hj hjl hji
   | true =>
    simp only [if_true]
    obtain ⟨p,hp⟩:∃p,p=(i - 1) / 2:=⟨_,rfl⟩
    rw [←hp] at hb h2 ⊢
    have hpl:p < l.length:=by omega
    have hpi:p < i:=by omega
    obtain ⟨r1,r2⟩:=ih p hpi (swp l i p) (by simpa using hpl)
     (fun j hj hjl hjp=>by
      have hjl':j < l.length:=by simpa using hjl
      have hq:(j - 1) / 2 < l.length:=by omega
      rw [gt_swp hi hpl hjl',gt_swp hi hpl hq,if_neg hjp]
      by_cases hji:j=i
      ·subst hji
       rw [if_pos rfl,←hp,if_pos rfl]
       exact bef_asym hb
      ·rw [if_neg hji]
       by_cases hqp:(j - 1) / 2=p
       ·rw [if_pos hqp]
        have:=h1 j hj hjl' hji
        rw [hqp] at this
        exact nbef_trans (bef_asym hb) this
       ·rw [if_neg hqp]
        by_cases hqi:(j - 1) / 2=i
        ·rw [if_pos hqi]
         exact h2 j hj hjl' hqi (by omega)
        ·rw [if_neg hqi]
         exact h1 j hj hjl' hji)
     (fun j hj hjl hjp hp0=>by
      have hjl':j < l.length:=by simpa using hjl
      have hq:(p - 1) / 2 < l.length:=by omega
      rw [gt_swp hi hpl hjl',gt_swp hi hpl hq,if_neg (by omega),if_neg (show ¬(p - 1) / 2=p by omega),if_neg (show ¬(p - 1) / 2=i by omega)]
      have hpp:=h1 p hp0 hpl (by omega)
      by_cases hji:j=i
      ·rw [if_pos hji]; exact hpp
      ·rw [if_neg hji]
       have:=h1 j hj hjl' hji
       rw [hjp] at this
       exact nbef_trans hpp this)
    exact ⟨r1,r2.trans (swp_perm hi hpl)⟩
theorem kid_le {l:List En} {i:Nat} (h:2 * i+1 < l.length):kid l i < l.length∧(kid l i - 1) / 2=i∧i < kid l i:=by
 unfold kid; split <;> omega
theorem kid_min {l:List En} {i j:Nat} (hj:0 < j) (hjl:j < l.length) (hp:(j - 1) / 2=i):bef (gt l j) (gt l (kid l i))=false:=by
 have h1:j=2 * i+1∨j=2 * i+2:=by omega
 unfold kid
 rcases h1 with rfl | rfl
 ·split
  ·rename_i h; exact bef_asym h.2
  ·exact bef_irr _
 ·split
  ·exact bef_irr _
  ·rename_i h
   cases e:bef (gt l (2 * i+2)) (gt l (2 * i+1)) with
   | false=>rfl
   | true=>exact absurd ⟨hjl,e⟩ h
theorem downL_ok (s:Nat):∀(n i:Nat) (l:List En),l.length - i≤n→s≤i →
  (∀j,0 < j→j < l.length→s≤(j - 1) / 2→(j - 1) / 2≠i→bef (gt l j) (gt l ((j - 1) / 2))=false) →
  (∀j,0 < j→j < l.length→(j - 1) / 2=i→0 < i→s≤(i - 1) / 2→bef (gt l j) (gt l ((i - 1) / 2))=false) →
  HeapFrom s (downL l i)∧(downL l i).Perm l:=by
 intro n
 induction n with
 | zero =>
  intro i l hn hs h1 h2
  rw [downL,dif_pos (by omega)]
  exact ⟨fun j hj hjl hjs=>h1 j hj hjl hjs (by omega),List.Perm.refl _⟩
 | succ n ih =>
  intro i l hn hs h1 h2
  rw [downL]
  by_cases hlen:l.length≤2 * i+1
  ·rw [dif_pos hlen]
   exact ⟨fun j hj hjl hjs=>h1 j hj hjl hjs (by omega),List.Perm.refl _⟩
  ·rw [dif_neg hlen]
   obtain ⟨hk1,hk2,hk3⟩:=kid_le (l:=l) (i:=i) (by omega)
   cases hb:bef (gt l (kid l i)) (gt l i) with
   | false =>
    simp only [Bool.false_eq_true,if_false]
    refine ⟨fun j hj hjl hjs=>?_,List.Perm.refl _⟩
    by_cases hp:(j - 1) / 2=i
    ·rw [hp]; exact nbef_trans hb (kid_min hj hjl hp)
    ·exact h1 j hj hjl hjs hp
   | true =>
    simp only [if_true]
    have hmin:∀j,0 < j→j < l.length→(j - 1) / 2=i→bef (gt l j) (gt l (kid l i))=false:=fun j=>kid_min
    generalize kid l i=k at *
    have hil:i < l.length:=by omega
    obtain ⟨r1,r2⟩:=ih k (swp l i k) (by simp; omega) (by omega)
     (fun j hj hjl hjs hjp=>by
      have hjl':j < l.length:=by simpa using hjl
      have hq:(j - 1) / 2 < l.length:=by omega
      rw [gt_swp hil hk1 hjl',gt_swp hil hk1 hq,if_neg hjp]
      by_cases hjk:j=k
      ·subst hjk
       rw [if_pos rfl,if_pos hk2]
       exact bef_asym hb
      ·rw [if_neg hjk]
       by_cases hji:j=i
       ·subst hji
        rw [if_pos rfl,if_neg (by omega)]
        exact h2 k (by omega) hk1 hk2 hj hjs
       ·rw [if_neg hji]
        by_cases hqi:(j - 1) / 2=i
        ·rw [if_pos hqi]; exact hmin j hj hjl' hqi
        ·rw [if_neg hqi]; exact h1 j hj hjl' hjs hqi)
     (fun j hj hjl hjp hk0 hks=>by
      have hjl':j < l.length:=by simpa using hjl
      rw [hk2] at hks ⊢
      rw [gt_swp hil hk1 hjl',gt_swp hil hk1 hil,if_neg (show ¬j=k by omega),if_neg (show ¬j=i by omega),if_neg (show ¬i=k by omega),if_pos rfl]
      have:=h1 j hj hjl' (by omega) (by omega)
      rw [hjp] at this
      exact this)
    exact ⟨r1,r2.trans (swp_perm hil hk1)⟩
theorem root_min {l:List En} (h:HeapFrom 0 l):∀n j,j < n→j < l.length→bef (gt l j) (gt l 0)=false:=by
 intro n
 induction n with
 | zero=>intro j hj; omega
 | succ n ih =>
  intro j hj hjl
  by_cases h0:j=0
  ·subst h0; exact bef_irr _
  ·exact nbef_trans (ih ((j - 1) / 2) (by omega) (by omega)) (h j (by omega) hjl (Nat.zero_le _))
theorem downL_len:∀(n i:Nat) (l:List En),l.length - i≤n→(downL l i).length=l.length
 | 0,i,l,h=>by rw [downL,dif_pos (by omega)]
 | n+1,i,l,h=>by
  rw [downL]
  by_cases h1:l.length≤2 * i+1
  ·rw [dif_pos h1]
  ·rw [dif_neg h1]
   obtain ⟨k1,k2,k3⟩:=kid_le (l:=l) (i:=i) (by omega)
   split
   ·rw [downL_len n _ _ (by simp; omega)]; simp
   ·rfl
theorem upL_len:∀(i:Nat) (l:List En),(upL l i).length=l.length:=by
 intro i
 induction i using Nat.strongRecOn with
 | ind i ih =>
  intro l
  rw [upL]
  split
  ·rfl
  ·split
   ·rw [ih _ (by omega)]; simp
   ·rfl
structure Hp (l s:List En):Prop where
 perm:l.Perm s
 heap:HeapFrom 0 l
theorem Hp.nil:Hp [] []:=⟨List.Perm.refl _,fun j hj hjl=>by simp at hjl⟩
theorem Hp.push {l s:List En} (h:Hp l s) (e:En):Hp (upL (l ++ [e]) l.length) (e :: s):=by
 have hg:∀j,j < l.length→gt (l ++ [e]) j=gt l j:=fun j hj=>by
  rw [gt_lt (by simp; omega),gt_lt hj,List.getElem_append_left hj]
 obtain ⟨r1,r2⟩:=upL_ok l.length (l ++ [e]) (by simp)
  (fun j hj hjl hne=>by
   have:j < l.length:=by simp at hjl; omega
   rw [hg j this,hg _ (by omega)]
   exact h.heap j hj this (Nat.zero_le _))
  (fun j hj hjl hp=>by simp at hjl; omega)
 exact ⟨r2.trans ((List.perm_append_singleton _ _).trans (h.perm.cons _)),r1⟩
def topL (l:List En):List En:=(l.set 0 (gt l (l.length - 1))).take (l.length - 1)
theorem topL_len (l:List En):(topL l).length=l.length - 1:=by simp [topL]
theorem swp_top {l:List En} (h:0 < l.length):swp l 0 (l.length - 1)=topL l ++ [gt l 0]:=by
 apply List.ext_getElem
 ·simp [topL]; omega
 ·intro i h1 h2
  have hi:i < l.length:=by simpa using h1
  have e:(swp l 0 (l.length - 1))[i]=gt (swp l 0 (l.length - 1)) i:=(gt_lt h1).symm
  rw [e,gt_swp h (by omega) hi]
  by_cases h3:i=l.length - 1
  ·rw [if_pos h3,List.getElem_append_right (by rw [topL_len]; omega)]
   simp
  ·rw [if_neg h3,List.getElem_append_left (by rw [topL_len]; omega)]
   simp only [topL,List.getElem_take,List.getElem_set]
   by_cases h4:i=0
   ·simp [h4]
   ·rw [if_neg h4,if_neg (Ne.symm h4),gt_lt hi]
theorem topL_perm {x:En} {l:List En}:(topL (x :: l)).Perm l:=by
 have h1:=swp_top (l:=x :: l) (by simp)
 have h2:(swp (x :: l) 0 ((x :: l).length - 1)).Perm (x :: l):=swp_perm (by simp) (by simp)
 rw [h1] at h2
 have h3:gt (x :: l) 0=x:=rfl
 rw [h3] at h2
 exact List.Perm.cons_inv ((List.perm_append_singleton _ _).symm.trans h2)
theorem Hp.pop {x:En} {l s:List En} (h:Hp (x :: l) s):Hp (downL (topL (x :: l)) 0) (s.erase x)∧x ∈ s∧∀y ∈ s,x.1≤y.1:=by
 have hx:x ∈ s:=h.perm.subset (by simp)
 have hl:l.Perm (s.erase x):=by
  have:=h.perm.erase x
  simpa using this
 have hg:∀j,0 < j→j < (topL (x :: l)).length→gt (topL (x :: l)) j=gt (x :: l) j:=fun j hj hjl=>by
  have hjl2:j < l.length:=by rw [topL_len] at hjl; simpa using hjl
  have hj1:j < (x :: l).length:=by simp; omega
  rw [gt_lt hjl,gt_lt hj1]
  simp only [topL,List.getElem_take,List.getElem_set]
  rw [if_neg (by omega)]
 obtain ⟨r1,r2⟩:=downL_ok 0 ((topL (x :: l)).length - 0) 0 (topL (x :: l)) (Nat.le_refl _) (Nat.le_refl _)
  (fun j hj hjl _ hp=>by
   have h1:0 < (j - 1) / 2:=by omega
   rw [hg j hj hjl,hg _ h1 (by omega)]
   refine h.heap j hj ?_ (Nat.zero_le _)
   rw [topL_len] at hjl; omega)
  (fun j hj hjl hp h0=>by omega)
 refine ⟨⟨r2.trans (topL_perm.trans hl),r1⟩,hx,fun y hy=>?_⟩
 obtain ⟨i,hi,he⟩:=List.getElem_of_mem (h.perm.symm.subset hy)
 have h2:=root_min h.heap (i+1) i (Nat.lt_succ_self i) hi
 rw [gt_lt hi,he] at h2
 have h3:gt (x :: l) 0=x:=rfl
 rw [h3] at h2
 simp only [bef,decide_eq_false_iff_not] at h2
 omega
end Go.Rx
end
