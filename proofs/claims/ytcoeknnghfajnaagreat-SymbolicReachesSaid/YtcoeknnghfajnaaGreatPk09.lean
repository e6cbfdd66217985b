/-
  A part of the proof of this claim's statement (TkW4, TkW5, TkW6, TkW7, TkW8): plain theorems; no conditions beyond those each names.
-/
import Derived.Test.YtcoeknnghfajnaaGreatPk08
set_option maxRecDepth 100000
set_option linter.unusedSimpArgs false
set_option linter.unusedVariables false
set_option linter.unusedSectionVars false
section
namespace Go.Proofs.YtcoeknnghfajnaaGreat
open Go Go.W Go.Tk
set_option maxHeartbeats 1000000 in
theorem good_spec {w:World} (t:Tk) (ht:TkR w t) (hl:TkL t) :
  Calls Tryz.prog 24 [tkV t].toArray w fun e w'=>∃x,e=.returned x∧x=.bool (goodB t)∧Kp [] w w':=by
 refine enter Tryz.func24 mixed low24 (Nat.le_of_ble_eq_true rfl) ?_
 simp only [L24]
 have h0:At w [] Emp w:=At.start rfl
 have h1:At w [] (Star (ObjA w.heap.size (tkO t)) Emp) _:=h0.alloc (tkO t) Lcl.emp
 obtain ⟨b,hb⟩:∃b,b=w.heap.size:=⟨_,rfl⟩
 rw [←hb] at h1
 have hLB:Lcl (Star (ObjA b (tkO t)) Emp):=.star .obj .emp
 obtain ⟨w1,hw1⟩:∃w1,w1=w.alloc (tkO t):=⟨_,rfl⟩
 rw [←hw1] at h1
 have hw1':w.alloc (.cells #[t.vv.1,t.nv.1,t.gv.1,t.ov.1] 26 (0,0))=w1:=by rw [hw1]; rfl
 have hob:=h1.obj
 unfold tkO at hob
 have ht1:=ht.kp h1.kp
 have k1:=h1.kp
 by_cases t1:64 < t.vars.length
 ·have t1':(64:Int) < (t.vars.length:Nat):=by omega
  have e:goodB t=false:=by simp [goodB]; omega
  simp [tkV,←hb,hw1',cell_blk hob,ht1.vars.len,t1,t1',e]
  exact k1
 have t1':¬(64:Int) < (t.vars.length:Nat):=by omega
 by_cases t2:4096 < t.ops.length
 ·have t2':(4096:Int) < (t.ops.length:Nat):=by omega
  have e:goodB t=false:=by simp [goodB]; omega
  simp [tkV,←hb,hw1',cell_blk hob,ht1.vars.len,ht1.ops.len,t1,t1',t2,t2',e]
  exact k1
 have t2':¬(4096:Int) < (t.ops.length:Nat):=by omega
 simp [tkV,←hb,hw1',cell_blk hob,ht1.vars.len,ht1.ops.len,t1,t1',t2,t2']
 refine range_loop (n:=t.vars.length) (by omega) (fun k ρ w'=>ρ 1=.pointer (some ⟨b,0,none⟩)∧ρ 18=t.vv.1∧(∀j x,j < k→t.vars[j]? = some x→varB x=true)∧w'=w1) (by simp) (by simp)
  ⟨by simp,by simp,by omega,rfl⟩ (by decide) (fun _ _ _ _ h=>by simpa using h) (fun _ _ _ _ h=>by simpa using h) ?_ ?_
 ·rintro k ρ w4 hk hc hlm ⟨g1,g18,hall,rfl⟩
  obtain ⟨x,hx⟩:∃x,t.vars[k]? = some x:=⟨_,List.getElem?_eq_getElem hk⟩
  have bad:varB x=false→goodB t=false:=fun h=>by
   have:t.vars.all varB=false:=all_false (List.mem_of_getElem? hx) h
   simp [goodB,this]
  by_cases s1:x < 1
  ·have e:=bad (by simp [varB]; omega)
   simp (disch:=omega) [g1,g18,hc,hlm,ht1.vars.idx,iE_cell ht1.vars hx,s1,e]
   exact k1
  by_cases s2:64 < x
  ·have e:=bad (by simp [varB]; omega)
   simp (disch:=omega) [g1,g18,hc,hlm,ht1.vars.idx,iE_cell ht1.vars hx,s1,s2,e]
   exact k1
  simp (disch:=omega) [g1,g18,hc,hlm,ht1.vars.idx,iE_cell ht1.vars hx,s1,s2]
  intro j y hj hy
  rcases (show j < k∨j=k by omega) with h | h
  ·exact hall j y h hy
  ·subst h
   rw [hx] at hy
   cases hy
   simp [varB]; omega
 rintro ρ w4 ⟨g1,g18,hall,rfl⟩
 have hvars:t.vars.all varB=true:=by
  rw [List.all_eq_true]
  intro x hx
  obtain ⟨j,hj,rfl⟩:=List.getElem_of_mem hx
  exact hall j _ hj (List.getElem?_eq_getElem hj)
 simp [g1,cell_blk hob]
 refine cl_of (state_spec t.vv.1 t.nv.1 t.vars t.init ht1.vars ht1.init hl.init) ?_
 rintro _ w2 ⟨rfl,k2⟩
 have h2:=h1.kp0 hLB k2
 cases s1:stateB t.vars t.init with
 | false =>
  have e:goodB t=false:=by simp [goodB,s1]
  simp [e]
  exact h2.kp
 | true =>
 have hob2:=h2.obj
 unfold tkO at hob2
 simp [g1,cell_blk hob2]
 have ht2:=ht1.kp k2
 refine cl_of (proper_spec t.vv.1 t.gv.1 t.vars t.goal ht2.vars ht2.goal hl.goal) ?_
 rintro _ w3 ⟨rfl,k3⟩
 have h3:=h2.kp0 hLB k3
 cases s2:propF t.vars t.goal with
 | false =>
  have e:goodB t=false:=by simp [goodB,s2]
  simp [e]
  exact h3.kp
 | true =>
 have hob3:=h3.obj
 unfold tkO at hob3
 have ht3:=ht2.kp k3
 simp [g1,cell_blk hob3,ht3.ops.len]
 refine range_loop (n:=t.ops.length) (by omega) (fun k ρ w'=>ρ 1=.pointer (some ⟨b,0,none⟩)∧ρ 46=t.ov.1∧(∀j o,j < k→t.ops[j]? = some o→opB t.vars o=true)∧At w [] (Star (ObjA b (tkO t)) Emp) w'∧Kp [] w3 w') (by simp) (by simp)
  ⟨by simp [g1],by simp,by omega,h3,Kp.refl _ _⟩ (by decide) (fun _ _ _ _ h=>by simpa using h) (fun _ _ _ _ h=>by simpa using h) ?_ ?_
 rotate_left
 ·rintro ρ w5 ⟨g1,g46,hall2,h5,k5⟩
  have e:goodB t=true:=by
   have:t.ops.all (opB t.vars)=true:=by
    rw [List.all_eq_true]
    intro o ho
    obtain ⟨j,hj,rfl⟩:=List.getElem_of_mem ho
    exact hall2 j _ hj (List.getElem?_eq_getElem hj)
   simp only [goodB,this,hvars,s1,s2,Bool.and_true,Bool.and_eq_true,decide_eq_true_eq]
   omega
  simp [e]
  exact h5.kp
 rintro k ρ w5 hk hc hlm ⟨g1,g46,hall2,h5,k5⟩
 obtain ⟨o,hok⟩:∃o,t.ops[k]? = some o:=⟨_,List.getElem?_eq_getElem hk⟩
 have hom:=List.mem_of_getElem? hok
 have ht5:=ht3.kp k5
 have ec:=ht5.ops.cells oqE_len hok
 simp only [oqE] at ec
 obtain ⟨eb,heb⟩:∃eb,eb=w5.heap.size:=⟨_,rfl⟩
 refine seq_cut (fun ρ w'=>ρ 1=.pointer (some ⟨b,0,none⟩)∧ρ 46=t.ov.1∧ρ 47=.int .i64 (t.ops.length:Nat)∧ρ 48=.int .i64 (k:Nat)∧ρ 6=.pointer (some ⟨eb,0,none⟩)∧At w5 [] (Star (ObjA eb (oqO o)) Emp) w') ?_ ?_
 ·simp (disch:=omega) [g46,hc,hlm,ht5.ops.idx,ec,←heb]
  refine st_oq (o:=o) .emp (At.start rfl:At w5 [] Emp w5) heb fun w6 h6=>?_
  simp [g1,g46,hc,hlm,←heb]
  exact h6
 clear g1 g46 hc hlm
 rintro ρ w6 ⟨g1,g46,g47,g48,g6,h6⟩
 have h5:=h5.kp0 hLB h6.kp
 have hob6:=h5.obj
 unfold tkO at hob6
 have ht6:=ht5.kp h6.kp
 obtain ⟨l1,l2,l3,l4⟩:=hl.op o hom
 simp [g1,g6,cell_blk hob6,rd_oq h6.obj]
 refine cl_of (operator_spec t.vv.1 t.vars o ht6.vars (ht6.op o hom) l1 l2 l3 l4) ?_
 rintro _ w7 ⟨rfl,k7⟩
 have h7:=h5.kp0 hLB k7
 cases s3:opB t.vars o with
 | false =>
  have e:goodB t=false:=by
   have:t.ops.all (opB t.vars)=false:=all_false hom s3
   simp [goodB,this]
  simp [e]
  exact h7.kp
 | true =>
 simp [g1,g46,g47,g48]
 refine ⟨fun j o' hj hj'=>?_,h7,(k5.trans0 h6.kp).trans0 k7⟩
 rcases (show j < k∨j=k by omega) with h | h
 ·exact hall2 j o' h hj'
 ·subst h
  rw [hok] at hj'
  cases hj'
  exact s3
set_option maxHeartbeats 1000000 in
theorem small_spec {w:World} (t:Tk) (ht:TkR w t) (hl:TkL t) :
  Calls Tryz.prog 6 [tkV t].toArray w fun e w'=>∃x,e=.returned x∧x=.bool (smallB t)∧Kp [] w w':=by
 refine enter Tryz.func6 mixed low6 (Nat.le_of_ble_eq_true rfl) ?_
 simp only [L6]
 have h0:At w [] Emp w:=At.start rfl
 have h1:At w [] (Star (ObjA w.heap.size (tkO t)) Emp) _:=h0.alloc (tkO t) Lcl.emp
 obtain ⟨b,hb⟩:∃b,b=w.heap.size:=⟨_,rfl⟩
 rw [←hb] at h1
 have hLB:Lcl (Star (ObjA b (tkO t)) Emp):=.star .obj .emp
 obtain ⟨w1,hw1⟩:∃w1,w1=w.alloc (tkO t):=⟨_,rfl⟩
 rw [←hw1] at h1
 have hw1':w.alloc (.cells #[t.vv.1,t.nv.1,t.gv.1,t.ov.1] 26 (0,0))=w1:=by rw [hw1]; rfl
 have hob:=h1.obj
 unfold tkO at hob
 have ht1:=ht.kp h1.kp
 have k1:=h1.kp
 by_cases t1:12 < t.vars.length
 ·have t1':(12:Int) < (t.vars.length:Nat):=by omega
  have e:smallB t=false:=by simp only [smallB,Bool.and_eq_false_iff,decide_eq_false_iff_not]; omega
  simp [tkV,←hb,hw1',cell_blk hob,ht1.vars.len,t1,t1',e]
  exact k1
 have t1':¬(12:Int) < (t.vars.length:Nat):=by omega
 by_cases t2:20 < t.ops.length
 ·have t2':(20:Int) < (t.ops.length:Nat):=by omega
  have e:smallB t=false:=by simp only [smallB,Bool.and_eq_false_iff,decide_eq_false_iff_not]; omega
  simp [tkV,←hb,hw1',cell_blk hob,ht1.vars.len,ht1.ops.len,t1,t1',t2,t2',e]
  exact k1
 have t2':¬(20:Int) < (t.ops.length:Nat):=by omega
 simp [tkV,←hb,hw1',cell_blk hob,ht1.vars.len,ht1.ops.len,t1,t1',t2,t2']
 refine range_loop (n:=t.ops.length) (by omega) (fun k ρ w'=>ρ 1=.pointer (some ⟨b,0,none⟩)∧ρ 16=t.ov.1∧(∀j o,j < k→t.ops[j]? = some o→o.effs.length≤8)∧At w [] (Star (ObjA b (tkO t)) Emp) w'∧Kp [] w1 w') (by simp) (by simp)
  ⟨by simp,by simp,by omega,h1,Kp.refl _ _⟩ (by decide) (fun _ _ _ _ h=>by simpa using h) (fun _ _ _ _ h=>by simpa using h) ?_ ?_
 ·rintro k ρ w5 hk hc hlm ⟨g1,g16,hall2,h5,k5⟩
  obtain ⟨o,hok⟩:∃o,t.ops[k]? = some o:=⟨_,List.getElem?_eq_getElem hk⟩
  have hom:=List.mem_of_getElem? hok
  have ht5:=ht1.kp k5
  have ec:=ht5.ops.cells oqE_len hok
  simp only [oqE] at ec
  obtain ⟨eb,heb⟩:∃eb,eb=w5.heap.size:=⟨_,rfl⟩
  simp (disch:=omega) [g16,hc,hlm,ht5.ops.idx,ec,←heb]
  refine st_oq (o:=o) .emp (At.start rfl:At w5 [] Emp w5) heb fun w6 h6=>?_
  have h7:=h5.kp0 hLB h6.kp
  have ho6:=h6.obj
  unfold oqO at ho6
  rw [heb] at ho6
  have ht6:=ht5.kp h6.kp
  by_cases s1:8 < o.effs.length
  ·have s1':(8:Int) < (o.effs.length:Nat):=by omega
   have e:smallB t=false:=by
    have:(t.ops.all fun o=>decide (o.effs.length≤8))=false:=all_false hom (by simp; omega)
    simp [smallB,this]
   simp [cell_blk ho6,(ht6.op o hom).effs.len,s1,s1',e]
   exact h7.kp
  have s1':¬(8:Int) < (o.effs.length:Nat):=by omega
  simp [cell_blk ho6,(ht6.op o hom).effs.len,s1,s1',g1,g16,hc,hlm]
  refine ⟨fun j o' hj hj'=>?_,h7,k5.trans0 h6.kp⟩
  rcases (show j < k∨j=k by omega) with h | h
  ·exact hall2 j o' h hj'
  ·subst h
   rw [hok] at hj'
   cases hj'
   omega
 rintro ρ w5 ⟨g1,g16,hall2,h5,k5⟩
 have hops:(t.ops.all fun o=>decide (o.effs.length≤8))=true:=by
  rw [List.all_eq_true]
  intro o ho
  obtain ⟨j,hj,rfl⟩:=List.getElem_of_mem ho
  exact decide_eq_true (hall2 j _ hj (List.getElem?_eq_getElem hj))
 have ht5:=ht1.kp k5
 simp [g1,rd_tk h5.obj]
 refine cl_of (good_spec t ht5 hl) ?_
 rintro _ w6 ⟨rfl,k6⟩
 have h6:=h5.kp0 hLB k6
 cases s1:goodB t with
 | false =>
  have e:smallB t=false:=by simp [smallB,s1]
  simp [e]
  exact h6.kp
 | true =>
 have hob6:=h6.obj
 unfold tkO at hob6
 simp [g1,cell_blk hob6]
 refine cl_of (many_spec t.vv.1 t.vars (ht5.kp k6).vars hl.vars) ?_
 rintro _ w7 ⟨rfl,k7⟩
 have hm:(decide (((manyF 512 1 t.vars:Nat):Int)≤512))=smallB t:=by
  simp only [smallB,s1,hops,Bool.and_true]
  rw [Bool.eq_iff_iff]
  simp only [decide_eq_true_eq,Bool.and_eq_true]
  omega
 simp [hm]
 exact h6.kp.trans0 k7
end Go.Proofs.YtcoeknnghfajnaaGreat
end
section
namespace Go.Proofs.YtcoeknnghfajnaaGreat
open Go Go.W Go.Tk
theorem tproper_spec {w:World} (vv sv:Value) (vars s:List Int) (hv:Vw w vv iE vars) (hs:Vw w sv iE s) (hl:s.length≤9223372036854775807) :
  Calls Tryz.prog 34 [vv,sv].toArray w fun e w'=>∃x,e=.returned x∧x=.bool (stateB vars s)∧Kp [] w w':=by
 refine enter Tryz.func34 mixed low34 (Nat.le_of_ble_eq_true rfl) ?_
 simp only [L34]
 by_cases hle:s.length=vars.length
 case neg =>
  have hne:((s.length:Int) != vars.length)=true:=by simp; omega
  have e:stateB vars s=false:=by simp [stateB,hle]
  simp [hv.len,hs.len,hne,e]
  exact Kp.refl _ _
 have hne:((s.length:Int) != vars.length)=false:=by simp; omega
 simp [hv.len,hs.len,hne]
 refine range_loop (n:=s.length) (by omega) (fun k ρ w'=>ρ 0=vv∧ρ 12=sv∧(∀j,j < k→stAt vars s j=true)∧Kp [] w w') (by simp) (by simp)
  ⟨by simp,by simp,by omega,Kp.refl _ _⟩ (by decide) (fun _ _ _ _ h=>by simpa using h) (fun _ _ _ _ h=>by simpa using h) ?_ ?_
 rotate_left
 ·rintro ρ w4 ⟨g0,g1,hall,k4⟩
  have:stateB vars s=true:=by unfold stateB; rw [allR_true hall]; simp [hle]
  simp [this]
  exact k4
 rintro k ρ w4 hk hc hlm ⟨g0,g1,hall,k4⟩
 have hs4:=hs.kp0 k4
 have hv4:=hv.kp0 k4
 obtain ⟨x,hx⟩:∃x,s[k]? = some x:=⟨_,List.getElem?_eq_getElem hk⟩
 obtain ⟨y,hy⟩:∃y,vars[k]? = some y:=⟨_,List.getElem?_eq_getElem (by omega)⟩
 have ex:stAt vars s k=(decide (0≤x) && decide (x < y)):=by unfold stAt; rw [getD_at hx,getD_at hy]
 have bad:(decide (0≤x) && decide (x < y))=false→stateB vars s=false:=fun h=>by
  unfold stateB; rw [allR_false hk (ex.trans h)]; simp
 by_cases t1:x < 0
 ·have e:=bad (by simp; omega)
  simp (disch:=omega) [g0,g1,hc,hlm,hs4.idx,iE_cell hs4 hx,t1,e]
  exact k4
 by_cases t2:y≤x
 ·have e:=bad (by simp; omega)
  simp (disch:=omega) [g0,g1,hc,hlm,hs4.idx,iE_cell hs4 hx,hv4.idx,iE_cell hv4 hy,t1,t2,e]
  exact k4
 simp (disch:=omega) [g0,g1,hc,hlm,hs4.idx,iE_cell hs4 hx,hv4.idx,iE_cell hv4 hy,t1,t2]
 refine ⟨fun j hj=>?_,k4⟩
 rcases (show j < k∨j=k by omega) with h1 | h1
 ·exact hall j h1
 ·subst h1; rw [ex]; simp; omega
theorem tfacts_spec {w:World} (vv fv:Value) (vars:List Int) (l:List Fa) (hv:Vw w vv iE vars) (hf:Vw w fv faE l) (hl:l.length≤9223372036854775807) :
  Calls Tryz.prog 67 [vv,fv].toArray w fun e w'=>∃x,e=.returned x∧x=.bool (propF vars l)∧Kp [] w w':=by
 refine enter Tryz.func67 mixed low67 (Nat.le_of_ble_eq_true rfl) ?_
 simp only [L67]
 simp [hf.len]
 refine range_loop (n:=l.length) (by omega) (fun k ρ w'=>ρ 0=vv∧ρ 8=fv∧(∃p:Int,ρ 5=.int .i64 p∧((k=0∧p=-1)∨(0 < k∧0≤p∧(l.getD (k - 1) (0,0)).1=p)))∧(∀j,j < k→prAt vars l j=true)∧Kp [] w w') (by simp) (by simp)
  ⟨by simp,by simp,⟨-1,by simp,.inl ⟨rfl,rfl⟩⟩,by omega,Kp.refl _ _⟩ (by decide) (fun _ _ _ _ h=>by simpa using h) (fun _ _ _ _ h=>by simpa using h) ?_ ?_
 rotate_left
 ·rintro ρ w4 ⟨g0,g8,_,hall,k4⟩
  have:propF vars l=true:=allR_true hall
  simp [this]
  exact k4
 rintro k ρ w4 hk hc hlm ⟨g0,g8,⟨p,g5,hp⟩,hall,k4⟩
 obtain ⟨f,hfk⟩:∃f,l[k]? = some f:=⟨_,List.getElem?_eq_getElem hk⟩
 have hf4:=hf.kp0 k4
 have hv4:=hv.kp0 k4
 have ec:=hf4.cells faE_len hfk
 simp only [faE] at ec
 obtain ⟨b,hb⟩:∃b,b=w4.heap.size:=⟨_,rfl⟩
 refine seq_cut (fun ρ w'=>ρ 0=vv∧ρ 8=fv∧ρ 5=.int .i64 p∧ρ 9=.int .i64 (l.length:Nat)∧ρ 10=.int .i64 (k:Nat)∧ρ 7=.pointer (some ⟨b,0,none⟩)∧At w4 [] (Star (ObjA b (faO f)) Emp) w') ?_ ?_
 ·simp (disch:=omega) [g8,hc,hlm,hf4.idx,ec,←hb]
  refine st_fa (f:=f) .emp (At.start rfl:At w4 [] Emp w4) hb fun w5 h5=>?_
  simp [g0,g8,g5,hc,hlm,←hb]
  exact h5
 clear g0 g8 g5 hc hlm
 rintro ρ w5 ⟨g0,g8,g5,g9,g10,g7,h5⟩
 have ho:=h5.obj
 unfold faO at ho
 have hv5:=hv4.kp0 h5.kp
 have eg:l.getD k (0,0)=f:=getD_at hfk
 have bad:(inR vars f && (decide (k=0) || decide ((l.getD (k - 1) (0,0)).1 < f.1)))=false→propF vars l=false:=fun h=>allR_false hk (by unfold prAt; rw [eg]; exact h)
 have k5:Kp [] w w5.drew:=(k4.trans0 h5.kp).drew
 by_cases t0:f.1≤p
 ·have e:=bad (by
   rcases hp with ⟨h1,h2⟩ | ⟨h1,h2,h3⟩
   ·simp [inR]; omega
   ·rw [h3]; simp [Nat.ne_of_gt h1]; omega)
  simp [g7,g5,cell_blk ho,t0,e]
  exact k5
 by_cases t2:(vars.length:Int)≤f.1
 ·have e:=bad (by simp [inR]; omega)
  simp [g7,g5,g0,cell_blk ho,t0,hv5.len,t2,e]
  exact k5
 by_cases t3:f.2 < 0
 ·have e:=bad (by simp [inR]; omega)
  simp [g7,g5,g0,cell_blk ho,t0,hv5.len,t2,t3,e]
  exact k5
 have t1:0≤f.1:=by omega
 obtain ⟨y,hy⟩:∃y,vars[f.1.toNat]? = some y:=⟨_,List.getElem?_eq_getElem (by omega)⟩
 have ey:vars.getD f.1.toNat 0=y:=getD_at hy
 by_cases t4:y≤f.2
 ·have e:=bad (by unfold inR; rw [ey]; simp; omega)
  simp (disch:=omega) [g7,g5,g0,cell_blk ho,t0,hv5.len,t2,t3,hv5.idx,iE_cell hv5 hy,t4,e]
  exact k5
 have hin:inR vars f=true:=by unfold inR; rw [ey]; simp; omega
 simp (disch:=omega) [g7,g5,g0,g8,g9,g10,cell_blk ho,t0,hv5.len,t2,t3,hv5.idx,iE_cell hv5 hy,t4]
 refine ⟨⟨by rw [(List.getElem?_eq_some_iff.1 hfk).2],by rw [(List.getElem?_eq_some_iff.1 hfk).2]; exact t1⟩,fun j hj=>?_,k5⟩
 rcases (show j < k∨j=k by omega) with h1 | h1
 ·exact hall j h1
 ·subst h1
  unfold prAt
  rw [eg,hin]
  rcases hp with ⟨h1,h2⟩ | ⟨h1,h2,h3⟩
  ·simp [h1]
  ·rw [h3]; simp; omega
theorem tnamed_spec {w:World} (b:ByteArray) (hl:b.size≤9223372036854775807) :
  Calls Tryz.prog 68 [.string b].toArray w fun e w'=>∃x,e=.returned x∧x=.bool (nameB b)∧Kp [] w w':=by
 refine enter Tryz.func68 mixed low68 (Nat.le_of_ble_eq_true rfl) ?_
 simp only [L68]
 simp
 refine range_loop (n:=b.size) (by omega) (fun k ρ w'=>ρ 0=.string b∧(∀j,j < k→chB b j=true)∧w'=w) (by simp) (by simp)
  ⟨by simp,by omega,rfl⟩ (by decide) (fun _ _ _ _ h=>by simpa using h) (fun _ _ _ _ h=>by simpa using h) ?_ ?_
 ·rintro k ρ w4 hk hc hlm ⟨g0,hall,rfl⟩
  obtain ⟨c,hc1⟩:∃c,b[k]? = some c:=⟨_,getElem?_pos b k hk⟩
  have ech:=chB_at hc1
  have bad:(decide (32≤c.toNat) && decide (c.toNat≤126))=false→nameB b=false:=fun h=>by
   unfold nameB; rw [allR_false hk (ech.trans h)]; simp
  by_cases s1:c.toNat < 32
  ·have s1':((c.toNat:Nat):Int) < 32:=by omega
   have e:=bad (by simp; omega)
   simp [g0,hc,hlm,hc1,s1,s1',e]
   exact Kp.refl _ _
  have s1':¬((c.toNat:Nat):Int) < 32:=by omega
  by_cases s2:126 < c.toNat
  ·have s2':(126:Int) < ((c.toNat:Nat):Int):=by omega
   have e:=bad (by simp; omega)
   simp [g0,hc,hlm,hc1,s1,s1',s2,s2',e]
   exact Kp.refl _ _
  have s2':¬(126:Int) < ((c.toNat:Nat):Int):=by omega
  simp [g0,hc,hlm,hc1,s1,s1',s2,s2']
  intro j hj
  rcases (show j < k∨j=k by omega) with h | h
  ·exact hall j h
  ·subst h; rw [ech]; simp; omega
 rintro ρ w4 ⟨g0,hall,rfl⟩
 have e:decide ((b.size:Int)≤256)=nameB b:=by
  unfold nameB
  rw [allR_true hall,Bool.and_true,Bool.eq_iff_iff]
  simp only [decide_eq_true_eq]
  omega
 simp [g0,e]
 exact Kp.refl _ _
end Go.Proofs.YtcoeknnghfajnaaGreat
end
section
namespace Go.Proofs.YtcoeknnghfajnaaGreat
open Go Go.W Go.Tk
structure Nw {α:Type} (w w':World) (u:Value) (E sz:Nat) (enc:α→List Value) (l:List α):Prop where
 kp:Kp [] w w'
 own:Own w' u E sz enc l
 fresh:∀x ∈ u.own,w.heap.size≤x
theorem Nw.of {α:Type} {w w':World} {u:Value} {E sz:Nat} {enc:α→List Value} {l:List α} {B:Asr} (h:At w [] (Star (OwnA u E sz enc l) B) w'):Nw w w' u E sz enc l:=by
 refine ⟨h.kp,h.own,fun x hx=>?_⟩
 obtain ⟨F',⟨Fa,Fb,⟨_,rfl⟩,_,_,rfl⟩,hs⟩:=h.ex
 rcases hs x (by simp [hx]) with h1 | h1
 ·cases h1
 ·exact h1
theorem At.nw {α:Type} {w w1 w':World} {F:List Nat} {B:Asr} {u:Value} {E sz:Nat} {enc:α→List Value} {l:List α} (hB:Lcl B) (h:At w F B w1) (t:Nw w1 w' u E sz enc l):At w F (Star (OwnA u E sz enc l) B) w' :=
 h.more hB t.kp ⟨u.own,⟨t.own,rfl⟩,t.fresh⟩
theorem condsO_len (o:Oq):(condsO o).length=1+o.effs.length:=by simp [condsO]; omega
theorem conds_len {ops:List Oq} (h:∀o ∈ ops,o.effs.length≤64):(ops.flatMap condsO).length≤65 * ops.length:=by
 induction ops with
 | nil=>simp
 | cons o l ih =>
  have:=ih fun o' ho=>h o' (by simp [ho])
  have:=h o (by simp)
  simp only [List.flatMap_cons,List.length_append,condsO_len,List.length_cons]
  omega
theorem cd_append {w w1:World} {F:List Nat} {B:Asr} {ov:Value} {p:Cell1 × List Fa} {outs:List (Cell1 × List Fa)} {KV:Kont (Value × World)} (hB:Lcl B) (h:At w F (Star (OwnA ov 23 1 sv1 outs) B) w1) (hl:outs.length≤1000000)
  (H:∀v' w2,At w F (Star (OwnA v' 23 1 sv1 (outs ++ [p])) B) w2→KV.run (v',w2)) :
  @efH Tryz.prog (Builtin.append_ #[112,112] 112 [ov,.slice (some ⟨w1.heap.size,0,none⟩) 1 1].toArray) (w1.alloc (.cells #[p.1.1] 23)) KV:=by
 have h4:=h.kp0 (Lcl.own.star hB) ((Kp.refl [] w1).alloc (.cells #[p.1.1] 23))
 refine At.append (xs:=[p]) hB h4 sv1_len sv1_one sl_112 rfl (fun j x hj=>?_) (by omega) (by unfold maxLen; omega) fun v' w5 h5=>H v' w5 h5
 simp [sv1] at hj
 rw [add_none,cell_blk alloc_new]
 simpa using hj
set_option maxHeartbeats 1000000 in
theorem tconds_spec {w:World} (t:Tk) (ht:TkR w t) (ho:t.ops.length≤4096) (he:∀o ∈ t.ops,o.effs.length≤64) :
  Calls Tryz.prog 66 [tkV t].toArray w fun e w'=>∃u,e=.returned u∧Nw w w' u 23 1 sv1 (condsL t):=by
 refine enter Tryz.func66 mixed low66 (Nat.le_of_ble_eq_true rfl) ?_
 simp only [L66]
 have h0:At w [] Emp w:=At.start rfl
 have h1:At w [] (Star (ObjA w.heap.size (tkO t)) Emp) _:=h0.alloc (tkO t) Lcl.emp
 obtain ⟨b,hb⟩:∃b,b=w.heap.size:=⟨_,rfl⟩
 rw [←hb] at h1
 have hLB:Lcl (Star (ObjA b (tkO t)) Emp):=.star .obj .emp
 obtain ⟨w1,hw1⟩:∃w1,w1=w.alloc (tkO t):=⟨_,rfl⟩
 rw [←hw1] at h1
 have hw1':w.alloc (.cells #[t.vv.1,t.nv.1,t.gv.1,t.ov.1] 26 (0,0))=w1:=by rw [hw1]; rfl
 have hob:=h1.obj
 unfold tkO at hob
 have ht1:=ht.kp h1.kp
 have h2:=h1.lit (xs:=[((t.gv,t.goal):Cell1 × List Fa)]) (enc:=sv1) (E:=23) (sz:=1) (cs:=#[t.gv.1]) (m:=1) hLB (by simp [sv1]) sv1_len (by simp [maxLen]) rfl
 obtain ⟨w2,hw2⟩:∃w2,w2=w1.alloc (.cells #[t.gv.1] 23):=⟨_,rfl⟩
 obtain ⟨sl,hsl⟩:∃sl,sl=Value.slice (some ⟨w1.heap.size,0,none⟩) 1 1:=⟨_,rfl⟩
 rw [←hw2,←hsl] at h2
 have hob2:=h2.drop.obj
 unfold tkO at hob2
 have ht2:=ht.kp h2.kp
 have go:=ht1.goal.c1
 simp [tkV,←hb,hw1',cell_blk hob,rowOf,go,←hw2,←hsl,cell_blk hob2,ht2.ops.len]
 refine range_loop (n:=t.ops.length) (by omega) (fun k ρ w'=>ρ 1=.pointer (some ⟨b,0,none⟩)∧ρ 12=t.ov.1∧At w [] (Star (OwnA (ρ 3) 23 1 sv1 ((t.gv,t.goal) :: (t.ops.take k).flatMap condsO)) (Star (ObjA b (tkO t)) Emp)) w') (by simp) (by simp)
  ⟨by simp,by simp,by simpa using h2⟩ (by decide) (fun _ _ _ _ h=>by simpa using h) (fun _ _ _ _ h=>by simpa using h) ?_ ?_
 rotate_left
 ·rintro ρ w5 ⟨g1,g12,h5⟩
  rw [List.take_length] at h5
  simp
  exact Nw.of h5
 rintro k ρ w5 hk hc hlm ⟨g1,g12,h5⟩
 obtain ⟨o,hok⟩:∃o,t.ops[k]? = some o:=⟨_,List.getElem?_eq_getElem hk⟩
 have hom:=List.mem_of_getElem? hok
 have ht5:=ht.kp h5.kp
 have ec:=ht5.ops.cells oqE_len hok
 simp only [oqE] at ec
 have hpl:((t.ops.take k).flatMap condsO).length≤65 * 4096:=by
  have:=conds_len (ops:=t.ops.take k) fun o ho=>he o (List.mem_of_mem_take ho)
  rw [List.length_take] at this
  omega
 obtain ⟨pre,hpre⟩:∃pre,pre=(t.ops.take k).flatMap condsO:=⟨_,rfl⟩
 rw [←hpre] at h5 hpl
 have hnext:(t.ops.take (k+1)).flatMap condsO=pre ++ condsO o:=by
  rw [List.take_add_one,hok,hpre]; simp
 rw [hnext]
 have hel:=he o hom
 obtain ⟨eb,heb⟩:∃eb,eb=w5.heap.size:=⟨_,rfl⟩
 simp (disch:=omega) [g12,hc,hlm,ht5.ops.idx,ec,←heb]
 have hL5:Lcl (Star (OwnA (ρ 3) 23 1 sv1 ((t.gv,t.goal) :: pre)) (Star (ObjA b (tkO t)) Emp)):=Lcl.own.star hLB
 refine st_oq (o:=o) hL5 h5 heb fun w6 h6=>?_
 have ho6:=h6.obj
 unfold oqO at ho6
 rw [heb] at ho6
 have po:=ht5.op o hom |>.pre.c1
 simp [cell_blk ho6,rowOf,po]
 refine cd_append (p:=(o.pv,o.pre)) (Lcl.obj.star hLB) (h6.by Imp.sw) (by simp; omega) fun v' w7 h7=>?_
 have ho7:=h7.drop.obj
 unfold oqO at ho7
 rw [heb] at ho7
 have ht7:=ht.kp h7.kp
 have hR:=ht7.op o hom
 simp [cell_blk ho7,hR.effs.len]
 refine range_loop (n:=o.effs.length) (by omega) (fun j ρ w'=>ρ 1=.pointer (some ⟨b,0,none⟩)∧ρ 12=t.ov.1∧ρ 13=.int .i64 (t.ops.length:Nat)∧ρ 14=.int .i64 (k:Nat)∧ρ 24=o.ev.1∧At w [] (Star (OwnA (ρ 3) 23 1 sv1 ((t.gv,t.goal) :: pre ++ [(o.pv,o.pre)] ++ (o.effs.take j).map fun e=>(e.wv,e.cnd))) (Star (ObjA b (tkO t)) Emp)) w') (by simp) (by simp)
  ⟨by simp [g1],by simp [g12],by simp [hlm],by simp [hc],by simp,by simpa using h7.by (Imp.un Imp.dr)⟩ (by decide) (fun _ _ _ _ h=>by simpa using h) (fun _ _ _ _ h=>by simpa using h) ?_ ?_
 rotate_left
 ·rintro ρ w8 ⟨g1,g12,g13,g14,g24,h8⟩
  rw [List.take_length] at h8
  simp [g1,g12,g13,g14]
  have e:(t.gv,t.goal) :: (pre ++ condsO o)=(t.gv,t.goal) :: pre ++ [(o.pv,o.pre)] ++ o.effs.map fun e=>(e.wv,e.cnd):=by simp [condsO]
  rw [e]
  exact h8
 rintro j ρ w8 hj hcj hlj ⟨g1,g12,g13,g14,g24,h8⟩
 obtain ⟨e,hej⟩:∃e,o.effs[j]? = some e:=⟨_,List.getElem?_eq_getElem hj⟩
 have ht8:=ht.kp h8.kp
 have hR8:=ht8.op o hom
 have ece:=hR8.effs.cells efE_len hej
 simp only [efE] at ece
 obtain ⟨fb,hfb⟩:∃fb,fb=w8.heap.size:=⟨_,rfl⟩
 simp (disch:=omega) [g24,hcj,hlj,hR8.effs.idx,ece,←hfb]
 refine st_ef (e:=e) (Lcl.own.star hLB) h8 hfb fun w9 h9=>?_
 have ho9:=h9.obj
 unfold efO at ho9
 rw [hfb] at ho9
 have wo:=hR8.cnd e (List.mem_of_getElem? hej) |>.c1
 have htl:(o.effs.take j).length≤64:=by rw [List.length_take]; omega
 simp [cell_blk ho9,rowOf,wo]
 refine cd_append (p:=(e.wv,e.cnd)) (Lcl.obj.star hLB) (h9.by Imp.sw) (by simp; omega) fun v' w10 h10=>?_
 simp [g1,g12,g13,g14,g24,hcj,hlj]
 have e2:(t.gv,t.goal) :: (pre ++ (o.pv,o.pre) :: (o.effs.take (j+1)).map fun e=>(e.wv,e.cnd))=(t.gv,t.goal) :: pre ++ [(o.pv,o.pre)] ++ ((o.effs.take j).map fun e=>(e.wv,e.cnd)) ++ [(e.wv,e.cnd)]:=by
  rw [List.take_add_one,hej]; simp
 rw [←List.map_take,e2]
 exact h10.by (Imp.un Imp.dr)
end Go.Proofs.YtcoeknnghfajnaaGreat
end
section
namespace Go.Proofs.YtcoeknnghfajnaaGreat
open Go Go.W Go.Tk
theorem tlarge1_spec {w:World} (fv:Value) (l:List Fa) (hf:Vw w fv faE l) :
  Calls Tryz.prog 88 [fv].toArray w fun e w'=>∃x,e=.returned x∧x=.bool (decide (64 < l.length))∧Kp [] w w':=by
 refine enter Tryz.func88 mixed low88 (Nat.le_of_ble_eq_true rfl) ?_
 simp only [L88]
 simp [hf.len]
 refine ⟨by omega,Kp.refl _ _⟩
def smB (ps:List (Cell1 × List Fa)):Bool:=ps.all fun p=>decide (p.2.length≤64)
def SmK (ps:List (Cell1 × List Fa)) (k:Nat):Prop:=∀j p,j < k→ps[j]? = some p→p.2.length≤64
theorem indexL_spec {w:World} (v:Value) (ps:List (Cell1 × List Fa)) (hv:Vw w v sv1 ps) (hp:∀p ∈ ps,Vw w p.1.1 faE p.2) (hl:ps.length≤9223372036854775807) :
  Calls Tryz.prog 96 [v,.func (.func 88) #[] #[]].toArray w fun e w'=>∃x,e=.returned x∧(∃i:Int,x=.int .i64 i∧decide (0≤i)=!(smB ps))∧Kp [] w w':=by
 refine enter Tryz.func96 mixed low96 (Nat.le_of_ble_eq_true rfl) ?_
 simp only [L96]
 simp [hv.len]
 refine range_loop (n:=ps.length) (by omega) (fun k ρ w'=>ρ 0=v∧ρ 1=.func (.func 88) #[] #[]∧SmK ps k∧Kp [] w w') (by simp) (by simp)
  ⟨by simp,by simp,fun j p hj=>by omega,Kp.refl _ _⟩ (by decide) (fun _ _ _ _ h=>by simpa using h) (fun _ _ _ _ h=>by simpa using h) ?_ ?_
 rotate_left
 ·rintro ρ w4 ⟨g0,g1,hall,k4⟩
  have:smB ps=true:=by
   unfold smB
   rw [List.all_eq_true]
   intro p hp
   obtain ⟨j,hj,rfl⟩:=List.getElem_of_mem hp
   exact decide_eq_true (hall j _ hj (List.getElem?_eq_getElem hj))
  simp [this]
  exact k4
 rintro k ρ w4 hk hc hlm ⟨g0,g1,hall,k4⟩
 obtain ⟨p,hpk⟩:∃p,ps[k]? = some p:=⟨_,List.getElem?_eq_getElem hk⟩
 have hv4:=hv.kp0 k4
 have hpm:=List.mem_of_getElem? hpk
 have ei:w4.cell? (v.adr.add k)=some p.1.1:=by simpa using hv4.at_ sv1_len hpk (o:=0) (u:=p.1.1) rfl
 simp (disch:=omega) [g0,g1,hc,hlm,hv4.idx,ei]
 refine cl_of (tlarge1_spec p.1.1 p.2 ((hp p hpm).kp0 k4)) ?_
 rintro _ w5 ⟨rfl,k5⟩
 by_cases t:64 < p.2.length
 ·have e:smB ps=false:=all_false hpm (by simp; omega)
  simp [t,g0,g1,hc,hlm,e]
  exact k4.trans0 k5
 ·simp [t,g0,g1,hc,hlm]
  refine ⟨fun j q hj hq=>?_,k4.trans0 k5⟩
  rcases (show j < k∨j=k by omega) with h | h
  ·exact hall j q h hq
  ·subst h
   rw [hpk] at hq
   cases hq
   omega
theorem containsL_spec {w:World} (v:Value) (ps:List (Cell1 × List Fa)) (hv:Vw w v sv1 ps) (hp:∀p ∈ ps,Vw w p.1.1 faE p.2) (hl:ps.length≤9223372036854775807) :
  Calls Tryz.prog 87 [v,.func (.func 88) #[] #[]].toArray w fun e w'=>∃x,e=.returned x∧x=.bool (!(smB ps))∧Kp [] w w':=by
 refine enter Tryz.func87 mixed low87 (Nat.le_of_ble_eq_true rfl) ?_
 simp only [L87]
 simp
 refine cl_of (indexL_spec v ps hv hp hl) ?_
 rintro _ w5 ⟨⟨i,rfl,hi⟩,k5⟩
 simp [hi]
 exact k5
theorem conds_vw {w:World} {t:Tk} (h:TkR w t):∀p ∈ condsL t,Vw w p.1.1 faE p.2:=by
 intro p hp
 unfold condsL at hp
 rcases List.mem_cons.1 hp with rfl | hp
 ·exact h.goal
 ·obtain ⟨o,ho,hp⟩:=List.mem_flatMap.1 hp
  have hR:=h.op o ho
  unfold condsO at hp
  rcases List.mem_cons.1 hp with rfl | hp
  ·exact hR.pre
  ·obtain ⟨e,he,rfl⟩:=List.mem_map.1 hp
   exact hR.cnd e he
set_option maxHeartbeats 1000000 in
theorem tlarge_spec {w:World} (t:Tk) (ht:TkR w t) (hl:TkL t) :
  Calls Tryz.prog 65 [tkV t].toArray w fun e w'=>∃x,e=.returned x∧x=.bool (largeB t)∧Kp [] w w':=by
 refine enter Tryz.func65 mixed low65 (Nat.le_of_ble_eq_true rfl) ?_
 simp only [L65]
 have h0:At w [] Emp w:=At.start rfl
 have h1:At w [] (Star (ObjA w.heap.size (tkO t)) Emp) _:=h0.alloc (tkO t) Lcl.emp
 obtain ⟨b,hb⟩:∃b,b=w.heap.size:=⟨_,rfl⟩
 rw [←hb] at h1
 have hLB:Lcl (Star (ObjA b (tkO t)) Emp):=.star .obj .emp
 obtain ⟨w1,hw1⟩:∃w1,w1=w.alloc (tkO t):=⟨_,rfl⟩
 rw [←hw1] at h1
 have hw1':w.alloc (.cells #[t.vv.1,t.nv.1,t.gv.1,t.ov.1] 26 (0,0))=w1:=by rw [hw1]; rfl
 have hob:=h1.obj
 unfold tkO at hob
 have ht1:=ht.kp h1.kp
 have k1:=h1.kp
 by_cases t1:64 < t.vars.length
 ·have t1':(64:Int) < (t.vars.length:Nat):=by omega
  have e:largeB t=true:=by
   have:decide (t.vars.length≤64)=false:=by simp; omega
   simp [largeB,this]
  simp [tkV,←hb,hw1',cell_blk hob,ht1.vars.len,t1,t1',e]
  exact k1
 have t1':¬(64:Int) < (t.vars.length:Nat):=by omega
 by_cases t2:4096 < t.ops.length
 ·have t2':(4096:Int) < (t.ops.length:Nat):=by omega
  have e:largeB t=true:=by
   have:decide (t.ops.length≤4096)=false:=by simp; omega
   simp [largeB,this]
  simp [tkV,←hb,hw1',cell_blk hob,ht1.vars.len,ht1.ops.len,t1,t1',t2,t2',e]
  exact k1
 have t2':¬(4096:Int) < (t.ops.length:Nat):=by omega
 simp [tkV,←hb,hw1',cell_blk hob,ht1.vars.len,ht1.ops.len,t1,t1',t2,t2']
 refine range_loop (n:=t.ops.length) (by omega) (fun k ρ w'=>ρ 1=.pointer (some ⟨b,0,none⟩)∧ρ 16=t.ov.1∧(∀j o,j < k→t.ops[j]? = some o→o.effs.length≤64)∧At w [] (Star (ObjA b (tkO t)) Emp) w'∧Kp [] w1 w') (by simp) (by simp)
  ⟨by simp,by simp,by omega,h1,Kp.refl _ _⟩ (by decide) (fun _ _ _ _ h=>by simpa using h) (fun _ _ _ _ h=>by simpa using h) ?_ ?_
 ·rintro k ρ w5 hk hc hlm ⟨g1,g16,hall2,h5,k5⟩
  obtain ⟨o,hok⟩:∃o,t.ops[k]? = some o:=⟨_,List.getElem?_eq_getElem hk⟩
  have hom:=List.mem_of_getElem? hok
  have ht5:=ht1.kp k5
  have ec:=ht5.ops.cells oqE_len hok
  simp only [oqE] at ec
  obtain ⟨eb,heb⟩:∃eb,eb=w5.heap.size:=⟨_,rfl⟩
  simp (disch:=omega) [g16,hc,hlm,ht5.ops.idx,ec,←heb]
  refine st_oq (o:=o) .emp (At.start rfl:At w5 [] Emp w5) heb fun w6 h6=>?_
  have h7:=h5.kp0 hLB h6.kp
  have ho6:=h6.obj
  unfold oqO at ho6
  rw [heb] at ho6
  have ht6:=ht5.kp h6.kp
  by_cases s1:64 < o.effs.length
  ·have s1':(64:Int) < (o.effs.length:Nat):=by omega
   have e:largeB t=true:=by
    have:(t.ops.all fun o=>decide (o.effs.length≤64))=false:=all_false hom (by simp; omega)
    simp [largeB,this]
   simp [cell_blk ho6,(ht6.op o hom).effs.len,s1,s1',e]
   exact h7.kp
  have s1':¬(64:Int) < (o.effs.length:Nat):=by omega
  simp [cell_blk ho6,(ht6.op o hom).effs.len,s1,s1',g1,g16,hc,hlm]
  refine ⟨fun j o' hj hj'=>?_,h7,k5.trans0 h6.kp⟩
  rcases (show j < k∨j=k by omega) with h | h
  ·exact hall2 j o' h hj'
  ·subst h
   rw [hok] at hj'
   cases hj'
   omega
 rintro ρ w5 ⟨g1,g16,hall2,h5,k5⟩
 have hops:∀o ∈ t.ops,o.effs.length≤64:=fun o ho=>by
  obtain ⟨j,hj,rfl⟩:=List.getElem_of_mem ho
  exact hall2 j _ hj (List.getElem?_eq_getElem hj)
 have ht5:=ht1.kp k5
 simp [g1,rd_tk h5.obj]
 refine cl_of (tconds_spec t ht5 (by omega) hops) ?_
 rintro u w6 hu
 have h6:=h5.kp0 hLB hu.kp
 have hcl:(condsL t).length≤1000000:=by
  have:=conds_len hops
  simp only [condsL,List.length_cons]
  omega
 simp
 refine cl_of (containsL_spec u (condsL t) hu.own.vw (conds_vw (ht5.kp hu.kp)) (by omega)) ?_
 rintro _ w7 ⟨rfl,k7⟩
 have e:(!(smB (condsL t)))=largeB t:=by
  have e1:(t.ops.all fun o=>decide (o.effs.length≤64))=true:=by
   rw [List.all_eq_true]; exact fun o ho=>decide_eq_true (hops o ho)
  have e2:decide (t.vars.length≤64)=true:=by simp; omega
  have e3:decide (t.ops.length≤4096)=true:=by simp; omega
  simp only [largeB,e1,e2,e3,Bool.true_and,smB]
 simp [e]
 exact h6.kp.trans0 k7
end Go.Proofs.YtcoeknnghfajnaaGreat
end
section
namespace Go.Proofs.YtcoeknnghfajnaaGreat
open Go Go.W Go.Tk
def errV (c:Int):Value:=.iface 39 (.int .i64 c)
def chkV (c:Option Int):Value:=match c with | none=>.nilIface | some c=>errV c
def costB (o:Oq):Bool:=decide (0≤o.cost) && decide (o.cost≤1048576)
def effsB (vars:List Int) (o:Oq):Bool:=o.effs.all fun e=>inR vars (e.v,e.x)
theorem chk_eq (t:Tk):chkC t=if largeB t=true then some 5 else if (t.vars.all varB)=false then some 1 else if (t.ops.all costB)=false then some 1 else if stateB t.vars t.init=false then some 2
  else if ((condsL t).all fun p=>propF t.vars p.2)=false then some 2 else if (t.ops.all (effsB t.vars))=false then some 2 else if (t.ops.all fun o=>nameB o.name)=false then some 8 else none:=rfl
theorem ops_all {α:Type} {l:List α} {p:α→Bool} (h:∀j x,j < l.length→l[j]? = some x→p x=true):l.all p=true:=by
 rw [List.all_eq_true]
 intro x hx
 obtain ⟨j,hj,rfl⟩:=List.getElem_of_mem hx
 exact h j _ hj (List.getElem?_eq_getElem hj)
def AllK {α:Type} (l:List α) (p:α→Bool) (k:Nat):Prop:=∀j x,j < k→l[j]? = some x→p x=true
theorem AllK.zero {α:Type} (l:List α) (p:α→Bool):AllK l p 0:=fun j x h=>by omega
theorem AllK.succ {α:Type} {l:List α} {p:α→Bool} {k:Nat} {x:α} (h:AllK l p k) (hx:l[k]? = some x) (hp:p x=true):AllK l p (k+1):=fun j y hj hy=>by
 rcases (show j < k∨j=k by omega) with h1 | h1
 ·exact h j y h1 hy
 ·subst h1; rw [hx] at hy; cases hy; exact hp
theorem AllK.all {α:Type} {l:List α} {p:α→Bool} (h:AllK l p l.length):l.all p=true:=ops_all fun j x hj hx=>h j x hj hx
set_option maxHeartbeats 4000000 in
theorem tcheck_spec {w:World} (t:Tk) (ht:TkR w t) (hl:TkL t) :
  Calls Tryz.prog 28 [tkV t].toArray w fun e w'=>∃x,e=.returned x∧x=chkV (chkC t)∧Kp [] w w':=by
 refine enter Tryz.func28 mixed low28 (Nat.le_of_ble_eq_true rfl) ?_
 simp only [L28]
 have h0:At w [] Emp w:=At.start rfl
 have h1:At w [] (Star (ObjA w.heap.size (tkO t)) Emp) _:=h0.alloc (tkO t) Lcl.emp
 obtain ⟨b,hb⟩:∃b,b=w.heap.size:=⟨_,rfl⟩
 rw [←hb] at h1
 have hLB:Lcl (Star (ObjA b (tkO t)) Emp):=.star .obj .emp
 obtain ⟨w1,hw1⟩:∃w1,w1=w.alloc (tkO t):=⟨_,rfl⟩
 rw [←hw1] at h1
 have hw1':w.alloc (.cells #[t.vv.1,t.nv.1,t.gv.1,t.ov.1] 26 (0,0))=w1:=by rw [hw1]; rfl
 have rdb:∀{w'},At w [] (Star (ObjA b (tkO t)) Emp) w'→w'.heap[b]? = some (.cells #[t.vv.1,t.nv.1,t.gv.1,t.ov.1] 26 (0,0)):=fun h=>by
  have:=h.obj
  unfold tkO at this
  exact this
 have hC:=chk_eq t
 refine seq_cut (fun ρ w'=>ρ 1=.pointer (some ⟨b,0,none⟩)∧At w [] (Star (ObjA b (tkO t)) Emp) w') ?_ ?_
 ·simp [tkV,←hb,hw1']
  exact h1
 clear h0 h1 hw1 hw1'
 -- large
 rintro ρ w2 ⟨g1,h2⟩
 refine seq_cut (fun ρ w'=>(ρ 1=.pointer (some ⟨b,0,none⟩)∧At w [] (Star (ObjA b (tkO t)) Emp) w')∧largeB t=false) ?_ ?_
 ·simp [g1,rd_tk h2.obj]
  refine cl_of (tlarge_spec t (ht.kp h2.kp) hl) ?_
  rintro _ w3 ⟨rfl,k3⟩
  have h3:=h2.kp0 hLB k3
  cases s:largeB t with
  | true =>
   rw [if_pos s] at hC
   simp [hC,chkV,errV]
   exact h3.kp
  | false =>
   simp [g1]
   exact h3
 clear g1 h2
 rintro ρ w2 ⟨⟨g1,h2⟩,e1⟩
 rw [if_neg (by rw [e1]; simp)] at hC
 have hbig:t.vars.length≤64∧t.ops.length≤4096∧∀o ∈ t.ops,o.effs.length≤64:=by
  unfold largeB at e1
  simp only [Bool.not_eq_false',Bool.and_eq_true,decide_eq_true_eq,List.all_eq_true] at e1
  exact ⟨e1.1.1.1,e1.1.1.2,e1.1.2⟩
 obtain ⟨lv,lo,le⟩:=hbig
 -- variables
 refine seq_cut (fun ρ w'=>(ρ 1=.pointer (some ⟨b,0,none⟩)∧At w [] (Star (ObjA b (tkO t)) Emp) w')∧t.vars.all varB=true) ?_ ?_
 ·have ht2:=ht.kp h2.kp
  simp [g1,cell_blk (rdb h2),ht2.vars.len]
  refine range_loop (n:=t.vars.length) (by omega) (fun k ρ w'=>ρ 1=.pointer (some ⟨b,0,none⟩)∧ρ 19=t.vv.1∧AllK t.vars varB k∧w'=w2) (by simp) (by simp)
   ⟨by simp [g1],by simp,AllK.zero _ _,rfl⟩ (by decide) (fun _ _ _ _ h=>by simpa using h) (fun _ _ _ _ h=>by simpa using h) ?_ ?_
  ·rintro k ρ w4 hk hc hlm ⟨g1,g18,hall,rfl⟩
   obtain ⟨x,hx⟩:∃x,t.vars[k]? = some x:=⟨_,List.getElem?_eq_getElem hk⟩
   have bad:varB x=false→chkC t=some 1:=fun h=>by
    rw [hC,if_pos (all_false (List.mem_of_getElem? hx) h)]
   by_cases s1:x < 1
   ·have e:=bad (by simp [varB]; omega)
    simp (disch:=omega) [g1,g18,hc,hlm,ht2.vars.idx,iE_cell ht2.vars hx,s1,e,chkV,errV]
    exact h2.kp
   by_cases s2:64 < x
   ·have e:=bad (by simp [varB]; omega)
    simp (disch:=omega) [g1,g18,hc,hlm,ht2.vars.idx,iE_cell ht2.vars hx,s1,s2,e,chkV,errV]
    exact h2.kp
   simp (disch:=omega) [g1,g18,hc,hlm,ht2.vars.idx,iE_cell ht2.vars hx,s1,s2]
   exact hall.succ hx (by simp [varB]; omega)
  rintro ρ w4 ⟨g1,g18,hall,rfl⟩
  simp only [thenK_nrm]
  exact ⟨⟨g1,h2⟩,by simpa using hall.all⟩
 clear g1 h2
 rintro ρ w2 ⟨⟨g1,h2⟩,e2⟩
 rw [if_neg (by rw [e2]; simp)] at hC
 -- costs
 refine seq_cut (fun ρ w'=>(ρ 1=.pointer (some ⟨b,0,none⟩)∧At w [] (Star (ObjA b (tkO t)) Emp) w')∧t.ops.all costB=true) ?_ ?_
 ·have ht2:=ht.kp h2.kp
  simp [g1,cell_blk (rdb h2),ht2.ops.len]
  refine range_loop (n:=t.ops.length) (by omega) (fun k ρ w'=>ρ 1=.pointer (some ⟨b,0,none⟩)∧ρ 34=t.ov.1∧AllK t.ops costB k∧At w [] (Star (ObjA b (tkO t)) Emp) w') (by simp) (by simp)
   ⟨by simp [g1],by simp,AllK.zero _ _,h2⟩ (by decide) (fun _ _ _ _ h=>by simpa using h) (fun _ _ _ _ h=>by simpa using h) ?_ ?_
  ·rintro k ρ w5 hk hc hlm ⟨g1,g16,hall,h5⟩
   obtain ⟨o,hok⟩:∃o,t.ops[k]? = some o:=⟨_,List.getElem?_eq_getElem hk⟩
   have hom:=List.mem_of_getElem? hok
   have ht5:=ht.kp h5.kp
   have ec:=ht5.ops.cells oqE_len hok
   simp only [oqE] at ec
   obtain ⟨eb,heb⟩:∃eb,eb=w5.heap.size:=⟨_,rfl⟩
   have bad:costB o=false→chkC t=some 1:=fun h=>by
    rw [hC,if_pos (all_false hom h)]
   simp (disch:=omega) [g16,hc,hlm,ht5.ops.idx,ec,←heb]
   refine st_oq (o:=o) .emp (At.start rfl:At w5 [] Emp w5) heb fun w6 h6=>?_
   have h7:=h5.kp0 hLB h6.kp
   have ho6:=h6.obj
   unfold oqO at ho6
   rw [heb] at ho6
   by_cases s1:o.cost < 0
   ·have e:=bad (by simp [costB]; omega)
    simp [cell_blk ho6,s1,e,chkV,errV]
    exact h7.kp
   by_cases s2:1048576 < o.cost
   ·have e:=bad (by simp [costB]; omega)
    simp [cell_blk ho6,s1,s2,e,chkV,errV]
    exact h7.kp
   simp [cell_blk ho6,s1,s2,g1,g16,hc,hlm]
   exact ⟨hall.succ hok (by simp [costB]; omega),h7⟩
  rintro ρ w4 ⟨g1,g18,hall,h4⟩
  simp only [thenK_nrm]
  exact ⟨⟨g1,h4⟩,by simpa using hall.all⟩
 clear g1 h2
 rintro ρ w2 ⟨⟨g1,h2⟩,e3⟩
 rw [if_neg (by rw [e3]; simp)] at hC
 -- initial state
 refine seq_cut (fun ρ w'=>(ρ 1=.pointer (some ⟨b,0,none⟩)∧At w [] (Star (ObjA b (tkO t)) Emp) w')∧stateB t.vars t.init=true) ?_ ?_
 ·have ht2:=ht.kp h2.kp
  simp [g1,cell_blk (rdb h2)]
  refine cl_of (tproper_spec t.vv.1 t.nv.1 t.vars t.init ht2.vars ht2.init hl.init) ?_
  rintro _ w3 ⟨rfl,k3⟩
  have h3:=h2.kp0 hLB k3
  cases s:stateB t.vars t.init with
  | false =>
   rw [if_pos s] at hC
   simp [hC,chkV,errV]
   exact h3.kp
  | true =>
   simp [g1]
   exact h3
 clear g1 h2
 rintro ρ w2 ⟨⟨g1,h2⟩,e4⟩
 rw [if_neg (by rw [e4]; simp)] at hC
 -- conditions
 refine seq_cut (fun ρ w'=>(ρ 1=.pointer (some ⟨b,0,none⟩)∧At w [] (Star (ObjA b (tkO t)) Emp) w')∧((condsL t).all fun p=>propF t.vars p.2)=true) ?_ ?_
 ·have ht2:=ht.kp h2.kp
  simp [g1,rd_tk h2.obj]
  refine cl_of (tconds_spec t ht2 lo le) ?_
  rintro u w3 hu
  have h3:=h2.kp0 hLB hu.kp
  have hcl:(condsL t).length≤1000000:=by
   have:=conds_len le
   simp only [condsL,List.length_cons]
   omega
  have hvw:=conds_vw (ht2.kp hu.kp)
  simp [hu.own.vw.len]
  refine range_loop (n:=(condsL t).length) (by omega) (fun k ρ w'=>ρ 1=.pointer (some ⟨b,0,none⟩)∧ρ 58=u∧AllK (condsL t) (fun p=>propF t.vars p.2) k∧At w [] (Star (ObjA b (tkO t)) Emp) w'∧Kp [] w3 w') (by simp) (by simp)
   ⟨by simp [g1],by simp,AllK.zero _ _,h3,Kp.refl _ _⟩ (by decide) (fun _ _ _ _ h=>by simpa using h) (fun _ _ _ _ h=>by simpa using h) ?_ ?_
  ·rintro k ρ w5 hk hc hlm ⟨g1,g16,hall,h5,k5⟩
   obtain ⟨p,hpk⟩:∃p,(condsL t)[k]? = some p:=⟨_,List.getElem?_eq_getElem hk⟩
   have hpm:=List.mem_of_getElem? hpk
   have hv5:=hu.own.vw.kp0 k5
   have ht5:=ht.kp h5.kp
   have ei:w5.cell? (u.adr.add k)=some p.1.1:=by simpa using hv5.at_ sv1_len hpk (o:=0) (u:=p.1.1) rfl
   have hlen:p.2.length≤64:=by
    unfold largeB at e1
    simp only [Bool.not_eq_false',Bool.and_eq_true,decide_eq_true_eq,List.all_eq_true] at e1
    exact e1.2 p hpm
   simp (disch:=omega) [g1,g16,hc,hlm,hv5.idx,ei,cell_blk (rdb h5)]
   refine cl_of (tfacts_spec t.vv.1 p.1.1 t.vars p.2 ht5.vars ((hvw p hpm).kp0 k5) (by omega)) ?_
   rintro _ w6 ⟨rfl,k6⟩
   have h6:=h5.kp0 hLB k6
   cases s:propF t.vars p.2 with
   | false =>
    have e:chkC t=some 2:=by rw [hC,if_pos (all_false hpm s)]
    simp [e,chkV,errV]
    exact h6.kp
   | true =>
    simp [g1,g16,hc,hlm]
    exact ⟨hall.succ hpk s,h6,k5.trans0 k6⟩
  rintro ρ w4 ⟨g1,g18,hall,h4,_⟩
  simp only [thenK_nrm]
  exact ⟨⟨g1,h4⟩,by simpa using hall.all⟩
 clear g1 h2
 rintro ρ w2 ⟨⟨g1,h2⟩,e5⟩
 rw [if_neg (by rw [e5]; simp)] at hC
 -- effects
 refine seq_cut (fun ρ w'=>(ρ 1=.pointer (some ⟨b,0,none⟩)∧At w [] (Star (ObjA b (tkO t)) Emp) w')∧t.ops.all (effsB t.vars)=true) ?_ ?_
 ·have ht2:=ht.kp h2.kp
  simp [g1,cell_blk (rdb h2),ht2.ops.len]
  refine range_loop (n:=t.ops.length) (by omega) (fun k ρ w'=>ρ 1=.pointer (some ⟨b,0,none⟩)∧ρ 72=t.ov.1∧AllK t.ops (effsB t.vars) k∧At w [] (Star (ObjA b (tkO t)) Emp) w') (by simp) (by simp)
   ⟨by simp [g1],by simp,AllK.zero _ _,h2⟩ (by decide) (fun _ _ _ _ h=>by simpa using h) (fun _ _ _ _ h=>by simpa using h) ?_ ?_
  ·rintro k ρ w5 hk hc hlm ⟨g1,g16,hall,h5⟩
   obtain ⟨o,hok⟩:∃o,t.ops[k]? = some o:=⟨_,List.getElem?_eq_getElem hk⟩
   have hom:=List.mem_of_getElem? hok
   have ht5:=ht.kp h5.kp
   have ec:=ht5.ops.cells oqE_len hok
   simp only [oqE] at ec
   obtain ⟨eb,heb⟩:∃eb,eb=w5.heap.size:=⟨_,rfl⟩
   have bad:effsB t.vars o=false→chkC t=some 2:=fun h=>by
    rw [hC,if_pos (all_false hom h)]
   simp (disch:=omega) [g16,hc,hlm,ht5.ops.idx,ec,←heb]
   refine st_oq (o:=o) .emp (At.start rfl:At w5 [] Emp w5) heb fun w6 h6=>?_
   have h7:=h5.kp0 hLB h6.kp
   have ho6:=h6.obj
   unfold oqO at ho6
   rw [heb] at ho6
   have hR:=(ht5.kp h6.kp).op o hom
   have hel:=le o hom
   simp [cell_blk ho6,hR.effs.len]
   refine range_loop (n:=o.effs.length) (by omega) (fun j ρ w'=>ρ 1=.pointer (some ⟨b,0,none⟩)∧ρ 72=t.ov.1∧ρ 73=.int .i64 (t.ops.length:Nat)∧ρ 74=.int .i64 (k:Nat)∧ρ 79=o.ev.1∧AllK o.effs (fun e=>inR t.vars (e.v,e.x)) j∧At w [] (Star (ObjA b (tkO t)) Emp) w'∧Kp [] w6 w') (by simp) (by simp)
    ⟨by simp [g1],by simp [g16],by simp [hlm],by simp [hc],by simp,AllK.zero _ _,h7,Kp.refl _ _⟩ (by decide) (fun _ _ _ _ h=>by simpa using h) (fun _ _ _ _ h=>by simpa using h) ?_ ?_
   rotate_left
   ·rintro ρ w8 ⟨g1,g72,g73,g74,g79,hall2,h8,_⟩
    simp [g1,g72,g73,g74]
    exact ⟨hall.succ hok hall2.all,h8⟩
   rintro j ρ w8 hj hcj hlj ⟨g1,g72,g73,g74,g79,hall2,h8,k8⟩
   obtain ⟨e,hej⟩:∃e,o.effs[j]? = some e:=⟨_,List.getElem?_eq_getElem hj⟩
   have hem:=List.mem_of_getElem? hej
   have hR8:=hR.kp k8
   have ece:=hR8.effs.cells efE_len hej
   simp only [efE] at ece
   obtain ⟨fb,hfb⟩:∃fb,fb=w8.heap.size:=⟨_,rfl⟩
   simp (disch:=omega) [g79,hcj,hlj,hR8.effs.idx,ece,←hfb]
   refine st_ef (e:=e) .emp (At.start rfl:At w8 [] Emp w8) hfb fun w9 h9=>?_
   have h10:=h8.kp0 hLB h9.kp
   have ho9:=h9.obj
   unfold efO at ho9
   rw [hfb] at ho9
   simp [g1,cell_blk ho9,cell_blk (rdb h10),rowOf]
   have h11:=(At.start rfl:At w9 [] Emp w9).lit (xs:=[((e.v,e.x):Fa)]) (enc:=faE) (E:=85) (sz:=2) (cs:=#[.int .i64 e.v,.int .i64 e.x]) (m:=1) .emp (by simp [faE]) faE_len (by simp [maxLen]) rfl
   have h12:=h10.kp0 hLB h11.kp
   refine cl_of (tfacts_spec t.vv.1 _ t.vars [((e.v,e.x):Fa)] (ht.kp h12.kp).vars h11.own.vw (by simp)) ?_
   rintro _ w12 ⟨rfl,k12⟩
   rw [propF_one]
   have h13:=h12.kp0 hLB k12
   cases s:inR t.vars (e.v,e.x) with
   | false =>
    have e:=bad (by unfold effsB; exact all_false hem s)
    simp [e,chkV,errV]
    exact h13.kp
   | true =>
    simp [g1,g72,g73,g74,g79,hcj,hlj]
    exact ⟨hall2.succ hej s,h13,((k8.trans0 h9.kp).trans0 h11.kp).trans0 k12⟩
  rintro ρ w4 ⟨g1,g18,hall,h4⟩
  simp only [thenK_nrm]
  exact ⟨⟨g1,h4⟩,by simpa using hall.all⟩
 clear g1 h2
 rintro ρ w2 ⟨⟨g1,h2⟩,e6⟩
 rw [if_neg (by rw [e6]; simp)] at hC
 -- names
 have ht2:=ht.kp h2.kp
 simp [g1,cell_blk (rdb h2),ht2.ops.len]
 refine range_loop (n:=t.ops.length) (by omega) (fun k ρ w'=>ρ 1=.pointer (some ⟨b,0,none⟩)∧ρ 99=t.ov.1∧AllK t.ops (fun o=>nameB o.name) k∧At w [] (Star (ObjA b (tkO t)) Emp) w') (by simp) (by simp)
  ⟨by simp [g1],by simp,AllK.zero _ _,h2⟩ (by decide) (fun _ _ _ _ h=>by simpa using h) (fun _ _ _ _ h=>by simpa using h) ?_ ?_
 ·rintro k ρ w5 hk hc hlm ⟨g1,g16,hall,h5⟩
  obtain ⟨o,hok⟩:∃o,t.ops[k]? = some o:=⟨_,List.getElem?_eq_getElem hk⟩
  have hom:=List.mem_of_getElem? hok
  have ht5:=ht.kp h5.kp
  have ec:=ht5.ops.cells oqE_len hok
  simp only [oqE] at ec
  obtain ⟨eb,heb⟩:∃eb,eb=w5.heap.size:=⟨_,rfl⟩
  simp (disch:=omega) [g16,hc,hlm,ht5.ops.idx,ec,←heb]
  refine st_oq (o:=o) .emp (At.start rfl:At w5 [] Emp w5) heb fun w6 h6=>?_
  have h7:=h5.kp0 hLB h6.kp
  have ho6:=h6.obj
  unfold oqO at ho6
  rw [heb] at ho6
  obtain ⟨l1,_,_,_⟩:=hl.op o hom
  simp [cell_blk ho6]
  refine cl_of (tnamed_spec o.name l1) ?_
  rintro _ w8 ⟨rfl,k8⟩
  have h8:=h7.kp0 hLB k8
  cases s:nameB o.name with
  | false =>
   have e:chkC t=some 8:=by rw [hC,if_pos (all_false hom s)]
   simp [e,chkV,errV]
   exact h8.kp
  | true =>
   simp [g1,g16,hc,hlm]
   exact ⟨hall.succ hok s,h8⟩
 rintro ρ w4 ⟨g1,g18,hall,h4⟩
 rw [if_neg (by rw [hall.all]; simp)] at hC
 simp [hC,chkV]
 exact h4.kp
end Go.Proofs.YtcoeknnghfajnaaGreat
end
