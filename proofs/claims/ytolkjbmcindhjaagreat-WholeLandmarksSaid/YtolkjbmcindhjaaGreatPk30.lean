/-
  A part of the proof of this claim's statement (LmWB): plain theorems; no conditions beyond those each names.
-/
import Derived.Test.YtolkjbmcindhjaaGreatPk29
set_option maxRecDepth 100000
set_option linter.unusedSimpArgs false
set_option linter.unusedVariables false
set_option linter.unusedSectionVars false
section
namespace Go.Proofs.YtolkjbmcindhjaaGreat
open Go Go.W Go.Tk Go.Rx Go.Lm Go.Maps
def luW (r:Lu):Cell1 × List Nat:=(r.nv,r.u.needs)
def HrA (b:Nat) (vv fv gv cv lv:Value) (n:Nat) (vars fs gl cl:List Nat) (rs:List Lu):Asr :=
 Star (ObjA b (hrO vv fv n gv cv lv)) (Star (OwnA fv 3 1 nE fs) (Star (OwnA cv 3 1 nE cl) (Star (OwnA lv 130 3 luE rs) (Star (VwsA nE (rs.map luW)) (Star (VwA gv nE gl) (Star (VwA vv nE vars) Emp))))))
theorem HrA.lcl {b:Nat} {vv fv gv cv lv:Value} {n:Nat} {vars fs gl cl:List Nat} {rs:List Lu}:Lcl (HrA b vv fv gv cv lv n vars fs gl cl rs):=Lcl.obj.star (Lcl.own.star (Lcl.own.star (Lcl.own.star (Lcl.vws.star (Lcl.vw.star (Lcl.vw.star .emp))))))
theorem HrA.rd {w w1:World} {b:Nat} {vv fv gv cv lv:Value} {vars gl cl:List Nat} {rs:List Lu} {UL:List Un} (h:At w [] (HrA b vv fv gv cv lv vars.sum vars (firsts vars vars.length) gl cl rs) w1) (e:rs.map (·.u)=UL):HrR b vars gl cl UL vv fv gv cv lv rs w1:=by
 unfold HrA at h
 exact ⟨h.obj,h.drop.drop.drop.drop.drop.drop.vw,h.drop.own.vw,h.drop.drop.drop.drop.drop.vw,h.drop.drop.own.vw,h.drop.drop.drop.own.vw,fun r hr=>h.drop.drop.drop.drop.vws (p:=luW r) (List.mem_map.2 ⟨r,hr,rfl⟩),e⟩
def Hrx (b:Nat) (T:Nt) (w:World):Prop:=∃UL vv fv gv cv lv rs,Lk UL (uns T (cst T []))∧HrR b T.vars (T.goal.map (numF T.vars)) (T.ops.map (·.cost)) UL vv fv gv cv lv rs w
theorem Hrx.kp {b:Nat} {T:Nt} {w w':World} (h:Hrx b T w) (k:Kp [] w w'):Hrx b T w':=by
 obtain ⟨UL,vv,fv,gv,cv,lv,rs,h1,h2⟩:=h
 exact ⟨UL,vv,fv,gv,cv,lv,rs,h1,h2.kp k⟩
def HnA (t:Tk) (x:Value) (w':World):Prop:=match chkC t with
 | some c=>x=.tuple #[.pointer none,errV c]
 | none=>∃b T,T.raw=t∧NtG T∧x=.tuple #[.pointer (some ⟨b,0,none⟩),.nilIface]∧Hrx b T w'
set_option maxHeartbeats 4000000 in
theorem lnew_walk {w:World} (t:Tk) (ht:TkR w t) (hl:TkL t) :
  Calls Tryz.prog 18 [tkV t].toArray w fun e w'=>∃x,e=.returned x∧HnA t x w'∧Kp [] w w':=by
 refine enter Tryz.func18 mixed low18 (Nat.le_of_ble_eq_true rfl) ?_
 simp only [L18]
 obtain ⟨tb,htb⟩:∃tb,tb=w.heap.size:=⟨_,rfl⟩
 obtain ⟨w1,hw1⟩:∃w1,w1=w.alloc (tkO t):=⟨_,rfl⟩
 have k1:Kp [] w w1:=by rw [hw1]; exact (Kp.refl [] w).alloc _
 have hw1':w.alloc (.cells #[t.vv.1,t.nv.1,t.gv.1,t.ov.1] 26 (0,0))=w1:=by rw [hw1]; rfl
 have ob1:w1.heap[tb]? = some (tkO t):=by rw [htb,hw1]; exact alloc_new
 simp [tkV,←htb,hw1',rd_tk ob1]
 refine cl_of (tcheck_spec t (ht.kp k1) hl) ?_
 rintro _ w2 ⟨rfl,k2⟩
 unfold HnA
 cases hk:chkC t with
 | some c =>
  simp [chkV,errV]
  exact k1.trans k2
 | none =>
  obtain ⟨T,rfl,hg⟩:=good_nat ((chk_good t).1 hk)
  have hr:=NtR.raw.1 ht
  have hvl:=hg.vlen
  have hol:=hg.olen
  have hsum:T.vars.sum≤4096:=by
   have:=sum_le (N:=64) fun n hn=>(hg.vars n hn).2
   omega
  have oc2:=k2.blk ob1 (by simp)
  unfold tkO at oc2
  have hr2:=hr.kp (k1.trans k2)
  simp [chkV,cell_blk oc2,raw_vv]
  refine cl_of (cloneI_spec T.vv.1 T.vars hr2.vars (by omega)) ?_
  rintro vv w3 n3
  have h3:At w2 [] (Star (OwnA vv 3 1 nE T.vars) Emp) w3:=At.nw .emp (At.start rfl) n3
  have o3:=n3.own.o1
  have c3:=n3.own.c1
  obtain ⟨b,hb⟩:∃b,b=w3.heap.size:=⟨_,rfl⟩
  have h4:=(h3.by Imp.ow).alloc (hrO vv (.slice none 0 0) 0 (.slice none 0 0) (.slice none 0 0) (.slice none 0 0)) (Lcl.vw.star .emp)
  rw [←hb] at h4
  have hL4:Lcl (Star (ObjA b (hrO vv (.slice none 0 0) 0 (.slice none 0 0) (.slice none 0 0) (.slice none 0 0))) (Star (VwA vv nE T.vars) Emp)):=Lcl.obj.star (Lcl.vw.star .emp)
  have oc3:=h3.kp.blk oc2 (by simp)
  obtain ⟨w4,hw4⟩:∃w4,w4=w3.alloc (.cells #[vv,.slice none 0 0,.int .i64 0,.slice none 0 0,.slice none 0 0,.slice none 0 0] 126 (0,0)):=⟨_,rfl⟩
  have h4:At w2 [] (Star (ObjA b (hrO vv (.slice none 0 0) 0 (.slice none 0 0) (.slice none 0 0) (.slice none 0 0))) (Star (VwA vv nE T.vars) Emp)) w4:=by rw [hw4]; exact h4
  have oc4:=h4.kp.blk oc2 (by simp)
  simp [c3,←hw4,←hb,cell_blk oc4,raw_vv,(hr2.kp h4.kp).vars.len]
  have a1:=(At.nil (E:=3) (sz:=1) (enc:=nE) hL4 h4).by Imp.ow
  have hL5:=(Lcl.vw (v:=.slice none 0 0) (enc:=nE) (l:=([]:List Nat))).star hL4
  have a2:=VwsA.nil (enc:=nE) hL5 a1
  have hL6:=(Lcl.vws (enc:=nE) (ps:=[])).star hL5
  have a3:=At.nil (E:=130) (sz:=3) (enc:=luE) hL6 a2
  have hL7:=(Lcl.own (v:=.slice none 0 0) (E:=130) (sz:=3) (enc:=luE) (l:=[])).star hL6
  have a4:=At.nil (E:=3) (sz:=1) (enc:=nE) hL7 a3
  have hL8:=(Lcl.own (v:=.slice none 0 0) (E:=3) (sz:=1) (enc:=nE) (l:=[])).star hL7
  have a5:=At.nil (E:=3) (sz:=1) (enc:=nE) hL8 a4
  have a6:At w2 [] (HrA b vv (.slice none 0 0) (.slice none 0 0) (.slice none 0 0) (.slice none 0 0) (psum T.vars 0) T.vars (firsts T.vars 0) [] [] []) w4:=by
   rw [psum_zero]
   unfold HrA
   exact a5.by Imp.fr6
  clear a1 a2 a3 a4 a5 hL4 hL5 hL6 hL7 hL8
  refine range_loop (n:=T.vars.length) (by omega) (fun k ρ w'=>ρ 1=.pointer (some ⟨tb,0,none⟩)∧ρ 5=.pointer (some ⟨b,0,none⟩)∧ρ 24=T.vv.1∧∃fv,At w2 [] (HrA b vv fv (.slice none 0 0) (.slice none 0 0) (.slice none 0 0) (psum T.vars k) T.vars (firsts T.vars k) [] [] []) w') (by simp) (by simp)
   ⟨by simp,by simp,by simp,_,a6⟩ (by decide) (fun _ _ _ _ h=>by simpa using h) (fun _ _ _ _ h=>by simpa using h) ?_ ?_
  ·rintro k ρ w5 hk hck hlk ⟨g1,g5,g24,fv,h5⟩
   obtain ⟨x,hx⟩:∃x,T.vars[k]? = some x:=⟨_,List.getElem?_eq_getElem hk⟩
   have hr5:=(hr2.kp h5.kp).vars
   have hps:=psum_le (vars:=T.vars) k
   have hps2:=psum_le (vars:=T.vars) (k+1)
   have hsx:=psum_succ hx
   have hfl:(firsts T.vars k).length=k:=by simp [firsts]
   unfold HrA at h5
   have ho5:=h5.obj
   unfold hrO at ho5
   have hLB:Lcl (Star (ObjA b (hrO vv fv (psum T.vars k) (.slice none 0 0) (.slice none 0 0) (.slice none 0 0))) (Star (OwnA (.slice none 0 0) 3 1 nE []) (Star (OwnA (.slice none 0 0) 130 3 luE []) (Star (VwsA nE ([].map luW)) (Star (VwA (.slice none 0 0) nE []) (Star (VwA vv nE T.vars) Emp)))))):=Lcl.obj.star (Lcl.own.star (Lcl.own.star (Lcl.vws.star (Lcl.vw.star (Lcl.vw.star .emp)))))
   have h6:=((h5.by Imp.sw).drew (Lcl.own.star hLB)).kp0 (Lcl.own.star hLB) ((Kp.refl [] _).alloc (.cells #[.int .i64 (psum T.vars k:Nat)] 3))
   have hki:(k:Int) < T.vars.length:=by omega
   simp (disch:=omega) [g24,hck,hlk,hr5.idx,nE_cell hr5 hx,g5,cell_blk ho5,rowOf]
   refine At.append (xs:=[psum T.vars k]) hLB h6 nE_len nE_one sl_22 rfl (fun j u hj=>?_) (by omega) (by unfold maxLen; omega) fun v' w7 h7=>?_
   ·rw [show w5.heap.size=w5.drew.heap.size from rfl,add_none,cell_blk alloc_new]
    simpa [nE] using hj
   rw [←firsts_succ] at h7
   have c7:=h7.own.c1
   have o7:=h7.own.o1
   have h8:=h7.by Imp.sw
   have hLC:Lcl (Star (OwnA v' 3 1 nE (firsts T.vars (k+1))) (Star (OwnA (.slice none 0 0) 3 1 nE []) (Star (OwnA (.slice none 0 0) 130 3 luE []) (Star (VwsA nE ([].map luW)) (Star (VwA (.slice none 0 0) nE []) (Star (VwA vv nE T.vars) Emp)))))):=Lcl.own.star (Lcl.own.star (Lcl.own.star (Lcl.vws.star (Lcl.vw.star (Lcl.vw.star .emp)))))
   unfold hrO at h8
   simp [g5,c7]
   refine h8.st hLC (by simp) (by simp [o7]) fun w9 h9=>?_
   have hb9:=h9.obj
   have esx:((psum T.vars k:Nat):Int)+(x:Nat)=((psum T.vars (k+1):Nat):Int):=by rw [hsx]; simp
   simp (disch:=omega) [g5,cell_blk hb9,esx,wrap_i64]
   refine h9.st hLC (by simp) (by simp) fun w10 h10=>?_
   simp [g1,g5,g24,hck,hlk]
   refine ⟨v',?_⟩
   unfold HrA hrO
   simpa using h10
  rintro ρ w5 ⟨g1,g5,_,fv,h5⟩
  rw [psum_all] at h5
  -- the goal
  refine seq_cut (fun ρ w'=>ρ 1=.pointer (some ⟨tb,0,none⟩)∧ρ 5=.pointer (some ⟨b,0,none⟩)∧∃gv,At w2 [] (HrA b vv fv gv (.slice none 0 0) (.slice none 0 0) T.vars.sum T.vars (firsts T.vars T.vars.length) (T.goal.map (numF T.vars)) [] []) w') ?_ ?_
  ·have oc5:=h5.kp.blk oc2 (by simp)
   unfold HrA at h5
   have ho5:=h5.obj
   simp [g1,g5,cell_blk oc5,raw_gv]
   refine cl_of (numbers_walk T.gv.1 T.vars T.goal ho5 h5.drop.own.vw (hr2.kp h5.kp).goal hg.goal.rng hsum (by have:=hg.goal.len; omega)) ?_
   rintro gv w6 n6
   have hLH:Lcl (Star (ObjA b (hrO vv fv T.vars.sum (.slice none 0 0) (.slice none 0 0) (.slice none 0 0))) (Star (OwnA fv 3 1 nE (firsts T.vars T.vars.length)) (Star (OwnA (.slice none 0 0) 3 1 nE []) (Star (OwnA (.slice none 0 0) 130 3 luE []) (Star (VwsA nE ([].map luW)) (Star (VwA (.slice none 0 0) nE []) (Star (VwA vv nE T.vars) Emp))))))):=HrA.lcl
   have h6:=At.nw hLH h5 n6
   have o6:=n6.own.o1
   have c6:=n6.own.c1
   have h7:=(h6.by Imp.ow).by Imp.sw
   unfold hrO at h7
   have hLI:Lcl (Star (VwA gv nE (T.goal.map (numF T.vars))) (Star (OwnA fv 3 1 nE (firsts T.vars T.vars.length)) (Star (OwnA (.slice none 0 0) 3 1 nE []) (Star (OwnA (.slice none 0 0) 130 3 luE []) (Star (VwsA nE ([].map luW)) (Star (VwA (.slice none 0 0) nE []) (Star (VwA vv nE T.vars) Emp))))))):=Lcl.vw.star (Lcl.own.star (Lcl.own.star (Lcl.own.star (Lcl.vws.star (Lcl.vw.star (Lcl.vw.star .emp))))))
   simp [g5,c6]
   refine h7.st hLI (by simp) (by simp [o6]) fun w8 h8=>?_
   simp [g1,g5]
   refine ⟨gv,?_⟩
   unfold HrA hrO
   have h9:=h8.by (Imp.un (Imp.sw.trans (Imp.un (Imp.sw.trans (Imp.un (Imp.sw.trans (Imp.un (Imp.sw.trans (Imp.un (Imp.un Imp.dr))))))))))
   simpa using h9
  clear g1 g5 h5
  rintro ρ w5 ⟨g1,g5,gv,h5⟩
  have hlast:∀{ρ:Env} {w':World},(∃cv lv rs,Lk (rs.map (·.u)) (uns T (cst T []))∧At w2 [] (HrA b vv fv gv cv lv T.vars.sum T.vars (firsts T.vars T.vars.length) (T.goal.map (numF T.vars)) (T.ops.map (·.cost)) rs) w')→Hrx b T w':=by
   rintro ρ w' ⟨cv,lv,rs,h1,h2⟩
   exact ⟨_,vv,fv,gv,cv,lv,rs,h1,HrA.rd h2 rfl⟩
  have oc5:=h5.kp.blk oc2 (by simp)
  simp [g1,cell_blk oc5,raw_ov,(hr2.kp h5.kp).ops.len]
  refine range_loop (n:=T.ops.length) (by omega) (fun k ρ w'=>ρ 1=.pointer (some ⟨tb,0,none⟩)∧ρ 5=.pointer (some ⟨b,0,none⟩)∧ρ 60=T.ov.1∧∃cv lv rs,Lk (rs.map (·.u)) (unsK T (cst T []) k)∧At w2 [] (HrA b vv fv gv cv lv T.vars.sum T.vars (firsts T.vars T.vars.length) (T.goal.map (numF T.vars)) ((T.ops.take k).map (·.cost)) rs) w') (by simp) (by simp)
   ⟨by simp [g1],by simp [g5],by simp,.slice none 0 0,.slice none 0 0,[],by simp [unsK]; exact Lk.nil,by simpa using h5⟩ (by decide) (fun _ _ _ _ h=>by simpa using h) (fun _ _ _ _ h=>by simpa using h) ?_ ?_
  rotate_left
  ·clear g1 g5 h5 oc5
   rintro ρ w6 ⟨g1,g5,_,cv,lv,rs,h6,h7⟩
   rw [List.take_length] at h7
   simp [g5]
   exact ⟨⟨b,T,rfl,hg,rfl,hlast (ρ:=ρ) ⟨cv,lv,rs,h6,h7⟩⟩,(k1.trans k2).trans0 h7.kp⟩
  clear g1 g5 h5 oc5
  rintro k ρ w5 hk hck hlk ⟨g1,g5,g60,cv,lv,rs,hLk,h5⟩
  obtain ⟨o,ho⟩:∃o,T.ops[k]? = some o:=⟨_,List.getElem?_eq_getElem hk⟩
  have hom:=List.mem_of_getElem? ho
  have hgo:=hg.ops o hom
  have hr5:=hr2.kp h5.kp
  have ec:=hr5.ops.cells noE_len ho
  simp only [noE] at ec
  obtain ⟨ob,heb⟩:∃ob,ob=w5.heap.size:=⟨_,rfl⟩
  have hki:(k:Int) < T.ops.length:=by omega
  -- its variable
  refine seq_cut (fun ρ w'=>ρ 1=.pointer (some ⟨tb,0,none⟩)∧ρ 5=.pointer (some ⟨b,0,none⟩)∧ρ 60=T.ov.1∧ρ 61=.int .i64 (T.ops.length:Nat)∧ρ 62=.int .i64 (k:Nat)∧ρ 8=.int .i64 (k:Nat)∧ρ 9=.pointer (some ⟨ob,0,none⟩)∧At w2 [] (Star (ObjA ob (oqO o.raw)) (HrA b vv fv gv cv lv T.vars.sum T.vars (firsts T.vars T.vars.length) (T.goal.map (numF T.vars)) ((T.ops.take k).map (·.cost)) rs)) w') ?_ ?_
  ·simp (disch:=omega) [g60,hck,hlk,hr5.ops.idx,ec,←heb]
   refine st_oq (o:=o.raw) HrA.lcl h5 heb fun w6 h6=>?_
   simp [g1,g5,g60,hck,hlk,←heb]
   simpa using h6
  clear g1 g5 g60 hck hlk h5 hr5 ec heb
  rintro ρ w5 ⟨g1,g5,g60,g61,g62,g8,g9,h5⟩
  -- its cost
  refine seq_cut (fun ρ w'=>ρ 1=.pointer (some ⟨tb,0,none⟩)∧ρ 5=.pointer (some ⟨b,0,none⟩)∧ρ 60=T.ov.1∧ρ 61=.int .i64 (T.ops.length:Nat)∧ρ 62=.int .i64 (k:Nat)∧ρ 8=.int .i64 (k:Nat)∧ρ 9=.pointer (some ⟨ob,0,none⟩)∧∃cv,At w2 [] (Star (ObjA ob (oqO o.raw)) (HrA b vv fv gv cv lv T.vars.sum T.vars (firsts T.vars T.vars.length) (T.goal.map (numF T.vars)) ((T.ops.take (k+1)).map (·.cost)) rs)) w') ?_ ?_
  ·have oo5:=h5.obj
   unfold oqO No.raw at oo5
   unfold HrA at h5
   have hb5:=h5.drop.obj
   unfold hrO at hb5
   have e1:(T.ops.take (k+1)).map (·.cost)=(T.ops.take k).map (·.cost) ++ [o.cost]:=by rw [take_snoc ho,List.map_append]; rfl
   have htl:((T.ops.take k).map (·.cost)).length≤T.ops.length:=by rw [List.length_map,List.length_take]; omega
   have h6:=h5.by Imp.fr4
   have hLB:Lcl (Star (ObjA ob (oqO o.raw)) (Star (ObjA b (hrO vv fv T.vars.sum gv cv lv)) (Star (OwnA fv 3 1 nE (firsts T.vars T.vars.length)) (Star (OwnA lv 130 3 luE rs) (Star (VwsA nE (rs.map luW)) (Star (VwA gv nE (T.goal.map (numF T.vars))) (Star (VwA vv nE T.vars) Emp))))))):=Lcl.obj.star (Lcl.obj.star (Lcl.own.star (Lcl.own.star (Lcl.vws.star (Lcl.vw.star (Lcl.vw.star .emp))))))
   have h6d:=h6.drew (Lcl.own.star hLB)
   simp [g5,g9,cell_blk hb5,cell_blk oo5,rowOf]
   refine nat_append hLB h6d (by omega) fun v' w7 h7=>?_
   rw [←e1] at h7
   have c7:=h7.own.c1
   have o7:=h7.own.o1
   have h8:=h7.by Imp.fr3
   unfold hrO at h8
   have hLC:Lcl (Star (OwnA v' 3 1 nE ((T.ops.take (k+1)).map (·.cost))) (Star (ObjA ob (oqO o.raw)) (Star (OwnA fv 3 1 nE (firsts T.vars T.vars.length)) (Star (OwnA lv 130 3 luE rs) (Star (VwsA nE (rs.map luW)) (Star (VwA gv nE (T.goal.map (numF T.vars))) (Star (VwA vv nE T.vars) Emp))))))):=Lcl.own.star (Lcl.obj.star (Lcl.own.star (Lcl.own.star (Lcl.vws.star (Lcl.vw.star (Lcl.vw.star .emp))))))
   simp [g5,c7]
   refine h8.st hLC (by simp) (by simp [o7]) fun w9 h9=>?_
   simp [g1,g5,g60,g61,g62,g8,g9]
   refine ⟨v',?_⟩
   unfold HrA hrO
   have h10:At w2 [] (Star (ObjA ob (oqO o.raw)) (Star (ObjA b (.cells #[vv,fv,.int .i64 (T.vars.sum:Nat),gv,v',lv] 126 (0,0))) (Star (OwnA fv 3 1 nE (firsts T.vars T.vars.length)) (Star (OwnA v' 3 1 nE ((T.ops.take (k+1)).map (·.cost))) (Star (OwnA lv 130 3 luE rs) (Star (VwsA nE (rs.map luW)) (Star (VwA gv nE (T.goal.map (numF T.vars))) (Star (VwA vv nE T.vars) Emp)))))))) w9 :=
    (by simpa using h9:At w2 [] (Star (ObjA b (.cells #[vv,fv,.int .i64 (T.vars.sum:Nat),gv,v',lv] 126 (0,0))) (Star (OwnA v' 3 1 nE ((T.ops.take (k+1)).map (·.cost))) (Star (ObjA ob (oqO o.raw)) (Star (OwnA fv 3 1 nE (firsts T.vars T.vars.length)) (Star (OwnA lv 130 3 luE rs) (Star (VwsA nE (rs.map luW)) (Star (VwA gv nE (T.goal.map (numF T.vars))) (Star (VwA vv nE T.vars) Emp)))))))) w9).by (Imp.fr3.trans (Imp.un (Imp.un Imp.sw)))
   simpa using h10
  clear g1 g5 g60 g61 g62 g8 g9 h5 cv
  rintro ρ w5 ⟨g1,g5,g60,g61,g62,g8,g9,cv,h5⟩
  have oo5:=h5.obj
  unfold oqO No.raw at oo5
  have hoR:=(hr2.kp h5.kp).op o hom
  have hel:=hgo.elen
  have hUk:unsK T (cst T []) (k+1)=unsK T (cst T []) k ++ opU T.vars o k (cst T [] k) o.effs.length:=unsK_succ ho
  have hUl:(unsK T (cst T []) k).length≤64 * 4096:=by
   have:=unsK_len (cost:=cst T []) (fun o ho=>(hg.ops o ho).elen) k
   omega
  simp [g9,cell_blk oo5,hoR.effs.len]
  refine range_loop (n:=o.effs.length) (by omega) (fun j ρ w'=>ρ 1=.pointer (some ⟨tb,0,none⟩)∧ρ 5=.pointer (some ⟨b,0,none⟩)∧ρ 60=T.ov.1∧ρ 61=.int .i64 (T.ops.length:Nat)∧ρ 62=.int .i64 (k:Nat)∧ρ 8=.int .i64 (k:Nat)∧ρ 9=.pointer (some ⟨ob,0,none⟩)∧ρ 79=o.ev.1∧∃lv rs,Lk (rs.map (·.u)) (unsK T (cst T []) k ++ opU T.vars o k (cst T [] k) j)∧At w2 [] (Star (ObjA ob (oqO o.raw)) (HrA b vv fv gv cv lv T.vars.sum T.vars (firsts T.vars T.vars.length) (T.goal.map (numF T.vars)) ((T.ops.take (k+1)).map (·.cost)) rs)) w') (by simp) (by simp)
   ⟨by simp [g1],by simp [g5],by simp [g60],by simp [g61],by simp [g62],by simp [g8],by simp [g9],by simp,lv,rs,by simpa [opU] using hLk,h5⟩ (by decide) (fun _ _ _ _ h=>by simpa using h) (fun _ _ _ _ h=>by simpa using h) ?_ ?_
  rotate_left
  ·clear g1 g5 g60 g61 g62 g8 g9 h5 oo5 hoR
   rintro ρ w6 ⟨g1,g5,g60,g61,g62,g8,g9,g79,lv,rs,hLk,h6⟩
   simp [g1,g5,g60,g61,g62,g8,g9,g79]
   rw [hUk]
   exact ⟨cv,lv,rs,by simpa using hLk,by simpa using h6.drop⟩
  clear g1 g5 g60 g61 g62 g8 g9 h5 oo5 hoR hLk lv rs
  rintro j ρ w5 hj hcj hlj ⟨g1,g5,g60,g61,g62,g8,g9,g79,lv,rs,hLk,h5⟩
  obtain ⟨e,hej⟩:∃e,o.effs[j]? = some e:=⟨_,List.getElem?_eq_getElem hj⟩
  have hem:=List.mem_of_getElem? hej
  have hoR5:=(hr2.kp h5.kp).op o hom
  have ece:=hoR5.effs.cells nfE_len hej
  simp only [nfE] at ece
  obtain ⟨eb,hfb⟩:∃eb,eb=w5.heap.size:=⟨_,rfl⟩
  have hji:(j:Int) < o.effs.length:=by omega
  have hLO:Lcl (Star (ObjA ob (oqO o.raw)) (HrA b vv fv gv cv lv T.vars.sum T.vars (firsts T.vars T.vars.length) (T.goal.map (numF T.vars)) ((T.ops.take (k+1)).map (·.cost)) rs)):=Lcl.obj.star HrA.lcl
  refine seq_cut (fun ρ w'=>ρ 1=.pointer (some ⟨tb,0,none⟩)∧ρ 5=.pointer (some ⟨b,0,none⟩)∧ρ 60=T.ov.1∧ρ 61=.int .i64 (T.ops.length:Nat)∧ρ 62=.int .i64 (k:Nat)∧ρ 8=.int .i64 (k:Nat)∧ρ 9=.pointer (some ⟨ob,0,none⟩)∧ρ 79=o.ev.1∧ρ 80=.int .i64 (o.effs.length:Nat)∧ρ 81=.int .i64 (j:Nat)∧ρ 11=.pointer (some ⟨eb,0,none⟩)∧At w2 [] (Star (ObjA eb (efO e.raw)) (Star (ObjA ob (oqO o.raw)) (HrA b vv fv gv cv lv T.vars.sum T.vars (firsts T.vars T.vars.length) (T.goal.map (numF T.vars)) ((T.ops.take (k+1)).map (·.cost)) rs))) w') ?_ ?_
  ·simp (disch:=omega) [g79,hcj,hlj,hoR5.effs.idx,ece,←hfb]
   refine st_ef (e:=e.raw) hLO h5 hfb fun w6 h6=>?_
   simp [g1,g5,g60,g61,g62,g8,g9,g79,hcj,hlj,←hfb]
   simpa using h6
  clear g1 g5 g60 g61 g62 g8 g9 g79 hcj hlj h5 hoR5 ece hfb
  rintro ρ w5 ⟨g1,g5,g60,g61,g62,g8,g9,g79,g80,g81,g11,h5⟩
  have hLE:Lcl (Star (ObjA eb (efO e.raw)) (Star (ObjA ob (oqO o.raw)) (HrA b vv fv gv cv lv T.vars.sum T.vars (firsts T.vars T.vars.length) (T.goal.map (numF T.vars)) ((T.ops.take (k+1)).map (·.cost)) rs))):=Lcl.obj.star hLO
  have hnp:FcRng T.vars o.pre:=hgo.pre.rng
  have hnc:FcRng T.vars e.cnd:=(hgo.cnd e hem).rng
  have hpl:=hgo.pre.len
  have hcl:=(hgo.cnd e hem).len
  obtain ⟨l0,hl0⟩:∃l0,l0=(o.pre ++ e.cnd).map (numF T.vars):=⟨_,rfl⟩
  have hl0l:l0.length≤128:=by rw [hl0]; simp; omega
  -- its needs
  refine seq_cut (fun ρ w'=>ρ 1=.pointer (some ⟨tb,0,none⟩)∧ρ 5=.pointer (some ⟨b,0,none⟩)∧ρ 60=T.ov.1∧ρ 61=.int .i64 (T.ops.length:Nat)∧ρ 62=.int .i64 (k:Nat)∧ρ 8=.int .i64 (k:Nat)∧ρ 9=.pointer (some ⟨ob,0,none⟩)∧ρ 79=o.ev.1∧ρ 80=.int .i64 (o.effs.length:Nat)∧ρ 81=.int .i64 (j:Nat)∧ρ 11=.pointer (some ⟨eb,0,none⟩)∧At w2 [] (Star (OwnA (ρ 12) 3 1 nE l0) (Star (ObjA eb (efO e.raw)) (Star (ObjA ob (oqO o.raw)) (HrA b vv fv gv cv lv T.vars.sum T.vars (firsts T.vars T.vars.length) (T.goal.map (numF T.vars)) ((T.ops.take (k+1)).map (·.cost)) rs)))) w') ?_ ?_
  ·have h5d:=h5.drew hLE
   have oe5:=h5d.obj
   unfold efO Nf.raw at oe5
   have oo5:=h5d.drop.obj
   unfold oqO No.raw at oo5
   have h5a:=h5d.drop.drop
   unfold HrA at h5a
   have hb5:=h5a.obj
   have hfv5:=h5a.drop.own.vw
   simp [g5,g9,g11,cell_blk oe5,cell_blk oo5]
   refine ⟨?_,?_⟩ <;>
   ·refine cl_of (numbers_walk o.pv.1 T.vars o.pre hb5 hfv5 ((hr2.kp h5d.kp).op o hom).pre hnp hsum (by omega)) ?_
    rintro p1 w6 n6
    have h6:=At.nw hLE h5d n6
    have oe6:=h6.drop.obj
    unfold efO Nf.raw at oe6
    have h6a:=h6.drop.drop.drop
    unfold HrA at h6a
    simp [g5,g9,g11,cell_blk oe6]
    refine cl_of (numbers_walk e.wv.1 T.vars e.cnd h6a.obj h6a.drop.own.vw (((hr2.kp h6.kp).op o hom).cnd e hem) hnc hsum (by omega)) ?_
    rintro p2 w7 n7
    have h7:=At.nw (Lcl.own.star hLE) h6 n7
    have h8:=h7.by Imp.sw
    simp
    refine At.appendV (xs:=e.cnd.map (numF T.vars)) (Lcl.own.star hLE) h8 n7.own.vw nE_len nE_one sl_22 (by simp; omega) (by simp; unfold maxLen; omega) fun v' w9 h9=>?_
    rw [←List.map_append,←hl0] at h9
    simp [g1,g5,g60,g61,g62,g8,g9,g79,g80,g81,g11]
    simpa using h9.by (Imp.un Imp.dr)
  clear g1 g5 g60 g61 g62 g8 g9 g79 g80 g81 g11 h5
  rintro ρ w5 ⟨g1,g5,g60,g61,g62,g8,g9,g79,g80,g81,g11,h5⟩
  obtain ⟨nv,g12⟩:∃v,ρ 12=v:=⟨_,rfl⟩
  rw [g12] at h5
  -- in order
  refine seq_cut (fun ρ w'=>ρ 1=.pointer (some ⟨tb,0,none⟩)∧ρ 5=.pointer (some ⟨b,0,none⟩)∧ρ 60=T.ov.1∧ρ 61=.int .i64 (T.ops.length:Nat)∧ρ 62=.int .i64 (k:Nat)∧ρ 8=.int .i64 (k:Nat)∧ρ 9=.pointer (some ⟨ob,0,none⟩)∧ρ 79=o.ev.1∧ρ 80=.int .i64 (o.effs.length:Nat)∧ρ 81=.int .i64 (j:Nat)∧ρ 11=.pointer (some ⟨eb,0,none⟩)∧ρ 12=nv∧∃l1:List Nat,(∀x,x ∈ l1↔x ∈ l0)∧l1.Pairwise (·≤·)∧l1.length=l0.length∧At w2 [] (Star (OwnA nv 3 1 nE l1) (Star (ObjA eb (efO e.raw)) (Star (ObjA ob (oqO o.raw)) (HrA b vv fv gv cv lv T.vars.sum T.vars (firsts T.vars T.vars.length) (T.goal.map (numF T.vars)) ((T.ops.take (k+1)).map (·.cost)) rs)))) w') ?_ ?_
  ·simp [g12]
   refine cl_of (sort_spec h5.own (by omega)) ?_
   rintro _ w6 ⟨rfl,k6,l1,o6,m6,p6,n6⟩
   have h6:At w2 [] (Star (OwnA nv 3 1 nE l1) (Star (ObjA eb (efO e.raw)) (Star (ObjA ob (oqO o.raw)) (HrA b vv fv gv cv lv T.vars.sum T.vars (firsts T.vars T.vars.length) (T.goal.map (numF T.vars)) ((T.ops.take (k+1)).map (·.cost)) rs)))) w6:=h5.step Lcl.own hLE (fun Fa ⟨ho,e⟩=>⟨nv.own,⟨o6,rfl⟩,by rw [e]; exact k6,fun x hx=>.inl (by rw [e]; exact hx)⟩)
   simp [g1,g5,g60,g61,g62,g8,g9,g79,g80,g81,g11,g12]
   exact ⟨l1,m6,p6,n6,by simpa using h6⟩
  clear g1 g5 g60 g61 g62 g8 g9 g79 g80 g81 g11 g12 h5
  rintro ρ w5 ⟨g1,g5,g60,g61,g62,g8,g9,g79,g80,g81,g11,g12,l1,m1,p1,n1,h5⟩
  have hLN:∀l:List Nat,Lcl (Star (OwnA nv 3 1 nE l) (Star (ObjA eb (efO e.raw)) (Star (ObjA ob (oqO o.raw)) (HrA b vv fv gv cv lv T.vars.sum T.vars (firsts T.vars T.vars.length) (T.goal.map (numF T.vars)) ((T.ops.take (k+1)).map (·.cost)) rs)))):=fun _=>Lcl.own.star hLE
  have h5d:=h5.drew (hLN _)
  have oe5:=h5d.drop.obj
  unfold efO Nf.raw at oe5
  have h5a:=h5d.drop.drop.drop
  unfold HrA at h5a
  have hb5:=h5a.obj
  unfold hrO at hb5
  have hfv5:=h5a.drop.own.vw
  obtain ⟨q1,q2⟩:=hgo.eff e hem
  have efc:=nE_cell hfv5 (firsts_at (vars:=T.vars) q1)
  have hfl:(firsts T.vars T.vars.length).length=T.vars.length:=by simp [firsts]
  have hvi:(e.v:Int) < T.vars.length:=by omega
  have hnf:=numF_lt (f:=(e.v,e.x)) q1 q2
  unfold numF at hnf
  obtain ⟨mk,hmk⟩:∃x,x=psum T.vars e.v+e.x:=⟨_,rfl⟩
  have emk:((psum T.vars e.v:Nat):Int)+(e.x:Nat)=(mk:Int):=by rw [hmk]; simp
  have hmkl:mk < T.vars.sum:=by rw [hmk]; exact hnf
  simp (disch:=omega) [g5,g8,g11,g12,cell_blk hb5,cell_blk oe5,hfv5.idx,hfl,efc,wrap_i64,emk]
  refine ⟨?_,?_,?_,?_,?_,?_,?_,?_,?_,?_,?_,?_,?_,?_,?_,?_,?_,?_,?_,?_⟩ <;>
  ·refine cl_of (compact_spec h5d.own p1 (by omega)) ?_
   rintro xv w6 ⟨k6,ex,l3,o3,m3,p3,n3⟩
   have h6:At w2 [] (Star (OwnA xv 3 1 nE l3) (Star (ObjA eb (efO e.raw)) (Star (ObjA ob (oqO o.raw)) (HrA b vv fv gv cv lv T.vars.sum T.vars (firsts T.vars T.vars.length) (T.goal.map (numF T.vars)) ((T.ops.take (k+1)).map (·.cost)) rs)))) w6:=h5d.step Lcl.own hLE (fun Fa ⟨ho,ee⟩=>⟨xv.own,⟨o3,rfl⟩,by rw [ee]; exact k6,fun x hx=>.inl (by rw [ee,←ex]; exact hx)⟩)
   have oe6:=h6.drop.obj
   unfold efO Nf.raw at oe6
   have h6a:=h6.drop.drop.drop
   unfold HrA at h6a
   have hb6:=h6a.obj
   unfold hrO at hb6
   have hfv6:=h6a.drop.own.vw
   have efc6:=nE_cell hfv6 (firsts_at (vars:=T.vars) q1)
   have cx6:=h6.own.c1
   have ox6:=h6.own.o1
   simp (disch:=omega) [g5,g8,g11,g12,cell_blk hb6,cell_blk oe6,hfv6.idx,hfl,efc6,wrap_i64,emk,cx6]
   have hrl:rs.length≤64 * 4096+64:=by
    have:=hLk.1
    rw [List.length_append,opU_len] at this
    simp at this
    omega
   obtain ⟨r,hr⟩:∃r:Lu,r=⟨⟨xv,ox6⟩,⟨k,j,cst T [] k,mk,l3⟩⟩:=⟨_,rfl⟩
   have h7:=h6
   unfold HrA at h7
   have h8:=h7.by Imp.fr7
   have hL8:Lcl (Star (OwnA lv 130 3 luE rs) (Star (OwnA xv 3 1 nE l3) (Star (ObjA eb (efO e.raw)) (Star (ObjA ob (oqO o.raw)) (Star (ObjA b (hrO vv fv T.vars.sum gv cv lv)) (Star (OwnA fv 3 1 nE (firsts T.vars T.vars.length)) (Star (OwnA cv 3 1 nE ((T.ops.take (k+1)).map (·.cost))) (Star (VwsA nE (rs.map luW)) (Star (VwA gv nE (T.goal.map (numF T.vars))) (Star (VwA vv nE T.vars) Emp)))))))))) :=
    Lcl.own.star (Lcl.own.star (Lcl.obj.star (Lcl.obj.star (Lcl.obj.star (Lcl.own.star (Lcl.own.star (Lcl.vws.star (Lcl.vw.star (Lcl.vw.star .emp)))))))))
   have h9:=h8.kp0 hL8 ((Kp.refl [] w6).alloc (.cells #[.int .i64 (k:Nat),.int .i64 (mk:Nat),xv] 130))
   refine At.append (xs:=[r]) (Lcl.own.star (Lcl.obj.star (Lcl.obj.star (Lcl.obj.star (Lcl.own.star (Lcl.own.star (Lcl.vws.star (Lcl.vw.star (Lcl.vw.star .emp))))))))) h9 luE_len luE_one sl_124 rfl (fun i x hi=>?_) (by omega) (by unfold maxLen; omega) fun v' w7 h10=>?_
   ·rw [add_none,cell_blk alloc_new]
    simpa [luE,hr] using hi
   have c10:=h10.own.c1
   have o10:=h10.own.o1
   have h11:=h10.by Imp.fr5
   unfold hrO at h11
   simp [g5,c10]
   refine h11.st (Lcl.own.star (Lcl.own.star (Lcl.obj.star (Lcl.obj.star (Lcl.own.star (Lcl.own.star (Lcl.vws.star (Lcl.vw.star (Lcl.vw.star .emp))))))))) (by simp) (by simp [o10]) fun w8 h12=>?_
   simp [g1,g5,g60,g61,g62,g8,g9,g79,g80,g81,g11,g12]
   have e12:wrAt #[vv,fv,.int .i64 (T.vars.sum:Nat),gv,cv,lv] 5 [v']=#[vv,fv,.int .i64 (T.vars.sum:Nat),gv,cv,v']:=by simp
   rw [e12] at h12
   refine ⟨v',rs ++ [r],?_,?_⟩
   ·rw [List.map_append,opU_succ,unA_at hej,←List.append_assoc]
    refine hLk.snoc ⟨by rw [hr],by rw [hr]; exact hmk,fun n=>?_,by rw [hr]; show l3.length≤1000000; omega⟩
    rw [hr]
    show n ∈ l3↔n ∈ dedup ((o.pre ++ e.cnd).map (numF T.vars))
    rw [dedup_mem,m3,m1,hl0]
   ·have ew:(rs ++ [r]).map luW=rs.map luW ++ [(⟨xv,ox6⟩,l3)]:=by simp [luW,hr]
    have h13:=h12.by ((Imp.un (Imp.un (Imp.un Imp.dr))).trans ((Imp.fr4).trans (Imp.un2 (Imp.fr4.trans (Imp.fr4.trans (Imp.un3 (Imp.ow.trans (VwsA.add ox6))))))))
    unfold HrA hrO
    rw [ew]
    simpa using h13
end Go.Proofs.YtolkjbmcindhjaaGreat
end
