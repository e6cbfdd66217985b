/-
  A part of the proof of this claim's statement (LdU, LmWC, LdV, LdW, LdX): plain theorems; no conditions beyond those each names.
-/
import Derived.Test.YtolkjbmcindhjaaGreatPk29
import Derived.Test.YtolkjbmcindhjaaGreatPk30
import Derived.Test.YtolkjbmcindhjaaGreatPk31
import Derived.Test.YtolkjbmcindhjaaGreatPk15
set_option maxRecDepth 100000
set_option linter.unusedSimpArgs false
set_option linter.unusedVariables false
set_option linter.unusedSectionVars false
section
namespace Go.Proofs.YtolkjbmcindhjaaGreat
open Go Go.W Go.Tk Go.Rx Go.Lm Go.Maps Go.Sx
def ldW (r:Ld):Cell1 × List Fc:=(r.nv,r.needs)
def FdA (b:Nat) (vv gv cv lv:Value) (vars:List Nat) (goal:List Fc) (cl:List Nat) (rs:List Ld):Asr :=
 Star (ObjA b (fdO vv gv cv lv)) (Star (OwnA cv 3 1 nE cl) (Star (OwnA lv 123 4 ldE rs) (Star (VwsA fcE (rs.map ldW)) (Star (VwA gv fcE goal) (Star (VwA vv nE vars) Emp)))))
theorem FdA.lcl {b:Nat} {vv gv cv lv:Value} {vars:List Nat} {goal:List Fc} {cl:List Nat} {rs:List Ld}:Lcl (FdA b vv gv cv lv vars goal cl rs):=Lcl.obj.star (Lcl.own.star (Lcl.own.star (Lcl.vws.star (Lcl.vw.star (Lcl.vw.star .emp)))))
theorem FdA.rd {w w1:World} {b:Nat} {vv gv cv lv:Value} {vars:List Nat} {goal:List Fc} {cl:List Nat} {rs:List Ld} (h:At w [] (FdA b vv gv cv lv vars goal cl rs) w1):FdR b vars goal cl vv gv cv lv rs w1:=by
 unfold FdA at h
 exact ⟨h.obj,h.drop.drop.drop.drop.drop.vw,h.drop.drop.drop.drop.vw,h.drop.own.vw,h.drop.drop.own.vw,fun r hr=>h.drop.drop.drop.vws (p:=ldW r) (List.mem_map.2 ⟨r,hr,rfl⟩)⟩
structure LdL (T:Nt) (rs:List Ld) (k:Nat):Prop where
 ok:∀r ∈ rs,r.op≤k∧r.op < T.ops.length∧FcRng T.vars r.needs∧r.needs.length≤128∧r.mkf.1 < T.vars.length∧r.mkf.2 < T.vars.getD r.mkf.1 0
 asc:rs.Pairwise fun a b=>a.op≤b.op
def Fdx (b:Nat) (T:Nt) (w:World):Prop:=∃vv gv cv lv rs,Lk (rs.map (ldU T.vars)) (uns T (cst T []))∧LdL T rs T.ops.length∧FdR b T.vars T.goal (T.ops.map (·.cost)) vv gv cv lv rs w
def LnA (t:Tk) (x:Value) (w':World):Prop:=match chkC t with
 | some c=>x=.tuple #[.pointer none,errV c]
 | none=>∃b T,T.raw=t∧NtG T∧x=.tuple #[.pointer (some ⟨b,0,none⟩),.nilIface]∧Fdx b T w'
def opE (T:Nt) (k j:Nat):List Un:=match T.ops[k]? with
 | some o=>opU T.vars o k (cst T [] k) j
 | none=>[]
theorem opE_zero {T:Nt} {k:Nat}:opE T k 0=[]:=by
 unfold opE
 split <;> simp [opU]
def FdI (wd:World) (b:Nat) (vv gv:Value) (T:Nt) (k j n:Nat) (w':World):Prop :=
 ∃cv lv rs,Lk (rs.map (ldU T.vars)) (unsK T (cst T []) k ++ opE T k j)∧LdL T rs k∧At wd [] (FdA b vv gv cv lv T.vars T.goal ((T.ops.take n).map (·.cost)) rs) w'
def FdJ (wd:World) (b:Nat) (vv gv cv:Value) (ob:Nat) (o:No) (T:Nt) (k j:Nat) (w':World):Prop :=
 ∃lv rs,Lk (rs.map (ldU T.vars)) (unsK T (cst T []) k ++ opE T k j)∧LdL T rs k∧At wd [] (Star (ObjA ob (oqO o.raw)) (FdA b vv gv cv lv T.vars T.goal ((T.ops.take (k+1)).map (·.cost)) rs)) w'
theorem LdL.mono {T:Nt} {rs:List Ld} {k:Nat} (h:LdL T rs k):LdL T rs (k+1):=⟨fun r hr=>⟨Nat.le_succ_of_le (h.ok r hr).1,(h.ok r hr).2⟩,h.asc⟩
def FdV (b ob eb:Nat) (vv gv cv lv:Value) (o:No) (e:Nf) (w':World):Prop:=w'.heap[b]? = some (fdO vv gv cv lv)∧w'.heap[ob]? = some (oqO o.raw)∧w'.heap[eb]? = some (efO e.raw)
theorem act_stp {P:Program} {c T:Nat} {op:Op} {ρ:Env} {w:World} {K:Value→World→Prop} {d:Option Nat} (h:opS P c op T ρ w K):act P ⟨c,d,op,T,none⟩ ρ w K:=opS_sound h
set_option maxHeartbeats 4000000 in
theorem ldNew_walk {w:World} (t:Tk) (ht:TkR w t) (hl:TkL t) :
  Calls Tryz.prog 17 [tkV t].toArray w fun e w'=>∃x,e=.returned x∧LnA t x w'∧Kp [] w w':=by
 refine enter Tryz.func17 mixed low17 (Nat.le_of_ble_eq_true rfl) ?_
 simp only [L17]
 obtain ⟨tb,htb⟩:∃tb,tb=w.heap.size:=⟨_,rfl⟩
 obtain ⟨w1,hw1⟩:∃w1,w1=w.alloc (tkO t):=⟨_,rfl⟩
 have k1:Kp [] w w1:=by rw [hw1]; exact (Kp.refl [] w).alloc _
 have hw1':w.alloc (.cells #[t.vv.1,t.nv.1,t.gv.1,t.ov.1] 26 (0,0))=w1:=by rw [hw1]; rfl
 have ob1:w1.heap[tb]? = some (tkO t):=by rw [htb,hw1]; exact alloc_new
 simp [tkV,←htb,hw1',rd_tk ob1]
 refine cl_of (tcheck_spec t (ht.kp k1) hl) ?_
 rintro _ w2 ⟨rfl,k2⟩
 unfold LnA
 cases hk:chkC t with
 | some c =>
  simp [chkV,errV]
  exact k1.trans k2
 | none =>
  obtain ⟨T,rfl,hg⟩:=good_nat ((chk_good t).1 hk)
  have hr:=NtR.raw.1 ht
  have hvl:=hg.vlen
  have hol:=hg.olen
  have hgl:=hg.goal.len
  have oc2:=k2.blk ob1 (by simp)
  unfold tkO at oc2
  have hr2:=hr.kp (k1.trans k2)
  have hr2d:=hr2.kp ((Kp.refl [] w2).drew)
  have oc2d:=((Kp.refl [] w2).drew).blk oc2 (by simp)
  obtain ⟨wd,hwd⟩:∃wd,wd=w2.drew:=⟨_,rfl⟩
  have kd:Kp [] w wd:=by rw [hwd]; exact (k1.trans k2).drew
  rw [←hwd] at hr2d oc2d
  simp [chkV,cell_blk oc2,cell_blk oc2d,raw_vv,raw_gv,←hwd]
  clear hr2 oc2 hw1' ob1 hw1 htb ht hr k1 k2 hwd
  refine ⟨?_,?_⟩
  all_goals
   refine cl_of (cloneI_spec T.vv.1 T.vars hr2d.vars (by omega)) ?_
   rintro vv w3 n3
   have h3:At wd [] (Star (OwnA vv 3 1 nE T.vars) Emp) w3:=At.nw .emp (At.start rfl) n3
   have oc3:=h3.kp.blk oc2d (by simp)
   have o3:=n3.own.o1
   have c3:=n3.own.c1
   simp [cell_blk oc3,raw_gv]
   refine cl_of (cloneF_spec T.gv.1 T.goal (hr2d.kp h3.kp).goal (by omega)) ?_
   rintro gv w4 n4
   have h4:=At.nw (Lcl.own.star .emp) h3 n4
   have o4:=n4.own.o1
   have c4:=n4.own.c1
   obtain ⟨b,hb⟩:∃b,b=w4.heap.size:=⟨_,rfl⟩
   have h5:=((h4.by Imp.ow).by (Imp.un Imp.ow)).alloc (fdO vv gv (.slice none 0 0) (.slice none 0 0)) (Lcl.vw.star (Lcl.vw.star .emp))
   rw [←hb] at h5
   obtain ⟨w5,hw5⟩:∃w5,w5=w4.alloc (fdO vv gv (.slice none 0 0) (.slice none 0 0)):=⟨_,rfl⟩
   rw [←hw5] at h5
   have hw5':w4.alloc (.cells #[vv,gv,.slice none 0 0,.slice none 0 0] 121 (0,0))=w5:=by rw [hw5]; rfl
   have hL5:Lcl (Star (ObjA b (fdO vv gv (.slice none 0 0) (.slice none 0 0))) (Star (VwA gv fcE T.goal) (Star (VwA vv nE T.vars) Emp))):=Lcl.obj.star (Lcl.vw.star (Lcl.vw.star .emp))
   have a2:=VwsA.nil (enc:=fcE) hL5 h5
   have hL6:=(Lcl.vws (enc:=fcE) (ps:=[])).star hL5
   have a3:=At.nil (E:=123) (sz:=4) (enc:=ldE) hL6 a2
   have hL7:=(Lcl.own (v:=.slice none 0 0) (E:=123) (sz:=4) (enc:=ldE) (l:=[])).star hL6
   have a4:=At.nil (E:=3) (sz:=1) (enc:=nE) hL7 a3
   have a6:At wd [] (FdA b vv gv (.slice none 0 0) (.slice none 0 0) T.vars T.goal [] []) w5:=by
    unfold FdA
    exact a4.by Imp.fr4
   have oc5:=a6.kp.blk oc2d (by simp)
   simp [c3,c4,←hb,hw5',cell_blk oc5,raw_ov,(hr2d.kp a6.kp).ops.len]
   clear a2 a3 a4 h5 h4 h3 hL5 hL6 hL7 hw5' hw5 hb
   refine range_loop (n:=T.ops.length) (by omega) (fun k ρ w'=>ρ 1=.pointer (some ⟨tb,0,none⟩)∧ρ 5=.pointer (some ⟨b,0,none⟩)∧ρ 24=T.ov.1∧FdI wd b vv gv T k 0 k w') (by simp) (by simp)
    ⟨by simp,by simp,by simp,.slice none 0 0,.slice none 0 0,[],by rw [opE_zero]; simp [unsK]; exact Lk.nil,⟨fun r hr=>absurd hr (by simp),.nil⟩,by simpa using a6⟩ (by decide) (fun _ _ _ _ h=>by simpa using h) (fun _ _ _ _ h=>by simpa using h) ?_ ?_
   rotate_left
   ·clear a6 oc5 oc3 n3 n4
    rintro ρ w6 ⟨g1,g5,_,cv,lv,rs,h6,h7,h8⟩
    rw [List.take_length] at h8
    simp [g5]
    exact ⟨⟨b,T,rfl,hg,rfl,vv,gv,cv,lv,rs,by rw [opE_zero,List.append_nil] at h6; exact h6,h7,FdA.rd h8⟩,kd.trans0 h8.kp⟩
   clear a6 oc5 oc3 n3 n4
   rintro k ρ w5 hk hck hlk ⟨g1,g5,g24,cv,lv,rs,hLk,hLl,h5⟩
   rw [opE_zero,List.append_nil] at hLk
   obtain ⟨o,ho⟩:∃o,T.ops[k]? = some o:=⟨_,List.getElem?_eq_getElem hk⟩
   have hom:=List.mem_of_getElem? ho
   have hgo:=hg.ops o hom
   have hr5:=hr2d.kp h5.kp
   have ec:=hr5.ops.cells noE_len ho
   simp only [noE] at ec
   obtain ⟨ob,heb⟩:∃ob,ob=w5.heap.size:=⟨_,rfl⟩
   have hki:(k:Int) < T.ops.length:=by omega
   have hel:=hgo.elen
   have hUk:unsK T (cst T []) (k+1)=unsK T (cst T []) k ++ opE T k o.effs.length:=by unfold opE; rw [ho]; exact unsK_succ ho
   have hUl:(unsK T (cst T []) k).length≤64 * 4096:=by
    have:=unsK_len (cost:=cst T []) (fun o ho=>(hg.ops o ho).elen) k
    omega
   have e1:(T.ops.take (k+1)).map (·.cost)=(T.ops.take k).map (·.cost) ++ [o.cost]:=by rw [take_snoc ho,List.map_append]; rfl
   have htl:((T.ops.take k).map (·.cost)).length≤T.ops.length:=by rw [List.length_map,List.length_take]; omega
   simp (disch:=omega) [g24,hck,hlk,hr5.ops.idx,ec,←heb]
   refine st_oq (o:=o.raw) FdA.lcl h5 heb fun w6 h6=>?_
   have oo6:=h6.obj
   unfold oqO No.raw at oo6
   unfold FdA at h6
   have hb6:=h6.drop.obj
   unfold fdO at hb6
   have hLB:Lcl (Star (ObjA ob (oqO o.raw)) (Star (ObjA b (fdO vv gv cv lv)) (Star (OwnA lv 123 4 ldE rs) (Star (VwsA fcE (rs.map ldW)) (Star (VwA gv fcE T.goal) (Star (VwA vv nE T.vars) Emp)))))):=Lcl.obj.star (Lcl.obj.star (Lcl.own.star (Lcl.vws.star (Lcl.vw.star (Lcl.vw.star .emp)))))
   have h7:=(h6.by Imp.fr3).drew (Lcl.own.star hLB)
   simp [g5,←heb,cell_blk hb6,cell_blk oo6,rowOf]
   refine nat_append hLB h7 (by omega) fun v' w7 h8=>?_
   rw [←e1] at h8
   have c8:=h8.own.c1
   have o8:=h8.own.o1
   have h9:=h8.by Imp.fr3
   unfold fdO at h9
   have hLC:Lcl (Star (OwnA v' 3 1 nE ((T.ops.take (k+1)).map (·.cost))) (Star (ObjA ob (oqO o.raw)) (Star (OwnA lv 123 4 ldE rs) (Star (VwsA fcE (rs.map ldW)) (Star (VwA gv fcE T.goal) (Star (VwA vv nE T.vars) Emp)))))):=Lcl.own.star (Lcl.obj.star (Lcl.own.star (Lcl.vws.star (Lcl.vw.star (Lcl.vw.star .emp)))))
   simp [g5,c8]
   refine h9.st hLC (by simp) (by simp [o8]) fun w9 h10=>?_
   have h11:At wd [] (Star (ObjA ob (oqO o.raw)) (FdA b vv gv v' lv T.vars T.goal ((T.ops.take (k+1)).map (·.cost)) rs)) w9:=by
    have:At wd [] (Star (ObjA b (fdO vv gv v' lv)) (Star (OwnA v' 3 1 nE ((T.ops.take (k+1)).map (·.cost))) (Star (ObjA ob (oqO o.raw)) (Star (OwnA lv 123 4 ldE rs) (Star (VwsA fcE (rs.map ldW)) (Star (VwA gv fcE T.goal) (Star (VwA vv nE T.vars) Emp))))))) w9:=by simpa [fdO] using h10
    unfold FdA
    exact this.by Imp.fr3
   have oo11:=h11.obj
   unfold oqO No.raw at oo11
   have hoR:=(hr2d.kp h11.kp).op o hom
   simp [←heb,cell_blk oo11,hoR.effs.len]
   clear h5 h6 h7 h8 h9 h10 oo6 hb6 hLB hLC hr5 ec c8 o8
   refine range_loop (n:=o.effs.length) (by omega) (fun j ρ w'=>ρ 1=.pointer (some ⟨tb,0,none⟩)∧ρ 5=.pointer (some ⟨b,0,none⟩)∧ρ 24=T.ov.1∧ρ 26=.int .i64 (k:Nat)∧ρ 25=.int .i64 (T.ops.length:Nat)∧ρ 6=.int .i64 (k:Nat)∧ρ 7=.pointer (some ⟨ob,0,none⟩)∧ρ 43=o.ev.1∧FdJ wd b vv gv v' ob o T k j w') (by simp) (by simp)
    ⟨by simp [g1],by simp [g5],by simp [g24],by simp [hck],by simp [hlk],by simp [hck],by simp [←heb],by simp,lv,rs,by rw [opE_zero,List.append_nil]; exact hLk,hLl,h11⟩ (by decide) (fun _ _ _ _ h=>by simpa using h) (fun _ _ _ _ h=>by simpa using h) ?_ ?_
   rotate_left
   ·clear g1 g5 g24 hck hlk h11 oo11 hoR
    rintro ρ w6 ⟨g1,g5,g24,g26,g25,g6,g7,g43,lv,rs,hLk,hLl,h6⟩
    simp [g1,g5,g24,g26,g25]
    exact ⟨v',lv,rs,by rw [opE_zero,List.append_nil,hUk]; exact hLk,hLl.mono,h6.drop⟩
   clear g1 g5 g24 hck hlk h11 oo11 hoR hLk hLl lv rs
   rintro j ρ w6 hj hcj hlj ⟨g1,g5,g24,g26,g25,g6,g7,g43,lv,rs,hLk,hLl,h6⟩
   obtain ⟨e,hej⟩:∃e,o.effs[j]? = some e:=⟨_,List.getElem?_eq_getElem hj⟩
   have hem:=List.mem_of_getElem? hej
   have hoR6:=(hr2d.kp h6.kp).op o hom
   have ece:=hoR6.effs.cells nfE_len hej
   simp only [nfE] at ece
   obtain ⟨eb,hfb⟩:∃eb,eb=w6.heap.size:=⟨_,rfl⟩
   have hji:(j:Int) < o.effs.length:=by omega
   have hLO:Lcl (Star (ObjA ob (oqO o.raw)) (FdA b vv gv v' lv T.vars T.goal ((T.ops.take (k+1)).map (·.cost)) rs)):=Lcl.obj.star FdA.lcl
   have hLE:Lcl (Star (ObjA eb (efO e.raw)) (Star (ObjA ob (oqO o.raw)) (FdA b vv gv v' lv T.vars T.goal ((T.ops.take (k+1)).map (·.cost)) rs))):=Lcl.obj.star hLO
   simp (disch:=omega) [g43,hcj,hlj,hoR6.effs.idx,ece,←hfb]
   refine st_ef (e:=e.raw) hLO h6 hfb fun w7 h7=>?_
   have h7d:=h7.drew hLE
   have oe7:=h7d.obj
   unfold efO Nf.raw at oe7
   have oo7:=h7d.drop.obj
   unfold oqO No.raw at oo7
   have h7a:=h7d.drop.drop
   unfold FdA at h7a
   have hb7:=h7a.obj
   unfold fdO at hb7
   have hnp:FcRng T.vars o.pre:=hgo.pre.rng
   have hnc:FcRng T.vars e.cnd:=(hgo.cnd e hem).rng
   have hpl:=hgo.pre.len
   have hcl:=(hgo.cnd e hem).len
   obtain ⟨q1,q2⟩:=hgo.eff e hem
   simp [hcj,hlj,←hfb]
   refine any_end [68,70] (by kernel_rfl) ?_
   dsimp only [List.dropLast,List.getLastD,List.getLast]
   have hIv:∀{w':World} {Y:Asr},At wd [] (Star Y (Star (ObjA eb (efO e.raw)) (Star (ObjA ob (oqO o.raw)) (FdA b vv gv v' lv T.vars T.goal ((T.ops.take (k+1)).map (·.cost)) rs)))) w'→FdV b ob eb vv gv v' lv o e w':=fun h=>by
    have h2:=h.drop.drop.drop
    unfold FdA at h2
    exact ⟨h2.obj,h.drop.drop.obj,h.drop.obj⟩
   refine any_seq (FdV b ob eb vv gv v' lv o e) (by kernel_rfl) ⟨h7a.obj,h7d.drop.obj,h7d.obj⟩ ?_
   simp [g1,g5,g6,g7,←hfb]
   refine rdI_mk lv (fun w' hi=>?_) ?_
   ·obtain ⟨hb,ho',he'⟩:=hi
    unfold fdO at hb
    simp [cell_blk hb]
   simp [g1,g5,g6,g7,←hfb]
   refine rdI_mk o.pv.1 (fun w' hi=>?_) ?_
   ·obtain ⟨hb,ho',he'⟩:=hi
    unfold oqO No.raw at ho'
    simp [cell_blk ho']
   simp [g1,g5,g6,g7,←hfb]
   refine cl_of (cloneF_spec o.pv.1 o.pre (((hr2d.kp h7d.kp).op o hom).pre) (by omega)) ?_
   rintro nv w8 n8
   have h8:=At.nw hLE h7d n8
   simp [g1,g5,g6,g7,←hfb]
   refine invH_mk (hIv h8) ?_
   simp [g1,g5,g6,g7,←hfb]
   refine rdI_mk e.wv.1 (fun w' hi=>?_) ?_
   ·obtain ⟨hb,ho',he'⟩:=hi
    unfold efO Nf.raw at he'
    simp [cell_blk he']
   simp [g1,g5,g6,g7,←hfb]
   refine At.appendV (xs:=e.cnd) hLE h8 (((hr2d.kp h8.kp).op o hom).cnd e hem) fcE_len fcE_one sl_23 (by omega) (by unfold maxLen; omega) fun nv2 w9 h9=>?_
   simp [g1,g5,g6,g7,←hfb]
   refine invH_mk (hIv h9) ?_
   simp [g1,g5,g6,g7,←hfb]
   refine rdI_mk (.int .i64 (e.v:Nat)) (fun w' hi=>?_) ?_
   ·obtain ⟨hb,ho',he'⟩:=hi
    unfold efO Nf.raw at he'
    simp [cell_blk he']
   simp [g1,g5,g6,g7,←hfb]
   refine rdI_mk (.int .i64 (e.x:Nat)) (fun w' hi=>?_) ?_
   ·obtain ⟨hb,ho',he'⟩:=hi
    unfold efO Nf.raw at he'
    simp [cell_blk he']
   have c9:=h9.own.c1
   have o9:=h9.own.o1
   simp [g1,g5,g6,g7,←hfb,c9]
   have hrl:rs.length≤64 * 4096+64:=by
    have h1:=hLk.1
    unfold opE at h1
    rw [ho,List.length_append,opU_len,List.length_map] at h1
    omega
   have h10:=(h9.kp0 (Lcl.own.star hLE) ((Kp.refl [] w9).alloc (.cells #[.int .i64 (k:Nat),nv2,.int .i64 (e.v:Nat),.int .i64 (e.x:Nat)] 123)))
   refine invH_mk (hIv h10) ?_
   simp [g1,g5,g6,g7,←hfb,c9]
   obtain ⟨r,hr⟩:∃r:Ld,r=⟨k,⟨nv2,o9⟩,o.pre ++ e.cnd,(e.v,e.x)⟩:=⟨_,rfl⟩
   unfold FdA at h10
   have h11:=h10.by Imp.fr6
   refine At.append (E:=123) (sz:=4) (enc:=ldE) (xs:=[r]) (Lcl.own.star (Lcl.obj.star (Lcl.obj.star (Lcl.obj.star (Lcl.own.star (Lcl.vws.star (Lcl.vw.star (Lcl.vw.star .emp)))))))) h11 ldE_len ldE_one sl_119 rfl (fun i x hi=>?_) (by omega) (by unfold maxLen; omega) fun lv' w11 h12=>?_
   ·rw [add_none,cell_blk alloc_new]
    simpa [ldE,hr] using hi
   simp [g1,g5,g6,g7,←hfb,c9]
   refine invH_mk ⟨h12.drop.drop.drop.drop.obj,h12.drop.drop.drop.obj,h12.drop.drop.obj⟩ ?_
   have c12:=h12.own.c1
   have o12:=h12.own.o1
   simp [g1,g5,g6,g7,←hfb,c12]
   refine act_stp ?_
   simp [c12]
   have h13:=h12.by Imp.fr5
   unfold fdO at h13
   refine h13.st (Lcl.own.star (Lcl.own.star (Lcl.obj.star (Lcl.obj.star (Lcl.own.star (Lcl.vws.star (Lcl.vw.star (Lcl.vw.star .emp)))))))) (by simp) (by simp [o12]) fun w12 h14=>?_
   have e14:wrAt #[vv,gv,v',lv] 3 [lv']=#[vv,gv,v',lv']:=by simp
   rw [e14] at h14
   refine ⟨by first | exact hcj | simp [hcj],by first | exact hlj | simp [hlj],g24,g26,g25,g43,lv',rs ++ [r],?_,⟨fun y hy=>?_,?_⟩,?_⟩
   ·have eo:opE T k (j+1)=opE T k j ++ [unA T.vars o k (cst T [] k) j]:=by unfold opE; rw [ho]; exact opU_succ _ _ _ _ _
    rw [List.map_append,eo,←List.append_assoc,unA_at hej]
    refine hLk.snoc ⟨by rw [hr]; rfl,by rw [hr]; rfl,fun n=>?_,by rw [hr]; simp [ldU]; omega⟩
    rw [hr]
    show n ∈ (o.pre ++ e.cnd).map (numF T.vars)↔n ∈ dedup ((o.pre ++ e.cnd).map (numF T.vars))
    rw [dedup_mem]
   ·rcases List.mem_append.1 hy with hy | hy
    ·exact hLl.ok y hy
    ·rw [List.mem_singleton] at hy
     rw [hy,hr]
     refine ⟨Nat.le_refl _,hk,fun f hf=>?_,by simp; omega,q1,q2⟩
     rcases List.mem_append.1 hf with hf | hf
     ·exact hnp f hf
     ·exact hnc f hf
   ·rw [List.pairwise_append]
    refine ⟨hLl.asc,by simp,fun a ha c hc=>?_⟩
    rw [List.mem_singleton] at hc
    rw [hc,hr]
    exact (hLl.ok a ha).1
   ·have ew:(rs ++ [r]).map ldW=rs.map ldW ++ [(⟨nv2,o9⟩,o.pre ++ e.cnd)]:=by simp [ldW,hr]
    unfold FdA fdO
    rw [ew]
    exact h14.by (Imp.fr5.trans (Imp.un2 (Imp.fr4.trans (Imp.un2 ((Imp.un Imp.dr).trans (Imp.ow.trans (VwsA.add o9)))))))
end Go.Proofs.YtolkjbmcindhjaaGreat
end
section
namespace Go.Proofs.YtolkjbmcindhjaaGreat
open Go Go.W Go.Tk Go.Rx Go.Lm Go.Maps
theorem uns_rng {T:Nt} {c:Nat→Nat} (hg:NtG T) {u:Un} (hu:u ∈ uns T c):(∀n ∈ u.needs,n < T.vars.sum)∧u.makes < T.vars.sum∧u.op < T.ops.length:=by
 obtain ⟨i,o,k,e,hi,ho,he,rfl⟩:=uns_mem hu
 have hgo:=hg.ops o (List.mem_of_getElem? ho)
 refine ⟨fun n hn=>?_,?_,hi⟩
 ·obtain ⟨f,hf,rfl⟩:=List.mem_map.1 (dedup_mem.1 hn)
  rcases List.mem_append.1 hf with h1 | h1
  ·obtain ⟨a,b⟩:=hgo.pre.rng f h1; exact numF_lt a b
  ·obtain ⟨a,b⟩:=(hgo.cnd e (List.mem_of_getElem? he)).rng f h1; exact numF_lt a b
 ·obtain ⟨a,b⟩:=hgo.eff e (List.mem_of_getElem? he)
  exact numF_lt a b
theorem vars_sum {T:Nt} (hg:NtG T):T.vars.sum≤4096:=by
 have hvl:=hg.vlen
 have:=sum_le (N:=64) fun n hn=>(hg.vars n hn).2
 omega
theorem lu_ok {T:Nt} {UL:List Un} (hg:NtG T) (h:Lk UL (uns T (cst T []))):LuOk UL T.vars.sum (T.ops.map (·.cost)).length:={
 rng:=fun u hu n hn=>by
  obtain ⟨v,hv,he⟩:=h.left hu
  exact (uns_rng hg hv).1 n ((he.nd n).1 hn)
 made:=fun u hu=>by
  obtain ⟨v,hv,he⟩:=h.left hu
  rw [he.mq]
  exact (uns_rng hg hv).2.1
 op:=fun u hu=>by
  obtain ⟨v,hv,he⟩:=h.left hu
  rw [he.op,List.length_map]
  exact (uns_rng hg hv).2.2
 nl:=fun u hu=>by
  obtain ⟨v,hv,he⟩:=h.left hu
  exact he.nl
 ul:=by
  rw [h.1]
  have:=unsK_len (cost:=cst T []) (fun o ho=>(hg.ops o ho).elen) T.ops.length
  have:=hg.olen
  show (unsK T (cst T []) T.ops.length).length≤1000000
  omega
 nn:=vars_sum hg }
theorem cf_cst {T:Nt}:cf (T.ops.map (·.cost))=cst T []:=by
 funext i
 unfold cf cst
 simp only [List.length_nil,if_true,List.getD,List.getElem?_map]
 cases T.ops[i]? <;> rfl
theorem goal_lt {T:Nt} (hg:NtG T):∀x ∈ T.goal.map (numF T.vars),x < T.vars.sum:=fun x hx=>by
 obtain ⟨f,hf,rfl⟩:=List.mem_map.1 hx
 obtain ⟨a,b⟩:=hg.goal.rng f hf
 exact numF_lt a b
theorem goal_len {T:Nt} (hg:NtG T):(T.goal.map (numF T.vars)).length≤1000000:=by
 have:=hg.goal.len
 have:=hg.vlen
 rw [List.length_map]
 omega
theorem costs_le {T:Nt} (hg:NtG T):∀x ∈ T.ops.map (·.cost),x≤1048576:=fun x hx=>by
 obtain ⟨o,ho,rfl⟩:=List.mem_map.1 hx
 exact (hg.ops o ho).cost
theorem costs_len {T:Nt} (hg:NtG T):(T.ops.map (·.cost)).length≤4096:=by
 rw [List.length_map]
 exact hg.olen
section
variable {w:World} {b:Nat} {T:Nt}
theorem hx_cuts (sv:Value) (s:List Nat) (hR:Hrx b T w) (hg:NtG T) (hs:Vw w sv nE s) (hst:StN T.vars s) :
  Calls Tryz.prog 21 [.pointer (some ⟨b,0,none⟩),sv].toArray w fun e w'=>∃x,e=.returned x∧CutsP (uns T (cst T [])) (stN T.vars s T.vars.length) (T.goal.map (numF T.vars)) (cst T []) x w'∧Kp [] w w':=by
 obtain ⟨UL,vv,fv,gv,cv,lv,rs,hk,hR⟩:=hR
 refine Calls.mono (cuts_walk sv s hR hs hst (lu_ok hg hk) hg.vlen (goal_lt hg) (goal_len hg) (costs_le hg) (costs_len hg)) ?_
 rintro e w' ⟨x,rfl,⟨r,hr,hx⟩,k⟩
 rw [cf_cst] at hr
 exact ⟨x,rfl,⟨r,hk.lmc hr,hx⟩,k⟩
theorem hx_value (sv:Value) (s:List Nat) (hR:Hrx b T w) (hg:NtG T) (hs:Vw w sv nE s) (hst:StN T.vars s) :
  Calls Tryz.prog 24 [.pointer (some ⟨b,0,none⟩),sv].toArray w fun e w'=>∃x,e=.returned x∧valP (uns T (cst T [])) (stN T.vars s T.vars.length) (T.goal.map (numF T.vars)) (cst T []) x∧Kp [] w w':=by
 obtain ⟨UL,vv,fv,gv,cv,lv,rs,hk,hR⟩:=hR
 refine Calls.mono (value_walk sv s hR hs hst (lu_ok hg hk) hg.vlen (goal_lt hg) (goal_len hg) (costs_le hg) (costs_len hg)) ?_
 rintro e w' ⟨x,rfl,⟨r,hr,hx⟩,k⟩
 rw [cf_cst] at hr
 exact ⟨x,rfl,⟨r,hk.lmc hr,hx⟩,k⟩
end
end Go.Proofs.YtolkjbmcindhjaaGreat
end
section
namespace Go.Sx
open Go.Rx Go.Lm
theorem Dr.mono {U U':List Un} {S:List Nat} (h:∀u ∈ U,∃v ∈ U',u.makes=v.makes∧∀n ∈ v.needs,n ∈ u.needs) {f:Nat} (d:Dr U S f):Dr U' S f:=by
 induction d with
 | base hf=>exact .base hf
 | step hu _ ih =>
  obtain ⟨v,hv,e,hn⟩:=h _ hu
  rw [e]
  exact .step hv fun n hn'=>ih n (hn n hn')
end Go.Sx
namespace Go.Proofs.YtolkjbmcindhjaaGreat
open Go Go.W Go.Tk Go.Rx Go.Lm Go.Maps Go.Sx
theorem fd_good {T:Nt} {rs:List Ld} (hg:NtG T) (hLk:Lk (rs.map (ldU T.vars)) (uns T (cst T []))) (hL:LdL T rs T.ops.length):FdG T.vars T.goal (T.ops.map (·.cost)) rs:=by
 have hvl:=hg.vlen
 have hol:=hg.olen
 have hsum:T.vars.sum≤4096:=by
  have:=sum_le (N:=64) fun n hn=>(hg.vars n hn).2
  omega
 have hul:=unsK_len (cost:=cst T []) (fun o ho=>(hg.ops o ho).elen) T.ops.length
 have hl:=hLk.1
 rw [List.length_map] at hl
 have hl2:rs.length≤64 * T.ops.length:=by rw [hl]; exact hul
 exact ⟨hvl,hsum,by have:=hg.goal.len; omega,hg.goal.rng,by rw [List.length_map]; exact hol,fun c hc=>by
  obtain ⟨o,ho,rfl⟩:=List.mem_map.1 hc
  exact (hg.ops o ho).cost,by omega,fun r hr=>⟨(hL.ok r hr).2.2.1,by have:=(hL.ok r hr).2.2.2.1; omega⟩,fun r hr=>(hL.ok r hr).2.2.2.2,fun r hr=>by rw [List.length_map]; exact (hL.ok r hr).2.1,hL.asc⟩
theorem RcS.le {g:Fa} {vars s:List Nat} {rs:List Ld} {R R':Nat→Bool} (h:RcS g vars s rs R) (h0:∀x ∈ stN vars s vars.length,R' x=true) (hc:ClL g vars R' rs) {x:Nat} (hx:R x=true):R' x=true:=by
 have d:=h.der x hx
 induction d with
 | base hf=>exact h0 _ hf
 | step hu hn ih =>
  rename_i u
  obtain ⟨r,hr,rfl⟩:=List.mem_map.1 hu
  obtain ⟨hr1,hr2⟩:=List.mem_filter.1 hr
  have hr3:¬((r.mkf.1:Int),(r.mkf.2:Int))=g:=by simpa using hr2
  have key:∀y,Dr ((rs.filter fun r=>!decide (((r.mkf.1:Int),(r.mkf.2:Int))=g)).map (ldU vars)) (stN vars s vars.length) y→R' y=true:=fun y hy=>by
   induction hy with
   | base hf=>exact h0 _ hf
   | step hu _ ih =>
    obtain ⟨q,hq,rfl⟩:=List.mem_map.1 hu
    obtain ⟨hq1,hq2⟩:=List.mem_filter.1 hq
    exact hc q hq1 (by simpa using hq2) fun f hf=>ih _ (List.mem_map.2 ⟨f,hf,rfl⟩)
  exact key _ (.step (u:=ldU vars r) hu hn)
section
variable {T:Nt} {rs:List Ld} {R:Nat→Bool} {s:List Nat}
theorem rc_dr (hLk:Lk (rs.map (ldU T.vars)) (uns T (cst T []))) {g:Fa} (h:RcS g T.vars s rs R) {x:Nat} (hx:R x=true):Dr (uns T (cst T [])) (stN T.vars s T.vars.length) x:=by
 refine Dr.mono (fun u hu=>?_) (h.der x hx)
 obtain ⟨r,hr,rfl⟩:=List.mem_map.1 hu
 obtain ⟨v,hv,he⟩:=hLk.left (List.mem_map.2 ⟨r,(List.mem_filter.1 hr).1,rfl⟩)
 exact ⟨v,hv,he.mq,fun n hn=>(he.nd n).2 hn⟩
theorem rea_of (hLk:Lk (rs.map (ldU T.vars)) (uns T (cst T []))) {g:Fa} {G:Nat→Prop} (hG:∀r ∈ rs,¬G (numF T.vars r.mkf)→((r.mkf.1:Int),(r.mkf.2:Int))≠g) (h:RcS g T.vars s rs R) (hc:ClL g T.vars R rs):Rea (uns T (cst T [])) G (stN T.vars s T.vars.length) fun x=>R x=true:=by
 refine ⟨h.s0,fun u hu hg hn=>?_,fun x hx=>rc_dr hLk h hx⟩
 obtain ⟨v,hv,he⟩:=hLk.right hu
 obtain ⟨r,hr,rfl⟩:=List.mem_map.1 hv
 have hm:numF T.vars r.mkf=u.makes:=he.mq
 rw [←hm]
 exact hc r hr (hG r hr (by rw [hm]; exact hg)) fun f hf=>hn _ ((he.nd _).1 (List.mem_map.2 ⟨f,hf,rfl⟩))
theorem gAll_true {vars:List Nat} {goal:List Fc}:gAll vars goal R=true↔∀x ∈ goal.map (numF vars),R x=true:=by
 unfold gAll
 rw [List.all_eq_true]
 constructor
 ·rintro h x hx
  obtain ⟨f,hf,rfl⟩:=List.mem_map.1 hx
  exact h f hf
 ·exact fun h f hf=>h _ (List.mem_map.2 ⟨f,hf,rfl⟩)
theorem gAll_false {vars:List Nat} {goal:List Fc} (h:gAll vars goal R=false):∃x ∈ goal.map (numF vars),¬R x=true:=by
 refine Classical.byContradiction fun hno=>?_
 have:=gAll_true.2 fun x hx=>Classical.byContradiction fun h2=>hno ⟨x,hx,h2⟩
 rw [this] at h
 cases h
theorem rea_0 (hLk:Lk (rs.map (ldU T.vars)) (uns T (cst T []))) (h:RcS (-1,-1) T.vars s rs R) (hc:ClL (-1,-1) T.vars R rs):Rea (uns T (cst T [])) (fun _=>False) (stN T.vars s T.vars.length) fun x=>R x=true :=
 rea_of hLk (fun r _ _ e=>by have:=congrArg Prod.fst e; simp at this) h hc
structure KtC (T:Nt) (s:List Nat) (k:Kt):Prop where
 ne:k.ops≠[]
 asc:k.ops.Pairwise (· < ·)
 rng:∀q ∈ k.ops,q < T.ops.length
 cut:CutS (uns T (cst T [])) (stN T.vars s T.vars.length) (T.goal.map (numF T.vars)) k.ops
theorem lc_cut {R0:Nat→Bool} {k:Kt} (hLk:Lk (rs.map (ldU T.vars)) (uns T (cst T []))) (hL:LdL T rs T.ops.length) (hk:LcK T.vars s T.goal rs k) (h0:RcS (-1,-1) T.vars s rs R0) (hc0:ClL (-1,-1) T.vars R0 rs) (hy:gAll T.vars T.goal R0=true):KtC T s k:=by
 obtain ⟨f,hf,ha⟩:=hk
 obtain ⟨R,hS,hC,hno⟩:=hf.no
 obtain ⟨R',hS',hC',hm⟩:=ha.mem
 have hRR:∀x,R x=true→R' x=true:=fun x hx=>hS.le hS'.s0 hC' hx
 have hnum:∀r ∈ rs,numF T.vars r.mkf=numF T.vars f→r.mkf=f:=fun r hr e=>numF_inj (hL.ok r hr).2.2.2.2.1 (hL.ok r hr).2.2.2.2.2 hf.r1 hf.r2 e
 have hrea:Rea (uns T (cst T [])) (fun x=>x=numF T.vars f) (stN T.vars s T.vars.length) fun x=>R x=true:=rea_of hLk (fun r hr h e=>h (by
  have e1:=congrArg Prod.fst e
  have e2:=congrArg Prod.snd e
  simp only [lkF] at e1 e2
  have:r.mkf=f:=Prod.ext (by omega) (by omega)
  rw [this])) hS hC
 have hL':∀u ∈ uns T (cst T []),u.makes=numF T.vars f→(∀n ∈ u.needs,R n=true)→u.op ∈ k.ops:=fun u hu e hn=>by
  obtain ⟨v,hv,he⟩:=hLk.right hu
  obtain ⟨r,hr,rfl⟩:=List.mem_map.1 hv
  have hm1:numF T.vars r.mkf=u.makes:=he.mq
  have hop:r.op=u.op:=he.op
  rw [←hop]
  refine (hm r.op).2 ⟨r,hr,rfl,hnum r hr (by rw [hm1,e]),fun g hg=>hRR _ (hn _ ((he.nd _).1 (List.mem_map.2 ⟨g,hg,rfl⟩)))⟩
 have hg:=gAll_false hno
 refine ⟨fun e=>?_,ha.asc,fun q hq=>?_,hrea.cut hg hL'⟩
 ·obtain ⟨u,hu,e1,hn⟩:=hrea.ach (rea_0 hLk h0 hc0) hg (gAll_true.1 hy)
  have:=hL' u hu e1 hn
  rw [e] at this
  cases this
 ·obtain ⟨r,hr,rfl,_⟩:=(hm q).1 hq
  exact (hL.ok r hr).2.1
end
end Go.Proofs.YtolkjbmcindhjaaGreat
end
section
namespace Go.Proofs.YtolkjbmcindhjaaGreat
open Go Go.W Go.Tk Go.Rx Go.Lm Go.Maps Go.Sx
theorem costs_spec {w:World} (T:Nt) (hr:NtR w T) (hg:NtG T) :
  Calls Tryz.prog 73 [tkV T.raw].toArray w fun e w'=>∃u,e=.returned u∧Nw w w' u 3 1 nE (T.ops.map (·.cost)):=by
 refine enter Tryz.func73 mixed low73 (Nat.le_of_ble_eq_true rfl) ?_
 simp only [L73]
 have hol:=hg.olen
 obtain ⟨tb,htb⟩:∃tb,tb=w.heap.size:=⟨_,rfl⟩
 obtain ⟨w1,hw1⟩:∃w1,w1=w.alloc (tkO T.raw):=⟨_,rfl⟩
 have h1:At w [] (Star (ObjA tb (tkO T.raw)) Emp) w1:=by rw [htb,hw1]; exact (At.start rfl).alloc _ .emp
 have hw1':w.alloc (.cells #[T.raw.vv.1,T.raw.nv.1,T.raw.gv.1,T.raw.ov.1] 26 (0,0))=w1:=by rw [hw1]; rfl
 have ob1:=h1.obj
 unfold tkO at ob1
 have hL1:Lcl (Star (ObjA tb (tkO T.raw)) Emp):=Lcl.obj.star .emp
 have h2:=At.nil (E:=3) (sz:=1) (enc:=nE) hL1 h1
 simp [tkV,←htb,hw1',cell_blk ob1]
 simp [raw_ov,(hr.kp h1.kp).ops.len]
 refine range_loop (n:=T.ops.length) (by omega) (fun k ρ w'=>ρ 7=T.ov.1∧At w [] (Star (OwnA (ρ 3) 3 1 nE ((T.ops.take k).map (·.cost))) (Star (ObjA tb (tkO T.raw)) Emp)) w') (by simp) (by simp)
  ⟨by simp,by simpa using h2⟩ (by decide) (fun _ _ _ _ h=>by simpa using h) (fun _ _ _ _ h=>by simpa using h) ?_ ?_
 rotate_left
 ·rintro ρ w2 ⟨g7,h3⟩
  rw [List.take_length] at h3
  simp
  exact Nw.of h3
 clear h2 ob1 hw1' hw1 htb
 rintro k ρ w2 hk hck hlk ⟨g7,h3⟩
 obtain ⟨ov,hov⟩:∃ov,ov=ρ 3:=⟨_,rfl⟩
 rw [←hov] at h3
 have g3:=hov.symm
 obtain ⟨o,ho⟩:∃o,T.ops[k]? = some o:=⟨_,List.getElem?_eq_getElem hk⟩
 have hr3:=hr.kp h3.kp
 have ec:=hr3.ops.cells noE_len ho
 simp only [noE] at ec
 obtain ⟨ob,heb⟩:∃ob,ob=w2.heap.size:=⟨_,rfl⟩
 have hki:(k:Int) < T.ops.length:=by omega
 have hLo:Lcl (Star (OwnA ov 3 1 nE ((T.ops.take k).map (·.cost))) (Star (ObjA tb (tkO T.raw)) Emp)):=Lcl.own.star hL1
 simp (disch:=omega) [g7,hck,hlk,hr3.ops.idx,ec,←heb]
 refine st_oq (o:=o.raw) hLo h3 heb fun w4 h4=>?_
 have oo:=h4.obj
 unfold oqO No.raw at oo
 have htl:((T.ops.take k).map (·.cost)).length≤T.ops.length:=by rw [List.length_map,List.length_take]; omega
 simp [g3,←heb,cell_blk oo]
 refine nat_append (x:=o.cost) hL1 h4.drop (by omega) fun v' w5 h5=>?_
 simp [hck,hlk,g7]
 have e1:(T.ops.take (k+1)).map (·.cost)=(T.ops.take k).map (·.cost) ++ [o.cost]:=by rw [take_snoc ho,List.map_append]; rfl
 have h6:=h5
 rw [←e1] at h6
 simpa using h6
end Go.Proofs.YtolkjbmcindhjaaGreat
end
section
namespace Go.Proofs.YtolkjbmcindhjaaGreat
open Go Go.W Go.Tk Go.Rx Go.Lm Go.Maps Go.Sx
structure DvV (cs:List Nat) (ks:List Kt) (xs:List Fr):Prop where
 len:xs.length=ks.length
 P:∀x ∈ xs,frP x=true
 val:Val cs (kOps ks) fun j=>rv (xs.getD j fr0)
 den:∃D:Int,1≤D∧D≤907200∧∀j,j < ks.length→IsI ((D:Rat) * rv (xs.getD j fr0))
theorem val_congr {cs:List Nat} {kk:List (List Nat)} {u v:Nat→Rat} (h:∀j,j < kk.length→u j=v j) (hv:Val cs kk v):Val cs kk u:=by
 refine ⟨fun j hj=>by rw [h j hj]; exact hv.nn j hj,fun op ho=>?_⟩
 rw [sumN_congr (g:=fun j=>if (inB kk op).getD j false=true then v j else 0) fun j hj=>by rw [h j hj]]
 exact hv.le op ho
theorem DvV.opt {cs:List Nat} {ks:List Kt} {xs:List Fr} (h:OpR cs ks xs) (hc:cs.length≤10):DvV cs ks xs∧∀u,Val cs (kOps ks) u→sumN ks.length u≤sumN ks.length fun j=>rv (xs.getD j fr0):=by
 obtain ⟨h1,h2,v,ho,hv⟩:=h
 have hkl:(kOps ks).length=ks.length:=by simp [kOps]
 obtain ⟨D,d1,d2,d3⟩:=(ho hc).den
 refine ⟨⟨h1,h2,val_congr (fun j hj=>hv j (by omega)) (ho hc).val,D,d1,d2,fun j hj=>by rw [hv j hj]; exact d3 j⟩,fun u hu=>?_⟩
 rw [sumN_congr (g:=v) fun j hj=>hv j hj]
 have:=(ho hc).top u hu
 rw [hkl] at this
 exact this
theorem DvV.gr {cs:List Nat} {ks:List Kt} (hg:KtG cs ks):DvV cs ks (grX cs ks):=by
 have hl:(grX cs ks).length=ks.length:=by simp [grX,grL_len,kOps]
 have hr:∀j,j < ks.length→rv ((grX cs ks).getD j fr0)=(((grL (fun q=>cs.getD q 0) (kOps ks)).getD j 0:Nat):Rat):=fun j hj=>by
  have hj2:j < (grL (fun q=>cs.getD q 0) (kOps ks)).length:=by simp [grL_len,kOps]; omega
  unfold grX
  rw [List.getD_eq_getElem?_getD,List.getD_eq_getElem?_getD,List.getElem?_map,List.getElem?_eq_getElem hj2]
  exact whF_rv _
 have hkl:(kOps ks).length=ks.length:=by simp [kOps]
 refine ⟨hl,fun x hx=>?_,val_congr (fun j hj=>hr j (by omega)) greedy_val,1,by omega,by omega,fun j hj=>?_⟩
 ·obtain ⟨i,hi⟩:=List.mem_iff_getElem?.1 hx
  have hil:=(List.getElem?_eq_some_iff.1 hi).1
  obtain ⟨q,hq,hle⟩:=Val.one (greedy_val (cs:=cs) (ks:=kOps ks)) (j:=i) (by omega) (fun k hk=>by obtain ⟨kt,hkt,rfl⟩:=List.mem_map.1 hk; exact hg.ne kt hkt) (fun k hk q hq=>by obtain ⟨kt,hkt,rfl⟩:=List.mem_map.1 hk; exact hg.rng kt hkt q hq)
  unfold grX at hi hx
  rw [List.getElem?_map] at hi
  obtain ⟨n,hn,e⟩:=Option.map_eq_some_iff.1 hi
  rw [←e]
  refine whF_P ?_
  rw [getD_of hn] at hle
  have hcm:cs.getD q 0≤1048576:=hg.cmax _ (mem_getD hq)
  have:n≤cs.getD q 0:=by
   refine Classical.byContradiction fun h=>?_
   have h2:=nc_le (show cs.getD q 0+1≤n by omega)
   have h3:((cs.getD q 0+1:Nat):Rat)=((cs.getD q 0:Nat):Rat)+1:=by simp
   rw [h3] at h2
   grind
  omega
 ·rw [hr j hj]
  have:((1:Int):Rat)=1:=by simp
  rw [this,Rat.one_mul]
  exact nc_isI _
theorem shr_rv {cs:List Nat} {ks:List Kt} (hg:KtG cs ks) {k:Kt} {q:Nat} (hk:k ∈ ks) (hq:q ∈ k.ops):frP (shr cs ks q)=true∧rv (shr cs ks q)=((cs.getD q 0:Nat):Rat) / ((mnL ks q:Nat):Rat)∧1≤mnL ks q:=by
 obtain ⟨h1,h2⟩:=shr_ok hg hk hq
 have h3:=mnL_pos hk hq
 obtain ⟨_,h4⟩:=frNew_rv (by omega) h1
 refine ⟨h2,?_,h3⟩
 rw [h4,Rat.intCast_natCast,Rat.intCast_natCast]
theorem lsF_in {f:Nat→Fr}:∀{l:List Nat},l≠[]→(∀q ∈ l,frP (f q)=true)→(∃q ∈ l,lsF f l=f q)∧∀q ∈ l,rv (lsF f l)≤rv (f q):=by
 intro l hl hp
 obtain ⟨n,hn⟩:∃n,n=l.length:=⟨_,rfl⟩
 induction n generalizing l with
 | zero=>exact absurd (List.length_eq_zero_iff.1 hn.symm) hl
 | succ n ih =>
  obtain ⟨l',x,rfl⟩:∃l' x,l=l' ++ [x]:=⟨l.dropLast,l.getLast hl,(List.dropLast_concat_getLast hl).symm⟩
  rw [lsF_snoc]
  by_cases e:l'=[]
  ·subst e
   rw [if_pos rfl]
   exact ⟨⟨x,by simp,rfl⟩,fun q hq=>by simp at hq; rw [hq]; exact Rat.le_refl⟩
  ·rw [if_neg e]
   have hp':∀q ∈ l',frP (f q)=true:=fun q hq=>hp q (by simp [hq])
   obtain ⟨⟨q0,hq0,e0⟩,hle⟩:=ih e hp' (by simp at hn; omega)
   have px:=hp x (by simp)
   have p0:=hp' q0 hq0
   have hcmp:=frCmp_neg px p0
   rw [e0] at hle ⊢
   by_cases hc:frCmp (f x) (f q0) < 0
   ·rw [if_pos hc]
    have hlt:=hcmp.1 hc
    refine ⟨⟨x,by simp,rfl⟩,fun q hq=>?_⟩
    rcases List.mem_append.1 hq with h | h
    ·have:=hle q h; grind
    ·simp at h; rw [h]; exact Rat.le_refl
   ·rw [if_neg hc]
    have hnlt:¬rv (f x) < rv (f q0):=fun h=>hc (hcmp.2 h)
    refine ⟨⟨q0,by simp [hq0],rfl⟩,fun q hq=>?_⟩
    rcases List.mem_append.1 hq with h | h
    ·exact hle q h
    ·simp at h; rw [h]; grind
theorem unF_at {cs:List Nat} {ks:List Kt} {j:Nat} {k:Kt} (h:ks[j]? = some k):(unF cs ks).getD j fr0=lsF (shr cs ks) k.ops:=by
 unfold unF
 rw [List.getD_eq_getElem?_getD,List.getElem?_map,h]
 rfl
theorem div_nn {a b:Nat}:(0:Rat)≤((a:Nat):Rat) / ((b:Nat):Rat):=by
 have h1:=nc_nn a
 have h2:=nc_nn b
 by_cases hb:((b:Nat):Rat)=0
 ·rw [hb,Rat.div_def,Rat.inv_zero,Rat.mul_zero]
  exact Rat.le_refl
 ·have h3:(0:Rat) < ((b:Nat):Rat):=by grind
  have h4:((a:Nat):Rat) / ((b:Nat):Rat) * ((b:Nat):Rat)=((a:Nat):Rat):=Rat.div_mul_cancel hb
  refine Classical.byContradiction fun h=>?_
  have h5:((a:Nat):Rat) / ((b:Nat):Rat) < 0:=by grind
  have h6:=Rat.mul_lt_mul_of_pos_right h5 h3
  rw [h4,Rat.zero_mul] at h6
  grind
theorem uni_sum {cs:List Nat} {ks:List Kt} (hg:KtG cs ks) (op:Nat):∀n,n≤ks.length→sumN n (fun j=>if (inB (kOps ks) op).getD j false=true then rv ((unF cs ks).getD j fr0) else 0)≤((mnL (ks.take n) op:Nat):Rat) * (((cs.getD op 0:Nat):Rat) / ((mnL ks op:Nat):Rat))
 | 0,_=>by
  simp only [sumN]
  exact Rat.mul_nonneg (nc_nn _) div_nn
 | n+1,h=>by
  have ih:=uni_sum hg op n (by omega)
  simp only [sumN]
  obtain ⟨kt,hkt⟩:∃kt,ks[n]? = some kt:=⟨_,List.getElem?_eq_getElem (by omega)⟩
  have hkm:=List.mem_of_getElem? hkt
  have hko:(kOps ks)[n]? = some kt.ops:=by unfold kOps; rw [List.getElem?_map,hkt]; rfl
  have e2:(inB (kOps ks) op).getD n false=decide (op ∈ kt.ops):=by
   unfold inB
   rw [List.getD_eq_getElem?_getD,List.getElem?_map,hko]
   rfl
  rw [e2,take_snoc hkt,mnL_snoc]
  have hS:=div_nn (a:=cs.getD op 0) (b:=mnL ks op)
  have hcast:((mnL (ks.take n) op+kt.ops.count op:Nat):Rat)=((mnL (ks.take n) op:Nat):Rat)+((kt.ops.count op:Nat):Rat):=by simp
  rw [hcast,Rat.add_mul]
  by_cases ho:op ∈ kt.ops
  ·rw [if_pos (decide_eq_true ho),unF_at hkt]
   have h1:=(lsF_in (hg.ne kt hkm) fun q hq=>(shr_rv hg hkm hq).1).2 op ho
   rw [(shr_rv hg hkm ho).2.1] at h1
   have h2:1≤kt.ops.count op:=List.count_pos_iff.2 ho
   have h3:=nc_le h2
   have h4:=Rat.mul_le_mul_of_nonneg_right h3 hS
   have h5:((1:Nat):Rat)=1:=by simp
   rw [h5,Rat.one_mul] at h4
   grind
  ·rw [if_neg (by rw [decide_eq_true_eq]; exact ho)]
   have h4:=Rat.mul_nonneg (nc_nn (kt.ops.count op)) hS
   grind
theorem dvd_27720 {m:Nat} (h1:1≤m) (h2:m≤12):∃c:Nat,27720=m * c:=by
 have:m=1∨m=2∨m=3∨m=4∨m=5∨m=6∨m=7∨m=8∨m=9∨m=10∨m=11∨m=12:=by omega
 rcases this with rfl | rfl | rfl | rfl | rfl | rfl | rfl | rfl | rfl | rfl | rfl | rfl
 ·exact ⟨27720,rfl⟩
 ·exact ⟨13860,rfl⟩
 ·exact ⟨9240,rfl⟩
 ·exact ⟨6930,rfl⟩
 ·exact ⟨5544,rfl⟩
 ·exact ⟨4620,rfl⟩
 ·exact ⟨3960,rfl⟩
 ·exact ⟨3465,rfl⟩
 ·exact ⟨3080,rfl⟩
 ·exact ⟨2772,rfl⟩
 ·exact ⟨2520,rfl⟩
 ·exact ⟨2310,rfl⟩
theorem DvV.un {cs:List Nat} {ks:List Kt} (hg:KtG cs ks) (h12:ks.length≤12):DvV cs ks (unF cs ks):=by
 have hl:(unF cs ks).length=ks.length:=by simp [unF]
 have hkl:(kOps ks).length=ks.length:=by simp [kOps]
 have hm:∀q,mnL ks q≤12:=fun q=>by
  have:mnL ks q≤ks.length * 1:=mnL_le fun k hk=>by
   have:=(hg.asc k hk).imp (S:=fun a b=>a≠b) fun h=>Nat.ne_of_lt h
   exact List.nodup_iff_count.1 this q
  omega
 have hat:∀j,j < ks.length→∃k q,k ∈ ks∧q ∈ k.ops∧(unF cs ks).getD j fr0=shr cs ks q:=fun j hj=>by
  obtain ⟨k,hk⟩:∃k,ks[j]? = some k:=⟨_,List.getElem?_eq_getElem hj⟩
  have hkm:=List.mem_of_getElem? hk
  obtain ⟨⟨q,hq,e⟩,_⟩:=lsF_in (f:=shr cs ks) (hg.ne k hkm) fun q hq=>(shr_rv hg hkm hq).1
  exact ⟨k,q,hkm,hq,by rw [unF_at hk,e]⟩
 refine ⟨hl,fun x hx=>?_,⟨fun j hj=>?_,fun op ho=>?_⟩,27720,by omega,by omega,fun j hj=>?_⟩
 ·obtain ⟨j,hj⟩:=List.mem_iff_getElem?.1 hx
  have hjl:=(List.getElem?_eq_some_iff.1 hj).1
  obtain ⟨k,q,hk,hq,e⟩:=hat j (by omega)
  rw [getD_of hj] at e
  rw [e]
  exact (shr_rv hg hk hq).1
 ·obtain ⟨k,q,hk,hq,e⟩:=hat j (by omega)
  show 0≤rv ((unF cs ks).getD j fr0)
  rw [e,(shr_rv hg hk hq).2.1]
  exact div_nn
 ·rw [hkl]
  refine Rat.le_trans (uni_sum hg op ks.length (Nat.le_refl _)) ?_
  rw [List.take_length]
  by_cases hb:((mnL ks op:Nat):Rat)=0
  ·rw [hb,Rat.zero_mul]; exact nc_nn _
  ·rw [Rat.mul_comm,Rat.div_mul_cancel hb]
   exact Rat.le_refl
 ·obtain ⟨k,q,hk,hq,e⟩:=hat j hj
  obtain ⟨_,h2,h3⟩:=shr_rv hg hk hq
  obtain ⟨c,hc⟩:=dvd_27720 h3 (hm q)
  rw [e,h2]
  refine ⟨((c * cs.getD q 0:Nat):Int),?_⟩
  have hb:((mnL ks q:Nat):Rat)≠0:=fun h=>by
   have:=nc_le h3
   rw [h] at this
   have h5:((1:Nat):Rat)=1:=by simp
   rw [h5] at this
   grind
  have h6:((27720:Int):Rat)=((mnL ks q:Nat):Rat) * ((c:Nat):Rat):=by
   have:((27720:Int):Rat)=((27720:Nat):Rat):=by simp
   rw [this,hc]
   simp
  have h7:=Rat.div_mul_cancel (a:=((cs.getD q 0:Nat):Rat)) hb
  rw [h6,Rat.intCast_natCast]
  have h8:((c * cs.getD q 0:Nat):Rat)=((c:Nat):Rat) * ((cs.getD q 0:Nat):Rat):=by simp
  rw [h8]
  grind
end Go.Proofs.YtolkjbmcindhjaaGreat
end
