/-
  A part of the proof of this claim's statement (LdH, LdI, WhW): plain theorems; no conditions beyond those each names.
-/
import Derived.Test.YtolkjbmcindhjaaGreatPk21
import Derived.Test.YtolkjbmcindhjaaGreatPk14
set_option maxRecDepth 100000
set_option linter.unusedSimpArgs false
set_option linter.unusedVariables false
set_option linter.unusedSectionVars false
section
namespace Go.Proofs.YtolkjbmcindhjaaGreat
open Go Go.W Go.Tk Go.Rx Go.Maps Go.Sx
section
variable {w w1:World} {F:List Nat} {B:Asr} {b:Nat} {rw_ tv bv gv:Value} {ps:List (Cell1 × List Fr)} {t:Tl} {KW:Kont World}
theorem tabS_append {u av:Value} {c:List Fr} {KV:Kont (Value × World)} (hB:Lcl B) (h:At w F (Star (OwnA u 151 2 frE c) (Star (TabS av 88 151 2 frE ps) B)) w1) (hl:ps.length≤100000)
  (H:∀(ho:oneC u=true) v' w2,At w F (Star (TabS v' 88 151 2 frE (ps ++ [(⟨u,ho⟩,c)])) B) w2→KV.run (v',w2)) :
  @efH Tryz.prog (Builtin.append_ #[226,226] 226 [av,.slice (some ⟨w1.heap.size,0,none⟩) 1 1].toArray) (w1.alloc (.cells #[u] 88)) KV:=by
 have hou:=h.own.o1
 have hX:Lcl (Star (OwnA u 151 2 frE c) (RowsA 151 2 frE ps B)):=Lcl.own.star (Lcl.rows hB ps)
 have h3:At w F (Star (OwnA av 88 1 sv1 ps) (Star (OwnA u 151 2 frE c) (RowsA 151 2 frE ps B))) w1:=h.by ((Imp.un TabS.opn).trans Imp.sw)
 have h4:=h3.kp0 (Lcl.own.star hX) ((Kp.refl [] w1).alloc (.cells #[u] 88))
 refine At.append (xs:=[((⟨u,hou⟩,c):Cell1 × List Fr)]) hX h4 sv1_len sv1_one sl_226 rfl (fun j x hj=>?_) (by omega) (by unfold maxLen; omega) fun v' w5 h5=>H hou v' w5 ?_
 ·simp [sv1] at hj
  rw [add_none,cell_blk alloc_new]
  simpa using hj
 ·exact h5.by ((Imp.un (RowsA.snoc (⟨u,hou⟩,c) ps)).trans TabS.cls)
theorem TbA.stG {gv':Value} {g:List Fr} (hB:Lcl B) (h:At w F (Star (OwnA gv' 151 2 frE g) (Star (TabS rw_ 88 151 2 frE ps) (Star (ObjA b (tbO t rw_ tv bv gv)) (Star (OwnA tv 151 2 frE t.right) (Star (OwnA bv 3 1 nE t.bas) B))))) w1) (H:∀w2,At w F (TbA b rw_ tv bv gv' ps { t with goal:=g } B) w2→KW.run w2) :
  @stJ w1 ⟨b,5,none⟩ [gv'] KW:=by
 have ho:=h.own.o1
 unfold tbO at h
 refine At.st (c:=#[.int .i64 (t.n:Nat),.int .i64 (t.m:Nat),rw_,tv,bv,gv,.int .i64 t.val.1,.int .i64 t.val.2]) ?_ (h.by Imp.fr3) (by simp) (by simp [ho]) fun w2 h2=>H w2 ?_
 ·exact Lcl.own.star (Lcl.tabS.star (Lcl.own.star (Lcl.own.star hB)))
 ·have h3:=h2.by Imp.bk3
  unfold TbA TbX tbO
  have h4:=h3.by (Imp.bk5)
  simpa using h4
theorem TbA.stW {av:Value} {qs:List (Cell1 × List Fr)} (hB:Lcl B) (h:At w F (Star (TabS av 88 151 2 frE qs) (TbX b rw_ tv bv gv t B)) w1) (H:∀w2,At w F (TbA b av tv bv gv qs t B) w2→KW.run w2) :
  @stJ w1 ⟨b,2,none⟩ [av] KW:=by
 have ho:=(TabS.own h).o1
 unfold TbX tbO at h
 refine At.st (c:=#[.int .i64 (t.n:Nat),.int .i64 (t.m:Nat),rw_,tv,bv,gv,.int .i64 t.val.1,.int .i64 t.val.2]) ?_ (h.by Imp.sw) (by simp) (by simp [ho]) fun w2 h2=>H w2 ?_
 ·exact Lcl.tabS.star (Lcl.own.star (Lcl.own.star (Lcl.own.star hB)))
 ·unfold TbA TbX tbO
  simpa using h2.by Imp.sw
theorem TbA.btake:Imp (TbA b rw_ tv bv gv ps t B) (Star (OwnA bv 3 1 nE t.bas) (Star (TabS rw_ 88 151 2 frE ps) (Star (ObjA b (tbO t rw_ tv bv gv)) (Star (OwnA tv 151 2 frE t.right) (Star (OwnA gv 151 2 frE t.goal) B))))):=Imp.fr4
theorem TbA.stS {bv':Value} {g:List Nat} (hB:Lcl B) (h:At w F (Star (OwnA bv' 3 1 nE g) (Star (TabS rw_ 88 151 2 frE ps) (Star (ObjA b (tbO t rw_ tv bv gv)) (Star (OwnA tv 151 2 frE t.right) (Star (OwnA gv 151 2 frE t.goal) B))))) w1) (H:∀w2,At w F (TbA b rw_ tv bv' gv ps { t with bas:=g } B) w2→KW.run w2) :
  @stJ w1 ⟨b,4,none⟩ [bv'] KW:=by
 have ho:=h.own.o1
 unfold tbO at h
 refine At.st (c:=#[.int .i64 (t.n:Nat),.int .i64 (t.m:Nat),rw_,tv,bv,gv,.int .i64 t.val.1,.int .i64 t.val.2]) ?_ (h.by Imp.fr3) (by simp) (by simp [ho]) fun w2 h2=>H w2 ?_
 ·exact Lcl.own.star (Lcl.tabS.star (Lcl.own.star (Lcl.own.star hB)))
 ·have h3:=h2.by Imp.bk3
  unfold TbA TbX tbO
  have h4:=h3.by (Imp.bk4)
  simpa using h4
theorem TabS.nilS {E2 E sz:Nat} {α:Type} {enc:α→List Value} (hB:Lcl B) (h:At w F B w1):At w F (Star (TabS (.slice none 0 0) E2 E sz enc ([]:List (Cell1 × List α))) B) w1 :=
 (At.nil (E:=E2) (sz:=1) (enc:=(sv1:Cell1 × List α→List Value)) hB h).by (TabS.cls (ps:=[]))
end
def BgC (w:World) (av:Value) (c b:List Fr) (n m:Nat) (ρ:Env) (w':World):Prop :=
 ρ 1=av∧∃tb tv gv,ρ 7=.pointer (some ⟨tb,0,none⟩)∧At w [] (TbA tb (.slice none 0 0) tv (.slice none 0 0) gv [] ⟨n,m,[],b,[],c,fr0⟩ Emp) w'
def BgI (w:World) (av:Value) (tb:Nat) (tv:Value) (c b:List Fr) (n m k:Nat) (ρ:Env) (w':World):Prop :=
 ρ 1=av∧ρ 7=.pointer (some ⟨tb,0,none⟩)∧∃gv,At w [] (TbA tb (.slice none 0 0) tv (.slice none 0 0) gv [] ⟨n,m,[],b,[],c ++ List.replicate k fr0,fr0⟩ Emp) w'
def BgJ (w:World) (av:Value) (tb:Nat) (tv gv:Value) (c:List Fr) (rows:List (List Fr)) (b:List Fr) (n m k:Nat) (ρ:Env) (w':World):Prop :=
 ρ 1=av∧ρ 39=av∧ρ 7=.pointer (some ⟨tb,0,none⟩)∧∃rw_ bv qs,qs.map (·.2)=(rowsE m rows).take k∧At w [] (TbA tb rw_ tv bv gv qs ⟨n,m,[],b,(List.range k).map (fun i=>n+i),c ++ List.replicate m fr0,fr0⟩ Emp) w'
def BgL (w:World) (av:Value) (tb:Nat) (rw_ tv bv gv:Value) (qs:List (Cell1 × List Fr)) (tt:Tl) (r:List Fr) (m k j:Nat) (ρ:Env) (w':World):Prop :=
 ρ 1=av∧ρ 39=av∧ρ 7=.pointer (some ⟨tb,0,none⟩)∧ρ 8=.int .i64 (k:Nat)∧ρ 41=.int .i64 (k:Nat)∧ρ 40=.int .i64 (m:Nat) ∧
 At w [] (Star (OwnA (ρ 10) 151 2 frE (r ++ (unitR m k).take j)) (TbA tb rw_ tv bv gv qs tt Emp)) w'
theorem unitR_succ {m k j:Nat} (h:j < m):(unitR m k).take (j+1)=(unitR m k).take j ++ [if j=k then ((1,1):Fr) else fr0]:=by
 refine take_snoc ?_
 unfold unitR
 rw [List.getElem?_map,List.getElem?_range h]
 rfl
def BgP (c:List Fr) (rows:List (List Fr)) (b:List Fr) (w:World) (x:Value) (w':World):Prop :=
 ∃tb rw_ tv bv gv qs,x=.pointer (some ⟨tb,0,none⟩)∧qs.map (·.2)=(tl0 c rows b).rows∧At w [] (TbA tb rw_ tv bv gv qs (tl0 c rows b) Emp) w'
set_option maxHeartbeats 4000000 in
theorem begin_spec {w:World} {cv av bv:Value} {c:List Fr} {ps:List (Cell1 × List Fr)} {b:List Fr} (hR:PgR w cv av bv c ps b) (hw:PgW c (ps.map (·.2)) b) :
  Calls Tryz.prog 190 [cv,av,bv].toArray w fun e w'=>∃x,e=.returned x∧BgP c (ps.map (·.2)) b w x w':=by
 refine enter Tryz.func190 mixed low190 (Nat.le_of_ble_eq_true rfl) ?_
 simp only [L190]
 have hn24:=hw.n24
 have hm24:=hw.m24
 have hbl:=hw.bl
 rw [List.length_map] at hm24 hbl
 refine seq_cut (fun ρ w'=>ρ 0=cv∧ρ 1=av∧ρ 2=bv∧w'=w) ?_ ?_
 ·simp
 rintro ρ w1 ⟨g0,g1,g2,rfl⟩
 refine seq_cut (BgC w1 av c b c.length ps.length) ?_ ?_
 ·simp [g0,g1,g2,hR.c.len,hR.a.len]
  refine cl_of (clFrac_spec bv b hR.b (by omega)) ?_
  rintro tv w2 n2
  have h2:At w1 [] (Star (OwnA tv 151 2 frE b) Emp) w2:=At.nw .emp (At.start rfl) n2
  simp [g0,g1,g2]
  refine cl_of (clFrac_spec cv c (hR.c.kp0 n2.kp) (by omega)) ?_
  rintro gv w3 n3
  have h3:At w1 [] (Star (OwnA gv 151 2 frE c) (Star (OwnA tv 151 2 frE b) Emp)) w3:=At.nw (Lcl.own.star .emp) h2 n3
  simp [g0,g1,g2]
  refine cl_of zero_spec ?_
  rintro _ w4 ⟨rfl,k4⟩
  have hLg:Lcl (Star (OwnA gv 151 2 frE c) (Star (OwnA tv 151 2 frE b) Emp)):=Lcl.own.star (Lcl.own.star .emp)
  have h4:=h3.kp0 hLg k4
  have c1:=h4.own.c1
  have c2:=h4.drop.own.c1
  simp [frV,g0,g1,g2,c1,c2]
  have h5:=h4.alloc (tbO ⟨c.length,ps.length,[],b,[],c,fr0⟩ (.slice none 0 0) tv (.slice none 0 0) gv) hLg
  have hL5:∀x,Lcl (Star (ObjA x (tbO ⟨c.length,ps.length,[],b,[],c,fr0⟩ (.slice none 0 0) tv (.slice none 0 0) gv)) (Star (OwnA gv 151 2 frE c) (Star (OwnA tv 151 2 frE b) Emp))):=fun _=>Lcl.obj.star hLg
  have h6:=At.nil (E:=3) (sz:=1) (enc:=nE) (hL5 _) h5
  have h7:=TabS.nilS (E2:=88) (E:=151) (sz:=2) (enc:=frE) (Lcl.own.star (hL5 _)) h6
  refine ⟨by simp [g1],w4.heap.size,tv,gv,by simp,?_⟩
  unfold TbA TbX
  exact h7.by (Imp.un (Imp.sw.trans (Imp.un Imp.fr3)))
 clear g0 g1 g2
 rintro ρ w2 ⟨g1,tb,tv,gv,g7,h2⟩
 have hR2:=hR.kp h2.kp
 refine seq_cut (BgI w1 av tb tv c b c.length ps.length ps.length) ?_ ?_
 ·simp [g1,hR2.a.len]
  refine range_loop (n:=ps.length) (by omega) (BgI w1 av tb tv c b c.length ps.length) (by simp) (by simp)
   ⟨by simp [g1],by simp [g7],gv,by simpa using h2⟩ (by decide) (fun _ _ _ _ h=>by simpa [BgI] using h) (fun _ _ _ _ h=>by simpa [BgI] using h) ?_ ?_
  rotate_left
  ·rintro ρ w3 h3
   simp only [thenK_nrm]
   exact h3
  clear g1 g7 h2 hR2
  rintro k ρ w3 hk hc hlm ⟨g1,g7,gv,h3⟩
  have ob3:=TbA.obj h3
  unfold tbO at ob3
  have hL3:Lcl (TbA tb (.slice none 0 0) tv (.slice none 0 0) gv [] ⟨c.length,ps.length,[],b,[],c ++ List.replicate k fr0,fr0⟩ Emp):=TbA.lcl .emp
  simp [g1,g7,hc,hlm,cell_blk ob3]
  refine ⟨?_,?_⟩ <;>
  ·refine cl_of zero_spec ?_
   rintro _ w4 ⟨rfl,k4⟩
   have h4:=(h3.drew hL3).kp0 hL3 k4
   have ob4:=TbA.obj h4
   unfold tbO at ob4
   simp [frV,g1,g7,hc,hlm,cell_blk ob4]
   refine fr_append (x:=fr0) (Lcl.tabS.star (Lcl.obj.star (Lcl.own.star (Lcl.own.star .emp)))) (h4.by TbA.gtake) (by simp; omega) fun gv' w5 h5=>?_
   have c5:=h5.own.c1
   simp [g1,g7,hc,hlm,c5]
   refine TbA.stG .emp h5 fun w6 h6=>?_
   simp [g1,g7,hc,hlm]
   refine ⟨by simp [g1],by simp [g7],gv',?_⟩
   rw [List.replicate_succ',←List.append_assoc]
   exact h6
 clear g1 g7 h2 hR2
 rintro ρ w3 ⟨g1,g7,gv,h3⟩
 have hR3:=hR.kp h3.kp
 refine seq_cut (BgJ w1 av tb tv gv c (ps.map (·.2)) b c.length ps.length ps.length) ?_ ?_
 ·simp [g1,hR3.a.len]
  refine range_loop (n:=ps.length) (by omega) (BgJ w1 av tb tv gv c (ps.map (·.2)) b c.length ps.length) (by simp) (by simp)
   ⟨by simp [g1],by simp,by simp [g7],.slice none 0 0,.slice none 0 0,[],by simp,by simpa using h3⟩ (by decide) (fun _ _ _ _ h=>by simpa [BgJ] using h) (fun _ _ _ _ h=>by simpa [BgJ] using h) ?_ ?_
  rotate_left
  ·rintro ρ w4 h4
   simp only [thenK_nrm]
   exact h4
  clear g1 g7 h3 hR3
  rintro k ρ w4 hk hc hlm ⟨g1,g39,g7,rw_,bv2,qs,hqs,h4⟩
  obtain ⟨p,hp⟩:∃p,ps[k]? = some p:=⟨_,List.getElem?_eq_getElem hk⟩
  have hpm:p.2 ∈ ps.map (·.2):=List.mem_map.2 ⟨p,List.mem_of_getElem? hp,rfl⟩
  have hprl:=hw.rl p.2 hpm
  have hR4:=hR.kp h4.kp
  have hki:(k:Int) < ps.length:=by omega
  have hql:qs.length=k:=by
   have:=congrArg List.length hqs
   rw [List.length_map,List.length_take,rowsE_len,List.length_map] at this
   omega
  obtain ⟨tt,htt⟩:∃tt:Tl,tt=⟨c.length,ps.length,[],b,(List.range k).map (fun i=>c.length+i),c ++ List.replicate ps.length fr0,fr0⟩:=⟨_,rfl⟩
  rw [←htt] at h4
  have hL4:Lcl (TbA tb rw_ tv bv2 gv qs tt Emp):=TbA.lcl .emp
  simp (disch:=omega) [g1,g39,g7,hc,hlm,hR4.a.idx,sv_cell hR4.a hp]
  refine cl_of (clFrac_spec p.1.1 p.2 (hR4.row p (List.mem_of_getElem? hp)) (by omega)) ?_
  rintro rv0 w5 n5
  have h5:At w1 [] (Star (OwnA rv0 151 2 frE p.2) (TbA tb rw_ tv bv2 gv qs tt Emp)) w5:=At.nw hL4 h4 n5
  have hR5:=hR.kp h5.kp
  simp [g1,g39,g7,hc,hlm,hR5.a.len]
  refine range_loop (n:=ps.length) (by omega) (BgL w1 av tb rw_ tv bv2 gv qs tt p.2 ps.length k) (by simp) (by simp)
   ⟨by simp [g1],by simp [g39],by simp [g7],by simp,by simp [hc],by simp [hlm],by simpa using h5⟩ (by decide) (fun _ _ _ _ h=>by simpa [BgL] using h) (fun _ _ _ _ h=>by simpa [BgL] using h) ?_ ?_
  ·clear h5 hR5 n5 hc hlm g1 g39 g7
   rintro j ρ w6 hj hcj hlj ⟨g1,g39,g7,g8,g41,g40,h6⟩
   obtain ⟨ro,hro⟩:∃ro,ro=ρ 10:=⟨_,rfl⟩
   rw [←hro] at h6
   have g10:=hro.symm
   have hL6:Lcl (Star (OwnA ro 151 2 frE (p.2 ++ (unitR ps.length k).take j)) (TbA tb rw_ tv bv2 gv qs tt Emp)):=Lcl.own.star hL4
   simp [g1,g39,g7,g8,g41,g40,g10,hcj,hlj]
   refine cl_of zero_spec ?_
   rintro _ w7 ⟨rfl,k7⟩
   have h7:=h6.kp0 hL6 k7
   obtain ⟨fb,hfb⟩:∃fb,fb=w7.heap.size:=⟨_,rfl⟩
   simp [frV,←hfb]
   refine st_fr0 (f:=(0,1)) hL6 h7 hfb fun w8 h8=>?_
   have fin:∀(f:Fr) (w9:World) (KV:Kont (Value × World)),f=(if j=k then ((1,1):Fr) else fr0)→At w1 [] (Star (ObjA fb (frO f)) (Star (OwnA ro 151 2 frE (p.2 ++ (unitR ps.length k).take j)) (TbA tb rw_ tv bv2 gv qs tt Emp))) w9→(∀v' w10,At w1 [] (Star (OwnA v' 151 2 frE (p.2 ++ (unitR ps.length k).take (j+1))) (TbA tb rw_ tv bv2 gv qs tt Emp)) w10→KV.run (v',w10)) →
     @efH Tryz.prog (Builtin.append_ #[88,88] 88 [ro,.slice (some ⟨w9.heap.size,0,none⟩) 1 1].toArray) (w9.alloc (.cells #[.int .i64 f.1,.int .i64 f.2] 151)) KV:=fun f w9 KV hf h9 hK=>by
    refine fr_append (x:=f) (Lcl.obj.star hL4) (h9.by Imp.sw) (by simp [unitR_len]; omega) fun v' w10 h10=>hK v' w10 ?_
    rw [unitR_succ hj,←List.append_assoc,←hf]
    exact h10.by (Imp.un Imp.dr)
   by_cases ejk:j=k
   ·subst ejk
    have o8:=h8.obj
    simp [g1,g39,g7,g8,g41,g40,g10,hcj,hlj,←hfb]
    unfold frO at h8
    refine h8.st (c:=#[.int .i64 0,.int .i64 1]) hL6 (by simp) (by simp) fun w9 h9=>?_
    replace h9:At w1 [] (Star (ObjA fb (frO (1,1))) (Star (OwnA ro 151 2 frE (p.2 ++ (unitR ps.length j).take j)) (TbA tb rw_ tv bv2 gv qs tt Emp))) w9:=by unfold frO; simpa using h9
    simp [g1,g39,g7,g8,g41,g40,g10,hcj,hlj,←hfb,rd_fr h9.obj]
    refine fin (1,1) w9 _ (by simp) h9 fun v' w10 h10=>?_
    simp [g1,g39,g7,g8,g41,g40,g10,hcj,hlj]
    exact ⟨by simp [g1],by simp [g39],by simp [g7],by simp [g8],by simp [g41],by simp [g40],by simpa using h10⟩
   ·have njk:((j:Int) == (k:Int))=false:=by simp; omega
    have r8:=rd_fr h8.obj
    have r8':=r8
    rw [hfb] at r8'
    simp [g1,g39,g7,g8,g41,g40,g10,hcj,hlj,←hfb,njk,ejk,r8,r8']
    refine fin (0,1) w8 _ (by rw [if_neg ejk]; rfl) h8 fun v' w10 h10=>?_
    simp [g1,g39,g7,g8,g41,g40,g10,hcj,hlj]
    exact ⟨by simp [g1],by simp [g39],by simp [g7],by simp [g8],by simp [g41],by simp [g40],by simpa using h10⟩
  ·clear h5 hR5 n5 hc hlm g1 g39 g7
   rintro ρ w6 ⟨g1,g39,g7,g8,g41,g40,h6⟩
   obtain ⟨ro,hro⟩:∃ro,ro=ρ 10:=⟨_,rfl⟩
   rw [←hro] at h6
   have g10:=hro.symm
   rw [List.take_of_length_le (by rw [unitR_len]; exact Nat.le_refl _)] at h6
   have ob6:=TbA.obj h6.drop
   unfold tbO at ob6
   have c6:=h6.own.c1
   simp [g1,g39,g7,g8,g41,g40,g10,cell_blk ob6,c6]
   refine tabS_append (TbX.lcl .emp) h6 (by omega) fun ho v' w7 h7=>?_
   have c7:=(TabS.own h7).c1
   simp [g1,g39,g7,g8,g41,g40,g10,c7]
   refine TbA.stW .emp h7 fun w8 h8=>?_
   have ob8:=TbA.obj h8
   unfold tbO at ob8
   have hL8:=TbA.lcl (b:=tb) (rw_:=v') (tv:=tv) (bv:=bv2) (gv:=gv) (ps:=qs ++ [((⟨ro,ho⟩,p.2 ++ unitR ps.length k):Cell1 × List Fr)]) (t:=tt) (B:=Emp) .emp
   have ttn:tt.n=c.length:=by rw [htt]
   have ttb:tt.bas=(List.range k).map (fun i=>c.length+i):=by rw [htt]
   have ew:IntKind.i64.wrap ((c.length:Int)+(k:Int))=(c.length:Int)+(k:Int):=wrap_i64 (by omega) (by omega)
   simp [g1,g39,g7,g8,g41,g40,g10,cell_blk ob8,ttn,ew]
   have hbt:=h8.by TbA.btake
   have hLb:Lcl (Star (TabS v' 88 151 2 frE (qs ++ [((⟨ro,ho⟩,p.2 ++ unitR ps.length k):Cell1 × List Fr)])) (Star (ObjA tb (tbO tt v' tv bv2 gv)) (Star (OwnA tv 151 2 frE tt.right) (Star (OwnA gv 151 2 frE tt.goal) Emp)))):=Lcl.tabS.star (Lcl.obj.star (Lcl.own.star (Lcl.own.star .emp)))
   rw [ttb] at hbt
   have q1:=(hbt.drew (Lcl.own.star hLb)).lit (xs:=[c.length+k]) (enc:=nE) (E:=3) (sz:=1) (cs:=#[.int .i64 ((c.length:Int)+(k:Int))]) (m:=1) (Lcl.own.star hLb) (by simp [nE]) nE_len (by simp [maxLen]) rfl
   refine At.appendV (Lcl.own.star hLb) (q1.by Imp.sw) q1.own.vw nE_len nE_one sl_22 (by simp; omega) (by simp; unfold maxLen; omega) fun bv' w9 h9=>?_
   have c9:=h9.own.c1
   simp [g1,g39,g7,g8,g41,g40,g10,c9]
   refine TbA.stS .emp (h9.by (Imp.un Imp.dr)) fun wa ha=>?_
   simp [g1,g39,g7,g8,g41,g40,g10]
   refine ⟨by simp [g1],by simp [g39],by simp [g7],v',bv',qs ++ [((⟨ro,ho⟩,p.2 ++ unitR ps.length k):Cell1 × List Fr)],?_,?_⟩
   rotate_left
   ·rw [htt] at ha
    simp only [] at ha
    rw [List.range_succ,List.map_append]
    exact ha
   ·rw [List.map_append,hqs]
    symm
    refine take_snoc ?_
    unfold rowsE
    rw [List.getElem?_map,List.getElem?_range (by rw [List.length_map]; exact hk)]
    show some (rowE ps.length k ((ps.map (·.2)).getD k []))=_
    rw [List.getD_eq_getElem?_getD,List.getElem?_map,hp]
    rfl
 clear g1 g7 h3 hR3
 rintro ρ w4 ⟨g1,g39,g7,rw_,bv2,qs,hqs,h4⟩
 simp [g7]
 refine ⟨tb,rw_,tv,bv2,gv,qs,rfl,?_,?_⟩
 ·rw [hqs,List.take_of_length_le (by rw [rowsE_len,List.length_map]; exact Nat.le_refl _)]
  unfold tl0
  rw [List.length_map]
 ·have e:tl0 c (ps.map (·.2)) b={ (⟨c.length,ps.length,[],b,(List.range ps.length).map (fun i=>c.length+i),c ++ List.replicate ps.length fr0,fr0⟩:Tl) with rows:=rowsE ps.length (ps.map (·.2)) }:=by unfold tl0; rw [List.length_map]
  rw [e]
  exact h4
end Go.Proofs.YtolkjbmcindhjaaGreat
end
section
namespace Go.W
theorem postL_c4 {P:Program} {ρ:Env} {w:World} {R:Ending→World→Prop} {a T n g E t1 t2 t3:Nat} {cs:Array Value} {fr:Nat × Nat} (hT:tyAgg P T=some (some n)) (ha:ρ a=.pointer (some ⟨g,0,none⟩)) (hg:w.heap[g]? = some (.cells cs E fr)) (hn:cs.size=n) (hE:E=T)
  (h:R (.returned (.tuple #[.agg cs,ρ t1,ρ t2,ρ t3])) w):postL P [.cell a T,.tmp t1,.tmp t2,.tmp t3] R .ret ρ w:=by
 subst hE
 obtain ⟨d,h1,h2,h3⟩:=tyAgg_row hT
 refine ⟨.tuple #[.agg cs,ρ t1,ρ t2,ρ t3],?_,h⟩
 have:=run_loadVar_row (P:=P) w g E E cs fr d hg h1 (by cases d <;> first | rfl | (simp at h2)) (by rw [h3,hn])
 simp [resAll,resOne,ha,asAddr,this,Result.andThen]
end Go.W
namespace Go.Sx
theorem Way.ext {m N t:Nat} {T:Nat→Tb} {r k:Nat→Nat} {rr kk:Nat} (h:Way m N T r k t) (hb:Bl m N (T t) rr kk):∃T' r' k',Way m N T' r' k' (t+1)∧T' 0=T 0∧T' (t+1)=(T t).piv rr kk:=by
 refine ⟨fun n=>if n≤t then T n else (T t).piv rr kk,fun n=>if n < t then r n else rr,fun n=>if n < t then k n else kk,⟨?_,fun n hn=>?_⟩,by simp,by simp only []; rw [if_neg (by omega)]⟩
 ·simp only [Nat.zero_le,if_true]
  exact h.c0
 ·by_cases e:n < t
  ·simp only [if_pos e,if_pos (Nat.le_of_lt e),if_pos (show n+1≤t by omega)]
   exact h.st n e
  ·have:n=t:=by omega
   subst this
   simp only [Nat.le_refl,if_true,Nat.lt_irrefl,if_false]
   rw [if_neg (by omega)]
   exact ⟨hb,rfl⟩
theorem Way.start {m N:Nat} {T0:Tb} (h:Can m N T0):Way m N (fun _=>T0) (fun _=>0) (fun _=>0) 0:=⟨h,fun n hn=>absurd hn (by omega)⟩
end Go.Sx
namespace Go.Proofs.YtolkjbmcindhjaaGreat
open Go Go.W Go.Tk Go.Rx Go.Maps Go.Sx
theorem at_join2 {w w1 w2:World} {F:List Nat} {A B:Asr} (hB:Lcl B) (h:At w F B w1) (t:At w1 [] A w2):At w F (Star A B) w2:=by
 obtain ⟨Fa,h1,hs⟩:=t.ex
 refine h.more hB t.kp ⟨Fa,h1,fun x hx=>?_⟩
 rcases hs x hx with h3 | h3
 ·cases h3
 ·exact h3
theorem TbA.asc {b:Nat} {rw_ tv bv gv:Value} {ps:List (Cell1 × List Fr)} {t:Tl} {X:Asr}:Imp (Star (TbA b rw_ tv bv gv ps t Emp) X) (TbA b rw_ tv bv gv ps t X) :=
 Imp.as.trans (Imp.un (Imp.as.trans (Imp.un (Imp.as.trans (Imp.un (Imp.as.trans (Imp.un (Imp.as.trans (Imp.un Imp.dr)))))))))
structure PgX (c:List Fr) (rows:List (List Fr)) (b:List Fr):Prop where
 w:PgW c rows b
 nn:∀i j,0≤PgA rows i j
 col:∀j,j < c.length→∃i,i < rows.length∧PgA rows i j=1
theorem PgX.b0 {c:List Fr} {rows:List (List Fr)} {b:List Fr} (h:PgX c rows b) (i:Nat) (hi:i < rows.length):0≤PgB b i:=by
 unfold PgB
 have hl:=h.w.bl
 have hm:b.getD i fr0 ∈ b:=by
  rw [List.getD_eq_getElem?_getD,List.getElem?_eq_getElem (by omega)]
  exact List.getElem_mem _
 exact (rv_nn (h.w.bp _ hm)).2 (h.w.b0 _ hm)
def SvR (c:List Fr) (rows:List (List Fr)) (b:List Fr) (xs:List Fr):Prop :=
 xs.length=c.length∧(∀x ∈ xs,frP x=true)∧∃T r k t,Go.Sx.Way rows.length (c.length+rows.length) T r k t∧T 0=tb0 rows.length c.length (PgA rows) (PgB b)∧(∀j,j < c.length+rows.length→(T t).c j≤0)∧∀j,j < c.length→rv (xs.getD j fr0)=pt rows.length (T t) j
def SvP (c:List Fr) (rows:List (List Fr)) (b:List Fr) (w:World) (x:Value) (w':World):Prop :=
 (x=.tuple #[frV (0,0),.slice none 0 0,.slice none 0 0,errV 5]∧Kp [] w w') ∨
 ∃z xv yv xs,x=.tuple #[frV z,xv,yv,.nilIface]∧SvR c rows b xs∧At w [] (Star (OwnA xv 151 2 frE xs) Emp) w'
def SvI (w:World) (tb rb:Nat) (c:List Fr) (rows:List (List Fr)) (b:List Fr) (n:Nat) (ρ:Env) (w':World):Prop :=
 ρ 6=.pointer (some ⟨rb,0,none⟩)∧ρ 11=.pointer (some ⟨tb,0,none⟩)∧∃rw_ tv bv gv qs tl T r k t,n+t=2 ^ (c.length+rows.length)∧Go.Sx.Way rows.length (c.length+rows.length) T r k t∧T 0=tb0 rows.length c.length (PgA rows) (PgB b)∧T t=tl.tb∧TlW tl∧tl.n=c.length∧tl.m=rows.length∧qs.map (·.2)=tl.rows ∧
  At w [] (TbA tb rw_ tv bv gv qs tl (Star (ObjA rb (frO (0,0))) Emp)) w'
theorem sv_bl {tl:Tl} {kk i:Nat} (hw:TlW tl) (hk:kk < tl.n+tl.m) (h1:0 < (tl.goal.getD kk fr0).1) (h2:∀j,j < kk→¬0 < (tl.goal.getD j fr0).1) (hi:i < tl.m) (hb:BsI tl kk (posI tl kk tl.m) i):Bl tl.m (tl.n+tl.m) tl.tb i kk:=by
 obtain ⟨i',e1,_,hpi⟩:=posI_mem hb.1
 have:i'=i:=by omega
 subst this
 unfold posB at hpi
 simp only [decide_eq_true_eq] at hpi
 refine ⟨hk,(rv_pos (getD_P hw.gp kk)).2 h1,fun j hj=>?_,hi,(rv_pos (hw.aP i' kk)).2 hpi,fun j hj hja=>hb.2 j (mem_posI hj ?_)⟩
 ·have h3:=h2 j hj
  have h4:¬0 < rv (tl.goal.getD j fr0):=fun h=>h3 ((rv_pos (getD_P hw.gp j)).1 h)
  show rv (tl.goal.getD j fr0)≤0
  grind
 ·unfold posB
  simp only [decide_eq_true_eq]
  exact (rv_pos (hw.aP j kk)).1 hja
def SxA1 (w:World) (tb rb:Nat) (rw_ tv bv gv:Value) (qs:List (Cell1 × List Fr)) (tl:Tl) (n m:Nat) (R:List Fr→Prop) (ρ:Env) (w':World):Prop :=
 ρ 6=.pointer (some ⟨rb,0,none⟩)∧ρ 11=.pointer (some ⟨tb,0,none⟩)∧∃xs ys,xs.length=n∧ys.length=m∧R xs ∧
 At w [] (Star (OwnA (ρ 7) 151 2 frE xs) (Star (OwnA (ρ 8) 151 2 frE ys) (TbA tb rw_ tv bv gv qs tl (Star (ObjA rb (frO (0,0))) Emp)))) w'
def SxQ (k:Nat) (xs:List Fr):Prop:=∀i,i < k→xs.getD i fr0=fr0
def SxR (tl:Tl) (k:Nat) (xs:List Fr):Prop:=(∀i,i < k→tl.bas.getD i 0 < xs.length→xs.getD (tl.bas.getD i 0) fr0=tl.right.getD i fr0)∧∀j,(∀i,i < k→tl.bas.getD i 0≠j)→xs.getD j fr0=fr0
theorem sv_read {c:List Fr} {rows:List (List Fr)} {b:List Fr} {tl:Tl} {xs:List Fr} {T:Nat→Tb} {r k:Nat→Nat} {t:Nat} (hxl:xs.length=c.length) (htw:TlW tl) (hxr:SxR tl tl.bas.length xs) (hn:tl.n=c.length) (hm:tl.m=rows.length)
  (hway:Go.Sx.Way rows.length (c.length+rows.length) T r k t) (hT0:T 0=tb0 rows.length c.length (PgA rows) (PgB b)) (hTt:T t=tl.tb) (hend:∀j,j < c.length+rows.length→(T t).c j≤0):SvR c rows b xs:=by
 have hcan:=hway.can t (Nat.le_refl t)
 rw [hTt] at hcan
 have hbl:=htw.bl
 have key:∀j,j < c.length→frP (xs.getD j fr0)=true∧rv (xs.getD j fr0)=pt rows.length tl.tb j:=by
  intro j hj
  by_cases he:∃i,i < tl.bas.length∧tl.bas.getD i 0=j
  ·obtain ⟨i,hi,rfl⟩:=he
   rw [hxr.1 i hi (by omega)]
   refine ⟨getD_P htw.tp i,?_⟩
   exact (pt_at hcan (i:=i) (by omega)).symm
  ·have hne:∀i,i < tl.bas.length→tl.bas.getD i 0≠j:=fun i hi e=>he ⟨i,hi,e⟩
   rw [hxr.2 j hne]
   refine ⟨rfl,?_⟩
   rw [pt_out]
   ·show ((0:Int):Rat) / ((1:Int):Rat)=0
    grind
   ·rintro ⟨i,hi,e⟩
    exact hne i (by omega) e
 refine ⟨hxl,fun x hx=>?_,T,r,k,t,hway,hT0,hend,fun j hj=>by rw [hTt]; exact (key j hj).2⟩
 obtain ⟨j,hj,rfl⟩:=List.getElem_of_mem hx
 have:=(key j (by omega)).1
 rwa [List.getD_eq_getElem?_getD,List.getElem?_eq_getElem hj] at this
set_option maxHeartbeats 4000000 in
theorem solve_spec {w:World} {cv av bv:Value} {c:List Fr} {ps:List (Cell1 × List Fr)} {b:List Fr} (hR:PgR w cv av bv c ps b) (hX:PgX c (ps.map (·.2)) b) :
  Calls Tryz.prog 135 [cv,av,bv].toArray w fun e w'=>∃x,e=.returned x∧SvP c (ps.map (·.2)) b w x w':=by
 refine enter Tryz.func135 mixed low135 (Nat.le_of_ble_eq_true rfl) ?_
 simp only [L135]
 have hw:=hX.w
 obtain ⟨rows,hrows⟩:∃rows,rows=ps.map (·.2):=⟨_,rfl⟩
 obtain ⟨rb,hrb⟩:∃rb,rb=w.heap.size:=⟨_,rfl⟩
 have h1:At w [] (Star (ObjA rb (frO (0,0))) Emp) (w.alloc (frO (0,0))):=by rw [hrb]; exact (At.start rfl).alloc _ .emp
 obtain ⟨w1,hw1⟩:∃w1,w1=w.alloc (frO (0,0)):=⟨_,rfl⟩
 rw [←hw1] at h1
 have hw1':w.alloc (.cells #[.int .i64 0,.int .i64 0] 151 (0,0))=w1:=by rw [hw1]; rfl
 have hLr:Lcl (Star (ObjA rb (frO (0,0))) Emp):=Lcl.obj.star .emp
 simp [←hrb,hw1']
 refine cl_of (sxCheck_spec (hR.kp h1.kp) hw) ?_
 rintro _ w2 ⟨rfl,k2⟩
 have h2:=h1.kp0 hLr k2
 simp
 refine cl_of (begin_spec (hR.kp h2.kp) hw) ?_
 rintro _ w3 ⟨tb,rw_,tv,bv2,gv,qs,rfl,hqs,h3⟩
 have h4:At w [] (TbA tb rw_ tv bv2 gv qs (tl0 c (ps.map (·.2)) b) (Star (ObjA rb (frO (0,0))) Emp)) w3:=(at_join2 hLr h2 h3).by TbA.asc
 clear h3 h2 h1 k2
 rw [←hrows] at h4 hqs hX hw
 have hc0:Go.Sx.Can rows.length (c.length+rows.length) (tb0 rows.length c.length (PgA rows) (PgB b)):=tb0_can fun i hi=>hX.b0 i hi
 have hn24:=hw.n24
 have hm24:=hw.m24
 simp [←hrb]
 ·refine loop_inv (SvI w tb rb c rows b) (2 ^ (c.length+rows.length)) ⟨by simp,by simp,rw_,tv,bv2,gv,qs,tl0 c rows b,_,_,_,0,by omega,Go.Sx.Way.start hc0,rfl,(tl0_tb hw).symm,tl0_ok hw,rfl,rfl,hqs,h4⟩ ?_
  clear h4 hqs
  rintro n ρ w4 ⟨g6,g11,rw_,tv,bv2,gv,qs,tl,T,r,k,t,hnt,hway,hT0,hTt,htw,hn,hm,hq,h⟩
  have ob:=TbA.obj h
  unfold tbO at ob
  have og:=TbA.goal h
  have hgl:=htw.gl
  have hLt:Lcl (TbA tb rw_ tv bv2 gv qs tl (Star (ObjA rb (frO (0,0))) Emp)):=TbA.lcl hLr
  have err:∀{w':World} {ρ:Env},ρ 6=.pointer (some ⟨rb,0,none⟩)→At w [] (Star (ObjA rb (frO (0,0))) Emp) w'→True:=fun _ _=>trivial
  simp [g6,g11,cell_blk ob]
  refine cl_of (ifFrac_spec gv tl.goal og.vw (by omega)) ?_
  rintro _ w5 ⟨i,rfl,hF,k5⟩
  have h5:=h.kp0 hLt k5
  rcases hF with ⟨rfl,hneg⟩ | ⟨kk,rfl,hkl,hpos,hlt⟩
  ·have hend:∀j,j < c.length+rows.length→(T t).c j≤0:=fun j hj=>by
    rw [hTt]
    show rv (tl.goal.getD j fr0)≤0
    have hjl:j < tl.goal.length:=by omega
    have hm':tl.goal.getD j fr0 ∈ tl.goal:=by
     rw [List.getD_eq_getElem?_getD,List.getElem?_eq_getElem hjl]
     exact List.getElem_mem _
    have h6:=hneg _ hm'
    have h7:¬0 < rv (tl.goal.getD j fr0):=fun h=>h6 ((rv_pos (getD_P htw.gp j)).1 h)
    grind
   have ob5:=TbA.obj h5
   unfold tbO at ob5
   simp [g6,g11,cell_blk ob5,hn,hm]
   refine ⟨gd_mk ⟨by omega,by omega⟩ ?_,gd_mk ⟨by omega,by omega⟩ ?_⟩
   case' inl.refine_1 =>
    simp
    refine gd_mk ⟨by omega,by omega⟩ ?_
    have h6:=At.made (n:=c.length) (x:=((0,0):Fr)) (z:=[.int .i64 0,.int .i64 0]) (enc:=frE) (E:=151) (sz:=2) hLt (h5.drew hLt) rfl frE_len (by unfold maxLen; omega)
    have h7:=At.made (n:=rows.length) (x:=((0,0):Fr)) (z:=[.int .i64 0,.int .i64 0]) (enc:=frE) (E:=151) (sz:=2) (Lcl.own.star hLt) h6 rfl frE_len (by unfold maxLen; omega)
    have h8:=h7.by Imp.sw
    simp
   case' inl.refine_2 =>
    simp
    refine gd_mk ⟨by omega,by omega⟩ ?_
    have h6:=At.made (n:=rows.length) (x:=((0,0):Fr)) (z:=[.int .i64 0,.int .i64 0]) (enc:=frE) (E:=151) (sz:=2) hLt (h5.drew hLt) rfl frE_len (by unfold maxLen; omega)
    have h7:=At.made (n:=c.length) (x:=((0,0):Fr)) (z:=[.int .i64 0,.int .i64 0]) (enc:=frE) (E:=151) (sz:=2) (Lcl.own.star hLt) h6 rfl frE_len (by unfold maxLen; omega)
    have h8:=h7
    simp
   all_goals
    have hbl:=htw.bl
    have htl:=htw.tl
    have hcan:=hway.can t (Nat.le_refl t)
    rw [hTt] at hcan
    have hinj:∀i i',i < rows.length→i' < rows.length→tl.bas.getD i 0=tl.bas.getD i' 0→i=i':=fun i i' h1 h2 e=>hcan.inj h1 h2 e
    refine range_loop (n:=c.length) (by omega) (fun k=>SxA1 w tb rb rw_ tv bv2 gv qs tl c.length rows.length (SxQ k)) (by simp) (by simp)
     ⟨by simp [g6],by simp [g11],List.replicate c.length (0,0),List.replicate rows.length (0,0),by simp,by simp,fun i hi=>absurd hi (by omega),by simpa using h8⟩ (by decide) (fun _ _ _ _ h=>by simpa [SxA1] using h) (fun _ _ _ _ h=>by simpa [SxA1] using h) ?_ ?_
    ·clear h8 h7 h6
     rintro k1 ρ1 w6 hk1 hc1 hl1 ⟨g6,g11,xs,ys,hxl,hyl,hxs,h6⟩
     obtain ⟨xv,hxv⟩:∃xv,xv=ρ1 7:=⟨_,rfl⟩
     rw [←hxv] at h6
     have g7:=hxv.symm
     simp [g6,g7,g11,hc1,hl1]
     refine cl_of zero_spec ?_
     rintro _ w7 ⟨rfl,k7⟩
     have hL6:Lcl (Star (OwnA xv 151 2 frE xs) (Star (OwnA (ρ1 8) 151 2 frE ys) (TbA tb rw_ tv bv2 gv qs tl (Star (ObjA rb (frO (0,0))) Emp)))):=Lcl.own.star (Lcl.own.star hLt)
     have h7:=h6.kp0 hL6 k7
     have o7:=h7.own
     have hki:(k1:Int) < xs.length:=by omega
     simp (disch:=omega) [frV,g6,g7,g11,hc1,hl1,o7.idx]
     refine At.store (x:=fr0) (Lcl.own.star hLt) h7 frE_len frE_one (by omega) rfl fun w8 h8=>?_
     simp [g6,g7,g11,hc1,hl1]
     refine ⟨by simp [g6],by simp [g11],xs.set k1 fr0,ys,by simp [hxl],hyl,fun i hi=>?_,by simpa [g7] using h8⟩
     rw [getD_set (by omega)]
     by_cases e:i=k1
     ·rw [if_pos e]
     ·rw [if_neg e]; exact hxs i (by omega)
    clear h8 h7 h6
    rintro ρ1 w6 ⟨g6,g11,xs,ys,hxl,hyl,hxs,h6⟩
    have oba:=TbA.obj h6.drop.drop
    unfold tbO at oba
    have obs:=TbA.bas h6.drop.drop
    simp [g6,g11,cell_blk oba,obs.len]
    refine range_loop (n:=tl.bas.length) (by omega) (fun k ρ w'=>ρ 85=bv2∧SxA1 w tb rb rw_ tv bv2 gv qs tl c.length rows.length (SxR tl k) ρ w') (by simp) (by simp)
     ⟨by simp,by simp [g6],by simp [g11],xs,ys,hxl,hyl,⟨fun i hi=>absurd hi (by omega),fun j _=>?_⟩,by simpa using h6⟩ (by decide) (fun _ _ _ _ h=>by simpa [SxA1] using h) (fun _ _ _ _ h=>by simpa [SxA1] using h) ?_ ?_
    ·by_cases hj:j < c.length
     ·exact hxs j hj
     ·rw [getD_out (by omega)]
    ·clear h6 oba obs hxs
     rintro k1 ρ1 w7 hk1 hc1 hl1 ⟨g85,g6,g11,xs,ys,hxl,hyl,⟨hxs1,hxs2⟩,h6⟩
     obtain ⟨xv,hxv⟩:∃xv,xv=ρ1 7:=⟨_,rfl⟩
     rw [←hxv] at h6
     have g7:=hxv.symm
     have oba:=TbA.obj h6.drop.drop
     unfold tbO at oba
     have obs:=TbA.bas h6.drop.drop
     have ort:=TbA.right h6.drop.drop
     obtain ⟨si,hsi⟩:∃si,tl.bas[k1]? = some si:=⟨_,List.getElem?_eq_getElem hk1⟩
     obtain ⟨zi,hzi⟩:∃zi,tl.right[k1]? = some zi:=⟨_,List.getElem?_eq_getElem (by omega)⟩
     have ezi:=ort.cells frE_len hzi
     simp only [frE] at ezi
     have hki:(k1:Int) < tl.bas.length:=by omega
     have hkt:(k1:Int) < tl.right.length:=by omega
     have esi:tl.bas.getD k1 0=si:=getD_of hsi
     have ezi2:tl.right.getD k1 fr0=zi:=getD_of hzi
     have hne:∀i,i < k1→tl.bas.getD i 0≠si:=fun i hi e=>by
      have:=hinj i k1 (by omega) (by omega) (by rw [e,esi])
      omega
     have csi:=obs.vw
     have esc:w7.cell? ⟨bv2.blk,k1,none⟩=some (.int .i64 (si:Nat)):=by
      have:=obs.cell nE_len hsi (o:=0) (by omega)
      simpa [nE] using this
     by_cases c1:si < c.length
     ·have c1':(si:Int) < c.length:=by omega
      have hsx:(si:Int) < xs.length:=by omega
      have o7:=h6.own
      simp (disch:=omega) [g85,g6,g7,g11,hc1,hl1,obs.idx,esc,cell_blk oba,hn,c1,c1',ort.idx,ezi,o7.idx]
      refine At.store (x:=zi) (Lcl.own.star hLt) h6 frE_len frE_one (by omega) rfl fun w8 h8=>?_
      simp [g6,g7,g11,hc1,hl1]
      refine ⟨by simp [g85],by simp [g6],by simp [g11],xs.set si zi,ys,by simp [hxl],hyl,⟨fun i hi hlt=>?_,fun j hj=>?_⟩,by simpa [g7] using h8⟩
      ·rw [getD_set (by omega)]
       rw [List.length_set] at hlt
       by_cases e:i=k1
       ·rw [e,esi,if_pos rfl,ezi2]
       ·rw [if_neg (hne i (by omega))]; exact hxs1 i (by omega) hlt
      ·rw [getD_set (by omega),if_neg (fun e=>hj k1 (by omega) (by rw [esi,e]))]
       exact hxs2 j fun i hi=>hj i (by omega)
     ·have c1':¬(si:Int) < c.length:=by omega
      simp (disch:=omega) [g85,g6,g7,g11,hc1,hl1,obs.idx,esc,cell_blk oba,hn,c1,c1']
      refine ⟨by simp [g6],by simp [g11],xs,ys,hxl,hyl,⟨fun i hi hlt=>?_,fun j hj=>hxs2 j fun i hi=>hj i (by omega)⟩,by simpa [g7] using h6⟩
      by_cases e:i=k1
      ·rw [e,esi] at hlt; omega
      ·exact hxs1 i (by omega) hlt
    clear h6 oba obs hxs
    rintro ρ1 w7 ⟨g85,g6,g11,xs,ys,hxl,hyl,hxr,h6⟩
    obtain ⟨yv,hyv⟩:∃yv,yv=ρ1 8:=⟨_,rfl⟩
    rw [←hyv] at h6
    have g8:=hyv.symm
    simp [g6,g8,g11,h6.drop.own.len]
    refine range_loop (n:=ys.length) (by omega) (fun k=>SxA1 w tb rb rw_ tv bv2 gv qs tl c.length rows.length (SxR tl tl.bas.length)) (by simp) (by simp)
     ⟨by simp [g6],by simp [g11],xs,ys,hxl,hyl,hxr,by simpa [g8] using h6⟩ (by decide) (fun _ _ _ _ h=>by simpa [SxA1] using h) (fun _ _ _ _ h=>by simpa [SxA1] using h) ?_ ?_
    ·clear h6 hxr g8
     rintro k1 ρ1 w8 hk1 hc1 hl1 ⟨g6,g11,xs,ys2,hxl,hyl2,hxr,h6⟩
     obtain ⟨yv,hyv⟩:∃yv,yv=ρ1 8:=⟨_,rfl⟩
     rw [←hyv] at h6
     have g8:=hyv.symm
     have oba:=TbA.obj h6.drop.drop
     unfold tbO at oba
     have ogl:=TbA.goal h6.drop.drop
     obtain ⟨zg,hzg⟩:∃zg,tl.goal[c.length+k1]? = some zg:=⟨_,List.getElem?_eq_getElem (by omega)⟩
     have ezg:=ogl.cells frE_len hzg
     simp only [frE] at ezg
     have hwr:IntKind.i64.wrap ((c.length:Int)+k1)=((c.length+k1:Nat):Int):=by
      rw [wrap_i64 (by omega) (by omega)]; omega
     have hgi:((c.length+k1:Nat):Int) < tl.goal.length:=by omega
     have hto:((c.length:Int)+k1).toNat=c.length+k1:=by omega
     simp (disch:=omega) [g6,g8,g11,hc1,hl1,cell_blk oba,hn,hwr,ogl.idx,hto,ezg]
     have hL6:Lcl (Star (OwnA (ρ1 7) 151 2 frE xs) (Star (OwnA yv 151 2 frE ys2) (TbA tb rw_ tv bv2 gv qs tl (Star (ObjA rb (frO (0,0))) Emp)))):=Lcl.own.star (Lcl.own.star hLt)
     refine st_fr0 (f:=zg) hL6 (h6.drew hL6) rfl fun w9 h9=>?_
     have hzm:frP zg=true:=htw.gp _ (by rw [List.mem_iff_getElem?]; exact ⟨_,hzg⟩)
     have hk1:(k1:Int) < ys2.length:=by omega
     obtain ⟨z,hz⟩:∃z,z=w8.heap.size:=⟨_,rfl⟩
     try rw [←hz] at h9
     have h10:=h9.drop.by Imp.sw
     have o10:=h10.own
     simp (disch:=omega) [←hz,g6,g8,g11,hc1,hl1,cell_blk h9.obj,o10.idx]
     refine At.store (x:=(IntKind.i64.wrap (-zg.1),zg.2)) (Lcl.own.star hLt) h10 frE_len frE_one (by omega) rfl fun w10 h11=>?_
     simp [g6,g8,g11,hc1,hl1]
     exact ⟨by simp [g6],by simp [g11],xs,ys2.set k1 (IntKind.i64.wrap (-zg.1),zg.2),hxl,by simp [hyl2],hxr,by simpa [g8] using h11.by Imp.sw⟩
    clear h6 hxr g8
    rintro ρ1 w8 ⟨g6,g11,xs,ys2,hxl,hyl2,hxr,h6⟩
    obtain ⟨xv,hxv⟩:∃xv,xv=ρ1 7:=⟨_,rfl⟩
    rw [←hxv] at h6
    have g7:=hxv.symm
    have oba:=TbA.obj h6.drop.drop
    have ev:=rd_val oba
    simp [g6,g7,g11,ev]
    have h7:At w [] (Star (ObjA rb (frO (0,0))) (Star (OwnA xv 151 2 frE xs) (Star (OwnA (ρ1 8) 151 2 frE ys2) (TbA tb rw_ tv bv2 gv qs tl Emp)))) w8:=h6.by (Imp.trans (Imp.un (Imp.un TbA.out)) Imp.fr3)
    refine st_fr (f:=(0,0)) (g:=tl.val) (Lcl.own.star (Lcl.own.star (TbA.lcl .emp))) h7 fun w9 h9=>?_
    simp [g6,g7,g11]
    refine postL_c4 ag_151 (by simp [g6]) h9.obj rfl rfl ?_
    refine ⟨_,rfl,?_⟩
    rw [←hrows]
    refine .inr ⟨tl.val,xv,ρ1 8,xs,by simp [frV,g7],sv_read hxl htw hxr hn hm hway hT0 hTt hend,h9.drop.by (Imp.un (Imp.dr.trans TbA.drp))⟩
  have nk:¬(kk:Int) < 0:=by omega
  have hkN:kk < tl.n+tl.m:=by omega
  simp [g6,g11,nk]
  refine cl_of (leaving_spec kk (TbA.rd h5 hq) htw hkN) ?_
  rintro _ w6 ⟨rfl | ⟨rr,rfl,hlv⟩,k6⟩
  ·have h6:=(h5.kp0 hLt k6).by (TbA.drp)
   simp [g6,g11,errV]
   refine st_fr (f:=(0,0)) (g:=(0,0)) .emp h6 fun w7 h7=>?_
   simp
   refine postL_c4 ag_151 (by simp [g6]) h7.obj rfl rfl ?_
   exact ⟨_,rfl,.inl ⟨by simp [frV,errV],h7.kp⟩⟩
  have h6:=h5.kp0 hLt k6
  rcases hlv with ⟨rfl,hnone⟩ | ⟨i,rfl,hi,hbs⟩
  ·exfalso
   refine hway.ray hT0 hX.nn (fun i hi=>hX.b0 i hi) hX.col (Nat.le_refl t) (c:=kk) (by omega) ?_ fun i hi=>?_
   ·rw [hTt]
    exact (rv_pos (getD_P htw.gp kk)).2 hpos
   ·have h7:=hnone i (by omega)
    unfold posB at h7
    simp only [decide_eq_false_iff_not] at h7
    have h8:¬0 < rv (tl.a i kk):=fun h=>h7 ((rv_pos (htw.aP i kk)).1 h)
    rw [hTt]
    show rv (tl.a i kk)≤0
    grind
  have hbl:=sv_bl htw hkN hpos hlt hi hbs
  have ni:¬(i:Int) < 0:=by omega
  have hpa:0 < (tl.a i kk).1:=by
   obtain ⟨i',e1,_,hpi⟩:=posI_mem hbs.1
   have:i'=i:=by omega
   subst this
   unfold posB at hpi
   simpa using hpi
  simp [g6,g11,ni]
  refine cl_of (pivot_spec i kk hLr h6 hq htw hi hkN hpa) ?_
  rintro _ w7 (⟨rfl,h7⟩ | ⟨rfl,qs',tl',row',hq',hpv,h7⟩)
  ·simp [g6,g11,errV]
   refine st_fr (f:=(0,0)) (g:=(0,0)) .emp h7 fun w8 h8=>?_
   simp
   refine postL_c4 ag_151 (by simp [g6]) h8.obj rfl rfl ?_
   exact ⟨_,rfl,.inl ⟨by simp [frV,errV],h8.kp⟩⟩
  obtain ⟨htw',htb⟩:=hpv.ok htw hi hkN rfl hpa
  rw [hn,hm,←hTt] at hbl
  obtain ⟨T',r',k',hway',hT0',hTt'⟩:=hway.ext hbl
  have hlen:=hway'.len
  simp [g6,g11]
  refine ⟨n - 1,by omega,by simp [g6],by simp [g11],rw_,tv,bv2,gv,qs',tl',T',r',k',t+1,by omega,hway',hT0'.trans hT0,by rw [hTt',hTt,htb],htw',hpv.n.trans hn,hpv.m.trans hm,hq',h7⟩
end Go.Proofs.YtolkjbmcindhjaaGreat
end
section
namespace Go.Proofs.YtolkjbmcindhjaaGreat
open Go Go.W Go.Tk Go.Rx Go.Maps
theorem pawake_spec {w:World} :
  Calls Tryz.prog 7 ([]:List Value).toArray w fun e w'=>∃x,e=.returned x∧x=.bool true∧Kp [] w w':=by
 refine enter Tryz.func7 mixed low7 (Nat.le_of_ble_eq_true rfl) ?_
 simp only [L7]
 have hr2:rowOf [Value.slice none 0 0,.int .i64 0] 2=[.slice none 0 0,.int .i64 0,.slice none 0 0,.int .i64 0]:=rfl
 obtain ⟨s,hs⟩:∃s,s=w.heap.size:=⟨_,rfl⟩
 have h0:At w [] Emp w:=At.start rfl
 have h1:=h0.lit (xs:=[4]) (enc:=nE) (E:=3) (sz:=1) (cs:=#[.int .i64 4]) (m:=1) .emp (by simp [nE]) nE_len (by simp [maxLen]) rfl
 have h2:=h1.lit (xs:=[0]) (enc:=nE) (E:=3) (sz:=1) (cs:=#[.int .i64 0]) (m:=1) (Lcl.own.star .emp) (by simp [nE]) nE_len (by simp [maxLen]) rfl
 have h3:=h2.lit (xs:=[0]) (enc:=nE) (E:=3) (sz:=1) (cs:=#[.int .i64 0]) (m:=1) (Lcl.own.star (Lcl.own.star .emp)) (by simp [nE]) nE_len (by simp [maxLen]) rfl
 have s1:(w.alloc (.cells #[.int .i64 4] 3)).heap.size=s+1:=by rw [hs]; simp
 have s2:((w.alloc (.cells #[.int .i64 4] 3)).alloc (.cells #[.int .i64 0] 3)).heap.size=s+1+1:=by rw [hs]; simp
 rw [s1,s2,←hs] at h3
 obtain ⟨w3,hw3⟩:∃w3,w3=((w.alloc (.cells #[.int .i64 4] 3)).alloc (.cells #[.int .i64 0] 3)).alloc (.cells #[.int .i64 0] 3):=⟨_,rfl⟩
 rw [←hw3] at h3
 obtain ⟨k0,hk0⟩:∃k0:Kt,k0=⟨⟨.slice (some ⟨s+1,0,none⟩) 1 1,rfl⟩,[0],0⟩:=⟨_,rfl⟩
 obtain ⟨k1,hk1⟩:∃k1:Kt,k1=⟨⟨.slice (some ⟨s+1+1,0,none⟩) 1 1,rfl⟩,[0],0⟩:=⟨_,rfl⟩
 have h4:=h3.lit (xs:=[k0,k1]) (enc:=ktE) (E:=63) (sz:=2) (cs:=#[.slice (some ⟨s+1,0,none⟩) 1 1,.int .i64 0,.slice (some ⟨s+1+1,0,none⟩) 1 1,.int .i64 0]) (m:=2) (Lcl.own.star (Lcl.own.star (Lcl.own.star .emp))) (by rw [hk0,hk1]; simp [ktE]) ktE_len (by simp [maxLen]) rfl
 obtain ⟨w4,hw4⟩:∃w4,w4=w3.alloc (.cells #[.slice (some ⟨s+1,0,none⟩) 1 1,.int .i64 0,.slice (some ⟨s+1+1,0,none⟩) 1 1,.int .i64 0] 63):=⟨_,rfl⟩
 obtain ⟨t,ht⟩:∃t,t=w3.heap.size:=⟨_,rfl⟩
 rw [←hw4,←ht] at h4
 have ht3:t=s+3:=by rw [ht,hw3,hs]; simp
 have hw4':w3.alloc (.cells #[.slice (some ⟨s+1,0,none⟩) 1 1,.int .i64 0,.slice (some ⟨s+1+1,0,none⟩) 1 1,.int .i64 0] 63 (0,0))=w4:=by rw [hw4]
 simp [←hs,←hw3,hr2,hw4',←ht]
 have hcv:Vw w4 (.slice (some ⟨s,0,none⟩) 1 1) nE [4]:=h4.drop.drop.drop.own.vw
 have hkr:KtR w4 (.slice (some ⟨t,0,none⟩) 2 2) [k0,k1]:=⟨h4.own.vw,fun k hk=>by
  simp at hk
  rcases hk with rfl | rfl
  ·rw [hk0]; exact h4.drop.drop.own.vw
  ·rw [hk1]; exact h4.drop.own.vw⟩
 have hkg:KtG [4] [k0,k1]:=by
  refine ⟨by simp,by simp,by simp,?_,?_,?_⟩ <;> rw [hk0,hk1] <;> simp
 refine cl_of (uniform_spec (.slice (some ⟨s,0,none⟩) 1 1) (.slice (some ⟨t,0,none⟩) 2 2) [4] [k0,k1] hcv hkr hkg) ?_
 rintro _ w5 ⟨u,rfl,h5⟩
 have hun:unF [4] [k0,k1]=[(2,1),(2,1)]:=by
  have hm:mnL [k0,k1] 0=2:=by rw [hk0,hk1]; rfl
  have hsh:shr [4] [k0,k1] 0=(2,1):=by unfold shr; rw [hm]; decide
  have:unF [4] [k0,k1]=[shr [4] [k0,k1] 0,shr [4] [k0,k1] 0]:=by
   unfold unF
   rw [hk0,hk1]
   rfl
  rw [this,hsh]
 rw [hun] at h5
 simp
 refine cl_of (paValue_spec u [(2,1),(2,1)] h5.own.vw (by simp) (by decide)) ?_
 rintro _ w6 ⟨rfl,k6⟩
 have hsum:frSum [(2,1),(2,1)] (0,1)=some (4,1):=by decide
 have hce:frCeil (4,1)=4:=by decide
 rw [hsum]
 simp [vlR,hce,(h5.own.kp k6 (by simp)).len]
 exact (h4.kp.trans h5.kp).trans k6
end Go.Proofs.YtolkjbmcindhjaaGreat
end
