/-
  A part of the proof of this claim's statement (LdF, RxYM): plain theorems; no conditions beyond those each names.
-/
import Derived.Test.YtolkjbmcindhjaaGreatPk19
import Derived.Test.YtolkjbmcindhjaaGreatPk15
set_option maxRecDepth 100000
set_option linter.unusedSimpArgs false
set_option linter.unusedVariables false
set_option linter.unusedSectionVars false
section
namespace Go.Proofs.YtolkjbmcindhjaaGreat
open Go Go.W Go.Tk Go.Rx Go.Maps Go.Sx
section
variable {w w1:World} {F:List Nat} {B Z:Asr} {b:Nat} {rw_ tv bv gv:Value} {ps:List (Cell1 × List Fr)} {t:Tl} {KW:Kont World}
theorem TbA.obj (h:At w F (TbA b rw_ tv bv gv ps t B) w1):w1.heap[b]? = some (tbO t rw_ tv bv gv):=by
 unfold TbA TbX at h
 exact h.drop.obj
theorem TbA.right (h:At w F (TbA b rw_ tv bv gv ps t B) w1):Go.W.Own w1 tv 151 2 frE t.right:=by
 unfold TbA TbX at h
 exact h.drop.drop.own
theorem TbA.bas (h:At w F (TbA b rw_ tv bv gv ps t B) w1):Go.W.Own w1 bv 3 1 nE t.bas:=by
 unfold TbA TbX at h
 exact h.drop.drop.drop.own
theorem TbA.goal (h:At w F (TbA b rw_ tv bv gv ps t B) w1):Go.W.Own w1 gv 151 2 frE t.goal:=by
 unfold TbA TbX at h
 exact h.drop.drop.drop.drop.own
theorem TbA.rows (h:At w F (TbA b rw_ tv bv gv ps t B) w1):Go.W.Own w1 rw_ 88 1 sv1 ps:=TabS.own h
theorem TbA.rowc (h:At w F (TbA b rw_ tv bv gv ps t B) w1) {i:Nat} {p:Cell1 × List Fr} (hi:ps[i]? = some p):w1.cell? ⟨rw_.blk,i,none⟩=some p.1.1:=TabS.cell h hi
theorem TbA.row (h:At w F (TbA b rw_ tv bv gv ps t B) w1) {i:Nat} {p:Cell1 × List Fr} (hi:ps[i]? = some p):Go.W.Own w1 p.1.1 151 2 frE p.2:=TabS.row h hi
theorem TbX.drp:Imp (TbX b rw_ tv bv gv t B) B:=Imp.dr.trans (Imp.dr.trans (Imp.dr.trans Imp.dr))
theorem TbA.drp:Imp (TbA b rw_ tv bv gv ps t B) B:=Imp.dr.trans TbX.drp
theorem TbX.inn:Imp (Star Z (TbX b rw_ tv bv gv t B)) (TbX b rw_ tv bv gv t (Star Z B)):=Imp.bk5
theorem TbA.inn:Imp (Star Z (TbA b rw_ tv bv gv ps t B)) (TbA b rw_ tv bv gv ps t (Star Z B)):=Imp.sw.trans (Imp.un TbX.inn)
theorem TbX.imp {C:Asr} (h:Imp B C):Imp (TbX b rw_ tv bv gv t B) (TbX b rw_ tv bv gv t C):=Imp.un (Imp.un (Imp.un (Imp.un h)))
theorem TbA.imp {C:Asr} (h:Imp B C):Imp (TbA b rw_ tv bv gv ps t B) (TbA b rw_ tv bv gv ps t C):=Imp.un (TbX.imp h)
theorem TbA.stR (hB:Lcl B) (h:At w F (TbA b rw_ tv bv gv ps t B) w1) {i:Nat} {y:Fr} (hi:i < t.right.length) (H:∀w2,At w F (TbA b rw_ tv bv gv ps { t with right:=t.right.set i y } B) w2→KW.run w2) :
  @stJ w1 ⟨tv.blk,i * 2,none⟩ [.int .i64 y.1,.int .i64 y.2] KW:=by
 unfold TbA TbX at h
 refine At.store (x:=y) ?_ (h.by Imp.fr3) frE_len frE_one hi rfl fun w2 h2=>H w2 ?_
 ·exact Lcl.tabS.star (Lcl.obj.star (Lcl.own.star (Lcl.own.star hB)))
 ·unfold TbA TbX
  exact h2.by Imp.bk3
theorem TbA.stB (hB:Lcl B) (h:At w F (TbA b rw_ tv bv gv ps t B) w1) {i y:Nat} (hi:i < t.bas.length) (H:∀w2,At w F (TbA b rw_ tv bv gv ps { t with bas:=t.bas.set i y } B) w2→KW.run w2) :
  @stJ w1 ⟨bv.blk,i,none⟩ [.int .i64 (y:Nat)] KW:=by
 unfold TbA TbX at h
 refine At.store1 (x:=y) ?_ (h.by Imp.fr4) nE_len nE_one hi rfl fun w2 h2=>H w2 ?_
 ·exact Lcl.tabS.star (Lcl.obj.star (Lcl.own.star (Lcl.own.star hB)))
 ·unfold TbA TbX
  exact h2.by Imp.bk4
theorem TbA.stV (hB:Lcl B) (h:At w F (TbA b rw_ tv bv gv ps t B) w1) {y:Fr} (H:∀w2,At w F (TbA b rw_ tv bv gv ps { t with val:=y } B) w2→KW.run w2) :
  @stJ w1 ⟨b,6,none⟩ [.int .i64 y.1,.int .i64 y.2] KW:=by
 unfold TbA TbX tbO at h
 refine At.st (c:=#[.int .i64 (t.n:Nat),.int .i64 (t.m:Nat),rw_,tv,bv,gv,.int .i64 t.val.1,.int .i64 t.val.2]) ?_ (h.by Imp.sw) (by simp) (by simp) fun w2 h2=>H w2 ?_
 ·exact Lcl.tabS.star (Lcl.own.star (Lcl.own.star (Lcl.own.star hB)))
 ·unfold TbA TbX tbO
  have:=h2.by Imp.sw
  simpa using this
theorem TbA.take {i:Nat} {p:Cell1 × List Fr} (hi:ps[i]? = some p):Imp (TbA b rw_ tv bv gv ps t B) (Star (OwnA p.1.1 151 2 frE p.2) (Star (OwnA rw_ 88 1 sv1 ps) (RowsA 151 2 frE (ps.eraseIdx i) (TbX b rw_ tv bv gv t B)))):=TabS.take hi
theorem TbA.back {i:Nat} {p:Cell1 × List Fr} {l:List Fr} (hi:ps[i]? = some p):Imp (Star (OwnA p.1.1 151 2 frE l) (Star (OwnA rw_ 88 1 sv1 ps) (RowsA 151 2 frE (ps.eraseIdx i) (TbX b rw_ tv bv gv t B)))) (TbA b rw_ tv bv gv (ps.set i (p.1,l)) t B):=TabS.back hi
theorem TbA.rest {i:Nat}:Imp (Star (OwnA rw_ 88 1 sv1 ps) (RowsA 151 2 frE (ps.eraseIdx i) (TbX b rw_ tv bv gv t B))) B:=Imp.dr.trans ((RowsA.drop _).trans TbX.drp)
theorem TbA.rlcl {i:Nat} (hB:Lcl B):Lcl (Star (OwnA rw_ 88 1 sv1 ps) (RowsA 151 2 frE (ps.eraseIdx i) (TbX b rw_ tv bv gv t B))):=Lcl.own.star (Lcl.rows (TbX.lcl hB) _)
theorem TbA.gtake:Imp (TbA b rw_ tv bv gv ps t B) (Star (OwnA gv 151 2 frE t.goal) (Star (TabS rw_ 88 151 2 frE ps) (Star (ObjA b (tbO t rw_ tv bv gv)) (Star (OwnA tv 151 2 frE t.right) (Star (OwnA bv 3 1 nE t.bas) B))))):=Imp.fr5
theorem TbA.gback {g:List Fr}:Imp (Star (OwnA gv 151 2 frE g) (Star (TabS rw_ 88 151 2 frE ps) (Star (ObjA b (tbO t rw_ tv bv gv)) (Star (OwnA tv 151 2 frE t.right) (Star (OwnA bv 3 1 nE t.bas) B))))) (TbA b rw_ tv bv gv ps { t with goal:=g } B):=Imp.bk5
theorem TbA.out:Imp (TbA b rw_ tv bv gv ps t (Star Z B)) (Star Z (TbA b rw_ tv bv gv ps t B)):=Imp.fr6
theorem TbA.out2 {Y:Asr}:Imp (TbA b rw_ tv bv gv ps t (Star Y (Star Z B))) (Star Z (TbA b rw_ tv bv gv ps t (Star Y B))):=Imp.fr7
theorem rd_val {w:World} (h:w.heap[b]? = some (tbO t rw_ tv bv gv)):cellsAt w ⟨b,6,none⟩ 0 2=some [.int .i64 t.val.1,.int .i64 t.val.2]:=by
 unfold tbO at h
 simp [cellsAt,Addr.add,cell_blk h]
end
def PvP (b:Nat) (rw_ tv bv gv:Value) (t:Tl) (r k:Nat) (B:Asr) (w:World) (F:List Nat) (x:Value) (w':World):Prop :=
 (x=errV 5∧At w F B w')∨(x=.nilIface∧∃ps' t' row',ps'.map (·.2)=t'.rows∧PvR t t' r k (t.a r k) row'∧At w F (TbA b rw_ tv bv gv ps' t' B) w')
def PvI (w:World) (F:List Nat) (b r k pb:Nat) (rowv:Value) (row:List Fr) (x:Fr) (X:Asr) (n:Nat) (ρ:Env) (w':World):Prop :=
 ρ 0=.pointer (some ⟨b,0,none⟩)∧ρ 1=.int .i64 (r:Nat)∧ρ 2=.int .i64 (k:Nat)∧ρ 7=rowv∧ρ 8=.pointer (some ⟨pb,0,none⟩) ∧
 ∃row',row'.length=row.length∧(∀i,i < n→frDiv (row.getD i fr0) x=some (row'.getD i fr0))∧(∀i,n≤i→row'.getD i fr0=row.getD i fr0)∧At w F (Star (ObjA pb (frO x)) (Star (OwnA rowv 151 2 frE row') X)) w'
def PvJ (w:World) (F:List Nat) (b r k pb xb:Nat) (rw_ tv bv gv rowv:Value) (t:Tl) (x:Fr) (row':List Fr) (y':Fr) (B:Asr) (n:Nat) (ρ:Env) (w':World):Prop :=
 ρ 0=.pointer (some ⟨b,0,none⟩)∧ρ 1=.int .i64 (r:Nat)∧ρ 2=.int .i64 (k:Nat)∧ρ 7=rowv∧ρ 12=.pointer (some ⟨xb,0,none⟩) ∧
 ∃ps' rt,ps'.length=t.m∧rt.length=t.m∧(∃p,ps'[r]? = some p∧p.1.1=rowv∧p.2=row')∧rt.getD r fr0=y' ∧
  (∀i,i < t.m→i≠r→if i < n then ElR (t.rows.getD i []) row' (t.a i k) ((ps'.map (·.2)).getD i [])∧frLess (t.right.getD i fr0) (t.a i k) y'=some (rt.getD i fr0) else (ps'.map (·.2)).getD i []=t.rows.getD i []∧rt.getD i fr0=t.right.getD i fr0) ∧
  At w F (TbA b rw_ tv bv gv ps' { t with right:=rt } (Star (ObjA xb (frO y')) (Star (ObjA pb (frO x)) B))) w'
def PvC (w:World) (F:List Nat) (b r k pb:Nat) (rw_ tv bv gv rowv:Value) (ps1:List (Cell1 × List Fr)) (t:Tl) (x y:Fr) (B B1:Asr) (ρ:Env) (w':World):Prop :=
 ρ 0=.pointer (some ⟨b,0,none⟩)∧ρ 1=.int .i64 (r:Nat)∧ρ 2=.int .i64 (k:Nat)∧ρ 7=rowv∧ρ 8=.pointer (some ⟨pb,0,none⟩)∧∃xb,ρ 12=.pointer (some ⟨xb,0,none⟩)∧((ρ 13=errV 5∧At w F B w')∨∃y',ρ 13=.nilIface∧frDiv y x=some y'∧At w F (TbA b rw_ tv bv gv ps1 t (Star (ObjA xb (frO y')) B1)) w')
set_option maxHeartbeats 4000000 in
theorem pivot_spec {w w1:World} {F:List Nat} {B:Asr} {b:Nat} {rw_ tv bv gv:Value} {ps:List (Cell1 × List Fr)} {t:Tl} (r k:Nat) (hB:Lcl B) (h:At w F (TbA b rw_ tv bv gv ps t B) w1) (he:ps.map (·.2)=t.rows) (hw:TlW t) (hr:r < t.m) (hk:k < t.n+t.m) (hp:0 < (t.a r k).1) :
  Calls Tryz.prog 194 [.pointer (some ⟨b,0,none⟩),.int .i64 (r:Nat),.int .i64 (k:Nat)].toArray w1 fun e w'=>∃x,e=.returned x∧PvP b rw_ tv bv gv t r k B w F x w':=by
 refine enter Tryz.func194 mixed low194 (Nat.le_of_ble_eq_true rfl) ?_
 simp only [L194]
 have hm24:=hw.m24
 have hn24:=hw.n24
 have hpl:=ps_len he hw
 obtain ⟨row,x,hrow,hx,hax,hxP⟩:=tl_at hw hr hk
 obtain ⟨p,hpp⟩:∃p,ps[r]? = some p:=⟨_,List.getElem?_eq_getElem (by omega)⟩
 have hpr:p.2=row:=by have:=ps_row he hpp; rw [hrow] at this; exact (Option.some.inj this).symm
 have hrl:=(hw.rw_ row (List.mem_of_getElem? hrow)).1
 have hrP:=(hw.rw_ row (List.mem_of_getElem? hrow)).2
 have hgr:t.rows.getD r []=row:=getD_of hrow
 rw [hax] at hp
 have hT:=TbA.rd h he
 have ob:=hT.obj
 unfold tbO at ob
 have hri:(r:Int) < ps.length:=by omega
 have hki:(k:Int) < row.length:=by omega
 have hrowv:=hT.row p (List.mem_of_getElem? hpp)
 rw [hpr] at hrowv
 have ecx:=hrowv.cells frE_len hx
 simp only [frE] at ecx
 -- the row,its entry
 refine seq_cut (fun ρ w'=>ρ 0=.pointer (some ⟨b,0,none⟩)∧ρ 1=.int .i64 (r:Nat)∧ρ 2=.int .i64 (k:Nat)∧w'=w1) ?_ ?_
 ·simp
 rintro ρ w2 ⟨g0,g1,g2,rfl⟩
 refine seq_cut (fun ρ w'=>ρ 0=.pointer (some ⟨b,0,none⟩)∧ρ 1=.int .i64 (r:Nat)∧ρ 2=.int .i64 (k:Nat)∧ρ 7=p.1.1∧w'=w2) ?_ ?_
 ·simp (disch:=omega) [g0,g1,g2,cell_blk ob,hT.rows.idx,sv_cell hT.rows hpp]
 clear g0 g1 g2
 rintro ρ w3 ⟨g0,g1,g2,g7,rfl⟩
 obtain ⟨pb,hpb⟩:∃pb,pb=w3.heap.size:=⟨_,rfl⟩
 refine seq_cut (fun ρ w'=>ρ 0=.pointer (some ⟨b,0,none⟩)∧ρ 1=.int .i64 (r:Nat)∧ρ 2=.int .i64 (k:Nat)∧ρ 7=p.1.1∧ρ 8=.pointer (some ⟨pb,0,none⟩)∧At w F (Star (ObjA pb (frO x)) (TbA b rw_ tv bv gv ps t B)) w') ?_ ?_
 ·simp (disch:=omega) [g0,g1,g2,g7,hrowv.idx,ecx,←hpb]
  refine st_fr0 (f:=x) (TbA.lcl hB) h hpb fun w4 h4=>?_
  simp [g0,g1,g2,g7,←hpb]
  exact h4
 clear g0 g1 g2 g7 hrowv ecx hT ob
 rintro ρ w4 ⟨g0,g1,g2,g7,g8,h4⟩
 -- the row is divided
 obtain ⟨X,hX⟩:∃X,X=Star (OwnA rw_ 88 1 sv1 ps) (RowsA 151 2 frE (ps.eraseIdx r) (TbX b rw_ tv bv gv t B)):=⟨_,rfl⟩
 have hLX:Lcl X:=by rw [hX]; exact Lcl.own.star (Lcl.rows (TbX.lcl hB) _)
 have h5:At w F (Star (ObjA pb (frO x)) (Star (OwnA p.1.1 151 2 frE row) X)) w4:=by
  rw [hX,←hpr]
  exact h4.by (Imp.un (TabS.take hpp))
 have toB:∀{w' l c},At w F (Star (ObjA pb c) (Star (OwnA p.1.1 151 2 frE l) X)) w'→At w F B w':=fun {w' l c} h=>by
  rw [hX] at h
  unfold TbX at h
  exact ((h.drop.drop.drop.by (RowsA.drop _)).drop.drop.drop.drop)
 refine seq_cut (fun ρ w'=>ρ 0=.pointer (some ⟨b,0,none⟩)∧ρ 1=.int .i64 (r:Nat)∧ρ 2=.int .i64 (k:Nat)∧ρ 7=p.1.1∧ρ 8=.pointer (some ⟨pb,0,none⟩)∧∃row',DvR row x row'∧At w F (Star (ObjA pb (frO x)) (Star (OwnA p.1.1 151 2 frE row') X)) w') ?_ ?_
 ·have hL1:∀l,Lcl (Star (OwnA p.1.1 151 2 frE l) X):=fun l=>Lcl.own.star hLX
  have hL2:∀l,Lcl (Star (ObjA pb (frO x)) (Star (OwnA p.1.1 151 2 frE l) X)):=fun l=>Lcl.obj.star (hL1 l)
  simp [g0,g1,g2,g7,g8,h5.drop.own.len]
  refine range_loop (n:=row.length) (by omega) (PvI w F b r k pb p.1.1 row x X) (by simp) (by simp)
   ⟨by simp [g0],by simp [g1],by simp [g2],by simp [g7],by simp [g8],row,rfl,fun i hi=>absurd hi (by omega),fun _ _=>rfl,h5⟩ (by decide) (fun _ _ _ _ h=>by simpa [PvI] using h) (fun _ _ _ _ h=>by simpa [PvI] using h) ?_ ?_
  rotate_left
  ·rintro ρ w5 ⟨g0,g1,g2,g7,g8,row',hl',hd,_,h6⟩
   simp only [thenK_nrm]
   exact ⟨g0,g1,g2,g7,g8,row',⟨hl',hd⟩,h6⟩
  clear g0 g1 g2 g7 g8 h5 h4
  rintro n ρ w5 hn hcn hln ⟨g0,g1,g2,g7,g8,row',hl',hd,hrest,h6⟩
  obtain ⟨y,hy⟩:∃y,row[n]? = some y:=⟨_,List.getElem?_eq_getElem hn⟩
  have hyP:=hrP y (List.mem_of_getElem? hy)
  have hy':row'[n]? = some y:=by
   have:=hrest n (Nat.le_refl _)
   rw [getD_of hy,List.getD_eq_getElem?_getD,List.getElem?_eq_getElem (by omega)] at this
   rw [List.getElem?_eq_getElem (by omega)]
   exact congrArg some this
  have ho:=h6.drop.own
  have ey:=ho.cells frE_len hy'
  simp only [frE] at ey
  have hni:(n:Int) < row'.length:=by omega
  have rpb:=rd_fr h6.obj
  have fin:∀(q:Fr) (c:Nat) (w7:World),frDiv y x=some q→At w F (Star (ObjA c (frO q)) (Star (ObjA pb (frO x)) (Star (OwnA p.1.1 151 2 frE row') X))) w7→∀KW:Kont World,(∀w8,(∃row'',row''.length=row.length∧(∀i,i < n+1→frDiv (row.getD i fr0) x=some (row''.getD i fr0))∧(∀i,n+1≤i→row''.getD i fr0=row.getD i fr0)∧At w F (Star (ObjA pb (frO x)) (Star (OwnA p.1.1 151 2 frE row'') X)) w8)→KW.run w8)→@stJ w7 ⟨p.1.1.blk,n * 2,none⟩ [.int .i64 q.1,.int .i64 q.2] KW:=fun q c w7 hq h7 KW hK=>by
   refine At.store (x:=q) (Lcl.obj.star hLX) ((h7.by Imp.dr).by Imp.sw) frE_len frE_one (by omega) rfl fun w8 h8=>hK w8 ⟨row'.set n q,by simp [hl'],fun i hi=>?_,fun i hi=>?_,h8.by Imp.sw⟩
   ·rw [getD_set (by omega)]
    by_cases e:i=n
    ·rw [if_pos e,e,getD_of hy,hq]
    ·rw [if_neg e]; exact hd i (by omega)
   ·rw [getD_set (by omega),if_neg (by omega)]
    exact hrest i (by omega)
  simp (disch:=omega) [g0,g1,g2,g7,g8,hcn,hln,ho.idx,ey,rpb]
  refine ⟨?_,?_⟩
  ·refine cl_of (div9_spec y x hyP hxP hp) ?_
   rintro _ w6 ⟨rfl,k6⟩
   have h7:=(h6.drew (hL2 row')).kp0 (hL2 row') k6
   obtain ⟨c,hc'⟩:∃c,c=w6.heap.size:=⟨_,rfl⟩
   cases hq:frDiv y x with
   | none =>
    simp [frR,frV,←hc']
    refine st_fr0 (f:=(0,0)) (hL2 row') h7 hc' fun w7 h8=>?_
    simp [errV]
    exact .inl ⟨rfl,toB h8.drop⟩
   | some q =>
    simp [frR,frV,←hc']
    refine st_fr0 (f:=q) (hL2 row') h7 hc' fun w7 h8=>?_
    have r8:=rd_fr h8.obj
    have o8:=h8.drop.drop.own
    rw [hc'] at r8
    simp (disch:=omega) [g0,g1,g2,g7,g8,hcn,hln,o8.idx,r8]
    refine fin q c w7 hq h8 _ fun w8 h9=>?_
    simp [g0,g1,g2,g7,g8,hcn,hln]
    exact ⟨by simp [g0],by simp [g1],by simp [g2],by simp [g7],by simp [g8],h9⟩
  ·have hdd:w5.drew.heap.size=w5.heap.size:=rfl
   have h7:=(h6.drew (hL2 row')).alloc (frO (0,0)) (hL2 row')
   rw [hdd] at h7
   refine cl_of (div9_spec y x hyP hxP hp) ?_
   rintro _ w6 ⟨rfl,k6⟩
   have h7':At w F (Star (ObjA w5.heap.size (frO (0,0))) (Star (ObjA pb (frO x)) (Star (OwnA p.1.1 151 2 frE row') X))) w6:=h7.kp0 (Lcl.obj.star (hL2 row')) k6
   cases hq:frDiv y x with
   | none =>
    simp [frR,frV,hdd]
    refine st_fr (f:=(0,0)) (g:=(0,0)) (hL2 row') h7' fun w7 h8=>?_
    simp [errV]
    exact .inl ⟨rfl,toB h8.drop⟩
   | some q =>
    simp [frR,frV,hdd]
    refine st_fr (f:=(0,0)) (g:=q) (hL2 row') h7' fun w7 h8=>?_
    have r8:=rd_fr h8.obj
    have o8:=h8.drop.drop.own
    simp (disch:=omega) [g0,g1,g2,g7,g8,hcn,hln,o8.idx,r8,hdd]
    refine fin q _ w7 hq h8 _ fun w8 h9=>?_
    simp [g0,g1,g2,g7,g8,hcn,hln]
    exact ⟨by simp [g0],by simp [g1],by simp [g2],by simp [g7],by simp [g8],h9⟩
 clear g0 g1 g2 g7 g8 h5 h4
 rintro ρ w5 ⟨g0,g1,g2,g7,g8,row',hdv,h6⟩
 -- the row goes back
 have hsl:∀i,(ps.set r (p.1,row'))[i]? = if i=r then some (p.1,row') else ps[i]? := fun i=>by
  rw [List.getElem?_set]
  by_cases e:r=i
  ·subst e; simp; omega
  ·rw [if_neg e,if_neg (Ne.symm e)]
 obtain ⟨ps1,hps1⟩:∃ps1,ps1=ps.set r (p.1,row'):=⟨_,rfl⟩
 obtain ⟨B1,hB1⟩:∃B1,B1=Star (ObjA pb (frO x)) B:=⟨_,rfl⟩
 have hL1:Lcl B1:=by rw [hB1]; exact Lcl.obj.star hB
 have h7:At w F (TbA b rw_ tv bv gv ps1 t B1) w5:=by
  rw [hX] at h6
  rw [hps1,hB1]
  exact (h6.by (Imp.un (TbA.back hpp))).by TbA.inn
 have d1:∀{w'},At w F B1 w'→At w F B w':=fun h=>by rw [hB1] at h; exact h.drop
 clear h6
 -- the right-hand side of the row
 have ob7:=TbA.obj h7
 unfold tbO at ob7
 have o7:=TbA.right h7
 obtain ⟨y,hy⟩:∃y,t.right[r]? = some y:=⟨_,List.getElem?_eq_getElem (by rw [hw.tl]; exact hr)⟩
 have hyP:=hw.tp y (List.mem_of_getElem? hy)
 have ey:=o7.cells frE_len hy
 simp only [frE] at ey
 have rpb7:w5.heap[pb]? = some (frO x):=by rw [hB1] at h7; exact (h7.by TbA.drp).obj
 have htl:=hw.tl
 have hrt:(r:Int) < t.right.length:=by omega
 have hLT:Lcl (TbA b rw_ tv bv gv ps1 t B1):=TbA.lcl hL1
 refine seq_cut (PvC w F b r k pb rw_ tv bv gv p.1.1 ps1 t x y B B1) ?_ ?_
 ·simp (disch:=omega) [g0,g1,g2,g7,g8,cell_blk ob7,o7.idx,ey,rd_fr rpb7]
  refine ⟨?_,?_⟩
  ·refine cl_of (div9_spec y x hyP hxP hp) ?_
   rintro _ w6 ⟨rfl,k6⟩
   have h8:=(h7.drew hLT).kp0 hLT k6
   obtain ⟨c,hc'⟩:∃c,c=w6.heap.size:=⟨_,rfl⟩
   cases hq:frDiv y x with
   | none =>
    simp [frR,frV,←hc']
    refine st_fr0 (f:=(0,0)) hLT h8 hc' fun w7 h9=>?_
    simp [g0,g1,g2,g7,g8]
    exact ⟨by simp [g0],by simp [g1],by simp [g2],by simp [g7],by simp [g8],c,by simp [←hc'],.inl ⟨by simp [errV],d1 (h9.drop.by TbA.drp)⟩⟩
   | some q =>
    simp [frR,frV,←hc']
    refine st_fr0 (f:=q) hLT h8 hc' fun w7 h9=>?_
    simp [g0,g1,g2,g7,g8]
    exact ⟨by simp [g0],by simp [g1],by simp [g2],by simp [g7],by simp [g8],c,by simp [←hc'],.inr ⟨q,by simp,hq,h9.by TbA.inn⟩⟩
  ·have hdd:w5.drew.heap.size=w5.heap.size:=rfl
   have h8:=(h7.drew hLT).alloc (frO (0,0)) hLT
   rw [hdd] at h8
   refine cl_of (div9_spec y x hyP hxP hp) ?_
   rintro _ w6 ⟨rfl,k6⟩
   have h8':At w F (Star (ObjA w5.heap.size (frO (0,0))) (TbA b rw_ tv bv gv ps1 t B1)) w6:=h8.kp0 (Lcl.obj.star hLT) k6
   cases hq:frDiv y x with
   | none =>
    simp [frR,frV,hdd]
    refine st_fr (f:=(0,0)) (g:=(0,0)) hLT h8' fun w7 h9=>?_
    simp [g0,g1,g2,g7,g8]
    exact ⟨by simp [g0],by simp [g1],by simp [g2],by simp [g7],by simp [g8],w5.heap.size,by simp [hdd],.inl ⟨by simp [errV],d1 (h9.drop.by TbA.drp)⟩⟩
   | some q =>
    simp [frR,frV,hdd]
    refine st_fr (f:=(0,0)) (g:=q) hLT h8' fun w7 h9=>?_
    simp [g0,g1,g2,g7,g8]
    exact ⟨by simp [g0],by simp [g1],by simp [g2],by simp [g7],by simp [g8],w5.heap.size,by simp [hdd],.inr ⟨q,by simp,hq,h9.by TbA.inn⟩⟩
 clear g0 g1 g2 g7 g8 ob7 o7 ey rpb7
 rintro ρ w6 ⟨g0,g1,g2,g7,g8,xb,g12,⟨g13,h8⟩ | ⟨y',g13,hy',h8⟩⟩
 ·simp [g13,errV]
  exact .inl ⟨rfl,h8⟩
 obtain ⟨y'P,y'V⟩:=frDiv_rv hyP hxP hp hy'
 obtain ⟨B2,hB2⟩:∃B2,B2=Star (ObjA xb (frO y')) B1:=⟨_,rfl⟩
 have hL2:Lcl B2:=by rw [hB2]; exact Lcl.obj.star hL1
 rw [←hB2] at h8
 have d2:∀{w'},At w F B2 w'→At w F B w':=fun h=>by rw [hB2] at h; exact d1 h.drop
 have rxb:∀{w'},At w F B2 w'→w'.heap[xb]? = some (frO y'):=fun h=>by rw [hB2] at h; exact h.obj
 have hbl:=hw.bl
 refine seq_cut (fun ρ w'=>ρ 0=.pointer (some ⟨b,0,none⟩)∧ρ 1=.int .i64 (r:Nat)∧ρ 2=.int .i64 (k:Nat)∧ρ 7=p.1.1∧ρ 12=.pointer (some ⟨xb,0,none⟩)∧At w F (TbA b rw_ tv bv gv ps1 t B2) w') ?_ ?_
 ·simp [g0,g1,g2,g7,g8,g12,g13]
  exact h8
 clear g0 g1 g2 g7 g8 g12 g13 h8 h7
 rintro ρ w7 ⟨g0,g1,g2,g7,g12,h8⟩
 -- it is stored
 refine seq_cut (fun ρ w'=>ρ 0=.pointer (some ⟨b,0,none⟩)∧ρ 1=.int .i64 (r:Nat)∧ρ 2=.int .i64 (k:Nat)∧ρ 7=p.1.1∧ρ 12=.pointer (some ⟨xb,0,none⟩)∧At w F (TbA b rw_ tv bv gv ps1 { t with right:=t.right.set r y' } B2) w') ?_ ?_
 ·have ob8:=TbA.obj h8
  unfold tbO at ob8
  have o8:=TbA.right h8
  simp (disch:=omega) [g0,g1,g2,g7,g12,cell_blk ob8,o8.idx,rd_fr (rxb (h8.by TbA.drp))]
  refine TbA.stR (y:=y') hL2 (by first | exact h8 | exact h8.drew (TbA.lcl hL2)) (by omega) fun w8 h9=>?_
  simp [g0,g1,g2,g7,g12]
  exact h9
 clear g0 g1 g2 g7 g12 h8
 rintro ρ w8 ⟨g0,g1,g2,g7,g12,h9⟩
 have hps1l:ps1.length=t.m:=by rw [hps1,List.length_set,hpl]
 have hps1r:ps1[r]? = some (p.1,row'):=by rw [hps1,hsl,if_pos rfl]
 have hps1m:∀i,i≠r→(ps1.map (·.2)).getD i []=t.rows.getD i []:=fun i hi=>by
  rw [hps1,List.getD_eq_getElem?_getD,List.getD_eq_getElem?_getD,List.getElem?_map,hsl,if_neg hi,←he,List.getElem?_map]
 have row'l:row'.length=t.n+t.m:=by rw [hdv.len,hrl]
 have row'P:∀z ∈ row',frP z=true:=all_getD fun j=>(hdv.out hxP hp hrP j).1
 -- the other rows
 refine seq_cut (PvJ w F b r k pb xb rw_ tv bv gv p.1.1 t x row' y' B t.m) ?_ ?_
 ·have ob9:=TbA.obj h9
  unfold tbO at ob9
  have o9:=TbA.rows h9
  simp [g0,g1,g2,g7,g12,cell_blk ob9,o9.len]
  rw [hps1l]
  refine range_loop (n:=t.m) (by omega) (PvJ w F b r k pb xb rw_ tv bv gv p.1.1 t x row' y' B) (by simp) (by simp)
   ⟨by simp [g0],by simp [g1],by simp [g2],by simp [g7],by simp [g12],ps1,t.right.set r y',hps1l,by simp [htl],⟨_,hps1r,rfl,rfl⟩,by rw [getD_set (by omega),if_pos rfl],fun i hi hne=>?_,by rw [←hB1,←hB2]; exact h9⟩ (by decide) (fun _ _ _ _ h=>by simpa [PvJ] using h) (fun _ _ _ _ h=>by simpa [PvJ] using h) ?_ ?_
  ·rw [if_neg (by omega)]
   exact ⟨hps1m i hne,by rw [getD_set (by omega),if_neg hne]⟩
  rotate_left
  ·rintro ρ wa ha
   simp only [thenK_nrm]
   exact ha
  clear g0 g1 g2 g7 g12 h9 ob9 o9
  rintro n ρ w9 hn hcn hln ⟨g0,g1,g2,g7,g12,ps',rt,hpl',hrtl,⟨pr,hpr',hpr1,hpr2⟩,hry,hrest,ha⟩
  rw [←hB1,←hB2] at ha
  obtain ⟨tt,htt⟩:∃tt,tt={ t with right:=rt }:=⟨_,rfl⟩
  rw [←htt] at ha
  have ttr:tt.right=rt:=by rw [htt]
  by_cases hnr:n=r
  ·subst hnr
   simp [g0,g1,g2,g7,g12,hcn,hln]
   refine ⟨by simp [g0],by simp [g1],by simp [g2],by simp [g7],by simp [g12],ps',rt,hpl',hrtl,⟨pr,hpr',hpr1,hpr2⟩,hry,fun i hi hne=>?_,by rw [←hB1,←hB2,←htt]; exact ha⟩
   have h1:=hrest i hi hne
   by_cases c:i < n
   ·rw [if_pos (by omega)]; rw [if_pos c] at h1; exact h1
   ·rw [if_neg (by omega)]; rw [if_neg c] at h1; exact h1
  have hnb:((n:Int) == (r:Int))=false:=by simp; omega
  have hcur:=hrest n hn hnr
  rw [if_neg (Nat.lt_irrefl _)] at hcur
  obtain ⟨hcr,hct⟩:=hcur
  obtain ⟨pi,hpi⟩:∃pi,ps'[n]? = some pi:=⟨_,List.getElem?_eq_getElem (by omega)⟩
  obtain ⟨rowi,xi,hri,hxi,hai,hxiP⟩:=tl_at hw hn hk
  have hpi2:pi.2=rowi:=by
   rw [List.getD_eq_getElem?_getD,List.getElem?_map,hpi,getD_of hri] at hcr
   exact hcr
  have hril:=(hw.rw_ rowi (List.mem_of_getElem? hri)).1
  have hriP:=(hw.rw_ rowi (List.mem_of_getElem? hri)).2
  obtain ⟨zi,hzi⟩:∃zi,t.right[n]? = some zi:=⟨_,List.getElem?_eq_getElem (by omega)⟩
  have hziP:=hw.tp zi (List.mem_of_getElem? hzi)
  have hrtn:rt[n]? = some zi:=by
   rw [getD_of hzi,List.getD_eq_getElem?_getD,List.getElem?_eq_getElem (by omega)] at hct
   rw [List.getElem?_eq_getElem (by omega)]
   exact congrArg some hct
  have hrtr:rt[r]? = some y':=by
   rw [List.getD_eq_getElem?_getD,List.getElem?_eq_getElem (by omega)] at hry
   rw [List.getElem?_eq_getElem (by omega)]
   exact congrArg some hry
  have oba:=TbA.obj ha
  unfold tbO at oba
  have oa:=TbA.rows ha
  have ra:=TbA.row ha hpi
  rw [hpi2] at ra
  have exi:=ra.cells frE_len hxi
  simp only [frE] at exi
  have hni:(n:Int) < ps'.length:=by omega
  have hki2:(k:Int) < rowi.length:=by omega
  obtain ⟨fb,hfb⟩:∃fb,fb=w9.heap.size:=⟨_,rfl⟩
  simp (disch:=omega) [g0,g1,g2,g7,g12,hcn,hln,hnb,hnr,cell_blk oba,oa.idx,TbA.rowc ha hpi,ra.idx,exi,←hfb]
  refine st_fr0 (f:=xi) (TbA.lcl hL2) ha hfb fun wa hb=>?_
  replace hb:=hb.by TbA.inn
  obtain ⟨B3,hB3⟩:∃B3,B3=Star (ObjA fb (frO xi)) B2:=⟨_,rfl⟩
  have hL3:Lcl B3:=by rw [hB3]; exact Lcl.obj.star hL2
  rw [←hB3] at hb
  have d3:∀{w'},At w F B3 w'→At w F B2 w':=fun h=>by rw [hB3] at h; exact h.drop
  have rfb:∀{w'},At w F B3 w'→w'.heap[fb]? = some (frO xi):=fun h=>by rw [hB3] at h; exact h.obj
  have obb:=TbA.obj hb
  unfold tbO at obb
  have ob_:=TbA.rows hb
  have rfb1:=rd_fr (rfb (hb.by TbA.drp))
  have rfb2:=rfb1
  rw [hfb] at rfb2
  simp (disch:=omega) [g0,g1,g2,g7,g12,hcn,hln,cell_blk obb,ob_.idx,TbA.rowc hb hpi,rfb1,rfb2]
  have hbt:=hb.by (TbA.take hpi)
  rw [hpi2] at hbt
  have hprd:Rds (Star (OwnA rw_ 88 1 sv1 ps') (RowsA 151 2 frE (ps'.eraseIdx n) (TbX b rw_ tv bv gv tt B3))) fun w'=>Vw w' p.1.1 frE row':=by
   rw [←hpr1,←hpr2]
   exact Rds.star (Rds.rows (mem_erase hpr' (Ne.symm hnr)))
  refine cl_of (elim_spec pi.1.1 p.1.1 rowi row' xi (TbA.rlcl hL3) (by first | exact hbt | exact hbt.drew (Lcl.own.star (TbA.rlcl hL3))) hprd (by omega) (by omega) hriP row'P hxiP) ?_
  rintro _ wb ⟨rowi',hc',rfl | ⟨rfl,hel⟩⟩
  ·simp [errV]
   exact .inl ⟨rfl,d2 (d3 (hc'.drop.by TbA.rest))⟩
  replace hc':=hc'.by (TbA.back hpi)
  have obc:=TbA.obj hc'
  unfold tbO at obc
  have oc:=TbA.right hc'
  rw [ttr] at oc
  have ezi:=oc.cells frE_len hrtn
  have eyr:=oc.cells frE_len hrtr
  simp only [frE] at ezi eyr
  have rfc1:=rd_fr (rfb (hc'.by TbA.drp))
  have rfc2:=rfc1
  rw [hfb] at rfc2
  have hnt:(n:Int) < rt.length:=by omega
  have hrt2:(r:Int) < rt.length:=by omega
  have hLc:Lcl (TbA b rw_ tv bv gv (ps'.set n (pi.1,rowi')) tt B3):=TbA.lcl hL3
  have hps':∀i,(ps'.set n (pi.1,rowi'))[i]? = if i=n then some (pi.1,rowi') else ps'[i]? := fun i=>by
   rw [List.getElem?_set]
   by_cases e:n=i
   ·subst e; simp; omega
   ·rw [if_neg e,if_neg (Ne.symm e)]
  have nxt:∀(zi':Fr),frLess zi xi y'=some zi'→(∀i,i < t.m→i≠r→if i < n+1 then ElR (t.rows.getD i []) row' (t.a i k) (((ps'.set n (pi.1,rowi')).map (·.2)).getD i [])∧frLess (t.right.getD i fr0) (t.a i k) y'=some ((rt.set n zi').getD i fr0) else ((ps'.set n (pi.1,rowi')).map (·.2)).getD i []=t.rows.getD i []∧(rt.set n zi').getD i fr0=t.right.getD i fr0):=fun zi' hz i hi hne=>by
   have e1:((ps'.set n (pi.1,rowi')).map (·.2)).getD i []=if i=n then rowi' else (ps'.map (·.2)).getD i []:=by
    rw [List.getD_eq_getElem?_getD,List.getElem?_map,hps']
    by_cases e:i=n
    ·rw [if_pos e,if_pos e]; rfl
    ·rw [if_neg e,if_neg e,List.getD_eq_getElem?_getD,List.getElem?_map]
   rw [e1,getD_set (by omega)]
   by_cases e:i=n
   ·subst e
    rw [if_pos (by omega),if_pos rfl,if_pos rfl,getD_of hri,hai,getD_of hzi]
    exact ⟨hel,hz⟩
   ·rw [if_neg e,if_neg e]
    have h1:=hrest i hi hne
    by_cases c:i < n
    ·rw [if_pos (by omega)]; rw [if_pos c] at h1; exact h1
    ·rw [if_neg (by omega)]; rw [if_neg c] at h1; exact h1
  simp (disch:=omega) [g0,g1,g2,g7,g12,hcn,hln,cell_blk obc,oc.idx,ezi,eyr,rfc1,rfc2]
  refine ⟨?_,?_⟩ <;>
  ·refine cl_of (sxless_spec zi xi y' hziP hxiP y'P) ?_
   rintro _ wc ⟨rfl,kc⟩
   have hd:=(hc'.drew hLc).kp0 hLc kc
   have obd:=TbA.obj hd
   unfold tbO at obd
   have od:=TbA.right hd
   rw [ttr] at od
   cases hz:frLess zi xi y' with
   | none =>
    simp (disch:=omega) [frR,frV,cell_blk obd,od.idx]
    refine TbA.stR (y:=(0,0)) hL3 hd (by rw [ttr]; omega) fun wd he=>?_
    simp [errV]
    exact .inl ⟨rfl,d2 (d3 (he.by TbA.drp))⟩
   | some zi' =>
    simp (disch:=omega) [frR,frV,cell_blk obd,od.idx]
    refine TbA.stR (y:=zi') hL3 hd (by rw [ttr]; omega) fun wd he=>?_
    simp [g0,g1,g2,g7,g12,hcn,hln]
    refine ⟨by simp [g0],by simp [g1],by simp [g2],by simp [g7],by simp [g12],ps'.set n (pi.1,rowi'),rt.set n zi',by simp [hpl'],by simp [hrtl],⟨pr,by rw [hps',if_neg (Ne.symm hnr)]; exact hpr',hpr1,hpr2⟩,by rw [getD_set (by omega),if_neg (Ne.symm hnr)]; exact hry,nxt zi' hz,?_⟩
    rw [←hB1,←hB2]
    rw [htt] at he
    rw [hB3] at he
    exact he.by (TbA.imp Imp.dr)
 clear g0 g1 g2 g7 g12 h9
 rintro ρ wa ⟨g0,g1,g2,g7,g12,ps',rt,hpl',hrtl,⟨pr,hpr',hpr1,hpr2⟩,hry,hrest,ha⟩
 rw [←hB1,←hB2] at ha
 obtain ⟨tt,htt⟩:∃tt,tt={ t with right:=rt }:=⟨_,rfl⟩
 rw [←htt] at ha
 have ttr:tt.right=rt:=by rw [htt]
 have ttg:tt.goal=t.goal:=by rw [htt]
 have ttv:tt.val=t.val:=by rw [htt]
 have ttb:tt.bas=t.bas:=by rw [htt]
 have hgl:=hw.gl
 obtain ⟨gk,hgk⟩:∃gk,t.goal[k]? = some gk:=⟨_,List.getElem?_eq_getElem (by omega)⟩
 have hgkP:=hw.gp gk (List.mem_of_getElem? hgk)
 have hrtr:rt[r]? = some y':=by
  rw [List.getD_eq_getElem?_getD,List.getElem?_eq_getElem (by omega)] at hry
  rw [List.getElem?_eq_getElem (by omega)]
  exact congrArg some hry
 have oba:=TbA.obj ha
 unfold tbO at oba
 have oga:=TbA.goal ha
 rw [ttg] at oga
 have egk:=oga.cells frE_len hgk
 simp only [frE] at egk
 have hkg:(k:Int) < t.goal.length:=by omega
 obtain ⟨gb,hgb⟩:∃gb,gb=wa.heap.size:=⟨_,rfl⟩
 refine seq_cut (fun ρ w'=>ρ 0=.pointer (some ⟨b,0,none⟩)∧ρ 1=.int .i64 (r:Nat)∧ρ 2=.int .i64 (k:Nat)∧ρ 7=p.1.1∧ρ 12=.pointer (some ⟨xb,0,none⟩)∧ρ 17=.pointer (some ⟨gb,0,none⟩)∧At w F (TbA b rw_ tv bv gv ps' tt (Star (ObjA gb (frO gk)) B2)) w') ?_ ?_
 ·simp (disch:=omega) [g0,g1,g2,g7,g12,cell_blk oba,oga.idx,egk,←hgb]
  refine st_fr0 (f:=gk) (TbA.lcl hL2) ha hgb fun wb hb=>?_
  simp [g0,g1,g2,g7,g12,←hgb]
  exact hb.by TbA.inn
 clear g0 g1 g2 g7 g12 ha oba oga egk
 rintro ρ wb ⟨g0,g1,g2,g7,g12,g17,hb⟩
 obtain ⟨B3,hB3⟩:∃B3,B3=Star (ObjA gb (frO gk)) B2:=⟨_,rfl⟩
 have hL3:Lcl B3:=by rw [hB3]; exact Lcl.obj.star hL2
 rw [←hB3] at hb
 have d3:∀{w'},At w F B3 w'→At w F B2 w':=fun h=>by rw [hB3] at h; exact h.drop
 have rgb:∀{w'},At w F B3 w'→w'.heap[gb]? = some (frO gk):=fun h=>by rw [hB3] at h; exact h.obj
 have obb:=TbA.obj hb
 unfold tbO at obb
 have hbt:=hb.by TbA.gtake
 rw [ttg] at hbt
 have hLg:Lcl (Star (TabS rw_ 88 151 2 frE ps') (Star (ObjA b (tbO tt rw_ tv bv gv)) (Star (OwnA tv 151 2 frE tt.right) (Star (OwnA bv 3 1 nE tt.bas) B3)))):=Lcl.tabS.star (Lcl.obj.star (Lcl.own.star (Lcl.own.star hL3)))
 have hprd:Rds (Star (TabS rw_ 88 151 2 frE ps') (Star (ObjA b (tbO tt rw_ tv bv gv)) (Star (OwnA tv 151 2 frE tt.right) (Star (OwnA bv 3 1 nE tt.bas) B3)))) fun w'=>Vw w' p.1.1 frE row':=by
  rw [←hpr1,←hpr2]
  exact Rds.fst (Rds.star (Rds.rows (List.mem_of_getElem? hpr')))
 refine seq_cut (fun ρ w'=>ρ 0=.pointer (some ⟨b,0,none⟩)∧ρ 1=.int .i64 (r:Nat)∧ρ 2=.int .i64 (k:Nat)∧ρ 12=.pointer (some ⟨xb,0,none⟩)∧ρ 17=.pointer (some ⟨gb,0,none⟩)∧∃g',ElR t.goal row' gk g'∧At w F (TbA b rw_ tv bv gv ps' { tt with goal:=g' } B3) w') ?_ ?_
 ·simp (disch:=omega) [g0,g1,g2,g7,g12,g17,cell_blk obb,rd_fr (rgb (hb.by TbA.drp))]
  refine cl_of (elim_spec gv p.1.1 t.goal row' gk hLg (by first | exact hbt | exact hbt.drew (Lcl.own.star hLg)) hprd (by omega) (by omega) hw.gp row'P hgkP) ?_
  rintro _ wc ⟨g',hc',rfl | ⟨rfl,hel⟩⟩
  ·simp [errV]
   exact .inl ⟨rfl,d2 (d3 (hc'.drop.drop.drop.drop.drop))⟩
  ·simp [g0,g1,g2,g7,g12,g17]
   exact ⟨g',hel,hc'.by TbA.gback⟩
 clear g0 g1 g2 g7 g12 g17 hb hbt obb
 rintro ρ wc ⟨g0,g1,g2,g12,g17,g',hel,hc'⟩
 obtain ⟨t2,ht2⟩:∃t2,t2={ tt with goal:=g' }:=⟨_,rfl⟩
 rw [←ht2] at hc'
 have t2r:t2.right=rt:=by rw [ht2,ttr]
 have t2v:t2.val=t.val:=by rw [ht2]; exact ttv
 have t2b:t2.bas=t.bas:=by rw [ht2]; exact ttb
 have obc:=TbA.obj hc'
 unfold tbO at obc
 have oc:=TbA.right hc'
 rw [t2r] at oc
 have eyr:=oc.cells frE_len hrtr
 simp only [frE] at eyr
 have hrt2:(r:Int) < rt.length:=by omega
 have hLc:∀{t2:Tl} {C:Asr},Lcl C→Lcl (TbA b rw_ tv bv gv ps' t2 C):=fun h=>TbA.lcl h
 refine seq_cut (fun ρ w'=>ρ 0=.pointer (some ⟨b,0,none⟩)∧ρ 1=.int .i64 (r:Nat)∧ρ 2=.int .i64 (k:Nat)∧ρ 12=.pointer (some ⟨xb,0,none⟩)∧∃z,frMul gk y'=some z∧At w F (TbA b rw_ tv bv gv ps' t2 (Star (ObjA xb (frO z)) (Star (ObjA gb (frO gk)) B1))) w') ?_ ?_
 ·simp (disch:=omega) [g0,g1,g2,g12,g17,cell_blk obc,oc.idx,eyr,rd_fr (rgb (hc'.by TbA.drp))]
  refine cl_of (mul9_spec gk y' hgkP y'P) ?_
  rintro _ wd ⟨rfl,kd⟩
  have hd:=(hc'.drew (hLc hL3)).kp0 (hLc hL3) kd
  rw [hB3,hB2] at hd
  replace hd:=hd.by TbA.out2
  have hLd:Lcl (TbA b rw_ tv bv gv ps' t2 (Star (ObjA gb (frO gk)) B1)):=hLc (Lcl.obj.star hL1)
  cases hz:frMul gk y' with
  | none =>
   simp [frR,frV,g12]
   refine st_fr (f:=y') (g:=(0,0)) hLd hd fun we he=>?_
   simp [errV]
   exact .inl ⟨rfl,d1 ((he.drop.by TbA.drp).drop)⟩
  | some z =>
   simp [frR,frV,g12]
   refine st_fr (f:=y') (g:=z) hLd hd fun we he=>?_
   simp [g0,g1,g2,g12]
   exact he.by TbA.inn
 clear g0 g1 g2 g12 g17 hc' obc oc eyr
 rintro ρ wd ⟨g0,g1,g2,g12,z,hz,hd⟩
 obtain ⟨zP,zV⟩:=frMul_rv hgkP y'P hz
 obtain ⟨B4,hB4⟩:∃B4,B4=Star (ObjA xb (frO z)) (Star (ObjA gb (frO gk)) B1):=⟨_,rfl⟩
 have hL4:Lcl B4:=by rw [hB4]; exact Lcl.obj.star (Lcl.obj.star hL1)
 rw [←hB4] at hd
 have d4:∀{w'},At w F B4 w'→At w F B w':=fun h=>by rw [hB4] at h; exact d1 h.drop.drop
 have rxb4:wd.heap[xb]? = some (frO z):=by
  have:=hd.by TbA.drp
  rw [hB4] at this
  exact this.obj
 have obd:=TbA.obj hd
 have rvd:=rd_val obd
 unfold tbO at obd
 rw [t2v] at rvd
 refine seq_cut (fun ρ w'=>ρ 0=.pointer (some ⟨b,0,none⟩)∧ρ 1=.int .i64 (r:Nat)∧ρ 2=.int .i64 (k:Nat)∧∃v',frAdd t.val z=some v'∧At w F (TbA b rw_ tv bv gv ps' { t2 with val:=v' } B4) w') ?_ ?_
 ·simp (disch:=omega) [g0,g1,g2,g12,cell_blk obd,rvd,rd_fr rxb4]
  refine cl_of (add9_spec t.val z hw.vp zP) ?_
  rintro _ we ⟨rfl,ke⟩
  have he:=(hd.drew (hLc hL4)).kp0 (hLc hL4) ke
  cases hv:frAdd t.val z with
  | none =>
   simp [frR,frV,g0]
   refine TbA.stV (y:=(0,0)) hL4 he fun wf hf=>?_
   simp [errV]
   exact .inl ⟨rfl,d4 (hf.by TbA.drp)⟩
  | some v' =>
   simp [frR,frV,g0]
   refine TbA.stV (y:=v') hL4 he fun wf hf=>?_
   simp [g0,g1,g2]
   exact hf
 clear g0 g1 g2 g12 hd obd rvd rxb4
 rintro ρ we ⟨g0,g1,g2,v',hv',he'⟩
 have obe:=TbA.obj he'
 unfold tbO at obe
 have oe:=TbA.bas he'
 have hbb:({ t2 with val:=v' }:Tl).bas=t.bas:=t2b
 rw [hbb] at oe
 have hrb:(r:Int) < t.bas.length:=by omega
 simp (disch:=omega) [g0,g1,g2,cell_blk obe,oe.idx]
 refine TbA.stB (y:=k) hL4 he' (by rw [hbb]; omega) fun wf hf=>?_
 simp
 rw [ht2,htt] at hf
 refine .inr ⟨rfl,ps',⟨t.n,t.m,ps'.map (·.2),rt,t.bas.set r k,g',v'⟩,row',rfl,⟨rfl,rfl,by simp [hpl'],?_,?_,fun i hi hne=>?_,hrtl,?_,fun i hi hne=>?_,?_,⟨z,?_,hv'⟩,rfl⟩,?_⟩
 ·rw [List.getD_eq_getElem?_getD,List.getElem?_map,hpr']
  exact hpr2
 ·rw [hgr,hax]; exact hdv
 ·have:=hrest i hi hne
  rw [if_pos hi] at this
  exact this.1
 ·rw [getD_of hy,hax]
  show _=some (rt.getD r fr0)
  rw [hry]; exact hy'
 ·have:=hrest i hi hne
  rw [if_pos hi] at this
  show _=some (rt.getD i fr0)
  show frLess _ _ (rt.getD r fr0)=_
  rw [hry]; exact this.2
 ·rw [getD_of hgk]; exact hel
 ·show frMul (t.goal.getD k fr0) (rt.getD r fr0)=_
  rw [getD_of hgk,hry]; exact hz
 ·rw [hB4,hB1] at hf
  exact hf.by (TbA.imp (Imp.dr.trans (Imp.dr.trans Imp.dr)))
end Go.Proofs.YtolkjbmcindhjaaGreat
end
section
namespace Go.Rx
open Go Go.W Go.Tk
end Go.Rx
namespace Go.Proofs.YtolkjbmcindhjaaGreat
open Go Go.W Go.Tk Go.Rx Go.Maps
def hM (T:Nt) (vS:List Nat→Nat→Nat) (s:List Nat):Nat:=grF T.vars (vS s) T.goal
theorem apK_src {o:No} {s:List Nat} (v:Nat):∀k,k≤o.effs.length→(apK o s k).getD v 0=s.getD v 0∨∃(j:Nat) (e:Nf),o.effs[j]? = some e∧hdB s e.cnd=true∧e.v=v∧e.x=(apK o s k).getD v 0
 | 0,_=>.inl (by simp [apK])
 | k+1,hk=>by
  obtain ⟨e,he⟩:∃e,o.effs[k]? = some e:=⟨_,List.getElem?_eq_getElem (by omega)⟩
  rw [apK_succ he]
  split
  ·rename_i hc
   by_cases h:e.v=v
   ·by_cases hl:v < (apK o s k).length
    ·refine .inr ⟨k,e,he,hc,h,?_⟩
     rw [h,Go.Rx.getD_set_same hl]
    ·rw [List.set_eq_of_length_le (by rw [h]; omega)]
     exact apK_src v k (by omega)
   ·rw [Go.Rx.getD_set_ne h]
    exact apK_src v k (by omega)
  ·exact apK_src v k (by omega)
theorem hd_mem {vars s:List Nat} {l:List Fc} (h:hdB s l=true) (hr:∀f ∈ l,f.1 < vars.length):∀n ∈ l.map (numF vars),n ∈ stN vars s vars.length:=fun n hn=>by
 obtain ⟨f,hf,rfl⟩:=List.mem_map.1 hn
 unfold hdB at h
 have:=List.all_eq_true.1 h f hf
 simp only [decide_eq_true_eq] at this
 unfold stN
 exact List.mem_map.2 ⟨f.1,List.mem_range.2 (hr f hf),by unfold numF; rw [this]⟩
def hI (T:Nt) (vS:List Nat→Nat→Nat) (i:Nat):Nat:=match (stsK T.vars T.vars.length)[i]? with | some s=>hM T vS s | none=>0
end Go.Proofs.YtolkjbmcindhjaaGreat
end
