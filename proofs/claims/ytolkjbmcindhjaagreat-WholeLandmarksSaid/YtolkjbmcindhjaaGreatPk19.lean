/-
  A part of the proof of this claim's statement (LdD, LdE): plain theorems; no conditions beyond those each names.
-/
import Derived.Test.YtolkjbmcindhjaaGreatPk18
set_option maxRecDepth 100000
set_option linter.unusedSimpArgs false
set_option linter.unusedVariables false
set_option linter.unusedSectionVars false
section
namespace Go.Proofs.YtolkjbmcindhjaaGreat
open Go Go.W Go.Tk Go.Rx Go.Maps Go.Sx
structure Tl where
 n:Nat
 m:Nat
 rows:List (List Fr)
 right:List Fr
 bas:List Nat
 goal:List Fr
 val:Fr
structure TlW (t:Tl):Prop where
 n24:t.n≤24
 m24:t.m≤24
 rl:t.rows.length=t.m
 tl:t.right.length=t.m
 bl:t.bas.length=t.m
 gl:t.goal.length=t.n+t.m
 rw_:∀r ∈ t.rows,r.length=t.n+t.m∧∀x ∈ r,frP x=true
 tp:∀x ∈ t.right,frP x=true
 gp:∀x ∈ t.goal,frP x=true
 vp:frP t.val=true
 bb:∀x ∈ t.bas,x≤48
def Tl.a (t:Tl) (i j:Nat):Fr:=(t.rows.getD i []).getD j fr0
def Tl.tb (t:Tl):Tb where
 a i j:=rv (t.a i j)
 b i:=rv (t.right.getD i fr0)
 s i:=t.bas.getD i 0
 c j:=rv (t.goal.getD j fr0)
 z:=rv t.val
def tbO (t:Tl) (rw_ tv bv gv:Value):Obj:=.cells #[.int .i64 (t.n:Nat),.int .i64 (t.m:Nat),rw_,tv,bv,gv,.int .i64 t.val.1,.int .i64 t.val.2] 301 (0,0)
structure TbR (w:World) (b:Nat) (rw_ tv bv gv:Value) (ps:List (Cell1 × List Fr)) (t:Tl):Prop where
 obj:w.heap[b]? = some (tbO t rw_ tv bv gv)
 rows:Vw w rw_ sv1 ps
 row:∀p ∈ ps,Vw w p.1.1 frE p.2
 right:Vw w tv frE t.right
 bas:Vw w bv nE t.bas
 goal:Vw w gv frE t.goal
 eq:ps.map (·.2)=t.rows
theorem TbR.kp {w w':World} {b:Nat} {rw_ tv bv gv:Value} {ps:List (Cell1 × List Fr)} {t:Tl} (h:TbR w b rw_ tv bv gv ps t) (k:Kp [] w w'):TbR w' b rw_ tv bv gv ps t :=
 ⟨k.blk h.obj (by simp),h.rows.kp0 k,fun p hp=>(h.row p hp).kp0 k,h.right.kp0 k,h.bas.kp0 k,h.goal.kp0 k,h.eq⟩
theorem ps_row {ps:List (Cell1 × List Fr)} {t:Tl} (he:ps.map (·.2)=t.rows) {i:Nat} {p:Cell1 × List Fr} (hp:ps[i]? = some p):t.rows[i]? = some p.2:=by
 rw [←he,List.getElem?_map,hp]
 rfl
theorem ps_len {ps:List (Cell1 × List Fr)} {t:Tl} (he:ps.map (·.2)=t.rows) (hw:TlW t):ps.length=t.m:=by
 rw [←hw.rl,←he,List.length_map]
theorem sv_cell {w:World} {v:Value} {ps:List (Cell1 × List Fr)} (h:Vw w v sv1 ps) {i:Nat} {p:Cell1 × List Fr} (hp:ps[i]? = some p):w.cell? (v.adr.add i)=some p.1.1 :=
 (show Vw w v (fun p=>[p.1.1]) ps from h).cell hp
theorem tl_at {t:Tl} {i k:Nat} (hw:TlW t) (hi:i < t.m) (hk:k < t.n+t.m):∃r x,t.rows[i]? = some r∧r[k]? = some x∧t.a i k=x∧frP x=true:=by
 obtain ⟨r,hr⟩:∃r,t.rows[i]? = some r:=⟨_,List.getElem?_eq_getElem (by rw [hw.rl]; exact hi)⟩
 have ⟨h1,h2⟩:=hw.rw_ r (List.mem_of_getElem? hr)
 obtain ⟨x,hx⟩:∃x,r[k]? = some x:=⟨_,List.getElem?_eq_getElem (by rw [h1]; exact hk)⟩
 exact ⟨r,x,hr,hx,by unfold Tl.a; rw [getD_of hr,getD_of hx],h2 x (List.mem_of_getElem? hx)⟩
def posB (t:Tl) (k i:Nat):Bool:=decide (0 < (t.a i k).1)
def posI (t:Tl) (k n:Nat):List Int:=((List.range n).filter (posB t k)).map Int.ofNat
theorem posI_succ {t:Tl} {k n:Nat}:posI t k (n+1)=if posB t k n=true then posI t k n ++ [(n:Int)] else posI t k n:=by
 unfold posI
 rw [List.range_succ,List.filter_append,List.map_append]
 by_cases h:posB t k n=true
 ·rw [if_pos h]; simp [h]
 ·rw [if_neg h]; simp [h]
theorem posI_len {t:Tl} {k n:Nat}:(posI t k n).length≤n:=by
 unfold posI
 rw [List.length_map]
 refine Nat.le_trans (List.length_filter_le _ _) ?_
 simp
theorem posI_mem {t:Tl} {k n:Nat} {x:Int} (h:x ∈ posI t k n):∃i:Nat,x=i∧i < n∧posB t k i=true:=by
 unfold posI at h
 obtain ⟨i,hi,rfl⟩:=List.mem_map.1 h
 have ⟨h1,h2⟩:=List.mem_filter.1 hi
 exact ⟨i,rfl,List.mem_range.1 h1,h2⟩
theorem mem_posI {t:Tl} {k n i:Nat} (h1:i < n) (h2:posB t k i=true):(i:Int) ∈ posI t k n:=List.mem_map.2 ⟨i,List.mem_filter.2 ⟨List.mem_range.2 h1,h2⟩,rfl⟩
def BsI (t:Tl) (k:Nat) (P:List Int) (i:Nat):Prop:=(i:Int) ∈ P∧∀j:Nat,(j:Int) ∈ P→t.tb.b i / t.tb.a i k < t.tb.b j / t.tb.a j k∨t.tb.b i / t.tb.a i k=t.tb.b j / t.tb.a j k∧t.tb.s i≤t.tb.s j
def LvR (t:Tl) (k:Nat) (r:Int):Prop:=(r=-1∧∀i,i < t.m→posB t k i=false)∨∃i:Nat,r=i∧i < t.m∧BsI t k (posI t k t.m) i
def LvP (t:Tl) (k:Nat) (w:World) (x:Value) (w':World):Prop:=(x=.tuple #[.int .i64 0,errV 5]∨∃r:Int,x=.tuple #[.int .i64 r,.nilIface]∧LvR t k r)∧Kp [] w w'
def LvI (w:World) (b:Nat) (rw_:Value) (t:Tl) (k n:Nat) (ρ:Env) (w':World):Prop :=
 ρ 0=.pointer (some ⟨b,0,none⟩)∧ρ 1=.int .i64 (k:Nat)∧ρ 19=rw_∧At w [] (Star (OwnA (ρ 6) 3 1 iE (posI t k n)) Emp) w'
def LvJ (w:World) (b lb:Nat) (lv:Value) (t:Tl) (k n:Nat) (ρ:Env) (w':World):Prop :=
 ρ 0=.pointer (some ⟨b,0,none⟩)∧ρ 1=.int .i64 (k:Nat)∧ρ 10=.pointer (some ⟨lb,0,none⟩)∧ρ 45=lv ∧
 ∃q,At w [] (Star (ObjA lb (frO q)) (Star (OwnA lv 3 1 iE (posI t k t.m)) Emp)) w'∧frP q=true ∧
  ((n=0∧ρ 9=.int .i64 (-1))∨∃i:Nat,ρ 9=.int .i64 (i:Nat)∧BsI t k ((posI t k t.m).take n) i∧rv q=t.tb.b i / t.tb.a i k)
set_option maxHeartbeats 4000000 in
theorem leaving_spec {w:World} {b:Nat} {rw_ tv bv gv:Value} {ps:List (Cell1 × List Fr)} {t:Tl} (k:Nat) (hT:TbR w b rw_ tv bv gv ps t) (hw:TlW t) (hk:k < t.n+t.m) :
  Calls Tryz.prog 193 [.pointer (some ⟨b,0,none⟩),.int .i64 (k:Nat)].toArray w fun e w'=>∃x,e=.returned x∧LvP t k w x w':=by
 refine enter Tryz.func193 mixed low193 (Nat.le_of_ble_eq_true rfl) ?_
 simp only [L193]
 have hm24:=hw.m24
 have hpl:=ps_len hT.eq hw
 have ob:=hT.obj
 unfold tbO at ob
 refine seq_cut (fun ρ w'=>ρ 0=.pointer (some ⟨b,0,none⟩)∧ρ 1=.int .i64 (k:Nat)∧w'=w) ?_ ?_
 ·simp
 rintro ρ w1 ⟨g0,g1,rfl⟩
 refine seq_cut (fun ρ w'=>ρ 0=.pointer (some ⟨b,0,none⟩)∧ρ 1=.int .i64 (k:Nat)∧ρ 6=.slice none 0 0∧w'=w1) ?_ ?_
 ·simp [g0,g1]
 clear g0 g1
 rintro ρ w2 ⟨g0,g1,g6,rfl⟩
 refine seq_cut (fun ρ w'=>ρ 0=.pointer (some ⟨b,0,none⟩)∧ρ 1=.int .i64 (k:Nat)∧At w2 [] (Star (OwnA (ρ 6) 3 1 iE (posI t k t.m)) Emp) w') ?_ ?_
 ·simp [g0,g1,g6,cell_blk ob,hT.rows.len]
  rw [hpl]
  refine range_loop (n:=t.m) (by omega) (LvI w2 b rw_ t k) (by simp) (by simp)
   ⟨by simp [g0],by simp [g1],by simp,by simpa [g6,posI] using At.nil (E:=3) (sz:=1) (enc:=iE) .emp (At.start rfl:At w2 [] Emp w2)⟩ (by decide) (fun _ _ _ _ h=>by simpa [LvI] using h) (fun _ _ _ _ h=>by simpa [LvI] using h) ?_ ?_
  rotate_left
  ·rintro ρ w3 ⟨g0,g1,g19,h3⟩
   simp only [thenK_nrm]
   exact ⟨g0,g1,h3⟩
  clear g0 g1 g6
  rintro i ρ w3 hi hci hli ⟨g0,g1,g19,h3⟩
  obtain ⟨r,x,hr,hx,hax,hxp⟩:=tl_at hw hi hk
  obtain ⟨p,hp⟩:∃p,ps[i]? = some p:=⟨_,List.getElem?_eq_getElem (by omega)⟩
  have hpr:p.2=r:=by have:=ps_row hT.eq hp; rw [hr] at this; exact (Option.some.inj this).symm
  have hT3:=hT.kp h3.kp
  have hrow:=hT3.row p (List.mem_of_getElem? hp)
  rw [hpr] at hrow
  have ecx:=hrow.cells frE_len hx
  simp only [frE] at ecx
  have hrl:=(hw.rw_ r (List.mem_of_getElem? hr)).1
  have hii:(i:Int) < ps.length:=by omega
  have hkk:(k:Int) < r.length:=by omega
  have hpos:posB t k i=decide (0 < x.1):=by unfold posB; rw [hax]
  have hil:=posI_len (t:=t) (k:=k) (n:=i)
  simp (disch:=omega) [g0,g1,g19,hci,hli,hT3.rows.idx,sv_cell hT3.rows hp,hrow.idx,ecx]
  refine cl_of (positive_spec x) ?_
  rintro _ w4 ⟨rfl,k4⟩
  have h4:=h3.kp0 (Lcl.own.star .emp) k4
  by_cases c1:0 < x.1
  ·simp [c1,g0,g1,g19,hci,hli]
   have q1:=h4.lit (xs:=[(i:Int)]) (enc:=iE) (E:=3) (sz:=1) (cs:=#[.int .i64 (i:Nat)]) (m:=1) (Lcl.own.star .emp) (by simp [iE]) iE_len (by simp [maxLen]) rfl
   refine At.appendV (Lcl.own.star .emp) (q1.by Imp.sw) q1.own.vw iE_len iE_one sl_22 (by simp; omega) (by simp; unfold maxLen; omega) fun v' w5 h5=>?_
   simp [g0,g1,g19,hci,hli]
   refine ⟨by simp [g0],by simp [g1],by simp [g19],?_⟩
   rw [posI_succ,hpos,if_pos (by simpa using c1)]
   simpa using h5.by (Imp.un Imp.dr)
  ·simp [c1,g0,g1,g19,hci,hli]
   refine ⟨by simp [g0],by simp [g1],by simp [g19],?_⟩
   rw [posI_succ,hpos,if_neg (by simpa using c1)]
   simpa using h4
 clear g0 g1 g6
 rintro ρ w3 ⟨g0,g1,h3⟩
 obtain ⟨lv,hlv⟩:∃lv,lv=ρ 6:=⟨_,rfl⟩
 rw [←hlv] at h3
 have g6:=hlv.symm
 have hil:=posI_len (t:=t) (k:=k) (n:=t.m)
 have ho3:=h3.own
 obtain ⟨P,hP⟩:∃P,P=posI t k t.m:=⟨_,rfl⟩
 by_cases c1:(posI t k t.m).length < 2
 ·have c1':((posI t k t.m).length:Int) < 2:=by omega
  have q1:=h3.lit (xs:=[(-1:Int)]) (enc:=iE) (E:=3) (sz:=1) (cs:=#[.int .i64 (-1)]) (m:=1) (Lcl.own.star .emp) (by simp [iE]) iE_len (by simp [maxLen]) rfl
  simp [g0,g1,g6,ho3.len,c1,c1']
  refine At.appendV (Lcl.own.star .emp) (q1.by Imp.sw) q1.own.vw iE_len iE_one sl_22 (by simp; omega) (by simp; unfold maxLen; omega) fun v' w5 h5=>?_
  have o5:=h5.own
  obtain ⟨z,hz⟩:∃z,(posI t k t.m ++ [(-1:Int)])[0]? = some z:=⟨_,List.getElem?_eq_getElem (by simp)⟩
  have ecz:=iE_cell o5.vw hz
  have hzl:(0:Int) < (posI t k t.m ++ [(-1:Int)]).length:=by simp
  simp (disch:=omega) [o5.vw.idx,ecz]
  refine ⟨.inr ⟨z,rfl,?_⟩,h5.kp⟩
  cases hl:posI t k t.m with
  | nil =>
   rw [hl] at hz
   simp at hz
   refine .inl ⟨hz.symm,fun i hi=>?_⟩
   cases hb:posB t k i with
   | false=>rfl
   | true =>
    have:=mem_posI (n:=t.m) hi hb
    rw [hl] at this
    cases this
  | cons y l =>
   rw [hl] at hz c1
   simp at hz
   have hl0:l=[]:=by
    cases l with
    | nil=>rfl
    | cons _ _=>simp at c1; omega
   subst hl0
   have hym:y ∈ posI t k t.m:=by rw [hl]; simp
   obtain ⟨i,rfl,hi,hb⟩:=posI_mem hym
   refine .inr ⟨i,hz.symm,hi,by rw [hl]; simp,fun j hj=>?_⟩
   rw [hl] at hj
   simp at hj
   have:j=i:=by omega
   subst this
   exact .inr ⟨rfl,Nat.le_refl _⟩
 have c1':¬((posI t k t.m).length:Int) < 2:=by omega
 simp [g0,g1,g6,ho3.len,c1,c1']
 refine cl_of zero_spec ?_
 rintro _ w4 ⟨rfl,k4⟩
 have h4:=h3.kp0 (Lcl.own.star .emp) k4
 obtain ⟨lb,hlb⟩:∃lb,lb=w4.heap.size:=⟨_,rfl⟩
 have hL1:Lcl (Star (OwnA lv 3 1 iE (posI t k t.m)) Emp):=Lcl.own.star .emp
 have hL2:∀q,Lcl (Star (ObjA lb (frO q)) (Star (OwnA lv 3 1 iE (posI t k t.m)) Emp)):=fun _=>Lcl.obj.star hL1
 simp [frV,←hlb]
 refine st_fr0 (f:=(0,1)) hL1 h4 hlb fun w5 h5=>?_
 have o5:=h5.drop.own
 simp [g0,g1,g6,o5.len]
 refine range_loop (n:=(posI t k t.m).length) (by omega) (LvJ w2 b lb lv t k) (by simp) (by simp)
  ⟨by simp [g0],by simp [g1],by simp [←hlb],by simp [g6],(0,1),h5,by decide,.inl ⟨rfl,by simp⟩⟩ (by decide) (fun _ _ _ _ h=>by simpa [LvJ] using h) (fun _ _ _ _ h=>by simpa [LvJ] using h) ?_ ?_
 rotate_left
 ·rintro ρ w6 ⟨g0,g1,g10,g45,q,h6,hq,⟨he,_⟩ | ⟨i,g9,hbs,_⟩⟩
  ·omega
  ·rw [List.take_length] at hbs
   obtain ⟨i',hi1,hi2,_⟩:=posI_mem hbs.1
   have:i'=i:=by omega
   subst this
   simp [g9]
   exact ⟨.inr ⟨_,rfl,.inr ⟨i',rfl,hi2,hbs⟩⟩,h6.kp⟩
 clear g0 g1 g6 h3 h4 h5 o5 ho3 k4
 rintro n ρ w6 hn hcn hln ⟨g0,g1,g10,g45,q,h6,hq,hcase⟩
 obtain ⟨z,hz⟩:∃z,(posI t k t.m)[n]? = some z:=⟨_,List.getElem?_eq_getElem hn⟩
 obtain ⟨i,rfl,hi,hb⟩:=posI_mem (List.mem_of_getElem? hz)
 have o6:=h6.drop.own
 have hT6:=hT.kp h6.kp
 have ob6:=hT6.obj
 unfold tbO at ob6
 obtain ⟨r,x,hr,hx,hax,hxp⟩:=tl_at hw hi hk
 obtain ⟨p,hp⟩:∃p,ps[i]? = some p:=⟨_,List.getElem?_eq_getElem (by omega)⟩
 have hpr:p.2=r:=by have:=ps_row hT.eq hp; rw [hr] at this; exact (Option.some.inj this).symm
 have hrow:=hT6.row p (List.mem_of_getElem? hp)
 rw [hpr] at hrow
 have ecx:=hrow.cells frE_len hx
 obtain ⟨y,hy⟩:∃y,t.right[i]? = some y:=⟨_,List.getElem?_eq_getElem (by rw [hw.tl]; exact hi)⟩
 have hyp:=hw.tp y (List.mem_of_getElem? hy)
 have ecy:=hT6.right.cells frE_len hy
 simp only [frE] at ecx ecy
 have hrl:=(hw.rw_ r (List.mem_of_getElem? hr)).1
 have htl:=hw.tl
 have hbl:=hw.bl
 have hni:(n:Int) < (posI t k t.m).length:=by omega
 have hii:(i:Int) < ps.length:=by omega
 have hit:(i:Int) < t.right.length:=by omega
 have hkk:(k:Int) < r.length:=by omega
 have hxpos:0 < x.1:=by
  unfold posB at hb
  rw [hax] at hb
  simpa using hb
 have hyb:t.tb.b i=rv y:=by show rv (t.right.getD i fr0)=_; rw [getD_of hy]
 have hxa:t.tb.a i k=rv x:=by show rv (t.a i k)=_; rw [hax]
 have tk:(posI t k t.m).take (n+1)=(posI t k t.m).take n ++ [(i:Int)]:=take_snoc hz
 have upd:∀q2,rv q2=t.tb.b i / t.tb.a i k→(n=0∨∃j:Nat,BsI t k ((posI t k t.m).take n) j∧rv q=t.tb.b j / t.tb.a j k∧(rv q2 < rv q∨(rv q2=rv q∧t.tb.s i < t.tb.s j)))→BsI t k ((posI t k t.m).take (n+1)) i:=fun q2 h1 h2=>by
  rw [tk]
  refine ⟨by simp,fun j hj=>?_⟩
  rcases List.mem_append.1 hj with hj | hj
  ·rcases h2 with h2 | ⟨l,hl,e1,h3⟩
   ·subst h2; simp at hj
   ·rw [←h1]
    rcases h3 with h3 | ⟨h3,h4⟩
    ·rcases hl.2 j hj with h5 | ⟨h5,_⟩
     ·exact .inl (by rw [e1] at h3; grind)
     ·exact .inl (by rw [e1] at h3; grind)
    ·rcases hl.2 j hj with h5 | ⟨h5,h6⟩
     ·exact .inl (by rw [e1] at h3; grind)
     ·exact .inr ⟨by rw [e1] at h3; grind,by omega⟩
  ·simp at hj
   have:j=i:=by omega
   subst this
   exact .inr ⟨rfl,Nat.le_refl _⟩
 have kee:∀q2 (j:Nat),rv q2=t.tb.b i / t.tb.a i k→BsI t k ((posI t k t.m).take n) j→rv q=t.tb.b j / t.tb.a j k→¬(rv q2 < rv q)→¬(rv q2=rv q∧t.tb.s i < t.tb.s j)→BsI t k ((posI t k t.m).take (n+1)) j:=fun q2 j h1 hl e1 h3 h4=>by
  rw [tk]
  refine ⟨List.mem_append_left _ hl.1,fun l hlm=>?_⟩
  rcases List.mem_append.1 hlm with hlm | hlm
  ·exact hl.2 l hlm
  ·simp at hlm
   have:l=i:=by omega
   subst this
   rw [←e1,←h1]
   by_cases g:rv q2=rv q
   ·exact .inr ⟨g.symm,by have:¬t.tb.s l < t.tb.s j:=fun g2=>h4 ⟨g,g2⟩; omega⟩
   ·exact .inl (by grind)
 simp (disch:=omega) [g0,g1,g10,g45,hcn,hln,o6.vw.idx,iE_cell o6.vw hz,cell_blk ob6,hT6.right.idx,ecy,hT6.rows.idx,sv_cell hT6.rows hp,hrow.idx,ecx]
 refine ⟨?_,?_⟩
 ·refine cl_of (div9_spec y x hyp hxp hxpos) ?_
  rintro _ w7 ⟨rfl,k7⟩
  have h7:=(h6.drew (hL2 q)).kp0 (hL2 q) k7
  obtain ⟨db,hdb⟩:∃db,db=w7.heap.size:=⟨_,rfl⟩
  cases hd:frDiv y x with
  | none =>
   simp [frR,frV,←hdb]
   refine st_fr0 (f:=(0,0)) (hL2 q) h7 hdb fun w8 h8=>?_
   simp [errV]
   exact ⟨.inl rfl,h8.kp⟩
  | some q2 =>
   obtain ⟨hq2,hv2⟩:=frDiv_rv hyp hxp hxpos hd
   have hv2':rv q2=t.tb.b i / t.tb.a i k:=by rw [hv2,hyb,hxa]
   simp [frR,frV,←hdb]
   refine st_fr0 (f:=q2) (hL2 q) h7 hdb fun w8 h8=>?_
   have r8:=rd_fr h8.obj
   have r8':=rd_fr h8.obj
   rw [hdb] at r8'
   simp [g10,r8,r8',rd_fr h8.drop.obj]
   refine cl_of (cmp9_spec q2 q hq2 hq) ?_
   rintro _ w9 ⟨rfl,k9⟩
   have h9:=(h8.kp0 (Lcl.obj.star (hL2 q)) k9).drew (Lcl.obj.star (hL2 q))
   have h9':=h8.kp0 (Lcl.obj.star (hL2 q)) k9
   have h99:=h9.drew (Lcl.obj.star (hL2 q))
   have hT9:=hT.kp h9'.kp
   have ob9:=hT9.obj
   unfold tbO at ob9
   have r9:=rd_fr h9'.obj
   have r9':=rd_fr h9'.obj
   rw [hdb] at r9'
   have z1:=frCmp_neg hq2 hq
   have z2:=frCmp_zero hq2 hq
   obtain ⟨cc,hcc⟩:∃cc,cc=frCmp q2 q:=⟨_,rfl⟩
   rw [←hcc] at z1 z2
   rcases hcase with ⟨rfl,g9⟩ | ⟨j,g9,hbj,hqj⟩
   ·simp [g0,g1,g9,g10,g45,hcn,hln,r9,r9',←hcc]
    refine st_fr (f:=q) (g:=q2) (Lcl.obj.star hL1) (by first | exact h9'.by Imp.sw | exact h9.by Imp.sw | exact h99.by Imp.sw) fun wa ha=>?_
    simp [g0,g1,g9,g10,g45,hcn,hln]
    exact ⟨by simp [g0],by simp [g1],by simp [g10],by simp [g45],q2,ha.by (Imp.un Imp.dr),hq2,.inr ⟨i,by simp,upd q2 hv2' (.inl rfl),hv2'⟩⟩
   ·obtain ⟨j',hj1,hjm,_⟩:=posI_mem (List.mem_of_mem_take hbj.1)
    have hjj:j'=j:=by omega
    subst hjj
    obtain ⟨si,hsi⟩:∃si,t.bas[i]? = some si:=⟨_,List.getElem?_eq_getElem (by omega)⟩
    obtain ⟨sj,hsj⟩:∃sj,t.bas[j']? = some sj:=⟨_,List.getElem?_eq_getElem (by omega)⟩
    have esi:t.tb.s i=si:=getD_of hsi
    have esj:t.tb.s j'=sj:=getD_of hsj
    have nj:¬((j':Int) < 0):=by omega
    have hib:(i:Int) < t.bas.length:=by omega
    have hjb:(j':Int) < t.bas.length:=by omega
    by_cases c1:cc < 0
    ·simp (disch:=omega) [g0,g1,g9,g10,g45,hcn,hln,r9,r9',←hcc,nj,c1]
     refine st_fr (f:=q) (g:=q2) (Lcl.obj.star hL1) (by first | exact h9'.by Imp.sw | exact h9.by Imp.sw | exact h99.by Imp.sw) fun wa ha=>?_
     simp [g0,g1,g9,g10,g45,hcn,hln]
     exact ⟨by simp [g0],by simp [g1],by simp [g10],by simp [g45],q2,ha.by (Imp.un Imp.dr),hq2,.inr ⟨i,by simp,upd q2 hv2' (.inr ⟨j',hbj,hqj,.inl (z1.1 c1)⟩),hv2'⟩⟩
    ·by_cases c2:cc=0
     ·have hcc0:frCmp q2 q=0:=by rw [←hcc]; exact c2
      by_cases c3:si < sj
      ·have c3':(si:Int) < sj:=by omega
       simp (disch:=omega) [g0,g1,g9,g10,g45,hcn,hln,r9,r9',hcc0,nj,cell_blk ob9,hT9.bas.idx,nE_cell hT9.bas hsi,nE_cell hT9.bas hsj,c3,c3']
       refine st_fr (f:=q) (g:=q2) (Lcl.obj.star hL1) (by first | exact h9'.by Imp.sw | exact h9.by Imp.sw | exact h99.by Imp.sw) fun wa ha=>?_
       simp [g0,g1,g9,g10,g45,hcn,hln]
       exact ⟨by simp [g0],by simp [g1],by simp [g10],by simp [g45],q2,ha.by (Imp.un Imp.dr),hq2,.inr ⟨i,by simp,upd q2 hv2' (.inr ⟨j',hbj,hqj,.inr ⟨z2.1 c2,by rw [esi,esj]; exact c3⟩⟩),hv2'⟩⟩
      ·have c3':¬(si:Int) < sj:=by omega
       simp (disch:=omega) [g0,g1,g9,g10,g45,hcn,hln,r9,r9',hcc0,nj,cell_blk ob9,hT9.bas.idx,nE_cell hT9.bas hsi,nE_cell hT9.bas hsj,c3,c3']
       exact ⟨by simp [g0],by simp [g1],by simp [g10],by simp [g45],q,by first | exact h9'.drop | exact h9.drop | exact h99.drop,hq,.inr ⟨j',by simp [g9],kee q2 j' hv2' hbj hqj (fun g=>c1 (z1.2 g)) (fun g=>c3 (by have:=g.2; rw [esi,esj] at this; exact this)),hqj⟩⟩
     ·have c2':(frCmp q2 q == 0)=false:=by rw [←hcc]; simp; exact c2
      have c1':¬frCmp q2 q < 0:=by rw [←hcc]; exact c1
      simp (disch:=omega) [g0,g1,g9,g10,g45,hcn,hln,r9,r9',nj,c1',c2']
      exact ⟨by simp [g0],by simp [g1],by simp [g10],by simp [g45],q,by first | exact h9'.drop | exact h9.drop | exact h99.drop,hq,.inr ⟨j',by simp [g9],kee q2 j' hv2' hbj hqj (fun g=>c1 (z1.2 g)) (fun g=>c2 (z2.2 g.1)),hqj⟩⟩
 ·obtain ⟨db,hdb⟩:∃db,db=w6.heap.size:=⟨_,rfl⟩
  have h7:=(h6.drew (hL2 q)).alloc (frO (0,0)) (hL2 q)
  have hdd:w6.drew.heap.size=db:=by rw [hdb]; rfl
  rw [hdd] at h7
  have hL3:∀r,Lcl (Star (ObjA db (frO r)) (Star (ObjA lb (frO q)) (Star (OwnA lv 3 1 iE (posI t k t.m)) Emp))):=fun r=>Lcl.obj.star (hL2 q)
  refine cl_of (div9_spec y x hyp hxp hxpos) ?_
  rintro _ w7 ⟨rfl,k7⟩
  have h7':At w2 [] (Star (ObjA db (frO (0,0))) (Star (ObjA lb (frO q)) (Star (OwnA lv 3 1 iE (posI t k t.m)) Emp))) w7:=h7.kp0 (hL3 (0,0)) k7
  rw [hdb] at h7'
  cases hd:frDiv y x with
  | none =>
   simp [frR,frV,hdd]
   refine st_fr (f:=(0,0)) (g:=(0,0)) (hL2 q) h7' fun w8 h8=>?_
   simp [errV]
   exact ⟨.inl rfl,h8.kp⟩
  | some q2 =>
   obtain ⟨hq2,hv2⟩:=frDiv_rv hyp hxp hxpos hd
   have hv2':rv q2=t.tb.b i / t.tb.a i k:=by rw [hv2,hyb,hxa]
   simp [frR,frV,hdd]
   refine st_fr (f:=(0,0)) (g:=q2) (hL2 q) h7' fun w8 h8=>?_
   have r8:=rd_fr h8.obj
   have r8':=rd_fr h8.obj
   rw [←hdb] at r8'
   simp [g10,r8,r8',rd_fr h8.drop.obj]
   refine cl_of (cmp9_spec q2 q hq2 hq) ?_
   rintro _ w9 ⟨rfl,k9⟩
   have h9:=(h8.kp0 (Lcl.obj.star (hL2 q)) k9).drew (Lcl.obj.star (hL2 q))
   have h9':=h8.kp0 (Lcl.obj.star (hL2 q)) k9
   have h99:=h9.drew (Lcl.obj.star (hL2 q))
   have hT9:=hT.kp h9'.kp
   have ob9:=hT9.obj
   unfold tbO at ob9
   have r9:=rd_fr h9'.obj
   have r9':=rd_fr h9'.obj
   rw [←hdb] at r9'
   have z1:=frCmp_neg hq2 hq
   have z2:=frCmp_zero hq2 hq
   obtain ⟨cc,hcc⟩:∃cc,cc=frCmp q2 q:=⟨_,rfl⟩
   rw [←hcc] at z1 z2
   rcases hcase with ⟨rfl,g9⟩ | ⟨j,g9,hbj,hqj⟩
   ·simp [g0,g1,g9,g10,g45,hcn,hln,r9,r9',←hcc]
    refine st_fr (f:=q) (g:=q2) (Lcl.obj.star hL1) (by first | exact h9'.by Imp.sw | exact h9.by Imp.sw | exact h99.by Imp.sw) fun wa ha=>?_
    simp [g0,g1,g9,g10,g45,hcn,hln]
    exact ⟨by simp [g0],by simp [g1],by simp [g10],by simp [g45],q2,ha.by (Imp.un Imp.dr),hq2,.inr ⟨i,by simp,upd q2 hv2' (.inl rfl),hv2'⟩⟩
   ·obtain ⟨j',hj1,hjm,_⟩:=posI_mem (List.mem_of_mem_take hbj.1)
    have hjj:j'=j:=by omega
    subst hjj
    obtain ⟨si,hsi⟩:∃si,t.bas[i]? = some si:=⟨_,List.getElem?_eq_getElem (by omega)⟩
    obtain ⟨sj,hsj⟩:∃sj,t.bas[j']? = some sj:=⟨_,List.getElem?_eq_getElem (by omega)⟩
    have esi:t.tb.s i=si:=getD_of hsi
    have esj:t.tb.s j'=sj:=getD_of hsj
    have nj:¬((j':Int) < 0):=by omega
    have hib:(i:Int) < t.bas.length:=by omega
    have hjb:(j':Int) < t.bas.length:=by omega
    by_cases c1:cc < 0
    ·simp (disch:=omega) [g0,g1,g9,g10,g45,hcn,hln,r9,r9',←hcc,nj,c1]
     refine st_fr (f:=q) (g:=q2) (Lcl.obj.star hL1) (by first | exact h9'.by Imp.sw | exact h9.by Imp.sw | exact h99.by Imp.sw) fun wa ha=>?_
     simp [g0,g1,g9,g10,g45,hcn,hln]
     exact ⟨by simp [g0],by simp [g1],by simp [g10],by simp [g45],q2,ha.by (Imp.un Imp.dr),hq2,.inr ⟨i,by simp,upd q2 hv2' (.inr ⟨j',hbj,hqj,.inl (z1.1 c1)⟩),hv2'⟩⟩
    ·by_cases c2:cc=0
     ·have hcc0:frCmp q2 q=0:=by rw [←hcc]; exact c2
      by_cases c3:si < sj
      ·have c3':(si:Int) < sj:=by omega
       simp (disch:=omega) [g0,g1,g9,g10,g45,hcn,hln,r9,r9',hcc0,nj,cell_blk ob9,hT9.bas.idx,nE_cell hT9.bas hsi,nE_cell hT9.bas hsj,c3,c3']
       refine st_fr (f:=q) (g:=q2) (Lcl.obj.star hL1) (by first | exact h9'.by Imp.sw | exact h9.by Imp.sw | exact h99.by Imp.sw) fun wa ha=>?_
       simp [g0,g1,g9,g10,g45,hcn,hln]
       exact ⟨by simp [g0],by simp [g1],by simp [g10],by simp [g45],q2,ha.by (Imp.un Imp.dr),hq2,.inr ⟨i,by simp,upd q2 hv2' (.inr ⟨j',hbj,hqj,.inr ⟨z2.1 c2,by rw [esi,esj]; exact c3⟩⟩),hv2'⟩⟩
      ·have c3':¬(si:Int) < sj:=by omega
       simp (disch:=omega) [g0,g1,g9,g10,g45,hcn,hln,r9,r9',hcc0,nj,cell_blk ob9,hT9.bas.idx,nE_cell hT9.bas hsi,nE_cell hT9.bas hsj,c3,c3']
       exact ⟨by simp [g0],by simp [g1],by simp [g10],by simp [g45],q,by first | exact h9'.drop | exact h9.drop | exact h99.drop,hq,.inr ⟨j',by simp [g9],kee q2 j' hv2' hbj hqj (fun g=>c1 (z1.2 g)) (fun g=>c3 (by have:=g.2; rw [esi,esj] at this; exact this)),hqj⟩⟩
     ·have c2':(frCmp q2 q == 0)=false:=by rw [←hcc]; simp; exact c2
      have c1':¬frCmp q2 q < 0:=by rw [←hcc]; exact c1
      simp (disch:=omega) [g0,g1,g9,g10,g45,hcn,hln,r9,r9',nj,c1',c2']
      exact ⟨by simp [g0],by simp [g1],by simp [g10],by simp [g45],q,by first | exact h9'.drop | exact h9.drop | exact h99.drop,hq,.inr ⟨j',by simp [g9],kee q2 j' hv2' hbj hqj (fun g=>c1 (z1.2 g)) (fun g=>c2 (z2.2 g.1)),hqj⟩⟩
end Go.Proofs.YtolkjbmcindhjaaGreat
end
section
namespace Go.Proofs.YtolkjbmcindhjaaGreat
open Go Go.W Go.Tk Go.Rx Go.Maps Go.Sx
structure DvR (row:List Fr) (x:Fr) (row':List Fr):Prop where
 len:row'.length=row.length
 at_:∀i,i < row.length→frDiv (row.getD i fr0) x=some (row'.getD i fr0)
structure PvR (t t':Tl) (r k:Nat) (x:Fr) (row':List Fr):Prop where
 n:t'.n=t.n
 m:t'.m=t.m
 rl:t'.rows.length=t.m
 rr:t'.rows.getD r []=row'
 rd:DvR (t.rows.getD r []) x row'
 re:∀i,i < t.m→i≠r→ElR (t.rows.getD i []) row' (t.a i k) (t'.rows.getD i [])
 tl:t'.right.length=t.m
 tr:frDiv (t.right.getD r fr0) x=some (t'.right.getD r fr0)
 te:∀i,i < t.m→i≠r→frLess (t.right.getD i fr0) (t.a i k) (t'.right.getD r fr0)=some (t'.right.getD i fr0)
 g:ElR t.goal row' (t.goal.getD k fr0) t'.goal
 v:∃z,frMul (t.goal.getD k fr0) (t'.right.getD r fr0)=some z∧frAdd t.val z=some t'.val
 bs:t'.bas=t.bas.set r k
theorem frP0:frP fr0=true:=by decide
theorem rv0:rv fr0=0:=rv_zero
theorem getD_P {l:List Fr} (h:∀x ∈ l,frP x=true) (i:Nat):frP (l.getD i fr0)=true:=by
 rw [List.getD_eq_getElem?_getD]
 cases hh:l[i]? with
 | none=>exact frP0
 | some x=>exact h x (List.mem_of_getElem? hh)
theorem getD_out {α:Type} {l:List α} {i:Nat} {d:α} (h:l.length≤i):l.getD i d=d:=by
 rw [List.getD_eq_getElem?_getD,List.getElem?_eq_none h]
 rfl
theorem TlW.rowP {t:Tl} (hw:TlW t) (i:Nat):∀x ∈ t.rows.getD i [],frP x=true:=by
 rw [List.getD_eq_getElem?_getD]
 cases hh:t.rows[i]? with
 | none=>intro x hx; cases hx
 | some r=>exact (hw.rw_ r (List.mem_of_getElem? hh)).2
theorem TlW.rowL {t:Tl} (hw:TlW t) {i:Nat} (hi:i < t.m):(t.rows.getD i []).length=t.n+t.m:=by
 rw [List.getD_eq_getElem?_getD,List.getElem?_eq_getElem (by rw [hw.rl]; exact hi)]
 exact (hw.rw_ _ (List.getElem_mem _)).1
theorem TlW.aP {t:Tl} (hw:TlW t) (i j:Nat):frP (t.a i j)=true:=getD_P (hw.rowP i) j
theorem DvR.out {row row':List Fr} {x:Fr} (h:DvR row x row') (hx:frP x=true) (hp:0 < x.1) (hr:∀y ∈ row,frP y=true) (j:Nat):frP (row'.getD j fr0)=true∧rv (row'.getD j fr0)=rv (row.getD j fr0) / rv x:=by
 by_cases hj:j < row.length
 ·exact frDiv_rv (getD_P hr j) hx hp (h.at_ j hj)
 ·rw [getD_out (l:=row') (by rw [h.len]; omega),getD_out (l:=row) (by omega),rv0]
  exact ⟨frP0,by grind⟩
theorem ElR.out {row piv row':List Fr} {f:Fr} (h:ElR row piv f row') (hl:piv.length=row.length) (hr:∀y ∈ row,frP y=true) (hp:∀j,frP (piv.getD j fr0)=true) (hf:frP f=true) (j:Nat):frP (row'.getD j fr0)=true∧rv (row'.getD j fr0)=rv (row.getD j fr0) - rv f * rv (piv.getD j fr0):=by
 by_cases hj:j < row.length
 ·exact frLess_rv (getD_P hr j) hf (hp j) (h.at_ j hj)
 ·rw [getD_out (l:=row) (by omega),getD_out (l:=row') (by rw [h.len]; omega),getD_out (l:=piv) (by omega),rv0]
  exact ⟨frP0,by grind⟩
theorem all_getD {l:List Fr} (h:∀j,frP (l.getD j fr0)=true):∀x ∈ l,frP x=true:=fun x hx=>by
 obtain ⟨i,hi⟩:=List.mem_iff_getElem?.1 hx
 have:=h i
 rw [getD_of hi] at this
 exact this
theorem PvR.ok {t t':Tl} {r k:Nat} {x:Fr} {row':List Fr} (h:PvR t t' r k x row') (hw:TlW t) (hr:r < t.m) (hk:k < t.n+t.m) (hx:t.a r k=x) (hp:0 < x.1):TlW t'∧t'.tb=t.tb.piv r k:=by
 have xP:frP x=true:=by rw [←hx]; exact hw.aP r k
 have d:=h.rd.out xP hp (hw.rowP r)
 have rlen:=hw.rowL hr
 have row'l:row'.length=t.n+t.m:=by rw [h.rd.len,rlen]
 have dP:∀j,frP (row'.getD j fr0)=true:=fun j=>(d j).1
 have e:=fun i (hi:i < t.m) (hne:i≠r)=>(h.re i hi hne).out (by rw [row'l,hw.rowL hi]) (hw.rowP i) dP (hw.aP i k)
 have rP:frP (t'.right.getD r fr0)=true∧rv (t'.right.getD r fr0)=rv (t.right.getD r fr0) / rv x:=frDiv_rv (getD_P hw.tp r) xP hp h.tr
 have te:=fun i (hi:i < t.m) (hne:i≠r)=>frLess_rv (getD_P hw.tp i) (hw.aP i k) rP.1 (h.te i hi hne)
 have g:=h.g.out (by rw [row'l,hw.gl]) hw.gp dP (getD_P hw.gp k)
 obtain ⟨z,hz1,hz2⟩:=h.v
 have zP:=frMul_rv (getD_P hw.gp k) rP.1 hz1
 have vP:=frAdd_rv hw.vp zP.1 hz2
 have hbl:r < t.bas.length:=by rw [hw.bl]; exact hr
 have rows':∀i,i < t.m→(t'.rows.getD i []).length=t.n+t.m∧∀j,frP ((t'.rows.getD i []).getD j fr0)=true:=fun i hi=>by
  by_cases e1:i=r
  ·subst e1
   rw [h.rr]
   exact ⟨row'l,dP⟩
  ·exact ⟨by rw [(h.re i hi e1).len,hw.rowL hi],fun j=>(e i hi e1 j).1⟩
 refine ⟨⟨by rw [h.n]; exact hw.n24,by rw [h.m]; exact hw.m24,by rw [h.rl,h.m],by rw [h.tl,h.m],by rw [h.bs,List.length_set,hw.bl,h.m],by rw [h.g.len,hw.gl,h.n,h.m],fun rw_ hrw=>?_,all_getD fun i=>?_,all_getD fun j=>(g j).1,vP.1,fun y hy=>?_⟩,?_⟩
 ·obtain ⟨i,hi⟩:=List.mem_iff_getElem?.1 hrw
  have hil:=(List.getElem?_eq_some_iff.1 hi).1
  rw [h.rl] at hil
  have:=rows' i hil
  rw [getD_of hi] at this
  rw [h.n,h.m]
  exact ⟨this.1,all_getD this.2⟩
 ·by_cases hi:i < t.m
  ·by_cases e1:i=r
   ·subst e1; exact rP.1
   ·exact (te i hi e1).1
  ·rw [getD_out (by rw [h.tl]; omega)]
   exact frP0
 ·rw [h.bs] at hy
  rcases List.mem_or_eq_of_mem_set hy with hy | rfl
  ·exact hw.bb y hy
  ·have:=hw.n24; have:=hw.m24; omega
 ·have ea:∀i j,rv (t'.a i j)=(t.tb.piv r k).a i j:=fun i j=>by
   show rv ((t'.rows.getD i []).getD j fr0)=if i=r then rv (t.a r j) / rv (t.a r k) else rv (t.a i j) - rv (t.a i k) * (rv (t.a r j) / rv (t.a r k))
   rw [hx]
   by_cases e1:i=r
   ·subst e1
    rw [if_pos rfl,h.rr]
    exact (d j).2
   ·rw [if_neg e1]
    by_cases hi:i < t.m
    ·rw [(e i hi e1 j).2,(d j).2]
     rfl
    ·have z1:∀j,t.a i j=fr0:=fun j=>by
      unfold Tl.a
      rw [getD_out (l:=t.rows) (by rw [hw.rl]; omega)]
      rfl
     rw [getD_out (l:=t'.rows) (by rw [h.rl]; omega),z1,z1]
     show rv fr0=_
     rw [rv0]
     grind
  have eb:∀i,rv (t'.right.getD i fr0)=(t.tb.piv r k).b i:=fun i=>by
   show _=if i=r then rv (t.right.getD r fr0) / rv (t.a r k) else rv (t.right.getD i fr0) - rv (t.a i k) * (rv (t.right.getD r fr0) / rv (t.a r k))
   rw [hx]
   by_cases e1:i=r
   ·subst e1
    rw [if_pos rfl]
    exact rP.2
   ·rw [if_neg e1]
    by_cases hi:i < t.m
    ·rw [(te i hi e1).2,rP.2]
    ·have z1:t.a i k=fr0:=by
      unfold Tl.a
      rw [getD_out (l:=t.rows) (by rw [hw.rl]; omega)]
      rfl
     rw [getD_out (l:=t'.right) (by rw [h.tl]; omega),getD_out (l:=t.right) (by rw [hw.tl]; omega),z1,rv0]
     grind
  have es:∀i,t'.bas.getD i 0=(t.tb.piv r k).s i:=fun i=>by
   show _=if i=r then k else t.bas.getD i 0
   rw [h.bs,getD_set hbl]
  have ec:∀j,rv (t'.goal.getD j fr0)=(t.tb.piv r k).c j:=fun j=>by
   show _=rv (t.goal.getD j fr0) - rv (t.goal.getD k fr0) * (rv (t.a r j) / rv (t.a r k))
   rw [(g j).2,(d j).2,hx]
   rfl
  have ez:rv t'.val=(t.tb.piv r k).z:=by
   show _=rv t.val+rv (t.goal.getD k fr0) * (rv (t.right.getD r fr0) / rv (t.a r k))
   rw [vP.2,zP.2,rP.2,hx]
  show Tb.mk _ _ _ _ _=Tb.mk _ _ _ _ _
  congr 1
  ·funext i j; exact ea i j
  ·funext i; exact eb i
  ·funext i; exact es i
  ·funext j; exact ec j
def TbX (b:Nat) (rw_ tv bv gv:Value) (t:Tl) (B:Asr):Asr:=Star (ObjA b (tbO t rw_ tv bv gv)) (Star (OwnA tv 151 2 frE t.right) (Star (OwnA bv 3 1 nE t.bas) (Star (OwnA gv 151 2 frE t.goal) B)))
theorem TbX.lcl {b:Nat} {rw_ tv bv gv:Value} {t:Tl} {B:Asr} (hB:Lcl B):Lcl (TbX b rw_ tv bv gv t B):=Lcl.obj.star (Lcl.own.star (Lcl.own.star (Lcl.own.star hB)))
def TbA (b:Nat) (rw_ tv bv gv:Value) (ps:List (Cell1 × List Fr)) (t:Tl) (B:Asr):Asr:=Star (TabS rw_ 88 151 2 frE ps) (TbX b rw_ tv bv gv t B)
theorem TbA.lcl {b:Nat} {rw_ tv bv gv:Value} {ps:List (Cell1 × List Fr)} {t:Tl} {B:Asr} (hB:Lcl B):Lcl (TbA b rw_ tv bv gv ps t B):=Lcl.tabS.star (TbX.lcl hB)
theorem TbA.rd {w w1:World} {F:List Nat} {b:Nat} {rw_ tv bv gv:Value} {ps:List (Cell1 × List Fr)} {t:Tl} {B:Asr} (h:At w F (TbA b rw_ tv bv gv ps t B) w1) (he:ps.map (·.2)=t.rows):TbR w1 b rw_ tv bv gv ps t:=by
 unfold TbA TbX at h
 refine ⟨h.drop.obj,(TabS.own h).vw,fun p hp=>?_,h.drop.drop.own.vw,h.drop.drop.drop.own.vw,h.drop.drop.drop.drop.own.vw,he⟩
 obtain ⟨i,hi⟩:=List.mem_iff_getElem?.1 hp
 exact (TabS.row h hi).vw
theorem TabS.back {E2 E sz:Nat} {α:Type} {enc:α→List Value} {v:Value} {ps:List (Cell1 × List α)} {B:Asr} {i:Nat} {p:Cell1 × List α} {l:List α} (hi:ps[i]? = some p) :
  Imp (Star (OwnA p.1.1 E sz enc l) (Star (OwnA v E2 1 sv1 ps) (RowsA E sz enc (ps.eraseIdx i) B))) (Star (TabS v E2 E sz enc (ps.set i (p.1,l))) B):=by
 have hlt:i < ps.length:=(List.getElem?_eq_some_iff.1 hi).1
 exact (Imp.sw.trans ((Imp.un (RowsA.back ps i (p.1,l) hlt)).trans (OwnA.same (sv1_set ps hi l) (by simp)))).trans TabS.cls
theorem mem_erase {α:Type} {l:List α} {i r:Nat} {p:α} (h:l[r]? = some p) (hne:r≠i):p ∈ l.eraseIdx i:=List.mem_eraseIdx_iff_getElem?.2 ⟨r,hne,h⟩
end Go.Proofs.YtolkjbmcindhjaaGreat
end
