/-
  A part of the proof of this claim's statement (SyFA, SyFB, BdWH, SyBD): plain theorems; no conditions beyond those each names.
-/
import Derived.Test.YtcoeknnghfajnaaGreatPk23
import Derived.Test.YtcoeknnghfajnaaGreatPk29
import Derived.Test.YtcoeknnghfajnaaGreatPk08
import Derived.Test.YtcoeknnghfajnaaGreatPk10
import Derived.Test.YtcoeknnghfajnaaGreatPk24
import Derived.Test.YtcoeknnghfajnaaGreatPk16
set_option maxRecDepth 100000
set_option linter.unusedSimpArgs false
set_option linter.unusedVariables false
set_option linter.unusedSectionVars false
section
namespace Go.Proofs.YtcoeknnghfajnaaGreat
open Go Go.W Go.Tk Go.Rx Go.Bd Go.Sy Go.Maps
structure Ac where
 k:Nat
 a:Nat
 b:Nat
 pv:Cell1
 p:List Fa
def acE (c:Ac):List Value:=[.int .u8 (c.k:Nat),.int .u8 (c.a:Nat),.int .u8 (c.b:Nat),c.pv.1]
theorem acE_len (c:Ac):(acE c).length=4:=rfl
def acV (c:Ac):Value:=.agg #[.int .u8 (c.k:Nat),.int .u8 (c.a:Nat),.int .u8 (c.b:Nat),c.pv.1]
def acO (c:Ac):Obj:=.cells #[.int .u8 (c.k:Nat),.int .u8 (c.a:Nat),.int .u8 (c.b:Nat),c.pv.1] 50 (0,0)
def zpZ:Obj:=.cells #[.int .i64 0,.slice none 0 0] 53 (0,0)
def DoF (T:Nt) (lv:Value) (ps:List Pr) (pins:List (Nat × Obj)) (B:Asr):Asr:=Star (PinA pins) (PrsA T.vars lv ps B)
theorem DoF.lcl {T:Nt} {lv:Value} {ps:List Pr} {pins:List (Nat × Obj)} {B:Asr} (hB:Lcl B):Lcl (DoF T lv ps pins B):=Lcl.pin.star (PrsA.lcl hB)
section
variable {w w1:World} {F:List Nat} {B:Asr} {s m lim:Nat} {T T':Nt} {q:SpC} {ns:Ns} {ks:List (Nat × Bool)} {ss:List (Nat × Nat)} {lv:Value} {ps:List Pr} {pins:List (Nat × Obj)}
theorem SpcA.map {A:Asr} (h:Imp B A):Imp (SpcA s m lim T q ns ks ss B) (SpcA s m lim T q ns ks ss A):=by
 unfold SpcA
 exact Imp.un (Imp.un (Imp.un (Imp.un (Imp.un (Imp.un (Imp.un h))))))
theorem ZrP.congr {vars:List Nat} {P Q:List Nat→Bool} {w w':World} {v:Value} (h:ZrP vars P w v w') (e:∀s,StN vars s→P s=Q s):ZrP vars Q w v w':=by
 unfold ZrP at h ⊢
 rw [←stT_congr e]
 exact h
theorem do_st1 {Y:Asr} {ob x':Nat} {w6:World} {KW:Kont World} (hY:Lcl Y) (h:At w F (SpcA s m lim T' q ns ks ss (Star (ObjA ob zpZ) Y)) w6)
  (H:∀w7,At w F (SpcA s m lim T' q ns ks ss (Star (ObjA ob (.cells #[.int .i64 (x':Nat),.slice none 0 0] 53 (0,0))) Y)) w7→KW.run w7):@stJ w6 ⟨ob,0,none⟩ [.int .i64 (x':Nat)] KW:=by
 have h1:=SpcA.out h
 unfold zpZ at h1
 refine h1.st (SpcA.lcl hY) (by simp) (by simp) fun w7 h7=>H w7 (SpcA.into ?_)
 simpa using h7
theorem do_st2 {ob rb x':Nat} {w8 w9:World} {cv:Value} {P':List Nat→Bool} {KW:Kont World} (hB:Lcl B) (h:At w F (SpcA s m lim T' q ns ks ss (Star (ObjA ob (.cells #[.int .i64 (x':Nat),.slice none 0 0] 53 (0,0))) (Star (ObjA rb zpZ) (DoF T lv ps pins B)))) w8) (hz:ZrP T.vars P' w8 cv w9)
  (H:∀(c:Cell1) (w10:World),c.1=cv→At w F (SpcA s m lim T' q ns ks ss (Star (ObjA ob (zpO (x',c,P'))) (Star (ObjA rb zpZ) (Star (VwA c.1 bE (stT T.vars P')) (PrsA T.vars lv ps B))))) w10→KW.run w10):@stJ w9 ⟨ob,1,none⟩ [cv] KW:=by
 unfold ZrP at hz
 have hL:Lcl (SpcA s m lim T' q ns ks ss (Star (ObjA rb zpZ) (DoF T lv ps pins B))):=SpcA.lcl (Lcl.obj.star (DoF.lcl hB))
 have h1:=At.join (Lcl.obj.star hL) (SpcA.out h) hz
 have ho:=h1.own.o1
 have h2:=h1.rot
 refine h2.st (Lcl.own.star hL) (by simp) (by simp [ho]) fun w10 h3=>H ⟨cv,ho⟩ w10 rfl ?_
 have h4:At w F (Star (ObjA ob (zpO (x',⟨cv,ho⟩,P'))) (Star (OwnA cv 4 1 bE (stT T.vars P')) (SpcA s m lim T' q ns ks ss (Star (ObjA rb zpZ) (DoF T lv ps pins B))))) w10:=by simpa [zpO] using h3
 have h5:=SpcA.into ((h4.by (Imp.un Imp.ow)).by (Imp.un SpcA.intoI))
 unfold DoF at h5
 exact h5.by (SpcA.map (Imp.un (Imp.sw.trans (Imp.un (Imp.un Imp.dr)))))
structure DoR (T:Nt) (c:Ac) (x y:Pr) (tb ab xb yb:Nat) (w':World):Prop where
 ot:w'.heap[tb]? = some (ntO T)
 oa:w'.heap[ab]? = some (acO c)
 ox:w'.heap[xb]? = some (zpO x)
 oy:w'.heap[yb]? = some (zpO y)
 nt:NtR w' T
 pv:Vw w' c.pv.1 faE c.p
 vx:Vw w' x.2.1.1 bE (stT T.vars x.2.2)
 vy:Vw w' y.2.1.1 bE (stT T.vars y.2.2)
theorem DoR.of {o1 o2:Obj} {b1 b2:Nat} {c:Ac} {x y:Pr} {tb ab xb yb:Nat} {w6:World} (h:At w F (SpcA s m lim T' q ns ks ss (Star (ObjA b1 o1) (Star (ObjA b2 o2) (DoF T lv ps [(yb,zpO y),(xb,zpO x),(ab,acO c),(tb,ntO T)] B)))) w6) (hr:Rds B fun w'=>NtR w' T) (hp:Rds B fun w'=>Vw w' c.pv.1 faE c.p) (hx:x ∈ ps) (hy:y ∈ ps):DoR T c x y tb ab xb yb w6:=by
 have hpin:∀b o,(b,o) ∈ [(yb,zpO y),(xb,zpO x),(ab,acO c),(tb,ntO T)]→w6.heap[b]? = some o:=fun b o hm=>SpcA.frame h (by
  unfold DoF
  exact Rds.star (Rds.star fun w' F' hs=>by
   obtain ⟨Fa,Fb,ha,_⟩:=hs
   exact ha.1 (b,o) hm))
 have hv:∀z ∈ ps,Vw w6 z.2.1.1 bE (stT T.vars z.2.2):=fun z hz=>SpcA.frame h (by
  unfold DoF PrsA
  exact Rds.star (Rds.star (Rds.star (Rds.star (Rds.vws (p:=zpW T.vars z) (List.mem_map.2 ⟨z,hz,rfl⟩))))))
 refine ⟨hpin _ _ (by simp),hpin _ _ (by simp),hpin _ _ (by simp),hpin _ _ (by simp),SpcA.frame (P:=fun w'=>NtR w' T) h ?_,SpcA.frame (P:=fun w'=>Vw w' c.pv.1 faE c.p) h ?_,hv x hx,hv y hy⟩
 ·unfold DoF PrsA
  exact Rds.star (Rds.star (Rds.star (Rds.star (Rds.star hr))))
 ·unfold DoF PrsA
  exact Rds.star (Rds.star (Rds.star (Rds.star (Rds.star hp))))
def Do2 (ob rb tb ab xb yb s m lim:Nat) (T T':Nt) (q:SpC) (ns:Ns) (ks:List (Nat × Bool)) (ss:List (Nat × Nat)) (lv:Value) (ps:List Pr) (c:Ac) (x y:Pr) (op:Nat) (B:Asr) (w:World) (F:List Nat) (ρ:Env) (w':World):Prop :=
 ρ 1=.pointer (some ⟨s,0,none⟩)∧ρ 4=.pointer (some ⟨tb,0,none⟩)∧ρ 7=.pointer (some ⟨ab,0,none⟩)∧ρ 8=.pointer (some ⟨rb,0,none⟩)∧ρ 10=.pointer (some ⟨xb,0,none⟩)∧ρ 11=.pointer (some ⟨yb,0,none⟩)∧ρ 12=.int .i64 (op:Nat)∧ρ 13=.pointer (some ⟨ob,0,none⟩) ∧
  At w F (SpcA s m lim T' q ns ks ss (Star (ObjA ob zpZ) (Star (ObjA rb zpZ) (DoF T lv ps [(yb,zpO y),(xb,zpO x),(ab,acO c),(tb,ntO T)] B)))) w'
def Do3 (ob rb s m lim:Nat) (T T':Nt) (q:SpC) (ns:Ns) (ks:List (Nat × Bool)) (ss:List (Nat × Nat)) (lv:Value) (ps:List Pr) (B:Asr) (w:World) (F:List Nat) (ρ:Env) (w':World):Prop :=
 ρ 8=.pointer (some ⟨rb,0,none⟩)∧ρ 13=.pointer (some ⟨ob,0,none⟩)∧∃(x':Nat) (e':Bool) (ns':Ns) (ss':List (Nat × Nat)) (cc:Cell1) (P':List Nat→Bool) (W:BFn→Prop),ρ 14=eB e'∧Stp (2 * nBits T'.vars) lim W false ns e' ns'∧ActC T' W∧(e'=false→SetOk T'.vars ns' x' P')∧SpG lim T' q ns' (ksR ks x' e') ss'∧ss'.length≤ss.length+1 ∧
  At w F (SpcA s m lim T' q ns' (ksR ks x' e') ss' (Star (ObjA ob (zpO (x',cc,P'))) (Star (ObjA rb zpZ) (Star (VwA cc.1 bE (stT T.vars P')) (PrsA T.vars lv ps B))))) w'
def Do1 (rb tb ab xb yb s:Nat) (lv:Value) (ρ:Env):Prop:=ρ 1=.pointer (some ⟨s,0,none⟩)∧ρ 2=lv∧ρ 4=.pointer (some ⟨tb,0,none⟩)∧ρ 7=.pointer (some ⟨ab,0,none⟩)∧ρ 8=.pointer (some ⟨rb,0,none⟩)∧ρ 10=.pointer (some ⟨xb,0,none⟩)∧ρ 11=.pointer (some ⟨yb,0,none⟩)
def DoP (s m lim:Nat) (T T':Nt) (q:SpC) (ns:Ns) (ks:List (Nat × Bool)) (ss:List (Nat × Nat)) (lv:Value) (ps:List Pr) (B:Asr) (w:World) (F:List Nat) (v:Value) (w':World):Prop :=
 ∃(x':Nat) (e':Bool) (ns':Ns) (ss':List (Nat × Nat)) (cc:Cell1) (P':List Nat→Bool) (W:BFn→Prop),v=.tuple #[zpV (x',cc,P'),.int .i64 ((if e'=true then 10 else 0:Nat):Nat)]∧Stp (2 * nBits T'.vars) lim W false ns e' ns'∧ActC T' W∧(e'=false→SetOk T'.vars ns' x' P')∧SpG lim T' q ns' (ksR ks x' e') ss'∧ss'.length≤ss.length+1 ∧
  At w F (SpcA s m lim T' q ns' (ksR ks x' e') ss' (Star (VwA cc.1 bE (stT T.vars P')) (PrsA T.vars lv ps B))) w'
theorem relZin {T:Nt} {o:No} {W:BFn→Prop} {G:BFn} (h:RelS T o G∨W G):W0Z T G∨(RelS2 T o G∨W G):=by
 rcases h with (h | h) | h
 ·exact .inl (.inl (.inl (.inl h)))
 ·exact .inr (.inl h)
 ·exact .inr (.inr h)
theorem num_eB (e:Bool) (w:World):Calls Tryz.prog 45 [eB e].toArray w fun en w'=>∃x,en=.returned x∧x=.int .i64 ((if e=true then 10 else 0:Nat):Nat)∧Kp [] w w':=by
 cases e with
 | true=>exact bnum_err 10 w
 | false=>exact bnum_nil w
set_option maxHeartbeats 1000000 in
theorem ydo_spec (c:Ac) (hG:SpG lim T' q ns ks ss) (hB:Lcl B) (h:At w F (SpcA s m lim T' q ns ks ss (PrsA T.vars lv ps B)) w1) (hA:Alk T T') (hT:SmT T) (hr:Rds B fun w'=>NtR w' T) (hp:Rds B fun w'=>Vw w' c.pv.1 faE c.p) (hps:∀p ∈ ps,Kn T' ns ks p.1 p.2.2) (hpl:1≤ps.length) (hpl2:ps.length≤1000)
  (hca:c.a≤255) (hcb:c.b≤255) (hck:c.k≤255) (hcl:c.p.length≤9223372036854775807) (hkl:ks.length < 1000000) (hsl0:ss.length < 1000000) :
  Calls Tryz.prog 18 [ntV T,.pointer (some ⟨s,0,none⟩),lv,acV c].toArray w1 fun e w'=>∃v,e=.returned v∧DoP s m lim T T' q ns ks ss lv ps B w F v w':=by
 refine enter Tryz.func18 mixed low18 (Nat.le_of_ble_eq_true rfl) ?_
 simp only [L18]
 have hLP:Lcl (PrsA T.vars lv ps B):=PrsA.lcl hB
 obtain ⟨tb,htb⟩:∃tb,tb=w1.heap.size:=⟨_,rfl⟩
 obtain ⟨w2,hw2⟩:∃w2,w2=w1.alloc (ntO T):=⟨_,rfl⟩
 have h2:At w F (SpcA s m lim T' q ns ks ss (DoF T lv ps [(tb,ntO T)] B)) w2:=by
  rw [htb,hw2]
  have:=PinA.nil (SpcA.lcl hLP) h
  exact SpcA.into ((At.alloc (ntO T) (Lcl.pin.star (SpcA.lcl hLP)) this).by PinA.add)
 have hw2':w1.alloc (.cells #[T.vv.1,T.nv.1,T.gv.1,T.ov.1] 26 (0,0))=w2:=by rw [hw2]; rfl
 obtain ⟨ab,hab⟩:∃ab,ab=w2.heap.size:=⟨_,rfl⟩
 obtain ⟨w3,hw3⟩:∃w3,w3=w2.alloc (acO c):=⟨_,rfl⟩
 have hL2:∀pins,Lcl (DoF T lv ps pins B):=fun pins=>DoF.lcl hB
 have h3:At w F (SpcA s m lim T' q ns ks ss (DoF T lv ps [(ab,acO c),(tb,ntO T)] B)) w3:=by
  rw [hab,hw3]
  have h:=At.alloc (acO c) (SpcA.lcl (hL2 _)) h2
  exact SpcA.into ((h.by (Imp.un SpcA.outI)).by PinA.add)
 have hw3':w2.alloc (.cells #[.int .u8 (c.k:Nat),.int .u8 (c.a:Nat),.int .u8 (c.b:Nat),c.pv.1] 50 (0,0))=w3:=by rw [hw3]; rfl
 obtain ⟨rb,hrb⟩:∃rb,rb=w3.heap.size:=⟨_,rfl⟩
 obtain ⟨w4,hw4⟩:∃w4,w4=w3.alloc zpZ:=⟨_,rfl⟩
 have h4:At w F (SpcA s m lim T' q ns ks ss (Star (ObjA rb zpZ) (DoF T lv ps [(ab,acO c),(tb,ntO T)] B))) w4:=by
  rw [hrb,hw4]
  exact SpcA.into (At.alloc zpZ (SpcA.lcl (hL2 _)) h3)
 have hw4':w3.alloc (.cells #[.int .i64 0,.slice none 0 0] 53 (0,0))=w4:=by rw [hw4]; rfl
 refine seq_cut (fun ρ w'=>ρ 1=.pointer (some ⟨s,0,none⟩)∧ρ 2=lv∧ρ 4=.pointer (some ⟨tb,0,none⟩)∧ρ 7=.pointer (some ⟨ab,0,none⟩)∧ρ 8=.pointer (some ⟨rb,0,none⟩)∧w'=w4) ?_ ?_
 ·simp [ntV,acV,←htb,hw2',←hab,hw3',←hrb,hw4']
 rintro ρ w5 ⟨g1,g2,g4,g7,g8,e5⟩
 subst e5
 obtain ⟨L,hL⟩:∃L,L=ps.length:=⟨_,rfl⟩
 obtain ⟨x,hx⟩:∃x,ps[c.a % L]? = some x:=⟨_,List.getElem?_eq_getElem (by rw [←hL]; exact Nat.mod_lt _ (by omega))⟩
 obtain ⟨y,hy⟩:∃y,ps[c.b % L]? = some y:=⟨_,List.getElem?_eq_getElem (by rw [←hL]; exact Nat.mod_lt _ (by omega))⟩
 refine seq_cut (fun ρ w'=>∃xb yb,Do1 rb tb ab xb yb s lv ρ∧At w F (SpcA s m lim T' q ns ks ss (Star (ObjA rb zpZ) (DoF T lv ps [(yb,zpO y),(xb,zpO x),(ab,acO c),(tb,ntO T)] B))) w') ?_ ?_
 ·have rP:Rds (Star (ObjA rb zpZ) (DoF T lv ps [(ab,acO c),(tb,ntO T)] B)) fun w'=>Vw w' lv zpE ps:=by
   unfold DoF PrsA
   exact Rds.star (Rds.star Rds.own)
  have rA:Rds (Star (ObjA rb zpZ) (DoF T lv ps [(ab,acO c),(tb,ntO T)] B)) fun w'=>w'.heap[ab]? = some (acO c):=by
   unfold DoF
   exact Rds.star fun w' F' hs=>by
    obtain ⟨Fa,Fb,ha,_⟩:=hs
    exact ha.1 (ab,acO c) (by simp)
  have oa:=SpcA.frame h4 rA
  have hlv:=SpcA.frame h4 rP
  unfold acO at oa
  have ex:=hlv.cells zpE_len hx
  have ey:=hlv.cells zpE_len hy
  simp only [zpE] at ex ey
  have hL0:¬L=0:=by omega
  obtain ⟨i,hi⟩:∃i,i=c.a % L:=⟨_,rfl⟩
  obtain ⟨j,hj⟩:∃j,j=c.b % L:=⟨_,rfl⟩
  have hiL:i < L:=by rw [hi]; exact Nat.mod_lt _ (by omega)
  have hjL:j < L:=by rw [hj]; exact Nat.mod_lt _ (by omega)
  have ei:((c.a:Nat):Int).tmod (L:Nat)=(i:Int):=by rw [Int.tmod_eq_emod_of_nonneg (by omega),hi]; simp
  have ej:((c.b:Nat):Int).tmod (L:Nat)=(j:Int):=by rw [Int.tmod_eq_emod_of_nonneg (by omega),hj]; simp
  rw [←hi] at ex
  rw [←hj] at ey
  have hiL2:(i:Int) < ps.length:=by omega
  have hjL2:(j:Int) < ps.length:=by omega
  simp (disch:=omega) [g1,g2,g4,g7,g8,cell_blk oa,hlv.len,hlv.idx,←hL,hL0,ei,ej,wrap_i64,ex,ey]
  have hLB:Lcl (SpcA s m lim T' q ns ks ss (Star (ObjA rb zpZ) (DoF T lv ps [(ab,acO c),(tb,ntO T)] B))):=SpcA.lcl (Lcl.obj.star (hL2 _))
  have a1:=At.alloc zpZ hLB (At.drew hLB h4)
  have a2:=At.alloc zpZ (Lcl.obj.star hLB) a1
  simp only [show (w5.drew.alloc zpZ).heap.size=w5.heap.size+1 by simp,show w5.drew.heap.size=w5.heap.size from rfl] at a2
  have a3:=a2.rot
  unfold zpZ at a2 a3
  have fin:∀xb yb w',At w F (Star (ObjA yb (zpO y)) (Star (ObjA xb (zpO x)) (SpcA s m lim T' q ns ks ss (Star (ObjA rb zpZ) (DoF T lv ps [(ab,acO c),(tb,ntO T)] B))))) w' →
    At w F (SpcA s m lim T' q ns ks ss (Star (ObjA rb zpZ) (DoF T lv ps [(yb,zpO y),(xb,zpO x),(ab,acO c),(tb,ntO T)] B))) w':=fun xb yb w' h=>by
   have h1:=SpcA.into (h.by (Imp.un SpcA.intoI))
   unfold DoF at h1 ⊢
   exact h1.by (SpcA.map ((Imp.un Imp.sw).trans (Imp.sw.trans (Imp.un ((Imp.un PinA.add).trans PinA.add)))))
  refine ⟨?_,?_,?_,?_,?_,?_⟩
  all_goals
   first
   | refine a3.st (Lcl.obj.star hLB) (by simp) (by simp [x.2.1.2]) fun w6 h6=>?_
   | refine a2.st (Lcl.obj.star hLB) (by simp) (by simp [x.2.1.2]) fun w6 h6=>?_
  all_goals
   have h7:=h6.rot
   have oa6:=SpcA.frame h6.drop.drop rA
   have hlv6:=SpcA.frame h6.drop.drop rP
   have ey6:=hlv6.cells zpE_len hy
   rw [←hj] at ey6
   simp only [zpE] at ey6
   unfold acO at oa6
   simp (disch:=omega) [g1,g2,g4,g7,g8,cell_blk oa6,hlv6.len,hlv6.idx,←hL,hL0,ei,ej,wrap_i64,ey6]
  all_goals
   refine h7.st (Lcl.obj.star hLB) (by simp) (by simp [y.2.1.2]) fun w7 h8=>?_
   simp [Do1,g1,g2,g4,g7,g8]
   exact ⟨_,_,⟨rfl,rfl⟩,fin _ _ _ h8⟩
 rintro ρ w6 ⟨xb,yb,⟨g1,g2,g4,g7,g8,g10,g11⟩,h6⟩
 have hxm:=List.mem_of_getElem? hx
 have hym:=List.mem_of_getElem? hy
 obtain ⟨op,hop⟩:∃op,op=if T.ops.length=0 then 0 else c.b % T.ops.length:=⟨_,rfl⟩
 have hol:=hT.g.olen
 have hL6:∀pins,Lcl (Star (ObjA rb zpZ) (DoF T lv ps pins B)):=fun _=>Lcl.obj.star (DoF.lcl hB)
 refine seq_cut (fun ρ w'=>Do1 rb tb ab xb yb s lv ρ∧ρ 12=.int .i64 0∧w'=w6) ?_ ?_
 ·simp [Do1,g1,g2,g4,g7,g8,g10,g11]
 clear g1 g2 g4 g7 g8 g10 g11
 rintro ρ w7 ⟨⟨g1,g2,g4,g7,g8,g10,g11⟩,g12,e7⟩
 subst e7
 refine seq_cut (fun ρ w'=>Do1 rb tb ab xb yb s lv ρ∧ρ 12=.int .i64 (op:Nat)∧w'=w7) ?_ ?_
 ·have hpin:∀b o,(b,o) ∈ [(yb,zpO y),(xb,zpO x),(ab,acO c),(tb,ntO T)]→w7.heap[b]? = some o:=fun b o hm=>SpcA.frame h6 (by
   unfold DoF
   exact Rds.star fun w' F' hs=>by
    obtain ⟨Fa,Fb,ha,_⟩:=hs
    exact ha.1 (b,o) hm)
  have ot:=hpin tb (ntO T) (by simp)
  have oa:=hpin ab (acO c) (by simp)
  have hn:NtR w7 T:=SpcA.frame (P:=fun w'=>NtR w' T) h6 (by
   unfold DoF PrsA
   exact Rds.star (Rds.star (Rds.star (Rds.star hr))))
  unfold ntO at ot
  unfold acO at oa
  obtain ⟨N,hN⟩:∃N,N=T.ops.length:=⟨_,rfl⟩
  rw [←hN] at hop hol
  by_cases h0:N=0
  ·rw [if_pos h0] at hop
   have e0:¬(0:Int) < (N:Nat):=by omega
   simp (disch:=omega) [g4,cell_blk ot,hn.ops.len,←hN,h0]
   simp [Do1,g1,g2,g4,g7,g8,g10,g11,g12,hop]
  ·rw [if_neg h0] at hop
   have e0:(0:Int) < (N:Nat):=by omega
   have e1:((c.b:Nat):Int).tmod (N:Nat)=(op:Int):=by rw [Int.tmod_eq_emod_of_nonneg (by omega),hop]; simp
   have hopl:op < N:=by rw [hop]; exact Nat.mod_lt _ (by omega)
   have e2:0 < N:=by omega
   simp (disch:=omega) [g4,g7,cell_blk ot,cell_blk oa,hn.ops.len,←hN,h0,e0,e1,e2,wrap_i64]
   simp [Do1,g1,g2,g4,g7,g8,g10,g11]
 clear g1 g2 g4 g7 g8 g10 g11 g12
 rintro ρ w8 ⟨⟨g1,g2,g4,g7,g8,g10,g11⟩,g12,e8⟩
 subst e8
 refine seq_cut (fun ρ w'=>∃ob,Do2 ob rb tb ab xb yb s m lim T T' q ns ks ss lv ps c x y op B w F ρ w') ?_ ?_
 ·obtain ⟨ob,hob⟩:∃ob,ob=w8.heap.size:=⟨_,rfl⟩
  simp
  refine ⟨ob,by simp [g1],by simp [g4],by simp [g7],by simp [g8],by simp [g10],by simp [g11],by simp [g12],by simp [hob],?_⟩
  rw [hob]
  exact SpcA.into (At.alloc zpZ (SpcA.lcl (hL6 _)) h6)
 clear g1 g2 g4 g7 g8 g10 g11 g12
 rintro ρ w9 ⟨ob,hD2⟩
 refine seq_cut (Do2 ob rb tb ab xb yb s m lim T T' q ns ks ss lv ps c x y op B w F) ?_ ?_
 ·obtain ⟨g1,g4,g7,g8,g10,g11,g12,g13,h9⟩:=hD2
  simp
  exact ⟨by simp [g1],by simp [g4],by simp [g7],by simp [g8],by simp [g10],by simp [g11],by simp [g12],by simp [g13],h9⟩
 clear hD2
 rintro ρ w10 hD2
 refine seq_cut (Do3 ob rb s m lim T T' q ns ks ss lv ps B w F) ?_ ?_
 ·obtain ⟨kk,hkk⟩:∃kk,kk=c.k % 6:=⟨_,rfl⟩
  have hk6:kk < 6:=by rw [hkk]; exact Nat.mod_lt _ (by omega)
  have ek:((c.k:Nat):Int).tmod 6=(kk:Int):=by rw [Int.tmod_eq_emod_of_nonneg (by omega),hkk]; simp
  refine seq_cut (fun ρ w'=>ρ 15=.int .u8 (kk:Nat)∧Do2 ob rb tb ab xb yb s m lim T T' q ns ks ss lv ps c x y op B w F ρ w') ?_ ?_
  ·obtain ⟨g1,g4,g7,g8,g10,g11,g12,g13,h10⟩:=hD2
   have oa:=(DoR.of h10 hr hp hxm hym).oa
   unfold acO at oa
   simp (disch:=omega) [g7,cell_blk oa,ek,wrap_u8]
   exact ⟨by simp [g1],by simp [g4],by simp [g7],by simp [g8],by simp [g10],by simp [g11],by simp [g12],by simp [g13],h10⟩
  clear hD2
  rintro ρ w11 ⟨g15,g1,g4,g7,g8,g10,g11,g12,g13,h11⟩
  have hN:nS T.vars≤512:=sts512 hT
  have hL5:Lcl (Star (ObjA ob zpZ) (Star (ObjA rb zpZ) (DoF T lv ps [(yb,zpO y),(xb,zpO x),(ab,acO c),(tb,ntO T)] B))):=Lcl.obj.star (hL6 _)
  have r11:=DoR.of h11 hr hp hxm hym
  have ox:=r11.ox
  have oy:=r11.oy
  have oa:=r11.oa
  have ot:=r11.ot
  unfold zpO at ox oy
  unfold acO at oa
  unfold ntO at ot
  have hkc:kk=0∨kk=1∨kk=2∨kk=3∨kk=4∨kk=5:=by omega
  rcases hkc with rfl | rfl | rfl | rfl | rfl | rfl
  ·have hcp:c.p.length≤9223372036854775807:=hcl
   simp [g15,g4,g7,cell_blk ot,cell_blk oa]
   refine cl_of (proper_spec T.vv.1 c.pv.1 (T.vars.map iN) c.p (vw_n.2 r11.nt.vars) r11.pv hcp) ?_
   rintro _ w11b ⟨rfl,k11⟩
   have h11:=At.kp0 (SpcA.lcl hL5) h11 k11
   have r11:=DoR.of h11 hr hp hxm hym
   have ox:=r11.ox
   have oy:=r11.oy
   have oa:=r11.oa
   unfold zpO at ox oy
   unfold acO at oa
   cases hpf:propF (T.vars.map iN) c.p with
   | false =>
    simp [g15,g1,g10,g11,cell_blk ox,cell_blk oy]
    refine cl_of (union_spec x.1 y.1 x.2.2 y.2.2 hG hL5 h11 (hps x hxm) (hps y hym) hkl (W:=fun G=>W0Z T' G∨G=setF T'.vars fun z=>x.2.2 z || y.2.2 z) (.inr rfl)) ?_
    rintro _ w12 ⟨x',e',ns',ss',rfl,hs,_,hok,hG',hsl,h12⟩
    simp [g13]
    refine do_st1 (hL6 _) h12 fun w13 h13=>?_
    have r13:=DoR.of h13 hr hp hxm hym
    have ox13:=r13.ox
    have oy13:=r13.oy
    unfold zpO at ox13 oy13
    simp [g10,g11,cell_blk ox13,cell_blk oy13]
    refine cl_of (zunion_spec T.vars x.2.1.1 y.2.1.1 x.2.2 y.2.2 r13.vx r13.vy hN) ?_
    rintro cv w14 hz
    simp [g13,(At.own hz).c1]
    refine do_st2 hB h13 hz fun cc w15 hcc h15=>?_
    simp
    exact ⟨by simp [g8],by simp [g13],x',e',ns',ss',cc,_,_,by simp,hs,act_one,hok,hG',hsl,h15⟩
   | true =>
    obtain ⟨p',hp',hpo⟩:=prop_nat (nvars:=T.vars) rfl hpf
    have hpl':=hpo.len
    have hvl:=hT.vl
    have rpv:Rds (Star (ObjA ob zpZ) (Star (ObjA rb zpZ) (DoF T lv ps [(yb,zpO y),(xb,zpO x),(ab,acO c),(tb,ntO T)] B))) fun w'=>Vw w' c.pv.1 fcE p':=by
     unfold DoF PrsA
     exact Rds.star (Rds.star (Rds.star (Rds.star (Rds.star fun w' F' hs=>vw_fc.1 (by rw [hp']; exact hp w' F' hs)))))
    simp [g15,g1,g7,cell_blk oa]
    refine cl_of (partial_spec c.pv.1 p' hG hL5 h11 rpv (by rw [hA.vars,hp']; exact hpf) (by rw [hA.vars]; exact hpo) hkl (W:=fun G=>W0Z T' G∨((∃j,j < p'.length∧G=fcB T'.vars p' j)∨G=setF T'.vars fun z=>hdB z p')) litZ (fcZ (by rw [hA.vars]; exact fun f hf=>hpo.rng f hf) fun j hj=>.inl ⟨j,hj,rfl⟩) (.inr (.inr rfl))) ?_
    rintro _ w12 ⟨x',e',ns',ss',rfl,hs,_,hok,hG',hsl,h12⟩
    simp [g13]
    refine do_st1 (hL6 _) h12 fun w13 h13=>?_
    have r13:=DoR.of h13 hr hp hxm hym
    have oa13:=r13.oa
    unfold acO at oa13
    simp [g4,g7,cell_blk oa13,rd_nt r13.ot]
    refine cl_of (zpartial_spec T c.pv.1 p' r13.nt hT (vw_fc.1 (by rw [hp']; exact r13.pv)) (fun f hf=>(hpo.rng f hf).1) (by omega)) ?_
    rintro cv w14 hz
    simp [g13,(At.own hz).c1]
    refine do_st2 hB h13 hz fun cc w15 hcc h15=>?_
    simp
    exact ⟨by simp [g8],by simp [g13],x',e',ns',ss',cc,_,_,by simp,hs,(act_part (by rw [hA.vars]; exact hpo) (by rw [hA.vars]; exact hT.vl)),hok,hG',hsl,h15⟩
  · -- union
   simp [g15,g1,g10,g11,cell_blk ox,cell_blk oy]
   refine cl_of (union_spec x.1 y.1 x.2.2 y.2.2 hG hL5 h11 (hps x hxm) (hps y hym) hkl (W:=fun G=>W0Z T' G∨G=setF T'.vars fun z=>x.2.2 z || y.2.2 z) (.inr rfl)) ?_
   rintro _ w12 ⟨x',e',ns',ss',rfl,hs,_,hok,hG',hsl,h12⟩
   simp [g13]
   refine do_st1 (hL6 _) h12 fun w13 h13=>?_
   have r13:=DoR.of h13 hr hp hxm hym
   have ox13:=r13.ox
   have oy13:=r13.oy
   unfold zpO at ox13 oy13
   simp [g10,g11,cell_blk ox13,cell_blk oy13]
   refine cl_of (zunion_spec T.vars x.2.1.1 y.2.1.1 x.2.2 y.2.2 r13.vx r13.vy hN) ?_
   rintro cv w14 hz
   simp [g13,(At.own hz).c1]
   refine do_st2 hB h13 hz fun cc w15 hcc h15=>?_
   simp
   exact ⟨by simp [g8],by simp [g13],x',e',ns',ss',cc,_,_,by simp,hs,act_one,hok,hG',hsl,h15⟩
  · -- intersect
   simp [g15,g1,g10,g11,cell_blk ox,cell_blk oy]
   refine cl_of (intersect_spec x.1 y.1 x.2.2 y.2.2 hG hL5 h11 (hps x hxm) (hps y hym) hkl (W:=fun G=>W0Z T' G∨G=setF T'.vars fun z=>x.2.2 z && y.2.2 z) (.inr rfl)) ?_
   rintro _ w12 ⟨x',e',ns',ss',rfl,hs,_,hok,hG',hsl,h12⟩
   simp [g13]
   refine do_st1 (hL6 _) h12 fun w13 h13=>?_
   have r13:=DoR.of h13 hr hp hxm hym
   have ox13:=r13.ox
   have oy13:=r13.oy
   unfold zpO at ox13 oy13
   have h13d:=At.drew (SpcA.lcl (Lcl.obj.star (hL6 _))) h13
   have r14:=DoR.of h13d hr hp hxm hym
   simp [g10,g11,cell_blk ox13,cell_blk oy13]
   refine ⟨?_,?_⟩
   ·refine cl_of (zminus_spec T.vars x.2.1.1 y.2.1.1 x.2.2 y.2.2 r14.vx r14.vy hN) ?_
    rintro cv1 w14 hz1
    have h14:=At.kp0 (SpcA.lcl (Lcl.obj.star (hL6 _))) h13d (At.kp hz1)
    simp
    refine cl_of (zminus_spec T.vars x.2.1.1 cv1 x.2.2 (fun s=>x.2.2 s && !y.2.2 s) (DoR.of h14 hr hp hxm hym).vx (At.own hz1).vw hN) ?_
    rintro cv w15 hz
    simp [g13,(At.own hz).c1]
    refine do_st2 hB h14 (hz.congr (Q:=fun s=>x.2.2 s && y.2.2 s) fun s _=>by cases x.2.2 s <;> cases y.2.2 s <;> rfl) fun cc w16 hcc h16=>?_
    simp
    exact ⟨by simp [g8],by simp [g13],x',e',ns',ss',cc,_,_,by simp,hs,act_one,hok,hG',hsl,h16⟩
   ·refine cl_of (zminus_spec T.vars x.2.1.1 y.2.1.1 x.2.2 y.2.2 r14.vx r14.vy hN) ?_
    rintro cv1 w14 hz1
    have h14:=At.kp0 (SpcA.lcl (Lcl.obj.star (hL6 _))) h13d (At.kp hz1)
    have ox14:=(DoR.of h14 hr hp hxm hym).ox
    unfold zpO at ox14
    simp [cell_blk ox14]
    refine cl_of (zminus_spec T.vars x.2.1.1 cv1 x.2.2 (fun s=>x.2.2 s && !y.2.2 s) (DoR.of h14 hr hp hxm hym).vx (At.own hz1).vw hN) ?_
    rintro cv w15 hz
    simp [g13,(At.own hz).c1]
    refine do_st2 hB h14 (hz.congr (Q:=fun s=>x.2.2 s && y.2.2 s) fun s _=>by cases x.2.2 s <;> cases y.2.2 s <;> rfl) fun cc w16 hcc h16=>?_
    simp
    exact ⟨by simp [g8],by simp [g13],x',e',ns',ss',cc,_,_,by simp,hs,act_one,hok,hG',hsl,h16⟩
  · -- minus
   simp [g15,g1,g10,g11,cell_blk ox,cell_blk oy]
   refine cl_of (minus_spec x.1 y.1 x.2.2 y.2.2 hG hL5 h11 (hps x hxm) (hps y hym) hkl (W:=fun G=>W0Z T' G∨((G=fun a=>!setF T'.vars y.2.2 a)∨G=setF T'.vars fun z=>x.2.2 z && !y.2.2 z)) (.inr (.inl rfl)) (.inr (.inr rfl))) ?_
   rintro _ w12 ⟨x',e',ns',ss',rfl,hs,_,hok,hG',hsl,h12⟩
   simp [g13]
   refine do_st1 (hL6 _) h12 fun w13 h13=>?_
   have r13:=DoR.of h13 hr hp hxm hym
   have ox13:=r13.ox
   have oy13:=r13.oy
   unfold zpO at ox13 oy13
   simp [g10,g11,cell_blk ox13,cell_blk oy13]
   refine cl_of (zminus_spec T.vars x.2.1.1 y.2.1.1 x.2.2 y.2.2 r13.vx r13.vy hN) ?_
   rintro cv w14 hz
   simp [g13,(At.own hz).c1]
   refine do_st2 hB h13 hz fun cc w15 hcc h15=>?_
   simp
   exact ⟨by simp [g8],by simp [g13],x',e',ns',ss',cc,_,_,by simp,hs,act_two,hok,hG',hsl,h15⟩
  · -- image
   by_cases h0:T.ops.length=0
   ·have hNp:¬0 < T.ops.length:=by omega
    simp [g15,g4,cell_blk ot,r11.nt.ops.len,hNp]
    simp [g15,g1,g10,g11,cell_blk ox,cell_blk oy]
    refine cl_of (union_spec x.1 y.1 x.2.2 y.2.2 hG hL5 h11 (hps x hxm) (hps y hym) hkl (W:=fun G=>W0Z T' G∨G=setF T'.vars fun z=>x.2.2 z || y.2.2 z) (.inr rfl)) ?_
    rintro _ w12 ⟨x',e',ns',ss',rfl,hs,_,hok,hG',hsl,h12⟩
    simp [g13]
    refine do_st1 (hL6 _) h12 fun w13 h13=>?_
    have r13:=DoR.of h13 hr hp hxm hym
    have ox13:=r13.ox
    have oy13:=r13.oy
    unfold zpO at ox13 oy13
    simp [g10,g11,cell_blk ox13,cell_blk oy13]
    refine cl_of (zunion_spec T.vars x.2.1.1 y.2.1.1 x.2.2 y.2.2 r13.vx r13.vy hN) ?_
    rintro cv w14 hz
    simp [g13,(At.own hz).c1]
    refine do_st2 hB h13 hz fun cc w15 hcc h15=>?_
    simp
    exact ⟨by simp [g8],by simp [g13],x',e',ns',ss',cc,_,_,by simp,hs,act_one,hok,hG',hsl,h15⟩
   ·have hNp:0 < T.ops.length:=by omega
    rw [if_neg h0] at hop
    obtain ⟨o,ho⟩:∃o,T.ops[op]? = some o:=⟨_,List.getElem?_eq_getElem (by rw [hop]; exact Nat.mod_lt _ hNp)⟩
    obtain ⟨o',ho',op1,oa1,_⟩:=hA.sk ho
    simp [g15,g1,g4,g10,g12,cell_blk ox,cell_blk ot,r11.nt.ops.len,hNp]
    refine cl_of (image_spec x.1 op o' x.2.2 hG hL5 h11 (hps x hxm) ho' hkl hsl0 (imgW (W:=fun G=>W0Z T' G∨(RelS2 T' o' G∨ImgT T' o' x.2.2 G)) fun G hG=>relZin hG)) ?_
    rintro _ w12 ⟨x',e',ns',ss',rfl,hs,_,hok,hG',hsl,h12⟩
    simp [g13]
    refine do_st1 (hL6 _) h12 fun w13 h13=>?_
    have r13:=DoR.of h13 hr hp hxm hym
    have ox13:=r13.ox
    unfold zpO at ox13
    simp [g4,g10,g12,cell_blk ox13,rd_nt r13.ot]
    refine cl_of (zimage_spec T x.2.1.1 op o x.2.2 r13.nt hT ho r13.vx) ?_
    rintro cv w14 hz
    rw [←imgP_alk hA op1 oa1 x.2.2] at hz
    simp [g13,(At.own hz).c1]
    refine do_st2 hB h13 hz fun cc w15 hcc h15=>?_
    simp
    exact ⟨by simp [g8],by simp [g13],x',e',ns',ss',cc,_,_,by simp,hs,(act_img (smc hT hA) (List.mem_of_getElem? ho')),hok,hG',hsl,h15⟩
  · -- preimage
   by_cases h0:T.ops.length=0
   ·have hNp:¬0 < T.ops.length:=by omega
    simp [g15,g4,cell_blk ot,r11.nt.ops.len,hNp]
    simp [g15,g1,g10,g11,cell_blk ox,cell_blk oy]
    refine cl_of (union_spec x.1 y.1 x.2.2 y.2.2 hG hL5 h11 (hps x hxm) (hps y hym) hkl (W:=fun G=>W0Z T' G∨G=setF T'.vars fun z=>x.2.2 z || y.2.2 z) (.inr rfl)) ?_
    rintro _ w12 ⟨x',e',ns',ss',rfl,hs,_,hok,hG',hsl,h12⟩
    simp [g13]
    refine do_st1 (hL6 _) h12 fun w13 h13=>?_
    have r13:=DoR.of h13 hr hp hxm hym
    have ox13:=r13.ox
    have oy13:=r13.oy
    unfold zpO at ox13 oy13
    simp [g10,g11,cell_blk ox13,cell_blk oy13]
    refine cl_of (zunion_spec T.vars x.2.1.1 y.2.1.1 x.2.2 y.2.2 r13.vx r13.vy hN) ?_
    rintro cv w14 hz
    simp [g13,(At.own hz).c1]
    refine do_st2 hB h13 hz fun cc w15 hcc h15=>?_
    simp
    exact ⟨by simp [g8],by simp [g13],x',e',ns',ss',cc,_,_,by simp,hs,act_one,hok,hG',hsl,h15⟩
   ·have hNp:0 < T.ops.length:=by omega
    rw [if_neg h0] at hop
    obtain ⟨o,ho⟩:∃o,T.ops[op]? = some o:=⟨_,List.getElem?_eq_getElem (by rw [hop]; exact Nat.mod_lt _ hNp)⟩
    obtain ⟨o',ho',op1,oa1,_⟩:=hA.sk ho
    simp [g15,g1,g4,g10,g12,cell_blk ox,cell_blk ot,r11.nt.ops.len,hNp]
    refine cl_of (preimage_spec x.1 op o' x.2.2 hG hL5 h11 (hps x hxm) ho' hkl hsl0 (preW (W:=fun G=>W0Z T' G∨(RelS2 T' o' G∨PreT T' o' x.2.2 G)) fun G hG=>relZin hG)) ?_
    rintro _ w12 ⟨x',e',ns',ss',rfl,hs,_,hok,hG',hsl,h12⟩
    simp [g13]
    refine do_st1 (hL6 _) h12 fun w13 h13=>?_
    have r13:=DoR.of h13 hr hp hxm hym
    have ox13:=r13.ox
    unfold zpO at ox13
    simp [g4,g10,g12,cell_blk ox13,rd_nt r13.ot]
    refine cl_of (zpreimage_spec T x.2.1.1 op o x.2.2 r13.nt hT ho r13.vx) ?_
    rintro cv w14 hz
    rw [←preP_alk op1 oa1 x.2.2] at hz
    simp [g13,(At.own hz).c1]
    refine do_st2 hB h13 hz fun cc w15 hcc h15=>?_
    simp
    exact ⟨by simp [g8],by simp [g13],x',e',ns',ss',cc,_,_,by simp,hs,(act_pre (smc hT hA) (List.mem_of_getElem? ho')),hok,hG',hsl,h15⟩
 clear hD2
 rintro ρ w11 ⟨g8,g13,x',e',ns',ss',cc,P',cst,g14,hs,hcv,hok,hG',hsl,h11⟩
 have hLV:Lcl (Star (VwA cc.1 bE (stT T.vars P')) (PrsA T.vars lv ps B)):=Lcl.vw.star hLP
 have hL11:Lcl (SpcA s m lim T' q ns' (ksR ks x' e') ss' (Star (ObjA ob (zpO (x',cc,P'))) (Star (ObjA rb zpZ) (Star (VwA cc.1 bE (stT T.vars P')) (PrsA T.vars lv ps B))))):=SpcA.lcl (Lcl.obj.star (Lcl.obj.star hLV))
 have rO:Rds (Star (ObjA ob (zpO (x',cc,P'))) (Star (ObjA rb zpZ) (Star (VwA cc.1 bE (stT T.vars P')) (PrsA T.vars lv ps B)))) fun w'=>w'.heap[ob]? = some (zpO (x',cc,P')):=Rds.obj
 have o11:=SpcA.frame h11 rO
 have h11d:=At.drew hL11 h11
 have o11d:=SpcA.frame h11d rO
 have last:∀w12,At w F (SpcA s m lim T' q ns' (ksR ks x' e') ss' (Star (ObjA ob (zpO (x',cc,P'))) (Star (ObjA rb zpZ) (Star (VwA cc.1 bE (stT T.vars P')) (PrsA T.vars lv ps B))))) w12→∀KW:Kont World,(∀w13,At w F (SpcA s m lim T' q ns' (ksR ks x' e') ss' (Star (ObjA rb (zpO (x',cc,P'))) (Star (VwA cc.1 bE (stT T.vars P')) (PrsA T.vars lv ps B)))) w13→KW.run w13)→@stJ w12 ⟨rb,0,none⟩ [.int .i64 (x':Nat),cc.1] KW:=by
  intro w12 h12 KW H
  have h1:=SpcA.out (SpcA.less h12)
  unfold zpZ at h1
  refine h1.st (SpcA.lcl hLV) (by simp) (by simp [cc.2]) fun w13 h13=>H w13 (SpcA.into ?_)
  simpa [zpO] using h13
 simp [g8,g13,g14,rd_zp o11]
 refine ⟨?_,?_⟩
 ·refine cl_of (num_eB e' _) ?_
  rintro _ w12 ⟨rfl,k12⟩
  simp [g8,g13]
  refine last w12 (h11d.kp0 hL11 k12) _ fun w13 h13=>?_
  have o13:=SpcA.frame h13 (Rds.obj:Rds (Star (ObjA rb (zpO (x',cc,P'))) (Star (VwA cc.1 bE (stT T.vars P')) (PrsA T.vars lv ps B))) fun w'=>w'.heap[rb]? = some (zpO (x',cc,P')))
  unfold zpO at o13
  simp
  refine postL_c2 (hT:=rfl) (by simp [g8]) o13 rfl rfl ?_
  exact ⟨_,rfl,x',e',ns',ss',cc,P',cst,by simp [zpV],hs,hcv,hok,hG',hsl,SpcA.less h13⟩
 ·refine cl_of (num_eB e' _) ?_
  rintro _ w12 ⟨rfl,k12⟩
  have h12:=h11d.kp0 hL11 k12
  have o12:=SpcA.frame h12 rO
  simp [g8,g13,rd_zp o12]
  refine last w12 h12 _ fun w13 h13=>?_
  have o13:=SpcA.frame h13 (Rds.obj:Rds (Star (ObjA rb (zpO (x',cc,P'))) (Star (VwA cc.1 bE (stT T.vars P')) (PrsA T.vars lv ps B))) fun w'=>w'.heap[rb]? = some (zpO (x',cc,P')))
  unfold zpO at o13
  simp
  refine postL_c2 (hT:=rfl) (by simp [g8]) o13 rfl rfl ?_
  exact ⟨_,rfl,x',e',ns',ss',cc,P',cst,by simp [zpV],hs,hcv,hok,hG',hsl,SpcA.less h13⟩
end
end Go.Proofs.YtcoeknnghfajnaaGreat
end
section
namespace Go.Proofs.YtcoeknnghfajnaaGreat
open Go Go.W Go.Tk Go.Rx Go.Bd Go.Sy Go.Maps
def ctB (l:List Bool):Nat:=(l.filter fun b=>b).length
theorem ctB_add {l:List Bool} {k:Nat} {b:Bool} (h:l[k]? = some b):ctB (l.take (k+1))=ctB (l.take k)+if b=true then 1 else 0:=by
 unfold ctB
 rw [List.take_add_one,h,List.filter_append,List.length_append]
 cases b <;> rfl
theorem zcount_spec {w:World} (v:Value) (l:List Bool) (hv:Vw w v bE l) (hl:l.length≤1000000) :
  Calls Tryz.prog 20 [v].toArray w fun e w'=>∃x,e=.returned x∧x=.int .i64 (ctB l:Nat)∧Kp [] w w':=by
 refine enter Tryz.func20 mixed low20 (Nat.le_of_ble_eq_true rfl) ?_
 simp only [L20]
 simp [hv.len]
 refine range_loop (n:=l.length) (by omega) (fun k ρ w'=>ρ 6=v∧ρ 3=.int .i64 (ctB (l.take k):Nat)∧Kp [] w w') (by simp) (by simp)
  ⟨by simp,by simp [ctB],Kp.refl _ _⟩ (by decide) (fun _ _ _ _ h=>by simpa using h) (fun _ _ _ _ h=>by simpa using h) ?_ ?_
 ·rintro k ρ w4 hk hc hlim ⟨g6,g3,k4⟩
  have hv4:=hv.kp0 k4
  obtain ⟨b,hb⟩:∃b,l[k]? = some b:=⟨_,List.getElem?_eq_getElem hk⟩
  have hkl:(k:Int) < l.length:=by omega
  have e:=ctB_add hb
  have hle:ctB (l.take k)≤k:=by
   unfold ctB
   have h1:=List.length_filter_le (fun b:Bool=>b) (l.take k)
   have h2:=List.length_take_le k l
   omega
  obtain ⟨m,hm⟩:∃m,m=ctB (l.take k):=⟨_,rfl⟩
  rw [←hm] at g3 e hle
  rw [e]
  cases b with
  | true =>
   obtain ⟨m',hm'⟩:∃m',m'=m+1:=⟨_,rfl⟩
   have em:(m:Int)+1=(m':Int):=by omega
   rw [if_pos rfl,←hm']
   simp (disch:=omega) [g6,g3,hc,hlim,hv4.idx,bE_cell hv4 hb,em,wrap_i64]
   exact k4
  | false =>
   rw [if_neg Bool.false_ne_true,Nat.add_zero]
   simp (disch:=omega) [g6,g3,hc,hlim,hv4.idx,bE_cell hv4 hb]
   exact k4
 ·rintro ρ w4 ⟨g6,g3,k4⟩
  rw [List.take_of_length_le (Nat.le_refl _)] at g3
  simp [g3]
  exact k4
theorem zsame_spec {w:World} (u v:Value) (xs ys:List Bool) (hu:Vw w u bE xs) (hv:Vw w v bE ys) (he:xs.length=ys.length) (hx:xs.length≤1000000) :
  Calls Tryz.prog 21 [u,v].toArray w fun e w'=>∃x,e=.returned x∧x=.bool (decide (xs=ys))∧Kp [] w w':=by
 refine enter Tryz.func21 mixed low21 (Nat.le_of_ble_eq_true rfl) ?_
 simp only [L21]
 simp [hu.len]
 refine range_loop (n:=xs.length) (by omega) (fun k ρ w'=>ρ 0=u∧ρ 1=v∧xs.take k=ys.take k∧Kp [] w w') (by simp) (by simp)
  ⟨by simp,by simp,by simp,Kp.refl _ _⟩ (by decide) (fun _ _ _ _ h=>by simpa using h) (fun _ _ _ _ h=>by simpa using h) ?_ ?_
 ·rintro k ρ w4 hk hc hlim ⟨g0,g1,ht,k4⟩
  have hu4:=hu.kp0 k4
  have hv4:=hv.kp0 k4
  obtain ⟨a,ha⟩:∃a,xs[k]? = some a:=⟨_,List.getElem?_eq_getElem hk⟩
  obtain ⟨b,hb⟩:∃b,ys[k]? = some b:=⟨_,List.getElem?_eq_getElem (by omega)⟩
  simp (disch:=omega) [g0,g1,hc,hlim,hu4.idx,hv4.idx,bE_cell hu4 ha,bE_cell hv4 hb]
  by_cases hab:a=b
  ·subst hab
   simp [g0,g1,hc,hlim]
   refine ⟨?_,k4.drew⟩
   rw [List.take_add_one,List.take_add_one,ht,ha,hb]
  ·have:¬xs=ys:=fun e=>hab (by rw [e,hb] at ha; exact (Option.some.inj ha).symm)
   have hn':(!(a == b))=true:=by simp [hab]
   rw [hn']
   simp [this]
   exact k4.drew
 ·rintro ρ w4 ⟨g0,g1,ht,k4⟩
  have:xs=ys:=by rw [List.take_of_length_le (Nat.le_refl _),List.take_of_length_le (by omega)] at ht; exact ht
  simp [this]
  exact k4
end Go.Proofs.YtcoeknnghfajnaaGreat
end
section
namespace Go.Proofs.YtcoeknnghfajnaaGreat
open Go Go.W Go.Bd Go.Maps
def PickI (n:Nat) (ns:Ns) (f g:Nat) (l:List Bool):Prop:=Ref ns g∧g≠0∧l.length=n∧∀i,i < n→pickF n ns f i=(l.getD i false || pickF n ns g i)
theorem PickI.step {n f g:Nat} {ns:Ns} {l:List Bool} (w:Wf n ns) (h:PickI n ns f g l) (h2:2≤g):if (at_ n ns g).low=0 then PickI n ns f (at_ n ns g).high (l.set (tv n ns g) true) else PickI n ns f (at_ n ns g).low l:=by
 obtain ⟨h1,h0,hl,hp⟩:=h
 have hne:(at_ n ns g).low≠(at_ n ns g).high:=by rw [at_ge h2 h1]; exact w.ne _ _
 have tvn:=w.tv_var h2 h1
 rw [pick_node w h2 h1] at hp
 by_cases hz:(at_ n ns g).low=0
 ·rw [if_pos hz] at hp ⊢
  refine ⟨w.ref_high h1,by omega,by simpa using hl,fun i hi=>?_⟩
  rw [hp i hi]
  by_cases he:i=tv n ns g
  ·subst he
   rw [upd_same]
   simp [List.getD,List.getElem?_set,hl,hi]
  ·rw [upd_ne he]
   simp only [List.getD_eq_getElem?_getD,List.getElem?_set]
   rw [if_neg (fun e=>he e.symm)]
 ·rw [if_neg hz] at hp ⊢
  exact ⟨w.ref_low h1,hz,hl,hp⟩
theorem PickI.done {n f g:Nat} {ns:Ns} {l:List Bool} (h:PickI n ns f g l) (h2:g < 2):l=(List.range n).map (pickF n ns f):=by
 obtain ⟨h1,h0,hl,hp⟩:=h
 refine List.ext_getElem (by simp [hl]) fun i h3 h4=>?_
 have:=hp i (by omega)
 rw [pick_lt h2] at this
 simp [this,List.getD,List.getElem?_eq_getElem h3]
theorem pick_zero {w w1:World} {F:List Nat} {B:Asr} (m n lim:Nat) (ns:Ns) (hB:Lcl B) (hA:At w F (Star (MgrA m n lim ns) B) w1) (hb:Bnd n lim ns) :
  Calls Tryz.prog 62 [.pointer (some ⟨m,0,none⟩),.int .i64 0].toArray w1 fun e w'=>∃x,e=.returned x∧x=.tuple #[.slice none 0 0,berrV 3]∧At w F (Star (MgrA m n lim ns) B) w':=by
 refine enter Tryz.func62 mixed low62 (Nat.le_of_ble_eq_true rfl) ?_
 simp only [L62]
 have hl:Lcl (Star (MgrA m n lim ns) B):=Lcl.mgr.star hB
 simp [rowOf]
 refine cl_of (check_lit [(0:Int)] (MgrA.rd hA) hb rfl (by simp) rfl) ?_
 rintro u w2 ⟨rfl,k2⟩
 have h2:=hA.kp0 hl k2
 have hr:[(0:Int)].all (refB ns)=true:=by simp [refB]; omega
 rw [hr]
 simp [bchkV]
 exact ⟨rfl,h2⟩
def PickV (m n lim:Nat) (ns:Ns) (f:Nat) (sv:Value) (B:Asr) (w:World) (F:List Nat) (q:Nat) (ρ:Env) (w':World):Prop :=
 ∃l,ρ 0=.pointer (some ⟨m,0,none⟩)∧ρ 1=.int .i64 (q:Nat)∧ρ 7=sv∧PickI n ns f q l∧At w F (Star (OwnA sv 4 1 bv l) (Star (MgrA m n lim ns) B)) w'
theorem pick_spec {w w1:World} {F:List Nat} {B:Asr} (m n lim:Nat) (ns:Ns) (f:Nat) (hB:Lcl B) (hA:At w F (Star (MgrA m n lim ns) B) w1) (hw:Wf n ns) (hb:Bnd n lim ns) (hf:Ref ns f) (h0:f≠0) :
  Calls Tryz.prog 62 [.pointer (some ⟨m,0,none⟩),.int .i64 (f:Nat)].toArray w1 fun e w'=>∃x,e=.returned x∧∃v,x=.tuple #[v,.nilIface]∧At w F (Star (OwnA v 4 1 bv ((List.range n).map (pickF n ns f))) (Star (MgrA m n lim ns) B)) w':=by
 have hbn:=hb.hn
 have hbl:=hb.hl
 have hbs:=hb.hs
 refine enter Tryz.func62 mixed low62 (Nat.le_of_ble_eq_true rfl) ?_
 simp only [L62]
 have hl:Lcl (Star (MgrA m n lim ns) B):=Lcl.mgr.star hB
 simp [rowOf]
 refine cl_of (check_lit [(f:Int)] (MgrA.rd hA) hb rfl (by simp) rfl) ?_
 rintro u w2 ⟨rfl,k2⟩
 have h2:=hA.kp0 hl k2
 have hr:[(f:Int)].all (refB ns)=true:=by
  unfold Ref at hf
  simp [refB]; omega
 rw [hr]
 obtain ⟨nv,b,ho,_,_⟩:=MgrA.rd h2
 unfold mgrO at ho
 have h4:=h2.made (E:=4) (enc:=bv) (x:=false) (z:=[.bool false]) (n:=n) hl rfl bv_len (by unfold maxLen; omega)
 simp [bchkV,e_eq0,h0,cell_blk ho]
 refine gd_mk (by omega) ?_
 obtain ⟨sv,hsv⟩:∃sv,sv=Value.slice (some ⟨w2.heap.size,0,none⟩) n n:=⟨_,rfl⟩
 rw [←hsv] at h4
 simp [←hsv]
 refine loop_inv (PickV m n lim ns f sv B w F) f
  ⟨List.replicate n false,by simp,by simp,by simp,⟨hf,h0,by simp,fun i hi=>by simp [List.getD,List.getElem?_replicate,hi]⟩,h4⟩ ?_
 rintro q ρ w4 ⟨l,g0,g1,g7,hI,h5⟩
 by_cases hq:q < 2
 ·have hq':¬(1:Int) < q:=by omega
  simp [g1,g7,hq']
  rw [hI.done hq] at h5
  exact h5
 ·have hq':(1:Int) < q:=by omega
  have hq2:2≤q:=by omega
  have hst:=hI.step hw hq2
  have hrq:=hI.1
  have l1:=hw.lt_low hq2 hrq
  have l2:=hw.lt_high hq2 hrq
  have tvn:=hw.tv_var hq2 hrq
  have hLl:Lcl (Star (OwnA sv 4 1 bv l) (Star (MgrA m n lim ns) B)):=Lcl.own.star hl
  simp [g1,g0,hq']
  refine cl_of (at_spec m n lim q ns w4 (MgrA.rd h5.drop) hb hrq) ?_
  rintro _ w5 ⟨rfl,k5⟩
  have h6:=(h5.kp0 hLl k5).alloc (.cells #[.int .i64 0,.int .i64 0,.int .i64 0] 125) hLl
  simp [ndV,bn_len]
  refine h6.st hLl (by simp [en,ints]) (by simp [en,ints]) fun w7 h7=>?_
  have hon:=h7.obj
  simp [en,ints] at hon
  have h8:=h7.rot
  have hLn:∀{o:Obj} {b:Nat},Lcl (Star (ObjA b o) (Star (MgrA m n lim ns) B)):=Lcl.obj.star hl
  have eqz:(((at_ n ns q).low:Int) == 0)=decide ((at_ n ns q).low=0):=e_eq0 _
  simp [cell_blk hon,eqz]
  by_cases hz:(at_ n ns q).low=0
  ·rw [if_pos hz] at hst
   have hvl:(at_ n ns q).v < l.length:=by rw [hI.2.2.1]; exact tvn
   simp (disch:=omega) [hz,cell_blk hon,g7,h8.own.idx]
   refine At.store1 (k:=(at_ n ns q).v) (x:=true) hLn h8 bv_len bv_one hvl rfl fun w9 h9=>?_
   have hon9:=h9.drop.obj
   simp [en,ints] at hon9
   simp [cell_blk hon9,g0,g7]
   exact ⟨_,l2,l.set (at_ n ns q).v true,by simp [g0],by simp,by simp [g7],hst,h9.by (Imp.un Imp.dr)⟩
  ·rw [if_neg hz] at hst
   simp [hz,g0,g7]
   exact ⟨_,l1,l,by simp [g0],by simp,by simp [g7],hst,h8.by (Imp.un Imp.dr)⟩
end Go.Proofs.YtcoeknnghfajnaaGreat
end
section
namespace Go.Proofs.YtcoeknnghfajnaaGreat
open Go Go.W Go.Tk Go.Rx Go.Bd Go.Sy Go.Maps
def pL (vars:List Nat) (p:Nat→Bool) (v x:Nat):List Nat:=(List.range vars.length).map fun u=>if u < v then rv vars p 0 u else if u=v then x else 0
theorem pL_len (vars:List Nat) (p:Nat→Bool) (v x:Nat):(pL vars p v x).length=vars.length:=by simp [pL]
theorem pL_zero (vars:List Nat) (p:Nat→Bool):pL vars p 0 0=List.replicate vars.length 0:=by
 unfold pL
 refine List.ext_getElem (by simp) fun i h1 h2=>?_
 simp
theorem pL_get {vars:List Nat} {p:Nat→Bool} {v x:Nat} (hv:v < vars.length):(pL vars p v x)[v]? = some x:=by
 unfold pL
 simp [hv]
theorem pL_set {vars:List Nat} {p:Nat→Bool} {v x y:Nat}:(pL vars p v x).set v y=pL vars p v y:=by
 refine List.ext_getElem (by simp [pL]) fun i h1 h2=>?_
 rw [List.getElem_set]
 simp only [pL,List.getElem_map,List.getElem_range]
 by_cases h:v=i
 ·subst h; simp
 ·have h':¬i=v:=fun e=>h e.symm
  simp [h,h']
theorem pL_next {vars:List Nat} {p:Nat→Bool} {v:Nat}:pL vars p v (rv vars p 0 v)=pL vars p (v+1) 0:=by
 unfold pL
 refine List.map_congr_left fun u hu=>?_
 by_cases h1:u < v
 ·rw [if_pos h1,if_pos (by omega)]
 ·by_cases h2:u=v
  ·subst h2; rw [if_neg h1,if_pos rfl,if_pos (by omega)]
  ·rw [if_neg h1,if_neg h2,if_neg (by omega)]
   split <;> rfl
theorem pL_end (vars:List Nat) (p:Nat→Bool):pL vars p vars.length 0=rs vars p 0:=by
 unfold pL rs
 refine List.map_congr_left fun u hu=>?_
 rw [if_pos (List.mem_range.1 hu)]
theorem valK_succ (g:Nat→Bool) (k:Nat):valK g (k+1)=2 * valK g k+if g k=true then 1 else 0:=rfl
section
variable {w w1:World} {F:List Nat} {A B B':Asr} {s m lim:Nat} {T:Nt} {q:SpC} {ns:Ns} {ks:List (Nat × Bool)} {ss:List (Nat × Nat)}
def PkI (s m lim:Nat) (T:Nt) (q:SpC) (ns:Ns) (ks:List (Nat × Bool)) (ss:List (Nat × Nat)) (B:Asr) (w:World) (F:List Nat) (p:Nat→Bool) (bw ov:Value) (v x:Nat) (ρ:Env) (w':World):Prop :=
 ρ 0=.pointer (some ⟨s,0,none⟩)∧ρ 6=bw∧ρ 8=ov∧At w F (Star (OwnA ov 3 1 nE (pL T.vars p v x)) (Star (OwnA bw 4 1 bv ((List.range (2 * nBits T.vars)).map p)) (SpcA s m lim T q ns ks ss B))) w'
end
end Go.Proofs.YtcoeknnghfajnaaGreat
end
