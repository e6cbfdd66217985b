/-
  A part of the proof of this claim's statement (BjH, RxYM, LibN, RxZA): plain theorems; no conditions beyond those each names.
-/
import Derived.Test.YtkhfdmelcpfgoaaGreatPk31
import Derived.Test.YtkhfdmelcpfgoaaGreatPk22
import Derived.Test.YtkhfdmelcpfgoaaGreatPk08
import Derived.Test.YtkhfdmelcpfgoaaGreatPk07
import Derived.HandedShaped
import Derived.Shelf.Vars
import Derived.OpenShut
import Derived.Test.YtkhfdmelcpfgoaaGreatRows
section
set_option maxRecDepth 100000
set_option linter.unusedSimpArgs false
set_option linter.unusedVariables false
namespace Go.Proofs.YtkhfdmelcpfgoaaGreat
open Go Go.W Go.Tk Go.Rx Go.Bd Go.Sy Go.Maps
def OldA (w0:World):Asr:=fun w F=>F=List.range w0.heap.size∧Kp [] w0 w
theorem OldA.lcl {w0:World}:Lcl (OldA w0):=by
 refine ⟨?_,?_⟩
 ·rintro w F ⟨rfl,k⟩ x hx
  have:=List.mem_range.1 hx
  have:=k.size
  omega
 ·rintro w F G w' ⟨rfl,k⟩ hk hG
  exact ⟨rfl,k.trans' hk fun x hx=>by
   by_cases h:x < w0.heap.size
   ·exact absurd hx (hG x (List.mem_range.2 h))
   ·exact .inr (by omega)⟩
theorem OldA.start (w:World):At w (List.range w.heap.size) (OldA w) w:=At.start ⟨rfl,Kp.refl _ _⟩
theorem OldA.rds {w0:World} {P:World→Prop} (h:∀ w',Kp [] w0 w'→P w'):Rds (OldA w0) P:=fun w' F hs=>h w' hs.2
theorem sic_few {T:Nt} {k:Nat} (hT:SmT T) (hl:TkL T.raw) (h1:1≤k) (h2:k≤2000) (hn:nSt T≤512) (hb:nBits T.vars≤100):SiC T k :=
 ⟨hT.g,hT.good,hl,h1,by omega,fun ns hs=>by have:=hs.nl; omega,hT.ol,hn,hb⟩
structure Rz where
 vd:Nat
 p:Cell1
 out:List Nat
 c:Nat
 e:Int
def rzE (q:Rz):List Value:=[.int .i64 (q.vd:Nat),q.p.1,.int .i64 (q.c:Nat),.int .i64 q.e]
theorem rzE_len (q:Rz):(rzE q).length=4:=rfl
def LmI (w:World) (R:List Nat) (B3:Asr) (tb kk best:Nat) (sv:Value) (qs:List Rz) (k:Nat) (ρ:Env) (w':World):Prop :=
 ρ 2=.pointer (some ⟨tb,0,none⟩)∧ρ 5=.int .i64 (kk:Nat)∧ρ 6=.int .i64 (best:Nat)∧ρ 8=.nilIface∧ρ 10=.nilIface∧ρ 12=.nilIface∧ρ 52=sv∧At w R (Star (OwnA sv 38 4 rzE qs) B3) w'
theorem nb_sm {T:Nt} (hT:SmT T):nBits T.vars≤100:=by
 have:=nBits_le T.vars
 have:=hT.vl
 omega
def rzO (vd:Nat) (p:Value) (c:Nat) (e:Int):Obj:=.cells #[.int .i64 (vd:Nat),p,.int .i64 (c:Nat),.int .i64 e] 38 (0,0)
def RzA (rb vd:Nat) (p:Value) (out:List Nat) (c:Nat) (e:Int) (B:Asr):Asr:=Star (ObjA rb (rzO vd p c e)) (Star (OwnA p 3 1 nE out) B)
theorem RzA.lcl {rb vd:Nat} {p:Value} {out:List Nat} {c:Nat} {e:Int} {B:Asr} (h:Lcl B):Lcl (RzA rb vd p out c e B):=Lcl.obj.star (Lcl.own.star h)
theorem RzA.rds {rb vd:Nat} {p:Value} {out:List Nat} {c:Nat} {e:Int} {B:Asr} {P:World→Prop} (h:Rds B P):Rds (RzA rb vd p out c e B) P:=Rds.star (Rds.star h)
set_option maxHeartbeats 4000000 in
theorem blimits_law {w:World} (t:Tk) (few:Nat) (ht:TkR w t) (hl:TkL t) (hf:few≤65535) :
  Calls Tryz.prog 6 [tkV t,.int .u16 (few:Nat)].toArray w fun e w'=>∃ x,e=.returned x∧x=.bool true∧Kp [] w w':=by
 refine enter Tryz.func6 mixed low6 (Nat.le_of_ble_eq_true rfl) ?_
 simp only [L6]
 obtain ⟨tb,htb⟩:∃ tb,tb=w.heap.size:=⟨_,rfl⟩
 obtain ⟨w1,hw1⟩:∃ w1,w1=w.alloc (tkO t):=⟨_,rfl⟩
 obtain ⟨R,hR⟩:∃ R,R=List.range w.heap.size:=⟨_,rfl⟩
 have hw1':w.alloc (.cells #[t.vv.1,t.nv.1,t.gv.1,t.ov.1] 26 (0,0))=w1:=by rw [hw1]; rfl
 obtain ⟨B,hB⟩:∃ B,B=Star (ObjA tb (tkO t)) (OldA w):=⟨_,rfl⟩
 have hLB:Lcl B:=by rw [hB]; exact Lcl.obj.star OldA.lcl
 have h1:At w R B w1:=by rw [hB,htb,hw1,hR]; exact At.alloc _ OldA.lcl (OldA.start w)
 have rO:Rds B fun w'=>w'.heap[tb]?=some (tkO t):=by rw [hB]; exact Rds.obj
 have rK:Rds B fun w'=>Kp [] w w':=by rw [hB]; exact Rds.star (OldA.rds fun w' k=>k)
 have at0:∀ {w'},At w R B w'→w'.heap[tb]?=some (tkO t)∧Kp [] w w':=fun h=>⟨at_rds h rO,at_rds h rK⟩
 have ob1:=(at0 h1).1
 simp [tkV,← htb,hw1',rd_tk ob1]
 refine cl_of (small_spec t (ht.kp (at0 h1).2) hl) ?_
 rintro _ w2 ⟨rfl,k2⟩
 have h2:=h1.kp0 hLB k2
 cases hsm:smallB t with
 | false =>
  simp
  refine cl_of (bawake_spec hLB h2) ?_
  rintro _ w3 ⟨rfl,h3⟩
  simp
  exact (at0 h3).2
 | true =>
  obtain ⟨T,rfl,hT⟩:=small_nat hl hsm
  have hr:=NtR.raw.1 ht
  simp
  refine cl_of (bawake_spec hLB h2) ?_
  rintro _ w3 ⟨rfl,h3⟩
  have rT:Rds B fun w'=>NtR w' T:=by rw [hB]; exact Rds.star (OldA.rds fun w' k=>hr.kp k)
  have ob3:=(at0 h3).1
  obtain ⟨kk,hkk⟩:∃ kk:Nat,kk=few % 2000+1:=⟨_,rfl⟩
  simp [rd_tk ob3,raw_vv,raw_ov]
  refine cl_of (best_spec T (at_rds h3 rT) hT) ?_
  rintro _ w4 ⟨d,hdl,hdok,hdcl,rfl,k4⟩
  have h4:=h3.kp0 hLB k4
  obtain ⟨best,hbest⟩:∃ best,best=d.getD (rkK T.vars T.init T.vars.length) 0:=⟨_,rfl⟩
  rw [← hbest]
  have ob4:=(at0 h4).1
  have ek:IntKind.i64.wrap ((IntKind.i64.wrap (few:Int)).tmod 2000+1)=((kk:Nat):Int):=by
   rw [wrap_i64 (n:=(few:Int)) (by omega) (by omega),Int.tmod_eq_emod_of_nonneg (by omega),wrap_i64 (by omega) (by omega),hkk]
   omega
  have hnS:nSt T≤512:=by
   unfold nSt
   rw [stsK_len _ (Nat.le_refl _)]
   exact hT.pr _
  have hS:SiC T kk:=sic_few hT hl (by omega) (by omega) hnS (nb_sm hT)
  simp [rd_tk ob4,raw_vv,raw_ov]
  rw [ek]
  refine cl_of (bforward_spec hS hLB h4 rT) ?_
  rintro _ w5 ⟨vd1,p1,out1,c1,e1,rfl,hok1,he1,hol1,h5⟩
  obtain ⟨r1,hr1⟩:∃ r,r=w5.heap.size:=⟨_,rfl⟩
  have hL1p:Lcl (Star (OwnA p1 3 1 nE out1) B):=Lcl.own.star hLB
  have hp1o:oneC p1=true:=at_rds h5 Rds.own1
  have a1:=h5.alloc (resO 0 (.slice none 0 0) 0 0) hL1p
  rw [← hr1] at a1
  simp [resZ]
  rw [← hr1]
  refine At.st hL1p a1 (by simp) (by simp [hp1o]) fun x1 b1=>?_
  replace b1:At w R (RzA r1 vd1 p1 out1 c1 e1 B) x1:=by
   unfold RzA rzO
   simpa [resO] using b1
  have rO1:Rds (RzA r1 vd1 p1 out1 c1 e1 B) fun w'=>w'.heap[tb]?=some (tkO T.raw):=RzA.rds rO
  have ot1:=at_rds b1 rO1
  simp [rd_tk ot1,raw_vv,raw_ov]
  obtain ⟨B1,hB1⟩:∃ B1,B1=RzA r1 vd1 p1 out1 c1 e1 B:=⟨_,rfl⟩
  have hLB1:Lcl B1:=by rw [hB1]; exact RzA.lcl hLB
  rw [← hB1] at b1 rO1
  have rT1:Rds B1 fun w'=>NtR w' T:=by rw [hB1]; exact RzA.rds rT
  refine cl_of (bbackward_spec hS hLB1 b1 rT1) ?_
  rintro _ w6 ⟨vd2,p2,out2,c2,e2,rfl,hok2,he2,hol2,h6⟩
  obtain ⟨r2,hr2⟩:∃ r,r=w6.heap.size:=⟨_,rfl⟩
  have hL2p:Lcl (Star (OwnA p2 3 1 nE out2) B1):=Lcl.own.star hLB1
  have hp2o:oneC p2=true:=at_rds h6 Rds.own1
  have a2:=h6.alloc (resO 0 (.slice none 0 0) 0 0) hL2p
  rw [← hr2] at a2
  simp [resZ]
  rw [← hr2]
  refine At.st hL2p a2 (by simp) (by simp [hp2o]) fun x2 b2=>?_
  replace b2:At w R (RzA r2 vd2 p2 out2 c2 e2 B1) x2:=by
   unfold RzA rzO
   simpa [resO] using b2
  have rO2:Rds (RzA r2 vd2 p2 out2 c2 e2 B1) fun w'=>w'.heap[tb]?=some (tkO T.raw):=RzA.rds rO1
  have ot2:=at_rds b2 rO2
  simp [rd_tk ot2,raw_vv,raw_ov]
  obtain ⟨B2,hB2⟩:∃ B2,B2=RzA r2 vd2 p2 out2 c2 e2 B1:=⟨_,rfl⟩
  have hLB2:Lcl B2:=by rw [hB2]; exact RzA.lcl hLB1
  rw [← hB2] at b2 rO2
  have rT2:Rds B2 fun w'=>NtR w' T:=by rw [hB2]; exact RzA.rds rT1
  refine cl_of (bsearch_spec hS hLB2 b2 rT2) ?_
  rintro _ w7 ⟨vd3,p3,out3,c3,e3,rfl,hok3,he3,hol3,h7⟩
  obtain ⟨r3,hr3⟩:∃ r,r=w7.heap.size:=⟨_,rfl⟩
  have hL3p:Lcl (Star (OwnA p3 3 1 nE out3) B2):=Lcl.own.star hLB2
  have hp3o:oneC p3=true:=at_rds h7 Rds.own1
  have a3:=h7.alloc (resO 0 (.slice none 0 0) 0 0) hL3p
  rw [← hr3] at a3
  simp [resZ]
  rw [← hr3]
  refine At.st hL3p a3 (by simp) (by simp [hp3o]) fun x3 b3=>?_
  replace b3:At w R (RzA r3 vd3 p3 out3 c3 e3 B2) x3:=by
   unfold RzA rzO
   simpa [resO] using b3
  have rO3:Rds (RzA r3 vd3 p3 out3 c3 e3 B2) fun w'=>w'.heap[tb]?=some (tkO T.raw):=RzA.rds rO2
  have ot3:=at_rds b3 rO3
  obtain ⟨B3,hB3⟩:∃ B3,B3=RzA r3 vd3 p3 out3 c3 e3 B2:=⟨_,rfl⟩
  have hLB3:Lcl B3:=by rw [hB3]; exact RzA.lcl hLB2
  rw [← hB3] at b3 rO3
  have rT3:Rds B3 fun w'=>NtR w' T:=by rw [hB3]; exact RzA.rds rT2
  have or3:x3.heap[r3]?=some (rzO vd3 p3 c3 e3):=at_rds b3 (by rw [hB3]; exact Rds.obj)
  have or2:x3.heap[r2]?=some (rzO vd2 p2 c2 e2):=at_rds b3 (by rw [hB3,hB2]; exact RzA.rds Rds.obj)
  have or1:x3.heap[r1]?=some (rzO vd1 p1 c1 e1):=at_rds b3 (by rw [hB3,hB2,hB1]; exact RzA.rds (RzA.rds Rds.obj))
  unfold rzO at or1 or2 or3
  have v3:Rds B3 fun w'=>Vw w' p3 nE out3:=by rw [hB3]; exact Rds.star Rds.own
  have v2:Rds B3 fun w'=>Vw w' p2 nE out2:=by rw [hB3,hB2]; exact RzA.rds (Rds.star Rds.own)
  have v1:Rds B3 fun w'=>Vw w' p1 nE out1:=by rw [hB3,hB2,hB1]; exact RzA.rds (RzA.rds (Rds.star Rds.own))
  obtain ⟨qs,hqs⟩:∃ qs:List Rz,qs=[⟨vd1,⟨p1,hp1o⟩,out1,c1,e1⟩,⟨vd2,⟨p2,hp2o⟩,out2,c2,e2⟩,⟨vd3,⟨p3,hp3o⟩,out3,c3,e3⟩]:=⟨_,rfl⟩
  have hqs3:qs.length=3:=by rw [hqs]; rfl
  have hq:∀ q ∈ qs,ResOk T kk q.vd q.out q.c∧0≤q.e∧q.out.length≤2000000000000∧Rds B3 fun w'=>Vw w' q.p.1 nE q.out:=fun q hqm=>by
   rw [hqs] at hqm
   simp at hqm
   rcases hqm with rfl | rfl | rfl
   ·exact ⟨hok1,he1,hol1,v1⟩
   ·exact ⟨hok2,he2,hol2,v2⟩
   ·exact ⟨hok3,he3,hol3,v3⟩
  obtain ⟨sb,hsb⟩:∃ sb,sb=x3.heap.size:=⟨_,rfl⟩
  have s3:=b3.lit (xs:=qs) (enc:=rzE) (E:=38) (sz:=4) (cs:=#[.int .i64 (vd1:Nat),p1,.int .i64 (c1:Nat),.int .i64 e1,.int .i64 (vd2:Nat),p2,.int .i64 (c2:Nat),.int .i64 e2,.int .i64 (vd3:Nat),p3,.int .i64 (c3:Nat),.int .i64 e3]) (m:=3) hLB3 (by rw [hqs]; simp [rzE]) rzE_len (by rw [hqs]; simp [maxLen]) hqs3.symm
  obtain ⟨sv,hsv⟩:∃ sv,sv=Value.slice (some ⟨x3.heap.size,0,none⟩) 3 3:=⟨_,rfl⟩
  rw [← hsv] at s3
  simp [rd_c4 or1,rd_c4 or2,rd_c4 or3,rowOf]
  rw [← hsv]
  refine range_loop (n:=3) (by omega) (LmI w R B3 tb kk best sv qs) (by simp) (by simp)
   ⟨by simp,by simp,by simp,by simp,by simp,by simp,by simp,s3⟩ (by decide) (fun _ _ _ _ h=>by simpa [LmI] using h) (fun _ _ _ _ h=>by simpa [LmI] using h) ?_ ?_
  ·rintro k ρ y1 hk hck hlk ⟨g2,g5,g6,g8,g10,g12,g52,c1'⟩
   obtain ⟨q,hqk⟩:∃ q,qs[k]?=some q:=⟨_,List.getElem?_eq_getElem (by omega)⟩
   obtain ⟨hokq,heq,holq,vq⟩:=hq q (List.mem_of_getElem? hqk)
   have hvw:=c1'.own.vw
   have ec:=hvw.cells rzE_len hqk
   simp only [rzE] at ec
   have hki:(k:Int) < qs.length:=by omega
   have hLs:Lcl (Star (OwnA sv 38 4 rzE qs) B3):=Lcl.own.star hLB3
   obtain ⟨jb,hjb⟩:∃ jb,jb=y1.heap.size:=⟨_,rfl⟩
   have d1:=c1'.alloc (resO 0 (.slice none 0 0) 0 0) hLs
   rw [← hjb] at d1
   simp (disch:=omega) [g2,g5,g6,g8,g10,g12,g52,hck,hlk,hvw.idx,ec]
   rw [← hjb]
   refine At.st hLs d1 (by simp) (by simp [q.p.2]) fun y2 d2=>?_
   replace d2:At w R (Star (ObjA jb (rzO q.vd q.p.1 q.c q.e)) (Star (OwnA sv 38 4 rzE qs) B3)) y2:=by
    unfold rzO
    simpa [resO] using d2
   have oj:=d2.obj
   unfold rzO at oj
   have oq:Vw y2 q.p.1 nE q.out:=at_rds d2 (Rds.star (Rds.star vq))
   have otq:y2.heap[tb]?=some (tkO T.raw):=at_rds d2 (Rds.star (Rds.star rO3))
   have rTq:NtR y2 T:=at_rds d2 (Rds.star (Rds.star rT3))
   have hLj:Lcl (Star (ObjA jb (rzO q.vd q.p.1 q.c q.e)) (Star (OwnA sv 38 4 rzE qs) B3)):=Lcl.obj.star hLs
   obtain ⟨qvd,qp,qout,qc,qe⟩:=q
   rcases res_best hT.g hdok hdcl hdl hokq with ⟨h31,h32,h33,_⟩ | ⟨h31,h32,h33,hb2⟩ | ⟨h31,hb2,hcb,z,hz,hrun⟩
   ·simp at h31 h32 h33
    subst h31 h32 h33
    have hne:¬ (qe < 0):=by simpa using heq
    simp [g2,g5,g6,g8,g10,g12,g52,hck,hlk,cell_blk oj,oq.len,hne]
    exact ⟨by simp [g2],by simp [g5],by simp [g6],by simp [g8],by simp [g10],by simp [g12],by simp [g52],d2.drop⟩
   ·simp at h31 h32 h33
    subst h31 h32 h33
    simp [g2,g5,g6,g8,g10,g12,g52,hck,hlk,cell_blk oj,rd_c4 oj,rd_tk otq,raw_vv,raw_ov]
    refine cl_of (bresult_none T qp.1 best qe oq (by rw [hbest,hb2]; exact Nat.le_refl _)) ?_
    rintro _ y3 ⟨rfl,k3⟩
    simp [g2,g5,g6,g8,g10,g12,g52,hck,hlk]
    exact ⟨by simp [g2],by simp [g5],by simp [g6],by simp [g8],by simp [g10],by simp [g12],by simp [g52],(d2.kp0 hLj k3).drop⟩
   ·simp at h31
    subst h31
    have hbc:best=qc:=by rw [hbest,hb2]
    have hcb':qc≤2000000000:=hcb
    simp [g2,g5,g6,g8,g10,g12,g52,hck,hlk,cell_blk oj,rd_c4 oj,rd_tk otq,raw_vv,raw_ov]
    rw [hbc]
    refine cl_of (bresult_solved T qp.1 qout z qc qe rTq hT.g oq holq hrun hz (by omega)) ?_
    rintro _ y3 ⟨rfl,k3⟩
    simp [g2,g5,g6,g8,g10,g12,g52,hck,hlk]
    exact ⟨by simp [g2],by simp [g5],by simp [g6,hbc],by simp [g8],by simp [g10],by simp [g12],by simp [g52],(d2.kp0 hLj k3).drop⟩
  ·rintro ρ y1 ⟨g2,g5,g6,g8,g10,g12,g52,c1'⟩
   have hLs:Lcl (Star (OwnA sv 38 4 rzE qs) B3):=Lcl.own.star hLB3
   have otq:y1.heap[tb]?=some (tkO T.raw):=at_rds c1' (Rds.star rO3)
   have rTs:Rds (Star (OwnA sv 38 4 rzE qs) B3) fun w'=>NtR w' T:=Rds.star rT3
   have rKs:Rds (Star (OwnA sv 38 4 rzE qs) B3) fun w'=>Kp [] w w':=Rds.star (by rw [hB3,hB2,hB1]; exact RzA.rds (RzA.rds (RzA.rds rK)))
   simp [g2,g5,g6,g8,g10,g12,rd_tk otq,raw_vv,raw_ov]
   refine cl_of (blayers_spec 10 10 (by decide) hS hLs c1' rTs) ?_
   rintro _ y2 (⟨rfl,_,d2⟩ | ⟨lv,lay,dd,rfl,_,_,_,_,d2⟩)
   ·have kk2:=at_rds d2 rKs
    simp [g2,g5,g6,g8,g10,g12,berrV]
    refine cl_of (is_err 10 10 y2) ?_
    rintro _ y3 ⟨rfl,k3⟩
    simp
    exact kk2.trans k3
   ·have kk2:=at_rds d2 (Rds.star rKs)
    simp [g2,g5,g6,g8,g10,g12]
    exact kk2
end Go.Proofs.YtkhfdmelcpfgoaaGreat
end
section
set_option maxRecDepth 100000
set_option linter.unusedSimpArgs false
set_option linter.unusedVariables false
namespace Go.Rx
open Go Go.W Go.Tk
end Go.Rx
namespace Go.Proofs.YtkhfdmelcpfgoaaGreat
open Go Go.W Go.Tk Go.Rx Go.Maps
def hM (T:Nt) (vS:List Nat→Nat→Nat) (s:List Nat):Nat:=grF T.vars (vS s) T.goal
def hI (T:Nt) (vS:List Nat→Nat→Nat) (i:Nat):Nat:=match (stsK T.vars T.vars.length)[i]? with | some s=>hM T vS s | none=>0
end Go.Proofs.YtkhfdmelcpfgoaaGreat
end
section
set_option linter.unusedVariables false
set_option linter.unusedSimpArgs false
namespace Go.W
open Go Go.ChangeShapes Go.WideShapes Go.ChangeAt Go.RowKit Go.Deep
section
variable {H:Type} {enc:TypeId × Value→H} {P:Program}
theorem el_vw {α:Type} {encα:α→List Value} {ok:α→Prop} {W:World} {t e:TypeId} {sz:Nat} {v:Value} {fu:Nat} {x:DataW H × List MemPlace} (ht:P.underlying t=some (.slice e)) (hC:P.cellsOf e=sz) (hz:0 < sz) (he:∀ x,(encα x).length=sz)
  (hel:∀ n cs x,cs.length=sz→DataW.trod enc P W 0 (fun _=>true) true n e cs=some x→∃ a,cs=encα a∧ok a)
  (h:DataW.trod enc P W 0 (fun _=>true) true fu t [v]=some x) :
  ∃ l:List α,Vw W v encα l∧(∀ a ∈ l,ok a)∧l.length≤maxLen:=by
 rcases open_slice ht h with ⟨hcs,hx⟩ | ⟨a,len,cap,m,n,D,Pl,hcs,hb,hl,hm,hmm,hx,hi⟩
 ·simp at hcs
  subst hcs
  exact ⟨[],Vw.nil _ _,by simp,by simp⟩
 ·simp at hcs
  subst hcs
  simp only [if_true] at hmm
  subst hmm
  obtain ⟨n0,hn0⟩:∃ n0,n0=len:=⟨_,rfl⟩
  rw [← hn0] at hl ⊢
  have key:∀ k,k≤m→∃ l:List α,l.length=k∧(∀ x ∈ l,ok x)∧∀ j u,(l.flatMap encα)[j]?=some u→W.cell? (a.add j)=some u:=by
   intro k
   induction k with
   | zero=>exact fun _=>⟨[],rfl,by simp,by simp⟩
   | succ k ih =>
    intro hk
    obtain ⟨l,hll,ho,hc⟩:=ih (by omega)
    obtain ⟨cs,hcs,htr⟩:=hi k (by omega)
    rw [hC] at hcs
    obtain ⟨_,hlen,hat⟩:=World.cells?_some hcs
    obtain ⟨x,rfl,hox⟩:=hel _ _ _ hlen htr
    refine ⟨l ++ [x],by simp [hll],?_,?_⟩
    ·intro y hy
     rcases List.mem_append.1 hy with h1 | h1
     ·exact ho y h1
     ·simp at h1; subst h1; exact hox
    ·intro j u hj
     rw [List.flatMap_append,List.flatMap_cons,List.flatMap_nil,List.append_nil] at hj
     have hfl:=flatMap_len he l
     rw [hll] at hfl
     by_cases hjl:j < k * sz
     ·rw [List.getElem?_append_left (by omega)] at hj
      exact hc j u hj
     ·rw [List.getElem?_append_right (by omega),hfl] at hj
      have hjs:j - k * sz < sz:=by have h9:=(List.getElem?_eq_some_iff.1 hj).1; rw [he x] at h9; exact h9
      have:=hat (j - k * sz) hjs
      rw [Go.Deep.add_add,show k * sz+(j - k * sz)=j by omega] at this
      rw [this]; exact hj
  obtain ⟨l,hll,ho,hc⟩:=key m (Nat.le_refl _)
  have hvw:Vw W (.slice (some a) n0 m) encα (l.take n0):=by
   have hlen:(l.take n0).length=n0:=by simp; omega
   refine .inr ⟨a,m,by rw [hlen],by omega,fun hne=>?_,fun j u hj=>hc j u ?_⟩
   ·have hn0:0 < n0:=by
     rcases Nat.eq_zero_or_pos n0 with h0 | h0
     ·subst h0; simp at hne
     ·exact h0
    obtain ⟨cs,hcs,_⟩:=hi 0 (by omega)
    rw [hC] at hcs
    obtain ⟨_,hlen',hat⟩:=World.cells?_some hcs
    have h1:=hat 0 hz
    rw [List.getElem?_eq_getElem (by omega)] at h1
    have:=World.cell?_spot h1
    rw [Go.Deep.add_add] at this
    simp at this
    simpa [Addr.add] using this
   ·have:l.flatMap encα=(l.take n0).flatMap encα ++ (l.drop n0).flatMap encα:=by rw [← List.flatMap_append,List.take_append_drop]
    rw [this,List.getElem?_append_left (List.getElem?_eq_some_iff.1 hj).1]
    exact hj
  exact ⟨_,hvw,fun x hx=>ho x (List.mem_of_mem_take hx),by rw [List.length_take]; omega⟩
end
end Go.W
end
section
set_option maxRecDepth 100000
set_option linter.unusedSimpArgs false
set_option linter.unusedVariables false
namespace Go.Proofs.YtkhfdmelcpfgoaaGreat
open Go Go.W Go.Tk Go.Rx Go.ChangeShapes Go.WideShapes Go.ChangeAt Go.RowKit
theorem own:ownKnob Tryz.prog.godebug=none:=by kernel_rfl
theorem laidOut:laidOutB Tryz.prog=true:=by kernel_rfl
section
variable {H:Type} {enc:TypeId × Value→H}
theorem el_int {W:World} (n:Nat) (cs:List Value) (x:DataW H × List MemPlace) (hl:cs.length=1) (h:DataW.trod enc Tryz.prog W 0 (fun _=>true) true n 3 cs=some x):∃ a:Int,cs=iE a∧zok a:=by
 obtain ⟨a,ha,_,wa⟩:=DataW.trod_int Tryz.underlying3 h
 have h1:IntKind.i64.min=-9223372036854775808:=rfl
 have h2:IntKind.i64.max=9223372036854775807:=rfl
 simp only [Lit.wf,Bool.and_eq_true,decide_eq_true_eq] at wa
 exact ⟨a,ha,by unfold zok; omega⟩
theorem el_fact {W:World} (n:Nat) (cs:List Value) (x:DataW H × List MemPlace) (hl:cs.length=2) (h:DataW.trod enc Tryz.prog W 0 (fun _=>true) true n 92 cs=some x):∃ a:Fa,cs=faE a∧True:=by
 obtain ⟨xs,m,rfl,_,_,hxl,hg⟩:=DataW.trod_struct Tryz.underlying92 h
 have hc:Tryz.prog.cellsOf 3=1:=by kernel_rfl
 match cs,hl with
 | [u,v],_ =>
  have hx2:xs.length=2:=hxl
  have h0:=hg 0 _ rfl
  have h1:=hg 1 _ rfl
  rw [List.getElem?_eq_getElem (by omega)] at h0 h1
  obtain ⟨a,ha,_,wa⟩:=DataW.trod_int Tryz.underlying3 h0
  obtain ⟨b,hb,_,wb⟩:=DataW.trod_int Tryz.underlying3 h1
  replace ha:List.take (Tryz.prog.cellsOf 3) [u,v]=[.int .i64 a]:=ha
  replace hb:List.take (Tryz.prog.cellsOf 3) [v]=[.int .i64 b]:=hb
  rw [hc] at ha hb
  simp at ha hb
  subst ha hb
  exact ⟨(a,b),rfl,trivial⟩
theorem el_facts {W:World} {n:Nat} {c:Value} {x:DataW H × List MemPlace} (h:DataW.trod enc Tryz.prog W 0 (fun _=>true) true n 23 [c]=some x):∃ l:List Fa,Vw W c faE l∧l.length≤maxLen:=by
 obtain ⟨l,h1,_,h2⟩:=el_vw (encα:=faE) (ok:=fun _=>True) (sz:=2) Tryz.underlying23 (by kernel_rfl) (by omega) faE_len el_fact h
 exact ⟨l,h1,h2⟩
theorem el_ints {W:World} {n:Nat} {c:Value} {x:DataW H × List MemPlace} (h:DataW.trod enc Tryz.prog W 0 (fun _=>true) true n 22 [c]=some x):∃ l:List Int,Vw W c iE l∧(∀ z ∈ l,zok z)∧l.length≤maxLen :=
 el_vw (encα:=iE) (ok:=zok) (sz:=1) Tryz.underlying22 (by kernel_rfl) (by omega) iE_len el_int h
theorem el_eff {W:World} (n:Nat) (cs:List Value) (x:DataW H × List MemPlace) (hl:cs.length=3) (h:DataW.trod enc Tryz.prog W 0 (fun _=>true) true n 90 cs=some x):∃ e:Ef,cs=efE e∧(Vw W e.wv.1 faE e.cnd∧e.cnd.length≤maxLen):=by
 obtain ⟨xs,m,rfl,_,_,hxl,hg⟩:=DataW.trod_struct Tryz.underlying90 h
 have hc:Tryz.prog.cellsOf 3=1:=by kernel_rfl
 have hf:Tryz.prog.cellsOf 23=1:=by kernel_rfl
 match cs,hl with
 | [u,v,w],_ =>
  have hx2:xs.length=3:=hxl
  have h0:=hg 0 _ rfl
  have h1:=hg 1 _ rfl
  have h2:=hg 2 _ rfl
  rw [List.getElem?_eq_getElem (by omega)] at h0 h1 h2
  replace h0:DataW.trod enc Tryz.prog W 0 (fun _=>true) true m 23 (List.take (Tryz.prog.cellsOf 23) [u,v,w])=_:=h0
  rw [hf] at h0
  simp only [List.take_succ_cons,List.take_zero] at h0
  obtain ⟨l,hv,hlen⟩:=el_facts h0
  obtain ⟨a,ha,_,wa⟩:=DataW.trod_int Tryz.underlying3 h1
  obtain ⟨b,hb,_,wb⟩:=DataW.trod_int Tryz.underlying3 h2
  replace ha:List.take (Tryz.prog.cellsOf 3) [v,w]=[.int .i64 a]:=ha
  replace hb:List.take (Tryz.prog.cellsOf 3) [w]=[.int .i64 b]:=hb
  rw [hc] at ha hb
  simp at ha hb
  subst ha hb
  exact ⟨⟨⟨u,hv.o1⟩,l,a,b⟩,rfl,hv,hlen⟩
theorem el_op {W:World} (n:Nat) (cs:List Value) (x:DataW H × List MemPlace) (hl:cs.length=4) (h:DataW.trod enc Tryz.prog W 0 (fun _=>true) true n 50 cs=some x):∃ o:Oq,cs=oqE o∧(OqR W o∧o.name.size≤maxLen∧o.pre.length≤maxLen∧o.effs.length≤maxLen∧∀ e ∈ o.effs,e.cnd.length≤maxLen):=by
 obtain ⟨xs,m,rfl,_,_,hxl,hg⟩:=DataW.trod_struct Tryz.underlying50 h
 have hs:Tryz.prog.cellsOf 9=1:=by kernel_rfl
 have hc:Tryz.prog.cellsOf 3=1:=by kernel_rfl
 have hf:Tryz.prog.cellsOf 23=1:=by kernel_rfl
 have he:Tryz.prog.cellsOf 48=1:=by kernel_rfl
 match cs,hl with
 | [u,v,w,z],_ =>
  have hx2:xs.length=4:=hxl
  have h0:=hg 0 _ rfl
  have h1:=hg 1 _ rfl
  have h2:=hg 2 _ rfl
  have h3:=hg 3 _ rfl
  rw [List.getElem?_eq_getElem (by omega)] at h0 h1 h2 h3
  obtain ⟨nm,hn,_,wn⟩:=DataW.trod_string Tryz.underlying9 h0
  obtain ⟨a,ha,_,wa⟩:=DataW.trod_int Tryz.underlying3 h1
  replace hn:List.take (Tryz.prog.cellsOf 9) [u,v,w,z]=[.string nm]:=hn
  replace ha:List.take (Tryz.prog.cellsOf 3) [v,w,z]=[.int .i64 a]:=ha
  replace h2:DataW.trod enc Tryz.prog W 0 (fun _=>true) true m 23 (List.take (Tryz.prog.cellsOf 23) [w,z])=_:=h2
  replace h3:DataW.trod enc Tryz.prog W 0 (fun _=>true) true m 48 (List.take (Tryz.prog.cellsOf 48) [z])=_:=h3
  rw [hs] at hn
  rw [hc] at ha
  rw [hf] at h2
  rw [he] at h3
  simp only [List.take_succ_cons,List.take_zero] at h2 h3
  simp at hn ha
  subst hn ha
  obtain ⟨pl,hp1,hp2⟩:=el_facts h2
  obtain ⟨el,he1,he2,he3⟩:=el_vw (encα:=efE) (ok:=fun e:Ef=>Vw W e.wv.1 faE e.cnd∧e.cnd.length≤maxLen) (sz:=3) Tryz.underlying48 (by kernel_rfl) (by omega) efE_len el_eff h3
  exact ⟨⟨nm,a,⟨w,hp1.o1⟩,pl,⟨z,he1.o1⟩,el⟩,rfl,⟨hp1,he1,fun e h=>(he2 e h).1⟩,wn,hp2,he3,fun e h=>(he2 e h).2⟩
theorem open_task {W:World} {b:Nat} {v:Value} {d:DataW H} {ps:List MemPlace} (hv:Value.okWide Tryz.prog W .any b 26 v) (h:DataW.Trod enc Tryz.prog W 0 (fun _=>true) true 26 v d ps):∃ t:Tk,v=tkV t∧TkR W t∧TkL t:=by
 simp only [Value.okWide,Tryz.underlying26] at hv
 obtain ⟨cs,rfl,hcs,_⟩:=hv
 have h4:Tryz.prog.cellsOf 26=4:=by kernel_rfl
 rw [h4] at hcs
 obtain ⟨n,h⟩:=h
 obtain ⟨xs,m,rfl,_,_,hxl,hg⟩:=DataW.trod_struct Tryz.underlying26 h
 have hc:Tryz.prog.cellsOf 22=1:=by kernel_rfl
 have hf:Tryz.prog.cellsOf 23=1:=by kernel_rfl
 have ho:Tryz.prog.cellsOf 24=1:=by kernel_rfl
 have hl:cs.toList.length=4:=by simpa using hcs
 have e:(Value.agg cs).cells.toList=cs.toList:=rfl
 rw [e] at hg
 match hcl:cs.toList,hl with
 | [u0,u1,u2,u3],_ =>
  rw [hcl] at hg
  have hx2:xs.length=4:=hxl
  have h0:=hg 0 _ rfl
  have h1:=hg 1 _ rfl
  have h2:=hg 2 _ rfl
  have h3:=hg 3 _ rfl
  rw [List.getElem?_eq_getElem (by omega)] at h0 h1 h2 h3
  replace h0:DataW.trod enc Tryz.prog W 0 (fun _=>true) true m 22 (List.take (Tryz.prog.cellsOf 22) [u0,u1,u2,u3])=_:=h0
  replace h1:DataW.trod enc Tryz.prog W 0 (fun _=>true) true m 22 (List.take (Tryz.prog.cellsOf 22) [u1,u2,u3])=_:=h1
  replace h2:DataW.trod enc Tryz.prog W 0 (fun _=>true) true m 23 (List.take (Tryz.prog.cellsOf 23) [u2,u3])=_:=h2
  replace h3:DataW.trod enc Tryz.prog W 0 (fun _=>true) true m 24 (List.take (Tryz.prog.cellsOf 24) [u3])=_:=h3
  rw [hc] at h0 h1
  rw [hf] at h2
  rw [ho] at h3
  simp only [List.take_succ_cons,List.take_zero] at h0 h1 h2 h3
  obtain ⟨vl,v1,_,v2⟩:=el_ints h0
  obtain ⟨nl,n1,_,n2⟩:=el_ints h1
  obtain ⟨gl,g1,g2⟩:=el_facts h2
  obtain ⟨ol,o1,o2,o3⟩:=el_vw (encα:=oqE) (ok:=fun o:Oq=>OqR W o∧o.name.size≤maxLen∧o.pre.length≤maxLen∧o.effs.length≤maxLen∧∀ e ∈ o.effs,e.cnd.length≤maxLen) (sz:=4) Tryz.underlying24 (by kernel_rfl) (by omega) oqE_len el_op h3
  have em:maxLen=9223372036854775807:=rfl
  refine ⟨⟨⟨u0,v1.o1⟩,⟨u1,n1.o1⟩,⟨u2,g1.o1⟩,⟨u3,o1.o1⟩,vl,nl,gl,ol⟩,?_,⟨v1,n1,g1,o1,fun o h=>(o2 o h).1⟩,⟨n2,g2,o3,v2,fun o h=>(o2 o h).2⟩⟩
  have:cs=#[u0,u1,u2,u3]:=by
   apply Array.toList_inj.1; rw [hcl]
  rw [this]; rfl
end
end Go.Proofs.YtkhfdmelcpfgoaaGreat
end
