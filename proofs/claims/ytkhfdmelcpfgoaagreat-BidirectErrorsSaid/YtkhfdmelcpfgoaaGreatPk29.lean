/-
  A part of the proof of this claim's statement (BjE, RxYL, BjG, BjH, BjI, BjJ, RxYM, LibN, RxZA): plain theorems; no conditions beyond those each names.
-/
import Derived.Test.YtkhfdmelcpfgoaaGreatPk28
import Derived.Test.YtkhfdmelcpfgoaaGreatPk21
import Derived.Test.YtkhfdmelcpfgoaaGreatPk08
import Derived.Test.YtkhfdmelcpfgoaaGreatPk07
import Derived.HandedShaped
import Derived.Shelf.Vars
import Derived.OpenShut
import Derived.Test.YtkhfdmelcpfgoaaGreatRows
section
set_option maxRecDepth 100000
set_option linter.unusedSimpArgs false
set_option linter.unusedVariables false
namespace Go.Proofs.YtkhfdmelcpfgoaaGreat
open Go Go.W Go.Tk Go.Rx Go.Bd Go.Sy Go.Maps
section
variable {w w1:World} {F:List Nat} {B:Asr}
set_option maxHeartbeats 2000000 in
theorem bawake_spec (hB:Lcl B) (h:At w F B w1):Calls Tryz.prog 9 [].toArray w1 fun en w'=>∃ v,en=.returned v∧v=.bool true∧At w F B w':=by
 refine enter Tryz.func9 mixed low9 (Nat.le_of_ble_eq_true rfl) ?_
 simp only [L9]
 simp
 refine cl_of (bchain_spec 4 2 (by omega) (by omega) hB h) ?_
 rintro _ w2 ⟨T,rfl,hv,hi,hgl,hops,h2⟩
 have hch:Ch4 T:=⟨hv,hi,hgl,hops⟩
 have hL2:Lcl (Star (TskA T) B):=TskA.lcl.star hB
 obtain ⟨kb,hkb⟩:∃ kb,kb=w2.heap.size:=⟨_,rfl⟩
 have h3:=h2.alloc (.cells #[.slice none 0 0,.slice none 0 0,.slice none 0 0,.slice none 0 0] 26 (0,0)) hL2
 rw [← hkb] at h3
 simp [ntV,← hkb]
 refine h3.st hL2 (by simp) (by simp [T.vv.2,T.nv.2,T.gv.2,T.ov.2]) fun w3 h4=>?_
 replace h4:At w F (Star (ObjA kb (ntO T)) (Star (TskA T) B)) w3:=by simpa [ntO] using h4
 have ok4:=h4.obj
 unfold ntO at ok4
 have hL4:Lcl (Star (ObjA kb (ntO T)) (Star (TskA T) B)):=Lcl.obj.star hL2
 have rT:Rds (Star (ObjA kb (ntO T)) (Star (TskA T) B)) fun w'=>NtR w' T:=Rds.star TskA.rd
 have rK:Rds (Star (ObjA kb (ntO T)) (Star (TskA T) B)) fun w'=>w'.heap[kb]?=some (ntO T):=Rds.obj
 have ok4':=ok4
 rw [hkb] at ok4'
 simp [rd_c4 ok4,rd_c4 ok4']
 refine cl_of (bsearch_spec hch.sic hL4 h4 rT) ?_
 rintro _ w4 ⟨vd,p,out,c,e,rfl,hok,he,hol,h5⟩
 obtain ⟨rfl,rfl,z,hz,hrun⟩:=hch.res hok
 have hL5:Lcl (Star (OwnA p 3 1 nE out) (Star (ObjA kb (ntO T)) (Star (TskA T) B))):=Lcl.own.star hL4
 have hpo:oneC p=true:=at_rds h5 Rds.own1
 obtain ⟨rb,hrb⟩:∃ rb,rb=w4.heap.size:=⟨_,rfl⟩
 have h6:=h5.alloc (resO 0 (.slice none 0 0) 0 0) hL5
 rw [← hrb] at h6
 simp [resZ,← hrb]
 refine At.st hL5 h6 (by simp) (by simp [hpo]) fun w5 h7=>?_
 simp [resO] at h7
 have ok7:=at_rds h7 (Rds.star (Rds.star rK))
 unfold ntO at ok7
 have hL7:Lcl (Star (ObjA rb (.cells #[.int .i64 1,p,.int .i64 6,.int .i64 e] 38 (0,0))) (Star (OwnA p 3 1 nE out) (Star (ObjA kb (ntO T)) (Star (TskA T) B)))):=Lcl.obj.star hL5
 have ok7':=ok7
 rw [hkb] at ok7'
 simp [rd_c4 ok7,rd_c4 ok7']
 refine cl_of (blayers_spec 6 6 (by decide) hch.sic hL7 h7 (Rds.star (Rds.star rT))) ?_
 rintro _ w6 (⟨rfl,hf,_⟩ | ⟨l,lay,d,rfl,hdb,hdg,hdo,hdl,h8⟩)
 ·exact absurd hf hch.full
 have elay:=hch.lay hdb hdg hdo hdl
 subst elay
 have ok8:=at_rds h8 (Rds.star (Rds.star (Rds.star rK)))
 unfold ntO at ok8
 have or8:=at_rds h8 (Rds.star Rds.obj)
 have hp8:Vw w6 p nE out:=at_rds h8 (Rds.star (Rds.star Rds.own))
 have hr8:NtR w6 T:=at_rds h8 (Rds.star (Rds.star (Rds.star rT)))
 have ok8':=ok8
 rw [hkb] at ok8'
 have or8':=or8
 rw [hrb] at or8'
 simp [rd_c4 ok8,rd_c4 or8,rd_c4 ok8',rd_c4 or8']
 refine cl_of (bresult_solved T p out z 6 e hr8 hch.ng hp8 hol hrun hz (by omega)) ?_
 rintro _ w7 ⟨rfl,k7⟩
 have hL8:Lcl (Star (OwnA l 3 1 nE [1,0,1,0,1,0,1]) (Star (ObjA rb (.cells #[.int .i64 1,p,.int .i64 6,.int .i64 e] 38 (0,0))) (Star (OwnA p 3 1 nE out) (Star (ObjA kb (ntO T)) (Star (TskA T) B))))):=Lcl.own.star hL7
 have h9:=h8.kp0 hL8 k7
 have h10:=h9.lit (xs:=[1,0,1,0,1,0,1]) (enc:=nE) (E:=3) (sz:=1) (cs:=#[.int .i64 1,.int .i64 0,.int .i64 1,.int .i64 0,.int .i64 1,.int .i64 0,.int .i64 1]) (m:=7) hL8 (by simp [nE]) nE_len (by simp [maxLen]) rfl
 have hv1:=vw_n.2 (at_rds h10 Rds.own)
 have hv2:=vw_n.2 (at_rds h10 (Rds.star Rds.own))
 simp [rowOf]
 refine cl_of (ints_spec _ _ _ _ hv2 hv1 (by simp) (by simp)) ?_
 rintro _ w8 ⟨rfl,k8⟩
 simp
 exact (h10.kp0 (Lcl.own.star hL8) k8).drop.drop.drop.drop.drop.drop
end
end Go.Proofs.YtkhfdmelcpfgoaaGreat
end
section
set_option maxRecDepth 100000
set_option linter.unusedSimpArgs false
set_option linter.unusedVariables false
namespace Go.Rx
open Go Go.W Go.Tk
theorem getD_set_ne {d:List Nat} {i j x:Nat} (h:i≠j):(d.set i x).getD j 0=d.getD j 0:=by simp only [List.getD,List.getElem?_set_ne h]
end Go.Rx
namespace Go.Proofs.YtkhfdmelcpfgoaaGreat
open Go Go.W Go.Tk Go.Rx Go.Maps
def goalB (T:Nt) (i:Nat):Bool:=match (stsK T.vars T.vars.length)[i]? with | some s=>hdB s T.goal | none=>false
def d0 (T:Nt) (i:Nat):Nat:=if goalB T i=true then 0 else Inf
end Go.Proofs.YtkhfdmelcpfgoaaGreat
end
section
set_option maxRecDepth 100000
set_option linter.unusedSimpArgs false
set_option linter.unusedVariables false
namespace Go.Proofs.YtkhfdmelcpfgoaaGreat
open Go Go.W Go.Tk Go.Rx Go.Bd Go.Sy Go.Maps
def hR (T:Nt) (H:List Nat→Nat) (i:Nat):Nat:=match (stsK T.vars T.vars.length)[i]? with | some s=>min Inf (H s) | none=>0
section
variable {T:Nt} {d:List Nat}
end
end Go.Proofs.YtkhfdmelcpfgoaaGreat
end
section
set_option maxRecDepth 100000
set_option linter.unusedSimpArgs false
set_option linter.unusedVariables false
namespace Go.Proofs.YtkhfdmelcpfgoaaGreat
open Go Go.W Go.Tk Go.Rx Go.Bd Go.Sy Go.Maps
def OldA (w0:World):Asr:=fun w F=>F=List.range w0.heap.size∧Kp [] w0 w
theorem OldA.lcl {w0:World}:Lcl (OldA w0):=by
 refine ⟨?_,?_⟩
 ·rintro w F ⟨rfl,k⟩ x hx
  have:=List.mem_range.1 hx
  have:=k.size
  omega
 ·rintro w F G w' ⟨rfl,k⟩ hk hG
  exact ⟨rfl,k.trans' hk fun x hx=>by
   by_cases h:x < w0.heap.size
   ·exact absurd hx (hG x (List.mem_range.2 h))
   ·exact .inr (by omega)⟩
theorem OldA.start (w:World):At w (List.range w.heap.size) (OldA w) w:=At.start ⟨rfl,Kp.refl _ _⟩
theorem OldA.rds {w0:World} {P:World→Prop} (h:∀ w',Kp [] w0 w'→P w'):Rds (OldA w0) P:=fun w' F hs=>h w' hs.2
end Go.Proofs.YtkhfdmelcpfgoaaGreat
end
section
set_option maxRecDepth 100000
set_option linter.unusedSimpArgs false
set_option linter.unusedVariables false
namespace Go.Proofs.YtkhfdmelcpfgoaaGreat
open Go Go.W Go.Tk Go.Rx Go.Bd Go.Sy Go.Maps
def ErrC (t:Tk) (size c:Int):Prop :=
 chkC t=some c∨(chkC t=none∧(size < 1∨1048576 < size)∧c=1)∨(∃ T,t=T.raw∧NtG T∧goodB T.raw=true∧1≤size∧size≤1048576∧100 < nBits T.vars∧c=5)
theorem chk_ne10 {t:Tk} {c:Int} (h:chkC t=some c):c≠0∧c≠10:=by
 unfold chkC at h
 repeat' split at h
 all_goals first
  | (cases h; decide)
  | cases h
theorem ErrC.ne {t:Tk} {size c:Int} (h:ErrC t size c):c≠0∧c≠10:=by
 rcases h with h | ⟨_,_,rfl⟩ | ⟨_,_,_,_,_,_,_,rfl⟩
 ·exact chk_ne10 h
 ·decide
 ·decide
set_option maxHeartbeats 1000000 in
theorem snew_fail {w:World} (t:Tk) (size c:Int) (ht:TkR w t) (hl:TkL t) (h:ErrC t size c) :
  Calls Tryz.prog 28 [tkV t,.int .i64 size].toArray w fun e w'=>∃ x,e=.returned x∧x=.tuple #[.pointer none,errV c]∧Kp [] w w':=by
 rcases h with h | ⟨h,hs,rfl⟩ | ⟨T,rfl,hg,hgd,h1,h2,hb,rfl⟩
 rotate_left 2
 ·obtain ⟨L,rfl⟩:∃ L:Nat,size=(L:Nat):=⟨size.toNat,by omega⟩
  have hr:Rds (OldA w) fun w'=>NtR w' T:=OldA.rds fun w' k=>(NtR.raw.1 ht).kp k
  refine Calls.mono (snew_spec T L OldA.lcl (OldA.start w) hr hg hgd hl (by omega) (by omega) (newW (W:=tru) fun G h=>trivial)) ?_
  rintro e w' ⟨v,rfl,⟨_,rfl,h⟩ | ⟨hn,_⟩⟩
  ·exact ⟨_,rfl,rfl,at_rds h (OldA.rds fun w' k=>k)⟩
  ·omega
 all_goals
  refine enter Tryz.func28 mixed low28 (Nat.le_of_ble_eq_true rfl) ?_
  simp only [L28]
  obtain ⟨tb,htb⟩:∃ tb,tb=w.heap.size:=⟨_,rfl⟩
  obtain ⟨w1,hw1⟩:∃ w1,w1=w.alloc (tkO t):=⟨_,rfl⟩
  have k1:Kp [] w w1:=by rw [hw1]; exact (Kp.refl [] w).alloc _
  have hw1':w.alloc (.cells #[t.vv.1,t.nv.1,t.gv.1,t.ov.1] 26 (0,0))=w1:=by rw [hw1]; rfl
  have ob1:w1.heap[tb]?=some (tkO t):=by rw [htb,hw1]; exact alloc_new
  simp [tkV,← htb,hw1',rd_tk ob1]
  refine cl_of (tcheck_spec t (ht.kp k1) hl) ?_
  rintro _ w2 ⟨rfl,k2⟩
  rw [h]
 ·simp [chkV,errV]
  exact k1.trans k2
 ·by_cases c1:size < 1
  ·simp [chkV,errV,c1]
   exact k1.trans k2
  ·have c2:1048576 < size:=by omega
   simp [chkV,errV,c1,c2]
   exact k1.trans k2
def failV (c:Int):Value:=.tuple #[resV 0 (.slice none 0 0) 0 0,errV c]
set_option maxHeartbeats 1000000 in
theorem bsingle_fail {w:World} (t:Tk) (size c:Int) (bw:Bool) (ht:TkR w t) (hl:TkL t) (h:ErrC t size c) :
  Calls Tryz.prog 33 [tkV t,.int .i64 size,.bool bw].toArray w fun e w'=>∃ x,e=.returned x∧x=failV c∧Kp [] w w':=by
 refine enter Tryz.func33 mixed low33 (Nat.le_of_ble_eq_true rfl) ?_
 simp only [L33]
 obtain ⟨n0,n10⟩:=h.ne
 have b10:(c == 10)=false:=beq_eq_false_iff_ne.2 n10
 obtain ⟨tb,htb⟩:∃ tb,tb=w.heap.size:=⟨_,rfl⟩
 obtain ⟨w2,hw2⟩:∃ w2,w2=w.alloc (tkO t):=⟨_,rfl⟩
 have hw2':w.alloc (.cells #[t.vv.1,t.nv.1,t.gv.1,t.ov.1] 26 (0,0))=w2:=by rw [hw2]; rfl
 have h2:At w [] (Star (ObjA tb (tkO t)) Emp) w2:=by rw [htb,hw2]; exact (At.start rfl).alloc _ .emp
 obtain ⟨rb,hrb⟩:∃ rb,rb=w2.heap.size:=⟨_,rfl⟩
 obtain ⟨w3,hw3⟩:∃ w3,w3=w2.alloc (resO 0 (.slice none 0 0) 0 0):=⟨_,rfl⟩
 have hLt:Lcl (Star (ObjA tb (tkO t)) Emp):=Lcl.obj.star .emp
 have h3:At w [] (Star (ObjA rb (resO 0 (.slice none 0 0) 0 0)) (Star (ObjA tb (tkO t)) Emp)) w3:=by rw [hrb,hw3]; exact h2.alloc _ hLt
 have hw3':w2.alloc (.cells #[.int .i64 0,.slice none 0 0,.int .i64 0,.int .i64 0] 38 (0,0))=w3:=by rw [hw3]; rfl
 have ot:=h3.drop.obj
 simp [tkV,← htb,hw2',← hrb,hw3',rd_tk ot]
 refine cl_of (snew_fail t size c (ht.kp h3.kp) hl h) ?_
 rintro _ w4 ⟨rfl,k4⟩
 have h4:=h3.kp0 (Lcl.obj.star hLt) k4
 simp [errV,ic_errno,b10]
 refine (show At w [] (Star (ObjA rb (.cells #[.int .i64 0,.slice none 0 0,.int .i64 0,.int .i64 0] 38 (0,0))) (Star (ObjA tb (tkO t)) Emp)) w4 from h4).st hLt (by simp) (by simp) fun wE hE2=>?_
 replace hE2:At w [] (Star (ObjA rb (resO 0 (.slice none 0 0) 0 0)) (Star (ObjA tb (tkO t)) Emp)) wE:=by simpa [resO] using hE2
 have oE:=hE2.obj
 unfold resO at oE
 simp
 refine postL_c2 ag_38 (by simp) oE (by simp) rfl ?_
 exact ⟨_,rfl,rfl,hE2.kp⟩
set_option maxHeartbeats 1000000 in
theorem bforward_fail {w:World} (t:Tk) (size c:Int) (ht:TkR w t) (hl:TkL t) (h:ErrC t size c) :
  Calls Tryz.prog 14 [tkV t,.int .i64 size].toArray w fun e w'=>∃ x,e=.returned x∧x=failV c∧Kp [] w w':=by
 refine enter Tryz.func14 mixed low14 (Nat.le_of_ble_eq_true rfl) ?_
 simp only [L14]
 obtain ⟨tb,htb⟩:∃ tb,tb=w.heap.size:=⟨_,rfl⟩
 obtain ⟨w2,hw2⟩:∃ w2,w2=w.alloc (tkO t):=⟨_,rfl⟩
 have hw2':w.alloc (.cells #[t.vv.1,t.nv.1,t.gv.1,t.ov.1] 26 (0,0))=w2:=by rw [hw2]; rfl
 have h2:At w [] (Star (ObjA tb (tkO t)) Emp) w2:=by rw [htb,hw2]; exact (At.start rfl).alloc _ .emp
 obtain ⟨rb,hrb⟩:∃ rb,rb=w2.heap.size:=⟨_,rfl⟩
 obtain ⟨w3,hw3⟩:∃ w3,w3=w2.alloc (resO 0 (.slice none 0 0) 0 0):=⟨_,rfl⟩
 have hLt:Lcl (Star (ObjA tb (tkO t)) Emp):=Lcl.obj.star .emp
 have h3:At w [] (Star (ObjA rb (resO 0 (.slice none 0 0) 0 0)) (Star (ObjA tb (tkO t)) Emp)) w3:=by rw [hrb,hw3]; exact h2.alloc _ hLt
 have hw3':w2.alloc (.cells #[.int .i64 0,.slice none 0 0,.int .i64 0,.int .i64 0] 38 (0,0))=w3:=by rw [hw3]; rfl
 have ot:=h3.drop.obj
 simp [tkV,← htb,hw2',← hrb,hw3',rd_tk ot]
 refine cl_of (bsingle_fail t size c false (ht.kp h3.kp) hl h) ?_
 rintro _ w4 ⟨rfl,k4⟩
 have h4:=h3.kp0 (Lcl.obj.star hLt) k4
 simp [failV,resV]
 refine (show At w [] (Star (ObjA rb (.cells #[.int .i64 0,.slice none 0 0,.int .i64 0,.int .i64 0] 38 (0,0))) (Star (ObjA tb (tkO t)) Emp)) w4 from h4).st hLt (by simp) (by simp) fun wE hE2=>?_
 replace hE2:At w [] (Star (ObjA rb (resO 0 (.slice none 0 0) 0 0)) (Star (ObjA tb (tkO t)) Emp)) wE:=by simpa [resO] using hE2
 have oE:=hE2.obj
 unfold resO at oE
 simp
 refine postL_c2 ag_38 (by simp) oE (by simp) rfl ?_
 exact ⟨_,rfl,rfl,hE2.kp⟩
set_option maxHeartbeats 1000000 in
theorem bbackward_fail {w:World} (t:Tk) (size c:Int) (ht:TkR w t) (hl:TkL t) (h:ErrC t size c) :
  Calls Tryz.prog 17 [tkV t,.int .i64 size].toArray w fun e w'=>∃ x,e=.returned x∧x=failV c∧Kp [] w w':=by
 refine enter Tryz.func17 mixed low17 (Nat.le_of_ble_eq_true rfl) ?_
 simp only [L17]
 obtain ⟨tb,htb⟩:∃ tb,tb=w.heap.size:=⟨_,rfl⟩
 obtain ⟨w2,hw2⟩:∃ w2,w2=w.alloc (tkO t):=⟨_,rfl⟩
 have hw2':w.alloc (.cells #[t.vv.1,t.nv.1,t.gv.1,t.ov.1] 26 (0,0))=w2:=by rw [hw2]; rfl
 have h2:At w [] (Star (ObjA tb (tkO t)) Emp) w2:=by rw [htb,hw2]; exact (At.start rfl).alloc _ .emp
 obtain ⟨rb,hrb⟩:∃ rb,rb=w2.heap.size:=⟨_,rfl⟩
 obtain ⟨w3,hw3⟩:∃ w3,w3=w2.alloc (resO 0 (.slice none 0 0) 0 0):=⟨_,rfl⟩
 have hLt:Lcl (Star (ObjA tb (tkO t)) Emp):=Lcl.obj.star .emp
 have h3:At w [] (Star (ObjA rb (resO 0 (.slice none 0 0) 0 0)) (Star (ObjA tb (tkO t)) Emp)) w3:=by rw [hrb,hw3]; exact h2.alloc _ hLt
 have hw3':w2.alloc (.cells #[.int .i64 0,.slice none 0 0,.int .i64 0,.int .i64 0] 38 (0,0))=w3:=by rw [hw3]; rfl
 have ot:=h3.drop.obj
 simp [tkV,← htb,hw2',← hrb,hw3',rd_tk ot]
 refine cl_of (bsingle_fail t size c true (ht.kp h3.kp) hl h) ?_
 rintro _ w4 ⟨rfl,k4⟩
 have h4:=h3.kp0 (Lcl.obj.star hLt) k4
 simp [failV,resV]
 refine (show At w [] (Star (ObjA rb (.cells #[.int .i64 0,.slice none 0 0,.int .i64 0,.int .i64 0] 38 (0,0))) (Star (ObjA tb (tkO t)) Emp)) w4 from h4).st hLt (by simp) (by simp) fun wE hE2=>?_
 replace hE2:At w [] (Star (ObjA rb (resO 0 (.slice none 0 0) 0 0)) (Star (ObjA tb (tkO t)) Emp)) wE:=by simpa [resO] using hE2
 have oE:=hE2.obj
 unfold resO at oE
 simp
 refine postL_c2 ag_38 (by simp) oE (by simp) rfl ?_
 exact ⟨_,rfl,rfl,hE2.kp⟩
set_option maxHeartbeats 1000000 in
theorem bsearch_fail {w:World} (t:Tk) (size c:Int) (ht:TkR w t) (hl:TkL t) (h:ErrC t size c) :
  Calls Tryz.prog 18 [tkV t,.int .i64 size].toArray w fun e w'=>∃ x,e=.returned x∧x=failV c∧Kp [] w w':=by
 refine enter Tryz.func18 mixed low18 (Nat.le_of_ble_eq_true rfl) ?_
 simp only [L18]
 obtain ⟨n0,n10⟩:=h.ne
 have b10:(c == 10)=false:=beq_eq_false_iff_ne.2 n10
 obtain ⟨tb,htb⟩:∃ tb,tb=w.heap.size:=⟨_,rfl⟩
 obtain ⟨w2,hw2⟩:∃ w2,w2=w.alloc (tkO t):=⟨_,rfl⟩
 have hw2':w.alloc (.cells #[t.vv.1,t.nv.1,t.gv.1,t.ov.1] 26 (0,0))=w2:=by rw [hw2]; rfl
 have h2:At w [] (Star (ObjA tb (tkO t)) Emp) w2:=by rw [htb,hw2]; exact (At.start rfl).alloc _ .emp
 obtain ⟨rb,hrb⟩:∃ rb,rb=w2.heap.size:=⟨_,rfl⟩
 obtain ⟨w3,hw3⟩:∃ w3,w3=w2.alloc (resO 0 (.slice none 0 0) 0 0):=⟨_,rfl⟩
 have hLt:Lcl (Star (ObjA tb (tkO t)) Emp):=Lcl.obj.star .emp
 have h3:At w [] (Star (ObjA rb (resO 0 (.slice none 0 0) 0 0)) (Star (ObjA tb (tkO t)) Emp)) w3:=by rw [hrb,hw3]; exact h2.alloc _ hLt
 have hw3':w2.alloc (.cells #[.int .i64 0,.slice none 0 0,.int .i64 0,.int .i64 0] 38 (0,0))=w3:=by rw [hw3]; rfl
 have ot:=h3.drop.obj
 simp [tkV,← htb,hw2',← hrb,hw3',rd_tk ot]
 refine cl_of (snew_fail t size c (ht.kp h3.kp) hl h) ?_
 rintro _ w4 ⟨rfl,k4⟩
 have h4:=h3.kp0 (Lcl.obj.star hLt) k4
 simp [errV,ic_errno,b10]
 refine (show At w [] (Star (ObjA rb (.cells #[.int .i64 0,.slice none 0 0,.int .i64 0,.int .i64 0] 38 (0,0))) (Star (ObjA tb (tkO t)) Emp)) w4 from h4).st hLt (by simp) (by simp) fun wE hE2=>?_
 replace hE2:At w [] (Star (ObjA rb (resO 0 (.slice none 0 0) 0 0)) (Star (ObjA tb (tkO t)) Emp)) wE:=by simpa [resO] using hE2
 have oE:=hE2.obj
 unfold resO at oE
 simp
 refine postL_c2 ag_38 (by simp) oE (by simp) rfl ?_
 exact ⟨_,rfl,rfl,hE2.kp⟩
set_option maxHeartbeats 1000000 in
theorem blayers_fail {w:World} (t:Tk) (most size c:Int) (ht:TkR w t) (hl:TkL t) (h:ErrC t size c) :
  Calls Tryz.prog 12 [tkV t,.int .i64 most,.int .i64 size].toArray w fun e w'=>∃ x,e=.returned x∧x=.tuple #[.slice none 0 0,errV c]∧Kp [] w w':=by
 refine enter Tryz.func12 mixed low12 (Nat.le_of_ble_eq_true rfl) ?_
 simp only [L12]
 obtain ⟨tb,htb⟩:∃ tb,tb=w.heap.size:=⟨_,rfl⟩
 obtain ⟨w1,hw1⟩:∃ w1,w1=w.alloc (tkO t):=⟨_,rfl⟩
 have k1:Kp [] w w1:=by rw [hw1]; exact (Kp.refl [] w).alloc _
 have hw1':w.alloc (.cells #[t.vv.1,t.nv.1,t.gv.1,t.ov.1] 26 (0,0))=w1:=by rw [hw1]; rfl
 have ob1:w1.heap[tb]?=some (tkO t):=by rw [htb,hw1]; exact alloc_new
 simp [tkV,← htb,hw1',rd_tk ob1]
 refine cl_of (snew_fail t size c (ht.kp k1) hl h) ?_
 rintro _ w2 ⟨rfl,k2⟩
 simp [errV]
 exact k1.trans k2
end Go.Proofs.YtkhfdmelcpfgoaaGreat
end
section
set_option maxRecDepth 100000
set_option linter.unusedSimpArgs false
set_option linter.unusedVariables false
namespace Go.Proofs.YtkhfdmelcpfgoaaGreat
open Go Go.W Go.Tk Go.Rx Go.Bd Go.Sy Go.Maps
theorem bawake_kp (w:World):Calls Tryz.prog 9 [].toArray w fun en w'=>∃ v,en=.returned v∧v=.bool true∧Kp [] w w':=by
 refine Calls.mono (bawake_spec OldA.lcl (OldA.start w)) ?_
 rintro e w' ⟨v,h1,h2,h3⟩
 exact ⟨v,h1,h2,at_rds h3 (OldA.rds fun w' k=>k)⟩
def lg7 (n:Int):Nat:=(if 1 < n then 1 else 0)+(if 2 < n then 1 else 0)+(if 4 < n then 1 else 0)+(if 8 < n then 1 else 0)+(if 16 < n then 1 else 0)+(if 32 < n then 1 else 0)+(if 64 < n then 1 else 0)
theorem lg7_le (n:Int):lg7 n≤7:=by
 unfold lg7
 grind
theorem lg7_eq {n:Int}:∀ {e:Nat},e≤7→(e=0∨((2 ^ (e - 1):Nat):Int) < n)→(e=7∨¬ ((2 ^ e:Nat):Int) < n)→lg7 n=e
 | 0,_,h1,h2=>by simp at h1 h2; unfold lg7; grind
 | 1,_,h1,h2=>by simp at h1 h2; unfold lg7; grind
 | 2,_,h1,h2=>by simp at h1 h2; unfold lg7; grind
 | 3,_,h1,h2=>by simp at h1 h2; unfold lg7; grind
 | 4,_,h1,h2=>by simp at h1 h2; unfold lg7; grind
 | 5,_,h1,h2=>by simp at h1 h2; unfold lg7; grind
 | 6,_,h1,h2=>by simp at h1 h2; unfold lg7; grind
 | 7,_,h1,h2=>by simp at h1 h2; unfold lg7; grind
 | e+8,h,_,_=>absurd h (by omega)
def bitsL (l:List Int):Nat:=(l.map lg7).sum
theorem bitsL_succ {l:List Int} {k:Nat} {x:Int} (h:l[k]?=some x):bitsL (l.take (k+1))=bitsL (l.take k)+lg7 x:=by
 unfold bitsL
 rw [take_snoc h,List.map_append,List.sum_append]
 simp
theorem bitsL_le (l:List Int):bitsL l≤7 * l.length:=by
 unfold bitsL
 induction l with
 | nil=>simp
 | cons x l ih=>have:=lg7_le x; simp only [List.map_cons,List.sum_cons,List.length_cons]; omega
theorem lg7_wd {n:Nat} (h1:1≤n) (h:n≤64):lg7 (n:Nat)=wd n:=by
 have hw:=wd_le n
 have lp:∀ w:Nat,w≤wd n→(2 ^ w < n↔w < wd n):=fun w hw=>wd_loop h hw
 refine lg7_eq (by omega) ?_ (.inr ?_)
 ·by_cases e:wd n=0
  ·exact .inl e
  ·have:=(lp (wd n - 1) (by omega)).2 (by omega)
   exact .inr (by omega)
 ·have:=lp (wd n) (by omega)
  omega
theorem bitsL_raw {T:Nt} (h:NtG T):bitsL T.raw.vars=nBits T.vars:=by
 have:∀ l:List Nat,(∀ n ∈ l,1≤n∧n≤64)→bitsL (l.map iN)=nBits l:=fun l=>by
  induction l with
  | nil=>intro _; rfl
  | cons n l ih =>
   intro h
   have h1:=h n (by simp)
   have h2:=ih fun m hm=>h m (List.mem_cons_of_mem _ hm)
   have h3:=lg7_wd h1.1 h1.2
   unfold bitsL nBits at h2 ⊢
   simp only [List.map_cons,List.sum_cons]
   rw [h2]
   congr 1
 exact this T.vars h.vars
def BtI (t:Tk) (size x:Int) (tb bs i:Nat) (w2:World) (n:Nat) (ρ':Env) (w':World):Prop:=∃ e,n+e=7∧(e=0∨((2 ^ (e - 1):Nat):Int) < x)∧ρ' 1=.int .i64 size∧ρ' 2=.pointer (some ⟨tb,0,none⟩)∧ρ' 54=t.vv.1∧ρ' 7=.int .i64 0∧ρ' 8=.int .i64 ((bs+e:Nat):Int)∧ρ' 10=.int .i64 x∧ρ' 11=.int .i64 ((2 ^ e:Nat):Int)∧ρ' 55=.int .i64 (t.vars.length:Nat)∧ρ' 56=.int .i64 (i:Nat)∧Kp [] w2 w'
set_option maxHeartbeats 4000000 in
theorem berrors_law {w:World} (t:Tk) (size:Int) (ht:TkR w t) (hl:TkL t) :
  Calls Tryz.prog 7 [tkV t,.int .i64 size].toArray w fun e w'=>∃ x,e=.returned x∧x=.bool true∧Kp [] w w':=by
 refine enter Tryz.func7 mixed low7 (Nat.le_of_ble_eq_true rfl) ?_
 simp only [L7]
 obtain ⟨tb,htb⟩:∃ tb,tb=w.heap.size:=⟨_,rfl⟩
 obtain ⟨w1,hw1⟩:∃ w1,w1=w.alloc (tkO t):=⟨_,rfl⟩
 have k1:Kp [] w w1:=by rw [hw1]; exact (Kp.refl [] w).alloc _
 have hw1':w.alloc (.cells #[t.vv.1,t.nv.1,t.gv.1,t.ov.1] 26 (0,0))=w1:=by rw [hw1]; rfl
 have ob1:w1.heap[tb]?=some (tkO t):=by rw [htb,hw1]; exact alloc_new
 have oc1:=ob1
 unfold tkO at oc1
 have ht1:=ht.kp k1
 have hvl:=hl.vars
 have hol:=hl.ops
 refine seq_cut (fun ρ w'=>ρ 1=.int .i64 size∧ρ 2=.pointer (some ⟨tb,0,none⟩)∧w'=w1) ?_ ?_
 ·simp [tkV,← htb,hw1']
 rintro ρ w2 ⟨g1,g2,rfl⟩
 refine seq_cut (fun ρ w'=>ρ 1=.int .i64 size∧ρ 2=.pointer (some ⟨tb,0,none⟩)∧Kp [] w2 w'∧t.vars.length≤100) ?_ ?_
 ·by_cases a1:100 < t.vars.length
  ·have a1':(100:Int) < t.vars.length:=by omega
   simp [g1,g2,cell_blk oc1,ht1.vars.len,ht1.ops.len,a1,a1']
   refine cl_of (bawake_kp _) ?_
   rintro _ w3 ⟨rfl,k3⟩
   simp
   exact k1.trans k3
  have a1':¬ (100:Int) < t.vars.length:=by omega
  by_cases a2:20 < t.ops.length
  ·have a2':(20:Int) < t.ops.length:=by omega
   simp [g1,g2,cell_blk oc1,ht1.vars.len,ht1.ops.len,a1,a1',a2,a2']
   refine cl_of (bawake_kp _) ?_
   rintro _ w3 ⟨rfl,k3⟩
   simp
   exact k1.trans k3
  have a2':¬ (20:Int) < t.ops.length:=by omega
  simp [g1,g2,cell_blk oc1,ht1.vars.len,ht1.ops.len,a1,a1',a2,a2']
  refine cl_of (bawake_kp _) ?_
  rintro _ w3 ⟨rfl,k3⟩
  simp [g1,g2]
  exact ⟨k3,by omega⟩
 clear g1 g2
 rintro ρ w3 ⟨g1,g2,k3,hv100⟩
 refine seq_cut (fun ρ w'=>ρ 1=.int .i64 size∧ρ 2=.pointer (some ⟨tb,0,none⟩)∧Kp [] w2 w') ?_ ?_
 ·have oc3:=k3.blk oc1 (by simp)
  simp [g2,cell_blk oc3,(ht1.kp k3).ops.len]
  refine range_loop (n:=t.ops.length) (by omega) (fun i ρ w'=>ρ 1=.int .i64 size∧ρ 2=.pointer (some ⟨tb,0,none⟩)∧ρ 36=t.ov.1∧Kp [] w2 w') (by simp) (by simp)
   ⟨by simp [g1],by simp [g2],by simp,k3⟩ (by decide) (fun _ _ _ _ h=>by simpa using h) (fun _ _ _ _ h=>by simpa using h) ?_ ?_
  rotate_left
  ·rintro ρ w4 ⟨g1,g2,_,k4⟩
   simp only [thenK_nrm]
   exact ⟨g1,g2,k4⟩
  clear g1 g2 oc3 k3
  rintro i ρ w4 hi hci hli ⟨g1,g2,g36,k4⟩
  obtain ⟨o,ho⟩:∃ o,t.ops[i]?=some o:=⟨_,List.getElem?_eq_getElem hi⟩
  have hr4:=(ht1.kp k4).ops
  have hoR:=(ht1.kp k4).op o (List.mem_of_getElem? ho)
  have ec:=hr4.cells oqE_len ho
  simp only [oqE] at ec
  obtain ⟨ob,hob⟩:∃ ob,ob=w4.heap.size:=⟨_,rfl⟩
  have hii:(i:Int) < t.ops.length:=by omega
  simp (disch:=omega) [g36,hci,hli,hr4.idx,ec,← hob]
  refine st_oq (o:=o) .emp (At.start rfl:At w4 [] Emp w4) hob fun w5 h5=>?_
  have oo5:=h5.obj
  unfold oqO at oo5
  have hoR5:=hoR.kp h5.kp
  by_cases b1:8 < o.effs.length
  ·have b1':(8:Int) < o.effs.length:=by omega
   simp [cell_blk oo5,← hob,hoR5.effs.len,hoR5.pre.len,b1,b1']
   exact k1.trans (k4.trans0 h5.kp)
  have b1':¬ (8:Int) < o.effs.length:=by omega
  by_cases b2:100 < o.pre.length
  ·have b2':(100:Int) < o.pre.length:=by omega
   simp [cell_blk oo5,← hob,hoR5.effs.len,hoR5.pre.len,b1,b1',b2,b2']
   exact k1.trans (k4.trans0 h5.kp)
  have b2':¬ (100:Int) < o.pre.length:=by omega
  simp [cell_blk oo5,← hob,hoR5.effs.len,hoR5.pre.len,b1,b1',b2,b2',g1,g2,g36,hci,hli]
  exact k4.trans0 h5.kp
 clear g1 g2 k3
 rintro ρ w3 ⟨g1,g2,k3⟩
 refine seq_cut (fun ρ w'=>ρ 1=.int .i64 size∧ρ 2=.pointer (some ⟨tb,0,none⟩)∧ρ 7=.int .i64 0∧Kp [] w2 w') ?_ ?_
 ·simp [g1,g2]
  exact k3
 clear g1 g2 k3
 rintro ρ w3 ⟨g1,g2,g7,k3⟩
 refine seq_cut (fun ρ w'=>ρ 1=.int .i64 size∧ρ 2=.pointer (some ⟨tb,0,none⟩)∧ρ 7=.int .i64 0∧ρ 8=.int .i64 0∧Kp [] w2 w') ?_ ?_
 ·simp [g1,g2,g7]
  exact k3
 clear g1 g2 g7 k3
 rintro ρ w3 ⟨g1,g2,g7,g8,k3⟩
 refine seq_cut (fun ρ w'=>ρ 1=.int .i64 size∧ρ 2=.pointer (some ⟨tb,0,none⟩)∧ρ 7=.int .i64 0∧ρ 8=.int .i64 (bitsL t.vars:Nat)∧Kp [] w2 w') ?_ ?_
 ·have oc3:=k3.blk oc1 (by simp)
  simp [g2,cell_blk oc3,(ht1.kp k3).vars.len]
  refine range_loop (n:=t.vars.length) (by omega) (fun i ρ w'=>ρ 1=.int .i64 size∧ρ 2=.pointer (some ⟨tb,0,none⟩)∧ρ 54=t.vv.1∧ρ 7=.int .i64 0∧ρ 8=.int .i64 (bitsL (t.vars.take i):Nat)∧Kp [] w2 w') (by simp) (by simp)
   ⟨by simp [g1],by simp [g2],by simp,by simp [g7],by simp [g8,bitsL],k3⟩ (by decide) (fun _ _ _ _ h=>by simpa using h) (fun _ _ _ _ h=>by simpa using h) ?_ ?_
  rotate_left
  ·rintro ρ w4 ⟨g1,g2,_,g7,g8,k4⟩
   rw [List.take_length] at g8
   simp only [thenK_nrm]
   exact ⟨g1,g2,g7,g8,k4⟩
  clear g1 g2 g7 g8 oc3 k3
  rintro i ρ w4 hi hci hli ⟨g1,g2,g54,g7,g8,k4⟩
  obtain ⟨x,hx⟩:∃ x,t.vars[i]?=some x:=⟨_,List.getElem?_eq_getElem hi⟩
  have hv4:=(ht1.kp k4).vars
  have hii:(i:Int) < t.vars.length:=by omega
  have hbl:=bitsL_le (t.vars.take i)
  rw [List.length_take] at hbl
  obtain ⟨bs,hbs⟩:∃ bs,bs=bitsL (t.vars.take i):=⟨_,rfl⟩
  rw [← hbs] at g8 hbl
  simp (disch:=omega) [g54,hci,hli,hv4.idx,iE_cell hv4 hx]
  refine loop_inv (BtI t size x tb bs i w2) 7 ⟨0,rfl,.inl rfl,by simp [g1],by simp [g2],by simp [g54],by simp [g7],by simp [g8],by simp,by simp,by simp [hli],by simp [hci],k4⟩ ?_
  clear g1 g2 g54 g7 g8
  rintro n ρ' w5 ⟨e,hn,he,g1,g2,g54,g7,g8,g10,g11,g55,g56,k5⟩
  obtain ⟨y,hy⟩:∃ y,y=2 ^ e:=⟨_,rfl⟩
  have hy2:2 ^ (e+1)=y * 2:=by rw [Nat.pow_succ,hy]
  have hyb:y≤128:=by rw [hy]; exact Nat.pow_le_pow_right (by omega) (show e≤7 by omega)
  have hy1:1≤y:=by rw [hy]; exact Nat.one_le_two_pow
  have hy7:y < 128↔e≠7:=by
   constructor
   ·rintro h rfl
    rw [hy] at h
    exact absurd h (by decide)
   ·intro h
    have:y≤64:=by rw [hy]; exact Nat.pow_le_pow_right (by omega) (show e≤6 by omega)
    omega
  rw [← hy] at g11
  have hfin:(¬ ((y:Int) < x)∨¬ y < 128)→bs+e=bitsL (t.vars.take (i+1)):=fun h=>by
   rw [bitsL_succ hx,← hbs,lg7_eq (by omega) he]
   rw [← hy]
   rcases h with h | h
   ·exact .inr h
   ·exact .inl (by omega)
  by_cases c1:(y:Int) < x
  ·by_cases c2:y < 128
   ·have c2':(y:Int) < 128:=by omega
    have e2:IntKind.i64.wrap ((y:Int) * 2)=((y * 2:Nat):Int):=by rw [wrap_i64 (by omega) (by omega)]; simp
    have e1:IntKind.i64.wrap ((bs:Int)+(e:Int)+1)=((bs+(e+1):Nat):Int):=by rw [wrap_i64 (by omega) (by omega)]; omega
    simp [g8,g10,g11,c1,c2,c2',e1,e2]
    refine ⟨n - 1,by omega,e+1,by omega,.inr (by rw [show e+1 - 1=e by omega,← hy]; exact c1),by simp [g1],by simp [g2],by simp [g54],by simp [g7],by simp [e1],by simp [g10],by simp [hy2],by simp [g55],by simp [g56],k5⟩
   ·have c2':¬ (y:Int) < 128:=by omega
    have hf:=hfin (.inr c2)
    simp [g8,g10,g11,c1,c2,c2',g1,g2,g54,g7,g55,g56]
    exact ⟨by omega,k5⟩
  ·have hf:=hfin (.inl c1)
   simp [g8,g10,g11,c1,g1,g2,g54,g7,g55,g56]
   exact ⟨by omega,k5⟩
 clear g1 g2 g7 g8 k3
 rintro ρ w3 ⟨g1,g2,g7,g8,k3⟩
 have hbl:=bitsL_le t.vars
 refine seq_cut (fun ρ w'=>ρ 1=.int .i64 size∧ρ 2=.pointer (some ⟨tb,0,none⟩)∧(∃ c,ρ 7=.int .i64 c∧ErrC t size c)∧Kp [] w2 w') ?_ ?_
 ·simp [g2,rd_tk (k3.blk ob1 (by simp))]
  refine cl_of (good_spec t (ht1.kp k3) hl) ?_
  rintro _ w4 ⟨rfl,k4⟩
  have k24:=k3.trans k4
  cases hk:chkC t with
  | some c =>
   have hg:goodB t=false:=by
    cases h:goodB t with
    | false=>rfl
    | true=>rw [(chk_good t).2 h] at hk; cases hk
   rw [hg]
   simp [g2,rd_tk (k24.blk ob1 (by simp))]
   refine cl_of (tcheck_spec t (ht1.kp k24) hl) ?_
   rintro _ w5 ⟨rfl,k5⟩
   rw [hk]
   simp [chkV]
   refine cl_of (num_err c w5) ?_
   rintro _ w6 ⟨rfl,k6⟩
   simp [g1,g2]
   exact ⟨.inl hk,(k24.trans k5).trans k6⟩
  | none =>
   have hg:=(chk_good t).1 hk
   rw [hg]
   by_cases c1:size < 1
   ·simp [g1,g2,c1]
    exact ⟨.inr (.inl ⟨hk,.inl c1,rfl⟩),k24⟩
   ·by_cases c2:1048576 < size
    ·simp [g1,g2,c1,c2]
     exact ⟨.inr (.inl ⟨hk,.inr c2,rfl⟩),k24⟩
    ·by_cases c3:100 < bitsL t.vars
     ·have c3':(100:Int) < (bitsL t.vars:Nat):=by omega
      simp [g1,g2,c1,c2,g8,c3,c3']
      obtain ⟨T,rfl,hT⟩:=good_nat hg
      rw [bitsL_raw hT] at c3
      exact ⟨.inr (.inr ⟨T,rfl,hT,hg,by omega,by omega,c3,rfl⟩),k24⟩
     ·have c3':¬ (100:Int) < (bitsL t.vars:Nat):=by omega
      simp [g1,g2,c1,c2,g8,c3,c3']
      exact k1.trans k24
 clear g1 g2 g7 g8 k3
 rintro ρ w3 ⟨g1,g2,⟨c,g7,hE⟩,k3⟩
 simp [g1,g2,rd_tk (k3.blk ob1 (by simp))]
 refine cl_of (bforward_fail t size c (ht1.kp k3) hl hE) ?_
 rintro _ w4 ⟨rfl,k4⟩
 have k24:=k3.trans k4
 have a4:At w4 [] (Star (ObjA w4.heap.size (resO 0 (.slice none 0 0) 0 0)) Emp) (w4.alloc (resO 0 (.slice none 0 0) 0 0)):=(At.start rfl).alloc _ .emp
 simp [failV,resV]
 refine At.st .emp a4 (by simp) (by simp) fun w5 b5=>?_
 have k25:=k24.trans b5.kp
 simp [g1,g2,rd_tk (k25.blk ob1 (by simp))]
 refine cl_of (bbackward_fail t size c (ht1.kp k25) hl hE) ?_
 rintro _ w6 ⟨rfl,k6⟩
 have k26:=k25.trans k6
 have a6:At w6 [] (Star (ObjA w6.heap.size (resO 0 (.slice none 0 0) 0 0)) Emp) (w6.alloc (resO 0 (.slice none 0 0) 0 0)):=(At.start rfl).alloc _ .emp
 simp [failV,resV]
 refine At.st .emp a6 (by simp) (by simp) fun w7 b7=>?_
 have k27:=k26.trans b7.kp
 simp [g1,g2,rd_tk (k27.blk ob1 (by simp))]
 refine cl_of (bsearch_fail t size c (ht1.kp k27) hl hE) ?_
 rintro _ w8 ⟨rfl,k8⟩
 have k28:=k27.trans k8
 have a8:At w8 [] (Star (ObjA w8.heap.size (resO 0 (.slice none 0 0) 0 0)) Emp) (w8.alloc (resO 0 (.slice none 0 0) 0 0)):=(At.start rfl).alloc _ .emp
 simp [failV,resV]
 refine At.st .emp a8 (by simp) (by simp) fun w9 b9=>?_
 have k29:=k28.trans b9.kp
 simp [g1,g2,rd_tk (k29.blk ob1 (by simp))]
 refine cl_of (blayers_fail t 3 size c (ht1.kp k29) hl hE) ?_
 rintro _ wa ⟨rfl,ka⟩
 have k2a:=k29.trans ka
 simp [g7]
 refine cl_of (num_err c wa) ?_
 rintro _ wb ⟨rfl,kb⟩
 simp [g7]
 refine cl_of (num_err c wb) ?_
 rintro _ wc ⟨rfl,kc⟩
 simp [g7]
 refine cl_of (num_err c wc) ?_
 rintro _ wd ⟨rfl,kd⟩
 simp [g7]
 refine cl_of (num_err c wd) ?_
 rintro _ we ⟨rfl,ke⟩
 simp [g7]
 exact k1.trans ((((k2a.trans kb).trans kc).trans kd).trans ke)
end Go.Proofs.YtkhfdmelcpfgoaaGreat
end
section
set_option maxRecDepth 100000
set_option linter.unusedSimpArgs false
set_option linter.unusedVariables false
namespace Go.Rx
open Go Go.W Go.Tk
end Go.Rx
namespace Go.Proofs.YtkhfdmelcpfgoaaGreat
open Go Go.W Go.Tk Go.Rx Go.Maps
def hM (T:Nt) (vS:List Nat→Nat→Nat) (s:List Nat):Nat:=grF T.vars (vS s) T.goal
def hI (T:Nt) (vS:List Nat→Nat→Nat) (i:Nat):Nat:=match (stsK T.vars T.vars.length)[i]? with | some s=>hM T vS s | none=>0
end Go.Proofs.YtkhfdmelcpfgoaaGreat
end
section
set_option linter.unusedVariables false
set_option linter.unusedSimpArgs false
namespace Go.W
open Go Go.ChangeShapes Go.WideShapes Go.ChangeAt Go.RowKit Go.Deep
section
variable {H:Type} {enc:TypeId × Value→H} {P:Program}
theorem el_vw {α:Type} {encα:α→List Value} {ok:α→Prop} {W:World} {t e:TypeId} {sz:Nat} {v:Value} {fu:Nat} {x:DataW H × List MemPlace} (ht:P.underlying t=some (.slice e)) (hC:P.cellsOf e=sz) (hz:0 < sz) (he:∀ x,(encα x).length=sz)
  (hel:∀ n cs x,cs.length=sz→DataW.trod enc P W 0 (fun _=>true) true n e cs=some x→∃ a,cs=encα a∧ok a)
  (h:DataW.trod enc P W 0 (fun _=>true) true fu t [v]=some x) :
  ∃ l:List α,Vw W v encα l∧(∀ a ∈ l,ok a)∧l.length≤maxLen:=by
 rcases open_slice ht h with ⟨hcs,hx⟩ | ⟨a,len,cap,m,n,D,Pl,hcs,hb,hl,hm,hmm,hx,hi⟩
 ·simp at hcs
  subst hcs
  exact ⟨[],Vw.nil _ _,by simp,by simp⟩
 ·simp at hcs
  subst hcs
  simp only [if_true] at hmm
  subst hmm
  obtain ⟨n0,hn0⟩:∃ n0,n0=len:=⟨_,rfl⟩
  rw [← hn0] at hl ⊢
  have key:∀ k,k≤m→∃ l:List α,l.length=k∧(∀ x ∈ l,ok x)∧∀ j u,(l.flatMap encα)[j]?=some u→W.cell? (a.add j)=some u:=by
   intro k
   induction k with
   | zero=>exact fun _=>⟨[],rfl,by simp,by simp⟩
   | succ k ih =>
    intro hk
    obtain ⟨l,hll,ho,hc⟩:=ih (by omega)
    obtain ⟨cs,hcs,htr⟩:=hi k (by omega)
    rw [hC] at hcs
    obtain ⟨_,hlen,hat⟩:=World.cells?_some hcs
    obtain ⟨x,rfl,hox⟩:=hel _ _ _ hlen htr
    refine ⟨l ++ [x],by simp [hll],?_,?_⟩
    ·intro y hy
     rcases List.mem_append.1 hy with h1 | h1
     ·exact ho y h1
     ·simp at h1; subst h1; exact hox
    ·intro j u hj
     rw [List.flatMap_append,List.flatMap_cons,List.flatMap_nil,List.append_nil] at hj
     have hfl:=flatMap_len he l
     rw [hll] at hfl
     by_cases hjl:j < k * sz
     ·rw [List.getElem?_append_left (by omega)] at hj
      exact hc j u hj
     ·rw [List.getElem?_append_right (by omega),hfl] at hj
      have hjs:j - k * sz < sz:=by have h9:=(List.getElem?_eq_some_iff.1 hj).1; rw [he x] at h9; exact h9
      have:=hat (j - k * sz) hjs
      rw [Go.Deep.add_add,show k * sz+(j - k * sz)=j by omega] at this
      rw [this]; exact hj
  obtain ⟨l,hll,ho,hc⟩:=key m (Nat.le_refl _)
  have hvw:Vw W (.slice (some a) n0 m) encα (l.take n0):=by
   have hlen:(l.take n0).length=n0:=by simp; omega
   refine .inr ⟨a,m,by rw [hlen],by omega,fun hne=>?_,fun j u hj=>hc j u ?_⟩
   ·have hn0:0 < n0:=by
     rcases Nat.eq_zero_or_pos n0 with h0 | h0
     ·subst h0; simp at hne
     ·exact h0
    obtain ⟨cs,hcs,_⟩:=hi 0 (by omega)
    rw [hC] at hcs
    obtain ⟨_,hlen',hat⟩:=World.cells?_some hcs
    have h1:=hat 0 hz
    rw [List.getElem?_eq_getElem (by omega)] at h1
    have:=World.cell?_spot h1
    rw [Go.Deep.add_add] at this
    simp at this
    simpa [Addr.add] using this
   ·have:l.flatMap encα=(l.take n0).flatMap encα ++ (l.drop n0).flatMap encα:=by rw [← List.flatMap_append,List.take_append_drop]
    rw [this,List.getElem?_append_left (List.getElem?_eq_some_iff.1 hj).1]
    exact hj
  exact ⟨_,hvw,fun x hx=>ho x (List.mem_of_mem_take hx),by rw [List.length_take]; omega⟩
end
end Go.W
end
section
set_option maxRecDepth 100000
set_option linter.unusedSimpArgs false
set_option linter.unusedVariables false
namespace Go.Proofs.YtkhfdmelcpfgoaaGreat
open Go Go.W Go.Tk Go.Rx Go.ChangeShapes Go.WideShapes Go.ChangeAt Go.RowKit
theorem own:ownKnob Tryz.prog.godebug=none:=by kernel_rfl
theorem laidOut:laidOutB Tryz.prog=true:=by kernel_rfl
section
variable {H:Type} {enc:TypeId × Value→H}
theorem el_int {W:World} (n:Nat) (cs:List Value) (x:DataW H × List MemPlace) (hl:cs.length=1) (h:DataW.trod enc Tryz.prog W 0 (fun _=>true) true n 3 cs=some x):∃ a:Int,cs=iE a∧zok a:=by
 obtain ⟨a,ha,_,wa⟩:=DataW.trod_int Tryz.underlying3 h
 have h1:IntKind.i64.min=-9223372036854775808:=rfl
 have h2:IntKind.i64.max=9223372036854775807:=rfl
 simp only [Lit.wf,Bool.and_eq_true,decide_eq_true_eq] at wa
 exact ⟨a,ha,by unfold zok; omega⟩
theorem el_fact {W:World} (n:Nat) (cs:List Value) (x:DataW H × List MemPlace) (hl:cs.length=2) (h:DataW.trod enc Tryz.prog W 0 (fun _=>true) true n 92 cs=some x):∃ a:Fa,cs=faE a∧True:=by
 obtain ⟨xs,m,rfl,_,_,hxl,hg⟩:=DataW.trod_struct Tryz.underlying92 h
 have hc:Tryz.prog.cellsOf 3=1:=by kernel_rfl
 match cs,hl with
 | [u,v],_ =>
  have hx2:xs.length=2:=hxl
  have h0:=hg 0 _ rfl
  have h1:=hg 1 _ rfl
  rw [List.getElem?_eq_getElem (by omega)] at h0 h1
  obtain ⟨a,ha,_,wa⟩:=DataW.trod_int Tryz.underlying3 h0
  obtain ⟨b,hb,_,wb⟩:=DataW.trod_int Tryz.underlying3 h1
  replace ha:List.take (Tryz.prog.cellsOf 3) [u,v]=[.int .i64 a]:=ha
  replace hb:List.take (Tryz.prog.cellsOf 3) [v]=[.int .i64 b]:=hb
  rw [hc] at ha hb
  simp at ha hb
  subst ha hb
  exact ⟨(a,b),rfl,trivial⟩
theorem el_facts {W:World} {n:Nat} {c:Value} {x:DataW H × List MemPlace} (h:DataW.trod enc Tryz.prog W 0 (fun _=>true) true n 23 [c]=some x):∃ l:List Fa,Vw W c faE l∧l.length≤maxLen:=by
 obtain ⟨l,h1,_,h2⟩:=el_vw (encα:=faE) (ok:=fun _=>True) (sz:=2) Tryz.underlying23 (by kernel_rfl) (by omega) faE_len el_fact h
 exact ⟨l,h1,h2⟩
theorem el_ints {W:World} {n:Nat} {c:Value} {x:DataW H × List MemPlace} (h:DataW.trod enc Tryz.prog W 0 (fun _=>true) true n 22 [c]=some x):∃ l:List Int,Vw W c iE l∧(∀ z ∈ l,zok z)∧l.length≤maxLen :=
 el_vw (encα:=iE) (ok:=zok) (sz:=1) Tryz.underlying22 (by kernel_rfl) (by omega) iE_len el_int h
theorem el_eff {W:World} (n:Nat) (cs:List Value) (x:DataW H × List MemPlace) (hl:cs.length=3) (h:DataW.trod enc Tryz.prog W 0 (fun _=>true) true n 90 cs=some x):∃ e:Ef,cs=efE e∧(Vw W e.wv.1 faE e.cnd∧e.cnd.length≤maxLen):=by
 obtain ⟨xs,m,rfl,_,_,hxl,hg⟩:=DataW.trod_struct Tryz.underlying90 h
 have hc:Tryz.prog.cellsOf 3=1:=by kernel_rfl
 have hf:Tryz.prog.cellsOf 23=1:=by kernel_rfl
 match cs,hl with
 | [u,v,w],_ =>
  have hx2:xs.length=3:=hxl
  have h0:=hg 0 _ rfl
  have h1:=hg 1 _ rfl
  have h2:=hg 2 _ rfl
  rw [List.getElem?_eq_getElem (by omega)] at h0 h1 h2
  replace h0:DataW.trod enc Tryz.prog W 0 (fun _=>true) true m 23 (List.take (Tryz.prog.cellsOf 23) [u,v,w])=_:=h0
  rw [hf] at h0
  simp only [List.take_succ_cons,List.take_zero] at h0
  obtain ⟨l,hv,hlen⟩:=el_facts h0
  obtain ⟨a,ha,_,wa⟩:=DataW.trod_int Tryz.underlying3 h1
  obtain ⟨b,hb,_,wb⟩:=DataW.trod_int Tryz.underlying3 h2
  replace ha:List.take (Tryz.prog.cellsOf 3) [v,w]=[.int .i64 a]:=ha
  replace hb:List.take (Tryz.prog.cellsOf 3) [w]=[.int .i64 b]:=hb
  rw [hc] at ha hb
  simp at ha hb
  subst ha hb
  exact ⟨⟨⟨u,hv.o1⟩,l,a,b⟩,rfl,hv,hlen⟩
theorem el_op {W:World} (n:Nat) (cs:List Value) (x:DataW H × List MemPlace) (hl:cs.length=4) (h:DataW.trod enc Tryz.prog W 0 (fun _=>true) true n 50 cs=some x):∃ o:Oq,cs=oqE o∧(OqR W o∧o.name.size≤maxLen∧o.pre.length≤maxLen∧o.effs.length≤maxLen∧∀ e ∈ o.effs,e.cnd.length≤maxLen):=by
 obtain ⟨xs,m,rfl,_,_,hxl,hg⟩:=DataW.trod_struct Tryz.underlying50 h
 have hs:Tryz.prog.cellsOf 9=1:=by kernel_rfl
 have hc:Tryz.prog.cellsOf 3=1:=by kernel_rfl
 have hf:Tryz.prog.cellsOf 23=1:=by kernel_rfl
 have he:Tryz.prog.cellsOf 48=1:=by kernel_rfl
 match cs,hl with
 | [u,v,w,z],_ =>
  have hx2:xs.length=4:=hxl
  have h0:=hg 0 _ rfl
  have h1:=hg 1 _ rfl
  have h2:=hg 2 _ rfl
  have h3:=hg 3 _ rfl
  rw [List.getElem?_eq_getElem (by omega)] at h0 h1 h2 h3
  obtain ⟨nm,hn,_,wn⟩:=DataW.trod_string Tryz.underlying9 h0
  obtain ⟨a,ha,_,wa⟩:=DataW.trod_int Tryz.underlying3 h1
  replace hn:List.take (Tryz.prog.cellsOf 9) [u,v,w,z]=[.string nm]:=hn
  replace ha:List.take (Tryz.prog.cellsOf 3) [v,w,z]=[.int .i64 a]:=ha
  replace h2:DataW.trod enc Tryz.prog W 0 (fun _=>true) true m 23 (List.take (Tryz.prog.cellsOf 23) [w,z])=_:=h2
  replace h3:DataW.trod enc Tryz.prog W 0 (fun _=>true) true m 48 (List.take (Tryz.prog.cellsOf 48) [z])=_:=h3
  rw [hs] at hn
  rw [hc] at ha
  rw [hf] at h2
  rw [he] at h3
  simp only [List.take_succ_cons,List.take_zero] at h2 h3
  simp at hn ha
  subst hn ha
  obtain ⟨pl,hp1,hp2⟩:=el_facts h2
  obtain ⟨el,he1,he2,he3⟩:=el_vw (encα:=efE) (ok:=fun e:Ef=>Vw W e.wv.1 faE e.cnd∧e.cnd.length≤maxLen) (sz:=3) Tryz.underlying48 (by kernel_rfl) (by omega) efE_len el_eff h3
  exact ⟨⟨nm,a,⟨w,hp1.o1⟩,pl,⟨z,he1.o1⟩,el⟩,rfl,⟨hp1,he1,fun e h=>(he2 e h).1⟩,wn,hp2,he3,fun e h=>(he2 e h).2⟩
theorem open_task {W:World} {b:Nat} {v:Value} {d:DataW H} {ps:List MemPlace} (hv:Value.okWide Tryz.prog W .any b 26 v) (h:DataW.Trod enc Tryz.prog W 0 (fun _=>true) true 26 v d ps):∃ t:Tk,v=tkV t∧TkR W t∧TkL t:=by
 simp only [Value.okWide,Tryz.underlying26] at hv
 obtain ⟨cs,rfl,hcs,_⟩:=hv
 have h4:Tryz.prog.cellsOf 26=4:=by kernel_rfl
 rw [h4] at hcs
 obtain ⟨n,h⟩:=h
 obtain ⟨xs,m,rfl,_,_,hxl,hg⟩:=DataW.trod_struct Tryz.underlying26 h
 have hc:Tryz.prog.cellsOf 22=1:=by kernel_rfl
 have hf:Tryz.prog.cellsOf 23=1:=by kernel_rfl
 have ho:Tryz.prog.cellsOf 24=1:=by kernel_rfl
 have hl:cs.toList.length=4:=by simpa using hcs
 have e:(Value.agg cs).cells.toList=cs.toList:=rfl
 rw [e] at hg
 match hcl:cs.toList,hl with
 | [u0,u1,u2,u3],_ =>
  rw [hcl] at hg
  have hx2:xs.length=4:=hxl
  have h0:=hg 0 _ rfl
  have h1:=hg 1 _ rfl
  have h2:=hg 2 _ rfl
  have h3:=hg 3 _ rfl
  rw [List.getElem?_eq_getElem (by omega)] at h0 h1 h2 h3
  replace h0:DataW.trod enc Tryz.prog W 0 (fun _=>true) true m 22 (List.take (Tryz.prog.cellsOf 22) [u0,u1,u2,u3])=_:=h0
  replace h1:DataW.trod enc Tryz.prog W 0 (fun _=>true) true m 22 (List.take (Tryz.prog.cellsOf 22) [u1,u2,u3])=_:=h1
  replace h2:DataW.trod enc Tryz.prog W 0 (fun _=>true) true m 23 (List.take (Tryz.prog.cellsOf 23) [u2,u3])=_:=h2
  replace h3:DataW.trod enc Tryz.prog W 0 (fun _=>true) true m 24 (List.take (Tryz.prog.cellsOf 24) [u3])=_:=h3
  rw [hc] at h0 h1
  rw [hf] at h2
  rw [ho] at h3
  simp only [List.take_succ_cons,List.take_zero] at h0 h1 h2 h3
  obtain ⟨vl,v1,_,v2⟩:=el_ints h0
  obtain ⟨nl,n1,_,n2⟩:=el_ints h1
  obtain ⟨gl,g1,g2⟩:=el_facts h2
  obtain ⟨ol,o1,o2,o3⟩:=el_vw (encα:=oqE) (ok:=fun o:Oq=>OqR W o∧o.name.size≤maxLen∧o.pre.length≤maxLen∧o.effs.length≤maxLen∧∀ e ∈ o.effs,e.cnd.length≤maxLen) (sz:=4) Tryz.underlying24 (by kernel_rfl) (by omega) oqE_len el_op h3
  have em:maxLen=9223372036854775807:=rfl
  refine ⟨⟨⟨u0,v1.o1⟩,⟨u1,n1.o1⟩,⟨u2,g1.o1⟩,⟨u3,o1.o1⟩,vl,nl,gl,ol⟩,?_,⟨v1,n1,g1,o1,fun o h=>(o2 o h).1⟩,⟨n2,g2,o3,v2,fun o h=>(o2 o h).2⟩⟩
  have:cs=#[u0,u1,u2,u3]:=by
   apply Array.toList_inj.1; rw [hcl]
  rw [this]; rfl
end
end Go.Proofs.YtkhfdmelcpfgoaaGreat
end
