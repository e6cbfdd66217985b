/-
  A part of the proof of this claim's statement (SyWG, SyWH, SyWE): plain theorems; no conditions beyond those each names.
-/
import Derived.Test.YtkhfdmelcpfgoaaGreatPk18
import Derived.Test.YtkhfdmelcpfgoaaGreatPk15
section
set_option maxRecDepth 100000
set_option linter.unusedSimpArgs false
set_option linter.unusedVariables false
namespace Go.Proofs.YtkhfdmelcpfgoaaGreat
open Go Go.W Go.Tk Go.Rx Go.Bd Go.Sy Go.Maps
def cfl (X:List Nat) (j:Nat):Bool:=decide (j ∈ X)
theorem cfl_add (X:List Nat) (i j:Nat):cfl (X ++ [i]) j=(cfl X j || decide (j=i)):=by
 unfold cfl
 rw [Bool.eq_iff_iff]
 simp
theorem cfl_yes {X:List Nat} {j:Nat} (h:j ∈ X):cfl X j=true:=decide_eq_true h
theorem cfl_no {X:List Nat} {j:Nat} (h:j ∉ X):cfl X j=false:=decide_eq_false h
def PtA (v:Value) (o:Obj):Asr:=fun w F=>∃ b,v=.pointer (some ⟨b,0,none⟩)∧ObjA b o w F
theorem Lcl.pt {v:Value} {o:Obj}:Lcl (PtA v o):=by
 refine ⟨?_,?_⟩
 ·rintro w F ⟨b,rfl,h⟩ x hx
  exact Lcl.obj.lt h x hx
 ·rintro w F G w' ⟨b,rfl,h⟩ hk hd
  exact ⟨b,rfl,Lcl.obj.kp h hk hd⟩
def tcO (a b c d:Value):Obj:=.cells #[a,b,c,d] 26 (0,0)
def nlV:Value:=.slice none 0 0
def CpA (f:Nat→Bool) (tb:Nat) (a b c p:Value) (T:Nt) (B:Asr):Asr :=
 Star (if f 2 then OwnA a 3 1 nE T.vars else Emp)
 (Star (if f 5 then OwnA b 3 1 nE T.init else Emp)
 (Star (if f 8 then OwnA c 92 2 fcE T.goal else Emp)
 (Star (if f 10 then PtA p (if f 11 then tcO a b c nlV else tcO nlV nlV nlV nlV) else Emp)
 (Star (ObjA tb (ntO T)) B))))
structure CpT (tb:Nat) (T:Nt) (B:Asr) (w0:World) (F0:List Nat) (ρ:Env) (X:List Nat) (ρ':Env) (w':World):Prop where
 old:∀ t,t < 3→ρ' t=ρ t
 f0:0 ∈ X→ρ' 9=.pointer (some ⟨tb,0,none⟩)
 f1:1 ∈ X→ρ' 10=T.vv.1
 f3:3 ∈ X→ρ' 12=.pointer (some ⟨tb,1,none⟩)
 f4:4 ∈ X→ρ' 13=T.nv.1
 f6:6 ∈ X→ρ' 15=.pointer (some ⟨tb,2,none⟩)
 f7:7 ∈ X→ρ' 16=T.gv.1
 f9:9 ∈ X→ρ' 18=.agg #[ρ' 11,ρ' 14,ρ' 17,nlV]
 at_:At w0 F0 (CpA (cfl X) tb (ρ' 11) (ρ' 14) (ρ' 17) (ρ' 3) T B) w'
def cpLos:List LO:=[LO.mk 0 (some 9) (.fieldAddr 26 (.tmp 1) 0) 0 none,LO.mk 1 (some 10) (.load 22 (.tmp 9)) 22 none,LO.mk 2 (some 11) (.call (Call.mk (.value (.func 68)) #[.tmp 10] #[22])) 22 none,LO.mk 0 (some 12) (.fieldAddr 26 (.tmp 1) 1) 0 none,LO.mk 1 (some 13) (.load 22 (.tmp 12)) 22 none,LO.mk 2 (some 14) (.call (Call.mk (.value (.func 68)) #[.tmp 13] #[22])) 22 none,LO.mk 0 (some 15) (.fieldAddr 26 (.tmp 1) 2) 0 none,LO.mk 1 (some 16) (.load 23 (.tmp 15)) 23 none,LO.mk 2 (some 17) (.call (Call.mk (.value (.func 69)) #[.tmp 16] #[23])) 23 none,LO.mk 0 (some 18) (.build 26 #[(0,.tmp 11),(1,.tmp 14),(2,.tmp 17)]) 26 none,LO.mk 3 (some 3) (.alloc 26) 0 none,LO.mk 2 none (.store 26 (.tmp 3) (.tmp 18)) 0 none]
def cpDeps:List Nat:=[0,1,3,0,8,31,0,64,255,511,0,2047]
section
variable {tb:Nat} {T:Nt} {B:Asr} {w0:World} {F0:List Nat} {ρ:Env}
def CpStep (tb:Nat) (T:Nt) (B:Asr) (w0:World) (F0:List Nat) (ρ:Env) (i:Nat):Prop :=
 ∀ X ρ' w',i ∉ X→(∀ j,j < 12→(cpDeps.getD i 0).testBit j=true→j ∈ X)→(∀ j ∈ X,(cpDeps.getD j 0).testBit i=false)→CpT tb T B w0 F0 ρ X ρ' w'→wpT Tryz.prog [cpLos.getD i LO.dfl] ρ' w' (CpT tb T B w0 F0 ρ (X ++ [i]))
theorem cp_no {X:List Nat} {i:Nat} (h:∀ j ∈ X,(cpDeps.getD j 0).testBit i=false) (j:Nat) (hj:(cpDeps.getD j 0).testBit i=true):j ∉ X:=fun hm=>by
 have:=h j hm
 rw [hj] at this
 cases this
theorem cp0 (hρ1:ρ 1=.pointer (some ⟨tb,0,none⟩)) (hB:Lcl B) (hr:Rds B fun w'=>NtR w' T) (hg:NtG T):CpStep tb T B w0 F0 ρ 0:=fun X ρ' w' hn hd hu h=>by
 have s1:=(h.old 1 (by omega)).trans hρ1
 show wpT Tryz.prog [LO.mk 0 (some 9) (.fieldAddr 26 (.tmp 1) 0) 0 none] ρ' w' _
 simp [s1]
 refine ⟨fun t ht=>by
  have:=h.old t ht
  simp only [Env.put,Env.set]
  rw [if_neg (by omega)]
  exact this,by simp,by simpa using h.f1,by simpa using h.f3,by simpa using h.f4,by simpa using h.f6,by simpa using h.f7,by simpa using h.f9,by
  have:=h.at_
  simpa [CpA,cfl_add] using this⟩
theorem cp3 (hρ1:ρ 1=.pointer (some ⟨tb,0,none⟩)) (hB:Lcl B) (hr:Rds B fun w'=>NtR w' T) (hg:NtG T):CpStep tb T B w0 F0 ρ 3:=fun X ρ' w' hn hd hu h=>by
 have s1:=(h.old 1 (by omega)).trans hρ1
 show wpT Tryz.prog [LO.mk 0 (some 12) (.fieldAddr 26 (.tmp 1) 1) 0 none] ρ' w' _
 simp [s1]
 refine ⟨fun t ht=>by
  have:=h.old t ht
  simp only [Env.put,Env.set]
  rw [if_neg (by omega)]
  exact this,by simpa using h.f0,by simpa using h.f1,by simp,by simpa using h.f4,by simpa using h.f6,by simpa using h.f7,by simpa using h.f9,by
  have:=h.at_
  simpa [CpA,cfl_add] using this⟩
theorem cp6 (hρ1:ρ 1=.pointer (some ⟨tb,0,none⟩)) (hB:Lcl B) (hr:Rds B fun w'=>NtR w' T) (hg:NtG T):CpStep tb T B w0 F0 ρ 6:=fun X ρ' w' hn hd hu h=>by
 have s1:=(h.old 1 (by omega)).trans hρ1
 show wpT Tryz.prog [LO.mk 0 (some 15) (.fieldAddr 26 (.tmp 1) 2) 0 none] ρ' w' _
 simp [s1]
 refine ⟨fun t ht=>by
  have:=h.old t ht
  simp only [Env.put,Env.set]
  rw [if_neg (by omega)]
  exact this,by simpa using h.f0,by simpa using h.f1,by simpa using h.f3,by simpa using h.f4,by simp,by simpa using h.f7,by simpa using h.f9,by
  have:=h.at_
  simpa [CpA,cfl_add] using this⟩
theorem cp1 (hρ1:ρ 1=.pointer (some ⟨tb,0,none⟩)) (hB:Lcl B) (hr:Rds B fun w'=>NtR w' T) (hg:NtG T):CpStep tb T B w0 F0 ρ 1:=fun X ρ' w' hn hd hu h=>by
 have s1:=(h.old 1 (by omega)).trans hρ1
 have hf:=h.f0 (hd 0 (by omega) (by decide))
 have at1:=h.at_
 unfold CpA at at1
 have hob:=at1.drop.drop.drop.drop.obj
 unfold ntO at hob
 show wpT Tryz.prog [LO.mk 1 (some 10) (.load 22 (.tmp 9)) 22 none] ρ' w' _
 simp [hf,cell_blk hob]
 refine ⟨fun t ht=>by
  have:=h.old t ht
  simp only [Env.put,Env.set]
  rw [if_neg (by omega)]
  exact this,by simpa using h.f0,by simp,by simpa using h.f3,by simpa using h.f4,by simpa using h.f6,by simpa using h.f7,by simpa using h.f9,by
  have:=h.at_
  simpa [CpA,cfl_add] using this⟩
theorem cp4 (hρ1:ρ 1=.pointer (some ⟨tb,0,none⟩)) (hB:Lcl B) (hr:Rds B fun w'=>NtR w' T) (hg:NtG T):CpStep tb T B w0 F0 ρ 4:=fun X ρ' w' hn hd hu h=>by
 have s1:=(h.old 1 (by omega)).trans hρ1
 have hf:=h.f3 (hd 3 (by omega) (by decide))
 have at1:=h.at_
 unfold CpA at at1
 have hob:=at1.drop.drop.drop.drop.obj
 unfold ntO at hob
 show wpT Tryz.prog [LO.mk 1 (some 13) (.load 22 (.tmp 12)) 22 none] ρ' w' _
 simp [hf,cell_blk hob]
 refine ⟨fun t ht=>by
  have:=h.old t ht
  simp only [Env.put,Env.set]
  rw [if_neg (by omega)]
  exact this,by simpa using h.f0,by simpa using h.f1,by simpa using h.f3,by simp,by simpa using h.f6,by simpa using h.f7,by simpa using h.f9,by
  have:=h.at_
  simpa [CpA,cfl_add] using this⟩
theorem cp7 (hρ1:ρ 1=.pointer (some ⟨tb,0,none⟩)) (hB:Lcl B) (hr:Rds B fun w'=>NtR w' T) (hg:NtG T):CpStep tb T B w0 F0 ρ 7:=fun X ρ' w' hn hd hu h=>by
 have s1:=(h.old 1 (by omega)).trans hρ1
 have hf:=h.f6 (hd 6 (by omega) (by decide))
 have at1:=h.at_
 unfold CpA at at1
 have hob:=at1.drop.drop.drop.drop.obj
 unfold ntO at hob
 show wpT Tryz.prog [LO.mk 1 (some 16) (.load 23 (.tmp 15)) 23 none] ρ' w' _
 simp [hf,cell_blk hob]
 refine ⟨fun t ht=>by
  have:=h.old t ht
  simp only [Env.put,Env.set]
  rw [if_neg (by omega)]
  exact this,by simpa using h.f0,by simpa using h.f1,by simpa using h.f3,by simpa using h.f4,by simpa using h.f6,by simp,by simpa using h.f9,by
  have:=h.at_
  simpa [CpA,cfl_add] using this⟩
theorem cp2 (hρ1:ρ 1=.pointer (some ⟨tb,0,none⟩)) (hB:Lcl B) (hr:Rds B fun w'=>NtR w' T) (hg:NtG T):CpStep tb T B w0 F0 ρ 2:=fun X ρ' w' hn hd hu h=>by
 have s1:=(h.old 1 (by omega)).trans hρ1
 have hf:=h.f1 (hd 1 (by omega) (by decide))
 have e2:=cfl_no hn
 have h9:9 ∉ X:=cp_no hu 9 (by decide)
 have h11:11 ∉ X:=cp_no hu 11 (by decide)
 have e11:=cfl_no h11
 have at1:=h.at_
 unfold CpA at at1
 simp only [e2,e11,Bool.false_eq_true,if_false] at at1
 obtain ⟨_,hq,_⟩:=at1.drop.drop.drop.drop.drop.ex
 have hT:=hr _ _ hq
 have hvl:=hg.vlen
 have hil:=hg.ilen
 have hgl:=hg.goal.len
 have at2:=(at1).by Imp.dr
 show wpT Tryz.prog [LO.mk 2 (some 11) (.call (Call.mk (.value (.func 68)) #[.tmp 10] #[22])) 22 none] ρ' w' _
 simp [hf]
 refine cl_of (cloneI_spec T.vv.1 T.vars hT.vars (by omega)) ?_
 rintro u w2 n2
 have at3:=At.nw (by repeat' (first | exact hB | exact Lcl.own | exact Lcl.obj | exact Lcl.emp | exact Lcl.pt | apply Lcl.star | split)) at2 n2
 have at4:=at3
 simp
 refine ⟨fun t ht=>by
  have:=h.old t ht
  simp only [Env.put,Env.set]
  rw [if_neg (by omega)]
  exact this,by simpa using h.f0,by simpa using h.f1,by simpa using h.f3,by simpa using h.f4,by simpa using h.f6,by simpa using h.f7,by simp [h9],?_⟩
 unfold CpA
 simpa [cfl_add,e2,e11] using at4
theorem cp5 (hρ1:ρ 1=.pointer (some ⟨tb,0,none⟩)) (hB:Lcl B) (hr:Rds B fun w'=>NtR w' T) (hg:NtG T):CpStep tb T B w0 F0 ρ 5:=fun X ρ' w' hn hd hu h=>by
 have s1:=(h.old 1 (by omega)).trans hρ1
 have hf:=h.f4 (hd 4 (by omega) (by decide))
 have e5:=cfl_no hn
 have h9:9 ∉ X:=cp_no hu 9 (by decide)
 have h11:11 ∉ X:=cp_no hu 11 (by decide)
 have e11:=cfl_no h11
 have at1:=h.at_
 unfold CpA at at1
 simp only [e5,e11,Bool.false_eq_true,if_false] at at1
 obtain ⟨_,hq,_⟩:=at1.drop.drop.drop.drop.drop.ex
 have hT:=hr _ _ hq
 have hvl:=hg.vlen
 have hil:=hg.ilen
 have hgl:=hg.goal.len
 have at2:=(at1.by Imp.fr2).by Imp.dr
 show wpT Tryz.prog [LO.mk 2 (some 14) (.call (Call.mk (.value (.func 68)) #[.tmp 13] #[22])) 22 none] ρ' w' _
 simp [hf]
 refine cl_of (cloneI_spec T.nv.1 T.init hT.init (by omega)) ?_
 rintro u w2 n2
 have at3:=At.nw (by repeat' (first | exact hB | exact Lcl.own | exact Lcl.obj | exact Lcl.emp | exact Lcl.pt | apply Lcl.star | split)) at2 n2
 have at4:=at3.by Imp.bk2
 simp
 refine ⟨fun t ht=>by
  have:=h.old t ht
  simp only [Env.put,Env.set]
  rw [if_neg (by omega)]
  exact this,by simpa using h.f0,by simpa using h.f1,by simpa using h.f3,by simpa using h.f4,by simpa using h.f6,by simpa using h.f7,by simp [h9],?_⟩
 unfold CpA
 simpa [cfl_add,e5,e11] using at4
theorem cp8 (hρ1:ρ 1=.pointer (some ⟨tb,0,none⟩)) (hB:Lcl B) (hr:Rds B fun w'=>NtR w' T) (hg:NtG T):CpStep tb T B w0 F0 ρ 8:=fun X ρ' w' hn hd hu h=>by
 have s1:=(h.old 1 (by omega)).trans hρ1
 have hf:=h.f7 (hd 7 (by omega) (by decide))
 have e8:=cfl_no hn
 have h9:9 ∉ X:=cp_no hu 9 (by decide)
 have h11:11 ∉ X:=cp_no hu 11 (by decide)
 have e11:=cfl_no h11
 have at1:=h.at_
 unfold CpA at at1
 simp only [e8,e11,Bool.false_eq_true,if_false] at at1
 obtain ⟨_,hq,_⟩:=at1.drop.drop.drop.drop.drop.ex
 have hT:=hr _ _ hq
 have hvl:=hg.vlen
 have hil:=hg.ilen
 have hgl:=hg.goal.len
 have at2:=(at1.by Imp.fr3).by Imp.dr
 show wpT Tryz.prog [LO.mk 2 (some 17) (.call (Call.mk (.value (.func 69)) #[.tmp 16] #[23])) 23 none] ρ' w' _
 simp [hf]
 refine cl_of (cloneF_spec T.gv.1 T.goal hT.goal (by omega)) ?_
 rintro u w2 n2
 have at3:=At.nw (by repeat' (first | exact hB | exact Lcl.own | exact Lcl.obj | exact Lcl.emp | exact Lcl.pt | apply Lcl.star | split)) at2 n2
 have at4:=at3.by Imp.bk3
 simp
 refine ⟨fun t ht=>by
  have:=h.old t ht
  simp only [Env.put,Env.set]
  rw [if_neg (by omega)]
  exact this,by simpa using h.f0,by simpa using h.f1,by simpa using h.f3,by simpa using h.f4,by simpa using h.f6,by simpa using h.f7,by simp [h9],?_⟩
 unfold CpA
 simpa [cfl_add,e8,e11] using at4
theorem cp9 (hρ1:ρ 1=.pointer (some ⟨tb,0,none⟩)) (hB:Lcl B) (hr:Rds B fun w'=>NtR w' T) (hg:NtG T):CpStep tb T B w0 F0 ρ 9:=fun X ρ' w' hn hd hu h=>by
 have s1:=(h.old 1 (by omega)).trans hρ1
 show wpT Tryz.prog [LO.mk 0 (some 18) (.build 26 #[(0,.tmp 11),(1,.tmp 14),(2,.tmp 17)]) 26 none] ρ' w' _
 have h3:=h.at_
 unfold CpA at h3
 have e2:=cfl_yes (hd 2 (by omega) (by decide))
 have e5:=cfl_yes (hd 5 (by omega) (by decide))
 have e8:=cfl_yes (hd 8 (by omega) (by decide))
 simp only [e2,e5,e8,if_true] at h3
 have c2:=h3.own.c1
 have c5:=h3.drop.own.c1
 have c8:=h3.drop.drop.own.c1
 simp [c2,c5,c8]
 refine ⟨fun t ht=>by
  have:=h.old t ht
  simp only [Env.put,Env.set]
  rw [if_neg (by omega)]
  exact this,by simpa using h.f0,by simpa using h.f1,by simpa using h.f3,by simpa using h.f4,by simpa using h.f6,by simpa using h.f7,by simp [nlV],by
  have:=h.at_
  simpa [CpA,cfl_add] using this⟩
theorem cp10 (hρ1:ρ 1=.pointer (some ⟨tb,0,none⟩)) (hB:Lcl B) (hr:Rds B fun w'=>NtR w' T) (hg:NtG T):CpStep tb T B w0 F0 ρ 10:=fun X ρ' w' hn hd hu h=>by
 have s1:=(h.old 1 (by omega)).trans hρ1
 have e10:=cfl_no hn
 have h11:11 ∉ X:=cp_no hu 11 (by decide)
 have h9:9 ∈ X→ρ' 18=.agg #[ρ' 11,ρ' 14,ρ' 17,nlV]:=h.f9
 have e11:=cfl_no h11
 have at1:=h.at_
 unfold CpA at at1
 simp only [e10,e11,Bool.false_eq_true,if_false] at at1
 have at2:=(at1.by Imp.fr4).by Imp.dr
 have at3:=at2.alloc (tcO nlV nlV nlV nlV) (by repeat' (first | exact hB | exact Lcl.own | exact Lcl.obj | exact Lcl.emp | exact Lcl.pt | apply Lcl.star | split))
 have at4:=(at3.imp (A':=Star (PtA (.pointer (some ⟨w'.heap.size,0,none⟩)) (tcO nlV nlV nlV nlV)) _) fun F1 ⟨Fa,Fb,h1,h2,hd,e⟩=>⟨F1,⟨Fa,Fb,⟨_,rfl,h1⟩,h2,hd,e⟩,fun x hx=>hx⟩)
 have at5:=at4.by Imp.bk4
 show wpT Tryz.prog [LO.mk 3 (some 3) (.alloc 26) 0 none] ρ' w' _
 simp
 refine ⟨fun t ht=>by
  have:=h.old t ht
  simp only [Env.put,Env.set]
  rw [if_neg (by omega)]
  exact this,by simpa using h.f0,by simpa using h.f1,by simpa using h.f3,by simpa using h.f4,by simpa using h.f6,by simpa using h.f7,by simpa using h9,?_⟩
 unfold CpA
 simpa [cfl_add,e10,e11,tcO,nlV] using at5
theorem cp11 (hρ1:ρ 1=.pointer (some ⟨tb,0,none⟩)) (hB:Lcl B) (hr:Rds B fun w'=>NtR w' T) (hg:NtG T):CpStep tb T B w0 F0 ρ 11:=fun X ρ' w' hn hd hu h=>by
 have s1:=(h.old 1 (by omega)).trans hρ1
 have e11:=cfl_no hn
 have e10:=cfl_yes (hd 10 (by omega) (by decide))
 have e2:=cfl_yes (hd 2 (by omega) (by decide))
 have e5:=cfl_yes (hd 5 (by omega) (by decide))
 have e8:=cfl_yes (hd 8 (by omega) (by decide))
 have hf:=h.f9 (hd 9 (by omega) (by decide))
 have at1:=h.at_
 unfold CpA at at1
 simp only [e11,e10,e2,e5,e8,Bool.false_eq_true,if_false,if_true] at at1
 have c2:=at1.own.c1
 have c5:=at1.drop.own.c1
 have c8:=at1.drop.drop.own.c1
 have o2:=at1.own.o1
 have o5:=at1.drop.own.o1
 have o8:=at1.drop.drop.own.o1
 obtain ⟨p,hp⟩:∃ p,ρ' 3=p:=⟨_,rfl⟩
 rw [hp] at at1
 have at2:=at1.by Imp.fr4
 obtain ⟨ob,rfl⟩:∃ ob,p=.pointer (some ⟨ob,0,none⟩):=by
  obtain ⟨_,⟨Fa,Fb,⟨b,hb,_⟩,_⟩,_⟩:=at2.ex
  exact ⟨b,hb⟩
 have at3:At w0 F0 (Star (ObjA ob (tcO nlV nlV nlV nlV)) _) w':=at2.imp fun F1 ⟨Fa,Fb,⟨b,hb,h1⟩,h2,hd,e⟩=>⟨F1,⟨Fa,Fb,by injection hb with hb; injection hb with hb; injection hb with hb; subst hb; exact h1,h2,hd,e⟩,fun x hx=>hx⟩
 unfold tcO at at3
 show wpT Tryz.prog [LO.mk 2 none (.store 26 (.tmp 3) (.tmp 18)) 0 none] ρ' w' _
 simp [hf,hp,c2,c5,c8,nlV]
 refine at3.st (by repeat' (first | exact hB | exact Lcl.own | exact Lcl.obj | exact Lcl.emp | exact Lcl.pt | apply Lcl.star | split)) (by simp) (by simp [o2,o5,o8]) fun w2 at4=>?_
 have at5:=(at4.imp (A':=Star (PtA (.pointer (some ⟨ob,0,none⟩)) (tcO (ρ' 11) (ρ' 14) (ρ' 17) nlV)) _) fun F1 ⟨Fa,Fb,h1,h2,hd,e⟩=>⟨F1,⟨Fa,Fb,⟨_,rfl,by simpa [tcO,nlV] using h1⟩,h2,hd,e⟩,fun x hx=>hx⟩)
 have at6:=at5.by Imp.bk4
 simp
 refine ⟨h.old,by simpa using h.f0,by simpa using h.f1,by simpa using h.f3,by simpa using h.f4,by simpa using h.f6,by simpa using h.f7,by simpa using h.f9,?_⟩
 unfold CpA
 simpa [cfl_add,e11,e10,e2,e5,e8,hp] using at6
theorem cp_all (hρ1:ρ 1=.pointer (some ⟨tb,0,none⟩)) (hB:Lcl B) (hr:Rds B fun w'=>NtR w' T) (hg:NtG T) (i:Nat) (hi:i < 12):CpStep tb T B w0 F0 ρ i:=by
 have:i=0∨i=1∨i=2∨i=3∨i=4∨i=5∨i=6∨i=7∨i=8∨i=9∨i=10∨i=11:=by omega
 rcases this with rfl | rfl | rfl | rfl | rfl | rfl | rfl | rfl | rfl | rfl | rfl | rfl
 ·exact cp0 hρ1 hB hr hg
 ·exact cp1 hρ1 hB hr hg
 ·exact cp2 hρ1 hB hr hg
 ·exact cp3 hρ1 hB hr hg
 ·exact cp4 hρ1 hB hr hg
 ·exact cp5 hρ1 hB hr hg
 ·exact cp6 hρ1 hB hr hg
 ·exact cp7 hρ1 hB hr hg
 ·exact cp8 hρ1 hB hr hg
 ·exact cp9 hρ1 hB hr hg
 ·exact cp10 hρ1 hB hr hg
 ·exact cp11 hρ1 hB hr hg
end
end Go.Proofs.YtkhfdmelcpfgoaaGreat
end
section
set_option maxRecDepth 100000
set_option linter.unusedSimpArgs false
set_option linter.unusedVariables false
namespace Go.Proofs.YtkhfdmelcpfgoaaGreat
open Go Go.W Go.Tk Go.Rx Go.Bd Go.Sy Go.Maps
theorem cp_region {tb:Nat} {T:Nt} {B:Asr} {w0 w:World} {F0:List Nat} {ρ:Env} {Q:Ex→Env→World→Prop} (hρ1:ρ 1=.pointer (some ⟨tb,0,none⟩)) (hB:Lcl B) (hr:Rds B fun w'=>NtR w' T) (hg:NtG T)
  (h0:At w0 F0 (Star (ObjA tb (ntO T)) B) w)
  (H:∀ a b c ob w',At w0 F0 (Star (OwnA a 3 1 nE T.vars) (Star (OwnA b 3 1 nE T.init) (Star (OwnA c 92 2 fcE T.goal) (Star (ObjA ob (tcO a b c nlV)) (Star (ObjA tb (ntO T)) B))))) w'→Q .nrm (ρ.set 3 (.pointer (some ⟨ob,0,none⟩))) w'):wpL Tryz.prog (.anyR cpLos cpDeps [3]) Q ρ w:=by
 refine any_inv (CpT tb T B w0 F0 ρ) ?_ ?_ ?_
 ·refine ⟨fun t _=>rfl,by simp,by simp,by simp,by simp,by simp,by simp,by simp,?_⟩
  have h1:=h0.drew (Lcl.obj.star hB)
  unfold CpA cfl
  simp only [List.not_mem_nil,decide_false,Bool.false_eq_true,if_false]
  exact h1.by (Imp.em.trans (Imp.em.trans (Imp.em.trans Imp.em)))
 ·intro X i ρ' w' hi hn _ _ hd hu hT
  have hi:i < 12:=hi
  exact cp_all hρ1 hB hr hg i hi X ρ' w' hn hd hu hT
 ·intro l ρ' w' hl hT
  have hm:∀ j,j < 12→cfl l j=true:=fun j hj=>cfl_yes (hl.mem_iff.2 (List.mem_range.2 hj))
  have h1:=hT.at_
  unfold CpA at h1
  simp only [hm 2 (by omega),hm 5 (by omega),hm 8 (by omega),hm 10 (by omega),hm 11 (by omega),if_true] at h1
  have h2:=h1.by Imp.fr4
  obtain ⟨p,hp⟩:∃ p,ρ' 3=p:=⟨_,rfl⟩
  rw [hp] at h2
  obtain ⟨ob,rfl⟩:∃ ob,p=.pointer (some ⟨ob,0,none⟩):=by
   obtain ⟨_,⟨Fa,Fb,⟨b,hb,_⟩,_⟩,_⟩:=h2.ex
   exact ⟨b,hb⟩
  have h3:At w0 F0 (Star (ObjA ob (tcO (ρ' 11) (ρ' 14) (ρ' 17) nlV)) _) w':=h2.imp fun F1 ⟨Fa,Fb,⟨b,hb,h1⟩,h2,hd,e⟩=>⟨F1,⟨Fa,Fb,by injection hb with hb; injection hb with hb; injection hb with hb; subst hb; exact h1,h2,hd,e⟩,fun x hx=>hx⟩
  have h4:=H _ _ _ _ _ (h3.by Imp.bk4)
  simp only [merge_cons,merge_nil,hp]
  exact h4
def skE (e:Nf):List Go.Tk.Fc × Nat × Nat:=(e.cnd,e.v,e.x)
def skO (o:No):ByteArray × Nat × List Go.Tk.Fc × List (List Go.Tk.Fc × Nat × Nat):=(o.name,o.cost,o.pre,o.effs.map skE)
structure Alk (T T':Nt):Prop where
 vars:T'.vars=T.vars
 init:T'.init=T.init
 goal:T'.goal=T.goal
 ops:T'.ops.map skO=T.ops.map skO
def cdE (e:Nf):Cell1 × List Go.Tk.Fc:=(e.wv,e.cnd)
def EfA (ev:Value) (es:List Nf) (X:Asr):Asr:=Star (OwnA ev 90 3 nfE es) (Star (VwsA fcE (es.map cdE)) X)
theorem EfA.lcl {ev:Value} {es:List Nf} {X:Asr} (hX:Lcl X):Lcl (EfA ev es X):=Lcl.own.star (Lcl.vws.star hX)
def OpA (ov:Value) (os:List No) (X:Asr):Asr:=Star (OwnA ov 50 4 noE os) (Star (VwsA fcE (os.map pvW)) (Star (VwsA nfE (os.map evW)) (Star (VwsA fcE (os.flatMap cdW)) X)))
theorem OpA.lcl {ov:Value} {os:List No} {X:Asr} (hX:Lcl X):Lcl (OpA ov os X):=Lcl.own.star (Lcl.vws.star (Lcl.vws.star (Lcl.vws.star hX)))
def CeI (rb ob opb:Nat) (ovv:Value) (n k:Nat) (oo:Obj) (X:Asr) (w:World) (F:List Nat) (o:No) (j:Nat) (ρ:Env) (w':World):Prop :=
 ρ 2=.pointer (some ⟨rb,0,none⟩)∧ρ 3=.pointer (some ⟨ob,0,none⟩)∧ρ 5=.pointer (some ⟨opb,0,none⟩)∧ρ 20=ovv∧ρ 21=.int .i64 (n:Nat)∧ρ 22=.int .i64 (k:Nat)∧ρ 31=o.ev.1∧∃ es,es.map skE=(o.effs.take j).map skE∧At w F (EfA (ρ 6) es (Star (ObjA opb oo) X)) w'
theorem VwsA.join {α:Type} {enc:α→List Value} {ps qs:List (Cell1 × List α)} {X:Asr}:Imp (Star (VwsA enc ps) (Star (VwsA enc qs) X)) (Star (VwsA enc (qs ++ ps)) X):=by
 rintro w F ⟨Fa,Fx,⟨h1,h2,rfl⟩,⟨Fb,Fc,⟨h3,h4,rfl⟩,h5,hd,rfl⟩,hd2,rfl⟩
 refine ⟨_,⟨_,Fc,⟨fun p hp=>?_,fun x hx=>?_,rfl⟩,h5,fun x hx hc=>?_,rfl⟩,fun x hx=>?_⟩
 ·rcases List.mem_append.1 hp with h | h
  ·exact h3 p h
  ·exact h1 p h
 ·rw [List.flatMap_append] at hx
  rcases List.mem_append.1 hx with h | h
  ·exact h4 x h
  ·exact h2 x h
 ·rw [List.flatMap_append] at hx
  rcases List.mem_append.1 hx with h | h
  ·exact hd x h hc
  ·exact hd2 x h (by simp [hc])
 ·rw [List.flatMap_append] at hx
  simp only [List.mem_append] at hx ⊢
  rcases hx with (h | h) | h
  ·exact .inr (.inl h)
  ·exact .inl h
  ·exact .inr (.inr h)
theorem Imp.as {A B C:Asr}:Imp (Star A (Star B C)) (Star (Star A B) C):=by
 rintro w F ⟨Fa,Fx,h1,⟨Fb,Fc,h2,h3,hd,rfl⟩,hd2,rfl⟩
 refine ⟨_,⟨Fa ++ Fb,Fc,⟨Fa,Fb,h1,h2,fun x hx hb=>hd2 x hx (by simp [hb]),rfl⟩,h3,fun x hx hc=>?_,rfl⟩,fun x hx=>?_⟩
 ·rcases List.mem_append.1 hx with h | h
  ·exact hd2 x h (by simp [hc])
  ·exact hd x h hc
 ·simpa using hx
theorem OpA.fold {ev pc:Value} {E1 E2:Nat} {es:List Nf} {pre:List Go.Tk.Fc} {ce ps rs:List (Cell1 × List Go.Tk.Fc)} {qs:List (Cell1 × List Nf)} {Z:Asr} (h1:oneC pc=true) (h2:oneC ev=true) :
  Imp (Star (OwnA ev E1 3 nfE es) (Star (VwsA fcE ce) (Star (OwnA pc E2 2 fcE pre) (Star (VwsA fcE ps) (Star (VwsA nfE qs) (Star (VwsA fcE rs) Z)))))) (Star (VwsA fcE (ps ++ [(⟨pc,h1⟩,pre)])) (Star (VwsA nfE (qs ++ [(⟨ev,h2⟩,es)])) (Star (VwsA fcE (rs ++ ce)) Z))) :=
 Imp.trans (Imp.un (Imp.un (Imp.ow.trans (VwsA.add h1)))) (Imp.trans Imp.fr3 (Imp.un (Imp.trans (Imp.un Imp.sw) (Imp.trans (Imp.ow.trans (VwsA.add h2)) (Imp.un VwsA.join)))))
theorem rd_c3 {w:World} {q E:Nat} {a b c:Value} (h:w.heap[q]?=some (.cells #[a,b,c] E (0,0))):cellsAt w ⟨q,0,none⟩ 0 3=some [a,b,c]:=by
 simp [cellsAt,cell_blk h]
theorem rd_c4 {w:World} {q E:Nat} {a b c d:Value} (h:w.heap[q]?=some (.cells #[a,b,c,d] E (0,0))):cellsAt w ⟨q,0,none⟩ 0 4=some [a,b,c,d]:=by
 simp [cellsAt,cell_blk h]
theorem rd_tc {w:World} {q:Nat} {a b c d:Value} (h:w.heap[q]?=some (tcO a b c d)):cellsAt w ⟨q,0,none⟩ 0 4=some [a,b,c,d]:=by
 unfold tcO at h
 simp [cellsAt,cell_blk h]
def CoI (tb rb ob:Nat) (T:Nt) (a b c:Value) (X:Asr) (w:World) (F:List Nat) (k:Nat) (ρ:Env) (w':World):Prop :=
 ρ 2=.pointer (some ⟨rb,0,none⟩)∧ρ 3=.pointer (some ⟨ob,0,none⟩)∧ρ 20=T.ov.1∧∃ ov os,os.map skO=(T.ops.take k).map skO∧At w F (OpA ov os (Star (ObjA ob (tcO a b c ov)) X)) w'
section
variable {w w1:World} {F:List Nat} {B:Asr}
set_option maxHeartbeats 4000000 in
theorem copied_spec (T:Nt) (hB:Lcl B) (h:At w F B w1) (hr:Rds B fun w'=>NtR w' T) (hg:NtG T) :
  Calls Tryz.prog 46 [ntV T].toArray w1 fun en w'=>∃ v,en=.returned v∧∃ T',v=ntV T'∧Alk T T'∧At w F (Star (TskA T') B) w':=by
 refine enter Tryz.func46 mixed low46 (Nat.le_of_ble_eq_true rfl) ?_
 simp only [L46]
 obtain ⟨tb,htb⟩:∃ tb,tb=w1.heap.size:=⟨_,rfl⟩
 have h1:At w F (Star (ObjA tb (ntO T)) B) (w1.alloc (ntO T)):=by rw [htb]; exact h.alloc _ hB
 obtain ⟨w2,hw2⟩:∃ w2,w2=w1.alloc (ntO T):=⟨_,rfl⟩
 rw [← hw2] at h1
 have hw2':w1.alloc (.cells #[T.vv.1,T.nv.1,T.gv.1,T.ov.1] 26 (0,0))=w2:=by rw [hw2]; rfl
 obtain ⟨rb,hrb⟩:∃ rb,rb=w2.heap.size:=⟨_,rfl⟩
 have h2:At w F (Star (ObjA rb (tcO nlV nlV nlV nlV)) (Star (ObjA tb (ntO T)) B)) (w2.alloc (tcO nlV nlV nlV nlV)):=by rw [hrb]; exact h1.alloc _ (Lcl.obj.star hB)
 obtain ⟨w3,hw3⟩:∃ w3,w3=w2.alloc (tcO nlV nlV nlV nlV):=⟨_,rfl⟩
 rw [← hw3] at h2
 have hw3':w2.alloc (.cells #[.slice none 0 0,.slice none 0 0,.slice none 0 0,.slice none 0 0] 26 (0,0))=w3:=by rw [hw3]; rfl
 have h3:=h2.by Imp.sw
 have hB3:Lcl (Star (ObjA rb (tcO nlV nlV nlV nlV)) B):=Lcl.obj.star hB
 have hr3:Rds (Star (ObjA rb (tcO nlV nlV nlV nlV)) B) fun w'=>NtR w' T:=Rds.star hr
 simp [ntV,← htb,hw2',← hrb,hw3']
 refine cp_region (T:=T) (tb:=tb) (by simp [htb]) hB3 hr3 hg h3 fun a b c ob w4 h4=>?_
 have hXB:Lcl (Star (OwnA a 3 1 nE T.vars) (Star (OwnA b 3 1 nE T.init) (Star (OwnA c 92 2 fcE T.goal) (Star (ObjA tb (ntO T)) (Star (ObjA rb (tcO nlV nlV nlV nlV)) B))))):=Lcl.own.star (Lcl.own.star (Lcl.own.star (Lcl.obj.star hB3)))
 have hXr:Rds (Star (OwnA a 3 1 nE T.vars) (Star (OwnA b 3 1 nE T.init) (Star (OwnA c 92 2 fcE T.goal) (Star (ObjA tb (ntO T)) (Star (ObjA rb (tcO nlV nlV nlV nlV)) B))))) fun w'=>NtR w' T:=Rds.star (Rds.star (Rds.star (Rds.star hr3)))
 have h5:=h4.by Imp.fr4
 have htO:=h5.drop.drop.drop.drop.obj
 unfold ntO at htO
 obtain ⟨X,hX⟩:∃ X,X=Star (OwnA a 3 1 nE T.vars) (Star (OwnA b 3 1 nE T.init) (Star (OwnA c 92 2 fcE T.goal) (Star (ObjA tb (ntO T)) (Star (ObjA rb (tcO nlV nlV nlV nlV)) B)))):=⟨_,rfl⟩
 rw [← hX] at h5 hXB hXr
 have hT4:NtR w4 T:=by
  obtain ⟨_,hq,_⟩:=h5.drop.ex
  exact hXr _ _ hq
 have hLo:Lcl (Star (ObjA ob (tcO a b c nlV)) X):=Lcl.obj.star hXB
 have h6:=VwsA.nil (enc:=fcE) hLo h5
 have h7:=VwsA.nil (enc:=nfE) (Lcl.vws.star hLo) h6
 have h8:=VwsA.nil (enc:=fcE) (Lcl.vws.star (Lcl.vws.star hLo)) h7
 have h9:=h8.nil (E:=50) (sz:=4) (enc:=noE) (Lcl.vws.star (Lcl.vws.star (Lcl.vws.star hLo)))
 have h10:At w F (OpA nlV [] (Star (ObjA ob (tcO a b c nlV)) X)) w4:=h9
 have holen:=hg.olen
 simp [← htb,cell_blk htO,hT4.ops.len]
 refine range_loop (n:=T.ops.length) (by omega) (CoI tb rb ob T a b c X w F) (by simp) (by simp)
  ⟨by simp [hrb],by simp,by simp,nlV,[],by simp,h10⟩ (by decide) (fun _ _ _ _ h=>by unfold CoI at h ⊢; simpa using h) (fun _ _ _ _ h=>by unfold CoI at h ⊢; simpa using h) ?_ ?_
 ·clear h h1 h2 h3 h4 h5 h6 h7 h8 h9 h10 htO hT4
  rintro k ρ w5 hk hck hlk ⟨g2,g3,g20,ov,os,hos,h5⟩
  obtain ⟨o,ho⟩:∃ o,T.ops[k]?=some o:=⟨_,List.getElem?_eq_getElem hk⟩
  have hom:=List.mem_of_getElem? ho
  have hog:=hg.ops o hom
  have hpl:=hog.pre.len
  have hvl:=hg.vlen
  have hel:=hog.elen
  have hrd:∀ {ov os},Rds (OpA ov os (Star (ObjA ob (tcO a b c ov)) X)) fun w'=>NtR w' T:=fun {ov os}=>by
   unfold OpA
   exact Rds.star (Rds.star (Rds.star (Rds.star (Rds.star hXr))))
  have hT5:NtR w5 T:=by
   obtain ⟨_,hq,_⟩:=h5.ex
   exact hrd _ _ hq
  have hL5:Lcl (OpA ov os (Star (ObjA ob (tcO a b c ov)) X)):=OpA.lcl (Lcl.obj.star hXB)
  have ec:=hT5.ops.cells noE_len ho
  simp only [noE] at ec
  have hki:(k:Int) < T.ops.length:=by omega
  obtain ⟨opb,hopb⟩:∃ opb,opb=w5.heap.size:=⟨_,rfl⟩
  simp (disch:=omega) [g20,hck,hlk,hT5.ops.idx,ec,← hopb]
  refine st_oq (o:=o.raw) hL5 h5 hopb fun w6 h6=>?_
  have oo6:=h6.obj
  unfold oqO No.raw at oo6
  have hT6:NtR w6 T:=by
   obtain ⟨_,hq,_⟩:=h6.drop.ex
   exact hrd _ _ hq
  simp [cell_blk oo6,← hopb]
  refine cl_of (cloneF_spec o.pv.1 o.pre (hT6.op o hom).pre (by omega)) ?_
  rintro pc w7 n7
  have h7:=(At.nw (Lcl.obj.star hL5) h6 n7).by Imp.sw
  have hL7:Lcl (Star (OwnA pc 92 2 fcE o.pre) (OpA ov os (Star (ObjA ob (tcO a b c ov)) X))):=Lcl.own.star hL5
  have pc1:=n7.own.c1
  have po1:=n7.own.o1
  unfold oqO No.raw at h7
  simp [pc1,← hopb]
  refine h7.st hL7 (by simp) (by simp [po1]) fun w8 h8=>?_
  simp at h8
  have oo8:=h8.obj
  have hT8:NtR w8 T:=by
   obtain ⟨_,hq,_⟩:=h8.drop.drop.ex
   exact hrd _ _ hq
  have hR8:=hT8.op o hom
  have hLo8:Lcl (Star (ObjA opb (.cells #[.string o.name,.int .i64 (o.cost:Nat),pc,o.ev.1] 50 (0,0))) (Star (OwnA pc 92 2 fcE o.pre) (OpA ov os (Star (ObjA ob (tcO a b c ov)) X)))):=Lcl.obj.star hL7
  have h9:=VwsA.nil (enc:=fcE) hLo8 h8
  have h10:=h9.nil (E:=90) (sz:=3) (enc:=nfE) (Lcl.vws.star hLo8)
  have h10':At w F (EfA nlV [] (Star (ObjA opb (.cells #[.string o.name,.int .i64 (o.cost:Nat),pc,o.ev.1] 50 (0,0))) (Star (OwnA pc 92 2 fcE o.pre) (OpA ov os (Star (ObjA ob (tcO a b c ov)) X))))) w8:=h10
  simp (disch:=omega) [cell_blk oo8,← hopb,hR8.effs.len]
  refine range_loop (n:=o.effs.length) (by omega) (CeI rb ob opb T.ov.1 T.ops.length k (.cells #[.string o.name,.int .i64 (o.cost:Nat),pc,o.ev.1] 50 (0,0)) (Star (OwnA pc 92 2 fcE o.pre) (OpA ov os (Star (ObjA ob (tcO a b c ov)) X))) w F o) (by simp) (by simp)
   ⟨by simp [g2],by simp [g3],by simp [hopb],by simp [g20],by simp [hlk],by simp [hck],by simp,[],by simp,by simpa [nlV] using h10'⟩ (by decide) (fun _ _ _ _ h=>by unfold CeI at h ⊢; simpa using h) (fun _ _ _ _ h=>by unfold CeI at h ⊢; simpa using h) ?_ ?_
  ·clear h6 h7 h8 h9 h10 h10' oo6 oo8 hT8 hR8 hT6 n7
   rintro j ρ w9 hj hcj hlj ⟨e2,e3,e5,e20,e21,e22,e31,es,hes,h9⟩
   obtain ⟨x,hx⟩:∃ x,o.effs[j]?=some x:=⟨_,List.getElem?_eq_getElem hj⟩
   have hxm:=List.mem_of_getElem? hx
   have hcl:=(hog.cnd x hxm).len
   have hse:es.length=j:=by
    have:=congrArg List.length hes
    rw [List.length_map,List.length_map,List.length_take] at this
    omega
   obtain ⟨evx,hev⟩:∃ evx,ρ 6=evx:=⟨_,rfl⟩
   rw [hev] at h9
   obtain ⟨Z,hZ⟩:∃ Z,Z=Star (ObjA opb (.cells #[.string o.name,.int .i64 (o.cost:Nat),pc,o.ev.1] 50 (0,0))) (Star (OwnA pc 92 2 fcE o.pre) (OpA ov os (Star (ObjA ob (tcO a b c ov)) X))):=⟨_,rfl⟩
   rw [← hZ] at h9
   have hLZ:Lcl Z:=by rw [hZ]; exact Lcl.obj.star hL7
   have hrZ:Rds Z fun w'=>NtR w' T:=by rw [hZ]; exact Rds.star (Rds.star hrd)
   have hrE:Rds (EfA evx es Z) fun w'=>NtR w' T:=Rds.star (Rds.star hrZ)
   have hR9:NoR w9 o:=by
    obtain ⟨_,hq,_⟩:=h9.ex
    exact (hrE _ _ hq).op o hom
   have ec9:=hR9.effs.cells nfE_len hx
   simp only [nfE] at ec9
   have hji:(j:Int) < o.effs.length:=by omega
   obtain ⟨eb,heb⟩:∃ eb,eb=w9.heap.size:=⟨_,rfl⟩
   simp (disch:=omega) [e31,hcj,hlj,hR9.effs.idx,ec9,← heb]
   refine st_ef (e:=x.raw) (EfA.lcl hLZ) h9 heb fun w10 h10=>?_
   have oe10:=h10.obj
   unfold efO Nf.raw at oe10
   have hR10:NoR w10 o:=by
    obtain ⟨_,hq,_⟩:=h10.drop.ex
    exact (hrE _ _ hq).op o hom
   simp [cell_blk oe10,← heb]
   refine cl_of (cloneF_spec x.wv.1 x.cnd (hR10.cnd x hxm) (by omega)) ?_
   rintro cc w11 n11
   have h11:=(At.nw (Lcl.obj.star (EfA.lcl hLZ)) h10 n11).by Imp.sw
   have cc1:=n11.own.c1
   have co1:=n11.own.o1
   have hL11:Lcl (Star (OwnA cc 92 2 fcE x.cnd) (EfA evx es Z)):=Lcl.own.star (EfA.lcl hLZ)
   unfold efO Nf.raw at h11
   simp [cc1,← heb]
   refine h11.st hL11 (by simp) (by simp [co1]) fun w12 h12=>?_
   simp at h12
   have oe12:=rd_c3 h12.obj
   have h13:=(h12.by Imp.dr).by Imp.sw
   simp [hev,oe12,← heb,rowOf]
   have hL13:Lcl (Star (OwnA cc 92 2 fcE x.cnd) (Star (VwsA fcE (es.map cdE)) Z)):=Lcl.own.star (Lcl.vws.star hLZ)
   have h14:=h13.kp0 (Lcl.own.star hL13) ((Kp.refl [] w12).alloc (.cells #[cc,.int .i64 (x.v:Nat),.int .i64 (x.x:Nat)] 90))
   refine At.append (xs:=[(⟨⟨cc,co1⟩,x.cnd,x.v,x.x⟩:Nf)]) hL13 h14 nfE_len nfE_one sl_48 rfl (fun j u hj=>?_) (by omega) (by unfold maxLen; omega) fun v' w15 h15=>?_
   ·rw [add_none,cell_blk alloc_new]
    simpa [nfE] using hj
   have h16:=h15.by (Imp.un (Imp.ow.trans (VwsA.add co1)))
   simp [hcj,hlj]
   refine ⟨by simp [e2],by simp [e3],by simp [e5],by simp [e20],by simp [e21],by simp [e22],by simp [e31],es ++ [(⟨⟨cc,co1⟩,x.cnd,x.v,x.x⟩:Nf)],?_,?_⟩
   ·rw [List.map_append,hes,List.take_add_one,hx,List.map_append]
    rfl
   ·unfold EfA
    rw [List.map_append]
    rw [hZ] at h16
    exact h16
  ·clear h6 h7 h8 h9 h10 h10' oo6 oo8 hT8 hR8 hT6 n7
   rintro ρ w9 ⟨e2,e3,e5,e20,e21,e22,e31,es,hes,h9⟩
   rw [List.take_length] at hes
   obtain ⟨evx,hev⟩:∃ evx,ρ 6=evx:=⟨_,rfl⟩
   rw [hev] at h9
   unfold EfA OpA at h9
   have ev1:=h9.own.c1
   have eo1:=h9.own.o1
   have h10:=h9.by Imp.fr3
   simp [hev,e5,ev1]
   refine h10.st (by repeat' (first | exact hXB | exact Lcl.own | exact Lcl.obj | exact Lcl.vws | apply Lcl.star)) (by simp) (by simp [eo1]) fun w11 h11=>?_
   simp at h11
   have oo11:=rd_c4 h11.obj
   have ob11:=h11.drop.drop.drop.drop.drop.drop.drop.drop.obj
   unfold tcO at ob11
   have hol:os.length=k:=by
    have:=congrArg List.length hos
    rw [List.length_map,List.length_map,List.length_take] at this
    omega
   simp [e3,e5,cell_blk ob11,oo11,rowOf]
   have h12:=(h11.by Imp.dr).by Imp.fr4
   obtain ⟨o',ho'⟩:∃ o':No,o'=⟨o.name,o.cost,⟨pc,po1⟩,o.pre,⟨evx,eo1⟩,es⟩:=⟨_,rfl⟩
   have hLs:Lcl (Star (OwnA evx 90 3 nfE es) (Star (VwsA fcE (es.map cdE)) (Star (OwnA pc 92 2 fcE o.pre) (Star (VwsA fcE (os.map pvW)) (Star (VwsA nfE (os.map evW)) (Star (VwsA fcE (os.flatMap cdW)) (Star (ObjA ob (tcO a b c ov)) X))))))):=Lcl.own.star (Lcl.vws.star (Lcl.own.star (Lcl.vws.star (Lcl.vws.star (Lcl.vws.star (Lcl.obj.star hXB))))))
   have h13:=h12.kp0 (Lcl.own.star hLs) ((Kp.refl [] w11).alloc (.cells #[.string o.name,.int .i64 (o.cost:Nat),pc,evx] 50))
   refine At.append (xs:=[o']) hLs h13 noE_len noE_one sl_24 rfl (fun j u hj=>?_) (by omega) (by unfold maxLen; omega) fun ov' w14 h14=>?_
   ·rw [add_none,cell_blk alloc_new]
    rw [ho'] at hj
    simpa [noE] using hj
   have ov1:=h14.own.c1
   have ovo:=h14.own.o1
   have h15:=h14.by Imp.fr8
   unfold tcO at h15
   simp [e3,ov1]
   refine h15.st (by repeat' (first | exact hXB | exact Lcl.own | exact Lcl.obj | exact Lcl.vws | apply Lcl.star)) (by simp) (by simp [ovo]) fun w16 h16=>?_
   simp at h16
   have h17:=(h16.by Imp.bk8).by (Imp.un (OpA.fold po1 eo1))
   simp [e21,e22]
   refine ⟨by simp [e2],by simp [e3],by simp [e20],ov',os ++ [o'],?_,?_⟩
   ·rw [List.map_append,hos,List.take_add_one,ho,List.map_append,ho']
    simp [skO,hes]
   ·unfold OpA tcO
    rw [List.map_append,List.map_append,List.flatMap_append]
    have e7:[o'].flatMap cdW=es.map cdE:=by rw [ho']; simp [cdW]; exact fun _ _=>rfl
    rw [e7]
    rw [ho'] at h17 ⊢
    exact h17
 ·clear h h1 h2 h3 h4 h5 h6 h7 h8 h9 h10 htO hT4
  rintro ρ w5 ⟨g2,g3,g20,ov,os,hos,h5⟩
  rw [List.take_length] at hos
  rw [hX] at h5
  unfold OpA at h5
  have ob5:=rd_tc h5.drop.drop.drop.drop.obj
  have ov1:=h5.own.c1
  have ovo:=h5.own.o1
  have a1:=h5.drop.drop.drop.drop.drop.own.c1
  have ao:=h5.drop.drop.drop.drop.drop.own.o1
  have b1:=h5.drop.drop.drop.drop.drop.drop.own.c1
  have bo:=h5.drop.drop.drop.drop.drop.drop.own.o1
  have c1:=h5.drop.drop.drop.drop.drop.drop.drop.own.c1
  have co:=h5.drop.drop.drop.drop.drop.drop.drop.own.o1
  have h6:=h5.by Imp.fr10
  unfold tcO at h6
  simp [g2,g3,ob5,ov1,a1,b1,c1]
  refine h6.st (by repeat' (first | exact hB | exact Lcl.own | exact Lcl.obj | exact Lcl.vws | apply Lcl.star)) (by simp) (by simp [ovo,ao,bo,co]) fun w7 h7=>?_
  simp [nlV] at h7
  simp
  refine postL_c1 ag_26 (by simp [g2]) h7.obj (by simp) rfl ?_
  refine ⟨_,rfl,⟨⟨a,ao⟩,⟨b,bo⟩,⟨c,co⟩,⟨ov,ovo⟩,T.vars,T.init,T.goal,os⟩,by simp [ntV],⟨rfl,rfl,rfl,hos⟩,?_⟩
  have h8:=h7.by Imp.dr
  have h9:=(h8.by (Imp.un4 Imp.dr)).by (Imp.un4 (Imp.un3 Imp.dr))
  have h10:=(((h9.by Imp.fr7).by Imp.fr7).by Imp.fr7)
  have h11:=h10.by (Imp.trans Imp.ow (Imp.un (Imp.trans Imp.ow (Imp.un (Imp.trans Imp.ow (Imp.un Imp.ow))))))
  have h12:=((((((h11.by (Imp.un (Imp.un4 Imp.as))).by (Imp.un4 Imp.as)).by (Imp.un (Imp.un (Imp.un Imp.as)))).by (Imp.un (Imp.un Imp.as))).by (Imp.un Imp.as))).by Imp.as
  exact h12
end
end Go.Proofs.YtkhfdmelcpfgoaaGreat
end
section
set_option maxRecDepth 100000
set_option linter.unusedSimpArgs false
set_option linter.unusedVariables false
namespace Go.Proofs.YtkhfdmelcpfgoaaGreat
open Go Go.W Go.Tk Go.Rx Go.Bd Go.Sy Go.Maps
def hbL (vars st:List Nat) (m:Nat):List Bool:=(List.range (2 * nBits vars)).map fun i=>decide (i < 2 * m) && (decide (i % 2=0) && mk2 vars st [] i)
theorem hbL_len (vars st:List Nat) (m:Nat):(hbL vars st m).length=2 * nBits vars:=by simp [hbL]
theorem hbL_zero (vars st:List Nat):hbL vars st 0=List.replicate (2 * nBits vars) false:=by
 unfold hbL
 apply List.ext_getElem
 ·simp
 ·intro i h1 h2
  simp
theorem hbL_set {vars st:List Nat} {m:Nat} (hm:m < nBits vars):(hbL vars st m).set (2 * m) (mk2 vars st [] (2 * m))=hbL vars st (m+1):=by
 unfold hbL
 apply List.ext_getElem
 ·simp
 ·intro i h1 h2
  rw [List.getElem_set]
  simp only [List.getElem_map,List.getElem_range]
  by_cases h:2 * m=i
  ·subst h
   rw [if_pos rfl]
   have e1:decide (2 * m < 2 * (m+1))=true:=by simp
   have e2:decide (2 * m % 2=0)=true:=by simp
   rw [e1,e2]
   rfl
  ·rw [if_neg h]
   by_cases h3:i % 2=0
   ·have:decide (i < 2 * m)=decide (i < 2 * (m+1)):=by
     rw [decide_eq_decide]
     omega
    rw [this]
   ·have:decide (i % 2=0)=false:=by simp [h3]
    rw [this]
    simp
theorem hbL_in {vars st:List Nat} {p:Nat} (hp:p < nBits vars):inB (hbL vars st (nBits vars)) (2 * p+0)=mk2 vars st [] (2 * p+0):=by
 have h1:2 * p < 2 * nBits vars:=by omega
 unfold inB hbL
 simp [List.getD,h1,hp]
section
variable {w w1:World} {F:List Nat} {A B B':Asr} {s m lim:Nat} {T:Nt} {q:SpC} {ns:Ns} {ks:List (Nat × Bool)} {ss:List (Nat × Nat)}
theorem SpcA.fv (h:At w F (SpcA s m lim T q ns ks ss B) w1):Vw w1 q.fv nE (firstL T.vars):=by
 unfold SpcA at h
 exact h.drop.drop.own.vw
theorem SpcA.wv (h:At w F (SpcA s m lim T q ns ks ss B) w1):Vw w1 q.wv nE (widthL T.vars):=by
 unfold SpcA at h
 exact h.drop.drop.drop.own.vw
def HsI (s m lim:Nat) (T:Nt) (q:SpC) (ns:Ns) (ks:List (Nat × Bool)) (ss:List (Nat × Nat)) (B:Asr) (w:World) (F:List Nat) (a:Nat) (st:List Nat) (sv bw:Value) (p:Nat) (ρ:Env) (w':World):Prop :=
 ρ 0=.pointer (some ⟨s,0,none⟩)∧ρ 1=.int .i64 (a:Nat)∧ρ 8=bw∧ρ 38=sv∧At w F (Star (OwnA bw 4 1 bv (hbL T.vars st p)) (SpcA s m lim T q ns ks ss B)) w'
set_option maxHeartbeats 4000000 in
theorem has_spec (a:Nat) (sv:Value) (st:List Nat) (P:List Nat→Bool) (hG:SpG lim T q ns ks ss) (hB:Lcl B) (h:At w F (SpcA s m lim T q ns ks ss B) w1) (ha:Kn T ns ks a P) (hr:Rds B fun w'=>Vw w' sv nE st) (hst:StN T.vars st) :
  Calls Tryz.prog 105 [.pointer (some ⟨s,0,none⟩),.int .i64 (a:Nat),sv].toArray w1 fun en w'=>∃ v,en=.returned v∧v=.tuple #[.bool (P st),.nilIface]∧At w F (SpcA s m lim T q ns ks ss B) w':=by
 refine enter Tryz.func105 mixed low105 (Nat.le_of_ble_eq_true rfl) ?_
 simp only [L105]
 have os:=SpcA.obj h
 unfold spO at os
 rw [hG.cells.1] at os
 have hT:=SpcA.tsk h
 have hvl:=hG.g.vlen
 have hsl:=hst.len
 have hbt:=hG.ok.bt
 have hale:=ha.le hG
 have hka:i64ok a:=by unfold i64ok; omega
 have hLS:Lcl (SpcA s m lim T q ns ks ss B):=SpcA.lcl hB
 obtain ⟨n,hn2⟩:∃ n,n=2 * nBits T.vars:=⟨_,rfl⟩
 have hnI:(2:Int) * (nBits T.vars:Nat)=(n:Int):=by omega
 simp [cell_blk os]
 refine MapM.look1 (x:=a) (SpcA.km h) bkeyI Tryz.underlying97 zbool hka ?_
 simp [ha.kn,boolV,cell_blk os]
 refine cl_of (tproper_spec T.vv.1 sv _ _ (vw_n.2 hT.vars) (vw_n.2 (SpcA.frame h hr)) (by simp; omega)) ?_
 rintro _ w2 ⟨rfl,k2⟩
 have h2:=h.kp0 hLS k2
 have os2:=SpcA.obj h2
 unfold spO at os2
 have h3:=h2.made (E:=4) (enc:=bv) (x:=false) (z:=[.bool false]) (n:=n) hLS rfl bv_len (by unfold maxLen; omega)
 have hsv2:=SpcA.frame h2 hr
 rw [hn2,← hbL_zero T.vars st,← hn2] at h3
 simp (disch:=omega) [hst.ok,cell_blk os2,wrap_i64,hnI]
 refine gd_mk (by omega) ?_
 simp [hsv2.len]
 obtain ⟨bw,hbw⟩:∃ bw,bw=Value.slice (some ⟨w2.heap.size,0,none⟩) n n:=⟨_,rfl⟩
 rw [← hbw] at h3 ⊢
 refine range_loop (n:=st.length) (by omega) (fun v ρ w'=>HsI s m lim T q ns ks ss B w F a st sv bw (bP T.vars v) ρ w') (by simp) (by simp)
  ⟨by simp,by simp,by simp,by simp,h3⟩ (by decide) (fun _ _ _ _ h=>by unfold HsI at h ⊢; simpa using h) (fun _ _ _ _ h=>by unfold HsI at h ⊢; simpa using h) ?_ ?_
 ·rintro v ρ w4 hv hcv hlv ⟨e0,e1,e8,e38,h4⟩
  obtain ⟨x,hx⟩:∃ x,st[v]?=some x:=⟨_,List.getElem?_eq_getElem hv⟩
  have hxd:st.getD v 0=x:=by simp [List.getD,hx]
  have hvt:v < T.vars.length:=by omega
  obtain ⟨nn,hvn⟩:∃ nn,T.vars[v]?=some nn:=⟨_,List.getElem?_eq_getElem hvt⟩
  have hnd:T.vars.getD v 0=nn:=by simp [List.getD,hvn]
  have hw6:=wd_le nn
  obtain ⟨W,hW⟩:∃ W,W=wd nn:=⟨_,rfl⟩
  rw [← hW] at hw6
  have hxr:=hst.rng v hvt
  have hn64:=(hG.g.vars (T.vars.getD v 0) (by simp [List.getD,List.getElem?_eq_getElem hvt])).2
  have h4s:=h4.by Imp.dr
  have hs4:=SpcA.frame h4s hr
  have os4:=SpcA.obj h4s
  unfold spO at os4
  have hwv4:=SpcA.wv h4s
  have hwc:=nE_cell hwv4 (widthL_at hvn)
  rw [← hW] at hwc
  have hvi:(v:Int) < st.length:=by omega
  have hvw:(v:Int) < (widthL T.vars).length:=by simp [widthL]; omega
  simp (disch:=omega) [e0,e38,hcv,hlv,hs4.idx,nE_cell hs4 hx,cell_blk os4,hwv4.idx,hwc]
  refine range_loop (n:=W) (by omega) (fun k ρ w'=>ρ 9=.int .i64 (v:Nat)∧ρ 10=.int .i64 (x:Nat)∧ρ 39=.int .i64 (st.length:Nat)∧ρ 40=.int .i64 (v:Nat)∧HsI s m lim T q ns ks ss B w F a st sv bw (bP T.vars v+k) ρ w') (by simp) (by simp)
   ⟨by simp,by simp,by simp [hlv],by simp [hcv],by simp [e0],by simp [e1],by simp [e8],by simp [e38],h4⟩ (by decide) (fun _ _ _ _ h=>by unfold HsI at h ⊢; simpa using h) (fun _ _ _ _ h=>by unfold HsI at h ⊢; simpa using h) ?_ ?_
  ·rintro k ρ w5 hk hck hlk ⟨g9,g10,g39,g40,g0,g1,g8,g38,h5⟩
   have h5s:=h5.by Imp.dr
   have os5:=SpcA.obj h5s
   unfold spO at os5
   have hwv5:=SpcA.wv h5s
   have hfv5:=SpcA.fv h5s
   have hwc5:=nE_cell hwv5 (widthL_at hvn)
   rw [← hW] at hwc5
   have hfc5:=nE_cell hfv5 (firstL_at hvt)
   have hvf:(v:Int) < (firstL T.vars).length:=by simp [firstL]; omega
   have hbp:=bP_in hvn (show k < wd nn by omega)
   obtain ⟨p2,hp2⟩:∃ p,p=bP T.vars v+k:=⟨_,rfl⟩
   have ei1:(bP T.vars v:Int)+(k:Int)=(p2:Int):=by omega
   obtain ⟨p3,hp3⟩:∃ p,p=2 * p2:=⟨_,rfl⟩
   have ei2:2 * (p2:Int)=(p3:Int):=by omega
   obtain ⟨d,hd⟩:∃ d,d=W - 1 - k:=⟨_,rfl⟩
   have ed1:(W:Int) - 1=((W - 1:Nat):Int):=by omega
   have ed:((W - 1:Nat):Int) - (k:Int)=(d:Int):=by omega
   have hsa:=shr_and (x:=x) (d:=d) (by omega) (by omega)
   have hl5:(hbL T.vars st p2).length=n:=by rw [hbL_len,hn2]
   have hmk:mk2 T.vars st [] p3=x.testBit d:=by
    have h:=mk2_at (x:=st) (y:=[]) (nx:=0) hvn (show k < wd nn by omega) (by omega)
    rw [if_pos rfl,hxd,Nat.add_zero] at h
    rw [hp3,hp2,hd,hW]
    exact h
   rw [← hp2] at h5 hbp
   have hp3i:(p3:Int) < n:=by omega
   have h5d:=h5.drew (Lcl.own.star hLS)
   have ep:bP T.vars v+(k+1)=p2+1:=by rw [hp2]; rfl
   cases hbit:x.testBit d with
   | true =>
    rw [hbit,if_pos rfl] at hsa
    have e6:(hbL T.vars st p2).set p3 true=hbL T.vars st (p2+1):=by rw [← hbit,← hmk,hp3]; exact hbL_set hbp
    simp (disch:=omega) [g0,g8,g9,g10,hck,hlk,cell_blk os5,hwv5.idx,hwc5,hfv5.idx,hfc5,ei1,ei2,ed1,ed,wrap_i64,hsa,h5.own.idx,hl5]
    refine h5d.store1 (x:=true) hLS bv_len bv_one (by rw [hl5]; omega) rfl fun w6 h6=>?_
    rw [e6,← ep] at h6
    simp only [↓wpT_nil,put_none,merge_nil,rangeQ_nrm]
    simp [g9,g10,g39,g40,hck,hlk]
    exact ⟨by simpa using g0,by simpa using g1,by simpa using g8,by simpa using g38,h6⟩
   | false =>
    rw [hbit,if_neg (by simp)] at hsa
    have e6:(hbL T.vars st p2).set p3 false=hbL T.vars st (p2+1):=by rw [← hbit,← hmk,hp3]; exact hbL_set hbp
    simp (disch:=omega) [g0,g8,g9,g10,hck,hlk,cell_blk os5,hwv5.idx,hwc5,hfv5.idx,hfc5,ei1,ei2,ed1,ed,wrap_i64,hsa,h5.own.idx,hl5]
    refine h5d.store1 (x:=false) hLS bv_len bv_one (by rw [hl5]; omega) rfl fun w6 h6=>?_
    rw [e6,← ep] at h6
    simp only [↓wpT_nil,put_none,merge_nil,rangeQ_nrm]
    simp [g9,g10,g39,g40,hck,hlk]
    exact ⟨by simpa using g0,by simpa using g1,by simpa using g8,by simpa using g38,h6⟩
  ·rintro ρ w5 ⟨g9,g10,g39,g40,g0,g1,g8,g38,h5⟩
   rw [hW,← bP_succ hvn] at h5
   simp [g39,g40]
   exact ⟨by simp [g0],by simp [g1],by simp [g8],by simp [g38],h5⟩
 rintro ρ w4 ⟨e0,e1,e8,e38,h4⟩
 rw [hsl,bP_all] at h4
 have h4s:=h4.by Imp.dr
 have os4:=SpcA.obj h4s
 unfold spO at os4
 simp [e0,e1,e8,cell_blk os4]
 refine cl_of (eval_spec a bw (hbL T.vars st (nBits T.vars)) (SpcA.mgr h4s) hG.ok.bnd hG.ok.wf ha.ok.1 h4.own.vw (by rw [hbL_len]; omega)) ?_
 rintro _ w5 ⟨rfl,k5⟩
 have h5:=h4s.kp0 hLS k5
 have hrs:rs T.vars (inB (hbL T.vars st (nBits T.vars))) 0=st:=(rs_congr fun p hp=>hbL_in hp).trans (rs_mk2 (y:=[]) (fun n hn=>(hG.g.vars n hn).2) hst)
 have hok:okB T.vars (inB (hbL T.vars st (nBits T.vars)))=true:=okB_iff.2 (by rw [hrs]; exact hst)
 simp [ha.ok.2,hok,hrs]
 exact h5
end
end Go.Proofs.YtkhfdmelcpfgoaaGreat
end
