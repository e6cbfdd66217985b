/-
  A part of the proof of this claim's statement (RxZA, SyFI): plain theorems; no conditions beyond those each names.
-/
import Derived.Test.YtcoeknnghfajnaaGreatPk31
import Derived.OpenShut
import Derived.Test.YtcoeknnghfajnaaGreatRows
set_option maxRecDepth 100000
set_option linter.unusedSimpArgs false
set_option linter.unusedVariables false
set_option linter.unusedSectionVars false
section
namespace Go.Proofs.YtcoeknnghfajnaaGreat
open Go Go.W Go.Tk Go.Rx Go.ChangeShapes Go.WideShapes Go.ChangeAt Go.RowKit
theorem own:ownKnob Tryz.prog.godebug=none:=by kernel_rfl
theorem laidOut:laidOutB Tryz.prog=true:=by kernel_rfl
section
variable {H:Type} {enc:TypeId × Value→H}
theorem el_int {W:World} (n:Nat) (cs:List Value) (x:DataW H × List MemPlace) (hl:cs.length=1) (h:DataW.trod enc Tryz.prog W 0 (fun _=>true) true n 3 cs=some x):∃a:Int,cs=iE a∧zok a:=by
 obtain ⟨a,ha,_,wa⟩:=DataW.trod_int Tryz.underlying3 h
 have h1:IntKind.i64.min=-9223372036854775808:=rfl
 have h2:IntKind.i64.max=9223372036854775807:=rfl
 simp only [Lit.wf,Bool.and_eq_true,decide_eq_true_eq] at wa
 exact ⟨a,ha,by unfold zok; omega⟩
theorem el_fact {W:World} (n:Nat) (cs:List Value) (x:DataW H × List MemPlace) (hl:cs.length=2) (h:DataW.trod enc Tryz.prog W 0 (fun _=>true) true n 85 cs=some x):∃a:Fa,cs=faE a∧True:=by
 obtain ⟨xs,m,rfl,_,_,hxl,hg⟩:=DataW.trod_struct Tryz.underlying85 h
 have hc:Tryz.prog.cellsOf 3=1:=by kernel_rfl
 match cs,hl with
 | [u,v],_ =>
  have hx2:xs.length=2:=hxl
  have h0:=hg 0 _ rfl
  have h1:=hg 1 _ rfl
  rw [List.getElem?_eq_getElem (by omega)] at h0 h1
  obtain ⟨a,ha,_,wa⟩:=DataW.trod_int Tryz.underlying3 h0
  obtain ⟨b,hb,_,wb⟩:=DataW.trod_int Tryz.underlying3 h1
  replace ha:List.take (Tryz.prog.cellsOf 3) [u,v]=[.int .i64 a]:=ha
  replace hb:List.take (Tryz.prog.cellsOf 3) [v]=[.int .i64 b]:=hb
  rw [hc] at ha hb
  simp at ha hb
  subst ha hb
  exact ⟨(a,b),rfl,trivial⟩
theorem el_facts {W:World} {n:Nat} {c:Value} {x:DataW H × List MemPlace} (h:DataW.trod enc Tryz.prog W 0 (fun _=>true) true n 23 [c]=some x):∃l:List Fa,Vw W c faE l∧l.length≤maxLen:=by
 obtain ⟨l,h1,_,h2⟩:=el_vw (encα:=faE) (ok:=fun _=>True) (sz:=2) Tryz.underlying23 (by kernel_rfl) (by omega) faE_len el_fact h
 exact ⟨l,h1,h2⟩
theorem el_ints {W:World} {n:Nat} {c:Value} {x:DataW H × List MemPlace} (h:DataW.trod enc Tryz.prog W 0 (fun _=>true) true n 22 [c]=some x):∃l:List Int,Vw W c iE l∧(∀z ∈ l,zok z)∧l.length≤maxLen :=
 el_vw (encα:=iE) (ok:=zok) (sz:=1) Tryz.underlying22 (by kernel_rfl) (by omega) iE_len el_int h
theorem el_eff {W:World} (n:Nat) (cs:List Value) (x:DataW H × List MemPlace) (hl:cs.length=3) (h:DataW.trod enc Tryz.prog W 0 (fun _=>true) true n 111 cs=some x):∃e:Ef,cs=efE e∧(Vw W e.wv.1 faE e.cnd∧e.cnd.length≤maxLen):=by
 obtain ⟨xs,m,rfl,_,_,hxl,hg⟩:=DataW.trod_struct Tryz.underlying111 h
 have hc:Tryz.prog.cellsOf 3=1:=by kernel_rfl
 have hf:Tryz.prog.cellsOf 23=1:=by kernel_rfl
 match cs,hl with
 | [u,v,w],_ =>
  have hx2:xs.length=3:=hxl
  have h0:=hg 0 _ rfl
  have h1:=hg 1 _ rfl
  have h2:=hg 2 _ rfl
  rw [List.getElem?_eq_getElem (by omega)] at h0 h1 h2
  replace h0:DataW.trod enc Tryz.prog W 0 (fun _=>true) true m 23 (List.take (Tryz.prog.cellsOf 23) [u,v,w])=_:=h0
  rw [hf] at h0
  simp only [List.take_succ_cons,List.take_zero] at h0
  obtain ⟨l,hv,hlen⟩:=el_facts h0
  obtain ⟨a,ha,_,wa⟩:=DataW.trod_int Tryz.underlying3 h1
  obtain ⟨b,hb,_,wb⟩:=DataW.trod_int Tryz.underlying3 h2
  replace ha:List.take (Tryz.prog.cellsOf 3) [v,w]=[.int .i64 a]:=ha
  replace hb:List.take (Tryz.prog.cellsOf 3) [w]=[.int .i64 b]:=hb
  rw [hc] at ha hb
  simp at ha hb
  subst ha hb
  exact ⟨⟨⟨u,hv.o1⟩,l,a,b⟩,rfl,hv,hlen⟩
theorem el_op {W:World} (n:Nat) (cs:List Value) (x:DataW H × List MemPlace) (hl:cs.length=4) (h:DataW.trod enc Tryz.prog W 0 (fun _=>true) true n 66 cs=some x):∃o:Oq,cs=oqE o∧(OqR W o∧o.name.size≤maxLen∧o.pre.length≤maxLen∧o.effs.length≤maxLen∧∀e ∈ o.effs,e.cnd.length≤maxLen):=by
 obtain ⟨xs,m,rfl,_,_,hxl,hg⟩:=DataW.trod_struct Tryz.underlying66 h
 have hs:Tryz.prog.cellsOf 9=1:=by kernel_rfl
 have hc:Tryz.prog.cellsOf 3=1:=by kernel_rfl
 have hf:Tryz.prog.cellsOf 23=1:=by kernel_rfl
 have he:Tryz.prog.cellsOf 64=1:=by kernel_rfl
 match cs,hl with
 | [u,v,w,z],_ =>
  have hx2:xs.length=4:=hxl
  have h0:=hg 0 _ rfl
  have h1:=hg 1 _ rfl
  have h2:=hg 2 _ rfl
  have h3:=hg 3 _ rfl
  rw [List.getElem?_eq_getElem (by omega)] at h0 h1 h2 h3
  obtain ⟨nm,hn,_,wn⟩:=DataW.trod_string Tryz.underlying9 h0
  obtain ⟨a,ha,_,wa⟩:=DataW.trod_int Tryz.underlying3 h1
  replace hn:List.take (Tryz.prog.cellsOf 9) [u,v,w,z]=[.string nm]:=hn
  replace ha:List.take (Tryz.prog.cellsOf 3) [v,w,z]=[.int .i64 a]:=ha
  replace h2:DataW.trod enc Tryz.prog W 0 (fun _=>true) true m 23 (List.take (Tryz.prog.cellsOf 23) [w,z])=_:=h2
  replace h3:DataW.trod enc Tryz.prog W 0 (fun _=>true) true m 64 (List.take (Tryz.prog.cellsOf 64) [z])=_:=h3
  rw [hs] at hn
  rw [hc] at ha
  rw [hf] at h2
  rw [he] at h3
  simp only [List.take_succ_cons,List.take_zero] at h2 h3
  simp at hn ha
  subst hn ha
  obtain ⟨pl,hp1,hp2⟩:=el_facts h2
  obtain ⟨el,he1,he2,he3⟩:=el_vw (encα:=efE) (ok:=fun e:Ef=>Vw W e.wv.1 faE e.cnd∧e.cnd.length≤maxLen) (sz:=3) Tryz.underlying64 (by kernel_rfl) (by omega) efE_len el_eff h3
  exact ⟨⟨nm,a,⟨w,hp1.o1⟩,pl,⟨z,he1.o1⟩,el⟩,rfl,⟨hp1,he1,fun e h=>(he2 e h).1⟩,wn,hp2,he3,fun e h=>(he2 e h).2⟩
theorem open_task {W:World} {b:Nat} {v:Value} {d:DataW H} {ps:List MemPlace} (hv:Value.okWide Tryz.prog W .any b 26 v) (h:DataW.Trod enc Tryz.prog W 0 (fun _=>true) true 26 v d ps):∃t:Tk,v=tkV t∧TkR W t∧TkL t:=by
 simp only [Value.okWide,Tryz.underlying26] at hv
 obtain ⟨cs,rfl,hcs,_⟩:=hv
 have h4:Tryz.prog.cellsOf 26=4:=by kernel_rfl
 rw [h4] at hcs
 obtain ⟨n,h⟩:=h
 obtain ⟨xs,m,rfl,_,_,hxl,hg⟩:=DataW.trod_struct Tryz.underlying26 h
 have hc:Tryz.prog.cellsOf 22=1:=by kernel_rfl
 have hf:Tryz.prog.cellsOf 23=1:=by kernel_rfl
 have ho:Tryz.prog.cellsOf 24=1:=by kernel_rfl
 have hl:cs.toList.length=4:=by simpa using hcs
 have e:(Value.agg cs).cells.toList=cs.toList:=rfl
 rw [e] at hg
 match hcl:cs.toList,hl with
 | [u0,u1,u2,u3],_ =>
  rw [hcl] at hg
  have hx2:xs.length=4:=hxl
  have h0:=hg 0 _ rfl
  have h1:=hg 1 _ rfl
  have h2:=hg 2 _ rfl
  have h3:=hg 3 _ rfl
  rw [List.getElem?_eq_getElem (by omega)] at h0 h1 h2 h3
  replace h0:DataW.trod enc Tryz.prog W 0 (fun _=>true) true m 22 (List.take (Tryz.prog.cellsOf 22) [u0,u1,u2,u3])=_:=h0
  replace h1:DataW.trod enc Tryz.prog W 0 (fun _=>true) true m 22 (List.take (Tryz.prog.cellsOf 22) [u1,u2,u3])=_:=h1
  replace h2:DataW.trod enc Tryz.prog W 0 (fun _=>true) true m 23 (List.take (Tryz.prog.cellsOf 23) [u2,u3])=_:=h2
  replace h3:DataW.trod enc Tryz.prog W 0 (fun _=>true) true m 24 (List.take (Tryz.prog.cellsOf 24) [u3])=_:=h3
  rw [hc] at h0 h1
  rw [hf] at h2
  rw [ho] at h3
  simp only [List.take_succ_cons,List.take_zero] at h0 h1 h2 h3
  obtain ⟨vl,v1,_,v2⟩:=el_ints h0
  obtain ⟨nl,n1,_,n2⟩:=el_ints h1
  obtain ⟨gl,g1,g2⟩:=el_facts h2
  obtain ⟨ol,o1,o2,o3⟩:=el_vw (encα:=oqE) (ok:=fun o:Oq=>OqR W o∧o.name.size≤maxLen∧o.pre.length≤maxLen∧o.effs.length≤maxLen∧∀e ∈ o.effs,e.cnd.length≤maxLen) (sz:=4) Tryz.underlying24 (by kernel_rfl) (by omega) oqE_len el_op h3
  have em:maxLen=9223372036854775807:=rfl
  refine ⟨⟨⟨u0,v1.o1⟩,⟨u1,n1.o1⟩,⟨u2,g1.o1⟩,⟨u3,o1.o1⟩,vl,nl,gl,ol⟩,?_,⟨v1,n1,g1,o1,fun o h=>(o2 o h).1⟩,⟨n2,g2,o3,v2,fun o h=>(o2 o h).2⟩⟩
  have:cs=#[u0,u1,u2,u3]:=by
   apply Array.toList_inj.1; rw [hcl]
  rw [this]; rfl
end
end Go.Proofs.YtcoeknnghfajnaaGreat
end
section
namespace Go.Proofs.YtcoeknnghfajnaaGreat
open Go Go.W Go.Tk Go.Rx Go.Bd Go.Sy Go.ChangeShapes Go.WideShapes Go.ChangeAt Go.RowKit
section
variable {H:Type} {enc:TypeId × Value→H}
theorem u8_of {u:Value} {k:Int} (h:u=.int .u8 k) (w:Lit.wf (.int .u8 k)=true):∃n:Nat,u=.int .u8 (n:Nat)∧n≤255:=by
 have q1:IntKind.u8.min=0:=rfl
 have q2:IntKind.u8.max=255:=rfl
 simp only [Lit.wf,Bool.and_eq_true,decide_eq_true_eq] at w
 exact ⟨k.toNat,by rw [h,show ((k.toNat:Nat):Int)=k by omega],by omega⟩
theorem el_act {W:World} (n:Nat) (cs:List Value) (x:DataW H × List MemPlace) (hl:cs.length=4) (h:DataW.trod enc Tryz.prog W 0 (fun _=>true) true n 50 cs=some x):∃c:Ac,cs=acE c∧(c.k≤255∧c.a≤255∧c.b≤255∧Vw W c.pv.1 faE c.p∧c.p.length≤maxLen):=by
 obtain ⟨xs,m,rfl,_,_,hxl,hg⟩:=DataW.trod_struct Tryz.underlying50 h
 have hc:Tryz.prog.cellsOf 5=1:=by kernel_rfl
 have hf:Tryz.prog.cellsOf 23=1:=by kernel_rfl
 match cs,hl with
 | [u,v,w,z],_ =>
  have hx2:xs.length=4:=hxl
  have h0:=hg 0 _ rfl
  have h1:=hg 1 _ rfl
  have h2:=hg 2 _ rfl
  have h3:=hg 3 _ rfl
  rw [List.getElem?_eq_getElem (by omega)] at h0 h1 h2 h3
  obtain ⟨a,ha,_,wa⟩:=DataW.trod_int Tryz.underlying5 h0
  obtain ⟨b,hb,_,wb⟩:=DataW.trod_int Tryz.underlying5 h1
  obtain ⟨d,hd,_,wd⟩:=DataW.trod_int Tryz.underlying5 h2
  replace ha:List.take (Tryz.prog.cellsOf 5) [u,v,w,z]=[.int .u8 a]:=ha
  replace hb:List.take (Tryz.prog.cellsOf 5) [v,w,z]=[.int .u8 b]:=hb
  replace hd:List.take (Tryz.prog.cellsOf 5) [w,z]=[.int .u8 d]:=hd
  replace h3:DataW.trod enc Tryz.prog W 0 (fun _=>true) true m 23 (List.take (Tryz.prog.cellsOf 23) [z])=_:=h3
  rw [hc] at ha hb hd
  rw [hf] at h3
  simp only [List.take_succ_cons,List.take_zero] at h3
  simp at ha hb hd
  obtain ⟨a',ha',wa'⟩:=u8_of ha wa
  obtain ⟨b',hb',wb'⟩:=u8_of hb wb
  obtain ⟨d',hd',wd'⟩:=u8_of hd wd
  obtain ⟨pl,hp1,hp2⟩:=el_facts h3
  exact ⟨⟨a',b',d',⟨z,hp1.o1⟩,pl⟩,by rw [ha',hb',hd']; rfl,wa',wb',wd',hp1,hp2⟩
theorem open_acts {W:World} {b:Nat} {v:Value} {d:DataW H} {ps:List MemPlace} (hv:Value.okWide Tryz.prog W .any b 46 v) (h:DataW.Trod enc Tryz.prog W 0 (fun _=>true) true 46 v d ps):∃cs:List Ac,AcsR W v cs∧cs.length≤maxLen:=by
 obtain ⟨a0,n0,c0,rfl⟩:=okWide_slice Tryz.underlying46 hv
 obtain ⟨n,h⟩:=h
 obtain ⟨cs,h1,h2,h3⟩:=el_vw (encα:=acE) (ok:=fun c:Ac=>c.k≤255∧c.a≤255∧c.b≤255∧Vw W c.pv.1 faE c.p∧c.p.length≤maxLen) (sz:=4) Tryz.underlying46 (by kernel_rfl) (by omega) acE_len el_act (fu:=n) (v:=.slice a0 n0 c0) h
 have em:maxLen=9223372036854775807:=rfl
 exact ⟨cs,⟨h1,fun c hc=>(h2 c hc).2.2.2.1,fun c hc=>(h2 c hc).1,fun c hc=>(h2 c hc).2.1,fun c hc=>(h2 c hc).2.2.1,fun c hc=>(h2 c hc).2.2.2.2⟩,h3⟩
end
end Go.Proofs.YtcoeknnghfajnaaGreat
end
