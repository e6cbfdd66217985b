/-
  Parts of the proof of this claim's statement; no conditions beyond those each theorem names.
-/
import Derived.Test.YtolkjbmcindhjaaGreatPk15
import Derived.OpenShut
import Derived.Test.YtolkjbmcindhjaaGreatRows
set_option maxRecDepth 100000
set_option linter.unusedSimpArgs false
set_option linter.unusedVariables false
set_option linter.unusedSectionVars false
set_option maxHeartbeats 8000000
namespace Go.Proofs.YtolkjbmcindhjaaGreat
section
open Go Go.W Go.Tk Go.Rx Go.ChangeShapes Go.WideShapes Go.ChangeAt Go.RowKit
theorem own:ownKnob Tryz.prog.godebug=none:=by kernel_rfl
theorem zSz:laidOutB Tryz.prog=true:=by kernel_rfl
section
variable {H:Type} {enc:TypeId×Value->H}
theorem zV4{W:World}(n:Nat)(cs:List Value)(x:DataW H×List MemPlace)(hl:cs.length=1)(h:DataW.trod enc Tryz.prog W 0 (fun _=>true) true n 3 cs=some x):∃a:Int,cs=iE a/\zok a:=by
 obtain⟨a,ha,_,wa⟩:=DataW.trod_int Tryz.underlying3 h;have h1:IntKind.i64.min=-9223372036854775808:=rfl;have h2:IntKind.i64.max=9223372036854775807:=rfl;simp only[Lit.wf,Bool.and_eq_true,decide_eq_true_eq] at wa;exact⟨a,ha,by unfold zok;omega⟩
theorem zTO{W:World}(n:Nat)(cs:List Value)(x:DataW H×List MemPlace)(hl:cs.length=2)(h:DataW.trod enc Tryz.prog W 0 (fun _=>true) true n 100 cs=some x):∃a:Fa,cs=faE a/\True:=by
 obtain⟨xs,m,rfl,_,_,JA,hg⟩:=DataW.trod_struct Tryz.underlying100 h;have hc:Tryz.prog.cellsOf 3=1:=by kernel_rfl
 match cs,hl with
 |[u,v],_ =>have JB:xs.length=2:=JA;have h0:=hg 0 _ rfl;have h1:=hg 1 _ rfl;rw[List.getElem?_eq_getElem (by omega)] at h0 h1;obtain⟨a,ha,_,wa⟩:=DataW.trod_int Tryz.underlying3 h0;obtain⟨b,hb,_,wb⟩:=DataW.trod_int Tryz.underlying3 h1;replace ha:List.take (Tryz.prog.cellsOf 3) [u,v]=[.int .i64 a]:=ha;replace hb:List.take (Tryz.prog.cellsOf 3) [v]=[.int .i64 b]:=hb;rw[hc] at ha hb;simp at ha hb;subst ha hb;exact⟨(a,b),rfl,trivial⟩
theorem zES{W:World}{n:Nat}{c:Value}{x:DataW H×List MemPlace}(h:DataW.trod enc Tryz.prog W 0 (fun _=>true) true n 23 [c]=some x):∃l:List Fa,Vw W c faE l/\l.length<=maxLen:=by
 obtain⟨l,h1,_,h2⟩:=zQJ (encα:=faE) (ok:=fun _=>True) (sz:=2) Tryz.underlying23 (by kernel_rfl) (by omega) zDo zTO h;exact⟨l,h1,h2⟩
theorem zI9{W:World}{n:Nat}{c:Value}{x:DataW H×List MemPlace}(h:DataW.trod enc Tryz.prog W 0 (fun _=>true) true n 22 [c]=some x):∃l:List Int,Vw W c iE l/\(∀z∈l,zok z)/\l.length<=maxLen :=
 zQJ (encα:=iE) (ok:=zok) (sz:=1) Tryz.underlying22 (by kernel_rfl) (by omega) zRP zV4 h
theorem zV5{W:World}(n:Nat)(cs:List Value)(x:DataW H×List MemPlace)(hl:cs.length=3)(h:DataW.trod enc Tryz.prog W 0 (fun _=>true) true n 87 cs=some x):∃e:Ef,cs=efE e/\(Vw W e.wv.1 faE e.cnd/\e.cnd.length<=maxLen):=by
 obtain⟨xs,m,rfl,_,_,JB,hg⟩:=DataW.trod_struct Tryz.underlying87 h;have hc:Tryz.prog.cellsOf 3=1:=by kernel_rfl
 have hf:Tryz.prog.cellsOf 23=1:=by kernel_rfl
 match cs,hl with
 |[u,v,w],_ =>have JC:xs.length=3:=JB;have h0:=hg 0 _ rfl;have h1:=hg 1 _ rfl;have h2:=hg 2 _ rfl;rw[List.getElem?_eq_getElem (by omega)] at h0 h1 h2;replace h0:DataW.trod enc Tryz.prog W 0 (fun _=>true) true m 23 (List.take (Tryz.prog.cellsOf 23) [u,v,w])=_:=h0;rw[hf] at h0;simp only[List.take_succ_cons,List.take_zero] at h0;obtain⟨l,hv,JA⟩:=zES h0;obtain⟨a,ha,_,wa⟩:=DataW.trod_int Tryz.underlying3 h1;obtain⟨b,hb,_,wb⟩:=DataW.trod_int Tryz.underlying3 h2;replace ha:List.take (Tryz.prog.cellsOf 3) [v,w]=[.int .i64 a]:=ha;replace hb:List.take (Tryz.prog.cellsOf 3) [w]=[.int .i64 b]:=hb;rw[hc] at ha hb;simp at ha hb;subst ha hb;exact⟨⟨⟨u,hv.o1⟩,l,a,b⟩,rfl,hv,JA⟩
theorem el_op{W:World}(n:Nat)(cs:List Value)(x:DataW H×List MemPlace)(hl:cs.length=4)(h:DataW.trod enc Tryz.prog W 0 (fun _=>true) true n 41 cs=some x):∃o:Oq,cs=oqE o/\(OqR W o/\o.name.size<=maxLen/\o.pre.length<=maxLen/\o.effs.length<=maxLen/\∀e∈o.effs,e.cnd.length<=maxLen):=by
 obtain⟨xs,m,rfl,_,_,JD,hg⟩:=DataW.trod_struct Tryz.underlying41 h;have hs:Tryz.prog.cellsOf 9=1:=by kernel_rfl
 have hc:Tryz.prog.cellsOf 3=1:=by kernel_rfl
 have hf:Tryz.prog.cellsOf 23=1:=by kernel_rfl
 have he:Tryz.prog.cellsOf 39=1:=by kernel_rfl
 match cs,hl with
 |[u,v,w,z],_ =>have JG:xs.length=4:=JD;have h0:=hg 0 _ rfl;have h1:=hg 1 _ rfl;have h2:=hg 2 _ rfl;have h3:=hg 3 _ rfl;rw[List.getElem?_eq_getElem (by omega)] at h0 h1 h2 h3;obtain⟨nm,hn,_,wn⟩:=DataW.trod_string Tryz.underlying9 h0;obtain⟨a,ha,_,wa⟩:=DataW.trod_int Tryz.underlying3 h1;replace hn:List.take (Tryz.prog.cellsOf 9) [u,v,w,z]=[.string nm]:=hn;replace ha:List.take (Tryz.prog.cellsOf 3) [v,w,z]=[.int .i64 a]:=ha;replace h2:DataW.trod enc Tryz.prog W 0 (fun _=>true) true m 23 (List.take (Tryz.prog.cellsOf 23) [w,z])=_:=h2;replace h3:DataW.trod enc Tryz.prog W 0 (fun _=>true) true m 39 (List.take (Tryz.prog.cellsOf 39) [z])=_:=h3;rw[hs] at hn;rw[hc] at ha;rw[hf] at h2;rw[he] at h3;simp only[List.take_succ_cons,List.take_zero] at h2 h3;simp at hn ha;subst hn ha;obtain⟨pl,JA,JE⟩:=zES h2;obtain⟨el,JC,JB,JF⟩:=zQJ (encα:=efE) (ok:=fun e:Ef=>Vw W e.wv.1 faE e.cnd/\e.cnd.length<=maxLen) (sz:=3) Tryz.underlying39 (by kernel_rfl) (by omega) zGu zV5 h3;exact⟨⟨nm,a,⟨w,JA.o1⟩,pl,⟨z,JC.o1⟩,el⟩,rfl,⟨JA,JC,fun e h=>(JB e h).1⟩,wn,JE,JF,fun e h=>(JB e h).2⟩
theorem zMv{W:World}{b:Nat}{v:Value}{d:DataW H}{ps:List MemPlace}(hv:Value.okWide Tryz.prog W .any b 26 v)(h:DataW.Trod enc Tryz.prog W 0 (fun _=>true) true 26 v d ps):∃t:Tk,v=tkV t/\TkR W t/\TkL t:=by
 simp only[Value.okWide,Tryz.underlying26] at hv;obtain⟨cs,rfl,JA,_⟩:=hv;have h4:Tryz.prog.cellsOf 26=4:=by kernel_rfl
 rw[h4] at JA;obtain⟨n,h⟩:=h;obtain⟨xs,m,rfl,_,_,JC,hg⟩:=DataW.trod_struct Tryz.underlying26 h;have hc:Tryz.prog.cellsOf 22=1:=by kernel_rfl
 have hf:Tryz.prog.cellsOf 23=1:=by kernel_rfl
 have ho:Tryz.prog.cellsOf 24=1:=by kernel_rfl
 have hl:cs.toList.length=4:=by simpa using JA
 have e:(Value.agg cs).cells.toList=cs.toList:=rfl;rw[e] at hg
 match JB:cs.toList,hl with
 |[u0,u1,u2,u3],_ =>
  rw[JB] at hg;have JD:xs.length=4:=JC;have h0:=hg 0 _ rfl;have h1:=hg 1 _ rfl;have h2:=hg 2 _ rfl;have h3:=hg 3 _ rfl;rw[List.getElem?_eq_getElem (by omega)] at h0 h1 h2 h3;replace h0:DataW.trod enc Tryz.prog W 0 (fun _=>true) true m 22 (List.take (Tryz.prog.cellsOf 22) [u0,u1,u2,u3])=_:=h0;replace h1:DataW.trod enc Tryz.prog W 0 (fun _=>true) true m 22 (List.take (Tryz.prog.cellsOf 22) [u1,u2,u3])=_:=h1;replace h2:DataW.trod enc Tryz.prog W 0 (fun _=>true) true m 23 (List.take (Tryz.prog.cellsOf 23) [u2,u3])=_:=h2;replace h3:DataW.trod enc Tryz.prog W 0 (fun _=>true) true m 24 (List.take (Tryz.prog.cellsOf 24) [u3])=_:=h3;rw[hc] at h0 h1;rw[hf] at h2;rw[ho] at h3;simp only[List.take_succ_cons,List.take_zero] at h0 h1 h2 h3;obtain⟨vl,v1,_,v2⟩:=zI9 h0;obtain⟨nl,n1,_,n2⟩:=zI9 h1;obtain⟨gl,g1,g2⟩:=zES h2;obtain⟨ol,o1,o2,o3⟩:=zQJ (encα:=oqE) (ok:=fun o:Oq=>OqR W o/\o.name.size<=maxLen/\o.pre.length<=maxLen/\o.effs.length<=maxLen/\∀e∈o.effs,e.cnd.length<=maxLen) (sz:=4) Tryz.underlying24 (by kernel_rfl) (by omega) zCE el_op h3;have em:maxLen=9223372036854775807:=rfl;refine⟨⟨⟨u0,v1.o1⟩,⟨u1,n1.o1⟩,⟨u2,g1.o1⟩,⟨u3,o1.o1⟩,vl,nl,gl,ol⟩,?_,⟨v1,n1,g1,o1,fun o h=>(o2 o h).1⟩,⟨n2,g2,o3,v2,fun o h=>(o2 o h).2⟩⟩;have:cs=#[u0,u1,u2,u3]:=by apply Array.toList_inj.1;rw[JB]
  rw[this];rfl
theorem zMw{W:World}{b:Nat}{v:Value}{d:DataW H}{ps:List MemPlace}(hv:Value.okWide Tryz.prog W .any b 22 v)(h:DataW.Trod enc Tryz.prog W 0 (fun _=>true) true 22 v d ps):∃l:List Int,Vw W v iE l/\(∀z∈l,zok z)/\l.length<=9223372036854775807:=by
 obtain⟨a0,n0,c0,rfl⟩:=okWide_slice Tryz.underlying22 hv;obtain⟨n,h⟩:=h;exact zI9 (n:=n) (c:=.slice a0 n0 c0) h
end
end
end Go.Proofs.YtolkjbmcindhjaaGreat
