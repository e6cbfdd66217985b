/-
  Parts of the proof of this claim's statement; no conditions beyond those each theorem names.
-/
import Derived.Test.YtolkjbmcindhjaaGreatPk08
import Derived.Test.YtolkjbmcindhjaaGreatPk01
import Derived.Test.YtolkjbmcindhjaaGreatPk07
import Derived.Test.YtolkjbmcindhjaaGreatPk06
import Derived.Test.YtolkjbmcindhjaaGreatPk05
set_option maxRecDepth 100000
set_option linter.unusedSimpArgs false
set_option linter.unusedVariables false
set_option linter.unusedSectionVars false
set_option maxHeartbeats 8000000
namespace Go.Proofs.YtolkjbmcindhjaaGreat
section
open Go Go.W Go.Tk Go.Rx Go.Bd Go.Sy Go.Maps
theorem Alk.op{T T':Nt}(h:Alk T T'){i:Nat}{o:No}(ho:T'.ops[i]? = some o):∃o2,T.ops[i]? = some o2/\skO o=skO o2:=by
 have:=congrArg (fun l=>l[i]?) h.ops;simp only[List.getElem?_map,ho,Option.map_some] at this;cases h2:T.ops[i]? with
 |none=>rw[h2] at this;cases this
 |some o2=>rw[h2] at this;simp only[Option.map_some,Option.some.injEq] at this;exact⟨o2,rfl,this⟩
theorem Alk.good{T T':Nt}(h:Alk T T')(hg:NtG T):NtG T':=by
 refine⟨by rw[h.vars];exact hg.vlen,?_,by rw[h.vars];exact hg.vars,by rw[h.init,h.vars];exact hg.ilen,by rw[h.init,h.vars];exact hg.init,by rw[h.goal,h.vars];exact hg.goal,fun o ho=>?_⟩
 ·have:=congrArg List.length h.ops;rw[List.length_map,List.length_map] at this;rw[this];exact hg.olen
 ·obtain⟨i,hi⟩:=List.mem_iff_getElem?.1 ho;obtain⟨o2,h2,hs⟩:=h.op hi;have g2:=hg.ops o2 (List.mem_of_getElem? h2);unfold skO at hs;simp only[Prod.mk.injEq] at hs;obtain⟨_,s2,s3,s4⟩:=hs;have hl:=congrArg List.length s4;rw[List.length_map,List.length_map] at hl;have he:∀e∈o.effs,∃e2∈o2.effs,skE e=skE e2:=fun e he=>by
   have:skE e∈o2.effs.map skE:=by rw[<-s4];exact List.mem_map.2 ⟨e,he,rfl⟩
   obtain⟨e2,h3,h4⟩:=List.mem_map.1 this;exact⟨e2,h3,h4.symm⟩
  rw[h.vars];refine⟨by rw[s2];exact g2.cost,by rw[hl];exact g2.elen,by rw[s3];exact g2.pre,fun e hm=>?_,fun e hm=>?_⟩
  ·obtain⟨e2,h3,h4⟩:=he e hm;unfold skE at h4;simp only[Prod.mk.injEq] at h4;rw[h4.1];exact g2.cnd e2 h3
  ·obtain⟨e2,h3,h4⟩:=he e hm;unfold skE at h4;simp only[Prod.mk.injEq] at h4;rw[h4.2.1,h4.2.2];exact g2.eff e2 h3
theorem zVo{T ty:Nat}{m k x:Operand}{ρ:Env}{w:World}{K:Value->World->Prop}(h:@zRT Tryz.prog (Instr.mapUpdate T (ρ.ev m) (ρ.ev k) (ρ.ev x)) w ⟨fun w'=>K undef w'⟩):opS Tryz.prog 2 (.insert T m k x) ty ρ w K:=by
 unfold zRT zUM at h;obtain⟨w',hr,hk⟩:=h;simp only[opS,zAb,zCd,LO.exec,execOp,Sem.run_bind,hr,Result.andThen_ok];exact hk
theorem zSC{k:Nat}(h:k<62):IntKind.i64.wrap (2^min k IntKind.i64.bits)=((2^k:Nat):Int):=by
 have hb:IntKind.i64.bits=64:=rfl;rw[hb,Nat.min_eq_left (by omega)];have e:((2:Int)^k)=((2^k:Nat):Int):=by simp
 have h2:2^k<=2305843009213693952:=Nat.le_trans (Nat.pow_le_pow_right (by omega) (show k<=61 by omega)) (by decide);obtain⟨y,hy⟩:∃y,y=2^k:=⟨_,rfl⟩;rw[e];rw[<-hy] at h2 ⊢;exact zH (by omega) (by omega)
def spB(t0 t1 t2 t3 mv fv wv:Value)(bits all km sm:Nat):Obj:=.cells #[t0,t1,t2,t3,mv,fv,wv,.int .i64 (bits:Nat),.int .i64 (all:Nat),.map (some km),.map (some sm)] 162 (0,0)
def okP(vars:List Nat)(k:Nat)(a:Nat->Bool):Bool:=(List.range k).all fun v=>decide (rv vars a 0 v<vars.getD v 0)
theorem zJ5(vars:List Nat)(k:Nat)(a:Nat->Bool):okP vars (k+1) a=(okP vars k a&&decide (rv vars a 0 k<vars.getD k 0)):=by
 unfold okP;rw[List.range_succ,List.all_append];simp
structure NewW(T:Nt)(W:((Nat->Bool)->Bool)->Prop):Prop where
 lit:LitW T.vars W
 vl:∀v x,v<T.vars.length->x<T.vars.getD v 0->VlW T.vars v x 0 W
 sm:∀v x,v<T.vars.length->x<T.vars.getD v 0->W fun a=>decide (rv T.vars a 0 v<x+1)
 ok:∀k,k<T.vars.length->W (okP T.vars (k+1))
def NewR(T:Nt)(L:Nat)(B:Asr)(w:World)(F:List Nat)(W:((Nat->Bool)->Bool)->Prop)(v:Value)(w':World):Prop :=
 (100<zD T.vars/\v=.tuple #[.pointer none,zu 5]/\At w F B w') \/
 (zD T.vars<=100/\∃e ns,Stp (2*zD T.vars) L W false [] e ns /\
  ((e=true/\v=.tuple #[.pointer none,eB true]/\At w F B w')\/(e=false/\∃s m T' q,Alk T T'/\v=.tuple #[.pointer (some ⟨s,0,none⟩),.nilIface]/\SpG L T' q ns (zB5 [(0,true)] q.all true) []/\At w F (zI s m L T' q ns (zB5 [(0,true)] q.all true) [] B) w')))
def qN(T':Nt)(fv wv:Value)(km sm f:Nat):SpC:=⟨T'.vv.1,T'.nv.1,T'.gv.1,T'.ov.1,fv,wv,f,km,sm⟩
def NwJ(bb tb sb m:Nat)(T T':Nt)(fv wv:Value)(km sm:Nat)(L:Nat)(B2:Asr)(w:World)(F:List Nat)(W:((Nat->Bool)->Bool)->Prop)(k:Nat)(ρ:Env)(w':World):Prop :=
 ρ 2=.pointer (some ⟨tb,0,none⟩)/\ρ 7=.pointer (some ⟨sb,0,none⟩)/\ρ 12=.pointer (some ⟨bb,0,none⟩)/\ρ 110=T.vv.1/\∃f e ns,Stp (2*zD T.vars) L W false [] e ns/\Mn ns e f (okP T.vars k)/\At w F (BlA bb sb m L T.vars (qN T' fv wv km sm f) e ns (zAO T' (qN T' fv wv km sm f) [(0,true)] [] B2)) w'
def NwK(bb tb sb m:Nat)(T T':Nt)(fv wv:Value)(km sm:Nat)(L:Nat)(B2:Asr)(w:World)(F:List Nat)(W:((Nat->Bool)->Bool)->Prop)(n k f:Nat)(x:Nat)(ρ:Env)(w':World):Prop :=
 ρ 2=.pointer (some ⟨tb,0,none⟩)/\ρ 7=.pointer (some ⟨sb,0,none⟩)/\ρ 12=.pointer (some ⟨bb,0,none⟩)/\ρ 110=T.vv.1/\ρ 13=.int .i64 (k:Nat)/\ρ 111=.int .i64 (n:Nat)/\ρ 112=.int .i64 (k:Nat)/\∃g e ns,ρ 15=.int .i64 (g:Nat)/\Stp (2*zD T.vars) L W false [] e ns/\Mn ns e f (okP T.vars k)/\Mn ns e g (fun a=>decide (rv T.vars a 0 k<x))/\At w F (BlA bb sb m L T.vars (qN T' fv wv km sm f) e ns (zAO T' (qN T' fv wv km sm f) [(0,true)] [] B2)) w'
def NwI(tb sb:Nat)(T T':Nt)(km sm:Nat)(L:Nat)(B:Asr)(w:World)(F:List Nat)(k:Nat)(ρ:Env)(w':World):Prop :=
 ρ 1=.int .i64 (L:Nat)/\ρ 2=.pointer (some ⟨tb,0,none⟩)/\ρ 7=.pointer (some ⟨sb,0,none⟩)/\ρ 37=T.vv.1/\∃fv wv,At w F (zC (zL sb (spB T'.vv.1 T'.nv.1 T'.gv.1 T'.ov.1 (.pointer none) fv wv (bP T.vars k) 0 km sm)) (zC (zM fv 3 1 nE ((List.range k).map (bP T.vars))) (zC (zM wv 3 1 nE ((T.vars.take k).map wd)) (zC (KmA km [(0,true)]) (zC (SmA sm []) (zC (zAT T') (zC (zL tb (ntO T)) B))))))) w'
section
variable {w w1:World} {F:List Nat} {B:Asr}
theorem zHT(T:Nt)(L:Nat)(hB:Lcl B)(h:At w F B w1)(hr:Rds B fun w'=>NtR w' T)(hg:NtG T)(Kl:zAp T.raw=true)(hl:TkL T.raw)(h1:1<=L)(h2:L<=1048576){W:((Nat->Bool)->Bool)->Prop}(hW:NewW T W) :
  Calls Tryz.prog 31 [ntV T,.int .i64 (L:Nat)].toArray w1 fun en w'=>∃v,en=.returned v/\NewR T L B w F W v w':=by
 refine enter Tryz.func31 mixed low31 (Nat.le_of_ble_eq_true rfl) ?_;simp only[L31];obtain⟨tb,Jm⟩:∃tb,tb=w1.heap.size:=⟨_,rfl⟩;have b1:At w F (zC (zL tb (ntO T)) B) (w1.alloc (ntO T)):=by rw[Jm];exact h.alloc _ hB
 obtain⟨w2,KN⟩:∃w2,w2=w1.alloc (ntO T):=⟨_,rfl⟩;rw[<-KN] at b1;have J5:w1.alloc (.cells #[T.vv.1,T.nv.1,T.gv.1,T.ov.1] 26 (0,0))=w2:=by rw[KN];rfl
 have JM:Lcl (zC (zL tb (ntO T)) B):=Lcl.obj.star hB;have Jy:Rds (zC (zL tb (ntO T)) B) fun w'=>NtR w' T:=Rds.star hr;have rt2:=zST (show w2.heap[tb]? = some (.cells #[T.vv.1,T.nv.1,T.gv.1,T.ov.1] 26 (0,0)) from b1.obj);have KY:NtR w2 T:=by obtain⟨_,hq,_⟩:=b1.ex;exact Jy _ _ hq
 have JS:zLw T.raw=none:=(zKc T.raw).2 Kl;simp[ntV,<-Jm,J5,rt2];refine zG (zEZ T.raw (NtR.raw.2 KY) hl) ?_;rintro _ w3 ⟨rfl,k3⟩;have b3:=b1.kp0 JM k3;have rt3:=zST (show w3.heap[tb]? = some (.cells #[T.vv.1,T.nv.1,T.gv.1,T.ov.1] 26 (0,0)) from b3.obj);have c1:¬(L:Int)<1:=by omega
 have c2:¬(1048576:Int)<(L:Int):=by omega
 simp[JS,zLg,c1,c2,<-Jm,rt3];refine zG (zJD T JM b3 Jy hg) ?_;rintro _ w4 ⟨T',rfl,hA,b4⟩;simp[ntV];have Jf:Lcl (zC (zAT T') (zC (zL tb (ntO T)) B)):=zAT.lcl.star JM;have b5:=b4.newmap (ek:=zAc) (ev:=zG4) (ok:=zY) Jf;refine zVo ?_;obtain⟨km,Kj⟩:∃km,km=w4.heap.size:=⟨_,rfl⟩;rw[<-Kj] at b5 ⊢;refine At.put (ek:=zAc) (ev:=zG4) (ok:=zY) (x:=0) (v:=true) Jf b5 zBm Tryz.underlying147 (by unfold zY;omega) (by simp[maxLen]) fun w6 b6=>?_;have b6':At w F (zC (KmA km [(0,true)]) (zC (zAT T') (zC (zL tb (ntO T)) B))) w6:=b6;have b7:=b6'.newmap (ek:=zAc) (ev:=zAc) (ok:=zY) (Lcl.map.star Jf);obtain⟨sm,J6⟩:∃sm,sm=w6.heap.size:=⟨_,rfl⟩;rw[<-J6] at b7;obtain⟨w7,J4⟩:∃w7,w7=w6.alloc (.map #[] 0):=⟨_,rfl⟩;rw[<-J4] at b7;obtain⟨sb,hsb⟩:∃sb,sb=w7.heap.size:=⟨_,rfl⟩;have J8:sm+1=sb:=by rw[hsb,J4,J6];simp
 have b8:=b7.alloc (spB T'.vv.1 T'.nv.1 T'.gv.1 T'.ov.1 (.pointer none) nlV nlV 0 0 km sm) (Lcl.map.star (Lcl.map.star Jf));rw[<-hsb] at b8;obtain⟨w8,KM⟩:∃w8,w8=w7.alloc (spB T'.vv.1 T'.nv.1 T'.gv.1 T'.ov.1 (.pointer none) nlV nlV 0 0 km sm):=⟨_,rfl⟩;rw[<-KM] at b8;have J3:w7.alloc (.cells #[T'.vv.1,T'.nv.1,T'.gv.1,T'.ov.1,.pointer none,.slice none 0 0,.slice none 0 0,.int .i64 0,.int .i64 0,.map (some km),.map (some sm)] 162 (0,0))=w8:=by rw[KM];rfl
 have rt8:=b8.drop.drop.drop.drop.obj;unfold ntO at rt8;have KX:NtR w8 T:=by obtain⟨_,hq,_⟩:=b8.drop.drop.drop.drop.drop.ex;exact hr _ _ hq
 have Ku:=hg.vlen;simp[<-J6,<-J4,<-hsb,J3,<-Jm,zA rt8,KX.vars.len];have KZ:Lcl (zC (SmA sm []) (zC (KmA km [(0,true)]) (zC (zAT T') (zC (zL tb (ntO T)) B)))):=Lcl.map.star (Lcl.map.star Jf);have b10:=(b8.nil (E:=3) (sz:=1) (enc:=nE) (Lcl.obj.star KZ));have b11:=((b10.nil (E:=3) (sz:=1) (enc:=nE) (Lcl.own.star (Lcl.obj.star KZ))).by Imp.fr3).by (Imp.un (Imp.un (Imp.un Imp.sw)));refine zF (n:=T.vars.length) (by omega) (NwI tb sb T T' km sm L B w F) (by simp) (by simp)
  ⟨by simp,by simp[Jm],by simp[J8],by simp,nlV,nlV,by simpa[bP,nlV] using b11⟩ (by decide) (fun _ _ _ _ h=>by unfold NwI at h ⊢;simpa using h) (fun _ _ _ _ h=>by unfold NwI at h ⊢;simpa using h) ?_ ?_
 ·rintro k ρ w9 hk JS Jr ⟨g1,g2,g7,Kb,fv,wv,h9⟩;obtain⟨nn,JO⟩:∃nn,T.vars[k]? = some nn:=⟨_,List.getElem?_eq_getElem hk⟩;have Jp:=hg.vars nn (List.mem_of_getElem? JO);have Kt:=zFi nn;have KT:NtR w9 T:=by obtain⟨_,hq,_⟩:=h9.drop.drop.drop.drop.drop.drop.drop.ex;exact hr _ _ hq
  have Kk:(k:Int)<T.vars.length:=by omega
  simp(disch:=omega)[Kb,JS,Jr,KT.vars.idx,zAM KT.vars JO];refine z8 (fun n ρ' w'=>w'=w9/\∃x,x+n=wd nn/\ρ' 10=.int .i64 (x:Nat)/\ρ' 9=.int .i64 (nn:Nat)/\ρ' 1=.int .i64 (L:Nat)/\ρ' 2=.pointer (some ⟨tb,0,none⟩)/\ρ' 7=.pointer (some ⟨sb,0,none⟩)/\ρ' 37=T.vv.1/\ρ' 38=.int .i64 (T.vars.length:Nat)/\ρ' 39=.int .i64 (k:Nat)) (wd nn) ⟨rfl,0,by simp,by simp,by simp,by simp[g1],by simp[g2],by simp[g7],by simp[Kb],by simp[Jr],by simp[JS]⟩ ?_;rintro n ρ' w' ⟨rfl,x,hx,JI,e9,e1,e2,e7,JL,Jc,Jb⟩;have J7:=zSC (k:=x) (by omega);have KF:=zRs (n:=nn) (w:=x) (by omega) (by omega);obtain⟨y,hy⟩:∃y,y=2^x:=⟨_,rfl⟩;rw[<-hy] at J7 KF;by_cases Kv:n=0
  ·have Jj:¬y<nn:=by rw[KF];omega
   have JV:=h9.drew (Lcl.obj.star (Lcl.own.star (Lcl.own.star (Lcl.map.star (Lcl.map.star Jf)))));have os9:=JV.obj;unfold spB at os9;simp[JI,e9,e7,J7,Jj,zA os9,zW];have e0:∀(w:World) (o:Obj),(w.alloc o).heap.size=w.heap.size+1:=fun w o=>by simp
   have Kh:x=wd nn:=by omega
   have Kw:bP T.vars k<=384:=by have h1:=zAl (vars:=T.vars) (show k<=T.vars.length by omega);have h2:=zJ7 T.vars;rw[zBn] at h1;omega
   have Ks:((T.vars.take k).map wd).length=k:=by rw[List.length_map,List.length_take];omega
   have fin:∀fv' wv' JF,At w F (zC (zL sb (.cells #[T'.vv.1,T'.nv.1,T'.gv.1,T'.ov.1,.pointer none,fv',wv',.int .i64 ((bP T.vars k:Nat)+(x:Nat):Int),.int .i64 (0:Nat),.map (some km),.map (some sm)] 162 (0,0))) (zC (zM fv' 3 1 nE ((List.range k).map (bP T.vars)++[bP T.vars k])) (zC (zM wv' 3 1 nE ((T.vars.map wd).take k++[x])) (zC (KmA km [(0,true)]) (zC (SmA sm []) (zC (zAT T') (zC (zL tb (ntO T)) B))))))) JF->At w F (zC (zL sb (spB T'.vv.1 T'.nv.1 T'.gv.1 T'.ov.1 (.pointer none) fv' wv' (bP T.vars (k+1)) 0 km sm)) (zC (zM fv' 3 1 nE ((List.range (k+1)).map (bP T.vars))) (zC (zM wv' 3 1 nE ((T.vars.take (k+1)).map wd)) (zC (KmA km [(0,true)]) (zC (SmA sm []) (zC (zAT T') (zC (zL tb (ntO T)) B))))))) JF:=fun fv' wv' JF hh=>by rw[List.range_succ,List.map_append,List.take_add_one,JO,List.map_append,zC4 JO,List.map_take];simp only[List.map_cons,List.map_nil,Option.toList_some,<-Kh];unfold spB;rw[Int.natCast_add];exact hh
   refine⟨?_,?_,?_,?_,?_,?_⟩
   ·have q1:=JV.lit (xs:=[bP T.vars k]) (enc:=nE) (E:=3) (sz:=1) (cs:=#[.int .i64 (bP T.vars k:Nat)]) (m:=1) (by repeat' (first|exact hB|exact Lcl.own|exact Lcl.obj|exact Lcl.map|exact zAT.lcl|apply Lcl.star)) (by simp[nE]) zi (by simp[maxLen]) rfl;refine At.appendV (by repeat' (first|exact hB|exact Lcl.own|exact Lcl.obj|exact Lcl.map|exact zAT.lcl|apply Lcl.star)) (q1.by Imp.fr3) q1.own.vw zi zA5 zCB (by simp;omega) (by simp;unfold maxLen;omega) fun fv' Jd JB=>?_;have JB:=JB.by (Imp.un Imp.dr);have os10:=JB.drop.obj;unfold spB at os10;simp[JI,e9,e7,zA os10,zW];have q2:=JB.lit (xs:=[x]) (enc:=nE) (E:=3) (sz:=1) (cs:=#[.int .i64 (x:Nat)]) (m:=1) (by repeat' (first|exact hB|exact Lcl.own|exact Lcl.obj|exact Lcl.map|exact zAT.lcl|apply Lcl.star)) (by simp[nE]) zi (by simp[maxLen]) rfl;refine At.appendV (by repeat' (first|exact hB|exact Lcl.own|exact Lcl.obj|exact Lcl.map|exact zAT.lcl|apply Lcl.star)) (q2.by Imp.fr4) q2.own.vw zi zA5 zCB (by simp;omega) (by simp;unfold maxLen;omega) fun wv' Ji JG=>?_;have JA:=(((JG.by (Imp.un Imp.dr)).by Imp.fr3)).by (Imp.un Imp.sw);have v1:=JA.drop.own.c1;have o1:=JA.drop.own.o1;have v2:=JA.drop.drop.own.c1;have o2:=JA.drop.drop.own.o1;unfold spB at JA;simp[e7,v1];refine JA.st (by repeat' (first|exact hB|exact Lcl.own|exact Lcl.obj|exact Lcl.map|exact zAT.lcl|apply Lcl.star)) (by simp) (by simp[o1]) fun JN JD=>?_;simp at JD;simp[e7,v2];refine JD.st (by repeat' (first|exact hB|exact Lcl.own|exact Lcl.obj|exact Lcl.map|exact zAT.lcl|apply Lcl.star)) (by simp) (by simp[o2]) fun Jh JC=>?_;simp at JC;have os14:=JC.obj;simp(disch:=omega)[e7,JI,zA os14,zH];refine JC.st (by repeat' (first|exact hB|exact Lcl.own|exact Lcl.obj|exact Lcl.map|exact zAT.lcl|apply Lcl.star)) (by simp) (by simp) fun JF JE=>?_;simp at JE;simp[e1,e2,e7,JL,Jc,Jb];refine⟨by simp[e1],by simp[e2],by simp[e7],by simp[JL],fv',wv',fin fv' wv' JF ?_⟩;exact JE
   ·have q1:=JV.lit (xs:=[bP T.vars k]) (enc:=nE) (E:=3) (sz:=1) (cs:=#[.int .i64 (bP T.vars k:Nat)]) (m:=1) (by repeat' (first|exact hB|exact Lcl.own|exact Lcl.obj|exact Lcl.map|exact zAT.lcl|apply Lcl.star)) (by simp[nE]) zi (by simp[maxLen]) rfl;have q2:=q1.lit (xs:=[x]) (enc:=nE) (E:=3) (sz:=1) (cs:=#[.int .i64 (x:Nat)]) (m:=1) (by repeat' (first|exact hB|exact Lcl.own|exact Lcl.obj|exact Lcl.map|exact zAT.lcl|apply Lcl.star)) (by simp[nE]) zi (by simp[maxLen]) rfl;simp only[e0] at q2;refine At.appendV (by repeat' (first|exact hB|exact Lcl.own|exact Lcl.obj|exact Lcl.map|exact zAT.lcl|apply Lcl.star)) (q2.by Imp.fr4) q2.drop.own.vw zi zA5 zCB (by simp;omega) (by simp;unfold maxLen;omega) fun fv' Jd JB=>?_;have os10:=JB.drop.drop.drop.obj;unfold spB at os10;simp[JI,e9,e7,zA os10,zW];refine At.appendV (by repeat' (first|exact hB|exact Lcl.own|exact Lcl.obj|exact Lcl.map|exact zAT.lcl|apply Lcl.star)) (JB.by Imp.fr5) JB.drop.own.vw zi zA5 zCB (by simp;omega) (by simp;unfold maxLen;omega) fun wv' Ji JG=>?_;have JA:=((JG.by (Imp.un (Imp.un (Imp.trans Imp.dr Imp.dr)))).by Imp.fr3).by (Imp.un Imp.sw);have v1:=JA.drop.own.c1;have o1:=JA.drop.own.o1;have v2:=JA.drop.drop.own.c1;have o2:=JA.drop.drop.own.o1;unfold spB at JA;simp[e7,v1];refine JA.st (by repeat' (first|exact hB|exact Lcl.own|exact Lcl.obj|exact Lcl.map|exact zAT.lcl|apply Lcl.star)) (by simp) (by simp[o1]) fun JN JD=>?_;simp at JD;simp[e7,v2];refine JD.st (by repeat' (first|exact hB|exact Lcl.own|exact Lcl.obj|exact Lcl.map|exact zAT.lcl|apply Lcl.star)) (by simp) (by simp[o2]) fun Jh JC=>?_;simp at JC;have os14:=JC.obj;simp(disch:=omega)[e7,JI,zA os14,zH];refine JC.st (by repeat' (first|exact hB|exact Lcl.own|exact Lcl.obj|exact Lcl.map|exact zAT.lcl|apply Lcl.star)) (by simp) (by simp) fun JF JE=>?_;simp at JE;simp[e1,e2,e7,JL,Jc,Jb];refine⟨by simp[e1],by simp[e2],by simp[e7],by simp[JL],fv',wv',fin fv' wv' JF ?_⟩;exact JE
   ·have q1:=JV.lit (xs:=[x]) (enc:=nE) (E:=3) (sz:=1) (cs:=#[.int .i64 (x:Nat)]) (m:=1) (by repeat' (first|exact hB|exact Lcl.own|exact Lcl.obj|exact Lcl.map|exact zAT.lcl|apply Lcl.star)) (by simp[nE]) zi (by simp[maxLen]) rfl;have q2:=q1.lit (xs:=[bP T.vars k]) (enc:=nE) (E:=3) (sz:=1) (cs:=#[.int .i64 (bP T.vars k:Nat)]) (m:=1) (by repeat' (first|exact hB|exact Lcl.own|exact Lcl.obj|exact Lcl.map|exact zAT.lcl|apply Lcl.star)) (by simp[nE]) zi (by simp[maxLen]) rfl;simp only[e0] at q2;refine At.appendV (by repeat' (first|exact hB|exact Lcl.own|exact Lcl.obj|exact Lcl.map|exact zAT.lcl|apply Lcl.star)) (q2.by Imp.fr4) q2.own.vw zi zA5 zCB (by simp;omega) (by simp;unfold maxLen;omega) fun fv' Jd JB=>?_;have os10:=JB.drop.drop.drop.obj;unfold spB at os10;simp[JI,e9,e7,zA os10,zW];refine At.appendV (by repeat' (first|exact hB|exact Lcl.own|exact Lcl.obj|exact Lcl.map|exact zAT.lcl|apply Lcl.star)) (JB.by Imp.fr5) JB.drop.drop.own.vw zi zA5 zCB (by simp;omega) (by simp;unfold maxLen;omega) fun wv' Ji JG=>?_;have JA:=((JG.by (Imp.un (Imp.un (Imp.trans Imp.dr Imp.dr)))).by Imp.fr3).by (Imp.un Imp.sw);have v1:=JA.drop.own.c1;have o1:=JA.drop.own.o1;have v2:=JA.drop.drop.own.c1;have o2:=JA.drop.drop.own.o1;unfold spB at JA;simp[e7,v1];refine JA.st (by repeat' (first|exact hB|exact Lcl.own|exact Lcl.obj|exact Lcl.map|exact zAT.lcl|apply Lcl.star)) (by simp) (by simp[o1]) fun JN JD=>?_;simp at JD;simp[e7,v2];refine JD.st (by repeat' (first|exact hB|exact Lcl.own|exact Lcl.obj|exact Lcl.map|exact zAT.lcl|apply Lcl.star)) (by simp) (by simp[o2]) fun Jh JC=>?_;simp at JC;have os14:=JC.obj;simp(disch:=omega)[e7,JI,zA os14,zH];refine JC.st (by repeat' (first|exact hB|exact Lcl.own|exact Lcl.obj|exact Lcl.map|exact zAT.lcl|apply Lcl.star)) (by simp) (by simp) fun JF JE=>?_;simp at JE;simp[e1,e2,e7,JL,Jc,Jb];refine⟨by simp[e1],by simp[e2],by simp[e7],by simp[JL],fv',wv',fin fv' wv' JF ?_⟩;exact JE
   ·have q1:=JV.lit (xs:=[bP T.vars k]) (enc:=nE) (E:=3) (sz:=1) (cs:=#[.int .i64 (bP T.vars k:Nat)]) (m:=1) (by repeat' (first|exact hB|exact Lcl.own|exact Lcl.obj|exact Lcl.map|exact zAT.lcl|apply Lcl.star)) (by simp[nE]) zi (by simp[maxLen]) rfl;refine At.appendV (by repeat' (first|exact hB|exact Lcl.own|exact Lcl.obj|exact Lcl.map|exact zAT.lcl|apply Lcl.star)) (q1.by Imp.fr3) q1.own.vw zi zA5 zCB (by simp;omega) (by simp;unfold maxLen;omega) fun fv' Jd JB=>?_;have JB:=JB.by (Imp.un Imp.dr);have os10:=JB.drop.obj;unfold spB at os10;simp[JI,e9,e7,zA os10,zW];have q2:=JB.lit (xs:=[x]) (enc:=nE) (E:=3) (sz:=1) (cs:=#[.int .i64 (x:Nat)]) (m:=1) (by repeat' (first|exact hB|exact Lcl.own|exact Lcl.obj|exact Lcl.map|exact zAT.lcl|apply Lcl.star)) (by simp[nE]) zi (by simp[maxLen]) rfl;refine At.appendV (by repeat' (first|exact hB|exact Lcl.own|exact Lcl.obj|exact Lcl.map|exact zAT.lcl|apply Lcl.star)) (q2.by Imp.fr4) q2.own.vw zi zA5 zCB (by simp;omega) (by simp;unfold maxLen;omega) fun wv' Ji JG=>?_;have JA:=(((JG.by (Imp.un Imp.dr)).by Imp.fr3)).by (Imp.un Imp.sw);have v1:=JA.drop.own.c1;have o1:=JA.drop.own.o1;have v2:=JA.drop.drop.own.c1;have o2:=JA.drop.drop.own.o1;unfold spB at JA;simp[e7,v1];refine JA.st (by repeat' (first|exact hB|exact Lcl.own|exact Lcl.obj|exact Lcl.map|exact zAT.lcl|apply Lcl.star)) (by simp) (by simp[o1]) fun JN JD=>?_;simp at JD;simp[e7,v2];refine JD.st (by repeat' (first|exact hB|exact Lcl.own|exact Lcl.obj|exact Lcl.map|exact zAT.lcl|apply Lcl.star)) (by simp) (by simp[o2]) fun Jh JC=>?_;simp at JC;have os14:=JC.obj;simp(disch:=omega)[e7,JI,zA os14,zH];refine JC.st (by repeat' (first|exact hB|exact Lcl.own|exact Lcl.obj|exact Lcl.map|exact zAT.lcl|apply Lcl.star)) (by simp) (by simp) fun JF JE=>?_;simp at JE;simp[e1,e2,e7,JL,Jc,Jb];refine⟨by simp[e1],by simp[e2],by simp[e7],by simp[JL],fv',wv',fin fv' wv' JF ?_⟩;exact JE
   ·have q1:=JV.lit (xs:=[bP T.vars k]) (enc:=nE) (E:=3) (sz:=1) (cs:=#[.int .i64 (bP T.vars k:Nat)]) (m:=1) (by repeat' (first|exact hB|exact Lcl.own|exact Lcl.obj|exact Lcl.map|exact zAT.lcl|apply Lcl.star)) (by simp[nE]) zi (by simp[maxLen]) rfl;have q2:=q1.lit (xs:=[x]) (enc:=nE) (E:=3) (sz:=1) (cs:=#[.int .i64 (x:Nat)]) (m:=1) (by repeat' (first|exact hB|exact Lcl.own|exact Lcl.obj|exact Lcl.map|exact zAT.lcl|apply Lcl.star)) (by simp[nE]) zi (by simp[maxLen]) rfl;simp only[e0] at q2;refine At.appendV (by repeat' (first|exact hB|exact Lcl.own|exact Lcl.obj|exact Lcl.map|exact zAT.lcl|apply Lcl.star)) (q2.by Imp.fr4) q2.drop.own.vw zi zA5 zCB (by simp;omega) (by simp;unfold maxLen;omega) fun fv' Jd JB=>?_;have os10:=JB.drop.drop.drop.obj;unfold spB at os10;simp[JI,e9,e7,zA os10,zW];refine At.appendV (by repeat' (first|exact hB|exact Lcl.own|exact Lcl.obj|exact Lcl.map|exact zAT.lcl|apply Lcl.star)) (JB.by Imp.fr5) JB.drop.own.vw zi zA5 zCB (by simp;omega) (by simp;unfold maxLen;omega) fun wv' Ji JG=>?_;have JA:=((JG.by (Imp.un (Imp.un (Imp.trans Imp.dr Imp.dr)))).by Imp.fr3).by (Imp.un Imp.sw);have v1:=JA.drop.own.c1;have o1:=JA.drop.own.o1;have v2:=JA.drop.drop.own.c1;have o2:=JA.drop.drop.own.o1;unfold spB at JA;simp[e7,v1];refine JA.st (by repeat' (first|exact hB|exact Lcl.own|exact Lcl.obj|exact Lcl.map|exact zAT.lcl|apply Lcl.star)) (by simp) (by simp[o1]) fun JN JD=>?_;simp at JD;simp[e7,v2];refine JD.st (by repeat' (first|exact hB|exact Lcl.own|exact Lcl.obj|exact Lcl.map|exact zAT.lcl|apply Lcl.star)) (by simp) (by simp[o2]) fun Jh JC=>?_;simp at JC;have os14:=JC.obj;simp(disch:=omega)[e7,JI,zA os14,zH];refine JC.st (by repeat' (first|exact hB|exact Lcl.own|exact Lcl.obj|exact Lcl.map|exact zAT.lcl|apply Lcl.star)) (by simp) (by simp) fun JF JE=>?_;simp at JE;simp[e1,e2,e7,JL,Jc,Jb];refine⟨by simp[e1],by simp[e2],by simp[e7],by simp[JL],fv',wv',fin fv' wv' JF ?_⟩;exact JE
   ·have q1:=JV.lit (xs:=[x]) (enc:=nE) (E:=3) (sz:=1) (cs:=#[.int .i64 (x:Nat)]) (m:=1) (by repeat' (first|exact hB|exact Lcl.own|exact Lcl.obj|exact Lcl.map|exact zAT.lcl|apply Lcl.star)) (by simp[nE]) zi (by simp[maxLen]) rfl;have q2:=q1.lit (xs:=[bP T.vars k]) (enc:=nE) (E:=3) (sz:=1) (cs:=#[.int .i64 (bP T.vars k:Nat)]) (m:=1) (by repeat' (first|exact hB|exact Lcl.own|exact Lcl.obj|exact Lcl.map|exact zAT.lcl|apply Lcl.star)) (by simp[nE]) zi (by simp[maxLen]) rfl;simp only[e0] at q2;refine At.appendV (by repeat' (first|exact hB|exact Lcl.own|exact Lcl.obj|exact Lcl.map|exact zAT.lcl|apply Lcl.star)) (q2.by Imp.fr4) q2.own.vw zi zA5 zCB (by simp;omega) (by simp;unfold maxLen;omega) fun fv' Jd JB=>?_;have os10:=JB.drop.drop.drop.obj;unfold spB at os10;simp[JI,e9,e7,zA os10,zW];refine At.appendV (by repeat' (first|exact hB|exact Lcl.own|exact Lcl.obj|exact Lcl.map|exact zAT.lcl|apply Lcl.star)) (JB.by Imp.fr5) JB.drop.drop.own.vw zi zA5 zCB (by simp;omega) (by simp;unfold maxLen;omega) fun wv' Ji JG=>?_;have JA:=((JG.by (Imp.un (Imp.un (Imp.trans Imp.dr Imp.dr)))).by Imp.fr3).by (Imp.un Imp.sw);have v1:=JA.drop.own.c1;have o1:=JA.drop.own.o1;have v2:=JA.drop.drop.own.c1;have o2:=JA.drop.drop.own.o1;unfold spB at JA;simp[e7,v1];refine JA.st (by repeat' (first|exact hB|exact Lcl.own|exact Lcl.obj|exact Lcl.map|exact zAT.lcl|apply Lcl.star)) (by simp) (by simp[o1]) fun JN JD=>?_;simp at JD;simp[e7,v2];refine JD.st (by repeat' (first|exact hB|exact Lcl.own|exact Lcl.obj|exact Lcl.map|exact zAT.lcl|apply Lcl.star)) (by simp) (by simp[o2]) fun Jh JC=>?_;simp at JC;have os14:=JC.obj;simp(disch:=omega)[e7,JI,zA os14,zH];refine JC.st (by repeat' (first|exact hB|exact Lcl.own|exact Lcl.obj|exact Lcl.map|exact zAT.lcl|apply Lcl.star)) (by simp) (by simp) fun JF JE=>?_;simp at JE;simp[e1,e2,e7,JL,Jc,Jb];refine⟨by simp[e1],by simp[e2],by simp[e7],by simp[JL],fv',wv',fin fv' wv' JF ?_⟩;exact JE
  ·have Jj:y<nn:=by rw[KF];omega
   simp(disch:=omega)[JI,e9,J7,Jj,zH];exact⟨n-1,by omega,x+1,by omega,by omega,e1,e2,e7,JL,Jc,Jb⟩
 clear b1 b3 b4 b5 b6 b6' b7 b8 b10 b11 rt8 KX rt2 rt3 KY;rintro ρ w9 ⟨g1,g2,g7,_,fv,wv,h9⟩;rw[zBn,List.take_length] at h9;have os9:=h9.obj;unfold spB at os9;have KG:=zJ7 T.vars;obtain⟨nb,J9⟩:∃nb,nb=zD T.vars:=⟨_,rfl⟩;rw[<-J9] at os9 KG;have e1:(2:Int)*(nb:Nat)=((2*nb:Nat):Int):=by omega
 by_cases JT:100<nb
 ·have:(100:Int)<(nb:Nat):=by omega
  simp[g7,zA os9,JT,this];exact .inl ⟨by rw[<-J9];exact JT,by simp[zu],h9.drop.drop.drop.drop.drop.drop.drop⟩
 have Jt:¬(100:Int)<(nb:Nat):=by omega
 simp(disch:=omega)[g7,g1,zA os9,JT,Jt,zH];rw[e1];obtain⟨B2,J0⟩:∃B2,B2=zC (zL tb (ntO T)) B:=⟨_,rfl⟩;rw[<-J0] at h9 JM Jy;have Ko:Lcl (zC (zL sb (spB T'.vv.1 T'.nv.1 T'.gv.1 T'.ov.1 (.pointer none) fv wv (zD T.vars) 0 km sm)) (zC (zM fv 3 1 nE ((List.range T.vars.length).map (bP T.vars))) (zC (zM wv 3 1 nE (T.vars.map wd)) (zC (KmA km [(0,true)]) (zC (SmA sm []) (zC (zAT T') B2)))))):=Lcl.obj.star (Lcl.own.star (Lcl.own.star (Lcl.map.star (Lcl.map.star (zAT.lcl.star JM)))));refine zG (zPi (2*nb) L Ko h9 (by omega) h1 h2) ?_;rintro _ Jd ⟨m,rfl,JB⟩;rw[J9] at JB;have JG:=JB.by Imp.sw;unfold spB at JG;simp[g7];refine JG.st (by repeat' (first|exact JM|exact Lcl.mgr|exact Lcl.own|exact Lcl.obj|exact Lcl.map|exact zAT.lcl|apply Lcl.star)) (by simp) (by simp) fun J2 JA=>?_;simp at JA;obtain⟨bb,KH⟩:∃bb,bb=J2.heap.size:=⟨_,rfl⟩;have JD:=JA.alloc (blO sb false) (by repeat' (first|exact JM|exact Lcl.mgr|exact Lcl.own|exact Lcl.obj|exact Lcl.map|exact zAT.lcl|apply Lcl.star));rw[<-KH] at JD;obtain⟨JN,Jl⟩:∃JN,JN=J2.alloc (blO sb false):=⟨_,rfl⟩;rw[<-Jl] at JD;have Jk:J2.alloc (.cells #[.pointer (some ⟨sb,0,none⟩),.nilIface] 167 (0,0))=JN:=by rw[Jl];rfl
 have JC:=JD.by Imp.sw;simp[g7,<-KH,Jk];refine JC.st (by repeat' (first|exact JM|exact Lcl.mgr|exact Lcl.own|exact Lcl.obj|exact Lcl.map|exact zAT.lcl|apply Lcl.star)) (by simp) (by simp) fun JF JE=>?_;simp at JE;have Jz:∀f,Lcl (zAO T' (qN T' fv wv km sm f) [(0,true)] [] B2):=fun f=>zAO.lcl JM;have Jx:At w F (BlA bb sb m L T.vars (qN T' fv wv km sm 1) false [] (zAO T' (qN T' fv wv km sm 1) [(0,true)] [] B2)) JF:=by have hx:=(JE.by Imp.fr3).by (Imp.un Imp.sw);unfold BlA zAO;exact hx
 have rt16:JF.heap[tb]? = some (ntO T):=BlA.frame Jx (by unfold zAO;rw[J0];exact Rds.star (Rds.star (Rds.star Rds.obj)));unfold ntO at rt16;have KQ:∀f,Rds (zAO T' (qN T' fv wv km sm f) [(0,true)] [] B2) fun w'=>NtR w' T:=fun f=>by unfold zAO;exact Rds.star (Rds.star (Rds.star Jy))
 have JU:=BlA.frame Jx (KQ 1);have JR:zFr T.vars L []:=⟨by omega,hg.vars,by omega,Wf.nil _,h1,h2,Nat.zero_le _⟩;simp[g2,zA rt16,JU.vars.len];refine zF (n:=T.vars.length) (by omega) (NwJ bb tb sb m T T' fv wv km sm L B2 w F W) (by simp) (by simp)
  ⟨by simp[g2],by simp[g7],by simp[KH],by simp,1,false,[],Stp.refl JR.wf JR.nl,zEu JR.wf _ _ (fun a=>by unfold okP;simp),Jx⟩ (by decide) (fun _ _ _ _ h=>by unfold NwJ at h ⊢;simpa using h) (fun _ _ _ _ h=>by unfold NwJ at h ⊢;simpa using h) ?_ ?_
 ·clear h9 JB JG JA JD JC JE Jx rt16 JU os9;rintro k ρ KK hk JS Jr ⟨g2,g7,g12,JH,f,e,ns,hs,KC,Jw⟩;have JQ:=JR.stp hs;obtain⟨nn,JO⟩:∃nn,T.vars[k]? = some nn:=⟨_,List.getElem?_eq_getElem hk⟩;have Jo:T.vars.getD k 0=nn:=by simp[List.getD,JO]
  have Jp:=hg.vars nn (List.mem_of_getElem? JO);have Ju:=BlA.frame Jw (KQ f);have Kk:(k:Int)<T.vars.length:=by omega
  simp(disch:=omega)[JH,JS,Jr,Ju.vars.idx,zAM Ju.vars JO];refine zF (n:=nn) (by omega) (NwK bb tb sb m T T' fv wv km sm L B2 w F W T.vars.length k f) (by simp) (by simp)
   ⟨by simp[g2],by simp[g7],by simp[g12],by simp[JH],by simp,by simp[Jr],by simp[JS],0,e,ns,by simp,hs,KC,⟨Nat.zero_le _,fun _=>⟨Ref.zero ns,fun a=>by rw[zN];simp⟩⟩,Jw⟩ (by decide) (fun _ _ _ _ h=>by unfold NwK at h ⊢;simpa using h) (fun _ _ _ _ h=>by unfold NwK at h ⊢;simpa using h) ?_ ?_
  ·rintro x ρ Kf hx KS KR ⟨g2,g7,g12,JH,KJ,Ja,JZ,g,e2,ns2,J1,Jn,mf2,mg2,Jg⟩;have JK:=JR.stp Jn;have Jj:x<2^wd (T.vars.getD k 0):=by rw[Jo];exact Nat.lt_of_lt_of_le hx (zKt Jp.2)
   have Ki:W fun a=>decide (rv T.vars a 0 k<x)||decide (rv T.vars a 0 k=x):=by have:=hW.sm k x hk (by rw[Jo];exact hx);rwa[show(fun a=>decide (rv T.vars a 0 k<x+1))=fun a=>decide (rv T.vars a 0 k<x)||decide (rv T.vars a 0 k=x) from funext fun a=>by rw[Bool.eq_iff_iff];simp only[Bool.or_eq_true,decide_eq_true_eq];omega] at this
   simp[KS,KR,g12,KJ,J1];refine zG (zC3 k x 0 JK (Jz f) Jg hk Jj (by omega) hW.lit (hW.vl k x hk (by rw[Jo];exact hx))) ?_;rintro _ Ke ⟨y,e3,KL,rfl,Je,Jq,JX⟩;have Js:=JK.stp Je;simp[g12,J1];refine zG (zEX g y _ _ Js (Jz f) JX (mg2.keep JK.wf Je) Jq Ki) ?_;rintro _ Kc ⟨u,e4,Kg,rfl,KP,KD,JW⟩;simp[KS,KR];refine⟨by simp[g2],by simp[g7],by simp[g12],by simp[JH],by simp[KJ],by simp[Ja],by simp[JZ],u,e4,Kg,by simp,(Jn.trans Je).trans KP,(mf2.keep JK.wf Je).keep Js.wf KP,?_,JW⟩;exact⟨KD.1,fun he=>⟨(KD.2 he).1,fun a=>by rw[(KD.2 he).2 a,Bool.eq_iff_iff];simp only[Bool.or_eq_true,decide_eq_true_eq];omega⟩⟩
  ·rintro ρ Kf ⟨g2,g7,g12,JH,KJ,Ja,JZ,g,e2,ns2,J1,Jn,mf2,mg2,Jg⟩;have JK:=JR.stp Jn;have Jv:=Jg;unfold BlA at Jv;have os18:=Jv.drop.drop.obj;unfold spO qN at os18;have KI:W fun a=>okP T.vars k a&&decide (rv T.vars a 0 k<nn):=by have:=hW.ok k hk;rwa[show okP T.vars (k+1)=fun a=>okP T.vars k a&&decide (rv T.vars a 0 k<nn) from funext fun a=>by rw[zJ5,Jo]] at this
   simp[g7,g12,J1,zA os18];refine zG (zp f g _ _ JK (Jz f) Jg mf2 mg2 KI) ?_;rintro _ Ke ⟨y,e3,KL,rfl,Je,Jq,JX⟩;unfold BlA at JX;have JW:=JX.by Imp.fr3;unfold spO qN at JW;simp[g7];refine JW.st (by repeat' (first|exact Jz _|exact Lcl.mgr|exact Lcl.own|exact Lcl.obj|exact Lcl.map|apply Lcl.star)) (by simp) (by simp) fun Kr Ka=>?_;simp at Ka;have Kq:=Ka.by Imp.bk3;simp[Ja,JZ];refine⟨by simp[g2],by simp[g7],by simp[g12],by simp[JH],y,e3,KL,Jn.trans Je,⟨Jq.1,fun he=>⟨(Jq.2 he).1,fun a=>by rw[(Jq.2 he).2 a,zJ5,Jo]⟩⟩,Kq⟩
 ·clear h9 JB JG JA JD JC JE Jx rt16 JU os9;rintro ρ KK ⟨g2,g7,g12,JH,f,e,ns,hs,KC,Jw⟩;have JY:=Jw;unfold BlA zAO at JY;have JP:=JY.drop.obj;unfold blO at JP;have KO:=hs;cases e with
  |true =>simp[g12,zA JP,eB,zu];have hd:=JY.drop.drop.drop.drop.drop.drop.drop.drop;rw[J0] at hd;exact .inr ⟨by omega,true,ns,KO,.inl ⟨rfl,by simp[eB,zu],hd.drop.drew hB⟩⟩
  |false =>
   have Jg:At w F (BlA bb sb m L T'.vars (qN T' fv wv km sm f) false ns (zAO T' (qN T' fv wv km sm f) [(0,true)] [] B2)) KK:=by rw[hA.vars];exact Jw
   have JX:=(zI.un Jg).drew (zI.lcl JM);have os19:=zI.obj JX;unfold spO qN at os19;obtain⟨rf,ef⟩:=KC.2 rfl;have JQ:=JR.stp hs;have Km:=zJr JQ rf;simp[g7,g12,zA JP,eB,zA os19];refine zI.putK JM JX (show zY f by unfold zY;omega) (by simp) fun Kc JW=>?_;simp[g7];rw[J0] at JW;have hall:zDY T'.vars ns f fun _=>true:=⟨rf,fun a=>by rw[ef a,Bool.and_true,hA.vars];rfl⟩;refine .inr ⟨by omega,false,ns,KO,.inr ⟨rfl,sb,m,T',qN T' fv wv km sm f,hA,rfl,⟨by rw[hA.vars];exact JQ,hA.good hg,⟨rfl,rfl,rfl,rfl⟩,hall,fun p hp=>?_,fun p hp=>(by cases hp),?_,by simp⟩,zI.less JW⟩⟩
   ·rcases zBW hp with h|rfl
    ·simp at h;subst h;exact⟨rfl,fun _=>false,Ref.zero ns,fun a=>by rw[zN];simp⟩
    ·exact⟨rfl,_,hall⟩
   ·have:(zB5 [(0,true)] (qN T' fv wv km sm f).all true).length<=1+1:=zAd;omega
end
end
section
open Go Go.W Go.Tk Go.Rx Go.Bd Go.Sy Go.Maps
def asL:Nat->Nat->List (Nat->Bool)
 |0,_=>[fun _=>false]
 |d+1,k=>(asL d (k+1)).map (fun a=>upd a k false)++(asL d (k+1)).map (fun a=>upd a k true)
theorem zIj:∀(d k:Nat) (F:(Nat->Bool)->Bool),num d k F=((asL d k).filter F).length
 |0,k,F=>by rw[num,asL];cases h:F fun _=>false<;>simp[h]
 |d+1,k,F=>by rw[num,asL,List.filter_append,List.length_append,zIj,zIj,List.filter_map,List.filter_map,List.length_map,List.length_map];rfl
theorem zG6:∀(d k:Nat) (a:Nat->Bool),a∈asL d k<->∀i,¬(k<=i/\i<k+d)->a i=false
 |0,k,a=>by
  rw[asL,List.mem_singleton];constructor
  ·rintro rfl i _;rfl
  ·intro h;funext i;exact h i (by omega)
 |d+1,k,a=>by
  rw[asL,List.mem_append,List.mem_map,List.mem_map];constructor
  ·rintro (⟨b,hb,rfl⟩|⟨b,hb,rfl⟩) i hi <;>
   ·have:i≠k:=by omega
    simp only[upd,if_neg this];exact(zG6 d (k+1) b).1 hb i (by omega)
  ·intro h;have hb:upd a k false∈asL d (k+1):=(zG6 d (k+1) _).2 fun i hi=>by
    by_cases e:i=k
    ·subst e;simp[upd]
    ·simp only[upd,if_neg e];exact h i (by omega)
   have e:∀x,a k=x->upd (upd a k false) k x=a:=fun x hx=>by
    funext i;unfold upd;by_cases e:i=k
    ·subst e;rw[if_pos rfl,hx]
    ·rw[if_neg e,if_neg e]
   cases hx:a k with
   |false=>exact .inl ⟨_,hb,e _ hx⟩
   |true=>exact .inr ⟨_,hb,e _ hx⟩
theorem zM5{α β:Type}{f:α->β}{l:List α}(h:l.Nodup)(hf:∀a∈l,∀b∈l,f a=f b->a=b):(l.map f).Nodup:=by
 unfold List.Nodup;rw[List.pairwise_map];exact List.Pairwise.imp_of_mem (fun ha hb JA e=>JA (hf _ ha _ hb e)) h
theorem zRh:∀(d k:Nat),(asL d k).Nodup
 |0,k=>by simp[asL]
 |d+1,k=>by
  have ih:=zRh d (k+1);have z:∀a∈asL d (k+1),a k=false:=fun a ha=>(zG6 d (k+1) a).1 ha k (by omega);have inj:∀x,∀a∈asL d (k+1),∀b∈asL d (k+1),upd a k x=upd b k x->a=b:=fun x a ha b hb e=>by
   funext i;by_cases h:i=k
   ·subst h;rw[z a ha,z b hb]
   ·have:=congrFun e i;simpa[upd,h] using this
  rw[asL,List.nodup_append];refine⟨zM5 ih (inj false),zM5 ih (inj true),?_⟩;rintro x hx y hy rfl;obtain⟨a,ha,rfl⟩:=List.mem_map.1 hx;obtain⟨b,hb,e⟩:=List.mem_map.1 hy;have:=congrFun e k;simp[upd] at this
theorem zPB(vars:List Nat):∀k,∀s∈zAs vars k,s.length=k:=by
 intro k
 induction k with
 |zero=>intro s hs;simp[zAs] at hs;subst hs;rfl
 |succ k ih =>intro s hs;unfold zAs at hs;obtain⟨x,hx,h⟩:=List.mem_flatMap.1 hs;unfold zCZ at h;obtain⟨i,_,rfl⟩:=List.mem_map.1 h;rw[List.length_append,ih x hx];rfl
theorem zUj(vars:List Nat):∀k,(zAs vars k).Nodup:=by
 intro k
 induction k with
 |zero=>simp[zAs]
 |succ k ih =>
  have hl:∀s∈zAs vars k,s.length=k:=zPB vars k;unfold zAs;unfold List.Nodup;rw[List.pairwise_flatMap];refine⟨fun s hs=>?_,?_⟩
  ·unfold zCZ;rw[List.pairwise_map];exact List.nodup_range.imp fun JA e=>JA (by simpa using e)
  ·refine List.Pairwise.imp_of_mem (fun {a b} ha hb JA x hx y hy e=>JA ?_) ih;unfold zCZ at hx hy;obtain⟨i,_,rfl⟩:=List.mem_map.1 hx;obtain⟨j,_,rfl⟩:=List.mem_map.1 hy;have:=congrArg (List.take k) e;rwa[List.take_append_of_le_length (by rw[hl a ha];exact Nat.le_refl _),List.take_append_of_le_length (by rw[hl b hb];exact Nat.le_refl _),List.take_of_length_le (by rw[hl a ha];exact Nat.le_refl _),List.take_of_length_le (by rw[hl b hb];exact Nat.le_refl _)] at this
theorem zKg:∀(vars:List Nat) (p:Nat),p<zD vars->∃v n k,vars[v]? = some n/\k<wd n/\p=bP vars v+k
 |[],p,h=>by simp[zD] at h
 |m::l,p,h=>by
  by_cases hp:p<wd m
  ·exact⟨0,m,p,by simp,hp,by simp[bP]⟩
  ·have hn:zD (m::l)=wd m+zD l:=by simp[zD]
   obtain⟨v,n,k,h1,h2,h3⟩:=zKg l (p-wd m) (by omega);refine⟨v+1,n,k,by simpa using h1,h2,?_⟩;have:bP (m::l) (v+1)=wd m+bP l v:=by unfold bP;simp
   omega
theorem zUz{vars:List Nat}{a b:Nat->Bool}(h:rs vars a 0=rs vars b 0){p:Nat}(hp:p<zD vars):a (2*p)=b (2*p):=by
 obtain⟨v,n,k,h1,h2,rfl⟩:=zKg vars p hp;have hv:=(List.getElem?_eq_some_iff.1 h1).1;have hn:vars.getD v 0=n:=by simp[List.getD,h1]
 have e:rv vars a 0 v=rv vars b 0 v:=by rw[<-zCe hv,<-zCe hv,h]
 unfold rv at e;rw[hn] at e;have hb:=(zBK (g:=fun k=>b (2*(bP vars v+k)+0)) (wd n) _ (zDc _ _)).2 rfl;have ha:=(zBK (g:=fun k=>a (2*(bP vars v+k)+0)) (wd n) _ (zDc (fun k=>b (2*(bP vars v+k)+0)) _)).2 e;have:=(ha k h2).trans (hb k h2).symm;simpa using this
end
section
open Go Go.W Go.Tk Go.Rx Go.Bd Go.Sy Go.Maps
def ctN(vars:List Nat)(P:List Nat->Bool):Nat:=((zAs vars vars.length).filter P).length
theorem zRW{vars:List Nat}{P:List Nat->Bool}(h64:∀n∈vars,n<=64):num (2*zD vars) 0 (ctF vars P)=ctN vars P:=by
 rw[zIj];unfold ctN;have hm:∀a,a∈(asL (2*zD vars) 0).filter (ctF vars P)<->(∀i,¬i<2*zD vars->a i=false)/\StN vars (rs vars a 0)/\P (rs vars a 0)=true/\∀p,p<zD vars->a (2*p+1)=false:=fun a=>by
  rw[List.mem_filter,zG6];unfold ctF;rw[Bool.and_eq_true_iff,Bool.and_eq_true_iff,zQj,zAh];constructor
  ·rintro⟨h1,⟨h2,h3⟩,h4⟩;exact⟨fun i hi=>h1 i (by omega),h2,h3,h4⟩
  ·rintro⟨h1,h2,h3,h4⟩;exact⟨fun i hi=>h1 i (by omega),⟨h2,h3⟩,h4⟩
 have nd:(((asL (2*zD vars) 0).filter (ctF vars P)).map fun a=>rs vars a 0).Nodup:=by
  refine zM5 ((zRh _ _).filter _) fun a ha b hb e=>?_;obtain⟨a1,_,_,a4⟩:=(hm a).1 ha;obtain⟨b1,_,_,b4⟩:=(hm b).1 hb;funext i;by_cases hi:i<2*zD vars
  ·by_cases hp:i%2=0
   ·obtain⟨p,rfl⟩:∃p,i=2*p:=⟨i/2,by omega⟩;exact zUz e (by omega)
   ·obtain⟨p,rfl⟩:∃p,i=2*p+1:=⟨i/2,by omega⟩;rw[a4 p (by omega),b4 p (by omega)]
  ·rw[a1 i hi,b1 i hi]
 have key:=(List.perm_ext_iff_of_nodup nd ((zUj vars vars.length).filter P)).2 fun x=>by
  rw[List.mem_map,List.mem_filter,zEc];constructor
  ·rintro⟨a,ha,rfl⟩;obtain⟨_,h2,h3,_⟩:=(hm a).1 ha;exact⟨h2,h3⟩
  ·rintro⟨h2,h3⟩;obtain⟨a,ha⟩:∃a:Nat->Bool,a=fun i=>decide (i<2*zD vars)&&(decide (i%2=0)&&mk2 vars x [] i):=⟨_,rfl⟩;have hx:rs vars a 0=x:=by
    rw[<-zHY (y:=[]) h64 h2];refine zAy fun p hp=>?_;have e1:decide (2*p+0<2*zD vars)=true:=by simp;omega
    have e2:decide ((2*p+0)%2=0)=true:=by simp
    rw[ha];simp only[e1,e2,Bool.true_and]
   refine⟨a,(hm a).2 ⟨fun i hi=>?_,by rw[hx];exact h2,by rw[hx];exact h3,fun p hp=>?_⟩,hx⟩
   ·have:decide (i<2*zD vars)=false:=by simpa using hi
    rw[ha];simp only[this,Bool.false_and]
   ·have:decide ((2*p+1)%2=0)=false:=by simp
    rw[ha];simp only[this,Bool.false_and,Bool.and_false]
 rw[<-key.length_eq,List.length_map]
end
end Go.Proofs.YtolkjbmcindhjaaGreat
section
namespace Go.Sy
open Go.Bd
abbrev BFn:=(Nat->Bool)->Bool
def Dep(K:BFn)(t:Nat):Prop:=∃b,K (upd b t true)≠K (upd b t false)
def zx(n:Nat)(W:BFn->Prop)(N:Nat):Prop:=∃L:List BFn,L.length<=N/\∀G,W G->∀t a,t<n->Dep (fun b=>G (pfx a t b)) t->(fun b=>G (pfx a t b))∈L
theorem zx.or{n N1 N2:Nat}{W1 W2:BFn->Prop}(h1:zx n W1 N1)(h2:zx n W2 N2):zx n (fun G=>W1 G\/W2 G) (N1+N2):=by
 obtain⟨L1,a1,b1⟩:=h1;obtain⟨L2,a2,b2⟩:=h2;refine⟨L1++L2,by rw[List.length_append];omega,fun G hG t a ht hd=>?_⟩;rcases hG with h|h
 ·exact List.mem_append_left _ (b1 G h t a ht hd)
 ·exact List.mem_append_right _ (b2 G h t a ht hd)
theorem zx.mono{n N N':Nat}{W W':BFn->Prop}(h:zx n W N)(hw:∀G,W' G->W G)(hn:N<=N'):zx n W' N':=by
 obtain⟨L,a,b⟩:=h;exact⟨L,Nat.le_trans a hn,fun G hG=>b G (hw G hG)⟩
theorem zx.none(n:Nat):zx n (fun _=>False) 0:=⟨[],Nat.le_refl _,fun G h=>h.elim⟩
theorem zx.each{n c:Nat}(g:Nat->BFn):∀k,(∀i,i<k->zx n (fun G=>G=g i) c)->zx n (fun G=>∃i,i<k/\G=g i) (k*c)
 |0,_=>(zx.none n).mono (fun G ⟨i,hi,_⟩=>by omega) (Nat.zero_le _)
 |k+1,h=>((zx.each g k fun i hi=>h i (by omega)).or (h k (by omega))).mono (fun G ⟨i,hi,e⟩=>by
   by_cases hk:i=k
   ·subst hk;exact .inr e
   ·exact .inl ⟨i,by omega,e⟩) (by rw[Nat.succ_mul];exact Nat.le_refl _)
theorem zx.sum{n:Nat}(P:Nat->BFn->Prop)(c:Nat->Nat):∀k,(∀i,i<k->zx n (P i) (c i))->zx n (fun G=>∃i,i<k/\P i G) ((List.range k).map c).sum
 |0,_=>(zx.none n).mono (fun G ⟨i,hi,_⟩=>by omega) (Nat.zero_le _)
 |k+1,h=>((zx.sum P c k fun i hi=>h i (by omega)).or (h k (by omega))).mono (fun G ⟨i,hi,e⟩=>by
   by_cases hk:i=k
   ·subst hk;exact .inr e
   ·exact .inl ⟨i,by omega,e⟩) (by rw[List.range_succ,List.map_append,List.sum_append];simp)
section
variable {n:Nat} {ns:Ns}
theorem zPh(w:Wf n ns){z:Nat}(hz:Ref ns z)(h2:2<=z){G:BFn}(h:IsC G fun b=>eval ns b z):∃t a,t<n/\(fun b=>eval ns b z)=(fun b=>G (pfx a t b))/\Dep (fun b=>G (pfx a t b)) t:=by
 have ht:=w.tv_var h2 hz;obtain⟨t,JA⟩:∃t,t=tv n ns z:=⟨_,rfl⟩;rw[<-JA] at ht;have JB:(at_ n ns z).low≠(at_ n ns z).high:=by rw[zC6 h2 hz];exact w.ne _ _
 have hd:Dep (fun b=>eval ns b z) t:=by apply Classical.byContradiction;intro hn;apply JB;refine zFM w (z+1) _ _ (by have:=w.lt_low h2 hz;omega) (by have:=w.lt_high h2 hz;omega) (w.ref_low hz) (w.ref_high hz) fun a=>?_;rw[<-zBE w h2 hz,<-zAk w h2 hz,<-JA];apply Classical.byContradiction;intro hx;exact hn ⟨a,fun e=>hx e.symm⟩
 obtain⟨k,a,e⟩:=h;have e:∀b,eval ns b z=G (pfx a k b):=e;by_cases hk:k<=t
 ·have e2:(fun b=>eval ns b z)=fun b=>G (pfx (fun i=>if i<k then a i else false) t b):=funext fun b=>by
   have e1:eval ns b z=eval ns (pfx (fun _=>false) t b) z:=zAK w hz fun i hi=>by unfold pfx;rw[if_neg (by omega)]
   rw[e1,e];congr 1;funext i;simp only[pfx];by_cases h1:i<k
   ·rw[if_pos h1,if_pos (by omega),if_pos h1]
   ·rw[if_neg h1];by_cases h3:i<t
    ·rw[if_pos h3,if_pos h3,if_neg h1]
    ·rw[if_neg h3,if_neg h3]
  refine⟨t,_,ht,e2,?_⟩;rw[<-e2];exact hd
 ·obtain⟨b,hb⟩:=hd;exfalso;apply hb;show eval ns (upd b t true) z=eval ns (upd b t false) z;rw[e,e];congr 1;funext i;simp only[pfx];by_cases h1:i<k
  ·rw[if_pos h1,if_pos h1]
  ·rw[if_neg h1,if_neg h1,zR (by omega),zR (by omega)]
theorem zOA{W:BFn->Prop}{N:Nat}{ns0:Ns}(w:Wf n ns)(hc:zx n W N)(h:∀z,ns0.length+2<=z->z<ns.length+2->∃G,W G/\IsC G fun b=>eval ns b z):ns.length<=ns0.length+N:=by
 obtain⟨L,hl,hL⟩:=hc;have hn:((List.range (ns.length-ns0.length)).map fun i=>(fun b=>eval ns b (ns0.length+2+i):BFn)).Nodup:=by refine List.pairwise_map.2 (List.Pairwise.imp_of_mem ?_ (List.nodup_range (n:=ns.length-ns0.length)));intro i j hi hj JA e;have hi:=List.mem_range.1 hi;have hj:=List.mem_range.1 hj;apply JA;have:=zFM w (ns.length+2) (ns0.length+2+i) (ns0.length+2+j) (by omega) (by omega) (by unfold Ref;omega) (by unfold Ref;omega) fun a=>congrFun e a;omega
 have:=@zAG BFn (fun a b=>Classical.propDecidable (a=b)) _ L hn fun x hx=>by obtain⟨i,hi,rfl⟩:=List.mem_map.1 hx;have hi:=List.mem_range.1 hi;obtain⟨G,g1,g2⟩:=h (ns0.length+2+i) (by omega) (by omega);obtain⟨t,a,ht,e,hd⟩:=zPh w (z:=ns0.length+2+i) (by unfold Ref;omega) (by omega) g2;rw[e];exact hL G g1 t a ht hd
 simp at this;omega
end
def XIn(s w:Nat)(G:BFn):Prop:=∀a b:Nat->Bool,(∀p,s<=p->p<s+w->a (2*p)=b (2*p))->G a=G b
theorem zDs(a:Nat->Bool)(k:Nat):∃p,p<2^k/\∀i,i<k->a i=p.testBit (k-1-i) :=
 ⟨zIM a k,zDc a k,(zBK k (zIM a k) (zDc a k)).2 rfl⟩
theorem zEL(f:Nat->Nat->BFn):∀w,((List.range w).flatMap fun k=>(List.range (2^k)).map (f k)).length+1=2^w
 |0=>by simp
 |w+1=>by have:=zEL f w;rw[List.range_succ,List.flatMap_append,List.length_append,Nat.pow_succ];simp only[List.flatMap_cons,List.flatMap_nil,List.append_nil,List.length_map,List.length_range];omega
theorem zWF{n s w:Nat}{G:BFn}(h:XIn s w G):zx n (fun K=>K=G) (2^w):=by
 refine⟨(List.range w).flatMap fun k=>(List.range (2^k)).map fun p=>fun b=>G (pfx (fun i=>p.testBit (k-1-(i/2-s))) (2*(s+k)) b),by have:=zEL (fun k p=>fun b=>G (pfx (fun i=>p.testBit (k-1-(i/2-s))) (2*(s+k)) b)) w;omega,?_⟩;rintro _ rfl t a ht ⟨b,hb⟩
 -- the variable is one of those
 have JB:∃k,k<w/\t=2*(s+k):=by
  apply Classical.byContradiction;intro hn;apply hb;refine h _ _ fun p h1 h2=>?_;unfold pfx;by_cases h3:2*p<t
  ·rw[if_pos h3,if_pos h3]
  ·rw[if_neg h3,if_neg h3];by_cases h4:2*p=t
   ·exact absurd ⟨p-s,by omega,by omega⟩ hn
   ·rw[zR h4,zR h4]
 obtain⟨k,hk,rfl⟩:=JB;obtain⟨p,hp,JA⟩:=zDs (fun i=>a (2*(s+i))) k;refine List.mem_flatMap.2 ⟨k,List.mem_range.2 hk,List.mem_map.2 ⟨p,List.mem_range.2 hp,funext fun c=>h _ _ fun q h1 h2=>?_⟩⟩;simp only[pfx];by_cases h3:2*q<2*(s+k)
 ·rw[if_pos h3,if_pos h3];have:=JA (q-s) (by omega);rw[show s+(q-s)=q by omega] at this;rw[show 2*q/2=q by omega];exact this.symm
 ·rw[if_neg h3,if_neg h3]
def Gtd(m:Nat)(G:BFn):Prop:=(∀a,G a=true->∀p,p<m->a (2*p+1)=false)/\∀a b:Nat->Bool,(∀p,p<m->a (2*p)=b (2*p)/\a (2*p+1)=b (2*p+1))->G a=G b
theorem zHr(f:Nat->Nat->BFn):∀w,((List.range w).flatMap fun k=>(List.range (2^(k+1))).map (f k)).length+2=2^(w+1)
 |0=>by simp
 |w+1=>by have:=zHr f w;rw[List.range_succ,List.flatMap_append,List.length_append,Nat.pow_succ 2 (w+1)];simp only[List.flatMap_cons,List.flatMap_nil,List.append_nil,List.length_map,List.length_range];omega
theorem cov_g{m:Nat}{G:BFn}(h:Gtd m G):zx (2*m) (fun K=>K=G) (3*2^m):=by
 let f0:Nat->Nat->BFn:=fun k p=>fun b=>G (pfx (fun i=>decide (i%2=0)&&p.testBit (k-1-i/2)) (2*k) b)
 let f1:Nat->Nat->BFn:=fun k p=>fun b=>G (pfx (fun i=>decide (i%2=0)&&p.testBit (k-i/2)) (2*k+1) b)
 refine⟨((List.range m).flatMap fun k=>(List.range (2^k)).map (f0 k))++((List.range m).flatMap fun k=>(List.range (2^(k+1))).map (f1 k)),?_,?_⟩
 ·have h0:=zEL f0 m;have h1:=zHr f1 m;rw[Nat.pow_succ] at h1;rw[List.length_append];omega
 rintro K e t a ht hd;rw[e] at hd ⊢;obtain⟨b,hb⟩:=hd
 -- the odd variables before are false
 have JB:∀p,p<m->2*p+1<t->a (2*p+1)=false:=fun p hp JC=>by
  apply Classical.byContradiction;intro hn;apply hb;have key:∀c:Nat->Bool,G (pfx a t c)=false:=fun c=>by
   cases hG:G (pfx a t c) with
   |false=>rfl
   |true =>have:=h.1 _ hG p hp;unfold pfx at this;rw[if_pos JC] at this;exact absurd this hn
  show G (pfx a t (upd b t true))=G (pfx a t (upd b t false));rw[key,key]
 rcases Nat.mod_two_eq_zero_or_one t with h0|h0
 ·obtain⟨k,rfl⟩:∃k,t=2*k:=⟨t/2,by omega⟩;obtain⟨p,hp,JA⟩:=zDs (fun i=>a (2*i)) k;refine List.mem_append_left _ (List.mem_flatMap.2 ⟨k,List.mem_range.2 (by omega),List.mem_map.2 ⟨p,List.mem_range.2 hp,funext fun c=>h.2 _ _ fun q hq=>?_⟩⟩);simp only[pfx];constructor
  ·by_cases h3:2*q<2*k
   ·rw[if_pos h3,if_pos h3];have:=JA q (by omega);rw[show 2*q/2=q by omega,show 2*q%2=0 by omega];simpa using this.symm
   ·rw[if_neg h3,if_neg h3]
  ·by_cases h3:2*q+1<2*k
   ·rw[if_pos h3,if_pos h3,JB q hq h3,show(2*q+1)%2=1 by omega];simp
   ·rw[if_neg h3,if_neg h3]
 ·obtain⟨k,rfl⟩:∃k,t=2*k+1:=⟨t/2,by omega⟩;obtain⟨p,hp,JA⟩:=zDs (fun i=>a (2*i)) (k+1);refine List.mem_append_right _ (List.mem_flatMap.2 ⟨k,List.mem_range.2 (by omega),List.mem_map.2 ⟨p,List.mem_range.2 hp,funext fun c=>h.2 _ _ fun q hq=>?_⟩⟩);simp only[pfx];constructor
  ·by_cases h3:2*q<2*k+1
   ·rw[if_pos h3,if_pos h3];have:=JA q (by omega);rw[show k+1-1-q=k-q by omega] at this;rw[show 2*q/2=q by omega,show 2*q%2=0 by omega];simpa using this.symm
   ·rw[if_neg h3,if_neg h3]
  ·by_cases h3:2*q+1<2*k+1
   ·rw[if_pos h3,if_pos h3,JB q hq h3,show(2*q+1)%2=1 by omega];simp
   ·rw[if_neg h3,if_neg h3]
def zU(l:List (Nat×Bool))(a:Nat->Bool):Bool:=l.all fun p=>a p.1==p.2
end Go.Sy
namespace Go.Sy
open Go.Bd
theorem zx.eachW{n c:Nat}(P:Nat->BFn->Prop):∀k,(∀i,i<k->zx n (P i) c)->zx n (fun G=>∃i,i<k/\P i G) (k*c)
 |0,_=>(zx.none n).mono (fun G ⟨i,hi,_⟩=>by omega) (Nat.zero_le _)
 |k+1,h=>((zx.eachW P k fun i hi=>h i (by omega)).or (h k (by omega))).mono (fun G ⟨i,hi,e⟩=>by
   by_cases hk:i=k
   ·subst hk;exact .inr e
   ·exact .inl ⟨i,by omega,e⟩) (by rw[Nat.succ_mul];exact Nat.le_refl _)
end Go.Sy
end
namespace Go.Proofs.YtolkjbmcindhjaaGreat
section
open Go Go.W Go.Tk Go.Rx Go.Bd Go.Sy Go.Maps
def LitS(vars:List Nat)(G:BFn):Prop:=∃i,i<2*zD vars/\(G=(fun a=>a i)\/G=fun a=>!a i)
def VlS(vars:List Nat)(v x nx:Nat)(G:BFn):Prop:=∃j,j<wd (vars.getD v 0)/\G=vlB vars v x nx j
def zWq(vars:List Nat)(l:List Go.Tk.Fc)(G:BFn):Prop:=(∃i,i<l.length/\VlS vars (l.getD i (0,0)).1 (l.getD i (0,0)).2 0 G)\/∃j,j<l.length/\G=fcB vars l j
def SaS(vars:List Nat)(v:Nat)(G:BFn):Prop:=∃j,j<wd (vars.getD v 0)/\(G=(fun a=>a (2*(bP vars v+j))&&a (2*(bP vars v+j)+1))\/G=(fun a=>!a (2*(bP vars v+j)) && !a (2*(bP vars v+j)+1)) \/
 G=(fun a=>(a (2*(bP vars v+j))&&a (2*(bP vars v+j)+1))||(!a (2*(bP vars v+j)) && !a (2*(bP vars v+j)+1)))\/G=saB vars v j)
def EfS(vars:List Nat)(o:No)(v j:Nat)(x:Nf)(G:BFn):Prop:=zWq vars x.cnd G\/VlS vars v x.x 1 G\/G=(fun a=>leB vars o v (j+1) a&&hdB (rs vars a 0) x.cnd) \/
 G=(fun a=>(leB vars o v (j+1) a&&hdB (rs vars a 0) x.cnd)&&decide (rv vars a 1 v=x.x))\/G=ouB vars o v j\/G=(fun a=>!hdB (rs vars a 0) x.cnd)\/G=leB vars o v j
def ChS(vars:List Nat)(o:No)(v:Nat)(G:BFn):Prop:=SaS vars v G\/G=(fun a=>leB vars o v 0 a&&decide (rv vars a 0 v=rv vars a 1 v))\/G=(fun a=>decide (rv vars a 1 v=zJE o (rs vars a 0) v)) \/
 ∃j,j<o.effs.length/\∃x,o.effs[j]? = some x/\x.v=v/\EfS vars o v j x G
def RelS(T:Nt)(o:No)(G:BFn):Prop:=LitS T.vars G\/(∃v,v<T.vars.length/\ChS T.vars o v G)\/(∃j,j<T.vars.length/\G=rlB T o j)\/zWq T.vars o.pre G\/G=fun a=>hdB (rs T.vars a 0) o.pre&&rlB T o 0 a
def NewS(T:Nt)(G:BFn):Prop:=LitS T.vars G\/(∃v,v<T.vars.length/\∃x,x<T.vars.getD v 0/\(VlS T.vars v x 0 G\/G=fun a=>decide (rv T.vars a 0 v<x+1)))\/∃k,k<T.vars.length/\G=okP T.vars (k+1)
def inn(T:Nt)(nx:Nat):Nat->Bool:=inB (zAZ (2*zD T.vars) (hfL nx (2*zD T.vars)))
def ImgS(T:Nt)(o:No)(P:List Nat->Bool)(G:BFn):Prop:=RelS T o G\/G=imA T o P\/(∃H,IsC (imA T o P) H/\∀a,G a=true<->qS 1 (inn T 0) H a) \/
 ∃X,(∀a,X a=true<->qS 1 (inn T 0) (imA T o P) a)/\∃H,IsC X H/\G=fun b=>H (sgA (2*zD T.vars) 1 b)
def PreS(T:Nt)(o:No)(P:List Nat->Bool)(G:BFn):Prop:=RelS T o G\/(∃H,IsC (zB7 T.vars P) H/\G=fun b=>H (sgA (2*zD T.vars) 0 b))\/G=prA T o P\/(∃H,IsC (prA T o P) H/\∀a,G a=true<->qS 1 (inn T 1) H a)\/G=zB7 T.vars (zFc o P)
section
variable {W:BFn->Prop}
theorem litW{vars:List Nat}(h:∀G,LitS vars G->W G):LitW vars W:=fun i hi=>⟨h _ ⟨i,hi,.inl rfl⟩,h _ ⟨i,hi,.inr rfl⟩⟩
theorem vlW{vars:List Nat}{v x nx:Nat}(h:∀G,VlS vars v x nx G->W G):VlW vars v x nx W:=fun j hj=>h _ ⟨j,hj,rfl⟩
theorem facW{vars:List Nat}{l:List Go.Tk.Fc}(h:∀G,zWq vars l G->W G):FcW vars l W:=by
 refine⟨fun f hf=>vlW fun G hG=>?_,fun j hj=>h _ (.inr ⟨j,hj,rfl⟩)⟩;obtain⟨i,hi,rfl⟩:=List.getElem_of_mem hf;refine h _ (.inl ⟨i,hi,?_⟩);simpa[List.getD,hi] using hG
theorem chW{vars:List Nat}{o:No}{v:Nat}(h:∀G,ChS vars o v G->W G):ChW vars o v W:=by
 have he:∀(j:Nat) (x:Nf),o.effs[j]? = some x->x.v=v->∀G,EfS vars o v j x G->W G:=fun j x hx hv G hG=>h _ (.inr (.inr (.inr ⟨j,(List.getElem?_eq_some_iff.1 hx).1,x,hx,hv,hG⟩)));exact⟨fun j hj=>⟨h _ (.inl ⟨j,hj,.inl rfl⟩),h _ (.inl ⟨j,hj,.inr (.inl rfl)⟩),h _ (.inl ⟨j,hj,.inr (.inr (.inl rfl))⟩),h _ (.inl ⟨j,hj,.inr (.inr (.inr rfl))⟩)⟩,h _ (.inr (.inl rfl)),h _ (.inr (.inr (.inl rfl))),
  fun j x hx hv=>facW fun G hG=>he j x hx hv G (.inl hG),fun j x hx hv=>vlW fun G hG=>he j x hx hv G (.inr (.inl hG)),fun j x hx hv=>he j x hx hv _ (.inr (.inr (.inl rfl))),fun j x hx hv=>he j x hx hv _ (.inr (.inr (.inr (.inl rfl)))),
  fun j x hx hv=>he j x hx hv _ (.inr (.inr (.inr (.inr (.inl rfl))))),fun j x hx hv=>he j x hx hv _ (.inr (.inr (.inr (.inr (.inr (.inl rfl)))))),fun j x hx hv=>he j x hx hv _ (.inr (.inr (.inr (.inr (.inr (.inr rfl))))))⟩
theorem relW{T:Nt}{o:No}(h:∀G,RelS T o G->W G):RelW T o W :=
 ⟨litW fun G hG=>h _ (.inl hG),fun v hv=>chW fun G hG=>h _ (.inr (.inl ⟨v,hv,hG⟩)),fun j hj=>h _ (.inr (.inr (.inl ⟨j,hj,rfl⟩))),facW fun G hG=>h _ (.inr (.inr (.inr (.inl hG)))),h _ (.inr (.inr (.inr (.inr rfl))))⟩
theorem newW{T:Nt}(h:∀G,NewS T G->W G):NewW T W :=
 ⟨litW fun G hG=>h _ (.inl hG),fun v x hv hx=>vlW fun G hG=>h _ (.inr (.inl ⟨v,hv,x,hx,.inl hG⟩)),fun v x hv hx=>h _ (.inr (.inl ⟨v,hv,x,hx,.inr rfl⟩)),fun k hk=>h _ (.inr (.inr ⟨k,hk,rfl⟩))⟩
theorem imgW{T:Nt}{o:No}{P:List Nat->Bool}(h:∀G,ImgS T o P G->W G):ImgW T o P W :=
 ⟨relW fun G hG=>h _ (.inl hG),h _ (.inr (.inl rfl)),fun H hH G hG=>h _ (.inr (.inr (.inl ⟨H,hH,hG⟩))),fun X hX H hH=>h _ (.inr (.inr (.inr ⟨X,hX,H,hH,rfl⟩)))⟩
theorem preW{T:Nt}{o:No}{P:List Nat->Bool}(h:∀G,PreS T o P G->W G):PreW T o P W :=
 ⟨relW fun G hG=>h _ (.inl hG),fun H hH=>h _ (.inr (.inl ⟨H,hH,rfl⟩)),h _ (.inr (.inr (.inl rfl))),fun H hH G hG=>h _ (.inr (.inr (.inr (.inl ⟨H,hH,hG⟩)))),h _ (.inr (.inr (.inr (.inr rfl))))⟩
end
theorem zTa{n N:Nat}{α:Type}{l:List α}{j:Nat}{P:α->BFn->Prop}(h:∀x,l[j]? = some x->zx n (P x) N):zx n (fun G=>∃x,l[j]? = some x/\P x G) N:=by
 cases hx:l[j]? with
 |none=>exact(zx.none n).mono (fun G ⟨x,h,_⟩=>by cases h) (Nat.zero_le _)
 |some y=>exact(h y hx).mono (fun G ⟨x,h,hP⟩=>by cases h;exact hP) (Nat.le_refl _)
section
variable {n C:Nat} (hC:∀G:BFn,zx n (fun K=>K=G) C)
include hC
end
theorem zJj{vars:List Nat}{a b:Nat->Bool}{nx:Nat}(hn:nx<2)(h:∀i,i<2*zD vars->a i=b i):rs vars a nx=rs vars b nx:=zAy fun p hp=>h _ (by omega)
theorem zJf{vars:List Nat}{P:List Nat->Bool}{a b:Nat->Bool}(h:∀i,i<2*zD vars->a i=b i):zB7 vars P a=zB7 vars P b:=by
 unfold zB7;rw[zJj (by omega) h,zEv (zJj (by omega) h)]
theorem zJq{T:Nt}{o:No}{a b:Nat->Bool}(h:∀i,i<2*zD T.vars->a i=b i):zHe T o a=zHe T o b:=by
 unfold zHe;rw[zJj (by omega) h,zJj (nx:=1) (by omega) h]
theorem zIv{T:Nt}{o:No}{P:List Nat->Bool}{a b:Nat->Bool}(h:∀i,i<2*zD T.vars->a i=b i):imA T o P a=imA T o P b:=by
 unfold imA;rw[zJf h,zJq h]
theorem zQY{x y:Bool}(h:x=true<->y=true):x=y:=by
 cases x<;>cases y<;>simp_all
theorem zTN{i:Nat->Bool}{H:BFn}(G G':BFn)(h:∀a,G a=true<->qS 1 i H a)(h':∀a,G' a=true<->qS 1 i H a):G=G':=funext fun a=>zQY ((h a).trans (h' a).symm)
end
section
open Go Go.W Go.Tk Go.Rx Go.Bd Go.Sy Go.Maps
theorem zWj{o o2:No}(h:o.effs.map skE=o2.effs.map skE)(s:List Nat):apS o s=apS o2 s:=by
 have hl:=congrArg List.length h;rw[List.length_map,List.length_map] at hl;have key:∀k,k<=o.effs.length->apK o s k=apK o2 s k:=by
  intro k hk
  induction k with
  |zero=>rfl
  |succ k ih =>
   have ih:=ih (by omega);obtain⟨e,he⟩:∃e,o.effs[k]? = some e:=⟨_,List.getElem?_eq_getElem (by omega)⟩;obtain⟨e2,JA⟩:∃e,o2.effs[k]? = some e:=⟨_,List.getElem?_eq_getElem (by omega)⟩;have hs:skE e=skE e2:=by have:=congrArg (fun l=>l[k]?) h;simpa[he,JA] using this
   unfold skE at hs;simp only[Prod.mk.injEq] at hs;rw[zB1 he,zB1 JA,ih,hs.1,hs.2.1,hs.2.2]
 unfold apS;rw[<-hl];exact key _ (Nat.le_refl _)
theorem Alk.sk{T T':Nt}(h:Alk T T'){i:Nat}{o:No}(ho:T.ops[i]? = some o):∃o',T'.ops[i]? = some o'/\o'.pre=o.pre/\(∀s,apS o' s=apS o s)/\o'.effs.length=o.effs.length:=by
 have:=congrArg (fun l=>l[i]?) h.ops;simp only[List.getElem?_map,ho,Option.map_some] at this;cases h2:T'.ops[i]? with
 |none=>rw[h2] at this;cases this
 |some o2 =>rw[h2] at this;simp only[Option.map_some,Option.some.injEq] at this;unfold skO at this;simp only[Prod.mk.injEq] at this;have hl:=congrArg List.length this.2.2.2;rw[List.length_map,List.length_map] at hl;exact⟨o2,rfl,this.2.2.1,zWj this.2.2.2,hl⟩
theorem zPy{T T':Nt}{o o':No}(h:Alk T T')(hp:o'.pre=o.pre)(hs:∀s,apS o' s=apS o s)(P:List Nat->Bool):zIO T' o' P=zIO T o P:=by
 funext s;unfold zIO;rw[h.vars,hp];simp only[hs]
theorem zJ2{o o':No}(hp:o'.pre=o.pre)(hs:∀s,apS o' s=apS o s)(P:List Nat->Bool):zFc o' P=zFc o P:=by
 funext s;unfold zFc;rw[hp,hs]
end
section
open Go Go.W Go.Tk Go.Rx Go.Bd Go.Sy Go.Maps
theorem zDR{κ α:Type}[DecidableEq κ]:∀(l:List (κ×α)) (x:κ) (v:α),zBw (zB5 l x v) x=some v:=by
 intro l x v;unfold zBw zB5;split
 ·rename_i h;rw[List.any_eq_true] at h
  induction l with
  |nil=>obtain⟨p,hp,_⟩:=h;cases hp
  |cons p l ih =>
   by_cases e:p.1=x
   ·simp[e]
   ·simp only[List.map_cons,e,if_false,List.find?_cons,decide_false];refine ih ?_;obtain⟨q,hq,JA⟩:=h;rcases List.mem_cons.1 hq with rfl|hq
    ·exact absurd (of_decide_eq_true JA) e
    ·exact⟨q,hq,JA⟩
 ·rename_i h;rw[List.find?_append];have:l.find? (fun p=>decide (p.1=x))=none:=by rw[List.find?_eq_none];intro p hp hc;exact h (List.any_eq_true.2 ⟨p,hp,hc⟩)
  rw[this];simp
theorem zE9{κ α:Type}[DecidableEq κ]{l:List (κ×α)}{x y:κ}{v:α}(h:x≠y):zBw (zB5 l x v) y=zBw l y:=by
 unfold zBw zB5;split
 ·rename_i hh;clear hh
  induction l with
  |nil=>rfl
  |cons p l ih =>
   by_cases e:p.1=x
   ·have:¬p.1=y:=fun e2=>h (by rw[<-e,e2]);simp only[List.map_cons,e,if_true,List.find?_cons,h,decide_false,this];exact ih
   ·by_cases e2:p.1=y
    ·have JA:¬y=x:=fun e=>h e.symm;simp[List.map_cons,e2,JA]
    ·simp only[List.map_cons,e,if_false,List.find?_cons,e2,decide_false];exact ih
 ·rw[List.find?_append];cases l.find? (fun p=>decide (p.1=y)) with
  |some p=>rfl
  |none=>simp[h]
section
variable {w w1:World} {F:List Nat} {B:Asr} {s m lim:Nat} {T:Nt} {q:SpC} {ns:Ns} {ks:List (Nat×Bool)} {ss:List (Nat×Nat)}
theorem zQh(h:At w F (zI s m lim T q ns ks ss B) w1):Calls Tryz.prog 80 [.pointer (some ⟨s,0,none⟩)].toArray w1 fun en w'=>∃v,en=.returned v/\v=.int .i64 (q.all:Nat)/\At w F (zI s m lim T q ns ks ss B) w':=by
 refine enter Tryz.func80 mixed low80 (Nat.le_of_ble_eq_true rfl) ?_;simp only[L80];have os:=zI.obj h;unfold spO at os;simp[zA os];exact h
theorem zQL:eB false=.nilIface:=rfl
theorem SpG.six{n:Nat}(h:n<many):zQT n=.tuple #[.int .i64 (n:Nat),.nilIface]:=by
 unfold zQT;rw[if_pos h];rfl
end
end
section
open Go Go.W Go.Tk Go.Rx Go.Bd Go.Sy Go.Maps
theorem all_nil(w:World):Calls Tryz.prog 80 [.pointer none].toArray w fun e w'=>∃x,e=.returned x/\x=.int .i64 0/\Kp [] w w':=by
 refine enter Tryz.func80 mixed low80 (Nat.le_of_ble_eq_true rfl) ?_;simp only[L80];simp;exact Kp.refl _ _
end
section
open Go Go.W Go.Tk Go.Rx Go.Bd Go.Sy Go.Maps
theorem zGK{α:Type}{l:List α}{f g:α->Bool}(h:∀x∈l,f x=g x):l.all f=l.all g:=by
 induction l with
 |nil=>rfl
 |cons x l ih=>rw[List.all_cons,List.all_cons,h x (by simp),ih fun y hy=>h y (by simp[hy])]
theorem rv_x{vars:List Nat}{a b:Nat->Bool}{v:Nat}(h:∀p,bP vars v<=p->p<bP vars v+wd (vars.getD v 0)->a (2*p)=b (2*p)):rv vars a 0 v=rv vars b 0 v:=zBj _ fun k hk=>by
 have:=h (bP vars v+k) (by omega) (by omega);simpa using this
theorem rs_x{vars:List Nat}{a b:Nat->Bool}(h:∀p,0<=p->p<0+zD vars->a (2*p)=b (2*p)):rs vars a 0=rs vars b 0:=zAy fun p hp=>by
 have:=h p (Nat.zero_le _) (by omega);simpa using this
theorem zQ0(vars:List Nat)(P:List Nat->Bool):XIn 0 (zD vars) (zB7 vars P):=fun a b h=>by
 unfold zB7;rw[rs_x h,zEv (rs_x h)]
theorem thr_x(vars:List Nat)(v x:Nat):XIn (bP vars v) (wd (vars.getD v 0)) fun a=>decide (rv vars a 0 v<x+1):=fun a b h=>congrArg (fun y=>decide (y<x+1)) (rv_x h)
theorem ctF_g(vars:List Nat)(P:List Nat->Bool):Gtd (zD vars) (ctF vars P):=by
 refine⟨fun a h p hp=>?_,fun a b h=>?_⟩
 ·unfold ctF at h;rw[Bool.and_eq_true] at h;exact zQj.1 h.2 p hp
 ·have hf:∀i,i<2*zD vars->a i=b i:=fun i hi=>by
   rcases Nat.mod_two_eq_zero_or_one i with h0|h0
   ·have:=(h (i/2) (by omega)).1;rwa[show 2*(i/2)=i by omega] at this
   ·have:=(h (i/2) (by omega)).2;rwa[show 2*(i/2)+1=i by omega] at this
  have h1:=zJf (vars:=vars) (P:=P) hf;unfold zB7 at h1;unfold ctF;rw[h1];congr 1;unfold zB;refine zGK fun j hj=>?_;have:=List.mem_range.1 hj;rw[hf (2*(0+j)+1) (by omega)]
def zT5(T:Nt)(G:BFn):Prop:=NewS T G\/∃j,j<zD T.vars/\G=zB (zD T.vars) j
def nb(T:Nt):Nat:=2*zD T.vars*(2*zD T.vars+2*zD T.vars)+(((List.range T.vars.length).map fun v=>T.vars.getD v 0*448).sum+T.vars.length*2^zD T.vars)+zD T.vars*(2*zD T.vars)
theorem zU7(n:Nat):2^wd n<=64:=by
 have:2^wd n<=2^6:=Nat.pow_le_pow_right (by omega) (zFi n);omega
end
end Go.Proofs.YtolkjbmcindhjaaGreat
section
namespace Go.Proofs.YtolkjbmcindhjaaGreat
open Go Go.W Go.Tk Go.Rx Go.Bd Go.Sy Go.Maps
abbrev Kp2:=Nat×(List Nat->Bool)
section
variable {w w1:World} {F:List Nat} {B:Asr} {s m lim N N0 c:Nat} {T:Nt} {q:SpC} {W0 W:BFn->Prop} {ps:List Kp2}
theorem zNj{ks:List (Nat×Bool)}{x z:Nat}(h:zBw ks z=some true):zBw (zB5 ks x true) z=some true:=by
 by_cases e:x=z
 ·subst e;exact zDR _ _ _
 ·rw[zE9 e];exact h
end
end Go.Proofs.YtolkjbmcindhjaaGreat
namespace Go.Proofs.YtolkjbmcindhjaaGreat
open Go Go.W Go.Tk Go.Rx Go.Bd Go.Sy Go.Maps
section
variable {w w1:World} {F:List Nat} {A B:Asr} {s m lim N N0 c:Nat} {T:Nt} {q:SpC} {W0 W:BFn->Prop} {ps:List Kp2}
end
end Go.Proofs.YtolkjbmcindhjaaGreat
end
section
namespace Go.Sy
open Go.Bd
def IvIn(s w:Nat)(G:BFn):Prop:=∀a b:Nat->Bool,(∀i,s<=i->i<s+w->a i=b i)->G a=G b
theorem zKZ{n s w N:Nat}{G:BFn}(h:IvIn s w G)(hN:2^w<=N+1):zx n (fun K=>K=G) N:=by
 refine⟨(List.range w).flatMap fun k=>(List.range (2^k)).map fun p=>fun b=>G (pfx (fun i=>p.testBit (k-1-(i-s))) (s+k) b),by have:=zEL (fun k p=>fun b=>G (pfx (fun i=>p.testBit (k-1-(i-s))) (s+k) b)) w;omega,?_⟩;rintro _ rfl t a ht ⟨b,hb⟩;have JB:∃k,k<w/\t=s+k:=by
  apply Classical.byContradiction;intro hn;apply hb;refine h _ _ fun p h1 h2=>?_;unfold pfx;by_cases h3:p<t
  ·rw[if_pos h3,if_pos h3]
  ·rw[if_neg h3,if_neg h3];by_cases h4:p=t
   ·exact absurd ⟨p-s,by omega,by omega⟩ hn
   ·rw[zR h4,zR h4]
 obtain⟨k,hk,rfl⟩:=JB;obtain⟨p,hp,JA⟩:=zDs (fun i=>a (s+i)) k;refine List.mem_flatMap.2 ⟨k,List.mem_range.2 hk,List.mem_map.2 ⟨p,List.mem_range.2 hp,funext fun c=>h _ _ fun q h1 h2=>?_⟩⟩;simp only[pfx];by_cases h3:q<s+k
 ·rw[if_pos h3,if_pos h3];have:=JA (q-s) (by omega);rw[show s+(q-s)=q by omega] at this;exact this.symm
 ·rw[if_neg h3,if_neg h3]
theorem zGy{n s NB NR:Nat}{B R:BFn}(hB:∀a b:Nat->Bool,(∀i,i<s->a i=b i)->B a=B b)(hR:∀a b:Nat->Bool,(∀i,s<=i->a i=b i)->R a=R b)
  (cB:zx n (fun K=>K=B) NB) (cR:zx n (fun K=>K=R) NR):zx n (fun K=>K=fun a=>B a&&R a) (NB+NR):=by
 obtain⟨LB,b1,b2⟩:=cB;obtain⟨LR,r1,r2⟩:=cR;refine⟨LB.map (fun K b=>K b&&R b)++LR,by rw[List.length_append,List.length_map];omega,?_⟩;rintro _ rfl t a ht hd;by_cases JB:t<s
 ·have eR:∀b,R (pfx a t b)=R b:=fun b=>hR _ _ fun i hi=>by unfold pfx;rw[if_neg (by omega)]
  refine List.mem_append_left _ (List.mem_map.2 ⟨fun b=>B (pfx a t b),b2 B rfl t a ht ?_,funext fun b=>by show(B (pfx a t b)&&R b)=(B (pfx a t b)&&R (pfx a t b));rw[eR]⟩);obtain⟨b,hb⟩:=hd;refine⟨b,fun e=>hb ?_⟩;have e:B (pfx a t (upd b t true))=B (pfx a t (upd b t false)):=e;show(B (pfx a t (upd b t true))&&R (pfx a t (upd b t true)))=(B (pfx a t (upd b t false))&&R (pfx a t (upd b t false)));rw[e,eR,eR,hR (upd b t true) (upd b t false) fun i hi=>by rw[zR (by omega),zR (by omega)]]
 ·have eB:∀b,B (pfx a t b)=B a:=fun b=>hB _ _ fun i hi=>by unfold pfx;rw[if_pos (by omega)]
  cases JA:B a with
  |false =>obtain⟨b,hb⟩:=hd;exfalso;apply hb;show(B (pfx a t (upd b t true))&&R (pfx a t (upd b t true)))=(B (pfx a t (upd b t false))&&R (pfx a t (upd b t false)));rw[eB,eB,JA];rfl
  |true =>
   have e:(fun b=>B (pfx a t b)&&R (pfx a t b))=fun b=>R (pfx a t b):=funext fun b=>by rw[eB,JA];rfl
   rw[e] at hd ⊢;exact List.mem_append_right _ (r2 R rfl t a ht hd)
theorem zCM{n:Nat}(c:Bool):zx n (fun K=>K=fun _=>c) 0:=⟨[],Nat.le_refl _,by
 rintro _ rfl t a ht ⟨b,hb⟩;exact absurd rfl hb⟩
theorem zx.list{n N:Nat}{α:Type}(P:α->BFn->Prop):∀l:List α,(∀x∈l,zx n (P x) N)->zx n (fun G=>∃x∈l,P x G) (l.length*N)
 |[],_=>(zx.none n).mono (fun G ⟨x,h,_⟩=>by cases h) (Nat.zero_le _)
 |x::l,h=>((h x (by simp)).or (zx.list P l fun y hy=>h y (by simp[hy]))).mono (fun G ⟨y,hy,e⟩=>by
   rcases List.mem_cons.1 hy with rfl|hy
   ·exact .inl e
   ·exact .inr ⟨y,hy,e⟩) (by rw[List.length_cons,Nat.succ_mul,Nat.add_comm];exact Nat.le_refl _)
def zGc(b:Nat)(D:Nat->Bool->Bool->Bool)(a:Nat->Bool):Bool:=(List.range b).all fun p=>D p (a (2*p)) (a (2*p+1))
theorem zBk{b:Nat}{D:Nat->Bool->Bool->Bool}{a:Nat->Bool}:zGc b D a=true<->∀p,p<b->D p (a (2*p)) (a (2*p+1))=true:=by
 unfold zGc;rw[List.all_eq_true];exact⟨fun h p hp=>h p (List.mem_range.2 hp),fun h p hp=>h p (List.mem_range.1 hp)⟩
def zBd(b:Nat)(G:BFn):Prop:=∃c D,∀a,G a=(c&&zGc b D a)
theorem zKY{n:Nat}(D:Nat->Bool->Bool->Bool):∀b,zx n (fun K=>K=zGc b D) (3*b)
 |0=>(zCM true).mono (fun K h=>h) (Nat.le_refl _)
 |b+1=>by
  have e:zGc (b+1) D=fun a=>zGc b D a&&D b (a (2*b)) (a (2*b+1)):=funext fun a=>by unfold zGc;rw[List.range_succ,List.all_append];simp
  rw[e];refine(zGy (s:=2*b) (NR:=3) ?_ ?_ (zKY D b) (zKZ (s:=2*b) (w:=2) ?_ (by omega))).mono (fun _ h=>h) (by omega)
  ·intro a c h;rw[Bool.eq_iff_iff,zBk,zBk];constructor<;>intro h2 p hp<;>have:=h2 p hp
   ·rwa[h _ (by omega),h _ (by omega)] at this
   ·rwa[<-h _ (by omega),<-h _ (by omega)] at this
  ·intro a c h;rw[h _ (by omega),h _ (by omega)]
  ·intro a c h;show D b (a (2*b)) (a (2*b+1))=D b (c (2*b)) (c (2*b+1));rw[h _ (by omega) (by omega),h _ (by omega) (by omega)]
theorem zBd.cov{n b:Nat}{G:BFn}(h:zBd b G):zx n (fun K=>K=G) (3*b):=by
 obtain⟨c,D,h⟩:=h;have e:G=fun a=>c&&zGc b D a:=funext h;rw[e];cases c with
 |false=>exact(zCM false).mono (fun _ h=>h) (Nat.zero_le _)
 |true=>exact zKY D b
theorem zBd.const(b:Nat)(c:Bool):zBd b fun _=>c:=⟨c,fun _ _ _=>true,fun a=>by
 have:zGc b (fun _ _ _=>true) a=true:=zBk.2 fun _ _=>rfl;rw[this,Bool.and_true]⟩
theorem zBd.and{b:Nat}{G H:BFn}(h1:zBd b G)(h2:zBd b H):zBd b fun a=>G a&&H a:=by
 obtain⟨c1,D1,e1⟩:=h1;obtain⟨c2,D2,e2⟩:=h2;refine⟨c1&&c2,fun p x y=>D1 p x y&&D2 p x y,fun a=>?_⟩;show(G a&&H a)=_;rw[e1,e2,Bool.eq_iff_iff];simp only[Bool.and_eq_true,zBk];exact⟨fun⟨⟨p1,p2⟩,q1,q2⟩=>⟨⟨p1,q1⟩,fun p hp=>⟨p2 p hp,q2 p hp⟩⟩,fun⟨⟨p1,q1⟩,h⟩=>⟨⟨p1,fun p hp=>(h p hp).1⟩,q1,fun p hp=>(h p hp).2⟩⟩
theorem zBd.all{b:Nat}{α:Type}(f:α->BFn):∀l:List α,(∀x∈l,zBd b (f x))->zBd b fun a=>l.all fun x=>f x a
 |[],_=>by simpa using zBd.const b true
 |x::l,h=>by have:=(h x (by simp)).and (zBd.all f l fun y hy=>h y (by simp[hy]));simpa using this
theorem zBd.one{b p:Nat}(hp:p<b)(f:Bool->Bool->Bool):zBd b fun a=>f (a (2*p)) (a (2*p+1)):=by
 refine⟨true,fun q x y=>decide (q≠p)||f x y,fun a=>?_⟩;rw[Bool.true_and,Bool.eq_iff_iff,zBk];constructor
 ·intro h q hq;by_cases e:q=p
  ·subst e;simp[h]
  ·simp[e]
 ·intro h;simpa using h p hp
end Go.Sy
namespace Go.Sy
open Go.Bd
def zAf(s w:Nat)(G:BFn):Prop:=∃(c:Bool) (D:Nat->Bool->Bool->Bool),∀a,G a=(c&&(List.range w).all fun p=>D p (a (2*(s+p))) (a (2*(s+p)+1)))
theorem zCV{w:Nat}{f:Nat->Bool}:((List.range w).all f)=true<->∀p,p<w->f p=true:=by
 rw[List.all_eq_true];exact⟨fun h p hp=>h p (List.mem_range.2 hp),fun h p hp=>h p (List.mem_range.1 hp)⟩
theorem zAf.eq{s w:Nat}{G H:BFn}(h:zAf s w G)(e:∀a,H a=G a):zAf s w H:=by
 obtain⟨c,D,h⟩:=h;exact⟨c,D,fun a=>by rw[e,h]⟩
theorem zAf.const(s w:Nat)(c:Bool):zAf s w fun _=>c:=⟨c,fun _ _ _=>true,fun a=>by
 have:((List.range w).all fun p=>true)=true:=zCV.2 fun _ _=>rfl;rw[this,Bool.and_true]⟩
theorem zAf.and{s w:Nat}{G H:BFn}(h1:zAf s w G)(h2:zAf s w H):zAf s w fun a=>G a&&H a:=by
 obtain⟨c1,D1,e1⟩:=h1;obtain⟨c2,D2,e2⟩:=h2;refine⟨c1&&c2,fun p x y=>D1 p x y&&D2 p x y,fun a=>?_⟩;show(G a&&H a)=_;rw[e1,e2,Bool.eq_iff_iff];simp only[Bool.and_eq_true,zCV];exact⟨fun⟨⟨p1,p2⟩,q1,q2⟩=>⟨⟨p1,q1⟩,fun p hp=>⟨p2 p hp,q2 p hp⟩⟩,fun⟨⟨p1,q1⟩,h⟩=>⟨⟨p1,fun p hp=>(h p hp).1⟩,q1,fun p hp=>(h p hp).2⟩⟩
theorem zAf.all{s w:Nat}{α:Type}(f:α->BFn):∀l:List α,(∀x∈l,zAf s w (f x))->zAf s w fun a=>l.all fun x=>f x a
 |[],_=>by simpa using zAf.const s w true
 |x::l,h=>by have:=(h x (by simp)).and (zAf.all f l fun y hy=>h y (by simp[hy]));simpa using this
theorem zAf.one{s w p:Nat}(hp:p<w)(f:Bool->Bool->Bool):zAf s w fun a=>f (a (2*(s+p))) (a (2*(s+p)+1)):=by
 refine⟨true,fun q x y=>decide (q≠p)||f x y,fun a=>?_⟩;rw[Bool.true_and,Bool.eq_iff_iff,zCV];constructor
 ·intro h q hq;by_cases e:q=p
  ·subst e;simp[h]
  ·simp[e]
 ·intro h;simpa using h p hp
theorem zAf.cov{n s w:Nat}{G:BFn}(h:zAf s w G):zx n (fun K=>K=G) (3*w):=by
 obtain⟨c,D,h⟩:=h;have e:G=fun a=>c&&(List.range w).all fun p=>D p (a (2*(s+p))) (a (2*(s+p)+1)):=funext h;rw[e];cases c with
 |false=>exact(zCM false).mono (fun _ h=>h) (Nat.zero_le _)
 |true =>
  clear e h;show zx n (fun K=>K=fun a=>(List.range w).all fun p=>D p (a (2*(s+p))) (a (2*(s+p)+1))) (3*w)
  induction w with
  |zero=>exact(zCM true).mono (fun K h=>h) (Nat.le_refl _)
  |succ w ih =>
   have e:(fun a:Nat->Bool=>(List.range (w+1)).all fun p=>D p (a (2*(s+p))) (a (2*(s+p)+1)))=fun a=>((List.range w).all fun p=>D p (a (2*(s+p))) (a (2*(s+p)+1)))&&D w (a (2*(s+w))) (a (2*(s+w)+1)):=funext fun a=>by rw[List.range_succ,List.all_append];simp
   rw[e];refine(zGy (s:=2*(s+w)) (B:=fun a=>(List.range w).all fun p=>D p (a (2*(s+p))) (a (2*(s+p)+1))) (R:=fun a=>D w (a (2*(s+w))) (a (2*(s+w)+1))) (NR:=3) ?_ ?_ ih (zKZ (s:=2*(s+w)) (w:=2) ?_ (by omega))).mono (fun _ h=>h) (by omega)
   ·intro a c h;show((List.range w).all fun p=>D p (a (2*(s+p))) (a (2*(s+p)+1)))=((List.range w).all fun p=>D p (c (2*(s+p))) (c (2*(s+p)+1)));rw[Bool.eq_iff_iff,zCV,zCV];constructor<;>intro h2 p hp<;>have:=h2 p hp
    ·rwa[h _ (by omega),h _ (by omega)] at this
    ·rwa[<-h _ (by omega),<-h _ (by omega)] at this
   ·intro a c h;show D w (a (2*(s+w))) (a (2*(s+w)+1))=D w (c (2*(s+w))) (c (2*(s+w)+1));rw[h _ (by omega),h _ (by omega)]
   ·intro a c h;show D w (a (2*(s+w))) (a (2*(s+w)+1))=D w (c (2*(s+w))) (c (2*(s+w)+1));rw[h _ (by omega) (by omega),h _ (by omega) (by omega)]
theorem zAf.pair{s w b:Nat}{G:BFn}(h:zAf s w G)(hb:s+w<=b):zBd b G:=by
 obtain⟨c,D,h⟩:=h;refine⟨c,fun p x y=>decide (p<s)||decide (s+w<=p)||D (p-s) x y,fun a=>?_⟩;rw[h,Bool.eq_iff_iff,Bool.and_eq_true,Bool.and_eq_true,zCV,zBk];constructor
 ·rintro⟨h1,h2⟩;refine⟨h1,fun p hp=>?_⟩;by_cases e1:p<s
  ·simp[e1]
  by_cases e2:s+w<=p
  ·simp[e2]
  have:=h2 (p-s) (by omega);rw[show s+(p-s)=p by omega] at this;simp[this]
 ·rintro⟨h1,h2⟩;refine⟨h1,fun p hp=>?_⟩;have:=h2 (s+p) (by omega);simpa[show ¬s+p<s by omega,show ¬s+w<=s+p by omega,show s+p-s=p by omega] using this
def zFs(W:BFn->Prop)(N:Nat):Prop:=∃L:List BFn,L.length<=N/\∀G,W G->G∈L
theorem zFs.mono{W W':BFn->Prop}{N N':Nat}(h:zFs W N)(hw:∀G,W' G->W G)(hn:N<=N'):zFs W' N':=by
 obtain⟨L,a,b⟩:=h;exact⟨L,Nat.le_trans a hn,fun G hG=>b G (hw G hG)⟩
theorem zFs.one(F:BFn):zFs (fun G=>G=F) 1:=⟨[F],Nat.le_refl _,fun G h=>by simp[h]⟩
theorem zFs.none:zFs (fun _=>False) 0:=⟨[],Nat.le_refl _,fun G h=>h.elim⟩
theorem zFs.or{W1 W2:BFn->Prop}{N1 N2:Nat}(h1:zFs W1 N1)(h2:zFs W2 N2):zFs (fun G=>W1 G\/W2 G) (N1+N2):=by
 obtain⟨L1,a1,b1⟩:=h1;obtain⟨L2,a2,b2⟩:=h2;refine⟨L1++L2,by rw[List.length_append];omega,fun G hG=>?_⟩;rcases hG with h|h
 ·exact List.mem_append_left _ (b1 G h)
 ·exact List.mem_append_right _ (b2 G h)
theorem zFs.each{c:Nat}(P:Nat->BFn->Prop):∀k,(∀i,i<k->zFs (P i) c)->zFs (fun G=>∃i,i<k/\P i G) (k*c)
 |0,_=>zFs.none.mono (fun G ⟨i,hi,_⟩=>by omega) (Nat.zero_le _)
 |k+1,h=>((zFs.each P k fun i hi=>h i (by omega)).or (h k (by omega))).mono (fun G ⟨i,hi,e⟩=>by
   by_cases hk:i=k
   ·subst hk;exact .inr e
   ·exact .inl ⟨i,by omega,e⟩) (by rw[Nat.succ_mul];exact Nat.le_refl _)
theorem zFs.cov{n N C:Nat}{W:BFn->Prop}(h:zFs W N)(hC:∀G,W G->zx n (fun K=>K=G) C):zx n W (N*C):=by
 obtain⟨L,a,b⟩:=h;refine(zx.list (n:=n) (N:=C) (fun H G=>G=H/\W H) L fun H _=>?_).mono (fun G hG=>⟨G,b G hG,rfl,hG⟩) (Nat.mul_le_mul_right _ a);by_cases hH:W H
 ·exact(hC H hH).mono (fun G h=>h.1) (Nat.le_refl _)
 ·exact(zx.none n).mono (fun G h=>hH h.2) (Nat.zero_le _)
end Go.Sy
end
namespace Go.Proofs.YtolkjbmcindhjaaGreat
section
open Go Go.W Go.Tk Go.Rx Go.Bd Go.Sy Go.Maps
theorem zU9{s w p nx:Nat}(hp:p<w)(hn:nx<2)(f:Bool->Bool):zAf s w fun a=>f (a (2*(s+p)+nx)):=by
 rcases(show nx=0\/nx=1 by omega) with rfl|rfl
 ·exact zAf.one hp fun x _=>f x
 ·exact zAf.one hp fun _ y=>f y
theorem zSd(vars:List Nat)(v x:Nat){nx:Nat}(hn:nx<2)(j:Nat):zAf (bP vars v) (wd (vars.getD v 0)) (vlB vars v x nx j) :=
 zAf.all (fun i a=>decide (a (2*(bP vars v+(j+i))+nx)=x.testBit (wd (vars.getD v 0)-1-(j+i)))) _ fun i hi=>by have:=List.mem_range.1 hi;exact zU9 (by omega) hn fun y=>decide (y=x.testBit (wd (vars.getD v 0)-1-(j+i)))
theorem pl_rv(vars:List Nat)(v x:Nat){nx:Nat}(hn:nx<2):zAf (bP vars v) (wd (vars.getD v 0)) fun a=>decide (rv vars a nx v=x):=by
 by_cases hx:x<2^wd (vars.getD v 0)
 ·exact(zSd vars v x hn 0).eq fun a=>(zL5 hx).symm
 ·exact(zAf.const _ _ false).eq fun a=>decide_eq_false fun e=>hx (by rw[<-e];exact zK9 _ _ _ _)
theorem zU8(vars:List Nat)(v j:Nat):zAf (bP vars v) (wd (vars.getD v 0)) (saB vars v j) :=
 zAf.all (fun i a=>decide (a (2*(bP vars v+(j+i)))=a (2*(bP vars v+(j+i))+1))) _ fun i hi=>by have:=List.mem_range.1 hi;exact zAf.one (by omega) fun x y=>decide (x=y)
theorem zWe{vars:List Nat}{v:Nat}(hv:v<vars.length):bP vars v+wd (vars.getD v 0)<=zD vars:=by
 have hn:vars[v]? = some (vars.getD v 0):=by simp[List.getD,List.getElem?_eq_getElem hv]
 have h2:=zC4 hn;have h3:=zAl (vars:=vars) (show v+1<=vars.length by omega);rw[zBn] at h3;omega
theorem zVA{vars:List Nat}{l:List Go.Tk.Fc}(hr:∀f∈l,f.1<vars.length)(j:Nat):zBd (zD vars) (fcB vars l j) :=
 zBd.all (fun(f:Go.Tk.Fc) a=>decide (rv vars a 0 f.1=f.2)) _ fun f hf=>(pl_rv vars f.1 f.2 (by omega)).pair (zWe (hr f (List.mem_of_mem_drop hf)))
theorem finVl(vars:List Nat)(v x nx:Nat):zFs (VlS vars v x nx) 6:=((zFs.each (fun j G=>G=vlB vars v x nx j) _ fun j _=>zFs.one _).mono (fun _ h=>h) (by have:=zFi (vars.getD v 0);omega))
def zIH(T:Nt)(o:No)(G:BFn):Prop:=(∃v,v<T.vars.length/\ChS T.vars o v G)\/((∃j,j<T.vars.length/\G=rlB T o j)\/zWq T.vars o.pre G\/G=fun a=>hdB (rs T.vars a 0) o.pre&&rlB T o 0 a)
end
end Go.Proofs.YtolkjbmcindhjaaGreat
namespace Go.Rx
section
def LA(f:Nat):Int:=if f<4 then(f:Int) else -1
end
end Go.Rx
section
namespace Go.Rx
open Go Go.W Go.Tk
def prL:List Nat->Nat
 |[]=>1
 |x::l=>x*prL l
theorem zJ3:∀(l:List Nat) (x:Nat),prL (l++[x])=prL l*x
 |[],x=>by simp[prL]
 |y::l,x=>by simp only[List.cons_append,prL,zJ3 l x,Nat.mul_assoc]
theorem zND:∀(vars:List Nat) (n:Nat),(∀v∈vars,1<=v)->zE1 512 n (vars.map iN)<=512->∀k,n*prL (vars.take k)<=512
 |[],n,_,h,k=>by simpa[zE1,prL] using h
 |x::l,n,hx,h,k=>by
  have h1:=hx x (by simp);simp only[List.map_cons,zE1] at h;split at h
  ·omega
  ·rename_i JA;have e:(iN x).toNat=x:=by simp[iN]
   rw[e] at JA h;have JA:n*min x (512+1)<=512:=by omega
   cases k with
   |zero =>have:=Nat.mul_le_mul_left n (show 1<=min x (512+1) by omega);simp[prL];omega
   |succ k =>
    rcases Nat.eq_zero_or_pos n with rfl|hn
    ·simp
    have hm:min x (512+1)=x:=by
     rcases Nat.le_total x 513 with h2|h2
     ·omega
     ·have:min x (512+1)=513:=by omega
      rw[this] at JA;omega
    rw[hm] at h;have:=zND l (n*x) (fun v hv=>hx v (by simp[hv])) h k;simpa[List.take_succ_cons,prL,Nat.mul_assoc] using this
structure SmT(T:Nt):Prop where
 g:NtG T
 good:zAp T.raw=true
 vl:T.vars.length<=12
 ol:T.ops.length<=20
 el:∀o∈T.ops,o.effs.length<=8
 pr:∀k,prL (T.vars.take k)<=512
 nm:∀o∈T.ops,o.name.size<=9223372036854775807
theorem zMO{t:Tk}(hl:TkL t)(h:zBU t=true):∃T:Nt,T.raw=t/\SmT T:=by
 unfold zBU at h;simp only[Bool.and_eq_true,decide_eq_true_eq] at h;obtain⟨⟨⟨⟨h1,h2⟩,h3⟩,h4⟩,h5⟩:=h;obtain⟨T,rfl,hg⟩:=zP5 h4;rw[List.all_eq_true] at h3;refine⟨T,rfl,hg,h4,by simpa[Nt.raw] using h1,by simpa[Nt.raw] using h2,fun o ho=>?_,fun k=>?_,fun o ho=>?_⟩
 ·have:=h3 o.raw (List.mem_map.2 ⟨o,ho,rfl⟩);simpa[No.raw] using this
 ·have:=zND T.vars 1 (fun v hv=>(hg.vars v hv).1) h5 k;simpa using this
 ·exact(hl.op o.raw (List.mem_map.2 ⟨o,ho,rfl⟩)).1
end Go.Rx
namespace Go.Proofs.YtolkjbmcindhjaaGreat
open Go Go.W Go.Tk Go.Rx Go.Maps
theorem zGP{vars:List Nat}:∀k,k<=vars.length->(zAs vars k).length=prL (vars.take k)
 |0,_=>by simp[zAs,prL]
 |k+1,hk=>by
  obtain⟨n,hn⟩:∃n,vars[k]? = some n:=⟨_,List.getElem?_eq_getElem (by omega)⟩;have key:∀(l:List (List Nat)),(l.flatMap (zCZ (vars.getD k 0))).length=l.length*vars.getD k 0:=by
   intro l
   induction l with
   |nil=>simp
   |cons a l ih=>rw[List.flatMap_cons,List.length_append,ih,zEP,List.length_cons,Nat.add_mul];omega
  have e:zAs vars (k+1)=(zAs vars k).flatMap (zCZ (vars.getD k 0)):=rfl;rw[z6 hn,zJ3,<-zGP k (by omega),e,key];simp[List.getD,hn]
theorem SmT.sts{T:Nt}(h:SmT T):∀k,k<=T.vars.length->(zAs T.vars k).length<=10000:=fun k hk=>by
 rw[zGP k hk];have:=h.pr k;omega
end Go.Proofs.YtolkjbmcindhjaaGreat
end
namespace Go.Proofs.YtolkjbmcindhjaaGreat
section
open Go Go.W Go.Tk Go.Rx Go.Maps
section
variable {w:World} {b:Nat} {T:Nt} {U:List Un}
end
theorem lone{α:Type}{enc:α->List Value}{v:Value}{l:List α}{X:Asr}(ho:zAn v=true):Imp (zC (VwA v enc l) X) (zC (zZ enc [((⟨v,ho⟩,l):zP×List α)]) X):=by
 rintro w F ⟨Fa,Fb,⟨h1,e1,h2⟩,h3,hd,rfl⟩;exact⟨_,⟨Fa,Fb,⟨fun p hp=>by simp at hp;subst hp;exact h1,fun x hx=>h2 x (by rw[<-e1];exact hx),by simpa using e1⟩,h3,hd,rfl⟩,fun x hx=>hx⟩
end
section
open Go Go.W Go.Tk Go.Rx Go.Maps
theorem zF1(T:Nt):T.raw.vv=T.vv:=rfl
theorem zMj(T:Nt):T.raw.nv=T.nv:=rfl
theorem zMk(T:Nt):T.raw.gv=T.gv:=rfl
theorem zF2(T:Nt):T.raw.ov=T.ov:=rfl
end
section
open Go Go.W Go.Tk Go.Rx Go.Bd Go.Sy Go.Maps
def zKp(w0:World):Asr:=fun w F=>F=List.range w0.heap.size/\Kp [] w0 w
theorem zKp.lcl{w0:World}:Lcl (zKp w0):=by
 refine⟨?_,?_⟩
 ·rintro w F ⟨rfl,k⟩ x hx;have:=List.mem_range.1 hx;have:=k.size;omega
 ·rintro w F G w' ⟨rfl,k⟩ hk hG;exact⟨rfl,k.trans' hk fun x hx=>by
   by_cases h:x<w0.heap.size
   ·exact absurd hx (hG x (List.mem_range.2 h))
   ·exact .inr (by omega)⟩
theorem zKp.start(w:World):At w (List.range w.heap.size) (zKp w) w:=At.start ⟨rfl,Kp.refl _ _⟩
theorem zKp.rds{w0:World}{P:World->Prop}(h:∀w',Kp [] w0 w'->P w'):Rds (zKp w0) P:=fun w' F hs=>h w' hs.2
theorem zU2{w:World}{b:Nat}{T:Nt}(h:w.heap[b]? = some (ntO T)):zK w ⟨b,0,none⟩ 0 4=some [T.vv.1,T.nv.1,T.gv.1,T.ov.1]:=by
 unfold ntO at h;simp[zK,Addr.add,zA h]
end
section
open Go Go.W Go.Tk Go.Rx Go.Bd Go.Sy Go.Maps
theorem wd_a:∀n,n<65->1<=n->2^(180*wd n+4*n)<=n^240*2^4:=by decide +kernel
theorem wd_b:∀n,n<65->1<=n->2^(10*wd n)<=n^13:=by decide +kernel
theorem bs_a:∀l:List Nat,(∀n∈l,1<=n/\n<=64)->2^(180*zD l+4*l.sum)<=prL l^240*2^(4*l.length)
 |[],_=>by simp[zD,prL]
 |n::l,h=>by
  have ih:=bs_a l fun m hm=>h m (by simp[hm]);have hn:=h n (by simp);have h1:=wd_a n (by omega) hn.1;have e1:180*zD (n::l)+4*(n::l).sum=(180*wd n+4*n)+(180*zD l+4*l.sum):=by unfold zD;simp only[List.map_cons,List.sum_cons];omega
  have e2:4*(n::l).length=4+4*l.length:=by simp only[List.length_cons];omega
  rw[e1,e2,Nat.pow_add,Nat.pow_add 2 4];show _<=(n*prL l)^240*_;rw[Nat.mul_pow]
  calc _<=(n^240*2^4)*(prL l^240*2^(4*l.length)):=Nat.mul_le_mul h1 ih
   _=n^240*prL l^240*(2^4*2^(4*l.length)):=by simp only[Nat.mul_assoc,Nat.mul_left_comm (2^4)]
theorem bs_b:∀l:List Nat,(∀n∈l,1<=n/\n<=64)->2^(10*zD l)<=prL l^13
 |[],_=>by simp[zD,prL]
 |n::l,h=>by
  have ih:=bs_b l fun m hm=>h m (by simp[hm]);have hn:=h n (by simp);have h1:=wd_b n (by omega) hn.1;have e1:10*zD (n::l)=10*wd n+10*zD l:=by unfold zD;simp only[List.map_cons,List.sum_cons];omega
  rw[e1,Nat.pow_add];show _<=(n*prL l)^13;rw[Nat.mul_pow];exact Nat.mul_le_mul h1 ih
theorem zUp{T:Nt}(hT:SmT T):zD T.vars<=11/\180*zD T.vars+4*T.vars.sum<=2208:=by
 have hp:prL T.vars<=512:=by have:=hT.pr T.vars.length;rwa[List.take_length] at this
 have h1:=bs_a T.vars hT.g.vars;have h2:=bs_b T.vars hT.g.vars;have h3:prL T.vars^240<=512^240:=Nat.pow_le_pow_left hp _;have h4:prL T.vars^13<=512^13:=Nat.pow_le_pow_left hp _;obtain⟨E,hE⟩:∃E,E=9*240:=⟨_,rfl⟩;have e3:(512:Nat)^240=2^E:=by rw[show(512:Nat)=2^9 from rfl,<-Nat.pow_mul,hE]
 have e4:(512:Nat)^13=2^(9*13):=by rw[show(512:Nat)=2^9 from rfl,<-Nat.pow_mul]
 rw[e3] at h3;rw[e4] at h4;have h5:10*zD T.vars<=9*13:=(Nat.pow_le_pow_iff_right (by omega)).1 (Nat.le_trans h2 h4);have h6:180*zD T.vars+4*T.vars.sum<=E+4*T.vars.length:=by refine(Nat.pow_le_pow_iff_right (a:=2) (by omega)).1 (Nat.le_trans h1 ?_);rw[Nat.pow_add 2 E];exact Nat.mul_le_mul_right _ h3
 have:=hT.vl;omega
theorem zJb(l:List Nat):∀k,k<=l.length->((List.range k).map fun v=>l.getD v 0).sum=(l.take k).sum
 |0,_=>by simp
 |k+1,h=>by have ih:=zJb l k (by omega);rw[List.range_succ,List.map_append,List.sum_append,ih,List.take_add_one,List.getElem?_eq_getElem (show k<l.length by omega),List.sum_append];simp[List.getD,List.getElem?_eq_getElem (show k<l.length by omega)]
theorem zME(f:Nat->Nat)(c:Nat):∀l:List Nat,(l.map fun v=>f v*c).sum=(l.map f).sum*c
 |[]=>by simp
 |v::l=>by simp only[List.map_cons,List.sum_cons,zME f c l,Nat.add_mul]
end
section
open Go Go.W Go.Tk Go.Rx Go.Bd Go.Sy Go.Maps
theorem zDV{vars:List Nat}:∀k,k<=vars.length->∀p,p<bP vars k->∃v j,v<k/\j<wd (vars.getD v 0)/\p=bP vars v+j
 |0,_,p,h=>by unfold bP at h;simp at h
 |k+1,hk,p,h=>by
  have hn:vars[k]? = some (vars.getD k 0):=by simp[List.getD,List.getElem?_eq_getElem (show k<vars.length by omega)]
  rw[zC4 hn] at h;by_cases hp:p<bP vars k
  ·obtain⟨v,j,h1,h2,h3⟩:=zDV k (by omega) p hp;exact⟨v,j,by omega,h2,h3⟩
  ·exact⟨k,p-bP vars k,by omega,by omega,by omega⟩
theorem zGF{n:Nat}(vars:List Nat)(B:Nat->BFn)(N:Nat->Nat)(hB:∀v,v<vars.length->IvIn (2*bP vars v) (2*wd (vars.getD v 0)) (B v))(hN:∀v,v<vars.length->zx n (fun K=>K=B v) (N v)) :
  ∀k,k<=vars.length->zx n (fun K=>K=fun a=>(List.range k).all fun v=>B v a) ((List.range k).map N).sum
 |0,_=>(zCM true).mono (fun K h=>h) (Nat.zero_le _)
 |k+1,hk=>by
  have e:(fun a=>(List.range (k+1)).all fun v=>B v a)=fun a=>((List.range k).all fun v=>B v a)&&B k a:=funext fun a=>by rw[List.range_succ,List.all_append];simp
  rw[e,List.range_succ,List.map_append,List.sum_append];have e2:([k].map N).sum=N k:=by simp
  rw[e2];refine zGy (s:=2*bP vars k) (B:=fun a=>(List.range k).all fun v=>B v a) (R:=B k) (fun a b h=>?_) (fun a b h=>hB k (by omega) a b fun i h1 h2=>h i h1) (zGF vars B N hB hN k (by omega)) (hN k (by omega));refine zGK fun v hv=>?_;have hv:=List.mem_range.1 hv;refine hB v (by omega) a b fun i h1 h2=>h i ?_;have hn:vars[v]? = some (vars.getD v 0):=by simp[List.getD,List.getElem?_eq_getElem (show v<vars.length by omega)]
  have h3:=zC4 hn;have h4:=zAl (vars:=vars) (show v+1<=k by omega);omega
theorem zMG(f g:Nat->Nat):∀k,(∀v,v<k->f v<=g v)->((List.range k).map f).sum<=((List.range k).map g).sum
 |0,_=>by simp
 |k+1,h=>by have:=zMG f g k fun v hv=>h v (by omega);have:=h k (by omega);rw[List.range_succ,List.map_append,List.sum_append,List.map_append,List.sum_append];simp;omega
theorem zUW{n:Nat}(h:1<=n):2^wd n<=n*2:=by
 by_cases h0:wd n=0
 ·rw[h0];omega
 ·have:=zUV (n:=n) (w:=wd n-1) (by omega);have e:2^wd n=2^(wd n-1)*2:=by rw[<-Nat.pow_succ];congr 1;omega
  omega
theorem zPA(l:List Nat)(k:Nat):(l.take k).sum<=l.sum:=by
 have:(l.take k).sum+(l.drop k).sum=l.sum:=by rw[<-List.sum_append,List.take_append_drop]
 omega
theorem zMF{vars:List Nat}{f:Nat->Nat}{c:Nat}(h:∀v,v<vars.length->f v<=vars.getD v 0*c){k:Nat}(hk:k<=vars.length):((List.range k).map f).sum<=vars.sum*c:=by
 refine Nat.le_trans (zMG f (fun v=>vars.getD v 0*c) k fun v hv=>h v (by omega)) ?_;rw[zME (fun v=>vars.getD v 0),zJb _ _ hk];exact Nat.mul_le_mul_right _ (zPA _ _)
theorem rv_iv(vars:List Nat)(v:Nat):∀a b:Nat->Bool,(∀i,2*bP vars v<=i->i<2*bP vars v+2*wd (vars.getD v 0)->a i=b i)->rv vars a 0 v=rv vars b 0 v:=fun a b h=>rv_x fun p h1 h2=>h _ (by omega) (by omega)
theorem zTc{n:Nat}{vars:List Nat}(h1:∀m∈vars,1<=m/\m<=64){k:Nat}(hk:k<=vars.length):zx n (fun K=>K=okP vars k) (vars.sum*2):=by
 refine(zGF vars (fun v a=>decide (rv vars a 0 v<vars.getD v 0)) (fun v=>2^wd (vars.getD v 0)) (fun v hv a b h=>by show decide (rv vars a 0 v<vars.getD v 0)=decide (rv vars b 0 v<vars.getD v 0);rw[rv_iv vars v a b h]) (fun v hv=>zWF (s:=bP vars v) (w:=wd (vars.getD v 0)) fun a b h=>congrArg (fun y=>decide (y<vars.getD v 0)) (rv_x h)) k hk).mono (fun _ h=>h) (zMF (fun v hv=>zUW (h1 _ (by simp[List.getD,List.getElem?_eq_getElem hv])).1) hk)
def nbL(T:Nt):Nat:=2*zD T.vars*2+(T.vars.sum*172+T.vars.length*(T.vars.sum*2))+zD T.vars*(3*zD T.vars)
theorem zQQ{T:Nt}(h1:∀m∈T.vars,1<=m/\m<=64):zx (2*zD T.vars) (zT5 T) (nbL T):=by
 unfold nbL;refine zx.or (((?_:zx _ (LitS T.vars) _).or (zx.or (N2:=T.vars.length*(T.vars.sum*2)) ((zx.sum _ (fun v=>T.vars.getD v 0*172) _ fun v hv=>?_).mono (N':=T.vars.sum*172) (fun _ h=>h) (zMF (fun v hv=>Nat.le_refl _) (Nat.le_refl _))) (zx.eachW (fun k G=>G=okP T.vars (k+1)) _ fun k hk=>zTc h1 (by omega))))) (zx.eachW (fun j G=>G=zB (zD T.vars) j) _ fun j _=>?_)
 ·refine zx.eachW _ _ fun i hi=>(zx.or (N1:=1) (N2:=1) (zKZ (s:=i) (w:=1) (fun a b h=>?_) (by omega)) (zKZ (s:=i) (w:=1) (fun a b h=>?_) (by omega)))
  ·exact h i (by omega) (by omega)
  ·exact congrArg (fun x=>!x) (h i (by omega) (by omega))
 ·refine zx.eachW (fun x G=>VlS T.vars v x 0 G\/G=fun a=>decide (rv T.vars a 0 v<x+1)) _ fun x _=>zx.or (N1:=108) ?_ ((zWF (thr_x T.vars v x)).mono (fun _ h=>h) (zU7 _));refine(finVl T.vars v x 0).cov (C:=18) fun G hG=>?_;obtain⟨j,hj,rfl⟩:=hG;exact(zSd T.vars v x (by omega) j).cov.mono (fun _ h=>h) (by have:=zFi (T.vars.getD v 0);omega)
 ·exact(zBd.cov (b:=zD T.vars) (zBd.all (fun i a=>!a (2*(j+i)+1)) _ fun i hi=>zBd.one (p:=j+i) (by have:=List.mem_range.1 hi;omega) fun _ y=>!y))
end
end Go.Proofs.YtolkjbmcindhjaaGreat
