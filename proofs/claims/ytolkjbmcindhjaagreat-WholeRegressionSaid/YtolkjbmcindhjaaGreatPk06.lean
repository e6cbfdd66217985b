/-
  Parts of the proof of this claim's statement; no conditions beyond those each theorem names.
-/
import Derived.Test.YtolkjbmcindhjaaGreatPk05
import Derived.Test.YtolkjbmcindhjaaGreatPk01
import Derived.Test.YtolkjbmcindhjaaGreatPk04
set_option maxRecDepth 100000
set_option linter.unusedSimpArgs false
set_option linter.unusedVariables false
set_option linter.unusedSectionVars false
set_option maxHeartbeats 8000000
section
namespace Go.W
open Go
section
variable {α:Type} {enc:α->List Value} {E sz:Nat} {B X Y:Asr} {w w1:World} {F:List Nat}
end
section
variable {α:Type} {enc:α->List Value} {E E2:Nat} {B:Asr} {w w1:World} {F:List Nat} {v:Value} {ps:List (zP×List α)}
end
end Go.W
namespace Go.W
open Go
section
variable {α:Type} {enc:α->List Value} {E E2:Nat} {B X:Asr} {w w1:World} {F:List Nat} {v:Value} {ps:List (zP×List α)}
theorem Imp.as{A B C:Asr}:Imp (zC (zC A B) C) (zC A (zC B C)):=fun w F h=>zC.assoc h
theorem Imp.em{X:Asr}:Imp X (zC Emp X):=fun w F h=>⟨[]++F,⟨[],F,Eq.refl _,h,by simp,Eq.refl _⟩,fun x hx=>by simpa using hx⟩
end
end Go.W
namespace Go.W
open Go
theorem Imp.ow{α:Type}{v:Value}{E sz:Nat}{enc:α->List Value}{l:List α}{X:Asr}:Imp (zC (zM v E sz enc l) X) (zC (VwA v enc l) X):=by
 rintro w F ⟨Fa,Fb,⟨h1,e1⟩,h2,hd,e⟩;subst e e1;refine⟨_,⟨v.own,Fb,⟨h1.vw,Eq.refl _,fun x hx=>?_⟩,h2,hd,Eq.refl _⟩,fun x hx=>hx⟩;rcases h1 with⟨rfl,_⟩|⟨g,cap,cur,junk,rfl,hh,_⟩
 ·cases hx
 ·simp at hx;subst hx;exact zS hh
end Go.W
namespace Go.W
variable {X:Asr}
theorem Imp.fr2{A1 A2:Asr}:Imp (zC A1 (zC A2 X)) (zC A2 (zC A1 X)):=Imp.sw
theorem Imp.bk2{A1 A2:Asr}:Imp (zC A1 (zC A2 X)) (zC A2 (zC A1 X)):=Imp.sw
theorem Imp.fr3{A1 A2 A3:Asr}:Imp (zC A1 (zC A2 (zC A3 X))) (zC A3 (zC A1 (zC A2 X))):=(Imp.un Imp.fr2).trans Imp.sw
theorem Imp.bk3{A1 A2 A3:Asr}:Imp (zC A1 (zC A2 (zC A3 X))) (zC A2 (zC A3 (zC A1 X))):=Imp.sw.trans (Imp.un Imp.bk2)
theorem Imp.fr4{A1 A2 A3 A4:Asr}:Imp (zC A1 (zC A2 (zC A3 (zC A4 X)))) (zC A4 (zC A1 (zC A2 (zC A3 X)))):=(Imp.un Imp.fr3).trans Imp.sw
theorem Imp.bk4{A1 A2 A3 A4:Asr}:Imp (zC A1 (zC A2 (zC A3 (zC A4 X)))) (zC A2 (zC A3 (zC A4 (zC A1 X)))):=Imp.sw.trans (Imp.un Imp.bk3)
theorem Imp.fr5{A1 A2 A3 A4 A5:Asr}:Imp (zC A1 (zC A2 (zC A3 (zC A4 (zC A5 X))))) (zC A5 (zC A1 (zC A2 (zC A3 (zC A4 X))))):=(Imp.un Imp.fr4).trans Imp.sw
theorem Imp.bk5{A1 A2 A3 A4 A5:Asr}:Imp (zC A1 (zC A2 (zC A3 (zC A4 (zC A5 X))))) (zC A2 (zC A3 (zC A4 (zC A5 (zC A1 X))))):=Imp.sw.trans (Imp.un Imp.bk4)
theorem Imp.fr6{A1 A2 A3 A4 A5 A6:Asr}:Imp (zC A1 (zC A2 (zC A3 (zC A4 (zC A5 (zC A6 X)))))) (zC A6 (zC A1 (zC A2 (zC A3 (zC A4 (zC A5 X)))))):=(Imp.un Imp.fr5).trans Imp.sw
theorem Imp.bk6{A1 A2 A3 A4 A5 A6:Asr}:Imp (zC A1 (zC A2 (zC A3 (zC A4 (zC A5 (zC A6 X)))))) (zC A2 (zC A3 (zC A4 (zC A5 (zC A6 (zC A1 X)))))):=Imp.sw.trans (Imp.un Imp.bk5)
theorem Imp.fr7{A1 A2 A3 A4 A5 A6 A7:Asr}:Imp (zC A1 (zC A2 (zC A3 (zC A4 (zC A5 (zC A6 (zC A7 X))))))) (zC A7 (zC A1 (zC A2 (zC A3 (zC A4 (zC A5 (zC A6 X))))))):=(Imp.un Imp.fr6).trans Imp.sw
theorem Imp.bk7{A1 A2 A3 A4 A5 A6 A7:Asr}:Imp (zC A1 (zC A2 (zC A3 (zC A4 (zC A5 (zC A6 (zC A7 X))))))) (zC A2 (zC A3 (zC A4 (zC A5 (zC A6 (zC A7 (zC A1 X))))))):=Imp.sw.trans (Imp.un Imp.bk6)
theorem Imp.fr8{A1 A2 A3 A4 A5 A6 A7 A8:Asr}:Imp (zC A1 (zC A2 (zC A3 (zC A4 (zC A5 (zC A6 (zC A7 (zC A8 X)))))))) (zC A8 (zC A1 (zC A2 (zC A3 (zC A4 (zC A5 (zC A6 (zC A7 X)))))))):=(Imp.un Imp.fr7).trans Imp.sw
theorem Imp.bk8{A1 A2 A3 A4 A5 A6 A7 A8:Asr}:Imp (zC A1 (zC A2 (zC A3 (zC A4 (zC A5 (zC A6 (zC A7 (zC A8 X)))))))) (zC A2 (zC A3 (zC A4 (zC A5 (zC A6 (zC A7 (zC A8 (zC A1 X)))))))):=Imp.sw.trans (Imp.un Imp.bk7)
theorem Imp.fr9{A1 A2 A3 A4 A5 A6 A7 A8 A9:Asr}:Imp (zC A1 (zC A2 (zC A3 (zC A4 (zC A5 (zC A6 (zC A7 (zC A8 (zC A9 X))))))))) (zC A9 (zC A1 (zC A2 (zC A3 (zC A4 (zC A5 (zC A6 (zC A7 (zC A8 X))))))))):=(Imp.un Imp.fr8).trans Imp.sw
theorem Imp.fr10{A1 A2 A3 A4 A5 A6 A7 A8 A9 AA:Asr}:Imp (zC A1 (zC A2 (zC A3 (zC A4 (zC A5 (zC A6 (zC A7 (zC A8 (zC A9 (zC AA X)))))))))) (zC AA (zC A1 (zC A2 (zC A3 (zC A4 (zC A5 (zC A6 (zC A7 (zC A8 (zC A9 X)))))))))):=(Imp.un Imp.fr9).trans Imp.sw
end Go.W
namespace Go.W
open Go Go.Maps
section
variable {κ:Type} [DecidableEq κ] {ek:κ->Value} {ok:κ->Prop} {P:Program} {k e t:TypeId} {w:World}
end
end Go.W
namespace Go.W
end Go.W
end
namespace Go.Proofs.YtolkjbmcindhjaaGreat
section
open Go Go.W Go.Tk Go.Rx
theorem zQw{v:Value}{α:Type}{enc:α->List Value}{l:List α}{w:World}(h:Vw w v enc l):(v=.slice none 0 0/\l=[])\/∃a cap,v=.slice (some a) l.length cap:=by
 rcases h with h|⟨a,cap,rfl,_⟩
 ·exact .inl h
 ·exact .inr ⟨a,cap,rfl⟩
theorem zFJ{w:World}(v:Value)(l:List Nat)(hv:Vw w v nE l)(hl:l.length<=1000000) :
  Calls Tryz.prog 51 [v].toArray w fun e w'=>∃u,e=.returned u/\Nw w w' u 3 1 nE l:=by
 refine enter Tryz.func51 mixed low51 (Nat.le_of_ble_eq_true rfl) ?_;simp only[L51];have h0:At w [] Emp w:=At.start rfl;rcases zQw hv with⟨rfl,rfl⟩|⟨a,cap,rfl⟩
 ·simp;exact Nw.of (At.nil (E:=3) (sz:=1) (enc:=nE) .emp h0)
 ·simp[zW];have h1:=h0.lit (xs:=([]:List Nat)) (enc:=nE) (E:=3) (sz:=1) (cs:=#[]) (m:=0) .emp (by simp) zi (by simp[maxLen]) rfl;refine At.appendV (xs:=l) .emp h1 (hv.kp0 ((Kp.refl [] w).alloc _)) zi zA5 zCB (by simp;omega) (by simp;unfold maxLen;omega) fun v' w2 h2=>?_;simp;exact Nw.of (by simpa using h2)
theorem zAS{w:World}(v:Value)(l:List Fc)(hv:Vw w v fcE l)(hl:l.length<=1000000) :
  Calls Tryz.prog 58 [v].toArray w fun e w'=>∃u,e=.returned u/\Nw w w' u 100 2 fcE l:=by
 refine enter Tryz.func58 mixed low58 (Nat.le_of_ble_eq_true rfl) ?_;simp only[L58];have h0:At w [] Emp w:=At.start rfl;rcases zQw hv with⟨rfl,rfl⟩|⟨a,cap,rfl⟩
 ·simp;exact Nw.of (At.nil (E:=100) (sz:=2) (enc:=fcE) .emp h0)
 ·simp[zW];have h1:=h0.lit (xs:=([]:List Fc)) (enc:=fcE) (E:=100) (sz:=2) (cs:=#[]) (m:=0) .emp (by simp) zC1 (by simp[maxLen]) rfl;refine At.appendV (xs:=l) .emp h1 (hv.kp0 ((Kp.refl [] w).alloc _)) zC1 zNr zK7 (by simp;omega) (by simp;unfold maxLen;omega) fun v' w2 h2=>?_;simp;exact Nw.of (by simpa using h2)
theorem zAM{w:World}{v:Value}{l:List Nat}{k x:Nat}(h:Vw w v nE l)(hx:l[k]? = some x):w.cell? (v.adr.add k)=some (.int .i64 (x:Nat)):=by
 simpa using h.at_ zi hx (o:=0) (u:=.int .i64 (x:Nat)) rfl
def fcV(f:Fc):Value:=.agg #[.int .i64 (f.1:Nat),.int .i64 (f.2:Nat)]
end
section
open Go Go.W Go.Tk Go.Rx
structure Ru where
 u:Un
 nv:zP
end
end Go.Proofs.YtolkjbmcindhjaaGreat
namespace Go.Tk
section
open Go Go.W
theorem zPT{vars:List Int}{l:List Fa}(hv:∀n∈vars,0<=n)(h:zAQ vars l=true):l.length<=vars.length:=by
 have hn:vars=(vars.map Int.toNat).map iN:=by
  rw[List.map_map]
  conv=>lhs;rw[<-List.map_id vars]
  exact List.map_congr_left fun n JA=>by have:=hv n JA;simp[iN];omega
 obtain⟨m,hm,ok⟩:=zDH hn h;have:=ok.len;have:=congrArg List.length hm;simp at *
 omega
theorem zKc(t:Tk):zLw t=none<->zAp t=true:=by
 have hc:∀{vars:List Int},vars.all varB=true->∀n∈vars,0<=n:=fun h n hn=>by have:=List.all_eq_true.1 h n hn;simp[varB] at this;omega
 constructor
 ·intro h;unfold zLw at h;split at h;· cases h
  rename_i e1;split at h;· cases h
  rename_i e2;split at h;· cases h
  rename_i e3;split at h;· cases h
  rename_i e4;split at h;· cases h
  rename_i e5;split at h;· cases h
  rename_i e6;split at h;· cases h
  rename_i e7;simp only[Bool.not_eq_true,Bool.not_eq_false] at e1 e2 e3 e4 e5 e6 e7;unfold zAr at e1;simp only[Bool.not_eq_false',Bool.and_eq_true,decide_eq_true_eq] at e1;obtain⟨⟨⟨l1,l2⟩,l3⟩,l4⟩:=e1;rw[List.all_eq_true] at l3 e3 e5 e6 e7;have hg:zAQ t.vars t.goal=true:=e5 (t.gv,t.goal) (by simp[zAX]);have ho:t.ops.all (opB t.vars)=true:=by
   rw[List.all_eq_true];intro o ho;have a1:=e3 o ho;have a2:=e7 o ho;have a3:=l3 o ho;have a4:zAQ t.vars o.pre=true:=e5 (o.pv,o.pre) (by unfold zAX;exact List.mem_cons_of_mem _ (List.mem_flatMap.2 ⟨o,ho,by simp[zBQ]⟩));have a5:o.effs.all (zLv t.vars)=true:=by rw[List.all_eq_true];intro e he;have b1:=List.all_eq_true.1 (e6 o ho) e he;have b2:zAQ t.vars e.cnd=true:=e5 (e.wv,e.cnd) (by unfold zAX;exact List.mem_cons_of_mem _ (List.mem_flatMap.2 ⟨o,ho,by unfold zBQ;exact List.mem_cons_of_mem _ (List.mem_map.2 ⟨e,he,rfl⟩)⟩));simp[zLv,b1,b2]
   simp only[Bool.and_eq_true,decide_eq_true_eq] at a1 a3;simp only[opB,a2,a4,a5,Bool.and_true,Bool.and_eq_true,decide_eq_true_eq];exact⟨a1,a3⟩
  simp only[zAp,e2,e4,hg,ho,Bool.and_true,Bool.and_eq_true,decide_eq_true_eq];exact⟨l1,l2⟩
 ·intro h;unfold zAp at h;simp only[Bool.and_eq_true,decide_eq_true_eq] at h;obtain⟨⟨⟨⟨⟨h1,h2⟩,h3⟩,h4⟩,h5⟩,h6⟩:=h;have JC:=List.all_eq_true.1 h6;have JA:∀o∈t.ops,(0<=o.cost/\o.cost<=1048576)/\o.effs.length<=64/\zCG o.name=true/\zAQ t.vars o.pre=true/\∀e∈o.effs,zAQ t.vars e.cnd=true/\inR t.vars (e.v,e.x)=true:=fun o ho=>by have:=JC o ho;unfold opB at this;simp only[Bool.and_eq_true,decide_eq_true_eq,List.all_eq_true] at this;obtain⟨⟨⟨⟨⟨c1,c2⟩,c3⟩,c4⟩,c5⟩,c6⟩:=this;refine⟨⟨c1,c2⟩,c3,c4,c5,fun e he=>?_⟩;have:=c6 e he;unfold zLv at this;simpa only[Bool.and_eq_true] using this
  have JB:∀p∈zAX t,zAQ t.vars p.2=true:=fun p hp=>by
   unfold zAX at hp;rcases List.mem_cons.1 hp with rfl|hp
   ·exact h5
   ·obtain⟨o,ho,hp⟩:=List.mem_flatMap.1 hp;unfold zBQ at hp;rcases List.mem_cons.1 hp with rfl|hp
    ·exact(JA o ho).2.2.2.1
    ·obtain⟨e,he,rfl⟩:=List.mem_map.1 hp;exact((JA o ho).2.2.2.2 e he).1
  have hl:zAr t=false:=by unfold zAr;simp only[Bool.not_eq_false',Bool.and_eq_true,decide_eq_true_eq,List.all_eq_true];exact⟨⟨⟨h1,h2⟩,fun o ho=>(JA o ho).2.1⟩,fun p hp=>Nat.le_trans (zPT (hc h3) (JB p hp)) h1⟩
  have e3:(t.ops.all fun o=>decide (0<=o.cost)&&decide (o.cost<=1048576))=true:=by rw[List.all_eq_true];intro o ho;have:=(JA o ho).1;simp;omega
  have e5:((zAX t).all fun p=>zAQ t.vars p.2)=true:=by rw[List.all_eq_true];exact JB
  have e6:(t.ops.all fun o=>o.effs.all fun e=>inR t.vars (e.v,e.x))=true:=by rw[List.all_eq_true];intro o ho;rw[List.all_eq_true];exact fun e he=>((JA o ho).2.2.2.2 e he).2
  have e7:(t.ops.all fun o=>zCG o.name)=true:=by rw[List.all_eq_true];exact fun o ho=>(JA o ho).2.2.1
  unfold zLw;rw[if_neg (by rw[hl];simp),if_neg (by rw[h3];simp),if_neg (by rw[e3];simp),if_neg (by rw[h4];simp),if_neg (by rw[e5];simp),if_neg (by rw[e6];simp),if_neg (by rw[e7];simp)]
theorem NtG.lens{T:Nt}(h:NtG T)(hn:∀o∈T.ops,o.name.size<=9223372036854775807):TkL T.raw:=by
 have hg:=h.goal.len;refine⟨by simp[Nt.raw];have:=h.ilen;have:=h.vlen;omega,by simp[Nt.raw];have:=h.vlen;omega,by simp[Nt.raw];have:=h.olen;omega,by simp[Nt.raw];have:=h.vlen;omega,fun o ho=>?_⟩;obtain⟨o',JA,rfl⟩:=List.mem_map.1 ho;have g:=h.ops o' JA;have:=g.pre.len;have:=h.vlen;have:=g.elen;refine⟨hn o' JA,by simp[No.raw];omega,by simp[No.raw];omega,fun e he=>?_⟩;obtain⟨e',JB,rfl⟩:=List.mem_map.1 he;have:=(g.cnd e' JB).len;simp[Nf.raw];omega
end
end Go.Tk
namespace Go.Proofs.YtolkjbmcindhjaaGreat
section
open Go Go.W Go.Tk Go.Rx Go.Maps
def zok(z:Int):Prop:=-9223372036854775808<=z/\z<=9223372036854775807
theorem zLy(w:World):(zeroValue 4).run Tryz.prog w=.ok (.bool false) w:=Tryz.zeroValue4 w
def bE(b:Bool):List Value:=[.bool b]
end
section
open Go Go.W Go.Tk Go.Rx Go.Maps
section
variable {α:Type} {enc:α->List Value} {w w' w1 w2:World} {v:Value} {ls:List (List α)} {F:List Nat} {A B:Asr}
theorem At.join(hB:Lcl B)(h:At w F B w1)(t:At w1 [] (zC A Emp) w2):At w F (zC A B) w2:=by
 obtain⟨F1,⟨Fa,Fe,h1,h2,hd,rfl⟩,hs⟩:=t.ex;refine h.more hB t.kp ⟨Fa,h1,fun x hx=>?_⟩;rcases hs x (by simp[hx]) with h3|h3
 ·cases h3
 ·exact h3
theorem zNH{u ov:Value}{c:List α}{outs:List (List α)}{KV:zw (Value×World)}(hB:Lcl B)(h:At w F (zC (zM u 3 1 enc c) (zC (LLA ov 22 enc outs) B)) w1)(hl:outs.length<=100000)
  (H:∀v' w2,At w F (zC (LLA v' 22 enc (outs++[c])) B) w2->KV.run (v',w2)) :
  @efH Tryz.prog (Builtin.append_ #[30,30] 30 [ov,.slice (some ⟨w1.heap.size,0,none⟩) 1 1].toArray) (w1.alloc (.cells #[u] 22)) KV:=by
 have JA:=h.own.o1;obtain⟨ps,JB,h3⟩:=LLA.opn h.rot;have JD:ps.length=outs.length:=by rw[<-JB];simp
 have JC:Lcl (zC (zZ enc ps) (zC (zM u 3 1 enc c) B)):=Lcl.vws.star (Lcl.own.star hB);have h4:=h3.kp0 (Lcl.own.star JC) ((Kp.refl [] w1).alloc (.cells #[u] 22));refine At.append (xs:=[((⟨u,JA⟩,c):zP×List α)]) JC h4 zT zB9 sl_30 rfl (fun j x hj=>?_) (by omega) (by unfold maxLen;omega) fun v' w5 h5=>H v' w5 ?_
 ·simp[sv1] at hj;rw[zAm,zA zO];simpa using hj
 ·have h6:At w F (zC (zM v' 22 1 sv1 (ps++[((⟨u,JA⟩,c):zP×List α)])) (zC (zZ enc (ps++[((⟨u,JA⟩,c):zP×List α)])) B)) w5 :=
   ((h5.rot3.own_vw).by (Imp.trans (Imp.un Imp.sw) (Imp.trans (zZ.add JA) Imp.sw))).by Imp.rfl
  exact LLA.cls (ls:=outs++[c]) (by simp[JB]) h6
end
end
section
open Go Go.W Go.Tk Go.Rx Go.Maps
structure StN(vars s:List Nat):Prop where
 len:s.length=vars.length
 rng:∀v,v<vars.length->s.getD v 0<vars.getD v 0
theorem zP1{l:List Nat}{j:Nat}:(l.map iN).getD j 0=((l.getD j 0:Nat):Int):=by
 simp only[List.getD,List.getElem?_map];cases l[j]? <;> simp[iN]
theorem StN.ok{vars s:List Nat}(h:StN vars s):zAC (vars.map iN) (s.map iN)=true:=by
 unfold zAC;rw[zA6 fun j hj=>?_]
 ·simp[h.len]
 ·unfold zOr;rw[zP1,zP1];simp at hj;have:=h.rng j (by rw[<-h.len];exact hj);simp only[Bool.and_eq_true,decide_eq_true_eq];omega
section
variable {w:World} {b:Nat} {vars:List Nat} {goal:List Fc} {U:List Un} {vv gv fv uv nd fr:Value} {rs:List Ru} {ps:List (zP×List Nat)}
end
end
section
open Go Go.W Go.Tk Go.Rx Go.Maps
def grF(vars:List Nat)(V:Nat->Nat)(l:List Fc):Nat:=gr V (l.map (numF vars))
theorem z6{α:Type}{l:List α}{k:Nat}{x:α}(h:l[k]? = some x):l.take (k+1)=l.take k++[x]:=by
 rw[List.take_add_one,h];rfl
section
variable {w:World} {b:Nat} {vars:List Nat} {goal:List Fc} {U:List Un} {vv gv fv uv nd fr:Value} {rs:List Ru} {ps:List (zP×List Nat)}
end
end
section
open Go Go.W Go.Tk Go.Rx Go.Maps
theorem zLM{w w1:World}{F:List Nat}{B:Asr}{ov:Value}{l:List Nat}{x:Nat}{KV:zw (Value×World)}(hB:Lcl B)(h:At w F (zC (zM ov 3 1 nE l) B) w1)(hl:l.length<=1000000)
  (H:∀v' w2,At w F (zC (zM v' 3 1 nE (l++[x])) B) w2->KV.run (v',w2)) :
  @efH Tryz.prog (Builtin.append_ #[22,22] 22 [ov,.slice (some ⟨w1.heap.size,0,none⟩) 1 1].toArray) (w1.alloc (.cells #[.int .i64 (x:Nat)] 3)) KV:=by
 have h4:=h.kp0 (Lcl.own.star hB) ((Kp.refl [] w1).alloc (.cells #[.int .i64 (x:Nat)] 3));refine At.append (xs:=[x]) hB h4 zi zA5 zCB rfl (fun j u hj=>?_) (by omega) (by unfold maxLen;omega) fun v' w5 h5=>H v' w5 h5;simp[nE] at hj;rw[zAm,zA zO];simpa using hj
section
variable {w:World} {b:Nat} {vars:List Nat} {goal:List Fc} {U:List Un} {vv gv fv uv nd fr:Value} {rs:List Ru} {ps:List (zP×List Nat)}
end
end
section
open Go Go.W Go.Tk Go.Rx Go.Maps
def ntO(T:Nt):Obj:=.cells #[T.vv.1,T.nv.1,T.gv.1,T.ov.1] 26 (0,0)
def ntV(T:Nt):Value:=.agg #[T.vv.1,T.nv.1,T.gv.1,T.ov.1]
def noV(o:No):Value:=.agg #[.string o.name,.int .i64 (o.cost:Nat),o.pv.1,o.ev.1]
end
section
open Go Go.W Go.Tk Go.Rx Go.Maps
section
variable {α:Type} {enc:α->List Value} {E sz:Nat} {B:Asr} {w w1:World} {F:List Nat}
end
def zHB(vars:List Nat)(l:List Fc):Prop:=∀f∈l,f.1<vars.length/\f.2<vars.getD f.1 0
end
end Go.Proofs.YtolkjbmcindhjaaGreat
namespace Go.Rx
section
open Go.Tk Go.W Go
def Clo(A:List Un)(V:Nat->Nat):Prop:=∀u∈A,gr V u.needs<Inf->V u.makes<=gr V u.needs+u.cost
section
variable {A A':List Un} {S:List Nat} {V:Nat->Nat} {u:Un} {N f x:Nat}
end
end
end Go.Rx
namespace Go.Proofs.YtolkjbmcindhjaaGreat
section
open Go Go.W Go.Tk Go.Rx Go.Maps
theorem zNq{w w1:World}{F:List Nat}{B:Asr}{ov:Value}{l:List Fc}{x:Fc}{KV:zw (Value×World)}(hB:Lcl B)(h:At w F (zC (zM ov 100 2 fcE l) B) w1)(hl:l.length<=1000000)
  (H:∀v' w2,At w F (zC (zM v' 100 2 fcE (l++[x])) B) w2->KV.run (v',w2)) :
  @efH Tryz.prog (Builtin.append_ #[23,23] 23 [ov,.slice (some ⟨w1.heap.size,0,none⟩) 1 1].toArray) (w1.alloc (.cells #[.int .i64 (x.1:Nat),.int .i64 (x.2:Nat)] 100)) KV:=by
 have h4:=h.kp0 (Lcl.own.star hB) ((Kp.refl [] w1).alloc (.cells #[.int .i64 (x.1:Nat),.int .i64 (x.2:Nat)] 100));refine At.append (xs:=[x]) hB h4 zC1 zNr zK7 rfl (fun j u hj=>?_) (by omega) (by unfold maxLen;omega) fun v' w5 h5=>H v' w5 h5;simp[fcE] at hj;rw[zAm,zA zO];simpa using hj
end
section
open Go Go.W Go.Tk Go.Rx Go.Maps
def hdB(s:List Nat)(l:List Fc):Bool:=l.all fun f=>decide (s.getD f.1 0=f.2)
theorem zP2{s:List Nat}{l:List Fc}{z:Nat}{f:Fc}(h:l[z]? = some f):hdB s (l.take (z+1))=(hdB s (l.take z)&&decide (s.getD f.1 0=f.2)):=by
 unfold hdB;rw[z6 h,List.all_append];simp
theorem zCY{w:World}(fv sv:Value)(l:List Fc)(s:List Nat)(hf:Vw w fv fcE l)(hs:Vw w sv nE s)(hl:l.length<=1000000)(hr:∀f∈l,f.1<s.length) :
  Calls Tryz.prog 38 [fv,sv].toArray w fun e w'=>∃x,e=.returned x/\x=.bool (hdB s l)/\Kp [] w w':=by
 refine enter Tryz.func38 mixed low38 (Nat.le_of_ble_eq_true rfl) ?_;simp only[L38];simp[hf.len];refine zF (n:=l.length) (by omega) (fun k ρ w'=>ρ 1=sv/\ρ 7=fv/\hdB s (l.take k)=true/\Kp [] w w') (by simp) (by simp)
  ⟨by simp,by simp,by simp[hdB],Kp.refl _ _⟩ (by decide) (fun _ _ _ _ h=>by simpa using h) (fun _ _ _ _ h=>by simpa using h) ?_ ?_
 rotate_left
 ·rintro ρ w4 ⟨g1,g7,g4,k4⟩;rw[List.take_length] at g4;simp[g4];exact k4
 rintro k ρ w4 hk hc JC ⟨g1,g7,g4,k4⟩;have JL:=hf.kp0 k4;obtain⟨f,JD⟩:∃f,l[k]? = some f:=⟨_,List.getElem?_eq_getElem hk⟩;have JK:=List.mem_of_getElem? JD;have f1:=hr f JK;have ec:=JL.cells zC1 JD;simp only[fcE] at ec;obtain⟨fb,JE⟩:∃fb,fb=w4.heap.size:=⟨_,rfl⟩;have JM:(k:Int)<l.length:=by omega
 simp(disch:=omega)[g7,hc,JC,JL.idx,ec,<-JE];refine zR3 (f:=faN f) .emp (At.start (w:=w4) rfl) JE fun w7 h7=>?_;have k7:=k4.trans h7.kp;have JB:=h7.obj;simp only[faN,faO] at JB;rw[JE] at JB;have JA:=hs.kp0 k7;obtain⟨y,hy⟩:∃y,s[f.1]? = some y:=⟨_,List.getElem?_eq_getElem f1⟩;have JH:s.getD f.1 0=y:=by simp[List.getD,hy]
 have n1:¬(f.1:Int)<0:=by omega
 have n2:¬((s.length:Nat):Int)<=(f.1:Int):=by omega
 have n3:(f.1:Int)<s.length:=by omega
 have n4:¬s.length<=f.1:=by omega
 have JI:=zP2 (s:=s) JD;rw[g4,JH] at JI;by_cases JG:y=f.2
 ·have t:((y:Int) != (f.2:Int))=false:=by simp;omega
  simp(disch:=omega)[g1,g7,hc,JC,zA JB,n1,n2,n4,JA.len,JA.idx,zAM JA hy,t];refine⟨?_,k7.drew⟩;rw[JI];simp[JG]
 ·have t:((y:Int) != (f.2:Int))=true:=by simp;omega
  have JF:hdB s l=false:=by unfold hdB;rw[List.all_eq_false];exact⟨f,JK,by simp only[JH,decide_eq_true_eq];exact JG⟩
  simp(disch:=omega)[g1,g7,hc,JC,zA JB,n1,n2,n4,JA.len,JA.idx,zAM JA hy,t,JF];exact k7.drew
end
section
open Go Go.W Go.Tk Go.Rx Go.Maps
def zCZ(n:Nat)(s:List Nat):List (List Nat):=(List.range n).map fun x=>s++[x]
def zAs(vars:List Nat):Nat->List (List Nat)
 |0=>[[]]
 |k+1=>(zAs vars k).flatMap (zCZ (vars.getD k 0))
theorem zEP(n:Nat)(s:List Nat):(zCZ n s).length=n:=by simp[zCZ]
theorem zIW{w:World}(vv:Value)(vars:List Nat)(hv:Vw w vv nE vars)(hl:vars.length<=1000)(hn:∀n∈vars,n<=1000)(hb:∀k,k<=vars.length->(zAs vars k).length<=10000)(Ja:∀k,k<=vars.length->∀s∈zAs vars k,s.length<=1000) :
  Calls Tryz.prog 12 [vv].toArray w fun e w'=>∃u,e=.returned u/\At w [] (zC (LLA u 22 nE (zAs vars vars.length)) Emp) w':=by
 refine enter Tryz.func12 mixed low12 (Nat.le_of_ble_eq_true rfl) ?_;simp only[L12];have h0:At w [] Emp w:=At.start rfl;have h1:=h0.lit (xs:=([]:List Nat)) (enc:=nE) (E:=3) (sz:=1) (cs:=#[]) (m:=0) .emp (by simp) zi (by simp[maxLen]) rfl;obtain⟨w1,JL⟩:∃w1,w1=w.alloc (.cells #[] 3):=⟨_,rfl⟩;obtain⟨r,hr⟩:∃r,r=Value.slice (some ⟨w.heap.size,0,none⟩) 0 0:=⟨_,rfl⟩;rw[<-JL,<-hr] at h1;have ho:=h1.own.o1;have c1:=h1.own.c1;have h2:At w [] (zC (zZ nE [((⟨r,ho⟩,[]):zP×List Nat)]) Emp) w1:=((zZ.nil (Lcl.own.star .emp) h1).by Imp.sw).by (Imp.ow.trans (zZ.add (ps:=[]) ho));have h3:=h2.lit (xs:=[((⟨r,ho⟩,[]):zP×List Nat)]) (enc:=sv1) (E:=22) (sz:=1) (cs:=#[r]) (m:=1) (Lcl.vws.star .emp) (by simp[sv1]) zT (by simp[maxLen]) rfl;have h4:At w [] (zC (LLA (.slice (some ⟨w1.heap.size,0,none⟩) 1 1) 22 nE (zAs vars 0)) Emp) (w1.alloc (.cells #[r] 22)):=LLA.cls (ps:=[((⟨r,ho⟩,[]):zP×List Nat)]) (by simp[zAs]) h3;have JT:=hv.kp0 h4.kp;simp[<-JL,<-hr,c1,zW,JT.len];refine zF (n:=vars.length) (by omega) (fun k ρ w'=>ρ 12=vv/\At w [] (zC (LLA (ρ 3) 22 nE (zAs vars k)) Emp) w') (by simp) (by simp)
  ⟨by simp,by simpa using h4⟩ (by decide) (fun _ _ _ _ h=>by simpa using h) (fun _ _ _ _ h=>by simpa using h) ?_ ?_
 rotate_left
 ·rintro ρ w5 ⟨g12,h5⟩;simp;exact h5
 clear h1 h2 h3 h4 JT c1 JL;rintro k ρ w5 hk JI JG ⟨g12,h5⟩;have JM:=hv.kp0 h5.kp;obtain⟨n,JP⟩:∃n,vars[k]? = some n:=⟨_,List.getElem?_eq_getElem hk⟩;have Jk:=hn n (List.mem_of_getElem? JP);have Jd:vars.getD k 0=n:=by simp[List.getD,JP]
 have Jl:(k:Int)<vars.length:=by omega
 obtain⟨ov,JC⟩:∃ov,ov=ρ 3:=⟨_,rfl⟩;rw[<-JC] at h5;obtain⟨ps,JU,h6⟩:=LLA.opn h5;have Jc:ps.length=(zAs vars k).length:=by rw[<-JU];simp
 have Jn:=hb k (by omega);have JF:=hb (k+1) (by omega);have JD:zAs vars (k+1)=(zAs vars k).flatMap (zCZ n):=by rw[<-Jd];rfl
 rw[JD] at JF;have hX:Lcl (zC (zM ov 22 1 sv1 ps) (zC (zZ nE ps) Emp)):=Lcl.own.star (Lcl.vws.star .emp);have h7:At w [] (zC (LLA (.slice none 0 0) 22 nE (((zAs vars k).take 0).flatMap (zCZ n))) (zC (zM ov 22 1 sv1 ps) (zC (zZ nE ps) Emp))) w5:=LLA.nil hX h6;simp(disch:=omega)[g12,JI,JG,JM.idx,zAM JM JP,<-JC,h6.own.vw.len];refine zF (n:=ps.length) (by omega) (fun i ρ w'=>ρ 12=vv/\ρ 13=.int .i64 (vars.length:Nat)/\ρ 14=.int .i64 (k:Nat)/\ρ 5=.int .i64 (n:Nat)/\ρ 18=ov/\At w [] (zC (LLA (ρ 6) 22 nE (((zAs vars k).take i).flatMap (zCZ n))) (zC (zM ov 22 1 sv1 ps) (zC (zZ nE ps) Emp))) w') (by simp) (by simp)
  ⟨by simp[g12],by simp[JG],by simp[JI],by simp,by simp,by simpa using h7⟩ (by decide) (fun _ _ _ _ h=>by simpa using h) (fun _ _ _ _ h=>by simpa using h) ?_ ?_
 rotate_left
 ·clear g12 JI JG JC;rintro ρ w6 ⟨g12,JB,g14,g5,JA,h8⟩;rw[Jc,List.take_length,<-JD] at h8;simp[g12,JB,g14];exact h8.by (Imp.un (Imp.dr.trans Imp.dr))
 clear g12 JI JG JC h5 h6 h7 JM;rintro i ρ w6 hi JK JH ⟨g12,JB,g14,g5,JA,h8⟩;obtain⟨p,hp⟩:∃p,ps[i]? = some p:=⟨_,List.getElem?_eq_getElem hi⟩;have Jb:=List.mem_of_getElem? hp;obtain⟨s,hse⟩:∃s,s=p.2:=⟨_,rfl⟩;have JN:(zAs vars k)[i]? = some s:=by rw[<-JU,List.getElem?_map,hp,hse];rfl
 have JZ:=Ja k (by omega) s (List.mem_of_getElem? JN);have Jm:(i:Int)<ps.length:=by omega
 have JC:=h8.drop.own;have ep:w6.cell? (ov.adr.add i)=some p.1.1:=by simpa using JC.vw.at_ zT hp (o:=0) (u:=p.1.1) rfl
 have Jf:(((zAs vars k).take i).flatMap (zCZ n)).length+n<=10000:=by
  have e:zAs vars k=(zAs vars k).take i++(s::(zAs vars k).drop (i+1)):=by obtain⟨Jg,e2⟩:=List.getElem?_eq_some_iff.1 JN;rw[<-e2,<-List.drop_eq_getElem_cons Jg,List.take_append_drop]
  rw[e,List.flatMap_append,List.flatMap_cons,List.length_append,List.length_append,zEP] at JF;omega
 have JY:((zAs vars k).take (i+1)).flatMap (zCZ n)=((zAs vars k).take i).flatMap (zCZ n)++(zCZ n s).take n:=by have e:(zCZ n s).take n=zCZ n s:=List.take_of_length_le (by rw[zEP];omega);rw[z6 JN,List.flatMap_append,e];simp
 simp(disch:=omega)[g5,JA,JK,JH,JC.vw.idx,ep];refine zF (n:=n) (by omega) (fun x ρ w'=>ρ 12=vv/\ρ 13=.int .i64 (vars.length:Nat)/\ρ 14=.int .i64 (k:Nat)/\ρ 5=.int .i64 (n:Nat)/\ρ 18=ov/\ρ 19=.int .i64 (ps.length:Nat)/\ρ 20=.int .i64 (i:Nat)/\ρ 8=p.1.1/\At w [] (zC (LLA (ρ 6) 22 nE (((zAs vars k).take i).flatMap (zCZ n)++(zCZ n s).take x)) (zC (zM ov 22 1 sv1 ps) (zC (zZ nE ps) Emp))) w') (by simp) (by simp)
  ⟨by simp[g12],by simp[JB],by simp[g14],by simp[g5],by simp[JA],by simp[JH],by simp[JK],by simp,by simpa using h8⟩ (by decide) (fun _ _ _ _ h=>by simpa using h) (fun _ _ _ _ h=>by simpa using h) ?_ ?_
 rotate_left
 ·clear g12 JB g14 g5 JA JK JH;rintro ρ w7 ⟨g12,JB,g14,g5,JA,JS,JR,g8,h9⟩;rw[<-JY] at h9;simp[g12,JB,g14,g5,JA,JS,JR];exact h9
 clear g12 JB g14 g5 JA JK JH h8 JC ep;rintro x ρ w7 hx JV Je ⟨g12,JB,g14,g5,JA,JS,JR,g8,h9⟩;have JQ:Lcl (zC (LLA (ρ 6) 22 nE (((zAs vars k).take i).flatMap (zCZ n)++(zCZ n s).take x)) (zC (zM ov 22 1 sv1 ps) (zC (zZ nE ps) Emp))):=Lcl.ll.star hX;have JX:=h9.lit (xs:=([]:List Nat)) (enc:=nE) (E:=3) (sz:=1) (cs:=#[]) (m:=0) JQ (by simp) zi (by simp[maxLen]) rfl;have JO:Vw (w7.alloc (.cells #[] 3)) p.1.1 nE s:=by rw[hse];exact JX.drop.drop.drop.vws Jb
 simp[JV,g8,zW];refine At.appendV (xs:=s) JQ JX JO zi zA5 zCB (by simp;omega) (by simp;unfold maxLen;omega) fun v1 w8 Ji=>?_;simp;refine zLM JQ Ji (by simp;omega) fun v2 w9 JW=>?_;have c12:=JW.own.c1;simp[c12];have JE:(((zAs vars k).take i).flatMap (zCZ n)++(zCZ n s).take x).length<=100000:=by rw[List.length_append,List.length_take,zEP];omega
 refine zNH hX JW JE fun v3 Jj Jh=>?_;have ext:(zCZ n s)[x]? = some (s++[x]):=by unfold zCZ;rw[List.getElem?_map,List.getElem?_range hx];rfl
 simp[g12,JB,g14,g5,JA,JS,JR,JV,Je];rw[z6 ext,<-List.append_assoc];exact⟨g8,by simpa using Jh⟩
end
section
open Go Go.W Go.Tk Go.Rx Go.Maps
def apK(o:No)(s:List Nat)(k:Nat):List Nat:=(o.effs.take k).foldl (fun t e=>if hdB s e.cnd then t.set e.v e.x else t) s
def apS(o:No)(s:List Nat):List Nat:=apK o s o.effs.length
theorem zB1{o:No}{s:List Nat}{k:Nat}{e:Nf}(h:o.effs[k]? = some e):apK o s (k+1)=if hdB s e.cnd then(apK o s k).set e.v e.x else apK o s k:=by
 unfold apK;rw[z6 h,List.foldl_append];rfl
theorem zDt(o:No)(s:List Nat):∀k,(apK o s k).length=s.length
 |0=>by simp[apK]
 |k+1=>by
  cases h:o.effs[k]? with
  |none =>have:=List.getElem?_eq_none_iff.1 h;have h2:=zDt o s k;unfold apK at h2 ⊢;rw[List.take_of_length_le (by omega)] at h2 ⊢;exact h2
  |some e =>
   rw[zB1 h];have:=zDt o s k;split
   ·rw[List.length_set];exact this
   ·exact this
def apV(T:Nt)(o:No)(s:List Nat)(w:World)(x:Value)(w':World):Prop :=
 if hdB s o.pre=true then ∃u,x=.tuple #[u,.bool true]/\Nw w w' u 3 1 nE (apS o s) else x=.tuple #[.slice none 0 0,.bool false]/\Kp [] w w'
theorem zLn{w:World}(T:Nt)(sv:Value)(s:List Nat)(i:Nat)(o:No)(hr:NtR w T)(hg:NtG T)(ho:T.ops[i]? = some o)(hs:Vw w sv nE s)(JV:StN T.vars s) :
  Calls Tryz.prog 37 [ntV T,sv,.int .i64 (i:Nat)].toArray w fun e w'=>∃x,e=.returned x/\apV T o s w x w':=by
 refine enter Tryz.func37 mixed low37 (Nat.le_of_ble_eq_true rfl) ?_;simp only[L37];have JF:=JV.len;have JW:=hg.vlen;have JZ:=hg.olen;have JE:=List.mem_of_getElem? ho;have JI:=hg.ops o JE;have hi:i<T.ops.length:=(List.getElem?_eq_some_iff.1 ho).1;have Jb:(i:Int)<T.ops.length:=by omega
 obtain⟨b,hb⟩:∃b,b=w.heap.size:=⟨_,rfl⟩;have h1:At w [] (zC (zL b (ntO T)) Emp) (w.alloc (ntO T)):=by rw[hb];exact(At.start rfl).alloc _ .emp
 obtain⟨w1,JQ⟩:∃w1,w1=w.alloc (ntO T):=⟨_,rfl⟩;rw[<-JQ] at h1;have JM:w.alloc (.cells #[T.vv.1,T.nv.1,T.gv.1,T.ov.1] 26 (0,0))=w1:=by rw[JQ];rfl
 have JH:=hr.kp h1.kp;have JR:=h1.obj;unfold ntO at JR;have c2:=JH.ops.fld zBv ho (o:=2) (u:=o.pv.1) rfl;have n1:¬(i:Int)<0:=by omega
 have n2:¬T.ops.length<=i:=by omega
 simp(disch:=omega)[ntV,<-hb,JM,zA JR,n1,n2,JH.ops.len,JH.ops.idx,c2];have JS:=JI.pre;have JY:=JS.len;refine zG (zCY o.pv.1 sv o.pre s (JH.op o JE).pre (hs.kp0 h1.kp) (by omega) (fun f hf=>by rw[JF];exact(JS.rng f hf).1)) ?_;rintro _ w2 ⟨rfl,k2⟩;have h2:=h1.kp0 (Lcl.obj.star .emp) k2;cases hp:hdB s o.pre with
 |false =>simp;unfold apV;rw[if_neg (by rw[hp];simp)];exact⟨rfl,h2.kp⟩
 |true =>
  simp[zW];have h3:=h2.lit (xs:=([]:List Nat)) (enc:=nE) (E:=3) (sz:=1) (cs:=#[]) (m:=0) (Lcl.obj.star .emp) (by simp) zi (by simp[maxLen]) rfl;refine At.appendV (xs:=s) (Lcl.obj.star .emp) h3 (hs.kp0 h3.kp) zi zA5 zCB (by simp;omega) (by simp;unfold maxLen;omega) fun ov w4 h4=>?_;have JB:=h4.drop.obj;unfold ntO at JB;have JG:=hr.kp h4.kp;have c3:=JG.ops.fld zBv ho (o:=3) (u:=o.ev.1) rfl;have JD:=JG.op o JE;have JU:=JI.elen;have h4:At w [] (zC (zM ov 3 1 nE (apK o s 0)) (zC (zL b (ntO T)) Emp)) w4:=by simpa[apK] using h4
  simp(disch:=omega)[<-hb,zA JB,JG.ops.idx,c3,JD.effs.len];refine zF (n:=o.effs.length) (by omega) (fun k ρ w'=>ρ 1=sv/\ρ 8=ov/\ρ 39=o.ev.1/\At w [] (zC (zM ov 3 1 nE (apK o s k)) (zC (zL b (ntO T)) Emp)) w') (by simp) (by simp)
   ⟨by simp,by simp,by simp,h4⟩ (by decide) (fun _ _ _ _ h=>by simpa using h) (fun _ _ _ _ h=>by simpa using h) ?_ ?_
  rotate_left
  ·rintro ρ w5 ⟨g1,g8,JL,h5⟩;simp[g8];unfold apV;rw[if_pos hp];exact⟨_,rfl,Nw.of h5⟩
  clear h3 h4 JB JG c3 JD;rintro k ρ w5 hk JP JN ⟨g1,g8,JL,h5⟩;have JC:=(hr.kp h5.kp).op o JE;obtain⟨e,he⟩:∃e,o.effs[k]? = some e:=⟨_,List.getElem?_eq_getElem hk⟩;have JO:=List.mem_of_getElem? he;have ece:=JC.effs.cells zA7 he;simp only[nfE] at ece;have Ja:(k:Int)<o.effs.length:=by omega
  obtain⟨fb,JK⟩:∃fb,fb=w5.heap.size:=⟨_,rfl⟩;have hL:∀l,Lcl (zC (zM ov 3 1 nE l) (zC (zL b (ntO T)) Emp)):=fun _=>Lcl.own.star (Lcl.obj.star .emp);simp(disch:=omega)[JL,JP,JN,JC.effs.idx,ece,<-JK];refine zK4 (e:=e.raw) (hL _) h5 JK fun w6 h6=>?_;have oe6:=h6.obj;unfold efO Nf.raw at oe6;rw[JK] at oe6;have JT:=JI.cnd e JO;have Jc:=JT.len;obtain⟨f1,f2⟩:=JI.eff e JO;simp(disch:=omega)[zA oe6,g1];refine zG (zCY e.wv.1 sv e.cnd s (((hr.kp h6.kp).op o JE).cnd e JO) (hs.kp0 h6.kp) (by omega) (fun f hf=>by rw[JF];exact(JT.rng f hf).1)) ?_;rintro _ w7 ⟨rfl,k7⟩;have h7:=h6.kp0 (Lcl.obj.star (hL _)) k7;have JA:=zB1 (s:=s) he;cases hh:hdB s e.cnd with
  |false =>rw[hh] at JA;simp[g1,g8,JL,JP,JN];rw[JA];exact h7.drop
  |true =>
   rw[hh] at JA;have oe7:=h7.obj;unfold efO Nf.raw at oe7;rw[JK] at oe7;have h8:=h7.drop;have hO:=h8.own;have Jd:=zDt o s k;have JX:(e.v:Int)<(apK o s k).length:=by omega
   simp(disch:=omega)[g8,zA oe7,hO.idx];refine h8.store1 (Lcl.obj.star .emp) zi zA5 (k:=e.v) (by omega) (x:=e.x) rfl fun w9 h9=>?_;simp[g1,g8,JL,JP,JN];rw[JA];exact h9
end
section
open Go Go.W Go.Tk Go.Rx Go.Maps
theorem zMH{vars:List Nat}:∀k,k<=vars.length->∀s∈zAs vars k,s.length=k/\∀v,v<k->s.getD v 0<vars.getD v 0
 |0,_,s,hs=>by simp[zAs] at hs;subst hs;exact⟨rfl,fun v hv=>by omega⟩
 |k+1,hk,s,hs=>by
  unfold zAs at hs;obtain⟨t,ht,h2⟩:=List.mem_flatMap.1 hs;unfold zCZ at h2;obtain⟨x,hx,rfl⟩:=List.mem_map.1 h2;obtain⟨e,hv⟩:=zMH k (by omega) t ht;refine⟨by simp[e],fun v JA=>?_⟩;by_cases h3:v<k
  ·have:=hv v h3;simpa[List.getD,List.getElem?_append_left (show v<t.length by omega)] using this
  ·have:v=k:=by omega
   subst this;simpa[List.getD,<-e] using List.mem_range.1 hx
theorem zQr{vars:List Nat}{s:List Nat}(h:s∈zAs vars vars.length):StN vars s:=by
 obtain⟨h1,h2⟩:=zMH _ (Nat.le_refl _) s h;exact⟨h1,h2⟩
end
section
open Go Go.W Go.Tk Go.Rx Go.Sy Go.Maps
def okB(vars:List Nat)(a:Nat->Bool):Bool:=(List.range vars.length).all fun v=>decide (rv vars a 0 v<vars.getD v 0)
theorem zAh{vars:List Nat}{a:Nat->Bool}:okB vars a=true<->StN vars (rs vars a 0):=by
 unfold okB;rw[List.all_eq_true];constructor
 ·intro h;refine⟨zB2 _ _ _,fun v hv=>?_⟩;rw[zCe hv];have:=h v (List.mem_range.2 hv);simpa using this
 ·intro h v hv;have hv:=List.mem_range.1 hv;have:=h.rng v hv;rw[zCe hv] at this;simpa using this
def zFk(o:No)(s:List Nat)(v:Nat):Nat->Nat->Option Nat
 |0,_=>none
 |d+1,i=>match zFk o s v d (i+1) with
  |some z=>some z
  |none=>match o.effs[i]? with
   |some e=>if e.v=v/\hdB s e.cnd=true then some e.x else none
   |none=>none
theorem zDh(o:No)(s:List Nat)(v d i:Nat):zFk o s v (d+1) i=(match zFk o s v d (i+1) with
  |some z=>some z
  |none=>match o.effs[i]? with
   |some e=>if e.v=v/\hdB s e.cnd=true then some e.x else none
   |none=>none):=rfl
theorem zNk{d:List Nat}{i x:Nat}(h:i<d.length):(d.set i x).getD i 0=x:=by simp[List.getD,List.getElem?_set_self h]
theorem zVv{d:List Nat}{i j x:Nat}(h:i≠j):(d.set i x).getD j 0=d.getD j 0:=by simp only[List.getD,List.getElem?_set_ne h]
theorem zKD{o:No}{s:List Nat}{v:Nat}(hv:v<s.length):∀d i,i+d=o.effs.length->(apS o s).getD v 0=(zFk o s v d i).getD ((apK o s i).getD v 0)
 |0,i,h=>by
  have:i=o.effs.length:=by omega
  subst this;rfl
 |d+1,i,h=>by
  rw[zKD hv d (i+1) (by omega)];obtain⟨e,he⟩:∃e,o.effs[i]? = some e:=⟨_,List.getElem?_eq_getElem (by omega)⟩;rw[zDh];cases hl:zFk o s v d (i+1) with
  |some z=>rfl
  |none =>
   rw[he];simp only[Option.getD_none];rw[zB1 he];by_cases hc:hdB s e.cnd=true
   ·by_cases JA:e.v=v
    ·subst JA;rw[if_pos hc,if_pos ⟨rfl,hc⟩];rw[zNk (by rw[zDt];exact hv)];rfl
    ·rw[if_pos hc,if_neg (fun h=>JA h.1),zVv JA];rfl
   ·rw[if_neg hc,if_neg (fun h=>hc h.2)];rfl
def zJE(o:No)(s:List Nat)(v:Nat):Nat:=(zFk o s v o.effs.length 0).getD (s.getD v 0)
theorem zRd{o:No}{s:List Nat}{v:Nat}(hv:v<s.length):(apS o s).getD v 0=zJE o s v:=by
 rw[zKD hv o.effs.length 0 (by omega)];rfl
def zHe(T:Nt)(o:No)(a:Nat->Bool):Bool:=hdB (rs T.vars a 0) o.pre&&decide (rs T.vars a 1=apS o (rs T.vars a 0))
def relV(T:Nt)(o:No)(v:Nat)(a:Nat->Bool):Bool:=decide (rv T.vars a 1 v=zJE o (rs T.vars a 0) v)
theorem zEO{l l':List Nat}(h:l.length=l'.length)(hh:∀v,v<l.length->l.getD v 0=l'.getD v 0):l=l':=by
 apply List.ext_getElem h;intro i h1 h2;have:=hh i h1;simpa[List.getD,h1,h2] using this
theorem zSR{T:Nt}{o:No}{a:Nat->Bool}:(∀v,v<T.vars.length->relV T o v a=true)<->rs T.vars a 1=apS o (rs T.vars a 0):=by
 have hl:(apS o (rs T.vars a 0)).length=T.vars.length:=by unfold apS;rw[zDt,zB2]
 constructor
 ·intro h;refine zEO (by rw[zB2,hl]) fun v hv=>?_;rw[zB2] at hv;have:=h v hv;unfold relV at this;rw[zCe hv,zRd (by rw[zB2];exact hv)];simpa using this
 ·intro h v hv;unfold relV;rw[decide_eq_true_iff,<-zRd (by rw[zB2];exact hv),<-h,zCe hv]
def zIO(T:Nt)(o:No)(P:List Nat->Bool)(s:List Nat):Bool:=(zAs T.vars T.vars.length).any fun x=>P x&&hdB x o.pre&&decide (apS o x=s)
def zFc(o:No)(P:List Nat->Bool)(s:List Nat):Bool:=hdB s o.pre&&P (apS o s)
theorem zEc{vars s:List Nat}:s∈zAs vars vars.length<->StN vars s:=by
 refine⟨zQr,fun h=>?_⟩;have key:∀k,k<=vars.length->s.take k∈zAs vars k:=by
  intro k hk
  induction k with
  |zero=>simp[zAs]
  |succ k ih =>
   unfold zAs;refine List.mem_flatMap.2 ⟨_,ih (by omega),?_⟩;unfold zCZ;have JA:k<s.length:=by rw[h.len];omega
   refine List.mem_map.2 ⟨s.getD k 0,List.mem_range.2 (h.rng k (by omega)),?_⟩;rw[List.take_add_one,List.getElem?_eq_getElem JA];simp[List.getD,List.getElem?_eq_getElem JA]
 have:=key _ (Nat.le_refl _);rwa[List.take_of_length_le (by rw[h.len];exact Nat.le_refl _)] at this
theorem zHY{vars x y:List Nat}(h64:∀n∈vars,n<=64)(hx:StN vars x):rs vars (mk2 vars x y) 0=x:=by
 refine zEO (by rw[zB2,hx.len]) fun v hv=>?_;rw[zB2] at hv;have hm:vars.getD v 0∈vars:=by simp[List.getD,List.getElem?_eq_getElem hv]
 have h1:=hx.rng v hv;have h2:=zKt (h64 _ hm);rw[zCe hv,zUy (nx:=0) hv (by omega) (by simp only[if_true];omega)];rfl
end
section
open Go Go.W Go.Bd Go.Maps
theorem zKf:laidOutB Tryz.prog=true:=by kernel_rfl
def en(d:Nd):List Value:=zAB [d.v,d.low,d.high]
theorem zCm(d:Nd):(en d).length=3:=rfl
theorem zV3(d:Nd):(en d).all zAn=true:=rfl
def ndV(d:Nd):Value:=.agg (en d).toArray
def zEy(d:Nd):Prop:=∀x∈[d.v,d.low,d.high],zY x
theorem keyN:zCs Tryz.prog 258 ndV zEy:={
 keyed:=Keyed.of_law (deep_law_laid zKf (m:=5) (by omega) (of_decide_eq_true (by kernel_rfl)) (by kernel_rfl) (by kernel_rfl))
 lit:=fun d hd=>zLQ Tryz.underlying258 (by kernel_rfl) (by intro f hf;simp at hf;rcases hf with rfl|rfl|rfl<;>kernel_rfl) (by kernel_rfl) (by kernel_rfl) (m:=Tryz.prog.types.size-1) (by kernel_rfl) rfl hd
 inj:=fun x y h=>by have:=zKG h;cases x;cases y;simp at this;simp[this] }
def zAc(k:Nat):Value:=.int .i64 (k:Int)
def idx(ns:Ns):List (Nd×Nat):=ns.zipIdx.map fun p=>(p.1,p.2+2)
theorem zPz(ns:Ns)(d:Nd):idx (ns++[d])=idx ns++[(d,ns.length+2)]:=by simp[idx,List.zipIdx_append]
theorem zTA(ns:Ns):(idx ns).length=ns.length:=by simp[idx]
theorem zP7(ns:Ns)(d:Nd):zBw (idx ns) d=(ns.findIdx? fun x=>decide (x=d)).map (·+2):=by
 have key:∀(l:Ns) (o:Nat),(((l.zipIdx o).map fun p=>(p.1,p.2+2)).find? fun p=>decide (p.1=d)).map (·.2)=(l.findIdx? fun x=>decide (x=d)).map (·+o+2):=by
  intro l
  induction l with
  |nil=>intro o;rfl
  |cons x l ih =>
   intro o;rw[List.zipIdx_cons,List.map_cons,List.findIdx?_cons];by_cases hx:x=d
   ·simp[hx]
   ·rw[List.find?_cons_of_neg (by simpa using hx),ih (o+1)];simp only[hx,decide_false,Bool.false_eq_true,if_false,Option.map_map];congr 1;funext k;simp only[Function.comp];omega
 exact key ns 0
def zGi(n lim:Nat)(nv:Value)(b:Nat):Obj:=.cells #[.int .i64 n,.int .i64 lim,nv,.map (some b)] 239 (0,0)
def zj(m n lim:Nat)(ns:Ns):Asr:=ExA fun q:Value×Nat=>zC (zL m (zGi n lim q.1 q.2)) (zC (zM q.1 258 3 en ns) (zIJ q.2 ndV zAc zEy (idx ns)))
theorem Lcl.mgr{m n lim:Nat}{ns:Ns}:Lcl (zj m n lim ns):=Lcl.ex fun _=>Lcl.star Lcl.obj (Lcl.star Lcl.own Lcl.map)
section
variable {w w1:World} {F:List Nat} {B:Asr} {m n lim:Nat} {ns:Ns}
theorem zj.opn(h:At w F (zC (zj m n lim ns) B) w1):∃nv b,At w F (zC (zL m (zGi n lim nv b)) (zC (zM nv 258 3 en ns) (zC (zIJ b ndV zAc zEy (idx ns)) B))) w1:=by
 obtain⟨⟨nv,b⟩,h⟩:=h.ex_open;exact⟨nv,b,h.assoc.rot.assoc.rot3⟩
theorem zj.cls{nv:Value}{b:Nat}(h:At w F (zC (zL m (zGi n lim nv b)) (zC (zM nv 258 3 en ns) (zC (zIJ b ndV zAc zEy (idx ns)) B))) w1):At w F (zC (zj m n lim ns) B) w1 :=
 At.ex_close (x:=(nv,b)) h.rot.rot3.rot.assoc'.rot.assoc'
structure zOx(w:World)(m n lim:Nat)(ns:Ns):Prop where
 ex:∃nv b,w.heap[m]? = some (zGi n lim nv b)/\Own w nv 258 3 en ns/\zAw w b ndV zAc zEy (idx ns)
theorem zOx.kp0{w':World}(h:zOx w m n lim ns)(hk:Kp [] w w'):zOx w' m n lim ns:=by
 obtain⟨nv,b,h1,h2,h3⟩:=h;exact⟨nv,b,hk.blk h1 (by simp),h2.kp hk (by simp),h3.kp hk (by simp)⟩
theorem zj.rd(h:At w F (zC (zj m n lim ns) B) w1):zOx w1 m n lim ns:=by
 obtain⟨nv,b,h⟩:=zj.opn h;exact⟨nv,b,h.obj,h.drop.own,h.drop.drop.map⟩
end
structure Bnd(n lim:Nat)(ns:Ns):Prop where
 hn:n<=256
 hl:lim<=1048576
 hs:ns.length<=lim
theorem zBR(m n lim f:Nat)(ns:Ns)(w:World)(h:zOx w m n lim ns)(hb:Bnd n lim ns)(hf:Ref ns f) :
  Calls Tryz.prog 158 [.pointer (some ⟨m,0,none⟩),.int .i64 (f:Nat)].toArray w fun e w'=>∃v,e=.returned v/\v=ndV (at_ n ns f)/\Kp [] w w':=by
 obtain⟨JN,JO,JM⟩:=hb;obtain⟨nv,b,ho,JB,JI⟩:=h;have JL:f<ns.length+2:=hf;refine enter Tryz.func158 mixed low158 (Nat.le_of_ble_eq_true rfl) ?_;simp only[L158];have ka:Kp [] w (w.alloc (.cells #[.int .i64 0,.int .i64 0,.int .i64 0] 258)):=(Kp.refl _ _).alloc _;have JC:=ka.blk ho (by simp);have JA:=JB.kp ka (by simp);unfold zGi at JC;rcases Nat.lt_or_ge f 2 with h2|h2
 ·have JG:(f:Int)<2:=by omega
  simp[JG,zA JC];refine zMI zO (by simp) (by simp) ?_;intro w2 JD JH JF;simp;refine zGa (g:=w.heap.size) (n:=3) zRk (by simp) (by simpa using JF) rfl rfl ?_;refine⟨_,rfl,?_,ka.trans' JD (fun x hx=>.inr (by simp at hx;omega))⟩;rw[zJJ h2];rfl
 ·have JG:¬(f:Int)<2:=by omega
  have JK:f-2<ns.length:=by omega
  have hi:((f:Int)-2)=((f-2:Nat):Int):=by omega
  have JE:ns[f-2]? = some (at_ n ns f):=by rw[zC6 h2 hf];exact List.getElem?_eq_getElem _
  simp(disch:=omega)[JG,zA JC,zH];rw[hi];simp(disch:=omega)[JA.idx,JA.cells zCm JE,zCm];refine zMI zO (by simp[en,zAB]) (by simp[en,zAB]) ?_;intro w2 JD JH JF;simp;refine zGa (g:=w.heap.size) (n:=3) zRk (by simp) (by simpa[en,zAB] using JF) rfl rfl ?_;exact⟨_,rfl,rfl,ka.trans' JD (fun x hx=>.inr (by simp at hx;omega))⟩
end
section
open Go Go.W Go.Bd Go.Maps
def zu(c:Int):Value:=.iface 101 (.int .i64 c)
def okV(x:Nat):Value:=.tuple #[.int .i64 (x:Int),.nilIface]
def zFO(c:Int):Value:=.tuple #[.int .i64 0,zu c]
def zBH:Option Nat->Value
 |some x=>okV x
 |none=>zFO 10
theorem zRC:Tryz.prog.underlying 236=some (.map 258 3):=Tryz.underlying236
theorem zT6(w:World):(zeroValue 3).run Tryz.prog w=.ok (.int .i64 0) w:=Tryz.zeroValue3 w
theorem zDM{w w1:World}{F:List Nat}{B:Asr}(m n lim:Nat)(ns:Ns)(v l h:Nat)(hB:Lcl B)(hA:At w F (zC (zj m n lim ns) B) w1)(hb:Bnd n lim ns)(hv:v<=1000000)(hl:l<=2000000)(hh:h<=2000000) :
  Calls Tryz.prog 214 [.pointer (some ⟨m,0,none⟩),.int .i64 (v:Nat),.int .i64 (l:Nat),.int .i64 (h:Nat)].toArray w1 fun e w'=>∃x,e=.returned x/\x=zBH (mkF lim ns v l h).1/\At w F (zC (zj m n lim (mkF lim ns v l h).2) B) w':=by
 obtain⟨Je,Jf,Jd⟩:=hb;refine enter Tryz.func214 mixed low214 (Nat.le_of_ble_eq_true rfl) ?_;simp only[L214];by_cases JK:l=h
 ·subst JK;simp;exact⟨by simp[mkF,zBH,okV],by simpa[mkF] using hA⟩
 have JR:((l:Int)==h)=false:=by rw[beq_eq_false_iff_ne];omega
 simp[JR,JK];have JQ:Lcl (zj m n lim ns):=Lcl.mgr;have h0:=hA.alloc (.cells #[.int .i64 0,.int .i64 0,.int .i64 0] 258) (JQ.star hB);refine h0.st (JQ.star hB) (by simp) (by simp) fun w2 h2=>?_;obtain⟨t,ht⟩:∃t,t=w1.heap.size:=⟨_,rfl⟩;rw[<-ht] at h2 ⊢;have JF:=Lcl.obj.star (JQ.star hB) (A:=zL t (.cells (zBh #[.int .i64 0,.int .i64 0,.int .i64 0] 0 [.int .i64 (v:Nat),.int .i64 (l:Nat),.int .i64 (h:Nat)]) 258 (0,0)));have JM:=h2.obj;simp at JM;obtain⟨nv,b,h5⟩:=zj.opn h2.rot;have ho:=h5.obj;have JO:=h5.drop.own;have JP:=h5.drop.drop.map;have JI:zAw w2.drew b ndV zAc zEy (idx ns):=JP;have JW:zEy ⟨v,l,h⟩:=by intro x hx;simp at hx;unfold zY;rcases hx with rfl|rfl|rfl<;>omega
 unfold zGi at ho;simp[zA ho,zA JM];have JZ:zK w2 ⟨t,0,none⟩ 0 3=some (en ⟨v,l,h⟩):=by simp[zK,Addr.add,zA JM,en,zAB]
 simp[JZ];refine JI.look2 (x:=(⟨v,l,h⟩:Nd)) keyN zRC zT6 JW ?_;have JC:=zP7 ns ⟨v,l,h⟩;cases hf:ns.findIdx? fun x=>decide (x=(⟨v,l,h⟩:Nd)) with
 |some k =>
  rw[hf] at JC;simp only[Option.map_some] at JC;have hm:mkF lim ns v l h=(some (k+2),ns):=by simp[mkF,JK,hf]
  simp[JC,zAc];rw[hm];exact⟨by simp[zBH,okV],(h2.drew JF).drop⟩
 |none =>
 rw[hf] at JC;simp only[Option.map_none] at JC;simp[JC,zA ho,JO.len];by_cases JB:lim<=ns.length
 ·have JA:(lim:Int)<=ns.length:=by omega
  have hm:mkF lim ns v l h=(none,ns):=by simp[mkF,JK,hf,JB]
  simp[JB,JA];rw[hm];exact⟨by simp[zBH,zFO,zu],((h2.drew JF).drew JF).drop⟩
 have JA:¬(lim:Int)<=ns.length:=by omega
 have hm:mkF lim ns v l h=(some (ns.length+2),ns++[⟨v,l,h⟩]):=by simp[mkF,JK,hf,JB]
 have h4:=((h2.drew JF).drew JF).drew JF;have JT:Lcl (zC (zL m (zGi n lim nv b)) (zC (zM nv 258 3 en ns) (zC (zIJ b ndV zAc zEy (idx ns)) (zC (zL t (.cells (zBh #[.int .i64 0,.int .i64 0,.int .i64 0] 0 [.int .i64 (v:Nat),.int .i64 (l:Nat),.int .i64 (h:Nat)]) 258 (0,0))) B)))) :=
  Lcl.obj.star (Lcl.own.star (Lcl.map.star (Lcl.obj.star hB)))
 have h6:=((h5.drew JT).drew JT).drew JT;simp[JB,JA,zA ho,JZ,zCm,zW];have e3:zBh #[.int .i64 0,.int .i64 0,.int .i64 0] 0 (en ⟨v,l,h⟩)=(en ⟨v,l,h⟩).toArray:=by simp[en,zAB]
 rw[e3];have h7:=(h6.rot).kp0 (Lcl.own.star (Lcl.obj.star (Lcl.map.star (Lcl.obj.star hB)))) ((Kp.refl [] w2.drew.drew.drew).alloc (.cells (en ⟨v,l,h⟩).toArray 258));refine At.append (xs:=[(⟨v,l,h⟩:Nd)]) (Lcl.obj.star (Lcl.map.star (Lcl.obj.star hB))) h7 zCm zV3 zUr rfl (fun j u hj=>?_) (by omega) (by unfold maxLen;omega) fun v8 w8 h8=>?_
 ·rw[zh,Nat.zero_add,show w2.heap.size=w2.drew.drew.drew.heap.size from rfl,zA zO];simpa using hj
 have h9:=h8.rot;have Ja:=h9.obj;unfold zGi at h9 Ja;simp[h8.own.c1];refine h9.st (Lcl.own.star (Lcl.map.star (Lcl.obj.star hB))) (by simp) (by simp[h8.own.o1]) fun JU JE=>?_;have JL:=Lcl.obj.star (Lcl.own.star (Lcl.map.star (Lcl.obj.star hB))) (A:=zL m (zGi n lim v8 b)) (B:=zC (zM v8 258 3 en (ns++[(⟨v,l,h⟩:Nd)])) (zC (zIJ b ndV zAc zEy (idx ns)) (zC (zL t (.cells (zBh #[.int .i64 0,.int .i64 0,.int .i64 0] 0 [.int .i64 (v:Nat),.int .i64 (l:Nat),.int .i64 (h:Nat)]) 258 (0,0))) B)));have JE:At w F (zC (zL m (zGi n lim v8 b)) (zC (zM v8 258 3 en (ns++[(⟨v,l,h⟩:Nd)])) (zC (zIJ b ndV zAc zEy (idx ns)) (zC (zL t (.cells (zBh #[.int .i64 0,.int .i64 0,.int .i64 0] 0 [.int .i64 (v:Nat),.int .i64 (l:Nat),.int .i64 (h:Nat)]) 258 (0,0))) B)))) JU:=by simpa[zGi] using JE
 have JY:=JE.obj;unfold zGi at JY;have JV:=JE.drop.drop.drop.obj;have JD:=JE.drop.own;simp at JV;have JS:zK JU ⟨t,0,none⟩ 0 3=some (en ⟨v,l,h⟩):=by simp[zK,Addr.add,zA JV,en,zAB]
 simp(disch:=omega)[zA JY,JS,JD.len,zH];have e1:Value.int .i64 ((ns.length:Int)+1+1)=zAc (ns.length+2):=by unfold zAc;congr 1
 rw[e1];have Jb:=(JE.drew JL).drop.drop;refine At.put (x:=(⟨v,l,h⟩:Nd)) (Lcl.obj.star (Lcl.own.star (Lcl.obj.star hB))) ((JE.drew JL).rot3) keyN zRC JW (by rw[zTA];unfold maxLen;omega) fun Jc JG=>?_;have JN:zB5 (idx ns) (⟨v,l,h⟩:Nd) (ns.length+2)=idx (ns++[(⟨v,l,h⟩:Nd)]):=by rw[zPz,zB5,if_neg];simp only[zBw,Option.map_eq_none_iff,List.find?_eq_none] at JC;simp only[List.any_eq_true,not_exists,not_and];exact JC
 rw[JN] at JG;have JG:=JG.rot.rot3.rot;have JX:=JG.obj;unfold zGi at JX;have JH:=JG.drop.own;simp(disch:=omega)[zA JX,JH.len,zH];rw[hm];exact⟨by simp[zBH,okV];omega,(zj.cls JG).rot.drop⟩
theorem zK8(op f g:Nat)(w:World)(JA:op<=2):Calls Tryz.prog 242 [.int .i64 (op:Nat),.int .i64 (f:Nat),.int .i64 (g:Nat)].toArray w fun e w'=>∃x,e=.returned x/\x=.tuple #[.int .i64 ((sh op f g).1:Nat),.bool (sh op f g).2]/\Kp [] w w':=by
 refine enter Tryz.func242 mixed low242 (Nat.le_of_ble_eq_true rfl) ?_;simp only[L242];have e:∀a b:Nat,((a:Int)==(b:Int))=decide (a=b):=fun a b=>by
  by_cases h:a=b
  ·simp[h]
  ·have:((a:Int)==b)=false:=by rw[beq_eq_false_iff_ne];omega
   rw[this];simp[h]
 have e0:∀a:Nat,((a:Int)==0)=decide (a=0):=fun a=>e a 0;have e1:∀a:Nat,((a:Int)==1)=decide (a=1):=fun a=>e a 1;unfold sh;have hc:op=0\/op=1\/op=2:=by omega
 rcases hc with rfl|rfl|rfl
 ·by_cases h1:f=0
  ·subst h1;simp;exact Kp.refl _ _
  by_cases h2:g=0
  ·subst h2;simp[e0,h1];exact Kp.refl _ _
  by_cases h3:f=1
  ·subst h3;simp[e0,h2];exact Kp.refl _ _
  by_cases h4:f=g
  ·subst h4;simp[e0,e1,h1,h3];exact Kp.refl _ _
  ·simp[e0,e1,e,h1,h2,h3,h4];exact Kp.refl _ _
 ·by_cases h1:f=1
  ·subst h1;simp;exact Kp.refl _ _
  by_cases h2:g=1
  ·subst h2;simp[e1,h1];exact Kp.refl _ _
  by_cases h3:f=0
  ·subst h3;simp[e1,h2];exact Kp.refl _ _
  by_cases h4:f=g
  ·subst h4;simp[e0,e1,h1,h3];exact Kp.refl _ _
  ·simp[e0,e1,e,h1,h2,h3,h4];exact Kp.refl _ _
 ·by_cases h4:f=g
  ·subst h4;simp;exact Kp.refl _ _
  by_cases h3:f=0
  ·subst h3;have h5:((0:Int)==g)=false:=by rw[beq_eq_false_iff_ne];omega
   simp[h5,h4];exact Kp.refl _ _
  ·simp[e0,e1,e,h3,h4];exact Kp.refl _ _
end
section
open Go Go.W Go.Bd Go.Maps
def p2V(p:Nat×Nat):Value:=.agg (zAB [p.1,p.2]).toArray
def zMt(p:Nat×Nat):Prop:=∀x∈[p.1,p.2],zY x
theorem key2:zCs Tryz.prog 343 p2V zMt:={
 keyed:=Keyed.of_law (deep_law_laid zKf (m:=5) (by omega) (of_decide_eq_true (by kernel_rfl)) (by kernel_rfl) (by kernel_rfl))
 lit:=fun d hd=>zNP Tryz.underlying343 Tryz.underlying3 (by kernel_rfl) (by kernel_rfl) (by kernel_rfl) (m:=Tryz.prog.types.size-1) (by kernel_rfl) rfl hd
 inj:=fun x y h=>by have:=zKG h;cases x;cases y;simp at this;simp[this] }
abbrev zLs(b:Nat)(M:zIQ):Asr:=zIJ b p2V zAc zMt M
def zKq(m n lim op:Nat)(S:Nat->Nat->Prop)(ns:Ns)(M:zIQ)(f g b:Nat)(B:Asr)(w:World)(F:List Nat)(v:Value)(w':World):Prop :=
 ∃r ns' M',v=zBH r/\zFg n lim op S ns M f g r ns' M'/\At w F (zC (zj m n lim ns') (zC (zLs b M') B)) w'
def ApE(m op p q b:Nat)(ρ:Env):Prop:=ρ 0=.pointer (some ⟨m,0,none⟩)/\ρ 1=.int .i64 (op:Nat)/\ρ 2=.int .i64 (p:Nat)/\ρ 3=.int .i64 (q:Nat)/\ρ 4=.map (some b)
theorem zFA{κ α:Type}[DecidableEq κ]{l:List (κ×α)}{x:κ}{v:α}(h:zBw l x=some v):(x,v)∈l:=by
 rw[zBw,Option.map_eq_some_iff] at h;obtain⟨q,hq,rfl⟩:=h;have h1:=List.mem_of_find?_eq_some hq;have h2:q.1=x:=by simpa using List.find?_some hq
 rw[<-h2];exact h1
theorem zTE{κ α:Type}[DecidableEq κ]{l:List (κ×α)}{x:κ}(h:zBw l x=none):∀q∈l,q.1≠x:=by
 rw[zBw,Option.map_eq_none_iff,List.find?_eq_none] at h;intro q hq;simpa using h q hq
theorem zSW{κ α:Type}[DecidableEq κ]{l:List (κ×α)}{x:κ}{v:α}(h:∀q∈l,q.1≠x):zB5 l x v=l++[(x,v)]:=by
 rw[zB5,if_neg];simp only[List.any_eq_true,decide_eq_true_eq,not_exists,not_and];exact h
theorem zAw.nodup{κ α:Type}{ek:κ->Value}{ev:α->Value}{ok:κ->Prop}{w:World}{b:Nat}{l:List (κ×α)}(h:zAw w b ek ev ok l):(l.map (·.1)).Nodup:=by
 obtain⟨es,clock,_,_,_,_,JA,_⟩:=h;exact JA
theorem zOg(m n lim op b:Nat)(Jn:op<=2)(S:Nat->Nat->Prop)(w:World)(F:List Nat):∀(d f g:Nat) (ns:Ns) (M:zIQ) (B:Asr) (w1:World),Lcl B->Wf n ns->Bnd n lim ns->Ref ns f->Ref ns g->n<=d+min (tv n ns f) (tv n ns g)->zHA op ns M->Clo n op ns S->Sn op S f g ->
  At w F (zC (zj m n lim ns) (zC (zLs b M) B)) w1 ->
  Calls Tryz.prog 216 [.pointer (some ⟨m,0,none⟩),.int .i64 (op:Nat),.int .i64 (f:Nat),.int .i64 (g:Nat),.map (some b)].toArray w1 fun e w'=>∃v,e=.returned v/\zKq m n lim op S ns M f g b B w F v w':=by
 intro d
 induction d using Nat.strongRecOn with
 |ind d ih =>
 intro f g ns M B w1 hB hw hb hf hg hd hM hC hS hA;obtain⟨Ja,Jb,JZ⟩:=hb;refine enter Tryz.func216 mixed low216 (Nat.le_of_ble_eq_true rfl) ?_;simp only[L216];refine za (fun ρ w'=>ApE m op f g b ρ/\w'=w1) (by simp[ApE]) ?_;rintro ρ w' ⟨⟨g0,g1,g2,g3,g4⟩,rfl⟩;refine za (fun ρ w''=>ApE m op (min f g) (max f g) b ρ/\w''=w') ?_ ?_
 ·rcases Nat.lt_or_ge g f with h|h
  ·have h':(g:Int)<f:=by omega
   simp[g2,g3,h,h',ApE,g0,g1,g4];omega
  ·have h':¬(g:Int)<f:=by omega
   have Jy:¬g<f:=by omega
   simp[g2,g3,h',Jy,ApE,g0,g1,g4];omega
 clear g0 g1 g2 g3 g4;rintro ρ w2 ⟨⟨g0,g1,g2,g3,g4⟩,rfl⟩;have JC:∀v w'',zKq m n lim op S ns M (min f g) (max f g) b B w F v w''->zKq m n lim op S ns M f g b B w F v w'':=by
  rintro v w'' ⟨r,ns',M',h1,h2,h3⟩;refine⟨r,ns',M',h1,?_,h3⟩;rcases Nat.le_total f g with h|h
  ·rwa[Nat.min_eq_left h,Nat.max_eq_right h] at h2
  ·rw[Nat.min_eq_right h,Nat.max_eq_left h] at h2;exact h2.swap
 have Je:min f g<=max f g:=by omega
 have JU:Ref ns (min f g):=by unfold Ref at *;omega
 have JT:Ref ns (max f g):=by unfold Ref at *;omega
 have Jq:n<=d+min (tv n ns (min f g)) (tv n ns (max f g)):=by
  rcases Nat.le_total f g with h|h
  ·rwa[Nat.min_eq_left h,Nat.max_eq_right h]
  ·rw[Nat.min_eq_right h,Nat.max_eq_left h,Nat.min_comm];exact hd
 unfold Sn at hS;obtain⟨p,hp⟩:∃p,p=min f g:=⟨_,rfl⟩;obtain⟨q,hq⟩:∃q,q=max f g:=⟨_,rfl⟩;rw[<-hp,<-hq] at JC Je Jq hS;rw[<-hp] at JU g2;rw[<-hq] at JT g3;refine za (fun ρ w''=>ApE m op p q b ρ/\(sh op p q).2=false/\At w F (zC (zj m n lim ns) (zC (zLs b M) B)) w'') ?_ ?_
 ·simp[g1,g2,g3];refine zG (zK8 op p q w2 Jn) ?_;rintro v w3 ⟨rfl,k3⟩;have h3:=hA.kp0 (Lcl.mgr.star (Lcl.map.star hB)) k3;cases Jm:sh op p q with
  |mk r t =>
  cases t with
  |true =>simp;refine JC _ _ ⟨some r,ns,M,rfl,zQe hw JZ JU JT hM Jm,h3⟩
  |false =>simp[ApE,g0,g1,g2,g3,g4];exact h3
 clear g0 g1 g2 g3 g4;rintro ρ w3 ⟨⟨g0,g1,g2,g3,g4⟩,JK,h3⟩;have JS:S p q:=by
  rcases hS with h|h
  ·rw[h] at JK;cases JK
  ·exact h
 have Jf:zMt (p,q):=by
  intro x hx;unfold zY Ref at *
  simp at hx;rcases hx with rfl|rfl<;>omega
 refine za (fun ρ w''=>ApE m op p q b ρ/\zBw M (p,q)=none/\At w F (zC (zj m n lim ns) (zC (zLs b M) B)) w'') ?_ ?_
 ·simp[g2,g3,g4];refine zAw.look2 (x:=(p,q)) h3.drop.map key2 Tryz.underlying319 zT6 Jf ?_;cases JW:zBw M (p,q) with
  |some r =>simp[zAc];exact JC _ _ ⟨some r,ns,M,rfl,zQf hw JZ hM (zFA JW),h3⟩
  |none =>simp[ApE,g0,g1,g2,g3,g4];exact h3
 clear g0 g1 g2 g3 g4;rintro ρ w4 ⟨⟨g0,g1,g2,g3,g4⟩,JW,h4⟩;have Jd:Bnd n lim ns:=⟨Ja,Jb,JZ⟩;have JI:Lcl (zC (zj m n lim ns) (zC (zLs b M) B)):=Lcl.mgr.star (Lcl.map.star hB);refine za (fun ρ w''=>ApE m op p q b ρ/\∃ta tb,ρ 16=.pointer (some ⟨ta,0,none⟩)/\ρ 17=.pointer (some ⟨tb,0,none⟩) /\
   At w F (zC (zL ta (.cells (en (at_ n ns p)).toArray 258 (0,0))) (zC (zL tb (.cells (en (at_ n ns q)).toArray 258 (0,0))) (zC (zj m n lim ns) (zC (zLs b M) B)))) w'') ?_ ?_
 ·simp[g0,g2,g3];refine zG (zBR m n lim p ns w4 (zj.rd h4) Jd JU) ?_;rintro v w5 ⟨rfl,k5⟩;have h5:=h4.kp0 JI k5;simp[g0,g2,g3];refine zG (zBR m n lim q ns w5 (zj.rd h5) Jd JT) ?_;rintro v w6 ⟨rfl,k6⟩;have h6:=h5.kp0 JI k6;obtain⟨a1,Js⟩:∃d,d=at_ n ns p:=⟨_,rfl⟩;obtain⟨b1,Jc⟩:∃d,d=at_ n ns q:=⟨_,rfl⟩;rw[<-Js,<-Jc];have h7:=h6.alloc (.cells #[.int .i64 0,.int .i64 0,.int .i64 0] 258) JI;have h8:=h7.alloc (.cells #[.int .i64 0,.int .i64 0,.int .i64 0] 258) (Lcl.obj.star JI);rw[show(w6.alloc (.cells #[.int .i64 0,.int .i64 0,.int .i64 0] 258)).heap.size=w6.heap.size+1 by simp] at h8;simp[ndV,zCm];refine h8.rot.st (Lcl.obj.star JI) (by simp[en,zAB]) (by simp[en,zAB]) fun w9 h9=>?_;simp[ndV,zCm];refine h9.rot.st (Lcl.obj.star JI) (by simp[en,zAB]) (by simp[en,zAB]) fun Jj JO=>?_;simp[ApE,g0,g1,g2,g3,g4];have e3:∀d:Nd,zBh #[.int .i64 0,.int .i64 0,.int .i64 0] 0 (en d)=(en d).toArray:=fun d=>by simp[en,zAB]
  rw[e3,e3] at JO;exact JO.rot
 clear g0 g1 g2 g3 g4;rintro ρ w5 ⟨⟨g0,g1,g2,g3,g4⟩,ta,tb,JE,JD,h5⟩;have JA:zFb n op S ns M p q (min (tv n ns p) (tv n ns q)):=zFb.mk' hw JU JT JS Je JK (zTE JW);obtain⟨v,hv⟩:∃v,v=min (tv n ns p) (tv n ns q):=⟨_,rfl⟩;rw[<-hv] at JA;have J3:∀x,Ref ns x->x<=1048577:=fun x hx=>by unfold Ref at hx;omega
 have JL:=h5.obj;have JH:=h5.drop.obj;refine za (fun ρ w''=>ApE m op p q b ρ/\ρ 16=.pointer (some ⟨ta,0,none⟩)/\ρ 17=.pointer (some ⟨tb,0,none⟩)/\ρ 18=.int .i64 (v:Nat)/\w''=w5) ?_ ?_
 ·simp[JE,JD,zA JL,zA JH,en,zAB,ApE,g0,g1,g2,g3,g4];have:tv n ns p=(at_ n ns p).v:=rfl;have:tv n ns q=(at_ n ns q).v:=rfl;omega
 clear g0 g1 g2 g3 g4 JE JD;rintro ρ w6 ⟨⟨g0,g1,g2,g3,g4⟩,JE,JD,JG,rfl⟩;have Jv:Lcl (zC (zL tb (.cells (en (at_ n ns q)).toArray 258 (0,0))) (zC (zj m n lim ns) (zC (zLs b M) B))):=Lcl.obj.star JI;refine za (fun ρ w''=>ApE m op p q b ρ/\ρ 16=.pointer (some ⟨ta,0,none⟩)/\ρ 17=.pointer (some ⟨tb,0,none⟩)/\ρ 18=.int .i64 (v:Nat) /\
   At w F (zC (zL ta (.cells (en ⟨v,lo n ns v p,hi n ns v p⟩).toArray 258 (0,0))) (zC (zL tb (.cells (en (at_ n ns q)).toArray 258 (0,0))) (zC (zj m n lim ns) (zC (zLs b M) B)))) w'') ?_ ?_
 ·have e:tv n ns p=(at_ n ns p).v:=rfl;by_cases JF:v<(at_ n ns p).v
  ·have JB:(v:Int)<(at_ n ns p).v:=by omega
   simp[JE,JG,g2,zA JL,en,zAB,JF,JB];refine h5.st Jv (by simp[en,zAB]) (by simp) fun w7 h7=>?_;simp[ApE,g0,g1,g2,g3,g4,JE,JD,JG];have JM:lo n ns v p=p:=by unfold lo;rw[if_pos (by rw[e];exact JF)]
   have JN:hi n ns v p=p:=by unfold hi;rw[if_pos (by rw[e];exact JF)]
   rw[JM,JN];simpa[en,zAB] using h7
  ·have JB:¬(v:Int)<(at_ n ns p).v:=by omega
   have JY:(at_ n ns p).v=v:=by rw[e] at hv;omega
   have JM:lo n ns v p=(at_ n ns p).low:=by unfold lo;rw[if_neg (by rw[e];exact JF)]
   have JN:hi n ns v p=(at_ n ns p).high:=by unfold hi;rw[if_neg (by rw[e];exact JF)]
   simp[JE,JG,g2,zA JL,en,zAB,JF,JB,ApE,g0,g1,g3,g4,JD];rw[JM,JN];have Jx:=h5;simpa[en,zAB,JY] using Jx
 clear g0 g1 g2 g3 g4 JE JD JG;rintro ρ w7 ⟨⟨g0,g1,g2,g3,g4⟩,JE,JD,JG,h7⟩;have JH:=h7.drop.obj;have Jw:Lcl (zC (zL ta (.cells (en ⟨v,lo n ns v p,hi n ns v p⟩).toArray 258 (0,0))) (zC (zj m n lim ns) (zC (zLs b M) B))):=Lcl.obj.star JI;refine za (fun ρ w''=>ApE m op p q b ρ/\ρ 16=.pointer (some ⟨ta,0,none⟩)/\ρ 17=.pointer (some ⟨tb,0,none⟩)/\ρ 18=.int .i64 (v:Nat) /\
   At w F (zC (zL ta (.cells (en ⟨v,lo n ns v p,hi n ns v p⟩).toArray 258 (0,0))) (zC (zL tb (.cells (en ⟨v,lo n ns v q,hi n ns v q⟩).toArray 258 (0,0))) (zC (zj m n lim ns) (zC (zLs b M) B)))) w'') ?_ ?_
 ·have e:tv n ns q=(at_ n ns q).v:=rfl;by_cases JF:v<(at_ n ns q).v
  ·have JB:(v:Int)<(at_ n ns q).v:=by omega
   simp[JD,JG,g3,zA JH,en,zAB,JF,JB];refine h7.rot.st Jw (by simp[en,zAB]) (by simp) fun w8 h8=>?_;simp[ApE,g0,g1,g2,g3,g4,JE,JD,JG];have JM:lo n ns v q=q:=by unfold lo;rw[if_pos (by rw[e];exact JF)]
   have JN:hi n ns v q=q:=by unfold hi;rw[if_pos (by rw[e];exact JF)]
   rw[JM,JN];simpa[en,zAB] using h8.rot
  ·have JB:¬(v:Int)<(at_ n ns q).v:=by omega
   have JY:(at_ n ns q).v=v:=by rw[e] at hv;omega
   have JM:lo n ns v q=(at_ n ns q).low:=by unfold lo;rw[if_neg (by rw[e];exact JF)]
   have JN:hi n ns v q=(at_ n ns q).high:=by unfold hi;rw[if_neg (by rw[e];exact JF)]
   simp[JD,JG,g3,zA JH,en,zAB,JF,JB,ApE,g0,g1,g2,g4,JE];rw[JM,JN];simpa[en,zAB,JY] using h7
 clear g0 g1 g2 g3 g4 JE JD JG;rintro ρ w8 ⟨⟨g0,g1,g2,g3,g4⟩,JE,JD,JG,h8⟩;have JR:=hC p q JS;rw[<-hv] at JR;obtain⟨_,_,Jt,Ju⟩:=JR;have JQ:=JA.cp;have JP:=JA.cq;have JV:Lcl (zC (zL ta (.cells (en ⟨v,lo n ns v p,hi n ns v p⟩).toArray 258 (0,0))) (zC (zL tb (.cells (en ⟨v,lo n ns v q,hi n ns v q⟩).toArray 258 (0,0))) B)):=Lcl.obj.star (Lcl.obj.star hB);have JL:=h8.obj;have JH:=h8.drop.obj;simp[g0,g1,g4,JE,JD,zA JL,zA JH,en,zAB];have tl1:=JQ.tl;have tl2:=JP.tl;have th1:=JQ.th;have th2:=JP.th;have Jl:=JA.vn;refine zG (ih (d-1) (by omega) (lo n ns v p) (lo n ns v q) ns M _ w8 JV hw Jd JQ.rl JP.rl (by omega) hM hC Jt h8.rot4.rot4) ?_;rintro _ w9 ⟨r1,ns1,M1,rfl,hl,h9⟩;have drp:∀{nsx:Ns} {Mx:zIQ} {wx:World},At w F (zC (zj m n lim nsx) (zC (zLs b Mx) (zC (zL ta (.cells (en ⟨v,lo n ns v p,hi n ns v p⟩).toArray 258 (0,0))) (zC (zL tb (.cells (en ⟨v,lo n ns v q,hi n ns v q⟩).toArray 258 (0,0))) B)))) wx->At w F (zC (zj m n lim nsx) (zC (zLs b Mx) B)) wx:=fun h=>h.by (Imp.un (Imp.un (Imp.dr.trans Imp.dr)));cases r1 with
 |none =>simp[zBH,zFO,zu];exact JC _ _ ⟨none,ns1,M1,rfl,zWi JA hl,drp h9⟩
 |some l =>
 have Jk:=hl.ext.wf;have Jc:Bnd n lim ns1:=⟨Ja,Jb,hl.lim⟩;have JL:=h9.drop.drop.obj;have JH:=h9.drop.drop.drop.obj;simp[zBH,okV,g0,g1,g4,JE,JD,zA JL,zA JH,en,zAB];refine zG (ih (d-1) (by omega) (hi n ns v p) (hi n ns v q) ns1 M1 _ w9 JV Jk Jc (hl.ext.ref JQ.rh) (hl.ext.ref JP.rh) (by rw[hl.ext.tv JQ.rh,hl.ext.tv JP.rh];omega) hl.mem (hC.ext hl.ext) Ju h9) ?_;rintro _ Jj ⟨r2,ns2,M2,rfl,hh,JO⟩;rw[<-zD1 hl.ext JA.rp,<-zD1 hl.ext JA.rq] at hh;cases r2 with
 |none =>simp[zBH,zFO,zu];exact JC _ _ ⟨none,ns2,M2,rfl,zTv JA hl hh,drp JO⟩
 |some JX =>
 have hm:=zKh JA hl hh;have Jg:=zJL JA hl hh;have Jr:Bnd n lim ns2:=⟨Ja,Jb,hm.lim⟩;have J4:=hm.lim;have J1:=JA.vn;have Jo:l<=2000000:=by have:=Jg.1;unfold Ref at this;omega
 have Jp:JX<=2000000:=by have:=Jg.2.1;unfold Ref at this;omega
 simp[zBH,okV,g0,JG];refine zG (zDM m n lim ns2 v l JX (Lcl.map.star JV) JO Jr (by omega) Jo Jp) ?_;rintro _ J0 ⟨rfl,Ji⟩;cases hk:(mkF lim ns2 v l JX).1 with
 |none =>simp[zBH,zFO,zu];exact JC _ _ ⟨none,_,M2,rfl,zTw JA hl hh hk,drp Ji⟩
 |some x =>
 simp[zBH,okV,g2,g3,g4];have J2:=zNA (N:=1048578) (by omega) (fun q hq=>⟨(hm.mem q hq).1,(hm.mem q hq).2.1⟩) (zAw.nodup JO.drop.map);refine At.put (x:=(p,q)) (v:=x) (Lcl.mgr.star JV) Ji.rot key2 Tryz.underlying319 Jf (by unfold maxLen;omega) fun Jz Jh=>?_;rw[zSW (zHm JA hm)] at Jh;simp;exact JC _ _ ⟨some x,_,_,rfl,zTx JA hl hh hk,drp Jh.rot⟩
theorem zDU{w w1:World}{F:List Nat}{B:Asr}(m n lim op b f g:Nat)(JA:op<=2)(S:Nat->Nat->Prop)(ns:Ns)(M:zIQ)(hB:Lcl B)(hw:Wf n ns)(hb:Bnd n lim ns)(hf:Ref ns f)(hg:Ref ns g)(hM:zHA op ns M)(hC:Clo n op ns S)(hS:Sn op S f g)
  (hA:At w F (zC (zj m n lim ns) (zC (zLs b M) B)) w1) :
  Calls Tryz.prog 216 [.pointer (some ⟨m,0,none⟩),.int .i64 (op:Nat),.int .i64 (f:Nat),.int .i64 (g:Nat),.map (some b)].toArray w1 fun e w'=>∃v,e=.returned v/\zKq m n lim op S ns M f g b B w F v w' :=
 zOg m n lim op b JA S w F n f g ns M B w1 hB hw hb hf hg (by omega) hM hC hS hA
def iv(n:Int):List Value:=[.int .i64 n]
theorem zHt(n:Int):(iv n).length=1:=rfl
theorem zNX(n:Int):(iv n).all zAn=true:=rfl
theorem zA8{w:World}{v:Value}{xs:List Int}(h:Vw w v iv xs){k:Nat}{x:Int}(hx:xs[k]? = some x):w.cell? (v.adr.add k)=some (.int .i64 x):=Vw.cell (f:=fun n:Int=>.int .i64 n) h hx
def zFj(ns:Ns)(x:Int):Bool:=decide (0<=x)&&decide (x<ns.length+2)
def zFQ(b:Bool):Value:=if b then .nilIface else zu 1
theorem zCb(m n lim:Nat)(ns:Ns)(v:Value)(xs:List Int)(w:World)(h:zOx w m n lim ns)(hb:Bnd n lim ns)(hv:Vw w v iv xs)(hx:xs.length<=1000000) :
  Calls Tryz.prog 150 [.pointer (some ⟨m,0,none⟩),v].toArray w fun e w'=>∃x,e=.returned x/\x=zFQ (xs.all (zFj ns))/\Kp [] w w':=by
 obtain⟨JG,JH,JF⟩:=hb;refine enter Tryz.func150 mixed low150 (Nat.le_of_ble_eq_true rfl) ?_;simp only[L150];simp[hv.len];refine zF (n:=xs.length) (by omega) (fun k ρ w1=>ρ 0=.pointer (some ⟨m,0,none⟩)/\ρ 10=v/\(∀j x,j<k->xs[j]? = some x->zFj ns x=true)/\Kp [] w w1) (by simp) (by simp)
  ⟨by simp,by simp,by simp,Kp.refl _ _⟩ (by decide) (fun _ _ _ _ h=>by simpa using h) (fun _ _ _ _ h=>by simpa using h) ?_ ?_
 ·rintro k ρ w1 hk hc JC ⟨g0,g10,hall,JB⟩;have JD:=hv.kp0 JB;obtain⟨nv,b,ho,JA,_⟩:=h.kp0 JB;have ek:xs[k]? = some xs[k]:=List.getElem?_eq_getElem hk;obtain⟨x,JE⟩:∃x,x=xs[k]:=⟨_,rfl⟩;rw[<-JE] at ek;have bad:zFj ns x=false->xs.all (zFj ns)=false:=fun h=>by rw[List.all_eq_false];exact⟨x,List.mem_of_getElem? ek,by simp[h]⟩
  unfold zGi at ho;simp(disch:=omega)[g0,g10,hc,JD.idx,zA8 JD ek,zA ho,JA.len,zH];by_cases h1:x<0
  ·simp[h1];refine⟨?_,JB⟩;rw[bad (by simp[zFj];omega)];rfl
  by_cases h2:(ns.length:Int)+2<=x
  ·simp(disch:=omega)[h1,h2,zH,zA ho,JA.len,g0];refine⟨?_,JB⟩;rw[bad (by simp[zFj];omega)];rfl
  ·simp(disch:=omega)[h1,h2,zH,zA ho,JA.len,hc,JC,g0,g10];refine⟨fun j y hj hy=>?_,JB⟩;rcases Nat.lt_or_ge j k with h3|h3
   ·exact hall j y h3 hy
   ·have:j=k:=by omega
    subst this;rw[ek] at hy;rw[<-Option.some.inj hy];simp[zFj];omega
 ·rintro ρ w1 ⟨g0,g10,hall,JB⟩;simp;refine⟨?_,JB⟩;have:xs.all (zFj ns)=true:=by rw[List.all_eq_true];intro x hx;obtain⟨j,hj⟩:=List.getElem?_of_mem hx;exact hall j x (List.getElem?_eq_some_iff.1 hj).1 hj
  rw[this];rfl
end
section
open Go Go.W Go.Bd Go.Maps
theorem zPi{w w1:World}{F:List Nat}{B:Asr}(n lim:Nat)(hB:Lcl B)(hA:At w F B w1)(hn:n<=256)(h1:1<=lim)(h2:lim<=1048576) :
  Calls Tryz.prog 82 [.int .i64 (n:Nat),.int .i64 (lim:Nat)].toArray w1 fun e w'=>∃x,e=.returned x/\∃m,x=.tuple #[.pointer (some ⟨m,0,none⟩),.nilIface]/\At w F (zC (zj m n lim []) B) w':=by
 refine enter Tryz.func82 mixed low82 (Nat.le_of_ble_eq_true rfl) ?_;simp only[L82];have a1:¬(n:Int)<0:=by omega
 have a2:¬(256:Int)<n:=by omega
 have a3:¬(lim:Int)<1:=by omega
 have a4:¬(1048576:Int)<lim:=by omega
 simp[a1,a2,a3,a4];have h3:=hA.newmap (ek:=ndV) (ev:=zAc) (ok:=zEy) hB;have h4:=h3.alloc (.cells #[.int .i64 n,.int .i64 lim,.slice none 0 0,.map (some w1.heap.size)] 239 (0,0)) (Lcl.map.star hB);rw[show(w1.alloc (.map #[] 0)).heap.size=w1.heap.size+1 by simp] at h4;have h5:=At.nil (E:=258) (sz:=3) (enc:=en) (Lcl.obj.star (Lcl.map.star hB)) h4;exact zj.cls (ns:=[]) (nv:=.slice none 0 0) h5.rot
theorem zO4{w w1:World}{F:List Nat}{B:Asr}(m n lim:Nat)(ns:Ns)(i:Nat)(hB:Lcl B)(hA:At w F (zC (zj m n lim ns) B) w1)(hb:Bnd n lim ns)(hi:i<n) :
  Calls Tryz.prog 155 [.pointer (some ⟨m,0,none⟩),.int .i64 (i:Nat)].toArray w1 fun e w'=>∃x,e=.returned x/\x=zBH (mkF lim ns i 0 1).1/\At w F (zC (zj m n lim (mkF lim ns i 0 1).2) B) w':=by
 have JC:=hb.hn;refine enter Tryz.func155 mixed low155 (Nat.le_of_ble_eq_true rfl) ?_;simp only[L155];obtain⟨nv,b,ho,JA,_⟩:=zj.rd hA;unfold zGi at ho;have h1:¬(i:Int)<0:=by omega
 have h2:¬(n:Int)<=i:=by omega
 have JB:¬n<=i:=by omega
 simp[h1,h2,JB,zA ho];refine zG (zDM m n lim ns i 0 1 hB hA hb (by omega) (by omega) (by omega)) ?_;rintro v w2 ⟨rfl,h3⟩;cases hk:(mkF lim ns i 0 1).1<;>simp[zBH,okV,zFO,zu]<;>exact h3
theorem zEK{w w1:World}{F:List Nat}{B:Asr}{xs:List Int}{cs:Array Value}(hB:Lcl B)(h:At w F B w1)(JA:cs.toList=xs.flatMap iv)(hn:xs.length<=1000000){m:Nat}(hm:m=xs.length) :
  At w F (zC (zM (.slice (some ⟨w1.heap.size,0,none⟩) m m) 3 1 iv xs) B) (w1.alloc (.cells cs 3)) :=
 h.lit hB JA zHt (by unfold maxLen;omega) hm
def zT4(m n lim op:Nat)(S:Nat->Nat->Prop)(ns:Ns)(f g:Nat)(B:Asr)(w:World)(F:List Nat)(v:Value)(w':World):Prop :=
 ∃r ns',v=zBH r/\zJS n lim op S ns f g r ns'/\At w F (zC (zj m n lim ns') B) w'
theorem zAe{w w1:World}{F:List Nat}{B:Asr}(m n lim:Nat)(ns:Ns)(op f g:Nat)(S:Nat->Nat->Prop)(JB:op<=2)(hB:Lcl B)(hA:At w F (zC (zj m n lim ns) B) w1)(hw:Wf n ns)(hb:Bnd n lim ns)(hf:Ref ns f)(hg:Ref ns g)(hC:Clo n op ns S)(hS:Sn op S f g) :
  Calls Tryz.prog 153 [.pointer (some ⟨m,0,none⟩),.int .i64 (op:Nat),.int .i64 (f:Nat),.int .i64 (g:Nat)].toArray w1 fun e w'=>∃x,e=.returned x/\zT4 m n lim op S ns f g B w F x w':=by
 refine enter Tryz.func153 mixed low153 (Nat.le_of_ble_eq_true rfl) ?_;simp only[L153];have hl:Lcl (zC (zj m n lim ns) B):=Lcl.mgr.star hB;have h1:=zEK (xs:=[(f:Int),(g:Int)]) (cs:=#[.int .i64 f,.int .i64 g]) hl hA rfl (by simp) rfl;simp[zW];refine zG (zCb m n lim ns _ [(f:Int),(g:Int)] _ (zj.rd h1.drop) hb h1.own.vw (by simp)) ?_;rintro v w2 ⟨rfl,k2⟩;have h2:=(h1.drop).kp0 hl k2;have:[(f:Int),(g:Int)].all (zFj ns)=true:=by unfold Ref at hf hg;simp[zFj];omega
 rw[this];simp[zFQ];have h3:=(h2.newmap (ek:=p2V) (ev:=zAc) (ok:=zMt) hl).rot;refine zG (zDU m n lim op _ f g JB S ns [] hB hw hb hf hg (fun q hq=>by cases hq) hC hS h3) ?_;rintro _ w4 ⟨r,ns',M',rfl,JC,h4⟩;have JA:=zIG JC (zAw.nodup h4.drop.map);cases r with
 |none=>simp[zBH,zFO,zu];exact⟨none,ns',rfl,JA,h4.by (Imp.un Imp.dr)⟩
 |some x=>simp[zBH,okV];exact⟨some x,ns',rfl,JA,h4.by (Imp.un Imp.dr)⟩
end
section
open Go Go.W Go.Bd Go.Maps
theorem zBm:zCs Tryz.prog 3 zAc zY:={
 keyed:=int_keyed Tryz.underlying3
 lit:=fun d hd=>⟨_,keyOf_int_mk Tryz.underlying3 (zL4 hd)⟩
 inj:=fun x y h=>by injection h with _ h;omega }
abbrev zFY(b:Nat)(M:zFZ):Asr:=zIJ b zAc zAc zY M
def bv(b:Bool):List Value:=[.bool b]
theorem zIE(b:Bool):(bv b).length=1:=rfl
theorem zOU(b:Bool):(bv b).all zAn=true:=rfl
theorem zOV{w:World}{v:Value}{xs:List Bool}(h:Vw w v bv xs){k:Nat}{x:Bool}(hx:xs[k]? = some x):w.cell? (v.adr.add k)=some (.bool x):=Vw.cell (f:=Value.bool) h hx
def inB(ins:List Bool)(i:Nat):Bool:=ins.getD i false
def QPost(m n lim op:Nat)(ins:List Bool)(iv:Value)(ns:Ns)(f b:Nat)(B:Asr)(w:World)(F:List Nat)(v:Value)(w':World):Prop :=
 ∃r ns' M',v=zBH r/\QOk n lim op (inB ins) ns f r ns' M'/\At w F (zC (zj m n lim ns') (zC (zFY b M') (zC (VwA iv bv ins) B))) w'
theorem zBW{κ α:Type}[DecidableEq κ]{l:List (κ×α)}{x:κ}{v:α}{q:κ×α}(h:q∈zB5 l x v):q∈l\/q=(x,v):=by
 unfold zB5 at h;split at h
 ·obtain⟨p,hp,e⟩:=List.mem_map.1 h;split at e
  ·exact .inr e.symm
  ·exact .inl (e ▸ hp)
 ·rcases List.mem_append.1 h with h|h
  ·exact .inl h
  ·simp at h;exact .inr h
theorem zHg(m n lim op b:Nat)(JY:op<=1)(ins:List Bool)(iv:Value)(Jk:ins.length=n+1)(w:World)(F:List Nat):∀(d f:Nat) (ns:Ns) (M:zFZ) (B:Asr) (w1:World),Lcl B->Wf n ns->Bnd n lim ns->Ref ns f->f<=d->zRn op (inB ins) ns M ->
  At w F (zC (zj m n lim ns) (zC (zFY b M) (zC (VwA iv bv ins) B))) w1 ->
  Calls Tryz.prog 241 [.pointer (some ⟨m,0,none⟩),.int .i64 (op:Nat),.int .i64 (f:Nat),iv,.map (some b)].toArray w1 fun e w'=>∃v,e=.returned v/\QPost m n lim op ins iv ns f b B w F v w':=by
 intro d
 induction d using Nat.strongRecOn with
 |ind d ih =>
 intro f ns M B w1 hB hw hb hf hd hM hA;obtain⟨JQ,JR,JP⟩:=hb;have Jb:Bnd n lim ns:=⟨JQ,JR,JP⟩;have Jp:Lcl (zC (VwA iv bv ins) B):=Lcl.vw.star hB;have JS:Lcl (zC (zj m n lim ns) (zC (zFY b M) (zC (VwA iv bv ins) B))):=Lcl.mgr.star (Lcl.map.star Jp);have Jq:f<=1048578:=by unfold Ref at hf;omega
 refine enter Tryz.func241 mixed low241 (Nat.le_of_ble_eq_true rfl) ?_;simp only[L241];by_cases h2:f<2
 ·have JT:(f:Int)<2:=by omega
  simp[JT];exact⟨some f,ns,M,rfl,zSV hw JP hf h2 hM,hA⟩
 have JT:¬(f:Int)<2:=by omega
 simp[JT];refine zAw.look2 (x:=f) hA.drop.map zBm Tryz.underlying159 zT6 (show zY f by unfold zY;omega) ?_;cases Jm:zBw M f with
 |some r =>simp[zAc];exact⟨some r,ns,M,rfl,zSU hw JP hM (zFA Jm),hA⟩
 |none =>
 simp;refine zG (zBR m n lim f ns w1 (zj.rd hA) Jb hf) ?_;rintro v w2 ⟨rfl,k2⟩;have h3:=(hA.kp0 JS k2).alloc (.cells #[.int .i64 0,.int .i64 0,.int .i64 0] 258) JS;simp[ndV,zCm];refine h3.st JS (by simp[en,zAB]) (by simp[en,zAB]) fun w4 h4=>?_;have e3:∀d:Nd,zBh #[.int .i64 0,.int .i64 0,.int .i64 0] 0 (en d)=(en d).toArray:=fun d=>by simp[en,zAB]
 rw[e3] at h4;obtain⟨t,ht⟩:∃t,t=w2.heap.size:=⟨_,rfl⟩;rw[<-ht] at h4 ⊢;have h5:=h4.tor4;have JF:Lcl (zC (zL t (.cells (en (at_ n ns f)).toArray 258 (0,0))) B):=Lcl.obj.star hB;have JE:=h4.obj;have JB:2<=f:=by omega
 have l1:=hw.lt_low JB hf;have l2:=hw.lt_high JB hf;have tvn:=hw.tv_var JB hf;have etv:tv n ns f=(at_ n ns f).v:=rfl;simp[zA JE,en,zAB];refine zG (ih (d-1) (by omega) (at_ n ns f).low ns M _ w4 JF hw Jb (hw.ref_low hf) (by omega) hM h5) ?_;rintro _ w6 ⟨r1,ns1,M1,rfl,hl,h6⟩;have drp:∀{nsx:Ns} {Mx:zFZ} {wx:World},At w F (zC (zj m n lim nsx) (zC (zFY b Mx) (zC (VwA iv bv ins) (zC (zL t (.cells (en (at_ n ns f)).toArray 258 (0,0))) B)))) wx->At w F (zC (zj m n lim nsx) (zC (zFY b Mx) (zC (VwA iv bv ins) B))) wx:=fun h=>h.by (Imp.un (Imp.un (Imp.un Imp.dr)));cases r1 with
 |none =>simp[zBH,zFO,zu];exact⟨none,ns1,M1,rfl,q_low hw hf JB hl,drp h6⟩
 |some l =>
 have Je:=hl.ext.wf;have Jn:Bnd n lim ns1:=⟨JQ,JR,hl.lim⟩;have JE:=h6.drop.drop.drop.obj;simp[zBH,okV,zA JE,en,zAB];refine zG (ih (d-1) (by omega) (at_ n ns f).high ns1 M1 _ w6 JF Je Jn (hl.ext.ref (hw.ref_high hf)) (by omega) hl.mem h6) ?_;rintro _ w7 ⟨r2,ns2,M2,rfl,hh,h7⟩;cases r2 with
 |none =>simp[zBH,zFO,zu];exact⟨none,ns2,M2,rfl,zU3 hw hf JB hl hh,drp h7⟩
 |some h =>
 have hm:=q_mid hw hf JB hl hh;have JD:=hm.ext.wf;have Ja:Bnd n lim ns2:=⟨JQ,JR,hm.lim⟩;have JZ:=hm.lim;have JE:=h7.drop.drop.drop.obj;have JV:=h7.drop.drop.vw;have Jg:=hm.tl;have Jh:=hm.th;have Jf:(at_ n ns f).v<ins.length:=by omega
 have JN:ins[(at_ n ns f).v]? = some (inB ins (at_ n ns f).v):=by simp[inB,List.getD,List.getElem?_eq_getElem Jf]
 simp(disch:=omega)[zBH,okV,zA JE,en,zAB,JV.idx,zOV JV JN];have JH:=hm.rl;have JI:=hm.rh;have Js:M2.length<=1048578:=zDf (ns:=ns2) (N:=1048578) (by omega) (fun q hq=>(hm.mem q hq).1) (zAw.nodup h7.drop.map);cases JM:inB ins (at_ n ns f).v with
 |true =>
  have h8:=(h7.newmap (ek:=p2V) (ev:=zAc) (ok:=zMt) (Lcl.mgr.star (Lcl.map.star (Lcl.vw.star JF)))).rot;have JK:=zEt (op:=op) JD (n-tv n ns f-1) l h JH JI (by omega);have JW:=zDG JD op JH JI;have JX:=And.intro (Sn.and JK.1 JW.1) (Clo.and JK.2 JW.2);simp[zA JE];refine zG (zDU m n lim op _ l h (by omega) _ ns2 [] (Lcl.map.star (Lcl.vw.star JF)) JD Ja JH JI (fun q hq=>by cases hq) JX.2 JX.1 h8) ?_;rintro _ w9 ⟨r3,JG,M3,rfl,Jo,h9⟩;have JA:=zIG Jo (zAw.nodup h9.drop.map);have Jc:=h9.by (Imp.un Imp.dr);have JO:=JA.cnt _ (fun x y h=>h.1);have JL:∀z,ns2.length+2<=z->z<JG.length+2->∃G:(Nat->Bool)->Bool,(∀a,G a=true<->qS op (inB ins) (fun c=>eval ns c f) a)/\IsC G fun b=>eval JG b z:=fun z h1 h2 =>
   ⟨fun a=>opB op (eval ns2 a l) (eval ns2 a h),fun a=>zJt hw hf JB JY hm JM a,JA.new JD (fun x y h=>h.2) z h1 h2⟩
  have Jr:=zEs n op ns2 (n-tv n ns f-1) l h;have Ji:=Nat.two_pow_pos (n-tv n ns f-1);have JC:∀x,r3=some x->Ref JG x/\∀a,eval JG a x=true<->qS op (inB ins) (fun c=>eval ns c f) a:=fun x hx=>by obtain⟨q1,q2⟩:=JA.ok x hx;exact⟨q1,fun a=>by rw[q2,zJt hw hf JB JY hm JM]⟩
  cases r3 with
  |none =>simp[zBH,zFO,zu];exact⟨none,JG,M2,rfl,zJu hw hf JB hm JA.ext JA.lim (by omega) (fun _=>by have:=JO.2 rfl;omega) JC (fun q hq=>.inl hq) JL JA.hit,drp Jc⟩
  |some x =>simp[zBH,okV];refine At.put (x:=f) (v:=x) (Lcl.mgr.star (Lcl.vw.star JF)) Jc.rot zBm Tryz.underlying159 (show zY f by unfold zY;omega) (by unfold maxLen;omega) fun Jd JU=>?_;simp;exact⟨some x,JG,_,rfl,zJu hw hf JB hm JA.ext JA.lim (by omega) (fun h=>by cases h) JC (fun q hq=>(zBW hq).imp id fun e=>⟨x,rfl,e⟩) JL (fun h=>by cases h),drp JU.rot⟩
 |false =>
  simp[zA JE,en,zAB];have Jj:l<=2000000:=by unfold Ref at JH;omega
  have Jl:h<=2000000:=by unfold Ref at JI;omega
  refine zG (zDM m n lim ns2 (at_ n ns f).v l h (Lcl.map.star (Lcl.vw.star JF)) h7 Ja (by omega) Jj Jl) ?_;rintro _ w9 ⟨rfl,h9⟩;have mk:=zF6 (lim:=lim) JD (v:=(at_ n ns f).v) (by omega) JH JI Jg Jh;have Ji:=Nat.two_pow_pos (n-tv n ns f-1);have mlen:=mk.len;have JC:∀x,(mkF lim ns2 (at_ n ns f).v l h).1=some x->Ref (mkF lim ns2 (at_ n ns f).v l h).2 x/\∀a,eval (mkF lim ns2 (at_ n ns f).v l h).2 a x=true<->qS op (inB ins) (fun c=>eval ns c f) a:=fun x hx=>by obtain⟨q1,_,q2⟩:=mk.ok x hx;refine⟨q1,fun a=>?_⟩;rw[q2,mk.ext.eval JD a JI,mk.ext.eval JD a JH];exact zMl hw hf JB hm JM a
  cases hk:(mkF lim ns2 (at_ n ns f).v l h).1 with
  |none =>simp[zBH,zFO,zu];exact⟨none,_,M2,rfl,zJu hw hf JB hm mk.ext (mk.lim JZ) (by omega) (fun _=>by have:=(mk.full hk).1;omega) (fun x hx=>by cases hx) (fun q hq=>.inl hq) (fun z h1 h2=>by rw[(mk.full hk).2] at h2;omega) (fun _=>by rw[(mk.full hk).2];exact(mk.full hk).1),drp h9⟩
  |some x =>simp[zBH,okV];refine At.put (x:=f) (v:=x) (Lcl.mgr.star (Lcl.vw.star JF)) h9.rot zBm Tryz.underlying159 (show zY f by unfold zY;omega) (by unfold maxLen;omega) fun Jd JU=>?_;simp;exact⟨some x,_,_,rfl,zJu hw hf JB hm mk.ext (mk.lim JZ) (by omega) (fun h=>by cases h) (fun y hy=>JC y (by rw[hk];exact hy)) (fun q hq=>(zBW hq).imp id fun e=>⟨x,rfl,e⟩) (fun z h1 h2=>⟨fun a=>eval (mkF lim ns2 (at_ n ns f).v l h).2 a z,fun a=>(JC z (by rw[zGh hk h1 h2];exact hk)).2 a,IsC.refl _⟩) (fun h=>by cases h),drp JU.rot⟩
end
section
open Go Go.W Go.Bd Go.Maps
def varB(n:Nat)(x:Int):Bool:=decide (0<=x)&&decide (x<n)
theorem zCl(m n lim:Nat)(ns:Ns)(v:Value)(xs:List Int)(w:World)(h:zOx w m n lim ns)(hv:Vw w v iv xs)(hx:xs.length<=1000000) :
  Calls Tryz.prog 151 [.pointer (some ⟨m,0,none⟩),v].toArray w fun e w'=>∃x,e=.returned x/\x=zFQ (xs.all (varB n))/\Kp [] w w':=by
 refine enter Tryz.func151 mixed low151 (Nat.le_of_ble_eq_true rfl) ?_;simp only[L151];simp[hv.len];refine zF (n:=xs.length) (by omega) (fun k ρ w1=>ρ 0=.pointer (some ⟨m,0,none⟩)/\ρ 7=v/\(∀j x,j<k->xs[j]? = some x->varB n x=true)/\Kp [] w w1) (by simp) (by simp)
  ⟨by simp,by simp,by simp,Kp.refl _ _⟩ (by decide) (fun _ _ _ _ h=>by simpa using h) (fun _ _ _ _ h=>by simpa using h) ?_ ?_
 ·rintro k ρ w1 hk hc JB ⟨g0,g7,hall,JA⟩;have JC:=hv.kp0 JA;obtain⟨nv,b,ho,JE,_⟩:=h.kp0 JA;have ek:xs[k]? = some xs[k]:=List.getElem?_eq_getElem hk;obtain⟨x,JD⟩:∃x,x=xs[k]:=⟨_,rfl⟩;rw[<-JD] at ek;have bad:varB n x=false->xs.all (varB n)=false:=fun h=>by rw[List.all_eq_false];exact⟨x,List.mem_of_getElem? ek,by simp[h]⟩
  unfold zGi at ho;simp(disch:=omega)[g0,g7,hc,JC.idx,zA8 JC ek,zA ho];by_cases h1:x<0
  ·simp[h1];refine⟨?_,JA⟩;rw[bad (by simp[varB];omega)];rfl
  by_cases h2:(n:Int)<=x
  ·simp(disch:=omega)[h1,h2,zA ho,g0];refine⟨?_,JA⟩;rw[bad (by simp[varB];omega)];rfl
  ·simp(disch:=omega)[h1,h2,zA ho,hc,JB,g0,g7];refine⟨fun j y hj hy=>?_,JA⟩;rcases Nat.lt_or_ge j k with h3|h3
   ·exact hall j y h3 hy
   ·have:j=k:=by omega
    subst this;rw[ek] at hy;rw[<-Option.some.inj hy];simp[varB];omega
 ·rintro ρ w1 ⟨g0,g7,hall,JA⟩;simp;refine⟨?_,JA⟩;have:xs.all (varB n)=true:=by rw[List.all_eq_true];intro x hx;obtain⟨j,hj⟩:=List.getElem?_of_mem hx;exact hall j x (List.getElem?_eq_some_iff.1 hj).1 hj
  rw[this];rfl
def zAZ(n:Nat)(xs:List Int):List Bool:=xs.foldl (fun l v=>l.set v.toNat true) (List.replicate (n+1) false)
theorem zE6(n:Nat)(xs:List Int):(zAZ n xs).length=n+1:=by
 have key:∀(xs:List Int) (l:List Bool),(xs.foldl (fun l v=>l.set v.toNat true) l).length=l.length:=by
  intro xs
  induction xs with
  |nil=>intro l;rfl
  |cons x xs ih=>intro l;rw[List.foldl_cons,ih];simp
 rw[zAZ,key];simp
theorem zLT(n:Nat)(xs:List Int)(x:Int):zAZ n (xs++[x])=(zAZ n xs).set x.toNat true:=by simp[zAZ,List.foldl_append]
theorem zF9{n:Nat}{xs:List Int}{k:Nat}{x:Int}(h:xs[k]? = some x):zAZ n (xs.take (k+1))=(zAZ n (xs.take k)).set x.toNat true:=by
 have hk:=(List.getElem?_eq_some_iff.1 h).1;rw[<-zLT];congr 1;rw[List.take_add_one,h];rfl
def zWo(m n lim op:Nat)(xs:List Int)(vv:Value)(ns:Ns)(f:Nat)(B:Asr)(w:World)(F:List Nat)(v:Value)(w':World):Prop :=
 ∃r ns' M',v=zBH r/\QOk n lim op (inB (zAZ n xs)) ns f r ns' M'/\At w F (zC (zj m n lim ns') (zC (VwA vv iv xs) B)) w'
theorem zEl{w w1:World}{F:List Nat}{B:Asr}(m n lim:Nat)(ns:Ns)(op f:Nat)(v:Value)(xs:List Int)(JI:op<=1)(hB:Lcl B)(hA:At w F (zC (zj m n lim ns) (zC (VwA v iv xs) B)) w1)(hw:Wf n ns)(hb:Bnd n lim ns)(hf:Ref ns f)(hx:xs.length<=1000000)(hv:xs.all (varB n)=true) :
  Calls Tryz.prog 215 [.pointer (some ⟨m,0,none⟩),.int .i64 (op:Nat),.int .i64 (f:Nat),v].toArray w1 fun e w'=>∃x,e=.returned x/\zWo m n lim op xs v ns f B w F x w':=by
 have JL:=hb.hn;refine enter Tryz.func215 mixed low215 (Nat.le_of_ble_eq_true rfl) ?_;simp only[L215];have hl:Lcl (zC (zj m n lim ns) (zC (VwA v iv xs) B)):=Lcl.mgr.star (Lcl.vw.star hB);have h1:=zEK (xs:=[(f:Int)]) (cs:=#[.int .i64 f]) hl hA rfl (by simp) rfl;simp[zW];refine zG (zCb m n lim ns _ [(f:Int)] _ (zj.rd h1.drop) hb h1.own.vw (by simp)) ?_;rintro u w2 ⟨rfl,k2⟩;have h2:=(h1.drop).kp0 hl k2;have hr:[(f:Int)].all (zFj ns)=true:=by unfold Ref at hf;simp[zFj];omega
 rw[hr];simp[zFQ];refine zG (zCl m n lim ns v xs _ (zj.rd h2) h2.drop.vw hx) ?_;rintro u w3 ⟨rfl,k3⟩;have h3:=h2.kp0 hl k3;rw[hv];obtain⟨nv,b,ho,JH,_⟩:=zj.rd h3;unfold zGi at ho;have JK:((n:Int)+1).toNat=n+1:=by omega
 have h4:=h3.made (E:=4) (enc:=bv) (x:=false) (z:=[.bool false]) (n:=n+1) hl rfl zIE (by unfold maxLen;omega);simp(disch:=omega)[zFQ,zA ho,zH,JK];refine zHw (by omega) ?_;simp[h3.drop.vw.len];obtain⟨sv,JG⟩:∃sv,sv=Value.slice (some ⟨w3.heap.size,0,none⟩) (n+1) (n+1):=⟨_,rfl⟩;rw[<-JG] at h4 ⊢;have hall:∀(j:Nat) (x:Int),xs[j]? = some x->0<=x/\x<n:=fun j x hj=>by have:=List.all_eq_true.1 hv x (List.mem_of_getElem? hj);simpa[varB] using this
 refine zF (n:=xs.length) (by omega) (fun k ρ w5=>ρ 0=.pointer (some ⟨m,0,none⟩)/\ρ 1=.int .i64 (op:Nat)/\ρ 2=.int .i64 (f:Nat)/\ρ 12=sv/\ρ 34=v /\
   At w F (zC (zM sv 4 1 bv (zAZ n (xs.take k))) (zC (zj m n lim ns) (zC (VwA v iv xs) B))) w5) (by simp) (by simp)
  ⟨by simp,by simp,by simp,by simp,by simp,h4⟩ (by decide) (fun _ _ _ _ h=>by simpa using h) (fun _ _ _ _ h=>by simpa using h) ?_ ?_
 ·rintro k ρ w5 hk hc JA ⟨g0,g1,g2,g12,JC,h5⟩;have ek:xs[k]? = some xs[k]:=List.getElem?_eq_getElem hk;obtain⟨x,JF⟩:∃x,x=xs[k]:=⟨_,rfl⟩;rw[<-JF] at ek;obtain⟨x0,x1⟩:=hall k x ek;have JD:=h5.drop.drop.vw;have JB:=zE6 n (xs.take k);have JE:x<(zAZ n (xs.take k)).length:=by rw[JB];omega
  simp(disch:=omega)[g0,g1,g2,g12,JC,hc,JD.idx,zA8 JD ek,h5.own.idx x0 JE];refine At.store1 (k:=x.toNat) (x:=true) hl h5 zIE zOU (by omega) rfl fun w6 h6=>?_;rw[<-zF9 ek] at h6;simp[g0,g1,g2,g12,JC,hc,JA];exact h6
 ·rintro ρ w5 ⟨g0,g1,g2,g12,JC,h5⟩;rw[List.take_length] at h5;simp[g0,g1,g2,g12];have h6:=(h5.own_vw.newmap (ek:=zAc) (ev:=zAc) (ok:=zY) (Lcl.vw.star hl));have h7:=h6.by (Imp.trans (Imp.un Imp.sw) Imp.sw);have h8:At w F (zC (zj m n lim ns) (zC (zFY w5.heap.size []) (zC (VwA sv bv (zAZ n xs)) (zC (VwA v iv xs) B)))) (w5.alloc (.map #[] 0)):=h7;refine zG (zHg m n lim op _ JI (zAZ n xs) sv (zE6 n xs) w F f f ns [] _ _ (Lcl.vw.star hB) hw hb hf (Nat.le_refl _) (fun q hq=>by cases hq) h8) ?_;rintro _ w9 ⟨r,ns',M',rfl,hq,h9⟩;cases r with
  |none=>simp[zBH,zFO,zu];exact⟨none,ns',M',rfl,hq,h9.by (Imp.un (Imp.dr.trans Imp.dr))⟩
  |some y=>simp[zBH,okV];exact⟨some y,ns',M',rfl,hq,h9.by (Imp.un (Imp.dr.trans Imp.dr))⟩
theorem zNZ{n:Nat}{xs:List Int}(hv:∀x∈xs,0<=x/\x<n)(i:Nat):inB (zAZ n xs) i=decide ((i:Int)∈xs):=by
 have key:∀k,k<=xs.length->inB (zAZ n (xs.take k)) i=decide ((i:Int)∈xs.take k):=by
  intro k
  induction k with
  |zero=>intro _;simp[zAZ,inB,List.getElem?_replicate];split<;>rfl
  |succ k ih =>
   intro hk;have ek:xs[k]? = some xs[k]:=List.getElem?_eq_getElem (by omega);have hx:=hv xs[k] (List.getElem_mem _);have JA:=zE6 n (xs.take k);have ht:xs.take (k+1)=xs.take k++[xs[k]]:=by rw[List.take_add_one,ek];rfl
   have ih':=ih (by omega);rw[zF9 ek,ht];simp only[inB,List.getD_eq_getElem?_getD,List.getElem?_set,List.mem_append,List.mem_singleton] at ih' ⊢;by_cases he:xs[k].toNat=i
   ·have:(i:Int)=xs[k]:=by omega
    rw[if_pos he,if_pos (by omega)];simp[this]
   ·have:¬(i:Int)=xs[k]:=by omega
    rw[if_neg he,ih'];simp[this]
 have:=key xs.length (Nat.le_refl _);rwa[List.take_length] at this
end
end Go.Proofs.YtolkjbmcindhjaaGreat
namespace Go.Bd
section
inductive Rch (n:Nat) (ns:Ns):Nat->Nat->Prop
 |self {f:Nat} (h:2<=f):Rch n ns f f
 |low {f y:Nat} (h:2<=f) (k:Rch n ns (at_ n ns f).low y):Rch n ns f y
 |high {f y:Nat} (h:2<=f) (k:Rch n ns (at_ n ns f).high y):Rch n ns f y
theorem Rch.ge{n:Nat}{ns:Ns}{f y:Nat}(h:Rch n ns f y):2<=y:=by
 induction h with
 |self h=>exact h
 |low _ _ ih=>exact ih
 |high _ _ ih=>exact ih
theorem Rch.ref{n:Nat}{ns:Ns}(w:Wf n ns){f y:Nat}(h:Rch n ns f y)(hf:Ref ns f):Ref ns y:=by
 induction h with
 |self h=>exact hf
 |low h _ ih=>exact ih (w.ref_low hf)
 |high h _ ih=>exact ih (w.ref_high hf)
abbrev zLr:=List (Nat×Bool)
def zB4(M:zLr):List Nat:=M.map (·.1)
structure ROk(n:Nat)(ns:Ns)(f:Nat)(M M':zLr):Prop where
 sub:∀x∈zB4 M,x∈zB4 M'
 new:∀x∈zB4 M',x∈zB4 M\/Rch n ns f x
 clo:∀x∈zB4 M',x∉zB4 M->((at_ n ns x).low<2\/(at_ n ns x).low∈zB4 M')/\((at_ n ns x).high<2\/(at_ n ns x).high∈zB4 M')
 top:f<2\/f∈zB4 M'
 all:∀q∈M',q.2=true
section
variable {n:Nat} {ns:Ns} {f:Nat} {M M1 M2 M3:zLr}
theorem ROk.same(h:f<2\/f∈zB4 M)(ha:∀q∈M,q.2=true):ROk n ns f M M :=
 ⟨fun x hx=>hx,fun x hx=>.inl hx,fun x hx hn=>absurd hx hn,h,ha⟩
theorem ROk.node(h2:2<=f)(h1:∀x,x∈zB4 M1<->x∈zB4 M\/x=f)(hl:ROk n ns (at_ n ns f).low M1 M2)(hh:ROk n ns (at_ n ns f).high M2 M3):ROk n ns f M M3:=by
 refine⟨fun x hx=>hh.sub x (hl.sub x ((h1 x).2 (.inl hx))),fun x hx=>?_,fun x hx hn=>?_,.inr (hh.sub f (hl.sub f ((h1 f).2 (.inr rfl)))),hh.all⟩
 ·rcases hh.new x hx with h|h
  ·rcases hl.new x h with h|h
   ·rcases(h1 x).1 h with h|rfl
    ·exact .inl h
    ·exact .inr (.self h2)
   ·exact .inr (.low h2 h)
  ·exact .inr (.high h2 h)
 ·by_cases JA:x∈zB4 M2
  ·by_cases JB:x∈zB4 M1
   ·rcases(h1 x).1 JB with h|rfl
    ·exact absurd h hn
    ·refine⟨?_,hh.top⟩;rcases hl.top with h|h
     ·exact .inl h
     ·exact .inr (hh.sub _ h)
   ·obtain⟨a,b⟩:=hl.clo x JA JB;exact⟨a.imp_right (hh.sub _),b.imp_right (hh.sub _)⟩
  ·exact hh.clo x hx JA
theorem ROk.all_rch(h:ROk n ns f [] M)(x:Nat):x∈zB4 M<->Rch n ns f x:=by
 constructor
 ·intro hx;rcases h.new x hx with h|h
  ·cases h
  ·exact h
 ·intro hr;have key:∀g y,Rch n ns g y->(g<2\/g∈zB4 M)->y∈zB4 M:=by
   intro g y hr
   induction hr with
   |self h2 =>
    rintro (h1|h1)
    ·omega
    ·exact h1
   |low h2 k ih =>
    rintro (h1|h1)
    ·omega
    ·exact ih (h.clo _ h1 (by simp[zB4])).1
   |high h2 k ih =>
    rintro (h1|h1)
    ·omega
    ·exact ih (h.clo _ h1 (by simp[zB4])).2
  exact key f x hr h.top
end
end
end Go.Bd
section
namespace Go.Bd
def Loc(n:Nat)(F:(Nat->Bool)->Bool):Prop:=∀a b:Nat->Bool,(∀i,i<n->a i=b i)->F a=F b
def rk:Nat->(Nat->Bool)->Nat
 |0,_=>0
 |n+1,b=>2*rk n b+(b n).toNat
theorem zQH{n:Nat}{ns:Ns}(w:Wf n ns):∀{f:Nat},Ref ns f->Loc n (fun a=>eval ns a f):=by
 intro f
 induction f using Nat.strongRecOn with
 |ind f ih =>
  intro hf a b JA;rcases Nat.lt_or_ge f 2 with h|h
  ·have:f=0\/f=1:=by omega
   rcases this with rfl|rfl
   ·show eval ns a 0=eval ns b 0;rw[zN,zN]
   ·show eval ns a 1=eval ns b 1;rw[zg,zg]
  ·show eval ns a f=eval ns b f;rw[zl w a h hf,zl w b h hf,JA (at_ n ns f).v (w.tv_var h hf),show eval ns a (at_ n ns f).high=eval ns b (at_ n ns f).high from ih _ (w.lt_high h hf) (w.ref_high hf) a b JA,
    show eval ns a (at_ n ns f).low=eval ns b (at_ n ns f).low from ih _ (w.lt_low h hf) (w.ref_low hf) a b JA]
end Go.Bd
namespace Go.Bd
end Go.Bd
end
namespace Go.Bd
section
abbrev K3:=Nat×Nat×Nat
abbrev Mem3:=List (K3×Nat)
section
variable {n cap:Nat} {ns ns1 ns2:Ns} {M M1 M2:Mem3} {f g h:Nat}
theorem zJX{d:Nat}(h:0<d):2^(d-1)+2^(d-1)=2^d:=by
 obtain⟨e,rfl⟩:∃e,d=e+1:=⟨d-1,by omega⟩;rw[Nat.add_sub_cancel,Nat.pow_succ];omega
theorem zDB{a b:Nat}(h:a<=b):2^a<=2^b:=Nat.pow_le_pow_right (by omega) h
variable {v:Nat}
end
def zHF(σ:(Nat->Bool)->Nat->Bool)(ns:Ns)(M:zFZ):Prop:=∀q∈M,Ref ns q.1/\Ref ns q.2/\∀a,eval ns a q.2=eval ns (σ a) q.1
theorem zHF.ext{n:Nat}{σ:(Nat->Bool)->Nat->Bool}{ns ns':Ns}{M:zFZ}(h:zHF σ ns M)(w:Wf n ns)(hx:Ext n ns ns'):zHF σ ns' M:=fun q hq=>by
 obtain⟨h1,h2,h3⟩:=h q hq;exact⟨hx.ref h1,hx.ref h2,fun a=>by rw[hx.eval w a h2,hx.eval w _ h1,h3]⟩
structure zIK(n cap:Nat)(σ:(Nat->Bool)->Nat->Bool)(ns:Ns)(f:Nat)(r:Option Nat)(ns':Ns)(M':zFZ):Prop where
 ext:Ext n ns ns'
 lim:ns'.length<=cap
 mem:zHF σ ns' M'
 ok:∀x,r=some x->Ref ns' x/\∀a,eval ns' a x=eval ns (σ a) f
 cnt:ns'.length+1<=ns.length+2^(n-tv n ns f)
 full:r=none->cap<ns.length+2^(n-tv n ns f)
 fr:∀z,ns.length+2<=z->z<ns'.length+2->∃H:(Nat->Bool)->Bool,IsC (fun c=>eval ns c f) H/\∀b,eval ns' b z=H (σ b)
 hit:r=none->cap<=ns'.length
section
variable {n cap:Nat} {σ:(Nat->Bool)->Nat->Bool} {ns ns1 ns2:Ns} {M M1 M2:zFZ} {f:Nat}
theorem zOQ{x:Nat}(w:Wf n ns)(JA:ns.length<=cap)(hM:zHF σ ns M)(hx:Ref ns x)(he:∀a,eval ns a x=eval ns (σ a) f):zIK n cap σ ns f (some x) ns M:=by
 have:=Nat.two_pow_pos (n-tv n ns f);exact⟨Ext.refl w,JA,hM,fun y hy=>by simp only[Option.some.injEq] at hy;subst hy;exact⟨hx,he⟩,by omega,fun h=>(by cases h),fun z h1 h2=>by omega,fun h=>by cases h⟩
theorem zOR(w:Wf n ns)(JA:ns.length<=cap)(hM:zHF σ ns M)(hf:Ref ns f)(h2:f<2):zIK n cap σ ns f (some f) ns M:=by
 refine zOQ w JA hM hf fun a=>?_;have:f=0\/f=1:=by omega
 rcases this with rfl|rfl
 ·rw[zN,zN]
 ·rw[zg,zg]
theorem zTp{x:Nat}(w:Wf n ns)(JA:ns.length<=cap)(hM:zHF σ ns M)(hk:(f,x)∈M):zIK n cap σ ns f (some x) ns M:=by
 obtain⟨_,h1,h2⟩:=hM _ hk;exact zOQ w JA hM h1 h2
structure zUT(n:Nat)(σ:(Nat->Bool)->Nat->Bool)(ns:Ns)(f u:Nat):Prop where
 w:Wf n ns
 rf:Ref ns f
 h2:2<=f
 un:u<n
 su:∀a,σ a (tv n ns f)=a u
 il:∀a b:Nat->Bool,(∀i,u+1<=i->a i=b i)->eval ns (σ a) (at_ n ns f).low=eval ns (σ b) (at_ n ns f).low
 ih:∀a b:Nat->Bool,(∀i,u+1<=i->a i=b i)->eval ns (σ a) (at_ n ns f).high=eval ns (σ b) (at_ n ns f).high
variable {u:Nat}
theorem c_low(w:Wf n ns)(hf:Ref ns f)(h2:2<=f)(hl:zIK n cap σ ns (at_ n ns f).low none ns1 M1):zIK n cap σ ns f none ns1 M1:=by
 have t1:=w.tv_low h2 hf;have:=zDB (show n-tv n ns (at_ n ns f).low<=n-tv n ns f by omega);have:=hl.cnt;have:=hl.full rfl;exact⟨hl.ext,hl.lim,hl.mem,fun x hx=>(by cases hx),by omega,fun _=>by omega,fun z h1 h3=>by obtain⟨H,a1,a2⟩:=hl.fr z h1 h3;exact⟨H,(zGo w hf h2).trans a1,a2⟩,hl.hit⟩
theorem zWZ{rl rh:Option Nat}(w:Wf n ns)(hf:Ref ns f)(h2:2<=f)(hl:zIK n cap σ ns (at_ n ns f).low rl ns1 M1)(hh:zIK n cap σ ns1 (at_ n ns f).high rh ns2 M2) :
  ∀z,ns.length+2<=z->z<ns2.length+2->∃H:(Nat->Bool)->Bool,IsC (fun c=>eval ns c f) H/\∀b,eval ns2 b z=H (σ b):=fun z h1 h3=>by
 by_cases hz:z<ns1.length+2
 ·obtain⟨H,a1,a2⟩:=hl.fr z h1 hz;exact⟨H,(zGo w hf h2).trans a1,fun b=>by rw[hh.ext.eval hl.ext.wf b hz,a2]⟩
 ·obtain⟨H,a1,a2⟩:=hh.fr z (by omega) h3;exact⟨H,(zKF w hf h2).trans (a1.congr (fun c=>hl.ext.eval w c (w.ref_high hf)) fun _=>rfl),a2⟩
theorem zWX{l:Nat}(w:Wf n ns)(hf:Ref ns f)(h2:2<=f)(hl:zIK n cap σ ns (at_ n ns f).low (some l) ns1 M1)(hh:zIK n cap σ ns1 (at_ n ns f).high none ns2 M2):zIK n cap σ ns f none ns2 M2:=by
 have t1:=w.tv_low h2 hf;have t2:=w.tv_high h2 hf;have tvn:=w.tv_var h2 hf;have e:=hl.ext.tv (w.ref_high hf);have b0:=zJX (show 0<n-tv n ns f by omega);have b1:=zDB (show n-tv n ns (at_ n ns f).low<=n-tv n ns f-1 by omega);have b2:=zDB (show n-tv n ns1 (at_ n ns f).high<=n-tv n ns f-1 by omega);have:=hl.cnt;have:=hh.cnt;have:=hh.full rfl;exact⟨hl.ext.trans hh.ext,hh.lim,hh.mem,fun x hx=>(by cases hx),by omega,fun _=>by omega,zWZ w hf h2 hl hh,hh.hit⟩
structure CMid(n cap:Nat)(σ:(Nat->Bool)->Nat->Bool)(ns:Ns)(f u:Nat)(ns2:Ns)(M2:zFZ)(l k:Nat):Prop where
 ext:Ext n ns ns2
 lim:ns2.length<=cap
 mem:zHF σ ns2 M2
 cnt:ns2.length+2<=ns.length+2^(n-tv n ns f)
 rl:Ref ns2 l
 rk:Ref ns2 k
 tl:u<tv n ns2 l
 tk:u<tv n ns2 k
 ev:∀a,(if a u then eval ns2 a k else eval ns2 a l)=eval ns (σ a) f
 fr:∀z,ns.length+2<=z->z<ns2.length+2->∃H:(Nat->Bool)->Bool,IsC (fun c=>eval ns c f) H/\∀b,eval ns2 b z=H (σ b)
theorem c_mid{l k:Nat}(p:zUT n σ ns f u)(hl:zIK n cap σ ns (at_ n ns f).low (some l) ns1 M1)(hh:zIK n cap σ ns1 (at_ n ns f).high (some k) ns2 M2):CMid n cap σ ns f u ns2 M2 l k:=by
 have t1:=p.w.tv_low p.h2 p.rf;have t2:=p.w.tv_high p.h2 p.rf;have tvn:=p.w.tv_var p.h2 p.rf;have un:=p.un;have e:=hl.ext.tv (p.w.ref_high p.rf);have b0:=zJX (show 0<n-tv n ns f by omega);have b1:=zDB (show n-tv n ns (at_ n ns f).low<=n-tv n ns f-1 by omega);have b2:=zDB (show n-tv n ns1 (at_ n ns f).high<=n-tv n ns f-1 by omega);have:=hl.cnt;have:=hh.cnt;obtain⟨rl,el⟩:=hl.ok l rfl;obtain⟨rk,ek⟩:=hh.ok k rfl;have w2:=hh.ext.wf;have el2:∀a,eval ns2 a l=eval ns (σ a) (at_ n ns f).low:=fun a=>by rw[hh.ext.eval hl.ext.wf a rl,el]
 have ek2:∀a,eval ns2 a k=eval ns (σ a) (at_ n ns f).high:=fun a=>by rw[ek,hl.ext.eval p.w _ (p.w.ref_high p.rf)]
 have rl2:=hh.ext.ref rl;refine⟨hl.ext.trans hh.ext,hh.lim,hh.mem,by omega,rl2,rk,?_,?_,fun a=>?_,zWZ p.w p.rf p.h2 hl hh⟩
 ·exact zKx w2 rl2 (by omega) fun a b JA=>by rw[el2,el2];exact p.il a b JA
 ·exact zKx w2 rk (by omega) fun a b JA=>by rw[ek2,ek2];exact p.ih a b JA
 ·rw[el2,ek2,zl p.w _ p.h2 p.rf,show(at_ n ns f).v=tv n ns f from rfl,p.su]
theorem zWY{l k:Nat}(p:zUT n σ ns f u)(hm:CMid n cap σ ns f u ns2 M2 l k)(hk:(mkF cap ns2 u l k).1=none):zIK n cap σ ns f none (mkF cap ns2 u l k).2 M2:=by
 have mk:=zF6 (lim:=cap) hm.ext.wf p.un hm.rl hm.rk hm.tl hm.tk;obtain⟨f1,f2⟩:=mk.full hk;rw[f2];have:=hm.cnt;exact⟨hm.ext,hm.lim,hm.mem,fun x hx=>(by cases hx),by omega,fun _=>by omega,hm.fr,fun _=>f1⟩
theorem zWa{l k x:Nat}{M3:zFZ}(p:zUT n σ ns f u)(hm:CMid n cap σ ns f u ns2 M2 l k)(hk:(mkF cap ns2 u l k).1=some x)(JA:∀q∈M3,q∈M2\/q=(f,x)):zIK n cap σ ns f (some x) (mkF cap ns2 u l k).2 M3:=by
 have mk:=zF6 (lim:=cap) hm.ext.wf p.un hm.rl hm.rk hm.tl hm.tk;obtain⟨rx,_,ex⟩:=mk.ok x hk;have w2:=hm.ext.wf;have e3:=hm.ext.trans mk.ext;have ex2:∀a,eval (mkF cap ns2 u l k).2 a x=eval ns (σ a) f:=fun a=>by rw[ex,mk.ext.eval w2 a hm.rk,mk.ext.eval w2 a hm.rl,hm.ev]
 have:=hm.cnt;have:=mk.len;refine⟨e3,mk.lim hm.lim,?_,fun y hy=>by simp only[Option.some.injEq] at hy;subst hy;exact⟨rx,ex2⟩,by omega,fun h=>(by cases h),fun z h1 h3=>?_,fun h=>by cases h⟩
 rotate_left
 ·by_cases hz:z<ns2.length+2
  ·obtain⟨H,a1,a2⟩:=hm.fr z h1 hz;exact⟨H,a1,fun b=>by rw[mk.ext.eval w2 b hz,a2]⟩
  ·have e:=zGh hk (by omega) h3;subst e;exact⟨_,IsC.refl _,ex2⟩
 intro q hq;rcases JA q hq with h1|rfl
 ·exact(hm.mem.ext w2 mk.ext) q h1
 ·exact⟨e3.ref p.rf,rx,fun a=>by rw[ex2,e3.eval p.w _ p.rf]⟩
theorem zGD(w:Wf n ns){S:Nat->Prop}{a b:Nat->Bool}(JA:∀i,S i->a i=b i):∀{f:Nat},Ref ns f->(∀y,Rch n ns f y->S (tv n ns y))->eval ns a f=eval ns b f:=by
 intro f
 induction f using Nat.strongRecOn with
 |ind f ih =>
  intro hf hS;rcases Nat.lt_or_ge f 2 with h|h
  ·have:f=0\/f=1:=by omega
   rcases this with rfl|rfl
   ·rw[zN,zN]
   ·rw[zg,zg]
  ·rw[zl w a h hf,zl w b h hf,JA (at_ n ns f).v (hS f (.self h)),ih _ (w.lt_high h hf) (w.ref_high hf) (fun y hy=>hS y (.high h hy)),ih _ (w.lt_low h hf) (w.ref_low hf) (fun y hy=>hS y (.low h hy))]
theorem Rch.tv_le(w:Wf n ns){f y:Nat}(h:Rch n ns f y)(hf:Ref ns f):tv n ns f<=tv n ns y:=by
 induction h with
 |self h=>exact Nat.le_refl _
 |low h _ ih=>have:=ih (w.ref_low hf);have:=w.tv_low h hf;omega
 |high h _ ih=>have:=ih (w.ref_high hf);have:=w.tv_high h hf;omega
def Asc(n:Nat)(S:Nat->Prop)(to:Nat->Nat):Prop:=(∀u,S u->to u<n)/\∀u v,S u->S v->u<v->to u<to v
theorem zUT.ren{S:Nat->Prop}{to:Nat->Nat}(w:Wf n ns)(hf:Ref ns f)(h2:2<=f)(hS:∀y,Rch n ns f y->S (tv n ns y))(ha:Asc n S to):zUT n (fun a i=>a (to i)) ns f (to (tv n ns f)):=by
 have sf:=hS f (.self h2);have t1:=w.tv_low h2 hf;have t2:=w.tv_high h2 hf;have key:∀{a c:Nat->Bool} {x:Nat},Ref ns x->tv n ns f<tv n ns x->(∀y,Rch n ns x y->S (tv n ns y))->(∀i,to (tv n ns f)+1<=i->a i=c i)->eval ns (fun i=>a (to i)) x=eval ns (fun i=>c (to i)) x:=by intro a c x hx JB JA h;refine zGD w (S:=fun i=>S i/\tv n ns x<=i) (fun i hi=>h _ ?_) hx fun y hy=>⟨JA y hy,hy.tv_le w hx⟩;exact ha.2 _ _ sf hi.1 (by omega)
 exact⟨w,hf,h2,ha.1 _ sf,fun a=>rfl,fun a c h=>key (w.ref_low hf) t1 (fun y hy=>hS y (.low h2 hy)) h,fun a c h=>key (w.ref_high hf) t2 (fun y hy=>hS y (.high h2 hy)) h⟩
end
end
end Go.Bd
section
namespace Go.Bd
section
variable {n:Nat} {ns:Ns}
theorem zEA{a:Nat->Bool}{u v:Nat}{x y:Bool}(h:u≠v):upd (upd a u x) v y=upd (upd a v y) u x:=by
 funext i;unfold upd;by_cases h1:i=v
 ·subst h1;rw[if_pos rfl,if_neg (fun e=>h e.symm),if_pos rfl]
 ·by_cases h2:i=u
  ·simp[h1,h2,h]
  ·simp[h1,h2]
theorem zMg(w:Wf n ns)(v:Nat):∀{f:Nat},Ref ns f->((∃y,Rch n ns f y/\tv n ns y=v)<->∃a,eval ns (upd a v false) f≠eval ns (upd a v true) f):=by
 intro f hf;constructor
 ·rintro⟨y,hr,rfl⟩
  induction hr with
  |self h=>exact zN1 w h hf
  |@low f y h k ih =>obtain⟨a,ha⟩:=ih (w.ref_low hf);have h1:=k.tv_le w (w.ref_low hf);have h2:=w.tv_low h hf;refine⟨upd a (tv n ns f) false,?_⟩;rw[zEA (u:=tv n ns f) (y:=false) (by omega),zEA (u:=tv n ns f) (y:=true) (by omega),zBE w h hf,zBE w h hf];exact ha
  |@high f y h k ih =>obtain⟨a,ha⟩:=ih (w.ref_high hf);have h1:=k.tv_le w (w.ref_high hf);have h2:=w.tv_high h hf;refine⟨upd a (tv n ns f) true,?_⟩;rw[zEA (u:=tv n ns f) (y:=false) (by omega),zEA (u:=tv n ns f) (y:=true) (by omega),zAk w h hf,zAk w h hf];exact ha
 ·rintro⟨a,ha⟩;rcases Classical.em (∃y,Rch n ns f y/\tv n ns y=v) with h|h
  ·exact h
  ·exact absurd (zGD w (S:=fun i=>i≠v) (fun i hi=>by rw[zR hi,zR hi]) hf (fun y hy e=>h ⟨y,hy,e⟩)) ha
end
section
variable {n:Nat} {ns:Ns}
end
abbrev Fc:=Nat×Nat
section
variable {n:Nat} {ns:Ns}
end
end Go.Bd
namespace Go.Bd
section
variable {n:Nat} {ns ns':Ns}
theorem Rch.of_ext(w:Wf n ns)(hx:Ext n ns ns'){f y:Nat}(h:Rch n ns' f y)(hf:Ref ns f):Rch n ns f y:=by
 induction h with
 |self h=>exact .self h
 |low h _ ih=>rw[hx.at hf] at ih;exact .low h (ih (w.ref_low hf))
 |high h _ ih=>rw[hx.at hf] at ih;exact .high h (ih (w.ref_high hf))
theorem zRx(w:Wf n ns)(hx:Ext n ns ns'){S:Nat->Prop}{f:Nat}(hf:Ref ns f)(hS:∀y,Rch n ns f y->S (tv n ns y)):∀y,Rch n ns' f y->S (tv n ns' y):=fun y hy=>by
 have:=hy.of_ext w hx hf;rw[hx.tv (this.ref w hf)];exact hS y this
end
end Go.Bd
end
section
namespace Go.Proofs.YtolkjbmcindhjaaGreat
open Go Go.W Go.Bd Go.Maps
open Go Go.W Go.Bd Go.Maps
def zWs(m n lim:Nat)(σ:(Nat->Bool)->Nat->Bool)(ns:Ns)(f b:Nat)(B:Asr)(w:World)(F:List Nat)(v:Value)(w':World):Prop :=
 ∃r ns' M',v=zBH r/\zIK n lim σ ns f r ns' M'/\At w F (zC (zj m n lim ns') (zC (zFY b M') B)) w'
theorem zLh(m n lim b:Nat)(v0 v1:Int)(tov:Value)(xs:List Int)(S:Nat->Prop)(to:Nat->Nat)(JE:∃a k c,tov=.slice (some a) k c)(JS:∀i,S i->xs[i]? = some ((to i:Nat):Int))(JK:Asc n S to)(w:World)(F:List Nat):∀(d f:Nat) (ns:Ns) (M:zFZ) (B:Asr) (w1:World),Lcl B->Wf n ns->Bnd n lim ns->Ref ns f->f<=d->Go.Bd.zHF (fun a i=>a (to i)) ns M->(∀y,Rch n ns f y->S (tv n ns y))->(∀w' F',B w' F'->Vw w' tov iv xs) ->
  At w F (zC (zj m n lim ns) (zC (zFY b M) B)) w1 ->
  Calls Tryz.prog 149 [.pointer (some ⟨m,0,none⟩),.int .i64 (f:Nat),.int .i64 v0,.int .i64 v1,tov,.map (some b)].toArray w1 fun e w'=>∃v,e=.returned v/\zWs m n lim (fun a i=>a (to i)) ns f b B w F v w':=by
 intro d
 induction d using Nat.strongRecOn with
 |ind d ih =>
 intro f ns M B w1 hB hw hb hf hd hM hS hR hA;obtain⟨JH,JI,JG⟩:=hb;have JP:Bnd n lim ns:=⟨JH,JI,JG⟩;have Ja:Lcl B:=hB;have JL:Lcl (zC (zj m n lim ns) (zC (zFY b M) B)):=Lcl.mgr.star (Lcl.map.star Ja);have Je:f<=1048578:=by unfold Ref at hf;omega
 refine enter Tryz.func149 mixed low149 (Nat.le_of_ble_eq_true rfl) ?_;simp only[L149];by_cases h2:f<2
 ·have JM:(f:Int)<2:=by omega
  simp[JM];exact⟨some f,ns,M,rfl,zOR hw JG hM hf h2,hA⟩
 have JM:¬(f:Int)<2:=by omega
 have JB:2<=f:=by omega
 simp[JM];refine zAw.look2 (x:=f) hA.drop.map zBm Tryz.underlying159 zT6 (show zY f by unfold zY;omega) ?_;cases JX:zBw M f with
 |some r =>simp[zAc];exact⟨some r,ns,M,rfl,zTp hw JG hM (zFA JX),hA⟩
 |none =>
 simp;refine zG (zBR m n lim f ns w1 (zj.rd hA) JP hf) ?_;rintro v w2 ⟨rfl,k2⟩;have h3:=(hA.kp0 JL k2).alloc (.cells #[.int .i64 0,.int .i64 0,.int .i64 0] 258) JL;simp[ndV,zCm];refine h3.st JL (by simp[en,zAB]) (by simp[en,zAB]) fun w4 h4=>?_;have e3:∀d:Nd,zBh #[.int .i64 0,.int .i64 0,.int .i64 0] 0 (en d)=(en d).toArray:=fun d=>by simp[en,zAB]
 rw[e3] at h4;obtain⟨t,ht⟩:∃t,t=w2.heap.size:=⟨_,rfl⟩;rw[<-ht] at h4 ⊢;have h5:=h4.tor3;have JD:Lcl (zC (zL t (.cells (en (at_ n ns f)).toArray 258 (0,0))) B):=Lcl.obj.star hB;have JC:=h4.obj;have l1:=hw.lt_low JB hf;have l2:=hw.lt_high JB hf;have tvn:=hw.tv_var JB hf;have etv:tv n ns f=(at_ n ns f).v:=rfl;have brl:(at_ n ns f).low<=1048578:=by omega
 have brh:(at_ n ns f).high<=1048578:=by omega
 obtain⟨ta,tk,tc,rfl⟩:=JE;have JQ:∀w' F',zC (zL t (.cells (en (at_ n ns f)).toArray 258 (0,0))) B w' F'->Vw w' (.slice (some ta) tk tc) iv xs:=fun w' F' h=>by obtain⟨_,Fb,_,h2,_⟩:=h;exact hR _ _ h2
 simp[zA JC,en,zAB];refine zG (ih (d-1) (by omega) (at_ n ns f).low ns M _ w4 JD hw JP (hw.ref_low hf) (by omega) hM (fun y hy=>hS y (.low JB hy)) JQ h5) ?_;rintro _ w6 ⟨r1,ns1,M1,rfl,hl,h6⟩;have drp:∀{nsx:Ns} {Mx:zFZ} {wx:World},At w F (zC (zj m n lim nsx) (zC (zFY b Mx) (zC (zL t (.cells (en (at_ n ns f)).toArray 258 (0,0))) B))) wx->At w F (zC (zj m n lim nsx) (zC (zFY b Mx) B)) wx:=fun h=>h.by (Imp.un (Imp.un Imp.dr));cases r1 with
 |none =>simp[zBH,zFO,zu];exact⟨none,ns1,M1,rfl,c_low hw hf JB hl,drp h6⟩
 |some l =>
 have JR:=hl.ext.wf;have JZ:Bnd n lim ns1:=⟨JH,JI,hl.lim⟩;have JC:=h6.drop.drop.obj;simp[zBH,okV,zA JC,en,zAB];refine zG (ih (d-1) (by omega) (at_ n ns f).high ns1 M1 _ w6 JD JR JZ (hl.ext.ref (hw.ref_high hf)) (by omega) hl.mem (zRx hw hl.ext (hw.ref_high hf) (fun y hy=>hS y (.high JB hy))) JQ h6) ?_;rintro _ w7 ⟨r2,ns2,M2,rfl,hh,h7⟩;cases r2 with
 |none =>simp[zBH,zFO,zu];exact⟨none,ns2,M2,rfl,zWX hw hf JB hl hh,drp h7⟩
 |some h =>
 have JA:=zUT.ren hw hf JB hS JK;have hm:=c_mid JA hl hh;have Jd:=hm.ext.wf;have JY:Bnd n lim ns2:=⟨JH,JI,hm.lim⟩;have Jg:=hm.lim;have JC:=h7.drop.drop.obj;have JU:l<=2000000:=by have:=hm.rl;unfold Ref at this;omega
 have JW:h<=2000000:=by have:=hm.rk;unfold Ref at this;omega
 have Jf:M2.length<=1048578:=zDf (ns:=ns2) (N:=1048578) (by omega) (fun q hq=>(hm.mem q hq).1) (zAw.nodup h7.drop.map);obtain⟨_,hq,_⟩:=h7.drop.drop.drop.ex;have JN:=hR _ _ hq;have sv:=JS _ (hS f (.self JB));have un:=JA.un;have JV:(tv n ns f)<xs.length:=(List.getElem?_eq_some_iff.1 sv).1;rw[etv] at sv un JV;have JO:=zA8 JN sv;have etk:tk=xs.length:=by
  rcases JN with⟨h1,_⟩|⟨a,cap,h1,_⟩
  ·cases h1
  ·injection h1
 have JT:((at_ n ns f).v:Int)<tk:=by omega
 have JF:(at_ n ns f).v<tk:=by omega
 simp[Value.adr] at JO;simp[zBH,okV,zA JC,en,zAB,JO,JT,JF];rw[<-etv];refine zG (zDM m n lim ns2 (to (tv n ns f)) l h (Lcl.map.star JD) h7 JY (by have:=JA.un;omega) JU JW) ?_;rintro _ w9 ⟨rfl,h9⟩;cases hk:(mkF lim ns2 (to (tv n ns f)) l h).1 with
 |none =>simp[zBH,zFO,zu];exact⟨none,_,M2,rfl,zWY JA hm hk,drp h9⟩
 |some x =>simp[zBH,okV];refine At.put (x:=f) (v:=x) (Lcl.mgr.star JD) h9.rot zBm Tryz.underlying159 (show zY f by unfold zY;omega) (by unfold maxLen;omega) fun Jc Jb=>?_;simp;exact⟨some x,_,_,rfl,zWa JA hm hk (fun q hq=>zBW hq),drp Jb.rot⟩
end Go.Proofs.YtolkjbmcindhjaaGreat
end
