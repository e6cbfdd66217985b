/-
  Parts of the proof of this claim's statement; no conditions beyond those each theorem names.
-/
import Derived.Test.YtolkjbmcindhjaaGreatPk07
import Derived.Test.YtolkjbmcindhjaaGreatPk06
set_option maxRecDepth 100000
set_option linter.unusedSimpArgs false
set_option linter.unusedVariables false
set_option linter.unusedSectionVars false
set_option maxHeartbeats 8000000
namespace Go.Proofs.YtolkjbmcindhjaaGreat
section
open Go Go.W Go.Tk Go.Rx Go.Bd Go.Sy Go.Maps
def rlB(T:Nt)(o:No)(k:Nat)(a:Nat->Bool):Bool:=(List.range (T.vars.length-k)).all fun j=>decide (rv T.vars a 1 (k+j)=zJE o (rs T.vars a 0) (k+j))
theorem zSM{T:Nt}{o:No}{a:Nat->Bool}:rlB T o T.vars.length a=true:=by unfold rlB;simp
theorem zJl{T:Nt}{o:No}{k:Nat}{a:Nat->Bool}(hk:k<T.vars.length):rlB T o k a=(decide (rv T.vars a 1 k=zJE o (rs T.vars a 0) k)&&rlB T o (k+1) a):=by
 unfold rlB;rw[show T.vars.length-k=(T.vars.length-(k+1))+1 by omega,List.range_succ_eq_map,List.all_cons,List.all_map];congr 1;refine congrArg (fun f=>(List.range (T.vars.length-(k+1))).all f) ?_;funext j;simp only[Function.comp];rw[show k+j.succ=k+1+j by omega]
theorem zSN{T:Nt}{o:No}{a:Nat->Bool}:rlB T o 0 a=decide (rs T.vars a 1=apS o (rs T.vars a 0)):=by
 rw[Bool.eq_iff_iff,decide_eq_true_iff,<-zSR];unfold rlB relV;rw[List.all_eq_true];constructor
 ·intro h v hv;have:=h v (List.mem_range.2 (by omega));simpa using this
 ·intro h k hk;have:=h k (by have:=List.mem_range.1 hk;omega);simpa using this
structure RelW(T:Nt)(o:No)(W:((Nat->Bool)->Bool)->Prop):Prop where
 lit:LitW T.vars W
 ch:∀v,v<T.vars.length->ChW T.vars o v W
 rl:∀j,j<T.vars.length->W (rlB T o j)
 pre:FcW T.vars o.pre W
 fin:W fun a=>hdB (rs T.vars a 0) o.pre&&rlB T o 0 a
theorem zP6{l:List (Nat×Nat)}{x v:Nat}(h:zBw l x=some v):(x,v)∈l:=by
 unfold zBw at h;rw[Option.map_eq_some_iff] at h;obtain⟨p,hp,rfl⟩:=h;have h1:=List.mem_of_find?_eq_some hp;have h2:=List.find?_some hp;simp at h2;obtain⟨a,b⟩:=p;simp at h2;subst h2;exact h1
theorem zAd{κ α:Type}[DecidableEq κ]{l:List (κ×α)}{x:κ}{v:α}:(zB5 l x v).length<=l.length+1:=by
 unfold zB5;split<;>simp
def RlI(b s m lim:Nat)(T:Nt)(q:SpC)(ns:Ns)(R:Asr)(w:World)(F:List Nat)(W:((Nat->Bool)->Bool)->Prop)(op:Nat)(o:No)(n:Nat)(ρ:Env)(w':World):Prop :=
 ρ 0=.pointer (some ⟨s,0,none⟩)/\ρ 1=.int .i64 (op:Nat)/\ρ 8=.pointer (some ⟨b,0,none⟩)/\ρ 10=.int .i64 ((n:Int)-1)/\n<=T.vars.length /\
  ∃f e' ns',ρ 9=.int .i64 (f:Nat)/\Stp (2*zD T.vars) lim W false ns e' ns'/\Mn ns' e' f (rlB T o n)/\At w F (BlA b s m lim T.vars q e' ns' R) w'
def zWm(s m lim:Nat)(T:Nt)(q:SpC)(ns:Ns)(ks:List (Nat×Bool))(ss:List (Nat×Nat))(B:Asr)(w:World)(F:List Nat)(W:((Nat->Bool)->Bool)->Prop)(op:Nat)(o:No)(v:Value)(w':World):Prop :=
 ∃r e' ns' ss',v=.tuple #[.int .i64 (r:Nat),eB e']/\Stp (2*zD T.vars) lim W false ns e' ns'/\(e'=false->zT1 T ns' (op,r))/\SpG lim T q ns' ks ss'/\ss'.length<=ss.length+1/\At w F (zI s m lim T q ns' ks ss' B) w'
section
variable {w w1:World} {F:List Nat} {B:Asr} {s m lim:Nat} {T:Nt} {q:SpC} {ns:Ns} {ks:List (Nat×Bool)} {ss:List (Nat×Nat)} {W:((Nat->Bool)->Bool)->Prop}
theorem zDF(op:Nat)(o:No)(hG:SpG lim T q ns ks ss)(hB:Lcl B)(h:At w F (zI s m lim T q ns ks ss B) w1)(ho:T.ops[op]? = some o)(Jh:ss.length<1000000)(hW:RelW T o W) :
  Calls Tryz.prog 92 [.pointer (some ⟨s,0,none⟩),.int .i64 (op:Nat)].toArray w1 fun en w'=>∃u,en=.returned u/\zWm s m lim T q ns ks ss B w F W op o u w':=by
 refine enter Tryz.func92 mixed low92 (Nat.le_of_ble_eq_true rfl) ?_;simp only[L92];have os:=zI.obj h;unfold spO at os;have Jj:=hG.g.olen;have Jb:=(List.getElem?_eq_some_iff.1 ho).1;have JT:zY op:=by unfold zY;omega
 simp[zA os];refine zAw.look2 (x:=op) (zI.sm h) zBm Tryz.underlying159 zT6 JT ?_;cases hg:zBw ss op with
 |some r =>simp[zAc];have hm:=hG.rel _ (zP6 hg);exact⟨r,false,ns,ss,by simp[eB],Stp.refl hG.ok.wf hG.ok.nl,fun _=>hm,hG,Nat.le_succ _,h⟩
 |none =>
  obtain⟨b,hb⟩:∃b,b=w1.heap.size:=⟨_,rfl⟩;have h2:=zI.bl hB h;obtain⟨w2,JR⟩:∃w2,w2=w1.alloc (blO s false):=⟨_,rfl⟩;rw[<-hb,<-JR] at h2;have JN:w1.alloc (.cells #[.pointer (some ⟨s,0,none⟩),.nilIface] 167 (0,0))=w2:=by rw[JR];rfl
  have JZ:=h2;unfold BlA at JZ;have os2:=JZ.drop.drop.obj;unfold spO at os2;rw[hG.cells.1] at os2;have JW:=BlA.frame h2 zAO.rd;have Jg:=hG.g.vlen;simp(disch:=omega)[<-hb,JN,zA os2,JW.vars.len,zH];have hR:Lcl (zAO T q ks ss B):=zAO.lcl hB;have JI:=List.mem_of_getElem? ho;have JK:=hG.g.ops o JI;have JV:=JK.elen;have Ji:=JK.pre.len;refine z8 (RlI b s m lim T q ns (zAO T q ks ss B) w F W op o) T.vars.length ⟨by simp,by simp,by simp,by simp,Nat.le_refl _,1,false,ns,by simp,Stp.refl hG.ok.wf hG.ok.nl,zEu hG.ok.wf _ _ (fun a=>zSM),h2⟩ ?_;clear os2 JW h2;rintro n ρ w3 ⟨g0,g1,g8,g10,Jk,f,e3,Jf,g9,hs,JU,h3⟩;have JC:=hG.ok.stp hs;have JY:=h3;unfold BlA at JY;have os3:=JY.drop.drop.obj;unfold spO at os3;rw[hG.cells.2.2.2] at os3;have JF:=BlA.frame h3 zAO.rd;have Jm:=JF.op o JI;have Jc:(op:Int)<T.ops.length:=by omega
  by_cases Jd:n=0
  ·subst Jd;have c2:=JF.ops.fld zBv ho (o:=2) (u:=o.pv.1) rfl;simp(disch:=omega)[g10,g0,g1,g8,g9,zA os3,JF.ops.idx,c2];refine zG (zB0 o.pv.1 o.pre JC hR h3 (fun w' F' JP=>((zAO.rd w' F' JP).op o JI).pre) JK.pre.rng (by omega) hW.lit hW.pre) ?_;rintro _ w4 ⟨y4,e4,Ja,rfl,JA,JO,h4⟩;have JL:=JC.stp JA;simp[g8,g9];refine zG (zp y4 f _ _ JL hR h4 JO (JU.keep JC.wf JA) hW.fin) ?_;rintro _ w5 ⟨y5,e5,JD,rfl,JH,JE,h5⟩;have Jl:=JL.stp JH;have JG:=(hs.trans JA).trans JH;have JX:=h5;unfold BlA at JX;have JM:=JX.drop.obj;unfold blO at JM;cases e5 with
   |true =>simp[g8,zA JM,eB,zu];exact⟨0,true,JD,ss,by simp[eB,zu],JG,fun h=>(by cases h),hG.stp JG,Nat.le_succ _,zI.un (h5.drew (BlA.lcl hR))⟩
   |false =>
    have h6:=zI.un h5;have os6:=zI.obj h6;unfold spO at os6;simp[g8,g0,g1,zA JM,zA os6,eB];refine zI.putS hB h6 JT (by omega) fun w7 h7=>?_;simp;have hm:=JE.2 rfl;have JS:zT1 T JD (op,y5):=⟨hm.1,o,ho,fun a=>by rw[hm.2 a];unfold zHe;rw[<-zSN]⟩;have JB:=hG.stp JG;refine⟨y5,false,JD,zB5 ss op y5,by simp[eB],JG,fun _=>JS,?_,zAd,h7⟩;exact⟨JB.ok,JB.g,JB.cells,JB.all,JB.set,fun p hp=>by
     rcases zBW hp with h|rfl
     ·exact JB.rel p h
     ·exact JS,JB.kl,by have:(zB5 ss op y5).length<=ss.length+1:=zAd;omega⟩
  obtain⟨j,rfl⟩:∃j,n=j+1:=⟨n-1,by omega⟩;have Je:((j+1:Nat):Int)-1=(j:Int):=by omega
  rw[Je] at g10;have ec:=JF.ops.cells zBv ho;simp only[noE] at ec;simp(disch:=omega)[g10,g0,g1,g8,zA os3,JF.ops.idx,ec];have JQ:W fun a=>decide (rv T.vars a 1 j=zJE o (rs T.vars a 0) j)&&rlB T o (j+1) a:=by have:=hW.rl j (by omega);rwa[show rlB T o j=fun a=>decide (rv T.vars a 1 j=zJE o (rs T.vars a 0) j)&&rlB T o (j+1) a from funext fun a=>zJl (by omega)] at this
  refine zG (zG5 o j JC hR h3 (by omega) (fun w' F' JP=>(zAO.rd w' F' JP).op o JI) JK hW.lit (hW.ch j (by omega))) ?_;rintro _ w4 ⟨y4,e4,Ja,rfl,JA,JO,h4⟩;have JL:=JC.stp JA;simp[g8,g9];refine zG (zp y4 f _ _ JL hR h4 JO (JU.keep JC.wf JA) JQ) ?_;rintro _ w5 ⟨y5,e5,JD,rfl,JH,JE,h5⟩;simp(disch:=omega)[g10,zH];refine⟨j,by omega,by simp[g0],by simp[g1],by simp[g8],by simp,by omega,y5,e5,JD,by simp,(hs.trans JA).trans JH,?_,h5⟩
  ·exact⟨JE.1,fun he=>⟨(JE.2 he).1,fun a=>by rw[(JE.2 he).2 a,zJl (by omega)]⟩⟩
end
end
section
open Go Go.W Go.Tk Go.Rx Go.Bd Go.Sy Go.Maps
def ksR(ks:List (Nat×Bool))(x:Nat)(e:Bool):List (Nat×Bool):=if e=true then ks else zB5 ks x true
theorem zS0{ks:List (Nat×Bool)}{x:Nat}{e:Bool}:(ksR ks x e).length<=ks.length+1:=by
 unfold ksR;split
 ·omega
 ·exact zAd
def zB7(vars:List Nat)(P:List Nat->Bool):(Nat->Bool)->Bool:=fun a=>okB vars a&&P (rs vars a 0)
def zKo(s m lim:Nat)(T:Nt)(q:SpC)(ns:Ns)(ks:List (Nat×Bool))(ss:List (Nat×Nat))(B:Asr)(w:World)(F:List Nat)(W:((Nat->Bool)->Bool)->Prop)(P:List Nat->Bool)(v:Value)(w':World):Prop :=
 ∃x e' ns' ss',v=.tuple #[.int .i64 (x:Nat),eB e']/\Stp (2*zD T.vars) lim W false ns e' ns'/\(e'=true->x=0)/\(e'=false->zDY T.vars ns' x P)/\SpG lim T q ns' (ksR ks x e') ss'/\ss'.length<=ss.length+1/\At w F (zI s m lim T q ns' (ksR ks x e') ss' B) w'
theorem SpG.put{lim:Nat}{T:Nt}{q:SpC}{ns:Ns}{ks:List (Nat×Bool)}{ss:List (Nat×Nat)}{x:Nat}{e:Bool}{P:List Nat->Bool}(h:SpG lim T q ns ks ss)(hl:ks.length<1000000)(hx:e=false->zDY T.vars ns x P):SpG lim T q ns (ksR ks x e) ss:=by
 cases e with
 |true=>exact h
 |false =>
  refine⟨h.ok,h.g,h.cells,h.all,fun p hp=>?_,h.rel,by have:(ksR ks x false).length<=ks.length+1:=zS0;omega,h.sl⟩;rcases zBW hp with h1|rfl
  ·exact h.set p h1
  ·exact⟨rfl,P,hx rfl⟩
theorem zJr{lim:Nat}{vars:List Nat}{ns:Ns}{x:Nat}(hk:zFr vars lim ns)(h:Ref ns x):x<=2000000:=by
 have h1:=hk.lmx;have h2:=hk.nl;unfold Ref at h;omega
structure Kn(T:Nt)(ns:Ns)(ks:List (Nat×Bool))(x:Nat)(P:List Nat->Bool):Prop where
 kn:zBw ks x=some true
 ok:zDY T.vars ns x P
section
variable {w w1:World} {F:List Nat} {B:Asr} {s m lim:Nat} {T:Nt} {q:SpC} {ns:Ns} {ks:List (Nat×Bool)} {ss:List (Nat×Nat)}
theorem Kn.le{x:Nat}{P:List Nat->Bool}(h:Kn T ns ks x P)(hG:SpG lim T q ns ks ss):x<=2000000:=zJr hG.ok h.ok.1
theorem zAU(x:Nat)(e:Bool)(hB:Lcl B)(h:At w F (zI s m lim T q ns ks ss B) w1)(hx:x<=2000000)(JB:ks.length<=1000000) :
  Calls Tryz.prog 87 [.pointer (some ⟨s,0,none⟩),.int .i64 (x:Nat),eB e].toArray w1 fun en w'=>∃v,en=.returned v/\v=.tuple #[.int .i64 ((if e=true then 0 else x:Nat):Nat),eB e]/\At w F (zI s m lim T q ns (ksR ks x e) ss B) w':=by
 refine enter Tryz.func87 mixed low87 (Nat.le_of_ble_eq_true rfl) ?_;simp only[L87];have os:=zI.obj h;unfold spO at os;have JA:zY x:=by unfold zY;omega
 cases e with
 |true =>simp[eB,zu];exact h
 |false =>simp[eB,zA os];refine zI.putK hB h JA JB fun w2 h2=>?_;simp;exact h2
theorem zJW(a b:Nat)(h:At w F (zI s m lim T q ns ks ss B) w1)(ha:zBw ks a=some true)(hb:zBw ks b=some true)(JD:a<=2000000)(JC:b<=2000000)(hB:Lcl B) :
  Calls Tryz.prog 97 [.pointer (some ⟨s,0,none⟩),.int .i64 (a:Nat),.int .i64 (b:Nat)].toArray w1 fun en w'=>∃v,en=.returned v/\v=.nilIface/\At w F (zI s m lim T q ns ks ss B) w':=by
 refine enter Tryz.func97 mixed low97 (Nat.le_of_ble_eq_true rfl) ?_;simp only[L97];have os:=zI.obj h;unfold spO at os;have JB:zY a:=by unfold zY;omega
 have JA:zY b:=by unfold zY;omega
 simp[zA os];refine zAw.look1 (x:=a) (zI.km h) zBm Tryz.underlying147 zLy JB ?_;simp[ha,zG4,zA os];refine zAw.look1 (x:=b) (zI.km h) zBm Tryz.underlying147 zLy JA ?_;simp[hb,zG4];exact h
theorem zHO(a op:Nat)(h:At w F (zI s m lim T q ns ks ss B) w1)(ha:zBw ks a=some true)(JB:a<=2000000)(hG:SpG lim T q ns ks ss)(ho:op<T.ops.length)(hB:Lcl B) :
  Calls Tryz.prog 91 [.pointer (some ⟨s,0,none⟩),.int .i64 (a:Nat),.int .i64 (op:Nat)].toArray w1 fun en w'=>∃v,en=.returned v/\v=.nilIface/\At w F (zI s m lim T q ns ks ss B) w':=by
 refine enter Tryz.func91 mixed low91 (Nat.le_of_ble_eq_true rfl) ?_;simp only[L91];have os:=zI.obj h;unfold spO at os;rw[hG.cells.2.2.2] at os;have hT:=zI.tsk h;have JA:zY a:=by unfold zY;omega
 have h0:¬(op:Int)<0:=by omega
 have h1:¬(T.ops.length:Int)<=(op:Int):=by omega
 simp[zA os];refine zAw.look1 (x:=a) (zI.km h) zBm Tryz.underlying147 zLy JA ?_;simp[ha,zG4,zA os,h0,hT.ops.len,h1];exact h
end
end
section
open Go Go.W Go.Tk Go.Rx Go.Bd Go.Sy Go.Maps
section
variable {w w1:World} {F:List Nat} {B:Asr} {s m lim:Nat} {T:Nt} {q:SpC} {ns:Ns} {ks:List (Nat×Bool)} {ss:List (Nat×Nat)} {W:((Nat->Bool)->Bool)->Prop}
theorem zI.rest(hB:Lcl B):Lcl (zC (zL s (spO m T.vars q)) (zC (zM q.fv 3 1 nE (zBC T.vars)) (zC (zM q.wv 3 1 nE (zBB T.vars)) (zC (KmA q.km ks) (zC (SmA q.sm ss) (zC (zAT T) B)))))):=Lcl.obj.star (Lcl.own.star (Lcl.own.star (Lcl.map.star (Lcl.map.star (zAT.lcl.star hB)))))
theorem zED{x:Nat}{e:Bool}{ns':Ns}{P:List Nat->Bool}{w':World}{v:Value}(hG:SpG lim T q ns ks ss)(JA:ks.length<1000000)(hs:Stp (2*zD T.vars) lim W false ns e ns')(hx:e=false->zDY T.vars ns' x P)(hv:v=.tuple #[.int .i64 ((if e=true then 0 else x:Nat):Nat),eB e])
  (h:At w F (zI s m lim T q ns' (ksR ks x e) ss B) w'):zKo s m lim T q ns ks ss B w F W P v w':=by
 cases e with
 |true=>exact⟨0,true,ns',ss,by rw[hv];rfl,hs,fun _=>rfl,fun h=>(by cases h),hG.stp hs,Nat.le_succ _,h⟩
 |false=>exact⟨x,false,ns',ss,by rw[hv];rfl,hs,fun h=>(by cases h),hx,(hG.stp hs).put JA hx,Nat.le_succ _,h⟩
theorem zKw(a b:Nat)(P Q:List Nat->Bool)(hG:SpG lim T q ns ks ss)(hB:Lcl B)(h:At w F (zI s m lim T q ns ks ss B) w1)(ha:Kn T ns ks a P)(hb:Kn T ns ks b Q)(JC:ks.length<1000000)(hW:W (zB7 T.vars fun x=>P x||Q x)) :
  Calls Tryz.prog 36 [.pointer (some ⟨s,0,none⟩),.int .i64 (a:Nat),.int .i64 (b:Nat)].toArray w1 fun en w'=>∃v,en=.returned v/\zKo s m lim T q ns ks ss B w F W (fun x=>P x||Q x) v w':=by
 refine enter Tryz.func36 mixed low36 (Nat.le_of_ble_eq_true rfl) ?_;simp only[L36];simp;refine zG (zJW a b h ha.kn hb.kn (ha.le hG) (hb.le hG) hB) ?_;rintro _ w2 ⟨rfl,h2⟩;have os:=zI.obj h2;unfold spO at os;simp[zA os];obtain⟨p1,p2⟩:=zDG hG.ok.wf 1 ha.ok.1 hb.ok.1;have JB:=h2;unfold zI at JB;refine zG (zVE (zAe m (2*zD T.vars) lim ns 1 a b _ (by omega) (zI.rest hB) JB hG.ok.wf hG.ok.bnd ha.ok.1 hb.ok.1 p2 p1) (by rintro v w' ⟨r,_,rfl,_⟩;exact zBX r)) ?_;rintro _ w3 ⟨r,ns',rfl,JA,h3⟩;obtain⟨s1,s2⟩:=zF5 (W:=W) (G:=zB7 T.vars fun x=>P x||Q x) hG.ok JA (fun _ _ h=>h) (fun x=>by show(eval ns x a||eval ns x b)=_;rw[ha.ok.2,hb.ok.2];unfold zB7;cases okB T.vars x<;>rfl) hW;rw[zAA];simp;have JD:At w F (zI s m lim T q ns' ks ss B) w3:=h3;refine zG (zAU (r.getD 0) r.isNone hB JD s2.1 (by omega)) ?_;rintro _ w4 ⟨rfl,h4⟩;simp;refine zED hG JC s1 (fun e=>⟨(s2.2 e).1,fun x=>?_⟩) (by cases r<;>rfl) h4;rw[(s2.2 e).2];rfl
theorem zFm(a b:Nat)(P Q:List Nat->Bool)(hG:SpG lim T q ns ks ss)(hB:Lcl B)(h:At w F (zI s m lim T q ns ks ss B) w1)(ha:Kn T ns ks a P)(hb:Kn T ns ks b Q)(JC:ks.length<1000000)(hW:W (zB7 T.vars fun x=>P x&&Q x)) :
  Calls Tryz.prog 41 [.pointer (some ⟨s,0,none⟩),.int .i64 (a:Nat),.int .i64 (b:Nat)].toArray w1 fun en w'=>∃v,en=.returned v/\zKo s m lim T q ns ks ss B w F W (fun x=>P x&&Q x) v w':=by
 refine enter Tryz.func41 mixed low41 (Nat.le_of_ble_eq_true rfl) ?_;simp only[L41];simp;refine zG (zJW a b h ha.kn hb.kn (ha.le hG) (hb.le hG) hB) ?_;rintro _ w2 ⟨rfl,h2⟩;have os:=zI.obj h2;unfold spO at os;simp[zA os];obtain⟨p1,p2⟩:=zDG hG.ok.wf 0 ha.ok.1 hb.ok.1;have JB:=h2;unfold zI at JB;refine zG (zKj (zAe m (2*zD T.vars) lim ns 0 a b _ (by omega) (zI.rest hB) JB hG.ok.wf hG.ok.bnd ha.ok.1 hb.ok.1 p2 p1) (by rintro v w' ⟨r,_,rfl,_⟩;exact zBX r)) ?_;rintro _ w3 ⟨r,ns',rfl,JA,h3⟩;obtain⟨s1,s2⟩:=zF5 (W:=W) (G:=zB7 T.vars fun x=>P x&&Q x) hG.ok JA (fun _ _ h=>h) (fun x=>by show(eval ns x a&&eval ns x b)=_;rw[ha.ok.2,hb.ok.2];unfold zB7;cases okB T.vars x<;>rfl) hW;rw[zAA];simp;have JD:At w F (zI s m lim T q ns' ks ss B) w3:=h3;refine zG (zAU (r.getD 0) r.isNone hB JD s2.1 (by omega)) ?_;rintro _ w4 ⟨rfl,h4⟩;simp;refine zED hG JC s1 (fun e=>⟨(s2.2 e).1,fun x=>?_⟩) (by cases r<;>rfl) h4;rw[(s2.2 e).2];rfl
end
end
section
open Go Go.W Go.Tk Go.Rx Go.Bd Go.Sy Go.Maps
def sF(s:List Nat)(k:Nat):List Go.Tk.Fc:=(List.range k).map fun v=>(v,s.getD v 0)
theorem zSI(s:List Nat)(k:Nat):sF s (k+1)=sF s k++[(k,s.getD k 0)]:=by unfold sF;rw[List.range_succ,List.map_append];rfl
theorem zMW(s:List Nat)(k:Nat):(sF s k).length=k:=by unfold sF;simp
theorem sF_hd{x s:List Nat}(h:x.length=s.length):hdB x (sF s s.length)=decide (x=s):=by
 rw[Bool.eq_iff_iff,decide_eq_true_iff];unfold hdB sF;rw[List.all_eq_true];constructor
 ·intro hh;refine zEO h fun v hv=>?_;have:=hh (v,s.getD v 0) (List.mem_map.2 ⟨v,List.mem_range.2 (by omega),rfl⟩);simpa using this
 ·rintro rfl f hf;obtain⟨v,hv,rfl⟩:=List.mem_map.1 hf;simp
theorem zMV{vars s:List Nat}(h:StN vars s):zHB vars (sF s s.length):=by
 intro f hf;unfold sF at hf;obtain⟨v,hv,rfl⟩:=List.mem_map.1 hf;have:=List.mem_range.1 hv;rw[h.len] at this;exact⟨this,h.rng v this⟩
section
variable {w w1:World} {F:List Nat} {A B:Asr} {s m lim:Nat} {T:Nt} {q:SpC} {ns:Ns} {ks:List (Nat×Bool)} {ss:List (Nat×Nat)} {W:((Nat->Bool)->Bool)->Prop}
theorem zI.into(h:At w F (zC A (zI s m lim T q ns ks ss B)) w1):At w F (zI s m lim T q ns ks ss (zC A B)) w1:=by
 unfold zI at h ⊢;exact h.by Imp.bk8
theorem zI.out(h:At w F (zI s m lim T q ns ks ss (zC A B)) w1):At w F (zC A (zI s m lim T q ns ks ss B)) w1:=by
 unfold zI at h ⊢;exact h.by Imp.fr8
theorem zI.less(h:At w F (zI s m lim T q ns ks ss (zC A B)) w1):At w F (zI s m lim T q ns ks ss B) w1:=(zI.out h).by Imp.dr
theorem zKo.less{P:List Nat->Bool}{v:Value}{w':World}(h:zKo s m lim T q ns ks ss (zC A B) w F W P v w'):zKo s m lim T q ns ks ss B w F W P v w':=by
 obtain⟨x,e',ns',ss',h1,h2,h3,h4,h5,h6,h7⟩:=h;exact⟨x,e',ns',ss',h1,h2,h3,h4,h5,h6,zI.less h7⟩
theorem zHk(pv:Value)(p:List Go.Tk.Fc)(hG:SpG lim T q ns ks ss)(hB:Lcl B)(h:At w F (zI s m lim T q ns ks ss B) w1)(hr:Rds B fun w'=>Vw w' pv fcE p)(hp:zAQ (T.vars.map iN) (p.map faN)=true)(JG:zFt T.vars p)(JP:ks.length<1000000)(hL:LitW T.vars W)(hF:FcW T.vars p W)(hW:W (zB7 T.vars fun x=>hdB x p)) :
  Calls Tryz.prog 32 [.pointer (some ⟨s,0,none⟩),pv].toArray w1 fun en w'=>∃v,en=.returned v/\zKo s m lim T q ns ks ss B w F W (fun x=>hdB x p) v w':=by
 refine enter Tryz.func32 mixed low32 (Nat.le_of_ble_eq_true rfl) ?_;simp only[L32];have os:=zI.obj h;unfold spO at os;rw[hG.cells.1] at os;have hT:=zI.tsk h;have JV:=JG.len;have JU:=hG.g.vlen;have JQ:Lcl (zI s m lim T q ns ks ss B):=zI.lcl hB;simp[zA os];refine zG (zBL T.vv.1 pv _ _ (zKu.2 hT.vars) (zGM.2 (zI.frame h hr)) (by simp;omega)) ?_;rintro _ w2 ⟨rfl,k2⟩;have h2:=h.kp0 JQ k2;obtain⟨bb,JI⟩:∃bb,bb=w2.heap.size:=⟨_,rfl⟩;have h3:=zI.bl hB h2;obtain⟨w3,JE⟩:∃w3,w3=w2.alloc (blO s false):=⟨_,rfl⟩;rw[<-JI,<-JE] at h3;have JA:w2.alloc (.cells #[.pointer (some ⟨s,0,none⟩),.nilIface] 167 (0,0))=w3:=by rw[JE];rfl
 have hR:Lcl (zAO T q ks ss B):=zAO.lcl hB;have JM:=h3;unfold BlA at JM;have os3:=JM.drop.drop.obj;unfold spO at os3;have ma:Mn ns false q.all (zB7 T.vars fun _=>true):=⟨zJr hG.ok hG.all.1,fun _=>hG.all⟩;have e2:(zB7 T.vars fun x=>hdB x p)=fun a=>zB7 T.vars (fun _=>true) a&&hdB (rs T.vars a 0) p:=funext fun a=>by unfold zB7;cases okB T.vars a<;>simp
 rw[e2] at hW;have JR:=h3.drew (BlA.lcl hR);have JN:Rds (zAO T q ks ss B) fun w'=>Vw w' pv fcE p:=by unfold zAO;exact Rds.star (Rds.star (Rds.star hr))
 simp[hp,<-JI,JA,zA os3];refine⟨?_,?_⟩ <;>
 ·refine zG (zB0 pv p hG.ok hR JR JN JG.rng (by omega) hL hF) ?_;rintro _ w4 ⟨y4,e4,JT,rfl,JB,JO,h4⟩;have JH:=hG.ok.stp JB;have JL:=h4;unfold BlA at JL;have os4:=JL.drop.drop.obj;unfold spO at os4;simp[zA os4];refine zG (zp q.all y4 _ _ JH hR h4 (ma.keep hG.ok.wf JB) JO hW) ?_;rintro _ w5 ⟨y5,e5,JS,rfl,JF,JC,h5⟩;have JW:=JH.stp JF;have JK:=h5;unfold BlA at JK;have JD:=JK.drop.obj;unfold blO at JD;simp[zA JD];refine zG (zAU y5 e5 hB (zI.un h5) JC.1 (by omega)) ?_;rintro _ w6 ⟨rfl,h6⟩;simp;refine zED hG JP (JB.trans JF) (fun e=>⟨(JC.2 e).1,fun x=>?_⟩) rfl h6;rw[(JC.2 e).2];exact(congrFun e2 x).symm
theorem zIZ(sv:Value)(st:List Nat)(hG:SpG lim T q ns ks ss)(hB:Lcl B)(h:At w F (zI s m lim T q ns ks ss B) w1)(hr:Rds B fun w'=>Vw w' sv nE st)(JB:StN T.vars st)(JU:ks.length<1000000)(hL:LitW T.vars W)(hF:FcW T.vars (sF st st.length) W) :
  Calls Tryz.prog 33 [.pointer (some ⟨s,0,none⟩),sv].toArray w1 fun en w'=>∃v,en=.returned v/\zKo s m lim T q ns ks ss B w F W (fun x=>decide (x=st)) v w':=by
 refine enter Tryz.func33 mixed low33 (Nat.le_of_ble_eq_true rfl) ?_;simp only[L33];have os:=zI.obj h;unfold spO at os;rw[hG.cells.1] at os;have hT:=zI.tsk h;have JY:=hG.g.vlen;have JS:=JB.len;have JF:Lcl (zI s m lim T q ns ks ss B):=zI.lcl hB;simp[zA os];refine zG (zBT T.vv.1 sv _ _ (zKu.2 hT.vars) (zKu.2 (zI.frame h hr)) (by simp;omega)) ?_;rintro _ w2 ⟨rfl,k2⟩;have h2:=h.kp0 JF k2;have JD:=zI.frame h2 hr;have JW:=h2.nil (E:=100) (sz:=2) (enc:=fcE) JF;simp[JB.ok,JD.len];refine zF (n:=st.length) (by omega) (fun k ρ w'=>ρ 0=.pointer (some ⟨s,0,none⟩)/\ρ 23=sv/\At w F (zC (zM (ρ 6) 100 2 fcE (sF st k)) (zI s m lim T q ns ks ss B)) w') (by simp) (by simp)
  ⟨by simp,by simp,by simpa[sF] using JW⟩ (by decide) (fun _ _ _ _ h=>by simpa using h) (fun _ _ _ _ h=>by simpa using h) ?_ ?_
 ·rintro k ρ w3 hk JO JN ⟨e0,JH,h3⟩;obtain⟨x,hx⟩:∃x,st[k]? = some x:=⟨_,List.getElem?_eq_getElem hk⟩;have JR:st.getD k 0=x:=by simp[List.getD,hx]
  have JM:=zI.frame (h3.by Imp.dr) hr;have JZ:(k:Int)<st.length:=by omega
  obtain⟨ov,JA⟩:∃ov,ρ 6=ov:=⟨_,rfl⟩;rw[JA] at h3;simp(disch:=omega)[JH,JO,JN,JM.idx,zAM JM hx,JA,zW];refine zNq (x:=(k,x)) JF h3 (by rw[zMW];omega) fun v' w9 h9=>?_;simp[e0,JH,JO,JN];rw[zSI,JR];exact h9
 rintro ρ w3 ⟨e0,JH,h3⟩;obtain⟨ov,JA⟩:∃ov,ρ 6=ov:=⟨_,rfl⟩;rw[JA] at h3;have JV:=zI.into h3;have JG:Lcl (zC (zM ov 100 2 fcE (sF st st.length)) B):=Lcl.own.star hB;obtain⟨bb,JP⟩:∃bb,bb=w3.heap.size:=⟨_,rfl⟩;have h4:=zI.bl JG JV;obtain⟨w4,JK⟩:∃w4,w4=w3.alloc (blO s false):=⟨_,rfl⟩;rw[<-JP,<-JK] at h4;have JC:w3.alloc (.cells #[.pointer (some ⟨s,0,none⟩),.nilIface] 167 (0,0))=w4:=by rw[JK];rfl
 have hR:Lcl (zAO T q ks ss (zC (zM ov 100 2 fcE (sF st st.length)) B)):=zAO.lcl JG;have JT:Rds (zAO T q ks ss (zC (zM ov 100 2 fcE (sF st st.length)) B)) fun w'=>Vw w' ov fcE (sF st st.length):=by unfold zAO;exact Rds.star (Rds.star (Rds.star fun w' F' hs=>by obtain⟨Fa,Fb,ha,_⟩:=hs;exact ha.1.vw))
 simp[e0,JA,<-JP,JC];refine zG (zB0 ov (sF st st.length) hG.ok hR h4 JT (zMV JB) (by rw[zMW];omega) hL hF) ?_;rintro _ w5 ⟨y5,e5,JX,rfl,JL,JE,h5⟩;have Ja:=hG.ok.stp JL;have JQ:=h5;unfold BlA at JQ;have JI:=JQ.drop.obj;unfold blO at JI;simp[e0,zA JI];refine zG (zAU y5 e5 JG (zI.un h5) JE.1 (by omega)) ?_;rintro _ w6 ⟨rfl,h6⟩;simp;refine zKo.less (zED hG JU JL (fun e=>⟨(JE.2 e).1,fun x=>?_⟩) rfl h6);rw[(JE.2 e).2];show hdB _ _=_;rw[sF_hd (by rw[zB2,JS])];by_cases hx:rs T.vars x 0=st
 ·have:okB T.vars x=true:=zAh.2 (by rw[hx];exact JB);rw[this];simp[hx]
 ·simp[hx]
end
end
section
open Go Go.W Go.Tk Go.Rx Go.Bd Go.Sy Go.Maps
def tlL(g:Nat->Int)(n k:Nat):List Int:=(List.range n).map fun i=>if i<k then g i else 0
theorem zRv(g:Nat->Int)(n k:Nat):(tlL g n k).length=n:=by simp[tlL]
theorem zO8(g:Nat->Int)(n:Nat):tlL g n 0=List.replicate n 0:=by
 unfold tlL;apply List.ext_getElem
 ·simp
 ·intro i h1 h2;simp
theorem zMA(g:Nat->Int)(n k:Nat)(hk:k<n):(tlL g n k).set k (g k)=tlL g n (k+1):=by
 unfold tlL;apply List.ext_getElem
 ·simp
 ·intro i h1 h2;rw[List.getElem_set];simp only[List.getElem_map,List.getElem_range];by_cases h:k=i
  ·subst h;simp
  ·rw[if_neg h];by_cases h3:i<k
   ·rw[if_pos h3,if_pos (by omega)]
   ·rw[if_neg h3,if_neg (by omega)]
theorem zO9(g:Nat->Int)(n:Nat):tlL g n n=(List.range n).map g:=by
 unfold tlL;apply List.map_congr_left;intro i hi;rw[if_pos (List.mem_range.1 hi)]
def hfL(nx k:Nat):List Int:=((List.range k).filter fun i=>i%2==nx).map fun(i:Nat)=>(i:Int)
def toG(nx i:Nat):Int:=if i%2=nx then(i:Int)+1-2*nx else i
theorem zVr{nx k:Nat}(h:k%2=nx):hfL nx (k+1)=hfL nx k++[(k:Int)]:=by
 unfold hfL;rw[List.range_succ,List.filter_append,List.map_append];simp[h]
theorem zTC{nx k:Nat}(h:k%2≠nx):hfL nx (k+1)=hfL nx k:=by
 unfold hfL;rw[List.range_succ,List.filter_append,List.map_append];simp[h]
theorem zI0(nx k:Nat):(hfL nx k).length<=k:=by
 unfold hfL;rw[List.length_map];exact Nat.le_trans (List.length_filter_le _ _) (by simp)
theorem zTD{nx k i:Nat}:((i:Nat):Int)∈hfL nx k<->i<k/\i%2=nx:=by
 unfold hfL;constructor
 ·intro h;obtain⟨j,hj,e⟩:=List.mem_map.1 h;have:j=i:=by have e:(j:Int)=(i:Int):=e;omega
  subst this;have:=List.mem_filter.1 hj;exact⟨List.mem_range.1 this.1,by simpa using this.2⟩
 ·rintro⟨h1,h2⟩;exact List.mem_map.2 ⟨i,List.mem_filter.2 ⟨List.mem_range.2 h1,by simp[h2]⟩,rfl⟩
section
variable {w w1:World} {F:List Nat} {B:Asr} {s m:Nat} {vars:List Nat} {q:SpC}
theorem zDQ(nx:Nat)(hn:nx<2)(hB:Lcl B)(h:At w F B w1)(hs:Rds B fun w'=>w'.heap[s]? = some (spO m vars q))(hb:zD vars<=100) :
  Calls Tryz.prog 93 [.pointer (some ⟨s,0,none⟩),.int .i64 (nx:Nat)].toArray w1 fun en w'=>∃v,en=.returned v/\∃ov tv,v=.tuple #[ov,tv]/\At w F (zC (zM ov 3 1 iv (hfL nx (2*zD vars))) (zC (zM tv 3 1 iv ((List.range (2*zD vars)).map (toG nx))) B)) w':=by
 refine enter Tryz.func93 mixed low93 (Nat.le_of_ble_eq_true rfl) ?_;simp only[L93];obtain⟨_,hq,_⟩:=h.ex;have os:=hs _ _ hq;unfold spO at os;obtain⟨n,JL⟩:∃n,n=2*zD vars:=⟨_,rfl⟩;have JK:(2:Int)*(zD vars:Nat)=(n:Int):=by omega
 have h1:=h.made (E:=3) (enc:=iv) (x:=0) (z:=[.int .i64 0]) (n:=n) hB rfl zHt (by unfold maxLen;omega);rw[<-zO8 (toG nx)] at h1;have JM:Lcl (zC (zM (.slice (some ⟨w1.heap.size,0,none⟩) n n) 3 1 iv (tlL (toG nx) n 0)) B):=Lcl.own.star hB;have h2:=h1.nil (E:=3) (sz:=1) (enc:=iv) JM;simp(disch:=omega)[zA os,zH,JK];refine zHw (by omega) ?_;simp;obtain⟨tv,JE⟩:∃tv,tv=Value.slice (some ⟨w1.heap.size,0,none⟩) n n:=⟨_,rfl⟩;rw[<-JE] at h2 ⊢;refine zF (n:=n) (by omega) (fun k ρ w'=>ρ 1=.int .i64 (nx:Nat)/\ρ 7=tv/\At w F (zC (zM (ρ 6) 3 1 iv (hfL nx k)) (zC (zM tv 3 1 iv (tlL (toG nx) n k)) B)) w') (by simp) (by rw[JE];simp)
  ⟨by simp,by simp,by simpa[hfL] using h2⟩ (by decide) (fun _ _ _ _ h=>by simpa using h) (fun _ _ _ _ h=>by simpa using h) ?_ ?_
 ·rintro k ρ w2 hk JB JA ⟨g1,g7,h3⟩;obtain⟨ov,JC⟩:∃ov,ρ 6=ov:=⟨_,rfl⟩;rw[JC] at h3;have JP:(k:Int)<n:=by omega
  have hr:=h3.by Imp.sw;have JN:Lcl (zC (zM ov 3 1 iv (hfL nx k)) B):=Lcl.own.star hB;have hl:(tlL (toG nx) n k).length=n:=zRv _ _ _;have e2:((k:Int)%2==(nx:Int))=(k%2==nx):=by rw[Bool.eq_iff_iff];simp;omega
  simp(disch:=omega)[JB,JA,g7,hr.own.idx,hl];have et:(k:Int).tmod 2=((k%2:Nat):Int):=(Int.ofNat_tmod k 2).symm;refine hr.store1 (x:=(k:Int)) JN zHt zNX (by rw[hl];exact hk) rfl fun w3 h4=>?_;by_cases hp:k%2=nx
  ·have ep:((k:Int).tmod 2==(nx:Int))=true:=by rw[beq_iff_eq,et];omega
   have h5:=h4.by Imp.sw;have JF:((tlL (toG nx) n k).set k (k:Int)).length=n:=by rw[List.length_set,hl]
   have JG:Lcl (zC (zM tv 3 1 iv ((tlL (toG nx) n k).set k (k:Int))) B):=Lcl.own.star hB;simp(disch:=omega)[ep,g1,g7,JC,zW];have h6:=h5.kp0 (Lcl.own.star JG) ((Kp.refl [] w3).alloc (.cells #[.int .i64 (k:Nat)] 3));have JQ:=zI0 nx k;refine At.append (xs:=[(k:Int)]) JG h6 zHt zNX zCB rfl (fun j u hj=>?_) (by omega) (by unfold maxLen;omega) fun v' w9 h9=>?_
   ·rw[zAm,zA zO];simpa[iv] using hj
   have JI:=h9.by Imp.sw;have JD:Lcl (zC (zM v' 3 1 iv (hfL nx k++[(k:Int)])) B):=Lcl.own.star hB;simp(disch:=omega)[JB,JA,g1,g7,JI.own.idx,JF,zH];refine JI.store1 (x:=(k:Int)+1-2*nx) JD zHt zNX (by rw[JF];exact hk) rfl fun JO JH=>?_;rw[List.set_set,show(k:Int)+1-2*nx=toG nx k by unfold toG;rw[if_pos hp],zMA _ _ _ hk] at JH;simp[g1,g7,JB,JA];rw[zVr hp];exact JH.by Imp.sw
  ·have ep:((k:Int).tmod 2==(nx:Int))=false:=by rw[beq_eq_false_iff_ne,et];intro h;apply hp;omega
   simp[ep,g1,g7,JC,JB,JA];rw[zTC hp,<-zMA _ _ _ hk,show toG nx k=(k:Int) by unfold toG;rw[if_neg hp]];exact h4.by Imp.sw
 rintro ρ w2 ⟨g1,g7,h3⟩;simp[g7];rw[zO9] at h3;rw[<-JL];exact⟨_,_,⟨rfl,rfl⟩,h3⟩
end
end
section
open Go Go.W Go.Tk Go.Rx Go.Bd Go.Sy Go.Maps
theorem zAy{vars:List Nat}{a b:Nat->Bool}{nx ny:Nat}(h:∀p,p<zD vars->a (2*p+nx)=b (2*p+ny)):rs vars a nx=rs vars b ny:=by
 refine zEO (by rw[zB2,zB2]) fun v hv=>?_;rw[zB2] at hv;rw[zCe hv,zCe hv];unfold rv;refine zBj _ fun k hk=>h _ ?_;have:vars[v]? = some (vars.getD v 0):=by simp[List.getD,List.getElem?_eq_getElem hv]
 exact zQb this hk
theorem indep{n:Nat}{ns:Ns}{f y:Nat}(hw:Wf n ns)(hf:Ref ns f)(hy:Rch n ns f y)(h:∀a x,eval ns (upd a (tv n ns y) x) f=eval ns a f):False:=by
 obtain⟨a,ha⟩:=(zMg hw (tv n ns y) hf).1 ⟨y,hy,rfl⟩;exact ha (by rw[h,h])
theorem zGO{n nx i:Nat}(hi:i<n):tgt ((List.range n).map (toG nx)) (i:Nat)=toG nx i:=by
 unfold tgt;simp[List.getD,hi]
theorem zJp{k nx f:Nat}{ns:Ns}{L:List Int}(hw:Wf (2*k) ns)(hf:Ref ns f)(hn:nx<2)(hS:SupP (2*k) ns f L)(hi:∀a i x,i%2≠nx->i<2*k->eval ns (upd a i x) f=eval ns a f):¬zDu (2*k) ((List.range (2*k)).map (toG nx)) L/\¬zFU ((List.range (2*k)).map (toG nx)) L:=by
 have key:∀v∈L,∃i:Nat,v=i/\i<2*k/\i%2=nx:=fun v hv=>by obtain⟨y,hy,rfl⟩:=(hS.2 v).1 hv;have JA:tv (2*k) ns y<2*k:=hw.tv_var hy.ge (hy.ref hw hf);refine⟨_,rfl,JA,?_⟩;apply Decidable.byContradiction;intro h;exact indep hw hf hy fun a x=>hi a _ x h JA
 constructor
 ·rintro (h|⟨v,hv,h⟩)
  ·exact h (by simp)
  ·obtain⟨i,rfl,h1,h2⟩:=key v hv;rw[zGO h1] at h;unfold toG at h;rw[if_pos h2] at h;omega
 ·rintro⟨j,a,b,ha,hb,h⟩;obtain⟨i1,rfl,a1,a2⟩:=key a (List.mem_of_getElem? ha);obtain⟨i2,rfl,b1,b2⟩:=key b (List.mem_of_getElem? hb);have JA:((i1:Nat):Int)<i2:=by have:=List.pairwise_iff_getElem.1 hS.1 j (j+1) (List.getElem?_eq_some_iff.1 ha).1 (List.getElem?_eq_some_iff.1 hb).1 (by omega);rwa[(List.getElem?_eq_some_iff.1 ha).2,(List.getElem?_eq_some_iff.1 hb).2] at this
  rw[zGO a1,zGO b1] at h;unfold toG at h;rw[if_pos a2,if_pos b2] at h;omega
theorem zRl{vars:List Nat}{lim f g:Nat}{ns ns1 ns':Ns}{S:Nat->Nat->Prop}{xs:List Int}{r1 r:Option Nat}{M':zFZ}{W:((Nat->Bool)->Bool)->Prop}{Fa:(Nat->Bool)->Bool}(hk:zFr vars lim ns)(JA:zJS (2*zD vars) lim 0 S ns f g r1 ns1)(hS:∀x y,S x y->PS (2*zD vars) ns f g x y)
  (h0:r1=none->r=none/\ns'=ns1) (h1:∀y,r1=some y->QOk (2*zD vars) lim 1 (inB (zAZ (2*zD vars) xs)) ns1 y r ns' M')
  (hF:∀c,(eval ns c f&&eval ns c g)=Fa c) (JD:W Fa) (JC:∀H,IsC Fa H->∀G:(Nat->Bool)->Bool,(∀a,G a=true<->qS 1 (inB (zAZ (2*zD vars) xs)) H a)->W G) :
  Stp (2*zD vars) lim W false ns r.isNone ns'/\∀x,r=some x->Ref ns' x/\∀a,eval ns' a x=true<->∃c,Off (inB (zAZ (2*zD vars) xs)) a c/\eval ns c f=true/\eval ns c g=true:=by
 have ho:∀c,Bd.opB 0 (eval ns c f) (eval ns c g)=Fa c:=fun c=>by rw[<-hF c];simp[Bd.opB]
 have JB:∀z,ns.length+2<=z->z<ns1.length+2->∃G,W G/\IsC G fun b=>eval ns1 b z:=fun z a b=>⟨Fa,JD,(JA.new hk.wf hS z a b).congr ho fun _=>rfl⟩;cases r1 with
 |none =>obtain⟨rfl,rfl⟩:=h0 rfl;exact⟨⟨JA.ext,JA.lim,JB,fun h=>(by cases h),fun _ _=>JA.hit rfl⟩,fun x h=>by cases h⟩
 |some y =>
  have hq:=h1 y rfl;obtain⟨hy,ey⟩:=JA.ok y rfl;refine⟨⟨JA.ext.trans hq.ext,hq.lim,fun z a b=>?_,fun h=>(by cases h),fun _ h=>hq.hit (by cases r<;>simp_all)⟩,fun x hx=>?_⟩
  ·by_cases hz:z<ns1.length+2
   ·obtain⟨G,g1,g2⟩:=JB z a hz;exact⟨G,g1,g2.congr (fun _=>rfl) fun b=>(hq.ext.eval JA.ext.wf b hz).symm⟩
   ·obtain⟨H,G,g1,g2,g3⟩:=hq.fr z (by omega) b;exact⟨G,JC H (g1.congr (fun c=>by rw[ey,ho]) fun _=>rfl) G g2,g3⟩
  ·obtain⟨b1,b2⟩:=hq.ok x hx;refine⟨b1,fun a=>?_⟩;rw[b2];unfold qS;rw[if_pos rfl];constructor
   ·rintro⟨c,h2,h3⟩;have h3:eval ns1 c y=true:=h3;rw[ey] at h3;have:eval ns c f=true/\eval ns c g=true:=by simpa[Bd.opB] using h3
    exact⟨c,h2,this⟩
   ·rintro⟨c,h2,h3,h4⟩;exact⟨c,h2,by show eval ns1 c y=true;rw[ey,h3,h4];rfl⟩
theorem zMb{vars:List Nat}{lim f nx:Nat}{ns ns':Ns}{r:Option Nat}{M':zFZ}{σ:(Nat->Bool)->Nat->Bool}{W:((Nat->Bool)->Bool)->Prop}{X:(Nat->Bool)->Bool}(hk:zFr vars lim ns)(h:zIK (2*zD vars) lim σ ns f r ns' M')(hX:∀c,eval ns c f=X c)(hW:∀H,IsC X H->W fun b=>H (σ b)) :
  Stp (2*zD vars) lim W false ns r.isNone ns'/\∀x,r=some x->Ref ns' x/\∀a,eval ns' a x=eval ns (σ a) f:=by
 refine⟨⟨h.ext,h.lim,fun z a b=>?_,fun h=>(by cases h),fun _ h2=>h.hit (by cases r<;>simp_all)⟩,h.ok⟩;obtain⟨H,h1,h2⟩:=h.fr z a b;exact⟨_,hW H (h1.congr hX fun _=>rfl),(IsC.refl _).congr (fun _=>rfl) fun b=>(h2 b).symm⟩
def sgA(n nx:Nat)(a:Nat->Bool)(i:Nat):Bool:=a (tgt ((List.range n).map (toG nx)) (i:Nat)).toNat
theorem zEg{n nx p:Nat}{a:Nat->Bool}(h:2*p+nx<n)(hn:nx<2):sgA n nx a (2*p+nx)=a (2*p+(1-nx)):=by
 unfold sgA;rw[zGO h];unfold toG;rw[if_pos (by omega)];congr 1;omega
theorem zI1{k nx:Nat}(x:Int)(h:x∈hfL nx k):0<=x/\x<k:=by
 unfold hfL at h;obtain⟨j,hj,rfl⟩:=List.mem_map.1 h;have:=List.mem_range.1 (List.mem_filter.1 hj).1;exact⟨by omega,by omega⟩
theorem zCX{k nx i:Nat}:inB (zAZ k (hfL nx k)) i=decide (i<k/\i%2=nx):=by
 rw[zNZ (fun x hx=>zI1 x hx)];rw[Bool.eq_iff_iff,decide_eq_true_iff,decide_eq_true_iff];exact zTD
theorem zKi{vars:List Nat}{o:No}{s:List Nat}(hs:StN vars s)(ho:NoG vars o):StN vars (apS o s):=by
 have key:∀k,k<=o.effs.length->StN vars (apK o s k):=by
  intro k hk
  induction k with
  |zero=>exact hs
  |succ k ih =>
   have ih:=ih (by omega);obtain⟨e,he⟩:∃e,o.effs[k]? = some e:=⟨_,List.getElem?_eq_getElem (by omega)⟩;rw[zB1 he];obtain⟨h1,h2⟩:=ho.eff e (List.mem_of_getElem? he);split
   ·refine⟨by rw[List.length_set];exact ih.len,fun v hv=>?_⟩;by_cases h:e.v=v
    ·subst h;rw[zNk (by rw[ih.len];exact hv)];exact h2
    ·rw[zVv h];exact ih.rng v hv
   ·exact ih
 exact key _ (Nat.le_refl _)
theorem zS8{T:Nt}{o:No}{P:List Nat->Bool}{a b:Nat->Bool}(h64:∀n∈T.vars,n<=64)(ho:NoG T.vars o)(hb:∀p,p<zD T.vars->b (2*p+1)=a (2*p)) :
  (∃c,Off (inB (zAZ (2*zD T.vars) (hfL 0 (2*zD T.vars)))) b c/\(okB T.vars c&&P (rs T.vars c 0))=true/\zHe T o c=true)<->(okB T.vars a&&zIO T o P (rs T.vars a 0))=true:=by
 have e1:∀{c:Nat->Bool},Off (inB (zAZ (2*zD T.vars) (hfL 0 (2*zD T.vars)))) b c->rs T.vars c 1=rs T.vars a 0:=fun {c} hc=>zAy fun p hp=>by rw[hc _ (by rw[zCX,decide_eq_false_iff_not];omega),hb p hp];rfl
 constructor
 ·rintro⟨c,hc,h1,h2⟩;obtain⟨h1,h3⟩:=Bool.and_eq_true_iff.1 h1;have hx:=zAh.1 h1;unfold zHe at h2;obtain⟨h4,h5⟩:=Bool.and_eq_true_iff.1 h2;have h5:=of_decide_eq_true h5;rw[e1 hc] at h5;have hy:StN T.vars (rs T.vars a 0):=by rw[h5];exact zKi hx ho
  rw[zAh.2 hy,Bool.true_and];unfold zIO;rw[List.any_eq_true];exact⟨_,zEc.2 hx,by rw[h3,h4,h5];simp⟩
 ·intro h;obtain⟨h1,h2⟩:=Bool.and_eq_true_iff.1 h;unfold zIO at h2;rw[List.any_eq_true] at h2;obtain⟨x,hx,h3⟩:=h2;have hx:=zEc.1 hx;simp only[Bool.and_eq_true,decide_eq_true_eq] at h3;obtain⟨⟨h3,h4⟩,h5⟩:=h3;obtain⟨c,hc⟩:∃c:Nat->Bool,c=fun i=>if i%2=0/\i<2*zD T.vars then mk2 T.vars x [] i else b i:=⟨_,rfl⟩;have JA:Off (inB (zAZ (2*zD T.vars) (hfL 0 (2*zD T.vars)))) b c:=fun i hi=>by rw[zCX] at hi;have hi:=of_decide_eq_false hi;rw[hc];simp only;rw[if_neg (fun h=>hi ⟨h.2,h.1⟩)]
  have JB:rs T.vars c 0=x:=by rw[<-zHY (y:=[]) h64 hx];refine zAy fun p hp=>?_;rw[hc];simp only;rw[if_pos ⟨by omega,by omega⟩]
  refine⟨c,JA,?_,?_⟩
  ·rw[JB,h3,zAh.2 (by rw[JB];exact hx)];rfl
  ·unfold zHe;rw[JB,h4,e1 JA,h5];simp
theorem zSa{T:Nt}{o:No}{P:List Nat->Bool}{a:Nat->Bool}(h64:∀n∈T.vars,n<=64)(ho:NoG T.vars o) :
  (okB T.vars a=true/\∃c,Off (inB (zAZ (2*zD T.vars) (hfL 1 (2*zD T.vars)))) a c/\zHe T o c=true/\(okB T.vars (sgA (2*zD T.vars) 0 c)&&P (rs T.vars (sgA (2*zD T.vars) 0 c) 0))=true)<->(okB T.vars a&&zFc o P (rs T.vars a 0))=true:=by
 have e0:∀{c:Nat->Bool},Off (inB (zAZ (2*zD T.vars) (hfL 1 (2*zD T.vars)))) a c->rs T.vars c 0=rs T.vars a 0:=fun {c} hc=>zAy fun p hp=>by rw[hc _ (by rw[zCX];simp)]
 have e1:∀{c:Nat->Bool},rs T.vars (sgA (2*zD T.vars) 0 c) 0=rs T.vars c 1:=fun {c}=>zAy fun p hp=>by rw[zEg (nx:=0) (by omega) (by omega)]
 constructor
 ·rintro⟨h0,c,hc,h1,h2⟩;obtain⟨h2,h3⟩:=Bool.and_eq_true_iff.1 h2;rw[e1] at h3;unfold zHe at h1;obtain⟨h4,h5⟩:=Bool.and_eq_true_iff.1 h1;have h5:=of_decide_eq_true h5;rw[h5] at h3;rw[e0 hc] at h3 h4;rw[h0,Bool.true_and];unfold zFc;rw[h3,h4];rfl
 ·intro h;obtain⟨h1,h2⟩:=Bool.and_eq_true_iff.1 h;unfold zFc at h2;obtain⟨h2,h3⟩:=Bool.and_eq_true_iff.1 h2;have hx:=zAh.1 h1;have hy:=zKi hx ho;refine⟨h1,?_⟩;obtain⟨c,hc⟩:∃c:Nat->Bool,c=fun i=>if i%2=1/\i<2*zD T.vars then mk2 T.vars (apS o (rs T.vars a 0)) [] (i-1) else a i:=⟨_,rfl⟩;have JA:Off (inB (zAZ (2*zD T.vars) (hfL 1 (2*zD T.vars)))) a c:=fun i hi=>by rw[zCX] at hi;have hi:=of_decide_eq_false hi;rw[hc];simp only;rw[if_neg (fun h=>hi ⟨h.2,h.1⟩)]
  have JB:rs T.vars c 1=apS o (rs T.vars a 0):=by rw[<-zHY (y:=[]) h64 hy];refine zAy fun p hp=>?_;rw[hc];simp only;rw[if_pos ⟨by omega,by omega⟩];rfl
  refine⟨c,JA,?_,?_⟩
  ·unfold zHe;rw[e0 JA,h2,JB];simp
  ·rw[zAh.2 (by rw[e1,JB];exact hy),e1,JB,h3];rfl
end
section
open Go Go.W Go.Tk Go.Rx Go.Bd Go.Sy Go.Maps
section
variable {w w1:World} {F:List Nat} {A B B':Asr} {s m lim:Nat} {T:Nt} {q:SpC} {ns:Ns} {ks:List (Nat×Bool)} {ss:List (Nat×Nat)} {W:((Nat->Bool)->Bool)->Prop}
theorem zI.tail(h:At w F (zI s m lim T q ns ks ss B) w1)(i:Imp B B'):At w F (zI s m lim T q ns ks ss B') w1:=by
 unfold zI at h ⊢;exact h.by (Imp.un (Imp.un (Imp.un (Imp.un (Imp.un (Imp.un (Imp.un i)))))))
theorem zI.rdo:Rds (zI s m lim T q ns ks ss B) fun w'=>w'.heap[s]? = some (spO m T.vars q):=by
 unfold zI;exact Rds.star Rds.obj
theorem zI.rdt{P:World->Prop}(hP:Rds B P):Rds (zC (zL s (spO m T.vars q)) (zC (zM q.fv 3 1 nE (zBC T.vars)) (zC (zM q.wv 3 1 nE (zBB T.vars)) (zC (KmA q.km ks) (zC (SmA q.sm ss) (zC (zAT T) B)))))) P:=Rds.star (Rds.star (Rds.star (Rds.star (Rds.star (Rds.star hP)))))
theorem Rds.own{α:Type}{v:Value}{E sz:Nat}{enc:α->List Value}{l:List α}:Rds (zC (zM v E sz enc l) B) fun w'=>Vw w' v enc l:=fun w' F' hs=>by
 obtain⟨Fa,Fb,ha,_⟩:=hs;exact ha.1.vw
theorem zHS{x:Nat}{e:Bool}{ns':Ns}{P:List Nat->Bool}{w':World}{v:Value}{ss':List (Nat×Nat)}(hs:Stp (2*zD T.vars) lim W false ns e ns')(hG:SpG lim T q ns' ks ss')(hl:ss'.length<=ss.length+1)(JA:ks.length<1000000)(hx:e=false->zDY T.vars ns' x P)(hv:v=.tuple #[.int .i64 ((if e=true then 0 else x:Nat):Nat),eB e])
  (h:At w F (zI s m lim T q ns' (ksR ks x e) ss' B) w'):zKo s m lim T q ns ks ss B w F W P v w':=by
 cases e with
 |true=>exact⟨0,true,ns',ss',by rw[hv];rfl,hs,fun _=>rfl,fun h=>(by cases h),hG,hl,h⟩
 |false=>exact⟨x,false,ns',ss',by rw[hv];rfl,hs,fun h=>(by cases h),hx,hG.put JA hx,hl,h⟩
theorem zDY.stp{vars:List Nat}{ns ns':Ns}{x:Nat}{e e':Bool}{P:List Nat->Bool}(h:zDY vars ns x P)(hk:zFr vars lim ns)(hs:Stp (2*zD vars) lim W e ns e' ns'):zDY vars ns' x P:=h.ext hk.wf hs.ext
theorem zVF{vars:List Nat}{ns:Ns}{r:Option Nat}(hk:zFr vars lim ns)(h:∀x,r=some x->Ref ns x):r.getD 0<=2000000:=by
 cases r with
 |none=>exact Nat.zero_le _
 |some x=>exact zJr hk (h x rfl)
def imA(T:Nt)(o:No)(P:List Nat->Bool):(Nat->Bool)->Bool:=fun a=>zB7 T.vars P a&&zHe T o a
structure ImgW(T:Nt)(o:No)(P:List Nat->Bool)(W:((Nat->Bool)->Bool)->Prop):Prop where
 rel:RelW T o W
 and:W (imA T o P)
 ex:∀H,IsC (imA T o P) H->∀G:(Nat->Bool)->Bool,(∀a,G a=true<->qS 1 (inB (zAZ (2*zD T.vars) (hfL 0 (2*zD T.vars)))) H a)->W G
 ren:∀X:(Nat->Bool)->Bool,(∀a,X a=true<->qS 1 (inB (zAZ (2*zD T.vars) (hfL 0 (2*zD T.vars)))) (imA T o P) a)->∀H,IsC X H->W fun b=>H (sgA (2*zD T.vars) 1 b)
theorem zGA(a op:Nat)(o:No)(P:List Nat->Bool)(hG:SpG lim T q ns ks ss)(hB:Lcl B)(h:At w F (zI s m lim T q ns ks ss B) w1)(ha:Kn T ns ks a P)(ho:T.ops[op]? = some o)(JX:ks.length<1000000)(JS:ss.length<1000000)(hW:ImgW T o P W) :
  Calls Tryz.prog 40 [.pointer (some ⟨s,0,none⟩),.int .i64 (a:Nat),.int .i64 (op:Nat)].toArray w1 fun en w'=>∃v,en=.returned v/\zKo s m lim T q ns ks ss B w F W (zIO T o P) v w':=by
 refine enter Tryz.func40 mixed low40 (Nat.le_of_ble_eq_true rfl) ?_;simp only[L40];have JH:=(List.getElem?_eq_some_iff.1 ho).1;have JV:=hG.g.ops o (List.mem_of_getElem? ho);have h64:∀n∈T.vars,n<=64:=fun n hn=>(hG.g.vars n hn).2;simp;refine zG (zHO a op h ha.kn (ha.le hG) hG JH hB) ?_;rintro _ w2 ⟨rfl,h2⟩;simp;refine zG (zDF op o hG hB h2 ho JS hW.rel) ?_;rintro _ w3 ⟨r,e3,JO,ss3,rfl,JG,JT,JA,JI,h3⟩;cases e3 with
 |true =>simp[eB,zu];exact⟨0,true,JO,ss3,by simp[eB,zu],JG,fun _=>rfl,fun h=>(by cases h),JA,JI,h3⟩
 |false =>
  obtain⟨rr,o2,JP,er⟩:=JT rfl;have:o2=o:=by rw[ho] at JP;injection JP with e;exact e.symm
  subst this;have JE:=ha.ok.stp hG.ok JG;simp[eB];refine zG (zDQ 0 (by omega) (zI.lcl hB) h3 zI.rdo JA.ok.bt) ?_;rintro _ w4 ⟨ov,tv,rfl,h4⟩;have h4:=zI.into ((h4.by Imp.sw).by Imp.dr);have Jb:Lcl (zC (zM ov 3 1 iv (hfL 0 (2*zD T.vars))) B):=Lcl.own.star hB;simp;refine zG (zDQ 1 (by omega) (zI.lcl Jb) h4 zI.rdo JA.ok.bt) ?_;rintro _ w5 ⟨Jf,tv5,rfl,h5⟩;have h5:=zI.into (h5.by Imp.dr);have h5:=zI.out (zI.tail h5 Imp.sw);have JM:Lcl (zC (zM tv5 3 1 iv ((List.range (2*zD T.vars)).map (toG 1))) B):=Lcl.own.star hB;have h6:=h5.by Imp.ow;have os6:=zI.obj (h6.by Imp.dr);unfold spO at os6;unfold zI at h6;have h6:=h6.by Imp.sw;obtain⟨p1,p2⟩:=zDG JA.ok.wf 0 JE.1 rr;have Ji:=zI0 0 (2*zD T.vars);have Jj:=JA.ok.bt;simp[zA os6];refine zG (zCo m (2*zD T.vars) lim JO a r _ ov _ (zI.rest JM) h6 JA.ok.wf JA.ok.bnd JE.1 rr p2 p1 (by omega) (by rw[List.all_eq_true];intro x hx;have:=zI1 x hx;unfold Go.Proofs.YtolkjbmcindhjaaGreat.varB;simp;omega)) ?_;rintro _ w7 ⟨r1,r2,Jg,JB,M5,rfl,JL,JW,JU,h7⟩;obtain⟨s5,m5⟩:=zRl (W:=W) (Fa:=imA T o2 P) JA.ok JL (fun _ _ h=>h) JW JU (fun c=>by rw[JE.2,er];rfl) hW.and hW.ex;have JD:=JA.ok.stp s5;have JQ:=JA.stp s5;have h7:=(h7.by Imp.sw).by Imp.dr;have h8:At w F (zI s m lim T q JB ks ss3 (zC (zM tv5 3 1 iv ((List.range (2*zD T.vars)).map (toG 1))) B)) w7:=h7;have JC:=JG.trans s5;rw[zAA];cases r2 with
  |none =>simp[eB,zu];exact⟨0,true,JB,ss3,by simp[eB,zu],JC,fun _=>rfl,fun h=>(by cases h),JQ,JI,zI.less h8⟩
  |some x =>
   obtain⟨rx,ex⟩:=m5 x rfl;have os8:=zI.obj h8;unfold spO at os8;simp[eB,zA os8];have JR:=h8;unfold zI at JR;refine zG (zEj m (2*zD T.vars) lim JB x tv5 _ (zI.rest JM) JR JD.wf JD.bnd rx (zI.rdt Rds.own) (by simp;omega)) ?_;rintro _ w9 ⟨L,JF,hR⟩;have JK:∀a i b,i%2≠1->i<2*zD T.vars->eval JB (upd a i b) x=eval JB a x:=fun a i b hi Jh=>by
    rw[Bool.eq_iff_iff,ex,ex];have:∀c,Off (inB (zAZ (2*zD T.vars) (hfL 0 (2*zD T.vars)))) (upd a i b) c<->Off (inB (zAZ (2*zD T.vars) (hfL 0 (2*zD T.vars)))) a c:=fun c=>by unfold Off;refine forall_congr' fun j=>?_;refine imp_congr_right fun hj=>?_;rw[zCX,decide_eq_false_iff_not] at hj;have:j≠i:=fun e=>hj (by subst e;omega);simp[upd,this]
    simp only[this]
   obtain⟨g1,g2⟩:=zJp JD.wf rx (by omega) JF JK;rcases hR with⟨hb,_⟩|⟨_,hb,_⟩|⟨_,_,r3,JN,M6,rfl,JZ,h9⟩
   ·exact absurd hb g1
   ·exact absurd hb g2
   have Ja:∀a,eval JB a x=true<->qS 1 (inB (zAZ (2*zD T.vars) (hfL 0 (2*zD T.vars)))) (imA T o2 P) a:=fun a=>by rw[ex];unfold qS;rw[if_pos rfl];refine exists_congr fun c=>and_congr_right fun _=>?_;rw[JE.2,er];unfold imA zB7;simp only[Bool.and_eq_true]
   obtain⟨s6,m6⟩:=zMb (W:=W) (nx:=1) JD JZ (X:=fun c=>eval JB c x) (fun _=>rfl) (hW.ren _ Ja);have JY:=JD.stp s6;have Jc:At w F (zI s m lim T q JN ks ss3 (zC (zM tv5 3 1 iv ((List.range (2*zD T.vars)).map (toG 1))) B)) w9:=h9;rw[zAA];simp;refine zG (zAU (r3.getD 0) r3.isNone JM Jc (zVF JY fun y hy=>(m6 y hy).1) (by omega)) ?_;rintro _ Je ⟨rfl,Jd⟩;simp;refine zKo.less (zHS (JC.trans s6) (JQ.stp s6) JI JX (fun e=>?_) (by cases r3<;>rfl) Jd);obtain⟨y,hy⟩:∃y,r3=some y:=by cases r3 with|none=>cases e|some y=>exact⟨y,rfl⟩
   subst hy;obtain⟨ry,ey⟩:=m6 y rfl;refine⟨ry,fun b=>?_⟩;show eval JN b y=_;rw[ey,Bool.eq_iff_iff,ex];have key:=zS8 (P:=P) (a:=b) (b:=fun i=>b (tgt ((List.range (2*zD T.vars)).map (toG 1)) (i:Nat)).toNat) h64 JV (fun p hp=>by have:=zEg (n:=2*zD T.vars) (nx:=1) (p:=p) (a:=b) (by omega) (by omega);unfold sgA at this;exact this);rw[<-key];refine exists_congr fun c=>and_congr_right fun _=>?_;rw[JE.2,er]
end
end
section
open Go Go.W Go.Tk Go.Rx Go.Bd Go.Sy Go.Maps
section
variable {w w1:World} {F:List Nat} {A B B':Asr} {s m lim:Nat} {T:Nt} {q:SpC} {ns:Ns} {ks:List (Nat×Bool)} {ss:List (Nat×Nat)} {W:((Nat->Bool)->Bool)->Prop}
theorem zEv{vars:List Nat}{a b:Nat->Bool}(h:rs vars a 0=rs vars b 0):okB vars a=okB vars b:=by
 rw[Bool.eq_iff_iff,zAh,zAh,h]
theorem zQ1{vars:List Nat}{a:Nat->Bool}{i:Nat}{b:Bool}(hi:i%2≠0):rs vars (upd a i b) 0=rs vars a 0:=zAy fun p hp=>by
 have:2*p≠i:=by omega
 simp[upd,this]
def prA(T:Nt)(o:No)(P:List Nat->Bool):(Nat->Bool)->Bool:=fun a=>zHe T o a&&zB7 T.vars P (sgA (2*zD T.vars) 0 a)
structure PreW(T:Nt)(o:No)(P:List Nat->Bool)(W:((Nat->Bool)->Bool)->Prop):Prop where
 rel:RelW T o W
 ren:∀H,IsC (zB7 T.vars P) H->W fun b=>H (sgA (2*zD T.vars) 0 b)
 and:W (prA T o P)
 ex:∀H,IsC (prA T o P) H->∀G:(Nat->Bool)->Bool,(∀a,G a=true<->qS 1 (inB (zAZ (2*zD T.vars) (hfL 1 (2*zD T.vars)))) H a)->W G
 fin:W (zB7 T.vars (zFc o P))
theorem zGX(a op:Nat)(o:No)(P:List Nat->Bool)(hG:SpG lim T q ns ks ss)(hB:Lcl B)(h:At w F (zI s m lim T q ns ks ss B) w1)(ha:Kn T ns ks a P)(ho:T.ops[op]? = some o)(Jh:ks.length<1000000)(Jc:ss.length<1000000)(hW:PreW T o P W) :
  Calls Tryz.prog 35 [.pointer (some ⟨s,0,none⟩),.int .i64 (a:Nat),.int .i64 (op:Nat)].toArray w1 fun en w'=>∃v,en=.returned v/\zKo s m lim T q ns ks ss B w F W (zFc o P) v w':=by
 refine enter Tryz.func35 mixed low35 (Nat.le_of_ble_eq_true rfl) ?_;simp only[L35];have JS:=(List.getElem?_eq_some_iff.1 ho).1;have Jf:=hG.g.ops o (List.mem_of_getElem? ho);have h64:∀n∈T.vars,n<=64:=fun n hn=>(hG.g.vars n hn).2;simp;refine zG (zHO a op h ha.kn (ha.le hG) hG JS hB) ?_;rintro _ w2 ⟨rfl,h2⟩;simp;refine zG (zDF op o hG hB h2 ho Jc hW.rel) ?_;rintro _ w3 ⟨r,e3,JC,ss3,rfl,JR,Jd,JA,JO,h3⟩;cases e3 with
 |true =>simp[eB,zu];exact⟨0,true,JC,ss3,by simp[eB,zu],JR,fun _=>rfl,fun h=>(by cases h),JA,JO,h3⟩
 |false =>
  obtain⟨rr,o2,JX,er⟩:=Jd rfl;have:o2=o:=by rw[ho] at JX;injection JX with e;exact e.symm
  subst this;have JB:=ha.ok.stp hG.ok JR;simp[eB];refine zG (zDQ 0 (by omega) (zI.lcl hB) h3 zI.rdo JA.ok.bt) ?_;rintro _ w4 ⟨ov,tv,rfl,h4⟩;have h4:=zI.into (h4.by Imp.dr);have Jl:Lcl (zC (zM tv 3 1 iv ((List.range (2*zD T.vars)).map (toG 0))) B):=Lcl.own.star hB;simp;refine zG (zDQ 1 (by omega) (zI.lcl Jl) h4 zI.rdo JA.ok.bt) ?_;rintro _ w5 ⟨JM,tv5,rfl,h5⟩;have h5:=zI.into ((h5.by Imp.sw).by Imp.dr);have h5:=zI.tail h5 Imp.sw;have Jj:Lcl (zC (zM JM 3 1 iv (hfL 1 (2*zD T.vars))) B):=Lcl.own.star hB;have Jk:Lcl (zC (zM tv 3 1 iv ((List.range (2*zD T.vars)).map (toG 0))) (zC (zM JM 3 1 iv (hfL 1 (2*zD T.vars))) B)):=Lcl.own.star Jj;have os5:=zI.obj h5;unfold spO at os5;have Jt:=zI0 1 (2*zD T.vars);have Ju:=JA.ok.bt;have JZ:=h5;unfold zI at JZ;simp[zA os5];refine zG (zEj m (2*zD T.vars) lim JC a tv _ (zI.rest Jk) JZ JA.ok.wf JA.ok.bnd JB.1 (zI.rdt Rds.own) (by simp;omega)) ?_;rintro _ w6 ⟨L,JP,hR⟩;have JT:∀c i b,i%2≠0->i<2*zD T.vars->eval JC (upd c i b) a=eval JC c a:=fun c i b hi Jr=>by rw[JB.2,JB.2,zQ1 hi,zEv (zQ1 hi)]
  obtain⟨g1,g2⟩:=zJp JA.ok.wf JB.1 (by omega) JP JT;rcases hR with⟨hb,_⟩|⟨_,hb,_⟩|⟨_,_,r4,JN,M4,rfl,Ji,h6⟩
  ·exact absurd hb g1
  ·exact absurd hb g2
  obtain⟨s4,m4⟩:=zMb (W:=W) (X:=zB7 T.vars P) (nx:=0) JA.ok Ji JB.2 hW.ren;have JH:=JA.ok.stp s4;have JY:=JA.stp s4;have JF:=JR.trans s4;have Jm:At w F (zI s m lim T q JN ks ss3 (zC (zM tv 3 1 iv ((List.range (2*zD T.vars)).map (toG 0))) (zC (zM JM 3 1 iv (hfL 1 (2*zD T.vars))) B))) w6:=h6;have h7:=zI.less Jm;rw[zAA];cases r4 with
  |none =>simp[eB,zu];exact⟨0,true,JN,ss3,by simp[eB,zu],JF,fun _=>rfl,fun h=>(by cases h),JY,JO,zI.less h7⟩
  |some x =>
   obtain⟨rx,ex⟩:=m4 x rfl;have rr4:=s4.ext.ref rr;have er4:∀c,eval JN c r=zHe T o2 c:=fun c=>by rw[s4.ext.eval JA.ok.wf c rr,er]
   have os7:=zI.obj h7;unfold spO at os7;obtain⟨p1,p2⟩:=zDG JH.wf 0 rr4 rx;have h8:=(zI.out h7).by Imp.ow;unfold zI at h8;have h8:=h8.by Imp.sw;simp[eB,zA os7];refine zG (zCo m (2*zD T.vars) lim JN r x _ JM _ (zI.rest hB) h8 JH.wf JH.bnd rr4 rx p2 p1 (by omega) (by rw[List.all_eq_true];intro x hx;have:=zI1 x hx;unfold Go.Proofs.YtolkjbmcindhjaaGreat.varB;simp;omega)) ?_;rintro _ w9 ⟨r1,r2,Jq,JD,M6,rfl,JU,Jg,Je,h9⟩;obtain⟨s6,m6⟩:=zRl (W:=W) (Fa:=prA T o2 P) JH JU (fun _ _ h=>h) Jg Je (fun c=>by rw[er4,ex];show(_&&eval JC (sgA (2*zD T.vars) 0 c) a)=_;rw[JB.2];rfl) hW.and hW.ex;have JG:=JH.stp s6;have JK:=JY.stp s6;have JE:=JF.trans s6;have JW:At w F (zI s m lim T q JD ks ss3 B) w9:=(h9.by Imp.sw).by Imp.dr;rw[zAA];cases r2 with
   |none =>simp[eB,zu];exact⟨0,true,JD,ss3,by simp[eB,zu],JE,fun _=>rfl,fun h=>(by cases h),JK,JO,JW⟩
   |some y =>
    obtain⟨ry,ey⟩:=m6 y rfl;have os10:=zI.obj JW;unfold spO at os10;simp[eB,zA os10];obtain⟨u1,u2⟩:=zDG JG.wf 0 JK.all.1 ry;have JL:=JW.drew (zI.lcl hB);unfold zI at JL;refine zG (zKj (zAe m (2*zD T.vars) lim JD 0 q.all y _ (by omega) (zI.rest hB) JL JG.wf JG.bnd JK.all.1 ry u2 u1) (by rintro v w' ⟨r,_,rfl,_⟩;exact zBX r)) ?_;rintro _ Ja ⟨r7,Jb,rfl,JI,Jo⟩;have JQ:∀b,(eval JD b q.all&&eval JD b y)=zB7 T.vars (zFc o2 P) b:=fun b=>by unfold zB7;rw[Bool.eq_iff_iff,<-zSa h64 Jf,Bool.and_eq_true_iff,JK.all.2,ey,Bool.and_true];refine and_congr_right fun _=>exists_congr fun c=>and_congr_right fun _=>?_;rw[er4,ex];show zHe T o2 c=true/\eval JC (sgA (2*zD T.vars) 0 c) a=true<->_;rw[JB.2]
    obtain⟨s7,m7⟩:=zF5 (W:=W) (G:=zB7 T.vars (zFc o2 P)) JG JI (fun _ _ h=>h) JQ hW.fin;have Js:=JG.stp s7;rw[zAA];simp;have JV:At w F (zI s m lim T q Jb ks ss3 B) Ja:=Jo;refine zG (zAU (r7.getD 0) r7.isNone hB JV m7.1 (by omega)) ?_;rintro _ Jp ⟨rfl,Jn⟩;simp;refine zHS (JE.trans s7) (JK.stp s7) JO Jh (fun e=>⟨(m7.2 e).1,fun b=>?_⟩) (by cases r7<;>rfl) Jn;rw[(m7.2 e).2];rfl
end
end
section
open Go Go.W Go.Tk Go.Rx Go.Bd Go.Sy Go.Maps
def cfl(X:List Nat)(j:Nat):Bool:=decide (j∈X)
theorem zA9(X:List Nat)(i j:Nat):cfl (X++[i]) j=(cfl X j||decide (j=i)):=by
 unfold cfl;rw[Bool.eq_iff_iff];simp
theorem zCN{X:List Nat}{j:Nat}(h:j∈X):cfl X j=true:=decide_eq_true h
theorem zDT{X:List Nat}{j:Nat}(h:j∉X):cfl X j=false:=decide_eq_false h
def PtA(v:Value)(o:Obj):Asr:=fun w F=>∃b,v=.pointer (some ⟨b,0,none⟩)/\zL b o w F
theorem Lcl.pt{v:Value}{o:Obj}:Lcl (PtA v o):=by
 refine⟨?_,?_⟩
 ·rintro w F ⟨b,rfl,h⟩ x hx;exact Lcl.obj.lt h x hx
 ·rintro w F G w' ⟨b,rfl,h⟩ hk hd;exact⟨b,rfl,Lcl.obj.kp h hk hd⟩
def tcO(a b c d:Value):Obj:=.cells #[a,b,c,d] 26 (0,0)
def nlV:Value:=.slice none 0 0
def CpA(f:Nat->Bool)(tb:Nat)(a b c p:Value)(T:Nt)(B:Asr):Asr :=
 zC (if f 2 then zM a 3 1 nE T.vars else Emp)
 (zC (if f 5 then zM b 3 1 nE T.init else Emp)
 (zC (if f 8 then zM c 100 2 fcE T.goal else Emp)
 (zC (if f 10 then PtA p (if f 11 then tcO a b c nlV else tcO nlV nlV nlV nlV) else Emp)
 (zC (zL tb (ntO T)) B))))
structure CpT(tb:Nat)(T:Nt)(B:Asr)(w0:World)(F0:List Nat)(ρ:Env)(X:List Nat)(ρ':Env)(w':World):Prop where
 old:∀t,t<3->ρ' t=ρ t
 f0:0∈X->ρ' 9=.pointer (some ⟨tb,0,none⟩)
 f1:1∈X->ρ' 10=T.vv.1
 f3:3∈X->ρ' 12=.pointer (some ⟨tb,1,none⟩)
 f4:4∈X->ρ' 13=T.nv.1
 f6:6∈X->ρ' 15=.pointer (some ⟨tb,2,none⟩)
 f7:7∈X->ρ' 16=T.gv.1
 f9:9∈X->ρ' 18=.agg #[ρ' 11,ρ' 14,ρ' 17,nlV]
 at_:At w0 F0 (CpA (cfl X) tb (ρ' 11) (ρ' 14) (ρ' 17) (ρ' 3) T B) w'
def zWD:List LO:=[LO.mk 0 (some 9) (.fieldAddr 26 (.tmp 1) 0) 0 none,LO.mk 1 (some 10) (.load 22 (.tmp 9)) 22 none,LO.mk 2 (some 11) (.call (Call.mk (.value (.func 51)) #[.tmp 10] #[22])) 22 none,LO.mk 0 (some 12) (.fieldAddr 26 (.tmp 1) 1) 0 none,LO.mk 1 (some 13) (.load 22 (.tmp 12)) 22 none,LO.mk 2 (some 14) (.call (Call.mk (.value (.func 51)) #[.tmp 13] #[22])) 22 none,LO.mk 0 (some 15) (.fieldAddr 26 (.tmp 1) 2) 0 none,LO.mk 1 (some 16) (.load 23 (.tmp 15)) 23 none,LO.mk 2 (some 17) (.call (Call.mk (.value (.func 58)) #[.tmp 16] #[23])) 23 none,LO.mk 0 (some 18) (.build 26 #[(0,.tmp 11),(1,.tmp 14),(2,.tmp 17)]) 26 none,LO.mk 3 (some 3) (.alloc 26) 0 none,LO.mk 2 none (.store 26 (.tmp 3) (.tmp 18)) 0 none]
def zH3:List Nat:=[0,1,3,0,8,31,0,64,255,511,0,2047]
section
variable {tb:Nat} {T:Nt} {B:Asr} {w0:World} {F0:List Nat} {ρ:Env}
def zBp(tb:Nat)(T:Nt)(B:Asr)(w0:World)(F0:List Nat)(ρ:Env)(i:Nat):Prop :=
 ∀X ρ' w',i∉X->(∀j,j<12->(zH3.getD i 0).testBit j=true->j∈X)->(∀j∈X,(zH3.getD j 0).testBit i=false)->CpT tb T B w0 F0 ρ X ρ' w'->wpT Tryz.prog [zWD.getD i LO.dfl] ρ' w' (CpT tb T B w0 F0 ρ (X++[i]))
theorem zJA{X:List Nat}{i:Nat}(h:∀j∈X,(zH3.getD j 0).testBit i=false)(j:Nat)(hj:(zH3.getD j 0).testBit i=true):j∉X:=fun hm=>by
 have:=h j hm;rw[hj] at this;cases this
theorem cp0(hρ1:ρ 1=.pointer (some ⟨tb,0,none⟩))(hB:Lcl B)(hr:Rds B fun w'=>NtR w' T)(hg:NtG T):zBp tb T B w0 F0 ρ 0:=fun X ρ' w' hn hd hu h=>by
 have s1:=(h.old 1 (by omega)).trans hρ1;show wpT Tryz.prog [LO.mk 0 (some 9) (.fieldAddr 26 (.tmp 1) 0) 0 none] ρ' w' _;simp[s1];refine⟨fun t ht=>by
  have:=h.old t ht;simp only[Env.put,Env.set];rw[if_neg (by omega)];exact this,by simp,by simpa using h.f1,by simpa using h.f3,by simpa using h.f4,by simpa using h.f6,by simpa using h.f7,by simpa using h.f9,by
  have:=h.at_;simpa[CpA,zA9] using this⟩
theorem cp3(hρ1:ρ 1=.pointer (some ⟨tb,0,none⟩))(hB:Lcl B)(hr:Rds B fun w'=>NtR w' T)(hg:NtG T):zBp tb T B w0 F0 ρ 3:=fun X ρ' w' hn hd hu h=>by
 have s1:=(h.old 1 (by omega)).trans hρ1;show wpT Tryz.prog [LO.mk 0 (some 12) (.fieldAddr 26 (.tmp 1) 1) 0 none] ρ' w' _;simp[s1];refine⟨fun t ht=>by
  have:=h.old t ht;simp only[Env.put,Env.set];rw[if_neg (by omega)];exact this,by simpa using h.f0,by simpa using h.f1,by simp,by simpa using h.f4,by simpa using h.f6,by simpa using h.f7,by simpa using h.f9,by
  have:=h.at_;simpa[CpA,zA9] using this⟩
theorem cp6(hρ1:ρ 1=.pointer (some ⟨tb,0,none⟩))(hB:Lcl B)(hr:Rds B fun w'=>NtR w' T)(hg:NtG T):zBp tb T B w0 F0 ρ 6:=fun X ρ' w' hn hd hu h=>by
 have s1:=(h.old 1 (by omega)).trans hρ1;show wpT Tryz.prog [LO.mk 0 (some 15) (.fieldAddr 26 (.tmp 1) 2) 0 none] ρ' w' _;simp[s1];refine⟨fun t ht=>by
  have:=h.old t ht;simp only[Env.put,Env.set];rw[if_neg (by omega)];exact this,by simpa using h.f0,by simpa using h.f1,by simpa using h.f3,by simpa using h.f4,by simp,by simpa using h.f7,by simpa using h.f9,by
  have:=h.at_;simpa[CpA,zA9] using this⟩
theorem cp1(hρ1:ρ 1=.pointer (some ⟨tb,0,none⟩))(hB:Lcl B)(hr:Rds B fun w'=>NtR w' T)(hg:NtG T):zBp tb T B w0 F0 ρ 1:=fun X ρ' w' hn hd hu h=>by
 have s1:=(h.old 1 (by omega)).trans hρ1;have hf:=h.f0 (hd 0 (by omega) (by decide));have at1:=h.at_;unfold CpA at at1;have JA:=at1.drop.drop.drop.drop.obj;unfold ntO at JA;show wpT Tryz.prog [LO.mk 1 (some 10) (.load 22 (.tmp 9)) 22 none] ρ' w' _;simp[hf,zA JA];refine⟨fun t ht=>by
  have:=h.old t ht;simp only[Env.put,Env.set];rw[if_neg (by omega)];exact this,by simpa using h.f0,by simp,by simpa using h.f3,by simpa using h.f4,by simpa using h.f6,by simpa using h.f7,by simpa using h.f9,by
  have:=h.at_;simpa[CpA,zA9] using this⟩
theorem cp4(hρ1:ρ 1=.pointer (some ⟨tb,0,none⟩))(hB:Lcl B)(hr:Rds B fun w'=>NtR w' T)(hg:NtG T):zBp tb T B w0 F0 ρ 4:=fun X ρ' w' hn hd hu h=>by
 have s1:=(h.old 1 (by omega)).trans hρ1;have hf:=h.f3 (hd 3 (by omega) (by decide));have at1:=h.at_;unfold CpA at at1;have JA:=at1.drop.drop.drop.drop.obj;unfold ntO at JA;show wpT Tryz.prog [LO.mk 1 (some 13) (.load 22 (.tmp 12)) 22 none] ρ' w' _;simp[hf,zA JA];refine⟨fun t ht=>by
  have:=h.old t ht;simp only[Env.put,Env.set];rw[if_neg (by omega)];exact this,by simpa using h.f0,by simpa using h.f1,by simpa using h.f3,by simp,by simpa using h.f6,by simpa using h.f7,by simpa using h.f9,by
  have:=h.at_;simpa[CpA,zA9] using this⟩
theorem cp7(hρ1:ρ 1=.pointer (some ⟨tb,0,none⟩))(hB:Lcl B)(hr:Rds B fun w'=>NtR w' T)(hg:NtG T):zBp tb T B w0 F0 ρ 7:=fun X ρ' w' hn hd hu h=>by
 have s1:=(h.old 1 (by omega)).trans hρ1;have hf:=h.f6 (hd 6 (by omega) (by decide));have at1:=h.at_;unfold CpA at at1;have JA:=at1.drop.drop.drop.drop.obj;unfold ntO at JA;show wpT Tryz.prog [LO.mk 1 (some 16) (.load 23 (.tmp 15)) 23 none] ρ' w' _;simp[hf,zA JA];refine⟨fun t ht=>by
  have:=h.old t ht;simp only[Env.put,Env.set];rw[if_neg (by omega)];exact this,by simpa using h.f0,by simpa using h.f1,by simpa using h.f3,by simpa using h.f4,by simpa using h.f6,by simp,by simpa using h.f9,by
  have:=h.at_;simpa[CpA,zA9] using this⟩
theorem cp2(hρ1:ρ 1=.pointer (some ⟨tb,0,none⟩))(hB:Lcl B)(hr:Rds B fun w'=>NtR w' T)(hg:NtG T):zBp tb T B w0 F0 ρ 2:=fun X ρ' w' hn hd hu h=>by
 have s1:=(h.old 1 (by omega)).trans hρ1;have hf:=h.f1 (hd 1 (by omega) (by decide));have e2:=zDT hn;have h9:9∉X:=zJA hu 9 (by decide);have JB:11∉X:=zJA hu 11 (by decide);have JA:=zDT JB;have at1:=h.at_;unfold CpA at at1;simp only[e2,JA,Bool.false_eq_true,if_false] at at1;obtain⟨_,hq,_⟩:=at1.drop.drop.drop.drop.drop.ex;have hT:=hr _ _ hq;have JC:=hg.vlen;have JD:=hg.ilen;have JE:=hg.goal.len;have at2:=(at1).by Imp.dr;show wpT Tryz.prog [LO.mk 2 (some 11) (.call (Call.mk (.value (.func 51)) #[.tmp 10] #[22])) 22 none] ρ' w' _;simp[hf];refine zG (zFJ T.vv.1 T.vars hT.vars (by omega)) ?_;rintro u w2 n2;have at3:=At.nw (by repeat' (first|exact hB|exact Lcl.own|exact Lcl.obj|exact Lcl.emp|exact Lcl.pt|apply Lcl.star|split)) at2 n2;have at4:=at3;simp;refine⟨fun t ht=>by have:=h.old t ht;simp only[Env.put,Env.set];rw[if_neg (by omega)];exact this,by simpa using h.f0,by simpa using h.f1,by simpa using h.f3,by simpa using h.f4,by simpa using h.f6,by simpa using h.f7,by simp[h9],?_⟩;unfold CpA;simpa[zA9,e2,JA] using at4
theorem cp5(hρ1:ρ 1=.pointer (some ⟨tb,0,none⟩))(hB:Lcl B)(hr:Rds B fun w'=>NtR w' T)(hg:NtG T):zBp tb T B w0 F0 ρ 5:=fun X ρ' w' hn hd hu h=>by
 have s1:=(h.old 1 (by omega)).trans hρ1;have hf:=h.f4 (hd 4 (by omega) (by decide));have e5:=zDT hn;have h9:9∉X:=zJA hu 9 (by decide);have JB:11∉X:=zJA hu 11 (by decide);have JA:=zDT JB;have at1:=h.at_;unfold CpA at at1;simp only[e5,JA,Bool.false_eq_true,if_false] at at1;obtain⟨_,hq,_⟩:=at1.drop.drop.drop.drop.drop.ex;have hT:=hr _ _ hq;have JC:=hg.vlen;have JD:=hg.ilen;have JE:=hg.goal.len;have at2:=(at1.by Imp.fr2).by Imp.dr;show wpT Tryz.prog [LO.mk 2 (some 14) (.call (Call.mk (.value (.func 51)) #[.tmp 13] #[22])) 22 none] ρ' w' _;simp[hf];refine zG (zFJ T.nv.1 T.init hT.init (by omega)) ?_;rintro u w2 n2;have at3:=At.nw (by repeat' (first|exact hB|exact Lcl.own|exact Lcl.obj|exact Lcl.emp|exact Lcl.pt|apply Lcl.star|split)) at2 n2;have at4:=at3.by Imp.bk2;simp;refine⟨fun t ht=>by have:=h.old t ht;simp only[Env.put,Env.set];rw[if_neg (by omega)];exact this,by simpa using h.f0,by simpa using h.f1,by simpa using h.f3,by simpa using h.f4,by simpa using h.f6,by simpa using h.f7,by simp[h9],?_⟩;unfold CpA;simpa[zA9,e5,JA] using at4
theorem cp8(hρ1:ρ 1=.pointer (some ⟨tb,0,none⟩))(hB:Lcl B)(hr:Rds B fun w'=>NtR w' T)(hg:NtG T):zBp tb T B w0 F0 ρ 8:=fun X ρ' w' hn hd hu h=>by
 have s1:=(h.old 1 (by omega)).trans hρ1;have hf:=h.f7 (hd 7 (by omega) (by decide));have e8:=zDT hn;have h9:9∉X:=zJA hu 9 (by decide);have JB:11∉X:=zJA hu 11 (by decide);have JA:=zDT JB;have at1:=h.at_;unfold CpA at at1;simp only[e8,JA,Bool.false_eq_true,if_false] at at1;obtain⟨_,hq,_⟩:=at1.drop.drop.drop.drop.drop.ex;have hT:=hr _ _ hq;have JC:=hg.vlen;have JD:=hg.ilen;have JE:=hg.goal.len;have at2:=(at1.by Imp.fr3).by Imp.dr;show wpT Tryz.prog [LO.mk 2 (some 17) (.call (Call.mk (.value (.func 58)) #[.tmp 16] #[23])) 23 none] ρ' w' _;simp[hf];refine zG (zAS T.gv.1 T.goal hT.goal (by omega)) ?_;rintro u w2 n2;have at3:=At.nw (by repeat' (first|exact hB|exact Lcl.own|exact Lcl.obj|exact Lcl.emp|exact Lcl.pt|apply Lcl.star|split)) at2 n2;have at4:=at3.by Imp.bk3;simp;refine⟨fun t ht=>by have:=h.old t ht;simp only[Env.put,Env.set];rw[if_neg (by omega)];exact this,by simpa using h.f0,by simpa using h.f1,by simpa using h.f3,by simpa using h.f4,by simpa using h.f6,by simpa using h.f7,by simp[h9],?_⟩;unfold CpA;simpa[zA9,e8,JA] using at4
theorem cp9(hρ1:ρ 1=.pointer (some ⟨tb,0,none⟩))(hB:Lcl B)(hr:Rds B fun w'=>NtR w' T)(hg:NtG T):zBp tb T B w0 F0 ρ 9:=fun X ρ' w' hn hd hu h=>by
 have s1:=(h.old 1 (by omega)).trans hρ1;show wpT Tryz.prog [LO.mk 0 (some 18) (.build 26 #[(0,.tmp 11),(1,.tmp 14),(2,.tmp 17)]) 26 none] ρ' w' _;have h3:=h.at_;unfold CpA at h3;have e2:=zCN (hd 2 (by omega) (by decide));have e5:=zCN (hd 5 (by omega) (by decide));have e8:=zCN (hd 8 (by omega) (by decide));simp only[e2,e5,e8,if_true] at h3;have c2:=h3.own.c1;have c5:=h3.drop.own.c1;have c8:=h3.drop.drop.own.c1;simp[c2,c5,c8];refine⟨fun t ht=>by
  have:=h.old t ht;simp only[Env.put,Env.set];rw[if_neg (by omega)];exact this,by simpa using h.f0,by simpa using h.f1,by simpa using h.f3,by simpa using h.f4,by simpa using h.f6,by simpa using h.f7,by simp[nlV],by
  have:=h.at_;simpa[CpA,zA9] using this⟩
theorem cp10(hρ1:ρ 1=.pointer (some ⟨tb,0,none⟩))(hB:Lcl B)(hr:Rds B fun w'=>NtR w' T)(hg:NtG T):zBp tb T B w0 F0 ρ 10:=fun X ρ' w' hn hd hu h=>by
 have s1:=(h.old 1 (by omega)).trans hρ1;have JB:=zDT hn;have JC:11∉X:=zJA hu 11 (by decide);have h9:9∈X->ρ' 18=.agg #[ρ' 11,ρ' 14,ρ' 17,nlV]:=h.f9;have JA:=zDT JC;have at1:=h.at_;unfold CpA at at1;simp only[JB,JA,Bool.false_eq_true,if_false] at at1;have at2:=(at1.by Imp.fr4).by Imp.dr;have at3:=at2.alloc (tcO nlV nlV nlV nlV) (by repeat' (first|exact hB|exact Lcl.own|exact Lcl.obj|exact Lcl.emp|exact Lcl.pt|apply Lcl.star|split));have at4:=(at3.imp (A':=zC (PtA (.pointer (some ⟨w'.heap.size,0,none⟩)) (tcO nlV nlV nlV nlV)) _) fun F1 ⟨Fa,Fb,h1,h2,hd,e⟩=>⟨F1,⟨Fa,Fb,⟨_,rfl,h1⟩,h2,hd,e⟩,fun x hx=>hx⟩);have at5:=at4.by Imp.bk4;show wpT Tryz.prog [LO.mk 3 (some 3) (.alloc 26) 0 none] ρ' w' _;simp;refine⟨fun t ht=>by have:=h.old t ht;simp only[Env.put,Env.set];rw[if_neg (by omega)];exact this,by simpa using h.f0,by simpa using h.f1,by simpa using h.f3,by simpa using h.f4,by simpa using h.f6,by simpa using h.f7,by simpa using h9,?_⟩;unfold CpA;simpa[zA9,JB,JA,tcO,nlV] using at5
theorem cp11(hρ1:ρ 1=.pointer (some ⟨tb,0,none⟩))(hB:Lcl B)(hr:Rds B fun w'=>NtR w' T)(hg:NtG T):zBp tb T B w0 F0 ρ 11:=fun X ρ' w' hn hd hu h=>by
 have s1:=(h.old 1 (by omega)).trans hρ1;have JA:=zDT hn;have JB:=zCN (hd 10 (by omega) (by decide));have e2:=zCN (hd 2 (by omega) (by decide));have e5:=zCN (hd 5 (by omega) (by decide));have e8:=zCN (hd 8 (by omega) (by decide));have hf:=h.f9 (hd 9 (by omega) (by decide));have at1:=h.at_;unfold CpA at at1;simp only[JA,JB,e2,e5,e8,Bool.false_eq_true,if_false,if_true] at at1;have c2:=at1.own.c1;have c5:=at1.drop.own.c1;have c8:=at1.drop.drop.own.c1;have o2:=at1.own.o1;have o5:=at1.drop.own.o1;have o8:=at1.drop.drop.own.o1;obtain⟨p,hp⟩:∃p,ρ' 3=p:=⟨_,rfl⟩;rw[hp] at at1;have at2:=at1.by Imp.fr4;obtain⟨ob,rfl⟩:∃ob,p=.pointer (some ⟨ob,0,none⟩):=by obtain⟨_,⟨Fa,Fb,⟨b,hb,_⟩,_⟩,_⟩:=at2.ex;exact⟨b,hb⟩
 have at3:At w0 F0 (zC (zL ob (tcO nlV nlV nlV nlV)) _) w':=at2.imp fun F1 ⟨Fa,Fb,⟨b,hb,h1⟩,h2,hd,e⟩=>⟨F1,⟨Fa,Fb,by injection hb with hb;injection hb with hb;injection hb with hb;subst hb;exact h1,h2,hd,e⟩,fun x hx=>hx⟩;unfold tcO at at3;show wpT Tryz.prog [LO.mk 2 none (.store 26 (.tmp 3) (.tmp 18)) 0 none] ρ' w' _;simp[hf,hp,c2,c5,c8,nlV];refine at3.st (by repeat' (first|exact hB|exact Lcl.own|exact Lcl.obj|exact Lcl.emp|exact Lcl.pt|apply Lcl.star|split)) (by simp) (by simp[o2,o5,o8]) fun w2 at4=>?_;have at5:=(at4.imp (A':=zC (PtA (.pointer (some ⟨ob,0,none⟩)) (tcO (ρ' 11) (ρ' 14) (ρ' 17) nlV)) _) fun F1 ⟨Fa,Fb,h1,h2,hd,e⟩=>⟨F1,⟨Fa,Fb,⟨_,rfl,by simpa[tcO,nlV] using h1⟩,h2,hd,e⟩,fun x hx=>hx⟩);have at6:=at5.by Imp.bk4;simp;refine⟨h.old,by simpa using h.f0,by simpa using h.f1,by simpa using h.f3,by simpa using h.f4,by simpa using h.f6,by simpa using h.f7,by simpa using h.f9,?_⟩;unfold CpA;simpa[zA9,JA,JB,e2,e5,e8,hp] using at6
theorem zWC(hρ1:ρ 1=.pointer (some ⟨tb,0,none⟩))(hB:Lcl B)(hr:Rds B fun w'=>NtR w' T)(hg:NtG T)(i:Nat)(hi:i<12):zBp tb T B w0 F0 ρ i:=by
 have:i=0\/i=1\/i=2\/i=3\/i=4\/i=5\/i=6\/i=7\/i=8\/i=9\/i=10\/i=11:=by omega
 rcases this with rfl|rfl|rfl|rfl|rfl|rfl|rfl|rfl|rfl|rfl|rfl|rfl
 ·exact cp0 hρ1 hB hr hg
 ·exact cp1 hρ1 hB hr hg
 ·exact cp2 hρ1 hB hr hg
 ·exact cp3 hρ1 hB hr hg
 ·exact cp4 hρ1 hB hr hg
 ·exact cp5 hρ1 hB hr hg
 ·exact cp6 hρ1 hB hr hg
 ·exact cp7 hρ1 hB hr hg
 ·exact cp8 hρ1 hB hr hg
 ·exact cp9 hρ1 hB hr hg
 ·exact cp10 hρ1 hB hr hg
 ·exact cp11 hρ1 hB hr hg
end
end
section
open Go Go.W Go.Tk Go.Rx Go.Bd Go.Sy Go.Maps
theorem zN6{tb:Nat}{T:Nt}{B:Asr}{w0 w:World}{F0:List Nat}{ρ:Env}{Q:Ex->Env->World->Prop}(hρ1:ρ 1=.pointer (some ⟨tb,0,none⟩))(hB:Lcl B)(hr:Rds B fun w'=>NtR w' T)(hg:NtG T)
  (h0:At w0 F0 (zC (zL tb (ntO T)) B) w)
  (H:∀a b c ob w',At w0 F0 (zC (zM a 3 1 nE T.vars) (zC (zM b 3 1 nE T.init) (zC (zM c 100 2 fcE T.goal) (zC (zL ob (tcO a b c nlV)) (zC (zL tb (ntO T)) B))))) w'->Q .nrm (ρ.set 3 (.pointer (some ⟨ob,0,none⟩))) w'):wpL Tryz.prog (.anyR zWD zH3 [3]) Q ρ w:=by
 refine zTy (CpT tb T B w0 F0 ρ) ?_ ?_ ?_
 ·refine⟨fun t _=>rfl,by simp,by simp,by simp,by simp,by simp,by simp,by simp,?_⟩;have h1:=h0.drew (Lcl.obj.star hB);unfold CpA cfl;simp only[List.not_mem_nil,decide_false,Bool.false_eq_true,if_false];exact h1.by (Imp.em.trans (Imp.em.trans (Imp.em.trans Imp.em)))
 ·intro X i ρ' w' hi hn _ _ hd hu hT;have hi:i<12:=hi;exact zWC hρ1 hB hr hg i hi X ρ' w' hn hd hu hT
 ·intro l ρ' w' hl hT;have hm:∀j,j<12->cfl l j=true:=fun j hj=>zCN (hl.mem_iff.2 (List.mem_range.2 hj));have h1:=hT.at_;unfold CpA at h1;simp only[hm 2 (by omega),hm 5 (by omega),hm 8 (by omega),hm 10 (by omega),hm 11 (by omega),if_true] at h1;have h2:=h1.by Imp.fr4;obtain⟨p,hp⟩:∃p,ρ' 3=p:=⟨_,rfl⟩;rw[hp] at h2;obtain⟨ob,rfl⟩:∃ob,p=.pointer (some ⟨ob,0,none⟩):=by obtain⟨_,⟨Fa,Fb,⟨b,hb,_⟩,_⟩,_⟩:=h2.ex;exact⟨b,hb⟩
  have h3:At w0 F0 (zC (zL ob (tcO (ρ' 11) (ρ' 14) (ρ' 17) nlV)) _) w':=h2.imp fun F1 ⟨Fa,Fb,⟨b,hb,h1⟩,h2,hd,e⟩=>⟨F1,⟨Fa,Fb,by injection hb with hb;injection hb with hb;injection hb with hb;subst hb;exact h1,h2,hd,e⟩,fun x hx=>hx⟩;have h4:=H _ _ _ _ _ (h3.by Imp.bk4);simp only[zLN,zEz,hp];exact h4
def skE(e:Nf):List Go.Tk.Fc×Nat×Nat:=(e.cnd,e.v,e.x)
def skO(o:No):ByteArray×Nat×List Go.Tk.Fc×List (List Go.Tk.Fc×Nat×Nat):=(o.name,o.cost,o.pre,o.effs.map skE)
structure Alk(T T':Nt):Prop where
 vars:T'.vars=T.vars
 init:T'.init=T.init
 goal:T'.goal=T.goal
 ops:T'.ops.map skO=T.ops.map skO
def cdE(e:Nf):zP×List Go.Tk.Fc:=(e.wv,e.cnd)
def EfA(ev:Value)(es:List Nf)(X:Asr):Asr:=zC (zM ev 87 3 nfE es) (zC (zZ fcE (es.map cdE)) X)
theorem EfA.lcl{ev:Value}{es:List Nf}{X:Asr}(hX:Lcl X):Lcl (EfA ev es X):=Lcl.own.star (Lcl.vws.star hX)
def OpA(ov:Value)(os:List No)(X:Asr):Asr:=zC (zM ov 41 4 noE os) (zC (zZ fcE (os.map pvW)) (zC (zZ nfE (os.map evW)) (zC (zZ fcE (os.flatMap cdW)) X)))
theorem OpA.lcl{ov:Value}{os:List No}{X:Asr}(hX:Lcl X):Lcl (OpA ov os X):=Lcl.own.star (Lcl.vws.star (Lcl.vws.star (Lcl.vws.star hX)))
def CeI(rb ob opb:Nat)(ovv:Value)(n k:Nat)(oo:Obj)(X:Asr)(w:World)(F:List Nat)(o:No)(j:Nat)(ρ:Env)(w':World):Prop :=
 ρ 2=.pointer (some ⟨rb,0,none⟩)/\ρ 3=.pointer (some ⟨ob,0,none⟩)/\ρ 5=.pointer (some ⟨opb,0,none⟩)/\ρ 20=ovv/\ρ 21=.int .i64 (n:Nat)/\ρ 22=.int .i64 (k:Nat)/\ρ 31=o.ev.1/\∃es,es.map skE=(o.effs.take j).map skE/\At w F (EfA (ρ 6) es (zC (zL opb oo) X)) w'
theorem zZ.join{α:Type}{enc:α->List Value}{ps qs:List (zP×List α)}{X:Asr}:Imp (zC (zZ enc ps) (zC (zZ enc qs) X)) (zC (zZ enc (qs++ps)) X):=by
 rintro w F ⟨Fa,Fx,⟨h1,h2,rfl⟩,⟨Fb,Fc,⟨h3,h4,rfl⟩,h5,hd,rfl⟩,JA,rfl⟩;refine⟨_,⟨_,Fc,⟨fun p hp=>?_,fun x hx=>?_,rfl⟩,h5,fun x hx hc=>?_,rfl⟩,fun x hx=>?_⟩
 ·rcases List.mem_append.1 hp with h|h
  ·exact h3 p h
  ·exact h1 p h
 ·rw[List.flatMap_append] at hx;rcases List.mem_append.1 hx with h|h
  ·exact h4 x h
  ·exact h2 x h
 ·rw[List.flatMap_append] at hx;rcases List.mem_append.1 hx with h|h
  ·exact hd x h hc
  ·exact JA x h (by simp[hc])
 ·rw[List.flatMap_append] at hx;simp only[List.mem_append] at hx ⊢;rcases hx with (h|h)|h
  ·exact .inr (.inl h)
  ·exact .inl h
  ·exact .inr (.inr h)
theorem Imp.as{A B C:Asr}:Imp (zC A (zC B C)) (zC (zC A B) C):=by
 rintro w F ⟨Fa,Fx,h1,⟨Fb,Fc,h2,h3,hd,rfl⟩,JA,rfl⟩;refine⟨_,⟨Fa++Fb,Fc,⟨Fa,Fb,h1,h2,fun x hx hb=>JA x hx (by simp[hb]),rfl⟩,h3,fun x hx hc=>?_,rfl⟩,fun x hx=>?_⟩
 ·rcases List.mem_append.1 hx with h|h
  ·exact JA x h (by simp[hc])
  ·exact hd x h hc
 ·simpa using hx
theorem OpA.fold{ev pc:Value}{E1 E2:Nat}{es:List Nf}{pre:List Go.Tk.Fc}{ce ps rs:List (zP×List Go.Tk.Fc)}{qs:List (zP×List Nf)}{Z:Asr}(h1:zAn pc=true)(h2:zAn ev=true) :
  Imp (zC (zM ev E1 3 nfE es) (zC (zZ fcE ce) (zC (zM pc E2 2 fcE pre) (zC (zZ fcE ps) (zC (zZ nfE qs) (zC (zZ fcE rs) Z)))))) (zC (zZ fcE (ps++[(⟨pc,h1⟩,pre)])) (zC (zZ nfE (qs++[(⟨ev,h2⟩,es)])) (zC (zZ fcE (rs++ce)) Z))) :=
 Imp.trans (Imp.un (Imp.un (Imp.ow.trans (zZ.add h1)))) (Imp.trans Imp.fr3 (Imp.un (Imp.trans (Imp.un Imp.sw) (Imp.trans (Imp.ow.trans (zZ.add h2)) (Imp.un zZ.join)))))
theorem rd_c3{w:World}{q E:Nat}{a b c:Value}(h:w.heap[q]? = some (.cells #[a,b,c] E (0,0))):zK w ⟨q,0,none⟩ 0 3=some [a,b,c]:=by
 simp[zK,zA h]
theorem zST{w:World}{q E:Nat}{a b c d:Value}(h:w.heap[q]? = some (.cells #[a,b,c,d] E (0,0))):zK w ⟨q,0,none⟩ 0 4=some [a,b,c,d]:=by
 simp[zK,zA h]
theorem rd_tc{w:World}{q:Nat}{a b c d:Value}(h:w.heap[q]? = some (tcO a b c d)):zK w ⟨q,0,none⟩ 0 4=some [a,b,c,d]:=by
 unfold tcO at h;simp[zK,zA h]
def CoI(tb rb ob:Nat)(T:Nt)(a b c:Value)(X:Asr)(w:World)(F:List Nat)(k:Nat)(ρ:Env)(w':World):Prop :=
 ρ 2=.pointer (some ⟨rb,0,none⟩)/\ρ 3=.pointer (some ⟨ob,0,none⟩)/\ρ 20=T.ov.1/\∃ov os,os.map skO=(T.ops.take k).map skO/\At w F (OpA ov os (zC (zL ob (tcO a b c ov)) X)) w'
section
variable {w w1:World} {F:List Nat} {B:Asr}
theorem zJD(T:Nt)(hB:Lcl B)(h:At w F B w1)(hr:Rds B fun w'=>NtR w' T)(hg:NtG T) :
  Calls Tryz.prog 81 [ntV T].toArray w1 fun en w'=>∃v,en=.returned v/\∃T',v=ntV T'/\Alk T T'/\At w F (zC (zAT T') B) w':=by
 refine enter Tryz.func81 mixed low81 (Nat.le_of_ble_eq_true rfl) ?_;simp only[L81];obtain⟨tb,JQ⟩:∃tb,tb=w1.heap.size:=⟨_,rfl⟩;have h1:At w F (zC (zL tb (ntO T)) B) (w1.alloc (ntO T)):=by rw[JQ];exact h.alloc _ hB
 obtain⟨w2,Ju⟩:∃w2,w2=w1.alloc (ntO T):=⟨_,rfl⟩;rw[<-Ju] at h1;have JZ:w1.alloc (.cells #[T.vv.1,T.nv.1,T.gv.1,T.ov.1] 26 (0,0))=w2:=by rw[Ju];rfl
 obtain⟨rb,Ja⟩:∃rb,rb=w2.heap.size:=⟨_,rfl⟩;have h2:At w F (zC (zL rb (tcO nlV nlV nlV nlV)) (zC (zL tb (ntO T)) B)) (w2.alloc (tcO nlV nlV nlV nlV)):=by rw[Ja];exact h1.alloc _ (Lcl.obj.star hB)
 obtain⟨w3,Jt⟩:∃w3,w3=w2.alloc (tcO nlV nlV nlV nlV):=⟨_,rfl⟩;rw[<-Jt] at h2;have JY:w2.alloc (.cells #[.slice none 0 0,.slice none 0 0,.slice none 0 0,.slice none 0 0] 26 (0,0))=w3:=by rw[Jt];rfl
 have h3:=h2.by Imp.sw;have J5:Lcl (zC (zL rb (tcO nlV nlV nlV nlV)) B):=Lcl.obj.star hB;have Jw:Rds (zC (zL rb (tcO nlV nlV nlV nlV)) B) fun w'=>NtR w' T:=Rds.star hr;simp[ntV,<-JQ,JZ,<-Ja,JY];refine zN6 (T:=T) (tb:=tb) (by simp[JQ]) J5 Jw hg h3 fun a b c ob w4 h4=>?_;have JF:Lcl (zC (zM a 3 1 nE T.vars) (zC (zM b 3 1 nE T.init) (zC (zM c 100 2 fcE T.goal) (zC (zL tb (ntO T)) (zC (zL rb (tcO nlV nlV nlV nlV)) B))))):=Lcl.own.star (Lcl.own.star (Lcl.own.star (Lcl.obj.star J5)));have Jc:Rds (zC (zM a 3 1 nE T.vars) (zC (zM b 3 1 nE T.init) (zC (zM c 100 2 fcE T.goal) (zC (zL tb (ntO T)) (zC (zL rb (tcO nlV nlV nlV nlV)) B))))) fun w'=>NtR w' T:=Rds.star (Rds.star (Rds.star (Rds.star Jw)));have h5:=h4.by Imp.fr4;have JR:=h5.drop.drop.drop.drop.obj;unfold ntO at JR;obtain⟨X,hX⟩:∃X,X=zC (zM a 3 1 nE T.vars) (zC (zM b 3 1 nE T.init) (zC (zM c 100 2 fcE T.goal) (zC (zL tb (ntO T)) (zC (zL rb (tcO nlV nlV nlV nlV)) B)))):=⟨_,rfl⟩;rw[<-hX] at h5 JF Jc;have Jf:NtR w4 T:=by obtain⟨_,hq,_⟩:=h5.drop.ex;exact Jc _ _ hq
 have JU:Lcl (zC (zL ob (tcO a b c nlV)) X):=Lcl.obj.star JF;have h6:=zZ.nil (enc:=fcE) JU h5;have h7:=zZ.nil (enc:=nfE) (Lcl.vws.star JU) h6;have h8:=zZ.nil (enc:=fcE) (Lcl.vws.star (Lcl.vws.star JU)) h7;have h9:=h8.nil (E:=41) (sz:=4) (enc:=noE) (Lcl.vws.star (Lcl.vws.star (Lcl.vws.star JU)));have JA:At w F (OpA nlV [] (zC (zL ob (tcO a b c nlV)) X)) w4:=h9;have Jx:=hg.olen;simp[<-JQ,zA JR,Jf.ops.len];refine zF (n:=T.ops.length) (by omega) (CoI tb rb ob T a b c X w F) (by simp) (by simp)
  ⟨by simp[Ja],by simp,by simp,nlV,[],by simp,JA⟩ (by decide) (fun _ _ _ _ h=>by unfold CoI at h ⊢;simpa using h) (fun _ _ _ _ h=>by unfold CoI at h ⊢;simpa using h) ?_ ?_
 ·clear h h1 h2 h3 h4 h5 h6 h7 h8 h9 JA JR Jf;rintro k ρ w5 hk J0 Jy ⟨g2,g3,Jm,ov,os,JH,h5⟩;obtain⟨o,ho⟩:∃o,T.ops[k]? = some o:=⟨_,List.getElem?_eq_getElem hk⟩;have JI:=List.mem_of_getElem? ho;have Jb:=hg.ops o JI;have KI:=Jb.pre.len;have KH:=hg.vlen;have KM:=Jb.elen;have JS:∀{ov os},Rds (OpA ov os (zC (zL ob (tcO a b c ov)) X)) fun w'=>NtR w' T:=fun {ov os}=>by unfold OpA;exact Rds.star (Rds.star (Rds.star (Rds.star (Rds.star Jc))))
  have J2:NtR w5 T:=by obtain⟨_,hq,_⟩:=h5.ex;exact JS _ _ hq
  have Jj:Lcl (OpA ov os (zC (zL ob (tcO a b c ov)) X)):=OpA.lcl (Lcl.obj.star JF);have ec:=J2.ops.cells zBv ho;simp only[noE] at ec;have KK:(k:Int)<T.ops.length:=by omega
  obtain⟨opb,JB⟩:∃opb,opb=w5.heap.size:=⟨_,rfl⟩;simp(disch:=omega)[Jm,J0,Jy,J2.ops.idx,ec,<-JB];refine zHQ (o:=o.raw) Jj h5 JB fun w6 h6=>?_;have oo6:=h6.obj;unfold oqO No.raw at oo6;have Je:NtR w6 T:=by obtain⟨_,hq,_⟩:=h6.drop.ex;exact JS _ _ hq
  simp[zA oo6,<-JB];refine zG (zAS o.pv.1 o.pre (Je.op o JI).pre (by omega)) ?_;rintro pc w7 n7;have h7:=(At.nw (Lcl.obj.star Jj) h6 n7).by Imp.sw;have Ji:Lcl (zC (zM pc 100 2 fcE o.pre) (OpA ov os (zC (zL ob (tcO a b c ov)) X))):=Lcl.own.star Jj;have pc1:=n7.own.c1;have po1:=n7.own.o1;unfold oqO No.raw at h7;simp[pc1,<-JB];refine h7.st Ji (by simp) (by simp[po1]) fun w8 h8=>?_;simp at h8;have oo8:=h8.obj;have Jd:NtR w8 T:=by obtain⟨_,hq,_⟩:=h8.drop.drop.ex;exact JS _ _ hq
  have Jg:=Jd.op o JI;have JM:Lcl (zC (zL opb (.cells #[.string o.name,.int .i64 (o.cost:Nat),pc,o.ev.1] 41 (0,0))) (zC (zM pc 100 2 fcE o.pre) (OpA ov os (zC (zL ob (tcO a b c ov)) X)))):=Lcl.obj.star Ji;have h9:=zZ.nil (enc:=fcE) JM h8;have JA:=h9.nil (E:=87) (sz:=3) (enc:=nfE) (Lcl.vws.star JM);have JE:At w F (EfA nlV [] (zC (zL opb (.cells #[.string o.name,.int .i64 (o.cost:Nat),pc,o.ev.1] 41 (0,0))) (zC (zM pc 100 2 fcE o.pre) (OpA ov os (zC (zL ob (tcO a b c ov)) X))))) w8:=JA;simp(disch:=omega)[zA oo8,<-JB,Jg.effs.len];refine zF (n:=o.effs.length) (by omega) (CeI rb ob opb T.ov.1 T.ops.length k (.cells #[.string o.name,.int .i64 (o.cost:Nat),pc,o.ev.1] 41 (0,0)) (zC (zM pc 100 2 fcE o.pre) (OpA ov os (zC (zL ob (tcO a b c ov)) X))) w F o) (by simp) (by simp)
   ⟨by simp[g2],by simp[g3],by simp[JB],by simp[Jm],by simp[Jy],by simp[J0],by simp,[],by simp,by simpa[nlV] using JE⟩ (by decide) (fun _ _ _ _ h=>by unfold CeI at h ⊢;simpa using h) (fun _ _ _ _ h=>by unfold CeI at h ⊢;simpa using h) ?_ ?_
  ·clear h6 h7 h8 h9 JA JE oo6 oo8 Jd Jg Je n7;rintro j ρ w9 hj J1 Jz ⟨e2,e3,e5,Jq,Jp,Jo,Jn,es,JL,h9⟩;obtain⟨x,hx⟩:∃x,o.effs[j]? = some x:=⟨_,List.getElem?_eq_getElem hj⟩;have Js:=List.mem_of_getElem? hx;have KN:=(Jb.cnd x Js).len;have hse:es.length=j:=by have:=congrArg List.length JL;rw[List.length_map,List.length_map,List.length_take] at this;omega
   obtain⟨evx,JK⟩:∃evx,ρ 6=evx:=⟨_,rfl⟩;rw[JK] at h9;obtain⟨Z,hZ⟩:∃Z,Z=zC (zL opb (.cells #[.string o.name,.int .i64 (o.cost:Nat),pc,o.ev.1] 41 (0,0))) (zC (zM pc 100 2 fcE o.pre) (OpA ov os (zC (zL ob (tcO a b c ov)) X))):=⟨_,rfl⟩;rw[<-hZ] at h9;have JV:Lcl Z:=by rw[hZ];exact Lcl.obj.star Ji
   have KC:Rds Z fun w'=>NtR w' T:=by rw[hZ];exact Rds.star (Rds.star JS)
   have Jv:Rds (EfA evx es Z) fun w'=>NtR w' T:=Rds.star (Rds.star KC);have J3:NoR w9 o:=by obtain⟨_,hq,_⟩:=h9.ex;exact(Jv _ _ hq).op o JI
   have ec9:=J3.effs.cells zA7 hx;simp only[nfE] at ec9;have KL:(j:Int)<o.effs.length:=by omega
   obtain⟨eb,heb⟩:∃eb,eb=w9.heap.size:=⟨_,rfl⟩;simp(disch:=omega)[Jn,J1,Jz,J3.effs.idx,ec9,<-heb];refine zK4 (e:=x.raw) (EfA.lcl JV) h9 heb fun J8 JA=>?_;have oe10:=JA.obj;unfold efO Nf.raw at oe10;have Jh:NoR J8 o:=by obtain⟨_,hq,_⟩:=JA.drop.ex;exact(Jv _ _ hq).op o JI
   simp[zA oe10,<-heb];refine zG (zAS x.wv.1 x.cnd (Jh.cnd x Js) (by omega)) ?_;rintro cc Jr n11;have JC:=(At.nw (Lcl.obj.star (EfA.lcl JV)) JA n11).by Imp.sw;have cc1:=n11.own.c1;have co1:=n11.own.o1;have Jk:Lcl (zC (zM cc 100 2 fcE x.cnd) (EfA evx es Z)):=Lcl.own.star (EfA.lcl JV);unfold efO Nf.raw at JC;simp[cc1,<-heb];refine JC.st Jk (by simp) (by simp[co1]) fun J7 JD=>?_;simp at JD;have oe12:=rd_c3 JD.obj;have Jl:=(JD.by Imp.dr).by Imp.sw;simp[JK,oe12,<-heb,zW];have JN:Lcl (zC (zM cc 100 2 fcE x.cnd) (zC (zZ fcE (es.map cdE)) Z)):=Lcl.own.star (Lcl.vws.star JV);have JP:=Jl.kp0 (Lcl.own.star JN) ((Kp.refl [] J7).alloc (.cells #[cc,.int .i64 (x.v:Nat),.int .i64 (x.x:Nat)] 87));refine At.append (xs:=[(⟨⟨cc,co1⟩,x.cnd,x.v,x.x⟩:Nf)]) JN JP zA7 zM3 zSA rfl (fun j u hj=>?_) (by omega) (by unfold maxLen;omega) fun v' KF JW=>?_
   ·rw[zAm,zA zO];simpa[nfE] using hj
   have JO:=JW.by (Imp.un (Imp.ow.trans (zZ.add co1)));simp[J1,Jz];refine⟨by simp[e2],by simp[e3],by simp[e5],by simp[Jq],by simp[Jp],by simp[Jo],by simp[Jn],es++[(⟨⟨cc,co1⟩,x.cnd,x.v,x.x⟩:Nf)],?_,?_⟩
   ·rw[List.map_append,JL,List.take_add_one,hx,List.map_append];rfl
   ·unfold EfA;rw[List.map_append];rw[hZ] at JO;exact JO
  ·clear h6 h7 h8 h9 JA JE oo6 oo8 Jd Jg Je n7;rintro ρ w9 ⟨e2,e3,e5,Jq,Jp,Jo,Jn,es,JL,h9⟩;rw[List.take_length] at JL;obtain⟨evx,JK⟩:∃evx,ρ 6=evx:=⟨_,rfl⟩;rw[JK] at h9;unfold EfA OpA at h9;have ev1:=h9.own.c1;have eo1:=h9.own.o1;have JA:=h9.by Imp.fr3;simp[JK,e5,ev1];refine JA.st (by repeat' (first|exact JF|exact Lcl.own|exact Lcl.obj|exact Lcl.vws|apply Lcl.star)) (by simp) (by simp[eo1]) fun Jr JC=>?_;simp at JC;have oo11:=zST JC.obj;have JG:=JC.drop.drop.drop.drop.drop.drop.drop.drop.obj;unfold tcO at JG;have KJ:os.length=k:=by have:=congrArg List.length JH;rw[List.length_map,List.length_map,List.length_take] at this;omega
   simp[e3,e5,zA JG,oo11,zW];have JD:=(JC.by Imp.dr).by Imp.fr4;obtain⟨o',JT⟩:∃o':No,o'=⟨o.name,o.cost,⟨pc,po1⟩,o.pre,⟨evx,eo1⟩,es⟩:=⟨_,rfl⟩;have J4:Lcl (zC (zM evx 87 3 nfE es) (zC (zZ fcE (es.map cdE)) (zC (zM pc 100 2 fcE o.pre) (zC (zZ fcE (os.map pvW)) (zC (zZ nfE (os.map evW)) (zC (zZ fcE (os.flatMap cdW)) (zC (zL ob (tcO a b c ov)) X))))))):=Lcl.own.star (Lcl.vws.star (Lcl.own.star (Lcl.vws.star (Lcl.vws.star (Lcl.vws.star (Lcl.obj.star JF))))));have Jl:=JD.kp0 (Lcl.own.star J4) ((Kp.refl [] Jr).alloc (.cells #[.string o.name,.int .i64 (o.cost:Nat),pc,evx] 41));refine At.append (xs:=[o']) J4 Jl zBv zSm sl_24 rfl (fun j u hj=>?_) (by omega) (by unfold maxLen;omega) fun ov' KG JP=>?_
   ·rw[zAm,zA zO];rw[JT] at hj;simpa[noE] using hj
   have JX:=JP.own.c1;have ovo:=JP.own.o1;have JW:=JP.by Imp.fr8;unfold tcO at JW;simp[e3,JX];refine JW.st (by repeat' (first|exact JF|exact Lcl.own|exact Lcl.obj|exact Lcl.vws|apply Lcl.star)) (by simp) (by simp[ovo]) fun KD JO=>?_;simp at JO;have J6:=(JO.by Imp.bk8).by (Imp.un (OpA.fold po1 eo1));simp[Jp,Jo];refine⟨by simp[e2],by simp[e3],by simp[Jq],ov',os++[o'],?_,?_⟩
   ·rw[List.map_append,JH,List.take_add_one,ho,List.map_append,JT];simp[skO,JL]
   ·unfold OpA tcO;rw[List.map_append,List.map_append,List.flatMap_append];have e7:[o'].flatMap cdW=es.map cdE:=by rw[JT];simp[cdW];exact fun _ _=>rfl
    rw[e7];rw[JT] at J6 ⊢;exact J6
 ·clear h h1 h2 h3 h4 h5 h6 h7 h8 h9 JA JR Jf;rintro ρ w5 ⟨g2,g3,Jm,ov,os,JH,h5⟩;rw[List.take_length] at JH;rw[hX] at h5;unfold OpA at h5;have J9:=rd_tc h5.drop.drop.drop.drop.obj;have JX:=h5.own.c1;have ovo:=h5.own.o1;have a1:=h5.drop.drop.drop.drop.drop.own.c1;have ao:=h5.drop.drop.drop.drop.drop.own.o1;have b1:=h5.drop.drop.drop.drop.drop.drop.own.c1;have bo:=h5.drop.drop.drop.drop.drop.drop.own.o1;have c1:=h5.drop.drop.drop.drop.drop.drop.drop.own.c1;have co:=h5.drop.drop.drop.drop.drop.drop.drop.own.o1;have h6:=h5.by Imp.fr10;unfold tcO at h6;simp[g2,g3,J9,JX,a1,b1,c1];refine h6.st (by repeat' (first|exact hB|exact Lcl.own|exact Lcl.obj|exact Lcl.vws|apply Lcl.star)) (by simp) (by simp[ovo,ao,bo,co]) fun w7 h7=>?_;simp[nlV] at h7;simp;refine zGa ag_26 (by simp[g2]) h7.obj (by simp) rfl ?_;refine⟨_,rfl,⟨⟨a,ao⟩,⟨b,bo⟩,⟨c,co⟩,⟨ov,ovo⟩,T.vars,T.init,T.goal,os⟩,by simp[ntV],⟨rfl,rfl,rfl,JH⟩,?_⟩;have h8:=h7.by Imp.dr;have h9:=(h8.by (Imp.un4 Imp.dr)).by (Imp.un4 (Imp.un3 Imp.dr));have JA:=(((h9.by Imp.fr7).by Imp.fr7).by Imp.fr7);have JC:=JA.by (Imp.trans Imp.ow (Imp.un (Imp.trans Imp.ow (Imp.un (Imp.trans Imp.ow (Imp.un Imp.ow))))));have JD:=((((((JC.by (Imp.un (Imp.un4 Imp.as))).by (Imp.un4 Imp.as)).by (Imp.un (Imp.un (Imp.un Imp.as)))).by (Imp.un (Imp.un Imp.as))).by (Imp.un Imp.as))).by Imp.as;exact JD
end
end
section
open Go Go.W Go.Tk Go.Rx Go.Bd Go.Sy Go.Maps
def hbL(vars st:List Nat)(m:Nat):List Bool:=(List.range (2*zD vars)).map fun i=>decide (i<2*m)&&(decide (i%2=0)&&mk2 vars st [] i)
theorem zNf(vars st:List Nat)(m:Nat):(hbL vars st m).length=2*zD vars:=by simp[hbL]
theorem zP3(vars st:List Nat):hbL vars st 0=List.replicate (2*zD vars) false:=by
 unfold hbL;apply List.ext_getElem
 ·simp
 ·intro i h1 h2;simp
theorem zNe{vars st:List Nat}{m:Nat}(hm:m<zD vars):(hbL vars st m).set (2*m) (mk2 vars st [] (2*m))=hbL vars st (m+1):=by
 unfold hbL;apply List.ext_getElem
 ·simp
 ·intro i h1 h2;rw[List.getElem_set];simp only[List.getElem_map,List.getElem_range];by_cases h:2*m=i
  ·subst h;rw[if_pos rfl];have e1:decide (2*m<2*(m+1))=true:=by simp
   have e2:decide (2*m%2=0)=true:=by simp
   rw[e1,e2];rfl
  ·rw[if_neg h];by_cases h3:i%2=0
   ·have:decide (i<2*m)=decide (i<2*(m+1)):=by rw[decide_eq_decide];omega
    rw[this]
   ·have:decide (i%2=0)=false:=by simp[h3]
    rw[this];simp
theorem zVt{vars st:List Nat}{p:Nat}(hp:p<zD vars):inB (hbL vars st (zD vars)) (2*p+0)=mk2 vars st [] (2*p+0):=by
 have h1:2*p<2*zD vars:=by omega
 unfold inB hbL;simp[List.getD,h1,hp]
section
variable {w w1:World} {F:List Nat} {A B B':Asr} {s m lim:Nat} {T:Nt} {q:SpC} {ns:Ns} {ks:List (Nat×Bool)} {ss:List (Nat×Nat)}
theorem zI.fv(h:At w F (zI s m lim T q ns ks ss B) w1):Vw w1 q.fv nE (zBC T.vars):=by
 unfold zI at h;exact h.drop.drop.own.vw
theorem zI.wv(h:At w F (zI s m lim T q ns ks ss B) w1):Vw w1 q.wv nE (zBB T.vars):=by
 unfold zI at h;exact h.drop.drop.drop.own.vw
def HsI(s m lim:Nat)(T:Nt)(q:SpC)(ns:Ns)(ks:List (Nat×Bool))(ss:List (Nat×Nat))(B:Asr)(w:World)(F:List Nat)(a:Nat)(st:List Nat)(sv bw:Value)(p:Nat)(ρ:Env)(w':World):Prop :=
 ρ 0=.pointer (some ⟨s,0,none⟩)/\ρ 1=.int .i64 (a:Nat)/\ρ 8=bw/\ρ 38=sv/\At w F (zC (zM bw 4 1 bv (hbL T.vars st p)) (zI s m lim T q ns ks ss B)) w'
theorem zP4(a:Nat)(sv:Value)(st:List Nat)(P:List Nat->Bool)(hG:SpG lim T q ns ks ss)(hB:Lcl B)(h:At w F (zI s m lim T q ns ks ss B) w1)(ha:Kn T ns ks a P)(hr:Rds B fun w'=>Vw w' sv nE st)(JI:StN T.vars st) :
  Calls Tryz.prog 42 [.pointer (some ⟨s,0,none⟩),.int .i64 (a:Nat),sv].toArray w1 fun en w'=>∃v,en=.returned v/\v=.tuple #[.bool (P st),.nilIface]/\At w F (zI s m lim T q ns ks ss B) w':=by
 refine enter Tryz.func42 mixed low42 (Nat.le_of_ble_eq_true rfl) ?_;simp only[L42];have os:=zI.obj h;unfold spO at os;rw[hG.cells.1] at os;have hT:=zI.tsk h;have Jt:=hG.g.vlen;have Jj:=JI.len;have Jx:=hG.ok.bt;have Jq:=ha.le hG;have Jo:zY a:=by unfold zY;omega
 have JG:Lcl (zI s m lim T q ns ks ss B):=zI.lcl hB;obtain⟨n,JW⟩:∃n,n=2*zD T.vars:=⟨_,rfl⟩;have Jm:(2:Int)*(zD T.vars:Nat)=(n:Int):=by omega
 simp[zA os];refine zAw.look1 (x:=a) (zI.km h) zBm Tryz.underlying147 zLy Jo ?_;simp[ha.kn,zG4,zA os];refine zG (zBT T.vv.1 sv _ _ (zKu.2 hT.vars) (zKu.2 (zI.frame h hr)) (by simp;omega)) ?_;rintro _ w2 ⟨rfl,k2⟩;have h2:=h.kp0 JG k2;have os2:=zI.obj h2;unfold spO at os2;have h3:=h2.made (E:=4) (enc:=bv) (x:=false) (z:=[.bool false]) (n:=n) JG rfl zIE (by unfold maxLen;omega);have JT:=zI.frame h2 hr;rw[JW,<-zP3 T.vars st,<-JW] at h3;simp(disch:=omega)[JI.ok,zA os2,zH,Jm];refine zHw (by omega) ?_;simp[JT.len];obtain⟨bw,Jp⟩:∃bw,bw=Value.slice (some ⟨w2.heap.size,0,none⟩) n n:=⟨_,rfl⟩;rw[<-Jp] at h3 ⊢;refine zF (n:=st.length) (by omega) (fun v ρ w'=>HsI s m lim T q ns ks ss B w F a st sv bw (bP T.vars v) ρ w') (by simp) (by simp)
  ⟨by simp,by simp,by simp,by simp,h3⟩ (by decide) (fun _ _ _ _ h=>by unfold HsI at h ⊢;simpa using h) (fun _ _ _ _ h=>by unfold HsI at h ⊢;simpa using h) ?_ ?_
 ·rintro v ρ w4 hv Jf Je ⟨e0,e1,e8,JZ,h4⟩;obtain⟨x,hx⟩:∃x,st[v]? = some x:=⟨_,List.getElem?_eq_getElem hv⟩;have Jh:st.getD v 0=x:=by simp[List.getD,hx]
  have JL:v<T.vars.length:=by omega
  obtain⟨nn,JF⟩:∃nn,T.vars[v]? = some nn:=⟨_,List.getElem?_eq_getElem JL⟩;have Jw:T.vars.getD v 0=nn:=by simp[List.getD,JF]
  have Ji:=zFi nn;obtain⟨W,hW⟩:∃W,W=wd nn:=⟨_,rfl⟩;rw[<-hW] at Ji;have Jr:=JI.rng v JL;have Jn:=(hG.g.vars (T.vars.getD v 0) (by simp[List.getD,List.getElem?_eq_getElem JL])).2;have JE:=h4.by Imp.dr;have Jb:=zI.frame JE hr;have os4:=zI.obj JE;unfold spO at os4;have JH:=zI.wv JE;have Ja:=zAM JH (zDA JF);rw[<-hW] at Ja;have Ju:(v:Int)<st.length:=by omega
  have Js:(v:Int)<(zBB T.vars).length:=by simp[zBB];omega
  simp(disch:=omega)[e0,JZ,Jf,Je,Jb.idx,zAM Jb hx,zA os4,JH.idx,Ja];refine zF (n:=W) (by omega) (fun k ρ w'=>ρ 9=.int .i64 (v:Nat)/\ρ 10=.int .i64 (x:Nat)/\ρ 39=.int .i64 (st.length:Nat)/\ρ 40=.int .i64 (v:Nat)/\HsI s m lim T q ns ks ss B w F a st sv bw (bP T.vars v+k) ρ w') (by simp) (by simp)
   ⟨by simp,by simp,by simp[Je],by simp[Jf],by simp[e0],by simp[e1],by simp[e8],by simp[JZ],h4⟩ (by decide) (fun _ _ _ _ h=>by unfold HsI at h ⊢;simpa using h) (fun _ _ _ _ h=>by unfold HsI at h ⊢;simpa using h) ?_ ?_
  ·rintro k ρ w5 hk JP JN ⟨g9,g10,JR,JQ,g0,g1,g8,JS,h5⟩;have JY:=h5.by Imp.dr;have os5:=zI.obj JY;unfold spO at os5;have JB:=zI.wv JY;have JD:=zI.fv JY;have JC:=zAM JB (zDA JF);rw[<-hW] at JC;have JK:=zAM JD (zFD JL);have Jv:(v:Int)<(zBC T.vars).length:=by simp[zBC];omega
   have JX:=zQb JF (show k<wd nn by omega);obtain⟨p2,JV⟩:∃p,p=bP T.vars v+k:=⟨_,rfl⟩;have ei1:(bP T.vars v:Int)+(k:Int)=(p2:Int):=by omega
   obtain⟨p3,JU⟩:∃p,p=2*p2:=⟨_,rfl⟩;have ei2:2*(p2:Int)=(p3:Int):=by omega
   obtain⟨d,hd⟩:∃d,d=W-1-k:=⟨_,rfl⟩;have ed1:(W:Int)-1=((W-1:Nat):Int):=by omega
   have ed:((W-1:Nat):Int)-(k:Int)=(d:Int):=by omega
   have JM:=zMQ (x:=x) (d:=d) (by omega) (by omega);have JO:(hbL T.vars st p2).length=n:=by rw[zNf,JW]
   have Jd:mk2 T.vars st [] p3=x.testBit d:=by have h:=zQ9 (x:=st) (y:=[]) (nx:=0) JF (show k<wd nn by omega) (by omega);rw[if_pos rfl,Jh,Nat.add_zero] at h;rw[JU,JV,hd,hW];exact h
   rw[<-JV] at h5 JX;have Jk:(p3:Int)<n:=by omega
   have Jg:=h5.drew (Lcl.own.star JG);have ep:bP T.vars v+(k+1)=p2+1:=by rw[JV];rfl
   cases JA:x.testBit d with
   |true =>
    rw[JA,if_pos rfl] at JM;have e6:(hbL T.vars st p2).set p3 true=hbL T.vars st (p2+1):=by rw[<-JA,<-Jd,JU];exact zNe JX
    simp(disch:=omega)[g0,g8,g9,g10,JP,JN,zA os5,JB.idx,JC,JD.idx,JK,ei1,ei2,ed1,ed,zH,JM,h5.own.idx,JO];refine Jg.store1 (x:=true) JG zIE zOU (by rw[JO];omega) rfl fun w6 h6=>?_;rw[e6,<-ep] at h6;simp only[↓zL1,zJw,zEz,zF3];simp[g9,g10,JR,JQ,JP,JN];exact⟨by simpa using g0,by simpa using g1,by simpa using g8,by simpa using JS,h6⟩
   |false =>
    rw[JA,if_neg (by simp)] at JM;have e6:(hbL T.vars st p2).set p3 false=hbL T.vars st (p2+1):=by rw[<-JA,<-Jd,JU];exact zNe JX
    simp(disch:=omega)[g0,g8,g9,g10,JP,JN,zA os5,JB.idx,JC,JD.idx,JK,ei1,ei2,ed1,ed,zH,JM,h5.own.idx,JO];refine Jg.store1 (x:=false) JG zIE zOU (by rw[JO];omega) rfl fun w6 h6=>?_;rw[e6,<-ep] at h6;simp only[↓zL1,zJw,zEz,zF3];simp[g9,g10,JR,JQ,JP,JN];exact⟨by simpa using g0,by simpa using g1,by simpa using g8,by simpa using JS,h6⟩
  ·rintro ρ w5 ⟨g9,g10,JR,JQ,g0,g1,g8,JS,h5⟩;rw[hW,<-zC4 JF] at h5;simp[JR,JQ];exact⟨by simp[g0],by simp[g1],by simp[g8],by simp[JS],h5⟩
 rintro ρ w4 ⟨e0,e1,e8,JZ,h4⟩;rw[Jj,zBn] at h4;have JE:=h4.by Imp.dr;have os4:=zI.obj JE;unfold spO at os4;simp[e0,e1,e8,zA os4];refine zG (zNy a bw (hbL T.vars st (zD T.vars)) (zI.mgr JE) hG.ok.bnd hG.ok.wf ha.ok.1 h4.own.vw (by rw[zNf];omega)) ?_;rintro _ w5 ⟨rfl,k5⟩;have h5:=JE.kp0 JG k5;have Jc:rs T.vars (inB (hbL T.vars st (zD T.vars))) 0=st:=(zAy fun p hp=>zVt hp).trans (zHY (y:=[]) (fun n hn=>(hG.g.vars n hn).2) JI);have Jl:okB T.vars (inB (hbL T.vars st (zD T.vars)))=true:=zAh.2 (by rw[Jc];exact JI);simp[ha.ok.2,Jl,Jc];exact h5
end
end
section
open Go Go.W Go.Tk Go.Rx Go.Bd Go.Sy Go.Maps
def zB(k n:Nat)(a:Nat->Bool):Bool:=(List.range (k-n)).all fun j=>!a (2*(n+j)+1)
theorem zUU{k:Nat}{a:Nat->Bool}:zB k k a=true:=by unfold zB;simp
theorem zLz{k n:Nat}{a:Nat->Bool}(h:n<k):zB k n a=(!a (2*n+1)&&zB k (n+1) a):=by
 unfold zB;rw[show k-n=(k-(n+1))+1 by omega,List.range_succ_eq_map,List.all_cons,List.all_map];congr 1;refine congrArg (fun f=>(List.range (k-(n+1))).all f) ?_;funext j;simp only[Function.comp];rw[show n+j.succ=n+1+j by omega]
theorem zQj{k:Nat}{a:Nat->Bool}:zB k 0 a=true<->∀p,p<k->a (2*p+1)=false:=by
 unfold zB;rw[List.all_eq_true];constructor
 ·intro h p hp;have:=h p (List.mem_range.2 (by omega));simpa using this
 ·intro h j hj;have:=h j (by have:=List.mem_range.1 hj;omega);simpa using this
def ctF(vars:List Nat)(P:List Nat->Bool)(a:Nat->Bool):Bool:=(okB vars a&&P (rs vars a 0))&&zB (zD vars) 0 a
def CRes(s m lim:Nat)(T:Nt)(q:SpC)(ns:Ns)(ks:List (Nat×Bool))(ss:List (Nat×Nat))(B:Asr)(w:World)(F:List Nat)(W:((Nat->Bool)->Bool)->Prop)(P:List Nat->Bool)(v:Value)(w':World):Prop :=
 ∃e' ns',v=(if e'=true then .tuple #[.int .i64 0,eB true] else zQT (num (2*zD T.vars) 0 (ctF T.vars P)))/\Stp (2*zD T.vars) lim W false ns e' ns'/\SpG lim T q ns' ks ss/\At w F (zI s m lim T q ns' ks ss B) w'
def CtI(b s m lim:Nat)(vars:List Nat)(q:SpC)(ns:Ns)(R:Asr)(w:World)(F:List Nat)(W:((Nat->Bool)->Bool)->Prop)(a n:Nat)(ρ:Env)(w':World):Prop :=
 ρ 0=.pointer (some ⟨s,0,none⟩)/\ρ 1=.int .i64 (a:Nat)/\ρ 6=.pointer (some ⟨b,0,none⟩)/\ρ 8=.int .i64 (2*(n:Int)-1)/\n<=zD vars /\
  ∃f e' ns',ρ 7=.int .i64 (f:Nat)/\Stp (2*zD vars) lim W false ns e' ns'/\Mn ns' e' f (zB (zD vars) n)/\At w F (BlA b s m lim vars q e' ns' R) w'
section
variable {w w1:World} {F:List Nat} {A B B':Asr} {s m lim:Nat} {T:Nt} {q:SpC} {ns:Ns} {ks:List (Nat×Bool)} {ss:List (Nat×Nat)} {W:((Nat->Bool)->Bool)->Prop}
theorem zGG(a:Nat)(P:List Nat->Bool)(hG:SpG lim T q ns ks ss)(hB:Lcl B)(h:At w F (zI s m lim T q ns ks ss B) w1)(ha:Kn T ns ks a P)(hL:LitW T.vars W)(hZ:∀j,j<zD T.vars->W (zB (zD T.vars) j))(hC:W (ctF T.vars P)) :
  Calls Tryz.prog 39 [.pointer (some ⟨s,0,none⟩),.int .i64 (a:Nat)].toArray w1 fun en w'=>∃v,en=.returned v/\CRes s m lim T q ns ks ss B w F W P v w':=by
 refine enter Tryz.func39 mixed low39 (Nat.le_of_ble_eq_true rfl) ?_;simp only[L39];have os:=zI.obj h;unfold spO at os;have Jg:=hG.ok.bt;have JM:=ha.le hG;have JY:zY a:=by unfold zY;omega
 simp[zA os];refine zAw.look1 (x:=a) (zI.km h) zBm Tryz.underlying147 zLy JY ?_;obtain⟨bb,JQ⟩:∃bb,bb=w1.heap.size:=⟨_,rfl⟩;have h2:=zI.bl hB h;obtain⟨w2,JO⟩:∃w2,w2=w1.alloc (blO s false):=⟨_,rfl⟩;rw[<-JQ,<-JO] at h2;have JF:w1.alloc (.cells #[.pointer (some ⟨s,0,none⟩),.nilIface] 167 (0,0))=w2:=by rw[JO];rfl
 have hR:Lcl (zAO T q ks ss B):=zAO.lcl hB;have JN:=h2;unfold BlA at JN;have os2:=JN.drop.drop.obj;unfold spO at os2;have e1:(2:Int)*(zD T.vars:Nat)=((2*zD T.vars:Nat):Int):=by omega
 simp(disch:=omega)[ha.kn,zG4,<-JQ,JF,zA os2,zH];refine z8 (CtI bb s m lim T.vars q ns (zAO T q ks ss B) w F W a) (zD T.vars) ⟨by simp,by simp,by simp,by simp,Nat.le_refl _,1,false,ns,by simp,Stp.refl hG.ok.wf hG.ok.nl,zEu hG.ok.wf _ _ (fun a=>zUU),h2⟩ ?_;clear h h2 JN os os2;rintro n ρ w3 ⟨g0,g1,g6,g8,Jf,f,e3,Je,g7,hs,JP,h3⟩;have JD:=hG.ok.stp hs;have ma:Mn ns false a (zB7 T.vars P):=⟨JM,fun _=>ha.ok⟩;by_cases JW:n=0
 ·subst JW;have g8':ρ 8=.int .i64 (-1):=by rw[g8];rfl
  simp[g8',g0,g1,g6,g7];refine zG (zp a f _ _ JD hR h3 (ma.keep hG.ok.wf hs) JP hC) ?_;rintro _ w4 ⟨y4,e4,JA,rfl,JB,JK,h4⟩;have JC:=JD.stp JB;have JG:=hs.trans JB;have JR:=hG.stp JG;have JT:=h4;unfold BlA at JT;have JE:=JT.drop.obj;unfold blO at JE;cases e4 with
  |true =>simp[g6,zA JE,eB,zu];exact⟨true,JA,by simp[eB,zu],JG,JR,(zI.un h4).drew (zI.lcl hB)⟩
  |false =>
   have h5:=zI.un h4;have os5:=zI.obj h5;unfold spO at os5;have JS:=h5;unfold zI at JS;obtain⟨r4,ev4⟩:=JK.2 rfl;simp[g6,g0,zA JE,eB,zA os5];refine zG (zLt m (2*zD T.vars) lim JA y4 (zI.rest hB) JS JC.wf JC.bnd r4) ?_;rintro _ w6 ⟨rfl,h6⟩;have Jc:At w F (zI s m lim T q JA ks ss B) w6:=h6;have ef:(fun a=>eval JA a y4)=ctF T.vars P:=by funext x;rw[ev4];rfl
   rw[ef];obtain⟨va,vb,hv⟩:∃va vb,zQT (num (2*zD T.vars) 0 (ctF T.vars P))=.tuple #[va,vb]:=by
    unfold zQT;split
    ·exact⟨_,_,rfl⟩
    ·exact⟨_,_,rfl⟩
   rw[hv];simp;exact⟨false,JA,by rw[<-hv];rfl,JG,JR,Jc⟩
 obtain⟨j,rfl⟩:∃j,n=j+1:=⟨n-1,by omega⟩;have Ja:2*((j+1:Nat):Int)-1=((2*j+1:Nat):Int):=by omega
 rw[Ja] at g8;obtain⟨i,hi⟩:∃i,i=2*j+1:=⟨_,rfl⟩;rw[<-hi] at g8;have Jb:0<i:=by omega
 have JL:W fun x=>!x i&&zB (zD T.vars) (j+1) x:=by have:=hZ j (by omega);rwa[show zB (zD T.vars) j=fun x=>!x i&&zB (zD T.vars) (j+1) x from funext fun x=>by rw[zLz (by omega),hi]] at this
 simp(disch:=omega)[g8,g6,Jb];refine zG (zDW i JD hR h3 (by omega) (hL i (by omega)).1) ?_;rintro _ w4 ⟨y4,e4,JA,rfl,JB,JK,h4⟩;have JC:=JD.stp JB;simp[g6];refine zG (zCO y4 _ JC hR h4 JK (hL i (by omega)).2) ?_;rintro _ w5 ⟨y5,e5,Jd,rfl,JH,JX,h5⟩;have JZ:=JC.stp JH;simp[g6,g7];refine zG (zp y5 f _ _ JZ hR h5 JX ((JP.keep JD.wf JB).keep JC.wf JH) JL) ?_;rintro _ w6 ⟨y6,e6,JU,rfl,JV,JI,h6⟩;simp(disch:=omega)[g8,zH];refine⟨j,by omega,by simp[g0],by simp[g1],by simp[g6],by simp;omega,by omega,y6,e6,JU,by simp,((hs.trans JB).trans JH).trans JV,?_,h6⟩;exact⟨JI.1,fun he=>⟨(JI.2 he).1,fun x=>by rw[(JI.2 he).2 x,zLz (by omega),hi]⟩⟩
end
end
end Go.Proofs.YtolkjbmcindhjaaGreat
