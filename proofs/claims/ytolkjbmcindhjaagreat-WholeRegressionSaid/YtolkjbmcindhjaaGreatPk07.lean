/-
  Parts of the proof of this claim's statement; no conditions beyond those each theorem names.
-/
import Derived.Test.YtolkjbmcindhjaaGreatPk06
import Derived.Test.YtolkjbmcindhjaaGreatPk01
import Derived.Shelf.SlIterI.Nil
import Derived.Shelf.SortM.Plain
import Derived.Shelf.SortM.SortNone
import Derived.Test.YtolkjbmcindhjaaGreatProg
import Derived.Test.YtolkjbmcindhjaaGreatPk05
import Derived.Maps.OwnSet
set_option maxRecDepth 100000
set_option linter.unusedSimpArgs false
set_option linter.unusedVariables false
set_option linter.unusedSectionVars false
set_option maxHeartbeats 8000000
namespace Go.Proofs.YtolkjbmcindhjaaGreat
section
open Go Go.W Go.Bd Go.Maps
section
variable {p:Value} {w:World} {R:Value->World->Prop}
theorem zVS{f:Int}(h:Calls Tryz.prog 153 [p,.int .i64 2,.int .i64 f,.int .i64 1].toArray w fun e w'=>∃v,e=.returned v/\R v w')(hR:∀v w',R v w'->∃a b,v=.tuple #[a,b]) :
  Calls Tryz.prog 154 [p,.int .i64 f].toArray w fun e w'=>∃v,e=.returned v/\R v w':=by
 refine enter Tryz.func154 mixed low154 (Nat.le_of_ble_eq_true rfl) ?_;simp only[L154];simp;refine zG h ?_;intro v w2 h2;obtain⟨a,b,rfl⟩:=hR v w2 h2;simp;exact h2
theorem zKj{f g:Int}(h:Calls Tryz.prog 153 [p,.int .i64 0,.int .i64 f,.int .i64 g].toArray w fun e w'=>∃v,e=.returned v/\R v w')(hR:∀v w',R v w'->∃a b,v=.tuple #[a,b]) :
  Calls Tryz.prog 96 [p,.int .i64 f,.int .i64 g].toArray w fun e w'=>∃v,e=.returned v/\R v w':=by
 refine enter Tryz.func96 mixed low96 (Nat.le_of_ble_eq_true rfl) ?_;simp only[L96];simp;refine zG h ?_;intro v w2 h2;obtain⟨a,b,rfl⟩:=hR v w2 h2;simp;exact h2
theorem zVE{f g:Int}(h:Calls Tryz.prog 153 [p,.int .i64 1,.int .i64 f,.int .i64 g].toArray w fun e w'=>∃v,e=.returned v/\R v w')(hR:∀v w',R v w'->∃a b,v=.tuple #[a,b]) :
  Calls Tryz.prog 98 [p,.int .i64 f,.int .i64 g].toArray w fun e w'=>∃v,e=.returned v/\R v w':=by
 refine enter Tryz.func98 mixed low98 (Nat.le_of_ble_eq_true rfl) ?_;simp only[L98];simp;refine zG h ?_;intro v w2 h2;obtain⟨a,b,rfl⟩:=hR v w2 h2;simp;exact h2
theorem zNv{f:Int}{u:Value}(h:Calls Tryz.prog 215 [p,.int .i64 1,.int .i64 f,u].toArray w fun e w'=>∃v,e=.returned v/\R v w')(hR:∀v w',R v w'->∃a b,v=.tuple #[a,b]) :
  Calls Tryz.prog 152 [p,.int .i64 f,u].toArray w fun e w'=>∃v,e=.returned v/\R v w':=by
 refine enter Tryz.func152 mixed low152 (Nat.le_of_ble_eq_true rfl) ?_;simp only[L152];simp;refine zG h ?_;intro v w2 h2;obtain⟨a,b,rfl⟩:=hR v w2 h2;simp;exact h2
theorem zBX(r:Option Nat):∃a b,zBH r=.tuple #[a,b]:=by cases r<;>exact⟨_,_,rfl⟩
end
theorem zFv(n p:Nat)(w:World)(hn:n<=many)(hp:p<=100000):Calls Tryz.prog 156 [.int .i64 (n:Nat),.int .i64 (p:Nat)].toArray w fun e w'=>∃v,e=.returned v/\v=.int .i64 ((min (n*2^p) many:Nat):Int)/\Kp [] w w':=by
 refine enter Tryz.func156 mixed low156 (Nat.le_of_ble_eq_true rfl) ?_;simp only[L156];simp;have hm:many=1099511627777:=rfl;refine z8 (fun q ρ w1=>∃x:Nat,ρ 0=.int .i64 (x:Nat)/\ρ 1=.int .i64 (q:Nat)/\x<=many/\q<=p/\min (x*2^q) many=min (n*2^p) many/\w1=w) p
  ⟨n,by simp,by simp,hn,Nat.le_refl _,rfl,rfl⟩ ?_
 rintro q ρ w1 ⟨x,g0,g1,hx,hq,he,rfl⟩;by_cases h1:q=0
 ·subst h1;simp[g0,g1];refine⟨?_,Kp.refl _ _⟩;rw[<-he];simp;omega
 have JE:(0:Int)<q:=by omega
 have JB:0<q:=by omega
 by_cases h2:x=0
 ·subst h2;simp[g0,g1,JE,JB];refine⟨?_,Kp.refl _ _⟩;rw[<-he];simp
 have JF:(0:Int)<x:=by omega
 have JC:0<x:=by omega
 have JG:2<=2^q:=by obtain⟨e,rfl⟩:∃e,q=e+1:=⟨q-1,by omega⟩;have:=Nat.two_pow_pos e;rw[Nat.pow_succ];omega
 by_cases h3:x<many
 ·have JD:(x:Int)<1099511627777:=by omega
  have JA:x<1099511627777:=by omega
  have e1:min (2*(x:Int)) 1099511627777=((min (2*x) many:Nat):Int):=by omega
  have e2:(q:Int)-1=((q-1:Nat):Int):=by omega
  simp(disch:=omega)[g0,g1,JE,JB,JF,JC,JD,JA,zH];refine⟨q-1,by omega,min (2*x) many,by omega,by omega,by omega,by omega,?_⟩;rw[zEJ,<-he];have:2*x*2^(q-1)=x*2^q:=by obtain⟨e,rfl⟩:∃e,q=e+1:=⟨q-1,by omega⟩;rw[Nat.add_sub_cancel,Nat.pow_succ,Nat.mul_comm 2 x,Nat.mul_assoc,Nat.mul_comm 2]
  rw[this]
 ·have JD:¬(x:Int)<1099511627777:=by omega
  have JA:¬x<1099511627777:=by omega
  have h4:x=many:=by omega
  simp[g0,g1,JE,JB,JF,JC,JD,JA];refine⟨?_,Kp.refl _ _⟩;rw[<-he,h4];have:many<=many*2^q:=Nat.le_mul_of_pos_right _ (by omega);omega
end
section
open Go Go.W Go.Bd Go.Maps
def zHF(n:Nat)(ns:Ns)(M:zFZ):Prop:=∀q∈M,Ref ns q.1/\q.2=min (cnt n ns q.1) many
def CPost(m n lim:Nat)(ns:Ns)(f b:Nat)(B:Asr)(w:World)(F:List Nat)(v:Value)(w':World):Prop :=
 v=zAc (min (cnt n ns f) many)/\∃M',zHF n ns M'/\At w F (zC (zj m n lim ns) (zC (zFY b M') B)) w'
theorem zOD(m n lim b:Nat)(ns:Ns)(hw:Wf n ns)(hb:Bnd n lim ns)(w:World)(F:List Nat):∀(d f:Nat) (M:zFZ) (B:Asr) (w1:World),Lcl B->Ref ns f->f<=d->zHF n ns M ->
  At w F (zC (zj m n lim ns) (zC (zFY b M) B)) w1 ->
  Calls Tryz.prog 157 [.pointer (some ⟨m,0,none⟩),.int .i64 (f:Nat),.map (some b)].toArray w1 fun e w'=>∃v,e=.returned v/\CPost m n lim ns f b B w F v w':=by
 intro d
 induction d using Nat.strongRecOn with
 |ind d ih =>
 intro f M B w1 hB hf hd hM hA;obtain⟨JN,JO,JM⟩:=hb;have JK:Bnd n lim ns:=⟨JN,JO,JM⟩;have JE:∀M,Lcl (zC (zj m n lim ns) (zC (zFY b M) B)):=fun M=>Lcl.mgr.star (Lcl.map.star hB);have JR:f<=1048578:=by unfold Ref at hf;omega
 have JH:many=1099511627777:=rfl;refine enter Tryz.func157 mixed low157 (Nat.le_of_ble_eq_true rfl) ?_;simp only[L157];by_cases h2:f<2
 ·have JF:(f:Int)<2:=by omega
  simp[JF];refine⟨?_,M,hM,hA⟩;rw[zRa h2];unfold zAc;congr 1;omega
 have JF:¬(f:Int)<2:=by omega
 simp[JF];refine zAw.look2 (x:=f) hA.drop.map zBm Tryz.underlying159 zT6 (show zY f by unfold zY;omega) ?_;cases JL:zBw M f with
 |some r =>simp[zAc];have:=(hM _ (zFA JL)).2;simp only at this;refine⟨?_,M,hM,hA⟩;unfold zAc;rw[this]
 |none =>
 simp;refine zG (zBR m n lim f ns w1 (zj.rd hA) JK hf) ?_;rintro v w2 ⟨rfl,k2⟩;have h3:=(hA.kp0 (JE M) k2).alloc (.cells #[.int .i64 0,.int .i64 0,.int .i64 0] 258) (JE M);simp[ndV,zCm];refine h3.st (JE M) (by simp[en,zAB]) (by simp[en,zAB]) fun w4 h4=>?_;have e3:∀d:Nd,zBh #[.int .i64 0,.int .i64 0,.int .i64 0] 0 (en d)=(en d).toArray:=fun d=>by simp[en,zAB]
 rw[e3] at h4;obtain⟨t,ht⟩:∃t,t=w2.heap.size:=⟨_,rfl⟩;rw[<-ht] at h4 ⊢;have h5:=h4.tor3;have JD:Lcl (zC (zL t (.cells (en (at_ n ns f)).toArray 258 (0,0))) B):=Lcl.obj.star hB;have JC:∀M,Lcl (zC (zj m n lim ns) (zC (zFY b M) (zC (zL t (.cells (en (at_ n ns f)).toArray 258 (0,0))) B))):=fun M=>Lcl.mgr.star (Lcl.map.star JD);have JB:2<=f:=by omega
 have l1:=hw.lt_low JB hf;have l2:=hw.lt_high JB hf;have tvn:=hw.tv_var JB hf;have rl:=hw.ref_low hf;have rh:=hw.ref_high hf;have tl:=hw.tv_low JB hf;have th:=hw.tv_high JB hf;have bl:=hw.tv_le rl;have bh:=hw.tv_le rh;have etv:tv n ns f=(at_ n ns f).v:=rfl;obtain⟨nd,JG⟩:∃nd,nd=at_ n ns f:=⟨_,rfl⟩;rw[<-JG] at h5 JD JC l1 l2 rl rh tl th bl bh etv;refine zQg (fun _ w'=>∃M',zHF n ns M'/\At w F (zC (zj m n lim ns) (zC (zFY b M') (zC (zL t (.cells (en nd).toArray 258 (0,0))) B))) w') (by kernel_rfl) ⟨M,hM,h5.drew (JC M)⟩ ?_;have cell:∀{M':zFZ} {w':World},At w F (zC (zj m n lim ns) (zC (zFY b M') (zC (zL t (.cells (en nd).toArray 258 (0,0))) B))) w'->w'.heap[t]? = some (.cells (en nd).toArray 258 (0,0)):=fun h=>h.drop.drop.obj;have callC:∀x,x<f->Ref ns x->∀w',(∃M',zHF n ns M'/\At w F (zC (zj m n lim ns) (zC (zFY b M') (zC (zL t (.cells (en nd).toArray 258 (0,0))) B))) w') ->
   Calls Tryz.prog 157 [.pointer (some ⟨m,0,none⟩),.int .i64 (x:Nat),.map (some b)].toArray w' fun e w''=>∃v,e=.returned v/\(v=zAc (min (cnt n ns x) many)/\∃M',zHF n ns M'/\At w F (zC (zj m n lim ns) (zC (zFY b M') (zC (zL t (.cells (en nd).toArray 258 (0,0))) B))) w''):=by
  rintro x hx hr w' ⟨M',JA,h'⟩;exact ih (d-1) (by omega) x M' _ w' JD hr (by omega) JA h'
 have callA:∀x,Ref ns x->∀w',(∃M',zHF n ns M'/\At w F (zC (zj m n lim ns) (zC (zFY b M') (zC (zL t (.cells (en nd).toArray 258 (0,0))) B))) w') ->
   Calls Tryz.prog 158 [.pointer (some ⟨m,0,none⟩),.int .i64 (x:Nat)].toArray w' fun e w''=>∃v,e=.returned v/\(v=ndV (at_ n ns x)/\∃M',zHF n ns M'/\At w F (zC (zj m n lim ns) (zC (zFY b M') (zC (zL t (.cells (en nd).toArray 258 (0,0))) B))) w''):=by
  rintro x hr w' ⟨M',JA,h'⟩;refine(zBR m n lim x ns w' (zj.rd h') JK hr).mono ?_;rintro e w'' ⟨v,rfl,rfl,k⟩;exact⟨_,rfl,rfl,M',JA,h'.kp0 (JC M') k⟩
 have callT:∀x p,x<=many->p<=100000->∀w',(∃M',zHF n ns M'/\At w F (zC (zj m n lim ns) (zC (zFY b M') (zC (zL t (.cells (en nd).toArray 258 (0,0))) B))) w') ->
   Calls Tryz.prog 156 [.int .i64 (x:Nat),.int .i64 (p:Nat)].toArray w' fun e w''=>∃v,e=.returned v/\(v=zAc (min (x*2^p) many)/\∃M',zHF n ns M'/\At w F (zC (zj m n lim ns) (zC (zFY b M') (zC (zL t (.cells (en nd).toArray 258 (0,0))) B))) w''):=by
  rintro x p hx hp w' ⟨M',JA,h'⟩;refine(zFv x p w' hx hp).mono ?_;rintro e w'' ⟨v,rfl,rfl,k⟩;exact⟨_,rfl,rfl,M',JA,h'.kp0 (JC M') k⟩
 have etl:tv n ns nd.low=(at_ n ns nd.low).v:=rfl;have eth:tv n ns nd.high=(at_ n ns nd.high).v:=rfl;simp;refine zF0 (.int .i64 (nd.low:Nat)) (fun k' w' hS=>?_) ?_
 ·obtain⟨M',JA,h'⟩:=hS;simp[zA (cell h'),en,zAB]
 simp;refine zGE (zAc (min (cnt n ns nd.low) many)) (fun w' hS=>?_) ?_
 ·simp;refine zG (callC nd.low (by omega) rl w' hS) ?_;rintro v w'' ⟨rfl,h⟩;exact⟨rfl,h⟩
 simp;refine zF0 (.int .i64 (nd.low:Nat)) (fun k' w' hS=>?_) ?_
 ·obtain⟨M',JA,h'⟩:=hS;simp[zA (cell h'),en,zAB]
 simp;refine zGE (ndV (at_ n ns nd.low)) (fun w' hS=>?_) ?_
 ·simp;refine zG (callA nd.low rl w' hS) ?_;rintro v w'' ⟨rfl,h⟩;exact⟨rfl,h⟩
 simp[ndV,en,zAB];refine zF0 (.int .i64 (nd.v:Nat)) (fun k' w' hS=>?_) ?_
 ·obtain⟨M',JA,h'⟩:=hS;simp[zA (cell h'),en,zAB]
 simp(disch:=omega)[zH];refine zGE (zAc (min (min (cnt n ns nd.low) many*2^(tv n ns nd.low-nd.v-1)) many)) (fun w' hS=>?_) ?_
 ·simp[zAc];have e1:(((at_ n ns nd.low).v:Int)-nd.v-1)=((tv n ns nd.low-nd.v-1:Nat):Int):=by have:tv n ns nd.low=(at_ n ns nd.low).v:=rfl;omega
  rw[e1];refine zG (callT (min (cnt n ns nd.low) many) (tv n ns nd.low-nd.v-1) (by omega) (by omega) w' hS) ?_;rintro v w'' ⟨rfl,h⟩;exact⟨rfl,h⟩
 simp;refine zF0 (.int .i64 (nd.high:Nat)) (fun k' w' hS=>?_) ?_
 ·obtain⟨M',JA,h'⟩:=hS;simp[zA (cell h'),en,zAB]
 simp;refine zGE (zAc (min (cnt n ns nd.high) many)) (fun w' hS=>?_) ?_
 ·simp;refine zG (callC nd.high (by omega) rh w' hS) ?_;rintro v w'' ⟨rfl,h⟩;exact⟨rfl,h⟩
 simp;refine zF0 (.int .i64 (nd.high:Nat)) (fun k' w' hS=>?_) ?_
 ·obtain⟨M',JA,h'⟩:=hS;simp[zA (cell h'),en,zAB]
 simp;refine zGE (ndV (at_ n ns nd.high)) (fun w' hS=>?_) ?_
 ·simp;refine zG (callA nd.high rh w' hS) ?_;rintro v w'' ⟨rfl,h⟩;exact⟨rfl,h⟩
 simp[ndV,en,zAB];refine zF0 (.int .i64 (nd.v:Nat)) (fun k' w' hS=>?_) ?_
 ·obtain⟨M',JA,h'⟩:=hS;simp[zA (cell h'),en,zAB]
 simp(disch:=omega)[zH];refine zGE (zAc (min (min (cnt n ns nd.high) many*2^(tv n ns nd.high-nd.v-1)) many)) (fun w' hS=>?_) ?_
 ·simp[zAc];have e1:(((at_ n ns nd.high).v:Int)-nd.v-1)=((tv n ns nd.high-nd.v-1:Nat):Int):=by have:tv n ns nd.high=(at_ n ns nd.high).v:=rfl;omega
  rw[e1];refine zG (callT (min (cnt n ns nd.high) many) (tv n ns nd.high-nd.v-1) (by omega) (by omega) w' hS) ?_;rintro v w'' ⟨rfl,h⟩;exact⟨rfl,h⟩
 have JI:=zKb hw JB hf;rw[<-JG,etv] at JI;simp(disch:=omega)[zAc,zH];intro w' M' JA h';have ev:(min (((min (min (cnt n ns nd.low) many*2^(tv n ns nd.low-nd.v-1)) many:Nat):Int)+((min (min (cnt n ns nd.high) many*2^(tv n ns nd.high-nd.v-1)) many:Nat):Int)) 1099511627777:Int)=((min (cnt n ns f) many:Nat):Int):=by rw[zEJ,zEJ,JI,<-zPl];omega
 rw[ev];have JS:M'.length<=1048578:=zDf (ns:=ns) (N:=1048578) (by omega) (fun q hq=>(JA q hq).1) (zAw.nodup h'.drop.map);refine At.put (x:=f) (v:=min (cnt n ns f) many) (Lcl.mgr.star JD) h'.rot zBm Tryz.underlying159 (show zY f by unfold zY;omega) (by unfold maxLen;omega) fun JQ JP=>?_;simp;refine⟨rfl,_,?_,(JP.rot).by (Imp.un (Imp.un Imp.dr))⟩;intro q hq;rcases zBW hq with h1|rfl
 ·exact JA q h1
 ·exact⟨hf,rfl⟩
def zQT(x:Nat):Value:=if x<many then okV x else zFO 5
theorem zLt{w w1:World}{F:List Nat}{B:Asr}(m n lim:Nat)(ns:Ns)(f:Nat)(hB:Lcl B)(hA:At w F (zC (zj m n lim ns) B) w1)(hw:Wf n ns)(hb:Bnd n lim ns)(hf:Ref ns f) :
  Calls Tryz.prog 101 [.pointer (some ⟨m,0,none⟩),.int .i64 (f:Nat)].toArray w1 fun e w'=>∃x,e=.returned x/\x=zQT (num n 0 fun a=>eval ns a f)/\At w F (zC (zj m n lim ns) B) w':=by
 have JE:=hb.hn;have JA:many=1099511627777:=rfl;refine enter Tryz.func101 mixed low101 (Nat.le_of_ble_eq_true rfl) ?_;simp only[L101];have hl:Lcl (zC (zj m n lim ns) B):=Lcl.mgr.star hB;have h1:=zEK (xs:=[(f:Int)]) (cs:=#[.int .i64 f]) hl hA rfl (by simp) rfl;simp[zW];refine zG (zCb m n lim ns _ [(f:Int)] _ (zj.rd h1.drop) hb h1.own.vw (by simp)) ?_;rintro u w2 ⟨rfl,k2⟩;have h2:=(h1.drop).kp0 hl k2;have hr:[(f:Int)].all (zFj ns)=true:=by unfold Ref at hf;simp[zFj];omega
 rw[hr];have h3:=(h2.newmap (ek:=zAc) (ev:=zAc) (ok:=zY) hl).rot;simp[zFQ];refine zG (zOD m n lim _ ns hw hb w F f f [] B _ hB hf (Nat.le_refl _) (fun q hq=>by cases hq) h3) ?_;rintro _ w4 ⟨rfl,M',JF,h4⟩;have h5:=h4.by (Imp.un Imp.dr);have JD:=hw.tv_le hf;simp;refine zG (zBR m n lim f ns w4 (zj.rd h5) hb hf) ?_;rintro _ w6 ⟨rfl,k6⟩;have h6:=h5.kp0 hl k6;have etv:tv n ns f=(at_ n ns f).v:=rfl;simp[ndV,en,zAB,zAc];refine zG (zFv (min (cnt n ns f) many) (at_ n ns f).v w6 (by omega) (by omega)) ?_;rintro _ w7 ⟨rfl,k7⟩;have h7:=h6.kp0 hl k7;have hc:=zTh hw hf;rw[etv] at hc;obtain⟨c,JC⟩:∃c,c=num n 0 fun a=>eval ns a f:=⟨_,rfl⟩;rw[<-JC] at hc ⊢;have e:min (min (cnt n ns f) many*2^(at_ n ns f).v) many=min c many:=by rw[zEJ,hc]
 rw[e];by_cases JB:c<many
 ·have h8:¬(1099511627777:Int)<=((min c many:Nat):Int):=by omega
  have h9:min c many=c:=by omega
  simp[h8];rw[h9];exact⟨by simp[zQT,JB,okV],h7⟩
 ·have h8:(1099511627777:Int)<=((min c many:Nat):Int):=by omega
  simp[h8];exact⟨by simp[zQT,JB,zFO,zu],h7⟩
end
end Go.Proofs.YtolkjbmcindhjaaGreat
namespace Go.Bd
section
def ex1:Ns:=[⟨0,0,1⟩]
def ex2:Ns:=[⟨0,0,1⟩,⟨1,0,1⟩]
end
end Go.Bd
namespace Go.Proofs.YtolkjbmcindhjaaGreat
section
open Go Go.W Go.Bd Go.Maps
theorem zVa{w:World}{xs:List Int}{cs:Array Value}{k:Nat}(JA:cs.toList=xs.flatMap iv)(hx:xs.length<=1000000)(hk:k=xs.length) :
  Vw (w.alloc (.cells cs 3)) (.slice (some ⟨w.heap.size,0,none⟩) k k) iv xs :=
 (zEK Lcl.emp (At.start (A:=Emp) (F:=[]) (w:=w) rfl) JA hx hk).own.vw
theorem zFK{m n lim:Nat}{ns:Ns}{w:World}(xs:List Int){cs:Array Value}{k:Nat}(h:zOx w m n lim ns)(hb:Bnd n lim ns)(JA:cs.toList=xs.flatMap iv)(hx:xs.length<=1000000)(hk:k=xs.length) :
  Calls Tryz.prog 150 [.pointer (some ⟨m,0,none⟩),.slice (some ⟨w.heap.size,0,none⟩) k k].toArray (w.alloc (.cells cs 3)) fun e w'=>∃x,e=.returned x/\x=zFQ (xs.all (zFj ns))/\Kp [] w w':=by
 have ka:Kp [] w (w.alloc (.cells cs 3)):=(Kp.refl _ _).alloc _;refine(zCb m n lim ns _ xs _ (h.kp0 ka) hb (zVa JA hx hk) hx).mono ?_;rintro e w' ⟨v,rfl,rfl,k⟩;exact⟨_,rfl,rfl,ka.trans0 k⟩
section
variable {m n lim:Nat} {ns:Ns} {w:World}
theorem zNy(f:Nat)(u:Value)(bs:List Bool)(h:zOx w m n lim ns)(hb:Bnd n lim ns)(hw:Wf n ns)(hf:Ref ns f)(hu:Vw w u bv bs)(hn:bs.length<=1000000) :
  Calls Tryz.prog 102 [.pointer (some ⟨m,0,none⟩),.int .i64 (f:Nat),u].toArray w fun e w'=>∃x,e=.returned x/\x=.tuple #[.bool (eval ns (inB bs) f),.nilIface]/\Kp [] w w':=by
 obtain⟨JK,JL,JI⟩:=hb;refine enter Tryz.func102 mixed low102 (Nat.le_of_ble_eq_true rfl) ?_;simp only[L102];simp[zW];refine zG (zFK [(f:Int)] h ⟨JK,JL,JI⟩ rfl (by simp) rfl) ?_;rintro _ w2 ⟨rfl,k2⟩;have hr:[(f:Int)].all (zFj ns)=true:=by unfold Ref at hf;simp[zFj];omega
 rw[hr];simp[zFQ];refine z8 (fun q ρ w1=>ρ 0=.pointer (some ⟨m,0,none⟩)/\ρ 1=.int .i64 (q:Nat)/\ρ 2=u/\Ref ns q/\eval ns (inB bs) q=eval ns (inB bs) f/\Kp [] w w1) f ⟨by simp,by simp,by simp,hf,rfl,k2⟩ ?_;rintro q ρ w1 ⟨g0,g1,g2,hq,he,kp⟩;by_cases h2:q<2
 ·have JH:¬(1:Int)<q:=by omega
  have JB:¬1<q:=by omega
  simp[g0,g1,g2,JH,JB];refine⟨?_,kp⟩;rw[<-he];have:q=0\/q=1:=by omega
  rcases this with rfl|rfl
  ·rw[zN];rfl
  ·rw[zg];rfl
 ·have JH:(1:Int)<q:=by omega
  have JB:1<q:=by omega
  have JR:q<ns.length+2:=hq;simp[g0,g1,g2,JH,JB];refine zG (zBR m n lim q ns w1 (h.kp0 kp) ⟨JK,JL,JI⟩ hq) ?_;rintro _ w3 ⟨rfl,k3⟩;have JM:=kp.trans0 k3;have l1:=hw.lt_low (by omega) hq;have l2:=hw.lt_high (by omega) hq;have rl:=hw.ref_low hq;have rh:=hw.ref_high hq;have ee:=zl hw (inB bs) (by omega) hq;have tvn:=hw.tv_var (by omega) hq;have etv:tv n ns q=(at_ n ns q).v:=rfl;obtain⟨nd,JN⟩:∃nd,nd=at_ n ns q:=⟨_,rfl⟩;rw[<-JN] at l1 l2 rl rh ee etv ⊢;simp[ndV,zCm];refine zMI zO (by simp[en,zAB]) (by simp[en,zAB]) ?_;intro w4 JO JQ JC;have JD:Kp [] w w4:=JM.trans0 (((Kp.refl [] w3).alloc _).trans' JO (fun x hx=>.inr (by simp at hx;omega)));have JF:=hu.kp0 JD;have e3:zBh #[.int .i64 0,.int .i64 0,.int .i64 0] 0 (en nd)=(en nd).toArray:=by simp[en,zAB]
  rw[e3] at JC;simp[zA JC,en,zAB,g2,JF.len];by_cases hv:nd.v<bs.length
  ·have JE:(nd.v:Int)<bs.length:=by omega
   have JA:bs[nd.v]? = some bs[nd.v]:=List.getElem?_eq_getElem hv;obtain⟨bb,JP⟩:∃bb,bb=bs[nd.v]:=⟨_,rfl⟩;rw[<-JP] at JA;have JG:inB bs nd.v=bb:=by simp[inB,List.getD,JA]
   simp(disch:=omega)[hv,JE,JF.idx,zOV JF JA,zA JC,g2,en,zAB];rw[JG] at ee;cases bb with
   |true =>simp[zA JC,g0,g1,g2,en,zAB];exact⟨nd.high,by omega,rfl,rh,by rw[<-he,ee];rfl,JD⟩
   |false =>simp[zA JC,g0,g1,g2,en,zAB];exact⟨nd.low,by omega,rfl,rl,by rw[<-he,ee];rfl,JD⟩
  ·have JE:¬(nd.v:Int)<bs.length:=by omega
   have JG:inB bs nd.v=false:=by simp[inB,List.getD,List.getElem?_eq_none (Nat.le_of_not_lt hv)]
   rw[JG] at ee;simp[hv,JE,g0,g1,g2];exact⟨nd.low,by omega,rfl,rl,by rw[<-he,ee];rfl,JD⟩
end
end
section
open Go Go.W Go.Bd Go.Maps
theorem zWc(w:World):(zeroValue 4).run Tryz.prog w=.ok (.bool false) w:=Tryz.zeroValue4 w
abbrev zJP(b:Nat)(M:zLr):Asr:=zIJ b zAc Value.bool zY M
theorem zP8{M:zLr}{x:Nat}(ha:∀q∈M,q.2=true):(((zBw M x).map Value.bool).getD (.bool false))=.bool (decide (x∈zB4 M)):=by
 cases h:zBw M x with
 |some r =>have h1:=zFA h;have h2:=ha _ h1;simp only at h2;have:x∈zB4 M:=List.mem_map.2 ⟨_,h1,rfl⟩;simp[h2,this]
 |none =>
  have:x∉zB4 M:=fun hx=>by obtain⟨q,hq,e⟩:=List.mem_map.1 hx;simp only[zBw,Option.map_eq_none_iff,List.find?_eq_none] at h;exact h q hq (by simp[e])
  simp[this]
theorem zEn{M:zLr}{x y:Nat}:y∈zB4 (zB5 M x true)<->y∈zB4 M\/y=x:=by
 unfold zB5 zB4;split
 ·rename_i h;rw[List.any_eq_true] at h;obtain⟨p,hp,e⟩:=h;have e:p.1=x:=by simpa using e
  constructor
  ·intro hy;obtain⟨q,hq,rfl⟩:=List.mem_map.1 hy;obtain⟨p',JA,e'⟩:=List.mem_map.1 hq;split at e'
   ·exact .inr (by rw[<-e'])
   ·exact .inl (by rw[<-e'];exact List.mem_map.2 ⟨_,JA,rfl⟩)
  ·have key:∀y,y∈M.map (·.1)->y∈(M.map fun p=>if p.1=x then(x,true) else p).map (·.1):=fun y hy=>by
    obtain⟨q,hq,rfl⟩:=List.mem_map.1 hy;refine List.mem_map.2 ⟨_,List.mem_map.2 ⟨q,hq,rfl⟩,?_⟩;split
    ·rename_i h;exact h.symm
    ·rfl
   rintro (hy|rfl)
   ·exact key y hy
   ·exact key y (List.mem_map.2 ⟨p,hp,e⟩)
 ·simp
theorem zJx{M:zLr}{x:Nat}(ha:∀q∈M,q.2=true):∀q∈zB5 M x true,q.2=true:=fun q hq=>by
 rcases zBW hq with h|rfl
 ·exact ha q h
 ·rfl
theorem zLP{ns:Ns}{M:zLr}{N:Nat}(hN:ns.length+2<=N)(hr:∀x∈zB4 M,Ref ns x)(hn:(M.map (·.1)).Nodup):M.length<=N:=by
 have:=zAG _ (List.range N) hn (fun x hx=>by have:=hr x hx;unfold Ref at this;exact List.mem_range.2 (by omega));simpa using this
def RPost(m n lim:Nat)(ns:Ns)(f b:Nat)(M:zLr)(B:Asr)(w:World)(F:List Nat)(w':World):Prop :=
 ∃M',ROk n ns f M M'/\(∀x∈zB4 M',Ref ns x)/\At w F (zC (zj m n lim ns) (zC (zJP b M') B)) w'
theorem zMh(m n lim b:Nat)(ns:Ns)(hw:Wf n ns)(hb:Bnd n lim ns)(w:World)(F:List Nat)(B:Asr)(hB:Lcl B):∀(d f:Nat) (M:zLr) (w1:World),Ref ns f->f<=d->(∀q∈M,q.2=true)->(∀x∈zB4 M,Ref ns x) ->
  At w F (zC (zj m n lim ns) (zC (zJP b M) B)) w1 ->
  Calls Tryz.prog 211 [.pointer (some ⟨m,0,none⟩),.int .i64 (f:Nat),.map (some b)].toArray w1 fun e w'=>∃v,e=.returned v/\RPost m n lim ns f b M B w F w':=by
 intro d
 induction d using Nat.strongRecOn with
 |ind d ih =>
 intro f M w1 hf hd hM hR hA;obtain⟨JH,JI,JG⟩:=hb;have JE:Bnd n lim ns:=⟨JH,JI,JG⟩;have JF:∀M,Lcl (zC (zj m n lim ns) (zC (zJP b M) B)):=fun M=>Lcl.mgr.star (Lcl.map.star hB);have JN:f<=1048578:=by unfold Ref at hf;omega
 have JD:zY f:=by unfold zY;omega
 refine enter Tryz.func211 mixed low211 (Nat.le_of_ble_eq_true rfl) ?_;simp only[L211];by_cases h2:f<2
 ·have JA:(f:Int)<2:=by omega
  simp[JA];exact⟨M,ROk.same (.inl h2) hM,hR,hA⟩
 have JA:¬(f:Int)<2:=by omega
 simp[JA];refine zAw.look1 (x:=f) hA.drop.map zBm Tryz.underlying147 zWc JD ?_;rw[zP8 hM];by_cases JB:f∈zB4 M
 ·simp[JB,JA];exact⟨M,ROk.same (.inr JB) hM,hR,hA⟩
 simp[JB,JA];have JC:2<=f:=by omega
 have l1:=hw.lt_low JC hf;have l2:=hw.lt_high JC hf;have rl:=hw.ref_low hf;have rh:=hw.ref_high hf;have JO:M.length<=1048578:=zLP (ns:=ns) (N:=1048578) (by omega) hR (zAw.nodup hA.drop.map);refine At.put (x:=f) (v:=true) (Lcl.mgr.star hB) hA.rot zBm Tryz.underlying147 JD (by unfold maxLen;omega) fun w2 h2=>?_;have h3:=h2.rot;simp;refine zG (zBR m n lim f ns w2 (zj.rd h3) JE hf) ?_;rintro _ w3 ⟨rfl,k3⟩;have h4:=h3.kp0 (JF _) k3;simp[ndV,en,zAB];have JM:∀x∈zB4 (zB5 M f true),Ref ns x:=fun x hx=>by
  rcases zEn.1 hx with h|rfl
  ·exact hR x h
  ·exact hf
 refine zG (ih (d-1) (by omega) (at_ n ns f).low _ w3 rl (by omega) (zJx hM) JM h4) ?_;rintro v4 w4 ⟨M2,o2,JL,h5⟩;simp;refine zG (zBR m n lim f ns w4 (zj.rd h5) JE hf) ?_;rintro _ w5 ⟨rfl,k5⟩;have h6:=h5.kp0 (JF _) k5;simp[ndV,en,zAB];refine zG (ih (d-1) (by omega) (at_ n ns f).high _ w5 rh (by omega) o2.all JL h6) ?_;rintro v6 w6 ⟨M3,o3,JK,h7⟩;simp;exact⟨M3,ROk.node JC (fun x=>zEn) o2 o3,JK,h7⟩
end
section
open Go Go.W Go.Bd Go.Maps
def zWv(m n lim:Nat)(S:Nat->Nat->Prop)(xs:List Int)(vv:Value)(ns:Ns)(f g:Nat)(B:Asr)(w:World)(F:List Nat)(v:Value)(w':World):Prop :=
 ∃r1 r ns1 ns' M',v=zBH r/\zJS n lim 0 S ns f g r1 ns1/\(r1=none->r=none/\ns'=ns1)/\(∀y,r1=some y->QOk n lim 1 (inB (zAZ n xs)) ns1 y r ns' M')/\At w F (zC (zj m n lim ns') (zC (VwA vv iv xs) B)) w'
theorem zCo{w w1:World}{F:List Nat}{B:Asr}(m n lim:Nat)(ns:Ns)(f g:Nat)(S:Nat->Nat->Prop)(v:Value)(xs:List Int)(hB:Lcl B)(hA:At w F (zC (zj m n lim ns) (zC (VwA v iv xs) B)) w1)(hw:Wf n ns)(hb:Bnd n lim ns)(hf:Ref ns f)(hg:Ref ns g)(hC:Clo n 0 ns S)(hS:Sn 0 S f g)
  (hx:xs.length<=1000000) (hv:xs.all (varB n)=true) :
  Calls Tryz.prog 95 [.pointer (some ⟨m,0,none⟩),.int .i64 (f:Nat),.int .i64 (g:Nat),v].toArray w1 fun e w'=>∃x,e=.returned x/\zWv m n lim S xs v ns f g B w F x w':=by
 refine enter Tryz.func95 mixed low95 (Nat.le_of_ble_eq_true rfl) ?_;simp only[L95];have JB:Lcl (zC (VwA v iv xs) B):=Lcl.vw.star hB;have hl:Lcl (zC (zj m n lim ns) (zC (VwA v iv xs) B)):=Lcl.mgr.star JB;simp[zW];refine zG (zFK [(f:Int),(g:Int)] (zj.rd hA) hb rfl (by simp) rfl) ?_;rintro u w2 ⟨rfl,k2⟩;have h2:=hA.kp0 hl k2;have hr:[(f:Int),(g:Int)].all (zFj ns)=true:=by unfold Ref at hf hg;simp[zFj];omega
 rw[hr];simp[zFQ];refine zG (zCl m n lim ns v xs _ (zj.rd h2) h2.drop.vw hx) ?_;rintro u w3 ⟨rfl,k3⟩;have h3:=h2.kp0 hl k3;rw[hv];simp[zFQ];refine zG (zKj (zAe m n lim ns 0 f g S (by omega) JB h3 hw hb hf hg hC hS) (by rintro _ _ ⟨r,_,rfl,_⟩;exact zBX r)) ?_;rintro _ w4 ⟨r1,ns1,rfl,JA,h4⟩;cases r1 with
 |none =>simp[zBH,zFO,zu];exact⟨none,none,ns1,ns1,[],rfl,JA,fun _=>⟨rfl,rfl⟩,fun y hy=>(by cases hy),h4⟩
 |some y =>
  have JC:Bnd n lim ns1:=⟨hb.hn,hb.hl,JA.lim⟩;simp[zBH,okV];refine zG (zNv (zEl m n lim ns1 1 y v xs (by omega) hB h4 JA.ext.wf JC (JA.ok y rfl).1 hx hv) (by rintro _ _ ⟨r,_,_,rfl,_⟩;exact zBX r)) ?_;rintro _ w5 ⟨r,ns2,M2,rfl,hq,h5⟩;cases r with
  |none=>simp[zBH,zFO,zu];exact⟨some y,none,ns1,ns2,M2,rfl,JA,fun h=>(by cases h),fun z hz=>by cases hz;exact hq,h5⟩
  |some x=>simp[zBH,okV];exact⟨some y,some x,ns1,ns2,M2,rfl,JA,fun h=>(by cases h),fun z hz=>by cases hz;exact hq,h5⟩
end
end Go.Proofs.YtolkjbmcindhjaaGreat
namespace Go.Proofs
section
open Go.Shelf
def Tryz.keys213_ren:Go.Shelf.Ren:=⟨fun|7=>213|10=>240|n=>n,fun|23=>147|26=>3|3=>4|28=>316|0=>0|27=>315|33=>191|4=>4|n=>n,fun|n=>n⟩
theorem Tryz.keys213:Go.Proofs.SlLaysZI.n7 Tryz.prog Tryz.keys213_ren:={
 mixed:=by kernel_rfl
 f7:=⟨Tryz.f213.name,by decide,Tryz.func213.trans (congrArg some (by kernel_rfl))⟩
 f10:=⟨Tryz.f240.name,by decide,Tryz.func240.trans (congrArg some (by kernel_rfl))⟩
 t0:=Tryz.underlying0
 a0:=Tryz.isAgg0
 z0:=Tryz.sizeOf0
 v0:=Tryz.zeroValue0
 t4:=Tryz.underlying4
 a4:=Tryz.isAgg4
 z4:=Tryz.sizeOf4
 v4:=Tryz.zeroValue4
 t23:=Tryz.underlying147
 a23:=Tryz.isAgg147
 z23:=Tryz.sizeOf147
 v23:=Tryz.zeroValue147
 t26:=Tryz.underlying3
 a26:=Tryz.isAgg3
 z26:=Tryz.sizeOf3
 v26:=Tryz.zeroValue3
 t27:=Tryz.underlying315
 a27:=Tryz.isAgg315
 z27:=Tryz.sizeOf315
 v27:=Tryz.zeroValue315
 t28:=Tryz.underlying316
 a28:=Tryz.isAgg316
 z28:=Tryz.sizeOf316
 v28:=Tryz.zeroValue316
 t33:=Tryz.underlying191
 a33:=Tryz.isAgg191
 z33:=Tryz.sizeOf191
 v33:=Tryz.zeroValue191 }
def Tryz.sorted212_ren:Go.Shelf.Ren:=⟨fun|6=>212|8=>239|9=>60|11=>254|13=>120|12=>119|23=>182|24=>183|14=>173|15=>174|16=>175|17=>176|18=>177|19=>178|20=>179|21=>180|22=>181|25=>221|26=>222|27=>223|28=>224|29=>225|30=>209|31=>246|n=>n,fun|26=>3|28=>316|24=>22|0=>0|3=>3|37=>205|48=>285|50=>287|4=>4|40=>278|39=>277|45=>248|5=>5|9=>9|51=>325|55=>329|57=>346|58=>347|33=>191|n=>n,fun|n=>n⟩
theorem Tryz.sorted212:Go.Proofs.SlLaysZI.n6 Tryz.prog Tryz.sorted212_ren:={
 mixed:=by kernel_rfl
 f6:=⟨Tryz.f212.name,by decide,Tryz.func212.trans (congrArg some (by kernel_rfl))⟩
 f8:=⟨Tryz.f239.name,by decide,Tryz.func239.trans (congrArg some (by kernel_rfl))⟩
 f11:=⟨Tryz.f254.name,by decide,Tryz.func254.trans (congrArg some (by kernel_rfl))⟩
 t0:=Tryz.underlying0
 a0:=Tryz.isAgg0
 z0:=Tryz.sizeOf0
 v0:=Tryz.zeroValue0
 t24:=Tryz.underlying22
 a24:=Tryz.isAgg22
 z24:=Tryz.sizeOf22
 v24:=Tryz.zeroValue22
 t26:=Tryz.underlying3
 a26:=Tryz.isAgg3
 z26:=Tryz.sizeOf3
 v26:=Tryz.zeroValue3
 t28:=Tryz.underlying316
 a28:=Tryz.isAgg316
 z28:=Tryz.sizeOf316
 v28:=Tryz.zeroValue316
 i26:=by kernel_rfl }
def Tryz.sort60_ren:Go.Shelf.Ren:=⟨fun|5=>60|8=>120|7=>119|19=>182|20=>183|10=>173|11=>174|12=>175|13=>176|14=>177|15=>178|16=>179|17=>180|18=>181|30=>221|31=>222|32=>223|33=>224|34=>225|35=>209|40=>246|n=>n,fun|23=>22|25=>3|3=>3|32=>205|22=>22|0=>0|44=>285|46=>287|4=>4|36=>278|35=>277|41=>248|5=>5|9=>9|53=>325|57=>329|63=>346|64=>347|n=>n,fun|n=>n⟩
theorem Tryz.sort60:Go.Proofs.SlLaysM.n5 Tryz.prog Tryz.sort60_ren:={
 mixed:=by kernel_rfl
 f5:=⟨Tryz.f60.name,by decide,Tryz.func60.trans (congrArg some (by kernel_rfl))⟩
 f7:=⟨Tryz.f119.name,by decide,Tryz.func119.trans (congrArg some (by kernel_rfl))⟩
 f8:=Tryz.func120.trans (congrArg some (by kernel_rfl))
 f10:=⟨Tryz.f173.name,by decide,Tryz.func173.trans (congrArg some (by kernel_rfl))⟩
 f11:=⟨Tryz.f174.name,by decide,Tryz.func174.trans (congrArg some (by kernel_rfl))⟩
 f12:=⟨Tryz.f175.name,by decide,Tryz.func175.trans (congrArg some (by kernel_rfl))⟩
 f13:=⟨Tryz.f176.name,by decide,Tryz.func176.trans (congrArg some (by kernel_rfl))⟩
 f14:=⟨Tryz.f177.name,by decide,Tryz.func177.trans (congrArg some (by kernel_rfl))⟩
 f15:=⟨Tryz.f178.name,by decide,Tryz.func178.trans (congrArg some (by kernel_rfl))⟩
 f16:=⟨Tryz.f179.name,by decide,Tryz.func179.trans (congrArg some (by kernel_rfl))⟩
 f17:=⟨Tryz.f180.name,by decide,Tryz.func180.trans (congrArg some (by kernel_rfl))⟩
 f18:=⟨Tryz.f181.name,by decide,Tryz.func181.trans (congrArg some (by kernel_rfl))⟩
 f19:=Tryz.func182.trans (congrArg some (by kernel_rfl))
 f20:=Tryz.func183.trans (congrArg some (by kernel_rfl))
 f30:=⟨Tryz.f221.name,by decide,Tryz.func221.trans (congrArg some (by kernel_rfl))⟩
 f31:=Tryz.func222.trans (congrArg some (by kernel_rfl))
 f32:=Tryz.func223.trans (congrArg some (by kernel_rfl))
 f33:=⟨Tryz.f224.name,by decide,Tryz.func224.trans (congrArg some (by kernel_rfl))⟩
 f34:=⟨Tryz.f225.name,by decide,Tryz.func225.trans (congrArg some (by kernel_rfl))⟩
 f35:=⟨Tryz.f209.name,by decide,Tryz.func209.trans (congrArg some (by kernel_rfl))⟩
 f40:=⟨Tryz.f246.name,by decide,Tryz.func246.trans (congrArg some (by kernel_rfl))⟩
 t0:=Tryz.underlying0
 a0:=Tryz.isAgg0
 z0:=Tryz.sizeOf0
 v0:=Tryz.zeroValue0
 t3:=Tryz.underlying3
 a3:=Tryz.isAgg3
 z3:=Tryz.sizeOf3
 v3:=Tryz.zeroValue3
 t4:=Tryz.underlying4
 a4:=Tryz.isAgg4
 z4:=Tryz.sizeOf4
 v4:=Tryz.zeroValue4
 t5:=Tryz.underlying5
 a5:=Tryz.isAgg5
 z5:=Tryz.sizeOf5
 v5:=Tryz.zeroValue5
 t9:=Tryz.underlying9
 a9:=Tryz.isAgg9
 z9:=Tryz.sizeOf9
 v9:=Tryz.zeroValue9
 t22:=Tryz.underlying22
 a22:=Tryz.isAgg22
 z22:=Tryz.sizeOf22
 v22:=Tryz.zeroValue22
 t23:=Tryz.underlying22
 a23:=Tryz.isAgg22
 z23:=Tryz.sizeOf22
 v23:=Tryz.zeroValue22
 t25:=Tryz.underlying3
 a25:=Tryz.isAgg3
 z25:=Tryz.sizeOf3
 v25:=Tryz.zeroValue3
 t32:=Tryz.underlying205
 a32:=Tryz.isAgg205
 z32:=Tryz.sizeOf205
 v32:=Tryz.zeroValue205
 t35:=Tryz.underlying277
 a35:=Tryz.isAgg277
 z35:=Tryz.sizeOf277
 v35:=Tryz.zeroValue277
 t36:=Tryz.underlying278
 a36:=Tryz.isAgg278
 z36:=Tryz.sizeOf278
 v36:=Tryz.zeroValue278
 t41:=Tryz.underlying248
 a41:=Tryz.isAgg248
 z41:=Tryz.sizeOf248
 v41:=Tryz.zeroValue248
 t44:=Tryz.underlying285
 a44:=Tryz.isAgg285
 z44:=Tryz.sizeOf285
 v44:=Tryz.zeroValue285
 t46:=Tryz.underlying287
 a46:=Tryz.isAgg287
 z46:=Tryz.sizeOf287
 v46:=Tryz.zeroValue287
 t53:=Tryz.underlying325
 a53:=Tryz.isAgg325
 z53:=Tryz.sizeOf325
 v53:=Tryz.zeroValue325
 t57:=Tryz.underlying329
 a57:=Tryz.isAgg329
 z57:=Tryz.sizeOf329
 v57:=Tryz.zeroValue329
 t63:=Tryz.underlying346
 a63:=Tryz.isAgg346
 z63:=Tryz.sizeOf346
 v63:=Tryz.zeroValue346
 t64:=Tryz.underlying347
 a64:=Tryz.isAgg347
 z64:=Tryz.sizeOf347
 v64:=Tryz.zeroValue347 }
end
end Go.Proofs
section
namespace Go.Proofs
open Go.RowKit Go.Maps Go.Sort Go.Shelf
theorem Tryz.sorts212(m:Nat):AnyZI.SortsIn Tryz.prog Tryz.sorted212_ren Fence.wide m :=
 ⟨fun blk off cap ss W hH JA JB=>callsIn_wide.2 (AnyM.slices_Sort_int Tryz.sort60 blk off cap ss W hH JA JB),
  fun p cap W=>callsIn_wide.2 (AnyM.slices_Sort_int_none Tryz.sort60 p cap W)⟩
theorem Tryz.maps_Keys_213(mb:Option Nat)(W:World):CallsIn Fence.wide 5 Tryz.prog 213 #[.map mb] W fun e w'=>e=.returned (.func (.func 240) #[] #[.pointer (some ⟨W.heap.size,0,none⟩)])/\w'=W.alloc (.cells #[.map mb] 147) :=
 AnyZI.keys_in Tryz.keys213 Fence.wide 5 trivial rfl mb W
theorem Tryz.sorted_keys_213{H:Type}(b nn:Nat)(D0:DataW H)(R:Value->Option (DataW H×List MemPlace))(w:World)(JB:w.ownsMap Tryz.prog 3 R b nn D0)(JD:Maps.size D0<=maxLen)(JA:Maps.size D0*8<=140737488355328) :
  CallsIn Fence.wide 5 Tryz.prog 212 #[.func (.func 240) #[] #[.pointer (some ⟨w.heap.size,0,none⟩)]] (w.alloc (.cells #[.map (some b)] 147)) fun e w'=>∃(v:Value) (ss:List Int),e=.returned v/\ss.Perm (intKeys D0) /\
   w'.ownsRow (w.alloc (.cells #[.map (some b)] 147)).heap.size 3 1 v ss.length ((ss.mergeSort (fun x y=>decide (x<=y))).map encZ)/\(v=.slice none 0 0<->ss=[])/\Below (w.alloc (.cells #[.map (some b)] 147)).heap.size (w.alloc (.cells #[.map (some b)] 147)) w':=by
 have JE:=JB.lt;have JC:SeqGives Fence.wide 2 Tryz.prog 240 #[.pointer (some ⟨w.heap.size,0,none⟩)] encZ (fun ss=>ss.Perm (intKeys D0)) (Maps.size D0) (w.alloc (.cells #[.map (some b)] 147)) :=
  AnyZI.keys_gives (ρ:=Tryz.keys213_ren) { Tryz.keys213 with } Fence.wide _ trivial rfl (by omega) w.heap.size b nn D0 _ (by simp) (by simp) (by obtain⟨es,clock,hb,Ft,hs,hD⟩:=JB;exact⟨es,clock,(Below.heap_alloc _ _ b JE).trans hb,Ft,hs,hD⟩)
 exact AnyZI.sorted_in Tryz.sorted212 Fence.wide 5 trivial trivial trivial trivial rfl (by omega) (Tryz.sorts212 _) (enters_of Tryz.func60 (by kernel_rfl) rfl) 240 #[.pointer (some ⟨w.heap.size,0,none⟩)] trivial (enters_of Tryz.func240 (by kernel_rfl) rfl) _ _ JD JA _ JC
end Go.Proofs
namespace Go.Proofs.YtolkjbmcindhjaaGreat
open Go Go.W Go.Bd Go.Maps
open Go.WideElems (Fit rd rg)
theorem zMU{w:World}{b:Nat}{M:zLr}(h:zAw w b zAc Value.bool zY M) :
  ∃D0:DataW Unit,w.ownsMap Tryz.prog 3 (plainElem Tryz.prog 4) b M.length D0/\(intKeys D0).Perm ((zB4 M).map fun n:Nat=>(n:Int))/\Maps.size D0=M.length:=by
 obtain⟨es',clock,hb,JE,JC,JD,JI,JF⟩:=h
 let g:Value×Value->Lit×DataW Unit:=fun q=>(((keyOf Tryz.prog 3 q.1).bind fun key=>(plainElem (H:=Unit) Tryz.prog 4 q.2).map fun y=>(key,y.1)).getD (.bool false,.nil))
 have JH:∀x:MapEntry,rg (H:=Unit) Tryz.prog 3 (plainElem Tryz.prog 4) x=g (x.key,x.val):=fun x=>rfl;have JG:es'.toList.map (rg (H:=Unit) Tryz.prog 3 (plainElem Tryz.prog 4))=M.map fun p=>g (zAc p.1,.bool p.2):=by
  have:es'.toList.map (rg (H:=Unit) Tryz.prog 3 (plainElem Tryz.prog 4))=(es'.toList.map fun x=>(x.key,x.val)).map g:=by rw[List.map_map];rfl
  rw[this,JC,List.map_map];rfl
 have hk:∀x:Nat,zY x->keyOf Tryz.prog 3 (zAc x)=some (.int .i64 x):=fun x hx=>keyOf_int_mk Tryz.underlying3 (zL4 hx);have hg:∀p∈M,g (zAc p.1,.bool p.2)=(.int .i64 p.1,.lit (.bool p.2)):=fun p hp=>by show(((keyOf Tryz.prog 3 (zAc p.1)).bind fun key=>(plainElem (H:=Unit) Tryz.prog 4 (.bool p.2)).map fun y=>(key,y.1)).getD (.bool false,.nil))=_;rw[hk _ (JD p hp),plainElem_bool Tryz.underlying4];rfl
 have JA:=WideShapes.sorted_perm (es'.toList.map (rg (H:=Unit) Tryz.prog 3 (plainElem Tryz.prog 4)));have e1:es'.size=M.length:=by have:=congrArg List.length JC;simpa using this
 refine⟨_,⟨es',clock,hb,⟨JE,JF,fun x hx=>?_⟩,by omega,rfl⟩,?_,?_⟩
 ·obtain⟨j,hj⟩:=List.getElem?_of_mem hx;have:=congrArg (·[j]?) JC;simp only[List.getElem?_map,hj,Option.map_some] at this;cases JB:M[j]? with
  |none=>rw[JB] at this;cases this
  |some p =>rw[JB] at this;simp only[Option.map_some,Option.some.injEq,Prod.mk.injEq] at this;have hm:=List.mem_of_getElem? JB;refine⟨(.int .i64 p.1,.lit (.bool p.2)),?_⟩;unfold rd;rw[this.1,this.2,hk _ (JD p hm),plainElem_bool Tryz.underlying4];rfl
 ·have:((zB4 M).map fun n:Nat=>(n:Int))=(es'.toList.map (rg (H:=Unit) Tryz.prog 3 (plainElem Tryz.prog 4))).map (fun p=>Go.intOf p.1):=by rw[JG,List.map_map,zB4,List.map_map];refine List.map_congr_left fun p hp=>?_;simp only[Function.comp];rw[hg p hp];rfl
  rw[this];exact JA.map _
 ·show(List.foldr DataW.insert [] _).length=_;rw[JA.length_eq,List.length_map];simpa using e1
theorem zTI(ss:List Int):ss.flatMap iv=ss.map encZ:=by
 induction ss with
 |nil=>rfl
 |cons a l ih=>simp only[List.map_cons,List.flatMap_cons,ih];rfl
theorem zLJ{w:World}{base:Nat}{v:Value}{ss:List Int}(h:w.ownsRow base 3 1 v ss.length (ss.map encZ)):Own w v 3 1 iv ss/\(∀x∈v.own,base<=x):=by
 rcases h.2 with⟨rfl,h0⟩|⟨g,cap,cur,rfl,hg,hb,h1,h2,h3,h4⟩
 ·have:ss=[]:=List.length_eq_zero_iff.1 h0;subst this;exact⟨.inl ⟨rfl,rfl⟩,by simp⟩
 ·refine⟨.inr ⟨g,cap,cur,cur.toList.drop ss.length,rfl,hb,?_,?_,by simpa using h1,h2⟩,by simpa using hg⟩
  ·rw[zTI,<-h4,Nat.mul_one,List.take_append_drop]
  ·simp;omega
theorem zPu{w w':World}(h:Go.RowKit.Below w.heap.size w w'):Kp [] w w':=⟨h.os,h.tape,h.output,h.size,fun b hb _=>h.block b hb⟩
structure SupI(n:Nat)(ns:Ns)(vis V:zLr):Prop where
 has:∀x,x∈zB4 V<->∃p∈vis,x=tv n ns p.1
 all:∀q∈V,q.2=true
def SupP(n:Nat)(ns:Ns)(f:Nat)(L:List Int):Prop:=L.Pairwise (·<·)/\∀x:Int,x∈L<->∃y,Rch n ns f y/\x=(tv n ns y:Nat)
theorem zHN{w w1:World}{F:List Nat}{B:Asr}(m n lim:Nat)(ns:Ns)(f:Nat)(hB:Lcl B)(hA:At w F (zC (zj m n lim ns) B) w1)(hw:Wf n ns)(hb:Bnd n lim ns)(hf:Ref ns f) :
  Calls Tryz.prog 148 [.pointer (some ⟨m,0,none⟩),.int .i64 (f:Nat)].toArray w1 fun e w'=>∃x,e=.returned x/\∃(v:Value) (L:List Int),x=.tuple #[v,.nilIface]/\SupP n ns f L/\At w F (zC (zM v 3 1 iv L) (zC (zj m n lim ns) B)) w':=by
 have Jb:=hb.hn;have Jc:=hb.hl;have Ja:=hb.hs;refine enter Tryz.func148 mixed low148 (Nat.le_of_ble_eq_true rfl) ?_;simp only[L148];have hl:Lcl (zC (zj m n lim ns) B):=Lcl.mgr.star hB;simp[zW];refine zG (zFK [(f:Int)] (zj.rd hA) hb rfl (by simp) rfl) ?_;rintro u w2 ⟨rfl,k2⟩;have h2:=hA.kp0 hl k2;have hr:[(f:Int)].all (zFj ns)=true:=by unfold Ref at hf;simp[zFj];omega
 rw[hr];simp[zFQ];have h3:=h2.newmap (ek:=zAc) (ev:=Value.bool) (ok:=zY) hl;have h4:=h3.newmap (ek:=zAc) (ev:=Value.bool) (ok:=zY) (Lcl.map.star hl);obtain⟨b1,JM⟩:∃b1,b1=w2.heap.size:=⟨_,rfl⟩;obtain⟨b2,JL⟩:∃b2,b2=(w2.alloc (.map #[] 0)).heap.size:=⟨_,rfl⟩;rw[<-JL,<-JM] at h4;rw[<-JM];have eb2:w2.heap.size+1=b2:=by rw[JL];simp
 try rw[eb2]
 refine zG (zMh m n lim b1 ns hw hb w F (zC (zJP b2 []) B) (Lcl.map.star hB) f f [] _ hf (Nat.le_refl _) (fun q hq=>by cases hq) (fun q hq=>by cases hq) h4.rot.rot3) ?_;rintro _ w4 ⟨M',o,hR,h5⟩;have JV:Lcl (zC (zj m n lim ns) (zC (zJP b2 []) B)):=Lcl.mgr.star (Lcl.map.star hB);simp;refine At.range JV h5.rot Tryz.underlying147 fun w5 h6=>?_;obtain⟨r,JO⟩:∃r,r=w4.heap.size:=⟨_,rfl⟩;rw[<-JO] at h6 ⊢;simp;refine z8 (fun q ρ w5=>∃(vis V:zLr),ρ 0=.pointer (some ⟨m,0,none⟩)/\ρ 8=.map (some b2)/\ρ 24=.pointer (some ⟨r,0,none⟩)/\q=M'.length-vis.length/\SupI n ns vis V /\
  At w F (zC (zRm b1 r zAc Value.bool zY M' vis) (zC (zj m n lim ns) (zC (zJP b2 V) B))) w5) _ ⟨[],[],by simp,by simp;omega,by simp,rfl,⟨by simp[zB4],by simp⟩,h6⟩ ?_
 rintro q ρ w6 ⟨vis,V,g0,g8,JI,rfl,hI,h7⟩;have JH:∀V,Lcl (zC (zj m n lim ns) (zC (zJP b2 V) B)):=fun V=>Lcl.mgr.star (Lcl.map.star hB);simp[JI];refine At.next (JH V) zBm h7 (fun hall h8=>?_) (fun p w7 hp JZ h8=>?_)
 ·simp[g8];have hV:=h8.drop.drop.map;have JD:=zAw.nodup hV;have JE:∀x∈zB4 V,x<=n:=fun x hx=>by obtain⟨p,hp,rfl⟩:=(hI.has x).1 hx;exact hw.tv_le (hR p.1 (List.mem_map.2 ⟨p,h8.rng.sub p hp,rfl⟩))
  have JU:V.length<=257:=by have:=zAG _ (List.range (n+1)) JD (fun x hx=>List.mem_range.2 (by have:=JE x hx;omega));simp at this;omega
  obtain⟨D0,JF,JC,JN⟩:=zMU hV;refine zG (R:=fun v w'=>v=.func (.func 240) #[] #[.pointer (some ⟨w6.heap.size,0,none⟩)]/\w'=w6.alloc (.cells #[.map (some b2)] 147))
   (Calls.mono (callsIn_wide.1 (Tryz.maps_Keys_213 (some b2) w6)) (by rintro e w' ⟨rfl,rfl⟩;exact⟨_,rfl,rfl,rfl⟩)) ?_
  rintro _ _ ⟨rfl,rfl⟩;simp;refine zG (R:=fun v w'=>∃ss:List Int,ss.Perm ((zB4 V).map fun n:Nat=>(n:Int))/\Own w' v 3 1 iv (ss.mergeSort leI)/\(∀x∈v.own,w6.heap.size<=x)/\Kp [] w6 w')
   (Calls.mono (callsIn_wide.1 (Tryz.sorted_keys_213 b2 V.length D0 (plainElem Tryz.prog 4) w6 JF (by rw[JN];unfold maxLen;omega) (by rw[JN];omega))) ?_) ?_
  ·rintro e w' ⟨v,ss,rfl,hS,JB,JQ,hb⟩;have JS:ss.length=(ss.mergeSort (fun x y=>decide (x<=y))).length:=by simp
   rw[JS] at JB;obtain⟨ho,JA⟩:=zLJ JB;exact⟨v,rfl,ss,hS.trans JC,ho,fun x hx=>by have:=JA x hx;simp at this;omega,((Kp.refl [] w6).alloc _).trans0 (zPu hb)⟩
  rintro v w9 ⟨ss,hS,ho,JA,k9⟩;have h9:At w F (zC (zM v 3 1 iv (ss.mergeSort leI)) _) w9:=h8.more (Lcl.rng.star (JH V)) k9 ⟨v.own,⟨ho,rfl⟩,JA⟩;simp;refine⟨ss.mergeSort leI,?_,h9.by (Imp.un (Imp.dr.trans (Imp.un Imp.dr)))⟩;have tr:∀a b c:Int,leI a b=true->leI b c=true->leI a c=true:=fun a b c h1 h2=>by simp only[leI,decide_eq_true_eq] at *;exact Int.le_trans h1 h2
  have to:∀a b:Int,(leI a b||leI b a)=true:=fun a b=>by simp only[leI,Bool.or_eq_true,decide_eq_true_eq];exact Int.le_total a b
  have JP:=List.pairwise_mergeSort tr to ss;have JR:(ss.mergeSort leI).Nodup:=by rw[(List.mergeSort_perm ss leI).nodup_iff,hS.nodup_iff,List.nodup_iff_pairwise_ne,List.pairwise_map];exact(List.nodup_iff_pairwise_ne.1 JD).imp fun h e=>h (by omega)
  have JT:(ss.mergeSort leI).Pairwise (·<·):=by refine(JP.and (List.nodup_iff_pairwise_ne.1 JR)).imp ?_;intro a b h;obtain⟨h1,h2⟩:=h;simp only[leI,decide_eq_true_eq] at h1;omega
  refine⟨JT,fun x=>?_⟩;rw[(List.mergeSort_perm ss leI).mem_iff,hS.mem_iff,List.mem_map];constructor
  ·rintro⟨y,hy,rfl⟩;obtain⟨p,hp,rfl⟩:=(hI.has y).1 hy;exact⟨p.1,(o.all_rch p.1).1 (List.mem_map.2 ⟨p,h8.rng.sub p hp,rfl⟩),rfl⟩
  ·rintro⟨y,hy,rfl⟩;obtain⟨p,hp,rfl⟩:=List.mem_map.1 ((o.all_rch y).2 hy);exact⟨_,(hI.has _).2 ⟨p,hall p hp,rfl⟩,rfl⟩
 ·simp[JI];refine At.entry h8 ?_;have JK:Ref ns p.1:=hR p.1 (List.mem_map.2 ⟨p,hp,rfl⟩);simp[g0,g8,zAc];refine zG (zBR m n lim p.1 ns w7 (zj.rd h8.drop) hb JK) ?_;rintro _ w8 ⟨rfl,k8⟩;have h9:=(h8.kp0 (Lcl.rng.star (JH V)) k8).rot3;have hV:=h9.map;have JD:=zAw.nodup hV;have JE:∀x∈zB4 V,x<=n:=fun x hx=>by obtain⟨p,hp,rfl⟩:=(hI.has x).1 hx;exact hw.tv_le (hR p.1 (List.mem_map.2 ⟨p,h7.rng.sub p hp,rfl⟩))
  have JU:V.length<=257:=by have:=zAG _ (List.range (n+1)) JD (fun x hx=>List.mem_range.2 (by have:=JE x hx;omega));simp at this;omega
  have JY:=hw.tv_le JK;have etv:tv n ns p.1=(at_ n ns p.1).v:=rfl;simp[ndV,en,zAB,g8];refine At.put (x:=(at_ n ns p.1).v) (v:=true) (Lcl.rng.star (Lcl.mgr.star hB)) h9 zBm Tryz.underlying147 (by unfold zY;omega) (by unfold maxLen;omega) fun JX JW=>?_;have JG:(vis++[p]).length<=M'.length:=zAG _ _ h8.rng.nd h8.rng.sub;simp at JG;simp[g0,g8,JI];refine⟨M'.length-(vis++[p]).length,by simp;omega,vis++[p],rfl,zB5 V (at_ n ns p.1).v true,⟨fun x=>?_,zJx hI.all⟩,JW.tor3⟩
  ·rw[zEn,hI.has x];simp only[List.mem_append,List.mem_singleton];constructor
   ·rintro (⟨q,hq,rfl⟩|rfl)
    ·exact⟨q,.inl hq,rfl⟩
    ·exact⟨p,.inr rfl,rfl⟩
   ·rintro⟨q,hq|rfl,rfl⟩
    ·exact .inl ⟨q,hq,rfl⟩
    ·exact .inr rfl
end Go.Proofs.YtolkjbmcindhjaaGreat
end
namespace Go.Proofs.YtolkjbmcindhjaaGreat
section
open Go Go.W Go.Bd Go.Maps
def tgt(xs:List Int)(v:Int):Int:=xs.getD v.toNat 0
def zDu(n:Nat)(xs L:List Int):Prop:=xs.length≠n\/∃v∈L,tgt xs v<0\/(n:Int)<=tgt xs v
def zFU(xs L:List Int):Prop:=∃i a b,L[i]? = some a/\L[i+1]? = some b/\tgt xs b<=tgt xs a
def zT0(m n lim:Nat)(xs:List Int)(ns:Ns)(f:Nat)(B:Asr)(w:World)(F:List Nat)(v:Value)(w':World):Prop :=
 ∃L,SupP n ns f L/\((zDu n xs L/\v=zFO 1/\At w F (zC (zj m n lim ns) B) w')\/(¬zDu n xs L/\zFU xs L/\v=zFO 7/\At w F (zC (zj m n lim ns) B) w') \/
  (¬zDu n xs L/\¬zFU xs L/\∃r ns' M',v=zBH r/\zIK n lim (fun a i=>a (tgt xs i).toNat) ns f r ns' M'/\At w F (zC (zj m n lim ns') B) w'))
theorem zWf{n:Nat}{xs L:List Int}(hL:L.Pairwise (·<·))(h1:¬zDu n xs L)(h2:¬zFU xs L):Asc n (fun i=>(i:Int)∈L) (fun i=>(tgt xs i).toNat):=by
 have rng:∀v∈L,0<=tgt xs v/\tgt xs v<n:=fun v hv=>by
  refine⟨?_,?_⟩
  ·rcases Decidable.em (tgt xs v<0) with h|h
   ·exact absurd (.inr ⟨v,hv,.inl h⟩) h1
   ·omega
  ·rcases Decidable.em (tgt xs v<n) with h|h
   ·exact h
   ·exact absurd (.inr ⟨v,hv,.inr (by omega)⟩) h1
 have stp:∀i a b,L[i]? = some a->L[i+1]? = some b->tgt xs a<tgt xs b:=fun i a b ha hb=>by
  rcases Decidable.em (tgt xs a<tgt xs b) with h|h
  ·exact h
  ·exact absurd ⟨i,a,b,ha,hb,by omega⟩ h2
 have far:∀(d i:Nat) (a b:Int),L[i]? = some a->L[i+d+1]? = some b->tgt xs a<tgt xs b:=by
  intro d
  induction d with
  |zero=>intro i a b ha hb;exact stp i a b ha hb
  |succ d ih =>intro i a b ha hb;have hl:=(List.getElem?_eq_some_iff.1 hb).1;have hc:L[i+d+1]? = some (L[i+d+1]'(by omega)):=List.getElem?_eq_getElem _;exact Int.lt_trans (ih i a _ ha hc) (stp (i+d+1) _ b hc (by rw[show i+d+1+1=i+(d+1)+1 by omega];exact hb))
 refine⟨fun u hu=>by have:=rng _ hu;show(tgt xs u).toNat<n;omega,fun u v hu hv JD=>?_⟩;obtain⟨i,hi⟩:=List.getElem?_of_mem hu;obtain⟨j,hj⟩:=List.getElem?_of_mem hv;have JE:i<j:=by
  rcases Nat.lt_trichotomy i j with h|h|h
  ·exact h
  ·subst h;rw[hi] at hj;have:=Option.some.inj hj;omega
  ·exfalso;obtain⟨JC,hiv⟩:=List.getElem?_eq_some_iff.1 hi;obtain⟨JB,JA⟩:=List.getElem?_eq_some_iff.1 hj;have:=List.pairwise_iff_getElem.1 hL j i JB JC h;rw[hiv,JA] at this;omega
 have:=far (j-i-1) i _ _ hi (by rw[show i+(j-i-1)+1=j by omega];exact hj);have:=rng _ hu;have:=rng _ hv;show(tgt xs u).toNat<(tgt xs v).toNat;omega
theorem zEj{w w1:World}{F:List Nat}{B:Asr}(m n lim:Nat)(ns:Ns)(f:Nat)(tov:Value)(xs:List Int)(hB:Lcl B)(hA:At w F (zC (zj m n lim ns) B) w1)(hw:Wf n ns)(hb:Bnd n lim ns)(hf:Ref ns f)
  (hR:∀w' F',B w' F'->Vw w' tov iv xs) (hx:xs.length<=1000000) :
  Calls Tryz.prog 94 [.pointer (some ⟨m,0,none⟩),.int .i64 (f:Nat),tov].toArray w1 fun e w'=>∃x,e=.returned x/\zT0 m n lim xs ns f B w F x w':=by
 have JW:=hb.hn;have JX:=hb.hl;have JS:=hb.hs;refine enter Tryz.func94 mixed low94 (Nat.le_of_ble_eq_true rfl) ?_;simp only[L94];have hl:Lcl (zC (zj m n lim ns) B):=Lcl.mgr.star hB;have vw:∀{w'},At w F (zC (zj m n lim ns) B) w'->Vw w' tov iv xs:=fun h=>by obtain⟨_,hq,_⟩:=h.drop.ex;exact hR _ _ hq
 simp;refine zG (zHN m n lim ns f hB hA hw hb hf) ?_;rintro _ w2 ⟨v,L,rfl,hS,h2⟩;have JL:Lcl (zC (zM v 3 1 iv L) (zC (zj m n lim ns) B)):=Lcl.own.star hl;have JA:∀x∈L,0<=x/\x<n:=fun x hx=>by obtain⟨y,hy,rfl⟩:=(hS.2 x).1 hx;have:=hw.tv_var hy.ge (hy.ref hw hf);omega
 have JM:L.length<=1000000:=by
  have JQ:(L.map Int.toNat).Nodup:=by rw[List.nodup_iff_pairwise_ne,List.pairwise_map];refine List.Pairwise.imp_of_mem ?_ hS.1;intro a b ha hb JY;have:=JA a ha;have:=JA b hb;omega
  have:=zAG _ (List.range n) JQ (fun x hx=>by obtain⟨y,hy,rfl⟩:=List.mem_map.1 hx;have:=JA y hy;exact List.mem_range.2 (by omega));simp at this;omega
 obtain⟨nv,b,ho,_,_⟩:=zj.rd h2.drop;unfold zGi at ho;simp[(vw h2.drop).len,zA ho];by_cases JB:xs.length=n
 case neg =>
  have:((xs.length:Int) != n)=true:=by simp;omega
  simp[this];exact⟨L,hS,.inl ⟨.inl JB,rfl,h2.drop⟩⟩
 have:((xs.length:Int) != n)=false:=by simp;omega
 simp[this,h2.own.vw.len];refine zF (n:=L.length) (by omega) (fun k ρ w'=>ρ 0=.pointer (some ⟨m,0,none⟩)/\ρ 1=.int .i64 (f:Nat)/\ρ 2=tov/\ρ 8=v/\ρ 30=v/\(∀j x,j<k->L[j]? = some x->0<=tgt xs x/\tgt xs x<n) /\
   At w F (zC (zM v 3 1 iv L) (zC (zj m n lim ns) B)) w') (by simp) (by simp)
  ⟨by simp,by simp,by simp,by simp,by simp,by simp,h2⟩ (by decide) (fun _ _ _ _ h=>by simpa using h) (fun _ _ _ _ h=>by simpa using h) ?_ ?_
 ·rintro k ρ w3 hk hc JH ⟨g0,g1,g2,g8,JK,hall,h3⟩;have ek:L[k]? = some L[k]:=List.getElem?_eq_getElem hk;obtain⟨x,JF⟩:∃x,x=L[k]:=⟨_,rfl⟩;rw[<-JF] at ek;obtain⟨x0,x1⟩:=JA x (List.mem_of_getElem? ek);have hs:=h3.own.vw;have ht:=vw h3.drop;obtain⟨nv,b,ho,_,_⟩:=zj.rd h3.drop;unfold zGi at ho;have JO:x.toNat<xs.length:=by omega
  have ex:xs[x.toNat]? = some (tgt xs x):=by simp[tgt,List.getD,List.getElem?_eq_getElem JO]
  have h4:=h3.drew JL;simp(disch:=omega)[g0,g2,JK,hc,hs.idx,zA8 hs ek,ht.idx,zA8 ht ex,zA ho];by_cases c1:tgt xs x<0
  ·simp[c1];exact⟨L,hS,.inl ⟨.inr ⟨x,List.mem_of_getElem? ek,.inl c1⟩,rfl,h4.drop⟩⟩
  by_cases c2:(n:Int)<=tgt xs x
  ·simp(disch:=omega)[c1,c2,g0,g2,ht.idx,zA8 ht ex,zA ho];exact⟨L,hS,.inl ⟨.inr ⟨x,List.mem_of_getElem? ek,.inr c2⟩,rfl,h4.drop⟩⟩
  ·simp(disch:=omega)[c1,c2,ht.idx,zA8 ht ex,zA ho,g0,g1,g2,g8,JK,hc,JH];refine⟨fun j y hj hy=>?_,h4⟩;rcases Nat.lt_or_ge j k with h5|h5
   ·exact hall j y h5 hy
   ·have:j=k:=by omega
    subst this;rw[ek] at hy;rw[<-Option.some.inj hy];omega
 rintro ρ w3 ⟨g0,g1,g2,g8,JK,hall,h3⟩;have nb1:¬zDu n xs L:=by
  rintro (h|⟨v,hv,h⟩)
  ·exact h JB
  ·obtain⟨j,hj⟩:=List.getElem?_of_mem hv;have:=hall j v (List.getElem?_eq_some_iff.1 hj).1 hj;omega
 simp;refine z8 (fun q ρ w'=>∃k,q=L.length-k/\1<=k/\k<=L.length+1/\ρ 12=.int .i64 (k:Nat)/\ρ 0=.pointer (some ⟨m,0,none⟩)/\ρ 1=.int .i64 (f:Nat)/\ρ 2=tov/\ρ 8=v/\(∀i a b,i+1<k->L[i]? = some a->L[i+1]? = some b->tgt xs a<tgt xs b) /\
   At w F (zC (zM v 3 1 iv L) (zC (zj m n lim ns) B)) w') (L.length-1)
  ⟨1,rfl,Nat.le_refl _,by omega,by simp,by simp[g0],by simp[g1],by simp[g2],by simp[g8],by omega,h3⟩ ?_
 rintro q ρ w4 ⟨k,rfl,JV,JU,c12,g0,g1,g2,g8,JD,h4⟩;have hs:=h4.own.vw;by_cases hk:k<L.length
 ·have JE:(k:Int)<L.length:=by omega
  have ek:L[k]? = some L[k]:=List.getElem?_eq_getElem hk;have ej:L[k-1]? = some (L[k-1]'(by omega)):=List.getElem?_eq_getElem _;obtain⟨x,JF⟩:∃x,x=L[k]:=⟨_,rfl⟩;obtain⟨y,JN⟩:∃y,y=L[k-1]'(by omega):=⟨_,rfl⟩;rw[<-JF] at ek;rw[<-JN] at ej;obtain⟨x0,x1⟩:=JA x (List.mem_of_getElem? ek);obtain⟨y0,y1⟩:=JA y (List.mem_of_getElem? ej);have ht:=vw h4.drop;have ex:xs[x.toNat]? = some (tgt xs x):=by simp[tgt,List.getD,List.getElem?_eq_getElem (show x.toNat<xs.length by omega)]
  have ey:xs[y.toNat]? = some (tgt xs y):=by simp[tgt,List.getD,List.getElem?_eq_getElem (show y.toNat<xs.length by omega)]
  have ekm:(k:Int)-1=((k-1:Nat):Int):=by omega
  have h5:=h4.drew JL;simp(disch:=omega)[c12,g2,g8,hs.len,JE,zH,ekm];simp(disch:=omega)[c12,g2,g8,hs.len,JE,zH,hs.idx,zA8 hs ej,zA8 hs ek,ht.idx,zA8 ht ex,zA8 ht ey];by_cases c1:tgt xs x<=tgt xs y
  ·simp[c1];exact⟨L,hS,.inr (.inl ⟨nb1,⟨k-1,y,x,ej,by rw[show k-1+1=k by omega];exact ek,c1⟩,rfl,h5.drop⟩)⟩
  ·simp(disch:=omega)[c1,c12,zH];refine⟨L.length-(k+1),by omega,k+1,rfl,by omega,by omega,by simp,g0,g1,g2,g8,fun i a b hi ha hb=>?_,h5⟩;rcases Nat.lt_or_ge (i+1) k with h6|h6
   ·exact JD i a b h6 ha hb
   ·have:i=k-1:=by omega
    subst this;rw[ej] at ha;rw[show k-1+1=k by omega,ek] at hb;rw[<-Option.some.inj ha,<-Option.some.inj hb];omega
 ·have JE:¬(k:Int)<L.length:=by omega
  have nb2:¬zFU xs L:=by rintro⟨i,a,b,ha,hb,h⟩;have hl:=(List.getElem?_eq_some_iff.1 hb).1;have:=JD i a b (by omega) ha hb;omega
  have JI:=zWf hS.1 nb1 nb2;simp[c12,g8,hs.len,JE,g1];by_cases JR:f<2
  ·have JC:(f:Int)<2:=by omega
   simp[JC,g1];exact⟨L,hS,.inr (.inr ⟨nb1,nb2,some f,ns,[],rfl,zOR hw JS (fun q hq=>by cases hq) hf JR,h4.drop⟩)⟩
  ·have JC:¬(f:Int)<2:=by omega
   have ht:=vw h4.drop;have JT:0<n:=by have:=hw.tv_var (show 2<=f by omega) hf;omega
   have JG:∃a k c,tov=.slice (some a) k c:=by
    rcases ht with⟨_,h1⟩|⟨a,cap,h1,_⟩
    ·rw[h1] at JB;simp at JB;omega
    ·exact⟨a,_,_,h1⟩
   have JP:∀i:Nat,(i:Int)∈L->xs[i]? = some (((tgt xs i).toNat:Nat):Int):=fun i hi=>by
    have h6:=JA _ hi;have h7:¬(tgt xs i<0):=fun h=>nb1 (.inr ⟨_,hi,.inl h⟩);have e1:tgt xs i=xs.getD i 0:=by simp[tgt]
    rw[show(((tgt xs i).toNat:Nat):Int)=tgt xs i by omega,e1];simp[List.getD,List.getElem?_eq_getElem (show i<xs.length by omega)]
   simp[JC,g0,g1,g2];have h6:=(h4.drop.newmap (ek:=zAc) (ev:=zAc) (ok:=zY) hl).rot;refine zG (zLh m n lim w4.heap.size 0 0 tov xs (fun i=>(i:Int)∈L) (fun i=>(tgt xs i).toNat) JG JP JI w F f f ns [] B _ hB hw hb hf (Nat.le_refl _) (fun q hq=>by cases hq) (fun y hy=>(hS.2 _).2 ⟨y,hy,rfl⟩) hR h6) ?_;rintro _ w5 ⟨r,ns',M',rfl,hc,h7⟩;cases r with
   |none=>simp[zBH,zFO,zu];exact⟨L,hS,.inr (.inr ⟨nb1,nb2,none,ns',M',rfl,hc,h7.by (Imp.un Imp.dr)⟩)⟩
   |some x=>simp[zBH,okV];exact⟨L,hS,.inr (.inr ⟨nb1,nb2,some x,ns',M',rfl,hc,h7.by (Imp.un Imp.dr)⟩)⟩
end
section
open Go Go.W Go.Tk Go.Rx Go.Bd Go.Sy Go.Maps
def eB(b:Bool):Value:=if b=true then zu 10 else .nilIface
structure Stp(n lim:Nat)(W:((Nat->Bool)->Bool)->Prop)(e:Bool)(ns:Ns)(e':Bool)(ns':Ns):Prop where
 ext:Ext n ns ns'
 lm:ns'.length<=lim
 new:∀z,ns.length+2<=z->z<ns'.length+2->∃G,W G/\IsC G fun b=>eval ns' b z
 bad:e=true->e'=true/\ns'=ns
 full:e=false->e'=true->lim<=ns'.length
section
variable {n lim:Nat} {W W':((Nat->Bool)->Bool)->Prop} {e e1 e2:Bool} {ns ns1 ns2:Ns}
theorem Stp.refl(hw:Wf n ns)(hl:ns.length<=lim):Stp n lim W e ns e ns:=⟨Ext.refl hw,hl,fun z h1 h2=>by omega,fun h=>⟨h,rfl⟩,fun h h2=>by rw[h] at h2;cases h2⟩
theorem Stp.trans(h1:Stp n lim W e ns e1 ns1)(h2:Stp n lim W e1 ns1 e2 ns2):Stp n lim W e ns e2 ns2:=by
 refine⟨h1.ext.trans h2.ext,h2.lm,fun z a b=>?_,fun h=>?_,fun h h3=>?_⟩
 ·by_cases hz:z<ns1.length+2
  ·obtain⟨G,g1,g2⟩:=h1.new z a hz;exact⟨G,g1,g2.congr (fun _=>rfl) fun b=>(h2.ext.eval h1.ext.wf b hz).symm⟩
  ·exact h2.new z (by omega) b
 ·obtain⟨a1,a2⟩:=h1.bad h;obtain⟨b1,b2⟩:=h2.bad a1;exact⟨b1,by rw[b2,a2]⟩
 ·cases he:e1 with
  |true =>have:=h1.full h he;have:=(h2.bad he).2;rw[this];omega
  |false=>exact h2.full he h3
theorem Stp.mono(h:Stp n lim W e ns e1 ns1)(hw:∀G,W G->W' G):Stp n lim W' e ns e1 ns1 :=
 ⟨h.ext,h.lm,fun z a b=>by obtain⟨G,g1,g2⟩:=h.new z a b;exact⟨G,hw G g1,g2⟩,h.bad,h.full⟩
end
def Mn(ns:Ns)(e:Bool)(x:Nat)(F:(Nat->Bool)->Bool):Prop:=x<=2000000/\(e=false->Ref ns x/\∀a,eval ns a x=F a)
theorem Mn.ext{n:Nat}{ns ns':Ns}{x:Nat}{F:(Nat->Bool)->Bool}(h:Mn ns false x F)(hw:Wf n ns)(hx:Ext n ns ns'):Ref ns' x/\∀a,eval ns' a x=F a:=by
 obtain⟨h1,h2⟩:=h.2 rfl;exact⟨hx.ref h1,fun a=>by rw[hx.eval hw a h1,h2]⟩
structure SpC where
 t0:Value
 t1:Value
 t2:Value
 t3:Value
 fv:Value
 wv:Value
 all:Nat
 km:Nat
 sm:Nat
def spO(m:Nat)(vars:List Nat)(q:SpC):Obj:=.cells #[q.t0,q.t1,q.t2,q.t3,.pointer (some ⟨m,0,none⟩),q.fv,q.wv,.int .i64 (zD vars:Nat),.int .i64 (q.all:Nat),.map (some q.km),.map (some q.sm)] 162 (0,0)
def blO(s:Nat)(e:Bool):Obj:=.cells #[.pointer (some ⟨s,0,none⟩),eB e] 167 (0,0)
def zBC(vars:List Nat):List Nat:=(List.range vars.length).map (bP vars)
def zBB(vars:List Nat):List Nat:=vars.map wd
def BlA(b s m lim:Nat)(vars:List Nat)(q:SpC)(e:Bool)(ns:Ns)(B:Asr):Asr:=zC (zj m (2*zD vars) lim ns) (zC (zL b (blO s e)) (zC (zL s (spO m vars q)) (zC (zM q.fv 3 1 nE (zBC vars)) (zC (zM q.wv 3 1 nE (zBB vars)) B))))
theorem BlA.rest{b s m:Nat}{vars:List Nat}{q:SpC}{e:Bool}{B:Asr}(hB:Lcl B):Lcl (zC (zL b (blO s e)) (zC (zL s (spO m vars q)) (zC (zM q.fv 3 1 nE (zBC vars)) (zC (zM q.wv 3 1 nE (zBB vars)) B)))):=Lcl.obj.star (Lcl.obj.star (Lcl.own.star (Lcl.own.star hB)))
theorem BlA.lcl{b s m lim:Nat}{vars:List Nat}{q:SpC}{e:Bool}{ns:Ns}{B:Asr}(hB:Lcl B):Lcl (BlA b s m lim vars q e ns B):=Lcl.mgr.star (BlA.rest hB)
structure zFr(vars:List Nat)(lim:Nat)(ns:Ns):Prop where
 bt:zD vars<=100
 v64:∀n∈vars,1<=n/\n<=64
 len:vars.length<=64
 wf:Wf (2*zD vars) ns
 lim1:1<=lim
 lmx:lim<=1048576
 nl:ns.length<=lim
theorem zFr.bnd{vars:List Nat}{lim:Nat}{ns:Ns}(h:zFr vars lim ns):Bnd (2*zD vars) lim ns:=⟨by have:=h.bt;omega,h.lmx,h.nl⟩
theorem zFr.stp{vars:List Nat}{lim:Nat}{W:((Nat->Bool)->Bool)->Prop}{ns ns':Ns}{e e':Bool}(h:zFr vars lim ns)(hs:Stp (2*zD vars) lim W e ns e' ns'):zFr vars lim ns':=⟨h.bt,h.v64,h.len,hs.ext.wf,h.lim1,h.lmx,hs.lm⟩
def zIL(b s m lim:Nat)(vars:List Nat)(q:SpC)(e:Bool)(ns:Ns)(B:Asr)(w:World)(F:List Nat)(W:((Nat->Bool)->Bool)->Prop)(G:(Nat->Bool)->Bool)(v:Value)(w':World):Prop :=
 ∃x e' ns',v=.int .i64 (x:Nat)/\Stp (2*zD vars) lim W e ns e' ns'/\Mn ns' e' x G/\At w F (BlA b s m lim vars q e' ns' B) w'
section
variable {w w1:World} {F:List Nat} {B:Asr} {b s m lim:Nat} {vars:List Nat} {q:SpC} {e:Bool} {ns:Ns} {W:((Nat->Bool)->Bool)->Prop}
theorem zDP(x:Nat)(r:Bool)(hB:Lcl B)(h:At w F (BlA b s m lim vars q false ns B) w1) :
  Calls Tryz.prog 139 [.pointer (some ⟨b,0,none⟩),.int .i64 (x:Nat),eB r].toArray w1 fun en w'=>∃v,en=.returned v/\v=.int .i64 ((if r=true then 0 else x:Nat):Nat)/\At w F (BlA b s m lim vars q r ns B) w':=by
 refine enter Tryz.func139 mixed low139 (Nat.le_of_ble_eq_true rfl) ?_;simp only[L139];unfold BlA at h;have h1:=h.by Imp.sw;have ob:=h1.obj;unfold blO eB at ob;simp at ob;cases r with
 |false =>simp[eB,zA ob];have JB:Lcl (zC (zj m (2*zD vars) lim ns) (zC (zL s (spO m vars q)) (zC (zM q.fv 3 1 nE (zBC vars)) (zC (zM q.wv 3 1 nE (zBB vars)) B)))):=Lcl.mgr.star (Lcl.obj.star (Lcl.own.star (Lcl.own.star hB)));unfold blO eB at h1;refine h1.st JB (by simp) (by simp) fun w2 h2=>?_;have JA:=h2.obj;simp at JA;simp[zA JA];unfold BlA blO eB;exact(by simpa using h2:At w F _ w2).by Imp.sw
 |true =>simp[eB,zu,zA ob];have JB:Lcl (zC (zj m (2*zD vars) lim ns) (zC (zL s (spO m vars q)) (zC (zM q.fv 3 1 nE (zBC vars)) (zC (zM q.wv 3 1 nE (zBB vars)) B)))):=Lcl.mgr.star (Lcl.obj.star (Lcl.own.star (Lcl.own.star hB)));unfold blO eB at h1;refine h1.st JB (by simp) (by simp) fun w2 h2=>?_;have JA:=h2.obj;simp at JA;simp[zA JA];unfold BlA blO eB zu;exact(by simpa using h2:At w F _ w2).by Imp.sw
theorem zF5{G:(Nat->Bool)->Bool}{r:Option Nat}{ns':Ns}{op:Nat}{f g:Nat}{S:Nat->Nat->Prop}(hk:zFr vars lim ns)(hb:zJS (2*zD vars) lim op S ns f g r ns')(hS:∀x y,S x y->PS (2*zD vars) ns f g x y)(hG:∀a,opB op (eval ns a f) (eval ns a g)=G a)(hW:W G) :
  Stp (2*zD vars) lim W false ns r.isNone ns'/\Mn ns' r.isNone (r.getD 0) G:=by
 refine⟨⟨hb.ext,hb.lim,fun z h1 h2=>⟨G,hW,(hb.new hk.wf hS z h1 h2).congr hG fun _=>rfl⟩,fun h=>(by cases h),fun _ h=>hb.hit (by cases r<;>simp_all)⟩,?_,fun h=>?_⟩
 ·cases r with
  |none=>exact Nat.zero_le _
  |some x =>have h5:=(hb.ok x rfl).1;have h6:=hb.lim;have h7:=hk.lmx;unfold Ref at h5;show x<=2000000;omega
 ·cases r with
  |none=>cases h
  |some x =>obtain⟨a1,a2⟩:=hb.ok x rfl;exact⟨a1,fun a=>by rw[<-hG a];exact a2 a⟩
theorem zAA(r:Option Nat):zBH r=.tuple #[.int .i64 ((r.getD 0:Nat):Int),eB r.isNone]:=by
 cases r with
 |none=>simp[zBH,zFO,eB]
 |some x=>simp[zBH,okV,eB]
theorem zp(f g:Nat)(P Q:(Nat->Bool)->Bool)(hk:zFr vars lim ns)(hB:Lcl B)(h:At w F (BlA b s m lim vars q e ns B) w1)(hf:Mn ns e f P)(hg:Mn ns e g Q)(hW:W fun a=>P a&&Q a) :
  Calls Tryz.prog 85 [.pointer (some ⟨b,0,none⟩),.int .i64 (f:Nat),.int .i64 (g:Nat)].toArray w1 fun en w'=>∃v,en=.returned v/\zIL b s m lim vars q e ns B w F W (fun a=>P a&&Q a) v w':=by
 refine enter Tryz.func85 mixed low85 (Nat.le_of_ble_eq_true rfl) ?_;simp only[L85];have h':=h;unfold BlA at h';have ob:=h'.drop.obj;have os:=h'.drop.drop.obj;unfold blO at ob;unfold spO at os;cases e with
 |true =>simp[eB,zu] at ob;simp[zA ob];exact⟨0,true,ns,rfl,Stp.refl hk.wf hk.nl,⟨Nat.zero_le _,fun h=>by cases h⟩,h⟩
 |false =>simp[eB] at ob;obtain⟨rf,ef⟩:=hf.2 rfl;obtain⟨rg,eg⟩:=hg.2 rfl;obtain⟨p1,p2⟩:=zDG hk.wf 0 rf rg;simp[zA ob,zA os];refine zG (zKj (zAe m (2*zD vars) lim ns 0 f g _ (by omega) (BlA.rest hB) h' hk.wf hk.bnd rf rg p2 p1) (by rintro v w' ⟨r,_,rfl,_⟩;exact zBX r)) ?_;rintro _ w2 ⟨r,ns',rfl,JA,h2⟩;obtain⟨s1,s2⟩:=zF5 (W:=W) (G:=fun a=>P a&&Q a) hk JA (fun _ _ h=>h) (fun a=>by rw[ef,eg];rfl) hW;rw[zAA];simp;refine zG (zDP (r.getD 0) r.isNone hB h2) ?_;rintro _ w3 ⟨rfl,h3⟩;simp;refine⟨_,_,ns',?_,s1,s2,h3⟩;cases r<;>rfl
theorem zEX(f g:Nat)(P Q:(Nat->Bool)->Bool)(hk:zFr vars lim ns)(hB:Lcl B)(h:At w F (BlA b s m lim vars q e ns B) w1)(hf:Mn ns e f P)(hg:Mn ns e g Q)(hW:W fun a=>P a||Q a) :
  Calls Tryz.prog 83 [.pointer (some ⟨b,0,none⟩),.int .i64 (f:Nat),.int .i64 (g:Nat)].toArray w1 fun en w'=>∃v,en=.returned v/\zIL b s m lim vars q e ns B w F W (fun a=>P a||Q a) v w':=by
 refine enter Tryz.func83 mixed low83 (Nat.le_of_ble_eq_true rfl) ?_;simp only[L83];have h':=h;unfold BlA at h';have ob:=h'.drop.obj;have os:=h'.drop.drop.obj;unfold blO at ob;unfold spO at os;cases e with
 |true =>simp[eB,zu] at ob;simp[zA ob];exact⟨0,true,ns,rfl,Stp.refl hk.wf hk.nl,⟨Nat.zero_le _,fun h=>by cases h⟩,h⟩
 |false =>simp[eB] at ob;obtain⟨rf,ef⟩:=hf.2 rfl;obtain⟨rg,eg⟩:=hg.2 rfl;obtain⟨p1,p2⟩:=zDG hk.wf 1 rf rg;simp[zA ob,zA os];refine zG (zVE (zAe m (2*zD vars) lim ns 1 f g _ (by omega) (BlA.rest hB) h' hk.wf hk.bnd rf rg p2 p1) (by rintro v w' ⟨r,_,rfl,_⟩;exact zBX r)) ?_;rintro _ w2 ⟨r,ns',rfl,JA,h2⟩;obtain⟨s1,s2⟩:=zF5 (W:=W) (G:=fun a=>P a||Q a) hk JA (fun _ _ h=>h) (fun a=>by rw[ef,eg];rfl) hW;rw[zAA];simp;refine zG (zDP (r.getD 0) r.isNone hB h2) ?_;rintro _ w3 ⟨rfl,h3⟩;simp;refine⟨_,_,ns',?_,s1,s2,h3⟩;cases r<;>rfl
theorem zCO(f:Nat)(P:(Nat->Bool)->Bool)(hk:zFr vars lim ns)(hB:Lcl B)(h:At w F (BlA b s m lim vars q e ns B) w1)(hf:Mn ns e f P)(hW:W fun a=>!P a) :
  Calls Tryz.prog 99 [.pointer (some ⟨b,0,none⟩),.int .i64 (f:Nat)].toArray w1 fun en w'=>∃v,en=.returned v/\zIL b s m lim vars q e ns B w F W (fun a=>!P a) v w':=by
 refine enter Tryz.func99 mixed low99 (Nat.le_of_ble_eq_true rfl) ?_;simp only[L99];have h':=h;unfold BlA at h';have ob:=h'.drop.obj;have os:=h'.drop.drop.obj;unfold blO at ob;unfold spO at os;cases e with
 |true =>simp[eB,zu] at ob;simp[zA ob];exact⟨0,true,ns,rfl,Stp.refl hk.wf hk.nl,⟨Nat.zero_le _,fun h=>by cases h⟩,h⟩
 |false =>simp[eB] at ob;obtain⟨rf,ef⟩:=hf.2 rfl;obtain⟨p1,p2⟩:=zDG hk.wf 2 rf (Ref.one ns);simp[zA ob,zA os];refine zG (zVS (zAe m (2*zD vars) lim ns 2 f 1 _ (by omega) (BlA.rest hB) h' hk.wf hk.bnd rf (Ref.one ns) p2 p1) (by rintro v w' ⟨r,_,rfl,_⟩;exact zBX r)) ?_;rintro _ w2 ⟨r,ns',rfl,JA,h2⟩;obtain⟨s1,s2⟩:=zF5 (W:=W) (G:=fun a=>!P a) hk JA (fun _ _ h=>h) (fun a=>by rw[ef,zg];cases P a<;>rfl) hW;rw[zAA];simp;refine zG (zDP (r.getD 0) r.isNone hB h2) ?_;rintro _ w3 ⟨rfl,h3⟩;simp;refine⟨_,_,ns',?_,s1,s2,h3⟩;cases r<;>rfl
theorem zDW(i:Nat)(hk:zFr vars lim ns)(hB:Lcl B)(h:At w F (BlA b s m lim vars q e ns B) w1)(hi:i<2*zD vars)(hW:W fun a=>a i) :
  Calls Tryz.prog 100 [.pointer (some ⟨b,0,none⟩),.int .i64 (i:Nat)].toArray w1 fun en w'=>∃v,en=.returned v/\zIL b s m lim vars q e ns B w F W (fun a=>a i) v w':=by
 refine enter Tryz.func100 mixed low100 (Nat.le_of_ble_eq_true rfl) ?_;simp only[L100];have h':=h;unfold BlA at h';have ob:=h'.drop.obj;have os:=h'.drop.drop.obj;unfold blO at ob;unfold spO at os;cases e with
 |true =>simp[eB,zu] at ob;simp[zA ob];exact⟨0,true,ns,rfl,Stp.refl hk.wf hk.nl,⟨Nat.zero_le _,fun h=>by cases h⟩,h⟩
 |false =>
  simp[eB] at ob;simp[zA ob,zA os];refine zG (zO4 m (2*zD vars) lim ns i (BlA.rest hB) h' hk.bnd hi) ?_;rintro _ w2 ⟨rfl,h2⟩;have mk:=zF6 (lim:=lim) hk.wf hi (Ref.zero ns) (Ref.one ns) (by rw[zHK (by omega)];exact hi) (by rw[zHK (by omega)];exact hi);obtain⟨r,hr⟩:∃r,r=(mkF lim ns i 0 1).1:=⟨_,rfl⟩;obtain⟨ns',JB⟩:∃x,x=(mkF lim ns i 0 1).2:=⟨_,rfl⟩;have JC:∀x z,r=some x->ns.length+2<=z->z<ns'.length+2->z=x:=fun x z h0 h1 h2=>by rw[hr] at h0;rw[JB] at h2;exact zGh h0 h1 h2
  rw[<-hr,<-JB] at mk;rw[<-JB] at h2;rw[<-hr,zAA];simp;refine zG (zDP (r.getD 0) r.isNone hB h2) ?_;rintro _ w3 ⟨rfl,h3⟩;simp;refine⟨r.getD 0,r.isNone,ns',?_,⟨mk.ext,mk.lim hk.nl,fun z h1 h2=>?_,fun h=>(by cases h),fun _ h=>?_⟩,⟨?_,fun h=>?_⟩,h3⟩
  ·cases r<;>rfl
  ·cases JA:r with
   |none =>have:=(mk.full JA).2;rw[this] at h2;omega
   |some x =>have e:=JC x z JA h1 h2;subst e;obtain⟨_,_,a2⟩:=mk.ok z JA;refine⟨_,hW,(IsC.refl _).congr (fun _=>rfl) fun a=>?_⟩;rw[a2,zg,zN];cases a i<;>rfl
  ·obtain⟨a1,a2⟩:=mk.full (by cases r<;>simp_all);rw[a2];exact a1
  ·cases JA:r with
   |none=>exact Nat.zero_le _
   |some x =>have h5:=(mk.ok x JA).1;have h6:=mk.lim hk.nl;have h7:=hk.lmx;unfold Ref at h5;show x<=2000000;omega
  ·cases JA:r with
   |none=>rw[JA] at h;cases h
   |some x =>obtain⟨a1,_,a2⟩:=mk.ok x JA;refine⟨a1,fun a=>?_⟩;show eval ns' a x=a i;rw[a2,zg,zN];cases a i<;>rfl
end
end
section
open Go Go.W Go.Tk Go.Rx Go.Bd Go.Sy Go.Maps
theorem zFD{vars:List Nat}{v:Nat}(h:v<vars.length):(zBC vars)[v]? = some (bP vars v):=by simp[zBC,h]
theorem zDA{vars:List Nat}{v n:Nat}(h:vars[v]? = some n):(zBB vars)[v]? = some (wd n):=by simp[zBB,h]
def vlB(vars:List Nat)(v x nx k:Nat)(a:Nat->Bool):Bool:=(List.range (wd (vars.getD v 0)-k)).all fun j=>decide (a (2*(bP vars v+(k+j))+nx)=x.testBit (wd (vars.getD v 0)-1-(k+j)))
theorem zL5{vars:List Nat}{v x nx:Nat}{a:Nat->Bool}(hx:x<2^wd (vars.getD v 0)):vlB vars v x nx 0 a=decide (rv vars a nx v=x):=by
 rw[Bool.eq_iff_iff,decide_eq_true_iff];unfold vlB rv;rw[<-zBK _ _ hx,List.all_eq_true];constructor
 ·intro h k hk;have:=h k (List.mem_range.2 (by omega));simpa using this
 ·intro h k hk;have:=h k (by have:=List.mem_range.1 hk;omega);simpa using this
theorem zRu{vars:List Nat}{v x nx:Nat}{a:Nat->Bool}:vlB vars v x nx (wd (vars.getD v 0)) a=true:=by unfold vlB;simp
theorem zO2{vars:List Nat}{v x nx k:Nat}{a:Nat->Bool}(hk:k<wd (vars.getD v 0)):vlB vars v x nx k a=(decide (a (2*(bP vars v+k)+nx)=x.testBit (wd (vars.getD v 0)-1-k))&&vlB vars v x nx (k+1) a):=by
 unfold vlB;rw[show wd (vars.getD v 0)-k=(wd (vars.getD v 0)-(k+1))+1 by omega,List.range_succ_eq_map,List.all_cons,List.all_map];congr 1;refine congrArg (fun f=>(List.range (wd (vars.getD v 0)-(k+1))).all f) ?_;funext j;simp only[Function.comp];rw[show k+j.succ=k+1+j by omega]
def LitW(vars:List Nat)(W:((Nat->Bool)->Bool)->Prop):Prop:=∀i,i<2*zD vars->W (fun a=>a i)/\W fun a=>!a i
def VlW(vars:List Nat)(v x nx:Nat)(W:((Nat->Bool)->Bool)->Prop):Prop:=∀j,j<wd (vars.getD v 0)->W (vlB vars v x nx j)
def VlI(b s m lim:Nat)(vars:List Nat)(q:SpC)(e:Bool)(ns:Ns)(B:Asr)(w:World)(F:List Nat)(W:((Nat->Bool)->Bool)->Prop)(v x nx n:Nat)(ρ:Env)(w':World):Prop :=
 ρ 0=.pointer (some ⟨b,0,none⟩)/\ρ 1=.int .i64 (v:Nat)/\ρ 2=.int .i64 (x:Nat)/\ρ 3=.int .i64 (nx:Nat)/\ρ 10=.int .i64 (wd (vars.getD v 0):Nat)/\ρ 11=.int .i64 ((n:Int)-1)/\n<=wd (vars.getD v 0) /\
  ∃f e' ns',ρ 9=.int .i64 (f:Nat)/\Stp (2*zD vars) lim W e ns e' ns'/\Mn ns' e' f (vlB vars v x nx n)/\At w F (BlA b s m lim vars q e' ns' B) w'
theorem zMQ{x d:Nat}(hx:x<4294967296)(hd:d<64):IntKind.i64.wrap (((((x:Int).fdiv (2^min d IntKind.i64.bits))%2^IntKind.i64.bits).toNat &&& 1%2^IntKind.i64.bits:Nat):Int)=if x.testBit d=true then 1 else 0:=by
 have hb:IntKind.i64.bits=64:=rfl;have e1:(x:Int).fdiv (2^d)=((x/2^d:Nat):Int):=by
  have:((2:Int)^d)=((2^d:Nat):Int):=by simp
  rw[this];exact(Int.ofNat_fdiv x (2^d)).symm
 rw[hb,Nat.min_eq_left (by omega),e1];have hy:x/2^d<=x:=Nat.div_le_self _ _;obtain⟨y,JA⟩:∃y,y=x/2^d:=⟨_,rfl⟩;rw[<-JA] at hy ⊢;have e2:((y:Int)%2^64).toNat=y:=by omega
 have e4:(1%2^64:Nat)=1:=by decide
 rw[e2,e4,Nat.and_one_is_mod];have e3:x.testBit d=decide (y%2=1):=by rw[JA,Nat.testBit_eq_decide_div_mod_eq]
 rw[e3];by_cases h:y%2=1
 ·rw[h];decide
 ·have:y%2=0:=by omega
  rw[this];decide
section
variable {w w1:World} {F:List Nat} {B:Asr} {b s m lim:Nat} {vars:List Nat} {q:SpC} {e:Bool} {ns:Ns} {W:((Nat->Bool)->Bool)->Prop}
theorem zEu(hw:Wf (2*zD vars) ns)(e:Bool)(G:(Nat->Bool)->Bool)(hG:∀a,G a=true):Mn ns e 1 G:=⟨by omega,fun _=>⟨Ref.one ns,fun a=>by rw[zg,hG]⟩⟩
theorem Mn.keep{n lim:Nat}{W:((Nat->Bool)->Bool)->Prop}{ns ns':Ns}{e e':Bool}{x:Nat}{G:(Nat->Bool)->Bool}(h:Mn ns e x G)(hw:Wf n ns)(hs:Stp n lim W e ns e' ns'):Mn ns' e' x G:=by
 refine⟨h.1,fun he=>?_⟩;cases e with
 |true =>rw[(hs.bad rfl).1] at he;cases he
 |false=>exact h.ext hw hs.ext
theorem zC3(v x nx:Nat)(hk:zFr vars lim ns)(hB:Lcl B)(h:At w F (BlA b s m lim vars q e ns B) w1)(hv:v<vars.length)(hx:x<2^wd (vars.getD v 0))(hn:nx<2)(hL:LitW vars W)(hV:VlW vars v x nx W) :
  Calls Tryz.prog 84 [.pointer (some ⟨b,0,none⟩),.int .i64 (v:Nat),.int .i64 (x:Nat),.int .i64 (nx:Nat)].toArray w1 fun en w'=>∃u,en=.returned u/\zIL b s m lim vars q e ns B w F W (fun a=>decide (rv vars a nx v=x)) u w':=by
 refine enter Tryz.func84 mixed low84 (Nat.le_of_ble_eq_true rfl) ?_;simp only[L84];have h':=h;unfold BlA at h';have ob:=h'.drop.obj;have os:=h'.drop.drop.obj;have JN:=h'.drop.drop.drop.drop.own.vw;unfold blO at ob;unfold spO at os;obtain⟨n,JP⟩:∃n,vars[v]? = some n:=⟨_,List.getElem?_eq_getElem hv⟩;have Jd:vars.getD v 0=n:=by simp[List.getD,JP]
 have Jm:=zFi n;obtain⟨Wn,hW⟩:∃Wn,Wn=wd (vars.getD v 0):=⟨_,rfl⟩;have Jk:wd n=Wn:=by rw[hW,Jd]
 have Jn:(v:Int)<(zBB vars).length:=by simp[zBB];omega
 have JO:=zAM JN (zDA JP);rw[Jk] at JO;simp(disch:=omega)[zA ob,zA os,JN.idx,JO,zH];refine z8 (VlI b s m lim vars q e ns B w F W v x nx) Wn ⟨by simp,by simp,by simp,by simp,by simp[hW],by simp,by rw[hW];exact Nat.le_refl _,1,e,ns,by simp,Stp.refl hk.wf hk.nl,zEu hk.wf _ _ fun a=>by rw[hW];exact zRu,h⟩ ?_;clear h h' ob os JN JO;rintro k ρ w2 ⟨g0,g1,g2,g3,g10,g11,Je,f,e2,ns2,g9,hs,hm,h2⟩;rw[<-hW] at g10 Je;by_cases Jg:k=0
 ·subst Jg;simp[g11,g9];refine⟨f,e2,ns2,rfl,hs,?_,h2⟩;exact⟨hm.1,fun he=>⟨(hm.2 he).1,fun a=>by rw[(hm.2 he).2 a,zL5 hx]⟩⟩
 obtain⟨j,rfl⟩:∃j,k=j+1:=⟨k-1,by omega⟩;have JX:((j+1:Nat):Int)-1=(j:Int):=by omega
 rw[JX] at g11;have JW:=hk.stp hs;have JM:=h2;unfold BlA at JM;have ob:=JM.drop.obj;have os:=JM.drop.drop.obj;have Jb:=JM.drop.drop.drop.own.vw;unfold blO at ob;unfold spO at os;have Jh:=zAM Jb (zFD hv);have Jo:(v:Int)<(zBC vars).length:=by simp[zBC];omega
 have Jj:=zQb JP (show j<wd n by omega);have Jp:=hk.bt;obtain⟨i,hi⟩:∃i,i=2*(bP vars v+j)+nx:=⟨_,rfl⟩;have ei1:(bP vars v:Int)+(j:Int)=((bP vars v+j:Nat):Int):=by omega
 obtain⟨p2,Ja⟩:∃p,p=bP vars v+j:=⟨_,rfl⟩;rw[<-Ja] at hi ei1 Jj;have ei2:2*(p2:Int)=((2*p2:Nat):Int):=by omega
 obtain⟨p3,JZ⟩:∃p,p=2*p2:=⟨_,rfl⟩;rw[<-JZ] at hi ei2;have ei3:(p3:Int)+(nx:Int)=(i:Int):=by omega
 simp(disch:=omega)[g11,g0,g1,g3,zA ob,zA os,Jb.idx,Jh,ei1,ei2,ei3,zH];refine zG (zDW i JW hB h2 (by omega) (hL i (by omega)).1) ?_;rintro _ w3 ⟨y,e3,JY,rfl,JI,JK,h3⟩;have JL:=JW.stp JI;have Jl:x<64:=by have h64:2^Wn<=2^6:=Nat.pow_le_pow_right (by omega) (by omega);rw[<-hW] at hx;omega
 obtain⟨d,hd⟩:∃d,d=Wn-1-j:=⟨_,rfl⟩;have ed1:(Wn:Int)-1=((Wn-1:Nat):Int):=by omega
 have ed:((Wn-1:Nat):Int)-(j:Int)=(d:Int):=by omega
 have JH:=zMQ (x:=x) (d:=d) (by omega) (by omega);have Jc:=hm.keep JW.wf JI;have JB:∀a,vlB vars v x nx j a=(decide (a i=x.testBit d)&&vlB vars v x nx (j+1) a):=fun a=>by rw[zO2 (by rw[<-hW];omega),<-hW,<-Ja,<-JZ,<-hi,<-hd]
 have JG:W fun a=>decide (a i=x.testBit d)&&vlB vars v x nx (j+1) a:=by rw[<-show vlB vars v x nx j=fun a=>decide (a i=x.testBit d)&&vlB vars v x nx (j+1) a from funext JB];exact hV j (by rw[<-hW];omega)
 have fin:∀(e5:Bool) (JC:Ns),Stp (2*zD vars) lim W e2 ns2 e5 JC->∀(u:Nat) (e6:Bool) (JD:Ns),Stp (2*zD vars) lim W e5 JC e6 JD->Mn JD e6 u (fun a=>decide (a i=x.testBit d)&&vlB vars v x nx (j+1) a)->Stp (2*zD vars) lim W e ns e6 JD/\Mn JD e6 u (vlB vars v x nx j):=fun e5 JC a1 u e6 JD a4 a5 =>
  ⟨(hs.trans a1).trans a4,a5.1,fun he=>⟨(a5.2 he).1,fun a=>by rw[(a5.2 he).2 a,JB a]⟩⟩
 by_cases JA:x.testBit d=true
 ·rw[if_pos JA] at JH;simp(disch:=omega)[g0,g2,g9,g10,g11,ed1,ed,zH,JH];have JV:Mn JY e3 y (fun a=>decide (a i=x.testBit d)):=⟨JK.1,fun he=>⟨(JK.2 he).1,fun a=>by rw[(JK.2 he).2 a,JA];show a i=decide (a i=true);cases a i<;>rfl⟩⟩;refine zG (zp y f _ _ JL hB h3 JV Jc JG) ?_;rintro _ w4 ⟨u,e4,JE,rfl,JR,JU,h4⟩;obtain⟨r1,r2⟩:=fin e3 JY JI u e4 JE JR JU;simp(disch:=omega)[g11,zH];refine⟨j,by omega,by simp[g0],by simp[g1],by simp[g2],by simp[g3],by simp[g10,hW],by simp,by rw[<-hW];omega,u,e4,JE,by simp,r1,r2,h4⟩
 ·rw[if_neg JA] at JH;have JF:x.testBit d=false:=by simpa using JA
  simp(disch:=omega)[g0,g2,g9,g10,g11,ed1,ed,zH,JH];refine zG (zCO y _ JL hB h3 JK (hL i (by omega)).2) ?_;rintro _ w5 ⟨z,e5,JC,rfl,JQ,JT,h5⟩;have Jf:=JL.stp JQ;have Ji:=Jc.keep JL.wf JQ;have JS:Mn JC e5 z (fun a=>decide (a i=x.testBit d)):=⟨JT.1,fun he=>⟨(JT.2 he).1,fun a=>by rw[(JT.2 he).2 a,JF];show(!a i)=decide (a i=false);cases a i<;>rfl⟩⟩;simp[g0,g9];refine zG (zp z f _ _ Jf hB h5 JS Ji JG) ?_;rintro _ w4 ⟨u,e4,JE,rfl,JR,JU,h4⟩;obtain⟨r1,r2⟩:=fin e5 JC (JI.trans JQ) u e4 JE JR JU;simp(disch:=omega)[g11,zH];refine⟨j,by omega,by simp[g0],by simp[g1],by simp[g2],by simp[g3],by simp[g10,hW],by simp,by rw[<-hW];omega,u,e4,JE,by simp,r1,r2,h4⟩
end
end
section
open Go Go.W Go.Tk Go.Rx Go.Bd Go.Sy Go.Maps
def fcB(vars:List Nat)(l:List Go.Tk.Fc)(k:Nat)(a:Nat->Bool):Bool:=(l.drop k).all fun f=>decide (rv vars a 0 f.1=f.2)
theorem zKN{vars:List Nat}{l:List Go.Tk.Fc}{k:Nat}{f:Go.Tk.Fc}{a:Nat->Bool}(h:l[k]? = some f):fcB vars l k a=(decide (rv vars a 0 f.1=f.2)&&fcB vars l (k+1) a):=by
 obtain⟨hk,rfl⟩:=List.getElem?_eq_some_iff.1 h;unfold fcB;rw[List.drop_eq_getElem_cons hk,List.all_cons]
theorem zTL{vars:List Nat}{l:List Go.Tk.Fc}{a:Nat->Bool}:fcB vars l l.length a=true:=by unfold fcB;simp
theorem zTM{vars:List Nat}{l:List Go.Tk.Fc}{a:Nat->Bool}(h:∀f∈l,f.1<vars.length):fcB vars l 0 a=hdB (rs vars a 0) l:=by
 unfold fcB hdB;rw[List.drop_zero,Bool.eq_iff_iff,List.all_eq_true,List.all_eq_true];constructor
 ·intro h1 f hf;have:=h1 f hf;rw[zCe (h f hf)];exact this
 ·intro h1 f hf;have:=h1 f hf;rw[zCe (h f hf)] at this;exact this
def FcI(b s m lim:Nat)(vars:List Nat)(q:SpC)(e:Bool)(ns:Ns)(B:Asr)(w:World)(F:List Nat)(W:((Nat->Bool)->Bool)->Prop)(lv:Value)(l:List Go.Tk.Fc)(n:Nat)(ρ:Env)(w':World):Prop :=
 ρ 0=.pointer (some ⟨b,0,none⟩)/\ρ 1=lv/\ρ 6=.int .i64 ((n:Int)-1)/\n<=l.length /\
  ∃f e' ns',ρ 5=.int .i64 (f:Nat)/\Stp (2*zD vars) lim W e ns e' ns'/\Mn ns' e' f (fcB vars l n)/\At w F (BlA b s m lim vars q e' ns' B) w'
def FcW(vars:List Nat)(l:List Go.Tk.Fc)(W:((Nat->Bool)->Bool)->Prop):Prop:=(∀f∈l,VlW vars f.1 f.2 0 W)/\∀j,j<l.length->W (fcB vars l j)
def Rds(B:Asr)(P:World->Prop):Prop:=∀w' F',B w' F'->P w'
theorem BlA.frame{w w1:World}{F:List Nat}{B:Asr}{b s m lim:Nat}{vars:List Nat}{q:SpC}{e:Bool}{ns:Ns}{P:World->Prop}(h:At w F (BlA b s m lim vars q e ns B) w1)(hP:Rds B P):P w1:=by
 unfold BlA at h;obtain⟨_,hq,_⟩:=h.drop.drop.drop.drop.drop.ex;exact hP _ _ hq
section
variable {w w1:World} {F:List Nat} {B:Asr} {b s m lim:Nat} {vars:List Nat} {q:SpC} {e:Bool} {ns:Ns} {W:((Nat->Bool)->Bool)->Prop}
theorem zB0(lv:Value)(l:List Go.Tk.Fc)(hk:zFr vars lim ns)(hB:Lcl B)(h:At w F (BlA b s m lim vars q e ns B) w1)(hl:Rds B fun w'=>Vw w' lv fcE l)(hr:zHB vars l)(JR:l.length<=1000)(hL:LitW vars W)(hF:FcW vars l W) :
  Calls Tryz.prog 86 [.pointer (some ⟨b,0,none⟩),lv].toArray w1 fun en w'=>∃u,en=.returned u/\zIL b s m lim vars q e ns B w F W (fun a=>hdB (rs vars a 0) l) u w':=by
 refine enter Tryz.func86 mixed low86 (Nat.le_of_ble_eq_true rfl) ?_;simp only[L86];have JF:=BlA.frame h hl;simp(disch:=omega)[JF.len,zH];refine z8 (FcI b s m lim vars q e ns B w F W lv l) l.length ⟨by simp,by simp,by simp,Nat.le_refl _,1,e,ns,by simp,Stp.refl hk.wf hk.nl,zEu hk.wf _ _ fun a=>zTL,h⟩ ?_;clear h JF;rintro n ρ w2 ⟨g0,g1,g6,JQ,f,e2,ns2,g5,hs,hm,h2⟩;by_cases JK:n=0
 ·subst JK;simp[g6,g5];refine⟨f,e2,ns2,rfl,hs,?_,h2⟩;exact⟨hm.1,fun he=>⟨(hm.2 he).1,fun a=>by rw[(hm.2 he).2 a,zTM fun f hf=>(hr f hf).1]⟩⟩
 obtain⟨j,rfl⟩:∃j,n=j+1:=⟨n-1,by omega⟩;have JN:((j+1:Nat):Int)-1=(j:Int):=by omega
 rw[JN] at g6;have JD:=hk.stp hs;obtain⟨x,hx⟩:∃x,l[j]? = some x:=⟨_,List.getElem?_eq_getElem (by omega)⟩;obtain⟨r1,r2⟩:=hr x (List.mem_of_getElem? hx);have hd:=(Kp.refl [] w2).drew;have JA:=BlA.frame h2 hl;have c1:=JA.fld zC1 hx (o:=0) rfl;have c2:=JA.fld zC1 hx (o:=1) rfl;have JS:(j:Int)<l.length:=by omega
 have JO:=h2.drew (BlA.lcl hB);have h64:=hk.v64 (vars.getD x.1 0) (by simp[List.getD,List.getElem?_eq_getElem r1]);have JH:x.2<2^wd (vars.getD x.1 0):=Nat.lt_of_lt_of_le r2 (zKt h64.2);simp(disch:=omega)[g6,g0,g1,g5,JA.idx,c1,c2];have JE:W fun a=>decide (rv vars a 0 x.1=x.2)&&fcB vars l (j+1) a:=by have:=hF.2 j (by omega);rwa[show fcB vars l j=fun a=>decide (rv vars a 0 x.1=x.2)&&fcB vars l (j+1) a from funext fun a=>zKN hx] at this
 refine zG (zC3 x.1 x.2 0 JD hB JO r1 JH (by omega) hL (hF.1 x (List.mem_of_getElem? hx))) ?_;rintro _ w3 ⟨y,e3,JP,rfl,JB,JL,h3⟩;have JM:=JD.stp JB;simp[g0,g5];refine zG (zp y f _ _ JM hB h3 JL (hm.keep JD.wf JB) JE) ?_;rintro _ w4 ⟨u,e4,JG,rfl,JI,JC,h4⟩;simp(disch:=omega)[g6,zH];refine⟨j,by omega,by simp[g0],by simp[g1],by simp,by omega,u,e4,JG,by simp,(hs.trans JB).trans JI,⟨JC.1,fun he=>⟨(JC.2 he).1,fun a=>by rw[(JC.2 he).2 a,zKN hx]⟩⟩,h4⟩
def saB(vars:List Nat)(v k:Nat)(a:Nat->Bool):Bool:=(List.range (wd (vars.getD v 0)-k)).all fun j=>decide (a (2*(bP vars v+(k+j)))=a (2*(bP vars v+(k+j))+1))
theorem zSG{vars:List Nat}{v:Nat}{a:Nat->Bool}:saB vars v (wd (vars.getD v 0)) a=true:=by unfold saB;simp
theorem zPM{vars:List Nat}{v k:Nat}{a:Nat->Bool}(hk:k<wd (vars.getD v 0)):saB vars v k a=(decide (a (2*(bP vars v+k))=a (2*(bP vars v+k)+1))&&saB vars v (k+1) a):=by
 unfold saB;rw[show wd (vars.getD v 0)-k=(wd (vars.getD v 0)-(k+1))+1 by omega,List.range_succ_eq_map,List.all_cons,List.all_map];congr 1;refine congrArg (fun f=>(List.range (wd (vars.getD v 0)-(k+1))).all f) ?_;funext j;simp only[Function.comp];rw[show k+j.succ=k+1+j by omega]
theorem zSH{vars:List Nat}{v:Nat}{a:Nat->Bool}:saB vars v 0 a=decide (rv vars a 0 v=rv vars a 1 v):=by
 rw[Bool.eq_iff_iff,decide_eq_true_iff];unfold saB;rw[List.all_eq_true];constructor
 ·intro h;unfold rv;refine zBj _ fun k hk=>?_;have:=h k (List.mem_range.2 (by omega));simpa using this
 ·intro h k hk;have hk:=List.mem_range.1 hk;have h1:=(zBK (g:=fun k=>a (2*(bP vars v+k)+0)) _ _ (zK9 vars a 0 v)).2 rfl k (by omega);have h2:=(zBK (g:=fun k=>a (2*(bP vars v+k)+1)) _ _ (zK9 vars a 1 v)).2 rfl k (by omega);rw[<-h] at h2;have:=h1.trans h2.symm;simpa using this
def SaW(vars:List Nat)(v:Nat)(W:((Nat->Bool)->Bool)->Prop):Prop:=∀j,j<wd (vars.getD v 0)->W (fun a=>a (2*(bP vars v+j))&&a (2*(bP vars v+j)+1))/\W (fun a=>!a (2*(bP vars v+j)) && !a (2*(bP vars v+j)+1)) /\
 W (fun a=>(a (2*(bP vars v+j))&&a (2*(bP vars v+j)+1))||(!a (2*(bP vars v+j)) && !a (2*(bP vars v+j)+1)))/\W (saB vars v j)
def SaI(b s m lim:Nat)(vars:List Nat)(q:SpC)(e:Bool)(ns:Ns)(B:Asr)(w:World)(F:List Nat)(W:((Nat->Bool)->Bool)->Prop)(v n:Nat)(ρ:Env)(w':World):Prop :=
 ρ 0=.pointer (some ⟨b,0,none⟩)/\ρ 1=.int .i64 (v:Nat)/\ρ 6=.int .i64 ((n:Int)-1)/\n<=wd (vars.getD v 0) /\
  ∃f e' ns',ρ 5=.int .i64 (f:Nat)/\Stp (2*zD vars) lim W e ns e' ns'/\Mn ns' e' f (saB vars v n)/\At w F (BlA b s m lim vars q e' ns' B) w'
theorem zLl(v:Nat)(hk:zFr vars lim ns)(hB:Lcl B)(h:At w F (BlA b s m lim vars q e ns B) w1)(hv:v<vars.length)(hL:LitW vars W)(hS:SaW vars v W) :
  Calls Tryz.prog 210 [.pointer (some ⟨b,0,none⟩),.int .i64 (v:Nat)].toArray w1 fun en w'=>∃u,en=.returned u/\zIL b s m lim vars q e ns B w F W (fun a=>decide (rv vars a 0 v=rv vars a 1 v)) u w':=by
 refine enter Tryz.func210 mixed low210 (Nat.le_of_ble_eq_true rfl) ?_;simp only[L210];have h':=h;unfold BlA at h';have ob:=h'.drop.obj;have os:=h'.drop.drop.obj;have JQ:=h'.drop.drop.drop.drop.own.vw;unfold blO at ob;unfold spO at os;obtain⟨n,JS⟩:∃n,vars[v]? = some n:=⟨_,List.getElem?_eq_getElem hv⟩;have Jd:vars.getD v 0=n:=by simp[List.getD,JS]
 have J2:=zFi n;obtain⟨Wn,hW⟩:∃Wn,Wn=wd (vars.getD v 0):=⟨_,rfl⟩;have Jr:wd n=Wn:=by rw[hW,Jd]
 have J3:(v:Int)<(zBB vars).length:=by simp[zBB];omega
 have JR:=zAM JQ (zDA JS);rw[Jr] at JR;simp(disch:=omega)[zA ob,zA os,JQ.idx,JR,zH];refine z8 (SaI b s m lim vars q e ns B w F W v) Wn ⟨by simp,by simp,by simp,by rw[hW];exact Nat.le_refl _,1,e,ns,by simp,Stp.refl hk.wf hk.nl,zEu hk.wf _ _ fun a=>by rw[hW];exact zSG,h⟩ ?_;clear h h' ob os JQ JR;rintro k ρ w2 ⟨g0,g1,g6,Jk,f,e2,ns2,g5,hs,hm,h2⟩;rw[<-hW] at Jk;by_cases Jm:k=0
 ·subst Jm;simp[g6,g5];refine⟨f,e2,ns2,rfl,hs,?_,h2⟩;exact⟨hm.1,fun he=>⟨(hm.2 he).1,fun a=>by rw[(hm.2 he).2 a,zSH]⟩⟩
 obtain⟨j,rfl⟩:∃j,k=j+1:=⟨k-1,by omega⟩;have Jn:((j+1:Nat):Int)-1=(j:Int):=by omega
 rw[Jn] at g6;have JZ:=hk.stp hs;have JO:=h2;unfold BlA at JO;have ob:=JO.drop.obj;have os:=JO.drop.drop.obj;have Jc:=JO.drop.drop.drop.own.vw;unfold blO at ob;unfold spO at os;have Jo:=zAM Jc (zFD hv);have J4:(v:Int)<(zBC vars).length:=by simp[zBC];omega
 have Jq:=zQb JS (show j<wd n by omega);have J5:=hk.bt;have ei1:(bP vars v:Int)+(j:Int)=((bP vars v+j:Nat):Int):=by omega
 obtain⟨p2,JX⟩:∃p,p=bP vars v+j:=⟨_,rfl⟩;rw[<-JX] at ei1 Jq;have ei2:2*(p2:Int)=((2*p2:Nat):Int):=by omega
 obtain⟨i,hi⟩:∃i,i=2*p2:=⟨_,rfl⟩;rw[<-hi] at ei2;obtain⟨i1,Jb⟩:∃i1,i1=i+1:=⟨_,rfl⟩;have ei3:(i:Int)+1=(i1:Int):=by omega
 have JA:∀a,saB vars v j a=(decide (a i=a i1)&&saB vars v (j+1) a):=fun a=>by rw[zPM (by rw[<-hW];omega),<-JX,<-hi,<-Jb]
 obtain⟨w1,w2',w3',w4'⟩:=hS j (by rw[<-hW];omega);rw[<-JX,<-hi,<-Jb] at w1 w2' w3';have JT:saB vars v j=fun a=>saB vars v (j+1) a&&((a i&&a i1)||(!a i && !a i1)):=funext fun a=>by rw[JA a];cases a i<;>cases a i1<;>simp
 rw[JT] at w4';simp(disch:=omega)[g6,g0,g1,zA ob,zA os,Jc.idx,Jo,ei1,ei2,zH];refine zG (zDW i JZ hB h2 (by omega) (hL i (by omega)).1) ?_;rintro _ w3 ⟨y1,e3,J1,rfl,JV,Jj,h3⟩;have JN:=JZ.stp JV;simp(disch:=omega)[g0,ei3,zH];refine zG (zDW i1 JN hB h3 (by omega) (hL i1 (by omega)).1) ?_;rintro _ w4 ⟨y2,e4,J0,rfl,JL,Ja,h4⟩;have JI:=JN.stp JL;have JF:=Jj.keep JN.wf JL;simp[g0,g5];refine zG (zp y1 y2 _ _ JI hB h4 JF Ja w1) ?_;rintro _ w5 ⟨y3,e5,Jz,rfl,JE,Ji,h5⟩;have JH:=JI.stp JE;simp[g0];refine zG (zCO y1 _ JH hB h5 (JF.keep JI.wf JE) (hL i (by omega)).2) ?_;rintro _ w6 ⟨y4,e6,Jy,rfl,JD,Jh,h6⟩;have JG:=JH.stp JD;simp[g0];refine zG (zCO y2 _ JG hB h6 ((Ja.keep JI.wf JE).keep JH.wf JD) (hL i1 (by omega)).2) ?_;rintro _ w7 ⟨y5,e7,Jx,rfl,JC,Jg,h7⟩;have JM:=JG.stp JC;simp[g0];refine zG (zp y4 y5 _ _ JM hB h7 (Jh.keep JG.wf JC) Jg w2') ?_;rintro _ w8 ⟨y6,e8,Jw,rfl,JK,Jf,h8⟩;have JY:=JM.stp JK;simp[g0];refine zG (zEX y3 y6 _ _ JY hB h8 (((Ji.keep JH.wf JD).keep JG.wf JC).keep JM.wf JK) Jf w3') ?_;rintro _ w9 ⟨y7,e9,Jv,rfl,JU,Je,h9⟩;have Jl:=JY.stp JU;have Jp:=((((((hm.keep JZ.wf JV).keep JN.wf JL).keep JI.wf JE).keep JH.wf JD).keep JG.wf JC).keep JM.wf JK).keep JY.wf JU;simp[g0,g5];refine zG (zp f y7 _ _ Jl hB h9 Jp Je w4') ?_;rintro _ Ju ⟨u,Jt,JP,rfl,JW,JB,Js⟩;simp(disch:=omega)[g6,zH];refine⟨j,by omega,by simp[g0],by simp[g1],by simp,by rw[<-hW];omega,u,Jt,JP,by simp,?_,⟨JB.1,fun he=>⟨(JB.2 he).1,fun a=>?_⟩⟩,Js⟩
 ·exact(((((((hs.trans JV).trans JL).trans JE).trans JD).trans JC).trans JK).trans JU).trans JW
 ·rw[(JB.2 he).2 a,JA a];show(saB vars v (j+1) a&&((a i&&a i1)||(!a i && !a i1)))=_;cases a i<;>cases a i1<;>simp
end
end
section
open Go Go.W Go.Tk Go.Rx Go.Bd Go.Sy Go.Maps
theorem Rds.star{A B:Asr}{P:World->Prop}(h:Rds B P):Rds (zC A B) P:=fun w' F' hs=>by
 obtain⟨Fa,Fb,_,hb,_⟩:=hs;exact h w' Fb hb
theorem Rds.obj{B:Asr}{b:Nat}{o:Obj}:Rds (zC (zL b o) B) fun w'=>w'.heap[b]? = some o:=fun w' F' hs=>by
 obtain⟨Fa,Fb,ha,_⟩:=hs;exact ha.1
theorem BlA.into{w w1:World}{F:List Nat}{A B:Asr}{b s m lim:Nat}{vars:List Nat}{q:SpC}{e:Bool}{ns:Ns}(h:At w F (zC A (BlA b s m lim vars q e ns B)) w1):At w F (BlA b s m lim vars q e ns (zC A B)) w1:=by
 unfold BlA at h ⊢;exact h.by Imp.bk6
theorem BlA.less{w w1:World}{F:List Nat}{A B:Asr}{b s m lim:Nat}{vars:List Nat}{q:SpC}{e:Bool}{ns:Ns}(h:At w F (BlA b s m lim vars q e ns (zC A B)) w1):At w F (BlA b s m lim vars q e ns B) w1:=by
 unfold BlA at h ⊢;exact h.by (Imp.un4 (Imp.un Imp.dr))
def lsE(vars:List Nat)(o:No)(v n:Nat)(a:Nat->Bool):Option Nat:=zFk o (rs vars a 0) v (o.effs.length-n) n
def ouB(vars:List Nat)(o:No)(v n:Nat)(a:Nat->Bool):Bool:=match lsE vars o v n a with|some z=>decide (rv vars a 1 v=z)|none=>false
def leB(vars:List Nat)(o:No)(v n:Nat)(a:Nat->Bool):Bool:=(lsE vars o v n a).isNone
theorem zNF{vars:List Nat}{o:No}{v:Nat}{a:Nat->Bool}:lsE vars o v o.effs.length a=none:=by unfold lsE;rw[Nat.sub_self];rfl
theorem zKC{vars:List Nat}{o:No}{v j:Nat}{a:Nat->Bool}{x:Nf}(h:o.effs[j]? = some x):lsE vars o v j a=(match lsE vars o v (j+1) a with
  |some z=>some z
  |none=>if x.v=v/\hdB (rs vars a 0) x.cnd=true then some x.x else none):=by
 have hj:=(List.getElem?_eq_some_iff.1 h).1;unfold lsE;rw[show o.effs.length-j=(o.effs.length-(j+1))+1 by omega,zDh,h];cases zFk o (rs vars a 0) v (o.effs.length-(j+1)) (j+1)<;>rfl
theorem zMu{vars:List Nat}{o:No}{v j:Nat}{a:Nat->Bool}{x:Nf}(h:o.effs[j]? = some x)(hv:x.v≠v):ouB vars o v j a=ouB vars o v (j+1) a/\leB vars o v j a=leB vars o v (j+1) a:=by
 have:lsE vars o v j a=lsE vars o v (j+1) a:=by
  rw[zKC h];cases lsE vars o v (j+1) a with
  |some z=>rfl
  |none=>simp[hv]
 unfold ouB leB;rw[this];exact⟨rfl,rfl⟩
theorem zGd{vars:List Nat}{o:No}{v j:Nat}{a:Nat->Bool}{x:Nf}(h:o.effs[j]? = some x)(hv:x.v=v):ouB vars o v j a=(ouB vars o v (j+1) a||(leB vars o v (j+1) a&&hdB (rs vars a 0) x.cnd&&decide (rv vars a 1 v=x.x)))/\leB vars o v j a=(leB vars o v (j+1) a && !hdB (rs vars a 0) x.cnd):=by
 unfold ouB leB;rw[zKC h];cases lsE vars o v (j+1) a with
 |some z=>simp
 |none =>
  cases hc:hdB (rs vars a 0) x.cnd with
  |true=>simp[hv]
  |false=>simp
theorem zOM{vars:List Nat}{o:No}{v:Nat}{a:Nat->Bool}(hv:v<vars.length):(ouB vars o v 0 a||(leB vars o v 0 a&&decide (rv vars a 0 v=rv vars a 1 v)))=decide (rv vars a 1 v=zJE o (rs vars a 0) v):=by
 unfold ouB leB zJE lsE;rw[Nat.sub_zero];cases zFk o (rs vars a 0) v o.effs.length 0 with
 |some z=>simp
 |none =>rw[Bool.eq_iff_iff];simp only[Option.isNone_none,Bool.true_and,Bool.false_or,decide_eq_true_eq,Option.getD_none,zCe hv];exact eq_comm
structure ChW(vars:List Nat)(o:No)(v:Nat)(W:((Nat->Bool)->Bool)->Prop):Prop where
 sa:SaW vars v W
 kp:W fun a=>leB vars o v 0 a&&decide (rv vars a 0 v=rv vars a 1 v)
 ch:W fun a=>decide (rv vars a 1 v=zJE o (rs vars a 0) v)
 fc:∀(j:Nat) (x:Nf),o.effs[j]? = some x->x.v=v->FcW vars x.cnd W
 vl:∀(j:Nat) (x:Nf),o.effs[j]? = some x->x.v=v->VlW vars v x.x 1 W
 lw:∀(j:Nat) (x:Nf),o.effs[j]? = some x->x.v=v->W fun a=>leB vars o v (j+1) a&&hdB (rs vars a 0) x.cnd
 lv:∀(j:Nat) (x:Nf),o.effs[j]? = some x->x.v=v->W fun a=>(leB vars o v (j+1) a&&hdB (rs vars a 0) x.cnd)&&decide (rv vars a 1 v=x.x)
 ou:∀(j:Nat) (x:Nf),o.effs[j]? = some x->x.v=v->W (ouB vars o v j)
 nw:∀(j:Nat) (x:Nf),o.effs[j]? = some x->x.v=v->W fun a=>!hdB (rs vars a 0) x.cnd
 le:∀(j:Nat) (x:Nf),o.effs[j]? = some x->x.v=v->W (leB vars o v j)
def sChI(b s m lim:Nat)(vars:List Nat)(q:SpC)(e:Bool)(ns:Ns)(B:Asr)(w:World)(F:List Nat)(W:((Nat->Bool)->Bool)->Prop)(ob:Nat)(o:No)(v n:Nat)(ρ:Env)(w':World):Prop :=
 ρ 0=.pointer (some ⟨b,0,none⟩)/\ρ 2=.int .i64 (v:Nat)/\ρ 4=.pointer (some ⟨ob,0,none⟩)/\ρ 9=.int .i64 ((n:Int)-1)/\n<=o.effs.length /\
  ∃f g e' ns',ρ 7=.int .i64 (f:Nat)/\ρ 8=.int .i64 (g:Nat)/\Stp (2*zD vars) lim W e ns e' ns'/\Mn ns' e' f (ouB vars o v n)/\Mn ns' e' g (leB vars o v n)/\At w F (BlA b s m lim vars q e' ns' (zC (zL ob (oqO o.raw)) B)) w'
section
variable {w w1:World} {F:List Nat} {B:Asr} {b s m lim:Nat} {vars:List Nat} {q:SpC} {e:Bool} {ns:Ns} {W:((Nat->Bool)->Bool)->Prop}
theorem zG5(o:No)(v:Nat)(hk:zFr vars lim ns)(hB:Lcl B)(h:At w F (BlA b s m lim vars q e ns B) w1)(hv:v<vars.length)(hr:Rds B fun w'=>NoR w' o)(hg:NoG vars o)(hL:LitW vars W)(hC:ChW vars o v W) :
  Calls Tryz.prog 147 [.pointer (some ⟨b,0,none⟩),noV o,.int .i64 (v:Nat)].toArray w1 fun en w'=>∃u,en=.returned u/\zIL b s m lim vars q e ns B w F W (fun a=>decide (rv vars a 1 v=zJE o (rs vars a 0) v)) u w':=by
 refine enter Tryz.func147 mixed low147 (Nat.le_of_ble_eq_true rfl) ?_;simp only[L147];have Jl:=hg.elen;have KC:=hk.len;obtain⟨ob,Jf⟩:∃ob,ob=w1.heap.size:=⟨_,rfl⟩;have h1:At w F (zC (zL ob (oqO o.raw)) (BlA b s m lim vars q e ns B)) (w1.alloc (oqO o.raw)):=by rw[Jf];exact h.alloc _ (BlA.lcl hB)
 obtain⟨w2,Jj⟩:∃w2,w2=w1.alloc (oqO o.raw):=⟨_,rfl⟩;rw[<-Jj] at h1;have Jd:w1.alloc (.cells #[.string o.name,.int .i64 (o.cost:Nat),o.pv.1,o.ev.1] 41 (0,0))=w2:=by rw[Jj];rfl
 have h2:=BlA.into h1;have JU:Lcl (zC (zL ob (oqO o.raw)) B):=Lcl.obj.star hB;have oo2:=BlA.frame h2 Rds.obj;unfold oqO No.raw at oo2;have ro2:=BlA.frame h2 hr.star;simp(disch:=omega)[noV,<-Jf,Jd,zA oo2,ro2.effs.len,zH];refine z8 (sChI b s m lim vars q e ns B w F W ob o v) o.effs.length ⟨by simp,by simp,by simp[Jf],by simp,Nat.le_refl _,0,1,e,ns,by simp,by simp,Stp.refl hk.wf hk.nl,⟨Nat.zero_le _,fun _=>⟨Ref.zero ns,fun a=>by rw[zN];unfold ouB;rw[zNF]⟩⟩,zEu hk.wf _ _ (fun a=>by unfold leB;rw[zNF];rfl),h2⟩ ?_;clear h h1 h2 oo2 ro2;rintro n ρ w3 ⟨g0,g2,g4,g9,KD,f,g,e3,Jn,g7,g8,hs,JQ,JP,h3⟩;have JD:=hk.stp hs;by_cases Js:n=0
 ·subst Js;simp[g9,g0,g2];refine zG (zLl v JD JU h3 hv hL hC.sa) ?_;rintro _ w4 ⟨y,e4,J9,rfl,JW,Jw,h4⟩;have Jh:=JD.stp JW;simp[g0,g8];refine zG (zp g y _ _ Jh JU h4 (JP.keep JD.wf JW) Jw hC.kp) ?_;rintro _ w5 ⟨y5,e5,Jm,rfl,JC,JX,h5⟩;have JK:=Jh.stp JC;simp[g0,g7];have Jy:W fun a=>ouB vars o v 0 a||(leB vars o v 0 a&&decide (rv vars a 0 v=rv vars a 1 v)):=by have:=hC.ch;rwa[<-show(fun a=>ouB vars o v 0 a||(leB vars o v 0 a&&decide (rv vars a 0 v=rv vars a 1 v)))=fun a=>decide (rv vars a 1 v=zJE o (rs vars a 0) v) from funext fun a=>zOM hv] at this
  refine zG (zEX f y5 _ _ JK JU h5 ((JQ.keep JD.wf JW).keep Jh.wf JC) JX Jy) ?_;rintro _ w6 ⟨u,e6,Ji,rfl,JH,JR,h6⟩;simp;refine⟨u,e6,Ji,rfl,((hs.trans JW).trans JC).trans JH,⟨JR.1,fun he=>⟨(JR.2 he).1,fun a=>?_⟩⟩,BlA.less h6⟩;rw[(JR.2 he).2 a];exact zOM hv
 obtain⟨j,rfl⟩:∃j,n=j+1:=⟨n-1,by omega⟩;have Jx:((j+1:Nat):Int)-1=(j:Int):=by omega
 rw[Jx] at g9;obtain⟨x,hx⟩:∃x,o.effs[j]? = some x:=⟨_,List.getElem?_eq_getElem (by omega)⟩;have Jc:=List.mem_of_getElem? hx;have oo3:=BlA.frame h3 Rds.obj;unfold oqO No.raw at oo3;have ro3:=BlA.frame h3 hr.star;have ec:=ro3.effs.cells zA7 hx;simp only[nfE] at ec;have KF:(j:Int)<o.effs.length:=by omega
 obtain⟨eb,heb⟩:∃eb,eb=w3.heap.size:=⟨_,rfl⟩;simp(disch:=omega)[g9,g4,zA oo3,ro3.effs.idx,ec,<-heb];refine zK4 (e:=x.raw) (BlA.lcl JU) h3 heb fun w4 h4=>?_;have oe4:=h4.obj;unfold efO Nf.raw at oe4;by_cases JA:x.v=v
 case neg =>
  have JG:((x.v:Int)==(v:Int))=false:=by simp;omega
  have Jb:¬(x.v:Int)=(v:Int):=by omega
  have JF:((x.v:Int) != (v:Int))=true:=by unfold bne;rw[JG];rfl
  simp(disch:=omega)[zA oe4,<-heb,g2,JF,g9,zH];refine⟨j,by omega,by simp[g0],by simp[g2],by simp[g4],by simp,by omega,f,g,e3,Jn,by simp[g7],by simp[g8],hs,?_,?_,h4.by Imp.dr⟩
  ·exact⟨JQ.1,fun he=>⟨(JQ.2 he).1,fun a=>by rw[(JQ.2 he).2 a,(zMu hx JA).1]⟩⟩
  ·exact⟨JP.1,fun he=>⟨(JP.2 he).1,fun a=>by rw[(JP.2 he).2 a,(zMu hx JA).2]⟩⟩
 have JG:((x.v:Int)==(v:Int))=true:=by simp;omega
 have Jb:(x.v:Int)=(v:Int):=by omega
 have Jk:=hg.cnd x Jc;have KG:=Jk.len;obtain⟨f1,f2⟩:=hg.eff x Jc;have JF:((x.v:Int) != (v:Int))=false:=by unfold bne;rw[JG];rfl
 simp(disch:=omega)[zA oe4,<-heb,g2,JF,g0];have J0:=BlA.into h4;have JE:Lcl (zC (zL eb (efO x.raw)) (zC (zL ob (oqO o.raw)) B)):=Lcl.obj.star JU;have Jr:Rds (zC (zL eb (efO x.raw)) (zC (zL ob (oqO o.raw)) B)) fun w'=>Vw w' x.wv.1 fcE x.cnd:=Rds.star (Rds.star fun w' F' hb=>(hr w' F' hb).cnd x Jc);have Jq:W fun a=>ouB vars o v (j+1) a||((leB vars o v (j+1) a&&hdB (rs vars a 0) x.cnd)&&decide (rv vars a 1 v=x.x)):=by have:=hC.ou j x hx JA;rwa[show ouB vars o v j=fun a=>ouB vars o v (j+1) a||((leB vars o v (j+1) a&&hdB (rs vars a 0) x.cnd)&&decide (rv vars a 1 v=x.x)) from funext fun a=>(zGd hx JA).1] at this
 have Je:W fun a=>leB vars o v (j+1) a && !hdB (rs vars a 0) x.cnd:=by have:=hC.le j x hx JA;rwa[show leB vars o v j=fun a=>leB vars o v (j+1) a && !hdB (rs vars a 0) x.cnd from funext fun a=>(zGd hx JA).2] at this
 refine zG (zB0 x.wv.1 x.cnd JD JE J0 Jr Jk.rng (by omega) hL (hC.fc j x hx JA)) ?_;rintro _ w5 ⟨y5,e5,Jm,rfl,JC,JX,h5⟩;have JK:=JD.stp JC;have oe5:=BlA.frame h5 Rds.obj;unfold efO Nf.raw at oe5;have Jz:=h5.drew (BlA.lcl JE);have h64:=hk.v64 (vars.getD x.v 0) (by simp[List.getD,List.getElem?_eq_getElem f1]);have Jp:x.x<2^wd (vars.getD v 0):=by rw[<-JA];exact Nat.lt_of_lt_of_le f2 (zKt h64.2)
 have mg5:=JP.keep JD.wf JC;have mf5:=JQ.keep JD.wf JC;simp[g0,g8,zA oe5,<-heb];refine⟨?_,?_⟩ <;>
 ·refine zG (zp g y5 _ _ JK JE Jz mg5 JX (hC.lw j x hx JA)) ?_;rintro _ w6 ⟨y6,e6,Ji,rfl,JH,JR,h6⟩;have JM:=JK.stp JH;have oe6:=BlA.frame h6 Rds.obj;unfold efO Nf.raw at oe6;simp[g0,g2,zA oe6,<-heb];refine zG (zC3 v x.x 1 JM JE h6 hv Jp (by omega) hL (hC.vl j x hx JA)) ?_;rintro _ w7 ⟨y7,e7,J8,rfl,JL,Jv,h7⟩;have JS:=JM.stp JL;simp[g0];refine zG (zp y6 y7 _ _ JS JE h7 (JR.keep JM.wf JL) Jv (hC.lv j x hx JA)) ?_;rintro _ w8 ⟨y8,e8,J7,rfl,JN,Ju,h8⟩;have JZ:=JS.stp JN;simp[g0,g7];refine zG (zEX f y8 _ _ JZ JE h8 (((mf5.keep JK.wf JH).keep JM.wf JL).keep JS.wf JN) Ju Jq) ?_;rintro _ w9 ⟨y9,e9,J6,rfl,JV,Jt,h9⟩;have JY:=JZ.stp JV;have m59:=(((JX.keep JK.wf JH).keep JM.wf JL).keep JS.wf JN).keep JZ.wf JV;have mg9:=(((mg5.keep JK.wf JH).keep JM.wf JL).keep JS.wf JN).keep JZ.wf JV;simp[g0];refine zG (zCO y5 _ JY JE h9 m59 (hC.nw j x hx JA)) ?_;rintro _ J5 ⟨y10,KH,Jo,rfl,JB,Jg,J2⟩;have JT:=JY.stp JB;simp[g0,g8];refine zG (zp g y10 _ _ JT JE J2 (mg9.keep JY.wf JB) Jg Je) ?_;rintro _ J4 ⟨y11,J3,Ja,rfl,JO,JI,J1⟩;have m9:=(Jt.keep JY.wf JB).keep JT.wf JO;simp(disch:=omega)[g9,zH];refine⟨j,by omega,by simp[g0],by simp[g2],by simp[g4],by simp,by omega,y9,y11,J3,Ja,by simp,by simp,((((((hs.trans JC).trans JH).trans JL).trans JN).trans JV).trans JB).trans JO,?_,?_,BlA.less J1⟩
  ·exact⟨m9.1,fun he=>⟨(m9.2 he).1,fun a=>by rw[(m9.2 he).2 a,(zGd hx JA).1]⟩⟩
  ·exact⟨JI.1,fun he=>⟨(JI.2 he).1,fun a=>by rw[(JI.2 he).2 a,(zGd hx JA).2]⟩⟩
end
end
section
open Go Go.W Go.Tk Go.Rx Go.Bd Go.Sy Go.Maps
def pvW(o:No):zP×List Go.Tk.Fc:=(o.pv,o.pre)
def evW(o:No):zP×List Nf:=(o.ev,o.effs)
def cdW(o:No):List (zP×List Go.Tk.Fc):=o.effs.map fun e=>(e.wv,e.cnd)
def zAT(T:Nt):Asr:=zC (VwA T.vv.1 nE T.vars) (zC (VwA T.nv.1 nE T.init) (zC (VwA T.gv.1 fcE T.goal) (zC (VwA T.ov.1 noE T.ops) (zC (zZ fcE (T.ops.map pvW)) (zC (zZ nfE (T.ops.map evW)) (zZ fcE (T.ops.flatMap cdW)))))))
theorem zAT.lcl{T:Nt}:Lcl (zAT T):=Lcl.vw.star (Lcl.vw.star (Lcl.vw.star (Lcl.vw.star (Lcl.vws.star (Lcl.vws.star Lcl.vws)))))
theorem zAT.rd{T:Nt}{B:Asr}:Rds (zC (zAT T) B) fun w'=>NtR w' T:=fun w' F' hs=>by
 obtain⟨Fa,Fb,⟨F1,_,⟨h1,_⟩,⟨F2,_,⟨h2,_⟩,⟨F3,_,⟨h3,_⟩,⟨F4,_,⟨h4,_⟩,⟨F5,_,⟨h5,_⟩,⟨F6,F7,⟨h6,_⟩,⟨h7,_⟩,_⟩,_⟩,_⟩,_⟩,_⟩,_⟩,_⟩:=hs;exact⟨h1,h2,h3,h4,fun o ho=>⟨h5 (pvW o) (List.mem_map.2 ⟨o,ho,rfl⟩),h6 (evW o) (List.mem_map.2 ⟨o,ho,rfl⟩),fun e he=>h7 (e.wv,e.cnd) (List.mem_flatMap.2 ⟨o,ho,List.mem_map.2 ⟨e,he,rfl⟩⟩)⟩⟩
def zG4(b:Bool):Value:=.bool b
def KmA(km:Nat)(ks:List (Nat×Bool)):Asr:=zIJ km zAc zG4 zY ks
def SmA(sm:Nat)(ss:List (Nat×Nat)):Asr:=zIJ sm zAc zAc zY ss
def zI(s m lim:Nat)(T:Nt)(q:SpC)(ns:Ns)(ks:List (Nat×Bool))(ss:List (Nat×Nat))(B:Asr):Asr :=
 zC (zj m (2*zD T.vars) lim ns) (zC (zL s (spO m T.vars q)) (zC (zM q.fv 3 1 nE (zBC T.vars)) (zC (zM q.wv 3 1 nE (zBB T.vars)) (zC (KmA q.km ks) (zC (SmA q.sm ss) (zC (zAT T) B))))))
def zT1(T:Nt)(ns:Ns)(p:Nat×Nat):Prop:=Ref ns p.2/\∃o,T.ops[p.1]? = some o/\∀a,eval ns a p.2=zHe T o a
def zDY(vars:List Nat)(ns:Ns)(f:Nat)(P:List Nat->Bool):Prop:=Ref ns f/\∀a,eval ns a f=(okB vars a&&P (rs vars a 0))
structure SpG(lim:Nat)(T:Nt)(q:SpC)(ns:Ns)(ks:List (Nat×Bool))(ss:List (Nat×Nat)):Prop where
 ok:zFr T.vars lim ns
 g:NtG T
 cells:q.t0=T.vv.1/\q.t1=T.nv.1/\q.t2=T.gv.1/\q.t3=T.ov.1
 all:zDY T.vars ns q.all fun _=>true
 set:∀p∈ks,p.2=true/\∃P,zDY T.vars ns p.1 P
 rel:∀p∈ss,zT1 T ns p
 kl:ks.length<=1000000
 sl:ss.length<=1000000
theorem zDY.ext{n:Nat}{vars:List Nat}{ns ns':Ns}{f:Nat}{P:List Nat->Bool}(h:zDY vars ns f P)(hw:Wf n ns)(hx:Ext n ns ns'):zDY vars ns' f P:=⟨hx.ref h.1,fun a=>by rw[hx.eval hw a h.1,h.2]⟩
theorem SpG.stp{lim:Nat}{W:((Nat->Bool)->Bool)->Prop}{T:Nt}{q:SpC}{ns ns':Ns}{ks:List (Nat×Bool)}{ss:List (Nat×Nat)}{e e':Bool}(h:SpG lim T q ns ks ss)(hs:Stp (2*zD T.vars) lim W e ns e' ns'):SpG lim T q ns' ks ss :=
 ⟨h.ok.stp hs,h.g,h.cells,h.all.ext h.ok.wf hs.ext,fun p hp=>by
  obtain⟨h1,P,h2⟩:=h.set p hp;exact⟨h1,P,h2.ext h.ok.wf hs.ext⟩,fun p hp=>by
  obtain⟨h1,o,h2,h3⟩:=h.rel p hp;exact⟨hs.ext.ref h1,o,h2,fun a=>by rw[hs.ext.eval h.ok.wf a h1,h3]⟩,h.kl,h.sl⟩
section
variable {w w1:World} {F:List Nat} {B:Asr} {b s m lim:Nat} {T:Nt} {q:SpC} {e:Bool} {ns:Ns} {ks:List (Nat×Bool)} {ss:List (Nat×Nat)}
theorem zI.lcl(hB:Lcl B):Lcl (zI s m lim T q ns ks ss B):=Lcl.mgr.star (Lcl.obj.star (Lcl.own.star (Lcl.own.star (Lcl.map.star (Lcl.map.star (zAT.lcl.star hB))))))
def zAO(T:Nt)(q:SpC)(ks:List (Nat×Bool))(ss:List (Nat×Nat))(B:Asr):Asr:=zC (KmA q.km ks) (zC (SmA q.sm ss) (zC (zAT T) B))
theorem zAO.lcl(hB:Lcl B):Lcl (zAO T q ks ss B):=Lcl.map.star (Lcl.map.star (zAT.lcl.star hB))
theorem zAO.rd:Rds (zAO T q ks ss B) fun w'=>NtR w' T:=Rds.star (Rds.star zAT.rd)
theorem zI.bl(hB:Lcl B)(h:At w F (zI s m lim T q ns ks ss B) w1):At w F (BlA w1.heap.size s m lim T.vars q false ns (zAO T q ks ss B)) (w1.alloc (blO s false)):=by
 have h1:=h.alloc (blO s false) (zI.lcl hB);unfold zI at h1;unfold BlA zAO;exact h1.by Imp.sw
theorem zI.un(h:At w F (BlA b s m lim T.vars q e ns (zAO T q ks ss B)) w1):At w F (zI s m lim T q ns ks ss B) w1:=by
 unfold BlA zAO at h;unfold zI;exact h.by (Imp.un Imp.dr)
theorem zI.obj(h:At w F (zI s m lim T q ns ks ss B) w1):w1.heap[s]? = some (spO m T.vars q):=by
 unfold zI at h;exact h.drop.obj
theorem zI.mgr(h:At w F (zI s m lim T q ns ks ss B) w1):zOx w1 m (2*zD T.vars) lim ns:=by
 unfold zI at h;exact zj.rd h
theorem zI.km(h:At w F (zI s m lim T q ns ks ss B) w1):zAw w1 q.km zAc zG4 zY ks:=by
 unfold zI KmA at h;exact h.drop.drop.drop.drop.map
theorem zI.sm(h:At w F (zI s m lim T q ns ks ss B) w1):zAw w1 q.sm zAc zAc zY ss:=by
 unfold zI SmA at h;exact h.drop.drop.drop.drop.drop.map
theorem zI.tsk(h:At w F (zI s m lim T q ns ks ss B) w1):NtR w1 T:=by
 unfold zI at h;obtain⟨_,hq,_⟩:=h.drop.drop.drop.drop.drop.drop.ex;exact zAT.rd _ _ hq
theorem zI.frame{P:World->Prop}(h:At w F (zI s m lim T q ns ks ss B) w1)(hP:Rds B P):P w1:=by
 unfold zI at h;obtain⟨_,hq,_⟩:=h.drop.drop.drop.drop.drop.drop.ex;exact(Rds.star hP) _ _ hq
theorem zI.putS{KW:zw World}{x v:Nat}(hB:Lcl B)(h:At w F (zI s m lim T q ns ks ss B) w1)(hx:zY x)(hl:ss.length<=1000000)
  (H:∀w2,At w F (zI s m lim T q ns ks (zB5 ss x v) B) w2->KW.run w2):@zRT Tryz.prog (Instr.mapUpdate 159 (.map (some q.sm)) (zAc x) (zAc v)) w1 KW:=by
 unfold zI SmA at h;refine At.put (x:=x) (v:=v) (by repeat' (first|exact hB|exact Lcl.mgr|exact Lcl.own|exact Lcl.obj|exact Lcl.map|exact zAT.lcl|apply Lcl.star)) (h.by Imp.fr6) zBm Tryz.underlying159 hx (by unfold maxLen;omega) fun w2 h2=>H w2 ?_;unfold zI SmA;exact h2.by Imp.bk6
theorem zI.putK{KW:zw World}{x:Nat}(hB:Lcl B)(h:At w F (zI s m lim T q ns ks ss B) w1)(hx:zY x)(hl:ks.length<=1000000)
  (H:∀w2,At w F (zI s m lim T q ns (zB5 ks x true) ss B) w2->KW.run w2):@zRT Tryz.prog (Instr.mapUpdate 147 (.map (some q.km)) (zAc x) (.bool true)) w1 KW:=by
 unfold zI KmA at h;refine At.put (x:=x) (v:=true) (by repeat' (first|exact hB|exact Lcl.mgr|exact Lcl.own|exact Lcl.obj|exact Lcl.map|exact zAT.lcl|apply Lcl.star)) (h.by Imp.fr5) zBm Tryz.underlying147 hx (by unfold maxLen;omega) fun w2 h2=>H w2 ?_;unfold zI KmA;exact h2.by Imp.bk5
end
end
end Go.Proofs.YtolkjbmcindhjaaGreat
