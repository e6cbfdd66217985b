/-
  Parts of the proof of this claim's statement; no conditions beyond those each theorem names.
-/
import Derived.Test.YtolkjbmcindhjaaGreatPk11
import Derived.Test.YtolkjbmcindhjaaGreatPk06
import Derived.Test.YtolkjbmcindhjaaGreatPk09
import Derived.Shelf.SlSortCmp.KitK
import Derived.Lib.Overlaps
import Derived.Lib.AppendZerosOnto
import Derived.Laws.Externs
import Derived.Shelf.SlLaysF0
import Derived.Shelf.SlLaysF
import Derived.Test.YtolkjbmcindhjaaGreatProg
import Derived.Shelf.SlSortCmp.NoneTotal
set_option maxRecDepth 100000
set_option linter.unusedSimpArgs false
set_option linter.unusedVariables false
set_option linter.unusedSectionVars false
set_option maxHeartbeats 8000000
namespace Go.Proofs.YtolkjbmcindhjaaGreat
section
open Go Go.W Go.Tk Go.Rx
section
variable {w w1:World} {F:List Nat} {B:Asr}
theorem zHp{u ov:Value}{c:List Go.Tk.Fc}{outs:List (List Go.Tk.Fc)}{KV:zw (Value×World)}(hB:Lcl B)(h:At w F (zC (zM u 100 2 fcE c) (zC (LLA ov 23 fcE outs) B)) w1)(hl:outs.length<=100000)
  (H:∀v' w2,At w F (zC (LLA v' 23 fcE (outs++[c])) B) w2->KV.run (v',w2)) :
  @efH Tryz.prog (Builtin.append_ #[74,74] 74 [ov,.slice (some ⟨w1.heap.size,0,none⟩) 1 1].toArray) (w1.alloc (.cells #[u] 23)) KV:=by
 have JA:=h.own.o1;obtain⟨ps,JB,h3⟩:=LLA.opn h.rot;have JD:ps.length=outs.length:=by rw[<-JB];simp
 have JC:Lcl (zC (zZ fcE ps) (zC (zM u 100 2 fcE c) B)):=Lcl.vws.star (Lcl.own.star hB);have h4:=h3.kp0 (Lcl.own.star JC) ((Kp.refl [] w1).alloc (.cells #[u] 23));refine At.append (xs:=[((⟨u,JA⟩,c):zP×List Go.Tk.Fc)]) JC h4 zT zB9 zIY rfl (fun j x hj=>?_) (by omega) (by unfold maxLen;omega) fun v' w5 h5=>H v' w5 ?_
 ·simp[sv1] at hj;rw[zAm,zA zO];simpa using hj
 ·have h6:At w F (zC (zM v' 23 1 sv1 (ps++[((⟨u,JA⟩,c):zP×List Go.Tk.Fc)])) (zC (zZ fcE (ps++[((⟨u,JA⟩,c):zP×List Go.Tk.Fc)])) B)) w5 :=
   ((h5.rot3.own_vw).by (Imp.trans (Imp.un Imp.sw) (Imp.trans (zZ.add JA) Imp.sw))).by Imp.rfl
  exact LLA.cls (ls:=outs++[c]) (by simp[JB]) h6
end
def zHD(f:Go.Tk.Fc)(n:Nat):List (List Go.Tk.Fc):=((List.range n).filter fun y=>decide (y≠f.2)).map fun y=>[(f.1,y)]
def zBV(vars:List Nat)(l:List Go.Tk.Fc):List (List Go.Tk.Fc):=l.flatMap fun f=>zHD f (vars.getD f.1 0)
theorem zHV(f:Go.Tk.Fc)(n:Nat):zHD f (n+1)=zHD f n++(if n=f.2 then [] else [[(f.1,n)]]):=by
 unfold zHD;rw[List.range_succ,List.filter_append,List.map_append];by_cases h:n=f.2<;>simp[h]
theorem zGR(f:Go.Tk.Fc)(n:Nat):(zHD f n).length<=n:=by
 unfold zHD;rw[List.length_map];exact Nat.le_trans (List.length_filter_le _ _) (by simp)
def effV(e:Nf):Value:=.agg #[e.wv.1,.int .i64 (e.v:Nat),.int .i64 (e.x:Nat)]
def zOv(e:Nf):Obj:=.cells #[e.wv.1,.int .i64 (e.v:Nat),.int .i64 (e.x:Nat)] 87 (0,0)
theorem zHW{vars:List Nat}{l:List Go.Tk.Fc}{i:Nat}{f:Go.Tk.Fc}(h:l[i]? = some f):zBV vars (l.take (i+1))=zBV vars (l.take i)++zHD f (vars.getD f.1 0):=by
 unfold zBV;rw[List.take_add_one,h,List.flatMap_append];simp
theorem zIa{w:World}(vv:Value)(vars:List Nat)(e:Nf)(hv:Vw w vv nE vars)(he:Vw w e.wv.1 fcE e.cnd)(hl:e.cnd.length<=2)(hr:∀f∈e.cnd,f.1<vars.length)(hn:∀n∈vars,n<=64) :
  Calls Tryz.prog 196 [vv,effV e].toArray w fun en w'=>∃u,en=.returned (.tuple #[u,.nilIface])/\At w [] (zC (LLA u 23 fcE (zBV vars e.cnd)) Emp) w':=by
 refine enter Tryz.func196 mixed low196 (Nat.le_of_ble_eq_true rfl) ?_;simp only[L196];obtain⟨eb,heb⟩:∃b,b=w.heap.size:=⟨_,rfl⟩;obtain⟨w1,JQ⟩:∃w1,w1=w.alloc (zOv e):=⟨_,rfl⟩;have h1:At w [] (zC (zL eb (zOv e)) Emp) w1:=by rw[heb,JQ];exact(At.start rfl:At w [] Emp w).alloc _ .emp
 have JF:w.alloc (.cells #[e.wv.1,.int .i64 (e.v:Nat),.int .i64 (e.x:Nat)] 87 (0,0))=w1:=by rw[JQ];rfl
 have o1:=h1.obj;unfold zOv at o1;obtain⟨X,hX⟩:∃X,X=zC (zL eb (zOv e)) Emp:=⟨_,rfl⟩;have JN:Lcl X:=by rw[hX];exact Lcl.obj.star .emp
 rw[<-hX] at h1;have h2:At w [] (zC (LLA (.slice none 0 0) 23 fcE (zBV vars (e.cnd.take 0))) X) w1:=LLA.nil JN h1;have JC:∀i,i<=e.cnd.length->(zBV vars (e.cnd.take i)).length<=64*i:=by
  intro i
  induction i with
  |zero=>intro _;simp[zBV]
  |succ i ih =>
   intro hi;obtain⟨f,hf⟩:∃f,e.cnd[i]? = some f:=⟨_,List.getElem?_eq_getElem (by omega)⟩;rw[zHW hf,List.length_append];have h1:=ih (by omega);have h2:=zGR f (vars.getD f.1 0);have h3:vars.getD f.1 0<=64:=by have:=hr f (List.mem_of_getElem? hf);rw[List.getD,List.getElem?_eq_getElem this];exact hn _ (List.getElem_mem this)
   omega
 simp[effV,<-heb,JF,zA o1,(he.kp0 h1.kp).len];refine zF (n:=e.cnd.length) (by omega) (fun i ρ w'=>ρ 0=vv/\ρ 11=e.wv.1/\At w [] (zC (LLA (ρ 6) 23 fcE (zBV vars (e.cnd.take i))) X) w') (by simp) (by simp)
  ⟨by simp,by simp,by simpa using h2⟩ (by decide) (fun _ _ _ _ h=>by simpa using h) (fun _ _ _ _ h=>by simpa using h) ?_ ?_
 rotate_left
 ·rintro ρ w4 ⟨g0,g11,h4⟩;rw[List.take_length] at h4;obtain⟨ps,JW,h5⟩:=LLA.opn h4;have Jd:ps.length=(zBV vars e.cnd).length:=by rw[<-JW];simp
  have hb:=JC e.cnd.length (Nat.le_refl _);rw[List.take_length] at hb;have JZ:¬(1024:Int)<ps.length:=by omega
  have JK:¬1024<ps.length:=by omega
  simp[h5.own.vw.len,JZ,JK];exact h4.by (Imp.un (by rw[hX];exact Imp.dr))
 rintro i ρ w4 hi JM JH ⟨g0,g11,h4⟩;obtain⟨f,hf⟩:∃f,e.cnd[i]? = some f:=⟨_,List.getElem?_eq_getElem hi⟩;have Jb:=List.mem_of_getElem? hf;have Ja:=hr f Jb;have JU:=he.kp0 h4.kp;have ef:=JU.cells zf hf;simp only[fcE] at ef;have Je:(i:Int)<e.cnd.length:=by omega
 obtain⟨n,JG⟩:∃n,vars[f.1]? = some n:=⟨_,List.getElem?_eq_getElem Ja⟩;have JY:=hn n (List.mem_of_getElem? JG);have JX:vars.getD f.1 0=n:=by simp[List.getD,JG]
 have Jg:=JC i (by omega);obtain⟨fb,JD⟩:∃b,b=w4.heap.size:=⟨_,rfl⟩;obtain⟨ov,JA⟩:∃ov,ov=ρ 6:=⟨_,rfl⟩;rw[<-JA] at h4;have Jc:Lcl (zC (LLA ov 23 fcE (zBV vars (e.cnd.take i))) X):=Lcl.ll.star JN;simp(disch:=omega)[g11,JM,JH,JU.idx,ef,<-JD];refine zHz (x:=f) Jc h4 JD fun w5 h5=>?_;have o5:=h5.obj;unfold fcO at o5;have JR:=hv.kp0 h5.kp;have Jf:(f.1:Int)<vars.length:=by omega
 have h6:=h5.by Imp.sw;simp(disch:=omega)[g0,<-JD,zA o5,JR.idx,zAM JR JG];refine zF (n:=n) (by omega) (fun y ρ w'=>ρ 0=vv/\ρ 11=e.wv.1/\ρ 12=.int .i64 (e.cnd.length:Nat)/\ρ 13=.int .i64 (i:Nat)/\ρ 8=.pointer (some ⟨fb,0,none⟩)/\At w [] (zC (LLA (ρ 6) 23 fcE (zBV vars (e.cnd.take i)++zHD f y)) (zC (zL fb (fcO f)) X)) w') (by simp) (by simp)
  ⟨by simp[g0],by simp[g11],by simp[JH],by simp[JM],by simp[<-JD],by simpa[zHD,<-JA] using h6⟩ (by decide) (fun _ _ _ _ h=>by simpa using h) (fun _ _ _ _ h=>by simpa using h) ?_ ?_
 rotate_left
 ·rintro ρ w7 ⟨g0,g11,g12,JE,g8,h7⟩;simp[g0,g11,g12,JE];rw[zHW hf,JX];exact h7.by (Imp.un Imp.dr)
 clear g0 g11 JM JH h4 h5 h6 JA;rintro y ρ w7 hy JL JT ⟨g0,g11,g12,JE,g8,h7⟩;have o7:=h7.drop.obj;unfold fcO at o7;obtain⟨ov,JA⟩:∃ov,ov=ρ 6:=⟨_,rfl⟩;rw[<-JA] at h7;have JV:Lcl (zC (zL fb (fcO f)) X):=Lcl.obj.star JN;by_cases JB:y=f.2
 ·have JO:(((y:Nat):Int) != ((f.2:Nat):Int))=false:=by simp;omega
  have e1:=zHV f y;rw[if_pos JB,List.append_nil] at e1;simp[g0,g11,g12,JE,g8,JL,JT,zA o7,JB,e1];rw[<-JB,e1,<-JA];exact h7
 ·have JO:(((y:Nat):Int) != ((f.2:Nat):Int))=true:=by simp;omega
  have e1:=zHV f y;rw[if_neg JB] at e1;have h8:=h7.lit (xs:=[((f.1,y):Go.Tk.Fc)]) (enc:=fcE) (E:=100) (sz:=2) (cs:=#[.int .i64 (f.1:Nat),.int .i64 (y:Nat)]) (m:=1) (Lcl.ll.star JV) (by simp[fcE]) zf (by simp[maxLen]) rfl;obtain⟨rv,JS⟩:∃v,v=Value.slice (some ⟨w7.heap.size,0,none⟩) 1 1:=⟨_,rfl⟩;obtain⟨w8,JP⟩:∃w8,w8=w7.alloc (.cells #[.int .i64 (f.1:Nat),.int .i64 (y:Nat)] 100):=⟨_,rfl⟩;rw[<-JS,<-JP] at h8;have c8:=h8.own.c1;have JI:(zBV vars (e.cnd.take i)++zHD f y).length<=100000:=by rw[List.length_append];have:=zGR f y;omega
  simp[g8,JL,zA o7,JO,JB,zW,<-JS,<-JP,c8,<-JA];refine zHp JV h8 JI fun v' w9 h9=>?_;simp[g0,g11,g12,JE,g8,JL,JT,e1];simpa using h9
end
section
open Go Go.W Go.Tk Go.Rx
structure BsR(ps:List Rw)(z:List Go.Tk.Fc)(i:Nat):Prop where
 le:i<=ps.length
 lo:∀t p,t<i->ps[t]? = some p->cL p.2 z<0
 hi:∀t p,i<=t->ps[t]? = some p->0<=cL p.2 z
def bsB(ps:List Rw)(z:List Go.Tk.Fc)(i:Nat):Bool:=match ps[i]? with|some p=>decide (cL p.2 z=0)|none=>false
def BsI(ps:List Rw)(z:List Go.Tk.Fc)(v zv:Value)(w:World)(m:Nat)(ρ:Env)(w':World):Prop :=
 ∃i j:Nat,i+m=j/\j<=ps.length/\(∀(t:Nat) (p:Rw),t<i->ps[t]? = some p->cL p.2 z<0)/\(∀(t:Nat) (p:Rw),j<=t->ps[t]? = some p->0<=cL p.2 z)/\ρ 0=v/\ρ 1=zv/\ρ 2=.func (.func 90) #[] #[]/\ρ 8=.int .i64 (ps.length:Nat)/\ρ 9=.int .i64 (i:Nat)/\ρ 10=.int .i64 (j:Nat)/\Kp [] w w'
theorem zOy{n:Int}(h0:0<=n)(h1:n<=9223372036854775807):IntKind.u64.wrap n=n:=by
 simp[IntKind.wrap,IntKind.bits,IntKind.signed];omega
theorem zTq{w:World}(v zv:Value)(ps:List Rw)(z:List Go.Tk.Fc)(hv:zIP w v ps)(hz:Vw w zv fcE z)(hl:ps.length<=1000000)(JE:z.length<=1000000)(hm:∀(s t:Nat) (p q:Rw),s<=t->ps[s]? = some p->ps[t]? = some q->cL q.2 z<0->cL p.2 z<0) :
  Calls Tryz.prog 199 [v,zv,.func (.func 90) #[] #[]].toArray w fun e w'=>∃x,e=.returned x/\(∃i:Nat,BsR ps z i/\x=.tuple #[.int .i64 (i:Nat),.bool (bsB ps z i)])/\Kp [] w w':=by
 refine enter Tryz.func199 mixed low199 (Nat.le_of_ble_eq_true rfl) ?_;simp only[L199];simp[hv.vw.len];refine z8 (BsI ps z v zv w) ps.length
  ⟨0,ps.length,by omega,Nat.le_refl _,fun t p h=>by omega,fun t p h h2=>by have:=(List.getElem?_eq_some_iff.1 h2).1;omega,by simp,by simp,by simp,by simp,by simp,by simp,Kp.refl _ _⟩ ?_
 rintro m ρ w1 ⟨i,j,JL,hj,JB,JD,g0,g1,g2,g8,g9,g10,k1⟩;have JA:=hv.kp k1;have JF:=hz.kp0 k1;by_cases h0:m=0
 ·have JK:¬(i:Int)<j:=by omega
  obtain rfl:i=j:=by omega
  by_cases hi:i<ps.length
  ·have JC:(i:Int)<ps.length:=by omega
   obtain⟨p,hp⟩:∃p,ps[i]? = some p:=⟨_,List.getElem?_eq_getElem hi⟩;have ei:w1.cell? (v.adr.add i)=some p.1.1:=by simpa using JA.vw.at_ zT hp (o:=0) (u:=p.1.1) rfl
   simp(disch:=omega)[g0,g1,g2,g8,g9,g10,hi,JC,JA.vw.idx,ei];refine zG (zDd p.1.1 zv p.2 z (JA.row p (List.mem_of_getElem? hp)) JF (hv.sh p (List.mem_of_getElem? hp)) JE) ?_;rintro _ w2 ⟨rfl,k2⟩;simp;have hb:bsB ps z i=decide (cL p.2 z=0):=by unfold bsB;rw[hp]
   refine⟨fun _=>?_,fun h=>absurd (by simp[hi]) h⟩;simp[hi];refine⟨⟨i,⟨hj,JB,JD⟩,g9,?_⟩,k1.trans0 k2⟩;rw[hb];by_cases hc:cL p.2 z=0<;>simp[hc]
  ·have JC:¬(i:Int)<ps.length:=by omega
   have hb:bsB ps z i=false:=by unfold bsB;rw[List.getElem?_eq_none_iff.2 (by omega)]
   simp[g8,g9,g10,hi,JC];exact⟨⟨i,⟨hj,JB,JD⟩,rfl,hb⟩,k1⟩
 ·have JG:(i:Int)<j:=by omega
  obtain⟨h,hh⟩:∃h,h=(i+j)/2:=⟨_,rfl⟩;have JH:h<ps.length:=by omega
  have JI:(h:Int)<ps.length:=by omega
  have eh:IntKind.i64.wrap ((IntKind.u64.wrap (IntKind.i64.wrap ((i:Int)+(j:Int)))).fdiv (2^min 1 IntKind.u64.bits))=(h:Int):=by
   rw[zH (n:=(i:Int)+(j:Int)) (by omega) (by omega),zOy (n:=(i:Int)+(j:Int)) (by omega) (by omega)];have e2:((i:Int)+(j:Int)).fdiv (2^min 1 IntKind.u64.bits)=(h:Int):=by have:(2:Int)^min 1 IntKind.u64.bits=2:=rfl;rw[this,Int.fdiv_eq_ediv_of_nonneg _ (by omega)];omega
   rw[e2,zH (by omega) (by omega)]
  obtain⟨p,hp⟩:∃p,ps[h]? = some p:=⟨_,List.getElem?_eq_getElem JH⟩;have ei:w1.cell? (v.adr.add h)=some p.1.1:=by simpa using JA.vw.at_ zT hp (o:=0) (u:=p.1.1) rfl
  simp(disch:=omega)[g0,g1,g2,g9,g10,JG,eh,JA.vw.idx,ei];refine zG (zDd p.1.1 zv p.2 z (JA.row p (List.mem_of_getElem? hp)) JF (hv.sh p (List.mem_of_getElem? hp)) JE) ?_;rintro _ w2 ⟨rfl,k2⟩;by_cases hc:cL p.2 z<0
  ·obtain⟨h',JM⟩:∃h',h'=h+1:=⟨_,rfl⟩;have e1:(h:Int)+1=(h':Int):=by omega
   simp(disch:=omega)[hc,eh,e1,zH];exact⟨j-h',by omega,h',j,by omega,hj,fun t q ht hq=>hm t h q p (by omega) hq hp hc,JD,by simp[g0],by simp[g1],by simp[g2],by simp[g8],by simp,by simp[g10],k1.trans0 k2⟩
  ·simp(disch:=omega)[hc,eh];refine⟨h-i,by omega,i,h,by omega,by omega,JB,fun t q ht hq=>?_,by simp[g0],by simp[g1],by simp[g2],by simp[g8],by simp[g9],by simp,k1.trans0 k2⟩;have h1:¬cL q.2 z<0:=fun h2=>hc (hm h t p q ht hp hq h2);omega
end
section
open Go Go.W Go.Tk Go.Rx
def mnF(l:List Nf):Nat:=(l.filter fun e=>decide (0<e.cnd.length)).length
theorem zSn{l:List Nf}{k:Nat}{e:Nf}(h:l[k]? = some e):mnF (l.take (k+1))=mnF (l.take k)+if 0<e.cnd.length then 1 else 0:=by
 unfold mnF;rw[List.take_add_one,h,List.filter_append,List.length_append];by_cases h:0<e.cnd.length<;>simp[h]
structure TmO(o:No):Prop where
 cnd:∀e∈o.effs,e.cnd.length<=2
 many:mnF o.effs<=3
structure TmT(T:Nt):Prop where
 vars:∀n∈T.vars,2<=n/\n<=4
 ops:∀o∈T.ops,TmO o
theorem zOk{α:Type}{l:List α}{P:α->Prop}(h:∀(j:Nat) (x:α),j<l.length->l[j]? = some x->P x):∀x∈l,P x:=fun x hx=>by
 obtain⟨j,hj,rfl⟩:=List.mem_iff_getElem.1 hx;exact h j _ hj (List.getElem?_eq_getElem hj)
theorem zMB{w:World}(t:Tk)(ht:TkR w t)(hl:TkL t) :
  Calls Tryz.prog 6 [tkV t].toArray w fun e w'=>∃b,e=.returned (.bool b)/\(b=true->∃T,T.raw=t/\SmT T/\TmT T)/\Kp [] w w':=by
 refine enter Tryz.func6 mixed low6 (Nat.le_of_ble_eq_true rfl) ?_;simp only[L6];obtain⟨tb,JZ⟩:∃b,b=w.heap.size:=⟨_,rfl⟩;obtain⟨w1,JY⟩:∃w1,w1=w.alloc (tkO t):=⟨_,rfl⟩;have h1:At w [] (zC (zL tb (tkO t)) Emp) w1:=by rw[JZ,JY];exact(At.start rfl:At w [] Emp w).alloc _ .emp
 have JP:w.alloc (.cells #[t.vv.1,t.nv.1,t.gv.1,t.ov.1] 26 (0,0))=w1:=by rw[JY];rfl
 obtain⟨X,hX⟩:∃X,X=zC (zL tb (tkO t)) Emp:=⟨_,rfl⟩;have JK:Lcl X:=by rw[hX];exact Lcl.obj.star .emp
 have o1:=h1.obj;rw[<-hX] at h1;simp[tkV,<-JZ,JP,zEk o1];refine zG (zK6 t (ht.kp h1.kp) hl) ?_;rintro _ w2 ⟨rfl,k2⟩;have h2:=h1.kp0 JK k2;cases Jd:zBU t with
 |false =>simp;exact h2.kp
 |true =>
  obtain⟨T,rfl,hT⟩:=zMO hl Jd;have hr:=NtR.raw.1 ht;have ob:∀{w'},At w [] X w'->w'.heap[tb]? = some (.cells #[T.vv.1,T.nv.1,T.gv.1,T.ov.1] 26 (0,0)):=fun h=>by rw[hX] at h;exact h.obj
  simp[zA (ob h2),(hr.kp h2.kp).vars.len];refine zF (n:=T.vars.length) (by have:=hT.vl;omega) (fun i ρ w'=>ρ 1=.pointer (some ⟨tb,0,none⟩)/\ρ 14=T.vv.1/\(∀(j:Nat) (x:Nat),j<i->T.vars[j]? = some x->2<=x/\x<=4)/\At w [] X w') (by simp) (by simp)
   ⟨by simp,by simp,fun j x h=>by omega,h2⟩ (by decide) (fun _ _ _ _ h=>by simpa using h) (fun _ _ _ _ h=>by simpa using h) ?_ ?_
  ·rintro i ρ w4 hi JC JB ⟨g1,g14,hall,h4⟩;have JE:=(hr.kp h4.kp).vars;obtain⟨n,hn⟩:∃n,T.vars[i]? = some n:=⟨_,List.getElem?_eq_getElem hi⟩;have Jh:(i:Int)<T.vars.length:=by omega
   by_cases n1:n<2
   ·have n1i:(n:Int)<2:=by omega
    simp(disch:=omega)[g1,g14,JC,JB,JE.idx,zAM JE hn,n1,n1i];exact h4.kp
   have n1i:¬(n:Int)<2:=by omega
   by_cases n2:4<n
   ·have n2i:(4:Int)<n:=by omega
    simp(disch:=omega)[g1,g14,JC,JB,JE.idx,zAM JE hn,n1,n1i,n2,n2i];exact h4.kp
   have n2i:¬(4:Int)<n:=by omega
   simp(disch:=omega)[g1,g14,JC,JB,JE.idx,zAM JE hn,n1,n1i,n2,n2i];refine⟨fun j x hj hx=>?_,h4⟩;rcases(show j<i\/j=i by omega) with h|rfl
   ·exact hall j x h hx
   ·rw[hn] at hx;cases hx;omega
  rintro ρ w4 ⟨g1,g14,JQ,h4⟩;have Jb:=(hr.kp h4.kp).ops;simp[g1,zA (ob h4),Jb.len];refine zF (n:=T.ops.length) (by have:=hT.ol;omega) (fun i ρ w'=>ρ 28=T.ov.1/\(∀(j:Nat) (o:No),j<i->T.ops[j]? = some o->TmO o)/\At w [] X w') (by simp) (by simp)
   ⟨by simp,fun j x h=>by omega,h4⟩ (by decide) (fun _ _ _ _ h=>by simpa using h) (fun _ _ _ _ h=>by simpa using h) ?_ ?_
  rotate_left
  ·rintro ρ w5 ⟨JA,hall,h5⟩;simp;exact⟨⟨T,rfl,hT,zOk JQ,zOk hall⟩,h5.kp⟩
  clear g1 g14 h4 Jb;rintro i ρ w5 hi JC JB ⟨JA,hall,h5⟩;have Ja:=hr.kp h5.kp;obtain⟨o,ho⟩:∃o,T.ops[i]? = some o:=⟨_,List.getElem?_eq_getElem hi⟩;have JI:=List.mem_of_getElem? ho;have eo:=Ja.ops.cells zBv ho;simp only[noE] at eo;have Jh:(i:Int)<T.ops.length:=by omega
  obtain⟨obx,JD⟩:∃b,b=w5.heap.size:=⟨_,rfl⟩;have Jk:At w [] (zC (zL obx (.cells #[.string ByteArray.empty,.int .i64 0,.slice none 0 0,.slice none 0 0] 41 (0,0))) X) (w5.alloc (.cells #[.string ByteArray.empty,.int .i64 0,.slice none 0 0,.slice none 0 0] 41 (0,0))):=by rw[JD];exact h5.alloc _ JK
  simp(disch:=omega)[JA,JC,JB,Ja.ops.idx,eo,<-JD];refine Jk.st JK (by simp) (by simp[o.pv.2,o.ev.2]) fun w6 h6=>?_;have JL:At w [] (zC (zL obx (.cells #[.string o.name,.int .i64 (o.cost:Nat),o.pv.1,o.ev.1] 41 (0,0))) X) w6:=by simpa using h6
  obtain⟨Y,hY⟩:∃Y,Y=zC (zL obx (.cells #[.string o.name,.int .i64 (o.cost:Nat),o.pv.1,o.ev.1] 41 (0,0))) X:=⟨_,rfl⟩;have Jc:Lcl Y:=by rw[hY];exact Lcl.obj.star JK
  have o6:=JL.obj;rw[<-hY] at JL;have Je:=(hr.kp JL.kp).op o JI;have Jm:=hT.el o JI;simp[<-JD,zA o6,Je.effs.len];refine zF (n:=o.effs.length) (by omega) (fun k ρ w'=>ρ 28=T.ov.1/\ρ 29=.int .i64 (T.ops.length:Nat)/\ρ 30=.int .i64 (i:Nat)/\ρ 35=o.ev.1/\ρ 7=.int .i64 (mnF (o.effs.take k):Nat)/\(∀(j:Nat) (e:Nf),j<k->o.effs[j]? = some e->e.cnd.length<=2)/\At w [] Y w') (by simp) (by simp)
   ⟨by simp[JA],by simp[JB],by simp[JC],by simp,by simp[mnF],fun j x h=>by omega,JL⟩ (by decide) (fun _ _ _ _ h=>by simpa using h) (fun _ _ _ _ h=>by simpa using h) ?_ ?_
  rotate_left
  ·clear JA JC JB;rintro ρ w7 ⟨JA,JO,JN,JM,g7,JW,h7⟩;rw[List.take_length] at g7;by_cases hm:3<mnF o.effs
   ·have JS:(3:Int)<(mnF o.effs:Nat):=by omega
    simp[g7,hm,JS];exact h7.kp
   ·have JS:¬(3:Int)<(mnF o.effs:Nat):=by omega
    simp[JA,JO,JN,g7,hm,JS];refine⟨fun j o' hj JR=>?_,h7.by (by rw[hY];exact Imp.dr)⟩;rcases(show j<i\/j=i by omega) with h|rfl
    ·exact hall j o' h JR
    ·rw[ho] at JR;cases JR;exact⟨zOk JW,by omega⟩
  clear JA JC JB;rintro k ρ w7 hk JX JT ⟨JA,JO,JN,JM,g7,JW,h7⟩;have JF:=(hr.kp h7.kp).op o JI;obtain⟨e,he⟩:∃e,o.effs[k]? = some e:=⟨_,List.getElem?_eq_getElem hk⟩;have Ji:=List.mem_of_getElem? he;have ee:=JF.effs.cells zA7 he;simp only[nfE] at ee;have Jl:(k:Int)<o.effs.length:=by omega
  obtain⟨eb,heb⟩:∃b,b=w7.heap.size:=⟨_,rfl⟩;have Jj:At w [] (zC (zL eb (.cells #[.slice none 0 0,.int .i64 0,.int .i64 0] 87 (0,0))) Y) (w7.alloc (.cells #[.slice none 0 0,.int .i64 0,.int .i64 0] 87 (0,0))):=by rw[heb];exact h7.alloc _ Jc
  simp(disch:=omega)[JM,JX,JT,JF.effs.idx,ee,<-heb];refine Jj.st Jc (by simp) (by simp[e.wv.2]) fun w8 h8=>?_;have JH:At w [] (zC (zL eb (.cells #[e.wv.1,.int .i64 (e.v:Nat),.int .i64 (e.x:Nat)] 87 (0,0))) Y) w8:=by simpa using h8
  have o8:=JH.obj;have JV:=((hr.kp JH.kp).op o JI).cnd e Ji;have em:=zSn he;have Jf:mnF (o.effs.take k)<=8:=by unfold mnF;have h1:=List.length_filter_le (fun e:Nf=>decide (0<e.cnd.length)) (o.effs.take k);have h2:=List.length_take_le k o.effs;omega
  obtain⟨m,hm⟩:∃m,m=mnF (o.effs.take k):=⟨_,rfl⟩;rw[<-hm] at g7 em Jf;by_cases c2:2<e.cnd.length
  ·have c2i:(2:Int)<e.cnd.length:=by omega
   simp[<-heb,zA o8,JV.len,c2,c2i];exact JH.kp
  have c2i:¬(2:Int)<e.cnd.length:=by omega
  have JG:∀(j:Nat) (e':Nf),j<k+1->o.effs[j]? = some e'->e'.cnd.length<=2:=fun j e' hj JU=>by
   rcases(show j<k\/j=k by omega) with h|rfl
   ·exact JW j e' h JU
   ·rw[he] at JU;cases JU;omega
  by_cases c0:0<e.cnd.length
  ·have c0i:(0:Int)<e.cnd.length:=by omega
   rw[if_pos c0] at em;obtain⟨m',Jg⟩:∃m',m'=m+1:=⟨_,rfl⟩;have e1:(m:Int)+1=(m':Int):=by omega
   rw[<-Jg] at em;simp(disch:=omega)[<-heb,zA o8,JV.len,c2,c2i,c0,c0i,g7,e1,zH,JA,JO,JN,JM,JX,JT,em];exact⟨JG,JH.drop⟩
  ·have c0i:¬(0:Int)<e.cnd.length:=by omega
   rw[if_neg c0,Nat.add_zero] at em;simp[<-heb,zA o8,JV.len,c2,c2i,c0,c0i,g7,JA,JO,JN,JM,JX,JT,em];exact⟨JG,JH.drop⟩
end
section
open Go Go.W Go.Tk Go.Rx
def dmB(l:List (List Go.Tk.Fc))(i j:Nat):Bool:=decide (i≠j)&&(zLc (l.getD i []) (l.getD j [])&&(decide ((l.getD j []).length<(l.getD i []).length)||decide (j<i)))
def kpB(l:List (List Go.Tk.Fc))(i n:Nat):Bool:=(List.range n).all fun j=>!dmB l i j
theorem zPv(l:List (List Go.Tk.Fc))(i n:Nat):kpB l i (n+1)=(kpB l i n && !dmB l i n):=by
 unfold kpB;rw[List.range_succ,List.all_append];simp
theorem zKE{l:List (List Go.Tk.Fc)}{i j n:Nat}(h:dmB l i j=true)(hj:j<n):kpB l i n=false:=by
 rw[Bool.eq_false_iff];intro e;have:=List.all_eq_true.1 e j (List.mem_range.2 hj);rw[h] at this;cases this
def mnL(l:List (List Go.Tk.Fc))(k:Nat):List (List Go.Tk.Fc):=((List.range k).filter fun i=>kpB l i l.length).map fun i=>l.getD i []
theorem zGf(l:List (List Go.Tk.Fc))(k:Nat):mnL l (k+1)=mnL l k++if kpB l k l.length=true then [l.getD k []] else []:=by
 unfold mnL;rw[List.range_succ,List.filter_append,List.map_append];by_cases h:kpB l k l.length=true<;>simp[h]
theorem zIm(l:List (List Go.Tk.Fc))(k:Nat):(mnL l k).length<=k:=by
 unfold mnL;rw[List.length_map];exact Nat.le_trans (List.length_filter_le _ _) (by simp)
def MiJ(ps:List Rw)(v xv ov:Value)(n i:Nat)(X:Asr)(w:World)(j:Nat)(ρ:Env)(w':World):Prop :=
 ρ 0=v/\ρ 3=ov/\ρ 4=.int .i64 (i:Nat)/\ρ 5=xv/\ρ 9=v/\ρ 10=.int .i64 (n:Nat)/\ρ 11=.int .i64 (i:Nat)/\ρ 19=v/\ρ 6=.bool true/\kpB (ps.map (·.2)) i j=true/\At w [] X w'
theorem zDy{w:World}(v:Value)(ps:List Rw)(hv:zIP w v ps)(hl:ps.length<=100000)(JI:∀p∈ps,vB p.2=true) :
  Calls Tryz.prog 43 [v].toArray w fun e w'=>∃u,e=.returned u/\At w [] (zC (LLA u 23 fcE (mnL (ps.map (·.2)) ps.length)) Emp) w':=by
 refine enter Tryz.func43 mixed low43 (Nat.le_of_ble_eq_true rfl) ?_;simp only[L43];obtain⟨L,hL⟩:∃L,L=ps.map (·.2):=⟨_,rfl⟩;have Jb:L.length=ps.length:=by rw[hL];simp
 have JY:∀{i:Nat} {p:Rw},ps[i]? = some p->L.getD i []=p.2:=fun h=>by rw[hL];simp[List.getD,h]
 rw[<-hL];have h0:At w [] (zC (LLA (.slice none 0 0) 23 fcE (mnL L 0)) Emp) w:=LLA.nil .emp (At.start rfl);simp[hv.vw.len];refine zF (n:=ps.length) (by omega) (fun i ρ w'=>ρ 0=v/\ρ 9=v/\At w [] (zC (LLA (ρ 3) 23 fcE (mnL L i)) Emp) w') (by simp) (by simp)
  ⟨by simp,by simp,by simpa using h0⟩ (by decide) (fun _ _ _ _ h=>by simpa using h) (fun _ _ _ _ h=>by simpa using h) ?_ ?_
 rotate_left
 ·rintro ρ w4 ⟨g0,g9,h4⟩;simp;exact h4
 rintro i ρ w4 hi JS JQ ⟨g0,g9,h4⟩;obtain⟨ov,JO⟩:∃ov,ov=ρ 3:=⟨_,rfl⟩;rw[<-JO] at h4;obtain⟨X,hX⟩:∃X,X=zC (LLA ov 23 fcE (mnL L i)) Emp:=⟨_,rfl⟩;have JT:Lcl X:=by rw[hX];exact Lcl.ll.star .emp
 rw[<-hX] at h4;have JU:=hv.kp h4.kp;obtain⟨p,hp⟩:∃p,ps[i]? = some p:=⟨_,List.getElem?_eq_getElem hi⟩;have JB:=List.mem_of_getElem? hp;have ei:w4.cell? (v.adr.add i)=some p.1.1:=by simpa using JU.vw.at_ zT hp (o:=0) (u:=p.1.1) rfl
 have Jd:(i:Int)<ps.length:=by omega
 simp(disch:=omega)[g0,g9,JS,JQ,JU.vw.idx,ei];refine zG (zBi p.1.1 p.2 (JU.row p JB) (hv.sh p JB)) ?_;rintro _ w5 ⟨rfl,k5⟩;have h5:=h4.kp0 JT k5;simp[JI p JB,g0,(hv.kp h5.kp).vw.len];have JX:=JY hp;refine zF (n:=ps.length) (by omega) (MiJ ps v p.1.1 ov ps.length i X w) (by simp) (by simp)
  ⟨by simp[g0],by simp[JO],by simp,by simp,by simp[g9],by simp[JQ],by simp[JS],by simp,by simp,rfl,h5⟩ (by decide) (fun _ _ _ _ h=>by unfold MiJ at h ⊢;simpa using h) (fun _ _ _ _ h=>by unfold MiJ at h ⊢;simpa using h) ?_ ?_
 ·clear g0 g9 JS JQ JO;rintro j ρ w6 hj JM JP ⟨g0,g3,g4,g5,g9,g10,g11,JN,g6,JL,h6⟩;rw[<-hL] at JL;have JH:=hv.kp h6.kp;obtain⟨q,hq⟩:∃q,ps[j]? = some q:=⟨_,List.getElem?_eq_getElem hj⟩;have JD:=List.mem_of_getElem? hq;have JZ:=JY hq;have ej:w6.cell? (v.adr.add j)=some q.1.1:=by simpa using JH.vw.at_ zT hq (o:=0) (u:=q.1.1) rfl
  have Jc:(j:Int)<ps.length:=by omega
  have go:∀w',dmB L i j=false->At w [] X w'->kpB L i (j+1)=true:=fun w' h _=>by rw[zPv,JL,h];rfl
  by_cases JE:i=j
  ·subst JE;have hd:dmB L i i=false:=by unfold dmB;simp
   have h1:=go w6 hd h6;simp(disch:=omega)[g0,JN,g4,JM,JP,JH.vw.idx,ej];unfold MiJ;rw[<-hL];exact⟨by simp[g0],by simp[g3],by simp[g4],by simp[g5],by simp[g9],by simp[g10],by simp[g11],by simp[JN],by simp[g6],h1,h6⟩
  have JV:(((i:Nat):Int) != ((j:Nat):Int))=true:=by simp;omega
  have JA:¬((i:Nat):Int)=((j:Nat):Int):=by omega
  simp(disch:=omega)[g0,JN,g4,JM,JP,JH.vw.idx,ej,JV,JE];refine zG (zBi q.1.1 q.2 (JH.row q JD) (hv.sh q JD)) ?_;rintro _ w7 ⟨rfl,k7⟩;have h7:=h6.kp0 JT k7;have JW:=hv.kp h7.kp;rw[JI q JD];simp[g5,JE,JA];refine zG (zGz p.1.1 q.1.1 p.2 q.2 (JW.row p JB) (JW.row q JD) (hv.sh p JB) (hv.sh q JD)) ?_;rintro _ w8 ⟨rfl,k8⟩;have h8:=h7.kp0 JT k8;have JG:=hv.kp h8.kp;have ed:dmB L i j=(zLc p.2 q.2&&(decide (q.2.length<p.2.length)||decide (j<i))):=by unfold dmB;rw[JX,JZ,decide_eq_true JE,Bool.true_and]
  have stay:dmB L i j=false->MiJ ps v p.1.1 ov ps.length i X w (j+1) ρ w8:=fun h=>⟨g0,g3,g4,g5,g9,g10,g11,JN,g6,by rw[<-hL];exact go w8 h h8,h8⟩;cases hc:zLc p.2 q.2 with
  |false =>rw[hc,Bool.false_and] at ed;have h9:=stay ed;unfold MiJ at h9 ⊢;simp[JE,JA,JM,JP];simpa using h9
  |true =>
   rw[hc,Bool.true_and] at ed;by_cases JK:q.2.length<p.2.length
   ·have JC:(q.2.length:Int)<p.2.length:=by omega
    rw[decide_eq_true JK,Bool.true_or] at ed;have e0:=zGf L i;rw[zKE ed (by omega),if_neg (by simp),List.append_nil] at e0;simp[g0,g3,g5,g9,g10,g11,JE,JA,(JG.row q JD).len,(JG.row p JB).len,JK,JC,e0];rw[hX] at h8;exact h8
   ·have JC:¬(q.2.length:Int)<p.2.length:=by omega
    rw[decide_eq_false JK,Bool.false_or] at ed;by_cases JR:j<i
    ·have JF:(j:Int)<i:=by omega
     rw[decide_eq_true JR] at ed;have e0:=zGf L i;rw[zKE ed (by omega),if_neg (by simp),List.append_nil] at e0;simp[g0,g3,g4,g5,g9,g10,g11,JE,JA,JM,(JG.row q JD).len,(JG.row p JB).len,JK,JC,JR,JF,e0];rw[hX] at h8;exact h8
    ·have JF:¬(j:Int)<i:=by omega
     rw[decide_eq_false JR] at ed;have h9:=stay ed;unfold MiJ at h9 ⊢;simp[g4,g5,JE,JA,JM,JP,(JG.row q JD).len,(JG.row p JB).len,JK,JC,JR,JF];obtain⟨a0,a3,a4,a5,a9,a10,a11,a19,a6,ak,ah⟩:=h9;exact⟨a0,a3,a9,a10,a11,a19,a6,ak,ah⟩
 ·clear g0 g9 JS JQ JO;rintro ρ w6 ⟨g0,g3,g4,g5,g9,g10,g11,JN,g6,JL,h6⟩;rw[<-hL] at JL;have e1:=zGf L i;rw[Jb,JL,if_pos rfl,JX] at e1;have JH:=hv.kp h6.kp;simp[g6,g3,g5];refine zG (zAS p.1.1 p.2 (JH.row p JB) (hv.sh p JB)) ?_;rintro u w7 h7;have h8:=At.nw JT h6 h7;rw[hX] at h8;have c8:=h8.own.c1;have Ja:=zIm L i;simp[c8,zW,g3];refine zHp .emp h8 (show(mnL L i).length<=100000 by omega) fun v' w9 h9=>?_;simp[g0,g9,g10,g11,e1];exact h9
end
section
open Go Go.W Go.Tk Go.Rx
def Kd(w w':World):Prop:=Kp [] w w'/\w.drawn<=w'.drawn
theorem Kd.refl(w:World):Kd w w:=⟨Kp.refl _ _,Nat.le_refl _⟩
theorem Kd.trans{a b c:World}(h:Kd a b)(k:Kd b c):Kd a c:=⟨h.1.trans k.1,Nat.le_trans h.2 k.2⟩
theorem Kd.drew{a b:World}(h:Kd a b):Kd a b.drew:=⟨h.1.drew,Nat.le_trans h.2 (Nat.le_succ _)⟩
theorem Kd.alloc{a b:World}(h:Kd a b)(o:Obj):Kd a (b.alloc o):=⟨h.1.alloc o,h.2⟩
theorem Kd.grow{w w':World}(h:Kd w w'):∃q os',w'=Go.Sort.grow (w.drewN q) os':=by
 obtain⟨⟨h1,h2,h3,h4,h5⟩,h6⟩:=h;refine⟨w'.drawn-w.drawn,w'.heap.extract w.heap.size w'.heap.size,?_⟩;have e:w'.heap=w.heap++w'.heap.extract w.heap.size w'.heap.size:=by
  apply Array.ext_getElem?;intro i;by_cases hi:i<w.heap.size
  ·rw[Array.getElem?_append_left hi,h5 i hi (by simp)]
  ·rw[Array.getElem?_append_right (by omega),Array.getElem?_extract];by_cases JA:i<w'.heap.size
   ·rw[if_pos (by omega)];congr 1;omega
   ·rw[if_neg (by omega),Array.getElem?_eq_none_iff.2 (by omega)]
 obtain⟨a,b,c,d,f⟩:=w';obtain⟨a',b',c',d',f'⟩:=w;simp only at h1 h2 h3 h6 e;subst h1 h2 h3;simp only[Go.Sort.grow,World.drewN,World.mk.injEq,true_and,and_true];exact⟨e,by omega⟩
theorem At.std{w w1:World}{F:List Nat}{B:Asr}{b o E:Nat}{c:Array Value}{cs:List Value}{KW:zw World}(hB:Lcl B)(h:At w F (zC (zL b (.cells c E (0,0))) B) w1)(hs:o+cs.length<=c.size)(h1:cs.all zAn=true)
  (H:∀w2,At w F (zC (zL b (.cells (zBh c o cs) E (0,0))) B) w2->w2.drawn=w1.drawn->KW.run w2):@stJ w1 ⟨b,o,none⟩ cs KW:=by
 rw[zHR,zEh h.obj];simp only[zDJ,zJi];refine zHw ⟨trivial,hs,h1⟩ ?_;exact H _ (h.setB hB) rfl
theorem or_d{w:World}(v:Value)(a b:Int)(hv:Vw w v iE [a,b]):Calls Tryz.prog 145 [v].toArray w fun e w'=>∃x,e=.returned x/\x=.int .i64 (if a≠0 then a else b)/\Kd w w':=by
 refine enter Tryz.func145 mixed low145 (Nat.le_of_ble_eq_true rfl) ?_;simp only[L145];simp[hv.len];refine zF (n:=2) (by omega) (fun k ρ w'=>ρ 6=v/\ρ 3=.int .i64 0/\(0<k->a=0)/\(1<k->b=0)/\Kd w w') (by simp) (by simp)
  ⟨by simp,by simp,by omega,by omega,Kd.refl _⟩ (by decide) (fun _ _ _ _ h=>by simpa using h) (fun _ _ _ _ h=>by simpa using h) ?_ ?_
 ·rintro k ρ w4 hk hc JA ⟨g6,g3,h0,h1,k4⟩;have JB:=hv.kp0 k4.1;rcases(show k=0\/k=1 by omega) with rfl|rfl
  ·have e:w4.cell? (v.adr.add 0)=some (.int .i64 a):=ze JB rfl;have ix:=fun {K:zw Value}=>JB.idx (P:=Tryz.prog) (T:=22) (k:=.i64) (i:=(0:Int)) (K:=K) (by omega) (by simp);simp[g6,g3,hc,JA,ix,e];by_cases ha:a=0
   ·simp[ha,g6,g3,hc,JA];exact k4
   ·have hn:(a != 0)=true:=by simp[ha]
    simp[ha,hn];exact k4
  ·have e:w4.cell? (v.adr.add 1)=some (.int .i64 b):=ze JB rfl;have ha:=h0 (by omega);have ix:=fun {K:zw Value}=>JB.idx (P:=Tryz.prog) (T:=22) (k:=.i64) (i:=(1:Int)) (K:=K) (by omega) (by simp);simp[g6,g3,hc,JA,ix,e];by_cases hb:b=0
   ·simp[hb,g6,g3,hc,JA];exact⟨ha,k4⟩
   ·have hn:(b != 0)=true:=by simp[hb]
    rw[hn];simp[hb,ha];exact k4
 ·rintro ρ w4 ⟨g6,g3,h0,h1,k4⟩;have ha:=h0 (by omega);have hb:=h1 (by omega);simp[ha,hb,g3];exact k4
theorem zWM(x y:Go.Tk.Fc)(w:World):Calls Tryz.prog 144 [fcV x,fcV y].toArray w fun e w'=>∃v,e=.returned v/\v=.int .i64 (cF x y)/\Kd w w':=by
 refine enter Tryz.func144 mixed low144 (Nat.le_of_ble_eq_true rfl) ?_;simp only[L144];obtain⟨b1,JF⟩:∃b,b=w.heap.size:=⟨_,rfl⟩;obtain⟨w1,JD⟩:∃w1,w1=w.alloc (fcO x):=⟨_,rfl⟩;have k1:Kd w w1:=by rw[JD];exact(Kd.refl w).alloc _
 have o1:w1.heap[b1]? = some (fcO x):=by rw[JF,JD];exact zO
 have JC:w.alloc (.cells #[.int .i64 (x.1:Nat),.int .i64 (x.2:Nat)] 100 (0,0))=w1:=by rw[JD];rfl
 obtain⟨b2,JE⟩:∃b,b=w1.heap.size:=⟨_,rfl⟩;obtain⟨w2,JB⟩:∃w2,w2=w1.alloc (fcO y):=⟨_,rfl⟩;have k2:Kd w1 w2:=by rw[JB];exact(Kd.refl w1).alloc _
 have o2:w2.heap[b2]? = some (fcO y):=by rw[JE,JB];exact zO
 have o12:w2.heap[b1]? = some (fcO x):=k2.1.blk o1 (by simp);have JA:w1.alloc (.cells #[.int .i64 (y.1:Nat),.int .i64 (y.2:Nat)] 100 (0,0))=w2:=by rw[JB];rfl
 unfold fcO at o2 o12;simp[fcV,<-JF,JC,<-JE,JA,zA o2,zA o12];have h5:=(At.start rfl:At w2.drew [] Emp w2.drew).lit (xs:=[c3 x.1 y.1,c3 x.2 y.2]) (enc:=iE) (E:=3) (sz:=1) (cs:=#[.int .i64 (c3 x.1 y.1),.int .i64 (c3 x.2 y.2)]) (m:=2) .emp (by simp[iE]) zIy (by simp[maxLen]) rfl;have k5:Kd w (w2.drew.alloc (.cells #[.int .i64 (c3 x.1 y.1),.int .i64 (c3 x.2 y.2)] 3)):=(k1.trans k2).drew.alloc _;refine⟨?_,?_,?_,?_⟩ <;>
 ·refine zG (zAV x.1 y.1 _) ?_;rintro _ w3 ⟨rfl,rfl⟩;simp[zA o2,zA o12];refine zG (zAV x.2 y.2 _) ?_;rintro _ w4 ⟨rfl,rfl⟩;simp[zW];refine zG (or_d _ _ _ h5.own.vw) ?_;rintro _ w5 ⟨rfl,k6⟩;simp;exact⟨by unfold cF;simp,k5.trans k6⟩
theorem zTj{w:World}(u v:Value)(xs ys:List Go.Tk.Fc)(hu:Vw w u fcE xs)(hv:Vw w v fcE ys)(hx:xs.length<=1000000)(hy:ys.length<=1000000) :
  Calls Tryz.prog 143 [u,v,.func (.func 144) #[] #[]].toArray w fun e w'=>∃x,e=.returned x/\x=.int .i64 (cL xs ys)/\Kd w w':=by
 refine enter Tryz.func143 mixed low143 (Nat.le_of_ble_eq_true rfl) ?_;simp only[L143];simp[hu.len];refine zF (n:=xs.length) (by omega) (fun k ρ w'=>ρ 0=u/\ρ 1=v/\ρ 2=.func (.func 144) #[] #[]/\ρ 11=u/\cL xs ys=cL (xs.drop k) (ys.drop k)/\k<=ys.length/\At w [] Emp w'/\w.drawn<=w'.drawn) (by simp) (by simp)
  ⟨by simp,by simp,by simp,by simp,by simp,by omega,At.start rfl,Nat.le_refl _⟩ (by decide) (fun _ _ _ _ h=>by simpa using h) (fun _ _ _ _ h=>by simpa using h) ?_ ?_
 ·rintro k ρ w4 hk hc JD ⟨g0,g1,g2,g11,JA,JR,h4,JG⟩;have k4:=h4.kp;have JC:=hu.kp0 k4;have JH:=hv.kp0 k4;obtain⟨x,JP⟩:∃x,xs[k]? = some x:=⟨_,List.getElem?_eq_getElem hk⟩;have ex:=JC.cells zf JP;simp only[fcE] at ex;have JU:(k:Int)<xs.length:=by omega
  obtain⟨b1,JL⟩:∃b,b=w4.heap.size:=⟨_,rfl⟩;have h5:At w [] (zC (zL b1 (fcO (0,0))) Emp) (w4.alloc (fcO (0,0))):=by rw[JL];exact h4.alloc _ .emp
  unfold fcO at h5;simp(disch:=omega)[g0,g1,g2,g11,hc,JD,JC.idx,ex,<-JL];refine At.std .emp h5 (by simp) (by simp) fun w6 h6 JF=>?_;have JF:w.drawn<=w6.drawn:=by rw[JF];exact JG
  have JN:At w [] (zC (zL b1 (fcO x)) Emp) w6:=by simpa[fcO] using h6
  have JE:=hv.kp0 JN.kp;by_cases hl:ys.length<=k
  ·have JB:(ys.length:Int)<=k:=by omega
   rw[zOS hk hl] at JA;simp[g0,g1,g2,hc,JE.len,JB,hl,JA];exact⟨JN.kp,JF⟩
  have JB:¬(ys.length:Int)<=k:=by omega
  obtain⟨y,JO⟩:∃y,ys[k]? = some y:=⟨_,List.getElem?_eq_getElem (by omega)⟩;have ey:=JE.cells zf JO;simp only[fcE] at ey;have JT:(k:Int)<ys.length:=by omega
  obtain⟨b2,JK⟩:∃b,b=w6.heap.size:=⟨_,rfl⟩;have JS:Lcl (zC (zL b1 (fcO x)) Emp):=Lcl.obj.star .emp;have h7:At w [] (zC (zL b2 (fcO (0,0))) (zC (zL b1 (fcO x)) Emp)) (w6.alloc (fcO (0,0))):=by rw[JK];exact JN.alloc _ JS
  unfold fcO at h7;simp(disch:=omega)[g0,g1,g2,hc,JE.len,JB,hl,JE.idx,ey,<-JK];refine At.std (Lcl.obj.star .emp) h7 (by simp) (by simp) fun w8 h8 JI=>?_;have JI:w.drawn<=w8.drawn:=by rw[JI];exact JF
  have JM:At w [] (zC (zL b2 (fcO y)) (zC (zL b1 (fcO x)) Emp)) w8:=by simpa[fcO] using h8
  have o2:=JM.obj;have o1:=JM.drop.obj;unfold fcO at o1 o2;have r1:zK w8 ⟨b1,0,none⟩ 0 2=some [.int .i64 (x.1:Nat),.int .i64 (x.2:Nat)]:=by simp[zK,Addr.add,zA o1]
  have r2:zK w8 ⟨b2,0,none⟩ 0 2=some [.int .i64 (y.1:Nat),.int .i64 (y.2:Nat)]:=by simp[zK,Addr.add,zA o2]
  simp[g2,<-JL,<-JK,r1,r2];refine zG (zWM x y w8) ?_;rintro _ w9 ⟨rfl,k9⟩;have h9:=JM.drop.drop.kp0 .emp k9.1;have JQ:=Nat.le_trans JI k9.2;rw[zOT JP JO] at JA;by_cases hz:cF x y=0
  ·rw[if_neg (by simpa using hz)] at JA;simp[hz,g0,g1,g2,g11,hc,JD];exact⟨JA,by omega,h9,JQ⟩
  ·have hn:(cF x y != 0)=true:=by simp[hz]
   rw[if_pos hz] at JA;simp[hz,hn,JA];exact⟨h9.kp,JQ⟩
 ·rintro ρ w4 ⟨g0,g1,g2,g11,JA,JR,h4,JG⟩;rw[List.drop_of_length_le (Nat.le_refl _),zRf,List.length_drop] at JA;have JC:=hu.kp0 h4.kp;have JH:=hv.kp0 h4.kp;by_cases hl:xs.length<ys.length
  ·have JB:(xs.length:Int)<ys.length:=by omega
   rw[if_pos (by omega)] at JA;simp[g0,g1,JC.len,JH.len,hl,JB,JA];exact⟨h4.kp,JG⟩
  ·have JB:¬(xs.length:Int)<ys.length:=by omega
   rw[if_neg (by omega)] at JA;simp[g0,g1,JC.len,JH.len,hl,JB,JA];exact⟨h4.kp,JG⟩
theorem zSO{w:World}(u v:Value)(xs ys:List Go.Tk.Fc)(hu:Vw w u fcE xs)(hv:Vw w v fcE ys)(hx:xs.length<=1000000)(hy:ys.length<=1000000) :
  Calls Tryz.prog 90 [u,v].toArray w fun e w'=>∃x,e=.returned x/\x=.int .i64 (cL xs ys)/\Kd w w':=by
 refine enter Tryz.func90 mixed low90 (Nat.le_of_ble_eq_true rfl) ?_;simp only[L90];simp;refine zG (zTj u v xs ys hu hv hx hy) ?_;rintro _ w1 ⟨rfl,k1⟩;simp;exact k1
theorem mkf_d(x y:Go.Tk.Fc)(w:World):Calls Tryz.prog 250 [fcV x,fcV y].toArray w fun e w'=>∃v,e=.returned v/\v=.int .i64 (cF x y)/\Kd w w':=by
 refine enter Tryz.func250 mixed low250 (Nat.le_of_ble_eq_true rfl) ?_;simp only[L250];obtain⟨b1,JF⟩:∃b,b=w.heap.size:=⟨_,rfl⟩;obtain⟨w1,JD⟩:∃w1,w1=w.alloc (fcO x):=⟨_,rfl⟩;have k1:Kd w w1:=by rw[JD];exact(Kd.refl w).alloc _
 have o1:w1.heap[b1]? = some (fcO x):=by rw[JF,JD];exact zO
 have JC:w.alloc (.cells #[.int .i64 (x.1:Nat),.int .i64 (x.2:Nat)] 100 (0,0))=w1:=by rw[JD];rfl
 obtain⟨b2,JE⟩:∃b,b=w1.heap.size:=⟨_,rfl⟩;obtain⟨w2,JB⟩:∃w2,w2=w1.alloc (fcO y):=⟨_,rfl⟩;have k2:Kd w1 w2:=by rw[JB];exact(Kd.refl w1).alloc _
 have o2:w2.heap[b2]? = some (fcO y):=by rw[JE,JB];exact zO
 have o12:w2.heap[b1]? = some (fcO x):=k2.1.blk o1 (by simp);have JA:w1.alloc (.cells #[.int .i64 (y.1:Nat),.int .i64 (y.2:Nat)] 100 (0,0))=w2:=by rw[JB];rfl
 unfold fcO at o2 o12;simp[fcV,<-JF,JC,<-JE,JA,zA o2,zA o12];have h5:=(At.start rfl:At w2.drew [] Emp w2.drew).lit (xs:=[c3 x.1 y.1,c3 x.2 y.2]) (enc:=iE) (E:=3) (sz:=1) (cs:=#[.int .i64 (c3 x.1 y.1),.int .i64 (c3 x.2 y.2)]) (m:=2) .emp (by simp[iE]) zIy (by simp[maxLen]) rfl;have k5:Kd w (w2.drew.alloc (.cells #[.int .i64 (c3 x.1 y.1),.int .i64 (c3 x.2 y.2)] 3)):=(k1.trans k2).drew.alloc _;refine⟨?_,?_,?_,?_⟩ <;>
 ·refine zG (zAV x.1 y.1 _) ?_;rintro _ w3 ⟨rfl,rfl⟩;simp[zA o2,zA o12];refine zG (zAV x.2 y.2 _) ?_;rintro _ w4 ⟨rfl,rfl⟩;simp[zW];refine zG (or_d _ _ _ h5.own.vw) ?_;rintro _ w5 ⟨rfl,k6⟩;simp;exact⟨by unfold cF;simp,k5.trans k6⟩
end
section
open Go Go.W Go.Tk Go.Rx
theorem zFC{α:Type}{enc:α->List Value}{k:Nat}(hk:∀x,(enc x).length=k)(JA:0<k):∀(l:List α) (t:Nat),(l.flatMap enc)[t]? = (l[t/k]?).bind fun x=>(enc x)[t%k]?
 |[],t=>by simp
 |x::l,t=>by
  rw[List.flatMap_cons];by_cases h:t<k
  ·rw[List.getElem?_append_left (by rw[hk];exact h),Nat.div_eq_of_lt h,Nat.mod_eq_of_lt h];rfl
  ·rw[List.getElem?_append_right (by rw[hk];omega),hk,zFC hk JA l];obtain⟨s,rfl⟩:∃s,t=s+k:=⟨t-k,by omega⟩;rw[Nat.add_sub_cancel,Nat.add_div_right _ JA,Nat.add_mod_right];rfl
section
variable {P:Program} {ρ:Env} {w:World} {KW:Value->World->Prop} {ty:Nat}
theorem zMx{args:Array Operand}{tys:Array Nat}:opS P 2 (.call ⟨.builtin .clear,args,tys⟩) ty ρ w KW=@efH P (Builtin.clear_ tys ty (args.toList.map ρ.ev).toArray) w ⟨fun q=>KW q.1 q.2⟩:=by
 have e:(args.toList.map ρ.ev).toArray=args.map ρ.ev:=zBc _ _;rw[e];have e1:opS P 2 (.call ⟨.builtin .clear,args,tys⟩) ty ρ w KW=zGN P KW ((LO.exec (.call ⟨.builtin .clear,args,tys⟩) ty ρ).run P w):=rfl;rw[e1];simp only[LO.exec,execOp,resolve,Sem.run_bind,Sem.run_pure,Result.andThen_ok,invoke,builtin,efH,zOu];cases(Builtin.clear_ tys ty (args.map ρ.ev)).run P w with
 |ok v w' =>simp only[Result.andThen_ok,zGN];exact propext ⟨fun h=>⟨v,w',rfl,h⟩,fun⟨v',w'',e,h⟩=>by injection e with e1 e2;subst e1 e2;exact h⟩
 |_=>exact propext ⟨fun h=>h.elim,fun⟨_,_,e,_⟩=>by cases e⟩
theorem zSl{args:Array Operand}{tys:Array Nat}:opS P 0 (.call ⟨.builtin .cap,args,tys⟩) ty ρ w KW=@zPJ P (Builtin.cap_ tys ty (args.toList.map ρ.ev).toArray) ⟨fun v=>KW v w⟩:=by
 have e:(args.toList.map ρ.ev).toArray=args.map ρ.ev:=zBc _ _;rw[e];have e1:opS P 0 (.call ⟨.builtin .cap,args,tys⟩) ty ρ w KW=∃v,(∀w',(LO.exec (.call ⟨.builtin .cap,args,tys⟩) ty ρ).run P w'=.ok (.value v) w')/\KW v w:=rfl;rw[e1];simp only[LO.exec,execOp,resolve,Sem.run_bind,Sem.run_pure,Result.andThen_ok,invoke,builtin,zPJ,slcS];refine propext ⟨fun⟨v,h,hk⟩=>⟨v,fun w'=>?_,hk⟩,fun⟨v,h,hk⟩=>⟨v,fun w'=>by rw[h w'];rfl,hk⟩⟩;have:=h w';cases hr:(Builtin.cap_ tys ty (args.map ρ.ev)).run P w' with
 |ok u w2=>rw[hr] at this;simp only[Result.andThen_ok] at this;injection this with e1 e2;injection e1 with e3;subst e2 e3;rfl
 |_=>rw[hr] at this;cases this
end
section
variable {P:Program} {α:Type} {enc:α->List Value} {sz E:Nat} {l:List α} {v:Value} {w:World}
theorem zLx{z:Array Value}{x0:α}(he:∀x,(enc x).length=sz)(hz:z.toList=enc x0)(h0:0<sz)(n:Nat):(Builtin.zeroCells z n).toList=(List.replicate n x0).flatMap enc:=by
 have hs:z.size=sz:=by have:=congrArg List.length hz;rw[he] at this;simpa using this
 apply List.ext_getElem?;intro t;rw[zFC he h0];unfold Builtin.zeroCells;by_cases ht:t<n*sz
 ·have h1:t/sz<n:=(Nat.div_lt_iff_lt_mul h0).2 ht;have h2:t%sz<sz:=Nat.mod_lt _ h0;have h3:(List.replicate n x0)[t/sz]? = some x0:=by rw[List.getElem?_replicate,if_pos h1]
  rw[h3,Option.bind_some,<-hz];simp[hs,ht,h2]
 ·have h1:¬t/sz<n:=fun h=>ht ((Nat.div_lt_iff_lt_mul h0).1 h);have h3:(List.replicate n x0)[t/sz]? = none:=by rw[List.getElem?_replicate,if_neg h1]
  rw[h3];simp[hs];omega
theorem Own.clear{T by_:Nat}{z:List Value}{zv:Value}{x0:α}(h:Own w v E sz enc l)(he:∀x,(enc x).length=sz)(h1:∀x,(enc x).all zAn=true)(hT:zn P T=some (E,sz,by_,z))(hv:∀w,(zeroValue E).run P w=.ok zv w)(hz:zv.cells.toList=enc x0)
  {k:Nat} {k1:IntKind} (hk:k<l.length):∃u,(∀w',(Instr.sliceAt T v (some (.int k1 k)) none none).run P w'=.ok u w') /\
   ∀ty w1,Own w1 v E sz enc l->∃w',(Builtin.clear_ #[T] ty #[u]).run P w1=.ok (.tuple #[]) w'/\Kp v.own w1 w'/\Own w' v E sz enc (l.take k++List.replicate (l.length-k) x0):=by
 obtain⟨i,zv',hu,JI,JY,rfl,rfl,rfl,JX,JD⟩:=zr hT;rcases h with⟨rfl,rfl⟩|⟨g,cap,cur,junk,rfl,hb,hc,hj,JH,hm⟩
 ·simp at hk
 have JW:¬cap=k:=by omega
 have JK:k<=l.length:=by omega
 refine⟨.slice (some ⟨g,k*i.size,none⟩) (l.length-k) (cap-k),fun w'=>?_,fun ty w1 ho=>?_⟩
 ·simp[Instr.sliceAt,run_underlying hu,Instr.slice,Instr.sliceBounds,Instr.sliceBound,asIntOf,sizeOf,typeInfo,JI,JH,JW,JK,zh]
 rcases ho with⟨e,_⟩|⟨g',cap',cur',junk',e,JQ,JP,JU,JT,JS⟩
 ·cases e
 injection e with e1 e2 e3;injection e1 with e1;injection e1 with e1;subst e1 e3;obtain⟨vs,JB⟩:∃vs,vs=(Builtin.zeroCells zv.cells (l.length-k)).toList:=⟨_,rfl⟩;have JC:vs=(List.replicate (l.length-k) x0).flatMap enc:=by rw[JB];exact zLx he hz JD _
 have JL:vs.length=(l.length-k)*i.size:=by rw[JC,zJ he,List.length_replicate]
 have JV:cur'.size=cap*i.size:=by have:=congrArg List.length JP;simp[zJ he] at this;omega
 have JF:k*i.size+(l.length-k)*i.size=l.length*i.size:=by rw[<-Nat.add_mul];congr 1;omega
 have JM:l.length*i.size<=cap*i.size:=Nat.mul_le_mul_right _ JH;have JO:k*i.size+vs.length<=cur'.size:=by rw[JL,JV];omega
 have JE:vs.all zAn=true:=by rw[JC,List.all_eq_true];intro u hu;obtain⟨x,_,JR⟩:=List.mem_flatMap.1 hu;exact List.all_eq_true.1 (h1 x) u JR
 have JA:=zAx (P:=P) (b:=g) (o:=k*i.size) (E:=E) vs 0 cur' w1 JQ (by simpa using JO) JE;simp only[Nat.add_zero] at JA;obtain⟨m,JN⟩:∃m,l.length-k=m+1:=⟨l.length-k-1,by omega⟩;refine⟨w1.setB g (.cells (zBh cur' (k*i.size) vs) E (0,0)),?_,(Kp.refl _ _).setB (.inl (by simp)) _,?_⟩
 ·rw[JN] at JB;rw[JN];simp[Builtin.clear_,run_underlying hu,hv,<-JB,JA]
 ·have JG:(l.take k++List.replicate (l.length-k) x0).length=l.length:=by simp;omega
  refine .inr ⟨g,cap,_,junk',by rw[JG],zAg (zS JQ),?_,by rw[JG];exact JU,by rw[JG];exact JH,JS⟩;rw[zBJ _ _ _ JO,JP,List.flatMap_append,<-JC];have e1:(l.flatMap enc++junk').take (k*i.size)=(l.take k).flatMap enc:=by
   have:l.flatMap enc=(l.take k).flatMap enc++(l.drop k).flatMap enc:=by rw[<-List.flatMap_append,List.take_append_drop]
   rw[this,List.append_assoc,List.take_append_of_le_length (by rw[zJ he,List.length_take];rw[Nat.min_eq_left JK];exact Nat.le_refl _),List.take_of_length_le (by rw[zJ he,List.length_take,Nat.min_eq_left JK];exact Nat.le_refl _)]
  have e2:(l.flatMap enc++junk').drop (k*i.size+vs.length)=junk':=by rw[JL,JF,List.drop_append,List.drop_of_length_le (by rw[zJ he];exact Nat.le_refl _),zJ he,Nat.sub_self];rfl
  rw[e1,e2]
end
end
section
open Go Go.W Go.Tk Go.Rx
theorem zKT(a b c d:Int)(w:World):(Op.equalIn 10000 100 (.agg #[.int .i64 a,.int .i64 b]) (.agg #[.int .i64 c,.int .i64 d])).run Tryz.prog w=.ok (a==c&&b==d) w:=by
 have u3:=Tryz.underlying3;have a3:=Tryz.isAgg3;have z3:=Tryz.sizeOf3;have hS:Tryz.prog.underlying 100=some (.struct (Tryz.prog.fieldsOf 100)):=by kernel_rfl
 rw[show(10000:Nat)=9999+1 from rfl,run_equalIn_agg w 9999 100 _ _ hS (by kernel_rfl)];simp only[Program.fieldsOf,Tryz.underlying100]
 go_simp
 by_cases h1:a=c<;>by_cases h2:b=d<;>simp[h1,h2]
theorem zV2(f g:Go.Tk.Fc):(((f.1:Nat):Int)==((g.1:Nat):Int)&&((f.2:Nat):Int)==((g.2:Nat):Int))=decide (f=g):=by
 rw[Bool.eq_iff_iff];simp only[Bool.and_eq_true,beq_iff_eq,decide_eq_true_eq,Prod.ext_iff];omega
theorem rd_nF{x y:Operand}{w:World}{K:zw Value}(f g:Go.Tk.Fc)(h:K.run (.bool (!decide (f=g)))) :
  @rdH Tryz.prog (do eqGuard .neq 100 x y (.agg #[.int .i64 (f.1:Nat),.int .i64 (f.2:Nat)]) (.agg #[.int .i64 (g.1:Nat),.int .i64 (g.2:Nat)]);binOp .neq 100 (.agg #[.int .i64 (f.1:Nat),.int .i64 (f.2:Nat)]) (.agg #[.int .i64 (g.1:Nat),.int .i64 (g.2:Nat)])) w K :=
 zPQ (v:=.bool (!decide (f=g))) (fun w' _=>by simp only[Sem.run_bind,run_eqGuard_agg w' _ _ _ _ _ _ (by kernel_rfl:Tryz.prog.eqGuardType Tryz.prog.depth 100=false),Result.andThen_ok,run_neq_struct,zKT,zV2]) h
theorem rd_eF{x y:Operand}{w:World}{K:zw Value}(f g:Go.Tk.Fc)(h:K.run (.bool (decide (f=g)))) :
  @rdH Tryz.prog (do eqGuard .eql 100 x y (.agg #[.int .i64 (f.1:Nat),.int .i64 (f.2:Nat)]) (.agg #[.int .i64 (g.1:Nat),.int .i64 (g.2:Nat)]);binOp .eql 100 (.agg #[.int .i64 (f.1:Nat),.int .i64 (f.2:Nat)]) (.agg #[.int .i64 (g.1:Nat),.int .i64 (g.2:Nat)])) w K :=
 zPQ (v:=.bool (decide (f=g))) (fun w' _=>by simp only[Sem.run_bind,run_eqGuard_agg w' _ _ _ _ _ _ (by kernel_rfl:Tryz.prog.eqGuardType Tryz.prog.depth 100=false),Result.andThen_ok,run_eql_struct,zKT,zV2]) h
theorem Own.tl{P:Program}{α:Type}{enc:α->List Value}{sz E:Nat}{l:List α}{v:Value}{w:World}{T by_:Nat}{z:List Value}(h:Own w v E sz enc l)(he:∀x,(enc x).length=sz)(hT:zn P T=some (E,sz,by_,z))
  {k:Nat} {k1:IntKind} (hk:k<l.length):∃u,(∀w',(Instr.sliceAt T v (some (.int k1 k)) none none).run P w'=.ok u w')/\zAn u=true /\
   ∀w1 l2,Own w1 v E sz enc l2->l2.length=l.length->Vw w1 u enc (l2.drop k):=by
 obtain⟨i,zv',hu,JA,JL,rfl,rfl,rfl,JK,JC⟩:=zr hT;rcases h with⟨rfl,rfl⟩|⟨g,cap,cur,junk,rfl,hb,hc,hj,JE,hm⟩
 ·simp at hk
 have JF:¬cap=k:=by omega
 have JI:k<=l.length:=by omega
 refine⟨.slice (some ⟨g,k*i.size,none⟩) (l.length-k) (cap-k),fun w'=>?_,rfl,fun w1 l2 ho hl=>?_⟩
 ·simp[Instr.sliceAt,run_underlying hu,Instr.slice,Instr.sliceBounds,Instr.sliceBound,asIntOf,sizeOf,typeInfo,JA,JE,JF,JI,zh]
 rcases ho with⟨e,_⟩|⟨g',cap',cur',junk',e,JH,JG,JN,JD,JM⟩
 ·cases e
 injection e with e1 e2 e3;injection e1 with e1;injection e1 with e1;subst e1 e3;have JB:(l2.drop k).length=l.length-k:=by simp[hl]
 refine .inr ⟨_,_,by rw[JB],by rw[JB];omega,fun _=>rfl,fun j u hj=>?_⟩;rw[zh,zA JH,<-Array.getElem?_toList,JG];have e1:l2.flatMap enc=(l2.take k).flatMap enc++(l2.drop k).flatMap enc:=by rw[<-List.flatMap_append,List.take_append_drop]
 have e2:((l2.take k).flatMap enc).length=k*i.size:=by rw[zJ he,List.length_take,Nat.min_eq_left (by omega)]
 rw[e1,List.append_assoc,List.getElem?_append_right (by omega),e2,Nat.add_sub_cancel_left,List.getElem?_append_left (List.getElem?_eq_some_iff.1 hj).1];exact hj
def ddU(l:List Go.Tk.Fc):Nat->List Go.Tk.Fc
 |0=>[]
 |r+1=>ddU l r++(match l[r]? with|some x=>if r≠0/\l[r-1]? = some x then [] else [x]|none=>[])
theorem zGw{l:List Go.Tk.Fc}{r:Nat}{x:Go.Tk.Fc}(hx:l[r]? = some x)(h:r=0\/l[r-1]? ≠ some x):ddU l (r+1)=ddU l r++[x]:=by
 unfold ddU;rw[hx];rcases h with h|h
 ·simp[h];cases r<;>simp_all [ddU]
 ·simp[h];cases r<;>simp_all [ddU]
theorem zGv{l:List Go.Tk.Fc}{r:Nat}{x:Go.Tk.Fc}(hx:l[r]? = some x)(h0:r≠0)(h:l[r-1]? = some x):ddU l (r+1)=ddU l r:=by
 show ddU l r++(match l[r]? with|some x=>if r≠0/\l[r-1]? = some x then [] else [x]|none=>[])=ddU l r;rw[hx];simp[h0,h]
def rgCoI(l:List Go.Tk.Fc)(v:Value)(w:World)(m:Nat)(ρ:Env)(w':World):Prop :=
 ∃k:Nat,1<=k/\k+m=l.length/\ρ 0=v/\ρ 3=.int .i64 (k:Nat)/\ddU l k=l.take k/\Kp v.own w w'/\Own w' v 100 2 fcE l
def CiI(l:List Go.Tk.Fc)(v u:Value)(k0:Nat)(w:World)(m:Nat)(ρ:Env)(w':World):Prop :=
 ∃(kk k2:Nat) (l2:List Go.Tk.Fc),1<=k2/\k0+k2+m=l.length/\kk<k0+k2/\l2.length=l.length/\(∀j,k0+k2<=j+1->l2[j]? = l[j]?)/\l2.take kk=ddU l (k0+k2)/\ρ 0=v/\ρ 3=.int .i64 (kk:Nat)/\ρ 4=u/\ρ 5=.int .i64 (k2:Nat)/\Kp v.own w w'/\Own w' v 100 2 fcE l2
theorem zRp:∀w,(zeroValue 100).run Tryz.prog w=.ok (.agg #[.int .i64 0,.int .i64 0]) w:=Tryz.zeroValue100
theorem zH8{w:World}{v:Value}{l:List Go.Tk.Fc}(h:Own w v 100 2 fcE l)(hl:l.length<=1000000) :
  Calls Tryz.prog 251 [v].toArray w fun e w'=>∃u,e=.returned u/\Kp v.own w w'/\u.own=v.own/\Own w' u 100 2 fcE (ddU l l.length):=by
 refine enter Tryz.func251 mixed low251 (Nat.le_of_ble_eq_true rfl) ?_;simp only[L251];by_cases h2:l.length<2
 ·have JO:(l.length:Int)<2:=by omega
  simp[h.len,h2,JO];refine⟨Kp.refl _ _,?_⟩;have e:ddU l l.length=l:=by
   match l,h2 with
   |[],_=>rfl
   |[x],_=>rfl
  rw[e];exact h
 have JO:¬(l.length:Int)<2:=by omega
 simp[h.len,h2,JO];have one:∀x:Go.Tk.Fc,(fcE x).all zAn=true:=fun _=>rfl;have st1:ddU l 1=l.take 1:=by
  match l,h2 with
  |[],h=>exact absurd (by simp) h
  |x::r,_=>rfl
 refine z8 (rgCoI l v w) (l.length-1) ⟨1,by omega,by omega,by simp,by simp,st1,Kp.refl _ _,h⟩ ?_;rintro m ρ w1 ⟨k,Ji,Jg,g0,g3,JN,k1,o1⟩;by_cases h0:m=0
 ·have JL:¬(k:Int)<l.length:=by omega
  simp[g0,g3,o1.len,JL];have JD:k=l.length:=by omega
  rw[<-JD,JN,List.take_of_length_le (by omega)];exact⟨k1,o1⟩
 have JD:k<l.length:=by omega
 have JX:(k:Int)<l.length:=by omega
 obtain⟨x,hx⟩:∃x,l[k]? = some x:=⟨_,List.getElem?_eq_getElem JD⟩;obtain⟨j,hj⟩:∃j,j=k-1:=⟨_,rfl⟩;have ej:(k:Int)-1=(j:Int):=by omega
 obtain⟨y,hy⟩:∃y,l[j]? = some y:=⟨_,List.getElem?_eq_getElem (by omega)⟩;have Jj:(j:Int)<l.length:=by omega
 have v1:=o1.vw;have ex:=v1.cells zf hx;have ey:=v1.cells zf hy;simp only[fcE] at ex ey;simp(disch:=omega)[g0,g3,o1.len,JX,v1.idx,ex,ey,ej,zH];refine rd_eF x y ?_;by_cases JF:x=y
 ·subst JF;obtain⟨u,hu,Ja,JQ⟩:=Own.tl (P:=Tryz.prog) o1 zf (k1:=.i64) zK7 JD;simp[g0,g3];refine zA4 hu ?_;simp;have ed0:ddU l (k+1)=l.take k:=by rw[zGv hx (by omega) (by rw[<-hj];exact hy),JN]
  refine z8 (CiI l v u k w) (l.length-k-1) ⟨k,1,l,by omega,by omega,by omega,rfl,fun _ _=>rfl,ed0.symm,by simp[g0],by simp[g3],by simp,by simp,k1.drew,o1.drew⟩ ?_;clear g0 g3 ex ey v1 o1 k1;rintro m2 ρ w2 ⟨kk,r,l2,Jd,Jc,Jh,JC,JE,JG,g0,g3,g4,g5,k2,o2⟩;have v2:=JQ w2 l2 o2 JC;by_cases Jf:m2=0
  ·have JB:(l2.drop k).length=r:=by simp[JC];omega
   have JL:¬(r:Int)<(l2.drop k).length:=by omega
   have JK:¬r<l2.length-k:=by omega
   have JA:kk<l2.length:=by omega
   obtain⟨u2,JR,JZ⟩:=Own.clear (P:=Tryz.prog) (x0:=((0,0):Go.Tk.Fc)) o2 zf one zK7 zRp rfl (k1:=.i64) JA;simp[g0,g3,g4,g5,v2.len,JL,JK];refine zA4 JR ?_;simp[zMx];obtain⟨w3,JT,k3,o3⟩:=JZ _ w2 o2;refine zD8 JT ?_;simp[g0,g3];refine o3.slice_hi zf zK7 (by simp;omega) fun v' o4 JW=>?_;simp;have hn:k+r=l.length:=by omega
   have e3:((l2.take kk++List.replicate (l2.length-kk) ((0,0):Go.Tk.Fc)).take kk)=ddU l l.length:=by rw[List.take_append_of_le_length (by simp;omega),List.take_of_length_le (by simp;omega),JG,hn]
   rw[e3] at o4;exact⟨k2.trans k3,JW,o4⟩
  have JB:(l2.drop k).length=l.length-k:=by simp[JC]
  have JS:(r:Int)<(l2.drop k).length:=by omega
  have JH:r<l2.length-k:=by omega
  obtain⟨p,hp⟩:∃p,l[k+r]? = some p:=⟨_,List.getElem?_eq_getElem (by omega)⟩;obtain⟨q,hq⟩:∃q,l[k+r-1]? = some q:=⟨_,List.getElem?_eq_getElem (by omega)⟩;obtain⟨s,hs⟩:∃s,s=r-1:=⟨_,rfl⟩;have es:(r:Int)-1=(s:Int):=by omega
  have Jb:(s:Int)<(l2.drop k).length:=by omega
  have JV:(l2.drop k)[r]? = some p:=by rw[List.getElem?_drop,JE _ (by omega)];exact hp
  have JU:(l2.drop k)[s]? = some q:=by rw[List.getElem?_drop,JE _ (by omega),show k+s=k+r-1 by omega];exact hq
  have ep:=v2.cells zf JV;have eq:=v2.cells zf JU;simp only[fcE] at ep eq;simp(disch:=omega)[g0,g3,g4,g5,v2.len,JS,JH,v2.idx,ep,eq,es,zH];refine rd_nF p q ?_;obtain⟨r',Je⟩:∃r',r'=r+1:=⟨_,rfl⟩;have er:(r:Int)+1=(r':Int):=by omega
  have JP:k+r'=(k+r)+1:=by omega
  by_cases JI:p=q
  ·subst JI;simp(disch:=omega)[g0,g3,g4,g5,er,zH];refine⟨l.length-(k+r'),by omega,kk,r',l2,by omega,by omega,by omega,JC,fun j hj=>JE j (by omega),?_,by simp[g0],by simp[g3],by simp[g4],by simp,k2.drew,o2.drew⟩;rw[JP,zGv hp (by omega) hq,JG]
  ·simp(disch:=omega)[g0,g3,g4,g5,JI,v2.idx,ep,o2.idx];have JA:kk<l2.length:=by omega
   obtain⟨kk',JM⟩:∃kk',kk'=kk+1:=⟨_,rfl⟩;have ekk:(kk:Int)+1=(kk':Int):=by omega
   have ow:=o2.own_eq JA;refine o2.drew.store zf one JA (x:=p) rfl fun w3 k3 _ o3=>?_;rw[<-ow] at k3;simp(disch:=omega)[g0,g3,g4,g5,er,ekk,zH];refine⟨l.length-(k+r'),by omega,kk',r',l2.set kk p,by omega,by omega,by omega,by simp[JC],fun j hj=>?_,?_,by simp[g0],by simp,by simp[g4],by simp,k2.drew.trans k3,o3⟩
   ·rw[List.getElem?_set_ne (by omega)];exact JE j (by omega)
   ·rw[JP,zGw hp (.inr (by rw[hq];simp;exact fun e=>JI e.symm)),<-JG,JM];exact z6 (by rw[List.getElem?_set_self JA]) |>.trans (by rw[List.take_set_of_le (Nat.le_refl _)])
 ·obtain⟨k',JY⟩:∃k',k'=k+1:=⟨_,rfl⟩;have e1:(k:Int)+1=(k':Int):=by omega
  simp(disch:=omega)[JF,g0,g3,e1,zH];refine⟨l.length-k',by omega,k',by omega,by omega,by simp[g0],by simp,?_,k1.drew,o1.drew⟩;rw[JY,zGw hx (.inr (by rw[<-hj,hy];simp;exact fun e=>JF e.symm)),JN,z6 hx]
end
section
open Go Go.W Go.Tk Go.Rx
def zLU(f:Go.Tk.Fc):List Go.Tk.Fc->List Go.Tk.Fc
 |[]=>[f]
 |x::l=>if f=x then x::l else if cF f x<0 then f::x::l else x::zLU f l
def mkL:List Go.Tk.Fc->List Go.Tk.Fc
 |[]=>[]
 |f::l=>zLU f (mkL l)
theorem zGr(f:Go.Tk.Fc):∀(l:List Go.Tk.Fc) (x:Go.Tk.Fc),x∈zLU f l<->x=f\/x∈l
 |[],x=>by simp[zLU]
 |y::l,x=>by
  unfold zLU;by_cases h:f=y
  ·subst h;simp
  ·rw[if_neg h];by_cases h2:cF f y<0
   ·rw[if_pos h2];simp
   ·rw[if_neg h2,List.mem_cons,zGr f l,List.mem_cons];constructor
    ·rintro (h|h|h)<;>simp[h]
    ·rintro (h|h|h)<;>simp[h]
theorem zCz:∀(l:List Go.Tk.Fc) (x:Go.Tk.Fc),x∈mkL l<->x∈l
 |[],x=>by simp[mkL]
 |f::l,x=>by show x∈zLU f (mkL l)<->_;rw[zGr,zCz l,List.mem_cons]
theorem zKH(f:Go.Tk.Fc):∀(l:List Go.Tk.Fc),l.Pairwise fLt->(zLU f l).Pairwise fLt
 |[],_=>by simp[zLU]
 |y::l,h=>by
  obtain⟨h1,h2⟩:=List.pairwise_cons.1 h;unfold zLU;by_cases e:f=y
  ·rw[if_pos e];exact h
  ·rw[if_neg e];rcases zA3 f y with⟨a,e2⟩|⟨a,e2⟩|⟨a,e2⟩
   ·rw[if_pos (by omega)];refine List.pairwise_cons.2 ⟨fun z hz=>?_,h⟩;rcases List.mem_cons.1 hz with rfl|hz
    ·exact a
    ·exact zAj a (h1 z hz)
   ·exact absurd a e
   ·rw[if_neg (by omega)];refine List.pairwise_cons.2 ⟨fun z hz=>?_,zKH f l h2⟩;rcases(zGr f l z).1 hz with rfl|hz
    ·exact a
    ·exact h1 z hz
theorem zGg:∀(l:List Go.Tk.Fc),(mkL l).Pairwise fLt
 |[]=>List.Pairwise.nil
 |f::l=>zKH f _ (zGg l)
theorem zEC:∀{l m:List Go.Tk.Fc},l.Pairwise fLt->m.Pairwise fLt->(∀x,x∈l<->x∈m)->l=m
 |[],[],_,_,_=>rfl
 |[],y::m,_,_,h=>by have:=(h y).2 (by simp);cases this
 |x::l,[],_,_,h=>by have:=(h x).1 (by simp);cases this
 |x::l,y::m,h1,h2,h=>by
  obtain⟨a1,a2⟩:=List.pairwise_cons.1 h1;obtain⟨b1,b2⟩:=List.pairwise_cons.1 h2;have e:x=y:=by
   rcases List.mem_cons.1 ((h x).1 (by simp)) with e|hx
   ·exact e
   ·rcases List.mem_cons.1 ((h y).2 (by simp)) with e|hy
    ·exact e.symm
    ·exact absurd (zAj (b1 x hx) (a1 y hy)) zBy
  subst e;refine congrArg _ (zEC a2 b2 fun z=>?_);constructor
  ·intro hz;rcases List.mem_cons.1 ((h z).1 (by simp[hz])) with rfl|JA
   ·exact absurd (a1 z hz) zBy
   ·exact JA
  ·intro hz;rcases List.mem_cons.1 ((h z).2 (by simp[hz])) with rfl|JA
   ·exact absurd (b1 z hz) zBy
   ·exact JA
theorem zRV{s:List Go.Tk.Fc}(hs:s.Pairwise fun x y=>x=y\/fLt x y):∀m,m<=s.length->(ddU s m).Pairwise fLt/\∀x,x∈ddU s m<->∃j,j<m/\s[j]? = some x
 |0,_=>by simp[ddU]
 |m+1,hm=>by
  obtain⟨h1,h2⟩:=zRV hs m (by omega);obtain⟨x,hx⟩:∃x,s[m]? = some x:=⟨_,List.getElem?_eq_getElem (by omega)⟩;have JC:∀j y,j<m->s[j]? = some y->y=x\/fLt y x:=fun j y hj hy=>by obtain⟨a,ea⟩:=List.getElem?_eq_some_iff.1 hx;obtain⟨b,eb⟩:=List.getElem?_eq_some_iff.1 hy;have:=List.pairwise_iff_getElem.1 hs j m b a hj;rw[ea,eb] at this;exact this
  by_cases hk:m=0\/s[m-1]? ≠ some x
  ·rw[zGw hx hk];refine⟨List.pairwise_append.2 ⟨h1,by simp,fun a ha b hb=>?_⟩,fun y=>?_⟩
   ·simp at hb;subst hb;obtain⟨j,hj,ej⟩:=(h2 a).1 ha;rcases hk with hk|hk
    ·omega
    ·obtain⟨p,hp⟩:∃p,s[m-1]? = some p:=⟨_,List.getElem?_eq_getElem (by omega)⟩;have JA:fLt p b:=by
      rcases JC (m-1) p (by omega) hp with e|e
      ·subst e;exact absurd hp hk
      ·exact e
     by_cases e:j=m-1
     ·subst e;rw[hp] at ej;cases ej;exact JA
     ·obtain⟨c,ec⟩:=List.getElem?_eq_some_iff.1 ej;obtain⟨d,ed⟩:=List.getElem?_eq_some_iff.1 hp;have:=List.pairwise_iff_getElem.1 hs j (m-1) c d (by omega);rw[ec,ed] at this;rcases this with e|e
      ·subst e;exact JA
      ·exact zAj e JA
   ·rw[List.mem_append,h2];constructor
    ·rintro (⟨j,hj,e⟩|e)
     ·exact⟨j,by omega,e⟩
     ·simp at e;exact⟨m,by omega,by rw[hx,e]⟩
    ·rintro⟨j,hj,e⟩;by_cases JB:j=m
     ·subst JB;right;rw[hx] at e;cases e;simp
     ·exact .inl ⟨j,by omega,e⟩
  ·have h0:m≠0:=fun e=>hk (.inl e);have hp:s[m-1]? = some x:=Classical.byContradiction fun e=>hk (.inr e);rw[zGv hx h0 hp];refine⟨h1,fun y=>?_⟩;rw[h2];constructor
   ·rintro⟨j,hj,e⟩;exact⟨j,by omega,e⟩
   ·rintro⟨j,hj,e⟩;by_cases JB:j=m
    ·subst JB;exact⟨j-1,by omega,by rw[hp];rw[hx] at e;exact e⟩
    ·exact⟨j,by omega,e⟩
theorem zTQ{s l:List Go.Tk.Fc}(hs:s.Pairwise fun x y=>x=y\/fLt x y)(hp:s.Perm l):ddU s s.length=mkL l:=by
 obtain⟨h1,h2⟩:=zRV hs s.length (Nat.le_refl _);refine zEC h1 (zGg l) fun x=>?_;rw[h2,zCz,<-hp.mem_iff];constructor
 ·rintro⟨j,_,e⟩;exact List.mem_of_getElem? e
 ·intro h;obtain⟨j,hj,e⟩:=List.getElem_of_mem h;exact⟨j,hj,by rw[List.getElem?_eq_getElem hj,e]⟩
theorem zKI(f:Go.Tk.Fc):∀l,(zLU f l).length<=l.length+1
 |[]=>by simp[zLU]
 |x::l=>by
  unfold zLU;split
  ·simp
  ·split
   ·simp
   ·have:=zKI f l;simp;omega
theorem zM9:∀l,(mkL l).length<=l.length
 |[]=>by simp[mkL]
 |f::l=>by have h1:=zKI f (mkL l);have h2:=zM9 l;show(zLU f (mkL l)).length<=_;simp;omega
def jn(x y:List Go.Tk.Fc):Option (List Go.Tk.Fc):=if vB (mkL (x++y))=true then some (mkL (x++y)) else none
end
section
open Go Go.W Go.Tk Go.Rx
theorem zEV{P:Program}{T E ty:Nat}{w:World}(hu:P.underlying T=some (.slice E))(hs:(P.info? E).map (·.size)=some 1){b o n cap:Nat}{a:Addr}{sl sc:Nat}{cs:List Value}{c:Array Value}{E':Nat}(hb:w.heap[b]? = some (.cells c E' (0,0)))
  (hn:cs.length=Nat.min sl n) (JA:∀j v,cs[j]? = some v->w.cell? (a.add j)=some v) (JC:o+cs.length<=c.size) (h1:cs.all zAn=true) :
  (Builtin.copy_ #[T,T] ty #[.slice (some ⟨b,o,none⟩) n cap,.slice (some a) sl sc]).run P w=.ok (goInt cs.length) (w.setB b (.cells (zBh c o cs) E' (0,0))):=by
 have hl:=run_loadCells_list (P:=P) w a cs JA;have JB:=zAx (P:=P) (b:=b) (o:=o) (E:=E') cs 0 c w hb (by simpa using JC) h1;simp only[Nat.add_zero] at JB;cases hq:P.info? E with
 |none=>simp[hq] at hs
 |some i =>
  have hi:i.size=1:=by simpa[hq] using hs
  simp[Builtin.copy_,run_underlying hu,Builtin.lenOf,Builtin.firstCells,sizeOf,typeInfo,hq,hi,<-hn,hl,JB]
theorem zEa(qs:List Rw):qs.flatMap sv1=qs.map fun p=>p.1.1:=by
 induction qs with
 |nil=>rfl
 |cons x l ih=>rw[List.flatMap_cons,ih];rfl
theorem zMy(qs:List Rw):(qs.map fun p=>p.1.1).all zAn=true:=by
 rw[List.all_eq_true];intro u hu;obtain⟨p,_,rfl⟩:=List.mem_map.1 hu;exact p.1.2
theorem zLS{w:World}{sv:Value}{qs:List Rw}{z:Rw}{zb i:Nat}(h:Own w sv 23 1 sv1 qs)(hz:w.heap[zb]? = some (.cells #[z.1.1] 23 (0,0)))(Jr:zb∉sv.own)(hi:i<=qs.length)(hl:qs.length<=100000) :
  Calls Tryz.prog 200 [sv,.int .i64 (i:Nat),.slice (some ⟨zb,0,none⟩) 1 1].toArray w fun e w'=>∃u,e=.returned u/\Kp sv.own w w'/\(∀x∈u.own,x∈sv.own\/w.heap.size<=x)/\Own w' u 23 1 sv1 (qs.take i++z::qs.drop i):=by
 refine enter Tryz.func200 mixed low200 (Nat.le_of_ble_eq_true rfl) ?_;simp only[L200];simp;refine h.vw.slice_lo zT zIY hi fun v0 _ _=>?_;simp[h.len];by_cases Jj:i=qs.length
 ·subst Jj;simp;refine h.append (xs:=[z]) zT zB9 zIY rfl (fun j x hj=>?_) (by omega) (by unfold maxLen;omega) fun v' w' k' o' Ju=>?_
  ·cases j with
   |succ j=>simp[sv1] at hj
   |zero =>simp[sv1] at hj;subst hj;rw[zh,zA hz];rfl
  ·simp;exact⟨k',Ju,o'⟩
 have Jg:i<qs.length:=by omega
 have JL:(((i:Nat):Int)==((qs.length:Nat):Int))=false:=by rw[beq_eq_false_iff_ne];omega
 simp[Jj,JL,h.len];rcases h with⟨rfl,rfl⟩|⟨g,cap,cur,junk,rfl,hb,hc,hj,Jh,hm⟩
 ·simp at Jg
 have JA:Tryz.prog.underlying 74=some (.slice 23):=Tryz.underlying74;obtain⟨i0,zv,_,JB,Jt,JG,Jl,_,Je,_⟩:=zr (zIY:zn Tryz.prog 74=some _);have JS:(Tryz.prog.info? 23).map (·.size)=some 1:=by rw[JB];simp[JG]
 obtain⟨n,hn⟩:∃n,n=qs.length:=⟨_,rfl⟩;rw[<-hn] at Jg Jh hj JL hi hl ⊢;have JT:cur.size=cap:=by have:=congrArg List.length hc;simp[zJ zT] at this;omega
 rw[zEa] at hc;obtain⟨n1,J4⟩:∃n1,n1=n+1:=⟨_,rfl⟩;obtain⟨i1,JM⟩:∃i1,i1=i+1:=⟨_,rfl⟩;have wn1:IntKind.i64.wrap ((n:Int)+1)=(n1:Int):=by rw[zH (by omega) (by omega)];omega
 have wi1:IntKind.i64.wrap ((i:Int)+1)=(i1:Int):=by rw[zH (by omega) (by omega)];omega
 rw[zSl];refine zA4 (v:=.int .i64 (cap:Nat)) (fun w'=>by simp[Builtin.cap_,run_underlying JA,goInt]) ?_;simp only[wn1];simp;have Jm:g≠zb:=fun e=>Jr (by simp[e]);by_cases JD:cap<n1
 ·have Jv:(cap:Int)<(n1:Int):=by omega
  obtain⟨q,hq⟩:∃q,q=n1-i:=⟨_,rfl⟩;have wni:IntKind.i64.wrap ((n1:Int)-(i:Int))=(q:Int):=by rw[zH (by omega) (by omega)];omega
  have Jx:i<=cap:=by omega
  have Jk:i+q=n1:=by omega
  simp[JD];refine zA4 (v:=.slice (some ⟨g,0,none⟩) i cap) (fun w'=>by simp[Instr.sliceAt,run_underlying JA,Instr.slice,Instr.sliceBounds,Instr.sliceBound,asIntOf,sizeOf,typeInfo,JB,Jx]) ?_;simp[wn1,wni];have holds:(Builtin.firstCells i0.size i (.slice (some ⟨g,0,none⟩) i cap)).run Tryz.prog w.drew=.ok ((qs.take i).map fun p=>p.1.1).toArray w.drew:=by
   rw[JG];refine run_firstCells_some w.drew 1 i ⟨g,0,none⟩ i cap _ (by simp;omega) (fun j v hj=>?_);rw[zh,Nat.zero_add];show w.cell? _=_;rw[zA hb,<-Array.getElem?_toList,hc];have:j<((qs.take i).map fun p:Rw=>p.1.1).length:=(List.getElem?_eq_some_iff.1 hj).1;have Ji:j<i:=by rw[List.length_map,List.length_take] at this;omega
   rw[List.getElem?_append_left (by simp;omega)];rw[List.getElem?_map,List.getElem?_take_of_lt Ji,<-List.getElem?_map] at hj;exact hj
  have JO:=Go.Lib.run_append_grow_zeros w 74 3 74 23 i0 zv .i64 .i64 JA Tryz.underlying3 JB Jt (some ⟨g,0,none⟩) i cap _ holds q (by omega) (by omega) (by omega) (by omega) (by rw[Jl];omega) (by rw[Jl,Jk];exact growslice_fits JD (by omega));rw[Jk] at JO;obtain⟨G,hG⟩:∃G,G=grownCap w n1 cap 23:=⟨_,rfl⟩;obtain⟨A,hA⟩:∃A,A=(qs.take i).map fun p=>p.1.1:=⟨_,rfl⟩;obtain⟨D,hD⟩:∃D,D=(qs.drop i).map fun p=>p.1.1:=⟨_,rfl⟩;obtain⟨Z1,Jp⟩:∃Z1,Z1=Builtin.zeroCells zv.cells q:=⟨_,rfl⟩;obtain⟨Z2,Jo⟩:∃Z2,Z2=Builtin.zeroCells zv.cells (G-n1):=⟨_,rfl⟩;have JH:A.length=i:=by rw[hA];simp;omega
  have JI:D.length=n-i:=by rw[hD];simp;omega
  have JQ:Z1.size=q:=by rw[Jp];simp[Builtin.zeroCells,Je]
  have JP:Z2.size=G-n1:=by rw[Jo];simp[Builtin.zeroCells,Je]
  have Jc:n1<=G:=by rw[hG];exact grownCap_ge w _ _ _
  have J1:G<=maxLen:=by rw[hG];exact grownCap_le_maxLen w _ _ _ (by unfold maxLen;omega)
  rw[<-hG,<-hA,<-Jp,<-Jo] at JO;obtain⟨R,hR⟩:∃R,R=A.toArray++Z1++Z2:=⟨_,rfl⟩;have J0:R.toList=A++(Z1.toList++Z2.toList):=by rw[hR];simp
  have Jq:R.size=G:=by rw[hR];simp[JH,JQ,JP];omega
  rw[<-hR] at JO;obtain⟨b',Jn⟩:∃b',b'=w.heap.size:=⟨_,rfl⟩;obtain⟨w2,JW⟩:∃w2,w2=w.drew.alloc (.cells R 23):=⟨_,rfl⟩;rw[<-Jn,<-JW] at JO;have k2:Kp [] w w2:=by rw[JW];exact(Kp.refl [] w).drew.alloc _
  have o2:w2.heap[b']? = some (.cells R 23 (0,0)):=by rw[Jn,JW];exact zO (w:=w.drew)
  have z2:=k2.blk hz (by simp);have g2:=k2.blk hb (by simp);have Js:=zS hz;have Jz:=zS hb;refine zD8 JO ?_;have J2:¬G=i:=by omega
  have JE:i+[z.1.1].length<=R.size:=by rw[Jq];show i+1<=G;omega
  have Jd:¬G=i1:=by omega
  have Jy:i<=n1:=by omega
  simp;refine zA4 (v:=.slice (some ⟨b',i,none⟩) (n1-i) (G-i)) (fun w'=>by simp[Instr.sliceAt,run_underlying JA,Instr.slice,Instr.sliceBounds,Instr.sliceBound,asIntOf,sizeOf,typeInfo,JB,JG,J2,Jy,Jc,zh]) ?_;simp;refine zD8 (zEV JA JS (cs:=[z.1.1]) o2 (show 1=Nat.min 1 (n1-i) from(Nat.min_eq_left (by omega)).symm) (fun j u hj=>?_) JE (by simp[z.1.2])) ?_
  ·cases j with
   |succ j=>simp at hj
   |zero =>simp at hj;subst hj;rw[zh,zA z2];rfl
  obtain⟨R1,Jb⟩:∃R1,R1=zBh R i [z.1.1]:=⟨_,rfl⟩;obtain⟨w3,JV⟩:∃w3,w3=w2.setB b' (.cells R1 23 (0,0)):=⟨_,rfl⟩;have k3:Kp [] w w3:=by rw[JV];exact k2.setB (.inr (by omega)) _
  have o3:w3.heap[b']? = some (.cells R1 23 (0,0)):=by rw[JV];exact zAg (zS o2)
  have g3:=k3.blk hb (by simp);have Ja:R1.toList=A++z.1.1::(Z1.toList.drop 1++Z2.toList):=by
   rw[Jb,zBJ _ _ _ JE,J0];have e1:(A++(Z1.toList++Z2.toList)).take i=A:=by rw[List.take_append_of_le_length (by omega),List.take_of_length_le (by omega)]
   have e2:(A++(Z1.toList++Z2.toList)).drop (i+[z.1.1].length)=Z1.toList.drop 1++Z2.toList:=by show(A++(Z1.toList++Z2.toList)).drop (i+1)=_;rw[List.drop_append,List.drop_of_length_le (by omega),JH,Nat.add_sub_cancel_left,List.drop_append_of_le_length (by simp;omega)];rfl
   rw[e1,e2];simp
  have JR:R1.size=G:=by rw[<-Jq,Jb,zEf]
  have JF:i1<=n1:=by omega
  have JU:¬cap=i:=by omega
  rw[<-Jb,<-JV];simp[wi1];refine zA4 (v:=.slice (some ⟨b',i1,none⟩) (n1-i1) (G-i1)) (fun w'=>by simp[Instr.sliceAt,run_underlying JA,Instr.slice,Instr.sliceBounds,Instr.sliceBound,asIntOf,sizeOf,typeInfo,JB,JG,Jd,JF,Jc,zh]) ?_;simp;refine zA4 (v:=.slice (some ⟨g,i,none⟩) (n-i) (cap-i)) (fun w'=>by simp[Instr.sliceAt,run_underlying JA,Instr.slice,Instr.sliceBounds,Instr.sliceBound,asIntOf,sizeOf,typeInfo,JB,JG,JU,hi,Jh,zh]) ?_;simp;refine zD8 (zEV JA JS (cs:=D) (by exact o3) (by rw[JI];exact(Nat.min_eq_left (by omega)).symm) (fun j u hj=>?_) (by rw[JR,JI];omega) (by rw[hD];exact zMy _)) ?_
  ·rw[zh];show w3.cell? _=_;rw[zA g3,<-Array.getElem?_toList,hc];have:j<D.length:=(List.getElem?_eq_some_iff.1 hj).1;rw[List.getElem?_append_left (by simp;omega)];rw[hD,List.getElem?_map,List.getElem?_drop,<-List.getElem?_map] at hj;exact hj
  simp;have JK:(qs.take i++z::qs.drop i).length=n1:=by simp;omega
  refine⟨(k3.drew.of0).setB (.inr (by omega)) _,.inr (by omega),.inr ⟨b',G,_,Z2.toList,by rw[JK],zAg (zS o3),?_,by rw[JK];simp[JP];omega,by rw[JK];exact Jc,J1⟩⟩;rw[zBJ _ _ _ (by rw[JR,JI];omega),Ja,zEa,List.map_append,List.map_cons,<-hA,<-hD];have e1:(A++z.1.1::(Z1.toList.drop 1++Z2.toList)).take i1=A++[z.1.1]:=by rw[List.take_append,List.take_of_length_le (by omega),JH,JM,Nat.add_sub_cancel_left];rfl
  have e2:(A++z.1.1::(Z1.toList.drop 1++Z2.toList)).drop (i1+D.length)=Z2.toList:=by rw[List.drop_append,List.drop_of_length_le (by omega),JH,JI,show i1+(n-i)-i=(n-i)+1 by omega,List.drop_succ_cons,List.drop_left' (by rw[List.length_drop,Array.length_toList,JQ];omega)];rfl
  rw[e1,e2];simp
 ·have Jv:¬(cap:Int)<(n1:Int):=by omega
  simp[JD];have JC:n1<=cap:=by omega
  simp only[wn1];refine zA4 (v:=.slice (some ⟨g,0,none⟩) n1 cap) (fun w'=>by simp[Instr.sliceAt,run_underlying JA,Instr.slice,Instr.sliceBounds,Instr.sliceBound,asIntOf,sizeOf,typeInfo,JB,JC]) ?_;have JN:¬cap=i1:=by omega
  have JF:i1<=n1:=by omega
  simp[wi1];refine zA4 (v:=.slice (some ⟨g,i1,none⟩) (n1-i1) (cap-i1)) (fun w'=>by simp[Instr.sliceAt,run_underlying JA,Instr.slice,Instr.sliceBounds,Instr.sliceBound,asIntOf,sizeOf,typeInfo,JB,JC,JG,JN,JF,zh]) ?_;simp;have en:zE Tryz.prog 234=false:=by kernel_rfl
  have Jw:(callFunc 234 #[.slice (some ⟨zb,0,none⟩) 1 1,.slice (some ⟨g,i1,none⟩) (n1-i1) (cap-i1)]).run Tryz.prog w=.ok (.value (.bool false)) w:=by
   rw[run_callFunc_extern Tryz.func234 (by kernel_rfl) (by kernel_rfl) (by kernel_rfl) (e:=Extern.SlicesOverlaps.overlaps #[74,74] #[4]) (by kernel_rfl),
    Go.Lib.run_overlaps_apart w 74 4 23 JA 1 Tryz.sizeOf23 ⟨zb,0,none⟩ ⟨g,i1,none⟩ 1 1 (n1-i1) (cap-i1) (fun e=>Jm e.symm) 23 23 1 cap (by simp[World.shape?,hz]) (by simp[World.shape?,hb,JT]) (by omega) (by simp[World.frozen?,hz]) (by simp[World.frozen?,hz])]
   rfl
  simp[en];refine zWN Jw ?_;simp only[wi1];simp;refine zA4 (v:=.slice (some ⟨g,i1,none⟩) (n1-i1) (cap-i1)) (fun w'=>by simp[wi1,Instr.sliceAt,run_underlying JA,Instr.slice,Instr.sliceBounds,Instr.sliceBound,asIntOf,sizeOf,typeInfo,JB,JC,JG,JN,JF,zh]) ?_;have JU:¬cap=i:=by omega
  have JE:i<=n1:=by omega
  simp;refine zA4 (v:=.slice (some ⟨g,i,none⟩) (n1-i) (cap-i)) (fun w'=>by simp[Instr.sliceAt,run_underlying JA,Instr.slice,Instr.sliceBounds,Instr.sliceBound,asIntOf,sizeOf,typeInfo,JB,JG,JU,JE,JC,zh]) ?_;simp;obtain⟨D,hD⟩:∃D,D=(qs.drop i).map fun p=>p.1.1:=⟨_,rfl⟩;obtain⟨A,hA⟩:∃A,A=(qs.take i).map fun p=>p.1.1:=⟨_,rfl⟩;have JH:A.length=i:=by rw[hA];simp;omega
  have JI:D.length=n-i:=by rw[hD];simp;omega
  have J3:qs.map (fun p=>p.1.1)=A++D:=by rw[hA,hD,<-List.map_append,List.take_append_drop]
  have Ji:junk.length=cap-n:=by omega
  rw[J3,List.append_assoc] at hc;refine zD8 (zEV JA JS (cs:=D) (w:=w.drew) hb (show D.length=Nat.min (n1-i) (n1-i1) by rw[JI,show n-i=n1-i1 by omega];exact(Nat.min_eq_right (by omega)).symm) (fun j u hj=>?_) (by rw[JT,JI];omega) (by rw[hD];exact zMy _)) ?_
  ·rw[zh];show w.cell? _=_;rw[zA hb,<-Array.getElem?_toList,hc,List.getElem?_append_right (by omega),JH,Nat.add_sub_cancel_left,List.getElem?_append_left (List.getElem?_eq_some_iff.1 hj).1];exact hj
  obtain⟨c1,JZ⟩:∃c1,c1=zBh cur i1 D:=⟨_,rfl⟩;obtain⟨w1,JX⟩:∃w1,w1=w.drew.setB g (.cells c1 23 (0,0)):=⟨_,rfl⟩;have k1:Kp [g] w w1:=by rw[JX];exact(Kp.refl [g] w).drew.setB (.inl (by simp)) _
  have o1:w1.heap[g]? = some (.cells c1 23 (0,0)):=by rw[JX];exact zAg (w:=w.drew) (zS hb)
  have z1:=k1.blk hz (by simp;exact fun e=>Jm e.symm);have JY:c1.size=cap:=by rw[JZ,zEf,JT]
  rw[<-JZ,<-JX];simp;refine zA4 (v:=.slice (some ⟨g,i,none⟩) (n1-i) (cap-i)) (fun w'=>by simp[Instr.sliceAt,run_underlying JA,Instr.slice,Instr.sliceBounds,Instr.sliceBound,asIntOf,sizeOf,typeInfo,JB,JG,JU,JE,JC,zh]) ?_;simp;have Jf:i+[z.1.1].length<=c1.size:=by rw[JY];show i+1<=cap;omega
  refine zD8 (zEV JA JS (cs:=[z.1.1]) o1 (show 1=Nat.min 1 (n1-i) from(Nat.min_eq_left (by omega)).symm) (fun j u hj=>?_) Jf (by simp[z.1.2])) ?_
  ·cases j with
   |succ j=>simp at hj
   |zero =>simp at hj;subst hj;rw[zh,zA z1];rfl
  simp;have JK:(qs.take i++z::qs.drop i).length=n1:=by simp;omega
  refine⟨k1.setB (.inl (by simp)) _,.inr ⟨g,cap,_,junk.drop 1,by rw[JK],zAg (zS o1),?_,by rw[JK];simp;omega,by rw[JK];exact JC,hm⟩⟩;show(zBh c1 i [z.1.1]).toList=_;rw[zBJ _ _ _ Jf,JZ,zBJ _ _ _ (by rw[JT,JI];omega),hc,zEa,List.map_append,List.map_cons,<-hA,<-hD];have eX:(A++(D++junk)).take i1=A++(D++junk).take 1:=by rw[List.take_append,List.take_of_length_le (by omega),JH,JM,Nat.add_sub_cancel_left]
  have eXl:((D++junk).take 1).length=1:=by rw[List.length_take,List.length_append];omega
  have eR:(A++(D++junk)).drop (i1+D.length)=junk.drop 1:=by rw[List.drop_append,List.drop_of_length_le (by omega),JH,List.nil_append,List.drop_append,List.drop_of_length_le (by omega),List.nil_append];congr 1;omega
  rw[eX,eR,List.append_assoc A,List.append_assoc A,List.take_append_of_le_length (by omega),List.take_of_length_le (by omega)];have e3:(A++((D++junk).take 1++D++junk.drop 1)).drop (i+[z.1.1].length)=D++junk.drop 1:=by show(A++((D++junk).take 1++D++junk.drop 1)).drop (i+1)=_;rw[List.drop_append,List.drop_of_length_le (by omega),JH,Nat.add_sub_cancel_left,List.nil_append,List.append_assoc,List.drop_left' eXl]
  rw[e3];simp
end
end Go.Proofs.YtolkjbmcindhjaaGreat
namespace Go.Proofs
section
open Go.Shelf
def Tryz.sort249_ren:Go.Shelf.Ren:=⟨fun|6=>249|15=>120|14=>256|28=>182|29=>183|20=>258|21=>259|22=>260|23=>261|24=>262|25=>263|26=>264|27=>265|46=>266|47=>222|48=>223|49=>267|50=>268|57=>269|n=>n,fun|22=>23|24=>100|25=>247|3=>3|39=>205|0=>0|53=>285|55=>287|4=>4|46=>278|45=>277|50=>248|5=>5|9=>9|66=>325|70=>329|76=>346|77=>347|n=>n,fun|n=>n⟩
theorem Tryz.sort249:Go.Proofs.SlLaysF0.n6 Tryz.prog Tryz.sort249_ren:={
 mixed:=by kernel_rfl
 f6:=⟨Tryz.f249.name,by decide,Tryz.func249.trans (congrArg some (by kernel_rfl))⟩
 f14:=⟨Tryz.f256.name,by decide,Tryz.func256.trans (congrArg some (by kernel_rfl))⟩
 f15:=Tryz.func120.trans (congrArg some (by kernel_rfl))
 f20:=⟨Tryz.f258.name,by decide,Tryz.func258.trans (congrArg some (by kernel_rfl))⟩
 f21:=⟨Tryz.f259.name,by decide,Tryz.func259.trans (congrArg some (by kernel_rfl))⟩
 f22:=⟨Tryz.f260.name,by decide,Tryz.func260.trans (congrArg some (by kernel_rfl))⟩
 f23:=⟨Tryz.f261.name,by decide,Tryz.func261.trans (congrArg some (by kernel_rfl))⟩
 f24:=⟨Tryz.f262.name,by decide,Tryz.func262.trans (congrArg some (by kernel_rfl))⟩
 f25:=⟨Tryz.f263.name,by decide,Tryz.func263.trans (congrArg some (by kernel_rfl))⟩
 f26:=⟨Tryz.f264.name,by decide,Tryz.func264.trans (congrArg some (by kernel_rfl))⟩
 f27:=⟨Tryz.f265.name,by decide,Tryz.func265.trans (congrArg some (by kernel_rfl))⟩
 f28:=Tryz.func182.trans (congrArg some (by kernel_rfl))
 f29:=Tryz.func183.trans (congrArg some (by kernel_rfl))
 f46:=⟨Tryz.f266.name,by decide,Tryz.func266.trans (congrArg some (by kernel_rfl))⟩
 f47:=Tryz.func222.trans (congrArg some (by kernel_rfl))
 f48:=Tryz.func223.trans (congrArg some (by kernel_rfl))
 f49:=⟨Tryz.f267.name,by decide,Tryz.func267.trans (congrArg some (by kernel_rfl))⟩
 f50:=⟨Tryz.f268.name,by decide,Tryz.func268.trans (congrArg some (by kernel_rfl))⟩
 f57:=⟨Tryz.f269.name,by decide,Tryz.func269.trans (congrArg some (by kernel_rfl))⟩
 t0:=Tryz.underlying0
 a0:=Tryz.isAgg0
 z0:=Tryz.sizeOf0
 v0:=Tryz.zeroValue0
 t3:=Tryz.underlying3
 a3:=Tryz.isAgg3
 z3:=Tryz.sizeOf3
 v3:=Tryz.zeroValue3
 t4:=Tryz.underlying4
 a4:=Tryz.isAgg4
 z4:=Tryz.sizeOf4
 v4:=Tryz.zeroValue4
 t5:=Tryz.underlying5
 a5:=Tryz.isAgg5
 z5:=Tryz.sizeOf5
 v5:=Tryz.zeroValue5
 t9:=Tryz.underlying9
 a9:=Tryz.isAgg9
 z9:=Tryz.sizeOf9
 v9:=Tryz.zeroValue9
 t22:=Tryz.underlying23
 a22:=Tryz.isAgg23
 z22:=Tryz.sizeOf23
 v22:=Tryz.zeroValue23
 t25:=Tryz.underlying247
 a25:=Tryz.isAgg247
 z25:=Tryz.sizeOf247
 v25:=Tryz.zeroValue247
 t39:=Tryz.underlying205
 a39:=Tryz.isAgg205
 z39:=Tryz.sizeOf205
 v39:=Tryz.zeroValue205
 t45:=Tryz.underlying277
 a45:=Tryz.isAgg277
 z45:=Tryz.sizeOf277
 v45:=Tryz.zeroValue277
 t46:=Tryz.underlying278
 a46:=Tryz.isAgg278
 z46:=Tryz.sizeOf278
 v46:=Tryz.zeroValue278
 t50:=Tryz.underlying248
 a50:=Tryz.isAgg248
 z50:=Tryz.sizeOf248
 v50:=Tryz.zeroValue248
 t53:=Tryz.underlying285
 a53:=Tryz.isAgg285
 z53:=Tryz.sizeOf285
 v53:=Tryz.zeroValue285
 t55:=Tryz.underlying287
 a55:=Tryz.isAgg287
 z55:=Tryz.sizeOf287
 v55:=Tryz.zeroValue287
 t66:=Tryz.underlying325
 a66:=Tryz.isAgg325
 z66:=Tryz.sizeOf325
 v66:=Tryz.zeroValue325
 t70:=Tryz.underlying329
 a70:=Tryz.isAgg329
 z70:=Tryz.sizeOf329
 v70:=Tryz.zeroValue329
 t76:=Tryz.underlying346
 a76:=Tryz.isAgg346
 z76:=Tryz.sizeOf346
 v76:=Tryz.zeroValue346
 t77:=Tryz.underlying347
 a77:=Tryz.isAgg347
 z77:=Tryz.sizeOf347
 v77:=Tryz.zeroValue347 }
def Tryz.sort89_ren:Go.Shelf.Ren:=⟨fun|6=>89|15=>120|14=>142|28=>182|29=>183|20=>201|21=>202|22=>203|23=>204|24=>205|25=>206|26=>207|27=>208|46=>236|47=>222|48=>223|49=>237|50=>238|57=>253|n=>n,fun|22=>74|24=>23|25=>173|3=>3|39=>205|0=>0|53=>285|55=>287|4=>4|46=>278|45=>277|50=>248|5=>5|9=>9|66=>325|70=>329|76=>346|77=>347|n=>n,fun|n=>n⟩
theorem Tryz.sort89:Go.Proofs.SlLaysF.n6 Tryz.prog Tryz.sort89_ren:={
 mixed:=by kernel_rfl
 f6:=⟨Tryz.f89.name,by decide,Tryz.func89.trans (congrArg some (by kernel_rfl))⟩
 f14:=⟨Tryz.f142.name,by decide,Tryz.func142.trans (congrArg some (by kernel_rfl))⟩
 f15:=Tryz.func120.trans (congrArg some (by kernel_rfl))
 f20:=⟨Tryz.f201.name,by decide,Tryz.func201.trans (congrArg some (by kernel_rfl))⟩
 f21:=⟨Tryz.f202.name,by decide,Tryz.func202.trans (congrArg some (by kernel_rfl))⟩
 f22:=⟨Tryz.f203.name,by decide,Tryz.func203.trans (congrArg some (by kernel_rfl))⟩
 f23:=⟨Tryz.f204.name,by decide,Tryz.func204.trans (congrArg some (by kernel_rfl))⟩
 f24:=⟨Tryz.f205.name,by decide,Tryz.func205.trans (congrArg some (by kernel_rfl))⟩
 f25:=⟨Tryz.f206.name,by decide,Tryz.func206.trans (congrArg some (by kernel_rfl))⟩
 f26:=⟨Tryz.f207.name,by decide,Tryz.func207.trans (congrArg some (by kernel_rfl))⟩
 f27:=⟨Tryz.f208.name,by decide,Tryz.func208.trans (congrArg some (by kernel_rfl))⟩
 f28:=Tryz.func182.trans (congrArg some (by kernel_rfl))
 f29:=Tryz.func183.trans (congrArg some (by kernel_rfl))
 f46:=⟨Tryz.f236.name,by decide,Tryz.func236.trans (congrArg some (by kernel_rfl))⟩
 f47:=Tryz.func222.trans (congrArg some (by kernel_rfl))
 f48:=Tryz.func223.trans (congrArg some (by kernel_rfl))
 f49:=⟨Tryz.f237.name,by decide,Tryz.func237.trans (congrArg some (by kernel_rfl))⟩
 f50:=⟨Tryz.f238.name,by decide,Tryz.func238.trans (congrArg some (by kernel_rfl))⟩
 f57:=⟨Tryz.f253.name,by decide,Tryz.func253.trans (congrArg some (by kernel_rfl))⟩
 t0:=Tryz.underlying0
 a0:=Tryz.isAgg0
 z0:=Tryz.sizeOf0
 v0:=Tryz.zeroValue0
 t3:=Tryz.underlying3
 a3:=Tryz.isAgg3
 z3:=Tryz.sizeOf3
 v3:=Tryz.zeroValue3
 t4:=Tryz.underlying4
 a4:=Tryz.isAgg4
 z4:=Tryz.sizeOf4
 v4:=Tryz.zeroValue4
 t5:=Tryz.underlying5
 a5:=Tryz.isAgg5
 z5:=Tryz.sizeOf5
 v5:=Tryz.zeroValue5
 t9:=Tryz.underlying9
 a9:=Tryz.isAgg9
 z9:=Tryz.sizeOf9
 v9:=Tryz.zeroValue9
 t22:=Tryz.underlying74
 a22:=Tryz.isAgg74
 z22:=Tryz.sizeOf74
 v22:=Tryz.zeroValue74
 a24:=Tryz.isAgg23
 z24:=Tryz.sizeOf23
 t25:=Tryz.underlying173
 a25:=Tryz.isAgg173
 z25:=Tryz.sizeOf173
 v25:=Tryz.zeroValue173
 t39:=Tryz.underlying205
 a39:=Tryz.isAgg205
 z39:=Tryz.sizeOf205
 v39:=Tryz.zeroValue205
 t45:=Tryz.underlying277
 a45:=Tryz.isAgg277
 z45:=Tryz.sizeOf277
 v45:=Tryz.zeroValue277
 t46:=Tryz.underlying278
 a46:=Tryz.isAgg278
 z46:=Tryz.sizeOf278
 v46:=Tryz.zeroValue278
 t50:=Tryz.underlying248
 a50:=Tryz.isAgg248
 z50:=Tryz.sizeOf248
 v50:=Tryz.zeroValue248
 t53:=Tryz.underlying285
 a53:=Tryz.isAgg285
 z53:=Tryz.sizeOf285
 v53:=Tryz.zeroValue285
 t55:=Tryz.underlying287
 a55:=Tryz.isAgg287
 z55:=Tryz.sizeOf287
 v55:=Tryz.zeroValue287
 t66:=Tryz.underlying325
 a66:=Tryz.isAgg325
 z66:=Tryz.sizeOf325
 v66:=Tryz.zeroValue325
 t70:=Tryz.underlying329
 a70:=Tryz.isAgg329
 z70:=Tryz.sizeOf329
 v70:=Tryz.zeroValue329
 t76:=Tryz.underlying346
 a76:=Tryz.isAgg346
 z76:=Tryz.sizeOf346
 v76:=Tryz.zeroValue346
 t77:=Tryz.underlying347
 a77:=Tryz.isAgg347
 z77:=Tryz.sizeOf347
 v77:=Tryz.zeroValue347 }
end
end Go.Proofs
namespace Go.Proofs.YtolkjbmcindhjaaGreat
section
open Go Go.W Go.Tk Go.Rx
theorem zGC{α:Type}[Inhabited α]{enc:α->List Value}{k:Nat}(hk:∀x,(enc x).length=k)(JA:0<k)(d:Array α):(Go.Sort.flatK enc k d).toList=d.toList.flatMap enc:=by
 apply List.ext_getElem?;intro t;rw[zFC hk JA];have JB:(Go.Sort.flatK enc k d).toList.length=d.size*k:=by simp
 by_cases ht:t<d.size*k
 ·have hd:t/k<d.size:=(Nat.div_lt_iff_lt_mul JA).2 ht;have hm:t%k<k:=Nat.mod_lt _ JA;have e1:=Go.Sort.get_flatK enc k d t ht;rw[getElem!_pos _ _ (by simpa using ht),getElem!_pos d _ hd,getElem!_pos (enc d[t/k]) _ (by rw[hk];exact hm)] at e1;rw[List.getElem?_eq_getElem (by rw[JB];exact ht)];simp only[Array.getElem_toList];rw[e1,List.getElem?_eq_getElem (by simpa using hd)];simp
 ·rw[List.getElem?_eq_none_iff.2 (by rw[JB];omega)];have:d.size<=t/k:=(Nat.le_div_iff_mul_le JA).2 (by omega);rw[List.getElem?_eq_none_iff.2 (by simpa using this)];rfl
theorem zIz{w:World}{g E:Nat}{cur:Array Value}{F:Array Value}{junk:List Value}(hb:w.heap[g]? = some (.cells cur E (0,0)))(hc:cur.toList=F.toList++junk):Go.Sort.Holds id w g 0 F:=by
 intro j hj;have e:cur[j]? = F[j]? := by rw[<-Array.getElem?_toList,hc,List.getElem?_append_left (by simpa using hj),Array.getElem?_toList]
 constructor
 ·simp[World.cell?,hb,e,getElem!_pos F j hj,Array.getElem?_eq_getElem hj]
 ·simp[World.frozen?,hb]
theorem zMn{cur F G:Array Value}{junk:List Value}(hc:cur.toList=F.toList++junk)(hy:G.size=F.size):(Go.Sort.putCells id 0 G cur).toList=G.toList++junk:=by
 unfold Go.Sort.putCells;rw[Array.toList_mapIdx,hc];apply List.ext_getElem?;intro i;rw[List.getElem?_mapIdx];by_cases hi:i<G.size
 ·rw[List.getElem?_append_left (by simpa[<-hy] using hi),List.getElem?_append_left (by simpa using hi),Array.getElem?_toList,Array.getElem?_toList,Array.getElem?_eq_getElem hi,Array.getElem?_eq_getElem (by omega)];simp[hi,getElem!_pos G i hi]
 ·rw[List.getElem?_append_right (by simp;omega),List.getElem?_append_right (by simp;omega)];simp only[Array.length_toList,hy];cases junk[i-F.size]? with
  |none=>rfl
  |some v =>simp;intro h;omega
theorem zNN{w w':World}{g n:Nat}{f:Array Value->Array Value}{os:Array Obj}(hw:w'=Go.Sort.grow (Go.Sort.mapBlock (Go.Sort.ahead w n) g f) os):Kp [g] w w':=by
 subst hw;refine⟨rfl,rfl,rfl,?_,fun i hi hn=>?_⟩
 ·show w.heap.size<=((w.heap.modify g _)++os).size;simp
 ·show((w.heap.modify g (Go.Sort.onCells f))++os)[i]? = w.heap[i]?;rw[Array.getElem?_append_left (by simpa using hi),Array.getElem?_modify,if_neg (by intro e;exact hn (by simp[e]))]
theorem zOY{w w':World}{g n E:Nat}{f:Array Value->Array Value}{os:Array Obj}{cur:Array Value}(hb:w.heap[g]? = some (.cells cur E (0,0)))(hw:w'=Go.Sort.grow (Go.Sort.mapBlock (Go.Sort.ahead w n) g f) os):w'.heap[g]? = some (.cells (f cur) E (0,0)):=by
 subst hw;show((w.heap.modify g (Go.Sort.onCells f))++os)[g]? = _;have hg:=zS hb;rw[Array.getElem?_append_left (by simpa using hg),Array.getElem?_modify,if_pos rfl,hb];rfl
theorem zUg:Go.Sort.SWO (Go.Proofs.ltOf cF) where
 irrefl x:=by
  unfold Go.Proofs.ltOf;rcases zA3 x x with⟨h,_⟩|⟨_,e⟩|⟨h,_⟩
  ·exact absurd h zBy
  ·simp[e]
  ·exact absurd h zBy
 trans x y z h1 h2:=by
  unfold Go.Proofs.ltOf at *
  simp only[decide_eq_true_eq] at *
  rcases zA3 x y with⟨a,_⟩|⟨_,e⟩|⟨_,e⟩<;>try omega
  rcases zA3 y z with⟨b,_⟩|⟨_,e⟩|⟨_,e⟩<;>try omega
  rcases zA3 x z with⟨_,e⟩|⟨e,_⟩|⟨c,_⟩
  ·omega
  ·subst e;exact absurd (zAj a b) zBy
  ·exact absurd (zAj (zAj a b) c) zBy
 ntrans x y z h1 h2:=by
  unfold Go.Proofs.ltOf at *
  simp only[decide_eq_false_iff_not] at *
  rcases zA3 x y with⟨a,e⟩|⟨a,e⟩|⟨a,e⟩
  ·omega
  ·subst a;exact h2
  ·rcases zA3 y z with⟨b,e2⟩|⟨b,e2⟩|⟨b,e2⟩
   ·omega
   ·subst b;exact h1
   ·rcases zA3 x z with⟨c,e3⟩|⟨c,e3⟩|⟨c,e3⟩
    ·exact absurd (zAj (zAj b a) c) zBy
    ·omega
    ·omega
theorem cF_le{x y:Go.Tk.Fc}(h:¬cF y x<0):x=y\/fLt x y:=by
 rcases zA3 y x with⟨_,e⟩|⟨e,_⟩|⟨a,_⟩
 ·omega
 ·exact .inl e.symm
 ·exact .inr a
theorem zMN{α:Type}[Inhabited α]{lt:α->α->Bool}{d:Array α}(h:Go.Sort.SortedIn lt 0 d.size d):d.toList.Pairwise fun x y=>lt y x=false:=by
 rw[List.pairwise_iff_getElem];intro i j hi hj JB;have JC:i<d.size:=by simpa using hi
 have JA:j<d.size:=by simpa using hj
 have:=h i j (by omega) JB JA;rw[getElem!_pos d i JC,getElem!_pos d j JA] at this;simpa using this
theorem zEq{α:Type}[Inhabited α]{d d':Array α}(h:Go.Sort.PermIn 0 d.size d d'):d'.toList.Perm d.toList:=by
 obtain⟨h1,_,h3⟩:=h;have e1:d'.extract 0 d.size=d':=by rw[<-h1];simp
 have e2:d.extract 0 d.size=d:=by simp
 rwa[e1,e2] at h3
theorem zMM{w:World}{v:Value}{l:List Go.Tk.Fc}(h:Own w v 100 2 fcE l)(hl:l.length<=1000000) :
  Calls Tryz.prog 249 [v,.func (.func 250) #[] #[]].toArray w fun e w'=>∃x,e=.returned x/\x=.tuple #[]/\Kp v.own w w'/\∃l',Own w' v 100 2 fcE l'/\l'.Perm l/\l'.Pairwise (fun x y=>x=y\/fLt x y):=by
 rcases h with⟨rfl,rfl⟩|⟨g,cap,cur,junk,rfl,hb,hc,hj,JH,hm⟩
 ·refine Calls.mono (AnyF.slices_SortFunc_none Tryz.sort249 none 0 _ w) ?_;rintro e w' ⟨rfl,rfl⟩;exact⟨_,rfl,rfl,Kp.refl _ _,[],Own.nil _ _ _ _,List.Perm.refl _,by simp⟩
 ·have hk:∀x:Go.Tk.Fc,(fcE x).length=2:=fun _=>rfl;have hF:(Go.Sort.flatK fcE 2 l.toArray).toList=l.flatMap fcE:=zGC hk (by omega) l.toArray;rw[<-hF] at hc;have hH:Go.Sort.HoldsK fcE 2 w g 0 l.toArray:=zIz hb hc;have JD:Go.Proofs.CmpLays Tryz.prog 250 #[] fcE 2 cF g 0 l.toArray.size w:=fun m os dk hs x y=>by refine Calls.mono (mkf_d x y _) ?_;rintro e w' ⟨v,rfl,rfl,k⟩;exact⟨rfl,k.grow⟩
  have eg:∀args w,(callFunc 250 args).run Tryz.prog w=.ok (.enter 250 args) w:=Go.Proofs.enters_of Tryz.func250 (by kernel_rfl) rfl;have JC:=AnyQ.slices_SortFunc Tryz.sort249 2 Tryz.isAgg100 Tryz.sizeOf100 fcE hk (fun x v hv=>by simp[fcE] at hv;rcases hv with rfl|rfl<;>rfl) cF zUg 250 #[] g 0 cap l.toArray w eg JD hH (zS hb) (by simp;omega);have es:l.toArray.size=l.length:=by simp
  rw[es] at JC;refine Calls.mono JC ?_;rintro e w' ⟨rfl,d',n,os,hp,hs,hw⟩;rw[<-es] at hp hs;have JB:=zEq hp;have JE:w'=Go.Sort.grow (Go.Sort.mapBlock (Go.Sort.ahead w n) g (Go.Sort.putCells id 0 (Go.Sort.flatK fcE 2 d'))) os:=hw;have JA:d'.toList.length=l.length:=by simpa using JB.length_eq
  have JF:d'.size=l.length:=by simpa using JA
  refine⟨_,rfl,rfl,zNN JE,d'.toList,?_,by simpa using JB,?_⟩
  ·refine .inr ⟨g,cap,_,junk,by rw[JA],zOY hb JE,?_,by rw[JA];exact hj,by omega,hm⟩;rw[zMn hc (by simp[JF]),zGC hk (by omega)]
  ·have JG:Go.Sort.SortedIn (Go.Proofs.ltOf cF) 0 d'.size d':=by rw[JF,<-es];exact hs
   refine(zMN JG).imp fun {x y} h=>cF_le ?_;unfold Go.Proofs.ltOf at h;simpa using h
end
section
open Go Go.W Go.Tk Go.Rx
theorem At.ownStep{α:Type}{w w1 w2:World}{F:List Nat}{B:Asr}{v v':Value}{E sz:Nat}{enc:α->List Value}{l l':List α}(hB:Lcl B)(h:At w F (zC (zM v E sz enc l) B) w1)(k:Kp v.own w1 w2)(o:Own w2 v' E sz enc l')(hs:∀x∈v'.own,x∈v.own\/w1.heap.size<=x):At w F (zC (zM v' E sz enc l') B) w2 :=
 At.step Lcl.own hB h fun Fa JA=>by obtain⟨_,rfl⟩:=JA;exact⟨v'.own,⟨o,rfl⟩,k,hs⟩
def MkR(w:World)(l:List Go.Tk.Fc)(x:Value)(w':World):Prop :=
 (vB (mkL l)=true/\∃u,x=.tuple #[u,.nilIface]/\At w [] (zC (zM u 100 2 fcE (mkL l)) Emp) w')\/(vB (mkL l)=false/\∃y,x=.tuple #[.slice none 0 0,.iface 101 y]/\Kp [] w w')
theorem zPY{w:World}(v:Value)(l:List Go.Tk.Fc)(hv:Vw w v fcE l)(hl:l.length<=10000) :
  Calls Tryz.prog 233 [v].toArray w fun e w'=>∃x,e=.returned x/\MkR w l x w':=by
 refine enter Tryz.func233 mixed low233 (Nat.le_of_ble_eq_true rfl) ?_;simp only[L233];simp[hv.len];refine zF (n:=l.length) (by omega) (fun k ρ w'=>ρ 0=v/\ρ 7=v/\At w [] Emp w') (by simp) (by simp)
  ⟨by simp,by simp,At.start rfl⟩ (by decide) (fun _ _ _ _ h=>by simpa using h) (fun _ _ _ _ h=>by simpa using h) ?_ ?_
 ·rintro k ρ w4 hk hc JA ⟨g0,g7,h4⟩;have JB:=hv.kp0 h4.kp;obtain⟨x,hx⟩:∃x,l[k]? = some x:=⟨_,List.getElem?_eq_getElem hk⟩;have ex:=JB.cells zf hx;simp only[fcE] at ex;have JG:(k:Int)<l.length:=by omega
  obtain⟨b,hb⟩:∃b,b=w4.heap.size:=⟨_,rfl⟩;simp(disch:=omega)[g0,g7,hc,JA,JB.idx,ex,<-hb];refine zHz (x:=x) .emp h4 hb fun w6 h6=>?_;have o6:=h6.obj;unfold fcO at o6;have n1:¬(x.1:Int)<0:=by omega
  have n2:¬(x.2:Int)<0:=by omega
  simp(disch:=omega)[g0,g7,hc,JA,<-hb,zA o6,n1,n2];exact h6.drop
 rintro ρ w4 ⟨g0,g7,h4⟩;have JB:=hv.kp0 h4.kp;simp[g0];refine zG (zAS v l JB (by omega)) ?_;rintro u w5 h5;have h6:=At.nw .emp h4 h5;simp;refine zG (zMM h6.own (by omega)) ?_;rintro _ w7 ⟨rfl,k7,s,o7,hp,hs⟩;have h7:=At.ownStep .emp h6 k7 o7 fun x hx=>.inl hx;have JE:s.length=l.length:=hp.length_eq;simp;refine zG (zH8 o7 (by omega)) ?_;rintro u2 w8 ⟨k8,JD,o8⟩;have h8:=At.ownStep .emp h7 k8 o8 fun x hx=>.inl (by rw[<-JD];exact hx);rw[zTQ hs hp] at h8 o8;have JF:=zM9 l;simp;refine zG (zBi u2 (mkL l) o8.vw (by omega)) ?_;rintro _ w9 ⟨rfl,k9⟩;have h9:=h8.kp0 (Lcl.own.star .emp) k9;cases JC:vB (mkL l) with
 |true =>simp;exact .inl ⟨JC,_,rfl,h9⟩
 |false =>simp;exact .inr ⟨JC,_,rfl,h9.kp⟩
end
section
open Go Go.W Go.Tk Go.Rx
def JnR(w:World)(o:Option (List Go.Tk.Fc))(v:Value)(w':World):Prop :=
 (∃z q,o=some z/\v=.tuple #[q,.bool true]/\At w [] (zC (zM q 100 2 fcE z) Emp) w')\/(o=none/\∃q,v=.tuple #[q,.bool false]/\Kp [] w w')
theorem zNQ{w:World}(u v:Value)(x y:List Go.Tk.Fc)(hu:Vw w u fcE x)(hv:Vw w v fcE y)(hx:x.length<=1000)(hy:y.length<=1000)(vx:vB x=true)(vy:vB y=true) :
  Calls Tryz.prog 198 [u,v].toArray w fun e w'=>∃r,e=.returned r/\JnR w (jn x y) r w':=by
 refine enter Tryz.func198 mixed low198 (Nat.le_of_ble_eq_true rfl) ?_;simp only[L198];simp;refine zG (zBi u x hu (by omega)) ?_;rintro _ w1 ⟨rfl,k1⟩;simp[vx];refine zG (zBi v y (hv.kp0 k1) (by omega)) ?_;rintro _ w2 ⟨rfl,k2⟩;have JB:=k1.trans k2;simp[vy];refine zG (zAS u x (hu.kp0 JB) (by omega)) ?_;rintro q w3 h3;have h4:At w [] (zC (zM q 100 2 fcE x) Emp) w3:=At.nw .emp ((At.start rfl:At w [] Emp w).kp0 .emp JB) h3;simp;refine At.appendV (xs:=y) .emp h4 (hv.kp0 h4.kp) zf (fun _=>rfl) zK7 (by omega) (by unfold maxLen;omega) fun q2 w5 h5=>?_;simp;refine zG (zPY q2 (x++y) h5.own.vw (by simp;omega)) ?_;rintro r w6 (⟨JA,q3,rfl,h6⟩|⟨JA,e,rfl,k6⟩)
 ·simp;refine .inl ⟨_,_,by unfold jn;rw[if_pos JA],rfl,?_⟩;have h7:=At.nw .emp (h5.drop) (Nw.of h6);exact h7.drew (Lcl.own.star .emp)
 ·simp;refine .inr ⟨by unfold jn;rw[JA];rfl,_,rfl,(h5.kp.trans0 k6).drew⟩
end
section
open Go Go.W Go.Tk Go.Rx
def zCp(o:List (List Go.Tk.Fc))(z:List Go.Tk.Fc):List (List Go.Tk.Fc):=if z∈o then o else o++[z]
def jn1(x:List Go.Tk.Fc)(o:List (List Go.Tk.Fc))(y:List Go.Tk.Fc):List (List Go.Tk.Fc):=match jn x y with|some z=>zCp o z|none=>o
def jnR(x:List Go.Tk.Fc)(b o:List (List Go.Tk.Fc)):List (List Go.Tk.Fc):=b.foldl (jn1 x) o
def jnL(a b:List (List Go.Tk.Fc)):List (List Go.Tk.Fc):=a.foldl (fun o x=>jnR x b o) []
theorem zKl(o:List (List Go.Tk.Fc))(z:List Go.Tk.Fc):o.length<=(zCp o z).length:=by
 unfold zCp;split<;>simp
theorem zNW(x:List Go.Tk.Fc)(o:List (List Go.Tk.Fc))(y:List Go.Tk.Fc):o.length<=(jn1 x o y).length:=by
 unfold jn1;split
 ·exact zKl _ _
 ·exact Nat.le_refl _
theorem zIr(x:List Go.Tk.Fc):∀(b o:List (List Go.Tk.Fc)),o.length<=(jnR x b o).length
 |[],o=>Nat.le_refl _
 |y::b,o=>Nat.le_trans (zNW x o y) (zIr x b _)
theorem zNU(b:List (List Go.Tk.Fc)):∀(a o:List (List Go.Tk.Fc)),o.length<=(a.foldl (fun o x=>jnR x b o) o).length
 |[],o=>Nat.le_refl _
 |x::a,o=>Nat.le_trans (zIr x b o) (zNU b a _)
theorem zAu{α β:Type}(f:β->α->β)(l:List α)(k:Nat)(x:α)(h:l[k]? = some x)(o:β):(l.take (k+1)).foldl f o=f ((l.take k).foldl f o) x:=by
 rw[z6 h,List.foldl_append];rfl
theorem zDk{α β:Type}(f:β->α->β)(l:List α)(k:Nat)(o:β):l.foldl f o=(l.drop k).foldl f ((l.take k).foldl f o):=by
 rw[<-List.foldl_append,List.take_append_drop]
def zUR(sps:List Rw):Prop:=sps.Pairwise fun p q=>lLt p.2 q.2
theorem zQW{sps:List Rw}{z:List Go.Tk.Fc}{i:Nat}(hs:zUR sps)(h:BsR sps z i):bsB sps z i=decide (z∈sps.map (·.2)):=by
 unfold bsB;have JA:(∀p,sps[i]? = some p->cL p.2 z≠0)->z∉sps.map (·.2):=fun hi hz=>by
  obtain⟨p,hp,e⟩:=List.mem_map.1 hz;obtain⟨t,ht,et⟩:=List.getElem_of_mem hp;have JB:sps[t]? = some p:=by rw[List.getElem?_eq_getElem ht,et]
  have JC:cL p.2 z=0:=zJI.2 e;rcases Nat.lt_trichotomy t i with h1|h1|h1
  ·have:=h.lo t p h1 JB;omega
  ·subst h1;exact hi p JB JC
  ·obtain⟨q,hq⟩:∃q,sps[i]? = some q:=⟨_,List.getElem?_eq_getElem (by omega)⟩;obtain⟨a,ea⟩:=List.getElem?_eq_some_iff.1 hq;have:=List.pairwise_iff_getElem.1 hs i t a ht h1;rw[ea,et,e] at this;have h2:=zGJ.2 this;have h3:=h.hi i q (Nat.le_refl _) hq;omega
 split
 ·rename_i p hp;by_cases hc:cL p.2 z=0
  ·have:z∈sps.map (·.2):=List.mem_map.2 ⟨p,List.mem_of_getElem? hp,zJI.1 hc⟩;rw[decide_eq_true hc,decide_eq_true this]
  ·have:=JA fun q hq=>by rw[hp] at hq;cases hq;exact hc
   rw[decide_eq_false hc,decide_eq_false this]
 ·rename_i hp;have:=JA fun q hq=>by rw[hp] at hq;cases hq
  rw[decide_eq_false this]
theorem zR7{sps:List Rw}{z:Rw}{i:Nat}(hs:zUR sps)(h:BsR sps z.2 i)(hz:z.2∉sps.map (·.2)):zUR (sps.take i++z::sps.drop i):=by
 have JC:zUR (sps.take i++sps.drop i):=by rw[List.take_append_drop];exact hs
 obtain⟨a,b,c⟩:=List.pairwise_append.1 JC;refine List.pairwise_append.2 ⟨a,List.pairwise_cons.2 ⟨fun q hq=>?_,b⟩,fun p hp q hq=>?_⟩
 ·obtain⟨t,ht,et⟩:=List.getElem_of_mem hq;have JB:sps[i+t]? = some q:=by rw[<-List.getElem?_drop,List.getElem?_eq_getElem ht,et]
  have h1:=h.hi (i+t) q (by omega) JB;rcases zCc q.2 z.2 with⟨_,e⟩|⟨e,_⟩|⟨e,_⟩
  ·omega
  ·exact absurd (List.mem_map.2 ⟨q,List.mem_of_getElem? JB,e⟩) hz
  ·exact e
 ·have JD:lLt p.2 z.2:=by
   obtain⟨t,ht,et⟩:=List.getElem_of_mem hp;have JA:t<i:=by rw[List.length_take] at ht;omega
   have JE:sps[t]? = some p:=by rw[<-List.getElem?_take_of_lt JA,List.getElem?_eq_getElem ht,et]
   exact zGJ.1 (h.lo t p JA JE)
  rcases List.mem_cons.1 hq with rfl|hq
  ·exact JD
  ·exact c p hp q hq
theorem zPI{sps:List Rw}{z:List Go.Tk.Fc}(hs:zUR sps):∀(s t:Nat) (p q:Rw),s<=t->sps[s]? = some p->sps[t]? = some q->cL q.2 z<0->cL p.2 z<0:=fun s t p q JA hp hq h=>by
 by_cases e:s=t
 ·subst e;rw[hp] at hq;cases hq;exact h
 ·obtain⟨a,ea⟩:=List.getElem?_eq_some_iff.1 hp;obtain⟨b,eb⟩:=List.getElem?_eq_some_iff.1 hq;have:=List.pairwise_iff_getElem.1 hs s t a b (by omega);rw[ea,eb] at this;exact zGJ.2 (zCH this (zGJ.1 h))
def JoS(w:World)(ov sv:Value)(o:List (List Go.Tk.Fc))(w':World):Prop :=
 ∃ops sps:List Rw,ops.map (·.2)=o/\sps.Perm ops/\zUR sps/\(∀p∈ops,p.2.length<=1000)/\At w [] (zC (zM ov 23 1 sv1 ops) (zC (zM sv 23 1 sv1 sps) (zC (zZ fcE ops) Emp))) w'
theorem JoS.kp{w w1 w2:World}{ov sv:Value}{o:List (List Go.Tk.Fc)}(h:JoS w ov sv o w1)(k:Kp [] w1 w2):JoS w ov sv o w2:=by
 obtain⟨ops,sps,a,b,c,d,e⟩:=h;exact⟨ops,sps,a,b,c,d,e.kp0 (Lcl.own.star (Lcl.own.star (Lcl.vws.star .emp))) k⟩
theorem JoS.kw{w w1:World}{ov sv:Value}{o:List (List Go.Tk.Fc)}(h:JoS w ov sv o w1):Kp [] w w1:=by
 obtain⟨ops,sps,a,b,c,d,e⟩:=h;exact e.kp
theorem JoS.nil(w:World):JoS w (.slice none 0 0) (.slice none 0 0) [] w :=
 ⟨[],[],rfl,List.Perm.refl _,List.Pairwise.nil,by simp,At.nil (Lcl.own.star (Lcl.vws.star .emp)) (At.nil (Lcl.vws.star .emp) (zZ.nil .emp (At.start rfl)))⟩
end
end Go.Proofs.YtolkjbmcindhjaaGreat
