/-
  Parts of the proof of this claim's statement; no conditions beyond those each theorem names.
-/
import Derived.Test.YtolkjbmcindhjaaGreatPk03
import Derived.Laws.Rows
import Derived.DeepKeys4
import Derived.Maps.RangeRun
import Derived.Test.YtolkjbmcindhjaaGreatPk04
set_option maxRecDepth 100000
set_option linter.unusedSimpArgs false
set_option linter.unusedVariables false
set_option linter.unusedSectionVars false
set_option maxHeartbeats 8000000
namespace Go.W
section
open Go Go.Maps
theorem zL9{P:Program}{T n:Nat}(h:zAa P T=some (some n)):∃d,P.underlying T=some d/\(match d with|.struct _|.array _ _=>true|_=>false)=true/\(P.info? T).map (·.size)=some n:=by
 unfold zAa at h;split at h
 ·rename_i fs i h1 h2;simp only[Option.some.injEq] at h;exact⟨_,h1,rfl,by rw[h2];simp[h]⟩
 ·rename_i i h1 h2;simp only[Option.some.injEq] at h;exact⟨_,h1,rfl,by rw[h2];simp[h]⟩
 ·split at h<;>simp at h
 ·cases h
theorem zGa{P:Program}{ρ:Env}{w:World}{R:Ending->World->Prop}{a T n g E:Nat}{cs:Array Value}{fr:Nat×Nat}(hT:zAa P T=some (some n))(ha:ρ a=.pointer (some ⟨g,0,none⟩))(hg:w.heap[g]? = some (.cells cs E fr))(hn:cs.size=n)(hE:E=T)
  (h:R (.returned (.agg cs)) w):zIh P [.cell a T] R .ret ρ w:=by
 subst hE;obtain⟨d,h1,h2,h3⟩:=zL9 hT;refine⟨.agg cs,?_,h⟩;have:=run_loadVar_row (P:=P) w g E E cs fr d hg h1 (by cases d<;>first|rfl|(simp at h2)) (by rw[h3,hn]);simp[zB3,zEi,ha,asAddr,this,Result.andThen]
theorem zE0{α β:Type}{f:α->Option β}{g:α->β}:∀(l:List α),(∀x∈l,f x=some (g x))->l.mapM f=some (l.map g)
 |[],_=>rfl
 |x::l,h=>by rw[List.mapM_cons,h x (by simp),zE0 l fun y hy=>h y (by simp[hy])];rfl
def zY(n:Nat):Prop:=n<=9223372036854775807
theorem zL4{n:Nat}(h:zY n):(Lit.int .i64 (n:Int)).wf=true:=by
 have h1:IntKind.i64.min=-9223372036854775808:=rfl;have h2:IntKind.i64.max=9223372036854775807:=rfl;unfold zY at h;simp only[Lit.wf,Bool.and_eq_true,decide_eq_true_eq];omega
def zAB(l:List Nat):List Value:=l.map fun(n:Nat)=>.int .i64 (n:Int)
theorem zE4{P:Program}{e d:Nat}(he:P.underlying e=some (.int .i64)){n:Nat}(h:zY n):P.keyLits (d+1) e [.int .i64 (n:Int)]=some [.int .i64 (n:Int)]:=by
 unfold Program.keyLits;simp only[he];rw[if_pos ⟨trivial,zL4 h⟩]
theorem zHv{l:List Nat}{i:Nat}(h:i<l.length):((zAB l).drop i).take 1=[.int .i64 ((l.getD i 0:Nat):Int)]:=by
 have hl:i<(zAB l).length:=by simpa[zAB] using h
 rw[List.drop_eq_getElem_cons hl];simp[zAB,List.getD,List.getElem?_eq_getElem h]
theorem zNP{P:Program}{k e n m:Nat}(hu:P.underlying k=some (.array n e))(he:P.underlying e=some (.int .i64))(h1:P.cellsOf e=1)(hn:P.cellsOf k=n)(hk:P.keyType k=true)(hm:P.types.size=m+1){l:List Nat}(hl:l.length=n)(JC:∀x∈l,zY x) :
  ∃L,keyOf P k (.agg (zAB l).toArray)=some L:=by
 have JA:(zAB l).length=n:=by simp[zAB,hl]
 have hL:P.keyLits (m+1+1) k (zAB l)=some (((List.range n).map fun i=>[Lit.int .i64 ((l.getD i 0:Nat):Int)]).flatten):=by
  unfold Program.keyLits;simp only[hu];rw[if_pos (by rw[hn,JA]),h1,zE0 (g:=fun i=>[Lit.int .i64 ((l.getD i 0:Nat):Int)]) (List.range n) fun i hi=>by
   have JB:i<l.length:=by rw[hl];exact List.mem_range.1 hi
   rw[Nat.mul_one,zHv JB];exact zE4 he (JC _ (by simp[List.getD,List.getElem?_eq_getElem JB]))]
  rfl
 refine⟨.string (keyBytes (((List.range n).map fun i=>[Lit.int .i64 ((l.getD i 0:Nat):Int)]).flatten)),?_⟩;unfold keyOf;simp only[hu];rw[if_pos (by simp[hk,Value.formed,hu,hn,JA]),hm];have JD:(Value.agg (zAB l).toArray).cells.toList=zAB l:=by simp
 rw[JD,hL];rfl
theorem zLQ{P:Program}{k m:Nat}{fs:Array Field}(hu:P.underlying k=some (.struct fs))(hf:zDn P .i64 0 fs.toList=true)(h1:∀f∈fs,P.cellsOf f.type=1)(hn:P.cellsOf k=fs.size)(hk:P.keyType k=true)(hm:P.types.size=m+1){l:List Nat}(hl:l.length=fs.size)(hok:∀x∈l,zY x) :
  ∃L,keyOf P k (.agg (zAB l).toArray)=some L:=by
 have hlen:(zAB l).length=fs.size:=by simp[zAB,hl]
 have key:∀(gs:List Field) (o:Nat),zDn P .i64 o gs=true->(∀f∈gs,P.cellsOf f.type=1)->o+gs.length=l.length->∀f∈gs,P.keyLits (m+1) f.type (((zAB l).drop f.offset).take (P.cellsOf f.type))=some [Lit.int .i64 ((l.getD f.offset 0:Nat):Int)]:=by
  intro gs
  induction gs with
  |nil=>intro o _ _ _ f hf;cases hf
  |cons g gs ih =>
   intro o h hc ho f hfm;simp only[zDn,Bool.and_eq_true,bne_iff_ne,ne_eq,beq_iff_eq] at h;obtain⟨⟨⟨e1,e2⟩,e3⟩,e4⟩:=h;simp only[List.length_cons] at ho;rcases List.mem_cons.1 hfm with rfl|hm'
   ·have hil:f.offset<l.length:=by omega
    rw[hc f (by simp),zHv hil];exact zE4 (zS7 e3).2 (hok _ (by simp[List.getD,List.getElem?_eq_getElem hil]))
   ·exact ih (o+1) e4 (fun f hf=>hc f (by simp[hf])) (by omega) f hm'
 have names : ∀ (gs : List Field) (o : Nat), zDn P .i64 o gs = true → ∀ f ∈ gs, (f.name != "_") = true := by
  intro gs
  induction gs with
  |nil=>intro o _ f hf;cases hf
  |cons g gs ih =>
   intro o h f hfm;simp only[zDn,Bool.and_eq_true] at h;rcases List.mem_cons.1 hfm with rfl|hm'
   ·exact h.1.1.2
   ·exact ih (o+1) h.2 f hm'
 have hnm : fs.all (fun f => f.name != "_") = true := by
  rw[Array.all_eq_true_iff_forall_mem];exact fun f hfm=>names _ 0 hf f (by simpa using hfm)
 have hL:P.keyLits (m+1+1) k (zAB l)=some ((fs.toList.map fun f=>[Lit.int .i64 ((l.getD f.offset 0:Nat):Int)]).flatten):=by unfold Program.keyLits;simp only[hu];rw[if_pos ⟨by rw[hn,hlen],hnm⟩,zE0 (g:=fun f:Field=>[Lit.int .i64 ((l.getD f.offset 0:Nat):Int)]) fs.toList fun f hfm=>key fs.toList 0 hf (fun f hf=>h1 f (by simpa using hf)) (by simp[hl]) f hfm];rfl
 refine⟨.string (keyBytes ((fs.toList.map fun f=>[Lit.int .i64 ((l.getD f.offset 0:Nat):Int)]).flatten)),?_⟩;unfold keyOf;simp only[hu];rw[if_pos (by simp[hk,Value.formed,hu,hn,hlen]),hm];have hcs:(Value.agg (zAB l).toArray).cells.toList=zAB l:=by simp
 rw[hcs,hL];rfl
theorem zKG{l l':List Nat}(h:Value.agg (zAB l).toArray=Value.agg (zAB l').toArray):l=l':=by
 injection h with h;have h:zAB l=zAB l':=by simpa using h
 unfold zAB at h;exact(List.map_inj_right (fun a b JA=>by injection JA with _ h;omega)).1 h
section
variable {w w1:World} {F:List Nat} {B A C D:Asr}
theorem At.st{b o E:Nat}{c:Array Value}{cs:List Value}{KW:zw World}(hB:Lcl B)(h:At w F (zC (zL b (.cells c E (0,0))) B) w1)(hs:o+cs.length<=c.size)(h1:cs.all zAn=true)
  (H:∀w2,At w F (zC (zL b (.cells (zBh c o cs) E (0,0))) B) w2->KW.run w2):@stJ w1 ⟨b,o,none⟩ cs KW:=by
 rw[zHR,zEh h.obj];simp only[zDJ,zJi];refine zHw ⟨trivial,hs,h1⟩ ?_;exact H _ (h.setB hB)
theorem zC.assoc{w:World}{F:List Nat}(h:zC (zC A B) C w F):∃F',zC A (zC B C) w F'/\∀x∈F',x∈F:=by
 obtain⟨Fx,Fc,⟨Fa,Fb,h1,h2,d1,rfl⟩,h3,d2,rfl⟩:=h;refine⟨_,⟨Fa,_,h1,⟨Fb,Fc,h2,h3,fun x hx hc=>d2 x (by simp[hx]) hc,rfl⟩,fun x hx hm=>?_,rfl⟩,fun x hx=>by simpa using hx⟩;rcases List.mem_append.1 hm with h|h
 ·exact d1 x hx h
 ·exact d2 x (by simp[hx]) h
theorem zC.assoc'{w:World}{F:List Nat}(h:zC A (zC B C) w F):∃F',zC (zC A B) C w F'/\∀x∈F',x∈F:=by
 obtain⟨Fa,Fx,h1,⟨Fb,Fc,h2,h3,d1,rfl⟩,d2,rfl⟩:=h;refine⟨_,⟨_,Fc,⟨Fa,Fb,h1,h2,fun x hx hb=>d2 x hx (by simp[hb]),rfl⟩,h3,fun x hx hc=>?_,rfl⟩,fun x hx=>by simpa using hx⟩;rcases List.mem_append.1 hx with h|h
 ·exact d2 x h (by simp[hc])
 ·exact d1 x h hc
theorem At.assoc(h:At w F (zC (zC A B) C) w1):At w F (zC A (zC B C)) w1:=h.imp fun _ h=>h.assoc
theorem At.assoc'(h:At w F (zC A (zC B C)) w1):At w F (zC (zC A B) C) w1:=h.imp fun _ h=>h.assoc'
def ExA{α:Type}(A:α->Asr):Asr:=fun w F=>∃x,A x w F
theorem Lcl.ex{α:Type}{A:α->Asr}(h:∀x,Lcl (A x)):Lcl (ExA A):=by
 refine⟨?_,?_⟩
 ·rintro w F ⟨x,hx⟩;exact(h x).lt hx
 ·rintro w F G w' ⟨x,hx⟩ hk hd;exact⟨x,(h x).kp hx hk hd⟩
theorem At.ex_open{α:Type}{A:α->Asr}(h:At w F (zC (ExA A) B) w1):∃x,At w F (zC (A x) B) w1:=by
 obtain⟨⟨F1,⟨Fa,Fb,⟨x,h1⟩,h2,hd,e⟩,hn⟩,k⟩:=h;exact⟨x,⟨⟨F1,⟨Fa,Fb,h1,h2,hd,e⟩,hn⟩,k⟩⟩
theorem At.ex_close{α:Type}{A:α->Asr}{x:α}(h:At w F (zC (A x) B) w1):At w F (zC (ExA A) B) w1 :=
 h.imp fun F1 ⟨Fa,Fb,h1,h2,hd,e⟩=>⟨F1,⟨Fa,Fb,⟨x,h1⟩,h2,hd,e⟩,fun x hx=>hx⟩
def Imp(A B:Asr):Prop:=∀w F,A w F->∃F',B w F'/\∀x∈F',x∈F
theorem Imp.rfl{A:Asr}:Imp A A:=fun _ F h=>⟨F,h,fun _ h=>h⟩
theorem Imp.trans{A B C:Asr}(h:Imp A B)(k:Imp B C):Imp A C:=fun w F hA=>by
 obtain⟨F',h1,h2⟩:=h w F hA;obtain⟨F'',h3,h4⟩:=k w F' h1;exact⟨F'',h3,fun x hx=>h2 x (h4 x hx)⟩
theorem Imp.sw{A B C:Asr}:Imp (zC A (zC B C)) (zC B (zC A C)):=by
 rintro w F ⟨Fa,Fx,h1,⟨Fb,Fc,h2,h3,hd,rfl⟩,JA,rfl⟩;refine⟨_,⟨Fb,_,h2,⟨Fa,Fc,h1,h3,fun x hx hc=>JA x hx (by simp[hc]),_root_.rfl⟩,fun x hx JB=>?_,_root_.rfl⟩,fun x hx=>?_⟩
 ·rcases List.mem_append.1 JB with h|h
  ·exact JA x h (by simp[hx])
  ·exact hd x hx h
 ·simp only[List.mem_append] at hx ⊢;rcases hx with h|h|h
  ·exact .inr (.inl h)
  ·exact .inl h
  ·exact .inr (.inr h)
theorem Imp.un{A X Y:Asr}(h:Imp X Y):Imp (zC A X) (zC A Y):=by
 rintro w F ⟨Fa,Fx,h1,h2,hd,rfl⟩;obtain⟨F',h3,h4⟩:=h w Fx h2;refine⟨_,⟨Fa,F',h1,h3,fun x hx hm=>hd x hx (h4 x hm),_root_.rfl⟩,fun x hx=>?_⟩;rcases List.mem_append.1 hx with h|h
 ·simp[h]
 ·simp[h4 x h]
theorem Imp.dr{A X:Asr}:Imp (zC A X) X:=by
 rintro w F ⟨Fa,Fx,h1,h2,hd,rfl⟩;exact⟨Fx,h2,fun x hx=>by simp[hx]⟩
theorem At.by{A X:Asr}(h:At w F A w1)(i:Imp A X):At w F X w1:=h.imp fun F1 h1=>i w1 F1 h1
theorem At.rot4{A1 A2 A3 A4 X:Asr}(h:At w F (zC A1 (zC A2 (zC A3 (zC A4 X)))) w1):At w F (zC A4 (zC A1 (zC A2 (zC A3 X)))) w1 :=
 h.by ((Imp.sw.un).un.trans (Imp.sw.un.trans Imp.sw))
theorem At.tor3{A1 A2 A3 X:Asr}(h:At w F (zC A1 (zC A2 (zC A3 X))) w1):At w F (zC A2 (zC A3 (zC A1 X))) w1 :=
 h.by (Imp.sw.trans Imp.sw.un)
theorem At.tor4{A1 A2 A3 A4 X:Asr}(h:At w F (zC A1 (zC A2 (zC A3 (zC A4 X)))) w1):At w F (zC A2 (zC A3 (zC A4 (zC A1 X)))) w1 :=
 h.by (Imp.sw.trans (Imp.sw.un.trans Imp.sw.un.un))
end
end
section
open Go Go.Maps
section
variable {κ α:Type} [DecidableEq κ] {ek:κ->Value} {ev:α->Value} {ok:κ->Prop} {P:Program} {k e t:TypeId} {l vis:List (κ×α)} {b r:Nat} {B:Asr} {w w1:World} {F:List Nat}
structure zTz(w:World)(b r:Nat)(ek:κ->Value)(ev:α->Value)(ok:κ->Prop)(l vis:List (κ×α)):Prop where
 map:zAw w b ek ev ok l
 ne:b≠r
 it:∃(es:Array MapEntry) (clock since:Nat) (seen:Array Nat) (c0:Nat) (vs:List MapEntry),w.heap[b]? = some (.map es clock)/\es.toList.map (fun x=>(x.key,x.val))=l.map (fun p=>(ek p.1,ev p.2))/\MapKept.Stamped es clock/\w.heap[r]? = some (.mapIter (some b) since seen c0)/\(∀x∈es.toList,x.born<since)/\(since<=c0/\since<=clock/\(vis≠[]->c0=clock)) /\
  seen.toList=vs.map (fun x:MapEntry=>x.born)/\(∀x∈vs,x∈es.toList)/\vs.map (fun x=>(x.key,x.val))=vis.map (fun p=>(ek p.1,ev p.2))
 sub:∀p∈vis,p∈l
 nd:vis.Nodup
def zRm(b r:Nat)(ek:κ->Value)(ev:α->Value)(ok:κ->Prop)(l vis:List (κ×α)):Asr:=fun w F=>zTz w b r ek ev ok l vis/\F=[b,r]
theorem zTz.lt(h:zTz w b r ek ev ok l vis):r<w.heap.size:=by
 obtain⟨es,clock,since,seen,c0,vs,_,_,_,h4,_⟩:=h.it;exact zS h4
theorem zTz.kp{S:List Nat}{w':World}(h:zTz w b r ek ev ok l vis)(hk:Kp S w w')(hb:b∉S)(hr:r∉S):zTz w' b r ek ev ok l vis:=by
 obtain⟨es,clock,since,seen,c0,vs,h1,h2,h3,h4,h5⟩:=h.it;exact⟨h.map.kp hk hb,h.ne,⟨es,clock,since,seen,c0,vs,hk.blk h1 hb,h2,h3,hk.blk h4 hr,h5⟩,h.sub,h.nd⟩
theorem Lcl.rng:Lcl (zRm b r ek ev ok l vis):=by
 refine⟨?_,?_⟩
 ·rintro w F ⟨h,rfl⟩ x hx;simp at hx;rcases hx with rfl|rfl
  ·exact h.map.lt
  ·exact h.lt
 ·rintro w F G w' ⟨h,rfl⟩ hk hd;exact⟨h.kp hk (hd b (by simp)) (hd r (by simp)),rfl⟩
theorem At.rng(h:At w F (zC (zRm b r ek ev ok l vis) B) w1):zTz w1 b r ek ev ok l vis:=by
 obtain⟨F1,h1,_⟩:=h.get;exact h1
theorem At.range{KV:zw (Value×World)}(hB:Lcl B)(h:At w F (zC (zIJ b ek ev ok l) B) w1)(ht:P.underlying t=some (.map k e))
  (H:∀w2,At w F (zC (zRm b w1.heap.size ek ev ok l []) B) w2->KV.run (.pointer (some ⟨w1.heap.size,0,none⟩),w2)):@efH P (Instr.range t (.map (some b))) w1 KV:=by
 have hm:=h.map;obtain⟨es,clock,hb,JC,JB,JD,JE,JA⟩:=hm;have JF:=zS hb;refine zD8 (run_range_map w1 t k e b es clock ht hb) (H _ ?_);have kp:Kp [] w1 (w1.alloc (.mapIter (some b) clock #[] clock)):=(Kp.refl _ _).alloc _;refine h.step Lcl.map hB ?_;rintro Fa ⟨h1,rfl⟩;refine⟨[b,w1.heap.size],⟨⟨h1.kp kp (by simp),by omega,⟨es,clock,clock,#[],clock,[],kp.blk hb (by simp),JB,JA,zO,JA.1,⟨Nat.le_refl _,Nat.le_refl _,fun _=>rfl⟩,rfl,by simp,rfl⟩,by simp,by simp⟩,rfl⟩,(Kp.refl _ _).alloc _,fun x hx=>?_⟩;simp at hx;rcases hx with rfl|rfl
 ·exact .inl (by simp)
 ·exact .inr (Nat.le_refl _)
theorem zQX{es:List MapEntry}(h:(es.map (·.born)).Nodup){x y:MapEntry}(hx:x∈es)(hy:y∈es)(e:x.born=y.born):x=y:=by
 obtain⟨i,hi,rfl⟩:=List.mem_iff_getElem.1 hx;obtain⟨j,hj,rfl⟩:=List.mem_iff_getElem.1 hy;have:(es.map (·.born))[i]'(by simpa using hi)=(es.map (·.born))[j]'(by simpa using hj):=by simpa using e
 have:=(List.getElem_inj h).1 this;subst this;rfl
theorem zS3{es:List MapEntry}(h:(es.map (·.key)).Nodup){x y:MapEntry}(hx:x∈es)(hy:y∈es)(e:x.key=y.key):x=y:=by
 obtain⟨i,hi,rfl⟩:=List.mem_iff_getElem.1 hx;obtain⟨j,hj,rfl⟩:=List.mem_iff_getElem.1 hy;have:(es.map (·.key))[i]'(by simpa using hi)=(es.map (·.key))[j]'(by simpa using hj):=by simpa using e
 have:=(List.getElem_inj h).1 this;subst this;rfl
theorem At.next{KV:zw (Value×World)}{ty:Nat}(hB:Lcl B)(hk:zCs P k ek ok)(h:At w F (zC (zRm b r ek ev ok l vis) B) w1)
  (JC:(∀p∈l,p∈vis)->At w F (zC (zRm b r ek ev ok l vis) B) w1->KV.run (.tuple #[.bool false],w1))
  (JB:∀p w2,p∈l->p∉vis->At w F (zC (zRm b r ek ev ok l (vis++[p])) B) w2->KV.run (.tuple #[.bool true,ek p.1,ev p.2],w2)):@efH P (Instr.next (.pointer (some ⟨r,0,none⟩)) false ty) w1 KV:=by
 have hr:=h.rng;obtain⟨es,clock,since,seen,c0,vs,h1,h2,h3,h4,h5,h6,h7,h8,h9⟩:=hr.it;have of_entry:∀x∈es.toList,∃p∈l,x.key=ek p.1/\x.val=ev p.2:=fun x hx=>by have:(x.key,x.val)∈es.toList.map (fun x=>(x.key,x.val)):=List.mem_map.2 ⟨x,hx,rfl⟩;rw[h2] at this;obtain⟨p,hp,e⟩:=List.mem_map.1 this;simp only[Prod.mk.injEq] at e;exact⟨p,hp,e.1.symm,e.2.symm⟩
 have of_pair:∀p∈l,∃x∈es.toList,x.key=ek p.1/\x.val=ev p.2:=fun p hp=>by have:(ek p.1,ev p.2)∈l.map (fun p=>(ek p.1,ev p.2)):=List.mem_map.2 ⟨p,hp,rfl⟩;rw[<-h2] at this;obtain⟨x,hx,e⟩:=List.mem_map.1 this;simp only[Prod.mk.injEq] at e;exact⟨x,hx,e.1,e.2⟩
 have pair_inj:∀p∈l,∀q∈l,p.1=q.1->p=q:=fun p hp q hq e=>by
  have JF:(l.map (·.1)).Nodup:=by obtain⟨_,_,_,_,_,_,JF,_⟩:=hr.map;exact JF
  obtain⟨i,hi,rfl⟩:=List.mem_iff_getElem.1 hp;obtain⟨j,hj,rfl⟩:=List.mem_iff_getElem.1 hq;have:(l.map (·.1))[i]'(by simpa using hi)=(l.map (·.1))[j]'(by simpa using hj):=by simpa using e
  have:=(List.getElem_inj JF).1 this;subst this;rfl
 rcases run_next_at w1 ty r b since c0 seen es clock h4 h1 h5 h6.1 with⟨hz,JA⟩|⟨x,hx,w2,JK,JA⟩
 ·refine zD8 JA (JC (fun p hp=>?_) h);obtain⟨x,hx,ex1,ex2⟩:=of_pair p hp;have JH:x.born∈seen.toList:=by
   rcases Classical.em (x.born∈seen.toList) with hs|hs
   ·exact hs
   ·exfalso;have:x∈(leftOf es seen).toList:=by unfold leftOf;rw[Array.toList_filter,List.mem_filter];refine⟨hx,?_⟩;simp;exact fun hc=>hs (Array.mem_toList_iff.2 hc)
    have h0:(leftOf es seen).toList.length=0:=by simpa using hz
    rw[List.length_eq_zero_iff] at h0;rw[h0] at this;cases this
  rw[h7] at JH;obtain⟨y,hy,ey⟩:=List.mem_map.1 JH;have:=zQX h3.2.1 (h8 y hy) hx ey;subst this;have hv:(y.key,y.val)∈vis.map (fun p=>(ek p.1,ev p.2)):=by rw[<-h9];exact List.mem_map.2 ⟨y,hy,rfl⟩
  obtain⟨q,hq,eq⟩:=List.mem_map.1 hv;simp only[Prod.mk.injEq] at eq;have JM:q=p:=pair_inj q (hr.sub q hq) p hp (hk.inj _ _ (by rw[eq.1,ex1]));rw[<-JM];exact hq
 ·have JD:x∈es.toList/\x.born∉seen.toList:=by unfold leftOf at hx;rw[Array.toList_filter,List.mem_filter] at hx;have h2:=hx.2;simp at h2;exact⟨hx.1,fun hc=>h2 (Array.mem_toList_iff.1 hc)⟩
  obtain⟨p,hp,ep1,ep2⟩:=of_entry x JD.1;have JG:p∉vis:=fun hv=>by have:(ek p.1,ev p.2)∈vis.map (fun p=>(ek p.1,ev p.2)):=List.mem_map.2 ⟨p,hv,rfl⟩;rw[<-h9] at this;obtain⟨y,hy,ey⟩:=List.mem_map.1 this;simp only[Prod.mk.injEq] at ey;have JI:=zS3 h3.2.2 (h8 y hy) JD.1 (by rw[ey.1,ep1]);subst JI;exact JD.2 (by rw[h7];exact List.mem_map.2 ⟨y,hy,rfl⟩)
  have kd:Kp [] w1 w2:=by
   rcases JK with rfl|rfl
   ·exact Kp.refl _ _
   ·exact(Kp.refl _ _).drew
  have h':=h.kp0 (Lcl.rng.star hB) kd;rw[ep1,ep2] at JA;refine zD8 JA (JB p _ hp JG (h'.step Lcl.rng hB ?_));rintro Fa ⟨JO,rfl⟩;have JE:=hr.ne;have JL:w2.heap[r]? = some (.mapIter (some b) since seen c0):=kd.blk h4 (by simp);have JN:w2.heap[b]? = some (.map es clock):=kd.blk h1 (by simp);have ks:Kp [r] w2 (w2.setB r (.mapIter (some b) since (seen.push x.born) clock)):=(Kp.refl _ _).setB (.inl (by simp)) _;refine⟨[b,r],⟨⟨JO.map.kp ks (by simpa using JE),JE,⟨es,clock,since,seen.push x.born,clock,vs++[x],ks.blk JN (by simpa using JE),h2,h3,zAg (zS JL),h5,⟨h6.2.1,h6.2.1,fun _=>rfl⟩,by simp[h7],fun y hy=>?_,?_⟩,fun q hq=>?_,?_⟩,rfl⟩,(Kp.refl _ _).setB (.inl (by simp)) _,fun x hx=>.inl hx⟩
  ·rcases List.mem_append.1 hy with h|h
   ·exact h8 y h
   ·simp at h;subst h;exact JD.1
  ·simp[h9,ep1,ep2]
  ·rcases List.mem_append.1 hq with h|h
   ·exact hr.sub q h
   ·simp at h;subst h;exact hp
  ·rw[List.nodup_append];refine⟨hr.nd,by simp,fun a ha c hc=>?_⟩;simp at hc;subst hc;exact fun e=>JG (e ▸ ha)
theorem At.entry{KV:zw (Value×World)}{p:κ×α}(h:At w F (zC (zRm b r ek ev ok l (vis++[p])) B) w1)(H:KV.run (.tuple #[ek p.1,ev p.2],w1)):@efH P (Instr.entry (.pointer (some ⟨r,0,none⟩))) w1 KV:=by
 have hr:=h.rng;obtain⟨es,clock,since,seen,c0,vs,h1,h2,h3,h4,h5,h6,h7,h8,h9⟩:=hr.it;rw[List.map_append] at h9;obtain⟨v0,v1,rfl,e0,e1⟩:=List.map_eq_append_iff.1 h9;obtain⟨x,rfl,ex⟩:∃x,v1=[x]/\(x.key,x.val)=(ek p.1,ev p.2):=by obtain⟨x,l1,rfl,h1,h2⟩:=List.map_eq_cons_iff.1 e1;have:=List.map_eq_nil_iff.1 h2;subst this;exact⟨x,rfl,h1⟩
 simp only[Prod.mk.injEq] at ex;have hs:seen=(v0.map (fun x:MapEntry=>x.born)).toArray.push x.born:=by apply Array.toList_inj.1;rw[h7];simp
 rw[hs,h6.2.2 (by simp)] at h4;have:=run_entry_at (P:=P) w1 r b since (v0.map (fun x:MapEntry=>x.born)).toArray es clock x (by simpa using h4) h1 (h8 x (by simp)) h3.2.1;rw[ex.1,ex.2] at this;exact zD8 this H
end
end
end Go.W
section
namespace Go.W
open Go Go.Maps
section
variable {P:Program} {ρ:Env} {w:World} {K:Env->World->Prop}
@[simp ↓] theorem zRr{a b:List LO}{l:List (List LO)}:zCh P ρ w K (a::b::l)=(wpT P a ρ w K/\zCh P ρ w K (b::l)):=propext Iff.rfl
end
end Go.W
namespace Go.W
open Go Go.Maps
section
variable {α:Type} {enc:α->List Value} {sz E:Nat} {l:List α} {v:Value} {w:World}
end
section
variable {α:Type} {enc:α->List Value} {sz E:Nat} {l:List α} {v:Value} {w:World}
end
abbrev zP:={v:Value // zAn v=true}
section
variable {α:Type} {enc:α->List Value} {w w1:World} {F:List Nat} {B:Asr} {E:Nat}
def sv1(p:zP×List α):List Value:=[p.1.1]
theorem zT(p:zP×List α):(sv1 p).length=1:=rfl
theorem zB9(p:zP×List α):(sv1 p).all zAn=true:=by simp[sv1,p.1.2]
def zZ(enc:α->List Value)(ps:List (zP×List α)):Asr:=fun w F=>(∀p∈ps,Vw w p.1.1 enc p.2)/\(∀x∈F,x<w.heap.size)/\F=ps.flatMap fun p=>p.1.1.own
theorem Lcl.vws{ps:List (zP×List α)}:Lcl (zZ enc ps):=by
 refine⟨?_,?_⟩
 ·rintro w F ⟨_,h,_⟩;exact h
 ·rintro w F G w' ⟨h1,h2,rfl⟩ hk hd;refine⟨fun p hp=>(h1 p hp).kp hk fun x hx=>hd x (List.mem_flatMap.2 ⟨p,hp,hx⟩),fun x hx=>?_,rfl⟩;have:=h2 x hx;have:=hk.size;omega
theorem At.vws{ps:List (zP×List α)}(h:At w F (zC (zZ enc ps) B) w1){p:zP×List α}(hp:p∈ps):Vw w1 p.1.1 enc p.2:=by
 obtain⟨F1,h1,_⟩:=h.get;exact h1 p hp
theorem zZ.add{ps:List (zP×List α)}{v:Value}{l:List α}{X:Asr}(ho:zAn v=true):Imp (zC (VwA v enc l) (zC (zZ enc ps) X)) (zC (zZ enc (ps++[(⟨v,ho⟩,l)])) X):=by
 rintro w F ⟨Fa,Fx,⟨h1,rfl,JB⟩,⟨Fb,Fc,⟨h2,JA,rfl⟩,h3,d1,rfl⟩,d2,rfl⟩;refine⟨_,⟨_,Fc,⟨fun p hp=>?_,fun x hx=>?_,rfl⟩,h3,fun x hx hc=>?_,rfl⟩,fun x hx=>?_⟩
 ·rcases List.mem_append.1 hp with h|h
  ·exact h2 p h
  ·simp at h;subst h;exact h1
 ·simp only[List.flatMap_append,List.flatMap_cons,List.flatMap_nil,List.append_nil] at hx;rcases List.mem_append.1 hx with h|h
  ·exact JA x h
  ·exact JB x h
 ·simp only[List.flatMap_append,List.flatMap_cons,List.flatMap_nil,List.append_nil] at hx;rcases List.mem_append.1 hx with h|h
  ·exact d1 x h hc
  ·exact d2 x h (by simp[hc])
 ·simp only[List.flatMap_append,List.flatMap_cons,List.flatMap_nil,List.append_nil] at hx;simp only[List.mem_append] at hx ⊢;rcases hx with (h|h)|h
  ·exact .inr (.inl h)
  ·exact .inl h
  ·exact .inr (.inr h)
theorem zZ.nil{X:Asr}(hX:Lcl X)(h:At w F X w1):At w F (zC (zZ enc []) X) w1 :=
 h.more hX (Kp.refl _ _) ⟨[],⟨by simp,by simp,by simp⟩,by simp⟩
def LLA(v:Value)(E:Nat)(enc:α->List Value)(ls:List (List α)):Asr:=ExA fun ps:{ps:List (zP×List α) // ps.map (·.2)=ls}=>zC (zM v E 1 sv1 ps.1) (zZ enc ps.1)
theorem Lcl.ll{v:Value}{ls:List (List α)}:Lcl (LLA v E enc ls):=Lcl.ex fun _=>Lcl.own.star Lcl.vws
theorem LLA.opn{v:Value}{ls:List (List α)}(h:At w F (zC (LLA v E enc ls) B) w1):∃ps:List (zP×List α),ps.map (·.2)=ls/\At w F (zC (zM v E 1 sv1 ps) (zC (zZ enc ps) B)) w1:=by
 obtain⟨⟨ps,hp⟩,h⟩:=h.ex_open;exact⟨ps,hp,h.assoc⟩
theorem LLA.cls{v:Value}{ls:List (List α)}{ps:List (zP×List α)}(hp:ps.map (·.2)=ls)(h:At w F (zC (zM v E 1 sv1 ps) (zC (zZ enc ps) B)) w1):At w F (zC (LLA v E enc ls) B) w1 :=
 At.ex_close (x:=(⟨ps,hp⟩:{ps:List (zP×List α) // ps.map (·.2)=ls})) h.assoc'
theorem LLA.nil(hB:Lcl B)(h:At w F B w1):At w F (zC (LLA (.slice none 0 0) E enc []) B) w1 :=
 LLA.cls (ps:=[]) rfl (At.nil (Lcl.vws.star hB) (zZ.nil hB h))
end
end Go.W
namespace Go.W
end Go.W
namespace Go.W
open Go
end Go.W
namespace Go.W
theorem Imp.un2{A B X Y:Asr}(h:Imp X Y):Imp (zC A (zC B X)) (zC A (zC B Y)):=Imp.un (Imp.un h)
theorem Imp.un3{A B C X Y:Asr}(h:Imp X Y):Imp (zC A (zC B (zC C X))) (zC A (zC B (zC C Y))):=Imp.un (Imp.un2 h)
theorem Imp.un4{A B C D X Y:Asr}(h:Imp X Y):Imp (zC A (zC B (zC C (zC D X)))) (zC A (zC B (zC C (zC D Y)))):=Imp.un (Imp.un3 h)
end Go.W
end
section
namespace Go.W
open Go
section
variable {P:Program} {los:List LO} {deps:List Nat} {ρ:Env} {w:World} {Q:Ex->Env->World->Prop} {outs:List Nat}
theorem zKs{o:LO}{l:List LO}{K:Env->World->Prop}(h:wpT P [o] ρ w fun ρ' w'=>wpX P l ρ' w' K):wpX P (o::l) ρ w K:=by
 obtain⟨c,d,op,ty,g⟩:=o;cases g with
 |none =>simp only[wpT] at h;simp only[wpX];exact zBM h
 |some gb =>obtain⟨g,b⟩:=gb;simp only[wpT,gd] at h;simp only[wpX,gd];exact⟨fun e=>zBM (h.1 e),h.2⟩
theorem zTy(T:List Nat->Env->World->Prop)(h0:T [] ρ w.drew)
  (hs:∀X i ρ' w',i<los.length->i∉X->(∀j∈X,j<los.length)->X.Nodup->(∀j,j<los.length->(deps.getD i 0).testBit j=true->j∈X)->(∀j∈X,(deps.getD j 0).testBit i=false)->T X ρ' w'->wpT P [los.getD i LO.dfl] ρ' w' (T (X++[i])))
  (he:∀l ρ' w',l.Perm (List.range los.length)->T l ρ' w'->Q .nrm (ρ.merge ρ' outs) w'):wpL P (.anyR los deps outs) Q ρ w:=by
 intro l hl hD;have JD:∀i∈l,i<los.length:=fun i hi=>List.mem_range.1 (hl.subset hi);have JB:l.Nodup:=hl.symm.nodup List.nodup_range;have key:∀(l2 l1:List Nat) (ρ':Env) (w':World),l=l1++l2->T l1 ρ' w'->wpX P (zCI los l2) ρ' w' fun ρ' w''=>Q .nrm (ρ.merge ρ' outs) w'':=by
  intro l2
  induction l2 with
  |nil =>intro l1 ρ' w' e hT;rw[List.append_nil] at e;subst e;exact he _ _ _ hl hT
  |cons i l2 ih =>
   intro l1 ρ' w' e hT;have hi:i<los.length:=JD i (by rw[e];simp);have JC:=JB;rw[e,List.nodup_append] at JC;have JE:i∉l1:=fun hm=>JC.2.2 i hm i (by simp) rfl;refine zKs (zC9 (fun ρ'' w'' JF=>ih (l1++[i]) ρ'' w'' (by rw[e];simp) JF) _ _ _ (hs l1 i ρ' w' hi JE (fun j hj=>JD j (by rw[e];simp[hj])) JC.1 (fun j hj hb=>?_) (fun j hj=>?_) hT))
   ·obtain⟨r1,r2,e1,e2⟩:=hD i hi j hj hb;have JA:=JB;rw[e] at e1 JA;rw[(zAD JA e1).1];exact e2
   ·cases hb:(deps.getD j 0).testBit i with
    |false=>rfl
    |true =>
     exfalso;obtain⟨r1,r2,e1,e2⟩:=hD j (JD j (by rw[e];simp[hj])) i hi hb;obtain⟨m1,m2,e3⟩:=List.append_of_mem hj;have e4:l=m1++j::(m2++i::l2):=by rw[e,e3];simp
     have JA:=JB;rw[e4] at e1 JA;have:=(zAD JA e1).1;rw[<-this] at e2;rw[List.nodup_append] at JA;exact JA.2.2 i e2 i (by simp) rfl
 exact key l [] ρ _ rfl h0
end
end Go.W
namespace Go.W
open Go
section
variable {α:Type} {enc:α->List Value} {w w1:World} {F:List Nat} {B X:Asr}
theorem zZ.sub{ps qs:List (zP×List α)}(hs:∀p∈qs,p∈ps):Imp (zC (zZ enc ps) X) (zC (zZ enc qs) X):=by
 rintro w F ⟨Fb,Fc,⟨h2,JB,rfl⟩,h3,d1,rfl⟩;have sub:∀x,x∈qs.flatMap (fun p=>p.1.1.own)->x∈ps.flatMap (fun p=>p.1.1.own):=fun x hx=>by obtain⟨q,hq,JA⟩:=List.mem_flatMap.1 hx;exact List.mem_flatMap.2 ⟨q,hs q hq,JA⟩
 refine⟨_,⟨_,Fc,⟨fun q hq=>h2 q (hs q hq),fun x hx=>JB x (sub x hx),rfl⟩,h3,fun x hx hc=>d1 x (sub x hx) hc,rfl⟩,fun x hx=>?_⟩;rcases List.mem_append.1 hx with h|h
 ·exact List.mem_append.2 (.inl (sub x h))
 ·exact List.mem_append.2 (.inr h)
end
end Go.W
namespace Go.W
open Go
section
variable {P:Program} {los:List LO} {deps:List Nat} {ρ:Env} {w:World} {Q:Ex->Env->World->Prop} {outs:List Nat}
end
end Go.W
namespace Go.W
open Go
section
variable {A B C D E G I X:Asr}
end
end Go.W
end
namespace Go.Tk
section
open Go Go.W
abbrev Fa:=Int×Int
structure Ef where
 wv:zP
 cnd:List Fa
 v:Int
 x:Int
structure Oq where
 name:ByteArray
 cost:Int
 pv:zP
 pre:List Fa
 ev:zP
 effs:List Ef
structure Tk where
 vv:zP
 nv:zP
 gv:zP
 ov:zP
 vars:List Int
 init:List Int
 goal:List Fa
 ops:List Oq
def iE(i:Int):List Value:=[.int .i64 i]
theorem zRP(i:Int):(iE i).length=1:=rfl
def faE(f:Fa):List Value:=[.int .i64 f.1,.int .i64 f.2]
theorem zDo(f:Fa):(faE f).length=2:=rfl
def efE(e:Ef):List Value:=[e.wv.1,.int .i64 e.v,.int .i64 e.x]
theorem zGu(e:Ef):(efE e).length=3:=rfl
def oqE(o:Oq):List Value:=[.string o.name,.int .i64 o.cost,o.pv.1,o.ev.1]
theorem zCE(o:Oq):(oqE o).length=4:=rfl
def tkV(t:Tk):Value:=.agg #[t.vv.1,t.nv.1,t.gv.1,t.ov.1]
structure OqR(w:World)(o:Oq):Prop where
 pre:Vw w o.pv.1 faE o.pre
 effs:Vw w o.ev.1 efE o.effs
 cnd:∀e∈o.effs,Vw w e.wv.1 faE e.cnd
theorem OqR.kp{w w':World}{o:Oq}(h:OqR w o)(k:Kp [] w w'):OqR w' o:=⟨h.pre.kp0 k,h.effs.kp0 k,fun e he=>(h.cnd e he).kp0 k⟩
structure TkR(w:World)(t:Tk):Prop where
 vars:Vw w t.vv.1 iE t.vars
 init:Vw w t.nv.1 iE t.init
 goal:Vw w t.gv.1 faE t.goal
 ops:Vw w t.ov.1 oqE t.ops
 op:∀o∈t.ops,OqR w o
theorem TkR.kp{w w':World}{t:Tk}(h:TkR w t)(k:Kp [] w w'):TkR w' t:=⟨h.vars.kp0 k,h.init.kp0 k,h.goal.kp0 k,h.ops.kp0 k,fun o ho=>(h.op o ho).kp k⟩
def inR(vars:List Int)(f:Fa):Bool:=decide (0<=f.1)&&decide (f.1<vars.length)&&decide (0<=f.2)&&decide (f.2<vars.getD f.1.toNat 0)
def zFp(n:Nat)(p:Nat->Bool):Bool:=(List.range n).all p
theorem zA6{n:Nat}{p:Nat->Bool}(h:∀j,j<n->p j=true):zFp n p=true:=by
 unfold zFp;rw[List.all_eq_true];exact fun j hj=>h j (List.mem_range.1 hj)
theorem zBI{n k:Nat}{p:Nat->Bool}(hk:k<n)(h:p k=false):zFp n p=false:=by
 unfold zFp;rw[List.all_eq_false];exact⟨k,List.mem_range.2 hk,by simp[h]⟩
theorem zJM{n k:Nat}{p:Nat->Bool}(h:zFp n p=true)(hk:k<n):p k=true:=by
 unfold zFp at h;rw[List.all_eq_true] at h;exact h k (List.mem_range.2 hk)
theorem zAH{α:Type}{l:List α}{p:α->Bool}{x:α}(hx:x∈l)(h:p x=false):l.all p=false:=by
 rw[List.all_eq_false];exact⟨x,hx,by simp[h]⟩
def zMo(vars:List Int)(l:List Fa)(i:Nat):Bool:=inR vars (l.getD i (0,0))&&(decide (i=0)||decide ((l.getD (i-1) (0,0)).1<(l.getD i (0,0)).1))
def zAQ(vars:List Int)(l:List Fa):Bool:=zFp l.length (zMo vars l)
def zOr(vars s:List Int)(i:Nat):Bool:=decide (0<=s.getD i 0)&&decide (s.getD i 0<vars.getD i 0)
def zAC(vars s:List Int):Bool:=decide (s.length=vars.length)&&zFp s.length (zOr vars s)
def chB(b:ByteArray)(i:Nat):Bool:=decide (32<=(b[i]?.getD 0).toNat)&&decide ((b[i]?.getD 0).toNat<=126)
def zCG(b:ByteArray):Bool:=decide (b.size<=256)&&zFp b.size (chB b)
def zLv(vars:List Int)(e:Ef):Bool:=zAQ vars e.cnd&&inR vars (e.v,e.x)
def opB(vars:List Int)(o:Oq):Bool:=decide (0<=o.cost)&&decide (o.cost<=1048576)&&decide (o.effs.length<=64)&&zCG o.name&&zAQ vars o.pre&&o.effs.all (zLv vars)
def varB(n:Int):Bool:=decide (1<=n)&&decide (n<=64)
def zAp(t:Tk):Bool:=decide (t.vars.length<=64)&&decide (t.ops.length<=4096)&&t.vars.all varB&&zAC t.vars t.init&&zAQ t.vars t.goal&&t.ops.all (opB t.vars)
def zE1(most:Nat):Nat->List Int->Nat
 |n,[]=>n
 |n,k::l=>if most<n*min k.toNat (most+1) then most+1 else zE1 most (n*min k.toNat (most+1)) l
def zBU(t:Tk):Bool:=decide (t.vars.length<=12)&&decide (t.ops.length<=20)&&(t.ops.all fun o=>decide (o.effs.length<=8))&&zAp t&&decide (zE1 512 1 t.vars<=512)
structure TkL(t:Tk):Prop where
 init:t.init.length<=9223372036854775807
 goal:t.goal.length<=9223372036854775807
 ops:t.ops.length<=9223372036854775807
 vars:t.vars.length<=9223372036854775807
 op:∀o∈t.ops,o.name.size<=9223372036854775807/\o.pre.length<=9223372036854775807/\o.effs.length<=9223372036854775807/\∀e∈o.effs,e.cnd.length<=9223372036854775807
def zBQ(o:Oq):List (zP×List Fa):=(o.pv,o.pre)::o.effs.map fun e=>(e.wv,e.cnd)
def zAX(t:Tk):List (zP×List Fa):=(t.gv,t.goal)::t.ops.flatMap zBQ
def zAr(t:Tk):Bool:=!(decide (t.vars.length<=64)&&decide (t.ops.length<=4096)&&(t.ops.all fun o=>decide (o.effs.length<=64))&&(zAX t).all fun p=>decide (p.2.length<=64))
def zLw(t:Tk):Option Int :=
 if zAr t=true then some 5
 else if(t.vars.all varB)=false then some 1
 else if(t.ops.all fun o=>decide (0<=o.cost)&&decide (o.cost<=1048576))=false then some 1
 else if zAC t.vars t.init=false then some 2
 else if((zAX t).all fun p=>zAQ t.vars p.2)=false then some 2
 else if(t.ops.all fun o=>o.effs.all fun e=>inR t.vars (e.v,e.x))=false then some 2
 else if(t.ops.all fun o=>zCG o.name)=false then some 8
 else none
end
end Go.Tk
namespace Go.Proofs.YtolkjbmcindhjaaGreat
section
open Go Go.W Go.Tk
def faO(f:Fa):Obj:=.cells #[.int .i64 f.1,.int .i64 f.2] 100 (0,0)
section
variable {w wa:World} {F:List Nat} {X:Asr} {KW:zw World}
theorem zR3{f:Fa}{b:Nat}(hX:Lcl X)(h:At w F X wa)(hb:b=wa.heap.size)(H:∀w2,At w F (zC (zL b (faO f)) X) w2->KW.run w2) :
  @stJ (wa.alloc (.cells #[.int .i64 0,.int .i64 0] 100 (0,0))) ⟨b,0,none⟩ [.int .i64 f.1,.int .i64 f.2] KW:=by
 have h1:At w F (zC (zL b (.cells #[.int .i64 0,.int .i64 0] 100 (0,0))) X) (wa.alloc (.cells #[.int .i64 0,.int .i64 0] 100 (0,0))):=by rw[hb];exact h.alloc _ hX
 exact h1.st hX (by simp) (by simp) fun w2 h2=>H w2 (by simpa[faO] using h2)
end
theorem ze{w:World}{v:Value}{l:List Int}{k:Nat}{x:Int}(h:Vw w v iE l)(hx:l[k]? = some x):w.cell? (v.adr.add k)=some (.int .i64 x):=by
 simpa using h.at_ zRP hx (o:=0) (u:=.int .i64 x) rfl
theorem zBx{α:Type}{l:List α}{k:Nat}{x d:α}(h:l[k]? = some x):l.getD k d=x:=by simp[List.getD,h]
theorem zBt{w:World}(vv fv:Value)(vars:List Int)(l:List Fa)(hv:Vw w vv iE vars)(hf:Vw w fv faE l)(hl:l.length<=9223372036854775807) :
  Calls Tryz.prog 117 [vv,fv].toArray w fun e w'=>∃x,e=.returned x/\x=.bool (zAQ vars l)/\Kp [] w w':=by
 refine enter Tryz.func117 mixed low117 (Nat.le_of_ble_eq_true rfl) ?_;simp only[L117];simp[hf.len];refine zF (n:=l.length) (by omega) (fun k ρ w'=>ρ 0=vv/\ρ 1=fv/\ρ 7=fv/\(∀j,j<k->zMo vars l j=true)/\Kp [] w w') (by simp) (by simp)
  ⟨by simp,by simp,by simp,by omega,Kp.refl _ _⟩ (by decide) (fun _ _ _ _ h=>by simpa using h) (fun _ _ _ _ h=>by simpa using h) ?_ ?_
 rotate_left
 ·rintro ρ w4 ⟨g0,g1,g7,hall,k4⟩;have:zAQ vars l=true:=zA6 hall;simp[this];exact k4
 rintro k ρ w4 hk hc JB ⟨g0,g1,g7,hall,k4⟩;obtain⟨f,JF⟩:∃f,l[k]? = some f:=⟨_,List.getElem?_eq_getElem hk⟩;have JD:=hf.kp0 k4;have JG:=hv.kp0 k4;have ec:=JD.cells zDo JF;simp only[faE] at ec;obtain⟨b,hb⟩:∃b,b=w4.heap.size:=⟨_,rfl⟩;refine za (fun ρ w'=>ρ 0=vv/\ρ 1=fv/\ρ 7=fv/\ρ 8=.int .i64 (l.length:Nat)/\ρ 9=.int .i64 (k:Nat)/\ρ 5=.int .i64 (k:Nat)/\ρ 6=.pointer (some ⟨b,0,none⟩)/\At w4 [] (zC (zL b (faO f)) Emp) w') ?_ ?_
 ·simp(disch:=omega)[g7,hc,JB,JD.idx,ec,<-hb];refine zR3 (f:=f) .emp (At.start rfl:At w4 [] Emp w4) hb fun w5 h5=>?_;simp[g0,g1,g7,hc,JB,<-hb];exact h5
 clear g0 g1 g7 hc JB;rintro ρ w5 ⟨g0,g1,g7,g8,g9,g5,g6,h5⟩;have ho:=h5.obj;unfold faO at ho;have JA:=JG.kp0 h5.kp;have JC:=JD.kp0 h5.kp;have eg:l.getD k (0,0)=f:=zBx JF;have bad:(inR vars f&&(decide (k=0)||decide ((l.getD (k-1) (0,0)).1<f.1)))=false->zAQ vars l=false:=fun h=>zBI hk (by unfold zMo;rw[eg];exact h);have ok:(inR vars f&&(decide (k=0)||decide ((l.getD (k-1) (0,0)).1<f.1)))=true->∀j,j<k+1->zMo vars l j=true:=fun h j hj=>by
  rcases(show j<k\/j=k by omega) with h1|h1
  ·exact hall j h1
  ·subst h1;unfold zMo;rw[eg];exact h
 have k5:Kp [] w w5.drew:=(k4.trans0 h5.kp).drew;by_cases t1:f.1<0
 ·have e:=bad (by simp[inR];omega);simp[g6,zA ho,t1,e];exact k5
 by_cases t2:(vars.length:Int)<=f.1
 ·have e:=bad (by simp[inR];omega);simp[g6,g0,zA ho,t1,JA.len,t2,e];exact k5
 by_cases t3:f.2<0
 ·have e:=bad (by simp[inR];omega);simp[g6,g0,zA ho,t1,JA.len,t2,t3,e];exact k5
 obtain⟨y,hy⟩:∃y,vars[f.1.toNat]? = some y:=⟨_,List.getElem?_eq_getElem (by omega)⟩;have ey:vars.getD f.1.toNat 0=y:=zBx hy;by_cases t4:y<=f.2
 ·have e:=bad (by unfold inR;rw[ey];simp;omega);simp(disch:=omega)[g6,g0,zA ho,t1,JA.len,t2,t3,JA.idx,ze JA hy,t4,e];exact k5
 have JE:inR vars f=true:=by unfold inR;rw[ey];simp;omega
 by_cases t5:k=0
 ·subst t5;simp(disch:=omega)[g6,g0,g1,g7,g8,g9,g5,zA ho,t1,JA.len,t2,t3,JA.idx,ze JA hy,t4];exact⟨ok (by simp[JE]) 0 (by omega),k5⟩
 have t5':(0:Int)<k:=by omega
 obtain⟨p,hp⟩:∃p,l[k-1]? = some p:=⟨_,List.getElem?_eq_getElem (by omega)⟩;have ep:l.getD (k-1) (0,0)=p:=zBx hp;have ek:((k-1:Nat):Int)=(k:Int)-1:=by omega
 have ecp:w5.cell? ((fv.adr.add ((k-1)*2)).add 0)=some (.int .i64 p.1):=JC.fld zDo hp rfl;have t5'':0<k:=by omega
 have ek':=ek.symm;by_cases t6:f.1<=p.1
 ·have e:=bad (by rw[ep];simp[t5];omega);simp(disch:=omega)[g6,g0,g1,g7,g8,g9,g5,zA ho,t1,JA.len,t2,t3,JA.idx,ze JA hy,t4,t5',t5'',ek',zH,JC.idx,ecp,t6,e];exact k5
 simp(disch:=omega)[g6,g0,g1,g7,g8,g9,g5,zA ho,t1,JA.len,t2,t3,JA.idx,ze JA hy,t4,t5',t5'',ek',zH,JC.idx,ecp,t6];exact⟨fun j hj=>ok (by rw[ep];simp[JE];omega) j hj,k5⟩
end
section
open Go Go.W Go.Tk
def efO(e:Ef):Obj:=.cells #[e.wv.1,.int .i64 e.v,.int .i64 e.x] 87 (0,0)
def oqO(o:Oq):Obj:=.cells #[.string o.name,.int .i64 o.cost,o.pv.1,o.ev.1] 41 (0,0)
def tkO(t:Tk):Obj:=.cells #[t.vv.1,t.nv.1,t.gv.1,t.ov.1] 26 (0,0)
def oqV(o:Oq):Value:=.agg #[.string o.name,.int .i64 o.cost,o.pv.1,o.ev.1]
section
variable {w wa:World} {F:List Nat} {X:Asr} {KW:zw World}
theorem zK4{e:Ef}{b:Nat}(hX:Lcl X)(h:At w F X wa)(hb:b=wa.heap.size)(H:∀w2,At w F (zC (zL b (efO e)) X) w2->KW.run w2) :
  @stJ (wa.alloc (.cells #[.slice none 0 0,.int .i64 0,.int .i64 0] 87 (0,0))) ⟨b,0,none⟩ [e.wv.1,.int .i64 e.v,.int .i64 e.x] KW:=by
 have h1:At w F (zC (zL b (.cells #[.slice none 0 0,.int .i64 0,.int .i64 0] 87 (0,0))) X) (wa.alloc (.cells #[.slice none 0 0,.int .i64 0,.int .i64 0] 87 (0,0))):=by rw[hb];exact h.alloc _ hX
 exact h1.st hX (by simp) (by simp[e.wv.2]) fun w2 h2=>H w2 (by simpa[efO] using h2)
theorem zHQ{o:Oq}{b:Nat}{es:ByteArray}(hX:Lcl X)(h:At w F X wa)(hb:b=wa.heap.size)(H:∀w2,At w F (zC (zL b (oqO o)) X) w2->KW.run w2) :
  @stJ (wa.alloc (.cells #[.string es,.int .i64 0,.slice none 0 0,.slice none 0 0] 41 (0,0))) ⟨b,0,none⟩ [.string o.name,.int .i64 o.cost,o.pv.1,o.ev.1] KW:=by
 have h1:At w F (zC (zL b (.cells #[.string es,.int .i64 0,.slice none 0 0,.slice none 0 0] 41 (0,0))) X) (wa.alloc (.cells #[.string es,.int .i64 0,.slice none 0 0,.slice none 0 0] 41 (0,0))):=by rw[hb];exact h.alloc _ hX
 exact h1.st hX (by simp) (by simp[o.pv.2,o.ev.2]) fun w2 h2=>H w2 (by simpa[oqO] using h2)
theorem zEk{w:World}{b:Nat}{t:Tk}(h:w.heap[b]? = some (tkO t)):zK w ⟨b,0,none⟩ 0 4=some [t.vv.1,t.nv.1,t.gv.1,t.ov.1]:=by
 unfold tkO at h;simp[zK,Addr.add,zA h]
theorem rd_oq{w:World}{b:Nat}{o:Oq}(h:w.heap[b]? = some (oqO o)):zK w ⟨b,0,none⟩ 0 4=some [.string o.name,.int .i64 o.cost,o.pv.1,o.ev.1]:=by
 unfold oqO at h;simp[zK,Addr.add,zA h]
end
theorem zK3{w:World}(vv sv:Value)(vars s:List Int)(hv:Vw w vv iE vars)(hs:Vw w sv iE s)(hl:s.length<=9223372036854775807) :
  Calls Tryz.prog 15 [vv,sv].toArray w fun e w'=>∃x,e=.returned x/\x=.bool (zAC vars s)/\Kp [] w w':=by
 refine enter Tryz.func15 mixed low15 (Nat.le_of_ble_eq_true rfl) ?_;simp only[L15];by_cases JE:s.length=vars.length
 case neg =>
  have JC:((s.length:Int) != vars.length)=true:=by simp;omega
  have e:zAC vars s=false:=by simp[zAC,JE]
  simp[hv.len,hs.len,JC,e];exact Kp.refl _ _
 have JC:((s.length:Int) != vars.length)=false:=by simp;omega
 simp[hv.len,hs.len,JC];refine zF (n:=s.length) (by omega) (fun k ρ w'=>ρ 0=vv/\ρ 1=sv/\(∀j,j<k->zOr vars s j=true)/\Kp [] w w') (by simp) (by simp)
  ⟨by simp,by simp,by omega,Kp.refl _ _⟩ (by decide) (fun _ _ _ _ h=>by simpa using h) (fun _ _ _ _ h=>by simpa using h) ?_ ?_
 rotate_left
 ·rintro ρ w4 ⟨g0,g1,hall,k4⟩;have:zAC vars s=true:=by unfold zAC;rw[zA6 hall];simp[JE]
  simp[this];exact k4
 rintro k ρ w4 hk hc JD ⟨g0,g1,hall,k4⟩;have JA:=hs.kp0 k4;have JB:=hv.kp0 k4;obtain⟨x,hx⟩:∃x,s[k]? = some x:=⟨_,List.getElem?_eq_getElem hk⟩;obtain⟨y,hy⟩:∃y,vars[k]? = some y:=⟨_,List.getElem?_eq_getElem (by omega)⟩;have ex:zOr vars s k=(decide (0<=x)&&decide (x<y)):=by unfold zOr;rw[zBx hx,zBx hy]
 have bad:(decide (0<=x)&&decide (x<y))=false->zAC vars s=false:=fun h=>by unfold zAC;rw[zBI hk (ex.trans h)];simp
 by_cases t1:x<0
 ·have e:=bad (by simp;omega);simp(disch:=omega)[g0,g1,hc,JD,JA.idx,ze JA hx,t1,e];exact k4.drew
 by_cases t2:y<=x
 ·have e:=bad (by simp;omega);simp(disch:=omega)[g0,g1,hc,JD,JA.idx,ze JA hx,JB.idx,ze JB hy,t1,t2,e];exact k4.drew
 simp(disch:=omega)[g0,g1,hc,JD,JA.idx,ze JA hx,JB.idx,ze JB hy,t1,t2];refine⟨fun j hj=>?_,k4.drew⟩;rcases(show j<k\/j=k by omega) with h1|h1
 ·exact hall j h1
 ·subst h1;rw[ex];simp;omega
theorem zNC{w:World}(vv:Value)(vars:List Int)(hv:Vw w vv iE vars)(hl:vars.length<=9223372036854775807) :
  Calls Tryz.prog 57 [vv,.int .i64 512].toArray w fun e w'=>∃x,e=.returned x/\x=.int .i64 (zE1 512 1 vars:Nat)/\Kp [] w w':=by
 refine enter Tryz.func57 mixed low57 (Nat.le_of_ble_eq_true rfl) ?_;simp only[L57];simp[hv.len];refine zF (n:=vars.length) (by omega) (fun k ρ w'=>ρ 1=.int .i64 512/\ρ 8=vv/\(∃n:Nat,ρ 5=.int .i64 (n:Nat)/\n<=512/\zE1 512 1 vars=zE1 512 n (vars.drop k))/\Kp [] w w') (by simp) (by simp)
  ⟨by simp,by simp,⟨1,by simp,by omega,by simp⟩,Kp.refl _ _⟩ (by decide) (fun _ _ _ _ h=>by simpa using h) (fun _ _ _ _ h=>by simpa using h) ?_ ?_
 rotate_left
 ·rintro ρ w4 ⟨g1,g8,⟨n,g5,hn,hm⟩,k4⟩;rw[List.drop_of_length_le (Nat.le_refl _),zE1] at hm;simp[g5,hm];exact k4
 rintro k ρ w4 hk hc JC ⟨g1,g8,⟨n,g5,hn,hm⟩,k4⟩;have JA:=hv.kp0 k4;obtain⟨x,hx⟩:∃x,vars[k]? = some x:=⟨_,List.getElem?_eq_getElem hk⟩;rw[List.drop_eq_getElem_cons hk,(List.getElem?_eq_some_iff.1 hx).2,zE1] at hm;obtain⟨y,hy⟩:∃y,y=min x.toNat 513:=⟨_,rfl⟩;have JB:min (max x 0) 513=((y:Nat):Int):=by omega
 have JD:y<=513:=by omega
 have JE:n*y<=512*513:=Nat.mul_le_mul hn JD;have em:((n:Int)*(y:Nat))=((n*y:Nat):Int):=by simp
 obtain⟨p,hp⟩:∃p,p=n*y:=⟨_,rfl⟩;have e1:min x.toNat (512+1)=y:=hy.symm;rw[e1,<-hp] at hm;rw[<-hp] at em JE;have w1:IntKind.i64.wrap (513:Int)=513:=zH (by omega) (by omega);by_cases t:512<p
 ·have t':(512:Int)<(p:Nat):=by omega
  rw[if_pos t] at hm;simp(disch:=omega)[g1,g8,g5,hc,JC,JA.idx,ze JA hx,JB,em,zH,t,t',w1,hm];exact k4
 ·have t':¬(512:Int)<(p:Nat):=by omega
  rw[if_neg t] at hm;simp(disch:=omega)[g1,g8,g5,hc,JC,JA.idx,ze JA hx,JB,em,zH,t,t',w1];exact⟨⟨p,rfl,by omega,hm⟩,k4⟩
end
section
open Go Go.W Go.Tk
theorem zHh(vars:List Int)(f:Fa):zAQ vars [f]=inR vars f:=by
 unfold zAQ zFp zMo;simp[List.range_succ]
theorem zRe{b:ByteArray}{k:Nat}{c:UInt8}(h:b[k]? = some c):chB b k=(decide (32<=c.toNat)&&decide (c.toNat<=126)):=by
 unfold chB;rw[h];rfl
theorem zGe{w:World}(vv:Value)(vars:List Int)(o:Oq)(hv:Vw w vv iE vars)(ho:OqR w o)
  (hn:o.name.size<=9223372036854775807) (hp:o.pre.length<=9223372036854775807) (he:o.effs.length<=9223372036854775807) (hc:∀e∈o.effs,e.cnd.length<=9223372036854775807) :
  Calls Tryz.prog 118 [vv,oqV o].toArray w fun e w'=>∃x,e=.returned x/\x=.bool (opB vars o)/\Kp [] w w':=by
 refine enter Tryz.func118 mixed low118 (Nat.le_of_ble_eq_true rfl) ?_;simp only[L118];have h0:At w [] Emp w:=At.start rfl;have h1:At w [] (zC (zL w.heap.size (oqO o)) Emp) _:=h0.alloc (oqO o) Lcl.emp;obtain⟨b,hb⟩:∃b,b=w.heap.size:=⟨_,rfl⟩;rw[<-hb] at h1;have JW:Lcl (zC (zL b (oqO o)) Emp):=.star .obj .emp;obtain⟨w1,JQ⟩:∃w1,w1=w.alloc (oqO o):=⟨_,rfl⟩;rw[<-JQ] at h1;have JB:w.alloc (.cells #[.string o.name,.int .i64 o.cost,o.pv.1,o.ev.1] 41 (0,0))=w1:=by rw[JQ];rfl
 have JF:=h1.obj;unfold oqO at JF;have JS:=hv.kp0 h1.kp;have JI:=ho.kp h1.kp;have k1:=h1.kp;by_cases t1:o.cost<0
 ·have e:opB vars o=false:=by simp[opB];omega
  simp[oqV,<-hb,JB,zA JF,t1,e];exact k1
 by_cases t2:1048576<o.cost
 ·have e:opB vars o=false:=by simp[opB];omega
  simp[oqV,<-hb,JB,zA JF,t1,t2,e];exact k1
 by_cases t3:64<o.effs.length
 ·have t3':(64:Int)<(o.effs.length:Nat):=by omega
  have e:opB vars o=false:=by simp[opB];omega
  simp[oqV,<-hb,JB,zA JF,t1,t2,JI.effs.len,t3,t3',e];exact k1
 have t3':¬(64:Int)<(o.effs.length:Nat):=by omega
 by_cases t4:256<o.name.size
 ·have t4':(256:Int)<(o.name.size:Nat):=by omega
  have e:opB vars o=false:=by simp[opB,zCG];omega
  simp[oqV,<-hb,JB,zA JF,t1,t2,JI.effs.len,t3,t3',t4,t4',e];exact k1
 have t4':¬(256:Int)<(o.name.size:Nat):=by omega
 simp[oqV,<-hb,JB,zA JF,t1,t2,JI.effs.len,t3,t3',t4,t4'];refine zG (zBt vv o.pv.1 vars o.pre JS JI.pre hp) ?_;rintro _ w2 ⟨rfl,k2⟩;have h2:=h1.kp0 JW k2;cases t5:zAQ vars o.pre with
 |false =>
  have e:opB vars o=false:=by simp[opB,t5]
  simp[e];exact h2.kp
 |true =>
 have JA:=h2.obj;unfold oqO at JA;simp[zA JA];refine zF (n:=o.name.size) (by omega) (fun k ρ w'=>ρ 0=vv/\ρ 3=.pointer (some ⟨b,0,none⟩)/\(∀j,j<k->chB o.name j=true)/\w'=w2) (by simp) (by simp)
  ⟨by simp,by simp,by omega,rfl⟩ (by decide) (fun _ _ _ _ h=>by simpa using h) (fun _ _ _ _ h=>by simpa using h) ?_ ?_
 ·rintro k ρ w4 hk JE JD ⟨g0,g3,hall,rfl⟩;obtain⟨c,JL⟩:∃c,o.name[k]? = some c:=⟨_,getElem?_pos o.name k hk⟩;have ech:=zRe JL;have bad:(decide (32<=c.toNat)&&decide (c.toNat<=126))=false->opB vars o=false:=fun h=>by
   have:zCG o.name=false:=by unfold zCG;rw[zBI hk (ech.trans h)];simp
   simp[opB,this]
  by_cases s1:c.toNat<32
  ·have s1':((c.toNat:Nat):Int)<32:=by omega
   have e:=bad (by simp;omega);simp[g0,g3,JE,JD,zA JA,JL,s1,s1',e];exact h2.kp
  have s1':¬((c.toNat:Nat):Int)<32:=by omega
  by_cases s2:126<c.toNat
  ·have s2':(126:Int)<((c.toNat:Nat):Int):=by omega
   have e:=bad (by simp;omega);simp[g0,g3,JE,JD,zA JA,JL,s1,s1',s2,s2',e];exact h2.kp
  have s2':¬(126:Int)<((c.toNat:Nat):Int):=by omega
  simp[g0,g3,JE,JD,zA JA,JL,s1,s1',s2,s2'];intro j hj;rcases(show j<k\/j=k by omega) with h|h
  ·exact hall j h
  ·subst h;rw[ech];simp;omega
 rintro ρ w4 ⟨g0,g3,hall,rfl⟩;have JK:zCG o.name=true:=by unfold zCG;rw[zA6 hall];simp;omega
 have JU:=JI.kp k2;simp[g3,zA JA,JU.effs.len];refine zF (n:=o.effs.length) (by omega) (fun k ρ w'=>ρ 0=vv/\ρ 55=o.ev.1/\(∀j e,j<k->o.effs[j]? = some e->zLv vars e=true)/\Kp [] w4 w') (by simp) (by simp)
  ⟨by simp[g0],by simp,by omega,Kp.refl _ _⟩ (by decide) (fun _ _ _ _ h=>by simpa using h) (fun _ _ _ _ h=>by simpa using h) ?_ ?_
 rotate_left
 ·rintro ρ w5 ⟨g0,JG,JC,k5⟩;have e:opB vars o=true:=by
   have:o.effs.all (zLv vars)=true:=by rw[List.all_eq_true];intro e JV;obtain⟨j,hj,rfl⟩:=List.getElem_of_mem JV;exact JC j _ hj (List.getElem?_eq_getElem hj)
   simp only[opB,this,JK,t5,Bool.and_true,Bool.and_eq_true,decide_eq_true_eq];omega
  simp[e];exact h2.kp.trans0 k5
 rintro k ρ w5 hk JE JD ⟨g0,JG,JC,k5⟩;obtain⟨e,JP⟩:∃e,o.effs[k]? = some e:=⟨_,List.getElem?_eq_getElem hk⟩;have JO:=List.mem_of_getElem? JP;have JM:=JU.kp k5;have JR:=(JS.kp0 k2).kp0 k5;have ec:=JM.effs.cells zGu JP;simp only[efE] at ec;obtain⟨eb,heb⟩:∃eb,eb=w5.heap.size:=⟨_,rfl⟩;have bad:zLv vars e=false->opB vars o=false:=fun h=>by have:o.effs.all (zLv vars)=false:=zAH JO h;simp[opB,this]
 refine za (fun ρ w'=>ρ 0=vv/\ρ 55=o.ev.1/\ρ 56=.int .i64 (o.effs.length:Nat)/\ρ 57=.int .i64 (k:Nat)/\ρ 7=.pointer (some ⟨eb,0,none⟩)/\At w5 [] (zC (zL eb (efO e)) Emp) w') ?_ ?_
 ·simp(disch:=omega)[JG,JE,JD,JM.effs.idx,ec,<-heb];refine zK4 (e:=e) .emp (At.start rfl:At w5 [] Emp w5) heb fun w6 h6=>?_;simp[g0,JG,JE,JD,<-heb];exact h6
 clear g0 JG JE JD;rintro ρ w6 ⟨g0,JG,JY,JX,g7,h6⟩;have JT:=h6.obj;unfold efO at JT;simp[g0,g7,zA JT];refine zG (zBt vv e.wv.1 vars e.cnd (JR.kp0 h6.kp) ((JM.kp h6.kp).cnd e JO) (hc e JO)) ?_;rintro _ w7 ⟨rfl,k7⟩;have h7:=h6.kp0 (.star .obj .emp) k7;cases s1:zAQ vars e.cnd with
 |false =>have e:=bad (by simp[zLv,s1]);simp[e];exact(h2.kp.trans0 k5).trans0 h7.kp
 |true =>
 have JH:=h7.obj;unfold efO at JH;simp[g0,g7,zA JH,zW];have h8:=h7.lit (xs:=[((e.v,e.x):Fa)]) (enc:=faE) (E:=100) (sz:=2) (cs:=#[.int .i64 e.v,.int .i64 e.x]) (m:=1) (.star .obj .emp) (by simp[faE]) zDo (by simp[maxLen]) rfl;refine zG (zBt vv _ vars [((e.v,e.x):Fa)] (JR.kp0 h8.kp) h8.own.vw (by simp)) ?_;rintro _ w8 ⟨rfl,k8⟩;rw[zHh];have kk:=((h2.kp.trans0 k5).trans0 h8.kp).trans0 k8;cases s2:inR vars (e.v,e.x) with
 |false =>have e:=bad (by simp[zLv,s2]);simp[e];exact kk
 |true =>
 simp[g0,JG,JY,JX];refine⟨fun j e' hj JN=>?_,(k5.trans0 h8.kp).trans0 k8⟩;rcases(show j<k\/j=k by omega) with h|h
 ·exact JC j e' h JN
 ·subst h;rw[JP] at JN;cases JN;simp[zLv,s1,s2]
end
section
open Go Go.W Go.Tk
theorem zNg{w:World}(t:Tk)(ht:TkR w t)(hl:TkL t) :
  Calls Tryz.prog 56 [tkV t].toArray w fun e w'=>∃x,e=.returned x/\x=.bool (zAp t)/\Kp [] w w':=by
 refine enter Tryz.func56 mixed low56 (Nat.le_of_ble_eq_true rfl) ?_;simp only[L56];have h0:At w [] Emp w:=At.start rfl;have h1:At w [] (zC (zL w.heap.size (tkO t)) Emp) _:=h0.alloc (tkO t) Lcl.emp;obtain⟨b,hb⟩:∃b,b=w.heap.size:=⟨_,rfl⟩;rw[<-hb] at h1;have JL:Lcl (zC (zL b (tkO t)) Emp):=.star .obj .emp;obtain⟨w1,JS⟩:∃w1,w1=w.alloc (tkO t):=⟨_,rfl⟩;rw[<-JS] at h1;have JC:w.alloc (.cells #[t.vv.1,t.nv.1,t.gv.1,t.ov.1] 26 (0,0))=w1:=by rw[JS];rfl
 have JK:=h1.obj;unfold tkO at JK;have JA:=ht.kp h1.kp;have k1:=h1.kp;by_cases t1:64<t.vars.length
 ·have t1':(64:Int)<(t.vars.length:Nat):=by omega
  have e:zAp t=false:=by simp[zAp];omega
  simp[tkV,<-hb,JC,zA JK,JA.vars.len,t1,t1',e];exact k1
 have t1':¬(64:Int)<(t.vars.length:Nat):=by omega
 by_cases t2:4096<t.ops.length
 ·have t2':(4096:Int)<(t.ops.length:Nat):=by omega
  have e:zAp t=false:=by simp[zAp];omega
  simp[tkV,<-hb,JC,zA JK,JA.vars.len,JA.ops.len,t1,t1',t2,t2',e];exact k1
 have t2':¬(4096:Int)<(t.ops.length:Nat):=by omega
 simp[tkV,<-hb,JC,zA JK,JA.vars.len,JA.ops.len,t1,t1',t2,t2'];refine zF (n:=t.vars.length) (by omega) (fun k ρ w'=>ρ 1=.pointer (some ⟨b,0,none⟩)/\ρ 18=t.vv.1/\(∀j x,j<k->t.vars[j]? = some x->varB x=true)/\w'=w1) (by simp) (by simp)
  ⟨by simp,by simp,by omega,rfl⟩ (by decide) (fun _ _ _ _ h=>by simpa using h) (fun _ _ _ _ h=>by simpa using h) ?_ ?_
 ·rintro k ρ w4 hk hc JD ⟨g1,JM,hall,rfl⟩;obtain⟨x,hx⟩:∃x,t.vars[k]? = some x:=⟨_,List.getElem?_eq_getElem hk⟩;have bad:varB x=false->zAp t=false:=fun h=>by have:t.vars.all varB=false:=zAH (List.mem_of_getElem? hx) h;simp[zAp,this]
  by_cases s1:x<1
  ·have e:=bad (by simp[varB];omega);simp(disch:=omega)[g1,JM,hc,JD,JA.vars.idx,ze JA.vars hx,s1,e];exact k1
  by_cases s2:64<x
  ·have e:=bad (by simp[varB];omega);simp(disch:=omega)[g1,JM,hc,JD,JA.vars.idx,ze JA.vars hx,s1,s2,e];exact k1
  simp(disch:=omega)[g1,JM,hc,JD,JA.vars.idx,ze JA.vars hx,s1,s2];intro j y hj hy;rcases(show j<k\/j=k by omega) with h|h
  ·exact hall j y h hy
  ·subst h;rw[hx] at hy;cases hy;simp[varB];omega
 rintro ρ w4 ⟨g1,JM,hall,rfl⟩;have JF:t.vars.all varB=true:=by rw[List.all_eq_true];intro x hx;obtain⟨j,hj,rfl⟩:=List.getElem_of_mem hx;exact hall j _ hj (List.getElem?_eq_getElem hj)
 simp[g1,zA JK];refine zG (zK3 t.vv.1 t.nv.1 t.vars t.init JA.vars JA.init hl.init) ?_;rintro _ w2 ⟨rfl,k2⟩;have h2:=h1.kp0 JL k2;cases s1:zAC t.vars t.init with
 |false =>
  have e:zAp t=false:=by simp[zAp,s1]
  simp[e];exact h2.kp
 |true =>
 have JI:=h2.obj;unfold tkO at JI;simp[g1,zA JI];have JO:=JA.kp k2;refine zG (zBt t.vv.1 t.gv.1 t.vars t.goal JO.vars JO.goal hl.goal) ?_;rintro _ w3 ⟨rfl,k3⟩;have h3:=h2.kp0 JL k3;cases s2:zAQ t.vars t.goal with
 |false =>
  have e:zAp t=false:=by simp[zAp,s2]
  simp[e];exact h3.kp
 |true =>
 have JH:=h3.obj;unfold tkO at JH;have JU:=JO.kp k3;simp[g1,zA JH,JU.ops.len];refine zF (n:=t.ops.length) (by omega) (fun k ρ w'=>ρ 1=.pointer (some ⟨b,0,none⟩)/\ρ 46=t.ov.1/\(∀j o,j<k->t.ops[j]? = some o->opB t.vars o=true)/\At w [] (zC (zL b (tkO t)) Emp) w'/\Kp [] w3 w') (by simp) (by simp)
  ⟨by simp[g1],by simp,by omega,h3,Kp.refl _ _⟩ (by decide) (fun _ _ _ _ h=>by simpa using h) (fun _ _ _ _ h=>by simpa using h) ?_ ?_
 rotate_left
 ·rintro ρ w5 ⟨g1,JE,JB,h5,k5⟩;have e:zAp t=true:=by
   have:t.ops.all (opB t.vars)=true:=by rw[List.all_eq_true];intro o ho;obtain⟨j,hj,rfl⟩:=List.getElem_of_mem ho;exact JB j _ hj (List.getElem?_eq_getElem hj)
   simp only[zAp,this,JF,s1,s2,Bool.and_true,Bool.and_eq_true,decide_eq_true_eq];omega
  simp[e];exact h5.kp
 rintro k ρ w5 hk hc JD ⟨g1,JE,JB,h5,k5⟩;obtain⟨o,JQ⟩:∃o,t.ops[k]? = some o:=⟨_,List.getElem?_eq_getElem hk⟩;have JP:=List.mem_of_getElem? JQ;have JN:=JU.kp k5;have ec:=JN.ops.cells zCE JQ;simp only[oqE] at ec;obtain⟨eb,heb⟩:∃eb,eb=w5.heap.size:=⟨_,rfl⟩;refine za (fun ρ w'=>ρ 1=.pointer (some ⟨b,0,none⟩)/\ρ 46=t.ov.1/\ρ 47=.int .i64 (t.ops.length:Nat)/\ρ 48=.int .i64 (k:Nat)/\ρ 6=.pointer (some ⟨eb,0,none⟩)/\At w5 [] (zC (zL eb (oqO o)) Emp) w') ?_ ?_
 ·simp(disch:=omega)[JE,hc,JD,JN.ops.idx,ec,<-heb];refine zHQ (o:=o) .emp (At.start rfl:At w5 [] Emp w5) heb fun w6 h6=>?_;simp[g1,JE,hc,JD,<-heb];exact h6
 clear g1 JE hc JD;rintro ρ w6 ⟨g1,JE,JW,JV,g6,h6⟩;have h5:=h5.kp0 JL h6.kp;have JG:=h5.obj;unfold tkO at JG;have JT:=JN.kp h6.kp;obtain⟨l1,l2,l3,l4⟩:=hl.op o JP;simp[g1,g6,zA JG,rd_oq h6.obj];refine zG (zGe t.vv.1 t.vars o JT.vars (JT.op o JP) l1 l2 l3 l4) ?_;rintro _ w7 ⟨rfl,k7⟩;have h7:=h5.kp0 JL k7;cases s3:opB t.vars o with
 |false =>
  have e:zAp t=false:=by have:t.ops.all (opB t.vars)=false:=zAH JP s3;simp[zAp,this]
  simp[e];exact h7.kp
 |true =>
 simp[g1,JE,JW,JV];refine⟨fun j o' hj JR=>?_,h7,(k5.trans0 h6.kp).trans0 k7⟩;rcases(show j<k\/j=k by omega) with h|h
 ·exact JB j o' h JR
 ·subst h;rw[JQ] at JR;cases JR;exact s3
theorem zK6{w:World}(t:Tk)(ht:TkR w t)(hl:TkL t) :
  Calls Tryz.prog 14 [tkV t].toArray w fun e w'=>∃x,e=.returned x/\x=.bool (zBU t)/\Kp [] w w':=by
 refine enter Tryz.func14 mixed low14 (Nat.le_of_ble_eq_true rfl) ?_;simp only[L14];have h0:At w [] Emp w:=At.start rfl;have h1:At w [] (zC (zL w.heap.size (tkO t)) Emp) _:=h0.alloc (tkO t) Lcl.emp;obtain⟨b,hb⟩:∃b,b=w.heap.size:=⟨_,rfl⟩;rw[<-hb] at h1;have JQ:Lcl (zC (zL b (tkO t)) Emp):=.star .obj .emp;obtain⟨w1,JN⟩:∃w1,w1=w.alloc (tkO t):=⟨_,rfl⟩;rw[<-JN] at h1;have JB:w.alloc (.cells #[t.vv.1,t.nv.1,t.gv.1,t.ov.1] 26 (0,0))=w1:=by rw[JN];rfl
 have JF:=h1.obj;unfold tkO at JF;have JC:=ht.kp h1.kp;have k1:=h1.kp;by_cases t1:12<t.vars.length
 ·have t1':(12:Int)<(t.vars.length:Nat):=by omega
  have e:zBU t=false:=by simp only[zBU,Bool.and_eq_false_iff,decide_eq_false_iff_not];omega
  simp[tkV,<-hb,JB,zA JF,JC.vars.len,t1,t1',e];exact k1
 have t1':¬(12:Int)<(t.vars.length:Nat):=by omega
 by_cases t2:20<t.ops.length
 ·have t2':(20:Int)<(t.ops.length:Nat):=by omega
  have e:zBU t=false:=by simp only[zBU,Bool.and_eq_false_iff,decide_eq_false_iff_not];omega
  simp[tkV,<-hb,JB,zA JF,JC.vars.len,JC.ops.len,t1,t1',t2,t2',e];exact k1
 have t2':¬(20:Int)<(t.ops.length:Nat):=by omega
 simp[tkV,<-hb,JB,zA JF,JC.vars.len,JC.ops.len,t1,t1',t2,t2'];refine zF (n:=t.ops.length) (by omega) (fun k ρ w'=>ρ 1=.pointer (some ⟨b,0,none⟩)/\ρ 16=t.ov.1/\(∀j o,j<k->t.ops[j]? = some o->o.effs.length<=8)/\At w [] (zC (zL b (tkO t)) Emp) w'/\Kp [] w1 w') (by simp) (by simp)
  ⟨by simp,by simp,by omega,h1,Kp.refl _ _⟩ (by decide) (fun _ _ _ _ h=>by simpa using h) (fun _ _ _ _ h=>by simpa using h) ?_ ?_
 ·rintro k ρ w5 hk hc JP ⟨g1,JM,JA,h5,k5⟩;obtain⟨o,JK⟩:∃o,t.ops[k]? = some o:=⟨_,List.getElem?_eq_getElem hk⟩;have JI:=List.mem_of_getElem? JK;have JD:=JC.kp k5;have ec:=JD.ops.cells zCE JK;simp only[oqE] at ec;obtain⟨eb,heb⟩:∃eb,eb=w5.heap.size:=⟨_,rfl⟩;simp(disch:=omega)[JM,hc,JP,JD.ops.idx,ec,<-heb];refine zHQ (o:=o) .emp (At.start rfl:At w5 [] Emp w5) heb fun w6 h6=>?_;have h7:=h5.kp0 JQ h6.kp;have JG:=h6.obj;unfold oqO at JG;rw[heb] at JG;have JO:=JD.kp h6.kp;by_cases s1:8<o.effs.length
  ·have s1':(8:Int)<(o.effs.length:Nat):=by omega
   have e:zBU t=false:=by have:(t.ops.all fun o=>decide (o.effs.length<=8))=false:=zAH JI (by simp;omega);simp[zBU,this]
   simp[zA JG,(JO.op o JI).effs.len,s1,s1',e];exact h7.kp
  have s1':¬(8:Int)<(o.effs.length:Nat):=by omega
  simp[zA JG,(JO.op o JI).effs.len,s1,s1',g1,JM,hc,JP];refine⟨fun j o' hj JL=>?_,h7,k5.trans0 h6.kp⟩;rcases(show j<k\/j=k by omega) with h|h
  ·exact JA j o' h JL
  ·subst h;rw[JK] at JL;cases JL;omega
 rintro ρ w5 ⟨g1,JM,JA,h5,k5⟩;have JH:(t.ops.all fun o=>decide (o.effs.length<=8))=true:=by rw[List.all_eq_true];intro o ho;obtain⟨j,hj,rfl⟩:=List.getElem_of_mem ho;exact decide_eq_true (JA j _ hj (List.getElem?_eq_getElem hj))
 have JD:=JC.kp k5;simp[g1,zEk h5.obj];refine zG (zNg t JD hl) ?_;rintro _ w6 ⟨rfl,k6⟩;have h6:=h5.kp0 JQ k6;cases s1:zAp t with
 |false =>
  have e:zBU t=false:=by simp[zBU,s1]
  simp[e];exact h6.kp
 |true =>
 have JE:=h6.obj;unfold tkO at JE;simp[g1,zA JE];refine zG (zNC t.vv.1 t.vars (JD.kp k6).vars hl.vars) ?_;rintro _ w7 ⟨rfl,k7⟩;have hm:(decide (((zE1 512 1 t.vars:Nat):Int)<=512))=zBU t:=by simp only[zBU,s1,JH,Bool.and_true];rw[Bool.eq_iff_iff];simp only[decide_eq_true_eq,Bool.and_eq_true];omega
 simp[hm];exact h6.kp.trans0 k7
end
section
open Go Go.W Go.Tk
theorem zBT{w:World}(vv sv:Value)(vars s:List Int)(hv:Vw w vv iE vars)(hs:Vw w sv iE s)(hl:s.length<=9223372036854775807) :
  Calls Tryz.prog 30 [vv,sv].toArray w fun e w'=>∃x,e=.returned x/\x=.bool (zAC vars s)/\Kp [] w w':=by
 refine enter Tryz.func30 mixed low30 (Nat.le_of_ble_eq_true rfl) ?_;simp only[L30];by_cases JE:s.length=vars.length
 case neg =>
  have JC:((s.length:Int) != vars.length)=true:=by simp;omega
  have e:zAC vars s=false:=by simp[zAC,JE]
  simp[hv.len,hs.len,JC,e];exact Kp.refl _ _
 have JC:((s.length:Int) != vars.length)=false:=by simp;omega
 simp[hv.len,hs.len,JC];refine zF (n:=s.length) (by omega) (fun k ρ w'=>ρ 0=vv/\ρ 12=sv/\(∀j,j<k->zOr vars s j=true)/\Kp [] w w') (by simp) (by simp)
  ⟨by simp,by simp,by omega,Kp.refl _ _⟩ (by decide) (fun _ _ _ _ h=>by simpa using h) (fun _ _ _ _ h=>by simpa using h) ?_ ?_
 rotate_left
 ·rintro ρ w4 ⟨g0,g1,hall,k4⟩;have:zAC vars s=true:=by unfold zAC;rw[zA6 hall];simp[JE]
  simp[this];exact k4
 rintro k ρ w4 hk hc JD ⟨g0,g1,hall,k4⟩;have JA:=hs.kp0 k4;have JB:=hv.kp0 k4;obtain⟨x,hx⟩:∃x,s[k]? = some x:=⟨_,List.getElem?_eq_getElem hk⟩;obtain⟨y,hy⟩:∃y,vars[k]? = some y:=⟨_,List.getElem?_eq_getElem (by omega)⟩;have ex:zOr vars s k=(decide (0<=x)&&decide (x<y)):=by unfold zOr;rw[zBx hx,zBx hy]
 have bad:(decide (0<=x)&&decide (x<y))=false->zAC vars s=false:=fun h=>by unfold zAC;rw[zBI hk (ex.trans h)];simp
 by_cases t1:x<0
 ·have e:=bad (by simp;omega);simp(disch:=omega)[g0,g1,hc,JD,JA.idx,ze JA hx,t1,e];exact k4
 by_cases t2:y<=x
 ·have e:=bad (by simp;omega);simp(disch:=omega)[g0,g1,hc,JD,JA.idx,ze JA hx,JB.idx,ze JB hy,t1,t2,e];exact k4
 simp(disch:=omega)[g0,g1,hc,JD,JA.idx,ze JA hx,JB.idx,ze JB hy,t1,t2];refine⟨fun j hj=>?_,k4⟩;rcases(show j<k\/j=k by omega) with h1|h1
 ·exact hall j h1
 ·subst h1;rw[ex];simp;omega
theorem zBL{w:World}(vv fv:Value)(vars:List Int)(l:List Fa)(hv:Vw w vv iE vars)(hf:Vw w fv faE l)(hl:l.length<=9223372036854775807) :
  Calls Tryz.prog 29 [vv,fv].toArray w fun e w'=>∃x,e=.returned x/\x=.bool (zAQ vars l)/\Kp [] w w':=by
 refine enter Tryz.func29 mixed low29 (Nat.le_of_ble_eq_true rfl) ?_;simp only[L29];simp[hf.len];refine zF (n:=l.length) (by omega) (fun k ρ w'=>ρ 0=vv/\ρ 8=fv/\(∃p:Int,ρ 5=.int .i64 p/\((k=0/\p=-1)\/(0<k/\0<=p/\(l.getD (k-1) (0,0)).1=p)))/\(∀j,j<k->zMo vars l j=true)/\Kp [] w w') (by simp) (by simp)
  ⟨by simp,by simp,⟨-1,by simp,.inl ⟨rfl,rfl⟩⟩,by omega,Kp.refl _ _⟩ (by decide) (fun _ _ _ _ h=>by simpa using h) (fun _ _ _ _ h=>by simpa using h) ?_ ?_
 rotate_left
 ·rintro ρ w4 ⟨g0,g8,_,hall,k4⟩;have:zAQ vars l=true:=zA6 hall;simp[this];exact k4
 rintro k ρ w4 hk hc JC ⟨g0,g8,⟨p,g5,hp⟩,hall,k4⟩;obtain⟨f,JB⟩:∃f,l[k]? = some f:=⟨_,List.getElem?_eq_getElem hk⟩;have JD:=hf.kp0 k4;have JE:=hv.kp0 k4;have ec:=JD.cells zDo JB;simp only[faE] at ec;obtain⟨b,hb⟩:∃b,b=w4.heap.size:=⟨_,rfl⟩;refine za (fun ρ w'=>ρ 0=vv/\ρ 8=fv/\ρ 5=.int .i64 p/\ρ 9=.int .i64 (l.length:Nat)/\ρ 10=.int .i64 (k:Nat)/\ρ 7=.pointer (some ⟨b,0,none⟩)/\At w4 [] (zC (zL b (faO f)) Emp) w') ?_ ?_
 ·simp(disch:=omega)[g8,hc,JC,JD.idx,ec,<-hb];refine zR3 (f:=f) .emp (At.start rfl:At w4 [] Emp w4) hb fun w5 h5=>?_;simp[g0,g8,g5,hc,JC,<-hb];exact h5
 clear g0 g8 g5 hc JC;rintro ρ w5 ⟨g0,g8,g5,g9,g10,g7,h5⟩;have ho:=h5.obj;unfold faO at ho;have JA:=JE.kp0 h5.kp;have eg:l.getD k (0,0)=f:=zBx JB;have bad:(inR vars f&&(decide (k=0)||decide ((l.getD (k-1) (0,0)).1<f.1)))=false->zAQ vars l=false:=fun h=>zBI hk (by unfold zMo;rw[eg];exact h);have k5:Kp [] w w5.drew:=(k4.trans0 h5.kp).drew;by_cases t0:f.1<=p
 ·have e:=bad (by
   rcases hp with⟨h1,h2⟩|⟨h1,h2,h3⟩
   ·simp[inR];omega
   ·rw[h3];simp[Nat.ne_of_gt h1];omega)
  simp[g7,g5,zA ho,t0,e];exact k5
 by_cases t2:(vars.length:Int)<=f.1
 ·have e:=bad (by simp[inR];omega);simp[g7,g5,g0,zA ho,t0,JA.len,t2,e];exact k5
 by_cases t3:f.2<0
 ·have e:=bad (by simp[inR];omega);simp[g7,g5,g0,zA ho,t0,JA.len,t2,t3,e];exact k5
 have t1:0<=f.1:=by omega
 obtain⟨y,hy⟩:∃y,vars[f.1.toNat]? = some y:=⟨_,List.getElem?_eq_getElem (by omega)⟩;have ey:vars.getD f.1.toNat 0=y:=zBx hy;by_cases t4:y<=f.2
 ·have e:=bad (by unfold inR;rw[ey];simp;omega);simp(disch:=omega)[g7,g5,g0,zA ho,t0,JA.len,t2,t3,JA.idx,ze JA hy,t4,e];exact k5
 have JF:inR vars f=true:=by unfold inR;rw[ey];simp;omega
 simp(disch:=omega)[g7,g5,g0,g8,g9,g10,zA ho,t0,JA.len,t2,t3,JA.idx,ze JA hy,t4];refine⟨⟨by rw[(List.getElem?_eq_some_iff.1 JB).2],by rw[(List.getElem?_eq_some_iff.1 JB).2];exact t1⟩,fun j hj=>?_,k5⟩;rcases(show j<k\/j=k by omega) with h1|h1
 ·exact hall j h1
 ·subst h1;unfold zMo;rw[eg,JF];rcases hp with⟨h1,h2⟩|⟨h1,h2,h3⟩
  ·simp[h1]
  ·rw[h3];simp;omega
theorem zIT{w:World}(b:ByteArray)(hl:b.size<=9223372036854775807) :
  Calls Tryz.prog 111 [.string b].toArray w fun e w'=>∃x,e=.returned x/\x=.bool (zCG b)/\Kp [] w w':=by
 refine enter Tryz.func111 mixed low111 (Nat.le_of_ble_eq_true rfl) ?_;simp only[L111];simp;refine zF (n:=b.size) (by omega) (fun k ρ w'=>ρ 0=.string b/\(∀j,j<k->chB b j=true)/\w'=w) (by simp) (by simp)
  ⟨by simp,by omega,rfl⟩ (by decide) (fun _ _ _ _ h=>by simpa using h) (fun _ _ _ _ h=>by simpa using h) ?_ ?_
 ·rintro k ρ w4 hk hc JB ⟨g0,hall,rfl⟩;obtain⟨c,JA⟩:∃c,b[k]? = some c:=⟨_,getElem?_pos b k hk⟩;have ech:=zRe JA;have bad:(decide (32<=c.toNat)&&decide (c.toNat<=126))=false->zCG b=false:=fun h=>by unfold zCG;rw[zBI hk (ech.trans h)];simp
  by_cases s1:c.toNat<32
  ·have s1':((c.toNat:Nat):Int)<32:=by omega
   have e:=bad (by simp;omega);simp[g0,hc,JB,JA,s1,s1',e];exact Kp.refl _ _
  have s1':¬((c.toNat:Nat):Int)<32:=by omega
  by_cases s2:126<c.toNat
  ·have s2':(126:Int)<((c.toNat:Nat):Int):=by omega
   have e:=bad (by simp;omega);simp[g0,hc,JB,JA,s1,s1',s2,s2',e];exact Kp.refl _ _
  have s2':¬(126:Int)<((c.toNat:Nat):Int):=by omega
  simp[g0,hc,JB,JA,s1,s1',s2,s2'];intro j hj;rcases(show j<k\/j=k by omega) with h|h
  ·exact hall j h
  ·subst h;rw[ech];simp;omega
 rintro ρ w4 ⟨g0,hall,rfl⟩;have e:decide ((b.size:Int)<=256)=zCG b:=by unfold zCG;rw[zA6 hall,Bool.and_true,Bool.eq_iff_iff];simp only[decide_eq_true_eq];omega
 simp[g0,e];exact Kp.refl _ _
end
section
open Go Go.W Go.Tk
structure Nw{α:Type}(w w':World)(u:Value)(E sz:Nat)(enc:α->List Value)(l:List α):Prop where
 kp:Kp [] w w'
 own:Own w' u E sz enc l
 fresh:∀x∈u.own,w.heap.size<=x
theorem Nw.of{α:Type}{w w':World}{u:Value}{E sz:Nat}{enc:α->List Value}{l:List α}{B:Asr}(h:At w [] (zC (zM u E sz enc l) B) w'):Nw w w' u E sz enc l:=by
 refine⟨h.kp,h.own,fun x hx=>?_⟩;obtain⟨F',⟨Fa,Fb,⟨_,rfl⟩,_,_,rfl⟩,hs⟩:=h.ex;rcases hs x (by simp[hx]) with h1|h1
 ·cases h1
 ·exact h1
theorem At.nw{α:Type}{w w1 w':World}{F:List Nat}{B:Asr}{u:Value}{E sz:Nat}{enc:α->List Value}{l:List α}(hB:Lcl B)(h:At w F B w1)(t:Nw w1 w' u E sz enc l):At w F (zC (zM u E sz enc l) B) w' :=
 h.more hB t.kp ⟨u.own,⟨t.own,rfl⟩,t.fresh⟩
theorem zLd(o:Oq):(zBQ o).length=1+o.effs.length:=by simp[zBQ];omega
theorem zFI{ops:List Oq}(h:∀o∈ops,o.effs.length<=64):(ops.flatMap zBQ).length<=65*ops.length:=by
 induction ops with
 |nil=>simp
 |cons o l ih =>have:=ih fun o' ho=>h o' (by simp[ho]);have:=h o (by simp);simp only[List.flatMap_cons,List.length_append,zLd,List.length_cons];omega
theorem zID{w w1:World}{F:List Nat}{B:Asr}{ov:Value}{p:zP×List Fa}{outs:List (zP×List Fa)}{KV:zw (Value×World)}(hB:Lcl B)(h:At w F (zC (zM ov 23 1 sv1 outs) B) w1)(hl:outs.length<=1000000)
  (H:∀v' w2,At w F (zC (zM v' 23 1 sv1 (outs++[p])) B) w2->KV.run (v',w2)) :
  @efH Tryz.prog (Builtin.append_ #[74,74] 74 [ov,.slice (some ⟨w1.heap.size,0,none⟩) 1 1].toArray) (w1.alloc (.cells #[p.1.1] 23)) KV:=by
 have h4:=h.kp0 (Lcl.own.star hB) ((Kp.refl [] w1).alloc (.cells #[p.1.1] 23));refine At.append (xs:=[p]) hB h4 zT zB9 zIY rfl (fun j x hj=>?_) (by omega) (by unfold maxLen;omega) fun v' w5 h5=>H v' w5 h5;simp[sv1] at hj;rw[zAm,zA zO];simpa using hj
theorem zEY{w:World}(t:Tk)(ht:TkR w t)(ho:t.ops.length<=4096)(he:∀o∈t.ops,o.effs.length<=64) :
  Calls Tryz.prog 110 [tkV t].toArray w fun e w'=>∃u,e=.returned u/\Nw w w' u 23 1 sv1 (zAX t):=by
 refine enter Tryz.func110 mixed low110 (Nat.le_of_ble_eq_true rfl) ?_;simp only[L110];have h0:At w [] Emp w:=At.start rfl;have h1:At w [] (zC (zL w.heap.size (tkO t)) Emp) _:=h0.alloc (tkO t) Lcl.emp;obtain⟨b,hb⟩:∃b,b=w.heap.size:=⟨_,rfl⟩;rw[<-hb] at h1;have JD:Lcl (zC (zL b (tkO t)) Emp):=.star .obj .emp;obtain⟨w1,JS⟩:∃w1,w1=w.alloc (tkO t):=⟨_,rfl⟩;rw[<-JS] at h1;have JF:w.alloc (.cells #[t.vv.1,t.nv.1,t.gv.1,t.ov.1] 26 (0,0))=w1:=by rw[JS];rfl
 have JU:=h1.obj;unfold tkO at JU;have Jb:=ht.kp h1.kp;have h2:=h1.lit (xs:=[((t.gv,t.goal):zP×List Fa)]) (enc:=sv1) (E:=23) (sz:=1) (cs:=#[t.gv.1]) (m:=1) JD (by simp[sv1]) zT (by simp[maxLen]) rfl;obtain⟨w2,JR⟩:∃w2,w2=w1.alloc (.cells #[t.gv.1] 23):=⟨_,rfl⟩;obtain⟨sl,JT⟩:∃sl,sl=Value.slice (some ⟨w1.heap.size,0,none⟩) 1 1:=⟨_,rfl⟩;rw[<-JR,<-JT] at h2;have JB:=h2.drop.obj;unfold tkO at JB;have Ja:=ht.kp h2.kp;have go:=Jb.goal.c1;simp[tkV,<-hb,JF,zA JU,zW,go,<-JR,<-JT,zA JB,Ja.ops.len];refine zF (n:=t.ops.length) (by omega) (fun k ρ w'=>ρ 1=.pointer (some ⟨b,0,none⟩)/\ρ 12=t.ov.1/\At w [] (zC (zM (ρ 3) 23 1 sv1 ((t.gv,t.goal)::(t.ops.take k).flatMap zBQ)) (zC (zL b (tkO t)) Emp)) w') (by simp) (by simp)
  ⟨by simp,by simp,by simpa using h2⟩ (by decide) (fun _ _ _ _ h=>by simpa using h) (fun _ _ _ _ h=>by simpa using h) ?_ ?_
 rotate_left
 ·rintro ρ w5 ⟨g1,g12,h5⟩;rw[List.take_length] at h5;simp;exact Nw.of h5
 rintro k ρ w5 hk hc JV ⟨g1,g12,h5⟩;obtain⟨o,JH⟩:∃o,t.ops[k]? = some o:=⟨_,List.getElem?_eq_getElem hk⟩;have JE:=List.mem_of_getElem? JH;have JG:=ht.kp h5.kp;have ec:=JG.ops.cells zCE JH;simp only[oqE] at ec;have Jc:((t.ops.take k).flatMap zBQ).length<=65*4096:=by have:=zFI (ops:=t.ops.take k) fun o ho=>he o (List.mem_of_mem_take ho);rw[List.length_take] at this;omega
 obtain⟨pre,JA⟩:∃pre,pre=(t.ops.take k).flatMap zBQ:=⟨_,rfl⟩;rw[<-JA] at h5 Jc;have JC:(t.ops.take (k+1)).flatMap zBQ=pre++zBQ o:=by rw[List.take_add_one,JH,JA];simp
 rw[JC];have Jh:=he o JE;obtain⟨eb,heb⟩:∃eb,eb=w5.heap.size:=⟨_,rfl⟩;simp(disch:=omega)[g12,hc,JV,JG.ops.idx,ec,<-heb];have Jd:Lcl (zC (zM (ρ 3) 23 1 sv1 ((t.gv,t.goal)::pre)) (zC (zL b (tkO t)) Emp)):=Lcl.own.star JD;refine zHQ (o:=o) Jd h5 heb fun w6 h6=>?_;have JL:=h6.obj;unfold oqO at JL;rw[heb] at JL;have po:=JG.op o JE |>.pre.c1;simp[zA JL,zW,po];refine zID (p:=(o.pv,o.pre)) (Lcl.obj.star JD) (h6.by Imp.sw) (by simp;omega) fun v' w7 h7=>?_;have JK:=h7.drop.obj;unfold oqO at JK;rw[heb] at JK;have JZ:=ht.kp h7.kp;have hR:=JZ.op o JE;simp[zA JK,hR.effs.len];refine zF (n:=o.effs.length) (by omega) (fun j ρ w'=>ρ 1=.pointer (some ⟨b,0,none⟩)/\ρ 12=t.ov.1/\ρ 13=.int .i64 (t.ops.length:Nat)/\ρ 14=.int .i64 (k:Nat)/\ρ 24=o.ev.1/\At w [] (zC (zM (ρ 3) 23 1 sv1 ((t.gv,t.goal)::pre++[(o.pv,o.pre)]++(o.effs.take j).map fun e=>(e.wv,e.cnd))) (zC (zL b (tkO t)) Emp)) w') (by simp) (by simp)
  ⟨by simp[g1],by simp[g12],by simp[JV],by simp[hc],by simp,by simpa using h7.by (Imp.un Imp.dr)⟩ (by decide) (fun _ _ _ _ h=>by simpa using h) (fun _ _ _ _ h=>by simpa using h) ?_ ?_
 rotate_left
 ·rintro ρ w8 ⟨g1,g12,JQ,g14,JP,h8⟩;rw[List.take_length] at h8;simp[g1,g12,JQ,g14];have e:(t.gv,t.goal)::(pre++zBQ o)=(t.gv,t.goal)::pre++[(o.pv,o.pre)]++o.effs.map fun e=>(e.wv,e.cnd):=by simp[zBQ]
  rw[e];exact h8
 rintro j ρ w8 hj JX JW ⟨g1,g12,JQ,g14,JP,h8⟩;obtain⟨e,JN⟩:∃e,o.effs[j]? = some e:=⟨_,List.getElem?_eq_getElem hj⟩;have JY:=ht.kp h8.kp;have JO:=JY.op o JE;have ece:=JO.effs.cells zGu JN;simp only[efE] at ece;obtain⟨fb,JM⟩:∃fb,fb=w8.heap.size:=⟨_,rfl⟩;simp(disch:=omega)[JP,JX,JW,JO.effs.idx,ece,<-JM];refine zK4 (e:=e) (Lcl.own.star JD) h8 JM fun w9 h9=>?_;have JI:=h9.obj;unfold efO at JI;rw[JM] at JI;have wo:=JO.cnd e (List.mem_of_getElem? JN) |>.c1;have Jg:(o.effs.take j).length<=64:=by rw[List.length_take];omega
 simp[zA JI,zW,wo];refine zID (p:=(e.wv,e.cnd)) (Lcl.obj.star JD) (h9.by Imp.sw) (by simp;omega) fun v' Jf Je=>?_;simp[g1,g12,JQ,g14,JP,JX,JW];have e2:(t.gv,t.goal)::(pre++(o.pv,o.pre)::(o.effs.take (j+1)).map fun e=>(e.wv,e.cnd))=(t.gv,t.goal)::pre++[(o.pv,o.pre)]++((o.effs.take j).map fun e=>(e.wv,e.cnd))++[(e.wv,e.cnd)]:=by rw[List.take_add_one,JN];simp
 rw[<-List.map_take,e2];exact Je.by (Imp.un Imp.dr)
end
section
open Go Go.W Go.Tk
theorem zHM{w:World}(fv:Value)(l:List Fa)(hf:Vw w fv faE l) :
  Calls Tryz.prog 164 [fv].toArray w fun e w'=>∃x,e=.returned x/\x=.bool (decide (64<l.length))/\Kp [] w w':=by
 refine enter Tryz.func164 mixed low164 (Nat.le_of_ble_eq_true rfl) ?_;simp only[L164];simp[hf.len];refine⟨by omega,Kp.refl _ _⟩
def smB(ps:List (zP×List Fa)):Bool:=ps.all fun p=>decide (p.2.length<=64)
def SmK(ps:List (zP×List Fa))(k:Nat):Prop:=∀j p,j<k->ps[j]? = some p->p.2.length<=64
theorem zIu{w:World}(v:Value)(ps:List (zP×List Fa))(hv:Vw w v sv1 ps)(hp:∀p∈ps,Vw w p.1.1 faE p.2)(hl:ps.length<=9223372036854775807) :
  Calls Tryz.prog 217 [v,.func (.func 164) #[] #[]].toArray w fun e w'=>∃x,e=.returned x/\(∃i:Int,x=.int .i64 i/\decide (0<=i)=!(smB ps))/\Kp [] w w':=by
 refine enter Tryz.func217 mixed low217 (Nat.le_of_ble_eq_true rfl) ?_;simp only[L217];simp[hv.len];refine zF (n:=ps.length) (by omega) (fun k ρ w'=>ρ 0=v/\ρ 1=.func (.func 164) #[] #[]/\SmK ps k/\Kp [] w w') (by simp) (by simp)
  ⟨by simp,by simp,fun j p hj=>by omega,Kp.refl _ _⟩ (by decide) (fun _ _ _ _ h=>by simpa using h) (fun _ _ _ _ h=>by simpa using h) ?_ ?_
 rotate_left
 ·rintro ρ w4 ⟨g0,g1,hall,k4⟩;have:smB ps=true:=by unfold smB;rw[List.all_eq_true];intro p hp;obtain⟨j,hj,rfl⟩:=List.getElem_of_mem hp;exact decide_eq_true (hall j _ hj (List.getElem?_eq_getElem hj))
  simp[this];exact k4
 rintro k ρ w4 hk hc JB ⟨g0,g1,hall,k4⟩;obtain⟨p,JA⟩:∃p,ps[k]? = some p:=⟨_,List.getElem?_eq_getElem hk⟩;have JC:=hv.kp0 k4;have JD:=List.mem_of_getElem? JA;have ei:w4.cell? (v.adr.add k)=some p.1.1:=by simpa using JC.at_ zT JA (o:=0) (u:=p.1.1) rfl
 simp(disch:=omega)[g0,g1,hc,JB,JC.idx,ei];refine zG (zHM p.1.1 p.2 ((hp p JD).kp0 k4)) ?_;rintro _ w5 ⟨rfl,k5⟩;by_cases t:64<p.2.length
 ·have e:smB ps=false:=zAH JD (by simp;omega);simp[t,g0,g1,hc,JB,e];exact k4.trans0 k5
 ·simp[t,g0,g1,hc,JB];refine⟨fun j q hj hq=>?_,k4.trans0 k5⟩;rcases(show j<k\/j=k by omega) with h|h
  ·exact hall j q h hq
  ·subst h;rw[JA] at hq;cases hq;omega
theorem zFo{w:World}(v:Value)(ps:List (zP×List Fa))(hv:Vw w v sv1 ps)(hp:∀p∈ps,Vw w p.1.1 faE p.2)(hl:ps.length<=9223372036854775807) :
  Calls Tryz.prog 163 [v,.func (.func 164) #[] #[]].toArray w fun e w'=>∃x,e=.returned x/\x=.bool (!(smB ps))/\Kp [] w w':=by
 refine enter Tryz.func163 mixed low163 (Nat.le_of_ble_eq_true rfl) ?_;simp only[L163];simp;refine zG (zIu v ps hv hp hl) ?_;rintro _ w5 ⟨⟨i,rfl,hi⟩,k5⟩;simp[hi];exact k5
theorem zKa{w:World}{t:Tk}(h:TkR w t):∀p∈zAX t,Vw w p.1.1 faE p.2:=by
 intro p hp;unfold zAX at hp;rcases List.mem_cons.1 hp with rfl|hp
 ·exact h.goal
 ·obtain⟨o,ho,hp⟩:=List.mem_flatMap.1 hp;have hR:=h.op o ho;unfold zBQ at hp;rcases List.mem_cons.1 hp with rfl|hp
  ·exact hR.pre
  ·obtain⟨e,he,rfl⟩:=List.mem_map.1 hp;exact hR.cnd e he
theorem zIU{w:World}(t:Tk)(ht:TkR w t)(hl:TkL t) :
  Calls Tryz.prog 109 [tkV t].toArray w fun e w'=>∃x,e=.returned x/\x=.bool (zAr t)/\Kp [] w w':=by
 refine enter Tryz.func109 mixed low109 (Nat.le_of_ble_eq_true rfl) ?_;simp only[L109];have h0:At w [] Emp w:=At.start rfl;have h1:At w [] (zC (zL w.heap.size (tkO t)) Emp) _:=h0.alloc (tkO t) Lcl.emp;obtain⟨b,hb⟩:∃b,b=w.heap.size:=⟨_,rfl⟩;rw[<-hb] at h1;have JP:Lcl (zC (zL b (tkO t)) Emp):=.star .obj .emp;obtain⟨w1,JM⟩:∃w1,w1=w.alloc (tkO t):=⟨_,rfl⟩;rw[<-JM] at h1;have JB:w.alloc (.cells #[t.vv.1,t.nv.1,t.gv.1,t.ov.1] 26 (0,0))=w1:=by rw[JM];rfl
 have JF:=h1.obj;unfold tkO at JF;have JC:=ht.kp h1.kp;have k1:=h1.kp;by_cases t1:64<t.vars.length
 ·have t1':(64:Int)<(t.vars.length:Nat):=by omega
  have e:zAr t=true:=by
   have:decide (t.vars.length<=64)=false:=by simp;omega
   simp[zAr,this]
  simp[tkV,<-hb,JB,zA JF,JC.vars.len,t1,t1',e];exact k1
 have t1':¬(64:Int)<(t.vars.length:Nat):=by omega
 by_cases t2:4096<t.ops.length
 ·have t2':(4096:Int)<(t.ops.length:Nat):=by omega
  have e:zAr t=true:=by
   have:decide (t.ops.length<=4096)=false:=by simp;omega
   simp[zAr,this]
  simp[tkV,<-hb,JB,zA JF,JC.vars.len,JC.ops.len,t1,t1',t2,t2',e];exact k1
 have t2':¬(4096:Int)<(t.ops.length:Nat):=by omega
 simp[tkV,<-hb,JB,zA JF,JC.vars.len,JC.ops.len,t1,t1',t2,t2'];refine zF (n:=t.ops.length) (by omega) (fun k ρ w'=>ρ 1=.pointer (some ⟨b,0,none⟩)/\ρ 16=t.ov.1/\(∀j o,j<k->t.ops[j]? = some o->o.effs.length<=64)/\At w [] (zC (zL b (tkO t)) Emp) w'/\Kp [] w1 w') (by simp) (by simp)
  ⟨by simp,by simp,by omega,h1,Kp.refl _ _⟩ (by decide) (fun _ _ _ _ h=>by simpa using h) (fun _ _ _ _ h=>by simpa using h) ?_ ?_
 ·rintro k ρ w5 hk hc JO ⟨g1,JL,JA,h5,k5⟩;obtain⟨o,JI⟩:∃o,t.ops[k]? = some o:=⟨_,List.getElem?_eq_getElem hk⟩;have JH:=List.mem_of_getElem? JI;have JE:=JC.kp k5;have ec:=JE.ops.cells zCE JI;simp only[oqE] at ec;obtain⟨eb,heb⟩:∃eb,eb=w5.heap.size:=⟨_,rfl⟩;simp(disch:=omega)[JL,hc,JO,JE.ops.idx,ec,<-heb];refine zHQ (o:=o) .emp (At.start rfl:At w5 [] Emp w5) heb fun w6 h6=>?_;have h7:=h5.kp0 JP h6.kp;have JG:=h6.obj;unfold oqO at JG;rw[heb] at JG;have JN:=JE.kp h6.kp;by_cases s1:64<o.effs.length
  ·have s1':(64:Int)<(o.effs.length:Nat):=by omega
   have e:zAr t=true:=by have:(t.ops.all fun o=>decide (o.effs.length<=64))=false:=zAH JH (by simp;omega);simp[zAr,this]
   simp[zA JG,(JN.op o JH).effs.len,s1,s1',e];exact h7.kp
  have s1':¬(64:Int)<(o.effs.length:Nat):=by omega
  simp[zA JG,(JN.op o JH).effs.len,s1,s1',g1,JL,hc,JO];refine⟨fun j o' hj JK=>?_,h7,k5.trans0 h6.kp⟩;rcases(show j<k\/j=k by omega) with h|h
  ·exact JA j o' h JK
  ·subst h;rw[JI] at JK;cases JK;omega
 rintro ρ w5 ⟨g1,JL,JA,h5,k5⟩;have JD:∀o∈t.ops,o.effs.length<=64:=fun o ho=>by obtain⟨j,hj,rfl⟩:=List.getElem_of_mem ho;exact JA j _ hj (List.getElem?_eq_getElem hj)
 have JE:=JC.kp k5;simp[g1,zEk h5.obj];refine zG (zEY t JE (by omega) JD) ?_;rintro u w6 hu;have h6:=h5.kp0 JP hu.kp;have JQ:(zAX t).length<=1000000:=by have:=zFI JD;simp only[zAX,List.length_cons];omega
 simp;refine zG (zFo u (zAX t) hu.own.vw (zKa (JE.kp hu.kp)) (by omega)) ?_;rintro _ w7 ⟨rfl,k7⟩;have e:(!(smB (zAX t)))=zAr t:=by
  have e1:(t.ops.all fun o=>decide (o.effs.length<=64))=true:=by rw[List.all_eq_true];exact fun o ho=>decide_eq_true (JD o ho)
  have e2:decide (t.vars.length<=64)=true:=by simp;omega
  have e3:decide (t.ops.length<=4096)=true:=by simp;omega
  simp only[zAr,e1,e2,e3,Bool.true_and,smB]
 simp[e];exact h6.kp.trans0 k7
end
section
open Go Go.W Go.Tk
def zOt(c:Int):Value:=.iface 101 (.int .i64 c)
def zLg(c:Option Int):Value:=match c with|none=>.nilIface|some c=>zOt c
def zJC(o:Oq):Bool:=decide (0<=o.cost)&&decide (o.cost<=1048576)
def zNz(vars:List Int)(o:Oq):Bool:=o.effs.all fun e=>inR vars (e.v,e.x)
theorem zWO(t:Tk):zLw t=if zAr t=true then some 5 else if(t.vars.all varB)=false then some 1 else if(t.ops.all zJC)=false then some 1 else if zAC t.vars t.init=false then some 2
  else if((zAX t).all fun p=>zAQ t.vars p.2)=false then some 2 else if(t.ops.all (zNz t.vars))=false then some 2 else if(t.ops.all fun o=>zCG o.name)=false then some 8 else none:=rfl
theorem zSh{α:Type}{l:List α}{p:α->Bool}(h:∀j x,j<l.length->l[j]? = some x->p x=true):l.all p=true:=by
 rw[List.all_eq_true];intro x hx;obtain⟨j,hj,rfl⟩:=List.getElem_of_mem hx;exact h j _ hj (List.getElem?_eq_getElem hj)
def zHC{α:Type}(l:List α)(p:α->Bool)(k:Nat):Prop:=∀j x,j<k->l[j]? = some x->p x=true
theorem zHC.zero{α:Type}(l:List α)(p:α->Bool):zHC l p 0:=fun j x h=>by omega
theorem zHC.succ{α:Type}{l:List α}{p:α->Bool}{k:Nat}{x:α}(h:zHC l p k)(hx:l[k]? = some x)(hp:p x=true):zHC l p (k+1):=fun j y hj hy=>by
 rcases(show j<k\/j=k by omega) with h1|h1
 ·exact h j y h1 hy
 ·subst h1;rw[hx] at hy;cases hy;exact hp
theorem zHC.all{α:Type}{l:List α}{p:α->Bool}(h:zHC l p l.length):l.all p=true:=zSh fun j x hj hx=>h j x hj hx
theorem zEZ{w:World}(t:Tk)(ht:TkR w t)(hl:TkL t) :
  Calls Tryz.prog 47 [tkV t].toArray w fun e w'=>∃x,e=.returned x/\x=zLg (zLw t)/\Kp [] w w':=by
 refine enter Tryz.func47 mixed low47 (Nat.le_of_ble_eq_true rfl) ?_;simp only[L47];have h0:At w [] Emp w:=At.start rfl;have h1:At w [] (zC (zL w.heap.size (tkO t)) Emp) _:=h0.alloc (tkO t) Lcl.emp;obtain⟨b,hb⟩:∃b,b=w.heap.size:=⟨_,rfl⟩;rw[<-hb] at h1;have JG:Lcl (zC (zL b (tkO t)) Emp):=.star .obj .emp;obtain⟨w1,JM⟩:∃w1,w1=w.alloc (tkO t):=⟨_,rfl⟩;rw[<-JM] at h1;have JL:w.alloc (.cells #[t.vv.1,t.nv.1,t.gv.1,t.ov.1] 26 (0,0))=w1:=by rw[JM];rfl
 have rdb:∀{w'},At w [] (zC (zL b (tkO t)) Emp) w'->w'.heap[b]? = some (.cells #[t.vv.1,t.nv.1,t.gv.1,t.ov.1] 26 (0,0)):=fun h=>by have:=h.obj;unfold tkO at this;exact this
 have hC:=zWO t;refine za (fun ρ w'=>ρ 1=.pointer (some ⟨b,0,none⟩)/\At w [] (zC (zL b (tkO t)) Emp) w') ?_ ?_
 ·simp[tkV,<-hb,JL];exact h1
 clear h0 h1 JM JL
 -- large
 rintro ρ w2 ⟨g1,h2⟩;refine za (fun ρ w'=>(ρ 1=.pointer (some ⟨b,0,none⟩)/\At w [] (zC (zL b (tkO t)) Emp) w')/\zAr t=false) ?_ ?_
 ·simp[g1,zEk h2.obj];refine zG (zIU t (ht.kp h2.kp) hl) ?_;rintro _ w3 ⟨rfl,k3⟩;have h3:=h2.kp0 JG k3;cases s:zAr t with
  |true =>rw[if_pos s] at hC;simp[hC,zLg,zOt];exact h3.kp
  |false =>simp[g1];exact h3
 clear g1 h2;rintro ρ w2 ⟨⟨g1,h2⟩,e1⟩;rw[if_neg (by rw[e1];simp)] at hC;have JS:t.vars.length<=64/\t.ops.length<=4096/\∀o∈t.ops,o.effs.length<=64:=by unfold zAr at e1;simp only[Bool.not_eq_false',Bool.and_eq_true,decide_eq_true_eq,List.all_eq_true] at e1;exact⟨e1.1.1.1,e1.1.1.2,e1.1.2⟩
 obtain⟨lv,lo,le⟩:=JS
 -- variables
 refine za (fun ρ w'=>(ρ 1=.pointer (some ⟨b,0,none⟩)/\At w [] (zC (zL b (tkO t)) Emp) w')/\t.vars.all varB=true) ?_ ?_
 ·have JA:=ht.kp h2.kp;simp[g1,zA (rdb h2),JA.vars.len];refine zF (n:=t.vars.length) (by omega) (fun k ρ w'=>ρ 1=.pointer (some ⟨b,0,none⟩)/\ρ 19=t.vv.1/\zHC t.vars varB k/\w'=w2) (by simp) (by simp)
   ⟨by simp[g1],by simp,zHC.zero _ _,rfl⟩ (by decide) (fun _ _ _ _ h=>by simpa using h) (fun _ _ _ _ h=>by simpa using h) ?_ ?_
  ·rintro k ρ w4 hk hc JB ⟨g1,JK,hall,rfl⟩;obtain⟨x,hx⟩:∃x,t.vars[k]? = some x:=⟨_,List.getElem?_eq_getElem hk⟩;have bad:varB x=false->zLw t=some 1:=fun h=>by rw[hC,if_pos (zAH (List.mem_of_getElem? hx) h)]
   by_cases s1:x<1
   ·have e:=bad (by simp[varB];omega);simp(disch:=omega)[g1,JK,hc,JB,JA.vars.idx,ze JA.vars hx,s1,e,zLg,zOt];exact h2.kp
   by_cases s2:64<x
   ·have e:=bad (by simp[varB];omega);simp(disch:=omega)[g1,JK,hc,JB,JA.vars.idx,ze JA.vars hx,s1,s2,e,zLg,zOt];exact h2.kp
   simp(disch:=omega)[g1,JK,hc,JB,JA.vars.idx,ze JA.vars hx,s1,s2];exact hall.succ hx (by simp[varB];omega)
  rintro ρ w4 ⟨g1,JK,hall,rfl⟩;simp only[zDD];exact⟨⟨g1,h2⟩,by simpa using hall.all⟩
 clear g1 h2;rintro ρ w2 ⟨⟨g1,h2⟩,e2⟩;rw[if_neg (by rw[e2];simp)] at hC
 -- costs
 refine za (fun ρ w'=>(ρ 1=.pointer (some ⟨b,0,none⟩)/\At w [] (zC (zL b (tkO t)) Emp) w')/\t.ops.all zJC=true) ?_ ?_
 ·have JA:=ht.kp h2.kp;simp[g1,zA (rdb h2),JA.ops.len];refine zF (n:=t.ops.length) (by omega) (fun k ρ w'=>ρ 1=.pointer (some ⟨b,0,none⟩)/\ρ 34=t.ov.1/\zHC t.ops zJC k/\At w [] (zC (zL b (tkO t)) Emp) w') (by simp) (by simp)
   ⟨by simp[g1],by simp,zHC.zero _ _,h2⟩ (by decide) (fun _ _ _ _ h=>by simpa using h) (fun _ _ _ _ h=>by simpa using h) ?_ ?_
  ·rintro k ρ w5 hk hc JB ⟨g1,JH,hall,h5⟩;obtain⟨o,JE⟩:∃o,t.ops[k]? = some o:=⟨_,List.getElem?_eq_getElem hk⟩;have JI:=List.mem_of_getElem? JE;have JD:=ht.kp h5.kp;have ec:=JD.ops.cells zCE JE;simp only[oqE] at ec;obtain⟨eb,heb⟩:∃eb,eb=w5.heap.size:=⟨_,rfl⟩;have bad:zJC o=false->zLw t=some 1:=fun h=>by rw[hC,if_pos (zAH JI h)]
   simp(disch:=omega)[JH,hc,JB,JD.ops.idx,ec,<-heb];refine zHQ (o:=o) .emp (At.start rfl:At w5 [] Emp w5) heb fun w6 h6=>?_;have h7:=h5.kp0 JG h6.kp;have JC:=h6.obj;unfold oqO at JC;rw[heb] at JC;by_cases s1:o.cost<0
   ·have e:=bad (by simp[zJC];omega);simp[zA JC,s1,e,zLg,zOt];exact h7.kp
   by_cases s2:1048576<o.cost
   ·have e:=bad (by simp[zJC];omega);simp[zA JC,s1,s2,e,zLg,zOt];exact h7.kp
   simp[zA JC,s1,s2,g1,JH,hc,JB];exact⟨hall.succ JE (by simp[zJC];omega),h7⟩
  rintro ρ w4 ⟨g1,JK,hall,h4⟩;simp only[zDD];exact⟨⟨g1,h4⟩,by simpa using hall.all⟩
 clear g1 h2;rintro ρ w2 ⟨⟨g1,h2⟩,e3⟩;rw[if_neg (by rw[e3];simp)] at hC
 -- initial state
 refine za (fun ρ w'=>(ρ 1=.pointer (some ⟨b,0,none⟩)/\At w [] (zC (zL b (tkO t)) Emp) w')/\zAC t.vars t.init=true) ?_ ?_
 ·have JA:=ht.kp h2.kp;simp[g1,zA (rdb h2)];refine zG (zBT t.vv.1 t.nv.1 t.vars t.init JA.vars JA.init hl.init) ?_;rintro _ w3 ⟨rfl,k3⟩;have h3:=h2.kp0 JG k3;cases s:zAC t.vars t.init with
  |false =>rw[if_pos s] at hC;simp[hC,zLg,zOt];exact h3.kp
  |true =>simp[g1];exact h3
 clear g1 h2;rintro ρ w2 ⟨⟨g1,h2⟩,e4⟩;rw[if_neg (by rw[e4];simp)] at hC
 -- conditions
 refine za (fun ρ w'=>(ρ 1=.pointer (some ⟨b,0,none⟩)/\At w [] (zC (zL b (tkO t)) Emp) w')/\((zAX t).all fun p=>zAQ t.vars p.2)=true) ?_ ?_
 ·have JA:=ht.kp h2.kp;simp[g1,zEk h2.obj];refine zG (zEY t JA lo le) ?_;rintro u w3 hu;have h3:=h2.kp0 JG hu.kp;have Jl:(zAX t).length<=1000000:=by have:=zFI le;simp only[zAX,List.length_cons];omega
  have Jg:=zKa (JA.kp hu.kp);simp[hu.own.vw.len];refine zF (n:=(zAX t).length) (by omega) (fun k ρ w'=>ρ 1=.pointer (some ⟨b,0,none⟩)/\ρ 58=u/\zHC (zAX t) (fun p=>zAQ t.vars p.2) k/\At w [] (zC (zL b (tkO t)) Emp) w'/\Kp [] w3 w') (by simp) (by simp)
   ⟨by simp[g1],by simp,zHC.zero _ _,h3,Kp.refl _ _⟩ (by decide) (fun _ _ _ _ h=>by simpa using h) (fun _ _ _ _ h=>by simpa using h) ?_ ?_
  ·rintro k ρ w5 hk hc JB ⟨g1,JH,hall,h5,k5⟩;obtain⟨p,JO⟩:∃p,(zAX t)[k]? = some p:=⟨_,List.getElem?_eq_getElem hk⟩;have JN:=List.mem_of_getElem? JO;have JZ:=hu.own.vw.kp0 k5;have JD:=ht.kp h5.kp;have ei:w5.cell? (u.adr.add k)=some p.1.1:=by simpa using JZ.at_ zT JO (o:=0) (u:=p.1.1) rfl
   have Jh:p.2.length<=64:=by unfold zAr at e1;simp only[Bool.not_eq_false',Bool.and_eq_true,decide_eq_true_eq,List.all_eq_true] at e1;exact e1.2 p JN
   simp(disch:=omega)[g1,JH,hc,JB,JZ.idx,ei,zA (rdb h5)];refine zG (zBL t.vv.1 p.1.1 t.vars p.2 JD.vars ((Jg p JN).kp0 k5) (by omega)) ?_;rintro _ w6 ⟨rfl,k6⟩;have h6:=h5.kp0 JG k6;cases s:zAQ t.vars p.2 with
   |false =>
    have e:zLw t=some 2:=by rw[hC,if_pos (zAH JN s)]
    simp[e,zLg,zOt];exact h6.kp
   |true =>simp[g1,JH,hc,JB];exact⟨hall.succ JO s,h6,k5.trans0 k6⟩
  rintro ρ w4 ⟨g1,JK,hall,h4,_⟩;simp only[zDD];exact⟨⟨g1,h4⟩,by simpa using hall.all⟩
 clear g1 h2;rintro ρ w2 ⟨⟨g1,h2⟩,e5⟩;rw[if_neg (by rw[e5];simp)] at hC
 -- effects
 refine za (fun ρ w'=>(ρ 1=.pointer (some ⟨b,0,none⟩)/\At w [] (zC (zL b (tkO t)) Emp) w')/\t.ops.all (zNz t.vars)=true) ?_ ?_
 ·have JA:=ht.kp h2.kp;simp[g1,zA (rdb h2),JA.ops.len];refine zF (n:=t.ops.length) (by omega) (fun k ρ w'=>ρ 1=.pointer (some ⟨b,0,none⟩)/\ρ 72=t.ov.1/\zHC t.ops (zNz t.vars) k/\At w [] (zC (zL b (tkO t)) Emp) w') (by simp) (by simp)
   ⟨by simp[g1],by simp,zHC.zero _ _,h2⟩ (by decide) (fun _ _ _ _ h=>by simpa using h) (fun _ _ _ _ h=>by simpa using h) ?_ ?_
  ·rintro k ρ w5 hk hc JB ⟨g1,JH,hall,h5⟩;obtain⟨o,JE⟩:∃o,t.ops[k]? = some o:=⟨_,List.getElem?_eq_getElem hk⟩;have JI:=List.mem_of_getElem? JE;have JD:=ht.kp h5.kp;have ec:=JD.ops.cells zCE JE;simp only[oqE] at ec;obtain⟨eb,heb⟩:∃eb,eb=w5.heap.size:=⟨_,rfl⟩;have bad:zNz t.vars o=false->zLw t=some 2:=fun h=>by rw[hC,if_pos (zAH JI h)]
   simp(disch:=omega)[JH,hc,JB,JD.ops.idx,ec,<-heb];refine zHQ (o:=o) .emp (At.start rfl:At w5 [] Emp w5) heb fun w6 h6=>?_;have h7:=h5.kp0 JG h6.kp;have JC:=h6.obj;unfold oqO at JC;rw[heb] at JC;have hR:=(JD.kp h6.kp).op o JI;have Jk:=le o JI;simp[zA JC,hR.effs.len];refine zF (n:=o.effs.length) (by omega) (fun j ρ w'=>ρ 1=.pointer (some ⟨b,0,none⟩)/\ρ 72=t.ov.1/\ρ 73=.int .i64 (t.ops.length:Nat)/\ρ 74=.int .i64 (k:Nat)/\ρ 79=o.ev.1/\zHC o.effs (fun e=>inR t.vars (e.v,e.x)) j/\At w [] (zC (zL b (tkO t)) Emp) w'/\Kp [] w6 w') (by simp) (by simp)
    ⟨by simp[g1],by simp[JH],by simp[JB],by simp[hc],by simp,zHC.zero _ _,h7,Kp.refl _ _⟩ (by decide) (fun _ _ _ _ h=>by simpa using h) (fun _ _ _ _ h=>by simpa using h) ?_ ?_
   rotate_left
   ·rintro ρ w8 ⟨g1,JX,JW,JV,JU,JF,h8,_⟩;simp[g1,JX,JW,JV];exact⟨hall.succ JE JF.all,h8⟩
   rintro j ρ w8 hj Jb Ja ⟨g1,JX,JW,JV,JU,JF,h8,k8⟩;obtain⟨e,JR⟩:∃e,o.effs[j]? = some e:=⟨_,List.getElem?_eq_getElem hj⟩;have Ji:=List.mem_of_getElem? JR;have Jc:=hR.kp k8;have ece:=Jc.effs.cells zGu JR;simp only[efE] at ece;obtain⟨fb,JQ⟩:∃fb,fb=w8.heap.size:=⟨_,rfl⟩;simp(disch:=omega)[JU,Jb,Ja,Jc.effs.idx,ece,<-JQ];refine zK4 (e:=e) .emp (At.start rfl:At w8 [] Emp w8) JQ fun w9 h9=>?_;have Jf:=h8.kp0 JG h9.kp;have JP:=h9.obj;unfold efO at JP;rw[JQ] at JP;simp[g1,zA JP,zA (rdb Jf),zW];have JT:=(At.start rfl:At w9 [] Emp w9).lit (xs:=[((e.v,e.x):Fa)]) (enc:=faE) (E:=100) (sz:=2) (cs:=#[.int .i64 e.v,.int .i64 e.x]) (m:=1) .emp (by simp[faE]) zDo (by simp[maxLen]) rfl;have Je:=Jf.kp0 JG JT.kp;refine zG (zBL t.vv.1 _ t.vars [((e.v,e.x):Fa)] (ht.kp Je.kp).vars JT.own.vw (by simp)) ?_;rintro _ Jj ⟨rfl,JY⟩;rw[zHh];have Jd:=Je.kp0 JG JY;cases s:inR t.vars (e.v,e.x) with
   |false =>have e:=bad (by unfold zNz;exact zAH Ji s);simp[e,zLg,zOt];exact Jd.kp
   |true =>simp[g1,JX,JW,JV,JU,Jb,Ja];exact⟨JF.succ JR s,Jd,((k8.trans0 h9.kp).trans0 JT.kp).trans0 JY⟩
  rintro ρ w4 ⟨g1,JK,hall,h4⟩;simp only[zDD];exact⟨⟨g1,h4⟩,by simpa using hall.all⟩
 clear g1 h2;rintro ρ w2 ⟨⟨g1,h2⟩,e6⟩;rw[if_neg (by rw[e6];simp)] at hC
 -- names
 have JA:=ht.kp h2.kp;simp[g1,zA (rdb h2),JA.ops.len];refine zF (n:=t.ops.length) (by omega) (fun k ρ w'=>ρ 1=.pointer (some ⟨b,0,none⟩)/\ρ 99=t.ov.1/\zHC t.ops (fun o=>zCG o.name) k/\At w [] (zC (zL b (tkO t)) Emp) w') (by simp) (by simp)
  ⟨by simp[g1],by simp,zHC.zero _ _,h2⟩ (by decide) (fun _ _ _ _ h=>by simpa using h) (fun _ _ _ _ h=>by simpa using h) ?_ ?_
 ·rintro k ρ w5 hk hc JB ⟨g1,JH,hall,h5⟩;obtain⟨o,JE⟩:∃o,t.ops[k]? = some o:=⟨_,List.getElem?_eq_getElem hk⟩;have JI:=List.mem_of_getElem? JE;have JD:=ht.kp h5.kp;have ec:=JD.ops.cells zCE JE;simp only[oqE] at ec;obtain⟨eb,heb⟩:∃eb,eb=w5.heap.size:=⟨_,rfl⟩;simp(disch:=omega)[JH,hc,JB,JD.ops.idx,ec,<-heb];refine zHQ (o:=o) .emp (At.start rfl:At w5 [] Emp w5) heb fun w6 h6=>?_;have h7:=h5.kp0 JG h6.kp;have JC:=h6.obj;unfold oqO at JC;rw[heb] at JC;obtain⟨l1,_,_,_⟩:=hl.op o JI;simp[zA JC];refine zG (zIT o.name l1) ?_;rintro _ w8 ⟨rfl,k8⟩;have h8:=h7.kp0 JG k8;cases s:zCG o.name with
  |false =>
   have e:zLw t=some 8:=by rw[hC,if_pos (zAH JI s)]
   simp[e,zLg,zOt];exact h8.kp
  |true =>simp[g1,JH,hc,JB];exact⟨hall.succ JE s,h8⟩
 rintro ρ w4 ⟨g1,JK,hall,h4⟩;rw[if_neg (by rw[hall.all];simp)] at hC;simp[hC,zLg];exact h4.kp
end
end Go.Proofs.YtolkjbmcindhjaaGreat
namespace Go.Tk
section
open Go Go.W
abbrev Fc:=Nat×Nat
structure Nf where
 wv:zP
 cnd:List Fc
 v:Nat
 x:Nat
structure No where
 name:ByteArray
 cost:Nat
 pv:zP
 pre:List Fc
 ev:zP
 effs:List Nf
structure Nt where
 vv:zP
 nv:zP
 gv:zP
 ov:zP
 vars:List Nat
 init:List Nat
 goal:List Fc
 ops:List No
def iN(n:Nat):Int:=(n:Int)
def faN(f:Fc):Fa:=((f.1:Int),(f.2:Int))
def Nf.raw(e:Nf):Ef:=⟨e.wv,e.cnd.map faN,e.v,e.x⟩
def No.raw(o:No):Oq:=⟨o.name,o.cost,o.pv,o.pre.map faN,o.ev,o.effs.map Nf.raw⟩
def Nt.raw(t:Nt):Tk:=⟨t.vv,t.nv,t.gv,t.ov,t.vars.map iN,t.init.map iN,t.goal.map faN,t.ops.map No.raw⟩
def nE(n:Nat):List Value:=[.int .i64 (n:Nat)]
theorem zi(i:Nat):(nE i).length=1:=rfl
theorem zA5(i:Nat):(nE i).all zAn=true:=rfl
def fcE(f:Fc):List Value:=[.int .i64 (f.1:Nat),.int .i64 (f.2:Nat)]
theorem zC1(f:Fc):(fcE f).length=2:=rfl
theorem zNr(f:Fc):(fcE f).all zAn=true:=rfl
def nfE(e:Nf):List Value:=[e.wv.1,.int .i64 (e.v:Nat),.int .i64 (e.x:Nat)]
theorem zA7(e:Nf):(nfE e).length=3:=rfl
theorem zM3(e:Nf):(nfE e).all zAn=true:=by simp[nfE,e.wv.2]
def noE(o:No):List Value:=[.string o.name,.int .i64 (o.cost:Nat),o.pv.1,o.ev.1]
theorem zBv(o:No):(noE o).length=4:=rfl
theorem zSm(o:No):(noE o).all zAn=true:=by simp[noE,o.pv.2,o.ev.2]
theorem Vw.mapped{α β:Type}{encα:α->List Value}{encβ:β->List Value}{f:β->α}{w:World}{v:Value}{l:List β}(he:∀b,encα (f b)=encβ b):Vw w v encα (l.map f)<->Vw w v encβ l:=by
 have e:(l.map f).flatMap encα=l.flatMap encβ:=by
  induction l with
  |nil=>rfl
  |cons b l ih=>simp only[List.map_cons,List.flatMap_cons,ih,he]
 unfold Vw;rw[e];simp
structure NoR(w:World)(o:No):Prop where
 pre:Vw w o.pv.1 fcE o.pre
 effs:Vw w o.ev.1 nfE o.effs
 cnd:∀e∈o.effs,Vw w e.wv.1 fcE e.cnd
structure NtR(w:World)(t:Nt):Prop where
 vars:Vw w t.vv.1 nE t.vars
 init:Vw w t.nv.1 nE t.init
 goal:Vw w t.gv.1 fcE t.goal
 ops:Vw w t.ov.1 noE t.ops
 op:∀o∈t.ops,NoR w o
theorem NoR.kp{w w':World}{o:No}(h:NoR w o)(k:Kp [] w w'):NoR w' o:=⟨h.pre.kp0 k,h.effs.kp0 k,fun e he=>(h.cnd e he).kp0 k⟩
theorem NtR.kp{w w':World}{t:Nt}(h:NtR w t)(k:Kp [] w w'):NtR w' t:=⟨h.vars.kp0 k,h.init.kp0 k,h.goal.kp0 k,h.ops.kp0 k,fun o ho=>(h.op o ho).kp k⟩
theorem zGM{w:World}{v:Value}{l:List Fc}:Vw w v faE (l.map faN)<->Vw w v fcE l:=Vw.mapped fun b=>rfl
theorem zKu{w:World}{v:Value}{l:List Nat}:Vw w v iE (l.map iN)<->Vw w v nE l:=Vw.mapped fun b=>rfl
theorem NoR.raw{w:World}{o:No}:OqR w o.raw<->NoR w o:=by
 constructor
 ·rintro⟨h1,h2,h3⟩;exact⟨zGM.1 h1,(Vw.mapped (f:=Nf.raw) fun b=>rfl).1 h2,fun e he=>zGM.1 (h3 e.raw (List.mem_map.2 ⟨e,he,rfl⟩))⟩
 ·rintro⟨h1,h2,h3⟩;refine⟨zGM.2 h1,(Vw.mapped (f:=Nf.raw) fun b=>rfl).2 h2,fun e he=>?_⟩;obtain⟨e',JA,rfl⟩:=List.mem_map.1 he;exact zGM.2 (h3 e' JA)
theorem NtR.raw{w:World}{t:Nt}:TkR w t.raw<->NtR w t:=by
 constructor
 ·rintro⟨h1,h2,h3,h4,h5⟩;exact⟨zKu.1 h1,zKu.1 h2,zGM.1 h3,(Vw.mapped (f:=No.raw) fun b=>rfl).1 h4,fun o ho=>NoR.raw.1 (h5 o.raw (List.mem_map.2 ⟨o,ho,rfl⟩))⟩
 ·rintro⟨h1,h2,h3,h4,h5⟩;refine⟨zKu.2 h1,zKu.2 h2,zGM.2 h3,(Vw.mapped (f:=No.raw) fun b=>rfl).2 h4,fun o ho=>?_⟩;obtain⟨o',JA,rfl⟩:=List.mem_map.1 ho;exact NoR.raw.2 (h5 o' JA)
structure zFt(vars:List Nat)(l:List Fc):Prop where
 rng:∀f∈l,f.1<vars.length/\f.2<vars.getD f.1 0
 asc:l.Pairwise fun a b=>a.1<b.1
structure NoG(vars:List Nat)(o:No):Prop where
 cost:o.cost<=1048576
 elen:o.effs.length<=64
 pre:zFt vars o.pre
 cnd:∀e∈o.effs,zFt vars e.cnd
 eff:∀e∈o.effs,e.v<vars.length/\e.x<vars.getD e.v 0
structure NtG(t:Nt):Prop where
 vlen:t.vars.length<=64
 olen:t.ops.length<=4096
 vars:∀n∈t.vars,1<=n/\n<=64
 ilen:t.init.length=t.vars.length
 init:∀i,i<t.init.length->t.init.getD i 0<t.vars.getD i 0
 goal:zFt t.vars t.goal
 ops:∀o∈t.ops,NoG t.vars o
theorem zJK:∀(l:List Nat) (N:Nat),l.Pairwise (·<·)->(∀x∈l,x<N)->l.length<=N
 |[],N,_,_=>by simp
 |[x],N,_,h=>by have:=h x (by simp);simp;omega
 |x::y::l,N,hp,h=>by
  have hx:=List.pairwise_cons.1 hp;have:=zJK ((y::l).map (·-1)) (N-1) ?_ ?_
  ·have hy:=h y (by simp);simp at this ⊢;omega
  ·rw[List.pairwise_map];refine List.Pairwise.imp_of_mem ?_ hx.2;intro a b ha hb JA;have:=hx.1 a ha;omega
  ·intro z hz;obtain⟨a,ha,rfl⟩:=List.mem_map.1 hz;have:=hx.1 a ha;have:=h a (by simp[ha]);omega
 termination_by l=>l.length
theorem zFt.len{vars:List Nat}{l:List Fc}(h:zFt vars l):l.length<=vars.length:=by
 have:=zJK (l.map (·.1)) vars.length (by rw[List.pairwise_map];exact h.asc) (fun x hx=>by obtain⟨f,hf,rfl⟩:=List.mem_map.1 hx;exact(h.rng f hf).1);simpa using this
theorem zPU{vars:List Int}{l:List Fa}(h:zAQ vars l=true):(∀f∈l,inR vars f=true)/\l.Pairwise fun a b=>a.1<b.1:=by
 have JA:∀i,i<l.length->inR vars (l.getD i (0,0))=true/\(0<i->(l.getD (i-1) (0,0)).1<(l.getD i (0,0)).1):=fun i hi=>by
  have:=zJM h hi;unfold zMo at this;simp only[Bool.and_eq_true,Bool.or_eq_true,decide_eq_true_eq] at this;refine⟨this.1,fun h0=>?_⟩;rcases this.2 with h2|h2
  ·omega
  ·exact h2
 have get:∀i (hi:i<l.length),l.getD i (0,0)=l[i]:=fun i hi=>by simp[List.getD,hi]
 refine⟨fun f hf=>?_,?_⟩
 ·obtain⟨i,hi,rfl⟩:=List.getElem_of_mem hf;have:=(JA i hi).1;rwa[get i hi] at this
 ·rw[List.pairwise_iff_getElem];intro i j hi hj JB;have key:∀d i,i+d+1<l.length->(l.getD i (0,0)).1<(l.getD (i+d+1) (0,0)).1:=by
   intro d
   induction d with
   |zero=>intro i hi;exact(JA (i+1) (by omega)).2 (by omega)
   |succ d ih =>
    intro i hi;have h1:=ih i (by omega);have h2:=(JA (i+(d+1)+1) (by omega)).2 (by omega);have e:i+(d+1)+1-1=i+d+1:=by omega
    rw[e] at h2;omega
  have:=key (j-i-1) i (by omega);rw[show i+(j-i-1)+1=j by omega,get i hi,get j hj] at this;exact this
theorem zH0{vars:List Int}{nvars:List Nat}(hv:vars=nvars.map iN){f:Fa}(h:inR vars f=true):faN (f.1.toNat,f.2.toNat)=f/\f.1.toNat<nvars.length/\f.2.toNat<nvars.getD f.1.toNat 0:=by
 unfold inR at h;simp only[Bool.and_eq_true,decide_eq_true_eq] at h;obtain⟨⟨⟨h1,h2⟩,h3⟩,h4⟩:=h;subst hv;have hl:f.1.toNat<nvars.length:=by simp at h2;omega
 have e:(nvars.map iN).getD f.1.toNat 0=(nvars.getD f.1.toNat 0:Int):=by simp[List.getD,hl,iN]
 rw[e] at h4;refine⟨?_,hl,by omega⟩;unfold faN;exact Prod.ext (by simp;omega) (by simp;omega)
theorem zDH{vars:List Int}{nvars:List Nat}(hv:vars=nvars.map iN){l:List Fa}(h:zAQ vars l=true):∃m:List Fc,m.map faN=l/\zFt nvars m:=by
 obtain⟨h1,h2⟩:=zPU h;refine⟨l.map fun f=>(f.1.toNat,f.2.toNat),?_,?_,?_⟩
 ·rw[List.map_map]
  conv=>rhs;rw[<-List.map_id l]
  exact List.map_congr_left fun f hf=>(zH0 hv (h1 f hf)).1
 ·intro g hg;obtain⟨f,hf,rfl⟩:=List.mem_map.1 hg;exact(zH0 hv (h1 f hf)).2
 ·rw[List.pairwise_map];refine List.Pairwise.imp_of_mem ?_ h2;intro a b ha hb JA;have ea:=congrArg Prod.fst (zH0 hv (h1 a ha)).1;have eb:=congrArg Prod.fst (zH0 hv (h1 b hb)).1;simp only[faN] at ea eb;show a.1.toNat<b.1.toNat;omega
theorem zDN{α β:Type}{f:β->α}{p:β->Prop}:∀{l:List α},(∀a∈l,∃b,f b=a/\p b)->∃m:List β,m.map f=l/\∀b∈m,p b
 |[],_=>⟨[],rfl,by simp⟩
 |a::l,h=>by
  obtain⟨b,hb,hp⟩:=h a (by simp);obtain⟨m,hm,JA⟩:=zDN (l:=l) fun a ha=>h a (by simp[ha]);refine⟨b::m,by simp[hb,hm],fun c hc=>?_⟩;rcases List.mem_cons.1 hc with rfl|hc
  ·exact hp
  ·exact JA c hc
theorem zP5{t:Tk}(h:zAp t=true):∃T:Nt,T.raw=t/\NtG T:=by
 unfold zAp at h;simp only[Bool.and_eq_true,decide_eq_true_eq] at h;obtain⟨⟨⟨⟨⟨h1,h2⟩,h3⟩,h4⟩,h5⟩,h6⟩:=h;rw[List.all_eq_true] at h3 h6;obtain⟨nv,JA,JF⟩:=zDN (f:=iN) (p:=fun n=>1<=n/\n<=64) (l:=t.vars) fun a ha=>by have:=h3 a ha;simp[varB] at this;exact⟨a.toNat,by unfold iN;omega,by omega,by omega⟩
 unfold zAC at h4;simp only[Bool.and_eq_true,decide_eq_true_eq] at h4;obtain⟨JT,JM⟩:=h4;have JB:∀i,i<t.init.length->0<=t.init.getD i 0/\t.init.getD i 0<t.vars.getD i 0:=fun i hi=>by have:=zJM JM hi;simpa[zOr] using this
 obtain⟨ni,JG,_⟩:=zDN (f:=iN) (p:=fun _=>True) (l:=t.init) fun a ha=>by obtain⟨i,hi,rfl⟩:=List.getElem_of_mem ha;have:=(JB i hi).1;simp[List.getD,hi] at this;exact⟨t.init[i].toNat,by unfold iN;omega,trivial⟩
 obtain⟨ng,JO,JH⟩:=zDH JA.symm h5;obtain⟨no,JK,JE⟩:=zDN (f:=No.raw) (p:=NoG nv) (l:=t.ops) fun o ho=>by
  have:=h6 o ho;unfold opB at this;simp only[Bool.and_eq_true,decide_eq_true_eq] at this;obtain⟨⟨⟨⟨⟨c1,c2⟩,c3⟩,c4⟩,c5⟩,c6⟩:=this;rw[List.all_eq_true] at c6;obtain⟨np,JN,JD⟩:=zDH JA.symm c5;obtain⟨ne,JL,JC⟩:=zDN (f:=Nf.raw) (p:=fun e=>zFt nv e.cnd/\e.v<nv.length/\e.x<nv.getD e.v 0) (l:=o.effs) fun e he=>by have:=c6 e he;unfold zLv at this;simp only[Bool.and_eq_true] at this;obtain⟨d1,d2⟩:=this;obtain⟨nc,JP,JI⟩:=zDH JA.symm d1;obtain⟨f1,f2,f3⟩:=zH0 JA.symm d2;refine⟨⟨e.wv,nc,e.v.toNat,e.x.toNat⟩,?_,JI,f2,f3⟩;have q1:=congrArg Prod.fst f1;have q2:=congrArg Prod.snd f1;simp only[faN] at q1 q2;unfold Nf.raw;simp only[JP];cases e;simp only at q1 q2;simp only[q1,q2]
  refine⟨⟨o.name,o.cost.toNat,o.pv,np,o.ev,ne⟩,?_,by simp;omega,?_,JD,fun e he=>(JC e he).1,fun e he=>(JC e he).2⟩
  ·unfold No.raw;simp only[JN,JL];have:((o.cost.toNat:Nat):Int)=o.cost:=by omega
   cases o;simp only at this;simp only[this]
  ·show ne.length<=64;have:=congrArg List.length JL;simp at this;omega
 have JQ:nv.length=t.vars.length:=by rw[<-JA];simp
 have JR:no.length=t.ops.length:=by rw[<-JK];simp
 have JS:ni.length=t.init.length:=by rw[<-JG];simp
 refine⟨⟨t.vv,t.nv,t.gv,t.ov,nv,ni,ng,no⟩,?_,by show nv.length<=64;omega,by show no.length<=4096;omega,JF,by show ni.length=nv.length;omega,fun i hi=>?_,JH,JE⟩
 ·unfold Nt.raw;simp only[JA,JG,JO,JK]
 ·have hi:i<ni.length:=hi;have:=(JB i (by omega)).2;rw[<-JA,<-JG] at this;have e1:(ni.map iN).getD i 0=(ni.getD i 0:Int):=by simp[List.getD,hi,iN]
  have e2:(nv.map iN).getD i 0=(nv.getD i 0:Int):=by simp[List.getD,show i<nv.length by omega,iN]
  rw[e1,e2] at this;show ni.getD i 0<nv.getD i 0;omega
end
end Go.Tk
namespace Go.Rx
section
def Inf:Nat:=1125899906842624
structure Un where
 op:Nat
 eff:Nat
 cost:Nat
 makes:Nat
 needs:List Nat
def gr(V:Nat->Nat):List Nat->Nat
 |[]=>0
 |x::l=>max (V x) (gr V l)
section
variable {V V':Nat->Nat} {l l':List Nat} {k m:Nat}
end
section
variable {U U':List Un} {S S':List Nat} {V V':Nat->Nat} {f k:Nat}
end
end
section
open Go.Tk Go.W Go
def psum(vars:List Nat)(v:Nat):Nat:=(vars.take v).sum
def numF(vars:List Nat)(f:Fc):Nat:=psum vars f.1+f.2
theorem zMG{vars:List Nat}{N:Nat}(h:∀n∈vars,n<=N):vars.sum<=vars.length*N:=by
 induction vars with
 |nil=>simp
 |cons x l ih =>have:=ih fun n hn=>h n (by simp[hn]);have:=h x (by simp);rw[List.sum_cons,List.length_cons,Nat.add_mul];omega
end
end Go.Rx
