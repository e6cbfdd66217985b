/-
  A part of the proof of this claim's statement (LibF, LibG, LibH): plain theorems; no conditions beyond those each names.
-/
import Derived.Test.YtcoeknnghfajnaaGreatPk05
import Derived.Laws.Rows
import Derived.DeepKeys4
set_option maxRecDepth 100000
set_option linter.unusedSimpArgs false
set_option linter.unusedVariables false
set_option linter.unusedSectionVars false
section
namespace Go.W
open Go
structure At (w:World) (F:List Nat) (A:Asr) (w1:World):Prop where
 ex:∃F',A w1 F'∧Sub w F F'
 kp:Kp F w w1
theorem At.start {w:World} {F:List Nat} {A:Asr} (h:A w F):At w F A w:=⟨⟨F,h,Sub.refl w F⟩,Kp.refl _ _⟩
section
variable {w w1 w2:World} {F:List Nat} {A A' B C D:Asr}
theorem At.imp (h:At w F A w1) (hi:∀F1,A w1 F1→∃F',A' w1 F'∧∀x ∈ F',x ∈ F1):At w F A' w1:=by
 obtain ⟨⟨F1,h1,hn⟩,k⟩:=h
 obtain ⟨F',h2,hs⟩:=hi F1 h1
 exact ⟨⟨F',h2,fun x hx=>hn x (hs x hx)⟩,k⟩
theorem At.swap (h:At w F (Star A B) w1):At w F (Star B A) w1:=h.imp fun F1 ⟨Fa,Fb,h1,h2,hd,e⟩=>⟨_,⟨Fb,Fa,h2,h1,fun x hx hxa=>hd x hxa hx,rfl⟩,fun x hx=>by
 rw [e]; simpa [or_comm] using hx⟩
theorem At.rot (h:At w F (Star A (Star B C)) w1):At w F (Star B (Star A C)) w1:=h.imp fun F1 ⟨Fa,Fx,h1,⟨Fb,Fc,h2,h3,hd,ex⟩,hd2,e⟩=>by
 subst ex e
 refine ⟨_,⟨Fb,_,h2,⟨Fa,Fc,h1,h3,fun x hx hc=>hd2 x hx (by simp [hc]),rfl⟩,fun x hx hxa=>?_,rfl⟩,fun x hx=>?_⟩
 ·rcases List.mem_append.1 hxa with h | h
  ·exact hd2 x h (by simp [hx])
  ·exact hd x hx h
 ·simp only [List.mem_append] at hx ⊢
  rcases hx with h | h | h
  ·exact .inr (.inl h)
  ·exact .inl h
  ·exact .inr (.inr h)
theorem At.rot3 (h:At w F (Star A (Star B (Star C D))) w1):At w F (Star C (Star A (Star B D))) w1:=h.imp fun F1 ⟨Fa,Fx,h1,⟨Fb,Fy,h2,⟨Fc,Fd,h3,h4,d1,e1⟩,d2,e2⟩,d3,e3⟩=>by
 subst e1 e2 e3
 refine ⟨_,⟨Fc,_,h3,⟨Fa,_,h1,⟨Fb,Fd,h2,h4,fun x hx hd=>d2 x hx (by simp [hd]),rfl⟩,fun x hx hm=>?_,rfl⟩,fun x hx hm=>?_,rfl⟩,fun x hx=>?_⟩
 ·rcases List.mem_append.1 hm with h | h
  ·exact d3 x hx (by simp [h])
  ·exact d3 x hx (by simp [h])
 ·simp only [List.mem_append] at hm
  rcases hm with h | h | h
  ·exact d3 x h (by simp [hx])
  ·exact d2 x h (by simp [hx])
  ·exact d1 x hx h
 ·simp only [List.mem_append] at hx ⊢
  rcases hx with h | h | h | h
  ·exact .inr (.inr (.inl h))
  ·exact .inl h
  ·exact .inr (.inl h)
  ·exact .inr (.inr (.inr h))
theorem At.kp0 (hl:Lcl A) (h:At w F A w1) (hk:Kp [] w1 w2):At w F A w2:=by
 obtain ⟨⟨F1,h1,hn⟩,k⟩:=h
 exact ⟨⟨F1,hl.kp h1 hk (by simp),hn⟩,k.trans0 hk⟩
theorem At.step (hA:Lcl A) (hB:Lcl B) (h:At w F (Star A B) w1) (hk:∀Fa,A w1 Fa→∃F',A' w2 F'∧Kp Fa w1 w2∧Sub w1 Fa F'):At w F (Star A' B) w2:=by
 obtain ⟨⟨F1,⟨Fa,Fb,h1,h2,hd,rfl⟩,hn⟩,k⟩:=h
 obtain ⟨F',h',hk',hs⟩:=hk Fa h1
 refine ⟨⟨_,⟨F',Fb,h',hB.kp h2 hk' (fun x hx hxa=>hd x hxa hx),fun x hx hxb=>?_,rfl⟩,fun x hx=>?_⟩,k.trans' hk' (fun x hx=>hn x (by simp [hx]))⟩
 ·rcases hs x hx with h3 | h3
  ·exact hd x h3 hxb
  ·have:=hB.lt h2 x hxb; omega
 ·rcases List.mem_append.1 hx with h3 | h3
  ·rcases hs x h3 with h4 | h4
   ·exact hn x (by simp [h4])
   ·have:=k.size; exact .inr (by omega)
  ·exact hn x (by simp [h3])
theorem At.more (hB:Lcl B) (h:At w F B w1) (hk:Kp [] w1 w2) (ha:∃F1,A w2 F1∧∀x ∈ F1,w1.heap.size≤x):At w F (Star A B) w2:=by
 obtain ⟨⟨Fb,h1,hn⟩,k⟩:=h
 obtain ⟨Fa,h2,hn2⟩:=ha
 refine ⟨⟨_,⟨Fa,Fb,h2,hB.kp h1 hk (by simp),fun x hx hxb=>?_,rfl⟩,fun x hx=>?_⟩,k.trans0 hk⟩
 ·have:=hB.lt h1 x hxb; have:=hn2 x hx; omega
 ·rcases List.mem_append.1 hx with h3 | h3
  ·have:=hn2 x h3; have:=k.size; exact .inr (by omega)
  ·exact hn x h3
theorem At.drop (h:At w F (Star A B) w1):At w F B w1:=h.imp fun F1 ⟨Fa,Fb,h1,h2,hd,e⟩=>⟨Fb,h2,fun x hx=>by rw [e]; simp [hx]⟩
theorem At.get (h:At w F (Star A B) w1):∃F1,A w1 F1:=by
 obtain ⟨⟨F1,⟨Fa,Fb,h1,_⟩,_⟩,_⟩:=h
 exact ⟨Fa,h1⟩
theorem At.obj {b:Nat} {o:Obj} (h:At w F (Star (ObjA b o) B) w1):w1.heap[b]? = some o:=by
 obtain ⟨F1,h1⟩:=h.get
 exact h1.1
theorem At.setB {b:Nat} {o o':Obj} (hB:Lcl B) (h:At w F (Star (ObjA b o) B) w1):At w F (Star (ObjA b o') B) (w1.setB b o'):=by
 refine h.step Lcl.obj hB ?_
 rintro Fa ⟨h1,rfl⟩
 exact ⟨[b],⟨setB_new (lt_of_blk h1),rfl⟩,(Kp.refl _ _).setB (.inl (by simp)) _,fun x hx=>.inl hx⟩
theorem At.alloc (o:Obj) (hB:Lcl B) (h:At w F B w1):At w F (Star (ObjA w1.heap.size o) B) (w1.alloc o) :=
 h.more hB ((Kp.refl _ _).alloc _) ⟨_,⟨alloc_new,rfl⟩,by simp⟩
theorem At.drew (hA:Lcl A) (h:At w F A w1):At w F A w1.drew:=h.kp0 hA (Kp.refl [] w1).drew
end
section
variable {α:Type} {enc:α→List Value} {E sz:Nat} {l:List α} {v:Value} {B:Asr} {w w1:World} {F:List Nat}
theorem At.own (h:At w F (Star (OwnA v E sz enc l) B) w1):Own w1 v E sz enc l:=by
 obtain ⟨F1,h1,_⟩:=h.get
 exact h1
theorem At.store {KW:Kont World} (hB:Lcl B) (h:At w F (Star (OwnA v E sz enc l) B) w1) (he:∀x,(enc x).length=sz) (h1:∀x,(enc x).all oneC=true) {k:Nat} (hk:k < l.length) {x:α} {cs:List Value} (hcs:cs=enc x)
  (H:∀w2,At w F (Star (OwnA v E sz enc (l.set k x)) B) w2→KW.run w2):@stJ w1 ⟨v.blk,k * sz,none⟩ cs KW:=by
 refine h.own.store he h1 hk hcs fun w2 hk2 hs2 ho2=>H w2 (h.step Lcl.own hB ?_)
 rintro Fa ⟨ho,rfl⟩
 exact ⟨_,⟨ho2,rfl⟩,by rw [ho.own_eq hk]; exact hk2,fun x hx=>.inl hx⟩
theorem At.store1 {KW:Kont World} (hB:Lcl B) (h:At w F (Star (OwnA v E 1 enc l) B) w1) (he:∀x,(enc x).length=1) (h1:∀x,(enc x).all oneC=true) {k:Nat} (hk:k < l.length) {x:α} {cs:List Value} (hcs:cs=enc x)
  (H:∀w2,At w F (Star (OwnA v E 1 enc (l.set k x)) B) w2→KW.run w2):@stJ w1 ⟨v.blk,k,none⟩ cs KW:=by
 have:=h.store (KW:=KW) hB he h1 hk hcs H
 rwa [Nat.mul_one] at this
theorem At.append {P:Program} {KV:Kont (Value × World)} {T ty by_:Nat} {z:List Value} (hB:Lcl B) (h:At w F (Star (OwnA v E sz enc l) B) w1) (he:∀x,(enc x).length=sz) (h1:∀x,(enc x).all oneC=true)
  (hT:slInfo P T=some (E,sz,by_,z)) {a:Addr} {m c:Nat} {xs:List α} (hm:xs.length=m) (hx:∀j u,(xs.flatMap enc)[j]? = some u→w1.cell? (a.add j)=some u)
  (hb:(l.length+m) * by_≤140737488355328) (hmax:l.length+m≤maxLen)
  (H:∀v' w2,At w F (Star (OwnA v' E sz enc (l ++ xs)) B) w2→KV.run (v',w2)) :
  @efH P (Builtin.append_ #[T,T] ty [v,.slice (some a) m c].toArray) w1 KV:=by
 refine h.own.append he h1 hT hm hx hb hmax fun v' w2 hk2 ho2 hs2=>H v' w2 (h.step Lcl.own hB ?_)
 rintro Fa ⟨ho,rfl⟩
 exact ⟨_,⟨ho2,rfl⟩,hk2,hs2⟩
theorem At.appendV {P:Program} {KV:Kont (Value × World)} {T ty by_:Nat} {z:List Value} {u:Value} {xs:List α} (hB:Lcl B) (h:At w F (Star (OwnA v E sz enc l) B) w1) (hu:Vw w1 u enc xs) (he:∀x,(enc x).length=sz) (h1:∀x,(enc x).all oneC=true)
  (hT:slInfo P T=some (E,sz,by_,z)) (hb:(l.length+xs.length) * by_≤140737488355328) (hmax:l.length+xs.length≤maxLen)
  (H:∀v' w2,At w F (Star (OwnA v' E sz enc (l ++ xs)) B) w2→KV.run (v',w2)) :
  @efH P (Builtin.append_ #[T,T] ty [v,u].toArray) w1 KV:=by
 refine h.own.appendV hu he h1 hT hb hmax fun v' w2 hk2 ho2 hs2=>H v' w2 (h.step Lcl.own hB ?_)
 rintro Fa ⟨ho,rfl⟩
 exact ⟨_,⟨ho2,rfl⟩,hk2,hs2⟩
theorem At.nil (hB:Lcl B) (h:At w F B w1):At w F (Star (OwnA (.slice none 0 0) E sz enc []) B) w1 :=
 h.more hB (Kp.refl _ _) ⟨_,⟨Own.nil _ _ _ _,rfl⟩,by simp⟩
theorem At.made {n:Nat} {x:α} {z:List Value} (hB:Lcl B) (h:At w F B w1) (hz:z=enc x) (he:∀x,(enc x).length=sz) (hn:n≤maxLen) :
  At w F (Star (OwnA (.slice (some ⟨w1.heap.size,0,none⟩) n n) E sz enc (List.replicate n x)) B) (w1.alloc (.cells (rowOf z n).toArray E)) :=
 h.more hB ((Kp.refl _ _).alloc _) ⟨_,⟨Own.made hz he hn,rfl⟩,by simp⟩
theorem At.lit {xs:List α} {cs:Array Value} (hB:Lcl B) (h:At w F B w1) (hcs:cs.toList=xs.flatMap enc) (he:∀x,(enc x).length=sz) (hn:xs.length≤maxLen) {m:Nat} (hm:m=xs.length) :
  At w F (Star (OwnA (.slice (some ⟨w1.heap.size,0,none⟩) m m) E sz enc xs) B) (w1.alloc (.cells cs E)):=by
 subst hm
 exact h.more hB ((Kp.refl _ _).alloc _) ⟨_,⟨.inr ⟨w1.heap.size,xs.length,cs,[],rfl,alloc_new,by simpa using hcs,by simp,Nat.le_refl _,hn⟩,rfl⟩,by simp⟩
end
def VwA {α:Type} (v:Value) (enc:α→List Value) (l:List α):Asr:=fun w F=>Vw w v enc l∧F=v.own∧∀x ∈ v.own,x < w.heap.size
theorem Lcl.vw {α:Type} {v:Value} {enc:α→List Value} {l:List α}:Lcl (VwA v enc l):=by
 refine ⟨?_,?_⟩
 ·rintro w F ⟨h,rfl,hlt⟩ x hx; exact hlt x hx
 ·rintro w F G w' ⟨h,rfl,hlt⟩ hk hd
  exact ⟨h.kp hk hd,rfl,fun x hx=>by have:=hlt x hx; have:=hk.size; omega⟩
theorem At.vw {α:Type} {v:Value} {enc:α→List Value} {l:List α} {w w1:World} {F:List Nat} {B:Asr} (h:At w F (Star (VwA v enc l) B) w1):Vw w1 v enc l:=by
 obtain ⟨F1,h1,_⟩:=h.get
 exact h1
theorem At.own_vw {α:Type} {v:Value} {E sz:Nat} {enc:α→List Value} {l:List α} {w w1:World} {F:List Nat} {B:Asr} (h:At w F (Star (OwnA v E sz enc l) B) w1):At w F (Star (VwA v enc l) B) w1:=h.imp fun F1 ⟨Fa,Fb,⟨h1,e1⟩,h2,hd,e⟩=>by
 subst e e1
 refine ⟨_,⟨v.own,Fb,⟨h1.vw,rfl,fun x hx=>?_⟩,h2,hd,rfl⟩,fun x hx=>hx⟩
 rcases h1 with ⟨rfl,_⟩ | ⟨g,cap,cur,junk,rfl,hh,_⟩
 ·cases hx
 ·simp at hx; subst hx; exact lt_of_blk hh
section
open Go.Maps
variable {κ α:Type} [DecidableEq κ] {ek:κ→Value} {ev:α→Value} {ok:κ→Prop} {P:Program} {k e t:TypeId} {l:List (κ × α)} {b:Nat} {B:Asr} {w w1:World} {F:List Nat}
def MapA (b:Nat) (ek:κ→Value) (ev:α→Value) (ok:κ→Prop) (l:List (κ × α)):Asr:=fun w F=>MapM w b ek ev ok l∧F=[b]
theorem Lcl.map:Lcl (MapA b ek ev ok l):=by
 refine ⟨?_,?_⟩
 ·rintro w F ⟨h,rfl⟩ x hx
  simp at hx; subst hx; exact h.lt
 ·rintro w F G w' ⟨h,rfl⟩ hk hd
  exact ⟨h.kp hk (hd b (by simp)),rfl⟩
theorem At.map (h:At w F (Star (MapA b ek ev ok l) B) w1):MapM w1 b ek ev ok l:=by
 obtain ⟨F1,h1,_⟩:=h.get
 exact h1
theorem At.newmap (hB:Lcl B) (h:At w F B w1):At w F (Star (MapA w1.heap.size ek ev ok ([]:List (κ × α))) B) (w1.alloc (.map #[] 0)) :=
 h.more hB ((Kp.refl _ _).alloc _) ⟨_,⟨MapM.new _,rfl⟩,by simp⟩
theorem At.put {KW:Kont World} {x:κ} {v:α} (hB:Lcl B) (h:At w F (Star (MapA b ek ev ok l) B) w1) (hk:KeyEnc P k ek ok) (ht:P.underlying t=some (.map k e)) (hx:ok x) (hl:l.length < maxLen)
  (H:∀w2,At w F (Star (MapA b ek ev ok (putM l x v)) B) w2→KW.run w2):@efuH P (Instr.mapUpdate t (.map (some b)) (ek x) (ev v)) w1 KW:=by
 obtain ⟨o,hr,hm⟩:=h.map.store hk ht hx v hl
 refine efu_mk hr (H _ (h.step Lcl.map hB ?_))
 rintro Fa ⟨h1,rfl⟩
 exact ⟨[b],⟨hm,rfl⟩,(Kp.refl _ _).setB (.inl (by simp)) _,fun x hx=>.inl hx⟩
theorem MapM.look2 {K:Kont Value} {x:κ} (h:MapM w b ek ev ok l) (hk:KeyEnc P k ek ok) (ht:P.underlying t=some (.map k e)) {z:Value} (hz:∀w,(zeroValue e).run P w=.ok z w) (hx:ok x)
  (H:K.run (.tuple #[((getM l x).map ev).getD z,.bool (getM l x).isSome])):@rdH P (Instr.lookup t (.map (some b)) (ek x) true) w K :=
 rd_mk (fun w' hw=>by have:=MapM.look (h.ext hw) hk ht (hz w') hx true; simpa using this) H
theorem MapM.look1 {K:Kont Value} {x:κ} (h:MapM w b ek ev ok l) (hk:KeyEnc P k ek ok) (ht:P.underlying t=some (.map k e)) {z:Value} (hz:∀w,(zeroValue e).run P w=.ok z w) (hx:ok x)
  (H:K.run (((getM l x).map ev).getD z)):@rdH P (Instr.lookup t (.map (some b)) (ek x) false) w K :=
 rd_mk (fun w' hw=>by have:=MapM.look (h.ext hw) hk ht (hz w') hx false; simpa using this) H
end
end Go.W
end
section
namespace Go.W
open Go
section
variable (P:Program) (S:Nat→World→Prop)
def stA (c:Nat) (op:Op) (ty:TypeId) (ρ:Env) (k:Nat) (N:Value→Nat→Prop):Prop :=
 match c with
 | 0=>opS P 0 op ty ρ default fun v _=>N v k
 | 1=>∃v,(∀k' w',S k' w'→opS P 1 op ty ρ w' fun x _=>x=v)∧N v k
 | c+2=>∃v,(∀w',S k w'→opS P (c+2) op ty ρ w' fun x w''=>x=v∧S (k+1) w'')∧N v (k+1)
def wpA:Nat→List LO→Env→(Env→Nat→Prop)→Prop
 | k,[],ρ,K=>K ρ k
 | k,⟨c,d,op,ty,none⟩ :: l,ρ,K=>stA P S c op ty ρ k fun v k'=>wpA k' l (ρ.put d v) K
 | k,⟨c,d,op,ty,some (g,b)⟩ :: l,ρ,K=>gd (ρ g) b (stA P S c op ty ρ k fun v k'=>wpA k' l (ρ.put d v) K) (wpA k l (ρ.put d undef) K)
end
def LO.reads (o:LO):List Nat:=(o.op.operands.toList.filterMap fun | .tmp t=>some t | _=>none) ++ (match o.guard with | some (g,_)=>[g] | none=>[])
def anyChk (los:List LO) (deps:List Nat):Bool :=
 decide ((los.filterMap (·.dst)).Nodup) &&
 los.all (fun o=>!isSel o.op) &&
 (List.range los.length).all fun i=>(List.range los.length).all fun j =>
  (!(deps.getD i 0).testBit j || decide (j < i)) &&
  (!(decide (2≤(los.getD i LO.dfl).cls) && decide (2≤(los.getD j LO.dfl).cls) && decide (j < i)) || (deps.getD i 0).testBit j) &&
  (match (los.getD j LO.dfl).dst with
   | some t=>!((los.getD i LO.dfl).reads.contains t) || decide (i=j) || (deps.getD i 0).testBit j || (deps.getD j 0).testBit i
   | none=>true)
def envX (los:List LO) (vs:Nat→Value) (ρ:Env):List Nat→Env
 | []=>ρ
 | i :: X=>(envX los vs ρ X).put (los.getD i LO.dfl).dst (vs i)
section
variable {P:Program} {S:Nat→World→Prop} {los:List LO} {deps:List Nat}
theorem envX_at {vs:Nat→Value} {ρ:Env} (hn:∀i j t,i < los.length→j < los.length→(los.getD i LO.dfl).dst=some t→(los.getD j LO.dfl).dst=some t→i=j) {t:Nat}:∀{X:List Nat},(∀i ∈ X,i < los.length) →
  (∀j,j ∈ X→(los.getD j LO.dfl).dst=some t→envX los vs ρ X t=vs j)∧((∀j ∈ X,(los.getD j LO.dfl).dst≠some t)→envX los vs ρ X t=ρ t)
 | [],_=>⟨fun j hj=>(by cases hj),fun _=>rfl⟩
 | i :: X,hX=>by
  obtain ⟨h1,h2⟩:=envX_at (vs:=vs) (ρ:=ρ) hn (t:=t) (X:=X) (fun i hi=>hX i (by simp [hi]))
  refine ⟨fun j hj hd=>?_,fun hno=>?_⟩
  ·by_cases hit:(los.getD i LO.dfl).dst=some t
   ·have:=hn i j t (hX i (by simp)) (hX j hj) hit hd
    subst this
    simp only [envX,hit,Env.put,Env.set,if_true]
   ·have hjX:j ∈ X:=by
     rcases List.mem_cons.1 hj with rfl | h
     ·exact absurd hd hit
     ·exact h
    rw [envX]
    cases hdi:(los.getD i LO.dfl).dst with
    | none=>exact h1 j hjX hd
    | some d =>
     have:t≠d:=fun e=>hit (by rw [hdi,e])
     simp only [Env.put,Env.set,if_neg this]
     exact h1 j hjX hd
  ·have hi:=hno i (by simp)
   rw [envX]
   cases hdi:(los.getD i LO.dfl).dst with
   | none=>exact h2 fun j hj=>hno j (by simp [hj])
   | some d =>
    have:t≠d:=fun e=>hi (by rw [hdi,e])
    simp only [Env.put,Env.set,if_neg this]
    exact h2 fun j hj=>hno j (by simp [hj])
def FactA (P:Program) (S:Nat→World→Prop) (o:LO) (ρ:Env) (k:Nat) (v:Value) (k':Nat):Prop :=
 match o with
 | ⟨c,d,op,ty,g⟩ =>
  ((match g with | none=>True | some (g,b)=>ρ g=.bool b) ∧
   (if 2≤c then k'=k+1∧∀w',S k w'→stepL P c op ty ρ w' (fun x w''=>x=v∧S (k+1) w'')
    else k'=k∧∀j w',S j w'→stepL P c op ty ρ w' (fun x w''=>x=v∧S j w''))) ∨
  ((match g with | none=>False | some (g,b)=>ρ g≠.bool b)∧v=undef∧k'=k)
theorem stA_fact {c:Nat} {op:Op} {ty:TypeId} {ρ:Env} {k:Nat} {N:Value→Nat→Prop} (h:stA P S c op ty ρ k N) :
  ∃v k',(if 2≤c then k'=k+1∧∀w',S k w'→stepL P c op ty ρ w' (fun x w''=>x=v∧S (k+1) w'')
    else k'=k∧∀j w',S j w'→stepL P c op ty ρ w' (fun x w''=>x=v∧S j w''))∧N v k':=by
 match c,h with
 | 0,h =>
  have h:opS P 0 op ty ρ default fun v _=>N v k:=h
  have h:step0 P op ty ρ default fun v _=>N v k:=opS_sound h
  obtain ⟨v,hv,hN⟩:=h
  exact ⟨v,k,⟨rfl,fun j w' hS=>⟨v,hv,rfl,hS⟩⟩,hN⟩
 | 1,h =>
  obtain ⟨v,hv,hN⟩:=h
  refine ⟨v,k,⟨rfl,fun j w' hS=>?_⟩,hN⟩
  have h9:step1 P op ty ρ w' fun x _=>x=v:=opS_sound (hv j w' hS)
  obtain ⟨x,hx,rfl⟩:=h9
  exact ⟨x,hx,rfl,hS⟩
 | c+2,h =>
  obtain ⟨v,hv,hN⟩:=h
  exact ⟨v,k+1,⟨rfl,fun w' hS=>opS_sound (hv w' hS)⟩,hN⟩
theorem wpA_facts {K:Env→Nat→Prop}:∀(l:List LO) (ρ:Env) (k:Nat),wpA P S k l ρ K→∃(vs:Nat→Value) (ks:Nat→Nat),ks 0=k ∧
  (∀i,i < l.length→FactA P S (l.getD i LO.dfl) (envX l vs ρ (List.range i).reverse) (ks i) (vs i) (ks (i+1)))∧K (envX l vs ρ (List.range l.length).reverse) (ks l.length)
 | [],ρ,k,h=>⟨fun _=>undef,fun _=>k,rfl,by simp,h⟩
 | o :: l,ρ,k,h=>by
  have head:∃v k',FactA P S o ρ k v k'∧wpA P S k' l (ρ.put o.dst v) K:=by
   obtain ⟨c,d,op,ty,g⟩:=o
   cases g with
   | none =>
    obtain ⟨v,k',h1,h2⟩:=stA_fact h
    exact ⟨v,k',.inl ⟨trivial,h1⟩,h2⟩
   | some gb =>
    obtain ⟨g,b⟩:=gb
    simp only [wpA,gd] at h
    rcases Classical.em (ρ g=.bool b) with hb | hb
    ·obtain ⟨v,k',h1,h2⟩:=stA_fact (h.1 hb)
     exact ⟨v,k',.inl ⟨hb,h1⟩,h2⟩
    ·exact ⟨undef,k,.inr ⟨hb,rfl,rfl⟩,h.2 hb⟩
  obtain ⟨v,k',hf,hr⟩:=head
  obtain ⟨vs,ks,hk0,hfs,hK⟩:=wpA_facts l _ k' hr
  let vs':Nat→Value:=fun | 0=>v | i+1=>vs i
  let ks':Nat→Nat:=fun | 0=>k | i+1=>ks i
  have hshift:∀n,envX (o :: l) vs' ρ (List.range (n+1)).reverse=envX l vs (ρ.put o.dst v) (List.range n).reverse:=by
   intro n
   induction n with
   | zero=>simp [envX,List.range_succ,vs']
   | succ n ih =>
    have e:∀m:Nat,(List.range (m+1)).reverse=m :: (List.range m).reverse:=fun m=>by rw [List.range_succ,List.reverse_append,List.reverse_singleton,List.singleton_append]
    rw [e (n+1)]
    conv=>rhs; rw [e n]
    show (envX (o :: l) vs' ρ (List.range (n+1)).reverse).put _ _=(envX l vs (ρ.put o.dst v) (List.range n).reverse).put _ _
    rw [ih]
    rfl
  refine ⟨vs',ks',rfl,fun i hi=>?_,?_⟩
  ·cases i with
   | zero=>simpa [envX,vs',ks',hk0] using hf
   | succ i =>
    rw [hshift]
    have:=hfs i (by simpa using hi)
    simpa [vs',ks'] using this
  ·rw [List.length_cons,hshift]
   exact hK
theorem exec_env {op:Op} {ty:TypeId} {ρ ρ':Env} (hs:isSel op=false) (h:∀t,Operand.tmp t ∈ op.operands→ρ t=ρ' t):LO.exec op ty ρ=LO.exec op ty ρ':=by
 refine execOp_congr (ρ:=ρ.ev) (ρ':=ρ'.ev) _ (fun cs b he=>?_) (fun x hx=>?_)
 ·have he:op=.select cs b:=he
  rw [he] at hs; cases hs
 ·cases x with
  | tmp t=>exact h t hx
  | const v=>rfl
  | global g=>rfl
  | func f=>rfl
theorem stepL_env {c:Nat} {op:Op} {ty:TypeId} {ρ ρ':Env} {w:World} {K:Value→World→Prop} (hs:isSel op=false) (h:∀t,Operand.tmp t ∈ op.operands→ρ t=ρ' t) (hh:stepL P c op ty ρ w K):stepL P c op ty ρ' w K:=by
 unfold stepL step0 step1 step3 step2 at *
 rw [←exec_env hs h]; exact hh
theorem any_text {Q:Ex→Env→World→Prop} {ρ:Env} {w:World} {outs:List Nat} (S:Nat→World→Prop) (hc:anyChk los deps=true) (h0:S 0 w.drew)
  (h:wpA P S 0 los ρ fun ρ' k=>∀w',S k w'→Q .nrm (ρ.merge ρ' outs) w'):wpL P (.anyR los deps outs) Q ρ w:=by
 simp only [anyChk,Bool.and_eq_true,decide_eq_true_eq,List.all_eq_true,List.mem_range,Bool.or_eq_true,Bool.not_eq_true'] at hc
 obtain ⟨⟨hnd,hsel⟩,hall⟩:=hc
 have hd:∀i j,i < los.length→j < los.length→(deps.getD i 0).testBit j=true→j < i:=fun i j hi hj hb=>by
  have:=(hall i hi j hj).1.1
  rcases this with h1 | h1
  ·rw [h1] at hb; cases hb
  ·exact h1
 have hch:∀i j,i < los.length→j < los.length→2≤(los.getD i LO.dfl).cls→2≤(los.getD j LO.dfl).cls→j < i→(deps.getD i 0).testBit j=true:=fun i j hi hj h1 h2 h3=>by
  have:=(hall i hi j hj).1.2
  rcases this with h4 | h4
  ·rw [decide_eq_true h1,decide_eq_true h2,decide_eq_true h3] at h4; cases h4
  ·exact h4
 have hrd:∀i j t,i < los.length→j < los.length→(los.getD j LO.dfl).dst=some t→t ∈ (los.getD i LO.dfl).reads→i=j∨(deps.getD i 0).testBit j=true∨(deps.getD j 0).testBit i=true:=fun i j t hi hj h1 h2=>by
  have:=(hall i hi j hj).2
  rw [h1] at this
  simp only [Bool.or_eq_true,Bool.not_eq_true',decide_eq_true_eq] at this
  rcases this with ((h3 | h3) | h3) | h3
  ·rw [List.contains_iff_mem.2 h2] at h3; cases h3
  ·exact .inl h3
  ·exact .inr (.inl h3)
  ·exact .inr (.inr h3)
 have hn:∀i j t,i < los.length→j < los.length→(los.getD i LO.dfl).dst=some t→(los.getD j LO.dfl).dst=some t→i=j:=by
  intro i j t hi hj h1 h2
  have key:∀(l:List LO),((l.filterMap (·.dst)).Nodup)→∀i j,i < l.length→j < l.length→i < j→(l.getD i LO.dfl).dst=some t→(l.getD j LO.dfl).dst=some t→False:=by
   intro l
   induction l with
   | nil=>intro _ i j hi; simp at hi
   | cons o l ih =>
    intro hnd i j hi hj hij h1 h2
    cases i with
    | zero =>
     cases j with
     | zero=>omega
     | succ j =>
      simp at h1 h2 hj
      rw [List.filterMap_cons_some h1,List.nodup_cons] at hnd
      apply hnd.1
      rw [List.mem_filterMap]
      refine ⟨l[j],List.getElem_mem hj,?_⟩
      rw [List.getElem?_eq_getElem hj] at h2
      simpa using h2
    | succ i =>
     cases j with
     | zero=>omega
     | succ j =>
      refine ih ?_ i j (by simpa using hi) (by simpa using hj) (by omega) (by simpa using h1) (by simpa using h2)
      cases ho:o.dst with
      | none=>rwa [List.filterMap_cons_none ho] at hnd
      | some d =>
       rw [List.filterMap_cons_some ho,List.nodup_cons] at hnd
       exact hnd.2
  rcases Nat.lt_trichotomy i j with h3 | h3 | h3
  ·exact (key los hnd i j hi hj h3 h1 h2).elim
  ·exact h3
  ·exact (key los hnd j i hj hi h3 h2 h1).elim
 obtain ⟨vs,ks,hk0,hf,hK⟩:=wpA_facts los ρ 0 h
 -- the counter
 have hks:∀i,i < los.length→ks (i+1)=ks i∨(ks (i+1)=ks i+1∧2≤(los.getD i LO.dfl).cls):=by
  intro i hi
  have:=hf i hi
  generalize los.getD i LO.dfl=o at *
  obtain ⟨c,d,op,ty,g⟩:=o
  rcases this with ⟨_,h1⟩ | ⟨_,_,h1⟩
  ·split at h1
   ·rename_i hc; exact .inr ⟨h1.1,hc⟩
   ·exact .inl h1.1
  ·exact .inl h1
 intro l hl hD
 have hlt:∀i ∈ l,i < los.length:=fun i hi=>List.mem_range.1 (hl.subset hi)
 have hlnd:l.Nodup:=hl.symm.nodup List.nodup_range
 -- how many effects were there
 let tk:Nat→Nat:=fun i=>ks (i+1) - ks i
 have agree:∀(X Y:List Nat) (t:Nat),(∀i ∈ X,i < los.length)→(∀i ∈ Y,i < los.length)→(∀j,j < los.length→(los.getD j LO.dfl).dst=some t→(j ∈ X↔j ∈ Y))→envX los vs ρ X t=envX los vs ρ Y t:=by
  intro X Y t hX hY hXY
  obtain ⟨a1,a2⟩:=envX_at (vs:=vs) (ρ:=ρ) hn (t:=t) hX
  obtain ⟨b1,b2⟩:=envX_at (vs:=vs) (ρ:=ρ) hn (t:=t) hY
  rcases Classical.em (∃j ∈ X,(los.getD j LO.dfl).dst=some t) with ⟨j,hj,hd⟩ | hno
  ·rw [a1 j hj hd,b1 j ((hXY j (hX j hj) hd).1 hj) hd]
  ·rw [a2 fun j hj he=>hno ⟨j,hj,he⟩,b2 fun j hj he=>hno ⟨j,(hXY j (hY j hj) he).2 hj,he⟩]
 have key:∀(l2 l1:List Nat) (w':World),l=l1 ++ l2→S ((l1.map tk).sum) w' →
   wpX P (inOrder los l2) (envX los vs ρ l1.reverse) w' fun ρ' w''=>Q .nrm (ρ.merge ρ' outs) w'':=by
  intro l2
  induction l2 with
  | nil =>
   intro l1 w' he hS
   rw [List.append_nil] at he
   subst he
   have e1:envX los vs ρ l.reverse=envX los vs ρ (List.range los.length).reverse:=by
    funext t
    refine agree _ _ t (fun i hi=>hlt i (List.mem_reverse.1 hi)) (fun i hi=>List.mem_range.1 (List.mem_reverse.1 hi)) fun j hj _=>?_
    rw [List.mem_reverse,List.mem_reverse]
    exact hl.mem_iff
   have e2:(l.map tk).sum=ks los.length:=by
    rw [(hl.map tk).sum_nat]
    have:∀m,m≤los.length→(((List.range m).map tk).sum=ks m):=by
     intro m
     induction m with
     | zero=>intro _; simp [hk0]
     | succ m ih =>
      intro hm
      rw [List.range_succ,List.map_append,List.sum_append,ih (by omega)]
      have:=hks m (by omega)
      simp only [List.map_cons,List.map_nil,List.sum_cons,List.sum_nil,tk]
      omega
    exact this _ (Nat.le_refl _)
   show Q .nrm (ρ.merge (envX los vs ρ l.reverse) outs) w'
   rw [e1]
   rw [e2] at hS
   exact hK w' hS
  | cons i l2 ih =>
   intro l1 w' he hS
   have hi:i < los.length:=hlt i (by rw [he]; simp)
   have hin:i ∉ l1:=fun hm=>by
    rw [he,List.nodup_append] at hlnd
    exact hlnd.2.2 i hm i (by simp) rfl
   have before:∀j,j < los.length→(deps.getD i 0).testBit j=true→j ∈ l1:=fun j hj hb=>by
    obtain ⟨r1,r2,e1,e2⟩:=hD i hi j hj hb
    rw [he] at e1 hlnd
    rw [(split_unique hlnd e1).1]; exact e2
   have after:∀j,j < los.length→(deps.getD j 0).testBit i=true→j ∉ l1:=fun j hj hb hm=>by
    obtain ⟨r1,r2,e1,e2⟩:=hD j hj i hi hb
    obtain ⟨m1,m2,e3⟩:=List.append_of_mem hm
    have e4:l=m1 ++ j :: (m2 ++ i :: l2):=by rw [he,e3]; simp
    rw [e4] at e1 hlnd
    have:=(split_unique hlnd e1).1
    rw [←this] at e2
    rw [List.nodup_append] at hlnd
    exact hlnd.2.2 i e2 i (by simp) rfl
   have hagr:∀t ∈ (los.getD i LO.dfl).reads,envX los vs ρ (List.range i).reverse t=envX los vs ρ l1.reverse t:=by
    intro t ht
    refine agree _ _ t (fun j hj=>by have:=List.mem_range.1 (List.mem_reverse.1 hj); omega) (fun j hj=>hlt j (by rw [he]; simp [List.mem_reverse.1 hj])) fun j hj hdj=>?_
    rw [List.mem_reverse,List.mem_reverse,List.mem_range]
    rcases hrd i j t hi hj hdj ht with rfl | h1 | h1
    ·exact ⟨fun h=>by omega,fun h=>absurd h hin⟩
    ·exact ⟨fun _=>before j hj h1,fun _=>hd i j hi hj h1⟩
    ·exact ⟨fun h=>by have:=hd j i hj hi h1; omega,fun h=>absurd h (after j hj h1)⟩
   have hnext:∀w'',S (((l1 ++ [i]).map tk).sum) w''→wpX P (inOrder los l2) ((envX los vs ρ l1.reverse).put (los.getD i LO.dfl).dst (vs i)) w'' fun ρ' w''=>Q .nrm (ρ.merge ρ' outs) w'':=by
    intro w'' hS'
    have:=ih (l1 ++ [i]) w'' (by rw [he]; simp) hS'
    rw [List.reverse_append,List.reverse_singleton,List.singleton_append] at this
    exact this
   have hsum:((l1 ++ [i]).map tk).sum=(l1.map tk).sum+tk i:=by simp
   rw [hsum] at hnext
   -- the effects that were there,where it is an effect itself
   have hcnt:2≤(los.getD i LO.dfl).cls→(l1.map tk).sum=ks i:=by
    intro h2
    have hz:∀j,j < los.length→¬2≤(los.getD j LO.dfl).cls→tk j=0:=fun j hj hn2=>by
     rcases hks j hj with h1 | ⟨_,h1⟩
     ·simp [tk,h1]
     ·exact absurd h1 hn2
    have hiff:∀j,j < los.length→2≤(los.getD j LO.dfl).cls→(j ∈ l1↔j < i):=fun j hj hj2=>by
     constructor
     ·intro hm
      rcases Nat.lt_trichotomy j i with h3 | h3 | h3
      ·exact h3
      ·exact absurd (h3 ▸ hm) hin
      ·exact absurd hm (after j hj (hch j i hj hi hj2 h2 h3))
     ·intro h3; exact before j hj (hch i j hi hj h2 hj2 h3)
    have filt:∀(L:List Nat),(∀j ∈ L,j < los.length)→(L.map tk).sum=((L.filter fun j=>decide (2≤(los.getD j LO.dfl).cls)).map tk).sum:=by
     intro L
     induction L with
     | nil=>intro _; rfl
     | cons j L ihL =>
      intro hL
      rw [List.map_cons,List.sum_cons,ihL fun k hk=>hL k (by simp [hk])]
      by_cases hj2:2≤(los.getD j LO.dfl).cls
      ·rw [List.filter_cons_of_pos (by simpa using hj2),List.map_cons,List.sum_cons]
      ·rw [List.filter_cons_of_neg (by simpa using hj2),hz j (hL j (by simp)) hj2,Nat.zero_add]
    have hl1:∀j ∈ l1,j < los.length:=fun j hj=>hlt j (by rw [he]; simp [hj])
    have hl1n:l1.Nodup:=by rw [he,List.nodup_append] at hlnd; exact hlnd.1
    rw [filt l1 hl1]
    have hp:(l1.filter fun j=>decide (2≤(los.getD j LO.dfl).cls)).Perm ((List.range i).filter fun j=>decide (2≤(los.getD j LO.dfl).cls)):=by
     refine (List.perm_ext_iff_of_nodup (hl1n.filter _) (List.nodup_range.filter _)).2 fun j=>?_
     rw [List.mem_filter,List.mem_filter,List.mem_range]
     constructor
     ·rintro ⟨h3,h4⟩; exact ⟨(hiff j (hl1 j h3) (by simpa using h4)).1 h3,h4⟩
     ·rintro ⟨h3,h4⟩; exact ⟨(hiff j (by omega) (by simpa using h4)).2 h3,h4⟩
    rw [(hp.map tk).sum_nat,←filt (List.range i) fun j hj=>by have:=List.mem_range.1 hj; omega]
    have:∀m,m≤i→(((List.range m).map tk).sum=ks m):=by
     intro m
     induction m with
     | zero=>intro _; simp [hk0]
     | succ m ihm =>
      intro hm
      rw [List.range_succ,List.map_append,List.sum_append,ihm (by omega)]
      have:=hks m (by omega)
      simp only [List.map_cons,List.map_nil,List.sum_cons,List.sum_nil,tk]
      omega
    exact this i (Nat.le_refl _)
   have hfi:=hf i hi
   have hseli:=hsel (los.getD i LO.dfl) (by simp [List.getD,List.getElem?_eq_getElem hi])
   simp only [inOrder,List.map_cons]
   have htk:tk i=ks (i+1) - ks i:=rfl
   generalize los.getD i LO.dfl=o at *
   obtain ⟨c,d,op,ty,g⟩:=o
   have hop:∀t,Operand.tmp t ∈ op.operands→envX los vs ρ (List.range i).reverse t=envX los vs ρ l1.reverse t:=fun t ht=>hagr t (by
    simp only [LO.reads,List.mem_append,List.mem_filterMap]
    exact .inl ⟨.tmp t,by simpa using ht,rfl⟩)
   have run:(if 2≤c then ks (i+1)=ks i+1∧∀w',S (ks i) w'→stepL P c op ty (envX los vs ρ (List.range i).reverse) w' (fun x w''=>x=vs i∧S (ks i+1) w'')
     else ks (i+1)=ks i∧∀j w',S j w'→stepL P c op ty (envX los vs ρ (List.range i).reverse) w' (fun x w''=>x=vs i∧S j w'')) →
     stepL P c op ty (envX los vs ρ l1.reverse) w' fun v w''=>wpX P (inOrder los l2) ((envX los vs ρ l1.reverse).put d v) w'' fun ρ' w''=>Q .nrm (ρ.merge ρ' outs) w'':=by
    intro hh
    split at hh
    ·rename_i h2
     obtain ⟨e1,hh⟩:=hh
     have hS':=hS
     rw [hcnt h2] at hS'
     refine stepL_mono ?_ (stepL_env hseli hop (hh w' hS'))
     rintro x w'' ⟨rfl,hS2⟩
     refine hnext w'' ?_
     rw [hcnt h2,htk,e1,Nat.add_sub_cancel_left]; exact hS2
    ·obtain ⟨e1,hh⟩:=hh
     refine stepL_mono ?_ (stepL_env hseli hop (hh _ w' hS))
     rintro x w'' ⟨rfl,hS2⟩
     refine hnext w'' ?_
     rw [htk,e1,Nat.sub_self]; exact hS2
   cases g with
   | none =>
    simp only [wpX]
    rcases hfi with ⟨_,hh⟩ | ⟨hh,_⟩
    ·exact run hh
    ·exact hh.elim
   | some gb =>
    obtain ⟨g,b⟩:=gb
    have hg:=hagr g (by simp [LO.reads])
    simp only [wpX,gd]
    rcases hfi with ⟨hb,hh⟩ | ⟨hb,hv,hk⟩
    ·refine ⟨fun _=>run hh,fun hne=>absurd (by rw [←hg]; exact hb) hne⟩
    ·refine ⟨fun he=>absurd (by rw [hg]; exact he) hb,fun _=>?_⟩
     have:=hnext w' (by rw [htk,hk,Nat.sub_self]; exact hS)
     rw [hv] at this
     exact this
 have:=key l [] w.drew rfl h0
 simpa [envX,drawnW] using this
end
section
variable {P:Program} {S:Nat→World→Prop} {ρ:Env} {K:Env→Nat→Prop} {k:Nat} {ty:Nat}
class KontA (α:Type) where
 run:α→Prop
@[simp] theorem runA_mk {α:Type} {f:α→Prop} {x:α}:@KontA.run α ⟨f⟩ x=f x:=propext Iff.rfl
def rdA (P:Program) (S:Nat→World→Prop) (op:Op) (ty:Nat) (ρ:Env) [K:KontA Value]:Prop:=∃v,(∀k' w',S k' w'→opS P 1 op ty ρ w' fun x _=>x=v)∧K.run v
def efA (P:Program) (S:Nat→World→Prop) (c:Nat) (op:Op) (ty:Nat) (ρ:Env) (k:Nat) [K:KontA Value]:Prop:=∃v,(∀w',S k w'→opS P (c+2) op ty ρ w' fun x w''=>x=v∧S (k+1) w'')∧K.run v
@[simp ↓] theorem wpA_nil:wpA P S k [] ρ K=K ρ k:=propext Iff.rfl
@[simp ↓] theorem wpA_0 {d:Option Nat} {op:Op} {l:List LO}:wpA P S k (⟨0,d,op,ty,none⟩ :: l) ρ K=opS P 0 op ty ρ default fun v _=>wpA P S k l (ρ.put d v) K:=propext Iff.rfl
@[simp ↓] theorem wpA_1 {d:Option Nat} {op:Op} {l:List LO}:wpA P S k (⟨1,d,op,ty,none⟩ :: l) ρ K=@rdA P S op ty ρ ⟨fun v=>wpA P S k l (ρ.put d v) K⟩:=propext Iff.rfl
@[simp ↓] theorem wpA_2 {d:Option Nat} {op:Op} {l:List LO}:wpA P S k (⟨2,d,op,ty,none⟩ :: l) ρ K=@efA P S 0 op ty ρ k ⟨fun v=>wpA P S (k+1) l (ρ.put d v) K⟩:=propext Iff.rfl
theorem rdA_mk {op:Op} {KA:KontA Value} (v:Value) (h:∀k' w',S k' w'→opS P 1 op ty ρ w' fun x _=>x=v) (hk:KA.run v):@rdA P S op ty ρ KA:=⟨v,h,hk⟩
theorem efA_mk {c:Nat} {op:Op} {KA:KontA Value} (v:Value) (h:∀w',S k w'→opS P (c+2) op ty ρ w' fun x w''=>x=v∧S (k+1) w'') (hk:KA.run v):@efA P S c op ty ρ k KA:=⟨v,h,hk⟩
end
end Go.W
end
section
namespace Go.W
open Go Go.Maps
theorem tyAgg_row {P:Program} {T n:Nat} (h:tyAgg P T=some (some n)):∃d,P.underlying T=some d∧(match d with | .struct _ | .array _ _=>true | _=>false)=true∧(P.info? T).map (·.size)=some n:=by
 unfold tyAgg at h
 split at h
 ·rename_i fs i h1 h2
  simp only [Option.some.injEq] at h
  exact ⟨_,h1,rfl,by rw [h2]; simp [h]⟩
 ·rename_i i h1 h2
  simp only [Option.some.injEq] at h
  exact ⟨_,h1,rfl,by rw [h2]; simp [h]⟩
 ·split at h <;> simp at h
 ·cases h
theorem postL_c1 {P:Program} {ρ:Env} {w:World} {R:Ending→World→Prop} {a T n g E:Nat} {cs:Array Value} {fr:Nat × Nat} (hT:tyAgg P T=some (some n)) (ha:ρ a=.pointer (some ⟨g,0,none⟩)) (hg:w.heap[g]? = some (.cells cs E fr)) (hn:cs.size=n) (hE:E=T)
  (h:R (.returned (.agg cs)) w):postL P [.cell a T] R .ret ρ w:=by
 subst hE
 obtain ⟨d,h1,h2,h3⟩:=tyAgg_row hT
 refine ⟨.agg cs,?_,h⟩
 have:=run_loadVar_row (P:=P) w g E E cs fr d hg h1 (by cases d <;> first | rfl | (simp at h2)) (by rw [h3,hn])
 simp [resAll,resOne,ha,asAddr,this,Result.andThen]
theorem mapM_some {α β:Type} {f:α→Option β} {g:α→β}:∀(l:List α),(∀x ∈ l,f x=some (g x))→l.mapM f=some (l.map g)
 | [],_=>rfl
 | x :: l,h=>by
  rw [List.mapM_cons,h x (by simp),mapM_some l fun y hy=>h y (by simp [hy])]
  rfl
def i64ok (n:Nat):Prop:=n≤9223372036854775807
theorem wf_nat {n:Nat} (h:i64ok n):(Lit.int .i64 (n:Int)).wf=true:=by
 have h1:IntKind.i64.min=-9223372036854775808:=rfl
 have h2:IntKind.i64.max=9223372036854775807:=rfl
 unfold i64ok at h
 simp only [Lit.wf,Bool.and_eq_true,decide_eq_true_eq]
 omega
def ints (l:List Nat):List Value:=l.map fun (n:Nat)=>.int .i64 (n:Int)
theorem keyLits_int {P:Program} {e d:Nat} (he:P.underlying e=some (.int .i64)) {n:Nat} (h:i64ok n):P.keyLits (d+1) e [.int .i64 (n:Int)]=some [.int .i64 (n:Int)]:=by
 unfold Program.keyLits
 simp only [he]
 rw [if_pos ⟨trivial,wf_nat h⟩]
theorem ints_part {l:List Nat} {i:Nat} (h:i < l.length):((ints l).drop i).take 1=[.int .i64 ((l.getD i 0:Nat):Int)]:=by
 have hl:i < (ints l).length:=by simpa [ints] using h
 rw [List.drop_eq_getElem_cons hl]
 simp [ints,List.getD,List.getElem?_eq_getElem h]
theorem key_array {P:Program} {k e n m:Nat} (hu:P.underlying k=some (.array n e)) (he:P.underlying e=some (.int .i64)) (h1:P.cellsOf e=1) (hn:P.cellsOf k=n) (hk:P.keyType k=true) (hm:P.types.size=m+1) {l:List Nat} (hl:l.length=n) (hok:∀x ∈ l,i64ok x) :
  ∃L,keyOf P k (.agg (ints l).toArray)=some L:=by
 have hlen:(ints l).length=n:=by simp [ints,hl]
 have hL:P.keyLits (m+1+1) k (ints l)=some (((List.range n).map fun i=>[Lit.int .i64 ((l.getD i 0:Nat):Int)]).flatten):=by
  unfold Program.keyLits
  simp only [hu]
  rw [if_pos (by rw [hn,hlen]),h1,mapM_some (g:=fun i=>[Lit.int .i64 ((l.getD i 0:Nat):Int)]) (List.range n) fun i hi=>by
   have hil:i < l.length:=by rw [hl]; exact List.mem_range.1 hi
   rw [Nat.mul_one,ints_part hil]
   exact keyLits_int he (hok _ (by simp [List.getD,List.getElem?_eq_getElem hil]))]
  rfl
 refine ⟨.string (keyBytes (((List.range n).map fun i=>[Lit.int .i64 ((l.getD i 0:Nat):Int)]).flatten)),?_⟩
 unfold keyOf
 simp only [hu]
 rw [if_pos (by simp [hk,Value.formed,hu,hn,hlen]),hm]
 have hcs:(Value.agg (ints l).toArray).cells.toList=ints l:=by simp
 rw [hcs,hL]
 rfl
theorem key_struct {P:Program} {k m:Nat} {fs:Array Field} (hu:P.underlying k=some (.struct fs)) (hf:fieldsI P .i64 0 fs.toList=true) (h1:∀f ∈ fs,P.cellsOf f.type=1) (hn:P.cellsOf k=fs.size) (hk:P.keyType k=true) (hm:P.types.size=m+1) {l:List Nat} (hl:l.length=fs.size) (hok:∀x ∈ l,i64ok x) :
  ∃L,keyOf P k (.agg (ints l).toArray)=some L:=by
 have hlen:(ints l).length=fs.size:=by simp [ints,hl]
 have key:∀(gs:List Field) (o:Nat),fieldsI P .i64 o gs=true→(∀f ∈ gs,P.cellsOf f.type=1)→o+gs.length=l.length→∀f ∈ gs,P.keyLits (m+1) f.type (((ints l).drop f.offset).take (P.cellsOf f.type))=some [Lit.int .i64 ((l.getD f.offset 0:Nat):Int)]:=by
  intro gs
  induction gs with
  | nil=>intro o _ _ _ f hf; cases hf
  | cons g gs ih =>
   intro o h hc ho f hfm
   simp only [fieldsI,Bool.and_eq_true,bne_iff_ne,ne_eq,beq_iff_eq] at h
   obtain ⟨⟨⟨e1,e2⟩,e3⟩,e4⟩:=h
   simp only [List.length_cons] at ho
   rcases List.mem_cons.1 hfm with rfl | hm'
   ·have hil:f.offset < l.length:=by omega
    rw [hc f (by simp),ints_part hil]
    exact keyLits_int (intT_ok e3).2 (hok _ (by simp [List.getD,List.getElem?_eq_getElem hil]))
   ·exact ih (o+1) e4 (fun f hf=>hc f (by simp [hf])) (by omega) f hm'
 have names : ∀ (gs : List Field) (o : Nat), fieldsI P .i64 o gs = true → ∀ f ∈ gs, (f.name != "_") = true := by
  intro gs
  induction gs with
  | nil=>intro o _ f hf; cases hf
  | cons g gs ih =>
   intro o h f hfm
   simp only [fieldsI,Bool.and_eq_true] at h
   rcases List.mem_cons.1 hfm with rfl | hm'
   ·exact h.1.1.2
   ·exact ih (o+1) h.2 f hm'
 have hnm : fs.all (fun f => f.name != "_") = true := by
  rw [Array.all_eq_true_iff_forall_mem]
  exact fun f hfm=>names _ 0 hf f (by simpa using hfm)
 have hL:P.keyLits (m+1+1) k (ints l)=some ((fs.toList.map fun f=>[Lit.int .i64 ((l.getD f.offset 0:Nat):Int)]).flatten):=by
  unfold Program.keyLits
  simp only [hu]
  rw [if_pos ⟨by rw [hn,hlen],hnm⟩,mapM_some (g:=fun f:Field=>[Lit.int .i64 ((l.getD f.offset 0:Nat):Int)]) fs.toList fun f hfm=>key fs.toList 0 hf (fun f hf=>h1 f (by simpa using hf)) (by simp [hl]) f hfm]
  rfl
 refine ⟨.string (keyBytes ((fs.toList.map fun f=>[Lit.int .i64 ((l.getD f.offset 0:Nat):Int)]).flatten)),?_⟩
 unfold keyOf
 simp only [hu]
 rw [if_pos (by simp [hk,Value.formed,hu,hn,hlen]),hm]
 have hcs:(Value.agg (ints l).toArray).cells.toList=ints l:=by simp
 rw [hcs,hL]
 rfl
theorem ints_inj {l l':List Nat} (h:Value.agg (ints l).toArray=Value.agg (ints l').toArray):l=l':=by
 injection h with h
 have h:ints l=ints l':=by simpa using h
 unfold ints at h
 exact (List.map_inj_right (fun a b hab=>by injection hab with _ h; omega)).1 h
section
variable {w w1:World} {F:List Nat} {B A C D:Asr}
theorem At.st {b o E:Nat} {c:Array Value} {cs:List Value} {KW:Kont World} (hB:Lcl B) (h:At w F (Star (ObjA b (.cells c E (0,0))) B) w1) (hs:o+cs.length≤c.size) (h1:cs.all oneC=true)
  (H:∀w2,At w F (Star (ObjA b (.cells (wrAt c o cs) E (0,0))) B) w2→KW.run w2):@stJ w1 ⟨b,o,none⟩ cs KW:=by
 rw [stC_eq,row_blk h.obj]
 simp only [optS_some,run_mk]
 refine gd_mk ⟨trivial,hs,h1⟩ ?_
 exact H _ (h.setB hB)
theorem Star.assoc {w:World} {F:List Nat} (h:Star (Star A B) C w F):∃F',Star A (Star B C) w F'∧∀x ∈ F',x ∈ F:=by
 obtain ⟨Fx,Fc,⟨Fa,Fb,h1,h2,d1,rfl⟩,h3,d2,rfl⟩:=h
 refine ⟨_,⟨Fa,_,h1,⟨Fb,Fc,h2,h3,fun x hx hc=>d2 x (by simp [hx]) hc,rfl⟩,fun x hx hm=>?_,rfl⟩,fun x hx=>by simpa using hx⟩
 rcases List.mem_append.1 hm with h | h
 ·exact d1 x hx h
 ·exact d2 x (by simp [hx]) h
theorem Star.assoc' {w:World} {F:List Nat} (h:Star A (Star B C) w F):∃F',Star (Star A B) C w F'∧∀x ∈ F',x ∈ F:=by
 obtain ⟨Fa,Fx,h1,⟨Fb,Fc,h2,h3,d1,rfl⟩,d2,rfl⟩:=h
 refine ⟨_,⟨_,Fc,⟨Fa,Fb,h1,h2,fun x hx hb=>d2 x hx (by simp [hb]),rfl⟩,h3,fun x hx hc=>?_,rfl⟩,fun x hx=>by simpa using hx⟩
 rcases List.mem_append.1 hx with h | h
 ·exact d2 x h (by simp [hc])
 ·exact d1 x h hc
theorem At.assoc (h:At w F (Star (Star A B) C) w1):At w F (Star A (Star B C)) w1:=h.imp fun _ h=>h.assoc
theorem At.assoc' (h:At w F (Star A (Star B C)) w1):At w F (Star (Star A B) C) w1:=h.imp fun _ h=>h.assoc'
def ExA {α:Type} (A:α→Asr):Asr:=fun w F=>∃x,A x w F
theorem Lcl.ex {α:Type} {A:α→Asr} (h:∀x,Lcl (A x)):Lcl (ExA A):=by
 refine ⟨?_,?_⟩
 ·rintro w F ⟨x,hx⟩; exact (h x).lt hx
 ·rintro w F G w' ⟨x,hx⟩ hk hd; exact ⟨x,(h x).kp hx hk hd⟩
theorem At.ex_open {α:Type} {A:α→Asr} (h:At w F (Star (ExA A) B) w1):∃x,At w F (Star (A x) B) w1:=by
 obtain ⟨⟨F1,⟨Fa,Fb,⟨x,h1⟩,h2,hd,e⟩,hn⟩,k⟩:=h
 exact ⟨x,⟨⟨F1,⟨Fa,Fb,h1,h2,hd,e⟩,hn⟩,k⟩⟩
theorem At.ex_close {α:Type} {A:α→Asr} {x:α} (h:At w F (Star (A x) B) w1):At w F (Star (ExA A) B) w1 :=
 h.imp fun F1 ⟨Fa,Fb,h1,h2,hd,e⟩=>⟨F1,⟨Fa,Fb,⟨x,h1⟩,h2,hd,e⟩,fun x hx=>hx⟩
def Imp (A B:Asr):Prop:=∀w F,A w F→∃F',B w F'∧∀x ∈ F',x ∈ F
theorem Imp.rfl {A:Asr}:Imp A A:=fun _ F h=>⟨F,h,fun _ h=>h⟩
theorem Imp.trans {A B C:Asr} (h:Imp A B) (k:Imp B C):Imp A C:=fun w F hA=>by
 obtain ⟨F',h1,h2⟩:=h w F hA
 obtain ⟨F'',h3,h4⟩:=k w F' h1
 exact ⟨F'',h3,fun x hx=>h2 x (h4 x hx)⟩
theorem Imp.sw {A B C:Asr}:Imp (Star A (Star B C)) (Star B (Star A C)):=by
 rintro w F ⟨Fa,Fx,h1,⟨Fb,Fc,h2,h3,hd,rfl⟩,hd2,rfl⟩
 refine ⟨_,⟨Fb,_,h2,⟨Fa,Fc,h1,h3,fun x hx hc=>hd2 x hx (by simp [hc]),_root_.rfl⟩,fun x hx hxa=>?_,_root_.rfl⟩,fun x hx=>?_⟩
 ·rcases List.mem_append.1 hxa with h | h
  ·exact hd2 x h (by simp [hx])
  ·exact hd x hx h
 ·simp only [List.mem_append] at hx ⊢
  rcases hx with h | h | h
  ·exact .inr (.inl h)
  ·exact .inl h
  ·exact .inr (.inr h)
theorem Imp.un {A X Y:Asr} (h:Imp X Y):Imp (Star A X) (Star A Y):=by
 rintro w F ⟨Fa,Fx,h1,h2,hd,rfl⟩
 obtain ⟨F',h3,h4⟩:=h w Fx h2
 refine ⟨_,⟨Fa,F',h1,h3,fun x hx hm=>hd x hx (h4 x hm),_root_.rfl⟩,fun x hx=>?_⟩
 rcases List.mem_append.1 hx with h | h
 ·simp [h]
 ·simp [h4 x h]
theorem Imp.dr {A X:Asr}:Imp (Star A X) X:=by
 rintro w F ⟨Fa,Fx,h1,h2,hd,rfl⟩
 exact ⟨Fx,h2,fun x hx=>by simp [hx]⟩
theorem At.by {A X:Asr} (h:At w F A w1) (i:Imp A X):At w F X w1:=h.imp fun F1 h1=>i w1 F1 h1
theorem At.rot4 {A1 A2 A3 A4 X:Asr} (h:At w F (Star A1 (Star A2 (Star A3 (Star A4 X)))) w1):At w F (Star A4 (Star A1 (Star A2 (Star A3 X)))) w1 :=
 h.by ((Imp.sw.un).un.trans (Imp.sw.un.trans Imp.sw))
theorem At.tor3 {A1 A2 A3 X:Asr} (h:At w F (Star A1 (Star A2 (Star A3 X))) w1):At w F (Star A2 (Star A3 (Star A1 X))) w1 :=
 h.by (Imp.sw.trans Imp.sw.un)
theorem At.tor4 {A1 A2 A3 A4 X:Asr} (h:At w F (Star A1 (Star A2 (Star A3 (Star A4 X)))) w1):At w F (Star A2 (Star A3 (Star A4 (Star A1 X)))) w1 :=
 h.by (Imp.sw.trans (Imp.sw.un.trans Imp.sw.un.un))
end
end Go.W
end
