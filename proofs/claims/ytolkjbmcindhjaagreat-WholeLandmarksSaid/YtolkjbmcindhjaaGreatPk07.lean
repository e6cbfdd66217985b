/-
  A part of the proof of this claim's statement (LibF, LibG, LibH, LibJ, LibK, LibL, TkPlain, TkW1, TkW2): plain theorems; no conditions beyond those each names.
-/
import Derived.Test.YtolkjbmcindhjaaGreatPk05
import Derived.Laws.Rows
import Derived.DeepKeys4
import Derived.Maps.RangeRun
import Derived.Test.YtolkjbmcindhjaaGreatPk06
set_option maxRecDepth 100000
set_option linter.unusedSimpArgs false
set_option linter.unusedVariables false
set_option linter.unusedSectionVars false
section
namespace Go.W
open Go
structure At (w:World) (F:List Nat) (A:Asr) (w1:World):Prop where
 ex:∃F',A w1 F'∧Sub w F F'
 kp:Kp F w w1
theorem At.start {w:World} {F:List Nat} {A:Asr} (h:A w F):At w F A w:=⟨⟨F,h,Sub.refl w F⟩,Kp.refl _ _⟩
section
variable {w w1 w2:World} {F:List Nat} {A A' B C D:Asr}
theorem At.imp (h:At w F A w1) (hi:∀F1,A w1 F1→∃F',A' w1 F'∧∀x ∈ F',x ∈ F1):At w F A' w1:=by
 obtain ⟨⟨F1,h1,hn⟩,k⟩:=h
 obtain ⟨F',h2,hs⟩:=hi F1 h1
 exact ⟨⟨F',h2,fun x hx=>hn x (hs x hx)⟩,k⟩
theorem At.swap (h:At w F (Star A B) w1):At w F (Star B A) w1:=h.imp fun F1 ⟨Fa,Fb,h1,h2,hd,e⟩=>⟨_,⟨Fb,Fa,h2,h1,fun x hx hxa=>hd x hxa hx,rfl⟩,fun x hx=>by
 rw [e]; simpa [or_comm] using hx⟩
theorem At.rot (h:At w F (Star A (Star B C)) w1):At w F (Star B (Star A C)) w1:=h.imp fun F1 ⟨Fa,Fx,h1,⟨Fb,Fc,h2,h3,hd,ex⟩,hd2,e⟩=>by
 subst ex e
 refine ⟨_,⟨Fb,_,h2,⟨Fa,Fc,h1,h3,fun x hx hc=>hd2 x hx (by simp [hc]),rfl⟩,fun x hx hxa=>?_,rfl⟩,fun x hx=>?_⟩
 ·rcases List.mem_append.1 hxa with h | h
  ·exact hd2 x h (by simp [hx])
  ·exact hd x hx h
 ·simp only [List.mem_append] at hx ⊢
  rcases hx with h | h | h
  ·exact .inr (.inl h)
  ·exact .inl h
  ·exact .inr (.inr h)
theorem At.rot3 (h:At w F (Star A (Star B (Star C D))) w1):At w F (Star C (Star A (Star B D))) w1:=h.imp fun F1 ⟨Fa,Fx,h1,⟨Fb,Fy,h2,⟨Fc,Fd,h3,h4,d1,e1⟩,d2,e2⟩,d3,e3⟩=>by
 subst e1 e2 e3
 refine ⟨_,⟨Fc,_,h3,⟨Fa,_,h1,⟨Fb,Fd,h2,h4,fun x hx hd=>d2 x hx (by simp [hd]),rfl⟩,fun x hx hm=>?_,rfl⟩,fun x hx hm=>?_,rfl⟩,fun x hx=>?_⟩
 ·rcases List.mem_append.1 hm with h | h
  ·exact d3 x hx (by simp [h])
  ·exact d3 x hx (by simp [h])
 ·simp only [List.mem_append] at hm
  rcases hm with h | h | h
  ·exact d3 x h (by simp [hx])
  ·exact d2 x h (by simp [hx])
  ·exact d1 x hx h
 ·simp only [List.mem_append] at hx ⊢
  rcases hx with h | h | h | h
  ·exact .inr (.inr (.inl h))
  ·exact .inl h
  ·exact .inr (.inl h)
  ·exact .inr (.inr (.inr h))
theorem At.kp0 (hl:Lcl A) (h:At w F A w1) (hk:Kp [] w1 w2):At w F A w2:=by
 obtain ⟨⟨F1,h1,hn⟩,k⟩:=h
 exact ⟨⟨F1,hl.kp h1 hk (by simp),hn⟩,k.trans0 hk⟩
theorem At.step (hA:Lcl A) (hB:Lcl B) (h:At w F (Star A B) w1) (hk:∀Fa,A w1 Fa→∃F',A' w2 F'∧Kp Fa w1 w2∧Sub w1 Fa F'):At w F (Star A' B) w2:=by
 obtain ⟨⟨F1,⟨Fa,Fb,h1,h2,hd,rfl⟩,hn⟩,k⟩:=h
 obtain ⟨F',h',hk',hs⟩:=hk Fa h1
 refine ⟨⟨_,⟨F',Fb,h',hB.kp h2 hk' (fun x hx hxa=>hd x hxa hx),fun x hx hxb=>?_,rfl⟩,fun x hx=>?_⟩,k.trans' hk' (fun x hx=>hn x (by simp [hx]))⟩
 ·rcases hs x hx with h3 | h3
  ·exact hd x h3 hxb
  ·have:=hB.lt h2 x hxb; omega
 ·rcases List.mem_append.1 hx with h3 | h3
  ·rcases hs x h3 with h4 | h4
   ·exact hn x (by simp [h4])
   ·have:=k.size; exact .inr (by omega)
  ·exact hn x (by simp [h3])
theorem At.more (hB:Lcl B) (h:At w F B w1) (hk:Kp [] w1 w2) (ha:∃F1,A w2 F1∧∀x ∈ F1,w1.heap.size≤x):At w F (Star A B) w2:=by
 obtain ⟨⟨Fb,h1,hn⟩,k⟩:=h
 obtain ⟨Fa,h2,hn2⟩:=ha
 refine ⟨⟨_,⟨Fa,Fb,h2,hB.kp h1 hk (by simp),fun x hx hxb=>?_,rfl⟩,fun x hx=>?_⟩,k.trans0 hk⟩
 ·have:=hB.lt h1 x hxb; have:=hn2 x hx; omega
 ·rcases List.mem_append.1 hx with h3 | h3
  ·have:=hn2 x h3; have:=k.size; exact .inr (by omega)
  ·exact hn x h3
theorem At.drop (h:At w F (Star A B) w1):At w F B w1:=h.imp fun F1 ⟨Fa,Fb,h1,h2,hd,e⟩=>⟨Fb,h2,fun x hx=>by rw [e]; simp [hx]⟩
theorem At.get (h:At w F (Star A B) w1):∃F1,A w1 F1:=by
 obtain ⟨⟨F1,⟨Fa,Fb,h1,_⟩,_⟩,_⟩:=h
 exact ⟨Fa,h1⟩
theorem At.obj {b:Nat} {o:Obj} (h:At w F (Star (ObjA b o) B) w1):w1.heap[b]? = some o:=by
 obtain ⟨F1,h1⟩:=h.get
 exact h1.1
theorem At.setB {b:Nat} {o o':Obj} (hB:Lcl B) (h:At w F (Star (ObjA b o) B) w1):At w F (Star (ObjA b o') B) (w1.setB b o'):=by
 refine h.step Lcl.obj hB ?_
 rintro Fa ⟨h1,rfl⟩
 exact ⟨[b],⟨setB_new (lt_of_blk h1),rfl⟩,(Kp.refl _ _).setB (.inl (by simp)) _,fun x hx=>.inl hx⟩
theorem At.alloc (o:Obj) (hB:Lcl B) (h:At w F B w1):At w F (Star (ObjA w1.heap.size o) B) (w1.alloc o) :=
 h.more hB ((Kp.refl _ _).alloc _) ⟨_,⟨alloc_new,rfl⟩,by simp⟩
theorem At.drew (hA:Lcl A) (h:At w F A w1):At w F A w1.drew:=h.kp0 hA (Kp.refl [] w1).drew
end
section
variable {α:Type} {enc:α→List Value} {E sz:Nat} {l:List α} {v:Value} {B:Asr} {w w1:World} {F:List Nat}
theorem At.own (h:At w F (Star (OwnA v E sz enc l) B) w1):Own w1 v E sz enc l:=by
 obtain ⟨F1,h1,_⟩:=h.get
 exact h1
theorem At.store {KW:Kont World} (hB:Lcl B) (h:At w F (Star (OwnA v E sz enc l) B) w1) (he:∀x,(enc x).length=sz) (h1:∀x,(enc x).all oneC=true) {k:Nat} (hk:k < l.length) {x:α} {cs:List Value} (hcs:cs=enc x)
  (H:∀w2,At w F (Star (OwnA v E sz enc (l.set k x)) B) w2→KW.run w2):@stJ w1 ⟨v.blk,k * sz,none⟩ cs KW:=by
 refine h.own.store he h1 hk hcs fun w2 hk2 hs2 ho2=>H w2 (h.step Lcl.own hB ?_)
 rintro Fa ⟨ho,rfl⟩
 exact ⟨_,⟨ho2,rfl⟩,by rw [ho.own_eq hk]; exact hk2,fun x hx=>.inl hx⟩
theorem At.store1 {KW:Kont World} (hB:Lcl B) (h:At w F (Star (OwnA v E 1 enc l) B) w1) (he:∀x,(enc x).length=1) (h1:∀x,(enc x).all oneC=true) {k:Nat} (hk:k < l.length) {x:α} {cs:List Value} (hcs:cs=enc x)
  (H:∀w2,At w F (Star (OwnA v E 1 enc (l.set k x)) B) w2→KW.run w2):@stJ w1 ⟨v.blk,k,none⟩ cs KW:=by
 have:=h.store (KW:=KW) hB he h1 hk hcs H
 rwa [Nat.mul_one] at this
theorem At.append {P:Program} {KV:Kont (Value × World)} {T ty by_:Nat} {z:List Value} (hB:Lcl B) (h:At w F (Star (OwnA v E sz enc l) B) w1) (he:∀x,(enc x).length=sz) (h1:∀x,(enc x).all oneC=true)
  (hT:slInfo P T=some (E,sz,by_,z)) {a:Addr} {m c:Nat} {xs:List α} (hm:xs.length=m) (hx:∀j u,(xs.flatMap enc)[j]? = some u→w1.cell? (a.add j)=some u)
  (hb:(l.length+m) * by_≤140737488355328) (hmax:l.length+m≤maxLen)
  (H:∀v' w2,At w F (Star (OwnA v' E sz enc (l ++ xs)) B) w2→KV.run (v',w2)) :
  @efH P (Builtin.append_ #[T,T] ty [v,.slice (some a) m c].toArray) w1 KV:=by
 refine h.own.append he h1 hT hm hx hb hmax fun v' w2 hk2 ho2 hs2=>H v' w2 (h.step Lcl.own hB ?_)
 rintro Fa ⟨ho,rfl⟩
 exact ⟨_,⟨ho2,rfl⟩,hk2,hs2⟩
theorem At.appendV {P:Program} {KV:Kont (Value × World)} {T ty by_:Nat} {z:List Value} {u:Value} {xs:List α} (hB:Lcl B) (h:At w F (Star (OwnA v E sz enc l) B) w1) (hu:Vw w1 u enc xs) (he:∀x,(enc x).length=sz) (h1:∀x,(enc x).all oneC=true)
  (hT:slInfo P T=some (E,sz,by_,z)) (hb:(l.length+xs.length) * by_≤140737488355328) (hmax:l.length+xs.length≤maxLen)
  (H:∀v' w2,At w F (Star (OwnA v' E sz enc (l ++ xs)) B) w2→KV.run (v',w2)) :
  @efH P (Builtin.append_ #[T,T] ty [v,u].toArray) w1 KV:=by
 refine h.own.appendV hu he h1 hT hb hmax fun v' w2 hk2 ho2 hs2=>H v' w2 (h.step Lcl.own hB ?_)
 rintro Fa ⟨ho,rfl⟩
 exact ⟨_,⟨ho2,rfl⟩,hk2,hs2⟩
theorem At.nil (hB:Lcl B) (h:At w F B w1):At w F (Star (OwnA (.slice none 0 0) E sz enc []) B) w1 :=
 h.more hB (Kp.refl _ _) ⟨_,⟨Own.nil _ _ _ _,rfl⟩,by simp⟩
theorem At.made {n:Nat} {x:α} {z:List Value} (hB:Lcl B) (h:At w F B w1) (hz:z=enc x) (he:∀x,(enc x).length=sz) (hn:n≤maxLen) :
  At w F (Star (OwnA (.slice (some ⟨w1.heap.size,0,none⟩) n n) E sz enc (List.replicate n x)) B) (w1.alloc (.cells (rowOf z n).toArray E)) :=
 h.more hB ((Kp.refl _ _).alloc _) ⟨_,⟨Own.made hz he hn,rfl⟩,by simp⟩
theorem At.lit {xs:List α} {cs:Array Value} (hB:Lcl B) (h:At w F B w1) (hcs:cs.toList=xs.flatMap enc) (he:∀x,(enc x).length=sz) (hn:xs.length≤maxLen) {m:Nat} (hm:m=xs.length) :
  At w F (Star (OwnA (.slice (some ⟨w1.heap.size,0,none⟩) m m) E sz enc xs) B) (w1.alloc (.cells cs E)):=by
 subst hm
 exact h.more hB ((Kp.refl _ _).alloc _) ⟨_,⟨.inr ⟨w1.heap.size,xs.length,cs,[],rfl,alloc_new,by simpa using hcs,by simp,Nat.le_refl _,hn⟩,rfl⟩,by simp⟩
end
def VwA {α:Type} (v:Value) (enc:α→List Value) (l:List α):Asr:=fun w F=>Vw w v enc l∧F=v.own∧∀x ∈ v.own,x < w.heap.size
theorem Lcl.vw {α:Type} {v:Value} {enc:α→List Value} {l:List α}:Lcl (VwA v enc l):=by
 refine ⟨?_,?_⟩
 ·rintro w F ⟨h,rfl,hlt⟩ x hx; exact hlt x hx
 ·rintro w F G w' ⟨h,rfl,hlt⟩ hk hd
  exact ⟨h.kp hk hd,rfl,fun x hx=>by have:=hlt x hx; have:=hk.size; omega⟩
theorem At.vw {α:Type} {v:Value} {enc:α→List Value} {l:List α} {w w1:World} {F:List Nat} {B:Asr} (h:At w F (Star (VwA v enc l) B) w1):Vw w1 v enc l:=by
 obtain ⟨F1,h1,_⟩:=h.get
 exact h1
theorem At.own_vw {α:Type} {v:Value} {E sz:Nat} {enc:α→List Value} {l:List α} {w w1:World} {F:List Nat} {B:Asr} (h:At w F (Star (OwnA v E sz enc l) B) w1):At w F (Star (VwA v enc l) B) w1:=h.imp fun F1 ⟨Fa,Fb,⟨h1,e1⟩,h2,hd,e⟩=>by
 subst e e1
 refine ⟨_,⟨v.own,Fb,⟨h1.vw,rfl,fun x hx=>?_⟩,h2,hd,rfl⟩,fun x hx=>hx⟩
 rcases h1 with ⟨rfl,_⟩ | ⟨g,cap,cur,junk,rfl,hh,_⟩
 ·cases hx
 ·simp at hx; subst hx; exact lt_of_blk hh
section
open Go.Maps
variable {κ α:Type} [DecidableEq κ] {ek:κ→Value} {ev:α→Value} {ok:κ→Prop} {P:Program} {k e t:TypeId} {l:List (κ × α)} {b:Nat} {B:Asr} {w w1:World} {F:List Nat}
def MapA (b:Nat) (ek:κ→Value) (ev:α→Value) (ok:κ→Prop) (l:List (κ × α)):Asr:=fun w F=>MapM w b ek ev ok l∧F=[b]
theorem Lcl.map:Lcl (MapA b ek ev ok l):=by
 refine ⟨?_,?_⟩
 ·rintro w F ⟨h,rfl⟩ x hx
  simp at hx; subst hx; exact h.lt
 ·rintro w F G w' ⟨h,rfl⟩ hk hd
  exact ⟨h.kp hk (hd b (by simp)),rfl⟩
theorem At.map (h:At w F (Star (MapA b ek ev ok l) B) w1):MapM w1 b ek ev ok l:=by
 obtain ⟨F1,h1,_⟩:=h.get
 exact h1
theorem At.newmap (hB:Lcl B) (h:At w F B w1):At w F (Star (MapA w1.heap.size ek ev ok ([]:List (κ × α))) B) (w1.alloc (.map #[] 0)) :=
 h.more hB ((Kp.refl _ _).alloc _) ⟨_,⟨MapM.new _,rfl⟩,by simp⟩
theorem At.put {KW:Kont World} {x:κ} {v:α} (hB:Lcl B) (h:At w F (Star (MapA b ek ev ok l) B) w1) (hk:KeyEnc P k ek ok) (ht:P.underlying t=some (.map k e)) (hx:ok x) (hl:l.length < maxLen)
  (H:∀w2,At w F (Star (MapA b ek ev ok (putM l x v)) B) w2→KW.run w2):@efuH P (Instr.mapUpdate t (.map (some b)) (ek x) (ev v)) w1 KW:=by
 obtain ⟨o,hr,hm⟩:=h.map.store hk ht hx v hl
 refine efu_mk hr (H _ (h.step Lcl.map hB ?_))
 rintro Fa ⟨h1,rfl⟩
 exact ⟨[b],⟨hm,rfl⟩,(Kp.refl _ _).setB (.inl (by simp)) _,fun x hx=>.inl hx⟩
theorem MapM.look1 {K:Kont Value} {x:κ} (h:MapM w b ek ev ok l) (hk:KeyEnc P k ek ok) (ht:P.underlying t=some (.map k e)) {z:Value} (hz:∀w,(zeroValue e).run P w=.ok z w) (hx:ok x)
  (H:K.run (((getM l x).map ev).getD z)):@rdH P (Instr.lookup t (.map (some b)) (ek x) false) w K :=
 rd_mk (fun w' hw=>by have:=MapM.look (h.ext hw) hk ht (hz w') hx false; simpa using this) H
end
end Go.W
end
section
namespace Go.W
open Go
section
variable (P:Program) (S:Nat→World→Prop)
def stA (c:Nat) (op:Op) (ty:TypeId) (ρ:Env) (k:Nat) (N:Value→Nat→Prop):Prop :=
 match c with
 | 0=>opS P 0 op ty ρ default fun v _=>N v k
 | 1=>∃v,(∀k' w',S k' w'→opS P 1 op ty ρ w' fun x _=>x=v)∧N v k
 | c+2=>∃v,(∀w',S k w'→opS P (c+2) op ty ρ w' fun x w''=>x=v∧S (k+1) w'')∧N v (k+1)
def wpA:Nat→List LO→Env→(Env→Nat→Prop)→Prop
 | k,[],ρ,K=>K ρ k
 | k,⟨c,d,op,ty,none⟩ :: l,ρ,K=>stA P S c op ty ρ k fun v k'=>wpA k' l (ρ.put d v) K
 | k,⟨c,d,op,ty,some (g,b)⟩ :: l,ρ,K=>gd (ρ g) b (stA P S c op ty ρ k fun v k'=>wpA k' l (ρ.put d v) K) (wpA k l (ρ.put d undef) K)
end
def LO.reads (o:LO):List Nat:=(o.op.operands.toList.filterMap fun | .tmp t=>some t | _=>none) ++ (match o.guard with | some (g,_)=>[g] | none=>[])
section
variable {P:Program} {S:Nat→World→Prop} {los:List LO} {deps:List Nat}
theorem exec_env {op:Op} {ty:TypeId} {ρ ρ':Env} (hs:isSel op=false) (h:∀t,Operand.tmp t ∈ op.operands→ρ t=ρ' t):LO.exec op ty ρ=LO.exec op ty ρ':=by
 refine execOp_congr (ρ:=ρ.ev) (ρ':=ρ'.ev) _ (fun cs b he=>?_) (fun x hx=>?_)
 ·have he:op=.select cs b:=he
  rw [he] at hs; cases hs
 ·cases x with
  | tmp t=>exact h t hx
  | const v=>rfl
  | global g=>rfl
  | func f=>rfl
theorem stepL_env {c:Nat} {op:Op} {ty:TypeId} {ρ ρ':Env} {w:World} {K:Value→World→Prop} (hs:isSel op=false) (h:∀t,Operand.tmp t ∈ op.operands→ρ t=ρ' t) (hh:stepL P c op ty ρ w K):stepL P c op ty ρ' w K:=by
 unfold stepL step0 step1 step3 step2 at *
 rw [←exec_env hs h]; exact hh
end
section
variable {P:Program} {S:Nat→World→Prop} {ρ:Env} {K:Env→Nat→Prop} {k:Nat} {ty:Nat}
class KontA (α:Type) where
 run:α→Prop
@[simp] theorem runA_mk {α:Type} {f:α→Prop} {x:α}:@KontA.run α ⟨f⟩ x=f x:=propext Iff.rfl
def rdA (P:Program) (S:Nat→World→Prop) (op:Op) (ty:Nat) (ρ:Env) [K:KontA Value]:Prop:=∃v,(∀k' w',S k' w'→opS P 1 op ty ρ w' fun x _=>x=v)∧K.run v
def efA (P:Program) (S:Nat→World→Prop) (c:Nat) (op:Op) (ty:Nat) (ρ:Env) (k:Nat) [K:KontA Value]:Prop:=∃v,(∀w',S k w'→opS P (c+2) op ty ρ w' fun x w''=>x=v∧S (k+1) w'')∧K.run v
@[simp ↓] theorem wpA_nil:wpA P S k [] ρ K=K ρ k:=propext Iff.rfl
@[simp ↓] theorem wpA_0 {d:Option Nat} {op:Op} {l:List LO}:wpA P S k (⟨0,d,op,ty,none⟩ :: l) ρ K=opS P 0 op ty ρ default fun v _=>wpA P S k l (ρ.put d v) K:=propext Iff.rfl
@[simp ↓] theorem wpA_1 {d:Option Nat} {op:Op} {l:List LO}:wpA P S k (⟨1,d,op,ty,none⟩ :: l) ρ K=@rdA P S op ty ρ ⟨fun v=>wpA P S k l (ρ.put d v) K⟩:=propext Iff.rfl
@[simp ↓] theorem wpA_2 {d:Option Nat} {op:Op} {l:List LO}:wpA P S k (⟨2,d,op,ty,none⟩ :: l) ρ K=@efA P S 0 op ty ρ k ⟨fun v=>wpA P S (k+1) l (ρ.put d v) K⟩:=propext Iff.rfl
end
end Go.W
end
section
namespace Go.W
open Go Go.Maps
theorem tyAgg_row {P:Program} {T n:Nat} (h:tyAgg P T=some (some n)):∃d,P.underlying T=some d∧(match d with | .struct _ | .array _ _=>true | _=>false)=true∧(P.info? T).map (·.size)=some n:=by
 unfold tyAgg at h
 split at h
 ·rename_i fs i h1 h2
  simp only [Option.some.injEq] at h
  exact ⟨_,h1,rfl,by rw [h2]; simp [h]⟩
 ·rename_i i h1 h2
  simp only [Option.some.injEq] at h
  exact ⟨_,h1,rfl,by rw [h2]; simp [h]⟩
 ·split at h <;> simp at h
 ·cases h
theorem postL_c1 {P:Program} {ρ:Env} {w:World} {R:Ending→World→Prop} {a T n g E:Nat} {cs:Array Value} {fr:Nat × Nat} (hT:tyAgg P T=some (some n)) (ha:ρ a=.pointer (some ⟨g,0,none⟩)) (hg:w.heap[g]? = some (.cells cs E fr)) (hn:cs.size=n) (hE:E=T)
  (h:R (.returned (.agg cs)) w):postL P [.cell a T] R .ret ρ w:=by
 subst hE
 obtain ⟨d,h1,h2,h3⟩:=tyAgg_row hT
 refine ⟨.agg cs,?_,h⟩
 have:=run_loadVar_row (P:=P) w g E E cs fr d hg h1 (by cases d <;> first | rfl | (simp at h2)) (by rw [h3,hn])
 simp [resAll,resOne,ha,asAddr,this,Result.andThen]
section
variable {w w1:World} {F:List Nat} {B A C D:Asr}
theorem At.st {b o E:Nat} {c:Array Value} {cs:List Value} {KW:Kont World} (hB:Lcl B) (h:At w F (Star (ObjA b (.cells c E (0,0))) B) w1) (hs:o+cs.length≤c.size) (h1:cs.all oneC=true)
  (H:∀w2,At w F (Star (ObjA b (.cells (wrAt c o cs) E (0,0))) B) w2→KW.run w2):@stJ w1 ⟨b,o,none⟩ cs KW:=by
 rw [stC_eq,row_blk h.obj]
 simp only [optS_some,run_mk]
 refine gd_mk ⟨trivial,hs,h1⟩ ?_
 exact H _ (h.setB hB)
theorem Star.assoc {w:World} {F:List Nat} (h:Star (Star A B) C w F):∃F',Star A (Star B C) w F'∧∀x ∈ F',x ∈ F:=by
 obtain ⟨Fx,Fc,⟨Fa,Fb,h1,h2,d1,rfl⟩,h3,d2,rfl⟩:=h
 refine ⟨_,⟨Fa,_,h1,⟨Fb,Fc,h2,h3,fun x hx hc=>d2 x (by simp [hx]) hc,rfl⟩,fun x hx hm=>?_,rfl⟩,fun x hx=>by simpa using hx⟩
 rcases List.mem_append.1 hm with h | h
 ·exact d1 x hx h
 ·exact d2 x (by simp [hx]) h
theorem Star.assoc' {w:World} {F:List Nat} (h:Star A (Star B C) w F):∃F',Star (Star A B) C w F'∧∀x ∈ F',x ∈ F:=by
 obtain ⟨Fa,Fx,h1,⟨Fb,Fc,h2,h3,d1,rfl⟩,d2,rfl⟩:=h
 refine ⟨_,⟨_,Fc,⟨Fa,Fb,h1,h2,fun x hx hb=>d2 x hx (by simp [hb]),rfl⟩,h3,fun x hx hc=>?_,rfl⟩,fun x hx=>by simpa using hx⟩
 rcases List.mem_append.1 hx with h | h
 ·exact d2 x h (by simp [hc])
 ·exact d1 x h hc
theorem At.assoc (h:At w F (Star (Star A B) C) w1):At w F (Star A (Star B C)) w1:=h.imp fun _ h=>h.assoc
theorem At.assoc' (h:At w F (Star A (Star B C)) w1):At w F (Star (Star A B) C) w1:=h.imp fun _ h=>h.assoc'
def ExA {α:Type} (A:α→Asr):Asr:=fun w F=>∃x,A x w F
theorem Lcl.ex {α:Type} {A:α→Asr} (h:∀x,Lcl (A x)):Lcl (ExA A):=by
 refine ⟨?_,?_⟩
 ·rintro w F ⟨x,hx⟩; exact (h x).lt hx
 ·rintro w F G w' ⟨x,hx⟩ hk hd; exact ⟨x,(h x).kp hx hk hd⟩
theorem At.ex_open {α:Type} {A:α→Asr} (h:At w F (Star (ExA A) B) w1):∃x,At w F (Star (A x) B) w1:=by
 obtain ⟨⟨F1,⟨Fa,Fb,⟨x,h1⟩,h2,hd,e⟩,hn⟩,k⟩:=h
 exact ⟨x,⟨⟨F1,⟨Fa,Fb,h1,h2,hd,e⟩,hn⟩,k⟩⟩
theorem At.ex_close {α:Type} {A:α→Asr} {x:α} (h:At w F (Star (A x) B) w1):At w F (Star (ExA A) B) w1 :=
 h.imp fun F1 ⟨Fa,Fb,h1,h2,hd,e⟩=>⟨F1,⟨Fa,Fb,⟨x,h1⟩,h2,hd,e⟩,fun x hx=>hx⟩
def Imp (A B:Asr):Prop:=∀w F,A w F→∃F',B w F'∧∀x ∈ F',x ∈ F
theorem Imp.rfl {A:Asr}:Imp A A:=fun _ F h=>⟨F,h,fun _ h=>h⟩
theorem Imp.trans {A B C:Asr} (h:Imp A B) (k:Imp B C):Imp A C:=fun w F hA=>by
 obtain ⟨F',h1,h2⟩:=h w F hA
 obtain ⟨F'',h3,h4⟩:=k w F' h1
 exact ⟨F'',h3,fun x hx=>h2 x (h4 x hx)⟩
theorem Imp.sw {A B C:Asr}:Imp (Star A (Star B C)) (Star B (Star A C)):=by
 rintro w F ⟨Fa,Fx,h1,⟨Fb,Fc,h2,h3,hd,rfl⟩,hd2,rfl⟩
 refine ⟨_,⟨Fb,_,h2,⟨Fa,Fc,h1,h3,fun x hx hc=>hd2 x hx (by simp [hc]),_root_.rfl⟩,fun x hx hxa=>?_,_root_.rfl⟩,fun x hx=>?_⟩
 ·rcases List.mem_append.1 hxa with h | h
  ·exact hd2 x h (by simp [hx])
  ·exact hd x hx h
 ·simp only [List.mem_append] at hx ⊢
  rcases hx with h | h | h
  ·exact .inr (.inl h)
  ·exact .inl h
  ·exact .inr (.inr h)
theorem Imp.un {A X Y:Asr} (h:Imp X Y):Imp (Star A X) (Star A Y):=by
 rintro w F ⟨Fa,Fx,h1,h2,hd,rfl⟩
 obtain ⟨F',h3,h4⟩:=h w Fx h2
 refine ⟨_,⟨Fa,F',h1,h3,fun x hx hm=>hd x hx (h4 x hm),_root_.rfl⟩,fun x hx=>?_⟩
 rcases List.mem_append.1 hx with h | h
 ·simp [h]
 ·simp [h4 x h]
theorem Imp.dr {A X:Asr}:Imp (Star A X) X:=by
 rintro w F ⟨Fa,Fx,h1,h2,hd,rfl⟩
 exact ⟨Fx,h2,fun x hx=>by simp [hx]⟩
theorem At.by {A X:Asr} (h:At w F A w1) (i:Imp A X):At w F X w1:=h.imp fun F1 h1=>i w1 F1 h1
end
end Go.W
end
section
namespace Go.W
open Go Go.Maps
section
variable {P:Program} {ρ:Env} {w:World} {K:Env→World→Prop}
@[simp ↓] theorem wpAlts_more {a b:List LO} {l:List (List LO)}:wpAlts P ρ w K (a :: b :: l)=(wpT P a ρ w K∧wpAlts P ρ w K (b :: l)):=propext Iff.rfl
end
end Go.W
namespace Go.W
open Go Go.Maps
section
variable {α:Type} {enc:α→List Value} {sz E:Nat} {l:List α} {v:Value} {w:World}
end
section
variable {α:Type} {enc:α→List Value} {sz E:Nat} {l:List α} {v:Value} {w:World}
end
abbrev Cell1:={v:Value // oneC v=true}
section
variable {α:Type} {enc:α→List Value} {w w1:World} {F:List Nat} {B:Asr} {E:Nat}
def sv1 (p:Cell1 × List α):List Value:=[p.1.1]
theorem sv1_len (p:Cell1 × List α):(sv1 p).length=1:=rfl
theorem sv1_one (p:Cell1 × List α):(sv1 p).all oneC=true:=by simp [sv1,p.1.2]
def VwsA (enc:α→List Value) (ps:List (Cell1 × List α)):Asr:=fun w F=>(∀p ∈ ps,Vw w p.1.1 enc p.2)∧(∀x ∈ F,x < w.heap.size)∧F=ps.flatMap fun p=>p.1.1.own
theorem Lcl.vws {ps:List (Cell1 × List α)}:Lcl (VwsA enc ps):=by
 refine ⟨?_,?_⟩
 ·rintro w F ⟨_,h,_⟩; exact h
 ·rintro w F G w' ⟨h1,h2,rfl⟩ hk hd
  refine ⟨fun p hp=>(h1 p hp).kp hk fun x hx=>hd x (List.mem_flatMap.2 ⟨p,hp,hx⟩),fun x hx=>?_,rfl⟩
  have:=h2 x hx; have:=hk.size; omega
theorem At.vws {ps:List (Cell1 × List α)} (h:At w F (Star (VwsA enc ps) B) w1) {p:Cell1 × List α} (hp:p ∈ ps):Vw w1 p.1.1 enc p.2:=by
 obtain ⟨F1,h1,_⟩:=h.get
 exact h1 p hp
theorem VwsA.add {ps:List (Cell1 × List α)} {v:Value} {l:List α} {X:Asr} (ho:oneC v=true):Imp (Star (VwA v enc l) (Star (VwsA enc ps) X)) (Star (VwsA enc (ps ++ [(⟨v,ho⟩,l)])) X):=by
 rintro w F ⟨Fa,Fx,⟨h1,rfl,h1'⟩,⟨Fb,Fc,⟨h2,h2',rfl⟩,h3,d1,rfl⟩,d2,rfl⟩
 refine ⟨_,⟨_,Fc,⟨fun p hp=>?_,fun x hx=>?_,rfl⟩,h3,fun x hx hc=>?_,rfl⟩,fun x hx=>?_⟩
 ·rcases List.mem_append.1 hp with h | h
  ·exact h2 p h
  ·simp at h; subst h; exact h1
 ·simp only [List.flatMap_append,List.flatMap_cons,List.flatMap_nil,List.append_nil] at hx
  rcases List.mem_append.1 hx with h | h
  ·exact h2' x h
  ·exact h1' x h
 ·simp only [List.flatMap_append,List.flatMap_cons,List.flatMap_nil,List.append_nil] at hx
  rcases List.mem_append.1 hx with h | h
  ·exact d1 x h hc
  ·exact d2 x h (by simp [hc])
 ·simp only [List.flatMap_append,List.flatMap_cons,List.flatMap_nil,List.append_nil] at hx
  simp only [List.mem_append] at hx ⊢
  rcases hx with (h | h) | h
  ·exact .inr (.inl h)
  ·exact .inl h
  ·exact .inr (.inr h)
theorem VwsA.nil {X:Asr} (hX:Lcl X) (h:At w F X w1):At w F (Star (VwsA enc []) X) w1 :=
 h.more hX (Kp.refl _ _) ⟨[],⟨by simp,by simp,by simp⟩,by simp⟩
def LLA (v:Value) (E:Nat) (enc:α→List Value) (ls:List (List α)):Asr:=ExA fun ps:{ps:List (Cell1 × List α) // ps.map (·.2)=ls}=>Star (OwnA v E 1 sv1 ps.1) (VwsA enc ps.1)
theorem Lcl.ll {v:Value} {ls:List (List α)}:Lcl (LLA v E enc ls):=Lcl.ex fun _=>Lcl.own.star Lcl.vws
theorem LLA.opn {v:Value} {ls:List (List α)} (h:At w F (Star (LLA v E enc ls) B) w1):∃ps:List (Cell1 × List α),ps.map (·.2)=ls∧At w F (Star (OwnA v E 1 sv1 ps) (Star (VwsA enc ps) B)) w1:=by
 obtain ⟨⟨ps,hp⟩,h⟩:=h.ex_open
 exact ⟨ps,hp,h.assoc⟩
theorem LLA.cls {v:Value} {ls:List (List α)} {ps:List (Cell1 × List α)} (hp:ps.map (·.2)=ls) (h:At w F (Star (OwnA v E 1 sv1 ps) (Star (VwsA enc ps) B)) w1):At w F (Star (LLA v E enc ls) B) w1 :=
 At.ex_close (x:=(⟨ps,hp⟩:{ps:List (Cell1 × List α) // ps.map (·.2)=ls})) h.assoc'
theorem LLA.nil (hB:Lcl B) (h:At w F B w1):At w F (Star (LLA (.slice none 0 0) E enc []) B) w1 :=
 LLA.cls (ps:=[]) rfl (At.nil (Lcl.vws.star hB) (VwsA.nil hB h))
end
end Go.W
namespace Go.W
end Go.W
namespace Go.W
open Go
end Go.W
namespace Go.W
theorem Imp.un2 {A B X Y:Asr} (h:Imp X Y):Imp (Star A (Star B X)) (Star A (Star B Y)):=Imp.un (Imp.un h)
theorem Imp.un3 {A B C X Y:Asr} (h:Imp X Y):Imp (Star A (Star B (Star C X))) (Star A (Star B (Star C Y))):=Imp.un (Imp.un2 h)
end Go.W
end
section
namespace Go.W
open Go
section
variable {P:Program} {los:List LO} {deps:List Nat} {ρ:Env} {w:World} {Q:Ex→Env→World→Prop} {outs:List Nat}
end
end Go.W
namespace Go.W
open Go
section
variable {α:Type} {enc:α→List Value} {w w1:World} {F:List Nat} {B X:Asr}
theorem VwsA.sub {ps qs:List (Cell1 × List α)} (hs:∀p ∈ qs,p ∈ ps):Imp (Star (VwsA enc ps) X) (Star (VwsA enc qs) X):=by
 rintro w F ⟨Fb,Fc,⟨h2,h2',rfl⟩,h3,d1,rfl⟩
 have sub:∀x,x ∈ qs.flatMap (fun p=>p.1.1.own)→x ∈ ps.flatMap (fun p=>p.1.1.own):=fun x hx=>by
  obtain ⟨q,hq,hq2⟩:=List.mem_flatMap.1 hx
  exact List.mem_flatMap.2 ⟨q,hs q hq,hq2⟩
 refine ⟨_,⟨_,Fc,⟨fun q hq=>h2 q (hs q hq),fun x hx=>h2' x (sub x hx),rfl⟩,h3,fun x hx hc=>d1 x (sub x hx) hc,rfl⟩,fun x hx=>?_⟩
 rcases List.mem_append.1 hx with h | h
 ·exact List.mem_append.2 (.inl (sub x h))
 ·exact List.mem_append.2 (.inr h)
end
end Go.W
namespace Go.W
open Go
section
variable {P:Program} {los:List LO} {deps:List Nat} {ρ:Env} {w:World} {Q:Ex→Env→World→Prop} {outs:List Nat}
end
end Go.W
namespace Go.W
open Go
theorem postL_c2 {P:Program} {ρ:Env} {w:World} {R:Ending→World→Prop} {a T n g E t:Nat} {cs:Array Value} {fr:Nat × Nat} (hT:tyAgg P T=some (some n)) (ha:ρ a=.pointer (some ⟨g,0,none⟩)) (hg:w.heap[g]? = some (.cells cs E fr)) (hn:cs.size=n) (hE:E=T)
  (h:R (.returned (.tuple #[.agg cs,ρ t])) w):postL P [.cell a T,.tmp t] R .ret ρ w:=by
 subst hE
 obtain ⟨d,h1,h2,h3⟩:=tyAgg_row hT
 refine ⟨.tuple #[.agg cs,ρ t],?_,h⟩
 have:=run_loadVar_row (P:=P) w g E E cs fr d hg h1 (by cases d <;> first | rfl | (simp at h2)) (by rw [h3,hn])
 simp [resAll,resOne,ha,asAddr,this,Result.andThen]
section
variable {A B C D E G I X:Asr}
end
end Go.W
end
section
namespace Go.W
open Go
def mth (P:Program) (t:TypeId) (name:String):Option (Nat × Bool):=(P.info? t).bind fun i=>(i.methods.find? (·.name == name)).bind fun m=>if m.path.isEmpty then m.func else none
def ivH (P:Program) (w:World) (v:Value) (name:String) (args:List Value) [k:Kont (Value × World)]:Prop:=upon2 P (fun v w'=>k.run (v,w')) ((callMethod v name args.toArray).run P w)
section
variable {P:Program} {ρ:Env} {w:World} {KW:Value→World→Prop} {KV:Kont (Value × World)} {ty:Nat} {args:List Value} {name:String} {v:Value}
@[simp ↓] theorem opS_invoke {r:Operand} {m:String} {args:Array Operand} {tys:Array Nat}:opS P 2 (.call ⟨.invoke r m,args,tys⟩) ty ρ w KW=@ivH P w (ρ.ev r) m (args.toList.map ρ.ev) ⟨fun q=>KW q.1 q.2⟩:=by
 show upon2 P KW _=upon2 P KW _
 congr 1
 have e:(#[ρ.ev r] ++ args.map ρ.ev).extract 1 (#[ρ.ev r] ++ args.map ρ.ev).size=(args.toList.map ρ.ev).toArray:=by
  apply Array.ext'
  simp
  exact List.take_of_length_le (by simp)
 have h0:(#[ρ.ev r] ++ args.map ρ.ev)[0]? = some (ρ.ev r):=by
  rw [Array.getElem?_append_left (by simp)]; rfl
 simp only [LO.exec,execOp,resolve,Sem.run_bind,Sem.run_pure,Result.andThen_ok,invoke,h0,e]
theorem mth_spec {t f:Nat} {b:Bool} (h:mth P t name=some (f,b)):∃i m,P.info? t=some i∧i.methods.find? (·.name == name)=some m∧m.path=#[]∧m.func=some (f,b):=by
 unfold mth at h
 rw [Option.bind_eq_some_iff] at h
 obtain ⟨i,hi,h⟩:=h
 rw [Option.bind_eq_some_iff] at h
 obtain ⟨m,hm,h⟩:=h
 split at h
 ·rename_i hp
  exact ⟨i,m,hi,hm,by simpa using hp,h⟩
 ·cases h
theorem callFunc_enter {f:Nat} {as_:Array Value} (he:enterable P f=true):(callFunc f as_).run P w=.ok (.enter f as_) w:=by
 unfold enterable at he
 split at he
 ·rename_i fn hf
  simp only [Bool.and_eq_true,bne_iff_ne,ne_eq] at he
  have hb:fn.body.isNone=false:=by
   cases hh:fn.body with
   | none=>rw [hh] at he; simp at he
   | some _=>rfl
  simp only [callFunc,Sem.run_bind,run_program,Result.andThen_ok,hf,beq_iff_eq,he.2,if_false,hb,Bool.false_eq_true,Sem.run_pure]
 ·cases he
theorem depth_pos:∃k,P.types.size+Made.depth=k+1:=⟨P.types.size+Made.depth - 1,by
 have:Made.depth≠0:=by decide
 omega⟩
theorem iv_p {t f e:Nat} (hm:mth P t name=some (f,true)) (hu:P.underlying t=some (.pointer e)) (he:enterable P f=true):@ivH P w (.iface t v) name args KV=@clJ P w f (v :: args) KV:=by
 obtain ⟨i,m,hi,hf,hp,hfn⟩:=mth_spec hm
 obtain ⟨k,hk⟩:=depth_pos (P:=P)
 unfold ivH
 simp only [callMethod,Sem.run_bind,run_program,Result.andThen_ok,hk,method,typeInfo,hi,Sem.run_pure,hf,hp,follow,hfn,receiverAt,run_underlying hu,Place.get,callFunc_enter he]
 have e:#[v] ++ args.toArray=(v :: args).toArray:=by simp
 rw [e]
 rfl
theorem loadVar_one {e:Nat} {a:Addr} {x:Value} (hg:tyAgg P e=some none) (hx:w.cell? a=some x):(loadVar e a).run P w=.ok x w:=by
 have hi:(isAgg e).run P w=.ok false w:=by
  unfold tyAgg at hg
  split at hg
  ·cases hg
  ·cases hg
  ·rename_i d i hna1 hna2 hu hi
   unfold isAgg
   rw [Sem.run_bind,run_underlying hu]
   simp only [Result.andThen_ok]
   cases d <;> simp_all
  ·cases hg
 simp [loadVar,hi,hx]
theorem iv_v {t f e:Nat} {a:Addr} {x:Value} (hm:mth P t name=some (f,false)) (hu:P.underlying t=some (.pointer e)) (hg:tyAgg P e=some none) (he:enterable P f=true) (hx:w.cell? a=some x):@ivH P w (.iface t (.pointer (some a))) name args KV=@clJ P w f (x :: args) KV:=by
 obtain ⟨i,m,hi,hf,hp,hfn⟩:=mth_spec hm
 obtain ⟨k,hk⟩:=depth_pos (P:=P)
 unfold ivH
 simp only [callMethod,Sem.run_bind,run_program,Result.andThen_ok,hk,method,typeInfo,hi,Sem.run_pure,hf,hp,follow,hfn,receiverAt,run_underlying hu,Place.get]
 have e1:(#[]:Array FieldStep).isEmpty=true:=rfl
 have hw : ∀ n : String, (Builtin.ssaWrapNilChk_ #[t] t #[.pointer (some a), strVal "", strVal n]) = pure (.pointer (some a)) := fun n => rfl
 simp only [e1,if_true,hw,Sem.run_bind,Sem.run_pure,Result.andThen_ok,asAddr,loadVar_one hg hx,callFunc_enter he]
 have e:#[x] ++ args.toArray=(x :: args).toArray:=by simp
 rw [e]
 rfl
end
end Go.W
end
section
namespace Go.Tk
open Go Go.W
abbrev Fa:=Int × Int
structure Ef where
 wv:Cell1
 cnd:List Fa
 v:Int
 x:Int
structure Oq where
 name:ByteArray
 cost:Int
 pv:Cell1
 pre:List Fa
 ev:Cell1
 effs:List Ef
structure Tk where
 vv:Cell1
 nv:Cell1
 gv:Cell1
 ov:Cell1
 vars:List Int
 init:List Int
 goal:List Fa
 ops:List Oq
def iE (i:Int):List Value:=[.int .i64 i]
theorem iE_len (i:Int):(iE i).length=1:=rfl
theorem iE_one (i:Int):(iE i).all oneC=true:=rfl
def faE (f:Fa):List Value:=[.int .i64 f.1,.int .i64 f.2]
theorem faE_len (f:Fa):(faE f).length=2:=rfl
def efE (e:Ef):List Value:=[e.wv.1,.int .i64 e.v,.int .i64 e.x]
theorem efE_len (e:Ef):(efE e).length=3:=rfl
def oqE (o:Oq):List Value:=[.string o.name,.int .i64 o.cost,o.pv.1,o.ev.1]
theorem oqE_len (o:Oq):(oqE o).length=4:=rfl
def tkV (t:Tk):Value:=.agg #[t.vv.1,t.nv.1,t.gv.1,t.ov.1]
structure OqR (w:World) (o:Oq):Prop where
 pre:Vw w o.pv.1 faE o.pre
 effs:Vw w o.ev.1 efE o.effs
 cnd:∀e ∈ o.effs,Vw w e.wv.1 faE e.cnd
theorem OqR.kp {w w':World} {o:Oq} (h:OqR w o) (k:Kp [] w w'):OqR w' o:=⟨h.pre.kp0 k,h.effs.kp0 k,fun e he=>(h.cnd e he).kp0 k⟩
structure TkR (w:World) (t:Tk):Prop where
 vars:Vw w t.vv.1 iE t.vars
 init:Vw w t.nv.1 iE t.init
 goal:Vw w t.gv.1 faE t.goal
 ops:Vw w t.ov.1 oqE t.ops
 op:∀o ∈ t.ops,OqR w o
theorem TkR.kp {w w':World} {t:Tk} (h:TkR w t) (k:Kp [] w w'):TkR w' t:=⟨h.vars.kp0 k,h.init.kp0 k,h.goal.kp0 k,h.ops.kp0 k,fun o ho=>(h.op o ho).kp k⟩
def inR (vars:List Int) (f:Fa):Bool:=decide (0≤f.1) && decide (f.1 < vars.length) && decide (0≤f.2) && decide (f.2 < vars.getD f.1.toNat 0)
def allR (n:Nat) (p:Nat→Bool):Bool:=(List.range n).all p
theorem allR_true {n:Nat} {p:Nat→Bool} (h:∀j,j < n→p j=true):allR n p=true:=by
 unfold allR; rw [List.all_eq_true]; exact fun j hj=>h j (List.mem_range.1 hj)
theorem allR_false {n k:Nat} {p:Nat→Bool} (hk:k < n) (h:p k=false):allR n p=false:=by
 unfold allR; rw [List.all_eq_false]; exact ⟨k,List.mem_range.2 hk,by simp [h]⟩
theorem allR_at {n k:Nat} {p:Nat→Bool} (h:allR n p=true) (hk:k < n):p k=true:=by
 unfold allR at h; rw [List.all_eq_true] at h; exact h k (List.mem_range.2 hk)
theorem all_false {α:Type} {l:List α} {p:α→Bool} {x:α} (hx:x ∈ l) (h:p x=false):l.all p=false:=by
 rw [List.all_eq_false]; exact ⟨x,hx,by simp [h]⟩
def prAt (vars:List Int) (l:List Fa) (i:Nat):Bool:=inR vars (l.getD i (0,0)) && (decide (i=0) || decide ((l.getD (i - 1) (0,0)).1 < (l.getD i (0,0)).1))
def propF (vars:List Int) (l:List Fa):Bool:=allR l.length (prAt vars l)
def stAt (vars s:List Int) (i:Nat):Bool:=decide (0≤s.getD i 0) && decide (s.getD i 0 < vars.getD i 0)
def stateB (vars s:List Int):Bool:=decide (s.length=vars.length) && allR s.length (stAt vars s)
def chB (b:ByteArray) (i:Nat):Bool:=decide (32≤(b[i]?.getD 0).toNat) && decide ((b[i]?.getD 0).toNat≤126)
def nameB (b:ByteArray):Bool:=decide (b.size≤256) && allR b.size (chB b)
def effB (vars:List Int) (e:Ef):Bool:=propF vars e.cnd && inR vars (e.v,e.x)
def opB (vars:List Int) (o:Oq):Bool:=decide (0≤o.cost) && decide (o.cost≤1048576) && decide (o.effs.length≤64) && nameB o.name && propF vars o.pre && o.effs.all (effB vars)
def varB (n:Int):Bool:=decide (1≤n) && decide (n≤64)
def goodB (t:Tk):Bool:=decide (t.vars.length≤64) && decide (t.ops.length≤4096) && t.vars.all varB && stateB t.vars t.init && propF t.vars t.goal && t.ops.all (opB t.vars)
def manyF (most:Nat):Nat→List Int→Nat
 | n,[]=>n
 | n,k :: l=>if most < n * min k.toNat (most+1) then most+1 else manyF most (n * min k.toNat (most+1)) l
def smallB (t:Tk):Bool:=decide (t.vars.length≤12) && decide (t.ops.length≤20) && (t.ops.all fun o=>decide (o.effs.length≤8)) && goodB t && decide (manyF 512 1 t.vars≤512)
structure TkL (t:Tk):Prop where
 init:t.init.length≤9223372036854775807
 goal:t.goal.length≤9223372036854775807
 ops:t.ops.length≤9223372036854775807
 vars:t.vars.length≤9223372036854775807
 op:∀o ∈ t.ops,o.name.size≤9223372036854775807∧o.pre.length≤9223372036854775807∧o.effs.length≤9223372036854775807∧∀e ∈ o.effs,e.cnd.length≤9223372036854775807
def condsO (o:Oq):List (Cell1 × List Fa):=(o.pv,o.pre) :: o.effs.map fun e=>(e.wv,e.cnd)
def condsL (t:Tk):List (Cell1 × List Fa):=(t.gv,t.goal) :: t.ops.flatMap condsO
def largeB (t:Tk):Bool:=!(decide (t.vars.length≤64) && decide (t.ops.length≤4096) && (t.ops.all fun o=>decide (o.effs.length≤64)) && (condsL t).all fun p=>decide (p.2.length≤64))
def chkC (t:Tk):Option Int :=
 if largeB t=true then some 5
 else if (t.vars.all varB)=false then some 1
 else if (t.ops.all fun o=>decide (0≤o.cost) && decide (o.cost≤1048576))=false then some 1
 else if stateB t.vars t.init=false then some 2
 else if ((condsL t).all fun p=>propF t.vars p.2)=false then some 2
 else if (t.ops.all fun o=>o.effs.all fun e=>inR t.vars (e.v,e.x))=false then some 2
 else if (t.ops.all fun o=>nameB o.name)=false then some 8
 else none
end Go.Tk
end
section
namespace Go.Proofs.YtolkjbmcindhjaaGreat
open Go Go.W Go.Tk
def faO (f:Fa):Obj:=.cells #[.int .i64 f.1,.int .i64 f.2] 100 (0,0)
section
variable {w wa:World} {F:List Nat} {X:Asr} {KW:Kont World}
theorem st_fa {f:Fa} {b:Nat} (hX:Lcl X) (h:At w F X wa) (hb:b=wa.heap.size) (H:∀w2,At w F (Star (ObjA b (faO f)) X) w2→KW.run w2) :
  @stJ (wa.alloc (.cells #[.int .i64 0,.int .i64 0] 100 (0,0))) ⟨b,0,none⟩ [.int .i64 f.1,.int .i64 f.2] KW:=by
 have h1:At w F (Star (ObjA b (.cells #[.int .i64 0,.int .i64 0] 100 (0,0))) X) (wa.alloc (.cells #[.int .i64 0,.int .i64 0] 100 (0,0))):=by rw [hb]; exact h.alloc _ hX
 exact h1.st hX (by simp) (by simp) fun w2 h2=>H w2 (by simpa [faO] using h2)
end
theorem iE_cell {w:World} {v:Value} {l:List Int} {k:Nat} {x:Int} (h:Vw w v iE l) (hx:l[k]? = some x):w.cell? (v.adr.add k)=some (.int .i64 x):=by
 simpa using h.at_ iE_len hx (o:=0) (u:=.int .i64 x) rfl
theorem getD_at {α:Type} {l:List α} {k:Nat} {x d:α} (h:l[k]? = some x):l.getD k d=x:=by simp [List.getD,h]
set_option maxHeartbeats 1000000 in
theorem proper_spec {w:World} (vv fv:Value) (vars:List Int) (l:List Fa) (hv:Vw w vv iE vars) (hf:Vw w fv faE l) (hl:l.length≤9223372036854775807) :
  Calls Tryz.prog 117 [vv,fv].toArray w fun e w'=>∃x,e=.returned x∧x=.bool (propF vars l)∧Kp [] w w':=by
 refine enter Tryz.func117 mixed low117 (Nat.le_of_ble_eq_true rfl) ?_
 simp only [L117]
 simp [hf.len]
 refine range_loop (n:=l.length) (by omega) (fun k ρ w'=>ρ 0=vv∧ρ 1=fv∧ρ 7=fv∧(∀j,j < k→prAt vars l j=true)∧Kp [] w w') (by simp) (by simp)
  ⟨by simp,by simp,by simp,by omega,Kp.refl _ _⟩ (by decide) (fun _ _ _ _ h=>by simpa using h) (fun _ _ _ _ h=>by simpa using h) ?_ ?_
 rotate_left
 ·rintro ρ w4 ⟨g0,g1,g7,hall,k4⟩
  have:propF vars l=true:=allR_true hall
  simp [this]
  exact k4
 rintro k ρ w4 hk hc hlm ⟨g0,g1,g7,hall,k4⟩
 obtain ⟨f,hfk⟩:∃f,l[k]? = some f:=⟨_,List.getElem?_eq_getElem hk⟩
 have hf4:=hf.kp0 k4
 have hv4:=hv.kp0 k4
 have ec:=hf4.cells faE_len hfk
 simp only [faE] at ec
 obtain ⟨b,hb⟩:∃b,b=w4.heap.size:=⟨_,rfl⟩
 refine seq_cut (fun ρ w'=>ρ 0=vv∧ρ 1=fv∧ρ 7=fv∧ρ 8=.int .i64 (l.length:Nat)∧ρ 9=.int .i64 (k:Nat)∧ρ 5=.int .i64 (k:Nat)∧ρ 6=.pointer (some ⟨b,0,none⟩)∧At w4 [] (Star (ObjA b (faO f)) Emp) w') ?_ ?_
 ·simp (disch:=omega) [g7,hc,hlm,hf4.idx,ec,←hb]
  refine st_fa (f:=f) .emp (At.start rfl:At w4 [] Emp w4) hb fun w5 h5=>?_
  simp [g0,g1,g7,hc,hlm,←hb]
  exact h5
 clear g0 g1 g7 hc hlm
 rintro ρ w5 ⟨g0,g1,g7,g8,g9,g5,g6,h5⟩
 have ho:=h5.obj
 unfold faO at ho
 have hv5:=hv4.kp0 h5.kp
 have hf5:=hf4.kp0 h5.kp
 have eg:l.getD k (0,0)=f:=getD_at hfk
 have bad:(inR vars f && (decide (k=0) || decide ((l.getD (k - 1) (0,0)).1 < f.1)))=false→propF vars l=false:=fun h=>allR_false hk (by unfold prAt; rw [eg]; exact h)
 have ok:(inR vars f && (decide (k=0) || decide ((l.getD (k - 1) (0,0)).1 < f.1)))=true→∀j,j < k+1→prAt vars l j=true:=fun h j hj=>by
  rcases (show j < k∨j=k by omega) with h1 | h1
  ·exact hall j h1
  ·subst h1; unfold prAt; rw [eg]; exact h
 have k5:Kp [] w w5.drew:=(k4.trans0 h5.kp).drew
 by_cases t1:f.1 < 0
 ·have e:=bad (by simp [inR]; omega)
  simp [g6,cell_blk ho,t1,e]
  exact k5
 by_cases t2:(vars.length:Int)≤f.1
 ·have e:=bad (by simp [inR]; omega)
  simp [g6,g0,cell_blk ho,t1,hv5.len,t2,e]
  exact k5
 by_cases t3:f.2 < 0
 ·have e:=bad (by simp [inR]; omega)
  simp [g6,g0,cell_blk ho,t1,hv5.len,t2,t3,e]
  exact k5
 obtain ⟨y,hy⟩:∃y,vars[f.1.toNat]? = some y:=⟨_,List.getElem?_eq_getElem (by omega)⟩
 have ey:vars.getD f.1.toNat 0=y:=getD_at hy
 by_cases t4:y≤f.2
 ·have e:=bad (by unfold inR; rw [ey]; simp; omega)
  simp (disch:=omega) [g6,g0,cell_blk ho,t1,hv5.len,t2,t3,hv5.idx,iE_cell hv5 hy,t4,e]
  exact k5
 have hin:inR vars f=true:=by unfold inR; rw [ey]; simp; omega
 by_cases t5:k=0
 ·subst t5
  simp (disch:=omega) [g6,g0,g1,g7,g8,g9,g5,cell_blk ho,t1,hv5.len,t2,t3,hv5.idx,iE_cell hv5 hy,t4]
  exact ⟨ok (by simp [hin]) 0 (by omega),k5⟩
 have t5':(0:Int) < k:=by omega
 obtain ⟨p,hp⟩:∃p,l[k - 1]? = some p:=⟨_,List.getElem?_eq_getElem (by omega)⟩
 have ep:l.getD (k - 1) (0,0)=p:=getD_at hp
 have ek:((k - 1:Nat):Int)=(k:Int) - 1:=by omega
 have ecp:w5.cell? ((fv.adr.add ((k - 1) * 2)).add 0)=some (.int .i64 p.1):=hf5.fld faE_len hp rfl
 have t5'':0 < k:=by omega
 have ek':=ek.symm
 by_cases t6:f.1≤p.1
 ·have e:=bad (by rw [ep]; simp [t5]; omega)
  simp (disch:=omega) [g6,g0,g1,g7,g8,g9,g5,cell_blk ho,t1,hv5.len,t2,t3,hv5.idx,iE_cell hv5 hy,t4,t5',t5'',ek',wrap_i64,hf5.idx,ecp,t6,e]
  exact k5
 simp (disch:=omega) [g6,g0,g1,g7,g8,g9,g5,cell_blk ho,t1,hv5.len,t2,t3,hv5.idx,iE_cell hv5 hy,t4,t5',t5'',ek',wrap_i64,hf5.idx,ecp,t6]
 exact ⟨fun j hj=>ok (by rw [ep]; simp [hin]; omega) j hj,k5⟩
end Go.Proofs.YtolkjbmcindhjaaGreat
end
section
namespace Go.Proofs.YtolkjbmcindhjaaGreat
open Go Go.W Go.Tk
def efO (e:Ef):Obj:=.cells #[e.wv.1,.int .i64 e.v,.int .i64 e.x] 87 (0,0)
def oqO (o:Oq):Obj:=.cells #[.string o.name,.int .i64 o.cost,o.pv.1,o.ev.1] 41 (0,0)
def tkO (t:Tk):Obj:=.cells #[t.vv.1,t.nv.1,t.gv.1,t.ov.1] 26 (0,0)
def oqV (o:Oq):Value:=.agg #[.string o.name,.int .i64 o.cost,o.pv.1,o.ev.1]
section
variable {w wa:World} {F:List Nat} {X:Asr} {KW:Kont World}
theorem st_ef {e:Ef} {b:Nat} (hX:Lcl X) (h:At w F X wa) (hb:b=wa.heap.size) (H:∀w2,At w F (Star (ObjA b (efO e)) X) w2→KW.run w2) :
  @stJ (wa.alloc (.cells #[.slice none 0 0,.int .i64 0,.int .i64 0] 87 (0,0))) ⟨b,0,none⟩ [e.wv.1,.int .i64 e.v,.int .i64 e.x] KW:=by
 have h1:At w F (Star (ObjA b (.cells #[.slice none 0 0,.int .i64 0,.int .i64 0] 87 (0,0))) X) (wa.alloc (.cells #[.slice none 0 0,.int .i64 0,.int .i64 0] 87 (0,0))):=by rw [hb]; exact h.alloc _ hX
 exact h1.st hX (by simp) (by simp [e.wv.2]) fun w2 h2=>H w2 (by simpa [efO] using h2)
theorem st_oq {o:Oq} {b:Nat} {es:ByteArray} (hX:Lcl X) (h:At w F X wa) (hb:b=wa.heap.size) (H:∀w2,At w F (Star (ObjA b (oqO o)) X) w2→KW.run w2) :
  @stJ (wa.alloc (.cells #[.string es,.int .i64 0,.slice none 0 0,.slice none 0 0] 41 (0,0))) ⟨b,0,none⟩ [.string o.name,.int .i64 o.cost,o.pv.1,o.ev.1] KW:=by
 have h1:At w F (Star (ObjA b (.cells #[.string es,.int .i64 0,.slice none 0 0,.slice none 0 0] 41 (0,0))) X) (wa.alloc (.cells #[.string es,.int .i64 0,.slice none 0 0,.slice none 0 0] 41 (0,0))):=by rw [hb]; exact h.alloc _ hX
 exact h1.st hX (by simp) (by simp [o.pv.2,o.ev.2]) fun w2 h2=>H w2 (by simpa [oqO] using h2)
theorem rd_tk {w:World} {b:Nat} {t:Tk} (h:w.heap[b]? = some (tkO t)):cellsAt w ⟨b,0,none⟩ 0 4=some [t.vv.1,t.nv.1,t.gv.1,t.ov.1]:=by
 unfold tkO at h
 simp [cellsAt,Addr.add,cell_blk h]
theorem rd_oq {w:World} {b:Nat} {o:Oq} (h:w.heap[b]? = some (oqO o)):cellsAt w ⟨b,0,none⟩ 0 4=some [.string o.name,.int .i64 o.cost,o.pv.1,o.ev.1]:=by
 unfold oqO at h
 simp [cellsAt,Addr.add,cell_blk h]
end
theorem state_spec {w:World} (vv sv:Value) (vars s:List Int) (hv:Vw w vv iE vars) (hs:Vw w sv iE s) (hl:s.length≤9223372036854775807) :
  Calls Tryz.prog 15 [vv,sv].toArray w fun e w'=>∃x,e=.returned x∧x=.bool (stateB vars s)∧Kp [] w w':=by
 refine enter Tryz.func15 mixed low15 (Nat.le_of_ble_eq_true rfl) ?_
 simp only [L15]
 by_cases hle:s.length=vars.length
 case neg =>
  have hne:((s.length:Int) != vars.length)=true:=by simp; omega
  have e:stateB vars s=false:=by simp [stateB,hle]
  simp [hv.len,hs.len,hne,e]
  exact Kp.refl _ _
 have hne:((s.length:Int) != vars.length)=false:=by simp; omega
 simp [hv.len,hs.len,hne]
 refine range_loop (n:=s.length) (by omega) (fun k ρ w'=>ρ 0=vv∧ρ 1=sv∧(∀j,j < k→stAt vars s j=true)∧Kp [] w w') (by simp) (by simp)
  ⟨by simp,by simp,by omega,Kp.refl _ _⟩ (by decide) (fun _ _ _ _ h=>by simpa using h) (fun _ _ _ _ h=>by simpa using h) ?_ ?_
 rotate_left
 ·rintro ρ w4 ⟨g0,g1,hall,k4⟩
  have:stateB vars s=true:=by unfold stateB; rw [allR_true hall]; simp [hle]
  simp [this]
  exact k4
 rintro k ρ w4 hk hc hlm ⟨g0,g1,hall,k4⟩
 have hs4:=hs.kp0 k4
 have hv4:=hv.kp0 k4
 obtain ⟨x,hx⟩:∃x,s[k]? = some x:=⟨_,List.getElem?_eq_getElem hk⟩
 obtain ⟨y,hy⟩:∃y,vars[k]? = some y:=⟨_,List.getElem?_eq_getElem (by omega)⟩
 have ex:stAt vars s k=(decide (0≤x) && decide (x < y)):=by unfold stAt; rw [getD_at hx,getD_at hy]
 have bad:(decide (0≤x) && decide (x < y))=false→stateB vars s=false:=fun h=>by
  unfold stateB; rw [allR_false hk (ex.trans h)]; simp
 by_cases t1:x < 0
 ·have e:=bad (by simp; omega)
  simp (disch:=omega) [g0,g1,hc,hlm,hs4.idx,iE_cell hs4 hx,t1,e]
  exact k4.drew
 by_cases t2:y≤x
 ·have e:=bad (by simp; omega)
  simp (disch:=omega) [g0,g1,hc,hlm,hs4.idx,iE_cell hs4 hx,hv4.idx,iE_cell hv4 hy,t1,t2,e]
  exact k4.drew
 simp (disch:=omega) [g0,g1,hc,hlm,hs4.idx,iE_cell hs4 hx,hv4.idx,iE_cell hv4 hy,t1,t2]
 refine ⟨fun j hj=>?_,k4.drew⟩
 rcases (show j < k∨j=k by omega) with h1 | h1
 ·exact hall j h1
 ·subst h1; rw [ex]; simp; omega
theorem many_spec {w:World} (vv:Value) (vars:List Int) (hv:Vw w vv iE vars) (hl:vars.length≤9223372036854775807) :
  Calls Tryz.prog 57 [vv,.int .i64 512].toArray w fun e w'=>∃x,e=.returned x∧x=.int .i64 (manyF 512 1 vars:Nat)∧Kp [] w w':=by
 refine enter Tryz.func57 mixed low57 (Nat.le_of_ble_eq_true rfl) ?_
 simp only [L57]
 simp [hv.len]
 refine range_loop (n:=vars.length) (by omega) (fun k ρ w'=>ρ 1=.int .i64 512∧ρ 8=vv∧(∃n:Nat,ρ 5=.int .i64 (n:Nat)∧n≤512∧manyF 512 1 vars=manyF 512 n (vars.drop k))∧Kp [] w w') (by simp) (by simp)
  ⟨by simp,by simp,⟨1,by simp,by omega,by simp⟩,Kp.refl _ _⟩ (by decide) (fun _ _ _ _ h=>by simpa using h) (fun _ _ _ _ h=>by simpa using h) ?_ ?_
 rotate_left
 ·rintro ρ w4 ⟨g1,g8,⟨n,g5,hn,hm⟩,k4⟩
  rw [List.drop_of_length_le (Nat.le_refl _),manyF] at hm
  simp [g5,hm]
  exact k4
 rintro k ρ w4 hk hc hlm ⟨g1,g8,⟨n,g5,hn,hm⟩,k4⟩
 have hv4:=hv.kp0 k4
 obtain ⟨x,hx⟩:∃x,vars[k]? = some x:=⟨_,List.getElem?_eq_getElem hk⟩
 rw [List.drop_eq_getElem_cons hk,(List.getElem?_eq_some_iff.1 hx).2,manyF] at hm
 obtain ⟨y,hy⟩:∃y,y=min x.toNat 513:=⟨_,rfl⟩
 have hy2:min (max x 0) 513=((y:Nat):Int):=by omega
 have hyl:y≤513:=by omega
 have hny:n * y≤512 * 513:=Nat.mul_le_mul hn hyl
 have em:((n:Int) * (y:Nat))=((n * y:Nat):Int):=by simp
 obtain ⟨p,hp⟩:∃p,p=n * y:=⟨_,rfl⟩
 have e1:min x.toNat (512+1)=y:=hy.symm
 rw [e1,←hp] at hm
 rw [←hp] at em hny
 have w1:IntKind.i64.wrap (513:Int)=513:=wrap_i64 (by omega) (by omega)
 by_cases t:512 < p
 ·have t':(512:Int) < (p:Nat):=by omega
  rw [if_pos t] at hm
  simp (disch:=omega) [g1,g8,g5,hc,hlm,hv4.idx,iE_cell hv4 hx,hy2,em,wrap_i64,t,t',w1,hm]
  exact k4
 ·have t':¬(512:Int) < (p:Nat):=by omega
  rw [if_neg t] at hm
  simp (disch:=omega) [g1,g8,g5,hc,hlm,hv4.idx,iE_cell hv4 hx,hy2,em,wrap_i64,t,t',w1]
  exact ⟨⟨p,rfl,by omega,hm⟩,k4⟩
end Go.Proofs.YtolkjbmcindhjaaGreat
end
