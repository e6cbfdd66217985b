/-
  A part of the proof of this claim's statement (Lib6, Lib7, Lib8, Lib9, LibA, LibB, LibC): plain theorems; no conditions beyond those each names.
-/
import Derived.Test.YtkhfdmelcpfgoaaGreatPk06
import Derived.Laws.AppendOwn
import Derived.Deep.Slices
import Derived.Deep.Fields
import Derived.ProofKit
import Derived.SizedLaws
import Derived.Laws.StructEq
import Derived.ChangeKeysEq
import Derived.Maps.OwnSet
section
set_option linter.unusedVariables false
set_option linter.unusedSimpArgs false
namespace Go.W
open Go
def _root_.Go.Value.blk:Value→Nat
 | .slice (some a) _ _=>a.block
 | .pointer (some a)=>a.block
 | .map (some r)=>r
 | _=>0
def _root_.Go.Value.own:Value→List Nat
 | .slice (some a) _ _=>[a.block]
 | _=>[]
@[simp] theorem own_slice {a:Addr} {n c:Nat}:(Value.slice (some a) n c).own=[a.block]:=rfl
@[simp] theorem own_nil {n c:Nat}:(Value.slice none n c).own=[]:=rfl
@[simp] theorem blk_slice {a:Addr} {n c:Nat}:(Value.slice (some a) n c).blk=a.block:=rfl
section
variable {α:Type} {enc:α→List Value} {sz:Nat}
theorem flatMap_len (he:∀ x,(enc x).length=sz) (l:List α):(l.flatMap enc).length=l.length * sz:=by
 induction l with
 | nil=>simp
 | cons x l ih=>simp [he,ih,Nat.add_mul]; omega
theorem flatMap_at (he:∀ x,(enc x).length=sz):∀ (l:List α) (k:Nat) (x:α),l[k]?=some x→∀ o,o < sz→(l.flatMap enc)[k * sz+o]?=(enc x)[o]?
 | [],_,_,h,_,_=>by simp at h
 | y :: l,0,x,h,o,ho=>by
  simp at h
  subst h
  simp only [List.flatMap_cons,Nat.zero_mul,Nat.zero_add]
  rw [List.getElem?_append_left (by rw [he]; exact ho)]
 | y :: l,k+1,x,h,o,ho=>by
  simp at h
  simp only [List.flatMap_cons]
  have h1:(enc y).length≤(k+1) * sz+o:=by rw [he,Nat.add_mul]; omega
  rw [List.getElem?_append_right h1,he]
  have:(k+1) * sz+o - sz=k * sz+o:=by rw [Nat.add_mul]; omega
  rw [this]
  exact flatMap_at he l k x h o ho
theorem flatMap_set (he:∀ x,(enc x).length=sz):∀ (l:List α) (k:Nat) (x:α),k < l.length →
  (l.set k x).flatMap enc=(l.flatMap enc).take (k * sz) ++ enc x ++ (l.flatMap enc).drop (k * sz+sz)
 | [],_,_,h=>by simp at h
 | y :: l,0,x,h=>by
  have:=he y
  simp [List.drop_append,this]
 | y :: l,k+1,x,h=>by
  have ih:=flatMap_set he l k x (by simpa using h)
  have hy:=he y
  simp only [List.set_cons_succ,List.flatMap_cons,ih]
  have e1:(k+1) * sz=sz+k * sz:=by rw [Nat.add_mul]; omega
  rw [e1,List.take_append,List.drop_append]
  have t1:List.take (sz+k * sz) (enc y)=enc y:=List.take_of_length_le (by omega)
  have t2:List.drop (sz+k * sz+sz) (enc y)=[]:=List.drop_of_length_le (by omega)
  rw [t1,t2,hy]
  have e2:sz+k * sz - sz=k * sz:=by omega
  have e3:sz+k * sz+sz - sz=k * sz+sz:=by omega
  rw [e2,e3]
  simp
theorem wrAt_list:∀ (vs:List Value) (c:Array Value) (o:Nat),o+vs.length≤c.size→(wrAt c o vs).toList=c.toList.take o ++ vs ++ c.toList.drop (o+vs.length)
 | [],c,o,_=>by simp
 | v :: vs,c,o,h=>by
  simp only [List.length_cons] at h
  simp only [wrAt_cons]
  rw [wrAt_list vs _ (o+1) (by simp; omega)]
  have hlt:o < c.toList.length:=by simp; omega
  simp only [Array.toList_setIfInBounds,List.length_cons]
  rw [List.set_eq_take_append_cons_drop,if_pos hlt]
  have hl:(c.toList.take o).length=o:=by simp; omega
  rw [List.take_append,List.drop_append,hl]
  have e1:o+1 - o=1:=by omega
  have e2:o+1+vs.length - o=vs.length+1:=by omega
  have t1:List.take (o+1) (c.toList.take o)=c.toList.take o:=List.take_of_length_le (by omega)
  have t2:List.drop (o+1+vs.length) (c.toList.take o)=[]:=List.drop_of_length_le (by omega)
  rw [e1,e2,t1,t2]
  simp only [List.take_succ_cons,List.take_zero,List.drop_succ_cons,List.drop_drop,List.nil_append,List.append_assoc,List.cons_append]
  have e3:o+1+vs.length=o+(vs.length+1):=by omega
  rw [e3]
def Own (w:World) (v:Value) (E sz:Nat) (enc:α→List Value) (l:List α):Prop :=
 (v=.slice none 0 0∧l=[]) ∨
 ∃ g cap cur junk,v=.slice (some ⟨g,0,none⟩) l.length cap∧w.heap[g]?=some (.cells cur E (0,0))∧cur.toList=l.flatMap enc ++ junk∧l.length * sz+junk.length=cap * sz∧l.length≤cap∧cap≤maxLen
variable {w:World} {v:Value} {E:Nat} {l:List α}
theorem Own.nil (w:World) (E sz:Nat) (enc:α→List Value):Own w (.slice none 0 0) E sz enc []:=.inl ⟨rfl,rfl⟩
theorem Own.kp {S:List Nat} {w':World} (h:Own w v E sz enc l) (hk:Kp S w w') (hn:v.blk ∉ S):Own w' v E sz enc l:=by
 rcases h with h | ⟨g,cap,cur,junk,rfl,hh,rest⟩
 ·exact .inl h
 ·exact .inr ⟨g,cap,cur,junk,rfl,hk.blk hh (by simpa using hn),rest⟩
theorem Own.c1 (h:Own w v E sz enc l):v.cells=#[v]:=by
 rcases h with ⟨rfl,rfl⟩ | ⟨g,cap,cur,junk,rfl,hh,_⟩ <;> rfl
theorem Own.o1 (h:Own w v E sz enc l):oneC v=true:=by
 rcases h with ⟨rfl,rfl⟩ | ⟨g,cap,cur,junk,rfl,hh,_⟩ <;> rfl
theorem Own.blk_of (h:Own w v E sz enc l) {S:List Nat} (hS:∀ x ∈ v.own,x ∉ S) {w':World} (hk:Kp S w w'):Own w' v E sz enc l:=by
 rcases h with h | ⟨g,cap,cur,junk,rfl,hh,rest⟩
 ·exact .inl h
 ·exact .inr ⟨g,cap,cur,junk,rfl,hk.blk hh (hS g (by simp)),rest⟩
theorem Own.own_eq (h:Own w v E sz enc l) {k:Nat} (hl:k < l.length):v.own=[v.blk]:=by
 rcases h with ⟨_,rfl⟩ | ⟨g,cap,cur,junk,rfl,hh,_⟩
 ·simp at hl
 ·rfl
theorem Own.len {P:Program} {T:Nat} {K:Kont Value} (h:Own w v E sz enc l):@lenH P T v K=@gdH (isSl P T=true) ⟨fun _=>K.run (.int .i64 l.length)⟩:=by
 rcases h with ⟨rfl,rfl⟩ | ⟨g,cap,cur,junk,rfl,_⟩
 ·rfl
 ·rfl
theorem Own.idx {P:Program} {T:Nat} {K:Kont Value} {k:IntKind} {i:Int} (h:Own w v E sz enc l) (h0:0≤i) (h1:i < l.length) :
  @idxAH P T v (.int k i) K=@optH _ (slInfo P T) ⟨fun q=>K.run (.pointer (some ⟨v.blk,i.toNat * q.2.1,none⟩))⟩:=by
 rcases h with ⟨rfl,rfl⟩ | ⟨g,cap,cur,junk,rfl,_⟩
 ·simp at h1; omega
 ·cases hs:slInfo P T with
  | none=>simp [hs,optH,optS]
  | some q=>simp [hs,h0,h1]
theorem Own.cell (h:Own w v E sz enc l) (he:∀ x,(enc x).length=sz) {k:Nat} {x:α} (hx:l[k]?=some x) {o:Nat} (ho:o < sz):w.cell? ⟨v.blk,k * sz+o,none⟩=(enc x)[o]?:=by
 have hk:k < l.length:=by rcases Nat.lt_or_ge k l.length with h1 | h1; exact h1; rw [List.getElem?_eq_none h1] at hx; cases hx
 rcases h with ⟨rfl,rfl⟩ | ⟨g,cap,cur,junk,rfl,hh,hc,hj,_⟩
 ·simp at hk
 ·rw [blk_slice,cell_blk hh,← Array.getElem?_toList,hc,List.getElem?_append_left,flatMap_at he l k x hx o ho]
  rw [flatMap_len he]
  calc k * sz+o < k * sz+sz:=by omega
   _=(k+1) * sz:=by rw [Nat.add_mul]; omega
   _≤l.length * sz:=Nat.mul_le_mul_right _ hk
theorem cellsAt_of {a:Addr}:∀ (cs:List Value) (i:Nat),(∀ o,o < cs.length→w.cell? (a.add (i+o))=cs[o]?)→cellsAt w a i cs.length=some cs
 | [],_,_=>rfl
 | c :: cs,i,h=>by
  have h0:=h 0 (by simp)
  simp at h0
  have ih:=cellsAt_of cs (i+1) (fun o ho=>by
   have:=h (o+1) (by simpa using ho)
   rw [show i+1+o=i+(o+1) by omega]
   simpa using this)
  simp [cellsAt,h0,ih]
theorem Own.cells (h:Own w v E sz enc l) (he:∀ x,(enc x).length=sz) {k:Nat} {x:α} (hx:l[k]?=some x):cellsAt w ⟨v.blk,k * sz,none⟩ 0 sz=some (enc x):=by
 have:=cellsAt_of (w:=w) (a:=⟨v.blk,k * sz,none⟩) (enc x) 0 (fun o ho=>by
  rw [he] at ho
  rw [addr_add,Nat.zero_add]
  exact h.cell he hx ho)
 rwa [he] at this
theorem Own.store {KW:Kont World} (h:Own w v E sz enc l) (he:∀ x,(enc x).length=sz) (h1:∀ x,(enc x).all oneC=true) {k:Nat} (hk:k < l.length) {x:α} {cs:List Value} (hcs:cs=enc x)
  (H:∀ w',Kp [v.blk] w w'→w'.heap.size=w.heap.size→Own w' v E sz enc (l.set k x)→KW.run w'):@stJ w ⟨v.blk,k * sz,none⟩ cs KW:=by
 subst hcs
 rcases h with ⟨rfl,rfl⟩ | ⟨g,cap,cur,junk,rfl,hh,hc,hj,hle,hm⟩
 ·simp at hk
 ·have hs:cur.size=cap * sz:=by
   have:=congrArg List.length hc
   simp [flatMap_len he] at this
   omega
  have hin:k * sz+sz≤cur.size:=by
   rw [hs]
   calc k * sz+sz=(k+1) * sz:=by rw [Nat.add_mul]; omega
    _≤cap * sz:=Nat.mul_le_mul_right _ (by omega)
  rw [stC_eq,blk_slice,row_blk hh]
  simp only [optS_some,run_mk]
  refine gd_mk (by have:=h1 x; simp only [List.all_eq_true] at this; simpa [he] using ⟨hin,this⟩) ?_
  refine H _ ((Kp.refl _ _).setB (.inl (by simp)) _) (by simp) ?_
  have hl2:k * sz+sz≤(l.flatMap enc).length:=by
   rw [flatMap_len he]
   calc k * sz+sz=(k+1) * sz:=by rw [Nat.add_mul]; omega
    _≤l.length * sz:=Nat.mul_le_mul_right _ hk
  refine .inr ⟨g,cap,_,junk,by simp,setB_new (lt_of_blk hh),?_,by simpa using hj,by simpa using hle,hm⟩
  simp only []
  rw [wrAt_list _ _ _ (by simpa [he] using hin),hc,flatMap_set he l k x hk,he,List.take_append_of_le_length (by omega),List.drop_append_of_le_length (by omega)]
  simp
theorem Own.append {P:Program} {KV:Kont (Value × World)} {T ty by_:Nat} {z:List Value} (h:Own w v E sz enc l) (he:∀ x,(enc x).length=sz) (h1:∀ x,(enc x).all oneC=true)
  (hT:slInfo P T=some (E,sz,by_,z)) {a:Addr} {m c:Nat} {xs:List α} (hm:xs.length=m) (hx:∀ j u,(xs.flatMap enc)[j]?=some u→w.cell? (a.add j)=some u)
  (hb:(l.length+m) * by_≤140737488355328) (hmax:l.length+m≤maxLen)
  (H:∀ v' w',Kp v.own w w'→Own w' v' E sz enc (l ++ xs)→(∀ x ∈ v'.own,x ∈ v.own∨w.heap.size≤x)→KV.run (v',w')) :
  @efH P (Builtin.append_ #[T,T] ty [v,.slice (some a) m c].toArray) w KV:=by
 obtain ⟨i,zv,hu,hi,hz,rfl,rfl,rfl,hzs,hpos⟩:=slInfo_spec hT
 have hown:w.ownsRow 0 E i.size v l.length (l.flatMap enc):=by
  refine ⟨flatMap_len he l,?_⟩
  rcases h with ⟨rfl,rfl⟩ | ⟨g,cap,cur,junk,rfl,hh,hc,hj,hle,hm'⟩
  ·exact .inl ⟨rfl,rfl⟩
  ·refine .inr ⟨g,cap,cur,rfl,Nat.zero_le _,hh,hle,hm',?_,?_⟩
   ·have:=congrArg List.length hc
    simp [flatMap_len he] at this
    omega
   ·rw [hc,← flatMap_len he l,List.take_left]
 have h1':∀ u ∈ xs.flatMap enc,u.oneCell'=true:=by
  intro u hu
  obtain ⟨x,_,hux⟩:=List.mem_flatMap.1 hu
  have:=List.all_eq_true.1 (h1 x) u hux
  cases u <;> simp_all [oneC,Value.oneCell']
 obtain ⟨v',w',hr,ho,hg,hn⟩:=run_append_own (P:=P) w 0 T ty E i zv i.size i.bytes hu hi hz rfl rfl hzs hpos v l.length (l.flatMap enc) hown a m c (xs.flatMap enc) (by rw [flatMap_len he,hm]) hx h1'
  hmax hb (Nat.zero_le _)
 refine ef_mk (v:=v') (w':=w') (by simpa using hr) ?_
 have hkp:Kp v.own w w':=by
  refine ⟨hg.os,hg.tape,hg.output,hg.size,fun b hb' hn'=>hg.block b hb' (fun e=>hn' ?_)⟩
  cases v <;> simp [Value.ownBlock] at e
  rename_i a' _ _
  cases a' <;> simp [Value.ownBlock] at e
  simp [e]
 refine H v' w' hkp ?_ ?_
 ·obtain ⟨hlen,hc⟩:=ho
  rcases hc with ⟨rfl,h0⟩ | ⟨g,cap,cur,rfl,_,hh,hle,hm',hs,ht⟩
  ·refine .inl ⟨rfl,?_⟩
   exact List.eq_nil_of_length_eq_zero (by rw [List.length_append,hm]; exact h0)
  ·refine .inr ⟨g,cap,cur,cur.toList.drop ((l.length+m) * i.size),by simp [hm],hh,?_,?_,by simpa [hm] using hle,hm'⟩
   ·rw [List.flatMap_append,← ht,List.take_append_drop]
   ·simp only [List.length_append,List.length_drop,Array.length_toList,hs,hm]
    have:(l.length+m) * i.size≤cap * i.size:=Nat.mul_le_mul_right _ hle
    omega
 · -- where the new slice lies
  obtain ⟨hlen,hc⟩:=ho
  intro x hxo
  rcases hc with ⟨rfl,h0⟩ | ⟨g,cap,cur,rfl,_,hh,hle,hm',hs,ht⟩
  ·cases hxo
  ·have hxg:x=g:=by simpa using hxo
   subst hxg
   rcases Nat.lt_or_ge x w.heap.size with hlt | hge
   · -- an old block: the row itself
    left
    rcases h with ⟨rfl,rfl⟩ | ⟨g0,cap0,cur0,junk,rfl,hh0,hc0,hj,hle0,hm0⟩
    ·exfalso
     by_cases hm1:m=0
     ·have:=(hn.2 ⟨rfl,hm1⟩); cases this
     ·have:=run_append_nil (P:=P) w T ty E i zv hu hi hz a m c (xs.flatMap enc) (by rw [flatMap_len he,hm]) hx (by omega) (by simp [maxLen] at hmax; omega) (by simp at hb; omega)
      simp only [List.length_nil,Nat.zero_add] at hr
      rw [this] at hr
      injection hr with e1 _
      injection e1 with e2
      simp at e2
      omega
    ·rw [own_slice]
     refine List.mem_singleton.2 ?_
     by_cases hroom:l.length+m≤cap0
     ·have:=run_append_room (P:=P) w T ty E i hu hi g0 l.length cap0 cur0 hh0 a m c (xs.flatMap enc) (by rw [flatMap_len he,hm]) hx h1' hroom (by
       rw [flatMap_len he,hm,← Nat.add_mul]
       have:cur0.size=cap0 * i.size:=by
        have:=congrArg List.length hc0
        simp [flatMap_len he] at this
        omega
       rw [this]
       exact Nat.mul_le_mul_right _ hroom)
      rw [this] at hr
      injection hr with e1 _
      injection e1 with e2
      simp at e2
      exact e2.symm
     ·have hold:∀ j u,(l.flatMap enc)[j]?=some u→w.cell? ((⟨g0,0,none⟩:Addr).add j)=some u:=by
       intro j u hju
       rw [addr_add,Nat.zero_add,cell_blk hh0,← Array.getElem?_toList,hc0]
       have hlt':j < (l.flatMap enc).length:=by
        rcases Nat.lt_or_ge j (l.flatMap enc).length with h' | h'
        ·exact h'
        ·rw [List.getElem?_eq_none h'] at hju; cases hju
       rw [List.getElem?_append_left hlt']
       exact hju
      have:=run_append_grow (P:=P) w T ty E i zv hu hi hz ⟨g0,0,none⟩ l.length cap0 (l.flatMap enc) (flatMap_len he l) hold a m c (xs.flatMap enc) (by rw [flatMap_len he,hm]) hx (by omega)
       (by simp [maxLen] at hmax; omega) (growslice_fits (by omega) hb)
      rw [this] at hr
      injection hr with e1 _
      injection e1 with e2
      simp at e2
      omega
   ·right; exact hge
end
section
variable {w:World}
theorem stJ_blk {b o:Nat} {s:Option Nat} {c:Array Value} {E:Nat} {cs:List Value} {KW:Kont World} (h:w.heap[b]?=some (.cells c E (0,0))) :
  @stJ w ⟨b,o,s⟩ cs KW=@gdH (s=none∧o+cs.length≤c.size∧cs.all oneC=true) ⟨fun _=>KW.run (w.setB b (.cells (wrAt c o cs) E (0,0)))⟩:=by
 rw [stC_eq,row_blk h]
 rfl
theorem st_obj {b o:Nat} {c:Array Value} {E:Nat} {cs:List Value} {KW:Kont World} (h:w.heap[b]?=some (.cells c E (0,0))) (hs:o+cs.length≤c.size) (h1:cs.all oneC=true)
  (H:∀ w',Kp [b] w w'→w'.heap.size=w.heap.size→w'.heap[b]?=some (.cells (wrAt c o cs) E (0,0))→KW.run w'):@stJ w ⟨b,o,none⟩ cs KW:=by
 rw [stJ_blk h]
 refine gd_mk ⟨rfl,hs,h1⟩ ?_
 exact H _ ((Kp.refl _ _).setB (.inl (by simp)) _) (by simp) (setB_new (lt_of_blk h))
end
end Go.W
end
section
set_option linter.unusedVariables false
set_option linter.unusedSimpArgs false
namespace Go.W
open Go
section
variable {α:Type} {enc:α→List Value} {sz:Nat}
def Vw (w:World) (v:Value) (enc:α→List Value) (l:List α):Prop :=
 (v=.slice none 0 0∧l=[]) ∨
 ∃ a cap,v=.slice (some a) l.length cap∧l.length≤cap∧(l≠[]→a.spot=none)∧∀ j u,(l.flatMap enc)[j]?=some u→w.cell? (a.add j)=some u
def _root_.Go.Value.adr:Value→Addr
 | .slice (some a) _ _=>a
 | _=>⟨0,0,none⟩
@[simp] theorem adr_slice {a:Addr} {n c:Nat}:(Value.slice (some a) n c).adr=a:=rfl
variable {w:World} {v:Value} {E:Nat} {l:List α}
theorem Vw.nil (w:World) (enc:α→List Value):Vw w (.slice none 0 0) enc []:=.inl ⟨rfl,rfl⟩
theorem Own.vw (h:Own w v E sz enc l):Vw w v enc l:=by
 rcases h with h | ⟨g,cap,cur,junk,rfl,hh,hc,hj,hle,hm⟩
 ·exact .inl h
 ·refine .inr ⟨_,cap,rfl,hle,fun _=>rfl,fun j u hj'=>?_⟩
  rw [addr_add,Nat.zero_add,cell_blk hh,← Array.getElem?_toList,hc,List.getElem?_append_left]
  ·exact hj'
  ·exact (List.getElem?_eq_some_iff.1 hj').1
theorem Vw.kp {S:List Nat} {w':World} (h:Vw w v enc l) (hk:Kp S w w') (hS:∀ x ∈ v.own,x ∉ S):Vw w' v enc l:=by
 rcases h with h | ⟨a,cap,rfl,hle,hs,hc⟩
 ·exact .inl h
 ·refine .inr ⟨a,cap,rfl,hle,hs,fun j u hj=>hk.cell (hc j u hj) ?_⟩
  have:(a.add j).block=a.block:=by unfold Addr.add; split <;> rfl
  rw [this]
  exact hS _ (by simp)
theorem Vw.kp0 {w':World} (h:Vw w v enc l) (hk:Kp [] w w'):Vw w' v enc l:=h.kp hk (by simp)
theorem Vw.c1 (h:Vw w v enc l):v.cells=#[v]:=by
 rcases h with ⟨rfl,rfl⟩ | ⟨a,cap,rfl,_⟩ <;> rfl
theorem Vw.o1 (h:Vw w v enc l):oneC v=true:=by
 rcases h with ⟨rfl,rfl⟩ | ⟨a,cap,rfl,_⟩ <;> rfl
theorem Vw.len {P:Program} {T:Nat} {K:Kont Value} (h:Vw w v enc l):@lenH P T v K=@gdH (isSl P T=true) ⟨fun _=>K.run (.int .i64 l.length)⟩:=by
 rcases h with ⟨rfl,rfl⟩ | ⟨a,cap,rfl,_⟩ <;> rfl
theorem Vw.idx {P:Program} {T:Nat} {K:Kont Value} {k:IntKind} {i:Int} (h:Vw w v enc l) (h0:0≤i) (h1:i < l.length) :
  @idxAH P T v (.int k i) K=@optH _ (slInfo P T) ⟨fun q=>K.run (.pointer (some (v.adr.add (i.toNat * q.2.1))))⟩:=by
 rcases h with ⟨rfl,rfl⟩ | ⟨a,cap,rfl,_⟩
 ·simp at h1; omega
 ·cases hs:slInfo P T with
  | none=>simp [hs,optH,optS]
  | some q=>simp [hs,h0,h1]
theorem addr_add_add {a:Addr} (hs:a.spot=none) (i j:Nat):(a.add i).add j=a.add (i+j):=by
 obtain ⟨b,o,s⟩:=a
 dsimp only at hs
 subst hs
 simp [Nat.add_assoc]
theorem Vw.at_ (h:Vw w v enc l) (he:∀ x,(enc x).length=sz) {k:Nat} {x:α} (hx:l[k]?=some x) {o:Nat} {u:Value} (hu:(enc x)[o]?=some u):w.cell? (v.adr.add (k * sz+o))=some u:=by
 have hk:k < l.length:=(List.getElem?_eq_some_iff.1 hx).1
 have ho:o < sz:=by rw [← he x]; exact (List.getElem?_eq_some_iff.1 hu).1
 rcases h with ⟨rfl,rfl⟩ | ⟨a,cap,rfl,hle,hs,hc⟩
 ·simp at hk
 ·exact hc _ _ (by rw [flatMap_at he l k x hx o ho]; exact hu)
theorem Vw.spot (h:Vw w v enc l) {k:Nat} (hk:k < l.length):v.adr.spot=none:=by
 rcases h with ⟨rfl,rfl⟩ | ⟨a,cap,rfl,hle,hs,hc⟩
 ·simp at hk
 ·exact hs (by rintro rfl; simp at hk)
theorem Vw.cells (h:Vw w v enc l) (he:∀ x,(enc x).length=sz) {k:Nat} {x:α} (hx:l[k]?=some x):cellsAt w (v.adr.add (k * sz)) 0 sz=some (enc x):=by
 have hk:k < l.length:=(List.getElem?_eq_some_iff.1 hx).1
 have:=cellsAt_of (w:=w) (a:=v.adr.add (k * sz)) (enc x) 0 (fun o ho=>by
  rw [addr_add_add (h.spot hk),Nat.zero_add,h.at_ he hx (List.getElem?_eq_getElem ho),List.getElem?_eq_getElem ho])
 rwa [he] at this
theorem Vw.cell {f:α→Value} (h:Vw w v (fun x=>[f x]) l) {k:Nat} {x:α} (hx:l[k]?=some x):w.cell? (v.adr.add k)=some (f x):=by
 have:=h.at_ (sz:=1) (fun _=>rfl) hx (o:=0) (u:=f x) rfl
 simpa using this
theorem Vw.fld (h:Vw w v enc l) (he:∀ x,(enc x).length=sz) {k:Nat} {x:α} (hx:l[k]?=some x) {o:Nat} {u:Value} (hu:(enc x)[o]?=some u):w.cell? ((v.adr.add (k * sz)).add o)=some u:=by
 rw [addr_add_add (h.spot (List.getElem?_eq_some_iff.1 hx).1)]
 exact h.at_ he hx hu
theorem Own.appendV {P:Program} {KV:Kont (Value × World)} {T ty by_:Nat} {z:List Value} {u:Value} {xs:List α} (h:Own w v E sz enc l) (hu:Vw w u enc xs) (he:∀ x,(enc x).length=sz) (h1:∀ x,(enc x).all oneC=true)
  (hT:slInfo P T=some (E,sz,by_,z)) (hb:(l.length+xs.length) * by_≤140737488355328) (hmax:l.length+xs.length≤maxLen)
  (H:∀ v' w',Kp v.own w w'→Own w' v' E sz enc (l ++ xs)→(∀ x ∈ v'.own,x ∈ v.own∨w.heap.size≤x)→KV.run (v',w')) :
  @efH P (Builtin.append_ #[T,T] ty [v,u].toArray) w KV:=by
 rcases hu with ⟨rfl,rfl⟩ | ⟨a,cap,rfl,hle,hs,hc⟩
 ·obtain ⟨i,zv,hu,hinf,hz,rfl,rfl,rfl,hzs,hpos⟩:=slInfo_spec hT
  refine ef_mk (v:=v) (w':=w) ?_ (H v w (Kp.refl _ _) (by simpa using h) (fun x hx=>.inl hx))
  rcases h with ⟨rfl,rfl⟩ | ⟨g,cap,cur,junk,rfl,hh,hc,hj,hle,hm⟩
  ·simp [Builtin.append_,run_underlying hu,sizeOf,typeInfo,hinf,Builtin.lenOf,Builtin.firstCells]
  ·simp [Builtin.append_,run_underlying hu,sizeOf,typeInfo,hinf,Builtin.lenOf,Builtin.firstCells,hle,storeCells]
 ·exact h.append he h1 hT rfl hc hb hmax H
end
end Go.W
end
section
set_option linter.unusedVariables false
set_option linter.unusedSimpArgs false
namespace Go.W
open Go
def rangeQ (b0 b1:Nat) (K:Env→World→Prop) (Q:Ex→Env→World→Prop):Ex→Env→World→Prop
 | .nrm=>K
 | .exit i=>if i=b1 then K else if i=b0 then Q .nrm else Q (.exit i)
 | .ret=>Q .ret
@[simp] theorem rangeQ_nrm {b0 b1:Nat} {K:Env→World→Prop} {Q:Ex→Env→World→Prop}:rangeQ b0 b1 K Q .nrm=K:=rfl
@[simp] theorem rangeQ_ret {b0 b1:Nat} {K:Env→World→Prop} {Q:Ex→Env→World→Prop}:rangeQ b0 b1 K Q .ret=Q .ret:=rfl
@[simp] theorem rangeQ_exit {b0 b1 i:Nat} {K:Env→World→Prop} {Q:Ex→Env→World→Prop}:rangeQ b0 b1 K Q (.exit i)=if i=b1 then K else if i=b0 then Q .nrm else Q (.exit i):=rfl
theorem range_loop {P:Program} {Q:Ex→Env→World→Prop} {ρ:Env} {w:World} {b0 b1 c lim cs t T T1 T2 T3:Nat} {body:LCode} {n:Nat} (hn:n≤9223372036854775807) (I:Nat→Env→World→Prop)
  (hc:ρ c=.int .i64 0) (hl:ρ lim=.int .i64 n) (h0:I 0 ρ w)
  (hd:c≠cs∧lim≠cs∧lim≠c)
  (hs:∀ k ρ w v,I k ρ w→I k (ρ.set cs v) w) (hs':∀ k ρ w v,I k ρ w→I k (ρ.set c v) w)
  (hb:∀ k ρ w,k < n→ρ c=.int .i64 k→ρ lim=.int .i64 n→I k ρ w→wpL P body (rangeQ b0 b1 (fun ρ' w'=>ρ' c=.int .i64 k∧ρ' lim=.int .i64 n∧I (k+1) ρ' w') Q) ρ w)
  (he:∀ ρ w,I n ρ w→Q .nrm ρ w) :
  wpL P (.loop (.seq (.region false [[LO.mk 0 (some cs) (.binOp .lss T (.tmp c) (.tmp lim) T1) T2 none]] [cs]) (.seq (.cond (.tmp cs) .skip (.exit b0)) (.seq (.block b1 body)
   (.region false [[LO.mk 0 (some t) (.binOp .add T (.tmp c) (.const (.int .i64 1)) T1) T3 none,LO.mk 0 (some c) (.move (.tmp t)) T3 none]] [c]))))) (blockK b0 Q) ρ w:=by
 refine loop_inv (fun m ρ w=>∃ k,m=n - k∧k≤n∧ρ c=.int .i64 k∧ρ lim=.int .i64 n∧I k ρ w) n ⟨0,by omega,Nat.zero_le _,hc,hl,h0⟩ ?_
 rintro m ρ w ⟨k,rfl,hkn,hc,hl,hI⟩
 obtain ⟨d1,d2,d3⟩:=hd
 by_cases hlt:k < n
 ·have hlt':(k:Int) < n:=by omega
  simp [hc,hl,hlt',d1,d2,d3]
  refine wpL_mono body ?_ (hb k (ρ.set cs (.bool true)) w hlt (by simp [d1,hc]) (by simp [d2,hl]) (hs _ _ _ _ hI))
  have hnxt:∀ ρ' w',(ρ' c=.int .i64 k∧ρ' lim=.int .i64 n∧I (k+1) ρ' w') →
    wpL P (.region false [[LO.mk 0 (some t) (.binOp .add T (.tmp c) (.const (.int .i64 1)) T1) T3 none,LO.mk 0 (some c) (.move (.tmp t)) T3 none]] [c]) (thenK (fun ρ'' w''=>∃ m,m < n - k∧∃ k,m=n - k∧k≤n∧ρ'' c=.int .i64 k∧ρ'' lim=.int .i64 n∧I k ρ'' w'') (blockK b0 Q)) ρ' w':=by
   rintro ρ' w' ⟨h1,h2,h3⟩
   simp (disch:=omega) [h1,wrap_i64]
   refine ⟨n - (k+1),by omega,k+1,rfl,by omega,rfl,?_,hs' _ _ _ _ h3⟩
   simp [d3,h2]
  intro e ρ' w' hk
  cases e with
  | nrm=>exact hnxt _ _ hk
  | ret=>exact hk
  | exit i =>
   simp only [rangeQ_exit] at hk
   simp only [blockK_exit]
   by_cases hi1:i=b1
   ·rw [if_pos hi1] at hk
    rw [if_pos hi1]
    exact hnxt _ _ hk
   ·rw [if_neg hi1] at hk
    rw [if_neg hi1]
    show blockK b0 Q (.exit i) ρ' w'
    simp only [blockK_exit]
    by_cases hi0:i=b0
    ·rw [if_pos hi0] at hk ⊢; exact hk
    ·rw [if_neg hi0] at hk ⊢; exact hk
 ·have hlt':¬ (k:Int) < n:=by omega
  simp [hc,hl,hlt',d1,d2,d3]
  have:k=n:=by omega
  subst this
  exact he _ _ (hs _ _ _ _ hI)
end Go.W
end
section
set_option linter.unusedVariables false
set_option linter.unusedSimpArgs false
namespace Go.W
open Go Go.ChangeShapes Go.WideShapes Go.ChangeAt Go.RowKit Go.Deep
section
variable {H:Type} {enc:TypeId × Value→H} {P:Program}
theorem trodAll_below (hl:laidOutB P=true) {W W':World} (hb:Below W.heap.size W W'):∀ {ts:List TypeId} {vs:List Value} {ds:List (DataW H)} {ps:List MemPlace},
  (∀ t ∈ ts,P.readableRec t=true∧t < P.types.size)→DataW.TrodAll enc P W 0 (fun _=>true) true ts vs ds ps→(∀ x ∈ ps,x.block < W.heap.size) →
  DataW.TrodAll enc P W' 0 (fun b=>decide (b < W.heap.size)) true ts vs ds ps
 | [],[],[],_,_,h,_=>h
 | t :: ts,v :: vs,d :: ds,_,hr,⟨p,q,h1,h2,e⟩,hlt=>by
  subst e
  exact ⟨p,q,Below.trod hl (hr t (by simp)).1 (hr t (by simp)).2 h1 hb (fun x hx=>hlt x (by simp [hx])),
   trodAll_below hl hb (fun t ht=>hr t (by simp [ht])) h2 (fun x hx=>hlt x (by simp [hx])),rfl⟩
theorem post_true (hl:laidOutB P=true) {f:Func} {s:ChangeSpec} {fresh:Bool} {W W':World} {args:Array Value} {ds:List (DataW H)} {before:List MemPlace} {tb:TypeId}
  (hr:∀ t ∈ f.params.toList,P.readableRec t=true∧t < P.types.size) (hres:f.resultTypes=#[tb]) (htb:P.underlying tb=some .bool) (hv:s.vars=[])
  (hw:DataW.Whole enc P f.params.toList s.vars false W args.toList ds [] before) (hfn:s.fn H (ds ++ [])={ results:=[.lit (.bool true)],args:=ds }) (hb:Below W.heap.size W W') :
  s.post enc P f false fresh false false W args (.bool true) W':=by
 have hlt:=hw.lt
 have hw':=hw
 obtain ⟨p,q,hA,hV,rfl,_,_⟩:=hw
 rw [hv] at hV
 obtain ⟨_,rfl⟩:=trodVars_none hV
 refine ⟨ds,[],_,[],p,[],hw',?_,?_,?_,hb.frame _,fun h=>by cases h⟩
 ·rw [hfn,hres]
  exact trodAll_mk1 (shut_bool htb true)
 ·rw [hfn]
  exact trodAll_below hl hb hr hA (fun x hx=>hlt x (by simp [hx]))
 ·rw [hv,hfn]; rfl
theorem law_lift {C:Checked} {os:Os} {f:FuncId} {fn:Func} {s:ChangeSpec} {conds:List PathCond} {fresh:Bool} {tb:TypeId}
  (own:ownKnob C.prog.godebug=none) (started:os.Started) (noInit:C.prog.inits.idxOf? f=none) (hfn:C.prog.funcs[f]?=some fn)
  (witness:∃ (w:World) (tape:Tape) (i:Input),w.os=os∧(w.forCall tape i).Shaped C.prog∧i.vars=[]∧Input.okWide C.prog (w.forCall tape i) .any w.heap.size f i ∧
   s.pre6 enc C.prog fn conds false (w.forCall tape i).memory i.args∧({}:Assume).holds C.prog (lone (Frame.enter C.prog f i.args .normal) [] (w.forCall tape i)))
  (hl:laidOutB C.prog=true) (hr0:(fn.params.toList.all fun t=>C.prog.readableRec t && decide (t < C.prog.types.size))=true) (hres:fn.resultTypes=#[tb]) (htb:C.prog.underlying tb=some .bool) (hv:s.vars=[])
  (walk:∀ (W:World) (base:Nat) (args:Array Value) (ds:List (DataW H)) (ps:List MemPlace),
   (∀ (j:Nat) t v,fn.params[j]?=some t→args[j]?=some v→Value.okWide C.prog W .any base t v) →
   DataW.TrodAll enc C.prog W 0 (fun _=>true) true fn.params.toList args.toList ds ps →
   (DataW.weightsEach C.prog fn.params.toList ds).all (·≤reachBytes)=true →
   s.fn H (ds ++ [])={ results:=[.lit (.bool true)],args:=ds } ∧
   Calls C.prog f args W fun e W'=>∃ v,e=.returned v∧v=.bool true∧Kp [] W W') :
  ReturnsInHanded {} C os f .any (s.pre6 enc C.prog fn conds false) (s.post enc C.prog fn false fresh false false):=by
 have hr:∀ t ∈ fn.params.toList,C.prog.readableRec t=true∧t < C.prog.types.size:=fun t ht=>by
  have:=List.all_eq_true.1 hr0 t ht
  rw [Bool.and_eq_true,decide_eq_true_eq] at this
  exact this
 refine returnsInHanded_of_change_sized own started noInit hfn witness ?_
 intro W base args ds gs before hval hW _ hsz _
 have hW':=hW
 obtain ⟨p,q,hA,hV,rfl,_,_⟩:=hW
 have hpl:s.plain.varTypes C.prog=[]:=by
  have:s.plain.vars=s.vars:=rfl
  simp [DataSpec.varTypes,this,hv]
 rw [hv] at hV
 obtain ⟨rfl,rfl⟩:=trodVars_none hV
 rw [hpl,List.append_nil,List.append_nil] at hsz
 obtain ⟨h1,h2⟩:=walk W base args ds p hval hA hsz
 refine h2.mono ?_
 rintro e W' ⟨v,rfl,rfl,hk⟩
 exact ⟨_,rfl,post_true hl hr hres htb hv hW' h1 hk.below⟩
end
end Go.W
end
section
set_option linter.unusedVariables false
set_option linter.unusedSimpArgs false
namespace Go.W
open Go
abbrev Asr:=World→List Nat→Prop
def Sub (w:World) (F F':List Nat):Prop:=∀ x ∈ F',x ∈ F∨w.heap.size≤x
theorem Sub.refl (w:World) (F:List Nat):Sub w F F:=fun _ h=>.inl h
structure Lcl (A:Asr):Prop where
 lt:∀ {w F},A w F→∀ x ∈ F,x < w.heap.size
 kp:∀ {w F G w'},A w F→Kp G w w'→(∀ x ∈ F,x ∉ G)→A w' F
def Star (A B:Asr):Asr:=fun w F=>∃ Fa Fb,A w Fa∧B w Fb∧(∀ x ∈ Fa,x ∉ Fb)∧F=Fa ++ Fb
def Emp:Asr:=fun _ F=>F=[]
theorem Lcl.emp:Lcl Emp:=by
 refine ⟨?_,?_⟩
 ·rintro w F rfl x hx; cases hx
 ·rintro w F G w' rfl _ _; rfl
theorem Lcl.star {A B:Asr} (ha:Lcl A) (hb:Lcl B):Lcl (Star A B):=by
 refine ⟨?_,?_⟩
 ·rintro w F ⟨Fa,Fb,h1,h2,hd,rfl⟩ x hx
  rcases List.mem_append.1 hx with h | h
  ·exact ha.lt h1 x h
  ·exact hb.lt h2 x h
 ·rintro w F G w' ⟨Fa,Fb,h1,h2,hd,rfl⟩ hk hG
  exact ⟨Fa,Fb,ha.kp h1 hk (fun x hx=>hG x (by simp [hx])),hb.kp h2 hk (fun x hx=>hG x (by simp [hx])),hd,rfl⟩
def OwnA {α:Type} (v:Value) (E sz:Nat) (enc:α→List Value) (l:List α):Asr:=fun w F=>Own w v E sz enc l∧F=v.own
theorem Lcl.own {α:Type} {v:Value} {E sz:Nat} {enc:α→List Value} {l:List α}:Lcl (OwnA v E sz enc l):=by
 refine ⟨?_,?_⟩
 ·rintro w F ⟨h,rfl⟩ x hx
  rcases h with ⟨rfl,_⟩ | ⟨g,cap,cur,junk,rfl,hh,_⟩
  ·cases hx
  ·simp at hx; subst hx; exact lt_of_blk hh
 ·rintro w F G w' ⟨h,rfl⟩ hk hd
  exact ⟨h.blk_of hd hk,rfl⟩
def ObjA (b:Nat) (o:Obj):Asr:=fun w F=>w.heap[b]?=some o∧F=[b]
theorem Lcl.obj {b:Nat} {o:Obj}:Lcl (ObjA b o):=by
 refine ⟨?_,?_⟩
 ·rintro w F ⟨h,rfl⟩ x hx
  simp at hx; subst hx; exact lt_of_blk h
 ·rintro w F G w' ⟨h,rfl⟩ hk hd
  exact ⟨hk.blk h (hd b (by simp)),rfl⟩
end Go.W
end
section
set_option linter.unusedVariables false
set_option linter.unusedSimpArgs false
namespace Go.W
open Go
@[simp] theorem gd_undef {b:Bool} {KB:Kont Bool}:@guH undef b KB=KB.run false:=by simp [undef]
def intT (P:Program) (k:IntKind) (e:TypeId):Bool:=P.plainKey e && (match P.underlying e with | some (.int k')=>k' == k | _=>false)
theorem intT_ok {P:Program} {k:IntKind} {e:TypeId} (h:intT P k e=true):P.plainKey e=true∧P.underlying e=some (.int k):=by
 simp only [intT,Bool.and_eq_true] at h
 refine ⟨h.1,?_⟩
 have h2:=h.2
 split at h2
 ·rename_i k' hk
  rw [hk]
  have:k'=k:=by simpa using h2
  rw [this]
 ·cases h2
def fieldsI (P:Program) (k:IntKind):Nat→List Field→Bool
 | _,[]=>true
 | o, f :: fs => f.offset == o && f.name != "_" && intT P k f.type && fieldsI P k (o + 1) fs
section
variable {P:Program} {k:IntKind} {T:TypeId} {la lb:List Int} {x y:Operand} {w:World} {K:Kont Value}
end
theorem rowOf_rep {α:Type} {enc:α→List Value} (x:α):∀ n,rowOf (enc x) n=(List.replicate n x).flatMap enc
 | 0=>rfl
 | n+1=>by simp [rowOf,List.replicate_succ,rowOf_rep x n]
theorem Own.made {α:Type} {enc:α→List Value} {E sz n:Nat} {x:α} {z:List Value} {w:World} (hz:z=enc x) (he:∀ x,(enc x).length=sz) (hn:n≤maxLen) :
  Own (w.alloc (.cells (rowOf z n).toArray E)) (.slice (some ⟨w.heap.size,0,none⟩) n n) E sz enc (List.replicate n x):=by
 subst hz
 refine .inr ⟨w.heap.size,n,_,[],by simp,alloc_new,?_,by simp,by simp,hn⟩
 simp [rowOf_rep]
section
variable {α:Type} {enc:α→List Value} {E sz:Nat} {l:List α} {v:Value} {B:Asr} {w w1:World}
end
end Go.W
end
section
set_option linter.unusedVariables false
set_option linter.unusedSimpArgs false
set_option linter.unusedSectionVars false
namespace Go.W
open Go Go.Maps
section
variable {κ α:Type} [DecidableEq κ] {ek:κ→Value} {ev:α→Value} {ok:κ→Prop} {P:Program} {k e t:TypeId}
structure KeyEnc (P:Program) (k:TypeId) (ek:κ→Value) (ok:κ→Prop):Prop where
 keyed:Keyed P k
 lit:∀ x,ok x→∃ l,keyOf P k (ek x)=some l
 inj:∀ x y,ek x=ek y→x=y
def getM (l:List (κ × α)) (x:κ):Option α:=(l.find? fun p=>decide (p.1=x)).map (·.2)
def putM (l:List (κ × α)) (x:κ) (v:α):List (κ × α):=if l.any (fun p=>decide (p.1=x)) then l.map fun p=>if p.1=x then (x,v) else p else l ++ [(x,v)]
def MapM (w:World) (b:Nat) (ek:κ→Value) (ev:α→Value) (ok:κ→Prop) (l:List (κ × α)):Prop :=
 ∃ es clock,w.heap[b]?=some (.map es clock)∧es.size≤maxLen∧es.toList.map (fun x=>(x.key,x.val))=l.map (fun p=>(ek p.1,ev p.2))∧(∀ p ∈ l,ok p.1)∧(l.map (·.1)).Nodup∧MapKept.Stamped es clock
theorem MapM.lt {w:World} {b:Nat} {l:List (κ × α)} (h:MapM w b ek ev ok l):b < w.heap.size:=by
 obtain ⟨es,clock,hb,_⟩:=h
 exact lt_of_blk hb
theorem MapM.ext {w w':World} {b:Nat} {l:List (κ × α)} (h:MapM w b ek ev ok l) (hx:ExtH w w'):MapM w' b ek ev ok l:=by
 obtain ⟨es,clock,hb,r⟩:=h
 exact ⟨es,clock,hx _ _ hb,r⟩
theorem MapM.kp {S:List Nat} {w w':World} {b:Nat} {l:List (κ × α)} (h:MapM w b ek ev ok l) (hk:Kp S w w') (hb:b ∉ S):MapM w' b ek ev ok l:=by
 obtain ⟨es,clock,h1,r⟩:=h
 exact ⟨es,clock,hk.blk h1 hb,r⟩
theorem MapM.new (w:World):MapM (w.alloc (.map #[] 0)) w.heap.size ek ev ok ([]:List (κ × α)):=⟨#[],0,alloc_new,Nat.zero_le _,rfl,by simp,by simp,MapKept.stamped_empty _⟩
theorem find_none {l:List (κ × α)} {x:κ} (h:∀ p ∈ l,p.1≠x):getM l x=none:=by
 simp only [getM,Option.map_eq_none_iff,List.find?_eq_none]
 intro p hp; simpa using h p hp
theorem find_some:∀ {l:List (κ × α)} {j:Nat} {p:κ × α},(l.map (·.1)).Nodup→l[j]?=some p→getM l p.1=some p.2
 | [],j,p,_,h=>by simp at h
 | q :: l,0,p,_,h=>by simp at h; subst h; simp [getM]
 | q :: l,j+1,p,hn,h=>by
  simp at h
  simp only [List.map_cons,List.nodup_cons] at hn
  have hne:q.1≠p.1:=fun e=>hn.1 (by rw [e]; exact List.mem_map.2 ⟨p,List.mem_of_getElem? h,rfl⟩)
  have:=find_some hn.2 h
  simp only [getM] at this ⊢
  rw [List.find?_cons_of_neg (by simpa using hne)]
  exact this
theorem MapM.find {w w':World} {b:Nat} {l:List (κ × α)} (hk:KeyEnc P k ek ok) {es:Array MapEntry} (hes:es.toList.map (fun x=>(x.key,x.val))=l.map (fun p=>(ek p.1,ev p.2))) (hok:∀ p ∈ l,ok p.1) {x:κ} (hx:ok x) :
  ((Instr.findKey k (ek x) es.toList).run P w=.ok none w∧∀ p ∈ l,p.1≠x) ∨
  ∃ j v e0,(Instr.findKey k (ek x) es.toList).run P w=.ok (some (j,ev v)) w∧l[j]?=some (x,v)∧es[j]?=some e0∧e0.key=ek x:=by
 obtain ⟨lx,hlx⟩:=hk.lit x hx
 have hat:∀ (j:Nat) (e0:MapEntry),es.toList[j]?=some e0→∃ p:κ × α,l[j]?=some p∧e0.key=ek p.1∧e0.val=ev p.2:=fun j e0 he=>by
  have:=congrArg (·[j]?) hes
  simp only [List.getElem?_map,he,Option.map_some] at this
  cases hp:l[j]? with
  | none=>rw [hp] at this; cases this
  | some p =>
   rw [hp] at this
   simp only [Option.map_some,Option.some.injEq,Prod.mk.injEq] at this
   exact ⟨p,rfl,this.1,this.2⟩
 rcases hk.keyed.find w hlx es.toList (fun e0 he=>by
   obtain ⟨j,hj⟩:=List.getElem?_of_mem he
   obtain ⟨p,hp,h1,_⟩:=hat j e0 hj
   rw [h1]; exact hk.lit _ (hok p (List.mem_of_getElem? hp))) with ⟨h1,h2⟩ | ⟨j,e0,h1,h2,h3⟩
 ·refine .inl ⟨h1,fun p hp hpx=>?_⟩
  obtain ⟨j,hj⟩:=List.getElem?_of_mem hp
  have hlen:=congrArg List.length hes
  simp only [List.length_map] at hlen
  have hjl:j < es.toList.length:=by rw [hlen]; exact (List.getElem?_eq_some_iff.1 hj).1
  obtain ⟨p',hp',h4,_⟩:=hat j _ (List.getElem?_eq_getElem hjl)
  rw [hj] at hp'
  cases hp'
  exact h2 _ (List.getElem_mem hjl) (by rw [h4,hpx])
 ·obtain ⟨p,hp,h4,h5⟩:=hat j e0 h2
  have hpx:p.1=x:=hk.inj _ _ (by rw [← h4,h3])
  refine .inr ⟨j,p.2,e0,by rw [← h5]; exact h1,by rw [hp,← hpx],by simpa using h2,h3⟩
theorem MapM.look {w:World} {b:Nat} {l:List (κ × α)} (h:MapM w b ek ev ok l) (hk:KeyEnc P k ek ok) (ht:P.underlying t=some (.map k e)) {z:Value} (hz:(zeroValue e).run P w=.ok z w) {x:κ} (hx:ok x) (c:Bool) :
  (Instr.lookup t (.map (some b)) (ek x) c).run P w=.ok (if c then .tuple #[((getM l x).map ev).getD z,.bool (getM l x).isSome] else ((getM l x).map ev).getD z) w:=by
 obtain ⟨es,clock,hb,_,hes,hok,hnd,_⟩:=h
 obtain ⟨lx,hlx⟩:=hk.lit x hx
 rcases MapM.find (w:=w) (w':=w) (b:=b) hk hes hok hx with ⟨h1,h2⟩ | ⟨j,v,e0,h1,h2,h3,h4⟩
 ·have hg:=find_none h2
  simp [Instr.lookup,run_underlying ht,MapKept.run_getObj_map hb,hk.keyed.check w _ hlx,h1,hz,Result.andThen,hg]
 ·have hg:=find_some hnd h2
  simp only at hg
  simp [Instr.lookup,run_underlying ht,MapKept.run_getObj_map hb,hk.keyed.check w _ hlx,h1,Result.andThen,hg]
theorem MapM.store {w:World} {b:Nat} {l:List (κ × α)} (h:MapM w b ek ev ok l) (hk:KeyEnc P k ek ok) (ht:P.underlying t=some (.map k e)) {x:κ} (hx:ok x) (v:α) (hl:l.length < maxLen) :
  ∃ o,(Instr.mapUpdate t (.map (some b)) (ek x) (ev v)).run P w=.ok () (w.setB b o)∧MapM (w.setB b o) b ek ev ok (putM l x v):=by
 obtain ⟨es,clock,hb,hsz,hes,hok,hnd,hst⟩:=h
 obtain ⟨lx,hlx⟩:=hk.lit x hx
 have e1:es.size=l.length:=by
  have:=congrArg List.length hes
  simpa using this
 rcases MapM.find (w:=w) (w':=w) (b:=b) hk hes hok hx with ⟨h1,h2⟩ | ⟨j,u,e0,h1,h2,h3,h4⟩
 ·refine ⟨.map (es.push ⟨ek x,ev v,clock⟩) (clock+1),?_,_,_,setB_new (lt_of_blk hb),by simp; omega,?_,?_,?_,MapKept.stamped_push hst (fun e he hek=>?_)⟩
  ·simp [Instr.mapUpdate,run_underlying ht,MapKept.run_getObj_map hb,hk.keyed.check w false hlx,h1,MapKept.run_setObj_map _ hb,Result.andThen,World.setB]
  all_goals
   have hp:putM l x v=l ++ [(x,v)]:=by
    rw [putM,if_neg]
    simp only [List.any_eq_true,decide_eq_true_eq,not_exists,not_and]
    exact h2
   try rw [hp]
  ·simp [hes]
  ·intro p hp'
   rcases List.mem_append.1 hp' with h | h
   ·exact hok p h
   ·simp at h; subst h; exact hx
  ·rw [List.map_append,List.nodup_append]
   refine ⟨hnd,by simp,fun a ha c hc=>?_⟩
   simp at hc
   subst hc
   obtain ⟨p,hp',rfl⟩:=List.mem_map.1 ha
   exact h2 p hp'
  ·obtain ⟨j,hj⟩:=List.getElem?_of_mem he
   have:=congrArg (·[j]?) hes
   simp only [List.getElem?_map,hj,Option.map_some] at this
   cases hp':l[j]? with
   | none=>rw [hp'] at this; cases this
   | some p =>
    rw [hp'] at this
    simp only [Option.map_some,Option.some.injEq,Prod.mk.injEq] at this
    exact h2 p (List.mem_of_getElem? hp') (hk.inj _ _ (by rw [← this.1]; exact hek))
 ·have hp:putM l x v=l.map fun p=>if p.1=x then (x,v) else p:=by
   rw [putM,if_pos]
   simp only [List.any_eq_true,decide_eq_true_eq]
   exact ⟨_,List.mem_of_getElem? h2,rfl⟩
  have hset:(l.map fun p=>if p.1=x then (x,v) else p)=l.set j (x,v):=by
   refine List.ext_getElem (by simp) fun i hi hi'=>?_
   rw [List.getElem_map,List.getElem_set]
   have hil:i < l.length:=by simpa using hi
   by_cases hij:j=i
   ·subst hij
    rw [if_pos rfl]
    rw [List.getElem?_eq_getElem hil] at h2
    rw [if_pos (by rw [Option.some.inj h2])]
   ·rw [if_neg hij,if_neg]
    intro he
    have hjl:j < l.length:=(List.getElem?_eq_some_iff.1 h2).1
    rw [List.getElem?_eq_getElem hjl] at h2
    have h5:(l.map (·.1))[i]'(by simpa using hil)=(l.map (·.1))[j]'(by simpa using hjl):=by
     simp only [List.getElem_map]
     rw [he,Option.some.inj h2]
    exact hij ((List.getElem_inj hnd).1 h5).symm
  have hmod:(es.modify j (fun e'=>{ e' with key:=ek x,val:=ev v })).toList=es.toList.set j ⟨ek x,ev v,e0.born⟩:=by
   have he:es.toList[j]?=some e0:=by simpa using h3
   refine List.ext_getElem (by simp) fun i hi hi'=>?_
   simp only [Array.getElem_toList,Array.getElem_modify,List.getElem_set]
   by_cases hij:j=i
   ·subst hij
    have hil:j < es.size:=by simpa using hi
    rw [if_pos rfl,if_pos rfl]
    have:es[j]=e0:=by
     rw [Array.getElem?_eq_getElem hil] at h3
     exact Option.some.inj h3
    rw [this]
   ·rw [if_neg hij,if_neg hij]
  refine ⟨.map (es.modify j (fun e'=>{ e' with key:=ek x,val:=ev v })) clock,?_,_,_,setB_new (lt_of_blk hb),by simpa using hsz,?_,?_,?_,MapKept.stamped_modify hst _ _ (fun _ _=>rfl) (fun e _ he=>?_)⟩
  ·simp [Instr.mapUpdate,run_underlying ht,MapKept.run_getObj_map hb,hk.keyed.check w false hlx,h1,h3,h4,hk.keyed.stays w hlx,MapKept.run_setObj_map _ hb,Result.andThen,World.setB]
  ·rw [hp,hset,hmod,List.map_set,List.map_set,hes]
  ·rw [hp]
   intro p hp'
   obtain ⟨q,hq,rfl⟩:=List.mem_map.1 hp'
   by_cases hqx:q.1=x
   ·rw [if_pos hqx]; exact hx
   ·rw [if_neg hqx]; exact hok q hq
  ·rw [hp]
   have:(l.map fun p=>if p.1=x then (x,v) else p).map (·.1)=l.map (·.1):=by
    rw [List.map_map]
    refine List.map_congr_left fun p _=>?_
    simp only [Function.comp]
    by_cases hpx:p.1=x
    ·rw [if_pos hpx,hpx]
    ·rw [if_neg hpx]
   rw [this]; exact hnd
  ·rw [h3] at he
   rw [← Option.some.inj he]; exact h4.symm
end
end Go.W
end
