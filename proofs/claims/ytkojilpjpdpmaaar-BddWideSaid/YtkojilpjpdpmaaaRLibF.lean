/-
  The walker's library, part LibF: plain theorems that the proofs of this seat use; no conditions beyond those each theorem names.
-/
import Derived.Test.YtkojilpjpdpmaaaRLibC
set_option linter.unusedVariables false
set_option linter.unusedSimpArgs false
set_option linter.unusedSectionVars false
namespace Go.W
open Go
/-! ### An assertion that holds since w in the blocks F, and in new ones -/
structure At (w : World) (F : List Nat) (A : Asr) (w1 : World) : Prop where
  ex : ∃ F', A w1 F' ∧ Sub w F F'
  kp : Kp F w w1
theorem At.start {w : World} {F : List Nat} {A : Asr} (h : A w F) : At w F A w := ⟨⟨F, h, Sub.refl w F⟩, Kp.refl _ _⟩
theorem At.of_new {w w1 : World} {A : Asr} (h : New w A w1) : At w [] A w1 := by
  obtain ⟨⟨F, h1, hn⟩, k⟩ := h
  exact ⟨⟨F, h1, fun x hx => .inr (hn x hx)⟩, k⟩
theorem At.new {w w1 : World} {A : Asr} (h : At w [] A w1) : New w A w1 := by
  obtain ⟨⟨F, h1, hn⟩, k⟩ := h
  refine ⟨⟨F, h1, fun x hx => ?_⟩, k⟩
  rcases hn x hx with h | h
  · cases h
  · exact h
section
variable {w w1 w2 : World} {F : List Nat} {A A' B C D : Asr}
theorem At.imp (h : At w F A w1) (hi : ∀ F1, A w1 F1 → ∃ F', A' w1 F' ∧ ∀ x ∈ F', x ∈ F1) : At w F A' w1 := by
  obtain ⟨⟨F1, h1, hn⟩, k⟩ := h
  obtain ⟨F', h2, hs⟩ := hi F1 h1
  exact ⟨⟨F', h2, fun x hx => hn x (hs x hx)⟩, k⟩
theorem At.swap (h : At w F (Star A B) w1) : At w F (Star B A) w1 := h.imp fun F1 ⟨Fa, Fb, h1, h2, hd, e⟩ => ⟨_, ⟨Fb, Fa, h2, h1, fun x hx hxa => hd x hxa hx, rfl⟩, fun x hx => by
  rw [e]; simpa [or_comm] using hx⟩
theorem At.rot (h : At w F (Star A (Star B C)) w1) : At w F (Star B (Star A C)) w1 := h.imp fun F1 ⟨Fa, Fx, h1, ⟨Fb, Fc, h2, h3, hd, ex⟩, hd2, e⟩ => by
  subst ex e
  refine ⟨_, ⟨Fb, _, h2, ⟨Fa, Fc, h1, h3, fun x hx hc => hd2 x hx (by simp [hc]), rfl⟩, fun x hx hxa => ?_, rfl⟩, fun x hx => ?_⟩
  · rcases List.mem_append.1 hxa with h | h
    · exact hd2 x h (by simp [hx])
    · exact hd x hx h
  · simp only [List.mem_append] at hx ⊢
    rcases hx with h | h | h
    · exact .inr (.inl h)
    · exact .inl h
    · exact .inr (.inr h)
theorem At.rot3 (h : At w F (Star A (Star B (Star C D))) w1) : At w F (Star C (Star A (Star B D))) w1 := h.imp fun F1 ⟨Fa, Fx, h1, ⟨Fb, Fy, h2, ⟨Fc, Fd, h3, h4, d1, e1⟩, d2, e2⟩, d3, e3⟩ => by
  subst e1 e2 e3
  refine ⟨_, ⟨Fc, _, h3, ⟨Fa, _, h1, ⟨Fb, Fd, h2, h4, fun x hx hd => d2 x hx (by simp [hd]), rfl⟩, fun x hx hm => ?_, rfl⟩, fun x hx hm => ?_, rfl⟩, fun x hx => ?_⟩
  · rcases List.mem_append.1 hm with h | h
    · exact d3 x hx (by simp [h])
    · exact d3 x hx (by simp [h])
  · simp only [List.mem_append] at hm
    rcases hm with h | h | h
    · exact d3 x h (by simp [hx])
    · exact d2 x h (by simp [hx])
    · exact d1 x hx h
  · simp only [List.mem_append] at hx ⊢
    rcases hx with h | h | h | h
    · exact .inr (.inr (.inl h))
    · exact .inl h
    · exact .inr (.inl h)
    · exact .inr (.inr (.inr h))
theorem At.kp0 (hl : Lcl A) (h : At w F A w1) (hk : Kp [] w1 w2) : At w F A w2 := by
  obtain ⟨⟨F1, h1, hn⟩, k⟩ := h
  exact ⟨⟨F1, hl.kp h1 hk (by simp), hn⟩, k.trans0 hk⟩
/-- A step in A's blocks. -/
theorem At.step (hA : Lcl A) (hB : Lcl B) (h : At w F (Star A B) w1) (hk : ∀ Fa, A w1 Fa → ∃ F', A' w2 F' ∧ Kp Fa w1 w2 ∧ Sub w1 Fa F') : At w F (Star A' B) w2 := by
  obtain ⟨⟨F1, ⟨Fa, Fb, h1, h2, hd, rfl⟩, hn⟩, k⟩ := h
  obtain ⟨F', h', hk', hs⟩ := hk Fa h1
  refine ⟨⟨_, ⟨F', Fb, h', hB.kp h2 hk' (fun x hx hxa => hd x hxa hx), fun x hx hxb => ?_, rfl⟩, fun x hx => ?_⟩, k.trans' hk' (fun x hx => hn x (by simp [hx]))⟩
  · rcases hs x hx with h3 | h3
    · exact hd x h3 hxb
    · have := hB.lt h2 x hxb; omega
  · rcases List.mem_append.1 hx with h3 | h3
    · rcases hs x h3 with h4 | h4
      · exact hn x (by simp [h4])
      · have := k.size; exact .inr (by omega)
    · exact hn x (by simp [h3])
/-- A step in all of A's blocks. -/
theorem At.step1 (hA : Lcl A) (h : At w F A w1) (hk : ∀ Fa, A w1 Fa → ∃ F', A' w2 F' ∧ Kp Fa w1 w2 ∧ Sub w1 Fa F') : At w F A' w2 := by
  obtain ⟨⟨Fa, h1, hn⟩, k⟩ := h
  obtain ⟨F', h', hk', hs⟩ := hk Fa h1
  refine ⟨⟨F', h', fun x hx => ?_⟩, k.trans' hk' (fun x hx => hn x hx)⟩
  rcases hs x hx with h3 | h3
  · exact hn x h3
  · have := k.size; exact .inr (by omega)
theorem At.more (hB : Lcl B) (h : At w F B w1) (hk : Kp [] w1 w2) (ha : ∃ F1, A w2 F1 ∧ ∀ x ∈ F1, w1.heap.size ≤ x) : At w F (Star A B) w2 := by
  obtain ⟨⟨Fb, h1, hn⟩, k⟩ := h
  obtain ⟨Fa, h2, hn2⟩ := ha
  refine ⟨⟨_, ⟨Fa, Fb, h2, hB.kp h1 hk (by simp), fun x hx hxb => ?_, rfl⟩, fun x hx => ?_⟩, k.trans0 hk⟩
  · have := hB.lt h1 x hxb; have := hn2 x hx; omega
  · rcases List.mem_append.1 hx with h3 | h3
    · have := hn2 x h3; have := k.size; exact .inr (by omega)
    · exact hn x h3
theorem At.drop (h : At w F (Star A B) w1) : At w F B w1 := h.imp fun F1 ⟨Fa, Fb, h1, h2, hd, e⟩ => ⟨Fb, h2, fun x hx => by rw [e]; simp [hx]⟩
theorem At.get (h : At w F (Star A B) w1) : ∃ F1, A w1 F1 := by
  obtain ⟨⟨F1, ⟨Fa, Fb, h1, _⟩, _⟩, _⟩ := h
  exact ⟨Fa, h1⟩
theorem At.obj {b : Nat} {o : Obj} (h : At w F (Star (ObjA b o) B) w1) : w1.heap[b]? = some o := by
  obtain ⟨F1, h1⟩ := h.get
  exact h1.1
/-- A block is set. -/
theorem At.setB {b : Nat} {o o' : Obj} (hB : Lcl B) (h : At w F (Star (ObjA b o) B) w1) : At w F (Star (ObjA b o') B) (w1.setB b o') := by
  refine h.step Lcl.obj hB ?_
  rintro Fa ⟨h1, rfl⟩
  exact ⟨[b], ⟨setB_new (lt_of_blk h1), rfl⟩, (Kp.refl _ _).setB (.inl (by simp)) _, fun x hx => .inl hx⟩
/-- A new block. -/
theorem At.alloc (o : Obj) (hB : Lcl B) (h : At w F B w1) : At w F (Star (ObjA w1.heap.size o) B) (w1.alloc o) :=
  h.more hB ((Kp.refl _ _).alloc _) ⟨_, ⟨alloc_new, rfl⟩, by simp⟩
theorem At.drew (hA : Lcl A) (h : At w F A w1) : At w F A w1.drew := h.kp0 hA (Kp.refl [] w1).drew
end
section
variable {α : Type} {enc : α → List Value} {E sz : Nat} {l : List α} {v : Value} {B : Asr} {w w1 : World} {F : List Nat}
theorem At.own (h : At w F (Star (OwnA v E sz enc l) B) w1) : Own w1 v E sz enc l := by
  obtain ⟨F1, h1, _⟩ := h.get
  exact h1
theorem At.store {KW : Kont World} (hB : Lcl B) (h : At w F (Star (OwnA v E sz enc l) B) w1) (he : ∀ x, (enc x).length = sz) (h1 : ∀ x, (enc x).all oneC = true) {k : Nat} (hk : k < l.length) {x : α} {cs : List Value} (hcs : cs = enc x)
    (H : ∀ w2, At w F (Star (OwnA v E sz enc (l.set k x)) B) w2 → KW.run w2) : @stJ w1 ⟨v.blk, k * sz, none⟩ cs KW := by
  refine h.own.store he h1 hk hcs fun w2 hk2 hs2 ho2 => H w2 (h.step Lcl.own hB ?_)
  rintro Fa ⟨ho, rfl⟩
  exact ⟨_, ⟨ho2, rfl⟩, by rw [ho.own_eq hk]; exact hk2, fun x hx => .inl hx⟩
theorem At.store1 {KW : Kont World} (hB : Lcl B) (h : At w F (Star (OwnA v E 1 enc l) B) w1) (he : ∀ x, (enc x).length = 1) (h1 : ∀ x, (enc x).all oneC = true) {k : Nat} (hk : k < l.length) {x : α} {cs : List Value} (hcs : cs = enc x)
    (H : ∀ w2, At w F (Star (OwnA v E 1 enc (l.set k x)) B) w2 → KW.run w2) : @stJ w1 ⟨v.blk, k, none⟩ cs KW := by
  have := h.store (KW := KW) hB he h1 hk hcs H
  rwa [Nat.mul_one] at this
theorem At.append {P : Program} {KV : Kont (Value × World)} {T ty by_ : Nat} {z : List Value} (hB : Lcl B) (h : At w F (Star (OwnA v E sz enc l) B) w1) (he : ∀ x, (enc x).length = sz) (h1 : ∀ x, (enc x).all oneC = true)
    (hT : slInfo P T = some (E, sz, by_, z)) {a : Addr} {m c : Nat} {xs : List α} (hm : xs.length = m) (hx : ∀ j u, (xs.flatMap enc)[j]? = some u → w1.cell? (a.add j) = some u)
    (hb : (l.length + m) * by_ ≤ 140737488355328) (hmax : l.length + m ≤ maxLen)
    (H : ∀ v' w2, At w F (Star (OwnA v' E sz enc (l ++ xs)) B) w2 → KV.run (v', w2)) :
    @efH P (Builtin.append_ #[T, T] ty [v, .slice (some a) m c].toArray) w1 KV := by
  refine h.own.append he h1 hT hm hx hb hmax fun v' w2 hk2 ho2 hs2 => H v' w2 (h.step Lcl.own hB ?_)
  rintro Fa ⟨ho, rfl⟩
  exact ⟨_, ⟨ho2, rfl⟩, hk2, hs2⟩
theorem At.appendV {P : Program} {KV : Kont (Value × World)} {T ty by_ : Nat} {z : List Value} {u : Value} {xs : List α} (hB : Lcl B) (h : At w F (Star (OwnA v E sz enc l) B) w1) (hu : Vw w1 u enc xs) (he : ∀ x, (enc x).length = sz) (h1 : ∀ x, (enc x).all oneC = true)
    (hT : slInfo P T = some (E, sz, by_, z)) (hb : (l.length + xs.length) * by_ ≤ 140737488355328) (hmax : l.length + xs.length ≤ maxLen)
    (H : ∀ v' w2, At w F (Star (OwnA v' E sz enc (l ++ xs)) B) w2 → KV.run (v', w2)) :
    @efH P (Builtin.append_ #[T, T] ty [v, u].toArray) w1 KV := by
  refine h.own.appendV hu he h1 hT hb hmax fun v' w2 hk2 ho2 hs2 => H v' w2 (h.step Lcl.own hB ?_)
  rintro Fa ⟨ho, rfl⟩
  exact ⟨_, ⟨ho2, rfl⟩, hk2, hs2⟩
theorem At.nil (hB : Lcl B) (h : At w F B w1) : At w F (Star (OwnA (.slice none 0 0) E sz enc []) B) w1 :=
  h.more hB (Kp.refl _ _) ⟨_, ⟨Own.nil _ _ _ _, rfl⟩, by simp⟩
theorem At.made {n : Nat} {x : α} {z : List Value} (hB : Lcl B) (h : At w F B w1) (hz : z = enc x) (he : ∀ x, (enc x).length = sz) (hn : n ≤ maxLen) :
    At w F (Star (OwnA (.slice (some ⟨w1.heap.size, 0, none⟩) n n) E sz enc (List.replicate n x)) B) (w1.alloc (.cells (rowOf z n).toArray E)) :=
  h.more hB ((Kp.refl _ _).alloc _) ⟨_, ⟨Own.made hz he hn, rfl⟩, by simp⟩
/-- A literal slice. -/
theorem At.lit {xs : List α} {cs : Array Value} (hB : Lcl B) (h : At w F B w1) (hcs : cs.toList = xs.flatMap enc) (he : ∀ x, (enc x).length = sz) (hn : xs.length ≤ maxLen) {m : Nat} (hm : m = xs.length) :
    At w F (Star (OwnA (.slice (some ⟨w1.heap.size, 0, none⟩) m m) E sz enc xs) B) (w1.alloc (.cells cs E)) := by
  subst hm
  exact h.more hB ((Kp.refl _ _).alloc _) ⟨_, ⟨.inr ⟨w1.heap.size, xs.length, cs, [], rfl, alloc_new, by simpa using hcs, by simp, Nat.le_refl _, hn⟩, rfl⟩, by simp⟩
end
/-! ### A slice that is read, as an assertion -/
def VwA {α : Type} (v : Value) (enc : α → List Value) (l : List α) : Asr := fun w F => Vw w v enc l ∧ F = v.own ∧ ∀ x ∈ v.own, x < w.heap.size
theorem Lcl.vw {α : Type} {v : Value} {enc : α → List Value} {l : List α} : Lcl (VwA v enc l) := by
  refine ⟨?_, ?_⟩
  · rintro w F ⟨h, rfl, hlt⟩ x hx; exact hlt x hx
  · rintro w F G w' ⟨h, rfl, hlt⟩ hk hd
    exact ⟨h.kp hk hd, rfl, fun x hx => by have := hlt x hx; have := hk.size; omega⟩
theorem At.vw {α : Type} {v : Value} {enc : α → List Value} {l : List α} {w w1 : World} {F : List Nat} {B : Asr} (h : At w F (Star (VwA v enc l) B) w1) : Vw w1 v enc l := by
  obtain ⟨F1, h1, _⟩ := h.get
  exact h1
theorem At.own_vw {α : Type} {v : Value} {E sz : Nat} {enc : α → List Value} {l : List α} {w w1 : World} {F : List Nat} {B : Asr} (h : At w F (Star (OwnA v E sz enc l) B) w1) : At w F (Star (VwA v enc l) B) w1 := h.imp fun F1 ⟨Fa, Fb, ⟨h1, e1⟩, h2, hd, e⟩ => by
  subst e e1
  refine ⟨_, ⟨v.own, Fb, ⟨h1.vw, rfl, fun x hx => ?_⟩, h2, hd, rfl⟩, fun x hx => hx⟩
  rcases h1 with ⟨rfl, _⟩ | ⟨g, cap, cur, junk, rfl, hh, _⟩
  · cases hx
  · simp at hx; subst hx; exact lt_of_blk hh
/-! ### A map, as an assertion -/
section
open Go.Maps
variable {κ α : Type} [DecidableEq κ] {ek : κ → Value} {ev : α → Value} {ok : κ → Prop} {P : Program} {k e t : TypeId} {l : List (κ × α)} {b : Nat} {B : Asr} {w w1 : World} {F : List Nat}
def MapA (b : Nat) (ek : κ → Value) (ev : α → Value) (ok : κ → Prop) (l : List (κ × α)) : Asr := fun w F => MapM w b ek ev ok l ∧ F = [b]
theorem Lcl.map : Lcl (MapA b ek ev ok l) := by
  refine ⟨?_, ?_⟩
  · rintro w F ⟨h, rfl⟩ x hx
    simp at hx; subst hx; exact h.lt
  · rintro w F G w' ⟨h, rfl⟩ hk hd
    exact ⟨h.kp hk (hd b (by simp)), rfl⟩
theorem At.map (h : At w F (Star (MapA b ek ev ok l) B) w1) : MapM w1 b ek ev ok l := by
  obtain ⟨F1, h1, _⟩ := h.get
  exact h1
theorem At.newmap (hB : Lcl B) (h : At w F B w1) : At w F (Star (MapA w1.heap.size ek ev ok ([] : List (κ × α))) B) (w1.alloc (.map #[] 0)) :=
  h.more hB ((Kp.refl _ _).alloc _) ⟨_, ⟨MapM.new _, rfl⟩, by simp⟩
theorem At.put {KW : Kont World} {x : κ} {v : α} (hB : Lcl B) (h : At w F (Star (MapA b ek ev ok l) B) w1) (hk : KeyEnc P k ek ok) (ht : P.underlying t = some (.map k e)) (hx : ok x) (hl : l.length < maxLen)
    (H : ∀ w2, At w F (Star (MapA b ek ev ok (putM l x v)) B) w2 → KW.run w2) : @efuH P (Instr.mapUpdate t (.map (some b)) (ek x) (ev v)) w1 KW := by
  obtain ⟨o, hr, hm⟩ := h.map.store hk ht hx v hl
  refine efu_mk hr (H _ (h.step Lcl.map hB ?_))
  rintro Fa ⟨h1, rfl⟩
  exact ⟨[b], ⟨hm, rfl⟩, (Kp.refl _ _).setB (.inl (by simp)) _, fun x hx => .inl hx⟩
theorem MapM.look2 {K : Kont Value} {x : κ} (h : MapM w b ek ev ok l) (hk : KeyEnc P k ek ok) (ht : P.underlying t = some (.map k e)) {z : Value} (hz : ∀ w, (zeroValue e).run P w = .ok z w) (hx : ok x)
    (H : K.run (.tuple #[((getM l x).map ev).getD z, .bool (getM l x).isSome])) : @rdH P (Instr.lookup t (.map (some b)) (ek x) true) w K :=
  rd_mk (fun w' hw => by have := MapM.look (h.ext hw) hk ht (hz w') hx true; simpa using this) H
theorem MapM.look1 {K : Kont Value} {x : κ} (h : MapM w b ek ev ok l) (hk : KeyEnc P k ek ok) (ht : P.underlying t = some (.map k e)) {z : Value} (hz : ∀ w, (zeroValue e).run P w = .ok z w) (hx : ok x)
    (H : K.run (((getM l x).map ev).getD z)) : @rdH P (Instr.lookup t (.map (some b)) (ek x) false) w K :=
  rd_mk (fun w' hw => by have := MapM.look (h.ext hw) hk ht (hz w') hx false; simpa using this) H
theorem MapM.len2 {K : Kont Value} {ty : Nat} (h : MapM w b ek ev ok l) (ht : P.underlying t = some (.map k e)) (H : K.run (.int .i64 l.length)) : @rdH P (Builtin.len_ #[t] ty #[.map (some b)]) w K :=
  rd_mk (fun w' hw => MapM.len (h.ext hw) ht ty) H
end
end Go.W
