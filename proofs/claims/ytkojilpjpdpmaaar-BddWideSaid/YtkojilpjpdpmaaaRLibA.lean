/-
  The walker's library, part LibA: plain theorems that the proofs of this seat use; no conditions beyond those each theorem names.
-/
import Derived.Test.YtkojilpjpdpmaaaRLib9
set_option linter.unusedVariables false
set_option linter.unusedSimpArgs false
namespace Go.W
open Go
/-! ### What lies where: an assertion of a world and of the blocks that it speaks of -/
abbrev Asr := World → List Nat → Prop
/-- The blocks after a step: old ones of the list, and new ones. -/
def Sub (w : World) (F F' : List Nat) : Prop := ∀ x ∈ F', x ∈ F ∨ w.heap.size ≤ x
theorem Sub.refl (w : World) (F : List Nat) : Sub w F F := fun _ h => .inl h
theorem Sub.trans {w w1 : World} {F F' F'' : List Nat} (h : Sub w F F') (k : Sub w1 F' F'') (hs : w.heap.size ≤ w1.heap.size) : Sub w F F'' := fun x hx => by
  rcases k x hx with h1 | h1
  · exact h x h1
  · exact .inr (by omega)
structure Lcl (A : Asr) : Prop where
  lt : ∀ {w F}, A w F → ∀ x ∈ F, x < w.heap.size
  kp : ∀ {w F G w'}, A w F → Kp G w w' → (∀ x ∈ F, x ∉ G) → A w' F
def Star (A B : Asr) : Asr := fun w F => ∃ Fa Fb, A w Fa ∧ B w Fb ∧ (∀ x ∈ Fa, x ∉ Fb) ∧ F = Fa ++ Fb
def Emp : Asr := fun _ F => F = []
theorem Lcl.emp : Lcl Emp := by
  refine ⟨?_, ?_⟩
  · rintro w F rfl x hx; cases hx
  · rintro w F G w' rfl _ _; rfl
theorem Lcl.star {A B : Asr} (ha : Lcl A) (hb : Lcl B) : Lcl (Star A B) := by
  refine ⟨?_, ?_⟩
  · rintro w F ⟨Fa, Fb, h1, h2, hd, rfl⟩ x hx
    rcases List.mem_append.1 hx with h | h
    · exact ha.lt h1 x h
    · exact hb.lt h2 x h
  · rintro w F G w' ⟨Fa, Fb, h1, h2, hd, rfl⟩ hk hG
    exact ⟨Fa, Fb, ha.kp h1 hk (fun x hx => hG x (by simp [hx])), hb.kp h2 hk (fun x hx => hG x (by simp [hx])), hd, rfl⟩
/-- It holds, in blocks that are new since w; all that is older is as it was. -/
structure New (w : World) (A : Asr) (w1 : World) : Prop where
  ex : ∃ F, A w1 F ∧ ∀ x ∈ F, w.heap.size ≤ x
  kp : Kp [] w w1
theorem New.swap {A B : Asr} {w w1 : World} (h : New w (Star A B) w1) : New w (Star B A) w1 := by
  obtain ⟨⟨F, ⟨Fa, Fb, h1, h2, hd, rfl⟩, hn⟩, k⟩ := h
  exact ⟨⟨_, ⟨Fb, Fa, h2, h1, fun x hx hxa => hd x hxa hx, rfl⟩, fun x hx => hn x (by simpa [or_comm] using hx)⟩, k⟩
theorem New.rot {A B C : Asr} {w w1 : World} (h : New w (Star A (Star B C)) w1) : New w (Star B (Star A C)) w1 := by
  obtain ⟨⟨F, ⟨Fa, Fx, h1, ⟨Fb, Fc, h2, h3, hd, rfl⟩, hd2, rfl⟩, hn⟩, k⟩ := h
  refine ⟨⟨_, ⟨Fb, _, h2, ⟨Fa, Fc, h1, h3, fun x hx hc => hd2 x hx (by simp [hc]), rfl⟩, fun x hx hxa => ?_, rfl⟩, fun x hx => hn x ?_⟩, k⟩
  · rcases List.mem_append.1 hxa with h | h
    · exact hd2 x h (by simp [hx])
    · exact hd x hx h
  · simp only [List.mem_append] at hx ⊢
    rcases hx with h | h | h
    · exact .inr (.inl h)
    · exact .inl h
    · exact .inr (.inr h)
theorem New.kp0 {A : Asr} {w w1 w2 : World} (hl : Lcl A) (h : New w A w1) (hk : Kp [] w1 w2) : New w A w2 := by
  obtain ⟨⟨F, h1, hn⟩, k⟩ := h
  exact ⟨⟨F, hl.kp h1 hk (by simp), hn⟩, k.trans0 hk⟩
/-- A step in A's blocks. -/
theorem New.step {A A' B : Asr} {w w1 w2 : World} (hA : Lcl A) (hB : Lcl B) (h : New w (Star A B) w1) (hk : ∀ F, A w1 F → ∃ F', A' w2 F' ∧ Kp F w1 w2 ∧ Sub w1 F F') : New w (Star A' B) w2 := by
  obtain ⟨⟨F, ⟨Fa, Fb, h1, h2, hd, rfl⟩, hn⟩, k⟩ := h
  obtain ⟨F', h', hk', hs⟩ := hk Fa h1
  refine ⟨⟨_, ⟨F', Fb, h', hB.kp h2 hk' (fun x hx hxa => hd x hxa hx), fun x hx hxb => ?_, rfl⟩, fun x hx => ?_⟩, k.trans' hk' (fun x hx => .inr (hn x (by simp [hx])))⟩
  · rcases hs x hx with h3 | h3
    · exact hd x h3 hxb
    · have := hB.lt h2 x hxb; omega
  · rcases List.mem_append.1 hx with h3 | h3
    · rcases hs x h3 with h4 | h4
      · exact hn x (by simp [h4])
      · have := k.size; omega
    · exact hn x (by simp [h3])
/-- A call that works in A's blocks. -/
theorem New.call {P : Program} {f : Nat} {args : Array Value} {A A' B : Asr} {w w1 : World} {x : Value} (hA : Lcl A) (hB : Lcl B) (h : New w (Star A B) w1)
    (hc : ∀ F, A w1 F → Calls P f args w1 fun e w' => ∃ v, e = .returned v ∧ v = x ∧ ∃ F', A' w' F' ∧ Kp F w1 w' ∧ Sub w1 F F') :
    Calls P f args w1 fun e w' => ∃ v, e = .returned v ∧ v = x ∧ New w (Star A' B) w' := by
  have h0 := h
  obtain ⟨⟨F, ⟨Fa, Fb, h1, h2, hd, rfl⟩, hn⟩, k⟩ := h
  refine Calls.mono (hc Fa h1) ?_
  rintro e w' ⟨v, rfl, rfl, F', h', hk', hs⟩
  refine ⟨_, rfl, rfl, ⟨_, ⟨F', Fb, h', hB.kp h2 hk' (fun x hx hxa => hd x hxa hx), fun x hx hxb => ?_, rfl⟩, fun x hx => ?_⟩, k.trans' hk' (fun x hx => .inr (hn x (by simp [hx])))⟩
  · rcases hs x hx with h3 | h3
    · exact hd x h3 hxb
    · have := hB.lt h2 x hxb; omega
  · rcases List.mem_append.1 hx with h3 | h3
    · rcases hs x h3 with h4 | h4
      · exact hn x (by simp [h4])
      · have := k.size; omega
    · exact hn x (by simp [h3])
/-- Something new beside what there is. -/
theorem New.more {A B : Asr} {w w1 w2 : World} (hB : Lcl B) (h : New w B w1) (hk : Kp [] w1 w2) (ha : ∃ F, A w2 F ∧ ∀ x ∈ F, w1.heap.size ≤ x) : New w (Star A B) w2 := by
  obtain ⟨⟨F, h1, hn⟩, k⟩ := h
  obtain ⟨Fa, h2, hn2⟩ := ha
  refine ⟨⟨_, ⟨Fa, F, h2, hB.kp h1 hk (by simp), fun x hx hxb => ?_, rfl⟩, fun x hx => ?_⟩, k.trans0 hk⟩
  · have := hB.lt h1 x hxb; have := hn2 x hx; omega
  · rcases List.mem_append.1 hx with h3 | h3
    · have := hn2 x h3; have := k.size; omega
    · exact hn x h3
theorem New.emp {w w1 : World} (h : Kp [] w w1) : New w Emp w1 := ⟨⟨[], rfl, by simp⟩, h⟩
/-- A row of one's own, as an assertion. -/
def OwnA {α : Type} (v : Value) (E sz : Nat) (enc : α → List Value) (l : List α) : Asr := fun w F => Own w v E sz enc l ∧ F = v.own
theorem Lcl.own {α : Type} {v : Value} {E sz : Nat} {enc : α → List Value} {l : List α} : Lcl (OwnA v E sz enc l) := by
  refine ⟨?_, ?_⟩
  · rintro w F ⟨h, rfl⟩ x hx
    rcases h with ⟨rfl, _⟩ | ⟨g, cap, cur, junk, rfl, hh, _⟩
    · cases hx
    · simp at hx; subst hx; exact lt_of_blk hh
  · rintro w F G w' ⟨h, rfl⟩ hk hd
    exact ⟨h.blk_of hd hk, rfl⟩
/-- A block, as an assertion. -/
def ObjA (b : Nat) (o : Obj) : Asr := fun w F => w.heap[b]? = some o ∧ F = [b]
theorem Lcl.obj {b : Nat} {o : Obj} : Lcl (ObjA b o) := by
  refine ⟨?_, ?_⟩
  · rintro w F ⟨h, rfl⟩ x hx
    simp at hx; subst hx; exact lt_of_blk h
  · rintro w F G w' ⟨h, rfl⟩ hk hd
    exact ⟨hk.blk h (hd b (by simp)), rfl⟩
theorem New.obj {B : Asr} {b : Nat} {o : Obj} {w w1 : World} (h : New w (Star (ObjA b o) B) w1) : w1.heap[b]? = some o := by
  obtain ⟨⟨F, ⟨Fa, Fb, h1, _⟩, _⟩, _⟩ := h
  exact h1.1
theorem New.drop {A B : Asr} {w w1 : World} (h : New w (Star A B) w1) : New w B w1 := by
  obtain ⟨⟨F, ⟨Fa, Fb, h1, h2, hd, rfl⟩, hn⟩, k⟩ := h
  exact ⟨⟨Fb, h2, fun x hx => hn x (by simp [hx])⟩, k⟩
theorem New.imp {A A' : Asr} {w w1 : World} (h : New w A w1) (hi : ∀ F, A w1 F → ∃ F', A' w1 F' ∧ ∀ x ∈ F', x ∈ F) : New w A' w1 := by
  obtain ⟨⟨F, h1, hn⟩, k⟩ := h
  obtain ⟨F', h2, hs⟩ := hi F h1
  exact ⟨⟨F', h2, fun x hx => hn x (hs x hx)⟩, k⟩
theorem New.rot3 {A B C D : Asr} {w w1 : World} (h : New w (Star A (Star B (Star C D))) w1) : New w (Star C (Star A (Star B D))) w1 := by
  refine h.imp ?_
  rintro F ⟨Fa, Fx, h1, ⟨Fb, Fy, h2, ⟨Fc, Fd, h3, h4, d1, rfl⟩, d2, rfl⟩, d3, rfl⟩
  refine ⟨_, ⟨Fc, _, h3, ⟨Fa, _, h1, ⟨Fb, Fd, h2, h4, fun x hx hd => d2 x hx (by simp [hd]), rfl⟩, fun x hx hm => ?_, rfl⟩, fun x hx hm => ?_, rfl⟩, fun x hx => ?_⟩
  · rcases List.mem_append.1 hm with h | h
    · exact d3 x hx (by simp [h])
    · exact d3 x hx (by simp [h])
  · simp only [List.mem_append] at hm
    rcases hm with h | h | h
    · exact d3 x h (by simp [hx])
    · exact d2 x h (by simp [hx])
    · exact d1 x hx h
  · simp only [List.mem_append] at hx ⊢
    rcases hx with h | h | h | h
    · exact .inr (.inr (.inl h))
    · exact .inl h
    · exact .inr (.inl h)
    · exact .inr (.inr (.inr h))
theorem New.get {A B : Asr} {w w1 : World} (h : New w (Star A B) w1) : ∃ F, A w1 F := by
  obtain ⟨⟨F, ⟨Fa, Fb, h1, _⟩, _⟩, _⟩ := h
  exact ⟨Fa, h1⟩
end Go.W
