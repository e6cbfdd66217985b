/-
  Parts of the proofs of this seat's statements (LibA, LibB, LibC, LibD, LibE); no conditions beyond those each theorem names.
-/
import Derived.Test.YtcplpogmbacnfaaLibP
import Derived.Laws.StructEq
import Derived.ChangeKeysEq
import Derived.Maps.OwnSet
import Derived.HandedShaped
import Derived.Shelf.Vars
section
set_option linter.unusedVariables false
set_option linter.unusedSimpArgs false
namespace Go.W
open Go
/-! ### What lies where: an assertion of a world and of the blocks that it speaks of -/
abbrev Asr := World → List Nat → Prop
/-- The blocks after a step: old ones of the list, and new ones. -/
def Sub (w : World) (F F' : List Nat) : Prop := ∀ x ∈ F', x ∈ F ∨ w.heap.size ≤ x
theorem Sub.refl (w : World) (F : List Nat) : Sub w F F := fun _ h => .inl h
theorem Sub.trans {w w1 : World} {F F' F'' : List Nat} (h : Sub w F F') (k : Sub w1 F' F'') (hs : w.heap.size ≤ w1.heap.size) : Sub w F F'' := fun x hx => by
  rcases k x hx with h1 | h1
  · exact h x h1
  · exact .inr (by omega)
structure Lcl (A : Asr) : Prop where
  lt : ∀ {w F}, A w F → ∀ x ∈ F, x < w.heap.size
  kp : ∀ {w F G w'}, A w F → Kp G w w' → (∀ x ∈ F, x ∉ G) → A w' F
def Star (A B : Asr) : Asr := fun w F => ∃ Fa Fb, A w Fa ∧ B w Fb ∧ (∀ x ∈ Fa, x ∉ Fb) ∧ F = Fa ++ Fb
def Emp : Asr := fun _ F => F = []
theorem Lcl.emp : Lcl Emp := by
  refine ⟨?_, ?_⟩
  · rintro w F rfl x hx; cases hx
  · rintro w F G w' rfl _ _; rfl
theorem Lcl.star {A B : Asr} (ha : Lcl A) (hb : Lcl B) : Lcl (Star A B) := by
  refine ⟨?_, ?_⟩
  · rintro w F ⟨Fa, Fb, h1, h2, hd, rfl⟩ x hx
    rcases List.mem_append.1 hx with h | h
    · exact ha.lt h1 x h
    · exact hb.lt h2 x h
  · rintro w F G w' ⟨Fa, Fb, h1, h2, hd, rfl⟩ hk hG
    exact ⟨Fa, Fb, ha.kp h1 hk (fun x hx => hG x (by simp [hx])), hb.kp h2 hk (fun x hx => hG x (by simp [hx])), hd, rfl⟩
/-- It holds, in blocks that are new since w; all that is older is as it was. -/
structure New (w : World) (A : Asr) (w1 : World) : Prop where
  ex : ∃ F, A w1 F ∧ ∀ x ∈ F, w.heap.size ≤ x
  kp : Kp [] w w1
theorem New.swap {A B : Asr} {w w1 : World} (h : New w (Star A B) w1) : New w (Star B A) w1 := by
  obtain ⟨⟨F, ⟨Fa, Fb, h1, h2, hd, rfl⟩, hn⟩, k⟩ := h
  exact ⟨⟨_, ⟨Fb, Fa, h2, h1, fun x hx hxa => hd x hxa hx, rfl⟩, fun x hx => hn x (by simpa [or_comm] using hx)⟩, k⟩
theorem New.rot {A B C : Asr} {w w1 : World} (h : New w (Star A (Star B C)) w1) : New w (Star B (Star A C)) w1 := by
  obtain ⟨⟨F, ⟨Fa, Fx, h1, ⟨Fb, Fc, h2, h3, hd, rfl⟩, hd2, rfl⟩, hn⟩, k⟩ := h
  refine ⟨⟨_, ⟨Fb, _, h2, ⟨Fa, Fc, h1, h3, fun x hx hc => hd2 x hx (by simp [hc]), rfl⟩, fun x hx hxa => ?_, rfl⟩, fun x hx => hn x ?_⟩, k⟩
  · rcases List.mem_append.1 hxa with h | h
    · exact hd2 x h (by simp [hx])
    · exact hd x hx h
  · simp only [List.mem_append] at hx ⊢
    rcases hx with h | h | h
    · exact .inr (.inl h)
    · exact .inl h
    · exact .inr (.inr h)
theorem New.kp0 {A : Asr} {w w1 w2 : World} (hl : Lcl A) (h : New w A w1) (hk : Kp [] w1 w2) : New w A w2 := by
  obtain ⟨⟨F, h1, hn⟩, k⟩ := h
  exact ⟨⟨F, hl.kp h1 hk (by simp), hn⟩, k.trans0 hk⟩
/-- A step in A's blocks. -/
theorem New.step {A A' B : Asr} {w w1 w2 : World} (hA : Lcl A) (hB : Lcl B) (h : New w (Star A B) w1) (hk : ∀ F, A w1 F → ∃ F', A' w2 F' ∧ Kp F w1 w2 ∧ Sub w1 F F') : New w (Star A' B) w2 := by
  obtain ⟨⟨F, ⟨Fa, Fb, h1, h2, hd, rfl⟩, hn⟩, k⟩ := h
  obtain ⟨F', h', hk', hs⟩ := hk Fa h1
  refine ⟨⟨_, ⟨F', Fb, h', hB.kp h2 hk' (fun x hx hxa => hd x hxa hx), fun x hx hxb => ?_, rfl⟩, fun x hx => ?_⟩, k.trans' hk' (fun x hx => .inr (hn x (by simp [hx])))⟩
  · rcases hs x hx with h3 | h3
    · exact hd x h3 hxb
    · have := hB.lt h2 x hxb; omega
  · rcases List.mem_append.1 hx with h3 | h3
    · rcases hs x h3 with h4 | h4
      · exact hn x (by simp [h4])
      · have := k.size; omega
    · exact hn x (by simp [h3])
/-- A call that works in A's blocks. -/
theorem New.call {P : Program} {f : Nat} {args : Array Value} {A A' B : Asr} {w w1 : World} {x : Value} (hA : Lcl A) (hB : Lcl B) (h : New w (Star A B) w1)
    (hc : ∀ F, A w1 F → Calls P f args w1 fun e w' => ∃ v, e = .returned v ∧ v = x ∧ ∃ F', A' w' F' ∧ Kp F w1 w' ∧ Sub w1 F F') :
    Calls P f args w1 fun e w' => ∃ v, e = .returned v ∧ v = x ∧ New w (Star A' B) w' := by
  have h0 := h
  obtain ⟨⟨F, ⟨Fa, Fb, h1, h2, hd, rfl⟩, hn⟩, k⟩ := h
  refine Calls.mono (hc Fa h1) ?_
  rintro e w' ⟨v, rfl, rfl, F', h', hk', hs⟩
  refine ⟨_, rfl, rfl, ⟨_, ⟨F', Fb, h', hB.kp h2 hk' (fun x hx hxa => hd x hxa hx), fun x hx hxb => ?_, rfl⟩, fun x hx => ?_⟩, k.trans' hk' (fun x hx => .inr (hn x (by simp [hx])))⟩
  · rcases hs x hx with h3 | h3
    · exact hd x h3 hxb
    · have := hB.lt h2 x hxb; omega
  · rcases List.mem_append.1 hx with h3 | h3
    · rcases hs x h3 with h4 | h4
      · exact hn x (by simp [h4])
      · have := k.size; omega
    · exact hn x (by simp [h3])
/-- Something new beside what there is. -/
theorem New.more {A B : Asr} {w w1 w2 : World} (hB : Lcl B) (h : New w B w1) (hk : Kp [] w1 w2) (ha : ∃ F, A w2 F ∧ ∀ x ∈ F, w1.heap.size ≤ x) : New w (Star A B) w2 := by
  obtain ⟨⟨F, h1, hn⟩, k⟩ := h
  obtain ⟨Fa, h2, hn2⟩ := ha
  refine ⟨⟨_, ⟨Fa, F, h2, hB.kp h1 hk (by simp), fun x hx hxb => ?_, rfl⟩, fun x hx => ?_⟩, k.trans0 hk⟩
  · have := hB.lt h1 x hxb; have := hn2 x hx; omega
  · rcases List.mem_append.1 hx with h3 | h3
    · have := hn2 x h3; have := k.size; omega
    · exact hn x h3
theorem New.emp {w w1 : World} (h : Kp [] w w1) : New w Emp w1 := ⟨⟨[], rfl, by simp⟩, h⟩
/-- A row of one's own, as an assertion. -/
def OwnA {α : Type} (v : Value) (E sz : Nat) (enc : α → List Value) (l : List α) : Asr := fun w F => Own w v E sz enc l ∧ F = v.own
theorem Lcl.own {α : Type} {v : Value} {E sz : Nat} {enc : α → List Value} {l : List α} : Lcl (OwnA v E sz enc l) := by
  refine ⟨?_, ?_⟩
  · rintro w F ⟨h, rfl⟩ x hx
    rcases h with ⟨rfl, _⟩ | ⟨g, cap, cur, junk, rfl, hh, _⟩
    · cases hx
    · simp at hx; subst hx; exact lt_of_blk hh
  · rintro w F G w' ⟨h, rfl⟩ hk hd
    exact ⟨h.blk_of hd hk, rfl⟩
/-- A block, as an assertion. -/
def ObjA (b : Nat) (o : Obj) : Asr := fun w F => w.heap[b]? = some o ∧ F = [b]
theorem Lcl.obj {b : Nat} {o : Obj} : Lcl (ObjA b o) := by
  refine ⟨?_, ?_⟩
  · rintro w F ⟨h, rfl⟩ x hx
    simp at hx; subst hx; exact lt_of_blk h
  · rintro w F G w' ⟨h, rfl⟩ hk hd
    exact ⟨hk.blk h (hd b (by simp)), rfl⟩
theorem New.obj {B : Asr} {b : Nat} {o : Obj} {w w1 : World} (h : New w (Star (ObjA b o) B) w1) : w1.heap[b]? = some o := by
  obtain ⟨⟨F, ⟨Fa, Fb, h1, _⟩, _⟩, _⟩ := h
  exact h1.1
theorem New.drop {A B : Asr} {w w1 : World} (h : New w (Star A B) w1) : New w B w1 := by
  obtain ⟨⟨F, ⟨Fa, Fb, h1, h2, hd, rfl⟩, hn⟩, k⟩ := h
  exact ⟨⟨Fb, h2, fun x hx => hn x (by simp [hx])⟩, k⟩
theorem New.imp {A A' : Asr} {w w1 : World} (h : New w A w1) (hi : ∀ F, A w1 F → ∃ F', A' w1 F' ∧ ∀ x ∈ F', x ∈ F) : New w A' w1 := by
  obtain ⟨⟨F, h1, hn⟩, k⟩ := h
  obtain ⟨F', h2, hs⟩ := hi F h1
  exact ⟨⟨F', h2, fun x hx => hn x (hs x hx)⟩, k⟩
theorem New.rot3 {A B C D : Asr} {w w1 : World} (h : New w (Star A (Star B (Star C D))) w1) : New w (Star C (Star A (Star B D))) w1 := by
  refine h.imp ?_
  rintro F ⟨Fa, Fx, h1, ⟨Fb, Fy, h2, ⟨Fc, Fd, h3, h4, d1, rfl⟩, d2, rfl⟩, d3, rfl⟩
  refine ⟨_, ⟨Fc, _, h3, ⟨Fa, _, h1, ⟨Fb, Fd, h2, h4, fun x hx hd => d2 x hx (by simp [hd]), rfl⟩, fun x hx hm => ?_, rfl⟩, fun x hx hm => ?_, rfl⟩, fun x hx => ?_⟩
  · rcases List.mem_append.1 hm with h | h
    · exact d3 x hx (by simp [h])
    · exact d3 x hx (by simp [h])
  · simp only [List.mem_append] at hm
    rcases hm with h | h | h
    · exact d3 x h (by simp [hx])
    · exact d2 x h (by simp [hx])
    · exact d1 x hx h
  · simp only [List.mem_append] at hx ⊢
    rcases hx with h | h | h | h
    · exact .inr (.inr (.inl h))
    · exact .inl h
    · exact .inr (.inl h)
    · exact .inr (.inr (.inr h))
theorem New.get {A B : Asr} {w w1 : World} (h : New w (Star A B) w1) : ∃ F, A w1 F := by
  obtain ⟨⟨F, ⟨Fa, Fb, h1, _⟩, _⟩, _⟩ := h
  exact ⟨Fa, h1⟩
end Go.W
end
section
set_option linter.unusedVariables false
set_option linter.unusedSimpArgs false
namespace Go.W
open Go
@[simp] theorem gd_undef {b : Bool} {KB : Kont Bool} : @guH undef b KB = KB.run false := by simp [undef]
/-! ### '==' of structs and arrays of integers -/
def intT (P : Program) (k : IntKind) (e : TypeId) : Bool := P.plainKey e && (match P.underlying e with | some (.int k') => k' == k | _ => false)
theorem intT_ok {P : Program} {k : IntKind} {e : TypeId} (h : intT P k e = true) : P.plainKey e = true ∧ P.underlying e = some (.int k) := by
  simp only [intT, Bool.and_eq_true] at h
  refine ⟨h.1, ?_⟩
  have h2 := h.2
  split at h2
  · rename_i k' hk
    rw [hk]
    have : k' = k := by simpa using h2
    rw [this]
  · cases h2
def fieldsI (P : Program) (k : IntKind) : Nat → List Field → Bool
  | _, [] => true
  | o, f :: fs => f.offset == o && f.name != "_" && intT P k f.type && fieldsI P k (o + 1) fs
theorem eqFields_ints {P : Program} {k : IntKind} (w : World) (d : Nat) : ∀ (fs : List Field) (o : Nat) (la lb : List Int) (xs ys : Array Value), fieldsI P k o fs = true → la.length = fs.length → lb.length = fs.length →
    (∀ j u, la[j]? = some u → xs[o + j]? = some (.int k u)) → (∀ j u, lb[j]? = some u → ys[o + j]? = some (.int k u)) → (Op.eqFields (d + 1) xs ys fs).run P w = .ok (la == lb) w
  | [], o, la, lb, xs, ys, _, ha, hb, _, _ => by
    have h1 : la = [] := by simpa using ha
    have h2 : lb = [] := by simpa using hb
    subst h1 h2
    simp [Op.eqFields]
  | f :: fs, o, [], lb, xs, ys, _, ha, hb, _, _ => by simp at ha
  | f :: fs, o, a :: la, [], xs, ys, _, ha, hb, _, _ => by simp at hb
  | f :: fs, o, a :: la, b :: lb, xs, ys, h, ha, hb, hx, hy => by
    simp only [fieldsI, Bool.and_eq_true, bne_iff_ne, ne_eq, beq_iff_eq] at h
    obtain ⟨⟨⟨h1, h2⟩, h3⟩, h4⟩ := h
    obtain ⟨hp, hu⟩ := intT_ok h3
    have x0 := hx 0 a rfl
    have y0 := hy 0 b rfl
    rw [Nat.add_zero, ← h1] at x0 y0
    have ih := eqFields_ints w d fs (o + 1) la lb xs ys h4 (by simpa using ha) (by simpa using hb) (fun j u hj => by rw [show o + 1 + j = o + (j + 1) by omega]; exact hx (j + 1) u (by simpa using hj)) (fun j u hj => by rw [show o + 1 + j = o + (j + 1) by omega]; exact hy (j + 1) u (by simpa using hj))
    simp only [Op.eqFields, if_pos h2, ne_eq, h2, not_false_eq_true, if_true, Sem.run_bind, run_part_plain w hp x0, run_part_plain w hp y0, Result.andThen_ok, run_equalIn_int w d f.type k k a b hu, Sem.run_ite, Sem.run_pure, ih]
    by_cases hab : a = b <;> simp [hab]
theorem eqItems_ints {P : Program} {k : IntKind} (w : World) (d : Nat) {e : TypeId} (he : intT P k e = true) (xs ys : Array Value) : ∀ (la lb : List Int) (o : Nat), la.length = lb.length →
    (∀ j u, la[j]? = some u → xs[o + j]? = some (.int k u)) → (∀ j u, lb[j]? = some u → ys[o + j]? = some (.int k u)) → (Op.eqItems (d + 1) e 1 xs ys ((List.range' o la.length))).run P w = .ok (la == lb) w
  | [], [], o, _, _, _ => by simp [Op.eqItems]
  | [], b :: lb, o, h, _, _ => by simp at h
  | a :: la, [], o, h, _, _ => by simp at h
  | a :: la, b :: lb, o, h, hx, hy => by
    obtain ⟨hp, hu⟩ := intT_ok he
    have x0 := hx 0 a rfl
    have y0 := hy 0 b rfl
    rw [Nat.add_zero] at x0 y0
    have ih := eqItems_ints w d he xs ys la lb (o + 1) (by simpa using h) (fun j u hj => by rw [show o + 1 + j = o + (j + 1) by omega]; exact hx (j + 1) u (by simpa using hj)) (fun j u hj => by rw [show o + 1 + j = o + (j + 1) by omega]; exact hy (j + 1) u (by simpa using hj))
    simp only [List.length_cons, List.range'_succ, Op.eqItems, Nat.mul_one, Sem.run_bind, run_part_plain w hp x0, run_part_plain w hp y0, Result.andThen_ok, run_equalIn_int w d e k k a b hu, Sem.run_ite, Sem.run_pure, ih]
    by_cases hab : a = b <;> simp [hab]
section
variable {P : Program} {k : IntKind} {T : TypeId} {la lb : List Int} {x y : Operand} {w : World} {K : Kont Value}
theorem equal_struct (hg : P.underlying T = some (.struct (P.fieldsOf T))) (hs : P.stoodInHeld T = false) (hf : fieldsI P k 0 (P.fieldsOf T).toList = true) (ha : la.length = (P.fieldsOf T).size) (hb : lb.length = (P.fieldsOf T).size) (w : World) :
    (Op.equalIn 10000 T (.agg (la.map (.int k)).toArray) (.agg (lb.map (.int k)).toArray)).run P w = .ok (la == lb) w := by
  rw [run_equalIn_agg w 9999 T _ _ hg hs]
  exact eqFields_ints w 9998 _ 0 la lb _ _ hf (by simpa using ha) (by simpa using hb) (fun j u hj => by simp [hj]) (fun j u hj => by simp [hj])
theorem equal_array {e n : Nat} (hu : P.underlying T = some (.array n e)) (hi : (P.info? e).isSome = true) (hc : P.cellsOf e = 1) (he : intT P k e = true) (ha : la.length = n) (hb : lb.length = n) (w : World) :
    (Op.equalIn 10000 T (.agg (la.map (.int k)).toArray) (.agg (lb.map (.int k)).toArray)).run P w = .ok (la == lb) w := by
  obtain ⟨i, hi⟩ := Option.isSome_iff_exists.1 hi
  rw [run_equalIn_array w 9999 _ _ hu hi, hc, List.range_eq_range', ← ha]
  exact eqItems_ints w 9998 he _ _ la lb 0 (by omega) (fun j u hj => by simp [hj]) (fun j u hj => by simp [hj])
theorem rd_eql (hg : P.eqGuardType P.depth T = false) (he : ∀ w, (Op.equalIn 10000 T (.agg (la.map (.int k)).toArray) (.agg (lb.map (.int k)).toArray)).run P w = .ok (la == lb) w) (h : K.run (.bool (la == lb))) :
    @rdH P (do eqGuard .eql T x y (.agg (la.map (.int k)).toArray) (.agg (lb.map (.int k)).toArray); binOp .eql T (.agg (la.map (.int k)).toArray) (.agg (lb.map (.int k)).toArray)) w K :=
  rd_mk (fun w' _ => by simp only [Sem.run_bind, run_eqGuard_agg w' _ _ _ _ _ _ hg, Result.andThen_ok, run_eql_struct, he]) h
theorem rd_neq (hg : P.eqGuardType P.depth T = false) (he : ∀ w, (Op.equalIn 10000 T (.agg (la.map (.int k)).toArray) (.agg (lb.map (.int k)).toArray)).run P w = .ok (la == lb) w) (h : K.run (.bool !(la == lb))) :
    @rdH P (do eqGuard .neq T x y (.agg (la.map (.int k)).toArray) (.agg (lb.map (.int k)).toArray); binOp .neq T (.agg (la.map (.int k)).toArray) (.agg (lb.map (.int k)).toArray)) w K :=
  rd_mk (fun w' _ => by simp only [Sem.run_bind, run_eqGuard_agg w' _ _ _ _ _ _ hg, Result.andThen_ok, run_neq_struct, he]) h
end

/-! ### Rows of one's own, in assertions -/
theorem rowOf_rep {α : Type} {enc : α → List Value} (x : α) : ∀ n, rowOf (enc x) n = (List.replicate n x).flatMap enc
  | 0 => rfl
  | n + 1 => by simp [rowOf, List.replicate_succ, rowOf_rep x n]
theorem Own.made {α : Type} {enc : α → List Value} {E sz n : Nat} {x : α} {z : List Value} {w : World} (hz : z = enc x) (he : ∀ x, (enc x).length = sz) (hn : n ≤ maxLen) :
    Own (w.alloc (.cells (rowOf z n).toArray E)) (.slice (some ⟨w.heap.size, 0, none⟩) n n) E sz enc (List.replicate n x) := by
  subst hz
  refine .inr ⟨w.heap.size, n, _, [], by simp, alloc_new, ?_, by simp, by simp, hn⟩
  simp [rowOf_rep]
theorem New.made {α : Type} {enc : α → List Value} {E sz n : Nat} {x : α} {z : List Value} {B : Asr} {w w1 : World} (hB : Lcl B) (h : New w B w1) (hz : z = enc x) (he : ∀ x, (enc x).length = sz) (hn : n ≤ maxLen) :
    New w (Star (OwnA (.slice (some ⟨w1.heap.size, 0, none⟩) n n) E sz enc (List.replicate n x)) B) (w1.alloc (.cells (rowOf z n).toArray E)) :=
  h.more hB ((Kp.refl _ _).alloc _) ⟨_, ⟨Own.made hz he hn, rfl⟩, by simp⟩
section
variable {α : Type} {enc : α → List Value} {E sz : Nat} {l : List α} {v : Value} {B : Asr} {w w1 : World}
theorem New.own (h : New w (Star (OwnA v E sz enc l) B) w1) : Own w1 v E sz enc l := by
  obtain ⟨F, h1, _⟩ := h.get
  exact h1
/-- An element is stored into a row of one's own. -/
theorem New.store {KW : Kont World} (hB : Lcl B) (h : New w (Star (OwnA v E sz enc l) B) w1) (he : ∀ x, (enc x).length = sz) (h1 : ∀ x, (enc x).all oneC = true) {k : Nat} (hk : k < l.length) {x : α} {cs : List Value} (hcs : cs = enc x)
    (H : ∀ w2, New w (Star (OwnA v E sz enc (l.set k x)) B) w2 → KW.run w2) : @stJ w1 ⟨v.blk, k * sz, none⟩ cs KW := by
  refine h.own.store he h1 hk hcs fun w2 hk2 hs2 ho2 => H w2 (h.step Lcl.own hB ?_)
  rintro F ⟨ho, rfl⟩
  exact ⟨_, ⟨ho2, rfl⟩, by rw [ho.own_eq hk]; exact hk2, fun x hx => .inl hx⟩
theorem New.store1 {KW : Kont World} (hB : Lcl B) (h : New w (Star (OwnA v E 1 enc l) B) w1) (he : ∀ x, (enc x).length = 1) (h1 : ∀ x, (enc x).all oneC = true) {k : Nat} (hk : k < l.length) {x : α} {cs : List Value} (hcs : cs = enc x)
    (H : ∀ w2, New w (Star (OwnA v E 1 enc (l.set k x)) B) w2 → KW.run w2) : @stJ w1 ⟨v.blk, k, none⟩ cs KW := by
  have := h.store (KW := KW) hB he h1 hk hcs H
  rwa [Nat.mul_one] at this
/-- Elements are appended to a row of one's own. -/
theorem New.append {P : Program} {KV : Kont (Value × World)} {T ty by_ : Nat} {z : List Value} (hB : Lcl B) (h : New w (Star (OwnA v E sz enc l) B) w1) (he : ∀ x, (enc x).length = sz) (h1 : ∀ x, (enc x).all oneC = true)
    (hT : slInfo P T = some (E, sz, by_, z)) {a : Addr} {m c : Nat} {xs : List α} (hm : xs.length = m) (hx : ∀ j u, (xs.flatMap enc)[j]? = some u → w1.cell? (a.add j) = some u)
    (hb : (l.length + m) * by_ ≤ 140737488355328) (hmax : l.length + m ≤ maxLen)
    (H : ∀ v' w2, New w (Star (OwnA v' E sz enc (l ++ xs)) B) w2 → KV.run (v', w2)) :
    @efH P (Builtin.append_ #[T, T] ty [v, .slice (some a) m c].toArray) w1 KV := by
  refine h.own.append he h1 hT hm hx hb hmax fun v' w2 hk2 ho2 hs2 => H v' w2 (h.step Lcl.own hB ?_)
  rintro F ⟨ho, rfl⟩
  exact ⟨_, ⟨ho2, rfl⟩, hk2, hs2⟩
theorem New.appendV {P : Program} {KV : Kont (Value × World)} {T ty by_ : Nat} {z : List Value} {u : Value} {xs : List α} (hB : Lcl B) (h : New w (Star (OwnA v E sz enc l) B) w1) (hu : Vw w1 u enc xs) (he : ∀ x, (enc x).length = sz) (h1 : ∀ x, (enc x).all oneC = true)
    (hT : slInfo P T = some (E, sz, by_, z)) (hb : (l.length + xs.length) * by_ ≤ 140737488355328) (hmax : l.length + xs.length ≤ maxLen)
    (H : ∀ v' w2, New w (Star (OwnA v' E sz enc (l ++ xs)) B) w2 → KV.run (v', w2)) :
    @efH P (Builtin.append_ #[T, T] ty [v, u].toArray) w1 KV := by
  refine h.own.appendV hu he h1 hT hb hmax fun v' w2 hk2 ho2 hs2 => H v' w2 (h.step Lcl.own hB ?_)
  rintro F ⟨ho, rfl⟩
  exact ⟨_, ⟨ho2, rfl⟩, hk2, hs2⟩
theorem New.nil (hB : Lcl B) (h : New w B w1) : New w (Star (OwnA (.slice none 0 0) E sz enc []) B) w1 :=
  h.more hB (Kp.refl _ _) ⟨_, ⟨Own.nil _ _ _ _, rfl⟩, by simp⟩
end
end Go.W
end
section
set_option linter.unusedVariables false
set_option linter.unusedSimpArgs false
set_option linter.unusedSectionVars false
namespace Go.W
open Go Go.Maps
/-! ### Maps -/
section
variable {κ α : Type} [DecidableEq κ] {ek : κ → Value} {ev : α → Value} {ok : κ → Prop} {P : Program} {k e t : TypeId}
/-- Values of a key type. -/
structure KeyEnc (P : Program) (k : TypeId) (ek : κ → Value) (ok : κ → Prop) : Prop where
  keyed : Keyed P k
  lit : ∀ x, ok x → ∃ l, keyOf P k (ek x) = some l
  inj : ∀ x y, ek x = ek y → x = y
def getM (l : List (κ × α)) (x : κ) : Option α := (l.find? fun p => decide (p.1 = x)).map (·.2)
def putM (l : List (κ × α)) (x : κ) (v : α) : List (κ × α) := if l.any (fun p => decide (p.1 = x)) then l.map fun p => if p.1 = x then (x, v) else p else l ++ [(x, v)]
/-- Block b is a map of these pairs. -/
def MapM (w : World) (b : Nat) (ek : κ → Value) (ev : α → Value) (ok : κ → Prop) (l : List (κ × α)) : Prop :=
  ∃ es clock, w.heap[b]? = some (.map es clock) ∧ es.size ≤ maxLen ∧ es.toList.map (fun x => (x.key, x.val)) = l.map (fun p => (ek p.1, ev p.2)) ∧ (∀ p ∈ l, ok p.1) ∧ (l.map (·.1)).Nodup ∧ MapKept.Stamped es clock
theorem MapM.lt {w : World} {b : Nat} {l : List (κ × α)} (h : MapM w b ek ev ok l) : b < w.heap.size := by
  obtain ⟨es, clock, hb, _⟩ := h
  exact lt_of_blk hb
theorem MapM.ext {w w' : World} {b : Nat} {l : List (κ × α)} (h : MapM w b ek ev ok l) (hx : ExtH w w') : MapM w' b ek ev ok l := by
  obtain ⟨es, clock, hb, r⟩ := h
  exact ⟨es, clock, hx _ _ hb, r⟩
theorem MapM.kp {S : List Nat} {w w' : World} {b : Nat} {l : List (κ × α)} (h : MapM w b ek ev ok l) (hk : Kp S w w') (hb : b ∉ S) : MapM w' b ek ev ok l := by
  obtain ⟨es, clock, h1, r⟩ := h
  exact ⟨es, clock, hk.blk h1 hb, r⟩
theorem MapM.new (w : World) : MapM (w.alloc (.map #[] 0)) w.heap.size ek ev ok ([] : List (κ × α)) := ⟨#[], 0, alloc_new, Nat.zero_le _, rfl, by simp, by simp, MapKept.stamped_empty _⟩
theorem find_none {l : List (κ × α)} {x : κ} (h : ∀ p ∈ l, p.1 ≠ x) : getM l x = none := by
  simp only [getM, Option.map_eq_none_iff, List.find?_eq_none]
  intro p hp; simpa using h p hp
theorem find_some : ∀ {l : List (κ × α)} {j : Nat} {p : κ × α}, (l.map (·.1)).Nodup → l[j]? = some p → getM l p.1 = some p.2
  | [], j, p, _, h => by simp at h
  | q :: l, 0, p, _, h => by simp at h; subst h; simp [getM]
  | q :: l, j + 1, p, hn, h => by
    simp at h
    simp only [List.map_cons, List.nodup_cons] at hn
    have hne : q.1 ≠ p.1 := fun e => hn.1 (by rw [e]; exact List.mem_map.2 ⟨p, List.mem_of_getElem? h, rfl⟩)
    have := find_some hn.2 h
    simp only [getM] at this ⊢
    rw [List.find?_cons_of_neg (by simpa using hne)]
    exact this
/-- Where a key stands in a map's entries. -/
theorem MapM.find {w w' : World} {b : Nat} {l : List (κ × α)} (hk : KeyEnc P k ek ok) {es : Array MapEntry} (hes : es.toList.map (fun x => (x.key, x.val)) = l.map (fun p => (ek p.1, ev p.2))) (hok : ∀ p ∈ l, ok p.1) {x : κ} (hx : ok x) :
    ((Instr.findKey k (ek x) es.toList).run P w = .ok none w ∧ ∀ p ∈ l, p.1 ≠ x) ∨
    ∃ j v e0, (Instr.findKey k (ek x) es.toList).run P w = .ok (some (j, ev v)) w ∧ l[j]? = some (x, v) ∧ es[j]? = some e0 ∧ e0.key = ek x := by
  obtain ⟨lx, hlx⟩ := hk.lit x hx
  have hat : ∀ (j : Nat) (e0 : MapEntry), es.toList[j]? = some e0 → ∃ p : κ × α, l[j]? = some p ∧ e0.key = ek p.1 ∧ e0.val = ev p.2 := fun j e0 he => by
    have := congrArg (·[j]?) hes
    simp only [List.getElem?_map, he, Option.map_some] at this
    cases hp : l[j]? with
    | none => rw [hp] at this; cases this
    | some p =>
      rw [hp] at this
      simp only [Option.map_some, Option.some.injEq, Prod.mk.injEq] at this
      exact ⟨p, rfl, this.1, this.2⟩
  rcases hk.keyed.find w hlx es.toList (fun e0 he => by
      obtain ⟨j, hj⟩ := List.getElem?_of_mem he
      obtain ⟨p, hp, h1, _⟩ := hat j e0 hj
      rw [h1]; exact hk.lit _ (hok p (List.mem_of_getElem? hp))) with ⟨h1, h2⟩ | ⟨j, e0, h1, h2, h3⟩
  · refine .inl ⟨h1, fun p hp hpx => ?_⟩
    obtain ⟨j, hj⟩ := List.getElem?_of_mem hp
    have hlen := congrArg List.length hes
    simp only [List.length_map] at hlen
    have hjl : j < es.toList.length := by rw [hlen]; exact (List.getElem?_eq_some_iff.1 hj).1
    obtain ⟨p', hp', h4, _⟩ := hat j _ (List.getElem?_eq_getElem hjl)
    rw [hj] at hp'
    cases hp'
    exact h2 _ (List.getElem_mem hjl) (by rw [h4, hpx])
  · obtain ⟨p, hp, h4, h5⟩ := hat j e0 h2
    have hpx : p.1 = x := hk.inj _ _ (by rw [← h4, h3])
    refine .inr ⟨j, p.2, e0, by rw [← h5]; exact h1, by rw [hp, ← hpx], by simpa using h2, h3⟩
theorem MapM.look {w : World} {b : Nat} {l : List (κ × α)} (h : MapM w b ek ev ok l) (hk : KeyEnc P k ek ok) (ht : P.underlying t = some (.map k e)) {z : Value} (hz : (zeroValue e).run P w = .ok z w) {x : κ} (hx : ok x) (c : Bool) :
    (Instr.lookup t (.map (some b)) (ek x) c).run P w = .ok (if c then .tuple #[((getM l x).map ev).getD z, .bool (getM l x).isSome] else ((getM l x).map ev).getD z) w := by
  obtain ⟨es, clock, hb, _, hes, hok, hnd, _⟩ := h
  obtain ⟨lx, hlx⟩ := hk.lit x hx
  rcases MapM.find (w := w) (w' := w) (b := b) hk hes hok hx with ⟨h1, h2⟩ | ⟨j, v, e0, h1, h2, h3, h4⟩
  · have hg := find_none h2
    simp [Instr.lookup, run_underlying ht, MapKept.run_getObj_map hb, hk.keyed.check w _ hlx, h1, hz, Result.andThen, hg]
  · have hg := find_some hnd h2
    simp only at hg
    simp [Instr.lookup, run_underlying ht, MapKept.run_getObj_map hb, hk.keyed.check w _ hlx, h1, Result.andThen, hg]
theorem MapM.len {w : World} {b : Nat} {l : List (κ × α)} (h : MapM w b ek ev ok l) (ht : P.underlying t = some (.map k e)) (ty : TypeId) : (Builtin.len_ #[t] ty #[.map (some b)]).run P w = .ok (.int .i64 l.length) w := by
  obtain ⟨es, clock, hb, _, hes, _, _, _⟩ := h
  have e1 : es.size = l.length := by
    have := congrArg List.length hes
    simpa using this
  simp [Builtin.len_, run_underlying ht, MapKept.run_getObj_map hb, goInt, Result.andThen, e1]
theorem MapM.store {w : World} {b : Nat} {l : List (κ × α)} (h : MapM w b ek ev ok l) (hk : KeyEnc P k ek ok) (ht : P.underlying t = some (.map k e)) {x : κ} (hx : ok x) (v : α) (hl : l.length < maxLen) :
    ∃ o, (Instr.mapUpdate t (.map (some b)) (ek x) (ev v)).run P w = .ok () (w.setB b o) ∧ MapM (w.setB b o) b ek ev ok (putM l x v) := by
  obtain ⟨es, clock, hb, hsz, hes, hok, hnd, hst⟩ := h
  obtain ⟨lx, hlx⟩ := hk.lit x hx
  have e1 : es.size = l.length := by
    have := congrArg List.length hes
    simpa using this
  rcases MapM.find (w := w) (w' := w) (b := b) hk hes hok hx with ⟨h1, h2⟩ | ⟨j, u, e0, h1, h2, h3, h4⟩
  · refine ⟨.map (es.push ⟨ek x, ev v, clock⟩) (clock + 1), ?_, _, _, setB_new (lt_of_blk hb), by simp; omega, ?_, ?_, ?_, MapKept.stamped_push hst (fun e he hek => ?_)⟩
    · simp [Instr.mapUpdate, run_underlying ht, MapKept.run_getObj_map hb, hk.keyed.check w false hlx, h1, MapKept.run_setObj_map _ hb, Result.andThen, World.setB]
    all_goals
      have hp : putM l x v = l ++ [(x, v)] := by
        rw [putM, if_neg]
        simp only [List.any_eq_true, decide_eq_true_eq, not_exists, not_and]
        exact h2
      try rw [hp]
    · simp [hes]
    · intro p hp'
      rcases List.mem_append.1 hp' with h | h
      · exact hok p h
      · simp at h; subst h; exact hx
    · rw [List.map_append, List.nodup_append]
      refine ⟨hnd, by simp, fun a ha c hc => ?_⟩
      simp at hc
      subst hc
      obtain ⟨p, hp', rfl⟩ := List.mem_map.1 ha
      exact h2 p hp'
    · obtain ⟨j, hj⟩ := List.getElem?_of_mem he
      have := congrArg (·[j]?) hes
      simp only [List.getElem?_map, hj, Option.map_some] at this
      cases hp' : l[j]? with
      | none => rw [hp'] at this; cases this
      | some p =>
        rw [hp'] at this
        simp only [Option.map_some, Option.some.injEq, Prod.mk.injEq] at this
        exact h2 p (List.mem_of_getElem? hp') (hk.inj _ _ (by rw [← this.1]; exact hek))
  · have hp : putM l x v = l.map fun p => if p.1 = x then (x, v) else p := by
      rw [putM, if_pos]
      simp only [List.any_eq_true, decide_eq_true_eq]
      exact ⟨_, List.mem_of_getElem? h2, rfl⟩
    have hset : (l.map fun p => if p.1 = x then (x, v) else p) = l.set j (x, v) := by
      refine List.ext_getElem (by simp) fun i hi hi' => ?_
      rw [List.getElem_map, List.getElem_set]
      have hil : i < l.length := by simpa using hi
      by_cases hij : j = i
      · subst hij
        rw [if_pos rfl]
        rw [List.getElem?_eq_getElem hil] at h2
        rw [if_pos (by rw [Option.some.inj h2])]
      · rw [if_neg hij, if_neg]
        intro he
        have hjl : j < l.length := (List.getElem?_eq_some_iff.1 h2).1
        rw [List.getElem?_eq_getElem hjl] at h2
        have h5 : (l.map (·.1))[i]'(by simpa using hil) = (l.map (·.1))[j]'(by simpa using hjl) := by
          simp only [List.getElem_map]
          rw [he, Option.some.inj h2]
        exact hij ((List.getElem_inj hnd).1 h5).symm
    have hmod : (es.modify j (fun e' => { e' with key := ek x, val := ev v })).toList = es.toList.set j ⟨ek x, ev v, e0.born⟩ := by
      have he : es.toList[j]? = some e0 := by simpa using h3
      refine List.ext_getElem (by simp) fun i hi hi' => ?_
      simp only [Array.getElem_toList, Array.getElem_modify, List.getElem_set]
      by_cases hij : j = i
      · subst hij
        have hil : j < es.size := by simpa using hi
        rw [if_pos rfl, if_pos rfl]
        have : es[j] = e0 := by
          rw [Array.getElem?_eq_getElem hil] at h3
          exact Option.some.inj h3
        rw [this]
      · rw [if_neg hij, if_neg hij]
    refine ⟨.map (es.modify j (fun e' => { e' with key := ek x, val := ev v })) clock, ?_, _, _, setB_new (lt_of_blk hb), by simpa using hsz, ?_, ?_, ?_, MapKept.stamped_modify hst _ _ (fun _ _ => rfl) (fun e _ he => ?_)⟩
    · simp [Instr.mapUpdate, run_underlying ht, MapKept.run_getObj_map hb, hk.keyed.check w false hlx, h1, h3, h4, hk.keyed.stays w hlx, MapKept.run_setObj_map _ hb, Result.andThen, World.setB]
    · rw [hp, hset, hmod, List.map_set, List.map_set, hes]
    · rw [hp]
      intro p hp'
      obtain ⟨q, hq, rfl⟩ := List.mem_map.1 hp'
      by_cases hqx : q.1 = x
      · rw [if_pos hqx]; exact hx
      · rw [if_neg hqx]; exact hok q hq
    · rw [hp]
      have : (l.map fun p => if p.1 = x then (x, v) else p).map (·.1) = l.map (·.1) := by
        rw [List.map_map]
        refine List.map_congr_left fun p _ => ?_
        simp only [Function.comp]
        by_cases hpx : p.1 = x
        · rw [if_pos hpx, hpx]
        · rw [if_neg hpx]
      rw [this]; exact hnd
    · rw [h3] at he
      rw [← Option.some.inj he]; exact h4.symm
end
end Go.W
end
section
set_option linter.unusedVariables false
set_option linter.unusedSimpArgs false
namespace Go.W
open Go
/-- 'for i := 0; i < len(x); i++' over n rounds (b0: the loop's block, b1: the body's; c: the counter). -/
theorem for_len {P : Program} {α : Type} {enc : α → List Value} {l : List α} {Q : Ex → Env → World → Prop} {ρ : Env} {w : World} {b0 b1 c px s1 s2 s3 cs t1 t2 T T' T1 T2 T3 T4 TS : Nat} {body : LCode} {pv : Value} (hn : l.length ≤ 4611686018427387904) (hT : isSl P TS = true) (I : Nat → Env → World → Prop)
    (hvw : ∀ k ρ w, I k ρ w → Vw w pv enc l) (hc : ρ c = .int .i64 0) (hp : ρ px = pv) (h0 : I 0 ρ w)
    (hd : c ≠ s1 ∧ c ≠ s2 ∧ c ≠ s3 ∧ c ≠ cs ∧ px ≠ s1 ∧ px ≠ cs ∧ px ≠ c ∧ s1 ≠ s2 ∧ s1 ≠ s3 ∧ s2 ≠ s3 ∧ px ≠ t1 ∧ px ≠ t2)
    (hs : ∀ k ρ w v, I k ρ w → I k (ρ.set cs v) w) (hs' : ∀ k ρ w v, I k ρ w → I k (ρ.set c v) w)
    (hb : ∀ k ρ w, k < l.length → ρ c = .int .i64 k → ρ px = pv → I k ρ w → wpL P body (rangeQ b0 b1 (fun ρ' w' => ρ' c = .int .i64 k ∧ ρ' px = pv ∧ I (k + 1) ρ' w') Q) ρ w)
    (he : ∀ ρ w, ρ px = pv → I l.length ρ w → Q .nrm ρ w) :
    wpL P (.loop (.seq (.seq (.region false [[LO.mk 0 (some s1) (.move (.tmp c)) T none, LO.mk 0 (some s2) (.move (.tmp px)) TS none, LO.mk 0 (some s3) (.call ⟨.builtin .len, #[.tmp s2], #[TS]⟩) T' none, LO.mk 0 (some cs) (.binOp .lss T1 (.tmp s1) (.tmp s3) T2) T3 none]] [cs]) (.cond (.tmp cs) .skip (.exit b0)))
      (.seq (.block b1 body) (.region false [[LO.mk 0 (some t1) (.move (.tmp c)) T none, LO.mk 0 (some t2) (.binOp .add T1 (.tmp t1) (.const (.int .i64 1)) T2) T4 none, LO.mk 0 (some c) (.assign (.tmp t2)) T4 none]] [c])))) (blockK b0 Q) ρ w := by
  refine loop_inv (fun m ρ w => ∃ k, m = l.length - k ∧ k ≤ l.length ∧ ρ c = .int .i64 k ∧ ρ px = pv ∧ I k ρ w) l.length ⟨0, by omega, Nat.zero_le _, hc, hp, h0⟩ ?_
  rintro m ρ w ⟨k, rfl, hkn, hc, hp, hI⟩
  obtain ⟨d1, d2, d3, d4, d5, d6, d7, d8, d9, d10, d11, d12⟩ := hd
  have hv := hvw k ρ w hI
  by_cases hlt : k < l.length
  · have hlt' : (k : Int) < l.length := by omega
    simp [hc, hp, hv.len, hT, hlt', d1, d2, d3, d4, d5, d6, d7, d8, d9, d10]
    refine wpL_mono body ?_ (hb k (ρ.set cs (.bool true)) w hlt (by simp [d4, hc]) (by simp [d6, hp]) (hs _ _ _ _ hI))
    have hnxt : ∀ ρ' w', (ρ' c = .int .i64 k ∧ ρ' px = pv ∧ I (k + 1) ρ' w') →
        wpL P (.region false [[LO.mk 0 (some t1) (.move (.tmp c)) T none, LO.mk 0 (some t2) (.binOp .add T1 (.tmp t1) (.const (.int .i64 1)) T2) T4 none, LO.mk 0 (some c) (.assign (.tmp t2)) T4 none]] [c]) (thenK (fun ρ'' w'' => ∃ m, m < l.length - k ∧ ∃ k, m = l.length - k ∧ k ≤ l.length ∧ ρ'' c = .int .i64 k ∧ ρ'' px = pv ∧ I k ρ'' w'') (blockK b0 Q)) ρ' w' := by
      rintro ρ' w' ⟨h1, h2, h3⟩
      simp (disch := omega) [h1, wrap_i64]
      refine ⟨l.length - (k + 1), by omega, k + 1, rfl, by omega, rfl, ?_, hs' _ _ _ _ h3⟩
      simp [d7, h2]
    intro e ρ' w' hk
    cases e with
    | nrm => exact hnxt _ _ hk
    | ret => exact hk
    | exit i =>
      simp only [rangeQ_exit] at hk
      simp only [blockK_exit]
      by_cases hi1 : i = b1
      · rw [if_pos hi1] at hk
        rw [if_pos hi1]
        exact hnxt _ _ hk
      · rw [if_neg hi1] at hk
        rw [if_neg hi1]
        show blockK b0 Q (.exit i) ρ' w'
        simp only [blockK_exit]
        by_cases hi0 : i = b0
        · rw [if_pos hi0] at hk ⊢; exact hk
        · rw [if_neg hi0] at hk ⊢; exact hk
  · have hlt' : ¬ (k : Int) < l.length := by omega
    simp [hc, hp, hv.len, hT, hlt', d1, d2, d3, d4, d5, d6, d7, d8, d9, d10]
    have : k = l.length := by omega
    subst this
    exact he _ _ (by simp [d6, hp]) (hs _ _ _ _ hI)
end Go.W
end
section
set_option linter.unusedVariables false
set_option linter.unusedSimpArgs false
namespace Go.W
open Go Go.ChangeShapes Go.WideShapes Go.ChangeAt Go.RowKit Go.Deep
section
variable {H : Type} {enc : TypeId × Value → H} {P : Program}
/-- As law_lift, with the world's shape. -/
theorem law_liftS {C : Checked} {os : Os} {f : FuncId} {fn : Func} {s : ChangeSpec} {conds : List PathCond} {fresh : Bool} {tb : TypeId}
    (own : ownKnob C.prog.godebug = none) (started : os.Started) (noInit : C.prog.inits.idxOf? f = none) (hfn : C.prog.funcs[f]? = some fn)
    (witness : ∃ (w : World) (tape : Tape) (i : Input), w.os = os ∧ (w.forCall tape i).Shaped C.prog ∧ i.vars = [] ∧ Input.okWide C.prog (w.forCall tape i) .any w.heap.size f i ∧
      s.pre6 enc C.prog fn conds false (w.forCall tape i).memory i.args ∧ ({} : Assume).holds C.prog (lone (Frame.enter C.prog f i.args .normal) [] (w.forCall tape i)))
    (hl : laidOutB C.prog = true) (hr0 : (fn.params.toList.all fun t => C.prog.readableRec t && decide (t < C.prog.types.size)) = true) (hres : fn.resultTypes = #[tb]) (htb : C.prog.underlying tb = some .bool) (hv : s.vars = [])
    (walk : ∀ (W : World) (base : Nat) (args : Array Value) (ds : List (DataW H)) (ps : List MemPlace), W.ShapedOpen C.prog →
      (∀ (j : Nat) t v, fn.params[j]? = some t → args[j]? = some v → Value.okWide C.prog W .any base t v) →
      DataW.TrodAll enc C.prog W 0 (fun _ => true) true fn.params.toList args.toList ds ps →
      (DataW.weightsEach C.prog fn.params.toList ds).all (· ≤ reachBytes) = true →
      s.fn H (ds ++ []) = { results := [.lit (.bool true)], args := ds } ∧
      Calls C.prog f args W fun e W' => ∃ v, e = .returned v ∧ v = .bool true ∧ Kp [] W W') :
    ReturnsInHanded {} C os f .any (s.pre6 enc C.prog fn conds false) (s.post enc C.prog fn false fresh false false) := by
  have hr : ∀ t ∈ fn.params.toList, C.prog.readableRec t = true ∧ t < C.prog.types.size := fun t ht => by
    have := List.all_eq_true.1 hr0 t ht
    rw [Bool.and_eq_true, decide_eq_true_eq] at this
    exact this
  refine returnsInHanded_of_change_shaped own started noInit hfn witness ?_
  intro W base args ds gs before hval hW _ hsz hsh _
  have hW' := hW
  obtain ⟨p, q, hA, hV, rfl, _, _⟩ := hW
  have hpl : s.plain.varTypes C.prog = [] := by
    have : s.plain.vars = s.vars := rfl
    simp [DataSpec.varTypes, this, hv]
  rw [hv] at hV
  obtain ⟨rfl, rfl⟩ := trodVars_none hV
  rw [hpl, List.append_nil, List.append_nil] at hsz
  obtain ⟨h1, h2⟩ := walk W base args ds p hsh hval hA hsz
  refine h2.mono ?_
  rintro e W' ⟨v, rfl, rfl, hk⟩
  exact ⟨_, rfl, post_true hl hr hres htb hv hW' h1 hk.below⟩
end
end Go.W
end
