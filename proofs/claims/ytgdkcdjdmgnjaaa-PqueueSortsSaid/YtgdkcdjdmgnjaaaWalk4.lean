/-
  A part of the proofs of this seat's statements (Walk4); no conditions beyond those each theorem names.
-/
import Derived.Test.YtgdkcdjdmgnjaaaWalk3
import Derived.Test.YtgdkcdjdmgnjaaaPqHeap
set_option maxRecDepth 100000
set_option linter.unusedSimpArgs false
set_option linter.unusedVariables false
namespace Go.Proofs.Ytgdkcdjdmgnjaaa
open Go Go.W Go.Pq
/-- A queue at q that lies in the blocks F and has the entries s, in their order. -/
structure PQ (w : World) (q : Nat) (F : List Nat) (s : List En) (nx : Int) : Prop where
  ex : ∃ hv l, QA w q hv l nx ∧ F = q :: hv.own ∧ Rp l s nx
  nx0 : 0 ≤ nx
theorem PQ.kp {w w' : World} {q : Nat} {F G : List Nat} {s : List En} {nx : Int} (h : PQ w q F s nx) (hk : Kp G w w') (hd : ∀ x ∈ F, x ∉ G) : PQ w' q F s nx := by
  obtain ⟨⟨hv, l, hq, rfl, hr⟩, h0⟩ := h
  exact ⟨⟨hv, l, hq.kp hk (hd q (by simp)) (fun b hb => hd b (by simp [hb])), rfl, hr⟩, h0⟩
theorem PQ.kp0 {w w' : World} {q : Nat} {F : List Nat} {s : List En} {nx : Int} (h : PQ w q F s nx) (hk : Kp [] w w') : PQ w' q F s nx := h.kp hk (by simp)
theorem PQ.drew {w : World} {q : Nat} {F : List Nat} {s : List En} {nx : Int} (h : PQ w q F s nx) : PQ w.drew q F s nx := h.kp0 (Kp.refl _ _).drew
theorem PQ.lt {w : World} {q : Nat} {F : List Nat} {s : List En} {nx : Int} (h : PQ w q F s nx) : ∀ x ∈ F, x < w.heap.size := by
  obtain ⟨⟨hv, l, hq, rfl, hr⟩, h0⟩ := h
  intro x hx
  rcases List.mem_cons.1 hx with rfl | hx
  · exact lt_of_blk hq.obj
  · have := own_sub hx
    rcases hq.own with ⟨rfl, _⟩ | ⟨g, cap, cur, junk, rfl, hh, _⟩
    · cases hx
    · simp at hx; subst hx; exact lt_of_blk hh
/-- The blocks of a queue after a step. -/
def Sub (w : World) (F F' : List Nat) : Prop := ∀ x ∈ F', x ∈ F ∨ w.heap.size ≤ x
theorem Sub.refl (w : World) (F : List Nat) : Sub w F F := fun _ h => .inl h

theorem pq_new (w : World) : Calls Try.prog 11 [].toArray w fun e w' => ∃ v, e = .returned v ∧ ∃ q F, v = .pointer (some ⟨q, 0, none⟩) ∧ PQ w' q F [] 0 ∧ Kp [] w w' ∧ (∀ x ∈ F, w.heap.size ≤ x) := by
  refine Calls.mono (new_spec w) ?_
  rintro e w' ⟨v, rfl, rfl, hq, hk⟩
  exact ⟨_, rfl, _, _, rfl, ⟨⟨_, _, hq, rfl, Rp.nil⟩, by omega⟩, hk, by simp⟩
theorem pq_len {w : World} {q : Nat} {F : List Nat} {s : List En} {nx : Int} (h : PQ w q F s nx) :
    Calls Try.prog 19 [.pointer (some ⟨q, 0, none⟩)].toArray w fun e w' => ∃ v, e = .returned v ∧ v = .int .i64 s.length ∧ Kp [] w w' := by
  obtain ⟨⟨hv, l, hq, rfl, hr⟩, h0⟩ := h
  rw [← hr.perm.length_eq]
  exact len_spec q hv l nx w hq
theorem pq_push {w : World} {q : Nat} {F : List Nat} {s : List En} {nx : Int} (h : PQ w q F s nx) (hl : s.length < 65536) (h1 : nx ≤ 4611686018427387904) (a b c : Int) :
    Calls Try.prog 12 [.pointer (some ⟨q, 0, none⟩), .int .i64 a, .int .i64 b, .int .i64 c].toArray w fun e w' => ∃ v, e = .returned v ∧ v = .nilIface ∧
      ∃ F', PQ w' q F' (insS ⟨a, b, c, nx⟩ s) (nx + 1) ∧ Kp F w w' ∧ Sub w F F' := by
  obtain ⟨⟨hv, l, hq, rfl, hr⟩, h0⟩ := h
  have hll := hr.perm.length_eq
  refine Calls.mono (push_spec q hv l nx a b c w hq (by omega) h0 h1) ?_
  rintro e w' ⟨v, rfl, rfl, hv', hq', hk, hs⟩
  refine ⟨_, rfl, rfl, _, ⟨⟨hv', _, hq', rfl, hr.push h0 a b c⟩, by omega⟩, hk, fun x hx => ?_⟩
  rcases List.mem_cons.1 hx with rfl | hx
  · exact .inl (by simp)
  · rcases hs x hx with h5 | h5
    · exact .inl (by simp [h5])
    · exact .inr h5
theorem pq_full {w : World} {q : Nat} {F : List Nat} {s : List En} {nx : Int} (h : PQ w q F s nx) (hl : 65536 ≤ s.length) (a b c : Int) :
    Calls Try.prog 12 [.pointer (some ⟨q, 0, none⟩), .int .i64 a, .int .i64 b, .int .i64 c].toArray w fun e w' => ∃ v, e = .returned v ∧ v = errV 10 ∧ Kp [] w w' := by
  obtain ⟨⟨hv, l, hq, rfl, hr⟩, h0⟩ := h
  have hll := hr.perm.length_eq
  exact push_full q hv l nx a b c w hq (by omega)
theorem pq_pop {w : World} {q : Nat} {F : List Nat} {x : En} {s : List En} {nx : Int} (h : PQ w q F (x :: s) nx) (hl : s.length < 65536) :
    Calls Try.prog 14 [.pointer (some ⟨q, 0, none⟩)].toArray w fun e w' => ∃ v, e = .returned v ∧ v = .tuple #[.int .i64 x.key, .int .i64 x.tie, .int .i64 x.item, .nilIface] ∧ PQ w' q F s nx ∧ Kp F w w' := by
  obtain ⟨⟨hv, l, hq, rfl, hr⟩, h0⟩ := h
  cases l with
  | nil => have := hr.perm.length_eq; simp at this
  | cons y l =>
    obtain rfl := hr.head
    have hll := hr.perm.length_eq
    refine Calls.mono (pop_spec q hv y l nx w hq (by simp at hll; omega)) ?_
    rintro e w' ⟨v, rfl, rfl, hv', hq', ho, hk⟩
    exact ⟨_, rfl, rfl, ⟨⟨hv', _, hq', by rw [ho], hr.pop⟩, h0⟩, hk⟩
theorem pq_pop0 {w : World} {q : Nat} {F : List Nat} {nx : Int} (h : PQ w q F [] nx) :
    Calls Try.prog 14 [.pointer (some ⟨q, 0, none⟩)].toArray w fun e w' => ∃ v, e = .returned v ∧ v = .tuple #[.int .i64 0, .int .i64 0, .int .i64 0, errV 3] ∧ Kp [] w w' := by
  obtain ⟨⟨hv, l, hq, rfl, hr⟩, h0⟩ := h
  have : l = [] := by simpa using hr.perm
  subst this
  exact pop_none (some (q, hv, nx)) w (by rintro x h; cases h; exact hq)
theorem pq_peek {w : World} {q : Nat} {F : List Nat} {x : En} {s : List En} {nx : Int} (h : PQ w q F (x :: s) nx) :
    Calls Try.prog 16 [.pointer (some ⟨q, 0, none⟩)].toArray w fun e w' => ∃ v, e = .returned v ∧ v = .tuple #[.int .i64 x.key, .int .i64 x.tie, .int .i64 x.item, .nilIface] ∧ Kp [] w w' := by
  obtain ⟨⟨hv, l, hq, rfl, hr⟩, h0⟩ := h
  cases l with
  | nil => have := hr.perm.length_eq; simp at this
  | cons y l =>
    obtain rfl := hr.head
    exact peek_spec q hv y l nx w hq
theorem pq_peek0 {w : World} {q : Nat} {F : List Nat} {nx : Int} (h : PQ w q F [] nx) :
    Calls Try.prog 16 [.pointer (some ⟨q, 0, none⟩)].toArray w fun e w' => ∃ v, e = .returned v ∧ v = .tuple #[.int .i64 0, .int .i64 0, .int .i64 0, errV 3] ∧ Kp [] w w' := by
  obtain ⟨⟨hv, l, hq, rfl, hr⟩, h0⟩ := h
  have : l = [] := by simpa using hr.perm
  subst this
  exact peek_none (some (q, hv, nx)) w (by rintro x h; cases h; exact hq)
theorem pq_drop {w : World} {q : Nat} {F : List Nat} {s : List En} {nx : Int} (h : PQ w q F s nx) (hl : s.length ≤ 65536) (key : Int) :
    Calls Try.prog 18 [.pointer (some ⟨q, 0, none⟩), .int .i64 key].toArray w fun e w' => ∃ v, e = .returned v ∧ v = .int .i64 ((s.length : Int) - (keep key s).length) ∧
      ∃ F', PQ w' q F' (keep key s) nx ∧ Kp F w w' ∧ Sub w F F' := by
  obtain ⟨⟨hv, l, hq, rfl, hr⟩, h0⟩ := h
  have hll := hr.perm.length_eq
  have hkl : (keep key l).length = (keep key s).length := (hr.perm.filter _).length_eq
  refine Calls.mono (drop_spec q hv l nx key w hq (by omega)) ?_
  rintro e w' ⟨v, rfl, rfl, hv', hq', hk, hs⟩
  refine ⟨_, rfl, by rw [hkl, hll], _, ⟨⟨hv', _, hq', rfl, hr.drop⟩, h0⟩, hk.mono (by simp), fun x hx => ?_⟩
  rcases List.mem_cons.1 hx with rfl | hx
  · exact .inl (by simp)
  · exact .inr (hs x hx)
end Go.Proofs.Ytgdkcdjdmgnjaaa
