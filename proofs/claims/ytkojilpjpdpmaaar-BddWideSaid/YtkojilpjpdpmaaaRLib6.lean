/-
  The walker's library, part Lib6: plain theorems that the proofs of this seat use; no conditions beyond those each theorem names.
-/
import Derived.Test.YtkojilpjpdpmaaaRLib5
import Derived.Laws.AppendOwn
set_option linter.unusedVariables false
set_option linter.unusedSimpArgs false
namespace Go.W
open Go

def _root_.Go.Value.blk : Value → Nat
  | .slice (some a) _ _ => a.block
  | .pointer (some a) => a.block
  | .map (some r) => r
  | _ => 0
/-- The block that a slice's row lies in, if it has one. -/
def _root_.Go.Value.own : Value → List Nat
  | .slice (some a) _ _ => [a.block]
  | _ => []
@[simp] theorem own_slice {a : Addr} {n c : Nat} : (Value.slice (some a) n c).own = [a.block] := rfl
@[simp] theorem own_nil {n c : Nat} : (Value.slice none n c).own = [] := rfl
@[simp] theorem blk_slice {a : Addr} {n c : Nat} : (Value.slice (some a) n c).blk = a.block := rfl

theorem own_sub {v : Value} {b : Nat} (h : b ∈ v.own) : b = v.blk := by
  unfold Value.own at h
  split at h
  · simpa [blk_slice] using h
  · cases h
/-! ### Rows of elements of one size -/
section
variable {α : Type} {enc : α → List Value} {sz : Nat}

theorem flatMap_len (he : ∀ x, (enc x).length = sz) (l : List α) : (l.flatMap enc).length = l.length * sz := by
  induction l with
  | nil => simp
  | cons x l ih => simp [he, ih, Nat.add_mul]; omega

theorem flatMap_at (he : ∀ x, (enc x).length = sz) : ∀ (l : List α) (k : Nat) (x : α), l[k]? = some x → ∀ o, o < sz → (l.flatMap enc)[k * sz + o]? = (enc x)[o]?
  | [], _, _, h, _, _ => by simp at h
  | y :: l, 0, x, h, o, ho => by
    simp at h
    subst h
    simp only [List.flatMap_cons, Nat.zero_mul, Nat.zero_add]
    rw [List.getElem?_append_left (by rw [he]; exact ho)]
  | y :: l, k + 1, x, h, o, ho => by
    simp at h
    simp only [List.flatMap_cons]
    have h1 : (enc y).length ≤ (k + 1) * sz + o := by rw [he, Nat.add_mul]; omega
    rw [List.getElem?_append_right h1, he]
    have : (k + 1) * sz + o - sz = k * sz + o := by rw [Nat.add_mul]; omega
    rw [this]
    exact flatMap_at he l k x h o ho

theorem flatMap_set (he : ∀ x, (enc x).length = sz) : ∀ (l : List α) (k : Nat) (x : α), k < l.length →
    (l.set k x).flatMap enc = (l.flatMap enc).take (k * sz) ++ enc x ++ (l.flatMap enc).drop (k * sz + sz)
  | [], _, _, h => by simp at h
  | y :: l, 0, x, h => by
    have := he y
    simp [List.drop_append, this]
  | y :: l, k + 1, x, h => by
    have ih := flatMap_set he l k x (by simpa using h)
    have hy := he y
    simp only [List.set_cons_succ, List.flatMap_cons, ih]
    have e1 : (k + 1) * sz = sz + k * sz := by rw [Nat.add_mul]; omega
    rw [e1, List.take_append, List.drop_append]
    have t1 : List.take (sz + k * sz) (enc y) = enc y := List.take_of_length_le (by omega)
    have t2 : List.drop (sz + k * sz + sz) (enc y) = [] := List.drop_of_length_le (by omega)
    rw [t1, t2, hy]
    have e2 : sz + k * sz - sz = k * sz := by omega
    have e3 : sz + k * sz + sz - sz = k * sz + sz := by omega
    rw [e2, e3]
    simp

theorem wrAt_list : ∀ (vs : List Value) (c : Array Value) (o : Nat), o + vs.length ≤ c.size → (wrAt c o vs).toList = c.toList.take o ++ vs ++ c.toList.drop (o + vs.length)
  | [], c, o, _ => by simp
  | v :: vs, c, o, h => by
    simp only [List.length_cons] at h
    simp only [wrAt_cons]
    rw [wrAt_list vs _ (o + 1) (by simp; omega)]
    have hlt : o < c.toList.length := by simp; omega
    simp only [Array.toList_setIfInBounds, List.length_cons]
    rw [List.set_eq_take_append_cons_drop, if_pos hlt]
    have hl : (c.toList.take o).length = o := by simp; omega
    rw [List.take_append, List.drop_append, hl]
    have e1 : o + 1 - o = 1 := by omega
    have e2 : o + 1 + vs.length - o = vs.length + 1 := by omega
    have t1 : List.take (o + 1) (c.toList.take o) = c.toList.take o := List.take_of_length_le (by omega)
    have t2 : List.drop (o + 1 + vs.length) (c.toList.take o) = [] := List.drop_of_length_le (by omega)
    rw [e1, e2, t1, t2]
    simp only [List.take_succ_cons, List.take_zero, List.drop_succ_cons, List.drop_drop, List.nil_append, List.append_assoc, List.cons_append]
    have e3 : o + 1 + vs.length = o + (vs.length + 1) := by omega
    rw [e3]

/-- A slice that has a row of its own, from the row's head on. -/
def Own (w : World) (v : Value) (E sz : Nat) (enc : α → List Value) (l : List α) : Prop :=
  (v = .slice none 0 0 ∧ l = []) ∨
  ∃ g cap cur junk, v = .slice (some ⟨g, 0, none⟩) l.length cap ∧ w.heap[g]? = some (.cells cur E (0, 0)) ∧ cur.toList = l.flatMap enc ++ junk ∧ l.length * sz + junk.length = cap * sz ∧ l.length ≤ cap ∧ cap ≤ maxLen

variable {w : World} {v : Value} {E : Nat} {l : List α}

theorem Own.nil (w : World) (E sz : Nat) (enc : α → List Value) : Own w (.slice none 0 0) E sz enc [] := .inl ⟨rfl, rfl⟩

theorem Own.kp {S : List Nat} {w' : World} (h : Own w v E sz enc l) (hk : Kp S w w') (hn : v.blk ∉ S) : Own w' v E sz enc l := by
  rcases h with h | ⟨g, cap, cur, junk, rfl, hh, rest⟩
  · exact .inl h
  · exact .inr ⟨g, cap, cur, junk, rfl, hk.blk hh (by simpa using hn), rest⟩
theorem Own.ext {w' : World} (h : Own w v E sz enc l) (hk : ExtH w w') : Own w' v E sz enc l := by
  rcases h with h | ⟨g, cap, cur, junk, rfl, hh, rest⟩
  · exact .inl h
  · exact .inr ⟨g, cap, cur, junk, rfl, hk _ _ hh, rest⟩

theorem Own.drew (h : Own w v E sz enc l) : Own w.drew v E sz enc l := h

theorem Own.lt (h : Own w v E sz enc l) (hl : l ≠ []) : v.blk < w.heap.size := by
  rcases h with ⟨_, h⟩ | ⟨g, cap, cur, junk, rfl, hh, _⟩
  · exact absurd h hl
  · exact lt_of_blk hh

theorem Own.c1 (h : Own w v E sz enc l) : v.cells = #[v] := by
  rcases h with ⟨rfl, rfl⟩ | ⟨g, cap, cur, junk, rfl, hh, _⟩ <;> rfl
theorem Own.o1 (h : Own w v E sz enc l) : oneC v = true := by
  rcases h with ⟨rfl, rfl⟩ | ⟨g, cap, cur, junk, rfl, hh, _⟩ <;> rfl
theorem Own.blk_of (h : Own w v E sz enc l) {S : List Nat} (hS : ∀ x ∈ v.own, x ∉ S) {w' : World} (hk : Kp S w w') : Own w' v E sz enc l := by
  rcases h with h | ⟨g, cap, cur, junk, rfl, hh, rest⟩
  · exact .inl h
  · exact .inr ⟨g, cap, cur, junk, rfl, hk.blk hh (hS g (by simp)), rest⟩
theorem Own.own_eq (h : Own w v E sz enc l) {k : Nat} (hl : k < l.length) : v.own = [v.blk] := by
  rcases h with ⟨_, rfl⟩ | ⟨g, cap, cur, junk, rfl, hh, _⟩
  · simp at hl
  · rfl

theorem Own.len {P : Program} {T : Nat} {K : Kont Value} (h : Own w v E sz enc l) : @lenH P T v K = @gdH (isSl P T = true) ⟨fun _ => K.run (.int .i64 l.length)⟩ := by
  rcases h with ⟨rfl, rfl⟩ | ⟨g, cap, cur, junk, rfl, _⟩
  · rfl
  · rfl

theorem Own.idx {P : Program} {T : Nat} {K : Kont Value} {k : IntKind} {i : Int} (h : Own w v E sz enc l) (h0 : 0 ≤ i) (h1 : i < l.length) :
    @idxAH P T v (.int k i) K = @optH _ (slInfo P T) ⟨fun q => K.run (.pointer (some ⟨v.blk, i.toNat * q.2.1, none⟩))⟩ := by
  rcases h with ⟨rfl, rfl⟩ | ⟨g, cap, cur, junk, rfl, _⟩
  · simp at h1; omega
  · cases hs : slInfo P T with
    | none => simp [hs, optH, optS]
    | some q => simp [hs, h0, h1]

theorem Own.cell (h : Own w v E sz enc l) (he : ∀ x, (enc x).length = sz) {k : Nat} {x : α} (hx : l[k]? = some x) {o : Nat} (ho : o < sz) : w.cell? ⟨v.blk, k * sz + o, none⟩ = (enc x)[o]? := by
  have hk : k < l.length := by rcases Nat.lt_or_ge k l.length with h1 | h1; exact h1; rw [List.getElem?_eq_none h1] at hx; cases hx
  rcases h with ⟨rfl, rfl⟩ | ⟨g, cap, cur, junk, rfl, hh, hc, hj, _⟩
  · simp at hk
  · rw [blk_slice, cell_blk hh, ← Array.getElem?_toList, hc, List.getElem?_append_left, flatMap_at he l k x hx o ho]
    rw [flatMap_len he]
    calc k * sz + o < k * sz + sz := by omega
      _ = (k + 1) * sz := by rw [Nat.add_mul]; omega
      _ ≤ l.length * sz := Nat.mul_le_mul_right _ hk

theorem cellsAt_of {a : Addr} : ∀ (cs : List Value) (i : Nat), (∀ o, o < cs.length → w.cell? (a.add (i + o)) = cs[o]?) → cellsAt w a i cs.length = some cs
  | [], _, _ => rfl
  | c :: cs, i, h => by
    have h0 := h 0 (by simp)
    simp at h0
    have ih := cellsAt_of cs (i + 1) (fun o ho => by
      have := h (o + 1) (by simpa using ho)
      rw [show i + 1 + o = i + (o + 1) by omega]
      simpa using this)
    simp [cellsAt, h0, ih]

theorem Own.cells (h : Own w v E sz enc l) (he : ∀ x, (enc x).length = sz) {k : Nat} {x : α} (hx : l[k]? = some x) : cellsAt w ⟨v.blk, k * sz, none⟩ 0 sz = some (enc x) := by
  have := cellsAt_of (w := w) (a := ⟨v.blk, k * sz, none⟩) (enc x) 0 (fun o ho => by
    rw [he] at ho
    rw [addr_add, Nat.zero_add]
    exact h.cell he hx ho)
  rwa [he] at this

/-- A whole element is stored. -/
theorem Own.store {KW : Kont World} (h : Own w v E sz enc l) (he : ∀ x, (enc x).length = sz) (h1 : ∀ x, (enc x).all oneC = true) {k : Nat} (hk : k < l.length) {x : α} {cs : List Value} (hcs : cs = enc x)
    (H : ∀ w', Kp [v.blk] w w' → w'.heap.size = w.heap.size → Own w' v E sz enc (l.set k x) → KW.run w') : @stJ w ⟨v.blk, k * sz, none⟩ cs KW := by
  subst hcs
  rcases h with ⟨rfl, rfl⟩ | ⟨g, cap, cur, junk, rfl, hh, hc, hj, hle, hm⟩
  · simp at hk
  · have hs : cur.size = cap * sz := by
      have := congrArg List.length hc
      simp [flatMap_len he] at this
      omega
    have hin : k * sz + sz ≤ cur.size := by
      rw [hs]
      calc k * sz + sz = (k + 1) * sz := by rw [Nat.add_mul]; omega
        _ ≤ cap * sz := Nat.mul_le_mul_right _ (by omega)
    rw [stC_eq, blk_slice, row_blk hh]
    simp only [optS_some, run_mk]
    refine gd_mk (by have := h1 x; simp only [List.all_eq_true] at this; simpa [he] using ⟨hin, this⟩) ?_
    refine H _ ((Kp.refl _ _).setB (.inl (by simp)) _) (by simp) ?_
    have hl2 : k * sz + sz ≤ (l.flatMap enc).length := by
      rw [flatMap_len he]
      calc k * sz + sz = (k + 1) * sz := by rw [Nat.add_mul]; omega
        _ ≤ l.length * sz := Nat.mul_le_mul_right _ hk
    refine .inr ⟨g, cap, _, junk, by simp, setB_new (lt_of_blk hh), ?_, by simpa using hj, by simpa using hle, hm⟩
    simp only [] 
    rw [wrAt_list _ _ _ (by simpa [he] using hin), hc, flatMap_set he l k x hk, he, List.take_append_of_le_length (by omega), List.drop_append_of_le_length (by omega)]
    simp

/-- Append of one element that lies in a block of its own. -/
theorem Own.append {P : Program} {KV : Kont (Value × World)} {T ty by_ : Nat} {z : List Value} (h : Own w v E sz enc l) (he : ∀ x, (enc x).length = sz) (h1 : ∀ x, (enc x).all oneC = true)
    (hT : slInfo P T = some (E, sz, by_, z)) {a : Addr} {m c : Nat} {xs : List α} (hm : xs.length = m) (hx : ∀ j u, (xs.flatMap enc)[j]? = some u → w.cell? (a.add j) = some u)
    (hb : (l.length + m) * by_ ≤ 140737488355328) (hmax : l.length + m ≤ maxLen)
    (H : ∀ v' w', Kp v.own w w' → Own w' v' E sz enc (l ++ xs) → (∀ x ∈ v'.own, x ∈ v.own ∨ w.heap.size ≤ x) → KV.run (v', w')) :
    @efH P (Builtin.append_ #[T, T] ty [v, .slice (some a) m c].toArray) w KV := by
  obtain ⟨i, zv, hu, hi, hz, rfl, rfl, rfl, hzs, hpos⟩ := slInfo_spec hT
  have hown : w.ownsRow 0 E i.size v l.length (l.flatMap enc) := by
    refine ⟨flatMap_len he l, ?_⟩
    rcases h with ⟨rfl, rfl⟩ | ⟨g, cap, cur, junk, rfl, hh, hc, hj, hle, hm'⟩
    · exact .inl ⟨rfl, rfl⟩
    · refine .inr ⟨g, cap, cur, rfl, Nat.zero_le _, hh, hle, hm', ?_, ?_⟩
      · have := congrArg List.length hc
        simp [flatMap_len he] at this
        omega
      · rw [hc, ← flatMap_len he l, List.take_left]
  have h1' : ∀ u ∈ xs.flatMap enc, u.oneCell' = true := by
    intro u hu
    obtain ⟨x, _, hux⟩ := List.mem_flatMap.1 hu
    have := List.all_eq_true.1 (h1 x) u hux
    cases u <;> simp_all [oneC, Value.oneCell']
  obtain ⟨v', w', hr, ho, hg, hn⟩ := run_append_own (P := P) w 0 T ty E i zv i.size i.bytes hu hi hz rfl rfl hzs hpos v l.length (l.flatMap enc) hown a m c (xs.flatMap enc) (by rw [flatMap_len he, hm]) hx h1'
    hmax hb (Nat.zero_le _)
  refine ef_mk (v := v') (w' := w') (by simpa using hr) ?_
  have hkp : Kp v.own w w' := by
    refine ⟨hg.os, hg.tape, hg.output, hg.size, fun b hb' hn' => hg.block b hb' (fun e => hn' ?_)⟩
    cases v <;> simp [Value.ownBlock] at e
    rename_i a' _ _
    cases a' <;> simp [Value.ownBlock] at e
    simp [e]
  refine H v' w' hkp ?_ ?_
  · obtain ⟨hlen, hc⟩ := ho
    rcases hc with ⟨rfl, h0⟩ | ⟨g, cap, cur, rfl, _, hh, hle, hm', hs, ht⟩
    · refine .inl ⟨rfl, ?_⟩
      exact List.eq_nil_of_length_eq_zero (by rw [List.length_append, hm]; exact h0)
    · refine .inr ⟨g, cap, cur, cur.toList.drop ((l.length + m) * i.size), by simp [hm], hh, ?_, ?_, by simpa [hm] using hle, hm'⟩
      · rw [List.flatMap_append, ← ht, List.take_append_drop]
      · simp only [List.length_append, List.length_drop, Array.length_toList, hs, hm]
        have : (l.length + m) * i.size ≤ cap * i.size := Nat.mul_le_mul_right _ hle
        omega
  · -- where the new slice lies
    obtain ⟨hlen, hc⟩ := ho
    intro x hxo
    rcases hc with ⟨rfl, h0⟩ | ⟨g, cap, cur, rfl, _, hh, hle, hm', hs, ht⟩
    · cases hxo
    · have hxg : x = g := by simpa using hxo
      subst hxg
      rcases Nat.lt_or_ge x w.heap.size with hlt | hge
      · -- an old block: the row itself
        left
        rcases h with ⟨rfl, rfl⟩ | ⟨g0, cap0, cur0, junk, rfl, hh0, hc0, hj, hle0, hm0⟩
        · exfalso
          by_cases hm1 : m = 0
          · have := (hn.2 ⟨rfl, hm1⟩); cases this
          · have := run_append_nil (P := P) w T ty E i zv hu hi hz a m c (xs.flatMap enc) (by rw [flatMap_len he, hm]) hx (by omega) (by simp [maxLen] at hmax; omega) (by simp at hb; omega)
            simp only [List.length_nil, Nat.zero_add] at hr
            rw [this] at hr
            injection hr with e1 _
            injection e1 with e2
            simp at e2
            omega
        · rw [own_slice]
          refine List.mem_singleton.2 ?_
          by_cases hroom : l.length + m ≤ cap0
          · have := run_append_room (P := P) w T ty E i hu hi g0 l.length cap0 cur0 hh0 a m c (xs.flatMap enc) (by rw [flatMap_len he, hm]) hx h1' hroom (by
              rw [flatMap_len he, hm, ← Nat.add_mul]
              have : cur0.size = cap0 * i.size := by
                have := congrArg List.length hc0
                simp [flatMap_len he] at this
                omega
              rw [this]
              exact Nat.mul_le_mul_right _ hroom)
            rw [this] at hr
            injection hr with e1 _
            injection e1 with e2
            simp at e2
            exact e2.symm
          · have hold : ∀ j u, (l.flatMap enc)[j]? = some u → w.cell? ((⟨g0, 0, none⟩ : Addr).add j) = some u := by
              intro j u hju
              rw [addr_add, Nat.zero_add, cell_blk hh0, ← Array.getElem?_toList, hc0]
              have hlt' : j < (l.flatMap enc).length := by
                rcases Nat.lt_or_ge j (l.flatMap enc).length with h' | h'
                · exact h'
                · rw [List.getElem?_eq_none h'] at hju; cases hju
              rw [List.getElem?_append_left hlt']
              exact hju
            have := run_append_grow (P := P) w T ty E i zv hu hi hz ⟨g0, 0, none⟩ l.length cap0 (l.flatMap enc) (flatMap_len he l) hold a m c (xs.flatMap enc) (by rw [flatMap_len he, hm]) hx (by omega)
              (by simp [maxLen] at hmax; omega) (growslice_fits (by omega) hb)
            rw [this] at hr
            injection hr with e1 _
            injection e1 with e2
            simp at e2
            omega
      · right; exact hge
end

/-! ### Objects -/
section
variable {w : World}
theorem stJ_blk {b o : Nat} {s : Option Nat} {c : Array Value} {E : Nat} {cs : List Value} {KW : Kont World} (h : w.heap[b]? = some (.cells c E (0, 0))) :
    @stJ w ⟨b, o, s⟩ cs KW = @gdH (s = none ∧ o + cs.length ≤ c.size ∧ cs.all oneC = true) ⟨fun _ => KW.run (w.setB b (.cells (wrAt c o cs) E (0, 0)))⟩ := by
  rw [stC_eq, row_blk h]
  rfl
theorem st_obj {b o : Nat} {c : Array Value} {E : Nat} {cs : List Value} {KW : Kont World} (h : w.heap[b]? = some (.cells c E (0, 0))) (hs : o + cs.length ≤ c.size) (h1 : cs.all oneC = true)
    (H : ∀ w', Kp [b] w w' → w'.heap.size = w.heap.size → w'.heap[b]? = some (.cells (wrAt c o cs) E (0, 0)) → KW.run w') : @stJ w ⟨b, o, none⟩ cs KW := by
  rw [stJ_blk h]
  refine gd_mk ⟨rfl, hs, h1⟩ ?_
  exact H _ ((Kp.refl _ _).setB (.inl (by simp)) _) (by simp) (setB_new (lt_of_blk h))
end
end Go.W
