/-
  A part of the proofs of this seat's statements (TyG); no conditions beyond those each theorem names.
-/
import Derived.Test.YtcpmeficpboklaaTyWA
set_option linter.unusedSimpArgs false
set_option linter.unusedVariables false
namespace Go.Proofs.Ytcpmeficpboklaa
open Go Go.W Go.Ty
theorem nodup_len {α : Type} [DecidableEq α] : ∀ (xs ys : List α), xs.Nodup → (∀ x ∈ xs, x ∈ ys) → xs.length ≤ ys.length
  | [], ys, _, _ => by simp
  | x :: xs, ys, hn, hs => by
    rw [List.nodup_cons] at hn
    have hx : x ∈ ys := hs x (by simp)
    have := nodup_len xs (ys.erase x) hn.2 (fun y hy => by
      have hne : y ≠ x := fun e => hn.1 (e ▸ hy)
      exact (List.mem_erase_of_ne hne).2 (hs y (by simp [hy])))
    rw [List.length_erase_of_mem hx] at this
    have : 0 < ys.length := List.length_pos_of_mem hx
    simp; omega
/-- Two of n+1 places of n values agree. -/
theorem pigeon {α : Type} [DecidableEq α] (f : Nat → α) (ys : List α) (h : ∀ k, k ≤ ys.length → f k ∈ ys) : ∃ i j, i < j ∧ j ≤ ys.length ∧ f i = f j := by
  rcases Classical.em (∃ i j, i < j ∧ j ≤ ys.length ∧ f i = f j) with h1 | h1
  · exact h1
  exfalso
  have hn : ((List.range (ys.length + 1)).map f).Nodup := by
    rw [List.nodup_iff_pairwise_ne, List.pairwise_map]
    refine List.Pairwise.imp_of_mem ?_ (List.pairwise_lt_range (n := ys.length + 1))
    intro a b ha hb hab he
    exact h1 ⟨a, b, hab, by have := List.mem_range.1 hb; omega, he⟩
  have := nodup_len _ ys hn (fun x hx => by
    obtain ⟨k, hk, rfl⟩ := List.mem_map.1 hx
    exact h k (by have := List.mem_range.1 hk; omega))
  simp at this
  omega
theorem up_add (l : List Pr) (t : ByteArray) (i : Nat) : ∀ j, up l t (i + j) = up l (up l t i) j
  | 0 => rfl
  | j + 1 => by rw [Nat.add_succ, up, up, up_add l t i j]
theorem fst_spec {p : Nat → Bool} {n : Nat} (h : fst? p n = none) {j : Nat} (hj : j < n) : p j = false := by
  rw [fst?, List.find?_eq_none] at h
  have := h j (List.mem_range.2 hj)
  simpa using this
theorem getM_some {l : List Pr} {t p : ByteArray} (h : getM l t = some p) : ∃ k, k < l.length ∧ gp l k = (t, p) := by
  rw [getM, Option.map_eq_some_iff] at h
  obtain ⟨q, hq, rfl⟩ := h
  have h1 := List.mem_of_find?_eq_some hq
  have h2 : q.1 = t := by simpa using List.find?_some hq
  obtain ⟨k, hk, he⟩ := List.mem_iff_getElem.1 h1
  refine ⟨k, hk, ?_⟩
  have := gp_at hk
  rw [List.getElem?_eq_getElem hk] at this
  rw [← Option.some.inj this, he, ← h2]
/-- Without errors. -/
structure Acc (l : List Pr) : Prop where
  len : l.length ≤ 64
  name : ∀ k, k < l.length → badN l k = false
  dup : ∀ k, k < l.length → dupN l k = false
  lost : ∀ k, k < l.length → hasB l (gp l k).2 = true
  cyc : ∀ k, k < l.length → cycR l (gp l k).1 l.length (gp l k).1 = false
theorem acc_of {l : List Pr} (h : newE l = none) : Acc l := by
  unfold newE at h
  split at h
  · cases h
  · rename_i h64
    split at h
    · cases h
    · rename_i h1
      split at h
      · cases h
      · rename_i h2
        split at h
        · cases h
        · rename_i h3
          rw [Option.map_eq_none_iff] at h
          exact ⟨by omega, fun k hk => fst_spec h1 hk, fun k hk => fst_spec h2 hk, fun k hk => by have := fst_spec h3 hk; simpa [lostN] using this, fun k hk => fst_spec h hk⟩
theorem decl_of {l : List Pr} {t : ByteArray} (h : hasB l t = true) (hr : t ≠ rootS) : ∃ k, k < l.length ∧ gp l k = (t, gm l t) := by
  simp only [hasB, Bool.or_eq_true, decide_eq_true_eq] at h
  rcases h with h | h
  · obtain ⟨p, hp⟩ := Option.isSome_iff_exists.1 h
    obtain ⟨k, hk, he⟩ := getM_some hp
    exact ⟨k, hk, by rw [he, gm, hp]; rfl⟩
  · exact absurd h hr
theorem Acc.par {l : List Pr} (h : Acc l) {t : ByteArray} (ht : hasB l t = true) (hr : t ≠ rootS) : hasB l (gm l t) = true := by
  obtain ⟨k, hk, he⟩ := decl_of ht hr
  have := h.lost k hk
  rw [he] at this; exact this
theorem cycR_true {l : List Pr} {t : ByteArray} : ∀ (n : Nat) (a : ByteArray) (m : Nat), m < n → Ytcpmeficpboklaa.up l a (m + 1) = t → (∀ j, j ≤ m → Ytcpmeficpboklaa.up l a (j + 1) ≠ rootS ∨ Ytcpmeficpboklaa.up l a (j + 1) = t) → cycR l t n a = true
  | 0, a, m, hm, _, _ => by omega
  | n + 1, a, m, hm, he, hl => by
    rw [cycR]
    by_cases h1 : gm l a = t
    · rw [if_pos h1]
    · rw [if_neg h1]
      have h0 := hl 0 (by omega)
      have h2 : ¬ gm l a = rootS := by
        rcases h0 with h0 | h0
        · exact h0
        · exact absurd h0 h1
      rw [if_neg h2]
      cases m with
      | zero => exact absurd he h1
      | succ m =>
        refine cycR_true n (gm l a) m (by omega) ?_ (fun j hj => ?_)
        · have := up_add l a 1 (m + 1)
          rw [show 1 + (m + 1) = m + 1 + 1 by omega] at this
          rw [this] at he; exact he
        · have := up_add l a 1 (j + 1)
          have h3 := hl (j + 1) (by omega)
          rw [show j + 1 + 1 = 1 + (j + 1) by omega, this] at h3
          exact h3
/-- The number of parents up to the root. -/
def hgt (l : List Pr) (t : ByteArray) : Nat := (fst? (fun n => decide (up l t n = rootS)) (l.length + 1)).getD 0
theorem Acc.hgt_le {l : List Pr} (h : Acc l) (t : ByteArray) : hgt l t ≤ l.length := by
  unfold hgt
  cases hf : fst? (fun n => decide (Ytcpmeficpboklaa.up l t n = rootS)) (l.length + 1) with
  | none => simp
  | some k =>
    have := List.mem_of_find?_eq_some hf
    have := List.mem_range.1 this
    simp; omega
theorem Acc.top {l : List Pr} (h : Acc l) {t : ByteArray} (ht : hasB l t = true) : Top l t (hgt l t) := by
  have key : ∃ n, n ≤ l.length ∧ Ytcpmeficpboklaa.up l t n = rootS := by
    rcases Classical.em (∃ n, n ≤ l.length ∧ Ytcpmeficpboklaa.up l t n = rootS) with h1 | h1
    · exact h1
    exfalso
    have hne : ∀ n, n ≤ l.length → Ytcpmeficpboklaa.up l t n ≠ rootS := fun n hn he => h1 ⟨n, hn, he⟩
    have hhas : ∀ n, n ≤ l.length → hasB l (Ytcpmeficpboklaa.up l t n) = true := by
      intro n
      induction n with
      | zero => exact fun _ => ht
      | succ n ih => exact fun hn => h.par (ih (by omega)) (hne n (by omega))
    have hl : (l.map (·.1)).length = l.length := List.length_map ..
    obtain ⟨i, j, hij, hj, he⟩ := pigeon (Ytcpmeficpboklaa.up l t) (l.map (·.1)) (fun k hk => by
      rw [hl] at hk
      obtain ⟨m, hm, hg⟩ := decl_of (hhas k hk) (hne k hk)
      have h2 := gp_at hm
      rw [hg] at h2
      exact List.mem_map.2 ⟨_, List.mem_of_getElem? h2, rfl⟩)
    rw [hl] at hj
    obtain ⟨m, hm, hg⟩ := decl_of (hhas i (by omega)) (hne i (by omega))
    have hc := h.cyc m hm
    rw [hg] at hc
    simp only at hc
    have := cycR_true (l := l) (t := Ytcpmeficpboklaa.up l t i) l.length (Ytcpmeficpboklaa.up l t i) (j - i - 1) (by omega) (by rw [← up_add, show i + (j - i - 1 + 1) = j by omega]; exact he.symm)
      (fun q hq => .inl (by rw [← up_add]; exact hne _ (by omega)))
    rw [this] at hc
    cases hc
  obtain ⟨n, hn, he⟩ := key
  unfold hgt
  cases hf : fst? (fun n => decide (Ytcpmeficpboklaa.up l t n = rootS)) (l.length + 1) with
  | none =>
    have := fst_spec hf (show n < l.length + 1 by omega)
    simp at this
    exact absurd he this
  | some k =>
    rw [fst?, List.find?_eq_some_iff_getElem] at hf
    obtain ⟨h1, i, hi, h2, h3⟩ := hf
    simp at h2
    subst h2
    refine ⟨by simpa using h1, fun q hq => ?_⟩
    have := h3 q hq
    simpa using this
theorem Acc.hgt_root {l : List Pr} (h : Acc l) : hgt l rootS = 0 := by
  have := h.top (t := rootS) (by simp [hasB])
  rcases Nat.eq_zero_or_pos (hgt l rootS) with h1 | h1
  · exact h1
  · exact absurd rfl (this.low 0 h1)
/-- Is: a type is another one or below it. -/
def isP (l : List Pr) (a b : ByteArray) : Bool := isB l a b (hgt l a)
theorem mem_ups {l : List Pr} {a b : ByteArray} {n : Nat} : b ∈ ups l a n ↔ ∃ k, k ≤ n ∧ up l a k = b := by
  simp only [ups, List.mem_map, List.mem_range]
  constructor
  · rintro ⟨k, hk, he⟩; exact ⟨k, by omega, he⟩
  · rintro ⟨k, hk, he⟩; exact ⟨k, by omega, he⟩
/-- Common: the nearest common type. -/
def comP (l : List Pr) (a b : ByteArray) : ByteArray := if hasB l a && hasB l b then ((ups l a (hgt l a)).find? (isP l b)).getD ByteArray.empty else ByteArray.empty
/-- Of: the objects of a type. -/
def ofP (l li : List Pr) (t : ByteArray) : List ByteArray := (li.filter fun o => isP l o.2 t).map (·.1)
end Go.Proofs.Ytcpmeficpboklaa
