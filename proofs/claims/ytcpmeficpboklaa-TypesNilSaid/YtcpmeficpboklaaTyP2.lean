/-
  A part of the proofs of this seat's statements (TyP2); no conditions beyond those each theorem names.
-/
import Derived.Test.YtcpmeficpboklaaTyP1
set_option linter.unusedSimpArgs false
set_option linter.unusedVariables false
namespace Go.Proofs.Ytcpmeficpboklaa
open Go Go.W Go.Ty
theorem nodup_of_idx {α : Type} [Inhabited α] : ∀ (l : List α), (∀ (i j : Nat) (x y : α), i < j → l[i]? = some x → l[j]? = some y → x ≠ y) → l.Nodup
  | [], _ => by simp
  | a :: l, h => by
    rw [List.nodup_cons]
    refine ⟨fun hm => ?_, nodup_of_idx l fun i j x y hij hx hy => h (i + 1) (j + 1) x y (by omega) (by simpa using hx) (by simpa using hy)⟩
    obtain ⟨k, hk⟩ := List.getElem?_of_mem hm
    exact h 0 (k + 1) a a (by omega) (by simp) (by simpa using hk) rfl
theorem Acc.nodup {l : List Pr} (h : Acc l) : (l.map (·.1)).Nodup := by
  haveI : Inhabited ByteArray := ⟨ByteArray.empty⟩
  refine nodup_of_idx _ fun i j x y hij hx hy he => ?_
  subst he
  have hj : j < l.length := by
    have := (List.getElem?_eq_some_iff.1 hy).1
    simpa using this
  have hd := h.dup j hj
  rw [List.getElem?_map, gp_at (by omega)] at hx
  rw [List.getElem?_map, gp_at hj] at hy
  simp at hx hy
  simp only [dupN, getM, Option.isSome_map, Option.isSome_eq_false_iff, Option.isNone_iff_eq_none, List.find?_eq_none] at hd
  have : (l.take j)[i]? = some (gp l i) := by rw [List.getElem?_take_of_lt hij]; exact gp_at (by omega)
  have := hd _ (List.mem_of_getElem? this)
  simp [hx, hy] at this
theorem Acc.getM {l : List Pr} (h : Acc l) {k : Nat} (hk : k < l.length) : getM l (gp l k).1 = some (gp l k).2 := getM_dup h.dup hk
theorem Acc.gm {l : List Pr} (h : Acc l) {k : Nat} (hk : k < l.length) : gm l (gp l k).1 = (gp l k).2 := by rw [Ytcpmeficpboklaa.gm, h.getM hk]; rfl
theorem Acc.nroot {l : List Pr} (h : Acc l) {k : Nat} (hk : k < l.length) : (gp l k).1 ≠ rootS := good_root (h.name k hk)
theorem Acc.hasN {l : List Pr} (h : Acc l) {k : Nat} (hk : k < l.length) : hasB l (gp l k).1 = true := by simp [hasB, h.getM hk]
theorem Acc.no_root {l : List Pr} (h : Acc l) : Go.W.getM l rootS = none := by
  cases hg : Go.W.getM l rootS with
  | none => rfl
  | some p =>
    obtain ⟨k, hk, he⟩ := getM_some hg
    exact absurd (by rw [he]) (h.nroot hk)
theorem Acc.has_up {l : List Pr} (h : Acc l) {a : ByteArray} (ha : hasB l a = true) : ∀ k, k ≤ hgt l a → hasB l (up l a k) = true
  | 0, _ => ha
  | k + 1, hk => h.par (h.has_up ha k (by omega)) ((h.top ha).low k (by omega))
theorem Acc.ex {l : List Pr} (h : Acc l) {t : ByteArray} (ht : hasB l t = true) (hr : t ≠ rootS) : (Go.W.getM l t).isSome = true := by
  simp only [hasB, Bool.or_eq_true, decide_eq_true_eq] at ht
  rcases ht with h1 | h1
  · exact h1
  · exact absurd h1 hr
theorem isP_up {l : List Pr} (h : Acc l) {a : ByteArray} (ha : hasB l a = true) {k : Nat} (hk : k ≤ hgt l a) : isP l a (up l a k) = true := by
  simp only [isP, isB, ha, h.has_up ha k hk, Bool.true_and, decide_eq_true_eq]
  exact mem_ups.2 ⟨k, hk, rfl⟩
theorem isP_iff {l : List Pr} (h : Acc l) {a b : ByteArray} (ha : hasB l a = true) : isP l a b = true ↔ ∃ k, k ≤ hgt l a ∧ up l a k = b := by
  constructor
  · intro hi
    simp only [isP, isB, Bool.and_eq_true, decide_eq_true_eq] at hi
    exact mem_ups.1 hi.2
  · rintro ⟨k, hk, rfl⟩; exact isP_up h ha hk
theorem isP_has {l : List Pr} {a b : ByteArray} (hi : isP l a b = true) : hasB l a = true ∧ hasB l b = true := by
  simp only [isP, isB, Bool.and_eq_true] at hi
  exact hi.1
theorem up_inj {l : List Pr} {a : ByteArray} {n i j : Nat} (ht : Top l a n) (hij : i < j) (hj : j ≤ n) : up l a i ≠ up l a j := fun he => by
  have h1 : up l a (i + (n - j)) = rootS := by
    rw [up_add, he, ← up_add, show j + (n - j) = n by omega]; exact ht.top
  exact ht.low _ (by omega) h1
theorem climb_count {l : List Pr} (h : Acc l) {a : ByteArray} (ha : hasB l a = true) : ((l.map (·.1)).filter fun b => isP l a b).length = hgt l a := by
  haveI : Inhabited ByteArray := ⟨ByteArray.empty⟩
  have ht := h.top ha
  have hU : ((List.range (hgt l a)).map (up l a)).Nodup := by
    refine nodup_of_idx _ fun i j x y hij hx hy => ?_
    have hj : j < hgt l a := by
      have := (List.getElem?_eq_some_iff.1 hy).1
      simpa using this
    rw [List.getElem?_map, List.getElem?_range (by omega)] at hx hy
    simp at hx hy
    subst hx hy
    exact up_inj ht hij (by omega)
  have h1 := nodup_len ((l.map (fun x : Pr => x.1)).filter fun b => isP l a b) ((List.range (hgt l a)).map (up l a)) (h.nodup.filter _) (fun x hx => by
    obtain ⟨hm, hi⟩ := List.mem_filter.1 hx
    obtain ⟨k, hk, he⟩ := (isP_iff h ha).1 hi
    refine List.mem_map.2 ⟨k, List.mem_range.2 ?_, he⟩
    rcases Nat.lt_or_ge k (hgt l a) with h2 | h2
    · exact h2
    · exfalso
      have hk2 : k = hgt l a := by omega
      rw [hk2, ht.top] at he
      obtain ⟨p, hp, he2⟩ := List.mem_map.1 hm
      obtain ⟨q, hq, rfl⟩ := List.mem_iff_getElem.1 hp
      have hg := gp_at hq
      rw [List.getElem?_eq_getElem hq] at hg
      rw [Option.some.inj hg] at he2
      exact h.nroot hq (he2.trans he.symm))
  have h2 := nodup_len ((List.range (hgt l a)).map (up l a)) ((l.map (fun x : Pr => x.1)).filter fun b => isP l a b) hU (fun x hx => by
    obtain ⟨k, hk, rfl⟩ := List.mem_map.1 hx
    have hk := List.mem_range.1 hk
    refine List.mem_filter.2 ⟨?_, isP_up h ha (by omega)⟩
    obtain ⟨q, hq, hg⟩ := decl_of (h.has_up ha k (by omega)) (ht.low k hk)
    have := gp_at hq
    rw [hg] at this
    exact List.mem_map.2 ⟨_, List.mem_of_getElem? this, rfl⟩)
  simp only [List.length_map, List.length_range] at h1 h2
  omega
theorem isP_hasroot {l : List Pr} (h : Acc l) (x : ByteArray) : isP l x rootS = hasB l x := by
  cases hx : hasB l x with
  | true => exact isP_root h hx
  | false => simp [isP, isB, hx]
theorem isP_parent {l : List Pr} (h : Acc l) {k : Nat} (hk : k < l.length) {x : ByteArray} (hi : isP l x (gp l k).1 = true) : isP l x (gp l k).2 = true := by
  have hx := (isP_has hi).1
  obtain ⟨j, hj, he⟩ := (isP_iff h hx).1 hi
  have hne : j ≠ hgt l x := fun e => by
    rw [e, (h.top hx).top] at he
    exact h.nroot hk he.symm
  refine (isP_iff h hx).2 ⟨j + 1, by omega, ?_⟩
  rw [up, he, h.gm hk]
theorem filter_sub {α : Type} {p q : α → Bool} (h : ∀ x, p x = true → q x = true) : ∀ l : List α, List.Sublist (l.filter p) (l.filter q)
  | [] => by simp
  | x :: l => by
    have ih := filter_sub h l
    by_cases hp : p x = true
    · simp [hp, h x hp]; exact ih
    · by_cases hq : q x = true
      · simp [hp, hq]; exact ih.cons _
      · simp [hp, hq]; exact ih
theorem ofP_sub {l : List Pr} (h : Acc l) {k : Nat} (hk : k < l.length) (li : List Pr) : List.Sublist (ofP l li (gp l k).1) (ofP l li (gp l k).2) :=
  (filter_sub (fun x hx => isP_parent h hk hx) li).map _
theorem sub_step {α : Type} [DecidableEq α] {xs ys : List α} {k j : Nat} {x y : α} (hx : xs[k]? = some x) (hy : ys[j]? = some y) (h : List.Sublist (xs.drop k) (ys.drop j)) :
    List.Sublist (xs.drop (if y = x then k + 1 else k)) (ys.drop (j + 1)) := by
  obtain ⟨hk, rfl⟩ := List.getElem?_eq_some_iff.1 hx
  obtain ⟨hj, rfl⟩ := List.getElem?_eq_some_iff.1 hy
  rw [List.drop_eq_getElem_cons hk, List.drop_eq_getElem_cons hj] at h
  by_cases he : ys[j] = xs[k]
  · rw [if_pos he]
    rw [he] at h
    exact List.cons_sublist_cons.1 h
  · rw [if_neg he, List.drop_eq_getElem_cons hk]
    rcases List.sublist_cons_iff.1 h with h1 | ⟨r, h1, h2⟩
    · exact h1
    · injection h1 with h3 _
      exact absurd h3.symm he
theorem sub_end {α : Type} {xs ys : List α} {k j : Nat} (hk : k ≤ xs.length) (hj : ys.length ≤ j) (h : List.Sublist (xs.drop k) (ys.drop j)) : k = xs.length := by
  rw [List.drop_of_length_le hj] at h
  have := h.length_le
  simp at this
  omega
theorem count_snoc {α : Type} (p : α → Bool) (l : List α) (x : α) : ((l ++ [x]).filter p).length = (l.filter p).length + (if p x = true then 1 else 0) := by
  rw [List.filter_append, List.length_append]
  by_cases h : p x = true <;> simp [h]
/-- How many of the first k types a type is. -/
def cnt (l : List Pr) (a : ByteArray) (k : Nat) : Nat := (((l.take k).map (·.1)).filter fun b => isP l a b).length
theorem cnt_zero (l : List Pr) (a : ByteArray) : cnt l a 0 = 0 := rfl
theorem cnt_succ {l : List Pr} {a : ByteArray} {j : Nat} (hj : j < l.length) : cnt l a (j + 1) = cnt l a j + (if isP l a (gp l j).1 = true then 1 else 0) := by
  have := count_snoc (fun b => isP l a b) ((l.take j).map (·.1)) (gp l j).1
  have hts : ((l.take j).map (·.1)) ++ [(gp l j).1] = (l.take (j + 1)).map (·.1) := by rw [take_succ hj, List.map_append]; rfl
  rw [hts] at this
  exact this
theorem cnt_le (l : List Pr) (a : ByteArray) (k : Nat) : cnt l a k ≤ l.length := by
  refine Nat.le_trans (List.length_filter_le _ _) ?_
  simp; omega
theorem cnt_all {l : List Pr} (h : Acc l) {a : ByteArray} (ha : hasB l a = true) : cnt l a l.length = hgt l a := by
  rw [cnt, List.take_length]; exact climb_count h ha
/-- How many of the first k objects have a type. -/
def cntH (l li : List Pr) (k : Nat) : Nat := ((li.take k).filter fun o => isP l o.2 rootS).length
theorem cntH_zero (l li : List Pr) : cntH l li 0 = 0 := rfl
theorem cntH_succ {l li : List Pr} (h : Acc l) {j : Nat} (hj : j < li.length) : cntH l li (j + 1) = cntH l li j + (if hasB l (gp li j).2 = true then 1 else 0) := by
  have := count_snoc (fun o : Pr => isP l o.2 rootS) (li.take j) (gp li j)
  rw [← take_succ hj, isP_hasroot h] at this
  exact this
theorem cntH_le (l li : List Pr) (k : Nat) : cntH l li k ≤ li.length := by
  refine Nat.le_trans (List.length_filter_le _ _) ?_
  simp; omega
theorem cntH_all (l li : List Pr) : (ofP l li rootS).length = cntH l li li.length := by
  rw [cntH, List.take_length, ofP, List.length_map]
end Go.Proofs.Ytcpmeficpboklaa
