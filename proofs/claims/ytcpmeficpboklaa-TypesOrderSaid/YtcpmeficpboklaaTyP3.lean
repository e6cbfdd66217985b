/-
  A part of the proofs of this seat's statements (TyP3); no conditions beyond those each theorem names.
-/
import Derived.Test.YtcpmeficpboklaaTyP2
import Derived.Test.YtcpmeficpboklaaTyWF
set_option linter.unusedSimpArgs false
set_option linter.unusedVariables false
namespace Go.Proofs.Ytcpmeficpboklaa
open Go Go.W Go.Ty
theorem top_uniq {l : List Pr} {t : ByteArray} {n m : Nat} (h : Top l t n) (k : Top l t m) : n = m := by
  rcases Nat.lt_trichotomy n m with h1 | h1 | h1
  · exact absurd h.top (k.low n h1)
  · exact h1
  · exact absurd k.top (h.low m h1)
theorem hgt_up {l : List Pr} (h : Acc l) {a : ByteArray} (ha : hasB l a = true) {k : Nat} (hk : k ≤ hgt l a) : hgt l (up l a k) = hgt l a - k := by
  have ht := h.top ha
  refine top_uniq (h.top (h.has_up ha k hk)) ⟨?_, fun j hj => ?_⟩
  · rw [← up_add, show k + (hgt l a - k) = hgt l a by omega]; exact ht.top
  · rw [← up_add]; exact ht.low _ (by omega)
theorem isP_refl {l : List Pr} (h : Acc l) {a : ByteArray} (ha : hasB l a = true) : isP l a a = true := (isP_iff h ha).2 ⟨0, Nat.zero_le _, rfl⟩
theorem isP_trans {l : List Pr} (h : Acc l) {a b c : ByteArray} (h1 : isP l a b = true) (h2 : isP l b c = true) : isP l a c = true := by
  have ha := (isP_has h1).1
  obtain ⟨k, hk, rfl⟩ := (isP_iff h ha).1 h1
  obtain ⟨j, hj, rfl⟩ := (isP_iff h (isP_has h1).2).1 h2
  rw [hgt_up h ha hk] at hj
  exact (isP_iff h ha).2 ⟨k + j, by omega, up_add l a k j⟩
theorem isP_anti {l : List Pr} (h : Acc l) {a b : ByteArray} (h1 : isP l a b = true) (h2 : isP l b a = true) : a = b := by
  have ha := (isP_has h1).1
  have hb := (isP_has h1).2
  obtain ⟨k, hk, rfl⟩ := (isP_iff h ha).1 h1
  obtain ⟨j, hj, he⟩ := (isP_iff h hb).1 h2
  have e1 := hgt_up h hb hj
  rw [he, hgt_up h ha hk] at e1
  have : k = 0 := by omega
  subst this; rfl
theorem comP_spec {l : List Pr} (h : Acc l) {a b : ByteArray} (ha : hasB l a = true) (hb : hasB l b = true) :
    isP l a (comP l a b) = true ∧ isP l b (comP l a b) = true ∧ ∀ c, isP l a c = true → isP l b c = true → isP l (comP l a b) c = true := by
  have ht := h.top ha
  cases hf : (ups l a (hgt l a)).find? (isP l b) with
  | none =>
    exfalso
    rw [List.find?_eq_none] at hf
    have := hf rootS (mem_ups.2 ⟨_, Nat.le_refl _, ht.top⟩)
    exact this (isP_root h hb)
  | some m =>
    have hm : comP l a b = m := by simp [comP, ha, hb, hf]
    rw [hm]
    rw [List.find?_eq_some_iff_getElem] at hf
    obtain ⟨hp, i, hi, he, hmin⟩ := hf
    have hi' : i ≤ hgt l a := by rw [ups_len] at hi; omega
    have hui := ups_at (l := l) (a := a) hi'
    rw [List.getElem?_eq_getElem hi, he] at hui
    have hui := Option.some.inj hui
    refine ⟨by rw [hui]; exact isP_up h ha hi', hp, fun c hc1 hc2 => ?_⟩
    obtain ⟨j, hj, rfl⟩ := (isP_iff h ha).1 hc1
    have hij : i ≤ j := by
      rcases Nat.lt_or_ge j i with h1 | h1
      · exfalso
        have := hmin j h1
        have huj := ups_at (l := l) (a := a) hj
        rw [List.getElem?_eq_getElem (by rw [ups_len]; omega)] at huj
        rw [Option.some.inj huj] at this
        simp [hc2] at this
      · exact h1
    have hhm := h.has_up ha i hi'
    rw [hui]
    refine (isP_iff h hhm).2 ⟨j - i, by rw [hgt_up h ha hi']; omega, ?_⟩
    rw [← up_add, show i + (j - i) = j by omega]
theorem comP_comm {l : List Pr} (h : Acc l) {a b : ByteArray} (ha : hasB l a = true) (hb : hasB l b = true) : comP l a b = comP l b a := by
  obtain ⟨h1, h2, h3⟩ := comP_spec h ha hb
  obtain ⟨k1, k2, k3⟩ := comP_spec h hb ha
  exact isP_anti h (h3 _ k2 k1) (k3 _ h2 h1)
end Go.Proofs.Ytcpmeficpboklaa
