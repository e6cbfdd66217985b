/-
  A part of the proofs of this seat's statements (TyWF); no conditions beyond those each theorem names.
-/
import Derived.Test.YtcpmeficpboklaaTyWE
import Derived.Test.YtcpmeficpboklaaTyG
set_option maxRecDepth 100000
set_option linter.unusedSimpArgs false
set_option linter.unusedVariables false
namespace Go.Proofs.Ytcpmeficpboklaa
open Go Go.W Go.Ty
theorem up_out {l : List Pr} (h : Acc l) {a : ByteArray} {n k : Nat} (ht : Top l a n) (hk : k ≤ n) (hne : ∀ j, j < k → up l a j ≠ rootS) : True := trivial
theorem ris_spec (pv : Value) (l : List Pr) (a b : ByteArray) (w : World) (hl : Vw w pv ep l) (h : Acc l) :
    Calls Try.prog 24 [pv, .string a, .string b].toArray w fun e w' => ∃ v, e = .returned v ∧ v = .bool (isP l a b) ∧ Kp [] w w' := by
  have hn := h.len
  refine enter Try.func24 mixed low24 (Nat.le_of_ble_eq_true rfl) ?_
  simp only [L24]
  simp
  refine cl_of (rhas_spec pv l a w hl (by omega)) ?_
  rintro v w1 ⟨rfl, k1⟩
  by_cases h1 : hasB l a = true
  case neg =>
    have h1' : hasB l a = false := by simpa using h1
    simp [h1']
    exact ⟨by simp [isP, isB, h1'], k1⟩
  simp [h1]
  refine cl_of (rhas_spec pv l b w1 (hl.kp0 k1) (by omega)) ?_
  rintro v w2 ⟨rfl, k2⟩
  by_cases h2 : hasB l b = true
  case neg =>
    have h2' : hasB l b = false := by simpa using h2
    simp [h2']
    exact ⟨by simp [isP, isB, h2'], k1.trans0 k2⟩
  have k12 := k1.trans0 k2
  have ht := h.top h1
  have hle := h.hgt_le a
  simp [h2]
  refine loop_inv (fun m ρ w3 => ∃ k, m = hgt l a - k ∧ k ≤ hgt l a ∧ ρ 0 = pv ∧ ρ 1 = .string (up l a k) ∧ ρ 2 = .string b ∧ ρ 7 = .int .i64 (k : Nat) ∧ (∀ j, j < k → up l a j ≠ b) ∧ Kp [] w w3) (hgt l a)
    ⟨0, by omega, by omega, by simp, by simp [up], by simp, by simp, by simp, k12⟩ ?_
  rintro m ρ w3 ⟨k, rfl, hk, g0, g1, g2, g7, hall, hkp⟩
  have hl3 := hl.kp0 hkp
  have hkl : (k : Int) ≤ l.length := by omega
  simp [g0, g1, g2, g7, hl3.len, hkl, beq_str]
  by_cases hb : up l a k = b
  · simp [hb, g1, g2, beq_str]
    refine ⟨?_, hkp⟩
    simp [isP, isB, h1, h2]
    exact mem_ups.2 ⟨k, hk, hb⟩
  by_cases hr : up l a k = rootS
  · have hkn : k = hgt l a := by
      rcases Nat.lt_or_ge k (hgt l a) with h3 | h3
      · exact absurd hr (ht.low k h3)
      · omega
    have hb2 : ¬ rootS = b := by rw [← hr]; exact hb
    simp [hb, hb2, beq_root, hr, g1, g2, beq_str]
    refine ⟨?_, hkp⟩
    simp [isP, isB, h1, h2]
    have : b ∉ ups l a (hgt l a) := fun hm => by
      obtain ⟨j, hj, he⟩ := mem_ups.1 hm
      rcases Nat.lt_or_ge j k with h3 | h3
      · exact hall j h3 he
      · have : j = k := by omega
        subst this; exact hb he
    simp [this]
  have hkn : k < hgt l a := by
    rcases Nat.lt_or_ge k (hgt l a) with h3 | h3
    · exact h3
    · have : k = hgt l a := by omega
      rw [this] at hr; exact absurd ht.top hr
  simp [hb, beq_root, hr, g0, g1, g2]
  refine cl_of (rparent_spec pv l (up l a k) w3 hl3 (by omega)) ?_
  rintro v w4 ⟨rfl, k4⟩
  simp (disch := omega) [g0, g2, g7, wrap_i64]
  refine ⟨hgt l a - (k + 1), by omega, k + 1, rfl, by omega, rfl, by omega, fun j hj => ?_, hkp.trans0 k4⟩
  rcases Nat.lt_or_ge j k with h3 | h3
  · exact hall j h3
  · have : j = k := by omega
    subst this; exact hb
theorem is_specP (f m : Nat) (l : List Pr) (a b : ByteArray) (w : World) (hf : FA w f m l) (hsz : Sz l) (ha : a.size ≤ maxLen) (hb : b.size ≤ maxLen) (h : Acc l) :
    Calls Try.prog 23 [.pointer (some ⟨f, 0, none⟩), .string a, .string b].toArray w fun e w' => ∃ v, e = .returned v ∧ v = .bool (isP l a b) ∧ Kp [] w w' :=
  is_spec f m l a b (hgt l a) w hf hsz ha hb (by have := h.hgt_le a; have := h.len; omega) (fun hh => h.top hh)
theorem ups_at {l : List Pr} {a : ByteArray} {n k : Nat} (hk : k ≤ n) : (ups l a n)[k]? = some (up l a k) := by
  simp [ups, List.getElem?_map, List.getElem?_range (show k < n + 1 by omega)]
theorem ups_len {l : List Pr} {a : ByteArray} {n : Nat} : (ups l a n).length = n + 1 := by simp [ups]
theorem find_split {α : Type} {p : α → Bool} {l : List α} {k : Nat} {x : α} (hx : l[k]? = some x) (hall : ∀ j y, j < k → l[j]? = some y → p y = false) (hp : p x = true) : l.find? p = some x := by
  rw [List.find?_eq_some_iff_getElem]
  have hk := (List.getElem?_eq_some_iff.1 hx)
  refine ⟨hp, k, hk.1, hk.2, fun j hj => ?_⟩
  have := hall j _ hj (List.getElem?_eq_getElem (by have := hk.1; omega))
  simp [this]
theorem isP_root {l : List Pr} (h : Acc l) {b : ByteArray} (hb : hasB l b = true) : isP l b rootS = true := by
  have := (h.top hb).top
  simp only [isP, isB, hb, Bool.and_true, Bool.and_eq_true, decide_eq_true_eq, Bool.true_and]
  exact ⟨by simp [hasB], mem_ups.2 ⟨_, Nat.le_refl _, this⟩⟩
theorem common_spec (f m : Nat) (l : List Pr) (a b : ByteArray) (w : World) (hf : FA w f m l) (hsz : Sz l) (ha : a.size ≤ maxLen) (hb : b.size ≤ maxLen) (h : Acc l) :
    Calls Try.prog 28 [.pointer (some ⟨f, 0, none⟩), .string a, .string b].toArray w fun e w' => ∃ v, e = .returned v ∧ v = .string (comP l a b) ∧ Kp [] w w' := by
  have hn := h.len
  have hle := h.hgt_le a
  refine enter Try.func28 mixed low28 (Nat.le_of_ble_eq_true rfl) ?_
  simp only [L28]
  simp
  refine cl_of (has_spec f m l a w hf ha) ?_
  rintro v w1 ⟨rfl, k1⟩
  by_cases h1 : hasB l a = true
  case neg =>
    have h1' : hasB l a = false := by simpa using h1
    simp [h1']
    exact ⟨by simp [comP, h1']; rfl, k1⟩
  simp [h1]
  refine cl_of (has_spec f m l b w1 (hf.kp0 k1) hb) ?_
  rintro v w2 ⟨rfl, k2⟩
  by_cases h2 : hasB l b = true
  case neg =>
    have h2' : hasB l b = false := by simpa using h2
    simp [h2']
    exact ⟨by simp [comP, h2']; rfl, k1.trans0 k2⟩
  have k12 := k1.trans0 k2
  have ht := h.top h1
  simp [h2]
  refine cl_of (above_spec f m l a (hgt l a) w2 (hf.kp0 k12) hsz ha (by omega) ht) ?_
  rintro v w3 h3
  simp [h3.own.len, ups_len]
  refine range_loop (n := hgt l a + 1) (by omega) (fun k ρ w4 => ρ 0 = .pointer (some ⟨f, 0, none⟩) ∧ ρ 2 = .string b ∧ ρ 21 = v ∧ (∀ j, j < k → isP l b (up l a j) = false) ∧ Own w4 v 9 1 es (ups l a (hgt l a)) ∧ Kp [] w w4) (by simp) (by simp)
    ⟨by simp, by simp, by simp, by simp, h3.own, k12.trans0 h3.kp⟩ (by decide) (fun _ _ _ _ h => by simpa using h) (fun _ _ _ _ h => by simpa using h) ?_ ?_
  · rintro k ρ w4 hk hc hlim ⟨g0, g2, g21, hall, ho, hkp⟩
    have hk' : k ≤ hgt l a := by omega
    have hcell := ho.cell es_len (ups_at hk') (o := 0) (by omega)
    simp only [Nat.mul_one, Nat.add_zero] at hcell
    simp (disch := first | omega | (rw [ups_len]; omega)) [g0, g2, g21, hc, ho.idx, hcell, es]
    refine cl_of (is_specP f m l b (up l a k) w4 (hf.kp0 hkp) hsz hb (up_sz hsz ha k) h) ?_
    rintro v2 w5 ⟨rfl, k5⟩
    by_cases hi : isP l b (up l a k) = true
    · simp [hi]
      refine ⟨?_, hkp.trans0 k5⟩
      have : (ups l a (hgt l a)).find? (isP l b) = some (up l a k) := find_split (ups_at hk') (fun j y hj hy => by
        rw [ups_at (by omega)] at hy
        rw [← Option.some.inj hy]; exact hall j hj) hi
      simp [comP, h1, h2, this]
    · have hi' : isP l b (up l a k) = false := by simpa using hi
      simp [hi', hc, hlim, g0, g2, g21]
      refine ⟨fun j hj => ?_, ho.kp k5 (by simp), hkp.trans0 k5⟩
      rcases Nat.lt_or_ge j k with h3 | h3
      · exact hall j h3
      · have : j = k := by omega
        subst this; exact hi'
  · rintro ρ w4 ⟨g0, g2, g21, hall, ho, hkp⟩
    exfalso
    have := hall (hgt l a) (by omega)
    rw [ht.top, isP_root h h2] at this
    cases this
theorem rcommon_spec (pv : Value) (l : List Pr) (a b : ByteArray) (w : World) (hl : Vw w pv ep l) (h : Acc l) :
    Calls Try.prog 29 [pv, .string a, .string b].toArray w fun e w' => ∃ v, e = .returned v ∧ v = .string (comP l a b) ∧ Kp [] w w' := by
  have hn := h.len
  have hle := h.hgt_le a
  refine enter Try.func29 mixed low29 (Nat.le_of_ble_eq_true rfl) ?_
  simp only [L29]
  simp
  refine cl_of (rhas_spec pv l a w hl (by omega)) ?_
  rintro v w1 ⟨rfl, k1⟩
  by_cases h1 : hasB l a = true
  case neg =>
    have h1' : hasB l a = false := by simpa using h1
    simp [h1']
    exact ⟨by simp [comP, h1']; rfl, k1⟩
  simp [h1]
  refine cl_of (rhas_spec pv l b w1 (hl.kp0 k1) (by omega)) ?_
  rintro v w2 ⟨rfl, k2⟩
  by_cases h2 : hasB l b = true
  case neg =>
    have h2' : hasB l b = false := by simpa using h2
    simp [h2']
    exact ⟨by simp [comP, h2']; rfl, k1.trans0 k2⟩
  have k12 := k1.trans0 k2
  have ht := h.top h1
  simp [h2]
  refine loop_inv (fun m ρ w3 => ∃ k, m = hgt l a - k ∧ k ≤ hgt l a ∧ ρ 0 = pv ∧ ρ 1 = .string (up l a k) ∧ ρ 2 = .string b ∧ (∀ j, j < k → isP l b (up l a j) = false) ∧ Kp [] w w3) (hgt l a)
    ⟨0, by omega, by omega, by simp, by simp [up], by simp, by simp, k12⟩ ?_
  rintro m ρ w3 ⟨k, rfl, hk, g0, g1, g2, hall, hkp⟩
  have hl3 := hl.kp0 hkp
  simp [g0, g1, g2]
  refine cl_of (ris_spec pv l b (up l a k) w3 hl3 h) ?_
  rintro v w4 ⟨rfl, k4⟩
  have hl4 := hl3.kp0 k4
  by_cases hi : isP l b (up l a k) = true
  · simp [hi, g1]
    refine ⟨?_, hkp.trans0 k4⟩
    have : (ups l a (hgt l a)).find? (isP l b) = some (up l a k) := find_split (ups_at hk) (fun j y hj hy => by
      rw [ups_at (by omega)] at hy
      rw [← Option.some.inj hy]; exact hall j hj) hi
    simp [comP, h1, h2, this]
  · have hi' : isP l b (up l a k) = false := by simpa using hi
    have hkn : k < hgt l a := by
      rcases Nat.lt_or_ge k (hgt l a) with h3 | h3
      · exact h3
      · have : k = hgt l a := by omega
        rw [this, ht.top, isP_root h h2] at hi'; cases hi'
    simp [hi', g0, g1, g2]
    refine cl_of (rparent_spec pv l (up l a k) w4 hl4 (by omega)) ?_
    rintro v w5 ⟨rfl, k5⟩
    simp [g0, g2]
    refine ⟨hgt l a - (k + 1), by omega, k + 1, rfl, by omega, rfl, fun j hj => ?_, (hkp.trans0 k4).trans0 k5⟩
    rcases Nat.lt_or_ge j k with h3 | h3
    · exact hall j h3
    · have : j = k := by omega
      subst this; exact hi'
end Go.Proofs.Ytcpmeficpboklaa
