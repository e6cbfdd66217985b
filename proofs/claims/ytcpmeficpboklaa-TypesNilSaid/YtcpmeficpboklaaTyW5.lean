/-
  A part of the proofs of this seat's statements (TyW5); no conditions beyond those each theorem names.
-/
import Derived.Test.YtcpmeficpboklaaTyW4
set_option maxRecDepth 100000
set_option linter.unusedSimpArgs false
set_option linter.unusedVariables false
namespace Go.Proofs.Ytcpmeficpboklaa
open Go Go.W Go.Ty
theorem chN_list {s : ByteArray} {i : Nat} (h : i < s.size) : s.data.toList[i]? = some (chN s i) := by
  have h1 := chN_at h
  have h2 : s.data[i]? = some s.data[i] := Array.getElem?_eq_getElem h
  rw [Array.getElem?_toList, h2]
  have h3 : s[i]? = some s[i] := getElem?_pos s i h
  rw [h3] at h1
  exact h1
theorem word_name {s : ByteArray} (h : charsB s = true) (h1 : 1 ≤ s.size) : wordB s = decide (s ∈ resL) := by
  have hc : ∀ i, i < s.size → chB (chN s i).toNat = true := by simpa [charsB] using h
  have h32 : 32 ∉ s.data.toList := fun hm => by
    obtain ⟨i, hi⟩ := List.getElem?_of_mem hm
    have hil : i < s.size := (List.getElem?_eq_some_iff.1 hi).1
    have := hc i hil
    rw [chN_list hil] at hi
    rw [Option.some.inj hi] at this
    exact absurd this (by decide)
  have h0 : s.data.toList ≠ [] := fun e => by
    have : s.data.toList.length = s.size := rfl
    rw [e] at this; simp at this; omega
  simp [wordB, h0, h32]
theorem name_spec (s : ByteArray) (w : World) (hm : HM w) (hs : s.size ≤ 9223372036854775807) : Calls Try.prog 31 [.string s].toArray w fun e w' => ∃ v, e = .returned v ∧ v = .bool (nameB s) ∧ Kp [] w w' := by
  refine enter Try.func31 mixed low31 (Nat.le_of_ble_eq_true rfl) ?_
  simp only [L31]
  by_cases h1 : s.size < 1
  · have h1' : (s.size : Int) < 1 := by omega
    have h1n : ¬ 1 ≤ s.size := by omega
    simp [h1']
    exact ⟨by simp [nameB, headB, h1n], Kp.refl _ _⟩
  have h1' : ¬ (s.size : Int) < 1 := by omega
  by_cases h2 : 32 < s.size
  · have h2' : (32 : Int) < s.size := by omega
    have h2n : ¬ s.size ≤ 32 := by omega
    simp [h1', h2']
    exact ⟨by simp [nameB, headB, h2n], Kp.refl _ _⟩
  have h2' : ¬ (32 : Int) < s.size := by omega
  have hc0 := chN_at (s := s) (i := 0) (by omega)
  obtain ⟨c0, hc⟩ : ∃ c0, c0 = chN s 0 := ⟨_, rfl⟩
  rw [← hc] at hc0
  simp [h1', h2', hc0]
  refine cl_of (lower_spec c0.toNat w) ?_
  rintro v w1 ⟨rfl, k1⟩
  by_cases h3 : lowB c0.toNat = true
  case neg =>
    have h3' : lowB c0.toNat = false := by simpa using h3
    simp [h1', h2', h3']
    exact ⟨by simp [nameB, headB, ← hc, h3'], k1⟩
  simp [h1', h2', h3]
  refine cl_of (word_spec s w1 (hm.kp k1) (by omega)) ?_
  rintro v w2 ⟨rfl, k2⟩
  have hle : 1 ≤ s.size := by omega
  have hle2 : s.size ≤ 32 := by omega
  by_cases h5 : wordB s = true
  · simp [h1', h2', h5]
    refine ⟨?_, k1.trans0 k2⟩
    have : s ∈ resL := by
      simp only [wordB, Bool.and_eq_true, decide_eq_true_eq] at h5
      exact h5.2
    simp [nameB, headB, this]
  have h5' : wordB s = false := by simpa using h5
  simp [h1', h2', h5']
  have hfin : charsB s = nameB s := by
    cases hcb : charsB s with
    | false => simp [nameB, hcb]
    | true =>
      have h6 := word_name hcb hle
      rw [h5'] at h6
      have h7 : s ∉ resL := by simpa using h6.symm
      simp [nameB, headB, hcb, ← hc, h3, h7, hle, hle2]
  refine range_loop (n := s.size) (by omega) (fun k ρ w3 => ρ 0 = .string s ∧ (∀ j, j < k → chB (chN s j).toNat = true) ∧ Kp [] w w3) (by simp) (by simp) ⟨by simp, by simp, k1.trans0 k2⟩ (by decide)
    (fun _ _ _ _ h => by simpa using h) (fun _ _ _ _ h => by simpa using h) ?_ ?_
  · rintro k ρ w3 hlt' hcn hlim ⟨g0, hall, hkp⟩
    have hck := chN_at hlt'
    obtain ⟨c, hc'⟩ : ∃ c, c = chN s k := ⟨_, rfl⟩
    rw [← hc'] at hck
    simp [g0, hcn, hck]
    refine cl_of (lower_spec c.toNat w3) ?_
    rintro v w4 ⟨rfl, k4⟩
    have hk4 := hkp.trans0 k4
    obtain ⟨x, hx⟩ : ∃ x, x = c.toNat := ⟨_, rfl⟩
    have good : chB x = true → (∀ j, j < k + 1 → chB (chN s j).toNat = true) := fun hcb j hj => by
      rcases Nat.lt_or_ge j k with h | h
      · exact hall j h
      · have : j = k := by omega
        subst this; rw [← hc', ← hx]; exact hcb
    have bad : chB x = false → nameB s = false := fun hcb => by
      rw [← hfin]
      simp only [charsB, decide_eq_false_iff_not]
      intro h
      have h9 := h k hlt'
      rw [← hc', ← hx, hcb] at h9
      cases h9
    rw [← hx]
    by_cases t0 : lowB x = true
    · simp [t0, hcn, hlim, g0]
      exact ⟨good (by simp [chB, t0]), hk4⟩
    have t0' : lowB x = false := by simpa using t0
    by_cases t2 : x < 48
    · have t2' : (x : Int) < 48 := by omega
      by_cases t3 : x = 45
      · subst t3
        simp [t0', hcn, hlim, g0, ← hx]
        exact ⟨good (by decide), hk4⟩
      · have t3' : ((x : Int) != 45) = true := by simp; omega
        have t4' : ((x : Int) != 95) = true := by simp; omega
        simp [t0', t2', t3', t4', ← hx, hcn, hlim, g0]
        exact ⟨bad (by simp [chB, t0']; omega), hk4⟩
    · have t2' : ¬ (x : Int) < 48 := by omega
      by_cases t5 : 57 < x
      · have t5' : (57 : Int) < x := by omega
        have t3' : ((x : Int) != 45) = true := by simp; omega
        by_cases t4 : x = 95
        · subst t4
          simp [t0', hcn, hlim, g0, ← hx]
          exact ⟨good (by decide), hk4⟩
        · have t4' : ((x : Int) != 95) = true := by simp; omega
          simp [t0', t2', t5', t3', t4', ← hx, hcn, hlim, g0]
          exact ⟨bad (by simp [chB, t0']; omega), hk4⟩
      · have t5' : ¬ (57 : Int) < x := by omega
        simp [t0', t2', t5', ← hx, hcn, hlim, g0]
        exact ⟨good (by simp [chB]; omega), hk4⟩
  · rintro ρ w3 ⟨g0, hall, hkp⟩
    simp
    refine ⟨?_, hkp⟩
    rw [← hfin]
    simpa [charsB] using hall
end Go.Proofs.Ytcpmeficpboklaa
