/-
  A part of the proofs of this seat's statements (TyW3); no conditions beyond those each theorem names.
-/
import Derived.Test.YtcpmeficpboklaaTyW2
set_option maxRecDepth 100000
set_option linter.unusedSimpArgs false
set_option linter.unusedVariables false
namespace Go.Proofs.Ytcpmeficpboklaa
open Go Go.W Go.Ty
def chN (s : ByteArray) (i : Nat) : UInt8 := (s[i]?).getD 0
theorem chN_at {s : ByteArray} {i : Nat} (h : i < s.size) : s[i]? = some (chN s i) := by
  have : s[i]? = some s[i] := getElem?_pos s i h
  simp [chN, this]
def headB (s : ByteArray) : Bool := decide (1 ≤ s.size) && decide (s.size ≤ 32) && lowB (chN s 0).toNat && !decide (s ∈ resL)
def charsB (s : ByteArray) : Bool := decide (∀ i, i < s.size → chB (chN s i).toNat = true)
def nameB (s : ByteArray) : Bool := headB s && charsB s
theorem rname_spec (s : ByteArray) (w : World) : Calls Try.prog 33 [.string s].toArray w fun e w' => ∃ v, e = .returned v ∧ v = .bool (nameB s) ∧ Kp [] w w' := by
  refine enter Try.func33 mixed low33 (Nat.le_of_ble_eq_true rfl) ?_
  simp only [L33]
  by_cases h1 : s.size < 1
  · have h1' : (s.size : Int) < 1 := by omega
    have h1n : ¬ 1 ≤ s.size := by omega
    simp [h1']
    exact ⟨by simp [nameB, headB, h1n], Kp.refl _ _⟩
  have h1' : ¬ (s.size : Int) < 1 := by omega
  by_cases h2 : 32 < s.size
  · have h2' : (32 : Int) < s.size := by omega
    have h2n : ¬ s.size ≤ 32 := by omega
    simp [h1', h2']
    exact ⟨by simp [nameB, headB, h2n], Kp.refl _ _⟩
  have h2' : ¬ (32 : Int) < s.size := by omega
  have hc0 := chN_at (s := s) (i := 0) (by omega)
  obtain ⟨c0, hc⟩ : ∃ c0, c0 = chN s 0 := ⟨_, rfl⟩
  rw [← hc] at hc0
  by_cases h3 : c0.toNat < 97
  · have h3' : (c0.toNat : Int) < 97 := by omega
    have h3n : ¬ 97 ≤ c0.toNat := by omega
    simp [h1', h2', hc0, h3']
    exact ⟨by simp [nameB, headB, ← hc, lowB, h3n], Kp.refl _ _⟩
  have h3' : ¬ (c0.toNat : Int) < 97 := by omega
  by_cases h4 : 122 < c0.toNat
  · have h4' : (122 : Int) < c0.toNat := by omega
    have h4n : ¬ c0.toNat ≤ 122 := by omega
    simp [h1', h2', hc0, h3', h4']
    exact ⟨by simp [nameB, headB, ← hc, lowB, h4n], Kp.refl _ _⟩
  have h4' : ¬ (122 : Int) < c0.toNat := by omega
  simp [h1', h2', hc0, h3', h4']
  refine cl_of (reserved_spec s w) ?_
  rintro v w1 ⟨rfl, k1⟩
  by_cases h5 : s ∈ resL
  · simp [h5]
    exact ⟨by simp [nameB, headB, h5], k1⟩
  simp [h5]
  have hh : headB s = true := by simp [headB, ← hc, lowB, h5]; omega
  refine loop_inv (fun n ρ w2 => ∃ k, n = s.size - k ∧ k ≤ s.size ∧ ρ 0 = .string s ∧ ρ 3 = .int .i64 (k : Nat) ∧ (∀ j, j < k → chB (chN s j).toNat = true) ∧ Kp [] w w2) s.size
    ⟨0, by omega, by omega, by simp, by simp, by simp, k1⟩ ?_
  rintro n ρ w2 ⟨k, rfl, hk, g0, g3, hall, hkp⟩
  simp [g0, g3]
  refine cd_split (fun hlt => ?_) (fun hge => ?_)
  · have hlt' : k < s.size := by simp at hlt; omega
    have hck := chN_at hlt'
    obtain ⟨c, hc'⟩ : ∃ c, c = chN s k := ⟨_, rfl⟩
    rw [← hc'] at hck
    have fin : ∀ w3, w3 = w2 → chB c.toNat = true → (∃ m, m < s.size - k ∧ ∃ k', m = s.size - k' ∧ k' ≤ s.size ∧ ((k : Int) + 1 = (k' : Nat)) ∧ (∀ j, j < k' → chB (chN s j).toNat = true) ∧ Kp [] w w3) := fun w3 hw hcb => by
      subst hw
      refine ⟨s.size - (k + 1), by omega, k + 1, rfl, by omega, by omega, fun j hj => ?_, hkp⟩
      rcases Nat.lt_or_ge j k with h | h
      · exact hall j h
      · have : j = k := by omega
        subst this; rw [← hc']; exact hcb
    have hwr : IntKind.i64.wrap ((k : Int) + 1) = (k : Int) + 1 := wrap_i64 (by omega) (by omega)
    obtain ⟨x, hx⟩ : ∃ x, x = c.toNat := ⟨_, rfl⟩
    rw [← hx] at fin
    by_cases t1 : x < 97
    · have t1' : (x : Int) < 97 := by omega
      by_cases t2 : x < 48
      · have t2' : (x : Int) < 48 := by omega
        by_cases t3 : x = 45
        · subst t3
          simp [g0, g3, hck, ← hx, hwr]
          exact fin _ rfl (by decide)
        · have t3' : ((x : Int) != 45) = true := by simp; omega
          have t4' : ((x : Int) != 95) = true := by simp; omega
          simp [g0, g3, hck, ← hx, t1', t2', t3', t4']
          refine ⟨?_, hkp⟩
          have : charsB s = false := by
            simp only [charsB, decide_eq_false_iff_not]
            intro h
            have h9 := h k hlt'
            rw [← hc', ← hx] at h9
            simp [chB, lowB] at h9; omega
          simp [nameB, this]
      · have t2' : ¬ (x : Int) < 48 := by omega
        by_cases t5 : 57 < x
        · have t5' : (57 : Int) < x := by omega
          have t3' : ((x : Int) != 45) = true := by simp; omega
          by_cases t4 : x = 95
          · subst t4
            simp [g0, g3, hck, ← hx, hwr]
            exact fin _ rfl (by decide)
          · have t4' : ((x : Int) != 95) = true := by simp; omega
            simp [g0, g3, hck, ← hx, t1', t2', t5', t3', t4']
            refine ⟨?_, hkp⟩
            have : charsB s = false := by
              simp only [charsB, decide_eq_false_iff_not]
              intro h
              have h9 := h k hlt'
              rw [← hc', ← hx] at h9
              simp [chB, lowB] at h9; omega
            simp [nameB, this]
        · have t5' : ¬ (57 : Int) < x := by omega
          simp [g0, g3, hck, ← hx, t1', t2', t5', hwr]
          exact fin _ rfl (by simp [chB, lowB]; omega)
    · have t1' : ¬ (x : Int) < 97 := by omega
      by_cases t6 : 122 < x
      · have t6' : (122 : Int) < x := by omega
        have t2' : ¬ (x : Int) < 48 := by omega
        have t5' : (57 : Int) < x := by omega
        have t3' : ((x : Int) != 45) = true := by simp; omega
        have t4' : ((x : Int) != 95) = true := by simp; omega
        simp [g0, g3, hck, ← hx, t1', t6', t2', t5', t3', t4']
        refine ⟨?_, hkp⟩
        have : charsB s = false := by
          simp only [charsB, decide_eq_false_iff_not]
          intro h
          have h9 := h k hlt'
          rw [← hc', ← hx] at h9
          simp [chB, lowB] at h9; omega
        simp [nameB, this]
      · have t6' : ¬ (122 : Int) < x := by omega
        simp [g0, g3, hck, ← hx, t1', t6', hwr]
        exact fin _ rfl (by simp [chB, lowB]; omega)
  · have hge' : k = s.size := by simp at hge; omega
    subst hge'
    simp
    refine ⟨?_, hkp⟩
    have : charsB s = true := by simpa [charsB] using hall
    simp [nameB, hh, this]
end Go.Proofs.Ytcpmeficpboklaa
