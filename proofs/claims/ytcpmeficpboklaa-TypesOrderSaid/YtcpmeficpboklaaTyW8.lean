/-
  A part of the proofs of this seat's statements (TyW8); no conditions beyond those each theorem names.
-/
import Derived.Test.YtcpmeficpboklaaTyW7
set_option maxRecDepth 100000
set_option linter.unusedSimpArgs false
set_option linter.unusedVariables false
namespace Go.Proofs.Ytcpmeficpboklaa
open Go Go.W Go.Ty
/-- k parents up. -/
def up (l : List Pr) (t : ByteArray) : Nat → ByteArray
  | 0 => t
  | k + 1 => gm l (up l t k)
theorem up_sz {l : List Pr} (h : Sz l) {t : ByteArray} (ht : t.size ≤ maxLen) : ∀ k, (up l t k).size ≤ maxLen
  | 0 => ht
  | k + 1 => gm_sz h _
/-- It comes to the root behind n parents. -/
structure Top (l : List Pr) (t : ByteArray) (n : Nat) : Prop where
  top : up l t n = rootS
  low : ∀ k, k < n → up l t k ≠ rootS
def ups (l : List Pr) (t : ByteArray) (n : Nat) : List ByteArray := (List.range (n + 1)).map (up l t)
theorem above_spec (f b : Nat) (l : List Pr) (t : ByteArray) (n : Nat) (w : World) (h : FA w f b l) (hsz : Sz l) (hx : t.size ≤ maxLen) (hn : n ≤ 1000000) (ht : Top l t n) :
    Calls Try.prog 37 [.pointer (some ⟨f, 0, none⟩), .string t].toArray w fun e w' => ∃ v, e = .returned v ∧ New w (Star (OwnA v 9 1 es (ups l t n)) Emp) w' := by
  refine enter Try.func37 mixed low37 (Nat.le_of_ble_eq_true rfl) ?_
  simp only [L37]
  simp
  have h0 : New w (Star (OwnA (.slice (some ⟨w.heap.size, 0, none⟩) 1 1) 9 1 es [t]) Emp) (w.alloc (.cells #[.string t] 9)) := New.made (n := 1) (x := t) (z := es t) Lcl.emp (New.emp (Kp.refl _ _)) rfl es_len (by unfold maxLen; omega)
  refine loop_inv (fun m ρ w1 => ∃ k, m = n - k ∧ k ≤ n ∧ ρ 0 = .pointer (some ⟨f, 0, none⟩) ∧ ρ 1 = .string (up l t k) ∧ New w (Star (OwnA (ρ 5) 9 1 es (ups l t k)) Emp) w1) n
    ⟨0, by omega, by omega, by simp, by simp [up], h0⟩ ?_
  rintro m ρ w1 ⟨k, rfl, hk, g0, g1, hnw⟩
  have h1 := h.kp0 hnw.kp
  simp [g1, beq_root]
  by_cases hr : up l t k = rootS
  · have hkn : k = n := by
      rcases Nat.lt_or_ge k n with h2 | h2
      · exact absurd hr (ht.low k h2)
      · omega
    subst hkn
    simp [hr]
    exact hnw
  · have hkn : k < n := by
      rcases Nat.lt_or_ge k n with h2 | h2
      · exact h2
      · have : k = n := by omega
        subst this; exact absurd ht.top hr
    simp [hr, g0, g1, cell_blk h1.obj]
    refine ms_get h1.map (up_sz hsz hx k) ?_
    simp
    have hul : (ups l t k).length = k + 1 := by simp [ups]
    refine New.append (xs := [gm l (up l t k)]) Lcl.emp (hnw.kp0 (Lcl.own.star Lcl.emp) ((Kp.refl [] w1).alloc (.cells #[.string (gm l (up l t k))] 9))) es_len es_one sl_34 rfl (fun j u hj => ?_) (by rw [hul]; omega) (by rw [hul]; unfold maxLen; omega) ?_
    · rw [addr_add, Nat.zero_add, cell_blk alloc_new]
      simpa [es] using hj
    intro v' w3 h3
    simp [g0]
    refine ⟨n - (k + 1), by omega, k + 1, rfl, by omega, rfl, ?_⟩
    have e : ups l t (k + 1) = ups l t k ++ [gm l (up l t k)] := by
      unfold ups
      rw [List.range_succ (n := k + 1), List.map_append]
      rfl
    rw [e]; exact h3
end Go.Proofs.Ytcpmeficpboklaa
