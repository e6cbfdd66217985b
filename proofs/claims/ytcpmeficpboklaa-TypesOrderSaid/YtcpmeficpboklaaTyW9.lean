/-
  A part of the proofs of this seat's statements (TyW9); no conditions beyond those each theorem names.
-/
import Derived.Test.YtcpmeficpboklaaTyW8
import Derived.Lib.SlicesS
set_option maxRecDepth 100000
set_option linter.unusedSimpArgs false
set_option linter.unusedVariables false
namespace Go.Proofs.Ytcpmeficpboklaa
open Go Go.W Go.Ty
theorem slcon_spec (v : Value) (zs : List ByteArray) (x : ByteArray) (w : World) (h : Own w v 9 1 es zs) (hne : zs ≠ []) :
    Calls Try.prog 36 [v, .string x].toArray w fun e w' => ∃ v, e = .returned v ∧ v = .bool (decide (x ∈ zs)) ∧ Kp [] w w' := by
  have h0 := h
  rcases h with ⟨_, rfl⟩ | ⟨g, cap, cur, junk, rfl, hh, hc, hj, hle, hm⟩
  · exact absurd rfl hne
  refine Calls.mono (Try.slices_Contains_string g 0 zs.length cap zs x w (Nat.le_refl _) (by unfold maxLen at hm; omega) (fun j hj' => ?_)) ?_
  · have := h0.cell es_len (k := j) (x := zs[j]) (List.getElem?_eq_getElem hj') (o := 0) (by omega)
    simp only [blk_slice, Nat.mul_one, Nat.add_zero] at this
    rw [Nat.zero_add, this]
    simp [es, List.getD, List.getElem?_eq_getElem hj']
  · rintro e w' ⟨rfl, rfl⟩
    refine ⟨_, rfl, ?_, Kp.refl _ _⟩
    rw [List.take_length]
    congr 1
    exact Bool.eq_iff_iff.2 (by rw [Lib.containsS_iff]; simp)
def isB (l : List Pr) (a b : ByteArray) (n : Nat) : Bool := hasB l a && hasB l b && decide (b ∈ ups l a n)
theorem is_spec (f m : Nat) (l : List Pr) (a b : ByteArray) (n : Nat) (w : World) (h : FA w f m l) (hsz : Sz l) (ha : a.size ≤ maxLen) (hb : b.size ≤ maxLen) (hn : n ≤ 1000000) (ht : hasB l a = true → Top l a n) :
    Calls Try.prog 23 [.pointer (some ⟨f, 0, none⟩), .string a, .string b].toArray w fun e w' => ∃ v, e = .returned v ∧ v = .bool (isB l a b n) ∧ Kp [] w w' := by
  refine enter Try.func23 mixed low23 (Nat.le_of_ble_eq_true rfl) ?_
  simp only [L23]
  simp
  refine cl_of (has_spec f m l a w h ha) ?_
  rintro v w1 ⟨rfl, k1⟩
  by_cases h1 : hasB l a = true
  case neg =>
    have h1' : hasB l a = false := by simpa using h1
    simp [h1']
    exact ⟨by simp [isB, h1'], k1⟩
  simp [h1]
  refine cl_of (has_spec f m l b w1 (h.kp0 k1) hb) ?_
  rintro v w2 ⟨rfl, k2⟩
  by_cases h2 : hasB l b = true
  case neg =>
    have h2' : hasB l b = false := by simpa using h2
    simp [h1, h2']
    exact ⟨by simp [isB, h2'], k1.trans0 k2⟩
  have k12 := k1.trans0 k2
  simp [h1, h2]
  refine cl_of (above_spec f m l a n w2 (h.kp0 k12) hsz ha hn (ht h1)) ?_
  rintro v w3 h3
  simp [h1, h2]
  refine cl_of (slcon_spec v (ups l a n) b w3 h3.own (by simp [ups])) ?_
  rintro v2 w4 ⟨rfl, k4⟩
  simp [h1, h2]
  exact ⟨by simp [isB, h1, h2], (k12.trans0 h3.kp).trans0 k4⟩
end Go.Proofs.Ytcpmeficpboklaa
