/-
  A part of the proofs of this seat's statements (BdXA); no conditions beyond those each theorem names.
-/
import Derived.Test.YtkojilpjpdpmaaaRBdLP
set_option maxRecDepth 100000
set_option linter.unusedSimpArgs false
set_option linter.unusedVariables false
namespace Go.Proofs.YtkojilpjpdpmaaaR
open Go Go.W Go.Bd Go.Maps
theorem ints_spec {w : World} (u v : Value) (xs ys : List Int) (hu : Vw w u iv xs) (hv : Vw w v iv ys) (hx : xs.length ≤ 1000000) (hy : ys.length ≤ 1000000) :
    Calls Try.prog 36 [u, v].toArray w fun e w' => ∃ x, e = .returned x ∧ x = .bool (decide (xs = ys)) ∧ Kp [] w w' := by
  refine enter Try.func36 mixed low36 (Nat.le_of_ble_eq_true rfl) ?_
  simp only [L36]
  by_cases hl : xs.length = ys.length
  case neg =>
    have hne : ((xs.length : Int) != ys.length) = true := by simp; omega
    have : ¬ xs = ys := fun e => hl (by rw [e])
    simp [hu.len, hv.len, hne, this]
    exact Kp.refl _ _
  have hne : ((xs.length : Int) != ys.length) = false := by simp; omega
  simp [hu.len, hv.len, hne]
  refine range_loop (n := xs.length) (by omega) (fun k ρ w' => ρ 0 = u ∧ ρ 1 = v ∧ xs.take k = ys.take k ∧ Kp [] w w') (by simp) (by simp)
    ⟨by simp, by simp, by simp, Kp.refl _ _⟩ (by decide) (fun _ _ _ _ h => by simpa using h) (fun _ _ _ _ h => by simpa using h) ?_ ?_
  · rintro k ρ w4 hk hc hlim ⟨g0, g1, ht, k4⟩
    have hu4 := hu.kp0 k4
    have hv4 := hv.kp0 k4
    obtain ⟨a, ha⟩ : ∃ a, xs[k]? = some a := ⟨_, List.getElem?_eq_getElem hk⟩
    obtain ⟨b, hb⟩ : ∃ b, ys[k]? = some b := ⟨_, List.getElem?_eq_getElem (by omega)⟩
    simp (disch := omega) [g0, g1, hc, hlim, hu4.idx, hv4.idx, iv_cell hu4 ha, iv_cell hv4 hb]
    by_cases hab : a = b
    · subst hab
      simp [g0, g1, hc, hlim]
      refine ⟨?_, k4.drew⟩
      rw [List.take_add_one, List.take_add_one, ht, ha, hb]
    · have : ¬ xs = ys := fun e => hab (by rw [e, hb] at ha; exact (Option.some.inj ha).symm)
      have hn' : (a != b) = true := by simp [hab]
      rw [hn']
      simp [this]
      exact k4.drew
  · rintro ρ w4 ⟨g0, g1, ht, k4⟩
    have : xs = ys := by rw [List.take_of_length_le (Nat.le_refl _), List.take_of_length_le (by omega)] at ht; exact ht
    simp [this]
    exact k4
theorem fact_neq {x y : Operand} {w : World} {K : Kont Value} {a b : Fc} (h : K.run (.bool !(decide (a = b)))) :
    @rdH Try.prog (do eqGuard .neq 77 x y (.agg #[.int .i64 (a.1 : Nat), .int .i64 (a.2 : Nat)]) (.agg #[.int .i64 (b.1 : Nat), .int .i64 (b.2 : Nat)]); binOp .neq 77 (.agg #[.int .i64 (a.1 : Nat), .int .i64 (a.2 : Nat)]) (.agg #[.int .i64 (b.1 : Nat), .int .i64 (b.2 : Nat)])) w K :=
  rd_neq (k := .i64) (la := [(a.1 : Int), (a.2 : Int)]) (lb := [(b.1 : Int), (b.2 : Int)]) Try.eqGuardType77 (equal_struct (by kernel_rfl) Try.stoodInHeld77 (by kernel_rfl) (by kernel_rfl) (by kernel_rfl)) (by
    have e : ([(a.1 : Int), (a.2 : Int)] == [(b.1 : Int), (b.2 : Int)]) = decide (a = b) := by
      rw [Bool.eq_iff_iff, beq_iff_eq, decide_eq_true_eq]
      constructor
      · intro h
        simp at h
        exact Prod.ext (by omega) (by omega)
      · rintro rfl; rfl
    rw [e]
    exact h)
theorem facts_spec {w : World} (u v : Value) (xs ys : List Fc) (hu : Vw w u fv xs) (hv : Vw w v fv ys) (hx : xs.length ≤ 1000000) (hy : ys.length ≤ 1000000) :
    Calls Try.prog 41 [u, v].toArray w fun e w' => ∃ x, e = .returned x ∧ x = .bool (decide (xs = ys)) ∧ Kp [] w w' := by
  refine enter Try.func41 mixed low41 (Nat.le_of_ble_eq_true rfl) ?_
  simp only [L41]
  by_cases hl : xs.length = ys.length
  case neg =>
    have hne : ((xs.length : Int) != ys.length) = true := by simp; omega
    have : ¬ xs = ys := fun e => hl (by rw [e])
    simp [hu.len, hv.len, hne, this]
    exact Kp.refl _ _
  have hne : ((xs.length : Int) != ys.length) = false := by simp; omega
  simp [hu.len, hv.len, hne]
  refine range_loop (n := xs.length) (by omega) (fun k ρ w' => ρ 0 = u ∧ ρ 1 = v ∧ xs.take k = ys.take k ∧ Kp [] w w') (by simp) (by simp)
    ⟨by simp, by simp, by simp, Kp.refl _ _⟩ (by decide) (fun _ _ _ _ h => by simpa using h) (fun _ _ _ _ h => by simpa using h) ?_ ?_
  · rintro k ρ w4 hk hc hlim ⟨g0, g1, ht, k4⟩
    have hu4 := hu.kp0 k4
    have hv4 := hv.kp0 k4
    obtain ⟨a, ha⟩ : ∃ a, xs[k]? = some a := ⟨_, List.getElem?_eq_getElem hk⟩
    obtain ⟨b, hb⟩ : ∃ b, ys[k]? = some b := ⟨_, List.getElem?_eq_getElem (by omega)⟩
    simp (disch := omega) [g0, g1, hc, hlim, hu4.idx, hv4.idx, hu4.cells fv_len ha, hv4.cells fv_len hb, fv]
    refine fact_neq ?_
    by_cases hab : a = b
    · subst hab
      simp [g0, g1, hc, hlim]
      refine ⟨?_, k4.drew⟩
      rw [List.take_add_one, List.take_add_one, ht, ha, hb]
    · have : ¬ xs = ys := fun e => hab (by rw [e, hb] at ha; exact (Option.some.inj ha).symm)
      simp [hab, this]
      exact k4.drew
  · rintro ρ w4 ⟨g0, g1, ht, k4⟩
    have : xs = ys := by rw [List.take_of_length_le (Nat.le_refl _), List.take_of_length_le (by omega)] at ht; exact ht
    simp [this]
    exact k4
end Go.Proofs.YtkojilpjpdpmaaaR
