/-
  A part of the proofs of this seat's statements (BdW7); no conditions beyond those each theorem names.
-/
import Derived.Test.YtkojilpjpdpmaaaRBdW6
import Derived.Test.YtkojilpjpdpmaaaRBdC
set_option maxRecDepth 100000
set_option linter.unusedSimpArgs false
set_option linter.unusedVariables false
namespace Go.Proofs.YtkojilpjpdpmaaaR
open Go Go.W Go.Bd Go.Maps
/-! ### The operations by name -/
section
variable {p : Value} {w : World} {R : Value → World → Prop}
theorem not_of {f : Int} (h : Calls Try.prog 48 [p, .int .i64 2, .int .i64 f, .int .i64 1].toArray w fun e w' => ∃ v, e = .returned v ∧ R v w') (hR : ∀ v w', R v w' → ∃ a b, v = .tuple #[a, b]) :
    Calls Try.prog 13 [p, .int .i64 f].toArray w fun e w' => ∃ v, e = .returned v ∧ R v w' := by
  refine enter Try.func13 mixed low13 (Nat.le_of_ble_eq_true rfl) ?_
  simp only [L13]
  simp
  refine cl_of h ?_
  intro v w2 h2
  obtain ⟨a, b, rfl⟩ := hR v w2 h2
  simp
  exact h2
theorem and_of {f g : Int} (h : Calls Try.prog 48 [p, .int .i64 0, .int .i64 f, .int .i64 g].toArray w fun e w' => ∃ v, e = .returned v ∧ R v w') (hR : ∀ v w', R v w' → ∃ a b, v = .tuple #[a, b]) :
    Calls Try.prog 23 [p, .int .i64 f, .int .i64 g].toArray w fun e w' => ∃ v, e = .returned v ∧ R v w' := by
  refine enter Try.func23 mixed low23 (Nat.le_of_ble_eq_true rfl) ?_
  simp only [L23]
  simp
  refine cl_of h ?_
  intro v w2 h2
  obtain ⟨a, b, rfl⟩ := hR v w2 h2
  simp
  exact h2
theorem or_of {f g : Int} (h : Calls Try.prog 48 [p, .int .i64 1, .int .i64 f, .int .i64 g].toArray w fun e w' => ∃ v, e = .returned v ∧ R v w') (hR : ∀ v w', R v w' → ∃ a b, v = .tuple #[a, b]) :
    Calls Try.prog 14 [p, .int .i64 f, .int .i64 g].toArray w fun e w' => ∃ v, e = .returned v ∧ R v w' := by
  refine enter Try.func14 mixed low14 (Nat.le_of_ble_eq_true rfl) ?_
  simp only [L14]
  simp
  refine cl_of h ?_
  intro v w2 h2
  obtain ⟨a, b, rfl⟩ := hR v w2 h2
  simp
  exact h2
theorem xor_of {f g : Int} (h : Calls Try.prog 48 [p, .int .i64 2, .int .i64 f, .int .i64 g].toArray w fun e w' => ∃ v, e = .returned v ∧ R v w') (hR : ∀ v w', R v w' → ∃ a b, v = .tuple #[a, b]) :
    Calls Try.prog 15 [p, .int .i64 f, .int .i64 g].toArray w fun e w' => ∃ v, e = .returned v ∧ R v w' := by
  refine enter Try.func15 mixed low15 (Nat.le_of_ble_eq_true rfl) ?_
  simp only [L15]
  simp
  refine cl_of h ?_
  intro v w2 h2
  obtain ⟨a, b, rfl⟩ := hR v w2 h2
  simp
  exact h2
theorem exists_of {f : Int} {u : Value} (h : Calls Try.prog 49 [p, .int .i64 1, .int .i64 f, u].toArray w fun e w' => ∃ v, e = .returned v ∧ R v w') (hR : ∀ v w', R v w' → ∃ a b, v = .tuple #[a, b]) :
    Calls Try.prog 16 [p, .int .i64 f, u].toArray w fun e w' => ∃ v, e = .returned v ∧ R v w' := by
  refine enter Try.func16 mixed low16 (Nat.le_of_ble_eq_true rfl) ?_
  simp only [L16]
  simp
  refine cl_of h ?_
  intro v w2 h2
  obtain ⟨a, b, rfl⟩ := hR v w2 h2
  simp
  exact h2
theorem forall_of {f : Int} {u : Value} (h : Calls Try.prog 49 [p, .int .i64 0, .int .i64 f, u].toArray w fun e w' => ∃ v, e = .returned v ∧ R v w') (hR : ∀ v w', R v w' → ∃ a b, v = .tuple #[a, b]) :
    Calls Try.prog 43 [p, .int .i64 f, u].toArray w fun e w' => ∃ v, e = .returned v ∧ R v w' := by
  refine enter Try.func43 mixed low43 (Nat.le_of_ble_eq_true rfl) ?_
  simp only [L43]
  simp
  refine cl_of h ?_
  intro v w2 h2
  obtain ⟨a, b, rfl⟩ := hR v w2 h2
  simp
  exact h2
theorem optV_tup (r : Option Nat) : ∃ a b, optV r = .tuple #[a, b] := by cases r <;> exact ⟨_, _, rfl⟩
theorem noV_tup (c : Int) : ∃ a b, noV c = .tuple #[a, b] := ⟨_, _, rfl⟩
end
theorem times_spec (n p : Nat) (w : World) (hn : n ≤ many) (hp : p ≤ 100000) : Calls Try.prog 55 [.int .i64 (n : Nat), .int .i64 (p : Nat)].toArray w fun e w' => ∃ v, e = .returned v ∧ v = .int .i64 ((min (n * 2 ^ p) many : Nat) : Int) ∧ Kp [] w w' := by
  refine enter Try.func55 mixed low55 (Nat.le_of_ble_eq_true rfl) ?_
  simp only [L55]
  simp
  have hm : many = 1099511627777 := rfl
  refine loop_inv (fun q ρ w1 => ∃ x : Nat, ρ 0 = .int .i64 (x : Nat) ∧ ρ 1 = .int .i64 (q : Nat) ∧ x ≤ many ∧ q ≤ p ∧ min (x * 2 ^ q) many = min (n * 2 ^ p) many ∧ w1 = w) p
    ⟨n, by simp, by simp, hn, Nat.le_refl _, rfl, rfl⟩ ?_
  rintro q ρ w1 ⟨x, g0, g1, hx, hq, he, rfl⟩
  by_cases h1 : q = 0
  · subst h1
    simp [g0, g1]
    refine ⟨?_, Kp.refl _ _⟩
    rw [← he]; simp; omega
  have h1' : (0 : Int) < q := by omega
  have h1'' : 0 < q := by omega
  by_cases h2 : x = 0
  · subst h2
    simp [g0, g1, h1', h1'']
    refine ⟨?_, Kp.refl _ _⟩
    rw [← he]; simp
  have h2' : (0 : Int) < x := by omega
  have h2'' : 0 < x := by omega
  have hpq : 2 ≤ 2 ^ q := by
    obtain ⟨e, rfl⟩ : ∃ e, q = e + 1 := ⟨q - 1, by omega⟩
    have := Nat.two_pow_pos e
    rw [Nat.pow_succ]; omega
  by_cases h3 : x < many
  · have h3' : (x : Int) < 1099511627777 := by omega
    have h3'' : x < 1099511627777 := by omega
    have e1 : min (2 * (x : Int)) 1099511627777 = ((min (2 * x) many : Nat) : Int) := by omega
    have e2 : (q : Int) - 1 = ((q - 1 : Nat) : Int) := by omega
    simp (disch := omega) [g0, g1, h1', h1'', h2', h2'', h3', h3'', wrap_i64]
    refine ⟨q - 1, by omega, min (2 * x) many, by omega, by omega, by omega, by omega, ?_⟩
    rw [many_mul, ← he]
    have : 2 * x * 2 ^ (q - 1) = x * 2 ^ q := by
      obtain ⟨e, rfl⟩ : ∃ e, q = e + 1 := ⟨q - 1, by omega⟩
      rw [Nat.add_sub_cancel, Nat.pow_succ, Nat.mul_comm 2 x, Nat.mul_assoc, Nat.mul_comm 2]
    rw [this]
  · have h3' : ¬ (x : Int) < 1099511627777 := by omega
    have h3'' : ¬ x < 1099511627777 := by omega
    have h4 : x = many := by omega
    simp [g0, g1, h1', h1'', h2', h2'', h3', h3'']
    refine ⟨?_, Kp.refl _ _⟩
    rw [← he, h4]
    have : many ≤ many * 2 ^ q := Nat.le_mul_of_pos_right _ (by omega)
    omega
end Go.Proofs.YtkojilpjpdpmaaaR
