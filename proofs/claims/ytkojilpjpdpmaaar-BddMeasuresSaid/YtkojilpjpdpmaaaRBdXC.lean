/-
  A part of the proofs of this seat's statements (BdXC); no conditions beyond those each theorem names.
-/
import Derived.Test.YtkojilpjpdpmaaaRBdXA
set_option maxRecDepth 100000
set_option linter.unusedSimpArgs false
set_option linter.unusedVariables false
namespace Go.Proofs.YtkojilpjpdpmaaaR
open Go Go.W Go.Bd Go.Maps
/-! ### The paths of a table -/
/-- The paths of a table, from a variable on. -/
def rcu (n : Nat) : Nat → ((Nat → Bool) → Bool) → List (List Fc)
  | 0, F => if tab n F = tab n (fun _ => false) then [] else [[]]
  | d + 1, F => if tab n F = tab n (fun _ => false) then [] else
      if depB n F (n - (d + 1)) = true then (rcu n d (resF F (n - (d + 1)) false)).map ((n - (d + 1), 0) :: ·) ++ (rcu n d (resF F (n - (d + 1)) true)).map ((n - (d + 1), 1) :: ·)
      else rcu n d F
section
variable {n : Nat} {ns : Ns} {f : Nat} {F : (Nat → Bool) → Bool}
theorem rch_tv (w : Wf n ns) {y : Nat} (h : Rch n ns f y) : Ref ns f → tv n ns f ≤ tv n ns y := by
  induction h with
  | self h => exact fun _ => Nat.le_refl _
  | low h k ih =>
    intro hf
    have := ih (w.ref_low hf)
    have := w.tv_low h hf
    omega
  | high h k ih =>
    intro hf
    have := ih (w.ref_high hf)
    have := w.tv_high h hf
    omega
theorem mean_low (h : Mean n ns f F) (w : Wf n ns) (h2 : 2 ≤ f) : Mean n ns (at_ n ns f).low (resF F (tv n ns f) false) :=
  ⟨w.ref_low h.ref, fun a => by rw [← eval_low w h2 h.ref, h.ev]; rfl⟩
theorem mean_high (h : Mean n ns f F) (w : Wf n ns) (h2 : 2 ≤ f) : Mean n ns (at_ n ns f).high (resF F (tv n ns f) true) :=
  ⟨w.ref_high h.ref, fun a => by rw [← eval_high w h2 h.ref, h.ev]; rfl⟩
theorem mean_is0 (h : Mean n ns f F) (w : Wf n ns) : tab n F = tab n (fun _ => false) ↔ f = 0 := (h.eq_iff (Mean.zero n ns) w).symm
theorem rcu_eq (w : Wf n ns) : ∀ (d f : Nat) (F : (Nat → Bool) → Bool), Mean n ns f F → d ≤ n → n - d ≤ tv n ns f → rcu n d F = cubeF n ns f
  | 0, f, F, h, hd, hv => by
    have hc : f < 2 := const_of_top w h.ref (by omega)
    unfold rcu
    rcases (show f = 0 ∨ f = 1 by omega) with rfl | rfl
    · rw [if_pos ((mean_is0 h w).2 rfl), cube_zero]
    · rw [if_neg (fun e => by have := (mean_is0 h w).1 e; omega), cube_one]
  | d + 1, f, F, h, hd, hv => by
    unfold rcu
    by_cases h0 : f = 0
    · subst h0
      rw [if_pos ((mean_is0 h w).2 rfl), cube_zero]
    rw [if_neg (fun e => h0 ((mean_is0 h w).1 e))]
    have hdep : depB n F (n - (d + 1)) = true ↔ ∃ y, Rch n ns f y ∧ tv n ns y = n - (d + 1) := by
      unfold depB
      rw [decide_eq_true_eq]
      exact h.dep w _
    by_cases ht : tv n ns f = n - (d + 1)
    · have h2 : 2 ≤ f := by
        rcases Nat.lt_or_ge f 2 with h | h
        · rw [tv_lt h] at ht; omega
        · exact h
      rw [if_pos (hdep.2 ⟨f, .self h2, ht⟩), cube_node w h2 h.ref, ← ht]
      have hl := w.tv_low h2 h.ref
      have hh := w.tv_high h2 h.ref
      rw [rcu_eq w d _ _ (mean_low h w h2) (by omega) (by omega), rcu_eq w d _ _ (mean_high h w h2) (by omega) (by omega)]
    · rw [if_neg (fun e => by
        obtain ⟨y, hy, e⟩ := hdep.1 e
        have := rch_tv w hy h.ref
        omega)]
      exact rcu_eq w d f F h (by omega) (by omega)
end
end Go.Proofs.YtkojilpjpdpmaaaR
