/-
  The walker's library, part Lib8: plain theorems that the proofs of this seat use; no conditions beyond those each theorem names.
-/
import Derived.Test.YtkojilpjpdpmaaaRLib7
set_option linter.unusedVariables false
set_option linter.unusedSimpArgs false
namespace Go.W
open Go

def rangeQ (b0 b1 : Nat) (K : Env → World → Prop) (Q : Ex → Env → World → Prop) : Ex → Env → World → Prop
  | .nrm => K
  | .exit i => if i = b1 then K else if i = b0 then Q .nrm else Q (.exit i)
  | .ret => Q .ret
@[simp] theorem rangeQ_nrm {b0 b1 : Nat} {K : Env → World → Prop} {Q : Ex → Env → World → Prop} : rangeQ b0 b1 K Q .nrm = K := rfl
@[simp] theorem rangeQ_ret {b0 b1 : Nat} {K : Env → World → Prop} {Q : Ex → Env → World → Prop} : rangeQ b0 b1 K Q .ret = Q .ret := rfl
@[simp] theorem rangeQ_exit {b0 b1 i : Nat} {K : Env → World → Prop} {Q : Ex → Env → World → Prop} : rangeQ b0 b1 K Q (.exit i) = if i = b1 then K else if i = b0 then Q .nrm else Q (.exit i) := rfl

/-- 'for .. range' over n rounds. -/
theorem range_loop {P : Program} {Q : Ex → Env → World → Prop} {ρ : Env} {w : World} {b0 b1 c lim cs t T T1 T2 T3 : Nat} {body : LCode} {n : Nat} (hn : n ≤ 4611686018427387904) (I : Nat → Env → World → Prop)
    (hc : ρ c = .int .i64 0) (hl : ρ lim = .int .i64 n) (h0 : I 0 ρ w)
    (hd : c ≠ cs ∧ lim ≠ cs ∧ lim ≠ c)
    (hs : ∀ k ρ w v, I k ρ w → I k (ρ.set cs v) w) (hs' : ∀ k ρ w v, I k ρ w → I k (ρ.set c v) w)
    (hb : ∀ k ρ w, k < n → ρ c = .int .i64 k → ρ lim = .int .i64 n → I k ρ w → wpL P body (rangeQ b0 b1 (fun ρ' w' => ρ' c = .int .i64 k ∧ ρ' lim = .int .i64 n ∧ I (k + 1) ρ' w') Q) ρ w)
    (he : ∀ ρ w, I n ρ w → Q .nrm ρ w) :
    wpL P (.loop (.seq (.region false [[LO.mk 0 (some cs) (.binOp .lss T (.tmp c) (.tmp lim) T1) T2 none]] [cs]) (.seq (.cond (.tmp cs) .skip (.exit b0)) (.seq (.block b1 body)
      (.region false [[LO.mk 0 (some t) (.binOp .add T (.tmp c) (.const (.int .i64 1)) T1) T3 none, LO.mk 0 (some c) (.move (.tmp t)) T3 none]] [c]))))) (blockK b0 Q) ρ w := by
  refine loop_inv (fun m ρ w => ∃ k, m = n - k ∧ k ≤ n ∧ ρ c = .int .i64 k ∧ ρ lim = .int .i64 n ∧ I k ρ w) n ⟨0, by omega, Nat.zero_le _, hc, hl, h0⟩ ?_
  rintro m ρ w ⟨k, rfl, hkn, hc, hl, hI⟩
  obtain ⟨d1, d2, d3⟩ := hd
  by_cases hlt : k < n
  · have hlt' : (k : Int) < n := by omega
    simp [hc, hl, hlt', d1, d2, d3]
    refine wpL_mono body ?_ (hb k (ρ.set cs (.bool true)) w hlt (by simp [d1, hc]) (by simp [d2, hl]) (hs _ _ _ _ hI))
    have hnxt : ∀ ρ' w', (ρ' c = .int .i64 k ∧ ρ' lim = .int .i64 n ∧ I (k + 1) ρ' w') →
        wpL P (.region false [[LO.mk 0 (some t) (.binOp .add T (.tmp c) (.const (.int .i64 1)) T1) T3 none, LO.mk 0 (some c) (.move (.tmp t)) T3 none]] [c]) (thenK (fun ρ'' w'' => ∃ m, m < n - k ∧ ∃ k, m = n - k ∧ k ≤ n ∧ ρ'' c = .int .i64 k ∧ ρ'' lim = .int .i64 n ∧ I k ρ'' w'') (blockK b0 Q)) ρ' w' := by
      rintro ρ' w' ⟨h1, h2, h3⟩
      simp (disch := omega) [h1, wrap_i64]
      refine ⟨n - (k + 1), by omega, k + 1, rfl, by omega, rfl, ?_, hs' _ _ _ _ h3⟩
      simp [d3, h2]
    intro e ρ' w' hk
    cases e with
    | nrm => exact hnxt _ _ hk
    | ret => exact hk
    | exit i =>
      simp only [rangeQ_exit] at hk
      simp only [blockK_exit]
      by_cases hi1 : i = b1
      · rw [if_pos hi1] at hk
        rw [if_pos hi1]
        exact hnxt _ _ hk
      · rw [if_neg hi1] at hk
        rw [if_neg hi1]
        show blockK b0 Q (.exit i) ρ' w'
        simp only [blockK_exit]
        by_cases hi0 : i = b0
        · rw [if_pos hi0] at hk ⊢; exact hk
        · rw [if_neg hi0] at hk ⊢; exact hk
  · have hlt' : ¬ (k : Int) < n := by omega
    simp [hc, hl, hlt', d1, d2, d3]
    have : k = n := by omega
    subst this
    exact he _ _ (hs _ _ _ _ hI)
end Go.W
