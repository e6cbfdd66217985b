/-
  The walker's library, part LibD: plain theorems that the proofs of this seat use; no conditions beyond those each theorem names.
-/
import Derived.Test.YtkojilpjpdpmaaaRLibC
set_option linter.unusedVariables false
set_option linter.unusedSimpArgs false
namespace Go.W
open Go
/-- 'for i := 0; i < len(x); i++' over n rounds (b0: the loop's block, b1: the body's; c: the counter). -/
theorem for_len {P : Program} {α : Type} {enc : α → List Value} {l : List α} {Q : Ex → Env → World → Prop} {ρ : Env} {w : World} {b0 b1 c px s1 s2 s3 cs t1 t2 T T' T1 T2 T3 T4 TS : Nat} {body : LCode} {pv : Value} (hn : l.length ≤ 4611686018427387904) (hT : isSl P TS = true) (I : Nat → Env → World → Prop)
    (hvw : ∀ k ρ w, I k ρ w → Vw w pv enc l) (hc : ρ c = .int .i64 0) (hp : ρ px = pv) (h0 : I 0 ρ w)
    (hd : c ≠ s1 ∧ c ≠ s2 ∧ c ≠ s3 ∧ c ≠ cs ∧ px ≠ s1 ∧ px ≠ cs ∧ px ≠ c ∧ s1 ≠ s2 ∧ s1 ≠ s3 ∧ s2 ≠ s3 ∧ px ≠ t1 ∧ px ≠ t2)
    (hs : ∀ k ρ w v, I k ρ w → I k (ρ.set cs v) w) (hs' : ∀ k ρ w v, I k ρ w → I k (ρ.set c v) w)
    (hb : ∀ k ρ w, k < l.length → ρ c = .int .i64 k → ρ px = pv → I k ρ w → wpL P body (rangeQ b0 b1 (fun ρ' w' => ρ' c = .int .i64 k ∧ ρ' px = pv ∧ I (k + 1) ρ' w') Q) ρ w)
    (he : ∀ ρ w, ρ px = pv → I l.length ρ w → Q .nrm ρ w) :
    wpL P (.loop (.seq (.seq (.region false [[LO.mk 0 (some s1) (.move (.tmp c)) T none, LO.mk 0 (some s2) (.move (.tmp px)) TS none, LO.mk 0 (some s3) (.call ⟨.builtin .len, #[.tmp s2], #[TS]⟩) T' none, LO.mk 0 (some cs) (.binOp .lss T1 (.tmp s1) (.tmp s3) T2) T3 none]] [cs]) (.cond (.tmp cs) .skip (.exit b0)))
      (.seq (.block b1 body) (.region false [[LO.mk 0 (some t1) (.move (.tmp c)) T none, LO.mk 0 (some t2) (.binOp .add T1 (.tmp t1) (.const (.int .i64 1)) T2) T4 none, LO.mk 0 (some c) (.assign (.tmp t2)) T4 none]] [c])))) (blockK b0 Q) ρ w := by
  refine loop_inv (fun m ρ w => ∃ k, m = l.length - k ∧ k ≤ l.length ∧ ρ c = .int .i64 k ∧ ρ px = pv ∧ I k ρ w) l.length ⟨0, by omega, Nat.zero_le _, hc, hp, h0⟩ ?_
  rintro m ρ w ⟨k, rfl, hkn, hc, hp, hI⟩
  obtain ⟨d1, d2, d3, d4, d5, d6, d7, d8, d9, d10, d11, d12⟩ := hd
  have hv := hvw k ρ w hI
  by_cases hlt : k < l.length
  · have hlt' : (k : Int) < l.length := by omega
    simp [hc, hp, hv.len, hT, hlt', d1, d2, d3, d4, d5, d6, d7, d8, d9, d10]
    refine wpL_mono body ?_ (hb k (ρ.set cs (.bool true)) w hlt (by simp [d4, hc]) (by simp [d6, hp]) (hs _ _ _ _ hI))
    have hnxt : ∀ ρ' w', (ρ' c = .int .i64 k ∧ ρ' px = pv ∧ I (k + 1) ρ' w') →
        wpL P (.region false [[LO.mk 0 (some t1) (.move (.tmp c)) T none, LO.mk 0 (some t2) (.binOp .add T1 (.tmp t1) (.const (.int .i64 1)) T2) T4 none, LO.mk 0 (some c) (.assign (.tmp t2)) T4 none]] [c]) (thenK (fun ρ'' w'' => ∃ m, m < l.length - k ∧ ∃ k, m = l.length - k ∧ k ≤ l.length ∧ ρ'' c = .int .i64 k ∧ ρ'' px = pv ∧ I k ρ'' w'') (blockK b0 Q)) ρ' w' := by
      rintro ρ' w' ⟨h1, h2, h3⟩
      simp (disch := omega) [h1, wrap_i64]
      refine ⟨l.length - (k + 1), by omega, k + 1, rfl, by omega, rfl, ?_, hs' _ _ _ _ h3⟩
      simp [d7, h2]
    intro e ρ' w' hk
    cases e with
    | nrm => exact hnxt _ _ hk
    | ret => exact hk
    | exit i =>
      simp only [rangeQ_exit] at hk
      simp only [blockK_exit]
      by_cases hi1 : i = b1
      · rw [if_pos hi1] at hk
        rw [if_pos hi1]
        exact hnxt _ _ hk
      · rw [if_neg hi1] at hk
        rw [if_neg hi1]
        show blockK b0 Q (.exit i) ρ' w'
        simp only [blockK_exit]
        by_cases hi0 : i = b0
        · rw [if_pos hi0] at hk ⊢; exact hk
        · rw [if_neg hi0] at hk ⊢; exact hk
  · have hlt' : ¬ (k : Int) < l.length := by omega
    simp [hc, hp, hv.len, hT, hlt', d1, d2, d3, d4, d5, d6, d7, d8, d9, d10]
    have : k = l.length := by omega
    subst this
    exact he _ _ (by simp [d6, hp]) (hs _ _ _ _ hI)
end Go.W
