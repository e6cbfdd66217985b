/-
  A part of the proofs of this seat's statements (TyWD); no conditions beyond those each theorem names.
-/
import Derived.Test.YtcpmeficpboklaaTyWC
set_option maxRecDepth 100000
set_option linter.unusedSimpArgs false
set_option linter.unusedVariables false
namespace Go.Proofs.Ytcpmeficpboklaa
open Go Go.W Go.Ty
def rcycR (l : List Pr) (p : ByteArray) : Nat → ByteArray → Bool
  | 0, _ => false
  | n + 1, t => if t = rootS then false else if t = p then true else rcycR l p n (gm l t)
/-- All parents exist. -/
def Ful (l : List Pr) : Prop := ∀ k, k < l.length → hasB l (gp l k).2 = true
theorem rcyclic_spec (pv : Value) (l : List Pr) (i : Nat) (w : World) (hl : Vw w pv ep l) (hn : l.length ≤ 1000000) (hi : i < l.length) (hf : Ful l) :
    Calls Try.prog 35 [pv, .int .i64 i].toArray w fun e w' => ∃ v, e = .returned v ∧ v = .bool (rcycR l (gp l i).1 l.length (gp l i).2) ∧ Kp [] w w' := by
  refine enter Try.func35 mixed low35 (Nat.le_of_ble_eq_true rfl) ?_
  simp only [L35]
  simp (disch := omega) [hl.idx, hl.fld ep_len (gp_at hi) (o := 1) rfl]
  refine loop_inv (fun n ρ w1 => ∃ k t, n = l.length - k ∧ k ≤ l.length ∧ ρ 0 = pv ∧ ρ 1 = .int .i64 (i : Nat) ∧ ρ 5 = .string t ∧ ρ 6 = .int .i64 (k : Nat) ∧ hasB l t = true ∧ rcycR l (gp l i).1 (l.length - k) t = rcycR l (gp l i).1 l.length (gp l i).2 ∧ Kp [] w w1) l.length
    ⟨0, (gp l i).2, by omega, by omega, by simp, by simp, by simp, by simp, hf i hi, by simp, Kp.refl _ _⟩ ?_
  rintro n ρ w1 ⟨k, t, rfl, hk, g0, g1, g5, g6, ht, hcy, hkp⟩
  have hl1 := hl.kp0 hkp
  by_cases hlt : k < l.length
  case neg =>
    have hlt' : ¬ (k : Int) < l.length := by omega
    have e0 : l.length - k = 0 := by omega
    rw [e0] at hcy
    simp [g0, g6, hl1.len, hlt']
    exact ⟨hcy.symm, hkp⟩
  have hlt' : (k : Int) < l.length := by omega
  have hn1 : l.length - k = (l.length - (k + 1)) + 1 := by omega
  rw [hn1, rcycR] at hcy
  by_cases hr : t = rootS
  · rw [if_pos hr] at hcy
    simp [g0, g5, g6, hl1.len, hlt', beq_root, hr]
    exact ⟨hcy.symm, hkp⟩
  rw [if_neg hr] at hcy
  by_cases hp : t = (gp l i).1
  · rw [if_pos hp] at hcy
    simp (disch := omega) [g0, g1, g5, g6, hl1.len, hlt', beq_root, hr, hl1.idx, hl1.fld ep_len (gp_at hi) (o := 0) rfl, beq_str]
    simp [hp]
    exact ⟨hcy.symm, hkp⟩
  rw [if_neg hp] at hcy
  rcases fnd_cases l t with ⟨h1, h2, h3⟩ | ⟨j, h1, h2, h3, h4, h5⟩
  · simp [hasB, h2, hr] at ht
  · simp (disch := omega) [g0, g1, g5, g6, hl1.len, hlt', beq_root, hr, hl1.idx, hl1.fld ep_len (gp_at hi) (o := 0) rfl, beq_str]
    simp [hp, g0, g5]
    refine cl_of (find_spec pv l t w1 hl1 hn) ?_
    rintro v w2 ⟨rfl, k2⟩
    have hl2 := hl1.kp0 k2
    simp (disch := omega) [h1, g0, g1, g6, hl2.idx, hl2.fld ep_len (gp_at h2) (o := 1) rfl, wrap_i64]
    refine ⟨l.length - (k + 1), by omega, k + 1, rfl, by omega, rfl, hf j h2, by rw [← h5]; exact hcy, hkp.trans0 k2⟩
end Go.Proofs.Ytcpmeficpboklaa
