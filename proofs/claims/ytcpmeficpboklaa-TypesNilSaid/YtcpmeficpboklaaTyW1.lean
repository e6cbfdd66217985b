/-
  A part of the proofs of this seat's statements (TyW1); no conditions beyond those each theorem names.
-/
import Derived.Test.YtcpmeficpboklaaLow
import Derived.Test.YtcpmeficpboklaaTyPlain
import Derived.Test.YtcpmeficpboklaaTyShelf
set_option maxRecDepth 100000
set_option linter.unusedSimpArgs false
set_option linter.unusedVariables false
namespace Go.Proofs.Ytcpmeficpboklaa
open Go Go.W Go.Ty
theorem find_spec (pv : Value) (l : List Pr) (t : ByteArray) (w : World) (hl : Vw w pv ep l) (hn : l.length ≤ 1000000) :
    Calls Try.prog 34 [pv, .string t].toArray w fun e w' => ∃ v, e = .returned v ∧ v = .int .i64 (fndI l t) ∧ Kp [] w w' := by
  refine enter Try.func34 mixed low34 (Nat.le_of_ble_eq_true rfl) ?_
  simp only [L34]
  simp
  refine loop_inv (fun n ρ w1 => ∃ k, n = l.length - k ∧ k ≤ l.length ∧ ρ 0 = pv ∧ ρ 1 = .string t ∧ ρ 5 = .int .i64 (k : Nat) ∧ (∀ j, j < k → (gp l j).1 ≠ t) ∧ Kp [] w w1) l.length
    ⟨0, by omega, by omega, by simp, by simp, by simp, by simp, Kp.refl _ _⟩ ?_
  rintro n ρ w1 ⟨k, rfl, hk, h0, h1, h5, hne, hkp⟩
  have hl1 := hl.kp0 hkp
  simp [h0, h5, hl1.len]
  refine cd_split (fun hlt => ?_) (fun hge => ?_)
  · have hlt' : k < l.length := by simpa using hlt
    simp (disch := omega) [h0, h1, h5, hl1.idx, hl1.fld ep_len (gp_at hlt') (o := 0) rfl, beq_str]
    refine cd_split (fun he => ?_) (fun he => ?_)
    · simp [h5]
      refine ⟨?_, hkp⟩
      have : fnd l t = some k := by
        rw [fnd, List.findIdx?_eq_some_iff_getElem]
        refine ⟨hlt', ?_, fun j hj => ?_⟩
        · have := gp_at hlt'
          rw [List.getElem?_eq_getElem hlt'] at this
          rw [Option.some.inj this]; simpa using he
        · have := gp_at (show j < l.length by omega)
          rw [List.getElem?_eq_getElem (by omega)] at this
          rw [Option.some.inj this]; simpa using hne j hj
      simp [fndI, this]
    · simp (disch := omega) [h0, h1, h5, wrap_i64]
      refine ⟨l.length - (k + 1), by omega, k + 1, rfl, by omega, rfl, fun j hj => ?_, hkp⟩
      rcases Nat.lt_or_ge j k with h | h
      · exact hne j h
      · have : j = k := by omega
        subst this; simpa using he
  · have hge' : k = l.length := by simp at hge; omega
    simp
    refine ⟨?_, hkp⟩
    have : fnd l t = none := by
      rw [fnd, List.findIdx?_eq_none_iff]
      intro p hp
      obtain ⟨j, hj⟩ := List.getElem?_of_mem hp
      have hjl : j < l.length := (List.getElem?_eq_some_iff.1 hj).1
      have h9 := gp_at hjl
      rw [hj] at h9
      rw [Option.some.inj h9]
      simpa using hne j (by omega)
    simp [fndI, this]
end Go.Proofs.Ytcpmeficpboklaa
