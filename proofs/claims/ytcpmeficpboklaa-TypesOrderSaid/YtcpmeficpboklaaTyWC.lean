/-
  A part of the proofs of this seat's statements (TyWC); no conditions beyond those each theorem names.
-/
import Derived.Test.YtcpmeficpboklaaTyWB
set_option maxRecDepth 100000
set_option linter.unusedSimpArgs false
set_option linter.unusedVariables false
namespace Go.Proofs.Ytcpmeficpboklaa
open Go Go.W Go.Ty
theorem fnd_none_iff {l : List Pr} {t : ByteArray} : fnd l t = none ↔ getM l t = none := by
  rw [fnd, List.findIdx?_eq_none_iff, getM, Option.map_eq_none_iff, List.find?_eq_none]
  simp
theorem fnd_get {l : List Pr} {t : ByteArray} {i : Nat} (h : fnd l t = some i) : i < l.length ∧ (gp l i).1 = t ∧ getM l t = some (gp l i).2 := by
  rw [fnd, List.findIdx?_eq_some_iff_getElem] at h
  obtain ⟨hi, h1, h2⟩ := h
  have hg : gp l i = l[i] := by
    have := gp_at hi
    rw [List.getElem?_eq_getElem hi] at this
    exact (Option.some.inj this).symm
  refine ⟨hi, by rw [hg]; simpa using h1, ?_⟩
  have : l.find? (fun p => decide (p.1 = t)) = some l[i] := by
    rw [List.find?_eq_some_iff_getElem]
    exact ⟨h1, i, hi, rfl, fun j hj => by simpa using h2 j hj⟩
  rw [getM, this, hg]; rfl
theorem fnd_cases (l : List Pr) (t : ByteArray) : (fndI l t = -1 ∧ getM l t = none ∧ gm l t = ByteArray.empty) ∨ ∃ i, fndI l t = (i : Nat) ∧ i < l.length ∧ (gp l i).1 = t ∧ getM l t = some (gp l i).2 ∧ gm l t = (gp l i).2 := by
  cases h : fnd l t with
  | none =>
    have h2 := fnd_none_iff.1 h
    exact .inl ⟨by simp [fndI, h], h2, by simp [gm, h2]⟩
  | some i =>
    obtain ⟨h1, h2, h3⟩ := fnd_get h
    exact .inr ⟨i, by simp [fndI, h], h1, h2, h3, by simp [gm, h3]⟩
theorem rhas_spec (pv : Value) (l : List Pr) (t : ByteArray) (w : World) (hl : Vw w pv ep l) (hn : l.length ≤ 1000000) :
    Calls Try.prog 22 [pv, .string t].toArray w fun e w' => ∃ v, e = .returned v ∧ v = .bool (hasB l t) ∧ Kp [] w w' := by
  refine enter Try.func22 mixed low22 (Nat.le_of_ble_eq_true rfl) ?_
  simp only [L22]
  by_cases hr : t = rootS
  · simp [beq_root, hr]
    exact ⟨by simp [hasB, hr], Kp.refl _ _⟩
  simp [beq_root, hr]
  refine cl_of (find_spec pv l t w hl hn) ?_
  rintro v w1 ⟨rfl, k1⟩
  rcases fnd_cases l t with ⟨h1, h2, _⟩ | ⟨i, h1, h2, h3, h4, _⟩
  · simp [beq_root, hr, h1]
    exact ⟨by simp [hasB, hr, h2], k1⟩
  · simp [beq_root, hr, h1]
    exact ⟨by simp [hasB, h4], k1⟩
theorem rparent_spec (pv : Value) (l : List Pr) (t : ByteArray) (w : World) (hl : Vw w pv ep l) (hn : l.length ≤ 1000000) :
    Calls Try.prog 20 [pv, .string t].toArray w fun e w' => ∃ v, e = .returned v ∧ v = .tuple #[.string (gm l t), .bool (getM l t).isSome] ∧ Kp [] w w' := by
  refine enter Try.func20 mixed low20 (Nat.le_of_ble_eq_true rfl) ?_
  simp only [L20]
  simp
  refine cl_of (find_spec pv l t w hl hn) ?_
  rintro v w1 ⟨rfl, k1⟩
  have hl1 := hl.kp0 k1
  rcases fnd_cases l t with ⟨h1, h2, h3⟩ | ⟨i, h1, h2, h3, h4, h5⟩
  · simp [h1]
    exact ⟨by simp [h2, h3]; rfl, k1⟩
  · have hneg : ¬ ((i : Int) < 0) := by omega
    simp (disch := omega) [h1, hneg, hl1.idx, hl1.fld ep_len (gp_at h2) (o := 1) rfl]
    exact ⟨by simp [h4, h5], k1⟩
end Go.Proofs.Ytcpmeficpboklaa
