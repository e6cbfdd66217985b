/-
  A part of the proofs of this seat's statements (TyP5); no conditions beyond those each theorem names.
-/
import Derived.Test.YtcpmeficpboklaaTyP4
import Derived.Test.YtcpmeficpboklaaTyP3
set_option linter.unusedSimpArgs false
set_option linter.unusedVariables false
namespace Go.Proofs.Ytcpmeficpboklaa
open Go Go.W Go.Ty
theorem fst_isSome {p : Nat → Bool} {n : Nat} : (fst? p n).isSome = true ↔ ∃ k, k < n ∧ p k = true := by
  rw [fst?, List.find?_isSome]
  simp
def badp (p : Pr) : Bool := !nameB p.1 || (decide (p.2 ≠ rootS) && !nameB p.2)
theorem ex_idx {l : List Pr} {P : Pr → Prop} : (∃ k, k < l.length ∧ P (gp l k)) ↔ ∃ p ∈ l, P p := by
  constructor
  · rintro ⟨k, hk, h⟩; exact ⟨_, List.mem_of_getElem? (gp_at hk), h⟩
  · rintro ⟨p, hp, h⟩
    obtain ⟨k, hk⟩ := List.getElem?_of_mem hp
    have hkl := (List.getElem?_eq_some_iff.1 hk).1
    rw [gp_at hkl] at hk
    exact ⟨k, hkl, by rw [Option.some.inj hk]; exact h⟩
theorem getM_isSome {l : List Pr} {x : ByteArray} : (getM l x).isSome = true ↔ x ∈ l.map (·.1) := by
  rw [getM, Option.isSome_map, List.find?_isSome]
  simp
theorem dup_iff {l : List Pr} : (∀ k, k < l.length → dupN l k = false) ↔ (l.map (·.1)).Nodup := by
  haveI : Inhabited ByteArray := ⟨ByteArray.empty⟩
  constructor
  · intro hd
    refine nodup_of_idx _ fun i j x y hij hx hy he => ?_
    subst he
    have hj : j < l.length := by
      have := (List.getElem?_eq_some_iff.1 hy).1
      simpa using this
    have h := hd j hj
    rw [List.getElem?_map, gp_at (by omega)] at hx
    rw [List.getElem?_map, gp_at hj] at hy
    simp at hx hy
    have h1 : (getM (l.take j) (gp l j).1).isSome = true := getM_isSome.2 (List.mem_map.2 ⟨gp l i, List.mem_of_getElem? (by rw [List.getElem?_take_of_lt hij]; exact gp_at (by omega)), by rw [hx, hy]⟩)
    rw [dupN, h1] at h
    cases h
  · intro hn k hk
    cases hd : dupN l k with
    | false => rfl
    | true =>
      exfalso
      obtain ⟨p, hp, he⟩ := List.mem_map.1 (getM_isSome.1 hd)
      obtain ⟨i, hi⟩ := List.getElem?_of_mem hp
      have hik : i < k := by
        have := (List.getElem?_eq_some_iff.1 hi).1
        simp at this; omega
      rw [List.getElem?_take_of_lt hik, gp_at (by omega)] at hi
      have hi := Option.some.inj hi
      have h1 : (l.map (·.1))[i]'(by simp; omega) = (l.map (·.1))[k]'(by simpa using hk) := by
        have e1 := gp_at (show i < l.length by omega)
        have e2 := gp_at hk
        rw [List.getElem?_eq_getElem (by omega)] at e1 e2
        simp only [List.getElem_map]
        rw [Option.some.inj e1, Option.some.inj e2, hi]; exact he
      have := (List.getElem_inj hn).1 h1
      omega
theorem getM_mem {l : List Pr} (hn : (l.map (·.1)).Nodup) {x p : ByteArray} : getM l x = some p ↔ (x, p) ∈ l := by
  constructor
  · intro h
    obtain ⟨k, hk, he⟩ := getM_some h
    have := gp_at hk
    rw [he] at this
    exact List.mem_of_getElem? this
  · intro h
    obtain ⟨k, hk⟩ := List.getElem?_of_mem h
    exact find_some hn hk
section
variable {l l' : List Pr} (hp : l.Perm l')
include hp
theorem has_perm (x : ByteArray) : hasB l x = hasB l' x := by
  have : (getM l x).isSome = (getM l' x).isSome := by
    rw [Bool.eq_iff_iff, getM_isSome, getM_isSome]
    exact (hp.map _).mem_iff
  simp [hasB, this]
theorem getM_perm (hn : (l.map (·.1)).Nodup) : getM l = getM l' := by
  funext x
  have hn' := (hp.map (·.1)).nodup_iff.1 hn
  apply Option.ext
  intro p
  rw [getM_mem hn, getM_mem hn']
  exact hp.mem_iff
theorem gm_perm (hn : (l.map (·.1)).Nodup) : gm l = gm l' := by
  funext x; rw [gm, gm, getM_perm hp hn]
theorem cyc_perm (hn : (l.map (·.1)).Nodup) (t : ByteArray) : ∀ (n : Nat) (a : ByteArray), cycR l t n a = cycR l' t n a
  | 0, a => rfl
  | n + 1, a => by rw [cycR, cycR, gm_perm hp hn, cyc_perm hn t n]
theorem up_perm (hn : (l.map (·.1)).Nodup) (t : ByteArray) : ∀ k, up l t k = up l' t k
  | 0 => rfl
  | k + 1 => by rw [up, up, gm_perm hp hn, up_perm hn t k]
theorem hgt_perm (hn : (l.map (·.1)).Nodup) (t : ByteArray) : hgt l t = hgt l' t := by
  rw [hgt, hgt, hp.length_eq]
  simp only [up_perm hp hn]
theorem ups_perm (hn : (l.map (·.1)).Nodup) (t : ByteArray) (n : Nat) : ups l t n = ups l' t n := by
  simp only [ups]
  exact List.map_congr_left fun k _ => up_perm hp hn t k
theorem isP_perm (hn : (l.map (·.1)).Nodup) (a b : ByteArray) : isP l a b = isP l' a b := by
  rw [isP, isP, isB, isB, has_perm hp, has_perm hp, hgt_perm hp hn, ups_perm hp hn]
theorem comP_perm (hn : (l.map (·.1)).Nodup) (a b : ByteArray) : comP l a b = comP l' a b := by
  have : isP l b = isP l' b := funext fun x => isP_perm hp hn b x
  rw [comP, comP, has_perm hp, has_perm hp, hgt_perm hp hn, ups_perm hp hn, this]
theorem nmS_eq : nmS l = nmS l' := by
  rw [nmS, nmS, nmB, nmB]
  congr 1
  exact mergeSort_of_perm (List.Perm.append_right _ (hp.map _))
theorem code_perm : (newE l).map (·.2) = (newE l').map (·.2) := by
  unfold newE
  rw [hp.length_eq]
  by_cases h64 : 64 < l'.length
  · simp [h64]
  simp only [h64, if_false]
  have hB : (fst? (badN l) l'.length).isSome = (fst? (badN l') l'.length).isSome := by
    rw [Bool.eq_iff_iff, fst_isSome, fst_isSome]
    have h1 : (∃ k, k < l.length ∧ badN l k = true) ↔ ∃ p ∈ l, badp p = true := ex_idx (P := fun p => badp p = true)
    have h2 : (∃ k, k < l'.length ∧ badN l' k = true) ↔ ∃ p ∈ l', badp p = true := ex_idx (P := fun p => badp p = true)
    rw [hp.length_eq] at h1
    rw [h1, h2]
    simp only [hp.mem_iff]
  cases h1 : fst? (badN l) l'.length with
  | some i =>
    cases h1' : fst? (badN l') l'.length with
    | some j => rfl
    | none => rw [h1, h1'] at hB; cases hB
  | none =>
  cases h1' : fst? (badN l') l'.length with
  | some j => rw [h1, h1'] at hB; cases hB
  | none =>
  simp only
  have hdn : ∀ m : List Pr, fst? (dupN m) m.length = none ↔ (m.map (·.1)).Nodup := fun m => by
    rw [← dup_iff]
    exact ⟨fun h k hk => fst_spec h hk, fun h => fst_none h⟩
  have hD : fst? (dupN l) l'.length = none ↔ fst? (dupN l') l'.length = none := by
    rw [hdn l', ← hp.length_eq, hdn l]
    exact (hp.map (·.1)).nodup_iff
  cases h2 : fst? (dupN l) l'.length with
  | some i =>
    cases h2' : fst? (dupN l') l'.length with
    | some j => rfl
    | none => rw [hD.2 h2'] at h2; cases h2
  | none =>
  rw [hD.1 h2]
  have hn : (l.map (·.1)).Nodup := (hdn l).1 (by rw [hp.length_eq]; exact h2)
  simp only
  have hL : (fst? (lostN l) l'.length).isSome = (fst? (lostN l') l'.length).isSome := by
    rw [Bool.eq_iff_iff, fst_isSome, fst_isSome]
    have e1 : (∃ k, k < l.length ∧ lostN l k = true) ↔ ∃ p ∈ l, (!hasB l p.2) = true := ex_idx (P := fun p => (!hasB l p.2) = true)
    have e2 : (∃ k, k < l'.length ∧ lostN l' k = true) ↔ ∃ p ∈ l', (!hasB l' p.2) = true := ex_idx (P := fun p => (!hasB l' p.2) = true)
    rw [hp.length_eq] at e1
    rw [e1, e2]
    simp only [hp.mem_iff, has_perm hp]
  cases h3 : fst? (lostN l) l'.length with
  | some i =>
    cases h3' : fst? (lostN l') l'.length with
    | some j => rfl
    | none => rw [h3, h3'] at hL; cases hL
  | none =>
  cases h3' : fst? (lostN l') l'.length with
  | some j => rw [h3, h3'] at hL; cases hL
  | none =>
  simp only
  have hC : (fst? (cycN l) l'.length).isSome = (fst? (cycN l') l'.length).isSome := by
    rw [Bool.eq_iff_iff, fst_isSome, fst_isSome]
    have e1 : (∃ k, k < l.length ∧ cycN l k = true) ↔ ∃ p ∈ l, cycR l p.1 l.length p.1 = true := ex_idx (P := fun p => cycR l p.1 l.length p.1 = true)
    have e2 : (∃ k, k < l'.length ∧ cycN l' k = true) ↔ ∃ p ∈ l', cycR l' p.1 l'.length p.1 = true := ex_idx (P := fun p => cycR l' p.1 l'.length p.1 = true)
    rw [hp.length_eq] at e1
    rw [e1, e2]
    simp only [hp.mem_iff, cyc_perm hp hn, hp.length_eq]
  cases h4 : fst? (cycN l) l'.length with
  | some i =>
    cases h4' : fst? (cycN l') l'.length with
    | some j => rfl
    | none => rw [h4, h4'] at hC; cases hC
  | none =>
  cases h4' : fst? (cycN l') l'.length with
  | some j => rw [h4, h4'] at hC; cases hC
  | none => rfl
end
end Go.Proofs.Ytcpmeficpboklaa
