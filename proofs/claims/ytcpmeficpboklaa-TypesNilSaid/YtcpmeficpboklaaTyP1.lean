/-
  A part of the proofs of this seat's statements (TyP1); no conditions beyond those each theorem names.
-/
import Derived.Test.YtcpmeficpboklaaTyWI
set_option linter.unusedSimpArgs false
set_option linter.unusedVariables false
namespace Go.Proofs.Ytcpmeficpboklaa
open Go Go.W Go.Ty
theorem fst_congr {p q : Nat → Bool} {n : Nat} (h : ∀ j, j < n → p j = q j) : fst? p n = fst? q n := by
  cases hq : fst? q n with
  | none => exact fst_none fun j hj => by rw [h j hj]; exact fst_spec hq hj
  | some k =>
    rw [fst?, List.find?_eq_some_iff_getElem] at hq
    obtain ⟨h1, i, hi, h2, h3⟩ := hq
    simp at h2 hi
    subst h2
    exact fst_some hi (fun j hj => by rw [h j (by omega)]; simpa using h3 j hj) (by rw [h i hi]; exact h1)
theorem dup_eq {l : List Pr} {k : Nat} (hk : k < l.length) : rdupN l k = dupN l k := by
  have hgk := gp_at hk
  rcases fnd_cases l (gp l k).1 with ⟨_, h2, _⟩ | ⟨i, h1, h2, h3, h4, h5⟩
  · exfalso
    rw [getM, Option.map_eq_none_iff, List.find?_eq_none] at h2
    have := h2 _ (List.mem_of_getElem? hgk)
    simp at this
  · have hf : fnd l (gp l k).1 = some i := by
      unfold fndI at h1
      cases hh : fnd l (gp l k).1 with
      | none => rw [hh] at h1; simp at h1
      | some i' => rw [hh] at h1; simp at h1; rw [show i' = i by omega]
    rw [fnd, List.findIdx?_eq_some_iff_getElem] at hf
    obtain ⟨_, _, hmin⟩ := hf
    simp only [rdupN, dupN, h1]
    by_cases hik : i < k
    · have : (getM (l.take k) (gp l k).1).isSome = true := by
        rw [getM, Option.isSome_map, List.find?_isSome]
        refine ⟨gp l i, ?_, by simp [h3]⟩
        have : (l.take k)[i]? = some (gp l i) := by rw [List.getElem?_take_of_lt hik]; exact gp_at h2
        exact List.mem_of_getElem? this
      rw [this]; simp; omega
    · have : (getM (l.take k) (gp l k).1).isSome = false := by
        rw [getM, Option.isSome_map, Option.isSome_eq_false_iff, Option.isNone_iff_eq_none, List.find?_eq_none]
        intro p hp
        obtain ⟨j, hj, rfl⟩ := List.mem_iff_getElem.1 hp
        rw [List.getElem_take]
        simp at hj
        have := hmin j (by omega)
        simpa using this
      rw [this]; simp; omega
theorem lost_eq {l : List Pr} {k : Nat} : rlostN l k = lostN l k := by
  unfold rlostN lostN hasB
  by_cases hr : (gp l k).2 = rootS
  · simp [hr]
  · rcases fnd_cases l (gp l k).2 with ⟨h1, h2, _⟩ | ⟨i, h1, h2, h3, h4, h5⟩
    · simp [h1, h2, hr]
    · simp [h1, h4, hr]
theorem root_res : nameB rootS = false := by decide +kernel
theorem good_root {l : List Pr} {k : Nat} (h : badN l k = false) : (gp l k).1 ≠ rootS := fun e => by
  simp [badN, e, root_res] at h
theorem getM_dup {l : List Pr} (hd : ∀ k, k < l.length → dupN l k = false) {k : Nat} (hk : k < l.length) : getM l (gp l k).1 = some (gp l k).2 := by
  have h := hd k hk
  simp only [dupN, getM, Option.isSome_map, Option.isSome_eq_false_iff, Option.isNone_iff_eq_none, List.find?_eq_none] at h
  have hgk := gp_at hk
  have hs : l = l.take k ++ gp l k :: l.drop (k + 1) := by
    have h1 := List.take_append_drop k l
    rw [List.drop_eq_getElem_cons hk] at h1
    rw [List.getElem?_eq_getElem hk] at hgk
    rw [Option.some.inj hgk] at h1
    exact h1.symm
  rw [getM]
  have : l.find? (fun p => decide (p.1 = (gp l k).1)) = some (gp l k) := by
    rw [List.find?_eq_some_iff_append]
    exact ⟨by simp, l.take k, l.drop (k + 1), hs, fun a ha => by have := h a ha; simpa using this⟩
  rw [this]; rfl
theorem cyc_rec {l : List Pr} {t : ByteArray} (ht : t ≠ rootS) : ∀ (n : Nat) (a : ByteArray), cycR l t n a = rcycR l t n (gm l a)
  | 0, a => rfl
  | n + 1, a => by
    rw [cycR, rcycR, cyc_rec ht n]
    by_cases h1 : gm l a = t
    · rw [if_pos h1, h1, if_neg ht, if_pos rfl]
    · rw [if_neg h1]
      by_cases h2 : gm l a = rootS
      · rw [if_pos h2, if_pos h2]
      · rw [if_neg h2, if_neg h2, if_neg h1]
theorem cyc_eq {l : List Pr} (hb : ∀ k, k < l.length → badN l k = false) (hd : ∀ k, k < l.length → dupN l k = false) {k : Nat} (hk : k < l.length) : rcycN l k = cycN l k := by
  rw [rcycN, cycN, cyc_rec (good_root (hb k hk))]
  rw [gm, getM_dup hd hk]; rfl
theorem new_ref (l : List Pr) : refE l = (newE l).getD (0, 0) := by
  unfold refE newE
  by_cases h64 : 64 < l.length
  · simp [h64]
  · simp only [h64, if_false]
    cases h1 : fst? (badN l) l.length with
    | some i => rfl
    | none =>
      simp only
      rw [fst_congr (q := dupN l) (fun j hj => dup_eq hj)]
      cases h2 : fst? (dupN l) l.length with
      | some i => rfl
      | none =>
        simp only
        rw [fst_congr (q := lostN l) (fun j hj => lost_eq)]
        cases h3 : fst? (lostN l) l.length with
        | some i => rfl
        | none =>
          simp only
          rw [fst_congr (q := cycN l) (fun j hj => cyc_eq (fun k hk => fst_spec h1 hk) (fun k hk => fst_spec h2 hk) hj)]
          cases h4 : fst? (cycN l) l.length <;> rfl
theorem new_code {l : List Pr} {i : Nat} {c : Int} (h : newE l = some (i, c)) : c ≠ 0 := by
  unfold newE at h
  split at h
  · cases h; decide
  · split at h
    · cases h; decide
    · split at h
      · cases h; decide
      · split at h
        · cases h; decide
        · rw [Option.map_eq_some_iff] at h
          obtain ⟨a, _, h⟩ := h
          cases h; decide
end Go.Proofs.Ytcpmeficpboklaa
