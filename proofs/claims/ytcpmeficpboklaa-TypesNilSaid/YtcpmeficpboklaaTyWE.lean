/-
  A part of the proofs of this seat's statements (TyWE); no conditions beyond those each theorem names.
-/
import Derived.Test.YtcpmeficpboklaaTyWD
import Derived.Test.YtcpmeficpboklaaLibD
set_option maxRecDepth 100000
set_option linter.unusedSimpArgs false
set_option linter.unusedVariables false
namespace Go.Proofs.Ytcpmeficpboklaa
open Go Go.W Go.Ty
def rdupN (l : List Pr) (k : Nat) : Bool := decide (fndI l (gp l k).1 < k)
def rlostN (l : List Pr) (k : Nat) : Bool := decide ((gp l k).2 ≠ rootS) && decide (fndI l (gp l k).2 < 0)
def rcycN (l : List Pr) (k : Nat) : Bool := rcycR l (gp l k).1 l.length (gp l k).2
def refE (l : List Pr) : Nat × Int :=
  if 64 < l.length then (0, 5) else
  match fst? (badN l) l.length with
  | some i => (i, 8)
  | none => match fst? (rdupN l) l.length with
    | some i => (i, 4)
    | none => match fst? (rlostN l) l.length with
      | some i => (i, 3)
      | none => match fst? (rcycN l) l.length with
        | some i => (i, 21)
        | none => (0, 0)
theorem rnew_spec (pv : Value) (l : List Pr) (w : World) (hl : Vw w pv ep l) (hn : l.length ≤ 4611686018427387904) :
    Calls Try.prog 16 [pv].toArray w fun e w' => ∃ v, e = .returned v ∧ v = .tuple #[.int .i64 (refE l).1, .int .i64 (refE l).2] ∧ Kp [] w w' := by
  refine enter Try.func16 mixed low16 (Nat.le_of_ble_eq_true rfl) ?_
  simp only [L16]
  by_cases h64 : 64 < l.length
  · have h64' : (64 : Int) < l.length := by omega
    simp [hl.len, h64']
    exact ⟨by simp [refE, h64], Kp.refl _ _⟩
  have h64' : ¬ (64 : Int) < l.length := by omega
  simp [hl.len, h64']
  refine for_len (l := l) (pv := pv) (enc := ep) hn is_22 (fun k ρ w1 => (∀ j, j < k → badN l j = false) ∧ Kp [] w w1) (fun k ρ w1 h => hl.kp0 h.2) (by simp) (by simp) ⟨by simp, Kp.refl _ _⟩ (by decide)
    (fun _ _ _ _ h => by simpa using h) (fun _ _ _ _ h => by simpa using h) ?_ ?_
  · rintro k ρ w1 hk hc hp ⟨hall, hkp⟩
    have hl1 := hl.kp0 hkp
    have good : badN l k = false → ∀ j, j < k + 1 → badN l j = false := fun hb j hj => by
      rcases Nat.lt_or_ge j k with h | h
      · exact hall j h
      · have : j = k := by omega
        subst this; exact hb
    have bad : badN l k = true → refE l = (k, 8) := fun hb => by simp [refE, h64, fst_some hk hall hb]
    simp (disch := omega) [hc, hp, hl1.idx, hl1.fld ep_len (gp_at hk) (o := 0) rfl]
    refine cl_of (rname_spec (gp l k).1 w1) ?_
    rintro v w2 ⟨rfl, k2⟩
    have hl2 := hl1.kp0 k2
    have hk2 := hkp.trans0 k2
    by_cases b1 : nameB (gp l k).1 = true
    case neg =>
      have b1' : nameB (gp l k).1 = false := by simpa using b1
      simp [b1', hc]
      rw [bad (by simp [badN, b1'])]
      exact ⟨⟨rfl, rfl⟩, hk2⟩
    simp (disch := omega) [b1, hc, hp, hl2.idx, hl2.fld ep_len (gp_at hk) (o := 1) rfl]
    refine cl_of (rname_spec (gp l k).2 w2) ?_
    rintro v w3 ⟨rfl, k3⟩
    have hl3 := hl2.kp0 k3
    have hk3 := hk2.trans0 k3
    by_cases b3 : nameB (gp l k).2 = true
    · simp [b1, b3, hc, hp]
      exact ⟨good (by simp [badN, b1, b3]), hk3⟩
    have b3' : nameB (gp l k).2 = false := by simpa using b3
    simp (disch := omega) [b1, b3', hc, hp, hl3.idx, hl3.fld ep_len (gp_at hk) (o := 1) rfl, beq_root]
    by_cases b2 : (gp l k).2 = rootS
    · simp [b1, b3', b2, hc, hp]
      exact ⟨good (by simp [badN, b1, b2]), hk3⟩
    · simp [b1, b3', b2, hc, hp]
      rw [bad (by simp [badN, b1, b2, b3'])]
      exact ⟨⟨rfl, rfl⟩, hk3⟩
  · rintro ρ w1 hp ⟨hall, hkp⟩
    have hE1 : fst? (badN l) l.length = none := fst_none hall
    have hl1 := hl.kp0 hkp
    simp
    refine for_len (l := l) (pv := pv) (enc := ep) hn is_22 (fun k ρ w1 => (∀ j, j < k → rdupN l j = false) ∧ Kp [] w w1) (fun k ρ w1 h => hl.kp0 h.2) (by simp) (by simp [hp]) ⟨by simp, hkp⟩ (by decide)
      (fun _ _ _ _ h => by simpa using h) (fun _ _ _ _ h => by simpa using h) ?_ ?_
    · rintro k ρ w1 hk hc hp ⟨hall, hkp⟩
      have hl1 := hl.kp0 hkp
      simp (disch := omega) [hc, hp, hl1.idx, hl1.fld ep_len (gp_at hk) (o := 0) rfl]
      refine cl_of (find_spec pv l (gp l k).1 w1 hl1 (by omega)) ?_
      rintro v w2 ⟨rfl, k2⟩
      have hk2 := hkp.trans0 k2
      by_cases hd : fndI l (gp l k).1 < k
      · have hE : refE l = (k, 4) := by simp [refE, h64, hE1, fst_some hk hall (show rdupN l k = true by simp [rdupN, hd])]
        simp [hc, hd]
        rw [hE]
        exact ⟨⟨rfl, rfl⟩, hk2⟩
      · simp [hc, hd, hp]
        refine ⟨fun j hj => ?_, hk2⟩
        rcases Nat.lt_or_ge j k with h | h
        · exact hall j h
        · have : j = k := by omega
          subst this; simp [rdupN, hd]
    rintro ρ w1 hp ⟨hall2, hkp⟩
    have hE2 : fst? (rdupN l) l.length = none := fst_none hall2
    simp
    refine for_len (l := l) (pv := pv) (enc := ep) hn is_22 (fun k ρ w1 => (∀ j, j < k → rlostN l j = false) ∧ Kp [] w w1) (fun k ρ w1 h => hl.kp0 h.2) (by simp) (by simp [hp]) ⟨by simp, hkp⟩ (by decide)
      (fun _ _ _ _ h => by simpa using h) (fun _ _ _ _ h => by simpa using h) ?_ ?_
    · rintro k ρ w1 hk hc hp ⟨hall, hkp⟩
      have hl1 := hl.kp0 hkp
      have good : rlostN l k = false → ∀ j, j < k + 1 → rlostN l j = false := fun hb j hj => by
        rcases Nat.lt_or_ge j k with h | h
        · exact hall j h
        · have : j = k := by omega
          subst this; exact hb
      by_cases b2 : (gp l k).2 = rootS
      · simp (disch := omega) [hc, hp, hl1.idx, hl1.fld ep_len (gp_at hk) (o := 1) rfl, beq_root]
        simp [b2, hc, hp, beq_root]
        exact ⟨good (by simp [rlostN, b2]), hkp⟩
      simp (disch := omega) [hc, hp, hl1.idx, hl1.fld ep_len (gp_at hk) (o := 1) rfl, beq_root]
      simp (disch := omega) [b2, hc, hp, hl1.idx, hl1.fld ep_len (gp_at hk) (o := 1) rfl, beq_root]
      refine cl_of (find_spec pv l (gp l k).2 w1 hl1 (by omega)) ?_
      rintro v w2 ⟨rfl, k2⟩
      have hk2 := hkp.trans0 k2
      by_cases hd : fndI l (gp l k).2 < 0
      · have hE : refE l = (k, 3) := by simp [refE, h64, hE1, hE2, fst_some hk hall (show rlostN l k = true by simp [rlostN, hd, b2])]
        simp [hc, hd, b2, beq_root]
        rw [hE]
        exact ⟨⟨rfl, rfl⟩, hk2⟩
      · simp [hc, hd, hp, b2, beq_root]
        exact ⟨good (by simp [rlostN, hd]), hk2⟩
    rintro ρ w1 hp ⟨hall3, hkp⟩
    have hE3 : fst? (rlostN l) l.length = none := fst_none hall3
    have hful : Ful l := fun k hk => by
      have := hall3 k hk
      by_cases b2 : (gp l k).2 = rootS
      · simp [hasB, b2]
      · rcases fnd_cases l (gp l k).2 with ⟨h1, h2, h3⟩ | ⟨j, h1, h2, h3, h4, h5⟩
        · simp [rlostN, b2, h1] at this
        · simp [hasB, h4]
    simp
    refine for_len (l := l) (pv := pv) (enc := ep) hn is_22 (fun k ρ w1 => (∀ j, j < k → rcycN l j = false) ∧ Kp [] w w1) (fun k ρ w1 h => hl.kp0 h.2) (by simp) (by simp [hp]) ⟨by simp, hkp⟩ (by decide)
      (fun _ _ _ _ h => by simpa using h) (fun _ _ _ _ h => by simpa using h) ?_ ?_
    · rintro k ρ w1 hk hc hp ⟨hall, hkp⟩
      have hl1 := hl.kp0 hkp
      simp [hc, hp]
      refine cl_of (rcyclic_spec pv l k w1 hl1 (by omega) hk hful) ?_
      rintro v w2 ⟨rfl, k2⟩
      have hk2 := hkp.trans0 k2
      by_cases hd : rcycN l k = true
      · have hE : refE l = (k, 21) := by simp [refE, h64, hE1, hE2, hE3, fst_some hk hall hd]
        simp [hc, show rcycR l (gp l k).1 l.length (gp l k).2 = true from hd]
        rw [hE]
        exact ⟨⟨rfl, rfl⟩, hk2⟩
      · have hd' : rcycN l k = false := by simpa using hd
        simp [hc, hp, show rcycR l (gp l k).1 l.length (gp l k).2 = false from hd']
        refine ⟨fun j hj => ?_, hk2⟩
        rcases Nat.lt_or_ge j k with h | h
        · exact hall j h
        · have : j = k := by omega
          subst this; exact hd'
    rintro ρ w1 hp ⟨hall4, hkp⟩
    have hE4 : fst? (rcycN l) l.length = none := fst_none hall4
    simp
    exact ⟨by simp [refE, h64, hE1, hE2, hE3, hE4], hkp⟩
end Go.Proofs.Ytcpmeficpboklaa
