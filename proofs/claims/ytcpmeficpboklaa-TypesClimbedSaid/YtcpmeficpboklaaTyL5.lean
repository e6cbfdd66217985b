/-
  A part of the proofs of this seat's statements (TyL5); no conditions beyond those each theorem names.
-/
import Derived.Test.YtcpmeficpboklaaTyL2
import Derived.Test.YtcpmeficpboklaaTyP2
set_option maxRecDepth 100000
set_option linter.unusedSimpArgs false
set_option linter.unusedVariables false
namespace Go.Proofs.Ytcpmeficpboklaa
open Go Go.W Go.Ty
/-- The head of a law: large, awake, New; what is left: the hierarchy. -/
theorem law_climbed (pv : Value) (l : List Pr) (w : World) (hl : Vw w pv ep l) (hn : l.length ≤ 4611686018427387904) (hsz : Sz l) (hm : HM w) :
    Calls Try.prog 5 [pv].toArray w fun e w' => ∃ v, e = .returned v ∧ v = .bool true ∧ Kp [] w w' := by
  refine enter Try.func5 mixed low5 (Nat.le_of_ble_eq_true rfl) ?_
  simp only [L5]
  simp [rowOf, hl.c1]
  refine cl_of (large1 pv l w hl hn) ?_
  rintro v w1 ⟨⟨b, rfl⟩, k1⟩
  cases b with
  | true =>
    simp
    refine cl_of (awake_spec w1 (hm.kp k1)) ?_
    rintro v w2 ⟨rfl, k2⟩
    simp
    exact k1.trans0 k2
  | false =>
  simp
  refine cl_of (awake_spec w1 (hm.kp k1)) ?_
  rintro v w2 ⟨rfl, k2⟩
  have k02 := k1.trans0 k2
  simp
  refine cl_of (new_spec pv l w2 (hl.kp0 k02) hn hsz (hm.kp k02)) ?_
  rintro v w3 h
  cases hE : newE l with
  | some q =>
    simp only [NewP, hE] at h
    obtain ⟨rfl, k3⟩ := h
    simp
    exact k02.trans0 k3
  | none =>
  simp only [NewP, hE] at h
  obtain ⟨f, b, rfl, hN⟩ := h
  have hA := acc_of hE
  have hf3 := hN |> FAA.get
  have k03 := k02.trans0 hN.kp
  have h64 := hA.len
  have hl3 := hl.kp0 k03
  simp
  refine for_len (l := l) (pv := pv) (enc := ep) (by omega) is_22 (fun k ρ w5 => ρ 3 = .pointer (some ⟨f, 0, none⟩) ∧ Kp [] w3 w5) (fun k ρ w1 h => hl3.kp0 h.2) (by simp) (by simp) ⟨by simp, Kp.refl _ _⟩ (by decide)
    (fun _ _ _ _ h => by simpa using h) (fun _ _ _ _ h => by simpa using h) ?_ ?_
  · rintro i ρ w5 hi hci hpi ⟨g3, kp5⟩
    have hl5 := hl3.kp0 kp5
    have gi := gp_at hi
    have hsi := hsz _ (List.mem_of_getElem? gi)
    have hh := hA.hasN hi
    have ht := hA.top hh
    have hle := hA.hgt_le (gp l i).1
    have hcl := cnt_all hA hh
    obtain ⟨a, ha⟩ : ∃ a, a = (gp l i).1 := ⟨_, rfl⟩
    have ga : (ep (gp l i))[0]? = some (.string a) := by rw [ha]; rfl
    rw [← ha] at hsi hh ht hle hcl
    simp (disch := omega) [g3, hci, hpi, hl5.idx, hl5.fld ep_len gi ga]
    refine loop_inv (fun m ρ w6 => ∃ k, m = hgt l a - k ∧ k ≤ hgt l a ∧ ρ 0 = pv ∧ ρ 3 = .pointer (some ⟨f, 0, none⟩) ∧ ρ 6 = .int .i64 i ∧ ρ 7 = .string (up l a k) ∧ ρ 8 = .int .i64 (k : Nat) ∧ ρ 9 = .int .i64 0 ∧ Kp [] w3 w6) (hgt l a)
      ⟨0, by omega, by omega, by simp [hpi], by simp [g3], by simp [hci], by simp [up], by simp, by simp, kp5⟩ ?_
    rintro m ρ w6 ⟨k, rfl, hk, f0, f3, f6, f7, f8, f9, kp6⟩
    have hl6 := hl3.kp0 kp6
    by_cases hr : up l a k = rootS
    · have hkn : k = hgt l a := by
        rcases Nat.lt_or_ge k (hgt l a) with h3 | h3
        · exact absurd hr (ht.low k h3)
        · omega
      subst hkn
      simp [f7, beq_root, hr]
      refine for_len (l := l) (pv := pv) (enc := ep) (by omega) is_22 (fun k ρ w7 => ρ 3 = .pointer (some ⟨f, 0, none⟩) ∧ ρ 6 = .int .i64 i ∧ ρ 8 = .int .i64 (hgt l a) ∧ ρ 9 = .int .i64 (cnt l a k : Nat) ∧ Kp [] w3 w7) (fun k ρ w1 h => hl3.kp0 h.2.2.2.2) (by simp) (by simp [f0]) ⟨by simp [f3], by simp [f6], by simp [f8], by simp [f9, cnt_zero], kp6⟩ (by decide)
        (fun _ _ _ _ h => by simpa using h) (fun _ _ _ _ h => by simpa using h) ?_ ?_
      · rintro j ρ w7 hj hcj hpj ⟨f3, f6, f8, f9, kp7⟩
        have k7 := kp7.drew
        have hl7 := hl3.kp0 k7
        have gj := gp_at hj
        have hsj := hsz _ (List.mem_of_getElem? gj)
        have hcs := cnt_succ (a := a) hj
        have hfl := cnt_le l a j
        simp (disch := omega) [f3, f6, hcj, hpj, hl7.idx, hl7.fld ep_len gi ga, hl7.fld ep_len gj (o := 0) rfl]
        refine cl_of (is_specP f b l a (gp l j).1 _ (hf3.kp0 k7) hsz hsi.1 hsj.1 hA) ?_
        rintro v w8 ⟨rfl, k8⟩
        by_cases h2 : isP l a (gp l j).1 = true
        · rw [if_pos h2] at hcs
          simp (disch := omega) [h2, f3, f6, f8, f9, hcj, hpj, wrap_i64]
          exact ⟨by rw [hcs]; omega, k7.trans0 k8⟩
        · rw [if_neg h2] at hcs
          have h2' : isP l a (gp l j).1 = false := by simpa using h2
          simp [h2', f3, f6, f8, f9, hcj, hpj]
          exact ⟨by rw [hcs]; omega, k7.trans0 k8⟩
      · rintro ρ w7 hpj ⟨f3, f6, f8, f9, kp7⟩
        rw [hcl] at f9
        simp [f3, f6, f8, f9, hpj]
        exact kp7
    have hkn : k < hgt l a := by
      rcases Nat.lt_or_ge k (hgt l a) with h3 | h3
      · exact h3
      · have : k = hgt l a := by omega
        rw [this] at hr; exact absurd ht.top hr
    simp [f7, beq_root, hr, f3]
    refine cl_of (parent_spec f b l (up l a k) w6 (hf3.kp0 kp6) (up_sz hsz hsi.1 k)) ?_
    rintro v w7 ⟨rfl, k7⟩
    have k37 := kp6.trans0 k7
    have hl7 := hl3.kp0 k37
    have hex := hA.ex (hA.has_up hh k hk) hr
    have hstep : ¬ ((l.length : Int) < k) := by omega
    simp (disch := omega) [hex, f8, f0, f3, f6, hl7.len, hstep, hl7.idx, hl7.fld ep_len gi ga]
    refine cl_of (is_specP f b l a (gm l (up l a k)) w7 (hf3.kp0 k37) hsz hsi.1 (gm_sz hsz _) hA) ?_
    rintro v w8 ⟨rfl, k8⟩
    have hi2 : isP l a (gm l (up l a k)) = true := isP_up hA hh (k := k + 1) (by omega)
    simp (disch := omega) [hi2, f0, f3, f6, f8, f9, wrap_i64]
    exact ⟨hgt l a - (k + 1), by omega, k + 1, rfl, by omega, rfl, by omega, k37.trans0 k8⟩
  · rintro ρ w5 hpi ⟨g3, kp5⟩
    simp [g3]
    refine cl_of (parent_spec f b l rootS w5 (hf3.kp0 kp5) (by decide)) ?_
    rintro v w6 ⟨rfl, k6⟩
    simp [hA.no_root]
    exact (k03.trans0 kp5).trans0 k6
end Go.Proofs.Ytcpmeficpboklaa
