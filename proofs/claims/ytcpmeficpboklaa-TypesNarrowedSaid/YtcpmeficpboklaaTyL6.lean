/-
  A part of the proofs of this seat's statements (TyL6); no conditions beyond those each theorem names.
-/
import Derived.Test.YtcpmeficpboklaaTyL2
import Derived.Test.YtcpmeficpboklaaTyP2
set_option maxRecDepth 100000
set_option linter.unusedSimpArgs false
set_option linter.unusedVariables false
namespace Go.Proofs.Ytcpmeficpboklaa
open Go Go.W Go.Ty
/-- The head of a law: large, awake, New; what is left: the hierarchy. -/
theorem law_narrowed (pv qv : Value) (l li : List Pr) (w : World) (hl : Vw w pv ep l) (hn : l.length ≤ 4611686018427387904) (hsz : Sz l) (hq : Vw w qv ep li) (hqn : li.length ≤ 4398046511104) (hqs : Sz li) (hm : HM w) :
    Calls Try.prog 7 [pv, qv].toArray w fun e w' => ∃ v, e = .returned v ∧ v = .bool true ∧ Kp [] w w' := by
  refine enter Try.func7 mixed low7 (Nat.le_of_ble_eq_true rfl) ?_
  simp only [L7]
  simp [rowOf, hl.c1, hq.c1]
  refine cl_of (large2 pv qv l li w hl hn hq (by omega)) ?_
  rintro v w1 ⟨⟨b, rfl⟩, k1⟩
  cases b with
  | true =>
    simp
    refine cl_of (awake_spec w1 (hm.kp k1)) ?_
    rintro v w2 ⟨rfl, k2⟩
    simp
    exact k1.trans0 k2
  | false =>
  simp
  refine cl_of (awake_spec w1 (hm.kp k1)) ?_
  rintro v w2 ⟨rfl, k2⟩
  have k02 := k1.trans0 k2
  simp
  refine cl_of (new_spec pv l w2 (hl.kp0 k02) hn hsz (hm.kp k02)) ?_
  rintro v w3 h
  cases hE : newE l with
  | some q =>
    simp only [NewP, hE] at h
    obtain ⟨rfl, k3⟩ := h
    simp
    exact k02.trans0 k3
  | none =>
  simp only [NewP, hE] at h
  obtain ⟨f, b, rfl, hN⟩ := h
  have hA := acc_of hE
  have hf3 := hN |> FAA.get
  have k03 := k02.trans0 hN.kp
  have h64 := hA.len
  have hl3 := hl.kp0 k03
  have hq3 := hq.kp0 k03
  have hrs : rootS.size ≤ maxLen := by decide
  simp
  refine for_len (l := li) (pv := qv) (enc := ep) (by omega) is_22 (fun k ρ w5 => ρ 0 = pv ∧ ρ 5 = .pointer (some ⟨f, 0, none⟩) ∧ ρ 8 = .int .i64 (cntH l li k : Nat) ∧ Kp [] w3 w5) (fun k ρ w1 h => hq3.kp0 h.2.2.2) (by simp) (by simp) ⟨by simp, by simp, by simp [cntH_zero], Kp.refl _ _⟩ (by decide)
    (fun _ _ _ _ h => by simpa using h) (fun _ _ _ _ h => by simpa using h) ?_ ?_
  · rintro i ρ w5 hi hci hpi ⟨g0, g5, g8, kp5⟩
    have hq5 := hq3.kp0 kp5
    have gi := gp_at hi
    have hsi := hqs _ (List.mem_of_getElem? gi)
    have hcs := cntH_succ hA hi
    have hcl := cntH_le l li i
    simp (disch := omega) [g0, g5, g8, hci, hpi, hq5.idx, hq5.fld ep_len gi (o := 1) rfl]
    refine cl_of (has_spec f b l (gp li i).2 w5 (hf3.kp0 kp5) hsi.2) ?_
    rintro v w6 ⟨rfl, k6⟩
    by_cases h2 : hasB l (gp li i).2 = true
    · rw [if_pos h2] at hcs
      simp (disch := omega) [h2, g0, g5, g8, hci, hpi, wrap_i64]
      exact ⟨by rw [hcs]; omega, kp5.trans0 k6⟩
    · rw [if_neg h2] at hcs
      have h2' : hasB l (gp li i).2 = false := by simpa using h2
      simp [h2', g0, g5, g8, hci, hpi]
      exact ⟨by rw [hcs]; omega, kp5.trans0 k6⟩
  · rintro ρ w5 hpi ⟨g0, g5, g8, kp5⟩
    simp [g5, hpi]
    refine cl_of (of_spec f b qv l li rootS w5 (hf3.kp0 kp5) hsz (hq3.kp0 kp5) hqs hrs hqn hA) ?_
    rintro u w6 n6
    have k36 := kp5.trans0 n6.kp
    simp [n6.own.len, cntH_all, g0, g5, g8, hpi]
    refine for_len (l := l) (pv := pv) (enc := ep) (by omega) is_22 (fun k ρ w7 => ρ 1 = qv ∧ ρ 5 = .pointer (some ⟨f, 0, none⟩) ∧ Kp [] w3 w7) (fun k ρ w1 h => hl3.kp0 h.2.2) (by simp) (by simp [g0]) ⟨by simp [hpi], by simp [g5], k36⟩ (by decide)
      (fun _ _ _ _ h => by simpa using h) (fun _ _ _ _ h => by simpa using h) ?_ ?_
    · rintro i ρ w7 hi hci hpi ⟨g1, g5, kp7⟩
      have gi := gp_at hi
      have hsi := hsz _ (List.mem_of_getElem? gi)
      have k37 := kp7.drew
      have hl7 := hl3.kp0 k37
      simp (disch := omega) [g1, g5, hci, hpi, hl7.idx, hl7.fld ep_len gi (o := 0) rfl, hl7.fld ep_len gi (o := 1) rfl]
      refine ⟨?_, ?_⟩
      all_goals
        refine cl_of (of_spec f b qv l li (gp l i).1 _ (hf3.kp0 k37) hsz (hq3.kp0 k37) hqs hsi.1 hqn hA) ?_
        rintro x w8 n8
        have k38 := k37.trans0 n8.kp
        have hl8 := hl3.kp0 k38
        simp (disch := omega) [g1, g5, hci, hpi, hl8.idx, hl8.fld ep_len gi (o := 0) rfl, hl8.fld ep_len gi (o := 1) rfl]
        refine cl_of (of_spec f b qv l li (gp l i).2 w8 (hf3.kp0 k38) hsz (hq3.kp0 k38) hqs hsi.2 hqn hA) ?_
        rintro y w9 n9
        have k39 := k38.trans0 n9.kp
        have hsub := ofP_sub hA hi li
        have hxl := ofP_len l li (gp l i).1
        have hyl := ofP_len l li (gp l i).2
        have hx9 := n8.own.vw.kp0 n9.kp
        have hy9 := n9.own.vw
        obtain ⟨xs, hxs⟩ : ∃ xs, xs = ofP l li (gp l i).1 := ⟨_, rfl⟩
        obtain ⟨ys, hys⟩ : ∃ ys, ys = ofP l li (gp l i).2 := ⟨_, rfl⟩
        rw [← hxs] at hsub hxl hx9
        rw [← hys] at hsub hyl hy9
        simp
        refine loop_inv (fun m ρ w10 => ∃ j k, m = ys.length - j ∧ j ≤ ys.length ∧ k ≤ xs.length ∧ List.Sublist (xs.drop k) (ys.drop j) ∧ ρ 0 = pv ∧ ρ 1 = qv ∧ ρ 5 = .pointer (some ⟨f, 0, none⟩) ∧ ρ 10 = .int .i64 i ∧ ρ 11 = x ∧ ρ 12 = y ∧ ρ 13 = .int .i64 (k : Nat) ∧ ρ 14 = .int .i64 (j : Nat) ∧ Kp [] w9 w10) ys.length
          ⟨0, 0, by omega, by omega, by omega, hsub, by simp [hpi], by simp [g1], by simp [g5], by simp [hci], by simp, by simp, by simp, by simp, Kp.refl _ _⟩ ?_
        rintro m ρ w10 ⟨j, k, rfl, hj, hk, hsub, f0, f1, f5, f10, f11, f12, f13, f14, kp10⟩
        have k10 := kp10.drew
        have hx10 := hx9.kp0 k10
        have hy10 := hy9.kp0 k10
        have hx10' := hx9.kp0 kp10
        have hy10' := hy9.kp0 kp10
        have k3a := k39.trans0 kp10
        by_cases hjl : j < ys.length
        case neg =>
          have hke := sub_end hk (by omega) hsub
          have hjl' : ¬ (j : Int) < ys.length := by omega
          simp [f11, f12, f13, f14, hy10'.len, hjl, hjl', hx10'.len, hke, f0, f1, f5, f10]
          exact k3a
        have hjl' : (j : Int) < ys.length := by omega
        by_cases hkl : k < xs.length
        case neg =>
          have hke : k = xs.length := by omega
          have hkl' : ¬ (k : Int) < xs.length := by omega
          simp [f11, f12, f13, f14, hy10'.len, hjl, hjl', hx10'.len, hke, f0, f1, f5, f10]
          exact k3a
        have hkl' : (k : Int) < xs.length := by omega
        have ek : xs[k]? = some xs[k] := List.getElem?_eq_getElem hkl
        have ej : ys[j]? = some ys[j] := List.getElem?_eq_getElem hjl
        have hst := sub_step ek ej hsub
        simp (disch := omega) [f11, f12, f13, f14, hy10'.len, hjl, hjl', hx10'.len, hkl, hkl', hx10.idx, hy10.idx, es_cell hx10 ek, es_cell hy10 ej, beq_str]
        by_cases he : ys[j] = xs[k]
        · rw [if_pos he] at hst
          simp (disch := omega) [he, f0, f1, f5, f10, f11, f12, f13, f14, wrap_i64]
          exact ⟨ys.length - (j + 1), by omega, j + 1, rfl, by omega, k + 1, by omega, hst, by omega, by omega, k10⟩
        · rw [if_neg he] at hst
          simp (disch := omega) [he, f0, f1, f5, f10, f11, f12, f13, f14, wrap_i64]
          exact ⟨ys.length - (j + 1), by omega, j + 1, rfl, by omega, k, by omega, hst, by omega, by omega, k10⟩
    · rintro ρ w7 hpi ⟨g1, g5, kp7⟩
      simp
      exact k03.trans0 kp7
end Go.Proofs.Ytcpmeficpboklaa
