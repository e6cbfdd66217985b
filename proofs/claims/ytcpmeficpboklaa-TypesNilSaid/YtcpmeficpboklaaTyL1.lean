/-
  A part of the proofs of this seat's statements (TyL1); no conditions beyond those each theorem names.
-/
import Derived.Test.YtcpmeficpboklaaTyP1
set_option maxRecDepth 100000
set_option linter.unusedSimpArgs false
set_option linter.unusedVariables false
namespace Go.Proofs.Ytcpmeficpboklaa
open Go Go.W Go.Ty
theorem vw_one {w : World} {v : Value} : Vw (w.alloc (.cells #[v] 22)) (.slice (some ⟨w.heap.size, 0, none⟩) 1 1) (fun v => [v]) [v] := by
  refine .inr ⟨⟨w.heap.size, 0, none⟩, 1, rfl, by simp, fun _ => rfl, fun j u hj => ?_⟩
  rw [addr_add, Nat.zero_add, cell_blk alloc_new]
  rw [← Array.getElem?_toList]; exact hj
theorem vw_two {w : World} {u v : Value} : Vw (w.alloc (.cells #[u, v] 22)) (.slice (some ⟨w.heap.size, 0, none⟩) 2 2) (fun v => [v]) [u, v] := by
  refine .inr ⟨⟨w.heap.size, 0, none⟩, 2, rfl, by simp, fun _ => rfl, fun j u hj => ?_⟩
  rw [addr_add, Nat.zero_add, cell_blk alloc_new]
  rw [← Array.getElem?_toList]; exact hj
/-- large(pairs) -/
theorem large1 (pv : Value) (l : List Pr) (w : World) (hl : Vw w pv ep l) (hn : l.length ≤ 4611686018427387904) :
    Calls Try.prog 13 [.slice (some ⟨w.heap.size, 0, none⟩) 1 1].toArray (w.alloc (.cells #[pv] 22)) fun e w' => ∃ r, e = .returned r ∧ ((∃ b, r = .bool b) ∧ Kp [] w w') := by
  have k0 : Kp [] w (w.alloc (.cells #[pv] 22)) := (Kp.refl _ _).alloc _
  refine Calls.mono (large_spec _ [pv] _ vw_one (by simp) (fun v hv => ?_)) ?_
  · simp at hv; subst hv; exact ⟨l, hl.kp0 k0, hn⟩
  · rintro e w' ⟨r, rfl, h, hk⟩; exact ⟨_, rfl, h, k0.trans0 hk⟩
theorem large2 (pv qv : Value) (l li : List Pr) (w : World) (hl : Vw w pv ep l) (hn : l.length ≤ 4611686018427387904) (hq : Vw w qv ep li) (hm : li.length ≤ 4611686018427387904) :
    Calls Try.prog 13 [.slice (some ⟨w.heap.size, 0, none⟩) 2 2].toArray (w.alloc (.cells #[pv, qv] 22)) fun e w' => ∃ r, e = .returned r ∧ ((∃ b, r = .bool b) ∧ Kp [] w w') := by
  have k0 : Kp [] w (w.alloc (.cells #[pv, qv] 22)) := (Kp.refl _ _).alloc _
  refine Calls.mono (large_spec _ [pv, qv] _ vw_two (by simp) (fun v hv => ?_)) ?_
  · simp at hv
    rcases hv with rfl | rfl
    · exact ⟨l, hl.kp0 k0, hn⟩
    · exact ⟨li, hq.kp0 k0, hm⟩
  · rintro e w' ⟨r, rfl, h, hk⟩; exact ⟨_, rfl, h, k0.trans0 hk⟩
theorem law_declared (pv : Value) (l : List Pr) (w : World) (hl : Vw w pv ep l) (hn : l.length ≤ 4611686018427387904) (hsz : Sz l) (hm : HM w) :
    Calls Try.prog 3 [pv].toArray w fun e w' => ∃ v, e = .returned v ∧ v = .bool true ∧ Kp [] w w' := by
  refine enter Try.func3 mixed low3 (Nat.le_of_ble_eq_true rfl) ?_
  simp only [L3]
  simp [rowOf, hl.c1]
  refine cl_of (large1 pv l w hl hn) ?_
  rintro v w1 ⟨⟨b, rfl⟩, k1⟩
  cases b with
  | true =>
    simp
    refine cl_of (awake_spec w1 (hm.kp k1)) ?_
    rintro v w2 ⟨rfl, k2⟩
    simp
    exact k1.trans0 k2
  | false =>
    simp
    refine cl_of (awake_spec w1 (hm.kp k1)) ?_
    rintro v w2 ⟨rfl, k2⟩
    have k02 := k1.trans0 k2
    simp
    refine cl_of (new_spec pv l w2 (hl.kp0 k02) hn hsz (hm.kp k02)) ?_
    rintro v w3 h
    have k3 : Kp [] w2 w3 := by
      unfold NewP at h
      split at h
      · exact h.2
      · obtain ⟨f, b, _, hN⟩ := h
        exact hN.kp
    have k03 := k02.trans0 k3
    have href := new_ref l
    cases hE : newE l with
    | none =>
      simp only [NewP, hE] at h
      rw [hE] at href
      obtain ⟨f, b, rfl, hN⟩ := h
      simp
      refine cl_of (rnew_spec pv l w3 (hl.kp0 k03) hn) ?_
      rintro v w4 ⟨rfl, k4⟩
      simp [href]
      refine cl_of (num_nil w4) ?_
      rintro v w5 ⟨rfl, k5⟩
      simp
      exact (k03.trans0 k4).trans0 k5
    | some q =>
      obtain ⟨i, c⟩ := q
      have hc := new_code hE
      have hc' : (c != 0) = true := by simpa using hc
      simp only [NewP, hE] at h
      rw [hE] at href
      obtain ⟨rfl, _⟩ := h
      simp
      refine cl_of (rnew_spec pv l w3 (hl.kp0 k03) hn) ?_
      rintro v w4 ⟨rfl, k4⟩
      simp [href]
      refine cl_of (num_code w4 c) ?_
      rintro v w5 ⟨rfl, k5⟩
      simp [hc']
      exact (k03.trans0 k4).trans0 k5
end Go.Proofs.Ytcpmeficpboklaa
