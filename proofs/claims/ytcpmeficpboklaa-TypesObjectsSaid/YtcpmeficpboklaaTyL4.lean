/-
  A part of the proofs of this seat's statements (TyL4); no conditions beyond those each theorem names.
-/
import Derived.Test.YtcpmeficpboklaaTyL2
set_option maxRecDepth 100000
set_option linter.unusedSimpArgs false
set_option linter.unusedVariables false
namespace Go.Proofs.Ytcpmeficpboklaa
open Go Go.W Go.Ty
/-- The head of a law: large, awake, New; what is left: the hierarchy. -/
theorem law_objects (pv qv : Value) (l li : List Pr) (t : ByteArray) (w : World) (hl : Vw w pv ep l) (hn : l.length ≤ 4611686018427387904) (hsz : Sz l) (hq : Vw w qv ep li) (hqn : li.length ≤ 4398046511104) (hqs : Sz li) (ht : t.size ≤ maxLen) (hm : HM w) :
    Calls Try.prog 6 [pv, qv, .string t].toArray w fun e w' => ∃ v, e = .returned v ∧ v = .bool true ∧ Kp [] w w' := by
  refine enter Try.func6 mixed low6 (Nat.le_of_ble_eq_true rfl) ?_
  simp only [L6]
  simp [rowOf, hl.c1, hq.c1]
  refine cl_of (large2 pv qv l li w hl hn hq (by omega)) ?_
  rintro v w1 ⟨⟨b, rfl⟩, k1⟩
  cases b with
  | true =>
    simp
    refine cl_of (awake_spec w1 (hm.kp k1)) ?_
    rintro v w2 ⟨rfl, k2⟩
    simp
    exact k1.trans0 k2
  | false =>
  simp
  refine cl_of (awake_spec w1 (hm.kp k1)) ?_
  rintro v w2 ⟨rfl, k2⟩
  have k02 := k1.trans0 k2
  simp
  refine cl_of (new_spec pv l w2 (hl.kp0 k02) hn hsz (hm.kp k02)) ?_
  rintro v w3 h
  cases hE : newE l with
  | some q =>
    simp only [NewP, hE] at h
    obtain ⟨rfl, k3⟩ := h
    simp
    exact k02.trans0 k3
  | none =>
  simp only [NewP, hE] at h
  obtain ⟨f, b, rfl, hN⟩ := h
  have hA := acc_of hE
  have hf3 := hN |> FAA.get
  have k03 := k02.trans0 hN.kp
  have h64 := hA.len
  have hl3 := hl.kp0 k03
  have hq3 := hq.kp0 k03
  simp
  refine cl_of (of_spec f b qv l li t w3 hf3 hsz hq3 hqs ht hqn hA) ?_
  rintro u w4 n4
  simp
  refine cl_of (rof_spec pv qv l li t w4 (hl3.kp0 n4.kp) (hq3.kp0 n4.kp) hqn hA) ?_
  rintro v w5 n5
  have hle := ofP_len l li t
  simp
  refine cl_of (texts_spec u v _ _ w5 (n4.own.vw.kp0 n5.kp) n5.own.vw (by omega) (by omega)) ?_
  rintro _ w6 ⟨rfl, k6⟩
  have k36 := (n4.kp.trans0 n5.kp).trans0 k6
  simp
  have hrs : rootS.size ≤ maxLen := by decide
  refine cl_of (of_spec f b qv l li rootS w6 (hf3.kp0 k36) hsz (hq3.kp0 k36) hqs hrs hqn hA) ?_
  rintro u w7 n7
  simp
  refine cl_of (rof_spec pv qv l li rootS w7 ((hl3.kp0 k36).kp0 n7.kp) ((hq3.kp0 k36).kp0 n7.kp) hqn hA) ?_
  rintro v w8 n8
  have hle := ofP_len l li rootS
  simp
  refine cl_of (texts_spec u v _ _ w8 (n7.own.vw.kp0 n8.kp) n8.own.vw (by omega) (by omega)) ?_
  rintro _ w9 ⟨rfl, k9⟩
  simp
  exact ((k03.trans0 k36).trans0 (n7.kp.trans0 n8.kp)).trans0 k9
end Go.Proofs.Ytcpmeficpboklaa
