/-
  A part of the proofs of this seat's statements (Walk5); no conditions beyond those each theorem names.
-/
import Derived.Test.YtgdkcdjdmgnjaaaWalk4
set_option maxRecDepth 100000
set_option linter.unusedSimpArgs false
set_option linter.unusedVariables false
namespace Go.Proofs.Ytgdkcdjdmgnjaaa
open Go Go.W Go.Pq
/-- The blocks of a queue are new since w. -/
theorem new_sub {w w1 : World} {F F' : List Nat} (hn : ∀ x ∈ F, w.heap.size ≤ x) (hs : Sub w1 F F') (hk : w.heap.size ≤ w1.heap.size) : ∀ x ∈ F', w.heap.size ≤ x := fun x hx => by
  rcases hs x hx with h | h
  · exact hn x h
  · omega
theorem awake_spec (w : World) : Calls Try.prog 10 [].toArray w fun e w' => ∃ v, e = .returned v ∧ v = .bool true ∧ Kp [] w w' := by
  refine enter Try.func10 mixed low10 (Nat.le_of_ble_eq_true rfl) ?_
  simp only [L10]
  simp
  refine cl_of (pq_new w) ?_
  rintro v w1 ⟨q, F1, rfl, h1, k1, f1⟩
  simp
  refine cl_of (pq_push h1 (by simp) (by omega) 5 0 1) ?_
  rintro v w2 ⟨rfl, F2, h2, k2, s2⟩
  have f2 := new_sub f1 s2 k1.size
  replace k2 : Kp [] w w2 := k1.trans' k2 (fun x hx => .inr (f1 x hx))
  simp
  refine cl_of (pq_push h2 (by simp [insS]) (by omega) 3 1 2) ?_
  rintro v w3 ⟨rfl, F3, h3, k3, s3⟩
  have f3 := new_sub f2 s3 k2.size
  replace k3 : Kp [] w w3 := k2.trans' k3 (fun x hx => .inr (f2 x hx))
  simp
  refine cl_of (pq_push h3 (by simp [insS, bef]) (by omega) 3 0 3) ?_
  rintro v w4 ⟨rfl, F4, h4, k4, s4⟩
  have f4 := new_sub f3 s4 k3.size
  replace k4 : Kp [] w w4 := k3.trans' k4 (fun x hx => .inr (f3 x hx))
  simp
  refine cl_of (pq_push h4 (by simp [insS, bef]) (by omega) 3 0 4) ?_
  rintro v w5 ⟨rfl, F5, h5, k5, s5⟩
  have f5 := new_sub f4 s5 k4.size
  replace k5 : Kp [] w w5 := k4.trans' k5 (fun x hx => .inr (f4 x hx))
  simp [insS, bef] at h5
  simp
  refine cl_of (pq_pop h5 (by simp)) ?_
  rintro v w6 ⟨rfl, h6, k6⟩
  replace k6 : Kp [] w w6 := k5.trans' k6 (fun x hx => .inr (f5 x hx))
  simp
  refine cl_of (pq_pop h6 (by simp)) ?_
  rintro v w7 ⟨rfl, h7, k7⟩
  replace k7 : Kp [] w w7 := k6.trans' k7 (fun x hx => .inr (f5 x hx))
  simp
  refine cl_of (pq_drop h7 (by simp) 4) ?_
  rintro v w8 ⟨rfl, F8, h8, k8, s8⟩
  have f8 := new_sub f5 s8 k7.size
  replace k8 : Kp [] w w8 := k7.trans' k8 (fun x hx => .inr (f5 x hx))
  simp [keep] at h8
  simp [keep]
  refine cl_of (pq_pop h8 (by simp)) ?_
  rintro v w9 ⟨rfl, h9, k9⟩
  replace k9 : Kp [] w w9 := k8.trans' k9 (fun x hx => .inr (f8 x hx))
  simp
  refine cl_of (pq_pop0 h9) ?_
  rintro v w10 ⟨rfl, k10⟩
  simp
  refine cl_of (is_spec 3 3 w10) ?_
  rintro v w11 ⟨rfl, k11⟩
  simp
  exact (k9.trans0 k10).trans0 k11
theorem nil_pop (w : World) : Calls Try.prog 14 [.pointer none].toArray w fun e w' => ∃ v, e = .returned v ∧ v = .tuple #[.int .i64 0, .int .i64 0, .int .i64 0, errV 3] ∧ Kp [] w w' := pop_none none w (by simp)
theorem nil_peek (w : World) : Calls Try.prog 16 [.pointer none].toArray w fun e w' => ∃ v, e = .returned v ∧ v = .tuple #[.int .i64 0, .int .i64 0, .int .i64 0, errV 3] ∧ Kp [] w w' := peek_none none w (by simp)
theorem law_nil (key tie item : Int) (w : World) : Calls Try.prog 9 [.int .i64 key, .int .i64 tie, .int .i64 item].toArray w fun e w' => ∃ v, e = .returned v ∧ v = .bool true ∧ Kp [] w w' := by
  refine enter Try.func9 mixed low9 (Nat.le_of_ble_eq_true rfl) ?_
  simp only [L9]
  simp
  refine cl_of (awake_spec w) ?_
  rintro v w1 ⟨rfl, k1⟩
  simp
  refine cl_of (nil_pop w1) ?_
  rintro v w2 ⟨rfl, k2⟩
  simp
  refine cl_of (nil_peek w2) ?_
  rintro v w3 ⟨rfl, k3⟩
  simp
  refine cl_of (push_nil key tie item w3) ?_
  rintro v w4 ⟨rfl, k4⟩
  simp
  refine cl_of (is_spec 3 3 w4) ?_
  rintro v w5 ⟨rfl, k5⟩
  simp
  refine cl_of (is_spec 3 3 w5) ?_
  rintro v w6 ⟨rfl, k6⟩
  simp
  refine cl_of (is_spec 3 3 w6) ?_
  rintro v w7 ⟨rfl, k7⟩
  simp
  refine cl_of (len_nil w7) ?_
  rintro v w8 ⟨rfl, k8⟩
  simp
  refine cl_of (drop_nil key w8) ?_
  rintro v w9 ⟨rfl, k9⟩
  simp
  exact (((((((k1.trans0 k2).trans0 k3).trans0 k4).trans0 k5).trans0 k6).trans0 k7).trans0 k8).trans0 k9
end Go.Proofs.Ytgdkcdjdmgnjaaa
