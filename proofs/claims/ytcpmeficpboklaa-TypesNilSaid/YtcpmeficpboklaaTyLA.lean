/-
  A part of the proofs of this seat's statements (TyLA); no conditions beyond those each theorem names.
-/
import Derived.Test.YtcpmeficpboklaaTyL2
import Derived.Test.YtcpmeficpboklaaTyN
import Derived.Test.YtcpmeficpboklaaTyP3
set_option maxRecDepth 100000
set_option linter.unusedSimpArgs false
set_option linter.unusedVariables false
namespace Go.Proofs.Ytcpmeficpboklaa
open Go Go.W Go.Ty
theorem parent_nil (x : ByteArray) (w : World) : Calls Try.prog 19 [.pointer none, .string x].toArray w fun e w' => ∃ v, e = .returned v ∧ v = .tuple #[.string ⟨#[]⟩, .bool false] ∧ Kp [] w w' := by
  refine enter Try.func19 mixed low19 (Nat.le_of_ble_eq_true rfl) ?_
  simp only [L19]
  simp
  exact Kp.refl _ _
theorem is_nil (x y : ByteArray) (w : World) : Calls Try.prog 23 [.pointer none, .string x, .string y].toArray w fun e w' => ∃ v, e = .returned v ∧ v = .bool false ∧ Kp [] w w' := by
  refine enter Try.func23 mixed low23 (Nat.le_of_ble_eq_true rfl) ?_
  simp only [L23]
  simp
  refine cl_of (has_nil x w) ?_
  rintro v w1 ⟨rfl, k1⟩
  simp
  exact k1
theorem common_nil (x y : ByteArray) (w : World) : Calls Try.prog 28 [.pointer none, .string x, .string y].toArray w fun e w' => ∃ v, e = .returned v ∧ v = .string ⟨#[]⟩ ∧ Kp [] w w' := by
  refine enter Try.func28 mixed low28 (Nat.le_of_ble_eq_true rfl) ?_
  simp only [L28]
  simp
  refine cl_of (has_nil x w) ?_
  rintro v w1 ⟨rfl, k1⟩
  simp
  exact k1
theorem fnames_nil (w : World) : Calls Try.prog 30 [.pointer none].toArray w fun e w' => ∃ v, e = .returned v ∧ v = .slice none 0 0 ∧ Kp [] w w' := by
  refine enter Try.func30 mixed low30 (Nat.le_of_ble_eq_true rfl) ?_
  simp only [L30]
  simp
  exact Kp.refl _ _
theorem of_nil (qv : Value) (li : List Pr) (t : ByteArray) (w : World) (hq : Vw w qv ep li) (hn : li.length ≤ 4398046511104) :
    Calls Try.prog 26 [.pointer none, qv, .string t].toArray w fun e w' => ∃ v, e = .returned v ∧ v = .slice none 0 0 ∧ Kp [] w w' := by
  refine enter Try.func26 mixed low26 (Nat.le_of_ble_eq_true rfl) ?_
  simp only [L26]
  simp [hq.len]
  refine range_loop (n := li.length) (by omega) (fun k ρ w1 => ρ 0 = .pointer none ∧ ρ 2 = .string t ∧ ρ 7 = .slice none 0 0 ∧ ρ 10 = qv ∧ Kp [] w w1) (by simp) (by simp)
    ⟨by simp, by simp, by simp, by simp, Kp.refl _ _⟩ (by decide) (fun _ _ _ _ h => by simpa using h) (fun _ _ _ _ h => by simpa using h) ?_ ?_
  · rintro k ρ w1 hk hc hlim ⟨g0, g2, g7, g10, kp⟩
    have hq1 := hq.kp0 kp
    simp (disch := omega) [g0, g2, g10, hc, hq1.idx, hq1.cells ep_len (gp_at hk), ep]
    refine st_obj alloc_new (by simp) (by simp) ?_
    simp
    intro w2 hk2 hs2 hb2
    have kk : Kp [] w1 w2 := ((Kp.refl [] w1).alloc _).trans' hk2 (fun x hx => .inr (by simp at hx; omega))
    simp [cell_blk hb2, g0, g2]
    refine cl_of (is_nil (gp li k).2 t w2) ?_
    rintro v w3 ⟨rfl, k3⟩
    simp [hc, hlim, g0, g2, g7, g10]
    exact (kp.trans0 kk).trans0 k3
  · rintro ρ w1 ⟨g0, g2, g7, g10, kp⟩
    simp [g7]
    exact kp
theorem law_nil (qv : Value) (li : List Pr) (t : ByteArray) (w : World) (hq : Vw w qv ep li) (hqn : li.length ≤ 4398046511104) (hqs : Sz li) (ht : t.size ≤ maxLen) (hm : HM w) :
    Calls Try.prog 12 [qv, .string t].toArray w fun e w' => ∃ v, e = .returned v ∧ v = .bool true ∧ Kp [] w w' := by
  refine enter Try.func12 mixed low12 (Nat.le_of_ble_eq_true rfl) ?_
  simp only [L12]
  have he : (⟨#[]⟩ : ByteArray).toList = [] := by rw [ByteArray.toList_eq]
  simp [rowOf, hq.c1]
  refine cl_of (large1 qv li w hq (by omega)) ?_
  rintro v w1 ⟨⟨b, rfl⟩, k1⟩
  cases b with
  | true =>
    simp
    refine cl_of (awake_spec w1 (hm.kp k1)) ?_
    rintro v w2 ⟨rfl, k2⟩
    simp
    exact k1.trans0 k2
  | false =>
  simp
  refine cl_of (awake_spec w1 (hm.kp k1)) ?_
  rintro v w2 ⟨rfl, k2⟩
  have k02 := k1.trans0 k2
  simp
  refine cl_of (parent_nil t w2) ?_
  rintro v w3 ⟨rfl, k3⟩
  simp
  refine cl_of (has_nil t w3) ?_
  rintro v w4 ⟨rfl, k4⟩
  simp
  refine cl_of (has_nil rootS w4) ?_
  rintro v w5 ⟨rfl, k5⟩
  simp
  refine cl_of (is_nil t t w5) ?_
  rintro v w6 ⟨rfl, k6⟩
  simp [he]
  refine cl_of (common_nil t rootS w6) ?_
  rintro v w7 ⟨rfl, k7⟩
  simp [he]
  refine cl_of (fnames_nil w7) ?_
  rintro v w8 ⟨rfl, k8⟩
  have k08 := ((((k02.trans0 k3).trans0 k4).trans0 k5).trans0 k6).trans0 (k7.trans0 k8)
  simp
  refine cl_of (of_nil qv li t w8 (hq.kp0 k08) hqn) ?_
  rintro v w9 ⟨rfl, k9⟩
  simp
  exact k08.trans0 k9
end Go.Proofs.Ytcpmeficpboklaa
