/-
  A part of the proofs of this seat's statements (WalkC); no conditions beyond those each theorem names.
-/
import Derived.Test.YtgdkcdjdmgnjaaaWalkB
set_option maxRecDepth 100000
set_option linter.unusedSimpArgs false
set_option linter.unusedVariables false
namespace Go.Proofs.Ytgdkcdjdmgnjaaa
open Go Go.W Go.Pq
theorem rdrop_spec (lv : Value) (S : List En) (key : Int) (w : World) (hl : Vw w lv er S) (hn : S.length ≤ 65536) :
    Calls Try.prog 17 [lv, .int .i64 key].toArray w fun en w' => ∃ v, en = .returned v ∧ New w (Star (OwnA v 34 3 er (keep key S)) Emp) w' := by
  refine enter Try.func17 mixed low17 (Nat.le_of_ble_eq_true rfl) ?_
  simp only [L17]
  simp [hl.len]
  refine range_loop (n := S.length) (by omega) (fun k ρ w1 => ρ 1 = .int .i64 key ∧ ρ 8 = lv ∧ New w (Star (OwnA (ρ 5) 34 3 er (keep key (S.take k))) Emp) w1)
    (by simp) (by simp) ⟨by simp, by simp, by simpa [keep] using New.nil Lcl.emp (New.emp (Kp.refl _ _))⟩ (by decide) (fun _ _ _ _ h => by simpa using h) (fun _ _ _ _ h => by simpa using h) ?_ ?_
  · rintro k ρ w1 hk hc hlim ⟨h1, h8, ho⟩
    have hl1 := hl.kp0 ho.kp
    have hs := keep_succ key S hk
    simp (disch := omega) [hc, h8, hl1.idx, hl1.cells er_len (gt_at hk), er_len]
    refine st_obj alloc_new (by simp [er]) (er_one _) ?_
    intro w2 hk2 hs2 ho2
    simp [er] at ho2
    have hk12 : Kp [] w1 w2 := (((Kp.refl [] w1).alloc _).trans' hk2 (by simp))
    have hoE := ho.kp0 (Lcl.own.star Lcl.emp) hk12
    simp [cell_blk ho2, h1]
    refine cd_split (fun h => ?_) (fun h => ?_)
    · have hc4 : cellsAt w2 ⟨w1.heap.size, 0, none⟩ 0 3 = some (er (gt S k)) := by simp [cellsAt, cell_blk ho2, er]
      simp [hc4, er_len]
      simp only [er, wrAt_cons, wrAt_nil]
      simp
      rw [if_pos (by simpa using h)] at hs
      have hlen := keep_le key (S.take k)
      have hlen2 : (S.take k).length ≤ S.length := by simp; omega
      refine New.append (xs := [gt S k]) Lcl.emp (hoE.kp0 (Lcl.own.star Lcl.emp) ((Kp.refl [] w2).alloc (.cells (er (gt S k)).toArray 34))) er_len er_one sl_26 rfl (fun j u hj => ?_) (by omega) (by unfold maxLen; omega) ?_
      · rw [addr_add, Nat.zero_add, cell_blk alloc_new]
        simpa using hj
      intro v' w3 h3
      simp [hc, hlim, h1, h8]
      rw [hs]; exact h3
    · rw [if_neg (by simpa using h), List.append_nil] at hs
      simp [hc, hlim, h1, h8]
      rw [hs]; exact hoE
  · rintro ρ w1 ⟨h1, h8, ho⟩
    rw [List.take_length] at ho
    simp
    exact ho
theorem first_nil (lv : Value) (w : World) (hl : Vw w lv er []) : Calls Try.prog 15 [lv, .int .i64 0, .int .i64 0, .int .i64 0, errV 3].toArray w fun e w' => ∃ v, e = .returned v ∧ v = .bool true ∧ Kp [] w w' := by
  refine enter Try.func15 mixed low15 (Nat.le_of_ble_eq_true rfl) ?_
  simp only [L15]
  simp [hl.len]
  refine cl_of (is_spec 3 3 w) ?_
  rintro v w5 ⟨rfl, k5⟩
  simp
  exact k5
theorem first_cons (lv : Value) (x : En) (s : List En) (w : World) (hl : Vw w lv er (x :: s)) : Calls Try.prog 15 [lv, .int .i64 x.key, .int .i64 x.tie, .int .i64 x.item, .nilIface].toArray w fun e w' => ∃ v, e = .returned v ∧ v = .bool true ∧ Kp [] w w' := by
  refine enter Try.func15 mixed low15 (Nat.le_of_ble_eq_true rfl) ?_
  simp only [L15]
  have hne : ((s.length : Int) + 1 == 0) = false := by simp; omega
  have h0 : ((0 : Int) < (x :: s).length) := by simp
  have hc := hl.cells er_len (k := 0) (x := x) rfl
  simp at hc
  simp (disch := omega) [hl.len, hne, hl.idx, hc, er_len]
  simp [er]
  refine eq34 _ _ _ _ _ _ ?_
  simp
  exact Kp.refl _ _
end Go.Proofs.Ytgdkcdjdmgnjaaa
