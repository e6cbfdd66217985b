/-
  A part of the proofs of this seat's statements (RxWB); no conditions beyond those each theorem names.
-/
import Derived.Test.YtjpbkljnllkneaaRxWA
set_option maxRecDepth 100000
set_option linter.unusedSimpArgs false
set_option linter.unusedVariables false
namespace Go.Proofs.Ytjpbkljnllkneaa
open Go Go.W Go.Tk Go.Rx Go.Maps
def infV : Value := .int .i64 1125899906842624
def RetsTo (f : Nat) (args : List Value) (r : Value) (w : World) : Prop := Calls Try.prog f args.toArray w fun e w' => ∃ x, e = .returned x ∧ x = r ∧ Kp [] w w'
section
variable {w : World}
theorem facts_nil (sv : Value) : RetsTo 29 [.pointer none, sv] (.slice none 0 0) w := by
  unfold RetsTo
  refine enter Try.func29 mixed low29 (Nat.le_of_ble_eq_true rfl) ?_
  simp only [L29]
  simp
  try exact Kp.refl _ _
theorem max_nil (sv : Value) : RetsTo 17 [.pointer none, sv] (.int .i64 0) w := by
  unfold RetsTo
  refine enter Try.func17 mixed low17 (Nat.le_of_ble_eq_true rfl) ?_
  simp only [L17]
  simp
  try exact Kp.refl _ _
theorem levels_nil (sv : Value) : RetsTo 30 [.pointer none, sv] (.slice none 0 0) w := by
  unfold RetsTo
  refine enter Try.func30 mixed low30 (Nat.le_of_ble_eq_true rfl) ?_
  simp only [L30]
  simp
  try exact Kp.refl _ _
theorem reached_nil (sv wv : Value) : RetsTo 21 [.pointer none, sv, wv] (.bool false) w := by
  unfold RetsTo
  refine enter Try.func21 mixed low21 (Nat.le_of_ble_eq_true rfl) ?_
  simp only [L21]
  simp
  try exact Kp.refl _ _
theorem supporter_nil (sv : Value) (f : Fa) : RetsTo 25 [.pointer none, sv, faV f] (prV (-1, -1)) w := by
  unfold RetsTo
  refine enter Try.func25 mixed low25 (Nat.le_of_ble_eq_true rfl) ?_
  simp only [L25]
  simp [faV, prV]
  exact ((Kp.refl [] w).alloc _).drew
variable {b : Nat} {vars : List Nat} {goal : List Fc} {U : List Un} {vv gv fv uv nd fr : Value} {rs : List Ru} {ps : List (Cell1 × List Nat)}
theorem facts_bad (sv : Value) (s : List Int) (hR : RlR b vars goal U vv gv fv uv nd fr rs ps w) (hs : Vw w sv iE s) (hl : s.length ≤ 9223372036854775807) (hbad : stateB (vars.map iN) s = false) : RetsTo 29 [.pointer (some ⟨b, 0, none⟩), sv] (.slice none 0 0) w := by
  unfold RetsTo
  refine enter Try.func29 mixed low29 (Nat.le_of_ble_eq_true rfl) ?_
  simp only [L29]
  simp [cell_blk hR.obj]
  refine cl_of (tproper_spec vv sv _ _ (vw_n.2 hR.vvw) hs hl) ?_
  rintro _ w2 ⟨rfl, k2⟩
  rw [hbad]
  simp
  exact k2
theorem max_bad (sv : Value) (s : List Int) (hR : RlR b vars goal U vv gv fv uv nd fr rs ps w) (hs : Vw w sv iE s) (hl : s.length ≤ 9223372036854775807) (hbad : stateB (vars.map iN) s = false) : RetsTo 17 [.pointer (some ⟨b, 0, none⟩), sv] infV w := by
  unfold RetsTo
  refine enter Try.func17 mixed low17 (Nat.le_of_ble_eq_true rfl) ?_
  simp only [L17]
  simp [cell_blk hR.obj]
  refine cl_of (tproper_spec vv sv _ _ (vw_n.2 hR.vvw) hs hl) ?_
  rintro _ w2 ⟨rfl, k2⟩
  rw [hbad]
  simp [infV]
  exact k2
theorem levels_bad (sv : Value) (s : List Int) (hR : RlR b vars goal U vv gv fv uv nd fr rs ps w) (hs : Vw w sv iE s) (hl : s.length ≤ 9223372036854775807) (hbad : stateB (vars.map iN) s = false) : RetsTo 30 [.pointer (some ⟨b, 0, none⟩), sv] (.slice none 0 0) w := by
  unfold RetsTo
  refine enter Try.func30 mixed low30 (Nat.le_of_ble_eq_true rfl) ?_
  simp only [L30]
  simp [cell_blk hR.obj]
  refine cl_of (tproper_spec vv sv _ _ (vw_n.2 hR.vvw) hs hl) ?_
  rintro _ w2 ⟨rfl, k2⟩
  rw [hbad]
  simp
  exact k2
theorem reached_bad (sv wv : Value) (s : List Int) (hR : RlR b vars goal U vv gv fv uv nd fr rs ps w) (hs : Vw w sv iE s) (hl : s.length ≤ 9223372036854775807) (hbad : stateB (vars.map iN) s = false) : RetsTo 21 [.pointer (some ⟨b, 0, none⟩), sv, wv] (.bool false) w := by
  unfold RetsTo
  refine enter Try.func21 mixed low21 (Nat.le_of_ble_eq_true rfl) ?_
  simp only [L21]
  simp [cell_blk hR.obj]
  refine cl_of (tproper_spec vv sv _ _ (vw_n.2 hR.vvw) hs hl) ?_
  rintro _ w2 ⟨rfl, k2⟩
  rw [hbad]
  simp
  exact k2
theorem supporter_bad (sv : Value) (s : List Int) (f : Fa) (hR : RlR b vars goal U vv gv fv uv nd fr rs ps w) (hs : Vw w sv iE s) (hl : s.length ≤ 9223372036854775807) (hbad : stateB (vars.map iN) s = false) : RetsTo 25 [.pointer (some ⟨b, 0, none⟩), sv, faV f] (prV (-1, -1)) w := by
  unfold RetsTo
  refine enter Try.func25 mixed low25 (Nat.le_of_ble_eq_true rfl) ?_
  simp only [L25]
  have k1 : Kp [] w (w.alloc (.cells #[.int .i64 f.1, .int .i64 f.2] 57)) := (Kp.refl [] w).alloc _
  obtain ⟨w1, hw1⟩ : ∃ w1, w1 = w.alloc (.cells #[.int .i64 f.1, .int .i64 f.2] 57) := ⟨_, rfl⟩
  rw [← hw1] at k1
  have hR1 := hR.kp k1
  have hs1 := hs.kp0 k1
  simp [faV, ← hw1, cell_blk hR1.obj]
  refine cl_of (tproper_spec vv sv _ _ (vw_n.2 (hR1.kp ((Kp.refl [] w1).drew)).vvw) (hs1.kp0 ((Kp.refl [] w1).drew)) hl) ?_
  rintro _ w2 ⟨rfl, k2⟩
  have k2 : Kp [] w1 w2 := ((Kp.refl [] w1).drew).trans k2
  rw [hbad]
  simp [prV]
  exact k1.trans k2
end
end Go.Proofs.Ytjpbkljnllkneaa
