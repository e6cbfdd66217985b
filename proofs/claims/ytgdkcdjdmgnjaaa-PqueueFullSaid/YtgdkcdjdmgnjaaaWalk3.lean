/-
  A part of the proofs of this seat's statements (Walk3); no conditions beyond those each theorem names.
-/
import Derived.Test.YtgdkcdjdmgnjaaaWalk2
import Derived.Test.YtgdkcdjdmgnjaaaLib8
set_option maxRecDepth 100000
set_option linter.unusedSimpArgs false
set_option linter.unusedVariables false
namespace Go.Proofs.Ytgdkcdjdmgnjaaa
open Go Go.W Go.Pq
/-- i downs, from number i - 1 to 0. -/
def downs : Nat → List En → List En
  | 0, l => l
  | i + 1, l => downs i (downL l i)
theorem downL_len (l : List En) (i : Nat) : (downL l i).length = l.length := by
  induction l, i using downL.induct with
  | case1 l i h => rw [downL, dif_pos h]
  | case2 l i h h2 ih => rw [downL, dif_neg h, if_pos h2, ih]; simp
  | case3 l i h h2 => rw [downL, dif_neg h, if_neg h2]
def keep (key : Int) (l : List En) : List En := l.filter fun x => decide (x.key < key)
theorem keep_succ (key : Int) (l : List En) {k : Nat} (h : k < l.length) : keep key (l.take (k + 1)) = keep key (l.take k) ++ if (gt l k).key < key then [gt l k] else [] := by
  have : l.take (k + 1) = l.take k ++ [gt l k] := by
    rw [List.take_succ_eq_append_getElem h]; simp [gt, h]
  rw [this]
  simp [keep, List.filter_append, List.filter_cons]
theorem keep_le (key : Int) (l : List En) : (keep key l).length ≤ l.length := List.length_filter_le _ _
theorem drop_nil (key : Int) (w : World) : Calls Try.prog 18 [.pointer none, .int .i64 key].toArray w fun e w' => ∃ v, e = .returned v ∧ v = .int .i64 0 ∧ Kp [] w w' := by
  refine enter Try.func18 mixed low18 (Nat.le_of_ble_eq_true rfl) ?_
  simp only [L18]
  simp
  exact Kp.refl _ _
theorem drop_spec (q : Nat) (hv : Value) (l : List En) (nx key : Int) (w : World) (hq : QA w q hv l nx) (hl : l.length ≤ 65536) :
    Calls Try.prog 18 [.pointer (some ⟨q, 0, none⟩), .int .i64 key].toArray w fun e w' => ∃ v, e = .returned v ∧ v = .int .i64 ((l.length : Int) - (keep key l).length) ∧
      ∃ hv', QA w' q hv' (downs ((keep key l).length / 2) (keep key l)) nx ∧ Kp [q] w w' ∧ (∀ x ∈ hv'.own, w.heap.size ≤ x) := by
  refine enter Try.func18 mixed low18 (Nat.le_of_ble_eq_true rfl) ?_
  simp only [L18]
  simp [cell_blk hq.obj, hq.own.len]
  refine range_loop (n := l.length) (by omega) (fun k ρ w1 => ρ 0 = .pointer (some ⟨q, 0, none⟩) ∧ ρ 1 = .int .i64 key ∧ ρ 15 = hv ∧
      Own w1 (ρ 5) 58 4 En.enc (keep key (l.take k)) ∧ (∀ x ∈ (ρ 5).own, w.heap.size ≤ x) ∧ Kp [] w w1)
    (by simp) (by simp) ⟨by simp, by simp, by simp, by simpa [keep] using Own.nil _ _ _ _, by simp, Kp.refl _ _⟩ (by decide) (fun _ _ _ _ h => by simpa using h) (fun _ _ _ _ h => by simpa using h) ?_ ?_
  · rintro k ρ w1 hk hc hlim ⟨h0, h1, h15, ho, hnew, hkp⟩
    have hq1 := hq.kp hkp (by simp) (by simp)
    have hs := keep_succ key l hk
    simp (disch := omega) [hc, h15, hq1.own.idx, hq1.own.cells En.len (gt_at hk), En.len]
    refine st_obj alloc_new (by simp [En.enc]) (En.one _) ?_
    intro w2 hk2 hs2 ho2
    simp [En.enc] at ho2
    have hk12 : Kp [] w1 w2 := (((Kp.refl [] w1).alloc _).trans' hk2 (by simp))
    simp [cell_blk ho2, h1]
    refine cd_split (fun h => ?_) (fun h => ?_)
    · have hc4 : cellsAt w2 ⟨w1.heap.size, 0, none⟩ 0 4 = some (gt l k).enc := by simp [cellsAt, cell_blk ho2, En.enc]
      simp [hc4, En.len]
      simp only [En.enc, wrAt_cons, wrAt_nil]
      simp
      rw [if_pos (by simpa using h)] at hs
      have hnw : (w2.alloc (.cells (gt l k).enc.toArray 58)).heap[w2.heap.size]? = some (.cells (gt l k).enc.toArray 58 (0, 0)) := alloc_new
      have hoE := (ho.ext hk12.ext).ext ((Kp.refl [] w2).alloc (.cells (gt l k).enc.toArray 58)).ext
      have hlen := keep_le key (l.take k)
      have hlen2 : (l.take k).length ≤ l.length := by simp; omega
      refine hoE.append (xs := [gt l k]) En.len En.one sl_54 rfl (fun j u hj => ?_) (by omega) (by unfold maxLen; omega) ?_
      · rw [addr_add, Nat.zero_add, cell_blk hnw]
        simpa using hj
      intro v' w3 hk3 ho3 hb3
      have hsz : w.heap.size ≤ w2.heap.size := (hkp.trans hk12).size
      simp [hc, hlim, h0, h1, h15]
      refine ⟨by rw [hs]; exact ho3, fun x hx => ?_, ?_⟩
      · rcases hb3 x hx with h6 | h6
        · exact hnew x h6
        · simp at h6; omega
      · exact ((hkp.trans hk12).alloc _).trans' hk3 (fun x hx => .inr (hnew x hx))
    · rw [if_neg (by simpa using h), List.append_nil] at hs
      simp [hc, hlim, h0, h1, h15]
      exact ⟨by rw [hs]; exact ho.ext hk12.ext, hnew, hkp.trans hk12⟩
  · rintro ρ w1 ⟨h0, h1, h15, ho, hnew, hkp⟩
    have hq1 := hq.kp hkp (by simp) (by simp)
    have hqlt : q < w.heap.size := lt_of_blk hq.obj
    rw [List.take_length] at ho
    have hlen := keep_le key l
    simp (disch := omega) [h0, cell_blk hq1.obj, hq1.own.len, ho.len, wrap_i64, ho.c1]
    refine st_obj hq1.obj (by simp) (by simp [ho.o1]) ?_
    intro w2 hk2 hs2 ho2
    simp at ho2
    have hqn : q ∉ (ρ 5).own := fun h => by have := hnew q h; omega
    have hq2 : QA w2 q (ρ 5) (keep key l) nx := ⟨ho2, ho.blk_of (fun y hy (hm : y ∈ [q]) => hqn (by simp at hm; exact hm ▸ hy)) hk2, hqn⟩
    have hk02 : Kp [q] w w2 := hkp.of0.trans hk2
    obtain ⟨rv, hrv⟩ : ∃ rv, rv = ρ 5 := ⟨_, rfl⟩
    rw [← hrv] at hnew hqn hq2
    obtain ⟨m, hm⟩ : ∃ m, m = (keep key l).length / 2 := ⟨_, rfl⟩
    have hdiv : (((keep key l).length : Int)).tdiv 2 = (m : Int) := by rw [hm]; exact (Int.ofNat_tdiv _ _).symm ▸ rfl
    have hmle : m ≤ l.length := by omega
    simp (disch := omega) [ho.len, hdiv, wrap_i64]
    refine loop_inv (fun n ρ w3 => ρ 0 = .pointer (some ⟨q, 0, none⟩) ∧ ρ 9 = .int .i64 ((n : Int) - 1) ∧ ρ 8 = .int .i64 ((l.length : Int) - (keep key l).length) ∧ n ≤ 65536 ∧
        ∃ l3, l3.length ≤ l.length ∧ QA w3 q rv l3 nx ∧ downs n l3 = downs m (keep key l) ∧ Kp [q] w w3) m ⟨by simp [h0], by simp, by simp, by omega, _, hlen, hq2, rfl, hk02⟩ ?_
    rintro n ρ w3 ⟨g0, g9, g8, hn, l3, hl3, hq3, hd3, hk3⟩
    simp [g9]
    cases n with
    | zero =>
      simp [g8]
      rw [hm] at hd3
      exact ⟨rv, by rw [← hd3]; exact hq3, hk3, hnew⟩
    | succ n =>
      have e2 : (1 : Int) ≤ (n : Int) + 1 := by omega
      simp [g0, g9, e2]
      refine cl_of (down_spec q rv l3 nx n w3 hq3 (by omega) (by omega)) ?_
      rintro v w4 ⟨rfl, hq4, hk4⟩
      simp (disch := omega) [g0, g9, g8, wrap_i64]
      refine ⟨n, by omega, rfl, by omega, _, by rw [downL_len]; exact hl3, hq4, hd3, hk3.trans' hk4 (fun x hx => .inr (hnew x hx))⟩
end Go.Proofs.Ytgdkcdjdmgnjaaa
