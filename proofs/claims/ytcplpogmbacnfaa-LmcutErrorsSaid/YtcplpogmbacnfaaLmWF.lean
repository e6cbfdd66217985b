/-
  A part of the proofs of this seat's statements (LmWF); no conditions beyond those each theorem names.
-/
import Derived.Test.YtcplpogmbacnfaaLmWr
set_option maxRecDepth 100000
set_option linter.unusedSimpArgs false
set_option linter.unusedVariables false
namespace Go.Proofs.Ytcplpogmbacnfaa
open Go Go.W Go.Tk Go.Rx Go.Lm Go.Maps
theorem is_errs (c k : Int) (w : World) : Calls Try.prog 16 [errV c, .int .i64 k].toArray w fun e w' => ∃ x, e = .returned x ∧ x = .bool (decide (c = k)) ∧ Kp [] w w' := by
  refine enter Try.func16 mixed low16 (Nat.le_of_ble_eq_true rfl) ?_
  simp only [L16]
  have hn := num_err c w
  unfold errV at hn
  simp [errV]
  refine cl_of hn ?_
  rintro _ w2 ⟨rfl, k2⟩
  simp
  refine ⟨?_, k2⟩
  by_cases h : c = k <;> simp [h]
set_option maxHeartbeats 1000000 in
theorem law_lmerrors {w : World} (t : Tk) (sv : Value) (s : List Int) (ht : TkR w t) (hl : TkL t) (hs : Vw w sv iE s) (hsl : s.length ≤ 9223372036854775807) :
    Calls Try.prog 8 [tkV t, sv].toArray w fun e w' => ∃ x, e = .returned x ∧ x = .bool true ∧ Kp [] w w' := by
  refine enter Try.func8 mixed low8 (Nat.le_of_ble_eq_true rfl) ?_
  simp only [L8]
  obtain ⟨tb, htb⟩ : ∃ tb, tb = w.heap.size := ⟨_, rfl⟩
  obtain ⟨w1, hw1⟩ : ∃ w1, w1 = w.alloc (tkO t) := ⟨_, rfl⟩
  have k1 : Kp [] w w1 := by rw [hw1]; exact (Kp.refl [] w).alloc _
  have hw1' : w.alloc (.cells #[t.vv.1, t.nv.1, t.gv.1, t.ov.1] 26 (0, 0)) = w1 := by rw [hw1]; rfl
  have ob1 : w1.heap[tb]? = some (tkO t) := by rw [htb, hw1]; exact alloc_new
  have oc1 := ob1
  unfold tkO at oc1
  have ht1 := ht.kp k1
  have hs1 := hs.kp0 k1
  have hvl := hl.vars
  have hol := hl.ops
  refine seq_cut (fun ρ w' => ρ 1 = sv ∧ ρ 2 = .pointer (some ⟨tb, 0, none⟩) ∧ w' = w1) ?_ ?_
  · simp [tkV, ← htb, hw1']
  rintro ρ w2 ⟨g1, g2, rfl⟩
  refine seq_cut (fun ρ w' => ρ 1 = sv ∧ ρ 2 = .pointer (some ⟨tb, 0, none⟩) ∧ Kp [] w2 w') ?_ ?_
  · by_cases a1 : 100 < t.vars.length
    · have a1' : (100 : Int) < t.vars.length := by omega
      simp [g1, g2, cell_blk oc1, ht1.vars.len, ht1.ops.len, hs1.len, a1, a1']
      refine cl_of mawake_spec ?_
      rintro _ w3 ⟨rfl, k3⟩
      simp
      exact k1.trans k3
    have a1' : ¬ (100 : Int) < t.vars.length := by omega
    by_cases a2 : 30 < t.ops.length
    · have a2' : (30 : Int) < t.ops.length := by omega
      simp [g1, g2, cell_blk oc1, ht1.vars.len, ht1.ops.len, hs1.len, a1, a1', a2, a2']
      refine cl_of mawake_spec ?_
      rintro _ w3 ⟨rfl, k3⟩
      simp
      exact k1.trans k3
    have a2' : ¬ (30 : Int) < t.ops.length := by omega
    by_cases a4 : 100 < s.length
    · have a4' : (100 : Int) < s.length := by omega
      simp [g1, g2, cell_blk oc1, ht1.vars.len, ht1.ops.len, hs1.len, a1, a1', a2, a2', a4, a4']
      refine cl_of mawake_spec ?_
      rintro _ w3 ⟨rfl, k3⟩
      simp
      exact k1.trans k3
    have a4' : ¬ (100 : Int) < s.length := by omega
    simp [g1, g2, cell_blk oc1, ht1.vars.len, ht1.ops.len, hs1.len, a1, a1', a2, a2', a4, a4']
    refine cl_of mawake_spec ?_
    rintro _ w3 ⟨rfl, k3⟩
    simp [g1, g2]
    exact k3
  clear g1 g2
  rintro ρ w3 ⟨g1, g2, k3⟩
  refine seq_cut (fun ρ w' => ρ 1 = sv ∧ ρ 2 = .pointer (some ⟨tb, 0, none⟩) ∧ Kp [] w2 w') ?_ ?_
  · have oc3 := k3.blk oc1 (by simp)
    simp [g2, cell_blk oc3, (ht1.kp k3).ops.len]
    refine range_loop (n := t.ops.length) (by omega) (fun i ρ w' => ρ 1 = sv ∧ ρ 2 = .pointer (some ⟨tb, 0, none⟩) ∧ ρ 32 = t.ov.1 ∧ Kp [] w2 w') (by simp) (by simp)
      ⟨by simp [g1], by simp [g2], by simp, k3⟩ (by decide) (fun _ _ _ _ h => by simpa using h) (fun _ _ _ _ h => by simpa using h) ?_ ?_
    rotate_left
    · rintro ρ w4 ⟨g1, g2, _, k4⟩
      simp only [thenK_nrm]
      exact ⟨g1, g2, k4⟩
    clear g1 g2 oc3 k3
    rintro i ρ w4 hi hci hli ⟨g1, g2, g32, k4⟩
    obtain ⟨o, ho⟩ : ∃ o, t.ops[i]? = some o := ⟨_, List.getElem?_eq_getElem hi⟩
    have hr4 := (ht1.kp k4).ops
    have hoR := (ht1.kp k4).op o (List.mem_of_getElem? ho)
    have ec := hr4.cells oqE_len ho
    simp only [oqE] at ec
    obtain ⟨ob, hob⟩ : ∃ ob, ob = w4.heap.size := ⟨_, rfl⟩
    have hii : (i : Int) < t.ops.length := by omega
    simp (disch := omega) [g32, hci, hli, hr4.idx, ec, ← hob]
    refine st_oq (o := o) .emp (At.start rfl : At w4 [] Emp w4) hob fun w5 h5 => ?_
    have oo5 := h5.obj
    unfold oqO at oo5
    have hoR5 := hoR.kp h5.kp
    by_cases b1 : 8 < o.effs.length
    · have b1' : (8 : Int) < o.effs.length := by omega
      simp [cell_blk oo5, ← hob, hoR5.effs.len, hoR5.pre.len, b1, b1']
      exact k1.trans (k4.trans0 h5.kp)
    have b1' : ¬ (8 : Int) < o.effs.length := by omega
    by_cases b2 : 100 < o.pre.length
    · have b2' : (100 : Int) < o.pre.length := by omega
      simp [cell_blk oo5, ← hob, hoR5.effs.len, hoR5.pre.len, b1, b1', b2, b2']
      exact k1.trans (k4.trans0 h5.kp)
    have b2' : ¬ (100 : Int) < o.pre.length := by omega
    simp [cell_blk oo5, ← hob, hoR5.effs.len, hoR5.pre.len, b1, b1', b2, b2', g1, g2, g32, hci, hli]
    exact k4.trans0 h5.kp
  clear g1 g2 k3
  rintro ρ w3 ⟨g1, g2, k3⟩
  have hn1 := cuts_nil (w := w3) sv
  unfold RetsTo at hn1
  simp [g1, g2]
  refine cl_of hn1 ?_
  rintro _ w4 ⟨rfl, k4⟩
  simp
  refine cl_of (is_errs 3 3 w4) ?_
  rintro _ w5 ⟨rfl, k5⟩
  simp [g1, g2]
  have hn2 := value_nil (w := w5) sv
  unfold RetsTo at hn2
  refine cl_of hn2 ?_
  rintro _ w6 ⟨rfl, k6⟩
  have k36 := ((k3.trans k4).trans k5).trans k6
  simp [g1, g2, rd_tk (k36.blk ob1 (by simp))]
  refine cl_of (lnew_walk t (ht1.kp k36) hl) ?_
  rintro x w7 ⟨hx, k7⟩
  have k37 := k36.trans k7
  unfold HnA at hx
  cases hk : chkC t with
  | some c =>
    have hg : goodB t = false := by
      cases h : goodB t with
      | false => rfl
      | true => rw [(chk_good t).2 h] at hk; cases hk
    rw [hk] at hx
    subst hx
    simp [g1, g2, rd_tk (k37.blk ob1 (by simp))]
    refine cl_of (good_spec t (ht1.kp k37) hl) ?_
    rintro _ w8 ⟨rfl, k8⟩
    have k38 := k37.trans k8
    rw [hg]
    simp [g1, g2, rd_tk (k38.blk ob1 (by simp))]
    have k39 := k38.trans ((Kp.refl [] w8).drew)
    refine ⟨?_, ?_⟩ <;>
    · refine cl_of (num_err c w8.drew) ?_
      rintro _ w9 ⟨rfl, k9⟩
      have k3a := k39.trans k9
      simp [g1, g2, rd_tk (k3a.blk ob1 (by simp)), rd_tk (k39.blk ob1 (by simp))]
      refine cl_of (tcheck_spec t (ht1.kp k3a) hl) ?_
      rintro _ w10 ⟨rfl, k10⟩
      rw [hk]
      simp [chkV]
      refine cl_of (num_err c w10) ?_
      rintro _ w11 ⟨rfl, k11⟩
      simp
      exact k1.trans ((k3a.trans k10).trans k11)
  | none =>
    have hg := (chk_good t).1 hk
    rw [hk] at hx
    obtain ⟨b, T, rfl, hG, rfl, hR⟩ := hx
    simp [g1, g2, rd_tk (k37.blk ob1 (by simp))]
    refine cl_of (good_spec T.raw (ht1.kp k37) hl) ?_
    rintro _ w8 ⟨rfl, k8⟩
    have k38 := k37.trans k8
    rw [hg]
    simp [g1, g2, rd_tk (k38.blk ob1 (by simp)), cell_blk (k38.blk oc1 (by simp)), raw_vv]
    have hvv := vw_n.2 ((NtR.raw.1 ht1).kp k38).vars
    refine cl_of (state_spec T.vv.1 sv (T.vars.map iN) s hvv (hs1.kp0 k38) hsl) ?_
    rintro _ w9 ⟨rfl, k9⟩
    have k39 := k38.trans k9
    cases hst : stateB (T.vars.map iN) s with
    | true =>
      simp
      exact k1.trans k39
    | false =>
      simp [g1, g2]
      have hm1 := hx_cbad sv s ((hR.kp k8).kp k9) (hs1.kp0 k39) hsl hst
      unfold RetsTo at hm1
      refine cl_of hm1 ?_
      rintro _ w10 ⟨rfl, k10⟩
      simp
      refine cl_of (is_errs 2 2 w10) ?_
      rintro _ w11 ⟨rfl, k11⟩
      simp [g1, g2]
      have k311 := (k39.trans k10).trans k11
      have hm2 := hx_vbad sv s (((hR.kp k8).kp k9).kp (k10.trans k11)) (hs1.kp0 k311) hsl hst
      unfold RetsTo infV at hm2
      refine cl_of hm2 ?_
      rintro _ w12 ⟨rfl, k12⟩
      simp
      exact k1.trans (k311.trans k12)
end Go.Proofs.Ytcplpogmbacnfaa
