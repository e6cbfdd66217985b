/-
  A part of the proofs of this seat's statements (RxYJ); no conditions beyond those each theorem names.
-/
import Derived.Test.YtjpbkljnllkneaaRxYI
set_option maxRecDepth 100000
set_option linter.unusedSimpArgs false
set_option linter.unusedVariables false
namespace Go.Proofs.Ytjpbkljnllkneaa
open Go Go.W Go.Tk Go.Rx Go.Maps
def wantZ (t : Tk) (cs : List Int) : Int := match nwC t cs with | some c => c | none => 0
def rgC (l : List Int) : Int := if l.all cOk = true then 0 else 1
theorem rgC_succ {l : List Int} {k : Nat} {x : Int} (h : l[k]? = some x) : rgC (l.take (k + 1)) = if cOk x = true then rgC (l.take k) else 1 := by
  unfold rgC
  rw [take_snoc h, List.all_append]
  simp only [List.all_cons, List.all_nil, Bool.and_true, Bool.and_eq_true]
  by_cases h1 : (l.take k).all cOk = true <;> by_cases h2 : cOk x = true <;> simp [h1, h2]
set_option maxHeartbeats 1000000 in
theorem law_errors {w : World} (t : Tk) (cv sv : Value) (cs s : List Int) (ht : TkR w t) (hl : TkL t) (hc : Vw w cv iE cs) (hs : Vw w sv iE s) (hcl : cs.length ≤ 9223372036854775807) (hsl : s.length ≤ 9223372036854775807) :
    Calls Try.prog 10 [tkV t, cv, sv].toArray w fun e w' => ∃ x, e = .returned x ∧ x = .bool true ∧ Kp [] w w' := by
  refine enter Try.func10 mixed low10 (Nat.le_of_ble_eq_true rfl) ?_
  simp only [L10]
  obtain ⟨tb, htb⟩ : ∃ tb, tb = w.heap.size := ⟨_, rfl⟩
  obtain ⟨w1, hw1⟩ : ∃ w1, w1 = w.alloc (tkO t) := ⟨_, rfl⟩
  have k1 : Kp [] w w1 := by rw [hw1]; exact (Kp.refl [] w).alloc _
  have hw1' : w.alloc (.cells #[t.vv.1, t.nv.1, t.gv.1, t.ov.1] 26 (0, 0)) = w1 := by rw [hw1]; rfl
  have ob1 : w1.heap[tb]? = some (tkO t) := by rw [htb, hw1]; exact alloc_new
  have oc1 := ob1
  unfold tkO at oc1
  have ht1 := ht.kp k1
  have hc1 := hc.kp0 k1
  have hs1 := hs.kp0 k1
  have hvl := hl.vars
  have hol := hl.ops
  refine seq_cut (fun ρ w' => ρ 1 = cv ∧ ρ 2 = sv ∧ ρ 3 = .pointer (some ⟨tb, 0, none⟩) ∧ w' = w1) ?_ ?_
  · simp [tkV, ← htb, hw1']
  rintro ρ w2 ⟨g1, g2, g3, rfl⟩
  refine seq_cut (fun ρ w' => ρ 1 = cv ∧ ρ 2 = sv ∧ ρ 3 = .pointer (some ⟨tb, 0, none⟩) ∧ Kp [] w2 w') ?_ ?_
  · by_cases a1 : 100 < t.vars.length
    · have a1' : (100 : Int) < t.vars.length := by omega
      simp [g1, g2, g3, cell_blk oc1, ht1.vars.len, ht1.ops.len, hc1.len, hs1.len, a1, a1']
      refine cl_of awake_spec ?_
      rintro _ w3 ⟨rfl, k3⟩
      simp
      exact k1.trans k3
    have a1' : ¬ (100 : Int) < t.vars.length := by omega
    by_cases a2 : 30 < t.ops.length
    · have a2' : (30 : Int) < t.ops.length := by omega
      simp [g1, g2, g3, cell_blk oc1, ht1.vars.len, ht1.ops.len, hc1.len, hs1.len, a1, a1', a2, a2']
      refine cl_of awake_spec ?_
      rintro _ w3 ⟨rfl, k3⟩
      simp
      exact k1.trans k3
    have a2' : ¬ (30 : Int) < t.ops.length := by omega
    by_cases a3 : 100 < cs.length
    · have a3' : (100 : Int) < cs.length := by omega
      simp [g1, g2, g3, cell_blk oc1, ht1.vars.len, ht1.ops.len, hc1.len, hs1.len, a1, a1', a2, a2', a3, a3']
      refine cl_of awake_spec ?_
      rintro _ w3 ⟨rfl, k3⟩
      simp
      exact k1.trans k3
    have a3' : ¬ (100 : Int) < cs.length := by omega
    by_cases a4 : 100 < s.length
    · have a4' : (100 : Int) < s.length := by omega
      simp [g1, g2, g3, cell_blk oc1, ht1.vars.len, ht1.ops.len, hc1.len, hs1.len, a1, a1', a2, a2', a3, a3', a4, a4']
      refine cl_of awake_spec ?_
      rintro _ w3 ⟨rfl, k3⟩
      simp
      exact k1.trans k3
    have a4' : ¬ (100 : Int) < s.length := by omega
    simp [g1, g2, g3, cell_blk oc1, ht1.vars.len, ht1.ops.len, hc1.len, hs1.len, a1, a1', a2, a2', a3, a3', a4, a4']
    refine cl_of awake_spec ?_
    rintro _ w3 ⟨rfl, k3⟩
    simp [g1, g2, g3]
    exact k3
  clear g1 g2 g3
  rintro ρ w3 ⟨g1, g2, g3, k3⟩
  refine seq_cut (fun ρ w' => ρ 1 = cv ∧ ρ 2 = sv ∧ ρ 3 = .pointer (some ⟨tb, 0, none⟩) ∧ Kp [] w2 w') ?_ ?_
  · have oc3 := k3.blk oc1 (by simp)
    simp [g3, cell_blk oc3, (ht1.kp k3).ops.len]
    refine range_loop (n := t.ops.length) (by omega) (fun i ρ w' => ρ 1 = cv ∧ ρ 2 = sv ∧ ρ 3 = .pointer (some ⟨tb, 0, none⟩) ∧ ρ 43 = t.ov.1 ∧ Kp [] w2 w') (by simp) (by simp)
      ⟨by simp [g1], by simp [g2], by simp [g3], by simp, k3⟩ (by decide) (fun _ _ _ _ h => by simpa using h) (fun _ _ _ _ h => by simpa using h) ?_ ?_
    rotate_left
    · rintro ρ w4 ⟨g1, g2, g3, _, k4⟩
      simp only [thenK_nrm]
      exact ⟨g1, g2, g3, k4⟩
    clear g1 g2 g3 oc3 k3
    rintro i ρ w4 hi hci hli ⟨g1, g2, g3, g43, k4⟩
    obtain ⟨o, ho⟩ : ∃ o, t.ops[i]? = some o := ⟨_, List.getElem?_eq_getElem hi⟩
    have hr4 := (ht1.kp k4).ops
    have hoR := (ht1.kp k4).op o (List.mem_of_getElem? ho)
    have ec := hr4.cells oqE_len ho
    simp only [oqE] at ec
    obtain ⟨ob, hob⟩ : ∃ ob, ob = w4.heap.size := ⟨_, rfl⟩
    have hii : (i : Int) < t.ops.length := by omega
    simp (disch := omega) [g43, hci, hli, hr4.idx, ec, ← hob]
    refine st_oq (o := o) .emp (At.start rfl : At w4 [] Emp w4) hob fun w5 h5 => ?_
    have oo5 := h5.obj
    unfold oqO at oo5
    have hoR5 := hoR.kp h5.kp
    by_cases b1 : 8 < o.effs.length
    · have b1' : (8 : Int) < o.effs.length := by omega
      simp [cell_blk oo5, ← hob, hoR5.effs.len, hoR5.pre.len, b1, b1']
      exact k1.trans (k4.trans0 h5.kp)
    have b1' : ¬ (8 : Int) < o.effs.length := by omega
    by_cases b2 : 100 < o.pre.length
    · have b2' : (100 : Int) < o.pre.length := by omega
      simp [cell_blk oo5, ← hob, hoR5.effs.len, hoR5.pre.len, b1, b1', b2, b2']
      exact k1.trans (k4.trans0 h5.kp)
    have b2' : ¬ (100 : Int) < o.pre.length := by omega
    simp [cell_blk oo5, ← hob, hoR5.effs.len, hoR5.pre.len, b1, b1', b2, b2', g1, g2, g3, g43, hci, hli]
    exact k4.trans0 h5.kp
  clear g1 g2 g3 k3
  rintro ρ w3 ⟨g1, g2, g3, k3⟩
  refine seq_cut (fun ρ w' => ρ 1 = cv ∧ ρ 2 = sv ∧ ρ 3 = .pointer (some ⟨tb, 0, none⟩) ∧ ρ 9 = .int .i64 0 ∧ Kp [] w2 w') ?_ ?_
  · simp [g1, g2, g3]
    exact k3
  clear g1 g2 g3 k3
  rintro ρ w3 ⟨g1, g2, g3, g9, k3⟩
  refine seq_cut (fun ρ w' => ρ 1 = cv ∧ ρ 2 = sv ∧ ρ 3 = .pointer (some ⟨tb, 0, none⟩) ∧ ρ 9 = .int .i64 (wantZ t cs) ∧ Kp [] w2 w') ?_ ?_
  · simp [g3, rd_tk (k3.blk ob1 (by simp))]
    refine cl_of (good_spec t (ht1.kp k3) hl) ?_
    rintro _ w4 ⟨rfl, k4⟩
    have k24 := k3.trans k4
    cases hk : chkC t with
    | some c =>
      have hg : goodB t = false := by
        cases h : goodB t with
        | false => rfl
        | true => rw [(chk_good t).2 h] at hk; cases hk
      have hw : wantZ t cs = c := by unfold wantZ nwC; rw [hk]
      rw [hg]
      simp [g3, rd_tk (k24.blk ob1 (by simp))]
      refine cl_of (tcheck_spec t (ht1.kp k24) hl) ?_
      rintro _ w5 ⟨rfl, k5⟩
      rw [hk]
      simp [chkV]
      refine cl_of (num_err c w5) ?_
      rintro _ w6 ⟨rfl, k6⟩
      simp [g1, g2, g3, hw]
      exact (k24.trans k5).trans k6
    | none =>
      have hg := (chk_good t).1 hk
      rw [hg]
      have hw : wantZ t cs = if 0 < cs.length ∧ cs.length ≠ t.ops.length then 11 else rgC cs := by
        unfold wantZ nwC rgC
        rw [hk]
        by_cases h1 : 0 < cs.length ∧ cs.length ≠ t.ops.length
        · simp only [if_pos h1]
        · simp only [if_neg h1]
          cases h2 : cs.all cOk <;> simp
      have oc4 := k24.blk oc1 (by simp)
      have hc4 := hc1.kp0 k24
      by_cases h1 : 0 < cs.length ∧ cs.length ≠ t.ops.length
      · rw [if_pos h1] at hw
        have b1 : (0 : Int) < cs.length := by omega
        have b2 : ((cs.length : Int) != t.ops.length) = true := by simp; omega
        have b3 : ¬ (cs.length : Int) = t.ops.length := by omega
        simp [g1, g3, cell_blk oc4, hc4.len, (ht1.kp k24).ops.len, b1, h1.1, b2, b3, h1.2, g2, hw]
        exact k24
      · rw [if_neg h1] at hw
        have lp : ∀ {ρ' : Env}, 0 ≤ 0 := fun {_} => Nat.le_refl _
        by_cases h2 : 0 < cs.length
        · have b1 : (0 : Int) < cs.length := by omega
          have h3 : cs.length = t.ops.length := by
            by_cases h : cs.length = t.ops.length
            · exact h
            · exact absurd ⟨h2, h⟩ h1
          have b2 : ((cs.length : Int) != t.ops.length) = false := by simp; omega
          have b3 : ((cs.length : Int) = t.ops.length) = True := by simp [h3]
          have b4 : (cs.length = t.ops.length) = True := by simp [h3]
          have b2n : (cs.length != t.ops.length) = false := by simp; exact h3
          simp [g1, g3, cell_blk oc4, hc4.len, (ht1.kp k24).ops.len, b1, h2, b2, b3, b4, b2n]
          refine range_loop (n := cs.length) (by omega) (fun i ρ w' => ρ 1 = cv ∧ ρ 2 = sv ∧ ρ 3 = .pointer (some ⟨tb, 0, none⟩) ∧ ρ 60 = cv ∧ ρ 9 = .int .i64 (rgC (cs.take i)) ∧ Kp [] w2 w') (by simp) (by simp)
            ⟨by simp [g1], by simp [g2], by simp [g3], by simp, by simp [g9, rgC], k24⟩ (by decide) (fun _ _ _ _ h => by simpa using h) (fun _ _ _ _ h => by simpa using h) ?_ ?_
          rotate_left
          · rintro ρ w5 ⟨g1, g2, g3, _, g9, k5⟩
            rw [List.take_length] at g9
            simp [g1, g2, g3, g9, hw]
            exact k5
          clear g1 g2 g3 g9
          rintro i ρ w5 hi hci hli ⟨g1, g2, g3, g60, g9, k5⟩
          have hc5 := hc1.kp0 k5
          obtain ⟨x, hx⟩ : ∃ x, cs[i]? = some x := ⟨_, List.getElem?_eq_getElem hi⟩
          have hii : (i : Int) < cs.length := by omega
          have hrg := rgC_succ hx
          by_cases s1 : x < 0
          · rw [if_neg (by simp [cOk]; omega)] at hrg
            simp (disch := omega) [g60, hci, hli, hc5.idx, iE_cell hc5 hx, s1, g1, g2, g3, hrg]
            exact k5
          by_cases s2 : 1048576 < x
          · rw [if_neg (by simp [cOk]; omega)] at hrg
            simp (disch := omega) [g60, hci, hli, hc5.idx, iE_cell hc5 hx, s1, s2, g1, g2, g3, hrg]
            exact k5
          rw [if_pos (by simp [cOk]; omega)] at hrg
          simp (disch := omega) [g60, hci, hli, hc5.idx, iE_cell hc5 hx, s1, s2, g1, g2, g3, g9, hrg]
          exact k5
        · have b1 : ¬ (0 : Int) < cs.length := by omega
          simp [g1, g3, cell_blk oc4, hc4.len, (ht1.kp k24).ops.len, b1, h2]
          refine range_loop (n := cs.length) (by omega) (fun i ρ w' => ρ 1 = cv ∧ ρ 2 = sv ∧ ρ 3 = .pointer (some ⟨tb, 0, none⟩) ∧ ρ 60 = cv ∧ ρ 9 = .int .i64 (rgC (cs.take i)) ∧ Kp [] w2 w') (by simp) (by simp)
            ⟨by simp [g1], by simp [g2], by simp [g3], by simp, by simp [g9, rgC], k24⟩ (by decide) (fun _ _ _ _ h => by simpa using h) (fun _ _ _ _ h => by simpa using h) ?_ ?_
          rotate_left
          · rintro ρ w5 ⟨g1, g2, g3, _, g9, k5⟩
            rw [List.take_length] at g9
            simp [g1, g2, g3, g9, hw]
            exact k5
          clear g1 g2 g3 g9
          rintro i ρ w5 hi hci hli ⟨g1, g2, g3, g60, g9, k5⟩
          have hc5 := hc1.kp0 k5
          obtain ⟨x, hx⟩ : ∃ x, cs[i]? = some x := ⟨_, List.getElem?_eq_getElem hi⟩
          have hii : (i : Int) < cs.length := by omega
          have hrg := rgC_succ hx
          by_cases s1 : x < 0
          · rw [if_neg (by simp [cOk]; omega)] at hrg
            simp (disch := omega) [g60, hci, hli, hc5.idx, iE_cell hc5 hx, s1, g1, g2, g3, hrg]
            exact k5
          by_cases s2 : 1048576 < x
          · rw [if_neg (by simp [cOk]; omega)] at hrg
            simp (disch := omega) [g60, hci, hli, hc5.idx, iE_cell hc5 hx, s1, s2, g1, g2, g3, hrg]
            exact k5
          rw [if_pos (by simp [cOk]; omega)] at hrg
          simp (disch := omega) [g60, hci, hli, hc5.idx, iE_cell hc5 hx, s1, s2, g1, g2, g3, g9, hrg]
          exact k5
  clear g1 g2 g3 g9 k3
  rintro ρ w3 ⟨g1, g2, g3, g9, k3⟩
  refine seq_cut (fun ρ w' => ρ 1 = cv ∧ ρ 2 = sv ∧ ρ 3 = .pointer (some ⟨tb, 0, none⟩) ∧ ρ 9 = .int .i64 (wantZ t cs) ∧ NwA t cs w3 (.tuple #[ρ 12, ρ 13]) w' ∧ Kp [] w2 w') ?_ ?_
  · simp [g1, g3, rd_tk (k3.blk ob1 (by simp))]
    refine cl_of (new_any t cv cs (ht1.kp k3) hl (hc1.kp0 k3) hcl) ?_
    rintro x w4 ⟨hx, k4⟩
    have hx0 := hx
    unfold NwA at hx
    cases hn : nwC t cs with
    | some c =>
      rw [hn] at hx
      subst hx
      simp [g1, g2, g3, g9]
      exact ⟨hx0, k3.trans k4⟩
    | none =>
      rw [hn] at hx
      obtain ⟨b, T, U, h1, rfl, h2⟩ := hx
      simp [g1, g2, g3, g9]
      exact ⟨hx0, k3.trans k4⟩
  clear g1 g2 g3 g9
  rintro ρ w4 ⟨g1, g2, g3, g9, hx, k4⟩
  have hs4 := hs1.kp0 k4
  have ht4 := ht1.kp k4
  have oc4 := k4.blk oc1 (by simp)
  have f0 : (0, 0) = ((0, 0) : Fa) := rfl
  unfold NwA at hx
  have fz : Value.agg #[.int .i64 0, .int .i64 0] = faV (0, 0) := rfl
  cases hn : nwC t cs with
  | some c =>
    rw [hn] at hx
    have hw : wantZ t cs = c := by unfold wantZ; rw [hn]
    simp at hx
    obtain ⟨g12, g13⟩ := hx
    have hc0 : c ≠ 0 := by
      unfold nwC at hn
      cases hk : chkC t with
      | some d => rw [hk] at hn; cases hn; exact chk_ne hk
      | none =>
        rw [hk] at hn
        simp only at hn
        split at hn
        · cases hn; decide
        · split at hn
          · cases hn; decide
          · cases hn
    rw [hw] at g9
    simp [g13]
    refine cl_of (num_err c w4) ?_
    rintro _ w5 ⟨rfl, k5⟩
    have hc0b : (c != 0) = true := by simp; exact hc0
    simp [g9, g12, hc0, hc0b, g2]
    rw [fz]
    have hn1 := supporter_nil (w := w5) sv (0, 0)
    unfold RetsTo at hn1
    refine cl_of hn1 ?_
    rintro _ w6 ⟨rfl, k6⟩
    simp [prV, g2]
    have hn2 := facts_nil (w := w6) sv
    unfold RetsTo at hn2
    refine cl_of hn2 ?_
    rintro _ w7 ⟨rfl, k7⟩
    simp [prV, g2]
    have hn3 := max_nil (w := w7) sv
    unfold RetsTo at hn3
    refine cl_of hn3 ?_
    rintro _ w8 ⟨rfl, k8⟩
    simp [prV, g2]
    have hn4 := levels_nil (w := w8) sv
    unfold RetsTo at hn4
    refine cl_of hn4 ?_
    rintro _ w9 ⟨rfl, k9⟩
    simp [prV, g2]
    have hn5 := reached_nil (w := w9) sv (.slice none 0 0)
    unfold RetsTo at hn5
    refine cl_of hn5 ?_
    rintro _ w10 ⟨rfl, k10⟩
    have k410 := (((((k4.trans k5).trans k6).trans k7).trans k8).trans k9).trans k10
    simp [prV, g1, g2, g3, g9, g12, g13]
    exact k1.trans k410
  | none =>
    rw [hn] at hx
    obtain ⟨b, T, U, rfl, hx, hR⟩ := hx
    simp at hx
    obtain ⟨g12, g13⟩ := hx
    have hw : wantZ T.raw cs = 0 := by unfold wantZ; rw [hn]
    rw [hw] at g9
    simp [g13]
    refine cl_of (num_nil w4) ?_
    rintro _ w5 ⟨rfl, k5⟩
    simp [g9, g12, g2]
    rw [fz]
    have hn1 := supporter_nil (w := w5) sv (0, 0)
    unfold RetsTo at hn1
    refine cl_of hn1 ?_
    rintro _ w6 ⟨rfl, k6⟩
    simp [prV, g2]
    have hn2 := facts_nil (w := w6) sv
    unfold RetsTo at hn2
    refine cl_of hn2 ?_
    rintro _ w7 ⟨rfl, k7⟩
    simp [prV, g2]
    have hn3 := max_nil (w := w7) sv
    unfold RetsTo at hn3
    refine cl_of hn3 ?_
    rintro _ w8 ⟨rfl, k8⟩
    simp [prV, g2]
    have hn4 := levels_nil (w := w8) sv
    unfold RetsTo at hn4
    refine cl_of hn4 ?_
    rintro _ w9 ⟨rfl, k9⟩
    simp [prV, g2]
    have hn5 := reached_nil (w := w9) sv (.slice none 0 0)
    unfold RetsTo at hn5
    refine cl_of hn5 ?_
    rintro _ w10 ⟨rfl, k10⟩
    have k410 := (((((k4.trans k5).trans k6).trans k7).trans k8).trans k9).trans k10
    simp [prV, g1, g2, g3, g9, g12, g13, cell_blk (k410.blk oc1 (by simp)), raw_vv]
    have hvv := vw_n.2 ((NtR.raw.1 ht1).kp k410).vars
    refine cl_of (state_spec T.vv.1 sv (T.vars.map iN) s hvv (hs1.kp0 k410) hsl) ?_
    rintro _ w11 ⟨rfl, k11⟩
    have k411 := k410.trans k11
    cases hst : stateB (T.vars.map iN) s with
    | true =>
      simp
      exact k1.trans k411
    | false =>
      simp [g2, g12]
      rw [fz]
      obtain ⟨vv, gv, fv, uv, nd, fr, rs, ps, hR⟩ := hR
      have kb : Kp [] w4 w11 := (((((k5.trans k6).trans k7).trans k8).trans k9).trans k10).trans k11
      have hm1 := supporter_bad sv s (0, 0) (hR.kp kb) (hs1.kp0 k411) hsl hst
      unfold RetsTo at hm1
      refine cl_of hm1 ?_
      rintro _ w12 ⟨rfl, m12⟩
      simp [prV, g2, g12]
      have hm2 := facts_bad sv s ((hR.kp kb).kp m12) ((hs1.kp0 k411).kp0 m12) hsl hst
      unfold RetsTo at hm2
      refine cl_of hm2 ?_
      rintro _ w13 ⟨rfl, m13⟩
      have n13 := m12.trans m13
      simp [prV, g2, g12]
      have hm3 := max_bad sv s ((hR.kp kb).kp n13) ((hs1.kp0 k411).kp0 n13) hsl hst
      unfold RetsTo infV at hm3
      refine cl_of hm3 ?_
      rintro _ w14 ⟨rfl, m14⟩
      have n14 := n13.trans m14
      simp [prV, g2, g12]
      have hm4 := levels_bad sv s ((hR.kp kb).kp n14) ((hs1.kp0 k411).kp0 n14) hsl hst
      unfold RetsTo at hm4
      refine cl_of hm4 ?_
      rintro _ w15 ⟨rfl, m15⟩
      have n15 := n14.trans m15
      simp [prV, g2, g12]
      have hm5 := reached_bad sv (.slice none 0 0) s ((hR.kp kb).kp n15) ((hs1.kp0 k411).kp0 n15) hsl hst
      unfold RetsTo at hm5
      refine cl_of hm5 ?_
      rintro _ w16 ⟨rfl, m16⟩
      simp
      exact k1.trans (k411.trans (n15.trans m16))
end Go.Proofs.Ytjpbkljnllkneaa
