/-
  A part of the proof of this claim's statement (SyWE, SyWF): plain theorems; no conditions beyond those each names.
-/
import Derived.Test.YtcoeknnghfajnaaGreatPk22
import Derived.Test.YtcoeknnghfajnaaGreatPk18
section
set_option maxRecDepth 100000
set_option linter.unusedSimpArgs false
set_option linter.unusedVariables false
namespace Go.Proofs.YtcoeknnghfajnaaGreat
open Go Go.W Go.Tk Go.Rx Go.Bd Go.Sy Go.Maps
/-- The bits of a state, up to one of them. -/
def hbL (vars st : List Nat) (m : Nat) : List Bool := (List.range (2 * nBits vars)).map fun i => decide (i < 2 * m) && (decide (i % 2 = 0) && mk2 vars st [] i)
theorem hbL_len (vars st : List Nat) (m : Nat) : (hbL vars st m).length = 2 * nBits vars := by simp [hbL]
theorem hbL_zero (vars st : List Nat) : hbL vars st 0 = List.replicate (2 * nBits vars) false := by
  unfold hbL
  apply List.ext_getElem
  · simp
  · intro i h1 h2
    simp
theorem hbL_set {vars st : List Nat} {m : Nat} (hm : m < nBits vars) : (hbL vars st m).set (2 * m) (mk2 vars st [] (2 * m)) = hbL vars st (m + 1) := by
  unfold hbL
  apply List.ext_getElem
  · simp
  · intro i h1 h2
    rw [List.getElem_set]
    simp only [List.getElem_map, List.getElem_range]
    by_cases h : 2 * m = i
    · subst h
      rw [if_pos rfl]
      have e1 : decide (2 * m < 2 * (m + 1)) = true := by simp
      have e2 : decide (2 * m % 2 = 0) = true := by simp
      rw [e1, e2]
      rfl
    · rw [if_neg h]
      by_cases h3 : i % 2 = 0
      · have : decide (i < 2 * m) = decide (i < 2 * (m + 1)) := by
          rw [decide_eq_decide]
          omega
        rw [this]
      · have : decide (i % 2 = 0) = false := by simp [h3]
        rw [this]
        simp
theorem hbL_in {vars st : List Nat} {p : Nat} (hp : p < nBits vars) : inB (hbL vars st (nBits vars)) (2 * p + 0) = mk2 vars st [] (2 * p + 0) := by
  have h1 : 2 * p < 2 * nBits vars := by omega
  unfold inB hbL
  simp [List.getD, h1, hp]
section
variable {w w1 : World} {F : List Nat} {A B B' : Asr} {s m lim : Nat} {T : Nt} {q : SpC} {ns : Ns} {ks : List (Nat × Bool)} {ss : List (Nat × Nat)}
theorem SpcA.fv (h : At w F (SpcA s m lim T q ns ks ss B) w1) : Vw w1 q.fv nE (firstL T.vars) := by
  unfold SpcA at h
  exact h.drop.drop.own.vw
theorem SpcA.wv (h : At w F (SpcA s m lim T q ns ks ss B) w1) : Vw w1 q.wv nE (widthL T.vars) := by
  unfold SpcA at h
  exact h.drop.drop.drop.own.vw
def HsI (s m lim : Nat) (T : Nt) (q : SpC) (ns : Ns) (ks : List (Nat × Bool)) (ss : List (Nat × Nat)) (B : Asr) (w : World) (F : List Nat) (a : Nat) (st : List Nat) (sv bw : Value) (p : Nat) (ρ : Env) (w' : World) : Prop :=
  ρ 0 = .pointer (some ⟨s, 0, none⟩) ∧ ρ 1 = .int .i64 (a : Nat) ∧ ρ 8 = bw ∧ ρ 38 = sv ∧ At w F (Star (OwnA bw 4 1 bv (hbL T.vars st p)) (SpcA s m lim T q ns ks ss B)) w'
set_option maxHeartbeats 4000000 in
theorem has_spec (a : Nat) (sv : Value) (st : List Nat) (P : List Nat → Bool) (hG : SpG lim T q ns ks ss) (hB : Lcl B) (h : At w F (SpcA s m lim T q ns ks ss B) w1) (ha : Kn T ns ks a P) (hr : Rds B fun w' => Vw w' sv nE st) (hst : StN T.vars st) :
    Calls Tryz.prog 15 [.pointer (some ⟨s, 0, none⟩), .int .i64 (a : Nat), sv].toArray w1 fun en w' => ∃ v, en = .returned v ∧ v = .tuple #[.bool (P st), .nilIface] ∧ At w F (SpcA s m lim T q ns ks ss B) w' := by
  refine enter Tryz.func15 mixed low15 (Nat.le_of_ble_eq_true rfl) ?_
  simp only [L15]
  have os := SpcA.obj h
  unfold spO at os
  rw [hG.cells.1] at os
  have hT := SpcA.tsk h
  have hvl := hG.g.vlen
  have hsl := hst.len
  have hbt := hG.ok.bt
  have hale := ha.le hG
  have hka : i64ok a := by unfold i64ok; omega
  have hLS : Lcl (SpcA s m lim T q ns ks ss B) := SpcA.lcl hB
  obtain ⟨n, hn2⟩ : ∃ n, n = 2 * nBits T.vars := ⟨_, rfl⟩
  have hnI : (2 : Int) * (nBits T.vars : Nat) = (n : Int) := by omega
  simp [cell_blk os]
  refine MapM.look1 (x := a) (SpcA.km h) bkeyI Tryz.underlying72 zbool hka ?_
  simp [ha.kn, boolV, cell_blk os]
  refine cl_of (tproper_spec T.vv.1 sv _ _ (vw_n.2 hT.vars) (vw_n.2 (SpcA.frame h hr)) (by simp; omega)) ?_
  rintro _ w2 ⟨rfl, k2⟩
  have h2 := h.kp0 hLS k2
  have os2 := SpcA.obj h2
  unfold spO at os2
  have h3 := h2.made (E := 4) (enc := bv) (x := false) (z := [.bool false]) (n := n) hLS rfl bv_len (by unfold maxLen; omega)
  have hsv2 := SpcA.frame h2 hr
  rw [hn2, ← hbL_zero T.vars st, ← hn2] at h3
  simp (disch := omega) [hst.ok, cell_blk os2, wrap_i64, hnI]
  refine gd_mk (by omega) ?_
  simp [hsv2.len]
  obtain ⟨bw, hbw⟩ : ∃ bw, bw = Value.slice (some ⟨w2.heap.size, 0, none⟩) n n := ⟨_, rfl⟩
  rw [← hbw] at h3 ⊢
  refine range_loop (n := st.length) (by omega) (fun v ρ w' => HsI s m lim T q ns ks ss B w F a st sv bw (bP T.vars v) ρ w') (by simp) (by simp)
    ⟨by simp, by simp, by simp, by simp, h3⟩ (by decide) (fun _ _ _ _ h => by unfold HsI at h ⊢; simpa using h) (fun _ _ _ _ h => by unfold HsI at h ⊢; simpa using h) ?_ ?_
  · rintro v ρ w4 hv hcv hlv ⟨e0, e1, e8, e38, h4⟩
    obtain ⟨x, hx⟩ : ∃ x, st[v]? = some x := ⟨_, List.getElem?_eq_getElem hv⟩
    have hxd : st.getD v 0 = x := by simp [List.getD, hx]
    have hvt : v < T.vars.length := by omega
    obtain ⟨nn, hvn⟩ : ∃ nn, T.vars[v]? = some nn := ⟨_, List.getElem?_eq_getElem hvt⟩
    have hnd : T.vars.getD v 0 = nn := by simp [List.getD, hvn]
    have hw6 := wd_le nn
    obtain ⟨W, hW⟩ : ∃ W, W = wd nn := ⟨_, rfl⟩
    rw [← hW] at hw6
    have hxr := hst.rng v hvt
    have hn64 := (hG.g.vars (T.vars.getD v 0) (by simp [List.getD, List.getElem?_eq_getElem hvt])).2
    have h4s := h4.by Imp.dr
    have hs4 := SpcA.frame h4s hr
    have os4 := SpcA.obj h4s
    unfold spO at os4
    have hwv4 := SpcA.wv h4s
    have hwc := nE_cell hwv4 (widthL_at hvn)
    rw [← hW] at hwc
    have hvi : (v : Int) < st.length := by omega
    have hvw : (v : Int) < (widthL T.vars).length := by simp [widthL]; omega
    simp (disch := omega) [e0, e38, hcv, hlv, hs4.idx, nE_cell hs4 hx, cell_blk os4, hwv4.idx, hwc]
    refine range_loop (n := W) (by omega) (fun k ρ w' => ρ 9 = .int .i64 (v : Nat) ∧ ρ 10 = .int .i64 (x : Nat) ∧ ρ 39 = .int .i64 (st.length : Nat) ∧ ρ 40 = .int .i64 (v : Nat) ∧ HsI s m lim T q ns ks ss B w F a st sv bw (bP T.vars v + k) ρ w') (by simp) (by simp)
      ⟨by simp, by simp, by simp [hlv], by simp [hcv], by simp [e0], by simp [e1], by simp [e8], by simp [e38], h4⟩ (by decide) (fun _ _ _ _ h => by unfold HsI at h ⊢; simpa using h) (fun _ _ _ _ h => by unfold HsI at h ⊢; simpa using h) ?_ ?_
    · rintro k ρ w5 hk hck hlk ⟨g9, g10, g39, g40, g0, g1, g8, g38, h5⟩
      have h5s := h5.by Imp.dr
      have os5 := SpcA.obj h5s
      unfold spO at os5
      have hwv5 := SpcA.wv h5s
      have hfv5 := SpcA.fv h5s
      have hwc5 := nE_cell hwv5 (widthL_at hvn)
      rw [← hW] at hwc5
      have hfc5 := nE_cell hfv5 (firstL_at hvt)
      have hvf : (v : Int) < (firstL T.vars).length := by simp [firstL]; omega
      have hbp := bP_in hvn (show k < wd nn by omega)
      obtain ⟨p2, hp2⟩ : ∃ p, p = bP T.vars v + k := ⟨_, rfl⟩
      have ei1 : (bP T.vars v : Int) + (k : Int) = (p2 : Int) := by omega
      obtain ⟨p3, hp3⟩ : ∃ p, p = 2 * p2 := ⟨_, rfl⟩
      have ei2 : 2 * (p2 : Int) = (p3 : Int) := by omega
      obtain ⟨d, hd⟩ : ∃ d, d = W - 1 - k := ⟨_, rfl⟩
      have ed1 : (W : Int) - 1 = ((W - 1 : Nat) : Int) := by omega
      have ed : ((W - 1 : Nat) : Int) - (k : Int) = (d : Int) := by omega
      have hsa := shr_and (x := x) (d := d) (by omega) (by omega)
      have hl5 : (hbL T.vars st p2).length = n := by rw [hbL_len, hn2]
      have hmk : mk2 T.vars st [] p3 = x.testBit d := by
        have h := mk2_at (x := st) (y := []) (nx := 0) hvn (show k < wd nn by omega) (by omega)
        rw [if_pos rfl, hxd, Nat.add_zero] at h
        rw [hp3, hp2, hd, hW]
        exact h
      rw [← hp2] at h5 hbp
      have hp3i : (p3 : Int) < n := by omega
      have h5d := h5.drew (Lcl.own.star hLS)
      have ep : bP T.vars v + (k + 1) = p2 + 1 := by rw [hp2]; rfl
      cases hbit : x.testBit d with
      | true =>
        rw [hbit, if_pos rfl] at hsa
        have e6 : (hbL T.vars st p2).set p3 true = hbL T.vars st (p2 + 1) := by rw [← hbit, ← hmk, hp3]; exact hbL_set hbp
        simp (disch := omega) [g0, g8, g9, g10, hck, hlk, cell_blk os5, hwv5.idx, hwc5, hfv5.idx, hfc5, ei1, ei2, ed1, ed, wrap_i64, hsa, h5.own.idx, hl5]
        refine h5d.store1 (x := true) hLS bv_len bv_one (by rw [hl5]; omega) rfl fun w6 h6 => ?_
        rw [e6, ← ep] at h6
        simp only [↓wpT_nil, put_none, merge_nil, rangeQ_nrm]
        simp [g9, g10, g39, g40, hck, hlk]
        exact ⟨by simpa using g0, by simpa using g1, by simpa using g8, by simpa using g38, h6⟩
      | false =>
        rw [hbit, if_neg (by simp)] at hsa
        have e6 : (hbL T.vars st p2).set p3 false = hbL T.vars st (p2 + 1) := by rw [← hbit, ← hmk, hp3]; exact hbL_set hbp
        simp (disch := omega) [g0, g8, g9, g10, hck, hlk, cell_blk os5, hwv5.idx, hwc5, hfv5.idx, hfc5, ei1, ei2, ed1, ed, wrap_i64, hsa, h5.own.idx, hl5]
        refine h5d.store1 (x := false) hLS bv_len bv_one (by rw [hl5]; omega) rfl fun w6 h6 => ?_
        rw [e6, ← ep] at h6
        simp only [↓wpT_nil, put_none, merge_nil, rangeQ_nrm]
        simp [g9, g10, g39, g40, hck, hlk]
        exact ⟨by simpa using g0, by simpa using g1, by simpa using g8, by simpa using g38, h6⟩
    · rintro ρ w5 ⟨g9, g10, g39, g40, g0, g1, g8, g38, h5⟩
      rw [hW, ← bP_succ hvn] at h5
      simp [g39, g40]
      exact ⟨by simp [g0], by simp [g1], by simp [g8], by simp [g38], h5⟩
  rintro ρ w4 ⟨e0, e1, e8, e38, h4⟩
  rw [hsl, bP_all] at h4
  have h4s := h4.by Imp.dr
  have os4 := SpcA.obj h4s
  unfold spO at os4
  simp [e0, e1, e8, cell_blk os4]
  refine cl_of (eval_spec a bw (hbL T.vars st (nBits T.vars)) (SpcA.mgr h4s) hG.ok.bnd hG.ok.wf ha.ok.1 h4.own.vw (by rw [hbL_len]; omega)) ?_
  rintro _ w5 ⟨rfl, k5⟩
  have h5 := h4s.kp0 hLS k5
  have hrs : rs T.vars (inB (hbL T.vars st (nBits T.vars))) 0 = st := (rs_congr fun p hp => hbL_in hp).trans (rs_mk2 (y := []) (fun n hn => (hG.g.vars n hn).2) hst)
  have hok : okB T.vars (inB (hbL T.vars st (nBits T.vars))) = true := okB_iff.2 (by rw [hrs]; exact hst)
  simp [ha.ok.2, hok, hrs]
  exact h5
end
end Go.Proofs.YtcoeknnghfajnaaGreat
end
section
set_option maxRecDepth 100000
set_option linter.unusedSimpArgs false
set_option linter.unusedVariables false
namespace Go.Proofs.YtcoeknnghfajnaaGreat
open Go Go.W Go.Tk Go.Rx Go.Bd Go.Sy Go.Maps
/-- The bits of the successor are zero, from one on. -/
def zB (k n : Nat) (a : Nat → Bool) : Bool := (List.range (k - n)).all fun j => !a (2 * (n + j) + 1)
theorem zB_end {k : Nat} {a : Nat → Bool} : zB k k a = true := by unfold zB; simp
theorem zB_step {k n : Nat} {a : Nat → Bool} (h : n < k) : zB k n a = (!a (2 * n + 1) && zB k (n + 1) a) := by
  unfold zB
  rw [show k - n = (k - (n + 1)) + 1 by omega, List.range_succ_eq_map, List.all_cons, List.all_map]
  congr 1
  refine congrArg (fun f => (List.range (k - (n + 1))).all f) ?_
  funext j
  simp only [Function.comp]
  rw [show n + j.succ = n + 1 + j by omega]
theorem zB_all {k : Nat} {a : Nat → Bool} : zB k 0 a = true ↔ ∀ p, p < k → a (2 * p + 1) = false := by
  unfold zB
  rw [List.all_eq_true]
  constructor
  · intro h p hp
    have := h p (List.mem_range.2 (by omega))
    simpa using this
  · intro h j hj
    have := h j (by have := List.mem_range.1 hj; omega)
    simpa using this
def ctF (vars : List Nat) (P : List Nat → Bool) (a : Nat → Bool) : Bool := (okB vars a && P (rs vars a 0)) && zB (nBits vars) 0 a
/-- What Count returns. -/
def CRes (s m lim : Nat) (T : Nt) (q : SpC) (ns : Ns) (ks : List (Nat × Bool)) (ss : List (Nat × Nat)) (B : Asr) (w : World) (F : List Nat) (P : List Nat → Bool) (v : Value) (w' : World) : Prop :=
  ∃ e' ns', v = (if e' = true then .tuple #[.int .i64 0, eB true] else cntV (num (2 * nBits T.vars) 0 (ctF T.vars P))) ∧ Stp (2 * nBits T.vars) lim (3 * nBits T.vars + 1) false ns e' ns' ∧ SpG lim T q ns' ks ss ∧ At w F (SpcA s m lim T q ns' ks ss B) w'
def CtI (b s m lim : Nat) (vars : List Nat) (q : SpC) (ns : Ns) (R : Asr) (w : World) (F : List Nat) (a n : Nat) (ρ : Env) (w' : World) : Prop :=
  ρ 0 = .pointer (some ⟨s, 0, none⟩) ∧ ρ 1 = .int .i64 (a : Nat) ∧ ρ 6 = .pointer (some ⟨b, 0, none⟩) ∧ ρ 8 = .int .i64 (2 * (n : Int) - 1) ∧ n ≤ nBits vars ∧
    ∃ f e' ns', ρ 7 = .int .i64 (f : Nat) ∧ Stp (2 * nBits vars) lim (3 * (nBits vars - n)) false ns e' ns' ∧ Mn ns' e' f (zB (nBits vars) n) ∧ At w F (BlA b s m lim vars q e' ns' R) w'
section
variable {w w1 : World} {F : List Nat} {A B B' : Asr} {s m lim : Nat} {T : Nt} {q : SpC} {ns : Ns} {ks : List (Nat × Bool)} {ss : List (Nat × Nat)}
set_option maxHeartbeats 4000000 in
theorem count_spec (a : Nat) (P : List Nat → Bool) (hG : SpG lim T q ns ks ss) (hB : Lcl B) (h : At w F (SpcA s m lim T q ns ks ss B) w1) (ha : Kn T ns ks a P) :
    Calls Tryz.prog 10 [.pointer (some ⟨s, 0, none⟩), .int .i64 (a : Nat)].toArray w1 fun en w' => ∃ v, en = .returned v ∧ CRes s m lim T q ns ks ss B w F P v w' := by
  refine enter Tryz.func10 mixed low10 (Nat.le_of_ble_eq_true rfl) ?_
  simp only [L10]
  have os := SpcA.obj h
  unfold spO at os
  have hbt := hG.ok.bt
  have hale := ha.le hG
  have hka : i64ok a := by unfold i64ok; omega
  simp [cell_blk os]
  refine MapM.look1 (x := a) (SpcA.km h) bkeyI Tryz.underlying72 zbool hka ?_
  obtain ⟨bb, hbb⟩ : ∃ bb, bb = w1.heap.size := ⟨_, rfl⟩
  have h2 := SpcA.bl hB h
  obtain ⟨w2, hw2⟩ : ∃ w2, w2 = w1.alloc (blO s false) := ⟨_, rfl⟩
  rw [← hbb, ← hw2] at h2
  have hw2' : w1.alloc (.cells #[.pointer (some ⟨s, 0, none⟩), .nilIface] 81 (0, 0)) = w2 := by rw [hw2]; rfl
  have hR : Lcl (RestA T q ks ss B) := RestA.lcl hB
  have h2' := h2
  unfold BlA at h2'
  have os2 := h2'.drop.drop.obj
  unfold spO at os2
  have e1 : (2 : Int) * (nBits T.vars : Nat) = ((2 * nBits T.vars : Nat) : Int) := by omega
  simp (disch := omega) [ha.kn, boolV, ← hbb, hw2', cell_blk os2, wrap_i64]
  refine loop_inv (CtI bb s m lim T.vars q ns (RestA T q ks ss B) w F a) (nBits T.vars) ⟨by simp, by simp, by simp, by simp, Nat.le_refl _, 1, false, ns, by simp, (Stp.refl (c := 0) hG.ok.wf hG.ok.nl).mono (Nat.zero_le _), one_mn hG.ok.wf _ _ (fun a => zB_end), h2⟩ ?_
  clear h h2 h2' os os2
  rintro n ρ w3 ⟨g0, g1, g6, g8, hnl, f, e3, ns3, g7, hs, hmf, h3⟩
  have hk3 := hG.ok.stp hs
  have ma : Mn ns false a (fun x => eval ns x a) := ⟨hale, fun _ => ⟨ha.ok.1, fun _ => rfl⟩⟩
  by_cases hn0 : n = 0
  · subst hn0
    have g8' : ρ 8 = .int .i64 (-1) := by rw [g8]; rfl
    simp [g8', g0, g1, g6, g7]
    refine cl_of (bAnd_spec a f _ _ hk3 hR h3 (ma.keep hG.ok.wf hs) hmf) ?_
    rintro _ w4 ⟨y4, e4, ns4, rfl, hs4, hm4, h4⟩
    have hk4 := hk3.stp hs4
    have hst := (hs.trans hs4).mono (c1 := 3 * nBits T.vars + 1) (by omega)
    have hG4 := hG.stp hst
    have h4' := h4
    unfold BlA at h4'
    have ob4 := h4'.drop.obj
    unfold blO at ob4
    cases e4 with
    | true =>
      simp [g6, cell_blk ob4, eB, berrV]
      exact ⟨true, ns4, by simp [eB, berrV], hst, hG4, (SpcA.un h4).drew (SpcA.lcl hB)⟩
    | false =>
      have h5 := SpcA.un h4
      have os5 := SpcA.obj h5
      unfold spO at os5
      have h5' := h5
      unfold SpcA at h5'
      obtain ⟨r4, ev4⟩ := hm4.2 rfl
      simp [g6, g0, cell_blk ob4, eB, cell_blk os5]
      refine cl_of (Count_spec m (2 * nBits T.vars) lim ns4 y4 (SpcA.rest hB) h5' hk4.wf hk4.bnd r4) ?_
      rintro _ w6 ⟨rfl, h6⟩
      have h6' : At w F (SpcA s m lim T q ns4 ks ss B) w6 := h6
      have ef : (fun a => eval ns4 a y4) = ctF T.vars P := by
        funext x
        rw [ev4]
        show (eval ns x a && zB _ 0 x) = _
        rw [ha.ok.2]
        rfl
      rw [ef]
      obtain ⟨va, vb, hv⟩ : ∃ va vb, cntV (num (2 * nBits T.vars) 0 (ctF T.vars P)) = .tuple #[va, vb] := by
        unfold cntV
        split
        · exact ⟨_, _, rfl⟩
        · exact ⟨_, _, rfl⟩
      rw [hv]
      simp
      exact ⟨false, ns4, by rw [← hv]; rfl, hst, hG4, h6'⟩
  obtain ⟨j, rfl⟩ : ∃ j, n = j + 1 := ⟨n - 1, by omega⟩
  have hj8 : 2 * ((j + 1 : Nat) : Int) - 1 = ((2 * j + 1 : Nat) : Int) := by omega
  rw [hj8] at g8
  obtain ⟨i, hi⟩ : ∃ i, i = 2 * j + 1 := ⟨_, rfl⟩
  rw [← hi] at g8
  have hi0 : 0 < i := by omega
  simp (disch := omega) [g8, g6, hi0]
  refine cl_of (bBit_spec i hk3 hR h3 (by omega)) ?_
  rintro _ w4 ⟨y4, e4, ns4, rfl, hs4, hm4, h4⟩
  have hk4 := hk3.stp hs4
  simp [g6]
  refine cl_of (bNot_spec y4 _ hk4 hR h4 hm4) ?_
  rintro _ w5 ⟨y5, e5, ns5, rfl, hs5, hm5, h5⟩
  have hk5 := hk4.stp hs5
  simp [g6, g7]
  refine cl_of (bAnd_spec y5 f _ _ hk5 hR h5 hm5 ((hmf.keep hk3.wf hs4).keep hk4.wf hs5)) ?_
  rintro _ w6 ⟨y6, e6, ns6, rfl, hs6, hm6, h6⟩
  simp (disch := omega) [g8, wrap_i64]
  refine ⟨j, by omega, by simp [g0], by simp [g1], by simp [g6], by simp; omega, by omega, y6, e6, ns6, by simp, (((hs.trans hs4).trans hs5).trans hs6).mono (by omega), ?_, h6⟩
  exact ⟨hm6.1, fun he => ⟨(hm6.2 he).1, fun x => by rw [(hm6.2 he).2 x, zB_step (by omega), hi]⟩⟩
end
end Go.Proofs.YtcoeknnghfajnaaGreat
end
