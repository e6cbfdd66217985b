/-
  A part of the proofs of this seat's statements (RxYN); no conditions beyond those each theorem names.
-/
import Derived.Test.YtjpbkljnllkneaaRxYM
set_option maxRecDepth 100000
set_option linter.unusedSimpArgs false
set_option linter.unusedVariables false
namespace Go.Proofs.Ytjpbkljnllkneaa
open Go Go.W Go.Tk Go.Rx Go.Maps
set_option maxHeartbeats 1000000 in
theorem law_consistent {w : World} (t : Tk) (ht : TkR w t) (hl : TkL t) :
    Calls Try.prog 4 [tkV t].toArray w fun e w' => ∃ x, e = .returned x ∧ x = .bool true ∧ Kp [] w w' := by
  refine enter Try.func4 mixed low4 (Nat.le_of_ble_eq_true rfl) ?_
  simp only [L4]
  obtain ⟨tb, htb⟩ : ∃ tb, tb = w.heap.size := ⟨_, rfl⟩
  obtain ⟨w1, hw1⟩ : ∃ w1, w1 = w.alloc (tkO t) := ⟨_, rfl⟩
  have k1 : Kp [] w w1 := by rw [hw1]; exact (Kp.refl [] w).alloc _
  have hw1' : w.alloc (.cells #[t.vv.1, t.nv.1, t.gv.1, t.ov.1] 26 (0, 0)) = w1 := by rw [hw1]; rfl
  have ob1 : w1.heap[tb]? = some (tkO t) := by rw [htb, hw1]; exact alloc_new
  simp [tkV, ← htb, hw1', rd_tk ob1]
  refine cl_of (small_spec t (ht.kp k1) hl) ?_
  rintro _ w2 ⟨rfl, k2⟩
  cases hsm : smallB t with
  | false =>
    simp
    refine cl_of awake_spec ?_
    rintro _ w3 ⟨rfl, k3⟩
    simp
    exact k1.trans (k2.trans k3)
  | true =>
    obtain ⟨T, rfl, hST⟩ := small_nat hl hsm
    have hr := NtR.raw.1 ht
    simp
    refine cl_of awake_spec ?_
    rintro _ w3 ⟨rfl, k3⟩
    have k13 := k2.trans k3
    simp [rd_tk (k13.blk ob1 (by simp)), raw_vv, raw_nv, raw_gv, raw_ov]
    refine cl_of (new_ok T (.slice none 0 0) [] hST (hr.kp (k1.trans k13)) (Vw.nil _ _) CsOk.nil) ?_
    rintro _ w5 ⟨b, rfl, hR, k5⟩
    have k15 := k13.trans k5
    have hP := pr_none hST.g
    have hS := SmT.sm hST (c := cst T []) (fun i hi => CsOk.nil.cst hST.g i hi)
    have oc5 := k15.blk ob1 (by simp)
    unfold tkO at oc5
    have hvl := hST.vl
    simp [cell_blk oc5, raw_vv]
    refine cl_of (states_spec T.vv.1 T.vars (hr.kp (k1.trans k15)).vars (by omega) (fun n hn => by have := hST.g.vars n hn; omega) (SmT.sts hST) (fun k hk s hs => by have := (sts_ok k hk s hs).1; omega)) ?_
    rintro uv w6 h6
    obtain ⟨ps, hpl, hpv, hpr⟩ := (LLA.vw h6).spread
    have k16 := k15.trans0 h6.kp
    have ob6 := k16.blk ob1 (by simp)
    have oc6 := ob6
    unfold tkO at oc6
    have hr6 := hr.kp (k1.trans k16)
    have hR6 := hR.kp h6.kp
    have h512 := sts512 hST
    obtain ⟨vS, hvS⟩ := VsOk.ex T (uns T (cst T []))
    have hlow : Low (edA T) (cst T []) (goalB T) (hI T vS) := hI_low hvS hST
    obtain ⟨N, hN⟩ : ∃ N, N = ps.length := ⟨_, rfl⟩
    have hN512 : N ≤ 512 := by omega
    simp [hpv.len, ← hN]
    refine gd_mk (by omega) ?_
    have h7 := (At.start rfl : At w6 [] Emp w6).made (E := 3) (enc := nE) (x := 0) (z := [.int .i64 0]) (n := N) .emp rfl nE_len (by unfold maxLen; omega)
    rw [upto_zero N 0 (hI T vS)] at h7
    obtain ⟨dv, hdv⟩ : ∃ dv, dv = Value.slice (some ⟨w6.heap.size, 0, none⟩) N N := ⟨_, rfl⟩
    rw [← hdv] at h7
    simp [← hdv, hpv.len, ← hN]
    refine range_loop (n := N) (by omega) (fun i ρ w' => ρ 1 = .pointer (some ⟨tb, 0, none⟩) ∧ ρ 3 = .pointer (some ⟨b, 0, none⟩) ∧ ρ 6 = dv ∧ ρ 32 = uv ∧ At w6 [] (Star (OwnA dv 3 1 nE (tabN N (upto i (hI T vS) 0))) Emp) w') (by simp) (by simp)
      ⟨by simp, by simp, by simp, by simp, by simpa using h7⟩ (by decide) (fun _ _ _ _ h => by simpa using h) (fun _ _ _ _ h => by simpa using h) ?_ ?_
    · rintro i ρ w8 hi hci hli ⟨g1, g3, g6, g32, h8⟩
      obtain ⟨p, hp⟩ : ∃ p, ps[i]? = some p := ⟨_, List.getElem?_eq_getElem (by omega)⟩
      obtain ⟨s, hsk, hsv⟩ := hpr i p hp
      have hst := sts_st (List.mem_of_getElem? hsk)
      have hpv8 := hpv.kp0 h8.kp
      have ep : w8.cell? (uv.adr.add i) = some p.1.1 := by simpa using hpv8.at_ sv1_len hp (o := 0) (u := p.1.1) rfl
      have hki : (i : Int) < ps.length := by omega
      have hiN : (i : Int) < N := by omega
      simp (disch := omega) [g1, g3, g6, g32, hci, hli, hpv8.idx, ep]
      refine cl_of (rl_max p.1.1 s (hR6.kp h8.kp) hST.g (hsv.kp0 h8.kp) hst hS) ?_
      rintro _ w9 ⟨V, hV, rfl, k9⟩
      rw [hM_eq hvS hV]
      obtain ⟨h, hh⟩ : ∃ h, h = hM T vS s := ⟨_, rfl⟩
      have hhi : h = hI T vS i := by rw [hI_at hsk, hh]
      rw [← hh]
      have h9 := h8.kp0 (Lcl.own.star .emp) k9
      have htl : (tabN N (upto i (hI T vS) 0)).length = N := tabN_len _ _
      simp (disch := omega) [g6, hci, h9.own.idx, htl]
      refine h9.store1 .emp nE_len nE_one (k := i) (by omega) (x := h) rfl fun w10 h10 => ?_
      rw [hhi, tabN_set hi, upto_succ] at h10
      have ob10 := h10.kp.blk oc6 (by simp)
      have hgl := hST.g.goal.len
      simp [g1, cell_blk ob10, raw_gv]
      refine cl_of (holds_spec T.gv.1 p.1.1 T.goal s (hr6.kp h10.kp).goal (hsv.kp0 h10.kp) (by omega) (fun f hf => by rw [hst.len]; exact (hST.g.goal.rng f hf).1)) ?_
      rintro _ w11 ⟨rfl, k11⟩
      have h11 := h10.kp0 (Lcl.own.star .emp) k11
      cases hb : hdB s T.goal with
      | false =>
        simp [g1, g3, g6, g32, hci, hli]
        exact h11
      | true =>
        have e0 : hI T vS i = 0 := by rw [hI_at hsk]; exact hM_goal hvS hST.g hb
        have hv11 := h11.own.vw
        have e1 : (tabN N (upto (i + 1) (hI T vS) 0))[i]? = some 0 := by
          rw [tabN_at hi]
          unfold upto
          rw [if_pos (by omega), e0]
        have htl2 : (tabN N (upto (i + 1) (hI T vS) 0)).length = N := tabN_len _ _
        have c0 := nE_cell hv11 e1
        simp (disch := omega) [g6, hci, hv11.idx, htl2, c0, g1, g3, g32, hli]
        exact h11
    rintro ρ w8 ⟨g1, g3, g6, g32, h8⟩
    rw [upto_all] at h8
    have ob8 := h8.kp.blk ob6 (by simp)
    simp [g1, rd_tk ob8, raw_vv, raw_nv, raw_gv, raw_ov]
    refine cl_of (edges_spec T (hr6.kp h8.kp) hST) ?_
    rintro ev w9 h9
    have hev := h9.own.vw
    have k9 := h8.kp.trans0 h9.kp
    have hdv9 := h8.own.vw.kp0 h9.kp
    have hel := edK_len T (stsK T.vars T.vars.length).length
    have hol := hST.ol
    have hel2 : (stsK T.vars T.vars.length).length * T.ops.length ≤ 512 * 20 := Nat.mul_le_mul (by omega) hol
    have helA : (edA T).length ≤ 10240 := by show (edK T (stsK T.vars T.vars.length).length).length ≤ _; omega
    obtain ⟨M, hM'⟩ : ∃ M, M = (edA T).length := ⟨_, rfl⟩
    simp [hev.len, ← hM']
    refine range_loop (n := M) (by omega) (fun k ρ w' => ρ 1 = .pointer (some ⟨tb, 0, none⟩) ∧ ρ 6 = dv ∧ ρ 58 = ev ∧ Kp [] w9 w') (by simp) (by simp)
      ⟨by simp [g1], by simp [g6], by simp, Kp.refl _ _⟩ (by decide) (fun _ _ _ _ h => by simpa using h) (fun _ _ _ _ h => by simpa using h) ?_ ?_
    rotate_left
    · rintro ρ w10 ⟨g1, g6, g58, k10⟩
      simp
      exact k1.trans (k16.trans (k9.trans k10))
    clear g1 g3 g6 g32
    rintro k ρ w10 hk hck hlk ⟨g1, g6, g58, k10⟩
    obtain ⟨e, he⟩ : ∃ e, (edA T)[k]? = some e := ⟨_, List.getElem?_eq_getElem (by omega)⟩
    have hem := List.mem_of_getElem? he
    obtain ⟨r1, r2, r3⟩ := ed_rng hST hem
    have hst1 := hlow.st e hem
    obtain ⟨ef, eq, et⟩ := e
    simp only at r1 r2 r3 hst1
    obtain ⟨o, ho⟩ : ∃ o, T.ops[eq]? = some o := ⟨_, List.getElem?_eq_getElem r2⟩
    have hcq : cst T [] eq = o.cost := by unfold cst; simp only [List.length_nil, if_true, ho]
    rw [hcq] at hst1
    obtain ⟨fb, hfb⟩ : ∃ fb, fb = w10.heap.size := ⟨_, rfl⟩
    have hev10 := hev.kp0 k10
    have ec := hev10.cells edE_len he
    simp only [edE] at ec
    have hki : (k : Int) < (edA T).length := by omega
    simp (disch := omega) [g58, hck, hlk, hev10.idx, ec, ← hfb]
    refine st_ed (e := (ef, eq, et)) .emp (At.start rfl : At w10 [] Emp w10) hfb fun w11 h11 => ?_
    have oe11 := h11.obj
    unfold edO at oe11
    have k911 := k10.trans0 h11.kp
    have ob11 := (k9.trans k911).blk oc6 (by simp)
    have hops := (hr6.kp (k9.trans k911)).ops
    have hdv11 := hdv9.kp0 k911
    have htl : (tabN N (hI T vS)).length = N := tabN_len _ _
    have ct := nE_cell hdv11 (tabN_at (g := hI T vS) (show et < N by omega))
    have cf := nE_cell hdv11 (tabN_at (g := hI T vS) (show ef < N by omega))
    have hti : (et : Int) < N := by omega
    have hfi : (ef : Int) < N := by omega
    have hqi : (eq : Int) < T.ops.length := by omega
    have c1 := hops.fld noE_len ho (o := 1) (u := .int .i64 (o.cost : Nat)) rfl
    obtain ⟨ht, hht⟩ : ∃ x, x = hI T vS et := ⟨_, rfl⟩
    obtain ⟨hf, hhf⟩ : ∃ x, x = hI T vS ef := ⟨_, rfl⟩
    have htI : ht ≤ Inf := by rw [hht]; exact hlow.le et
    rw [← hht] at ct
    rw [← hhf] at cf
    rw [← hht, ← hhf] at hst1
    have hInf : Inf = 1125899906842624 := rfl
    have hco := (hST.g.ops o (List.mem_of_getElem? ho)).cost
    obtain ⟨sm, hsm2⟩ : ∃ sm, sm = o.cost + ht := ⟨_, rfl⟩
    have esm : (o.cost : Int) + (ht : Int) = (sm : Int) := by omega
    have n2 : ¬ (sm : Int) < (hf : Int) := by omega
    by_cases s1 : ht < Inf
    · have s1' : (ht : Int) < 1125899906842624 := by omega
      simp (disch := omega) [g1, g6, cell_blk oe11, ← hfb, cell_blk ob11, raw_ov, hdv11.idx, htl, ct, cf, hops.idx, c1, s1', esm, n2, wrap_i64]
      exact ⟨hck, hlk, g58, k911.trans (Kp.refl [] _).drew⟩
    · have s1' : ¬ (ht : Int) < 1125899906842624 := by omega
      simp (disch := omega) [g1, g6, cell_blk oe11, ← hfb, cell_blk ob11, raw_ov, hdv11.idx, htl, ct, cf, s1', wrap_i64]
      exact ⟨hck, hlk, g58, k911.trans (Kp.refl [] _).drew⟩
end Go.Proofs.Ytjpbkljnllkneaa
