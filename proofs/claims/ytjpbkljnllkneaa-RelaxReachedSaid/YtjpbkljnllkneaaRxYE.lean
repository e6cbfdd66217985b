/-
  A part of the proofs of this seat's statements (RxYE); no conditions beyond those each theorem names.
-/
import Derived.Test.YtjpbkljnllkneaaRxYD
set_option maxRecDepth 100000
set_option linter.unusedSimpArgs false
set_option linter.unusedVariables false
namespace Go.Proofs.Ytjpbkljnllkneaa
open Go Go.W Go.Tk Go.Rx Go.Maps
def RcI (T : Nt) (s : List Nat) (ws : List Int) (i : Nat) (v : Value) : Prop := ∃ V, IsVal (allow (okL (ws.take i)) (uns T (cst T []))) (stN T.vars s T.vars.length) V ∧ v = .bool (decide (grF T.vars V T.goal < Inf))
set_option maxHeartbeats 400000 in
theorem law_reached {w : World} (t : Tk) (wv : Value) (ws : List Int) (ht : TkR w t) (hl : TkL t) (hw : Vw w wv iE ws) (hwr : ∀ z ∈ ws, zok z) (hwl : ws.length ≤ 9223372036854775807) :
    Calls Try.prog 5 [tkV t, wv].toArray w fun e w' => ∃ x, e = .returned x ∧ x = .bool true ∧ Kp [] w w' := by
  refine enter Try.func5 mixed low5 (Nat.le_of_ble_eq_true rfl) ?_
  simp only [L5]
  obtain ⟨tb, htb⟩ : ∃ tb, tb = w.heap.size := ⟨_, rfl⟩
  obtain ⟨w1, hw1⟩ : ∃ w1, w1 = w.alloc (tkO t) := ⟨_, rfl⟩
  have k1 : Kp [] w w1 := by rw [hw1]; exact (Kp.refl [] w).alloc _
  have hw1' : w.alloc (.cells #[t.vv.1, t.nv.1, t.gv.1, t.ov.1] 26 (0, 0)) = w1 := by rw [hw1]; rfl
  have ob1 : w1.heap[tb]? = some (tkO t) := by rw [htb, hw1]; exact alloc_new
  simp [tkV, ← htb, hw1', rd_tk ob1]
  refine cl_of (small_spec t (ht.kp k1) hl) ?_
  rintro _ w2 ⟨rfl, k2⟩
  have hw2 := hw.kp0 (k1.trans k2)
  cases hsm : smallB t with
  | false =>
    simp
    refine cl_of awake_spec ?_
    rintro _ w3 ⟨rfl, k3⟩
    simp
    exact k1.trans (k2.trans k3)
  | true =>
    by_cases h30 : 30 < ws.length
    · have h30' : (30 : Int) < ws.length := by omega
      simp [hw2.len, h30, h30']
      refine cl_of awake_spec ?_
      rintro _ w3 ⟨rfl, k3⟩
      simp
      exact k1.trans (k2.trans k3)
    have h30' : ¬ (30 : Int) < ws.length := by omega
    obtain ⟨T, rfl, hST⟩ := small_nat hl hsm
    have hr := NtR.raw.1 ht
    simp [hw2.len, h30, h30']
    refine cl_of awake_spec ?_
    rintro _ w3 ⟨rfl, k3⟩
    have k13 := k2.trans k3
    simp [rd_tk (k13.blk ob1 (by simp)), raw_vv, raw_nv, raw_gv, raw_ov]
    refine cl_of (new_ok T (.slice none 0 0) [] hST (hr.kp (k1.trans k13)) (Vw.nil _ _) CsOk.nil) ?_
    rintro _ w5 ⟨b, rfl, hR, k5⟩
    have k15 := k13.trans k5
    have hP := pr_none hST.g
    have hU := uns_congr hP.eq
    have hU : uns T (cst T []) = uns T (cstL (T.ops.map (·.cost))) := hU
    have hS := SmT.sm hST (c := cst T []) (fun i hi => CsOk.nil.cst hST.g i hi)
    simp [rd_tk (k15.blk ob1 (by simp)), raw_vv, raw_nv, raw_gv, raw_ov]
    refine cl_of (some_spec T (hr.kp (k1.trans k15)) hST.g (SmT.sts hST)) ?_
    rintro uv w6 ⟨ls, hls, hlsl, k6, hlv⟩
    obtain ⟨ps, hpl, hpv, hpr⟩ := hlv.spread
    have k16 := k15.trans k6
    have ob6 := k16.blk ob1 (by simp)
    have hr6 := hr.kp (k1.trans k16)
    have hR6 := hR.kp k6
    have hw6 := hw.kp0 (k1.trans k16)
    have hvl := hST.vl
    have hgl := hST.g.goal.len
    simp [hpv.len]
    refine range_loop (n := ps.length) (by omega) (fun k ρ w' => ρ 1 = wv ∧ ρ 2 = .pointer (some ⟨tb, 0, none⟩) ∧ ρ 5 = .pointer (some ⟨b, 0, none⟩) ∧ ρ 33 = uv ∧ Kp [] w6 w') (by simp) (by simp)
      ⟨by simp, by simp, by simp, by simp, Kp.refl _ _⟩ (by decide) (fun _ _ _ _ h => by simpa using h) (fun _ _ _ _ h => by simpa using h) ?_ ?_
    rotate_left
    · rintro ρ w7 ⟨g1, g2, g5, g33, k7⟩
      simp
      exact k1.trans (k16.trans k7)
    rintro k ρ w7 hk hck hlk ⟨g1, g2, g5, g33, k7⟩
    obtain ⟨p, hp⟩ : ∃ p, ps[k]? = some p := ⟨_, List.getElem?_eq_getElem hk⟩
    obtain ⟨s, hsk, hsv⟩ := hpr k p hp
    have hst := hls s (List.mem_of_getElem? hsk)
    have hpv7 := hpv.kp0 k7
    have ep : w7.cell? (uv.adr.add k) = some p.1.1 := by simpa using hpv7.at_ sv1_len hp (o := 0) (u := p.1.1) rfl
    have hki : (k : Int) < ps.length := by omega
    simp (disch := omega) [g1, g2, g5, g33, hck, hlk, hpv7.idx, ep]
    refine cl_of (rl_reached p.1.1 (.slice none 0 0) s [] (hR6.kp k7) hST.g (hsv.kp0 k7) (Vw.nil _ _) (by simp) (by simp) hst hS) ?_
    rintro _ w8 ⟨V0, hV0, rfl, k8⟩
    have hV0' := hV0
    rw [allow_nil] at hV0'
    have k68 := k7.trans k8
    simp [g5]
    refine cl_of (rl_max p.1.1 s (hR6.kp k68) hST.g (hsv.kp0 k68) hst hS) ?_
    rintro _ w9 ⟨V3, hV3, rfl, k9⟩
    have eV := hV3.uniq hV0'
    subst eV
    have k69 := k68.trans k9
    have hinf : (decide ((grF T.vars V3 T.goal : Int) < 1125899906842624)) = decide (grF T.vars V3 T.goal < Inf) := by
      have : (grF T.vars V3 T.goal : Int) < 1125899906842624 ↔ grF T.vars V3 T.goal < Inf := by unfold Inf; omega
      simp [this]
    simp [hinf, g1, (hw6.kp0 k69).len]
    refine range_loop (n := ws.length) (by omega) (fun i ρ w' => ρ 1 = wv ∧ ρ 2 = .pointer (some ⟨tb, 0, none⟩) ∧ ρ 5 = .pointer (some ⟨b, 0, none⟩) ∧ ρ 33 = uv ∧ ρ 34 = .int .i64 (ps.length : Nat) ∧ ρ 35 = .int .i64 (k : Nat) ∧ ρ 8 = p.1.1 ∧ RcI T s ws i (ρ 9) ∧ Kp [] w9 w') (by simp) (by simp)
      ⟨by simp [g1], by simp [g2], by simp [g5], by simp [g33], by simp [hlk], by simp [hck], by simp, by simp; exact ⟨V3, hV0, rfl⟩, Kp.refl _ _⟩ (by decide) (fun _ _ _ _ h => by simpa using h) (fun _ _ _ _ h => by simpa using h) ?_ ?_
    rotate_left
    · clear g1 g2 g5 g33 hck hlk
      rintro ρ w10 ⟨g1, g2, g5, g33, g34, g35, g8, _, k10⟩
      simp [g1, g2, g5, g33, g34, g35]
      exact k69.trans k10
    clear g1 g2 g5 g33 hck hlk
    rintro i ρ w10 hi hci hli ⟨g1, g2, g5, g33, g34, g35, g8, ⟨V, hV, g9⟩, k10⟩
    have k610 := k69.trans k10
    have hw10 := hw6.kp0 k610
    obtain ⟨i1, hi1⟩ : ∃ i1, i1 = i + 1 := ⟨_, rfl⟩
    have ei : (i : Int) + 1 = (i1 : Int) := by omega
    have hi1l : i1 ≤ ws.length := by omega
    have htl : (ws.take i1).length ≤ 1000 := by simp; omega
    have htr : ∀ z ∈ ws.take i1, zok z := fun z hz => hwr z (List.mem_of_mem_take hz)
    simp (disch := omega) [g1, g2, g5, g8, hci, hli, wrap_i64, ei]
    refine hw10.slice_hi iE_len sl_22 hi1l fun v1 hv1 _ => ?_
    simp [g5, g8]
    refine cl_of (rl_reached p.1.1 v1 s (ws.take i1) (hR6.kp k610) hST.g (hsv.kp0 k610) hv1 htl htr hst hS) ?_
    rintro _ w11 ⟨V1, hV1, rfl, k11⟩
    have k611 := k610.trans k11
    have hmono : grF T.vars V T.goal ≤ grF T.vars V1 T.goal := by
      refine gr_mono fun x _ => hV.mono hV1 (fun u hu => ⟨u, ?_, rfl, Nat.le_refl _, fun _ h => h⟩) x
      rw [allow_mem] at hu ⊢
      refine ⟨hu.1, ?_⟩
      have := hu.2
      simp only [okL, decide_eq_true_eq] at this ⊢
      exact fun hm => this (by rw [hi1]; exact (List.take_subset_take_left ws (by omega)) hm)
    have hbb : (decide (grF T.vars V1 T.goal < Inf) && !decide (grF T.vars V T.goal < Inf)) = false := by
      by_cases q : grF T.vars V1 T.goal < Inf
      · simp [q]; omega
      · simp [q]
    obtain ⟨b1, hb1⟩ : ∃ b1, b1 = decide (grF T.vars V1 T.goal < Inf) := ⟨_, rfl⟩
    obtain ⟨b0, hb0⟩ : ∃ b0, b0 = decide (grF T.vars V T.goal < Inf) := ⟨_, rfl⟩
    rw [← hb1, ← hb0] at hbb
    rw [← hb0] at g9
    rw [← hb1]
    have k11d := k611.trans ((Kp.refl [] w11).drew)
    have hw11 := hw6.kp0 k11d
    have obd := k11d.blk ob6 (by simp)
    have obe := obd
    unfold tkO at obe
    have cg : (b1 = true ∧ b0 = true) ∨ b1 = false := by revert hbb; cases b1 <;> cases b0 <;> simp
    have g2' := g2
    have hvol := hST.ol
    rcases cg with ⟨rfl, rfl⟩ | rfl
    · simp (disch := omega) [g9, g1, g2, g5, g8, hci, hli, wrap_i64, ei, rd_tk obd, cell_blk obe, raw_vv, raw_nv, raw_gv, raw_ov]
      refine ⟨?_, ?_, ?_, ?_, ?_, ?_⟩
      · refine hw11.slice_hi iE_len sl_22 hi1l fun v2 hv2 _ => ?_
        simp (disch := omega) [g9, g1, g2, g5, g8, rd_tk obd, cell_blk obe, raw_vv, raw_nv, raw_gv, raw_ov]
        refine cl_of (costs_spec T (hr6.kp k11d) (by omega)) ?_
        rintro cvv w12 n12
        have k612 := k11d.trans n12.kp
        have ob12 := k612.blk ob6 (by simp)
        have oc12 := ob12
        unfold tkO at oc12
        simp (disch := omega) [g9, g1, g2, g5, g8, hci, hli, wrap_i64, ei, rd_tk ob12, cell_blk oc12, raw_vv, raw_nv, raw_gv, raw_ov]
        refine cl_of (rfacts_spec T cvv p.1.1 v2 (T.ops.map (·.cost)) s (ws.take i1) (hr6.kp k612) hST.g n12.own.vw hP.rlen hP.rb (hsv.kp0 k612) hst (hv2.kp0 (n12.kp)) htl) ?_
        rintro fv w13 ⟨V2, hV2, k13, hfv⟩
        rw [← hU] at hV2
        have eV := hV2.uniq hV1
        subst eV
        have k613 := k612.trans k13
        have ob13 := k613.blk ob6 (by simp)
        have oc13 := ob13
        unfold tkO at oc13
        simp (disch := omega) [g9, g1, g2, g5, g8, rd_tk ob13, cell_blk oc13, raw_vv, raw_nv, raw_gv, raw_ov]
        refine cl_of (greatest_spec fv T.gv.1 T.vars V2 T.goal hfv (hr6.kp k613).goal (by omega) hST.g.goal.rng) ?_
        rintro _ w14 ⟨rfl, k14⟩
        have hinf2 : (decide ((grF T.vars V2 T.goal : Int) < 1125899906842624)) = decide (grF T.vars V2 T.goal < Inf) := by
          have : (grF T.vars V2 T.goal : Int) < 1125899906842624 ↔ grF T.vars V2 T.goal < Inf := by unfold Inf; omega
          simp [this]
        simp [hinf2, ← hb1, g1, g2, g5, g33, g34, g35, g8, hci, hli]
        exact ⟨⟨V2, by rw [← hi1]; exact hV1, by rw [← hb1]⟩, k10.trans (k11.trans ((((Kp.refl [] w11).drew).trans n12.kp).trans (k13.trans k14)))⟩
      · refine hw11.slice_hi iE_len sl_22 hi1l fun v2 hv2 _ => ?_
        simp (disch := omega) [g9, g1, g2, g5, g8, rd_tk obd, cell_blk obe, raw_vv, raw_nv, raw_gv, raw_ov]
        refine cl_of (costs_spec T (hr6.kp k11d) (by omega)) ?_
        rintro cvv w12 n12
        have k612 := k11d.trans n12.kp
        have ob12 := k612.blk ob6 (by simp)
        have oc12 := ob12
        unfold tkO at oc12
        simp (disch := omega) [g9, g1, g2, g5, g8, hci, hli, wrap_i64, ei, rd_tk ob12, cell_blk oc12, raw_vv, raw_nv, raw_gv, raw_ov]
        refine cl_of (rfacts_spec T cvv p.1.1 v2 (T.ops.map (·.cost)) s (ws.take i1) (hr6.kp k612) hST.g n12.own.vw hP.rlen hP.rb (hsv.kp0 k612) hst (hv2.kp0 (n12.kp)) htl) ?_
        rintro fv w13 ⟨V2, hV2, k13, hfv⟩
        rw [← hU] at hV2
        have eV := hV2.uniq hV1
        subst eV
        have k613 := k612.trans k13
        have ob13 := k613.blk ob6 (by simp)
        have oc13 := ob13
        unfold tkO at oc13
        simp (disch := omega) [g9, g1, g2, g5, g8, rd_tk ob13, cell_blk oc13, raw_vv, raw_nv, raw_gv, raw_ov]
        refine cl_of (greatest_spec fv T.gv.1 T.vars V2 T.goal hfv (hr6.kp k613).goal (by omega) hST.g.goal.rng) ?_
        rintro _ w14 ⟨rfl, k14⟩
        have hinf2 : (decide ((grF T.vars V2 T.goal : Int) < 1125899906842624)) = decide (grF T.vars V2 T.goal < Inf) := by
          have : (grF T.vars V2 T.goal : Int) < 1125899906842624 ↔ grF T.vars V2 T.goal < Inf := by unfold Inf; omega
          simp [this]
        simp [hinf2, ← hb1, g1, g2, g5, g33, g34, g35, g8, hci, hli]
        exact ⟨⟨V2, by rw [← hi1]; exact hV1, by rw [← hb1]⟩, k10.trans (k11.trans ((((Kp.refl [] w11).drew).trans n12.kp).trans (k13.trans k14)))⟩
      · refine cl_of (costs_spec T (hr6.kp k11d) (by omega)) ?_
        rintro cvv w12 n12
        have k612 := k11d.trans n12.kp
        have ob12 := k612.blk ob6 (by simp)
        have oc12 := ob12
        unfold tkO at oc12
        simp (disch := omega) [g9, g1, g2, g5, g8, hci, hli, wrap_i64, ei, rd_tk ob12, cell_blk oc12, raw_vv, raw_nv, raw_gv, raw_ov]
        refine (hw11.kp0 n12.kp).slice_hi iE_len sl_22 hi1l fun v2 hv2 _ => ?_
        simp (disch := omega) [g9, g1, g2, g5, g8, rd_tk ob12, cell_blk oc12, raw_vv, raw_nv, raw_gv, raw_ov]
        refine cl_of (rfacts_spec T cvv p.1.1 v2 (T.ops.map (·.cost)) s (ws.take i1) (hr6.kp k612) hST.g n12.own.vw hP.rlen hP.rb (hsv.kp0 k612) hst hv2 htl) ?_
        rintro fv w13 ⟨V2, hV2, k13, hfv⟩
        rw [← hU] at hV2
        have eV := hV2.uniq hV1
        subst eV
        have k613 := k612.trans k13
        have ob13 := k613.blk ob6 (by simp)
        have oc13 := ob13
        unfold tkO at oc13
        simp (disch := omega) [g9, g1, g2, g5, g8, rd_tk ob13, cell_blk oc13, raw_vv, raw_nv, raw_gv, raw_ov]
        refine cl_of (greatest_spec fv T.gv.1 T.vars V2 T.goal hfv (hr6.kp k613).goal (by omega) hST.g.goal.rng) ?_
        rintro _ w14 ⟨rfl, k14⟩
        have hinf2 : (decide ((grF T.vars V2 T.goal : Int) < 1125899906842624)) = decide (grF T.vars V2 T.goal < Inf) := by
          have : (grF T.vars V2 T.goal : Int) < 1125899906842624 ↔ grF T.vars V2 T.goal < Inf := by unfold Inf; omega
          simp [this]
        simp [hinf2, ← hb1, g1, g2, g5, g33, g34, g35, g8, hci, hli]
        exact ⟨⟨V2, by rw [← hi1]; exact hV1, by rw [← hb1]⟩, k10.trans (k11.trans ((((Kp.refl [] w11).drew).trans n12.kp).trans (k13.trans k14)))⟩
      · refine hw11.slice_hi iE_len sl_22 hi1l fun v2 hv2 _ => ?_
        simp (disch := omega) [g9, g1, g2, g5, g8, rd_tk obd, cell_blk obe, raw_vv, raw_nv, raw_gv, raw_ov]
        refine cl_of (costs_spec T (hr6.kp k11d) (by omega)) ?_
        rintro cvv w12 n12
        have k612 := k11d.trans n12.kp
        have ob12 := k612.blk ob6 (by simp)
        have oc12 := ob12
        unfold tkO at oc12
        simp (disch := omega) [g9, g1, g2, g5, g8, hci, hli, wrap_i64, ei, rd_tk ob12, cell_blk oc12, raw_vv, raw_nv, raw_gv, raw_ov]
        refine cl_of (rfacts_spec T cvv p.1.1 v2 (T.ops.map (·.cost)) s (ws.take i1) (hr6.kp k612) hST.g n12.own.vw hP.rlen hP.rb (hsv.kp0 k612) hst (hv2.kp0 (n12.kp)) htl) ?_
        rintro fv w13 ⟨V2, hV2, k13, hfv⟩
        rw [← hU] at hV2
        have eV := hV2.uniq hV1
        subst eV
        have k613 := k612.trans k13
        have ob13 := k613.blk ob6 (by simp)
        have oc13 := ob13
        unfold tkO at oc13
        simp (disch := omega) [g9, g1, g2, g5, g8, rd_tk ob13, cell_blk oc13, raw_vv, raw_nv, raw_gv, raw_ov]
        refine cl_of (greatest_spec fv T.gv.1 T.vars V2 T.goal hfv (hr6.kp k613).goal (by omega) hST.g.goal.rng) ?_
        rintro _ w14 ⟨rfl, k14⟩
        have hinf2 : (decide ((grF T.vars V2 T.goal : Int) < 1125899906842624)) = decide (grF T.vars V2 T.goal < Inf) := by
          have : (grF T.vars V2 T.goal : Int) < 1125899906842624 ↔ grF T.vars V2 T.goal < Inf := by unfold Inf; omega
          simp [this]
        simp [hinf2, ← hb1, g1, g2, g5, g33, g34, g35, g8, hci, hli]
        exact ⟨⟨V2, by rw [← hi1]; exact hV1, by rw [← hb1]⟩, k10.trans (k11.trans ((((Kp.refl [] w11).drew).trans n12.kp).trans (k13.trans k14)))⟩
      · refine hw11.slice_hi iE_len sl_22 hi1l fun v2 hv2 _ => ?_
        simp (disch := omega) [g9, g1, g2, g5, g8, rd_tk obd, cell_blk obe, raw_vv, raw_nv, raw_gv, raw_ov]
        refine cl_of (costs_spec T (hr6.kp k11d) (by omega)) ?_
        rintro cvv w12 n12
        have k612 := k11d.trans n12.kp
        have ob12 := k612.blk ob6 (by simp)
        have oc12 := ob12
        unfold tkO at oc12
        simp (disch := omega) [g9, g1, g2, g5, g8, hci, hli, wrap_i64, ei, rd_tk ob12, cell_blk oc12, raw_vv, raw_nv, raw_gv, raw_ov]
        refine cl_of (rfacts_spec T cvv p.1.1 v2 (T.ops.map (·.cost)) s (ws.take i1) (hr6.kp k612) hST.g n12.own.vw hP.rlen hP.rb (hsv.kp0 k612) hst (hv2.kp0 (n12.kp)) htl) ?_
        rintro fv w13 ⟨V2, hV2, k13, hfv⟩
        rw [← hU] at hV2
        have eV := hV2.uniq hV1
        subst eV
        have k613 := k612.trans k13
        have ob13 := k613.blk ob6 (by simp)
        have oc13 := ob13
        unfold tkO at oc13
        simp (disch := omega) [g9, g1, g2, g5, g8, rd_tk ob13, cell_blk oc13, raw_vv, raw_nv, raw_gv, raw_ov]
        refine cl_of (greatest_spec fv T.gv.1 T.vars V2 T.goal hfv (hr6.kp k613).goal (by omega) hST.g.goal.rng) ?_
        rintro _ w14 ⟨rfl, k14⟩
        have hinf2 : (decide ((grF T.vars V2 T.goal : Int) < 1125899906842624)) = decide (grF T.vars V2 T.goal < Inf) := by
          have : (grF T.vars V2 T.goal : Int) < 1125899906842624 ↔ grF T.vars V2 T.goal < Inf := by unfold Inf; omega
          simp [this]
        simp [hinf2, ← hb1, g1, g2, g5, g33, g34, g35, g8, hci, hli]
        exact ⟨⟨V2, by rw [← hi1]; exact hV1, by rw [← hb1]⟩, k10.trans (k11.trans ((((Kp.refl [] w11).drew).trans n12.kp).trans (k13.trans k14)))⟩
      · refine hw11.slice_hi iE_len sl_22 hi1l fun v2 hv2 _ => ?_
        simp (disch := omega) [g9, g1, g2, g5, g8, rd_tk obd, cell_blk obe, raw_vv, raw_nv, raw_gv, raw_ov]
        refine cl_of (costs_spec T (hr6.kp k11d) (by omega)) ?_
        rintro cvv w12 n12
        have k612 := k11d.trans n12.kp
        have ob12 := k612.blk ob6 (by simp)
        have oc12 := ob12
        unfold tkO at oc12
        simp (disch := omega) [g9, g1, g2, g5, g8, hci, hli, wrap_i64, ei, rd_tk ob12, cell_blk oc12, raw_vv, raw_nv, raw_gv, raw_ov]
        refine cl_of (rfacts_spec T cvv p.1.1 v2 (T.ops.map (·.cost)) s (ws.take i1) (hr6.kp k612) hST.g n12.own.vw hP.rlen hP.rb (hsv.kp0 k612) hst (hv2.kp0 (n12.kp)) htl) ?_
        rintro fv w13 ⟨V2, hV2, k13, hfv⟩
        rw [← hU] at hV2
        have eV := hV2.uniq hV1
        subst eV
        have k613 := k612.trans k13
        have ob13 := k613.blk ob6 (by simp)
        have oc13 := ob13
        unfold tkO at oc13
        simp (disch := omega) [g9, g1, g2, g5, g8, rd_tk ob13, cell_blk oc13, raw_vv, raw_nv, raw_gv, raw_ov]
        refine cl_of (greatest_spec fv T.gv.1 T.vars V2 T.goal hfv (hr6.kp k613).goal (by omega) hST.g.goal.rng) ?_
        rintro _ w14 ⟨rfl, k14⟩
        have hinf2 : (decide ((grF T.vars V2 T.goal : Int) < 1125899906842624)) = decide (grF T.vars V2 T.goal < Inf) := by
          have : (grF T.vars V2 T.goal : Int) < 1125899906842624 ↔ grF T.vars V2 T.goal < Inf := by unfold Inf; omega
          simp [this]
        simp [hinf2, ← hb1, g1, g2, g5, g33, g34, g35, g8, hci, hli]
        exact ⟨⟨V2, by rw [← hi1]; exact hV1, by rw [← hb1]⟩, k10.trans (k11.trans ((((Kp.refl [] w11).drew).trans n12.kp).trans (k13.trans k14)))⟩
    · simp (disch := omega) [g9, g1, g2, g5, g8, hci, hli, wrap_i64, ei, rd_tk obd, cell_blk obe, raw_vv, raw_nv, raw_gv, raw_ov]
      refine ⟨?_, ?_, ?_, ?_, ?_, ?_⟩
      · refine hw11.slice_hi iE_len sl_22 hi1l fun v2 hv2 _ => ?_
        simp (disch := omega) [g9, g1, g2, g5, g8, rd_tk obd, cell_blk obe, raw_vv, raw_nv, raw_gv, raw_ov]
        refine cl_of (costs_spec T (hr6.kp k11d) (by omega)) ?_
        rintro cvv w12 n12
        have k612 := k11d.trans n12.kp
        have ob12 := k612.blk ob6 (by simp)
        have oc12 := ob12
        unfold tkO at oc12
        simp (disch := omega) [g9, g1, g2, g5, g8, hci, hli, wrap_i64, ei, rd_tk ob12, cell_blk oc12, raw_vv, raw_nv, raw_gv, raw_ov]
        refine cl_of (rfacts_spec T cvv p.1.1 v2 (T.ops.map (·.cost)) s (ws.take i1) (hr6.kp k612) hST.g n12.own.vw hP.rlen hP.rb (hsv.kp0 k612) hst (hv2.kp0 (n12.kp)) htl) ?_
        rintro fv w13 ⟨V2, hV2, k13, hfv⟩
        rw [← hU] at hV2
        have eV := hV2.uniq hV1
        subst eV
        have k613 := k612.trans k13
        have ob13 := k613.blk ob6 (by simp)
        have oc13 := ob13
        unfold tkO at oc13
        simp (disch := omega) [g9, g1, g2, g5, g8, rd_tk ob13, cell_blk oc13, raw_vv, raw_nv, raw_gv, raw_ov]
        refine cl_of (greatest_spec fv T.gv.1 T.vars V2 T.goal hfv (hr6.kp k613).goal (by omega) hST.g.goal.rng) ?_
        rintro _ w14 ⟨rfl, k14⟩
        have hinf2 : (decide ((grF T.vars V2 T.goal : Int) < 1125899906842624)) = decide (grF T.vars V2 T.goal < Inf) := by
          have : (grF T.vars V2 T.goal : Int) < 1125899906842624 ↔ grF T.vars V2 T.goal < Inf := by unfold Inf; omega
          simp [this]
        simp [hinf2, ← hb1, g1, g2, g5, g33, g34, g35, g8, hci, hli]
        exact ⟨⟨V2, by rw [← hi1]; exact hV1, by rw [← hb1]⟩, k10.trans (k11.trans ((((Kp.refl [] w11).drew).trans n12.kp).trans (k13.trans k14)))⟩
      · refine hw11.slice_hi iE_len sl_22 hi1l fun v2 hv2 _ => ?_
        simp (disch := omega) [g9, g1, g2, g5, g8, rd_tk obd, cell_blk obe, raw_vv, raw_nv, raw_gv, raw_ov]
        refine cl_of (costs_spec T (hr6.kp k11d) (by omega)) ?_
        rintro cvv w12 n12
        have k612 := k11d.trans n12.kp
        have ob12 := k612.blk ob6 (by simp)
        have oc12 := ob12
        unfold tkO at oc12
        simp (disch := omega) [g9, g1, g2, g5, g8, hci, hli, wrap_i64, ei, rd_tk ob12, cell_blk oc12, raw_vv, raw_nv, raw_gv, raw_ov]
        refine cl_of (rfacts_spec T cvv p.1.1 v2 (T.ops.map (·.cost)) s (ws.take i1) (hr6.kp k612) hST.g n12.own.vw hP.rlen hP.rb (hsv.kp0 k612) hst (hv2.kp0 (n12.kp)) htl) ?_
        rintro fv w13 ⟨V2, hV2, k13, hfv⟩
        rw [← hU] at hV2
        have eV := hV2.uniq hV1
        subst eV
        have k613 := k612.trans k13
        have ob13 := k613.blk ob6 (by simp)
        have oc13 := ob13
        unfold tkO at oc13
        simp (disch := omega) [g9, g1, g2, g5, g8, rd_tk ob13, cell_blk oc13, raw_vv, raw_nv, raw_gv, raw_ov]
        refine cl_of (greatest_spec fv T.gv.1 T.vars V2 T.goal hfv (hr6.kp k613).goal (by omega) hST.g.goal.rng) ?_
        rintro _ w14 ⟨rfl, k14⟩
        have hinf2 : (decide ((grF T.vars V2 T.goal : Int) < 1125899906842624)) = decide (grF T.vars V2 T.goal < Inf) := by
          have : (grF T.vars V2 T.goal : Int) < 1125899906842624 ↔ grF T.vars V2 T.goal < Inf := by unfold Inf; omega
          simp [this]
        simp [hinf2, ← hb1, g1, g2, g5, g33, g34, g35, g8, hci, hli]
        exact ⟨⟨V2, by rw [← hi1]; exact hV1, by rw [← hb1]⟩, k10.trans (k11.trans ((((Kp.refl [] w11).drew).trans n12.kp).trans (k13.trans k14)))⟩
      · refine cl_of (costs_spec T (hr6.kp k11d) (by omega)) ?_
        rintro cvv w12 n12
        have k612 := k11d.trans n12.kp
        have ob12 := k612.blk ob6 (by simp)
        have oc12 := ob12
        unfold tkO at oc12
        simp (disch := omega) [g9, g1, g2, g5, g8, hci, hli, wrap_i64, ei, rd_tk ob12, cell_blk oc12, raw_vv, raw_nv, raw_gv, raw_ov]
        refine (hw11.kp0 n12.kp).slice_hi iE_len sl_22 hi1l fun v2 hv2 _ => ?_
        simp (disch := omega) [g9, g1, g2, g5, g8, rd_tk ob12, cell_blk oc12, raw_vv, raw_nv, raw_gv, raw_ov]
        refine cl_of (rfacts_spec T cvv p.1.1 v2 (T.ops.map (·.cost)) s (ws.take i1) (hr6.kp k612) hST.g n12.own.vw hP.rlen hP.rb (hsv.kp0 k612) hst hv2 htl) ?_
        rintro fv w13 ⟨V2, hV2, k13, hfv⟩
        rw [← hU] at hV2
        have eV := hV2.uniq hV1
        subst eV
        have k613 := k612.trans k13
        have ob13 := k613.blk ob6 (by simp)
        have oc13 := ob13
        unfold tkO at oc13
        simp (disch := omega) [g9, g1, g2, g5, g8, rd_tk ob13, cell_blk oc13, raw_vv, raw_nv, raw_gv, raw_ov]
        refine cl_of (greatest_spec fv T.gv.1 T.vars V2 T.goal hfv (hr6.kp k613).goal (by omega) hST.g.goal.rng) ?_
        rintro _ w14 ⟨rfl, k14⟩
        have hinf2 : (decide ((grF T.vars V2 T.goal : Int) < 1125899906842624)) = decide (grF T.vars V2 T.goal < Inf) := by
          have : (grF T.vars V2 T.goal : Int) < 1125899906842624 ↔ grF T.vars V2 T.goal < Inf := by unfold Inf; omega
          simp [this]
        simp [hinf2, ← hb1, g1, g2, g5, g33, g34, g35, g8, hci, hli]
        exact ⟨⟨V2, by rw [← hi1]; exact hV1, by rw [← hb1]⟩, k10.trans (k11.trans ((((Kp.refl [] w11).drew).trans n12.kp).trans (k13.trans k14)))⟩
      · refine hw11.slice_hi iE_len sl_22 hi1l fun v2 hv2 _ => ?_
        simp (disch := omega) [g9, g1, g2, g5, g8, rd_tk obd, cell_blk obe, raw_vv, raw_nv, raw_gv, raw_ov]
        refine cl_of (costs_spec T (hr6.kp k11d) (by omega)) ?_
        rintro cvv w12 n12
        have k612 := k11d.trans n12.kp
        have ob12 := k612.blk ob6 (by simp)
        have oc12 := ob12
        unfold tkO at oc12
        simp (disch := omega) [g9, g1, g2, g5, g8, hci, hli, wrap_i64, ei, rd_tk ob12, cell_blk oc12, raw_vv, raw_nv, raw_gv, raw_ov]
        refine cl_of (rfacts_spec T cvv p.1.1 v2 (T.ops.map (·.cost)) s (ws.take i1) (hr6.kp k612) hST.g n12.own.vw hP.rlen hP.rb (hsv.kp0 k612) hst (hv2.kp0 (n12.kp)) htl) ?_
        rintro fv w13 ⟨V2, hV2, k13, hfv⟩
        rw [← hU] at hV2
        have eV := hV2.uniq hV1
        subst eV
        have k613 := k612.trans k13
        have ob13 := k613.blk ob6 (by simp)
        have oc13 := ob13
        unfold tkO at oc13
        simp (disch := omega) [g9, g1, g2, g5, g8, rd_tk ob13, cell_blk oc13, raw_vv, raw_nv, raw_gv, raw_ov]
        refine cl_of (greatest_spec fv T.gv.1 T.vars V2 T.goal hfv (hr6.kp k613).goal (by omega) hST.g.goal.rng) ?_
        rintro _ w14 ⟨rfl, k14⟩
        have hinf2 : (decide ((grF T.vars V2 T.goal : Int) < 1125899906842624)) = decide (grF T.vars V2 T.goal < Inf) := by
          have : (grF T.vars V2 T.goal : Int) < 1125899906842624 ↔ grF T.vars V2 T.goal < Inf := by unfold Inf; omega
          simp [this]
        simp [hinf2, ← hb1, g1, g2, g5, g33, g34, g35, g8, hci, hli]
        exact ⟨⟨V2, by rw [← hi1]; exact hV1, by rw [← hb1]⟩, k10.trans (k11.trans ((((Kp.refl [] w11).drew).trans n12.kp).trans (k13.trans k14)))⟩
      · refine hw11.slice_hi iE_len sl_22 hi1l fun v2 hv2 _ => ?_
        simp (disch := omega) [g9, g1, g2, g5, g8, rd_tk obd, cell_blk obe, raw_vv, raw_nv, raw_gv, raw_ov]
        refine cl_of (costs_spec T (hr6.kp k11d) (by omega)) ?_
        rintro cvv w12 n12
        have k612 := k11d.trans n12.kp
        have ob12 := k612.blk ob6 (by simp)
        have oc12 := ob12
        unfold tkO at oc12
        simp (disch := omega) [g9, g1, g2, g5, g8, hci, hli, wrap_i64, ei, rd_tk ob12, cell_blk oc12, raw_vv, raw_nv, raw_gv, raw_ov]
        refine cl_of (rfacts_spec T cvv p.1.1 v2 (T.ops.map (·.cost)) s (ws.take i1) (hr6.kp k612) hST.g n12.own.vw hP.rlen hP.rb (hsv.kp0 k612) hst (hv2.kp0 (n12.kp)) htl) ?_
        rintro fv w13 ⟨V2, hV2, k13, hfv⟩
        rw [← hU] at hV2
        have eV := hV2.uniq hV1
        subst eV
        have k613 := k612.trans k13
        have ob13 := k613.blk ob6 (by simp)
        have oc13 := ob13
        unfold tkO at oc13
        simp (disch := omega) [g9, g1, g2, g5, g8, rd_tk ob13, cell_blk oc13, raw_vv, raw_nv, raw_gv, raw_ov]
        refine cl_of (greatest_spec fv T.gv.1 T.vars V2 T.goal hfv (hr6.kp k613).goal (by omega) hST.g.goal.rng) ?_
        rintro _ w14 ⟨rfl, k14⟩
        have hinf2 : (decide ((grF T.vars V2 T.goal : Int) < 1125899906842624)) = decide (grF T.vars V2 T.goal < Inf) := by
          have : (grF T.vars V2 T.goal : Int) < 1125899906842624 ↔ grF T.vars V2 T.goal < Inf := by unfold Inf; omega
          simp [this]
        simp [hinf2, ← hb1, g1, g2, g5, g33, g34, g35, g8, hci, hli]
        exact ⟨⟨V2, by rw [← hi1]; exact hV1, by rw [← hb1]⟩, k10.trans (k11.trans ((((Kp.refl [] w11).drew).trans n12.kp).trans (k13.trans k14)))⟩
      · refine hw11.slice_hi iE_len sl_22 hi1l fun v2 hv2 _ => ?_
        simp (disch := omega) [g9, g1, g2, g5, g8, rd_tk obd, cell_blk obe, raw_vv, raw_nv, raw_gv, raw_ov]
        refine cl_of (costs_spec T (hr6.kp k11d) (by omega)) ?_
        rintro cvv w12 n12
        have k612 := k11d.trans n12.kp
        have ob12 := k612.blk ob6 (by simp)
        have oc12 := ob12
        unfold tkO at oc12
        simp (disch := omega) [g9, g1, g2, g5, g8, hci, hli, wrap_i64, ei, rd_tk ob12, cell_blk oc12, raw_vv, raw_nv, raw_gv, raw_ov]
        refine cl_of (rfacts_spec T cvv p.1.1 v2 (T.ops.map (·.cost)) s (ws.take i1) (hr6.kp k612) hST.g n12.own.vw hP.rlen hP.rb (hsv.kp0 k612) hst (hv2.kp0 (n12.kp)) htl) ?_
        rintro fv w13 ⟨V2, hV2, k13, hfv⟩
        rw [← hU] at hV2
        have eV := hV2.uniq hV1
        subst eV
        have k613 := k612.trans k13
        have ob13 := k613.blk ob6 (by simp)
        have oc13 := ob13
        unfold tkO at oc13
        simp (disch := omega) [g9, g1, g2, g5, g8, rd_tk ob13, cell_blk oc13, raw_vv, raw_nv, raw_gv, raw_ov]
        refine cl_of (greatest_spec fv T.gv.1 T.vars V2 T.goal hfv (hr6.kp k613).goal (by omega) hST.g.goal.rng) ?_
        rintro _ w14 ⟨rfl, k14⟩
        have hinf2 : (decide ((grF T.vars V2 T.goal : Int) < 1125899906842624)) = decide (grF T.vars V2 T.goal < Inf) := by
          have : (grF T.vars V2 T.goal : Int) < 1125899906842624 ↔ grF T.vars V2 T.goal < Inf := by unfold Inf; omega
          simp [this]
        simp [hinf2, ← hb1, g1, g2, g5, g33, g34, g35, g8, hci, hli]
        exact ⟨⟨V2, by rw [← hi1]; exact hV1, by rw [← hb1]⟩, k10.trans (k11.trans ((((Kp.refl [] w11).drew).trans n12.kp).trans (k13.trans k14)))⟩
end Go.Proofs.Ytjpbkljnllkneaa
