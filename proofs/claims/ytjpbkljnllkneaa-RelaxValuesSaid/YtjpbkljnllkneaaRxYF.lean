/-
  A part of the proofs of this seat's statements (RxYF); no conditions beyond those each theorem names.
-/
import Derived.Test.YtjpbkljnllkneaaRxYE
set_option maxRecDepth 100000
set_option linter.unusedSimpArgs false
set_option linter.unusedVariables false
namespace Go.Proofs.Ytjpbkljnllkneaa
open Go Go.W Go.Tk Go.Rx Go.Maps
theorem stN_sum {vars s : List Nat} (h : StN vars s) : ∀ x ∈ stN vars s vars.length, x < vars.sum := fun x hx => by
  unfold stN at hx
  obtain ⟨v, hv, rfl⟩ := List.mem_map.1 hx
  have hv := List.mem_range.1 hv
  exact numF_lt (f := (v, s.getD v 0)) hv (h.rng v hv)
theorem sm_der {vars s : List Nat} {U : List Un} (hS : Sm vars U) (h : StN vars s) : ∀ f k, Der U (stN vars s vars.length) f k → f < vars.sum := fun f k d => der_lt hS.un.made (stN_sum h) d
theorem uns_twin {T : Nt} {c c' : Nat → Nat} : ∀ u ∈ uns T c, ∃ v ∈ uns T c', v.makes = u.makes ∧ ∀ n, n ∈ v.needs ↔ n ∈ u.needs := fun u hu => by
  obtain ⟨i, o, k, e, hi, ho, he, rfl⟩ := uns_mem hu
  exact ⟨_, mem_uns hi ho he, rfl, fun _ => Iff.rfl⟩
theorem lev_cost {T : Nt} {c c' : Nat → Nat} {S : List Nat} {L : Nat → Int} (h : IsLev (uns T c) S L) : IsLev (uns T c') S L := h.same uns_twin uns_twin
theorem cst_ones {T : Nt} {i : Nat} (hi : i < T.ops.length) : cst T ((List.replicate T.ops.length 1).map iN) i = 1 := by
  unfold cst
  rw [if_neg (by rw [List.length_map, List.length_replicate]; omega)]
  simp [List.getD, hi, iN]
theorem ones_ok {T : Nt} : CsOk T ((List.replicate T.ops.length 1).map iN) := ⟨.inr (by simp), fun c hc => by
  simp [iN] at hc
  omega⟩
theorem ones_cost {T : Nt} : ∀ u ∈ uns T (cst T ((List.replicate T.ops.length 1).map iN)), u.cost = 1 := fun u hu => by
  obtain ⟨i, o, k, e, hi, ho, he, rfl⟩ := uns_mem hu
  exact cst_ones hi
theorem tabN_one (n : Nat) : tabN n (upto n (fun _ => 1) 0) = List.replicate n 1 := by
  rw [upto_all]
  unfold tabN
  apply List.ext_getElem
  · simp
  · intro i h1 h2; simp
theorem lev_fin {vars s : List Nat} {U : List Un} {L : Nat → Int} {V : Nat → Nat} {f : Nat} (hS : Sm vars U) (h : StN vars s) (hL : IsLev U (stN vars s vars.length) L) (hV : IsVal U (stN vars s vars.length) V) : L f < 0 ↔ Inf ≤ V f :=
  hL.fin hV hS.un.cost (sm_der hS h) (by have := hS.sm; unfold Inf; omega)
theorem lev_ones {vars s : List Nat} {U : List Un} {L : Nat → Int} {V : Nat → Nat} {f : Nat} (hS : Sm vars U) (h : StN vars s) (h1 : ∀ u ∈ U, u.cost = 1) (hL : IsLev U (stN vars s vars.length) L) (hV : IsVal U (stN vars s vars.length) V) (hp : 0 ≤ L f) : L f = (V f : Int) :=
  hL.ones hV h1 (sm_der hS h) (by have := hS.sm; unfold Inf; omega) hp
set_option maxHeartbeats 1000000 in
theorem law_levels {w : World} (t : Tk) (ht : TkR w t) (hl : TkL t) :
    Calls Try.prog 8 [tkV t].toArray w fun e w' => ∃ x, e = .returned x ∧ x = .bool true ∧ Kp [] w w' := by
  refine enter Try.func8 mixed low8 (Nat.le_of_ble_eq_true rfl) ?_
  simp only [L8]
  obtain ⟨tb, htb⟩ : ∃ tb, tb = w.heap.size := ⟨_, rfl⟩
  obtain ⟨w1, hw1⟩ : ∃ w1, w1 = w.alloc (tkO t) := ⟨_, rfl⟩
  have k1 : Kp [] w w1 := by rw [hw1]; exact (Kp.refl [] w).alloc _
  have hw1' : w.alloc (.cells #[t.vv.1, t.nv.1, t.gv.1, t.ov.1] 26 (0, 0)) = w1 := by rw [hw1]; rfl
  have ob1 : w1.heap[tb]? = some (tkO t) := by rw [htb, hw1]; exact alloc_new
  simp [tkV, ← htb, hw1', rd_tk ob1]
  refine cl_of (small_spec t (ht.kp k1) hl) ?_
  rintro _ w2 ⟨rfl, k2⟩
  cases hsm : smallB t with
  | false =>
    simp
    refine cl_of awake_spec ?_
    rintro _ w3 ⟨rfl, k3⟩
    simp
    exact k1.trans (k2.trans k3)
  | true =>
    obtain ⟨T, rfl, hST⟩ := small_nat hl hsm
    have hr := NtR.raw.1 ht
    have hol := hST.ol
    simp
    refine cl_of awake_spec ?_
    rintro _ w3 ⟨rfl, k3⟩
    have k13 := k2.trans k3
    have ob3 := k13.blk ob1 (by simp)
    have oc3 := ob3
    unfold tkO at oc3
    simp [cell_blk oc3, raw_vv, raw_nv, raw_gv, raw_ov, (hr.kp (k1.trans k13)).ops.len]
    refine gd_mk (by omega) ?_
    have h4 := (At.start rfl : At w3 [] Emp w3).made (E := 3) (enc := nE) (x := 0) (z := [.int .i64 0]) (n := T.ops.length) .emp rfl nE_len (by unfold maxLen; omega)
    rw [upto_zero T.ops.length 0 (fun _ => 1)] at h4
    simp
    obtain ⟨ov, hov⟩ : ∃ ov, ov = Value.slice (some ⟨w3.heap.size, 0, none⟩) T.ops.length T.ops.length := ⟨_, rfl⟩
    rw [← hov] at h4
    simp [← hov, h4.own.vw.len, tabN_len]
    refine range_loop (n := T.ops.length) (by omega) (fun k ρ w' => ρ 1 = .pointer (some ⟨tb, 0, none⟩) ∧ ρ 3 = ov ∧ At w3 [] (Star (OwnA ov 3 1 nE (tabN T.ops.length (upto k (fun _ => 1) 0))) Emp) w') (by simp) (by simp)
      ⟨by simp, by simp, by simpa using h4⟩ (by decide) (fun _ _ _ _ h => by simpa using h) (fun _ _ _ _ h => by simpa using h) ?_ ?_
    · rintro k ρ w5 hk hck hlk ⟨g1, g3, h5⟩
      have hki : (k : Int) < T.ops.length := by omega
      have htl : (tabN T.ops.length (upto k (fun _ => 1) 0)).length = T.ops.length := tabN_len _ _
      simp (disch := omega) [g1, g3, hck, hlk, h5.own.idx, htl]
      refine h5.store1 .emp nE_len nE_one (k := k) (by omega) (x := 1) rfl fun w6 h6 => ?_
      rw [tabN_set hk, upto_succ] at h6
      simp [g1, g3, hck, hlk]
      exact h6
    rintro ρ w4 ⟨g1, g3, h5⟩
    rw [tabN_one] at h5
    have hov4 := h5.own.vw
    have k14 := k13.trans0 h5.kp
    clear h4
    simp [g1, rd_tk (k14.blk ob1 (by simp)), raw_vv, raw_nv, raw_gv, raw_ov]
    refine cl_of (new_ok T (.slice none 0 0) [] hST (hr.kp (k1.trans k14)) (Vw.nil _ _) CsOk.nil) ?_
    rintro _ w5 ⟨b, rfl, hR, k5⟩
    have k15 := k14.trans k5
    have hS := SmT.sm hST (c := cst T []) (fun i hi => CsOk.nil.cst hST.g i hi)
    simp [g1, g3, rd_tk (k15.blk ob1 (by simp)), raw_vv, raw_nv, raw_gv, raw_ov]
    refine cl_of (new_ok T ov ((List.replicate T.ops.length 1).map iN) hST (hr.kp (k1.trans k15)) (vw_n.2 (hov4.kp0 k5)) ones_ok) ?_
    rintro _ w5b ⟨b1, rfl, hR1, k5b⟩
    have k15b := k15.trans k5b
    have hS1 := SmT.sm hST (c := cst T ((List.replicate T.ops.length 1).map iN)) (fun i hi => ones_ok.cst hST.g i hi)
    simp [g1, g3, rd_tk (k15b.blk ob1 (by simp)), raw_vv, raw_nv, raw_gv, raw_ov]
    refine cl_of (some_spec T (hr.kp (k1.trans k15b)) hST.g (SmT.sts hST)) ?_
    rintro uv w6 ⟨ls, hls, hlsl, k6, hlv⟩
    obtain ⟨ps, hpl, hpv, hpr⟩ := hlv.spread
    have k16 := k15b.trans k6
    have ob6 := k16.blk ob1 (by simp)
    have hr6 := hr.kp (k1.trans k16)
    have hR6 := hR.kp (k5b.trans k6)
    have hR16 := hR1.kp k6
    have hvl := hST.vl
    simp [hpv.len]
    refine range_loop (n := ps.length) (by omega) (fun k ρ w' => ρ 1 = .pointer (some ⟨tb, 0, none⟩) ∧ ρ 5 = .pointer (some ⟨b, 0, none⟩) ∧ ρ 7 = .pointer (some ⟨b1, 0, none⟩) ∧ ρ 55 = uv ∧ Kp [] w6 w') (by simp) (by simp)
      ⟨by simp [g1], by simp, by simp, by simp, Kp.refl _ _⟩ (by decide) (fun _ _ _ _ h => by simpa using h) (fun _ _ _ _ h => by simpa using h) ?_ ?_
    rotate_left
    · clear g1 g3
      rintro ρ w7 ⟨g1, g5, g7, g55, k7⟩
      simp
      exact k1.trans (k16.trans k7)
    clear g1 g3
    rintro k ρ w7 hk hck hlk ⟨g1, g5, g7, g55, k7⟩
    obtain ⟨p, hp⟩ : ∃ p, ps[k]? = some p := ⟨_, List.getElem?_eq_getElem hk⟩
    obtain ⟨s, hsk, hsv⟩ := hpr k p hp
    have hst := hls s (List.mem_of_getElem? hsk)
    have hpv7 := hpv.kp0 k7
    have ep : w7.cell? (uv.adr.add k) = some p.1.1 := by simpa using hpv7.at_ sv1_len hp (o := 0) (u := p.1.1) rfl
    have hki : (k : Int) < ps.length := by omega
    simp (disch := omega) [g1, g5, g7, g55, hck, hlk, hpv7.idx, ep]
    refine cl_of (rl_levels p.1.1 s (hR6.kp k7) (hsv.kp0 k7) hst hS) ?_
    rintro lv w8 ⟨L, hL, k8, hlv8⟩
    have k68 := k7.trans k8
    simp [g5]
    refine cl_of (rl_facts p.1.1 s (hR6.kp k68) (hsv.kp0 k68) hst hS) ?_
    rintro fv w9 ⟨V, hV, k9, hfv9⟩
    have k69 := k68.trans k9
    simp [g7]
    refine cl_of (rl_facts p.1.1 s (hR16.kp k69) (hsv.kp0 k69) hst hS1) ?_
    rintro sv w10 ⟨V1, hV1, k10, hsv10⟩
    have k610 := k69.trans k10
    simp [g1, rd_tk (k610.blk ob6 (by simp)), raw_vv, raw_nv, raw_gv, raw_ov]
    refine cl_of (rlevels_spec T p.1.1 s (hr6.kp k610) hST.g (hsv.kp0 k610) hst) ?_
    rintro rv w11 ⟨L2, hL2, k11, hrv11⟩
    have eL := hL.uniq (lev_cost hL2)
    subst eL
    simp
    refine cl_of (same_spec lv rv _ _ (hlv8.kp ((k9.trans k10).trans k11)) hrv11 (by rw [tbI_len]; omega) (by rw [tbI_len]; omega) (tbI_row hST _) (tbI_row hST _)) ?_
    rintro _ w12 ⟨rfl, k12⟩
    have k612 := (k610.trans k11).trans k12
    obtain ⟨lp, lpl, lpv, lpr⟩ := (hlv8.kp (((k9.trans k10).trans k11).trans k12)).tb
    obtain ⟨fp, fpl, fpv, fpr⟩ := (hfv9.kp ((k10.trans k11).trans k12)).tb
    obtain ⟨sp, spl, spv, spr⟩ := (hsv10.kp (k11.trans k12)).tb
    simp [lpv.len, fpv.len, spv.len, lpl, fpl, spl]
    refine range_loop (n := T.vars.length) (by omega) (fun v ρ w' => ρ 1 = .pointer (some ⟨tb, 0, none⟩) ∧ ρ 5 = .pointer (some ⟨b, 0, none⟩) ∧ ρ 7 = .pointer (some ⟨b1, 0, none⟩) ∧ ρ 55 = uv ∧ ρ 56 = .int .i64 (ps.length : Nat) ∧ ρ 57 = .int .i64 (k : Nat) ∧ ρ 11 = lv ∧ ρ 12 = fv ∧ ρ 13 = sv ∧ Kp [] w12 w') (by simp) (by simp)
      ⟨by simp [g1], by simp [g5], by simp [g7], by simp [g55], by simp [hlk], by simp [hck], by simp, by simp, by simp, Kp.refl _ _⟩ (by decide) (fun _ _ _ _ h => by simpa using h) (fun _ _ _ _ h => by simpa using h) ?_ ?_
    rotate_left
    · clear g1 g5 g7 g55 hck hlk
      rintro ρ w13 ⟨g1, g5, g7, g55, g56, g57, g11, g12, g13, k13⟩
      simp [g1, g5, g7, g55, g56, g57, g11, g12, g13]
      exact k612.trans k13
    clear g1 g5 g7 g55 hck hlk
    rintro v ρ w13 hv hcv hlv2 ⟨g1, g5, g7, g55, g56, g57, g11, g12, g13, k13⟩
    obtain ⟨lq, hlq⟩ : ∃ p, lp[v]? = some p := ⟨_, List.getElem?_eq_getElem (by omega)⟩
    obtain ⟨fq, hfq⟩ : ∃ p, fp[v]? = some p := ⟨_, List.getElem?_eq_getElem (by omega)⟩
    obtain ⟨sq, hsq⟩ : ∃ p, sp[v]? = some p := ⟨_, List.getElem?_eq_getElem (by omega)⟩
    have hvi : (v : Int) < lp.length := by omega
    have hvi2 : (v : Int) < fp.length := by omega
    have hvi3 : (v : Int) < sp.length := by omega
    have lpv13 := lpv.kp0 k13
    have el : w13.cell? (lv.adr.add v) = some lq.1.1 := by simpa using lpv13.at_ sv1_len hlq (o := 0) (u := lq.1.1) rfl
    have lr13 := (lpr v lq hlq).kp0 k13
    have hlen : ∀ g : Nat → Int, (rwI T.vars g v).length = T.vars.getD v 0 := fun g => rwI_len _ _ _
    have hrng : T.vars.getD v 0 ≤ 64 := (hST.g.vars (T.vars.getD v 0) (by simp [List.getD, List.getElem?_eq_getElem hv])).2
    obtain ⟨n, hn⟩ : ∃ n, n = T.vars.getD v 0 := ⟨_, rfl⟩
    rw [← hn] at hrng
    simp only [← hn] at hlen
    simp (disch := omega) [hcv, hlv2, g11, lpv13.idx, el, lr13.len, hlen]
    refine range_loop (n := n) (by omega) (fun x ρ w' => ρ 1 = .pointer (some ⟨tb, 0, none⟩) ∧ ρ 5 = .pointer (some ⟨b, 0, none⟩) ∧ ρ 7 = .pointer (some ⟨b1, 0, none⟩) ∧ ρ 55 = uv ∧ ρ 56 = .int .i64 (ps.length : Nat) ∧ ρ 57 = .int .i64 (k : Nat) ∧ ρ 11 = lv ∧ ρ 12 = fv ∧ ρ 13 = sv ∧ ρ 91 = .int .i64 (T.vars.length : Nat) ∧ ρ 92 = .int .i64 (v : Nat) ∧ ρ 14 = .int .i64 (v : Nat) ∧ Kp [] w12 w') (by simp) (by simp)
      ⟨by simp [g1], by simp [g5], by simp [g7], by simp [g55], by simp [g56], by simp [g57], by simp [g11], by simp [g12], by simp [g13], by simp [hlv2], by simp [hcv], by simp, k13⟩ (by decide) (fun _ _ _ _ h => by simpa using h) (fun _ _ _ _ h => by simpa using h) ?_ ?_
    rotate_left
    · clear g1 g5 g7 g55 g56 g57 g11 g12 g13 hcv hlv2
      rintro ρ w14 ⟨g1, g5, g7, g55, g56, g57, g11, g12, g13, g91, g92, g14, k14⟩
      simp [g1, g5, g7, g55, g56, g57, g11, g12, g13, g91, g92]
      exact k14
    clear g1 g5 g7 g55 g56 g57 g11 g12 g13 hcv hlv2
    rintro x ρ w14 hx hcx hlx ⟨g1, g5, g7, g55, g56, g57, g11, g12, g13, g91, g92, g14, k14⟩
    have hxn : x < T.vars.getD v 0 := by omega
    have lpv14 := lpv.kp0 k14
    have fpv14 := fpv.kp0 k14
    have spv14 := spv.kp0 k14
    have el : w14.cell? (lv.adr.add v) = some lq.1.1 := by simpa using lpv14.at_ sv1_len hlq (o := 0) (u := lq.1.1) rfl
    have ef : w14.cell? (fv.adr.add v) = some fq.1.1 := by simpa using fpv14.at_ sv1_len hfq (o := 0) (u := fq.1.1) rfl
    have es : w14.cell? (sv.adr.add v) = some sq.1.1 := by simpa using spv14.at_ sv1_len hsq (o := 0) (u := sq.1.1) rfl
    have lr14 := (lpr v lq hlq).kp0 k14
    have fr14 := (fpr v fq hfq).kp0 k14
    have sr14 := (spr v sq hsq).kp0 k14
    have cl := iE_cell lr14 (rwI_at hxn)
    have cf := iE_cell fr14 (rwI_at hxn)
    have cs := iE_cell sr14 (rwI_at hxn)
    have hxi : (x : Int) < n := by omega
    obtain ⟨g, hg⟩ : ∃ g, g = psum T.vars v + x := ⟨_, rfl⟩
    rw [← hg] at cl cf cs
    have q1 : (x : Int) < (rwI T.vars L v).length := by rw [hlen]; exact hxi
    have q2 : (x : Int) < (rwI T.vars (iV V) v).length := by rw [hlen]; exact hxi
    have q3 : (x : Int) < (rwI T.vars (iV V1) v).length := by rw [hlen]; exact hxi
    have hfin := lev_fin (f := g) hS hst hL hV
    by_cases hneg : L g < 0
    · have hge := hfin.1 hneg
      have hge' : (1125899906842624 : Int) ≤ iV V g := by unfold Inf at hge; unfold iV; omega
      have hnp : ¬ 0 ≤ L g := by omega
      simp (disch := omega) [hcx, hlx, g11, g12, g13, g14, lpv14.idx, fpv14.idx, spv14.idx, el, ef, es, lr14.idx, fr14.idx, sr14.idx, hlen, cl, cf, cs, hneg, hge', hnp]
      exact ⟨g1, g5, g7, g55, g56, g57, g91, g92, k14.trans (Kp.refl [] w14).drew⟩
    · have hp : 0 ≤ L g := by omega
      have hone := lev_ones (f := g) hS1 hst ones_cost (lev_cost hL) hV1 hp
      have hge' : ¬ (1125899906842624 : Int) ≤ iV V g := by
        have : ¬ Inf ≤ V g := fun h => hneg (hfin.2 h)
        unfold Inf at this; unfold iV; omega
      have hone' : iV V1 g = L g := hone.symm
      simp (disch := omega) [hcx, hlx, g11, g12, g13, g14, lpv14.idx, fpv14.idx, spv14.idx, el, ef, es, lr14.idx, fr14.idx, sr14.idx, hlen, cl, cf, cs, hneg, hge', hp, hone']
      exact ⟨g1, g5, g7, g55, g56, g57, g91, g92, k14.trans (Kp.refl [] w14).drew⟩
end Go.Proofs.Ytjpbkljnllkneaa
