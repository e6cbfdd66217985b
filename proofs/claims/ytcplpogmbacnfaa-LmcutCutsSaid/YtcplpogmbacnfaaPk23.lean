/-
  A part of the proof of this claim's statement (LmYK): plain theorems; no conditions beyond those each names.
-/
import Derived.Test.YtcplpogmbacnfaaPk22
section
set_option maxRecDepth 100000
set_option linter.unusedSimpArgs false
set_option linter.unusedVariables false
namespace Go.Proofs.Ytcplpogmbacnfaa
open Go Go.W Go.Tk Go.Rx Go.Lm Go.Maps
set_option maxHeartbeats 2000000 in
theorem law_lmcuts {w : World} (t : Tk) (ht : TkR w t) (hl : TkL t) :
    Calls Try.prog 3 [tkV t].toArray w fun e w' => ∃ x, e = .returned x ∧ x = .bool true ∧ Kp [] w w' := by
  refine enter Try.func3 mixed low3 (Nat.le_of_ble_eq_true rfl) ?_
  simp only [L3]
  obtain ⟨tb, htb⟩ : ∃ tb, tb = w.heap.size := ⟨_, rfl⟩
  obtain ⟨w1, hw1⟩ : ∃ w1, w1 = w.alloc (tkO t) := ⟨_, rfl⟩
  have k1 : Kp [] w w1 := by rw [hw1]; exact (Kp.refl [] w).alloc _
  have hw1' : w.alloc (.cells #[t.vv.1, t.nv.1, t.gv.1, t.ov.1] 26 (0, 0)) = w1 := by rw [hw1]; rfl
  have ob1 : w1.heap[tb]? = some (tkO t) := by rw [htb, hw1]; exact alloc_new
  simp [tkV, ← htb, hw1', rd_tk ob1]
  refine cl_of (small_spec t (ht.kp k1) hl) ?_
  rintro _ w2 ⟨rfl, k2⟩
  cases hsm : smallB t with
  | false =>
    simp
    refine cl_of mawake_spec ?_
    rintro _ w3 ⟨rfl, k3⟩
    simp
    exact k1.trans (k2.trans k3)
  | true =>
    obtain ⟨T, rfl, hST⟩ := small_nat hl hsm
    have hr := NtR.raw.1 ht
    have hol := hST.ol
    simp
    refine cl_of mawake_spec ?_
    rintro _ w3 ⟨rfl, k3⟩
    have k13 := k2.trans k3
    simp [rd_tk (k13.blk ob1 (by simp)), raw_vv, raw_nv, raw_gv, raw_ov]
    refine cl_of (lnew_ok T hST.g hST.good (hr.kp (k1.trans k13)) hST.nm) ?_
    rintro _ w4 ⟨b, rfl, hR, k4⟩
    have k14 := k13.trans k4
    simp [rd_tk (k14.blk ob1 (by simp)), raw_vv, raw_nv, raw_gv, raw_ov]
    refine cl_of (msome_spec T (hr.kp (k1.trans k14)) hST.g (SmT.sts hST)) ?_
    rintro uv w6 ⟨ls, hls, hll, k6, hlv⟩
    obtain ⟨ps, hpl, hpv, hpr⟩ := hlv.spread
    have k16 := k14.trans k6
    have hR6 := hR.kp k6
    have ob6 := k16.blk ob1 (by simp)
    have hr6 := hr.kp (k1.trans k16)
    simp [hpv.len]
    refine range_loop (n := ps.length) (by omega) (fun k ρ w' => ρ 1 = .pointer (some ⟨tb, 0, none⟩) ∧ ρ 3 = .pointer (some ⟨b, 0, none⟩) ∧ ρ 33 = uv ∧ Kp [] w6 w') (by simp) (by simp)
      ⟨by simp, by simp, by simp, Kp.refl _ _⟩ (by decide) (fun _ _ _ _ h => by simpa using h) (fun _ _ _ _ h => by simpa using h) ?_ ?_
    rotate_left
    · rintro ρ w8 ⟨g1, g3, g33, k8⟩
      simp
      exact k1.trans (k16.trans k8)
    rintro j ρ w8 hj hcj hlj ⟨g1, g3, g33, k8⟩
    obtain ⟨p, hp⟩ : ∃ p, ps[j]? = some p := ⟨_, List.getElem?_eq_getElem hj⟩
    obtain ⟨s, hsk, hsv⟩ := hpr j p hp
    have hst := hls s (List.mem_of_getElem? hsk)
    have hpv8 := hpv.kp0 k8
    have ep : w8.cell? (uv.adr.add j) = some p.1.1 := by simpa using hpv8.at_ sv1_len hp (o := 0) (u := p.1.1) rfl
    have hki : (j : Int) < ps.length := by omega
    have ob8 := k8.blk ob6 (by simp)
    simp (disch := omega) [g1, g3, g33, hcj, hlj, hpv8.idx, ep, rd_tk ob8, raw_vv, raw_nv, raw_gv, raw_ov]
    refine cl_of (ccuts_spec T p.1.1 s (hr6.kp k8) hST.g (hsv.kp0 k8) hst) ?_
    rintro xw w9 ⟨⟨r, hr9, hxw⟩, k9⟩
    have k89 := k8.trans k9
    cases hro : r with
    | none =>
      rw [hro] at hxw hr9
      have hxw : xw = .tuple #[.slice none 0 0, .bool false] := hxw
      subst hxw
      simp [g1, g3, g33, hcj, hlj]
      refine cl_of (hx_cuts p.1.1 s (hR6.kp k89) hST.g (hsv.kp0 k89) hst) ?_
      rintro xa w10 ⟨⟨r', hr10, hxa⟩, k10⟩
      have e := hr10.uniq hr9
      subst e
      have hxa : xa = .tuple #[.slice none 0 0, errV 3] := hxa
      subst hxa
      simp [g1, g3, g33, hcj, hlj]
      refine cl_of (is_errs 3 3 w10) ?_
      rintro _ w11 ⟨rfl, k11⟩
      simp [g1, g3, g33, hcj, hlj]
      have k911 := k89.trans (k10.trans k11)
      refine cl_of (hx_value p.1.1 s (hR6.kp k911) hST.g (hsv.kp0 k911) hst) ?_
      rintro _ w12 ⟨hv12, k12⟩
      obtain ⟨r', hr12, rfl⟩ := valP_O hv12
      have e := hr12.uniq hr9
      subst e
      simp [valO, Inf, g1, g3, g33, hcj, hlj]
      exact k911.trans k12
    | some out =>
      rw [hro] at hxw hr9
      obtain ⟨wv, rfl, cw, hcw, hwv, hww⟩ := hxw
      simp [g1, g3, g33, hcj, hlj]
      refine cl_of (hx_cuts p.1.1 s (hR6.kp k89) hST.g (hsv.kp0 k89) hst) ?_
      rintro xa w10 ⟨⟨r', hr10, hxa⟩, k10⟩
      have e := hr10.uniq hr9
      subst e
      obtain ⟨av, rfl, ca, hca, hav, haw⟩ := hxa
      have k810 := k89.trans k10
      have hwv10 := hwv.kp0 k10
      have hol2 := hr9.len (n := T.ops.length) (fun u hu => (uns_rng hST.g hu).2.2) out rfl
      have hol3 := posN_le (c := cst T []) T.ops.length
      have hcal : ca.length = out.length := by rw [← hca, List.length_map]
      have hcwl : cw.length = ca.length := by rw [hcal, ← hcw, List.length_map]
      have hub := hr9.ub (szs_ok hST.g hst (CsOk.nil.cst hST.g)) out rfl
      simp [g1, g3, g33, hcj, hlj, hav.len, hwv10.len, hcwl]
      refine range_loop (n := ca.length) (by omega) (fun i ρ w' => ρ 1 = .pointer (some ⟨tb, 0, none⟩) ∧ ρ 3 = .pointer (some ⟨b, 0, none⟩) ∧ ρ 33 = uv ∧ ρ 34 = .int .i64 (ps.length : Nat) ∧ ρ 35 = .int .i64 (j : Nat) ∧ ρ 6 = p.1.1 ∧ ρ 7 = wv ∧ ρ 9 = av ∧ ρ 11 = .int .i64 (sumM (out.take i) : Nat) ∧ Kp [] w10 w') (by simp) (by simp)
        ⟨by simp [g1], by simp [g3], by simp [g33], by simp [hlj], by simp [hcj], by simp, by simp, by simp, by simp [sumM], Kp.refl _ _⟩ (by decide) (fun _ _ _ _ h => by simpa using h) (fun _ _ _ _ h => by simpa using h) ?_ ?_
      rotate_left
      · clear g1 g3 g33 hcj hlj
        rintro ρ w11 ⟨g1, g3, g33, g34, g35, g6, g7, g9, g11, k11⟩
        rw [hcal, List.take_length] at g11
        have k811 := k810.trans k11
        simp [g1, g3, g33, g34, g35, g6, g11]
        refine cl_of (hx_value p.1.1 s (hR6.kp k811) hST.g (hsv.kp0 k811) hst) ?_
        rintro _ w12 ⟨hv12, k12⟩
        obtain ⟨r', hr12, rfl⟩ := valP_O hv12
        have e := hr12.uniq hr9
        subst e
        simp [valO, g1, g3, g33, g34, g35, g11]
        exact k811.trans k12
      clear g1 g3 g33 hcj hlj
      rintro i ρ w11 hi hci hli ⟨g1, g3, g33, g34, g35, g6, g7, g9, g11, k11⟩
      obtain ⟨xa, hxa⟩ : ∃ x, ca[i]? = some x := ⟨_, List.getElem?_eq_getElem hi⟩
      obtain ⟨xb, hxb⟩ : ∃ x, cw[i]? = some x := ⟨_, List.getElem?_eq_getElem (by omega)⟩
      have hoa : out[i]? = some (ctP xa) := by rw [← hca, List.getElem?_map, hxa]; rfl
      have hobx : out[i]? = some (ctP xb) := by rw [← hcw, List.getElem?_map, hxb]; rfl
      have hab : ctP xb = ctP xa := by rw [hoa] at hobx; exact (Option.some.inj hobx).symm
      have eo : xb.ops = xa.ops := congrArg Prod.fst hab
      have ecst : xb.cost = xa.cost := congrArg Prod.snd hab
      have hm := List.mem_of_getElem? hoa
      have hubx : xa.cost ≤ 1048576 := hub _ hm
      have hav11 := hav.kp0 k11
      have hwv11 := hwv10.kp0 k11
      have fa0 := hav11.fld ctE_len hxa (o := 0) rfl
      have fa1 := hav11.fld ctE_len hxa (o := 1) rfl
      have fb0 := hwv11.fld ctE_len hxb (o := 0) rfl
      have fb1 := hwv11.fld ctE_len hxb (o := 1) rfl
      rw [ecst] at fb1
      have i1 : (i : Int) < ca.length := by omega
      have i2 : (i : Int) < cw.length := by omega
      have hwa := (haw xa (List.mem_of_getElem? hxa)).kp0 k11
      have hwb := ((hww xb (List.mem_of_getElem? hxb)).kp0 k10).kp0 k11
      rw [eo] at hwb
      have hlen : xa.ops.length ≤ 1000000 := by
        obtain ⟨_, _, hasc, hops, _⟩ := hr9.each (szs_ok hST.g hst (CsOk.nil.cst hST.g)) out rfl _ hm
        have := asc_len xa.ops T.ops.length hasc fun op ho => by
          obtain ⟨u, hu, rfl⟩ := hops op ho
          exact (uns_rng hST.g hu).2.2
        omega
      have hsum : sumM (out.take (i + 1)) = sumM (out.take i) + xa.cost := sumM_take hoa
      have hsb := sumM_ub (out := out.take i) (C := 1048576) fun q hq => hub q (List.mem_of_mem_take hq)
      have hsb2 : (out.take i).length * 1048576 ≤ 20 * 1048576 := Nat.mul_le_mul_right _ (by rw [List.length_take]; omega)
      obtain ⟨z, hz⟩ : ∃ z, z = sumM (out.take i) + xa.cost := ⟨_, rfl⟩
      have ez : (sumM (out.take i) : Int) + (xa.cost : Int) = (z : Int) := by omega
      simp (disch := omega) [g7, g9, hci, hli, hav11.idx, hwv11.idx, fa0, fa1, fb0, fb1]
      refine cl_of (ints_spec _ _ _ _ (ints_vw (hwa.kp0 ((Kp.refl [] w11).drew))) (ints_vw (hwb.kp0 ((Kp.refl [] w11).drew))) (by simpa using hlen) (by simpa using hlen)) ?_
      rintro _ w16 ⟨rfl, k16'⟩
      have kf := ((Kp.refl [] w11).drew).trans k16'
      have fa1' := (hav11.kp0 kf).fld ctE_len hxa (o := 1) rfl
      simp (disch := omega) [g1, g3, g33, g34, g35, g6, g7, g9, g11, hci, hli, (hav11.kp0 kf).idx, fa1', ez, wrap_i64]
      refine ⟨by rw [hsum, ← hz], k11.trans kf⟩
end Go.Proofs.Ytcplpogmbacnfaa
end
