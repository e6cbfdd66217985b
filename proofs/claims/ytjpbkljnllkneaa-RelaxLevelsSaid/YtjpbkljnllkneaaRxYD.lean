/-
  A part of the proofs of this seat's statements (RxYD); no conditions beyond those each theorem names.
-/
import Derived.Test.YtjpbkljnllkneaaRxYC
set_option maxRecDepth 100000
set_option linter.unusedSimpArgs false
set_option linter.unusedVariables false
namespace Go.Proofs.Ytjpbkljnllkneaa
open Go Go.W Go.Tk Go.Rx Go.Maps
set_option maxHeartbeats 1000000 in
theorem law_supporters {w : World} (t : Tk) (cv : Value) (cl : List Nat) (f : Fa) (ht : TkR w t) (hl : TkL t) (hc : Vw w cv u16E cl) (hcb : ∀ c ∈ cl, c < 65536) (hcl : cl.length ≤ 9223372036854775807) :
    Calls Try.prog 6 [tkV t, cv, faV f].toArray w fun e w' => ∃ x, e = .returned x ∧ x = .bool true ∧ Kp [] w w' := by
  refine enter Try.func6 mixed low6 (Nat.le_of_ble_eq_true rfl) ?_
  simp only [L6]
  obtain ⟨tb, htb⟩ : ∃ tb, tb = w.heap.size := ⟨_, rfl⟩
  obtain ⟨w1, hw1⟩ : ∃ w1, w1 = (w.alloc (tkO t)).alloc (faO f) := ⟨_, rfl⟩
  have k1 : Kp [] w w1 := by rw [hw1]; exact ((Kp.refl [] w).alloc _).alloc _
  have hw1' : (w.alloc (.cells #[t.vv.1, t.nv.1, t.gv.1, t.ov.1] 26 (0, 0))).alloc (.cells #[.int .i64 f.1, .int .i64 f.2] 57 (0, 0)) = w1 := by rw [hw1]; rfl
  have ob1 : w1.heap[tb]? = some (tkO t) := by rw [htb, hw1]; exact (alloc_old (by simp)).trans alloc_new
  obtain ⟨xb, hxb⟩ : ∃ xb, xb = w.heap.size + 1 := ⟨_, rfl⟩
  have oe1 : w1.heap[xb]? = some (faO f) := by rw [hxb, hw1, show w.heap.size + 1 = (w.alloc (tkO t)).heap.size by simp]; exact alloc_new
  have htx : tb + 1 = xb := by rw [htb, hxb]
  simp [tkV, faV, ← htb, ← hxb, hw1', rd_tk ob1, htx]
  refine cl_of (small_spec t (ht.kp k1) hl) ?_
  rintro _ w2 ⟨rfl, k2⟩
  cases hsm : smallB t with
  | false =>
    simp
    refine cl_of awake_spec ?_
    rintro _ w3 ⟨rfl, k3⟩
    simp
    exact k1.trans (k2.trans k3)
  | true =>
    obtain ⟨T, rfl, hST⟩ := small_nat hl hsm
    have hr := NtR.raw.1 ht
    simp
    refine cl_of awake_spec ?_
    rintro _ w3 ⟨rfl, k3⟩
    have k13 := k2.trans k3
    simp [rd_tk (k13.blk ob1 (by simp)), raw_vv, raw_nv, raw_gv, raw_ov]
    refine cl_of (priced_ok T cv cl (hr.kp (k1.trans k13)) hST.g (hc.kp0 (k1.trans k13)) hcb hcl) ?_
    rintro _ w4 ⟨gv, rv, gl, rl, rfl, hP, hgv, hrv, k4⟩
    have k14 := k13.trans k4
    simp [rd_tk (k14.blk ob1 (by simp)), raw_vv, raw_nv, raw_gv, raw_ov]
    refine cl_of (new_ok T gv (gl.map iN) hST (hr.kp (k1.trans k14)) (vw_n.2 hgv) (PrI.ok hP)) ?_
    rintro _ w5 ⟨b, rfl, hR, k5⟩
    have k15 := k14.trans k5
    have hU := uns_congr hP.eq
    have hS := SmT.sm hST (c := cst T (gl.map iN)) (fun i hi => (PrI.ok hP).cst hST.g i hi)
    simp [rd_tk (k15.blk ob1 (by simp)), raw_vv, raw_nv, raw_gv, raw_ov]
    refine cl_of (some_spec T (hr.kp (k1.trans k15)) hST.g (SmT.sts hST)) ?_
    rintro uv w6 ⟨ls, hls, hlsl, k6, hlv⟩
    obtain ⟨ps, hpl, hpv, hpr⟩ := hlv.spread
    have k16 := k15.trans k6
    have ob6 := k16.blk ob1 (by simp)
    have hr6 := hr.kp (k1.trans k16)
    have hR6 := hR.kp k6
    have oe6 := (k16.blk oe1 (by simp))
    have hrv6 := hrv.kp0 (k5.trans k6)
    simp [hpv.len]
    refine range_loop (n := ps.length) (by omega) (fun k ρ w' => ρ 3 = .pointer (some ⟨tb, 0, none⟩) ∧ ρ 5 = .pointer (some ⟨xb, 0, none⟩) ∧ ρ 8 = rv ∧ ρ 9 = .pointer (some ⟨b, 0, none⟩) ∧ ρ 47 = uv ∧ Kp [] w6 w') (by simp) (by simp)
      ⟨by simp, by simp, by simp, by simp, by simp, Kp.refl _ _⟩ (by decide) (fun _ _ _ _ h => by simpa using h) (fun _ _ _ _ h => by simpa using h) ?_ ?_
    rotate_left
    · rintro ρ w7 ⟨g3, g5, g8, g9, g47, k7⟩
      simp
      exact k1.trans (k16.trans k7)
    rintro k ρ w7 hk hck hlk ⟨g3, g5, g8, g9, g47, k7⟩
    obtain ⟨p, hp⟩ : ∃ p, ps[k]? = some p := ⟨_, List.getElem?_eq_getElem hk⟩
    obtain ⟨s, hsk, hsv⟩ := hpr k p hp
    have hst := hls s (List.mem_of_getElem? hsk)
    have hpv7 := hpv.kp0 k7
    have ep : w7.cell? (uv.adr.add k) = some p.1.1 := by simpa using hpv7.at_ sv1_len hp (o := 0) (u := p.1.1) rfl
    have hki : (k : Int) < ps.length := by omega
    have ob7 := k7.blk ob6 (by simp)
    simp (disch := omega) [g3, g5, g8, g9, g47, hck, hlk, hpv7.idx, ep, rd_tk ob7, raw_vv, raw_nv, raw_gv, raw_ov]
    refine cl_of (rfacts_spec T rv p.1.1 (.slice none 0 0) rl s [] (hr6.kp k7) hST.g (hrv6.kp0 k7) hP.rlen hP.rb (hsv.kp0 k7) hst (Vw.nil _ _) (by simp)) ?_
    rintro fv w8 ⟨V, hV, k8, hfv⟩
    rw [allow_nil] at hV
    have hVU := hV
    rw [← hU] at hVU
    have k68 := k7.trans k8
    have ob8 := k68.blk ob6 (by simp)
    unfold tkO at ob8
    have hvl := hST.vl
    simp [g3, g5, g8, g9, g47, cell_blk ob8, raw_vv, (hr6.kp k68).vars.len]
    have hoe8 : w8.heap[xb]? = some (faO f) := k68.blk oe6 (by simp)
    -- the facts of the task
    have hrng : ∀ v, v < T.vars.length → T.vars.getD v 0 ≤ 64 := fun v hv => by
      have := (hST.g.vars (T.vars.getD v 0) (by simp [List.getD, List.getElem?_eq_getElem hv])).2
      exact this
    refine range_loop (n := T.vars.length) (by omega) (fun v ρ w' => ρ 3 = .pointer (some ⟨tb, 0, none⟩) ∧ ρ 5 = .pointer (some ⟨xb, 0, none⟩) ∧ ρ 8 = rv ∧ ρ 9 = .pointer (some ⟨b, 0, none⟩) ∧ ρ 47 = uv ∧ ρ 48 = .int .i64 (ps.length : Nat) ∧ ρ 49 = .int .i64 (k : Nat) ∧ ρ 12 = p.1.1 ∧ ρ 13 = fv ∧ ρ 58 = T.vv.1 ∧ Kp [] w8 w') (by simp) (by simp)
      ⟨by simp [g3], by simp [g5], by simp [g8], by simp [g9], by simp [g47], by simp [hlk], by simp [hck], by simp, by simp, by simp, Kp.refl _ _⟩ (by decide) (fun _ _ _ _ h => by simpa using h) (fun _ _ _ _ h => by simpa using h) ?_ ?_
    rotate_left
    · clear g3 g5 g8 g9 g47 hck hlk
      rintro ρ w9 ⟨g3, g5, g8, g9, g47, g48, g49, g12, g13, g58, k9⟩
      have ob9 := k9.blk ob8 (by simp)
      have oe9 := k9.blk hoe8 (by simp)
      have h9 := (At.start rfl : At w9 [] Emp w9).lit (xs := [f]) (enc := faE) (E := 57) (sz := 2) (cs := #[.int .i64 f.1, .int .i64 f.2]) (m := 1) .emp (by simp [faE]) faE_len (by simp [maxLen]) rfl
      simp [g3, g5, cell_blk ob9, rd_fa oe9, rowOf]
      refine cl_of (proper_spec T.vv.1 _ (T.vars.map iN) [f] (vw_n.2 (hr6.kp ((k68.trans k9).trans0 h9.kp)).vars) h9.own.vw (by simp)) ?_
      rintro _ w10 ⟨rfl, k10⟩
      have k610 := ((k68.trans k9).trans0 h9.kp).trans k10
      rw [propF_one]
      cases hin : inR (T.vars.map iN) f with
      | true =>
        simp [g3, g5, g8, g9, g47, g48, g49]
        exact k610
      | false =>
        have oe10 := k610.blk oe6 (by simp)
        simp [g5, g9, g12, rd_fa oe10]
        refine cl_of (rl_supp p.1.1 s f (hR6.kp k610) (hsv.kp0 k610) hst hS) ?_
        rintro x w11 ⟨hx, k11⟩
        have hx := hx V hVU
        unfold supF at hx
        rw [if_neg (by rw [hin]; simp)] at hx
        subst hx
        simp [prV, g3, g5, g8, g9, g47, g48, g49]
        exact k610.trans k11
    clear g3 g5 g8 g9 g47 hck hlk
    rintro v ρ w9 hv hcv hlv2 ⟨g3, g5, g8, g9, g47, g48, g49, g12, g13, g58, k9⟩
    obtain ⟨n, hn⟩ : ∃ n, T.vars[v]? = some n := ⟨_, List.getElem?_eq_getElem hv⟩
    have hvv9 := (hr6.kp (k68.trans k9)).vars
    have hnd : T.vars.getD v 0 = n := by simp [List.getD, hn]
    have hn64 := hrng v hv
    have hvi : (v : Int) < T.vars.length := by omega
    simp (disch := omega) [g58, hcv, hlv2, hvv9.idx, nE_cell hvv9 hn]
    refine range_loop (n := n) (by omega) (fun y ρ w' => ρ 3 = .pointer (some ⟨tb, 0, none⟩) ∧ ρ 5 = .pointer (some ⟨xb, 0, none⟩) ∧ ρ 8 = rv ∧ ρ 9 = .pointer (some ⟨b, 0, none⟩) ∧ ρ 47 = uv ∧ ρ 48 = .int .i64 (ps.length : Nat) ∧ ρ 49 = .int .i64 (k : Nat) ∧ ρ 12 = p.1.1 ∧ ρ 13 = fv ∧ ρ 58 = T.vv.1 ∧ ρ 59 = .int .i64 (T.vars.length : Nat) ∧ ρ 60 = .int .i64 (v : Nat) ∧ ρ 14 = .int .i64 (v : Nat) ∧ Kp [] w8 w') (by simp) (by simp)
      ⟨by simp [g3], by simp [g5], by simp [g8], by simp [g9], by simp [g47], by simp [g48], by simp [g49], by simp [g12], by simp [g13], by simp [g58], by simp [hlv2], by simp [hcv], by simp, k9⟩ (by decide) (fun _ _ _ _ h => by simpa using h) (fun _ _ _ _ h => by simpa using h) ?_ ?_
    rotate_left
    · clear g3 g5 g8 g9 g47 g48 g49 g12 g13 g58 hcv hlv2
      rintro ρ w10 ⟨g3, g5, g8, g9, g47, g48, g49, g12, g13, g58, g59, g60, g14, k10⟩
      simp [g3, g5, g8, g9, g47, g48, g49, g12, g13, g58, g59, g60]
      exact k10
    clear g3 g5 g8 g9 g47 g48 g49 g12 g13 g58 hcv hlv2 k9 hvv9
    rintro y ρ w9 hy hcy hly ⟨g3, g5, g8, g9, g47, g48, g49, g12, g13, g58, g59, g60, g14, k9⟩
    obtain ⟨fb, hfb⟩ : ∃ fb, fb = w9.heap.size := ⟨_, rfl⟩
    simp [hcy, g14, ← hfb]
    refine st_fa (f := faN (v, y)) .emp (At.start rfl : At w9 [] Emp w9) hfb fun w10 h10 => ?_
    have of10 := h10.obj
    have k810 := k9.trans0 h10.kp
    have k610 := k68.trans k810
    simp [g9, g12, rd_fa of10, ← hfb]
    refine cl_of (rl_supp p.1.1 s (faN (v, y)) (hR6.kp k610) (hsv.kp0 k610) hst hS) ?_
    rintro x w11 ⟨hx, k11⟩
    have hx := hx V hVU
    subst hx
    have k611 := k610.trans k11
    have ob11 := k611.blk ob6 (by simp)
    have of11 := k11.blk of10 (by simp)
    obtain ⟨r1, r2, hrr⟩ : ∃ r1 r2, supF T.vars s (uns T (cstL rl)) V (faN (v, y)) = (r1, r2) := ⟨_, _, rfl⟩
    rw [hU, hrr]
    simp [prV, g3, g8, g12, g13, rd_tk ob11, raw_vv, raw_nv, raw_gv, raw_ov, rd_fa of11]
    refine cl_of (rsupp_spec T rv fv p.1.1 rl s V v y (hr6.kp k611) hST.g (hrv6.kp0 k611) hP.rlen hP.rb (hfv.kp (k810.trans k11)) hV.le (hsv.kp0 k611) hst hv (by omega)) ?_
    rintro _ w12 ⟨rfl, k12⟩
    rw [hrr]
    simp [prV, g3, g5, g8, g9, g47, g48, g49, g12, g13, g58, g59, g60, g14, hcy, hly]
    exact (k810.trans k11).trans k12
end Go.Proofs.Ytjpbkljnllkneaa
