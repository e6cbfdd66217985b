/-
  A part of the proofs of this seat's statements (RxYC); no conditions beyond those each theorem names.
-/
import Derived.Test.YtjpbkljnllkneaaRxYB
set_option maxRecDepth 100000
set_option linter.unusedSimpArgs false
set_option linter.unusedVariables false
namespace Go.Proofs.Ytjpbkljnllkneaa
open Go Go.W Go.Tk Go.Rx Go.Maps
theorem uns_congr {T : Nt} {c c' : Nat → Nat} (h : ∀ i, i < T.ops.length → c i = c' i) : uns T c = uns T c' := by
  have key : ∀ n, n ≤ T.ops.length → unsK T c n = unsK T c' n := by
    intro n hn
    induction n with
    | zero => rfl
    | succ n ih =>
      obtain ⟨o, ho⟩ : ∃ o, T.ops[n]? = some o := ⟨_, List.getElem?_eq_getElem (by omega)⟩
      rw [unsK_succ ho, unsK_succ ho, ih (by omega), h n (by omega)]
  exact key _ (Nat.le_refl _)
theorem allow_nil (U : List Un) : allow (okL []) U = U := by simp [allow, okL]
theorem tbI_len (vars : List Nat) (g : Nat → Int) : (tbI vars g).length = vars.length := tbK_len _ _ _
theorem tbI_row {T : Nt} (hs : SmT T) (g : Nat → Int) : ∀ x ∈ tbI T.vars g, x.length ≤ 1000000 := fun x hx => by
  unfold tbI tbK at hx
  obtain ⟨v, hv, rfl⟩ := List.mem_map.1 hx
  rw [rwI_len]
  have hv := List.mem_range.1 hv
  have := (hs.g.vars (T.vars.getD v 0) (by simp [List.getD, List.getElem?_eq_getElem hv])).2
  omega
theorem raw_vv (T : Nt) : T.raw.vv = T.vv := rfl
theorem raw_nv (T : Nt) : T.raw.nv = T.nv := rfl
theorem raw_gv (T : Nt) : T.raw.gv = T.gv := rfl
theorem raw_ov (T : Nt) : T.raw.ov = T.ov := rfl
theorem priced_ok {w : World} (T : Nt) (cv : Value) (cl : List Nat) (hr : NtR w T) (hg : NtG T) (hc : Vw w cv u16E cl) (hcb : ∀ c ∈ cl, c < 65536) (hcl : cl.length ≤ 9223372036854775807) :
    Calls Try.prog 13 [ntV T, cv].toArray w fun e w' => ∃ x, e = .returned x ∧ ∃ g r gl rl, x = .tuple #[g, r] ∧ PrI T gl rl ∧ Vw w' g nE gl ∧ Vw w' r nE rl ∧ Kp [] w w' := by
  refine Calls.mono (priced_spec T cv cl hr hg hc hcb hcl) ?_
  rintro e w' ⟨g, r, h1, gl, rl, h2⟩
  exact ⟨_, h1, g, r, gl, rl, rfl, h2⟩
set_option maxHeartbeats 1000000 in
theorem law_values {w : World} (t : Tk) (cv : Value) (cl : List Nat) (ht : TkR w t) (hl : TkL t) (hc : Vw w cv u16E cl) (hcb : ∀ c ∈ cl, c < 65536) (hcl : cl.length ≤ 9223372036854775807) :
    Calls Try.prog 7 [tkV t, cv].toArray w fun e w' => ∃ x, e = .returned x ∧ x = .bool true ∧ Kp [] w w' := by
  refine enter Try.func7 mixed low7 (Nat.le_of_ble_eq_true rfl) ?_
  simp only [L7]
  obtain ⟨tb, htb⟩ : ∃ tb, tb = w.heap.size := ⟨_, rfl⟩
  obtain ⟨w1, hw1⟩ : ∃ w1, w1 = w.alloc (tkO t) := ⟨_, rfl⟩
  have k1 : Kp [] w w1 := by rw [hw1]; exact (Kp.refl [] w).alloc _
  have hw1' : w.alloc (.cells #[t.vv.1, t.nv.1, t.gv.1, t.ov.1] 26 (0, 0)) = w1 := by rw [hw1]; rfl
  have ob1 : w1.heap[tb]? = some (tkO t) := by rw [htb, hw1]; exact alloc_new
  simp [tkV, ← htb, hw1', rd_tk ob1]
  refine cl_of (small_spec t (ht.kp k1) hl) ?_
  rintro _ w2 ⟨rfl, k2⟩
  cases hsm : smallB t with
  | false =>
    simp
    refine cl_of awake_spec ?_
    rintro _ w3 ⟨rfl, k3⟩
    simp
    exact k1.trans (k2.trans k3)
  | true =>
    obtain ⟨T, rfl, hST⟩ := small_nat hl hsm
    have hr := NtR.raw.1 ht
    simp
    refine cl_of awake_spec ?_
    rintro _ w3 ⟨rfl, k3⟩
    have k13 := k2.trans k3
    simp [rd_tk (k13.blk ob1 (by simp)), raw_vv, raw_nv, raw_gv, raw_ov]
    refine cl_of (priced_ok T cv cl (hr.kp (k1.trans k13)) hST.g (hc.kp0 (k1.trans k13)) hcb hcl) ?_
    rintro _ w4 ⟨gv, rv, gl, rl, rfl, hP, hgv, hrv, k4⟩
    have k14 := k13.trans k4
    simp [rd_tk (k14.blk ob1 (by simp)), raw_vv, raw_nv, raw_gv, raw_ov]
    refine cl_of (new_ok T gv (gl.map iN) hST (hr.kp (k1.trans k14)) (vw_n.2 hgv) (PrI.ok hP)) ?_
    rintro _ w5 ⟨b, rfl, hR, k5⟩
    have k15 := k14.trans k5
    have hU := uns_congr hP.eq
    have hS := SmT.sm hST (c := cst T (gl.map iN)) (fun i hi => (PrI.ok hP).cst hST.g i hi)
    simp [rd_tk (k15.blk ob1 (by simp)), raw_vv, raw_nv, raw_gv, raw_ov]
    refine cl_of (some_spec T (hr.kp (k1.trans k15)) hST.g (SmT.sts hST)) ?_
    rintro uv w6 ⟨ls, hls, hlsl, k6, hlv⟩
    obtain ⟨ps, hpl, hpv, hpr⟩ := hlv.spread
    have k16 := k15.trans k6
    have ob6 := k16.blk ob1 (by simp)
    have hr6 := hr.kp (k1.trans k16)
    have hR6 := hR.kp k6
    have hrv6 := hrv.kp0 (k5.trans k6)
    simp [hpv.len]
    refine range_loop (n := ps.length) (by omega) (fun k ρ w' => ρ 2 = .pointer (some ⟨tb, 0, none⟩) ∧ ρ 6 = rv ∧ ρ 7 = .pointer (some ⟨b, 0, none⟩) ∧ ρ 39 = uv ∧ Kp [] w6 w') (by simp) (by simp)
      ⟨by simp, by simp, by simp, by simp, Kp.refl _ _⟩ (by decide) (fun _ _ _ _ h => by simpa using h) (fun _ _ _ _ h => by simpa using h) ?_ ?_
    rotate_left
    · rintro ρ w7 ⟨g2, g6, g7, g39, k7⟩
      simp
      exact k1.trans (k16.trans k7)
    rintro k ρ w7 hk hck hlk ⟨g2, g6, g7, g39, k7⟩
    obtain ⟨p, hp⟩ : ∃ p, ps[k]? = some p := ⟨_, List.getElem?_eq_getElem hk⟩
    obtain ⟨s, hsk, hsv⟩ := hpr k p hp
    have hst := hls s (List.mem_of_getElem? hsk)
    have hpv7 := hpv.kp0 k7
    have ep : w7.cell? (uv.adr.add k) = some p.1.1 := by simpa using hpv7.at_ sv1_len hp (o := 0) (u := p.1.1) rfl
    have hki : (k : Int) < ps.length := by omega
    have ob7 := k7.blk ob6 (by simp)
    simp (disch := omega) [g2, g6, g7, g39, hck, hlk, hpv7.idx, ep, rd_tk ob7, raw_vv, raw_nv, raw_gv, raw_ov]
    refine cl_of (rfacts_spec T rv p.1.1 (.slice none 0 0) rl s [] (hr6.kp k7) hST.g (hrv6.kp0 k7) hP.rlen hP.rb (hsv.kp0 k7) hst (Vw.nil _ _) (by simp)) ?_
    rintro fv w8 ⟨V, hV, k8, hfv⟩
    rw [allow_nil, ← hU] at hV
    simp [g2, g6, g7, g39]
    have k8d := (k7.trans k8).trans ((Kp.refl [] w8).drew)
    have hfvd := hfv.kp ((Kp.refl [] w8).drew)
    have hvl := hST.vl
    have hgl := hST.g.goal.len
    refine ⟨?_, ?_⟩ <;>
    · refine cl_of (rl_facts p.1.1 s (hR6.kp k8d) (hsv.kp0 k8d) hst hS) ?_
      rintro xv w9 ⟨V2, hV2, k9, hxv⟩
      have eV := hV2.uniq hV
      subst eV
      simp
      refine cl_of (same_spec xv fv _ _ hxv (hfvd.kp k9) (by rw [tbI_len]; omega) (by rw [tbI_len]; omega) (tbI_row hST _) (tbI_row hST _)) ?_
      rintro _ w10 ⟨rfl, k10⟩
      have k10' := k8d.trans (k9.trans k10)
      have ob10 := k10'.blk ob6 (by simp)
      unfold tkO at ob10
      simp [g2, g6, g7, g39, cell_blk ob10, raw_vv, raw_nv, raw_gv, raw_ov]
      refine cl_of (rl_max p.1.1 s (hR6.kp k10') hST.g (hsv.kp0 k10') hst hS) ?_
      rintro _ w11 ⟨V3, hV3, rfl, k11⟩
      have eV := hV3.uniq hV
      subst eV
      have ob11 := (k10'.trans k11).blk ob6 (by simp)
      unfold tkO at ob11
      simp [g2, cell_blk ob11, raw_vv, raw_nv, raw_gv, raw_ov]
      refine cl_of (greatest_spec fv T.gv.1 T.vars V3 T.goal (hfvd.kp ((k9.trans k10).trans k11)) (hr6.kp (k10'.trans k11)).goal (by omega) hST.g.goal.rng) ?_
      rintro _ w12 ⟨rfl, k12⟩
      simp [g2, g6, g7, g39, hck, hlk]
      exact k10'.trans (k11.trans k12)
end Go.Proofs.Ytjpbkljnllkneaa
