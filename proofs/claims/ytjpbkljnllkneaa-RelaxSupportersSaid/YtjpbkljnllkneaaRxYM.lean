/-
  A part of the proofs of this seat's statements (RxYM); no conditions beyond those each theorem names.
-/
import Derived.Test.YtjpbkljnllkneaaRxYL
set_option maxRecDepth 100000
set_option linter.unusedSimpArgs false
set_option linter.unusedVariables false
namespace Go.Rx
open Go Go.W Go.Tk
/-- There are values. -/
theorem IsVal.ex (U : List Un) (S : List Nat) : ∃ V, IsVal U S V := by
  have hex : ∀ f, ∃ x, (∀ k, Der U S f k → x ≤ k) ∧ x ≤ Inf ∧ (x < Inf → Der U S f x) := fun f => by
    rcases Classical.em (∃ k, Der U S f k) with ⟨k, hk⟩ | hn
    · obtain ⟨w, hw, hm⟩ := Lst.ex hk
      rcases Nat.lt_or_ge w Inf with h | h
      · exact ⟨w, hm, by omega, fun _ => hw⟩
      · exact ⟨Inf, fun j hj => by have := hm j hj; omega, Nat.le_refl _, fun h => by omega⟩
    · exact ⟨Inf, fun k hk => absurd ⟨k, hk⟩ hn, Nat.le_refl _, fun h => by omega⟩
  refine ⟨fun f => Classical.choose (hex f), fun f hf => ?_, fun u hu hlt => ?_, fun f hf => (Classical.choose_spec (hex f)).2.2 hf, fun f => (Classical.choose_spec (hex f)).2.1⟩
  · have := (Classical.choose_spec (hex f)).1 0 (.base hf)
    omega
  · refine (Classical.choose_spec (hex u.makes)).1 _ (.step hu _ fun n hn => (Classical.choose_spec (hex n)).2.2 ?_)
    have := gr_mem (V := fun f => Classical.choose (hex f)) hn
    omega
end Go.Rx
namespace Go.Proofs.Ytjpbkljnllkneaa
open Go Go.W Go.Tk Go.Rx Go.Maps
/-- Values in all states. -/
def VsOk (T : Nt) (U : List Un) (vS : List Nat → Nat → Nat) : Prop := ∀ s, IsVal U (stN T.vars s T.vars.length) (vS s)
theorem VsOk.ex (T : Nt) (U : List Un) : ∃ vS, VsOk T U vS := ⟨fun s => Classical.choose (IsVal.ex U (stN T.vars s T.vars.length)), fun s => Classical.choose_spec (IsVal.ex U (stN T.vars s T.vars.length))⟩
/-- The greatest value of a goal fact, in a state. -/
def hM (T : Nt) (vS : List Nat → Nat → Nat) (s : List Nat) : Nat := grF T.vars (vS s) T.goal
theorem hM_eq {T : Nt} {U : List Un} {vS : List Nat → Nat → Nat} {s : List Nat} {V : Nat → Nat} (hv : VsOk T U vS) (h : IsVal U (stN T.vars s T.vars.length) V) : grF T.vars V T.goal = hM T vS s := by rw [h.uniq (hv s)]; rfl
theorem hM_le {T : Nt} {U : List Un} {vS : List Nat → Nat → Nat} (hv : VsOk T U vS) (s : List Nat) : hM T vS s ≤ Inf := gr_le_iff.2 fun x _ => (hv s).le x
theorem apK_src {o : No} {s : List Nat} (v : Nat) : ∀ k, k ≤ o.effs.length → (apK o s k).getD v 0 = s.getD v 0 ∨ ∃ (j : Nat) (e : Nf), o.effs[j]? = some e ∧ hdB s e.cnd = true ∧ e.v = v ∧ e.x = (apK o s k).getD v 0
  | 0, _ => .inl (by simp [apK])
  | k + 1, hk => by
    obtain ⟨e, he⟩ : ∃ e, o.effs[k]? = some e := ⟨_, List.getElem?_eq_getElem (by omega)⟩
    rw [apK_succ he]
    split
    · rename_i hc
      by_cases h : e.v = v
      · by_cases hl : v < (apK o s k).length
        · refine .inr ⟨k, e, he, hc, h, ?_⟩
          rw [h, Go.Rx.getD_set_same hl]
        · rw [List.set_eq_of_length_le (by rw [h]; omega)]
          exact apK_src v k (by omega)
      · rw [Go.Rx.getD_set_ne h]
        exact apK_src v k (by omega)
    · exact apK_src v k (by omega)
theorem hd_mem {vars s : List Nat} {l : List Fc} (h : hdB s l = true) (hr : ∀ f ∈ l, f.1 < vars.length) : ∀ n ∈ l.map (numF vars), n ∈ stN vars s vars.length := fun n hn => by
  obtain ⟨f, hf, rfl⟩ := List.mem_map.1 hn
  unfold hdB at h
  have := List.all_eq_true.1 h f hf
  simp only [decide_eq_true_eq] at this
  unfold stN
  exact List.mem_map.2 ⟨f.1, List.mem_range.2 (hr f hf), by unfold numF; rw [this]⟩
theorem hM_goal {T : Nt} {U : List Un} {vS : List Nat → Nat → Nat} {s : List Nat} (hv : VsOk T U vS) (hg : NtG T) (h : hdB s T.goal = true) : hM T vS s = 0 := by
  have : hM T vS s ≤ 0 := gr_le_iff.2 fun x hx => by
    rw [(hv s).s0 x (hd_mem h (fun f hf => (hg.goal.rng f hf).1) x hx)]
    exact Nat.le_refl _
  omega
/-- Along a step the greatest value falls by at most the cost. -/
theorem hM_step {T : Nt} {c : Nat → Nat} {vS : List Nat → Nat → Nat} {s : List Nat} {q : Nat} {o : No} (hv : VsOk T (uns T c) vS) (hg : NtG T) (ho : T.ops[q]? = some o) (hp : hdB s o.pre = true) : hM T vS s ≤ hM T vS (apS o s) + c q := by
  have hgo := hg.ops o (List.mem_of_getElem? ho)
  have hq := (List.getElem?_eq_some_iff.1 ho).1
  have key := (hv s).step (c := c q) (hv (apS o s)) (fun f hf => by
    unfold stN at hf
    obtain ⟨v, hvr, rfl⟩ := List.mem_map.1 hf
    have hvr := List.mem_range.1 hvr
    rcases apK_src (o := o) (s := s) v o.effs.length (Nat.le_refl _) with h | ⟨j, e, he, hc, h1, h2⟩
    · have hm : psum T.vars v + (apS o s).getD v 0 ∈ stN T.vars s T.vars.length := by
        unfold stN
        exact List.mem_map.2 ⟨v, List.mem_range.2 hvr, by unfold apS; rw [h]⟩
      rw [(hv s).s0 _ hm]
      exact Nat.zero_le _
    · have hu := mem_uns (cost := c) hq ho he
      have hz : gr (vS s) (dedup ((o.pre ++ e.cnd).map (numF T.vars))) = 0 := by
        have : gr (vS s) (dedup ((o.pre ++ e.cnd).map (numF T.vars))) ≤ 0 := gr_le_iff.2 fun x hx => by
          have hx := dedup_mem.1 hx
          rw [List.map_append] at hx
          have hm : x ∈ stN T.vars s T.vars.length := by
            rcases List.mem_append.1 hx with h | h
            · exact hd_mem hp (fun f hf => (hgo.pre.rng f hf).1) x h
            · exact hd_mem hc (fun f hf => ((hgo.cnd e (List.mem_of_getElem? he)).rng f hf).1) x h
          rw [(hv s).s0 x hm]
          exact Nat.le_refl _
        omega
      have hcl := (hv s).cl _ hu (by show gr _ _ < Inf; rw [hz]; unfold Inf; omega)
      have e1 : numF T.vars (e.v, e.x) = psum T.vars v + (apS o s).getD v 0 := by
        show psum T.vars e.v + e.x = _
        rw [h1, h2]; rfl
      show vS s (psum T.vars v + (apS o s).getD v 0) ≤ c q
      rw [← e1]
      have hcl : vS s (numF T.vars (e.v, e.x)) ≤ gr (vS s) (dedup ((o.pre ++ e.cnd).map (numF T.vars))) + c q := hcl
      omega)
  refine gr_le_iff.2 fun x hx => ?_
  have h1 := key x
  have h2 := gr_mem (V := vS (apS o s)) hx
  show vS s x ≤ gr (vS (apS o s)) (T.goal.map (numF T.vars)) + c q
  omega
def hI (T : Nt) (vS : List Nat → Nat → Nat) (i : Nat) : Nat := match (stsK T.vars T.vars.length)[i]? with | some s => hM T vS s | none => 0
theorem hI_at {T : Nt} {vS : List Nat → Nat → Nat} {i : Nat} {s : List Nat} (h : (stsK T.vars T.vars.length)[i]? = some s) : hI T vS i = hM T vS s := by unfold hI; rw [h]
theorem hI_low {T : Nt} {c : Nat → Nat} {vS : List Nat → Nat → Nat} (hv : VsOk T (uns T c) vS) (hT : SmT T) : Low (edA T) c (goalB T) (hI T vS) := {
  le := fun i => by
    unfold hI
    split
    · exact hM_le hv _
    · omega
  z := fun i h => by
    unfold goalB at h
    cases hs : (stsK T.vars T.vars.length)[i]? with
    | none => unfold hI; rw [hs]
    | some s =>
      rw [hs] at h
      rw [hI_at hs]
      exact hM_goal hv hT.g h
  st := fun e he => by
    obtain ⟨s, o, h1, h2, h3, h4⟩ := edK_mem he
    have hst := apS_st (sts_st (List.mem_of_getElem? h1)) (hT.g.ops o (List.mem_of_getElem? h2))
    rw [hI_at h1, h4, hI_at (rk_all hst)]
    exact hM_step hv hT.g h2 h3 }
set_option maxHeartbeats 1000000 in
theorem law_admissible {w : World} (t : Tk) (cv : Value) (cl : List Nat) (ht : TkR w t) (hl : TkL t) (hc : Vw w cv u16E cl) (hcb : ∀ c ∈ cl, c < 65536) (hcl : cl.length ≤ 9223372036854775807) :
    Calls Try.prog 3 [tkV t, cv].toArray w fun e w' => ∃ x, e = .returned x ∧ x = .bool true ∧ Kp [] w w' := by
  refine enter Try.func3 mixed low3 (Nat.le_of_ble_eq_true rfl) ?_
  simp only [L3]
  obtain ⟨tb, htb⟩ : ∃ tb, tb = w.heap.size := ⟨_, rfl⟩
  obtain ⟨w1, hw1⟩ : ∃ w1, w1 = w.alloc (tkO t) := ⟨_, rfl⟩
  have k1 : Kp [] w w1 := by rw [hw1]; exact (Kp.refl [] w).alloc _
  have hw1' : w.alloc (.cells #[t.vv.1, t.nv.1, t.gv.1, t.ov.1] 26 (0, 0)) = w1 := by rw [hw1]; rfl
  have ob1 : w1.heap[tb]? = some (tkO t) := by rw [htb, hw1]; exact alloc_new
  simp [tkV, ← htb, hw1', rd_tk ob1]
  refine cl_of (small_spec t (ht.kp k1) hl) ?_
  rintro _ w2 ⟨rfl, k2⟩
  cases hsm : smallB t with
  | false =>
    simp
    refine cl_of awake_spec ?_
    rintro _ w3 ⟨rfl, k3⟩
    simp
    exact k1.trans (k2.trans k3)
  | true =>
    obtain ⟨T, rfl, hST⟩ := small_nat hl hsm
    have hr := NtR.raw.1 ht
    simp
    refine cl_of awake_spec ?_
    rintro _ w3 ⟨rfl, k3⟩
    have k13 := k2.trans k3
    simp [rd_tk (k13.blk ob1 (by simp)), raw_vv, raw_nv, raw_gv, raw_ov]
    refine cl_of (priced_ok T cv cl (hr.kp (k1.trans k13)) hST.g (hc.kp0 (k1.trans k13)) hcb hcl) ?_
    rintro _ w4 ⟨gv, rv, gl, rl, rfl, hP, hgv, hrv, k4⟩
    have k14 := k13.trans k4
    simp [rd_tk (k14.blk ob1 (by simp)), raw_vv, raw_nv, raw_gv, raw_ov]
    refine cl_of (new_ok T gv (gl.map iN) hST (hr.kp (k1.trans k14)) (vw_n.2 hgv) (PrI.ok hP)) ?_
    rintro _ w5 ⟨b, rfl, hR, k5⟩
    have k15 := k14.trans k5
    have hU := uns_congr hP.eq
    have hS := SmT.sm hST (c := cst T (gl.map iN)) (fun i hi => (PrI.ok hP).cst hST.g i hi)
    have hcst : ∀ i, i < T.ops.length → rl.getD i 0 = cst T (gl.map iN) i := fun i hi => (hP.eq i hi).symm
    have hcv : CvOk T rv (fun i => rl.getD i 0) w5 := CvOk.of (hrv.kp0 k5) hP.rlen
    simp [rd_tk (k15.blk ob1 (by simp)), raw_vv, raw_nv, raw_gv, raw_ov]
    refine cl_of (distances_spec T rv (fun i => rl.getD i 0) (hr.kp (k1.trans k15)) hST hcv (fun i hi => hP.rb _ (mem_getD (by rw [hP.rlen]; exact hi)))) ?_
    rintro bv w6 ⟨d, hdl, hdok, hdcl, hdv, k6⟩
    have k16 := k15.trans k6
    have oc6 := k16.blk ob1 (by simp)
    unfold tkO at oc6
    have hvl := hST.vl
    simp [cell_blk oc6, raw_vv]
    refine cl_of (states_spec T.vv.1 T.vars (hr.kp (k1.trans k16)).vars (by omega) (fun n hn => by have := hST.g.vars n hn; omega) (SmT.sts hST) (fun k hk s hs => by have := (sts_ok k hk s hs).1; omega)) ?_
    rintro uv w7 h7
    obtain ⟨ps, hpl, hpv, hpr⟩ := (LLA.vw h7).spread
    have k17 := k16.trans0 h7.kp
    have hR7 := hR.kp (k6.trans0 h7.kp)
    have hdv7 := hdv.kp0 h7.kp
    have h512 := sts512 hST
    obtain ⟨vS, hvS⟩ := VsOk.ex T (uns T fun i => rl.getD i 0)
    have hlow : Low (edA T) (fun i => rl.getD i 0) (goalB T) (hI T vS) := hI_low hvS hST
    have hU2 : uns T (cst T (gl.map iN)) = uns T fun i => rl.getD i 0 := uns_congr fun i hi => (hcst i hi).symm
    simp [hpv.len]
    refine range_loop (n := ps.length) (by omega) (fun k ρ w' => ρ 7 = .pointer (some ⟨b, 0, none⟩) ∧ ρ 9 = bv ∧ ρ 40 = uv ∧ Kp [] w7 w') (by simp) (by simp)
      ⟨by simp, by simp, by simp, Kp.refl _ _⟩ (by decide) (fun _ _ _ _ h => by simpa using h) (fun _ _ _ _ h => by simpa using h) ?_ ?_
    rotate_left
    · rintro ρ w8 ⟨g7, g9, g40, k8⟩
      simp
      exact k1.trans (k17.trans k8)
    rintro k ρ w8 hk hck hlk ⟨g7, g9, g40, k8⟩
    obtain ⟨p, hp⟩ : ∃ p, ps[k]? = some p := ⟨_, List.getElem?_eq_getElem hk⟩
    obtain ⟨s, hsk, hsv⟩ := hpr k p hp
    have hst := sts_st (List.mem_of_getElem? hsk)
    have hpv8 := hpv.kp0 k8
    have ep : w8.cell? (uv.adr.add k) = some p.1.1 := by simpa using hpv8.at_ sv1_len hp (o := 0) (u := p.1.1) rfl
    have hki : (k : Int) < ps.length := by omega
    simp (disch := omega) [g7, g9, g40, hck, hlk, hpv8.idx, ep]
    refine cl_of (rl_max p.1.1 s (hR7.kp k8) hST.g (hsv.kp0 k8) hst hS) ?_
    rintro _ w9 ⟨V, hV, rfl, k9⟩
    rw [hU2] at hV
    rw [hM_eq hvS hV]
    have hbest := hdok.low _ hlow k (by omega)
    rw [hI_at hsk] at hbest
    obtain ⟨x, hx⟩ : ∃ x, d[k]? = some x := ⟨_, List.getElem?_eq_getElem (by omega)⟩
    have hxd : d.getD k 0 = x := by simp [List.getD, hx]
    have hdv9 := hdv7.kp0 (k8.trans k9)
    have hkd : (k : Int) < d.length := by omega
    obtain ⟨h, hh⟩ : ∃ h, h = hM T vS s := ⟨_, rfl⟩
    rw [← hh] at hbest ⊢
    have n1 : ¬ (h : Int) < 0 := by omega
    have n2 : ¬ (x : Int) < (h : Int) := by omega
    simp (disch := omega) [g7, g9, g40, hck, hlk, n1, n2, hdv9.idx, nE_cell hdv9 hx]
    exact k8.trans k9
end Go.Proofs.Ytjpbkljnllkneaa
