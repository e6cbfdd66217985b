/-
  A part of the proof of this claim's statement (SyBD, SyBF): plain theorems; no conditions beyond those each names.
-/
import Derived.Test.YtcoeknnghfajnaaPk27
section
set_option maxRecDepth 100000
set_option linter.unusedSimpArgs false
set_option linter.unusedVariables false
namespace Go.Proofs.Ytcoeknnghfajnaa
open Go Go.W Go.Tk Go.Rx Go.Bd Go.Sy Go.Maps
/-- A state, up to a variable. -/
def pL (vars : List Nat) (p : Nat → Bool) (v x : Nat) : List Nat := (List.range vars.length).map fun u => if u < v then rv vars p 0 u else if u = v then x else 0
theorem pL_len (vars : List Nat) (p : Nat → Bool) (v x : Nat) : (pL vars p v x).length = vars.length := by simp [pL]
theorem pL_zero (vars : List Nat) (p : Nat → Bool) : pL vars p 0 0 = List.replicate vars.length 0 := by
  unfold pL
  refine List.ext_getElem (by simp) fun i h1 h2 => ?_
  simp
theorem pL_get {vars : List Nat} {p : Nat → Bool} {v x : Nat} (hv : v < vars.length) : (pL vars p v x)[v]? = some x := by
  unfold pL
  simp [hv]
theorem pL_set {vars : List Nat} {p : Nat → Bool} {v x y : Nat} : (pL vars p v x).set v y = pL vars p v y := by
  refine List.ext_getElem (by simp [pL]) fun i h1 h2 => ?_
  rw [List.getElem_set]
  simp only [pL, List.getElem_map, List.getElem_range]
  by_cases h : v = i
  · subst h; simp
  · have h' : ¬ i = v := fun e => h e.symm
    simp [h, h']
theorem pL_next {vars : List Nat} {p : Nat → Bool} {v : Nat} : pL vars p v (rv vars p 0 v) = pL vars p (v + 1) 0 := by
  unfold pL
  refine List.map_congr_left fun u hu => ?_
  by_cases h1 : u < v
  · rw [if_pos h1, if_pos (by omega)]
  · by_cases h2 : u = v
    · subst h2; rw [if_neg h1, if_pos rfl, if_pos (by omega)]
    · rw [if_neg h1, if_neg h2, if_neg (by omega)]
      split <;> rfl
theorem pL_end (vars : List Nat) (p : Nat → Bool) : pL vars p vars.length 0 = rs vars p 0 := by
  unfold pL rs
  refine List.map_congr_left fun u hu => ?_
  rw [if_pos (List.mem_range.1 hu)]
theorem valK_succ (g : Nat → Bool) (k : Nat) : valK g (k + 1) = 2 * valK g k + if g k = true then 1 else 0 := rfl
section
variable {w w1 : World} {F : List Nat} {A B B' : Asr} {s m lim : Nat} {T : Nt} {q : SpC} {ns : Ns} {ks : List (Nat × Bool)} {ss : List (Nat × Nat)}
def PkI (s m lim : Nat) (T : Nt) (q : SpC) (ns : Ns) (ks : List (Nat × Bool)) (ss : List (Nat × Nat)) (B : Asr) (w : World) (F : List Nat) (p : Nat → Bool) (bw ov : Value) (v x : Nat) (ρ : Env) (w' : World) : Prop :=
  ρ 0 = .pointer (some ⟨s, 0, none⟩) ∧ ρ 6 = bw ∧ ρ 8 = ov ∧ At w F (Star (OwnA ov 3 1 nE (pL T.vars p v x)) (Star (OwnA bw 4 1 bv ((List.range (2 * nBits T.vars)).map p)) (SpcA s m lim T q ns ks ss B))) w'
set_option maxHeartbeats 4000000 in
theorem spick_spec (a : Nat) (P : List Nat → Bool) (hG : SpG lim T q ns ks ss) (hB : Lcl B) (h : At w F (SpcA s m lim T q ns ks ss B) w1) (ha : Kn T ns ks a P) (h0 : a ≠ 0) :
    Calls Try.prog 25 [.pointer (some ⟨s, 0, none⟩), .int .i64 (a : Nat)].toArray w1 fun en w' => ∃ v, en = .returned v ∧ ∃ u st, v = .tuple #[u, .nilIface] ∧ StN T.vars st ∧ P st = true ∧ At w F (SpcA s m lim T q ns ks ss (Star (OwnA u 3 1 nE st) B)) w' := by
  refine enter Try.func25 mixed low25 (Nat.le_of_ble_eq_true rfl) ?_
  simp only [L25]
  have os := SpcA.obj h
  unfold spO at os
  rw [hG.cells.1] at os
  have hvl := hG.g.vlen
  have hbt := hG.ok.bt
  have hale := ha.le hG
  have hka : i64ok a := by unfold i64ok; omega
  have hLS : Lcl (SpcA s m lim T q ns ks ss B) := SpcA.lcl hB
  simp [cell_blk os]
  refine MapM.look1 (x := a) (SpcA.km h) bkeyI Try.underlying73 zbool hka ?_
  simp [ha.kn, boolV, cell_blk os]
  have h' := h
  unfold SpcA at h'
  refine cl_of (pick_spec m (2 * nBits T.vars) lim ns a (SpcA.rest hB) h' hG.ok.wf hG.ok.bnd ha.ok.1 h0) ?_
  rintro _ w2 ⟨bw, rfl, h2⟩
  have h2 : At w F (Star (OwnA bw 4 1 bv ((List.range (2 * nBits T.vars)).map (pickF (2 * nBits T.vars) ns a))) (SpcA s m lim T q ns ks ss B)) w2 := h2
  obtain ⟨p, hp⟩ : ∃ p, p = pickF (2 * nBits T.vars) ns a := ⟨_, rfl⟩
  have hpt : eval ns p a = true := by rw [hp]; exact pick_true hG.ok.wf ha.ok.1 h0
  rw [← hp] at h2
  rw [ha.ok.2, Bool.and_eq_true] at hpt
  have hst : StN T.vars (rs T.vars p 0) := okB_iff.1 hpt.1
  have h2s := h2.by Imp.dr
  have os2 := SpcA.obj h2s
  unfold spO at os2
  rw [hG.cells.1] at os2
  have hT2 := SpcA.tsk h2s
  simp (disch := omega) [cell_blk os2, hT2.vars.len]
  obtain ⟨n, hn⟩ : ∃ n, n = T.vars.length := ⟨_, rfl⟩
  have h3 := h2.made (E := 3) (enc := nE) (x := 0) (z := [.int .i64 0]) (n := n) (Lcl.own.star hLS) rfl nE_len (by unfold maxLen; omega)
  rw [hn, ← pL_zero T.vars p, ← hn] at h3
  rw [← hn]
  refine gd_mk (by omega) ?_
  simp
  obtain ⟨ov, hov⟩ : ∃ ov, ov = Value.slice (some ⟨w2.heap.size, 0, none⟩) n n := ⟨_, rfl⟩
  rw [← hov] at h3 ⊢
  refine range_loop (n := n) (by omega) (fun v ρ w' => PkI s m lim T q ns ks ss B w F p bw ov v 0 ρ w') (by simp) (by simp)
    ⟨by simp, by simp, by simp, h3⟩ (by decide) (fun _ _ _ _ h => by unfold PkI at h ⊢; simpa using h) (fun _ _ _ _ h => by unfold PkI at h ⊢; simpa using h) ?_ ?_
  · rintro v ρ w4 hv hcv hlv ⟨e0, e6, e8, h4⟩
    have hvt : v < T.vars.length := by omega
    obtain ⟨nn, hvn⟩ : ∃ nn, T.vars[v]? = some nn := ⟨_, List.getElem?_eq_getElem hvt⟩
    have hnd : T.vars.getD v 0 = nn := by simp [List.getD, hvn]
    have hw6 := wd_le nn
    obtain ⟨W, hW⟩ : ∃ W, W = wd nn := ⟨_, rfl⟩
    rw [← hW] at hw6
    have h4s := (h4.by Imp.dr).by Imp.dr
    have os4 := SpcA.obj h4s
    unfold spO at os4
    have hwv4 := SpcA.wv h4s
    have hwc := nE_cell hwv4 (widthL_at hvn)
    rw [← hW] at hwc
    have hvw : (v : Int) < (widthL T.vars).length := by simp [widthL]; omega
    simp (disch := omega) [e0, hcv, hlv, cell_blk os4, hwv4.idx, hwc]
    obtain ⟨g, hg⟩ : ∃ g : Nat → Bool, g = fun k => p (2 * (bP T.vars v + k)) := ⟨_, rfl⟩
    refine range_loop (n := W) (by omega) (fun k ρ w' => ρ 9 = .int .i64 (v : Nat) ∧ ρ 42 = .int .i64 (n : Nat) ∧ ρ 43 = .int .i64 (v : Nat) ∧ PkI s m lim T q ns ks ss B w F p bw ov v (valK g k) ρ w') (by simp) (by simp)
      ⟨by simp, by simp [hlv], by simp [hcv], by simp [e0], by simp [e6], by simp [e8], h4⟩ (by decide) (fun _ _ _ _ h => by unfold PkI at h ⊢; simpa using h) (fun _ _ _ _ h => by unfold PkI at h ⊢; simpa using h) ?_ ?_
    · rintro k ρ w5 hk hck hlk ⟨g9, g42, g43, g0, g6, g8, h5⟩
      obtain ⟨x, hx⟩ : ∃ x, x = valK g k := ⟨_, rfl⟩
      have hxl : x < 64 := by
        have h1 := valK_lt g k
        have h2 : 2 ^ k ≤ 2 ^ 5 := Nat.pow_le_pow_right (by omega) (by omega)
        omega
      rw [← hx] at h5
      have hl5 : (pL T.vars p v x).length = n := by rw [pL_len, hn]
      have hc5 := h5.own.cell nE_len (pL_get (p := p) (x := x) hvt) (o := 0) (by omega)
      rw [Nat.mul_one, Nat.add_zero] at hc5
      have hc5 : w5.cell? ⟨ov.blk, v, none⟩ = some (.int .i64 (x : Nat)) := hc5
      obtain ⟨y, hy⟩ : ∃ y, y = 2 * x := ⟨_, rfl⟩
      have ey : (x : Int) * 2 = (y : Int) := by omega
      have h5d := h5.drew (Lcl.own.star (Lcl.own.star hLS))
      simp (disch := omega) [g0, g8, g9, g43, hck, hlk, h5.own.idx, hl5, hc5, ey, wrap_i64]
      refine h5.store1 (x := y) (Lcl.own.star hLS) nE_len nE_one (by rw [hl5]; omega) rfl fun w6 h6 => ?_
      rw [pL_set] at h6
      simp only [↓wpT_nil, put_none, merge_nil, rangeQ_nrm]
      have h6s := (h6.by Imp.dr).by Imp.dr
      have os6 := SpcA.obj h6s
      unfold spO at os6
      have hfv6 := SpcA.fv h6s
      have hfc6 := nE_cell hfv6 (firstL_at hvt)
      have hvf : (v : Int) < (firstL T.vars).length := by simp [firstL]; omega
      have hbp := bP_in hvn (show k < wd nn by omega)
      obtain ⟨p2, hp2⟩ : ∃ p, p = bP T.vars v + k := ⟨_, rfl⟩
      have ei1 : (bP T.vars v : Int) + (k : Int) = (p2 : Int) := by omega
      obtain ⟨p3, hp3⟩ : ∃ p, p = 2 * p2 := ⟨_, rfl⟩
      have ei2 : 2 * (p2 : Int) = (p3 : Int) := by omega
      have hbw := (h6.by Imp.dr).own
      have hbl : ((List.range (2 * nBits T.vars)).map p).length = 2 * nBits T.vars := by simp
      have hp3l : p3 < 2 * nBits T.vars := by omega
      have hbc := hbw.cell bv_len (show ((List.range (2 * nBits T.vars)).map p)[p3]? = some (p p3) by simp [hp3l]) (o := 0) (by omega)
      rw [Nat.mul_one, Nat.add_zero] at hbc
      have hbc : w6.cell? ⟨bw.blk, p3, none⟩ = some (.bool (p p3)) := hbc
      have hgk : g k = p p3 := by rw [hg, hp3, hp2]
      have hp3i : (p3 : Int) < 2 * (nBits T.vars : Nat) := by omega
      have hv2 : valK g (k + 1) = y + if p p3 = true then 1 else 0 := by rw [valK_succ, hgk, ← hx, hy]
      cases hb : p p3 with
      | true =>
        rw [hb] at hbc hv2
        rw [if_pos rfl] at hv2
        have hl6 : (pL T.vars p v y).length = n := by rw [pL_len, hn]
        have hc6 := h6.own.cell nE_len (pL_get (p := p) (x := y) hvt) (o := 0) (by omega)
        rw [Nat.mul_one, Nat.add_zero] at hc6
        have hc6 : w6.cell? ⟨ov.blk, v, none⟩ = some (.int .i64 (y : Nat)) := hc6
        obtain ⟨z, hz⟩ : ∃ z, z = y + 1 := ⟨_, rfl⟩
        have ez : (y : Int) + 1 = (z : Int) := by omega
        have h6d := h6.drew (Lcl.own.star (Lcl.own.star hLS))
        simp (disch := omega) [g0, g6, g8, g9, hck, hlk, cell_blk os6, hfv6.idx, hfc6, ei1, ei2, ez, wrap_i64, hbw.idx, hbl, hbc, h6.own.idx, hl6, hc6]
        refine h6.store1 (x := z) (Lcl.own.star hLS) nE_len nE_one (by rw [hl6]; omega) rfl fun w7 h7 => ?_
        rw [pL_set, hz, ← hv2] at h7
        simp only [↓wpT_nil, put_none, merge_nil, rangeQ_nrm]
        simp [g9, g42, g43, hck, hlk]
        exact ⟨by simpa using g0, by simpa using g6, by simpa using g8, h7⟩
      | false =>
        rw [hb] at hbc hv2
        have hv2 : valK g (k + 1) = y := hv2
        rw [← hv2] at h6
        simp (disch := omega) [g0, g6, g8, g9, hck, hlk, cell_blk os6, hfv6.idx, hfc6, ei1, ei2, wrap_i64, hbw.idx, hbl, hbc, g42, g43]
        exact ⟨by simpa using g0, by simpa using g6, by simpa using g8, h6⟩
    · rintro ρ w5 ⟨g9, g42, g43, g0, g6, g8, h5⟩
      have er : valK g W = rv T.vars p 0 v := by
        unfold rv
        rw [hnd, ← hW, hg]
        rfl
      rw [er, pL_next] at h5
      simp [g42, g43]
      exact ⟨by simp [g0], by simp [g6], by simp [g8], h5⟩
  rintro ρ w4 ⟨e0, e6, e8, h4⟩
  rw [hn, pL_end] at h4
  simp [e8]
  exact ⟨rs T.vars p 0, hst, hpt.2, SpcA.into (h4.by (Imp.un Imp.dr))⟩
end
end Go.Proofs.Ytcoeknnghfajnaa
end
section
set_option maxRecDepth 100000
set_option linter.unusedSimpArgs false
set_option linter.unusedVariables false
namespace Go.Proofs.Ytcoeknnghfajnaa
open Go Go.W Go.Tk Go.Rx Go.Bd Go.Sy Go.Maps
theorem setF_congr {vars : List Nat} {P Q : List Nat → Bool} (h : ∀ z, StN vars z → P z = Q z) : setF vars P = setF vars Q := funext fun a => by
  unfold setF
  cases ho : okB vars a with
  | false => rfl
  | true => rw [h _ (okB_iff.1 ho)]
theorem kn_ne {T : Nt} {ns : Ns} {ks : List (Nat × Bool)} {x : Nat} {P : List Nat → Bool} {st : List Nat} (h : Kn T ns ks x P) (h64 : ∀ n ∈ T.vars, n ≤ 64) (hst : StN T.vars st) (hp : P st = true) : x ≠ 0 := fun e => by
  have hrs : rs T.vars (mk2 T.vars st []) 0 = st := rs_mk2 (y := []) h64 hst
  have h1 := h.ok.2 (mk2 T.vars st [])
  rw [e, eval_zero, hrs, hp, okB_iff.2 (by rw [hrs]; exact hst)] at h1
  cases h1
section
variable {w w1 : World} {F : List Nat} {B : Asr} {s m lim N N0 c : Nat} {T : Nt} {q : SpC} {W0 W : BFn → Prop} {ps : List Kp2}
theorem lw_pick (a : Nat) (P : List Nat → Bool) {st0 : List Nat} (hC : LwC T W0 N0) (hB : Lcl B) (h : Lw s m lim T q W0 B w F N c ps w1) (ha : (a, P) ∈ ps) (hst : StN T.vars st0) (hp : P st0 = true) :
    Calls Try.prog 25 [.pointer (some ⟨s, 0, none⟩), .int .i64 (a : Nat)].toArray w1 fun en w' => ∃ v, en = .returned v ∧ ∃ u st, v = .tuple #[u, .nilIface] ∧ StN T.vars st ∧ P st = true ∧ Lw s m lim T q W0 (Star (OwnA u 3 1 nE st) B) w F N c ps w' := by
  obtain ⟨ns, ks, ss, hrn, hG, hk, hkl, hsl, hA⟩ := h
  refine (spick_spec a P hG hB hA (hk _ ha) (kn_ne (hk _ ha) (fun n hn => (hG.g.vars n hn).2) hst hp)).mono ?_
  rintro en w' ⟨v, rfl, u, st, rfl, h1, h2, h3⟩
  exact ⟨_, rfl, u, st, rfl, h1, h2, ns, ks, ss, hrn, hG, hk, hkl, hsl, h3⟩
end
theorem prL_rep (n k : Nat) : prL (List.replicate n k) = k ^ n := by
  induction n with
  | zero => rfl
  | succ n ih => rw [List.replicate_succ, Nat.pow_succ, Nat.mul_comm, ← ih]; rfl
theorem ct_all (vars : List Nat) : ctN vars (fun _ => true) = prL vars := by
  unfold ctN
  rw [List.filter_eq_self.2 (fun _ _ => rfl), stsK_len _ (Nat.le_refl _), List.take_length]
/-- The only state whose value of a variable is 0, and that comes to one by a change of that. -/
theorem set_back {v x : Nat} {z st : List Nat} (hl : z.length = st.length) (h0 : z.getD v 0 = 0) (h1 : st.getD v 0 = 0) (h : z.set v x = st.set v x) : z = st := by
  refine ext_getD hl fun u hu => ?_
  by_cases e : u = v
  · subst e; rw [h0, h1]
  · have := congrArg (fun l => l.getD u 0) h
    simp only [List.getD, List.getElem?_set_ne (fun h => e h.symm)] at this
    exact this
end Go.Proofs.Ytcoeknnghfajnaa
end
