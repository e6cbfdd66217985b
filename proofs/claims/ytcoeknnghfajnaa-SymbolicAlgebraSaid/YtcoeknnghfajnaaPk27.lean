/-
  A part of the proof of this claim's statement (SyWK, SyWL, SyAP, SyAQ, RxXK, RxXL, RxYA, RxYB, RxYC, RxYG, RxYK, SyXA): plain theorems; no conditions beyond those each names.
-/
import Derived.Test.YtcoeknnghfajnaaPk26
import Derived.Test.YtcoeknnghfajnaaPk19
import Derived.Test.YtcoeknnghfajnaaPk16
import Derived.Test.YtcoeknnghfajnaaPk15
section
set_option maxRecDepth 100000
set_option linter.unusedSimpArgs false
set_option linter.unusedVariables false
namespace Go.Proofs.Ytcoeknnghfajnaa
open Go Go.W Go.Tk Go.Rx Go.Bd Go.Sy Go.Maps
theorem getM_put {κ α : Type} [DecidableEq κ] : ∀ (l : List (κ × α)) (x : κ) (v : α), getM (putM l x v) x = some v := by
  intro l x v
  unfold getM putM
  split
  · rename_i h
    rw [List.any_eq_true] at h
    induction l with
    | nil => obtain ⟨p, hp, _⟩ := h; cases hp
    | cons p l ih =>
      by_cases e : p.1 = x
      · simp [e]
      · simp only [List.map_cons, e, if_false, List.find?_cons, decide_false]
        refine ih ?_
        obtain ⟨q, hq, hq2⟩ := h
        rcases List.mem_cons.1 hq with rfl | hq
        · exact absurd (of_decide_eq_true hq2) e
        · exact ⟨q, hq, hq2⟩
  · rename_i h
    rw [List.find?_append]
    have : l.find? (fun p => decide (p.1 = x)) = none := by
      rw [List.find?_eq_none]
      intro p hp hc
      exact h (List.any_eq_true.2 ⟨p, hp, hc⟩)
    rw [this]
    simp
theorem getM_put_ne {κ α : Type} [DecidableEq κ] {l : List (κ × α)} {x y : κ} {v : α} (h : x ≠ y) : getM (putM l x v) y = getM l y := by
  unfold getM putM
  split
  · rename_i hh
    clear hh
    induction l with
    | nil => rfl
    | cons p l ih =>
      by_cases e : p.1 = x
      · have : ¬ p.1 = y := fun e2 => h (by rw [← e, e2])
        simp only [List.map_cons, e, if_true, List.find?_cons, h, decide_false, this]
        exact ih
      · by_cases e2 : p.1 = y
        · have hyx : ¬ y = x := fun e => h e.symm
          simp [List.map_cons, e2, hyx]
        · simp only [List.map_cons, e, if_false, List.find?_cons, e2, decide_false]
          exact ih
  · rw [List.find?_append]
    cases l.find? (fun p => decide (p.1 = y)) with
    | some p => rfl
    | none => simp [h]
section
variable {w w1 : World} {F : List Nat} {B : Asr} {s m lim : Nat} {T : Nt} {q : SpC} {ns : Ns} {ks : List (Nat × Bool)} {ss : List (Nat × Nat)}
theorem all_spec (h : At w F (SpcA s m lim T q ns ks ss B) w1) : Calls Try.prog 14 [.pointer (some ⟨s, 0, none⟩)].toArray w1 fun en w' => ∃ v, en = .returned v ∧ v = .int .i64 (q.all : Nat) ∧ At w F (SpcA s m lim T q ns ks ss B) w' := by
  refine enter Try.func14 mixed low14 (Nat.le_of_ble_eq_true rfl) ?_
  simp only [L14]
  have os := SpcA.obj h
  unfold spO at os
  simp [cell_blk os]
  exact h
theorem SpG.six {n : Nat} (h : n < many) : cntV n = .tuple #[.int .i64 (n : Nat), .nilIface] := by
  unfold cntV
  rw [if_pos h]
  rfl
theorem SRes.ok {W : BFn → Prop} {N N1 : Nat} {P : List Nat → Bool} {v : Value} {w' : World} (h : SRes s m lim T q ns ks ss B w F W P v w') (hr : Run (2 * nBits T.vars) lim N ns) (hc : CovW (2 * nBits T.vars) W N1) (hl : N + N1 < lim) :
    ∃ x ns' ss', v = .tuple #[.int .i64 (x : Nat), .nilIface] ∧ Run (2 * nBits T.vars) lim (N + N1) ns' ∧ Stp (2 * nBits T.vars) lim W false ns false ns' ∧ Kn T ns' (putM ks x true) x P ∧ SpG lim T q ns' (putM ks x true) ss' ∧ ss'.length ≤ ss.length + 1 ∧ At w F (SpcA s m lim T q ns' (putM ks x true) ss' B) w' := by
  obtain ⟨x, e', ns', ss', rfl, h2, h3, h4, h5, h6, h7⟩ := h
  obtain ⟨rfl, hr2⟩ := hr.step h2 hc hl
  exact ⟨x, ns', ss', rfl, hr2, h2, ⟨getM_put _ _ _, h4 rfl⟩, h5, h6, h7⟩
theorem CRes.ok {W : BFn → Prop} {N N1 : Nat} {P : List Nat → Bool} {v : Value} {w' : World} (h : CRes s m lim T q ns ks ss B w F W P v w') (hr : Run (2 * nBits T.vars) lim N ns) (hc : CovW (2 * nBits T.vars) W N1) (hl : N + N1 < lim) (hg : NtG T) :
    ∃ ns', v = cntV (ctN T.vars P) ∧ Run (2 * nBits T.vars) lim (N + N1) ns' ∧ Stp (2 * nBits T.vars) lim W false ns false ns' ∧ SpG lim T q ns' ks ss ∧ At w F (SpcA s m lim T q ns' ks ss B) w' := by
  obtain ⟨e', ns', rfl, h2, h3, h4⟩ := h
  obtain ⟨rfl, hr2⟩ := hr.step h2 hc hl
  exact ⟨ns', by rw [if_neg (by simp), ct_num fun n hn => (hg.vars n hn).2], hr2, h2, h3, h4⟩
end
set_option maxHeartbeats 4000000 in
theorem awake_spec {w w1 : World} {F : List Nat} {B : Asr} (hB : Lcl B) (h : At w F B w1) : Calls Try.prog 9 [].toArray w1 fun en w' => ∃ v, en = .returned v ∧ v = .bool true ∧ At w F B w' := by
  refine enter Try.func9 mixed low9 (Nat.le_of_ble_eq_true rfl) ?_
  simp only [L9]
  simp
  refine cl_of (example_spec hB h) ?_
  rintro _ w2 ⟨vv, nv, ov, pv, ev, wv, rfl, h2⟩
  obtain ⟨T0, hT0⟩ : ∃ T0, T0 = exT vv nv ov pv ev wv := ⟨_, rfl⟩
  have hg0 : NtG T0 := by rw [hT0]; exact exT_g
  have hgd0 : goodB T0.raw = true := by rw [hT0]; exact exT_good
  have hl0 : TkL T0.raw := hg0.lens (by rw [hT0]; simp [exT, exO])
  have ho0 : T0.ops[0]? = some (exO pv ev wv) := by rw [hT0]; rfl
  have hv0 : T0.vars = [2, 3] := by rw [hT0]; rfl
  rw [← hT0] at h2 ⊢
  have hnb : nBits [2, 3] = 3 := rfl
  have hL2 : Lcl (Star (TskA T0) B) := TskA.lcl.star hB
  have hC : ∀ G : BFn, CovW 6 (fun K => K = G) 64 := fun G => cov_any G
  have hN0 : CovW (2 * nBits T0.vars) (NewS T0) 58752 := by
    have hn6 : 2 * nBits T0.vars = 6 := by rw [hv0]; rfl
    have := covNew (n := 2 * nBits T0.vars) (C := 64) (by rw [hn6]; exact hC) T0 (fun n hn => (hg0.vars n hn).2)
    refine this.mono (fun _ h => h) ?_
    rw [hn6, hv0]
    simp
  simp
  refine cl_of (snew_spec T0 1048576 hL2 h2 TskA.rd hg0 hgd0 hl0 (by omega) (by omega) (newW (W := NewS T0) fun G h => h)) ?_
  rintro _ w3 hn
  rcases hn with ⟨hbig, _⟩ | ⟨_, e3, ns3, hs3, hn⟩
  · rw [hv0, hnb] at hbig
    omega
  obtain ⟨he3, r3⟩ := (Run.start _ _).step hs3 hN0 (by omega)
  subst he3
  rcases hn with ⟨h, _⟩ | ⟨_, s, m, T, q, hA, rfl, hG3, h3⟩
  · cases h
  have hv : T.vars = [2, 3] := by rw [hA.vars, hv0]
  have r3 : Run (2 * nBits T.vars) 1048576 (0 + 58752) ns3 := by rw [hA.vars]; exact r3
  have hn6 : 2 * nBits T.vars = 6 := by rw [hv]; rfl
  have hC' : ∀ G : BFn, CovW (2 * nBits T.vars) (fun K => K = G) 64 := by rw [hn6]; exact hC
  have hct : ∀ P, CovW (2 * nBits T.vars) (CtS T P) 1024 := fun P => (covCt hC' T P).mono (fun _ h => h) (by rw [hn6, show nBits T.vars = 3 by rw [hv]; rfl]; simp)
  have k3 : Kn T ns3 (putM [(0, true)] q.all true) q.all (fun _ => true) := ⟨getM_put _ _ _, hG3.all⟩
  simp
  refine cl_of (all_spec h3) ?_
  rintro _ w4 ⟨rfl, h4⟩
  simp
  have hctW : ∀ P, LitW T.vars (CtS T P) ∧ (∀ j, j < nBits T.vars → CtS T P (zB (nBits T.vars) j)) ∧ CtS T P (ctF T.vars P) := fun P => ⟨litW fun G h => .inl h, fun j hj => .inr (.inl ⟨j, hj, rfl⟩), .inr (.inr rfl)⟩
  refine cl_of (count_spec q.all (fun _ => true) hG3 hL2 h4 k3 (hctW _).1 (hctW _).2.1 (hctW _).2.2) ?_
  rintro v5 w5 hc
  obtain ⟨ns5, rfl, r5, hs5, hG5, h5⟩ := hc.ok r3 (hct _) (by omega) hG3.g
  have e6 : ctN T.vars (fun _ => true) = 6 := by rw [hv]; rfl
  rw [e6, SpG.six (by decide)]
  simp
  have hk3 := hG3.ok
  have k5 : Kn T ns5 (putM [(0, true)] q.all true) q.all (fun _ => true) := ⟨k3.kn, k3.ok.stp hk3 hs5⟩
  obtain ⟨o, ho, op, oa, oe⟩ := hA.sk ho0
  have hpl : o.pre.length = 1 := by rw [op]; rfl
  have hel : o.effs.length = 2 := by rw [oe]; rfl
  have hog := hG3.g.ops o (List.mem_of_getElem? ho)
  have hvl2 : T.vars.length = 2 := by rw [hv]; rfl
  have hR : CovW (2 * nBits T.vars) (RelS T o) 11584 := (covRel hC' T o (V := 2) (by omega) (by omega) (fun x hx => by have := (hog.cnd x hx).len; omega)).mono (fun _ h => h) (by rw [hn6, hel]; omega)
  have hI : CovW (2 * nBits T.vars) (ImgS T o fun _ => true) 28032 := (covImg T o _ hC' hR).mono (fun _ h => h) (by rw [hn6]; simp)
  refine cl_of (all_spec h5) ?_
  rintro _ w6 ⟨rfl, h6⟩
  simp
  refine cl_of (image_spec q.all 0 o (fun _ => true) hG5 hL2 h6 k5 ho (by have : (putM [(0, true)] q.all true).length ≤ 1 + 1 := putM_len_le; omega) (by simp) (imgW (W := ImgS T o fun _ => true) fun G h => h)) ?_
  rintro v7 w7 hs
  obtain ⟨x, ns7, ss7, rfl, r7, hs7, k7, hG7, hl7, h7⟩ := hs.ok r5 hI (by omega)
  simp
  refine cl_of (count_spec x _ hG7 hL2 h7 k7 (hctW _).1 (hctW _).2.1 (hctW _).2.2) ?_
  rintro v8 w8 hc
  obtain ⟨ns8, rfl, r8, hs8, hG8, h8⟩ := hc.ok r7 (hct _) (by omega) hG7.g
  have hP : imgP T o (fun _ => true) = imgP T0 (exO pv ev wv) (fun _ => true) := imgP_alk hA op oa _
  have e8 : ctN T.vars (imgP T o fun _ => true) = 2 := by rw [hP, hv, hT0]; rfl
  rw [e8, SpG.six (by decide)]
  have k8 : Kn T ns8 (putM (putM [(0, true)] q.all true) x true) x (imgP T o fun _ => true) := ⟨k7.kn, k7.ok.stp hG7.ok hs8⟩
  simp [rowOf]
  have h9 := h8.lit (xs := [1, 2]) (enc := nE) (E := 3) (sz := 1) (cs := #[.int .i64 1, .int .i64 2]) (m := 2) (SpcA.lcl hL2) (by simp [nE]) nE_len (by simp [maxLen]) rfl
  have h10 := SpcA.into h9
  refine cl_of (has_spec x _ [1, 2] _ hG8 (Lcl.own.star hL2) h10 k8 Rds.own ?_) ?_
  · rw [hv]
    exact ⟨rfl, fun v hv => by have : v = 0 ∨ v = 1 := by simp at hv; omega
                               rcases this with rfl | rfl <;> decide⟩
  rintro _ w11 ⟨rfl, h11⟩
  have e11 : imgP T o (fun _ => true) [1, 2] = true := by rw [hP, hT0]; rfl
  rw [e11]
  simp
  have h12 := SpcA.less h11
  unfold SpcA at h12
  exact h12.drop.drop.drop.drop.drop.drop.drop.drop
end Go.Proofs.Ytcoeknnghfajnaa
end
section
set_option maxRecDepth 100000
set_option linter.unusedSimpArgs false
set_option linter.unusedVariables false
namespace Go.Proofs.Ytcoeknnghfajnaa
open Go Go.W Go.Tk Go.Rx Go.Bd Go.Sy Go.Maps
theorem all_nil (w : World) : Calls Try.prog 14 [.pointer none].toArray w fun e w' => ∃ x, e = .returned x ∧ x = .int .i64 0 ∧ Kp [] w w' := by
  refine enter Try.func14 mixed low14 (Nat.le_of_ble_eq_true rfl) ?_
  simp only [L14]
  simp
  exact Kp.refl _ _
end Go.Proofs.Ytcoeknnghfajnaa
end
section
set_option maxRecDepth 100000
set_option linter.unusedSimpArgs false
set_option linter.unusedVariables false
namespace Go.Proofs.Ytcoeknnghfajnaa
open Go Go.W Go.Tk Go.Rx Go.Bd Go.Sy Go.Maps
theorem allc_congr {α : Type} {l : List α} {f g : α → Bool} (h : ∀ x ∈ l, f x = g x) : l.all f = l.all g := by
  induction l with
  | nil => rfl
  | cons x l ih => rw [List.all_cons, List.all_cons, h x (by simp), ih fun y hy => h y (by simp [hy])]
theorem rv_x {vars : List Nat} {a b : Nat → Bool} {v : Nat} (h : ∀ p, bP vars v ≤ p → p < bP vars v + wd (vars.getD v 0) → a (2 * p) = b (2 * p)) : rv vars a 0 v = rv vars b 0 v := valK_congr _ fun k hk => by
  have := h (bP vars v + k) (by omega) (by omega)
  simpa using this
theorem bP_in2 {vars : List Nat} {v p : Nat} (hv : v < vars.length) (h1 : p < bP vars v + wd (vars.getD v 0)) : p < nBits vars := by
  have hn : vars[v]? = some (vars.getD v 0) := by simp [List.getD, List.getElem?_eq_getElem hv]
  have h2 := bP_succ hn
  have h3 := bP_mono (vars := vars) (show v + 1 ≤ vars.length by omega)
  rw [bP_all] at h3
  omega
theorem rv_x0 {vars : List Nat} {a b : Nat → Bool} {v : Nat} (hv : v < vars.length) (h : ∀ p, 0 ≤ p → p < 0 + nBits vars → a (2 * p) = b (2 * p)) : rv vars a 0 v = rv vars b 0 v := rv_x fun p _ h2 => h p (Nat.zero_le _) (by have := bP_in2 hv h2; omega)
theorem rs_x {vars : List Nat} {a b : Nat → Bool} (h : ∀ p, 0 ≤ p → p < 0 + nBits vars → a (2 * p) = b (2 * p)) : rs vars a 0 = rs vars b 0 := rs_congr fun p hp => by
  have := h p (Nat.zero_le _) (by omega)
  simpa using this
theorem setF_x (vars : List Nat) (P : List Nat → Bool) : XIn 0 (nBits vars) (setF vars P) := fun a b h => by
  unfold setF
  rw [rs_x h, okB_congr (rs_x h)]
theorem nsetF_x (vars : List Nat) (P : List Nat → Bool) : XIn 0 (nBits vars) fun a => !setF vars P a := fun a b h => congrArg (fun x => !x) (setF_x vars P a b h)
theorem fcB_x {vars : List Nat} {l : List Go.Tk.Fc} (hr : ∀ f ∈ l, f.1 < vars.length) (j : Nat) : XIn 0 (nBits vars) (fcB vars l j) := fun a b h => by
  unfold fcB
  refine allc_congr fun f hf => ?_
  rw [rv_x0 (hr f (List.mem_of_mem_drop hf)) h]
theorem okP_x {vars : List Nat} {k : Nat} (hk : k ≤ vars.length) : XIn 0 (nBits vars) (okP vars k) := fun a b h => by
  unfold okP
  refine allc_congr fun v hv => ?_
  rw [rv_x0 (by have := List.mem_range.1 hv; omega) h]
theorem vlB_x (vars : List Nat) (v x j : Nat) : XIn (bP vars v) (wd (vars.getD v 0)) (vlB vars v x 0 j) := fun a b h => by
  unfold vlB
  refine allc_congr fun i hi => ?_
  have hi := List.mem_range.1 hi
  have := h (bP vars v + (j + i)) (by omega) (by omega)
  simp only [Nat.add_zero, this]
theorem thr_x (vars : List Nat) (v x : Nat) : XIn (bP vars v) (wd (vars.getD v 0)) fun a => decide (rv vars a 0 v < x + 1) := fun a b h => congrArg (fun y => decide (y < x + 1)) (rv_x h)
theorem fc1_x (vars : List Nat) (v x : Nat) : XIn (bP vars v) (wd (vars.getD v 0)) (fcB vars [(v, x)] 0) := fun a b h => by
  simp only [fcB, List.drop_zero, List.all_cons, List.all_nil, Bool.and_true]
  rw [rv_x h]
theorem zB_cube (k n : Nat) : zB k n = cubeB ((List.range (k - n)).map fun j => (2 * (n + j) + 1, false)) := funext fun a => by
  unfold zB cubeB
  rw [List.all_map]
  refine allc_congr fun j _ => ?_
  simp only [Function.comp]
  cases a (2 * (n + j) + 1) <;> rfl
theorem ctF_g (vars : List Nat) (P : List Nat → Bool) : Gtd (nBits vars) (ctF vars P) := by
  refine ⟨fun a h p hp => ?_, fun a b h => ?_⟩
  · unfold ctF at h
    rw [Bool.and_eq_true] at h
    exact zB_all.1 h.2 p hp
  · have hf : ∀ i, i < 2 * nBits vars → a i = b i := fun i hi => by
      rcases Nat.mod_two_eq_zero_or_one i with h0 | h0
      · have := (h (i / 2) (by omega)).1
        rwa [show 2 * (i / 2) = i by omega] at this
      · have := (h (i / 2) (by omega)).2
        rwa [show 2 * (i / 2) + 1 = i by omega] at this
    have h1 := setF_fin (vars := vars) (P := P) hf
    unfold setF at h1
    unfold ctF
    rw [h1]
    congr 1
    unfold zB
    refine allc_congr fun j hj => ?_
    have := List.mem_range.1 hj
    rw [hf (2 * (0 + j) + 1) (by omega)]
def BasS (T : Nt) (G : BFn) : Prop := NewS T G ∨ ∃ j, j < nBits T.vars ∧ G = zB (nBits T.vars) j
def nb (T : Nt) : Nat := 2 * nBits T.vars * (2 * nBits T.vars + 2 * nBits T.vars) + (((List.range T.vars.length).map fun v => T.vars.getD v 0 * 448).sum + T.vars.length * 2 ^ nBits T.vars) + nBits T.vars * (2 * nBits T.vars)
theorem pow_wd (n : Nat) : 2 ^ wd n ≤ 64 := by
  have : 2 ^ wd n ≤ 2 ^ 6 := Nat.pow_le_pow_right (by omega) (wd_le n)
  omega
theorem lit_cube (i : Nat) : (fun a : Nat → Bool => a i) = cubeB [(i, true)] ∧ (fun a : Nat → Bool => !a i) = cubeB [(i, false)] := by
  constructor
  · funext a; unfold cubeB; cases h : a i <;> simp [h]
  · funext a; unfold cubeB; cases h : a i <;> simp [h]
theorem cov_bas (T : Nt) : CovW (2 * nBits T.vars) (BasS T) (nb T) := by
  unfold nb
  refine CovW.or (((?_ : CovW _ (LitS T.vars) _).or (CovW.or (N2 := T.vars.length * 2 ^ nBits T.vars) (CovW.sum _ (fun v => T.vars.getD v 0 * 448) _ fun v hv => ?_) (CovW.eachW (fun k G => G = okP T.vars (k + 1)) _ fun k hk => cov_x (okP_x (by omega)))))) (CovW.eachW (fun j G => G = zB (nBits T.vars) j) _ fun j _ => by rw [zB_cube]; exact cov_cube _)
  · refine CovW.eachW _ _ fun i hi => ?_
    obtain ⟨e1, e2⟩ := lit_cube i
    rw [e1, e2]
    exact (cov_cube _).or (cov_cube _)
  · refine (CovW.eachW (fun x G => VlS T.vars v x 0 G ∨ G = fun a => decide (rv T.vars a 0 v < x + 1)) _ fun x _ => CovW.or (N1 := 384) ?_ ((cov_x (thr_x T.vars v x)).mono (fun _ h => h) (pow_wd _)))
    refine (CovW.eachW (fun j G => G = vlB T.vars v x 0 j) (wd (T.vars.getD v 0)) fun j _ => (cov_x (vlB_x T.vars v x j)).mono (fun _ h => h) (pow_wd _)).mono (fun _ h => h) ?_
    have := wd_le (T.vars.getD v 0)
    omega
/-- A run with so many nodes beside those. -/
def RunB (n lim : Nat) (W0 : BFn → Prop) (N : Nat) (ns : Ns) : Prop := ∃ W : BFn → Prop, Stp n lim (fun G => W0 G ∨ W G) false [] false ns ∧ CovW n W N
theorem RunB.step {n lim N0 N N1 : Nat} {W0 W : BFn → Prop} {e : Bool} {ns ns' : Ns} (h : RunB n lim W0 N ns) (h0 : CovW n W0 N0) (hs : Stp n lim (fun G => W0 G ∨ W G) false ns e ns') (hc : CovW n W N1) (hl : N0 + (N + N1) < lim) : e = false ∧ RunB n lim W0 (N + N1) ns' := by
  obtain ⟨W1, h1, c1⟩ := h
  have h2 : Stp n lim (fun G => W0 G ∨ (W1 G ∨ W G)) false [] e ns' := (h1.mono fun G hG => hG.imp id .inl).trans (hs.mono fun G hG => hG.imp id .inr)
  have hc2 := c1.or hc
  have hlen := cov_len (ns0 := []) h2.ext.wf (h0.or hc2) h2.new
  have : e = false := by
    cases e with
    | false => rfl
    | true =>
      have := h2.full rfl rfl
      simp at hlen
      omega
  subst this
  exact ⟨rfl, _, h2, hc2⟩
theorem RunB.start {n lim N0 : Nat} {W0 : BFn → Prop} {e : Bool} {ns : Ns} (h0 : CovW n W0 N0) (hs : Stp n lim W0 false [] e ns) (hl : N0 < lim) : e = false ∧ RunB n lim W0 0 ns := by
  have h1 : RunB n lim W0 0 [] := ⟨fun _ => False, Stp.refl (Wf.nil n) (Nat.zero_le _), CovW.none n⟩
  exact h1.step h0 (hs.mono fun G h => .inl h) (CovW.none n) (by omega)
end Go.Proofs.Ytcoeknnghfajnaa
end
section
set_option maxRecDepth 100000
set_option linter.unusedSimpArgs false
set_option linter.unusedVariables false
namespace Go.Proofs.Ytcoeknnghfajnaa
open Go Go.W Go.Tk Go.Rx Go.Bd Go.Sy Go.Maps
abbrev Kp2 := Nat × (List Nat → Bool)
/-- A space in a law: with so many nodes, after so many operations, with some sets. -/
def Lw (s m lim : Nat) (T : Nt) (q : SpC) (W0 : BFn → Prop) (B : Asr) (w : World) (F : List Nat) (N c : Nat) (ps : List Kp2) (w' : World) : Prop :=
  ∃ ns ks ss, RunB (2 * nBits T.vars) lim W0 N ns ∧ SpG lim T q ns ks ss ∧ (∀ p ∈ ps, Kn T ns ks p.1 p.2) ∧ ks.length ≤ c ∧ ss.length ≤ c ∧ At w F (SpcA s m lim T q ns ks ss B) w'
/-- What the operations share. -/
structure LwC (T : Nt) (W0 : BFn → Prop) (N0 : Nat) : Prop where
  bas : ∀ G, BasS T G → W0 G
  cov : CovW (2 * nBits T.vars) W0 N0
section
variable {w w1 : World} {F : List Nat} {B : Asr} {s m lim N N0 c : Nat} {T : Nt} {q : SpC} {W0 W : BFn → Prop} {ps : List Kp2}
theorem LwC.lit (hC : LwC T W0 N0) : LitW T.vars fun G => W0 G ∨ W G := litW fun G h => .inl (hC.bas G (.inl (.inl h)))
theorem LwC.vl (hC : LwC T W0 N0) {v x : Nat} (hv : v < T.vars.length) (hx : x < T.vars.getD v 0) : VlW T.vars v x 0 fun G => W0 G ∨ W G := vlW fun G h => .inl (hC.bas G (.inl (.inr (.inl ⟨v, hv, x, hx, .inl h⟩))))
theorem LwC.fc (hC : LwC T W0 N0) {l : List Go.Tk.Fc} (hr : FcRng T.vars l) (h : ∀ j, j < l.length → W (fcB T.vars l j)) : FcW T.vars l fun G => W0 G ∨ W G :=
  ⟨fun f hf => hC.vl (hr f hf).1 (hr f hf).2, fun j hj => .inr (h j hj)⟩
theorem LwC.zb (hC : LwC T W0 N0) : ∀ j, j < nBits T.vars → (fun G => W0 G ∨ W G) (zB (nBits T.vars) j) := fun j hj => .inl (hC.bas _ (.inr ⟨j, hj, rfl⟩))
theorem Kn.ext {n : Nat} {W : BFn → Prop} {ns ns' : Ns} {ks : List (Nat × Bool)} {x y : Nat} {e e' : Bool} {P : List Nat → Bool} (h : Kn T ns ks y P) (hw : SpOk T.vars lim ns) (hs : Stp (2 * nBits T.vars) lim W e' ns e ns') (hk : ∀ z, getM ks z = some true → getM (putM ks x true) z = some true) : Kn T ns' (putM ks x true) y P := ⟨hk y h.kn, h.ok.stp hw hs⟩
theorem getM_keep {ks : List (Nat × Bool)} {x z : Nat} (h : getM ks z = some true) : getM (putM ks x true) z = some true := by
  by_cases e : x = z
  · subst e; exact getM_put _ _ _
  · rw [getM_put_ne e]; exact h
theorem lw_sres {P : List Nat → Bool} {N1 : Nat} {ns : Ns} {ks : List (Nat × Bool)} {ss : List (Nat × Nat)} {v : Value} {w' : World} (hC : LwC T W0 N0) (hr : RunB (2 * nBits T.vars) lim W0 N ns) (hG : SpG lim T q ns ks ss) (hk : ∀ p ∈ ps, Kn T ns ks p.1 p.2) (hkl : ks.length ≤ c) (hsl : ss.length ≤ c)
    (h : SRes s m lim T q ns ks ss B w F (fun G => W0 G ∨ W G) P v w') (hc : CovW (2 * nBits T.vars) W N1) (hl : N0 + (N + N1) < lim) :
    ∃ x : Nat, v = .tuple #[.int .i64 (x : Nat), .nilIface] ∧ Lw s m lim T q W0 B w F (N + N1) (c + 1) ((x, P) :: ps) w' := by
  obtain ⟨x, e', ns', ss', rfl, h2, h3, h4, h5, h6, h7⟩ := h
  obtain ⟨rfl, hr2⟩ := hr.step hC.cov h2 hc hl
  have hkl2 : (putM ks x true).length ≤ ks.length + 1 := putM_len_le
  refine ⟨x, rfl, ns', _, ss', hr2, h5, fun p hp => ?_, by show (putM ks x true).length ≤ _; omega, by omega, h7⟩
  rcases List.mem_cons.1 hp with rfl | hp
  · exact ⟨getM_put _ _ _, h4 rfl⟩
  · exact ⟨getM_keep (hk p hp).kn, (hk p hp).ok.stp hG.ok h2⟩
theorem lw_union (a b : Nat) (P Q : List Nat → Bool) (hC : LwC T W0 N0) (hB : Lcl B) (h : Lw s m lim T q W0 B w F N c ps w1) (ha : (a, P) ∈ ps) (hb : (b, Q) ∈ ps) (hl : N0 + (N + 2 ^ nBits T.vars) < lim) (hc : c < 100000) :
    Calls Try.prog 15 [.pointer (some ⟨s, 0, none⟩), .int .i64 (a : Nat), .int .i64 (b : Nat)].toArray w1 fun en w' => ∃ v, en = .returned v ∧ ∃ x : Nat, v = .tuple #[.int .i64 (x : Nat), .nilIface] ∧ Lw s m lim T q W0 B w F (N + 2 ^ nBits T.vars) (c + 1) ((x, fun z => P z || Q z) :: ps) w' := by
  obtain ⟨ns, ks, ss, hr, hG, hk, hkl, hsl, hA⟩ := h
  refine (union_spec a b P Q hG hB hA (hk _ ha) (hk _ hb) (by omega) (W := fun G => W0 G ∨ G = setF T.vars fun z => P z || Q z) (.inr rfl)).mono ?_
  rintro en w' ⟨v, rfl, hs⟩
  exact ⟨v, rfl, lw_sres hC hr hG hk hkl hsl hs (cov_x (setF_x _ _)) hl⟩
theorem lw_intersect (a b : Nat) (P Q : List Nat → Bool) (hC : LwC T W0 N0) (hB : Lcl B) (h : Lw s m lim T q W0 B w F N c ps w1) (ha : (a, P) ∈ ps) (hb : (b, Q) ∈ ps) (hl : N0 + (N + 2 ^ nBits T.vars) < lim) (hc : c < 100000) :
    Calls Try.prog 16 [.pointer (some ⟨s, 0, none⟩), .int .i64 (a : Nat), .int .i64 (b : Nat)].toArray w1 fun en w' => ∃ v, en = .returned v ∧ ∃ x : Nat, v = .tuple #[.int .i64 (x : Nat), .nilIface] ∧ Lw s m lim T q W0 B w F (N + 2 ^ nBits T.vars) (c + 1) ((x, fun z => P z && Q z) :: ps) w' := by
  obtain ⟨ns, ks, ss, hr, hG, hk, hkl, hsl, hA⟩ := h
  refine (intersect_spec a b P Q hG hB hA (hk _ ha) (hk _ hb) (by omega) (W := fun G => W0 G ∨ G = setF T.vars fun z => P z && Q z) (.inr rfl)).mono ?_
  rintro en w' ⟨v, rfl, hs⟩
  exact ⟨v, rfl, lw_sres hC hr hG hk hkl hsl hs (cov_x (setF_x _ _)) hl⟩
theorem lw_minus (a b : Nat) (P Q : List Nat → Bool) (hC : LwC T W0 N0) (hB : Lcl B) (h : Lw s m lim T q W0 B w F N c ps w1) (ha : (a, P) ∈ ps) (hb : (b, Q) ∈ ps) (hl : N0 + (N + (2 ^ nBits T.vars + 2 ^ nBits T.vars)) < lim) (hc : c < 100000) :
    Calls Try.prog 13 [.pointer (some ⟨s, 0, none⟩), .int .i64 (a : Nat), .int .i64 (b : Nat)].toArray w1 fun en w' => ∃ v, en = .returned v ∧ ∃ x : Nat, v = .tuple #[.int .i64 (x : Nat), .nilIface] ∧ Lw s m lim T q W0 B w F (N + (2 ^ nBits T.vars + 2 ^ nBits T.vars)) (c + 1) ((x, fun z => P z && !Q z) :: ps) w' := by
  obtain ⟨ns, ks, ss, hr, hG, hk, hkl, hsl, hA⟩ := h
  refine (minus_spec a b P Q hG hB hA (hk _ ha) (hk _ hb) (by omega) (W := fun G => W0 G ∨ ((G = fun a => !setF T.vars Q a) ∨ G = setF T.vars fun z => P z && !Q z)) (.inr (.inl rfl)) (.inr (.inr rfl))).mono ?_
  rintro en w' ⟨v, rfl, hs⟩
  exact ⟨v, rfl, lw_sres hC hr hG hk hkl hsl hs ((cov_x (nsetF_x _ _)).or (cov_x (setF_x _ _))) hl⟩
theorem lw_partial (pv : Value) (p : List Go.Tk.Fc) {N1 : Nat} (hC : LwC T W0 N0) (hB : Lcl B) (h : Lw s m lim T q W0 B w F N c ps w1) (hr : Rds B fun w' => Vw w' pv fcE p) (hp : propF (T.vars.map iN) (p.map faN) = true) (hpo : FcOk T.vars p)
    (hf : CovW (2 * nBits T.vars) (fun G => ∃ j, j < p.length ∧ G = fcB T.vars p j) N1) (hl : N0 + (N + (N1 + 2 ^ nBits T.vars)) < lim) (hc : c < 100000) :
    Calls Try.prog 12 [.pointer (some ⟨s, 0, none⟩), pv].toArray w1 fun en w' => ∃ v, en = .returned v ∧ ∃ x : Nat, v = .tuple #[.int .i64 (x : Nat), .nilIface] ∧ Lw s m lim T q W0 B w F (N + (N1 + 2 ^ nBits T.vars)) (c + 1) ((x, fun z => hdB z p) :: ps) w' := by
  obtain ⟨ns, ks, ss, hrn, hG, hk, hkl, hsl, hA⟩ := h
  refine (partial_spec pv p hG hB hA hr hp hpo (by omega) (W := fun G => W0 G ∨ ((∃ j, j < p.length ∧ G = fcB T.vars p j) ∨ G = setF T.vars fun z => hdB z p)) hC.lit (hC.fc hpo.rng fun j hj => .inl ⟨j, hj, rfl⟩) (.inr (.inr rfl))).mono ?_
  rintro en w' ⟨v, rfl, hs⟩
  exact ⟨v, rfl, lw_sres hC hrn hG hk hkl hsl hs (hf.or (cov_x (setF_x _ _))) hl⟩
theorem cov_facts {p : List Go.Tk.Fc} (hpo : FcOk T.vars p) : CovW (2 * nBits T.vars) (fun G => ∃ j, j < p.length ∧ G = fcB T.vars p j) (p.length * 2 ^ nBits T.vars) := CovW.eachW (fun j G => G = fcB T.vars p j) _ fun j _ => cov_x (fcB_x (fun f hf => (hpo.rng f hf).1) j)
theorem cov_fact (v x : Nat) : CovW (2 * nBits T.vars) (fun G => ∃ j, j < [((v, x) : Go.Tk.Fc)].length ∧ G = fcB T.vars [(v, x)] j) 64 := ((cov_x (fc1_x T.vars v x)).mono (fun _ h => h) (pow_wd _)).mono (fun G ⟨j, hj, e⟩ => by
  have : j = 0 := by simp at hj; omega
  subst this
  exact e) (Nat.le_refl _)
theorem lw_count (a : Nat) (P : List Nat → Bool) (hC : LwC T W0 N0) (hB : Lcl B) (h : Lw s m lim T q W0 B w F N c ps w1) (ha : (a, P) ∈ ps) (hl : N0 + (N + 3 * 2 ^ nBits T.vars) < lim) :
    Calls Try.prog 17 [.pointer (some ⟨s, 0, none⟩), .int .i64 (a : Nat)].toArray w1 fun en w' => ∃ v, en = .returned v ∧ v = cntV (ctN T.vars P) ∧ Lw s m lim T q W0 B w F (N + 3 * 2 ^ nBits T.vars) c ps w' := by
  obtain ⟨ns, ks, ss, hrn, hG, hk, hkl, hsl, hA⟩ := h
  refine (count_spec a P hG hB hA (hk _ ha) (W := fun G => W0 G ∨ G = ctF T.vars P) hC.lit (hC.zb (W := fun G => G = ctF T.vars P)) (.inr rfl)).mono ?_
  rintro en w' ⟨v, rfl, e', ns', rfl, h2, h3, h4⟩
  obtain ⟨rfl, hr2⟩ := hrn.step hC.cov h2 (cov_g (ctF_g _ _)) hl
  exact ⟨_, rfl, by rw [if_neg (by simp), ct_num fun n hn => (hG.g.vars n hn).2], ns', ks, ss, hr2, h3, fun p hp => ⟨(hk p hp).kn, (hk p hp).ok.stp hG.ok h2⟩, hkl, hsl, h4⟩
theorem lw_all (h : Lw s m lim T q W0 B w F N c ps w1) : Calls Try.prog 14 [.pointer (some ⟨s, 0, none⟩)].toArray w1 fun en w' => ∃ v, en = .returned v ∧ v = .int .i64 (q.all : Nat) ∧ Lw s m lim T q W0 B w F N c ps w' := by
  obtain ⟨ns, ks, ss, hrn, hG, hk, hkl, hsl, hA⟩ := h
  refine (all_spec hA).mono ?_
  rintro en w' ⟨v, rfl, rfl, h4⟩
  exact ⟨_, rfl, rfl, ns, ks, ss, hrn, hG, hk, hkl, hsl, h4⟩
theorem Lw.kp0 (hB : Lcl B) (h : Lw s m lim T q W0 B w F N c ps w1) {w2 : World} (k : Kp [] w1 w2) : Lw s m lim T q W0 B w F N c ps w2 := by
  obtain ⟨ns, ks, ss, hrn, hG, hk, hkl, hsl, hA⟩ := h
  exact ⟨ns, ks, ss, hrn, hG, hk, hkl, hsl, At.kp0 (SpcA.lcl hB) hA k⟩
theorem Lw.frame (h : Lw s m lim T q W0 B w F N c ps w1) {P : World → Prop} (hP : Rds B P) : P w1 := by
  obtain ⟨ns, ks, ss, hrn, hG, hk, hkl, hsl, hA⟩ := h
  exact SpcA.frame hA hP
/-- Equal sets are equal numbers. -/
theorem Lw.eq (h : Lw s m lim T q W0 B w F N c ps w1) {x y : Nat} {P Q : List Nat → Bool} (hx : (x, P) ∈ ps) (hy : (y, Q) ∈ ps) (e : ∀ z, StN T.vars z → P z = Q z) : x = y := by
  obtain ⟨ns, ks, ss, hrn, hG, hk, hkl, hsl, hA⟩ := h
  have h1 := (hk _ hx).ok
  have h2 := (hk _ hy).ok
  refine canon hG.ok.wf h1.1 h2.1 fun a => ?_
  rw [h1.2, h2.2]
  cases ho : okB T.vars a with
  | false => rfl
  | true =>
    show (true && P (rs T.vars a 0)) = (true && Q (rs T.vars a 0))
    rw [e _ (okB_iff.1 ho)]
/-- Fewer sets, more nodes. -/
theorem Lw.mono (h : Lw s m lim T q W0 B w F N c ps w1) {N' c' : Nat} {ps' : List Kp2} (hn : N ≤ N') (hc : c ≤ c') (hp : ∀ p ∈ ps', p ∈ ps) : Lw s m lim T q W0 B w F N' c' ps' w1 := by
  obtain ⟨ns, ks, ss, ⟨W, r1, r2⟩, hG, hk, hkl, hsl, hA⟩ := h
  exact ⟨ns, ks, ss, ⟨W, r1, r2.mono (fun _ h => h) hn⟩, hG, fun p h => hk p (hp p h), by omega, by omega, hA⟩
end
end Go.Proofs.Ytcoeknnghfajnaa
namespace Go.Proofs.Ytcoeknnghfajnaa
open Go Go.W Go.Tk Go.Rx Go.Bd Go.Sy Go.Maps
section
variable {w w1 : World} {F : List Nat} {A B : Asr} {s m lim N N0 c : Nat} {T : Nt} {q : SpC} {W0 W : BFn → Prop} {ps : List Kp2}
theorem Lw.less (h : Lw s m lim T q W0 (Star A B) w F N c ps w1) : Lw s m lim T q W0 B w F N c ps w1 := by
  obtain ⟨ns, ks, ss, hrn, hG, hk, hkl, hsl, hA⟩ := h
  exact ⟨ns, ks, ss, hrn, hG, hk, hkl, hsl, SpcA.less hA⟩
theorem Lw.lit {α : Type} {enc : α → List Value} {E sz k : Nat} {xs : List α} {cs : Array Value} (hB : Lcl B) (h : Lw s m lim T q W0 B w F N c ps w1) (hcs : cs.toList = xs.flatMap enc) (he : ∀ x, (enc x).length = sz) (hn : xs.length ≤ maxLen) (hm : k = xs.length) :
    Lw s m lim T q W0 (Star (OwnA (.slice (some ⟨w1.heap.size, 0, none⟩) k k) E sz enc xs) B) w F N c ps (w1.alloc (.cells cs E)) := by
  obtain ⟨ns, ks, ss, hrn, hG, hk, hkl, hsl, hA⟩ := h
  exact ⟨ns, ks, ss, hrn, hG, hk, hkl, hsl, SpcA.into (hA.lit (SpcA.lcl hB) hcs he hn hm)⟩
theorem Lw.drew (hB : Lcl B) (h : Lw s m lim T q W0 B w F N c ps w1) : Lw s m lim T q W0 B w F N c ps w1.drew := by
  obtain ⟨ns, ks, ss, hrn, hG, hk, hkl, hsl, hA⟩ := h
  exact ⟨ns, ks, ss, hrn, hG, hk, hkl, hsl, At.drew (SpcA.lcl hB) hA⟩
end
end Go.Proofs.Ytcoeknnghfajnaa
end
section
set_option maxRecDepth 100000
set_option linter.unusedSimpArgs false
set_option linter.unusedVariables false
namespace Go.Proofs.Ytcoeknnghfajnaa
open Go Go.W Go.Tk Go.Rx Go.Maps
/-- The costs that are given, and those that hold. -/
structure PrI (T : Nt) (gl rl : List Nat) : Prop where
  rlen : rl.length = T.ops.length
  rb : ∀ c ∈ rl, c ≤ 1048576
  gb : ∀ c ∈ gl, c ≤ 1048576
  glen : gl.length = 0 ∨ gl.length = T.ops.length
  eq : ∀ i, i < T.ops.length → cst T (gl.map iN) i = cstL rl i
end Go.Proofs.Ytcoeknnghfajnaa
end
section
set_option maxRecDepth 100000
set_option linter.unusedSimpArgs false
set_option linter.unusedVariables false
namespace Go.Proofs.Ytcoeknnghfajnaa
open Go Go.W Go.Tk Go.Rx Go.Maps
/-- The operators of the example. -/
def IsC (i : Nat) (o : No) : Prop := o.name = ByteArray.empty ∧ o.cost = 2 ∧ o.pre = [(0, i)] ∧ ∃ e : Nf, o.effs = [e] ∧ e.cnd = [] ∧ e.v = 0 ∧ e.x = i + 1 ∧ e.wv.1 = .slice none 0 0
def ChF (vv nv gv : Value) (os : List No) : Asr := Star (VwsA fcE (os.map fun o => (o.pv, o.pre))) (Star (VwsA nfE (os.map fun o => (o.ev, o.effs))) (Star (VwA vv nE [4]) (Star (VwA nv nE [0]) (Star (VwA gv fcE [(0, 3)]) Emp))))
theorem ChF.lcl {vv nv gv : Value} {os : List No} : Lcl (ChF vv nv gv os) := Lcl.vws.star (Lcl.vws.star (Lcl.vw.star (Lcl.vw.star (Lcl.vw.star .emp))))
end Go.Proofs.Ytcoeknnghfajnaa
end
section
set_option maxRecDepth 100000
set_option linter.unusedSimpArgs false
set_option linter.unusedVariables false
namespace Go.Rx
open Go Go.W Go.Tk
def prL : List Nat → Nat
  | [] => 1
  | x :: l => x * prL l
theorem prL_snoc : ∀ (l : List Nat) (x : Nat), prL (l ++ [x]) = prL l * x
  | [], x => by simp [prL]
  | y :: l, x => by simp only [List.cons_append, prL, prL_snoc l x, Nat.mul_assoc]
theorem many_le : ∀ (vars : List Nat) (n : Nat), (∀ v ∈ vars, 1 ≤ v) → manyF 512 n (vars.map iN) ≤ 512 → ∀ k, n * prL (vars.take k) ≤ 512
  | [], n, _, h, k => by simpa [manyF, prL] using h
  | x :: l, n, hx, h, k => by
    have h1 := hx x (by simp)
    simp only [List.map_cons, manyF] at h
    split at h
    · omega
    · rename_i hle
      have e : (iN x).toNat = x := by simp [iN]
      rw [e] at hle h
      have hle : n * min x (512 + 1) ≤ 512 := by omega
      cases k with
      | zero =>
        have := Nat.mul_le_mul_left n (show 1 ≤ min x (512 + 1) by omega)
        simp [prL]; omega
      | succ k =>
        rcases Nat.eq_zero_or_pos n with rfl | hn
        · simp
        have hm : min x (512 + 1) = x := by
          rcases Nat.le_total x 513 with h2 | h2
          · omega
          · have : min x (512 + 1) = 513 := by omega
            rw [this] at hle
            omega
        rw [hm] at h
        have := many_le l (n * x) (fun v hv => hx v (by simp [hv])) h k
        simpa [List.take_succ_cons, prL, Nat.mul_assoc] using this
theorem unsK_len8 {t : Nt} {cost : Nat → Nat} (h : ∀ o ∈ t.ops, o.effs.length ≤ 8) : ∀ n, (unsK t cost n).length ≤ 8 * n
  | 0 => by simp [unsK]
  | n + 1 => by
    have := unsK_len8 (cost := cost) h n
    cases ho : t.ops[n]? with
    | none =>
      unfold unsK at *
      rw [List.range_succ, List.flatMap_append]
      simp [ho] at this ⊢
      omega
    | some o =>
      rw [unsK_succ ho, List.length_append, opU_len]
      have := h o (List.mem_of_getElem? ho)
      omega
/-- A small task. -/
structure SmT (T : Nt) : Prop where
  g : NtG T
  good : goodB T.raw = true
  vl : T.vars.length ≤ 12
  ol : T.ops.length ≤ 20
  el : ∀ o ∈ T.ops, o.effs.length ≤ 8
  pr : ∀ k, prL (T.vars.take k) ≤ 512
  nm : ∀ o ∈ T.ops, o.name.size ≤ 9223372036854775807
theorem small_nat {t : Tk} (hl : TkL t) (h : smallB t = true) : ∃ T : Nt, T.raw = t ∧ SmT T := by
  unfold smallB at h
  simp only [Bool.and_eq_true, decide_eq_true_eq] at h
  obtain ⟨⟨⟨⟨h1, h2⟩, h3⟩, h4⟩, h5⟩ := h
  obtain ⟨T, rfl, hg⟩ := good_nat h4
  rw [List.all_eq_true] at h3
  refine ⟨T, rfl, hg, h4, by simpa [Nt.raw] using h1, by simpa [Nt.raw] using h2, fun o ho => ?_, fun k => ?_, fun o ho => ?_⟩
  · have := h3 o.raw (List.mem_map.2 ⟨o, ho, rfl⟩)
    simpa [No.raw] using this
  · have := many_le T.vars 1 (fun v hv => (hg.vars v hv).1) h5 k
    simpa using this
  · exact (hl.op o.raw (List.mem_map.2 ⟨o, ho, rfl⟩)).1
end Go.Rx
namespace Go.Proofs.Ytcoeknnghfajnaa
open Go Go.W Go.Tk Go.Rx Go.Maps
theorem stsK_len {vars : List Nat} : ∀ k, k ≤ vars.length → (stsK vars k).length = prL (vars.take k)
  | 0, _ => by simp [stsK, prL]
  | k + 1, hk => by
    obtain ⟨n, hn⟩ : ∃ n, vars[k]? = some n := ⟨_, List.getElem?_eq_getElem (by omega)⟩
    have key : ∀ (l : List (List Nat)), (l.flatMap (extS (vars.getD k 0))).length = l.length * vars.getD k 0 := by
      intro l
      induction l with
      | nil => simp
      | cons a l ih => rw [List.flatMap_cons, List.length_append, ih, extS_len, List.length_cons, Nat.add_mul]; omega
    have e : stsK vars (k + 1) = (stsK vars k).flatMap (extS (vars.getD k 0)) := rfl
    rw [take_snoc hn, prL_snoc, ← stsK_len k (by omega), e, key]
    simp [List.getD, hn]
theorem SmT.sm {T : Nt} (h : SmT T) {c : Nat → Nat} (hc : ∀ i, i < T.ops.length → c i ≤ 1048576) : Sm T.vars (uns T c) := {
  un := {
    nod := fun u hu => by
      obtain ⟨i, o, k, e, _, _, _, rfl⟩ := uns_mem hu
      exact dedup_nodup _
    rng := fun u hu n hn => by
      obtain ⟨i, o, k, e, hi, ho, he, rfl⟩ := uns_mem hu
      have hgo := h.g.ops o (List.mem_of_getElem? ho)
      obtain ⟨f, hf, rfl⟩ := List.mem_map.1 (dedup_mem.1 hn)
      rcases List.mem_append.1 hf with h1 | h1
      · obtain ⟨a, b⟩ := hgo.pre.rng f h1; exact numF_lt a b
      · obtain ⟨a, b⟩ := (hgo.cnd e (List.mem_of_getElem? he)).rng f h1; exact numF_lt a b
    made := fun u hu => by
      obtain ⟨i, o, k, e, hi, ho, he, rfl⟩ := uns_mem hu
      obtain ⟨a, b⟩ := (h.g.ops o (List.mem_of_getElem? ho)).eff e (List.mem_of_getElem? he)
      exact numF_lt a b
    cost := fun u hu => by
      obtain ⟨i, o, k, e, hi, ho, he, rfl⟩ := uns_mem hu
      exact hc i hi
    op := fun u hu => by
      obtain ⟨i, o, k, e, hi, ho, he, rfl⟩ := uns_mem hu
      have := h.ol
      show i ≤ 4096
      omega }
  vl := h.vl
  sm := by
    have := sum_le (N := 64) fun n hn => (h.g.vars n hn).2
    have := h.vl
    omega
  ul := by
    have := unsK_len8 (cost := c) h.el T.ops.length
    have := h.ol
    show (unsK T c T.ops.length).length ≤ 160
    omega }
/-- Right costs. -/
structure CsOk (T : Nt) (cs : List Int) : Prop where
  len : cs.length = 0 ∨ cs.length = T.ops.length
  rng : ∀ c ∈ cs, 0 ≤ c ∧ c ≤ 1048576
theorem CsOk.cst {T : Nt} {cs : List Int} (h : CsOk T cs) (hg : NtG T) (i : Nat) (hi : i < T.ops.length) : cst T cs i ≤ 1048576 := by
  unfold Go.Proofs.Ytcoeknnghfajnaa.cst
  split
  · obtain ⟨o, ho⟩ : ∃ o, T.ops[i]? = some o := ⟨_, List.getElem?_eq_getElem hi⟩
    rw [ho]
    exact (hg.ops o (List.mem_of_getElem? ho)).cost
  · rename_i hn
    rcases h.len with h1 | h1
    · exact absurd h1 hn
    have hi2 : i < cs.length := by omega
    have := h.rng cs[i] (List.getElem_mem hi2)
    simp only [List.getD, List.getElem?_eq_getElem hi2, Option.getD_some]
    omega
theorem CsOk.nil {T : Nt} : CsOk T [] := ⟨.inl rfl, by simp⟩
theorem PrI.ok {T : Nt} {gl rl : List Nat} (h : PrI T gl rl) : CsOk T (gl.map iN) := ⟨by simpa using h.glen, fun c hc => by
  obtain ⟨x, hx, rfl⟩ := List.mem_map.1 hc
  have := h.gb x hx
  unfold iN; omega⟩
theorem IsC.opB {i : Nat} {o : No} (h : IsC i o) (hi : i < 3) : opB [4] o.raw = true := by
  obtain ⟨h1, h2, h3, e, h4, h5, h6, h7, h8⟩ := h
  have e1 : o.raw = ⟨ByteArray.empty, 2, o.pv, [(0, (i : Int))], o.ev, [⟨e.wv, [], 0, ((i + 1 : Nat) : Int)⟩]⟩ := by
    unfold No.raw Nf.raw
    rw [h1, h2, h3, h4]
    simp [h5, h6, h7, faN]
  rw [e1]
  have : i = 0 ∨ i = 1 ∨ i = 2 := by omega
  rcases this with rfl | rfl | rfl <;> rfl
end Go.Proofs.Ytcoeknnghfajnaa
end
section
set_option maxRecDepth 100000
set_option linter.unusedSimpArgs false
set_option linter.unusedVariables false
namespace Go.Proofs.Ytcoeknnghfajnaa
open Go Go.W Go.Tk Go.Rx Go.Maps
section
variable {w : World} {b : Nat} {T : Nt} {U : List Un}
end
theorem lone {α : Type} {enc : α → List Value} {v : Value} {l : List α} {X : Asr} (ho : oneC v = true) : Imp (Star (VwA v enc l) X) (Star (VwsA enc [((⟨v, ho⟩, l) : Cell1 × List α)]) X) := by
  rintro w F ⟨Fa, Fb, ⟨h1, e1, h2⟩, h3, hd, rfl⟩
  exact ⟨_, ⟨Fa, Fb, ⟨fun p hp => by simp at hp; subst hp; exact h1, fun x hx => h2 x (by rw [← e1]; exact hx), by simpa using e1⟩, h3, hd, rfl⟩, fun x hx => hx⟩
end Go.Proofs.Ytcoeknnghfajnaa
end
section
set_option maxRecDepth 100000
set_option linter.unusedSimpArgs false
set_option linter.unusedVariables false
namespace Go.Proofs.Ytcoeknnghfajnaa
open Go Go.W Go.Tk Go.Rx Go.Maps
theorem raw_vv (T : Nt) : T.raw.vv = T.vv := rfl
theorem raw_nv (T : Nt) : T.raw.nv = T.nv := rfl
theorem raw_gv (T : Nt) : T.raw.gv = T.gv := rfl
theorem raw_ov (T : Nt) : T.raw.ov = T.ov := rfl
end Go.Proofs.Ytcoeknnghfajnaa
end
section
set_option maxRecDepth 100000
set_option linter.unusedSimpArgs false
set_option linter.unusedVariables false
namespace Go.Proofs.Ytcoeknnghfajnaa
open Go Go.W Go.Tk Go.Rx Go.Maps
/-- The task without an operator. -/
def lessT (T : Nt) (ov : Cell1) (k : Nat) : Nt := { T with ov := ov, ops := T.ops.take k ++ T.ops.drop (k + 1) }
theorem lessT_mem {T : Nt} {ov : Cell1} {k : Nat} {o : No} (h : o ∈ (lessT T ov k).ops) : o ∈ T.ops := by
  rcases List.mem_append.1 h with h | h
  · exact List.mem_of_mem_take h
  · exact List.mem_of_mem_drop h
theorem NtR.less {T : Nt} {ov : Value} {o1 : oneC ov = true} {k : Nat} {w : World} (h : NtR w T) (hv : Vw w ov noE (T.ops.take k ++ T.ops.drop (k + 1))) : NtR w (lessT T ⟨ov, o1⟩ k) :=
  ⟨h.vars, h.init, h.goal, hv, fun o ho => h.op o (lessT_mem ho)⟩
end Go.Proofs.Ytcoeknnghfajnaa
end
section
set_option maxRecDepth 100000
set_option linter.unusedSimpArgs false
set_option linter.unusedVariables false
namespace Go.Proofs.Ytcoeknnghfajnaa
open Go Go.W Go.Tk Go.Rx Go.Maps
theorem sts512 {T : Nt} (hT : SmT T) : (stsK T.vars T.vars.length).length ≤ 512 := by rw [stsK_len _ (Nat.le_refl _)]; exact hT.pr _
end Go.Proofs.Ytcoeknnghfajnaa
end
section
set_option maxRecDepth 100000
set_option linter.unusedSimpArgs false
set_option linter.unusedVariables false
namespace Go.Proofs.Ytcoeknnghfajnaa
open Go Go.W Go.Tk Go.Rx Go.Bd Go.Sy Go.Maps
/-- The memory as it was. -/
def OldA (w0 : World) : Asr := fun w F => F = List.range w0.heap.size ∧ Kp [] w0 w
theorem OldA.lcl {w0 : World} : Lcl (OldA w0) := by
  refine ⟨?_, ?_⟩
  · rintro w F ⟨rfl, k⟩ x hx
    have := List.mem_range.1 hx
    have := k.size
    omega
  · rintro w F G w' ⟨rfl, k⟩ hk hG
    exact ⟨rfl, k.trans' hk fun x hx => by
      by_cases h : x < w0.heap.size
      · exact absurd hx (hG x (List.mem_range.2 h))
      · exact .inr (by omega)⟩
theorem OldA.start (w : World) : At w (List.range w.heap.size) (OldA w) w := At.start ⟨rfl, Kp.refl _ _⟩
theorem OldA.rds {w0 : World} {P : World → Prop} (h : ∀ w', Kp [] w0 w' → P w') : Rds (OldA w0) P := fun w' F hs => h w' hs.2
theorem OldA.kp {w w0 w1 : World} {F : List Nat} (h : At w F (OldA w0) w1) : Kp [] w0 w1 := by
  obtain ⟨⟨F1, h1, _⟩, _⟩ := h
  exact h1.2
def nS (vars : List Nat) : Nat := (stsK vars vars.length).length
theorem many_eq : ∀ (vars : List Nat) (n : Nat), 1 ≤ n → (∀ v ∈ vars, 1 ≤ v) → (∀ k, n * prL (vars.take k) ≤ 512) → manyF 512 n (vars.map iN) = n * prL vars
  | [], n, _, _, _ => by simp [manyF, prL]
  | v :: l, n, hn, hv, h => by
    have h1 := h 1
    simp [prL] at h1
    have hv1 := hv v (by simp)
    have e1 : (iN v).toNat = v := by simp [iN]
    have hm : v ≤ n * v := Nat.le_mul_of_pos_left _ (by omega)
    have e2 : min v (512 + 1) = v := by omega
    simp only [List.map_cons, manyF, e1, e2]
    rw [if_neg (by omega), many_eq l (n * v) (Nat.mul_pos (by omega) (by omega)) (fun u hu => hv u (by simp [hu])) (fun k => by
      have := h (k + 1)
      simpa [prL, Nat.mul_assoc] using this)]
    simp [prL, Nat.mul_assoc]
theorem many_nS {T : Nt} (hT : SmT T) : manyF 512 1 (T.vars.map iN) = nS T.vars := by
  rw [many_eq T.vars 1 (by omega) (fun v hv => (hT.g.vars v hv).1) (fun k => by rw [Nat.one_mul]; exact hT.pr k), Nat.one_mul]
  unfold nS
  rw [stsK_len _ (Nat.le_refl _), List.take_length]
end Go.Proofs.Ytcoeknnghfajnaa
end
