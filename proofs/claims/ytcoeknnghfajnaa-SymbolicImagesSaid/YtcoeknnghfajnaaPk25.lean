/-
  A part of the proof of this claim's statement (SyWK, SyAP, SyAQ, SyCw, SyBA, RxXL, RxYA, RxYB, RxYC, RxYK, SyXA, SyAR): plain theorems; no conditions beyond those each names.
-/
import Derived.Test.YtcoeknnghfajnaaPk24
import Derived.Test.YtcoeknnghfajnaaPk17
import Derived.Test.YtcoeknnghfajnaaPk14
import Derived.Test.YtcoeknnghfajnaaPk13
section
set_option maxRecDepth 100000
set_option linter.unusedSimpArgs false
set_option linter.unusedVariables false
namespace Go.Proofs.Ytcoeknnghfajnaa
open Go Go.W Go.Tk Go.Rx Go.Bd Go.Sy Go.Maps
theorem getM_put {κ α : Type} [DecidableEq κ] : ∀ (l : List (κ × α)) (x : κ) (v : α), getM (putM l x v) x = some v := by
  intro l x v
  unfold getM putM
  split
  · rename_i h
    rw [List.any_eq_true] at h
    induction l with
    | nil => obtain ⟨p, hp, _⟩ := h; cases hp
    | cons p l ih =>
      by_cases e : p.1 = x
      · simp [e]
      · simp only [List.map_cons, e, if_false, List.find?_cons, decide_false]
        refine ih ?_
        obtain ⟨q, hq, hq2⟩ := h
        rcases List.mem_cons.1 hq with rfl | hq
        · exact absurd (of_decide_eq_true hq2) e
        · exact ⟨q, hq, hq2⟩
  · rename_i h
    rw [List.find?_append]
    have : l.find? (fun p => decide (p.1 = x)) = none := by
      rw [List.find?_eq_none]
      intro p hp hc
      exact h (List.any_eq_true.2 ⟨p, hp, hc⟩)
    rw [this]
    simp
theorem getM_put_ne {κ α : Type} [DecidableEq κ] {l : List (κ × α)} {x y : κ} {v : α} (h : x ≠ y) : getM (putM l x v) y = getM l y := by
  unfold getM putM
  split
  · rename_i hh
    clear hh
    induction l with
    | nil => rfl
    | cons p l ih =>
      by_cases e : p.1 = x
      · have : ¬ p.1 = y := fun e2 => h (by rw [← e, e2])
        simp only [List.map_cons, e, if_true, List.find?_cons, h, decide_false, this]
        exact ih
      · by_cases e2 : p.1 = y
        · have hyx : ¬ y = x := fun e => h e.symm
          simp [List.map_cons, e2, hyx]
        · simp only [List.map_cons, e, if_false, List.find?_cons, e2, decide_false]
          exact ih
  · rw [List.find?_append]
    cases l.find? (fun p => decide (p.1 = y)) with
    | some p => rfl
    | none => simp [h]
section
variable {w w1 : World} {F : List Nat} {B : Asr} {s m lim : Nat} {T : Nt} {q : SpC} {ns : Ns} {ks : List (Nat × Bool)} {ss : List (Nat × Nat)}
theorem all_spec (h : At w F (SpcA s m lim T q ns ks ss B) w1) : Calls Try.prog 14 [.pointer (some ⟨s, 0, none⟩)].toArray w1 fun en w' => ∃ v, en = .returned v ∧ v = .int .i64 (q.all : Nat) ∧ At w F (SpcA s m lim T q ns ks ss B) w' := by
  refine enter Try.func14 mixed low14 (Nat.le_of_ble_eq_true rfl) ?_
  simp only [L14]
  have os := SpcA.obj h
  unfold spO at os
  simp [cell_blk os]
  exact h
theorem SpG.six {n : Nat} (h : n < many) : cntV n = .tuple #[.int .i64 (n : Nat), .nilIface] := by
  unfold cntV
  rw [if_pos h]
  rfl
theorem SRes.ok {W : BFn → Prop} {N N1 : Nat} {P : List Nat → Bool} {v : Value} {w' : World} (h : SRes s m lim T q ns ks ss B w F W P v w') (hr : Run (2 * nBits T.vars) lim N ns) (hc : CovW (2 * nBits T.vars) W N1) (hl : N + N1 < lim) :
    ∃ x ns' ss', v = .tuple #[.int .i64 (x : Nat), .nilIface] ∧ Run (2 * nBits T.vars) lim (N + N1) ns' ∧ Stp (2 * nBits T.vars) lim W false ns false ns' ∧ Kn T ns' (putM ks x true) x P ∧ SpG lim T q ns' (putM ks x true) ss' ∧ ss'.length ≤ ss.length + 1 ∧ At w F (SpcA s m lim T q ns' (putM ks x true) ss' B) w' := by
  obtain ⟨x, e', ns', ss', rfl, h2, h3, h4, h5, h6, h7⟩ := h
  obtain ⟨rfl, hr2⟩ := hr.step h2 hc hl
  exact ⟨x, ns', ss', rfl, hr2, h2, ⟨getM_put _ _ _, h4 rfl⟩, h5, h6, h7⟩
theorem CRes.ok {W : BFn → Prop} {N N1 : Nat} {P : List Nat → Bool} {v : Value} {w' : World} (h : CRes s m lim T q ns ks ss B w F W P v w') (hr : Run (2 * nBits T.vars) lim N ns) (hc : CovW (2 * nBits T.vars) W N1) (hl : N + N1 < lim) (hg : NtG T) :
    ∃ ns', v = cntV (ctN T.vars P) ∧ Run (2 * nBits T.vars) lim (N + N1) ns' ∧ Stp (2 * nBits T.vars) lim W false ns false ns' ∧ SpG lim T q ns' ks ss ∧ At w F (SpcA s m lim T q ns' ks ss B) w' := by
  obtain ⟨e', ns', rfl, h2, h3, h4⟩ := h
  obtain ⟨rfl, hr2⟩ := hr.step h2 hc hl
  exact ⟨ns', by rw [if_neg (by simp), ct_num fun n hn => (hg.vars n hn).2], hr2, h2, h3, h4⟩
end
set_option maxHeartbeats 4000000 in
theorem awake_spec {w w1 : World} {F : List Nat} {B : Asr} (hB : Lcl B) (h : At w F B w1) : Calls Try.prog 9 [].toArray w1 fun en w' => ∃ v, en = .returned v ∧ v = .bool true ∧ At w F B w' := by
  refine enter Try.func9 mixed low9 (Nat.le_of_ble_eq_true rfl) ?_
  simp only [L9]
  simp
  refine cl_of (example_spec hB h) ?_
  rintro _ w2 ⟨vv, nv, ov, pv, ev, wv, rfl, h2⟩
  obtain ⟨T0, hT0⟩ : ∃ T0, T0 = exT vv nv ov pv ev wv := ⟨_, rfl⟩
  have hg0 : NtG T0 := by rw [hT0]; exact exT_g
  have hgd0 : goodB T0.raw = true := by rw [hT0]; exact exT_good
  have hl0 : TkL T0.raw := hg0.lens (by rw [hT0]; simp [exT, exO])
  have ho0 : T0.ops[0]? = some (exO pv ev wv) := by rw [hT0]; rfl
  have hv0 : T0.vars = [2, 3] := by rw [hT0]; rfl
  rw [← hT0] at h2 ⊢
  have hnb : nBits [2, 3] = 3 := rfl
  have hL2 : Lcl (Star (TskA T0) B) := TskA.lcl.star hB
  have hC : ∀ G : BFn, CovW 6 (fun K => K = G) 64 := fun G => cov_any G
  have hN0 : CovW (2 * nBits T0.vars) (NewS T0) 58752 := by
    have hn6 : 2 * nBits T0.vars = 6 := by rw [hv0]; rfl
    have := covNew (n := 2 * nBits T0.vars) (C := 64) (by rw [hn6]; exact hC) T0 (fun n hn => (hg0.vars n hn).2)
    refine this.mono (fun _ h => h) ?_
    rw [hn6, hv0]
    simp
  simp
  refine cl_of (snew_spec T0 1048576 hL2 h2 TskA.rd hg0 hgd0 hl0 (by omega) (by omega) (newW (W := NewS T0) fun G h => h)) ?_
  rintro _ w3 hn
  rcases hn with ⟨hbig, _⟩ | ⟨_, e3, ns3, hs3, hn⟩
  · rw [hv0, hnb] at hbig
    omega
  obtain ⟨he3, r3⟩ := (Run.start _ _).step hs3 hN0 (by omega)
  subst he3
  rcases hn with ⟨h, _⟩ | ⟨_, s, m, T, q, hA, rfl, hG3, h3⟩
  · cases h
  have hv : T.vars = [2, 3] := by rw [hA.vars, hv0]
  have r3 : Run (2 * nBits T.vars) 1048576 (0 + 58752) ns3 := by rw [hA.vars]; exact r3
  have hn6 : 2 * nBits T.vars = 6 := by rw [hv]; rfl
  have hC' : ∀ G : BFn, CovW (2 * nBits T.vars) (fun K => K = G) 64 := by rw [hn6]; exact hC
  have hct : ∀ P, CovW (2 * nBits T.vars) (CtS T P) 1024 := fun P => (covCt hC' T P).mono (fun _ h => h) (by rw [hn6, show nBits T.vars = 3 by rw [hv]; rfl]; simp)
  have k3 : Kn T ns3 (putM [(0, true)] q.all true) q.all (fun _ => true) := ⟨getM_put _ _ _, hG3.all⟩
  simp
  refine cl_of (all_spec h3) ?_
  rintro _ w4 ⟨rfl, h4⟩
  simp
  have hctW : ∀ P, LitW T.vars (CtS T P) ∧ (∀ j, j < nBits T.vars → CtS T P (zB (nBits T.vars) j)) ∧ CtS T P (ctF T.vars P) := fun P => ⟨litW fun G h => .inl h, fun j hj => .inr (.inl ⟨j, hj, rfl⟩), .inr (.inr rfl)⟩
  refine cl_of (count_spec q.all (fun _ => true) hG3 hL2 h4 k3 (hctW _).1 (hctW _).2.1 (hctW _).2.2) ?_
  rintro v5 w5 hc
  obtain ⟨ns5, rfl, r5, hs5, hG5, h5⟩ := hc.ok r3 (hct _) (by omega) hG3.g
  have e6 : ctN T.vars (fun _ => true) = 6 := by rw [hv]; rfl
  rw [e6, SpG.six (by decide)]
  simp
  have hk3 := hG3.ok
  have k5 : Kn T ns5 (putM [(0, true)] q.all true) q.all (fun _ => true) := ⟨k3.kn, k3.ok.stp hk3 hs5⟩
  obtain ⟨o, ho, op, oa, oe⟩ := hA.sk ho0
  have hpl : o.pre.length = 1 := by rw [op]; rfl
  have hel : o.effs.length = 2 := by rw [oe]; rfl
  have hog := hG3.g.ops o (List.mem_of_getElem? ho)
  have hvl2 : T.vars.length = 2 := by rw [hv]; rfl
  have hR : CovW (2 * nBits T.vars) (RelS T o) 11584 := (covRel hC' T o (V := 2) (by omega) (by omega) (fun x hx => by have := (hog.cnd x hx).len; omega)).mono (fun _ h => h) (by rw [hn6, hel]; omega)
  have hI : CovW (2 * nBits T.vars) (ImgS T o fun _ => true) 28032 := (covImg T o _ hC' hR).mono (fun _ h => h) (by rw [hn6]; simp)
  refine cl_of (all_spec h5) ?_
  rintro _ w6 ⟨rfl, h6⟩
  simp
  refine cl_of (image_spec q.all 0 o (fun _ => true) hG5 hL2 h6 k5 ho (by have : (putM [(0, true)] q.all true).length ≤ 1 + 1 := putM_len_le; omega) (by simp) (imgW (W := ImgS T o fun _ => true) fun G h => h)) ?_
  rintro v7 w7 hs
  obtain ⟨x, ns7, ss7, rfl, r7, hs7, k7, hG7, hl7, h7⟩ := hs.ok r5 hI (by omega)
  simp
  refine cl_of (count_spec x _ hG7 hL2 h7 k7 (hctW _).1 (hctW _).2.1 (hctW _).2.2) ?_
  rintro v8 w8 hc
  obtain ⟨ns8, rfl, r8, hs8, hG8, h8⟩ := hc.ok r7 (hct _) (by omega) hG7.g
  have hP : imgP T o (fun _ => true) = imgP T0 (exO pv ev wv) (fun _ => true) := imgP_alk hA op oa _
  have e8 : ctN T.vars (imgP T o fun _ => true) = 2 := by rw [hP, hv, hT0]; rfl
  rw [e8, SpG.six (by decide)]
  have k8 : Kn T ns8 (putM (putM [(0, true)] q.all true) x true) x (imgP T o fun _ => true) := ⟨k7.kn, k7.ok.stp hG7.ok hs8⟩
  simp [rowOf]
  have h9 := h8.lit (xs := [1, 2]) (enc := nE) (E := 3) (sz := 1) (cs := #[.int .i64 1, .int .i64 2]) (m := 2) (SpcA.lcl hL2) (by simp [nE]) nE_len (by simp [maxLen]) rfl
  have h10 := SpcA.into h9
  refine cl_of (has_spec x _ [1, 2] _ hG8 (Lcl.own.star hL2) h10 k8 Rds.own ?_) ?_
  · rw [hv]
    exact ⟨rfl, fun v hv => by have : v = 0 ∨ v = 1 := by simp at hv; omega
                               rcases this with rfl | rfl <;> decide⟩
  rintro _ w11 ⟨rfl, h11⟩
  have e11 : imgP T o (fun _ => true) [1, 2] = true := by rw [hP, hT0]; rfl
  rw [e11]
  simp
  have h12 := SpcA.less h11
  unfold SpcA at h12
  exact h12.drop.drop.drop.drop.drop.drop.drop.drop
end Go.Proofs.Ytcoeknnghfajnaa
end
section
set_option maxRecDepth 100000
set_option linter.unusedSimpArgs false
set_option linter.unusedVariables false
namespace Go.Proofs.Ytcoeknnghfajnaa
open Go Go.W Go.Tk Go.Rx Go.Bd Go.Sy Go.Maps
theorem allc_congr {α : Type} {l : List α} {f g : α → Bool} (h : ∀ x ∈ l, f x = g x) : l.all f = l.all g := by
  induction l with
  | nil => rfl
  | cons x l ih => rw [List.all_cons, List.all_cons, h x (by simp), ih fun y hy => h y (by simp [hy])]
theorem rv_x {vars : List Nat} {a b : Nat → Bool} {v : Nat} (h : ∀ p, bP vars v ≤ p → p < bP vars v + wd (vars.getD v 0) → a (2 * p) = b (2 * p)) : rv vars a 0 v = rv vars b 0 v := valK_congr _ fun k hk => by
  have := h (bP vars v + k) (by omega) (by omega)
  simpa using this
theorem rs_x {vars : List Nat} {a b : Nat → Bool} (h : ∀ p, 0 ≤ p → p < 0 + nBits vars → a (2 * p) = b (2 * p)) : rs vars a 0 = rs vars b 0 := rs_congr fun p hp => by
  have := h p (Nat.zero_le _) (by omega)
  simpa using this
theorem setF_x (vars : List Nat) (P : List Nat → Bool) : XIn 0 (nBits vars) (setF vars P) := fun a b h => by
  unfold setF
  rw [rs_x h, okB_congr (rs_x h)]
theorem nsetF_x (vars : List Nat) (P : List Nat → Bool) : XIn 0 (nBits vars) fun a => !setF vars P a := fun a b h => congrArg (fun x => !x) (setF_x vars P a b h)
theorem thr_x (vars : List Nat) (v x : Nat) : XIn (bP vars v) (wd (vars.getD v 0)) fun a => decide (rv vars a 0 v < x + 1) := fun a b h => congrArg (fun y => decide (y < x + 1)) (rv_x h)
def BasS (T : Nt) (G : BFn) : Prop := NewS T G ∨ ∃ j, j < nBits T.vars ∧ G = zB (nBits T.vars) j
def nb (T : Nt) : Nat := 2 * nBits T.vars * (2 * nBits T.vars + 2 * nBits T.vars) + (((List.range T.vars.length).map fun v => T.vars.getD v 0 * 448).sum + T.vars.length * 2 ^ nBits T.vars) + nBits T.vars * (2 * nBits T.vars)
theorem pow_wd (n : Nat) : 2 ^ wd n ≤ 64 := by
  have : 2 ^ wd n ≤ 2 ^ 6 := Nat.pow_le_pow_right (by omega) (wd_le n)
  omega
end Go.Proofs.Ytcoeknnghfajnaa
end
section
set_option maxRecDepth 100000
set_option linter.unusedSimpArgs false
set_option linter.unusedVariables false
namespace Go.Proofs.Ytcoeknnghfajnaa
open Go Go.W Go.Tk Go.Rx Go.Bd Go.Sy Go.Maps
abbrev Kp2 := Nat × (List Nat → Bool)
section
variable {w w1 : World} {F : List Nat} {B : Asr} {s m lim N N0 c : Nat} {T : Nt} {q : SpC} {W0 W : BFn → Prop} {ps : List Kp2}
theorem getM_keep {ks : List (Nat × Bool)} {x z : Nat} (h : getM ks z = some true) : getM (putM ks x true) z = some true := by
  by_cases e : x = z
  · subst e; exact getM_put _ _ _
  · rw [getM_put_ne e]; exact h
end
end Go.Proofs.Ytcoeknnghfajnaa
namespace Go.Proofs.Ytcoeknnghfajnaa
open Go Go.W Go.Tk Go.Rx Go.Bd Go.Sy Go.Maps
section
variable {w w1 : World} {F : List Nat} {A B : Asr} {s m lim N N0 c : Nat} {T : Nt} {q : SpC} {W0 W : BFn → Prop} {ps : List Kp2}
end
end Go.Proofs.Ytcoeknnghfajnaa
end
section
set_option linter.unusedVariables false
set_option linter.unusedSimpArgs false
namespace Go.Sy
open Go.Bd
/-- It depends on some variables that follow each other. -/
def IvIn (s w : Nat) (G : BFn) : Prop := ∀ a b : Nat → Bool, (∀ i, s ≤ i → i < s + w → a i = b i) → G a = G b
theorem cov_iv {n s w N : Nat} {G : BFn} (h : IvIn s w G) (hN : 2 ^ w ≤ N + 1) : CovW n (fun K => K = G) N := by
  refine ⟨(List.range w).flatMap fun k => (List.range (2 ^ k)).map fun p => fun b => G (pfx (fun i => p.testBit (k - 1 - (i - s))) (s + k) b), by have := len_pats (fun k p => fun b => G (pfx (fun i => p.testBit (k - 1 - (i - s))) (s + k) b)) w; omega, ?_⟩
  rintro _ rfl t a ht ⟨b, hb⟩
  have hin : ∃ k, k < w ∧ t = s + k := by
    apply Classical.byContradiction
    intro hn
    apply hb
    refine h _ _ fun p h1 h2 => ?_
    unfold pfx
    by_cases h3 : p < t
    · rw [if_pos h3, if_pos h3]
    · rw [if_neg h3, if_neg h3]
      by_cases h4 : p = t
      · exact absurd ⟨p - s, by omega, by omega⟩ hn
      · rw [upd_ne h4, upd_ne h4]
  obtain ⟨k, hk, rfl⟩ := hin
  obtain ⟨p, hp, hbits⟩ := bits_of (fun i => a (s + i)) k
  refine List.mem_flatMap.2 ⟨k, List.mem_range.2 hk, List.mem_map.2 ⟨p, List.mem_range.2 hp, funext fun c => h _ _ fun q h1 h2 => ?_⟩⟩
  simp only [pfx]
  by_cases h3 : q < s + k
  · rw [if_pos h3, if_pos h3]
    have := hbits (q - s) (by omega)
    rw [show s + (q - s) = q by omega] at this
    exact this.symm
  · rw [if_neg h3, if_neg h3]
/-- A conjunction of a function of the variables before one and a function of the others. -/
theorem cov_and2 {n s NB NR : Nat} {B R : BFn} (hB : ∀ a b : Nat → Bool, (∀ i, i < s → a i = b i) → B a = B b) (hR : ∀ a b : Nat → Bool, (∀ i, s ≤ i → a i = b i) → R a = R b)
    (cB : CovW n (fun K => K = B) NB) (cR : CovW n (fun K => K = R) NR) : CovW n (fun K => K = fun a => B a && R a) (NB + NR) := by
  obtain ⟨LB, b1, b2⟩ := cB
  obtain ⟨LR, r1, r2⟩ := cR
  refine ⟨LB.map (fun K b => K b && R b) ++ LR, by rw [List.length_append, List.length_map]; omega, ?_⟩
  rintro _ rfl t a ht hd
  by_cases hts : t < s
  · have eR : ∀ b, R (pfx a t b) = R b := fun b => hR _ _ fun i hi => by unfold pfx; rw [if_neg (by omega)]
    refine List.mem_append_left _ (List.mem_map.2 ⟨fun b => B (pfx a t b), b2 B rfl t a ht ?_, funext fun b => by
      show (B (pfx a t b) && R b) = (B (pfx a t b) && R (pfx a t b))
      rw [eR]⟩)
    obtain ⟨b, hb⟩ := hd
    refine ⟨b, fun e => hb ?_⟩
    have e : B (pfx a t (upd b t true)) = B (pfx a t (upd b t false)) := e
    show (B (pfx a t (upd b t true)) && R (pfx a t (upd b t true))) = (B (pfx a t (upd b t false)) && R (pfx a t (upd b t false)))
    rw [e, eR, eR, hR (upd b t true) (upd b t false) fun i hi => by rw [upd_ne (by omega), upd_ne (by omega)]]
  · have eB : ∀ b, B (pfx a t b) = B a := fun b => hB _ _ fun i hi => by unfold pfx; rw [if_pos (by omega)]
    cases hBa : B a with
    | false =>
      obtain ⟨b, hb⟩ := hd
      exfalso
      apply hb
      show (B (pfx a t (upd b t true)) && R (pfx a t (upd b t true))) = (B (pfx a t (upd b t false)) && R (pfx a t (upd b t false)))
      rw [eB, eB, hBa]
      rfl
    | true =>
      have e : (fun b => B (pfx a t b) && R (pfx a t b)) = fun b => R (pfx a t b) := funext fun b => by rw [eB, hBa]; rfl
      rw [e] at hd ⊢
      exact List.mem_append_right _ (r2 R rfl t a ht hd)
theorem cov_const {n : Nat} (c : Bool) : CovW n (fun K => K = fun _ => c) 0 := ⟨[], Nat.le_refl _, by
  rintro _ rfl t a ht ⟨b, hb⟩
  exact absurd rfl hb⟩
theorem CovW.list {n N : Nat} {α : Type} (P : α → BFn → Prop) : ∀ l : List α, (∀ x ∈ l, CovW n (P x) N) → CovW n (fun G => ∃ x ∈ l, P x G) (l.length * N)
  | [], _ => (CovW.none n).mono (fun G ⟨x, h, _⟩ => by cases h) (Nat.zero_le _)
  | x :: l, h => ((h x (by simp)).or (CovW.list P l fun y hy => h y (by simp [hy]))).mono (fun G ⟨y, hy, e⟩ => by
      rcases List.mem_cons.1 hy with rfl | hy
      · exact .inl e
      · exact .inr ⟨y, hy, e⟩) (by rw [List.length_cons, Nat.succ_mul, Nat.add_comm]; exact Nat.le_refl _)
/-- A conjunction over pairs of variables. -/
def pairB (b : Nat) (D : Nat → Bool → Bool → Bool) (a : Nat → Bool) : Bool := (List.range b).all fun p => D p (a (2 * p)) (a (2 * p + 1))
theorem pairB_iff {b : Nat} {D : Nat → Bool → Bool → Bool} {a : Nat → Bool} : pairB b D a = true ↔ ∀ p, p < b → D p (a (2 * p)) (a (2 * p + 1)) = true := by
  unfold pairB
  rw [List.all_eq_true]
  exact ⟨fun h p hp => h p (List.mem_range.2 hp), fun h p hp => h p (List.mem_range.1 hp)⟩
def PairF (b : Nat) (G : BFn) : Prop := ∃ c D, ∀ a, G a = (c && pairB b D a)
theorem cov_pair {n : Nat} (D : Nat → Bool → Bool → Bool) : ∀ b, CovW n (fun K => K = pairB b D) (3 * b)
  | 0 => (cov_const true).mono (fun K h => h) (Nat.le_refl _)
  | b + 1 => by
    have e : pairB (b + 1) D = fun a => pairB b D a && D b (a (2 * b)) (a (2 * b + 1)) := funext fun a => by
      unfold pairB
      rw [List.range_succ, List.all_append]
      simp
    rw [e]
    refine (cov_and2 (s := 2 * b) (NR := 3) ?_ ?_ (cov_pair D b) (cov_iv (s := 2 * b) (w := 2) ?_ (by omega))).mono (fun _ h => h) (by omega)
    · intro a c h
      rw [Bool.eq_iff_iff, pairB_iff, pairB_iff]
      constructor <;> intro h2 p hp <;> have := h2 p hp
      · rwa [h _ (by omega), h _ (by omega)] at this
      · rwa [← h _ (by omega), ← h _ (by omega)] at this
    · intro a c h
      rw [h _ (by omega), h _ (by omega)]
    · intro a c h
      show D b (a (2 * b)) (a (2 * b + 1)) = D b (c (2 * b)) (c (2 * b + 1))
      rw [h _ (by omega) (by omega), h _ (by omega) (by omega)]
theorem PairF.cov {n b : Nat} {G : BFn} (h : PairF b G) : CovW n (fun K => K = G) (3 * b) := by
  obtain ⟨c, D, h⟩ := h
  have e : G = fun a => c && pairB b D a := funext h
  rw [e]
  cases c with
  | false => exact (cov_const false).mono (fun _ h => h) (Nat.zero_le _)
  | true => exact cov_pair D b
theorem PairF.const (b : Nat) (c : Bool) : PairF b fun _ => c := ⟨c, fun _ _ _ => true, fun a => by
  have : pairB b (fun _ _ _ => true) a = true := pairB_iff.2 fun _ _ => rfl
  rw [this, Bool.and_true]⟩
theorem PairF.and {b : Nat} {G H : BFn} (h1 : PairF b G) (h2 : PairF b H) : PairF b fun a => G a && H a := by
  obtain ⟨c1, D1, e1⟩ := h1
  obtain ⟨c2, D2, e2⟩ := h2
  refine ⟨c1 && c2, fun p x y => D1 p x y && D2 p x y, fun a => ?_⟩
  show (G a && H a) = _
  rw [e1, e2, Bool.eq_iff_iff]
  simp only [Bool.and_eq_true, pairB_iff]
  exact ⟨fun ⟨⟨p1, p2⟩, q1, q2⟩ => ⟨⟨p1, q1⟩, fun p hp => ⟨p2 p hp, q2 p hp⟩⟩, fun ⟨⟨p1, q1⟩, h⟩ => ⟨⟨p1, fun p hp => (h p hp).1⟩, q1, fun p hp => (h p hp).2⟩⟩
theorem PairF.all {b : Nat} {α : Type} (f : α → BFn) : ∀ l : List α, (∀ x ∈ l, PairF b (f x)) → PairF b fun a => l.all fun x => f x a
  | [], _ => by simpa using PairF.const b true
  | x :: l, h => by
    have := (h x (by simp)).and (PairF.all f l fun y hy => h y (by simp [hy]))
    simpa using this
/-- A function of one pair. -/
theorem PairF.one {b p : Nat} (hp : p < b) (f : Bool → Bool → Bool) : PairF b fun a => f (a (2 * p)) (a (2 * p + 1)) := by
  refine ⟨true, fun q x y => decide (q ≠ p) || f x y, fun a => ?_⟩
  rw [Bool.true_and, Bool.eq_iff_iff, pairB_iff]
  constructor
  · intro h q hq
    by_cases e : q = p
    · subst e; simp [h]
    · simp [e]
  · intro h
    simpa using h p hp
end Go.Sy
namespace Go.Sy
open Go.Bd
/-- A conjunction over some pairs of variables that follow each other. -/
def PairL (s w : Nat) (G : BFn) : Prop := ∃ (c : Bool) (D : Nat → Bool → Bool → Bool), ∀ a, G a = (c && (List.range w).all fun p => D p (a (2 * (s + p))) (a (2 * (s + p) + 1)))
theorem rangeAll {w : Nat} {f : Nat → Bool} : ((List.range w).all f) = true ↔ ∀ p, p < w → f p = true := by
  rw [List.all_eq_true]
  exact ⟨fun h p hp => h p (List.mem_range.2 hp), fun h p hp => h p (List.mem_range.1 hp)⟩
theorem PairL.eq {s w : Nat} {G H : BFn} (h : PairL s w G) (e : ∀ a, H a = G a) : PairL s w H := by
  obtain ⟨c, D, h⟩ := h
  exact ⟨c, D, fun a => by rw [e, h]⟩
theorem PairL.const (s w : Nat) (c : Bool) : PairL s w fun _ => c := ⟨c, fun _ _ _ => true, fun a => by
  have : ((List.range w).all fun p => true) = true := rangeAll.2 fun _ _ => rfl
  rw [this, Bool.and_true]⟩
theorem PairL.and {s w : Nat} {G H : BFn} (h1 : PairL s w G) (h2 : PairL s w H) : PairL s w fun a => G a && H a := by
  obtain ⟨c1, D1, e1⟩ := h1
  obtain ⟨c2, D2, e2⟩ := h2
  refine ⟨c1 && c2, fun p x y => D1 p x y && D2 p x y, fun a => ?_⟩
  show (G a && H a) = _
  rw [e1, e2, Bool.eq_iff_iff]
  simp only [Bool.and_eq_true, rangeAll]
  exact ⟨fun ⟨⟨p1, p2⟩, q1, q2⟩ => ⟨⟨p1, q1⟩, fun p hp => ⟨p2 p hp, q2 p hp⟩⟩, fun ⟨⟨p1, q1⟩, h⟩ => ⟨⟨p1, fun p hp => (h p hp).1⟩, q1, fun p hp => (h p hp).2⟩⟩
theorem PairL.all {s w : Nat} {α : Type} (f : α → BFn) : ∀ l : List α, (∀ x ∈ l, PairL s w (f x)) → PairL s w fun a => l.all fun x => f x a
  | [], _ => by simpa using PairL.const s w true
  | x :: l, h => by
    have := (h x (by simp)).and (PairL.all f l fun y hy => h y (by simp [hy]))
    simpa using this
theorem PairL.one {s w p : Nat} (hp : p < w) (f : Bool → Bool → Bool) : PairL s w fun a => f (a (2 * (s + p))) (a (2 * (s + p) + 1)) := by
  refine ⟨true, fun q x y => decide (q ≠ p) || f x y, fun a => ?_⟩
  rw [Bool.true_and, Bool.eq_iff_iff, rangeAll]
  constructor
  · intro h q hq
    by_cases e : q = p
    · subst e; simp [h]
    · simp [e]
  · intro h
    simpa using h p hp
theorem PairL.cov {n s w : Nat} {G : BFn} (h : PairL s w G) : CovW n (fun K => K = G) (3 * w) := by
  obtain ⟨c, D, h⟩ := h
  have e : G = fun a => c && (List.range w).all fun p => D p (a (2 * (s + p))) (a (2 * (s + p) + 1)) := funext h
  rw [e]
  cases c with
  | false => exact (cov_const false).mono (fun _ h => h) (Nat.zero_le _)
  | true =>
    clear e h
    show CovW n (fun K => K = fun a => (List.range w).all fun p => D p (a (2 * (s + p))) (a (2 * (s + p) + 1))) (3 * w)
    induction w with
    | zero => exact (cov_const true).mono (fun K h => h) (Nat.le_refl _)
    | succ w ih =>
      have e : (fun a : Nat → Bool => (List.range (w + 1)).all fun p => D p (a (2 * (s + p))) (a (2 * (s + p) + 1))) = fun a => ((List.range w).all fun p => D p (a (2 * (s + p))) (a (2 * (s + p) + 1))) && D w (a (2 * (s + w))) (a (2 * (s + w) + 1)) := funext fun a => by
        rw [List.range_succ, List.all_append]
        simp
      rw [e]
      refine (cov_and2 (s := 2 * (s + w)) (B := fun a => (List.range w).all fun p => D p (a (2 * (s + p))) (a (2 * (s + p) + 1))) (R := fun a => D w (a (2 * (s + w))) (a (2 * (s + w) + 1))) (NR := 3) ?_ ?_ ih (cov_iv (s := 2 * (s + w)) (w := 2) ?_ (by omega))).mono (fun _ h => h) (by omega)
      · intro a c h
        show ((List.range w).all fun p => D p (a (2 * (s + p))) (a (2 * (s + p) + 1))) = ((List.range w).all fun p => D p (c (2 * (s + p))) (c (2 * (s + p) + 1)))
        rw [Bool.eq_iff_iff, rangeAll, rangeAll]
        constructor <;> intro h2 p hp <;> have := h2 p hp
        · rwa [h _ (by omega), h _ (by omega)] at this
        · rwa [← h _ (by omega), ← h _ (by omega)] at this
      · intro a c h
        show D w (a (2 * (s + w))) (a (2 * (s + w) + 1)) = D w (c (2 * (s + w))) (c (2 * (s + w) + 1))
        rw [h _ (by omega), h _ (by omega)]
      · intro a c h
        show D w (a (2 * (s + w))) (a (2 * (s + w) + 1)) = D w (c (2 * (s + w))) (c (2 * (s + w) + 1))
        rw [h _ (by omega) (by omega), h _ (by omega) (by omega)]
theorem PairL.pair {s w b : Nat} {G : BFn} (h : PairL s w G) (hb : s + w ≤ b) : PairF b G := by
  obtain ⟨c, D, h⟩ := h
  refine ⟨c, fun p x y => decide (p < s) || decide (s + w ≤ p) || D (p - s) x y, fun a => ?_⟩
  rw [h, Bool.eq_iff_iff, Bool.and_eq_true, Bool.and_eq_true, rangeAll, pairB_iff]
  constructor
  · rintro ⟨h1, h2⟩
    refine ⟨h1, fun p hp => ?_⟩
    by_cases e1 : p < s
    · simp [e1]
    by_cases e2 : s + w ≤ p
    · simp [e2]
    have := h2 (p - s) (by omega)
    rw [show s + (p - s) = p by omega] at this
    simp [this]
  · rintro ⟨h1, h2⟩
    refine ⟨h1, fun p hp => ?_⟩
    have := h2 (s + p) (by omega)
    simpa [show ¬ s + p < s by omega, show ¬ s + w ≤ s + p by omega, show s + p - s = p by omega] using this
/-- So many functions. -/
def FinW (W : BFn → Prop) (N : Nat) : Prop := ∃ L : List BFn, L.length ≤ N ∧ ∀ G, W G → G ∈ L
theorem FinW.mono {W W' : BFn → Prop} {N N' : Nat} (h : FinW W N) (hw : ∀ G, W' G → W G) (hn : N ≤ N') : FinW W' N' := by
  obtain ⟨L, a, b⟩ := h
  exact ⟨L, Nat.le_trans a hn, fun G hG => b G (hw G hG)⟩
theorem FinW.one (F : BFn) : FinW (fun G => G = F) 1 := ⟨[F], Nat.le_refl _, fun G h => by simp [h]⟩
theorem FinW.none : FinW (fun _ => False) 0 := ⟨[], Nat.le_refl _, fun G h => h.elim⟩
theorem FinW.or {W1 W2 : BFn → Prop} {N1 N2 : Nat} (h1 : FinW W1 N1) (h2 : FinW W2 N2) : FinW (fun G => W1 G ∨ W2 G) (N1 + N2) := by
  obtain ⟨L1, a1, b1⟩ := h1
  obtain ⟨L2, a2, b2⟩ := h2
  refine ⟨L1 ++ L2, by rw [List.length_append]; omega, fun G hG => ?_⟩
  rcases hG with h | h
  · exact List.mem_append_left _ (b1 G h)
  · exact List.mem_append_right _ (b2 G h)
theorem FinW.each {c : Nat} (P : Nat → BFn → Prop) : ∀ k, (∀ i, i < k → FinW (P i) c) → FinW (fun G => ∃ i, i < k ∧ P i G) (k * c)
  | 0, _ => FinW.none.mono (fun G ⟨i, hi, _⟩ => by omega) (Nat.zero_le _)
  | k + 1, h => ((FinW.each P k fun i hi => h i (by omega)).or (h k (by omega))).mono (fun G ⟨i, hi, e⟩ => by
      by_cases hk : i = k
      · subst hk; exact .inr e
      · exact .inl ⟨i, by omega, e⟩) (by rw [Nat.succ_mul]; exact Nat.le_refl _)
theorem FinW.cov {n N C : Nat} {W : BFn → Prop} (h : FinW W N) (hC : ∀ G, W G → CovW n (fun K => K = G) C) : CovW n W (N * C) := by
  obtain ⟨L, a, b⟩ := h
  refine (CovW.list (n := n) (N := C) (fun H G => G = H ∧ W H) L fun H _ => ?_).mono (fun G hG => ⟨G, b G hG, rfl, hG⟩) (Nat.mul_le_mul_right _ a)
  by_cases hH : W H
  · exact (hC H hH).mono (fun G h => h.1) (Nat.le_refl _)
  · exact (CovW.none n).mono (fun G h => hH h.2) (Nat.zero_le _)
end Go.Sy
end
section
set_option maxRecDepth 100000
set_option linter.unusedSimpArgs false
set_option linter.unusedVariables false
namespace Go.Proofs.Ytcoeknnghfajnaa
open Go Go.W Go.Tk Go.Rx Go.Bd Go.Sy Go.Maps
theorem pl_bit {s w p nx : Nat} (hp : p < w) (hn : nx < 2) (f : Bool → Bool) : PairL s w fun a => f (a (2 * (s + p) + nx)) := by
  rcases (show nx = 0 ∨ nx = 1 by omega) with rfl | rfl
  · exact PairL.one hp fun x _ => f x
  · exact PairL.one hp fun _ y => f y
theorem pl_vl (vars : List Nat) (v x : Nat) {nx : Nat} (hn : nx < 2) (j : Nat) : PairL (bP vars v) (wd (vars.getD v 0)) (vlB vars v x nx j) :=
  PairL.all (fun i a => decide (a (2 * (bP vars v + (j + i)) + nx) = x.testBit (wd (vars.getD v 0) - 1 - (j + i)))) _ fun i hi => by
    have := List.mem_range.1 hi
    exact pl_bit (by omega) hn fun y => decide (y = x.testBit (wd (vars.getD v 0) - 1 - (j + i)))
theorem pl_rv (vars : List Nat) (v x : Nat) {nx : Nat} (hn : nx < 2) : PairL (bP vars v) (wd (vars.getD v 0)) fun a => decide (rv vars a nx v = x) := by
  by_cases hx : x < 2 ^ wd (vars.getD v 0)
  · exact (pl_vl vars v x hn 0).eq fun a => (vlB_all hx).symm
  · exact (PairL.const _ _ false).eq fun a => decide_eq_false fun e => hx (by rw [← e]; exact rv_lt _ _ _ _)
theorem pl_sa (vars : List Nat) (v j : Nat) : PairL (bP vars v) (wd (vars.getD v 0)) (saB vars v j) :=
  PairL.all (fun i a => decide (a (2 * (bP vars v + (j + i))) = a (2 * (bP vars v + (j + i)) + 1))) _ fun i hi => by
    have := List.mem_range.1 hi
    exact PairL.one (by omega) fun x y => decide (x = y)
theorem bP_wd {vars : List Nat} {v : Nat} (hv : v < vars.length) : bP vars v + wd (vars.getD v 0) ≤ nBits vars := by
  have hn : vars[v]? = some (vars.getD v 0) := by simp [List.getD, List.getElem?_eq_getElem hv]
  have h2 := bP_succ hn
  have h3 := bP_mono (vars := vars) (show v + 1 ≤ vars.length by omega)
  rw [bP_all] at h3
  omega
theorem pf_fc {vars : List Nat} {l : List Go.Tk.Fc} (hr : ∀ f ∈ l, f.1 < vars.length) (j : Nat) : PairF (nBits vars) (fcB vars l j) :=
  PairF.all (fun (f : Go.Tk.Fc) a => decide (rv vars a 0 f.1 = f.2)) _ fun f hf => (pl_rv vars f.1 f.2 (by omega)).pair (bP_wd (hr f (List.mem_of_mem_drop hf)))
theorem finVl (vars : List Nat) (v x nx : Nat) : FinW (VlS vars v x nx) 6 := ((FinW.each (fun j G => G = vlB vars v x nx j) _ fun j _ => FinW.one _).mono (fun _ h => h) (by have := wd_le (vars.getD v 0); omega))
/-- The relation but for the literals. -/
def RelS2 (T : Nt) (o : No) (G : BFn) : Prop := (∃ v, v < T.vars.length ∧ ChS T.vars o v G) ∨ ((∃ j, j < T.vars.length ∧ G = rlB T o j) ∨ FacS T.vars o.pre G ∨ G = fun a => hdB (rs T.vars a 0) o.pre && rlB T o 0 a)
end Go.Proofs.Ytcoeknnghfajnaa
end
section
set_option maxRecDepth 100000
set_option linter.unusedSimpArgs false
set_option linter.unusedVariables false
namespace Go.Proofs.Ytcoeknnghfajnaa
open Go Go.W Go.Tk Go.Rx Go.Maps
/-- The operators of the example. -/
def IsC (i : Nat) (o : No) : Prop := o.name = ByteArray.empty ∧ o.cost = 2 ∧ o.pre = [(0, i)] ∧ ∃ e : Nf, o.effs = [e] ∧ e.cnd = [] ∧ e.v = 0 ∧ e.x = i + 1 ∧ e.wv.1 = .slice none 0 0
end Go.Proofs.Ytcoeknnghfajnaa
end
section
set_option maxRecDepth 100000
set_option linter.unusedSimpArgs false
set_option linter.unusedVariables false
namespace Go.Rx
open Go Go.W Go.Tk
def prL : List Nat → Nat
  | [] => 1
  | x :: l => x * prL l
theorem prL_snoc : ∀ (l : List Nat) (x : Nat), prL (l ++ [x]) = prL l * x
  | [], x => by simp [prL]
  | y :: l, x => by simp only [List.cons_append, prL, prL_snoc l x, Nat.mul_assoc]
theorem many_le : ∀ (vars : List Nat) (n : Nat), (∀ v ∈ vars, 1 ≤ v) → manyF 512 n (vars.map iN) ≤ 512 → ∀ k, n * prL (vars.take k) ≤ 512
  | [], n, _, h, k => by simpa [manyF, prL] using h
  | x :: l, n, hx, h, k => by
    have h1 := hx x (by simp)
    simp only [List.map_cons, manyF] at h
    split at h
    · omega
    · rename_i hle
      have e : (iN x).toNat = x := by simp [iN]
      rw [e] at hle h
      have hle : n * min x (512 + 1) ≤ 512 := by omega
      cases k with
      | zero =>
        have := Nat.mul_le_mul_left n (show 1 ≤ min x (512 + 1) by omega)
        simp [prL]; omega
      | succ k =>
        rcases Nat.eq_zero_or_pos n with rfl | hn
        · simp
        have hm : min x (512 + 1) = x := by
          rcases Nat.le_total x 513 with h2 | h2
          · omega
          · have : min x (512 + 1) = 513 := by omega
            rw [this] at hle
            omega
        rw [hm] at h
        have := many_le l (n * x) (fun v hv => hx v (by simp [hv])) h k
        simpa [List.take_succ_cons, prL, Nat.mul_assoc] using this
/-- A small task. -/
structure SmT (T : Nt) : Prop where
  g : NtG T
  good : goodB T.raw = true
  vl : T.vars.length ≤ 12
  ol : T.ops.length ≤ 20
  el : ∀ o ∈ T.ops, o.effs.length ≤ 8
  pr : ∀ k, prL (T.vars.take k) ≤ 512
  nm : ∀ o ∈ T.ops, o.name.size ≤ 9223372036854775807
theorem small_nat {t : Tk} (hl : TkL t) (h : smallB t = true) : ∃ T : Nt, T.raw = t ∧ SmT T := by
  unfold smallB at h
  simp only [Bool.and_eq_true, decide_eq_true_eq] at h
  obtain ⟨⟨⟨⟨h1, h2⟩, h3⟩, h4⟩, h5⟩ := h
  obtain ⟨T, rfl, hg⟩ := good_nat h4
  rw [List.all_eq_true] at h3
  refine ⟨T, rfl, hg, h4, by simpa [Nt.raw] using h1, by simpa [Nt.raw] using h2, fun o ho => ?_, fun k => ?_, fun o ho => ?_⟩
  · have := h3 o.raw (List.mem_map.2 ⟨o, ho, rfl⟩)
    simpa [No.raw] using this
  · have := many_le T.vars 1 (fun v hv => (hg.vars v hv).1) h5 k
    simpa using this
  · exact (hl.op o.raw (List.mem_map.2 ⟨o, ho, rfl⟩)).1
end Go.Rx
namespace Go.Proofs.Ytcoeknnghfajnaa
open Go Go.W Go.Tk Go.Rx Go.Maps
theorem stsK_len {vars : List Nat} : ∀ k, k ≤ vars.length → (stsK vars k).length = prL (vars.take k)
  | 0, _ => by simp [stsK, prL]
  | k + 1, hk => by
    obtain ⟨n, hn⟩ : ∃ n, vars[k]? = some n := ⟨_, List.getElem?_eq_getElem (by omega)⟩
    have key : ∀ (l : List (List Nat)), (l.flatMap (extS (vars.getD k 0))).length = l.length * vars.getD k 0 := by
      intro l
      induction l with
      | nil => simp
      | cons a l ih => rw [List.flatMap_cons, List.length_append, ih, extS_len, List.length_cons, Nat.add_mul]; omega
    have e : stsK vars (k + 1) = (stsK vars k).flatMap (extS (vars.getD k 0)) := rfl
    rw [take_snoc hn, prL_snoc, ← stsK_len k (by omega), e, key]
    simp [List.getD, hn]
theorem SmT.sts {T : Nt} (h : SmT T) : ∀ k, k ≤ T.vars.length → (stsK T.vars k).length ≤ 10000 := fun k hk => by
  rw [stsK_len k hk]
  have := h.pr k
  omega
end Go.Proofs.Ytcoeknnghfajnaa
end
section
set_option maxRecDepth 100000
set_option linter.unusedSimpArgs false
set_option linter.unusedVariables false
namespace Go.Proofs.Ytcoeknnghfajnaa
open Go Go.W Go.Tk Go.Rx Go.Maps
section
variable {w : World} {b : Nat} {T : Nt} {U : List Un}
end
theorem lone {α : Type} {enc : α → List Value} {v : Value} {l : List α} {X : Asr} (ho : oneC v = true) : Imp (Star (VwA v enc l) X) (Star (VwsA enc [((⟨v, ho⟩, l) : Cell1 × List α)]) X) := by
  rintro w F ⟨Fa, Fb, ⟨h1, e1, h2⟩, h3, hd, rfl⟩
  exact ⟨_, ⟨Fa, Fb, ⟨fun p hp => by simp at hp; subst hp; exact h1, fun x hx => h2 x (by rw [← e1]; exact hx), by simpa using e1⟩, h3, hd, rfl⟩, fun x hx => hx⟩
end Go.Proofs.Ytcoeknnghfajnaa
end
section
set_option maxRecDepth 100000
set_option linter.unusedSimpArgs false
set_option linter.unusedVariables false
namespace Go.Proofs.Ytcoeknnghfajnaa
open Go Go.W Go.Tk Go.Rx Go.Maps
theorem raw_vv (T : Nt) : T.raw.vv = T.vv := rfl
theorem raw_nv (T : Nt) : T.raw.nv = T.nv := rfl
theorem raw_gv (T : Nt) : T.raw.gv = T.gv := rfl
theorem raw_ov (T : Nt) : T.raw.ov = T.ov := rfl
end Go.Proofs.Ytcoeknnghfajnaa
end
section
set_option maxRecDepth 100000
set_option linter.unusedSimpArgs false
set_option linter.unusedVariables false
namespace Go.Proofs.Ytcoeknnghfajnaa
open Go Go.W Go.Tk Go.Rx Go.Maps
theorem sts512 {T : Nt} (hT : SmT T) : (stsK T.vars T.vars.length).length ≤ 512 := by rw [stsK_len _ (Nat.le_refl _)]; exact hT.pr _
end Go.Proofs.Ytcoeknnghfajnaa
end
section
set_option maxRecDepth 100000
set_option linter.unusedSimpArgs false
set_option linter.unusedVariables false
namespace Go.Proofs.Ytcoeknnghfajnaa
open Go Go.W Go.Tk Go.Rx Go.Bd Go.Sy Go.Maps
/-- The memory as it was. -/
def OldA (w0 : World) : Asr := fun w F => F = List.range w0.heap.size ∧ Kp [] w0 w
theorem OldA.lcl {w0 : World} : Lcl (OldA w0) := by
  refine ⟨?_, ?_⟩
  · rintro w F ⟨rfl, k⟩ x hx
    have := List.mem_range.1 hx
    have := k.size
    omega
  · rintro w F G w' ⟨rfl, k⟩ hk hG
    exact ⟨rfl, k.trans' hk fun x hx => by
      by_cases h : x < w0.heap.size
      · exact absurd hx (hG x (List.mem_range.2 h))
      · exact .inr (by omega)⟩
theorem OldA.start (w : World) : At w (List.range w.heap.size) (OldA w) w := At.start ⟨rfl, Kp.refl _ _⟩
theorem OldA.rds {w0 : World} {P : World → Prop} (h : ∀ w', Kp [] w0 w' → P w') : Rds (OldA w0) P := fun w' F hs => h w' hs.2
def nS (vars : List Nat) : Nat := (stsK vars vars.length).length
end Go.Proofs.Ytcoeknnghfajnaa
end
section
set_option maxRecDepth 100000
set_option linter.unusedSimpArgs false
set_option linter.unusedVariables false
namespace Go.Proofs.Ytcoeknnghfajnaa
open Go Go.W Go.Tk Go.Rx Go.Bd Go.Sy Go.Maps
theorem wd_a : ∀ n, n < 65 → 1 ≤ n → 2 ^ (180 * wd n + 4 * n) ≤ n ^ 240 * 2 ^ 4 := by decide +kernel
theorem wd_b : ∀ n, n < 65 → 1 ≤ n → 2 ^ (10 * wd n) ≤ n ^ 13 := by decide +kernel
theorem bs_a : ∀ l : List Nat, (∀ n ∈ l, 1 ≤ n ∧ n ≤ 64) → 2 ^ (180 * nBits l + 4 * l.sum) ≤ prL l ^ 240 * 2 ^ (4 * l.length)
  | [], _ => by simp [nBits, prL]
  | n :: l, h => by
    have ih := bs_a l fun m hm => h m (by simp [hm])
    have hn := h n (by simp)
    have h1 := wd_a n (by omega) hn.1
    have e1 : 180 * nBits (n :: l) + 4 * (n :: l).sum = (180 * wd n + 4 * n) + (180 * nBits l + 4 * l.sum) := by
      unfold nBits
      simp only [List.map_cons, List.sum_cons]
      omega
    have e2 : 4 * (n :: l).length = 4 + 4 * l.length := by simp only [List.length_cons]; omega
    rw [e1, e2, Nat.pow_add, Nat.pow_add 2 4]
    show _ ≤ (n * prL l) ^ 240 * _
    rw [Nat.mul_pow]
    calc _ ≤ (n ^ 240 * 2 ^ 4) * (prL l ^ 240 * 2 ^ (4 * l.length)) := Nat.mul_le_mul h1 ih
      _ = n ^ 240 * prL l ^ 240 * (2 ^ 4 * 2 ^ (4 * l.length)) := by simp only [Nat.mul_assoc, Nat.mul_left_comm (2 ^ 4)]
theorem bs_b : ∀ l : List Nat, (∀ n ∈ l, 1 ≤ n ∧ n ≤ 64) → 2 ^ (10 * nBits l) ≤ prL l ^ 13
  | [], _ => by simp [nBits, prL]
  | n :: l, h => by
    have ih := bs_b l fun m hm => h m (by simp [hm])
    have hn := h n (by simp)
    have h1 := wd_b n (by omega) hn.1
    have e1 : 10 * nBits (n :: l) = 10 * wd n + 10 * nBits l := by
      unfold nBits
      simp only [List.map_cons, List.sum_cons]
      omega
    rw [e1, Nat.pow_add]
    show _ ≤ (n * prL l) ^ 13
    rw [Nat.mul_pow]
    exact Nat.mul_le_mul h1 ih
/-- The bits of a small task, and the number of its values. -/
theorem sm_bs {T : Nt} (hT : SmT T) : nBits T.vars ≤ 11 ∧ 180 * nBits T.vars + 4 * T.vars.sum ≤ 2208 := by
  have hp : prL T.vars ≤ 512 := by
    have := hT.pr T.vars.length
    rwa [List.take_length] at this
  have h1 := bs_a T.vars hT.g.vars
  have h2 := bs_b T.vars hT.g.vars
  have h3 : prL T.vars ^ 240 ≤ 512 ^ 240 := Nat.pow_le_pow_left hp _
  have h4 : prL T.vars ^ 13 ≤ 512 ^ 13 := Nat.pow_le_pow_left hp _
  obtain ⟨E, hE⟩ : ∃ E, E = 9 * 240 := ⟨_, rfl⟩
  have e3 : (512 : Nat) ^ 240 = 2 ^ E := by rw [show (512 : Nat) = 2 ^ 9 from rfl, ← Nat.pow_mul, hE]
  have e4 : (512 : Nat) ^ 13 = 2 ^ (9 * 13) := by rw [show (512 : Nat) = 2 ^ 9 from rfl, ← Nat.pow_mul]
  rw [e3] at h3
  rw [e4] at h4
  have h5 : 10 * nBits T.vars ≤ 9 * 13 := (Nat.pow_le_pow_iff_right (by omega)).1 (Nat.le_trans h2 h4)
  have h6 : 180 * nBits T.vars + 4 * T.vars.sum ≤ E + 4 * T.vars.length := by
    refine (Nat.pow_le_pow_iff_right (a := 2) (by omega)).1 (Nat.le_trans h1 ?_)
    rw [Nat.pow_add 2 E]
    exact Nat.mul_le_mul_right _ h3
  have := hT.vl
  omega
theorem sum_getD (l : List Nat) : ∀ k, k ≤ l.length → ((List.range k).map fun v => l.getD v 0).sum = (l.take k).sum
  | 0, _ => by simp
  | k + 1, h => by
    have ih := sum_getD l k (by omega)
    rw [List.range_succ, List.map_append, List.sum_append, ih, List.take_add_one, List.getElem?_eq_getElem (show k < l.length by omega), List.sum_append]
    simp [List.getD, List.getElem?_eq_getElem (show k < l.length by omega)]
theorem sum_mul (f : Nat → Nat) (c : Nat) : ∀ l : List Nat, (l.map fun v => f v * c).sum = (l.map f).sum * c
  | [] => by simp
  | v :: l => by
    simp only [List.map_cons, List.sum_cons, sum_mul f c l, Nat.add_mul]
theorem of_nil (u : Value) (x : Int) (w : World) : Calls Try.prog 11 [u, .int .i64 x, .nilIface].toArray w fun e w' => ∃ v, e = .returned v ∧ v = .int .i64 x ∧ Kp [] w w' := by
  refine enter Try.func11 mixed low11 (Nat.le_of_ble_eq_true rfl) ?_
  simp only [L11]
  simp
  exact Kp.refl _ _
end Go.Proofs.Ytcoeknnghfajnaa
end
