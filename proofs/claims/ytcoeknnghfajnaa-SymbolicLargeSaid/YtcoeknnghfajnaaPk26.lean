/-
  A part of the proof of this claim's statement (SyWK, SyWL, SyAP, SyAQ, SyCw): plain theorems; no conditions beyond those each names.
-/
import Derived.Test.YtcoeknnghfajnaaPk25
import Derived.Test.YtcoeknnghfajnaaPk18
section
set_option maxRecDepth 100000
set_option linter.unusedSimpArgs false
set_option linter.unusedVariables false
namespace Go.Proofs.Ytcoeknnghfajnaa
open Go Go.W Go.Tk Go.Rx Go.Bd Go.Sy Go.Maps
theorem getM_put {κ α : Type} [DecidableEq κ] : ∀ (l : List (κ × α)) (x : κ) (v : α), getM (putM l x v) x = some v := by
  intro l x v
  unfold getM putM
  split
  · rename_i h
    rw [List.any_eq_true] at h
    induction l with
    | nil => obtain ⟨p, hp, _⟩ := h; cases hp
    | cons p l ih =>
      by_cases e : p.1 = x
      · simp [e]
      · simp only [List.map_cons, e, if_false, List.find?_cons, decide_false]
        refine ih ?_
        obtain ⟨q, hq, hq2⟩ := h
        rcases List.mem_cons.1 hq with rfl | hq
        · exact absurd (of_decide_eq_true hq2) e
        · exact ⟨q, hq, hq2⟩
  · rename_i h
    rw [List.find?_append]
    have : l.find? (fun p => decide (p.1 = x)) = none := by
      rw [List.find?_eq_none]
      intro p hp hc
      exact h (List.any_eq_true.2 ⟨p, hp, hc⟩)
    rw [this]
    simp
theorem getM_put_ne {κ α : Type} [DecidableEq κ] {l : List (κ × α)} {x y : κ} {v : α} (h : x ≠ y) : getM (putM l x v) y = getM l y := by
  unfold getM putM
  split
  · rename_i hh
    clear hh
    induction l with
    | nil => rfl
    | cons p l ih =>
      by_cases e : p.1 = x
      · have : ¬ p.1 = y := fun e2 => h (by rw [← e, e2])
        simp only [List.map_cons, e, if_true, List.find?_cons, h, decide_false, this]
        exact ih
      · by_cases e2 : p.1 = y
        · have hyx : ¬ y = x := fun e => h e.symm
          simp [List.map_cons, e2, hyx]
        · simp only [List.map_cons, e, if_false, List.find?_cons, e2, decide_false]
          exact ih
  · rw [List.find?_append]
    cases l.find? (fun p => decide (p.1 = y)) with
    | some p => rfl
    | none => simp [h]
section
variable {w w1 : World} {F : List Nat} {B : Asr} {s m lim : Nat} {T : Nt} {q : SpC} {ns : Ns} {ks : List (Nat × Bool)} {ss : List (Nat × Nat)}
theorem all_spec (h : At w F (SpcA s m lim T q ns ks ss B) w1) : Calls Try.prog 14 [.pointer (some ⟨s, 0, none⟩)].toArray w1 fun en w' => ∃ v, en = .returned v ∧ v = .int .i64 (q.all : Nat) ∧ At w F (SpcA s m lim T q ns ks ss B) w' := by
  refine enter Try.func14 mixed low14 (Nat.le_of_ble_eq_true rfl) ?_
  simp only [L14]
  have os := SpcA.obj h
  unfold spO at os
  simp [cell_blk os]
  exact h
theorem SpG.six {n : Nat} (h : n < many) : cntV n = .tuple #[.int .i64 (n : Nat), .nilIface] := by
  unfold cntV
  rw [if_pos h]
  rfl
theorem SRes.ok {W : BFn → Prop} {N N1 : Nat} {P : List Nat → Bool} {v : Value} {w' : World} (h : SRes s m lim T q ns ks ss B w F W P v w') (hr : Run (2 * nBits T.vars) lim N ns) (hc : CovW (2 * nBits T.vars) W N1) (hl : N + N1 < lim) :
    ∃ x ns' ss', v = .tuple #[.int .i64 (x : Nat), .nilIface] ∧ Run (2 * nBits T.vars) lim (N + N1) ns' ∧ Stp (2 * nBits T.vars) lim W false ns false ns' ∧ Kn T ns' (putM ks x true) x P ∧ SpG lim T q ns' (putM ks x true) ss' ∧ ss'.length ≤ ss.length + 1 ∧ At w F (SpcA s m lim T q ns' (putM ks x true) ss' B) w' := by
  obtain ⟨x, e', ns', ss', rfl, h2, h3, h4, h5, h6, h7⟩ := h
  obtain ⟨rfl, hr2⟩ := hr.step h2 hc hl
  exact ⟨x, ns', ss', rfl, hr2, h2, ⟨getM_put _ _ _, h4 rfl⟩, h5, h6, h7⟩
theorem CRes.ok {W : BFn → Prop} {N N1 : Nat} {P : List Nat → Bool} {v : Value} {w' : World} (h : CRes s m lim T q ns ks ss B w F W P v w') (hr : Run (2 * nBits T.vars) lim N ns) (hc : CovW (2 * nBits T.vars) W N1) (hl : N + N1 < lim) (hg : NtG T) :
    ∃ ns', v = cntV (ctN T.vars P) ∧ Run (2 * nBits T.vars) lim (N + N1) ns' ∧ Stp (2 * nBits T.vars) lim W false ns false ns' ∧ SpG lim T q ns' ks ss ∧ At w F (SpcA s m lim T q ns' ks ss B) w' := by
  obtain ⟨e', ns', rfl, h2, h3, h4⟩ := h
  obtain ⟨rfl, hr2⟩ := hr.step h2 hc hl
  exact ⟨ns', by rw [if_neg (by simp), ct_num fun n hn => (hg.vars n hn).2], hr2, h2, h3, h4⟩
end
set_option maxHeartbeats 4000000 in
theorem awake_spec {w w1 : World} {F : List Nat} {B : Asr} (hB : Lcl B) (h : At w F B w1) : Calls Try.prog 9 [].toArray w1 fun en w' => ∃ v, en = .returned v ∧ v = .bool true ∧ At w F B w' := by
  refine enter Try.func9 mixed low9 (Nat.le_of_ble_eq_true rfl) ?_
  simp only [L9]
  simp
  refine cl_of (example_spec hB h) ?_
  rintro _ w2 ⟨vv, nv, ov, pv, ev, wv, rfl, h2⟩
  obtain ⟨T0, hT0⟩ : ∃ T0, T0 = exT vv nv ov pv ev wv := ⟨_, rfl⟩
  have hg0 : NtG T0 := by rw [hT0]; exact exT_g
  have hgd0 : goodB T0.raw = true := by rw [hT0]; exact exT_good
  have hl0 : TkL T0.raw := hg0.lens (by rw [hT0]; simp [exT, exO])
  have ho0 : T0.ops[0]? = some (exO pv ev wv) := by rw [hT0]; rfl
  have hv0 : T0.vars = [2, 3] := by rw [hT0]; rfl
  rw [← hT0] at h2 ⊢
  have hnb : nBits [2, 3] = 3 := rfl
  have hL2 : Lcl (Star (TskA T0) B) := TskA.lcl.star hB
  have hC : ∀ G : BFn, CovW 6 (fun K => K = G) 64 := fun G => cov_any G
  have hN0 : CovW (2 * nBits T0.vars) (NewS T0) 58752 := by
    have hn6 : 2 * nBits T0.vars = 6 := by rw [hv0]; rfl
    have := covNew (n := 2 * nBits T0.vars) (C := 64) (by rw [hn6]; exact hC) T0 (fun n hn => (hg0.vars n hn).2)
    refine this.mono (fun _ h => h) ?_
    rw [hn6, hv0]
    simp
  simp
  refine cl_of (snew_spec T0 1048576 hL2 h2 TskA.rd hg0 hgd0 hl0 (by omega) (by omega) (newW (W := NewS T0) fun G h => h)) ?_
  rintro _ w3 hn
  rcases hn with ⟨hbig, _⟩ | ⟨_, e3, ns3, hs3, hn⟩
  · rw [hv0, hnb] at hbig
    omega
  obtain ⟨he3, r3⟩ := (Run.start _ _).step hs3 hN0 (by omega)
  subst he3
  rcases hn with ⟨h, _⟩ | ⟨_, s, m, T, q, hA, rfl, hG3, h3⟩
  · cases h
  have hv : T.vars = [2, 3] := by rw [hA.vars, hv0]
  have r3 : Run (2 * nBits T.vars) 1048576 (0 + 58752) ns3 := by rw [hA.vars]; exact r3
  have hn6 : 2 * nBits T.vars = 6 := by rw [hv]; rfl
  have hC' : ∀ G : BFn, CovW (2 * nBits T.vars) (fun K => K = G) 64 := by rw [hn6]; exact hC
  have hct : ∀ P, CovW (2 * nBits T.vars) (CtS T P) 1024 := fun P => (covCt hC' T P).mono (fun _ h => h) (by rw [hn6, show nBits T.vars = 3 by rw [hv]; rfl]; simp)
  have k3 : Kn T ns3 (putM [(0, true)] q.all true) q.all (fun _ => true) := ⟨getM_put _ _ _, hG3.all⟩
  simp
  refine cl_of (all_spec h3) ?_
  rintro _ w4 ⟨rfl, h4⟩
  simp
  have hctW : ∀ P, LitW T.vars (CtS T P) ∧ (∀ j, j < nBits T.vars → CtS T P (zB (nBits T.vars) j)) ∧ CtS T P (ctF T.vars P) := fun P => ⟨litW fun G h => .inl h, fun j hj => .inr (.inl ⟨j, hj, rfl⟩), .inr (.inr rfl)⟩
  refine cl_of (count_spec q.all (fun _ => true) hG3 hL2 h4 k3 (hctW _).1 (hctW _).2.1 (hctW _).2.2) ?_
  rintro v5 w5 hc
  obtain ⟨ns5, rfl, r5, hs5, hG5, h5⟩ := hc.ok r3 (hct _) (by omega) hG3.g
  have e6 : ctN T.vars (fun _ => true) = 6 := by rw [hv]; rfl
  rw [e6, SpG.six (by decide)]
  simp
  have hk3 := hG3.ok
  have k5 : Kn T ns5 (putM [(0, true)] q.all true) q.all (fun _ => true) := ⟨k3.kn, k3.ok.stp hk3 hs5⟩
  obtain ⟨o, ho, op, oa, oe⟩ := hA.sk ho0
  have hpl : o.pre.length = 1 := by rw [op]; rfl
  have hel : o.effs.length = 2 := by rw [oe]; rfl
  have hog := hG3.g.ops o (List.mem_of_getElem? ho)
  have hvl2 : T.vars.length = 2 := by rw [hv]; rfl
  have hR : CovW (2 * nBits T.vars) (RelS T o) 11584 := (covRel hC' T o (V := 2) (by omega) (by omega) (fun x hx => by have := (hog.cnd x hx).len; omega)).mono (fun _ h => h) (by rw [hn6, hel]; omega)
  have hI : CovW (2 * nBits T.vars) (ImgS T o fun _ => true) 28032 := (covImg T o _ hC' hR).mono (fun _ h => h) (by rw [hn6]; simp)
  refine cl_of (all_spec h5) ?_
  rintro _ w6 ⟨rfl, h6⟩
  simp
  refine cl_of (image_spec q.all 0 o (fun _ => true) hG5 hL2 h6 k5 ho (by have : (putM [(0, true)] q.all true).length ≤ 1 + 1 := putM_len_le; omega) (by simp) (imgW (W := ImgS T o fun _ => true) fun G h => h)) ?_
  rintro v7 w7 hs
  obtain ⟨x, ns7, ss7, rfl, r7, hs7, k7, hG7, hl7, h7⟩ := hs.ok r5 hI (by omega)
  simp
  refine cl_of (count_spec x _ hG7 hL2 h7 k7 (hctW _).1 (hctW _).2.1 (hctW _).2.2) ?_
  rintro v8 w8 hc
  obtain ⟨ns8, rfl, r8, hs8, hG8, h8⟩ := hc.ok r7 (hct _) (by omega) hG7.g
  have hP : imgP T o (fun _ => true) = imgP T0 (exO pv ev wv) (fun _ => true) := imgP_alk hA op oa _
  have e8 : ctN T.vars (imgP T o fun _ => true) = 2 := by rw [hP, hv, hT0]; rfl
  rw [e8, SpG.six (by decide)]
  have k8 : Kn T ns8 (putM (putM [(0, true)] q.all true) x true) x (imgP T o fun _ => true) := ⟨k7.kn, k7.ok.stp hG7.ok hs8⟩
  simp [rowOf]
  have h9 := h8.lit (xs := [1, 2]) (enc := nE) (E := 3) (sz := 1) (cs := #[.int .i64 1, .int .i64 2]) (m := 2) (SpcA.lcl hL2) (by simp [nE]) nE_len (by simp [maxLen]) rfl
  have h10 := SpcA.into h9
  refine cl_of (has_spec x _ [1, 2] _ hG8 (Lcl.own.star hL2) h10 k8 Rds.own ?_) ?_
  · rw [hv]
    exact ⟨rfl, fun v hv => by have : v = 0 ∨ v = 1 := by simp at hv; omega
                               rcases this with rfl | rfl <;> decide⟩
  rintro _ w11 ⟨rfl, h11⟩
  have e11 : imgP T o (fun _ => true) [1, 2] = true := by rw [hP, hT0]; rfl
  rw [e11]
  simp
  have h12 := SpcA.less h11
  unfold SpcA at h12
  exact h12.drop.drop.drop.drop.drop.drop.drop.drop
end Go.Proofs.Ytcoeknnghfajnaa
end
section
set_option maxRecDepth 100000
set_option linter.unusedSimpArgs false
set_option linter.unusedVariables false
namespace Go.Proofs.Ytcoeknnghfajnaa
open Go Go.W Go.Tk Go.Rx Go.Bd Go.Sy Go.Maps
theorem all_nil (w : World) : Calls Try.prog 14 [.pointer none].toArray w fun e w' => ∃ x, e = .returned x ∧ x = .int .i64 0 ∧ Kp [] w w' := by
  refine enter Try.func14 mixed low14 (Nat.le_of_ble_eq_true rfl) ?_
  simp only [L14]
  simp
  exact Kp.refl _ _
end Go.Proofs.Ytcoeknnghfajnaa
end
section
set_option maxRecDepth 100000
set_option linter.unusedSimpArgs false
set_option linter.unusedVariables false
namespace Go.Proofs.Ytcoeknnghfajnaa
open Go Go.W Go.Tk Go.Rx Go.Bd Go.Sy Go.Maps
theorem allc_congr {α : Type} {l : List α} {f g : α → Bool} (h : ∀ x ∈ l, f x = g x) : l.all f = l.all g := by
  induction l with
  | nil => rfl
  | cons x l ih => rw [List.all_cons, List.all_cons, h x (by simp), ih fun y hy => h y (by simp [hy])]
theorem rv_x {vars : List Nat} {a b : Nat → Bool} {v : Nat} (h : ∀ p, bP vars v ≤ p → p < bP vars v + wd (vars.getD v 0) → a (2 * p) = b (2 * p)) : rv vars a 0 v = rv vars b 0 v := valK_congr _ fun k hk => by
  have := h (bP vars v + k) (by omega) (by omega)
  simpa using this
theorem thr_x (vars : List Nat) (v x : Nat) : XIn (bP vars v) (wd (vars.getD v 0)) fun a => decide (rv vars a 0 v < x + 1) := fun a b h => congrArg (fun y => decide (y < x + 1)) (rv_x h)
def BasS (T : Nt) (G : BFn) : Prop := NewS T G ∨ ∃ j, j < nBits T.vars ∧ G = zB (nBits T.vars) j
def nb (T : Nt) : Nat := 2 * nBits T.vars * (2 * nBits T.vars + 2 * nBits T.vars) + (((List.range T.vars.length).map fun v => T.vars.getD v 0 * 448).sum + T.vars.length * 2 ^ nBits T.vars) + nBits T.vars * (2 * nBits T.vars)
theorem pow_wd (n : Nat) : 2 ^ wd n ≤ 64 := by
  have : 2 ^ wd n ≤ 2 ^ 6 := Nat.pow_le_pow_right (by omega) (wd_le n)
  omega
/-- A run with so many nodes beside those. -/
def RunB (n lim : Nat) (W0 : BFn → Prop) (N : Nat) (ns : Ns) : Prop := ∃ W : BFn → Prop, Stp n lim (fun G => W0 G ∨ W G) false [] false ns ∧ CovW n W N
theorem RunB.step {n lim N0 N N1 : Nat} {W0 W : BFn → Prop} {e : Bool} {ns ns' : Ns} (h : RunB n lim W0 N ns) (h0 : CovW n W0 N0) (hs : Stp n lim (fun G => W0 G ∨ W G) false ns e ns') (hc : CovW n W N1) (hl : N0 + (N + N1) < lim) : e = false ∧ RunB n lim W0 (N + N1) ns' := by
  obtain ⟨W1, h1, c1⟩ := h
  have h2 : Stp n lim (fun G => W0 G ∨ (W1 G ∨ W G)) false [] e ns' := (h1.mono fun G hG => hG.imp id .inl).trans (hs.mono fun G hG => hG.imp id .inr)
  have hc2 := c1.or hc
  have hlen := cov_len (ns0 := []) h2.ext.wf (h0.or hc2) h2.new
  have : e = false := by
    cases e with
    | false => rfl
    | true =>
      have := h2.full rfl rfl
      simp at hlen
      omega
  subst this
  exact ⟨rfl, _, h2, hc2⟩
theorem RunB.start {n lim N0 : Nat} {W0 : BFn → Prop} {e : Bool} {ns : Ns} (h0 : CovW n W0 N0) (hs : Stp n lim W0 false [] e ns) (hl : N0 < lim) : e = false ∧ RunB n lim W0 0 ns := by
  have h1 : RunB n lim W0 0 [] := ⟨fun _ => False, Stp.refl (Wf.nil n) (Nat.zero_le _), CovW.none n⟩
  exact h1.step h0 (hs.mono fun G h => .inl h) (CovW.none n) (by omega)
end Go.Proofs.Ytcoeknnghfajnaa
end
section
set_option maxRecDepth 100000
set_option linter.unusedSimpArgs false
set_option linter.unusedVariables false
namespace Go.Proofs.Ytcoeknnghfajnaa
open Go Go.W Go.Tk Go.Rx Go.Bd Go.Sy Go.Maps
abbrev Kp2 := Nat × (List Nat → Bool)
/-- A space in a law: with so many nodes, after so many operations, with some sets. -/
def Lw (s m lim : Nat) (T : Nt) (q : SpC) (W0 : BFn → Prop) (B : Asr) (w : World) (F : List Nat) (N c : Nat) (ps : List Kp2) (w' : World) : Prop :=
  ∃ ns ks ss, RunB (2 * nBits T.vars) lim W0 N ns ∧ SpG lim T q ns ks ss ∧ (∀ p ∈ ps, Kn T ns ks p.1 p.2) ∧ ks.length ≤ c ∧ ss.length ≤ c ∧ At w F (SpcA s m lim T q ns ks ss B) w'
/-- What the operations share. -/
structure LwC (T : Nt) (W0 : BFn → Prop) (N0 : Nat) : Prop where
  bas : ∀ G, BasS T G → W0 G
  cov : CovW (2 * nBits T.vars) W0 N0
section
variable {w w1 : World} {F : List Nat} {B : Asr} {s m lim N N0 c : Nat} {T : Nt} {q : SpC} {W0 W : BFn → Prop} {ps : List Kp2}
theorem LwC.lit (hC : LwC T W0 N0) : LitW T.vars fun G => W0 G ∨ W G := litW fun G h => .inl (hC.bas G (.inl (.inl h)))
theorem LwC.vl (hC : LwC T W0 N0) {v x : Nat} (hv : v < T.vars.length) (hx : x < T.vars.getD v 0) : VlW T.vars v x 0 fun G => W0 G ∨ W G := vlW fun G h => .inl (hC.bas G (.inl (.inr (.inl ⟨v, hv, x, hx, .inl h⟩))))
theorem LwC.fc (hC : LwC T W0 N0) {l : List Go.Tk.Fc} (hr : FcRng T.vars l) (h : ∀ j, j < l.length → W (fcB T.vars l j)) : FcW T.vars l fun G => W0 G ∨ W G :=
  ⟨fun f hf => hC.vl (hr f hf).1 (hr f hf).2, fun j hj => .inr (h j hj)⟩
theorem LwC.zb (hC : LwC T W0 N0) : ∀ j, j < nBits T.vars → (fun G => W0 G ∨ W G) (zB (nBits T.vars) j) := fun j hj => .inl (hC.bas _ (.inr ⟨j, hj, rfl⟩))
theorem Kn.ext {n : Nat} {W : BFn → Prop} {ns ns' : Ns} {ks : List (Nat × Bool)} {x y : Nat} {e e' : Bool} {P : List Nat → Bool} (h : Kn T ns ks y P) (hw : SpOk T.vars lim ns) (hs : Stp (2 * nBits T.vars) lim W e' ns e ns') (hk : ∀ z, getM ks z = some true → getM (putM ks x true) z = some true) : Kn T ns' (putM ks x true) y P := ⟨hk y h.kn, h.ok.stp hw hs⟩
theorem getM_keep {ks : List (Nat × Bool)} {x z : Nat} (h : getM ks z = some true) : getM (putM ks x true) z = some true := by
  by_cases e : x = z
  · subst e; exact getM_put _ _ _
  · rw [getM_put_ne e]; exact h
theorem lw_sres {P : List Nat → Bool} {N1 : Nat} {ns : Ns} {ks : List (Nat × Bool)} {ss : List (Nat × Nat)} {v : Value} {w' : World} (hC : LwC T W0 N0) (hr : RunB (2 * nBits T.vars) lim W0 N ns) (hG : SpG lim T q ns ks ss) (hk : ∀ p ∈ ps, Kn T ns ks p.1 p.2) (hkl : ks.length ≤ c) (hsl : ss.length ≤ c)
    (h : SRes s m lim T q ns ks ss B w F (fun G => W0 G ∨ W G) P v w') (hc : CovW (2 * nBits T.vars) W N1) (hl : N0 + (N + N1) < lim) :
    ∃ x : Nat, v = .tuple #[.int .i64 (x : Nat), .nilIface] ∧ Lw s m lim T q W0 B w F (N + N1) (c + 1) ((x, P) :: ps) w' := by
  obtain ⟨x, e', ns', ss', rfl, h2, h3, h4, h5, h6, h7⟩ := h
  obtain ⟨rfl, hr2⟩ := hr.step hC.cov h2 hc hl
  have hkl2 : (putM ks x true).length ≤ ks.length + 1 := putM_len_le
  refine ⟨x, rfl, ns', _, ss', hr2, h5, fun p hp => ?_, by show (putM ks x true).length ≤ _; omega, by omega, h7⟩
  rcases List.mem_cons.1 hp with rfl | hp
  · exact ⟨getM_put _ _ _, h4 rfl⟩
  · exact ⟨getM_keep (hk p hp).kn, (hk p hp).ok.stp hG.ok h2⟩
theorem lw_all (h : Lw s m lim T q W0 B w F N c ps w1) : Calls Try.prog 14 [.pointer (some ⟨s, 0, none⟩)].toArray w1 fun en w' => ∃ v, en = .returned v ∧ v = .int .i64 (q.all : Nat) ∧ Lw s m lim T q W0 B w F N c ps w' := by
  obtain ⟨ns, ks, ss, hrn, hG, hk, hkl, hsl, hA⟩ := h
  refine (all_spec hA).mono ?_
  rintro en w' ⟨v, rfl, rfl, h4⟩
  exact ⟨_, rfl, rfl, ns, ks, ss, hrn, hG, hk, hkl, hsl, h4⟩
theorem Lw.kp0 (hB : Lcl B) (h : Lw s m lim T q W0 B w F N c ps w1) {w2 : World} (k : Kp [] w1 w2) : Lw s m lim T q W0 B w F N c ps w2 := by
  obtain ⟨ns, ks, ss, hrn, hG, hk, hkl, hsl, hA⟩ := h
  exact ⟨ns, ks, ss, hrn, hG, hk, hkl, hsl, At.kp0 (SpcA.lcl hB) hA k⟩
theorem Lw.frame (h : Lw s m lim T q W0 B w F N c ps w1) {P : World → Prop} (hP : Rds B P) : P w1 := by
  obtain ⟨ns, ks, ss, hrn, hG, hk, hkl, hsl, hA⟩ := h
  exact SpcA.frame hA hP
/-- Equal sets are equal numbers. -/
theorem Lw.eq (h : Lw s m lim T q W0 B w F N c ps w1) {x y : Nat} {P Q : List Nat → Bool} (hx : (x, P) ∈ ps) (hy : (y, Q) ∈ ps) (e : ∀ z, StN T.vars z → P z = Q z) : x = y := by
  obtain ⟨ns, ks, ss, hrn, hG, hk, hkl, hsl, hA⟩ := h
  have h1 := (hk _ hx).ok
  have h2 := (hk _ hy).ok
  refine canon hG.ok.wf h1.1 h2.1 fun a => ?_
  rw [h1.2, h2.2]
  cases ho : okB T.vars a with
  | false => rfl
  | true =>
    show (true && P (rs T.vars a 0)) = (true && Q (rs T.vars a 0))
    rw [e _ (okB_iff.1 ho)]
/-- Fewer sets, more nodes. -/
theorem Lw.mono (h : Lw s m lim T q W0 B w F N c ps w1) {N' c' : Nat} {ps' : List Kp2} (hn : N ≤ N') (hc : c ≤ c') (hp : ∀ p ∈ ps', p ∈ ps) : Lw s m lim T q W0 B w F N' c' ps' w1 := by
  obtain ⟨ns, ks, ss, ⟨W, r1, r2⟩, hG, hk, hkl, hsl, hA⟩ := h
  exact ⟨ns, ks, ss, ⟨W, r1, r2.mono (fun _ h => h) hn⟩, hG, fun p h => hk p (hp p h), by omega, by omega, hA⟩
end
end Go.Proofs.Ytcoeknnghfajnaa
namespace Go.Proofs.Ytcoeknnghfajnaa
open Go Go.W Go.Tk Go.Rx Go.Bd Go.Sy Go.Maps
section
variable {w w1 : World} {F : List Nat} {A B : Asr} {s m lim N N0 c : Nat} {T : Nt} {q : SpC} {W0 W : BFn → Prop} {ps : List Kp2}
theorem Lw.less (h : Lw s m lim T q W0 (Star A B) w F N c ps w1) : Lw s m lim T q W0 B w F N c ps w1 := by
  obtain ⟨ns, ks, ss, hrn, hG, hk, hkl, hsl, hA⟩ := h
  exact ⟨ns, ks, ss, hrn, hG, hk, hkl, hsl, SpcA.less hA⟩
theorem Lw.lit {α : Type} {enc : α → List Value} {E sz k : Nat} {xs : List α} {cs : Array Value} (hB : Lcl B) (h : Lw s m lim T q W0 B w F N c ps w1) (hcs : cs.toList = xs.flatMap enc) (he : ∀ x, (enc x).length = sz) (hn : xs.length ≤ maxLen) (hm : k = xs.length) :
    Lw s m lim T q W0 (Star (OwnA (.slice (some ⟨w1.heap.size, 0, none⟩) k k) E sz enc xs) B) w F N c ps (w1.alloc (.cells cs E)) := by
  obtain ⟨ns, ks, ss, hrn, hG, hk, hkl, hsl, hA⟩ := h
  exact ⟨ns, ks, ss, hrn, hG, hk, hkl, hsl, SpcA.into (hA.lit (SpcA.lcl hB) hcs he hn hm)⟩
theorem Lw.drew (hB : Lcl B) (h : Lw s m lim T q W0 B w F N c ps w1) : Lw s m lim T q W0 B w F N c ps w1.drew := by
  obtain ⟨ns, ks, ss, hrn, hG, hk, hkl, hsl, hA⟩ := h
  exact ⟨ns, ks, ss, hrn, hG, hk, hkl, hsl, At.drew (SpcA.lcl hB) hA⟩
end
end Go.Proofs.Ytcoeknnghfajnaa
end
section
set_option linter.unusedVariables false
set_option linter.unusedSimpArgs false
namespace Go.Sy
open Go.Bd
/-- It depends on some variables that follow each other. -/
def IvIn (s w : Nat) (G : BFn) : Prop := ∀ a b : Nat → Bool, (∀ i, s ≤ i → i < s + w → a i = b i) → G a = G b
theorem cov_iv {n s w N : Nat} {G : BFn} (h : IvIn s w G) (hN : 2 ^ w ≤ N + 1) : CovW n (fun K => K = G) N := by
  refine ⟨(List.range w).flatMap fun k => (List.range (2 ^ k)).map fun p => fun b => G (pfx (fun i => p.testBit (k - 1 - (i - s))) (s + k) b), by have := len_pats (fun k p => fun b => G (pfx (fun i => p.testBit (k - 1 - (i - s))) (s + k) b)) w; omega, ?_⟩
  rintro _ rfl t a ht ⟨b, hb⟩
  have hin : ∃ k, k < w ∧ t = s + k := by
    apply Classical.byContradiction
    intro hn
    apply hb
    refine h _ _ fun p h1 h2 => ?_
    unfold pfx
    by_cases h3 : p < t
    · rw [if_pos h3, if_pos h3]
    · rw [if_neg h3, if_neg h3]
      by_cases h4 : p = t
      · exact absurd ⟨p - s, by omega, by omega⟩ hn
      · rw [upd_ne h4, upd_ne h4]
  obtain ⟨k, hk, rfl⟩ := hin
  obtain ⟨p, hp, hbits⟩ := bits_of (fun i => a (s + i)) k
  refine List.mem_flatMap.2 ⟨k, List.mem_range.2 hk, List.mem_map.2 ⟨p, List.mem_range.2 hp, funext fun c => h _ _ fun q h1 h2 => ?_⟩⟩
  simp only [pfx]
  by_cases h3 : q < s + k
  · rw [if_pos h3, if_pos h3]
    have := hbits (q - s) (by omega)
    rw [show s + (q - s) = q by omega] at this
    exact this.symm
  · rw [if_neg h3, if_neg h3]
/-- A conjunction of a function of the variables before one and a function of the others. -/
theorem cov_and2 {n s NB NR : Nat} {B R : BFn} (hB : ∀ a b : Nat → Bool, (∀ i, i < s → a i = b i) → B a = B b) (hR : ∀ a b : Nat → Bool, (∀ i, s ≤ i → a i = b i) → R a = R b)
    (cB : CovW n (fun K => K = B) NB) (cR : CovW n (fun K => K = R) NR) : CovW n (fun K => K = fun a => B a && R a) (NB + NR) := by
  obtain ⟨LB, b1, b2⟩ := cB
  obtain ⟨LR, r1, r2⟩ := cR
  refine ⟨LB.map (fun K b => K b && R b) ++ LR, by rw [List.length_append, List.length_map]; omega, ?_⟩
  rintro _ rfl t a ht hd
  by_cases hts : t < s
  · have eR : ∀ b, R (pfx a t b) = R b := fun b => hR _ _ fun i hi => by unfold pfx; rw [if_neg (by omega)]
    refine List.mem_append_left _ (List.mem_map.2 ⟨fun b => B (pfx a t b), b2 B rfl t a ht ?_, funext fun b => by
      show (B (pfx a t b) && R b) = (B (pfx a t b) && R (pfx a t b))
      rw [eR]⟩)
    obtain ⟨b, hb⟩ := hd
    refine ⟨b, fun e => hb ?_⟩
    have e : B (pfx a t (upd b t true)) = B (pfx a t (upd b t false)) := e
    show (B (pfx a t (upd b t true)) && R (pfx a t (upd b t true))) = (B (pfx a t (upd b t false)) && R (pfx a t (upd b t false)))
    rw [e, eR, eR, hR (upd b t true) (upd b t false) fun i hi => by rw [upd_ne (by omega), upd_ne (by omega)]]
  · have eB : ∀ b, B (pfx a t b) = B a := fun b => hB _ _ fun i hi => by unfold pfx; rw [if_pos (by omega)]
    cases hBa : B a with
    | false =>
      obtain ⟨b, hb⟩ := hd
      exfalso
      apply hb
      show (B (pfx a t (upd b t true)) && R (pfx a t (upd b t true))) = (B (pfx a t (upd b t false)) && R (pfx a t (upd b t false)))
      rw [eB, eB, hBa]
      rfl
    | true =>
      have e : (fun b => B (pfx a t b) && R (pfx a t b)) = fun b => R (pfx a t b) := funext fun b => by rw [eB, hBa]; rfl
      rw [e] at hd ⊢
      exact List.mem_append_right _ (r2 R rfl t a ht hd)
theorem cov_const {n : Nat} (c : Bool) : CovW n (fun K => K = fun _ => c) 0 := ⟨[], Nat.le_refl _, by
  rintro _ rfl t a ht ⟨b, hb⟩
  exact absurd rfl hb⟩
theorem CovW.list {n N : Nat} {α : Type} (P : α → BFn → Prop) : ∀ l : List α, (∀ x ∈ l, CovW n (P x) N) → CovW n (fun G => ∃ x ∈ l, P x G) (l.length * N)
  | [], _ => (CovW.none n).mono (fun G ⟨x, h, _⟩ => by cases h) (Nat.zero_le _)
  | x :: l, h => ((h x (by simp)).or (CovW.list P l fun y hy => h y (by simp [hy]))).mono (fun G ⟨y, hy, e⟩ => by
      rcases List.mem_cons.1 hy with rfl | hy
      · exact .inl e
      · exact .inr ⟨y, hy, e⟩) (by rw [List.length_cons, Nat.succ_mul, Nat.add_comm]; exact Nat.le_refl _)
/-- A conjunction over pairs of variables. -/
def pairB (b : Nat) (D : Nat → Bool → Bool → Bool) (a : Nat → Bool) : Bool := (List.range b).all fun p => D p (a (2 * p)) (a (2 * p + 1))
theorem pairB_iff {b : Nat} {D : Nat → Bool → Bool → Bool} {a : Nat → Bool} : pairB b D a = true ↔ ∀ p, p < b → D p (a (2 * p)) (a (2 * p + 1)) = true := by
  unfold pairB
  rw [List.all_eq_true]
  exact ⟨fun h p hp => h p (List.mem_range.2 hp), fun h p hp => h p (List.mem_range.1 hp)⟩
def PairF (b : Nat) (G : BFn) : Prop := ∃ c D, ∀ a, G a = (c && pairB b D a)
theorem cov_pair {n : Nat} (D : Nat → Bool → Bool → Bool) : ∀ b, CovW n (fun K => K = pairB b D) (3 * b)
  | 0 => (cov_const true).mono (fun K h => h) (Nat.le_refl _)
  | b + 1 => by
    have e : pairB (b + 1) D = fun a => pairB b D a && D b (a (2 * b)) (a (2 * b + 1)) := funext fun a => by
      unfold pairB
      rw [List.range_succ, List.all_append]
      simp
    rw [e]
    refine (cov_and2 (s := 2 * b) (NR := 3) ?_ ?_ (cov_pair D b) (cov_iv (s := 2 * b) (w := 2) ?_ (by omega))).mono (fun _ h => h) (by omega)
    · intro a c h
      rw [Bool.eq_iff_iff, pairB_iff, pairB_iff]
      constructor <;> intro h2 p hp <;> have := h2 p hp
      · rwa [h _ (by omega), h _ (by omega)] at this
      · rwa [← h _ (by omega), ← h _ (by omega)] at this
    · intro a c h
      rw [h _ (by omega), h _ (by omega)]
    · intro a c h
      show D b (a (2 * b)) (a (2 * b + 1)) = D b (c (2 * b)) (c (2 * b + 1))
      rw [h _ (by omega) (by omega), h _ (by omega) (by omega)]
theorem PairF.cov {n b : Nat} {G : BFn} (h : PairF b G) : CovW n (fun K => K = G) (3 * b) := by
  obtain ⟨c, D, h⟩ := h
  have e : G = fun a => c && pairB b D a := funext h
  rw [e]
  cases c with
  | false => exact (cov_const false).mono (fun _ h => h) (Nat.zero_le _)
  | true => exact cov_pair D b
theorem PairF.const (b : Nat) (c : Bool) : PairF b fun _ => c := ⟨c, fun _ _ _ => true, fun a => by
  have : pairB b (fun _ _ _ => true) a = true := pairB_iff.2 fun _ _ => rfl
  rw [this, Bool.and_true]⟩
theorem PairF.and {b : Nat} {G H : BFn} (h1 : PairF b G) (h2 : PairF b H) : PairF b fun a => G a && H a := by
  obtain ⟨c1, D1, e1⟩ := h1
  obtain ⟨c2, D2, e2⟩ := h2
  refine ⟨c1 && c2, fun p x y => D1 p x y && D2 p x y, fun a => ?_⟩
  show (G a && H a) = _
  rw [e1, e2, Bool.eq_iff_iff]
  simp only [Bool.and_eq_true, pairB_iff]
  exact ⟨fun ⟨⟨p1, p2⟩, q1, q2⟩ => ⟨⟨p1, q1⟩, fun p hp => ⟨p2 p hp, q2 p hp⟩⟩, fun ⟨⟨p1, q1⟩, h⟩ => ⟨⟨p1, fun p hp => (h p hp).1⟩, q1, fun p hp => (h p hp).2⟩⟩
theorem PairF.all {b : Nat} {α : Type} (f : α → BFn) : ∀ l : List α, (∀ x ∈ l, PairF b (f x)) → PairF b fun a => l.all fun x => f x a
  | [], _ => by simpa using PairF.const b true
  | x :: l, h => by
    have := (h x (by simp)).and (PairF.all f l fun y hy => h y (by simp [hy]))
    simpa using this
/-- A function of one pair. -/
theorem PairF.one {b p : Nat} (hp : p < b) (f : Bool → Bool → Bool) : PairF b fun a => f (a (2 * p)) (a (2 * p + 1)) := by
  refine ⟨true, fun q x y => decide (q ≠ p) || f x y, fun a => ?_⟩
  rw [Bool.true_and, Bool.eq_iff_iff, pairB_iff]
  constructor
  · intro h q hq
    by_cases e : q = p
    · subst e; simp [h]
    · simp [e]
  · intro h
    simpa using h p hp
theorem PairF.eq {b : Nat} {G H : BFn} (h : PairF b G) (e : ∀ a, H a = G a) : PairF b H := by
  obtain ⟨c, D, h⟩ := h
  exact ⟨c, D, fun a => by rw [e, h]⟩
/-- The parts of a conjunction over pairs. -/
theorem PairF.parts {b : Nat} {F : BFn} (h : PairF b F) : ∃ L : List BFn, L.length = 3 * b + 4 ∧ ∀ H, IsC F H → H ∈ L := by
  obtain ⟨c, D, hF⟩ := h
  let suf : Nat → BFn := fun q a => (List.range b).all fun p => decide (p < q) || D p (a (2 * p)) (a (2 * p + 1))
  refine ⟨(fun _ => false) :: (List.range (b + 1)).flatMap fun q => [suf q, fun a => D q true (a (2 * q + 1)) && suf (q + 1) a, fun a => D q false (a (2 * q + 1)) && suf (q + 1) a], ?_, ?_⟩
  · have : ∀ (m : Nat) (f g h : Nat → BFn), ((List.range m).flatMap fun q => [f q, g q, h q]).length = 3 * m := fun m f g h => by
      induction m with
      | zero => rfl
      | succ m ih => rw [List.range_succ, List.flatMap_append, List.length_append, ih]; simp; omega
    rw [List.length_cons, this]
    omega
  rintro H ⟨k, a, e⟩
  have eH : H = fun x => c && pairB b D (pfx a k x) := funext fun x => by rw [e, hF]
  have sufI : ∀ q x, suf q x = true ↔ ∀ p, p < b → q ≤ p → D p (x (2 * p)) (x (2 * p + 1)) = true := fun q x => by
    show ((List.range b).all fun p => decide (p < q) || D p (x (2 * p)) (x (2 * p + 1))) = true ↔ _
    rw [List.all_eq_true]
    constructor
    · intro h p hp hq
      have := h p (List.mem_range.2 hp)
      simpa [show ¬ p < q by omega] using this
    · intro h p hp
      by_cases hq : p < q
      · simp [hq]
      · simp [h p (List.mem_range.1 hp) (by omega)]
  obtain ⟨q, hq⟩ : ∃ q, q = min (k / 2) b := ⟨_, rfl⟩
  by_cases hpre : c = true ∧ ∀ p, p < q → D p (a (2 * p)) (a (2 * p + 1)) = true
  · obtain ⟨hc, hpre⟩ := hpre
    refine List.mem_cons_of_mem _ (List.mem_flatMap.2 ⟨q, List.mem_range.2 (by omega), ?_⟩)
    by_cases hodd : k = 2 * q + 1 ∧ q < b
    · have key : H = fun x => D q (a (2 * q)) (x (2 * q + 1)) && suf (q + 1) x := by
        rw [eH, hc]
        funext x
        rw [Bool.true_and, Bool.eq_iff_iff, Bool.and_eq_true, pairB_iff, sufI]
        constructor
        · intro h
          refine ⟨?_, fun p hp hqp => ?_⟩
          · have := h q hodd.2
            unfold pfx at this
            rwa [if_pos (by omega), if_neg (by omega)] at this
          · have := h p hp
            unfold pfx at this
            rwa [if_neg (by omega), if_neg (by omega)] at this
        · rintro ⟨h1, h2⟩ p hp
          unfold pfx
          by_cases e1 : p < q
          · rw [if_pos (by omega), if_pos (by omega)]; exact hpre p e1
          · by_cases e2 : p = q
            · subst e2
              rw [if_pos (by omega), if_neg (by omega)]; exact h1
            · rw [if_neg (by omega), if_neg (by omega)]; exact h2 p hp (by omega)
      rw [key]
      cases a (2 * q) <;> simp
    · have key : H = suf q := by
        rw [eH, hc]
        funext x
        rw [Bool.true_and, Bool.eq_iff_iff, pairB_iff, sufI]
        constructor
        · intro h p hp hqp
          have := h p hp
          unfold pfx at this
          rwa [if_neg (by omega), if_neg (by omega)] at this
        · intro h p hp
          unfold pfx
          by_cases e1 : p < q
          · rw [if_pos (by omega), if_pos (by omega)]; exact hpre p e1
          · rw [if_neg (by omega), if_neg (by omega)]; exact h p hp (by omega)
      rw [key]
      simp
  · have key : H = fun _ => false := by
      rw [eH]
      funext x
      cases hh : (c && pairB b D (pfx a k x)) with
      | false => rfl
      | true =>
        exfalso
        rw [Bool.and_eq_true, pairB_iff] at hh
        apply hpre
        refine ⟨hh.1, fun p hp => ?_⟩
        have := hh.2 p (by omega)
        unfold pfx at this
        rwa [if_pos (by omega), if_pos (by omega)] at this
    rw [key]
    simp
theorem PairF.isc {b : Nat} {F H : BFn} (h : PairF b F) (hc : IsC F H) : PairF b H := by
  obtain ⟨c, D, hF⟩ := h
  obtain ⟨k, a, e⟩ := hc
  refine ⟨c, fun p x y => D p (if 2 * p < k then a (2 * p) else x) (if 2 * p + 1 < k then a (2 * p + 1) else y), fun x => ?_⟩
  rw [e, hF]
  rfl
/-- Some variables gone. -/
theorem PairF.ex {b : Nat} {F G : BFn} {inn : Nat → Bool} (h : PairF b F) (hG : ∀ a, G a = true ↔ qS 1 inn F a) : PairF b G := by
  obtain ⟨c, D, hF⟩ := h
  let E : Nat → Bool → Bool → Bool := fun p x y => [true, false].any fun x' => [true, false].any fun y' => (inn (2 * p) || (x' == x)) && (inn (2 * p + 1) || (y' == y)) && D p x' y'
  have hE : ∀ p x y, E p x y = true ↔ ∃ x' y', (inn (2 * p) = false → x' = x) ∧ (inn (2 * p + 1) = false → y' = y) ∧ D p x' y' = true := fun p x y => by
    constructor
    · intro h
      obtain ⟨x', _, h⟩ := List.any_eq_true.1 h
      obtain ⟨y', _, h⟩ := List.any_eq_true.1 h
      simp only [Bool.and_eq_true, Bool.or_eq_true, beq_iff_eq] at h
      refine ⟨x', y', fun h1 => ?_, fun h1 => ?_, h.2⟩
      · rcases h.1.1 with h2 | h2
        · rw [h1] at h2; cases h2
        · exact h2
      · rcases h.1.2 with h2 | h2
        · rw [h1] at h2; cases h2
        · exact h2
    · rintro ⟨x', y', h1, h2, h3⟩
      refine List.any_eq_true.2 ⟨x', by cases x' <;> simp, List.any_eq_true.2 ⟨y', by cases y' <;> simp, ?_⟩⟩
      simp only [Bool.and_eq_true, Bool.or_eq_true, beq_iff_eq]
      refine ⟨⟨?_, ?_⟩, h3⟩
      · cases hi : inn (2 * p)
        · exact .inr (h1 hi)
        · exact .inl rfl
      · cases hi : inn (2 * p + 1)
        · exact .inr (h2 hi)
        · exact .inl rfl
  refine ⟨c, E, fun a => ?_⟩
  rw [Bool.eq_iff_iff, hG, Bool.and_eq_true, pairB_iff]
  unfold qS
  rw [if_pos rfl]
  constructor
  · rintro ⟨d, h1, h2⟩
    rw [hF, Bool.and_eq_true, pairB_iff] at h2
    exact ⟨h2.1, fun p hp => (hE _ _ _).2 ⟨d (2 * p), d (2 * p + 1), fun hi => h1 _ hi, fun hi => h1 _ hi, h2.2 p hp⟩⟩
  · rintro ⟨hc, h⟩
    have h := fun p hp => (hE _ _ _).1 (h p hp)
    have hx : ∀ p, ∃ z : Bool × Bool, p < b → (inn (2 * p) = false → z.1 = a (2 * p)) ∧ (inn (2 * p + 1) = false → z.2 = a (2 * p + 1)) ∧ D p z.1 z.2 = true := fun p => by
      by_cases hp : p < b
      · obtain ⟨x', y', h1⟩ := h p hp
        exact ⟨(x', y'), fun _ => h1⟩
      · exact ⟨(true, true), fun h => absurd h hp⟩
    obtain ⟨z, hz⟩ := Classical.axiomOfChoice hx
    refine ⟨fun i => if i < 2 * b then (if i % 2 = 0 then (z (i / 2)).1 else (z (i / 2)).2) else a i, fun j hj => ?_, ?_⟩
    · show (if j < 2 * b then _ else a j) = a j
      by_cases hjb : j < 2 * b
      · rw [if_pos hjb]
        have hz2 := hz (j / 2) (by omega)
        rcases Nat.mod_two_eq_zero_or_one j with h0 | h0
        · have ej : 2 * (j / 2) = j := by omega
          rw [ej] at hz2
          rw [if_pos h0]
          exact hz2.1 hj
        · have ej : 2 * (j / 2) + 1 = j := by omega
          rw [ej] at hz2
          rw [if_neg (by omega)]
          exact hz2.2.1 hj
      · rw [if_neg hjb]
    · rw [hF, Bool.and_eq_true, pairB_iff]
      refine ⟨hc, fun p hp => ?_⟩
      have := (hz p hp).2.2
      rw [if_pos (by omega), if_pos (by omega), if_pos (by omega), if_neg (by omega), show 2 * p / 2 = p by omega, show (2 * p + 1) / 2 = p by omega]
      exact this
/-- Pairs of variables mapped. -/
theorem PairF.map {b : Nat} {H : BFn} (h : PairF b H) (σ : (Nat → Bool) → Nat → Bool) (f g : Bool → Bool → Bool) (h0 : ∀ a p, p < b → σ a (2 * p) = f (a (2 * p)) (a (2 * p + 1))) (h1 : ∀ a p, p < b → σ a (2 * p + 1) = g (a (2 * p)) (a (2 * p + 1))) : PairF b fun a => H (σ a) := by
  obtain ⟨c, D, hF⟩ := h
  refine ⟨c, fun p x y => D p (f x y) (g x y), fun a => ?_⟩
  show H (σ a) = _
  rw [hF, Bool.eq_iff_iff, Bool.and_eq_true, Bool.and_eq_true, pairB_iff, pairB_iff]
  constructor <;> rintro ⟨h2, h3⟩ <;> refine ⟨h2, fun p hp => ?_⟩ <;> have := h3 p hp
  · rwa [h0 a p hp, h1 a p hp] at this
  · rw [h0 a p hp, h1 a p hp]; exact this
/-- What is made of the parts of a conjunction over pairs. -/
theorem PairF.fam {n b : Nat} {F : BFn} (h : PairF b F) (P : BFn → BFn → Prop) (hP : ∀ H, IsC F H → ∀ G, P H G → PairF b G) (hu : ∀ H G G', P H G → P H G' → G = G') : CovW n (fun G => ∃ H, IsC F H ∧ P H G) ((3 * b + 4) * (3 * b)) := by
  obtain ⟨L, hl, hL⟩ := h.parts
  have := CovW.list (n := n) (N := 3 * b) (fun H G => IsC F H ∧ P H G) L fun H _ => by
    by_cases hH : IsC F H
    · exact (cov_uniq (hu H) fun G hG => (hP H hH G hG).cov).mono (fun G h => h.2) (Nat.le_refl _)
    · exact (CovW.none n).mono (fun G h => hH h.1) (Nat.zero_le _)
  rw [hl] at this
  exact this.mono (fun G ⟨H, h1, h2⟩ => ⟨H, hL H h1, h1, h2⟩) (Nat.le_refl _)
end Go.Sy
namespace Go.Sy
open Go.Bd
/-- A conjunction over some pairs of variables that follow each other. -/
def PairL (s w : Nat) (G : BFn) : Prop := ∃ (c : Bool) (D : Nat → Bool → Bool → Bool), ∀ a, G a = (c && (List.range w).all fun p => D p (a (2 * (s + p))) (a (2 * (s + p) + 1)))
theorem rangeAll {w : Nat} {f : Nat → Bool} : ((List.range w).all f) = true ↔ ∀ p, p < w → f p = true := by
  rw [List.all_eq_true]
  exact ⟨fun h p hp => h p (List.mem_range.2 hp), fun h p hp => h p (List.mem_range.1 hp)⟩
theorem PairL.eq {s w : Nat} {G H : BFn} (h : PairL s w G) (e : ∀ a, H a = G a) : PairL s w H := by
  obtain ⟨c, D, h⟩ := h
  exact ⟨c, D, fun a => by rw [e, h]⟩
theorem PairL.const (s w : Nat) (c : Bool) : PairL s w fun _ => c := ⟨c, fun _ _ _ => true, fun a => by
  have : ((List.range w).all fun p => true) = true := rangeAll.2 fun _ _ => rfl
  rw [this, Bool.and_true]⟩
theorem PairL.and {s w : Nat} {G H : BFn} (h1 : PairL s w G) (h2 : PairL s w H) : PairL s w fun a => G a && H a := by
  obtain ⟨c1, D1, e1⟩ := h1
  obtain ⟨c2, D2, e2⟩ := h2
  refine ⟨c1 && c2, fun p x y => D1 p x y && D2 p x y, fun a => ?_⟩
  show (G a && H a) = _
  rw [e1, e2, Bool.eq_iff_iff]
  simp only [Bool.and_eq_true, rangeAll]
  exact ⟨fun ⟨⟨p1, p2⟩, q1, q2⟩ => ⟨⟨p1, q1⟩, fun p hp => ⟨p2 p hp, q2 p hp⟩⟩, fun ⟨⟨p1, q1⟩, h⟩ => ⟨⟨p1, fun p hp => (h p hp).1⟩, q1, fun p hp => (h p hp).2⟩⟩
theorem PairL.all {s w : Nat} {α : Type} (f : α → BFn) : ∀ l : List α, (∀ x ∈ l, PairL s w (f x)) → PairL s w fun a => l.all fun x => f x a
  | [], _ => by simpa using PairL.const s w true
  | x :: l, h => by
    have := (h x (by simp)).and (PairL.all f l fun y hy => h y (by simp [hy]))
    simpa using this
theorem PairL.one {s w p : Nat} (hp : p < w) (f : Bool → Bool → Bool) : PairL s w fun a => f (a (2 * (s + p))) (a (2 * (s + p) + 1)) := by
  refine ⟨true, fun q x y => decide (q ≠ p) || f x y, fun a => ?_⟩
  rw [Bool.true_and, Bool.eq_iff_iff, rangeAll]
  constructor
  · intro h q hq
    by_cases e : q = p
    · subst e; simp [h]
    · simp [e]
  · intro h
    simpa using h p hp
theorem PairL.cov {n s w : Nat} {G : BFn} (h : PairL s w G) : CovW n (fun K => K = G) (3 * w) := by
  obtain ⟨c, D, h⟩ := h
  have e : G = fun a => c && (List.range w).all fun p => D p (a (2 * (s + p))) (a (2 * (s + p) + 1)) := funext h
  rw [e]
  cases c with
  | false => exact (cov_const false).mono (fun _ h => h) (Nat.zero_le _)
  | true =>
    clear e h
    show CovW n (fun K => K = fun a => (List.range w).all fun p => D p (a (2 * (s + p))) (a (2 * (s + p) + 1))) (3 * w)
    induction w with
    | zero => exact (cov_const true).mono (fun K h => h) (Nat.le_refl _)
    | succ w ih =>
      have e : (fun a : Nat → Bool => (List.range (w + 1)).all fun p => D p (a (2 * (s + p))) (a (2 * (s + p) + 1))) = fun a => ((List.range w).all fun p => D p (a (2 * (s + p))) (a (2 * (s + p) + 1))) && D w (a (2 * (s + w))) (a (2 * (s + w) + 1)) := funext fun a => by
        rw [List.range_succ, List.all_append]
        simp
      rw [e]
      refine (cov_and2 (s := 2 * (s + w)) (B := fun a => (List.range w).all fun p => D p (a (2 * (s + p))) (a (2 * (s + p) + 1))) (R := fun a => D w (a (2 * (s + w))) (a (2 * (s + w) + 1))) (NR := 3) ?_ ?_ ih (cov_iv (s := 2 * (s + w)) (w := 2) ?_ (by omega))).mono (fun _ h => h) (by omega)
      · intro a c h
        show ((List.range w).all fun p => D p (a (2 * (s + p))) (a (2 * (s + p) + 1))) = ((List.range w).all fun p => D p (c (2 * (s + p))) (c (2 * (s + p) + 1)))
        rw [Bool.eq_iff_iff, rangeAll, rangeAll]
        constructor <;> intro h2 p hp <;> have := h2 p hp
        · rwa [h _ (by omega), h _ (by omega)] at this
        · rwa [← h _ (by omega), ← h _ (by omega)] at this
      · intro a c h
        show D w (a (2 * (s + w))) (a (2 * (s + w) + 1)) = D w (c (2 * (s + w))) (c (2 * (s + w) + 1))
        rw [h _ (by omega), h _ (by omega)]
      · intro a c h
        show D w (a (2 * (s + w))) (a (2 * (s + w) + 1)) = D w (c (2 * (s + w))) (c (2 * (s + w) + 1))
        rw [h _ (by omega) (by omega), h _ (by omega) (by omega)]
theorem PairL.pair {s w b : Nat} {G : BFn} (h : PairL s w G) (hb : s + w ≤ b) : PairF b G := by
  obtain ⟨c, D, h⟩ := h
  refine ⟨c, fun p x y => decide (p < s) || decide (s + w ≤ p) || D (p - s) x y, fun a => ?_⟩
  rw [h, Bool.eq_iff_iff, Bool.and_eq_true, Bool.and_eq_true, rangeAll, pairB_iff]
  constructor
  · rintro ⟨h1, h2⟩
    refine ⟨h1, fun p hp => ?_⟩
    by_cases e1 : p < s
    · simp [e1]
    by_cases e2 : s + w ≤ p
    · simp [e2]
    have := h2 (p - s) (by omega)
    rw [show s + (p - s) = p by omega] at this
    simp [this]
  · rintro ⟨h1, h2⟩
    refine ⟨h1, fun p hp => ?_⟩
    have := h2 (s + p) (by omega)
    simpa [show ¬ s + p < s by omega, show ¬ s + w ≤ s + p by omega, show s + p - s = p by omega] using this
/-- So many functions. -/
def FinW (W : BFn → Prop) (N : Nat) : Prop := ∃ L : List BFn, L.length ≤ N ∧ ∀ G, W G → G ∈ L
theorem FinW.mono {W W' : BFn → Prop} {N N' : Nat} (h : FinW W N) (hw : ∀ G, W' G → W G) (hn : N ≤ N') : FinW W' N' := by
  obtain ⟨L, a, b⟩ := h
  exact ⟨L, Nat.le_trans a hn, fun G hG => b G (hw G hG)⟩
theorem FinW.one (F : BFn) : FinW (fun G => G = F) 1 := ⟨[F], Nat.le_refl _, fun G h => by simp [h]⟩
theorem FinW.none : FinW (fun _ => False) 0 := ⟨[], Nat.le_refl _, fun G h => h.elim⟩
theorem FinW.or {W1 W2 : BFn → Prop} {N1 N2 : Nat} (h1 : FinW W1 N1) (h2 : FinW W2 N2) : FinW (fun G => W1 G ∨ W2 G) (N1 + N2) := by
  obtain ⟨L1, a1, b1⟩ := h1
  obtain ⟨L2, a2, b2⟩ := h2
  refine ⟨L1 ++ L2, by rw [List.length_append]; omega, fun G hG => ?_⟩
  rcases hG with h | h
  · exact List.mem_append_left _ (b1 G h)
  · exact List.mem_append_right _ (b2 G h)
theorem FinW.each {c : Nat} (P : Nat → BFn → Prop) : ∀ k, (∀ i, i < k → FinW (P i) c) → FinW (fun G => ∃ i, i < k ∧ P i G) (k * c)
  | 0, _ => FinW.none.mono (fun G ⟨i, hi, _⟩ => by omega) (Nat.zero_le _)
  | k + 1, h => ((FinW.each P k fun i hi => h i (by omega)).or (h k (by omega))).mono (fun G ⟨i, hi, e⟩ => by
      by_cases hk : i = k
      · subst hk; exact .inr e
      · exact .inl ⟨i, by omega, e⟩) (by rw [Nat.succ_mul]; exact Nat.le_refl _)
theorem FinW.opt {α : Type} {N : Nat} {l : List α} {j : Nat} {P : α → BFn → Prop} (h : ∀ x, l[j]? = some x → FinW (P x) N) : FinW (fun G => ∃ x, l[j]? = some x ∧ P x G) N := by
  cases hx : l[j]? with
  | none => exact FinW.none.mono (fun G ⟨x, h, _⟩ => by cases h) (Nat.zero_le _)
  | some y => exact (h y hx).mono (fun G ⟨x, h, hP⟩ => by cases h; exact hP) (Nat.le_refl _)
theorem FinW.cov {n N C : Nat} {W : BFn → Prop} (h : FinW W N) (hC : ∀ G, W G → CovW n (fun K => K = G) C) : CovW n W (N * C) := by
  obtain ⟨L, a, b⟩ := h
  refine (CovW.list (n := n) (N := C) (fun H G => G = H ∧ W H) L fun H _ => ?_).mono (fun G hG => ⟨G, b G hG, rfl, hG⟩) (Nat.mul_le_mul_right _ a)
  by_cases hH : W H
  · exact (hC H hH).mono (fun G h => h.1) (Nat.le_refl _)
  · exact (CovW.none n).mono (fun G h => hH h.2) (Nat.zero_le _)
end Go.Sy
end
