/-
  A part of the proofs of this seat's statements (BdLE); no conditions beyond those each theorem names.
-/
import Derived.Test.YtkojilpjpdpmaaaRBdWA
set_option maxRecDepth 100000
set_option linter.unusedSimpArgs false
set_option linter.unusedVariables false
namespace Go.Proofs.YtkojilpjpdpmaaaR
open Go Go.W Go.Bd Go.Maps
theorem eight_vw (w : World) (e : Value) (cs : Array Value) (hc : cs = #[e, e, e, e, e, e, e, e]) : Vw (w.alloc (.cells cs 25)) (.slice (some ⟨w.heap.size, 0, none⟩) 8 8) (fun (_ : Unit) => [e]) (List.replicate 8 ()) := by
  subst hc
  exact ((At.start (A := Emp) (F := []) (w := w) rfl).lit (enc := fun (_ : Unit) => [e]) (sz := 1) (E := 25) (xs := List.replicate 8 ()) Lcl.emp rfl (fun _ => rfl) (by simp [maxLen]) (m := 8) (by simp)).own.vw
theorem eight_cell {w1 : World} {b k : Nat} {e : Value} (hv : Vw w1 (.slice (some ⟨b, 0, none⟩) 8 8) (fun (_ : Unit) => [e]) (List.replicate 8 ())) (hk : k < 8) : w1.cell? { block := b, off := k } = some e := by
  have hget : (List.replicate 8 ())[k]? = some () := by simp [hk]
  have h := Vw.cell (f := fun _ : Unit => e) hv hget
  simp [Addr.add] at h
  by_cases h0 : k = 0
  · simpa [h0] using h
  · simpa [h0] using h
set_option maxHeartbeats 4000000 in
theorem law_errors (vars size ref v : Int) (w : World) : Calls Try.prog 10 [.int .i64 vars, .int .i64 size, .int .i64 ref, .int .i64 v].toArray w fun e w' => ∃ x, e = .returned x ∧ x = .bool true ∧ Kp [] w w' := by
  refine enter Try.func10 mixed low10 (Nat.le_of_ble_eq_true rfl) ?_
  simp only [L10]
  simp
  refine cl_of (awake_spec w) ?_
  rintro _ w1 ⟨rfl, k1⟩
  simp
  cases hn : newB vars size with
  | false =>
    refine cl_of (new_bad vars size hn) ?_
    rintro _ w2 ⟨rfl, k2⟩
    have k02 := k1.trans0 k2
    obtain h | h | h | h : vars < 0 ∨ (¬ vars < 0 ∧ 256 < vars) ∨ (¬ vars < 0 ∧ ¬ 256 < vars ∧ size < 1) ∨ (¬ vars < 0 ∧ ¬ 256 < vars ∧ ¬ size < 1 ∧ 1048576 < size) := by
      simp [newB] at hn; omega
    all_goals
      simp [errV, h]
      refine cl_of (is_err 1 1 w2) ?_
      rintro _ w3 ⟨rfl, k3⟩
      simp
      exact k02.trans0 k3
  | true =>
  obtain ⟨a1, a2, a3, a4⟩ : 0 ≤ vars ∧ vars ≤ 256 ∧ 1 ≤ size ∧ size ≤ 1048576 := by simp [newB] at hn; omega
  obtain ⟨n, rfl⟩ : ∃ n : Nat, vars = n := ⟨vars.toNat, by omega⟩
  obtain ⟨lim, rfl⟩ : ∃ n : Nat, size = n := ⟨size.toNat, by omega⟩
  have hE : Lcl Emp := Lcl.emp
  have h0 : At w1 [] Emp w1 := At.start rfl
  refine cl_of (new_spec n lim hE h0 (by omega) (by omega) (by omega)) ?_
  rintro _ w2 ⟨m, rfl, h2⟩
  have b1 : ¬ (n : Int) < 0 := by omega
  have b2 : ¬ (256 : Int) < n := by omega
  have b3 : ¬ (lim : Int) < 1 := by omega
  have b4 : ¬ (1048576 : Int) < lim := by omega
  have b5 : ¬ lim = 0 := by omega
  simp [b1, b2, b3, b4, b5]
  refine cl_of (nodes_spec (MgrA.rd h2)) ?_
  rintro _ w3 ⟨rfl, k3⟩
  have h3 := h2.kp0 (Lcl.mgr.star hE) k3
  have bn : Bnd n lim [] := ⟨by omega, by omega, by simp⟩
  simp [natV]
  by_cases hv : v < 0 ∨ (n : Int) ≤ v
  · refine cl_of (var_bad v (MgrA.rd h3) hv) ?_
    rintro _ w4 ⟨rfl, k4⟩
    have h4 := h3.kp0 (Lcl.mgr.star hE) k4
    have hvb : varB n v = false := by simp [varB]; omega
    have r0 : refB [] 0 = true := rfl
    have r1 : refB [] 1 = true := rfl
    obtain h | h : v < 0 ∨ (¬ v < 0 ∧ (n : Int) ≤ v) := by omega
    all_goals
      simp [noV, h]
      refine cl_of (is_err 1 1 w4) ?_
      rintro _ w5 ⟨rfl, k5⟩
      have h5 := h4.kp0 (Lcl.mgr.star hE) k5
      have ka5 : Kp [] w5 (w5.alloc (.cells #[.int .i64 v] 3)) := (Kp.refl _ _).alloc _
      have vw5 := lit_vw (w := w5) (xs := [v]) (cs := #[.int .i64 v]) (k := 1) rfl (by simp) rfl
      simp [rowOf]
      refine cl_of (exists_of (R := fun x w' => x = noV 1 ∧ Kp [] _ w') (quantified_badV 1 1 v ((MgrA.rd h5).kp0 ka5) bn r1 vw5 hvb) (by rintro _ _ ⟨rfl, _⟩; exact noV_tup 1)) ?_
      rintro _ w6 ⟨rfl, k6⟩
      have h6 := h5.kp0 (Lcl.mgr.star hE) (ka5.trans0 k6)
      have ka6 : Kp [] w6 (w6.alloc (.cells #[.int .i64 v] 3)) := (Kp.refl _ _).alloc _
      have vw6 := lit_vw (w := w6) (xs := [v]) (cs := #[.int .i64 v]) (k := 1) rfl (by simp) rfl
      simp [noV, rowOf]
      refine cl_of (forall_of (R := fun x w' => x = noV 1 ∧ Kp [] _ w') (quantified_badV 0 0 v ((MgrA.rd h6).kp0 ka6) bn r0 vw6 hvb) (by rintro _ _ ⟨rfl, _⟩; exact noV_tup 1)) ?_
      rintro _ w7 ⟨rfl, k7⟩
      have h7 := h6.kp0 (Lcl.mgr.star hE) (ka6.trans0 k7)
      have ka7 : Kp [] w7 (w7.alloc (.cells #[.int .i64 v] 3)) := (Kp.refl _ _).alloc _
      have vw7 := lit_vw (w := w7) (xs := [v]) (cs := #[.int .i64 v]) (k := 1) rfl (by simp) rfl
      simp [noV, rowOf]
      refine cl_of (andExists_badV 1 1 v ((MgrA.rd h7).kp0 ka7) bn r1 r1 vw7 hvb) ?_
      rintro _ w8 ⟨rfl, k8⟩
      have h8 := h7.kp0 (Lcl.mgr.star hE) (ka7.trans0 k8)
      simp [noV]
      refine cl_of (restrict_badV 1 v true (MgrA.rd h8) bn r1 hvb) ?_
      rintro _ w9 ⟨rfl, k9⟩
      have h9 := h8.kp0 (Lcl.mgr.star hE) k9
      simp [noV]
      refine cl_of (is_err 1 1 w9) ?_
      rintro _ wa ⟨rfl, ka⟩
      simp
      refine cl_of (is_err 1 1 wa) ?_
      rintro _ wb ⟨rfl, kb⟩
      simp
      refine cl_of (is_err 1 1 wb) ?_
      rintro _ wc ⟨rfl, kc⟩
      simp
      refine cl_of (is_err 1 1 wc) ?_
      rintro _ wd ⟨rfl, kd⟩
      have hd := h9.kp0 (Lcl.mgr.star hE) (((ka.trans0 kb).trans0 kc).trans0 kd)
      simp
      have hl : Lcl (Star (MgrA m n lim []) Emp) := Lcl.mgr.star hE
      obtain hr | hr | hr : (0 ≤ ref ∧ ref ≤ 1) ∨ ¬ 0 ≤ ref ∨ (0 ≤ ref ∧ ¬ ref ≤ 1) := by omega
      · simp [hr]
        exact k1.trans0 hd.2
      all_goals
        have hrb : refB [] ref = false := by simp [refB]; omega
        simp [hr, errV]
        refine cl_of (not_of (R := fun x w' => x = noV 1 ∧ Kp [] wd w') (binary_badF 2 ref 1 (MgrA.rd hd) bn (by simp [hrb])) (by rintro _ _ ⟨rfl, _⟩; exact noV_tup 1)) ?_
        rintro _ we ⟨rfl, ke⟩
        have he := hd.kp0 hl ke
        simp [noV]
        refine cl_of (and_of (R := fun x w' => x = noV 1 ∧ Kp [] we w') (binary_badF 0 1 ref (MgrA.rd he) bn (by simp [hrb])) (by rintro _ _ ⟨rfl, _⟩; exact noV_tup 1)) ?_
        rintro _ wf ⟨rfl, kf⟩
        have hf := he.kp0 hl kf
        simp [noV]
        refine cl_of (ite_badF 1 1 ref (MgrA.rd hf) bn (by simp [hrb])) ?_
        rintro _ wg ⟨rfl, kg⟩
        have hg := hf.kp0 hl kg
        simp [noV]
        refine cl_of (eval_badF ref _ (MgrA.rd hg) bn hrb) ?_
        rintro _ wh ⟨rfl, kh⟩
        have hh := hg.kp0 hl kh
        simp
        refine cl_of (count_badF ref (MgrA.rd hh) bn hrb) ?_
        rintro _ wi ⟨rfl, ki⟩
        have hi := hh.kp0 hl ki
        simp [noV]
        refine cl_of (cubes_badF ref 5 (MgrA.rd hi) bn hrb) ?_
        rintro _ wj ⟨rfl, kj⟩
        have hj := hi.kp0 hl kj
        simp
        refine cl_of (pick_badF ref (MgrA.rd hj) bn hrb) ?_
        rintro _ wk ⟨rfl, kk⟩
        have hk := hj.kp0 hl kk
        simp
        refine gd_mk (by omega) ?_
        simp
        refine cl_of (rename_badF ref _ ((MgrA.rd hk).kp0 ((Kp.refl _ _).alloc _)) bn hrb) ?_
        rintro _ wl ⟨rfl, kl⟩
        have hL := hk.kp0 hl (((Kp.refl [] wk).alloc _).trans0 kl)
        have vw := eight_vw wl (.iface 38 (.int .i64 1)) _ rfl
        have kz : Kp [] w wl := k1.trans0 hL.2
        simp [rowOf, noV, errV, vw.len]
        refine range_loop (n := 8) (by omega) (fun k ρ w1 => ρ 237 = .slice (some ⟨wl.heap.size, 0, none⟩) 8 8 ∧ Kp [] w w1 ∧ Vw w1 (.slice (some ⟨wl.heap.size, 0, none⟩) 8 8) (fun (_ : Unit) => [.iface 38 (.int .i64 1)]) (List.replicate 8 ())) (by simp) (by simp)
          ⟨by simp, kz.alloc _, vw⟩ (by decide) (fun _ _ _ _ h => by simpa using h) (fun _ _ _ _ h => by simpa using h) ?_ ?_
        · rintro k ρ w1 hk hc hlim ⟨g237, kp, hv⟩
          have hcell := eight_cell hv hk
          simp (disch := omega) [g237, hc, hv.idx]
          refine gd_mk (by omega) ?_
          simp [g237, hc, hcell]
          refine cl_of (is_err 1 1 w1) ?_
          rintro _ w2 ⟨rfl, k2⟩
          simp [hc, hlim, g237]
          exact ⟨kp.trans0 k2, hv.kp0 k2⟩
        · rintro ρ w1 ⟨g237, kp, hv⟩
          simp
          exact kp
  · obtain ⟨i, rfl⟩ : ∃ i : Nat, v = i := ⟨v.toNat, by omega⟩
    have hi : i < n := by omega
    have hmk : mkF lim [] i 0 1 = (some 2, [⟨i, 0, 1⟩]) := by
      have : ¬ lim ≤ 0 := by omega
      simp [mkF]; omega
    have wx : Wf n [⟨i, 0, 1⟩] := by
      have := (mkF_ok (n := n) (lim := lim) (Wf.nil n) (v := i) (l := 0) (h := 1) hi (Ref.zero _) (Ref.one _) (by rw [tv_lt (by omega)]; omega) (by rw [tv_lt (by omega)]; omega)).ext.wf
      rwa [hmk] at this
    have rx : Ref [(⟨i, 0, 1⟩ : Nd)] 2 := by unfold Ref; simp
    have ex : Bd.eval [⟨i, 0, 1⟩] (inB []) 2 = false := by
      rw [eval_node wx _ (by omega) rx]
      have : at_ n [(⟨i, 0, 1⟩ : Nd)] 2 = ⟨i, 0, 1⟩ := by simp [at_]
      rw [this, eval_zero, eval_one]; simp [inB]
    refine cl_of (var_spec m n lim [] i hE h3 bn hi) ?_
    rintro _ w4 ⟨rfl, h4⟩
    rw [hmk] at h4 ⊢
    have bn : Bnd n lim [⟨i, 0, 1⟩] := ⟨by omega, by omega, by simp; omega⟩
    have c1 : ¬ (i : Int) < 0 := by omega
    have c2 : ¬ (n : Int) ≤ i := by omega
    have c3 : ¬ n ≤ i := by omega
    simp [optV, okV, c1, c2, c3]
    refine cl_of (eval_spec 2 _ [] (MgrA.rd h4) bn wx rx (Vw.nil _ _) (by simp)) ?_
    rintro _ w5 ⟨rfl, k5⟩
    have h5 := h4.kp0 (Lcl.mgr.star hE) k5
    rw [ex]
    simp
    refine cl_of (nodes_spec (MgrA.rd h5)) ?_
    rintro _ wd ⟨rfl, k6⟩
    have hd := h5.kp0 (Lcl.mgr.star hE) k6
    simp [natV]
    have hl : Lcl (Star (MgrA m n lim [⟨i, 0, 1⟩]) Emp) := Lcl.mgr.star hE
    obtain hr | hr | hr : (0 ≤ ref ∧ ref ≤ 1) ∨ ¬ 0 ≤ ref ∨ (0 ≤ ref ∧ ¬ ref ≤ 1) := by omega
    · simp [hr]
      exact k1.trans0 hd.2
    all_goals
      by_cases hr2 : ref = 2
      · subst hr2
        simp
        exact k1.trans0 hd.2
      have hrb : refB [⟨i, 0, 1⟩] ref = false := by simp [refB]; omega
      have hr3 : (ref == 2) = false := by rw [beq_eq_false_iff_ne]; exact hr2
      simp [hr, hr3]
      refine cl_of (not_of (R := fun x w' => x = noV 1 ∧ Kp [] wd w') (binary_badF 2 ref 1 (MgrA.rd hd) bn (by simp [hrb])) (by rintro _ _ ⟨rfl, _⟩; exact noV_tup 1)) ?_
      rintro _ we ⟨rfl, ke⟩
      have he := hd.kp0 hl ke
      simp [noV]
      refine cl_of (and_of (R := fun x w' => x = noV 1 ∧ Kp [] we w') (binary_badF 0 1 ref (MgrA.rd he) bn (by simp [hrb])) (by rintro _ _ ⟨rfl, _⟩; exact noV_tup 1)) ?_
      rintro _ wf ⟨rfl, kf⟩
      have hf := he.kp0 hl kf
      simp [noV]
      refine cl_of (ite_badF 1 1 ref (MgrA.rd hf) bn (by simp [hrb])) ?_
      rintro _ wg ⟨rfl, kg⟩
      have hg := hf.kp0 hl kg
      simp [noV]
      refine cl_of (eval_badF ref _ (MgrA.rd hg) bn hrb) ?_
      rintro _ wh ⟨rfl, kh⟩
      have hh := hg.kp0 hl kh
      simp
      refine cl_of (count_badF ref (MgrA.rd hh) bn hrb) ?_
      rintro _ wi ⟨rfl, ki⟩
      have hi := hh.kp0 hl ki
      simp [noV]
      refine cl_of (cubes_badF ref 5 (MgrA.rd hi) bn hrb) ?_
      rintro _ wj ⟨rfl, kj⟩
      have hj := hi.kp0 hl kj
      simp
      refine cl_of (pick_badF ref (MgrA.rd hj) bn hrb) ?_
      rintro _ wk ⟨rfl, kk⟩
      have hk := hj.kp0 hl kk
      simp
      refine gd_mk (by omega) ?_
      simp
      refine cl_of (rename_badF ref _ ((MgrA.rd hk).kp0 ((Kp.refl _ _).alloc _)) bn hrb) ?_
      rintro _ wl ⟨rfl, kl⟩
      have hL := hk.kp0 hl (((Kp.refl [] wk).alloc _).trans0 kl)
      have vw := eight_vw wl (.iface 38 (.int .i64 1)) _ rfl
      have kz : Kp [] w wl := k1.trans0 hL.2
      simp [rowOf, noV, errV, vw.len]
      refine range_loop (n := 8) (by omega) (fun k ρ w1 => ρ 237 = .slice (some ⟨wl.heap.size, 0, none⟩) 8 8 ∧ Kp [] w w1 ∧ Vw w1 (.slice (some ⟨wl.heap.size, 0, none⟩) 8 8) (fun (_ : Unit) => [.iface 38 (.int .i64 1)]) (List.replicate 8 ())) (by simp) (by simp)
        ⟨by simp, kz.alloc _, vw⟩ (by decide) (fun _ _ _ _ h => by simpa using h) (fun _ _ _ _ h => by simpa using h) ?_ ?_
      · rintro k ρ w1 hk hc hlim ⟨g237, kp, hv⟩
        have hcell := eight_cell hv hk
        simp (disch := omega) [g237, hc, hv.idx]
        refine gd_mk (by omega) ?_
        simp [g237, hc, hcell]
        refine cl_of (is_err 1 1 w1) ?_
        rintro _ w2 ⟨rfl, k2⟩
        simp [hc, hlim, g237]
        exact ⟨kp.trans0 k2, hv.kp0 k2⟩
      · rintro ρ w1 ⟨g237, kp, hv⟩
        simp
        exact kp
end Go.Proofs.YtkojilpjpdpmaaaR
