/-
  A part of the proofs of this seat's statements (BdW9); no conditions beyond those each theorem names.
-/
import Derived.Test.YtkojilpjpdpmaaaRBdWs
import Derived.Test.YtkojilpjpdpmaaaRBdEx
set_option maxRecDepth 100000
set_option linter.unusedSimpArgs false
set_option linter.unusedVariables false
namespace Go.Proofs.YtkojilpjpdpmaaaR
open Go Go.W Go.Bd Go.Maps
theorem num_nil (w : World) : Calls Try.prog 29 [.nilIface].toArray w fun e w' => ∃ x, e = .returned x ∧ x = .int .i64 0 ∧ Kp [] w w' := by
  refine enter Try.func29 mixed low29 (Nat.le_of_ble_eq_true rfl) ?_
  simp only [L29]
  simp
  exact Kp.refl _ _
theorem num_err (c : Int) (w : World) : Calls Try.prog 29 [errV c].toArray w fun e w' => ∃ x, e = .returned x ∧ x = .int .i64 c ∧ Kp [] w w' := by
  refine enter Try.func29 mixed low29 (Nat.le_of_ble_eq_true rfl) ?_
  simp only [L29]
  simp [errV]
  exact Kp.refl _ _
theorem is_err (c k : Int) (w : World) : Calls Try.prog 20 [errV c, .int .i64 k].toArray w fun e w' => ∃ x, e = .returned x ∧ x = .bool (decide (c = k)) ∧ Kp [] w w' := by
  refine enter Try.func20 mixed low20 (Nat.le_of_ble_eq_true rfl) ?_
  simp only [L20]
  simp [errV]
  refine cl_of (num_err c w) ?_
  rintro v w2 ⟨rfl, k2⟩
  simp
  refine ⟨?_, k2⟩
  by_cases h : c = k <;> simp [h]
theorem nodes_nil (w : World) : Calls Try.prog 21 [.pointer none].toArray w fun e w' => ∃ x, e = .returned x ∧ x = .int .i64 0 ∧ Kp [] w w' := by
  refine enter Try.func21 mixed low21 (Nat.le_of_ble_eq_true rfl) ?_
  simp only [L21]
  simp
  exact Kp.refl _ _
theorem nodes_spec {m n lim : Nat} {ns : Ns} {w : World} (h : MgrF w m n lim ns) : Calls Try.prog 21 [.pointer (some ⟨m, 0, none⟩)].toArray w fun e w' => ∃ x, e = .returned x ∧ x = natV ns.length ∧ Kp [] w w' := by
  refine enter Try.func21 mixed low21 (Nat.le_of_ble_eq_true rfl) ?_
  simp only [L21]
  obtain ⟨nv, b, ho, hown, _⟩ := h
  unfold mgrO at ho
  simp [cell_blk ho, hown.len]
  exact ⟨rfl, Kp.refl _ _⟩
theorem eval_nil (f : Int) (u : Value) (w : World) : Calls Try.prog 17 [.pointer none, .int .i64 f, u].toArray w fun e w' => ∃ x, e = .returned x ∧ x = .tuple #[.bool false, errV 3] ∧ Kp [] w w' := by
  refine enter Try.func17 mixed low17 (Nat.le_of_ble_eq_true rfl) ?_
  simp only [L17]
  simp [rowOf]
  refine cl_of (check_nil _ _) ?_
  rintro v w2 ⟨rfl, k2⟩
  simp [errV]
  exact ((Kp.refl [] w).alloc _).trans0 k2
theorem size_nil (f : Int) (w : World) : Calls Try.prog 18 [.pointer none, .int .i64 f].toArray w fun e w' => ∃ x, e = .returned x ∧ x = noV 3 ∧ Kp [] w w' := by
  refine enter Try.func18 mixed low18 (Nat.le_of_ble_eq_true rfl) ?_
  simp only [L18]
  simp [rowOf]
  refine cl_of (check_nil _ _) ?_
  rintro v w2 ⟨rfl, k2⟩
  simp [errV]
  exact ⟨rfl, ((Kp.refl [] w).alloc _).trans0 k2⟩
theorem pick_nil (f : Int) (w : World) : Calls Try.prog 19 [.pointer none, .int .i64 f].toArray w fun e w' => ∃ x, e = .returned x ∧ x = .tuple #[.slice none 0 0, errV 3] ∧ Kp [] w w' := by
  refine enter Try.func19 mixed low19 (Nat.le_of_ble_eq_true rfl) ?_
  simp only [L19]
  simp [rowOf]
  refine cl_of (check_nil _ _) ?_
  rintro v w2 ⟨rfl, k2⟩
  simp [errV]
  exact ((Kp.refl [] w).alloc _).trans0 k2
theorem awake_spec (w : World) : Calls Try.prog 11 #[] w fun e w' => ∃ x, e = .returned x ∧ x = .bool true ∧ Kp [] w w' := by
  refine enter Try.func11 mixed low11 (Nat.le_of_ble_eq_true rfl) ?_
  simp only [L11]
  have hE : Lcl Emp := Lcl.emp
  have h0 : At w [] Emp w := At.start rfl
  simp
  refine cl_of (new_spec 3 100 hE h0 (by omega) (by omega) (by omega)) ?_
  rintro _ w1 ⟨m, rfl, h1⟩
  simp
  refine cl_of (var_spec m 3 100 [] 0 hE h1 ⟨by omega, by omega, by simp⟩ (by omega)) ?_
  rintro _ w2 ⟨rfl, h2⟩
  rw [ex_mk1] at h2 ⊢
  simp [optV, okV]
  refine cl_of (var_spec m 3 100 ex1 1 hE h2 ⟨by omega, by omega, by simp [ex1]⟩ (by omega)) ?_
  rintro _ w3 ⟨rfl, h3⟩
  rw [ex_mk2] at h3 ⊢
  simp [optV, okV]
  refine cl_of (and_of (R := fun v w' => BinPost m 3 100 0 exS ex2 2 3 Emp w [] v w') (binary_spec m 3 100 ex2 0 2 3 exS (by omega) hE h3 ex_wf2 ⟨by omega, by omega, by simp [ex2]⟩ ex_r2 ex_r3 ex_clo.2 ex_clo.1) ?_) ?_
  · rintro v w' ⟨r, ns', rfl, _⟩
    exact optV_tup r
  rintro _ w4 ⟨r, ns', rfl, hb, h4⟩
  obtain ⟨f, rfl, hf⟩ := ex_and hb
  have hbn : Bnd 3 100 ns' := ⟨by omega, by omega, hb.lim⟩
  have hfl := hf.len
  have hfr := hf.ref
  have hfr' : f < ns'.length + 2 := hfr
  simp [optV, okV]
  refine cl_of (Count_spec m 3 100 ns' f hE h4 hf.ext.wf hbn hfr) ?_
  rintro _ w5 ⟨rfl, h5⟩
  rw [ex_count hf]
  have hl : Lcl (Star (MgrA m 3 100 ns') Emp) := Lcl.mgr.star hE
  have h6 := (lit_ints (xs := [0]) (cs := #[.int .i64 0]) hl h5 rfl (by simp) rfl).own_vw.rot
  simp [cntV, many, okV, rowOf]
  have hv : ∀ x ∈ [(0 : Int)], 0 ≤ x ∧ x < (3 : Nat) := by simp
  have i0 : inB (insOf 3 [(0 : Int)]) 0 = true := by rw [insOf_get hv]; simp
  have i1 : inB (insOf 3 [(0 : Int)]) 1 = false := by rw [insOf_get hv]; simp
  refine cl_of (exists_of (R := fun v w' => QuPost m 3 100 1 [0] _ ns' f Emp w [] v w') (quantified_spec m 3 100 ns' 1 f _ [0] (by omega) hE h6 hf.ext.wf hbn hfr (by simp) (by simp [varB])) ?_) ?_
  · rintro v w' ⟨r, ns2, M', rfl, _⟩
    exact optV_tup r
  rintro _ w7 ⟨r, ns2, M', rfl, hq, h7⟩
  have := ex_some hf i0 i1 hq
  subst this
  have hne := ex_ne hf
  have hne' : ((f : Int) == 2) = false := by rw [beq_eq_false_iff_ne]; omega
  have hne2 : ¬ (f : Int) = 2 := by omega
  simp [optV, okV, hne', hne2]
  exact h7.2
theorem law_nil (f v : Int) (w : World) : Calls Try.prog 3 [.int .i64 f, .int .i64 v].toArray w fun e w' => ∃ x, e = .returned x ∧ x = .bool true ∧ Kp [] w w' := by
  refine enter Try.func3 mixed low3 (Nat.le_of_ble_eq_true rfl) ?_
  simp only [L3]
  simp
  refine cl_of (awake_spec w) ?_
  rintro _ w1 ⟨rfl, k1⟩
  simp
  refine cl_of (var_nil v w1) ?_
  rintro _ w2 ⟨rfl, k2⟩
  have k02 := k1.trans0 k2
  simp [noV]
  have cut : ∀ {F : Nat} {args : Array Value} {w : World} {x : Value}, Calls Try.prog F args w (fun e w' => ∃ y, e = .returned y ∧ y = x ∧ Kp [] w w') → Calls Try.prog F args w fun e w' => ∃ y, e = .returned y ∧ (y = x ∧ Kp [] w w') := fun h => h
  refine cl_of (not_of (R := fun x w' => x = noV 3 ∧ Kp [] w2 w') (binary_nil 2 f 1 w2) (by rintro _ _ ⟨rfl, _⟩; exact noV_tup 3)) ?_
  rintro _ w3 ⟨rfl, k3⟩
  have k03 := k02.trans0 k3
  simp [noV]
  refine cl_of (or_of (R := fun x w' => x = noV 3 ∧ Kp [] w3 w') (binary_nil 1 f f w3) (by rintro _ _ ⟨rfl, _⟩; exact noV_tup 3)) ?_
  rintro _ w4 ⟨rfl, k4⟩
  have k04 := k03.trans0 k4
  simp [noV]
  refine cl_of (xor_of (R := fun x w' => x = noV 3 ∧ Kp [] w4 w') (binary_nil 2 f f w4) (by rintro _ _ ⟨rfl, _⟩; exact noV_tup 3)) ?_
  rintro _ w5 ⟨rfl, k5⟩
  have k05 := k04.trans0 k5
  simp [noV, rowOf]
  refine cl_of (exists_of (R := fun x w' => x = noV 3 ∧ Kp [] _ w') (quantified_nil 1 f _ _) (by rintro _ _ ⟨rfl, _⟩; exact noV_tup 3)) ?_
  rintro _ w6 ⟨rfl, k6⟩
  have k06 := k05.trans0 (((Kp.refl [] w5).alloc _).trans0 k6)
  simp [noV]
  refine cl_of (eval_nil f _ w6) ?_
  rintro _ w7 ⟨rfl, k7⟩
  have k07 := k06.trans0 k7
  simp
  refine cl_of (size_nil f w7) ?_
  rintro _ w8 ⟨rfl, k8⟩
  have k08 := k07.trans0 k8
  simp [noV]
  refine cl_of (pick_nil f w8) ?_
  rintro _ w9 ⟨rfl, k9⟩
  have k09 := k08.trans0 k9
  have ka := k09.alloc (.cells #[Value.iface 38 (.int .i64 3), Value.iface 38 (.int .i64 3), Value.iface 38 (.int .i64 3), Value.iface 38 (.int .i64 3), Value.iface 38 (.int .i64 3), Value.iface 38 (.int .i64 3), Value.iface 38 (.int .i64 3), Value.iface 38 (.int .i64 3)] 25)
  have hA := (At.start (A := Emp) (F := []) (w := w9) rfl).lit (enc := fun (_ : Unit) => [Value.iface 38 (.int .i64 3)]) (sz := 1) (E := 25) (xs := List.replicate 8 ()) (cs := #[Value.iface 38 (.int .i64 3), Value.iface 38 (.int .i64 3), Value.iface 38 (.int .i64 3), Value.iface 38 (.int .i64 3), Value.iface 38 (.int .i64 3), Value.iface 38 (.int .i64 3), Value.iface 38 (.int .i64 3), Value.iface 38 (.int .i64 3)]) Lcl.emp rfl (fun _ => rfl) (by simp [maxLen]) (m := 8) (by simp)
  have hv := hA.own.vw
  simp [rowOf, errV, hv.len]
  refine range_loop (n := 8) (by omega) (fun k ρ w1 => ρ 5 = .pointer none ∧ ρ 86 = .slice (some ⟨w9.heap.size, 0, none⟩) 8 8 ∧ Kp [] w w1 ∧ Vw w1 (.slice (some ⟨w9.heap.size, 0, none⟩) 8 8) (fun (_ : Unit) => [Value.iface 38 (.int .i64 3)]) (List.replicate 8 ())) (by simp) (by simp)
    ⟨by simp, by simp, ka, hv⟩ (by decide) (fun _ _ _ _ h => by simpa using h) (fun _ _ _ _ h => by simpa using h) ?_ ?_
  · rintro k ρ w1 hk hc hlim ⟨g5, g86, kp, hv⟩
    have hget : (List.replicate 8 ())[k]? = some () := by simp [hk]
    have hcell : w1.cell? { block := w9.heap.size, off := k } = some (Value.iface 38 (.int .i64 3)) := by
      have h := Vw.cell (f := fun _ : Unit => Value.iface 38 (.int .i64 3)) hv hget
      simp [Addr.add] at h
      by_cases h0 : k = 0
      · simpa [h0] using h
      · simpa [h0] using h
    simp (disch := omega) [g5, g86, hc, hv.idx]
    refine gd_mk (by omega) ?_
    simp [g5, g86, hc, hcell]
    refine cl_of (is_err 3 3 w1) ?_
    rintro _ w2 ⟨rfl, k2⟩
    simp [hc, hlim, g5, g86]
    exact ⟨kp.trans0 k2, hv.kp0 k2⟩
  · rintro ρ w1 ⟨g5, g86, kp, hv⟩
    simp [g5]
    refine cl_of (nodes_nil w1) ?_
    rintro _ w2 ⟨rfl, k2⟩
    simp
    exact kp.trans0 k2
end Go.Proofs.YtkojilpjpdpmaaaR
