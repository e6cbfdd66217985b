/-
  A part of the proofs of this seat's statements (BdWA); no conditions beyond those each theorem names.
-/
import Derived.Test.YtkojilpjpdpmaaaRBdW9
set_option maxRecDepth 100000
set_option linter.unusedSimpArgs false
set_option linter.unusedVariables false
namespace Go.Proofs.YtkojilpjpdpmaaaR
open Go Go.W Go.Bd Go.Maps
theorem lit_vw {w : World} {xs : List Int} {cs : Array Value} {k : Nat} (hcs : cs.toList = xs.flatMap iv) (hx : xs.length ≤ 1000000) (hk : k = xs.length) :
    Vw (w.alloc (.cells cs 3)) (.slice (some ⟨w.heap.size, 0, none⟩) k k) iv xs :=
  (lit_ints Lcl.emp (At.start (A := Emp) (F := []) (w := w) rfl) hcs hx hk).own.vw
theorem check_lit {m n lim : Nat} {ns : Ns} {w : World} (xs : List Int) {cs : Array Value} {k : Nat} (h : MgrF w m n lim ns) (hb : Bnd n lim ns) (hcs : cs.toList = xs.flatMap iv) (hx : xs.length ≤ 1000000) (hk : k = xs.length) :
    Calls Try.prog 50 [.pointer (some ⟨m, 0, none⟩), .slice (some ⟨w.heap.size, 0, none⟩) k k].toArray (w.alloc (.cells cs 3)) fun e w' => ∃ x, e = .returned x ∧ x = chkV (xs.all (refB ns)) ∧ Kp [] w w' := by
  have ka : Kp [] w (w.alloc (.cells cs 3)) := (Kp.refl _ _).alloc _
  refine (check_spec m n lim ns _ xs _ (h.kp0 ka) hb (lit_vw hcs hx hk) hx).mono ?_
  rintro e w' ⟨v, rfl, rfl, k⟩
  exact ⟨_, rfl, rfl, ka.trans0 k⟩
theorem checkVars_lit {m n lim : Nat} {ns : Ns} {w : World} (xs : List Int) {cs : Array Value} {k : Nat} (h : MgrF w m n lim ns) (hcs : cs.toList = xs.flatMap iv) (hx : xs.length ≤ 1000000) (hk : k = xs.length) :
    Calls Try.prog 67 [.pointer (some ⟨m, 0, none⟩), .slice (some ⟨w.heap.size, 0, none⟩) k k].toArray (w.alloc (.cells cs 3)) fun e w' => ∃ x, e = .returned x ∧ x = chkV (xs.all (varB n)) ∧ Kp [] w w' := by
  have ka : Kp [] w (w.alloc (.cells cs 3)) := (Kp.refl _ _).alloc _
  refine (checkVars_spec m n lim ns _ xs _ (h.kp0 ka) (lit_vw hcs hx hk) hx).mono ?_
  rintro e w' ⟨v, rfl, rfl, k⟩
  exact ⟨_, rfl, rfl, ka.trans0 k⟩
section
variable {m n lim : Nat} {ns : Ns} {w : World}
theorem binary_badF (op f g : Int) (h : MgrF w m n lim ns) (hb : Bnd n lim ns) (hf : (refB ns f && refB ns g) = false) :
    Calls Try.prog 48 [.pointer (some ⟨m, 0, none⟩), .int .i64 op, .int .i64 f, .int .i64 g].toArray w fun e w' => ∃ x, e = .returned x ∧ x = noV 1 ∧ Kp [] w w' := by
  refine enter Try.func48 mixed low48 (Nat.le_of_ble_eq_true rfl) ?_
  simp only [L48]
  simp [rowOf]
  refine cl_of (check_lit [f, g] h hb rfl (by simp) rfl) ?_
  rintro v w2 ⟨rfl, k2⟩
  have : [f, g].all (refB ns) = false := by simpa using hf
  rw [this]
  simp [chkV, errV]
  exact ⟨rfl, k2⟩
theorem count_badF (f : Int) (h : MgrF w m n lim ns) (hb : Bnd n lim ns) (hf : refB ns f = false) :
    Calls Try.prog 25 [.pointer (some ⟨m, 0, none⟩), .int .i64 f].toArray w fun e w' => ∃ x, e = .returned x ∧ x = noV 1 ∧ Kp [] w w' := by
  refine enter Try.func25 mixed low25 (Nat.le_of_ble_eq_true rfl) ?_
  simp only [L25]
  simp [rowOf]
  refine cl_of (check_lit [f] h hb rfl (by simp) rfl) ?_
  rintro v w2 ⟨rfl, k2⟩
  simp [chkV, errV, hf]
  exact ⟨rfl, k2⟩
theorem eval_badF (f : Int) (u : Value) (h : MgrF w m n lim ns) (hb : Bnd n lim ns) (hf : refB ns f = false) :
    Calls Try.prog 17 [.pointer (some ⟨m, 0, none⟩), .int .i64 f, u].toArray w fun e w' => ∃ x, e = .returned x ∧ x = .tuple #[.bool false, errV 1] ∧ Kp [] w w' := by
  refine enter Try.func17 mixed low17 (Nat.le_of_ble_eq_true rfl) ?_
  simp only [L17]
  simp [rowOf]
  refine cl_of (check_lit [f] h hb rfl (by simp) rfl) ?_
  rintro v w2 ⟨rfl, k2⟩
  simp [chkV, errV, hf]
  exact k2
theorem ite_badF (f g x : Int) (h : MgrF w m n lim ns) (hb : Bnd n lim ns) (hf : (refB ns f && refB ns g && refB ns x) = false) :
    Calls Try.prog 46 [.pointer (some ⟨m, 0, none⟩), .int .i64 f, .int .i64 g, .int .i64 x].toArray w fun e w' => ∃ x, e = .returned x ∧ x = noV 1 ∧ Kp [] w w' := by
  refine enter Try.func46 mixed low46 (Nat.le_of_ble_eq_true rfl) ?_
  simp only [L46]
  simp [rowOf]
  refine cl_of (check_lit [f, g, x] h hb rfl (by simp) rfl) ?_
  rintro v w2 ⟨rfl, k2⟩
  have : [f, g, x].all (refB ns) = false := by simpa [Bool.and_assoc] using hf
  rw [this]
  simp [chkV, errV]
  exact ⟨rfl, k2⟩
theorem cubes_badF (f k : Int) (h : MgrF w m n lim ns) (hb : Bnd n lim ns) (hf : refB ns f = false) :
    Calls Try.prog 40 [.pointer (some ⟨m, 0, none⟩), .int .i64 f, .int .i64 k].toArray w fun e w' => ∃ x, e = .returned x ∧ x = .tuple #[.slice none 0 0, errV 1] ∧ Kp [] w w' := by
  refine enter Try.func40 mixed low40 (Nat.le_of_ble_eq_true rfl) ?_
  simp only [L40]
  simp [rowOf]
  refine cl_of (check_lit [f] h hb rfl (by simp) rfl) ?_
  rintro v w2 ⟨rfl, k2⟩
  simp [chkV, errV, hf]
  exact k2
theorem pick_badF (f : Int) (h : MgrF w m n lim ns) (hb : Bnd n lim ns) (hf : refB ns f = false) :
    Calls Try.prog 19 [.pointer (some ⟨m, 0, none⟩), .int .i64 f].toArray w fun e w' => ∃ x, e = .returned x ∧ x = .tuple #[.slice none 0 0, errV 1] ∧ Kp [] w w' := by
  refine enter Try.func19 mixed low19 (Nat.le_of_ble_eq_true rfl) ?_
  simp only [L19]
  simp [rowOf]
  refine cl_of (check_lit [f] h hb rfl (by simp) rfl) ?_
  rintro v w2 ⟨rfl, k2⟩
  simp [chkV, errV, hf]
  exact k2
theorem support_badF (f : Int) (h : MgrF w m n lim ns) (hb : Bnd n lim ns) (hf : refB ns f = false) :
    Calls Try.prog 24 [.pointer (some ⟨m, 0, none⟩), .int .i64 f].toArray w fun e w' => ∃ x, e = .returned x ∧ x = .tuple #[.slice none 0 0, errV 1] ∧ Kp [] w w' := by
  refine enter Try.func24 mixed low24 (Nat.le_of_ble_eq_true rfl) ?_
  simp only [L24]
  simp [rowOf]
  refine cl_of (check_lit [f] h hb rfl (by simp) rfl) ?_
  rintro v w2 ⟨rfl, k2⟩
  simp [chkV, errV, hf]
  exact k2
theorem rename_badF (f : Int) (u : Value) (h : MgrF w m n lim ns) (hb : Bnd n lim ns) (hf : refB ns f = false) :
    Calls Try.prog 28 [.pointer (some ⟨m, 0, none⟩), .int .i64 f, u].toArray w fun e w' => ∃ x, e = .returned x ∧ x = noV 1 ∧ Kp [] w w' := by
  refine enter Try.func28 mixed low28 (Nat.le_of_ble_eq_true rfl) ?_
  simp only [L28]
  simp
  refine cl_of (support_badF f h hb hf) ?_
  rintro v w2 ⟨rfl, k2⟩
  simp [errV]
  exact ⟨rfl, k2⟩
/-- A variable that does not exist. -/
theorem quantified_badV (op f v : Int) (h : MgrF w m n lim ns) (hb : Bnd n lim ns) (hf : refB ns f = true) {u : Value} (hu : Vw w u iv [v]) (hv : varB n v = false) :
    Calls Try.prog 49 [.pointer (some ⟨m, 0, none⟩), .int .i64 op, .int .i64 f, u].toArray w fun e w' => ∃ x, e = .returned x ∧ x = noV 1 ∧ Kp [] w w' := by
  refine enter Try.func49 mixed low49 (Nat.le_of_ble_eq_true rfl) ?_
  simp only [L49]
  simp [rowOf]
  refine cl_of (check_lit [f] h hb rfl (by simp) rfl) ?_
  rintro _ w2 ⟨rfl, k2⟩
  simp [chkV, hf]
  refine cl_of (checkVars_spec m n lim ns u [v] _ (h.kp0 k2) (hu.kp0 k2) (by simp)) ?_
  rintro _ w3 ⟨rfl, k3⟩
  simp [chkV, errV, hv]
  exact ⟨rfl, k2.trans0 k3⟩
theorem andExists_badV (f g v : Int) (h : MgrF w m n lim ns) (hb : Bnd n lim ns) (hf : refB ns f = true) (hg : refB ns g = true) {u : Value} (hu : Vw w u iv [v]) (hv : varB n v = false) :
    Calls Try.prog 44 [.pointer (some ⟨m, 0, none⟩), .int .i64 f, .int .i64 g, u].toArray w fun e w' => ∃ x, e = .returned x ∧ x = noV 1 ∧ Kp [] w w' := by
  refine enter Try.func44 mixed low44 (Nat.le_of_ble_eq_true rfl) ?_
  simp only [L44]
  simp [rowOf]
  refine cl_of (check_lit [f, g] h hb rfl (by simp) rfl) ?_
  rintro _ w2 ⟨rfl, k2⟩
  simp [chkV, hf, hg]
  refine cl_of (checkVars_spec m n lim ns u [v] _ (h.kp0 k2) (hu.kp0 k2) (by simp)) ?_
  rintro _ w3 ⟨rfl, k3⟩
  simp [chkV, errV, hv]
  exact ⟨rfl, k2.trans0 k3⟩
theorem restrict_badV (f v : Int) (b : Bool) (h : MgrF w m n lim ns) (hb : Bnd n lim ns) (hf : refB ns f = true) (hv : varB n v = false) :
    Calls Try.prog 45 [.pointer (some ⟨m, 0, none⟩), .int .i64 f, .int .i64 v, .bool b].toArray w fun e w' => ∃ x, e = .returned x ∧ x = noV 1 ∧ Kp [] w w' := by
  refine enter Try.func45 mixed low45 (Nat.le_of_ble_eq_true rfl) ?_
  simp only [L45]
  simp [rowOf]
  refine cl_of (check_lit [f] h hb rfl (by simp) rfl) ?_
  rintro _ w2 ⟨rfl, k2⟩
  simp [chkV, hf, rowOf]
  refine cl_of (checkVars_lit [v] (h.kp0 k2) rfl (by simp) rfl) ?_
  rintro _ w3 ⟨rfl, k3⟩
  simp [chkV, errV, hv]
  exact ⟨rfl, k2.trans0 k3⟩
theorem eval_spec (f : Nat) (u : Value) (bs : List Bool) (h : MgrF w m n lim ns) (hb : Bnd n lim ns) (hw : Wf n ns) (hf : Ref ns f) (hu : Vw w u bv bs) (hn : bs.length ≤ 1000000) :
    Calls Try.prog 17 [.pointer (some ⟨m, 0, none⟩), .int .i64 (f : Nat), u].toArray w fun e w' => ∃ x, e = .returned x ∧ x = .tuple #[.bool (eval ns (inB bs) f), .nilIface] ∧ Kp [] w w' := by
  obtain ⟨hbn, hbl, hbs⟩ := hb
  refine enter Try.func17 mixed low17 (Nat.le_of_ble_eq_true rfl) ?_
  simp only [L17]
  simp [rowOf]
  refine cl_of (check_lit [(f : Int)] h ⟨hbn, hbl, hbs⟩ rfl (by simp) rfl) ?_
  rintro _ w2 ⟨rfl, k2⟩
  have hr : [(f : Int)].all (refB ns) = true := by
    unfold Ref at hf
    simp [refB]; omega
  rw [hr]
  simp [chkV]
  refine loop_inv (fun q ρ w1 => ρ 0 = .pointer (some ⟨m, 0, none⟩) ∧ ρ 1 = .int .i64 (q : Nat) ∧ ρ 2 = u ∧ Ref ns q ∧ eval ns (inB bs) q = eval ns (inB bs) f ∧ Kp [] w w1) f ⟨by simp, by simp, by simp, hf, rfl, k2⟩ ?_
  rintro q ρ w1 ⟨g0, g1, g2, hq, he, kp⟩
  by_cases h2 : q < 2
  · have h2' : ¬ (1 : Int) < q := by omega
    have h2'' : ¬ 1 < q := by omega
    simp [g0, g1, g2, h2', h2'']
    refine ⟨?_, kp⟩
    rw [← he]
    have : q = 0 ∨ q = 1 := by omega
    rcases this with rfl | rfl
    · rw [eval_zero]; rfl
    · rw [eval_one]; rfl
  · have h2' : (1 : Int) < q := by omega
    have h2'' : 1 < q := by omega
    have hq' : q < ns.length + 2 := hq
    simp [g0, g1, g2, h2', h2'']
    refine cl_of (at_spec m n lim q ns w1 (h.kp0 kp) ⟨hbn, hbl, hbs⟩ hq) ?_
    rintro _ w3 ⟨rfl, k3⟩
    have k03 := kp.trans0 k3
    have l1 := hw.lt_low (by omega) hq
    have l2 := hw.lt_high (by omega) hq
    have rl := hw.ref_low hq
    have rh := hw.ref_high hq
    have ee := eval_node hw (inB bs) (by omega) hq
    have tvn := hw.tv_var (by omega) hq
    have etv : tv n ns q = (at_ n ns q).v := rfl
    obtain ⟨nd, hnd⟩ : ∃ nd, nd = at_ n ns q := ⟨_, rfl⟩
    rw [← hnd] at l1 l2 rl rh ee etv ⊢
    simp [ndV, en_len]
    refine st_obj alloc_new (by simp [en, ints]) (by simp [en, ints]) ?_
    intro w4 hk4 hs4 hb4
    have k04 : Kp [] w w4 := k03.trans0 (((Kp.refl [] w3).alloc _).trans' hk4 (fun x hx => .inr (by simp at hx; omega)))
    have hu4 := hu.kp0 k04
    have e3 : wrAt #[.int .i64 0, .int .i64 0, .int .i64 0] 0 (en nd) = (en nd).toArray := by simp [en, ints]
    rw [e3] at hb4
    simp [cell_blk hb4, en, ints, g2, hu4.len]
    by_cases hv : nd.v < bs.length
    · have hv' : (nd.v : Int) < bs.length := by omega
      have hget : bs[nd.v]? = some bs[nd.v] := List.getElem?_eq_getElem hv
      obtain ⟨bb, hbb⟩ : ∃ bb, bb = bs[nd.v] := ⟨_, rfl⟩
      rw [← hbb] at hget
      have hin : inB bs nd.v = bb := by simp [inB, List.getD, hget]
      simp (disch := omega) [hv, hv', hu4.idx, bv_cell hu4 hget, cell_blk hb4, g2, en, ints]
      rw [hin] at ee
      cases bb with
      | true =>
        simp [cell_blk hb4, g0, g1, g2, en, ints]
        exact ⟨nd.high, by omega, rfl, rh, by rw [← he, ee]; rfl, k04⟩
      | false =>
        simp [cell_blk hb4, g0, g1, g2, en, ints]
        exact ⟨nd.low, by omega, rfl, rl, by rw [← he, ee]; rfl, k04⟩
    · have hv' : ¬ (nd.v : Int) < bs.length := by omega
      have hin : inB bs nd.v = false := by simp [inB, List.getD, List.getElem?_eq_none (Nat.le_of_not_lt hv)]
      rw [hin] at ee
      simp [hv, hv', g0, g1, g2]
      exact ⟨nd.low, by omega, rfl, rl, by rw [← he, ee]; rfl, k04⟩
end
end Go.Proofs.YtkojilpjpdpmaaaR
