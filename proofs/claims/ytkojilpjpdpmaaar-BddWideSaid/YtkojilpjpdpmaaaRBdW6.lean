/-
  A part of the proofs of this seat's statements (BdW6); no conditions beyond those each theorem names.
-/
import Derived.Test.YtkojilpjpdpmaaaRBdW5
set_option maxRecDepth 100000
set_option linter.unusedSimpArgs false
set_option linter.unusedVariables false
namespace Go.Proofs.YtkojilpjpdpmaaaR
open Go Go.W Go.Bd Go.Maps
def varB (n : Nat) (x : Int) : Bool := decide (0 ≤ x) && decide (x < n)
theorem checkVars_spec (m n lim : Nat) (ns : Ns) (v : Value) (xs : List Int) (w : World) (h : MgrF w m n lim ns) (hv : Vw w v iv xs) (hx : xs.length ≤ 1000000) :
    Calls Try.prog 67 [.pointer (some ⟨m, 0, none⟩), v].toArray w fun e w' => ∃ x, e = .returned x ∧ x = chkV (xs.all (varB n)) ∧ Kp [] w w' := by
  refine enter Try.func67 mixed low67 (Nat.le_of_ble_eq_true rfl) ?_
  simp only [L67]
  simp [hv.len]
  refine range_loop (n := xs.length) (by omega) (fun k ρ w1 => ρ 0 = .pointer (some ⟨m, 0, none⟩) ∧ ρ 7 = v ∧ (∀ j x, j < k → xs[j]? = some x → varB n x = true) ∧ Kp [] w w1) (by simp) (by simp)
    ⟨by simp, by simp, by simp, Kp.refl _ _⟩ (by decide) (fun _ _ _ _ h => by simpa using h) (fun _ _ _ _ h => by simpa using h) ?_ ?_
  · rintro k ρ w1 hk hc hlim ⟨g0, g7, hall, hkp⟩
    have hv1 := hv.kp0 hkp
    obtain ⟨nv, b, ho, hown, _⟩ := h.kp0 hkp
    have ek : xs[k]? = some xs[k] := List.getElem?_eq_getElem hk
    obtain ⟨x, hxe⟩ : ∃ x, x = xs[k] := ⟨_, rfl⟩
    rw [← hxe] at ek
    have bad : varB n x = false → xs.all (varB n) = false := fun h => by
      rw [List.all_eq_false]
      exact ⟨x, List.mem_of_getElem? ek, by simp [h]⟩
    unfold mgrO at ho
    simp (disch := omega) [g0, g7, hc, hv1.idx, iv_cell hv1 ek, cell_blk ho]
    by_cases h1 : x < 0
    · simp [h1]
      refine ⟨?_, hkp⟩
      rw [bad (by simp [varB]; omega)]; rfl
    by_cases h2 : (n : Int) ≤ x
    · simp (disch := omega) [h1, h2, cell_blk ho, g0]
      refine ⟨?_, hkp⟩
      rw [bad (by simp [varB]; omega)]; rfl
    · simp (disch := omega) [h1, h2, cell_blk ho, hc, hlim, g0, g7]
      refine ⟨fun j y hj hy => ?_, hkp⟩
      rcases Nat.lt_or_ge j k with h3 | h3
      · exact hall j y h3 hy
      · have : j = k := by omega
        subst this
        rw [ek] at hy
        rw [← Option.some.inj hy]
        simp [varB]; omega
  · rintro ρ w1 ⟨g0, g7, hall, hkp⟩
    simp
    refine ⟨?_, hkp⟩
    have : xs.all (varB n) = true := by
      rw [List.all_eq_true]
      intro x hx
      obtain ⟨j, hj⟩ := List.getElem?_of_mem hx
      exact hall j x (List.getElem?_eq_some_iff.1 hj).1 hj
    rw [this]; rfl
/-- The marks of the variables of a list. -/
def insOf (n : Nat) (xs : List Int) : List Bool := xs.foldl (fun l v => l.set v.toNat true) (List.replicate (n + 1) false)
theorem insOf_len (n : Nat) (xs : List Int) : (insOf n xs).length = n + 1 := by
  have key : ∀ (xs : List Int) (l : List Bool), (xs.foldl (fun l v => l.set v.toNat true) l).length = l.length := by
    intro xs
    induction xs with
    | nil => intro l; rfl
    | cons x xs ih => intro l; rw [List.foldl_cons, ih]; simp
  rw [insOf, key]; simp
theorem insOf_snoc (n : Nat) (xs : List Int) (x : Int) : insOf n (xs ++ [x]) = (insOf n xs).set x.toNat true := by simp [insOf, List.foldl_append]
theorem insOf_take {n : Nat} {xs : List Int} {k : Nat} {x : Int} (h : xs[k]? = some x) : insOf n (xs.take (k + 1)) = (insOf n (xs.take k)).set x.toNat true := by
  have hk := (List.getElem?_eq_some_iff.1 h).1
  rw [← insOf_snoc]
  congr 1
  rw [List.take_add_one, h]; rfl
theorem quantified_nil (op f : Int) (v : Value) (w : World) : Calls Try.prog 49 [.pointer none, .int .i64 op, .int .i64 f, v].toArray w fun e w' => ∃ x, e = .returned x ∧ x = noV 3 ∧ Kp [] w w' := by
  refine enter Try.func49 mixed low49 (Nat.le_of_ble_eq_true rfl) ?_
  simp only [L49]
  simp [rowOf]
  refine cl_of (check_nil _ _) ?_
  rintro v w2 ⟨rfl, k2⟩
  simp [errV]
  exact ⟨rfl, ((Kp.refl [] w).alloc _).trans0 k2⟩
theorem quantified_bad {w w1 : World} {F : List Nat} {B : Asr} (m n lim : Nat) (ns : Ns) (op : Nat) (f : Int) (v : Value) (xs : List Int) (hB : Lcl B) (hA : At w F (Star (MgrA m n lim ns) (Star (VwA v iv xs) B)) w1) (hb : Bnd n lim ns) (hx : xs.length ≤ 1000000) (h : (refB ns f && xs.all (varB n)) = false) :
    Calls Try.prog 49 [.pointer (some ⟨m, 0, none⟩), .int .i64 (op : Nat), .int .i64 f, v].toArray w1 fun e w' => ∃ x, e = .returned x ∧ x = noV 1 ∧ At w F (Star (MgrA m n lim ns) (Star (VwA v iv xs) B)) w' := by
  refine enter Try.func49 mixed low49 (Nat.le_of_ble_eq_true rfl) ?_
  simp only [L49]
  have hl : Lcl (Star (MgrA m n lim ns) (Star (VwA v iv xs) B)) := Lcl.mgr.star (Lcl.vw.star hB)
  have h1 := lit_ints (xs := [f]) (cs := #[.int .i64 f]) hl hA rfl (by simp) rfl
  simp [rowOf]
  refine cl_of (check_spec m n lim ns _ [f] _ (MgrA.rd h1.drop) hb h1.own.vw (by simp)) ?_
  rintro u w2 ⟨rfl, k2⟩
  have h2 := (h1.drop).kp0 hl k2
  cases hr : refB ns f with
  | false =>
    simp [chkV, errV, hr]
    exact ⟨rfl, h2⟩
  | true =>
    have hf : xs.all (varB n) = false := by simpa [hr] using h
    simp [chkV, hr]
    refine cl_of (checkVars_spec m n lim ns v xs _ (MgrA.rd h2) h2.drop.vw hx) ?_
    rintro u w3 ⟨rfl, k3⟩
    rw [hf]
    simp [chkV, errV]
    exact ⟨rfl, h2.kp0 hl k3⟩
def QuPost (m n lim op : Nat) (xs : List Int) (vv : Value) (ns : Ns) (f : Nat) (B : Asr) (w : World) (F : List Nat) (v : Value) (w' : World) : Prop :=
  ∃ r ns' M', v = optV r ∧ QOk n lim op (inB (insOf n xs)) ns f r ns' M' ∧ At w F (Star (MgrA m n lim ns') (Star (VwA vv iv xs) B)) w'
theorem quantified_spec {w w1 : World} {F : List Nat} {B : Asr} (m n lim : Nat) (ns : Ns) (op f : Nat) (v : Value) (xs : List Int) (hop : op ≤ 1) (hB : Lcl B) (hA : At w F (Star (MgrA m n lim ns) (Star (VwA v iv xs) B)) w1) (hw : Wf n ns) (hb : Bnd n lim ns) (hf : Ref ns f) (hx : xs.length ≤ 1000000) (hv : xs.all (varB n) = true) :
    Calls Try.prog 49 [.pointer (some ⟨m, 0, none⟩), .int .i64 (op : Nat), .int .i64 (f : Nat), v].toArray w1 fun e w' => ∃ x, e = .returned x ∧ QuPost m n lim op xs v ns f B w F x w' := by
  have hbn := hb.hn
  refine enter Try.func49 mixed low49 (Nat.le_of_ble_eq_true rfl) ?_
  simp only [L49]
  have hl : Lcl (Star (MgrA m n lim ns) (Star (VwA v iv xs) B)) := Lcl.mgr.star (Lcl.vw.star hB)
  have h1 := lit_ints (xs := [(f : Int)]) (cs := #[.int .i64 f]) hl hA rfl (by simp) rfl
  simp [rowOf]
  refine cl_of (check_spec m n lim ns _ [(f : Int)] _ (MgrA.rd h1.drop) hb h1.own.vw (by simp)) ?_
  rintro u w2 ⟨rfl, k2⟩
  have h2 := (h1.drop).kp0 hl k2
  have hr : [(f : Int)].all (refB ns) = true := by
    unfold Ref at hf
    simp [refB]; omega
  rw [hr]
  simp [chkV]
  refine cl_of (checkVars_spec m n lim ns v xs _ (MgrA.rd h2) h2.drop.vw hx) ?_
  rintro u w3 ⟨rfl, k3⟩
  have h3 := h2.kp0 hl k3
  rw [hv]
  obtain ⟨nv, b, ho, hown, _⟩ := MgrA.rd h3
  unfold mgrO at ho
  have hn1 : ((n : Int) + 1).toNat = n + 1 := by omega
  have h4 := h3.made (E := 4) (enc := bv) (x := false) (z := [.bool false]) (n := n + 1) hl rfl bv_len (by unfold maxLen; omega)
  simp (disch := omega) [chkV, cell_blk ho, wrap_i64, hn1]
  refine gd_mk (by omega) ?_
  simp [h3.drop.vw.len]
  obtain ⟨sv, hsv⟩ : ∃ sv, sv = Value.slice (some ⟨w3.heap.size, 0, none⟩) (n + 1) (n + 1) := ⟨_, rfl⟩
  rw [← hsv] at h4 ⊢
  have hall : ∀ (j : Nat) (x : Int), xs[j]? = some x → 0 ≤ x ∧ x < n := fun j x hj => by
    have := List.all_eq_true.1 hv x (List.mem_of_getElem? hj)
    simpa [varB] using this
  refine range_loop (n := xs.length) (by omega) (fun k ρ w5 => ρ 0 = .pointer (some ⟨m, 0, none⟩) ∧ ρ 1 = .int .i64 (op : Nat) ∧ ρ 2 = .int .i64 (f : Nat) ∧ ρ 12 = sv ∧ ρ 34 = v ∧
      At w F (Star (OwnA sv 4 1 bv (insOf n (xs.take k))) (Star (MgrA m n lim ns) (Star (VwA v iv xs) B))) w5) (by simp) (by simp)
    ⟨by simp, by simp, by simp, by simp, by simp, h4⟩ (by decide) (fun _ _ _ _ h => by simpa using h) (fun _ _ _ _ h => by simpa using h) ?_ ?_
  · rintro k ρ w5 hk hc hlim ⟨g0, g1, g2, g12, g34, h5⟩
    have ek : xs[k]? = some xs[k] := List.getElem?_eq_getElem hk
    obtain ⟨x, hxe⟩ : ∃ x, x = xs[k] := ⟨_, rfl⟩
    rw [← hxe] at ek
    obtain ⟨x0, x1⟩ := hall k x ek
    have hvw := h5.drop.drop.vw
    have hlen := insOf_len n (xs.take k)
    have hxl : x < (insOf n (xs.take k)).length := by rw [hlen]; omega
    simp (disch := omega) [g0, g1, g2, g12, g34, hc, hvw.idx, iv_cell hvw ek, h5.own.idx x0 hxl]
    refine At.store1 (k := x.toNat) (x := true) hl h5 bv_len bv_one (by omega) rfl fun w6 h6 => ?_
    rw [← insOf_take ek] at h6
    simp [g0, g1, g2, g12, g34, hc, hlim]
    exact h6
  · rintro ρ w5 ⟨g0, g1, g2, g12, g34, h5⟩
    rw [List.take_length] at h5
    simp [g0, g1, g2, g12]
    have h6 := (h5.own_vw.newmap (ek := natV) (ev := natV) (ok := i64ok) (Lcl.vw.star hl))
    have h7 := h6.by (Imp.trans (Imp.un Imp.sw) Imp.sw)
    have h8 : At w F (Star (MgrA m n lim ns) (Star (MemB w5.heap.size []) (Star (VwA sv bv (insOf n xs)) (Star (VwA v iv xs) B)))) (w5.alloc (.map #[] 0)) := h7
    refine cl_of (quantify_aux m n lim op _ hop (insOf n xs) sv (insOf_len n xs) w F f f ns [] _ _ (Lcl.vw.star hB) hw hb hf (Nat.le_refl _) (fun q hq => by cases hq) h8) ?_
    rintro _ w9 ⟨r, ns', M', rfl, hq, h9⟩
    cases r with
    | none => simp [optV, noV, errV]; exact ⟨none, ns', M', rfl, hq, h9.by (Imp.un (Imp.dr.trans Imp.dr))⟩
    | some y => simp [optV, okV]; exact ⟨some y, ns', M', rfl, hq, h9.by (Imp.un (Imp.dr.trans Imp.dr))⟩
theorem insOf_get {n : Nat} {xs : List Int} (hv : ∀ x ∈ xs, 0 ≤ x ∧ x < n) (i : Nat) : inB (insOf n xs) i = decide ((i : Int) ∈ xs) := by
  have key : ∀ k, k ≤ xs.length → inB (insOf n (xs.take k)) i = decide ((i : Int) ∈ xs.take k) := by
    intro k
    induction k with
    | zero => intro _; simp [insOf, inB, List.getElem?_replicate]; split <;> rfl
    | succ k ih =>
      intro hk
      have ek : xs[k]? = some xs[k] := List.getElem?_eq_getElem (by omega)
      have hx := hv xs[k] (List.getElem_mem _)
      have hlen := insOf_len n (xs.take k)
      have ht : xs.take (k + 1) = xs.take k ++ [xs[k]] := by rw [List.take_add_one, ek]; rfl
      have ih' := ih (by omega)
      rw [insOf_take ek, ht]
      simp only [inB, List.getD_eq_getElem?_getD, List.getElem?_set, List.mem_append, List.mem_singleton] at ih' ⊢
      by_cases he : xs[k].toNat = i
      · have : (i : Int) = xs[k] := by omega
        rw [if_pos he, if_pos (by omega)]
        simp [this]
      · have : ¬ (i : Int) = xs[k] := by omega
        rw [if_neg he, ih']
        simp [this]
  have := key xs.length (Nat.le_refl _)
  rwa [List.take_length] at this
end Go.Proofs.YtkojilpjpdpmaaaR
