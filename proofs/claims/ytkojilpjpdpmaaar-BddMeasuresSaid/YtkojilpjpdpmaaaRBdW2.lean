/-
  A part of the proofs of this seat's statements (BdW2); no conditions beyond those each theorem names.
-/
import Derived.Test.YtkojilpjpdpmaaaRBdW1
set_option maxRecDepth 100000
set_option linter.unusedSimpArgs false
set_option linter.unusedVariables false
namespace Go.Proofs.YtkojilpjpdpmaaaR
open Go Go.W Go.Bd Go.Maps
def errV (c : Int) : Value := .iface 38 (.int .i64 c)
/-- A reference, or an error. -/
def okV (x : Nat) : Value := .tuple #[.int .i64 (x : Int), .nilIface]
def noV (c : Int) : Value := .tuple #[.int .i64 0, errV c]
def optV : Option Nat → Value
  | some x => okV x
  | none => noV 10
theorem kindex : Try.prog.underlying 85 = some (.map 90 3) := Try.underlying85
theorem zint (w : World) : (zeroValue 3).run Try.prog w = .ok (.int .i64 0) w := Try.zeroValue3 w
theorem make_spec {w w1 : World} {F : List Nat} {B : Asr} (m n lim : Nat) (ns : Ns) (v l h : Nat) (hB : Lcl B) (hA : At w F (Star (MgrA m n lim ns) B) w1) (hb : Bnd n lim ns) (hv : v ≤ 1000000) (hl : l ≤ 2000000) (hh : h ≤ 2000000) :
    Calls Try.prog 47 [.pointer (some ⟨m, 0, none⟩), .int .i64 (v : Nat), .int .i64 (l : Nat), .int .i64 (h : Nat)].toArray w1 fun e w' => ∃ x, e = .returned x ∧ x = optV (mkF lim ns v l h).1 ∧ At w F (Star (MgrA m n lim (mkF lim ns v l h).2) B) w' := by
  obtain ⟨hbn, hbl, hbs⟩ := hb
  refine enter Try.func47 mixed low47 (Nat.le_of_ble_eq_true rfl) ?_
  simp only [L47]
  by_cases hlh : l = h
  · subst hlh
    simp
    exact ⟨by simp [mkF, optV, okV], by simpa [mkF] using hA⟩
  have hlh' : ((l : Int) == h) = false := by rw [beq_eq_false_iff_ne]; omega
  simp [hlh', hlh]
  have hlm : Lcl (MgrA m n lim ns) := Lcl.mgr
  have h0 := hA.alloc (.cells #[.int .i64 0, .int .i64 0, .int .i64 0] 90) (hlm.star hB)
  refine h0.st (hlm.star hB) (by simp) (by simp) fun w2 h2 => ?_
  obtain ⟨t, ht⟩ : ∃ t, t = w1.heap.size := ⟨_, rfl⟩
  rw [← ht] at h2 ⊢
  have hLl := Lcl.obj.star (hlm.star hB) (A := ObjA t (.cells (wrAt #[.int .i64 0, .int .i64 0, .int .i64 0] 0 [.int .i64 (v : Nat), .int .i64 (l : Nat), .int .i64 (h : Nat)]) 90 (0, 0)))
  have ht2 := h2.obj
  simp at ht2
  obtain ⟨nv, b, h5⟩ := MgrA.opn h2.rot
  have ho := h5.obj
  have hown := h5.drop.own
  have hmap := h5.drop.drop.map
  have hmapd : MapM w2.drew b ndV natV nd_ok (idx ns) := hmap
  have hok : nd_ok ⟨v, l, h⟩ := by
    intro x hx
    simp at hx
    unfold i64ok
    rcases hx with rfl | rfl | rfl <;> omega
  unfold mgrO at ho
  simp [cell_blk ho, cell_blk ht2]
  have hcs : cellsAt w2 ⟨t, 0, none⟩ 0 3 = some (en ⟨v, l, h⟩) := by
    simp [cellsAt, Addr.add, cell_blk ht2, en, ints]
  simp [hcs]
  refine hmapd.look2 (x := (⟨v, l, h⟩ : Nd)) keyN kindex zint hok ?_
  have hgi := getM_idx ns ⟨v, l, h⟩
  cases hf : ns.findIdx? fun x => decide (x = (⟨v, l, h⟩ : Nd)) with
  | some k =>
    rw [hf] at hgi
    simp only [Option.map_some] at hgi
    have hm : mkF lim ns v l h = (some (k + 2), ns) := by simp [mkF, hlh, hf]
    simp [hgi, natV]
    rw [hm]
    exact ⟨by simp [optV, okV], (h2.drew hLl).drop⟩
  | none =>
  rw [hf] at hgi
  simp only [Option.map_none] at hgi
  simp [hgi, cell_blk ho, hown.len]
  by_cases hlim : lim ≤ ns.length
  · have hlim' : (lim : Int) ≤ ns.length := by omega
    have hm : mkF lim ns v l h = (none, ns) := by simp [mkF, hlh, hf, hlim]
    simp [hlim, hlim']
    rw [hm]
    exact ⟨by simp [optV, noV, errV], ((h2.drew hLl).drew hLl).drop⟩
  have hlim' : ¬ (lim : Int) ≤ ns.length := by omega
  have hm : mkF lim ns v l h = (some (ns.length + 2), ns ++ [⟨v, l, h⟩]) := by simp [mkF, hlh, hf, hlim]
  have h4 := ((h2.drew hLl).drew hLl).drew hLl
  have hL5 : Lcl (Star (ObjA m (mgrO n lim nv b)) (Star (OwnA nv 90 3 en ns) (Star (MapA b ndV natV nd_ok (idx ns)) (Star (ObjA t (.cells (wrAt #[.int .i64 0, .int .i64 0, .int .i64 0] 0 [.int .i64 (v : Nat), .int .i64 (l : Nat), .int .i64 (h : Nat)]) 90 (0, 0))) B)))) :=
    Lcl.obj.star (Lcl.own.star (Lcl.map.star (Lcl.obj.star hB)))
  have h6 := ((h5.drew hL5).drew hL5).drew hL5
  simp [hlim, hlim', cell_blk ho, hcs, en_len, rowOf]
  have e3 : wrAt #[.int .i64 0, .int .i64 0, .int .i64 0] 0 (en ⟨v, l, h⟩) = (en ⟨v, l, h⟩).toArray := by simp [en, ints]
  rw [e3]
  have h7 := (h6.rot).kp0 (Lcl.own.star (Lcl.obj.star (Lcl.map.star (Lcl.obj.star hB)))) ((Kp.refl [] w2.drew.drew.drew).alloc (.cells (en ⟨v, l, h⟩).toArray 90))
  refine At.append (xs := [(⟨v, l, h⟩ : Nd)]) (Lcl.obj.star (Lcl.map.star (Lcl.obj.star hB))) h7 en_len en_one sl_84 rfl (fun j u hj => ?_) (by omega) (by unfold maxLen; omega) fun v8 w8 h8 => ?_
  · rw [addr_add, Nat.zero_add, show w2.heap.size = w2.drew.drew.drew.heap.size from rfl, cell_blk alloc_new]
    simpa using hj
  have h9 := h8.rot
  have ho9 := h9.obj
  unfold mgrO at h9 ho9
  simp [h8.own.c1]
  refine h9.st (Lcl.own.star (Lcl.map.star (Lcl.obj.star hB))) (by simp) (by simp [h8.own.o1]) fun w10 h10 => ?_
  have hL10 := Lcl.obj.star (Lcl.own.star (Lcl.map.star (Lcl.obj.star hB))) (A := ObjA m (mgrO n lim v8 b)) (B := Star (OwnA v8 90 3 en (ns ++ [(⟨v, l, h⟩ : Nd)])) (Star (MapA b ndV natV nd_ok (idx ns)) (Star (ObjA t (.cells (wrAt #[.int .i64 0, .int .i64 0, .int .i64 0] 0 [.int .i64 (v : Nat), .int .i64 (l : Nat), .int .i64 (h : Nat)]) 90 (0, 0))) B)))
  have h10 : At w F (Star (ObjA m (mgrO n lim v8 b)) (Star (OwnA v8 90 3 en (ns ++ [(⟨v, l, h⟩ : Nd)])) (Star (MapA b ndV natV nd_ok (idx ns)) (Star (ObjA t (.cells (wrAt #[.int .i64 0, .int .i64 0, .int .i64 0] 0 [.int .i64 (v : Nat), .int .i64 (l : Nat), .int .i64 (h : Nat)]) 90 (0, 0))) B)))) w10 := by
    simpa [mgrO] using h10
  have hoa := h10.obj
  unfold mgrO at hoa
  have hta := h10.drop.drop.drop.obj
  have hown10 := h10.drop.own
  simp at hta
  have hcsa : cellsAt w10 ⟨t, 0, none⟩ 0 3 = some (en ⟨v, l, h⟩) := by
    simp [cellsAt, Addr.add, cell_blk hta, en, ints]
  simp (disch := omega) [cell_blk hoa, hcsa, hown10.len, wrap_i64]
  have e1 : Value.int .i64 ((ns.length : Int) + 1 + 1) = natV (ns.length + 2) := by unfold natV; congr 1
  rw [e1]
  have hb11 := (h10.drew hL10).drop.drop
  refine At.put (x := (⟨v, l, h⟩ : Nd)) (Lcl.obj.star (Lcl.own.star (Lcl.obj.star hB))) ((h10.drew hL10).rot3) keyN kindex hok (by rw [idx_len]; unfold maxLen; omega) fun w12 h12 => ?_
  have hput : putM (idx ns) (⟨v, l, h⟩ : Nd) (ns.length + 2) = idx (ns ++ [(⟨v, l, h⟩ : Nd)]) := by
    rw [idx_snoc, putM, if_neg]
    simp only [getM, Option.map_eq_none_iff, List.find?_eq_none] at hgi
    simp only [List.any_eq_true, not_exists, not_and]
    exact hgi
  rw [hput] at h12
  have h12 := h12.rot.rot3.rot
  have hoc := h12.obj
  unfold mgrO at hoc
  have hownc := h12.drop.own
  simp (disch := omega) [cell_blk hoc, hownc.len, wrap_i64]
  rw [hm]
  exact ⟨by simp [optV, okV]; omega, (MgrA.cls h12).rot.drop⟩
theorem short_spec (op f g : Nat) (w : World) (hop : op ≤ 2) : Calls Try.prog 75 [.int .i64 (op : Nat), .int .i64 (f : Nat), .int .i64 (g : Nat)].toArray w fun e w' => ∃ x, e = .returned x ∧ x = .tuple #[.int .i64 ((sh op f g).1 : Nat), .bool (sh op f g).2] ∧ Kp [] w w' := by
  refine enter Try.func75 mixed low75 (Nat.le_of_ble_eq_true rfl) ?_
  simp only [L75]
  have e : ∀ a b : Nat, ((a : Int) == (b : Int)) = decide (a = b) := fun a b => by
    by_cases h : a = b
    · simp [h]
    · have : ((a : Int) == b) = false := by rw [beq_eq_false_iff_ne]; omega
      rw [this]; simp [h]
  have e0 : ∀ a : Nat, ((a : Int) == 0) = decide (a = 0) := fun a => e a 0
  have e1 : ∀ a : Nat, ((a : Int) == 1) = decide (a = 1) := fun a => e a 1
  unfold sh
  have hc : op = 0 ∨ op = 1 ∨ op = 2 := by omega
  rcases hc with rfl | rfl | rfl
  · by_cases h1 : f = 0
    · subst h1
      simp
      exact Kp.refl _ _
    by_cases h2 : g = 0
    · subst h2
      simp [e0, h1]
      exact Kp.refl _ _
    by_cases h3 : f = 1
    · subst h3
      simp [e0, h2]
      exact Kp.refl _ _
    by_cases h4 : f = g
    · subst h4
      simp [e0, e1, h1, h3]
      exact Kp.refl _ _
    · simp [e0, e1, e, h1, h2, h3, h4]
      exact Kp.refl _ _
  · by_cases h1 : f = 1
    · subst h1
      simp
      exact Kp.refl _ _
    by_cases h2 : g = 1
    · subst h2
      simp [e1, h1]
      exact Kp.refl _ _
    by_cases h3 : f = 0
    · subst h3
      simp [e1, h2]
      exact Kp.refl _ _
    by_cases h4 : f = g
    · subst h4
      simp [e0, e1, h1, h3]
      exact Kp.refl _ _
    · simp [e0, e1, e, h1, h2, h3, h4]
      exact Kp.refl _ _
  · by_cases h4 : f = g
    · subst h4
      simp
      exact Kp.refl _ _
    by_cases h3 : f = 0
    · subst h3
      have h5 : ((0 : Int) == g) = false := by rw [beq_eq_false_iff_ne]; omega
      simp [h5, h4]
      exact Kp.refl _ _
    · simp [e0, e1, e, h3, h4]
      exact Kp.refl _ _
end Go.Proofs.YtkojilpjpdpmaaaR
