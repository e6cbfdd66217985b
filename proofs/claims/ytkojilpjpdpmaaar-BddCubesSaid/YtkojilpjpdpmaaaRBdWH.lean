/-
  A part of the proofs of this seat's statements (BdWH); no conditions beyond those each theorem names.
-/
import Derived.Test.YtkojilpjpdpmaaaRBdWt
set_option maxRecDepth 100000
set_option linter.unusedSimpArgs false
set_option linter.unusedVariables false
namespace Go.Proofs.YtkojilpjpdpmaaaR
open Go Go.W Go.Bd Go.Maps
/-! ### The least assignment -/
def PickI (n : Nat) (ns : Ns) (f g : Nat) (l : List Bool) : Prop := Ref ns g ∧ g ≠ 0 ∧ l.length = n ∧ ∀ i, i < n → pickF n ns f i = (l.getD i false || pickF n ns g i)
theorem PickI.step {n f g : Nat} {ns : Ns} {l : List Bool} (w : Wf n ns) (h : PickI n ns f g l) (h2 : 2 ≤ g) : if (at_ n ns g).low = 0 then PickI n ns f (at_ n ns g).high (l.set (tv n ns g) true) else PickI n ns f (at_ n ns g).low l := by
  obtain ⟨h1, h0, hl, hp⟩ := h
  have hne : (at_ n ns g).low ≠ (at_ n ns g).high := by rw [at_ge h2 h1]; exact w.ne _ _
  have tvn := w.tv_var h2 h1
  rw [pick_node w h2 h1] at hp
  by_cases hz : (at_ n ns g).low = 0
  · rw [if_pos hz] at hp ⊢
    refine ⟨w.ref_high h1, by omega, by simpa using hl, fun i hi => ?_⟩
    rw [hp i hi]
    by_cases he : i = tv n ns g
    · subst he
      rw [upd_same]
      simp [List.getD, List.getElem?_set, hl, hi]
    · rw [upd_ne he]
      simp only [List.getD_eq_getElem?_getD, List.getElem?_set]
      rw [if_neg (fun e => he e.symm)]
  · rw [if_neg hz] at hp ⊢
    exact ⟨w.ref_low h1, hz, hl, hp⟩
theorem PickI.done {n f g : Nat} {ns : Ns} {l : List Bool} (h : PickI n ns f g l) (h2 : g < 2) : l = (List.range n).map (pickF n ns f) := by
  obtain ⟨h1, h0, hl, hp⟩ := h
  refine List.ext_getElem (by simp [hl]) fun i h3 h4 => ?_
  have := hp i (by omega)
  rw [pick_lt h2] at this
  simp [this, List.getD, List.getElem?_eq_getElem h3]
theorem pick_zero {w w1 : World} {F : List Nat} {B : Asr} (m n lim : Nat) (ns : Ns) (hB : Lcl B) (hA : At w F (Star (MgrA m n lim ns) B) w1) (hb : Bnd n lim ns) :
    Calls Try.prog 19 [.pointer (some ⟨m, 0, none⟩), .int .i64 0].toArray w1 fun e w' => ∃ x, e = .returned x ∧ x = .tuple #[.slice none 0 0, errV 3] ∧ At w F (Star (MgrA m n lim ns) B) w' := by
  refine enter Try.func19 mixed low19 (Nat.le_of_ble_eq_true rfl) ?_
  simp only [L19]
  have hl : Lcl (Star (MgrA m n lim ns) B) := Lcl.mgr.star hB
  simp [rowOf]
  refine cl_of (check_lit [(0 : Int)] (MgrA.rd hA) hb rfl (by simp) rfl) ?_
  rintro u w2 ⟨rfl, k2⟩
  have h2 := hA.kp0 hl k2
  have hr : [(0 : Int)].all (refB ns) = true := by simp [refB]; omega
  rw [hr]
  simp [chkV]
  exact ⟨rfl, h2⟩
def PickV (m n lim : Nat) (ns : Ns) (f : Nat) (sv : Value) (B : Asr) (w : World) (F : List Nat) (q : Nat) (ρ : Env) (w' : World) : Prop :=
  ∃ l, ρ 0 = .pointer (some ⟨m, 0, none⟩) ∧ ρ 1 = .int .i64 (q : Nat) ∧ ρ 7 = sv ∧ PickI n ns f q l ∧ At w F (Star (OwnA sv 4 1 bv l) (Star (MgrA m n lim ns) B)) w'
theorem pick_spec {w w1 : World} {F : List Nat} {B : Asr} (m n lim : Nat) (ns : Ns) (f : Nat) (hB : Lcl B) (hA : At w F (Star (MgrA m n lim ns) B) w1) (hw : Wf n ns) (hb : Bnd n lim ns) (hf : Ref ns f) (h0 : f ≠ 0) :
    Calls Try.prog 19 [.pointer (some ⟨m, 0, none⟩), .int .i64 (f : Nat)].toArray w1 fun e w' => ∃ x, e = .returned x ∧ ∃ v, x = .tuple #[v, .nilIface] ∧ At w F (Star (OwnA v 4 1 bv ((List.range n).map (pickF n ns f))) (Star (MgrA m n lim ns) B)) w' := by
  have hbn := hb.hn
  have hbl := hb.hl
  have hbs := hb.hs
  refine enter Try.func19 mixed low19 (Nat.le_of_ble_eq_true rfl) ?_
  simp only [L19]
  have hl : Lcl (Star (MgrA m n lim ns) B) := Lcl.mgr.star hB
  simp [rowOf]
  refine cl_of (check_lit [(f : Int)] (MgrA.rd hA) hb rfl (by simp) rfl) ?_
  rintro u w2 ⟨rfl, k2⟩
  have h2 := hA.kp0 hl k2
  have hr : [(f : Int)].all (refB ns) = true := by
    unfold Ref at hf
    simp [refB]; omega
  rw [hr]
  obtain ⟨nv, b, ho, _, _⟩ := MgrA.rd h2
  unfold mgrO at ho
  have h4 := h2.made (E := 4) (enc := bv) (x := false) (z := [.bool false]) (n := n) hl rfl bv_len (by unfold maxLen; omega)
  simp [chkV, e_eq0, h0, cell_blk ho]
  refine gd_mk (by omega) ?_
  obtain ⟨sv, hsv⟩ : ∃ sv, sv = Value.slice (some ⟨w2.heap.size, 0, none⟩) n n := ⟨_, rfl⟩
  rw [← hsv] at h4
  simp [← hsv]
  refine loop_inv (PickV m n lim ns f sv B w F) f
    ⟨List.replicate n false, by simp, by simp, by simp, ⟨hf, h0, by simp, fun i hi => by simp [List.getD, List.getElem?_replicate, hi]⟩, h4⟩ ?_
  rintro q ρ w4 ⟨l, g0, g1, g7, hI, h5⟩
  by_cases hq : q < 2
  · have hq' : ¬ (1 : Int) < q := by omega
    simp [g1, g7, hq']
    rw [hI.done hq] at h5
    exact h5
  · have hq' : (1 : Int) < q := by omega
    have hq2 : 2 ≤ q := by omega
    have hst := hI.step hw hq2
    have hrq := hI.1
    have l1 := hw.lt_low hq2 hrq
    have l2 := hw.lt_high hq2 hrq
    have tvn := hw.tv_var hq2 hrq
    have hLl : Lcl (Star (OwnA sv 4 1 bv l) (Star (MgrA m n lim ns) B)) := Lcl.own.star hl
    simp [g1, g0, hq']
    refine cl_of (at_spec m n lim q ns w4 (MgrA.rd h5.drop) hb hrq) ?_
    rintro _ w5 ⟨rfl, k5⟩
    have h6 := (h5.kp0 hLl k5).alloc (.cells #[.int .i64 0, .int .i64 0, .int .i64 0] 90) hLl
    simp [ndV, en_len]
    refine h6.st hLl (by simp [en, ints]) (by simp [en, ints]) fun w7 h7 => ?_
    have hon := h7.obj
    simp [en, ints] at hon
    have h8 := h7.rot
    have hLn : ∀ {o : Obj} {b : Nat}, Lcl (Star (ObjA b o) (Star (MgrA m n lim ns) B)) := Lcl.obj.star hl
    have eqz : (((at_ n ns q).low : Int) == 0) = decide ((at_ n ns q).low = 0) := e_eq0 _
    simp [cell_blk hon, eqz]
    by_cases hz : (at_ n ns q).low = 0
    · rw [if_pos hz] at hst
      have hvl : (at_ n ns q).v < l.length := by rw [hI.2.2.1]; exact tvn
      simp (disch := omega) [hz, cell_blk hon, g7, h8.own.idx]
      refine At.store1 (k := (at_ n ns q).v) (x := true) hLn h8 bv_len bv_one hvl rfl fun w9 h9 => ?_
      have hon9 := h9.drop.obj
      simp [en, ints] at hon9
      simp [cell_blk hon9, g0, g7]
      exact ⟨_, l2, l.set (at_ n ns q).v true, by simp [g0], by simp, by simp [g7], hst, h9.by (Imp.un Imp.dr)⟩
    · rw [if_neg hz] at hst
      simp [hz, g0, g7]
      exact ⟨_, l1, l, by simp [g0], by simp, by simp [g7], hst, h8.by (Imp.un Imp.dr)⟩
end Go.Proofs.YtkojilpjpdpmaaaR
