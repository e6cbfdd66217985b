/-
  A part of the proofs of this seat's statements (BdW4); no conditions beyond those each theorem names.
-/
import Derived.Test.YtkojilpjpdpmaaaRBdW3
set_option maxRecDepth 100000
set_option linter.unusedSimpArgs false
set_option linter.unusedVariables false
namespace Go.Proofs.YtkojilpjpdpmaaaR
open Go Go.W Go.Bd Go.Maps
def newB (vars limit : Int) : Bool := decide (0 ≤ vars) && decide (vars ≤ 256) && decide (1 ≤ limit) && decide (limit ≤ 1048576)
theorem new_bad {w : World} (vars limit : Int) (h : newB vars limit = false) :
    Calls Try.prog 22 [.int .i64 vars, .int .i64 limit].toArray w fun e w' => ∃ x, e = .returned x ∧ x = .tuple #[.pointer none, errV 1] ∧ Kp [] w w' := by
  refine enter Try.func22 mixed low22 (Nat.le_of_ble_eq_true rfl) ?_
  simp only [L22]
  by_cases h1 : vars < 0
  · simp [h1]
    exact ⟨rfl, Kp.refl _ _⟩
  by_cases h2 : 256 < vars
  · simp [h1, h2]
    exact ⟨rfl, Kp.refl _ _⟩
  by_cases h3 : limit < 1
  · simp [h1, h2, h3]
    exact ⟨rfl, Kp.refl _ _⟩
  by_cases h4 : 1048576 < limit
  · simp [h1, h2, h3, h4]
    exact ⟨rfl, Kp.refl _ _⟩
  · exfalso
    have : newB vars limit = true := by simp [newB]; omega
    rw [this] at h; cases h
theorem new_spec {w w1 : World} {F : List Nat} {B : Asr} (n lim : Nat) (hB : Lcl B) (hA : At w F B w1) (hn : n ≤ 256) (h1 : 1 ≤ lim) (h2 : lim ≤ 1048576) :
    Calls Try.prog 22 [.int .i64 (n : Nat), .int .i64 (lim : Nat)].toArray w1 fun e w' => ∃ x, e = .returned x ∧ ∃ m, x = .tuple #[.pointer (some ⟨m, 0, none⟩), .nilIface] ∧ At w F (Star (MgrA m n lim []) B) w' := by
  refine enter Try.func22 mixed low22 (Nat.le_of_ble_eq_true rfl) ?_
  simp only [L22]
  have a1 : ¬ (n : Int) < 0 := by omega
  have a2 : ¬ (256 : Int) < n := by omega
  have a3 : ¬ (lim : Int) < 1 := by omega
  have a4 : ¬ (1048576 : Int) < lim := by omega
  simp [a1, a2, a3, a4]
  have h3 := hA.newmap (ek := ndV) (ev := natV) (ok := nd_ok) hB
  have h4 := h3.alloc (.cells #[.int .i64 n, .int .i64 lim, .slice none 0 0, .map (some w1.heap.size)] 87 (0, 0)) (Lcl.map.star hB)
  rw [show (w1.alloc (.map #[] 0)).heap.size = w1.heap.size + 1 by simp] at h4
  have h5 := At.nil (E := 90) (sz := 3) (enc := en) (Lcl.obj.star (Lcl.map.star hB)) h4
  exact MgrA.cls (ns := []) (nv := .slice none 0 0) h5.rot
theorem var_nil (i : Int) (w : World) : Calls Try.prog 12 [.pointer none, .int .i64 i].toArray w fun e w' => ∃ x, e = .returned x ∧ x = noV 3 ∧ Kp [] w w' := by
  refine enter Try.func12 mixed low12 (Nat.le_of_ble_eq_true rfl) ?_
  simp only [L12]
  simp
  exact ⟨rfl, Kp.refl _ _⟩
theorem var_bad {m n lim : Nat} {ns : Ns} {w : World} (i : Int) (h : MgrF w m n lim ns) (hi : i < 0 ∨ (n : Int) ≤ i) : Calls Try.prog 12 [.pointer (some ⟨m, 0, none⟩), .int .i64 i].toArray w fun e w' => ∃ x, e = .returned x ∧ x = noV 1 ∧ Kp [] w w' := by
  refine enter Try.func12 mixed low12 (Nat.le_of_ble_eq_true rfl) ?_
  simp only [L12]
  obtain ⟨nv, b, ho, hown, _⟩ := h
  unfold mgrO at ho
  by_cases h1 : i < 0
  · simp [h1]
    exact ⟨rfl, Kp.refl _ _⟩
  · have h2 : (n : Int) ≤ i := by omega
    simp [h1, h2, cell_blk ho]
    exact ⟨rfl, Kp.refl _ _⟩
theorem var_spec {w w1 : World} {F : List Nat} {B : Asr} (m n lim : Nat) (ns : Ns) (i : Nat) (hB : Lcl B) (hA : At w F (Star (MgrA m n lim ns) B) w1) (hb : Bnd n lim ns) (hi : i < n) :
    Calls Try.prog 12 [.pointer (some ⟨m, 0, none⟩), .int .i64 (i : Nat)].toArray w1 fun e w' => ∃ x, e = .returned x ∧ x = optV (mkF lim ns i 0 1).1 ∧ At w F (Star (MgrA m n lim (mkF lim ns i 0 1).2) B) w' := by
  have hbn := hb.hn
  refine enter Try.func12 mixed low12 (Nat.le_of_ble_eq_true rfl) ?_
  simp only [L12]
  obtain ⟨nv, b, ho, hown, _⟩ := MgrA.rd hA
  unfold mgrO at ho
  have h1 : ¬ (i : Int) < 0 := by omega
  have h2 : ¬ (n : Int) ≤ i := by omega
  have h2' : ¬ n ≤ i := by omega
  simp [h1, h2, h2', cell_blk ho]
  refine cl_of (make_spec m n lim ns i 0 1 hB hA hb (by omega) (by omega) (by omega)) ?_
  rintro v w2 ⟨rfl, h3⟩
  cases hk : (mkF lim ns i 0 1).1 <;> simp [optV, okV, noV, errV] <;> exact h3
theorem binary_nil (op f g : Int) (w : World) : Calls Try.prog 48 [.pointer none, .int .i64 op, .int .i64 f, .int .i64 g].toArray w fun e w' => ∃ x, e = .returned x ∧ x = noV 3 ∧ Kp [] w w' := by
  refine enter Try.func48 mixed low48 (Nat.le_of_ble_eq_true rfl) ?_
  simp only [L48]
  simp [rowOf]
  refine cl_of (check_nil _ _) ?_
  rintro v w2 ⟨rfl, k2⟩
  simp [errV]
  exact ⟨rfl, ((Kp.refl [] w).alloc _).trans0 k2⟩
theorem lit_ints {w w1 : World} {F : List Nat} {B : Asr} {xs : List Int} {cs : Array Value} (hB : Lcl B) (h : At w F B w1) (hcs : cs.toList = xs.flatMap iv) (hn : xs.length ≤ 1000000) {m : Nat} (hm : m = xs.length) :
    At w F (Star (OwnA (.slice (some ⟨w1.heap.size, 0, none⟩) m m) 3 1 iv xs) B) (w1.alloc (.cells cs 3)) :=
  h.lit hB hcs iv_len (by unfold maxLen; omega) hm
theorem binary_bad {w w1 : World} {F : List Nat} {B : Asr} (m n lim : Nat) (ns : Ns) (op : Nat) (f g : Int) (hB : Lcl B) (hA : At w F (Star (MgrA m n lim ns) B) w1) (hb : Bnd n lim ns) (h : (refB ns f && refB ns g) = false) :
    Calls Try.prog 48 [.pointer (some ⟨m, 0, none⟩), .int .i64 (op : Nat), .int .i64 f, .int .i64 g].toArray w1 fun e w' => ∃ x, e = .returned x ∧ x = noV 1 ∧ At w F (Star (MgrA m n lim ns) B) w' := by
  refine enter Try.func48 mixed low48 (Nat.le_of_ble_eq_true rfl) ?_
  simp only [L48]
  have hl : Lcl (Star (MgrA m n lim ns) B) := Lcl.mgr.star hB
  have h1 := lit_ints (xs := [f, g]) (cs := #[.int .i64 f, .int .i64 g]) hl hA rfl (by simp) rfl
  simp [rowOf]
  refine cl_of (check_spec m n lim ns _ [f, g] _ (MgrA.rd h1.drop) hb h1.own.vw (by simp)) ?_
  rintro v w2 ⟨rfl, k2⟩
  have h2 := (h1.drop).kp0 hl k2
  have : [f, g].all (refB ns) = false := by simpa using h
  rw [this]
  simp [chkV, errV]
  exact ⟨rfl, h2⟩
def BinPost (m n lim op : Nat) (S : Nat → Nat → Prop) (ns : Ns) (f g : Nat) (B : Asr) (w : World) (F : List Nat) (v : Value) (w' : World) : Prop :=
  ∃ r ns', v = optV r ∧ BinOk n lim op S ns f g r ns' ∧ At w F (Star (MgrA m n lim ns') B) w'
theorem binary_spec {w w1 : World} {F : List Nat} {B : Asr} (m n lim : Nat) (ns : Ns) (op f g : Nat) (S : Nat → Nat → Prop) (hop : op ≤ 2) (hB : Lcl B) (hA : At w F (Star (MgrA m n lim ns) B) w1) (hw : Wf n ns) (hb : Bnd n lim ns) (hf : Ref ns f) (hg : Ref ns g) (hC : Clo n op ns S) (hS : Sn op S f g) :
    Calls Try.prog 48 [.pointer (some ⟨m, 0, none⟩), .int .i64 (op : Nat), .int .i64 (f : Nat), .int .i64 (g : Nat)].toArray w1 fun e w' => ∃ x, e = .returned x ∧ BinPost m n lim op S ns f g B w F x w' := by
  refine enter Try.func48 mixed low48 (Nat.le_of_ble_eq_true rfl) ?_
  simp only [L48]
  have hl : Lcl (Star (MgrA m n lim ns) B) := Lcl.mgr.star hB
  have h1 := lit_ints (xs := [(f : Int), (g : Int)]) (cs := #[.int .i64 f, .int .i64 g]) hl hA rfl (by simp) rfl
  simp [rowOf]
  refine cl_of (check_spec m n lim ns _ [(f : Int), (g : Int)] _ (MgrA.rd h1.drop) hb h1.own.vw (by simp)) ?_
  rintro v w2 ⟨rfl, k2⟩
  have h2 := (h1.drop).kp0 hl k2
  have : [(f : Int), (g : Int)].all (refB ns) = true := by
    unfold Ref at hf hg
    simp [refB]; omega
  rw [this]
  simp [chkV]
  have h3 := (h2.newmap (ek := p2V) (ev := natV) (ok := p2_ok) hl).rot
  refine cl_of (apply_spec m n lim op _ f g hop S ns [] hB hw hb hf hg (fun q hq => by cases hq) hC hS h3) ?_
  rintro _ w4 ⟨r, ns', M', rfl, hap, h4⟩
  have hbin := bin_of_ap hap (MapM.nodup h4.drop.map)
  cases r with
  | none => simp [optV, noV, errV]; exact ⟨none, ns', rfl, hbin, h4.by (Imp.un Imp.dr)⟩
  | some x => simp [optV, okV]; exact ⟨some x, ns', rfl, hbin, h4.by (Imp.un Imp.dr)⟩
end Go.Proofs.YtkojilpjpdpmaaaR
