/- the size of a diagram, counted level by level, plainly -/
import Derived.Test.YtkojilpjpdpmaaaRBdPa
set_option linter.unusedVariables false
set_option linter.unusedSimpArgs false
namespace Go.Bd
section
variable {n : Nat} {ns : Ns} {f : Nat}
theorem Rch.tv_top (w : Wf n ns) {y : Nat} (h : Rch n ns f y) : Ref ns f → tv n ns f ≤ tv n ns y ∧ (tv n ns f = tv n ns y → f = y) := by
  induction h with
  | self h => exact fun _ => ⟨Nat.le_refl _, fun _ => rfl⟩
  | low h k ih =>
    intro hf
    have := ih (w.ref_low hf)
    have := w.tv_low h hf
    exact ⟨by omega, fun e => by omega⟩
  | high h k ih =>
    intro hf
    have := ih (w.ref_high hf)
    have := w.tv_high h hf
    exact ⟨by omega, fun e => by omega⟩
def addR (ys : List Nat) (y : Nat) : List Nat := if y ∈ ys then ys else ys ++ [y]
theorem addR_mem {ys : List Nat} {y z : Nat} : z ∈ addR ys y ↔ z ∈ ys ∨ z = y := by
  unfold addR
  split
  · rename_i h
    exact ⟨.inl, fun h1 => h1.elim id (fun e => e ▸ h)⟩
  · simp
theorem addR_nodup {ys : List Nat} {y : Nat} (h : ys.Nodup) : (addR ys y).Nodup := by
  unfold addR
  split
  · exact h
  · rename_i hn
    rw [List.nodup_append]
    refine ⟨h, by simp, fun a ha b hb => ?_⟩
    simp at hb; subst hb
    intro e; exact hn (e ▸ ha)
/-- One level further. -/
def stR (n : Nat) (ns : Ns) (v : Nat) (acc : List Nat) (y : Nat) : List Nat := addR (addR acc (lo n ns v y)) (hi n ns v y)
def nextR (n : Nat) (ns : Ns) (v : Nat) (ys : List Nat) : List Nat := ys.foldl (stR n ns v) []
def levR (n : Nat) (ns : Ns) (f : Nat) : Nat → List Nat
  | 0 => [f]
  | v + 1 => nextR n ns v (levR n ns f v)
theorem stR_mem {v y z : Nat} {acc : List Nat} : z ∈ stR n ns v acc y ↔ z ∈ acc ∨ z = lo n ns v y ∨ z = hi n ns v y := by
  unfold stR; rw [addR_mem, addR_mem, or_assoc]
theorem foldR_mem {v z : Nat} : ∀ (ys acc : List Nat), z ∈ ys.foldl (stR n ns v) acc ↔ z ∈ acc ∨ ∃ y ∈ ys, z = lo n ns v y ∨ z = hi n ns v y
  | [], acc => by simp
  | y :: ys, acc => by
    rw [List.foldl_cons, foldR_mem ys, stR_mem]
    constructor
    · rintro ((h | h) | ⟨x, hx, h⟩)
      · exact .inl h
      · exact .inr ⟨y, by simp, h⟩
      · exact .inr ⟨x, by simp [hx], h⟩
    · rintro (h | ⟨x, hx, h⟩)
      · exact .inl (.inl h)
      · rcases List.mem_cons.1 hx with rfl | hx
        · exact .inl (.inr h)
        · exact .inr ⟨x, hx, h⟩
theorem nextR_mem {v z : Nat} {ys : List Nat} : z ∈ nextR n ns v ys ↔ ∃ y ∈ ys, z = lo n ns v y ∨ z = hi n ns v y := by
  unfold nextR; rw [foldR_mem]; simp
theorem foldR_nodup {v : Nat} : ∀ (ys acc : List Nat), acc.Nodup → (ys.foldl (stR n ns v) acc).Nodup
  | [], acc, h => h
  | y :: ys, acc, h => foldR_nodup ys _ (addR_nodup (addR_nodup h))
theorem levR_nodup : ∀ v, (levR n ns f v).Nodup
  | 0 => by simp [levR]
  | v + 1 => foldR_nodup _ _ (by simp)
theorem foldR_len {v : Nat} : ∀ (ys acc : List Nat), (ys.foldl (stR n ns v) acc).length ≤ acc.length + 2 * ys.length
  | [], acc => by simp
  | y :: ys, acc => by
    have := foldR_len (v := v) ys (stR n ns v acc y)
    have : (stR n ns v acc y).length ≤ acc.length + 2 := by
      unfold stR addR
      split <;> split <;> simp
    rw [List.foldl_cons, List.length_cons]
    omega
theorem levR_len : ∀ v, (levR n ns f v).length ≤ 2 ^ v
  | 0 => by simp [levR]
  | v + 1 => by
    have h1 := levR_len v
    have h2 := foldR_len (n := n) (ns := ns) (v := v) (levR n ns f v) []
    rw [levR, nextR, Nat.pow_succ]
    simp at h2
    omega
theorem levR_ok (w : Wf n ns) (hf : Ref ns f) : ∀ v, v ≤ n → ∀ y ∈ levR n ns f v, Ref ns y ∧ v ≤ tv n ns y ∧ (2 ≤ y → Rch n ns f y)
  | 0, _, y, hy => by
    simp [levR] at hy; subst hy
    exact ⟨hf, by omega, fun h => .self h⟩
  | v + 1, hv, z, hz => by
    rw [levR, nextR_mem] at hz
    obtain ⟨y, hy, h⟩ := hz
    obtain ⟨h1, h2, h3⟩ := levR_ok w hf v (by omega) y hy
    have c := cof_of w h1 h2 (by omega)
    unfold lo hi at h c
    by_cases ht : v < tv n ns y
    · simp [ht] at h
      subst h
      exact ⟨h1, by omega, h3⟩
    · have hy2 : 2 ≤ y := by
        rcases Nat.lt_or_ge y 2 with h4 | h4
        · have := tv_lt (n := n) (ns := ns) h4; omega
        · exact h4
      have e := w.tv_low hy2 h1
      have e' := w.tv_high hy2 h1
      simp [ht] at h
      rcases h with rfl | rfl
      · exact ⟨w.ref_low h1, by omega, fun h5 => (h3 hy2).trans (.low hy2 (.self h5))⟩
      · exact ⟨w.ref_high h1, by omega, fun h5 => (h3 hy2).trans (.high hy2 (.self h5))⟩
theorem levR_all (w : Wf n ns) (hf : Ref ns f) {z : Nat} (hz : Rch n ns f z) : ∀ v, v ≤ tv n ns z → ∃ y ∈ levR n ns f v, Rch n ns y z
  | 0, _ => ⟨f, by simp [levR], hz⟩
  | v + 1, hv => by
    have zn := w.tv_var hz.ge (hz.ref w hf)
    obtain ⟨y, hy, h⟩ := levR_all w hf hz v (by omega)
    obtain ⟨h1, h2, h3⟩ := levR_ok w hf v (by omega) y hy
    rw [levR]
    by_cases ht : v < tv n ns y
    · exact ⟨y, nextR_mem.2 ⟨y, hy, .inl (by unfold lo; rw [if_pos ht])⟩, h⟩
    · cases h with
      | self h4 => omega
      | low h4 k => exact ⟨_, nextR_mem.2 ⟨y, hy, .inl (by unfold lo; rw [if_neg ht])⟩, k⟩
      | high h4 k => exact ⟨_, nextR_mem.2 ⟨y, hy, .inr (by unfold hi; rw [if_neg ht])⟩, k⟩
/-- The nodes of a level. -/
def atR (n : Nat) (ns : Ns) (f v : Nat) : List Nat := (levR n ns f v).filter fun y => tv n ns y == v
theorem atR_mem (w : Wf n ns) (hf : Ref ns f) {v z : Nat} (hv : v < n) : z ∈ atR n ns f v ↔ Rch n ns f z ∧ tv n ns z = v := by
  unfold atR
  rw [List.mem_filter, beq_iff_eq]
  constructor
  · rintro ⟨h1, h2⟩
    obtain ⟨_, _, h3⟩ := levR_ok w hf v (by omega) z h1
    refine ⟨h3 ?_, h2⟩
    rcases Nat.lt_or_ge z 2 with h4 | h4
    · have := tv_lt (n := n) (ns := ns) h4; omega
    · exact h4
  · rintro ⟨h1, h2⟩
    obtain ⟨y, hy, h3⟩ := levR_all w hf h1 v (by omega)
    obtain ⟨h4, h5, _⟩ := levR_ok w hf v (by omega) y hy
    have := h3.tv_top w h4
    have e : y = z := this.2 (by omega)
    exact ⟨e ▸ hy, h2⟩
/-- The number of nodes of the first levels. -/
def szR (n : Nat) (ns : Ns) (f : Nat) : Nat → Nat
  | 0 => 0
  | v + 1 => szR n ns f v + (atR n ns f v).length
theorem szR_lt : ∀ v, szR n ns f v + 1 ≤ 2 ^ v
  | 0 => by simp [szR]
  | v + 1 => by
    have h1 := szR_lt v
    have h2 : (atR n ns f v).length ≤ (levR n ns f v).length := List.length_filter_le _ _
    have h3 := levR_len (n := n) (ns := ns) (f := f) v
    rw [szR, Nat.pow_succ]
    omega
theorem szR_list (w : Wf n ns) (hf : Ref ns f) : ∀ v, v ≤ n → ∃ L : List Nat, L.Nodup ∧ L.length = szR n ns f v ∧ ∀ z, z ∈ L ↔ Rch n ns f z ∧ tv n ns z < v
  | 0, _ => ⟨[], by simp, rfl, fun z => by simp⟩
  | v + 1, hv => by
    obtain ⟨L, h1, h2, h3⟩ := szR_list w hf v (by omega)
    refine ⟨L ++ atR n ns f v, ?_, by simp [szR, h2], fun z => ?_⟩
    · rw [List.nodup_append]
      refine ⟨h1, (levR_nodup v).filter _, fun a ha b hb e => ?_⟩
      subst e
      have := ((h3 a).1 ha).2
      have := ((atR_mem w hf (by omega)).1 hb).2
      omega
    · rw [List.mem_append, h3, atR_mem w hf (by omega)]
      constructor
      · rintro (⟨h4, h5⟩ | ⟨h4, h5⟩)
        · exact ⟨h4, by omega⟩
        · exact ⟨h4, by omega⟩
      · rintro ⟨h4, h5⟩
        rcases (show tv n ns z < v ∨ tv n ns z = v by omega) with h | h
        · exact .inl ⟨h4, h⟩
        · exact .inr ⟨h4, h⟩
theorem szR_eq (w : Wf n ns) (hf : Ref ns f) {L : List Nat} (hn : L.Nodup) (hL : ∀ z, z ∈ L ↔ Rch n ns f z) : szR n ns f n = L.length := by
  obtain ⟨L', h1, h2, h3⟩ := szR_list w hf n (Nat.le_refl _)
  have h4 : ∀ z, z ∈ L' ↔ z ∈ L := fun z => by
    rw [h3, hL]
    exact ⟨fun h => h.1, fun h => ⟨h, w.tv_var h.ge (h.ref w hf)⟩⟩
  rw [← h2]
  exact Nat.le_antisymm (nodup_len _ _ h1 fun x hx => (h4 x).1 hx) (nodup_len _ _ hn fun x hx => (h4 x).2 hx)
theorem rch_small (w : Wf n ns) (hf : Ref ns f) {L : List Nat} (hn : L.Nodup) (hL : ∀ z, z ∈ L ↔ Rch n ns f z) : L.length ≤ ns.length := by
  have h := nodup_len (L.map (· - 2)) (List.range ns.length) ?_ ?_
  · simpa using h
  · rw [List.nodup_iff_pairwise_ne, List.pairwise_map]
    refine List.Pairwise.imp_of_mem ?_ (List.nodup_iff_pairwise_ne.1 hn)
    intro a b ha hb hne e
    have := ((hL a).1 ha).ge
    have := ((hL b).1 hb).ge
    omega
  · intro x hx
    obtain ⟨y, hy, rfl⟩ := List.mem_map.1 hx
    have h1 := (hL y).1 hy
    have h2 := h1.ref w hf
    have := h1.ge
    unfold Ref at h2
    exact List.mem_range.2 (by omega)
/-- A level depends on its variable where a node stands. -/
theorem Mean.dep_top {F : (Nat → Bool) → Bool} {y v : Nat} (h : Mean n ns y F) (w : Wf n ns) (hv : v ≤ tv n ns y) (hn : v < n) : decide (tab n (resF F v false) ≠ tab n (resF F v true)) = (tv n ns y == v) := by
  rw [Bool.eq_iff_iff, decide_eq_true_eq, beq_iff_eq, h.dep w v]
  constructor
  · rintro ⟨z, hz, e⟩
    have := hz.tv_top w h.ref
    omega
  · intro e
    refine ⟨y, .self ?_, e⟩
    rcases Nat.lt_or_ge y 2 with h4 | h4
    · have := tv_lt (n := n) (ns := ns) h4; omega
    · exact h4
theorem Mean.lo {F : (Nat → Bool) → Bool} {y v : Nat} (h : Mean n ns y F) (w : Wf n ns) (hv : v ≤ tv n ns y) (hn : v < n) : Mean n ns (lo n ns v y) (resF F v false) := by
  have c := cof_of w h.ref hv hn
  refine ⟨c.rl, fun a => ?_⟩
  have : v < tv n ns (Bd.lo n ns v y) := c.tl
  rw [← eval_upd w (a := a) (v := v) (x := false) c.rl this]
  have e := c.ev (upd a v false)
  simp at e
  rw [← e, h.ev]
  rfl
theorem Mean.hi {F : (Nat → Bool) → Bool} {y v : Nat} (h : Mean n ns y F) (w : Wf n ns) (hv : v ≤ tv n ns y) (hn : v < n) : Mean n ns (hi n ns v y) (resF F v true) := by
  have c := cof_of w h.ref hv hn
  refine ⟨c.rh, fun a => ?_⟩
  have : v < tv n ns (Bd.hi n ns v y) := c.th
  rw [← eval_upd w (a := a) (v := v) (x := true) c.rh this]
  have e := c.ev (upd a v true)
  simp at e
  rw [← e, h.ev]
  rfl
end
end Go.Bd
