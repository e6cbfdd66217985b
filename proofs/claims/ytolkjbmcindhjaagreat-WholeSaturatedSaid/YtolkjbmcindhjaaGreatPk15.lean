/-
  A part of the proof of this claim's statement (WhDij, WhPlain, WhFr): plain theorems; no conditions beyond those each names.
-/
import Derived.Test.YtolkjbmcindhjaaGreatPk11
import Derived.Test.YtolkjbmcindhjaaGreatPk14
import Derived.Test.YtolkjbmcindhjaaGreatPk07
section
set_option linter.unusedVariables false
set_option linter.unusedSimpArgs false
namespace Go.Rx
/-- The edges of a system as unary operators, backwards. -/
def unE (es : List (Nat × Nat × Nat)) (c : Nat → Nat) : List Un := es.map fun e => ⟨e.2.1, 0, c e.2.1, e.1, [e.2.2]⟩
theorem unE_mem {es : List (Nat × Nat × Nat)} {c : Nat → Nat} {e : Nat × Nat × Nat} (h : e ∈ es) : (⟨e.2.1, 0, c e.2.1, e.1, [e.2.2]⟩ : Un) ∈ unE es c := List.mem_map.2 ⟨e, h, rfl⟩
/-- The state of the search; pend are the edges that are still to be looked at. -/
structure Dk (es : List (Nat × Nat × Nat)) (c : Nat → Nat) (S S0 : List Nat) (out : Nat → Nat) (s : List En) (done : Nat → Bool) (cur : Nat) (pend : List (Nat × Nat × Nat)) : Prop where
  s0 : ∀ f ∈ S0, out f = 0
  der : ∀ f, out f < Inf → Der (unE es c) S f (out f)
  le : ∀ f, out f ≤ Inf
  ent : ∀ e ∈ s, out e.2 ≤ e.1 ∧ e.1 < Inf
  wait : ∀ f, out f < Inf → done f = false → (out f, f) ∈ s
  dn : ∀ f, done f = true → out f ≤ cur
  nd : ∀ e ∈ s, cur ≤ e.1
  cu : cur < Inf
  fired : ∀ e ∈ es, done e.2.2 = true → e ∉ pend → out e.1 ≤ out e.2.2 + c e.2.1
section
variable {es : List (Nat × Nat × Nat)} {c : Nat → Nat} {S S0 : List Nat} {out : Nat → Nat} {s : List En} {done : Nat → Bool} {cur : Nat} {pend : List (Nat × Nat × Nat)}
theorem Dk.init : Dk es c S [] (fun _ => Inf) [] (fun _ => false) 0 [] := {
  s0 := by simp
  der := fun f hf => by simp at hf
  le := fun _ => Nat.le_refl _
  ent := by simp
  wait := fun f hf => by simp at hf
  dn := by simp
  nd := by simp
  cu := by decide
  fired := fun e he hd => by cases hd }
/-- A state is improved. -/
theorem Dk.reach (h : Dk es c S S0 out s done cur pend) {v f : Nat} (hlt : v < out f) (hd : Der (unE es c) S f v) (hc : cur ≤ v) : Dk es c S S0 (updN out f v) ((v, f) :: s) done cur pend := by
  have hle := h.le f
  have low : ∀ g, updN out f v g ≤ out g := fun g => by
    by_cases e : g = f
    · subst e; simp; omega
    · rw [updN_ne e]; exact Nat.le_refl _
  have nf : done f = false := by
    cases hdf : done f with
    | false => rfl
    | true => have := h.dn f hdf; omega
  refine ⟨fun g hg => ?_, fun g hg => ?_, fun g => Nat.le_trans (low g) (h.le g), fun e he => ?_, fun g hg hdg => ?_, fun g hg => Nat.le_trans (low g) (h.dn g hg), fun e he => ?_, h.cu, fun e he hdn hnp => ?_⟩
  · have := h.s0 g hg
    have := low g
    omega
  · by_cases e : g = f
    · subst e; simpa using hd
    · rw [updN_ne e] at hg ⊢; exact h.der g hg
  · rcases List.mem_cons.1 he with rfl | he
    · exact ⟨by simp, by show v < Inf; omega⟩
    · obtain ⟨h1, h2⟩ := h.ent e he
      exact ⟨Nat.le_trans (low _) h1, h2⟩
  · by_cases e : g = f
    · subst e; simp
    · rw [updN_ne e] at hg ⊢
      exact List.mem_cons_of_mem _ (h.wait g hg hdg)
  · rcases List.mem_cons.1 he with rfl | he
    · exact hc
    · exact h.nd e he
  · have e1 : updN out f v e.2.2 = out e.2.2 := updN_ne fun e' => by
      rw [e', nf] at hdn; cases hdn
    rw [e1]
    exact Nat.le_trans (low _) (h.fired e he hdn hnp)
/-- A goal state. -/
theorem Dk.goal (h : Dk es c S S0 out s done 0 pend) {f : Nat} (hf : f ∈ S) (ho : out f = Inf) : Dk es c S (S0 ++ [f]) (updN out f 0) ((0, f) :: s) done 0 pend := by
  have h1 := h.reach (v := 0) (f := f) (by rw [ho]; decide) (Der.base hf) (Nat.le_refl 0)
  refine ⟨fun g hg => ?_, h1.der, h1.le, h1.ent, h1.wait, h1.dn, h1.nd, h1.cu, h1.fired⟩
  rcases List.mem_append.1 hg with h2 | h2
  · exact h1.s0 g h2
  · simp at h2; subst h2; simp
theorem Dk.look {e : Nat × Nat × Nat} (h : Dk es c S S0 out s done cur (e :: pend)) (he : out e.1 ≤ out e.2.2 + c e.2.1) : Dk es c S S0 out s done cur pend := by
  refine ⟨h.s0, h.der, h.le, h.ent, h.wait, h.dn, h.nd, h.cu, fun j hj hd hnp => ?_⟩
  by_cases e' : j = e
  · subst e'; exact he
  · exact h.fired j hj hd (by simp [e', hnp])
theorem Dk.der_now (h : Dk es c S S0 out s done cur pend) {e : Nat × Nat × Nat} (he : e ∈ es) (hn : out e.2.2 < Inf) : Der (unE es c) S e.1 (out e.2.2 + c e.2.1) := by
  have := Der.step (unE_mem (c := c) he) out (S := S) fun n hn2 => by
    simp at hn2; subst hn2; exact h.der _ hn
  simpa [gr] using this
/-- An entry that is no more valid. -/
theorem Dk.skip (h : Dk es c S S0 out s done cur pend) {x : En} (hd : out x.2 < x.1) : Dk es c S S0 out (s.erase x) done cur pend := by
  refine ⟨h.s0, h.der, h.le, fun e he => h.ent e (List.mem_of_mem_erase he), fun f hf hdf => ?_, h.dn, fun e he => h.nd e (List.mem_of_mem_erase he), h.cu, h.fired⟩
  refine (List.mem_erase_of_ne fun e => ?_).2 (h.wait f hf hdf)
  rw [← e] at hd
  simp at hd
/-- The least entry. -/
theorem Dk.pop (h : Dk es c S S0 out s done cur []) {x : En} (hx : x ∈ s) (hm : ∀ y ∈ s, x.1 ≤ y.1) (hd : x.1 ≤ out x.2) (hp : ∀ e ∈ es, e.2.2 = x.2 → e ∈ pend) :
    Dk es c S S0 out (s.erase x) (updN done x.2 true) x.1 pend ∧ out x.2 = x.1 := by
  obtain ⟨h1, h2⟩ := h.ent x hx
  have e : out x.2 = x.1 := Nat.le_antisymm h1 hd
  refine ⟨⟨h.s0, h.der, h.le, fun e he => h.ent e (List.mem_of_mem_erase he), fun f hf hdf => ?_, fun f hf => ?_, fun e he => hm e (List.mem_of_mem_erase he), h2, fun j hj hdj hnp => ?_⟩, e⟩
  · have hne : f ≠ x.2 := fun e => by rw [e] at hdf; simp at hdf
    rw [updN_ne hne] at hdf
    exact (List.mem_erase_of_ne fun e => hne (by rw [← e])).2 (h.wait f hf hdf)
  · by_cases e2 : f = x.2
    · rw [e2, e]; exact Nat.le_refl _
    · rw [updN_ne e2] at hf
      exact Nat.le_trans (h.dn f hf) (h.nd x hx)
  · by_cases e2 : j.2.2 = x.2
    · exact absurd (hp j hj e2) hnp
    · rw [updN_ne e2] at hdj
      exact h.fired j hj hdj (by simp)
/-- At the end. -/
theorem Dk.fin (h : Dk es c S S out [] done cur []) : IsVal (unE es c) S out := by
  refine ⟨h.s0, fun u hu hg => ?_, h.der, h.le⟩
  obtain ⟨e, he, rfl⟩ := List.mem_map.1 hu
  simp only [gr, Nat.max_zero] at hg ⊢
  refine h.fired e he ?_ (by simp)
  cases hd : done e.2.2 with
  | true => rfl
  | false => have := h.wait _ hg hd; cases this
end
structure Sy (es : List (Nat × Nat × Nat)) (N m : Nat) : Prop where
  rng : ∀ e ∈ es, e.1 < N ∧ e.2.1 < m ∧ e.2.2 < N
theorem sy_der {es : List (Nat × Nat × Nat)} {c : Nat → Nat} {S : List Nat} {N m : Nat} (h : Sy es N m) (hS : ∀ f ∈ S, f < N) : ∀ f k, Der (unE es c) S f k → f < N := fun f k d => by
  cases d with
  | base h => exact hS _ h
  | step hu k h' =>
    obtain ⟨e, he, rfl⟩ := List.mem_map.1 hu
    exact (h.rng e he).1
/-- What a database of distances is like: N states, costs at most C. -/
structure Dst (es : List (Nat × Nat × Nat)) (c : Nat → Nat) (S : List Nat) (N : Nat) (V : Nat → Nat) : Prop where
  le : ∀ f, V f ≤ Inf
  z : ∀ f ∈ S, V f = 0
  bd : ∀ f, V f < Inf → V f ≤ N * 1048576
  ed : ∀ e ∈ es, V e.2.2 < Inf → V e.1 < Inf ∧ V e.1 ≤ V e.2.2 + c e.2.1
theorem IsVal.dst {es : List (Nat × Nat × Nat)} {c : Nat → Nat} {S : List Nat} {N m : Nat} {V : Nat → Nat} (h : IsVal (unE es c) S V) (hs : Sy es N m) (hS : ∀ f ∈ S, f < N) (hN : N ≤ 4096) (hc : ∀ i, i < m → c i ≤ 1048576) : Dst es c S N V := by
  have hC : ∀ u ∈ unE es c, u.cost ≤ 1048576 := fun u hu => by
    obtain ⟨e, he, rfl⟩ := List.mem_map.1 hu
    exact hc _ (hs.rng e he).2.1
  have hb : ∀ f, V f < Inf → V f ≤ N * 1048576 := fun f hf => h.bound hC (sy_der hs hS) hf
  refine ⟨h.le, h.s0, hb, fun e he hf => ?_⟩
  have h1 := h.cl _ (unE_mem (c := c) he) (by simpa [gr] using hf)
  simp only [gr, Nat.max_zero] at h1
  have h2 := hb _ hf
  have h3 := hc _ (hs.rng e he).2.1
  have h4 : N * 1048576 ≤ 4096 * 1048576 := Nat.mul_le_mul_right _ hN
  have h5 : V e.1 < Inf := by unfold Inf; omega
  exact ⟨h5, h1⟩
/-- One edge is taken into the costs. -/
def sat1 (V : Nat → Nat) (p : List Nat) (e : Nat × Nat × Nat) : List Nat := if V e.1 < Inf ∧ V e.2.2 < Inf then p.set e.2.1 (max (p.getD e.2.1 0) (V e.1 - V e.2.2)) else p
def satL (V : Nat → Nat) (m : Nat) (es : List (Nat × Nat × Nat)) : List Nat := es.foldl (sat1 V) (List.replicate m 0)
theorem sat1_len {V : Nat → Nat} {p : List Nat} {e : Nat × Nat × Nat} : (sat1 V p e).length = p.length := by unfold sat1; split <;> simp
theorem satL_len {V : Nat → Nat} {m : Nat} {es : List (Nat × Nat × Nat)} : (satL V m es).length = m := by
  unfold satL
  suffices h : ∀ p, (es.foldl (sat1 V) p).length = p.length by rw [h]; simp
  induction es with
  | nil => intro p; rfl
  | cons e es ih => intro p; rw [List.foldl_cons, ih, sat1_len]
theorem sat1_ge {V : Nat → Nat} {p : List Nat} {e : Nat × Nat × Nat} (i : Nat) : p.getD i 0 ≤ (sat1 V p e).getD i 0 := by
  unfold sat1
  split
  · by_cases hi : e.2.1 = i
    · subst hi
      by_cases hl : e.2.1 < p.length
      · simp [List.getD, List.getElem?_set_self hl]
        omega
      · simp [List.getD, List.getElem?_eq_none (Nat.le_of_not_lt hl)]
    · simp [List.getD, List.getElem?_set_ne hi]
  · exact Nat.le_refl _
theorem sat1_le {V : Nat → Nat} {p : List Nat} {e : Nat × Nat × Nat} {c : Nat → Nat} (hp : ∀ i, p.getD i 0 ≤ c i) (he : V e.2.2 < Inf → V e.1 ≤ V e.2.2 + c e.2.1) (i : Nat) : (sat1 V p e).getD i 0 ≤ c i := by
  unfold sat1
  split
  · rename_i h
    have h1 := he h.2
    have h2 := hp e.2.1
    by_cases hi : e.2.1 = i
    · subst hi
      by_cases hl : e.2.1 < p.length
      · simp only [List.getD, List.getElem?_set_self hl, Option.getD_some]
        simp only [List.getD] at h2
        omega
      · rw [List.set_eq_of_length_le (Nat.le_of_not_lt hl)]; exact h2
    · have := hp i
      simpa [List.getD, List.getElem?_set_ne hi] using this
  · exact hp i
theorem satF_ge {V : Nat → Nat} {es : List (Nat × Nat × Nat)} (i : Nat) : ∀ {p : List Nat}, p.getD i 0 ≤ (es.foldl (sat1 V) p).getD i 0 := by
  induction es with
  | nil => intro p; exact Nat.le_refl _
  | cons e es ih => intro p; rw [List.foldl_cons]; exact Nat.le_trans (sat1_ge i) ih
theorem satL_le {V : Nat → Nat} {m : Nat} {es : List (Nat × Nat × Nat)} {c : Nat → Nat} (he : ∀ e ∈ es, V e.2.2 < Inf → V e.1 ≤ V e.2.2 + c e.2.1) (i : Nat) : (satL V m es).getD i 0 ≤ c i := by
  unfold satL
  suffices h : ∀ p : List Nat, (∀ i, p.getD i 0 ≤ c i) → ∀ i, (es.foldl (sat1 V) p).getD i 0 ≤ c i by
    refine h _ (fun i => ?_) i
    simp only [List.getD, List.getElem?_replicate]
    split <;> simp
  induction es with
  | nil => intro p hp; exact hp
  | cons e es ih =>
    intro p hp
    rw [List.foldl_cons]
    exact ih (fun e' h' => he e' (List.mem_cons_of_mem _ h')) _ (sat1_le hp (he e (by simp)))
theorem satL_ed {V : Nat → Nat} {m : Nat} {es : List (Nat × Nat × Nat)} {e : Nat × Nat × Nat} (he : e ∈ es) (hm : e.2.1 < m) (h1 : V e.1 < Inf) (h2 : V e.2.2 < Inf) : V e.1 ≤ V e.2.2 + (satL V m es).getD e.2.1 0 := by
  unfold satL
  suffices h : ∀ p : List Nat, e.2.1 < p.length → V e.1 ≤ V e.2.2 + (es.foldl (sat1 V) p).getD e.2.1 0 from h _ (by simpa using hm)
  induction es with
  | nil => cases he
  | cons x es ih =>
    intro p hp
    rw [List.foldl_cons]
    rcases List.mem_cons.1 he with rfl | he
    · have := satF_ge (V := V) (es := es) e.2.1 (p := sat1 V p e)
      have h3 : V e.1 - V e.2.2 ≤ (sat1 V p e).getD e.2.1 0 := by
        unfold sat1
        rw [if_pos ⟨h1, h2⟩]
        simp [List.getD, List.getElem?_set_self hp]
        omega
      omega
    · exact ih he _ (by rw [sat1_len]; exact hp)
end Go.Rx
end
section
set_option maxRecDepth 100000
set_option linter.unusedSimpArgs false
set_option linter.unusedVariables false
namespace Go.Proofs.YtolkjbmcindhjaaGreat
open Go Go.W Go.Tk Go.Rx
/-- The number of the values of some variables in a state. -/
def nbK (vars s p : List Nat) : Nat → Nat
  | 0 => 0
  | k + 1 => nbK vars s p k * vars.getD (p.getD k 0) 0 + s.getD (p.getD k 0) 0
def nbS (vars s p : List Nat) : Nat := nbK vars s p p.length
/-- The number of combinations. -/
def szK (vars p : List Nat) : Nat → Nat
  | 0 => 1
  | k + 1 => szK vars p k * vars.getD (p.getD k 0) 0
def szS (vars p : List Nat) : Nat := szK vars p p.length
theorem nbK_lt {vars s p : List Nat} (h : ∀ v ∈ p, s.getD v 0 < vars.getD v 0) : ∀ k, k ≤ p.length → nbK vars s p k < szK vars p k
  | 0, _ => by simp [nbK, szK]
  | k + 1, hk => by
    have h1 := nbK_lt h k (by omega)
    have h2 := h (p.getD k 0) (mem_getD (by omega))
    simp only [nbK, szK]
    have h3 : (nbK vars s p k + 1) * vars.getD (p.getD k 0) 0 ≤ szK vars p k * vars.getD (p.getD k 0) 0 := Nat.mul_le_mul_right _ h1
    rw [Nat.add_mul] at h3
    omega
theorem nbK_congr {vars s t p : List Nat} (h : ∀ v ∈ p, s.getD v 0 = t.getD v 0) : ∀ k, k ≤ p.length → nbK vars s p k = nbK vars t p k
  | 0, _ => rfl
  | k + 1, hk => by simp only [nbK]; rw [nbK_congr h k (by omega), h (p.getD k 0) (mem_getD (by omega))]
theorem nbS_congr {vars s t p : List Nat} (h : ∀ v ∈ p, s.getD v 0 = t.getD v 0) : nbS vars s p = nbS vars t p := nbK_congr h _ (Nat.le_refl _)
theorem nbS_lt {vars s p : List Nat} (h : ∀ v ∈ p, s.getD v 0 < vars.getD v 0) : nbS vars s p < szS vars p := nbK_lt h _ (Nat.le_refl _)
theorem getD_app_lt {p q : List Nat} {k : Nat} (h : k < p.length) : (p ++ q).getD k 0 = p.getD k 0 := by simp [List.getD, List.getElem?_append_left h]
theorem nbK_app {vars s p q : List Nat} : ∀ k, k ≤ p.length → nbK vars s (p ++ q) k = nbK vars s p k
  | 0, _ => rfl
  | k + 1, hk => by simp only [nbK]; rw [nbK_app k (by omega), getD_app_lt (by omega)]
theorem nbS_snoc {vars s p : List Nat} {v : Nat} : nbS vars s (p ++ [v]) = nbS vars s p * vars.getD v 0 + s.getD v 0 := by
  have e : (p ++ [v]).length = p.length + 1 := by simp
  have e2 : (p ++ [v]).getD p.length 0 = v := by simp [List.getD]
  unfold nbS
  rw [e]
  simp only [nbK]
  rw [nbK_app _ (Nat.le_refl _), e2]
/-- The values of variables (the last one first) are set by a number. -/
def putR (vars : List Nat) : List Nat → List Nat → Nat → List Nat
  | [], s, _ => s
  | v :: r, s, n => putR vars r (s.set v (n % vars.getD v 0)) (n / vars.getD v 0)
theorem putR_len {vars : List Nat} : ∀ {r s : List Nat} {n : Nat}, (putR vars r s n).length = s.length
  | [], s, n => rfl
  | v :: r, s, n => by simp only [putR]; rw [putR_len]; simp
theorem putR_out {vars : List Nat} {u : Nat} : ∀ {r s : List Nat} {n : Nat}, u ∉ r → (putR vars r s n).getD u 0 = s.getD u 0
  | [], s, n, _ => rfl
  | v :: r, s, n, h => by
    simp only [List.mem_cons, not_or] at h
    simp only [putR]
    rw [putR_out h.2, Go.Rx.getD_set_ne (fun e => h.1 e.symm)]
theorem putR_rng {vars : List Nat} {u : Nat} : ∀ {r s : List Nat} {n : Nat}, (∀ v ∈ r, v < s.length ∧ 0 < vars.getD v 0) → u ∈ r → (putR vars r s n).getD u 0 < vars.getD u 0
  | [], s, n, _, h => by cases h
  | v :: r, s, n, hr, h => by
    simp only [putR]
    by_cases hu : u ∈ r
    · exact putR_rng (fun v' hv' => by rw [List.length_set]; exact hr v' (List.mem_cons_of_mem _ hv')) hu
    · rcases List.mem_cons.1 h with rfl | h
      · rw [putR_out hu, Go.Rx.getD_set_same (hr u (by simp)).1]
        exact Nat.mod_lt _ (hr u (by simp)).2
      · exact absurd h hu
theorem putR_nb {vars x : List Nat} {u : Nat} : ∀ {p s : List Nat}, (∀ v ∈ p, v < s.length ∧ x.getD v 0 < vars.getD v 0) → u ∈ p → (putR vars p.reverse s (nbS vars x p)).getD u 0 = x.getD u 0 := by
  intro p
  induction hn : p.length generalizing p with
  | zero =>
    intro s h hu
    rw [List.length_eq_zero_iff.1 hn] at hu
    cases hu
  | succ n ih =>
    intro s h hu
    obtain ⟨q, v, rfl⟩ : ∃ q v, p = q ++ [v] := ⟨p.dropLast, p.getLast (by intro e; simp [e] at hn), (List.dropLast_concat_getLast _).symm⟩
    rw [nbS_snoc, List.reverse_append]
    simp only [List.reverse_cons, List.reverse_nil, List.nil_append, List.cons_append, putR]
    have hv := h v (by simp)
    have e1 : (nbS vars x q * vars.getD v 0 + x.getD v 0) % vars.getD v 0 = x.getD v 0 := by
      rw [Nat.mul_comm, Nat.mul_add_mod, Nat.mod_eq_of_lt hv.2]
    have e2 : (nbS vars x q * vars.getD v 0 + x.getD v 0) / vars.getD v 0 = nbS vars x q := by
      rw [Nat.mul_comm, Nat.mul_add_div (by omega), Nat.div_eq_of_lt hv.2]; omega
    rw [e1, e2]
    by_cases hq : u ∈ q
    · exact ih (by simp at hn; omega) (fun w hw => by rw [List.length_set]; exact h w (by simp [hw])) hq
    · have e3 : u = v := by simp [hq] at hu; exact hu
      subst e3
      rw [putR_out (by simpa using hq), Go.Rx.getD_set_same hv.1]
/-- A pattern. -/
structure Pt (T : Nt) (p : List Nat) : Prop where
  asc : p.Pairwise (· < ·)
  rng : ∀ v ∈ p, v < T.vars.length
  len : 1 ≤ p.length ∧ p.length ≤ 2
theorem Pt.nodup {T : Nt} {p : List Nat} (h : Pt T p) : p.Nodup := h.asc.imp fun h => Nat.ne_of_lt h
theorem Pt.nb_lt {T : Nt} {p s : List Nat} (h : Pt T p) (hs : StN T.vars s) : nbS T.vars s p < szS T.vars p := nbS_lt fun v hv => hs.rng v (h.rng v hv)
/-- The system of a pattern: N states, gl its goal states, es its edges. -/
structure Prj (T : Nt) (p : List Nat) (gl : List Bool) (es : List Ed) : Prop where
  sy : Sy es (szS T.vars p) T.ops.length
  glen : gl.length = szS T.vars p
  goal : ∀ x, StN T.vars x → hdB x T.goal = true → gl[nbS T.vars x p]? = some true
  step : ∀ x q o, StN T.vars x → T.ops[q]? = some o → hdB x o.pre = true → (nbS T.vars x p, q, nbS T.vars (apS o x) p) ∈ es
/-- The goal states. -/
def glS (gl : List Bool) : List Nat := (List.range gl.length).filter fun i => gl.getD i false
theorem glS_mem {gl : List Bool} {i : Nat} : i ∈ glS gl ↔ gl[i]? = some true := by
  unfold glS
  rw [List.mem_filter, List.mem_range]
  constructor
  · rintro ⟨h1, h2⟩
    simp [List.getD, h1] at h2
    simp [h1, h2]
  · intro h
    have h1 := (List.getElem?_eq_some_iff.1 h).1
    exact ⟨h1, by simp [List.getD, h]⟩
theorem glS_lt {gl : List Bool} {i : Nat} (h : i ∈ glS gl) : i < gl.length := (List.getElem?_eq_some_iff.1 (glS_mem.1 h)).1
/-- A database. -/
structure DbOk (T : Nt) (p : List Nat) (V : Nat → Nat) (part : List Nat) (c : Nat → Nat) : Prop where
  le : ∀ i, V i ≤ Inf
  bd : ∀ i, V i < Inf → V i ≤ 4096 * 1048576
  z : ∀ x, StN T.vars x → hdB x T.goal = true → V (nbS T.vars x p) = 0
  st : ∀ x q o, StN T.vars x → T.ops[q]? = some o → hdB x o.pre = true → V (nbS T.vars (apS o x) p) < Inf → V (nbS T.vars x p) < Inf ∧ V (nbS T.vars x p) ≤ V (nbS T.vars (apS o x) p) + part.getD q 0
  pl : part.length = T.ops.length
  pc : ∀ i, part.getD i 0 ≤ c i
theorem DbOk.of {T : Nt} {p : List Nat} {gl : List Bool} {es : List Ed} {V : Nat → Nat} {c : Nat → Nat} (h : Prj T p gl es) (hN : szS T.vars p ≤ 4096) (hc : ∀ i, i < T.ops.length → c i ≤ 1048576) (hv : IsVal (unE es c) (glS gl) V) : DbOk T p V (satL V T.ops.length es) c := by
  have hS : ∀ f ∈ glS gl, f < szS T.vars p := fun f hf => by have := glS_lt hf; rw [h.glen] at this; exact this
  have hd := hv.dst h.sy hS hN hc
  refine ⟨hd.le, fun i hi => Nat.le_trans (hd.bd i hi) (Nat.mul_le_mul_right _ hN), fun x hx hg => hd.z _ (glS_mem.2 (h.goal x hx hg)), fun x q o hx ho hp hf => ?_, satL_len, satL_le fun e he hf => (hd.ed e he hf).2⟩
  have he := h.step x q o hx ho hp
  have h1 := (hd.ed _ he hf).1
  exact ⟨h1, satL_ed he (List.getElem?_eq_some_iff.1 ho).1 h1 hf⟩
/-- A database: its pattern, its values, its part of the costs. -/
abbrev Db := List Nat × (Nat → Nat) × List Nat
/-- The sum of the values. -/
def hvL (vars s : List Nat) : List Db → Nat → Nat
  | [], a => a
  | d :: l, a => if d.2.1 (nbS vars s d.1) = Inf then Inf else hvL vars s l (a + d.2.1 (nbS vars s d.1))
def psm (q : Nat) (l : List Db) : Nat := (l.map fun d => d.2.2.getD q 0).sum
theorem hvL_step {T : Nt} {x : List Nat} {q : Nat} {o : No} (hx : StN T.vars x) (ho : T.ops[q]? = some o) (hp : hdB x o.pre = true) : ∀ (l : List Db) (a b : Nat), (∀ d ∈ l, ∃ c, DbOk T d.1 d.2.1 d.2.2 c) → hvL T.vars (apS o x) l b = Inf ∨ hvL T.vars x l a + b ≤ hvL T.vars (apS o x) l b + a + psm q l
  | [], a, b, _ => .inr (by simp [hvL, psm]; omega)
  | d :: l, a, b, h => by
    obtain ⟨c, hd⟩ := h d (by simp)
    simp only [hvL]
    by_cases e : d.2.1 (nbS T.vars (apS o x) d.1) = Inf
    · rw [if_pos e]; exact .inl rfl
    · rw [if_neg e]
      have hlt : d.2.1 (nbS T.vars (apS o x) d.1) < Inf := by have := hd.le (nbS T.vars (apS o x) d.1); omega
      obtain ⟨h1, h2⟩ := hd.st x q o hx ho hp hlt
      rw [if_neg (by omega)]
      rcases hvL_step hx ho hp l (a + d.2.1 (nbS T.vars x d.1)) (b + d.2.1 (nbS T.vars (apS o x) d.1)) (fun d' h' => h d' (List.mem_cons_of_mem _ h')) with h3 | h3
      · exact .inl h3
      · right
        have : psm q (d :: l) = d.2.2.getD q 0 + psm q l := by simp [psm]
        omega
theorem hvL_goal {T : Nt} {x : List Nat} (hx : StN T.vars x) (hg : hdB x T.goal = true) : ∀ (l : List Db) (a : Nat), (∀ d ∈ l, ∃ c, DbOk T d.1 d.2.1 d.2.2 c) → hvL T.vars x l a = a
  | [], a, _ => rfl
  | d :: l, a, h => by
    obtain ⟨c, hd⟩ := h d (by simp)
    simp only [hvL]
    rw [hd.z x hx hg, if_neg (by decide)]
    rw [hvL_goal hx hg l _ fun d' h' => h d' (List.mem_cons_of_mem _ h')]
    rfl
theorem hvL_le {T : Nt} {x : List Nat} : ∀ (l : List Db) (a : Nat), (∀ d ∈ l, ∃ c, DbOk T d.1 d.2.1 d.2.2 c) → a + l.length * (4096 * 1048576) ≤ Inf → hvL T.vars x l a ≤ Inf
  | [], a, _, h => by simpa [hvL] using h
  | d :: l, a, h, hb => by
    obtain ⟨c, hd⟩ := h d (by simp)
    simp only [hvL]
    split
    · exact Nat.le_refl _
    · rename_i e
      have h1 := hd.bd (nbS T.vars x d.1) (by have := hd.le (nbS T.vars x d.1); omega)
      refine hvL_le l _ (fun d' h' => h d' (List.mem_cons_of_mem _ h')) ?_
      simp only [List.length_cons, Nat.add_mul, Nat.one_mul] at hb
      omega
/-- A saturated partition. -/
structure PtOk (T : Nt) (l : List Db) : Prop where
  db : ∀ d ∈ l, ∃ c, DbOk T d.1 d.2.1 d.2.2 c
  len : l.length ≤ 12
  pt : ∀ d ∈ l, Pt T d.1
  sum : ∀ q o, T.ops[q]? = some o → psm q l ≤ o.cost
def hW (T : Nt) (l : List Db) (i : Nat) : Nat := match (stsK T.vars T.vars.length)[i]? with | some s => hvL T.vars s l 0 | none => 0
theorem hW_at {T : Nt} {l : List Db} {i : Nat} {s : List Nat} (h : (stsK T.vars T.vars.length)[i]? = some s) : hW T l i = hvL T.vars s l 0 := by unfold hW; rw [h]
theorem PtOk.hle {T : Nt} {l : List Db} (h : PtOk T l) (s : List Nat) : hvL T.vars s l 0 ≤ Inf := by
  refine hvL_le l 0 h.db ?_
  have h1 := h.len
  have h2 : l.length * (4096 * 1048576) ≤ 12 * (4096 * 1048576) := Nat.mul_le_mul_right _ h1
  unfold Inf
  omega
theorem hW_low {T : Nt} {l : List Db} {c : Nat → Nat} (hc : ∀ i o, T.ops[i]? = some o → c i = o.cost) (h : PtOk T l) (hT : SmT T) : Low (edA T) c (goalB T) (hW T l) := {
  le := fun i => by
    unfold hW
    split
    · exact h.hle _
    · omega
  z := fun i hg => by
    unfold goalB at hg
    cases hs : (stsK T.vars T.vars.length)[i]? with
    | none => unfold hW; rw [hs]
    | some s =>
      rw [hs] at hg
      rw [hW_at hs]
      exact hvL_goal (sts_st (List.mem_of_getElem? hs)) hg l 0 h.db
  st := fun e he => by
    obtain ⟨s, o, h1, h2, h3, h4⟩ := edK_mem he
    have hs0 := sts_st (List.mem_of_getElem? h1)
    have hst := apS_st hs0 (hT.g.ops o (List.mem_of_getElem? h2))
    rw [hW_at h1, h4, hW_at (rk_all hst)]
    rcases hvL_step hs0 h2 h3 l 0 0 h.db with h5 | h5
    · rw [h5]; exact Nat.le_trans (h.hle _) (Nat.le_add_right _ _)
    · have h6 := h.sum _ _ h2
      rw [hc _ _ h2]
      omega }
end Go.Proofs.YtolkjbmcindhjaaGreat
end
section
set_option maxRecDepth 100000
set_option linter.unusedSimpArgs false
set_option linter.unusedVariables false
namespace Go.Proofs.YtolkjbmcindhjaaGreat
open Go Go.W Go.Tk Go.Rx Go.Maps
abbrev Fr := Int × Int
def frE (f : Fr) : List Value := [.int .i64 f.1, .int .i64 f.2]
theorem frE_len (f : Fr) : (frE f).length = 2 := rfl
theorem frE_one (f : Fr) : (frE f).all oneC = true := rfl
def frV (f : Fr) : Value := .agg #[.int .i64 f.1, .int .i64 f.2]
def frO (f : Fr) : Obj := .cells #[.int .i64 f.1, .int .i64 f.2] 151 (0, 0)
def frP (f : Fr) : Bool := decide (1 ≤ f.2) && decide (f.2 ≤ 1048576) && decide (-1099511627776 ≤ f.1) && decide (f.1 ≤ 1099511627776) && decide (Nat.gcd f.1.natAbs f.2.natAbs = 1)
theorem frP_iff {f : Fr} : frP f = true ↔ 1 ≤ f.2 ∧ f.2 ≤ 1048576 ∧ -1099511627776 ≤ f.1 ∧ f.1 ≤ 1099511627776 ∧ Nat.gcd f.1.natAbs f.2.natAbs = 1 := by
  unfold frP
  simp only [Bool.and_eq_true, decide_eq_true_eq, and_assoc]
theorem rd_fr {w : World} {b : Nat} {f : Fr} (h : w.heap[b]? = some (frO f)) : cellsAt w ⟨b, 0, none⟩ 0 2 = some [.int .i64 f.1, .int .i64 f.2] := by
  unfold frO at h
  simp [cellsAt, Addr.add, cell_blk h]
theorem gcd_spec {w : World} (a b : Nat) (ha : a ≤ 9223372036854775807) (hb : b ≤ 9223372036854775807) :
    Calls Tryz.prog 161 [.int .i64 (a : Nat), .int .i64 (b : Nat)].toArray w fun e w' => ∃ x, e = .returned x ∧ x = .int .i64 (Nat.gcd a b : Nat) ∧ Kp [] w w' := by
  refine enter Tryz.func161 mixed low161 (Nat.le_of_ble_eq_true rfl) ?_
  simp only [L161]
  refine seq_cut (fun ρ w' => ρ 0 = .int .i64 (a : Nat) ∧ ρ 1 = .int .i64 (b : Nat) ∧ Kp [] w w') ?_ ?_
  · simp
    exact Kp.refl _ _
  rintro ρ w1 ⟨g0, g1, k1⟩
  refine seq_cut (fun ρ w' => ρ 0 = .int .i64 (Nat.gcd a b : Nat) ∧ Kp [] w w') ?_ ?_
  rotate_left
  · rintro ρ w2 ⟨g0, k2⟩
    simp [g0]
    exact k2
  simp
  refine loop_inv (fun m ρ w' => ∃ x y : Nat, m = y ∧ ρ 0 = .int .i64 (x : Nat) ∧ ρ 1 = .int .i64 (y : Nat) ∧ x ≤ 9223372036854775807 ∧ y ≤ 9223372036854775807 ∧ Nat.gcd x y = Nat.gcd a b ∧ Kp [] w w') b ⟨a, b, rfl, g0, g1, ha, hb, rfl, k1⟩ ?_
  clear g0 g1 k1
  rintro m ρ w2 ⟨x, y, rfl, g0, g1, hx, hy, hg, k2⟩
  by_cases h0 : m = 0
  · subst h0
    simp [g0, g1]
    rw [← hg, Nat.gcd_zero_right]
    exact ⟨rfl, k2⟩
  · have n1 : ((m : Int) != 0) = true := by simp; omega
    have hr : (x : Int).tmod (m : Int) = ((x % m : Nat) : Int) := by rw [Int.tmod_eq_emod_of_nonneg (by omega)]; simp
    obtain ⟨r, hrr⟩ : ∃ r, r = x % m := ⟨_, rfl⟩
    have hlt : r < m := by rw [hrr]; exact Nat.mod_lt _ (by omega)
    rw [← hrr] at hr
    simp [g0, g1, n1, hr, h0]
    refine ⟨r, hlt, m, rfl, rfl, hy, by omega, ?_, k2.drew⟩
    rw [← hg, hrr, Nat.gcd_comm m, ← Nat.gcd_rec, Nat.gcd_comm]
theorem abs_spec {w : World} (n : Int) (h1 : -9223372036854775807 ≤ n) (h2 : n ≤ 9223372036854775807) :
    Calls Tryz.prog 162 [.int .i64 n].toArray w fun e w' => ∃ x, e = .returned x ∧ x = .int .i64 (n.natAbs : Nat) ∧ Kp [] w w' := by
  refine enter Tryz.func162 mixed low162 (Nat.le_of_ble_eq_true rfl) ?_
  simp only [L162]
  have e1 : max n (0 - n) = (n.natAbs : Int) := by omega
  have e2 : IntKind.i64.wrap (0 - n) = 0 - n := wrap_i64 (by omega) (by omega)
  simp only [Int.zero_sub] at e1 e2
  simp [e1, e2]
  exact Kp.refl _ _
theorem gcd_le {f : Fr} {B : Nat} (h : f.1.natAbs ≤ B) (h2 : f.2.natAbs ≤ B) : Nat.gcd f.1.natAbs f.2.natAbs ≤ B := by
  rcases Nat.eq_zero_or_pos f.1.natAbs with e | e
  · rw [e, Nat.gcd_zero_left]; exact h2
  · exact Nat.le_trans (Nat.gcd_le_left _ e) h
theorem proper9_spec {w : World} (f : Fr) :
    Calls Tryz.prog 137 [frV f].toArray w fun e w' => ∃ x, e = .returned x ∧ x = .bool (frP f) ∧ Kp [] w w' := by
  refine enter Tryz.func137 mixed low137 (Nat.le_of_ble_eq_true rfl) ?_
  simp only [L137]
  obtain ⟨b, hb⟩ : ∃ b, b = w.heap.size := ⟨_, rfl⟩
  have h1 : At w [] (Star (ObjA b (frO f)) Emp) (w.alloc (frO f)) := by rw [hb]; exact (At.start rfl).alloc _ .emp
  obtain ⟨w1, hw1⟩ : ∃ w1, w1 = w.alloc (frO f) := ⟨_, rfl⟩
  rw [← hw1] at h1
  have hw1' : w.alloc (.cells #[.int .i64 f.1, .int .i64 f.2] 151 (0, 0)) = w1 := by rw [hw1]; rfl
  have hL : Lcl (Star (ObjA b (frO f)) Emp) := Lcl.obj.star .emp
  have ob1 := h1.obj
  unfold frO at ob1
  have hk := h1.kp.drew
  by_cases t1 : 1 ≤ f.2
  case neg =>
    have e : frP f = false := by cases h : frP f with | false => rfl | true => exact absurd (frP_iff.1 h).1 t1
    simp [frV, ← hb, hw1', cell_blk ob1, t1, e]
    exact hk
  by_cases t2 : f.2 ≤ 1048576
  case neg =>
    have e : frP f = false := by cases h : frP f with | false => rfl | true => exact absurd (frP_iff.1 h).2.1 t2
    simp [frV, ← hb, hw1', cell_blk ob1, t1, t2, e]
    exact hk
  by_cases t3 : -1099511627776 ≤ f.1
  case neg =>
    have e : frP f = false := by cases h : frP f with | false => rfl | true => exact absurd (frP_iff.1 h).2.2.1 t3
    simp [frV, ← hb, hw1', cell_blk ob1, t1, t2, t3, e]
    exact hk
  by_cases t4 : f.1 ≤ 1099511627776
  case neg =>
    have e : frP f = false := by cases h : frP f with | false => rfl | true => exact absurd (frP_iff.1 h).2.2.2.1 t4
    simp [frV, ← hb, hw1', cell_blk ob1, t1, t2, t3, t4, e]
    exact hk
  have e : frP f = decide (Nat.gcd f.1.natAbs f.2.natAbs = 1) := by unfold frP; simp [t1, t2, t3, t4]
  obtain ⟨d, hd⟩ : ∃ d : Nat, d = f.2.natAbs := ⟨_, rfl⟩
  have hdi : f.2 = (d : Int) := by omega
  have hgl := gcd_le (f := f) (B := 1099511627776) (by omega) (by omega)
  rw [← hd] at e hgl
  have heq : ((Nat.gcd f.1.natAbs d : Nat) : Int) = 1 ↔ Nat.gcd f.1.natAbs d = 1 := by omega
  simp [frV, ← hb, hw1', cell_blk ob1, t1, t2, t3, t4]
  refine ⟨?_, ?_⟩
  all_goals
    refine cl_of (abs_spec f.1 (by omega) (by omega)) ?_
    rintro _ w2 ⟨rfl, k2⟩
    have h2 := (h1.drew hL).kp0 hL k2
    have ob2 := h2.obj
    unfold frO at ob2
    simp [cell_blk ob2]
    rw [hdi]
    refine cl_of (gcd_spec f.1.natAbs d (by omega) (by omega)) ?_
    rintro _ w3 ⟨rfl, k3⟩
    rw [e]
    simp
    exact ⟨by rw [Bool.eq_iff_iff, beq_iff_eq, decide_eq_true_eq]; exact heq, (h2.kp0 hL k3).kp⟩
theorem st_fr {f g : Fr} {b : Nat} {w w1 : World} {F : List Nat} {X : Asr} {KW : Kont World} (hX : Lcl X) (h : At w F (Star (ObjA b (frO f)) X) w1) (H : ∀ w2, At w F (Star (ObjA b (frO g)) X) w2 → KW.run w2) :
    @stJ w1 ⟨b, 0, none⟩ [.int .i64 g.1, .int .i64 g.2] KW :=
  (show At w F (Star (ObjA b (.cells #[.int .i64 f.1, .int .i64 f.2] 151 (0, 0))) X) w1 from h).st hX (by simp) (by simp) fun w2 h2 => H w2 (by simpa [frO] using h2)
theorem value_spec {w : World} (f : Fr) (hf : frP f = true) :
    Calls Tryz.prog 138 [frV f].toArray w fun e w' => ∃ x, e = .returned x ∧ x = frV f ∧ Kp [] w w' := by
  refine enter Tryz.func138 mixed low138 (Nat.le_of_ble_eq_true rfl) ?_
  simp only [L138]
  obtain ⟨b, hb⟩ : ∃ b, b = w.heap.size := ⟨_, rfl⟩
  have h1 : At w [] (Star (ObjA b (frO f)) Emp) (w.alloc (frO f)) := by rw [hb]; exact (At.start rfl).alloc _ .emp
  obtain ⟨w1, hw1⟩ : ∃ w1, w1 = w.alloc (frO f) := ⟨_, rfl⟩
  rw [← hw1] at h1
  have hw1' : w.alloc (.cells #[.int .i64 f.1, .int .i64 f.2] 151 (0, 0)) = w1 := by rw [hw1]; rfl
  have hL : Lcl (Star (ObjA b (frO f)) Emp) := Lcl.obj.star .emp
  obtain ⟨r, hr⟩ : ∃ r, r = w1.heap.size := ⟨_, rfl⟩
  have h2 : At w [] (Star (ObjA r (frO (0, 0))) (Star (ObjA b (frO f)) Emp)) (w1.alloc (frO (0, 0))) := by rw [hr]; exact h1.alloc _ hL
  obtain ⟨w2, hw2⟩ : ∃ w2, w2 = w1.alloc (frO (0, 0)) := ⟨_, rfl⟩
  rw [← hw2] at h2
  have hw2' : w1.alloc (.cells #[.int .i64 0, .int .i64 0] 151 (0, 0)) = w2 := by rw [hw2]; rfl
  simp [frV, ← hb, hw1', ← hr, hw2', rd_fr h2.drop.obj]
  refine cl_of (proper9_spec f) ?_
  rintro _ w3 ⟨rfl, k3⟩
  have h3 := h2.kp0 (Lcl.obj.star hL) k3
  rw [hf]
  simp [rd_fr h3.drop.obj]
  refine st_fr (f := (0, 0)) (g := f) hL h3 fun w4 h4 => ?_
  simp
  refine postL_c1 ag_151 (by simp) h4.obj rfl rfl ?_
  exact ⟨_, rfl, rfl, h4.kp⟩
/-- A quotient in its lowest terms. -/
def frNew (n d : Int) : Option Fr := let g : Int := (Nat.gcd n.natAbs d.natAbs : Nat)
  if 1099511627776 < (n.tdiv g).natAbs ∨ 1048576 < d.tdiv g then none else some (n.tdiv g, d.tdiv g)
def frR (o : Option Fr) : Value := match o with | some f => .tuple #[frV f, .nilIface] | none => .tuple #[frV (0, 0), errV 5]
theorem tdiv_le {n : Int} {g : Nat} (h : 1 ≤ g) : (n.tdiv (g : Int)).natAbs ≤ n.natAbs := by
  rw [Int.natAbs_tdiv]
  exact Nat.div_le_self _ _
theorem new9_spec {w : World} (n d : Int) (h1 : -9223372036854775807 ≤ n) (h2 : n ≤ 9223372036854775807) (h3 : 1 ≤ d) (h4 : d ≤ 9223372036854775807) :
    Calls Tryz.prog 106 [.int .i64 n, .int .i64 d].toArray w fun e w' => ∃ x, e = .returned x ∧ x = frR (frNew n d) ∧ Kp [] w w' := by
  refine enter Tryz.func106 mixed low106 (Nat.le_of_ble_eq_true rfl) ?_
  simp only [L106]
  obtain ⟨b, hb⟩ : ∃ b, b = w.heap.size := ⟨_, rfl⟩
  have a1 : At w [] (Star (ObjA b (frO (0, 0))) Emp) (w.alloc (frO (0, 0))) := by rw [hb]; exact (At.start rfl).alloc _ .emp
  obtain ⟨w1, hw1⟩ : ∃ w1, w1 = w.alloc (frO (0, 0)) := ⟨_, rfl⟩
  rw [← hw1] at a1
  have hw1' : w.alloc (.cells #[.int .i64 0, .int .i64 0] 151 (0, 0)) = w1 := by rw [hw1]; rfl
  have hL : Lcl (Star (ObjA b (frO (0, 0))) Emp) := Lcl.obj.star .emp
  have n1 : (d == 0) = false := by simp; omega
  have n2 : (n == -9223372036854775808) = false := by simp; omega
  have n3 : (d == -9223372036854775808) = false := by simp; omega
  have n4 : ¬ d < 0 := by omega
  obtain ⟨e, he⟩ : ∃ e : Nat, e = d.natAbs := ⟨_, rfl⟩
  have hde : d = (e : Int) := by omega
  obtain ⟨g, hg⟩ : ∃ g, g = Nat.gcd n.natAbs e := ⟨_, rfl⟩
  have hg1 : 1 ≤ g := by rw [hg]; exact Nat.gcd_pos_of_pos_right _ (by omega)
  have hfn : frNew n d = if 1099511627776 < (n.tdiv (g : Int)).natAbs ∨ 1048576 < d.tdiv (g : Int) then none else some (n.tdiv (g : Int), d.tdiv (g : Int)) := by
    unfold frNew
    rw [← he, ← hg]
  obtain ⟨p, hp⟩ : ∃ p, p = n.tdiv (g : Int) := ⟨_, rfl⟩
  obtain ⟨q, hq⟩ : ∃ q, q = d.tdiv (g : Int) := ⟨_, rfl⟩
  have hpb := tdiv_le (n := n) hg1
  have hqb := tdiv_le (n := d) hg1
  rw [← hp] at hpb
  rw [← hq] at hqb
  rw [← hp, ← hq] at hfn
  have hg0 : ¬ g = 0 := by omega
  simp [← hb, hw1', n1, n2, n3, n4]
  refine cl_of (abs_spec n h1 h2) ?_
  rintro _ w2 ⟨rfl, k2⟩
  have a2 := a1.kp0 hL k2
  simp
  rw [hde]
  refine cl_of (gcd_spec n.natAbs e (by omega) (by omega)) ?_
  rintro _ w3 ⟨rfl, k3⟩
  have a3 := a2.kp0 hL k3
  rw [← hg]
  obtain ⟨c, hc⟩ : ∃ c, c = w3.heap.size := ⟨_, rfl⟩
  rw [hde] at hq
  simp (disch := omega) [← hp, ← hq, hg0, wrap_i64, ← hc]
  have a4 : At w [] (Star (ObjA c (frO (0, 0))) (Star (ObjA b (frO (0, 0))) Emp)) (w3.drew.alloc (frO (0, 0))) := by rw [hc]; exact (a3.drew hL).alloc _ hL
  have hL4 : Lcl (Star (ObjA c (frO (p, q))) (Star (ObjA b (frO (0, 0))) Emp)) := Lcl.obj.star hL
  refine st_fr (f := (0, 0)) (g := (p, q)) hL (show At w [] _ (w3.drew.alloc _) from a4) fun w4 a5 => ?_
  have ob5 := a5.obj
  unfold frO at ob5
  rw [hc] at ob5
  simp [cell_blk ob5]
  refine cl_of (abs_spec p (by omega) (by omega)) ?_
  rintro _ w5 ⟨rfl, k5⟩
  have a6 := a5.kp0 hL4 k5
  have ob6 := a6.obj
  unfold frO at ob6
  rw [hc] at ob6
  have r6 := rd_fr a6.obj
  rw [hc] at r6
  have hLc : Lcl (Star (ObjA c (frO (p, q))) Emp) := Lcl.obj.star .emp
  by_cases t1 : 1099511627776 < p.natAbs
  · have t1' : (1099511627776 : Int) < (p.natAbs : Int) := by omega
    have hres : frNew n (e : Int) = none := by rw [← hde, hfn, if_pos (.inl t1)]
    simp [t1, t1', cell_blk ob6, hres]
    refine st_fr (f := (0, 0)) (g := (0, 0)) hLc (a6.by Imp.sw) fun w7 a7 => ?_
    simp
    refine postL_c2 ag_151 (by simp) a7.obj rfl rfl ?_
    exact ⟨_, rfl, rfl, a7.kp⟩
  · have t1' : ¬ (1099511627776 : Int) < (p.natAbs : Int) := by omega
    by_cases t2 : 1048576 < q
    · have hres : frNew n (e : Int) = none := by rw [← hde, hfn, if_pos (.inr t2)]
      simp [t1, t1', t2, cell_blk ob6, hres]
      refine st_fr (f := (0, 0)) (g := (0, 0)) hLc (a6.by Imp.sw) fun w7 a7 => ?_
      simp
      refine postL_c2 ag_151 (by simp) a7.obj rfl rfl ?_
      exact ⟨_, rfl, rfl, a7.kp⟩
    · have hres : frNew n (e : Int) = some (p, q) := by rw [← hde, hfn, if_neg (by omega)]
      simp [t1, t1', t2, cell_blk ob6, r6, hres]
      refine st_fr (f := (0, 0)) (g := (p, q)) hLc (a6.by Imp.sw) fun w7 a7 => ?_
      simp
      refine postL_c2 ag_151 (by simp) a7.obj rfl rfl ?_
      exact ⟨_, rfl, rfl, a7.kp⟩
def frAdd (a b : Fr) : Option Fr := frNew (a.1 * b.2 + b.1 * a.2) (a.2 * b.2)
theorem mul_bd {x y : Int} (h1 : -1099511627776 ≤ x) (h2 : x ≤ 1099511627776) (h3 : 1 ≤ y) (h4 : y ≤ 1048576) : -1152921504606846976 ≤ x * y ∧ x * y ≤ 1152921504606846976 := by
  rcases Int.le_total 0 x with hx | hx
  · have a1 : x * y ≤ 1099511627776 * 1048576 := Int.mul_le_mul h2 h4 (by omega) (by omega)
    have a2 : 0 ≤ x * y := Int.mul_nonneg hx (by omega)
    omega
  · have a1 : (-x) * y ≤ 1099511627776 * 1048576 := Int.mul_le_mul (by omega) h4 (by omega) (by omega)
    have a2 : 0 ≤ (-x) * y := Int.mul_nonneg (by omega) (by omega)
    rw [Int.neg_mul] at a1 a2
    omega
theorem den_bd {x y : Int} (h1 : 1 ≤ x) (h2 : x ≤ 1048576) (h3 : 1 ≤ y) (h4 : y ≤ 1048576) : 1 ≤ x * y ∧ x * y ≤ 1099511627776 := by
  have a1 : x * y ≤ 1048576 * 1048576 := Int.mul_le_mul h2 h4 (by omega) (by omega)
  have a2 : 1 * 1 ≤ x * y := Int.mul_le_mul h1 h3 (by omega) (by omega)
  omega
theorem add9_spec {w : World} (a b : Fr) (ha : frP a = true) (hb : frP b = true) :
    Calls Tryz.prog 136 [frV a, frV b].toArray w fun e w' => ∃ x, e = .returned x ∧ x = frR (frAdd a b) ∧ Kp [] w w' := by
  refine enter Tryz.func136 mixed low136 (Nat.le_of_ble_eq_true rfl) ?_
  simp only [L136]
  have ha' := frP_iff.1 ha
  have hb' := frP_iff.1 hb
  obtain ⟨ab, hab⟩ : ∃ ab, ab = w.heap.size := ⟨_, rfl⟩
  have a1 : At w [] (Star (ObjA ab (frO a)) Emp) (w.alloc (frO a)) := by rw [hab]; exact (At.start rfl).alloc _ .emp
  have hL1 : Lcl (Star (ObjA ab (frO a)) Emp) := Lcl.obj.star .emp
  have a2 := a1.alloc (frO b) hL1
  have hL2 : ∀ c, Lcl (Star (ObjA c (frO b)) (Star (ObjA ab (frO a)) Emp)) := fun c => Lcl.obj.star hL1
  have a3 := a2.alloc (frO (0, 0)) (hL2 _)
  have s1 : (w.alloc (frO a)).heap.size = ab + 1 := by rw [hab]; simp
  have s2 : ((w.alloc (frO a)).alloc (frO b)).heap.size = ab + 2 := by rw [hab]; simp
  rw [s1, s2] at a3
  obtain ⟨w3, hw3⟩ : ∃ w3, w3 = ((w.alloc (frO a)).alloc (frO b)).alloc (frO (0, 0)) := ⟨_, rfl⟩
  rw [← hw3] at a3
  have hw3' : ((w.alloc (.cells #[.int .i64 a.1, .int .i64 a.2] 151 (0, 0))).alloc (.cells #[.int .i64 b.1, .int .i64 b.2] 151 (0, 0))).alloc (.cells #[.int .i64 0, .int .i64 0] 151 (0, 0)) = w3 := by rw [hw3]; rfl
  have hL3 : Lcl (Star (ObjA (ab + 2) (frO (0, 0))) (Star (ObjA (ab + 1) (frO b)) (Star (ObjA ab (frO a)) Emp))) := Lcl.obj.star (hL2 _)
  have ra := rd_fr a3.drop.drop.obj
  have rb := rd_fr a3.drop.obj
  simp [frV, hw3', ← hab, ra]
  refine cl_of (proper9_spec a) ?_
  rintro _ w4 ⟨rfl, k4⟩
  have a4 := a3.kp0 hL3 k4
  have rb4 := rd_fr a4.drop.obj
  rw [ha]
  simp [rb4]
  refine cl_of (proper9_spec b) ?_
  rintro _ w5 ⟨rfl, k5⟩
  have a5 := a4.kp0 hL3 k5
  rw [hb]
  have oa5 := a5.drop.drop.obj
  unfold frO at oa5
  have ob5 := a5.drop.obj
  unfold frO at ob5
  have m1 := mul_bd ha'.2.2.1 ha'.2.2.2.1 hb'.1 hb'.2.1
  have m2 := mul_bd hb'.2.2.1 hb'.2.2.2.1 ha'.1 ha'.2.1
  have m3 := den_bd ha'.1 ha'.2.1 hb'.1 hb'.2.1
  obtain ⟨x, hx⟩ : ∃ x, x = a.1 * b.2 := ⟨_, rfl⟩
  obtain ⟨y, hy⟩ : ∃ y, y = b.1 * a.2 := ⟨_, rfl⟩
  obtain ⟨z, hz⟩ : ∃ z, z = a.2 * b.2 := ⟨_, rfl⟩
  have hadd : frAdd a b = frNew (x + y) z := by unfold frAdd; rw [hx, hy, hz]
  rw [← hx] at m1
  rw [← hy] at m2
  rw [← hz] at m3
  simp (disch := omega) [cell_blk oa5, cell_blk ob5, ← hx, ← hy, ← hz, wrap_i64]
  refine cl_of (new9_spec (x + y) z (by omega) (by omega) (by omega) (by omega)) ?_
  rintro _ w6 ⟨rfl, k6⟩
  have a6 := a5.kp0 hL3 k6
  rw [← hadd]
  cases hf : frAdd a b with
  | none =>
    simp [frR, frV]
    refine st_fr (f := (0, 0)) (g := (0, 0)) (hL2 _) a6 fun w7 a7 => ?_
    simp
    refine postL_c2 ag_151 (by simp) a7.obj rfl rfl ?_
    exact ⟨_, rfl, by simp [frR, frV], a7.kp⟩
  | some f =>
    simp [frR, frV]
    refine st_fr (f := (0, 0)) (g := f) (hL2 _) a6 fun w7 a7 => ?_
    simp
    refine postL_c2 ag_151 (by simp) a7.obj rfl rfl ?_
    exact ⟨_, rfl, by simp [frR, frV], a7.kp⟩
theorem frNew_ok {n d : Int} {f : Fr} (hd : 1 ≤ d) (h : frNew n d = some f) : frP f = true ∧ f.1 * d = n * f.2 := by
  obtain ⟨e, he⟩ : ∃ e : Nat, d = (e : Int) := ⟨d.natAbs, by omega⟩
  subst he
  unfold frNew at h
  obtain ⟨g, hg⟩ : ∃ g, g = Nat.gcd n.natAbs e := ⟨_, rfl⟩
  have e0 : (e : Int).natAbs = e := by omega
  simp only [e0, ← hg] at h
  have hg1 : 1 ≤ g := by rw [hg]; exact Nat.gcd_pos_of_pos_right _ (by omega)
  have d1 : g ∣ e := by rw [hg]; exact Nat.gcd_dvd_right _ _
  have d2 : g ∣ n.natAbs := by rw [hg]; exact Nat.gcd_dvd_left _ _
  split at h
  · cases h
  · rename_i hn
    simp only [Option.some.injEq] at h
    subst h
    obtain ⟨q, rfl⟩ := d1
    obtain ⟨m, hm⟩ : ∃ m : Int, n = (g : Int) * m := by
      obtain ⟨k, hk⟩ := d2
      rcases Int.le_total 0 n with h | h
      · exact ⟨k, by rw [← Int.natCast_mul, ← hk]; omega⟩
      · exact ⟨-k, by rw [Int.mul_neg, ← Int.natCast_mul, ← hk]; omega⟩
    subst hm
    have gz : (g : Int) ≠ 0 := by omega
    have e1 : ((g : Int) * m).tdiv (g : Int) = m := Int.mul_tdiv_cancel_left _ gz
    have e2 : ((g * q : Nat) : Int).tdiv (g : Int) = (q : Int) := by rw [Int.natCast_mul]; exact Int.mul_tdiv_cancel_left _ gz
    have hq1 : 1 ≤ q := by
      rcases Nat.eq_zero_or_pos q with h | h
      · subst h; simp at hd
      · exact h
    rw [e1, e2] at hn
    refine ⟨frP_iff.2 ?_, ?_⟩
    · simp only [e1, e2]
      refine ⟨by omega, by omega, by omega, by omega, ?_⟩
      have h1 : Nat.gcd (g * m.natAbs) (g * q) = g := by
        have : ((g : Int) * m).natAbs = g * m.natAbs := by rw [Int.natAbs_mul]; rfl
        rw [← this]; exact hg.symm
      rw [Nat.gcd_mul_left] at h1
      have h2 : ((q : Nat) : Int).natAbs = q := by omega
      rw [h2]
      have h3 : g * Nat.gcd m.natAbs q = g * 1 := by omega
      exact Nat.eq_of_mul_eq_mul_left (by omega) h3
    · simp only [e1, e2]
      rw [Int.natCast_mul, Int.mul_comm (g : Int) m, Int.mul_assoc]
theorem frAdd_ok {a b f : Fr} (ha : frP a = true) (hb : frP b = true) (h : frAdd a b = some f) : frP f = true := by
  have ha' := frP_iff.1 ha
  have hb' := frP_iff.1 hb
  exact (frNew_ok (den_bd ha'.1 ha'.2.1 hb'.1 hb'.2.1).1 h).1
def frSum : List Fr → Fr → Option Fr
  | [], s => some s
  | f :: l, s => match frAdd s f with
    | none => none
    | some s' => frSum l s'
end Go.Proofs.YtolkjbmcindhjaaGreat
end
