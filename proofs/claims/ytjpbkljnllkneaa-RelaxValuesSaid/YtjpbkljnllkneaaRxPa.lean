/-
  Parts of the proofs of this seat's statements (RxPlain, RxHeap, RxDij, RxRel, RxFx, RxLev, RxLw, RxAw); no conditions beyond those each theorem names.
-/
import Derived.Test.YtjpbkljnllkneaaTkPa
section
set_option linter.unusedVariables false
set_option linter.unusedSimpArgs false
namespace Go.Rx
def Inf : Nat := 1125899906842624
/-- A unary operator. -/
structure Un where
  op : Nat
  eff : Nat
  cost : Nat
  makes : Nat
  needs : List Nat
def gr (V : Nat → Nat) : List Nat → Nat
  | [] => 0
  | x :: l => max (V x) (gr V l)
section
variable {V V' : Nat → Nat} {l l' : List Nat} {k m : Nat}
theorem gr_le_iff : gr V l ≤ k ↔ ∀ x ∈ l, V x ≤ k := by
  induction l with
  | nil => simp [gr]
  | cons x l ih => simp only [gr, Nat.max_le, ih, List.mem_cons, forall_eq_or_imp]
theorem gr_lt_iff (h : 0 < k) : gr V l < k ↔ ∀ x ∈ l, V x < k := by
  induction l with
  | nil => simp [gr, h]
  | cons x l ih => simp only [gr, Nat.max_lt, ih, List.mem_cons, forall_eq_or_imp]
theorem gr_mem {x : Nat} (h : x ∈ l) : V x ≤ gr V l := (gr_le_iff (k := gr V l)).1 (Nat.le_refl _) x h
theorem gr_mono (h : ∀ x ∈ l, V x ≤ V' x) : gr V l ≤ gr V' l := gr_le_iff.2 fun x hx => Nat.le_trans (h x hx) (gr_mem hx)
theorem gr_congr (h : ∀ x ∈ l, V x = V' x) : gr V l = gr V' l := Nat.le_antisymm (gr_mono fun x hx => Nat.le_of_eq (h x hx)) (gr_mono fun x hx => Nat.le_of_eq (h x hx).symm)
theorem gr_sub (h : ∀ x ∈ l, x ∈ l') : gr V l ≤ gr V l' := gr_le_iff.2 fun x hx => gr_mem (h x hx)
theorem gr_set (h : ∀ x, x ∈ l ↔ x ∈ l') : gr V l = gr V l' := Nat.le_antisymm (gr_sub fun x => (h x).1) (gr_sub fun x => (h x).2)
theorem gr_app : gr V (l ++ l') = max (gr V l) (gr V l') := by
  induction l with
  | nil => simp [gr]
  | cons x l ih => simp only [List.cons_append, gr, ih]; omega
theorem gr_attain (h : 0 < gr V l) : ∃ x ∈ l, V x = gr V l := by
  induction l with
  | nil => simp [gr] at h
  | cons x l ih =>
    by_cases hx : V x = gr V (x :: l)
    · exact ⟨x, by simp, hx⟩
    · have e : gr V (x :: l) = gr V l := by simp only [gr] at hx ⊢; omega
      rw [e] at h ⊢
      obtain ⟨y, hy, e2⟩ := ih h
      exact ⟨y, by simp [hy], e2⟩
theorem gr_fold : l.foldl (fun m x => max m (V x)) m = max m (gr V l) := by
  induction l generalizing m with
  | nil => simp [gr]
  | cons x l ih => rw [List.foldl_cons, ih]; simp only [gr]; omega
end
/-- A value that can be derived. -/
inductive Der (U : List Un) (S : List Nat) : Nat → Nat → Prop
  | base {f : Nat} (h : f ∈ S) : Der U S f 0
  | step {u : Un} (hu : u ∈ U) (k : Nat → Nat) (h : ∀ n ∈ u.needs, Der U S n (k n)) : Der U S u.makes (gr k u.needs + u.cost)
/-- The values of all facts. -/
structure IsVal (U : List Un) (S : List Nat) (V : Nat → Nat) : Prop where
  s0 : ∀ f ∈ S, V f = 0
  cl : ∀ u ∈ U, gr V u.needs < Inf → V u.makes ≤ gr V u.needs + u.cost
  der : ∀ f, V f < Inf → Der U S f (V f)
  le : ∀ f, V f ≤ Inf
section
variable {U U' : List Un} {S S' : List Nat} {V V' : Nat → Nat} {f k : Nat}
/-- What is derived with greater costs, fewer facts or fewer operators is at least the value. -/
theorem IsVal.below (h : IsVal U S V) (hS : ∀ f ∈ S', f ∈ S) (hU : ∀ u ∈ U', ∃ v ∈ U, v.makes = u.makes ∧ v.cost ≤ u.cost ∧ ∀ n ∈ v.needs, n ∈ u.needs) (d : Der U' S' f k) : V f ≤ k := by
  induction d with
  | base hf => rw [h.s0 _ (hS _ hf)]; exact Nat.le_refl _
  | step hu k hk ih =>
    rename_i u
    obtain ⟨v, hv, e1, e2, e3⟩ := hU u hu
    have h1 : gr V v.needs ≤ gr k u.needs := Nat.le_trans (gr_mono (V' := k) fun n hn => ih n (e3 n hn)) (gr_sub e3)
    rw [← e1]
    rcases Nat.lt_or_ge (gr V v.needs) Inf with h2 | h2
    · have := h.cl v hv h2
      omega
    · have := h.le v.makes
      omega
theorem IsVal.least (h : IsVal U S V) (d : Der U S f k) : V f ≤ k :=
  h.below (fun _ h => h) (fun u hu => ⟨u, hu, rfl, Nat.le_refl _, fun _ h => h⟩) d
theorem IsVal.uniq (h : IsVal U S V) (h' : IsVal U S V') : V = V' := by
  have key : ∀ {A B : Nat → Nat}, IsVal U S A → IsVal U S B → ∀ f, A f ≤ B f := fun {A B} ha hb f => by
    rcases Nat.lt_or_ge (B f) Inf with h1 | h1
    · exact ha.least (hb.der f h1)
    · have := ha.le f; omega
  funext f
  exact Nat.le_antisymm (key h h' f) (key h' h f)
/-- Greater costs, fewer operators: no value is lower. -/
theorem IsVal.mono (h : IsVal U S V) (h' : IsVal U' S V') (hU : ∀ u ∈ U', ∃ v ∈ U, v.makes = u.makes ∧ v.cost ≤ u.cost ∧ ∀ n ∈ v.needs, n ∈ u.needs) (f : Nat) : V f ≤ V' f := by
  rcases Nat.lt_or_ge (V' f) Inf with h1 | h1
  · exact h.below (fun _ h => h) hU (h'.der f h1)
  · have := h.le f; omega
theorem Der.mono (hU : ∀ u ∈ U, ∃ v ∈ U', v.makes = u.makes ∧ v.cost = u.cost ∧ ∀ n, n ∈ v.needs ↔ n ∈ u.needs) (d : Der U S f k) : Der U' S f k := by
  induction d with
  | base h => exact .base h
  | step hu k hk ih =>
    rename_i u
    obtain ⟨v, hv, e1, e2, e3⟩ := hU u hu
    rw [← e1, ← e2, ← gr_set e3]
    exact .step hv k fun n hn => ih n ((e3 n).1 hn)
/-- The same up to the order and the repetition of needs and of operators. -/
theorem IsVal.same (h : IsVal U S V) (h1 : ∀ u ∈ U, ∃ v ∈ U', v.makes = u.makes ∧ v.cost = u.cost ∧ ∀ n, n ∈ v.needs ↔ n ∈ u.needs) (h2 : ∀ u ∈ U', ∃ v ∈ U, v.makes = u.makes ∧ v.cost = u.cost ∧ ∀ n, n ∈ v.needs ↔ n ∈ u.needs) : IsVal U' S V := by
  refine ⟨h.s0, fun u hu => ?_, fun f hf => (h.der f hf).mono h1, h.le⟩
  obtain ⟨v, hv, e1, e2, e3⟩ := h2 u hu
  rw [← e1, ← e2, ← gr_set e3]
  exact h.cl v hv
/-! ### Finite values are small -/
theorem least_ex {p : Nat → Prop} : ∀ (n : Nat), p n → ∃ k, p k ∧ ∀ j, p j → k ≤ j := by
  intro n
  induction n using Nat.strongRecOn with
  | ind n ih =>
    intro h
    rcases Classical.em (∃ j, j < n ∧ p j) with ⟨j, hj, hp⟩ | hno
    · exact ih j hj hp
    · exact ⟨n, h, fun j hj => Nat.le_of_not_lt fun hlt => hno ⟨j, hlt, hj⟩⟩
/-- The least value that can be derived. -/
def Lst (U : List Un) (S : List Nat) (f w : Nat) : Prop := Der U S f w ∧ ∀ j, Der U S f j → w ≤ j
theorem Lst.ex (d : Der U S f k) : ∃ w, Lst U S f w := least_ex k d
theorem lst_window {C : Nat} (hC : ∀ u ∈ U, u.cost ≤ C) (d : Der U S f k) : ∀ w, Lst U S f w → ∀ t, t < w → ∃ g x, Lst U S g x ∧ t < x ∧ x ≤ t + C := by
  induction d with
  | base h =>
    intro w hw t ht
    have := hw.2 0 (.base h)
    omega
  | step hu kk hk ih =>
    rename_i u
    intro w hw t ht
    by_cases hle : w ≤ t + C
    · exact ⟨_, w, hw, ht, hle⟩
    have hex : ∀ n, ∃ x, n ∈ u.needs → Lst U S n x := fun n => by
      by_cases hn : n ∈ u.needs
      · obtain ⟨x, hx⟩ := Lst.ex (hk n hn)
        exact ⟨x, fun _ => hx⟩
      · exact ⟨0, fun h => absurd h hn⟩
    have hw2 := hw.2 _ (.step hu (fun n => Classical.choose (hex n)) fun n hn => (Classical.choose_spec (hex n) hn).1)
    have hc := hC u hu
    obtain ⟨n, hn, e⟩ := gr_attain (V := fun n => Classical.choose (hex n)) (l := u.needs) (by omega)
    exact ih n hn _ (Classical.choose_spec (hex n) hn) t (by omega)
theorem nodup_sub {α : Type} [DecidableEq α] : ∀ (xs ys : List α), xs.Nodup → (∀ x ∈ xs, x ∈ ys) → xs.length ≤ ys.length
  | [], ys, _, _ => by simp
  | x :: xs, ys, hn, hs => by
    rw [List.nodup_cons] at hn
    have hx : x ∈ ys := hs x (by simp)
    have := nodup_sub xs (ys.erase x) hn.2 (fun y hy => by
      have hne : y ≠ x := fun e => hn.1 (e ▸ hy)
      exact (List.mem_erase_of_ne hne).2 (hs y (by simp [hy])))
    rw [List.length_erase_of_mem hx] at this
    have : 0 < ys.length := List.length_pos_of_mem hx
    simp; omega
theorem nodup_le (l : List Nat) (N : Nat) (hn : l.Nodup) (hl : ∀ x ∈ l, x < N) : l.length ≤ N := by
  have := nodup_sub l (List.range N) hn fun x hx => List.mem_range.2 (hl x hx)
  simpa using this
theorem lst_bound {C N : Nat} (hC : ∀ u ∈ U, u.cost ≤ C) (hN : ∀ f k, Der U S f k → f < N) {w : Nat} (hw : Lst U S f w) : w ≤ N * C := by
  apply Nat.le_of_not_lt
  intro hlt
  have hwin : ∀ j, ∃ q : Nat × Nat, j ≤ N → Lst U S q.1 q.2 ∧ j * C < q.2 ∧ q.2 ≤ j * C + C := fun j => by
    by_cases hj : j ≤ N
    · obtain ⟨g, x, h⟩ := lst_window hC hw.1 w hw (j * C) (Nat.lt_of_le_of_lt (Nat.mul_le_mul_right _ hj) hlt)
      exact ⟨(g, x), fun _ => h⟩
    · exact ⟨(0, 0), fun h => absurd h hj⟩
  have hl := nodup_le ((List.range (N + 1)).map fun j => (Classical.choose (hwin j)).1) N ?_ ?_
  · simp at hl
    omega
  · rw [List.nodup_iff_pairwise_ne, List.pairwise_map]
    refine List.Pairwise.imp_of_mem ?_ List.pairwise_lt_range
    intro a b ha hb hab e
    have ha := Classical.choose_spec (hwin a) (by have := List.mem_range.1 ha; omega)
    have hb := Classical.choose_spec (hwin b) (by have := List.mem_range.1 hb; omega)
    rw [e] at ha
    have h1 := ha.1.2 _ hb.1.1
    have h2 := hb.1.2 _ ha.1.1
    have h3 : (a + 1) * C ≤ b * C := Nat.mul_le_mul_right _ hab
    rw [Nat.add_mul, Nat.one_mul] at h3
    omega
  · intro x hx
    obtain ⟨j, hj, rfl⟩ := List.mem_map.1 hx
    exact hN _ _ (Classical.choose_spec (hwin j) (by have := List.mem_range.1 hj; omega)).1.1
theorem IsVal.bound {C N : Nat} (h : IsVal U S V) (hC : ∀ u ∈ U, u.cost ≤ C) (hN : ∀ f k, Der U S f k → f < N) (hf : V f < Inf) : V f ≤ N * C := by
  have d := h.der f hf
  exact lst_bound hC hN ⟨d, fun j hj => h.least hj⟩
theorem IsVal.fin {C N : Nat} (h : IsVal U S V) (hC : ∀ u ∈ U, u.cost ≤ C) (hN : ∀ f k, Der U S f k → f < N) (hs : N * C < Inf) : V f < Inf ↔ ∃ k, Der U S f k := by
  constructor
  · exact fun hf => ⟨_, h.der f hf⟩
  · rintro ⟨k, hk⟩
    obtain ⟨w, hw⟩ := Lst.ex hk
    have := lst_bound hC hN hw
    have := h.least hw.1
    omega
/-- All costs times 3. -/
def mulU (c : Nat) (U : List Un) : List Un := U.map fun u => { u with cost := c * u.cost }
theorem gr_times {c : Nat} {V : Nat → Nat} {l : List Nat} : gr (fun f => c * V f) l = c * gr V l := by
  induction l with
  | nil => simp [gr]
  | cons x l ih => simp only [gr, ih]; exact Nat.mul_max_mul_left ..
theorem Der.times {c : Nat} (d : Der U S f k) : Der (mulU c U) S f (c * k) := by
  induction d with
  | base h => simpa using Der.base h
  | step hu kk hk ih =>
    rename_i u
    have := Der.step (U := mulU c U) (S := S) (u := { u with cost := c * u.cost }) (List.mem_map.2 ⟨u, hu, rfl⟩) (fun n => c * kk n) ih
    rw [gr_times, ← Nat.mul_add] at this
    exact this
theorem Der.untimes {c : Nat} (d : Der (mulU c U) S f k) : ∃ j, k = c * j ∧ Der U S f j := by
  induction d with
  | base h => exact ⟨0, by simp, .base h⟩
  | step hu kk hk ih =>
    obtain ⟨u, hu2, rfl⟩ := List.mem_map.1 hu
    have hex : ∀ n, ∃ j, n ∈ u.needs → kk n = c * j ∧ Der U S n j := fun n => by
      by_cases hn : n ∈ u.needs
      · obtain ⟨j, h1, h2⟩ := ih n hn
        exact ⟨j, fun _ => ⟨h1, h2⟩⟩
      · exact ⟨0, fun h => absurd h hn⟩
    refine ⟨gr (fun n => Classical.choose (hex n)) u.needs + u.cost, ?_, .step hu2 _ fun n hn => (Classical.choose_spec (hex n) hn).2⟩
    show gr kk u.needs + c * u.cost = _
    rw [Nat.mul_add, ← gr_times, gr_congr fun n hn => (Classical.choose_spec (hex n) hn).1]
theorem IsVal.scaled {c C N : Nat} {V' : Nat → Nat} (h : IsVal U S V) (h' : IsVal (mulU c U) S V') (hc : 0 < c) (hC : ∀ u ∈ U, u.cost ≤ C) (hN : ∀ f k, Der U S f k → f < N) (hs : N * (c * C) < Inf) (f : Nat) : (V f < Inf → V' f = c * V f) ∧ (Inf ≤ V f → Inf ≤ V' f) := by
  have hcC : N * C ≤ N * (c * C) := Nat.mul_le_mul_left _ (Nat.le_mul_of_pos_left _ hc)
  have hN' : ∀ f k, Der (mulU c U) S f k → f < N := fun f k d => by
    obtain ⟨j, _, d'⟩ := d.untimes
    exact hN f j d'
  have hC' : ∀ u ∈ mulU c U, u.cost ≤ c * C := fun u hu => by
    obtain ⟨v, hv, rfl⟩ := List.mem_map.1 hu
    exact Nat.mul_le_mul_left _ (hC v hv)
  have f1 := h.fin (f := f) hC hN (by omega)
  have f2 := h'.fin (f := f) hC' hN' hs
  constructor
  · intro hf
    have d := h.der f hf
    have hf' : V' f < Inf := f2.2 ⟨_, d.times⟩
    have h1 := h'.least d.times
    obtain ⟨j, e, dj⟩ := (h'.der f hf').untimes
    have h2 := h.least dj
    have : c * V f ≤ c * j := Nat.mul_le_mul_left _ h2
    omega
  · intro hf
    apply Nat.le_of_not_lt
    intro hlt
    obtain ⟨k, d⟩ := f2.1 hlt
    obtain ⟨j, _, dj⟩ := d.untimes
    have := f1.2 ⟨_, dj⟩
    omega
/-! ### Layers -/
def Rk (U : List Un) (S : List Nat) : Nat → Nat → Prop
  | 0, f => f ∈ S
  | k + 1, f => Rk U S k f ∨ ∃ u ∈ U, u.makes = f ∧ ∀ n ∈ u.needs, Rk U S k n
theorem Rk.up {j : Nat} (h : Rk U S k f) : Rk U S (k + j) f := by
  induction j with
  | zero => exact h
  | succ j ih => exact .inl ih
theorem Rk.le {j : Nat} (h : Rk U S k f) (hj : k ≤ j) : Rk U S j f := by
  obtain ⟨i, rfl⟩ : ∃ i, j = k + i := ⟨j - k, by omega⟩
  exact h.up
theorem Rk.der {C : Nat} (hC : ∀ u ∈ U, u.cost ≤ C) : ∀ {k f : Nat}, Rk U S k f → ∃ j, j ≤ k * C ∧ Der U S f j
  | 0, f, h => ⟨0, by simp, .base h⟩
  | k + 1, f, h => by
    rw [Nat.add_mul, Nat.one_mul]
    rcases h with h | ⟨u, hu, rfl, hn⟩
    · obtain ⟨j, h1, h2⟩ := Rk.der hC h
      exact ⟨j, by omega, h2⟩
    · have hex : ∀ n, ∃ j, n ∈ u.needs → j ≤ k * C ∧ Der U S n j := fun n => by
        by_cases h : n ∈ u.needs
        · obtain ⟨j, h1, h2⟩ := Rk.der hC (hn n h)
          exact ⟨j, fun _ => ⟨h1, h2⟩⟩
        · exact ⟨0, fun h2 => absurd h2 h⟩
      refine ⟨_, ?_, .step hu (fun n => Classical.choose (hex n)) fun n hn => (Classical.choose_spec (hex n) hn).2⟩
      have h1 : gr (fun n => Classical.choose (hex n)) u.needs ≤ k * C := gr_le_iff.2 fun n hn => (Classical.choose_spec (hex n) hn).1
      have := hC u hu
      omega
theorem Der.rk_ex (d : Der U S f k) : ∃ j, Rk U S j f := by
  induction d with
  | base h => exact ⟨0, h⟩
  | step hu kk hk ih =>
    rename_i u
    have hex : ∀ n, ∃ j, n ∈ u.needs → Rk U S j n := fun n => by
      by_cases h : n ∈ u.needs
      · obtain ⟨j, hj⟩ := ih n h
        exact ⟨j, fun _ => hj⟩
      · exact ⟨0, fun h2 => absurd h2 h⟩
    refine ⟨gr (fun n => Classical.choose (hex n)) u.needs + 1, .inr ⟨u, hu, rfl, fun n hn => ?_⟩⟩
    exact (Classical.choose_spec (hex n) hn).le (gr_mem (V := fun n => Classical.choose (hex n)) hn)
theorem Der.rk1 (h1 : ∀ u ∈ U, u.cost = 1) (d : Der U S f k) : Rk U S k f := by
  induction d with
  | base h => exact h
  | step hu kk hk ih =>
    rw [h1 _ hu]
    exact .inr ⟨_, hu, rfl, fun n hn => (ih n hn).le (gr_mem hn)⟩
/-- The layers of all facts. -/
def IsLev (U : List Un) (S : List Nat) (L : Nat → Int) : Prop := ∀ f, (L f = -1 ∧ ∀ k, ¬ Rk U S k f) ∨ ∃ k : Nat, L f = k ∧ Rk U S k f ∧ ∀ j, j < k → ¬ Rk U S j f
theorem IsLev.uniq {L L' : Nat → Int} (h : IsLev U S L) (h' : IsLev U S L') : L = L' := by
  funext f
  rcases h f with ⟨e, hn⟩ | ⟨k, e, hk, hm⟩
  · rcases h' f with ⟨e', _⟩ | ⟨k', _, hk', _⟩
    · rw [e, e']
    · exact absurd hk' (hn k')
  · rcases h' f with ⟨_, hn⟩ | ⟨k', e', hk', hm'⟩
    · exact absurd hk (hn k)
    · have : ¬ k' < k := fun h => hm k' h hk'
      have : ¬ k < k' := fun h => hm' k h hk
      have : k = k' := by omega
      rw [e, e', this]
theorem rk_same (h1 : ∀ u ∈ U, ∃ v ∈ U', v.makes = u.makes ∧ ∀ n, n ∈ v.needs ↔ n ∈ u.needs) : ∀ (k f : Nat), Rk U S k f → Rk U' S k f
  | 0, f, h => h
  | k + 1, f, h => by
    rcases h with h | ⟨u, hu, rfl, hn⟩
    · exact .inl (rk_same h1 k f h)
    · obtain ⟨v, hv, e1, e3⟩ := h1 u hu
      exact .inr ⟨v, hv, e1, fun n hn2 => rk_same h1 k n (hn n ((e3 n).1 hn2))⟩
theorem IsLev.same {L : Nat → Int} (h : IsLev U S L) (h1 : ∀ u ∈ U, ∃ v ∈ U', v.makes = u.makes ∧ ∀ n, n ∈ v.needs ↔ n ∈ u.needs) (h2 : ∀ u ∈ U', ∃ v ∈ U, v.makes = u.makes ∧ ∀ n, n ∈ v.needs ↔ n ∈ u.needs) : IsLev U' S L := by
  intro f
  rcases h f with ⟨e, hn⟩ | ⟨k, e, hk, hm⟩
  · exact .inl ⟨e, fun k hk => hn k (rk_same h2 k f hk)⟩
  · exact .inr ⟨k, e, rk_same h1 k f hk, fun j hj hjk => hm j hj (rk_same h2 j f hjk)⟩
/-- A fact has a layer exactly if its value is finite. -/
theorem IsLev.fin {C N : Nat} {L : Nat → Int} (hL : IsLev U S L) (h : IsVal U S V) (hC : ∀ u ∈ U, u.cost ≤ C) (hN : ∀ f k, Der U S f k → f < N) (hs : N * C < Inf) : L f < 0 ↔ Inf ≤ V f := by
  have hf := h.fin (f := f) hC hN hs
  rcases hL f with ⟨e, hn⟩ | ⟨k, e, hk, hm⟩
  · refine ⟨fun _ => Nat.le_of_not_lt fun hlt => ?_, fun _ => by omega⟩
    obtain ⟨j, d⟩ := hf.1 hlt
    obtain ⟨i, hi⟩ := d.rk_ex
    exact hn i hi
  · obtain ⟨j, _, d⟩ := hk.der hC
    have := hf.2 ⟨_, d⟩
    exact ⟨fun _ => by omega, fun _ => by omega⟩
/-- With all costs 1 the layer is the value. -/
theorem IsLev.ones {N : Nat} {L : Nat → Int} (hL : IsLev U S L) (h : IsVal U S V) (h1 : ∀ u ∈ U, u.cost = 1) (hN : ∀ f k, Der U S f k → f < N) (hs : N < Inf) (hp : 0 ≤ L f) : L f = (V f : Int) := by
  have hC : ∀ u ∈ U, u.cost ≤ 1 := fun u hu => Nat.le_of_eq (h1 u hu)
  have hf := h.fin (f := f) hC hN (by omega)
  rcases hL f with ⟨e, hn⟩ | ⟨k, e, hk, hm⟩
  · omega
  · obtain ⟨j, hj, d⟩ := hk.der hC
    have h2 := hf.2 ⟨_, d⟩
    have h3 := h.least d
    have h4 := (h.der f h2).rk1 h1
    have : ¬ V f < k := fun h => hm _ h h4
    omega
/-! ### Steps -/
/-- Along a step from S to S' of cost c no value falls by more than c. -/
theorem IsVal.step {c : Nat} {V' : Nat → Nat} (h : IsVal U S V) (h' : IsVal U S' V') (hs : ∀ f ∈ S', V f ≤ c) (f : Nat) : V f ≤ V' f + c := by
  have key : ∀ f k, Der U S' f k → V f ≤ k + c := by
    intro f k d
    induction d with
    | base hf => have := hs _ hf; omega
    | step hu kk hk ih =>
      rename_i u
      have h1 : gr V u.needs ≤ gr kk u.needs + c := gr_le_iff.2 fun n hn => by
        have := ih n hn
        have := gr_mem (V := kk) hn
        omega
      rcases Nat.lt_or_ge (gr V u.needs) Inf with h2 | h2
      · have := h.cl u hu h2
        omega
      · have := h.le u.makes
        omega
  rcases Nat.lt_or_ge (V' f) Inf with h1 | h1
  · exact key f _ (h'.der f h1)
  · have := h.le f; omega
end
end Go.Rx
end
section
set_option linter.unusedVariables false
set_option linter.unusedSimpArgs false
namespace Go.Rx
/-- An entry: a value and a fact. -/
abbrev En := Nat × Nat
def bef (a b : En) : Bool := decide (a.1 < b.1)
theorem bef_iff (a b : En) : bef a b = true ↔ a.1 < b.1 := by simp [bef]
theorem bef_irr (a : En) : bef a a = false := by simp [bef]
theorem bef_trans {a b c : En} (h : bef a b = true) (k : bef b c = true) : bef a c = true := by
  rw [bef_iff] at *; omega
theorem nbef_trans {a b c : En} (h : bef b a = false) (k : bef c b = false) : bef c a = false := by
  simp only [bef, decide_eq_false_iff_not] at *; omega
theorem bef_asym {a b : En} (h : bef a b = true) : bef b a = false := by
  simp only [bef, decide_eq_false_iff_not, decide_eq_true_eq] at *; omega
def gt (l : List En) (i : Nat) : En := l.getD i default
theorem gt_at {l : List En} {i : Nat} (h : i < l.length) : l[i]? = some (gt l i) := by simp [gt, h]
def swp (l : List En) (i p : Nat) : List En := (l.set i (gt l p)).set p (gt l i)
@[simp] theorem swp_len (l : List En) (i p : Nat) : (swp l i p).length = l.length := by simp [swp]
def upL (l : List En) (i : Nat) : List En :=
  if h : i = 0 then l else if bef (gt l i) (gt l ((i - 1) / 2)) then upL (swp l i ((i - 1) / 2)) ((i - 1) / 2) else l
termination_by i
decreasing_by omega
def kid (l : List En) (i : Nat) : Nat := if 2 * i + 2 < l.length ∧ bef (gt l (2 * i + 2)) (gt l (2 * i + 1)) = true then 2 * i + 2 else 2 * i + 1
def downL (l : List En) (i : Nat) : List En :=
  if h : l.length ≤ 2 * i + 1 then l else if bef (gt l (kid l i)) (gt l i) then downL (swp l i (kid l i)) (kid l i) else l
termination_by l.length - i
decreasing_by
  have : kid l i < l.length ∧ i < kid l i := by unfold kid; split <;> omega
  simp; omega
theorem gt_lt {l : List En} {i : Nat} (h : i < l.length) : gt l i = l[i] := by simp [gt, h]
theorem gt_set {l : List En} {i j : Nat} {x : En} (hj : j < l.length) : gt (l.set i x) j = if i = j then x else gt l j := by
  rw [gt_lt (by simpa using hj), gt_lt hj, List.getElem_set]
theorem gt_swp {l : List En} {i p j : Nat} (hi : i < l.length) (hp : p < l.length) (hj : j < l.length) : gt (swp l i p) j = if j = p then gt l i else if j = i then gt l p else gt l j := by
  unfold swp
  rw [gt_set (by simpa using hj), gt_set hj]
  by_cases h1 : p = j
  · subst h1; simp
  · by_cases h2 : i = j
    · subst h2; simp [h1, Ne.symm h1]
    · simp [h1, h2, Ne.symm h1, Ne.symm h2]
theorem swp_perm {l : List En} {i p : Nat} (hi : i < l.length) (hp : p < l.length) : (swp l i p).Perm l := by
  have h : swp l i p = (l.toArray.swap i p (by simpa using hi) (by simpa using hp)).toList := by
    simp [swp, Array.swap_def, gt_lt hi, gt_lt hp]
  rw [h]
  exact (Array.swap_perm (by simpa using hi) (by simpa using hp)).toList

/-- No child comes before its parent, for the parents from s on. -/
def HeapFrom (s : Nat) (l : List En) : Prop := ∀ j, 0 < j → j < l.length → s ≤ (j - 1) / 2 → bef (gt l j) (gt l ((j - 1) / 2)) = false

theorem upL_ok : ∀ (i : Nat) (l : List En), i < l.length →
    (∀ j, 0 < j → j < l.length → j ≠ i → bef (gt l j) (gt l ((j - 1) / 2)) = false) →
    (∀ j, 0 < j → j < l.length → (j - 1) / 2 = i → 0 < i → bef (gt l j) (gt l ((i - 1) / 2)) = false) →
    HeapFrom 0 (upL l i) ∧ (upL l i).Perm l := by
  intro i
  induction i using Nat.strongRecOn with
  | _ i ih =>
    intro l hi h1 h2
    rw [upL]
    by_cases h0 : i = 0
    · rw [dif_pos h0]
      refine ⟨fun j hj hjl _ => h1 j hj hjl (by omega), List.Perm.refl _⟩
    · rw [dif_neg h0]
      cases hb : bef (gt l i) (gt l ((i - 1) / 2)) with
      | false =>
        simp only [Bool.false_eq_true, if_false]
        refine ⟨fun j hj hjl _ => ?_, List.Perm.refl _⟩
        by_cases hji : j = i
        · subst hji; exact hb
        · exact h1 j hj hjl hji
      | true =>
        simp only [if_true]
        obtain ⟨p, hp⟩ : ∃ p, p = (i - 1) / 2 := ⟨_, rfl⟩
        rw [← hp] at hb h2 ⊢
        have hpl : p < l.length := by omega
        have hpi : p < i := by omega
        obtain ⟨r1, r2⟩ := ih p hpi (swp l i p) (by simpa using hpl)
          (fun j hj hjl hjp => by
            have hjl' : j < l.length := by simpa using hjl
            have hq : (j - 1) / 2 < l.length := by omega
            rw [gt_swp hi hpl hjl', gt_swp hi hpl hq, if_neg hjp]
            by_cases hji : j = i
            · subst hji
              rw [if_pos rfl, ← hp, if_pos rfl]
              exact bef_asym hb
            · rw [if_neg hji]
              by_cases hqp : (j - 1) / 2 = p
              · rw [if_pos hqp]
                have := h1 j hj hjl' hji
                rw [hqp] at this
                exact nbef_trans (bef_asym hb) this
              · rw [if_neg hqp]
                by_cases hqi : (j - 1) / 2 = i
                · rw [if_pos hqi]
                  exact h2 j hj hjl' hqi (by omega)
                · rw [if_neg hqi]
                  exact h1 j hj hjl' hji)
          (fun j hj hjl hjp hp0 => by
            have hjl' : j < l.length := by simpa using hjl
            have hq : (p - 1) / 2 < l.length := by omega
            rw [gt_swp hi hpl hjl', gt_swp hi hpl hq, if_neg (by omega), if_neg (show ¬ (p - 1) / 2 = p by omega), if_neg (show ¬ (p - 1) / 2 = i by omega)]
            have hpp := h1 p hp0 hpl (by omega)
            by_cases hji : j = i
            · rw [if_pos hji]; exact hpp
            · rw [if_neg hji]
              have := h1 j hj hjl' hji
              rw [hjp] at this
              exact nbef_trans hpp this)
        exact ⟨r1, r2.trans (swp_perm hi hpl)⟩

theorem kid_le {l : List En} {i : Nat} (h : 2 * i + 1 < l.length) : kid l i < l.length ∧ (kid l i - 1) / 2 = i ∧ i < kid l i := by
  unfold kid; split <;> omega
theorem kid_min {l : List En} {i j : Nat} (hj : 0 < j) (hjl : j < l.length) (hp : (j - 1) / 2 = i) : bef (gt l j) (gt l (kid l i)) = false := by
  have h1 : j = 2 * i + 1 ∨ j = 2 * i + 2 := by omega
  unfold kid
  rcases h1 with rfl | rfl
  · split
    · rename_i h; exact bef_asym h.2
    · exact bef_irr _
  · split
    · exact bef_irr _
    · rename_i h
      cases e : bef (gt l (2 * i + 2)) (gt l (2 * i + 1)) with
      | false => rfl
      | true => exact absurd ⟨hjl, e⟩ h

theorem downL_ok (s : Nat) : ∀ (n i : Nat) (l : List En), l.length - i ≤ n → s ≤ i →
    (∀ j, 0 < j → j < l.length → s ≤ (j - 1) / 2 → (j - 1) / 2 ≠ i → bef (gt l j) (gt l ((j - 1) / 2)) = false) →
    (∀ j, 0 < j → j < l.length → (j - 1) / 2 = i → 0 < i → s ≤ (i - 1) / 2 → bef (gt l j) (gt l ((i - 1) / 2)) = false) →
    HeapFrom s (downL l i) ∧ (downL l i).Perm l := by
  intro n
  induction n with
  | zero =>
    intro i l hn hs h1 h2
    rw [downL, dif_pos (by omega)]
    exact ⟨fun j hj hjl hjs => h1 j hj hjl hjs (by omega), List.Perm.refl _⟩
  | succ n ih =>
    intro i l hn hs h1 h2
    rw [downL]
    by_cases hlen : l.length ≤ 2 * i + 1
    · rw [dif_pos hlen]
      exact ⟨fun j hj hjl hjs => h1 j hj hjl hjs (by omega), List.Perm.refl _⟩
    · rw [dif_neg hlen]
      obtain ⟨hk1, hk2, hk3⟩ := kid_le (l := l) (i := i) (by omega)
      cases hb : bef (gt l (kid l i)) (gt l i) with
      | false =>
        simp only [Bool.false_eq_true, if_false]
        refine ⟨fun j hj hjl hjs => ?_, List.Perm.refl _⟩
        by_cases hp : (j - 1) / 2 = i
        · rw [hp]; exact nbef_trans hb (kid_min hj hjl hp)
        · exact h1 j hj hjl hjs hp
      | true =>
        simp only [if_true]
        have hmin : ∀ j, 0 < j → j < l.length → (j - 1) / 2 = i → bef (gt l j) (gt l (kid l i)) = false := fun j => kid_min
        generalize kid l i = k at *
        have hil : i < l.length := by omega
        obtain ⟨r1, r2⟩ := ih k (swp l i k) (by simp; omega) (by omega)
          (fun j hj hjl hjs hjp => by
            have hjl' : j < l.length := by simpa using hjl
            have hq : (j - 1) / 2 < l.length := by omega
            rw [gt_swp hil hk1 hjl', gt_swp hil hk1 hq, if_neg hjp]
            by_cases hjk : j = k
            · subst hjk
              rw [if_pos rfl, if_pos hk2]
              exact bef_asym hb
            · rw [if_neg hjk]
              by_cases hji : j = i
              · subst hji
                rw [if_pos rfl, if_neg (by omega)]
                exact h2 k (by omega) hk1 hk2 hj hjs
              · rw [if_neg hji]
                by_cases hqi : (j - 1) / 2 = i
                · rw [if_pos hqi]; exact hmin j hj hjl' hqi
                · rw [if_neg hqi]; exact h1 j hj hjl' hjs hqi)
          (fun j hj hjl hjp hk0 hks => by
            have hjl' : j < l.length := by simpa using hjl
            rw [hk2] at hks ⊢
            rw [gt_swp hil hk1 hjl', gt_swp hil hk1 hil, if_neg (show ¬ j = k by omega), if_neg (show ¬ j = i by omega), if_neg (show ¬ i = k by omega), if_pos rfl]
            have := h1 j hj hjl' (by omega) (by omega)
            rw [hjp] at this
            exact this)
        exact ⟨r1, r2.trans (swp_perm hil hk1)⟩

theorem root_min {l : List En} (h : HeapFrom 0 l) : ∀ n j, j < n → j < l.length → bef (gt l j) (gt l 0) = false := by
  intro n
  induction n with
  | zero => intro j hj; omega
  | succ n ih =>
    intro j hj hjl
    by_cases h0 : j = 0
    · subst h0; exact bef_irr _
    · exact nbef_trans (ih ((j - 1) / 2) (by omega) (by omega)) (h j (by omega) hjl (Nat.zero_le _))


theorem downL_len : ∀ (n i : Nat) (l : List En), l.length - i ≤ n → (downL l i).length = l.length
  | 0, i, l, h => by rw [downL, dif_pos (by omega)]
  | n + 1, i, l, h => by
    rw [downL]
    by_cases h1 : l.length ≤ 2 * i + 1
    · rw [dif_pos h1]
    · rw [dif_neg h1]
      obtain ⟨k1, k2, k3⟩ := kid_le (l := l) (i := i) (by omega)
      split
      · rw [downL_len n _ _ (by simp; omega)]; simp
      · rfl
theorem upL_len : ∀ (i : Nat) (l : List En), (upL l i).length = l.length := by
  intro i
  induction i using Nat.strongRecOn with
  | ind i ih =>
    intro l
    rw [upL]
    split
    · rfl
    · split
      · rw [ih _ (by omega)]; simp
      · rfl
/-! ### A heap of a list of entries, in any order -/
structure Hp (l s : List En) : Prop where
  perm : l.Perm s
  heap : HeapFrom 0 l
theorem Hp.nil : Hp [] [] := ⟨List.Perm.refl _, fun j hj hjl => by simp at hjl⟩
theorem Hp.push {l s : List En} (h : Hp l s) (e : En) : Hp (upL (l ++ [e]) l.length) (e :: s) := by
  have hg : ∀ j, j < l.length → gt (l ++ [e]) j = gt l j := fun j hj => by
    rw [gt_lt (by simp; omega), gt_lt hj, List.getElem_append_left hj]
  obtain ⟨r1, r2⟩ := upL_ok l.length (l ++ [e]) (by simp)
    (fun j hj hjl hne => by
      have : j < l.length := by simp at hjl; omega
      rw [hg j this, hg _ (by omega)]
      exact h.heap j hj this (Nat.zero_le _))
    (fun j hj hjl hp => by simp at hjl; omega)
  exact ⟨r2.trans ((List.perm_append_singleton _ _).trans (h.perm.cons _)), r1⟩
/-- The list behind the exchange of the first and the last entry, without the last one. -/
def topL (l : List En) : List En := (l.set 0 (gt l (l.length - 1))).take (l.length - 1)
theorem topL_len (l : List En) : (topL l).length = l.length - 1 := by simp [topL]
theorem swp_top {l : List En} (h : 0 < l.length) : swp l 0 (l.length - 1) = topL l ++ [gt l 0] := by
  apply List.ext_getElem
  · simp [topL]; omega
  · intro i h1 h2
    have hi : i < l.length := by simpa using h1
    have e : (swp l 0 (l.length - 1))[i] = gt (swp l 0 (l.length - 1)) i := (gt_lt h1).symm
    rw [e, gt_swp h (by omega) hi]
    by_cases h3 : i = l.length - 1
    · rw [if_pos h3, List.getElem_append_right (by rw [topL_len]; omega)]
      simp
    · rw [if_neg h3, List.getElem_append_left (by rw [topL_len]; omega)]
      simp only [topL, List.getElem_take, List.getElem_set]
      by_cases h4 : i = 0
      · simp [h4]
      · rw [if_neg h4, if_neg (Ne.symm h4), gt_lt hi]
theorem topL_perm {x : En} {l : List En} : (topL (x :: l)).Perm l := by
  have h1 := swp_top (l := x :: l) (by simp)
  have h2 : (swp (x :: l) 0 ((x :: l).length - 1)).Perm (x :: l) := swp_perm (by simp) (by simp)
  rw [h1] at h2
  have h3 : gt (x :: l) 0 = x := rfl
  rw [h3] at h2
  exact List.Perm.cons_inv ((List.perm_append_singleton _ _).symm.trans h2)
theorem Hp.pop {x : En} {l s : List En} (h : Hp (x :: l) s) : Hp (downL (topL (x :: l)) 0) (s.erase x) ∧ x ∈ s ∧ ∀ y ∈ s, x.1 ≤ y.1 := by
  have hx : x ∈ s := h.perm.subset (by simp)
  have hl : l.Perm (s.erase x) := by
    have := h.perm.erase x
    simpa using this
  have hg : ∀ j, 0 < j → j < (topL (x :: l)).length → gt (topL (x :: l)) j = gt (x :: l) j := fun j hj hjl => by
    have hjl2 : j < l.length := by rw [topL_len] at hjl; simpa using hjl
    have hj1 : j < (x :: l).length := by simp; omega
    rw [gt_lt hjl, gt_lt hj1]
    simp only [topL, List.getElem_take, List.getElem_set]
    rw [if_neg (by omega)]
  obtain ⟨r1, r2⟩ := downL_ok 0 ((topL (x :: l)).length - 0) 0 (topL (x :: l)) (Nat.le_refl _) (Nat.le_refl _)
    (fun j hj hjl _ hp => by
      have h1 : 0 < (j - 1) / 2 := by omega
      rw [hg j hj hjl, hg _ h1 (by omega)]
      refine h.heap j hj ?_ (Nat.zero_le _)
      rw [topL_len] at hjl; omega)
    (fun j hj hjl hp h0 => by omega)
  refine ⟨⟨r2.trans (topL_perm.trans hl), r1⟩, hx, fun y hy => ?_⟩
  obtain ⟨i, hi, he⟩ := List.getElem_of_mem (h.perm.symm.subset hy)
  have h2 := root_min h.heap (i + 1) i (Nat.lt_succ_self i) hi
  rw [gt_lt hi, he] at h2
  have h3 : gt (x :: l) 0 = x := rfl
  rw [h3] at h2
  simp only [bef, decide_eq_false_iff_not] at h2
  omega
end Go.Rx
end
section
set_option linter.unusedVariables false
set_option linter.unusedSimpArgs false
namespace Go.Rx
def updN {α : Type} (V : Nat → α) (i : Nat) (x : α) : Nat → α := fun j => if j = i then x else V j
@[simp] theorem updN_same {α : Type} {V : Nat → α} {i : Nat} {x : α} : updN V i x i = x := by simp [updN]
theorem updN_ne {α : Type} {V : Nat → α} {i j : Nat} {x : α} (h : j ≠ i) : updN V i x j = V j := by simp [updN, h]
/-- The unary operators that are not left out. -/
def allow (ok : Nat → Bool) (U : List Un) : List Un := U.filter fun u => ok u.op
theorem allow_mem {ok : Nat → Bool} {U : List Un} {u : Un} : u ∈ allow ok U ↔ u ∈ U ∧ ok u.op = true := by simp [allow]
/-- The state of the search; pend are the unary operators that are still to be looked at. -/
structure Dj (U : List Un) (ok : Nat → Bool) (S S0 : List Nat) (out : Nat → Nat) (s : List En) (done : Nat → Bool) (cur : Nat) (pend : List Nat) : Prop where
  s0 : ∀ f ∈ S0, out f = 0
  der : ∀ f, out f < Inf → Der (allow ok U) S f (out f)
  le : ∀ f, out f ≤ Inf
  ent : ∀ e ∈ s, out e.2 ≤ e.1 ∧ e.1 < Inf
  wait : ∀ f, out f < Inf → done f = false → (out f, f) ∈ s
  dn : ∀ f, done f = true → out f ≤ cur
  nd : ∀ e ∈ s, cur ≤ e.1
  cu : cur < Inf
  fired : ∀ i u, U[i]? = some u → ok u.op = true → (∀ n ∈ u.needs, done n = true) → i ∉ pend → out u.makes ≤ gr out u.needs + u.cost
section
variable {U : List Un} {ok : Nat → Bool} {S S0 : List Nat} {out : Nat → Nat} {s s' : List En} {done : Nat → Bool} {cur : Nat} {pend : List Nat}
theorem Dj.init (hp : ∀ i u, U[i]? = some u → u.needs = [] → i ∈ pend) : Dj U ok S [] (fun _ => Inf) [] (fun _ => false) 0 pend := {
  s0 := by simp
  der := fun f hf => by simp at hf
  le := fun _ => Nat.le_refl _
  ent := by simp
  wait := fun f hf => by simp at hf
  dn := by simp
  nd := by simp
  cu := by decide
  fired := fun i u hi _ hn hnp => by
    cases hu : u.needs with
    | nil => exact absurd (hp i u hi hu) hnp
    | cons x l => have := hn x (by simp [hu]); cases this }
/-- A fact is improved. -/
theorem Dj.reach (h : Dj U ok S S0 out s done cur pend) {v f : Nat} (hlt : v < out f) (hd : Der (allow ok U) S f v) (hc : cur ≤ v) : Dj U ok S S0 (updN out f v) ((v, f) :: s) done cur pend := by
  have hle := h.le f
  have low : ∀ g, updN out f v g ≤ out g := fun g => by
    by_cases e : g = f
    · subst e; simp; omega
    · rw [updN_ne e]; exact Nat.le_refl _
  have nf : done f = false := by
    cases hdf : done f with
    | false => rfl
    | true => have := h.dn f hdf; omega
  refine ⟨fun g hg => ?_, fun g hg => ?_, fun g => Nat.le_trans (low g) (h.le g), fun e he => ?_, fun g hg hdg => ?_, fun g hg => Nat.le_trans (low g) (h.dn g hg), fun e he => ?_, h.cu, fun i u hi hok hn hnp => ?_⟩
  · have := h.s0 g hg
    have := low g
    omega
  · by_cases e : g = f
    · subst e; simpa using hd
    · rw [updN_ne e] at hg ⊢; exact h.der g hg
  · rcases List.mem_cons.1 he with rfl | he
    · exact ⟨by simp, by show v < Inf; omega⟩
    · obtain ⟨h1, h2⟩ := h.ent e he
      exact ⟨Nat.le_trans (low _) h1, h2⟩
  · by_cases e : g = f
    · subst e; simp
    · rw [updN_ne e] at hg ⊢
      exact List.mem_cons_of_mem _ (h.wait g hg hdg)
  · rcases List.mem_cons.1 he with rfl | he
    · exact hc
    · exact h.nd e he
  · have e1 : gr (updN out f v) u.needs = gr out u.needs := gr_congr fun n hn2 => updN_ne fun e => by
      have := hn n hn2
      rw [e, nf] at this; cases this
    rw [e1]
    exact Nat.le_trans (low _) (h.fired i u hi hok hn hnp)
theorem Dj.start (h : Dj U ok S S0 out s done cur pend) {f : Nat} (hf : out f = 0) : Dj U ok S (S0 ++ [f]) out s done cur pend := by
  refine ⟨fun g hg => ?_, h.der, h.le, h.ent, h.wait, h.dn, h.nd, h.cu, h.fired⟩
  rcases List.mem_append.1 hg with h1 | h1
  · exact h.s0 g h1
  · simp at h1; subst h1; exact hf
/-- An operator has been looked at. -/
theorem Dj.look {i : Nat} (h : Dj U ok S S0 out s done cur (i :: pend)) (hi : ∀ u, U[i]? = some u → ok u.op = true → (∀ n ∈ u.needs, done n = true) → out u.makes ≤ gr out u.needs + u.cost) : Dj U ok S S0 out s done cur pend := by
  refine ⟨h.s0, h.der, h.le, h.ent, h.wait, h.dn, h.nd, h.cu, fun j u hj hok hn hnp => ?_⟩
  by_cases e : j = i
  · subst e; exact hi u hj hok hn
  · exact h.fired j u hj hok hn (by simp [e, hnp])
theorem Dj.der_now (h : Dj U ok S S0 out s done cur pend) {u : Un} (hu : u ∈ U) (hok : ok u.op = true) (hn : ∀ n ∈ u.needs, done n = true) : Der (allow ok U) S u.makes (gr out u.needs + u.cost) :=
  .step (allow_mem.2 ⟨hu, hok⟩) out fun n hn2 => h.der n (by have := h.dn n (hn n hn2); have := h.cu; omega)
/-- An entry of a fact that is done. -/
theorem Dj.skip (h : Dj U ok S S0 out s done cur pend) {x : En} (hd : done x.2 = true) : Dj U ok S S0 out (s.erase x) done cur pend := by
  refine ⟨h.s0, h.der, h.le, fun e he => h.ent e (List.mem_of_mem_erase he), fun f hf hdf => ?_, h.dn, fun e he => h.nd e (List.mem_of_mem_erase he), h.cu, h.fired⟩
  refine (List.mem_erase_of_ne fun e => ?_).2 (h.wait f hf hdf)
  rw [← e] at hd
  rw [hd] at hdf; cases hdf
/-- The least entry of a fact that is not done. -/
theorem Dj.pop (h : Dj U ok S S0 out s done cur []) {x : En} (hx : x ∈ s) (hm : ∀ y ∈ s, x.1 ≤ y.1) (hd : done x.2 = false) (hp : ∀ i u, U[i]? = some u → x.2 ∈ u.needs → i ∈ pend) :
    Dj U ok S S0 out (s.erase x) (updN done x.2 true) x.1 pend ∧ out x.2 = x.1 := by
  obtain ⟨h1, h2⟩ := h.ent x hx
  have h3 := hm _ (h.wait x.2 (by omega) hd)
  have e : out x.2 = x.1 := Nat.le_antisymm h1 h3
  refine ⟨⟨h.s0, h.der, h.le, fun e he => h.ent e (List.mem_of_mem_erase he), fun f hf hdf => ?_, fun f hf => ?_, fun e he => hm e (List.mem_of_mem_erase he), h2, fun i u hi hok hn hnp => ?_⟩, e⟩
  · have hne : f ≠ x.2 := fun e => by rw [e] at hdf; simp at hdf
    rw [updN_ne hne] at hdf
    exact (List.mem_erase_of_ne fun e => hne (by rw [← e])).2 (h.wait f hf hdf)
  · by_cases e2 : f = x.2
    · rw [e2, e]; exact Nat.le_refl _
    · rw [updN_ne e2] at hf
      exact Nat.le_trans (h.dn f hf) (h.nd x hx)
  · refine h.fired i u hi hok (fun n hn2 => ?_) (by simp)
    have := hn n hn2
    rwa [updN_ne] at this
    intro e2
    exact hnp (hp i u hi (e2 ▸ hn2))
/-- At the end. -/
theorem Dj.fin (h : Dj U ok S S out [] done cur []) : IsVal (allow ok U) S out := by
  refine ⟨h.s0, fun u hu hg => ?_, h.der, h.le⟩
  obtain ⟨hu1, hok⟩ := allow_mem.1 hu
  obtain ⟨i, hi, rfl⟩ := List.getElem_of_mem hu1
  refine h.fired i _ (List.getElem?_eq_getElem hi) hok (fun n hn => ?_) (by simp)
  have := (gr_lt_iff (by decide)).1 hg n hn
  cases hd : done n with
  | true => rfl
  | false => have := h.wait n this hd; cases this
/-- The greatest need is the one that was taken last. -/
theorem Dj.gr_cur (h : Dj U ok S S0 out s done cur pend) {l : List Nat} (hn : ∀ n ∈ l, done n = true) {f : Nat} (hf : f ∈ l) (e : out f = cur) : gr out l = cur :=
  Nat.le_antisymm (gr_le_iff.2 fun n hn2 => h.dn n (hn n hn2)) (e ▸ gr_mem hf)
/-! ### What is left -/
def opens (done : Nat → Bool) (l : List Nat) : Nat := l.countP fun n => !done n
theorem opens_zero {l : List Nat} : opens done l = 0 ↔ ∀ n ∈ l, done n = true := by
  unfold opens
  rw [List.countP_eq_zero]
  simp
theorem opens_upd {f : Nat} {l : List Nat} (hn : l.Nodup) (hf : done f = false) : opens done l = opens (updN done f true) l + if f ∈ l then 1 else 0 := by
  induction l with
  | nil => simp [opens]
  | cons x l ih =>
    rw [List.nodup_cons] at hn
    have := ih hn.2
    unfold opens at this ⊢
    rw [List.countP_cons, List.countP_cons, this]
    by_cases e : x = f
    · subst e
      simp [hf, hn.1]
    · rw [updN_ne e]
      have e' : (f ∈ x :: l) = (f ∈ l) := by simp [Ne.symm e]
      simp only [e']
      omega
theorem opens_none {l : List Nat} : opens (fun _ => false) l = l.length := by simp [opens]
def dones (done : Nat → Bool) (N : Nat) : Nat := (List.range N).countP done
theorem dones_le {N : Nat} : dones done N ≤ N := by
  have := List.countP_le_length (p := done) (l := List.range N)
  simpa [dones] using this
theorem dones_upd {f N : Nat} (hf : f < N) (hd : done f = false) : dones (updN done f true) N = dones done N + 1 := by
  have h1 : ∀ l : List Nat, l.countP done + l.countP (fun n => !done n) = l.length := fun l => by
    induction l with
    | nil => rfl
    | cons x l ih =>
      rw [List.countP_cons, List.countP_cons, List.length_cons]
      cases done x <;> simp <;> omega
  have h2 : ∀ l : List Nat, l.countP (updN done f true) + l.countP (fun n => !(updN done f true) n) = l.length := fun l => by
    induction l with
    | nil => rfl
    | cons x l ih =>
      rw [List.countP_cons, List.countP_cons, List.length_cons]
      cases updN done f true x <;> simp <;> omega
  have h3 := opens_upd (done := done) (f := f) (l := List.range N) List.nodup_range hd
  rw [if_pos (List.mem_range.2 hf)] at h3
  have a := h1 (List.range N)
  have b := h2 (List.range N)
  unfold opens at h3
  unfold dones
  omega
end
end Go.Rx
end
section
set_option linter.unusedVariables false
set_option linter.unusedSimpArgs false
namespace Go.Rx
open Go.Tk Go.W Go
def psum (vars : List Nat) (v : Nat) : Nat := (vars.take v).sum
theorem psum_succ {vars : List Nat} {v n : Nat} (h : vars[v]? = some n) : psum vars (v + 1) = psum vars v + n := by
  unfold psum
  rw [List.take_add_one, h, List.sum_append]
  simp
theorem psum_all (vars : List Nat) : psum vars vars.length = vars.sum := by simp [psum]
theorem psum_mono {vars : List Nat} {v w : Nat} (h : v ≤ w) : psum vars v ≤ psum vars w := by
  obtain ⟨d, rfl⟩ : ∃ d, w = v + d := ⟨w - v, by omega⟩
  induction d with
  | zero => exact Nat.le_refl _
  | succ d ih =>
    have h1 := ih (by omega)
    refine Nat.le_trans h1 ?_
    rw [show v + (d + 1) = (v + d) + 1 by omega]
    cases hv : vars[v + d]? with
    | none =>
      have := List.getElem?_eq_none_iff.1 hv
      unfold psum
      rw [List.take_of_length_le this, List.take_of_length_le (by omega)]
      exact Nat.le_refl _
    | some n => rw [psum_succ hv]; omega
theorem psum_le {vars : List Nat} (v : Nat) : psum vars v ≤ vars.sum := by
  rcases Nat.le_total v vars.length with h | h
  · rw [← psum_all]; exact psum_mono h
  · unfold psum; rw [List.take_of_length_le h]; exact Nat.le_refl _
def numF (vars : List Nat) (f : Fc) : Nat := psum vars f.1 + f.2
theorem numF_lt {vars : List Nat} {f : Fc} (h1 : f.1 < vars.length) (h2 : f.2 < vars.getD f.1 0) : numF vars f < vars.sum := by
  obtain ⟨n, hn⟩ : ∃ n, vars[f.1]? = some n := ⟨_, List.getElem?_eq_getElem h1⟩
  have e : vars.getD f.1 0 = n := by simp [List.getD, hn]
  have h3 := psum_succ hn
  have h4 := psum_le (vars := vars) (f.1 + 1)
  unfold numF
  omega
/-- Different facts have different numbers. -/
theorem numF_inj {vars : List Nat} {f g : Fc} (h1 : f.1 < vars.length) (h2 : f.2 < vars.getD f.1 0) (k1 : g.1 < vars.length) (k2 : g.2 < vars.getD g.1 0) (h : numF vars f = numF vars g) : f = g := by
  have key : ∀ {f g : Fc}, f.1 < vars.length → f.2 < vars.getD f.1 0 → f.1 < g.1 → numF vars f < numF vars g := fun {f g} h1 h2 hlt => by
    obtain ⟨n, hn⟩ : ∃ n, vars[f.1]? = some n := ⟨_, List.getElem?_eq_getElem h1⟩
    have e : vars.getD f.1 0 = n := by simp [List.getD, hn]
    have h3 := psum_succ hn
    have h4 := psum_mono (vars := vars) (show f.1 + 1 ≤ g.1 by omega)
    unfold numF
    omega
  rcases Nat.lt_trichotomy f.1 g.1 with hl | he | hl
  · have := key h1 h2 hl; omega
  · unfold numF at h
    rw [he] at h
    exact Prod.ext he (by omega)
  · have := key k1 k2 hl; omega
theorem sum_le {vars : List Nat} {N : Nat} (h : ∀ n ∈ vars, n ≤ N) : vars.sum ≤ vars.length * N := by
  induction vars with
  | nil => simp
  | cons x l ih =>
    have := ih fun n hn => h n (by simp [hn])
    have := h x (by simp)
    rw [List.sum_cons, List.length_cons, Nat.add_mul]
    omega
/-! ### Needs -/
def ndd (acc : List Nat) (n : Nat) : List Nat := if n ∈ acc then acc else acc ++ [n]
def dedup (l : List Nat) : List Nat := l.foldl ndd []
theorem ndd_mem {acc : List Nat} {n x : Nat} : x ∈ ndd acc n ↔ x ∈ acc ∨ x = n := by
  unfold ndd
  split
  · rename_i h
    exact ⟨.inl, fun h1 => h1.elim id (fun e => e ▸ h)⟩
  · simp
theorem ndd_nodup {acc : List Nat} {n : Nat} (h : acc.Nodup) : (ndd acc n).Nodup := by
  unfold ndd
  split
  · exact h
  · rename_i hn
    rw [List.nodup_append]
    refine ⟨h, by simp, fun a ha b hb => ?_⟩
    simp at hb; subst hb
    intro e; exact hn (e ▸ ha)
theorem fold_mem : ∀ (l acc : List Nat) (x : Nat), x ∈ l.foldl ndd acc ↔ x ∈ acc ∨ x ∈ l
  | [], acc, x => by simp
  | n :: l, acc, x => by rw [List.foldl_cons, fold_mem l, ndd_mem]; simp [or_assoc]
theorem fold_nodup : ∀ (l acc : List Nat), acc.Nodup → (l.foldl ndd acc).Nodup
  | [], acc, h => h
  | n :: l, acc, h => fold_nodup l _ (ndd_nodup h)
theorem fold_len : ∀ (l acc : List Nat), (l.foldl ndd acc).length ≤ acc.length + l.length
  | [], acc => by simp
  | n :: l, acc => by
    have := fold_len l (ndd acc n)
    have : (ndd acc n).length ≤ acc.length + 1 := by unfold ndd; split <;> simp
    rw [List.foldl_cons, List.length_cons]
    omega
theorem dedup_mem {l : List Nat} {x : Nat} : x ∈ dedup l ↔ x ∈ l := by unfold dedup; rw [fold_mem]; simp
theorem dedup_nodup (l : List Nat) : (dedup l).Nodup := fold_nodup l [] (by simp)
theorem dedup_len (l : List Nat) : (dedup l).length ≤ l.length := by have := fold_len l []; simpa [dedup] using this
/-! ### Unary operators -/
def unA (vars : List Nat) (o : No) (i c k : Nat) : Un := match o.effs[k]? with
  | some e => ⟨i, k, c, numF vars (e.v, e.x), dedup ((o.pre ++ e.cnd).map (numF vars))⟩
  | none => ⟨0, 0, 0, 0, []⟩
def opU (vars : List Nat) (o : No) (i c k : Nat) : List Un := (List.range k).map (unA vars o i c)
def unsK (t : Nt) (cost : Nat → Nat) (n : Nat) : List Un := (List.range n).flatMap fun i => match t.ops[i]? with
  | some o => opU t.vars o i (cost i) o.effs.length
  | none => []
def uns (t : Nt) (cost : Nat → Nat) : List Un := unsK t cost t.ops.length
theorem opU_succ (vars : List Nat) (o : No) (i c k : Nat) : opU vars o i c (k + 1) = opU vars o i c k ++ [unA vars o i c k] := by
  unfold opU; rw [List.range_succ]; simp
theorem unsK_succ {t : Nt} {cost : Nat → Nat} {n : Nat} {o : No} (h : t.ops[n]? = some o) : unsK t cost (n + 1) = unsK t cost n ++ opU t.vars o n (cost n) o.effs.length := by
  unfold unsK; rw [List.range_succ, List.flatMap_append]; simp [h]
theorem opU_len (vars : List Nat) (o : No) (i c k : Nat) : (opU vars o i c k).length = k := by simp [opU]
theorem unsK_len {t : Nt} {cost : Nat → Nat} (h : ∀ o ∈ t.ops, o.effs.length ≤ 64) : ∀ n, (unsK t cost n).length ≤ 64 * n
  | 0 => by simp [unsK]
  | n + 1 => by
    have := unsK_len (cost := cost) h n
    cases ho : t.ops[n]? with
    | none =>
      unfold unsK at *
      rw [List.range_succ, List.flatMap_append]
      simp [ho] at this ⊢
      omega
    | some o =>
      rw [unsK_succ ho, List.length_append, opU_len]
      have := h o (List.mem_of_getElem? ho)
      omega
/-- The unary operators that need a fact; those that need nothing. -/
def nbF (U : List Un) (f : Nat) : List Nat := (List.range U.length).filter fun i => match U[i]? with | some u => decide (f ∈ u.needs) | none => false
def frF (U : List Un) : List Nat := (List.range U.length).filter fun i => match U[i]? with | some u => decide (u.needs = []) | none => false
theorem rng_snoc {p : Un → Bool} (U : List Un) (u : Un) : (List.range (U ++ [u]).length).filter (fun i => match (U ++ [u])[i]? with | some u => p u | none => false) =
    (List.range U.length).filter (fun i => match U[i]? with | some u => p u | none => false) ++ if p u = true then [U.length] else [] := by
  rw [List.length_append, List.length_singleton, List.range_succ, List.filter_append]
  congr 1
  · refine List.filter_congr fun i hi => ?_
    rw [List.getElem?_append_left (List.mem_range.1 hi)]
  · cases h : p u <;> simp [h]
theorem nbF_snoc (U : List Un) (u : Un) (f : Nat) : nbF (U ++ [u]) f = nbF U f ++ if f ∈ u.needs then [U.length] else [] := by
  unfold nbF
  rw [rng_snoc (p := fun u => decide (f ∈ u.needs))]
  simp
theorem frF_snoc (U : List Un) (u : Un) : frF (U ++ [u]) = frF U ++ if u.needs = [] then [U.length] else [] := by
  unfold frF
  rw [rng_snoc (p := fun u => decide (u.needs = []))]
  simp
theorem nbF_mem {U : List Un} {f i : Nat} : i ∈ nbF U f ↔ ∃ u, U[i]? = some u ∧ f ∈ u.needs := by
  unfold nbF
  rw [List.mem_filter, List.mem_range]
  constructor
  · rintro ⟨h1, h2⟩
    rw [List.getElem?_eq_getElem h1] at h2
    exact ⟨_, List.getElem?_eq_getElem h1, of_decide_eq_true h2⟩
  · rintro ⟨u, hu, h⟩
    exact ⟨(List.getElem?_eq_some_iff.1 hu).1, by rw [hu]; exact decide_eq_true h⟩
theorem frF_mem {U : List Un} {i : Nat} : i ∈ frF U ↔ ∃ u, U[i]? = some u ∧ u.needs = [] := by
  unfold frF
  rw [List.mem_filter, List.mem_range]
  constructor
  · rintro ⟨h1, h2⟩
    rw [List.getElem?_eq_getElem h1] at h2
    exact ⟨_, List.getElem?_eq_getElem h1, of_decide_eq_true h2⟩
  · rintro ⟨u, hu, h⟩
    exact ⟨(List.getElem?_eq_some_iff.1 hu).1, by rw [hu]; exact decide_eq_true h⟩
theorem nbF_nodup (U : List Un) (f : Nat) : (nbF U f).Nodup := List.nodup_range.filter _
theorem nbF_len (U : List Un) (f : Nat) : (nbF U f).length ≤ U.length := by
  have := List.length_filter_le (fun i => match U[i]? with | some u => decide (f ∈ u.needs) | none => false) (List.range U.length)
  rw [List.length_range] at this
  exact this
theorem frF_len (U : List Un) : (frF U).length ≤ U.length := by
  have := List.length_filter_le (fun i => match U[i]? with | some u => decide (u.needs = []) | none => false) (List.range U.length)
  rw [List.length_range] at this
  exact this
end Go.Rx
end
section
set_option linter.unusedVariables false
set_option linter.unusedSimpArgs false
namespace Go.Rx
open Go.Tk Go.W Go
structure Rf (A : List Un) (S : List Nat) (V : Nat → Nat) : Prop where
  s0 : ∀ f ∈ S, V f = 0
  der : ∀ f, V f < Inf → Der A S f (V f)
  le : ∀ f, V f ≤ Inf
def sumV (N : Nat) (V : Nat → Nat) : Nat := ((List.range N).map V).sum
/-- No operator of a list lowers a value. -/
def Clo (A : List Un) (V : Nat → Nat) : Prop := ∀ u ∈ A, gr V u.needs < Inf → V u.makes ≤ gr V u.needs + u.cost
section
variable {A A' : List Un} {S : List Nat} {V : Nat → Nat} {u : Un} {N f x : Nat}
theorem sumV_succ : sumV (N + 1) V = sumV N V + V N := by
  unfold sumV; rw [List.range_succ, List.map_append, List.sum_append]; simp
theorem sumV_congr {V' : Nat → Nat} (h : ∀ i, i < N → V i = V' i) : sumV N V = sumV N V' := by
  unfold sumV
  rw [List.map_congr_left fun i hi => h i (List.mem_range.1 hi)]
theorem sumV_upd (hf : f < N) (hx : x < V f) : sumV N (updN V f x) < sumV N V := by
  induction N with
  | zero => omega
  | succ N ih =>
    rw [sumV_succ, sumV_succ]
    by_cases e : f = N
    · subst e
      rw [updN_same, sumV_congr (V' := V) fun i hi => updN_ne (by omega)]
      omega
    · have := ih (by omega)
      rw [updN_ne (fun h => e h.symm)]
      omega
theorem Rf.init : Rf A S (fun f => if f ∈ S then 0 else Inf) := {
  s0 := fun f hf => by simp [hf]
  der := fun f hf => by
    by_cases h : f ∈ S
    · simp [h]; exact .base h
    · simp [h] at hf
  le := fun f => by
    by_cases h : f ∈ S <;> simp [h] }
theorem Rf.step (h : Rf A S V) (hu : u ∈ A) (hlt : gr V u.needs + u.cost < V u.makes) : Rf A S (updN V u.makes (gr V u.needs + u.cost)) := {
  s0 := fun f hf => by
    by_cases e : f = u.makes
    · have := h.s0 f hf
      rw [e] at this; omega
    · rw [updN_ne e]; exact h.s0 f hf
  der := fun f hf => by
    by_cases e : f = u.makes
    · subst e
      rw [updN_same]
      have hle := h.le u.makes
      exact .step hu V fun n hn => h.der n (by have := gr_mem (V := V) hn; omega)
    · rw [updN_ne e] at hf ⊢; exact h.der f hf
  le := fun f => by
    by_cases e : f = u.makes
    · subst e
      rw [updN_same]
      have := h.le u.makes
      omega
    · rw [updN_ne e]; exact h.le f }
theorem Rf.fin (h : Rf A S V) (hc : Clo A V) : IsVal A S V := ⟨h.s0, hc, h.der, h.le⟩
theorem Clo.nil : Clo [] V := fun u hu => by cases hu
theorem Clo.app (h : Clo A V) (h' : Clo A' V) : Clo (A ++ A') V := fun u hu => by
  rcases List.mem_append.1 hu with h1 | h1
  · exact h u h1
  · exact h' u h1
theorem Clo.one (h : gr V u.needs < Inf → V u.makes ≤ gr V u.needs + u.cost) : Clo [u] V := fun v hv => by
  simp at hv; subst hv; exact h
end
theorem allow_app {ok : Nat → Bool} {A B : List Un} : allow ok (A ++ B) = allow ok A ++ allow ok B := by simp [allow]
theorem unA_op {vars : List Nat} {o : No} {i c k : Nat} (hk : k < o.effs.length) : (unA vars o i c k).op = i := by
  unfold unA; rw [List.getElem?_eq_getElem hk]
theorem allow_opU_no {ok : Nat → Bool} {vars : List Nat} {o : No} {i c k : Nat} (hk : k ≤ o.effs.length) (h : ok i = false) : allow ok (opU vars o i c k) = [] := by
  unfold allow opU
  rw [List.filter_eq_nil_iff]
  intro u hu
  obtain ⟨j, hj, rfl⟩ := List.mem_map.1 hu
  rw [unA_op (Nat.lt_of_lt_of_le (List.mem_range.1 hj) hk), h]
  simp
theorem allow_opU_yes {ok : Nat → Bool} {vars : List Nat} {o : No} {i c k : Nat} (hk : k ≤ o.effs.length) (h : ok i = true) : allow ok (opU vars o i c k) = opU vars o i c k := by
  unfold allow opU
  rw [List.filter_eq_self]
  intro u hu
  obtain ⟨j, hj, rfl⟩ := List.mem_map.1 hu
  rw [unA_op (Nat.lt_of_lt_of_le (List.mem_range.1 hj) hk), h]
theorem unA_at {vars : List Nat} {o : No} {i c k : Nat} {e : Nf} (h : o.effs[k]? = some e) : unA vars o i c k = ⟨i, k, c, numF vars (e.v, e.x), dedup ((o.pre ++ e.cnd).map (numF vars))⟩ := by
  unfold unA; rw [h]
theorem gr_dedup {V : Nat → Nat} {l : List Nat} : gr V (dedup l) = gr V l := gr_set fun x => dedup_mem
/-- The unary operators of a task come from its operators. -/
theorem uns_mem {t : Nt} {cost : Nat → Nat} {n : Nat} {u : Un} (h : u ∈ unsK t cost n) : ∃ i o k e, i < n ∧ t.ops[i]? = some o ∧ o.effs[k]? = some e ∧ u = ⟨i, k, cost i, numF t.vars (e.v, e.x), dedup ((o.pre ++ e.cnd).map (numF t.vars))⟩ := by
  unfold unsK at h
  obtain ⟨i, hi, h2⟩ := List.mem_flatMap.1 h
  cases ho : t.ops[i]? with
  | none => rw [ho] at h2; cases h2
  | some o =>
    rw [ho] at h2
    unfold opU at h2
    obtain ⟨k, hk, rfl⟩ := List.mem_map.1 h2
    have hk := List.mem_range.1 hk
    exact ⟨i, o, k, _, List.mem_range.1 hi, ho, List.getElem?_eq_getElem hk, unA_at (List.getElem?_eq_getElem hk)⟩
theorem mem_uns {t : Nt} {cost : Nat → Nat} {n i k : Nat} {o : No} {e : Nf} (hi : i < n) (ho : t.ops[i]? = some o) (he : o.effs[k]? = some e) : (⟨i, k, cost i, numF t.vars (e.v, e.x), dedup ((o.pre ++ e.cnd).map (numF t.vars))⟩ : Un) ∈ unsK t cost n := by
  unfold unsK
  refine List.mem_flatMap.2 ⟨i, List.mem_range.2 hi, ?_⟩
  rw [ho]
  unfold opU
  exact List.mem_map.2 ⟨k, List.mem_range.2 (List.getElem?_eq_some_iff.1 he).1, unA_at he⟩
end Go.Rx
end
section
set_option linter.unusedVariables false
set_option linter.unusedSimpArgs false
namespace Go.Rx
theorem int_lg (a b : Int) : a < b ∨ b ≤ a := by omega
structure Lv (U : List Un) (S : List Nat) (k : Nat) (lay : Nat → Int) (now : List Nat) (done : Nat → Bool) : Prop where
  rk : ∀ j f, j ≤ k → (Rk U S j f ↔ 0 ≤ lay f ∧ lay f ≤ (j : Int))
  neg : ∀ f, lay f < 0 → lay f = -1
  top : ∀ f, lay f ≤ (k : Int)
  nw : ∀ f, f ∈ now ↔ lay f = (k : Int)
  nod : now.Nodup
  dn : ∀ f, done f = true ↔ (0 ≤ lay f ∧ lay f < (k : Int))
/-- The unary operators that fire. -/
def FrI (U : List Un) (d0 d1 : Nat → Bool) (k : Nat) (fire : List Nat) : Prop := ∀ i, i ∈ fire ↔ ∃ u, U[i]? = some u ∧ opens d1 u.needs = 0 ∧ (opens d0 u.needs ≠ 0 ∨ (k = 0 ∧ u.needs = []))
def mkU (U : List Un) (i : Nat) : Nat := match U[i]? with | some u => u.makes | none => 0
structure P2 (U : List Un) (lay0 : Nat → Int) (k : Nat) (fire : List Nat) (z : Nat) (lay : Nat → Int) (now : List Nat) : Prop where
  old : ∀ f, 0 ≤ lay0 f → lay f = lay0 f
  new : ∀ f, lay0 f < 0 → (lay f = -1 ∧ ∀ i ∈ fire.take z, mkU U i ≠ f) ∨ (lay f = (k : Int) + 1 ∧ ∃ i ∈ fire.take z, mkU U i = f)
  nw : ∀ f, f ∈ now ↔ lay f = (k : Int) + 1
  nod : now.Nodup
section
variable {U : List Un} {S : List Nat} {k : Nat} {lay lay' : Nat → Int} {now now' fire fire' : List Nat} {done d0 d1 : Nat → Bool} {z f : Nat}
theorem Lv.init (hn : S.Nodup) : Lv U S 0 (fun f => if f ∈ S then 0 else -1) S (fun _ => false) := {
  rk := fun j f hj => by
    have : j = 0 := by omega
    subst this
    show f ∈ S ↔ _
    by_cases h : f ∈ S <;> simp [h]
  neg := fun f h => by
    by_cases hf : f ∈ S
    · simp [hf] at h
    · simp [hf]
  top := fun f => by
    by_cases hf : f ∈ S <;> simp [hf]
  nw := fun f => by
    by_cases hf : f ∈ S <;> simp [hf]
  nod := hn
  dn := fun f => by simp }
theorem FrI.zero : FrI U (fun _ => false) (fun _ => false) 0 (frF U) := fun i => by
  rw [frF_mem]
  constructor
  · rintro ⟨u, h1, h2⟩
    exact ⟨u, h1, by rw [h2]; rfl, .inr ⟨rfl, h2⟩⟩
  · rintro ⟨u, h1, h2, h3⟩
    rw [opens_none] at h2
    exact ⟨u, h1, List.eq_nil_of_length_eq_zero h2⟩
theorem FrI.nil (hk : 0 < k) : FrI U done done k [] := fun i => by
  constructor
  · intro h; cases h
  · rintro ⟨u, h1, h2, h3 | h3⟩
    · exact absurd h2 h3
    · omega
/-- A fact more is looked at. -/
theorem FrI.step (h : FrI U d0 d1 k fire) (hf : d1 f = false) (h0 : d0 f = false) (hm : ∀ i, i ∈ fire' ↔ i ∈ fire ∨ (i ∈ nbF U f ∧ ∀ u, U[i]? = some u → opens (updN d1 f true) u.needs = 0)) : FrI U d0 (updN d1 f true) k fire' := fun i => by
  rw [hm, h i, nbF_mem]
  have up : ∀ l : List Nat, opens d1 l = 0 → opens (updN d1 f true) l = 0 := fun l hl => by
    rw [opens_zero] at hl ⊢
    intro n hn
    by_cases e : n = f
    · rw [e]; simp
    · rw [updN_ne e]; exact hl n hn
  constructor
  · rintro (⟨u, h1, h2, h3⟩ | ⟨⟨u, h1, h2⟩, h3⟩)
    · exact ⟨u, h1, up _ h2, h3⟩
    · refine ⟨u, h1, h3 u h1, .inl fun he => ?_⟩
      have := opens_zero.1 he f h2
      rw [h0] at this; cases this
  · rintro ⟨u, h1, h2, h3⟩
    by_cases hfu : f ∈ u.needs
    · exact .inr ⟨⟨u, h1, hfu⟩, fun v hv => by rw [h1] at hv; cases hv; exact h2⟩
    · refine .inl ⟨u, h1, ?_, h3⟩
      rw [opens_zero] at h2 ⊢
      intro n hn
      have e : n ≠ f := fun e => hfu (e ▸ hn)
      have := h2 n hn
      rwa [updN_ne e] at this
theorem P2.init (h : Lv U S k lay now done) : P2 U lay k fire 0 lay [] := {
  old := fun f _ => rfl
  new := fun f hf => .inl ⟨h.neg f hf, by simp⟩
  nw := fun f => by
    have := h.top f
    simp
    omega
  nod := by simp }
theorem P2.hit (h : P2 U lay k fire z lay' now') {i : Nat} (hi : fire[z]? = some i) (hn : lay' (mkU U i) < 0) : P2 U lay k fire (z + 1) (updN lay' (mkU U i) ((k : Int) + 1)) (now' ++ [mkU U i]) := {
  old := fun f hf => by
    have e := h.old f hf
    by_cases e2 : f = mkU U i
    · rw [← e2] at hn; omega
    · rw [updN_ne e2]; exact e
  new := fun f hf => by
    rw [List.take_add_one, hi]
    by_cases e2 : f = mkU U i
    · subst e2
      exact .inr ⟨by simp, i, by simp, rfl⟩
    · rw [updN_ne e2]
      rcases h.new f hf with ⟨h1, h2⟩ | ⟨h1, j, h2, h3⟩
      · refine .inl ⟨h1, fun j hj => ?_⟩
        rcases List.mem_append.1 hj with h4 | h4
        · exact h2 j h4
        · simp at h4; subst h4; exact Ne.symm e2
      · exact .inr ⟨h1, j, List.mem_append.2 (.inl h2), h3⟩
  nw := fun f => by
    by_cases e2 : f = mkU U i
    · subst e2; simp
    · rw [updN_ne e2, ← h.nw f]; simp [e2]
  nod := by
    rw [List.nodup_append]
    refine ⟨h.nod, by simp, fun a ha b hb => ?_⟩
    simp at hb; subst hb
    intro e; subst e
    have := (h.nw _).1 ha
    omega }
theorem P2.miss (h : P2 U lay k fire z lay' now') {i : Nat} (hi : fire[z]? = some i) (hn : ¬ lay' (mkU U i) < 0) : P2 U lay k fire (z + 1) lay' now' := {
  old := h.old
  new := fun f hf => by
    rw [List.take_add_one, hi]
    rcases h.new f hf with ⟨h1, h2⟩ | ⟨h1, j, h2, h3⟩
    · refine .inl ⟨h1, fun j hj => ?_⟩
      rcases List.mem_append.1 hj with h4 | h4
      · exact h2 j h4
      · simp at h4; subst h4
        intro e
        rw [e, h1] at hn
        omega
    · exact .inr ⟨h1, j, List.mem_append.2 (.inl h2), h3⟩
  nw := h.nw
  nod := h.nod }
theorem Lv.rkd (h : Lv U S k lay now done) (hd : ∀ n, d1 n = true ↔ done n = true ∨ n ∈ now) (n : Nat) : Rk U S k n ↔ d1 n = true := by
  have := h.top n
  rw [h.rk k n (Nat.le_refl _), hd, h.dn, h.nw]
  omega
theorem Lv.next (h : Lv U S k lay now done) (hd : ∀ n, d1 n = true ↔ done n = true ∨ n ∈ now) (hf : FrI U done d1 k fire) (h2 : P2 U lay k fire fire.length lay' now') : Lv U S (k + 1) lay' now' d1 := by
  have hnew := h2.new
  rw [List.take_length] at hnew
  have hnd : ∀ u : Un, (∀ n ∈ u.needs, Rk U S k n) ↔ opens d1 u.needs = 0 := fun u => by
    rw [opens_zero]
    exact forall_congr' fun n => imp_congr_right fun _ => h.rkd hd n
  refine ⟨fun j f hj => ?_, fun f hl => ?_, fun f => ?_, fun f => ?_, h2.nod, fun f => ?_⟩
  · rcases Nat.lt_or_ge j (k + 1) with hlt | hge
    · rw [h.rk j f (by omega)]
      rcases int_lg (lay f) 0 with hn | hn
      · have := hnew f hn
        omega
      · rw [h2.old f hn]
    · have e : j = k + 1 := by omega
      subst e
      rcases int_lg (lay f) 0 with hn | hn
      · constructor
        · rintro (h3 | ⟨u, hu, hmk, h3⟩)
          · have := (h.rk k f (Nat.le_refl _)).1 h3
            omega
          · obtain ⟨i, hi, hiu⟩ := List.getElem_of_mem hu
            have hi2 : U[i]? = some u := by rw [List.getElem?_eq_getElem hi, hiu]
            have hm : mkU U i = f := by unfold mkU; rw [hi2]; exact hmk
            by_cases hif : i ∈ fire
            · rcases hnew f hn with ⟨_, h5⟩ | ⟨h5, _⟩
              · exact absurd hm (h5 i hif)
              · omega
            · exfalso
              have hno : ¬ (opens done u.needs ≠ 0 ∨ (k = 0 ∧ u.needs = [])) := fun hx => hif ((hf i).2 ⟨u, hi2, (hnd u).1 h3, hx⟩)
              have ho : opens done u.needs = 0 := by
                rcases Nat.eq_zero_or_pos (opens done u.needs) with h6 | h6
                · exact h6
                · exact absurd (.inl (by omega)) hno
              rw [opens_zero] at ho
              rcases Nat.eq_zero_or_pos k with hk | hk
              · apply hno
                refine .inr ⟨hk, ?_⟩
                cases hu2 : u.needs with
                | nil => rfl
                | cons x l =>
                  have h6 := (h.dn x).1 (ho x (by simp [hu2]))
                  omega
              · obtain ⟨k', rfl⟩ : ∃ k', k = k' + 1 := ⟨k - 1, by omega⟩
                have h6 : Rk U S (k' + 1) f := .inr ⟨u, hu, hmk, fun n hn2 => by
                  have h7 := (h.dn n).1 (ho n hn2)
                  exact (h.rk k' n (by omega)).2 ⟨h7.1, by omega⟩⟩
                have := (h.rk _ f (Nat.le_refl _)).1 h6
                omega
        · intro h3
          rcases hnew f hn with ⟨h5, _⟩ | ⟨h5, i, hi, hm⟩
          · omega
          · obtain ⟨u, hiu, ho, _⟩ := (hf i).1 hi
            have hm2 : u.makes = f := by rw [← hm]; unfold mkU; rw [hiu]
            exact .inr ⟨u, List.mem_of_getElem? hiu, hm2, (hnd u).2 ho⟩
      · have ht := h.top f
        have e := h2.old f hn
        exact ⟨fun _ => by omega, fun _ => .inl ((h.rk k f (Nat.le_refl _)).2 ⟨hn, ht⟩)⟩
  · rcases int_lg (lay f) 0 with hn | hn
    · have := hnew f hn
      omega
    · have := h2.old f hn
      omega
  · rcases int_lg (lay f) 0 with hn | hn
    · have := hnew f hn
      omega
    · have := h2.old f hn
      have := h.top f
      omega
  · rw [h2.nw]
    simp
  · rw [hd, h.dn, h.nw]
    rcases int_lg (lay f) 0 with hn | hn
    · have := hnew f hn
      omega
    · have := h2.old f hn
      have := h.top f
      omega
theorem Lv.fin (h : Lv U S k lay [] done) (h0 : k = 0 → ∀ u ∈ U, u.needs ≠ []) : IsLev U S lay := by
  have st : ∀ d f, Rk U S (k + d) f → Rk U S k f := by
    intro d
    induction d with
    | zero => exact fun f h => h
    | succ d ih =>
      intro f hr
      rcases hr with hr | ⟨u, hu, hm, hr⟩
      · exact ih f hr
      · have hno : ∀ n, lay n ≠ (k : Int) := fun n e => by
          have := (h.nw n).2 e
          cases this
        rcases Nat.eq_zero_or_pos k with hk | hk
        · have hne := h0 hk u hu
          cases hu2 : u.needs with
          | nil => exact absurd hu2 hne
          | cons x l =>
            have h1 := (h.rk k x (Nat.le_refl _)).1 (ih x (hr x (by simp [hu2])))
            have := hno x
            omega
        · obtain ⟨k', rfl⟩ : ∃ k', k = k' + 1 := ⟨k - 1, by omega⟩
          refine .inr ⟨u, hu, hm, fun n hn => ?_⟩
          have h1 := (h.rk _ n (Nat.le_refl _)).1 (ih n (hr n hn))
          have := hno n
          exact (h.rk k' n (by omega)).2 ⟨h1.1, by omega⟩
  intro f
  rcases int_lg (lay f) 0 with hn | hn
  · refine .inl ⟨h.neg f hn, fun j hr => ?_⟩
    have h1 : Rk U S k f := by
      rcases Nat.le_total j k with h2 | h2
      · exact hr.le h2
      · exact st (j - k) f (by rw [show k + (j - k) = j by omega]; exact hr)
    have := (h.rk k f (Nat.le_refl _)).1 h1
    omega
  · have ht := h.top f
    refine .inr ⟨(lay f).toNat, by omega, (h.rk _ f (by omega)).2 ⟨hn, by omega⟩, fun j hj hr => ?_⟩
    have := (h.rk j f (by omega)).1 hr
    omega
end
end Go.Rx
end
section
set_option linter.unusedVariables false
set_option linter.unusedSimpArgs false
namespace Go.Rx
structure Lw (U : List Un) (S : List Nat) (k : Nat) (lay : Nat → Int) : Prop where
  rk : ∀ j f, j ≤ k → (Rk U S j f ↔ 0 ≤ lay f ∧ lay f ≤ (j : Int))
  neg : ∀ f, lay f < 0 → lay f = -1
  top : ∀ f, lay f ≤ (k : Int)
/-- The facts that come next. -/
def Snd (U : List Un) (lay : Nat → Int) (l : List Nat) : Prop := ∀ g ∈ l, lay g < 0 ∧ ∃ u ∈ U, u.makes = g ∧ ∀ n ∈ u.needs, 0 ≤ lay n
def Ful (A : List Un) (lay : Nat → Int) (l : List Nat) : Prop := ∀ u ∈ A, lay u.makes < 0 → (∀ n ∈ u.needs, 0 ≤ lay n) → u.makes ∈ l
def layN (lay : Nat → Int) (k : Nat) (l : List Nat) : Nat → Int := fun f => if f ∈ l then (k : Int) + 1 else lay f
def ngs (N : Nat) (lay : Nat → Int) : Nat := sumV N fun f => if lay f < 0 then 1 else 0
section
variable {U A A' : List Un} {S l : List Nat} {k N f : Nat} {lay : Nat → Int}
theorem Lw.init : Lw U S 0 (fun f => if f ∈ S then 0 else -1) := {
  rk := fun j f hj => by
    have : j = 0 := by omega
    subst this
    show f ∈ S ↔ _
    by_cases h : f ∈ S <;> simp [h]
  neg := fun f h => by
    by_cases hf : f ∈ S
    · simp [hf] at h
    · simp [hf]
  top := fun f => by
    by_cases hf : f ∈ S <;> simp [hf] }
theorem Lw.next (h : Lw U S k lay) (hs : Snd U lay l) (hf : Ful U lay l) : Lw U S (k + 1) (layN lay k l) := {
  rk := fun j f hj => by
    unfold layN
    by_cases hl : f ∈ l
    · rw [if_pos hl]
      obtain ⟨h1, u, hu, hm, hn⟩ := hs f hl
      rcases Nat.lt_or_ge j (k + 1) with hlt | hge
      · rw [h.rk j f (by omega)]; omega
      · have : j = k + 1 := by omega
        subst this
        exact ⟨fun _ => by omega, fun _ => .inr ⟨u, hu, hm, fun n hn2 => (h.rk k n (Nat.le_refl _)).2 ⟨hn n hn2, h.top n⟩⟩⟩
    · rw [if_neg hl]
      rcases Nat.lt_or_ge j (k + 1) with hlt | hge
      · exact h.rk j f (by omega)
      · have : j = k + 1 := by omega
        subst this
        have ht := h.top f
        constructor
        · rintro (h1 | ⟨u, hu, rfl, hn⟩)
          · have := (h.rk k f (Nat.le_refl _)).1 h1; omega
          · rcases int_lg (lay u.makes) 0 with h2 | h2
            · exact absurd (hf u hu h2 fun n hn2 => ((h.rk k n (Nat.le_refl _)).1 (hn n hn2)).1) hl
            · omega
        · intro h1
          exact .inl ((h.rk k f (Nat.le_refl _)).2 ⟨h1.1, ht⟩)
  neg := fun f hf2 => by
    unfold layN at hf2 ⊢
    by_cases hl : f ∈ l
    · rw [if_pos hl] at hf2; omega
    · rw [if_neg hl] at hf2 ⊢; exact h.neg f hf2
  top := fun f => by
    unfold layN
    by_cases hl : f ∈ l
    · rw [if_pos hl]; omega
    · rw [if_neg hl]; have := h.top f; omega }
theorem Lw.fin (h : Lw U S k lay) (hf : Ful U lay []) : IsLev U S lay := by
  have st : ∀ d f, Rk U S (k + d) f → Rk U S k f := by
    intro d
    induction d with
    | zero => exact fun f h => h
    | succ d ih =>
      intro f hr
      rcases hr with hr | ⟨u, hu, rfl, hr⟩
      · exact ih f hr
      · rcases int_lg (lay u.makes) 0 with h2 | h2
        · have := hf u hu h2 fun n hn => ((h.rk k n (Nat.le_refl _)).1 (ih n (hr n hn))).1
          cases this
        · exact (h.rk k _ (Nat.le_refl _)).2 ⟨h2, h.top _⟩
  intro f
  rcases int_lg (lay f) 0 with hn | hn
  · refine .inl ⟨h.neg f hn, fun j hr => ?_⟩
    have h1 : Rk U S k f := by
      rcases Nat.le_total j k with h2 | h2
      · exact hr.le h2
      · exact st (j - k) f (by rw [show k + (j - k) = j by omega]; exact hr)
    have := (h.rk k f (Nat.le_refl _)).1 h1
    omega
  · have ht := h.top f
    refine .inr ⟨(lay f).toNat, by omega, (h.rk _ f (by omega)).2 ⟨hn, by omega⟩, fun j hj hr => ?_⟩
    have := (h.rk j f (by omega)).1 hr
    omega
theorem sumV_mono {V V' : Nat → Nat} (h : ∀ i, i < N → V i ≤ V' i) : sumV N V ≤ sumV N V' := by
  induction N with
  | zero => simp [sumV]
  | succ N ih =>
    rw [sumV_succ, sumV_succ]
    have := ih fun i hi => h i (by omega)
    have := h N (by omega)
    omega
theorem sumV_lt {V V' : Nat → Nat} (h : ∀ i, i < N → V i ≤ V' i) (hf : f < N) (hlt : V f < V' f) : sumV N V < sumV N V' := by
  induction N with
  | zero => omega
  | succ N ih =>
    rw [sumV_succ, sumV_succ]
    by_cases e : f = N
    · subst e
      have := sumV_mono (N := f) (V := V) (V' := V') fun i hi => h i (by omega)
      omega
    · have := ih (fun i hi => h i (by omega)) (by omega)
      have := h N (by omega)
      omega
theorem ngs_le : ngs N lay ≤ N := by
  unfold ngs
  have h : ∀ N : Nat, sumV N (fun f => if lay f < 0 then 1 else 0) ≤ N := fun N => by
    induction N with
    | zero => simp [sumV]
    | succ N ih =>
      rw [sumV_succ]
      split <;> omega
  exact h N
theorem ngs_next (hs : Snd U lay l) (hne : f ∈ l) (hf : f < N) : ngs N (layN lay k l) < ngs N lay := by
  unfold ngs
  refine sumV_lt (f := f) (fun i _ => ?_) hf ?_
  · unfold layN
    by_cases hl : i ∈ l
    · rw [if_pos hl, if_neg (by omega)]; omega
    · rw [if_neg hl]; exact Nat.le_refl _
  · have h1 := (hs f hne).1
    unfold layN
    rw [if_pos hne, if_neg (by omega), if_pos h1]
    omega
theorem Snd.nil : Snd U lay [] := fun g hg => by cases hg
theorem Ful.nil : Ful [] lay l := fun u hu => by cases hu
theorem Ful.more {l' : List Nat} (h : Ful A lay l) : Ful A lay (l ++ l') := fun u hu h1 h2 => List.mem_append.2 (.inl (h u hu h1 h2))
theorem Ful.app (h : Ful A lay l) (h' : Ful A' lay l) : Ful (A ++ A') lay l := fun u hu => by
  rcases List.mem_append.1 hu with h1 | h1
  · exact h u h1
  · exact h' u h1
theorem Ful.one {u : Un} (h : lay u.makes < 0 → (∀ n ∈ u.needs, 0 ≤ lay n) → u.makes ∈ l) : Ful [u] lay l := fun v hv => by
  simp at hv; subst hv; exact h
end
end Go.Rx
end
section
set_option linter.unusedVariables false
set_option linter.unusedSimpArgs false
namespace Go.Rx
def U3 : List Un := [⟨0, 0, 2, 1, [0]⟩, ⟨1, 0, 2, 2, [1]⟩, ⟨2, 0, 2, 3, [2]⟩]
def U3b : List Un := [⟨0, 0, 2, 1, [0]⟩, ⟨2, 0, 2, 3, [2]⟩]
def VA (f : Nat) : Nat := if f < 4 then 2 * f else Inf
def VB (f : Nat) : Nat := if f < 2 then 2 * f else Inf
def LA (f : Nat) : Int := if f < 4 then (f : Int) else -1
theorem chain_der {U : List Un} {m : Nat} (h : ∀ k, k < m → (⟨k, 0, 2, k + 1, [k]⟩ : Un) ∈ U) : ∀ f, f ≤ m → Der U [0] f (2 * f)
  | 0, _ => .base (by simp)
  | f + 1, hf => by
    have h1 := chain_der h f (by omega)
    have := Der.step (S := [0]) (h f (by omega)) (fun _ => 2 * f) (fun n hn => by simp at hn; subst hn; exact h1)
    simp only [gr] at this
    have e : max (2 * f) 0 + 2 = 2 * (f + 1) := by omega
    rw [e] at this
    exact this
theorem va_val : IsVal U3 [0] VA := {
  s0 := by simp [VA]
  cl := fun u hu _ => by
    simp only [U3, List.mem_cons, List.not_mem_nil, or_false] at hu
    rcases hu with rfl | rfl | rfl <;> decide
  der := fun f hf => by
    unfold VA at hf ⊢
    by_cases h : f < 4
    · rw [if_pos h]
      refine chain_der (m := 3) (fun k hk => ?_) f (by omega)
      have : k = 0 ∨ k = 1 ∨ k = 2 := by omega
      rcases this with rfl | rfl | rfl <;> simp [U3]
    · rw [if_neg h] at hf; omega
  le := fun f => by
    unfold VA
    split
    · unfold Inf; omega
    · exact Nat.le_refl _ }
theorem vb_val : IsVal U3b [0] VB := {
  s0 := by simp [VB]
  cl := fun u hu => by
    simp only [U3b, List.mem_cons, List.not_mem_nil, or_false] at hu
    rcases hu with rfl | rfl <;> decide
  der := fun f hf => by
    unfold VB at hf ⊢
    by_cases h : f < 2
    · rw [if_pos h]
      refine chain_der (m := 1) (fun k hk => ?_) f (by omega)
      have : k = 0 := by omega
      subst this; simp [U3b]
    · rw [if_neg h] at hf; omega
  le := fun f => by
    unfold VB
    split
    · unfold Inf; omega
    · exact Nat.le_refl _ }
theorem rk_chain : ∀ k f, Rk U3 [0] k f ↔ f ≤ k ∧ f < 4
  | 0, f => by
    show f ∈ [0] ↔ _
    simp; omega
  | k + 1, f => by
    show (Rk U3 [0] k f ∨ ∃ u ∈ U3, u.makes = f ∧ ∀ n ∈ u.needs, Rk U3 [0] k n) ↔ _
    rw [rk_chain k f]
    constructor
    · rintro (h | ⟨u, hu, rfl, hn⟩)
      · omega
      · simp only [U3, List.mem_cons, List.not_mem_nil, or_false] at hu
        rcases hu with rfl | rfl | rfl
        · have := (rk_chain k 0).1 (hn 0 (by simp)); show 1 ≤ k + 1 ∧ 1 < 4; omega
        · have := (rk_chain k 1).1 (hn 1 (by simp)); show 2 ≤ k + 1 ∧ 2 < 4; omega
        · have := (rk_chain k 2).1 (hn 2 (by simp)); show 3 ≤ k + 1 ∧ 3 < 4; omega
    · rintro ⟨h1, h2⟩
      by_cases h3 : f ≤ k
      · exact .inl ⟨h3, h2⟩
      · obtain rfl : f = k + 1 := by omega
        have : k = 0 ∨ k = 1 ∨ k = 2 := by omega
        refine .inr ⟨⟨k, 0, 2, k + 1, [k]⟩, ?_, rfl, fun n hn => ?_⟩
        · rcases this with rfl | rfl | rfl <;> simp [U3]
        · simp at hn; rw [hn]; exact (rk_chain k k).2 ⟨Nat.le_refl _, by omega⟩
theorem la_lev : IsLev U3 [0] LA := fun f => by
  unfold LA
  by_cases h : f < 4
  · refine .inr ⟨f, by rw [if_pos h], (rk_chain f f).2 ⟨Nat.le_refl _, h⟩, fun j hj hr => ?_⟩
    have := (rk_chain j f).1 hr
    omega
  · refine .inl ⟨by rw [if_neg h], fun k hr => ?_⟩
    have := (rk_chain k f).1 hr
    omega
end Go.Rx
end
