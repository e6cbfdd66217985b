/-
  A part of the proof of this claim's statement (RxPlain, RxHeap, RxDij, RxRel, LibM, RxW1): plain theorems; no conditions beyond those each names.
-/
import Derived.Test.YtcoeknnghfajnaaPk13
import Derived.Test.YtcoeknnghfajnaaPk12
section
set_option linter.unusedVariables false
set_option linter.unusedSimpArgs false
namespace Go.Rx
def Inf : Nat := 1125899906842624
/-- A unary operator. -/
structure Un where
  op : Nat
  eff : Nat
  cost : Nat
  makes : Nat
  needs : List Nat
def gr (V : Nat → Nat) : List Nat → Nat
  | [] => 0
  | x :: l => max (V x) (gr V l)
section
variable {V V' : Nat → Nat} {l l' : List Nat} {k m : Nat}
theorem gr_le_iff : gr V l ≤ k ↔ ∀ x ∈ l, V x ≤ k := by
  induction l with
  | nil => simp [gr]
  | cons x l ih => simp only [gr, Nat.max_le, ih, List.mem_cons, forall_eq_or_imp]
theorem gr_lt_iff (h : 0 < k) : gr V l < k ↔ ∀ x ∈ l, V x < k := by
  induction l with
  | nil => simp [gr, h]
  | cons x l ih => simp only [gr, Nat.max_lt, ih, List.mem_cons, forall_eq_or_imp]
theorem gr_mem {x : Nat} (h : x ∈ l) : V x ≤ gr V l := (gr_le_iff (k := gr V l)).1 (Nat.le_refl _) x h
theorem gr_mono (h : ∀ x ∈ l, V x ≤ V' x) : gr V l ≤ gr V' l := gr_le_iff.2 fun x hx => Nat.le_trans (h x hx) (gr_mem hx)
theorem gr_sub (h : ∀ x ∈ l, x ∈ l') : gr V l ≤ gr V l' := gr_le_iff.2 fun x hx => gr_mem (h x hx)
theorem gr_set (h : ∀ x, x ∈ l ↔ x ∈ l') : gr V l = gr V l' := Nat.le_antisymm (gr_sub fun x => (h x).1) (gr_sub fun x => (h x).2)
theorem gr_attain (h : 0 < gr V l) : ∃ x ∈ l, V x = gr V l := by
  induction l with
  | nil => simp [gr] at h
  | cons x l ih =>
    by_cases hx : V x = gr V (x :: l)
    · exact ⟨x, by simp, hx⟩
    · have e : gr V (x :: l) = gr V l := by simp only [gr] at hx ⊢; omega
      rw [e] at h ⊢
      obtain ⟨y, hy, e2⟩ := ih h
      exact ⟨y, by simp [hy], e2⟩
end
/-- A value that can be derived. -/
inductive Der (U : List Un) (S : List Nat) : Nat → Nat → Prop
  | base {f : Nat} (h : f ∈ S) : Der U S f 0
  | step {u : Un} (hu : u ∈ U) (k : Nat → Nat) (h : ∀ n ∈ u.needs, Der U S n (k n)) : Der U S u.makes (gr k u.needs + u.cost)
/-- The values of all facts. -/
structure IsVal (U : List Un) (S : List Nat) (V : Nat → Nat) : Prop where
  s0 : ∀ f ∈ S, V f = 0
  cl : ∀ u ∈ U, gr V u.needs < Inf → V u.makes ≤ gr V u.needs + u.cost
  der : ∀ f, V f < Inf → Der U S f (V f)
  le : ∀ f, V f ≤ Inf
section
variable {U U' : List Un} {S S' : List Nat} {V V' : Nat → Nat} {f k : Nat}
/-- What is derived with greater costs, fewer facts or fewer operators is at least the value. -/
theorem IsVal.below (h : IsVal U S V) (hS : ∀ f ∈ S', f ∈ S) (hU : ∀ u ∈ U', ∃ v ∈ U, v.makes = u.makes ∧ v.cost ≤ u.cost ∧ ∀ n ∈ v.needs, n ∈ u.needs) (d : Der U' S' f k) : V f ≤ k := by
  induction d with
  | base hf => rw [h.s0 _ (hS _ hf)]; exact Nat.le_refl _
  | step hu k hk ih =>
    rename_i u
    obtain ⟨v, hv, e1, e2, e3⟩ := hU u hu
    have h1 : gr V v.needs ≤ gr k u.needs := Nat.le_trans (gr_mono (V' := k) fun n hn => ih n (e3 n hn)) (gr_sub e3)
    rw [← e1]
    rcases Nat.lt_or_ge (gr V v.needs) Inf with h2 | h2
    · have := h.cl v hv h2
      omega
    · have := h.le v.makes
      omega
theorem IsVal.least (h : IsVal U S V) (d : Der U S f k) : V f ≤ k :=
  h.below (fun _ h => h) (fun u hu => ⟨u, hu, rfl, Nat.le_refl _, fun _ h => h⟩) d
/-- Greater costs, fewer operators: no value is lower. -/
theorem IsVal.mono (h : IsVal U S V) (h' : IsVal U' S V') (hU : ∀ u ∈ U', ∃ v ∈ U, v.makes = u.makes ∧ v.cost ≤ u.cost ∧ ∀ n ∈ v.needs, n ∈ u.needs) (f : Nat) : V f ≤ V' f := by
  rcases Nat.lt_or_ge (V' f) Inf with h1 | h1
  · exact h.below (fun _ h => h) hU (h'.der f h1)
  · have := h.le f; omega
theorem Der.mono (hU : ∀ u ∈ U, ∃ v ∈ U', v.makes = u.makes ∧ v.cost = u.cost ∧ ∀ n, n ∈ v.needs ↔ n ∈ u.needs) (d : Der U S f k) : Der U' S f k := by
  induction d with
  | base h => exact .base h
  | step hu k hk ih =>
    rename_i u
    obtain ⟨v, hv, e1, e2, e3⟩ := hU u hu
    rw [← e1, ← e2, ← gr_set e3]
    exact .step hv k fun n hn => ih n ((e3 n).1 hn)
/-- The same up to the order and the repetition of needs and of operators. -/
theorem IsVal.same (h : IsVal U S V) (h1 : ∀ u ∈ U, ∃ v ∈ U', v.makes = u.makes ∧ v.cost = u.cost ∧ ∀ n, n ∈ v.needs ↔ n ∈ u.needs) (h2 : ∀ u ∈ U', ∃ v ∈ U, v.makes = u.makes ∧ v.cost = u.cost ∧ ∀ n, n ∈ v.needs ↔ n ∈ u.needs) : IsVal U' S V := by
  refine ⟨h.s0, fun u hu => ?_, fun f hf => (h.der f hf).mono h1, h.le⟩
  obtain ⟨v, hv, e1, e2, e3⟩ := h2 u hu
  rw [← e1, ← e2, ← gr_set e3]
  exact h.cl v hv
theorem least_ex {p : Nat → Prop} : ∀ (n : Nat), p n → ∃ k, p k ∧ ∀ j, p j → k ≤ j := by
  intro n
  induction n using Nat.strongRecOn with
  | ind n ih =>
    intro h
    rcases Classical.em (∃ j, j < n ∧ p j) with ⟨j, hj, hp⟩ | hno
    · exact ih j hj hp
    · exact ⟨n, h, fun j hj => Nat.le_of_not_lt fun hlt => hno ⟨j, hlt, hj⟩⟩
/-- The least value that can be derived. -/
def Lst (U : List Un) (S : List Nat) (f w : Nat) : Prop := Der U S f w ∧ ∀ j, Der U S f j → w ≤ j
theorem Lst.ex (d : Der U S f k) : ∃ w, Lst U S f w := least_ex k d
theorem lst_window {C : Nat} (hC : ∀ u ∈ U, u.cost ≤ C) (d : Der U S f k) : ∀ w, Lst U S f w → ∀ t, t < w → ∃ g x, Lst U S g x ∧ t < x ∧ x ≤ t + C := by
  induction d with
  | base h =>
    intro w hw t ht
    have := hw.2 0 (.base h)
    omega
  | step hu kk hk ih =>
    rename_i u
    intro w hw t ht
    by_cases hle : w ≤ t + C
    · exact ⟨_, w, hw, ht, hle⟩
    have hex : ∀ n, ∃ x, n ∈ u.needs → Lst U S n x := fun n => by
      by_cases hn : n ∈ u.needs
      · obtain ⟨x, hx⟩ := Lst.ex (hk n hn)
        exact ⟨x, fun _ => hx⟩
      · exact ⟨0, fun h => absurd h hn⟩
    have hw2 := hw.2 _ (.step hu (fun n => Classical.choose (hex n)) fun n hn => (Classical.choose_spec (hex n) hn).1)
    have hc := hC u hu
    obtain ⟨n, hn, e⟩ := gr_attain (V := fun n => Classical.choose (hex n)) (l := u.needs) (by omega)
    exact ih n hn _ (Classical.choose_spec (hex n) hn) t (by omega)
theorem nodup_sub {α : Type} [DecidableEq α] : ∀ (xs ys : List α), xs.Nodup → (∀ x ∈ xs, x ∈ ys) → xs.length ≤ ys.length
  | [], ys, _, _ => by simp
  | x :: xs, ys, hn, hs => by
    rw [List.nodup_cons] at hn
    have hx : x ∈ ys := hs x (by simp)
    have := nodup_sub xs (ys.erase x) hn.2 (fun y hy => by
      have hne : y ≠ x := fun e => hn.1 (e ▸ hy)
      exact (List.mem_erase_of_ne hne).2 (hs y (by simp [hy])))
    rw [List.length_erase_of_mem hx] at this
    have : 0 < ys.length := List.length_pos_of_mem hx
    simp; omega
theorem nodup_le (l : List Nat) (N : Nat) (hn : l.Nodup) (hl : ∀ x ∈ l, x < N) : l.length ≤ N := by
  have := nodup_sub l (List.range N) hn fun x hx => List.mem_range.2 (hl x hx)
  simpa using this
theorem lst_bound {C N : Nat} (hC : ∀ u ∈ U, u.cost ≤ C) (hN : ∀ f k, Der U S f k → f < N) {w : Nat} (hw : Lst U S f w) : w ≤ N * C := by
  apply Nat.le_of_not_lt
  intro hlt
  have hwin : ∀ j, ∃ q : Nat × Nat, j ≤ N → Lst U S q.1 q.2 ∧ j * C < q.2 ∧ q.2 ≤ j * C + C := fun j => by
    by_cases hj : j ≤ N
    · obtain ⟨g, x, h⟩ := lst_window hC hw.1 w hw (j * C) (Nat.lt_of_le_of_lt (Nat.mul_le_mul_right _ hj) hlt)
      exact ⟨(g, x), fun _ => h⟩
    · exact ⟨(0, 0), fun h => absurd h hj⟩
  have hl := nodup_le ((List.range (N + 1)).map fun j => (Classical.choose (hwin j)).1) N ?_ ?_
  · simp at hl
    omega
  · rw [List.nodup_iff_pairwise_ne, List.pairwise_map]
    refine List.Pairwise.imp_of_mem ?_ List.pairwise_lt_range
    intro a b ha hb hab e
    have ha := Classical.choose_spec (hwin a) (by have := List.mem_range.1 ha; omega)
    have hb := Classical.choose_spec (hwin b) (by have := List.mem_range.1 hb; omega)
    rw [e] at ha
    have h1 := ha.1.2 _ hb.1.1
    have h2 := hb.1.2 _ ha.1.1
    have h3 : (a + 1) * C ≤ b * C := Nat.mul_le_mul_right _ hab
    rw [Nat.add_mul, Nat.one_mul] at h3
    omega
  · intro x hx
    obtain ⟨j, hj, rfl⟩ := List.mem_map.1 hx
    exact hN _ _ (Classical.choose_spec (hwin j) (by have := List.mem_range.1 hj; omega)).1.1
theorem IsVal.fin {C N : Nat} (h : IsVal U S V) (hC : ∀ u ∈ U, u.cost ≤ C) (hN : ∀ f k, Der U S f k → f < N) (hs : N * C < Inf) : V f < Inf ↔ ∃ k, Der U S f k := by
  constructor
  · exact fun hf => ⟨_, h.der f hf⟩
  · rintro ⟨k, hk⟩
    obtain ⟨w, hw⟩ := Lst.ex hk
    have := lst_bound hC hN hw
    have := h.least hw.1
    omega
def Rk (U : List Un) (S : List Nat) : Nat → Nat → Prop
  | 0, f => f ∈ S
  | k + 1, f => Rk U S k f ∨ ∃ u ∈ U, u.makes = f ∧ ∀ n ∈ u.needs, Rk U S k n
theorem Rk.up {j : Nat} (h : Rk U S k f) : Rk U S (k + j) f := by
  induction j with
  | zero => exact h
  | succ j ih => exact .inl ih
theorem Rk.le {j : Nat} (h : Rk U S k f) (hj : k ≤ j) : Rk U S j f := by
  obtain ⟨i, rfl⟩ : ∃ i, j = k + i := ⟨j - k, by omega⟩
  exact h.up
theorem Rk.der {C : Nat} (hC : ∀ u ∈ U, u.cost ≤ C) : ∀ {k f : Nat}, Rk U S k f → ∃ j, j ≤ k * C ∧ Der U S f j
  | 0, f, h => ⟨0, by simp, .base h⟩
  | k + 1, f, h => by
    rw [Nat.add_mul, Nat.one_mul]
    rcases h with h | ⟨u, hu, rfl, hn⟩
    · obtain ⟨j, h1, h2⟩ := Rk.der hC h
      exact ⟨j, by omega, h2⟩
    · have hex : ∀ n, ∃ j, n ∈ u.needs → j ≤ k * C ∧ Der U S n j := fun n => by
        by_cases h : n ∈ u.needs
        · obtain ⟨j, h1, h2⟩ := Rk.der hC (hn n h)
          exact ⟨j, fun _ => ⟨h1, h2⟩⟩
        · exact ⟨0, fun h2 => absurd h2 h⟩
      refine ⟨_, ?_, .step hu (fun n => Classical.choose (hex n)) fun n hn => (Classical.choose_spec (hex n) hn).2⟩
      have h1 : gr (fun n => Classical.choose (hex n)) u.needs ≤ k * C := gr_le_iff.2 fun n hn => (Classical.choose_spec (hex n) hn).1
      have := hC u hu
      omega
theorem Der.rk_ex (d : Der U S f k) : ∃ j, Rk U S j f := by
  induction d with
  | base h => exact ⟨0, h⟩
  | step hu kk hk ih =>
    rename_i u
    have hex : ∀ n, ∃ j, n ∈ u.needs → Rk U S j n := fun n => by
      by_cases h : n ∈ u.needs
      · obtain ⟨j, hj⟩ := ih n h
        exact ⟨j, fun _ => hj⟩
      · exact ⟨0, fun h2 => absurd h2 h⟩
    refine ⟨gr (fun n => Classical.choose (hex n)) u.needs + 1, .inr ⟨u, hu, rfl, fun n hn => ?_⟩⟩
    exact (Classical.choose_spec (hex n) hn).le (gr_mem (V := fun n => Classical.choose (hex n)) hn)
/-- The layers of all facts. -/
def IsLev (U : List Un) (S : List Nat) (L : Nat → Int) : Prop := ∀ f, (L f = -1 ∧ ∀ k, ¬ Rk U S k f) ∨ ∃ k : Nat, L f = k ∧ Rk U S k f ∧ ∀ j, j < k → ¬ Rk U S j f
theorem rk_same (h1 : ∀ u ∈ U, ∃ v ∈ U', v.makes = u.makes ∧ ∀ n, n ∈ v.needs ↔ n ∈ u.needs) : ∀ (k f : Nat), Rk U S k f → Rk U' S k f
  | 0, f, h => h
  | k + 1, f, h => by
    rcases h with h | ⟨u, hu, rfl, hn⟩
    · exact .inl (rk_same h1 k f h)
    · obtain ⟨v, hv, e1, e3⟩ := h1 u hu
      exact .inr ⟨v, hv, e1, fun n hn2 => rk_same h1 k n (hn n ((e3 n).1 hn2))⟩
theorem IsLev.same {L : Nat → Int} (h : IsLev U S L) (h1 : ∀ u ∈ U, ∃ v ∈ U', v.makes = u.makes ∧ ∀ n, n ∈ v.needs ↔ n ∈ u.needs) (h2 : ∀ u ∈ U', ∃ v ∈ U, v.makes = u.makes ∧ ∀ n, n ∈ v.needs ↔ n ∈ u.needs) : IsLev U' S L := by
  intro f
  rcases h f with ⟨e, hn⟩ | ⟨k, e, hk, hm⟩
  · exact .inl ⟨e, fun k hk => hn k (rk_same h2 k f hk)⟩
  · exact .inr ⟨k, e, rk_same h1 k f hk, fun j hj hjk => hm j hj (rk_same h2 j f hjk)⟩
/-- A fact has a layer exactly if its value is finite. -/
theorem IsLev.fin {C N : Nat} {L : Nat → Int} (hL : IsLev U S L) (h : IsVal U S V) (hC : ∀ u ∈ U, u.cost ≤ C) (hN : ∀ f k, Der U S f k → f < N) (hs : N * C < Inf) : L f < 0 ↔ Inf ≤ V f := by
  have hf := h.fin (f := f) hC hN hs
  rcases hL f with ⟨e, hn⟩ | ⟨k, e, hk, hm⟩
  · refine ⟨fun _ => Nat.le_of_not_lt fun hlt => ?_, fun _ => by omega⟩
    obtain ⟨j, d⟩ := hf.1 hlt
    obtain ⟨i, hi⟩ := d.rk_ex
    exact hn i hi
  · obtain ⟨j, _, d⟩ := hk.der hC
    have := hf.2 ⟨_, d⟩
    exact ⟨fun _ => by omega, fun _ => by omega⟩
/-- Along a step from S to S' of cost c no value falls by more than c. -/
theorem IsVal.step {c : Nat} {V' : Nat → Nat} (h : IsVal U S V) (h' : IsVal U S' V') (hs : ∀ f ∈ S', V f ≤ c) (f : Nat) : V f ≤ V' f + c := by
  have key : ∀ f k, Der U S' f k → V f ≤ k + c := by
    intro f k d
    induction d with
    | base hf => have := hs _ hf; omega
    | step hu kk hk ih =>
      rename_i u
      have h1 : gr V u.needs ≤ gr kk u.needs + c := gr_le_iff.2 fun n hn => by
        have := ih n hn
        have := gr_mem (V := kk) hn
        omega
      rcases Nat.lt_or_ge (gr V u.needs) Inf with h2 | h2
      · have := h.cl u hu h2
        omega
      · have := h.le u.makes
        omega
  rcases Nat.lt_or_ge (V' f) Inf with h1 | h1
  · exact key f _ (h'.der f h1)
  · have := h.le f; omega
end
end Go.Rx
end
section
set_option linter.unusedVariables false
set_option linter.unusedSimpArgs false
namespace Go.Rx
/-- An entry: a value and a fact. -/
abbrev En := Nat × Nat
def bef (a b : En) : Bool := decide (a.1 < b.1)
theorem nbef_trans {a b c : En} (h : bef b a = false) (k : bef c b = false) : bef c a = false := by
  simp only [bef, decide_eq_false_iff_not] at *; omega
theorem bef_asym {a b : En} (h : bef a b = true) : bef b a = false := by
  simp only [bef, decide_eq_false_iff_not, decide_eq_true_eq] at *; omega
def gt (l : List En) (i : Nat) : En := l.getD i default
def swp (l : List En) (i p : Nat) : List En := (l.set i (gt l p)).set p (gt l i)
@[simp] theorem swp_len (l : List En) (i p : Nat) : (swp l i p).length = l.length := by simp [swp]
def upL (l : List En) (i : Nat) : List En :=
  if h : i = 0 then l else if bef (gt l i) (gt l ((i - 1) / 2)) then upL (swp l i ((i - 1) / 2)) ((i - 1) / 2) else l
termination_by i
decreasing_by omega
theorem gt_lt {l : List En} {i : Nat} (h : i < l.length) : gt l i = l[i] := by simp [gt, h]
theorem gt_set {l : List En} {i j : Nat} {x : En} (hj : j < l.length) : gt (l.set i x) j = if i = j then x else gt l j := by
  rw [gt_lt (by simpa using hj), gt_lt hj, List.getElem_set]
theorem gt_swp {l : List En} {i p j : Nat} (hi : i < l.length) (hp : p < l.length) (hj : j < l.length) : gt (swp l i p) j = if j = p then gt l i else if j = i then gt l p else gt l j := by
  unfold swp
  rw [gt_set (by simpa using hj), gt_set hj]
  by_cases h1 : p = j
  · subst h1; simp
  · by_cases h2 : i = j
    · subst h2; simp [h1, Ne.symm h1]
    · simp [h1, h2, Ne.symm h1, Ne.symm h2]
theorem swp_perm {l : List En} {i p : Nat} (hi : i < l.length) (hp : p < l.length) : (swp l i p).Perm l := by
  have h : swp l i p = (l.toArray.swap i p (by simpa using hi) (by simpa using hp)).toList := by
    simp [swp, Array.swap_def, gt_lt hi, gt_lt hp]
  rw [h]
  exact (Array.swap_perm (by simpa using hi) (by simpa using hp)).toList

/-- No child comes before its parent, for the parents from s on. -/
def HeapFrom (s : Nat) (l : List En) : Prop := ∀ j, 0 < j → j < l.length → s ≤ (j - 1) / 2 → bef (gt l j) (gt l ((j - 1) / 2)) = false

theorem upL_ok : ∀ (i : Nat) (l : List En), i < l.length →
    (∀ j, 0 < j → j < l.length → j ≠ i → bef (gt l j) (gt l ((j - 1) / 2)) = false) →
    (∀ j, 0 < j → j < l.length → (j - 1) / 2 = i → 0 < i → bef (gt l j) (gt l ((i - 1) / 2)) = false) →
    HeapFrom 0 (upL l i) ∧ (upL l i).Perm l := by
  intro i
  induction i using Nat.strongRecOn with
  | _ i ih =>
    intro l hi h1 h2
    rw [upL]
    by_cases h0 : i = 0
    · rw [dif_pos h0]
      refine ⟨fun j hj hjl _ => h1 j hj hjl (by omega), List.Perm.refl _⟩
    · rw [dif_neg h0]
      cases hb : bef (gt l i) (gt l ((i - 1) / 2)) with
      | false =>
        simp only [Bool.false_eq_true, if_false]
        refine ⟨fun j hj hjl _ => ?_, List.Perm.refl _⟩
        by_cases hji : j = i
        · subst hji; exact hb
        · exact h1 j hj hjl hji
      | true =>
        simp only [if_true]
        obtain ⟨p, hp⟩ : ∃ p, p = (i - 1) / 2 := ⟨_, rfl⟩
        rw [← hp] at hb h2 ⊢
        have hpl : p < l.length := by omega
        have hpi : p < i := by omega
        obtain ⟨r1, r2⟩ := ih p hpi (swp l i p) (by simpa using hpl)
          (fun j hj hjl hjp => by
            have hjl' : j < l.length := by simpa using hjl
            have hq : (j - 1) / 2 < l.length := by omega
            rw [gt_swp hi hpl hjl', gt_swp hi hpl hq, if_neg hjp]
            by_cases hji : j = i
            · subst hji
              rw [if_pos rfl, ← hp, if_pos rfl]
              exact bef_asym hb
            · rw [if_neg hji]
              by_cases hqp : (j - 1) / 2 = p
              · rw [if_pos hqp]
                have := h1 j hj hjl' hji
                rw [hqp] at this
                exact nbef_trans (bef_asym hb) this
              · rw [if_neg hqp]
                by_cases hqi : (j - 1) / 2 = i
                · rw [if_pos hqi]
                  exact h2 j hj hjl' hqi (by omega)
                · rw [if_neg hqi]
                  exact h1 j hj hjl' hji)
          (fun j hj hjl hjp hp0 => by
            have hjl' : j < l.length := by simpa using hjl
            have hq : (p - 1) / 2 < l.length := by omega
            rw [gt_swp hi hpl hjl', gt_swp hi hpl hq, if_neg (by omega), if_neg (show ¬ (p - 1) / 2 = p by omega), if_neg (show ¬ (p - 1) / 2 = i by omega)]
            have hpp := h1 p hp0 hpl (by omega)
            by_cases hji : j = i
            · rw [if_pos hji]; exact hpp
            · rw [if_neg hji]
              have := h1 j hj hjl' hji
              rw [hjp] at this
              exact nbef_trans hpp this)
        exact ⟨r1, r2.trans (swp_perm hi hpl)⟩

structure Hp (l s : List En) : Prop where
  perm : l.Perm s
  heap : HeapFrom 0 l
theorem Hp.nil : Hp [] [] := ⟨List.Perm.refl _, fun j hj hjl => by simp at hjl⟩
theorem Hp.push {l s : List En} (h : Hp l s) (e : En) : Hp (upL (l ++ [e]) l.length) (e :: s) := by
  have hg : ∀ j, j < l.length → gt (l ++ [e]) j = gt l j := fun j hj => by
    rw [gt_lt (by simp; omega), gt_lt hj, List.getElem_append_left hj]
  obtain ⟨r1, r2⟩ := upL_ok l.length (l ++ [e]) (by simp)
    (fun j hj hjl hne => by
      have : j < l.length := by simp at hjl; omega
      rw [hg j this, hg _ (by omega)]
      exact h.heap j hj this (Nat.zero_le _))
    (fun j hj hjl hp => by simp at hjl; omega)
  exact ⟨r2.trans ((List.perm_append_singleton _ _).trans (h.perm.cons _)), r1⟩
end Go.Rx
end
section
set_option linter.unusedVariables false
set_option linter.unusedSimpArgs false
namespace Go.Rx
def updN {α : Type} (V : Nat → α) (i : Nat) (x : α) : Nat → α := fun j => if j = i then x else V j
@[simp] theorem updN_same {α : Type} {V : Nat → α} {i : Nat} {x : α} : updN V i x i = x := by simp [updN]
theorem updN_ne {α : Type} {V : Nat → α} {i j : Nat} {x : α} (h : j ≠ i) : updN V i x j = V j := by simp [updN, h]
/-- The unary operators that are not left out. -/
def allow (ok : Nat → Bool) (U : List Un) : List Un := U.filter fun u => ok u.op
theorem allow_mem {ok : Nat → Bool} {U : List Un} {u : Un} : u ∈ allow ok U ↔ u ∈ U ∧ ok u.op = true := by simp [allow]
/-- The state of the search; pend are the unary operators that are still to be looked at. -/
structure Dj (U : List Un) (ok : Nat → Bool) (S S0 : List Nat) (out : Nat → Nat) (s : List En) (done : Nat → Bool) (cur : Nat) (pend : List Nat) : Prop where
  s0 : ∀ f ∈ S0, out f = 0
  der : ∀ f, out f < Inf → Der (allow ok U) S f (out f)
  le : ∀ f, out f ≤ Inf
  ent : ∀ e ∈ s, out e.2 ≤ e.1 ∧ e.1 < Inf
  wait : ∀ f, out f < Inf → done f = false → (out f, f) ∈ s
  dn : ∀ f, done f = true → out f ≤ cur
  nd : ∀ e ∈ s, cur ≤ e.1
  cu : cur < Inf
  fired : ∀ i u, U[i]? = some u → ok u.op = true → (∀ n ∈ u.needs, done n = true) → i ∉ pend → out u.makes ≤ gr out u.needs + u.cost
section
variable {U : List Un} {ok : Nat → Bool} {S S0 : List Nat} {out : Nat → Nat} {s s' : List En} {done : Nat → Bool} {cur : Nat} {pend : List Nat}
theorem Dj.init (hp : ∀ i u, U[i]? = some u → u.needs = [] → i ∈ pend) : Dj U ok S [] (fun _ => Inf) [] (fun _ => false) 0 pend := {
  s0 := by simp
  der := fun f hf => by simp at hf
  le := fun _ => Nat.le_refl _
  ent := by simp
  wait := fun f hf => by simp at hf
  dn := by simp
  nd := by simp
  cu := by decide
  fired := fun i u hi _ hn hnp => by
    cases hu : u.needs with
    | nil => exact absurd (hp i u hi hu) hnp
    | cons x l => have := hn x (by simp [hu]); cases this }
theorem Dj.start (h : Dj U ok S S0 out s done cur pend) {f : Nat} (hf : out f = 0) : Dj U ok S (S0 ++ [f]) out s done cur pend := by
  refine ⟨fun g hg => ?_, h.der, h.le, h.ent, h.wait, h.dn, h.nd, h.cu, h.fired⟩
  rcases List.mem_append.1 hg with h1 | h1
  · exact h.s0 g h1
  · simp at h1; subst h1; exact hf
/-- An operator has been looked at. -/
theorem Dj.look {i : Nat} (h : Dj U ok S S0 out s done cur (i :: pend)) (hi : ∀ u, U[i]? = some u → ok u.op = true → (∀ n ∈ u.needs, done n = true) → out u.makes ≤ gr out u.needs + u.cost) : Dj U ok S S0 out s done cur pend := by
  refine ⟨h.s0, h.der, h.le, h.ent, h.wait, h.dn, h.nd, h.cu, fun j u hj hok hn hnp => ?_⟩
  by_cases e : j = i
  · subst e; exact hi u hj hok hn
  · exact h.fired j u hj hok hn (by simp [e, hnp])
/-- An entry of a fact that is done. -/
theorem Dj.skip (h : Dj U ok S S0 out s done cur pend) {x : En} (hd : done x.2 = true) : Dj U ok S S0 out (s.erase x) done cur pend := by
  refine ⟨h.s0, h.der, h.le, fun e he => h.ent e (List.mem_of_mem_erase he), fun f hf hdf => ?_, h.dn, fun e he => h.nd e (List.mem_of_mem_erase he), h.cu, h.fired⟩
  refine (List.mem_erase_of_ne fun e => ?_).2 (h.wait f hf hdf)
  rw [← e] at hd
  rw [hd] at hdf; cases hdf
/-- At the end. -/
theorem Dj.fin (h : Dj U ok S S out [] done cur []) : IsVal (allow ok U) S out := by
  refine ⟨h.s0, fun u hu hg => ?_, h.der, h.le⟩
  obtain ⟨hu1, hok⟩ := allow_mem.1 hu
  obtain ⟨i, hi, rfl⟩ := List.getElem_of_mem hu1
  refine h.fired i _ (List.getElem?_eq_getElem hi) hok (fun n hn => ?_) (by simp)
  have := (gr_lt_iff (by decide)).1 hg n hn
  cases hd : done n with
  | true => rfl
  | false => have := h.wait n this hd; cases this
def opens (done : Nat → Bool) (l : List Nat) : Nat := l.countP fun n => !done n
theorem opens_zero {l : List Nat} : opens done l = 0 ↔ ∀ n ∈ l, done n = true := by
  unfold opens
  rw [List.countP_eq_zero]
  simp
theorem opens_none {l : List Nat} : opens (fun _ => false) l = l.length := by simp [opens]
end
end Go.Rx
end
section
set_option linter.unusedVariables false
set_option linter.unusedSimpArgs false
namespace Go.Rx
open Go.Tk Go.W Go
def psum (vars : List Nat) (v : Nat) : Nat := (vars.take v).sum
theorem psum_succ {vars : List Nat} {v n : Nat} (h : vars[v]? = some n) : psum vars (v + 1) = psum vars v + n := by
  unfold psum
  rw [List.take_add_one, h, List.sum_append]
  simp
theorem psum_all (vars : List Nat) : psum vars vars.length = vars.sum := by simp [psum]
theorem psum_mono {vars : List Nat} {v w : Nat} (h : v ≤ w) : psum vars v ≤ psum vars w := by
  obtain ⟨d, rfl⟩ : ∃ d, w = v + d := ⟨w - v, by omega⟩
  induction d with
  | zero => exact Nat.le_refl _
  | succ d ih =>
    have h1 := ih (by omega)
    refine Nat.le_trans h1 ?_
    rw [show v + (d + 1) = (v + d) + 1 by omega]
    cases hv : vars[v + d]? with
    | none =>
      have := List.getElem?_eq_none_iff.1 hv
      unfold psum
      rw [List.take_of_length_le this, List.take_of_length_le (by omega)]
      exact Nat.le_refl _
    | some n => rw [psum_succ hv]; omega
theorem psum_le {vars : List Nat} (v : Nat) : psum vars v ≤ vars.sum := by
  rcases Nat.le_total v vars.length with h | h
  · rw [← psum_all]; exact psum_mono h
  · unfold psum; rw [List.take_of_length_le h]; exact Nat.le_refl _
def numF (vars : List Nat) (f : Fc) : Nat := psum vars f.1 + f.2
theorem numF_lt {vars : List Nat} {f : Fc} (h1 : f.1 < vars.length) (h2 : f.2 < vars.getD f.1 0) : numF vars f < vars.sum := by
  obtain ⟨n, hn⟩ : ∃ n, vars[f.1]? = some n := ⟨_, List.getElem?_eq_getElem h1⟩
  have e : vars.getD f.1 0 = n := by simp [List.getD, hn]
  have h3 := psum_succ hn
  have h4 := psum_le (vars := vars) (f.1 + 1)
  unfold numF
  omega
theorem sum_le {vars : List Nat} {N : Nat} (h : ∀ n ∈ vars, n ≤ N) : vars.sum ≤ vars.length * N := by
  induction vars with
  | nil => simp
  | cons x l ih =>
    have := ih fun n hn => h n (by simp [hn])
    have := h x (by simp)
    rw [List.sum_cons, List.length_cons, Nat.add_mul]
    omega
def ndd (acc : List Nat) (n : Nat) : List Nat := if n ∈ acc then acc else acc ++ [n]
def dedup (l : List Nat) : List Nat := l.foldl ndd []
theorem ndd_mem {acc : List Nat} {n x : Nat} : x ∈ ndd acc n ↔ x ∈ acc ∨ x = n := by
  unfold ndd
  split
  · rename_i h
    exact ⟨.inl, fun h1 => h1.elim id (fun e => e ▸ h)⟩
  · simp
theorem ndd_nodup {acc : List Nat} {n : Nat} (h : acc.Nodup) : (ndd acc n).Nodup := by
  unfold ndd
  split
  · exact h
  · rename_i hn
    rw [List.nodup_append]
    refine ⟨h, by simp, fun a ha b hb => ?_⟩
    simp at hb; subst hb
    intro e; exact hn (e ▸ ha)
theorem fold_mem : ∀ (l acc : List Nat) (x : Nat), x ∈ l.foldl ndd acc ↔ x ∈ acc ∨ x ∈ l
  | [], acc, x => by simp
  | n :: l, acc, x => by rw [List.foldl_cons, fold_mem l, ndd_mem]; simp [or_assoc]
theorem fold_nodup : ∀ (l acc : List Nat), acc.Nodup → (l.foldl ndd acc).Nodup
  | [], acc, h => h
  | n :: l, acc, h => fold_nodup l _ (ndd_nodup h)
theorem dedup_mem {l : List Nat} {x : Nat} : x ∈ dedup l ↔ x ∈ l := by unfold dedup; rw [fold_mem]; simp
theorem dedup_nodup (l : List Nat) : (dedup l).Nodup := fold_nodup l [] (by simp)
def unA (vars : List Nat) (o : No) (i c k : Nat) : Un := match o.effs[k]? with
  | some e => ⟨i, k, c, numF vars (e.v, e.x), dedup ((o.pre ++ e.cnd).map (numF vars))⟩
  | none => ⟨0, 0, 0, 0, []⟩
def opU (vars : List Nat) (o : No) (i c k : Nat) : List Un := (List.range k).map (unA vars o i c)
def unsK (t : Nt) (cost : Nat → Nat) (n : Nat) : List Un := (List.range n).flatMap fun i => match t.ops[i]? with
  | some o => opU t.vars o i (cost i) o.effs.length
  | none => []
def uns (t : Nt) (cost : Nat → Nat) : List Un := unsK t cost t.ops.length
theorem unsK_succ {t : Nt} {cost : Nat → Nat} {n : Nat} {o : No} (h : t.ops[n]? = some o) : unsK t cost (n + 1) = unsK t cost n ++ opU t.vars o n (cost n) o.effs.length := by
  unfold unsK; rw [List.range_succ, List.flatMap_append]; simp [h]
theorem opU_len (vars : List Nat) (o : No) (i c k : Nat) : (opU vars o i c k).length = k := by simp [opU]
/-- The unary operators that need a fact; those that need nothing. -/
def nbF (U : List Un) (f : Nat) : List Nat := (List.range U.length).filter fun i => match U[i]? with | some u => decide (f ∈ u.needs) | none => false
def frF (U : List Un) : List Nat := (List.range U.length).filter fun i => match U[i]? with | some u => decide (u.needs = []) | none => false
theorem nbF_mem {U : List Un} {f i : Nat} : i ∈ nbF U f ↔ ∃ u, U[i]? = some u ∧ f ∈ u.needs := by
  unfold nbF
  rw [List.mem_filter, List.mem_range]
  constructor
  · rintro ⟨h1, h2⟩
    rw [List.getElem?_eq_getElem h1] at h2
    exact ⟨_, List.getElem?_eq_getElem h1, of_decide_eq_true h2⟩
  · rintro ⟨u, hu, h⟩
    exact ⟨(List.getElem?_eq_some_iff.1 hu).1, by rw [hu]; exact decide_eq_true h⟩
theorem frF_mem {U : List Un} {i : Nat} : i ∈ frF U ↔ ∃ u, U[i]? = some u ∧ u.needs = [] := by
  unfold frF
  rw [List.mem_filter, List.mem_range]
  constructor
  · rintro ⟨h1, h2⟩
    rw [List.getElem?_eq_getElem h1] at h2
    exact ⟨_, List.getElem?_eq_getElem h1, of_decide_eq_true h2⟩
  · rintro ⟨u, hu, h⟩
    exact ⟨(List.getElem?_eq_some_iff.1 hu).1, by rw [hu]; exact decide_eq_true h⟩
end Go.Rx
end
section
set_option linter.unusedVariables false
set_option linter.unusedSimpArgs false
set_option linter.unusedSectionVars false
namespace Go.W
open Go
section
variable {α : Type} {enc : α → List Value} {E sz : Nat} {B X Y : Asr} {w w1 : World} {F : List Nat}
def RowsA (E sz : Nat) (enc : α → List Value) : List (Cell1 × List α) → Asr → Asr
  | [], B => B
  | p :: ps, B => Star (OwnA p.1.1 E sz enc p.2) (RowsA E sz enc ps B)
theorem Lcl.rows (hB : Lcl B) : ∀ (ps : List (Cell1 × List α)), Lcl (RowsA E sz enc ps B)
  | [] => hB
  | p :: ps => Lcl.own.star (Lcl.rows hB ps)
/-- A row comes to the front. -/
theorem RowsA.out : ∀ (ps : List (Cell1 × List α)) (i : Nat) (p : Cell1 × List α), ps[i]? = some p → Imp (RowsA E sz enc ps B) (Star (OwnA p.1.1 E sz enc p.2) (RowsA E sz enc (ps.eraseIdx i) B))
  | [], i, p, h => by simp at h
  | q :: ps, 0, p, h => by
    simp at h; subst h
    exact Imp.rfl
  | q :: ps, i + 1, p, h => by
    simp only [List.eraseIdx_cons_succ, RowsA]
    exact (Imp.un (RowsA.out ps i p (by simpa using h))).trans Imp.sw
/-- It goes back. -/
theorem RowsA.back : ∀ (ps : List (Cell1 × List α)) (i : Nat) (p : Cell1 × List α), i < ps.length → Imp (Star (OwnA p.1.1 E sz enc p.2) (RowsA E sz enc (ps.eraseIdx i) B)) (RowsA E sz enc (ps.set i p) B)
  | [], i, p, h => by simp at h
  | q :: ps, 0, p, h => Imp.rfl
  | q :: ps, i + 1, p, h => by
    simp only [List.eraseIdx_cons_succ, RowsA, List.set_cons_succ]
    exact Imp.sw.trans (Imp.un (RowsA.back ps i p (by simpa using h)))
theorem RowsA.imp (h : Imp X Y) : ∀ (ps : List (Cell1 × List α)), Imp (RowsA E sz enc ps X) (RowsA E sz enc ps Y)
  | [] => h
  | p :: ps => Imp.un (RowsA.imp h ps)
/-- What lies behind the rows comes before them. -/
theorem RowsA.up : ∀ (ps : List (Cell1 × List α)), Imp (RowsA E sz enc ps (Star X Y)) (Star X (RowsA E sz enc ps Y))
  | [] => Imp.rfl
  | p :: ps => (Imp.un (RowsA.up ps)).trans Imp.sw
theorem RowsA.drop : ∀ (ps : List (Cell1 × List α)), Imp (RowsA E sz enc ps X) X
  | [] => Imp.rfl
  | p :: ps => Imp.dr.trans (RowsA.drop ps)
end
section
variable {α : Type} {enc : α → List Value} {E E2 : Nat} {B : Asr} {w w1 : World} {F : List Nat} {v : Value} {ps : List (Cell1 × List α)}
def Tb2 (v : Value) (E2 E : Nat) (enc : α → List Value) (ps : List (Cell1 × List α)) (B : Asr) : Asr := Star (OwnA v E2 1 sv1 ps) (RowsA E 1 enc ps B)
theorem Own.same {β γ : Type} {encb : β → List Value} {encc : γ → List Value} {l : List β} {l' : List γ} {sz : Nat} (h : Own w v E sz encb l) (e : l.flatMap encb = l'.flatMap encc) (hl : l.length = l'.length) : Own w v E sz encc l' := by
  unfold Own at *
  rw [← e, ← hl]
  rcases h with ⟨h1, h2⟩ | h
  · left
    subst h2
    refine ⟨h1, ?_⟩
    simp at hl
    exact List.eq_nil_of_length_eq_zero hl.symm
  · exact .inr h
theorem OwnA.same {β γ : Type} {encb : β → List Value} {encc : γ → List Value} {l : List β} {l' : List γ} {sz : Nat} {X : Asr} (e : l.flatMap encb = l'.flatMap encc) (hl : l.length = l'.length) : Imp (Star (OwnA v E sz encb l) X) (Star (OwnA v E sz encc l') X) := by
  rintro w F ⟨Fa, Fb, ⟨h1, h2⟩, h3, hd, rfl⟩
  exact ⟨_, ⟨Fa, Fb, ⟨h1.same e hl, h2⟩, h3, hd, rfl⟩, fun x hx => hx⟩
theorem sv1_set (ps : List (Cell1 × List α)) {i : Nat} {p : Cell1 × List α} (hi : ps[i]? = some p) (l : List α) : ps.flatMap sv1 = (ps.set i (p.1, l)).flatMap sv1 := by
  induction ps generalizing i with
  | nil => rfl
  | cons q ps ih =>
    cases i with
    | zero => simp at hi; subst hi; rfl
    | succ i => simp only [List.set_cons_succ, List.flatMap_cons]; rw [ih (by simpa using hi)]
theorem Tb2.own (h : At w F (Tb2 v E2 E enc ps B) w1) : Own w1 v E2 1 sv1 ps := At.own h
theorem Tb2.rowI {i : Nat} {p : Cell1 × List α} (hi : ps[i]? = some p) : Imp (Tb2 v E2 E enc ps B) (Star (OwnA p.1.1 E 1 enc p.2) (Star (OwnA v E2 1 sv1 ps) (RowsA E 1 enc (ps.eraseIdx i) B))) := (Imp.un (RowsA.out ps i p hi)).trans Imp.sw
theorem Tb2.row {i : Nat} {p : Cell1 × List α} (h : At w F (Tb2 v E2 E enc ps B) w1) (hi : ps[i]? = some p) : Own w1 p.1.1 E 1 enc p.2 := (h.by (Tb2.rowI hi)).own
theorem Tb2.drop : Imp (Tb2 v E2 E enc ps B) B := Imp.dr.trans (RowsA.drop ps)
/-- A row with new contents goes back. -/
theorem Tb2.rowB {i : Nat} {p : Cell1 × List α} {l : List α} (hi : ps[i]? = some p) : Imp (Star (OwnA p.1.1 E 1 enc l) (Star (OwnA v E2 1 sv1 ps) (RowsA E 1 enc (ps.eraseIdx i) B))) (Tb2 v E2 E enc (ps.set i (p.1, l)) B) := by
  have hlt : i < ps.length := (List.getElem?_eq_some_iff.1 hi).1
  exact Imp.sw.trans ((Imp.un (RowsA.back ps i (p.1, l) hlt)).trans (OwnA.same (sv1_set ps hi l) (by simp)))
/-- A cell of a table is written. -/
theorem Tb2.store {KW : Kont World} {i k : Nat} {p : Cell1 × List α} {x : α} {cs : List Value} (hB : Lcl B) (h : At w F (Tb2 v E2 E enc ps B) w1) (hi : ps[i]? = some p) (he : ∀ x, (enc x).length = 1) (h1 : ∀ x, (enc x).all oneC = true) (hk : k < p.2.length) (hcs : cs = enc x)
    (H : ∀ w2, At w F (Tb2 v E2 E enc (ps.set i (p.1, p.2.set k x)) B) w2 → KW.run w2) : @stJ w1 ⟨p.1.1.blk, k, none⟩ cs KW :=
  (h.by (Tb2.rowI hi)).store1 (Lcl.own.star (Lcl.rows hB _)) he h1 hk hcs fun w2 h2 => H w2 (h2.by (Tb2.rowB hi))
/-- A row is replaced by another one. -/
theorem Tb2.put {KW : Kont World} {i : Nat} {p q : Cell1 × List α} {cs : List Value} (hB : Lcl B) (h : At w F (Star (OwnA q.1.1 E 1 enc q.2) (Star (OwnA v E2 1 sv1 ps) (RowsA E 1 enc (ps.eraseIdx i) B))) w1) (hi : ps[i]? = some p) (hcs : cs = [q.1.1])
    (H : ∀ w2, At w F (Tb2 v E2 E enc (ps.set i q) B) w2 → KW.run w2) : @stJ w1 ⟨v.blk, i, none⟩ cs KW := by
  have hlt : i < ps.length := (List.getElem?_eq_some_iff.1 hi).1
  exact (h.by Imp.sw).store1 (Lcl.own.star (Lcl.rows hB _)) sv1_len sv1_one hlt (x := q) hcs fun w2 h2 => H w2 (h2.by (Imp.un (RowsA.back ps i q hlt)))
end
end Go.W
namespace Go.W
open Go
section
variable {α : Type} {enc : α → List Value} {E E2 : Nat} {B X : Asr} {w w1 : World} {F : List Nat} {v : Value} {ps : List (Cell1 × List α)}
/-- A table as one assertion. -/
def TabA (v : Value) (E2 E : Nat) (enc : α → List Value) (ps : List (Cell1 × List α)) : Asr := Tb2 v E2 E enc ps Emp
theorem Imp.as {A B C : Asr} : Imp (Star (Star A B) C) (Star A (Star B C)) := fun w F h => Star.assoc h
theorem Imp.as' {A B C : Asr} : Imp (Star A (Star B C)) (Star (Star A B) C) := fun w F h => Star.assoc' h
theorem Imp.left {A B C : Asr} (h : Imp A B) : Imp (Star A C) (Star B C) := by
  rintro w F ⟨Fa, Fb, h1, h2, hd, rfl⟩
  obtain ⟨F', h3, h4⟩ := h w Fa h1
  exact ⟨_, ⟨F', Fb, h3, h2, fun x hx => hd x (h4 x hx), Eq.refl _⟩, fun x hx => by
    rcases List.mem_append.1 hx with h5 | h5
    · exact List.mem_append.2 (.inl (h4 x h5))
    · exact List.mem_append.2 (.inr h5)⟩
theorem Imp.em {X : Asr} : Imp X (Star Emp X) := fun w F h => ⟨[] ++ F, ⟨[], F, Eq.refl _, h, by simp, Eq.refl _⟩, fun x hx => by simpa using hx⟩
theorem RowsA.opn : ∀ (ps : List (Cell1 × List α)), Imp (Star (RowsA E 1 enc ps Emp) X) (RowsA E 1 enc ps X)
  | [] => Imp.dr
  | p :: ps => Imp.as.trans (Imp.un (RowsA.opn ps))
theorem RowsA.cls : ∀ (ps : List (Cell1 × List α)), Imp (RowsA E 1 enc ps X) (Star (RowsA E 1 enc ps Emp) X)
  | [] => Imp.em
  | p :: ps => (Imp.un (RowsA.cls ps)).trans Imp.as'
theorem TabA.opn : Imp (Star (TabA v E2 E enc ps) X) (Tb2 v E2 E enc ps X) := Imp.as.trans (Imp.un (RowsA.opn ps))
theorem TabA.cls : Imp (Tb2 v E2 E enc ps X) (Star (TabA v E2 E enc ps) X) := (Imp.un (RowsA.cls ps)).trans Imp.as'
theorem TabA.row {i : Nat} {p : Cell1 × List α} (h : At w F (Star (TabA v E2 E enc ps) B) w1) (hi : ps[i]? = some p) : Own w1 p.1.1 E 1 enc p.2 := Tb2.row (h.by TabA.opn) hi
theorem TabA.own (h : At w F (Star (TabA v E2 E enc ps) B) w1) : Own w1 v E2 1 sv1 ps := Tb2.own (h.by TabA.opn)
theorem TabA.store {KW : Kont World} {i k : Nat} {p : Cell1 × List α} {x : α} {cs : List Value} (hB : Lcl B) (h : At w F (Star (TabA v E2 E enc ps) B) w1) (hi : ps[i]? = some p) (he : ∀ x, (enc x).length = 1) (h1 : ∀ x, (enc x).all oneC = true) (hk : k < p.2.length) (hcs : cs = enc x)
    (H : ∀ w2, At w F (Star (TabA v E2 E enc (ps.set i (p.1, p.2.set k x))) B) w2 → KW.run w2) : @stJ w1 ⟨p.1.1.blk, k, none⟩ cs KW :=
  Tb2.store hB (h.by TabA.opn) hi he h1 hk hcs fun w2 h2 => H w2 (h2.by TabA.cls)
/-- Something is appended to a row; it is still to be put back. -/
theorem TabA.append {P : Program} {KV : Kont (Value × World)} {T ty by_ : Nat} {z : List Value} {i : Nat} {p : Cell1 × List α} (hB : Lcl B) (h : At w F (Star (TabA v E2 E enc ps) B) w1) (hi : ps[i]? = some p) (he : ∀ x, (enc x).length = 1) (h1 : ∀ x, (enc x).all oneC = true)
    (hT : slInfo P T = some (E, 1, by_, z)) {a : Addr} {m c : Nat} {xs : List α} (hm : xs.length = m) (hx : ∀ j u, (xs.flatMap enc)[j]? = some u → w1.cell? (a.add j) = some u)
    (hb : (p.2.length + m) * by_ ≤ 140737488355328) (hmax : p.2.length + m ≤ maxLen)
    (H : ∀ v' w2, At w F (Star (OwnA v' E 1 enc (p.2 ++ xs)) (Star (OwnA v E2 1 sv1 ps) (RowsA E 1 enc (ps.eraseIdx i) B))) w2 → KV.run (v', w2)) :
    @efH P (Builtin.append_ #[T, T] ty [p.1.1, .slice (some a) m c].toArray) w1 KV :=
  At.append (Lcl.own.star (Lcl.rows hB _)) ((h.by TabA.opn).by (Tb2.rowI hi)) he h1 hT hm hx hb hmax H
theorem TabA.put {KW : Kont World} {i : Nat} {p : Cell1 × List α} {u : Value} {l : List α} {cs : List Value} (hB : Lcl B) (h : At w F (Star (OwnA u E 1 enc l) (Star (OwnA v E2 1 sv1 ps) (RowsA E 1 enc (ps.eraseIdx i) B))) w1) (hi : ps[i]? = some p) (hcs : cs = [u])
    (H : ∀ (ho : oneC u = true) w2, At w F (Star (TabA v E2 E enc (ps.set i (⟨u, ho⟩, l))) B) w2 → KW.run w2) : @stJ w1 ⟨v.blk, i, none⟩ cs KW :=
  Tb2.put (q := (⟨u, h.own.o1⟩, l)) hB h hi hcs fun w2 h2 => H h.own.o1 w2 (h2.by TabA.cls)
end
end Go.W
namespace Go.W
open Go
theorem Imp.ow {α : Type} {v : Value} {E sz : Nat} {enc : α → List Value} {l : List α} {X : Asr} : Imp (Star (OwnA v E sz enc l) X) (Star (VwA v enc l) X) := by
  rintro w F ⟨Fa, Fb, ⟨h1, e1⟩, h2, hd, e⟩
  subst e e1
  refine ⟨_, ⟨v.own, Fb, ⟨h1.vw, Eq.refl _, fun x hx => ?_⟩, h2, hd, Eq.refl _⟩, fun x hx => hx⟩
  rcases h1 with ⟨rfl, _⟩ | ⟨g, cap, cur, junk, rfl, hh, _⟩
  · cases hx
  · simp at hx; subst hx; exact lt_of_blk hh
end Go.W
namespace Go.W
variable {X : Asr}
theorem Imp.fr2 {A1 A2 : Asr} : Imp (Star A1 (Star A2 X)) (Star A2 (Star A1 X)) := Imp.sw
theorem Imp.bk2 {A1 A2 : Asr} : Imp (Star A1 (Star A2 X)) (Star A2 (Star A1 X)) := Imp.sw
theorem Imp.fr3 {A1 A2 A3 : Asr} : Imp (Star A1 (Star A2 (Star A3 X))) (Star A3 (Star A1 (Star A2 X))) := (Imp.un Imp.fr2).trans Imp.sw
theorem Imp.bk3 {A1 A2 A3 : Asr} : Imp (Star A1 (Star A2 (Star A3 X))) (Star A2 (Star A3 (Star A1 X))) := Imp.sw.trans (Imp.un Imp.bk2)
theorem Imp.fr4 {A1 A2 A3 A4 : Asr} : Imp (Star A1 (Star A2 (Star A3 (Star A4 X)))) (Star A4 (Star A1 (Star A2 (Star A3 X)))) := (Imp.un Imp.fr3).trans Imp.sw
theorem Imp.bk4 {A1 A2 A3 A4 : Asr} : Imp (Star A1 (Star A2 (Star A3 (Star A4 X)))) (Star A2 (Star A3 (Star A4 (Star A1 X)))) := Imp.sw.trans (Imp.un Imp.bk3)
theorem Imp.fr5 {A1 A2 A3 A4 A5 : Asr} : Imp (Star A1 (Star A2 (Star A3 (Star A4 (Star A5 X))))) (Star A5 (Star A1 (Star A2 (Star A3 (Star A4 X))))) := (Imp.un Imp.fr4).trans Imp.sw
theorem Imp.bk5 {A1 A2 A3 A4 A5 : Asr} : Imp (Star A1 (Star A2 (Star A3 (Star A4 (Star A5 X))))) (Star A2 (Star A3 (Star A4 (Star A5 (Star A1 X))))) := Imp.sw.trans (Imp.un Imp.bk4)
theorem Imp.fr6 {A1 A2 A3 A4 A5 A6 : Asr} : Imp (Star A1 (Star A2 (Star A3 (Star A4 (Star A5 (Star A6 X)))))) (Star A6 (Star A1 (Star A2 (Star A3 (Star A4 (Star A5 X)))))) := (Imp.un Imp.fr5).trans Imp.sw
theorem Imp.bk6 {A1 A2 A3 A4 A5 A6 : Asr} : Imp (Star A1 (Star A2 (Star A3 (Star A4 (Star A5 (Star A6 X)))))) (Star A2 (Star A3 (Star A4 (Star A5 (Star A6 (Star A1 X)))))) := Imp.sw.trans (Imp.un Imp.bk5)
theorem Imp.fr7 {A1 A2 A3 A4 A5 A6 A7 : Asr} : Imp (Star A1 (Star A2 (Star A3 (Star A4 (Star A5 (Star A6 (Star A7 X))))))) (Star A7 (Star A1 (Star A2 (Star A3 (Star A4 (Star A5 (Star A6 X))))))) := (Imp.un Imp.fr6).trans Imp.sw
theorem Imp.bk7 {A1 A2 A3 A4 A5 A6 A7 : Asr} : Imp (Star A1 (Star A2 (Star A3 (Star A4 (Star A5 (Star A6 (Star A7 X))))))) (Star A2 (Star A3 (Star A4 (Star A5 (Star A6 (Star A7 (Star A1 X))))))) := Imp.sw.trans (Imp.un Imp.bk6)
theorem Imp.fr8 {A1 A2 A3 A4 A5 A6 A7 A8 : Asr} : Imp (Star A1 (Star A2 (Star A3 (Star A4 (Star A5 (Star A6 (Star A7 (Star A8 X)))))))) (Star A8 (Star A1 (Star A2 (Star A3 (Star A4 (Star A5 (Star A6 (Star A7 X)))))))) := (Imp.un Imp.fr7).trans Imp.sw
theorem Imp.bk8 {A1 A2 A3 A4 A5 A6 A7 A8 : Asr} : Imp (Star A1 (Star A2 (Star A3 (Star A4 (Star A5 (Star A6 (Star A7 (Star A8 X)))))))) (Star A2 (Star A3 (Star A4 (Star A5 (Star A6 (Star A7 (Star A8 (Star A1 X)))))))) := Imp.sw.trans (Imp.un Imp.bk7)
theorem Imp.fr9 {A1 A2 A3 A4 A5 A6 A7 A8 A9 : Asr} : Imp (Star A1 (Star A2 (Star A3 (Star A4 (Star A5 (Star A6 (Star A7 (Star A8 (Star A9 X))))))))) (Star A9 (Star A1 (Star A2 (Star A3 (Star A4 (Star A5 (Star A6 (Star A7 (Star A8 X))))))))) := (Imp.un Imp.fr8).trans Imp.sw
theorem Imp.fr10 {A1 A2 A3 A4 A5 A6 A7 A8 A9 AA : Asr} : Imp (Star A1 (Star A2 (Star A3 (Star A4 (Star A5 (Star A6 (Star A7 (Star A8 (Star A9 (Star AA X)))))))))) (Star AA (Star A1 (Star A2 (Star A3 (Star A4 (Star A5 (Star A6 (Star A7 (Star A8 (Star A9 X)))))))))) := (Imp.un Imp.fr9).trans Imp.sw
end Go.W
namespace Go.W
open Go Go.Maps
section
variable {κ : Type} [DecidableEq κ] {ek : κ → Value} {ok : κ → Prop} {P : Program} {k e t : TypeId} {w : World}
/-- A look into no map. -/
theorem look_nil {K : Kont Value} {x : κ} (hk : KeyEnc P k ek ok) (ht : P.underlying t = some (.map k e)) {z : Value} (hz : ∀ w, (zeroValue e).run P w = .ok z w) (hx : ok x) (H : K.run z) : @rdH P (Instr.lookup t (.map none) (ek x) false) w K := by
  refine rd_mk (fun w' hw => ?_) H
  obtain ⟨lx, hlx⟩ := hk.lit x hx
  rcases MapM.find (w := w') (w' := w') (b := 0) (ev := Value.bool) (es := #[]) (l := []) hk rfl (by simp) hx with ⟨h1, h2⟩ | ⟨j, v, e0, h1, h2, h3, h4⟩
  · simp [Instr.lookup, run_underlying ht, hk.keyed.check w' _ hlx, h1, hz, Result.andThen]
  · simp at h2
end
end Go.W
namespace Go.W
/-- A statement that simp leaves alone. -/
def Hid (p : Prop) : Prop := p
theorem Hid.mk {p : Prop} (h : p) : Hid p := h
theorem Hid.un {p : Prop} (h : Hid p) : p := h
end Go.W
end
section
set_option maxRecDepth 100000
set_option linter.unusedSimpArgs false
set_option linter.unusedVariables false
namespace Go.Proofs.Ytcoeknnghfajnaa
open Go Go.W Go.Tk Go.Rx
theorem sl_nil {v : Value} {α : Type} {enc : α → List Value} {l : List α} {w : World} (h : Vw w v enc l) : (v = .slice none 0 0 ∧ l = []) ∨ ∃ a cap, v = .slice (some a) l.length cap := by
  rcases h with h | ⟨a, cap, rfl, _⟩
  · exact .inl h
  · exact .inr ⟨a, cap, rfl⟩
theorem cloneI_spec {w : World} (v : Value) (l : List Nat) (hv : Vw w v nE l) (hl : l.length ≤ 1000000) :
    Calls Try.prog 60 [v].toArray w fun e w' => ∃ u, e = .returned u ∧ Nw w w' u 3 1 nE l := by
  refine enter Try.func60 mixed low60 (Nat.le_of_ble_eq_true rfl) ?_
  simp only [L60]
  have h0 : At w [] Emp w := At.start rfl
  rcases sl_nil hv with ⟨rfl, rfl⟩ | ⟨a, cap, rfl⟩
  · simp
    exact Nw.of (At.nil (E := 3) (sz := 1) (enc := nE) .emp h0)
  · simp [rowOf]
    have h1 := h0.lit (xs := ([] : List Nat)) (enc := nE) (E := 3) (sz := 1) (cs := #[]) (m := 0) .emp (by simp) nE_len (by simp [maxLen]) rfl
    refine At.appendV (xs := l) .emp h1 (hv.kp0 ((Kp.refl [] w).alloc _)) nE_len nE_one sl_22 (by simp; omega) (by simp; unfold maxLen; omega) fun v' w2 h2 => ?_
    simp
    exact Nw.of (by simpa using h2)
theorem cloneF_spec {w : World} (v : Value) (l : List Fc) (hv : Vw w v fcE l) (hl : l.length ≤ 1000000) :
    Calls Try.prog 61 [v].toArray w fun e w' => ∃ u, e = .returned u ∧ Nw w w' u 45 2 fcE l := by
  refine enter Try.func61 mixed low61 (Nat.le_of_ble_eq_true rfl) ?_
  simp only [L61]
  have h0 : At w [] Emp w := At.start rfl
  rcases sl_nil hv with ⟨rfl, rfl⟩ | ⟨a, cap, rfl⟩
  · simp
    exact Nw.of (At.nil (E := 45) (sz := 2) (enc := fcE) .emp h0)
  · simp [rowOf]
    have h1 := h0.lit (xs := ([] : List Fc)) (enc := fcE) (E := 45) (sz := 2) (cs := #[]) (m := 0) .emp (by simp) fcE_len (by simp [maxLen]) rfl
    refine At.appendV (xs := l) .emp h1 (hv.kp0 ((Kp.refl [] w).alloc _)) fcE_len fcE_one sl_23 (by simp; omega) (by simp; unfold maxLen; omega) fun v' w2 h2 => ?_
    simp
    exact Nw.of (by simpa using h2)
theorem nE_cell {w : World} {v : Value} {l : List Nat} {k x : Nat} (h : Vw w v nE l) (hx : l[k]? = some x) : w.cell? (v.adr.add k) = some (.int .i64 (x : Nat)) := by
  simpa using h.at_ nE_len hx (o := 0) (u := .int .i64 (x : Nat)) rfl
end Go.Proofs.Ytcoeknnghfajnaa
end
