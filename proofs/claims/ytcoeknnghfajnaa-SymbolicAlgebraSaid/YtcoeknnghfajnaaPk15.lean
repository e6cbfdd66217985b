/-
  A part of the proof of this claim's statement (RxHeap, RxDij, RxRel, LibM, RxW1, RxW2, TkChk, RxW3, RxW6, RxW7): plain theorems; no conditions beyond those each names.
-/
import Derived.Test.YtcoeknnghfajnaaPk14
import Derived.Test.YtcoeknnghfajnaaPk12
section
set_option linter.unusedVariables false
set_option linter.unusedSimpArgs false
namespace Go.Rx
/-- An entry: a value and a fact. -/
abbrev En := Nat × Nat
def bef (a b : En) : Bool := decide (a.1 < b.1)
theorem nbef_trans {a b c : En} (h : bef b a = false) (k : bef c b = false) : bef c a = false := by
  simp only [bef, decide_eq_false_iff_not] at *; omega
theorem bef_asym {a b : En} (h : bef a b = true) : bef b a = false := by
  simp only [bef, decide_eq_false_iff_not, decide_eq_true_eq] at *; omega
def gt (l : List En) (i : Nat) : En := l.getD i default
def swp (l : List En) (i p : Nat) : List En := (l.set i (gt l p)).set p (gt l i)
@[simp] theorem swp_len (l : List En) (i p : Nat) : (swp l i p).length = l.length := by simp [swp]
def upL (l : List En) (i : Nat) : List En :=
  if h : i = 0 then l else if bef (gt l i) (gt l ((i - 1) / 2)) then upL (swp l i ((i - 1) / 2)) ((i - 1) / 2) else l
termination_by i
decreasing_by omega
theorem gt_lt {l : List En} {i : Nat} (h : i < l.length) : gt l i = l[i] := by simp [gt, h]
theorem gt_set {l : List En} {i j : Nat} {x : En} (hj : j < l.length) : gt (l.set i x) j = if i = j then x else gt l j := by
  rw [gt_lt (by simpa using hj), gt_lt hj, List.getElem_set]
theorem gt_swp {l : List En} {i p j : Nat} (hi : i < l.length) (hp : p < l.length) (hj : j < l.length) : gt (swp l i p) j = if j = p then gt l i else if j = i then gt l p else gt l j := by
  unfold swp
  rw [gt_set (by simpa using hj), gt_set hj]
  by_cases h1 : p = j
  · subst h1; simp
  · by_cases h2 : i = j
    · subst h2; simp [h1, Ne.symm h1]
    · simp [h1, h2, Ne.symm h1, Ne.symm h2]
theorem swp_perm {l : List En} {i p : Nat} (hi : i < l.length) (hp : p < l.length) : (swp l i p).Perm l := by
  have h : swp l i p = (l.toArray.swap i p (by simpa using hi) (by simpa using hp)).toList := by
    simp [swp, Array.swap_def, gt_lt hi, gt_lt hp]
  rw [h]
  exact (Array.swap_perm (by simpa using hi) (by simpa using hp)).toList

/-- No child comes before its parent, for the parents from s on. -/
def HeapFrom (s : Nat) (l : List En) : Prop := ∀ j, 0 < j → j < l.length → s ≤ (j - 1) / 2 → bef (gt l j) (gt l ((j - 1) / 2)) = false

theorem upL_ok : ∀ (i : Nat) (l : List En), i < l.length →
    (∀ j, 0 < j → j < l.length → j ≠ i → bef (gt l j) (gt l ((j - 1) / 2)) = false) →
    (∀ j, 0 < j → j < l.length → (j - 1) / 2 = i → 0 < i → bef (gt l j) (gt l ((i - 1) / 2)) = false) →
    HeapFrom 0 (upL l i) ∧ (upL l i).Perm l := by
  intro i
  induction i using Nat.strongRecOn with
  | _ i ih =>
    intro l hi h1 h2
    rw [upL]
    by_cases h0 : i = 0
    · rw [dif_pos h0]
      refine ⟨fun j hj hjl _ => h1 j hj hjl (by omega), List.Perm.refl _⟩
    · rw [dif_neg h0]
      cases hb : bef (gt l i) (gt l ((i - 1) / 2)) with
      | false =>
        simp only [Bool.false_eq_true, if_false]
        refine ⟨fun j hj hjl _ => ?_, List.Perm.refl _⟩
        by_cases hji : j = i
        · subst hji; exact hb
        · exact h1 j hj hjl hji
      | true =>
        simp only [if_true]
        obtain ⟨p, hp⟩ : ∃ p, p = (i - 1) / 2 := ⟨_, rfl⟩
        rw [← hp] at hb h2 ⊢
        have hpl : p < l.length := by omega
        have hpi : p < i := by omega
        obtain ⟨r1, r2⟩ := ih p hpi (swp l i p) (by simpa using hpl)
          (fun j hj hjl hjp => by
            have hjl' : j < l.length := by simpa using hjl
            have hq : (j - 1) / 2 < l.length := by omega
            rw [gt_swp hi hpl hjl', gt_swp hi hpl hq, if_neg hjp]
            by_cases hji : j = i
            · subst hji
              rw [if_pos rfl, ← hp, if_pos rfl]
              exact bef_asym hb
            · rw [if_neg hji]
              by_cases hqp : (j - 1) / 2 = p
              · rw [if_pos hqp]
                have := h1 j hj hjl' hji
                rw [hqp] at this
                exact nbef_trans (bef_asym hb) this
              · rw [if_neg hqp]
                by_cases hqi : (j - 1) / 2 = i
                · rw [if_pos hqi]
                  exact h2 j hj hjl' hqi (by omega)
                · rw [if_neg hqi]
                  exact h1 j hj hjl' hji)
          (fun j hj hjl hjp hp0 => by
            have hjl' : j < l.length := by simpa using hjl
            have hq : (p - 1) / 2 < l.length := by omega
            rw [gt_swp hi hpl hjl', gt_swp hi hpl hq, if_neg (by omega), if_neg (show ¬ (p - 1) / 2 = p by omega), if_neg (show ¬ (p - 1) / 2 = i by omega)]
            have hpp := h1 p hp0 hpl (by omega)
            by_cases hji : j = i
            · rw [if_pos hji]; exact hpp
            · rw [if_neg hji]
              have := h1 j hj hjl' hji
              rw [hjp] at this
              exact nbef_trans hpp this)
        exact ⟨r1, r2.trans (swp_perm hi hpl)⟩

structure Hp (l s : List En) : Prop where
  perm : l.Perm s
  heap : HeapFrom 0 l
theorem Hp.nil : Hp [] [] := ⟨List.Perm.refl _, fun j hj hjl => by simp at hjl⟩
theorem Hp.push {l s : List En} (h : Hp l s) (e : En) : Hp (upL (l ++ [e]) l.length) (e :: s) := by
  have hg : ∀ j, j < l.length → gt (l ++ [e]) j = gt l j := fun j hj => by
    rw [gt_lt (by simp; omega), gt_lt hj, List.getElem_append_left hj]
  obtain ⟨r1, r2⟩ := upL_ok l.length (l ++ [e]) (by simp)
    (fun j hj hjl hne => by
      have : j < l.length := by simp at hjl; omega
      rw [hg j this, hg _ (by omega)]
      exact h.heap j hj this (Nat.zero_le _))
    (fun j hj hjl hp => by simp at hjl; omega)
  exact ⟨r2.trans ((List.perm_append_singleton _ _).trans (h.perm.cons _)), r1⟩
end Go.Rx
end
section
set_option linter.unusedVariables false
set_option linter.unusedSimpArgs false
namespace Go.Rx
def updN {α : Type} (V : Nat → α) (i : Nat) (x : α) : Nat → α := fun j => if j = i then x else V j
@[simp] theorem updN_same {α : Type} {V : Nat → α} {i : Nat} {x : α} : updN V i x i = x := by simp [updN]
theorem updN_ne {α : Type} {V : Nat → α} {i j : Nat} {x : α} (h : j ≠ i) : updN V i x j = V j := by simp [updN, h]
/-- The unary operators that are not left out. -/
def allow (ok : Nat → Bool) (U : List Un) : List Un := U.filter fun u => ok u.op
theorem allow_mem {ok : Nat → Bool} {U : List Un} {u : Un} : u ∈ allow ok U ↔ u ∈ U ∧ ok u.op = true := by simp [allow]
/-- The state of the search; pend are the unary operators that are still to be looked at. -/
structure Dj (U : List Un) (ok : Nat → Bool) (S S0 : List Nat) (out : Nat → Nat) (s : List En) (done : Nat → Bool) (cur : Nat) (pend : List Nat) : Prop where
  s0 : ∀ f ∈ S0, out f = 0
  der : ∀ f, out f < Inf → Der (allow ok U) S f (out f)
  le : ∀ f, out f ≤ Inf
  ent : ∀ e ∈ s, out e.2 ≤ e.1 ∧ e.1 < Inf
  wait : ∀ f, out f < Inf → done f = false → (out f, f) ∈ s
  dn : ∀ f, done f = true → out f ≤ cur
  nd : ∀ e ∈ s, cur ≤ e.1
  cu : cur < Inf
  fired : ∀ i u, U[i]? = some u → ok u.op = true → (∀ n ∈ u.needs, done n = true) → i ∉ pend → out u.makes ≤ gr out u.needs + u.cost
section
variable {U : List Un} {ok : Nat → Bool} {S S0 : List Nat} {out : Nat → Nat} {s s' : List En} {done : Nat → Bool} {cur : Nat} {pend : List Nat}
theorem Dj.init (hp : ∀ i u, U[i]? = some u → u.needs = [] → i ∈ pend) : Dj U ok S [] (fun _ => Inf) [] (fun _ => false) 0 pend := {
  s0 := by simp
  der := fun f hf => by simp at hf
  le := fun _ => Nat.le_refl _
  ent := by simp
  wait := fun f hf => by simp at hf
  dn := by simp
  nd := by simp
  cu := by decide
  fired := fun i u hi _ hn hnp => by
    cases hu : u.needs with
    | nil => exact absurd (hp i u hi hu) hnp
    | cons x l => have := hn x (by simp [hu]); cases this }
theorem Dj.start (h : Dj U ok S S0 out s done cur pend) {f : Nat} (hf : out f = 0) : Dj U ok S (S0 ++ [f]) out s done cur pend := by
  refine ⟨fun g hg => ?_, h.der, h.le, h.ent, h.wait, h.dn, h.nd, h.cu, h.fired⟩
  rcases List.mem_append.1 hg with h1 | h1
  · exact h.s0 g h1
  · simp at h1; subst h1; exact hf
/-- An operator has been looked at. -/
theorem Dj.look {i : Nat} (h : Dj U ok S S0 out s done cur (i :: pend)) (hi : ∀ u, U[i]? = some u → ok u.op = true → (∀ n ∈ u.needs, done n = true) → out u.makes ≤ gr out u.needs + u.cost) : Dj U ok S S0 out s done cur pend := by
  refine ⟨h.s0, h.der, h.le, h.ent, h.wait, h.dn, h.nd, h.cu, fun j u hj hok hn hnp => ?_⟩
  by_cases e : j = i
  · subst e; exact hi u hj hok hn
  · exact h.fired j u hj hok hn (by simp [e, hnp])
/-- An entry of a fact that is done. -/
theorem Dj.skip (h : Dj U ok S S0 out s done cur pend) {x : En} (hd : done x.2 = true) : Dj U ok S S0 out (s.erase x) done cur pend := by
  refine ⟨h.s0, h.der, h.le, fun e he => h.ent e (List.mem_of_mem_erase he), fun f hf hdf => ?_, h.dn, fun e he => h.nd e (List.mem_of_mem_erase he), h.cu, h.fired⟩
  refine (List.mem_erase_of_ne fun e => ?_).2 (h.wait f hf hdf)
  rw [← e] at hd
  rw [hd] at hdf; cases hdf
/-- At the end. -/
theorem Dj.fin (h : Dj U ok S S out [] done cur []) : IsVal (allow ok U) S out := by
  refine ⟨h.s0, fun u hu hg => ?_, h.der, h.le⟩
  obtain ⟨hu1, hok⟩ := allow_mem.1 hu
  obtain ⟨i, hi, rfl⟩ := List.getElem_of_mem hu1
  refine h.fired i _ (List.getElem?_eq_getElem hi) hok (fun n hn => ?_) (by simp)
  have := (gr_lt_iff (by decide)).1 hg n hn
  cases hd : done n with
  | true => rfl
  | false => have := h.wait n this hd; cases this
def opens (done : Nat → Bool) (l : List Nat) : Nat := l.countP fun n => !done n
theorem opens_zero {l : List Nat} : opens done l = 0 ↔ ∀ n ∈ l, done n = true := by
  unfold opens
  rw [List.countP_eq_zero]
  simp
theorem opens_none {l : List Nat} : opens (fun _ => false) l = l.length := by simp [opens]
end
end Go.Rx
end
section
set_option linter.unusedVariables false
set_option linter.unusedSimpArgs false
namespace Go.Rx
open Go.Tk Go.W Go
def psum (vars : List Nat) (v : Nat) : Nat := (vars.take v).sum
theorem psum_succ {vars : List Nat} {v n : Nat} (h : vars[v]? = some n) : psum vars (v + 1) = psum vars v + n := by
  unfold psum
  rw [List.take_add_one, h, List.sum_append]
  simp
theorem psum_all (vars : List Nat) : psum vars vars.length = vars.sum := by simp [psum]
theorem psum_mono {vars : List Nat} {v w : Nat} (h : v ≤ w) : psum vars v ≤ psum vars w := by
  obtain ⟨d, rfl⟩ : ∃ d, w = v + d := ⟨w - v, by omega⟩
  induction d with
  | zero => exact Nat.le_refl _
  | succ d ih =>
    have h1 := ih (by omega)
    refine Nat.le_trans h1 ?_
    rw [show v + (d + 1) = (v + d) + 1 by omega]
    cases hv : vars[v + d]? with
    | none =>
      have := List.getElem?_eq_none_iff.1 hv
      unfold psum
      rw [List.take_of_length_le this, List.take_of_length_le (by omega)]
      exact Nat.le_refl _
    | some n => rw [psum_succ hv]; omega
theorem psum_le {vars : List Nat} (v : Nat) : psum vars v ≤ vars.sum := by
  rcases Nat.le_total v vars.length with h | h
  · rw [← psum_all]; exact psum_mono h
  · unfold psum; rw [List.take_of_length_le h]; exact Nat.le_refl _
def numF (vars : List Nat) (f : Fc) : Nat := psum vars f.1 + f.2
theorem numF_lt {vars : List Nat} {f : Fc} (h1 : f.1 < vars.length) (h2 : f.2 < vars.getD f.1 0) : numF vars f < vars.sum := by
  obtain ⟨n, hn⟩ : ∃ n, vars[f.1]? = some n := ⟨_, List.getElem?_eq_getElem h1⟩
  have e : vars.getD f.1 0 = n := by simp [List.getD, hn]
  have h3 := psum_succ hn
  have h4 := psum_le (vars := vars) (f.1 + 1)
  unfold numF
  omega
theorem sum_le {vars : List Nat} {N : Nat} (h : ∀ n ∈ vars, n ≤ N) : vars.sum ≤ vars.length * N := by
  induction vars with
  | nil => simp
  | cons x l ih =>
    have := ih fun n hn => h n (by simp [hn])
    have := h x (by simp)
    rw [List.sum_cons, List.length_cons, Nat.add_mul]
    omega
def ndd (acc : List Nat) (n : Nat) : List Nat := if n ∈ acc then acc else acc ++ [n]
def dedup (l : List Nat) : List Nat := l.foldl ndd []
theorem ndd_mem {acc : List Nat} {n x : Nat} : x ∈ ndd acc n ↔ x ∈ acc ∨ x = n := by
  unfold ndd
  split
  · rename_i h
    exact ⟨.inl, fun h1 => h1.elim id (fun e => e ▸ h)⟩
  · simp
theorem ndd_nodup {acc : List Nat} {n : Nat} (h : acc.Nodup) : (ndd acc n).Nodup := by
  unfold ndd
  split
  · exact h
  · rename_i hn
    rw [List.nodup_append]
    refine ⟨h, by simp, fun a ha b hb => ?_⟩
    simp at hb; subst hb
    intro e; exact hn (e ▸ ha)
theorem fold_mem : ∀ (l acc : List Nat) (x : Nat), x ∈ l.foldl ndd acc ↔ x ∈ acc ∨ x ∈ l
  | [], acc, x => by simp
  | n :: l, acc, x => by rw [List.foldl_cons, fold_mem l, ndd_mem]; simp [or_assoc]
theorem fold_nodup : ∀ (l acc : List Nat), acc.Nodup → (l.foldl ndd acc).Nodup
  | [], acc, h => h
  | n :: l, acc, h => fold_nodup l _ (ndd_nodup h)
theorem dedup_mem {l : List Nat} {x : Nat} : x ∈ dedup l ↔ x ∈ l := by unfold dedup; rw [fold_mem]; simp
theorem dedup_nodup (l : List Nat) : (dedup l).Nodup := fold_nodup l [] (by simp)
def unA (vars : List Nat) (o : No) (i c k : Nat) : Un := match o.effs[k]? with
  | some e => ⟨i, k, c, numF vars (e.v, e.x), dedup ((o.pre ++ e.cnd).map (numF vars))⟩
  | none => ⟨0, 0, 0, 0, []⟩
def opU (vars : List Nat) (o : No) (i c k : Nat) : List Un := (List.range k).map (unA vars o i c)
def unsK (t : Nt) (cost : Nat → Nat) (n : Nat) : List Un := (List.range n).flatMap fun i => match t.ops[i]? with
  | some o => opU t.vars o i (cost i) o.effs.length
  | none => []
def uns (t : Nt) (cost : Nat → Nat) : List Un := unsK t cost t.ops.length
theorem unsK_succ {t : Nt} {cost : Nat → Nat} {n : Nat} {o : No} (h : t.ops[n]? = some o) : unsK t cost (n + 1) = unsK t cost n ++ opU t.vars o n (cost n) o.effs.length := by
  unfold unsK; rw [List.range_succ, List.flatMap_append]; simp [h]
theorem opU_len (vars : List Nat) (o : No) (i c k : Nat) : (opU vars o i c k).length = k := by simp [opU]
/-- The unary operators that need a fact; those that need nothing. -/
def nbF (U : List Un) (f : Nat) : List Nat := (List.range U.length).filter fun i => match U[i]? with | some u => decide (f ∈ u.needs) | none => false
def frF (U : List Un) : List Nat := (List.range U.length).filter fun i => match U[i]? with | some u => decide (u.needs = []) | none => false
theorem nbF_mem {U : List Un} {f i : Nat} : i ∈ nbF U f ↔ ∃ u, U[i]? = some u ∧ f ∈ u.needs := by
  unfold nbF
  rw [List.mem_filter, List.mem_range]
  constructor
  · rintro ⟨h1, h2⟩
    rw [List.getElem?_eq_getElem h1] at h2
    exact ⟨_, List.getElem?_eq_getElem h1, of_decide_eq_true h2⟩
  · rintro ⟨u, hu, h⟩
    exact ⟨(List.getElem?_eq_some_iff.1 hu).1, by rw [hu]; exact decide_eq_true h⟩
theorem frF_mem {U : List Un} {i : Nat} : i ∈ frF U ↔ ∃ u, U[i]? = some u ∧ u.needs = [] := by
  unfold frF
  rw [List.mem_filter, List.mem_range]
  constructor
  · rintro ⟨h1, h2⟩
    rw [List.getElem?_eq_getElem h1] at h2
    exact ⟨_, List.getElem?_eq_getElem h1, of_decide_eq_true h2⟩
  · rintro ⟨u, hu, h⟩
    exact ⟨(List.getElem?_eq_some_iff.1 hu).1, by rw [hu]; exact decide_eq_true h⟩
end Go.Rx
end
section
set_option linter.unusedVariables false
set_option linter.unusedSimpArgs false
set_option linter.unusedSectionVars false
namespace Go.W
open Go
section
variable {α : Type} {enc : α → List Value} {E sz : Nat} {B X Y : Asr} {w w1 : World} {F : List Nat}
def RowsA (E sz : Nat) (enc : α → List Value) : List (Cell1 × List α) → Asr → Asr
  | [], B => B
  | p :: ps, B => Star (OwnA p.1.1 E sz enc p.2) (RowsA E sz enc ps B)
theorem Lcl.rows (hB : Lcl B) : ∀ (ps : List (Cell1 × List α)), Lcl (RowsA E sz enc ps B)
  | [] => hB
  | p :: ps => Lcl.own.star (Lcl.rows hB ps)
/-- A row comes to the front. -/
theorem RowsA.out : ∀ (ps : List (Cell1 × List α)) (i : Nat) (p : Cell1 × List α), ps[i]? = some p → Imp (RowsA E sz enc ps B) (Star (OwnA p.1.1 E sz enc p.2) (RowsA E sz enc (ps.eraseIdx i) B))
  | [], i, p, h => by simp at h
  | q :: ps, 0, p, h => by
    simp at h; subst h
    exact Imp.rfl
  | q :: ps, i + 1, p, h => by
    simp only [List.eraseIdx_cons_succ, RowsA]
    exact (Imp.un (RowsA.out ps i p (by simpa using h))).trans Imp.sw
/-- It goes back. -/
theorem RowsA.back : ∀ (ps : List (Cell1 × List α)) (i : Nat) (p : Cell1 × List α), i < ps.length → Imp (Star (OwnA p.1.1 E sz enc p.2) (RowsA E sz enc (ps.eraseIdx i) B)) (RowsA E sz enc (ps.set i p) B)
  | [], i, p, h => by simp at h
  | q :: ps, 0, p, h => Imp.rfl
  | q :: ps, i + 1, p, h => by
    simp only [List.eraseIdx_cons_succ, RowsA, List.set_cons_succ]
    exact Imp.sw.trans (Imp.un (RowsA.back ps i p (by simpa using h)))
theorem RowsA.imp (h : Imp X Y) : ∀ (ps : List (Cell1 × List α)), Imp (RowsA E sz enc ps X) (RowsA E sz enc ps Y)
  | [] => h
  | p :: ps => Imp.un (RowsA.imp h ps)
/-- What lies behind the rows comes before them. -/
theorem RowsA.up : ∀ (ps : List (Cell1 × List α)), Imp (RowsA E sz enc ps (Star X Y)) (Star X (RowsA E sz enc ps Y))
  | [] => Imp.rfl
  | p :: ps => (Imp.un (RowsA.up ps)).trans Imp.sw
theorem RowsA.drop : ∀ (ps : List (Cell1 × List α)), Imp (RowsA E sz enc ps X) X
  | [] => Imp.rfl
  | p :: ps => Imp.dr.trans (RowsA.drop ps)
end
section
variable {α : Type} {enc : α → List Value} {E E2 : Nat} {B : Asr} {w w1 : World} {F : List Nat} {v : Value} {ps : List (Cell1 × List α)}
def Tb2 (v : Value) (E2 E : Nat) (enc : α → List Value) (ps : List (Cell1 × List α)) (B : Asr) : Asr := Star (OwnA v E2 1 sv1 ps) (RowsA E 1 enc ps B)
theorem Own.same {β γ : Type} {encb : β → List Value} {encc : γ → List Value} {l : List β} {l' : List γ} {sz : Nat} (h : Own w v E sz encb l) (e : l.flatMap encb = l'.flatMap encc) (hl : l.length = l'.length) : Own w v E sz encc l' := by
  unfold Own at *
  rw [← e, ← hl]
  rcases h with ⟨h1, h2⟩ | h
  · left
    subst h2
    refine ⟨h1, ?_⟩
    simp at hl
    exact List.eq_nil_of_length_eq_zero hl.symm
  · exact .inr h
theorem OwnA.same {β γ : Type} {encb : β → List Value} {encc : γ → List Value} {l : List β} {l' : List γ} {sz : Nat} {X : Asr} (e : l.flatMap encb = l'.flatMap encc) (hl : l.length = l'.length) : Imp (Star (OwnA v E sz encb l) X) (Star (OwnA v E sz encc l') X) := by
  rintro w F ⟨Fa, Fb, ⟨h1, h2⟩, h3, hd, rfl⟩
  exact ⟨_, ⟨Fa, Fb, ⟨h1.same e hl, h2⟩, h3, hd, rfl⟩, fun x hx => hx⟩
theorem sv1_set (ps : List (Cell1 × List α)) {i : Nat} {p : Cell1 × List α} (hi : ps[i]? = some p) (l : List α) : ps.flatMap sv1 = (ps.set i (p.1, l)).flatMap sv1 := by
  induction ps generalizing i with
  | nil => rfl
  | cons q ps ih =>
    cases i with
    | zero => simp at hi; subst hi; rfl
    | succ i => simp only [List.set_cons_succ, List.flatMap_cons]; rw [ih (by simpa using hi)]
theorem Tb2.own (h : At w F (Tb2 v E2 E enc ps B) w1) : Own w1 v E2 1 sv1 ps := At.own h
theorem Tb2.rowI {i : Nat} {p : Cell1 × List α} (hi : ps[i]? = some p) : Imp (Tb2 v E2 E enc ps B) (Star (OwnA p.1.1 E 1 enc p.2) (Star (OwnA v E2 1 sv1 ps) (RowsA E 1 enc (ps.eraseIdx i) B))) := (Imp.un (RowsA.out ps i p hi)).trans Imp.sw
theorem Tb2.row {i : Nat} {p : Cell1 × List α} (h : At w F (Tb2 v E2 E enc ps B) w1) (hi : ps[i]? = some p) : Own w1 p.1.1 E 1 enc p.2 := (h.by (Tb2.rowI hi)).own
theorem Tb2.drop : Imp (Tb2 v E2 E enc ps B) B := Imp.dr.trans (RowsA.drop ps)
/-- A row with new contents goes back. -/
theorem Tb2.rowB {i : Nat} {p : Cell1 × List α} {l : List α} (hi : ps[i]? = some p) : Imp (Star (OwnA p.1.1 E 1 enc l) (Star (OwnA v E2 1 sv1 ps) (RowsA E 1 enc (ps.eraseIdx i) B))) (Tb2 v E2 E enc (ps.set i (p.1, l)) B) := by
  have hlt : i < ps.length := (List.getElem?_eq_some_iff.1 hi).1
  exact Imp.sw.trans ((Imp.un (RowsA.back ps i (p.1, l) hlt)).trans (OwnA.same (sv1_set ps hi l) (by simp)))
/-- A cell of a table is written. -/
theorem Tb2.store {KW : Kont World} {i k : Nat} {p : Cell1 × List α} {x : α} {cs : List Value} (hB : Lcl B) (h : At w F (Tb2 v E2 E enc ps B) w1) (hi : ps[i]? = some p) (he : ∀ x, (enc x).length = 1) (h1 : ∀ x, (enc x).all oneC = true) (hk : k < p.2.length) (hcs : cs = enc x)
    (H : ∀ w2, At w F (Tb2 v E2 E enc (ps.set i (p.1, p.2.set k x)) B) w2 → KW.run w2) : @stJ w1 ⟨p.1.1.blk, k, none⟩ cs KW :=
  (h.by (Tb2.rowI hi)).store1 (Lcl.own.star (Lcl.rows hB _)) he h1 hk hcs fun w2 h2 => H w2 (h2.by (Tb2.rowB hi))
/-- A row is replaced by another one. -/
theorem Tb2.put {KW : Kont World} {i : Nat} {p q : Cell1 × List α} {cs : List Value} (hB : Lcl B) (h : At w F (Star (OwnA q.1.1 E 1 enc q.2) (Star (OwnA v E2 1 sv1 ps) (RowsA E 1 enc (ps.eraseIdx i) B))) w1) (hi : ps[i]? = some p) (hcs : cs = [q.1.1])
    (H : ∀ w2, At w F (Tb2 v E2 E enc (ps.set i q) B) w2 → KW.run w2) : @stJ w1 ⟨v.blk, i, none⟩ cs KW := by
  have hlt : i < ps.length := (List.getElem?_eq_some_iff.1 hi).1
  exact (h.by Imp.sw).store1 (Lcl.own.star (Lcl.rows hB _)) sv1_len sv1_one hlt (x := q) hcs fun w2 h2 => H w2 (h2.by (Imp.un (RowsA.back ps i q hlt)))
end
end Go.W
namespace Go.W
open Go
section
variable {α : Type} {enc : α → List Value} {E E2 : Nat} {B X : Asr} {w w1 : World} {F : List Nat} {v : Value} {ps : List (Cell1 × List α)}
/-- A table as one assertion. -/
def TabA (v : Value) (E2 E : Nat) (enc : α → List Value) (ps : List (Cell1 × List α)) : Asr := Tb2 v E2 E enc ps Emp
theorem Imp.as {A B C : Asr} : Imp (Star (Star A B) C) (Star A (Star B C)) := fun w F h => Star.assoc h
theorem Imp.as' {A B C : Asr} : Imp (Star A (Star B C)) (Star (Star A B) C) := fun w F h => Star.assoc' h
theorem Imp.left {A B C : Asr} (h : Imp A B) : Imp (Star A C) (Star B C) := by
  rintro w F ⟨Fa, Fb, h1, h2, hd, rfl⟩
  obtain ⟨F', h3, h4⟩ := h w Fa h1
  exact ⟨_, ⟨F', Fb, h3, h2, fun x hx => hd x (h4 x hx), Eq.refl _⟩, fun x hx => by
    rcases List.mem_append.1 hx with h5 | h5
    · exact List.mem_append.2 (.inl (h4 x h5))
    · exact List.mem_append.2 (.inr h5)⟩
theorem Imp.em {X : Asr} : Imp X (Star Emp X) := fun w F h => ⟨[] ++ F, ⟨[], F, Eq.refl _, h, by simp, Eq.refl _⟩, fun x hx => by simpa using hx⟩
theorem RowsA.opn : ∀ (ps : List (Cell1 × List α)), Imp (Star (RowsA E 1 enc ps Emp) X) (RowsA E 1 enc ps X)
  | [] => Imp.dr
  | p :: ps => Imp.as.trans (Imp.un (RowsA.opn ps))
theorem RowsA.cls : ∀ (ps : List (Cell1 × List α)), Imp (RowsA E 1 enc ps X) (Star (RowsA E 1 enc ps Emp) X)
  | [] => Imp.em
  | p :: ps => (Imp.un (RowsA.cls ps)).trans Imp.as'
theorem TabA.opn : Imp (Star (TabA v E2 E enc ps) X) (Tb2 v E2 E enc ps X) := Imp.as.trans (Imp.un (RowsA.opn ps))
theorem TabA.cls : Imp (Tb2 v E2 E enc ps X) (Star (TabA v E2 E enc ps) X) := (Imp.un (RowsA.cls ps)).trans Imp.as'
theorem TabA.row {i : Nat} {p : Cell1 × List α} (h : At w F (Star (TabA v E2 E enc ps) B) w1) (hi : ps[i]? = some p) : Own w1 p.1.1 E 1 enc p.2 := Tb2.row (h.by TabA.opn) hi
theorem TabA.own (h : At w F (Star (TabA v E2 E enc ps) B) w1) : Own w1 v E2 1 sv1 ps := Tb2.own (h.by TabA.opn)
theorem TabA.store {KW : Kont World} {i k : Nat} {p : Cell1 × List α} {x : α} {cs : List Value} (hB : Lcl B) (h : At w F (Star (TabA v E2 E enc ps) B) w1) (hi : ps[i]? = some p) (he : ∀ x, (enc x).length = 1) (h1 : ∀ x, (enc x).all oneC = true) (hk : k < p.2.length) (hcs : cs = enc x)
    (H : ∀ w2, At w F (Star (TabA v E2 E enc (ps.set i (p.1, p.2.set k x))) B) w2 → KW.run w2) : @stJ w1 ⟨p.1.1.blk, k, none⟩ cs KW :=
  Tb2.store hB (h.by TabA.opn) hi he h1 hk hcs fun w2 h2 => H w2 (h2.by TabA.cls)
/-- Something is appended to a row; it is still to be put back. -/
theorem TabA.append {P : Program} {KV : Kont (Value × World)} {T ty by_ : Nat} {z : List Value} {i : Nat} {p : Cell1 × List α} (hB : Lcl B) (h : At w F (Star (TabA v E2 E enc ps) B) w1) (hi : ps[i]? = some p) (he : ∀ x, (enc x).length = 1) (h1 : ∀ x, (enc x).all oneC = true)
    (hT : slInfo P T = some (E, 1, by_, z)) {a : Addr} {m c : Nat} {xs : List α} (hm : xs.length = m) (hx : ∀ j u, (xs.flatMap enc)[j]? = some u → w1.cell? (a.add j) = some u)
    (hb : (p.2.length + m) * by_ ≤ 140737488355328) (hmax : p.2.length + m ≤ maxLen)
    (H : ∀ v' w2, At w F (Star (OwnA v' E 1 enc (p.2 ++ xs)) (Star (OwnA v E2 1 sv1 ps) (RowsA E 1 enc (ps.eraseIdx i) B))) w2 → KV.run (v', w2)) :
    @efH P (Builtin.append_ #[T, T] ty [p.1.1, .slice (some a) m c].toArray) w1 KV :=
  At.append (Lcl.own.star (Lcl.rows hB _)) ((h.by TabA.opn).by (Tb2.rowI hi)) he h1 hT hm hx hb hmax H
theorem TabA.put {KW : Kont World} {i : Nat} {p : Cell1 × List α} {u : Value} {l : List α} {cs : List Value} (hB : Lcl B) (h : At w F (Star (OwnA u E 1 enc l) (Star (OwnA v E2 1 sv1 ps) (RowsA E 1 enc (ps.eraseIdx i) B))) w1) (hi : ps[i]? = some p) (hcs : cs = [u])
    (H : ∀ (ho : oneC u = true) w2, At w F (Star (TabA v E2 E enc (ps.set i (⟨u, ho⟩, l))) B) w2 → KW.run w2) : @stJ w1 ⟨v.blk, i, none⟩ cs KW :=
  Tb2.put (q := (⟨u, h.own.o1⟩, l)) hB h hi hcs fun w2 h2 => H h.own.o1 w2 (h2.by TabA.cls)
end
end Go.W
namespace Go.W
open Go
theorem Imp.ow {α : Type} {v : Value} {E sz : Nat} {enc : α → List Value} {l : List α} {X : Asr} : Imp (Star (OwnA v E sz enc l) X) (Star (VwA v enc l) X) := by
  rintro w F ⟨Fa, Fb, ⟨h1, e1⟩, h2, hd, e⟩
  subst e e1
  refine ⟨_, ⟨v.own, Fb, ⟨h1.vw, Eq.refl _, fun x hx => ?_⟩, h2, hd, Eq.refl _⟩, fun x hx => hx⟩
  rcases h1 with ⟨rfl, _⟩ | ⟨g, cap, cur, junk, rfl, hh, _⟩
  · cases hx
  · simp at hx; subst hx; exact lt_of_blk hh
end Go.W
namespace Go.W
variable {X : Asr}
theorem Imp.fr2 {A1 A2 : Asr} : Imp (Star A1 (Star A2 X)) (Star A2 (Star A1 X)) := Imp.sw
theorem Imp.bk2 {A1 A2 : Asr} : Imp (Star A1 (Star A2 X)) (Star A2 (Star A1 X)) := Imp.sw
theorem Imp.fr3 {A1 A2 A3 : Asr} : Imp (Star A1 (Star A2 (Star A3 X))) (Star A3 (Star A1 (Star A2 X))) := (Imp.un Imp.fr2).trans Imp.sw
theorem Imp.bk3 {A1 A2 A3 : Asr} : Imp (Star A1 (Star A2 (Star A3 X))) (Star A2 (Star A3 (Star A1 X))) := Imp.sw.trans (Imp.un Imp.bk2)
theorem Imp.fr4 {A1 A2 A3 A4 : Asr} : Imp (Star A1 (Star A2 (Star A3 (Star A4 X)))) (Star A4 (Star A1 (Star A2 (Star A3 X)))) := (Imp.un Imp.fr3).trans Imp.sw
theorem Imp.bk4 {A1 A2 A3 A4 : Asr} : Imp (Star A1 (Star A2 (Star A3 (Star A4 X)))) (Star A2 (Star A3 (Star A4 (Star A1 X)))) := Imp.sw.trans (Imp.un Imp.bk3)
theorem Imp.fr5 {A1 A2 A3 A4 A5 : Asr} : Imp (Star A1 (Star A2 (Star A3 (Star A4 (Star A5 X))))) (Star A5 (Star A1 (Star A2 (Star A3 (Star A4 X))))) := (Imp.un Imp.fr4).trans Imp.sw
theorem Imp.bk5 {A1 A2 A3 A4 A5 : Asr} : Imp (Star A1 (Star A2 (Star A3 (Star A4 (Star A5 X))))) (Star A2 (Star A3 (Star A4 (Star A5 (Star A1 X))))) := Imp.sw.trans (Imp.un Imp.bk4)
theorem Imp.fr6 {A1 A2 A3 A4 A5 A6 : Asr} : Imp (Star A1 (Star A2 (Star A3 (Star A4 (Star A5 (Star A6 X)))))) (Star A6 (Star A1 (Star A2 (Star A3 (Star A4 (Star A5 X)))))) := (Imp.un Imp.fr5).trans Imp.sw
theorem Imp.bk6 {A1 A2 A3 A4 A5 A6 : Asr} : Imp (Star A1 (Star A2 (Star A3 (Star A4 (Star A5 (Star A6 X)))))) (Star A2 (Star A3 (Star A4 (Star A5 (Star A6 (Star A1 X)))))) := Imp.sw.trans (Imp.un Imp.bk5)
theorem Imp.fr7 {A1 A2 A3 A4 A5 A6 A7 : Asr} : Imp (Star A1 (Star A2 (Star A3 (Star A4 (Star A5 (Star A6 (Star A7 X))))))) (Star A7 (Star A1 (Star A2 (Star A3 (Star A4 (Star A5 (Star A6 X))))))) := (Imp.un Imp.fr6).trans Imp.sw
theorem Imp.bk7 {A1 A2 A3 A4 A5 A6 A7 : Asr} : Imp (Star A1 (Star A2 (Star A3 (Star A4 (Star A5 (Star A6 (Star A7 X))))))) (Star A2 (Star A3 (Star A4 (Star A5 (Star A6 (Star A7 (Star A1 X))))))) := Imp.sw.trans (Imp.un Imp.bk6)
theorem Imp.fr8 {A1 A2 A3 A4 A5 A6 A7 A8 : Asr} : Imp (Star A1 (Star A2 (Star A3 (Star A4 (Star A5 (Star A6 (Star A7 (Star A8 X)))))))) (Star A8 (Star A1 (Star A2 (Star A3 (Star A4 (Star A5 (Star A6 (Star A7 X)))))))) := (Imp.un Imp.fr7).trans Imp.sw
theorem Imp.bk8 {A1 A2 A3 A4 A5 A6 A7 A8 : Asr} : Imp (Star A1 (Star A2 (Star A3 (Star A4 (Star A5 (Star A6 (Star A7 (Star A8 X)))))))) (Star A2 (Star A3 (Star A4 (Star A5 (Star A6 (Star A7 (Star A8 (Star A1 X)))))))) := Imp.sw.trans (Imp.un Imp.bk7)
theorem Imp.fr9 {A1 A2 A3 A4 A5 A6 A7 A8 A9 : Asr} : Imp (Star A1 (Star A2 (Star A3 (Star A4 (Star A5 (Star A6 (Star A7 (Star A8 (Star A9 X))))))))) (Star A9 (Star A1 (Star A2 (Star A3 (Star A4 (Star A5 (Star A6 (Star A7 (Star A8 X))))))))) := (Imp.un Imp.fr8).trans Imp.sw
theorem Imp.fr10 {A1 A2 A3 A4 A5 A6 A7 A8 A9 AA : Asr} : Imp (Star A1 (Star A2 (Star A3 (Star A4 (Star A5 (Star A6 (Star A7 (Star A8 (Star A9 (Star AA X)))))))))) (Star AA (Star A1 (Star A2 (Star A3 (Star A4 (Star A5 (Star A6 (Star A7 (Star A8 (Star A9 X)))))))))) := (Imp.un Imp.fr9).trans Imp.sw
end Go.W
namespace Go.W
open Go Go.Maps
section
variable {κ : Type} [DecidableEq κ] {ek : κ → Value} {ok : κ → Prop} {P : Program} {k e t : TypeId} {w : World}
/-- A look into no map. -/
theorem look_nil {K : Kont Value} {x : κ} (hk : KeyEnc P k ek ok) (ht : P.underlying t = some (.map k e)) {z : Value} (hz : ∀ w, (zeroValue e).run P w = .ok z w) (hx : ok x) (H : K.run z) : @rdH P (Instr.lookup t (.map none) (ek x) false) w K := by
  refine rd_mk (fun w' hw => ?_) H
  obtain ⟨lx, hlx⟩ := hk.lit x hx
  rcases MapM.find (w := w') (w' := w') (b := 0) (ev := Value.bool) (es := #[]) (l := []) hk rfl (by simp) hx with ⟨h1, h2⟩ | ⟨j, v, e0, h1, h2, h3, h4⟩
  · simp [Instr.lookup, run_underlying ht, hk.keyed.check w' _ hlx, h1, hz, Result.andThen]
  · simp at h2
end
end Go.W
namespace Go.W
/-- A statement that simp leaves alone. -/
def Hid (p : Prop) : Prop := p
theorem Hid.mk {p : Prop} (h : p) : Hid p := h
theorem Hid.un {p : Prop} (h : Hid p) : p := h
end Go.W
end
section
set_option maxRecDepth 100000
set_option linter.unusedSimpArgs false
set_option linter.unusedVariables false
namespace Go.Proofs.Ytcoeknnghfajnaa
open Go Go.W Go.Tk Go.Rx
theorem sl_nil {v : Value} {α : Type} {enc : α → List Value} {l : List α} {w : World} (h : Vw w v enc l) : (v = .slice none 0 0 ∧ l = []) ∨ ∃ a cap, v = .slice (some a) l.length cap := by
  rcases h with h | ⟨a, cap, rfl, _⟩
  · exact .inl h
  · exact .inr ⟨a, cap, rfl⟩
theorem cloneI_spec {w : World} (v : Value) (l : List Nat) (hv : Vw w v nE l) (hl : l.length ≤ 1000000) :
    Calls Try.prog 60 [v].toArray w fun e w' => ∃ u, e = .returned u ∧ Nw w w' u 3 1 nE l := by
  refine enter Try.func60 mixed low60 (Nat.le_of_ble_eq_true rfl) ?_
  simp only [L60]
  have h0 : At w [] Emp w := At.start rfl
  rcases sl_nil hv with ⟨rfl, rfl⟩ | ⟨a, cap, rfl⟩
  · simp
    exact Nw.of (At.nil (E := 3) (sz := 1) (enc := nE) .emp h0)
  · simp [rowOf]
    have h1 := h0.lit (xs := ([] : List Nat)) (enc := nE) (E := 3) (sz := 1) (cs := #[]) (m := 0) .emp (by simp) nE_len (by simp [maxLen]) rfl
    refine At.appendV (xs := l) .emp h1 (hv.kp0 ((Kp.refl [] w).alloc _)) nE_len nE_one sl_22 (by simp; omega) (by simp; unfold maxLen; omega) fun v' w2 h2 => ?_
    simp
    exact Nw.of (by simpa using h2)
theorem cloneF_spec {w : World} (v : Value) (l : List Fc) (hv : Vw w v fcE l) (hl : l.length ≤ 1000000) :
    Calls Try.prog 61 [v].toArray w fun e w' => ∃ u, e = .returned u ∧ Nw w w' u 45 2 fcE l := by
  refine enter Try.func61 mixed low61 (Nat.le_of_ble_eq_true rfl) ?_
  simp only [L61]
  have h0 : At w [] Emp w := At.start rfl
  rcases sl_nil hv with ⟨rfl, rfl⟩ | ⟨a, cap, rfl⟩
  · simp
    exact Nw.of (At.nil (E := 45) (sz := 2) (enc := fcE) .emp h0)
  · simp [rowOf]
    have h1 := h0.lit (xs := ([] : List Fc)) (enc := fcE) (E := 45) (sz := 2) (cs := #[]) (m := 0) .emp (by simp) fcE_len (by simp [maxLen]) rfl
    refine At.appendV (xs := l) .emp h1 (hv.kp0 ((Kp.refl [] w).alloc _)) fcE_len fcE_one sl_23 (by simp; omega) (by simp; unfold maxLen; omega) fun v' w2 h2 => ?_
    simp
    exact Nw.of (by simpa using h2)
theorem nE_cell {w : World} {v : Value} {l : List Nat} {k x : Nat} (h : Vw w v nE l) (hx : l[k]? = some x) : w.cell? (v.adr.add k) = some (.int .i64 (x : Nat)) := by
  simpa using h.at_ nE_len hx (o := 0) (u := .int .i64 (x : Nat)) rfl
end Go.Proofs.Ytcoeknnghfajnaa
end
section
set_option maxRecDepth 100000
set_option linter.unusedSimpArgs false
set_option linter.unusedVariables false
namespace Go.Proofs.Ytcoeknnghfajnaa
open Go Go.W Go.Tk Go.Rx
/-- A unary operator in cells. -/
structure Ru where
  u : Un
  nv : Cell1
end Go.Proofs.Ytcoeknnghfajnaa
end
section
set_option linter.unusedVariables false
set_option linter.unusedSimpArgs false
namespace Go.Tk
open Go Go.W
theorem prop_len {vars : List Int} {l : List Fa} (hv : ∀ n ∈ vars, 0 ≤ n) (h : propF vars l = true) : l.length ≤ vars.length := by
  have hn : vars = (vars.map Int.toNat).map iN := by
    rw [List.map_map]
    conv => lhs; rw [← List.map_id vars]
    exact List.map_congr_left fun n hn2 => by have := hv n hn2; simp [iN]; omega
  obtain ⟨m, hm, ok⟩ := prop_nat hn h
  have := ok.len
  have := congrArg List.length hm
  simp at *
  omega
theorem chk_good (t : Tk) : chkC t = none ↔ goodB t = true := by
  have hc : ∀ {vars : List Int}, vars.all varB = true → ∀ n ∈ vars, 0 ≤ n := fun h n hn => by
    have := List.all_eq_true.1 h n hn
    simp [varB] at this
    omega
  constructor
  · intro h
    unfold chkC at h
    split at h; · cases h
    rename_i e1
    split at h; · cases h
    rename_i e2
    split at h; · cases h
    rename_i e3
    split at h; · cases h
    rename_i e4
    split at h; · cases h
    rename_i e5
    split at h; · cases h
    rename_i e6
    split at h; · cases h
    rename_i e7
    simp only [Bool.not_eq_true, Bool.not_eq_false] at e1 e2 e3 e4 e5 e6 e7
    unfold largeB at e1
    simp only [Bool.not_eq_false', Bool.and_eq_true, decide_eq_true_eq] at e1
    obtain ⟨⟨⟨l1, l2⟩, l3⟩, l4⟩ := e1
    rw [List.all_eq_true] at l3 e3 e5 e6 e7
    have hg : propF t.vars t.goal = true := e5 (t.gv, t.goal) (by simp [condsL])
    have ho : t.ops.all (opB t.vars) = true := by
      rw [List.all_eq_true]
      intro o ho
      have a1 := e3 o ho
      have a2 := e7 o ho
      have a3 := l3 o ho
      have a4 : propF t.vars o.pre = true := e5 (o.pv, o.pre) (by
        unfold condsL
        exact List.mem_cons_of_mem _ (List.mem_flatMap.2 ⟨o, ho, by simp [condsO]⟩))
      have a5 : o.effs.all (effB t.vars) = true := by
        rw [List.all_eq_true]
        intro e he
        have b1 := List.all_eq_true.1 (e6 o ho) e he
        have b2 : propF t.vars e.cnd = true := e5 (e.wv, e.cnd) (by
          unfold condsL
          exact List.mem_cons_of_mem _ (List.mem_flatMap.2 ⟨o, ho, by
            unfold condsO
            exact List.mem_cons_of_mem _ (List.mem_map.2 ⟨e, he, rfl⟩)⟩))
        simp [effB, b1, b2]
      simp only [Bool.and_eq_true, decide_eq_true_eq] at a1 a3
      simp only [opB, a2, a4, a5, Bool.and_true, Bool.and_eq_true, decide_eq_true_eq]
      exact ⟨a1, a3⟩
    simp only [goodB, e2, e4, hg, ho, Bool.and_true, Bool.and_eq_true, decide_eq_true_eq]
    exact ⟨l1, l2⟩
  · intro h
    unfold goodB at h
    simp only [Bool.and_eq_true, decide_eq_true_eq] at h
    obtain ⟨⟨⟨⟨⟨h1, h2⟩, h3⟩, h4⟩, h5⟩, h6⟩ := h
    have h6' := List.all_eq_true.1 h6
    have hop : ∀ o ∈ t.ops, (0 ≤ o.cost ∧ o.cost ≤ 1048576) ∧ o.effs.length ≤ 64 ∧ nameB o.name = true ∧ propF t.vars o.pre = true ∧ ∀ e ∈ o.effs, propF t.vars e.cnd = true ∧ inR t.vars (e.v, e.x) = true := fun o ho => by
      have := h6' o ho
      unfold opB at this
      simp only [Bool.and_eq_true, decide_eq_true_eq, List.all_eq_true] at this
      obtain ⟨⟨⟨⟨⟨c1, c2⟩, c3⟩, c4⟩, c5⟩, c6⟩ := this
      refine ⟨⟨c1, c2⟩, c3, c4, c5, fun e he => ?_⟩
      have := c6 e he
      unfold effB at this
      simpa only [Bool.and_eq_true] using this
    have hcp : ∀ p ∈ condsL t, propF t.vars p.2 = true := fun p hp => by
      unfold condsL at hp
      rcases List.mem_cons.1 hp with rfl | hp
      · exact h5
      · obtain ⟨o, ho, hp⟩ := List.mem_flatMap.1 hp
        unfold condsO at hp
        rcases List.mem_cons.1 hp with rfl | hp
        · exact (hop o ho).2.2.2.1
        · obtain ⟨e, he, rfl⟩ := List.mem_map.1 hp
          exact ((hop o ho).2.2.2.2 e he).1
    have hl : largeB t = false := by
      unfold largeB
      simp only [Bool.not_eq_false', Bool.and_eq_true, decide_eq_true_eq, List.all_eq_true]
      exact ⟨⟨⟨h1, h2⟩, fun o ho => (hop o ho).2.1⟩, fun p hp => Nat.le_trans (prop_len (hc h3) (hcp p hp)) h1⟩
    have e3 : (t.ops.all fun o => decide (0 ≤ o.cost) && decide (o.cost ≤ 1048576)) = true := by
      rw [List.all_eq_true]
      intro o ho
      have := (hop o ho).1
      simp; omega
    have e5 : ((condsL t).all fun p => propF t.vars p.2) = true := by rw [List.all_eq_true]; exact hcp
    have e6 : (t.ops.all fun o => o.effs.all fun e => inR t.vars (e.v, e.x)) = true := by
      rw [List.all_eq_true]
      intro o ho
      rw [List.all_eq_true]
      exact fun e he => ((hop o ho).2.2.2.2 e he).2
    have e7 : (t.ops.all fun o => nameB o.name) = true := by
      rw [List.all_eq_true]
      exact fun o ho => (hop o ho).2.2.1
    unfold chkC
    rw [if_neg (by rw [hl]; simp), if_neg (by rw [h3]; simp), if_neg (by rw [e3]; simp), if_neg (by rw [h4]; simp), if_neg (by rw [e5]; simp), if_neg (by rw [e6]; simp), if_neg (by rw [e7]; simp)]
/-- A good task's lists are short. -/
theorem NtG.lens {T : Nt} (h : NtG T) (hn : ∀ o ∈ T.ops, o.name.size ≤ 9223372036854775807) : TkL T.raw := by
  have hg := h.goal.len
  refine ⟨by simp [Nt.raw]; have := h.ilen; have := h.vlen; omega, by simp [Nt.raw]; have := h.vlen; omega, by simp [Nt.raw]; have := h.olen; omega, by simp [Nt.raw]; have := h.vlen; omega, fun o ho => ?_⟩
  obtain ⟨o', ho', rfl⟩ := List.mem_map.1 ho
  have g := h.ops o' ho'
  have := g.pre.len
  have := h.vlen
  have := g.elen
  refine ⟨hn o' ho', by simp [No.raw]; omega, by simp [No.raw]; omega, fun e he => ?_⟩
  obtain ⟨e', he', rfl⟩ := List.mem_map.1 he
  have := (g.cnd e' he').len
  simp [Nf.raw]; omega
end Go.Tk
end
section
set_option maxRecDepth 100000
set_option linter.unusedSimpArgs false
set_option linter.unusedVariables false
namespace Go.Proofs.Ytcoeknnghfajnaa
open Go Go.W Go.Tk Go.Rx
/-- The costs that a relaxation has. -/
def cst (T : Nt) (cs : List Int) (i : Nat) : Nat := if cs.length = 0 then (match T.ops[i]? with | some o => o.cost | none => 0) else (cs.getD i 0).toNat
/-- The frame of a relaxation: the copies, and the task's variable. -/
def FrA (vv gv : Value) (vars : List Nat) (goal : List Fc) (tb : Nat) (t : Tk) : Asr := Star (OwnA vv 3 1 nE vars) (Star (OwnA gv 45 2 fcE goal) (Star (ObjA tb (tkO t)) Emp))
theorem FrA.lcl {vv gv : Value} {vars : List Nat} {goal : List Fc} {tb : Nat} {t : Tk} : Lcl (FrA vv gv vars goal tb t) := Lcl.own.star (Lcl.own.star (Lcl.obj.star .emp))
end Go.Proofs.Ytcoeknnghfajnaa
end
section
set_option maxRecDepth 100000
set_option linter.unusedSimpArgs false
set_option linter.unusedVariables false
namespace Go.Proofs.Ytcoeknnghfajnaa
open Go Go.W Go.Tk Go.Rx Go.Maps
def intV (k : Int) : Value := .int .i64 k
def zok (z : Int) : Prop := -9223372036854775808 ≤ z ∧ z ≤ 9223372036854775807
theorem wf_int {z : Int} (h : zok z) : (Lit.int .i64 z).wf = true := by
  have h1 : IntKind.i64.min = -9223372036854775808 := rfl
  have h2 : IntKind.i64.max = 9223372036854775807 := rfl
  unfold zok at h
  simp only [Lit.wf, Bool.and_eq_true, decide_eq_true_eq]
  omega
theorem keyI : KeyEnc Try.prog 3 intV zok := {
  keyed := int_keyed Try.underlying3
  lit := fun d hd => ⟨_, keyOf_int_mk Try.underlying3 (wf_int hd)⟩
  inj := fun x y h => by
    injection h with _ h }
theorem zbool (w : World) : (zeroValue 4).run Try.prog w = .ok (.bool false) w := Try.zeroValue4 w
/-- The operators that are left out, as a map or none. -/
def LkP (w : World) (wv : Value) (ok : Nat → Bool) : Prop :=
  (wv = .map none ∧ ∀ i, ok i = true) ∨ ∃ mb M, wv = .map (some mb) ∧ MapM w mb intV Value.bool zok M ∧ ∀ i : Nat, i ≤ 100000 → ((getM M (i : Int)).map Value.bool).getD (.bool false) = .bool (!(ok i))
theorem LkP.kp {w w' : World} {wv : Value} {ok : Nat → Bool} (h : LkP w wv ok) (k : Kp [] w w') : LkP w' wv ok := by
  rcases h with h | ⟨mb, M, h1, h2, h3⟩
  · exact .inl h
  · exact .inr ⟨mb, M, h1, h2.kp k (by simp), h3⟩
theorem LkP.look {w : World} {wv : Value} {ok : Nat → Bool} {i : Nat} {K : Kont Value} (h : LkP w wv ok) (hi : i ≤ 100000) (H : K.run (.bool (!(ok i)))) : @rdH Try.prog (Instr.lookup 73 wv (.int .i64 (i : Nat)) false) w K := by
  rcases h with ⟨rfl, h⟩ | ⟨mb, M, rfl, h2, h3⟩
  · rw [h i] at H
    exact look_nil (x := (i : Int)) keyI Try.underlying73 zbool (by unfold zok; omega) H
  · refine h2.look1 (x := (i : Int)) keyI Try.underlying73 zbool (by unfold zok; omega) ?_
    rw [h3 i hi]
    exact H
structure UnOk (U : List Un) (N : Nat) : Prop where
  nod : ∀ u ∈ U, u.needs.Nodup
  rng : ∀ u ∈ U, ∀ n ∈ u.needs, n < N
  made : ∀ u ∈ U, u.makes < N
  cost : ∀ u ∈ U, u.cost ≤ 1048576
  op : ∀ u ∈ U, u.op ≤ 4096
/-- The numbers of the facts of a state. -/
def stN (vars s : List Nat) (k : Nat) : List Nat := (List.range k).map fun v => psum vars v + s.getD v 0
end Go.Proofs.Ytcoeknnghfajnaa
end
section
set_option maxRecDepth 100000
set_option linter.unusedSimpArgs false
set_option linter.unusedVariables false
namespace Go.Proofs.Ytcoeknnghfajnaa
open Go Go.W Go.Tk Go.Rx Go.Maps
section
variable {α : Type} {enc : α → List Value} {w w' w1 w2 : World} {v : Value} {ls : List (List α)} {F : List Nat} {A B : Asr}
/-- A table that can be read. -/
def LLV (enc : α → List Value) (w : World) (v : Value) (ls : List (List α)) : Prop := ∃ ps : List (Cell1 × List α), ps.map (·.2) = ls ∧ Vw w v sv1 ps ∧ ∀ p ∈ ps, Vw w p.1.1 enc p.2
theorem LLV.kp (h : LLV enc w v ls) (k : Kp [] w w') : LLV enc w' v ls := by
  obtain ⟨ps, h1, h2, h3⟩ := h
  exact ⟨ps, h1, h2.kp0 k, fun p hp => (h3 p hp).kp0 k⟩
theorem LLA.vw {E : Nat} (h : At w F (Star (LLA v E enc ls) B) w') : LLV enc w' v ls := by
  obtain ⟨ps, h1, h2⟩ := LLA.opn h
  exact ⟨ps, h1, h2.own.vw, fun p hp => h2.drop.vws hp⟩
theorem LLV.at (h : LLV enc w v ls) {i : Nat} {l : List α} (hi : ls[i]? = some l) : ∃ u, oneC u = true ∧ w.cell? (v.adr.add i) = some u ∧ Vw w u enc l := by
  obtain ⟨ps, rfl, h2, h3⟩ := h
  obtain ⟨p, hp, rfl⟩ : ∃ p : Cell1 × List α, ps[i]? = some p ∧ p.2 = l := by
    rw [List.getElem?_map] at hi
    cases hq : ps[i]? with
    | none => rw [hq] at hi; cases hi
    | some p => rw [hq] at hi; exact ⟨p, rfl, Option.some.inj hi⟩
  refine ⟨p.1.1, p.1.2, ?_, h3 p (List.mem_of_getElem? hp)⟩
  simpa using h2.at_ sv1_len hp (o := 0) (u := p.1.1) rfl
theorem LLV.spread (h : LLV enc w v ls) : ∃ ps : List (Cell1 × List α), ps.length = ls.length ∧ Vw w v sv1 ps ∧ ∀ (i : Nat) (p : Cell1 × List α), ps[i]? = some p → ∃ l, ls[i]? = some l ∧ Vw w p.1.1 enc l := by
  obtain ⟨ps, rfl, h2, h3⟩ := h
  exact ⟨ps, by simp, h2, fun i p hp => ⟨p.2, by rw [List.getElem?_map, hp]; rfl, h3 p (List.mem_of_getElem? hp)⟩⟩
/-- What a callee made since its start, beside what is there. -/
theorem At.join (hB : Lcl B) (h : At w F B w1) (t : At w1 [] (Star A Emp) w2) : At w F (Star A B) w2 := by
  obtain ⟨F1, ⟨Fa, Fe, h1, h2, hd, rfl⟩, hs⟩ := t.ex
  refine h.more hB t.kp ⟨Fa, h1, fun x hx => ?_⟩
  rcases hs x (by simp [hx]) with h3 | h3
  · cases h3
  · exact h3
end
/-- The row of a variable; the rows of the first variables. -/
def rwI (vars : List Nat) (g : Nat → Int) (v : Nat) : List Int := (List.range (vars.getD v 0)).map fun x => g (psum vars v + x)
def tbK (vars : List Nat) (g : Nat → Int) (k : Nat) : List (List Int) := (List.range k).map (rwI vars g)
def tbI (vars : List Nat) (g : Nat → Int) : List (List Int) := tbK vars g vars.length
theorem tbK_len (vars : List Nat) (g : Nat → Int) (k : Nat) : (tbK vars g k).length = k := by simp [tbK]
end Go.Proofs.Ytcoeknnghfajnaa
end
