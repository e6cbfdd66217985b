/-
  A part of the proofs of this seat's statements (PqHeap); no conditions beyond those each theorem names.
-/
import Derived.Test.YtgdkcdjdmgnjaaaWalk3
set_option linter.unusedVariables false
set_option linter.unusedSimpArgs false
namespace Go.Pq
open Go Go.W
theorem bef_iff (a b : En) : bef a b = true ↔ a.key < b.key ∨ (a.key = b.key ∧ (a.tie < b.tie ∨ (a.tie = b.tie ∧ a.num < b.num))) := by
  unfold bef
  by_cases h1 : a.key = b.key
  · by_cases h2 : a.tie = b.tie
    · simp [h1, h2]
    · simp [h1, h2]
  · simp [h1]
theorem bef_irr (a : En) : bef a a = false := by
  cases h : bef a a with
  | false => rfl
  | true => rw [bef_iff] at h; omega
theorem bef_trans {a b c : En} (h : bef a b = true) (k : bef b c = true) : bef a c = true := by
  rw [bef_iff] at *; omega
theorem nbef_trans {a b c : En} (h : bef b a = false) (k : bef c b = false) : bef c a = false := by
  have h' : ¬ (bef b a = true) := by simp [h]
  have k' : ¬ (bef c b = true) := by simp [k]
  cases e : bef c a with
  | false => rfl
  | true => rw [bef_iff] at *; omega
theorem bef_asym {a b : En} (h : bef a b = true) : bef b a = false := by
  cases e : bef b a with
  | false => rfl
  | true => have := bef_trans h e; rw [bef_irr] at this; cases this

theorem gt_lt {l : List En} {i : Nat} (h : i < l.length) : gt l i = l[i] := by simp [gt, h]
theorem gt_set {l : List En} {i j : Nat} {x : En} (hj : j < l.length) : gt (l.set i x) j = if i = j then x else gt l j := by
  rw [gt_lt (by simpa using hj), gt_lt hj, List.getElem_set]
theorem gt_swp {l : List En} {i p j : Nat} (hi : i < l.length) (hp : p < l.length) (hj : j < l.length) : gt (swp l i p) j = if j = p then gt l i else if j = i then gt l p else gt l j := by
  unfold swp
  rw [gt_set (by simpa using hj), gt_set hj]
  by_cases h1 : p = j
  · subst h1; simp
  · by_cases h2 : i = j
    · subst h2; simp [h1, Ne.symm h1]
    · simp [h1, h2, Ne.symm h1, Ne.symm h2]
theorem swp_perm {l : List En} {i p : Nat} (hi : i < l.length) (hp : p < l.length) : (swp l i p).Perm l := by
  have h : swp l i p = (l.toArray.swap i p (by simpa using hi) (by simpa using hp)).toList := by
    simp [swp, Array.swap_def, gt_lt hi, gt_lt hp]
  rw [h]
  exact (Array.swap_perm (by simpa using hi) (by simpa using hp)).toList

/-- No child comes before its parent, for the parents from s on. -/
def HeapFrom (s : Nat) (l : List En) : Prop := ∀ j, 0 < j → j < l.length → s ≤ (j - 1) / 2 → bef (gt l j) (gt l ((j - 1) / 2)) = false

theorem upL_ok : ∀ (i : Nat) (l : List En), i < l.length →
    (∀ j, 0 < j → j < l.length → j ≠ i → bef (gt l j) (gt l ((j - 1) / 2)) = false) →
    (∀ j, 0 < j → j < l.length → (j - 1) / 2 = i → 0 < i → bef (gt l j) (gt l ((i - 1) / 2)) = false) →
    HeapFrom 0 (upL l i) ∧ (upL l i).Perm l := by
  intro i
  induction i using Nat.strongRecOn with
  | _ i ih =>
    intro l hi h1 h2
    rw [upL]
    by_cases h0 : i = 0
    · rw [dif_pos h0]
      refine ⟨fun j hj hjl _ => h1 j hj hjl (by omega), List.Perm.refl _⟩
    · rw [dif_neg h0]
      cases hb : bef (gt l i) (gt l ((i - 1) / 2)) with
      | false =>
        simp only [Bool.false_eq_true, if_false]
        refine ⟨fun j hj hjl _ => ?_, List.Perm.refl _⟩
        by_cases hji : j = i
        · subst hji; exact hb
        · exact h1 j hj hjl hji
      | true =>
        simp only [if_true]
        obtain ⟨p, hp⟩ : ∃ p, p = (i - 1) / 2 := ⟨_, rfl⟩
        rw [← hp] at hb h2 ⊢
        have hpl : p < l.length := by omega
        have hpi : p < i := by omega
        obtain ⟨r1, r2⟩ := ih p hpi (swp l i p) (by simpa using hpl)
          (fun j hj hjl hjp => by
            have hjl' : j < l.length := by simpa using hjl
            have hq : (j - 1) / 2 < l.length := by omega
            rw [gt_swp hi hpl hjl', gt_swp hi hpl hq, if_neg hjp]
            by_cases hji : j = i
            · subst hji
              rw [if_pos rfl, ← hp, if_pos rfl]
              exact bef_asym hb
            · rw [if_neg hji]
              by_cases hqp : (j - 1) / 2 = p
              · rw [if_pos hqp]
                have := h1 j hj hjl' hji
                rw [hqp] at this
                exact nbef_trans (bef_asym hb) this
              · rw [if_neg hqp]
                by_cases hqi : (j - 1) / 2 = i
                · rw [if_pos hqi]
                  exact h2 j hj hjl' hqi (by omega)
                · rw [if_neg hqi]
                  exact h1 j hj hjl' hji)
          (fun j hj hjl hjp hp0 => by
            have hjl' : j < l.length := by simpa using hjl
            have hq : (p - 1) / 2 < l.length := by omega
            rw [gt_swp hi hpl hjl', gt_swp hi hpl hq, if_neg (by omega), if_neg (show ¬ (p - 1) / 2 = p by omega), if_neg (show ¬ (p - 1) / 2 = i by omega)]
            have hpp := h1 p hp0 hpl (by omega)
            by_cases hji : j = i
            · rw [if_pos hji]; exact hpp
            · rw [if_neg hji]
              have := h1 j hj hjl' hji
              rw [hjp] at this
              exact nbef_trans hpp this)
        exact ⟨r1, r2.trans (swp_perm hi hpl)⟩

theorem kid_le {l : List En} {i : Nat} (h : 2 * i + 1 < l.length) : kid l i < l.length ∧ (kid l i - 1) / 2 = i ∧ i < kid l i := by
  unfold kid; split <;> omega
theorem kid_min {l : List En} {i j : Nat} (hj : 0 < j) (hjl : j < l.length) (hp : (j - 1) / 2 = i) : bef (gt l j) (gt l (kid l i)) = false := by
  have h1 : j = 2 * i + 1 ∨ j = 2 * i + 2 := by omega
  unfold kid
  rcases h1 with rfl | rfl
  · split
    · rename_i h; exact bef_asym h.2
    · exact bef_irr _
  · split
    · exact bef_irr _
    · rename_i h
      cases e : bef (gt l (2 * i + 2)) (gt l (2 * i + 1)) with
      | false => rfl
      | true => exact absurd ⟨hjl, e⟩ h

theorem downL_ok (s : Nat) : ∀ (n i : Nat) (l : List En), l.length - i ≤ n → s ≤ i →
    (∀ j, 0 < j → j < l.length → s ≤ (j - 1) / 2 → (j - 1) / 2 ≠ i → bef (gt l j) (gt l ((j - 1) / 2)) = false) →
    (∀ j, 0 < j → j < l.length → (j - 1) / 2 = i → 0 < i → s ≤ (i - 1) / 2 → bef (gt l j) (gt l ((i - 1) / 2)) = false) →
    HeapFrom s (downL l i) ∧ (downL l i).Perm l := by
  intro n
  induction n with
  | zero =>
    intro i l hn hs h1 h2
    rw [downL, dif_pos (by omega)]
    exact ⟨fun j hj hjl hjs => h1 j hj hjl hjs (by omega), List.Perm.refl _⟩
  | succ n ih =>
    intro i l hn hs h1 h2
    rw [downL]
    by_cases hlen : l.length ≤ 2 * i + 1
    · rw [dif_pos hlen]
      exact ⟨fun j hj hjl hjs => h1 j hj hjl hjs (by omega), List.Perm.refl _⟩
    · rw [dif_neg hlen]
      obtain ⟨hk1, hk2, hk3⟩ := kid_le (l := l) (i := i) (by omega)
      cases hb : bef (gt l (kid l i)) (gt l i) with
      | false =>
        simp only [Bool.false_eq_true, if_false]
        refine ⟨fun j hj hjl hjs => ?_, List.Perm.refl _⟩
        by_cases hp : (j - 1) / 2 = i
        · rw [hp]; exact nbef_trans hb (kid_min hj hjl hp)
        · exact h1 j hj hjl hjs hp
      | true =>
        simp only [if_true]
        have hmin : ∀ j, 0 < j → j < l.length → (j - 1) / 2 = i → bef (gt l j) (gt l (kid l i)) = false := fun j => kid_min
        generalize kid l i = k at *
        have hil : i < l.length := by omega
        obtain ⟨r1, r2⟩ := ih k (swp l i k) (by simp; omega) (by omega)
          (fun j hj hjl hjs hjp => by
            have hjl' : j < l.length := by simpa using hjl
            have hq : (j - 1) / 2 < l.length := by omega
            rw [gt_swp hil hk1 hjl', gt_swp hil hk1 hq, if_neg hjp]
            by_cases hjk : j = k
            · subst hjk
              rw [if_pos rfl, if_pos hk2]
              exact bef_asym hb
            · rw [if_neg hjk]
              by_cases hji : j = i
              · subst hji
                rw [if_pos rfl, if_neg (by omega)]
                exact h2 k (by omega) hk1 hk2 hj hjs
              · rw [if_neg hji]
                by_cases hqi : (j - 1) / 2 = i
                · rw [if_pos hqi]; exact hmin j hj hjl' hqi
                · rw [if_neg hqi]; exact h1 j hj hjl' hjs hqi)
          (fun j hj hjl hjp hk0 hks => by
            have hjl' : j < l.length := by simpa using hjl
            rw [hk2] at hks ⊢
            rw [gt_swp hil hk1 hjl', gt_swp hil hk1 hil, if_neg (show ¬ j = k by omega), if_neg (show ¬ j = i by omega), if_neg (show ¬ i = k by omega), if_pos rfl]
            have := h1 j hj hjl' (by omega) (by omega)
            rw [hjp] at this
            exact this)
        exact ⟨r1, r2.trans (swp_perm hil hk1)⟩

open Go.Proofs.Ytgdkcdjdmgnjaaa in
theorem downs_ok : ∀ (n : Nat) (l : List En), HeapFrom n l → HeapFrom 0 (downs n l) ∧ (downs n l).Perm l
  | 0, l, h => ⟨h, List.Perm.refl _⟩
  | n + 1, l, h => by
    obtain ⟨r1, r2⟩ := downL_ok n (l.length - n) n l (Nat.le_refl _) (Nat.le_refl _) (fun j hj hjl hjs hjp => h j hj hjl (by omega)) (fun j hj hjl hjp hn hns => by omega)
    obtain ⟨s1, s2⟩ := downs_ok n (downL l n) r1
    exact ⟨s1, s2.trans r2⟩

theorem root_min {l : List En} (h : HeapFrom 0 l) : ∀ n j, j < n → j < l.length → bef (gt l j) (gt l 0) = false := by
  intro n
  induction n with
  | zero => intro j hj; omega
  | succ n ih =>
    intro j hj hjl
    by_cases h0 : j = 0
    · subst h0; exact bef_irr _
    · exact nbef_trans (ih ((j - 1) / 2) (by omega) (by omega)) (h j (by omega) hjl (Nat.zero_le _))

/-! ### The sorted list -/
def insS (e : En) : List En → List En
  | [] => [e]
  | x :: s => if bef x e then x :: insS e s else e :: x :: s
theorem insS_perm (e : En) : ∀ s, (insS e s).Perm (e :: s)
  | [] => List.Perm.refl _
  | x :: s => by
    unfold insS
    split
    · exact ((insS_perm e s).cons x).trans (List.Perm.swap e x s)
    · exact List.Perm.refl _
def Srt (s : List En) : Prop := s.Pairwise fun a b => bef a b = true
theorem insS_srt (e : En) : ∀ s, Srt s → (∀ x ∈ s, x.num < e.num) → Srt (insS e s)
  | [], _, _ => by simp [insS, Srt]
  | x :: s, h, hn => by
    unfold insS
    have hx := List.pairwise_cons.1 h
    split
    · rename_i hb
      refine List.pairwise_cons.2 ⟨fun y hy => ?_, insS_srt e s hx.2 (fun y hy => hn y (by simp [hy]))⟩
      rcases List.mem_cons.1 ((insS_perm e s).subset hy) with rfl | hy
      · exact hb
      · exact hx.1 y hy
    · rename_i hb
      have hex : bef e x = true := by
        have := hn x (by simp)
        rw [bef_iff] at *
        omega
      refine List.pairwise_cons.2 ⟨fun y hy => ?_, h⟩
      rcases List.mem_cons.1 hy with rfl | hy
      · exact hex
      · exact bef_trans hex (hx.1 y hy)

/-- A heap of the entries of a sorted list. -/
structure Rp (l s : List En) (nx : Int) : Prop where
  perm : l.Perm s
  heap : HeapFrom 0 l
  srt : Srt s
  num : ∀ x ∈ s, 0 ≤ x.num ∧ x.num < nx

theorem Rp.push {l s : List En} {nx : Int} (h : Rp l s nx) (h0 : 0 ≤ nx) (a b c : Int) : Rp (upL (l ++ [⟨a, b, c, nx⟩]) l.length) (insS ⟨a, b, c, nx⟩ s) (nx + 1) := by
  have hg : ∀ j, j < l.length → gt (l ++ [⟨a, b, c, nx⟩]) j = gt l j := fun j hj => by
    rw [gt_lt (by simp; omega), gt_lt hj, List.getElem_append_left hj]
  obtain ⟨r1, r2⟩ := upL_ok l.length (l ++ [⟨a, b, c, nx⟩]) (by simp)
    (fun j hj hjl hne => by
      have : j < l.length := by simp at hjl; omega
      rw [hg j this, hg _ (by omega)]
      exact h.heap j hj this (Nat.zero_le _))
    (fun j hj hjl hp => by simp at hjl; omega)
  have hp : (upL (l ++ [⟨a, b, c, nx⟩]) l.length).Perm (insS ⟨a, b, c, nx⟩ s) :=
    r2.trans ((List.perm_append_singleton _ _).trans ((h.perm.cons _).trans (insS_perm _ s).symm))
  refine ⟨hp, r1, insS_srt _ s h.srt (fun x hx => (h.num x hx).2), fun x hx => ?_⟩
  rcases List.mem_cons.1 ((insS_perm _ s).subset hx) with rfl | hx
  · exact ⟨h0, by show nx < nx + 1; omega⟩
  · have := h.num x hx; omega

theorem Rp.head {x y : En} {l s : List En} {nx : Int} (h : Rp (x :: l) (y :: s) nx) : x = y := by
  have hx : x ∈ y :: s := h.perm.subset (by simp)
  have hy : y ∈ x :: l := h.perm.symm.subset (by simp)
  rcases List.mem_cons.1 hx with rfl | hx
  · rfl
  · have h1 := (List.pairwise_cons.1 h.srt).1 x hx
    obtain ⟨i, hi, he⟩ := List.getElem_of_mem hy
    have h2 := root_min h.heap (i + 1) i (Nat.lt_succ_self i) hi
    rw [gt_lt hi, he] at h2
    have h3 : gt (x :: l) 0 = x := rfl
    rw [h3, h1] at h2
    cases h2

open Go.Proofs.Ytgdkcdjdmgnjaaa in
theorem Rp.pop {x : En} {l s : List En} {nx : Int} (h : Rp (x :: l) (x :: s) nx) : Rp (popL (x :: l)) s nx := by
  have hp0 : l.Perm s := List.Perm.cons_inv h.perm
  have hlen : (x :: l).length - 1 = l.length := by simp
  unfold popL
  rw [hlen]
  obtain ⟨l1, hl1⟩ : ∃ l1, l1 = ((x :: l).set 0 (gt (x :: l) l.length)).take l.length := ⟨_, rfl⟩
  rw [← hl1]
  have hperm : l1.Perm l := by
    rw [hl1]
    cases hl : l.reverse with
    | nil =>
      have : l = [] := by simpa using hl
      subst this
      simp
    | cons y r =>
      have hl' : l = r.reverse ++ [y] := by
        have := congrArg List.reverse hl
        simpa using this
      rw [hl']
      have hgl : gt (x :: (r.reverse ++ [y])) (r.reverse ++ [y]).length = y := by
        rw [gt_lt (by simp)]
        simp [List.getElem_append]
      rw [hgl]
      have e : (x :: (r.reverse ++ [y])).set 0 y = y :: (r.reverse ++ [y]) := rfl
      rw [e]
      have e2 : (y :: (r.reverse ++ [y])).take (r.reverse ++ [y]).length = y :: r.reverse := by
        simp [List.take_append]
      rw [e2]
      exact (List.perm_append_singleton y r.reverse).symm
  have hl1len : l1.length = l.length := hperm.length_eq
  have hg : ∀ j, 0 < j → j < l1.length → gt l1 j = gt (x :: l) j := fun j hj hjl => by
    have hj1 : j < (x :: l).length := by simp; omega
    rw [gt_lt hjl, gt_lt hj1]
    simp only [hl1, List.getElem_take, List.getElem_set]
    rw [if_neg (by omega)]
  obtain ⟨r1, r2⟩ := downL_ok 0 (l1.length - 0) 0 l1 (Nat.le_refl _) (Nat.le_refl _)
    (fun j hj hjl _ hp => by
      have h1 : 0 < (j - 1) / 2 := by omega
      rw [hg j hj hjl, hg _ h1 (by omega)]
      exact h.heap j hj (by simp; omega) (Nat.zero_le _))
    (fun j hj hjl hp h0 => by omega)
  exact ⟨r2.trans (hperm.trans hp0), r1, (List.pairwise_cons.1 h.srt).2, fun y hy => h.num y (by simp [hy])⟩

open Go.Proofs.Ytgdkcdjdmgnjaaa in
theorem Rp.drop {l s : List En} {nx key : Int} (h : Rp l s nx) : Rp (downs ((keep key l).length / 2) (keep key l)) (keep key s) nx := by
  obtain ⟨r1, r2⟩ := downs_ok ((keep key l).length / 2) (keep key l) (fun j hj hjl hjs => by omega)
  exact ⟨r2.trans (h.perm.filter _), r1, h.srt.filter _, fun x hx => h.num x (List.mem_filter.1 hx).1⟩
theorem Rp.nil : Rp [] [] 0 := ⟨List.Perm.refl _, fun j hj hjl => by simp at hjl, List.Pairwise.nil, by simp⟩
end Go.Pq
