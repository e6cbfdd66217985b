/-
  The walker's library, part LibN: plain theorems that the proofs of this seat use; no conditions beyond those each theorem names.
-/
import Derived.Test.YtjpbkljnllkneaaLibQ
set_option linter.unusedVariables false
set_option linter.unusedSimpArgs false
namespace Go.W
open Go Go.ChangeShapes Go.WideShapes Go.ChangeAt Go.RowKit Go.Deep
section
variable {H : Type} {enc : TypeId × Value → H} {P : Program}
/-- A slice in the input, by its elements. -/
theorem el_vw {α : Type} {encα : α → List Value} {ok : α → Prop} {W : World} {t e : TypeId} {sz : Nat} {v : Value} {fu : Nat} {x : DataW H × List MemPlace} (ht : P.underlying t = some (.slice e)) (hC : P.cellsOf e = sz) (hz : 0 < sz) (he : ∀ x, (encα x).length = sz)
    (hel : ∀ n cs x, cs.length = sz → DataW.trod enc P W 0 (fun _ => true) true n e cs = some x → ∃ a, cs = encα a ∧ ok a) 
    (h : DataW.trod enc P W 0 (fun _ => true) true fu t [v] = some x) :
    ∃ l : List α, Vw W v encα l ∧ (∀ a ∈ l, ok a) ∧ l.length ≤ maxLen := by
  rcases open_slice ht h with ⟨hcs, hx⟩ | ⟨a, len, cap, m, n, D, Pl, hcs, hb, hl, hm, hmm, hx, hi⟩
  · simp at hcs
    subst hcs
    exact ⟨[], Vw.nil _ _, by simp, by simp⟩
  · simp at hcs
    subst hcs
    simp only [if_true] at hmm
    subst hmm
    obtain ⟨n0, hn0⟩ : ∃ n0, n0 = len := ⟨_, rfl⟩
    rw [← hn0] at hl ⊢
    have key : ∀ k, k ≤ m → ∃ l : List α, l.length = k ∧ (∀ x ∈ l, ok x) ∧ ∀ j u, (l.flatMap encα)[j]? = some u → W.cell? (a.add j) = some u := by
      intro k
      induction k with
      | zero => exact fun _ => ⟨[], rfl, by simp, by simp⟩
      | succ k ih =>
        intro hk
        obtain ⟨l, hll, ho, hc⟩ := ih (by omega)
        obtain ⟨cs, hcs, htr⟩ := hi k (by omega)
        rw [hC] at hcs
        obtain ⟨_, hlen, hat⟩ := World.cells?_some hcs
        obtain ⟨x, rfl, hox⟩ := hel _ _ _ hlen htr
        refine ⟨l ++ [x], by simp [hll], ?_, ?_⟩
        · intro y hy
          rcases List.mem_append.1 hy with h1 | h1
          · exact ho y h1
          · simp at h1; subst h1; exact hox
        · intro j u hj
          rw [List.flatMap_append, List.flatMap_cons, List.flatMap_nil, List.append_nil] at hj
          have hfl := flatMap_len he l
          rw [hll] at hfl
          by_cases hjl : j < k * sz
          · rw [List.getElem?_append_left (by omega)] at hj
            exact hc j u hj
          · rw [List.getElem?_append_right (by omega), hfl] at hj
            have hjs : j - k * sz < sz := by have h9 := (List.getElem?_eq_some_iff.1 hj).1; rw [he x] at h9; exact h9
            have := hat (j - k * sz) hjs
            rw [Go.Deep.add_add, show k * sz + (j - k * sz) = j by omega] at this
            rw [this]; exact hj
    obtain ⟨l, hll, ho, hc⟩ := key m (Nat.le_refl _)
    have hvw : Vw W (.slice (some a) n0 m) encα (l.take n0) := by
      have hlen : (l.take n0).length = n0 := by simp; omega
      refine .inr ⟨a, m, by rw [hlen], by omega, fun hne => ?_, fun j u hj => hc j u ?_⟩
      · have hn0 : 0 < n0 := by
          rcases Nat.eq_zero_or_pos n0 with h0 | h0
          · subst h0; simp at hne
          · exact h0
        obtain ⟨cs, hcs, _⟩ := hi 0 (by omega)
        rw [hC] at hcs
        obtain ⟨_, hlen', hat⟩ := World.cells?_some hcs
        have h1 := hat 0 hz
        rw [List.getElem?_eq_getElem (by omega)] at h1
        have := World.cell?_spot h1
        rw [Go.Deep.add_add] at this
        simp at this
        simpa [Addr.add] using this
      · have : l.flatMap encα = (l.take n0).flatMap encα ++ (l.drop n0).flatMap encα := by rw [← List.flatMap_append, List.take_append_drop]
        rw [this, List.getElem?_append_left (List.getElem?_eq_some_iff.1 hj).1]
        exact hj
    exact ⟨_, hvw, fun x hx => ho x (List.mem_of_mem_take hx), by rw [List.length_take]; omega⟩
end
end Go.W
