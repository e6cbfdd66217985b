/-
  A part of the proofs of this seat's statements (RxW1); no conditions beyond those each theorem names.
-/
import Derived.Test.YtcplpogmbacnfaaTkWt
import Derived.Test.YtcplpogmbacnfaaRxPa
import Derived.Test.YtcplpogmbacnfaaLibS
set_option maxRecDepth 100000
set_option linter.unusedSimpArgs false
set_option linter.unusedVariables false
namespace Go.Proofs.Ytcplpogmbacnfaa
open Go Go.W Go.Tk Go.Rx
theorem sl_nil {v : Value} {α : Type} {enc : α → List Value} {l : List α} {w : World} (h : Vw w v enc l) : (v = .slice none 0 0 ∧ l = []) ∨ ∃ a cap, v = .slice (some a) l.length cap := by
  rcases h with h | ⟨a, cap, rfl, _⟩
  · exact .inl h
  · exact .inr ⟨a, cap, rfl⟩
theorem cloneI_spec {w : World} (v : Value) (l : List Nat) (hv : Vw w v nE l) (hl : l.length ≤ 1000000) :
    Calls Try.prog 31 [v].toArray w fun e w' => ∃ u, e = .returned u ∧ Nw w w' u 3 1 nE l := by
  refine enter Try.func31 mixed low31 (Nat.le_of_ble_eq_true rfl) ?_
  simp only [L31]
  have h0 : At w [] Emp w := At.start rfl
  rcases sl_nil hv with ⟨rfl, rfl⟩ | ⟨a, cap, rfl⟩
  · simp
    exact Nw.of (At.nil (E := 3) (sz := 1) (enc := nE) .emp h0)
  · simp [rowOf]
    have h1 := h0.lit (xs := ([] : List Nat)) (enc := nE) (E := 3) (sz := 1) (cs := #[]) (m := 0) .emp (by simp) nE_len (by simp [maxLen]) rfl
    refine At.appendV (xs := l) .emp h1 (hv.kp0 ((Kp.refl [] w).alloc _)) nE_len nE_one sl_22 (by simp; omega) (by simp; unfold maxLen; omega) fun v' w2 h2 => ?_
    simp
    exact Nw.of (by simpa using h2)
theorem cloneF_spec {w : World} (v : Value) (l : List Fc) (hv : Vw w v fcE l) (hl : l.length ≤ 1000000) :
    Calls Try.prog 55 [v].toArray w fun e w' => ∃ u, e = .returned u ∧ Nw w w' u 58 2 fcE l := by
  refine enter Try.func55 mixed low55 (Nat.le_of_ble_eq_true rfl) ?_
  simp only [L55]
  have h0 : At w [] Emp w := At.start rfl
  rcases sl_nil hv with ⟨rfl, rfl⟩ | ⟨a, cap, rfl⟩
  · simp
    exact Nw.of (At.nil (E := 58) (sz := 2) (enc := fcE) .emp h0)
  · simp [rowOf]
    have h1 := h0.lit (xs := ([] : List Fc)) (enc := fcE) (E := 58) (sz := 2) (cs := #[]) (m := 0) .emp (by simp) fcE_len (by simp [maxLen]) rfl
    refine At.appendV (xs := l) .emp h1 (hv.kp0 ((Kp.refl [] w).alloc _)) fcE_len fcE_one sl_23 (by simp; omega) (by simp; unfold maxLen; omega) fun v' w2 h2 => ?_
    simp
    exact Nw.of (by simpa using h2)
theorem nE_cell {w : World} {v : Value} {l : List Nat} {k x : Nat} (h : Vw w v nE l) (hx : l[k]? = some x) : w.cell? (v.adr.add k) = some (.int .i64 (x : Nat)) := by
  simpa using h.at_ nE_len hx (o := 0) (u := .int .i64 (x : Nat)) rfl
def NoK (l : List Nat) (n k : Nat) : Prop := ∀ j, j < k → l[j]? ≠ some n
theorem indexI_spec {w : World} (v : Value) (l : List Nat) (n : Nat) (hv : Vw w v nE l) (hl : l.length ≤ 9223372036854775807) :
    Calls Try.prog 85 [v, .int .i64 (n : Nat)].toArray w fun e w' => ∃ x, e = .returned x ∧ (∃ i : Int, x = .int .i64 i ∧ decide (0 ≤ i) = decide (n ∈ l)) ∧ Kp [] w w' := by
  refine enter Try.func85 mixed low85 (Nat.le_of_ble_eq_true rfl) ?_
  simp only [L85]
  simp [hv.len]
  refine range_loop (n := l.length) (by omega) (fun k ρ w' => ρ 0 = v ∧ ρ 1 = .int .i64 (n : Nat) ∧ NoK l n k ∧ Kp [] w w') (by simp) (by simp)
    ⟨by simp, by simp, fun j hj => by omega, Kp.refl _ _⟩ (by decide) (fun _ _ _ _ h => by simpa using h) (fun _ _ _ _ h => by simpa using h) ?_ ?_
  rotate_left
  · rintro ρ w4 ⟨g0, g1, hall, k4⟩
    have : n ∉ l := fun hn => by
      obtain ⟨j, hj, e⟩ := List.getElem_of_mem hn
      exact hall j hj (by rw [List.getElem?_eq_getElem hj, e])
    simp [this]
    exact k4
  rintro k ρ w4 hk hc hlm ⟨g0, g1, hall, k4⟩
  obtain ⟨x, hx⟩ : ∃ x, l[k]? = some x := ⟨_, List.getElem?_eq_getElem hk⟩
  have hv4 := hv.kp0 k4
  by_cases e : n = x
  · subst e
    have : n ∈ l := List.mem_of_getElem? hx
    simp (disch := omega) [g0, g1, hc, hlm, hv4.idx, nE_cell hv4 hx, this]
    exact k4
  · have e' : ((n : Int) == (x : Int)) = false := by simp; omega
    simp (disch := omega) [g0, g1, hc, hlm, hv4.idx, nE_cell hv4 hx, e']
    refine ⟨fun j hj hq => ?_, k4⟩
    rcases (show j < k ∨ j = k by omega) with h | h
    · exact hall j h hq
    · subst h; rw [hx] at hq; exact e (Option.some.inj hq).symm
theorem containsI_spec {w : World} (v : Value) (l : List Nat) (n : Nat) (hv : Vw w v nE l) (hl : l.length ≤ 9223372036854775807) :
    Calls Try.prog 68 [v, .int .i64 (n : Nat)].toArray w fun e w' => ∃ x, e = .returned x ∧ x = .bool (decide (n ∈ l)) ∧ Kp [] w w' := by
  refine enter Try.func68 mixed low68 (Nat.le_of_ble_eq_true rfl) ?_
  simp only [L68]
  simp
  refine cl_of (indexI_spec v l n hv hl) ?_
  rintro _ w5 ⟨⟨i, rfl, hi⟩, k5⟩
  simp [hi]
  exact k5
/-- A relaxation's cells. -/
def relO (vv gv fv : Value) (n : Nat) (uv nd fr : Value) : Obj := .cells #[vv, .slice none 0 0, gv, .slice none 0 0, fv, .int .i64 (n : Nat), uv, nd, fr] 105 (0, 0)
def fcV (f : Fc) : Value := .agg #[.int .i64 (f.1 : Nat), .int .i64 (f.2 : Nat)]
/-- The numbers of the first facts of the variables. -/
def firsts (vars : List Nat) (k : Nat) : List Nat := (List.range k).map (psum vars)
theorem firsts_at {vars : List Nat} {k v : Nat} (h : v < k) : (firsts vars k)[v]? = some (psum vars v) := by simp [firsts, h]
theorem number_spec {w : World} {b : Nat} {vv gv fv uv nd fr : Value} {n : Nat} (vars : List Nat) (f : Fc) (ho : w.heap[b]? = some (relO vv gv fv n uv nd fr)) (hf : Vw w fv nE (firsts vars vars.length)) (h1 : f.1 < vars.length) (h2 : numF vars f ≤ 100000) :
    Calls Try.prog 57 [.pointer (some ⟨b, 0, none⟩), fcV f].toArray w fun e w' => ∃ x, e = .returned x ∧ x = .int .i64 (numF vars f : Nat) ∧ Kp [] w w' := by
  refine enter Try.func57 mixed low57 (Nat.le_of_ble_eq_true rfl) ?_
  simp only [L57]
  have k1 : Kp [] w (w.alloc (.cells #[.int .i64 (f.1 : Nat), .int .i64 (f.2 : Nat)] 58)) := (Kp.refl [] w).alloc _
  have ho1 := k1.blk ho (by simp)
  unfold relO at ho1
  have ob : (w.alloc (.cells #[.int .i64 (f.1 : Nat), .int .i64 (f.2 : Nat)] 58)).heap[w.heap.size]? = some (.cells #[.int .i64 (f.1 : Nat), .int .i64 (f.2 : Nat)] 58 (0, 0)) := alloc_new
  have hf1 := hf.kp0 k1
  have hlt : (f.1 : Int) < (firsts vars vars.length).length := by simp [firsts]; omega
  have e : ((psum vars f.1 : Nat) : Int) + (f.2 : Nat) = ((numF vars f : Nat) : Int) := by unfold numF; simp
  obtain ⟨q, hq⟩ : ∃ q, q = numF vars f := ⟨_, rfl⟩
  rw [← hq] at e h2 ⊢
  simp (disch := omega) [fcV, cell_blk ho1, cell_blk ob, hf1.idx, nE_cell hf1 (firsts_at h1), e, wrap_i64]
  exact k1.drew
end Go.Proofs.Ytcplpogmbacnfaa
