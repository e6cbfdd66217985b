/-
  A part of the proof of this claim's statement (SyPlain): plain theorems; no conditions beyond those each names.
-/
import Derived.Test.YtcoeknnghfajnaaPk02
section
set_option linter.unusedVariables false
set_option linter.unusedSimpArgs false
namespace Go.Sy
/-- A number by its nBits, the most significant one first. -/
def valK (g : Nat → Bool) : Nat → Nat
  | 0 => 0
  | k + 1 => 2 * valK g k + (if g k = true then 1 else 0)
theorem valK_lt (g : Nat → Bool) : ∀ w, valK g w < 2 ^ w
  | 0 => by simp [valK]
  | w + 1 => by
    have := valK_lt g w
    unfold valK
    rw [Nat.pow_succ]
    split <;> omega
theorem valK_congr {g h : Nat → Bool} : ∀ w, (∀ k, k < w → g k = h k) → valK g w = valK h w
  | 0, _ => rfl
  | w + 1, e => by
    unfold valK
    rw [valK_congr w fun k hk => e k (by omega), e w (by omega)]
theorem valK_eq {g : Nat → Bool} : ∀ (w x : Nat), x < 2 ^ w → ((∀ k, k < w → g k = x.testBit (w - 1 - k)) ↔ valK g w = x)
  | 0, x, h => by
    have : x = 0 := by simpa using h
    subst this
    simp [valK]
  | w + 1, x, h => by
    rw [Nat.pow_succ] at h
    have ih := valK_eq (g := g) w (x / 2) (by omega)
    have e : ∀ k, k < w → x.testBit (w + 1 - 1 - k) = (x / 2).testBit (w - 1 - k) := fun k hk => by
      rw [show w + 1 - 1 - k = (w - 1 - k) + 1 by omega, Nat.testBit_succ]
    have e0 : x.testBit (w + 1 - 1 - w) = decide (x % 2 = 1) := by
      rw [show w + 1 - 1 - w = 0 by omega, Nat.testBit_zero]
    constructor
    · intro h1
      have h2 := ih.1 fun k hk => by rw [h1 k (by omega), e k hk]
      have h3 := h1 w (by omega)
      rw [e0] at h3
      unfold valK
      rw [h2, h3]
      by_cases hx : x % 2 = 1
      · simp [hx]; omega
      · simp [hx]; omega
    · intro h1 k hk
      unfold valK at h1
      have hb : (if g w = true then 1 else 0 : Nat) ≤ 1 := by split <;> omega
      have h2 : valK g w = x / 2 := by omega
      by_cases hkw : k < w
      · rw [e k hkw]
        exact ih.2 h2 k hkw
      · have : k = w := by omega
        subst this
        rw [e0]
        cases hg : g k with
        | true =>
          rw [hg] at h1
          simp at h1
          symm
          rw [decide_eq_true_iff]
          omega
        | false =>
          rw [hg] at h1
          simp at h1
          symm
          rw [decide_eq_false_iff_not]
          omega
theorem valK_bits {w x : Nat} (h : x < 2 ^ w) : valK (fun k => x.testBit (w - 1 - k)) w = x := (valK_eq w x h).1 fun k _ => rfl
/-- The nBits of a variable of n values. -/
def wd (n : Nat) : Nat := if n ≤ 1 then 0 else if n ≤ 2 then 1 else if n ≤ 4 then 2 else if n ≤ 8 then 3 else if n ≤ 16 then 4 else if n ≤ 32 then 5 else 6
theorem wd_le (n : Nat) : wd n ≤ 6 := by unfold wd; (repeat' split) <;> omega
theorem wd_ge {n : Nat} (h : n ≤ 64) : n ≤ 2 ^ wd n := by
  unfold wd
  (repeat' split) <;> simp <;> omega
theorem wd_lt {n w : Nat} (h : w < wd n) : 2 ^ w < n := by
  unfold wd at h
  have key : w = 0 ∨ w = 1 ∨ w = 2 ∨ w = 3 ∨ w = 4 ∨ w = 5 := by
    (repeat' split at h) <;> omega
  rcases key with rfl | rfl | rfl | rfl | rfl | rfl <;> simp <;> (repeat' split at h) <;> omega
theorem wd_loop {n w : Nat} (h : n ≤ 64) (hw : w ≤ wd n) : 2 ^ w < n ↔ w < wd n := by
  refine ⟨fun h1 => ?_, wd_lt⟩
  apply Nat.lt_of_le_of_ne hw
  intro e
  subst e
  have := wd_ge h
  omega
/-- The first bit of a variable. -/
def bP (vars : List Nat) (v : Nat) : Nat := ((vars.take v).map wd).sum
def nBits (vars : List Nat) : Nat := (vars.map wd).sum
theorem bP_succ {vars : List Nat} {v n : Nat} (h : vars[v]? = some n) : bP vars (v + 1) = bP vars v + wd n := by
  unfold bP
  rw [List.take_add_one, h, List.map_append, List.sum_append]
  simp
theorem bP_all (vars : List Nat) : bP vars vars.length = nBits vars := by unfold bP nBits; rw [List.take_length]
theorem bP_mono {vars : List Nat} {u v : Nat} (h : u ≤ v) : bP vars u ≤ bP vars v := by
  have e : vars.take u = (vars.take v).take u := by rw [List.take_take, Nat.min_eq_left h]
  unfold bP
  rw [e]
  have : ∀ (l : List Nat) (k : Nat), ((l.take k).map wd).sum ≤ (l.map wd).sum := fun l k => by
    conv => rhs; rw [← List.take_append_drop k l, List.map_append, List.sum_append]
    omega
  exact this _ _
theorem bP_in {vars : List Nat} {v n k : Nat} (h : vars[v]? = some n) (hk : k < wd n) : bP vars v + k < nBits vars := by
  have h1 := bP_succ h
  have h2 := (List.getElem?_eq_some_iff.1 h).1
  have h3 := bP_mono (vars := vars) (show v + 1 ≤ vars.length by omega)
  rw [bP_all] at h3
  omega
theorem nBits_le (vars : List Nat) : nBits vars ≤ 6 * vars.length := by
  unfold nBits
  induction vars with
  | nil => simp
  | cons n l ih =>
    have := wd_le n
    simp only [List.map_cons, List.sum_cons, List.length_cons]
    omega
/-- The variable of a bit. -/
def vOf : List Nat → Nat → Nat
  | [], _ => 0
  | n :: l, p => if p < wd n then 0 else vOf l (p - wd n) + 1
theorem vOf_at : ∀ {vars : List Nat} {v n k : Nat}, vars[v]? = some n → k < wd n → vOf vars (bP vars v + k) = v
  | [], v, n, k, h, _ => by simp at h
  | m :: l, 0, n, k, h, hk => by
    simp at h
    subst h
    unfold vOf bP
    simp [hk]
  | m :: l, v + 1, n, k, h, hk => by
    have h : l[v]? = some n := by simpa using h
    have e : bP (m :: l) (v + 1) = wd m + bP l v := by unfold bP; simp
    unfold vOf
    rw [e, if_neg (by omega), show wd m + bP l v + k - wd m = bP l v + k by omega, vOf_at h hk]
/-- The value of a variable, in a state (0) or its successor (1), by an assignment of the nBits. -/
def rv (vars : List Nat) (a : Nat → Bool) (nx v : Nat) : Nat := valK (fun k => a (2 * (bP vars v + k) + nx)) (wd (vars.getD v 0))
theorem rv_lt (vars : List Nat) (a : Nat → Bool) (nx v : Nat) : rv vars a nx v < 2 ^ wd (vars.getD v 0) := valK_lt _ _
def rs (vars : List Nat) (a : Nat → Bool) (nx : Nat) : List Nat := (List.range vars.length).map (rv vars a nx)
theorem rs_len (vars : List Nat) (a : Nat → Bool) (nx : Nat) : (rs vars a nx).length = vars.length := by simp [rs]
theorem rs_at {vars : List Nat} {a : Nat → Bool} {nx v : Nat} (h : v < vars.length) : (rs vars a nx).getD v 0 = rv vars a nx v := by simp [rs, List.getD, h]
/-- An assignment with given values. -/
def mk2 (vars : List Nat) (x y : List Nat) (i : Nat) : Bool :=
  let v := vOf vars (i / 2)
  ((if i % 2 = 0 then x else y).getD v 0).testBit (wd (vars.getD v 0) - 1 - (i / 2 - bP vars v))
theorem mk2_at {vars x y : List Nat} {v n k nx : Nat} (h : vars[v]? = some n) (hk : k < wd n) (hn : nx < 2) : mk2 vars x y (2 * (bP vars v + k) + nx) = ((if nx = 0 then x else y).getD v 0).testBit (wd n - 1 - k) := by
  have e1 : (2 * (bP vars v + k) + nx) / 2 = bP vars v + k := by omega
  have e2 : (2 * (bP vars v + k) + nx) % 2 = nx := by omega
  have e3 : vars.getD v 0 = n := by simp [List.getD, h]
  unfold mk2
  simp only [e1, e2, vOf_at h hk, e3]
  rw [show bP vars v + k - bP vars v = k by omega]
theorem rv_mk2 {vars x y : List Nat} {v nx : Nat} (hv : v < vars.length) (hn : nx < 2) (hx : (if nx = 0 then x else y).getD v 0 < 2 ^ wd (vars.getD v 0)) : rv vars (mk2 vars x y) nx v = (if nx = 0 then x else y).getD v 0 := by
  obtain ⟨n, h⟩ : ∃ n, vars[v]? = some n := ⟨_, List.getElem?_eq_getElem hv⟩
  have e3 : vars.getD v 0 = n := by simp [List.getD, h]
  rw [e3] at hx
  unfold rv
  rw [e3]
  rw [valK_congr _ fun k hk => mk2_at h hk hn]
  exact valK_bits hx
end Go.Sy
end
