/-
  A part of the proofs of this seat's statements (TyWA); no conditions beyond those each theorem names.
-/
import Derived.Test.YtcpmeficpboklaaTyW9
set_option maxRecDepth 100000
set_option linter.unusedSimpArgs false
set_option linter.unusedVariables false
namespace Go.Proofs.Ytcpmeficpboklaa
open Go Go.W Go.Ty
/-- The first number below n at which p holds. -/
def fst? (p : Nat → Bool) (n : Nat) : Option Nat := (List.range n).find? p
theorem fst_none {p : Nat → Bool} {n : Nat} (h : ∀ j, j < n → p j = false) : fst? p n = none := by
  rw [fst?, List.find?_eq_none]
  intro x hx
  simp [h x (List.mem_range.1 hx)]
theorem fst_some {p : Nat → Bool} {n k : Nat} (hk : k < n) (h : ∀ j, j < k → p j = false) (hp : p k = true) : fst? p n = some k := by
  rw [fst?, List.find?_eq_some_iff_append]
  refine ⟨hp, List.range k, (List.range' (k + 1) (n - k - 1)), ?_, fun a ha => by simp [h a (List.mem_range.1 ha)]⟩
  rw [List.range_eq_range', List.range_eq_range']
  have : n = k + (1 + (n - k - 1)) := by omega
  conv => lhs; rw [this]
  rw [← List.range'_append_1, ← List.range'_append_1]
  simp
def badN (l : List Pr) (k : Nat) : Bool := !nameB (gp l k).1 || (decide ((gp l k).2 ≠ rootS) && !nameB (gp l k).2)
def dupN (l : List Pr) (k : Nat) : Bool := (getM (l.take k) (gp l k).1).isSome
def lostN (l : List Pr) (k : Nat) : Bool := !hasB l (gp l k).2
def cycN (l : List Pr) (k : Nat) : Bool := cycR l (gp l k).1 l.length (gp l k).1
/-- The first error: its index and its number. -/
def newE (l : List Pr) : Option (Nat × Int) :=
  if 64 < l.length then some (0, 5) else
  match fst? (badN l) l.length with
  | some i => some (i, 8)
  | none => match fst? (dupN l) l.length with
    | some i => some (i, 4)
    | none => match fst? (lostN l) l.length with
      | some i => some (i, 3)
      | none => (fst? (cycN l) l.length).map fun i => (i, 21)
theorem putM_new {l : List Pr} {k : Nat} (hk : k < l.length) (h : dupN l k = false) : putM (l.take k) (gp l k).1 (gp l k).2 = l.take (k + 1) := by
  have h1 : l.take (k + 1) = l.take k ++ [gp l k] := by
    rw [List.take_succ_eq_append_getElem hk]
    have := gp_at hk
    rw [List.getElem?_eq_getElem hk] at this
    rw [Option.some.inj this]
  rw [putM, if_neg, h1]
  simp only [dupN, getM, Option.isSome_map, Option.isSome_eq_false_iff, Option.isNone_iff_eq_none, List.find?_eq_none] at h
  simp only [List.any_eq_true, not_exists, not_and]
  exact h
end Go.Proofs.Ytcpmeficpboklaa
