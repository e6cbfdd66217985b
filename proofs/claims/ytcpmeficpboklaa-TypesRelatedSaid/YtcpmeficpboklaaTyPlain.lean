/-
  A part of the proofs of this seat's statements (TyPlain); no conditions beyond those each theorem names.
-/
import Derived.Test.YtcpmeficpboklaaLibC
set_option linter.unusedVariables false
set_option linter.unusedSimpArgs false
namespace Go.Ty
open Go Go.W
theorem beq_str (a b : ByteArray) : (a.toList == b.toList) = decide (a = b) := by
  rw [ByteArray.toList_eq, ByteArray.toList_eq]
  obtain ⟨⟨x⟩⟩ := a
  obtain ⟨⟨y⟩⟩ := b
  show (x == y) = _
  by_cases h : x = y
  · subst h; simp
  · have : ¬ (⟨⟨x⟩⟩ : ByteArray) = ⟨⟨y⟩⟩ := fun e => h (by injection e with e; injection e)
    simp [h, this]
theorem beq_dec (a b : ByteArray) : (a == b) = decide (a = b) := (beq_toListBytes a b).trans (beq_str a b)
instance : LawfulBEq ByteArray := {
  eq_of_beq := fun {a b} h => by rw [beq_dec] at h; simpa using h
  rfl := fun {a} => by rw [beq_dec]; simp }
abbrev Pr := ByteArray × ByteArray
def ep (p : Pr) : List Value := [.string p.1, .string p.2]
theorem ep_len (p : Pr) : (ep p).length = 2 := rfl
theorem ep_one (p : Pr) : (ep p).all oneC = true := rfl
def gp (l : List Pr) (k : Nat) : Pr := l.getD k (ByteArray.empty, ByteArray.empty)
theorem gp_at {l : List Pr} {k : Nat} (h : k < l.length) : l[k]? = some (gp l k) := by simp [gp, h]
/-- The index of the first pair of a name. -/
def fnd (l : List Pr) (t : ByteArray) : Option Nat := l.findIdx? fun p => decide (p.1 = t)
def fndI (l : List Pr) (t : ByteArray) : Int := match fnd l t with
  | some i => (i : Nat)
  | none => -1
end Go.Ty
