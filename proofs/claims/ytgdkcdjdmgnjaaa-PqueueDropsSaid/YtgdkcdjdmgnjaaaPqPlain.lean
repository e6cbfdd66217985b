/-
  A part of the proofs of this seat's statements (PqPlain); no conditions beyond those each theorem names.
-/
import Derived.Test.YtgdkcdjdmgnjaaaLib6
set_option linter.unusedVariables false
set_option linter.unusedSimpArgs false
namespace Go.Pq
open Go Go.W
structure En where
  key : Int
  tie : Int
  item : Int
  num : Int
deriving Inhabited
def En.enc (e : En) : List Value := [.int .i64 e.key, .int .i64 e.tie, .int .i64 e.item, .int .i64 e.num]
theorem En.len (e : En) : e.enc.length = 4 := rfl
theorem En.one (e : En) : e.enc.all oneC = true := rfl
def bef (a b : En) : Bool := if a.key != b.key then decide (a.key < b.key) else if a.tie != b.tie then decide (a.tie < b.tie) else decide (a.num < b.num)
def gt (l : List En) (i : Nat) : En := l.getD i default
theorem gt_at {l : List En} {i : Nat} (h : i < l.length) : l[i]? = some (gt l i) := by simp [gt, h]
def swp (l : List En) (i p : Nat) : List En := (l.set i (gt l p)).set p (gt l i)
@[simp] theorem swp_len (l : List En) (i p : Nat) : (swp l i p).length = l.length := by simp [swp]
def upL (l : List En) (i : Nat) : List En :=
  if h : i = 0 then l else if bef (gt l i) (gt l ((i - 1) / 2)) then upL (swp l i ((i - 1) / 2)) ((i - 1) / 2) else l
termination_by i
decreasing_by omega
def kid (l : List En) (i : Nat) : Nat := if 2 * i + 2 < l.length ∧ bef (gt l (2 * i + 2)) (gt l (2 * i + 1)) = true then 2 * i + 2 else 2 * i + 1
def downL (l : List En) (i : Nat) : List En :=
  if h : l.length ≤ 2 * i + 1 then l else if bef (gt l (kid l i)) (gt l i) then downL (swp l i (kid l i)) (kid l i) else l
termination_by l.length - i
decreasing_by
  have : kid l i < l.length ∧ i < kid l i := by unfold kid; split <;> omega
  simp; omega
end Go.Pq
