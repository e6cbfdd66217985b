/-
  More arguments of the seat's laws, opened: lists of numbers; no conditions beyond those each theorem names.
-/
import Derived.Test.YtkojilpjpdpmaaaRBdOpenA
set_option maxRecDepth 100000
set_option linter.unusedSimpArgs false
set_option linter.unusedVariables false
namespace Go.Proofs.YtkojilpjpdpmaaaR
open Go Go.W Go.Bd Go.ChangeShapes Go.WideShapes Go.ChangeAt Go.RowKit
section
variable {H : Type} {enc : TypeId × Value → H}
theorem el_int {W : World} (n : Nat) (cs : List Value) (x : DataW H × List MemPlace) (hl : cs.length = 1) (h : DataW.trod enc Try.prog W 0 (fun _ => true) true n 3 cs = some x) : ∃ a : Int, cs = iv a ∧ True := by
  obtain ⟨a, ha, _, wa⟩ := DataW.trod_int Try.underlying3 h
  exact ⟨a, ha, trivial⟩
theorem open_ints {W : World} {b : Nat} {v : Value} {d : DataW H} {ps : List MemPlace} (hv : Value.okWide Try.prog W .any b 30 v) (h : DataW.Trod enc Try.prog W 0 (fun _ => true) true 30 v d ps) :
    ∃ l : List Int, Vw W v iv l := by
  obtain ⟨l, h1, _, _⟩ := open_vw (encα := iv) (ok := fun _ => True) (sz := 1) Try.underlying30 (by kernel_rfl) (by omega) iv_len el_int hv h
  exact ⟨l, h1⟩
end
end Go.Proofs.YtkojilpjpdpmaaaR
