/-
  The arguments of the seat's laws, opened; no conditions beyond those each theorem names.
-/
import Derived.Test.YtkojilpjpdpmaaaRBdW9
import Derived.Test.YtkojilpjpdpmaaaRLibE
import Derived.OpenShut
import Derived.Test.YtkojilpjpdpmaaaRRows
set_option maxRecDepth 100000
set_option linter.unusedSimpArgs false
set_option linter.unusedVariables false
namespace Go.Proofs.YtkojilpjpdpmaaaR
open Go Go.W Go.Bd Go.ChangeShapes Go.WideShapes Go.ChangeAt Go.RowKit
theorem own : ownKnob Try.prog.godebug = none := by kernel_rfl
section
variable {H : Type} {enc : TypeId × Value → H}
theorem open_int {W : World} {b : Nat} {v : Value} {d : DataW H} {ps : List MemPlace} (hv : Value.okWide Try.prog W .any b 3 v) (h : DataW.Trod enc Try.prog W 0 (fun _ => true) true 3 v d ps) : ∃ n : Int, v = .int .i64 n ∧ (-9223372036854775808 ≤ n ∧ n ≤ 9223372036854775807) := by
  obtain ⟨n, h⟩ := h
  obtain ⟨a, ha, _, wa⟩ := DataW.trod_int Try.underlying3 h
  have hx : ∃ x, v = .int .i64 x := by
    simp only [Value.okWide, Try.underlying3, Cell.okWide] at hv
    cases v <;> simp_all [Cell.ok]
  obtain ⟨x, rfl⟩ := hx
  have ha : [Value.int .i64 x] = [Value.int .i64 a] := ha
  simp at ha
  subst ha
  have h1 : IntKind.i64.min = -9223372036854775808 := rfl
  have h2 : IntKind.i64.max = 9223372036854775807 := rfl
  simp only [Lit.wf, Bool.and_eq_true, decide_eq_true_eq] at wa
  exact ⟨x, rfl, by omega⟩
end
end Go.Proofs.YtkojilpjpdpmaaaR
