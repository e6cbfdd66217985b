/-
  More arguments of the seat's laws, opened: lists of acts; no conditions beyond those each theorem names.
-/
import Derived.Test.YtkojilpjpdpmaaaRBdOpen
import Derived.Test.YtkojilpjpdpmaaaRBdDa
set_option maxRecDepth 100000
set_option linter.unusedSimpArgs false
set_option linter.unusedVariables false
namespace Go.Proofs.YtkojilpjpdpmaaaR
open Go Go.W Go.Bd Go.ChangeShapes Go.WideShapes Go.ChangeAt Go.RowKit
section
variable {H : Type} {enc : TypeId × Value → H}
theorem el_act {W : World} (n : Nat) (cs : List Value) (x : DataW H × List MemPlace) (hl : cs.length = 5) (h : DataW.trod enc Try.prog W 0 (fun _ => true) true n 63 cs = some x) : ∃ a : Act, cs = actE a ∧ ActOk a := by
  obtain ⟨xs, m, rfl, _, _, hxl, hg⟩ := DataW.trod_struct Try.underlying63 h
  have hc : Try.prog.cellsOf 5 = 1 := by kernel_rfl
  match cs, hl with
  | [u0, u1, u2, u3, u4], _ =>
    have hx2 : xs.length = 5 := hxl
    have h0 := hg 0 _ rfl
    have h1 := hg 1 _ rfl
    have h2 := hg 2 _ rfl
    have h3 := hg 3 _ rfl
    have h4 := hg 4 _ rfl
    rw [List.getElem?_eq_getElem (by omega)] at h0 h1 h2 h3 h4
    obtain ⟨a0, e0, _, w0⟩ := DataW.trod_int Try.underlying5 h0
    obtain ⟨a1, e1, _, w1⟩ := DataW.trod_int Try.underlying5 h1
    obtain ⟨a2, e2, _, w2⟩ := DataW.trod_int Try.underlying5 h2
    obtain ⟨a3, e3, _, w3⟩ := DataW.trod_int Try.underlying5 h3
    obtain ⟨a4, e4, _, w4⟩ := DataW.trod_int Try.underlying5 h4
    replace e0 : List.take (Try.prog.cellsOf 5) [u0, u1, u2, u3, u4] = [.int .u8 a0] := e0
    replace e1 : List.take (Try.prog.cellsOf 5) [u1, u2, u3, u4] = [.int .u8 a1] := e1
    replace e2 : List.take (Try.prog.cellsOf 5) [u2, u3, u4] = [.int .u8 a2] := e2
    replace e3 : List.take (Try.prog.cellsOf 5) [u3, u4] = [.int .u8 a3] := e3
    replace e4 : List.take (Try.prog.cellsOf 5) [u4] = [.int .u8 a4] := e4
    rw [hc] at e0 e1 e2 e3 e4
    simp at e0 e1 e2 e3 e4
    subst e0 e1 e2 e3 e4
    have q1 : IntKind.u8.min = 0 := rfl
    have q2 : IntKind.u8.max = 255 := rfl
    simp only [Lit.wf, Bool.and_eq_true, decide_eq_true_eq] at w0 w1 w2 w3 w4
    refine ⟨⟨a0.toNat, a1.toNat, a2.toNat, a3.toNat, a4.toNat⟩, ?_, ⟨by show a0.toNat ≤ 255; omega, by show a1.toNat ≤ 255; omega, by show a2.toNat ≤ 255; omega, by show a3.toNat ≤ 255; omega, by show a4.toNat ≤ 255; omega⟩⟩
    simp only [actE]
    rw [show ((a0.toNat : Nat) : Int) = a0 by omega, show ((a1.toNat : Nat) : Int) = a1 by omega, show ((a2.toNat : Nat) : Int) = a2 by omega, show ((a3.toNat : Nat) : Int) = a3 by omega, show ((a4.toNat : Nat) : Int) = a4 by omega]
theorem open_acts {W : World} {b : Nat} {v : Value} {d : DataW H} {ps : List MemPlace} (hv : Value.okWide Try.prog W .any b 46 v) (h : DataW.Trod enc Try.prog W 0 (fun _ => true) true 46 v d ps) :
    ∃ l : List Act, Vw W v actE l ∧ ∀ a ∈ l, ActOk a := by
  obtain ⟨l, h1, h2, _⟩ := open_vw (encα := actE) (ok := ActOk) (sz := 5) Try.underlying46 (by kernel_rfl) (by omega) actE_len el_act hv h
  exact ⟨l, h1, h2⟩
end
end Go.Proofs.YtkojilpjpdpmaaaR
