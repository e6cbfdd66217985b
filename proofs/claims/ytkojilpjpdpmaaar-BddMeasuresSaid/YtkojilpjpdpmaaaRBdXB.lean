/-
  A part of the proofs of this seat's statements (BdXB); no conditions beyond those each theorem names.
-/
import Derived.Test.YtkojilpjpdpmaaaRBdXC
set_option maxRecDepth 100000
set_option linter.unusedSimpArgs false
set_option linter.unusedVariables false
namespace Go.Proofs.YtkojilpjpdpmaaaR
open Go Go.W Go.Bd Go.Maps
section
variable {w w1 w2 : World} {F : List Nat} {A B : Asr}
/-- What a callee made since its start, beside what is there. -/
theorem At.join (hB : Lcl B) (h : At w F B w1) (t : At w1 [] (Star A Emp) w2) : At w F (Star A B) w2 := by
  obtain ⟨F1, ⟨Fa, Fe, h1, h2, hd, rfl⟩, hs⟩ := t.ex
  refine h.more hB t.kp ⟨Fa, h1, fun x hx => ?_⟩
  rcases hs x (by simp [hx]) with h3 | h3
  · cases h3
  · exact h3
end
/-- A path is added to a list of paths. -/
theorem ll_append {w w1 : World} {F : List Nat} {B : Asr} {u ov : Value} {c : List Fc} {outs : List (List Fc)} {KV : Kont (Value × World)} (hB : Lcl B) (h : At w F (Star (OwnA u 77 2 fv c) (Star (LLA ov 75 fv outs) B)) w1) (hl : outs.length ≤ 100000)
    (H : ∀ v' w2, At w F (Star (LLA v' 75 fv (outs ++ [c])) B) w2 → KV.run (v', w2)) :
    @efH Try.prog (Builtin.append_ #[70, 70] 70 [ov, .slice (some ⟨w1.heap.size, 0, none⟩) 1 1].toArray) (w1.alloc (.cells #[u] 75)) KV := by
  have hou := h.own.o1
  obtain ⟨ps, hps, h3⟩ := LLA.opn h.rot
  have hpl : ps.length = outs.length := by rw [← hps]; simp
  have hBX : Lcl (Star (VwsA fv ps) (Star (OwnA u 77 2 fv c) B)) := Lcl.vws.star (Lcl.own.star hB)
  have h4 := h3.kp0 (Lcl.own.star hBX) ((Kp.refl [] w1).alloc (.cells #[u] 75))
  refine At.append (xs := [((⟨u, hou⟩, c) : Cell1 × List Fc)]) hBX h4 sv1_len sv1_one sl_70 rfl (fun j x hj => ?_) (by omega) (by unfold maxLen; omega) fun v' w5 h5 => H v' w5 ?_
  · simp [sv1] at hj
    rw [add_none, cell_blk alloc_new]
    simpa using hj
  · have h6 : At w F (Star (OwnA v' 75 1 sv1 (ps ++ [((⟨u, hou⟩, c) : Cell1 × List Fc)])) (Star (VwsA fv (ps ++ [((⟨u, hou⟩, c) : Cell1 × List Fc)])) B)) w5 :=
      ((h5.rot3.own_vw).by (Imp.trans (Imp.un Imp.sw) (Imp.trans (VwsA.add hou) Imp.sw))).by Imp.rfl
    exact LLA.cls (ls := outs ++ [c]) (by simp [hps]) h6
end Go.Proofs.YtkojilpjpdpmaaaR
