/-
  A part of the proofs of this seat's statements (TyW6); no conditions beyond those each theorem names.
-/
import Derived.Test.YtcpmeficpboklaaTyW5
set_option maxRecDepth 100000
set_option linter.unusedSimpArgs false
set_option linter.unusedVariables false
namespace Go.Proofs.Ytcpmeficpboklaa
open Go Go.W Go.Ty
theorem key9 : KeyEnc Try.prog 9 Value.string (fun s => s.size ≤ maxLen) := {
  keyed := Maps.string_keyed Try.underlying9
  lit := fun s hs => ⟨.string s.data.toList, by simp [keyOf, mapKey, Try.underlying9, hs]⟩
  inj := fun x y h => by injection h }
def MS (w : World) (b : Nat) (l : List Pr) : Prop := MapM w b Value.string Value.string (fun s => s.size ≤ maxLen) l
def gm (l : List Pr) (x : ByteArray) : ByteArray := (getM l x).getD ByteArray.empty
theorem ms_look {w : World} {b : Nat} {l : List Pr} {x : ByteArray} {K : Kont Value} (h : MS w b l) (hx : x.size ≤ maxLen) (hk : K.run (.tuple #[.string (gm l x), .bool (getM l x).isSome])) :
    @rdH Try.prog (Instr.lookup 58 (.map (some b)) (.string x) true) w K := by
  refine rd_mk (fun w' hw => ?_) hk
  have := MapM.look (h.ext hw) key9 Try.underlying58 (Try.zeroValue9 w') hx true
  rw [this]
  unfold gm
  cases getM l x <;> rfl
theorem ms_get {w : World} {b : Nat} {l : List Pr} {x : ByteArray} {K : Kont Value} (h : MS w b l) (hx : x.size ≤ maxLen) (hk : K.run (.string (gm l x))) :
    @rdH Try.prog (Instr.lookup 58 (.map (some b)) (.string x) false) w K := by
  refine rd_mk (fun w' hw => ?_) hk
  have := MapM.look (h.ext hw) key9 Try.underlying58 (Try.zeroValue9 w') hx false
  rw [this]
  unfold gm
  cases getM l x <;> rfl
/-- A hierarchy at f: its map at b has these pairs. -/
structure FA (w : World) (f b : Nat) (l : List Pr) : Prop where
  obj : w.heap[f]? = some (.cells #[.map (some b)] 60 (0, 0))
  map : MS w b l
  ne : f ≠ b
theorem FA.kp {w w' : World} {f b : Nat} {l : List Pr} {S : List Nat} (h : FA w f b l) (hk : Kp S w w') (h1 : f ∉ S) (h2 : b ∉ S) : FA w' f b l := ⟨hk.blk h.obj h1, MapM.kp h.map hk h2, h.ne⟩
theorem FA.kp0 {w w' : World} {f b : Nat} {l : List Pr} (h : FA w f b l) (hk : Kp [] w w') : FA w' f b l := h.kp hk (by simp) (by simp)
def rootS : ByteArray := ⟨#[111, 98, 106, 101, 99, 116]⟩
theorem beq_root (x : ByteArray) : (x.toList == [111, 98, 106, 101, 99, 116]) = decide (x = rootS) := by
  have h : rootS.toList = [111, 98, 106, 101, 99, 116] := by rw [ByteArray.toList_eq]; rfl
  rw [← h]; exact beq_str x rootS
def hasB (l : List Pr) (x : ByteArray) : Bool := (getM l x).isSome || decide (x = rootS)
theorem has_spec (f b : Nat) (l : List Pr) (x : ByteArray) (w : World) (h : FA w f b l) (hx : x.size ≤ maxLen) :
    Calls Try.prog 21 [.pointer (some ⟨f, 0, none⟩), .string x].toArray w fun e w' => ∃ v, e = .returned v ∧ v = .bool (hasB l x) ∧ Kp [] w w' := by
  refine enter Try.func21 mixed low21 (Nat.le_of_ble_eq_true rfl) ?_
  simp only [L21]
  simp [cell_blk h.obj]
  refine ms_look h.map hx ?_
  simp
  refine gd_splitf (fun h1 => ?_) (fun h1 => ?_)
  · simp [beq_root, h1]
    exact ⟨by simp [hasB, h1], Kp.refl _ _⟩
  · simp [h1]
    exact ⟨by simp [hasB, h1], Kp.refl _ _⟩
theorem has_nil (x : ByteArray) (w : World) : Calls Try.prog 21 [.pointer none, .string x].toArray w fun e w' => ∃ v, e = .returned v ∧ v = .bool false ∧ Kp [] w w' := by
  refine enter Try.func21 mixed low21 (Nat.le_of_ble_eq_true rfl) ?_
  simp only [L21]
  simp
  exact Kp.refl _ _
theorem parent_spec (f b : Nat) (l : List Pr) (x : ByteArray) (w : World) (h : FA w f b l) (hx : x.size ≤ maxLen) :
    Calls Try.prog 19 [.pointer (some ⟨f, 0, none⟩), .string x].toArray w fun e w' => ∃ v, e = .returned v ∧ v = .tuple #[.string (gm l x), .bool (getM l x).isSome] ∧ Kp [] w w' := by
  refine enter Try.func19 mixed low19 (Nat.le_of_ble_eq_true rfl) ?_
  simp only [L19]
  simp [cell_blk h.obj]
  refine ms_look h.map hx ?_
  simp
  exact Kp.refl _ _
end Go.Proofs.Ytcpmeficpboklaa
