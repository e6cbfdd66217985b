/-
  The arguments of the seat's laws, opened to lists; no conditions beyond those each theorem names.
-/
import Derived.Test.YtcpmeficpboklaaTyP1
import Derived.Test.YtcpmeficpboklaaLibE
import Derived.OpenShut
import Derived.Test.YtcpmeficpboklaaRows
set_option maxRecDepth 100000
set_option linter.unusedSimpArgs false
set_option linter.unusedVariables false
namespace Go.Proofs.Ytcpmeficpboklaa
open Go Go.W Go.Ty Go.ChangeShapes Go.WideShapes Go.ChangeAt Go.RowKit
theorem own : ownKnob Try.prog.godebug = none := by kernel_rfl
theorem laidOut : laidOutB Try.prog = true := by kernel_rfl
theorem hm_of {W : World} (h : W.ShapedOpen Try.prog) : HM W :=
  cell_of_shapedOpen_int (g := 0) (t := 3) (zero := #[.int .i64 0]) (k := .i64) h (of_decide_eq_true (by kernel_rfl)) (by kernel_rfl) rfl (by kernel_rfl) (by kernel_rfl) Try.underlying3
section
variable {H : Type} {enc : TypeId × Value → H}
theorem el_pair {W : World} (n : Nat) (cs : List Value) (x : DataW H × List MemPlace) (hl : cs.length = 2) (h : DataW.trod enc Try.prog W 0 (fun _ => true) true n 44 cs = some x) : ∃ a : Pr, cs = ep a ∧ (a.1.size ≤ maxLen ∧ a.2.size ≤ maxLen) := by
  obtain ⟨xs, m, rfl, _, _, hxl, hg⟩ := DataW.trod_struct Try.underlying44 h
  have hc : Try.prog.cellsOf 9 = 1 := by kernel_rfl
  match cs, hl with
  | [u, v], _ =>
    have hx2 : xs.length = 2 := hxl
    have h0 := hg 0 _ rfl
    have h1 := hg 1 _ rfl
    rw [List.getElem?_eq_getElem (by omega)] at h0 h1
    obtain ⟨a, ha, _, wa⟩ := DataW.trod_string Try.underlying9 h0
    obtain ⟨b, hb, _, wb⟩ := DataW.trod_string Try.underlying9 h1
    replace ha : List.take (Try.prog.cellsOf 9) [u, v] = [.string a] := ha
    replace hb : List.take (Try.prog.cellsOf 9) [v] = [.string b] := hb
    rw [hc] at ha hb
    simp at ha hb
    subst ha hb
    exact ⟨(a, b), rfl, wa, wb⟩
theorem open_pairs {W : World} {b : Nat} {v : Value} {d : DataW H} {ps : List MemPlace} (hv : Value.okWide Try.prog W .any b 22 v) (h : DataW.Trod enc Try.prog W 0 (fun _ => true) true 22 v d ps) :
    ∃ l : List Pr, Vw W v ep l ∧ Sz l ∧ ((d = .nil ∧ l = []) ∨ ∃ el sp, d = .slice el sp ∧ el.length = l.length) :=
  open_vw (encα := ep) (ok := fun a : Pr => a.1.size ≤ maxLen ∧ a.2.size ≤ maxLen) (sz := 2) Try.underlying22 (by kernel_rfl) (by omega) ep_len el_pair hv h
theorem len_pairs {ts : List TypeId} {ds : List (DataW H)} {j : Nat} {d : DataW H} {l : List Pr} (hsz : (DataW.weightsEach Try.prog ts ds).all (· ≤ reachBytes) = true) (ht : ts[j]? = some 22) (hd : ds[j]? = some d)
    (h : (d = .nil ∧ l = []) ∨ ∃ el sp, d = .slice el sp ∧ el.length = l.length) : l.length ≤ 4398046511104 := by
  rcases h with ⟨_, rfl⟩ | ⟨el, sp, rfl, he⟩
  · simp
  · have := sized_slice hsz ht hd Try.underlying22
    have hb : Try.prog.bytesOf 44 = 32 := by kernel_rfl
    rw [hb] at this
    simp only [reachBytes] at this
    omega
theorem open_text {W : World} {b : Nat} {v : Value} {d : DataW H} {ps : List MemPlace} (hv : Value.okWide Try.prog W .any b 9 v) (h : DataW.Trod enc Try.prog W 0 (fun _ => true) true 9 v d ps) : ∃ t : ByteArray, v = .string t ∧ t.size ≤ maxLen := by
  obtain ⟨s, rfl⟩ := okWide_string Try.underlying9 hv
  obtain ⟨n, h⟩ := h
  obtain ⟨s', hs, _, hz⟩ := DataW.trod_string Try.underlying9 h
  have hs : [Value.string s] = [Value.string s'] := hs
  simp at hs
  exact ⟨s, rfl, by rw [hs]; exact hz⟩
theorem open_int {W : World} {b : Nat} {v : Value} {d : DataW H} {ps : List MemPlace} (hv : Value.okWide Try.prog W .any b 3 v) (h : DataW.Trod enc Try.prog W 0 (fun _ => true) true 3 v d ps) : ∃ n : Int, v = .int .i64 n ∧ (-9223372036854775808 ≤ n ∧ n ≤ 9223372036854775807) := by
  obtain ⟨n, h⟩ := h
  obtain ⟨a, ha, _, wa⟩ := DataW.trod_int Try.underlying3 h
  have hx : ∃ x, v = .int .i64 x := by
    simp only [Value.okWide, Try.underlying3, Cell.okWide] at hv
    cases v <;> simp_all [Cell.ok]
  obtain ⟨x, rfl⟩ := hx
  have ha : [Value.int .i64 x] = [Value.int .i64 a] := ha
  simp at ha
  subst ha
  have h1 : IntKind.i64.min = -9223372036854775808 := rfl
  have h2 : IntKind.i64.max = 9223372036854775807 := rfl
  simp only [Lit.wf, Bool.and_eq_true, decide_eq_true_eq] at wa
  exact ⟨x, rfl, by omega⟩
theorem open_arr {W : World} {b : Nat} {v : Value} {d : DataW H} {ps : List MemPlace} (hv : Value.okWide Try.prog W .any b 54 v) (h : DataW.Trod enc Try.prog W 0 (fun _ => true) true 54 v d ps) :
    ∃ x y z : Nat, v = .agg #[.int .u8 x, .int .u8 y, .int .u8 z] ∧ x ≤ 255 ∧ y ≤ 255 ∧ z ≤ 255 := by
  simp only [Value.okWide, Try.underlying54] at hv
  obtain ⟨cs, rfl, hcs, _⟩ := hv
  have hc3 : Try.prog.cellsOf 54 = 3 := by kernel_rfl
  have hc : Try.prog.cellsOf 5 = 1 := by kernel_rfl
  rw [hc3] at hcs
  obtain ⟨n, h⟩ := h
  obtain ⟨xs, m, rfl, _, _, hxl, hg⟩ := DataW.trod_array Try.underlying54 h
  have hl : cs.toList.length = 3 := by simpa using hcs
  have e : (Value.agg cs).cells.toList = cs.toList := rfl
  rw [e] at hg
  match hcl : cs.toList, hl with
  | [u, v, w], _ =>
    rw [hcl] at hg
    have h0 := hg 0 (by omega)
    have h1 := hg 1 (by omega)
    have h2 := hg 2 (by omega)
    rw [List.getElem?_eq_getElem (by omega)] at h0 h1 h2
    rw [hc] at h0 h1 h2
    obtain ⟨a, ha, _, wa⟩ := DataW.trod_int Try.underlying5 h0
    obtain ⟨b, hb, _, wb⟩ := DataW.trod_int Try.underlying5 h1
    obtain ⟨c, hd, _, wc⟩ := DataW.trod_int Try.underlying5 h2
    simp at ha hb hd
    subst ha hb hd
    have q1 : IntKind.u8.min = 0 := rfl
    have q2 : IntKind.u8.max = 255 := rfl
    simp only [Lit.wf, Bool.and_eq_true, decide_eq_true_eq] at wa wb wc
    refine ⟨a.toNat, b.toNat, c.toNat, ?_, by omega, by omega, by omega⟩
    have : cs = #[.int .u8 a, .int .u8 b, .int .u8 c] := by
      apply Array.toList_inj.1; rw [hcl]
    rw [this, show ((a.toNat : Nat) : Int) = a by omega, show ((b.toNat : Nat) : Int) = b by omega, show ((c.toNat : Nat) : Int) = c by omega]
end
end Go.Proofs.Ytcpmeficpboklaa
