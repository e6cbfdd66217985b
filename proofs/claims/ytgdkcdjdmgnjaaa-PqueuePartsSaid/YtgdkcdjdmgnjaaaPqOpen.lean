/-
  The arguments of the seat's laws, opened to lists; no conditions beyond those each theorem names.
-/
import Derived.Test.YtgdkcdjdmgnjaaaWalkD
import Derived.OpenShut
import Derived.Test.YtgdkcdjdmgnjaaaRows
set_option maxRecDepth 100000
set_option linter.unusedSimpArgs false
set_option linter.unusedVariables false
namespace Go.Proofs.Ytgdkcdjdmgnjaaa
open Go Go.W Go.Pq Go.ChangeShapes Go.WideShapes Go.ChangeAt Go.RowKit
theorem own : ownKnob Try.prog.godebug = none := by kernel_rfl
theorem laidOut : laidOutB Try.prog = true := by kernel_rfl
theorem i64_range {n : Int} (h : (Lit.int .i64 n).wf = true) : -9223372036854775808 ≤ n ∧ n ≤ 9223372036854775807 := by
  have h1 : IntKind.i64.min = -9223372036854775808 := rfl
  have h2 : IntKind.i64.max = 9223372036854775807 := rfl
  simp only [Lit.wf, Bool.and_eq_true, decide_eq_true_eq] at h
  omega
theorem u8_range {n : Int} (h : (Lit.int .u8 n).wf = true) : 0 ≤ n ∧ n ≤ 255 := by
  have h1 : IntKind.u8.min = 0 := rfl
  have h2 : IntKind.u8.max = 255 := rfl
  simp only [Lit.wf, Bool.and_eq_true, decide_eq_true_eq] at h
  omega
theorem u16_range {n : Int} (h : (Lit.int .u16 n).wf = true) : 0 ≤ n ∧ n ≤ 65535 := by
  have h1 : IntKind.u16.min = 0 := rfl
  have h2 : IntKind.u16.max = 65535 := rfl
  simp only [Lit.wf, Bool.and_eq_true, decide_eq_true_eq] at h
  omega
section
variable {H : Type} {enc : TypeId × Value → H}
theorem el_pair {W : World} (n : Nat) (cs : List Value) (x : DataW H × List MemPlace) (hl : cs.length = 2) (h : DataW.trod enc Try.prog W 0 (fun _ => true) true n 43 cs = some x) : ∃ a : Int × Int, cs = pe a ∧ True := by
  obtain ⟨xs, m, rfl, _, _, hxl, hg⟩ := DataW.trod_array Try.underlying43 h
  have hc : Try.prog.cellsOf 3 = 1 := by kernel_rfl
  match cs, hl with
  | [u, v], _ =>
    have h0 := hg 0 (by omega)
    have h1 := hg 1 (by omega)
    rw [List.getElem?_eq_getElem (by omega)] at h0 h1
    rw [hc] at h0 h1
    obtain ⟨a, ha, _, _⟩ := DataW.trod_int Try.underlying3 h0
    obtain ⟨b, hb, _, _⟩ := DataW.trod_int Try.underlying3 h1
    simp at ha hb
    subst ha hb
    exact ⟨(a, b), rfl, trivial⟩
theorem el_act {W : World} (n : Nat) (cs : List Value) (x : DataW H × List MemPlace) (hl : cs.length = 4) (h : DataW.trod enc Try.prog W 0 (fun _ => true) true n 28 cs = some x) : ∃ a : Ac, cs = ea a ∧ (0 ≤ a.kind ∧ a.kind ≤ 255) := by
  obtain ⟨xs, m, rfl, _, _, hxl, hg⟩ := DataW.trod_struct Try.underlying28 h
  have hc : Try.prog.cellsOf 3 = 1 := by kernel_rfl
  have hc5 : Try.prog.cellsOf 5 = 1 := by kernel_rfl
  match cs, hl with
  | [t, u, v, y], _ =>
    have hx4 : xs.length = 4 := hxl
    have h0 := hg 0 _ rfl
    have h1 := hg 1 _ rfl
    have h2 := hg 2 _ rfl
    have h3 := hg 3 _ rfl
    rw [List.getElem?_eq_getElem (by omega)] at h0 h1 h2 h3
    obtain ⟨a, ha, _, wa⟩ := DataW.trod_int Try.underlying5 h0
    obtain ⟨b, hb, _, _⟩ := DataW.trod_int Try.underlying3 h1
    obtain ⟨c, hd, _, _⟩ := DataW.trod_int Try.underlying3 h2
    obtain ⟨d, he, _, _⟩ := DataW.trod_int Try.underlying3 h3
    replace ha : List.take (Try.prog.cellsOf 5) [t, u, v, y] = [.int .u8 a] := ha
    replace hb : List.take (Try.prog.cellsOf 3) [u, v, y] = [.int .i64 b] := hb
    replace hd : List.take (Try.prog.cellsOf 3) [v, y] = [.int .i64 c] := hd
    replace he : List.take (Try.prog.cellsOf 3) [y] = [.int .i64 d] := he
    rw [hc5] at ha
    rw [hc] at hb hd he
    simp at ha hb hd he
    subst ha hb hd he
    exact ⟨⟨a, b, c, d⟩, rfl, u8_range wa⟩
theorem open_pairs {W : World} {b : Nat} {v : Value} {d : DataW H} {ps : List MemPlace} (hv : Value.okWide Try.prog W .any b 42 v) (h : DataW.Trod enc Try.prog W 0 (fun _ => true) true 42 v d ps) :
    ∃ l : List (Int × Int), Vw W v pe l ∧ ((d = .nil ∧ l = []) ∨ ∃ el sp, d = .slice el sp ∧ el.length = l.length) := by
  obtain ⟨l, h1, _, h2⟩ := open_vw (encα := pe) (ok := fun _ => True) (sz := 2) Try.underlying42 (by kernel_rfl) (by omega) pe_len el_pair hv h
  exact ⟨l, h1, h2⟩
theorem len_pairs {ts : List TypeId} {ds : List (DataW H)} {j : Nat} {d : DataW H} {l : List (Int × Int)} (hsz : (DataW.weightsEach Try.prog ts ds).all (· ≤ reachBytes) = true) (ht : ts[j]? = some 42) (hd : ds[j]? = some d)
    (h : (d = .nil ∧ l = []) ∨ ∃ el sp, d = .slice el sp ∧ el.length = l.length) : l.length ≤ 4611686018427387904 := by
  rcases h with ⟨_, rfl⟩ | ⟨el, sp, rfl, he⟩
  · simp
  · have := sized_slice hsz ht hd Try.underlying42
    have hb : Try.prog.bytesOf 43 = 16 := by kernel_rfl
    rw [hb] at this
    simp only [reachBytes] at this
    omega
end

end Go.Proofs.Ytgdkcdjdmgnjaaa
