/-
  A part of the proofs of this seat's statements (BdW1); no conditions beyond those each theorem names.
-/
import Derived.Test.YtkojilpjpdpmaaaRLowB
import Derived.Test.YtkojilpjpdpmaaaRLibR
import Derived.Test.YtkojilpjpdpmaaaRBdOps
set_option maxRecDepth 100000
set_option linter.unusedSimpArgs false
set_option linter.unusedVariables false
namespace Go.Proofs.YtkojilpjpdpmaaaR
open Go Go.W Go.Bd Go.Maps
theorem laidOut : laidOutB Try.prog = true := by kernel_rfl
def en (d : Nd) : List Value := ints [d.v, d.low, d.high]
theorem en_len (d : Nd) : (en d).length = 3 := rfl
theorem en_one (d : Nd) : (en d).all oneC = true := rfl
def ndV (d : Nd) : Value := .agg (en d).toArray
def nd_ok (d : Nd) : Prop := ∀ x ∈ [d.v, d.low, d.high], i64ok x
theorem keyN : KeyEnc Try.prog 90 ndV nd_ok := {
  keyed := Keyed.of_law (deep_law_laid laidOut (m := 5) (by omega) (of_decide_eq_true (by kernel_rfl)) (by kernel_rfl) (by kernel_rfl))
  lit := fun d hd => key_struct Try.underlying90 (by kernel_rfl) (by intro f hf; simp at hf; rcases hf with rfl | rfl | rfl <;> kernel_rfl) (by kernel_rfl) (by kernel_rfl) (m := Try.prog.types.size - 1) (by kernel_rfl) rfl hd
  inj := fun x y h => by
    have := ints_inj h
    cases x; cases y; simp at this; simp [this] }
def natV (k : Nat) : Value := .int .i64 (k : Int)
/-- The index of the nodes. -/
def idx (ns : Ns) : List (Nd × Nat) := ns.zipIdx.map fun p => (p.1, p.2 + 2)
theorem idx_snoc (ns : Ns) (d : Nd) : idx (ns ++ [d]) = idx ns ++ [(d, ns.length + 2)] := by simp [idx, List.zipIdx_append]
theorem idx_len (ns : Ns) : (idx ns).length = ns.length := by simp [idx]
theorem getM_idx (ns : Ns) (d : Nd) : getM (idx ns) d = (ns.findIdx? fun x => decide (x = d)).map (· + 2) := by
  have key : ∀ (l : Ns) (o : Nat), (((l.zipIdx o).map fun p => (p.1, p.2 + 2)).find? fun p => decide (p.1 = d)).map (·.2) = (l.findIdx? fun x => decide (x = d)).map (· + o + 2) := by
    intro l
    induction l with
    | nil => intro o; rfl
    | cons x l ih =>
      intro o
      rw [List.zipIdx_cons, List.map_cons, List.findIdx?_cons]
      by_cases hx : x = d
      · simp [hx]
      · rw [List.find?_cons_of_neg (by simpa using hx), ih (o + 1)]
        simp only [hx, decide_false, Bool.false_eq_true, if_false, Option.map_map]
        congr 1
        funext k; simp only [Function.comp]; omega
  exact key ns 0
def mgrO (n lim : Nat) (nv : Value) (b : Nat) : Obj := .cells #[.int .i64 n, .int .i64 lim, nv, .map (some b)] 87 (0, 0)
/-- A manager at m. -/
def MgrA (m n lim : Nat) (ns : Ns) : Asr := ExA fun q : Value × Nat => Star (ObjA m (mgrO n lim q.1 q.2)) (Star (OwnA q.1 90 3 en ns) (MapA q.2 ndV natV nd_ok (idx ns)))
theorem Lcl.mgr {m n lim : Nat} {ns : Ns} : Lcl (MgrA m n lim ns) := Lcl.ex fun _ => Lcl.star Lcl.obj (Lcl.star Lcl.own Lcl.map)
section
variable {w w1 : World} {F : List Nat} {B : Asr} {m n lim : Nat} {ns : Ns}
theorem MgrA.opn (h : At w F (Star (MgrA m n lim ns) B) w1) : ∃ nv b, At w F (Star (ObjA m (mgrO n lim nv b)) (Star (OwnA nv 90 3 en ns) (Star (MapA b ndV natV nd_ok (idx ns)) B))) w1 := by
  obtain ⟨⟨nv, b⟩, h⟩ := h.ex_open
  exact ⟨nv, b, h.assoc.rot.assoc.rot3⟩
theorem MgrA.cls {nv : Value} {b : Nat} (h : At w F (Star (ObjA m (mgrO n lim nv b)) (Star (OwnA nv 90 3 en ns) (Star (MapA b ndV natV nd_ok (idx ns)) B))) w1) : At w F (Star (MgrA m n lim ns) B) w1 :=
  At.ex_close (x := (nv, b)) h.rot.rot3.rot.assoc'.rot.assoc'
/-- What a reader needs of a manager. -/
structure MgrF (w : World) (m n lim : Nat) (ns : Ns) : Prop where
  ex : ∃ nv b, w.heap[m]? = some (mgrO n lim nv b) ∧ Own w nv 90 3 en ns ∧ MapM w b ndV natV nd_ok (idx ns)
theorem MgrF.kp0 {w' : World} (h : MgrF w m n lim ns) (hk : Kp [] w w') : MgrF w' m n lim ns := by
  obtain ⟨nv, b, h1, h2, h3⟩ := h
  exact ⟨nv, b, hk.blk h1 (by simp), h2.kp hk (by simp), h3.kp hk (by simp)⟩
theorem MgrA.rd (h : At w F (Star (MgrA m n lim ns) B) w1) : MgrF w1 m n lim ns := by
  obtain ⟨nv, b, h⟩ := MgrA.opn h
  exact ⟨nv, b, h.obj, h.drop.own, h.drop.drop.map⟩
end
/-- Sizes. -/
structure Bnd (n lim : Nat) (ns : Ns) : Prop where
  hn : n ≤ 256
  hl : lim ≤ 1048576
  hs : ns.length ≤ lim
theorem at_spec (m n lim f : Nat) (ns : Ns) (w : World) (h : MgrF w m n lim ns) (hb : Bnd n lim ns) (hf : Ref ns f) :
    Calls Try.prog 51 [.pointer (some ⟨m, 0, none⟩), .int .i64 (f : Nat)].toArray w fun e w' => ∃ v, e = .returned v ∧ v = ndV (at_ n ns f) ∧ Kp [] w w' := by
  obtain ⟨hbn, hbl, hbs⟩ := hb
  obtain ⟨nv, b, ho, hown, hmap⟩ := h
  have hf' : f < ns.length + 2 := hf
  refine enter Try.func51 mixed low51 (Nat.le_of_ble_eq_true rfl) ?_
  simp only [L51]
  have ka : Kp [] w (w.alloc (.cells #[.int .i64 0, .int .i64 0, .int .i64 0] 90)) := (Kp.refl _ _).alloc _
  have ho' := ka.blk ho (by simp)
  have hown' := hown.kp ka (by simp)
  unfold mgrO at ho'
  rcases Nat.lt_or_ge f 2 with h2 | h2
  · have h2' : (f : Int) < 2 := by omega
    simp [h2', cell_blk ho']
    refine st_obj alloc_new (by simp) (by simp) ?_
    intro w2 hk2 hs2 hb2
    simp
    refine postL_c1 (g := w.heap.size) (n := 3) ag_90 (by simp) (by simpa using hb2) rfl rfl ?_
    refine ⟨_, rfl, ?_, ka.trans' hk2 (fun x hx => .inr (by simp at hx; omega))⟩
    rw [at_lt h2]; rfl
  · have h2' : ¬ (f : Int) < 2 := by omega
    have hlt : f - 2 < ns.length := by omega
    have hi : ((f : Int) - 2) = ((f - 2 : Nat) : Int) := by omega
    have hget : ns[f - 2]? = some (at_ n ns f) := by rw [at_ge h2 hf]; exact List.getElem?_eq_getElem _
    simp (disch := omega) [h2', cell_blk ho', wrap_i64]
    rw [hi]
    simp (disch := omega) [hown'.idx, hown'.cells en_len hget, en_len]
    refine st_obj alloc_new (by simp [en, ints]) (by simp [en, ints]) ?_
    intro w2 hk2 hs2 hb2
    simp
    refine postL_c1 (g := w.heap.size) (n := 3) ag_90 (by simp) (by simpa [en, ints] using hb2) rfl rfl ?_
    exact ⟨_, rfl, rfl, ka.trans' hk2 (fun x hx => .inr (by simp at hx; omega))⟩
end Go.Proofs.YtkojilpjpdpmaaaR
