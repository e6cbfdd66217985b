/-
  A part of the proof of this claim's statement (RxW5): plain theorems; no conditions beyond those each names.
-/
import Derived.Test.YtcplpogmbacnfaaPk13
section
set_option maxRecDepth 100000
set_option linter.unusedSimpArgs false
set_option linter.unusedVariables false
namespace Go.Proofs.Ytcplpogmbacnfaa
open Go Go.W Go.Tk Go.Rx
/-- A relaxation that can be read. -/
structure RlR (b : Nat) (vars : List Nat) (goal : List Fc) (U : List Un) (vv gv fv uv nd fr : Value) (rs : List Ru) (ps : List (Cell1 × List Nat)) (w : World) : Prop where
  obj : w.heap[b]? = some (.cells #[vv, .slice none 0 0, gv, .slice none 0 0, fv, .int .i64 (vars.sum : Nat), uv, nd, fr] 105 (0, 0))
  vvw : Vw w vv nE vars
  gvw : Vw w gv fcE goal
  first : Vw w fv nE (firsts vars vars.length)
  un : Vw w uv ruE rs
  needs : ∀ r ∈ rs, Vw w r.nv.1 nE r.u.needs
  free : Vw w fr nE (frF U)
  needed : Vw w nd sv1 ps
  rows : ∀ p ∈ ps, Vw w p.1.1 nE p.2
  eu : rs.map (·.u) = U
  ep : ps.map (·.2) = (List.range vars.sum).map (nbF U)
theorem RlR.kp {b : Nat} {vars : List Nat} {goal : List Fc} {U : List Un} {vv gv fv uv nd fr : Value} {rs : List Ru} {ps : List (Cell1 × List Nat)} {w w' : World} (h : RlR b vars goal U vv gv fv uv nd fr rs ps w) (k : Kp [] w w') : RlR b vars goal U vv gv fv uv nd fr rs ps w' :=
  ⟨k.blk h.obj (by simp), h.vvw.kp0 k, h.gvw.kp0 k, h.first.kp0 k, h.un.kp0 k, fun r hr => (h.needs r hr).kp0 k, h.free.kp0 k, h.needed.kp0 k, fun p hp => (h.rows p hp).kp0 k, h.eu, h.ep⟩
theorem RlI.rd {b : Nat} {vv gv fv : Value} {vars : List Nat} {goal : List Fc} {U : List Un} {w w1 : World} {F : List Nat} {tb : Nat} {t : Tk} (h : RlI b vv gv fv vars U w F (FrA vv gv vars goal tb t) w1) : ∃ uv nd fr rs ps, RlR b vars goal U vv gv fv uv nd fr rs ps w1 := by
  obtain ⟨uv, nd, fr, rs, ps, h1, h2, h3⟩ := h
  have hf := At.drop (At.drop (At.drop (At.drop (At.drop (At.drop h3)))))
  have ht := At.drop (At.drop (At.drop (At.drop (At.drop h3))))
  have hfree := (At.own (At.drop (At.drop (At.drop (At.drop h3))))).vw
  rw [h1] at hfree
  refine ⟨uv, nd, fr, rs, ps, At.obj h3, (At.own hf).vw, (At.own (At.drop hf)).vw, (At.own (At.drop h3)).vw, (At.own (At.drop (At.drop h3))).vw, fun r hr => ?_, hfree, (TabA.own ht).vw, fun p hp => ?_, h1, h2⟩
  · exact (At.drop (At.drop (At.drop h3))).vws (p := (r.nv, r.u.needs)) (List.mem_map.2 ⟨r, hr, rfl⟩)
  · obtain ⟨i, hi, rfl⟩ := List.getElem_of_mem hp
    exact (TabA.row ht (List.getElem?_eq_getElem hi)).vw
/-- Lists as functions. -/
def tabN (N : Nat) (g : Nat → Nat) : List Nat := (List.range N).map g
theorem tabN_len (N : Nat) (g : Nat → Nat) : (tabN N g).length = N := by simp [tabN]
theorem tabN_at {N k : Nat} {g : Nat → Nat} (h : k < N) : (tabN N g)[k]? = some (g k) := by simp [tabN, h]
theorem tabN_set {N k x : Nat} {g : Nat → Nat} (h : k < N) : (tabN N g).set k x = tabN N (updN g k x) := by
  unfold tabN
  apply List.ext_getElem
  · simp
  · intro i h1 h2
    rw [List.getElem_set]
    by_cases e : k = i
    · subst e; simp
    · rw [if_neg e]; simp [updN_ne (Ne.symm e)]
theorem tabN_congr {N : Nat} {f g : Nat → Nat} (h : ∀ i, i < N → f i = g i) : tabN N f = tabN N g := List.map_congr_left fun i hi => h i (List.mem_range.1 hi)
def oO (v : Value) : Obj := .cells #[v] 22 (0, 0)
/-- The values and the heap. -/
def VI (ob qb N : Nat) (out : Nat → Nat) (l : List En) (w : World) (F : List Nat) (B : Asr) (w' : World) : Prop :=
  ∃ ov sv, At w F (Star (ObjA qb (qO sv)) (Star (OwnA sv 132 2 enE l) (Star (ObjA ob (oO ov)) (Star (OwnA ov 3 1 nE (tabN N out)) B)))) w'
theorem VI.kp0 {ob qb N : Nat} {out : Nat → Nat} {l : List En} {w w1 w2 : World} {F : List Nat} {B : Asr} (hB : Lcl B) (h : VI ob qb N out l w F B w1) (k : Kp [] w1 w2) : VI ob qb N out l w F B w2 := by
  obtain ⟨ov, sv, h⟩ := h
  exact ⟨ov, sv, h.kp0 (Lcl.obj.star (Lcl.own.star (Lcl.obj.star (Lcl.own.star hB)))) k⟩
theorem VI.frm {ob qb N : Nat} {out : Nat → Nat} {l : List En} {w w1 : World} {F : List Nat} {B : Asr} (h : VI ob qb N out l w F B w1) : At w F B w1 := by
  obtain ⟨ov, sv, h⟩ := h
  exact h.drop.drop.drop.drop
theorem VI.by {ob qb N : Nat} {out : Nat → Nat} {l : List En} {w w1 : World} {F : List Nat} {B C : Asr} (h : VI ob qb N out l w F B w1) (i : Imp B C) : VI ob qb N out l w F C w1 := by
  obtain ⟨ov, sv, h⟩ := h
  exact ⟨ov, sv, h.by (Imp.un (Imp.un (Imp.un (Imp.un i))))⟩
theorem VI.kp {ob qb N : Nat} {out : Nat → Nat} {l : List En} {w w1 : World} {F : List Nat} {B : Asr} (h : VI ob qb N out l w F B w1) : Kp F w w1 := by
  obtain ⟨ov, sv, h⟩ := h
  exact h.kp
/-- What lies before comes behind. -/
theorem VI.inn {ob qb N : Nat} {out : Nat → Nat} {l : List En} {w w1 : World} {F : List Nat} {A B : Asr} {ov sv : Value} (h : At w F (Star A (Star (ObjA qb (qO sv)) (Star (OwnA sv 132 2 enE l) (Star (ObjA ob (oO ov)) (Star (OwnA ov 3 1 nE (tabN N out)) B))))) w1) : VI ob qb N out l w F (Star A B) w1 := ⟨ov, sv, h.by Imp.bk5⟩
/-- What reach does. -/
def rcO (out : Nat → Nat) (f v : Nat) : Nat → Nat := if v < out f then updN out f v else out
def rcL (out : Nat → Nat) (l : List En) (f v : Nat) : List En := if v < out f then upL (l ++ [(v, f)]) l.length else l
theorem reach_spec {w w1 : World} {F : List Nat} {B : Asr} (ob qb N : Nat) (out : Nat → Nat) (l : List En) (f v : Nat) (hB : Lcl B) (h : VI ob qb N out l w F B w1) (hf : f < N) (hl : l.length ≤ 900000) :
    Calls Try.prog 69 [.int .i64 (f : Nat), .int .i64 (v : Nat), .pointer (some ⟨ob, 0, none⟩), .pointer (some ⟨qb, 0, none⟩)].toArray w1 fun x w' => ∃ y, x = .returned y ∧ VI ob qb N (rcO out f v) (rcL out l f v) w F B w' := by
  obtain ⟨ov, sv, h1⟩ := h
  refine enter Try.func69 mixed low69 (Nat.le_of_ble_eq_true rfl) ?_
  simp only [L69]
  have ho := h1.drop.drop.obj
  unfold oO at ho
  have hO := h1.drop.drop.drop.own
  have hf2 : (f : Int) < (tabN N out).length := by rw [tabN_len]; omega
  have ec := nE_cell hO.vw (tabN_at (g := out) hf)
  by_cases hlt : v < out f
  · have hlt' : (v : Int) < (out f : Nat) := by omega
    have e1 : rcO out f v = updN out f v := if_pos hlt
    have e2 : rcL out l f v = upL (l ++ [(v, f)]) l.length := if_pos hlt
    rw [e1, e2]
    have ec' : w1.cell? ⟨ov.blk, f, none⟩ = some (.int .i64 (out f : Nat)) := by
      have := hO.cell nE_len (tabN_at (g := out) hf) (o := 0) (by omega)
      simpa [nE] using this
    simp (disch := omega) [cell_blk ho, hO.idx, ec', hlt, hlt']
    refine (h1.by Imp.fr4).store1 (Lcl.obj.star (Lcl.own.star (Lcl.obj.star hB))) nE_len nE_one (k := f) (by rw [tabN_len]; exact hf) (x := v) rfl fun w2 h2 => ?_
    rw [tabN_set hf] at h2
    have h3 := h2.by Imp.bk4
    have hq : QI qb l w F (Star (ObjA ob (oO ov)) (Star (OwnA ov 3 1 nE (tabN N (updN out f v))) B)) w2 := ⟨sv, h3⟩
    simp
    refine cl_of (hPush_spec qb l (v, f) (Lcl.obj.star (Lcl.own.star hB)) hq hl) ?_
    rintro _ w4 ⟨sv', h4⟩
    simp
    exact ⟨ov, sv', h4⟩
  · have hlt' : ¬ (v : Int) < (out f : Nat) := by omega
    have e1 : rcO out f v = out := if_neg hlt
    have e2 : rcL out l f v = l := if_neg hlt
    rw [e1, e2]
    have ec' : w1.cell? ⟨ov.blk, f, none⟩ = some (.int .i64 (out f : Nat)) := by
      have := hO.cell nE_len (tabN_at (g := out) hf) (o := 0) (by omega)
      simpa [nE] using this
    simp (disch := omega) [cell_blk ho, hO.idx, ec', hlt, hlt']
    exact ⟨ov, sv, h1⟩
end Go.Proofs.Ytcplpogmbacnfaa
end
