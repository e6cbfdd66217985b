/-
  A part of the proof of this claim's statement (WhF, WhTab, WhDq): plain theorems; no conditions beyond those each names.
-/
import Derived.Test.YtolkjbmcindhjaaGreatPk19
import Derived.Test.YtolkjbmcindhjaaGreatPk11
import Derived.Test.YtolkjbmcindhjaaGreatPk15
section
set_option maxRecDepth 100000
set_option linter.unusedSimpArgs false
set_option linter.unusedVariables false
namespace Go.Proofs.YtolkjbmcindhjaaGreat
open Go Go.W Go.Tk Go.Rx Go.Maps
/-- A row of a table is replaced. -/
theorem tab_set {α : Type} {enc : α → List Value} {w w1 : World} {F : List Nat} {B : Asr} {v u : Value} {E2 E i : Nat} {ps : List (Cell1 × List α)} {p : Cell1 × List α} {l : List α} {cs : List Value} {KW : Kont World} (hB : Lcl B)
    (h : At w F (Star (OwnA u E 1 enc l) (Star (TabA v E2 E enc ps) B)) w1) (hi : ps[i]? = some p) (hcs : cs = [u]) (H : ∀ (ho : oneC u = true) w2, At w F (Star (TabA v E2 E enc (ps.set i (⟨u, ho⟩, l))) B) w2 → KW.run w2) : @stJ w1 ⟨v.blk, i, none⟩ cs KW :=
  TabA.put hB (h.by (Imp.un (TabA.opn.trans ((Tb2.rowI hi).trans Imp.dr)))) hi hcs H
theorem tab_cell {α : Type} {enc : α → List Value} {w w1 : World} {F : List Nat} {B : Asr} {v : Value} {E2 E i : Nat} {ps : List (Cell1 × List α)} {p : Cell1 × List α} (h : At w F (Star (TabA v E2 E enc ps) B) w1) (hi : ps[i]? = some p) : w1.cell? ⟨v.blk, i, none⟩ = some p.1.1 := by
  have := (TabA.own h).cell sv1_len hi (o := 0) (by omega)
  simpa [sv1] using this
/-- A system in memory. -/
def syO (n i : Nat) (cv ev gv : Value) : Obj := .cells #[.int .i64 (n : Nat), .int .i64 (i : Nat), cv, ev, gv] 194 (0, 0)
theorem rd_sy {w : World} {b n i : Nat} {cv ev gv : Value} (h : w.heap[b]? = some (syO n i cv ev gv)) : cellsAt w ⟨b, 0, none⟩ 0 5 = some [.int .i64 (n : Nat), .int .i64 (i : Nat), cv, ev, gv] := by
  unfold syO at h
  simp [cellsAt, Addr.add, cell_blk h]
def syV (n i : Nat) (cv ev gv : Value) : Value := .agg #[.int .i64 (n : Nat), .int .i64 (i : Nat), cv, ev, gv]
abbrev nlV : Value := .slice none 0 0
theorem rd_no {w : World} {b : Nat} {o : No} (h : w.heap[b]? = some (oqO o.raw)) : cellsAt w ⟨b, 0, none⟩ 0 4 = some [.string o.name, .int .i64 (o.cost : Nat), o.pv.1, o.ev.1] := by
  unfold oqO No.raw at h
  simp [cellsAt, Addr.add, cell_blk h]
/-- The frame of Project. -/
abbrev FrP (T : Nt) (b r0 : Nat) : Asr := Star (ObjA b (ntO T)) (Star (ObjA r0 (syO 0 0 nlV nlV nlV)) Emp)
theorem lcl_p {T : Nt} {b r0 : Nat} : Lcl (FrP T b r0) := Lcl.obj.star (Lcl.obj.star .emp)
/-- The variables outside of a pattern, for the first operators. -/
def OuI (T : Nt) (p : List Nat) (k : Nat) (ps : List (Cell1 × List Nat)) : Prop := ps.length = T.ops.length ∧ ∀ j o q, j < k → T.ops[j]? = some o → ps[j]? = some q → Osr o p T.vars.length q.2
abbrev A0 (T : Nt) (fv cv : Value) (ps : List (Cell1 × List Nat)) (cs : List Nat) (sb N I b r0 : Nat) (ev gv : Value) : Asr := Star (OwnA cv 3 1 nE cs) (Star (ObjA sb (syO N I cv ev gv)) (Star (TabA fv 22 3 nE ps) (FrP T b r0)))
theorem lcl_a0 {T : Nt} {fv cv : Value} {ps : List (Cell1 × List Nat)} {cs : List Nat} {sb N I b r0 : Nat} {ev gv : Value} : Lcl (A0 T fv cv ps cs sb N I b r0 ev gv) := Lcl.own.star (Lcl.obj.star (Lcl.tab.star lcl_p))
/-- The edges that have been found: all for states below a, and for the state a those of the first q operators. -/
structure PjH (T : Nt) (p : List Nat) (a q : Nat) (es : List Ed) : Prop where
  sy : Sy es (szS T.vars p) T.ops.length
  len : es.length ≤ (a * 10 + q) * 64
  hit : ∀ x q' o, StN T.vars x → T.ops[q']? = some o → hdB x o.pre = true → nbS T.vars x p < a ∨ (nbS T.vars x p = a ∧ q' < q) → (nbS T.vars x p, q', nbS T.vars (apS o x) p) ∈ es
structure PjG (T : Nt) (p : List Nat) (a : Nat) (gl : List Bool) : Prop where
  len : gl.length = a
  hit : ∀ x, StN T.vars x → hdB x T.goal = true → nbS T.vars x p < a → gl[nbS T.vars x p]? = some true
/-- A fact of the goal in an abstract state. -/
def gBs (p s : List Nat) (f : Fc) : Bool := !decide (f.1 ∈ p) || decide (s.getD f.1 0 = f.2)
theorem PjH.start {T : Nt} {p : List Nat} : PjH T p 0 0 [] := ⟨⟨by simp⟩, by simp, fun x q' o _ _ _ h => by omega⟩
theorem PjH.next {T : Nt} {p : List Nat} {a : Nat} {es : List Ed} (h : PjH T p a T.ops.length es) (ho : T.ops.length ≤ 10) : PjH T p (a + 1) 0 es := ⟨h.sy, by have := h.len; omega, fun x q' o hx hq hp hh => h.hit x q' o hx hq hp (by
  have := (List.getElem?_eq_some_iff.1 hq).1
  omega)⟩
theorem PjH.step {T : Nt} {p : List Nat} {a q : Nat} {es : List Ed} {o : No} {ys : List Nat} (h : PjH T p a q es) (ha : a < szS T.vars p) (ho : T.ops[q]? = some o) (ht : TgO T o p a ys) (hl : ys.length ≤ 64) : PjH T p a (q + 1) (es ++ ys.map fun y => (a, q, y)) := {
  sy := ⟨fun e he => by
    rcases List.mem_append.1 he with h1 | h1
    · exact h.sy.rng e h1
    · obtain ⟨y, hy, rfl⟩ := List.mem_map.1 h1
      exact ⟨ha, (List.getElem?_eq_some_iff.1 ho).1, ht.rng y hy⟩⟩
  len := by have := h.len; simp; omega
  hit := fun x q' o' hx hq hp hh => by
    by_cases e : nbS T.vars x p = a ∧ q' = q
    · obtain ⟨e1, rfl⟩ := e
      rw [ho] at hq
      cases hq
      rw [e1]
      exact List.mem_append_right _ (List.mem_map.2 ⟨_, ht.hit x ⟨hx, hp, e1⟩, rfl⟩)
    · exact List.mem_append_left _ (h.hit x q' o' hx hq hp (by omega)) }
theorem PjG.next {T : Nt} {p : List Nat} {a : Nat} {gl : List Bool} {s : List Nat} (h : PjG T p a gl) (hs : ∀ x, StN T.vars x → nbS T.vars x p = a → ∀ u ∈ p, s.getD u 0 = x.getD u 0) : PjG T p (a + 1) (gl ++ [T.goal.all (gBs p s)]) := ⟨by simp [h.len], fun x hx hg hn => by
  by_cases e : nbS T.vars x p = a
  · rw [e, List.getElem?_append_right (by rw [h.len]; omega), h.len]
    have : T.goal.all (gBs p s) = true := by
      rw [List.all_eq_true]
      intro f hf
      by_cases hm : f.1 ∈ p
      · unfold gBs; rw [hs x hx e _ hm, hdB_at hg hf]; simp
      · simp [gBs, hm]
    simp [this]
  · rw [List.getElem?_append_left (by rw [h.len]; omega)]
    exact h.hit x hx hg (by omega)⟩
theorem bo_append {w w1 : World} {F : List Nat} {B : Asr} {ov : Value} {l : List Bool} {x : Bool} {KV : Kont (Value × World)} (hB : Lcl B) (h : At w F (Star (OwnA ov 4 1 bE l) B) w1) (hl : l.length ≤ 1000000)
    (H : ∀ v' w2, At w F (Star (OwnA v' 4 1 bE (l ++ [x])) B) w2 → KV.run (v', w2)) :
    @efH Tryz.prog (Builtin.append_ #[96, 96] 96 [ov, .slice (some ⟨w1.heap.size, 0, none⟩) 1 1].toArray) (w1.alloc (.cells #[.bool x] 4)) KV := by
  have h4 := h.kp0 (Lcl.own.star hB) ((Kp.refl [] w1).alloc (.cells #[.bool x] 4))
  refine At.append (xs := [x]) hB h4 bE_len bE_one sl_96 rfl (fun j u hj => ?_) (by omega) (by unfold maxLen; omega) fun v' w5 h5 => H v' w5 h5
  rw [add_none, cell_blk alloc_new]
  simpa [bE] using hj
theorem se_append {w w1 : World} {F : List Nat} {B : Asr} {ov : Value} {l : List Ed} {x : Ed} {KV : Kont (Value × World)} (hB : Lcl B) (h : At w F (Star (OwnA ov 201 3 edE l) B) w1) (hl : l.length ≤ 1000000)
    (H : ∀ v' w2, At w F (Star (OwnA v' 201 3 edE (l ++ [x])) B) w2 → KV.run (v', w2)) :
    @efH Tryz.prog (Builtin.append_ #[192, 192] 192 [ov, .slice (some ⟨w1.heap.size, 0, none⟩) 1 1].toArray) (w1.alloc (.cells #[.int .i64 (x.1 : Nat), .int .i64 (x.2.1 : Nat), .int .i64 (x.2.2 : Nat)] 201)) KV := by
  have h4 := h.kp0 (Lcl.own.star hB) ((Kp.refl [] w1).alloc (.cells #[.int .i64 (x.1 : Nat), .int .i64 (x.2.1 : Nat), .int .i64 (x.2.2 : Nat)] 201))
  refine At.append (xs := [x]) hB h4 edE_len edE_one sl_192 rfl (fun j u hj => ?_) (by omega) (by unfold maxLen; omega) fun v' w5 h5 => H v' w5 h5
  rw [add_none, cell_blk alloc_new]
  simpa [edE] using hj
/-- What Project gives. -/
def PjR (T : Nt) (p : List Nat) (N I : Nat) (w : World) (x : Value) (w' : World) : Prop := ∃ cv ev gv es gl, x = .tuple #[syV N I cv ev gv, .nilIface] ∧ Prj T p gl es ∧ es.length ≤ 10240 ∧ At w [] (Star (OwnA cv 3 1 nE (T.ops.map (·.cost))) (Star (OwnA ev 201 3 edE es) (Star (OwnA gv 4 1 bE gl) Emp))) w'
abbrev A1 (T : Nt) (fv cv sv : Value) (ps : List (Cell1 × List Nat)) (cs s : List Nat) (es : List Ed) (gl : List Bool) (sb N I b r0 : Nat) (ev gv : Value) : Asr := Star (OwnA ev 201 3 edE es) (Star (OwnA gv 4 1 bE gl) (Star (OwnA sv 3 1 nE s) (Star (ObjA sb (syO N I cv ev gv)) (Star (OwnA cv 3 1 nE cs) (Star (TabA fv 22 3 nE ps) (FrP T b r0))))))
theorem lcl_a1 {T : Nt} {fv cv sv : Value} {ps : List (Cell1 × List Nat)} {cs s : List Nat} {es : List Ed} {gl : List Bool} {sb N I b r0 : Nat} {ev gv : Value} : Lcl (A1 T fv cv sv ps cs s es gl sb N I b r0 ev gv) := Lcl.own.star (Lcl.own.star (Lcl.own.star (Lcl.obj.star (Lcl.own.star (Lcl.tab.star lcl_p)))))
def PjB (T : Nt) (p : List Nat) (pv fv cv sv : Value) (ps : List (Cell1 × List Nat)) (cs : List Nat) (N I b r0 sb : Nat) (w : World) (k : Nat) (ρ : Env) (w' : World) : Prop :=
  ρ 1 = pv ∧ ρ 2 = .pointer (some ⟨b, 0, none⟩) ∧ ρ 4 = .pointer (some ⟨r0, 0, none⟩) ∧ ρ 9 = .pointer (some ⟨sb, 0, none⟩) ∧ ρ 10 = fv ∧ ρ 15 = sv ∧
    ∃ ev gv s es gl, PjH T p k 0 es ∧ PjG T p k gl ∧ s.length = T.vars.length ∧ At w [] (A1 T fv cv sv ps cs s es gl sb N I b r0 ev gv) w'
def PjC (T : Nt) (p : List Nat) (pv fv cv sv ev gv : Value) (ps : List (Cell1 × List Nat)) (cs s : List Nat) (es : List Ed) (gl : List Bool) (N I b r0 sb k : Nat) (w : World) (j : Nat) (ρ : Env) (w' : World) : Prop :=
  ρ 1 = pv ∧ ρ 2 = .pointer (some ⟨b, 0, none⟩) ∧ ρ 4 = .pointer (some ⟨r0, 0, none⟩) ∧ ρ 9 = .pointer (some ⟨sb, 0, none⟩) ∧ ρ 10 = fv ∧ ρ 15 = sv ∧ ρ 16 = .int .i64 (k : Nat) ∧ ρ 91 = .int .i64 (k : Nat) ∧ ρ 90 = .int .i64 (N : Nat) ∧ ρ 100 = T.gv.1 ∧
    ρ 17 = .bool ((T.goal.take j).all (gBs p s)) ∧ At w [] (A1 T fv cv sv ps cs s es gl sb N I b r0 ev gv) w'
def PjD (T : Nt) (p : List Nat) (pv fv cv sv gv : Value) (ps : List (Cell1 × List Nat)) (cs s : List Nat) (gl : List Bool) (N I b r0 sb k : Nat) (w : World) (q : Nat) (ρ : Env) (w' : World) : Prop :=
  ρ 1 = pv ∧ ρ 2 = .pointer (some ⟨b, 0, none⟩) ∧ ρ 4 = .pointer (some ⟨r0, 0, none⟩) ∧ ρ 9 = .pointer (some ⟨sb, 0, none⟩) ∧ ρ 10 = fv ∧ ρ 15 = sv ∧ ρ 16 = .int .i64 (k : Nat) ∧ ρ 91 = .int .i64 (k : Nat) ∧ ρ 90 = .int .i64 (N : Nat) ∧
    ∃ ev es, PjH T p k q es ∧ At w [] (A1 T fv cv sv ps cs s es gl sb N I b r0 ev gv) w'
def PjE (T : Nt) (p : List Nat) (pv fv cv sv gv u : Value) (ps : List (Cell1 × List Nat)) (cs s : List Nat) (es : List Ed) (gl : List Bool) (ys : List Nat) (N I b r0 sb k q : Nat) (w : World) (j : Nat) (ρ : Env) (w' : World) : Prop :=
  ρ 1 = pv ∧ ρ 2 = .pointer (some ⟨b, 0, none⟩) ∧ ρ 4 = .pointer (some ⟨r0, 0, none⟩) ∧ ρ 9 = .pointer (some ⟨sb, 0, none⟩) ∧ ρ 10 = fv ∧ ρ 15 = sv ∧ ρ 16 = .int .i64 (k : Nat) ∧ ρ 91 = .int .i64 (k : Nat) ∧ ρ 90 = .int .i64 (N : Nat) ∧ ρ 20 = .int .i64 (q : Nat) ∧ ρ 134 = .int .i64 (q : Nat) ∧ ρ 133 = .int .i64 (T.ops.length : Nat) ∧ ρ 145 = u ∧
    ∃ ev, At w [] (Star (OwnA u 3 1 nE ys) (A1 T fv cv sv ps cs s (es ++ (ys.take j).map fun y => (k, q, y)) gl sb N I b r0 ev gv)) w'
def PjA (T : Nt) (p : List Nat) (pv fv : Value) (N I b r0 sb : Nat) (w : World) (k : Nat) (ρ : Env) (w' : World) : Prop :=
  ρ 1 = pv ∧ ρ 2 = .pointer (some ⟨b, 0, none⟩) ∧ ρ 4 = .pointer (some ⟨r0, 0, none⟩) ∧ ρ 7 = .int .i64 (N : Nat) ∧ ρ 9 = .pointer (some ⟨sb, 0, none⟩) ∧ ρ 10 = fv ∧ ρ 52 = T.ov.1 ∧
    ∃ cv ps, OuI T p k ps ∧ At w [] (A0 T fv cv ps ((T.ops.take k).map (·.cost)) sb N I b r0 nlV nlV) w'
set_option maxHeartbeats 4000000 in
theorem project_spec {w : World} (T : Nt) (pv : Value) (p : List Nat) (hT : TmT T) (hr : NtR w T) (hpv : Vw w pv nE p) (hp : Pt T p) :
    Calls Tryz.prog 115 [ntV T, pv].toArray w fun e w' => ∃ x, e = .returned x ∧ PjR T p (szS T.vars p) (nbS T.vars T.init p) w x w' := by
  refine enter Tryz.func115 mixed low115 (Nat.le_of_ble_eq_true rfl) ?_
  simp only [L115]
  have hpl := hp.len.2
  have hg := hT.sm.g
  have hvl := hT.vl
  have hol := hT.ol
  have hszp : ∀ k, k ≤ p.length → szK T.vars p k ≤ 4096 := fun k hk => Nat.le_trans (szK_256 hT hp.rng (by omega) hk) (by decide)
  obtain ⟨b, hb⟩ : ∃ b, b = w.heap.size := ⟨_, rfl⟩
  have h1 : At w [] (Star (ObjA b (ntO T)) Emp) (w.alloc (ntO T)) := by rw [hb]; exact (At.start rfl).alloc _ .emp
  obtain ⟨w1, hw1⟩ : ∃ w1, w1 = w.alloc (ntO T) := ⟨_, rfl⟩
  rw [← hw1] at h1
  have hw1' : w.alloc (.cells #[T.vv.1, T.nv.1, T.gv.1, T.ov.1] 26 (0, 0)) = w1 := by rw [hw1]; rfl
  have hL : Lcl (Star (ObjA b (ntO T)) Emp) := Lcl.obj.star .emp
  obtain ⟨r0, hr0⟩ : ∃ r0, r0 = w1.heap.size := ⟨_, rfl⟩
  have h2 : At w [] (FrP T b r0) (w1.alloc (syO 0 0 nlV nlV nlV)) := by rw [hr0]; exact (h1.alloc _ hL).by Imp.sw
  obtain ⟨w2, hw2⟩ : ∃ w2, w2 = w1.alloc (syO 0 0 nlV nlV nlV) := ⟨_, rfl⟩
  rw [← hw2] at h2
  have hw2' : w1.alloc (.cells #[.int .i64 0, .int .i64 0, .slice none 0 0, .slice none 0 0, .slice none 0 0] 194 (0, 0)) = w2 := by rw [hw2]; rfl
  simp [ntV, ← hb, hw1', ← hr0, hw2', rd_nt h2.obj]
  refine cl_of (prCheck_spec T pv p hT.sm (hr.kp h2.kp) (hpv.kp0 h2.kp) hp) ?_
  rintro _ w3 ⟨rfl, k3⟩
  have h3 := h2.kp0 lcl_p k3
  simp [rd_nt h3.obj]
  refine cl_of (count_spec T pv p (hr.kp h3.kp) (hpv.kp0 h3.kp) hp.rng (by omega) hszp) ?_
  rintro _ w4 ⟨rfl, k4⟩
  have h4 := h3.kp0 lcl_p k4
  have ob4 := h4.obj
  unfold ntO at ob4
  simp [rd_nt h4.obj, cell_blk ob4]
  have hist : StN T.vars T.init := ⟨hg.ilen, fun i hi => hg.init i (by rw [hg.ilen]; exact hi)⟩
  refine cl_of (number_pr T pv T.nv.1 p T.init (hr.kp h4.kp) (hpv.kp0 h4.kp) (hr.kp h4.kp).init hg.ilen (fun v hv => ⟨hp.rng v hv, hist.rng v (hp.rng v hv)⟩) (by omega) (by omega) hszp) ?_
  rintro _ w5 ⟨rfl, k5⟩
  have h5 := h4.kp0 lcl_p k5
  obtain ⟨I, hI⟩ : ∃ I, I = nbS T.vars T.init p := ⟨_, rfl⟩
  obtain ⟨N, hN⟩ : ∃ N, N = szS T.vars p := ⟨_, rfl⟩
  have hN' := hN
  have hN16 : N ≤ 16 := by rw [hN]; exact szS_16 hT hp.rng hpl
  rw [← hI, ← hN]
  obtain ⟨sb, hsb⟩ : ∃ sb, sb = w5.heap.size := ⟨_, rfl⟩
  simp [← hsb]
  have h6 : At w [] (Star (ObjA sb (syO 0 0 nlV nlV nlV)) (FrP T b r0)) (w5.alloc (syO 0 0 nlV nlV nlV)) := by rw [hsb]; exact h5.alloc _ lcl_p
  refine (show At w [] _ (w5.alloc _) from h6).st lcl_p (by simp) (by simp) fun w6 h6 => ?_
  have h6 : At w [] (Star (ObjA sb (syO N I nlV nlV nlV)) (FrP T b r0)) w6 := by simpa [syO] using h6
  have ob6 := h6.drop.obj
  unfold ntO at ob6
  have hr6 := hr.kp h6.kp
  simp (disch := omega) [cell_blk ob6, hr6.ops.len]
  refine gd_mk (by omega) ?_
  have hL6 : Lcl (Star (ObjA sb (syO N I nlV nlV nlV)) (FrP T b r0)) := Lcl.obj.star lcl_p
  have h7 := h6.made (E := 22) (enc := (sv1 : Cell1 × List Nat → List Value)) (x := (⟨nlV, rfl⟩, [])) (z := [nlV]) (n := T.ops.length) hL6 rfl sv1_len (by unfold maxLen; omega)
  have h7 := (At.rows_nil (E := 3) (sz := 1) (enc := nE) (Lcl.own.star hL6) h7 rfl T.ops.length).by (RowsA.up _)
  have h7 := At.nil (E := 3) (sz := 1) (enc := nE) (Lcl.obj.star (Lcl.tab.star lcl_p)) ((h7.by TabA.cls).by Imp.sw)
  obtain ⟨fv, hfv⟩ : ∃ fv, fv = Value.slice (some ⟨w6.heap.size, 0, none⟩) T.ops.length T.ops.length := ⟨_, rfl⟩
  obtain ⟨w7, hw7⟩ : ∃ w7, w7 = w6.alloc (.cells (rowOf [nlV] T.ops.length).toArray 22) := ⟨_, rfl⟩
  rw [← hfv, ← hw7] at h7
  have ob7 := h7.drop.drop.drop.obj
  unfold ntO at ob7
  have hr7 := hr.kp h7.kp
  simp (disch := omega) [← hfv, ← hw7, cell_blk ob7, hr7.ops.len]
  refine range_loop (n := T.ops.length) (by omega) (PjA T p pv fv N I b r0 sb w) (by simp) (by simp)
    ⟨by simp, by simp, by simp, by simp, by simp, by simp, by simp, nlV, List.replicate T.ops.length ((⟨nlV, rfl⟩, []) : Cell1 × List Nat), ⟨by simp, fun j o q hj => by omega⟩, by simpa using h7⟩ (by decide) (fun _ _ _ _ h => by simpa [PjA] using h) (fun _ _ _ _ h => by simpa [PjA] using h) ?_ ?_
  · clear h1 h2 h3 h4 h5 h6 h7 ob4 ob6 ob7 hr6 hr7 k3 k4 k5 hw1 hw1' hw2 hw2' hw7 hfv hsb hb hr0
    rintro k ρ w8 hk hc hlm ⟨g1, g2, g4, g7, g9, g10, g52, cv, ps, ⟨hpsl, hps⟩, h8⟩
    obtain ⟨o, ho⟩ : ∃ o, T.ops[k]? = some o := ⟨_, List.getElem?_eq_getElem hk⟩
    have hom := List.mem_of_getElem? ho
    have htk := take_snoc ho
    have hok := ho
    have hgo := hg.ops o hom
    have hr8 := hr.kp h8.kp
    have eco := hr8.ops.cells noE_len ho
    simp only [noE] at eco
    obtain ⟨ob, hob⟩ : ∃ ob, ob = w8.heap.size := ⟨_, rfl⟩
    have hki : (k : Int) < T.ops.length := by omega
    simp (disch := omega) [g52, hc, hlm, hr8.ops.idx, eco, ← hob]
    refine st_oq (o := o.raw) lcl_a0 h8 hob fun w9 h9 => ?_
    have oo9 := h9.obj
    unfold oqO No.raw at oo9
    rw [hob] at oo9
    have os9 := h9.drop.drop.obj
    unfold syO at os9
    have hlm9 : ((T.ops.take k).map (·.cost)).length = k := by simp; omega
    simp (disch := omega) [g9, cell_blk oo9, cell_blk os9]
    refine nat_append (l := (T.ops.take k).map (·.cost)) (x := o.cost) (B := Star (ObjA ob (oqO o.raw)) (Star (ObjA sb (syO N I cv nlV nlV)) (Star (TabA fv 22 3 nE ps) (FrP T b r0)))) (Lcl.obj.star (Lcl.obj.star (Lcl.tab.star lcl_p))) (h9.by Imp.sw) (by omega) fun v' wA hA => ?_
    have osA := hA.drop.drop.obj
    unfold syO at osA
    simp [g9, hA.own.c1]
    refine (show At w [] (Star (ObjA sb (syO N I cv nlV nlV)) (Star (OwnA v' 3 1 nE ((T.ops.take k).map (·.cost) ++ [o.cost])) (Star (ObjA ob (oqO o.raw)) (Star (TabA fv 22 3 nE ps) (FrP T b r0))))) wA from hA.by ((Imp.un Imp.sw).trans Imp.sw)).st (Lcl.own.star (Lcl.obj.star (Lcl.tab.star lcl_p))) (by simp) (by simp [hA.own.o1]) fun wB hB => ?_
    have hB : At w [] (Star (ObjA sb (syO N I v' nlV nlV)) (Star (OwnA v' 3 1 nE ((T.ops.take k).map (·.cost) ++ [o.cost])) (Star (ObjA ob (oqO o.raw)) (Star (TabA fv 22 3 nE ps) (FrP T b r0))))) wB := by simpa [syO] using hB
    have hroB := (hr.kp hB.kp).op o hom
    have ooB := hB.drop.drop.obj
    have rdB := rd_no ooB
    rw [hob] at rdB
    simp [g1, g10, rdB]
    refine cl_of (outside_spec o pv p T.vars hroB hgo (hpv.kp0 hB.kp) hp.nodup hp.rng (by omega) (by omega)) ?_
    rintro u wC ⟨l, hl, hN⟩
    have hLB : Lcl (Star (ObjA sb (syO N I v' nlV nlV)) (Star (OwnA v' 3 1 nE ((T.ops.take k).map (·.cost) ++ [o.cost])) (Star (ObjA ob (oqO o.raw)) (Star (TabA fv 22 3 nE ps) (FrP T b r0))))) := Lcl.obj.star (Lcl.own.star (Lcl.obj.star (Lcl.tab.star lcl_p)))
    have hC := (At.nw hLB hB hN).by (Imp.un Imp.fr4)
    obtain ⟨pr, hpr⟩ : ∃ pr, ps[k]? = some pr := ⟨_, List.getElem?_eq_getElem (by omega)⟩
    have hTI := TabA.own (hC.drop)
    have hkp : (k : Int) < ps.length := by omega
    simp (disch := omega) [g10, hc, hTI.idx, hC.own.c1]
    refine tab_set (Lcl.obj.star (Lcl.own.star (Lcl.obj.star lcl_p))) hC hpr rfl fun ho wD hD => ?_
    have hpr' : (ps.set k (⟨u, ho⟩, l))[k]? = some (⟨u, ho⟩, l) := by rw [List.getElem?_set_self (by omega)]
    have hTD := TabA.own hD
    have hrow := TabA.row hD hpr'
    have htc := tab_cell hD hpr'
    have obD := hD.drop.drop.drop.drop.obj
    have hkd : (k : Int) < (ps.set k (⟨u, ho⟩, l)).length := by simp; omega
    have hll := hl.len
    have hlr : ∀ v ∈ l, v < T.vars.length := fun v hv => (hl.rng v hv).1
    simp (disch := omega) [g2, g10, hc, rd_nt obD, hTD.idx, htc]
    refine cl_of (count_spec T u l (hr.kp hD.kp.drew) hrow.vw.drew hlr (by omega) (fun j hj => Nat.le_trans (szK_256 hT hlr (by omega) hj) (by decide))) ?_
    rintro _ wE ⟨rfl, kE⟩
    have hE := hD.kp0 (Lcl.tab.star (Lcl.obj.star (Lcl.own.star (Lcl.obj.star lcl_p)))) kE.drewl
    simp [hc, hlm]
    refine ⟨by simp [g1], by simp [g2], by simp [g4], by simp [g7], by simp [g9], by simp [g10], by simp [g52], v', ps.set k (⟨u, ho⟩, l), ⟨by simp [hpsl], fun j o' q hj ho' hq => ?_⟩, ?_⟩
    · by_cases e : j = k
      · subst e
        rw [List.getElem?_set_self (by omega)] at hq
        rw [hok] at ho'
        cases hq; cases ho'
        exact hl
      · rw [List.getElem?_set_ne (fun h => e h.symm)] at hq
        exact hps j o' q (by omega) ho' hq
    · rw [htk, List.map_append]
      exact hE.by (Imp.fr3.trans (Imp.un (Imp.sw.trans (Imp.un (Imp.un Imp.dr)))))
  clear h1 h2 h3 h4 h5 h6 h7 ob4 ob6 ob7 hr6 hr7 k3 k4 k5 hw1 hw1' hw2 hw2' hw7 hfv hsb hb hr0
  rintro ρ w8 ⟨g1, g2, g4, g7, g9, g10, g52, cv, ps, ⟨hpsl, hps⟩, h8⟩
  rw [List.take_length] at h8
  obtain ⟨cs, hcs⟩ : ∃ cs, cs = T.ops.map (·.cost) := ⟨_, rfl⟩
  rw [← hcs] at h8
  have ob8 := h8.drop.drop.drop.obj
  unfold ntO at ob8
  have hr8 := hr.kp h8.kp
  simp (disch := omega) [g2, cell_blk ob8, hr8.vars.len]
  refine gd_mk (by omega) ?_
  have h9 := h8.made (E := 3) (enc := nE) (x := 0) (z := [.int .i64 0]) (n := T.vars.length) lcl_a0 rfl nE_len (by unfold maxLen; omega)
  obtain ⟨sv, hsv⟩ : ∃ sv, sv = Value.slice (some ⟨w8.heap.size, 0, none⟩) T.vars.length T.vars.length := ⟨_, rfl⟩
  obtain ⟨w9, hw9⟩ : ∃ w9, w9 = w8.alloc (.cells (rowOf [.int .i64 0] T.vars.length).toArray 3) := ⟨_, rfl⟩
  rw [← hsv, ← hw9] at h9
  have h9 := h9.by (Imp.un Imp.sw)
  have h9 := At.nil (E := 201) (sz := 3) (enc := edE) (Lcl.own.star (Lcl.own.star (Lcl.obj.star (Lcl.own.star (Lcl.tab.star lcl_p))))) (At.nil (E := 4) (sz := 1) (enc := bE) (Lcl.own.star (Lcl.obj.star (Lcl.own.star (Lcl.tab.star lcl_p)))) h9)
  simp (disch := omega) [← hsv, ← hw9, g7]
  refine range_loop (n := N) (by omega) (PjB T p pv fv cv sv ps cs N I b r0 sb w) (by simp) (by simp)
    ⟨by simp [g1], by simp [g2], by simp [g4], by simp [g9], by simp [g10], by simp, nlV, nlV, _, [], [], PjH.start, ⟨rfl, fun x _ _ h => by omega⟩, by simp, h9⟩ (by decide) (fun _ _ _ _ h => by simpa [PjB] using h) (fun _ _ _ _ h => by simpa [PjB] using h) ?_ ?_
  rotate_left
  · rintro ρ wA ⟨g1, g2, g4, g9, g10, g15, ev, gv, s, es, gl, hH, hG, hsl, hA⟩
    have rdA := rd_sy hA.drop.drop.drop.obj
    have oC := hA.drop.drop.drop.drop.own.o1
    have oE := hA.own.o1
    have oG := hA.drop.own.o1
    have hA8 := hA.by Imp.fr8
    simp [g9, g4, rdA]
    refine (show At w [] (Star (ObjA r0 (syO 0 0 nlV nlV nlV)) _) wA from hA8).st (Lcl.own.star (Lcl.own.star (Lcl.own.star (Lcl.obj.star (Lcl.own.star (Lcl.tab.star (Lcl.obj.star .emp))))))) (by simp) (by simp [oC, oE, oG]) fun wB hB => ?_
    have e5 : wrAt #[.int .i64 ((0 : Nat) : Int), .int .i64 ((0 : Nat) : Int), nlV, nlV, nlV] 0 [.int .i64 (N : Nat), .int .i64 (I : Nat), cv, ev, gv] = #[.int .i64 (N : Nat), .int .i64 (I : Nat), cv, ev, gv] := by simp
    rw [e5] at hB
    have obR := hB.obj
    simp
    refine postL_c2 ag_194 (by simp [g4]) obR rfl rfl ?_
    simp
    refine ⟨cv, ev, gv, es, gl, rfl, ⟨hH.sy, by rw [← hN]; exact hG.len, fun x hx hg' => hG.hit x hx hg' (by rw [hN]; exact hp.nb_lt hx), fun x q o hx hq hp' => hH.hit x q o hx hq hp' (.inl (by rw [hN]; exact hp.nb_lt hx))⟩, by have := hH.len; omega, ?_⟩
    rw [← hcs]
    exact hB.by (Imp.dr.trans (Imp.fr5.trans (Imp.un (Imp.un (Imp.un (Imp.dr.trans (Imp.dr.trans (Imp.dr.trans Imp.dr))))))))
  rintro k ρ wA hk hc hlm ⟨g1, g2, g4, g9, g10, g15, ev, gv, s, es, gl, hH, hG, hsl, hA⟩
  have hki : (k : Int) < (N : Nat) := by omega
  have obA := hA.drop.drop.drop.drop.drop.drop.obj
  have hv0 : T.vars ≠ [] := by
    intro e
    have h1 := hp.len.1
    cases hpp : p with
    | nil => rw [hpp] at h1; simp at h1
    | cons v p' => have := hp.rng v (by rw [hpp]; simp); rw [e] at this; simp at this
  simp (disch := omega) [hc, hlm, g2, g1, g15, rd_nt obA]
  refine cl_of (put_spec T pv sv p s k hr hg hv0 hpv hp.rng (by omega) (by omega) (B := Star (OwnA ev 201 3 edE es) (Star (OwnA gv 4 1 bE gl) (Star (ObjA sb (syO N I cv ev gv)) (Star (OwnA cv 3 1 nE cs) (Star (TabA fv 22 3 nE ps) (FrP T b r0)))))) (Lcl.own.star (Lcl.own.star (Lcl.obj.star (Lcl.own.star (Lcl.tab.star lcl_p))))) (hA.by Imp.fr3) hsl) ?_
  rintro _ wB hB
  have hB := hB.by Imp.bk3
  have hsx : ∀ x, StN T.vars x → nbS T.vars x p = k → ∀ u ∈ p, (putR T.vars p.reverse s k).getD u 0 = x.getD u 0 := fun x hx e u hu => by
    rw [← e]
    exact putR_nb (fun v hv => ⟨by rw [hsl]; exact hp.rng v hv, hx.rng v (hp.rng v hv)⟩) hu
  have hGn := hG.next hsx
  have hsl' : (putR T.vars p.reverse s k).length = T.vars.length := by rw [putR_len]; exact hsl
  obtain ⟨s', hs'⟩ : ∃ s', s' = putR T.vars p.reverse s k := ⟨_, rfl⟩
  rw [← hs'] at hB hsx hGn hsl'
  clear hA obA hsl
  have obB := hB.drop.drop.drop.drop.drop.drop.obj
  unfold ntO at obB
  have hgl := hg.goal.len
  have hrB := hr.kp hB.kp
  simp (disch := omega) [g2, cell_blk obB, hrB.goal.len]
  refine range_loop (n := T.goal.length) (by omega) (PjC T p pv fv cv sv ev gv ps cs s' es gl N I b r0 sb k w) (by simp) (by simp)
    ⟨by simp [g1], by simp [g2], by simp [g4], by simp [g9], by simp [g10], by simp [g15], by simp, by simp [hc], by simp [hlm], by simp, by simp, hB⟩ (by decide) (fun _ _ _ _ h => by simpa [PjC] using h) (fun _ _ _ _ h => by simpa [PjC] using h) ?_ ?_
  · clear hB obB hrB g1 g2 g4 g9 g10 g15 hc hlm
    rintro j ρ wC hj hcj hlj ⟨g1, g2, g4, g9, g10, g15, g16, g91, g90, g100, g17, hC⟩
    obtain ⟨f, hf⟩ : ∃ f, T.goal[j]? = some f := ⟨_, List.getElem?_eq_getElem hj⟩
    have hfm := List.mem_of_getElem? hf
    have hrC := hr.kp hC.kp
    have ecf := hrC.goal.cells fcE_len hf
    simp only [fcE] at ecf
    obtain ⟨fb, hfb⟩ : ∃ fb, fb = wC.heap.size := ⟨_, rfl⟩
    have hji : (j : Int) < T.goal.length := by omega
    simp (disch := omega) [g100, hcj, hlj, hrC.goal.idx, ecf, ← hfb]
    refine st_fa (f := faN f) lcl_a1 hC hfb fun wD hD => ?_
    have ofD := hD.obj
    simp only [faN, faO] at ofD
    rw [hfb] at ofD
    have hsc : (T.goal.take (j + 1)).all (gBs p s') = ((T.goal.take j).all (gBs p s') && gBs p s' f) := by rw [take_snoc hf]; simp
    cases t0 : (T.goal.take j).all (gBs p s') with
    | false =>
      rw [t0] at g17 hsc
      simp (disch := omega) [cell_blk ofD, g17, hcj, hlj]
      exact ⟨by simp [g1], by simp [g2], by simp [g4], by simp [g9], by simp [g10], by simp [g15], by simp [g16], by simp [g91], by simp [g90], by simp [g100], by rw [hsc]; simp, hD.drop.drew lcl_a1⟩
    | true =>
      rw [t0] at g17 hsc
      simp (disch := omega) [cell_blk ofD, g17, g1]
      refine cl_of (containsI_spec pv p f.1 (hpv.kp0 hD.kp.drew) (by omega)) ?_
      rintro _ wE ⟨rfl, kE⟩
      have hE := hD.kp0 (Lcl.obj.star lcl_a1) kE.drewl
      have ofE := hE.obj
      simp only [faN, faO] at ofE
      rw [hfb] at ofE
      have hO := hE.drop.drop.drop.own
      obtain ⟨hg1, hg2⟩ := hg.goal.rng f hfm
      obtain ⟨y, hy⟩ : ∃ y, s'[f.1]? = some y := ⟨_, List.getElem?_eq_getElem (by rw [hsl']; exact hg1)⟩
      have hyd : s'.getD f.1 0 = y := by simp [List.getD, hy]
      have hgi : (f.1 : Int) < s'.length := by rw [hsl']; omega
      by_cases hin : f.1 ∈ p
      · have hgb : gBs p s' f = decide (y = f.2) := by unfold gBs; rw [hyd]; simp [hin]
        have heq : ((y : Int) == (f.2 : Int)) = decide (y = f.2) := by
          by_cases e : y = f.2
          · simp [e]
          · have : ¬ (y : Int) = (f.2 : Int) := by omega
            simp [e, this]
        simp (disch := omega) [hin, cell_blk ofE, g15, g17, hO.idx, own_cell hO hy, heq, hcj, hlj]
        exact ⟨by simp [g1], by simp [g2], by simp [g4], by simp [g9], by simp [g10], by simp [g15], by simp [g16], by simp [g91], by simp [g90], by simp [g100], by rw [hsc, hgb]; simp, hE.drop⟩
      · have hgb : gBs p s' f = true := by unfold gBs; simp [hin]
        simp (disch := omega) [hin, g17, hcj, hlj]
        exact ⟨by simp [g1], by simp [g2], by simp [g4], by simp [g9], by simp [g10], by simp [g15], by simp [g16], by simp [g91], by simp [g90], by simp [g100], by rw [hsc, hgb]; simp, hE.drop⟩
  clear hB obB hrB g1 g2 g4 g9 g10 g15 hc hlm
  rintro ρ wC ⟨g1, g2, g4, g9, g10, g15, g16, g91, g90, g100, g17, hC⟩
  rw [List.take_length] at g17
  obtain ⟨gv0, hgv0⟩ : ∃ x, x = T.goal.all (gBs p s') := ⟨_, rfl⟩
  rw [← hgv0] at g17 hGn
  have osC := hC.drop.drop.drop.obj
  unfold syO at osC
  have hGl := hG.len
  simp [g9, cell_blk osC, g17]
  refine bo_append (l := gl) (x := gv0) (B := Star (OwnA ev 201 3 edE es) (Star (OwnA sv 3 1 nE s') (Star (ObjA sb (syO N I cv ev gv)) (Star (OwnA cv 3 1 nE cs) (Star (TabA fv 22 3 nE ps) (FrP T b r0)))))) (Lcl.own.star (Lcl.own.star (Lcl.obj.star (Lcl.own.star (Lcl.tab.star lcl_p))))) (hC.by Imp.sw) (by omega) fun gv' wD hD => ?_
  have hD3 := hD.by Imp.fr4
  have osD := hD3.obj
  unfold syO at osD
  simp [g9, hD.own.c1]
  refine (show At w [] (Star (ObjA sb (syO N I cv ev gv)) _) wD from hD3).st (Lcl.own.star (Lcl.own.star (Lcl.own.star (Lcl.own.star (Lcl.tab.star lcl_p))))) (by simp) (by simp [hD.own.o1]) fun wE hE => ?_
  have e5 : wrAt #[.int .i64 (N : Nat), .int .i64 (I : Nat), cv, ev, gv] 4 [gv'] = #[.int .i64 (N : Nat), .int .i64 (I : Nat), cv, ev, gv'] := by simp
  rw [e5] at hE
  have hE : At w [] (A1 T fv cv sv ps cs s' es (gl ++ [gv0]) sb N I b r0 ev gv') wE := hE.by (Imp.bk4.trans Imp.sw)
  clear hC hD hD3 osC osD
  obtain ⟨gl', hgl'⟩ : ∃ gl', gl' = gl ++ [gv0] := ⟨_, rfl⟩
  rw [← hgl'] at hE hGn
  have obE := hE.drop.drop.drop.drop.drop.drop.obj
  unfold ntO at obE
  have hrE := hr.kp hE.kp
  simp (disch := omega) [g2, cell_blk obE, hrE.ops.len]
  refine range_loop (n := T.ops.length) (by omega) (PjD T p pv fv cv sv gv' ps cs s' gl' N I b r0 sb k w) (by simp) (by simp)
    ⟨by simp [g1], by simp [g2], by simp [g4], by simp [g9], by simp [g10], by simp [g15], by simp [g16], by simp [g91], by simp [g90], ev, es, hH, hE⟩ (by decide) (fun _ _ _ _ h => by simpa [PjD] using h) (fun _ _ _ _ h => by simpa [PjD] using h) ?_ ?_
  rotate_left
  · clear hE obE hrE g1 g2 g4 g9 g10 g15 g16 g91 g90 g100 g17
    rintro ρ wF ⟨g1, g2, g4, g9, g10, g15, g16, g91, g90, ev2, es2, hH2, hF⟩
    simp [g91, g90]
    exact ⟨by simp [g1], by simp [g2], by simp [g4], by simp [g9], by simp [g10], by simp [g15], ev2, gv', s', es2, gl', hH2.next hol, hGn, hsl', hF⟩
  clear hE obE hrE g1 g2 g4 g9 g10 g15 g16 g91 g90 g100 g17 hH
  rintro q ρ wF hq hcq hlq ⟨g1, g2, g4, g9, g10, g15, g16, g91, g90, ev, es, hH, hF⟩
  obtain ⟨o, ho⟩ : ∃ o, T.ops[q]? = some o := ⟨_, List.getElem?_eq_getElem hq⟩
  obtain ⟨pr, hpr⟩ : ∃ pr, ps[q]? = some pr := ⟨_, List.getElem?_eq_getElem (by omega)⟩
  have hosr := hps q o pr hq ho hpr
  have hll := hosr.len
  have hlr : ∀ v ∈ pr.2, v < T.vars.length := fun v hv => (hosr.rng v hv).1
  have hp1 := hp.len.1
  have hF6 := hF.by Imp.fr6
  have hTF := TabA.own hF6
  have hrow := TabA.row hF6 hpr
  have htc := tab_cell hF6 hpr
  have obF := hF.drop.drop.drop.drop.drop.drop.obj
  have hqi : (q : Int) < T.ops.length := by omega
  have hqp : (q : Int) < ps.length := by omega
  have hp0 : p ≠ [] := by intro e; rw [e] at hp1; simp at hp1
  simp (disch := omega) [hcq, hlq, g2, g1, g10, g16, rd_nt obF, hTF.idx, htc]
  refine cl_of (targets_spec T o pv pr.1.1 p pr.2 q k (hr.kp hF.kp.drew) hg ho (hpv.kp0 hF.kp.drew) hrow.vw.drew hp.rng hp0 (by omega) hosr hszp (fun j hj => Nat.le_trans (szK_256 hT hlr (by omega) hj) (by decide)) (by omega)) ?_
  rintro u wG ⟨ys, hys, hyl, hN⟩
  have hy64 : ys.length ≤ 64 := Nat.le_trans hyl (szS_64 hT hlr (by omega))
  have hG2 := At.nw lcl_a1 (hF.drew lcl_a1) hN
  have hLG : ∀ es ev, Lcl (Star (OwnA u 3 1 nE ys) (A1 T fv cv sv ps cs s' es gl' sb N I b r0 ev gv')) := fun _ _ => Lcl.own.star lcl_a1
  simp [hG2.own.len]
  refine range_loop (n := ys.length) (by omega) (PjE T p pv fv cv sv gv' u ps cs s' es gl' ys N I b r0 sb k q w) (by simp) (by simp)
    ⟨by simp [g1], by simp [g2], by simp [g4], by simp [g9], by simp [g10], by simp [g15], by simp [g16], by simp [g91], by simp [g90], by simp, by simp [hcq], by simp [hlq], by simp, ev, by simpa using hG2⟩ (by decide) (fun _ _ _ _ h => by simpa [PjE] using h) (fun _ _ _ _ h => by simpa [PjE] using h) ?_ ?_
  rotate_left
  · clear hF hF6 hTF hrow htc obF hG2 g1 g2 g4 g9 g10 g15 g16 g91 g90 hcq hlq
    rintro ρ wH ⟨g1, g2, g4, g9, g10, g15, g16, g91, g90, g20, g134, g133, g145, ev2, hH3⟩
    rw [List.take_length] at hH3
    simp [g134, g133]
    exact ⟨by simp [g1], by simp [g2], by simp [g4], by simp [g9], by simp [g10], by simp [g15], by simp [g16], by simp [g91], by simp [g90], ev2, _, hH.step (by rw [← hN']; exact hk) ho hys hy64, hH3.drop⟩
  clear hF hF6 hTF hrow htc obF hG2 g1 g2 g4 g9 g10 g15 g16 g91 g90 hcq hlq
  rintro j ρ wH hj hcj hlj ⟨g1, g2, g4, g9, g10, g15, g16, g91, g90, g20, g134, g133, g145, ev2, hH3⟩
  obtain ⟨y, hy⟩ : ∃ y, ys[j]? = some y := ⟨_, List.getElem?_eq_getElem hj⟩
  obtain ⟨es2, hes2⟩ : ∃ es2, es2 = es ++ (ys.take j).map fun y => (k, q, y) := ⟨_, rfl⟩
  have hel : es2.length ≤ 20000 := by rw [hes2]; have := hH.len; simp; omega
  rw [← hes2] at hH3
  have hO := hH3.own
  have osH := hH3.drop.drop.drop.drop.obj
  unfold syO at osH
  have hEd := hH3.drop.own
  have hji : (j : Int) < ys.length := by omega
  have n1 : ((es2.length : Int) == 65536) = false := by simp; omega
  simp (disch := omega) [g145, hcj, hlj, hO.idx, own_cell hO hy, g9, cell_blk osH, hEd.len, n1, g16, g20]
  refine se_append (l := es2) (x := (k, q, y)) (B := Star (OwnA u 3 1 nE ys) (Star (OwnA gv' 4 1 bE gl') (Star (OwnA sv 3 1 nE s') (Star (ObjA sb (syO N I cv ev2 gv')) (Star (OwnA cv 3 1 nE cs) (Star (TabA fv 22 3 nE ps) (FrP T b r0))))))) (Lcl.own.star (Lcl.own.star (Lcl.own.star (Lcl.obj.star (Lcl.own.star (Lcl.tab.star lcl_p)))))) (hH3.by Imp.sw) (by omega) fun ev' wI hI => ?_
  have hI5 := hI.by Imp.fr5
  have osI := hI5.obj
  unfold syO at osI
  simp [g9, hI.own.c1]
  refine (show At w [] (Star (ObjA sb (syO N I cv ev2 gv')) _) wI from hI5).st (Lcl.own.star (Lcl.own.star (Lcl.own.star (Lcl.own.star (Lcl.own.star (Lcl.tab.star lcl_p)))))) (by simp) (by simp [hI.own.o1]) fun wJ hJ => ?_
  have e6 : wrAt #[.int .i64 (N : Nat), .int .i64 (I : Nat), cv, ev2, gv'] 3 [ev'] = #[.int .i64 (N : Nat), .int .i64 (I : Nat), cv, ev', gv'] := by simp
  rw [e6] at hJ
  simp [g145, hcj, hlj]
  have hm : es ++ (ys.take (j + 1)).map (fun y => (k, q, y)) = es2 ++ [(k, q, y)] := by rw [hes2, take_snoc hy]; simp
  refine ⟨by simp [g1], by simp [g2], by simp [g4], by simp [g9], by simp [g10], by simp [g15], by simp [g16], by simp [g91], by simp [g90], by simp [g20], by simp [g134], by simp [g133], by simp [g145], ev', ?_⟩
  rw [hm]
  exact hJ.by (Imp.bk5.trans Imp.sw)
end Go.Proofs.YtolkjbmcindhjaaGreat
end
section
set_option linter.unusedVariables false
set_option linter.unusedSimpArgs false
set_option linter.unusedSectionVars false
namespace Go.W
open Go
section
variable {α : Type} {enc : α → List Value} {E E2 sz : Nat} {B X : Asr} {w w1 : World} {F : List Nat} {v : Value} {ps : List (Cell1 × List α)}
def TbS (v : Value) (E2 E sz : Nat) (enc : α → List Value) (ps : List (Cell1 × List α)) (B : Asr) : Asr := Star (OwnA v E2 1 sv1 ps) (RowsA E sz enc ps B)
def TabS (v : Value) (E2 E sz : Nat) (enc : α → List Value) (ps : List (Cell1 × List α)) : Asr := TbS v E2 E sz enc ps Emp
theorem Lcl.tabS : Lcl (TabS v E2 E sz enc ps) := Lcl.own.star (Lcl.rows .emp ps)
theorem RowsA.opnS : ∀ (ps : List (Cell1 × List α)), Imp (Star (RowsA E sz enc ps Emp) X) (RowsA E sz enc ps X)
  | [] => Imp.dr
  | p :: ps => Imp.as.trans (Imp.un (RowsA.opnS ps))
theorem RowsA.clsS : ∀ (ps : List (Cell1 × List α)), Imp (RowsA E sz enc ps X) (Star (RowsA E sz enc ps Emp) X)
  | [] => Imp.em
  | p :: ps => (Imp.un (RowsA.clsS ps)).trans Imp.as'
theorem TabS.opn : Imp (Star (TabS v E2 E sz enc ps) X) (TbS v E2 E sz enc ps X) := Imp.as.trans (Imp.un (RowsA.opnS ps))
theorem TabS.cls : Imp (TbS v E2 E sz enc ps X) (Star (TabS v E2 E sz enc ps) X) := (Imp.un (RowsA.clsS ps)).trans Imp.as'
theorem TbS.rowI {i : Nat} {p : Cell1 × List α} (hi : ps[i]? = some p) : Imp (TbS v E2 E sz enc ps B) (Star (OwnA p.1.1 E sz enc p.2) (Star (OwnA v E2 1 sv1 ps) (RowsA E sz enc (ps.eraseIdx i) B))) := (Imp.un (RowsA.out ps i p hi)).trans Imp.sw
theorem TabS.row {i : Nat} {p : Cell1 × List α} (h : At w F (Star (TabS v E2 E sz enc ps) B) w1) (hi : ps[i]? = some p) : Own w1 p.1.1 E sz enc p.2 := ((h.by TabS.opn).by (TbS.rowI hi)).own
theorem TabS.own (h : At w F (Star (TabS v E2 E sz enc ps) B) w1) : Own w1 v E2 1 sv1 ps := At.own (h.by TabS.opn)
theorem TabS.cell {i : Nat} {p : Cell1 × List α} (h : At w F (Star (TabS v E2 E sz enc ps) B) w1) (hi : ps[i]? = some p) : w1.cell? ⟨v.blk, i, none⟩ = some p.1.1 := by
  have := (TabS.own h).cell sv1_len hi (o := 0) (by omega)
  simpa [sv1] using this
/-- A row for writing. -/
theorem TabS.take {i : Nat} {p : Cell1 × List α} (hi : ps[i]? = some p) : Imp (Star (TabS v E2 E sz enc ps) B) (Star (OwnA p.1.1 E sz enc p.2) (Star (OwnA v E2 1 sv1 ps) (RowsA E sz enc (ps.eraseIdx i) B))) := TabS.opn.trans (TbS.rowI hi)
theorem TabS.lcl_rest {i : Nat} (hB : Lcl B) : Lcl (Star (OwnA v E2 1 sv1 ps) (RowsA E sz enc (ps.eraseIdx i) B)) := Lcl.own.star (Lcl.rows hB _)
/-- A row is put into its place. -/
theorem TabS.put {KW : Kont World} {i : Nat} {p : Cell1 × List α} {u : Value} {l : List α} {cs : List Value} (hB : Lcl B) (h : At w F (Star (OwnA u E sz enc l) (Star (OwnA v E2 1 sv1 ps) (RowsA E sz enc (ps.eraseIdx i) B))) w1) (hi : ps[i]? = some p) (hcs : cs = [u])
    (H : ∀ (ho : oneC u = true) w2, At w F (Star (TabS v E2 E sz enc (ps.set i (⟨u, ho⟩, l))) B) w2 → KW.run w2) : @stJ w1 ⟨v.blk, i, none⟩ cs KW := by
  have hlt : i < ps.length := (List.getElem?_eq_some_iff.1 hi).1
  exact (h.by Imp.sw).store1 (Lcl.own.star (Lcl.rows hB _)) sv1_len sv1_one hlt (x := ((⟨u, h.own.o1⟩, l) : Cell1 × List α)) hcs fun w2 h2 => H h.own.o1 w2 ((h2.by (Imp.un (RowsA.back ps i (⟨u, h.own.o1⟩, l) hlt))).by TabS.cls)
end
end Go.W
end
section
set_option linter.unusedVariables false
set_option linter.unusedSimpArgs false
namespace Go.Rx
def toL (es : List (Nat × Nat × Nat)) (f : Nat) : List (Nat × Nat × Nat) := es.filter fun e => decide (e.2.2 = f)
def und (es : List (Nat × Nat × Nat)) (done : Nat → Bool) : Nat := (es.filter fun e => !done e.2.2).length
theorem toL_mem {es : List (Nat × Nat × Nat)} {f : Nat} {e : Nat × Nat × Nat} : e ∈ toL es f ↔ e ∈ es ∧ e.2.2 = f := by simp [toL]
theorem toL_snoc {es : List (Nat × Nat × Nat)} {e : Nat × Nat × Nat} {f : Nat} : toL (es ++ [e]) f = if e.2.2 = f then toL es f ++ [e] else toL es f := by
  unfold toL
  rw [List.filter_append]
  by_cases h : e.2.2 = f <;> simp [h]
theorem und_le {es : List (Nat × Nat × Nat)} {done : Nat → Bool} : und es done ≤ es.length := List.length_filter_le _ _
theorem und_upd {es : List (Nat × Nat × Nat)} {done : Nat → Bool} {f : Nat} (h : done f = false) : und es (updN done f true) + (toL es f).length = und es done := by
  unfold und toL
  induction es with
  | nil => rfl
  | cons e es ih =>
    by_cases hf : e.2.2 = f
    · have h1 : updN done f true e.2.2 = true := by rw [hf]; simp
      have h2 : done e.2.2 = false := by rw [hf]; exact h
      simp only [List.filter_cons, h1, h2, Bool.not_true, Bool.not_false, if_true, decide_eq_true_eq, if_pos hf, List.length_cons]
      simp only [Bool.false_eq_true, if_false]
      omega
    · have h1 : updN done f true e.2.2 = done e.2.2 := updN_ne hf
      simp only [List.filter_cons, h1, decide_eq_true_eq, if_neg hf]
      cases h3 : done e.2.2 with
      | true => simpa using ih
      | false => simp only [Bool.not_false, if_true, List.length_cons]; omega
structure Dq (es : List (Nat × Nat × Nat)) (c : Nat → Nat) (S S0 : List Nat) (out : Nat → Nat) (s : List En) (done : Nat → Bool) (cur : Nat) (pend : List (Nat × Nat × Nat)) : Prop where
  dk : Dk es c S S0 out s done cur pend
  nd : s.Nodup
  fr : ∀ e ∈ s, e.1 = out e.2 → done e.2 = false
section
variable {es : List (Nat × Nat × Nat)} {c : Nat → Nat} {S S0 : List Nat} {out : Nat → Nat} {s : List En} {done : Nat → Bool} {cur : Nat} {pend : List (Nat × Nat × Nat)}
theorem Dq.init : Dq es c S [] (fun _ => Inf) [] (fun _ => false) 0 [] := ⟨Dk.init, by simp, by simp⟩
theorem Dq.goal (h : Dq es c S S0 out s (fun _ => false) 0 pend) {f : Nat} (hf : f ∈ S) (ho : out f = Inf) : Dq es c S (S0 ++ [f]) (updN out f 0) ((0, f) :: s) (fun _ => false) 0 pend := ⟨h.dk.goal hf ho, by
  rw [List.nodup_cons]
  refine ⟨fun hm => ?_, h.nd⟩
  have := (h.dk.ent _ hm).1
  simp only [ho] at this
  exact absurd this (by decide), fun _ _ _ => rfl⟩
theorem Dq.skip (h : Dq es c S S0 out s done cur pend) {x : En} (hd : out x.2 < x.1) : Dq es c S S0 out (s.erase x) done cur pend :=
  ⟨h.dk.skip hd, h.nd.erase x, fun e he => h.fr e (List.mem_of_mem_erase he)⟩
theorem Dq.pop (h : Dq es c S S0 out s done cur []) {x : En} (hx : x ∈ s) (hm : ∀ y ∈ s, x.1 ≤ y.1) (hd : x.1 ≤ out x.2) :
    done x.2 = false ∧ out x.2 = x.1 ∧ Dq es c S S0 out (s.erase x) (updN done x.2 true) x.1 (toL es x.2) := by
  obtain ⟨h1, h2⟩ := h.dk.pop hx hm hd (pend := toL es x.2) fun e he hf => toL_mem.2 ⟨he, hf⟩
  refine ⟨h.fr x hx h2.symm, h2, h1, h.nd.erase x, fun e he h3 => ?_⟩
  have he' := List.mem_of_mem_erase he
  by_cases e2 : e.2 = x.2
  · have : e = x := Prod.ext (by rw [h3, e2, h2]) e2
    subst this
    exact absurd he h.nd.not_mem_erase
  · rw [updN_ne e2]
    exact h.fr e he' h3
theorem Dq.look {e : Nat × Nat × Nat} (h : Dq es c S S0 out s done cur (e :: pend)) (he : out e.1 ≤ out e.2.2 + c e.2.1) : Dq es c S S0 out s done cur pend := ⟨h.dk.look he, h.nd, h.fr⟩
/-- An edge improves its first state. -/
theorem Dq.hit {e : Nat × Nat × Nat} (h : Dq es c S S0 out s done cur (e :: pend)) (he : e ∈ es) (hc : out e.2.2 = cur) (hlt : cur + c e.2.1 < out e.1) :
    Dq es c S S0 (updN out e.1 (cur + c e.2.1)) ((cur + c e.2.1, e.1) :: s) done cur pend ∧ updN out e.1 (cur + c e.2.1) e.2.2 = cur := by
  have hne : e.2.2 ≠ e.1 := fun e' => by rw [e'] at hc; omega
  have h0 : updN out e.1 (cur + c e.2.1) e.2.2 = cur := by rw [updN_ne hne]; exact hc
  have hd := h.dk.der_now he (by rw [hc]; exact h.dk.cu)
  rw [hc] at hd
  have h1 := h.dk.reach hlt hd (Nat.le_add_right _ _)
  refine ⟨⟨h1.look (by simp only [updN_same]; rw [h0]; exact Nat.le_refl _), ?_, fun x hx hx1 => ?_⟩, h0⟩
  · rw [List.nodup_cons]
    refine ⟨fun hm => ?_, h.nd⟩
    have := (h.dk.ent _ hm).1
    simp only at this
    omega
  · have nf : done e.1 = false := by
      cases hdf : done e.1 with
      | false => rfl
      | true => have := h.dk.dn _ hdf; omega
    rcases List.mem_cons.1 hx with rfl | hx
    · exact nf
    · by_cases e2 : x.2 = e.1
      · rw [e2]; exact nf
      · rw [updN_ne e2] at hx1
        exact h.fr x hx hx1
theorem Dq.fin (h : Dq es c S S out [] done cur []) : IsVal (unE es c) S out := h.dk.fin
end
end Go.Rx
end
