/-
  A part of the proof of this claim's statement (RxW1, RxW2, TkChk, RxW3, RxW4, RxW5, RxW6, RxW7, RxW8, RxW9, RxWA, RxLev, RxWC, RxXA, RxXB): plain theorems; no conditions beyond those each names.
-/
import Derived.Test.YtcplpogmbacnfaaPk10
import Derived.Test.YtcplpogmbacnfaaPk11
section
set_option maxRecDepth 100000
set_option linter.unusedSimpArgs false
set_option linter.unusedVariables false
namespace Go.Proofs.Ytcplpogmbacnfaa
open Go Go.W Go.Tk Go.Rx
theorem sl_nil {v : Value} {α : Type} {enc : α → List Value} {l : List α} {w : World} (h : Vw w v enc l) : (v = .slice none 0 0 ∧ l = []) ∨ ∃ a cap, v = .slice (some a) l.length cap := by
  rcases h with h | ⟨a, cap, rfl, _⟩
  · exact .inl h
  · exact .inr ⟨a, cap, rfl⟩
theorem cloneI_spec {w : World} (v : Value) (l : List Nat) (hv : Vw w v nE l) (hl : l.length ≤ 1000000) :
    Calls Try.prog 31 [v].toArray w fun e w' => ∃ u, e = .returned u ∧ Nw w w' u 3 1 nE l := by
  refine enter Try.func31 mixed low31 (Nat.le_of_ble_eq_true rfl) ?_
  simp only [L31]
  have h0 : At w [] Emp w := At.start rfl
  rcases sl_nil hv with ⟨rfl, rfl⟩ | ⟨a, cap, rfl⟩
  · simp
    exact Nw.of (At.nil (E := 3) (sz := 1) (enc := nE) .emp h0)
  · simp [rowOf]
    have h1 := h0.lit (xs := ([] : List Nat)) (enc := nE) (E := 3) (sz := 1) (cs := #[]) (m := 0) .emp (by simp) nE_len (by simp [maxLen]) rfl
    refine At.appendV (xs := l) .emp h1 (hv.kp0 ((Kp.refl [] w).alloc _)) nE_len nE_one sl_22 (by simp; omega) (by simp; unfold maxLen; omega) fun v' w2 h2 => ?_
    simp
    exact Nw.of (by simpa using h2)
theorem nE_cell {w : World} {v : Value} {l : List Nat} {k x : Nat} (h : Vw w v nE l) (hx : l[k]? = some x) : w.cell? (v.adr.add k) = some (.int .i64 (x : Nat)) := by
  simpa using h.at_ nE_len hx (o := 0) (u := .int .i64 (x : Nat)) rfl
/-- A relaxation's cells. -/
def relO (vv gv fv : Value) (n : Nat) (uv nd fr : Value) : Obj := .cells #[vv, .slice none 0 0, gv, .slice none 0 0, fv, .int .i64 (n : Nat), uv, nd, fr] 105 (0, 0)
/-- The numbers of the first facts of the variables. -/
def firsts (vars : List Nat) (k : Nat) : List Nat := (List.range k).map (psum vars)
theorem firsts_at {vars : List Nat} {k v : Nat} (h : v < k) : (firsts vars k)[v]? = some (psum vars v) := by simp [firsts, h]
end Go.Proofs.Ytcplpogmbacnfaa
end
section
set_option maxRecDepth 100000
set_option linter.unusedSimpArgs false
set_option linter.unusedVariables false
namespace Go.Proofs.Ytcplpogmbacnfaa
open Go Go.W Go.Tk Go.Rx
/-- A unary operator in cells. -/
structure Ru where
  u : Un
  nv : Cell1
def ruE (r : Ru) : List Value := [.int .i64 (r.u.op : Nat), .int .i64 (r.u.eff : Nat), .int .i64 (r.u.cost : Nat), .int .i64 (r.u.makes : Nat), r.nv.1]
def nds (rs : List Ru) : List (Cell1 × List Nat) := rs.map fun r => (r.nv, r.u.needs)
/-- A relaxation while it is built. -/
def RlA (b : Nat) (vv gv fv : Value) (vars : List Nat) (uv nd fr : Value) (rs : List Ru) (ps : List (Cell1 × List Nat)) (B : Asr) : Asr :=
  Star (ObjA b (relO vv gv fv vars.sum uv nd fr)) (Star (OwnA fv 3 1 nE (firsts vars vars.length)) (Star (OwnA uv 109 5 ruE rs) (Star (VwsA nE (nds rs)) (Star (OwnA fr 3 1 nE (frF (rs.map (·.u)))) (Star (TabA nd 22 3 nE ps) B)))))
theorem RlA.lcl {b : Nat} {vv gv fv : Value} {vars : List Nat} {uv nd fr : Value} {rs : List Ru} {ps : List (Cell1 × List Nat)} {B : Asr} (hB : Lcl B) : Lcl (RlA b vv gv fv vars uv nd fr rs ps B) :=
  Lcl.obj.star (Lcl.own.star (Lcl.own.star (Lcl.vws.star (Lcl.own.star (Lcl.tab.star hB)))))
def RlI (b : Nat) (vv gv fv : Value) (vars : List Nat) (U : List Un) (w : World) (F : List Nat) (B : Asr) (w' : World) : Prop :=
  ∃ uv nd fr rs ps, rs.map (·.u) = U ∧ ps.map (·.2) = (List.range vars.sum).map (nbF U) ∧ At w F (RlA b vv gv fv vars uv nd fr rs ps B) w'
end Go.Proofs.Ytcplpogmbacnfaa
end
section
set_option linter.unusedVariables false
set_option linter.unusedSimpArgs false
namespace Go.Tk
open Go Go.W
theorem prop_len {vars : List Int} {l : List Fa} (hv : ∀ n ∈ vars, 0 ≤ n) (h : propF vars l = true) : l.length ≤ vars.length := by
  have hn : vars = (vars.map Int.toNat).map iN := by
    rw [List.map_map]
    conv => lhs; rw [← List.map_id vars]
    exact List.map_congr_left fun n hn2 => by have := hv n hn2; simp [iN]; omega
  obtain ⟨m, hm, ok⟩ := prop_nat hn h
  have := ok.len
  have := congrArg List.length hm
  simp at *
  omega
theorem chk_good (t : Tk) : chkC t = none ↔ goodB t = true := by
  have hc : ∀ {vars : List Int}, vars.all varB = true → ∀ n ∈ vars, 0 ≤ n := fun h n hn => by
    have := List.all_eq_true.1 h n hn
    simp [varB] at this
    omega
  constructor
  · intro h
    unfold chkC at h
    split at h; · cases h
    rename_i e1
    split at h; · cases h
    rename_i e2
    split at h; · cases h
    rename_i e3
    split at h; · cases h
    rename_i e4
    split at h; · cases h
    rename_i e5
    split at h; · cases h
    rename_i e6
    split at h; · cases h
    rename_i e7
    simp only [Bool.not_eq_true, Bool.not_eq_false] at e1 e2 e3 e4 e5 e6 e7
    unfold largeB at e1
    simp only [Bool.not_eq_false', Bool.and_eq_true, decide_eq_true_eq] at e1
    obtain ⟨⟨⟨l1, l2⟩, l3⟩, l4⟩ := e1
    rw [List.all_eq_true] at l3 e3 e5 e6 e7
    have hg : propF t.vars t.goal = true := e5 (t.gv, t.goal) (by simp [condsL])
    have ho : t.ops.all (opB t.vars) = true := by
      rw [List.all_eq_true]
      intro o ho
      have a1 := e3 o ho
      have a2 := e7 o ho
      have a3 := l3 o ho
      have a4 : propF t.vars o.pre = true := e5 (o.pv, o.pre) (by
        unfold condsL
        exact List.mem_cons_of_mem _ (List.mem_flatMap.2 ⟨o, ho, by simp [condsO]⟩))
      have a5 : o.effs.all (effB t.vars) = true := by
        rw [List.all_eq_true]
        intro e he
        have b1 := List.all_eq_true.1 (e6 o ho) e he
        have b2 : propF t.vars e.cnd = true := e5 (e.wv, e.cnd) (by
          unfold condsL
          exact List.mem_cons_of_mem _ (List.mem_flatMap.2 ⟨o, ho, by
            unfold condsO
            exact List.mem_cons_of_mem _ (List.mem_map.2 ⟨e, he, rfl⟩)⟩))
        simp [effB, b1, b2]
      simp only [Bool.and_eq_true, decide_eq_true_eq] at a1 a3
      simp only [opB, a2, a4, a5, Bool.and_true, Bool.and_eq_true, decide_eq_true_eq]
      exact ⟨a1, a3⟩
    simp only [goodB, e2, e4, hg, ho, Bool.and_true, Bool.and_eq_true, decide_eq_true_eq]
    exact ⟨l1, l2⟩
  · intro h
    unfold goodB at h
    simp only [Bool.and_eq_true, decide_eq_true_eq] at h
    obtain ⟨⟨⟨⟨⟨h1, h2⟩, h3⟩, h4⟩, h5⟩, h6⟩ := h
    have h6' := List.all_eq_true.1 h6
    have hop : ∀ o ∈ t.ops, (0 ≤ o.cost ∧ o.cost ≤ 1048576) ∧ o.effs.length ≤ 64 ∧ nameB o.name = true ∧ propF t.vars o.pre = true ∧ ∀ e ∈ o.effs, propF t.vars e.cnd = true ∧ inR t.vars (e.v, e.x) = true := fun o ho => by
      have := h6' o ho
      unfold opB at this
      simp only [Bool.and_eq_true, decide_eq_true_eq, List.all_eq_true] at this
      obtain ⟨⟨⟨⟨⟨c1, c2⟩, c3⟩, c4⟩, c5⟩, c6⟩ := this
      refine ⟨⟨c1, c2⟩, c3, c4, c5, fun e he => ?_⟩
      have := c6 e he
      unfold effB at this
      simpa only [Bool.and_eq_true] using this
    have hcp : ∀ p ∈ condsL t, propF t.vars p.2 = true := fun p hp => by
      unfold condsL at hp
      rcases List.mem_cons.1 hp with rfl | hp
      · exact h5
      · obtain ⟨o, ho, hp⟩ := List.mem_flatMap.1 hp
        unfold condsO at hp
        rcases List.mem_cons.1 hp with rfl | hp
        · exact (hop o ho).2.2.2.1
        · obtain ⟨e, he, rfl⟩ := List.mem_map.1 hp
          exact ((hop o ho).2.2.2.2 e he).1
    have hl : largeB t = false := by
      unfold largeB
      simp only [Bool.not_eq_false', Bool.and_eq_true, decide_eq_true_eq, List.all_eq_true]
      exact ⟨⟨⟨h1, h2⟩, fun o ho => (hop o ho).2.1⟩, fun p hp => Nat.le_trans (prop_len (hc h3) (hcp p hp)) h1⟩
    have e3 : (t.ops.all fun o => decide (0 ≤ o.cost) && decide (o.cost ≤ 1048576)) = true := by
      rw [List.all_eq_true]
      intro o ho
      have := (hop o ho).1
      simp; omega
    have e5 : ((condsL t).all fun p => propF t.vars p.2) = true := by rw [List.all_eq_true]; exact hcp
    have e6 : (t.ops.all fun o => o.effs.all fun e => inR t.vars (e.v, e.x)) = true := by
      rw [List.all_eq_true]
      intro o ho
      rw [List.all_eq_true]
      exact fun e he => ((hop o ho).2.2.2.2 e he).2
    have e7 : (t.ops.all fun o => nameB o.name) = true := by
      rw [List.all_eq_true]
      exact fun o ho => (hop o ho).2.2.1
    unfold chkC
    rw [if_neg (by rw [hl]; simp), if_neg (by rw [h3]; simp), if_neg (by rw [e3]; simp), if_neg (by rw [h4]; simp), if_neg (by rw [e5]; simp), if_neg (by rw [e6]; simp), if_neg (by rw [e7]; simp)]
/-- A good task's lists are short. -/
theorem NtG.lens {T : Nt} (h : NtG T) (hn : ∀ o ∈ T.ops, o.name.size ≤ 9223372036854775807) : TkL T.raw := by
  have hg := h.goal.len
  refine ⟨by simp [Nt.raw]; have := h.ilen; have := h.vlen; omega, by simp [Nt.raw]; have := h.vlen; omega, by simp [Nt.raw]; have := h.olen; omega, by simp [Nt.raw]; have := h.vlen; omega, fun o ho => ?_⟩
  obtain ⟨o', ho', rfl⟩ := List.mem_map.1 ho
  have g := h.ops o' ho'
  have := g.pre.len
  have := h.vlen
  have := g.elen
  refine ⟨hn o' ho', by simp [No.raw]; omega, by simp [No.raw]; omega, fun e he => ?_⟩
  obtain ⟨e', he', rfl⟩ := List.mem_map.1 he
  have := (g.cnd e' he').len
  simp [Nf.raw]; omega
end Go.Tk
end
section
set_option maxRecDepth 100000
set_option linter.unusedSimpArgs false
set_option linter.unusedVariables false
namespace Go.Proofs.Ytcplpogmbacnfaa
open Go Go.W Go.Tk Go.Rx
/-- The costs that a relaxation has. -/
def cst (T : Nt) (cs : List Int) (i : Nat) : Nat := if cs.length = 0 then (match T.ops[i]? with | some o => o.cost | none => 0) else (cs.getD i 0).toNat
theorem RlA.frame {b : Nat} {vv gv fv : Value} {vars : List Nat} {uv nd fr : Value} {rs : List Ru} {ps : List (Cell1 × List Nat)} {X Y : Asr} (h : Imp X Y) : Imp (RlA b vv gv fv vars uv nd fr rs ps X) (RlA b vv gv fv vars uv nd fr rs ps Y) :=
  Imp.un (Imp.un (Imp.un (Imp.un (Imp.un (Imp.un h)))))
/-- The frame of a relaxation: the copies, and the task's variable. -/
def FrA (vv gv : Value) (vars : List Nat) (goal : List Fc) (tb : Nat) (t : Tk) : Asr := Star (OwnA vv 3 1 nE vars) (Star (OwnA gv 58 2 fcE goal) (Star (ObjA tb (tkO t)) Emp))
theorem FrA.lcl {vv gv : Value} {vars : List Nat} {goal : List Fc} {tb : Nat} {t : Tk} : Lcl (FrA vv gv vars goal tb t) := Lcl.own.star (Lcl.own.star (Lcl.obj.star .emp))
theorem RlI.kp0 {b : Nat} {vv gv fv : Value} {vars : List Nat} {U : List Un} {w w1 w2 : World} {F : List Nat} {B : Asr} (hB : Lcl B) (h : RlI b vv gv fv vars U w F B w1) (k : Kp [] w1 w2) : RlI b vv gv fv vars U w F B w2 := by
  obtain ⟨uv, nd, fr, rs, ps, h1, h2, h3⟩ := h
  exact ⟨uv, nd, fr, rs, ps, h1, h2, h3.kp0 (RlA.lcl hB) k⟩
theorem RlI.kp {b : Nat} {vv gv fv : Value} {vars : List Nat} {U : List Un} {w w1 : World} {F : List Nat} {B : Asr} (h : RlI b vv gv fv vars U w F B w1) : Kp F w w1 := by
  obtain ⟨uv, nd, fr, rs, ps, h1, h2, h3⟩ := h
  exact h3.kp
theorem RlI.by {b : Nat} {vv gv fv : Value} {vars : List Nat} {U : List Un} {w w1 : World} {F : List Nat} {B C : Asr} (h : RlI b vv gv fv vars U w F B w1) (i : Imp B C) : RlI b vv gv fv vars U w F C w1 := by
  obtain ⟨uv, nd, fr, rs, ps, h1, h2, h3⟩ := h
  exact ⟨uv, nd, fr, rs, ps, h1, h2, h3.by (RlA.frame i)⟩
theorem RlI.fst {b : Nat} {vv gv fv : Value} {vars : List Nat} {U : List Un} {w w1 : World} {F : List Nat} {B : Asr} (h : RlI b vv gv fv vars U w F B w1) : (∃ uv nd fr, w1.heap[b]? = some (relO vv gv fv vars.sum uv nd fr)) ∧ Vw w1 fv nE (firsts vars vars.length) := by
  obtain ⟨uv, nd, fr, rs, ps, h1, h2, h3⟩ := h
  exact ⟨⟨uv, nd, fr, At.obj h3⟩, (At.own (At.drop h3)).vw⟩
theorem psum_zero (vars : List Nat) : psum vars 0 = 0 := by simp [psum]
theorem firsts_succ (vars : List Nat) (k : Nat) : firsts vars (k + 1) = firsts vars k ++ [psum vars k] := by
  unfold firsts; rw [List.range_succ]; simp
end Go.Proofs.Ytcplpogmbacnfaa
end
section
set_option maxRecDepth 100000
set_option linter.unusedSimpArgs false
set_option linter.unusedVariables false
namespace Go.Proofs.Ytcplpogmbacnfaa
open Go Go.W Go.Tk Go.Rx
def enE (e : En) : List Value := [.int .i64 (e.1 : Nat), .int .i64 (e.2 : Nat)]
def qO (v : Value) : Obj := .cells #[v] 128 (0, 0)
end Go.Proofs.Ytcplpogmbacnfaa
end
section
set_option maxRecDepth 100000
set_option linter.unusedSimpArgs false
set_option linter.unusedVariables false
namespace Go.Proofs.Ytcplpogmbacnfaa
open Go Go.W Go.Tk Go.Rx
/-- A relaxation that can be read. -/
structure RlR (b : Nat) (vars : List Nat) (goal : List Fc) (U : List Un) (vv gv fv uv nd fr : Value) (rs : List Ru) (ps : List (Cell1 × List Nat)) (w : World) : Prop where
  obj : w.heap[b]? = some (.cells #[vv, .slice none 0 0, gv, .slice none 0 0, fv, .int .i64 (vars.sum : Nat), uv, nd, fr] 105 (0, 0))
  vvw : Vw w vv nE vars
  gvw : Vw w gv fcE goal
  first : Vw w fv nE (firsts vars vars.length)
  un : Vw w uv ruE rs
  needs : ∀ r ∈ rs, Vw w r.nv.1 nE r.u.needs
  free : Vw w fr nE (frF U)
  needed : Vw w nd sv1 ps
  rows : ∀ p ∈ ps, Vw w p.1.1 nE p.2
  eu : rs.map (·.u) = U
  ep : ps.map (·.2) = (List.range vars.sum).map (nbF U)
theorem RlR.kp {b : Nat} {vars : List Nat} {goal : List Fc} {U : List Un} {vv gv fv uv nd fr : Value} {rs : List Ru} {ps : List (Cell1 × List Nat)} {w w' : World} (h : RlR b vars goal U vv gv fv uv nd fr rs ps w) (k : Kp [] w w') : RlR b vars goal U vv gv fv uv nd fr rs ps w' :=
  ⟨k.blk h.obj (by simp), h.vvw.kp0 k, h.gvw.kp0 k, h.first.kp0 k, h.un.kp0 k, fun r hr => (h.needs r hr).kp0 k, h.free.kp0 k, h.needed.kp0 k, fun p hp => (h.rows p hp).kp0 k, h.eu, h.ep⟩
theorem RlI.rd {b : Nat} {vv gv fv : Value} {vars : List Nat} {goal : List Fc} {U : List Un} {w w1 : World} {F : List Nat} {tb : Nat} {t : Tk} (h : RlI b vv gv fv vars U w F (FrA vv gv vars goal tb t) w1) : ∃ uv nd fr rs ps, RlR b vars goal U vv gv fv uv nd fr rs ps w1 := by
  obtain ⟨uv, nd, fr, rs, ps, h1, h2, h3⟩ := h
  have hf := At.drop (At.drop (At.drop (At.drop (At.drop (At.drop h3)))))
  have ht := At.drop (At.drop (At.drop (At.drop (At.drop h3))))
  have hfree := (At.own (At.drop (At.drop (At.drop (At.drop h3))))).vw
  rw [h1] at hfree
  refine ⟨uv, nd, fr, rs, ps, At.obj h3, (At.own hf).vw, (At.own (At.drop hf)).vw, (At.own (At.drop h3)).vw, (At.own (At.drop (At.drop h3))).vw, fun r hr => ?_, hfree, (TabA.own ht).vw, fun p hp => ?_, h1, h2⟩
  · exact (At.drop (At.drop (At.drop h3))).vws (p := (r.nv, r.u.needs)) (List.mem_map.2 ⟨r, hr, rfl⟩)
  · obtain ⟨i, hi, rfl⟩ := List.getElem_of_mem hp
    exact (TabA.row ht (List.getElem?_eq_getElem hi)).vw
/-- Lists as functions. -/
def tabN (N : Nat) (g : Nat → Nat) : List Nat := (List.range N).map g
theorem tabN_len (N : Nat) (g : Nat → Nat) : (tabN N g).length = N := by simp [tabN]
theorem tabN_at {N k : Nat} {g : Nat → Nat} (h : k < N) : (tabN N g)[k]? = some (g k) := by simp [tabN, h]
theorem tabN_set {N k x : Nat} {g : Nat → Nat} (h : k < N) : (tabN N g).set k x = tabN N (updN g k x) := by
  unfold tabN
  apply List.ext_getElem
  · simp
  · intro i h1 h2
    rw [List.getElem_set]
    by_cases e : k = i
    · subst e; simp
    · rw [if_neg e]; simp [updN_ne (Ne.symm e)]
theorem tabN_congr {N : Nat} {f g : Nat → Nat} (h : ∀ i, i < N → f i = g i) : tabN N f = tabN N g := List.map_congr_left fun i hi => h i (List.mem_range.1 hi)
def oO (v : Value) : Obj := .cells #[v] 22 (0, 0)
/-- The values and the heap. -/
def VI (ob qb N : Nat) (out : Nat → Nat) (l : List En) (w : World) (F : List Nat) (B : Asr) (w' : World) : Prop :=
  ∃ ov sv, At w F (Star (ObjA qb (qO sv)) (Star (OwnA sv 132 2 enE l) (Star (ObjA ob (oO ov)) (Star (OwnA ov 3 1 nE (tabN N out)) B)))) w'
theorem VI.kp0 {ob qb N : Nat} {out : Nat → Nat} {l : List En} {w w1 w2 : World} {F : List Nat} {B : Asr} (hB : Lcl B) (h : VI ob qb N out l w F B w1) (k : Kp [] w1 w2) : VI ob qb N out l w F B w2 := by
  obtain ⟨ov, sv, h⟩ := h
  exact ⟨ov, sv, h.kp0 (Lcl.obj.star (Lcl.own.star (Lcl.obj.star (Lcl.own.star hB)))) k⟩
theorem VI.by {ob qb N : Nat} {out : Nat → Nat} {l : List En} {w w1 : World} {F : List Nat} {B C : Asr} (h : VI ob qb N out l w F B w1) (i : Imp B C) : VI ob qb N out l w F C w1 := by
  obtain ⟨ov, sv, h⟩ := h
  exact ⟨ov, sv, h.by (Imp.un (Imp.un (Imp.un (Imp.un i))))⟩
theorem VI.kp {ob qb N : Nat} {out : Nat → Nat} {l : List En} {w w1 : World} {F : List Nat} {B : Asr} (h : VI ob qb N out l w F B w1) : Kp F w w1 := by
  obtain ⟨ov, sv, h⟩ := h
  exact h.kp
end Go.Proofs.Ytcplpogmbacnfaa
end
section
set_option maxRecDepth 100000
set_option linter.unusedSimpArgs false
set_option linter.unusedVariables false
namespace Go.Proofs.Ytcplpogmbacnfaa
open Go Go.W Go.Tk Go.Rx Go.Maps
def intV (k : Int) : Value := .int .i64 k
def zok (z : Int) : Prop := -9223372036854775808 ≤ z ∧ z ≤ 9223372036854775807
/-- The operators that are left out, as a map or none. -/
def LkP (w : World) (wv : Value) (ok : Nat → Bool) : Prop :=
  (wv = .map none ∧ ∀ i, ok i = true) ∨ ∃ mb M, wv = .map (some mb) ∧ MapM w mb intV Value.bool zok M ∧ ∀ i : Nat, i ≤ 100000 → ((getM M (i : Int)).map Value.bool).getD (.bool false) = .bool (!(ok i))
theorem LkP.kp {w w' : World} {wv : Value} {ok : Nat → Bool} (h : LkP w wv ok) (k : Kp [] w w') : LkP w' wv ok := by
  rcases h with h | ⟨mb, M, h1, h2, h3⟩
  · exact .inl h
  · exact .inr ⟨mb, M, h1, h2.kp k (by simp), h3⟩
structure UnOk (U : List Un) (N : Nat) : Prop where
  nod : ∀ u ∈ U, u.needs.Nodup
  rng : ∀ u ∈ U, ∀ n ∈ u.needs, n < N
  made : ∀ u ∈ U, u.makes < N
  cost : ∀ u ∈ U, u.cost ≤ 1048576
  op : ∀ u ∈ U, u.op ≤ 4096
def bE (b : Bool) : List Value := [.bool b]
theorem bE_len (b : Bool) : (bE b).length = 1 := rfl
theorem bE_one (b : Bool) : (bE b).all oneC = true := rfl
def tabB (N : Nat) (g : Nat → Bool) : List Bool := (List.range N).map g
theorem tabB_len (N : Nat) (g : Nat → Bool) : (tabB N g).length = N := by simp [tabB]
theorem tabB_at {N k : Nat} {g : Nat → Bool} (h : k < N) : (tabB N g)[k]? = some (g k) := by simp [tabB, h]
theorem tabB_set {N k : Nat} {x : Bool} {g : Nat → Bool} (h : k < N) : (tabB N g).set k x = tabB N (updN g k x) := by
  unfold tabB
  apply List.ext_getElem
  · simp
  · intro i h1 h2
    rw [List.getElem_set]
    by_cases e : k = i
    · subst e; simp
    · rw [if_neg e]; simp [updN_ne (Ne.symm e)]
/-- A cell behind the values is written. -/
theorem VI.store {α : Type} {enc : α → List Value} {E ob qb N : Nat} {out : Nat → Nat} {l : List En} {w w1 : World} {F : List Nat} {B : Asr} {v : Value} {xs : List α} {KW : Kont World} {k : Nat} {x : α} {cs : List Value} (hB : Lcl B) (h : VI ob qb N out l w F (Star (OwnA v E 1 enc xs) B) w1)
    (he : ∀ x, (enc x).length = 1) (h1 : ∀ x, (enc x).all oneC = true) (hk : k < xs.length) (hcs : cs = enc x) (H : ∀ w2, VI ob qb N out l w F (Star (OwnA v E 1 enc (xs.set k x)) B) w2 → KW.run w2) : @stJ w1 ⟨v.blk, k, none⟩ cs KW := by
  obtain ⟨ov, sv, h⟩ := h
  exact (h.by Imp.fr5).store1 (Lcl.obj.star (Lcl.own.star (Lcl.obj.star (Lcl.own.star hB)))) he h1 hk hcs fun w2 h2 => H w2 ⟨ov, sv, h2.by Imp.bk5⟩
/-- Filled up to a place. -/
def upto (k : Nat) (g : Nat → Nat) (d : Nat) : Nat → Nat := fun j => if j < k then g j else d
theorem upto_succ (k : Nat) (g : Nat → Nat) (d : Nat) : updN (upto k g d) k (g k) = upto (k + 1) g d := by
  funext j
  by_cases e : j = k
  · subst e; simp [upto]
  · rw [updN_ne e]; unfold upto
    by_cases h : j < k
    · rw [if_pos h, if_pos (by omega)]
    · rw [if_neg h, if_neg (by omega)]
theorem upto_all (N : Nat) (g : Nat → Nat) (d : Nat) : tabN N (upto N g d) = tabN N g := tabN_congr fun i hi => by unfold upto; rw [if_pos hi]
theorem upto_zero (N d : Nat) (g : Nat → Nat) : List.replicate N d = tabN N (upto 0 g d) := by
  apply List.ext_getElem
  · simp [tabN]
  · intro i h1 h2
    simp [tabN, upto]
/-- The numbers of the facts of a state. -/
def stN (vars s : List Nat) (k : Nat) : List Nat := (List.range k).map fun v => psum vars v + s.getD v 0
theorem stN_succ (vars s : List Nat) (k : Nat) : stN vars s (k + 1) = stN vars s k ++ [psum vars k + s.getD k 0] := by
  unfold stN; rw [List.range_succ]; simp
end Go.Proofs.Ytcplpogmbacnfaa
end
section
set_option maxRecDepth 100000
set_option linter.unusedSimpArgs false
set_option linter.unusedVariables false
namespace Go.Proofs.Ytcplpogmbacnfaa
open Go Go.W Go.Tk Go.Rx Go.Maps
section
variable {α : Type} {enc : α → List Value} {w w' w1 w2 : World} {v : Value} {ls : List (List α)} {F : List Nat} {A B : Asr}
/-- A table that can be read. -/
def LLV (enc : α → List Value) (w : World) (v : Value) (ls : List (List α)) : Prop := ∃ ps : List (Cell1 × List α), ps.map (·.2) = ls ∧ Vw w v sv1 ps ∧ ∀ p ∈ ps, Vw w p.1.1 enc p.2
theorem LLV.kp (h : LLV enc w v ls) (k : Kp [] w w') : LLV enc w' v ls := by
  obtain ⟨ps, h1, h2, h3⟩ := h
  exact ⟨ps, h1, h2.kp0 k, fun p hp => (h3 p hp).kp0 k⟩
theorem LLA.vw {E : Nat} (h : At w F (Star (LLA v E enc ls) B) w') : LLV enc w' v ls := by
  obtain ⟨ps, h1, h2⟩ := LLA.opn h
  exact ⟨ps, h1, h2.own.vw, fun p hp => h2.drop.vws hp⟩
theorem LLV.at (h : LLV enc w v ls) {i : Nat} {l : List α} (hi : ls[i]? = some l) : ∃ u, oneC u = true ∧ w.cell? (v.adr.add i) = some u ∧ Vw w u enc l := by
  obtain ⟨ps, rfl, h2, h3⟩ := h
  obtain ⟨p, hp, rfl⟩ : ∃ p : Cell1 × List α, ps[i]? = some p ∧ p.2 = l := by
    rw [List.getElem?_map] at hi
    cases hq : ps[i]? with
    | none => rw [hq] at hi; cases hi
    | some p => rw [hq] at hi; exact ⟨p, rfl, Option.some.inj hi⟩
  refine ⟨p.1.1, p.1.2, ?_, h3 p (List.mem_of_getElem? hp)⟩
  simpa using h2.at_ sv1_len hp (o := 0) (u := p.1.1) rfl
theorem LLV.spread (h : LLV enc w v ls) : ∃ ps : List (Cell1 × List α), ps.length = ls.length ∧ Vw w v sv1 ps ∧ ∀ (i : Nat) (p : Cell1 × List α), ps[i]? = some p → ∃ l, ls[i]? = some l ∧ Vw w p.1.1 enc l := by
  obtain ⟨ps, rfl, h2, h3⟩ := h
  exact ⟨ps, by simp, h2, fun i p hp => ⟨p.2, by rw [List.getElem?_map, hp]; rfl, h3 p (List.mem_of_getElem? hp)⟩⟩
/-- What a callee made since its start, beside what is there. -/
theorem At.join (hB : Lcl B) (h : At w F B w1) (t : At w1 [] (Star A Emp) w2) : At w F (Star A B) w2 := by
  obtain ⟨F1, ⟨Fa, Fe, h1, h2, hd, rfl⟩, hs⟩ := t.ex
  refine h.more hB t.kp ⟨Fa, h1, fun x hx => ?_⟩
  rcases hs x (by simp [hx]) with h3 | h3
  · cases h3
  · exact h3
/-- A row is added to a list of rows. -/
theorem li_append {u ov : Value} {c : List α} {outs : List (List α)} {KV : Kont (Value × World)} (hB : Lcl B) (h : At w F (Star (OwnA u 3 1 enc c) (Star (LLA ov 22 enc outs) B)) w1) (hl : outs.length ≤ 100000)
    (H : ∀ v' w2, At w F (Star (LLA v' 22 enc (outs ++ [c])) B) w2 → KV.run (v', w2)) :
    @efH Try.prog (Builtin.append_ #[34, 34] 34 [ov, .slice (some ⟨w1.heap.size, 0, none⟩) 1 1].toArray) (w1.alloc (.cells #[u] 22)) KV := by
  have hou := h.own.o1
  obtain ⟨ps, hps, h3⟩ := LLA.opn h.rot
  have hpl : ps.length = outs.length := by rw [← hps]; simp
  have hBX : Lcl (Star (VwsA enc ps) (Star (OwnA u 3 1 enc c) B)) := Lcl.vws.star (Lcl.own.star hB)
  have h4 := h3.kp0 (Lcl.own.star hBX) ((Kp.refl [] w1).alloc (.cells #[u] 22))
  refine At.append (xs := [((⟨u, hou⟩, c) : Cell1 × List α)]) hBX h4 sv1_len sv1_one sl_34 rfl (fun j x hj => ?_) (by omega) (by unfold maxLen; omega) fun v' w5 h5 => H v' w5 ?_
  · simp [sv1] at hj
    rw [add_none, cell_blk alloc_new]
    simpa using hj
  · have h6 : At w F (Star (OwnA v' 22 1 sv1 (ps ++ [((⟨u, hou⟩, c) : Cell1 × List α)])) (Star (VwsA enc (ps ++ [((⟨u, hou⟩, c) : Cell1 × List α)])) B)) w5 :=
      ((h5.rot3.own_vw).by (Imp.trans (Imp.un Imp.sw) (Imp.trans (VwsA.add hou) Imp.sw))).by Imp.rfl
    exact LLA.cls (ls := outs ++ [c]) (by simp [hps]) h6
end
/-- The row of a variable; the rows of the first variables. -/
def rwI (vars : List Nat) (g : Nat → Int) (v : Nat) : List Int := (List.range (vars.getD v 0)).map fun x => g (psum vars v + x)
def tbK (vars : List Nat) (g : Nat → Int) (k : Nat) : List (List Int) := (List.range k).map (rwI vars g)
def tbI (vars : List Nat) (g : Nat → Int) : List (List Int) := tbK vars g vars.length
theorem tbK_len (vars : List Nat) (g : Nat → Int) (k : Nat) : (tbK vars g k).length = k := by simp [tbK]
end Go.Proofs.Ytcplpogmbacnfaa
end
section
set_option maxRecDepth 100000
set_option linter.unusedSimpArgs false
set_option linter.unusedVariables false
namespace Go.Proofs.Ytcplpogmbacnfaa
open Go Go.W Go.Tk Go.Rx Go.Maps
/-- Sizes. -/
structure Sm (vars : List Nat) (U : List Un) : Prop where
  un : UnOk U vars.sum
  vl : vars.length ≤ 12
  sm : vars.sum ≤ 768
  ul : U.length ≤ 160
/-- A state. -/
structure StN (vars s : List Nat) : Prop where
  len : s.length = vars.length
  rng : ∀ v, v < vars.length → s.getD v 0 < vars.getD v 0
theorem iN_at {l : List Nat} {j : Nat} : (l.map iN).getD j 0 = ((l.getD j 0 : Nat) : Int) := by
  simp only [List.getD, List.getElem?_map]
  cases l[j]? <;> simp [iN]
theorem StN.ok {vars s : List Nat} (h : StN vars s) : stateB (vars.map iN) (s.map iN) = true := by
  unfold stateB
  rw [allR_true fun j hj => ?_]
  · simp [h.len]
  · unfold stAt
    rw [iN_at, iN_at]
    simp at hj
    have := h.rng j (by rw [← h.len]; exact hj)
    simp only [Bool.and_eq_true, decide_eq_true_eq]
    omega
theorem LkP.none {w : World} : LkP w (.map none) (fun _ => true) := .inl ⟨rfl, fun _ => rfl⟩
section
variable {w : World} {b : Nat} {vars : List Nat} {goal : List Fc} {U : List Un} {vv gv fv uv nd fr : Value} {rs : List Ru} {ps : List (Cell1 × List Nat)}
end
end Go.Proofs.Ytcplpogmbacnfaa
end
section
set_option maxRecDepth 100000
set_option linter.unusedSimpArgs false
set_option linter.unusedVariables false
namespace Go.Proofs.Ytcplpogmbacnfaa
open Go Go.W Go.Tk Go.Rx Go.Maps
/-- The greatest value of a list of facts. -/
def grF (vars : List Nat) (V : Nat → Nat) (l : List Fc) : Nat := gr V (l.map (numF vars))
theorem take_snoc {α : Type} {l : List α} {k : Nat} {x : α} (h : l[k]? = some x) : l.take (k + 1) = l.take k ++ [x] := by
  rw [List.take_add_one, h]; rfl
section
variable {w : World} {b : Nat} {vars : List Nat} {goal : List Fc} {U : List Un} {vv gv fv uv nd fr : Value} {rs : List Ru} {ps : List (Cell1 × List Nat)}
end
end Go.Proofs.Ytcplpogmbacnfaa
end
section
set_option maxRecDepth 100000
set_option linter.unusedSimpArgs false
set_option linter.unusedVariables false
namespace Go.Proofs.Ytcplpogmbacnfaa
open Go Go.W Go.Tk Go.Rx Go.Maps
def isSup (V : Nat → Nat) (n : Nat) (u : Un) : Bool := decide (u.makes = n) && decide (gr V u.needs + u.cost = V n)
section
variable {w : World} {b : Nat} {vars : List Nat} {goal : List Fc} {U : List Un} {vv gv fv uv nd fr : Value} {rs : List Ru} {ps : List (Cell1 × List Nat)}
end
end Go.Proofs.Ytcplpogmbacnfaa
end
section
set_option linter.unusedVariables false
set_option linter.unusedSimpArgs false
namespace Go.Rx
theorem int_lg (a b : Int) : a < b ∨ b ≤ a := by omega
structure Lv (U : List Un) (S : List Nat) (k : Nat) (lay : Nat → Int) (now : List Nat) (done : Nat → Bool) : Prop where
  rk : ∀ j f, j ≤ k → (Rk U S j f ↔ 0 ≤ lay f ∧ lay f ≤ (j : Int))
  neg : ∀ f, lay f < 0 → lay f = -1
  top : ∀ f, lay f ≤ (k : Int)
  nw : ∀ f, f ∈ now ↔ lay f = (k : Int)
  nod : now.Nodup
  dn : ∀ f, done f = true ↔ (0 ≤ lay f ∧ lay f < (k : Int))
/-- The unary operators that fire. -/
def FrI (U : List Un) (d0 d1 : Nat → Bool) (k : Nat) (fire : List Nat) : Prop := ∀ i, i ∈ fire ↔ ∃ u, U[i]? = some u ∧ opens d1 u.needs = 0 ∧ (opens d0 u.needs ≠ 0 ∨ (k = 0 ∧ u.needs = []))
def mkU (U : List Un) (i : Nat) : Nat := match U[i]? with | some u => u.makes | none => 0
structure P2 (U : List Un) (lay0 : Nat → Int) (k : Nat) (fire : List Nat) (z : Nat) (lay : Nat → Int) (now : List Nat) : Prop where
  old : ∀ f, 0 ≤ lay0 f → lay f = lay0 f
  new : ∀ f, lay0 f < 0 → (lay f = -1 ∧ ∀ i ∈ fire.take z, mkU U i ≠ f) ∨ (lay f = (k : Int) + 1 ∧ ∃ i ∈ fire.take z, mkU U i = f)
  nw : ∀ f, f ∈ now ↔ lay f = (k : Int) + 1
  nod : now.Nodup
section
variable {U : List Un} {S : List Nat} {k : Nat} {lay lay' : Nat → Int} {now now' fire fire' : List Nat} {done d0 d1 : Nat → Bool} {z f : Nat}
theorem Lv.init (hn : S.Nodup) : Lv U S 0 (fun f => if f ∈ S then 0 else -1) S (fun _ => false) := {
  rk := fun j f hj => by
    have : j = 0 := by omega
    subst this
    show f ∈ S ↔ _
    by_cases h : f ∈ S <;> simp [h]
  neg := fun f h => by
    by_cases hf : f ∈ S
    · simp [hf] at h
    · simp [hf]
  top := fun f => by
    by_cases hf : f ∈ S <;> simp [hf]
  nw := fun f => by
    by_cases hf : f ∈ S <;> simp [hf]
  nod := hn
  dn := fun f => by simp }
theorem FrI.zero : FrI U (fun _ => false) (fun _ => false) 0 (frF U) := fun i => by
  rw [frF_mem]
  constructor
  · rintro ⟨u, h1, h2⟩
    exact ⟨u, h1, by rw [h2]; rfl, .inr ⟨rfl, h2⟩⟩
  · rintro ⟨u, h1, h2, h3⟩
    rw [opens_none] at h2
    exact ⟨u, h1, List.eq_nil_of_length_eq_zero h2⟩
theorem FrI.nil (hk : 0 < k) : FrI U done done k [] := fun i => by
  constructor
  · intro h; cases h
  · rintro ⟨u, h1, h2, h3 | h3⟩
    · exact absurd h2 h3
    · omega
/-- A fact more is looked at. -/
theorem FrI.step (h : FrI U d0 d1 k fire) (hf : d1 f = false) (h0 : d0 f = false) (hm : ∀ i, i ∈ fire' ↔ i ∈ fire ∨ (i ∈ nbF U f ∧ ∀ u, U[i]? = some u → opens (updN d1 f true) u.needs = 0)) : FrI U d0 (updN d1 f true) k fire' := fun i => by
  rw [hm, h i, nbF_mem]
  have up : ∀ l : List Nat, opens d1 l = 0 → opens (updN d1 f true) l = 0 := fun l hl => by
    rw [opens_zero] at hl ⊢
    intro n hn
    by_cases e : n = f
    · rw [e]; simp
    · rw [updN_ne e]; exact hl n hn
  constructor
  · rintro (⟨u, h1, h2, h3⟩ | ⟨⟨u, h1, h2⟩, h3⟩)
    · exact ⟨u, h1, up _ h2, h3⟩
    · refine ⟨u, h1, h3 u h1, .inl fun he => ?_⟩
      have := opens_zero.1 he f h2
      rw [h0] at this; cases this
  · rintro ⟨u, h1, h2, h3⟩
    by_cases hfu : f ∈ u.needs
    · exact .inr ⟨⟨u, h1, hfu⟩, fun v hv => by rw [h1] at hv; cases hv; exact h2⟩
    · refine .inl ⟨u, h1, ?_, h3⟩
      rw [opens_zero] at h2 ⊢
      intro n hn
      have e : n ≠ f := fun e => hfu (e ▸ hn)
      have := h2 n hn
      rwa [updN_ne e] at this
theorem P2.init (h : Lv U S k lay now done) : P2 U lay k fire 0 lay [] := {
  old := fun f _ => rfl
  new := fun f hf => .inl ⟨h.neg f hf, by simp⟩
  nw := fun f => by
    have := h.top f
    simp
    omega
  nod := by simp }
theorem Lv.rkd (h : Lv U S k lay now done) (hd : ∀ n, d1 n = true ↔ done n = true ∨ n ∈ now) (n : Nat) : Rk U S k n ↔ d1 n = true := by
  have := h.top n
  rw [h.rk k n (Nat.le_refl _), hd, h.dn, h.nw]
  omega
theorem Lv.next (h : Lv U S k lay now done) (hd : ∀ n, d1 n = true ↔ done n = true ∨ n ∈ now) (hf : FrI U done d1 k fire) (h2 : P2 U lay k fire fire.length lay' now') : Lv U S (k + 1) lay' now' d1 := by
  have hnew := h2.new
  rw [List.take_length] at hnew
  have hnd : ∀ u : Un, (∀ n ∈ u.needs, Rk U S k n) ↔ opens d1 u.needs = 0 := fun u => by
    rw [opens_zero]
    exact forall_congr' fun n => imp_congr_right fun _ => h.rkd hd n
  refine ⟨fun j f hj => ?_, fun f hl => ?_, fun f => ?_, fun f => ?_, h2.nod, fun f => ?_⟩
  · rcases Nat.lt_or_ge j (k + 1) with hlt | hge
    · rw [h.rk j f (by omega)]
      rcases int_lg (lay f) 0 with hn | hn
      · have := hnew f hn
        omega
      · rw [h2.old f hn]
    · have e : j = k + 1 := by omega
      subst e
      rcases int_lg (lay f) 0 with hn | hn
      · constructor
        · rintro (h3 | ⟨u, hu, hmk, h3⟩)
          · have := (h.rk k f (Nat.le_refl _)).1 h3
            omega
          · obtain ⟨i, hi, hiu⟩ := List.getElem_of_mem hu
            have hi2 : U[i]? = some u := by rw [List.getElem?_eq_getElem hi, hiu]
            have hm : mkU U i = f := by unfold mkU; rw [hi2]; exact hmk
            by_cases hif : i ∈ fire
            · rcases hnew f hn with ⟨_, h5⟩ | ⟨h5, _⟩
              · exact absurd hm (h5 i hif)
              · omega
            · exfalso
              have hno : ¬ (opens done u.needs ≠ 0 ∨ (k = 0 ∧ u.needs = [])) := fun hx => hif ((hf i).2 ⟨u, hi2, (hnd u).1 h3, hx⟩)
              have ho : opens done u.needs = 0 := by
                rcases Nat.eq_zero_or_pos (opens done u.needs) with h6 | h6
                · exact h6
                · exact absurd (.inl (by omega)) hno
              rw [opens_zero] at ho
              rcases Nat.eq_zero_or_pos k with hk | hk
              · apply hno
                refine .inr ⟨hk, ?_⟩
                cases hu2 : u.needs with
                | nil => rfl
                | cons x l =>
                  have h6 := (h.dn x).1 (ho x (by simp [hu2]))
                  omega
              · obtain ⟨k', rfl⟩ : ∃ k', k = k' + 1 := ⟨k - 1, by omega⟩
                have h6 : Rk U S (k' + 1) f := .inr ⟨u, hu, hmk, fun n hn2 => by
                  have h7 := (h.dn n).1 (ho n hn2)
                  exact (h.rk k' n (by omega)).2 ⟨h7.1, by omega⟩⟩
                have := (h.rk _ f (Nat.le_refl _)).1 h6
                omega
        · intro h3
          rcases hnew f hn with ⟨h5, _⟩ | ⟨h5, i, hi, hm⟩
          · omega
          · obtain ⟨u, hiu, ho, _⟩ := (hf i).1 hi
            have hm2 : u.makes = f := by rw [← hm]; unfold mkU; rw [hiu]
            exact .inr ⟨u, List.mem_of_getElem? hiu, hm2, (hnd u).2 ho⟩
      · have ht := h.top f
        have e := h2.old f hn
        exact ⟨fun _ => by omega, fun _ => .inl ((h.rk k f (Nat.le_refl _)).2 ⟨hn, ht⟩)⟩
  · rcases int_lg (lay f) 0 with hn | hn
    · have := hnew f hn
      omega
    · have := h2.old f hn
      omega
  · rcases int_lg (lay f) 0 with hn | hn
    · have := hnew f hn
      omega
    · have := h2.old f hn
      have := h.top f
      omega
  · rw [h2.nw]
    simp
  · rw [hd, h.dn, h.nw]
    rcases int_lg (lay f) 0 with hn | hn
    · have := hnew f hn
      omega
    · have := h2.old f hn
      have := h.top f
      omega
theorem Lv.fin (h : Lv U S k lay [] done) (h0 : k = 0 → ∀ u ∈ U, u.needs ≠ []) : IsLev U S lay := by
  have st : ∀ d f, Rk U S (k + d) f → Rk U S k f := by
    intro d
    induction d with
    | zero => exact fun f h => h
    | succ d ih =>
      intro f hr
      rcases hr with hr | ⟨u, hu, hm, hr⟩
      · exact ih f hr
      · have hno : ∀ n, lay n ≠ (k : Int) := fun n e => by
          have := (h.nw n).2 e
          cases this
        rcases Nat.eq_zero_or_pos k with hk | hk
        · have hne := h0 hk u hu
          cases hu2 : u.needs with
          | nil => exact absurd hu2 hne
          | cons x l =>
            have h1 := (h.rk k x (Nat.le_refl _)).1 (ih x (hr x (by simp [hu2])))
            have := hno x
            omega
        · obtain ⟨k', rfl⟩ : ∃ k', k = k' + 1 := ⟨k - 1, by omega⟩
          refine .inr ⟨u, hu, hm, fun n hn => ?_⟩
          have h1 := (h.rk _ n (Nat.le_refl _)).1 (ih n (hr n hn))
          have := hno n
          exact (h.rk k' n (by omega)).2 ⟨h1.1, by omega⟩
  intro f
  rcases int_lg (lay f) 0 with hn | hn
  · refine .inl ⟨h.neg f hn, fun j hr => ?_⟩
    have h1 : Rk U S k f := by
      rcases Nat.le_total j k with h2 | h2
      · exact hr.le h2
      · exact st (j - k) f (by rw [show k + (j - k) = j by omega]; exact hr)
    have := (h.rk k f (Nat.le_refl _)).1 h1
    omega
  · have ht := h.top f
    refine .inr ⟨(lay f).toNat, by omega, (h.rk _ f (by omega)).2 ⟨hn, by omega⟩, fun j hj hr => ?_⟩
    have := (h.rk j f (by omega)).1 hr
    omega
end
end Go.Rx
end
section
set_option maxRecDepth 100000
set_option linter.unusedSimpArgs false
set_option linter.unusedVariables false
namespace Go.Proofs.Ytcplpogmbacnfaa
open Go Go.W Go.Tk Go.Rx Go.Maps
/-- A number is appended. -/
theorem nat_append {w w1 : World} {F : List Nat} {B : Asr} {ov : Value} {l : List Nat} {x : Nat} {KV : Kont (Value × World)} (hB : Lcl B) (h : At w F (Star (OwnA ov 3 1 nE l) B) w1) (hl : l.length ≤ 1000000)
    (H : ∀ v' w2, At w F (Star (OwnA v' 3 1 nE (l ++ [x])) B) w2 → KV.run (v', w2)) :
    @efH Try.prog (Builtin.append_ #[22, 22] 22 [ov, .slice (some ⟨w1.heap.size, 0, none⟩) 1 1].toArray) (w1.alloc (.cells #[.int .i64 (x : Nat)] 3)) KV := by
  have h4 := h.kp0 (Lcl.own.star hB) ((Kp.refl [] w1).alloc (.cells #[.int .i64 (x : Nat)] 3))
  refine At.append (xs := [x]) hB h4 nE_len nE_one sl_22 rfl (fun j u hj => ?_) (by omega) (by unfold maxLen; omega) fun v' w5 h5 => H v' w5 h5
  simp [nE] at hj
  rw [add_none, cell_blk alloc_new]
  simpa using hj
def lay0 (S : List Nat) : Nat → Int := fun f => if f ∈ S then 0 else -1
section
variable {w : World} {b : Nat} {vars : List Nat} {goal : List Fc} {U : List Un} {vv gv fv uv nd fr : Value} {rs : List Ru} {ps : List (Cell1 × List Nat)}
end
end Go.Proofs.Ytcplpogmbacnfaa
end
section
set_option maxRecDepth 100000
set_option linter.unusedSimpArgs false
set_option linter.unusedVariables false
namespace Go.Proofs.Ytcplpogmbacnfaa
open Go Go.W Go.Tk Go.Rx Go.Maps
theorem num_nil (w : World) : Calls Try.prog 22 [.nilIface].toArray w fun e w' => ∃ x, e = .returned x ∧ x = .int .i64 0 ∧ Kp [] w w' := by
  refine enter Try.func22 mixed low22 (Nat.le_of_ble_eq_true rfl) ?_
  simp only [L22]
  simp
  exact Kp.refl _ _
theorem num_err (c : Int) (w : World) : Calls Try.prog 22 [errV c].toArray w fun e w' => ∃ x, e = .returned x ∧ x = .int .i64 c ∧ Kp [] w w' := by
  refine enter Try.func22 mixed low22 (Nat.le_of_ble_eq_true rfl) ?_
  simp only [L22]
  simp [errV]
  exact Kp.refl _ _
theorem ints_spec {w : World} (u v : Value) (xs ys : List Int) (hu : Vw w u iE xs) (hv : Vw w v iE ys) (hx : xs.length ≤ 1000000) (hy : ys.length ≤ 1000000) :
    Calls Try.prog 18 [u, v].toArray w fun e w' => ∃ x, e = .returned x ∧ x = .bool (decide (xs = ys)) ∧ Kp [] w w' := by
  refine enter Try.func18 mixed low18 (Nat.le_of_ble_eq_true rfl) ?_
  simp only [L18]
  by_cases hl : xs.length = ys.length
  case neg =>
    have hne : ((xs.length : Int) != ys.length) = true := by simp; omega
    have : ¬ xs = ys := fun e => hl (by rw [e])
    simp [hu.len, hv.len, hne, this]
    exact Kp.refl _ _
  have hne : ((xs.length : Int) != ys.length) = false := by simp; omega
  simp [hu.len, hv.len, hne]
  refine range_loop (n := xs.length) (by omega) (fun k ρ w' => ρ 0 = u ∧ ρ 1 = v ∧ xs.take k = ys.take k ∧ Kp [] w w') (by simp) (by simp)
    ⟨by simp, by simp, by simp, Kp.refl _ _⟩ (by decide) (fun _ _ _ _ h => by simpa using h) (fun _ _ _ _ h => by simpa using h) ?_ ?_
  · rintro k ρ w4 hk hc hlim ⟨g0, g1, ht, k4⟩
    have hu4 := hu.kp0 k4
    have hv4 := hv.kp0 k4
    obtain ⟨a, ha⟩ : ∃ a, xs[k]? = some a := ⟨_, List.getElem?_eq_getElem hk⟩
    obtain ⟨b, hb⟩ : ∃ b, ys[k]? = some b := ⟨_, List.getElem?_eq_getElem (by omega)⟩
    simp (disch := omega) [g0, g1, hc, hlim, hu4.idx, hv4.idx, iE_cell hu4 ha, iE_cell hv4 hb]
    by_cases hab : a = b
    · subst hab
      simp [g0, g1, hc, hlim]
      refine ⟨?_, k4.drew⟩
      rw [List.take_add_one, List.take_add_one, ht, ha, hb]
    · have : ¬ xs = ys := fun e => hab (by rw [e, hb] at ha; exact (Option.some.inj ha).symm)
      have hn' : (a != b) = true := by simp [hab]
      rw [hn']
      simp [this]
      exact k4.drew
  · rintro ρ w4 ⟨g0, g1, ht, k4⟩
    have : xs = ys := by rw [List.take_of_length_le (Nat.le_refl _), List.take_of_length_le (by omega)] at ht; exact ht
    simp [this]
    exact k4
def ntO (T : Nt) : Obj := .cells #[T.vv.1, T.nv.1, T.gv.1, T.ov.1] 26 (0, 0)
def ntV (T : Nt) : Value := .agg #[T.vv.1, T.nv.1, T.gv.1, T.ov.1]
end Go.Proofs.Ytcplpogmbacnfaa
end
section
set_option maxRecDepth 100000
set_option linter.unusedSimpArgs false
set_option linter.unusedVariables false
namespace Go.Proofs.Ytcplpogmbacnfaa
open Go Go.W Go.Tk Go.Rx Go.Maps
section
variable {α : Type} {enc : α → List Value} {E sz : Nat} {B : Asr} {w w1 : World} {F : List Nat}
theorem RowsA.snoc (q : Cell1 × List α) : ∀ (ps : List (Cell1 × List α)), Imp (Star (OwnA q.1.1 E sz enc q.2) (RowsA E sz enc ps B)) (RowsA E sz enc (ps ++ [q]) B)
  | [] => Imp.rfl
  | p :: ps => Imp.sw.trans (Imp.un (RowsA.snoc q ps))
theorem TabA.vw {v : Value} {E2 : Nat} {ps : List (Cell1 × List α)} {ls : List (List α)} (e : ps.map (·.2) = ls) (h : At w F (Star (TabA v E2 E enc ps) B) w1) : LLV enc w1 v ls :=
  ⟨ps, e, (TabA.own h).vw, fun p hp => by
    obtain ⟨i, hi, rfl⟩ := List.getElem_of_mem hp
    exact (TabA.row h (List.getElem?_eq_getElem hi)).vw⟩
theorem TabA.nil (hB : Lcl B) (h : At w F B w1) : At w F (Star (TabA (.slice none 0 0) 22 3 enc []) B) w1 :=
  (At.nil (E := 22) (sz := 1) (enc := (sv1 : Cell1 × List α → List Value)) hB h).by (TabA.cls (ps := []))
end
/-- The rows of a table. -/
theorem LLV.tb {w : World} {v : Value} {vars : List Nat} {g : Nat → Int} (h : LLV iE w v (tbI vars g)) : ∃ ps : List (Cell1 × List Int), ps.length = vars.length ∧ Vw w v sv1 ps ∧ ∀ (i : Nat) (p : Cell1 × List Int), ps[i]? = some p → Vw w p.1.1 iE (rwI vars g i) := by
  obtain ⟨ps, h1, h2, h3⟩ := h.spread
  refine ⟨ps, by rw [h1]; exact tbK_len _ _ _, h2, fun i p hp => ?_⟩
  obtain ⟨l, h4, h5⟩ := h3 i p hp
  unfold tbI tbK at h4
  rw [List.getElem?_map] at h4
  have hi : i < vars.length := by
    have := (List.getElem?_eq_some_iff.1 hp).1
    rw [h1] at this
    simpa [tbI, tbK] using this
  rw [List.getElem?_range hi] at h4
  have := Option.some.inj h4
  rw [← this] at h5
  exact h5
def FcRng (vars : List Nat) (l : List Fc) : Prop := ∀ f ∈ l, f.1 < vars.length ∧ f.2 < vars.getD f.1 0
end Go.Proofs.Ytcplpogmbacnfaa
end
