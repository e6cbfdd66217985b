/-
  Parts of the proofs of this seat's statements (RxW7, RxW8, RxW9, RxWA, RxWB, RxWC); no conditions beyond those each theorem names.
-/
import Derived.Test.YtcplpogmbacnfaaRxW6
import Derived.Test.YtcplpogmbacnfaaRxPa
section
set_option maxRecDepth 100000
set_option linter.unusedSimpArgs false
set_option linter.unusedVariables false
namespace Go.Proofs.Ytcplpogmbacnfaa
open Go Go.W Go.Tk Go.Rx Go.Maps
section
variable {α : Type} {enc : α → List Value} {w w' w1 w2 : World} {v : Value} {ls : List (List α)} {F : List Nat} {A B : Asr}
/-- A table that can be read. -/
def LLV (enc : α → List Value) (w : World) (v : Value) (ls : List (List α)) : Prop := ∃ ps : List (Cell1 × List α), ps.map (·.2) = ls ∧ Vw w v sv1 ps ∧ ∀ p ∈ ps, Vw w p.1.1 enc p.2
theorem LLV.kp (h : LLV enc w v ls) (k : Kp [] w w') : LLV enc w' v ls := by
  obtain ⟨ps, h1, h2, h3⟩ := h
  exact ⟨ps, h1, h2.kp0 k, fun p hp => (h3 p hp).kp0 k⟩
theorem LLA.vw {E : Nat} (h : At w F (Star (LLA v E enc ls) B) w') : LLV enc w' v ls := by
  obtain ⟨ps, h1, h2⟩ := LLA.opn h
  exact ⟨ps, h1, h2.own.vw, fun p hp => h2.drop.vws hp⟩
theorem LLV.at (h : LLV enc w v ls) {i : Nat} {l : List α} (hi : ls[i]? = some l) : ∃ u, oneC u = true ∧ w.cell? (v.adr.add i) = some u ∧ Vw w u enc l := by
  obtain ⟨ps, rfl, h2, h3⟩ := h
  obtain ⟨p, hp, rfl⟩ : ∃ p : Cell1 × List α, ps[i]? = some p ∧ p.2 = l := by
    rw [List.getElem?_map] at hi
    cases hq : ps[i]? with
    | none => rw [hq] at hi; cases hi
    | some p => rw [hq] at hi; exact ⟨p, rfl, Option.some.inj hi⟩
  refine ⟨p.1.1, p.1.2, ?_, h3 p (List.mem_of_getElem? hp)⟩
  simpa using h2.at_ sv1_len hp (o := 0) (u := p.1.1) rfl
theorem LLV.spread (h : LLV enc w v ls) : ∃ ps : List (Cell1 × List α), ps.length = ls.length ∧ Vw w v sv1 ps ∧ ∀ (i : Nat) (p : Cell1 × List α), ps[i]? = some p → ∃ l, ls[i]? = some l ∧ Vw w p.1.1 enc l := by
  obtain ⟨ps, rfl, h2, h3⟩ := h
  exact ⟨ps, by simp, h2, fun i p hp => ⟨p.2, by rw [List.getElem?_map, hp]; rfl, h3 p (List.mem_of_getElem? hp)⟩⟩
/-- What a callee made since its start, beside what is there. -/
theorem At.join (hB : Lcl B) (h : At w F B w1) (t : At w1 [] (Star A Emp) w2) : At w F (Star A B) w2 := by
  obtain ⟨F1, ⟨Fa, Fe, h1, h2, hd, rfl⟩, hs⟩ := t.ex
  refine h.more hB t.kp ⟨Fa, h1, fun x hx => ?_⟩
  rcases hs x (by simp [hx]) with h3 | h3
  · cases h3
  · exact h3
/-- A row is added to a list of rows. -/
theorem li_append {u ov : Value} {c : List α} {outs : List (List α)} {KV : Kont (Value × World)} (hB : Lcl B) (h : At w F (Star (OwnA u 3 1 enc c) (Star (LLA ov 22 enc outs) B)) w1) (hl : outs.length ≤ 100000)
    (H : ∀ v' w2, At w F (Star (LLA v' 22 enc (outs ++ [c])) B) w2 → KV.run (v', w2)) :
    @efH Try.prog (Builtin.append_ #[34, 34] 34 [ov, .slice (some ⟨w1.heap.size, 0, none⟩) 1 1].toArray) (w1.alloc (.cells #[u] 22)) KV := by
  have hou := h.own.o1
  obtain ⟨ps, hps, h3⟩ := LLA.opn h.rot
  have hpl : ps.length = outs.length := by rw [← hps]; simp
  have hBX : Lcl (Star (VwsA enc ps) (Star (OwnA u 3 1 enc c) B)) := Lcl.vws.star (Lcl.own.star hB)
  have h4 := h3.kp0 (Lcl.own.star hBX) ((Kp.refl [] w1).alloc (.cells #[u] 22))
  refine At.append (xs := [((⟨u, hou⟩, c) : Cell1 × List α)]) hBX h4 sv1_len sv1_one sl_34 rfl (fun j x hj => ?_) (by omega) (by unfold maxLen; omega) fun v' w5 h5 => H v' w5 ?_
  · simp [sv1] at hj
    rw [add_none, cell_blk alloc_new]
    simpa using hj
  · have h6 : At w F (Star (OwnA v' 22 1 sv1 (ps ++ [((⟨u, hou⟩, c) : Cell1 × List α)])) (Star (VwsA enc (ps ++ [((⟨u, hou⟩, c) : Cell1 × List α)])) B)) w5 :=
      ((h5.rot3.own_vw).by (Imp.trans (Imp.un Imp.sw) (Imp.trans (VwsA.add hou) Imp.sw))).by Imp.rfl
    exact LLA.cls (ls := outs ++ [c]) (by simp [hps]) h6
end
theorem cloneZ_spec {w : World} (v : Value) (l : List Int) (hv : Vw w v iE l) (hl : l.length ≤ 1000000) :
    Calls Try.prog 31 [v].toArray w fun e w' => ∃ u, e = .returned u ∧ Nw w w' u 3 1 iE l := by
  refine enter Try.func31 mixed low31 (Nat.le_of_ble_eq_true rfl) ?_
  simp only [L31]
  have h0 : At w [] Emp w := At.start rfl
  rcases sl_nil hv with ⟨rfl, rfl⟩ | ⟨a, cap, rfl⟩
  · simp
    exact Nw.of (At.nil (E := 3) (sz := 1) (enc := iE) .emp h0)
  · simp [rowOf]
    have h1 := h0.lit (xs := ([] : List Int)) (enc := iE) (E := 3) (sz := 1) (cs := #[]) (m := 0) .emp (by simp) iE_len (by simp [maxLen]) rfl
    refine At.appendV (xs := l) .emp h1 (hv.kp0 ((Kp.refl [] w).alloc _)) iE_len iE_one sl_22 (by simp; omega) (by simp; unfold maxLen; omega) fun v' w2 h2 => ?_
    simp
    exact Nw.of (by simpa using h2)
/-- The row of a variable; the rows of the first variables. -/
def rwI (vars : List Nat) (g : Nat → Int) (v : Nat) : List Int := (List.range (vars.getD v 0)).map fun x => g (psum vars v + x)
def tbK (vars : List Nat) (g : Nat → Int) (k : Nat) : List (List Int) := (List.range k).map (rwI vars g)
def tbI (vars : List Nat) (g : Nat → Int) : List (List Int) := tbK vars g vars.length
theorem tbK_succ (vars : List Nat) (g : Nat → Int) (k : Nat) : tbK vars g (k + 1) = tbK vars g k ++ [rwI vars g k] := by
  unfold tbK; rw [List.range_succ]; simp
theorem tbK_len (vars : List Nat) (g : Nat → Int) (k : Nat) : (tbK vars g k).length = k := by simp [tbK]
theorem rwI_cut {vars : List Nat} {g : Nat → Int} {v n : Nat} (hv : vars[v]? = some n) : ((((List.range vars.sum).map g).take (psum vars v + n)).drop (psum vars v)) = rwI vars g v := by
  have h1 := psum_succ hv
  have h2 := psum_le (vars := vars) (v + 1)
  have e : vars.getD v 0 = n := by simp [List.getD, hv]
  unfold rwI
  rw [e]
  apply List.ext_getElem
  · simp; omega
  · intro i h3 h4
    simp
def tabZ (N : Nat) (g : Nat → Int) : List Int := (List.range N).map g
end Go.Proofs.Ytcplpogmbacnfaa
end
section
set_option maxRecDepth 100000
set_option linter.unusedSimpArgs false
set_option linter.unusedVariables false
namespace Go.Proofs.Ytcplpogmbacnfaa
open Go Go.W Go.Tk Go.Rx Go.Maps
/-- Sizes. -/
structure Sm (vars : List Nat) (U : List Un) : Prop where
  un : UnOk U vars.sum
  vl : vars.length ≤ 12
  sm : vars.sum ≤ 768
  ul : U.length ≤ 160
/-- A state. -/
structure StN (vars s : List Nat) : Prop where
  len : s.length = vars.length
  rng : ∀ v, v < vars.length → s.getD v 0 < vars.getD v 0
theorem iN_at {l : List Nat} {j : Nat} : (l.map iN).getD j 0 = ((l.getD j 0 : Nat) : Int) := by
  simp only [List.getD, List.getElem?_map]
  cases l[j]? <;> simp [iN]
theorem StN.ok {vars s : List Nat} (h : StN vars s) : stateB (vars.map iN) (s.map iN) = true := by
  unfold stateB
  rw [allR_true fun j hj => ?_]
  · simp [h.len]
  · unfold stAt
    rw [iN_at, iN_at]
    simp at hj
    have := h.rng j (by rw [← h.len]; exact hj)
    simp only [Bool.and_eq_true, decide_eq_true_eq]
    omega
theorem allow_all (U : List Un) : allow (fun _ => true) U = U := by simp [allow]
theorem LkP.none {w : World} : LkP w (.map none) (fun _ => true) := .inl ⟨rfl, fun _ => rfl⟩
theorem tabN_Z (N : Nat) (V : Nat → Nat) : (tabN N V).map iN = tabZ N fun f => (V f : Int) := by unfold tabN tabZ; rw [List.map_map]; rfl
section
variable {w : World} {b : Nat} {vars : List Nat} {goal : List Fc} {U : List Un} {vv gv fv uv nd fr : Value} {rs : List Ru} {ps : List (Cell1 × List Nat)}
end
end Go.Proofs.Ytcplpogmbacnfaa
end
section
set_option maxRecDepth 100000
set_option linter.unusedSimpArgs false
set_option linter.unusedVariables false
namespace Go.Proofs.Ytcplpogmbacnfaa
open Go Go.W Go.Tk Go.Rx Go.Maps
/-- The greatest value of a list of facts. -/
def grF (vars : List Nat) (V : Nat → Nat) (l : List Fc) : Nat := gr V (l.map (numF vars))
theorem gr_snoc {V : Nat → Nat} {l : List Nat} {x : Nat} : gr V (l ++ [x]) = max (gr V l) (V x) := by
  rw [gr_app]; simp only [gr]; omega
theorem take_snoc {α : Type} {l : List α} {k : Nat} {x : α} (h : l[k]? = some x) : l.take (k + 1) = l.take k ++ [x] := by
  rw [List.take_add_one, h]; rfl
section
variable {w : World} {b : Nat} {vars : List Nat} {goal : List Fc} {U : List Un} {vv gv fv uv nd fr : Value} {rs : List Ru} {ps : List (Cell1 × List Nat)}
theorem max_ok (sv : Value) (s : List Nat) (hR : RlR b vars goal U vv gv fv uv nd fr rs ps w) (hg : FcOk vars goal) (hs : Vw w sv nE s) (hst : StN vars s) (hS : Sm vars U) :
    Calls Try.prog 28 [.pointer (some ⟨b, 0, none⟩), sv].toArray w fun e w' => ∃ x, e = .returned x ∧ ∃ V, IsVal U (stN vars s vars.length) V ∧ x = .int .i64 (grF vars V goal : Nat) ∧ Kp [] w w' := by
  refine enter Try.func28 mixed low28 (Nat.le_of_ble_eq_true rfl) ?_
  simp only [L28]
  have hvl := hS.vl
  have hsm := hS.sm
  have hlen := hst.len
  simp [cell_blk hR.obj]
  refine cl_of (tproper_spec vv sv _ _ (vw_n.2 hR.vvw) (vw_n.2 hs) (by simp; omega)) ?_
  rintro _ w2 ⟨rfl, k2⟩
  rw [hst.ok]
  simp
  refine cl_of (values_spec sv (.map none) s (fun _ => true) (hR.kp k2) (hs.kp0 k2) .none hlen hst.rng hS.un hS.vl hS.sm hS.ul) ?_
  rintro u w3 ⟨V, hV, n3⟩
  rw [allow_all] at hV
  have k3 := k2.trans n3.kp
  have hR3 := hR.kp k3
  have hv3 := n3.own.vw
  simp [cell_blk hR3.obj, hR3.gvw.len]
  have hgl := hg.len
  refine range_loop (n := goal.length) (by omega) (fun k ρ w' => ρ 0 = .pointer (some ⟨b, 0, none⟩) ∧ ρ 5 = u ∧ ρ 26 = gv ∧ ρ 6 = .int .i64 (grF vars V (goal.take k) : Nat) ∧ Kp [] w3 w') (by simp) (by simp)
    ⟨by simp, by simp, by simp, by simp [grF, gr], Kp.refl _ _⟩ (by decide) (fun _ _ _ _ h => by simpa using h) (fun _ _ _ _ h => by simpa using h) ?_ ?_
  rotate_left
  · rintro ρ w4 ⟨g0, g5, g26, g6, k4⟩
    rw [List.take_length] at g6
    simp [g6]
    exact ⟨V, hV, rfl, k3.trans k4⟩
  rintro k ρ w4 hk hc hlm ⟨g0, g5, g26, g6, k4⟩
  have hR4 := hR3.kp k4
  obtain ⟨f, hf⟩ : ∃ f, goal[k]? = some f := ⟨_, List.getElem?_eq_getElem hk⟩
  obtain ⟨f1, f2⟩ := hg.rng f (List.mem_of_getElem? hf)
  have hnf := numF_lt f1 f2
  have ec := hR4.gvw.cells fcE_len hf
  simp only [fcE] at ec
  obtain ⟨fb, hfb⟩ : ∃ fb, fb = w4.heap.size := ⟨_, rfl⟩
  have hki : (k : Int) < goal.length := by omega
  simp (disch := omega) [g26, hc, hlm, hR4.gvw.idx, ec, ← hfb]
  refine st_fa (f := faN f) .emp (At.start (w := w4) rfl) hfb fun w7 h7 => ?_
  have r7 := rd_fa h7.obj
  simp only [faN] at r7
  rw [hfb] at r7
  have hR7 := hR4.kp h7.kp
  simp [g0, g5, r7]
  refine cl_of (number_spec vars f hR7.obj hR7.first f1 (by omega)) ?_
  rintro _ w8 ⟨rfl, k8⟩
  have k48 := h7.kp.trans k8
  have hv8 := hv3.kp0 (k4.trans k48)
  have hni : ((numF vars f : Nat) : Int) < (tabN vars.sum V).length := by rw [tabN_len]; omega
  obtain ⟨q, hq⟩ : ∃ q, q = numF vars f := ⟨_, rfl⟩
  have hx := tabN_at (g := V) hnf
  have e6 : grF vars V (goal.take (k + 1)) = max (grF vars V (goal.take k)) (V q) := by
    unfold grF
    rw [take_snoc hf, List.map_append, List.map_singleton, gr_snoc, ← hq]
  rw [← hq] at hni hx ⊢
  simp (disch := omega) [g0, g5, g6, g26, hc, hlm, hv8.idx, nE_cell hv8 hx, e6]
  exact ⟨by omega, k4.trans k48⟩
/-- The operators of a list are left out. -/
def okL (ws : List Int) (i : Nat) : Bool := decide ((i : Int) ∉ ws)
def mkM (ws : List Int) : List (Int × Bool) := ws.foldl (fun M z => putM M z true) []
theorem getM_cons {l : List (Int × Bool)} {q : Int × Bool} {z : Int} : getM (q :: l) z = if q.1 = z then some q.2 else getM l z := by
  by_cases h : q.1 = z <;> simp [getM, List.find?_cons, h]
theorem getM_app {x z : Int} {v : Bool} : ∀ {l : List (Int × Bool)}, (∀ q ∈ l, q.1 ≠ x) → getM (l ++ [(x, v)]) z = if z = x then some v else getM l z
  | [], _ => by
    rw [List.nil_append, getM_cons]
    by_cases h : x = z
    · simp [h]
    · simp [h, Ne.symm h]
  | q :: l, hq => by
    rw [List.cons_append, getM_cons, getM_cons, getM_app fun q hq2 => hq q (by simp [hq2])]
    have := hq q (by simp)
    by_cases h1 : q.1 = z
    · have : z ≠ x := fun e => this (h1.trans e)
      simp [h1, this]
    · simp [h1]
theorem getM_map {x z : Int} {v : Bool} : ∀ {l : List (Int × Bool)}, getM (l.map fun p => if p.1 = x then (x, v) else p) z = if z = x then (if l.any (fun p => decide (p.1 = x)) then some v else none) else getM l z
  | [] => by simp [getM]
  | q :: l => by
    rw [List.map_cons, getM_cons, getM_cons, getM_map]
    by_cases h1 : q.1 = x
    · by_cases h2 : z = x
      · simp [h1, h2]
      · simp [h1, h2, Ne.symm h2]
    · by_cases h2 : z = x
      · simp [h1, h2]
      · simp [h1, h2]
theorem getM_putM {l : List (Int × Bool)} {x z : Int} {v : Bool} : getM (putM l x v) z = if z = x then some v else getM l z := by
  unfold putM
  by_cases h : l.any (fun p => decide (p.1 = x)) = true
  · rw [if_pos h, getM_map]
    simp only [h, if_true]
  · rw [if_neg h, getM_app]
    intro q hq e
    exact h (List.any_eq_true.2 ⟨q, hq, by simp [e]⟩)
theorem putM_len {l : List (Int × Bool)} {x : Int} {v : Bool} : (putM l x v).length ≤ l.length + 1 := by
  unfold putM
  split <;> simp
theorem mk_get : ∀ (ws : List Int) (M : List (Int × Bool)) (z : Int), getM (ws.foldl (fun M z => putM M z true) M) z = if z ∈ ws then some true else getM M z
  | [], M, z => by simp
  | y :: ws, M, z => by
    rw [List.foldl_cons, mk_get ws _ z, getM_putM]
    by_cases h1 : z ∈ ws
    · simp [h1]
    · by_cases h2 : z = y
      · simp [h1, h2]
      · simp [h1, h2]
theorem mk_len : ∀ (ws : List Int) (M : List (Int × Bool)), (ws.foldl (fun M z => putM M z true) M).length ≤ M.length + ws.length
  | [], M => by simp
  | y :: ws, M => by
    have := mk_len ws (putM M y true)
    have h : (putM M y true).length ≤ M.length + 1 := putM_len
    rw [List.foldl_cons, List.length_cons]
    omega
end
end Go.Proofs.Ytcplpogmbacnfaa
end
section
set_option maxRecDepth 100000
set_option linter.unusedSimpArgs false
set_option linter.unusedVariables false
namespace Go.Proofs.Ytcplpogmbacnfaa
open Go Go.W Go.Tk Go.Rx Go.Maps
def isSup (V : Nat → Nat) (n : Nat) (u : Un) : Bool := decide (u.makes = n) && decide (gr V u.needs + u.cost = V n)
/-- The supporter of a fact. -/
def supV (U : List Un) (V : Nat → Nat) (n : Nat) : Int × Int := if Inf ≤ V n then (-1, -1) else match U.find? (isSup V n) with
  | some u => (u.op, u.eff)
  | none => (-1, -1)
def supF (vars s : List Nat) (U : List Un) (V : Nat → Nat) (f : Fa) : Int × Int := if inR (vars.map iN) f = true then if ((s.getD f.1.toNat 0 : Nat) : Int) = f.2 then (-1, -1) else supV U V (numF vars (f.1.toNat, f.2.toNat)) else (-1, -1)
theorem find_at {α : Type} {l : List α} {p : α → Bool} {k : Nat} {x : α} (h : l[k]? = some x) (hp : p x = true) (hn : ∀ y ∈ l.take k, p y = false) : l.find? p = some x := by
  have e : l = l.take k ++ (x :: l.drop (k + 1)) := by
    obtain ⟨hk, e⟩ := List.getElem?_eq_some_iff.1 h
    rw [← e, ← List.drop_eq_getElem_cons hk, List.take_append_drop]
  rw [e, List.find?_append, List.find?_eq_none.2 fun y hy => by simp [hn y hy]]
  simp [hp]
theorem find_no {α : Type} {l : List α} {p : α → Bool} (hn : ∀ y ∈ l, p y = false) : l.find? p = none := List.find?_eq_none.2 fun y hy => by simp [hn y hy]
def faV (f : Fa) : Value := .agg #[.int .i64 f.1, .int .i64 f.2]
def prV (a : Int × Int) : Value := .tuple #[.int .i64 a.1, .int .i64 a.2]
theorem all_take_succ {α : Type} {l : List α} {k : Nat} {x : α} {P : α → Prop} (h : l[k]? = some x) (h1 : ∀ y ∈ l.take k, P y) (h2 : P x) : ∀ y ∈ l.take (k + 1), P y := by
  rw [take_snoc h]
  intro y hy
  rcases List.mem_append.1 hy with h3 | h3
  · exact h1 y h3
  · simp at h3; subst h3; exact h2
def NoSup (U : List Un) (V : Nat → Nat) (n k : Nat) : Prop := ∀ y ∈ U.take k, isSup V n y = false
section
variable {w : World} {b : Nat} {vars : List Nat} {goal : List Fc} {U : List Un} {vv gv fv uv nd fr : Value} {rs : List Ru} {ps : List (Cell1 × List Nat)}
end
end Go.Proofs.Ytcplpogmbacnfaa
end
section
set_option maxRecDepth 100000
set_option linter.unusedSimpArgs false
set_option linter.unusedVariables false
namespace Go.Proofs.Ytcplpogmbacnfaa
open Go Go.W Go.Tk Go.Rx Go.Maps
def infV : Value := .int .i64 1125899906842624
def RetsTo (f : Nat) (args : List Value) (r : Value) (w : World) : Prop := Calls Try.prog f args.toArray w fun e w' => ∃ x, e = .returned x ∧ x = r ∧ Kp [] w w'
section
variable {w : World}
theorem max_nil (sv : Value) : RetsTo 28 [.pointer none, sv] (.int .i64 0) w := by
  unfold RetsTo
  refine enter Try.func28 mixed low28 (Nat.le_of_ble_eq_true rfl) ?_
  simp only [L28]
  simp
  try exact Kp.refl _ _
variable {b : Nat} {vars : List Nat} {goal : List Fc} {U : List Un} {vv gv fv uv nd fr : Value} {rs : List Ru} {ps : List (Cell1 × List Nat)}
theorem max_bad (sv : Value) (s : List Int) (hR : RlR b vars goal U vv gv fv uv nd fr rs ps w) (hs : Vw w sv iE s) (hl : s.length ≤ 9223372036854775807) (hbad : stateB (vars.map iN) s = false) : RetsTo 28 [.pointer (some ⟨b, 0, none⟩), sv] infV w := by
  unfold RetsTo
  refine enter Try.func28 mixed low28 (Nat.le_of_ble_eq_true rfl) ?_
  simp only [L28]
  simp [cell_blk hR.obj]
  refine cl_of (tproper_spec vv sv _ _ (vw_n.2 hR.vvw) hs hl) ?_
  rintro _ w2 ⟨rfl, k2⟩
  rw [hbad]
  simp [infV]
  exact k2
end
end Go.Proofs.Ytcplpogmbacnfaa
end
section
set_option maxRecDepth 100000
set_option linter.unusedSimpArgs false
set_option linter.unusedVariables false
namespace Go.Proofs.Ytcplpogmbacnfaa
open Go Go.W Go.Tk Go.Rx Go.Maps
theorem tabZ_len (N : Nat) (g : Nat → Int) : (tabZ N g).length = N := by simp [tabZ]
theorem tabZ_at {N k : Nat} {g : Nat → Int} (h : k < N) : (tabZ N g)[k]? = some (g k) := by simp [tabZ, h]
theorem tabZ_congr {N : Nat} {f g : Nat → Int} (h : ∀ i, i < N → f i = g i) : tabZ N f = tabZ N g := List.map_congr_left fun i hi => h i (List.mem_range.1 hi)
theorem tabZ_set {N k : Nat} {x : Int} {g : Nat → Int} (h : k < N) : (tabZ N g).set k x = tabZ N (updN g k x) := by
  unfold tabZ
  apply List.ext_getElem
  · simp
  · intro i h1 h2
    rw [List.getElem_set]
    by_cases e : k = i
    · subst e; simp
    · rw [if_neg e]; simp [updN_ne (Ne.symm e)]
def fil (k : Nat) (d : Int) : Nat → Int := fun j => if j < k then d else 0
theorem fil_succ (k : Nat) (d : Int) : updN (fil k d) k d = fil (k + 1) d := by
  funext j
  by_cases e : j = k
  · subst e; simp [fil]
  · rw [updN_ne e]; unfold fil
    by_cases h : j < k
    · rw [if_pos h, if_pos (by omega)]
    · rw [if_neg h, if_neg (by omega)]
theorem fil_all (N : Nat) (d : Int) : tabZ N (fil N d) = tabZ N fun _ => d := tabZ_congr fun i hi => by unfold fil; rw [if_pos hi]
theorem fil_zero (N : Nat) (d : Int) : List.replicate N (0 : Int) = tabZ N (fil 0 d) := by
  apply List.ext_getElem
  · simp [tabZ]
  · intro i h1 h2
    simp [tabZ, fil]
/-- A number is appended. -/
theorem nat_append {w w1 : World} {F : List Nat} {B : Asr} {ov : Value} {l : List Nat} {x : Nat} {KV : Kont (Value × World)} (hB : Lcl B) (h : At w F (Star (OwnA ov 3 1 nE l) B) w1) (hl : l.length ≤ 1000000)
    (H : ∀ v' w2, At w F (Star (OwnA v' 3 1 nE (l ++ [x])) B) w2 → KV.run (v', w2)) :
    @efH Try.prog (Builtin.append_ #[22, 22] 22 [ov, .slice (some ⟨w1.heap.size, 0, none⟩) 1 1].toArray) (w1.alloc (.cells #[.int .i64 (x : Nat)] 3)) KV := by
  have h4 := h.kp0 (Lcl.own.star hB) ((Kp.refl [] w1).alloc (.cells #[.int .i64 (x : Nat)] 3))
  refine At.append (xs := [x]) hB h4 nE_len nE_one sl_22 rfl (fun j u hj => ?_) (by omega) (by unfold maxLen; omega) fun v' w5 h5 => H v' w5 h5
  simp [nE] at hj
  rw [add_none, cell_blk alloc_new]
  simpa using hj
/-- The tables of the search for the layers. -/
def LS (lv fv : Value) (N M : Nat) (lay : Nat → Int) (lf : Nat → Nat) (B : Asr) : Asr := Star (OwnA lv 3 1 iE (tabZ N lay)) (Star (OwnA fv 3 1 nE (tabN M lf)) B)
def nlU (U : List Un) (j : Nat) : Nat := match U[j]? with | some u => u.needs.length | none => 0
def lay0 (S : List Nat) : Nat → Int := fun f => if f ∈ S then 0 else -1
theorem lay0_snoc (S : List Nat) (f : Nat) : updN (lay0 S) f 0 = lay0 (S ++ [f]) := by
  funext j
  by_cases e : j = f
  · subst e; simp [lay0]
  · rw [updN_ne e]; simp [lay0, e]
def inI (b : Nat) (sv lv fv : Value) (w : World) (N M : Nat) (U : List Un) (vars s : List Nat) (k : Nat) (ρ : Env) (w' : World) : Prop := ρ 0 = .pointer (some ⟨b, 0, none⟩) ∧ ρ 5 = lv ∧ ρ 7 = fv ∧ ρ 71 = sv ∧ At w [] (Star (OwnA (ρ 10) 3 1 nE (stN vars s k)) (LS lv fv N M (lay0 (stN vars s k)) (nlU U) Emp)) w'
/-- The state of the search for the layers. -/
def LevI (b : Nat) (lv fv : Value) (w : World) (N M : Nat) (U : List Un) (S : List Nat) (n : Nat) (ρ : Env) (w' : World) : Prop :=
  ∃ k lay now done fire, (N - dones done N) * 2 + (if k = 0 then 1 else 0) = n ∧ k + n ≤ 2 * N + 1 ∧ Lv U S k lay now done ∧ FrI U done done k fire ∧ fire.length ≤ M ∧
    ρ 0 = .pointer (some ⟨b, 0, none⟩) ∧ ρ 5 = lv ∧ ρ 7 = fv ∧ ρ 14 = .int .i64 (k : Nat) ∧ At w [] (Star (OwnA (ρ 10) 3 1 nE now) (Star (OwnA (ρ 13) 3 1 nE fire) (LS lv fv N M lay (opN U done) Emp))) w'
/-- In the first pass. -/
def Ps1 (b : Nat) (lv fv nv : Value) (w : World) (N M : Nat) (U : List Un) (k : Nat) (lay : Nat → Int) (now : List Nat) (done : Nat → Bool) (y : Nat) (ρ : Env) (w' : World) : Prop :=
  ρ 0 = .pointer (some ⟨b, 0, none⟩) ∧ ρ 5 = lv ∧ ρ 7 = fv ∧ ρ 14 = .int .i64 (k : Nat) ∧ ρ 117 = nv ∧ ∃ d1 fire, (∀ n, d1 n = true ↔ done n = true ∨ n ∈ now.take y) ∧ FrI U done d1 k fire ∧ dones d1 N = dones done N + y ∧ fire.length ≤ M + y * M ∧
    At w [] (Star (OwnA (ρ 13) 3 1 nE fire) (Star (OwnA nv 3 1 nE now) (LS lv fv N M lay (opN U d1) Emp))) w'
def Ps1i (b : Nat) (lv fv nv pv : Value) (w : World) (N M : Nat) (U : List Un) (k : Nat) (lay : Nat → Int) (now : List Nat) (d2 : Nat → Bool) (f y : Nat) (fire : List Nat) (z : Nat) (ρ : Env) (w' : World) : Prop :=
  ρ 0 = .pointer (some ⟨b, 0, none⟩) ∧ ρ 5 = lv ∧ ρ 7 = fv ∧ ρ 14 = .int .i64 (k : Nat) ∧ ρ 117 = nv ∧ ρ 118 = .int .i64 (now.length : Nat) ∧ ρ 119 = .int .i64 (y : Nat) ∧ ρ 129 = pv ∧ ∃ fire2, (∀ i, i ∈ fire2 ↔ i ∈ fire ∨ (i ∈ (nbF U f).take z ∧ opN U d2 i = 0)) ∧ fire2.length ≤ fire.length + z ∧
    At w [] (Star (OwnA (ρ 13) 3 1 nE fire2) (Star (OwnA nv 3 1 nE now) (LS lv fv N M lay (lfK U d2 ((nbF U f).drop z)) Emp))) w'
/-- In the second pass. -/
def Ps2 (b : Nat) (lv fv xv : Value) (w : World) (N M : Nat) (U : List Un) (k : Nat) (lay : Nat → Int) (fire : List Nat) (d1 : Nat → Bool) (z : Nat) (ρ : Env) (w' : World) : Prop :=
  ρ 0 = .pointer (some ⟨b, 0, none⟩) ∧ ρ 5 = lv ∧ ρ 7 = fv ∧ ρ 14 = .int .i64 (k : Nat) ∧ ρ 152 = xv ∧ ∃ lay2 now2, P2 U lay k fire z lay2 now2 ∧ now2.length ≤ z ∧
    At w [] (Star (OwnA (ρ 10) 3 1 nE now2) (Star (OwnA xv 3 1 nE fire) (LS lv fv N M lay2 (opN U d1) Emp))) w'
theorem rk_lt {U : List Un} {S : List Nat} {N : Nat} (hU : ∀ u ∈ U, u.makes < N) (hS : ∀ x ∈ S, x < N) : ∀ (k f : Nat), Rk U S k f → f < N
  | 0, f, h => hS f h
  | k + 1, f, h => by
    rcases h with h | ⟨u, hu, rfl, _⟩
    · exact rk_lt hU hS k f h
    · exact hU u hu
section
variable {w : World} {b : Nat} {vars : List Nat} {goal : List Fc} {U : List Un} {vv gv fv uv nd fr : Value} {rs : List Ru} {ps : List (Cell1 × List Nat)}
end
end Go.Proofs.Ytcplpogmbacnfaa
end
