/-
  A part of the proof of this claim's statement (RxW5, RxW6, RxW7, RxW8, RxW9, RxWA, RxLev, RxWC, RxXA, RxXB, RxFx, RxXD, RxXE, RxLw, RxXG, RxXH, RxXK, RxXL, RxYA, RxYB, RxYC, RxYF): plain theorems; no conditions beyond those each names.
-/
import Derived.Test.YtcplpogmbacnfaaPk10
section
set_option maxRecDepth 100000
set_option linter.unusedSimpArgs false
set_option linter.unusedVariables false
namespace Go.Proofs.Ytcplpogmbacnfaa
open Go Go.W Go.Tk Go.Rx
/-- A relaxation that can be read. -/
structure RlR (b : Nat) (vars : List Nat) (goal : List Fc) (U : List Un) (vv gv fv uv nd fr : Value) (rs : List Ru) (ps : List (Cell1 × List Nat)) (w : World) : Prop where
  obj : w.heap[b]? = some (.cells #[vv, .slice none 0 0, gv, .slice none 0 0, fv, .int .i64 (vars.sum : Nat), uv, nd, fr] 105 (0, 0))
  vvw : Vw w vv nE vars
  gvw : Vw w gv fcE goal
  first : Vw w fv nE (firsts vars vars.length)
  un : Vw w uv ruE rs
  needs : ∀ r ∈ rs, Vw w r.nv.1 nE r.u.needs
  free : Vw w fr nE (frF U)
  needed : Vw w nd sv1 ps
  rows : ∀ p ∈ ps, Vw w p.1.1 nE p.2
  eu : rs.map (·.u) = U
  ep : ps.map (·.2) = (List.range vars.sum).map (nbF U)
theorem RlR.kp {b : Nat} {vars : List Nat} {goal : List Fc} {U : List Un} {vv gv fv uv nd fr : Value} {rs : List Ru} {ps : List (Cell1 × List Nat)} {w w' : World} (h : RlR b vars goal U vv gv fv uv nd fr rs ps w) (k : Kp [] w w') : RlR b vars goal U vv gv fv uv nd fr rs ps w' :=
  ⟨k.blk h.obj (by simp), h.vvw.kp0 k, h.gvw.kp0 k, h.first.kp0 k, h.un.kp0 k, fun r hr => (h.needs r hr).kp0 k, h.free.kp0 k, h.needed.kp0 k, fun p hp => (h.rows p hp).kp0 k, h.eu, h.ep⟩
theorem RlI.rd {b : Nat} {vv gv fv : Value} {vars : List Nat} {goal : List Fc} {U : List Un} {w w1 : World} {F : List Nat} {tb : Nat} {t : Tk} (h : RlI b vv gv fv vars U w F (FrA vv gv vars goal tb t) w1) : ∃ uv nd fr rs ps, RlR b vars goal U vv gv fv uv nd fr rs ps w1 := by
  obtain ⟨uv, nd, fr, rs, ps, h1, h2, h3⟩ := h
  have hf := At.drop (At.drop (At.drop (At.drop (At.drop (At.drop h3)))))
  have ht := At.drop (At.drop (At.drop (At.drop (At.drop h3))))
  have hfree := (At.own (At.drop (At.drop (At.drop (At.drop h3))))).vw
  rw [h1] at hfree
  refine ⟨uv, nd, fr, rs, ps, At.obj h3, (At.own hf).vw, (At.own (At.drop hf)).vw, (At.own (At.drop h3)).vw, (At.own (At.drop (At.drop h3))).vw, fun r hr => ?_, hfree, (TabA.own ht).vw, fun p hp => ?_, h1, h2⟩
  · exact (At.drop (At.drop (At.drop h3))).vws (p := (r.nv, r.u.needs)) (List.mem_map.2 ⟨r, hr, rfl⟩)
  · obtain ⟨i, hi, rfl⟩ := List.getElem_of_mem hp
    exact (TabA.row ht (List.getElem?_eq_getElem hi)).vw
/-- Lists as functions. -/
def tabN (N : Nat) (g : Nat → Nat) : List Nat := (List.range N).map g
theorem tabN_len (N : Nat) (g : Nat → Nat) : (tabN N g).length = N := by simp [tabN]
theorem tabN_at {N k : Nat} {g : Nat → Nat} (h : k < N) : (tabN N g)[k]? = some (g k) := by simp [tabN, h]
theorem tabN_set {N k x : Nat} {g : Nat → Nat} (h : k < N) : (tabN N g).set k x = tabN N (updN g k x) := by
  unfold tabN
  apply List.ext_getElem
  · simp
  · intro i h1 h2
    rw [List.getElem_set]
    by_cases e : k = i
    · subst e; simp
    · rw [if_neg e]; simp [updN_ne (Ne.symm e)]
theorem tabN_congr {N : Nat} {f g : Nat → Nat} (h : ∀ i, i < N → f i = g i) : tabN N f = tabN N g := List.map_congr_left fun i hi => h i (List.mem_range.1 hi)
def oO (v : Value) : Obj := .cells #[v] 22 (0, 0)
/-- The values and the heap. -/
def VI (ob qb N : Nat) (out : Nat → Nat) (l : List En) (w : World) (F : List Nat) (B : Asr) (w' : World) : Prop :=
  ∃ ov sv, At w F (Star (ObjA qb (qO sv)) (Star (OwnA sv 132 2 enE l) (Star (ObjA ob (oO ov)) (Star (OwnA ov 3 1 nE (tabN N out)) B)))) w'
theorem VI.kp0 {ob qb N : Nat} {out : Nat → Nat} {l : List En} {w w1 w2 : World} {F : List Nat} {B : Asr} (hB : Lcl B) (h : VI ob qb N out l w F B w1) (k : Kp [] w1 w2) : VI ob qb N out l w F B w2 := by
  obtain ⟨ov, sv, h⟩ := h
  exact ⟨ov, sv, h.kp0 (Lcl.obj.star (Lcl.own.star (Lcl.obj.star (Lcl.own.star hB)))) k⟩
theorem VI.by {ob qb N : Nat} {out : Nat → Nat} {l : List En} {w w1 : World} {F : List Nat} {B C : Asr} (h : VI ob qb N out l w F B w1) (i : Imp B C) : VI ob qb N out l w F C w1 := by
  obtain ⟨ov, sv, h⟩ := h
  exact ⟨ov, sv, h.by (Imp.un (Imp.un (Imp.un (Imp.un i))))⟩
theorem VI.kp {ob qb N : Nat} {out : Nat → Nat} {l : List En} {w w1 : World} {F : List Nat} {B : Asr} (h : VI ob qb N out l w F B w1) : Kp F w w1 := by
  obtain ⟨ov, sv, h⟩ := h
  exact h.kp
end Go.Proofs.Ytcplpogmbacnfaa
end
section
set_option maxRecDepth 100000
set_option linter.unusedSimpArgs false
set_option linter.unusedVariables false
namespace Go.Proofs.Ytcplpogmbacnfaa
open Go Go.W Go.Tk Go.Rx Go.Maps
def intV (k : Int) : Value := .int .i64 k
def zok (z : Int) : Prop := -9223372036854775808 ≤ z ∧ z ≤ 9223372036854775807
/-- The operators that are left out, as a map or none. -/
def LkP (w : World) (wv : Value) (ok : Nat → Bool) : Prop :=
  (wv = .map none ∧ ∀ i, ok i = true) ∨ ∃ mb M, wv = .map (some mb) ∧ MapM w mb intV Value.bool zok M ∧ ∀ i : Nat, i ≤ 100000 → ((getM M (i : Int)).map Value.bool).getD (.bool false) = .bool (!(ok i))
theorem LkP.kp {w w' : World} {wv : Value} {ok : Nat → Bool} (h : LkP w wv ok) (k : Kp [] w w') : LkP w' wv ok := by
  rcases h with h | ⟨mb, M, h1, h2, h3⟩
  · exact .inl h
  · exact .inr ⟨mb, M, h1, h2.kp k (by simp), h3⟩
structure UnOk (U : List Un) (N : Nat) : Prop where
  nod : ∀ u ∈ U, u.needs.Nodup
  rng : ∀ u ∈ U, ∀ n ∈ u.needs, n < N
  made : ∀ u ∈ U, u.makes < N
  cost : ∀ u ∈ U, u.cost ≤ 1048576
  op : ∀ u ∈ U, u.op ≤ 4096
def bE (b : Bool) : List Value := [.bool b]
theorem bE_len (b : Bool) : (bE b).length = 1 := rfl
theorem bE_one (b : Bool) : (bE b).all oneC = true := rfl
def tabB (N : Nat) (g : Nat → Bool) : List Bool := (List.range N).map g
theorem tabB_len (N : Nat) (g : Nat → Bool) : (tabB N g).length = N := by simp [tabB]
theorem tabB_at {N k : Nat} {g : Nat → Bool} (h : k < N) : (tabB N g)[k]? = some (g k) := by simp [tabB, h]
theorem tabB_set {N k : Nat} {x : Bool} {g : Nat → Bool} (h : k < N) : (tabB N g).set k x = tabB N (updN g k x) := by
  unfold tabB
  apply List.ext_getElem
  · simp
  · intro i h1 h2
    rw [List.getElem_set]
    by_cases e : k = i
    · subst e; simp
    · rw [if_neg e]; simp [updN_ne (Ne.symm e)]
/-- A cell behind the values is written. -/
theorem VI.store {α : Type} {enc : α → List Value} {E ob qb N : Nat} {out : Nat → Nat} {l : List En} {w w1 : World} {F : List Nat} {B : Asr} {v : Value} {xs : List α} {KW : Kont World} {k : Nat} {x : α} {cs : List Value} (hB : Lcl B) (h : VI ob qb N out l w F (Star (OwnA v E 1 enc xs) B) w1)
    (he : ∀ x, (enc x).length = 1) (h1 : ∀ x, (enc x).all oneC = true) (hk : k < xs.length) (hcs : cs = enc x) (H : ∀ w2, VI ob qb N out l w F (Star (OwnA v E 1 enc (xs.set k x)) B) w2 → KW.run w2) : @stJ w1 ⟨v.blk, k, none⟩ cs KW := by
  obtain ⟨ov, sv, h⟩ := h
  exact (h.by Imp.fr5).store1 (Lcl.obj.star (Lcl.own.star (Lcl.obj.star (Lcl.own.star hB)))) he h1 hk hcs fun w2 h2 => H w2 ⟨ov, sv, h2.by Imp.bk5⟩
/-- Filled up to a place. -/
def upto (k : Nat) (g : Nat → Nat) (d : Nat) : Nat → Nat := fun j => if j < k then g j else d
theorem upto_succ (k : Nat) (g : Nat → Nat) (d : Nat) : updN (upto k g d) k (g k) = upto (k + 1) g d := by
  funext j
  by_cases e : j = k
  · subst e; simp [upto]
  · rw [updN_ne e]; unfold upto
    by_cases h : j < k
    · rw [if_pos h, if_pos (by omega)]
    · rw [if_neg h, if_neg (by omega)]
theorem upto_all (N : Nat) (g : Nat → Nat) (d : Nat) : tabN N (upto N g d) = tabN N g := tabN_congr fun i hi => by unfold upto; rw [if_pos hi]
theorem upto_zero (N d : Nat) (g : Nat → Nat) : List.replicate N d = tabN N (upto 0 g d) := by
  apply List.ext_getElem
  · simp [tabN]
  · intro i h1 h2
    simp [tabN, upto]
/-- The numbers of the facts of a state. -/
def stN (vars s : List Nat) (k : Nat) : List Nat := (List.range k).map fun v => psum vars v + s.getD v 0
theorem stN_succ (vars s : List Nat) (k : Nat) : stN vars s (k + 1) = stN vars s k ++ [psum vars k + s.getD k 0] := by
  unfold stN; rw [List.range_succ]; simp
end Go.Proofs.Ytcplpogmbacnfaa
end
section
set_option maxRecDepth 100000
set_option linter.unusedSimpArgs false
set_option linter.unusedVariables false
namespace Go.Proofs.Ytcplpogmbacnfaa
open Go Go.W Go.Tk Go.Rx Go.Maps
section
variable {α : Type} {enc : α → List Value} {w w' w1 w2 : World} {v : Value} {ls : List (List α)} {F : List Nat} {A B : Asr}
/-- A table that can be read. -/
def LLV (enc : α → List Value) (w : World) (v : Value) (ls : List (List α)) : Prop := ∃ ps : List (Cell1 × List α), ps.map (·.2) = ls ∧ Vw w v sv1 ps ∧ ∀ p ∈ ps, Vw w p.1.1 enc p.2
theorem LLV.kp (h : LLV enc w v ls) (k : Kp [] w w') : LLV enc w' v ls := by
  obtain ⟨ps, h1, h2, h3⟩ := h
  exact ⟨ps, h1, h2.kp0 k, fun p hp => (h3 p hp).kp0 k⟩
theorem LLA.vw {E : Nat} (h : At w F (Star (LLA v E enc ls) B) w') : LLV enc w' v ls := by
  obtain ⟨ps, h1, h2⟩ := LLA.opn h
  exact ⟨ps, h1, h2.own.vw, fun p hp => h2.drop.vws hp⟩
theorem LLV.at (h : LLV enc w v ls) {i : Nat} {l : List α} (hi : ls[i]? = some l) : ∃ u, oneC u = true ∧ w.cell? (v.adr.add i) = some u ∧ Vw w u enc l := by
  obtain ⟨ps, rfl, h2, h3⟩ := h
  obtain ⟨p, hp, rfl⟩ : ∃ p : Cell1 × List α, ps[i]? = some p ∧ p.2 = l := by
    rw [List.getElem?_map] at hi
    cases hq : ps[i]? with
    | none => rw [hq] at hi; cases hi
    | some p => rw [hq] at hi; exact ⟨p, rfl, Option.some.inj hi⟩
  refine ⟨p.1.1, p.1.2, ?_, h3 p (List.mem_of_getElem? hp)⟩
  simpa using h2.at_ sv1_len hp (o := 0) (u := p.1.1) rfl
theorem LLV.spread (h : LLV enc w v ls) : ∃ ps : List (Cell1 × List α), ps.length = ls.length ∧ Vw w v sv1 ps ∧ ∀ (i : Nat) (p : Cell1 × List α), ps[i]? = some p → ∃ l, ls[i]? = some l ∧ Vw w p.1.1 enc l := by
  obtain ⟨ps, rfl, h2, h3⟩ := h
  exact ⟨ps, by simp, h2, fun i p hp => ⟨p.2, by rw [List.getElem?_map, hp]; rfl, h3 p (List.mem_of_getElem? hp)⟩⟩
end
/-- The row of a variable; the rows of the first variables. -/
def rwI (vars : List Nat) (g : Nat → Int) (v : Nat) : List Int := (List.range (vars.getD v 0)).map fun x => g (psum vars v + x)
def tbK (vars : List Nat) (g : Nat → Int) (k : Nat) : List (List Int) := (List.range k).map (rwI vars g)
def tbI (vars : List Nat) (g : Nat → Int) : List (List Int) := tbK vars g vars.length
theorem tbK_len (vars : List Nat) (g : Nat → Int) (k : Nat) : (tbK vars g k).length = k := by simp [tbK]
end Go.Proofs.Ytcplpogmbacnfaa
end
section
set_option maxRecDepth 100000
set_option linter.unusedSimpArgs false
set_option linter.unusedVariables false
namespace Go.Proofs.Ytcplpogmbacnfaa
open Go Go.W Go.Tk Go.Rx Go.Maps
/-- Sizes. -/
structure Sm (vars : List Nat) (U : List Un) : Prop where
  un : UnOk U vars.sum
  vl : vars.length ≤ 12
  sm : vars.sum ≤ 768
  ul : U.length ≤ 160
/-- A state. -/
structure StN (vars s : List Nat) : Prop where
  len : s.length = vars.length
  rng : ∀ v, v < vars.length → s.getD v 0 < vars.getD v 0
theorem iN_at {l : List Nat} {j : Nat} : (l.map iN).getD j 0 = ((l.getD j 0 : Nat) : Int) := by
  simp only [List.getD, List.getElem?_map]
  cases l[j]? <;> simp [iN]
theorem StN.ok {vars s : List Nat} (h : StN vars s) : stateB (vars.map iN) (s.map iN) = true := by
  unfold stateB
  rw [allR_true fun j hj => ?_]
  · simp [h.len]
  · unfold stAt
    rw [iN_at, iN_at]
    simp at hj
    have := h.rng j (by rw [← h.len]; exact hj)
    simp only [Bool.and_eq_true, decide_eq_true_eq]
    omega
theorem LkP.none {w : World} : LkP w (.map none) (fun _ => true) := .inl ⟨rfl, fun _ => rfl⟩
section
variable {w : World} {b : Nat} {vars : List Nat} {goal : List Fc} {U : List Un} {vv gv fv uv nd fr : Value} {rs : List Ru} {ps : List (Cell1 × List Nat)}
end
end Go.Proofs.Ytcplpogmbacnfaa
end
section
set_option maxRecDepth 100000
set_option linter.unusedSimpArgs false
set_option linter.unusedVariables false
namespace Go.Proofs.Ytcplpogmbacnfaa
open Go Go.W Go.Tk Go.Rx Go.Maps
/-- The greatest value of a list of facts. -/
def grF (vars : List Nat) (V : Nat → Nat) (l : List Fc) : Nat := gr V (l.map (numF vars))
theorem take_snoc {α : Type} {l : List α} {k : Nat} {x : α} (h : l[k]? = some x) : l.take (k + 1) = l.take k ++ [x] := by
  rw [List.take_add_one, h]; rfl
section
variable {w : World} {b : Nat} {vars : List Nat} {goal : List Fc} {U : List Un} {vv gv fv uv nd fr : Value} {rs : List Ru} {ps : List (Cell1 × List Nat)}
end
end Go.Proofs.Ytcplpogmbacnfaa
end
section
set_option maxRecDepth 100000
set_option linter.unusedSimpArgs false
set_option linter.unusedVariables false
namespace Go.Proofs.Ytcplpogmbacnfaa
open Go Go.W Go.Tk Go.Rx Go.Maps
def isSup (V : Nat → Nat) (n : Nat) (u : Un) : Bool := decide (u.makes = n) && decide (gr V u.needs + u.cost = V n)
section
variable {w : World} {b : Nat} {vars : List Nat} {goal : List Fc} {U : List Un} {vv gv fv uv nd fr : Value} {rs : List Ru} {ps : List (Cell1 × List Nat)}
end
end Go.Proofs.Ytcplpogmbacnfaa
end
section
set_option linter.unusedVariables false
set_option linter.unusedSimpArgs false
namespace Go.Rx
theorem int_lg (a b : Int) : a < b ∨ b ≤ a := by omega
structure Lv (U : List Un) (S : List Nat) (k : Nat) (lay : Nat → Int) (now : List Nat) (done : Nat → Bool) : Prop where
  rk : ∀ j f, j ≤ k → (Rk U S j f ↔ 0 ≤ lay f ∧ lay f ≤ (j : Int))
  neg : ∀ f, lay f < 0 → lay f = -1
  top : ∀ f, lay f ≤ (k : Int)
  nw : ∀ f, f ∈ now ↔ lay f = (k : Int)
  nod : now.Nodup
  dn : ∀ f, done f = true ↔ (0 ≤ lay f ∧ lay f < (k : Int))
/-- The unary operators that fire. -/
def FrI (U : List Un) (d0 d1 : Nat → Bool) (k : Nat) (fire : List Nat) : Prop := ∀ i, i ∈ fire ↔ ∃ u, U[i]? = some u ∧ opens d1 u.needs = 0 ∧ (opens d0 u.needs ≠ 0 ∨ (k = 0 ∧ u.needs = []))
def mkU (U : List Un) (i : Nat) : Nat := match U[i]? with | some u => u.makes | none => 0
structure P2 (U : List Un) (lay0 : Nat → Int) (k : Nat) (fire : List Nat) (z : Nat) (lay : Nat → Int) (now : List Nat) : Prop where
  old : ∀ f, 0 ≤ lay0 f → lay f = lay0 f
  new : ∀ f, lay0 f < 0 → (lay f = -1 ∧ ∀ i ∈ fire.take z, mkU U i ≠ f) ∨ (lay f = (k : Int) + 1 ∧ ∃ i ∈ fire.take z, mkU U i = f)
  nw : ∀ f, f ∈ now ↔ lay f = (k : Int) + 1
  nod : now.Nodup
section
variable {U : List Un} {S : List Nat} {k : Nat} {lay lay' : Nat → Int} {now now' fire fire' : List Nat} {done d0 d1 : Nat → Bool} {z f : Nat}
theorem Lv.init (hn : S.Nodup) : Lv U S 0 (fun f => if f ∈ S then 0 else -1) S (fun _ => false) := {
  rk := fun j f hj => by
    have : j = 0 := by omega
    subst this
    show f ∈ S ↔ _
    by_cases h : f ∈ S <;> simp [h]
  neg := fun f h => by
    by_cases hf : f ∈ S
    · simp [hf] at h
    · simp [hf]
  top := fun f => by
    by_cases hf : f ∈ S <;> simp [hf]
  nw := fun f => by
    by_cases hf : f ∈ S <;> simp [hf]
  nod := hn
  dn := fun f => by simp }
theorem FrI.zero : FrI U (fun _ => false) (fun _ => false) 0 (frF U) := fun i => by
  rw [frF_mem]
  constructor
  · rintro ⟨u, h1, h2⟩
    exact ⟨u, h1, by rw [h2]; rfl, .inr ⟨rfl, h2⟩⟩
  · rintro ⟨u, h1, h2, h3⟩
    rw [opens_none] at h2
    exact ⟨u, h1, List.eq_nil_of_length_eq_zero h2⟩
theorem FrI.nil (hk : 0 < k) : FrI U done done k [] := fun i => by
  constructor
  · intro h; cases h
  · rintro ⟨u, h1, h2, h3 | h3⟩
    · exact absurd h2 h3
    · omega
/-- A fact more is looked at. -/
theorem FrI.step (h : FrI U d0 d1 k fire) (hf : d1 f = false) (h0 : d0 f = false) (hm : ∀ i, i ∈ fire' ↔ i ∈ fire ∨ (i ∈ nbF U f ∧ ∀ u, U[i]? = some u → opens (updN d1 f true) u.needs = 0)) : FrI U d0 (updN d1 f true) k fire' := fun i => by
  rw [hm, h i, nbF_mem]
  have up : ∀ l : List Nat, opens d1 l = 0 → opens (updN d1 f true) l = 0 := fun l hl => by
    rw [opens_zero] at hl ⊢
    intro n hn
    by_cases e : n = f
    · rw [e]; simp
    · rw [updN_ne e]; exact hl n hn
  constructor
  · rintro (⟨u, h1, h2, h3⟩ | ⟨⟨u, h1, h2⟩, h3⟩)
    · exact ⟨u, h1, up _ h2, h3⟩
    · refine ⟨u, h1, h3 u h1, .inl fun he => ?_⟩
      have := opens_zero.1 he f h2
      rw [h0] at this; cases this
  · rintro ⟨u, h1, h2, h3⟩
    by_cases hfu : f ∈ u.needs
    · exact .inr ⟨⟨u, h1, hfu⟩, fun v hv => by rw [h1] at hv; cases hv; exact h2⟩
    · refine .inl ⟨u, h1, ?_, h3⟩
      rw [opens_zero] at h2 ⊢
      intro n hn
      have e : n ≠ f := fun e => hfu (e ▸ hn)
      have := h2 n hn
      rwa [updN_ne e] at this
theorem P2.init (h : Lv U S k lay now done) : P2 U lay k fire 0 lay [] := {
  old := fun f _ => rfl
  new := fun f hf => .inl ⟨h.neg f hf, by simp⟩
  nw := fun f => by
    have := h.top f
    simp
    omega
  nod := by simp }
theorem Lv.rkd (h : Lv U S k lay now done) (hd : ∀ n, d1 n = true ↔ done n = true ∨ n ∈ now) (n : Nat) : Rk U S k n ↔ d1 n = true := by
  have := h.top n
  rw [h.rk k n (Nat.le_refl _), hd, h.dn, h.nw]
  omega
theorem Lv.next (h : Lv U S k lay now done) (hd : ∀ n, d1 n = true ↔ done n = true ∨ n ∈ now) (hf : FrI U done d1 k fire) (h2 : P2 U lay k fire fire.length lay' now') : Lv U S (k + 1) lay' now' d1 := by
  have hnew := h2.new
  rw [List.take_length] at hnew
  have hnd : ∀ u : Un, (∀ n ∈ u.needs, Rk U S k n) ↔ opens d1 u.needs = 0 := fun u => by
    rw [opens_zero]
    exact forall_congr' fun n => imp_congr_right fun _ => h.rkd hd n
  refine ⟨fun j f hj => ?_, fun f hl => ?_, fun f => ?_, fun f => ?_, h2.nod, fun f => ?_⟩
  · rcases Nat.lt_or_ge j (k + 1) with hlt | hge
    · rw [h.rk j f (by omega)]
      rcases int_lg (lay f) 0 with hn | hn
      · have := hnew f hn
        omega
      · rw [h2.old f hn]
    · have e : j = k + 1 := by omega
      subst e
      rcases int_lg (lay f) 0 with hn | hn
      · constructor
        · rintro (h3 | ⟨u, hu, hmk, h3⟩)
          · have := (h.rk k f (Nat.le_refl _)).1 h3
            omega
          · obtain ⟨i, hi, hiu⟩ := List.getElem_of_mem hu
            have hi2 : U[i]? = some u := by rw [List.getElem?_eq_getElem hi, hiu]
            have hm : mkU U i = f := by unfold mkU; rw [hi2]; exact hmk
            by_cases hif : i ∈ fire
            · rcases hnew f hn with ⟨_, h5⟩ | ⟨h5, _⟩
              · exact absurd hm (h5 i hif)
              · omega
            · exfalso
              have hno : ¬ (opens done u.needs ≠ 0 ∨ (k = 0 ∧ u.needs = [])) := fun hx => hif ((hf i).2 ⟨u, hi2, (hnd u).1 h3, hx⟩)
              have ho : opens done u.needs = 0 := by
                rcases Nat.eq_zero_or_pos (opens done u.needs) with h6 | h6
                · exact h6
                · exact absurd (.inl (by omega)) hno
              rw [opens_zero] at ho
              rcases Nat.eq_zero_or_pos k with hk | hk
              · apply hno
                refine .inr ⟨hk, ?_⟩
                cases hu2 : u.needs with
                | nil => rfl
                | cons x l =>
                  have h6 := (h.dn x).1 (ho x (by simp [hu2]))
                  omega
              · obtain ⟨k', rfl⟩ : ∃ k', k = k' + 1 := ⟨k - 1, by omega⟩
                have h6 : Rk U S (k' + 1) f := .inr ⟨u, hu, hmk, fun n hn2 => by
                  have h7 := (h.dn n).1 (ho n hn2)
                  exact (h.rk k' n (by omega)).2 ⟨h7.1, by omega⟩⟩
                have := (h.rk _ f (Nat.le_refl _)).1 h6
                omega
        · intro h3
          rcases hnew f hn with ⟨h5, _⟩ | ⟨h5, i, hi, hm⟩
          · omega
          · obtain ⟨u, hiu, ho, _⟩ := (hf i).1 hi
            have hm2 : u.makes = f := by rw [← hm]; unfold mkU; rw [hiu]
            exact .inr ⟨u, List.mem_of_getElem? hiu, hm2, (hnd u).2 ho⟩
      · have ht := h.top f
        have e := h2.old f hn
        exact ⟨fun _ => by omega, fun _ => .inl ((h.rk k f (Nat.le_refl _)).2 ⟨hn, ht⟩)⟩
  · rcases int_lg (lay f) 0 with hn | hn
    · have := hnew f hn
      omega
    · have := h2.old f hn
      omega
  · rcases int_lg (lay f) 0 with hn | hn
    · have := hnew f hn
      omega
    · have := h2.old f hn
      have := h.top f
      omega
  · rw [h2.nw]
    simp
  · rw [hd, h.dn, h.nw]
    rcases int_lg (lay f) 0 with hn | hn
    · have := hnew f hn
      omega
    · have := h2.old f hn
      have := h.top f
      omega
theorem Lv.fin (h : Lv U S k lay [] done) (h0 : k = 0 → ∀ u ∈ U, u.needs ≠ []) : IsLev U S lay := by
  have st : ∀ d f, Rk U S (k + d) f → Rk U S k f := by
    intro d
    induction d with
    | zero => exact fun f h => h
    | succ d ih =>
      intro f hr
      rcases hr with hr | ⟨u, hu, hm, hr⟩
      · exact ih f hr
      · have hno : ∀ n, lay n ≠ (k : Int) := fun n e => by
          have := (h.nw n).2 e
          cases this
        rcases Nat.eq_zero_or_pos k with hk | hk
        · have hne := h0 hk u hu
          cases hu2 : u.needs with
          | nil => exact absurd hu2 hne
          | cons x l =>
            have h1 := (h.rk k x (Nat.le_refl _)).1 (ih x (hr x (by simp [hu2])))
            have := hno x
            omega
        · obtain ⟨k', rfl⟩ : ∃ k', k = k' + 1 := ⟨k - 1, by omega⟩
          refine .inr ⟨u, hu, hm, fun n hn => ?_⟩
          have h1 := (h.rk _ n (Nat.le_refl _)).1 (ih n (hr n hn))
          have := hno n
          exact (h.rk k' n (by omega)).2 ⟨h1.1, by omega⟩
  intro f
  rcases int_lg (lay f) 0 with hn | hn
  · refine .inl ⟨h.neg f hn, fun j hr => ?_⟩
    have h1 : Rk U S k f := by
      rcases Nat.le_total j k with h2 | h2
      · exact hr.le h2
      · exact st (j - k) f (by rw [show k + (j - k) = j by omega]; exact hr)
    have := (h.rk k f (Nat.le_refl _)).1 h1
    omega
  · have ht := h.top f
    refine .inr ⟨(lay f).toNat, by omega, (h.rk _ f (by omega)).2 ⟨hn, by omega⟩, fun j hj hr => ?_⟩
    have := (h.rk j f (by omega)).1 hr
    omega
end
end Go.Rx
end
section
set_option maxRecDepth 100000
set_option linter.unusedSimpArgs false
set_option linter.unusedVariables false
namespace Go.Proofs.Ytcplpogmbacnfaa
open Go Go.W Go.Tk Go.Rx Go.Maps
/-- A number is appended. -/
theorem nat_append {w w1 : World} {F : List Nat} {B : Asr} {ov : Value} {l : List Nat} {x : Nat} {KV : Kont (Value × World)} (hB : Lcl B) (h : At w F (Star (OwnA ov 3 1 nE l) B) w1) (hl : l.length ≤ 1000000)
    (H : ∀ v' w2, At w F (Star (OwnA v' 3 1 nE (l ++ [x])) B) w2 → KV.run (v', w2)) :
    @efH Try.prog (Builtin.append_ #[22, 22] 22 [ov, .slice (some ⟨w1.heap.size, 0, none⟩) 1 1].toArray) (w1.alloc (.cells #[.int .i64 (x : Nat)] 3)) KV := by
  have h4 := h.kp0 (Lcl.own.star hB) ((Kp.refl [] w1).alloc (.cells #[.int .i64 (x : Nat)] 3))
  refine At.append (xs := [x]) hB h4 nE_len nE_one sl_22 rfl (fun j u hj => ?_) (by omega) (by unfold maxLen; omega) fun v' w5 h5 => H v' w5 h5
  simp [nE] at hj
  rw [add_none, cell_blk alloc_new]
  simpa using hj
def lay0 (S : List Nat) : Nat → Int := fun f => if f ∈ S then 0 else -1
section
variable {w : World} {b : Nat} {vars : List Nat} {goal : List Fc} {U : List Un} {vv gv fv uv nd fr : Value} {rs : List Ru} {ps : List (Cell1 × List Nat)}
end
end Go.Proofs.Ytcplpogmbacnfaa
end
section
set_option maxRecDepth 100000
set_option linter.unusedSimpArgs false
set_option linter.unusedVariables false
namespace Go.Proofs.Ytcplpogmbacnfaa
open Go Go.W Go.Tk Go.Rx Go.Maps
theorem ints_spec {w : World} (u v : Value) (xs ys : List Int) (hu : Vw w u iE xs) (hv : Vw w v iE ys) (hx : xs.length ≤ 1000000) (hy : ys.length ≤ 1000000) :
    Calls Try.prog 18 [u, v].toArray w fun e w' => ∃ x, e = .returned x ∧ x = .bool (decide (xs = ys)) ∧ Kp [] w w' := by
  refine enter Try.func18 mixed low18 (Nat.le_of_ble_eq_true rfl) ?_
  simp only [L18]
  by_cases hl : xs.length = ys.length
  case neg =>
    have hne : ((xs.length : Int) != ys.length) = true := by simp; omega
    have : ¬ xs = ys := fun e => hl (by rw [e])
    simp [hu.len, hv.len, hne, this]
    exact Kp.refl _ _
  have hne : ((xs.length : Int) != ys.length) = false := by simp; omega
  simp [hu.len, hv.len, hne]
  refine range_loop (n := xs.length) (by omega) (fun k ρ w' => ρ 0 = u ∧ ρ 1 = v ∧ xs.take k = ys.take k ∧ Kp [] w w') (by simp) (by simp)
    ⟨by simp, by simp, by simp, Kp.refl _ _⟩ (by decide) (fun _ _ _ _ h => by simpa using h) (fun _ _ _ _ h => by simpa using h) ?_ ?_
  · rintro k ρ w4 hk hc hlim ⟨g0, g1, ht, k4⟩
    have hu4 := hu.kp0 k4
    have hv4 := hv.kp0 k4
    obtain ⟨a, ha⟩ : ∃ a, xs[k]? = some a := ⟨_, List.getElem?_eq_getElem hk⟩
    obtain ⟨b, hb⟩ : ∃ b, ys[k]? = some b := ⟨_, List.getElem?_eq_getElem (by omega)⟩
    simp (disch := omega) [g0, g1, hc, hlim, hu4.idx, hv4.idx, iE_cell hu4 ha, iE_cell hv4 hb]
    by_cases hab : a = b
    · subst hab
      simp [g0, g1, hc, hlim]
      refine ⟨?_, k4.drew⟩
      rw [List.take_add_one, List.take_add_one, ht, ha, hb]
    · have : ¬ xs = ys := fun e => hab (by rw [e, hb] at ha; exact (Option.some.inj ha).symm)
      have hn' : (a != b) = true := by simp [hab]
      rw [hn']
      simp [this]
      exact k4.drew
  · rintro ρ w4 ⟨g0, g1, ht, k4⟩
    have : xs = ys := by rw [List.take_of_length_le (Nat.le_refl _), List.take_of_length_le (by omega)] at ht; exact ht
    simp [this]
    exact k4
def ntV (T : Nt) : Value := .agg #[T.vv.1, T.nv.1, T.gv.1, T.ov.1]
end Go.Proofs.Ytcplpogmbacnfaa
end
section
set_option maxRecDepth 100000
set_option linter.unusedSimpArgs false
set_option linter.unusedVariables false
namespace Go.Proofs.Ytcplpogmbacnfaa
open Go Go.W Go.Tk Go.Rx Go.Maps
section
variable {α : Type} {enc : α → List Value} {E sz : Nat} {B : Asr} {w w1 : World} {F : List Nat}
theorem RowsA.snoc (q : Cell1 × List α) : ∀ (ps : List (Cell1 × List α)), Imp (Star (OwnA q.1.1 E sz enc q.2) (RowsA E sz enc ps B)) (RowsA E sz enc (ps ++ [q]) B)
  | [] => Imp.rfl
  | p :: ps => Imp.sw.trans (Imp.un (RowsA.snoc q ps))
theorem TabA.vw {v : Value} {E2 : Nat} {ps : List (Cell1 × List α)} {ls : List (List α)} (e : ps.map (·.2) = ls) (h : At w F (Star (TabA v E2 E enc ps) B) w1) : LLV enc w1 v ls :=
  ⟨ps, e, (TabA.own h).vw, fun p hp => by
    obtain ⟨i, hi, rfl⟩ := List.getElem_of_mem hp
    exact (TabA.row h (List.getElem?_eq_getElem hi)).vw⟩
theorem TabA.nil (hB : Lcl B) (h : At w F B w1) : At w F (Star (TabA (.slice none 0 0) 22 3 enc []) B) w1 :=
  (At.nil (E := 22) (sz := 1) (enc := (sv1 : Cell1 × List α → List Value)) hB h).by (TabA.cls (ps := []))
end
/-- The rows of a table. -/
theorem LLV.tb {w : World} {v : Value} {vars : List Nat} {g : Nat → Int} (h : LLV iE w v (tbI vars g)) : ∃ ps : List (Cell1 × List Int), ps.length = vars.length ∧ Vw w v sv1 ps ∧ ∀ (i : Nat) (p : Cell1 × List Int), ps[i]? = some p → Vw w p.1.1 iE (rwI vars g i) := by
  obtain ⟨ps, h1, h2, h3⟩ := h.spread
  refine ⟨ps, by rw [h1]; exact tbK_len _ _ _, h2, fun i p hp => ?_⟩
  obtain ⟨l, h4, h5⟩ := h3 i p hp
  unfold tbI tbK at h4
  rw [List.getElem?_map] at h4
  have hi : i < vars.length := by
    have := (List.getElem?_eq_some_iff.1 hp).1
    rw [h1] at this
    simpa [tbI, tbK] using this
  rw [List.getElem?_range hi] at h4
  have := Option.some.inj h4
  rw [← this] at h5
  exact h5
def FcRng (vars : List Nat) (l : List Fc) : Prop := ∀ f ∈ l, f.1 < vars.length ∧ f.2 < vars.getD f.1 0
end Go.Proofs.Ytcplpogmbacnfaa
end
section
set_option linter.unusedVariables false
set_option linter.unusedSimpArgs false
namespace Go.Rx
open Go.Tk Go.W Go
structure Rf (A : List Un) (S : List Nat) (V : Nat → Nat) : Prop where
  s0 : ∀ f ∈ S, V f = 0
  der : ∀ f, V f < Inf → Der A S f (V f)
  le : ∀ f, V f ≤ Inf
def sumV (N : Nat) (V : Nat → Nat) : Nat := ((List.range N).map V).sum
/-- No operator of a list lowers a value. -/
def Clo (A : List Un) (V : Nat → Nat) : Prop := ∀ u ∈ A, gr V u.needs < Inf → V u.makes ≤ gr V u.needs + u.cost
section
variable {A A' : List Un} {S : List Nat} {V : Nat → Nat} {u : Un} {N f x : Nat}
theorem sumV_succ : sumV (N + 1) V = sumV N V + V N := by
  unfold sumV; rw [List.range_succ, List.map_append, List.sum_append]; simp
theorem sumV_congr {V' : Nat → Nat} (h : ∀ i, i < N → V i = V' i) : sumV N V = sumV N V' := by
  unfold sumV
  rw [List.map_congr_left fun i hi => h i (List.mem_range.1 hi)]
theorem sumV_upd (hf : f < N) (hx : x < V f) : sumV N (updN V f x) < sumV N V := by
  induction N with
  | zero => omega
  | succ N ih =>
    rw [sumV_succ, sumV_succ]
    by_cases e : f = N
    · subst e
      rw [updN_same, sumV_congr (V' := V) fun i hi => updN_ne (by omega)]
      omega
    · have := ih (by omega)
      rw [updN_ne (fun h => e h.symm)]
      omega
theorem Rf.init : Rf A S (fun f => if f ∈ S then 0 else Inf) := {
  s0 := fun f hf => by simp [hf]
  der := fun f hf => by
    by_cases h : f ∈ S
    · simp [h]; exact .base h
    · simp [h] at hf
  le := fun f => by
    by_cases h : f ∈ S <;> simp [h] }
theorem Rf.step (h : Rf A S V) (hu : u ∈ A) (hlt : gr V u.needs + u.cost < V u.makes) : Rf A S (updN V u.makes (gr V u.needs + u.cost)) := {
  s0 := fun f hf => by
    by_cases e : f = u.makes
    · have := h.s0 f hf
      rw [e] at this; omega
    · rw [updN_ne e]; exact h.s0 f hf
  der := fun f hf => by
    by_cases e : f = u.makes
    · subst e
      rw [updN_same]
      have hle := h.le u.makes
      exact .step hu V fun n hn => h.der n (by have := gr_mem (V := V) hn; omega)
    · rw [updN_ne e] at hf ⊢; exact h.der f hf
  le := fun f => by
    by_cases e : f = u.makes
    · subst e
      rw [updN_same]
      have := h.le u.makes
      omega
    · rw [updN_ne e]; exact h.le f }
theorem Rf.fin (h : Rf A S V) (hc : Clo A V) : IsVal A S V := ⟨h.s0, hc, h.der, h.le⟩
theorem Clo.nil : Clo [] V := fun u hu => by cases hu
theorem Clo.app (h : Clo A V) (h' : Clo A' V) : Clo (A ++ A') V := fun u hu => by
  rcases List.mem_append.1 hu with h1 | h1
  · exact h u h1
  · exact h' u h1
theorem Clo.one (h : gr V u.needs < Inf → V u.makes ≤ gr V u.needs + u.cost) : Clo [u] V := fun v hv => by
  simp at hv; subst hv; exact h
end
theorem unA_at {vars : List Nat} {o : No} {i c k : Nat} {e : Nf} (h : o.effs[k]? = some e) : unA vars o i c k = ⟨i, k, c, numF vars (e.v, e.x), dedup ((o.pre ++ e.cnd).map (numF vars))⟩ := by
  unfold unA; rw [h]
/-- The unary operators of a task come from its operators. -/
theorem uns_mem {t : Nt} {cost : Nat → Nat} {n : Nat} {u : Un} (h : u ∈ unsK t cost n) : ∃ i o k e, i < n ∧ t.ops[i]? = some o ∧ o.effs[k]? = some e ∧ u = ⟨i, k, cost i, numF t.vars (e.v, e.x), dedup ((o.pre ++ e.cnd).map (numF t.vars))⟩ := by
  unfold unsK at h
  obtain ⟨i, hi, h2⟩ := List.mem_flatMap.1 h
  cases ho : t.ops[i]? with
  | none => rw [ho] at h2; cases h2
  | some o =>
    rw [ho] at h2
    unfold opU at h2
    obtain ⟨k, hk, rfl⟩ := List.mem_map.1 h2
    have hk := List.mem_range.1 hk
    exact ⟨i, o, k, _, List.mem_range.1 hi, ho, List.getElem?_eq_getElem hk, unA_at (List.getElem?_eq_getElem hk)⟩
theorem mem_uns {t : Nt} {cost : Nat → Nat} {n i k : Nat} {o : No} {e : Nf} (hi : i < n) (ho : t.ops[i]? = some o) (he : o.effs[k]? = some e) : (⟨i, k, cost i, numF t.vars (e.v, e.x), dedup ((o.pre ++ e.cnd).map (numF t.vars))⟩ : Un) ∈ unsK t cost n := by
  unfold unsK
  refine List.mem_flatMap.2 ⟨i, List.mem_range.2 hi, ?_⟩
  rw [ho]
  unfold opU
  exact List.mem_map.2 ⟨k, List.mem_range.2 (List.getElem?_eq_some_iff.1 he).1, unA_at he⟩
end Go.Rx
end
section
set_option maxRecDepth 100000
set_option linter.unusedSimpArgs false
set_option linter.unusedVariables false
namespace Go.Proofs.Ytcplpogmbacnfaa
open Go Go.W Go.Tk Go.Rx Go.Maps
/-- Costs. -/
def cstL (cl : List Nat) (i : Nat) : Nat := cl.getD i 0
end Go.Proofs.Ytcplpogmbacnfaa
end
section
set_option maxRecDepth 100000
set_option linter.unusedSimpArgs false
set_option linter.unusedVariables false
namespace Go.Proofs.Ytcplpogmbacnfaa
open Go Go.W Go.Tk Go.Rx Go.Maps
def NoS (l : List Un) (V : Nat → Nat) (n : Nat) : Prop := ∀ y ∈ l, isSup V n y = false
theorem NoS.app {a b : List Un} {V : Nat → Nat} {n : Nat} (h1 : NoS a V n) (h2 : NoS b V n) : NoS (a ++ b) V n := fun y hy => by
  rcases List.mem_append.1 hy with h | h
  · exact h1 y h
  · exact h2 y h
theorem NoS.one {u : Un} {V : Nat → Nat} {n : Nat} (h : isSup V n u = false) : NoS [u] V n := fun y hy => by
  simp at hy; subst hy; exact h
end Go.Proofs.Ytcplpogmbacnfaa
end
section
set_option linter.unusedVariables false
set_option linter.unusedSimpArgs false
namespace Go.Rx
structure Lw (U : List Un) (S : List Nat) (k : Nat) (lay : Nat → Int) : Prop where
  rk : ∀ j f, j ≤ k → (Rk U S j f ↔ 0 ≤ lay f ∧ lay f ≤ (j : Int))
  neg : ∀ f, lay f < 0 → lay f = -1
  top : ∀ f, lay f ≤ (k : Int)
/-- The facts that come next. -/
def Snd (U : List Un) (lay : Nat → Int) (l : List Nat) : Prop := ∀ g ∈ l, lay g < 0 ∧ ∃ u ∈ U, u.makes = g ∧ ∀ n ∈ u.needs, 0 ≤ lay n
def Ful (A : List Un) (lay : Nat → Int) (l : List Nat) : Prop := ∀ u ∈ A, lay u.makes < 0 → (∀ n ∈ u.needs, 0 ≤ lay n) → u.makes ∈ l
def layN (lay : Nat → Int) (k : Nat) (l : List Nat) : Nat → Int := fun f => if f ∈ l then (k : Int) + 1 else lay f
section
variable {U A A' : List Un} {S l : List Nat} {k N f : Nat} {lay : Nat → Int}
theorem Lw.init : Lw U S 0 (fun f => if f ∈ S then 0 else -1) := {
  rk := fun j f hj => by
    have : j = 0 := by omega
    subst this
    show f ∈ S ↔ _
    by_cases h : f ∈ S <;> simp [h]
  neg := fun f h => by
    by_cases hf : f ∈ S
    · simp [hf] at h
    · simp [hf]
  top := fun f => by
    by_cases hf : f ∈ S <;> simp [hf] }
theorem Lw.next (h : Lw U S k lay) (hs : Snd U lay l) (hf : Ful U lay l) : Lw U S (k + 1) (layN lay k l) := {
  rk := fun j f hj => by
    unfold layN
    by_cases hl : f ∈ l
    · rw [if_pos hl]
      obtain ⟨h1, u, hu, hm, hn⟩ := hs f hl
      rcases Nat.lt_or_ge j (k + 1) with hlt | hge
      · rw [h.rk j f (by omega)]; omega
      · have : j = k + 1 := by omega
        subst this
        exact ⟨fun _ => by omega, fun _ => .inr ⟨u, hu, hm, fun n hn2 => (h.rk k n (Nat.le_refl _)).2 ⟨hn n hn2, h.top n⟩⟩⟩
    · rw [if_neg hl]
      rcases Nat.lt_or_ge j (k + 1) with hlt | hge
      · exact h.rk j f (by omega)
      · have : j = k + 1 := by omega
        subst this
        have ht := h.top f
        constructor
        · rintro (h1 | ⟨u, hu, rfl, hn⟩)
          · have := (h.rk k f (Nat.le_refl _)).1 h1; omega
          · rcases int_lg (lay u.makes) 0 with h2 | h2
            · exact absurd (hf u hu h2 fun n hn2 => ((h.rk k n (Nat.le_refl _)).1 (hn n hn2)).1) hl
            · omega
        · intro h1
          exact .inl ((h.rk k f (Nat.le_refl _)).2 ⟨h1.1, ht⟩)
  neg := fun f hf2 => by
    unfold layN at hf2 ⊢
    by_cases hl : f ∈ l
    · rw [if_pos hl] at hf2; omega
    · rw [if_neg hl] at hf2 ⊢; exact h.neg f hf2
  top := fun f => by
    unfold layN
    by_cases hl : f ∈ l
    · rw [if_pos hl]; omega
    · rw [if_neg hl]; have := h.top f; omega }
theorem Lw.fin (h : Lw U S k lay) (hf : Ful U lay []) : IsLev U S lay := by
  have st : ∀ d f, Rk U S (k + d) f → Rk U S k f := by
    intro d
    induction d with
    | zero => exact fun f h => h
    | succ d ih =>
      intro f hr
      rcases hr with hr | ⟨u, hu, rfl, hr⟩
      · exact ih f hr
      · rcases int_lg (lay u.makes) 0 with h2 | h2
        · have := hf u hu h2 fun n hn => ((h.rk k n (Nat.le_refl _)).1 (ih n (hr n hn))).1
          cases this
        · exact (h.rk k _ (Nat.le_refl _)).2 ⟨h2, h.top _⟩
  intro f
  rcases int_lg (lay f) 0 with hn | hn
  · refine .inl ⟨h.neg f hn, fun j hr => ?_⟩
    have h1 : Rk U S k f := by
      rcases Nat.le_total j k with h2 | h2
      · exact hr.le h2
      · exact st (j - k) f (by rw [show k + (j - k) = j by omega]; exact hr)
    have := (h.rk k f (Nat.le_refl _)).1 h1
    omega
  · have ht := h.top f
    refine .inr ⟨(lay f).toNat, by omega, (h.rk _ f (by omega)).2 ⟨hn, by omega⟩, fun j hj hr => ?_⟩
    have := (h.rk j f (by omega)).1 hr
    omega
theorem Snd.nil : Snd U lay [] := fun g hg => by cases hg
theorem Ful.nil : Ful [] lay l := fun u hu => by cases hu
theorem Ful.more {l' : List Nat} (h : Ful A lay l) : Ful A lay (l ++ l') := fun u hu h1 h2 => List.mem_append.2 (.inl (h u hu h1 h2))
theorem Ful.app (h : Ful A lay l) (h' : Ful A' lay l) : Ful (A ++ A') lay l := fun u hu => by
  rcases List.mem_append.1 hu with h1 | h1
  · exact h u h1
  · exact h' u h1
theorem Ful.one {u : Un} (h : lay u.makes < 0 → (∀ n ∈ u.needs, 0 ≤ lay n) → u.makes ∈ l) : Ful [u] lay l := fun v hv => by
  simp at hv; subst hv; exact h
end
end Go.Rx
end
section
set_option maxRecDepth 100000
set_option linter.unusedSimpArgs false
set_option linter.unusedVariables false
namespace Go.Proofs.Ytcplpogmbacnfaa
open Go Go.W Go.Tk Go.Rx Go.Maps
def hdB (s : List Nat) (l : List Fc) : Bool := l.all fun f => decide (s.getD f.1 0 = f.2)
end Go.Proofs.Ytcplpogmbacnfaa
end
section
set_option maxRecDepth 100000
set_option linter.unusedSimpArgs false
set_option linter.unusedVariables false
namespace Go.Proofs.Ytcplpogmbacnfaa
open Go Go.W Go.Tk Go.Rx Go.Maps
def extS (n : Nat) (s : List Nat) : List (List Nat) := (List.range n).map fun x => s ++ [x]
/-- All states over the first variables. -/
def stsK (vars : List Nat) : Nat → List (List Nat)
  | 0 => [[]]
  | k + 1 => (stsK vars k).flatMap (extS (vars.getD k 0))
end Go.Proofs.Ytcplpogmbacnfaa
end
section
set_option maxRecDepth 100000
set_option linter.unusedSimpArgs false
set_option linter.unusedVariables false
namespace Go.Proofs.Ytcplpogmbacnfaa
open Go Go.W Go.Tk Go.Rx Go.Maps
def u16E (n : Nat) : List Value := [.int .u16 (n : Nat)]
theorem u16E_len (n : Nat) : (u16E n).length = 1 := rfl
/-- The costs that are given, and those that hold. -/
structure PrI (T : Nt) (gl rl : List Nat) : Prop where
  rlen : rl.length = T.ops.length
  rb : ∀ c ∈ rl, c ≤ 1048576
  gb : ∀ c ∈ gl, c ≤ 1048576
  glen : gl.length = 0 ∨ gl.length = T.ops.length
  eq : ∀ i, i < T.ops.length → cst T (gl.map iN) i = cstL rl i
end Go.Proofs.Ytcplpogmbacnfaa
end
section
set_option maxRecDepth 100000
set_option linter.unusedSimpArgs false
set_option linter.unusedVariables false
namespace Go.Proofs.Ytcplpogmbacnfaa
open Go Go.W Go.Tk Go.Rx Go.Maps
/-- The operators of the example. -/
def IsC (i : Nat) (o : No) : Prop := o.name = ByteArray.empty ∧ o.cost = 2 ∧ o.pre = [(0, i)] ∧ ∃ e : Nf, o.effs = [e] ∧ e.cnd = [] ∧ e.v = 0 ∧ e.x = i + 1 ∧ e.wv.1 = .slice none 0 0
def ChF (vv nv gv : Value) (os : List No) : Asr := Star (VwsA fcE (os.map fun o => (o.pv, o.pre))) (Star (VwsA nfE (os.map fun o => (o.ev, o.effs))) (Star (VwA vv nE [4]) (Star (VwA nv nE [0]) (Star (VwA gv fcE [(0, 3)]) Emp))))
theorem ChF.lcl {vv nv gv : Value} {os : List No} : Lcl (ChF vv nv gv os) := Lcl.vws.star (Lcl.vws.star (Lcl.vw.star (Lcl.vw.star (Lcl.vw.star .emp))))
end Go.Proofs.Ytcplpogmbacnfaa
end
section
set_option maxRecDepth 100000
set_option linter.unusedSimpArgs false
set_option linter.unusedVariables false
namespace Go.Rx
open Go Go.W Go.Tk
def prL : List Nat → Nat
  | [] => 1
  | x :: l => x * prL l
theorem unsK_len8 {t : Nt} {cost : Nat → Nat} (h : ∀ o ∈ t.ops, o.effs.length ≤ 8) : ∀ n, (unsK t cost n).length ≤ 8 * n
  | 0 => by simp [unsK]
  | n + 1 => by
    have := unsK_len8 (cost := cost) h n
    cases ho : t.ops[n]? with
    | none =>
      unfold unsK at *
      rw [List.range_succ, List.flatMap_append]
      simp [ho] at this ⊢
      omega
    | some o =>
      rw [unsK_succ ho, List.length_append, opU_len]
      have := h o (List.mem_of_getElem? ho)
      omega
/-- A small task. -/
structure SmT (T : Nt) : Prop where
  g : NtG T
  good : goodB T.raw = true
  vl : T.vars.length ≤ 12
  ol : T.ops.length ≤ 20
  el : ∀ o ∈ T.ops, o.effs.length ≤ 8
  pr : ∀ k, prL (T.vars.take k) ≤ 512
  nm : ∀ o ∈ T.ops, o.name.size ≤ 9223372036854775807
end Go.Rx
namespace Go.Proofs.Ytcplpogmbacnfaa
open Go Go.W Go.Tk Go.Rx Go.Maps
theorem SmT.sm {T : Nt} (h : SmT T) {c : Nat → Nat} (hc : ∀ i, i < T.ops.length → c i ≤ 1048576) : Sm T.vars (uns T c) := {
  un := {
    nod := fun u hu => by
      obtain ⟨i, o, k, e, _, _, _, rfl⟩ := uns_mem hu
      exact dedup_nodup _
    rng := fun u hu n hn => by
      obtain ⟨i, o, k, e, hi, ho, he, rfl⟩ := uns_mem hu
      have hgo := h.g.ops o (List.mem_of_getElem? ho)
      obtain ⟨f, hf, rfl⟩ := List.mem_map.1 (dedup_mem.1 hn)
      rcases List.mem_append.1 hf with h1 | h1
      · obtain ⟨a, b⟩ := hgo.pre.rng f h1; exact numF_lt a b
      · obtain ⟨a, b⟩ := (hgo.cnd e (List.mem_of_getElem? he)).rng f h1; exact numF_lt a b
    made := fun u hu => by
      obtain ⟨i, o, k, e, hi, ho, he, rfl⟩ := uns_mem hu
      obtain ⟨a, b⟩ := (h.g.ops o (List.mem_of_getElem? ho)).eff e (List.mem_of_getElem? he)
      exact numF_lt a b
    cost := fun u hu => by
      obtain ⟨i, o, k, e, hi, ho, he, rfl⟩ := uns_mem hu
      exact hc i hi
    op := fun u hu => by
      obtain ⟨i, o, k, e, hi, ho, he, rfl⟩ := uns_mem hu
      have := h.ol
      show i ≤ 4096
      omega }
  vl := h.vl
  sm := by
    have := sum_le (N := 64) fun n hn => (h.g.vars n hn).2
    have := h.vl
    omega
  ul := by
    have := unsK_len8 (cost := c) h.el T.ops.length
    have := h.ol
    show (unsK T c T.ops.length).length ≤ 160
    omega }
/-- Right costs. -/
structure CsOk (T : Nt) (cs : List Int) : Prop where
  len : cs.length = 0 ∨ cs.length = T.ops.length
  rng : ∀ c ∈ cs, 0 ≤ c ∧ c ≤ 1048576
theorem CsOk.cst {T : Nt} {cs : List Int} (h : CsOk T cs) (hg : NtG T) (i : Nat) (hi : i < T.ops.length) : cst T cs i ≤ 1048576 := by
  unfold Go.Proofs.Ytcplpogmbacnfaa.cst
  split
  · obtain ⟨o, ho⟩ : ∃ o, T.ops[i]? = some o := ⟨_, List.getElem?_eq_getElem hi⟩
    rw [ho]
    exact (hg.ops o (List.mem_of_getElem? ho)).cost
  · rename_i hn
    rcases h.len with h1 | h1
    · exact absurd h1 hn
    have hi2 : i < cs.length := by omega
    have := h.rng cs[i] (List.getElem_mem hi2)
    simp only [List.getD, List.getElem?_eq_getElem hi2, Option.getD_some]
    omega
theorem CsOk.nil {T : Nt} : CsOk T [] := ⟨.inl rfl, by simp⟩
theorem PrI.ok {T : Nt} {gl rl : List Nat} (h : PrI T gl rl) : CsOk T (gl.map iN) := ⟨by simpa using h.glen, fun c hc => by
  obtain ⟨x, hx, rfl⟩ := List.mem_map.1 hc
  have := h.gb x hx
  unfold iN; omega⟩
/-- A relaxation that can be read. -/
def Rlx (b : Nat) (T : Nt) (U : List Un) (w : World) : Prop := ∃ vv gv fv uv nd fr rs ps, RlR b T.vars T.goal U vv gv fv uv nd fr rs ps w
theorem Rlx.kp {b : Nat} {T : Nt} {U : List Un} {w w' : World} (h : Rlx b T U w) (k : Kp [] w w') : Rlx b T U w' := by
  obtain ⟨vv, gv, fv, uv, nd, fr, rs, ps, h⟩ := h
  exact ⟨vv, gv, fv, uv, nd, fr, rs, ps, h.kp k⟩
theorem IsC.opB {i : Nat} {o : No} (h : IsC i o) (hi : i < 3) : opB [4] o.raw = true := by
  obtain ⟨h1, h2, h3, e, h4, h5, h6, h7, h8⟩ := h
  have e1 : o.raw = ⟨ByteArray.empty, 2, o.pv, [(0, (i : Int))], o.ev, [⟨e.wv, [], 0, ((i + 1 : Nat) : Int)⟩]⟩ := by
    unfold No.raw Nf.raw
    rw [h1, h2, h3, h4]
    simp [h5, h6, h7, faN]
  rw [e1]
  have : i = 0 ∨ i = 1 ∨ i = 2 := by omega
  rcases this with rfl | rfl | rfl <;> rfl
end Go.Proofs.Ytcplpogmbacnfaa
end
section
set_option maxRecDepth 100000
set_option linter.unusedSimpArgs false
set_option linter.unusedVariables false
namespace Go.Proofs.Ytcplpogmbacnfaa
open Go Go.W Go.Tk Go.Rx Go.Maps
section
variable {w : World} {b : Nat} {T : Nt} {U : List Un}
end
theorem ints_vw {w : World} {v : Value} {l : List Nat} (h : Vw w v nE l) : Vw w v iE (l.map iN) := vw_n.2 h
theorem lone {α : Type} {enc : α → List Value} {v : Value} {l : List α} {X : Asr} (ho : oneC v = true) : Imp (Star (VwA v enc l) X) (Star (VwsA enc [((⟨v, ho⟩, l) : Cell1 × List α)]) X) := by
  rintro w F ⟨Fa, Fb, ⟨h1, e1, h2⟩, h3, hd, rfl⟩
  exact ⟨_, ⟨Fa, Fb, ⟨fun p hp => by simp at hp; subst hp; exact h1, fun x hx => h2 x (by rw [← e1]; exact hx), by simpa using e1⟩, h3, hd, rfl⟩, fun x hx => hx⟩
end Go.Proofs.Ytcplpogmbacnfaa
end
section
set_option maxRecDepth 100000
set_option linter.unusedSimpArgs false
set_option linter.unusedVariables false
namespace Go.Proofs.Ytcplpogmbacnfaa
open Go Go.W Go.Tk Go.Rx Go.Maps
theorem raw_vv (T : Nt) : T.raw.vv = T.vv := rfl
theorem raw_gv (T : Nt) : T.raw.gv = T.gv := rfl
theorem raw_ov (T : Nt) : T.raw.ov = T.ov := rfl
end Go.Proofs.Ytcplpogmbacnfaa
end
section
set_option maxRecDepth 100000
set_option linter.unusedSimpArgs false
set_option linter.unusedVariables false
namespace Go.Proofs.Ytcplpogmbacnfaa
open Go Go.W Go.Tk Go.Rx Go.Maps
theorem stN_sum {vars s : List Nat} (h : StN vars s) : ∀ x ∈ stN vars s vars.length, x < vars.sum := fun x hx => by
  unfold stN at hx
  obtain ⟨v, hv, rfl⟩ := List.mem_map.1 hx
  have hv := List.mem_range.1 hv
  exact numF_lt (f := (v, s.getD v 0)) hv (h.rng v hv)
end Go.Proofs.Ytcplpogmbacnfaa
end
