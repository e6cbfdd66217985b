/-
  A part of the proof of this claim's statement (RxW8, RxW9, RxWA, RxLev, RxWC, RxXA, RxXB, RxFx, RxXD, RxXE, RxLw, RxXG, RxXH, RxXI, RxXJ, SyRel, BdW1): plain theorems; no conditions beyond those each names.
-/
import Derived.Test.YtcoeknnghfajnaaPk15
import Derived.Test.YtcoeknnghfajnaaPk03
import Derived.Test.YtcoeknnghfajnaaPk11
import Derived.Test.YtcoeknnghfajnaaPk10
import Derived.Test.YtcoeknnghfajnaaPk01
section
set_option maxRecDepth 100000
set_option linter.unusedSimpArgs false
set_option linter.unusedVariables false
namespace Go.Proofs.Ytcoeknnghfajnaa
open Go Go.W Go.Tk Go.Rx Go.Maps
/-- Sizes. -/
structure Sm (vars : List Nat) (U : List Un) : Prop where
  un : UnOk U vars.sum
  vl : vars.length ≤ 12
  sm : vars.sum ≤ 768
  ul : U.length ≤ 160
/-- A state. -/
structure StN (vars s : List Nat) : Prop where
  len : s.length = vars.length
  rng : ∀ v, v < vars.length → s.getD v 0 < vars.getD v 0
theorem iN_at {l : List Nat} {j : Nat} : (l.map iN).getD j 0 = ((l.getD j 0 : Nat) : Int) := by
  simp only [List.getD, List.getElem?_map]
  cases l[j]? <;> simp [iN]
theorem StN.ok {vars s : List Nat} (h : StN vars s) : stateB (vars.map iN) (s.map iN) = true := by
  unfold stateB
  rw [allR_true fun j hj => ?_]
  · simp [h.len]
  · unfold stAt
    rw [iN_at, iN_at]
    simp at hj
    have := h.rng j (by rw [← h.len]; exact hj)
    simp only [Bool.and_eq_true, decide_eq_true_eq]
    omega
theorem LkP.none {w : World} : LkP w (.map none) (fun _ => true) := .inl ⟨rfl, fun _ => rfl⟩
section
variable {w : World} {b : Nat} {vars : List Nat} {goal : List Fc} {U : List Un} {vv gv fv uv nd fr : Value} {rs : List Ru} {ps : List (Cell1 × List Nat)}
end
end Go.Proofs.Ytcoeknnghfajnaa
end
section
set_option maxRecDepth 100000
set_option linter.unusedSimpArgs false
set_option linter.unusedVariables false
namespace Go.Proofs.Ytcoeknnghfajnaa
open Go Go.W Go.Tk Go.Rx Go.Maps
/-- The greatest value of a list of facts. -/
def grF (vars : List Nat) (V : Nat → Nat) (l : List Fc) : Nat := gr V (l.map (numF vars))
theorem take_snoc {α : Type} {l : List α} {k : Nat} {x : α} (h : l[k]? = some x) : l.take (k + 1) = l.take k ++ [x] := by
  rw [List.take_add_one, h]; rfl
section
variable {w : World} {b : Nat} {vars : List Nat} {goal : List Fc} {U : List Un} {vv gv fv uv nd fr : Value} {rs : List Ru} {ps : List (Cell1 × List Nat)}
end
end Go.Proofs.Ytcoeknnghfajnaa
end
section
set_option maxRecDepth 100000
set_option linter.unusedSimpArgs false
set_option linter.unusedVariables false
namespace Go.Proofs.Ytcoeknnghfajnaa
open Go Go.W Go.Tk Go.Rx Go.Maps
def isSup (V : Nat → Nat) (n : Nat) (u : Un) : Bool := decide (u.makes = n) && decide (gr V u.needs + u.cost = V n)
section
variable {w : World} {b : Nat} {vars : List Nat} {goal : List Fc} {U : List Un} {vv gv fv uv nd fr : Value} {rs : List Ru} {ps : List (Cell1 × List Nat)}
end
end Go.Proofs.Ytcoeknnghfajnaa
end
section
set_option linter.unusedVariables false
set_option linter.unusedSimpArgs false
namespace Go.Rx
theorem int_lg (a b : Int) : a < b ∨ b ≤ a := by omega
structure Lv (U : List Un) (S : List Nat) (k : Nat) (lay : Nat → Int) (now : List Nat) (done : Nat → Bool) : Prop where
  rk : ∀ j f, j ≤ k → (Rk U S j f ↔ 0 ≤ lay f ∧ lay f ≤ (j : Int))
  neg : ∀ f, lay f < 0 → lay f = -1
  top : ∀ f, lay f ≤ (k : Int)
  nw : ∀ f, f ∈ now ↔ lay f = (k : Int)
  nod : now.Nodup
  dn : ∀ f, done f = true ↔ (0 ≤ lay f ∧ lay f < (k : Int))
/-- The unary operators that fire. -/
def FrI (U : List Un) (d0 d1 : Nat → Bool) (k : Nat) (fire : List Nat) : Prop := ∀ i, i ∈ fire ↔ ∃ u, U[i]? = some u ∧ opens d1 u.needs = 0 ∧ (opens d0 u.needs ≠ 0 ∨ (k = 0 ∧ u.needs = []))
def mkU (U : List Un) (i : Nat) : Nat := match U[i]? with | some u => u.makes | none => 0
structure P2 (U : List Un) (lay0 : Nat → Int) (k : Nat) (fire : List Nat) (z : Nat) (lay : Nat → Int) (now : List Nat) : Prop where
  old : ∀ f, 0 ≤ lay0 f → lay f = lay0 f
  new : ∀ f, lay0 f < 0 → (lay f = -1 ∧ ∀ i ∈ fire.take z, mkU U i ≠ f) ∨ (lay f = (k : Int) + 1 ∧ ∃ i ∈ fire.take z, mkU U i = f)
  nw : ∀ f, f ∈ now ↔ lay f = (k : Int) + 1
  nod : now.Nodup
section
variable {U : List Un} {S : List Nat} {k : Nat} {lay lay' : Nat → Int} {now now' fire fire' : List Nat} {done d0 d1 : Nat → Bool} {z f : Nat}
theorem Lv.init (hn : S.Nodup) : Lv U S 0 (fun f => if f ∈ S then 0 else -1) S (fun _ => false) := {
  rk := fun j f hj => by
    have : j = 0 := by omega
    subst this
    show f ∈ S ↔ _
    by_cases h : f ∈ S <;> simp [h]
  neg := fun f h => by
    by_cases hf : f ∈ S
    · simp [hf] at h
    · simp [hf]
  top := fun f => by
    by_cases hf : f ∈ S <;> simp [hf]
  nw := fun f => by
    by_cases hf : f ∈ S <;> simp [hf]
  nod := hn
  dn := fun f => by simp }
theorem FrI.zero : FrI U (fun _ => false) (fun _ => false) 0 (frF U) := fun i => by
  rw [frF_mem]
  constructor
  · rintro ⟨u, h1, h2⟩
    exact ⟨u, h1, by rw [h2]; rfl, .inr ⟨rfl, h2⟩⟩
  · rintro ⟨u, h1, h2, h3⟩
    rw [opens_none] at h2
    exact ⟨u, h1, List.eq_nil_of_length_eq_zero h2⟩
theorem FrI.nil (hk : 0 < k) : FrI U done done k [] := fun i => by
  constructor
  · intro h; cases h
  · rintro ⟨u, h1, h2, h3 | h3⟩
    · exact absurd h2 h3
    · omega
/-- A fact more is looked at. -/
theorem FrI.step (h : FrI U d0 d1 k fire) (hf : d1 f = false) (h0 : d0 f = false) (hm : ∀ i, i ∈ fire' ↔ i ∈ fire ∨ (i ∈ nbF U f ∧ ∀ u, U[i]? = some u → opens (updN d1 f true) u.needs = 0)) : FrI U d0 (updN d1 f true) k fire' := fun i => by
  rw [hm, h i, nbF_mem]
  have up : ∀ l : List Nat, opens d1 l = 0 → opens (updN d1 f true) l = 0 := fun l hl => by
    rw [opens_zero] at hl ⊢
    intro n hn
    by_cases e : n = f
    · rw [e]; simp
    · rw [updN_ne e]; exact hl n hn
  constructor
  · rintro (⟨u, h1, h2, h3⟩ | ⟨⟨u, h1, h2⟩, h3⟩)
    · exact ⟨u, h1, up _ h2, h3⟩
    · refine ⟨u, h1, h3 u h1, .inl fun he => ?_⟩
      have := opens_zero.1 he f h2
      rw [h0] at this; cases this
  · rintro ⟨u, h1, h2, h3⟩
    by_cases hfu : f ∈ u.needs
    · exact .inr ⟨⟨u, h1, hfu⟩, fun v hv => by rw [h1] at hv; cases hv; exact h2⟩
    · refine .inl ⟨u, h1, ?_, h3⟩
      rw [opens_zero] at h2 ⊢
      intro n hn
      have e : n ≠ f := fun e => hfu (e ▸ hn)
      have := h2 n hn
      rwa [updN_ne e] at this
theorem P2.init (h : Lv U S k lay now done) : P2 U lay k fire 0 lay [] := {
  old := fun f _ => rfl
  new := fun f hf => .inl ⟨h.neg f hf, by simp⟩
  nw := fun f => by
    have := h.top f
    simp
    omega
  nod := by simp }
theorem P2.hit (h : P2 U lay k fire z lay' now') {i : Nat} (hi : fire[z]? = some i) (hn : lay' (mkU U i) < 0) : P2 U lay k fire (z + 1) (updN lay' (mkU U i) ((k : Int) + 1)) (now' ++ [mkU U i]) := {
  old := fun f hf => by
    have e := h.old f hf
    by_cases e2 : f = mkU U i
    · rw [← e2] at hn; omega
    · rw [updN_ne e2]; exact e
  new := fun f hf => by
    rw [List.take_add_one, hi]
    by_cases e2 : f = mkU U i
    · subst e2
      exact .inr ⟨by simp, i, by simp, rfl⟩
    · rw [updN_ne e2]
      rcases h.new f hf with ⟨h1, h2⟩ | ⟨h1, j, h2, h3⟩
      · refine .inl ⟨h1, fun j hj => ?_⟩
        rcases List.mem_append.1 hj with h4 | h4
        · exact h2 j h4
        · simp at h4; subst h4; exact Ne.symm e2
      · exact .inr ⟨h1, j, List.mem_append.2 (.inl h2), h3⟩
  nw := fun f => by
    by_cases e2 : f = mkU U i
    · subst e2; simp
    · rw [updN_ne e2, ← h.nw f]; simp [e2]
  nod := by
    rw [List.nodup_append]
    refine ⟨h.nod, by simp, fun a ha b hb => ?_⟩
    simp at hb; subst hb
    intro e; subst e
    have := (h.nw _).1 ha
    omega }
theorem Lv.rkd (h : Lv U S k lay now done) (hd : ∀ n, d1 n = true ↔ done n = true ∨ n ∈ now) (n : Nat) : Rk U S k n ↔ d1 n = true := by
  have := h.top n
  rw [h.rk k n (Nat.le_refl _), hd, h.dn, h.nw]
  omega
theorem Lv.next (h : Lv U S k lay now done) (hd : ∀ n, d1 n = true ↔ done n = true ∨ n ∈ now) (hf : FrI U done d1 k fire) (h2 : P2 U lay k fire fire.length lay' now') : Lv U S (k + 1) lay' now' d1 := by
  have hnew := h2.new
  rw [List.take_length] at hnew
  have hnd : ∀ u : Un, (∀ n ∈ u.needs, Rk U S k n) ↔ opens d1 u.needs = 0 := fun u => by
    rw [opens_zero]
    exact forall_congr' fun n => imp_congr_right fun _ => h.rkd hd n
  refine ⟨fun j f hj => ?_, fun f hl => ?_, fun f => ?_, fun f => ?_, h2.nod, fun f => ?_⟩
  · rcases Nat.lt_or_ge j (k + 1) with hlt | hge
    · rw [h.rk j f (by omega)]
      rcases int_lg (lay f) 0 with hn | hn
      · have := hnew f hn
        omega
      · rw [h2.old f hn]
    · have e : j = k + 1 := by omega
      subst e
      rcases int_lg (lay f) 0 with hn | hn
      · constructor
        · rintro (h3 | ⟨u, hu, hmk, h3⟩)
          · have := (h.rk k f (Nat.le_refl _)).1 h3
            omega
          · obtain ⟨i, hi, hiu⟩ := List.getElem_of_mem hu
            have hi2 : U[i]? = some u := by rw [List.getElem?_eq_getElem hi, hiu]
            have hm : mkU U i = f := by unfold mkU; rw [hi2]; exact hmk
            by_cases hif : i ∈ fire
            · rcases hnew f hn with ⟨_, h5⟩ | ⟨h5, _⟩
              · exact absurd hm (h5 i hif)
              · omega
            · exfalso
              have hno : ¬ (opens done u.needs ≠ 0 ∨ (k = 0 ∧ u.needs = [])) := fun hx => hif ((hf i).2 ⟨u, hi2, (hnd u).1 h3, hx⟩)
              have ho : opens done u.needs = 0 := by
                rcases Nat.eq_zero_or_pos (opens done u.needs) with h6 | h6
                · exact h6
                · exact absurd (.inl (by omega)) hno
              rw [opens_zero] at ho
              rcases Nat.eq_zero_or_pos k with hk | hk
              · apply hno
                refine .inr ⟨hk, ?_⟩
                cases hu2 : u.needs with
                | nil => rfl
                | cons x l =>
                  have h6 := (h.dn x).1 (ho x (by simp [hu2]))
                  omega
              · obtain ⟨k', rfl⟩ : ∃ k', k = k' + 1 := ⟨k - 1, by omega⟩
                have h6 : Rk U S (k' + 1) f := .inr ⟨u, hu, hmk, fun n hn2 => by
                  have h7 := (h.dn n).1 (ho n hn2)
                  exact (h.rk k' n (by omega)).2 ⟨h7.1, by omega⟩⟩
                have := (h.rk _ f (Nat.le_refl _)).1 h6
                omega
        · intro h3
          rcases hnew f hn with ⟨h5, _⟩ | ⟨h5, i, hi, hm⟩
          · omega
          · obtain ⟨u, hiu, ho, _⟩ := (hf i).1 hi
            have hm2 : u.makes = f := by rw [← hm]; unfold mkU; rw [hiu]
            exact .inr ⟨u, List.mem_of_getElem? hiu, hm2, (hnd u).2 ho⟩
      · have ht := h.top f
        have e := h2.old f hn
        exact ⟨fun _ => by omega, fun _ => .inl ((h.rk k f (Nat.le_refl _)).2 ⟨hn, ht⟩)⟩
  · rcases int_lg (lay f) 0 with hn | hn
    · have := hnew f hn
      omega
    · have := h2.old f hn
      omega
  · rcases int_lg (lay f) 0 with hn | hn
    · have := hnew f hn
      omega
    · have := h2.old f hn
      have := h.top f
      omega
  · rw [h2.nw]
    simp
  · rw [hd, h.dn, h.nw]
    rcases int_lg (lay f) 0 with hn | hn
    · have := hnew f hn
      omega
    · have := h2.old f hn
      have := h.top f
      omega
theorem Lv.fin (h : Lv U S k lay [] done) (h0 : k = 0 → ∀ u ∈ U, u.needs ≠ []) : IsLev U S lay := by
  have st : ∀ d f, Rk U S (k + d) f → Rk U S k f := by
    intro d
    induction d with
    | zero => exact fun f h => h
    | succ d ih =>
      intro f hr
      rcases hr with hr | ⟨u, hu, hm, hr⟩
      · exact ih f hr
      · have hno : ∀ n, lay n ≠ (k : Int) := fun n e => by
          have := (h.nw n).2 e
          cases this
        rcases Nat.eq_zero_or_pos k with hk | hk
        · have hne := h0 hk u hu
          cases hu2 : u.needs with
          | nil => exact absurd hu2 hne
          | cons x l =>
            have h1 := (h.rk k x (Nat.le_refl _)).1 (ih x (hr x (by simp [hu2])))
            have := hno x
            omega
        · obtain ⟨k', rfl⟩ : ∃ k', k = k' + 1 := ⟨k - 1, by omega⟩
          refine .inr ⟨u, hu, hm, fun n hn => ?_⟩
          have h1 := (h.rk _ n (Nat.le_refl _)).1 (ih n (hr n hn))
          have := hno n
          exact (h.rk k' n (by omega)).2 ⟨h1.1, by omega⟩
  intro f
  rcases int_lg (lay f) 0 with hn | hn
  · refine .inl ⟨h.neg f hn, fun j hr => ?_⟩
    have h1 : Rk U S k f := by
      rcases Nat.le_total j k with h2 | h2
      · exact hr.le h2
      · exact st (j - k) f (by rw [show k + (j - k) = j by omega]; exact hr)
    have := (h.rk k f (Nat.le_refl _)).1 h1
    omega
  · have ht := h.top f
    refine .inr ⟨(lay f).toNat, by omega, (h.rk _ f (by omega)).2 ⟨hn, by omega⟩, fun j hj hr => ?_⟩
    have := (h.rk j f (by omega)).1 hr
    omega
end
end Go.Rx
end
section
set_option maxRecDepth 100000
set_option linter.unusedSimpArgs false
set_option linter.unusedVariables false
namespace Go.Proofs.Ytcoeknnghfajnaa
open Go Go.W Go.Tk Go.Rx Go.Maps
def lay0 (S : List Nat) : Nat → Int := fun f => if f ∈ S then 0 else -1
section
variable {w : World} {b : Nat} {vars : List Nat} {goal : List Fc} {U : List Un} {vv gv fv uv nd fr : Value} {rs : List Ru} {ps : List (Cell1 × List Nat)}
end
end Go.Proofs.Ytcoeknnghfajnaa
end
section
set_option maxRecDepth 100000
set_option linter.unusedSimpArgs false
set_option linter.unusedVariables false
namespace Go.Proofs.Ytcoeknnghfajnaa
open Go Go.W Go.Tk Go.Rx Go.Maps
def ntO (T : Nt) : Obj := .cells #[T.vv.1, T.nv.1, T.gv.1, T.ov.1] 26 (0, 0)
def ntV (T : Nt) : Value := .agg #[T.vv.1, T.nv.1, T.gv.1, T.ov.1]
def noV (o : No) : Value := .agg #[.string o.name, .int .i64 (o.cost : Nat), o.pv.1, o.ev.1]
end Go.Proofs.Ytcoeknnghfajnaa
end
section
set_option maxRecDepth 100000
set_option linter.unusedSimpArgs false
set_option linter.unusedVariables false
namespace Go.Proofs.Ytcoeknnghfajnaa
open Go Go.W Go.Tk Go.Rx Go.Maps
section
variable {α : Type} {enc : α → List Value} {E sz : Nat} {B : Asr} {w w1 : World} {F : List Nat}
theorem RowsA.snoc (q : Cell1 × List α) : ∀ (ps : List (Cell1 × List α)), Imp (Star (OwnA q.1.1 E sz enc q.2) (RowsA E sz enc ps B)) (RowsA E sz enc (ps ++ [q]) B)
  | [] => Imp.rfl
  | p :: ps => Imp.sw.trans (Imp.un (RowsA.snoc q ps))
theorem TabA.vw {v : Value} {E2 : Nat} {ps : List (Cell1 × List α)} {ls : List (List α)} (e : ps.map (·.2) = ls) (h : At w F (Star (TabA v E2 E enc ps) B) w1) : LLV enc w1 v ls :=
  ⟨ps, e, (TabA.own h).vw, fun p hp => by
    obtain ⟨i, hi, rfl⟩ := List.getElem_of_mem hp
    exact (TabA.row h (List.getElem?_eq_getElem hi)).vw⟩
theorem TabA.nil (hB : Lcl B) (h : At w F B w1) : At w F (Star (TabA (.slice none 0 0) 22 3 enc []) B) w1 :=
  (At.nil (E := 22) (sz := 1) (enc := (sv1 : Cell1 × List α → List Value)) hB h).by (TabA.cls (ps := []))
end
/-- The rows of a table. -/
theorem LLV.tb {w : World} {v : Value} {vars : List Nat} {g : Nat → Int} (h : LLV iE w v (tbI vars g)) : ∃ ps : List (Cell1 × List Int), ps.length = vars.length ∧ Vw w v sv1 ps ∧ ∀ (i : Nat) (p : Cell1 × List Int), ps[i]? = some p → Vw w p.1.1 iE (rwI vars g i) := by
  obtain ⟨ps, h1, h2, h3⟩ := h.spread
  refine ⟨ps, by rw [h1]; exact tbK_len _ _ _, h2, fun i p hp => ?_⟩
  obtain ⟨l, h4, h5⟩ := h3 i p hp
  unfold tbI tbK at h4
  rw [List.getElem?_map] at h4
  have hi : i < vars.length := by
    have := (List.getElem?_eq_some_iff.1 hp).1
    rw [h1] at this
    simpa [tbI, tbK] using this
  rw [List.getElem?_range hi] at h4
  have := Option.some.inj h4
  rw [← this] at h5
  exact h5
def FcRng (vars : List Nat) (l : List Fc) : Prop := ∀ f ∈ l, f.1 < vars.length ∧ f.2 < vars.getD f.1 0
end Go.Proofs.Ytcoeknnghfajnaa
end
section
set_option linter.unusedVariables false
set_option linter.unusedSimpArgs false
namespace Go.Rx
open Go.Tk Go.W Go
structure Rf (A : List Un) (S : List Nat) (V : Nat → Nat) : Prop where
  s0 : ∀ f ∈ S, V f = 0
  der : ∀ f, V f < Inf → Der A S f (V f)
  le : ∀ f, V f ≤ Inf
/-- No operator of a list lowers a value. -/
def Clo (A : List Un) (V : Nat → Nat) : Prop := ∀ u ∈ A, gr V u.needs < Inf → V u.makes ≤ gr V u.needs + u.cost
section
variable {A A' : List Un} {S : List Nat} {V : Nat → Nat} {u : Un} {N f x : Nat}
theorem Rf.init : Rf A S (fun f => if f ∈ S then 0 else Inf) := {
  s0 := fun f hf => by simp [hf]
  der := fun f hf => by
    by_cases h : f ∈ S
    · simp [h]; exact .base h
    · simp [h] at hf
  le := fun f => by
    by_cases h : f ∈ S <;> simp [h] }
theorem Rf.step (h : Rf A S V) (hu : u ∈ A) (hlt : gr V u.needs + u.cost < V u.makes) : Rf A S (updN V u.makes (gr V u.needs + u.cost)) := {
  s0 := fun f hf => by
    by_cases e : f = u.makes
    · have := h.s0 f hf
      rw [e] at this; omega
    · rw [updN_ne e]; exact h.s0 f hf
  der := fun f hf => by
    by_cases e : f = u.makes
    · subst e
      rw [updN_same]
      have hle := h.le u.makes
      exact .step hu V fun n hn => h.der n (by have := gr_mem (V := V) hn; omega)
    · rw [updN_ne e] at hf ⊢; exact h.der f hf
  le := fun f => by
    by_cases e : f = u.makes
    · subst e
      rw [updN_same]
      have := h.le u.makes
      omega
    · rw [updN_ne e]; exact h.le f }
theorem Rf.fin (h : Rf A S V) (hc : Clo A V) : IsVal A S V := ⟨h.s0, hc, h.der, h.le⟩
theorem Clo.nil : Clo [] V := fun u hu => by cases hu
theorem Clo.app (h : Clo A V) (h' : Clo A' V) : Clo (A ++ A') V := fun u hu => by
  rcases List.mem_append.1 hu with h1 | h1
  · exact h u h1
  · exact h' u h1
theorem Clo.one (h : gr V u.needs < Inf → V u.makes ≤ gr V u.needs + u.cost) : Clo [u] V := fun v hv => by
  simp at hv; subst hv; exact h
end
theorem unA_at {vars : List Nat} {o : No} {i c k : Nat} {e : Nf} (h : o.effs[k]? = some e) : unA vars o i c k = ⟨i, k, c, numF vars (e.v, e.x), dedup ((o.pre ++ e.cnd).map (numF vars))⟩ := by
  unfold unA; rw [h]
/-- The unary operators of a task come from its operators. -/
theorem uns_mem {t : Nt} {cost : Nat → Nat} {n : Nat} {u : Un} (h : u ∈ unsK t cost n) : ∃ i o k e, i < n ∧ t.ops[i]? = some o ∧ o.effs[k]? = some e ∧ u = ⟨i, k, cost i, numF t.vars (e.v, e.x), dedup ((o.pre ++ e.cnd).map (numF t.vars))⟩ := by
  unfold unsK at h
  obtain ⟨i, hi, h2⟩ := List.mem_flatMap.1 h
  cases ho : t.ops[i]? with
  | none => rw [ho] at h2; cases h2
  | some o =>
    rw [ho] at h2
    unfold opU at h2
    obtain ⟨k, hk, rfl⟩ := List.mem_map.1 h2
    have hk := List.mem_range.1 hk
    exact ⟨i, o, k, _, List.mem_range.1 hi, ho, List.getElem?_eq_getElem hk, unA_at (List.getElem?_eq_getElem hk)⟩
end Go.Rx
end
section
set_option maxRecDepth 100000
set_option linter.unusedSimpArgs false
set_option linter.unusedVariables false
namespace Go.Proofs.Ytcoeknnghfajnaa
open Go Go.W Go.Tk Go.Rx Go.Maps
/-- Costs. -/
def cstL (cl : List Nat) (i : Nat) : Nat := cl.getD i 0
end Go.Proofs.Ytcoeknnghfajnaa
end
section
set_option maxRecDepth 100000
set_option linter.unusedSimpArgs false
set_option linter.unusedVariables false
namespace Go.Proofs.Ytcoeknnghfajnaa
open Go Go.W Go.Tk Go.Rx Go.Maps
def NoS (l : List Un) (V : Nat → Nat) (n : Nat) : Prop := ∀ y ∈ l, isSup V n y = false
theorem NoS.app {a b : List Un} {V : Nat → Nat} {n : Nat} (h1 : NoS a V n) (h2 : NoS b V n) : NoS (a ++ b) V n := fun y hy => by
  rcases List.mem_append.1 hy with h | h
  · exact h1 y h
  · exact h2 y h
theorem NoS.one {u : Un} {V : Nat → Nat} {n : Nat} (h : isSup V n u = false) : NoS [u] V n := fun y hy => by
  simp at hy; subst hy; exact h
end Go.Proofs.Ytcoeknnghfajnaa
end
section
set_option linter.unusedVariables false
set_option linter.unusedSimpArgs false
namespace Go.Rx
structure Lw (U : List Un) (S : List Nat) (k : Nat) (lay : Nat → Int) : Prop where
  rk : ∀ j f, j ≤ k → (Rk U S j f ↔ 0 ≤ lay f ∧ lay f ≤ (j : Int))
  neg : ∀ f, lay f < 0 → lay f = -1
  top : ∀ f, lay f ≤ (k : Int)
/-- The facts that come next. -/
def Snd (U : List Un) (lay : Nat → Int) (l : List Nat) : Prop := ∀ g ∈ l, lay g < 0 ∧ ∃ u ∈ U, u.makes = g ∧ ∀ n ∈ u.needs, 0 ≤ lay n
def Ful (A : List Un) (lay : Nat → Int) (l : List Nat) : Prop := ∀ u ∈ A, lay u.makes < 0 → (∀ n ∈ u.needs, 0 ≤ lay n) → u.makes ∈ l
def layN (lay : Nat → Int) (k : Nat) (l : List Nat) : Nat → Int := fun f => if f ∈ l then (k : Int) + 1 else lay f
section
variable {U A A' : List Un} {S l : List Nat} {k N f : Nat} {lay : Nat → Int}
theorem Lw.init : Lw U S 0 (fun f => if f ∈ S then 0 else -1) := {
  rk := fun j f hj => by
    have : j = 0 := by omega
    subst this
    show f ∈ S ↔ _
    by_cases h : f ∈ S <;> simp [h]
  neg := fun f h => by
    by_cases hf : f ∈ S
    · simp [hf] at h
    · simp [hf]
  top := fun f => by
    by_cases hf : f ∈ S <;> simp [hf] }
theorem Lw.next (h : Lw U S k lay) (hs : Snd U lay l) (hf : Ful U lay l) : Lw U S (k + 1) (layN lay k l) := {
  rk := fun j f hj => by
    unfold layN
    by_cases hl : f ∈ l
    · rw [if_pos hl]
      obtain ⟨h1, u, hu, hm, hn⟩ := hs f hl
      rcases Nat.lt_or_ge j (k + 1) with hlt | hge
      · rw [h.rk j f (by omega)]; omega
      · have : j = k + 1 := by omega
        subst this
        exact ⟨fun _ => by omega, fun _ => .inr ⟨u, hu, hm, fun n hn2 => (h.rk k n (Nat.le_refl _)).2 ⟨hn n hn2, h.top n⟩⟩⟩
    · rw [if_neg hl]
      rcases Nat.lt_or_ge j (k + 1) with hlt | hge
      · exact h.rk j f (by omega)
      · have : j = k + 1 := by omega
        subst this
        have ht := h.top f
        constructor
        · rintro (h1 | ⟨u, hu, rfl, hn⟩)
          · have := (h.rk k f (Nat.le_refl _)).1 h1; omega
          · rcases int_lg (lay u.makes) 0 with h2 | h2
            · exact absurd (hf u hu h2 fun n hn2 => ((h.rk k n (Nat.le_refl _)).1 (hn n hn2)).1) hl
            · omega
        · intro h1
          exact .inl ((h.rk k f (Nat.le_refl _)).2 ⟨h1.1, ht⟩)
  neg := fun f hf2 => by
    unfold layN at hf2 ⊢
    by_cases hl : f ∈ l
    · rw [if_pos hl] at hf2; omega
    · rw [if_neg hl] at hf2 ⊢; exact h.neg f hf2
  top := fun f => by
    unfold layN
    by_cases hl : f ∈ l
    · rw [if_pos hl]; omega
    · rw [if_neg hl]; have := h.top f; omega }
theorem Lw.fin (h : Lw U S k lay) (hf : Ful U lay []) : IsLev U S lay := by
  have st : ∀ d f, Rk U S (k + d) f → Rk U S k f := by
    intro d
    induction d with
    | zero => exact fun f h => h
    | succ d ih =>
      intro f hr
      rcases hr with hr | ⟨u, hu, rfl, hr⟩
      · exact ih f hr
      · rcases int_lg (lay u.makes) 0 with h2 | h2
        · have := hf u hu h2 fun n hn => ((h.rk k n (Nat.le_refl _)).1 (ih n (hr n hn))).1
          cases this
        · exact (h.rk k _ (Nat.le_refl _)).2 ⟨h2, h.top _⟩
  intro f
  rcases int_lg (lay f) 0 with hn | hn
  · refine .inl ⟨h.neg f hn, fun j hr => ?_⟩
    have h1 : Rk U S k f := by
      rcases Nat.le_total j k with h2 | h2
      · exact hr.le h2
      · exact st (j - k) f (by rw [show k + (j - k) = j by omega]; exact hr)
    have := (h.rk k f (Nat.le_refl _)).1 h1
    omega
  · have ht := h.top f
    refine .inr ⟨(lay f).toNat, by omega, (h.rk _ f (by omega)).2 ⟨hn, by omega⟩, fun j hj hr => ?_⟩
    have := (h.rk j f (by omega)).1 hr
    omega
theorem Snd.nil : Snd U lay [] := fun g hg => by cases hg
theorem Ful.nil : Ful [] lay l := fun u hu => by cases hu
theorem Ful.more {l' : List Nat} (h : Ful A lay l) : Ful A lay (l ++ l') := fun u hu h1 h2 => List.mem_append.2 (.inl (h u hu h1 h2))
theorem Ful.app (h : Ful A lay l) (h' : Ful A' lay l) : Ful (A ++ A') lay l := fun u hu => by
  rcases List.mem_append.1 hu with h1 | h1
  · exact h u h1
  · exact h' u h1
theorem Ful.one {u : Un} (h : lay u.makes < 0 → (∀ n ∈ u.needs, 0 ≤ lay n) → u.makes ∈ l) : Ful [u] lay l := fun v hv => by
  simp at hv; subst hv; exact h
end
end Go.Rx
end
section
set_option maxRecDepth 100000
set_option linter.unusedSimpArgs false
set_option linter.unusedVariables false
namespace Go.Proofs.Ytcoeknnghfajnaa
open Go Go.W Go.Tk Go.Rx Go.Maps
def hdB (s : List Nat) (l : List Fc) : Bool := l.all fun f => decide (s.getD f.1 0 = f.2)
end Go.Proofs.Ytcoeknnghfajnaa
end
section
set_option maxRecDepth 100000
set_option linter.unusedSimpArgs false
set_option linter.unusedVariables false
namespace Go.Proofs.Ytcoeknnghfajnaa
open Go Go.W Go.Tk Go.Rx Go.Maps
def extS (n : Nat) (s : List Nat) : List (List Nat) := (List.range n).map fun x => s ++ [x]
/-- All states over the first variables. -/
def stsK (vars : List Nat) : Nat → List (List Nat)
  | 0 => [[]]
  | k + 1 => (stsK vars k).flatMap (extS (vars.getD k 0))
theorem extS_len (n : Nat) (s : List Nat) : (extS n s).length = n := by simp [extS]
end Go.Proofs.Ytcoeknnghfajnaa
end
section
set_option maxRecDepth 100000
set_option linter.unusedSimpArgs false
set_option linter.unusedVariables false
namespace Go.Proofs.Ytcoeknnghfajnaa
open Go Go.W Go.Tk Go.Rx Go.Maps
def apK (o : No) (s : List Nat) (k : Nat) : List Nat := (o.effs.take k).foldl (fun t e => if hdB s e.cnd then t.set e.v e.x else t) s
/-- The state behind an operator. -/
def apS (o : No) (s : List Nat) : List Nat := apK o s o.effs.length
theorem apK_succ {o : No} {s : List Nat} {k : Nat} {e : Nf} (h : o.effs[k]? = some e) : apK o s (k + 1) = if hdB s e.cnd then (apK o s k).set e.v e.x else apK o s k := by
  unfold apK; rw [take_snoc h, List.foldl_append]; rfl
theorem apK_len (o : No) (s : List Nat) : ∀ k, (apK o s k).length = s.length
  | 0 => by simp [apK]
  | k + 1 => by
    cases h : o.effs[k]? with
    | none =>
      have := List.getElem?_eq_none_iff.1 h
      have h2 := apK_len o s k
      unfold apK at h2 ⊢
      rw [List.take_of_length_le (by omega)] at h2 ⊢
      exact h2
    | some e =>
      rw [apK_succ h]
      have := apK_len o s k
      split
      · rw [List.length_set]; exact this
      · exact this
end Go.Proofs.Ytcoeknnghfajnaa
end
section
set_option maxRecDepth 100000
set_option linter.unusedSimpArgs false
set_option linter.unusedVariables false
namespace Go.Proofs.Ytcoeknnghfajnaa
open Go Go.W Go.Tk Go.Rx Go.Maps
theorem sts_ok {vars : List Nat} : ∀ k, k ≤ vars.length → ∀ s ∈ stsK vars k, s.length = k ∧ ∀ v, v < k → s.getD v 0 < vars.getD v 0
  | 0, _, s, hs => by
    simp [stsK] at hs; subst hs
    exact ⟨rfl, fun v hv => by omega⟩
  | k + 1, hk, s, hs => by
    unfold stsK at hs
    obtain ⟨t, ht, h2⟩ := List.mem_flatMap.1 hs
    unfold extS at h2
    obtain ⟨x, hx, rfl⟩ := List.mem_map.1 h2
    obtain ⟨e, hv⟩ := sts_ok k (by omega) t ht
    refine ⟨by simp [e], fun v hvk => ?_⟩
    by_cases h3 : v < k
    · have := hv v h3
      simpa [List.getD, List.getElem?_append_left (show v < t.length by omega)] using this
    · have : v = k := by omega
      subst this
      simpa [List.getD, ← e] using List.mem_range.1 hx
theorem sts_st {vars : List Nat} {s : List Nat} (h : s ∈ stsK vars vars.length) : StN vars s := by
  obtain ⟨h1, h2⟩ := sts_ok _ (Nat.le_refl _) s h
  exact ⟨h1, h2⟩
end Go.Proofs.Ytcoeknnghfajnaa
end
section
set_option maxRecDepth 100000
set_option linter.unusedSimpArgs false
set_option linter.unusedVariables false
namespace Go.Proofs.Ytcoeknnghfajnaa
open Go Go.W Go.Tk Go.Rx Go.Sy Go.Maps
/-- The bits of the state are those of values. -/
def okB (vars : List Nat) (a : Nat → Bool) : Bool := (List.range vars.length).all fun v => decide (rv vars a 0 v < vars.getD v 0)
theorem okB_iff {vars : List Nat} {a : Nat → Bool} : okB vars a = true ↔ StN vars (rs vars a 0) := by
  unfold okB
  rw [List.all_eq_true]
  constructor
  · intro h
    refine ⟨rs_len _ _ _, fun v hv => ?_⟩
    rw [rs_at hv]
    have := h v (List.mem_range.2 hv)
    simpa using this
  · intro h v hv
    have hv := List.mem_range.1 hv
    have := h.rng v hv
    rw [rs_at hv] at this
    simpa using this
/-- The last effect on a variable that happens, from an index on. -/
def lastE (o : No) (s : List Nat) (v : Nat) : Nat → Nat → Option Nat
  | 0, _ => none
  | d + 1, i => match lastE o s v d (i + 1) with
    | some z => some z
    | none => match o.effs[i]? with
      | some e => if e.v = v ∧ hdB s e.cnd = true then some e.x else none
      | none => none
theorem lastE_succ (o : No) (s : List Nat) (v d i : Nat) : lastE o s v (d + 1) i = (match lastE o s v d (i + 1) with
    | some z => some z
    | none => match o.effs[i]? with
      | some e => if e.v = v ∧ hdB s e.cnd = true then some e.x else none
      | none => none) := rfl
theorem gD_same {d : List Nat} {i x : Nat} (h : i < d.length) : (d.set i x).getD i 0 = x := by simp [List.getD, List.getElem?_set_self h]
theorem gD_ne {d : List Nat} {i j x : Nat} (h : i ≠ j) : (d.set i x).getD j 0 = d.getD j 0 := by simp only [List.getD, List.getElem?_set_ne h]
theorem lastE_ap {o : No} {s : List Nat} {v : Nat} (hv : v < s.length) : ∀ d i, i + d = o.effs.length → (apS o s).getD v 0 = (lastE o s v d i).getD ((apK o s i).getD v 0)
  | 0, i, h => by
    have : i = o.effs.length := by omega
    subst this
    rfl
  | d + 1, i, h => by
    rw [lastE_ap hv d (i + 1) (by omega)]
    obtain ⟨e, he⟩ : ∃ e, o.effs[i]? = some e := ⟨_, List.getElem?_eq_getElem (by omega)⟩
    rw [lastE_succ]
    cases hl : lastE o s v d (i + 1) with
    | some z => rfl
    | none =>
      rw [he]
      simp only [Option.getD_none]
      rw [apK_succ he]
      by_cases hc : hdB s e.cnd = true
      · by_cases hev : e.v = v
        · subst hev
          rw [if_pos hc, if_pos ⟨rfl, hc⟩]
          rw [gD_same (by rw [apK_len]; exact hv)]
          rfl
        · rw [if_pos hc, if_neg (fun h => hev h.1), gD_ne hev]
          rfl
      · rw [if_neg hc, if_neg (fun h => hc h.2)]
        rfl
/-- The value of a variable in the successor. -/
def chgV (o : No) (s : List Nat) (v : Nat) : Nat := (lastE o s v o.effs.length 0).getD (s.getD v 0)
theorem chg_ap {o : No} {s : List Nat} {v : Nat} (hv : v < s.length) : (apS o s).getD v 0 = chgV o s v := by
  rw [lastE_ap hv o.effs.length 0 (by omega)]
  rfl
/-- The relation of an operator. -/
def relB (T : Nt) (o : No) (a : Nat → Bool) : Bool := hdB (rs T.vars a 0) o.pre && decide (rs T.vars a 1 = apS o (rs T.vars a 0))
def relV (T : Nt) (o : No) (v : Nat) (a : Nat → Bool) : Bool := decide (rv T.vars a 1 v = chgV o (rs T.vars a 0) v)
theorem ext_getD {l l' : List Nat} (h : l.length = l'.length) (hh : ∀ v, v < l.length → l.getD v 0 = l'.getD v 0) : l = l' := by
  apply List.ext_getElem h
  intro i h1 h2
  have := hh i h1
  simpa [List.getD, h1, h2] using this
theorem rel_all {T : Nt} {o : No} {a : Nat → Bool} : (∀ v, v < T.vars.length → relV T o v a = true) ↔ rs T.vars a 1 = apS o (rs T.vars a 0) := by
  have hl : (apS o (rs T.vars a 0)).length = T.vars.length := by unfold apS; rw [apK_len, rs_len]
  constructor
  · intro h
    refine ext_getD (by rw [rs_len, hl]) fun v hv => ?_
    rw [rs_len] at hv
    have := h v hv
    unfold relV at this
    rw [rs_at hv, chg_ap (by rw [rs_len]; exact hv)]
    simpa using this
  · intro h v hv
    unfold relV
    rw [decide_eq_true_iff, ← chg_ap (by rw [rs_len]; exact hv), ← h, rs_at hv]
/-- The successors. -/
def imgP (T : Nt) (o : No) (P : List Nat → Bool) (s : List Nat) : Bool := (stsK T.vars T.vars.length).any fun x => P x && hdB x o.pre && decide (apS o x = s)
theorem sts_mem {vars s : List Nat} : s ∈ stsK vars vars.length ↔ StN vars s := by
  refine ⟨sts_st, fun h => ?_⟩
  have key : ∀ k, k ≤ vars.length → s.take k ∈ stsK vars k := by
    intro k hk
    induction k with
    | zero => simp [stsK]
    | succ k ih =>
      unfold stsK
      refine List.mem_flatMap.2 ⟨_, ih (by omega), ?_⟩
      unfold extS
      have hks : k < s.length := by rw [h.len]; omega
      refine List.mem_map.2 ⟨s.getD k 0, List.mem_range.2 (h.rng k (by omega)), ?_⟩
      rw [List.take_add_one, List.getElem?_eq_getElem hks]
      simp [List.getD, List.getElem?_eq_getElem hks]
  have := key _ (Nat.le_refl _)
  rwa [List.take_of_length_le (by rw [h.len]; exact Nat.le_refl _)] at this
/-- Where a state has been kept. -/
theorem rs_mk2 {vars x y : List Nat} (h64 : ∀ n ∈ vars, n ≤ 64) (hx : StN vars x) : rs vars (mk2 vars x y) 0 = x := by
  refine ext_getD (by rw [rs_len, hx.len]) fun v hv => ?_
  rw [rs_len] at hv
  have hm : vars.getD v 0 ∈ vars := by simp [List.getD, List.getElem?_eq_getElem hv]
  have h1 := hx.rng v hv
  have h2 := wd_ge (h64 _ hm)
  rw [rs_at hv, rv_mk2 (nx := 0) hv (by omega) (by simp only [if_true]; omega)]
  rfl
end Go.Proofs.Ytcoeknnghfajnaa
end
section
set_option maxRecDepth 100000
set_option linter.unusedSimpArgs false
set_option linter.unusedVariables false
namespace Go.Proofs.Ytcoeknnghfajnaa
open Go Go.W Go.Bd Go.Maps
theorem blaidOut : laidOutB Try.prog = true := by kernel_rfl
def en (d : Nd) : List Value := ints [d.v, d.low, d.high]
theorem bn_len (d : Nd) : (en d).length = 3 := rfl
theorem en_one (d : Nd) : (en d).all oneC = true := rfl
def ndV (d : Nd) : Value := .agg (en d).toArray
def nd_ok (d : Nd) : Prop := ∀ x ∈ [d.v, d.low, d.high], i64ok x
theorem keyN : KeyEnc Try.prog 112 ndV nd_ok := {
  keyed := Keyed.of_law (deep_law_laid blaidOut (m := 5) (by omega) (of_decide_eq_true (by kernel_rfl)) (by kernel_rfl) (by kernel_rfl))
  lit := fun d hd => key_struct Try.underlying112 (by kernel_rfl) (by intro f hf; simp at hf; rcases hf with rfl | rfl | rfl <;> kernel_rfl) (by kernel_rfl) (by kernel_rfl) (m := Try.prog.types.size - 1) (by kernel_rfl) rfl hd
  inj := fun x y h => by
    have := ints_inj h
    cases x; cases y; simp at this; simp [this] }
def natV (k : Nat) : Value := .int .i64 (k : Int)
/-- The index of the nodes. -/
def idx (ns : Ns) : List (Nd × Nat) := ns.zipIdx.map fun p => (p.1, p.2 + 2)
theorem idx_snoc (ns : Ns) (d : Nd) : idx (ns ++ [d]) = idx ns ++ [(d, ns.length + 2)] := by simp [idx, List.zipIdx_append]
theorem idx_len (ns : Ns) : (idx ns).length = ns.length := by simp [idx]
theorem getM_idx (ns : Ns) (d : Nd) : getM (idx ns) d = (ns.findIdx? fun x => decide (x = d)).map (· + 2) := by
  have key : ∀ (l : Ns) (o : Nat), (((l.zipIdx o).map fun p => (p.1, p.2 + 2)).find? fun p => decide (p.1 = d)).map (·.2) = (l.findIdx? fun x => decide (x = d)).map (· + o + 2) := by
    intro l
    induction l with
    | nil => intro o; rfl
    | cons x l ih =>
      intro o
      rw [List.zipIdx_cons, List.map_cons, List.findIdx?_cons]
      by_cases hx : x = d
      · simp [hx]
      · rw [List.find?_cons_of_neg (by simpa using hx), ih (o + 1)]
        simp only [hx, decide_false, Bool.false_eq_true, if_false, Option.map_map]
        congr 1
        funext k; simp only [Function.comp]; omega
  exact key ns 0
def mgrO (n lim : Nat) (nv : Value) (b : Nat) : Obj := .cells #[.int .i64 n, .int .i64 lim, nv, .map (some b)] 107 (0, 0)
/-- A manager at m. -/
def MgrA (m n lim : Nat) (ns : Ns) : Asr := ExA fun q : Value × Nat => Star (ObjA m (mgrO n lim q.1 q.2)) (Star (OwnA q.1 112 3 en ns) (MapA q.2 ndV natV nd_ok (idx ns)))
theorem Lcl.mgr {m n lim : Nat} {ns : Ns} : Lcl (MgrA m n lim ns) := Lcl.ex fun _ => Lcl.star Lcl.obj (Lcl.star Lcl.own Lcl.map)
section
variable {w w1 : World} {F : List Nat} {B : Asr} {m n lim : Nat} {ns : Ns}
theorem MgrA.opn (h : At w F (Star (MgrA m n lim ns) B) w1) : ∃ nv b, At w F (Star (ObjA m (mgrO n lim nv b)) (Star (OwnA nv 112 3 en ns) (Star (MapA b ndV natV nd_ok (idx ns)) B))) w1 := by
  obtain ⟨⟨nv, b⟩, h⟩ := h.ex_open
  exact ⟨nv, b, h.assoc.rot.assoc.rot3⟩
theorem MgrA.cls {nv : Value} {b : Nat} (h : At w F (Star (ObjA m (mgrO n lim nv b)) (Star (OwnA nv 112 3 en ns) (Star (MapA b ndV natV nd_ok (idx ns)) B))) w1) : At w F (Star (MgrA m n lim ns) B) w1 :=
  At.ex_close (x := (nv, b)) h.rot.rot3.rot.assoc'.rot.assoc'
/-- What a reader needs of a manager. -/
structure MgrF (w : World) (m n lim : Nat) (ns : Ns) : Prop where
  ex : ∃ nv b, w.heap[m]? = some (mgrO n lim nv b) ∧ Own w nv 112 3 en ns ∧ MapM w b ndV natV nd_ok (idx ns)
theorem MgrF.kp0 {w' : World} (h : MgrF w m n lim ns) (hk : Kp [] w w') : MgrF w' m n lim ns := by
  obtain ⟨nv, b, h1, h2, h3⟩ := h
  exact ⟨nv, b, hk.blk h1 (by simp), h2.kp hk (by simp), h3.kp hk (by simp)⟩
theorem MgrA.rd (h : At w F (Star (MgrA m n lim ns) B) w1) : MgrF w1 m n lim ns := by
  obtain ⟨nv, b, h⟩ := MgrA.opn h
  exact ⟨nv, b, h.obj, h.drop.own, h.drop.drop.map⟩
end
/-- Sizes. -/
structure Bnd (n lim : Nat) (ns : Ns) : Prop where
  hn : n ≤ 256
  hl : lim ≤ 1048576
  hs : ns.length ≤ lim
theorem at_spec (m n lim f : Nat) (ns : Ns) (w : World) (h : MgrF w m n lim ns) (hb : Bnd n lim ns) (hf : Ref ns f) :
    Calls Try.prog 69 [.pointer (some ⟨m, 0, none⟩), .int .i64 (f : Nat)].toArray w fun e w' => ∃ v, e = .returned v ∧ v = ndV (at_ n ns f) ∧ Kp [] w w' := by
  obtain ⟨hbn, hbl, hbs⟩ := hb
  obtain ⟨nv, b, ho, hown, hmap⟩ := h
  have hf' : f < ns.length + 2 := hf
  refine enter Try.func69 mixed low69 (Nat.le_of_ble_eq_true rfl) ?_
  simp only [L69]
  have ka : Kp [] w (w.alloc (.cells #[.int .i64 0, .int .i64 0, .int .i64 0] 112)) := (Kp.refl _ _).alloc _
  have ho' := ka.blk ho (by simp)
  have hown' := hown.kp ka (by simp)
  unfold mgrO at ho'
  rcases Nat.lt_or_ge f 2 with h2 | h2
  · have h2' : (f : Int) < 2 := by omega
    simp [h2', cell_blk ho']
    refine st_obj alloc_new (by simp) (by simp) ?_
    intro w2 hk2 hs2 hb2
    simp
    refine postL_c1 (g := w.heap.size) (n := 3) ag_112 (by simp) (by simpa using hb2) rfl rfl ?_
    refine ⟨_, rfl, ?_, ka.trans' hk2 (fun x hx => .inr (by simp at hx; omega))⟩
    rw [at_lt h2]; rfl
  · have h2' : ¬ (f : Int) < 2 := by omega
    have hlt : f - 2 < ns.length := by omega
    have hi : ((f : Int) - 2) = ((f - 2 : Nat) : Int) := by omega
    have hget : ns[f - 2]? = some (at_ n ns f) := by rw [at_ge h2 hf]; exact List.getElem?_eq_getElem _
    simp (disch := omega) [h2', cell_blk ho', wrap_i64]
    rw [hi]
    simp (disch := omega) [hown'.idx, hown'.cells bn_len hget, bn_len]
    refine st_obj alloc_new (by simp [en, ints]) (by simp [en, ints]) ?_
    intro w2 hk2 hs2 hb2
    simp
    refine postL_c1 (g := w.heap.size) (n := 3) ag_112 (by simp) (by simpa [en, ints] using hb2) rfl rfl ?_
    exact ⟨_, rfl, rfl, ka.trans' hk2 (fun x hx => .inr (by simp at hx; omega))⟩
end Go.Proofs.Ytcoeknnghfajnaa
end
