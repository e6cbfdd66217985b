/-
  A part of the proof of this claim's statement (RxLev, RxWC, RxXA, RxXB, RxFx, RxXD, RxXE, RxLw, RxXG, RxXH, RxXI, RxXJ, RxXK, RxXL): plain theorems; no conditions beyond those each names.
-/
import Derived.Test.YtolkjbmcindhjaaGreatPk11
import Derived.Test.YtolkjbmcindhjaaGreatPk12
section
set_option linter.unusedVariables false
set_option linter.unusedSimpArgs false
namespace Go.Rx
theorem int_lg (a b : Int) : a < b ∨ b ≤ a := by omega
structure Lv (U : List Un) (S : List Nat) (k : Nat) (lay : Nat → Int) (now : List Nat) (done : Nat → Bool) : Prop where
  rk : ∀ j f, j ≤ k → (Rk U S j f ↔ 0 ≤ lay f ∧ lay f ≤ (j : Int))
  neg : ∀ f, lay f < 0 → lay f = -1
  top : ∀ f, lay f ≤ (k : Int)
  nw : ∀ f, f ∈ now ↔ lay f = (k : Int)
  nod : now.Nodup
  dn : ∀ f, done f = true ↔ (0 ≤ lay f ∧ lay f < (k : Int))
/-- The unary operators that fire. -/
def FrI (U : List Un) (d0 d1 : Nat → Bool) (k : Nat) (fire : List Nat) : Prop := ∀ i, i ∈ fire ↔ ∃ u, U[i]? = some u ∧ opens d1 u.needs = 0 ∧ (opens d0 u.needs ≠ 0 ∨ (k = 0 ∧ u.needs = []))
def mkU (U : List Un) (i : Nat) : Nat := match U[i]? with | some u => u.makes | none => 0
structure P2 (U : List Un) (lay0 : Nat → Int) (k : Nat) (fire : List Nat) (z : Nat) (lay : Nat → Int) (now : List Nat) : Prop where
  old : ∀ f, 0 ≤ lay0 f → lay f = lay0 f
  new : ∀ f, lay0 f < 0 → (lay f = -1 ∧ ∀ i ∈ fire.take z, mkU U i ≠ f) ∨ (lay f = (k : Int) + 1 ∧ ∃ i ∈ fire.take z, mkU U i = f)
  nw : ∀ f, f ∈ now ↔ lay f = (k : Int) + 1
  nod : now.Nodup
section
variable {U : List Un} {S : List Nat} {k : Nat} {lay lay' : Nat → Int} {now now' fire fire' : List Nat} {done d0 d1 : Nat → Bool} {z f : Nat}
theorem Lv.init (hn : S.Nodup) : Lv U S 0 (fun f => if f ∈ S then 0 else -1) S (fun _ => false) := {
  rk := fun j f hj => by
    have : j = 0 := by omega
    subst this
    show f ∈ S ↔ _
    by_cases h : f ∈ S <;> simp [h]
  neg := fun f h => by
    by_cases hf : f ∈ S
    · simp [hf] at h
    · simp [hf]
  top := fun f => by
    by_cases hf : f ∈ S <;> simp [hf]
  nw := fun f => by
    by_cases hf : f ∈ S <;> simp [hf]
  nod := hn
  dn := fun f => by simp }
theorem FrI.zero : FrI U (fun _ => false) (fun _ => false) 0 (frF U) := fun i => by
  rw [frF_mem]
  constructor
  · rintro ⟨u, h1, h2⟩
    exact ⟨u, h1, by rw [h2]; rfl, .inr ⟨rfl, h2⟩⟩
  · rintro ⟨u, h1, h2, h3⟩
    rw [opens_none] at h2
    exact ⟨u, h1, List.eq_nil_of_length_eq_zero h2⟩
theorem FrI.nil (hk : 0 < k) : FrI U done done k [] := fun i => by
  constructor
  · intro h; cases h
  · rintro ⟨u, h1, h2, h3 | h3⟩
    · exact absurd h2 h3
    · omega
/-- A fact more is looked at. -/
theorem FrI.step (h : FrI U d0 d1 k fire) (hf : d1 f = false) (h0 : d0 f = false) (hm : ∀ i, i ∈ fire' ↔ i ∈ fire ∨ (i ∈ nbF U f ∧ ∀ u, U[i]? = some u → opens (updN d1 f true) u.needs = 0)) : FrI U d0 (updN d1 f true) k fire' := fun i => by
  rw [hm, h i, nbF_mem]
  have up : ∀ l : List Nat, opens d1 l = 0 → opens (updN d1 f true) l = 0 := fun l hl => by
    rw [opens_zero] at hl ⊢
    intro n hn
    by_cases e : n = f
    · rw [e]; simp
    · rw [updN_ne e]; exact hl n hn
  constructor
  · rintro (⟨u, h1, h2, h3⟩ | ⟨⟨u, h1, h2⟩, h3⟩)
    · exact ⟨u, h1, up _ h2, h3⟩
    · refine ⟨u, h1, h3 u h1, .inl fun he => ?_⟩
      have := opens_zero.1 he f h2
      rw [h0] at this; cases this
  · rintro ⟨u, h1, h2, h3⟩
    by_cases hfu : f ∈ u.needs
    · exact .inr ⟨⟨u, h1, hfu⟩, fun v hv => by rw [h1] at hv; cases hv; exact h2⟩
    · refine .inl ⟨u, h1, ?_, h3⟩
      rw [opens_zero] at h2 ⊢
      intro n hn
      have e : n ≠ f := fun e => hfu (e ▸ hn)
      have := h2 n hn
      rwa [updN_ne e] at this
theorem P2.init (h : Lv U S k lay now done) : P2 U lay k fire 0 lay [] := {
  old := fun f _ => rfl
  new := fun f hf => .inl ⟨h.neg f hf, by simp⟩
  nw := fun f => by
    have := h.top f
    simp
    omega
  nod := by simp }
theorem P2.hit (h : P2 U lay k fire z lay' now') {i : Nat} (hi : fire[z]? = some i) (hn : lay' (mkU U i) < 0) : P2 U lay k fire (z + 1) (updN lay' (mkU U i) ((k : Int) + 1)) (now' ++ [mkU U i]) := {
  old := fun f hf => by
    have e := h.old f hf
    by_cases e2 : f = mkU U i
    · rw [← e2] at hn; omega
    · rw [updN_ne e2]; exact e
  new := fun f hf => by
    rw [List.take_add_one, hi]
    by_cases e2 : f = mkU U i
    · subst e2
      exact .inr ⟨by simp, i, by simp, rfl⟩
    · rw [updN_ne e2]
      rcases h.new f hf with ⟨h1, h2⟩ | ⟨h1, j, h2, h3⟩
      · refine .inl ⟨h1, fun j hj => ?_⟩
        rcases List.mem_append.1 hj with h4 | h4
        · exact h2 j h4
        · simp at h4; subst h4; exact Ne.symm e2
      · exact .inr ⟨h1, j, List.mem_append.2 (.inl h2), h3⟩
  nw := fun f => by
    by_cases e2 : f = mkU U i
    · subst e2; simp
    · rw [updN_ne e2, ← h.nw f]; simp [e2]
  nod := by
    rw [List.nodup_append]
    refine ⟨h.nod, by simp, fun a ha b hb => ?_⟩
    simp at hb; subst hb
    intro e; subst e
    have := (h.nw _).1 ha
    omega }
theorem Lv.rkd (h : Lv U S k lay now done) (hd : ∀ n, d1 n = true ↔ done n = true ∨ n ∈ now) (n : Nat) : Rk U S k n ↔ d1 n = true := by
  have := h.top n
  rw [h.rk k n (Nat.le_refl _), hd, h.dn, h.nw]
  omega
theorem Lv.next (h : Lv U S k lay now done) (hd : ∀ n, d1 n = true ↔ done n = true ∨ n ∈ now) (hf : FrI U done d1 k fire) (h2 : P2 U lay k fire fire.length lay' now') : Lv U S (k + 1) lay' now' d1 := by
  have hnew := h2.new
  rw [List.take_length] at hnew
  have hnd : ∀ u : Un, (∀ n ∈ u.needs, Rk U S k n) ↔ opens d1 u.needs = 0 := fun u => by
    rw [opens_zero]
    exact forall_congr' fun n => imp_congr_right fun _ => h.rkd hd n
  refine ⟨fun j f hj => ?_, fun f hl => ?_, fun f => ?_, fun f => ?_, h2.nod, fun f => ?_⟩
  · rcases Nat.lt_or_ge j (k + 1) with hlt | hge
    · rw [h.rk j f (by omega)]
      rcases int_lg (lay f) 0 with hn | hn
      · have := hnew f hn
        omega
      · rw [h2.old f hn]
    · have e : j = k + 1 := by omega
      subst e
      rcases int_lg (lay f) 0 with hn | hn
      · constructor
        · rintro (h3 | ⟨u, hu, hmk, h3⟩)
          · have := (h.rk k f (Nat.le_refl _)).1 h3
            omega
          · obtain ⟨i, hi, hiu⟩ := List.getElem_of_mem hu
            have hi2 : U[i]? = some u := by rw [List.getElem?_eq_getElem hi, hiu]
            have hm : mkU U i = f := by unfold mkU; rw [hi2]; exact hmk
            by_cases hif : i ∈ fire
            · rcases hnew f hn with ⟨_, h5⟩ | ⟨h5, _⟩
              · exact absurd hm (h5 i hif)
              · omega
            · exfalso
              have hno : ¬ (opens done u.needs ≠ 0 ∨ (k = 0 ∧ u.needs = [])) := fun hx => hif ((hf i).2 ⟨u, hi2, (hnd u).1 h3, hx⟩)
              have ho : opens done u.needs = 0 := by
                rcases Nat.eq_zero_or_pos (opens done u.needs) with h6 | h6
                · exact h6
                · exact absurd (.inl (by omega)) hno
              rw [opens_zero] at ho
              rcases Nat.eq_zero_or_pos k with hk | hk
              · apply hno
                refine .inr ⟨hk, ?_⟩
                cases hu2 : u.needs with
                | nil => rfl
                | cons x l =>
                  have h6 := (h.dn x).1 (ho x (by simp [hu2]))
                  omega
              · obtain ⟨k', rfl⟩ : ∃ k', k = k' + 1 := ⟨k - 1, by omega⟩
                have h6 : Rk U S (k' + 1) f := .inr ⟨u, hu, hmk, fun n hn2 => by
                  have h7 := (h.dn n).1 (ho n hn2)
                  exact (h.rk k' n (by omega)).2 ⟨h7.1, by omega⟩⟩
                have := (h.rk _ f (Nat.le_refl _)).1 h6
                omega
        · intro h3
          rcases hnew f hn with ⟨h5, _⟩ | ⟨h5, i, hi, hm⟩
          · omega
          · obtain ⟨u, hiu, ho, _⟩ := (hf i).1 hi
            have hm2 : u.makes = f := by rw [← hm]; unfold mkU; rw [hiu]
            exact .inr ⟨u, List.mem_of_getElem? hiu, hm2, (hnd u).2 ho⟩
      · have ht := h.top f
        have e := h2.old f hn
        exact ⟨fun _ => by omega, fun _ => .inl ((h.rk k f (Nat.le_refl _)).2 ⟨hn, ht⟩)⟩
  · rcases int_lg (lay f) 0 with hn | hn
    · have := hnew f hn
      omega
    · have := h2.old f hn
      omega
  · rcases int_lg (lay f) 0 with hn | hn
    · have := hnew f hn
      omega
    · have := h2.old f hn
      have := h.top f
      omega
  · rw [h2.nw]
    simp
  · rw [hd, h.dn, h.nw]
    rcases int_lg (lay f) 0 with hn | hn
    · have := hnew f hn
      omega
    · have := h2.old f hn
      have := h.top f
      omega
theorem Lv.fin (h : Lv U S k lay [] done) (h0 : k = 0 → ∀ u ∈ U, u.needs ≠ []) : IsLev U S lay := by
  have st : ∀ d f, Rk U S (k + d) f → Rk U S k f := by
    intro d
    induction d with
    | zero => exact fun f h => h
    | succ d ih =>
      intro f hr
      rcases hr with hr | ⟨u, hu, hm, hr⟩
      · exact ih f hr
      · have hno : ∀ n, lay n ≠ (k : Int) := fun n e => by
          have := (h.nw n).2 e
          cases this
        rcases Nat.eq_zero_or_pos k with hk | hk
        · have hne := h0 hk u hu
          cases hu2 : u.needs with
          | nil => exact absurd hu2 hne
          | cons x l =>
            have h1 := (h.rk k x (Nat.le_refl _)).1 (ih x (hr x (by simp [hu2])))
            have := hno x
            omega
        · obtain ⟨k', rfl⟩ : ∃ k', k = k' + 1 := ⟨k - 1, by omega⟩
          refine .inr ⟨u, hu, hm, fun n hn => ?_⟩
          have h1 := (h.rk _ n (Nat.le_refl _)).1 (ih n (hr n hn))
          have := hno n
          exact (h.rk k' n (by omega)).2 ⟨h1.1, by omega⟩
  intro f
  rcases int_lg (lay f) 0 with hn | hn
  · refine .inl ⟨h.neg f hn, fun j hr => ?_⟩
    have h1 : Rk U S k f := by
      rcases Nat.le_total j k with h2 | h2
      · exact hr.le h2
      · exact st (j - k) f (by rw [show k + (j - k) = j by omega]; exact hr)
    have := (h.rk k f (Nat.le_refl _)).1 h1
    omega
  · have ht := h.top f
    refine .inr ⟨(lay f).toNat, by omega, (h.rk _ f (by omega)).2 ⟨hn, by omega⟩, fun j hj hr => ?_⟩
    have := (h.rk j f (by omega)).1 hr
    omega
end
end Go.Rx
end
section
set_option maxRecDepth 100000
set_option linter.unusedSimpArgs false
set_option linter.unusedVariables false
namespace Go.Proofs.YtolkjbmcindhjaaGreat
open Go Go.W Go.Tk Go.Rx Go.Maps
/-- A number is appended. -/
theorem nat_append {w w1 : World} {F : List Nat} {B : Asr} {ov : Value} {l : List Nat} {x : Nat} {KV : Kont (Value × World)} (hB : Lcl B) (h : At w F (Star (OwnA ov 3 1 nE l) B) w1) (hl : l.length ≤ 1000000)
    (H : ∀ v' w2, At w F (Star (OwnA v' 3 1 nE (l ++ [x])) B) w2 → KV.run (v', w2)) :
    @efH Tryz.prog (Builtin.append_ #[22, 22] 22 [ov, .slice (some ⟨w1.heap.size, 0, none⟩) 1 1].toArray) (w1.alloc (.cells #[.int .i64 (x : Nat)] 3)) KV := by
  have h4 := h.kp0 (Lcl.own.star hB) ((Kp.refl [] w1).alloc (.cells #[.int .i64 (x : Nat)] 3))
  refine At.append (xs := [x]) hB h4 nE_len nE_one sl_22 rfl (fun j u hj => ?_) (by omega) (by unfold maxLen; omega) fun v' w5 h5 => H v' w5 h5
  simp [nE] at hj
  rw [add_none, cell_blk alloc_new]
  simpa using hj
def lay0 (S : List Nat) : Nat → Int := fun f => if f ∈ S then 0 else -1
section
variable {w : World} {b : Nat} {vars : List Nat} {goal : List Fc} {U : List Un} {vv gv fv uv nd fr : Value} {rs : List Ru} {ps : List (Cell1 × List Nat)}
end
end Go.Proofs.YtolkjbmcindhjaaGreat
end
section
set_option maxRecDepth 100000
set_option linter.unusedSimpArgs false
set_option linter.unusedVariables false
namespace Go.Proofs.YtolkjbmcindhjaaGreat
open Go Go.W Go.Tk Go.Rx Go.Maps
def ntO (T : Nt) : Obj := .cells #[T.vv.1, T.nv.1, T.gv.1, T.ov.1] 26 (0, 0)
def ntV (T : Nt) : Value := .agg #[T.vv.1, T.nv.1, T.gv.1, T.ov.1]
def noV (o : No) : Value := .agg #[.string o.name, .int .i64 (o.cost : Nat), o.pv.1, o.ev.1]
end Go.Proofs.YtolkjbmcindhjaaGreat
end
section
set_option maxRecDepth 100000
set_option linter.unusedSimpArgs false
set_option linter.unusedVariables false
namespace Go.Proofs.YtolkjbmcindhjaaGreat
open Go Go.W Go.Tk Go.Rx Go.Maps
section
variable {α : Type} {enc : α → List Value} {E sz : Nat} {B : Asr} {w w1 : World} {F : List Nat}
theorem RowsA.snoc (q : Cell1 × List α) : ∀ (ps : List (Cell1 × List α)), Imp (Star (OwnA q.1.1 E sz enc q.2) (RowsA E sz enc ps B)) (RowsA E sz enc (ps ++ [q]) B)
  | [] => Imp.rfl
  | p :: ps => Imp.sw.trans (Imp.un (RowsA.snoc q ps))
theorem TabA.vw {v : Value} {E2 : Nat} {ps : List (Cell1 × List α)} {ls : List (List α)} (e : ps.map (·.2) = ls) (h : At w F (Star (TabA v E2 E enc ps) B) w1) : LLV enc w1 v ls :=
  ⟨ps, e, (TabA.own h).vw, fun p hp => by
    obtain ⟨i, hi, rfl⟩ := List.getElem_of_mem hp
    exact (TabA.row h (List.getElem?_eq_getElem hi)).vw⟩
theorem TabA.nil (hB : Lcl B) (h : At w F B w1) : At w F (Star (TabA (.slice none 0 0) 22 3 enc []) B) w1 :=
  (At.nil (E := 22) (sz := 1) (enc := (sv1 : Cell1 × List α → List Value)) hB h).by (TabA.cls (ps := []))
end
/-- The rows of a table. -/
theorem LLV.tb {w : World} {v : Value} {vars : List Nat} {g : Nat → Int} (h : LLV iE w v (tbI vars g)) : ∃ ps : List (Cell1 × List Int), ps.length = vars.length ∧ Vw w v sv1 ps ∧ ∀ (i : Nat) (p : Cell1 × List Int), ps[i]? = some p → Vw w p.1.1 iE (rwI vars g i) := by
  obtain ⟨ps, h1, h2, h3⟩ := h.spread
  refine ⟨ps, by rw [h1]; exact tbK_len _ _ _, h2, fun i p hp => ?_⟩
  obtain ⟨l, h4, h5⟩ := h3 i p hp
  unfold tbI tbK at h4
  rw [List.getElem?_map] at h4
  have hi : i < vars.length := by
    have := (List.getElem?_eq_some_iff.1 hp).1
    rw [h1] at this
    simpa [tbI, tbK] using this
  rw [List.getElem?_range hi] at h4
  have := Option.some.inj h4
  rw [← this] at h5
  exact h5
end Go.Proofs.YtolkjbmcindhjaaGreat
end
section
set_option linter.unusedVariables false
set_option linter.unusedSimpArgs false
namespace Go.Rx
open Go.Tk Go.W Go
structure Rf (A : List Un) (S : List Nat) (V : Nat → Nat) : Prop where
  s0 : ∀ f ∈ S, V f = 0
  der : ∀ f, V f < Inf → Der A S f (V f)
  le : ∀ f, V f ≤ Inf
/-- No operator of a list lowers a value. -/
def Clo (A : List Un) (V : Nat → Nat) : Prop := ∀ u ∈ A, gr V u.needs < Inf → V u.makes ≤ gr V u.needs + u.cost
section
variable {A A' : List Un} {S : List Nat} {V : Nat → Nat} {u : Un} {N f x : Nat}
theorem Rf.init : Rf A S (fun f => if f ∈ S then 0 else Inf) := {
  s0 := fun f hf => by simp [hf]
  der := fun f hf => by
    by_cases h : f ∈ S
    · simp [h]; exact .base h
    · simp [h] at hf
  le := fun f => by
    by_cases h : f ∈ S <;> simp [h] }
theorem Rf.step (h : Rf A S V) (hu : u ∈ A) (hlt : gr V u.needs + u.cost < V u.makes) : Rf A S (updN V u.makes (gr V u.needs + u.cost)) := {
  s0 := fun f hf => by
    by_cases e : f = u.makes
    · have := h.s0 f hf
      rw [e] at this; omega
    · rw [updN_ne e]; exact h.s0 f hf
  der := fun f hf => by
    by_cases e : f = u.makes
    · subst e
      rw [updN_same]
      have hle := h.le u.makes
      exact .step hu V fun n hn => h.der n (by have := gr_mem (V := V) hn; omega)
    · rw [updN_ne e] at hf ⊢; exact h.der f hf
  le := fun f => by
    by_cases e : f = u.makes
    · subst e
      rw [updN_same]
      have := h.le u.makes
      omega
    · rw [updN_ne e]; exact h.le f }
theorem Rf.fin (h : Rf A S V) (hc : Clo A V) : IsVal A S V := ⟨h.s0, hc, h.der, h.le⟩
theorem Clo.nil : Clo [] V := fun u hu => by cases hu
theorem Clo.one (h : gr V u.needs < Inf → V u.makes ≤ gr V u.needs + u.cost) : Clo [u] V := fun v hv => by
  simp at hv; subst hv; exact h
end
theorem unA_at {vars : List Nat} {o : No} {i c k : Nat} {e : Nf} (h : o.effs[k]? = some e) : unA vars o i c k = ⟨i, k, c, numF vars (e.v, e.x), dedup ((o.pre ++ e.cnd).map (numF vars))⟩ := by
  unfold unA; rw [h]
/-- The unary operators of a task come from its operators. -/
theorem uns_mem {t : Nt} {cost : Nat → Nat} {n : Nat} {u : Un} (h : u ∈ unsK t cost n) : ∃ i o k e, i < n ∧ t.ops[i]? = some o ∧ o.effs[k]? = some e ∧ u = ⟨i, k, cost i, numF t.vars (e.v, e.x), dedup ((o.pre ++ e.cnd).map (numF t.vars))⟩ := by
  unfold unsK at h
  obtain ⟨i, hi, h2⟩ := List.mem_flatMap.1 h
  cases ho : t.ops[i]? with
  | none => rw [ho] at h2; cases h2
  | some o =>
    rw [ho] at h2
    unfold opU at h2
    obtain ⟨k, hk, rfl⟩ := List.mem_map.1 h2
    have hk := List.mem_range.1 hk
    exact ⟨i, o, k, _, List.mem_range.1 hi, ho, List.getElem?_eq_getElem hk, unA_at (List.getElem?_eq_getElem hk)⟩
end Go.Rx
end
section
set_option maxRecDepth 100000
set_option linter.unusedSimpArgs false
set_option linter.unusedVariables false
namespace Go.Proofs.YtolkjbmcindhjaaGreat
open Go Go.W Go.Tk Go.Rx Go.Maps
/-- Costs. -/
def cstL (cl : List Nat) (i : Nat) : Nat := cl.getD i 0
end Go.Proofs.YtolkjbmcindhjaaGreat
end
section
set_option maxRecDepth 100000
set_option linter.unusedSimpArgs false
set_option linter.unusedVariables false
namespace Go.Proofs.YtolkjbmcindhjaaGreat
open Go Go.W Go.Tk Go.Rx Go.Maps
def NoS (l : List Un) (V : Nat → Nat) (n : Nat) : Prop := ∀ y ∈ l, isSup V n y = false
theorem NoS.one {u : Un} {V : Nat → Nat} {n : Nat} (h : isSup V n u = false) : NoS [u] V n := fun y hy => by
  simp at hy; subst hy; exact h
end Go.Proofs.YtolkjbmcindhjaaGreat
end
section
set_option linter.unusedVariables false
set_option linter.unusedSimpArgs false
namespace Go.Rx
structure Lw (U : List Un) (S : List Nat) (k : Nat) (lay : Nat → Int) : Prop where
  rk : ∀ j f, j ≤ k → (Rk U S j f ↔ 0 ≤ lay f ∧ lay f ≤ (j : Int))
  neg : ∀ f, lay f < 0 → lay f = -1
  top : ∀ f, lay f ≤ (k : Int)
/-- The facts that come next. -/
def Snd (U : List Un) (lay : Nat → Int) (l : List Nat) : Prop := ∀ g ∈ l, lay g < 0 ∧ ∃ u ∈ U, u.makes = g ∧ ∀ n ∈ u.needs, 0 ≤ lay n
def Ful (A : List Un) (lay : Nat → Int) (l : List Nat) : Prop := ∀ u ∈ A, lay u.makes < 0 → (∀ n ∈ u.needs, 0 ≤ lay n) → u.makes ∈ l
def layN (lay : Nat → Int) (k : Nat) (l : List Nat) : Nat → Int := fun f => if f ∈ l then (k : Int) + 1 else lay f
section
variable {U A A' : List Un} {S l : List Nat} {k N f : Nat} {lay : Nat → Int}
theorem Lw.init : Lw U S 0 (fun f => if f ∈ S then 0 else -1) := {
  rk := fun j f hj => by
    have : j = 0 := by omega
    subst this
    show f ∈ S ↔ _
    by_cases h : f ∈ S <;> simp [h]
  neg := fun f h => by
    by_cases hf : f ∈ S
    · simp [hf] at h
    · simp [hf]
  top := fun f => by
    by_cases hf : f ∈ S <;> simp [hf] }
theorem Lw.next (h : Lw U S k lay) (hs : Snd U lay l) (hf : Ful U lay l) : Lw U S (k + 1) (layN lay k l) := {
  rk := fun j f hj => by
    unfold layN
    by_cases hl : f ∈ l
    · rw [if_pos hl]
      obtain ⟨h1, u, hu, hm, hn⟩ := hs f hl
      rcases Nat.lt_or_ge j (k + 1) with hlt | hge
      · rw [h.rk j f (by omega)]; omega
      · have : j = k + 1 := by omega
        subst this
        exact ⟨fun _ => by omega, fun _ => .inr ⟨u, hu, hm, fun n hn2 => (h.rk k n (Nat.le_refl _)).2 ⟨hn n hn2, h.top n⟩⟩⟩
    · rw [if_neg hl]
      rcases Nat.lt_or_ge j (k + 1) with hlt | hge
      · exact h.rk j f (by omega)
      · have : j = k + 1 := by omega
        subst this
        have ht := h.top f
        constructor
        · rintro (h1 | ⟨u, hu, rfl, hn⟩)
          · have := (h.rk k f (Nat.le_refl _)).1 h1; omega
          · rcases int_lg (lay u.makes) 0 with h2 | h2
            · exact absurd (hf u hu h2 fun n hn2 => ((h.rk k n (Nat.le_refl _)).1 (hn n hn2)).1) hl
            · omega
        · intro h1
          exact .inl ((h.rk k f (Nat.le_refl _)).2 ⟨h1.1, ht⟩)
  neg := fun f hf2 => by
    unfold layN at hf2 ⊢
    by_cases hl : f ∈ l
    · rw [if_pos hl] at hf2; omega
    · rw [if_neg hl] at hf2 ⊢; exact h.neg f hf2
  top := fun f => by
    unfold layN
    by_cases hl : f ∈ l
    · rw [if_pos hl]; omega
    · rw [if_neg hl]; have := h.top f; omega }
theorem Lw.fin (h : Lw U S k lay) (hf : Ful U lay []) : IsLev U S lay := by
  have st : ∀ d f, Rk U S (k + d) f → Rk U S k f := by
    intro d
    induction d with
    | zero => exact fun f h => h
    | succ d ih =>
      intro f hr
      rcases hr with hr | ⟨u, hu, rfl, hr⟩
      · exact ih f hr
      · rcases int_lg (lay u.makes) 0 with h2 | h2
        · have := hf u hu h2 fun n hn => ((h.rk k n (Nat.le_refl _)).1 (ih n (hr n hn))).1
          cases this
        · exact (h.rk k _ (Nat.le_refl _)).2 ⟨h2, h.top _⟩
  intro f
  rcases int_lg (lay f) 0 with hn | hn
  · refine .inl ⟨h.neg f hn, fun j hr => ?_⟩
    have h1 : Rk U S k f := by
      rcases Nat.le_total j k with h2 | h2
      · exact hr.le h2
      · exact st (j - k) f (by rw [show k + (j - k) = j by omega]; exact hr)
    have := (h.rk k f (Nat.le_refl _)).1 h1
    omega
  · have ht := h.top f
    refine .inr ⟨(lay f).toNat, by omega, (h.rk _ f (by omega)).2 ⟨hn, by omega⟩, fun j hj hr => ?_⟩
    have := (h.rk j f (by omega)).1 hr
    omega
theorem Snd.nil : Snd U lay [] := fun g hg => by cases hg
theorem Ful.nil : Ful [] lay l := fun u hu => by cases hu
theorem Ful.more {l' : List Nat} (h : Ful A lay l) : Ful A lay (l ++ l') := fun u hu h1 h2 => List.mem_append.2 (.inl (h u hu h1 h2))
theorem Ful.one {u : Un} (h : lay u.makes < 0 → (∀ n ∈ u.needs, 0 ≤ lay n) → u.makes ∈ l) : Ful [u] lay l := fun v hv => by
  simp at hv; subst hv; exact h
end
end Go.Rx
end
section
set_option maxRecDepth 100000
set_option linter.unusedSimpArgs false
set_option linter.unusedVariables false
namespace Go.Proofs.YtolkjbmcindhjaaGreat
open Go Go.W Go.Tk Go.Rx Go.Maps
def hdB (s : List Nat) (l : List Fc) : Bool := l.all fun f => decide (s.getD f.1 0 = f.2)
theorem hdB_succ {s : List Nat} {l : List Fc} {z : Nat} {f : Fc} (h : l[z]? = some f) : hdB s (l.take (z + 1)) = (hdB s (l.take z) && decide (s.getD f.1 0 = f.2)) := by
  unfold hdB; rw [take_snoc h, List.all_append]; simp
theorem holds_spec {w : World} (fv sv : Value) (l : List Fc) (s : List Nat) (hf : Vw w fv fcE l) (hs : Vw w sv nE s) (hl : l.length ≤ 1000000) (hr : ∀ f ∈ l, f.1 < s.length) :
    Calls Tryz.prog 38 [fv, sv].toArray w fun e w' => ∃ x, e = .returned x ∧ x = .bool (hdB s l) ∧ Kp [] w w' := by
  refine enter Tryz.func38 mixed low38 (Nat.le_of_ble_eq_true rfl) ?_
  simp only [L38]
  simp [hf.len]
  refine range_loop (n := l.length) (by omega) (fun k ρ w' => ρ 1 = sv ∧ ρ 7 = fv ∧ hdB s (l.take k) = true ∧ Kp [] w w') (by simp) (by simp)
    ⟨by simp, by simp, by simp [hdB], Kp.refl _ _⟩ (by decide) (fun _ _ _ _ h => by simpa using h) (fun _ _ _ _ h => by simpa using h) ?_ ?_
  rotate_left
  · rintro ρ w4 ⟨g1, g7, g4, k4⟩
    rw [List.take_length] at g4
    simp [g4]
    exact k4
  rintro k ρ w4 hk hc hlm ⟨g1, g7, g4, k4⟩
  have hf4 := hf.kp0 k4
  obtain ⟨f, hfe⟩ : ∃ f, l[k]? = some f := ⟨_, List.getElem?_eq_getElem hk⟩
  have hfm := List.mem_of_getElem? hfe
  have f1 := hr f hfm
  have ec := hf4.cells fcE_len hfe
  simp only [fcE] at ec
  obtain ⟨fb, hfb⟩ : ∃ fb, fb = w4.heap.size := ⟨_, rfl⟩
  have hki : (k : Int) < l.length := by omega
  simp (disch := omega) [g7, hc, hlm, hf4.idx, ec, ← hfb]
  refine st_fa (f := faN f) .emp (At.start (w := w4) rfl) hfb fun w7 h7 => ?_
  have k7 := k4.trans h7.kp
  have hob := h7.obj
  simp only [faN, faO] at hob
  rw [hfb] at hob
  have hs7 := hs.kp0 k7
  obtain ⟨y, hy⟩ : ∃ y, s[f.1]? = some y := ⟨_, List.getElem?_eq_getElem f1⟩
  have hyd : s.getD f.1 0 = y := by simp [List.getD, hy]
  have n1 : ¬ (f.1 : Int) < 0 := by omega
  have n2 : ¬ ((s.length : Nat) : Int) ≤ (f.1 : Int) := by omega
  have n3 : (f.1 : Int) < s.length := by omega
  have n4 : ¬ s.length ≤ f.1 := by omega
  have hsc := hdB_succ (s := s) hfe
  rw [g4, hyd] at hsc
  by_cases hyx : y = f.2
  · have t : ((y : Int) != (f.2 : Int)) = false := by simp; omega
    simp (disch := omega) [g1, g7, hc, hlm, cell_blk hob, n1, n2, n4, hs7.len, hs7.idx, nE_cell hs7 hy, t]
    refine ⟨?_, k7.drew⟩
    rw [hsc]; simp [hyx]
  · have t : ((y : Int) != (f.2 : Int)) = true := by simp; omega
    have hbad : hdB s l = false := by
      unfold hdB
      rw [List.all_eq_false]
      exact ⟨f, hfm, by simp only [hyd, decide_eq_true_eq]; exact hyx⟩
    simp (disch := omega) [g1, g7, hc, hlm, cell_blk hob, n1, n2, n4, hs7.len, hs7.idx, nE_cell hs7 hy, t, hbad]
    exact k7.drew
/-- The number of a state. -/
def rkK (vars s : List Nat) : Nat → Nat
  | 0 => 0
  | k + 1 => rkK vars s k * vars.getD k 0 + s.getD k 0
theorem rank_spec {w : World} (vv sv : Value) (vars s : List Nat) (hv : Vw w vv nE vars) (hs : Vw w sv nE s) (hl : s.length = vars.length) (hl2 : s.length ≤ 1000) (hb : ∀ k, k ≤ s.length → rkK vars s k ≤ 1000000) :
    Calls Tryz.prog 16 [vv, sv].toArray w fun e w' => ∃ x, e = .returned x ∧ x = .int .i64 (rkK vars s s.length : Nat) ∧ Kp [] w w' := by
  refine enter Tryz.func16 mixed low16 (Nat.le_of_ble_eq_true rfl) ?_
  simp only [L16]
  simp [hs.len]
  refine range_loop (n := s.length) (by omega) (fun k ρ w' => ρ 0 = vv ∧ ρ 1 = sv ∧ ρ 5 = .int .i64 (rkK vars s k : Nat) ∧ Kp [] w w') (by simp) (by simp)
    ⟨by simp, by simp, by simp [rkK], Kp.refl _ _⟩ (by decide) (fun _ _ _ _ h => by simpa using h) (fun _ _ _ _ h => by simpa using h) ?_ ?_
  rotate_left
  · rintro ρ w4 ⟨g0, g1, g5, k4⟩
    simp [g5]
    exact k4
  rintro k ρ w4 hk hc hlm ⟨g0, g1, g5, k4⟩
  have hv4 := hv.kp0 k4
  have hs4 := hs.kp0 k4
  obtain ⟨n, hn⟩ : ∃ n, vars[k]? = some n := ⟨_, List.getElem?_eq_getElem (by omega)⟩
  obtain ⟨y, hy⟩ : ∃ y, s[k]? = some y := ⟨_, List.getElem?_eq_getElem hk⟩
  have hnd : vars.getD k 0 = n := by simp [List.getD, hn]
  have hyd : s.getD k 0 = y := by simp [List.getD, hy]
  have e1 : rkK vars s (k + 1) = rkK vars s k * n + y := by
    show rkK vars s k * vars.getD k 0 + s.getD k 0 = _
    rw [hnd, hyd]
  have hb1 := hb (k + 1) (by omega)
  rw [e1] at hb1
  obtain ⟨m, hm⟩ : ∃ m, m = rkK vars s k * n := ⟨_, rfl⟩
  have em : ((rkK vars s k : Nat) : Int) * (n : Nat) = (m : Int) := by rw [hm]; simp
  have e2 : (m : Int) + (y : Nat) = ((rkK vars s (k + 1) : Nat) : Int) := by rw [e1, ← hm]; simp
  have hki : (k : Int) < vars.length := by omega
  have hks : (k : Int) < s.length := by omega
  obtain ⟨m2, hm2⟩ : ∃ m2, m2 = rkK vars s (k + 1) := ⟨_, rfl⟩
  rw [← hm2] at e2 ⊢
  simp (disch := omega) [g0, g1, g5, hc, hlm, hv4.idx, hs4.idx, nE_cell hv4 hn, nE_cell hs4 hy, em, wrap_i64]
  exact ⟨e2, k4.drew⟩
end Go.Proofs.YtolkjbmcindhjaaGreat
end
section
set_option maxRecDepth 100000
set_option linter.unusedSimpArgs false
set_option linter.unusedVariables false
namespace Go.Proofs.YtolkjbmcindhjaaGreat
open Go Go.W Go.Tk Go.Rx Go.Maps
def extS (n : Nat) (s : List Nat) : List (List Nat) := (List.range n).map fun x => s ++ [x]
/-- All states over the first variables. -/
def stsK (vars : List Nat) : Nat → List (List Nat)
  | 0 => [[]]
  | k + 1 => (stsK vars k).flatMap (extS (vars.getD k 0))
theorem extS_len (n : Nat) (s : List Nat) : (extS n s).length = n := by simp [extS]
set_option maxHeartbeats 1000000 in
theorem states_spec {w : World} (vv : Value) (vars : List Nat) (hv : Vw w vv nE vars) (hl : vars.length ≤ 1000) (hn : ∀ n ∈ vars, n ≤ 1000) (hb : ∀ k, k ≤ vars.length → (stsK vars k).length ≤ 10000) (hsl : ∀ k, k ≤ vars.length → ∀ s ∈ stsK vars k, s.length ≤ 1000) :
    Calls Tryz.prog 12 [vv].toArray w fun e w' => ∃ u, e = .returned u ∧ At w [] (Star (LLA u 22 nE (stsK vars vars.length)) Emp) w' := by
  refine enter Tryz.func12 mixed low12 (Nat.le_of_ble_eq_true rfl) ?_
  simp only [L12]
  have h0 : At w [] Emp w := At.start rfl
  have h1 := h0.lit (xs := ([] : List Nat)) (enc := nE) (E := 3) (sz := 1) (cs := #[]) (m := 0) .emp (by simp) nE_len (by simp [maxLen]) rfl
  obtain ⟨w1, hw1⟩ : ∃ w1, w1 = w.alloc (.cells #[] 3) := ⟨_, rfl⟩
  obtain ⟨r, hr⟩ : ∃ r, r = Value.slice (some ⟨w.heap.size, 0, none⟩) 0 0 := ⟨_, rfl⟩
  rw [← hw1, ← hr] at h1
  have ho := h1.own.o1
  have c1 := h1.own.c1
  have h2 : At w [] (Star (VwsA nE [((⟨r, ho⟩, []) : Cell1 × List Nat)]) Emp) w1 := ((VwsA.nil (Lcl.own.star .emp) h1).by Imp.sw).by (Imp.ow.trans (VwsA.add (ps := []) ho))
  have h3 := h2.lit (xs := [((⟨r, ho⟩, []) : Cell1 × List Nat)]) (enc := sv1) (E := 22) (sz := 1) (cs := #[r]) (m := 1) (Lcl.vws.star .emp) (by simp [sv1]) sv1_len (by simp [maxLen]) rfl
  have h4 : At w [] (Star (LLA (.slice (some ⟨w1.heap.size, 0, none⟩) 1 1) 22 nE (stsK vars 0)) Emp) (w1.alloc (.cells #[r] 22)) := LLA.cls (ps := [((⟨r, ho⟩, []) : Cell1 × List Nat)]) (by simp [stsK]) h3
  have hv4 := hv.kp0 h4.kp
  simp [← hw1, ← hr, c1, rowOf, hv4.len]
  refine range_loop (n := vars.length) (by omega) (fun k ρ w' => ρ 12 = vv ∧ At w [] (Star (LLA (ρ 3) 22 nE (stsK vars k)) Emp) w') (by simp) (by simp)
    ⟨by simp, by simpa using h4⟩ (by decide) (fun _ _ _ _ h => by simpa using h) (fun _ _ _ _ h => by simpa using h) ?_ ?_
  rotate_left
  · rintro ρ w5 ⟨g12, h5⟩
    simp
    exact h5
  clear h1 h2 h3 h4 hv4 c1 hw1
  rintro k ρ w5 hk hck hlk ⟨g12, h5⟩
  have hv5 := hv.kp0 h5.kp
  obtain ⟨n, hne⟩ : ∃ n, vars[k]? = some n := ⟨_, List.getElem?_eq_getElem hk⟩
  have hnb := hn n (List.mem_of_getElem? hne)
  have hnd : vars.getD k 0 = n := by simp [List.getD, hne]
  have hki : (k : Int) < vars.length := by omega
  obtain ⟨ov, hov⟩ : ∃ ov, ov = ρ 3 := ⟨_, rfl⟩
  rw [← hov] at h5
  obtain ⟨ps, hps, h6⟩ := LLA.opn h5
  have hpl : ps.length = (stsK vars k).length := by rw [← hps]; simp
  have hbk := hb k (by omega)
  have hbk1 := hb (k + 1) (by omega)
  have hsk1 : stsK vars (k + 1) = (stsK vars k).flatMap (extS n) := by rw [← hnd]; rfl
  rw [hsk1] at hbk1
  have hX : Lcl (Star (OwnA ov 22 1 sv1 ps) (Star (VwsA nE ps) Emp)) := Lcl.own.star (Lcl.vws.star .emp)
  have h7 : At w [] (Star (LLA (.slice none 0 0) 22 nE (((stsK vars k).take 0).flatMap (extS n))) (Star (OwnA ov 22 1 sv1 ps) (Star (VwsA nE ps) Emp))) w5 := LLA.nil hX h6
  simp (disch := omega) [g12, hck, hlk, hv5.idx, nE_cell hv5 hne, ← hov, h6.own.vw.len]
  refine range_loop (n := ps.length) (by omega) (fun i ρ w' => ρ 12 = vv ∧ ρ 13 = .int .i64 (vars.length : Nat) ∧ ρ 14 = .int .i64 (k : Nat) ∧ ρ 5 = .int .i64 (n : Nat) ∧ ρ 18 = ov ∧ At w [] (Star (LLA (ρ 6) 22 nE (((stsK vars k).take i).flatMap (extS n))) (Star (OwnA ov 22 1 sv1 ps) (Star (VwsA nE ps) Emp))) w') (by simp) (by simp)
    ⟨by simp [g12], by simp [hlk], by simp [hck], by simp, by simp, by simpa using h7⟩ (by decide) (fun _ _ _ _ h => by simpa using h) (fun _ _ _ _ h => by simpa using h) ?_ ?_
  rotate_left
  · clear g12 hck hlk hov
    rintro ρ w6 ⟨g12, g13, g14, g5, g18, h8⟩
    rw [hpl, List.take_length, ← hsk1] at h8
    simp [g12, g13, g14]
    exact h8.by (Imp.un (Imp.dr.trans Imp.dr))
  clear g12 hck hlk hov h5 h6 h7 hv5
  rintro i ρ w6 hi hci hli ⟨g12, g13, g14, g5, g18, h8⟩
  obtain ⟨p, hp⟩ : ∃ p, ps[i]? = some p := ⟨_, List.getElem?_eq_getElem hi⟩
  have hpm := List.mem_of_getElem? hp
  obtain ⟨s, hse⟩ : ∃ s, s = p.2 := ⟨_, rfl⟩
  have hsi : (stsK vars k)[i]? = some s := by rw [← hps, List.getElem?_map, hp, hse]; rfl
  have hsl1 := hsl k (by omega) s (List.mem_of_getElem? hsi)
  have hii : (i : Int) < ps.length := by omega
  have hov := h8.drop.own
  have ep : w6.cell? (ov.adr.add i) = some p.1.1 := by simpa using hov.vw.at_ sv1_len hp (o := 0) (u := p.1.1) rfl
  have hlen : (((stsK vars k).take i).flatMap (extS n)).length + n ≤ 10000 := by
    have e : stsK vars k = (stsK vars k).take i ++ (s :: (stsK vars k).drop (i + 1)) := by
      obtain ⟨hk2, e2⟩ := List.getElem?_eq_some_iff.1 hsi
      rw [← e2, ← List.drop_eq_getElem_cons hk2, List.take_append_drop]
    rw [e, List.flatMap_append, List.flatMap_cons, List.length_append, List.length_append, extS_len] at hbk1
    omega
  have htk : ((stsK vars k).take (i + 1)).flatMap (extS n) = ((stsK vars k).take i).flatMap (extS n) ++ (extS n s).take n := by
    have e : (extS n s).take n = extS n s := List.take_of_length_le (by rw [extS_len]; omega)
    rw [take_snoc hsi, List.flatMap_append, e]
    simp
  simp (disch := omega) [g5, g18, hci, hli, hov.vw.idx, ep]
  refine range_loop (n := n) (by omega) (fun x ρ w' => ρ 12 = vv ∧ ρ 13 = .int .i64 (vars.length : Nat) ∧ ρ 14 = .int .i64 (k : Nat) ∧ ρ 5 = .int .i64 (n : Nat) ∧ ρ 18 = ov ∧ ρ 19 = .int .i64 (ps.length : Nat) ∧ ρ 20 = .int .i64 (i : Nat) ∧ ρ 8 = p.1.1 ∧ At w [] (Star (LLA (ρ 6) 22 nE (((stsK vars k).take i).flatMap (extS n) ++ (extS n s).take x)) (Star (OwnA ov 22 1 sv1 ps) (Star (VwsA nE ps) Emp))) w') (by simp) (by simp)
    ⟨by simp [g12], by simp [g13], by simp [g14], by simp [g5], by simp [g18], by simp [hli], by simp [hci], by simp, by simpa using h8⟩ (by decide) (fun _ _ _ _ h => by simpa using h) (fun _ _ _ _ h => by simpa using h) ?_ ?_
  rotate_left
  · clear g12 g13 g14 g5 g18 hci hli
    rintro ρ w7 ⟨g12, g13, g14, g5, g18, g19, g20, g8, h9⟩
    rw [← htk] at h9
    simp [g12, g13, g14, g5, g18, g19, g20]
    exact h9
  clear g12 g13 g14 g5 g18 hci hli h8 hov ep
  rintro x ρ w7 hx hcx hlx ⟨g12, g13, g14, g5, g18, g19, g20, g8, h9⟩
  have hXL : Lcl (Star (LLA (ρ 6) 22 nE (((stsK vars k).take i).flatMap (extS n) ++ (extS n s).take x)) (Star (OwnA ov 22 1 sv1 ps) (Star (VwsA nE ps) Emp))) := Lcl.ll.star hX
  have h10 := h9.lit (xs := ([] : List Nat)) (enc := nE) (E := 3) (sz := 1) (cs := #[]) (m := 0) hXL (by simp) nE_len (by simp [maxLen]) rfl
  have hrow : Vw (w7.alloc (.cells #[] 3)) p.1.1 nE s := by rw [hse]; exact h10.drop.drop.drop.vws hpm
  simp [hcx, g8, rowOf]
  refine At.appendV (xs := s) hXL h10 hrow nE_len nE_one sl_22 (by simp; omega) (by simp; unfold maxLen; omega) fun v1 w8 h11 => ?_
  simp
  refine nat_append hXL h11 (by simp; omega) fun v2 w9 h12 => ?_
  have c12 := h12.own.c1
  simp [c12]
  have hlen2 : (((stsK vars k).take i).flatMap (extS n) ++ (extS n s).take x).length ≤ 100000 := by
    rw [List.length_append, List.length_take, extS_len]; omega
  refine li_append hX h12 hlen2 fun v3 w10 h13 => ?_
  have ext : (extS n s)[x]? = some (s ++ [x]) := by unfold extS; rw [List.getElem?_map, List.getElem?_range hx]; rfl
  simp [g12, g13, g14, g5, g18, g19, g20, hcx, hlx]
  rw [take_snoc ext, ← List.append_assoc]
  exact ⟨g8, by simpa using h13⟩
end Go.Proofs.YtolkjbmcindhjaaGreat
end
section
set_option maxRecDepth 100000
set_option linter.unusedSimpArgs false
set_option linter.unusedVariables false
namespace Go.Proofs.YtolkjbmcindhjaaGreat
open Go Go.W Go.Tk Go.Rx Go.Maps
def apK (o : No) (s : List Nat) (k : Nat) : List Nat := (o.effs.take k).foldl (fun t e => if hdB s e.cnd then t.set e.v e.x else t) s
/-- The state behind an operator. -/
def apS (o : No) (s : List Nat) : List Nat := apK o s o.effs.length
theorem apK_succ {o : No} {s : List Nat} {k : Nat} {e : Nf} (h : o.effs[k]? = some e) : apK o s (k + 1) = if hdB s e.cnd then (apK o s k).set e.v e.x else apK o s k := by
  unfold apK; rw [take_snoc h, List.foldl_append]; rfl
theorem apK_len (o : No) (s : List Nat) : ∀ k, (apK o s k).length = s.length
  | 0 => by simp [apK]
  | k + 1 => by
    cases h : o.effs[k]? with
    | none =>
      have := List.getElem?_eq_none_iff.1 h
      have h2 := apK_len o s k
      unfold apK at h2 ⊢
      rw [List.take_of_length_le (by omega)] at h2 ⊢
      exact h2
    | some e =>
      rw [apK_succ h]
      have := apK_len o s k
      split
      · rw [List.length_set]; exact this
      · exact this
def apV (T : Nt) (o : No) (s : List Nat) (w : World) (x : Value) (w' : World) : Prop :=
  if hdB s o.pre = true then ∃ u, x = .tuple #[u, .bool true] ∧ Nw w w' u 3 1 nE (apS o s) else x = .tuple #[.slice none 0 0, .bool false] ∧ Kp [] w w'
set_option maxHeartbeats 1000000 in
theorem apply_spec {w : World} (T : Nt) (sv : Value) (s : List Nat) (i : Nat) (o : No) (hr : NtR w T) (hg : NtG T) (ho : T.ops[i]? = some o) (hs : Vw w sv nE s) (hst : StN T.vars s) :
    Calls Tryz.prog 37 [ntV T, sv, .int .i64 (i : Nat)].toArray w fun e w' => ∃ x, e = .returned x ∧ apV T o s w x w' := by
  refine enter Tryz.func37 mixed low37 (Nat.le_of_ble_eq_true rfl) ?_
  simp only [L37]
  have hlen := hst.len
  have hvl := hg.vlen
  have hol := hg.olen
  have hom := List.mem_of_getElem? ho
  have hgo := hg.ops o hom
  have hi : i < T.ops.length := (List.getElem?_eq_some_iff.1 ho).1
  have hii : (i : Int) < T.ops.length := by omega
  obtain ⟨b, hb⟩ : ∃ b, b = w.heap.size := ⟨_, rfl⟩
  have h1 : At w [] (Star (ObjA b (ntO T)) Emp) (w.alloc (ntO T)) := by rw [hb]; exact (At.start rfl).alloc _ .emp
  obtain ⟨w1, hw1⟩ : ∃ w1, w1 = w.alloc (ntO T) := ⟨_, rfl⟩
  rw [← hw1] at h1
  have hw1' : w.alloc (.cells #[T.vv.1, T.nv.1, T.gv.1, T.ov.1] 26 (0, 0)) = w1 := by rw [hw1]; rfl
  have hr1 := hr.kp h1.kp
  have hob := h1.obj
  unfold ntO at hob
  have c2 := hr1.ops.fld noE_len ho (o := 2) (u := o.pv.1) rfl
  have n1 : ¬ (i : Int) < 0 := by omega
  have n2 : ¬ T.ops.length ≤ i := by omega
  simp (disch := omega) [ntV, ← hb, hw1', cell_blk hob, n1, n2, hr1.ops.len, hr1.ops.idx, c2]
  have hgp := hgo.pre
  have hpl := hgp.len
  refine cl_of (holds_spec o.pv.1 sv o.pre s (hr1.op o hom).pre (hs.kp0 h1.kp) (by omega) (fun f hf => by rw [hlen]; exact (hgp.rng f hf).1)) ?_
  rintro _ w2 ⟨rfl, k2⟩
  have h2 := h1.kp0 (Lcl.obj.star .emp) k2
  cases hp : hdB s o.pre with
  | false =>
    simp
    unfold apV
    rw [if_neg (by rw [hp]; simp)]
    exact ⟨rfl, h2.kp⟩
  | true =>
    simp [rowOf]
    have h3 := h2.lit (xs := ([] : List Nat)) (enc := nE) (E := 3) (sz := 1) (cs := #[]) (m := 0) (Lcl.obj.star .emp) (by simp) nE_len (by simp [maxLen]) rfl
    refine At.appendV (xs := s) (Lcl.obj.star .emp) h3 (hs.kp0 h3.kp) nE_len nE_one sl_22 (by simp; omega) (by simp; unfold maxLen; omega) fun ov w4 h4 => ?_
    have hob4 := h4.drop.obj
    unfold ntO at hob4
    have hr4 := hr.kp h4.kp
    have c3 := hr4.ops.fld noE_len ho (o := 3) (u := o.ev.1) rfl
    have hro4 := hr4.op o hom
    have helen := hgo.elen
    have h4 : At w [] (Star (OwnA ov 3 1 nE (apK o s 0)) (Star (ObjA b (ntO T)) Emp)) w4 := by simpa [apK] using h4
    simp (disch := omega) [← hb, cell_blk hob4, hr4.ops.idx, c3, hro4.effs.len]
    refine range_loop (n := o.effs.length) (by omega) (fun k ρ w' => ρ 1 = sv ∧ ρ 8 = ov ∧ ρ 39 = o.ev.1 ∧ At w [] (Star (OwnA ov 3 1 nE (apK o s k)) (Star (ObjA b (ntO T)) Emp)) w') (by simp) (by simp)
      ⟨by simp, by simp, by simp, h4⟩ (by decide) (fun _ _ _ _ h => by simpa using h) (fun _ _ _ _ h => by simpa using h) ?_ ?_
    rotate_left
    · rintro ρ w5 ⟨g1, g8, g39, h5⟩
      simp [g8]
      unfold apV
      rw [if_pos hp]
      exact ⟨_, rfl, Nw.of h5⟩
    clear h3 h4 hob4 hr4 c3 hro4
    rintro k ρ w5 hk hck hlk ⟨g1, g8, g39, h5⟩
    have hro5 := (hr.kp h5.kp).op o hom
    obtain ⟨e, he⟩ : ∃ e, o.effs[k]? = some e := ⟨_, List.getElem?_eq_getElem hk⟩
    have hem := List.mem_of_getElem? he
    have ece := hro5.effs.cells nfE_len he
    simp only [nfE] at ece
    have hki : (k : Int) < o.effs.length := by omega
    obtain ⟨fb, hfb⟩ : ∃ fb, fb = w5.heap.size := ⟨_, rfl⟩
    have hL : ∀ l, Lcl (Star (OwnA ov 3 1 nE l) (Star (ObjA b (ntO T)) Emp)) := fun _ => Lcl.own.star (Lcl.obj.star .emp)
    simp (disch := omega) [g39, hck, hlk, hro5.effs.idx, ece, ← hfb]
    refine st_ef (e := e.raw) (hL _) h5 hfb fun w6 h6 => ?_
    have oe6 := h6.obj
    unfold efO Nf.raw at oe6
    rw [hfb] at oe6
    have hgc := hgo.cnd e hem
    have hcl := hgc.len
    obtain ⟨f1, f2⟩ := hgo.eff e hem
    simp (disch := omega) [cell_blk oe6, g1]
    refine cl_of (holds_spec e.wv.1 sv e.cnd s (((hr.kp h6.kp).op o hom).cnd e hem) (hs.kp0 h6.kp) (by omega) (fun f hf => by rw [hlen]; exact (hgc.rng f hf).1)) ?_
    rintro _ w7 ⟨rfl, k7⟩
    have h7 := h6.kp0 (Lcl.obj.star (hL _)) k7
    have hsuc := apK_succ (s := s) he
    cases hh : hdB s e.cnd with
    | false =>
      rw [hh] at hsuc
      simp [g1, g8, g39, hck, hlk]
      rw [hsuc]
      exact h7.drop
    | true =>
      rw [hh] at hsuc
      have oe7 := h7.obj
      unfold efO Nf.raw at oe7
      rw [hfb] at oe7
      have h8 := h7.drop
      have hO := h8.own
      have hal := apK_len o s k
      have hvi : (e.v : Int) < (apK o s k).length := by omega
      simp (disch := omega) [g8, cell_blk oe7, hO.idx]
      refine h8.store1 (Lcl.obj.star .emp) nE_len nE_one (k := e.v) (by omega) (x := e.x) rfl fun w9 h9 => ?_
      simp [g1, g8, g39, hck, hlk]
      rw [hsuc]
      exact h9
end Go.Proofs.YtolkjbmcindhjaaGreat
end
section
set_option maxRecDepth 100000
set_option linter.unusedSimpArgs false
set_option linter.unusedVariables false
namespace Go.Proofs.YtolkjbmcindhjaaGreat
open Go Go.W Go.Tk Go.Rx Go.Maps
theorem sts_ok {vars : List Nat} : ∀ k, k ≤ vars.length → ∀ s ∈ stsK vars k, s.length = k ∧ ∀ v, v < k → s.getD v 0 < vars.getD v 0
  | 0, _, s, hs => by
    simp [stsK] at hs; subst hs
    exact ⟨rfl, fun v hv => by omega⟩
  | k + 1, hk, s, hs => by
    unfold stsK at hs
    obtain ⟨t, ht, h2⟩ := List.mem_flatMap.1 hs
    unfold extS at h2
    obtain ⟨x, hx, rfl⟩ := List.mem_map.1 h2
    obtain ⟨e, hv⟩ := sts_ok k (by omega) t ht
    refine ⟨by simp [e], fun v hvk => ?_⟩
    by_cases h3 : v < k
    · have := hv v h3
      simpa [List.getD, List.getElem?_append_left (show v < t.length by omega)] using this
    · have : v = k := by omega
      subst this
      simpa [List.getD, ← e] using List.mem_range.1 hx
theorem sts_st {vars : List Nat} {s : List Nat} (h : s ∈ stsK vars vars.length) : StN vars s := by
  obtain ⟨h1, h2⟩ := sts_ok _ (Nat.le_refl _) s h
  exact ⟨h1, h2⟩
end Go.Proofs.YtolkjbmcindhjaaGreat
end
section
set_option maxRecDepth 100000
set_option linter.unusedSimpArgs false
set_option linter.unusedVariables false
namespace Go.Proofs.YtolkjbmcindhjaaGreat
open Go Go.W Go.Tk Go.Rx Go.Maps
/-- The costs that are given, and those that hold. -/
structure PrI (T : Nt) (gl rl : List Nat) : Prop where
  rlen : rl.length = T.ops.length
  rb : ∀ c ∈ rl, c ≤ 1048576
  gb : ∀ c ∈ gl, c ≤ 1048576
  glen : gl.length = 0 ∨ gl.length = T.ops.length
  eq : ∀ i, i < T.ops.length → cst T (gl.map iN) i = cstL rl i
end Go.Proofs.YtolkjbmcindhjaaGreat
end
section
set_option maxRecDepth 100000
set_option linter.unusedSimpArgs false
set_option linter.unusedVariables false
namespace Go.Proofs.YtolkjbmcindhjaaGreat
open Go Go.W Go.Tk Go.Rx Go.Maps
/-- The operators of the example. -/
def IsC (i : Nat) (o : No) : Prop := o.name = ByteArray.empty ∧ o.cost = 2 ∧ o.pre = [(0, i)] ∧ ∃ e : Nf, o.effs = [e] ∧ e.cnd = [] ∧ e.v = 0 ∧ e.x = i + 1 ∧ e.wv.1 = .slice none 0 0
def ChF (vv nv gv : Value) (os : List No) : Asr := Star (VwsA fcE (os.map fun o => (o.pv, o.pre))) (Star (VwsA nfE (os.map fun o => (o.ev, o.effs))) (Star (VwA vv nE [4]) (Star (VwA nv nE [0]) (Star (VwA gv fcE [(0, 3)]) Emp))))
theorem ChF.lcl {vv nv gv : Value} {os : List No} : Lcl (ChF vv nv gv os) := Lcl.vws.star (Lcl.vws.star (Lcl.vw.star (Lcl.vw.star (Lcl.vw.star .emp))))
end Go.Proofs.YtolkjbmcindhjaaGreat
end
