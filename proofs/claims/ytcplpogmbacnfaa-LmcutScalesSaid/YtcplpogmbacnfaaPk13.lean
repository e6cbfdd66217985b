/-
  A part of the proof of this claim's statement (RxFx, RxXD, RxXE, RxLw, RxXG, RxXH, RxXJ, RxXK, RxXL, RxYA, RxYB, RxYC, RxYF, RxYG, RxYL, RxYM, LmPlain): plain theorems; no conditions beyond those each names.
-/
import Derived.Test.YtcplpogmbacnfaaPk11
import Derived.Test.YtcplpogmbacnfaaPk12
section
set_option linter.unusedVariables false
set_option linter.unusedSimpArgs false
namespace Go.Rx
open Go.Tk Go.W Go
structure Rf (A : List Un) (S : List Nat) (V : Nat → Nat) : Prop where
  s0 : ∀ f ∈ S, V f = 0
  der : ∀ f, V f < Inf → Der A S f (V f)
  le : ∀ f, V f ≤ Inf
def sumV (N : Nat) (V : Nat → Nat) : Nat := ((List.range N).map V).sum
/-- No operator of a list lowers a value. -/
def Clo (A : List Un) (V : Nat → Nat) : Prop := ∀ u ∈ A, gr V u.needs < Inf → V u.makes ≤ gr V u.needs + u.cost
section
variable {A A' : List Un} {S : List Nat} {V : Nat → Nat} {u : Un} {N f x : Nat}
theorem sumV_succ : sumV (N + 1) V = sumV N V + V N := by
  unfold sumV; rw [List.range_succ, List.map_append, List.sum_append]; simp
theorem sumV_congr {V' : Nat → Nat} (h : ∀ i, i < N → V i = V' i) : sumV N V = sumV N V' := by
  unfold sumV
  rw [List.map_congr_left fun i hi => h i (List.mem_range.1 hi)]
theorem sumV_upd (hf : f < N) (hx : x < V f) : sumV N (updN V f x) < sumV N V := by
  induction N with
  | zero => omega
  | succ N ih =>
    rw [sumV_succ, sumV_succ]
    by_cases e : f = N
    · subst e
      rw [updN_same, sumV_congr (V' := V) fun i hi => updN_ne (by omega)]
      omega
    · have := ih (by omega)
      rw [updN_ne (fun h => e h.symm)]
      omega
theorem Rf.init : Rf A S (fun f => if f ∈ S then 0 else Inf) := {
  s0 := fun f hf => by simp [hf]
  der := fun f hf => by
    by_cases h : f ∈ S
    · simp [h]; exact .base h
    · simp [h] at hf
  le := fun f => by
    by_cases h : f ∈ S <;> simp [h] }
theorem Rf.step (h : Rf A S V) (hu : u ∈ A) (hlt : gr V u.needs + u.cost < V u.makes) : Rf A S (updN V u.makes (gr V u.needs + u.cost)) := {
  s0 := fun f hf => by
    by_cases e : f = u.makes
    · have := h.s0 f hf
      rw [e] at this; omega
    · rw [updN_ne e]; exact h.s0 f hf
  der := fun f hf => by
    by_cases e : f = u.makes
    · subst e
      rw [updN_same]
      have hle := h.le u.makes
      exact .step hu V fun n hn => h.der n (by have := gr_mem (V := V) hn; omega)
    · rw [updN_ne e] at hf ⊢; exact h.der f hf
  le := fun f => by
    by_cases e : f = u.makes
    · subst e
      rw [updN_same]
      have := h.le u.makes
      omega
    · rw [updN_ne e]; exact h.le f }
theorem Rf.fin (h : Rf A S V) (hc : Clo A V) : IsVal A S V := ⟨h.s0, hc, h.der, h.le⟩
theorem Clo.nil : Clo [] V := fun u hu => by cases hu
theorem Clo.app (h : Clo A V) (h' : Clo A' V) : Clo (A ++ A') V := fun u hu => by
  rcases List.mem_append.1 hu with h1 | h1
  · exact h u h1
  · exact h' u h1
theorem Clo.one (h : gr V u.needs < Inf → V u.makes ≤ gr V u.needs + u.cost) : Clo [u] V := fun v hv => by
  simp at hv; subst hv; exact h
end
theorem unA_at {vars : List Nat} {o : No} {i c k : Nat} {e : Nf} (h : o.effs[k]? = some e) : unA vars o i c k = ⟨i, k, c, numF vars (e.v, e.x), dedup ((o.pre ++ e.cnd).map (numF vars))⟩ := by
  unfold unA; rw [h]
/-- The unary operators of a task come from its operators. -/
theorem uns_mem {t : Nt} {cost : Nat → Nat} {n : Nat} {u : Un} (h : u ∈ unsK t cost n) : ∃ i o k e, i < n ∧ t.ops[i]? = some o ∧ o.effs[k]? = some e ∧ u = ⟨i, k, cost i, numF t.vars (e.v, e.x), dedup ((o.pre ++ e.cnd).map (numF t.vars))⟩ := by
  unfold unsK at h
  obtain ⟨i, hi, h2⟩ := List.mem_flatMap.1 h
  cases ho : t.ops[i]? with
  | none => rw [ho] at h2; cases h2
  | some o =>
    rw [ho] at h2
    unfold opU at h2
    obtain ⟨k, hk, rfl⟩ := List.mem_map.1 h2
    have hk := List.mem_range.1 hk
    exact ⟨i, o, k, _, List.mem_range.1 hi, ho, List.getElem?_eq_getElem hk, unA_at (List.getElem?_eq_getElem hk)⟩
end Go.Rx
end
section
set_option maxRecDepth 100000
set_option linter.unusedSimpArgs false
set_option linter.unusedVariables false
namespace Go.Proofs.Ytcplpogmbacnfaa
open Go Go.W Go.Tk Go.Rx Go.Maps
/-- Costs. -/
def cstL (cl : List Nat) (i : Nat) : Nat := cl.getD i 0
end Go.Proofs.Ytcplpogmbacnfaa
end
section
set_option maxRecDepth 100000
set_option linter.unusedSimpArgs false
set_option linter.unusedVariables false
namespace Go.Proofs.Ytcplpogmbacnfaa
open Go Go.W Go.Tk Go.Rx Go.Maps
def NoS (l : List Un) (V : Nat → Nat) (n : Nat) : Prop := ∀ y ∈ l, isSup V n y = false
theorem NoS.app {a b : List Un} {V : Nat → Nat} {n : Nat} (h1 : NoS a V n) (h2 : NoS b V n) : NoS (a ++ b) V n := fun y hy => by
  rcases List.mem_append.1 hy with h | h
  · exact h1 y h
  · exact h2 y h
theorem NoS.one {u : Un} {V : Nat → Nat} {n : Nat} (h : isSup V n u = false) : NoS [u] V n := fun y hy => by
  simp at hy; subst hy; exact h
end Go.Proofs.Ytcplpogmbacnfaa
end
section
set_option linter.unusedVariables false
set_option linter.unusedSimpArgs false
namespace Go.Rx
structure Lw (U : List Un) (S : List Nat) (k : Nat) (lay : Nat → Int) : Prop where
  rk : ∀ j f, j ≤ k → (Rk U S j f ↔ 0 ≤ lay f ∧ lay f ≤ (j : Int))
  neg : ∀ f, lay f < 0 → lay f = -1
  top : ∀ f, lay f ≤ (k : Int)
/-- The facts that come next. -/
def Snd (U : List Un) (lay : Nat → Int) (l : List Nat) : Prop := ∀ g ∈ l, lay g < 0 ∧ ∃ u ∈ U, u.makes = g ∧ ∀ n ∈ u.needs, 0 ≤ lay n
def Ful (A : List Un) (lay : Nat → Int) (l : List Nat) : Prop := ∀ u ∈ A, lay u.makes < 0 → (∀ n ∈ u.needs, 0 ≤ lay n) → u.makes ∈ l
def layN (lay : Nat → Int) (k : Nat) (l : List Nat) : Nat → Int := fun f => if f ∈ l then (k : Int) + 1 else lay f
section
variable {U A A' : List Un} {S l : List Nat} {k N f : Nat} {lay : Nat → Int}
theorem Lw.init : Lw U S 0 (fun f => if f ∈ S then 0 else -1) := {
  rk := fun j f hj => by
    have : j = 0 := by omega
    subst this
    show f ∈ S ↔ _
    by_cases h : f ∈ S <;> simp [h]
  neg := fun f h => by
    by_cases hf : f ∈ S
    · simp [hf] at h
    · simp [hf]
  top := fun f => by
    by_cases hf : f ∈ S <;> simp [hf] }
theorem Lw.next (h : Lw U S k lay) (hs : Snd U lay l) (hf : Ful U lay l) : Lw U S (k + 1) (layN lay k l) := {
  rk := fun j f hj => by
    unfold layN
    by_cases hl : f ∈ l
    · rw [if_pos hl]
      obtain ⟨h1, u, hu, hm, hn⟩ := hs f hl
      rcases Nat.lt_or_ge j (k + 1) with hlt | hge
      · rw [h.rk j f (by omega)]; omega
      · have : j = k + 1 := by omega
        subst this
        exact ⟨fun _ => by omega, fun _ => .inr ⟨u, hu, hm, fun n hn2 => (h.rk k n (Nat.le_refl _)).2 ⟨hn n hn2, h.top n⟩⟩⟩
    · rw [if_neg hl]
      rcases Nat.lt_or_ge j (k + 1) with hlt | hge
      · exact h.rk j f (by omega)
      · have : j = k + 1 := by omega
        subst this
        have ht := h.top f
        constructor
        · rintro (h1 | ⟨u, hu, rfl, hn⟩)
          · have := (h.rk k f (Nat.le_refl _)).1 h1; omega
          · rcases int_lg (lay u.makes) 0 with h2 | h2
            · exact absurd (hf u hu h2 fun n hn2 => ((h.rk k n (Nat.le_refl _)).1 (hn n hn2)).1) hl
            · omega
        · intro h1
          exact .inl ((h.rk k f (Nat.le_refl _)).2 ⟨h1.1, ht⟩)
  neg := fun f hf2 => by
    unfold layN at hf2 ⊢
    by_cases hl : f ∈ l
    · rw [if_pos hl] at hf2; omega
    · rw [if_neg hl] at hf2 ⊢; exact h.neg f hf2
  top := fun f => by
    unfold layN
    by_cases hl : f ∈ l
    · rw [if_pos hl]; omega
    · rw [if_neg hl]; have := h.top f; omega }
theorem Lw.fin (h : Lw U S k lay) (hf : Ful U lay []) : IsLev U S lay := by
  have st : ∀ d f, Rk U S (k + d) f → Rk U S k f := by
    intro d
    induction d with
    | zero => exact fun f h => h
    | succ d ih =>
      intro f hr
      rcases hr with hr | ⟨u, hu, rfl, hr⟩
      · exact ih f hr
      · rcases int_lg (lay u.makes) 0 with h2 | h2
        · have := hf u hu h2 fun n hn => ((h.rk k n (Nat.le_refl _)).1 (ih n (hr n hn))).1
          cases this
        · exact (h.rk k _ (Nat.le_refl _)).2 ⟨h2, h.top _⟩
  intro f
  rcases int_lg (lay f) 0 with hn | hn
  · refine .inl ⟨h.neg f hn, fun j hr => ?_⟩
    have h1 : Rk U S k f := by
      rcases Nat.le_total j k with h2 | h2
      · exact hr.le h2
      · exact st (j - k) f (by rw [show k + (j - k) = j by omega]; exact hr)
    have := (h.rk k f (Nat.le_refl _)).1 h1
    omega
  · have ht := h.top f
    refine .inr ⟨(lay f).toNat, by omega, (h.rk _ f (by omega)).2 ⟨hn, by omega⟩, fun j hj hr => ?_⟩
    have := (h.rk j f (by omega)).1 hr
    omega
theorem Snd.nil : Snd U lay [] := fun g hg => by cases hg
theorem Ful.nil : Ful [] lay l := fun u hu => by cases hu
theorem Ful.more {l' : List Nat} (h : Ful A lay l) : Ful A lay (l ++ l') := fun u hu h1 h2 => List.mem_append.2 (.inl (h u hu h1 h2))
theorem Ful.app (h : Ful A lay l) (h' : Ful A' lay l) : Ful (A ++ A') lay l := fun u hu => by
  rcases List.mem_append.1 hu with h1 | h1
  · exact h u h1
  · exact h' u h1
theorem Ful.one {u : Un} (h : lay u.makes < 0 → (∀ n ∈ u.needs, 0 ≤ lay n) → u.makes ∈ l) : Ful [u] lay l := fun v hv => by
  simp at hv; subst hv; exact h
end
end Go.Rx
end
section
set_option maxRecDepth 100000
set_option linter.unusedSimpArgs false
set_option linter.unusedVariables false
namespace Go.Proofs.Ytcplpogmbacnfaa
open Go Go.W Go.Tk Go.Rx Go.Maps
def hdB (s : List Nat) (l : List Fc) : Bool := l.all fun f => decide (s.getD f.1 0 = f.2)
end Go.Proofs.Ytcplpogmbacnfaa
end
section
set_option maxRecDepth 100000
set_option linter.unusedSimpArgs false
set_option linter.unusedVariables false
namespace Go.Proofs.Ytcplpogmbacnfaa
open Go Go.W Go.Tk Go.Rx Go.Maps
def extS (n : Nat) (s : List Nat) : List (List Nat) := (List.range n).map fun x => s ++ [x]
/-- All states over the first variables. -/
def stsK (vars : List Nat) : Nat → List (List Nat)
  | 0 => [[]]
  | k + 1 => (stsK vars k).flatMap (extS (vars.getD k 0))
theorem extS_len (n : Nat) (s : List Nat) : (extS n s).length = n := by simp [extS]
set_option maxHeartbeats 1000000 in
theorem states_spec {w : World} (vv : Value) (vars : List Nat) (hv : Vw w vv nE vars) (hl : vars.length ≤ 1000) (hn : ∀ n ∈ vars, n ≤ 1000) (hb : ∀ k, k ≤ vars.length → (stsK vars k).length ≤ 10000) (hsl : ∀ k, k ≤ vars.length → ∀ s ∈ stsK vars k, s.length ≤ 1000) :
    Calls Try.prog 35 [vv].toArray w fun e w' => ∃ u, e = .returned u ∧ At w [] (Star (LLA u 22 nE (stsK vars vars.length)) Emp) w' := by
  refine enter Try.func35 mixed low35 (Nat.le_of_ble_eq_true rfl) ?_
  simp only [L35]
  have h0 : At w [] Emp w := At.start rfl
  have h1 := h0.lit (xs := ([] : List Nat)) (enc := nE) (E := 3) (sz := 1) (cs := #[]) (m := 0) .emp (by simp) nE_len (by simp [maxLen]) rfl
  obtain ⟨w1, hw1⟩ : ∃ w1, w1 = w.alloc (.cells #[] 3) := ⟨_, rfl⟩
  obtain ⟨r, hr⟩ : ∃ r, r = Value.slice (some ⟨w.heap.size, 0, none⟩) 0 0 := ⟨_, rfl⟩
  rw [← hw1, ← hr] at h1
  have ho := h1.own.o1
  have c1 := h1.own.c1
  have h2 : At w [] (Star (VwsA nE [((⟨r, ho⟩, []) : Cell1 × List Nat)]) Emp) w1 := ((VwsA.nil (Lcl.own.star .emp) h1).by Imp.sw).by (Imp.ow.trans (VwsA.add (ps := []) ho))
  have h3 := h2.lit (xs := [((⟨r, ho⟩, []) : Cell1 × List Nat)]) (enc := sv1) (E := 22) (sz := 1) (cs := #[r]) (m := 1) (Lcl.vws.star .emp) (by simp [sv1]) sv1_len (by simp [maxLen]) rfl
  have h4 : At w [] (Star (LLA (.slice (some ⟨w1.heap.size, 0, none⟩) 1 1) 22 nE (stsK vars 0)) Emp) (w1.alloc (.cells #[r] 22)) := LLA.cls (ps := [((⟨r, ho⟩, []) : Cell1 × List Nat)]) (by simp [stsK]) h3
  have hv4 := hv.kp0 h4.kp
  simp [← hw1, ← hr, c1, rowOf, hv4.len]
  refine range_loop (n := vars.length) (by omega) (fun k ρ w' => ρ 12 = vv ∧ At w [] (Star (LLA (ρ 3) 22 nE (stsK vars k)) Emp) w') (by simp) (by simp)
    ⟨by simp, by simpa using h4⟩ (by decide) (fun _ _ _ _ h => by simpa using h) (fun _ _ _ _ h => by simpa using h) ?_ ?_
  rotate_left
  · rintro ρ w5 ⟨g12, h5⟩
    simp
    exact h5
  clear h1 h2 h3 h4 hv4 c1 hw1
  rintro k ρ w5 hk hck hlk ⟨g12, h5⟩
  have hv5 := hv.kp0 h5.kp
  obtain ⟨n, hne⟩ : ∃ n, vars[k]? = some n := ⟨_, List.getElem?_eq_getElem hk⟩
  have hnb := hn n (List.mem_of_getElem? hne)
  have hnd : vars.getD k 0 = n := by simp [List.getD, hne]
  have hki : (k : Int) < vars.length := by omega
  obtain ⟨ov, hov⟩ : ∃ ov, ov = ρ 3 := ⟨_, rfl⟩
  rw [← hov] at h5
  obtain ⟨ps, hps, h6⟩ := LLA.opn h5
  have hpl : ps.length = (stsK vars k).length := by rw [← hps]; simp
  have hbk := hb k (by omega)
  have hbk1 := hb (k + 1) (by omega)
  have hsk1 : stsK vars (k + 1) = (stsK vars k).flatMap (extS n) := by rw [← hnd]; rfl
  rw [hsk1] at hbk1
  have hX : Lcl (Star (OwnA ov 22 1 sv1 ps) (Star (VwsA nE ps) Emp)) := Lcl.own.star (Lcl.vws.star .emp)
  have h7 : At w [] (Star (LLA (.slice none 0 0) 22 nE (((stsK vars k).take 0).flatMap (extS n))) (Star (OwnA ov 22 1 sv1 ps) (Star (VwsA nE ps) Emp))) w5 := LLA.nil hX h6
  simp (disch := omega) [g12, hck, hlk, hv5.idx, nE_cell hv5 hne, ← hov, h6.own.vw.len]
  refine range_loop (n := ps.length) (by omega) (fun i ρ w' => ρ 12 = vv ∧ ρ 13 = .int .i64 (vars.length : Nat) ∧ ρ 14 = .int .i64 (k : Nat) ∧ ρ 5 = .int .i64 (n : Nat) ∧ ρ 18 = ov ∧ At w [] (Star (LLA (ρ 6) 22 nE (((stsK vars k).take i).flatMap (extS n))) (Star (OwnA ov 22 1 sv1 ps) (Star (VwsA nE ps) Emp))) w') (by simp) (by simp)
    ⟨by simp [g12], by simp [hlk], by simp [hck], by simp, by simp, by simpa using h7⟩ (by decide) (fun _ _ _ _ h => by simpa using h) (fun _ _ _ _ h => by simpa using h) ?_ ?_
  rotate_left
  · clear g12 hck hlk hov
    rintro ρ w6 ⟨g12, g13, g14, g5, g18, h8⟩
    rw [hpl, List.take_length, ← hsk1] at h8
    simp [g12, g13, g14]
    exact h8.by (Imp.un (Imp.dr.trans Imp.dr))
  clear g12 hck hlk hov h5 h6 h7 hv5
  rintro i ρ w6 hi hci hli ⟨g12, g13, g14, g5, g18, h8⟩
  obtain ⟨p, hp⟩ : ∃ p, ps[i]? = some p := ⟨_, List.getElem?_eq_getElem hi⟩
  have hpm := List.mem_of_getElem? hp
  obtain ⟨s, hse⟩ : ∃ s, s = p.2 := ⟨_, rfl⟩
  have hsi : (stsK vars k)[i]? = some s := by rw [← hps, List.getElem?_map, hp, hse]; rfl
  have hsl1 := hsl k (by omega) s (List.mem_of_getElem? hsi)
  have hii : (i : Int) < ps.length := by omega
  have hov := h8.drop.own
  have ep : w6.cell? (ov.adr.add i) = some p.1.1 := by simpa using hov.vw.at_ sv1_len hp (o := 0) (u := p.1.1) rfl
  have hlen : (((stsK vars k).take i).flatMap (extS n)).length + n ≤ 10000 := by
    have e : stsK vars k = (stsK vars k).take i ++ (s :: (stsK vars k).drop (i + 1)) := by
      obtain ⟨hk2, e2⟩ := List.getElem?_eq_some_iff.1 hsi
      rw [← e2, ← List.drop_eq_getElem_cons hk2, List.take_append_drop]
    rw [e, List.flatMap_append, List.flatMap_cons, List.length_append, List.length_append, extS_len] at hbk1
    omega
  have htk : ((stsK vars k).take (i + 1)).flatMap (extS n) = ((stsK vars k).take i).flatMap (extS n) ++ (extS n s).take n := by
    have e : (extS n s).take n = extS n s := List.take_of_length_le (by rw [extS_len]; omega)
    rw [take_snoc hsi, List.flatMap_append, e]
    simp
  simp (disch := omega) [g5, g18, hci, hli, hov.vw.idx, ep]
  refine range_loop (n := n) (by omega) (fun x ρ w' => ρ 12 = vv ∧ ρ 13 = .int .i64 (vars.length : Nat) ∧ ρ 14 = .int .i64 (k : Nat) ∧ ρ 5 = .int .i64 (n : Nat) ∧ ρ 18 = ov ∧ ρ 19 = .int .i64 (ps.length : Nat) ∧ ρ 20 = .int .i64 (i : Nat) ∧ ρ 8 = p.1.1 ∧ At w [] (Star (LLA (ρ 6) 22 nE (((stsK vars k).take i).flatMap (extS n) ++ (extS n s).take x)) (Star (OwnA ov 22 1 sv1 ps) (Star (VwsA nE ps) Emp))) w') (by simp) (by simp)
    ⟨by simp [g12], by simp [g13], by simp [g14], by simp [g5], by simp [g18], by simp [hli], by simp [hci], by simp, by simpa using h8⟩ (by decide) (fun _ _ _ _ h => by simpa using h) (fun _ _ _ _ h => by simpa using h) ?_ ?_
  rotate_left
  · clear g12 g13 g14 g5 g18 hci hli
    rintro ρ w7 ⟨g12, g13, g14, g5, g18, g19, g20, g8, h9⟩
    rw [← htk] at h9
    simp [g12, g13, g14, g5, g18, g19, g20]
    exact h9
  clear g12 g13 g14 g5 g18 hci hli h8 hov ep
  rintro x ρ w7 hx hcx hlx ⟨g12, g13, g14, g5, g18, g19, g20, g8, h9⟩
  have hXL : Lcl (Star (LLA (ρ 6) 22 nE (((stsK vars k).take i).flatMap (extS n) ++ (extS n s).take x)) (Star (OwnA ov 22 1 sv1 ps) (Star (VwsA nE ps) Emp))) := Lcl.ll.star hX
  have h10 := h9.lit (xs := ([] : List Nat)) (enc := nE) (E := 3) (sz := 1) (cs := #[]) (m := 0) hXL (by simp) nE_len (by simp [maxLen]) rfl
  have hrow : Vw (w7.alloc (.cells #[] 3)) p.1.1 nE s := by rw [hse]; exact h10.drop.drop.drop.vws hpm
  simp [hcx, g8, rowOf]
  refine At.appendV (xs := s) hXL h10 hrow nE_len nE_one sl_22 (by simp; omega) (by simp; unfold maxLen; omega) fun v1 w8 h11 => ?_
  simp
  refine nat_append hXL h11 (by simp; omega) fun v2 w9 h12 => ?_
  have c12 := h12.own.c1
  simp [c12]
  have hlen2 : (((stsK vars k).take i).flatMap (extS n) ++ (extS n s).take x).length ≤ 100000 := by
    rw [List.length_append, List.length_take, extS_len]; omega
  refine li_append hX h12 hlen2 fun v3 w10 h13 => ?_
  have ext : (extS n s)[x]? = some (s ++ [x]) := by unfold extS; rw [List.getElem?_map, List.getElem?_range hx]; rfl
  simp [g12, g13, g14, g5, g18, g19, g20, hcx, hlx]
  rw [take_snoc ext, ← List.append_assoc]
  exact ⟨g8, by simpa using h13⟩
end Go.Proofs.Ytcplpogmbacnfaa
end
section
set_option maxRecDepth 100000
set_option linter.unusedSimpArgs false
set_option linter.unusedVariables false
namespace Go.Proofs.Ytcplpogmbacnfaa
open Go Go.W Go.Tk Go.Rx Go.Maps
theorem sts_ok {vars : List Nat} : ∀ k, k ≤ vars.length → ∀ s ∈ stsK vars k, s.length = k ∧ ∀ v, v < k → s.getD v 0 < vars.getD v 0
  | 0, _, s, hs => by
    simp [stsK] at hs; subst hs
    exact ⟨rfl, fun v hv => by omega⟩
  | k + 1, hk, s, hs => by
    unfold stsK at hs
    obtain ⟨t, ht, h2⟩ := List.mem_flatMap.1 hs
    unfold extS at h2
    obtain ⟨x, hx, rfl⟩ := List.mem_map.1 h2
    obtain ⟨e, hv⟩ := sts_ok k (by omega) t ht
    refine ⟨by simp [e], fun v hvk => ?_⟩
    by_cases h3 : v < k
    · have := hv v h3
      simpa [List.getD, List.getElem?_append_left (show v < t.length by omega)] using this
    · have : v = k := by omega
      subst this
      simpa [List.getD, ← e] using List.mem_range.1 hx
theorem sts_st {vars : List Nat} {s : List Nat} (h : s ∈ stsK vars vars.length) : StN vars s := by
  obtain ⟨h1, h2⟩ := sts_ok _ (Nat.le_refl _) s h
  exact ⟨h1, h2⟩
/-- Some states. -/
def SmI (T : Nt) (all : Value) (ps : List (Cell1 × List Nat)) (w : World) (n : Nat) (ρ : Env) (w' : World) : Prop :=
  ∃ i qs, n = ps.length - i ∧ i ≤ 2 * ps.length + 1 ∧ ρ 4 = all ∧ ρ 5 = .int .i64 (i : Nat) ∧ qs.length ≤ i + 1 ∧ (∀ q ∈ qs, q = (T.nv, T.init) ∨ q ∈ ps) ∧
    At w [] (Star (OwnA (ρ 3) 22 1 sv1 qs) (Star (OwnA all 22 1 sv1 ps) (Star (VwsA nE ps) Emp))) w'
end Go.Proofs.Ytcplpogmbacnfaa
end
section
set_option maxRecDepth 100000
set_option linter.unusedSimpArgs false
set_option linter.unusedVariables false
namespace Go.Proofs.Ytcplpogmbacnfaa
open Go Go.W Go.Tk Go.Rx Go.Maps
/-- The costs that are given, and those that hold. -/
structure PrI (T : Nt) (gl rl : List Nat) : Prop where
  rlen : rl.length = T.ops.length
  rb : ∀ c ∈ rl, c ≤ 1048576
  gb : ∀ c ∈ gl, c ≤ 1048576
  glen : gl.length = 0 ∨ gl.length = T.ops.length
  eq : ∀ i, i < T.ops.length → cst T (gl.map iN) i = cstL rl i
end Go.Proofs.Ytcplpogmbacnfaa
end
section
set_option maxRecDepth 100000
set_option linter.unusedSimpArgs false
set_option linter.unusedVariables false
namespace Go.Proofs.Ytcplpogmbacnfaa
open Go Go.W Go.Tk Go.Rx Go.Maps
/-- The operators of the example. -/
def IsC (i : Nat) (o : No) : Prop := o.name = ByteArray.empty ∧ o.cost = 2 ∧ o.pre = [(0, i)] ∧ ∃ e : Nf, o.effs = [e] ∧ e.cnd = [] ∧ e.v = 0 ∧ e.x = i + 1 ∧ e.wv.1 = .slice none 0 0
def ChF (vv nv gv : Value) (os : List No) : Asr := Star (VwsA fcE (os.map fun o => (o.pv, o.pre))) (Star (VwsA nfE (os.map fun o => (o.ev, o.effs))) (Star (VwA vv nE [4]) (Star (VwA nv nE [0]) (Star (VwA gv fcE [(0, 3)]) Emp))))
theorem ChF.lcl {vv nv gv : Value} {os : List No} : Lcl (ChF vv nv gv os) := Lcl.vws.star (Lcl.vws.star (Lcl.vw.star (Lcl.vw.star (Lcl.vw.star .emp))))
end Go.Proofs.Ytcplpogmbacnfaa
end
section
set_option maxRecDepth 100000
set_option linter.unusedSimpArgs false
set_option linter.unusedVariables false
namespace Go.Rx
open Go Go.W Go.Tk
def prL : List Nat → Nat
  | [] => 1
  | x :: l => x * prL l
theorem prL_snoc : ∀ (l : List Nat) (x : Nat), prL (l ++ [x]) = prL l * x
  | [], x => by simp [prL]
  | y :: l, x => by simp only [List.cons_append, prL, prL_snoc l x, Nat.mul_assoc]
theorem many_le : ∀ (vars : List Nat) (n : Nat), (∀ v ∈ vars, 1 ≤ v) → manyF 512 n (vars.map iN) ≤ 512 → ∀ k, n * prL (vars.take k) ≤ 512
  | [], n, _, h, k => by simpa [manyF, prL] using h
  | x :: l, n, hx, h, k => by
    have h1 := hx x (by simp)
    simp only [List.map_cons, manyF] at h
    split at h
    · omega
    · rename_i hle
      have e : (iN x).toNat = x := by simp [iN]
      rw [e] at hle h
      have hle : n * min x (512 + 1) ≤ 512 := by omega
      cases k with
      | zero =>
        have := Nat.mul_le_mul_left n (show 1 ≤ min x (512 + 1) by omega)
        simp [prL]; omega
      | succ k =>
        rcases Nat.eq_zero_or_pos n with rfl | hn
        · simp
        have hm : min x (512 + 1) = x := by
          rcases Nat.le_total x 513 with h2 | h2
          · omega
          · have : min x (512 + 1) = 513 := by omega
            rw [this] at hle
            omega
        rw [hm] at h
        have := many_le l (n * x) (fun v hv => hx v (by simp [hv])) h k
        simpa [List.take_succ_cons, prL, Nat.mul_assoc] using this
theorem unsK_len8 {t : Nt} {cost : Nat → Nat} (h : ∀ o ∈ t.ops, o.effs.length ≤ 8) : ∀ n, (unsK t cost n).length ≤ 8 * n
  | 0 => by simp [unsK]
  | n + 1 => by
    have := unsK_len8 (cost := cost) h n
    cases ho : t.ops[n]? with
    | none =>
      unfold unsK at *
      rw [List.range_succ, List.flatMap_append]
      simp [ho] at this ⊢
      omega
    | some o =>
      rw [unsK_succ ho, List.length_append, opU_len]
      have := h o (List.mem_of_getElem? ho)
      omega
/-- A small task. -/
structure SmT (T : Nt) : Prop where
  g : NtG T
  good : goodB T.raw = true
  vl : T.vars.length ≤ 12
  ol : T.ops.length ≤ 20
  el : ∀ o ∈ T.ops, o.effs.length ≤ 8
  pr : ∀ k, prL (T.vars.take k) ≤ 512
  nm : ∀ o ∈ T.ops, o.name.size ≤ 9223372036854775807
theorem small_nat {t : Tk} (hl : TkL t) (h : smallB t = true) : ∃ T : Nt, T.raw = t ∧ SmT T := by
  unfold smallB at h
  simp only [Bool.and_eq_true, decide_eq_true_eq] at h
  obtain ⟨⟨⟨⟨h1, h2⟩, h3⟩, h4⟩, h5⟩ := h
  obtain ⟨T, rfl, hg⟩ := good_nat h4
  rw [List.all_eq_true] at h3
  refine ⟨T, rfl, hg, h4, by simpa [Nt.raw] using h1, by simpa [Nt.raw] using h2, fun o ho => ?_, fun k => ?_, fun o ho => ?_⟩
  · have := h3 o.raw (List.mem_map.2 ⟨o, ho, rfl⟩)
    simpa [No.raw] using this
  · have := many_le T.vars 1 (fun v hv => (hg.vars v hv).1) h5 k
    simpa using this
  · exact (hl.op o.raw (List.mem_map.2 ⟨o, ho, rfl⟩)).1
end Go.Rx
namespace Go.Proofs.Ytcplpogmbacnfaa
open Go Go.W Go.Tk Go.Rx Go.Maps
theorem stsK_len {vars : List Nat} : ∀ k, k ≤ vars.length → (stsK vars k).length = prL (vars.take k)
  | 0, _ => by simp [stsK, prL]
  | k + 1, hk => by
    obtain ⟨n, hn⟩ : ∃ n, vars[k]? = some n := ⟨_, List.getElem?_eq_getElem (by omega)⟩
    have key : ∀ (l : List (List Nat)), (l.flatMap (extS (vars.getD k 0))).length = l.length * vars.getD k 0 := by
      intro l
      induction l with
      | nil => simp
      | cons a l ih => rw [List.flatMap_cons, List.length_append, ih, extS_len, List.length_cons, Nat.add_mul]; omega
    have e : stsK vars (k + 1) = (stsK vars k).flatMap (extS (vars.getD k 0)) := rfl
    rw [take_snoc hn, prL_snoc, ← stsK_len k (by omega), e, key]
    simp [List.getD, hn]
theorem SmT.sts {T : Nt} (h : SmT T) : ∀ k, k ≤ T.vars.length → (stsK T.vars k).length ≤ 10000 := fun k hk => by
  rw [stsK_len k hk]
  have := h.pr k
  omega
theorem SmT.sm {T : Nt} (h : SmT T) {c : Nat → Nat} (hc : ∀ i, i < T.ops.length → c i ≤ 1048576) : Sm T.vars (uns T c) := {
  un := {
    nod := fun u hu => by
      obtain ⟨i, o, k, e, _, _, _, rfl⟩ := uns_mem hu
      exact dedup_nodup _
    rng := fun u hu n hn => by
      obtain ⟨i, o, k, e, hi, ho, he, rfl⟩ := uns_mem hu
      have hgo := h.g.ops o (List.mem_of_getElem? ho)
      obtain ⟨f, hf, rfl⟩ := List.mem_map.1 (dedup_mem.1 hn)
      rcases List.mem_append.1 hf with h1 | h1
      · obtain ⟨a, b⟩ := hgo.pre.rng f h1; exact numF_lt a b
      · obtain ⟨a, b⟩ := (hgo.cnd e (List.mem_of_getElem? he)).rng f h1; exact numF_lt a b
    made := fun u hu => by
      obtain ⟨i, o, k, e, hi, ho, he, rfl⟩ := uns_mem hu
      obtain ⟨a, b⟩ := (h.g.ops o (List.mem_of_getElem? ho)).eff e (List.mem_of_getElem? he)
      exact numF_lt a b
    cost := fun u hu => by
      obtain ⟨i, o, k, e, hi, ho, he, rfl⟩ := uns_mem hu
      exact hc i hi
    op := fun u hu => by
      obtain ⟨i, o, k, e, hi, ho, he, rfl⟩ := uns_mem hu
      have := h.ol
      show i ≤ 4096
      omega }
  vl := h.vl
  sm := by
    have := sum_le (N := 64) fun n hn => (h.g.vars n hn).2
    have := h.vl
    omega
  ul := by
    have := unsK_len8 (cost := c) h.el T.ops.length
    have := h.ol
    show (unsK T c T.ops.length).length ≤ 160
    omega }
/-- Right costs. -/
structure CsOk (T : Nt) (cs : List Int) : Prop where
  len : cs.length = 0 ∨ cs.length = T.ops.length
  rng : ∀ c ∈ cs, 0 ≤ c ∧ c ≤ 1048576
theorem CsOk.cst {T : Nt} {cs : List Int} (h : CsOk T cs) (hg : NtG T) (i : Nat) (hi : i < T.ops.length) : cst T cs i ≤ 1048576 := by
  unfold Go.Proofs.Ytcplpogmbacnfaa.cst
  split
  · obtain ⟨o, ho⟩ : ∃ o, T.ops[i]? = some o := ⟨_, List.getElem?_eq_getElem hi⟩
    rw [ho]
    exact (hg.ops o (List.mem_of_getElem? ho)).cost
  · rename_i hn
    rcases h.len with h1 | h1
    · exact absurd h1 hn
    have hi2 : i < cs.length := by omega
    have := h.rng cs[i] (List.getElem_mem hi2)
    simp only [List.getD, List.getElem?_eq_getElem hi2, Option.getD_some]
    omega
theorem CsOk.nil {T : Nt} : CsOk T [] := ⟨.inl rfl, by simp⟩
theorem PrI.ok {T : Nt} {gl rl : List Nat} (h : PrI T gl rl) : CsOk T (gl.map iN) := ⟨by simpa using h.glen, fun c hc => by
  obtain ⟨x, hx, rfl⟩ := List.mem_map.1 hc
  have := h.gb x hx
  unfold iN; omega⟩
/-- A relaxation that can be read. -/
def Rlx (b : Nat) (T : Nt) (U : List Un) (w : World) : Prop := ∃ vv gv fv uv nd fr rs ps, RlR b T.vars T.goal U vv gv fv uv nd fr rs ps w
theorem Rlx.kp {b : Nat} {T : Nt} {U : List Un} {w w' : World} (h : Rlx b T U w) (k : Kp [] w w') : Rlx b T U w' := by
  obtain ⟨vv, gv, fv, uv, nd, fr, rs, ps, h⟩ := h
  exact ⟨vv, gv, fv, uv, nd, fr, rs, ps, h.kp k⟩
theorem IsC.opB {i : Nat} {o : No} (h : IsC i o) (hi : i < 3) : opB [4] o.raw = true := by
  obtain ⟨h1, h2, h3, e, h4, h5, h6, h7, h8⟩ := h
  have e1 : o.raw = ⟨ByteArray.empty, 2, o.pv, [(0, (i : Int))], o.ev, [⟨e.wv, [], 0, ((i + 1 : Nat) : Int)⟩]⟩ := by
    unfold No.raw Nf.raw
    rw [h1, h2, h3, h4]
    simp [h5, h6, h7, faN]
  rw [e1]
  have : i = 0 ∨ i = 1 ∨ i = 2 := by omega
  rcases this with rfl | rfl | rfl <;> rfl
end Go.Proofs.Ytcplpogmbacnfaa
end
section
set_option maxRecDepth 100000
set_option linter.unusedSimpArgs false
set_option linter.unusedVariables false
namespace Go.Proofs.Ytcplpogmbacnfaa
open Go Go.W Go.Tk Go.Rx Go.Maps
section
variable {w : World} {b : Nat} {T : Nt} {U : List Un}
end
theorem ints_vw {w : World} {v : Value} {l : List Nat} (h : Vw w v nE l) : Vw w v iE (l.map iN) := vw_n.2 h
theorem lone {α : Type} {enc : α → List Value} {v : Value} {l : List α} {X : Asr} (ho : oneC v = true) : Imp (Star (VwA v enc l) X) (Star (VwsA enc [((⟨v, ho⟩, l) : Cell1 × List α)]) X) := by
  rintro w F ⟨Fa, Fb, ⟨h1, e1, h2⟩, h3, hd, rfl⟩
  exact ⟨_, ⟨Fa, Fb, ⟨fun p hp => by simp at hp; subst hp; exact h1, fun x hx => h2 x (by rw [← e1]; exact hx), by simpa using e1⟩, h3, hd, rfl⟩, fun x hx => hx⟩
end Go.Proofs.Ytcplpogmbacnfaa
end
section
set_option maxRecDepth 100000
set_option linter.unusedSimpArgs false
set_option linter.unusedVariables false
namespace Go.Proofs.Ytcplpogmbacnfaa
open Go Go.W Go.Tk Go.Rx Go.Maps
theorem raw_vv (T : Nt) : T.raw.vv = T.vv := rfl
theorem raw_nv (T : Nt) : T.raw.nv = T.nv := rfl
theorem raw_gv (T : Nt) : T.raw.gv = T.gv := rfl
theorem raw_ov (T : Nt) : T.raw.ov = T.ov := rfl
end Go.Proofs.Ytcplpogmbacnfaa
end
section
set_option maxRecDepth 100000
set_option linter.unusedSimpArgs false
set_option linter.unusedVariables false
namespace Go.Proofs.Ytcplpogmbacnfaa
open Go Go.W Go.Tk Go.Rx Go.Maps
theorem stN_sum {vars s : List Nat} (h : StN vars s) : ∀ x ∈ stN vars s vars.length, x < vars.sum := fun x hx => by
  unfold stN at hx
  obtain ⟨v, hv, rfl⟩ := List.mem_map.1 hx
  have hv := List.mem_range.1 hv
  exact numF_lt (f := (v, s.getD v 0)) hv (h.rng v hv)
end Go.Proofs.Ytcplpogmbacnfaa
end
section
set_option maxRecDepth 100000
set_option linter.unusedSimpArgs false
set_option linter.unusedVariables false
namespace Go.Proofs.Ytcplpogmbacnfaa
open Go Go.W Go.Tk Go.Rx Go.Maps
theorem mem_getD {l : List Nat} {i : Nat} (hi : i < l.length) : l.getD i 0 ∈ l := by simp [List.getD, List.getElem?_eq_getElem hi]
/-- The task without an operator. -/
def lessT (T : Nt) (ov : Cell1) (k : Nat) : Nt := { T with ov := ov, ops := T.ops.take k ++ T.ops.drop (k + 1) }
theorem lessT_mem {T : Nt} {ov : Cell1} {k : Nat} {o : No} (h : o ∈ (lessT T ov k).ops) : o ∈ T.ops := by
  rcases List.mem_append.1 h with h | h
  · exact List.mem_of_mem_take h
  · exact List.mem_of_mem_drop h
theorem NtR.less {T : Nt} {ov : Value} {o1 : oneC ov = true} {k : Nat} {w : World} (h : NtR w T) (hv : Vw w ov noE (T.ops.take k ++ T.ops.drop (k + 1))) : NtR w (lessT T ⟨ov, o1⟩ k) :=
  ⟨h.vars, h.init, h.goal, hv, fun o ho => h.op o (lessT_mem ho)⟩
end Go.Proofs.Ytcplpogmbacnfaa
end
section
set_option maxRecDepth 100000
set_option linter.unusedSimpArgs false
set_option linter.unusedVariables false
namespace Go.Rx
open Go Go.W Go.Tk
structure Low (es : List (Nat × Nat × Nat)) (c : Nat → Nat) (G : Nat → Bool) (H : Nat → Nat) : Prop where
  le : ∀ i, H i ≤ Inf
  z : ∀ i, G i = true → H i = 0
  st : ∀ e ∈ es, H e.1 ≤ H e.2.2 + c e.2.1
structure Dok (es : List (Nat × Nat × Nat)) (c : Nat → Nat) (G : Nat → Bool) (d : List Nat) : Prop where
  z0 : ∀ i, i < d.length → G i = true → d.getD i 0 = 0
  le : ∀ i, i < d.length → d.getD i 0 ≤ Inf
  low : ∀ H, Low es c G H → ∀ i, i < d.length → H i ≤ d.getD i 0
theorem getD_set_same {d : List Nat} {i x : Nat} (h : i < d.length) : (d.set i x).getD i 0 = x := by simp [List.getD, List.getElem?_set_self h]
theorem getD_set_ne {d : List Nat} {i j x : Nat} (h : i ≠ j) : (d.set i x).getD j 0 = d.getD j 0 := by simp only [List.getD, List.getElem?_set_ne h]
theorem Dok.step {es : List (Nat × Nat × Nat)} {c : Nat → Nat} {G : Nat → Bool} {d : List Nat} {e : Nat × Nat × Nat} (h : Dok es c G d) (he : e ∈ es) (hf : e.1 < d.length) (ht : e.2.2 < d.length) (hlt : d.getD e.2.2 0 + c e.2.1 < d.getD e.1 0) : Dok es c G (d.set e.1 (d.getD e.2.2 0 + c e.2.1)) := {
  z0 := fun i hi hG => by
    rw [List.length_set] at hi
    by_cases hie : e.1 = i
    · subst hie
      have := h.z0 _ hf hG
      omega
    · rw [getD_set_ne hie]; exact h.z0 i hi hG
  le := fun i hi => by
    rw [List.length_set] at hi
    by_cases hie : e.1 = i
    · subst hie
      rw [getD_set_same hf]
      have := h.le _ hf
      omega
    · rw [getD_set_ne hie]; exact h.le i hi
  low := fun H hH i hi => by
    rw [List.length_set] at hi
    by_cases hie : e.1 = i
    · subst hie
      rw [getD_set_same hf]
      have h1 := hH.st e he
      have h2 := h.low H hH e.2.2 ht
      omega
    · rw [getD_set_ne hie]; exact h.low H hH i hi }
end Go.Rx
namespace Go.Proofs.Ytcplpogmbacnfaa
open Go Go.W Go.Tk Go.Rx Go.Maps
def goalB (T : Nt) (i : Nat) : Bool := match (stsK T.vars T.vars.length)[i]? with | some s => hdB s T.goal | none => false
def d0 (T : Nt) (i : Nat) : Nat := if goalB T i = true then 0 else Inf
/-- The costs that a search for distances has. -/
def CvOk (T : Nt) (cv : Value) (c : Nat → Nat) (w : World) : Prop := (cv = .slice none 0 0 ∧ ∀ i o, T.ops[i]? = some o → c i = o.cost) ∨ ∃ cl a cap, cv = .slice (some a) cl.length cap ∧ Vw w cv nE cl ∧ cl.length = T.ops.length ∧ ∀ i, c i = cl.getD i 0
theorem CvOk.kp {T : Nt} {cv : Value} {c : Nat → Nat} {w w' : World} (h : CvOk T cv c w) (k : Kp [] w w') : CvOk T cv c w' := by
  rcases h with h | ⟨cl, a, cap, h1, h2, h3⟩
  · exact .inl h
  · exact .inr ⟨cl, a, cap, h1, h2.kp0 k, h3⟩
theorem CvOk.of {T : Nt} {cv : Value} {cl : List Nat} {w : World} (h : Vw w cv nE cl) (hl : cl.length = T.ops.length) : CvOk T cv (fun i => cl.getD i 0) w := by
  rcases sl_nil h with ⟨rfl, rfl⟩ | ⟨a, cap, e⟩
  · refine .inl ⟨rfl, fun i o ho => ?_⟩
    have := (List.getElem?_eq_some_iff.1 ho).1
    simp at hl; omega
  · exact .inr ⟨cl, a, cap, e, h, hl, fun _ => rfl⟩
end Go.Proofs.Ytcplpogmbacnfaa
end
section
set_option maxRecDepth 100000
set_option linter.unusedSimpArgs false
set_option linter.unusedVariables false
namespace Go.Rx
open Go Go.W Go.Tk
/-- There are values. -/
theorem IsVal.ex (U : List Un) (S : List Nat) : ∃ V, IsVal U S V := by
  have hex : ∀ f, ∃ x, (∀ k, Der U S f k → x ≤ k) ∧ x ≤ Inf ∧ (x < Inf → Der U S f x) := fun f => by
    rcases Classical.em (∃ k, Der U S f k) with ⟨k, hk⟩ | hn
    · obtain ⟨w, hw, hm⟩ := Lst.ex hk
      rcases Nat.lt_or_ge w Inf with h | h
      · exact ⟨w, hm, by omega, fun _ => hw⟩
      · exact ⟨Inf, fun j hj => by have := hm j hj; omega, Nat.le_refl _, fun h => by omega⟩
    · exact ⟨Inf, fun k hk => absurd ⟨k, hk⟩ hn, Nat.le_refl _, fun h => by omega⟩
  refine ⟨fun f => Classical.choose (hex f), fun f hf => ?_, fun u hu hlt => ?_, fun f hf => (Classical.choose_spec (hex f)).2.2 hf, fun f => (Classical.choose_spec (hex f)).2.1⟩
  · have := (Classical.choose_spec (hex f)).1 0 (.base hf)
    omega
  · refine (Classical.choose_spec (hex u.makes)).1 _ (.step hu _ fun n hn => (Classical.choose_spec (hex n)).2.2 ?_)
    have := gr_mem (V := fun f => Classical.choose (hex f)) hn
    omega
end Go.Rx
namespace Go.Proofs.Ytcplpogmbacnfaa
open Go Go.W Go.Tk Go.Rx Go.Maps
/-- Values in all states. -/
def VsOk (T : Nt) (U : List Un) (vS : List Nat → Nat → Nat) : Prop := ∀ s, IsVal U (stN T.vars s T.vars.length) (vS s)
theorem VsOk.ex (T : Nt) (U : List Un) : ∃ vS, VsOk T U vS := ⟨fun s => Classical.choose (IsVal.ex U (stN T.vars s T.vars.length)), fun s => Classical.choose_spec (IsVal.ex U (stN T.vars s T.vars.length))⟩
/-- The greatest value of a goal fact, in a state. -/
def hM (T : Nt) (vS : List Nat → Nat → Nat) (s : List Nat) : Nat := grF T.vars (vS s) T.goal
def hI (T : Nt) (vS : List Nat → Nat → Nat) (i : Nat) : Nat := match (stsK T.vars T.vars.length)[i]? with | some s => hM T vS s | none => 0
end Go.Proofs.Ytcplpogmbacnfaa
end
section
set_option linter.unusedVariables false
set_option linter.unusedSimpArgs false
namespace Go.Lm
open Go.Rx
/-- f is better than o. -/
def btr (V : Nat → Nat) (f o : Nat) : Bool := decide (V o < V f) || (decide (V f = V o) && decide (f < o))
def gStep (V : Nat → Nat) : Option Nat → Nat → Option Nat
  | none, f => some f
  | some o, f => if btr V f o = true then some f else some o
def gst (V : Nat → Nat) (l : List Nat) : Option Nat := l.foldl (gStep V) none
/-- It is the best one of a list. -/
def IsG (V : Nat → Nat) (l : List Nat) (g : Nat) : Prop := g ∈ l ∧ ∀ x ∈ l, V x < V g ∨ (V x = V g ∧ g ≤ x)
section
variable {V : Nat → Nat} {l l' : List Nat} {g g' : Nat}
theorem IsG.uniq (h : IsG V l g) (h' : IsG V l g') : g = g' := by
  have h1 := h.2 g' h'.1
  have h2 := h'.2 g h.1
  omega
theorem IsG.set (h : IsG V l g) (hs : ∀ x, x ∈ l ↔ x ∈ l') : IsG V l' g := ⟨(hs g).1 h.1, fun x hx => h.2 x ((hs x).2 hx)⟩
theorem IsG.val (h : IsG V l g) : V g = gr V l := Nat.le_antisymm (gr_mem h.1) (gr_le_iff.2 fun x hx => by have := h.2 x hx; omega)
theorem IsG.snoc (h : IsG V l g) (f : Nat) : IsG V (l ++ [f]) (if btr V f g = true then f else g) := by
  by_cases hb : btr V f g = true
  · rw [if_pos hb]
    unfold btr at hb
    simp only [Bool.or_eq_true, Bool.and_eq_true, decide_eq_true_eq] at hb
    refine ⟨by simp, fun x hx => ?_⟩
    rcases List.mem_append.1 hx with h1 | h1
    · have := h.2 x h1; omega
    · simp at h1; subst h1; omega
  · rw [if_neg hb]
    unfold btr at hb
    simp only [Bool.or_eq_true, Bool.and_eq_true, decide_eq_true_eq, not_or, not_and] at hb
    refine ⟨by simp [h.1], fun x hx => ?_⟩
    rcases List.mem_append.1 hx with h1 | h1
    · exact h.2 x h1
    · simp at h1; subst h1
      have h2 := hb.1
      have h3 := hb.2
      by_cases he : V x = V g
      · have := h3 he; omega
      · omega
theorem gst_snoc (l : List Nat) (f : Nat) : gst V (l ++ [f]) = gStep V (gst V l) f := by unfold gst; rw [List.foldl_append]; rfl
theorem snoc_ind {α : Type} {p : List α → Prop} (h0 : p []) (h : ∀ l x, p l → p (l ++ [x])) (l : List α) : p l := by
  have key : ∀ r : List α, p r.reverse := by
    intro r
    induction r with
    | nil => exact h0
    | cons x r ih => rw [List.reverse_cons]; exact h _ _ ih
  simpa using key l.reverse
theorem gst_spec (l : List Nat) : (l = [] ∧ gst V l = none) ∨ ∃ g, gst V l = some g ∧ IsG V l g := by
  induction l using snoc_ind with
  | h0 => exact .inl ⟨rfl, rfl⟩
  | h l f ih =>
    right
    rw [gst_snoc]
    rcases ih with ⟨rfl, h⟩ | ⟨g, h, hg⟩
    · rw [h]
      exact ⟨f, rfl, by simp, fun x hx => by simp at hx; subst hx; exact .inr ⟨rfl, Nat.le_refl _⟩⟩
    · rw [h]
      have := hg.snoc f
      by_cases hb : btr V f g = true
      · rw [if_pos hb] at this
        exact ⟨f, by simp only [gStep, if_pos hb], this⟩
      · rw [if_neg hb] at this
        exact ⟨g, by simp only [gStep, if_neg hb], this⟩
theorem gst_of (h : IsG V l g) : gst V l = some g := by
  rcases gst_spec (V := V) l with ⟨rfl, _⟩ | ⟨g', e, hg⟩
  · cases h.1
  · rw [e, hg.uniq h]
theorem gst_some (h : gst V l = some g) : IsG V l g := by
  rcases gst_spec (V := V) l with ⟨rfl, e⟩ | ⟨g', e, hg⟩
  · cases h
  · rw [e] at h; cases h; exact hg
theorem gst_none (h : gst V l = none) : l = [] := by
  rcases gst_spec (V := V) l with ⟨e, _⟩ | ⟨g', e, hg⟩
  · exact e
  · rw [e] at h; cases h
theorem gst_set (hs : ∀ x, x ∈ l ↔ x ∈ l') : gst V l = gst V l' := by
  rcases gst_spec (V := V) l with ⟨rfl, e⟩ | ⟨g, e, hg⟩
  · have : l' = [] := List.eq_nil_iff_forall_not_mem.2 fun x hx => by have := (hs x).2 hx; cases this
    subst this; rfl
  · rw [e, gst_of (hg.set hs)]
/-- The greatest value is that of the best fact. -/
theorem gr_gst (l : List Nat) : gr V l = match gst V l with | some g => V g | none => 0 := by
  rcases gst_spec (V := V) l with ⟨rfl, e⟩ | ⟨g, e, hg⟩
  · rfl
  · rw [e]; exact hg.val.symm
end
structure Ar where
  fr : Option Nat
  to : Nat
  op : Nat
def arU (V : Nat → Nat) (u : Un) : Ar := ⟨gst V u.needs, u.makes, u.op⟩
def arcs (U : List Un) (V : Nat → Nat) : List Ar := (U.filter fun u => decide (gr V u.needs < Inf)).map (arU V)
/-- The goal zone. -/
inductive TZ (A : List Ar) (c : Nat → Nat) (g : Nat) : Nat → Prop
  | base : TZ A c g g
  | step {a : Ar} {f : Nat} (ha : a ∈ A) (hf : a.fr = some f) (hc : c a.op = 0) (ht : TZ A c g a.to) : TZ A c g f
/-- The start zone. -/
inductive SZ (A : List Ar) (S0 : List Nat) (T : Nat → Prop) : Nat → Prop
  | base {f : Nat} (h : f ∈ S0) : SZ A S0 T f
  | start {a : Ar} (ha : a ∈ A) (hf : a.fr = none) (ht : ¬ T a.to) : SZ A S0 T a.to
  | step {a : Ar} {f : Nat} (ha : a ∈ A) (hf : a.fr = some f) (hs : SZ A S0 T f) (ht : ¬ T a.to) : SZ A S0 T a.to
/-- An arc begins in the start zone. -/
def Beg (A : List Ar) (S0 : List Nat) (T : Nat → Prop) (a : Ar) : Prop := a.fr = none ∨ ∃ f, a.fr = some f ∧ SZ A S0 T f
/-- The operators of the cut. -/
def XO (A : List Ar) (c : Nat → Nat) (S0 : List Nat) (g : Nat) (op : Nat) : Prop := ∃ a ∈ A, a.op = op ∧ Beg A S0 (TZ A c g) a ∧ TZ A c g a.to
/-- Operators with other costs. -/
def wc (U : List Un) (c : Nat → Nat) : List Un := U.map fun u => { u with cost := c u.op }
theorem wc_mem {U : List Un} {c : Nat → Nat} {v : Un} (h : v ∈ wc U c) : ∃ u ∈ U, v = { u with cost := c u.op } := by
  obtain ⟨u, hu, rfl⟩ := List.mem_map.1 h
  exact ⟨u, hu, rfl⟩
theorem mem_wc {U : List Un} {c : Nat → Nat} {u : Un} (h : u ∈ U) : ({ u with cost := c u.op } : Un) ∈ wc U c := List.mem_map.2 ⟨u, h, rfl⟩
structure IsCut (U : List Un) (c : Nat → Nat) (S0 G : List Nat) (V : Nat → Nat) (L : List Nat) (m : Nat) : Prop where
  ex : ∃ g, gst V G = some g ∧ ∀ op, op ∈ L ↔ XO (arcs U V) c S0 g op
  asc : L.Pairwise (· < ·)
  le : ∀ op ∈ L, m ≤ c op
  at_ : ∃ op ∈ L, c op = m
def sub (c : Nat → Nat) (L : List Nat) (m : Nat) : Nat → Nat := fun i => if i ∈ L then c i - m else c i
/-- The cuts for a state. -/
inductive LmC (U : List Un) (S0 G : List Nat) : (Nat → Nat) → Option (List (List Nat × Nat)) → Prop
  | inf {c V : Nat → Nat} (hV : IsVal (wc U c) S0 V) (h : Inf ≤ gr V G) : LmC U S0 G c none
  | nil {c V : Nat → Nat} (hV : IsVal (wc U c) S0 V) (h : gr V G = 0) : LmC U S0 G c (some [])
  | cut {c V : Nat → Nat} {L : List Nat} {m : Nat} {r : Option (List (List Nat × Nat))} (hV : IsVal (wc U c) S0 V) (h0 : 0 < gr V G) (hi : gr V G < Inf) (hc : IsCut U c S0 G V L m) (hr : LmC U S0 G (sub c L m) r) : LmC U S0 G c (r.map ((L, m) :: ·))
section
variable {U : List Un} {S0 G : List Nat} {c V : Nat → Nat} {L L' : List Nat} {m m' g : Nat}
theorem asc_ext : ∀ {L L' : List Nat}, L.Pairwise (· < ·) → L'.Pairwise (· < ·) → (∀ x, x ∈ L ↔ x ∈ L') → L = L'
  | [], [], _, _, _ => rfl
  | [], b :: L', _, _, h => by have := (h b).2 (by simp); cases this
  | a :: L, [], _, _, h => by have := (h a).1 (by simp); cases this
  | a :: L, b :: L', h1, h2, h => by
    rw [List.pairwise_cons] at h1 h2
    have hab : a = b := by
      rcases List.mem_cons.1 ((h a).1 (by simp)) with e | e
      · exact e
      · rcases List.mem_cons.1 ((h b).2 (by simp)) with e2 | e2
        · exact e2.symm
        · have := h1.1 b e2; have := h2.1 a e; omega
    subst hab
    congr 1
    refine asc_ext h1.2 h2.2 fun x => ?_
    constructor
    · intro hx
      rcases List.mem_cons.1 ((h x).1 (by simp [hx])) with e | e
      · subst e; have := h1.1 x hx; omega
      · exact e
    · intro hx
      rcases List.mem_cons.1 ((h x).2 (by simp [hx])) with e | e
      · subst e; have := h2.1 x hx; omega
      · exact e
theorem IsCut.uniq (h : IsCut U c S0 G V L m) (h' : IsCut U c S0 G V L' m') : L = L' ∧ m = m' := by
  obtain ⟨g, e, hx⟩ := h.ex
  obtain ⟨g', e', hx'⟩ := h'.ex
  rw [e] at e'
  cases e'
  have hL := asc_ext h.asc h'.asc fun x => (hx x).trans (hx' x).symm
  subst hL
  obtain ⟨o, ho, e1⟩ := h.at_
  obtain ⟨o', ho', e2⟩ := h'.at_
  have := h.le o' ho'
  have := h'.le o ho
  exact ⟨rfl, by omega⟩
theorem LmC.uniq {r r' : Option (List (List Nat × Nat))} (h : LmC U S0 G c r) (h' : LmC U S0 G c r') : r = r' := by
  induction h generalizing r' with
  | inf hV hh =>
    cases h' with
    | inf _ _ => rfl
    | nil hV' h2 => rw [hV.uniq hV'] at hh; rw [h2] at hh; unfold Inf at hh; omega
    | cut hV' _ h2 _ _ => rw [hV.uniq hV'] at hh; omega
  | nil hV hh =>
    cases h' with
    | inf hV' h2 => rw [← hV.uniq hV', hh] at h2; unfold Inf at h2; omega
    | nil _ _ => rfl
    | cut hV' h2 _ _ _ => rw [← hV.uniq hV', hh] at h2; omega
  | cut hV h0 hi hc hr ih =>
    cases h' with
    | inf hV' h2 => rw [← hV.uniq hV'] at h2; omega
    | nil hV' h2 => rw [← hV.uniq hV'] at h2; omega
    | cut hV' _ _ hc' hr' =>
      have e := hV.uniq hV'
      subst e
      obtain ⟨rfl, rfl⟩ := hc.uniq hc'
      rw [ih hr']
end
end Go.Lm
end
