/-
  A part of the proof of this claim's statement (SyDC, SyDD, SyDE, SyAL): plain theorems; no conditions beyond those each names.
-/
import Derived.Test.YtcoeknnghfajnaaPk26
import Derived.Test.YtcoeknnghfajnaaPk25
section
set_option maxRecDepth 100000
set_option linter.unusedSimpArgs false
set_option linter.unusedVariables false
namespace Go.Proofs.Ytcoeknnghfajnaa
open Go Go.W Go.Tk Go.Rx Go.Bd Go.Sy Go.Maps
theorem rv_bits {vars : List Nat} {a c : Nat → Bool} {nx v : Nat} (h : rv vars a nx v = rv vars c nx v) : ∀ k, k < wd (vars.getD v 0) → a (2 * (bP vars v + k) + nx) = c (2 * (bP vars v + k) + nx) := fun k hk => by
  have h1 := (valK_eq (g := fun k => a (2 * (bP vars v + k) + nx)) _ _ (rv_lt vars c nx v)).2 h k hk
  have h2 := (valK_eq (g := fun k => c (2 * (bP vars v + k) + nx)) _ _ (rv_lt vars c nx v)).2 rfl k hk
  exact h1.trans h2.symm
theorem rs_bits {vars : List Nat} {a c : Nat → Bool} {nx : Nat} (h : rs vars a nx = rs vars c nx) : ∀ p, p < nBits vars → a (2 * p + nx) = c (2 * p + nx) := fun p hp => by
  rw [← bP_all] at hp
  obtain ⟨v, j, hv, hj, rfl⟩ := bP_split vars.length (Nat.le_refl _) p hp
  exact rv_bits (by rw [← rs_at hv, ← rs_at hv, h]) j hj
theorem rs_ev {vars : List Nat} {a c : Nat → Bool} (h : ∀ p, p < nBits vars → a (2 * p) = c (2 * p)) : rs vars a 0 = rs vars c 0 := rs_x fun p _ hp => h p (by omega)
theorem rv_od {vars : List Nat} {a c : Nat → Bool} {v : Nat} (h : ∀ p, bP vars v ≤ p → p < bP vars v + wd (vars.getD v 0) → a (2 * p + 1) = c (2 * p + 1)) : rv vars a 1 v = rv vars c 1 v := valK_congr _ fun k hk => h _ (by omega) (by omega)
theorem rvW_ev {b f w : Nat} {a c : Nat → Bool} (h : ∀ i, i < 2 * b → rvW f w i = true → a i = c i) : ∀ p, p < b → a (2 * p) = c (2 * p) := fun p hp => h _ (by omega) (by unfold rvW; rw [show 2 * p % 2 = 0 by omega]; rfl)
theorem rvW_od {b f w : Nat} {a c : Nat → Bool} (h : ∀ i, i < 2 * b → rvW f w i = true → a i = c i) : ∀ p, p < b → f ≤ p → p < f + w → a (2 * p + 1) = c (2 * p + 1) := fun p hp h1 h2 => h _ (by omega) (by unfold rvW; rw [show (2 * p + 1) / 2 = p by omega]; simp [h1, h2])
/-- A function of the state and of the value of a variable in the successor, which the state fixes. -/
theorem cov_v {S : BFn → Prop} {vars : List Nat} {v : Nat} (hv : v < vars.length) {G : BFn} (g : List Nat → Nat → Bool) (h : ∀ a, G a = g (rs vars a 0) (rv vars a 1 v)) (hd : ∀ s y z, g s y = true → g s z = true → y = z) :
    CovR (2 * nBits vars) S (fun K => K = G) ((wd (vars.getD v 0) + 1) * 2 ^ nBits vars) := by
  have hw := bP_wd hv
  refine cov_fix (f := bP vars v) (fun a c hi => ?_) fun a c ha hc hev p hp h1 h2 => ?_
  · rw [h, h, rs_ev (rvW_ev hi), rv_od fun p h1 h2 => rvW_od hi p (by omega) h1 h2]
  · rw [h] at ha hc
    rw [rs_ev hev] at ha
    have := rv_bits (hd _ _ _ ha hc) (p - bP vars v) (by omega)
    rwa [show bP vars v + (p - bP vars v) = p by omega] at this
theorem sum_up : ∀ b, ((List.range (2 * b)).map fun t => 2 ^ ((t + 1) / 2)).sum + 3 = 3 * 2 ^ b
  | 0 => by simp
  | b + 1 => by
    have ih := sum_up b
    rw [show 2 * (b + 1) = 2 * b + 1 + 1 by omega, List.range_succ, List.range_succ]
    simp only [List.map_append, List.sum_append, List.map_cons, List.map_nil, List.sum_cons, List.sum_nil, Nat.add_zero]
    rw [show (2 * b + 1) / 2 = b by omega, show (2 * b + 1 + 1) / 2 = b + 1 by omega, Nat.pow_succ]
    omega
/-- A function of the state, and a value of a variable in the successor. -/
theorem cov_vc {S : BFn → Prop} {vars : List Nat} {v y : Nat} (hv : v < vars.length) {G : BFn} (g : List Nat → Bool) (h : ∀ a, G a = (g (rs vars a 0) && decide (rv vars a 1 v = y))) :
    CovR (2 * nBits vars) S (fun K => K = G) (3 * 2 ^ nBits vars) := by
  have hw := bP_wd hv
  refine (cov_lev (rel := rvW (bP vars v) (wd (vars.getD v 0))) (sh := fun _ => false) (fun a c hi => ?_) (fun t => 2 ^ ((t + 1) / 2)) (fun t a _ _ h => by cases h) fun t ht hr _ => ?_).mono (fun _ h => h) ?_
  · rw [h, h, rs_ev (rvW_ev hi), rv_od fun p h1 h2 => rvW_od hi p (by omega) h1 h2]
  · obtain ⟨Λ, l1, l2⟩ := lst_det ((List.range ((t + 1) / 2)).map fun p => 2 * p) (fun i => i < t ∧ rvW (bP vars v) (wd (vars.getD v 0)) i = true) (fun a => G a = true) fun a c ha hc hi i hQ => by
      have hit : i < t := hQ.1
      rcases Nat.mod_two_eq_zero_or_one i with h0 | h0
      · have := hi (2 * (i / 2)) (List.mem_map.2 ⟨i / 2, List.mem_range.2 (show i / 2 < (t + 1) / 2 by omega), rfl⟩)
        rwa [show 2 * (i / 2) = i by omega] at this
      · have hr := hQ.2
        unfold rvW at hr
        rw [h0, show decide ((1 : Nat) = 0) = false from rfl, Bool.false_or, Bool.and_eq_true, decide_eq_true_eq, decide_eq_true_eq] at hr
        rw [h, Bool.and_eq_true, decide_eq_true_eq] at ha hc
        have := rv_bits (ha.2.trans hc.2.symm) (i / 2 - bP vars v) (by omega)
        rwa [show 2 * (bP vars v + (i / 2 - bP vars v)) + 1 = i by omega] at this
    refine ⟨Λ, by simpa using l1, fun x hx => ?_⟩
    obtain ⟨π, h1, h2⟩ := l2 x hx
    exact ⟨π, h1, fun i hi hr => h2 i ⟨hi, hr⟩⟩
  · have h1 := sum_up (nBits vars)
    have h2 : ((List.range (2 * nBits vars)).map fun t => if rvW (bP vars v) (wd (vars.getD v 0)) t = true ∧ (fun _ => false) t = false then 2 ^ ((t + 1) / 2) else 0).sum ≤ ((List.range (2 * nBits vars)).map fun t => 2 ^ ((t + 1) / 2)).sum := sum_mono fun t _ => by
      split
      · exact Nat.le_refl _
      · exact Nat.zero_le _
    exact Nat.le_trans h2 (by omega)
def facC (b k : Nat) : Nat := k * 108 + k * (3 * b)
theorem cov_vl1 {n : Nat} {S : BFn → Prop} (vars : List Nat) (v x nx : Nat) (hn : nx < 2) : CovR n S (VlS vars v x nx) 108 :=
  ((CovW.eachW (fun j G => G = vlB vars v x nx j) _ fun j _ => (pl_vl vars v x hn j).cov).mono (fun _ h => h) (by
    have := wd_le (vars.getD v 0)
    have h2 : wd (vars.getD v 0) * (3 * wd (vars.getD v 0)) ≤ 6 * (3 * 6) := Nat.mul_le_mul this (by omega)
    omega)).toR
theorem cov_fac {S : BFn → Prop} (vars : List Nat) {l : List Go.Tk.Fc} (hl : FcOk vars l) {V : Nat} (hV : l.length ≤ V) : CovR (2 * nBits vars) S (FacS vars l) (facC (nBits vars) V) :=
  ((CovR.eachW (fun i G => VlS vars (l.getD i (0, 0)).1 (l.getD i (0, 0)).2 0 G) _ fun i _ => cov_vl1 vars _ _ _ (by omega)).or (CovR.eachW (fun j G => G = fcB vars l j) _ fun j _ => (pf_fc (fun f hf => (hl.rng f hf).1) j).cov.toR)).mono (fun _ h => h) (Nat.add_le_add (Nat.mul_le_mul_right _ hV) (Nat.mul_le_mul_right _ hV))
theorem fc_len {vars : List Nat} {l : List Go.Tk.Fc} (hl : FcOk vars l) : l.length ≤ vars.length := by
  have := asc_len (l.map (·.1)) vars.length (List.pairwise_map.2 hl.asc) fun x hx => by
    obtain ⟨f, hf, rfl⟩ := List.mem_map.1 hx
    exact (hl.rng f hf).1
  simpa using this
theorem xn_rs {vars : List Nat} {G : BFn} (g : List Nat → Bool) (h : ∀ a, G a = g (rs vars a 0)) : XN 0 (nBits vars) G := fun a c hh => by
  rw [h, h, rs_ev fun p hp => by have := hh p hp; simpa using this]
theorem cov_rs {vars : List Nat} {G : BFn} (g : List Nat → Bool) (h : ∀ a, G a = g (rs vars a 0)) : CovR (2 * nBits vars) (ShS (nBits vars)) (fun K => K = G) (2 ^ (nBits vars - 3)) := cov_xn (by omega) (xn_rs g h)
def efC (b V : Nat) : Nat := facC b V + (108 + (2 ^ (b - 3) + (3 * 2 ^ b + (7 * 2 ^ b + (2 ^ (b - 3) + 2 ^ (b - 3))))))
theorem cov_ef {vars : List Nat} {o : No} {v j : Nat} {x : Nf} (hv : v < vars.length) (hc : FcOk vars x.cnd) {V : Nat} (hV : x.cnd.length ≤ V) : CovR (2 * nBits vars) (ShS (nBits vars)) (EfS vars o v j x) (efC (nBits vars) V) := by
  have h7 : (wd (vars.getD v 0) + 1) * 2 ^ nBits vars ≤ 7 * 2 ^ nBits vars := Nat.mul_le_mul_right _ (by have := wd_le (vars.getD v 0); omega)
  refine (cov_fac vars hc hV).or ((cov_vl1 vars v x.x 1 (by omega)).or (CovR.or ?_ (CovR.or ?_ (CovR.or ?_ (CovR.or ?_ ?_)))))
  · exact cov_rs (fun s => (lastE o s v (o.effs.length - (j + 1)) (j + 1)).isNone && hdB s x.cnd) fun a => rfl
  · exact cov_vc hv (fun s => (lastE o s v (o.effs.length - (j + 1)) (j + 1)).isNone && hdB s x.cnd) fun a => rfl
  · refine (cov_v hv (fun s y => match lastE o s v (o.effs.length - j) j with | some z => decide (y = z) | none => false) (fun a => rfl) fun s y z h1 h2 => ?_).mono (fun _ h => h) h7
    revert h1 h2
    cases lastE o s v (o.effs.length - j) j with
    | none => intro h; cases h
    | some u => intro h1 h2; rw [of_decide_eq_true h1, of_decide_eq_true h2]
  · exact cov_rs (fun s => !hdB s x.cnd) fun a => rfl
  · exact cov_rs (fun s => (lastE o s v (o.effs.length - j) j).isNone) fun a => rfl
theorem lastE_mem {o : No} {s : List Nat} {v z : Nat} : ∀ d i, lastE o s v d i = some z → ∃ e ∈ o.effs, e.v = v ∧ e.x = z
  | 0, i, h => by cases h
  | d + 1, i, h => by
    rw [lastE_succ] at h
    cases hl : lastE o s v d (i + 1) with
    | some y =>
      rw [hl] at h
      injection h with h
      subst h
      exact lastE_mem d (i + 1) hl
    | none =>
      rw [hl] at h
      cases he : o.effs[i]? with
      | none => rw [he] at h; cases h
      | some e =>
        rw [he] at h
        simp only at h
        by_cases hc : e.v = v ∧ hdB s e.cnd = true
        · rw [if_pos hc] at h
          injection h with h
          exact ⟨e, List.mem_of_getElem? he, hc.1, h⟩
        · rw [if_neg hc] at h; cases h
/-- The changes of the variables, from a bit on. -/
def rlP (T : Nt) (o : No) (p : Nat) (a : Nat → Bool) : Bool := (List.range T.vars.length).all fun v => decide (bP T.vars v < p) || decide (rv T.vars a 1 v = chgV o (rs T.vars a 0) v)
theorem rlP_iff {T : Nt} {o : No} {p : Nat} {a : Nat → Bool} : rlP T o p a = true ↔ ∀ v, v < T.vars.length → p ≤ bP T.vars v → rv T.vars a 1 v = chgV o (rs T.vars a 0) v := by
  unfold rlP
  rw [List.all_eq_true]
  constructor
  · intro h v hv hp
    have := h v (List.mem_range.2 hv)
    simp only [Bool.or_eq_true, decide_eq_true_eq] at this
    rcases this with h | h
    · omega
    · exact h
  · intro h v hv
    simp only [Bool.or_eq_true, decide_eq_true_eq]
    by_cases hp : bP T.vars v < p
    · exact .inl hp
    · exact .inr (h v (List.mem_range.1 hv) (by omega))
theorem rlB_iff {T : Nt} {o : No} {j : Nat} {a : Nat → Bool} : rlB T o j a = true ↔ ∀ v, v < T.vars.length → j ≤ v → rv T.vars a 1 v = chgV o (rs T.vars a 0) v := by
  unfold rlB
  rw [List.all_eq_true]
  constructor
  · intro h v hv hj
    have := h (v - j) (List.mem_range.2 (by omega))
    rw [show j + (v - j) = v by omega] at this
    exact of_decide_eq_true this
  · intro h k hk
    have := List.mem_range.1 hk
    exact decide_eq_true (h (j + k) (by omega) (by omega))
theorem chg_zero {T : Nt} {o : No} (hv : ∀ n ∈ T.vars, 1 ≤ n ∧ n ≤ 64) (ho : NoG T.vars o) {v : Nat} (hl : v < T.vars.length) (hw : wd (T.vars.getD v 0) = 0) (a : Nat → Bool) : rv T.vars a 1 v = chgV o (rs T.vars a 0) v := by
  have hm : T.vars.getD v 0 ∈ T.vars := by simp [List.getD, List.getElem?_eq_getElem hl]
  have h1 := wd_ge (hv _ hm).2
  rw [hw] at h1
  have hr0 := rv_lt T.vars a 0 v
  have hr1 := rv_lt T.vars a 1 v
  rw [hw] at hr0 hr1
  have e1 : rv T.vars a 1 v = 0 := by omega
  have e0 : rv T.vars a 0 v = 0 := by omega
  rw [e1]
  unfold chgV
  cases h : lastE o (rs T.vars a 0) v o.effs.length 0 with
  | none => rw [Option.getD_none, rs_at hl, e0]
  | some z =>
    obtain ⟨e, he, hev, hex⟩ := lastE_mem _ _ h
    have := (ho.eff e he).2
    rw [hev, hex] at this
    rw [Option.getD_some]
    omega
theorem rlB_rlP {T : Nt} {o : No} (hv : ∀ n ∈ T.vars, 1 ≤ n ∧ n ≤ 64) (ho : NoG T.vars o) (j : Nat) (hj : j < T.vars.length) : rlB T o j = rlP T o (bP T.vars j) := funext fun a => by
  rw [Bool.eq_iff_iff, rlB_iff, rlP_iff]
  constructor
  · intro h v hl hp
    by_cases hjv : j ≤ v
    · exact h v hl hjv
    · have hn : T.vars[v]? = some (T.vars.getD v 0) := by simp [List.getD, List.getElem?_eq_getElem hl]
      have h2 := bP_succ hn
      have h3 := bP_mono (vars := T.vars) (show v + 1 ≤ j by omega)
      exact chg_zero hv ho hl (by omega) a
  · intro h v hl hp
    exact h v hl (bP_mono hp)
theorem cov_rlP {S : BFn → Prop} {T : Nt} {o : No} (j : Nat) (hj : j < T.vars.length) : CovR (2 * nBits T.vars) S (fun K => K = rlP T o (bP T.vars j)) ((nBits T.vars - bP T.vars j + 1) * 2 ^ nBits T.vars) := by
  have hjb := bP_mono (vars := T.vars) (show j ≤ T.vars.length by omega)
  rw [bP_all] at hjb
  refine cov_fix (f := bP T.vars j) (w := nBits T.vars - bP T.vars j) (fun a c hi => ?_) fun a c ha hc hev q hq h1 h2 => ?_
  · have e0 := rs_ev (rvW_ev hi)
    have e1 : ∀ v, v < T.vars.length → bP T.vars j ≤ bP T.vars v → rv T.vars a 1 v = rv T.vars c 1 v := fun v hv hp => rv_od fun q h1 h2 => by
      have := bP_wd hv
      exact rvW_od hi q (by omega) (by omega) (by omega)
    rw [Bool.eq_iff_iff, rlP_iff, rlP_iff, e0]
    exact ⟨fun h v hv hp => by rw [← e1 v hv hp]; exact h v hv hp, fun h v hv hp => by rw [e1 v hv hp]; exact h v hv hp⟩
  · rw [rlP_iff] at ha hc
    rw [← bP_all] at hq
    obtain ⟨v, k, hv, hk, rfl⟩ := bP_split T.vars.length (Nat.le_refl _) q hq
    have hp : bP T.vars j ≤ bP T.vars v := by
      rcases Nat.lt_or_ge v j with h | h
      · have hn : T.vars[v]? = some (T.vars.getD v 0) := by simp [List.getD, List.getElem?_eq_getElem hv]
        have h3 := bP_succ hn
        have h4 := bP_mono (vars := T.vars) (show v + 1 ≤ j by omega)
        omega
      · exact bP_mono h
    exact rv_bits ((ha v hv hp).trans (by rw [rs_ev hev]; exact (hc v hv hp).symm)) k hk
def rlC (b : Nat) : Nat := ((List.range (b + 1)).map fun p => (b - p + 1) * 2 ^ b).sum
theorem cov_rl {S : BFn → Prop} {T : Nt} {o : No} (hv : ∀ n ∈ T.vars, 1 ≤ n ∧ n ≤ 64) (ho : NoG T.vars o) : CovR (2 * nBits T.vars) S (fun G => ∃ j, j < T.vars.length ∧ G = rlB T o j) (rlC (nBits T.vars)) := by
  refine (CovR.sum (fun p G => ∃ j, j < T.vars.length ∧ bP T.vars j = p ∧ G = rlB T o j) (fun p => (nBits T.vars - p + 1) * 2 ^ nBits T.vars) (nBits T.vars + 1) fun p hp => ?_).mono (fun G ⟨j, hj, e⟩ => ⟨bP T.vars j, ?_, j, hj, rfl, e⟩) (Nat.le_refl _)
  · by_cases hx : ∃ j, j < T.vars.length ∧ bP T.vars j = p
    · obtain ⟨j, hj, rfl⟩ := hx
      refine (cov_rlP (o := o) j hj).mono (fun G ⟨k, hk, e1, e2⟩ => ?_) (Nat.le_refl _)
      rw [e2, rlB_rlP hv ho k hk, e1]
    · exact (CovR.none _ _).mono (fun G ⟨j, hj, e, _⟩ => hx ⟨j, hj, e⟩) (Nat.zero_le _)
  · have := bP_mono (vars := T.vars) (show j ≤ T.vars.length by omega)
    rw [bP_all] at this
    omega
theorem sum_wd (vars : List Nat) : ∀ k, k ≤ vars.length → ((List.range k).map fun v => 432 + 2 * ((wd (vars.getD v 0) + 1) * 2 ^ nBits vars)).sum = k * 432 + 2 * ((bP vars k + k) * 2 ^ nBits vars)
  | 0, _ => by simp [bP]
  | k + 1, h => by
    have ih := sum_wd vars k (by omega)
    have hn : vars[k]? = some (vars.getD k 0) := by simp [List.getD, List.getElem?_eq_getElem (show k < vars.length by omega)]
    rw [List.range_succ, List.map_append, List.sum_append, ih, bP_succ hn]
    simp only [List.map_cons, List.map_nil, List.sum_cons, List.sum_nil, Nat.add_zero]
    have e : (bP vars k + wd (vars.getD k 0) + (k + 1)) * 2 ^ nBits vars = (bP vars k + k) * 2 ^ nBits vars + (wd (vars.getD k 0) + 1) * 2 ^ nBits vars := by rw [← Nat.add_mul]; congr 1; omega
    rw [e]
    omega
/-- What a relation comes to, beside literals. -/
def relC (b V : Nat) : Nat := (V * 432 + 2 * ((b + V) * 2 ^ b)) + (8 * efC b V + (rlC b + (facC b V + (b + 1) * 2 ^ b)))
theorem cov_rel3 {T : Nt} {o : No} (hv : ∀ n ∈ T.vars, 1 ≤ n ∧ n ≤ 64) (ho : NoG T.vars o) (he : o.effs.length ≤ 8) {V : Nat} (hV : T.vars.length ≤ V) : CovR (2 * nBits T.vars) (ShS (nBits T.vars)) (RelS2 T o) (relC (nBits T.vars) V) := by
  have c1 : CovR (2 * nBits T.vars) (ShS (nBits T.vars)) (fun G => ∃ v, v < T.vars.length ∧ (SaS T.vars v G ∨ G = (fun a => leB T.vars o v 0 a && decide (rv T.vars a 0 v = rv T.vars a 1 v)) ∨ G = fun a => decide (rv T.vars a 1 v = chgV o (rs T.vars a 0) v))) (V * 432 + 2 * ((nBits T.vars + V) * 2 ^ nBits T.vars)) := by
    refine (CovR.sum _ (fun v => 432 + 2 * ((wd (T.vars.getD v 0) + 1) * 2 ^ nBits T.vars)) T.vars.length fun v hl => ?_).mono (fun _ h => h) ?_
    · refine (CovR.or (N1 := 432) (N2 := 2 * ((wd (T.vars.getD v 0) + 1) * 2 ^ nBits T.vars)) ?_ ?_)
      · have hw := wd_le (T.vars.getD v 0)
        refine (CovR.eachW (fun j G => G = (fun a => a (2 * (bP T.vars v + j)) && a (2 * (bP T.vars v + j) + 1)) ∨ G = (fun a => !a (2 * (bP T.vars v + j)) && !a (2 * (bP T.vars v + j) + 1)) ∨
          G = (fun a => (a (2 * (bP T.vars v + j)) && a (2 * (bP T.vars v + j) + 1)) || (!a (2 * (bP T.vars v + j)) && !a (2 * (bP T.vars v + j) + 1))) ∨ G = saB T.vars v j) (wd (T.vars.getD v 0)) (c := 72) fun j hj => ?_).mono (fun _ h => h) (by omega)
        have one : ∀ f : Bool → Bool → Bool, CovR (2 * nBits T.vars) (ShS (nBits T.vars)) (fun K => K = fun a => f (a (2 * (bP T.vars v + j))) (a (2 * (bP T.vars v + j) + 1))) 18 := fun f => ((PairL.one (s := bP T.vars v) (w := wd (T.vars.getD v 0)) hj f).cov.mono (fun _ h => h) (by omega)).toR
        refine (one fun x y => x && y).or ((one fun x y => !x && !y).or ((one fun x y => (x && y) || (!x && !y)).or (((pl_sa T.vars v j).cov.mono (fun _ h => h) (by omega)).toR (N := 18))))
      · refine ((cov_v hl (fun s y => (lastE o s v (o.effs.length - 0) 0).isNone && decide (s.getD v 0 = y)) (fun a => ?_) fun s y z h1 h2 => ?_).or (cov_v hl (fun s y => decide (y = chgV o s v)) (fun a => rfl) fun s y z h1 h2 => ?_)).mono (fun _ h => h) (by omega)
        · rw [rs_at hl]; rfl
        · rw [Bool.and_eq_true, decide_eq_true_eq] at h1 h2
          exact h1.2.symm.trans h2.2
        · rw [of_decide_eq_true h1, of_decide_eq_true h2]
    · rw [sum_wd _ _ (Nat.le_refl _), bP_all]
      exact Nat.add_le_add (Nat.mul_le_mul_right _ hV) (Nat.mul_le_mul_left _ (Nat.mul_le_mul_right _ (by omega)))
  have c2 : CovR (2 * nBits T.vars) (ShS (nBits T.vars)) (fun G => ∃ j, j < o.effs.length ∧ ∃ x, o.effs[j]? = some x ∧ EfS T.vars o x.v j x G) (8 * efC (nBits T.vars) V) := by
    refine (CovR.eachW (fun j G => ∃ x, o.effs[j]? = some x ∧ EfS T.vars o x.v j x G) _ (c := efC (nBits T.vars) V) fun j hj => ?_).mono (fun _ h => h) (Nat.mul_le_mul_right _ he)
    obtain ⟨x, hx⟩ : ∃ x, o.effs[j]? = some x := ⟨_, List.getElem?_eq_getElem hj⟩
    have hm := List.mem_of_getElem? hx
    refine (cov_ef (o := o) (j := j) (ho.eff x hm).1 (ho.cnd x hm) (Nat.le_trans (fc_len (ho.cnd x hm)) hV)).mono (fun G ⟨y, hy, hG⟩ => ?_) (Nat.le_refl _)
    rw [hx] at hy
    injection hy with hy
    subst hy
    exact hG
  have c5 : CovR (2 * nBits T.vars) (ShS (nBits T.vars)) (fun K => K = fun a => hdB (rs T.vars a 0) o.pre && rlB T o 0 a) ((nBits T.vars + 1) * 2 ^ nBits T.vars) := by
    refine cov_fix (f := 0) (w := nBits T.vars) (fun a c hi => ?_) fun a c ha hc hev q hq h1 h2 => ?_
    · have e1 : rs T.vars a 1 = rs T.vars c 1 := rs_congr fun p hp => rvW_od hi p hp (by omega) (by omega)
      rw [rlB_all, rlB_all, rs_ev (rvW_ev hi), e1]
    · rw [Bool.and_eq_true, rlB_all, decide_eq_true_eq] at ha hc
      exact rs_bits (nx := 1) (ha.2.trans (by rw [rs_ev hev]; exact hc.2.symm)) q hq
  refine (c1.or (c2.or ((cov_rl hv ho).or ((cov_fac T.vars ho.pre (Nat.le_trans (fc_len ho.pre) hV)).or c5)))).mono (fun G hG => ?_) (Nat.le_refl _)
  rcases hG with ⟨v, hl, h⟩ | h | h | h
  · rcases h with h | h | h | ⟨j, hj, x, hx, hxv, h⟩
    · exact .inl ⟨v, hl, .inl h⟩
    · exact .inl ⟨v, hl, .inr (.inl h)⟩
    · exact .inl ⟨v, hl, .inr (.inr h)⟩
    · subst hxv
      exact .inr (.inl ⟨j, hj, x, hx, h⟩)
  · exact .inr (.inr (.inl h))
  · exact .inr (.inr (.inr (.inl h)))
  · exact .inr (.inr (.inr (.inr h)))
end Go.Proofs.Ytcoeknnghfajnaa
end
section
set_option maxRecDepth 100000
set_option linter.unusedSimpArgs false
set_option linter.unusedVariables false
namespace Go.Proofs.Ytcoeknnghfajnaa
open Go Go.W Go.Tk Go.Rx Go.Bd Go.Sy Go.Maps
theorem lst_img {α : Type} (f : (Nat → Bool) → α) (Q : Nat → Prop) : ∀ (l : List α) (G : (Nat → Bool) → Prop), (∀ a c, G a → G c → f a = f c → ∀ i, Q i → a i = c i) → (∀ a, G a → f a ∈ l) →
    ∃ Λ : List (Nat → Bool), Λ.length ≤ l.length ∧ ∀ a, G a → ∃ π ∈ Λ, ∀ i, Q i → a i = π i
  | [], G, _, hm => ⟨[], Nat.le_refl _, fun a ha => by cases hm a ha⟩
  | x :: l, G, h, hm => by
    obtain ⟨Λ, l1, l2⟩ := lst_img f Q l (fun a => G a ∧ f a ≠ x) (fun a c ha hc => h a c ha.1 hc.1) fun a ha => by
      rcases List.mem_cons.1 (hm a ha.1) with e | e
      · exact absurd e ha.2
      · exact e
    by_cases hx : ∃ a, G a ∧ f a = x
    · obtain ⟨a, ha, e⟩ := hx
      refine ⟨a :: Λ, by rw [List.length_cons, List.length_cons]; omega, fun c hc => ?_⟩
      by_cases hcx : f c = x
      · exact ⟨a, by simp, h c a hc ha (hcx.trans e.symm)⟩
      · obtain ⟨π, h1, h2⟩ := l2 c ⟨hc, hcx⟩
        exact ⟨π, by simp [h1], h2⟩
    · refine ⟨Λ, by rw [List.length_cons]; omega, fun c hc => l2 c ⟨hc, fun e => hx ⟨c, hc, e⟩⟩⟩
def ptN (n M : Nat) : Nat := ((List.range n).map fun t => min (2 ^ t) M).sum
section
variable {n M : Nat} {F : BFn} {Λ : List (Nat → Bool)}
theorem pts_at (hl : Λ.length ≤ M) (hp : ∀ a, F a = true → ∃ π ∈ Λ, ∀ i, i < n → a i = π i) (k : Nat) (hk : k < n) : ∃ L : List (Nat → Bool), L.length ≤ min (2 ^ k) M ∧ ∀ a, F a = true → ∃ π ∈ L, ∀ i, i < k → a i = π i := by
  by_cases h : 2 ^ k ≤ M
  · obtain ⟨L, l1, l2⟩ := lst_det (List.range k) (fun i => i < k) (fun a => F a = true) fun a c _ _ hi i hQ => hi i (List.mem_range.2 hQ)
    exact ⟨L, by rw [Nat.min_eq_left h]; simpa using l1, l2⟩
  · refine ⟨Λ, by rw [Nat.min_eq_right (by omega)]; exact hl, fun a ha => ?_⟩
    obtain ⟨π, h1, h2⟩ := hp a ha
    exact ⟨π, h1, fun i hi => h2 i (by omega)⟩
theorem cov_pts {S : BFn → Prop} (hF : ∀ a b : Nat → Bool, (∀ i, i < n → a i = b i) → F a = F b) (hl : Λ.length ≤ M) (hp : ∀ a, F a = true → ∃ π ∈ Λ, ∀ i, i < n → a i = π i) : CovR n S (fun K => K = F) (ptN n M) := by
  refine (cov_lev (rel := fun _ => true) (sh := fun _ => false) (fun a c hi => hF a c fun i h => hi i h rfl) (fun t => min (2 ^ t) M) (fun t a _ _ h => by cases h) fun t ht _ _ => ?_).mono (fun _ h => h) ?_
  · obtain ⟨L, l1, l2⟩ := pts_at hl hp t ht
    refine ⟨L, l1, fun a ha => ?_⟩
    obtain ⟨π, h1, h2⟩ := l2 a ha
    exact ⟨π, h1, fun i hi _ => h2 i hi⟩
  · exact sum_mono fun t _ => by rw [if_pos ⟨rfl, rfl⟩]; exact Nat.le_refl _
end
def innN (b nx i : Nat) : Bool := decide (i < 2 * b ∧ i % 2 = nx)
def exC (b nx M : Nat) : Nat := exN (innN b nx) (shT b) (fun k => min (2 ^ k) M) (2 * b)
theorem inn_eq (T : Nt) (nx : Nat) : inn T nx = innN (nBits T.vars) nx := funext fun i => by
  unfold inn innN
  exact ins_half
theorem cov_exs {T : Nt} {nx M : Nat} {F : BFn} {Λ : List (Nat → Bool)} (hn : nx < 2) (hF : ∀ a b : Nat → Bool, (∀ i, i < 2 * nBits T.vars → a i = b i) → F a = F b) (hl : Λ.length ≤ M) (hp : ∀ a, F a = true → ∃ π ∈ Λ, ∀ i, i < 2 * nBits T.vars → a i = π i) :
    CovR (2 * nBits T.vars) (ShS (nBits T.vars)) (fun G => ∃ H, Bd.IsC F H ∧ ∀ a, G a = true ↔ qS 1 (inn T nx) H a) (exC (nBits T.vars) nx M) := by
  refine (cov_ex (inn := innN (nBits T.vars) nx) (sh := shT (nBits T.vars)) hF (fun k => min (2 ^ k) M) (pts_at hl hp) fun t ht hit hsh K hK => ?_).mono (fun G ⟨H, ⟨k, π, e⟩, hG⟩ => ⟨k, π, funext fun a => bool_eq ?_⟩) (Nat.le_refl _)
  · have hit := of_decide_eq_false hit
    have hsh := of_decide_eq_true hsh
    refine ⟨1 - nx, by omega, fun a c h => hK a c fun i h1 h2 h3 => ?_⟩
    have h3 := of_decide_eq_false h3
    have := h (i / 2) (by omega) (by omega)
    rwa [show 2 * (i / 2) + (1 - nx) = i by omega] at this
  · rw [hG, exB_iff, inn_eq]
    unfold qS
    rw [if_pos rfl]
    simp only [e]
    exact ⟨fun ⟨c, h1, h2⟩ => ⟨c, fun j hj => h1 j hj, h2⟩, fun ⟨c, h1, h2⟩ => ⟨c, fun j hj => h1 j hj, h2⟩⟩
theorem len_ev (b : Nat) : ((List.range b).map fun p => 2 * p).length = b := by rw [List.length_map, List.length_range]
/-- The points of an image, one for each state. -/
theorem imA_pts (T : Nt) (o : No) (P : List Nat → Bool) : ∃ Λ : List (Nat → Bool), Λ.length ≤ (stsK T.vars T.vars.length).length ∧ ∀ a, imA T o P a = true → ∃ π ∈ Λ, ∀ i, i < 2 * nBits T.vars → a i = π i := by
  have h1 : ∀ a, imA T o P a = true → okB T.vars a = true ∧ rs T.vars a 1 = apS o (rs T.vars a 0) := fun a ha => by
    unfold imA setF relB at ha
    simp only [Bool.and_eq_true, decide_eq_true_eq] at ha
    exact ⟨ha.1.1, ha.2.2⟩
  refine lst_img (fun a => rs T.vars a 0) (fun i => i < 2 * nBits T.vars) _ (fun a => imA T o P a = true) (fun a c ha hc e i hi => ?_) fun a ha => sts_mem.2 (okB_iff.1 (h1 a ha).1)
  have e0 : rs T.vars a 0 = rs T.vars c 0 := e
  rcases Nat.mod_two_eq_zero_or_one i with h0 | h0
  · have := rs_bits e0 (i / 2) (by omega)
    rwa [show 2 * (i / 2) + 0 = i by omega] at this
  · have := rs_bits (nx := 1) ((h1 a ha).2.trans (by rw [e0]; exact (h1 c hc).2.symm)) (i / 2) (by omega)
    rwa [show 2 * (i / 2) + 1 = i by omega] at this
theorem prA_pts (T : Nt) (o : No) (P : List Nat → Bool) : ∃ Λ : List (Nat → Bool), Λ.length ≤ 2 ^ nBits T.vars ∧ ∀ a, prA T o P a = true → ∃ π ∈ Λ, ∀ i, i < 2 * nBits T.vars → a i = π i := by
  have h1 : ∀ a, prA T o P a = true → rs T.vars a 1 = apS o (rs T.vars a 0) := fun a ha => by
    unfold prA relB at ha
    simp only [Bool.and_eq_true, decide_eq_true_eq] at ha
    exact ha.1.2
  obtain ⟨Λ, l1, l2⟩ := lst_det ((List.range (nBits T.vars)).map fun p => 2 * p) (fun i => i < 2 * nBits T.vars) (fun a => prA T o P a = true) fun a c ha hc hi i hQ => by
    have hev : ∀ p, p < nBits T.vars → a (2 * p) = c (2 * p) := fun p hp => hi _ (List.mem_map.2 ⟨p, List.mem_range.2 hp, rfl⟩)
    rcases Nat.mod_two_eq_zero_or_one i with h0 | h0
    · have := hev (i / 2) (by omega)
      rwa [show 2 * (i / 2) = i by omega] at this
    · have := rs_bits (nx := 1) ((h1 a ha).trans (by rw [rs_ev hev]; exact (h1 c hc).symm)) (i / 2) (by omega)
      rwa [show 2 * (i / 2) + 1 = i by omega] at this
  exact ⟨Λ, by rw [len_ev] at l1; exact l1, l2⟩
theorem prA_fin {T : Nt} {o : No} {P : List Nat → Bool} {a b : Nat → Bool} (h : ∀ i, i < 2 * nBits T.vars → a i = b i) : prA T o P a = prA T o P b := by
  unfold prA
  rw [relB_fin h]
  congr 1
  refine setF_x _ _ _ _ fun p _ hp => ?_
  have e : ∀ a : Nat → Bool, sgA (2 * nBits T.vars) 0 a (2 * p) = a (2 * p + 1) := fun a => sgA_in (n := 2 * nBits T.vars) (nx := 0) (p := p) (by omega) (by omega)
  rw [e, e]
  exact h _ (by omega)
/-- A renamed part is a part of the renamed function. -/
theorem isc_ren {b nx : Nat} {F H : BFn} (hn : nx < 2) (hF : XN nx b F) (h : Bd.IsC F H) : Bd.IsC (fun a => F (sgA (2 * b) nx a)) fun a => H (sgA (2 * b) nx a) := by
  obtain ⟨k, π, e⟩ := h
  refine ⟨2 * ((k + 1 - nx) / 2), fun i => if nx = 0 then π (i - 1) else π (i + 1), fun a => ?_⟩
  show H (sgA (2 * b) nx a) = F (sgA (2 * b) nx _)
  rw [e]
  refine hF _ _ fun p hp => ?_
  rw [sgA_in (by omega) hn]
  show (if 2 * p + nx < k then π (2 * p + nx) else sgA (2 * b) nx a (2 * p + nx)) = if 2 * p + (1 - nx) < 2 * ((k + 1 - nx) / 2) then (if nx = 0 then π (2 * p + (1 - nx) - 1) else π (2 * p + (1 - nx) + 1)) else a (2 * p + (1 - nx))
  rw [sgA_in (by omega) hn]
  rcases (show nx = 0 ∨ nx = 1 by omega) with rfl | rfl
  · by_cases h : 2 * p + 0 < k
    · rw [if_pos h, if_pos (by omega), if_pos rfl]; rfl
    · rw [if_neg h, if_neg (by omega)]
  · by_cases h : 2 * p + 1 < k
    · rw [if_pos h, if_pos (by omega), if_neg (by omega)]
    · rw [if_neg h, if_neg (by omega)]
theorem ren_xn {b nx : Nat} {F : BFn} (hn : nx < 2) (hF : XN nx b F) : XN (1 - nx) b fun a => F (sgA (2 * b) nx a) := fun a c h => hF _ _ fun p hp => by
  rw [sgA_in (by omega) hn, sgA_in (by omega) hn]
  exact h p hp
theorem cov_ren {b nx : Nat} {F : BFn} (hn : nx < 2) (hF : XN nx b F) : CovR (2 * b) (ShS b) (fun G => ∃ H, Bd.IsC F H ∧ G = fun a => H (sgA (2 * b) nx a)) (2 ^ (b - 3)) :=
  (CovR.isc (cov_xn (by omega) (ren_xn hn hF))).mono (fun G ⟨H, hH, e⟩ => by rw [e]; exact isc_ren hn hF hH) (Nat.le_refl _)
def imC (b : Nat) : Nat := ptN (2 * b) 512 + (exC b 0 512 + 2 ^ (b - 3))
def prC (b : Nat) : Nat := 2 ^ (b - 3) + (ptN (2 * b) (2 ^ b) + (exC b 1 (2 ^ b) + 2 ^ (b - 3)))
/-- What an image comes to, beside the relation. -/
def ImgT (T : Nt) (o : No) (P : List Nat → Bool) (G : BFn) : Prop := G = imA T o P ∨ (∃ H, Bd.IsC (imA T o P) H ∧ ∀ a, G a = true ↔ qS 1 (inn T 0) H a) ∨
  ∃ X, (∀ a, X a = true ↔ qS 1 (inn T 0) (imA T o P) a) ∧ ∃ H, Bd.IsC X H ∧ G = fun b => H (sgA (2 * nBits T.vars) 1 b)
def PreT (T : Nt) (o : No) (P : List Nat → Bool) (G : BFn) : Prop := (∃ H, Bd.IsC (setF T.vars P) H ∧ G = fun b => H (sgA (2 * nBits T.vars) 0 b)) ∨ G = prA T o P ∨ (∃ H, Bd.IsC (prA T o P) H ∧ ∀ a, G a = true ↔ qS 1 (inn T 1) H a) ∨ G = setF T.vars (preP o P)
theorem xn_set (vars : List Nat) (P : List Nat → Bool) : XN 0 (nBits vars) (setF vars P) := XN.of (setF_x vars P)
theorem ex_xn {T : Nt} {F X : BFn} (hF : ∀ a b : Nat → Bool, (∀ i, i < 2 * nBits T.vars → a i = b i) → F a = F b) (hX : ∀ a, X a = true ↔ qS 1 (inn T 0) F a) : XN 1 (nBits T.vars) X := fun a c h => by
  have e : ∀ a, X a = exB (innN (nBits T.vars) 0) F 0 (fun _ => false) a := fun a => bool_eq (by
    rw [hX, exB_iff, inn_eq]
    unfold qS
    rw [if_pos rfl]
    simp only [pfx_zero]
    exact ⟨fun ⟨c, h1, h2⟩ => ⟨c, fun j hj => h1 j hj, h2⟩, fun ⟨c, h1, h2⟩ => ⟨c, fun j hj => h1 j hj, h2⟩⟩)
  rw [e, e]
  refine exB_dep hF fun i h1 h2 h3 => ?_
  have h3 := of_decide_eq_false h3
  have := h (i / 2) (by omega)
  rwa [show 2 * (i / 2) + 1 = i by omega] at this
/-- What the counts need of a task. -/
structure SmC (T : Nt) : Prop where
  vars : ∀ n ∈ T.vars, 1 ≤ n ∧ n ≤ 64
  ops : ∀ o ∈ T.ops, NoG T.vars o
  el : ∀ o ∈ T.ops, o.effs.length ≤ 8
  vl : T.vars.length ≤ 12
  pr : prL T.vars ≤ 512
  bs : nBits T.vars ≤ 11 ∧ 180 * nBits T.vars + 4 * T.vars.sum ≤ 2208
theorem smc {T T' : Nt} (hT : SmT T) (hA : Alk T T') : SmC T' := by
  have hg := hA.good hT.g
  have hp := hT.pr T.vars.length
  rw [List.take_length] at hp
  refine ⟨hg.vars, hg.ops, fun o ho => ?_, by rw [hA.vars]; exact hT.vl, by rw [hA.vars]; exact hp, by rw [hA.vars]; exact sm_bs hT⟩
  have h1 : skO o ∈ T.ops.map skO := by rw [← hA.ops]; exact List.mem_map.2 ⟨o, ho, rfl⟩
  obtain ⟨o2, h2, e⟩ := List.mem_map.1 h1
  have h3 := hT.el o2 h2
  have h4 : o2.effs.length = o.effs.length := by
    have : (o2.effs.map skE) = o.effs.map skE := by
      unfold skO at e
      simp only [Prod.mk.injEq] at e
      exact e.2.2.2
    have := congrArg List.length this
    simpa using this
  omega
theorem cov_imt {T : Nt} (hT : SmC T) (o : No) (P : List Nat → Bool) : CovR (2 * nBits T.vars) (ShS (nBits T.vars)) (ImgT T o P) (imC (nBits T.vars)) := by
  obtain ⟨Λ, l1, l2⟩ := imA_pts T o P
  have hp := hT.pr
  have hl : Λ.length ≤ 512 := by
    rw [stsK_len _ (Nat.le_refl _), List.take_length] at l1
    omega
  refine (cov_pts (fun a b h => imA_fin h) hl l2).or (CovR.or (cov_exs (by omega) (fun a b h => imA_fin h) hl l2) ?_)
  by_cases hX : ∃ X : BFn, ∀ a, X a = true ↔ qS 1 (inn T 0) (imA T o P) a
  · obtain ⟨X, hX⟩ := hX
    refine (cov_ren (F := X) (nx := 1) (by omega) (ex_xn (fun a b h => imA_fin h) hX)).mono (fun G hG => ?_) (Nat.le_refl _)
    obtain ⟨Y, hY, H, hH, e⟩ := hG
    have : Y = X := ex_uniq _ _ hY hX
    subst this
    exact ⟨H, hH, e⟩
  · exact (CovR.none _ _).mono (fun G ⟨X, h, _⟩ => hX ⟨X, h⟩) (Nat.zero_le _)
theorem cov_prt (T : Nt) (o : No) (P : List Nat → Bool) : CovR (2 * nBits T.vars) (ShS (nBits T.vars)) (PreT T o P) (prC (nBits T.vars)) := by
  obtain ⟨Λ, l1, l2⟩ := prA_pts T o P
  exact (cov_ren (by omega) (xn_set _ _)).or ((cov_pts (fun a b h => prA_fin h) l1 l2).or ((cov_exs (by omega) (fun a b h => prA_fin h) l1 l2).or (cov_xn (by omega) (xn_set _ _))))
end Go.Proofs.Ytcoeknnghfajnaa
end
section
set_option maxRecDepth 100000
set_option linter.unusedSimpArgs false
set_option linter.unusedVariables false
namespace Go.Proofs.Ytcoeknnghfajnaa
open Go Go.W Go.Tk Go.Rx Go.Bd Go.Sy Go.Maps
def RunR (n lim : Nat) (S W0 : BFn → Prop) (N : Nat) (ns : Ns) : Prop := ∃ W : BFn → Prop, Stp n lim (fun G => W0 G ∨ W G) false [] false ns ∧ CovR n S W N
theorem RunR.step {n lim N0 N N1 : Nat} {S W0 W : BFn → Prop} {e : Bool} {ns ns' : Ns} (h : RunR n lim S W0 N ns) (h0 : CovW n W0 N0) (hS : ∀ G, S G → W0 G) (hs : Stp n lim (fun G => W0 G ∨ W G) false ns e ns') (hc : CovR n S W N1) (hl : N0 + (N + N1) < lim) : e = false ∧ RunR n lim S W0 (N + N1) ns' := by
  obtain ⟨W1, h1, c1⟩ := h
  have h2 : Stp n lim (fun G => W0 G ∨ (W1 G ∨ W G)) false [] e ns' := (h1.mono fun G hG => hG.imp id .inl).trans (hs.mono fun G hG => hG.imp id .inr)
  have hc2 := c1.or hc
  have hlen := cov_len (ns0 := []) h2.ext.wf (hc2.join h0 hS) h2.new
  have : e = false := by
    cases e with
    | false => rfl
    | true =>
      have := h2.full rfl rfl
      simp at hlen
      omega
  subst this
  exact ⟨rfl, _, h2, hc2⟩
theorem RunR.start {n lim N0 : Nat} {S W0 : BFn → Prop} {e : Bool} {ns : Ns} (h0 : CovW n W0 N0) (hS : ∀ G, S G → W0 G) (hs : Stp n lim W0 false [] e ns) (hl : N0 < lim) : e = false ∧ RunR n lim S W0 0 ns := by
  have h1 : RunR n lim S W0 0 [] := ⟨fun _ => False, Stp.refl (Wf.nil n) (Nat.zero_le _), CovR.none n S⟩
  exact h1.step h0 hS (hs.mono fun G h => .inl h) (CovR.none n S) (by omega)
/-- A space in a law: with so many nodes, after so many operations, with some sets. -/
def Lr (s m lim : Nat) (T : Nt) (q : SpC) (W0 : BFn → Prop) (B : Asr) (w : World) (F : List Nat) (N c : Nat) (ps : List Kp2) (w' : World) : Prop :=
  ∃ ns ks ss, RunR (2 * nBits T.vars) lim (ShS (nBits T.vars)) W0 N ns ∧ SpG lim T q ns ks ss ∧ (∀ p ∈ ps, Kn T ns ks p.1 p.2) ∧ ks.length ≤ c ∧ ss.length ≤ c ∧ At w F (SpcA s m lim T q ns ks ss B) w'
/-- What the operations share. -/
structure LrC (T : Nt) (W0 : BFn → Prop) (N0 : Nat) : Prop where
  sh : ∀ G, ShS (nBits T.vars) G → W0 G
  bas : ∀ G, BasS T G → W0 G
  cov : CovW (2 * nBits T.vars) W0 N0
section
variable {w w1 : World} {F : List Nat} {B : Asr} {s m lim N N0 c : Nat} {T : Nt} {q : SpC} {W0 W : BFn → Prop} {ps : List Kp2}
theorem LrC.lit (hC : LrC T W0 N0) : LitW T.vars fun G => W0 G ∨ W G := litW fun G h => .inl (hC.bas G (.inl (.inl h)))
theorem LrC.vl (hC : LrC T W0 N0) {v x : Nat} (hv : v < T.vars.length) (hx : x < T.vars.getD v 0) : VlW T.vars v x 0 fun G => W0 G ∨ W G := vlW fun G h => .inl (hC.bas G (.inl (.inr (.inl ⟨v, hv, x, hx, .inl h⟩))))
theorem LrC.fc (hC : LrC T W0 N0) {l : List Go.Tk.Fc} (hr : FcRng T.vars l) (h : ∀ j, j < l.length → W (fcB T.vars l j)) : FcW T.vars l fun G => W0 G ∨ W G :=
  ⟨fun f hf => hC.vl (hr f hf).1 (hr f hf).2, fun j hj => .inr (h j hj)⟩
theorem lr_sres {P : List Nat → Bool} {N1 : Nat} {ns : Ns} {ks : List (Nat × Bool)} {ss : List (Nat × Nat)} {v : Value} {w' : World} (hC : LrC T W0 N0) (hr : RunR (2 * nBits T.vars) lim (ShS (nBits T.vars)) W0 N ns) (hG : SpG lim T q ns ks ss) (hk : ∀ p ∈ ps, Kn T ns ks p.1 p.2) (hkl : ks.length ≤ c) (hsl : ss.length ≤ c)
    (h : SRes s m lim T q ns ks ss B w F (fun G => W0 G ∨ W G) P v w') (hc : CovR (2 * nBits T.vars) (ShS (nBits T.vars)) W N1) (hl : N0 + (N + N1) < lim) :
    ∃ x : Nat, v = .tuple #[.int .i64 (x : Nat), .nilIface] ∧ Lr s m lim T q W0 B w F (N + N1) (c + 1) ((x, P) :: ps) w' := by
  obtain ⟨x, e', ns', ss', rfl, h2, h3, h4, h5, h6, h7⟩ := h
  obtain ⟨rfl, hr2⟩ := hr.step hC.cov hC.sh h2 hc hl
  have hkl2 : (putM ks x true).length ≤ ks.length + 1 := putM_len_le
  refine ⟨x, rfl, ns', _, ss', hr2, h5, fun p hp => ?_, by show (putM ks x true).length ≤ _; omega, by omega, h7⟩
  rcases List.mem_cons.1 hp with rfl | hp
  · exact ⟨getM_put _ _ _, h4 rfl⟩
  · exact ⟨getM_keep (hk p hp).kn, (hk p hp).ok.stp hG.ok h2⟩
theorem lr_union (a b : Nat) (P Q : List Nat → Bool) (hC : LrC T W0 N0) (hB : Lcl B) (h : Lr s m lim T q W0 B w F N c ps w1) (ha : (a, P) ∈ ps) (hb : (b, Q) ∈ ps) (hl : N0 + (N + 2 ^ (nBits T.vars - 3)) < lim) (hc : c < 100000) :
    Calls Try.prog 15 [.pointer (some ⟨s, 0, none⟩), .int .i64 (a : Nat), .int .i64 (b : Nat)].toArray w1 fun en w' => ∃ v, en = .returned v ∧ ∃ x : Nat, v = .tuple #[.int .i64 (x : Nat), .nilIface] ∧ Lr s m lim T q W0 B w F (N + 2 ^ (nBits T.vars - 3)) (c + 1) ((x, fun z => P z || Q z) :: ps) w' := by
  obtain ⟨ns, ks, ss, hr, hG, hk, hkl, hsl, hA⟩ := h
  refine (union_spec a b P Q hG hB hA (hk _ ha) (hk _ hb) (by omega) (W := fun G => W0 G ∨ G = setF T.vars fun z => P z || Q z) (.inr rfl)).mono ?_
  rintro en w' ⟨v, rfl, hs⟩
  exact ⟨v, rfl, lr_sres hC hr hG hk hkl hsl hs (cov_xn (by omega) (xn_set _ _)) hl⟩
theorem lr_intersect (a b : Nat) (P Q : List Nat → Bool) (hC : LrC T W0 N0) (hB : Lcl B) (h : Lr s m lim T q W0 B w F N c ps w1) (ha : (a, P) ∈ ps) (hb : (b, Q) ∈ ps) (hl : N0 + (N + 2 ^ (nBits T.vars - 3)) < lim) (hc : c < 100000) :
    Calls Try.prog 16 [.pointer (some ⟨s, 0, none⟩), .int .i64 (a : Nat), .int .i64 (b : Nat)].toArray w1 fun en w' => ∃ v, en = .returned v ∧ ∃ x : Nat, v = .tuple #[.int .i64 (x : Nat), .nilIface] ∧ Lr s m lim T q W0 B w F (N + 2 ^ (nBits T.vars - 3)) (c + 1) ((x, fun z => P z && Q z) :: ps) w' := by
  obtain ⟨ns, ks, ss, hr, hG, hk, hkl, hsl, hA⟩ := h
  refine (intersect_spec a b P Q hG hB hA (hk _ ha) (hk _ hb) (by omega) (W := fun G => W0 G ∨ G = setF T.vars fun z => P z && Q z) (.inr rfl)).mono ?_
  rintro en w' ⟨v, rfl, hs⟩
  exact ⟨v, rfl, lr_sres hC hr hG hk hkl hsl hs (cov_xn (by omega) (xn_set _ _)) hl⟩
theorem lr_minus (a b : Nat) (P Q : List Nat → Bool) (hC : LrC T W0 N0) (hB : Lcl B) (h : Lr s m lim T q W0 B w F N c ps w1) (ha : (a, P) ∈ ps) (hb : (b, Q) ∈ ps) (hl : N0 + (N + (2 ^ (nBits T.vars - 3) + 2 ^ (nBits T.vars - 3))) < lim) (hc : c < 100000) :
    Calls Try.prog 13 [.pointer (some ⟨s, 0, none⟩), .int .i64 (a : Nat), .int .i64 (b : Nat)].toArray w1 fun en w' => ∃ v, en = .returned v ∧ ∃ x : Nat, v = .tuple #[.int .i64 (x : Nat), .nilIface] ∧ Lr s m lim T q W0 B w F (N + (2 ^ (nBits T.vars - 3) + 2 ^ (nBits T.vars - 3))) (c + 1) ((x, fun z => P z && !Q z) :: ps) w' := by
  obtain ⟨ns, ks, ss, hr, hG, hk, hkl, hsl, hA⟩ := h
  refine (minus_spec a b P Q hG hB hA (hk _ ha) (hk _ hb) (by omega) (W := fun G => W0 G ∨ ((G = fun a => !setF T.vars Q a) ∨ G = setF T.vars fun z => P z && !Q z)) (.inr (.inl rfl)) (.inr (.inr rfl))).mono ?_
  rintro en w' ⟨v, rfl, hs⟩
  exact ⟨v, rfl, lr_sres hC hr hG hk hkl hsl hs ((cov_xn (by omega) (XN.of (nsetF_x _ _))).or (cov_xn (by omega) (xn_set _ _))) hl⟩
theorem lr_partial (pv : Value) (p : List Go.Tk.Fc) {N1 : Nat} (hC : LrC T W0 N0) (hB : Lcl B) (h : Lr s m lim T q W0 B w F N c ps w1) (hr : Rds B fun w' => Vw w' pv fcE p) (hp : propF (T.vars.map iN) (p.map faN) = true) (hpo : FcOk T.vars p)
    (hf : CovR (2 * nBits T.vars) (ShS (nBits T.vars)) (fun G => ∃ j, j < p.length ∧ G = fcB T.vars p j) N1) (hl : N0 + (N + (N1 + 2 ^ (nBits T.vars - 3))) < lim) (hc : c < 100000) :
    Calls Try.prog 12 [.pointer (some ⟨s, 0, none⟩), pv].toArray w1 fun en w' => ∃ v, en = .returned v ∧ ∃ x : Nat, v = .tuple #[.int .i64 (x : Nat), .nilIface] ∧ Lr s m lim T q W0 B w F (N + (N1 + 2 ^ (nBits T.vars - 3))) (c + 1) ((x, fun z => hdB z p) :: ps) w' := by
  obtain ⟨ns, ks, ss, hrn, hG, hk, hkl, hsl, hA⟩ := h
  refine (partial_spec pv p hG hB hA hr hp hpo (by omega) (W := fun G => W0 G ∨ ((∃ j, j < p.length ∧ G = fcB T.vars p j) ∨ G = setF T.vars fun z => hdB z p)) hC.lit (hC.fc hpo.rng fun j hj => .inl ⟨j, hj, rfl⟩) (.inr (.inr rfl))).mono ?_
  rintro en w' ⟨v, rfl, hs⟩
  exact ⟨v, rfl, lr_sres hC hrn hG hk hkl hsl hs (hf.or (cov_xn (by omega) (xn_set _ _))) hl⟩
theorem cov_fcs {p : List Go.Tk.Fc} (hpo : FcOk T.vars p) {V : Nat} (hV : T.vars.length ≤ V) : CovR (2 * nBits T.vars) (ShS (nBits T.vars)) (fun G => ∃ j, j < p.length ∧ G = fcB T.vars p j) (V * (3 * nBits T.vars)) :=
  (CovR.eachW (fun j G => G = fcB T.vars p j) _ fun j _ => (pf_fc (fun f hf => (hpo.rng f hf).1) j).cov.toR).mono (fun _ h => h) (Nat.mul_le_mul_right _ (Nat.le_trans (fc_len hpo) hV))
theorem lr_image (a op : Nat) (o : No) (P : List Nat → Bool) (hT : SmC T) (hC : LrC T W0 N0) (hR : ∀ G, RelS2 T o G → W0 G) (hB : Lcl B) (h : Lr s m lim T q W0 B w F N c ps w1) (ha : (a, P) ∈ ps) (ho : T.ops[op]? = some o)
    (hl : N0 + (N + imC (nBits T.vars)) < lim) (hc : c < 100000) :
    Calls Try.prog 24 [.pointer (some ⟨s, 0, none⟩), .int .i64 (a : Nat), .int .i64 (op : Nat)].toArray w1 fun en w' => ∃ v, en = .returned v ∧ ∃ x : Nat, v = .tuple #[.int .i64 (x : Nat), .nilIface] ∧ Lr s m lim T q W0 B w F (N + imC (nBits T.vars)) (c + 1) ((x, imgP T o P) :: ps) w' := by
  obtain ⟨ns, ks, ss, hrn, hG, hk, hkl, hsl, hA⟩ := h
  refine (image_spec a op o P hG hB hA (hk _ ha) ho (by omega) (by omega) (imgW (W := fun G => W0 G ∨ ImgT T o P G) fun G hG => ?_)).mono ?_
  · rcases hG with h | h
    · exact .inl (h.elim (fun h => hC.bas G (.inl (.inl h))) (hR G))
    · exact .inr h
  rintro en w' ⟨v, rfl, hs⟩
  exact ⟨v, rfl, lr_sres hC hrn hG hk hkl hsl hs (cov_imt hT o P) hl⟩
theorem lr_preimage (a op : Nat) (o : No) (P : List Nat → Bool) (hC : LrC T W0 N0) (hR : ∀ G, RelS2 T o G → W0 G) (hB : Lcl B) (h : Lr s m lim T q W0 B w F N c ps w1) (ha : (a, P) ∈ ps) (ho : T.ops[op]? = some o)
    (hl : N0 + (N + prC (nBits T.vars)) < lim) (hc : c < 100000) :
    Calls Try.prog 19 [.pointer (some ⟨s, 0, none⟩), .int .i64 (a : Nat), .int .i64 (op : Nat)].toArray w1 fun en w' => ∃ v, en = .returned v ∧ ∃ x : Nat, v = .tuple #[.int .i64 (x : Nat), .nilIface] ∧ Lr s m lim T q W0 B w F (N + prC (nBits T.vars)) (c + 1) ((x, preP o P) :: ps) w' := by
  obtain ⟨ns, ks, ss, hrn, hG, hk, hkl, hsl, hA⟩ := h
  refine (preimage_spec a op o P hG hB hA (hk _ ha) ho (by omega) (by omega) (preW (W := fun G => W0 G ∨ PreT T o P G) fun G hG => ?_)).mono ?_
  · rcases hG with h | h
    · exact .inl (h.elim (fun h => hC.bas G (.inl (.inl h))) (hR G))
    · exact .inr h
  rintro en w' ⟨v, rfl, hs⟩
  exact ⟨v, rfl, lr_sres hC hrn hG hk hkl hsl hs (cov_prt T o P) hl⟩
theorem lr_all (h : Lr s m lim T q W0 B w F N c ps w1) : Calls Try.prog 14 [.pointer (some ⟨s, 0, none⟩)].toArray w1 fun en w' => ∃ v, en = .returned v ∧ v = .int .i64 (q.all : Nat) ∧ Lr s m lim T q W0 B w F N c ps w' := by
  obtain ⟨ns, ks, ss, hrn, hG, hk, hkl, hsl, hA⟩ := h
  refine (all_spec hA).mono ?_
  rintro en w' ⟨v, rfl, rfl, h4⟩
  exact ⟨_, rfl, rfl, ns, ks, ss, hrn, hG, hk, hkl, hsl, h4⟩
theorem Lr.kp0 (hB : Lcl B) (h : Lr s m lim T q W0 B w F N c ps w1) {w2 : World} (k : Kp [] w1 w2) : Lr s m lim T q W0 B w F N c ps w2 := by
  obtain ⟨ns, ks, ss, hrn, hG, hk, hkl, hsl, hA⟩ := h
  exact ⟨ns, ks, ss, hrn, hG, hk, hkl, hsl, At.kp0 (SpcA.lcl hB) hA k⟩
theorem Lr.frame (h : Lr s m lim T q W0 B w F N c ps w1) {P : World → Prop} (hP : Rds B P) : P w1 := by
  obtain ⟨ns, ks, ss, hrn, hG, hk, hkl, hsl, hA⟩ := h
  exact SpcA.frame hA hP
/-- Equal sets are equal numbers. -/
theorem Lr.eq (h : Lr s m lim T q W0 B w F N c ps w1) {x y : Nat} {P Q : List Nat → Bool} (hx : (x, P) ∈ ps) (hy : (y, Q) ∈ ps) (e : ∀ z, StN T.vars z → P z = Q z) : x = y := by
  obtain ⟨ns, ks, ss, hrn, hG, hk, hkl, hsl, hA⟩ := h
  have h1 := (hk _ hx).ok
  have h2 := (hk _ hy).ok
  refine canon hG.ok.wf h1.1 h2.1 fun a => ?_
  rw [h1.2, h2.2]
  cases ho : okB T.vars a with
  | false => rfl
  | true =>
    show (true && P (rs T.vars a 0)) = (true && Q (rs T.vars a 0))
    rw [e _ (okB_iff.1 ho)]
end
end Go.Proofs.Ytcoeknnghfajnaa
namespace Go.Proofs.Ytcoeknnghfajnaa
open Go Go.W Go.Tk Go.Rx Go.Bd Go.Sy Go.Maps
section
variable {w w1 : World} {F : List Nat} {A B : Asr} {s m lim N N0 c : Nat} {T : Nt} {q : SpC} {W0 W : BFn → Prop} {ps : List Kp2}
theorem Lr.drew (hB : Lcl B) (h : Lr s m lim T q W0 B w F N c ps w1) : Lr s m lim T q W0 B w F N c ps w1.drew := by
  obtain ⟨ns, ks, ss, hrn, hG, hk, hkl, hsl, hA⟩ := h
  exact ⟨ns, ks, ss, hrn, hG, hk, hkl, hsl, At.drew (SpcA.lcl hB) hA⟩
end
end Go.Proofs.Ytcoeknnghfajnaa
end
section
set_option maxRecDepth 100000
set_option linter.unusedSimpArgs false
set_option linter.unusedVariables false
namespace Go.Proofs.Ytcoeknnghfajnaa
open Go Go.W Go.Tk Go.Rx Go.Bd Go.Sy Go.Maps
theorem bas_alk {T T' : Nt} (h : T'.vars = T.vars) : BasS T' = BasS T ∧ nb T' = nb T := by
  unfold BasS NewS nb
  rw [h]
  exact ⟨rfl, rfl⟩
end Go.Proofs.Ytcoeknnghfajnaa
end
