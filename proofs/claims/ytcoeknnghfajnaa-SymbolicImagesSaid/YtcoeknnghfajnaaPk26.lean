/-
  A part of the proof of this claim's statement (SyBB, SyDA, SyDB): plain theorems; no conditions beyond those each names.
-/
import Derived.Test.YtcoeknnghfajnaaPk25
import Derived.Test.YtcoeknnghfajnaaPk02
section
set_option maxRecDepth 100000
set_option linter.unusedSimpArgs false
set_option linter.unusedVariables false
namespace Go.Proofs.Ytcoeknnghfajnaa
open Go Go.W Go.Tk Go.Rx Go.Bd Go.Sy Go.Maps
theorem bP_split {vars : List Nat} : ∀ k, k ≤ vars.length → ∀ p, p < bP vars k → ∃ v j, v < k ∧ j < wd (vars.getD v 0) ∧ p = bP vars v + j
  | 0, _, p, h => by unfold bP at h; simp at h
  | k + 1, hk, p, h => by
    have hn : vars[k]? = some (vars.getD k 0) := by simp [List.getD, List.getElem?_eq_getElem (show k < vars.length by omega)]
    rw [bP_succ hn] at h
    by_cases hp : p < bP vars k
    · obtain ⟨v, j, h1, h2, h3⟩ := bP_split k (by omega) p hp
      exact ⟨v, j, by omega, h2, h3⟩
    · exact ⟨k, p - bP vars k, by omega, by omega, by omega⟩
theorem cov_blocks {n : Nat} (vars : List Nat) (B : Nat → BFn) (N : Nat → Nat) (hB : ∀ v, v < vars.length → IvIn (2 * bP vars v) (2 * wd (vars.getD v 0)) (B v)) (hN : ∀ v, v < vars.length → CovW n (fun K => K = B v) (N v)) :
    ∀ k, k ≤ vars.length → CovW n (fun K => K = fun a => (List.range k).all fun v => B v a) ((List.range k).map N).sum
  | 0, _ => (cov_const true).mono (fun K h => h) (Nat.zero_le _)
  | k + 1, hk => by
    have e : (fun a => (List.range (k + 1)).all fun v => B v a) = fun a => ((List.range k).all fun v => B v a) && B k a := funext fun a => by
      rw [List.range_succ, List.all_append]
      simp
    rw [e, List.range_succ, List.map_append, List.sum_append]
    have e2 : ([k].map N).sum = N k := by simp
    rw [e2]
    refine cov_and2 (s := 2 * bP vars k) (B := fun a => (List.range k).all fun v => B v a) (R := B k) (fun a b h => ?_) (fun a b h => hB k (by omega) a b fun i h1 h2 => h i h1) (cov_blocks vars B N hB hN k (by omega)) (hN k (by omega))
    refine allc_congr fun v hv => ?_
    have hv := List.mem_range.1 hv
    refine hB v (by omega) a b fun i h1 h2 => h i ?_
    have hn : vars[v]? = some (vars.getD v 0) := by simp [List.getD, List.getElem?_eq_getElem (show v < vars.length by omega)]
    have h3 := bP_succ hn
    have h4 := bP_mono (vars := vars) (show v + 1 ≤ k by omega)
    omega
theorem sum_le (f g : Nat → Nat) : ∀ k, (∀ v, v < k → f v ≤ g v) → ((List.range k).map f).sum ≤ ((List.range k).map g).sum
  | 0, _ => by simp
  | k + 1, h => by
    have := sum_le f g k fun v hv => h v (by omega)
    have := h k (by omega)
    rw [List.range_succ, List.map_append, List.sum_append, List.map_append, List.sum_append]
    simp
    omega
theorem wd_dbl {n : Nat} (h : 1 ≤ n) : 2 ^ wd n ≤ n * 2 := by
  by_cases h0 : wd n = 0
  · rw [h0]; omega
  · have := wd_lt (n := n) (w := wd n - 1) (by omega)
    have e : 2 ^ wd n = 2 ^ (wd n - 1) * 2 := by rw [← Nat.pow_succ]; congr 1; omega
    omega
theorem take_sum (l : List Nat) (k : Nat) : (l.take k).sum ≤ l.sum := by
  have : (l.take k).sum + (l.drop k).sum = l.sum := by rw [← List.sum_append, List.take_append_drop]
  omega
theorem sum_lin {vars : List Nat} {f : Nat → Nat} {c : Nat} (h : ∀ v, v < vars.length → f v ≤ vars.getD v 0 * c) {k : Nat} (hk : k ≤ vars.length) : ((List.range k).map f).sum ≤ vars.sum * c := by
  refine Nat.le_trans (sum_le f (fun v => vars.getD v 0 * c) k fun v hv => h v (by omega)) ?_
  rw [sum_mul (fun v => vars.getD v 0), sum_getD _ _ hk]
  exact Nat.mul_le_mul_right _ (take_sum _ _)
theorem rv_iv (vars : List Nat) (v : Nat) : ∀ a b : Nat → Bool, (∀ i, 2 * bP vars v ≤ i → i < 2 * bP vars v + 2 * wd (vars.getD v 0) → a i = b i) → rv vars a 0 v = rv vars b 0 v := fun a b h => rv_x fun p h1 h2 => h _ (by omega) (by omega)
theorem cov_okp {n : Nat} {vars : List Nat} (h1 : ∀ m ∈ vars, 1 ≤ m ∧ m ≤ 64) {k : Nat} (hk : k ≤ vars.length) : CovW n (fun K => K = okP vars k) (vars.sum * 2) := by
  refine (cov_blocks vars (fun v a => decide (rv vars a 0 v < vars.getD v 0)) (fun v => 2 ^ wd (vars.getD v 0)) (fun v hv a b h => by
    show decide (rv vars a 0 v < vars.getD v 0) = decide (rv vars b 0 v < vars.getD v 0)
    rw [rv_iv vars v a b h]) (fun v hv => cov_x (s := bP vars v) (w := wd (vars.getD v 0)) fun a b h => congrArg (fun y => decide (y < vars.getD v 0)) (rv_x h)) k hk).mono (fun _ h => h) (sum_lin (fun v hv => wd_dbl (h1 _ (by simp [List.getD, List.getElem?_eq_getElem hv])).1) hk)
def nbL (T : Nt) : Nat := 2 * nBits T.vars * 2 + (T.vars.sum * 172 + T.vars.length * (T.vars.sum * 2)) + nBits T.vars * (3 * nBits T.vars)
theorem cov_basL {T : Nt} (h1 : ∀ m ∈ T.vars, 1 ≤ m ∧ m ≤ 64) : CovW (2 * nBits T.vars) (BasS T) (nbL T) := by
  unfold nbL
  refine CovW.or (((?_ : CovW _ (LitS T.vars) _).or (CovW.or (N2 := T.vars.length * (T.vars.sum * 2)) ((CovW.sum _ (fun v => T.vars.getD v 0 * 172) _ fun v hv => ?_).mono (N' := T.vars.sum * 172) (fun _ h => h) (sum_lin (fun v hv => Nat.le_refl _) (Nat.le_refl _))) (CovW.eachW (fun k G => G = okP T.vars (k + 1)) _ fun k hk => cov_okp h1 (by omega))))) (CovW.eachW (fun j G => G = zB (nBits T.vars) j) _ fun j _ => ?_)
  · refine CovW.eachW _ _ fun i hi => (CovW.or (N1 := 1) (N2 := 1) (cov_iv (s := i) (w := 1) (fun a b h => ?_) (by omega)) (cov_iv (s := i) (w := 1) (fun a b h => ?_) (by omega)))
    · exact h i (by omega) (by omega)
    · exact congrArg (fun x => !x) (h i (by omega) (by omega))
  · refine CovW.eachW (fun x G => VlS T.vars v x 0 G ∨ G = fun a => decide (rv T.vars a 0 v < x + 1)) _ fun x _ => CovW.or (N1 := 108) ?_ ((cov_x (thr_x T.vars v x)).mono (fun _ h => h) (pow_wd _))
    refine (finVl T.vars v x 0).cov (C := 18) fun G hG => ?_
    obtain ⟨j, hj, rfl⟩ := hG
    exact (pl_vl T.vars v x (by omega) j).cov.mono (fun _ h => h) (by have := wd_le (T.vars.getD v 0); omega)
  · exact (PairF.cov (b := nBits T.vars) (PairF.all (fun i a => !a (2 * (j + i) + 1)) _ fun i hi => PairF.one (p := j + i) (by have := List.mem_range.1 hi; omega) fun _ y => !y))
end Go.Proofs.Ytcoeknnghfajnaa
end
section
set_option linter.unusedVariables false
set_option linter.unusedSimpArgs false
set_option linter.unusedSectionVars false
namespace Go.Sy
open Go.Bd
theorem pfx_pfx (a b : Nat → Bool) (t : Nat) : pfx a t (pfx a t b) = pfx a t b := by
  funext i
  simp only [pfx]
  by_cases h : i < t
  · rw [if_pos h, if_pos h]
  · rw [if_neg h, if_neg h]
/-- The parts of functions are in a list of some length, or in a family. -/
def CovR (n : Nat) (S W : BFn → Prop) (N : Nat) : Prop := ∃ L : List BFn, L.length ≤ N ∧ ∀ G, W G → ∀ t a, t < n → Dep (fun b => G (pfx a t b)) t → (fun b => G (pfx a t b)) ∈ L ∨ S fun b => G (pfx a t b)
theorem CovW.toR {n N : Nat} {S W : BFn → Prop} (h : CovW n W N) : CovR n S W N := by
  obtain ⟨L, a, b⟩ := h
  exact ⟨L, a, fun G hG t a ht hd => .inl (b G hG t a ht hd)⟩
theorem CovR.or {n N1 N2 : Nat} {S W1 W2 : BFn → Prop} (h1 : CovR n S W1 N1) (h2 : CovR n S W2 N2) : CovR n S (fun G => W1 G ∨ W2 G) (N1 + N2) := by
  obtain ⟨L1, a1, b1⟩ := h1
  obtain ⟨L2, a2, b2⟩ := h2
  refine ⟨L1 ++ L2, by rw [List.length_append]; omega, fun G hG t a ht hd => ?_⟩
  rcases hG with h | h
  · exact (b1 G h t a ht hd).imp (List.mem_append_left _) id
  · exact (b2 G h t a ht hd).imp (List.mem_append_right _) id
theorem CovR.mono {n N N' : Nat} {S W W' : BFn → Prop} (h : CovR n S W N) (hw : ∀ G, W' G → W G) (hn : N ≤ N') : CovR n S W' N' := by
  obtain ⟨L, a, b⟩ := h
  exact ⟨L, Nat.le_trans a hn, fun G hG => b G (hw G hG)⟩
theorem CovR.none (n : Nat) (S : BFn → Prop) : CovR n S (fun _ => False) 0 := (CovW.none n).toR
theorem CovR.sum {n : Nat} {S : BFn → Prop} (P : Nat → BFn → Prop) (c : Nat → Nat) : ∀ k, (∀ i, i < k → CovR n S (P i) (c i)) → CovR n S (fun G => ∃ i, i < k ∧ P i G) ((List.range k).map c).sum
  | 0, _ => (CovR.none n S).mono (fun G ⟨i, hi, _⟩ => by omega) (Nat.zero_le _)
  | k + 1, h => ((CovR.sum P c k fun i hi => h i (by omega)).or (h k (by omega))).mono (fun G ⟨i, hi, e⟩ => by
      by_cases hk : i = k
      · subst hk; exact .inr e
      · exact .inl ⟨i, by omega, e⟩) (by rw [List.range_succ, List.map_append, List.sum_append]; simp)
theorem CovR.eachW {n c : Nat} {S : BFn → Prop} (P : Nat → BFn → Prop) : ∀ k, (∀ i, i < k → CovR n S (P i) c) → CovR n S (fun G => ∃ i, i < k ∧ P i G) (k * c)
  | 0, _ => (CovR.none n S).mono (fun G ⟨i, hi, _⟩ => by omega) (Nat.zero_le _)
  | k + 1, h => ((CovR.eachW P k fun i hi => h i (by omega)).or (h k (by omega))).mono (fun G ⟨i, hi, e⟩ => by
      by_cases hk : i = k
      · subst hk; exact .inr e
      · exact .inl ⟨i, by omega, e⟩) (by rw [Nat.succ_mul]; exact Nat.le_refl _)
/-- With what is there. -/
theorem CovR.join {n N0 N : Nat} {S W0 W : BFn → Prop} (h0 : CovW n W0 N0) (hS : ∀ G, S G → W0 G) (h : CovR n S W N) : CovW n (fun G => W0 G ∨ W G) (N0 + N) := by
  obtain ⟨L0, a0, b0⟩ := h0
  obtain ⟨L, a1, b1⟩ := h
  refine ⟨L0 ++ L, by rw [List.length_append]; omega, fun G hG t a ht hd => ?_⟩
  rcases hG with h | h
  · exact List.mem_append_left _ (b0 G h t a ht hd)
  · rcases b1 G h t a ht hd with h | h
    · exact List.mem_append_right _ h
    · have e : (fun b => (fun b => G (pfx a t b)) (pfx a t b)) = fun b => G (pfx a t b) := funext fun b => by
        show G (pfx a t (pfx a t b)) = G (pfx a t b)
        rw [pfx_pfx]
      have := b0 _ (hS _ h) t a ht (by rw [e]; exact hd)
      rw [e] at this
      exact List.mem_append_left _ this
/-- Assignments that agree at some places agree at others. -/
theorem lst_det (ps : List Nat) (Q : Nat → Prop) : ∀ G : (Nat → Bool) → Prop, (∀ a b, G a → G b → (∀ i ∈ ps, a i = b i) → ∀ i, Q i → a i = b i) →
    ∃ Λ : List (Nat → Bool), Λ.length ≤ 2 ^ ps.length ∧ ∀ a, G a → ∃ π ∈ Λ, ∀ i, Q i → a i = π i := by
  induction ps with
  | nil =>
    intro G h
    by_cases hx : ∃ a, G a
    · obtain ⟨a, ha⟩ := hx
      exact ⟨[a], by simp, fun b hb => ⟨a, by simp, h b a hb ha (fun i hi => by cases hi)⟩⟩
    · exact ⟨[], by simp, fun a ha => absurd ⟨a, ha⟩ hx⟩
  | cons p ps ih =>
    intro G h
    have key : ∀ x, ∃ Λ : List (Nat → Bool), Λ.length ≤ 2 ^ ps.length ∧ ∀ a, (G a ∧ a p = x) → ∃ π ∈ Λ, ∀ i, Q i → a i = π i := fun x => ih _ fun a b ha hb hi => h a b ha.1 hb.1 fun i hm => by
      rcases List.mem_cons.1 hm with rfl | hm
      · rw [ha.2, hb.2]
      · exact hi i hm
    obtain ⟨Λ1, a1, b1⟩ := key true
    obtain ⟨Λ2, a2, b2⟩ := key false
    refine ⟨Λ1 ++ Λ2, by rw [List.length_append, List.length_cons, Nat.pow_succ]; omega, fun a ha => ?_⟩
    cases hx : a p with
    | true =>
      obtain ⟨π, h1, h2⟩ := b1 a ⟨ha, hx⟩
      exact ⟨π, List.mem_append_left _ h1, h2⟩
    | false =>
      obtain ⟨π, h1, h2⟩ := b2 a ⟨ha, hx⟩
      exact ⟨π, List.mem_append_right _ h1, h2⟩
/-- All functions of some places. -/
theorem lst_fun : ∀ ps : List Nat, ∃ L : List BFn, L.length ≤ 2 ^ 2 ^ ps.length ∧ ∀ K : BFn, (∀ a c : Nat → Bool, (∀ i ∈ ps, a i = c i) → K a = K c) → K ∈ L
  | [] => ⟨[fun _ => true, fun _ => false], by simp, fun K h => by
      have e : K = fun _ => K fun _ => false := funext fun a => h _ _ fun i hi => by cases hi
      rw [e]
      cases K fun _ => false <;> simp⟩
  | p :: ps => by
    obtain ⟨L, a, b⟩ := lst_fun ps
    refine ⟨L.flatMap fun K1 => L.map fun K2 => fun x => if x p then K1 x else K2 x, ?_, fun K h => ?_⟩
    · have : ∀ (l : List BFn), (l.flatMap fun K1 => L.map fun K2 => (fun x => if x p then K1 x else K2 x : BFn)).length = l.length * L.length := fun l => by
        induction l with
        | nil => simp
        | cons x l ih => rw [List.flatMap_cons, List.length_append, ih, List.length_map, List.length_cons, Nat.succ_mul, Nat.add_comm]
      rw [this, List.length_cons, Nat.pow_succ 2 ps.length, Nat.mul_two, Nat.pow_add]
      exact Nat.mul_le_mul a a
    · have key : ∀ z, (fun x => K (upd x p z)) ∈ L := fun z => b _ fun a c hi => h _ _ fun i hm => by
        by_cases e : i = p
        · subst e; rw [upd_same, upd_same]
        · rw [upd_ne e, upd_ne e]
          rcases List.mem_cons.1 hm with rfl | hm
          · exact absurd rfl e
          · exact hi i hm
      refine List.mem_flatMap.2 ⟨_, key true, List.mem_map.2 ⟨_, key false, funext fun x => ?_⟩⟩
      have e : ∀ z, x p = z → upd x p z = x := fun z hz => funext fun i => by
        by_cases e : i = p
        · subst e; rw [upd_same, hz]
        · rw [upd_ne e]
      cases hx : x p with
      | true => rw [if_pos rfl, e true hx]
      | false => rw [if_neg (by decide), e false hx]
/-- It depends on these variables alone. -/
def RelIn (n : Nat) (rel : Nat → Bool) (G : BFn) : Prop := ∀ a b : Nat → Bool, (∀ i, i < n → rel i = true → a i = b i) → G a = G b
theorem sum_len {α : Type} (g : Nat → List α) (c : Nat → Nat) (h : ∀ t, (g t).length ≤ c t) : ∀ n, ((List.range n).flatMap g).length ≤ ((List.range n).map c).sum
  | 0 => by simp
  | n + 1 => by
    have ih := sum_len g c h n
    have := h n
    rw [List.range_succ, List.flatMap_append, List.length_append, List.map_append, List.sum_append]
    simp only [List.flatMap_cons, List.flatMap_nil, List.append_nil, List.map_cons, List.map_nil, List.sum_cons, List.sum_nil]
    omega
theorem dep_rel {n t : Nat} {rel : Nat → Bool} {G : BFn} {a : Nat → Bool} (hG : RelIn n rel G) (h : Dep (fun b => G (pfx a t b)) t) : rel t = true := by
  obtain ⟨b, hb⟩ := h
  cases hr : rel t with
  | true => rfl
  | false =>
    exfalso
    apply hb
    refine hG _ _ fun i hi hri => ?_
    unfold pfx
    by_cases h1 : i < t
    · rw [if_pos h1, if_pos h1]
    · have : i ≠ t := fun e => by rw [e, hr] at hri; cases hri
      rw [if_neg h1, if_neg h1, upd_ne this, upd_ne this]
theorem dep_true {t : Nat} {K : BFn} (h : Dep K t) : ∃ b, K b = true := by
  obtain ⟨b, hb⟩ := h
  cases h1 : K (upd b t true) with
  | true => exact ⟨_, h1⟩
  | false =>
    cases h2 : K (upd b t false) with
    | true => exact ⟨_, h2⟩
    | false => exact absurd (h1.trans h2.symm) hb
theorem cov_lev {n : Nat} {S : BFn → Prop} {rel sh : Nat → Bool} {G : BFn} (hG : RelIn n rel G) (c : Nat → Nat)
    (hs : ∀ t a, t < n → rel t = true → sh t = true → S fun b => G (pfx a t b))
    (hc : ∀ t, t < n → rel t = true → sh t = false → ∃ Λ : List (Nat → Bool), Λ.length ≤ c t ∧ ∀ a, G a = true → ∃ π ∈ Λ, ∀ i, i < t → rel i = true → a i = π i) :
    CovR n S (fun K => K = G) ((List.range n).map fun t => if rel t = true ∧ sh t = false then c t else 0).sum := by
  have hc' : ∀ t, ∃ Λ : List (Nat → Bool), t < n → rel t = true → sh t = false → Λ.length ≤ c t ∧ ∀ a, G a = true → ∃ π ∈ Λ, ∀ i, i < t → rel i = true → a i = π i := fun t => by
    by_cases h : t < n ∧ rel t = true ∧ sh t = false
    · obtain ⟨Λ, hΛ⟩ := hc t h.1 h.2.1 h.2.2
      exact ⟨Λ, fun _ _ _ => hΛ⟩
    · exact ⟨[], fun h1 h2 h3 => absurd ⟨h1, h2, h3⟩ h⟩
  obtain ⟨Λ, hΛ⟩ := Classical.skolem.1 hc'
  let g : Nat → List BFn := fun t => if t < n ∧ rel t = true ∧ sh t = false then (Λ t).map fun π => fun b => G (pfx π t b) else []
  have hg : ∀ t, (g t).length ≤ if rel t = true ∧ sh t = false then c t else 0 := fun t => by
    show (if t < n ∧ rel t = true ∧ sh t = false then _ else _ : List BFn).length ≤ _
    by_cases h : t < n ∧ rel t = true ∧ sh t = false
    · rw [if_pos h, if_pos h.2, List.length_map]
      exact (hΛ t h.1 h.2.1 h.2.2).1
    · rw [if_neg h]; simp
  refine ⟨(List.range n).flatMap g, sum_len g _ hg n, ?_⟩
  rintro K rfl t a ht hd
  have hr := dep_rel hG hd
  cases hsh : sh t with
  | true => exact .inr (hs t a ht hr hsh)
  | false =>
    left
    obtain ⟨b, hb⟩ := dep_true hd
    obtain ⟨π, hπ, he⟩ := (hΛ t ht hr hsh).2 _ hb
    refine List.mem_flatMap.2 ⟨t, List.mem_range.2 ht, ?_⟩
    show _ ∈ (if t < n ∧ rel t = true ∧ sh t = false then _ else _ : List BFn)
    rw [if_pos ⟨ht, hr, hsh⟩]
    refine List.mem_map.2 ⟨π, hπ, funext fun x => hG _ _ fun i hi hri => ?_⟩
    unfold pfx
    by_cases h1 : i < t
    · have := he i h1 hri
      unfold pfx at this
      rw [if_pos h1] at this
      rw [if_pos h1, if_pos h1, this]
    · rw [if_neg h1, if_neg h1]
/-- How many of the variables before one. -/
def cntR (rel : Nat → Bool) (t : Nat) : Nat := ((List.range t).filter rel).length
def lvS (R m : Nat) : Nat := ((List.range R).map fun r => 2 ^ min r m).sum
theorem cntR_succ (rel : Nat → Bool) (t : Nat) : cntR rel (t + 1) = cntR rel t + if rel t = true then 1 else 0 := by
  unfold cntR
  rw [List.range_succ, List.filter_append, List.length_append]
  by_cases h : rel t = true
  · simp [h]
  · simp [h]
theorem lvS_succ (R m : Nat) : lvS (R + 1) m = lvS R m + 2 ^ min R m := by
  unfold lvS
  rw [List.range_succ, List.map_append, List.sum_append]
  simp
theorem sum_cnt (rel : Nat → Bool) (m : Nat) : ∀ n, ((List.range n).map fun t => if rel t = true ∧ false = false then 2 ^ min (cntR rel t) m else 0).sum = lvS (cntR rel n) m
  | 0 => by simp [cntR, lvS]
  | n + 1 => by
    have ih := sum_cnt rel m n
    rw [List.range_succ, List.map_append, List.sum_append, ih, cntR_succ]
    by_cases h : rel n = true
    · simp [h, lvS_succ]
    · simp [h]
theorem lvS_mono {R R' m : Nat} (h : R ≤ R') : lvS R m ≤ lvS R' m := by
  induction R' with
  | zero => obtain rfl : R = 0 := by omega
            exact Nat.le_refl _
  | succ k ih =>
    by_cases e : R = k + 1
    · subst e; exact Nat.le_refl _
    · have := ih (by omega)
      have h2 := lvS_succ k m
      exact Nat.le_trans this (by rw [h2]; exact Nat.le_add_right _ _)
/-- Some variables fix the others where it is true. -/
theorem cov_det {n : Nat} {S : BFn → Prop} {rel : Nat → Bool} {G : BFn} (hG : RelIn n rel G) (xs : List Nat) (hx : ∀ a b : Nat → Bool, G a = true → G b = true → (∀ i ∈ xs, a i = b i) → ∀ i, i < n → rel i = true → a i = b i) :
    CovR n S (fun K => K = G) (lvS (cntR rel n) xs.length) := by
  refine (cov_lev (sh := fun _ => false) hG (fun t => 2 ^ min (cntR rel t) xs.length) (fun t a _ _ h => by cases h) fun t ht hr _ => ?_).mono (fun _ h => h) (Nat.le_of_eq (sum_cnt rel xs.length n))
  by_cases hm : cntR rel t ≤ xs.length
  · obtain ⟨Λ, a, b⟩ := lst_det ((List.range t).filter rel) (fun i => i < t ∧ rel i = true) (fun a => G a = true) fun a b _ _ h i hi => h i (List.mem_filter.2 ⟨List.mem_range.2 hi.1, hi.2⟩)
    refine ⟨Λ, by rw [Nat.min_eq_left hm]; exact a, fun x hx => ?_⟩
    obtain ⟨π, h1, h2⟩ := b x hx
    exact ⟨π, h1, fun i hi hr => h2 i ⟨hi, hr⟩⟩
  · obtain ⟨Λ, a, b⟩ := lst_det xs (fun i => i < t ∧ rel i = true) (fun a => G a = true) fun a b ha hb h i hi => hx a b ha hb h i (by omega) hi.2
    refine ⟨Λ, by rw [Nat.min_eq_right (by omega)]; exact a, fun x hx => ?_⟩
    obtain ⟨π, h1, h2⟩ := b x hx
    exact ⟨π, h1, fun i hi hr => h2 i ⟨hi, hr⟩⟩
/-- Some value of the quantified variables. -/
noncomputable def exB (inn : Nat → Bool) (F : BFn) (k : Nat) (π : Nat → Bool) : BFn := fun a => @decide (∃ c : Nat → Bool, (∀ j, inn j = false → c j = a j) ∧ F (pfx π k c) = true) (Classical.propDecidable _)
theorem exB_iff {inn : Nat → Bool} {F : BFn} {k : Nat} {π a : Nat → Bool} : exB inn F k π a = true ↔ ∃ c : Nat → Bool, (∀ j, inn j = false → c j = a j) ∧ F (pfx π k c) = true := by
  unfold exB
  exact @decide_eq_true_iff _ (Classical.propDecidable _)
theorem bool_eq {x y : Bool} (h : x = true ↔ y = true) : x = y := by cases x <;> cases y <;> simp_all
section
variable {n : Nat} {inn : Nat → Bool} {F : BFn} (hF : ∀ a b : Nat → Bool, (∀ i, i < n → a i = b i) → F a = F b)
include hF
theorem exB_dep {k : Nat} {π a b : Nat → Bool} (h : ∀ i, k ≤ i → i < n → inn i = false → a i = b i) : exB inn F k π a = exB inn F k π b := by
  have key : ∀ {a b : Nat → Bool}, (∀ i, k ≤ i → i < n → inn i = false → a i = b i) → exB inn F k π a = true → exB inn F k π b = true := fun {a b} h h1 => by
    obtain ⟨c, h2, h3⟩ := exB_iff.1 h1
    refine exB_iff.2 ⟨fun j => if inn j = true then c j else b j, fun j hj => by
      show (if inn j = true then c j else b j) = b j
      rw [if_neg (by rw [hj]; decide)], ?_⟩
    refine (hF _ _ fun i hi => ?_).trans h3
    show (if i < k then π i else if inn i = true then c i else b i) = if i < k then π i else c i
    by_cases h4 : i < k
    · rw [if_pos h4, if_pos h4]
    · rw [if_neg h4, if_neg h4]
      cases h5 : inn i with
      | true => rw [if_pos rfl]
      | false => rw [if_neg (by decide), h2 i h5, h i (by omega) hi h5]
  exact bool_eq ⟨key h, key fun i h1 h2 h3 => (h i h1 h2 h3).symm⟩
theorem exB_same {k : Nat} {π ρ : Nat → Bool} (h : ∀ i, i < k → π i = ρ i) : exB inn F k π = exB inn F k ρ := funext fun a => by
  have e : ∀ c, pfx π k c = pfx ρ k c := fun c => funext fun i => by
    unfold pfx
    by_cases h1 : i < k
    · rw [if_pos h1, if_pos h1, h i h1]
    · rw [if_neg h1, if_neg h1]
  refine bool_eq ?_
  rw [exB_iff, exB_iff]
  simp only [e]
/-- The next variable is given. -/
theorem exB_next {k : Nat} {π a : Nat → Bool} (hk : inn k = false) : exB inn F k π a = exB inn F (k + 1) (upd π k (a k)) a := by
  refine bool_eq ?_
  rw [exB_iff, exB_iff]
  have e : ∀ c : Nat → Bool, c k = a k → pfx π k c = pfx (upd π k (a k)) (k + 1) c := fun c hc => funext fun i => by
    unfold pfx
    by_cases h1 : i < k
    · rw [if_pos h1, if_pos (by omega), upd_ne (by omega)]
    · by_cases h2 : i = k
      · subst h2; rw [if_neg h1, if_pos (by omega), upd_same, hc]
      · rw [if_neg h1, if_neg (by omega)]
  constructor
  · rintro ⟨c, h1, h2⟩
    exact ⟨c, h1, by rw [← e c (h1 k hk)]; exact h2⟩
  · rintro ⟨c, h1, h2⟩
    exact ⟨c, h1, by rw [e c (h1 k hk)]; exact h2⟩
end
/-- The cost of what is quantified. -/
def uQ (inn sh : Nat → Bool) (n k : Nat) : Nat := ((List.range n).map fun t => if k < t ∧ inn t = false ∧ sh t = false then 2 ^ cntR (fun i => decide (k < i) && !inn i) t else 0).sum
def exN (inn sh : Nat → Bool) (c : Nat → Nat) (n : Nat) : Nat := ((List.range n).map fun k => if inn k = true then c k * uQ inn sh n k else if sh k = true then 0 else c k).sum
theorem cov_ex {n : Nat} {S : BFn → Prop} {inn sh : Nat → Bool} {F : BFn} (hF : ∀ a b : Nat → Bool, (∀ i, i < n → a i = b i) → F a = F b) (c : Nat → Nat)
    (hc : ∀ k, k < n → ∃ Λ : List (Nat → Bool), Λ.length ≤ c k ∧ ∀ a, F a = true → ∃ π ∈ Λ, ∀ i, i < k → a i = π i)
    (hs : ∀ t, t < n → inn t = false → sh t = true → ∀ K : BFn, (∀ a b : Nat → Bool, (∀ i, t ≤ i → i < n → inn i = false → a i = b i) → K a = K b) → S K) :
    CovR n S (fun G => ∃ k π, G = exB inn F k π) (exN inn sh c n) := by
  have hc' : ∀ k, ∃ Λ : List (Nat → Bool), k < n → Λ.length ≤ c k ∧ ∀ a, F a = true → ∃ π ∈ Λ, ∀ i, i < k → a i = π i := fun k => by
    by_cases h : k < n
    · obtain ⟨Λ, hΛ⟩ := hc k h
      exact ⟨Λ, fun _ => hΛ⟩
    · exact ⟨[], fun h1 => absurd h1 h⟩
  obtain ⟨Λ, hΛ⟩ := Classical.skolem.1 hc'
  -- patterns of the variables between
  have hp : ∀ k t, ∃ P : List (Nat → Bool), P.length ≤ 2 ^ cntR (fun i => decide (k < i) && !inn i) t ∧ ∀ a : Nat → Bool, ∃ α ∈ P, ∀ i, i < t → k < i → inn i = false → a i = α i := fun k t => by
    obtain ⟨P, h1, h2⟩ := lst_det ((List.range t).filter fun i => decide (k < i) && !inn i) (fun i => i < t ∧ k < i ∧ inn i = false) (fun _ => True) fun a b _ _ h i hi => h i (List.mem_filter.2 ⟨List.mem_range.2 hi.1, by simp [hi.2.1, hi.2.2]⟩)
    refine ⟨P, h1, fun a => ?_⟩
    obtain ⟨α, h3, h4⟩ := h2 a trivial
    exact ⟨α, h3, fun i a b c => h4 i ⟨a, b, c⟩⟩
  obtain ⟨P, hP⟩ := Classical.skolem.1 fun k => Classical.skolem.1 (hp k)
  let q : Nat → Nat → List BFn := fun k t => if k < t ∧ inn t = false ∧ sh t = false then (Λ k).flatMap fun π => (P k t).map fun α => fun b => exB inn F k π (pfx α t b) else []
  let g : Nat → List BFn := fun k => if k < n then (if inn k = true then (List.range n).flatMap (q k) else if sh k = true then [] else (Λ k).map fun π => exB inn F k π) else []
  have hq : ∀ k t, k < n → (q k t).length ≤ c k * if k < t ∧ inn t = false ∧ sh t = false then 2 ^ cntR (fun i => decide (k < i) && !inn i) t else 0 := fun k t hk => by
    show (if k < t ∧ inn t = false ∧ sh t = false then _ else _ : List BFn).length ≤ _
    by_cases h : k < t ∧ inn t = false ∧ sh t = false
    · rw [if_pos h, if_pos h]
      have : ∀ l : List (Nat → Bool), (l.flatMap fun π => (P k t).map fun α => (fun b => exB inn F k π (pfx α t b) : BFn)).length = l.length * (P k t).length := fun l => by
        induction l with
        | nil => simp
        | cons x l ih => rw [List.flatMap_cons, List.length_append, ih, List.length_map, List.length_cons, Nat.succ_mul, Nat.add_comm]
      rw [this]
      exact Nat.mul_le_mul (hΛ k hk).1 (hP k t).1
    · rw [if_neg h]; simp
  have hg : ∀ k, (g k).length ≤ if inn k = true then c k * uQ inn sh n k else if sh k = true then 0 else c k := fun k => by
    show (if k < n then _ else _ : List BFn).length ≤ _
    by_cases hk : k < n
    · rw [if_pos hk]
      by_cases h1 : inn k = true
      · rw [if_pos h1, if_pos h1]
        refine Nat.le_trans (sum_len (q k) _ (fun t => hq k t hk) n) (Nat.le_of_eq ?_)
        unfold uQ
        induction n with
        | zero => simp
        | succ m ih => 
          have mm : ∀ (l : List Nat) (f : Nat → Nat), (l.map fun t => c k * f t).sum = c k * (l.map f).sum := fun l f => by
            induction l with
            | nil => simp
            | cons x l ih => simp only [List.map_cons, List.sum_cons, ih, Nat.mul_add]
          exact mm _ _
      · rw [if_neg h1, if_neg h1]
        by_cases h2 : sh k = true
        · rw [if_pos h2, if_pos h2]; simp
        · rw [if_neg h2, if_neg h2, List.length_map]
          exact (hΛ k hk).1
    · rw [if_neg hk]; simp
  refine ⟨(List.range n).flatMap g, sum_len g _ hg n, ?_⟩
  rintro G ⟨k, π, rfl⟩ t a ht hd
  -- from the last variables to the first
  have main : ∀ d k π, n ≤ k + d → Dep (fun b => exB inn F k π (pfx a t b)) t → (fun b => exB inn F k π (pfx a t b)) ∈ (List.range n).flatMap g ∨ S fun b => exB inn F k π (pfx a t b) := by
    intro d
    induction d with
    | zero =>
      rintro k π hk ⟨b, hb⟩
      exfalso
      apply hb
      exact exB_dep hF fun i h1 h2 _ => by omega
    | succ d ih =>
      intro k π hk hd
      -- the variable counts
      have hin : inn t = false ∧ k ≤ t := by
        obtain ⟨b, hb⟩ := hd
        have hx : ¬ (inn t = true ∨ t < k) := fun hx => by
          apply hb
          refine exB_dep hF fun i h1 h2 h3 => ?_
          unfold pfx
          by_cases h4 : i < t
          · rw [if_pos h4, if_pos h4]
          · have : i ≠ t := fun e => by
              subst e
              rcases hx with hx | hx
              · rw [h3] at hx; cases hx
              · omega
            rw [if_neg h4, if_neg h4, upd_ne this, upd_ne this]
        refine ⟨?_, by omega⟩
        cases h : inn t with
        | true => exact absurd (.inl h) hx
        | false => rfl
      obtain ⟨hit, hkt⟩ := hin
      cases hsh : sh t with
      | true =>
        right
        refine hs t ht hit hsh _ fun x y h => exB_dep hF fun i h1 h2 h3 => ?_
        unfold pfx
        by_cases h4 : i < t
        · rw [if_pos h4, if_pos h4]
        · rw [if_neg h4, if_neg h4, h i (by omega) h2 h3]
      | false =>
        -- it is true somewhere
        obtain ⟨b, hb⟩ := dep_true hd
        obtain ⟨x, hx1, hx2⟩ := exB_iff.1 hb
        obtain ⟨ρ, hρ, he⟩ := (hΛ k (by omega)).2 _ hx2
        have e0 : exB inn F k π = exB inn F k ρ := exB_same hF fun i hi => by
          have := he i hi
          unfold pfx at this
          rwa [if_pos hi] at this
        by_cases hik : inn k = true
        · have hlt : k < t := by
            rcases Nat.lt_or_ge k t with h | h
            · exact h
            · obtain rfl : k = t := by omega
              rw [hit] at hik; cases hik
          left
          refine List.mem_flatMap.2 ⟨k, List.mem_range.2 (by omega), ?_⟩
          show _ ∈ (if k < n then _ else _ : List BFn)
          rw [if_pos (show k < n by omega), if_pos hik]
          refine List.mem_flatMap.2 ⟨t, List.mem_range.2 ht, ?_⟩
          show _ ∈ (if k < t ∧ inn t = false ∧ sh t = false then _ else _ : List BFn)
          rw [if_pos ⟨hlt, hit, hsh⟩]
          obtain ⟨α, h1, h2⟩ := (hP k t).2 a
          refine List.mem_flatMap.2 ⟨ρ, hρ, List.mem_map.2 ⟨α, h1, funext fun y => ?_⟩⟩
          rw [e0]
          refine exB_dep hF fun i h3 h4 h5 => ?_
          have hne : i ≠ k := fun e => by subst e; rw [h5] at hik; cases hik
          unfold pfx
          by_cases h6 : i < t
          · rw [if_pos h6, if_pos h6, h2 i h6 (by omega) h5]
          · rw [if_neg h6, if_neg h6]
        · have hik : inn k = false := by simpa using hik
          by_cases hkt2 : k = t
          · subst hkt2
            left
            refine List.mem_flatMap.2 ⟨k, List.mem_range.2 (by omega), ?_⟩
            show _ ∈ (if k < n then _ else _ : List BFn)
            rw [if_pos ht, if_neg (by rw [hik]; decide), if_neg (by rw [hsh]; decide)]
            refine List.mem_map.2 ⟨ρ, hρ, funext fun y => ?_⟩
            rw [← e0]
            refine exB_dep hF fun i h3 h4 h5 => ?_
            unfold pfx
            rw [if_neg (by omega)]
          · have e : (fun b => exB inn F k π (pfx a t b)) = fun b => exB inn F (k + 1) (upd π k (a k)) (pfx a t b) := funext fun b => by
              rw [exB_next hF hik]
              have : pfx a t b k = a k := by unfold pfx; rw [if_pos (by omega)]
              rw [this]
            rw [e] at hd ⊢
            exact ih (k + 1) _ (by omega) hd
  exact main n k π (by omega) hd
end Go.Sy
end
section
set_option maxRecDepth 100000
set_option linter.unusedSimpArgs false
set_option linter.unusedVariables false
namespace Go.Proofs.Ytcoeknnghfajnaa
open Go Go.W Go.Tk Go.Rx Go.Bd Go.Sy Go.Maps
def ShS (b : Nat) (K : BFn) : Prop := ∃ nx, nx < 2 ∧ ∀ a c : Nat → Bool, (∀ p, b - 3 ≤ p → p < b → a (2 * p + nx) = c (2 * p + nx)) → K a = K c
def shT (b t : Nat) : Bool := decide (2 * (b - 3) ≤ t)
theorem cov_sh (n b : Nat) : CovW n (ShS b) 512 := by
  obtain ⟨L0, a0, b0⟩ := lst_fun ((List.range (b - (b - 3))).map fun i => 2 * (b - 3 + i) + 0)
  obtain ⟨L1, a1, b1⟩ := lst_fun ((List.range (b - (b - 3))).map fun i => 2 * (b - 3 + i) + 1)
  rw [List.length_map, List.length_range] at a0 a1
  have h3 : b - (b - 3) ≤ 3 := by omega
  have h8 : 2 ^ (b - (b - 3)) ≤ 2 ^ 3 := Nat.pow_le_pow_right (by omega) h3
  have h256 : 2 ^ 2 ^ (b - (b - 3)) ≤ 2 ^ 2 ^ 3 := Nat.pow_le_pow_right (by omega) h8
  have e256 : 2 ^ 2 ^ 3 = 256 := rfl
  refine ⟨L0 ++ L1, by rw [List.length_append]; omega, ?_⟩
  rintro G ⟨nx, hnx, h⟩ t a ht hd
  have key : ∀ x y : Nat → Bool, (∀ i ∈ ((List.range (b - (b - 3))).map fun i => 2 * (b - 3 + i) + nx), x i = y i) → G (pfx a t x) = G (pfx a t y) := fun x y hi => h _ _ fun p h1 h2 => by
    unfold pfx
    by_cases h4 : 2 * p + nx < t
    · rw [if_pos h4, if_pos h4]
    · rw [if_neg h4, if_neg h4]
      exact hi _ (List.mem_map.2 ⟨p - (b - 3), List.mem_range.2 (by omega), by show 2 * (b - 3 + (p - (b - 3))) + nx = _; omega⟩)
  rcases (show nx = 0 ∨ nx = 1 by omega) with rfl | rfl
  · exact List.mem_append_left _ (b0 _ key)
  · exact List.mem_append_right _ (b1 _ key)
/-- A function of the bits of the state (0) or of the successor (1). -/
def XN (nx b : Nat) (G : BFn) : Prop := ∀ a c : Nat → Bool, (∀ p, p < b → a (2 * p + nx) = c (2 * p + nx)) → G a = G c
theorem XN.of {b : Nat} {G : BFn} (h : XIn 0 b G) : XN 0 b G := fun a c hh => h a c fun p _ hp => by have := hh p (by omega); simpa using this
theorem sum_half (nx s : Nat) (hn : nx < 2) : ∀ b, ((List.range (2 * b)).map fun t => if t % 2 = nx ∧ t < 2 * s then 2 ^ (t / 2) else 0).sum + 1 ≤ 2 ^ min b s
  | 0 => by simp
  | b + 1 => by
    have ih := sum_half nx s hn b
    rw [show 2 * (b + 1) = 2 * b + 1 + 1 by omega, List.range_succ, List.range_succ]
    simp only [List.map_append, List.sum_append, List.map_cons, List.map_nil, List.sum_cons, List.sum_nil, Nat.add_zero]
    rw [show 2 * b % 2 = 0 by omega, show (2 * b + 1) % 2 = 1 by omega, show 2 * b / 2 = b by omega, show (2 * b + 1) / 2 = b by omega]
    by_cases hb : b < s
    · rw [Nat.min_eq_left (by omega)] at ih ⊢
      rw [Nat.pow_succ]
      rcases (show nx = 0 ∨ nx = 1 by omega) with rfl | rfl
      · rw [if_pos ⟨rfl, by omega⟩, if_neg (by omega)]; omega
      · rw [if_neg (by omega), if_pos ⟨rfl, by omega⟩]; omega
    · rw [if_neg (by omega), if_neg (by omega), Nat.min_eq_right (by omega)]
      rw [Nat.min_eq_right (by omega)] at ih
      omega
theorem sum_mono {l : List Nat} {f g : Nat → Nat} (h : ∀ t ∈ l, f t ≤ g t) : (l.map f).sum ≤ (l.map g).sum := by
  induction l with
  | nil => simp
  | cons x l ih =>
    simp only [List.map_cons, List.sum_cons]
    exact Nat.add_le_add (h x (by simp)) (ih fun t ht => h t (by simp [ht]))
theorem cov_xn {nx b : Nat} {G : BFn} (hn : nx < 2) (h : XN nx b G) : CovR (2 * b) (ShS b) (fun K => K = G) (2 ^ (b - 3)) := by
  refine (cov_lev (rel := fun i => decide (i % 2 = nx)) (sh := shT b) (fun a c hi => h a c fun p hp => hi _ (by omega) (decide_eq_true (by omega))) (fun t => 2 ^ (t / 2)) (fun t a ht hr hs => ?_) fun t ht hr hs => ?_).mono (fun _ h => h) ?_
  · have hr := of_decide_eq_true hr
    have hs := of_decide_eq_true hs
    refine ⟨nx, hn, fun x y hi => h _ _ fun p hp => ?_⟩
    unfold pfx
    by_cases h4 : 2 * p + nx < t
    · rw [if_pos h4, if_pos h4]
    · rw [if_neg h4, if_neg h4]
      exact hi p (by omega) hp
  · have hr := of_decide_eq_true hr
    obtain ⟨Λ, a, b⟩ := lst_det ((List.range (t / 2)).map fun p => 2 * p + nx) (fun i => i < t ∧ i % 2 = nx) (fun a => G a = true) fun a b _ _ hi i hQ => hi i (List.mem_map.2 ⟨i / 2, List.mem_range.2 (by omega), by show 2 * (i / 2) + nx = i; omega⟩)
    refine ⟨Λ, by simpa using a, fun x hx => ?_⟩
    obtain ⟨π, h1, h2⟩ := b x hx
    exact ⟨π, h1, fun i hi hr => h2 i ⟨hi, of_decide_eq_true hr⟩⟩
  · have h1 := sum_half nx (b - 3) hn b
    have h2 : ((List.range (2 * b)).map fun t => if decide (t % 2 = nx) = true ∧ shT b t = false then 2 ^ (t / 2) else 0).sum ≤ ((List.range (2 * b)).map fun t => if t % 2 = nx ∧ t < 2 * (b - 3) then 2 ^ (t / 2) else 0).sum := sum_mono fun t _ => by
      by_cases h3 : t % 2 = nx ∧ t < 2 * (b - 3)
      · rw [if_pos h3]
        by_cases h4 : decide (t % 2 = nx) = true ∧ shT b t = false
        · rw [if_pos h4]; exact Nat.le_refl _
        · rw [if_neg h4]; exact Nat.zero_le _
      · rw [if_neg h3, if_neg]
        · exact Nat.le_refl _
        · rintro ⟨h4, h5⟩
          have h5 := of_decide_eq_false h5
          exact h3 ⟨of_decide_eq_true h4, by omega⟩
    have h3 : 2 ^ min b (b - 3) ≤ 2 ^ (b - 3) := Nat.pow_le_pow_right (by omega) (Nat.min_le_right _ _)
    omega
/-- The parts of a function have its parts alone. -/
theorem CovR.isc {n N : Nat} {S : BFn → Prop} {F : BFn} (h : CovR n S (fun K => K = F) N) : CovR n S (fun G => Bd.IsC F G) N := by
  obtain ⟨L, a, b⟩ := h
  refine ⟨L, a, ?_⟩
  rintro G ⟨k, π, e⟩ t α ht hd
  by_cases hk : k ≤ t
  · have e2 : (fun x => G (pfx α t x)) = fun x => F (pfx (fun i => if i < k then π i else α i) t x) := funext fun x => by
      rw [e]
      congr 1
      funext i
      simp only [pfx]
      by_cases h1 : i < k
      · rw [if_pos h1, if_pos (by omega), if_pos h1]
      · rw [if_neg h1]
        by_cases h2 : i < t
        · rw [if_pos h2, if_pos h2, if_neg h1]
        · rw [if_neg h2, if_neg h2]
    rw [e2] at hd ⊢
    exact b F rfl t _ ht hd
  · exfalso
    obtain ⟨x, hx⟩ := hd
    apply hx
    show G (pfx α t (upd x t true)) = G (pfx α t (upd x t false))
    rw [e, e]
    congr 1
    funext i
    simp only [pfx]
    by_cases h1 : i < k
    · rw [if_pos h1, if_pos h1]
    · rw [if_neg h1, if_neg h1, if_neg (by omega), if_neg (by omega), upd_ne (by omega), upd_ne (by omega)]
/-- The bits of the state, and some of those of the successor. -/
def rvW (f w i : Nat) : Bool := decide (i % 2 = 0) || (decide (f ≤ i / 2) && decide (i / 2 < f + w))
theorem cnt_rvW (f w : Nat) : ∀ m, cntR (rvW f w) (2 * m) ≤ m + (min m (f + w) - min m f)
  | 0 => by simp [cntR]
  | m + 1 => by
    have ih := cnt_rvW f w m
    rw [show 2 * (m + 1) = 2 * m + 1 + 1 by omega, cntR_succ, cntR_succ]
    have e1 : rvW f w (2 * m) = true := by unfold rvW; rw [show 2 * m % 2 = 0 by omega]; rfl
    rw [if_pos e1]
    by_cases h : f ≤ m ∧ m < f + w
    · have : (if rvW f w (2 * m + 1) = true then 1 else 0) ≤ 1 := by split <;> omega
      omega
    · have e2 : rvW f w (2 * m + 1) = false := by
        unfold rvW
        rw [show (2 * m + 1) % 2 = 1 by omega, show (2 * m + 1) / 2 = m by omega]
        by_cases h1 : f ≤ m
        · have : ¬ m < f + w := fun h2 => h ⟨h1, h2⟩
          simp [h1, this]
        · simp [h1]
      rw [if_neg (by rw [e2]; decide)]
      omega
theorem lvS_eq (b : Nat) : ∀ R, R ≤ b → lvS R b + 1 = 2 ^ R
  | 0, _ => by simp [lvS]
  | R + 1, h => by
    have := lvS_eq b R (by omega)
    rw [lvS_succ, Nat.min_eq_left (by omega), Nat.pow_succ]
    omega
theorem lvS_le (b : Nat) : ∀ w, lvS (b + w) b ≤ (w + 1) * 2 ^ b
  | 0 => by
    have := lvS_eq b b (Nat.le_refl _)
    rw [Nat.add_zero]
    omega
  | w + 1 => by
    have := lvS_le b w
    rw [show b + (w + 1) = b + w + 1 by omega, lvS_succ, Nat.min_eq_right (by omega), Nat.succ_mul]
    omega
/-- The state fixes some bits of the successor. -/
theorem cov_fix {S : BFn → Prop} {b f w : Nat} {G : BFn} (hG : RelIn (2 * b) (rvW f w) G)
    (hx : ∀ a c : Nat → Bool, G a = true → G c = true → (∀ p, p < b → a (2 * p) = c (2 * p)) → ∀ p, p < b → f ≤ p → p < f + w → a (2 * p + 1) = c (2 * p + 1)) : CovR (2 * b) S (fun K => K = G) ((w + 1) * 2 ^ b) := by
  refine (cov_det hG ((List.range b).map fun p => 2 * p) fun a c ha hc hi i hib hr => ?_).mono (fun _ h => h) ?_
  · have hev : ∀ p, p < b → a (2 * p) = c (2 * p) := fun p hp => hi _ (List.mem_map.2 ⟨p, List.mem_range.2 hp, rfl⟩)
    rcases Nat.mod_two_eq_zero_or_one i with h0 | h0
    · have := hev (i / 2) (by omega)
      rwa [show 2 * (i / 2) = i by omega] at this
    · unfold rvW at hr
      rw [h0] at hr
      simp at hr
      have := hx a c ha hc hev (i / 2) (by omega) hr.1 hr.2
      rwa [show 2 * (i / 2) + 1 = i by omega] at this
  · rw [List.length_map, List.length_range]
    have h1 := cnt_rvW f w b
    exact Nat.le_trans (lvS_mono (by omega)) (lvS_le b w)
end Go.Proofs.Ytcoeknnghfajnaa
end
