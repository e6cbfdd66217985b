/- the conjunction of the even variables and the parity of some, plainly -/
import Derived.Test.YtkojilpjpdpmaaaRBdR
set_option linter.unusedVariables false
set_option linter.unusedSimpArgs false
namespace Go.Bd
section
variable {n : Nat} {ns ns' : Ns}
/-- The first variable of a function. -/
theorem top_of (w : Wf n ns) {f v : Nat} (hf : Ref ns f) (hv : v < n) (hd : ∀ a b : Nat → Bool, (∀ i, v ≤ i → a i = b i) → eval ns a f = eval ns b f) (hne : ∃ a, eval ns (upd a v false) f ≠ eval ns (upd a v true) f) : 2 ≤ f ∧ tv n ns f = v := by
  have h1 := tv_ge w hf (by omega) hd
  have h2 : tv n ns f ≤ v := by
    rcases Nat.lt_or_ge v (tv n ns f) with h | h
    · obtain ⟨a, ha⟩ := hne
      exact absurd (by rw [eval_upd w hf h, eval_upd w hf h]) ha
    · exact h
  refine ⟨?_, by omega⟩
  rcases Nat.lt_or_ge f 2 with h | h
  · rw [tv_lt h] at h2; omega
  · exact h
/-- A function of two halves. -/
theorem halves (w : Wf n ns) {f v l h : Nat} (hf : Ref ns f) (hv : v < n) (hl : Ref ns l) (hh : Ref ns h) (tl : v < tv n ns l) (th : v < tv n ns h) (he : ∀ a, eval ns a f = if a v then eval ns a h else eval ns a l) (hne : l ≠ h) : 2 ≤ f ∧ at_ n ns f = ⟨v, l, h⟩ := by
  have hx : ∃ a, eval ns a l ≠ eval ns a h := by
    rcases Classical.em (∃ a, eval ns a l ≠ eval ns a h) with h1 | h1
    · exact h1
    · refine absurd (canon w hl hh fun a => ?_) hne
      rcases Classical.em (eval ns a l = eval ns a h) with h2 | h2
      · exact h2
      · exact absurd ⟨a, h2⟩ h1
  obtain ⟨h2, ht⟩ := top_of w hf hv (fun a b hab => by
      rw [he, he, hab v (Nat.le_refl _), eval_congr w hl (a := a) (b := b) (fun i hi => hab i (by omega)), eval_congr w hh (a := a) (b := b) (fun i hi => hab i (by omega))]) (by
      obtain ⟨a, ha⟩ := hx
      refine ⟨a, ?_⟩
      rw [he, he, upd_same, upd_same]
      simp only [Bool.false_eq_true, if_false, if_true]
      rw [eval_upd w hl tl, eval_upd w hh th]
      exact ha)
  refine ⟨h2, ?_⟩
  have el : (at_ n ns f).low = l := canon w (w.ref_low hf) hl fun a => by
    rw [← eval_low w h2 hf, ht, he, upd_same]
    simp only [Bool.false_eq_true, if_false]
    exact eval_upd w hl tl
  have eh : (at_ n ns f).high = h := canon w (w.ref_high hf) hh fun a => by
    rw [← eval_high w h2 hf, ht, he, upd_same]
    simp only [if_true]
    exact eval_upd w hh th
  have ev : (at_ n ns f).v = v := ht
  cases hc : at_ n ns f
  rw [hc] at el eh ev
  simp at el eh ev
  simp [el, eh, ev]
theorem Rch.node {f : Nat} (h : 2 ≤ f) {d : Nd} (hd : at_ n ns f = d) (y : Nat) : Rch n ns f y ↔ y = f ∨ Rch n ns d.low y ∨ Rch n ns d.high y := by
  subst hd
  constructor
  · intro hr
    cases hr with
    | self _ => exact .inl rfl
    | low _ k => exact .inr (.inl k)
    | high _ k => exact .inr (.inr k)
  · rintro (rfl | k | k)
    · exact .self h
    · exact .low h k
    · exact .high h k
theorem Rch.none {f y : Nat} (h : f < 2) : ¬ Rch n ns f y := fun hr => by have := hr.from2; omega
theorem Rch.tv_le (w : Wf n ns) {f y : Nat} (hr : Rch n ns f y) (hf : Ref ns f) : tv n ns f < tv n ns y ∨ y = f := by
  induction hr with
  | self h => exact .inr rfl
  | low h k ih =>
    have h1 := w.tv_low h hf
    rcases ih (w.ref_low hf) with h2 | h2
    · exact .inl (by omega)
    · exact .inl (by rw [h2]; exact h1)
  | high h k ih =>
    have h1 := w.tv_high h hf
    rcases ih (w.ref_high hf) with h2 | h2
    · exact .inl (by omega)
    · exact .inl (by rw [h2]; exact h1)
theorem Rch.ext (w : Wf n ns) (hx : Ext n ns ns') {f y : Nat} (hf : Ref ns f) : Rch n ns' f y ↔ Rch n ns f y := by
  constructor
  · intro hr
    induction hr with
    | self h => exact .self h
    | low h k ih => rw [hx.at hf] at k ih; exact .low h (ih (w.ref_low hf))
    | high h k ih => rw [hx.at hf] at k ih; exact .high h (ih (w.ref_high hf))
  · intro hr
    induction hr with
    | self h => exact .self h
    | low h k ih => exact .low h (by rw [hx.at hf]; exact ih (w.ref_low hf))
    | high h k ih => exact .high h (by rw [hx.at hf]; exact ih (w.ref_high hf))
end
theorem same_len {xs ys : List Nat} (hx : xs.Nodup) (hy : ys.Nodup) (h : ∀ x, x ∈ xs ↔ x ∈ ys) : xs.length = ys.length :=
  Nat.le_antisymm (nodup_len _ _ hx fun x hx => (h x).1 hx) (nodup_len _ _ hy fun x hx => (h x).2 hx)
/-! ### And with a variable above -/
def andS (x f : Nat) : Nat → Nat → Prop := fun p q => p = min x f ∧ q = max x f
section
variable {n : Nat} {ns ns' : Ns}
theorem lo_gt {v x : Nat} (h : v < tv n ns x) : lo n ns v x = x := by simp [lo, h]
theorem hi_gt {v x : Nat} (h : v < tv n ns x) : hi n ns v x = x := by simp [hi, h]
theorem lo_eq {v x : Nat} {d : Nd} (h : at_ n ns x = d) (hv : d.v = v) : lo n ns v x = d.low := by
  have : ¬ v < tv n ns x := by rw [tv, h, hv]; omega
  simp [lo, this, h]
theorem hi_eq {v x : Nat} {d : Nd} (h : at_ n ns x = d) (hv : d.v = v) : hi n ns v x = d.high := by
  have : ¬ v < tv n ns x := by rw [tv, h, hv]; omega
  simp [hi, this, h]
theorem Sn.comm {op : Nat} {S : Nat → Nat → Prop} {x y : Nat} (h : Sn op S x y) : Sn op S y x := by
  unfold Sn at *; rwa [Nat.min_comm, Nat.max_comm]
/-- The halves of a sorted pair, whichever is first. -/
theorem clo_pair {op : Nat} {S : Nat → Nat → Prop} {x f : Nat} (hx : Ref ns x) (hf : Ref ns f)
    (h : Sn op S (lo n ns (min (tv n ns x) (tv n ns f)) x) (lo n ns (min (tv n ns x) (tv n ns f)) f) ∧ Sn op S (hi n ns (min (tv n ns x) (tv n ns f)) x) (hi n ns (min (tv n ns x) (tv n ns f)) f)) :
    ∀ p q, p = min x f ∧ q = max x f → Ref ns p ∧ Ref ns q ∧ Sn op S (lo n ns (min (tv n ns p) (tv n ns q)) p) (lo n ns (min (tv n ns p) (tv n ns q)) q) ∧ Sn op S (hi n ns (min (tv n ns p) (tv n ns q)) p) (hi n ns (min (tv n ns p) (tv n ns q)) q) := by
  rintro p q ⟨rfl, rfl⟩
  rcases Nat.le_total x f with h1 | h1
  · rw [Nat.min_eq_left h1, Nat.max_eq_right h1]
    exact ⟨hx, hf, h⟩
  · rw [Nat.min_eq_right h1, Nat.max_eq_left h1, Nat.min_comm]
    exact ⟨hf, hx, h.1.comm, h.2.comm⟩
theorem and_clo {x f v : Nat} (hx : Ref ns x) (hf : Ref ns f) (hat : at_ n ns x = ⟨v, 0, 1⟩) (hv : v < tv n ns f) : Sn 0 (andS x f) x f ∧ Clo n 0 ns (andS x f) := by
  refine ⟨.inr ⟨rfl, rfl⟩, fun p q hpq => clo_pair hx hf ?_ p q hpq⟩
  have e : min (tv n ns x) (tv n ns f) = v := by
    have : tv n ns x = v := by rw [tv, hat]
    omega
  rw [e, lo_eq hat rfl, lo_gt hv, hi_eq hat rfl, hi_gt hv]
  show Sn 0 _ 0 f ∧ Sn 0 _ 1 f
  refine ⟨.inl ?_, .inl ?_⟩
  · simp [sh]
  · rcases Nat.lt_or_ge f 2 with h | h
    · have : f = 0 ∨ f = 1 := by omega
      rcases this with rfl | rfl <;> simp [sh]
    · rw [Nat.min_eq_left (by omega), Nat.max_eq_right (by omega)]
      have : ¬ f = 0 := by omega
      simp [sh, this]
/-! ### Xor with a variable above -/
def xorS (x f : Nat) (L : List Nat) : Nat → Nat → Prop := fun p q => (p = min x f ∧ q = max x f) ∨ (p = 1 ∧ q ∈ L)
theorem xor_one {S : Nat → Nat → Prop} {x f y : Nat} {L : List Nat} (h : 2 ≤ y → y ∈ L) : Sn 2 (xorS x f L) 1 y := by
  rcases Nat.lt_or_ge y 2 with h1 | h1
  · have : y = 0 ∨ y = 1 := by omega
    refine .inl ?_
    rcases this with rfl | rfl <;> simp [sh]
  · refine .inr (.inr ⟨?_, ?_⟩)
    · omega
    · rw [Nat.max_eq_right (by omega)]; exact h h1
theorem xor_clo (w : Wf n ns) {x f v : Nat} {L : List Nat} (hx : Ref ns x) (hf : Ref ns f) (hat : at_ n ns x = ⟨v, 0, 1⟩) (hv : v < tv n ns f) (hL : ∀ y, y ∈ L ↔ Rch n ns f y) : Sn 2 (xorS x f L) x f ∧ Clo n 2 ns (xorS x f L) := by
  refine ⟨.inr (.inl ⟨rfl, rfl⟩), fun p q hpq => ?_⟩
  rcases hpq with hpq | ⟨rfl, hq⟩
  · refine clo_pair hx hf ?_ p q hpq
    have e : min (tv n ns x) (tv n ns f) = v := by
      have : tv n ns x = v := by rw [tv, hat]
      omega
    rw [e, lo_eq hat rfl, lo_gt hv, hi_eq hat rfl, hi_gt hv]
    show Sn 2 _ 0 f ∧ Sn 2 _ 1 f
    refine ⟨.inl ?_, xor_one (S := xorS x f L) fun h2 => (hL f).2 (.self h2)⟩
    rw [Nat.min_eq_left (by omega), Nat.max_eq_right (by omega)]
    simp [sh]
    split <;> rfl
  · have hr := (hL q).1 hq
    have h2 := hr.ge
    have hq' : Ref ns q := hr.ref w hf
    have htn : tv n ns 1 = n := tv_lt (by omega)
    have hlt := w.tv_var h2 hq'
    have e : min (tv n ns 1) (tv n ns q) = tv n ns q := by rw [htn]; omega
    refine ⟨Ref.one ns, hq', ?_⟩
    rw [e, lo_gt (by rw [htn]; exact hlt), hi_gt (by rw [htn]; exact hlt), lo_eq (v := tv n ns q) (d := at_ n ns q) rfl rfl, hi_eq (v := tv n ns q) (d := at_ n ns q) rfl rfl]
    exact ⟨xor_one (S := xorS x f L) fun h => (hL _).2 (hr.trans (.low h2 (.self h))), xor_one (S := xorS x f L) fun h => (hL _).2 (hr.trans (.high h2 (.self h)))⟩
end
/-! ### The state of the loop -/
def evs (n u : Nat) (a : Nat → Bool) : Prop := ∀ i, u ≤ i → i < n → i % 2 = 0 → a i = true
def par : Nat → Nat → (Nat → Bool) → Bool
  | 0, _, _ => false
  | d + 1, u, a => a u != par d (u + 1) a
/-- The conjunction so far. -/
structure AllI (n : Nat) (ns : Ns) (u f e : Nat) : Prop where
  ref : Ref ns f
  sem : ∀ a, eval ns a f = true ↔ evs n u a
  tvu : u ≤ tv n ns f
  len : ∃ L : List Nat, L.Nodup ∧ (∀ y, y ∈ L ↔ Rch n ns f y) ∧ L.length = e
/-- The parity so far. -/
structure OddI (n : Nat) (ns : Ns) (u d f : Nat) : Prop where
  ref : Ref ns f
  sem : ∀ a, eval ns a f = par d u a
  var : ∀ i, (∃ y, Rch n ns f y ∧ tv n ns y = i) ↔ u ≤ i ∧ i < u + d
  len : ∃ L : List Nat, L.Nodup ∧ (∀ y, y ∈ L ↔ Rch n ns f y) ∧ L.length = 2 * d - 1
theorem par_congr : ∀ (d u : Nat) {a b : Nat → Bool}, (∀ i, u ≤ i → a i = b i) → par d u a = par d u b
  | 0, _, _, _, _ => rfl
  | d + 1, u, a, b, h => by rw [par, par, h u (Nat.le_refl _), par_congr d (u + 1) (fun i hi => h i (by omega))]
section
variable {n : Nat} {ns ns' : Ns}
theorem AllI.start : AllI n ns n 1 0 :=
  ⟨Ref.one ns, fun a => by rw [eval_one]; simp [evs]; intro i h1 h2; omega, by rw [tv_lt (by omega)]; exact Nat.le_refl _, [], by simp, fun y => by simp [Rch.none], rfl⟩
theorem OddI.start {k : Nat} : OddI n ns k 0 0 :=
  ⟨Ref.zero ns, fun a => by rw [eval_zero]; rfl, fun i => ⟨fun ⟨y, hy, _⟩ => absurd hy (Rch.none (by omega)), fun h => by omega⟩, [], by simp, fun y => by simp [Rch.none], rfl⟩
theorem AllI.ext {u f e : Nat} (h : AllI n ns u f e) (w : Wf n ns) (hx : Ext n ns ns') : AllI n ns' u f e := by
  obtain ⟨L, h1, h2, h3⟩ := h.len
  exact ⟨hx.ref h.ref, fun a => by rw [hx.eval w a h.ref]; exact h.sem a, by rw [hx.tv h.ref]; exact h.tvu, L, h1, fun y => by rw [h2, Rch.ext w hx h.ref], h3⟩
theorem OddI.ext {u d f : Nat} (h : OddI n ns u d f) (w : Wf n ns) (hx : Ext n ns ns') : OddI n ns' u d f := by
  obtain ⟨L, h1, h2, h3⟩ := h.len
  refine ⟨hx.ref h.ref, fun a => by rw [hx.eval w a h.ref]; exact h.sem a, fun i => ?_, L, h1, fun y => by rw [h2, Rch.ext w hx h.ref], h3⟩
  rw [← h.var i]
  constructor
  · rintro ⟨y, hy, e⟩
    have hy := (Rch.ext w hx h.ref).1 hy
    exact ⟨y, hy, by rw [← hx.tv (hy.ref w h.ref)]; exact e⟩
  · rintro ⟨y, hy, e⟩
    exact ⟨y, (Rch.ext w hx h.ref).2 hy, by rw [hx.tv (hy.ref w h.ref)]; exact e⟩
/-- An odd variable. -/
theorem AllI.skip {v f e : Nat} (h : AllI n ns (v + 1) f e) (hv : v % 2 = 1) : AllI n ns v f e := by
  refine ⟨h.ref, fun a => (h.sem a).trans ⟨fun h1 i hi hn he => ?_, fun h1 i hi hn he => h1 i (by omega) hn he⟩, by have := h.tvu; omega, h.len⟩
  rcases Nat.lt_or_ge v i with h2 | h2
  · exact h1 i h2 hn he
  · have : i = v := by omega
    subst this; omega
/-- An even variable. -/
theorem AllI.step {v f e x : Nat} (w : Wf n ns') (h : AllI n ns' (v + 1) f e) (hv : v % 2 = 0) (hn : v < n) (hx : Ref ns' x) (he : ∀ a, eval ns' a x = (a v && eval ns' a f)) : AllI n ns' v x (e + 1) := by
  have htf : v < tv n ns' f := h.tvu
  have hf0 : 0 ≠ f := fun e => by
    have := (h.sem (fun _ => true)).2 (fun _ _ _ _ => rfl)
    rw [← e, eval_zero] at this; cases this
  obtain ⟨h2, hat⟩ := halves w hx hn (Ref.zero _) h.ref (by rw [tv_lt (by omega)]; exact hn) htf (fun a => by rw [he, eval_zero]; cases a v <;> simp) hf0
  obtain ⟨L, l1, l2, l3⟩ := h.len
  refine ⟨hx, fun a => ?_, by rw [tv, hat]; exact Nat.le_refl _, x :: L, ?_, fun y => ?_, by simp [l3]⟩
  · rw [he, Bool.and_eq_true, h.sem]
    constructor
    · rintro ⟨h3, h4⟩ i hi hin hie
      rcases Nat.lt_or_ge v i with h5 | h5
      · exact h4 i h5 hin hie
      · have : i = v := by omega
        subst this; exact h3
    · intro h3
      exact ⟨h3 v (Nat.le_refl _) hn hv, fun i hi => h3 i (by omega)⟩
  · refine List.nodup_cons.2 ⟨fun hm => ?_, l1⟩
    have h3 := (l2 x).1 hm
    have e1 : tv n ns' x = v := by rw [tv, hat]
    rcases h3.tv_le w h.ref with h4 | h4
    · omega
    · rw [h4] at e1; omega
  · rw [Rch.node h2 hat y, List.mem_cons, l2]
    simp only [Rch.none (show 0 < 2 by omega), false_or]
/-- The next variable of the parity. -/
theorem OddI.step {v d f x : Nat} (w : Wf n ns') (h : OddI n ns' (v + 1) d f) (hn : v + 1 + d ≤ n) (hx : Ref ns' x) (he : ∀ a, eval ns' a x = (a v != eval ns' a f)) : OddI n ns' v (d + 1) x := by
  have hsem : ∀ a, eval ns' a x = par (d + 1) v a := fun a => by rw [he, h.sem, par]
  have htf : v + 1 ≤ tv n ns' f := tv_ge w h.ref (by omega) fun a b hab => by rw [h.sem, h.sem]; exact par_congr d (v + 1) hab
  obtain ⟨h2, ht⟩ := top_of w hx (v := v) (by omega) (fun a b hab => by rw [hsem, hsem]; exact par_congr _ _ hab) ⟨fun _ => false, by
    rw [he, he, upd_same, upd_same, eval_upd w h.ref (by omega), eval_upd w h.ref (by omega)]
    cases eval ns' (fun _ => false) f <;> simp⟩
  have rl := w.ref_low hx
  have rh := w.ref_high hx
  have el : (at_ n ns' x).low = f := canon w rl h.ref fun a => by
    rw [← eval_low w h2 hx, ht, he, upd_same, eval_upd w h.ref (by omega)]; simp
  have eh : ∀ a, eval ns' a (at_ n ns' x).high = !eval ns' a f := fun a => by
    rw [← eval_high w h2 hx, ht, he, upd_same, eval_upd w h.ref (by omega)]; simp
  obtain ⟨L, l1, l2, l3⟩ := h.len
  have hth := w.tv_high h2 hx
  have htx : tv n ns' x = v := ht
  obtain ⟨g, hg⟩ : ∃ g, g = (at_ n ns' x).high := ⟨_, rfl⟩
  rw [← hg] at eh rh hth
  suffices hs : (∀ i, (∃ y, Rch n ns' x y ∧ tv n ns' y = i) ↔ v ≤ i ∧ i < v + (d + 1)) ∧ ∃ L : List Nat, L.Nodup ∧ (∀ y, y ∈ L ↔ Rch n ns' x y) ∧ L.length = 2 * (d + 1) - 1 from ⟨hx, hsem, hs.1, hs.2⟩
  have hrx : ∀ y, Rch n ns' x y ↔ y = x ∨ Rch n ns' f y ∨ Rch n ns' g y := fun y => by
    rw [Rch.node h2 rfl y, el, ← hg]
  cases d with
  | zero =>
    have hf : f = 0 := canon w h.ref (Ref.zero _) fun a => by rw [h.sem, eval_zero]; rfl
    have hg1 : g = 1 := canon w rh (Ref.one _) fun a => by rw [eh, h.sem, eval_one]; rfl
    refine ⟨fun i => ⟨?_, fun hi => ?_⟩, [x], by simp, fun y => ?_, by simp⟩
    · rintro ⟨y, hy, e⟩
      rw [hrx, hf, hg1] at hy
      rcases hy with rfl | hy | hy
      · omega
      · exact absurd hy (Rch.none (by omega))
      · exact absurd hy (Rch.none (by omega))
    · exact ⟨x, .self h2, by omega⟩
    rw [hrx, hf, hg1]
    simp [Rch.none]
  | succ d =>
    -- both have the next variable on top
    obtain ⟨f2, tf⟩ := top_of w h.ref (v := v + 1) (by omega) (fun a b hab => by rw [h.sem, h.sem]; exact par_congr _ _ hab) ⟨fun _ => false, by
      rw [h.sem, h.sem, par, par, upd_same, upd_same, par_congr d (v + 1 + 1) (a := upd (fun _ => false) (v + 1) false) (b := upd (fun _ => false) (v + 1) true) (fun i hi => by rw [upd_ne (by omega), upd_ne (by omega)])]
      cases par d (v + 1 + 1) (upd (fun _ => false) (v + 1) true) <;> simp⟩
    have fl : ∀ a, eval ns' a (at_ n ns' f).low = par d (v + 1 + 1) a := fun a => by
      rw [← eval_low w f2 h.ref, tf, h.sem, par, upd_same, par_congr d (v + 1 + 1) (fun i hi => upd_ne (by omega))]; simp
    have fh : ∀ a, eval ns' a (at_ n ns' f).high = !par d (v + 1 + 1) a := fun a => by
      rw [← eval_high w f2 h.ref, tf, h.sem, par, upd_same, par_congr d (v + 1 + 1) (fun i hi => upd_ne (by omega))]; simp
    have hne : (at_ n ns' f).high ≠ (at_ n ns' f).low := fun e => by
      have := fh (fun _ => false)
      rw [e, fl] at this
      cases hp : par d (v + 1 + 1) (fun _ => false) <;> rw [hp] at this <;> cases this
    have tl := w.tv_low f2 h.ref
    have th := w.tv_high f2 h.ref
    rw [tf] at tl th
    obtain ⟨g2, gat⟩ := halves w rh (v := v + 1) (by omega) (w.ref_high h.ref) (w.ref_low h.ref) th tl (fun a => by
      rw [eh, h.sem, par, fl, fh]
      cases a (v + 1) <;> simp) hne
    have hgr : ∀ y, Rch n ns' g y ↔ y = g ∨ Rch n ns' (at_ n ns' f).high y ∨ Rch n ns' (at_ n ns' f).low y := fun y => Rch.node g2 gat y
    have tg : tv n ns' g = v + 1 := by rw [tv, gat]
    have hfg : g ≠ f := fun e => by
      have := eh (fun _ => false)
      rw [e] at this
      cases hp : eval ns' (fun _ => false) f <;> rw [hp] at this <;> cases this
    refine ⟨fun i => ⟨?_, fun hi => ?_⟩, x :: g :: L, ?_, fun y => ?_, by simp [l3]; omega⟩
    · rintro ⟨y, hy, e⟩
      have hv := (h.var i).1
      rcases (hrx y).1 hy with rfl | hy | hy
      · omega
      · have := hv ⟨y, hy, e⟩; omega
      · rcases (hgr y).1 hy with rfl | hy | hy
        · omega
        · have := hv ⟨y, .high f2 hy, e⟩; omega
        · have := hv ⟨y, .low f2 hy, e⟩; omega
    · rcases Nat.lt_or_ge v i with h3 | h3
      · obtain ⟨y, hy, e⟩ := (h.var i).2 (by omega)
        exact ⟨y, (hrx y).2 (.inr (.inl hy)), e⟩
      · exact ⟨x, .self h2, by omega⟩
    · refine List.nodup_cons.2 ⟨fun hm => ?_, List.nodup_cons.2 ⟨fun hm => ?_, l1⟩⟩
      · rcases List.mem_cons.1 hm with h3 | h3
        · rw [h3] at htx; omega
        · rcases ((l2 x).1 h3).tv_le w h.ref with h4 | h4
          · omega
          · rw [h4] at htx; omega
      · rcases ((l2 g).1 hm).tv_le w h.ref with h4 | h4
        · omega
        · exact hfg h4
    · rw [hrx, hgr, List.mem_cons, List.mem_cons, l2]
      constructor
      · rintro (h3 | h3 | h3)
        · exact .inl h3
        · exact .inr (.inr (.inl h3))
        · exact .inr (.inl h3)
      · rintro (h3 | h3 | h3 | h3 | h3)
        · exact .inl h3
        · exact .inr (.inr h3)
        · exact .inr (.inl h3)
        · exact .inr (.inr (.high f2 h3))
        · exact .inr (.inr (.low f2 h3))
end
/-! ### Counts -/
theorem num_const : ∀ (d u : Nat) (c : Bool), num d u (fun _ => c) = if c then 2 ^ d else 0
  | 0, u, c => by cases c <;> rfl
  | d + 1, u, c => by
    rw [num, num_const d (u + 1) c]
    cases c <;> simp [Nat.pow_succ]; omega
theorem num_par : ∀ (d j u : Nat) (c : Bool) {F : (Nat → Bool) → Bool}, j < d → (∀ a, F a = (c != par (j + 1) u a)) → num d u F = 2 ^ (d - 1)
  | 0, j, u, c, F, h, hF => by omega
  | d + 1, 0, u, c, F, h, hF => by
    have h0 : ∀ a, F (upd a u false) = c := fun a => by rw [hF, par, par, upd_same]; cases c <;> rfl
    have h1 : ∀ a, F (upd a u true) = !c := fun a => by rw [hF, par, par, upd_same]; cases c <;> rfl
    rw [num, num_congr d (u + 1) h0, num_congr d (u + 1) h1, num_const, num_const]
    cases c <;> simp
  | d + 1, j + 1, u, c, F, h, hF => by
    have hp : ∀ a x, par (j + 1) (u + 1) (upd a u x) = par (j + 1) (u + 1) a := fun a x => par_congr _ _ fun i hi => upd_ne (by omega)
    have h0 : ∀ a, F (upd a u false) = (c != par (j + 1) (u + 1) a) := fun a => by rw [hF, par, upd_same, hp]; cases c <;> cases par (j + 1) (u + 1) a <;> rfl
    have h1 : ∀ a, F (upd a u true) = ((!c) != par (j + 1) (u + 1) a) := fun a => by rw [hF, par, upd_same, hp]; cases c <;> cases par (j + 1) (u + 1) a <;> rfl
    rw [num, num_congr d (u + 1) h0, num_congr d (u + 1) h1, num_par d j (u + 1) c (by omega) (fun a => rfl), num_par d j (u + 1) (!c) (by omega) (fun a => rfl)]
    obtain ⟨e, rfl⟩ : ∃ e, d = e + 1 := ⟨d - 1, by omega⟩
    simp [Nat.pow_succ]; omega
/-- The number of even variables. -/
def evn : Nat → Nat → Nat
  | 0, _ => 0
  | d + 1, u => (if u % 2 = 0 then 1 else 0) + evn d (u + 1)
theorem evn_le : ∀ (d u : Nat), evn d u ≤ d
  | 0, _ => Nat.le_refl _
  | d + 1, u => by rw [evn]; have := evn_le d (u + 1); split <;> omega
theorem num_evs : ∀ (d u : Nat) {F : (Nat → Bool) → Bool}, (∀ a, F a = true ↔ evs (u + d) u a) → num d u F = 2 ^ (d - evn d u)
  | 0, u, F, hF => by
    have : F (fun _ => false) = true := (hF _).2 (fun i h1 h2 => by omega)
    rw [num, this]; rfl
  | d + 1, u, F, hF => by
    have hle := evn_le d (u + 1)
    have hset : ∀ a x, evs (u + (d + 1)) (u + 1) (upd a u x) ↔ evs (u + 1 + d) (u + 1) a := fun a x => by
      unfold evs
      refine ⟨fun h i h1 h2 h3 => ?_, fun h i h1 h2 h3 => ?_⟩
      · have := h i h1 (by omega) h3
        rwa [upd_ne (by omega)] at this
      · rw [upd_ne (by omega)]; exact h i h1 (by omega) h3
    have hcut : ∀ a, evs (u + (d + 1)) u a ↔ (u % 2 = 0 → a u = true) ∧ evs (u + (d + 1)) (u + 1) a := fun a => by
      refine ⟨fun h => ⟨h u (Nat.le_refl _) (by omega), fun i hi => h i (by omega)⟩, fun ⟨h1, h2⟩ i hi hin hie => ?_⟩
      rcases Nat.lt_or_ge u i with h3 | h3
      · exact h2 i h3 hin hie
      · have : i = u := by omega
        subst this; exact h1 hie
    by_cases hu : u % 2 = 0
    · have h0 : ∀ a, F (upd a u false) = false := fun a => by
        rw [Bool.eq_false_iff]
        intro h
        have := ((hcut _).1 ((hF _).1 h)).1 hu
        rw [upd_same] at this; cases this
      have h1 : ∀ a, F (upd a u true) = true ↔ evs (u + 1 + d) (u + 1) a := fun a => by
        rw [hF, hcut, upd_same, hset]; simp
      rw [num, num_congr d (u + 1) h0, num_const, num_evs d (u + 1) h1, evn, if_pos hu]
      simp only [Bool.false_eq_true, if_false, Nat.zero_add]
      congr 1; omega
    · have h1 : ∀ x, ∀ a, F (upd a u x) = true ↔ evs (u + 1 + d) (u + 1) a := fun x a => by
        rw [hF, hcut, hset]
        exact ⟨fun h => h.2, fun h => ⟨fun h => absurd h hu, h⟩⟩
      rw [num, num_evs d (u + 1) (h1 false), num_evs d (u + 1) (h1 true), evn, if_neg hu, Nat.zero_add]
      have : d + 1 - evn d (u + 1) = (d - evn d (u + 1)) + 1 := by omega
      rw [this, Nat.pow_succ]; omega
theorem asc_len {L : List Int} {k : Nat} (h : L.Pairwise (· < ·)) (hm : ∀ x : Int, x ∈ L ↔ 0 ≤ x ∧ x < k) : L.length = k := by
  have h1 : (L.map Int.toNat).Nodup := by
    rw [List.nodup_iff_pairwise_ne, List.pairwise_map]
    refine h.imp_of_mem ?_
    intro a b ha hb hab
    have := (hm a).1 ha
    have := (hm b).1 hb
    omega
  have h2 := same_len h1 (List.nodup_range (n := k)) (fun x => by
    rw [List.mem_map, List.mem_range]
    constructor
    · rintro ⟨y, hy, rfl⟩
      have := (hm y).1 hy
      omega
    · intro hx
      exact ⟨x, (hm x).2 (by omega), by simp⟩)
  simpa using h2
section
variable {n lim : Nat} {ns ns1 ns2 : Ns}
theorem wide_var (w : Wf n ns) {v : Nat} (hv : v < n) (hl : ns.length < lim) : ∃ x ns1, mkF lim ns v 0 1 = (some x, ns1) ∧ Ext n ns ns1 ∧ Ref ns1 x ∧ at_ n ns1 x = ⟨v, 0, 1⟩ ∧ ns1.length ≤ ns.length + 1 := by
  have hm := mkF_ok (n := n) (lim := lim) w (v := v) (l := 0) (h := 1) hv (Ref.zero _) (Ref.one _) (by rw [tv_lt (by omega)]; exact hv) (by rw [tv_lt (by omega)]; exact hv)
  obtain ⟨r, ns1, he⟩ : ∃ r ns1, mkF lim ns v 0 1 = (r, ns1) := ⟨_, _, rfl⟩
  rw [he] at hm
  cases r with
  | none => have := (hm.full rfl).1; omega
  | some x =>
    obtain ⟨h1, h2, h3⟩ := hm.ok x rfl
    obtain ⟨_, hat⟩ := halves hm.ext.wf h1 hv (Ref.zero _) (Ref.one _) (by rw [tv_lt (by omega)]; exact hv) (by rw [tv_lt (by omega)]; exact hv) h3 (by omega)
    exact ⟨x, ns1, he, hm.ext, h1, hat, hm.len⟩
theorem var_sem (w : Wf n ns) {x v : Nat} (hx : Ref ns x) (hat : at_ n ns x = ⟨v, 0, 1⟩) (h2 : 2 ≤ x) (a : Nat → Bool) : eval ns a x = a v := by
  rw [eval_node w a h2 hx, hat, eval_zero, eval_one]; cases a v <;> rfl
theorem at_two (w : Wf n ns) {x v : Nat} (hat : at_ n ns x = ⟨v, 0, 1⟩) : 2 ≤ x := by
  rcases Nat.lt_or_ge x 2 with h | h
  · rw [at_lt h] at hat
    injection hat with h1 h2 h3
    omega
  · exact h
theorem wide_and {x f v e : Nat} {r : Option Nat} (w : Wf n ns) (hv : v < n) (hx : Ref ns x) (hat : at_ n ns x = ⟨v, 0, 1⟩) (hA : AllI n ns (v + 1) f e) (he : v % 2 = 0) (hl : ns.length < lim) (h : BinOk n lim 0 (andS x f) ns x f r ns1) :
    ∃ y, r = some y ∧ AllI n ns1 v y (e + 1) ∧ ns1.length ≤ ns.length + 1 := by
  obtain ⟨h1, h2⟩ := h.cnt [(min x f, max x f)] (by rintro p q ⟨rfl, rfl⟩; simp)
  simp at h1 h2
  cases r with
  | none => have := h2 rfl; omega
  | some y =>
    obtain ⟨h3, h4⟩ := h.ok y rfl
    have hx2 := at_two w hat
    refine ⟨y, rfl, (hA.ext w h.ext).step h.ext.wf he hv h3 fun a => ?_, h1⟩
    rw [h4, h.ext.eval w a hA.ref, var_sem w hx hat hx2]; rfl
theorem wide_xor {x g v d : Nat} {r : Option Nat} {L : List Nat} (w : Wf n ns) (hd : v + 1 + d ≤ n) (hx : Ref ns x) (hat : at_ n ns x = ⟨v, 0, 1⟩) (hO : OddI n ns (v + 1) d g) (hL : L.length = 2 * d - 1) (hl : ns.length + 2 * d ≤ lim) (h : BinOk n lim 2 (xorS x g L) ns x g r ns1) (h0 : ns.length < lim) :
    ∃ y, r = some y ∧ OddI n ns1 v (d + 1) y ∧ ns1.length ≤ ns.length + (2 * d + 1) := by
  obtain ⟨h1, h2⟩ := h.cnt ((min x g, max x g) :: L.map fun y => (1, y)) (by
    rintro p q (⟨rfl, rfl⟩ | ⟨rfl, hq⟩)
    · simp
    · exact List.mem_cons_of_mem _ (List.mem_map.2 ⟨q, hq, rfl⟩))
  simp [hL] at h1 h2
  cases r with
  | none => have := h2 rfl; omega
  | some y =>
    obtain ⟨h3, h4⟩ := h.ok y rfl
    have hx2 := at_two w hat
    refine ⟨y, rfl, (hO.ext w h.ext).step h.ext.wf hd h3 fun a => ?_, by omega⟩
    rw [h4, h.ext.eval w a hO.ref, var_sem w hx hat hx2]; rfl
end
end Go.Bd
