/-
  Parts of the proofs of this seat's statements (LmPlain, LmCut, LmAw); no conditions beyond those each theorem names.
-/
import Derived.Test.YtcplpogmbacnfaaRxPa
section
set_option linter.unusedVariables false
set_option linter.unusedSimpArgs false
namespace Go.Lm
open Go.Rx
/-! ### The fact with the greatest value, of several ones the least -/
/-- f is better than o. -/
def btr (V : Nat → Nat) (f o : Nat) : Bool := decide (V o < V f) || (decide (V f = V o) && decide (f < o))
def gStep (V : Nat → Nat) : Option Nat → Nat → Option Nat
  | none, f => some f
  | some o, f => if btr V f o = true then some f else some o
def gst (V : Nat → Nat) (l : List Nat) : Option Nat := l.foldl (gStep V) none
/-- It is the best one of a list. -/
def IsG (V : Nat → Nat) (l : List Nat) (g : Nat) : Prop := g ∈ l ∧ ∀ x ∈ l, V x < V g ∨ (V x = V g ∧ g ≤ x)
section
variable {V : Nat → Nat} {l l' : List Nat} {g g' : Nat}
theorem IsG.uniq (h : IsG V l g) (h' : IsG V l g') : g = g' := by
  have h1 := h.2 g' h'.1
  have h2 := h'.2 g h.1
  omega
theorem IsG.set (h : IsG V l g) (hs : ∀ x, x ∈ l ↔ x ∈ l') : IsG V l' g := ⟨(hs g).1 h.1, fun x hx => h.2 x ((hs x).2 hx)⟩
theorem IsG.val (h : IsG V l g) : V g = gr V l := Nat.le_antisymm (gr_mem h.1) (gr_le_iff.2 fun x hx => by have := h.2 x hx; omega)
theorem IsG.snoc (h : IsG V l g) (f : Nat) : IsG V (l ++ [f]) (if btr V f g = true then f else g) := by
  by_cases hb : btr V f g = true
  · rw [if_pos hb]
    unfold btr at hb
    simp only [Bool.or_eq_true, Bool.and_eq_true, decide_eq_true_eq] at hb
    refine ⟨by simp, fun x hx => ?_⟩
    rcases List.mem_append.1 hx with h1 | h1
    · have := h.2 x h1; omega
    · simp at h1; subst h1; omega
  · rw [if_neg hb]
    unfold btr at hb
    simp only [Bool.or_eq_true, Bool.and_eq_true, decide_eq_true_eq, not_or, not_and] at hb
    refine ⟨by simp [h.1], fun x hx => ?_⟩
    rcases List.mem_append.1 hx with h1 | h1
    · exact h.2 x h1
    · simp at h1; subst h1
      have h2 := hb.1
      have h3 := hb.2
      by_cases he : V x = V g
      · have := h3 he; omega
      · omega
theorem gst_snoc (l : List Nat) (f : Nat) : gst V (l ++ [f]) = gStep V (gst V l) f := by unfold gst; rw [List.foldl_append]; rfl
theorem gst_nil : gst V [] = none := rfl
theorem snoc_ind {α : Type} {p : List α → Prop} (h0 : p []) (h : ∀ l x, p l → p (l ++ [x])) (l : List α) : p l := by
  have key : ∀ r : List α, p r.reverse := by
    intro r
    induction r with
    | nil => exact h0
    | cons x r ih => rw [List.reverse_cons]; exact h _ _ ih
  simpa using key l.reverse
theorem gst_spec (l : List Nat) : (l = [] ∧ gst V l = none) ∨ ∃ g, gst V l = some g ∧ IsG V l g := by
  induction l using snoc_ind with
  | h0 => exact .inl ⟨rfl, rfl⟩
  | h l f ih =>
    right
    rw [gst_snoc]
    rcases ih with ⟨rfl, h⟩ | ⟨g, h, hg⟩
    · rw [h]
      exact ⟨f, rfl, by simp, fun x hx => by simp at hx; subst hx; exact .inr ⟨rfl, Nat.le_refl _⟩⟩
    · rw [h]
      have := hg.snoc f
      by_cases hb : btr V f g = true
      · rw [if_pos hb] at this
        exact ⟨f, by simp only [gStep, if_pos hb], this⟩
      · rw [if_neg hb] at this
        exact ⟨g, by simp only [gStep, if_neg hb], this⟩
theorem gst_of (h : IsG V l g) : gst V l = some g := by
  rcases gst_spec (V := V) l with ⟨rfl, _⟩ | ⟨g', e, hg⟩
  · cases h.1
  · rw [e, hg.uniq h]
theorem gst_some (h : gst V l = some g) : IsG V l g := by
  rcases gst_spec (V := V) l with ⟨rfl, e⟩ | ⟨g', e, hg⟩
  · cases h
  · rw [e] at h; cases h; exact hg
theorem gst_none (h : gst V l = none) : l = [] := by
  rcases gst_spec (V := V) l with ⟨e, _⟩ | ⟨g', e, hg⟩
  · exact e
  · rw [e] at h; cases h
theorem gst_set (hs : ∀ x, x ∈ l ↔ x ∈ l') : gst V l = gst V l' := by
  rcases gst_spec (V := V) l with ⟨rfl, e⟩ | ⟨g, e, hg⟩
  · have : l' = [] := List.eq_nil_iff_forall_not_mem.2 fun x hx => by have := (hs x).2 hx; cases this
    subst this; rfl
  · rw [e, gst_of (hg.set hs)]
/-- The greatest value is that of the best fact. -/
theorem gr_gst (l : List Nat) : gr V l = match gst V l with | some g => V g | none => 0 := by
  rcases gst_spec (V := V) l with ⟨rfl, e⟩ | ⟨g, e, hg⟩
  · rfl
  · rw [e]; exact hg.val.symm
end
/-! ### Arcs, zones, cuts -/
structure Ar where
  fr : Option Nat
  to : Nat
  op : Nat
def arU (V : Nat → Nat) (u : Un) : Ar := ⟨gst V u.needs, u.makes, u.op⟩
def arcs (U : List Un) (V : Nat → Nat) : List Ar := (U.filter fun u => decide (gr V u.needs < Inf)).map (arU V)
/-- The goal zone. -/
inductive TZ (A : List Ar) (c : Nat → Nat) (g : Nat) : Nat → Prop
  | base : TZ A c g g
  | step {a : Ar} {f : Nat} (ha : a ∈ A) (hf : a.fr = some f) (hc : c a.op = 0) (ht : TZ A c g a.to) : TZ A c g f
/-- The start zone. -/
inductive SZ (A : List Ar) (S0 : List Nat) (T : Nat → Prop) : Nat → Prop
  | base {f : Nat} (h : f ∈ S0) : SZ A S0 T f
  | start {a : Ar} (ha : a ∈ A) (hf : a.fr = none) (ht : ¬ T a.to) : SZ A S0 T a.to
  | step {a : Ar} {f : Nat} (ha : a ∈ A) (hf : a.fr = some f) (hs : SZ A S0 T f) (ht : ¬ T a.to) : SZ A S0 T a.to
/-- An arc begins in the start zone. -/
def Beg (A : List Ar) (S0 : List Nat) (T : Nat → Prop) (a : Ar) : Prop := a.fr = none ∨ ∃ f, a.fr = some f ∧ SZ A S0 T f
/-- The operators of the cut. -/
def XO (A : List Ar) (c : Nat → Nat) (S0 : List Nat) (g : Nat) (op : Nat) : Prop := ∃ a ∈ A, a.op = op ∧ Beg A S0 (TZ A c g) a ∧ TZ A c g a.to
/-- Operators with other costs. -/
def wc (U : List Un) (c : Nat → Nat) : List Un := U.map fun u => { u with cost := c u.op }
theorem wc_mem {U : List Un} {c : Nat → Nat} {v : Un} (h : v ∈ wc U c) : ∃ u ∈ U, v = { u with cost := c u.op } := by
  obtain ⟨u, hu, rfl⟩ := List.mem_map.1 h
  exact ⟨u, hu, rfl⟩
theorem mem_wc {U : List Un} {c : Nat → Nat} {u : Un} (h : u ∈ U) : ({ u with cost := c u.op } : Un) ∈ wc U c := List.mem_map.2 ⟨u, h, rfl⟩
structure IsCut (U : List Un) (c : Nat → Nat) (S0 G : List Nat) (V : Nat → Nat) (L : List Nat) (m : Nat) : Prop where
  ex : ∃ g, gst V G = some g ∧ ∀ op, op ∈ L ↔ XO (arcs U V) c S0 g op
  asc : L.Pairwise (· < ·)
  le : ∀ op ∈ L, m ≤ c op
  at_ : ∃ op ∈ L, c op = m
def sub (c : Nat → Nat) (L : List Nat) (m : Nat) : Nat → Nat := fun i => if i ∈ L then c i - m else c i
/-- The cuts for a state. -/
inductive LmC (U : List Un) (S0 G : List Nat) : (Nat → Nat) → Option (List (List Nat × Nat)) → Prop
  | inf {c V : Nat → Nat} (hV : IsVal (wc U c) S0 V) (h : Inf ≤ gr V G) : LmC U S0 G c none
  | nil {c V : Nat → Nat} (hV : IsVal (wc U c) S0 V) (h : gr V G = 0) : LmC U S0 G c (some [])
  | cut {c V : Nat → Nat} {L : List Nat} {m : Nat} {r : Option (List (List Nat × Nat))} (hV : IsVal (wc U c) S0 V) (h0 : 0 < gr V G) (hi : gr V G < Inf) (hc : IsCut U c S0 G V L m) (hr : LmC U S0 G (sub c L m) r) : LmC U S0 G c (r.map ((L, m) :: ·))
section
variable {U : List Un} {S0 G : List Nat} {c V : Nat → Nat} {L L' : List Nat} {m m' g : Nat}
theorem asc_ext : ∀ {L L' : List Nat}, L.Pairwise (· < ·) → L'.Pairwise (· < ·) → (∀ x, x ∈ L ↔ x ∈ L') → L = L'
  | [], [], _, _, _ => rfl
  | [], b :: L', _, _, h => by have := (h b).2 (by simp); cases this
  | a :: L, [], _, _, h => by have := (h a).1 (by simp); cases this
  | a :: L, b :: L', h1, h2, h => by
    rw [List.pairwise_cons] at h1 h2
    have hab : a = b := by
      rcases List.mem_cons.1 ((h a).1 (by simp)) with e | e
      · exact e
      · rcases List.mem_cons.1 ((h b).2 (by simp)) with e2 | e2
        · exact e2.symm
        · have := h1.1 b e2; have := h2.1 a e; omega
    subst hab
    congr 1
    refine asc_ext h1.2 h2.2 fun x => ?_
    constructor
    · intro hx
      rcases List.mem_cons.1 ((h x).1 (by simp [hx])) with e | e
      · subst e; have := h1.1 x hx; omega
      · exact e
    · intro hx
      rcases List.mem_cons.1 ((h x).2 (by simp [hx])) with e | e
      · subst e; have := h2.1 x hx; omega
      · exact e
theorem IsCut.uniq (h : IsCut U c S0 G V L m) (h' : IsCut U c S0 G V L' m') : L = L' ∧ m = m' := by
  obtain ⟨g, e, hx⟩ := h.ex
  obtain ⟨g', e', hx'⟩ := h'.ex
  rw [e] at e'
  cases e'
  have hL := asc_ext h.asc h'.asc fun x => (hx x).trans (hx' x).symm
  subst hL
  obtain ⟨o, ho, e1⟩ := h.at_
  obtain ⟨o', ho', e2⟩ := h'.at_
  have := h.le o' ho'
  have := h'.le o ho
  exact ⟨rfl, by omega⟩
theorem LmC.uniq {r r' : Option (List (List Nat × Nat))} (h : LmC U S0 G c r) (h' : LmC U S0 G c r') : r = r' := by
  induction h generalizing r' with
  | inf hV hh =>
    cases h' with
    | inf _ _ => rfl
    | nil hV' h2 => rw [hV.uniq hV'] at hh; rw [h2] at hh; unfold Inf at hh; omega
    | cut hV' _ h2 _ _ => rw [hV.uniq hV'] at hh; omega
  | nil hV hh =>
    cases h' with
    | inf hV' h2 => rw [← hV.uniq hV', hh] at h2; unfold Inf at h2; omega
    | nil _ _ => rfl
    | cut hV' h2 _ _ _ => rw [← hV.uniq hV', hh] at h2; omega
  | cut hV h0 hi hc hr ih =>
    cases h' with
    | inf hV' h2 => rw [← hV.uniq hV'] at h2; omega
    | nil hV' h2 => rw [← hV.uniq hV'] at h2; omega
    | cut hV' _ _ hc' hr' =>
      have e := hV.uniq hV'
      subst e
      obtain ⟨rfl, rfl⟩ := hc.uniq hc'
      rw [ih hr']
end
end Go.Lm
end
section
set_option linter.unusedVariables false
set_option linter.unusedSimpArgs false
namespace Go.Lm
open Go.Rx
/-- Sizes. -/
structure Szs (U : List Un) (S0 : List Nat) (N C : Nat) (c : Nat → Nat) : Prop where
  made : ∀ u ∈ U, u.makes < N
  s0 : ∀ x ∈ S0, x < N
  cost : ∀ u ∈ U, c u.op ≤ C
  sm : N * C < Inf
section
variable {U : List Un} {S0 G : List Nat} {c V : Nat → Nat} {L : List Nat} {m g N C f k op : Nat}
theorem Szs.der (h : Szs U S0 N C c) (d : Der (wc U c) S0 f k) : f < N := by
  cases d with
  | base hf => exact h.s0 _ hf
  | step hu kk hk =>
    obtain ⟨u, hu2, rfl⟩ := wc_mem hu
    exact h.made u hu2
theorem Szs.fin (h : Szs U S0 N C c) (hV : IsVal (wc U c) S0 V) : V f < Inf ↔ ∃ k, Der (wc U c) S0 f k :=
  hV.fin (C := C) (N := N) (fun u hu => by
    obtain ⟨v, hv, rfl⟩ := wc_mem hu
    exact h.cost v hv) (fun f k d => h.der d) h.sm
theorem Szs.sub (h : Szs U S0 N C c) (L : List Nat) (m : Nat) : Szs U S0 N C (sub c L m) :=
  ⟨h.made, h.s0, fun u hu => by
    have := h.cost u hu
    unfold Go.Lm.sub
    split <;> omega, h.sm⟩
theorem arcs_mem {a : Ar} (h : a ∈ arcs U V) : ∃ u ∈ U, gr V u.needs < Inf ∧ a = arU V u := by
  unfold arcs at h
  obtain ⟨u, hu, rfl⟩ := List.mem_map.1 h
  rw [List.mem_filter] at hu
  exact ⟨u, hu.1, by simpa using hu.2, rfl⟩
theorem mem_arcs {u : Un} (hu : u ∈ U) (h : gr V u.needs < Inf) : arU V u ∈ arcs U V := List.mem_map.2 ⟨u, List.mem_filter.2 ⟨hu, by simpa using h⟩, rfl⟩
theorem val_cl (hV : IsVal (wc U c) S0 V) {u : Un} (hu : u ∈ U) (h : gr V u.needs < Inf) : V u.makes ≤ gr V u.needs + c u.op := hV.cl _ (mem_wc (c := c) hu) h
theorem tz_val (hV : IsVal (wc U c) S0 V) (h : TZ (arcs U V) c g f) : V g ≤ V f := by
  induction h with
  | base => exact Nat.le_refl _
  | step ha hf hc ht ih =>
    obtain ⟨u, hu, h1, rfl⟩ := arcs_mem ha
    have h2 := val_cl hV hu h1
    have h3 := gr_gst (V := V) u.needs
    have hf : gst V u.needs = some _ := hf
    rw [hf] at h3
    have hc : c u.op = 0 := hc
    have ih : V g ≤ V u.makes := ih
    simp only at h3
    omega
theorem sz_tz (hV : IsVal (wc U c) S0 V) (h0 : 0 < V g) (h : SZ (arcs U V) S0 (TZ (arcs U V) c g) f) : ¬ TZ (arcs U V) c g f := by
  cases h with
  | base hf =>
    intro ht
    have := tz_val hV ht
    rw [hV.s0 f hf] at this
    omega
  | start ha hf ht => exact ht
  | step ha hf hs ht => exact ht
theorem xo_pos (hV : IsVal (wc U c) S0 V) (h0 : 0 < V g) (h : XO (arcs U V) c S0 g op) : 0 < c op := by
  obtain ⟨a, ha, rfl, hb, ht⟩ := h
  rcases Nat.eq_zero_or_pos (c a.op) with hz | hp
  · exfalso
    rcases hb with hf | ⟨f, hf, hs⟩
    · obtain ⟨u, hu, h1, rfl⟩ := arcs_mem ha
      have h2 := val_cl hV hu h1
      have h3 := tz_val hV ht
      have hn : u.needs = [] := gst_none hf
      rw [hn] at h2
      have hz : c u.op = 0 := hz
      have h3 : V g ≤ V u.makes := h3
      simp only [gr] at h2
      omega
    · exact sz_tz hV h0 hs (.step ha hf hz ht)
  · exact hp
theorem sz_der (hV : IsVal (wc U c) S0 V) {T : Nat → Prop} (h : SZ (arcs U V) S0 T f) : ∃ k, Der (wc U c) S0 f k := by
  have key : ∀ a ∈ arcs U V, ∃ k, Der (wc U c) S0 a.to k := fun a ha => by
    obtain ⟨u, hu, h1, rfl⟩ := arcs_mem ha
    have h2 := (gr_lt_iff (by unfold Inf; omega)).1 h1
    exact ⟨_, .step (mem_wc (c := c) hu) V fun n hn => hV.der n (h2 n hn)⟩
  cases h with
  | base hf => exact ⟨0, .base hf⟩
  | start ha hf ht => exact key _ ha
  | step ha hf hs ht => exact key _ ha
/-- The operators that do not cross stay in the start zone. -/
theorem sz_step (hz : Szs U S0 N C c) (hV : IsVal (wc U c) S0 V) {u : Un} (hu : u ∈ U) (hn : ∀ n ∈ u.needs, SZ (arcs U V) S0 (TZ (arcs U V) c g) n) (hx : ¬ XO (arcs U V) c S0 g u.op) : SZ (arcs U V) S0 (TZ (arcs U V) c g) u.makes := by
  have h1 : gr V u.needs < Inf := (gr_lt_iff (by unfold Inf; omega)).2 fun n h => (hz.fin hV).2 (sz_der hV (hn n h))
  have ha := mem_arcs hu h1
  by_cases ht : TZ (arcs U V) c g u.makes
  · refine absurd ⟨arU V u, ha, rfl, ?_, ht⟩ hx
    rcases gst_spec (V := V) u.needs with ⟨_, e⟩ | ⟨f, e, hf⟩
    · exact .inl e
    · exact .inr ⟨f, e, hn f hf.1⟩
  · rcases gst_spec (V := V) u.needs with ⟨_, e⟩ | ⟨f, e, hf⟩
    · exact SZ.start (a := arU V u) ha e ht
    · exact SZ.step (a := arU V u) ha e (hn f hf.1) ht
theorem xo_ex (hz : Szs U S0 N C c) (hV : IsVal (wc U c) S0 V) (h0 : 0 < V g) (hi : V g < Inf) : ∃ op, XO (arcs U V) c S0 g op := by
  apply Classical.byContradiction
  intro hno
  have key : ∀ f k, Der (wc U c) S0 f k → SZ (arcs U V) S0 (TZ (arcs U V) c g) f := by
    intro f k d
    induction d with
    | base hf => exact .base hf
    | step hu kk hk ih =>
      obtain ⟨u, hu2, rfl⟩ := wc_mem hu
      have := sz_step hz hV hu2 (g := g) ih fun hx => hno ⟨_, hx⟩
      exact this
  exact sz_tz hV h0 (key g _ (hV.der g hi)) .base
/-- A step of the relaxed task: every fact behind it was there, or is made by the operator. -/
def Stp (U : List Un) (x : List Nat) (q : Nat) (x' : List Nat) : Prop := ∀ f ∈ x', f ∈ x ∨ ∃ u ∈ U, u.op = q ∧ u.makes = f ∧ ∀ n ∈ u.needs, n ∈ x
theorem IsCut.gst0 (h : IsCut U c S0 G V L m) (h0 : 0 < gr V G) (hi : gr V G < Inf) : ∃ g, gst V G = some g ∧ 0 < V g ∧ V g < Inf ∧ g ∈ G ∧ ∀ op, op ∈ L ↔ XO (arcs U V) c S0 g op := by
  obtain ⟨g, e, hx⟩ := h.ex
  have hg := gst_some e
  rw [← hg.val] at h0 hi
  exact ⟨g, e, h0, hi, hg.1, hx⟩
/-- A cut is a landmark. -/
theorem IsCut.landmark (hz : Szs U S0 N C c) (hV : IsVal (wc U c) S0 V) (h : IsCut U c S0 G V L m) (h0 : 0 < gr V G) (hi : gr V G < Inf) :
    ∃ P : List Nat → Prop, P S0 ∧ (∀ x, P x → ¬ ∀ f ∈ G, f ∈ x) ∧ ∀ x q x', q ∉ L → Stp U x q x' → P x → P x' := by
  obtain ⟨g, e, hg0, hgi, hgm, hx⟩ := h.gst0 h0 hi
  refine ⟨fun x => ∀ f ∈ x, SZ (arcs U V) S0 (TZ (arcs U V) c g) f, fun f hf => .base hf, fun x hp hG => ?_, fun x q x' hq hs hp f hf => ?_⟩
  · exact sz_tz hV hg0 (hp g (hG g hgm)) .base
  · rcases hs f hf with h1 | ⟨u, hu, rfl, rfl, hn⟩
    · exact hp f h1
    · exact sz_step hz hV hu (fun n hn2 => hp n (hn n hn2)) fun hxx => hq ((hx _).2 hxx)
theorem IsCut.pos (hV : IsVal (wc U c) S0 V) (h : IsCut U c S0 G V L m) (h0 : 0 < gr V G) (hi : gr V G < Inf) : 1 ≤ m ∧ L ≠ [] ∧ ∀ op ∈ L, ∃ u ∈ U, u.op = op := by
  obtain ⟨g, e, hg0, hgi, hgm, hx⟩ := h.gst0 h0 hi
  obtain ⟨op, ho, e1⟩ := h.at_
  refine ⟨?_, (fun e2 => by rw [e2] at ho; cases ho), fun op ho => ?_⟩
  · have := xo_pos hV hg0 ((hx op).1 ho); omega
  · obtain ⟨a, ha, rfl, _⟩ := (hx op).1 ho
    obtain ⟨u, hu, _, rfl⟩ := arcs_mem ha
    exact ⟨u, hu, rfl⟩
def sumM (out : List (List Nat × Nat)) : Nat := (out.map (·.2)).sum
/-- The sum of the cuts is a lower bound. -/
theorem LmC.pot {r : Option (List (List Nat × Nat))} (h : LmC U S0 G c r) (hz : Szs U S0 N C c) : ∀ out, r = some out →
    ∃ H : List Nat → Nat, H S0 = sumM out ∧ (∀ x, (∀ f ∈ G, f ∈ x) → H x = 0) ∧ (∀ x q x', Stp U x q x' → H x ≤ H x' + c q) ∧ ∀ x, H x ≤ sumM out := by
  induction h with
  | inf hV h => intro out e; cases e
  | nil hV h =>
    intro out e
    cases e
    exact ⟨fun _ => 0, rfl, fun _ _ => rfl, fun _ _ _ _ => Nat.zero_le _, fun _ => Nat.zero_le _⟩
  | @cut c V L m r hV h0 hi hc hr ih =>
    intro out e
    cases r with
    | none => cases e
    | some o =>
      cases e
      obtain ⟨H, h1, h2, h3, h4⟩ := ih (hz.sub L m) o rfl
      obtain ⟨P, p1, p2, p3⟩ := hc.landmark hz hV h0 hi
      classical
      have es : sumM ((L, m) :: o) = m + sumM o := by simp [sumM]
      obtain ⟨K, hK⟩ : ∃ K : List Nat → Nat, ∀ x, K x = (if P x then m else 0) + H x := ⟨_, fun _ => rfl⟩
      have eo : sumM ((fun x => (L, m) :: x) o) = m + sumM o := es
      rw [eo]
      refine ⟨K, by rw [hK, if_pos p1, h1], fun x hx => ?_, fun x q x' hs => ?_, fun x => ?_⟩
      · rw [hK, if_neg fun hp => p2 x hp hx, h2 x hx]
      · rw [hK, hK]
        have h5 := h3 x q x' hs
        by_cases hq : q ∈ L
        · have hm := hc.le q hq
          have e2 : sub c L m q = c q - m := by unfold sub; rw [if_pos hq]
          rw [e2] at h5
          have : (if P x then m else 0) ≤ m := by split <;> omega
          have h6 : 0 ≤ (if P x' then m else 0) := Nat.zero_le _
          omega
        · have e2 : sub c L m q = c q := by unfold sub; rw [if_neg hq]
          rw [e2] at h5
          by_cases hp : P x
          · rw [if_pos hp, if_pos (p3 x q x' hq hs hp)]; omega
          · rw [if_neg hp]; omega
      · rw [hK]
        have := h4 x
        have : (if P x then m else 0) ≤ m := by split <;> omega
        omega
/-- What every cut gives. -/
theorem LmC.each {r : Option (List (List Nat × Nat))} (h : LmC U S0 G c r) (hz : Szs U S0 N C c) : ∀ out, r = some out → ∀ p ∈ out, 1 ≤ p.2 ∧ p.1 ≠ [] ∧ p.1.Pairwise (· < ·) ∧ (∀ op ∈ p.1, ∃ u ∈ U, u.op = op) ∧
    ∃ P : List Nat → Prop, P S0 ∧ (∀ x, P x → ¬ ∀ f ∈ G, f ∈ x) ∧ ∀ x q x', q ∉ p.1 → Stp U x q x' → P x → P x' := by
  induction h with
  | inf hV h => intro out e; cases e
  | nil hV h => intro out e; cases e; simp
  | @cut c V L m r hV h0 hi hc hr ih =>
    intro out e
    cases r with
    | none => cases e
    | some o =>
      cases e
      intro p hp
      rcases List.mem_cons.1 hp with rfl | hp
      · obtain ⟨a, b, d⟩ := hc.pos hV h0 hi
        exact ⟨a, b, hc.asc, d, hc.landmark hz hV h0 hi⟩
      · exact ih (hz.sub L m) o rfl p hp
/-- The costs that are left. -/
def leftO (c : Nat → Nat) : List (List Nat × Nat) → Nat → Nat
  | [] => c
  | p :: o => leftO (sub c p.1 p.2) o
/-- No operator pays more than it has. -/
def Pays (c : Nat → Nat) : List (List Nat × Nat) → Prop
  | [] => True
  | p :: o => (∀ op ∈ p.1, p.2 ≤ c op) ∧ Pays (sub c p.1 p.2) o
theorem LmC.budget {r : Option (List (List Nat × Nat))} (h : LmC U S0 G c r) : ∀ out, r = some out → Pays c out ∧ ∃ V, IsVal (wc U (leftO c out)) S0 V ∧ gr V G = 0 := by
  induction h with
  | inf hV h => intro out e; cases e
  | nil hV h => intro out e; cases e; exact ⟨trivial, _, hV, h⟩
  | @cut c V L m r hV h0 hi hc hr ih =>
    intro out e
    cases r with
    | none => cases e
    | some o =>
      cases e
      obtain ⟨h1, h2⟩ := ih o rfl
      exact ⟨⟨hc.le, h1⟩, h2⟩
/-- The operators that still cost something. -/
def posN (c : Nat → Nat) (n : Nat) : Nat := ((List.range n).filter fun i => decide (0 < c i)).length
theorem posN_lt (hle : ∀ i, c i ≤ V i) (ho : op < k) (h1 : c op = 0) (h2 : 0 < V op) : posN c k < posN V k := by
  induction k with
  | zero => omega
  | succ n ih =>
    have hmono : ∀ n, posN c n ≤ posN V n := by
      intro n
      induction n with
      | zero => exact Nat.le_refl _
      | succ n ih =>
        unfold posN at ih ⊢
        rw [List.range_succ, List.filter_append, List.filter_append, List.length_append, List.length_append]
        have := hle n
        by_cases h : 0 < c n
        · have h' : 0 < V n := by omega
          simp [h, h']; exact ih
        · simp [h]; omega
    have hm := hmono n
    unfold posN at ih hm ⊢
    rw [List.range_succ, List.filter_append, List.filter_append, List.length_append, List.length_append]
    by_cases e : op = n
    · subst e
      simp [h1, h2]; omega
    · have := ih (by omega)
      have := hle n
      by_cases h : 0 < c n
      · have h' : 0 < V n := by omega
        simp [h, h']; omega
      · simp [h]; omega
theorem posN_le (n : Nat) : posN c n ≤ n := by
  have := List.length_filter_le (fun i => decide (0 < c i)) (List.range n)
  simpa [posN] using this
theorem IsCut.less (hV : IsVal (wc U c) S0 V) (h : IsCut U c S0 G V L m) (h0 : 0 < gr V G) (hi : gr V G < Inf) {n : Nat} (hn : ∀ u ∈ U, u.op < n) : posN (sub c L m) n < posN c n := by
  obtain ⟨h1, h2, h3⟩ := h.pos hV h0 hi
  obtain ⟨op, ho, e⟩ := h.at_
  obtain ⟨u, hu, rfl⟩ := h3 op ho
  refine posN_lt (op := u.op) (fun i => ?_) (hn u hu) ?_ (by omega)
  · unfold sub; split <;> omega
  · unfold sub; rw [if_pos ho]; omega
theorem LmC.len {r : Option (List (List Nat × Nat))} (h : LmC U S0 G c r) {n : Nat} (hn : ∀ u ∈ U, u.op < n) : ∀ out, r = some out → out.length ≤ posN c n := by
  induction h with
  | inf hV h => intro out e; cases e
  | nil hV h => intro out e; cases e; simp
  | @cut c V L m r hV h0 hi hc hr ih =>
    intro out e
    cases r with
    | none => cases e
    | some o =>
      cases e
      have := ih o rfl
      have := hc.less hV h0 hi hn
      simp; omega
/-- Without the goal there is no state with a plan. -/
theorem LmC.none_inf {r : Option (List (List Nat × Nat))} (h : LmC U S0 G c r) (hz : Szs U S0 N C c) : r = none → ∃ f ∈ G, ∀ c' k, ¬ Der (wc U c') S0 f k := by
  have mono : ∀ {c c' : Nat → Nat} {f k : Nat}, Der (wc U c') S0 f k → ∃ j, Der (wc U c) S0 f j := by
    intro c c' f k d
    induction d with
    | base h => exact ⟨0, .base h⟩
    | step hu kk hk ih =>
      obtain ⟨u, hu2, rfl⟩ := wc_mem hu
      have hex : ∀ n, ∃ j, n ∈ u.needs → Der (wc U c) S0 n j := fun n => by
        by_cases hn : n ∈ u.needs
        · obtain ⟨j, hj⟩ := ih n hn
          exact ⟨j, fun _ => hj⟩
        · exact ⟨0, fun h => absurd h hn⟩
      exact ⟨_, .step (mem_wc (c := c) hu2) (fun n => Classical.choose (hex n)) fun n hn => Classical.choose_spec (hex n) hn⟩
  induction h with
  | @inf c V hV h =>
    intro _
    apply Classical.byContradiction
    intro hno
    have : gr V G < Inf := (gr_lt_iff (by unfold Inf; omega)).2 fun f hf => (hz.fin hV).2 (by
      apply Classical.byContradiction
      intro hn
      refine hno ⟨f, hf, fun c' k d => hn ?_⟩
      exact mono d)
    omega
  | nil hV h => intro e; cases e
  | @cut c V L m r hV h0 hi hc hr ih =>
    intro e
    cases r with
    | none => exact ih (hz.sub L m) rfl
    | some o => cases e
theorem LmC.some_fin {r : Option (List (List Nat × Nat))} (h : LmC U S0 G c r) (out : List (List Nat × Nat)) (e : r = some out) : ∃ V, IsVal (wc U c) S0 V ∧ gr V G < Inf := by
  cases h with
  | inf hV h => cases e
  | nil hV h => exact ⟨_, hV, by rw [h]; unfold Inf; omega⟩
  | cut hV h0 hi hc hr => exact ⟨_, hV, hi⟩
end
end Go.Lm
end
section
set_option linter.unusedVariables false
set_option linter.unusedSimpArgs false
namespace Go.Lm
open Go.Rx
def E2 : List Un := [⟨0, 0, 2, 1, []⟩, ⟨1, 0, 3, 3, []⟩]
def cE (a b : Nat) : Nat → Nat := fun i => if i = 0 then a else if i = 1 then b else 0
def vE (a b : Nat) : Nat → Nat := fun f => if f = 0 then 0 else if f = 1 then a else if f = 2 then 0 else if f = 3 then b else Inf
def vF : Nat → Nat := fun f => if f = 1 then 0 else if f = 3 then 0 else Inf
theorem mem_E2 {u : Un} {c : Nat → Nat} (h : u ∈ wc E2 c) : u = ⟨0, 0, c 0, 1, []⟩ ∨ u = ⟨1, 0, c 1, 3, []⟩ := by
  simpa [wc, E2] using h
theorem vE_val {a b : Nat} (ha : a ≤ 9) (hb : b ≤ 9) : IsVal (wc E2 (cE a b)) [0, 2] (vE a b) := {
  s0 := by simp [vE]
  cl := fun u hu _ => by
    rcases mem_E2 hu with rfl | rfl <;> simp [vE, cE, gr]
  der := fun f hf => by
    have h1 : Der (wc E2 (cE a b)) [0, 2] 1 a := by
      have := Der.step (U := wc E2 (cE a b)) (S := [0, 2]) (u := ⟨0, 0, a, 1, []⟩) (by simp [wc, E2, cE]) (fun _ => 0) (fun n hn => by cases hn)
      simpa [gr] using this
    have h3 : Der (wc E2 (cE a b)) [0, 2] 3 b := by
      have := Der.step (U := wc E2 (cE a b)) (S := [0, 2]) (u := ⟨1, 0, b, 3, []⟩) (by simp [wc, E2, cE]) (fun _ => 0) (fun n hn => by cases hn)
      simpa [gr] using this
    unfold vE at hf ⊢
    by_cases e0 : f = 0
    · subst e0; exact .base (by simp)
    by_cases e1 : f = 1
    · subst e1; simpa using h1
    by_cases e2 : f = 2
    · subst e2; exact .base (by simp)
    by_cases e3 : f = 3
    · subst e3; simpa using h3
    simp [e0, e1, e2, e3] at hf
  le := fun f => by
    unfold vE Inf
    repeat' split
    all_goals omega }
theorem vF_val {c : Nat → Nat} : IsVal (wc E2 c) [1, 3] vF := {
  s0 := by simp [vF]
  cl := fun u hu _ => by
    rcases mem_E2 hu with rfl | rfl <;> simp [vF]
  der := fun f hf => by
    unfold vF at hf ⊢
    by_cases e1 : f = 1
    · subst e1; exact .base (by simp)
    by_cases e3 : f = 3
    · subst e3; exact .base (by simp)
    simp [e1, e3] at hf
  le := fun f => by
    unfold vF Inf
    repeat' split
    all_goals omega }
theorem arcs_E2 {V : Nat → Nat} : arcs E2 V = [⟨none, 1, 0⟩, ⟨none, 3, 1⟩] := by
  simp [arcs, E2, arU, gst, gr, Inf]
theorem tz_E2 {c : Nat → Nat} {g f : Nat} (h : TZ [⟨none, 1, 0⟩, ⟨none, 3, 1⟩] c g f) : f = g := by
  cases h with
  | base => rfl
  | step ha hf _ _ =>
    simp at ha
    rcases ha with rfl | rfl <;> cases hf
theorem xo_E2 {V c : Nat → Nat} {S0 : List Nat} {i g op : Nat} (h : (i = 0 ∧ g = 1) ∨ (i = 1 ∧ g = 3)) : op ∈ [i] ↔ XO (arcs E2 V) c S0 g op := by
  rw [arcs_E2, List.mem_singleton]
  constructor
  · rintro rfl
    rcases h with ⟨rfl, rfl⟩ | ⟨rfl, rfl⟩
    · exact ⟨⟨none, 1, 0⟩, by simp, rfl, .inl rfl, .base⟩
    · exact ⟨⟨none, 3, 1⟩, by simp, rfl, .inl rfl, .base⟩
  · rintro ⟨a, ha, e, _, ht⟩
    have ht := tz_E2 ht
    simp at ha
    rcases ha with rfl | rfl <;> simp at ht e <;> omega
theorem ex_cuts : LmC E2 [0, 2] [1, 3] (cE 2 3) (some [([1], 3), ([0], 2)]) := by
  have h0 : LmC E2 [0, 2] [1, 3] (cE 0 0) (some []) := .nil (vE_val (by omega) (by omega)) (by decide)
  have e1 : sub (cE 2 0) [0] 2 = cE 0 0 := by
    funext i; unfold sub cE
    by_cases h : i = 0 <;> simp [h]
  have h1 : LmC E2 [0, 2] [1, 3] (cE 2 0) (some [([0], 2)]) := by
    refine LmC.cut (r := some []) (V := vE 2 0) (L := [0]) (m := 2) (vE_val (by omega) (by omega)) (by decide) (by decide) ⟨⟨1, by decide, fun op => xo_E2 (.inl ⟨rfl, rfl⟩)⟩, by simp, by simp [cE], by simp [cE]⟩ ?_
    rw [e1]; exact h0
  have e2 : sub (cE 2 3) [1] 3 = cE 2 0 := by
    funext i; unfold sub cE
    by_cases h : i = 1
    · subst h; simp
    · simp [h]
  refine LmC.cut (r := some [([0], 2)]) (V := vE 2 3) (L := [1]) (m := 3) (vE_val (by omega) (by omega)) (by decide) (by decide) ⟨⟨3, by decide, fun op => xo_E2 (.inr ⟨rfl, rfl⟩)⟩, by simp, by simp [cE], by simp [cE]⟩ ?_
  rw [e2]; exact h1
theorem ex_done {c : Nat → Nat} : LmC E2 [1, 3] [1, 3] c (some []) := .nil vF_val (by decide)
end Go.Lm
end
