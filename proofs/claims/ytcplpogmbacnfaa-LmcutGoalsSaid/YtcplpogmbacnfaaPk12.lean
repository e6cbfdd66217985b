/-
  A part of the proof of this claim's statement (RxYG, RxYL, RxYM, LmPlain, LmCut, LmW1, LmW2): plain theorems; no conditions beyond those each names.
-/
import Derived.Test.YtcplpogmbacnfaaPk11
section
set_option maxRecDepth 100000
set_option linter.unusedSimpArgs false
set_option linter.unusedVariables false
namespace Go.Proofs.Ytcplpogmbacnfaa
open Go Go.W Go.Tk Go.Rx Go.Maps
theorem mem_getD {l : List Nat} {i : Nat} (hi : i < l.length) : l.getD i 0 ∈ l := by simp [List.getD, List.getElem?_eq_getElem hi]
/-- The task without an operator. -/
def lessT (T : Nt) (ov : Cell1) (k : Nat) : Nt := { T with ov := ov, ops := T.ops.take k ++ T.ops.drop (k + 1) }
theorem lessT_mem {T : Nt} {ov : Cell1} {k : Nat} {o : No} (h : o ∈ (lessT T ov k).ops) : o ∈ T.ops := by
  rcases List.mem_append.1 h with h | h
  · exact List.mem_of_mem_take h
  · exact List.mem_of_mem_drop h
theorem NtR.less {T : Nt} {ov : Value} {o1 : oneC ov = true} {k : Nat} {w : World} (h : NtR w T) (hv : Vw w ov noE (T.ops.take k ++ T.ops.drop (k + 1))) : NtR w (lessT T ⟨ov, o1⟩ k) :=
  ⟨h.vars, h.init, h.goal, hv, fun o ho => h.op o (lessT_mem ho)⟩
end Go.Proofs.Ytcplpogmbacnfaa
end
section
set_option maxRecDepth 100000
set_option linter.unusedSimpArgs false
set_option linter.unusedVariables false
namespace Go.Rx
open Go Go.W Go.Tk
structure Low (es : List (Nat × Nat × Nat)) (c : Nat → Nat) (G : Nat → Bool) (H : Nat → Nat) : Prop where
  le : ∀ i, H i ≤ Inf
  z : ∀ i, G i = true → H i = 0
  st : ∀ e ∈ es, H e.1 ≤ H e.2.2 + c e.2.1
structure Dok (es : List (Nat × Nat × Nat)) (c : Nat → Nat) (G : Nat → Bool) (d : List Nat) : Prop where
  z0 : ∀ i, i < d.length → G i = true → d.getD i 0 = 0
  le : ∀ i, i < d.length → d.getD i 0 ≤ Inf
  low : ∀ H, Low es c G H → ∀ i, i < d.length → H i ≤ d.getD i 0
theorem getD_set_same {d : List Nat} {i x : Nat} (h : i < d.length) : (d.set i x).getD i 0 = x := by simp [List.getD, List.getElem?_set_self h]
theorem getD_set_ne {d : List Nat} {i j x : Nat} (h : i ≠ j) : (d.set i x).getD j 0 = d.getD j 0 := by simp only [List.getD, List.getElem?_set_ne h]
theorem Dok.step {es : List (Nat × Nat × Nat)} {c : Nat → Nat} {G : Nat → Bool} {d : List Nat} {e : Nat × Nat × Nat} (h : Dok es c G d) (he : e ∈ es) (hf : e.1 < d.length) (ht : e.2.2 < d.length) (hlt : d.getD e.2.2 0 + c e.2.1 < d.getD e.1 0) : Dok es c G (d.set e.1 (d.getD e.2.2 0 + c e.2.1)) := {
  z0 := fun i hi hG => by
    rw [List.length_set] at hi
    by_cases hie : e.1 = i
    · subst hie
      have := h.z0 _ hf hG
      omega
    · rw [getD_set_ne hie]; exact h.z0 i hi hG
  le := fun i hi => by
    rw [List.length_set] at hi
    by_cases hie : e.1 = i
    · subst hie
      rw [getD_set_same hf]
      have := h.le _ hf
      omega
    · rw [getD_set_ne hie]; exact h.le i hi
  low := fun H hH i hi => by
    rw [List.length_set] at hi
    by_cases hie : e.1 = i
    · subst hie
      rw [getD_set_same hf]
      have h1 := hH.st e he
      have h2 := h.low H hH e.2.2 ht
      omega
    · rw [getD_set_ne hie]; exact h.low H hH i hi }
end Go.Rx
namespace Go.Proofs.Ytcplpogmbacnfaa
open Go Go.W Go.Tk Go.Rx Go.Maps
def goalB (T : Nt) (i : Nat) : Bool := match (stsK T.vars T.vars.length)[i]? with | some s => hdB s T.goal | none => false
def d0 (T : Nt) (i : Nat) : Nat := if goalB T i = true then 0 else Inf
/-- The costs that a search for distances has. -/
def CvOk (T : Nt) (cv : Value) (c : Nat → Nat) (w : World) : Prop := (cv = .slice none 0 0 ∧ ∀ i o, T.ops[i]? = some o → c i = o.cost) ∨ ∃ cl a cap, cv = .slice (some a) cl.length cap ∧ Vw w cv nE cl ∧ cl.length = T.ops.length ∧ ∀ i, c i = cl.getD i 0
theorem CvOk.kp {T : Nt} {cv : Value} {c : Nat → Nat} {w w' : World} (h : CvOk T cv c w) (k : Kp [] w w') : CvOk T cv c w' := by
  rcases h with h | ⟨cl, a, cap, h1, h2, h3⟩
  · exact .inl h
  · exact .inr ⟨cl, a, cap, h1, h2.kp0 k, h3⟩
theorem CvOk.of {T : Nt} {cv : Value} {cl : List Nat} {w : World} (h : Vw w cv nE cl) (hl : cl.length = T.ops.length) : CvOk T cv (fun i => cl.getD i 0) w := by
  rcases sl_nil h with ⟨rfl, rfl⟩ | ⟨a, cap, e⟩
  · refine .inl ⟨rfl, fun i o ho => ?_⟩
    have := (List.getElem?_eq_some_iff.1 ho).1
    simp at hl; omega
  · exact .inr ⟨cl, a, cap, e, h, hl, fun _ => rfl⟩
end Go.Proofs.Ytcplpogmbacnfaa
end
section
set_option maxRecDepth 100000
set_option linter.unusedSimpArgs false
set_option linter.unusedVariables false
namespace Go.Rx
open Go Go.W Go.Tk
/-- There are values. -/
theorem IsVal.ex (U : List Un) (S : List Nat) : ∃ V, IsVal U S V := by
  have hex : ∀ f, ∃ x, (∀ k, Der U S f k → x ≤ k) ∧ x ≤ Inf ∧ (x < Inf → Der U S f x) := fun f => by
    rcases Classical.em (∃ k, Der U S f k) with ⟨k, hk⟩ | hn
    · obtain ⟨w, hw, hm⟩ := Lst.ex hk
      rcases Nat.lt_or_ge w Inf with h | h
      · exact ⟨w, hm, by omega, fun _ => hw⟩
      · exact ⟨Inf, fun j hj => by have := hm j hj; omega, Nat.le_refl _, fun h => by omega⟩
    · exact ⟨Inf, fun k hk => absurd ⟨k, hk⟩ hn, Nat.le_refl _, fun h => by omega⟩
  refine ⟨fun f => Classical.choose (hex f), fun f hf => ?_, fun u hu hlt => ?_, fun f hf => (Classical.choose_spec (hex f)).2.2 hf, fun f => (Classical.choose_spec (hex f)).2.1⟩
  · have := (Classical.choose_spec (hex f)).1 0 (.base hf)
    omega
  · refine (Classical.choose_spec (hex u.makes)).1 _ (.step hu _ fun n hn => (Classical.choose_spec (hex n)).2.2 ?_)
    have := gr_mem (V := fun f => Classical.choose (hex f)) hn
    omega
end Go.Rx
namespace Go.Proofs.Ytcplpogmbacnfaa
open Go Go.W Go.Tk Go.Rx Go.Maps
/-- Values in all states. -/
def VsOk (T : Nt) (U : List Un) (vS : List Nat → Nat → Nat) : Prop := ∀ s, IsVal U (stN T.vars s T.vars.length) (vS s)
theorem VsOk.ex (T : Nt) (U : List Un) : ∃ vS, VsOk T U vS := ⟨fun s => Classical.choose (IsVal.ex U (stN T.vars s T.vars.length)), fun s => Classical.choose_spec (IsVal.ex U (stN T.vars s T.vars.length))⟩
/-- The greatest value of a goal fact, in a state. -/
def hM (T : Nt) (vS : List Nat → Nat → Nat) (s : List Nat) : Nat := grF T.vars (vS s) T.goal
def hI (T : Nt) (vS : List Nat → Nat → Nat) (i : Nat) : Nat := match (stsK T.vars T.vars.length)[i]? with | some s => hM T vS s | none => 0
end Go.Proofs.Ytcplpogmbacnfaa
end
section
set_option linter.unusedVariables false
set_option linter.unusedSimpArgs false
namespace Go.Lm
open Go.Rx
/-- f is better than o. -/
def btr (V : Nat → Nat) (f o : Nat) : Bool := decide (V o < V f) || (decide (V f = V o) && decide (f < o))
def gStep (V : Nat → Nat) : Option Nat → Nat → Option Nat
  | none, f => some f
  | some o, f => if btr V f o = true then some f else some o
def gst (V : Nat → Nat) (l : List Nat) : Option Nat := l.foldl (gStep V) none
/-- It is the best one of a list. -/
def IsG (V : Nat → Nat) (l : List Nat) (g : Nat) : Prop := g ∈ l ∧ ∀ x ∈ l, V x < V g ∨ (V x = V g ∧ g ≤ x)
section
variable {V : Nat → Nat} {l l' : List Nat} {g g' : Nat}
theorem IsG.uniq (h : IsG V l g) (h' : IsG V l g') : g = g' := by
  have h1 := h.2 g' h'.1
  have h2 := h'.2 g h.1
  omega
theorem IsG.set (h : IsG V l g) (hs : ∀ x, x ∈ l ↔ x ∈ l') : IsG V l' g := ⟨(hs g).1 h.1, fun x hx => h.2 x ((hs x).2 hx)⟩
theorem IsG.val (h : IsG V l g) : V g = gr V l := Nat.le_antisymm (gr_mem h.1) (gr_le_iff.2 fun x hx => by have := h.2 x hx; omega)
theorem IsG.snoc (h : IsG V l g) (f : Nat) : IsG V (l ++ [f]) (if btr V f g = true then f else g) := by
  by_cases hb : btr V f g = true
  · rw [if_pos hb]
    unfold btr at hb
    simp only [Bool.or_eq_true, Bool.and_eq_true, decide_eq_true_eq] at hb
    refine ⟨by simp, fun x hx => ?_⟩
    rcases List.mem_append.1 hx with h1 | h1
    · have := h.2 x h1; omega
    · simp at h1; subst h1; omega
  · rw [if_neg hb]
    unfold btr at hb
    simp only [Bool.or_eq_true, Bool.and_eq_true, decide_eq_true_eq, not_or, not_and] at hb
    refine ⟨by simp [h.1], fun x hx => ?_⟩
    rcases List.mem_append.1 hx with h1 | h1
    · exact h.2 x h1
    · simp at h1; subst h1
      have h2 := hb.1
      have h3 := hb.2
      by_cases he : V x = V g
      · have := h3 he; omega
      · omega
theorem gst_snoc (l : List Nat) (f : Nat) : gst V (l ++ [f]) = gStep V (gst V l) f := by unfold gst; rw [List.foldl_append]; rfl
theorem snoc_ind {α : Type} {p : List α → Prop} (h0 : p []) (h : ∀ l x, p l → p (l ++ [x])) (l : List α) : p l := by
  have key : ∀ r : List α, p r.reverse := by
    intro r
    induction r with
    | nil => exact h0
    | cons x r ih => rw [List.reverse_cons]; exact h _ _ ih
  simpa using key l.reverse
theorem gst_spec (l : List Nat) : (l = [] ∧ gst V l = none) ∨ ∃ g, gst V l = some g ∧ IsG V l g := by
  induction l using snoc_ind with
  | h0 => exact .inl ⟨rfl, rfl⟩
  | h l f ih =>
    right
    rw [gst_snoc]
    rcases ih with ⟨rfl, h⟩ | ⟨g, h, hg⟩
    · rw [h]
      exact ⟨f, rfl, by simp, fun x hx => by simp at hx; subst hx; exact .inr ⟨rfl, Nat.le_refl _⟩⟩
    · rw [h]
      have := hg.snoc f
      by_cases hb : btr V f g = true
      · rw [if_pos hb] at this
        exact ⟨f, by simp only [gStep, if_pos hb], this⟩
      · rw [if_neg hb] at this
        exact ⟨g, by simp only [gStep, if_neg hb], this⟩
theorem gst_of (h : IsG V l g) : gst V l = some g := by
  rcases gst_spec (V := V) l with ⟨rfl, _⟩ | ⟨g', e, hg⟩
  · cases h.1
  · rw [e, hg.uniq h]
theorem gst_some (h : gst V l = some g) : IsG V l g := by
  rcases gst_spec (V := V) l with ⟨rfl, e⟩ | ⟨g', e, hg⟩
  · cases h
  · rw [e] at h; cases h; exact hg
theorem gst_none (h : gst V l = none) : l = [] := by
  rcases gst_spec (V := V) l with ⟨e, _⟩ | ⟨g', e, hg⟩
  · exact e
  · rw [e] at h; cases h
theorem gst_set (hs : ∀ x, x ∈ l ↔ x ∈ l') : gst V l = gst V l' := by
  rcases gst_spec (V := V) l with ⟨rfl, e⟩ | ⟨g, e, hg⟩
  · have : l' = [] := List.eq_nil_iff_forall_not_mem.2 fun x hx => by have := (hs x).2 hx; cases this
    subst this; rfl
  · rw [e, gst_of (hg.set hs)]
/-- The greatest value is that of the best fact. -/
theorem gr_gst (l : List Nat) : gr V l = match gst V l with | some g => V g | none => 0 := by
  rcases gst_spec (V := V) l with ⟨rfl, e⟩ | ⟨g, e, hg⟩
  · rfl
  · rw [e]; exact hg.val.symm
end
structure Ar where
  fr : Option Nat
  to : Nat
  op : Nat
def arU (V : Nat → Nat) (u : Un) : Ar := ⟨gst V u.needs, u.makes, u.op⟩
def arcs (U : List Un) (V : Nat → Nat) : List Ar := (U.filter fun u => decide (gr V u.needs < Inf)).map (arU V)
/-- The goal zone. -/
inductive TZ (A : List Ar) (c : Nat → Nat) (g : Nat) : Nat → Prop
  | base : TZ A c g g
  | step {a : Ar} {f : Nat} (ha : a ∈ A) (hf : a.fr = some f) (hc : c a.op = 0) (ht : TZ A c g a.to) : TZ A c g f
/-- The start zone. -/
inductive SZ (A : List Ar) (S0 : List Nat) (T : Nat → Prop) : Nat → Prop
  | base {f : Nat} (h : f ∈ S0) : SZ A S0 T f
  | start {a : Ar} (ha : a ∈ A) (hf : a.fr = none) (ht : ¬ T a.to) : SZ A S0 T a.to
  | step {a : Ar} {f : Nat} (ha : a ∈ A) (hf : a.fr = some f) (hs : SZ A S0 T f) (ht : ¬ T a.to) : SZ A S0 T a.to
/-- An arc begins in the start zone. -/
def Beg (A : List Ar) (S0 : List Nat) (T : Nat → Prop) (a : Ar) : Prop := a.fr = none ∨ ∃ f, a.fr = some f ∧ SZ A S0 T f
/-- The operators of the cut. -/
def XO (A : List Ar) (c : Nat → Nat) (S0 : List Nat) (g : Nat) (op : Nat) : Prop := ∃ a ∈ A, a.op = op ∧ Beg A S0 (TZ A c g) a ∧ TZ A c g a.to
/-- Operators with other costs. -/
def wc (U : List Un) (c : Nat → Nat) : List Un := U.map fun u => { u with cost := c u.op }
theorem wc_mem {U : List Un} {c : Nat → Nat} {v : Un} (h : v ∈ wc U c) : ∃ u ∈ U, v = { u with cost := c u.op } := by
  obtain ⟨u, hu, rfl⟩ := List.mem_map.1 h
  exact ⟨u, hu, rfl⟩
theorem mem_wc {U : List Un} {c : Nat → Nat} {u : Un} (h : u ∈ U) : ({ u with cost := c u.op } : Un) ∈ wc U c := List.mem_map.2 ⟨u, h, rfl⟩
structure IsCut (U : List Un) (c : Nat → Nat) (S0 G : List Nat) (V : Nat → Nat) (L : List Nat) (m : Nat) : Prop where
  ex : ∃ g, gst V G = some g ∧ ∀ op, op ∈ L ↔ XO (arcs U V) c S0 g op
  asc : L.Pairwise (· < ·)
  le : ∀ op ∈ L, m ≤ c op
  at_ : ∃ op ∈ L, c op = m
def sub (c : Nat → Nat) (L : List Nat) (m : Nat) : Nat → Nat := fun i => if i ∈ L then c i - m else c i
/-- The cuts for a state. -/
inductive LmC (U : List Un) (S0 G : List Nat) : (Nat → Nat) → Option (List (List Nat × Nat)) → Prop
  | inf {c V : Nat → Nat} (hV : IsVal (wc U c) S0 V) (h : Inf ≤ gr V G) : LmC U S0 G c none
  | nil {c V : Nat → Nat} (hV : IsVal (wc U c) S0 V) (h : gr V G = 0) : LmC U S0 G c (some [])
  | cut {c V : Nat → Nat} {L : List Nat} {m : Nat} {r : Option (List (List Nat × Nat))} (hV : IsVal (wc U c) S0 V) (h0 : 0 < gr V G) (hi : gr V G < Inf) (hc : IsCut U c S0 G V L m) (hr : LmC U S0 G (sub c L m) r) : LmC U S0 G c (r.map ((L, m) :: ·))
section
variable {U : List Un} {S0 G : List Nat} {c V : Nat → Nat} {L L' : List Nat} {m m' g : Nat}
theorem asc_ext : ∀ {L L' : List Nat}, L.Pairwise (· < ·) → L'.Pairwise (· < ·) → (∀ x, x ∈ L ↔ x ∈ L') → L = L'
  | [], [], _, _, _ => rfl
  | [], b :: L', _, _, h => by have := (h b).2 (by simp); cases this
  | a :: L, [], _, _, h => by have := (h a).1 (by simp); cases this
  | a :: L, b :: L', h1, h2, h => by
    rw [List.pairwise_cons] at h1 h2
    have hab : a = b := by
      rcases List.mem_cons.1 ((h a).1 (by simp)) with e | e
      · exact e
      · rcases List.mem_cons.1 ((h b).2 (by simp)) with e2 | e2
        · exact e2.symm
        · have := h1.1 b e2; have := h2.1 a e; omega
    subst hab
    congr 1
    refine asc_ext h1.2 h2.2 fun x => ?_
    constructor
    · intro hx
      rcases List.mem_cons.1 ((h x).1 (by simp [hx])) with e | e
      · subst e; have := h1.1 x hx; omega
      · exact e
    · intro hx
      rcases List.mem_cons.1 ((h x).2 (by simp [hx])) with e | e
      · subst e; have := h2.1 x hx; omega
      · exact e
theorem IsCut.uniq (h : IsCut U c S0 G V L m) (h' : IsCut U c S0 G V L' m') : L = L' ∧ m = m' := by
  obtain ⟨g, e, hx⟩ := h.ex
  obtain ⟨g', e', hx'⟩ := h'.ex
  rw [e] at e'
  cases e'
  have hL := asc_ext h.asc h'.asc fun x => (hx x).trans (hx' x).symm
  subst hL
  obtain ⟨o, ho, e1⟩ := h.at_
  obtain ⟨o', ho', e2⟩ := h'.at_
  have := h.le o' ho'
  have := h'.le o ho
  exact ⟨rfl, by omega⟩
theorem LmC.uniq {r r' : Option (List (List Nat × Nat))} (h : LmC U S0 G c r) (h' : LmC U S0 G c r') : r = r' := by
  induction h generalizing r' with
  | inf hV hh =>
    cases h' with
    | inf _ _ => rfl
    | nil hV' h2 => rw [hV.uniq hV'] at hh; rw [h2] at hh; unfold Inf at hh; omega
    | cut hV' _ h2 _ _ => rw [hV.uniq hV'] at hh; omega
  | nil hV hh =>
    cases h' with
    | inf hV' h2 => rw [← hV.uniq hV', hh] at h2; unfold Inf at h2; omega
    | nil _ _ => rfl
    | cut hV' h2 _ _ _ => rw [← hV.uniq hV', hh] at h2; omega
  | cut hV h0 hi hc hr ih =>
    cases h' with
    | inf hV' h2 => rw [← hV.uniq hV'] at h2; omega
    | nil hV' h2 => rw [← hV.uniq hV'] at h2; omega
    | cut hV' _ _ hc' hr' =>
      have e := hV.uniq hV'
      subst e
      obtain ⟨rfl, rfl⟩ := hc.uniq hc'
      rw [ih hr']
end
end Go.Lm
end
section
set_option linter.unusedVariables false
set_option linter.unusedSimpArgs false
namespace Go.Lm
open Go.Rx
/-- Sizes. -/
structure Szs (U : List Un) (S0 : List Nat) (N C : Nat) (c : Nat → Nat) : Prop where
  made : ∀ u ∈ U, u.makes < N
  s0 : ∀ x ∈ S0, x < N
  cost : ∀ u ∈ U, c u.op ≤ C
  sm : N * C < Inf
section
variable {U : List Un} {S0 G : List Nat} {c V : Nat → Nat} {L : List Nat} {m g N C f k op : Nat}
theorem Szs.der (h : Szs U S0 N C c) (d : Der (wc U c) S0 f k) : f < N := by
  cases d with
  | base hf => exact h.s0 _ hf
  | step hu kk hk =>
    obtain ⟨u, hu2, rfl⟩ := wc_mem hu
    exact h.made u hu2
theorem Szs.fin (h : Szs U S0 N C c) (hV : IsVal (wc U c) S0 V) : V f < Inf ↔ ∃ k, Der (wc U c) S0 f k :=
  hV.fin (C := C) (N := N) (fun u hu => by
    obtain ⟨v, hv, rfl⟩ := wc_mem hu
    exact h.cost v hv) (fun f k d => h.der d) h.sm
theorem Szs.sub (h : Szs U S0 N C c) (L : List Nat) (m : Nat) : Szs U S0 N C (sub c L m) :=
  ⟨h.made, h.s0, fun u hu => by
    have := h.cost u hu
    unfold Go.Lm.sub
    split <;> omega, h.sm⟩
theorem arcs_mem {a : Ar} (h : a ∈ arcs U V) : ∃ u ∈ U, gr V u.needs < Inf ∧ a = arU V u := by
  unfold arcs at h
  obtain ⟨u, hu, rfl⟩ := List.mem_map.1 h
  rw [List.mem_filter] at hu
  exact ⟨u, hu.1, by simpa using hu.2, rfl⟩
theorem mem_arcs {u : Un} (hu : u ∈ U) (h : gr V u.needs < Inf) : arU V u ∈ arcs U V := List.mem_map.2 ⟨u, List.mem_filter.2 ⟨hu, by simpa using h⟩, rfl⟩
theorem val_cl (hV : IsVal (wc U c) S0 V) {u : Un} (hu : u ∈ U) (h : gr V u.needs < Inf) : V u.makes ≤ gr V u.needs + c u.op := hV.cl _ (mem_wc (c := c) hu) h
theorem tz_val (hV : IsVal (wc U c) S0 V) (h : TZ (arcs U V) c g f) : V g ≤ V f := by
  induction h with
  | base => exact Nat.le_refl _
  | step ha hf hc ht ih =>
    obtain ⟨u, hu, h1, rfl⟩ := arcs_mem ha
    have h2 := val_cl hV hu h1
    have h3 := gr_gst (V := V) u.needs
    have hf : gst V u.needs = some _ := hf
    rw [hf] at h3
    have hc : c u.op = 0 := hc
    have ih : V g ≤ V u.makes := ih
    simp only at h3
    omega
theorem sz_tz (hV : IsVal (wc U c) S0 V) (h0 : 0 < V g) (h : SZ (arcs U V) S0 (TZ (arcs U V) c g) f) : ¬ TZ (arcs U V) c g f := by
  cases h with
  | base hf =>
    intro ht
    have := tz_val hV ht
    rw [hV.s0 f hf] at this
    omega
  | start ha hf ht => exact ht
  | step ha hf hs ht => exact ht
theorem xo_pos (hV : IsVal (wc U c) S0 V) (h0 : 0 < V g) (h : XO (arcs U V) c S0 g op) : 0 < c op := by
  obtain ⟨a, ha, rfl, hb, ht⟩ := h
  rcases Nat.eq_zero_or_pos (c a.op) with hz | hp
  · exfalso
    rcases hb with hf | ⟨f, hf, hs⟩
    · obtain ⟨u, hu, h1, rfl⟩ := arcs_mem ha
      have h2 := val_cl hV hu h1
      have h3 := tz_val hV ht
      have hn : u.needs = [] := gst_none hf
      rw [hn] at h2
      have hz : c u.op = 0 := hz
      have h3 : V g ≤ V u.makes := h3
      simp only [gr] at h2
      omega
    · exact sz_tz hV h0 hs (.step ha hf hz ht)
  · exact hp
theorem sz_der (hV : IsVal (wc U c) S0 V) {T : Nat → Prop} (h : SZ (arcs U V) S0 T f) : ∃ k, Der (wc U c) S0 f k := by
  have key : ∀ a ∈ arcs U V, ∃ k, Der (wc U c) S0 a.to k := fun a ha => by
    obtain ⟨u, hu, h1, rfl⟩ := arcs_mem ha
    have h2 := (gr_lt_iff (by unfold Inf; omega)).1 h1
    exact ⟨_, .step (mem_wc (c := c) hu) V fun n hn => hV.der n (h2 n hn)⟩
  cases h with
  | base hf => exact ⟨0, .base hf⟩
  | start ha hf ht => exact key _ ha
  | step ha hf hs ht => exact key _ ha
/-- The operators that do not cross stay in the start zone. -/
theorem sz_step (hz : Szs U S0 N C c) (hV : IsVal (wc U c) S0 V) {u : Un} (hu : u ∈ U) (hn : ∀ n ∈ u.needs, SZ (arcs U V) S0 (TZ (arcs U V) c g) n) (hx : ¬ XO (arcs U V) c S0 g u.op) : SZ (arcs U V) S0 (TZ (arcs U V) c g) u.makes := by
  have h1 : gr V u.needs < Inf := (gr_lt_iff (by unfold Inf; omega)).2 fun n h => (hz.fin hV).2 (sz_der hV (hn n h))
  have ha := mem_arcs hu h1
  by_cases ht : TZ (arcs U V) c g u.makes
  · refine absurd ⟨arU V u, ha, rfl, ?_, ht⟩ hx
    rcases gst_spec (V := V) u.needs with ⟨_, e⟩ | ⟨f, e, hf⟩
    · exact .inl e
    · exact .inr ⟨f, e, hn f hf.1⟩
  · rcases gst_spec (V := V) u.needs with ⟨_, e⟩ | ⟨f, e, hf⟩
    · exact SZ.start (a := arU V u) ha e ht
    · exact SZ.step (a := arU V u) ha e (hn f hf.1) ht
theorem xo_ex (hz : Szs U S0 N C c) (hV : IsVal (wc U c) S0 V) (h0 : 0 < V g) (hi : V g < Inf) : ∃ op, XO (arcs U V) c S0 g op := by
  apply Classical.byContradiction
  intro hno
  have key : ∀ f k, Der (wc U c) S0 f k → SZ (arcs U V) S0 (TZ (arcs U V) c g) f := by
    intro f k d
    induction d with
    | base hf => exact .base hf
    | step hu kk hk ih =>
      obtain ⟨u, hu2, rfl⟩ := wc_mem hu
      have := sz_step hz hV hu2 (g := g) ih fun hx => hno ⟨_, hx⟩
      exact this
  exact sz_tz hV h0 (key g _ (hV.der g hi)) .base
theorem IsCut.gst0 (h : IsCut U c S0 G V L m) (h0 : 0 < gr V G) (hi : gr V G < Inf) : ∃ g, gst V G = some g ∧ 0 < V g ∧ V g < Inf ∧ g ∈ G ∧ ∀ op, op ∈ L ↔ XO (arcs U V) c S0 g op := by
  obtain ⟨g, e, hx⟩ := h.ex
  have hg := gst_some e
  rw [← hg.val] at h0 hi
  exact ⟨g, e, h0, hi, hg.1, hx⟩
theorem IsCut.pos (hV : IsVal (wc U c) S0 V) (h : IsCut U c S0 G V L m) (h0 : 0 < gr V G) (hi : gr V G < Inf) : 1 ≤ m ∧ L ≠ [] ∧ ∀ op ∈ L, ∃ u ∈ U, u.op = op := by
  obtain ⟨g, e, hg0, hgi, hgm, hx⟩ := h.gst0 h0 hi
  obtain ⟨op, ho, e1⟩ := h.at_
  refine ⟨?_, (fun e2 => by rw [e2] at ho; cases ho), fun op ho => ?_⟩
  · have := xo_pos hV hg0 ((hx op).1 ho); omega
  · obtain ⟨a, ha, rfl, _⟩ := (hx op).1 ho
    obtain ⟨u, hu, _, rfl⟩ := arcs_mem ha
    exact ⟨u, hu, rfl⟩
def sumM (out : List (List Nat × Nat)) : Nat := (out.map (·.2)).sum
/-- The operators that still cost something. -/
def posN (c : Nat → Nat) (n : Nat) : Nat := ((List.range n).filter fun i => decide (0 < c i)).length
theorem posN_lt (hle : ∀ i, c i ≤ V i) (ho : op < k) (h1 : c op = 0) (h2 : 0 < V op) : posN c k < posN V k := by
  induction k with
  | zero => omega
  | succ n ih =>
    have hmono : ∀ n, posN c n ≤ posN V n := by
      intro n
      induction n with
      | zero => exact Nat.le_refl _
      | succ n ih =>
        unfold posN at ih ⊢
        rw [List.range_succ, List.filter_append, List.filter_append, List.length_append, List.length_append]
        have := hle n
        by_cases h : 0 < c n
        · have h' : 0 < V n := by omega
          simp [h, h']; exact ih
        · simp [h]; omega
    have hm := hmono n
    unfold posN at ih hm ⊢
    rw [List.range_succ, List.filter_append, List.filter_append, List.length_append, List.length_append]
    by_cases e : op = n
    · subst e
      simp [h1, h2]; omega
    · have := ih (by omega)
      have := hle n
      by_cases h : 0 < c n
      · have h' : 0 < V n := by omega
        simp [h, h']; omega
      · simp [h]; omega
theorem posN_le (n : Nat) : posN c n ≤ n := by
  have := List.length_filter_le (fun i => decide (0 < c i)) (List.range n)
  simpa [posN] using this
theorem IsCut.less (hV : IsVal (wc U c) S0 V) (h : IsCut U c S0 G V L m) (h0 : 0 < gr V G) (hi : gr V G < Inf) {n : Nat} (hn : ∀ u ∈ U, u.op < n) : posN (sub c L m) n < posN c n := by
  obtain ⟨h1, h2, h3⟩ := h.pos hV h0 hi
  obtain ⟨op, ho, e⟩ := h.at_
  obtain ⟨u, hu, rfl⟩ := h3 op ho
  refine posN_lt (op := u.op) (fun i => ?_) (hn u hu) ?_ (by omega)
  · unfold sub; split <;> omega
  · unfold sub; rw [if_pos ho]; omega
theorem LmC.len {r : Option (List (List Nat × Nat))} (h : LmC U S0 G c r) {n : Nat} (hn : ∀ u ∈ U, u.op < n) : ∀ out, r = some out → out.length ≤ posN c n := by
  induction h with
  | inf hV h => intro out e; cases e
  | nil hV h => intro out e; cases e; simp
  | @cut c V L m r hV h0 hi hc hr ih =>
    intro out e
    cases r with
    | none => cases e
    | some o =>
      cases e
      have := ih o rfl
      have := hc.less hV h0 hi hn
      simp; omega
/-- Without the goal there is no state with a plan. -/
theorem LmC.none_inf {r : Option (List (List Nat × Nat))} (h : LmC U S0 G c r) (hz : Szs U S0 N C c) : r = none → ∃ f ∈ G, ∀ c' k, ¬ Der (wc U c') S0 f k := by
  have mono : ∀ {c c' : Nat → Nat} {f k : Nat}, Der (wc U c') S0 f k → ∃ j, Der (wc U c) S0 f j := by
    intro c c' f k d
    induction d with
    | base h => exact ⟨0, .base h⟩
    | step hu kk hk ih =>
      obtain ⟨u, hu2, rfl⟩ := wc_mem hu
      have hex : ∀ n, ∃ j, n ∈ u.needs → Der (wc U c) S0 n j := fun n => by
        by_cases hn : n ∈ u.needs
        · obtain ⟨j, hj⟩ := ih n hn
          exact ⟨j, fun _ => hj⟩
        · exact ⟨0, fun h => absurd h hn⟩
      exact ⟨_, .step (mem_wc (c := c) hu2) (fun n => Classical.choose (hex n)) fun n hn => Classical.choose_spec (hex n) hn⟩
  induction h with
  | @inf c V hV h =>
    intro _
    apply Classical.byContradiction
    intro hno
    have : gr V G < Inf := (gr_lt_iff (by unfold Inf; omega)).2 fun f hf => (hz.fin hV).2 (by
      apply Classical.byContradiction
      intro hn
      refine hno ⟨f, hf, fun c' k d => hn ?_⟩
      exact mono d)
    omega
  | nil hV h => intro e; cases e
  | @cut c V L m r hV h0 hi hc hr ih =>
    intro e
    cases r with
    | none => exact ih (hz.sub L m) rfl
    | some o => cases e
theorem LmC.some_fin {r : Option (List (List Nat × Nat))} (h : LmC U S0 G c r) (out : List (List Nat × Nat)) (e : r = some out) : ∃ V, IsVal (wc U c) S0 V ∧ gr V G < Inf := by
  cases h with
  | inf hV h => cases e
  | nil hV h => exact ⟨_, hV, by rw [h]; unfold Inf; omega⟩
  | cut hV h0 hi hc hr => exact ⟨_, hV, hi⟩
end
end Go.Lm
end
section
set_option maxRecDepth 100000
set_option linter.unusedSimpArgs false
set_option linter.unusedVariables false
namespace Go.Proofs.Ytcplpogmbacnfaa
open Go Go.W Go.Tk Go.Rx Go.Lm Go.Maps
def gI (o : Option Nat) : Int := match o with | some g => (g : Int) | none => -1
theorem gst_take {V : Nat → Nat} {l : List Nat} {k f : Nat} (h : l[k]? = some f) : gst V (l.take (k + 1)) = gStep V (gst V (l.take k)) f := by
  rw [take_snoc h, gst_snoc]
theorem gst_mem_take {V : Nat → Nat} {l : List Nat} {k g : Nat} (h : gst V (l.take k) = some g) : g ∈ l := List.mem_of_mem_take (gst_some h).1
set_option maxHeartbeats 1000000 in
theorem greatest_walk {w : World} (lv tv : Value) (l : List Nat) (N : Nat) (V : Nat → Nat) (hl : Vw w lv nE l) (ht : Vw w tv nE (tabN N V)) (hr : ∀ x ∈ l, x < N) (hll : l.length ≤ 1000000) :
    Calls Try.prog 63 [lv, tv].toArray w fun e w' => ∃ x, e = .returned x ∧ x = .int .i64 (gI (gst V l)) ∧ Kp [] w w' := by
  refine enter Try.func63 mixed low63 (Nat.le_of_ble_eq_true rfl) ?_
  simp only [L63]
  simp [hl.len]
  refine range_loop (n := l.length) (by omega) (fun k ρ w' => ρ 0 = lv ∧ ρ 1 = tv ∧ ρ 8 = lv ∧ ρ 5 = .int .i64 (gI (gst V (l.take k))) ∧ Kp [] w w') (by simp) (by simp)
    ⟨by simp, by simp, by simp, by simp [gst, gI], Kp.refl _ _⟩ (by decide) (fun _ _ _ _ h => by simpa using h) (fun _ _ _ _ h => by simpa using h) ?_ ?_
  rotate_left
  · rintro ρ w2 ⟨g0, g1, g8, g5, k2⟩
    rw [List.take_length] at g5
    simp [g5]
    exact k2
  rintro k ρ w2 hk hck hlk ⟨g0, g1, g8, g5, k2⟩
  have hl2 := hl.kp0 k2
  have ht2 := ht.kp0 k2
  obtain ⟨f, hf⟩ : ∃ f, l[k]? = some f := ⟨_, List.getElem?_eq_getElem hk⟩
  have hfN := hr f (List.mem_of_getElem? hf)
  have hki : (k : Int) < l.length := by omega
  have htl : (tabN N V).length = N := tabN_len _ _
  have hfi : (f : Int) < N := by omega
  have cf := nE_cell ht2 (tabN_at (g := V) hfN)
  have hsuc := gst_take (V := V) hf
  cases hg : gst V (l.take k) with
  | none =>
    rw [hg] at g5 hsuc
    have e : gst V (l.take (k + 1)) = some f := hsuc
    simp (disch := omega) [g0, g1, g8, g5, hck, hlk, hl2.idx, nE_cell hl2 hf, gI, e]
    exact k2.drew
  | some g =>
    rw [hg] at g5 hsuc
    have hgN := hr g (gst_mem_take hg)
    have hgi : (g : Int) < N := by omega
    have cg := nE_cell ht2 (tabN_at (g := V) hgN)
    have n0 : ¬ (g : Int) < 0 := by omega
    have hsuc : gst V (l.take (k + 1)) = if btr V f g = true then some f else some g := hsuc
    by_cases s1 : V g < V f
    · have s1' : (V g : Int) < (V f : Int) := by omega
      have e : gst V (l.take (k + 1)) = some f := by rw [hsuc, if_pos]; unfold btr; simp [s1]
      simp (disch := omega) [g0, g1, g8, g5, hck, hlk, hl2.idx, nE_cell hl2 hf, gI, e, n0, ht2.idx, htl, cf, cg, s1, s1']
      exact k2.drew
    have s1' : ¬ (V g : Int) < (V f : Int) := by omega
    by_cases s2 : V f = V g
    · have s2' : (V f : Int) = (V g : Int) := by omega
      by_cases s3 : f < g
      · have s3' : (f : Int) < (g : Int) := by omega
        have e : gst V (l.take (k + 1)) = some f := by rw [hsuc, if_pos]; unfold btr; simp [s2, s3]
        simp (disch := omega) [g0, g1, g8, g5, hck, hlk, hl2.idx, nE_cell hl2 hf, gI, e, n0, ht2.idx, htl, cf, cg, s2, s2', s3, s3']
        exact k2.drew
      · have s3' : ¬ (f : Int) < (g : Int) := by omega
        have e : gst V (l.take (k + 1)) = some g := by rw [hsuc, if_neg]; unfold btr; simp [s2]; omega
        simp (disch := omega) [g0, g1, g8, g5, hck, hlk, hl2.idx, nE_cell hl2 hf, gI, e, n0, ht2.idx, htl, cf, cg, s2, s2', s3, s3']
        exact k2.drew
    · have s2' : ((V f : Int) == (V g : Int)) = false := by simp; omega
      have e : gst V (l.take (k + 1)) = some g := by rw [hsuc, if_neg]; unfold btr; simp [s2]; omega
      simp (disch := omega) [g0, g1, g8, g5, hck, hlk, hl2.idx, nE_cell hl2 hf, gI, e, n0, ht2.idx, htl, cf, cg, s1, s1', s2, s2']
      exact k2.drew
theorem highest_walk {w : World} (lv tv : Value) (l : List Nat) (N : Nat) (V : Nat → Nat) (hl : Vw w lv nE l) (ht : Vw w tv nE (tabN N V)) (hr : ∀ x ∈ l, x < N) (hll : l.length ≤ 1000000) :
    Calls Try.prog 45 [lv, tv].toArray w fun e w' => ∃ x, e = .returned x ∧ x = .int .i64 (gr V l : Nat) ∧ Kp [] w w' := by
  refine enter Try.func45 mixed low45 (Nat.le_of_ble_eq_true rfl) ?_
  simp only [L45]
  simp
  refine cl_of (greatest_walk lv tv l N V hl ht hr hll) ?_
  rintro _ w2 ⟨rfl, k2⟩
  have e := gr_gst (V := V) l
  cases hg : gst V l with
  | none =>
    rw [hg] at e
    simp [gI, e]
    exact k2
  | some g =>
    rw [hg] at e
    have hgN := hr g (gst_some hg).1
    have ht2 := ht.kp0 k2
    have htl : (tabN N V).length = N := tabN_len _ _
    have hgi : (g : Int) < N := by omega
    have n0 : (0 : Int) ≤ (g : Int) := by omega
    simp (disch := omega) [gI, n0, ht2.idx, htl, nE_cell ht2 (tabN_at (g := V) hgN), e]
    exact k2
end Go.Proofs.Ytcplpogmbacnfaa
end
section
set_option maxRecDepth 100000
set_option linter.unusedSimpArgs false
set_option linter.unusedVariables false
namespace Go.Proofs.Ytcplpogmbacnfaa
open Go Go.W Go.Tk Go.Rx Go.Lm Go.Maps
/-- An operator of the heuristic, as it lies in memory. -/
structure Lu where
  nv : Cell1
  u : Un
def luE (r : Lu) : List Value := [.int .i64 (r.u.op : Nat), .int .i64 (r.u.makes : Nat), r.nv.1]
theorem luE_len (r : Lu) : (luE r).length = 3 := rfl
theorem luE_one (r : Lu) : (luE r).all oneC = true := by simp [luE, r.nv.2]
def luO (r : Lu) : Obj := .cells #[.int .i64 (r.u.op : Nat), .int .i64 (r.u.makes : Nat), r.nv.1] 77 (0, 0)
theorem st_lu {wa w : World} {F : List Nat} {X : Asr} {KW : Kont World} {r : Lu} {b : Nat} (hX : Lcl X) (h : At w F X wa) (hb : b = wa.heap.size) (H : ∀ w2, At w F (Star (ObjA b (luO r)) X) w2 → KW.run w2) :
    @stJ (wa.alloc (.cells #[.int .i64 0, .int .i64 0, .slice none 0 0] 77 (0, 0))) ⟨b, 0, none⟩ [.int .i64 (r.u.op : Nat), .int .i64 (r.u.makes : Nat), r.nv.1] KW := by
  have h1 : At w F (Star (ObjA b (.cells #[.int .i64 0, .int .i64 0, .slice none 0 0] 77 (0, 0))) X) (wa.alloc (.cells #[.int .i64 0, .int .i64 0, .slice none 0 0] 77 (0, 0))) := by rw [hb]; exact h.alloc _ hX
  exact h1.st hX (by simp) (by simp [r.nv.2]) fun w2 h2 => H w2 (by simpa [luO] using h2)
/-- Sizes of the operators. -/
structure LuOk (UL : List Un) (N M : Nat) : Prop where
  rng : ∀ u ∈ UL, ∀ n ∈ u.needs, n < N
  made : ∀ u ∈ UL, u.makes < N
  op : ∀ u ∈ UL, u.op < M
  nl : ∀ u ∈ UL, u.needs.length ≤ 1000000
  ul : UL.length ≤ 1000000
  nn : N ≤ 4096
/-- A heuristic that can be read. -/
structure HrR (b : Nat) (vars : List Nat) (G C0 : List Nat) (UL : List Un) (vv fv gv cv lv : Value) (rs : List Lu) (w : World) : Prop where
  obj : w.heap[b]? = some (.cells #[vv, fv, .int .i64 (vars.sum : Nat), gv, cv, lv] 73 (0, 0))
  vvw : Vw w vv nE vars
  first : Vw w fv nE (firsts vars vars.length)
  goal : Vw w gv nE G
  costs : Vw w cv nE C0
  list : Vw w lv luE rs
  needs : ∀ r ∈ rs, Vw w r.nv.1 nE r.u.needs
  eu : rs.map (·.u) = UL
theorem HrR.kp {b : Nat} {vars G C0 : List Nat} {UL : List Un} {vv fv gv cv lv : Value} {rs : List Lu} {w w' : World} (h : HrR b vars G C0 UL vv fv gv cv lv rs w) (k : Kp [] w w') : HrR b vars G C0 UL vv fv gv cv lv rs w' :=
  ⟨k.blk h.obj (by simp), h.vvw.kp0 k, h.first.kp0 k, h.goal.kp0 k, h.costs.kp0 k, h.list.kp0 k, fun r hr => (h.needs r hr).kp0 k, h.eu⟩
def cf (l : List Nat) : Nat → Nat := fun i => l.getD i 0
def v0S (S : List Nat) : Nat → Nat := fun f => if f ∈ S then 0 else Inf
theorem v0S_snoc (S : List Nat) (f : Nat) : updN (v0S S) f 0 = v0S (S ++ [f]) := by
  funext g
  unfold v0S
  by_cases h : g = f
  · subst h; simp
  · rw [updN_ne h]; simp [h]
theorem wc_take {UL : List Un} {c : Nat → Nat} {k : Nat} {u : Un} (h : UL[k]? = some u) : wc (UL.take (k + 1)) c = wc (UL.take k) c ++ [{ u with cost := c u.op }] := by
  rw [take_snoc h]; unfold wc; rw [List.map_append]; rfl
structure Vfs (UL : List Un) (c : Nat → Nat) (S : List Nat) (N s0 k : Nat) (ch : Bool) (V : Nat → Nat) : Prop where
  rf : Rf (wc UL c) S V
  clo : ch = false → Clo (wc (UL.take k) c) V
  lt : ch = true → sumV N V < s0
  le : sumV N V ≤ s0
def VmI (b : Nat) (cv ov : Value) (UL : List Un) (c : Nat → Nat) (S : List Nat) (N : Nat) (w : World) (n : Nat) (ρ : Env) (w' : World) : Prop :=
  ρ 0 = .pointer (some ⟨b, 0, none⟩) ∧ ρ 2 = cv ∧ ρ 7 = ov ∧ ∃ V ch, ρ 11 = .bool ch ∧ Rf (wc UL c) S V ∧ (ch = false → Clo (wc UL c) V) ∧ n = (if ch then sumV N V + 1 else 0) ∧ At w [] (Star (OwnA ov 3 1 nE (tabN N V)) Emp) w'
def VmE (b : Nat) (cv ov lv : Value) (UL : List Un) (c : Nat → Nat) (S : List Nat) (N s0 : Nat) (w : World) (k : Nat) (ρ : Env) (w' : World) : Prop :=
  ρ 0 = .pointer (some ⟨b, 0, none⟩) ∧ ρ 2 = cv ∧ ρ 7 = ov ∧ ρ 52 = lv ∧ ∃ V ch, ρ 11 = .bool ch ∧ Vfs UL c S N s0 k ch V ∧ At w [] (Star (OwnA ov 3 1 nE (tabN N V)) Emp) w'
theorem adr_own {α : Type} {enc : α → List Value} {w : World} {v : Value} {E sz : Nat} {l : List α} {k : Nat} (h : Own w v E sz enc l) (hk : k < l.length) : v.adr.add k = ⟨v.blk, k, none⟩ := by
  rcases h with ⟨rfl, h⟩ | ⟨g, cap, cur, junk, rfl, hh, _⟩
  · rw [h] at hk; simp at hk
  · simp [Value.adr, Value.blk, Addr.add]
    try omega
section
variable {w : World} {b : Nat} {vars G C0 : List Nat} {UL : List Un} {vv fv gv cv lv : Value} {rs : List Lu}
set_option maxHeartbeats 1000000 in
theorem values35_walk (sv dv : Value) (s left : List Nat) (hR : HrR b vars G C0 UL vv fv gv cv lv rs w) (hs : Vw w sv nE s) (hst : StN vars s) (hd : Vw w dv nE left) (hdb : ∀ x ∈ left, x ≤ 1048576) (hL : LuOk UL vars.sum left.length) (hvl : vars.length ≤ 64) :
    Calls Try.prog 44 [.pointer (some ⟨b, 0, none⟩), sv, dv].toArray w fun e w' => ∃ x, e = .returned x ∧ ∃ V, IsVal (wc UL (cf left)) (stN vars s vars.length) V ∧ Nw w w' x 3 1 nE (tabN vars.sum V) := by
  refine enter Try.func44 mixed low44 (Nat.le_of_ble_eq_true rfl) ?_
  simp only [L44]
  have hlen := hst.len
  obtain ⟨N, hN⟩ : ∃ N, N = vars.sum := ⟨_, rfl⟩
  have hNb : N ≤ 4096 := by rw [hN]; exact hL.nn
  rw [← hN] at hL
  have hob := hR.obj
  rw [← hN] at hob ⊢
  simp [cell_blk hob]
  refine gd_mk (by omega) ?_
  have h1 := (At.start rfl : At w [] Emp w).made (E := 3) (enc := nE) (x := 0) (z := [.int .i64 0]) (n := N) .emp rfl nE_len (by unfold maxLen; omega)
  rw [upto_zero N 0 (fun _ => Inf)] at h1
  obtain ⟨ov, hov⟩ : ∃ ov, ov = Value.slice (some ⟨w.heap.size, 0, none⟩) N N := ⟨_, rfl⟩
  rw [← hov] at h1
  simp [← hov, h1.own.vw.len, tabN_len]
  refine range_loop (n := N) (by omega) (fun i ρ w' => ρ 0 = .pointer (some ⟨b, 0, none⟩) ∧ ρ 1 = sv ∧ ρ 2 = dv ∧ ρ 7 = ov ∧ At w [] (Star (OwnA ov 3 1 nE (tabN N (upto i (fun _ => Inf) 0))) Emp) w') (by simp) (by simp)
    ⟨by simp, by simp, by simp, by simp, by simpa using h1⟩ (by decide) (fun _ _ _ _ h => by simpa using h) (fun _ _ _ _ h => by simpa using h) ?_ ?_
  · rintro i ρ w2 hi hci hli ⟨g0, g1, g2, g7, h2⟩
    have hiN : (i : Int) < N := by omega
    have htl : (tabN N (upto i (fun _ => Inf) 0)).length = N := tabN_len _ _
    simp (disch := omega) [g0, g1, g2, g7, hci, hli, h2.own.idx, htl]
    refine h2.store1 .emp nE_len nE_one (k := i) (by omega) (x := Inf) rfl fun w3 h3 => ?_
    rw [tabN_set hi, upto_succ] at h3
    simp [g0, g1, g2, g7, hci, hli]
    exact h3
  rintro ρ w2 ⟨g0, g1, g2, g7, h2⟩
  rw [upto_all] at h2
  have e0 : (fun _ : Nat => Inf) = v0S (stN vars s 0) := by funext f; simp [v0S, stN]
  rw [e0] at h2
  have hs2 := hs.kp0 h2.kp
  simp [g1, hs2.len]
  refine range_loop (n := s.length) (by omega) (fun v ρ w' => ρ 0 = .pointer (some ⟨b, 0, none⟩) ∧ ρ 2 = dv ∧ ρ 7 = ov ∧ ρ 29 = sv ∧ At w [] (Star (OwnA ov 3 1 nE (tabN N (v0S (stN vars s v)))) Emp) w') (by simp) (by simp)
    ⟨by simp [g0], by simp [g2], by simp [g7], by simp, by simpa using h2⟩ (by decide) (fun _ _ _ _ h => by simpa using h) (fun _ _ _ _ h => by simpa using h) ?_ ?_
  · clear g0 g1 g2 g7 h2 hs2
    rintro v ρ w3 hv hcv hlv2 ⟨g0, g2, g7, g29, h3⟩
    have hR3 := hR.kp h3.kp
    have hs3 := hs.kp0 h3.kp
    have hob3 := hR3.obj
    obtain ⟨x, hx⟩ : ∃ x, s[v]? = some x := ⟨_, List.getElem?_eq_getElem hv⟩
    have hxd : s.getD v 0 = x := by simp [List.getD, hx]
    have hvlt : v < vars.length := by rw [← hlen]; exact hv
    have hvr := hst.rng v hvlt
    rw [hxd] at hvr
    have hnum := numF_lt (f := (v, x)) (vars := vars) hvlt hvr
    unfold numF at hnum
    obtain ⟨f, hf⟩ : ∃ f, f = psum vars v + x := ⟨_, rfl⟩
    have ef : ((psum vars v : Nat) : Int) + (x : Nat) = (f : Int) := by rw [hf]; simp
    have hfN : f < N := by rw [hf, hN]; exact hnum
    have hfi : (f : Int) < N := by omega
    have efc := nE_cell hR3.first (firsts_at (vars := vars) hvlt)
    have hfl : (firsts vars vars.length).length = vars.length := by simp [firsts]
    have hvi : (v : Int) < s.length := by omega
    have hvi2 : (v : Int) < vars.length := by omega
    have htl : (tabN N (v0S (stN vars s v))).length = N := tabN_len _ _
    simp (disch := omega) [g0, g2, g7, g29, hcv, hlv2, hs3.idx, nE_cell hs3 hx, cell_blk hob3, hR3.first.idx, hfl, efc, wrap_i64, ef, h3.own.idx, htl]
    refine h3.store1 .emp nE_len nE_one (k := f) (by omega) (x := 0) rfl fun w4 h4 => ?_
    have e5 : stN vars s (v + 1) = stN vars s v ++ [f] := by rw [stN_succ, hxd, hf]
    rw [tabN_set hfN, v0S_snoc, ← e5] at h4
    simp [g0, g2, g7, g29, hcv, hlv2]
    exact h4
  clear g0 g1 g2 g7 h2 hs2
  rintro ρ w2 ⟨g0, g2, g7, g29, h2⟩
  rw [hlen] at h2
  obtain ⟨S, hS⟩ : ∃ S, S = stN vars s vars.length := ⟨_, rfl⟩
  rw [← hS] at h2 ⊢
  simp
  refine loop_inv (VmI b dv ov UL (cf left) S N w) (sumV N (v0S S) + 1) ⟨by simp [g0], by simp [g2], by simp [g7], _, true, by simp, Rf.init, by simp, rfl, h2⟩ ?_
  clear g0 g2 g7 g29 h2
  rintro n ρ w3 ⟨g0, g2, g7, V, ch, g11, hRf, hCl, rfl, h3⟩
  cases ch with
  | false =>
    simp [g11, g7]
    exact ⟨V, hRf.fin (hCl rfl), Nw.of h3⟩
  | true =>
    have hR3 := hR.kp h3.kp
    have hob3 := hR3.obj
    have hrl : rs.length = UL.length := by rw [← hR.eu]; simp
    have hul := hL.ul
    obtain ⟨s0, hs0⟩ : ∃ s0, s0 = sumV N V := ⟨_, rfl⟩
    simp [g11, g0, cell_blk hob3, hR3.list.len, hrl]
    refine range_loop (n := UL.length) (by omega) (VmE b dv ov lv UL (cf left) S N s0 w) (by simp) (by simp)
      ⟨by simp [g0], by simp [g2], by simp [g7], by simp, V, false, by simp, ⟨hRf, fun _ => by simp [wc]; exact Clo.nil, by simp, by omega⟩, by simpa using h3⟩ (by decide) (fun _ _ _ _ h => by unfold VmE at h ⊢; simpa using h) (fun _ _ _ _ h => by unfold VmE at h ⊢; simpa using h) ?_ ?_
    rotate_left
    · clear g0 g2 g7 g11 h3
      rintro ρ w4 ⟨g0, g2, g7, g52, V2, ch2, g11, hF, h4⟩
      simp
      have hcl2 := hF.clo
      rw [List.take_length] at hcl2
      refine ⟨_, ?_, g0, g2, g7, V2, ch2, g11, hF.rf, hcl2, rfl, h4⟩
      cases ch2 with
      | false => simp
      | true => have := hF.lt rfl; simp; omega
    clear g0 g2 g7 g11 h3 hR3 hob3 hRf hCl
    rintro k ρ w4 hk hck hlk ⟨g0, g2, g7, g52, V2, ch2, g11, hF, h4⟩
    have hR4 := hR.kp h4.kp
    obtain ⟨r, hr⟩ : ∃ r, rs[k]? = some r := ⟨_, List.getElem?_eq_getElem (by omega)⟩
    have hrm := List.mem_of_getElem? hr
    obtain ⟨u, hu⟩ : ∃ u, u = r.u := ⟨_, rfl⟩
    have huk : UL[k]? = some u := by rw [← hR.eu, List.getElem?_map, hr, hu]; rfl
    have hum := List.mem_of_getElem? huk
    have ec := hR4.list.cells luE_len hr
    simp only [luE] at ec
    obtain ⟨ub, hub⟩ : ∃ ub, ub = w4.heap.size := ⟨_, rfl⟩
    have hki : (k : Int) < rs.length := by omega
    simp (disch := omega) [g52, hck, hlk, hR4.list.idx, ec, ← hub]
    refine st_lu (r := r) (Lcl.own.star .emp) h4 hub fun w5 h5 => ?_
    have oo5 := h5.obj
    unfold luO at oo5
    have h5' := h5.by Imp.sw
    simp [g7, cell_blk oo5, ← hub]
    refine cl_of (highest_walk r.nv.1 ov r.u.needs N V2 ((hR.kp h5.kp).needs r hrm) h5'.own.vw (by rw [← hu]; exact hL.rng u hum) (by rw [← hu]; exact hL.nl u hum)) ?_
    rintro _ w6 ⟨rfl, k6⟩
    rw [← hu]
    have h6 := h5'.kp0 (Lcl.own.star (Lcl.obj.star .emp)) k6
    have oo6 := h6.drop.obj
    unfold luO at oo6
    rw [← hu] at oo6
    have hopM := hL.op u hum
    have hmk := hL.made u hum
    obtain ⟨x, hx⟩ : ∃ x, left[u.op]? = some x := ⟨_, List.getElem?_eq_getElem hopM⟩
    have hxd : cf left u.op = x := by unfold cf; simp [List.getD, hx]
    have hxb := hdb x (List.mem_of_getElem? hx)
    have hd6 := hd.kp0 h6.kp
    have htl : (tabN N V2).length = N := tabN_len _ _
    have cO := h6.own.vw
    have cm := nE_cell cO (tabN_at (g := V2) hmk)
    have hoi : (u.op : Int) < left.length := by omega
    have hmi : (u.makes : Int) < N := by omega
    obtain ⟨gr0, hgr⟩ : ∃ z, z = gr V2 u.needs := ⟨_, rfl⟩
    rw [← hgr]
    have hInf : Inf = 1125899906842624 := rfl
    have hgI : gr0 ≤ Inf := by rw [hgr]; exact gr_le_iff.2 fun f _ => hF.rf.le f
    obtain ⟨sm, hsm⟩ : ∃ sm, sm = gr0 + x := ⟨_, rfl⟩
    have esm : (gr0 : Int) + (x : Int) = (sm : Int) := by omega
    have hwt := wc_take (c := cf left) huk
    have same : (¬ (gr0 < Inf ∧ sm < V2 u.makes)) → Vfs UL (cf left) S N s0 (k + 1) ch2 V2 := fun hno => ⟨hF.rf, fun hc => by
      rw [hwt]
      refine (hF.clo hc).app (Clo.one fun hg => ?_)
      have hg : gr V2 u.needs < Inf := hg
      show V2 u.makes ≤ gr V2 u.needs + cf left u.op
      omega, hF.lt, hF.le⟩
    by_cases s1 : gr0 < Inf
    · have s1' : (gr0 : Int) < 1125899906842624 := by omega
      by_cases s2 : sm < V2 u.makes
      · have s2' : (sm : Int) < (V2 u.makes : Int) := by omega
        simp (disch := omega) [g2, g7, ← hub, cell_blk oo6, hd6.idx, nE_cell hd6 hx, cO.idx, htl, cm, s1', s2', esm, wrap_i64]
        rw [adr_own h6.own (by omega : u.makes < (tabN N V2).length)]
        have hLX : Lcl (Star (ObjA ub (luO r)) Emp) := Lcl.obj.star .emp
        have h7 := (h6.drew (Lcl.own.star hLX)).drew (Lcl.own.star hLX)
        refine h7.store1 hLX nE_len nE_one (k := u.makes) (by omega) (x := sm) rfl fun w8 h8 => ?_
        rw [tabN_set hmk] at h8
        have hst1 := hF.rf.step (mem_wc (c := cf left) hum) (by show gr V2 u.needs + cf left u.op < V2 u.makes; omega)
        have hst2 : Rf (wc UL (cf left)) S (updN V2 u.makes sm) := by
          have e : gr V2 u.needs + cf left u.op = sm := by omega
          have h9 : Rf (wc UL (cf left)) S (updN V2 u.makes (gr V2 u.needs + cf left u.op)) := hst1
          rwa [e] at h9
        have hlt := sumV_upd (V := V2) (x := sm) hmk s2
        have hle := hF.le
        simp [hck, hlk]
        exact ⟨by simp [g0], by simp [g2], by simp [g7], by simp [g52], updN V2 u.makes sm, true, by simp, ⟨hst2, (fun h => by cases h), (fun _ => by omega), by omega⟩, h8.by (Imp.un Imp.dr)⟩
      · have s2' : ¬ (sm : Int) < (V2 u.makes : Int) := by omega
        simp (disch := omega) [g2, g7, ← hub, cell_blk oo6, hd6.idx, nE_cell hd6 hx, cO.idx, htl, cm, s1', s2', esm, wrap_i64, hck, hlk]
        exact ⟨by simp [g0], by simp [g2], by simp [g7], by simp [g52], V2, ch2, by simp [g11], same (by omega), (h6.by (Imp.un Imp.dr)).drew (Lcl.own.star .emp)⟩
    · have s1' : ¬ (gr0 : Int) < 1125899906842624 := by omega
      simp (disch := omega) [g2, g7, ← hub, cell_blk oo6, s1', wrap_i64, hck, hlk]
      exact ⟨by simp [g0], by simp [g2], by simp [g7], by simp [g52], V2, ch2, by simp [g11], same (by omega), (h6.by (Imp.un Imp.dr)).drew (Lcl.own.star .emp)⟩
end
end Go.Proofs.Ytcplpogmbacnfaa
end
