/- plain theory of reduced ordered binary decision diagrams -/
set_option linter.unusedVariables false
set_option linter.unusedSimpArgs false
namespace Go.Bd
structure Nd where
  v : Nat
  low : Nat
  high : Nat
  deriving DecidableEq, Inhabited
abbrev Ns := List Nd
/-- The node of a reference; constants have a variable after all others. -/
def at_ (n : Nat) (ns : Ns) (f : Nat) : Nd := if f < 2 then ⟨n, f, f⟩ else ns.getD (f - 2) default
def tv (n : Nat) (ns : Ns) (f : Nat) : Nat := (at_ n ns f).v
def Ref (ns : Ns) (f : Nat) : Prop := f < ns.length + 2
structure Wf (n : Nat) (ns : Ns) : Prop where
  var : ∀ k (h : k < ns.length), ns[k].v < n
  ne : ∀ k (h : k < ns.length), ns[k].low ≠ ns[k].high
  low : ∀ k (h : k < ns.length), ns[k].low < k + 2
  high : ∀ k (h : k < ns.length), ns[k].high < k + 2
  ordl : ∀ k (h : k < ns.length), ns[k].v < tv n ns ns[k].low
  ordh : ∀ k (h : k < ns.length), ns[k].v < tv n ns ns[k].high
  nodup : ns.Nodup
theorem Wf.nil (n : Nat) : Wf n [] := ⟨by simp, by simp, by simp, by simp, by simp, by simp, by simp⟩
theorem at_lt {n : Nat} {ns : Ns} {f : Nat} (h : f < 2) : at_ n ns f = ⟨n, f, f⟩ := by simp [at_, h]
theorem at_ge {n : Nat} {ns : Ns} {f : Nat} (h : 2 ≤ f) (hf : Ref ns f) : at_ n ns f = ns[f - 2]'(by unfold Ref at hf; omega) := by
  have h2 : ¬ f < 2 := by omega
  simp only [at_, h2, if_false]
  unfold Ref at hf
  have : f - 2 < ns.length := by omega
  simp [List.getD, List.getElem?_eq_getElem this]
/-- The value of a function at an assignment. -/
def eval (ns : Ns) (a : Nat → Bool) (f : Nat) : Bool :=
  if h : f < 2 then decide (f = 1) else
    let d := ns.getD (f - 2) default
    if hl : d.low < f ∧ d.high < f then (if a d.v then eval ns a d.high else eval ns a d.low) else false
termination_by f
decreasing_by
  · exact hl.2
  · exact hl.1
theorem eval_zero (ns : Ns) (a : Nat → Bool) : eval ns a 0 = false := by unfold eval; simp
theorem eval_one (ns : Ns) (a : Nat → Bool) : eval ns a 1 = true := by unfold eval; simp
section
variable {n : Nat} {ns : Ns}
theorem Wf.lt_low (w : Wf n ns) {f : Nat} (h : 2 ≤ f) (hf : Ref ns f) : (at_ n ns f).low < f := by
  have hk : f - 2 < ns.length := by unfold Ref at hf; omega
  rw [at_ge h hf]
  have := w.low (f - 2) hk; omega
theorem Wf.lt_high (w : Wf n ns) {f : Nat} (h : 2 ≤ f) (hf : Ref ns f) : (at_ n ns f).high < f := by
  have hk : f - 2 < ns.length := by unfold Ref at hf; omega
  rw [at_ge h hf]
  have := w.high (f - 2) hk; omega
theorem eval_node (w : Wf n ns) (a : Nat → Bool) {f : Nat} (h : 2 ≤ f) (hf : Ref ns f) : eval ns a f = if a (at_ n ns f).v then eval ns a (at_ n ns f).high else eval ns a (at_ n ns f).low := by
  have h1 := w.lt_low h hf
  have h2 := w.lt_high h hf
  have hk : ¬ f < 2 := by omega
  have e : at_ n ns f = ns.getD (f - 2) default := by simp [at_, hk]
  rw [e] at h1 h2 ⊢
  conv => lhs; unfold eval
  rw [dif_neg hk]
  simp only
  rw [dif_pos ⟨h1, h2⟩]
theorem Wf.ref_low (w : Wf n ns) {f : Nat} (hf : Ref ns f) : Ref ns (at_ n ns f).low := by
  rcases Nat.lt_or_ge f 2 with h | h
  · rw [at_lt h]; exact hf
  · have := w.lt_low h hf; unfold Ref at *; omega
theorem Wf.ref_high (w : Wf n ns) {f : Nat} (hf : Ref ns f) : Ref ns (at_ n ns f).high := by
  rcases Nat.lt_or_ge f 2 with h | h
  · rw [at_lt h]; exact hf
  · have := w.lt_high h hf; unfold Ref at *; omega
theorem tv_lt {f : Nat} (h : f < 2) : tv n ns f = n := by simp [tv, at_lt h]
theorem Wf.tv_var (w : Wf n ns) {f : Nat} (h : 2 ≤ f) (hf : Ref ns f) : tv n ns f < n := by
  rw [tv, at_ge h hf]; exact w.var _ _
theorem Wf.tv_le (w : Wf n ns) {f : Nat} (hf : Ref ns f) : tv n ns f ≤ n := by
  rcases Nat.lt_or_ge f 2 with h | h
  · rw [tv_lt h]; exact Nat.le_refl _
  · exact Nat.le_of_lt (w.tv_var h hf)
theorem Wf.tv_low (w : Wf n ns) {f : Nat} (h : 2 ≤ f) (hf : Ref ns f) : tv n ns f < tv n ns (at_ n ns f).low := by
  rw [tv, at_ge h hf]; exact w.ordl _ _
theorem Wf.tv_high (w : Wf n ns) {f : Nat} (h : 2 ≤ f) (hf : Ref ns f) : tv n ns f < tv n ns (at_ n ns f).high := by
  rw [tv, at_ge h hf]; exact w.ordh _ _
/-- It depends on no variable before its first one. -/
theorem eval_congr (w : Wf n ns) {a b : Nat → Bool} : ∀ {f : Nat}, Ref ns f → (∀ i, tv n ns f ≤ i → a i = b i) → eval ns a f = eval ns b f := by
  intro f
  induction f using Nat.strongRecOn with
  | ind f ih =>
    intro hf hab
    rcases Nat.lt_or_ge f 2 with h | h
    · have : f = 0 ∨ f = 1 := by omega
      rcases this with rfl | rfl
      · rw [eval_zero, eval_zero]
      · rw [eval_one, eval_one]
    · rw [eval_node w a h hf, eval_node w b h hf, hab (at_ n ns f).v (Nat.le_refl _)]
      have hl := w.tv_low h hf
      have hh := w.tv_high h hf
      rw [ih _ (w.lt_high h hf) (w.ref_high hf) (fun i hi => hab i (by omega)), ih _ (w.lt_low h hf) (w.ref_low hf) (fun i hi => hab i (by omega))]
def upd (a : Nat → Bool) (v : Nat) (x : Bool) : Nat → Bool := fun i => if i = v then x else a i
@[simp] theorem upd_same (a : Nat → Bool) (v : Nat) (x : Bool) : upd a v x v = x := by simp [upd]
theorem upd_ne {a : Nat → Bool} {v i : Nat} {x : Bool} (h : i ≠ v) : upd a v x i = a i := by simp [upd, h]
theorem eval_upd (w : Wf n ns) {a : Nat → Bool} {f v : Nat} {x : Bool} (hf : Ref ns f) (h : v < tv n ns f) : eval ns (upd a v x) f = eval ns a f :=
  eval_congr w hf fun i hi => upd_ne (by omega)
theorem eval_low (w : Wf n ns) {a : Nat → Bool} {f : Nat} (h : 2 ≤ f) (hf : Ref ns f) : eval ns (upd a (tv n ns f) false) f = eval ns a (at_ n ns f).low := by
  rw [eval_node w _ h hf]
  rw [show (at_ n ns f).v = tv n ns f from rfl, upd_same]
  simp only [Bool.false_eq_true, if_false]
  exact eval_upd w (w.ref_low hf) (w.tv_low h hf)
theorem eval_high (w : Wf n ns) {a : Nat → Bool} {f : Nat} (h : 2 ≤ f) (hf : Ref ns f) : eval ns (upd a (tv n ns f) true) f = eval ns a (at_ n ns f).high := by
  rw [eval_node w _ h hf]
  rw [show (at_ n ns f).v = tv n ns f from rfl, upd_same]
  simp only [if_true]
  exact eval_upd w (w.ref_high hf) (w.tv_high h hf)
/-- Equal functions are equal references. -/
theorem canon_aux (w : Wf n ns) : ∀ (s f g : Nat), f < s → g < s → Ref ns f → Ref ns g → (∀ a, eval ns a f = eval ns a g) → f = g := by
  intro s
  induction s with
  | zero => intro f g h; omega
  | succ s ih =>
    have key : ∀ f g, f < s + 1 → Ref ns f → Ref ns g → (∀ a, eval ns a f = eval ns a g) → 2 ≤ f → tv n ns f < tv n ns g → False := by
      intro f g hs hf hg he h hlt
      have hne : (at_ n ns f).low ≠ (at_ n ns f).high := by rw [at_ge h hf]; exact w.ne _ _
      apply hne
      have h1 := w.lt_low h hf
      have h2 := w.lt_high h hf
      refine ih _ _ (by omega) (by omega) (w.ref_low hf) (w.ref_high hf) fun a => ?_
      rw [← eval_low w h hf, ← eval_high w h hf, he, he, eval_upd w hg hlt, eval_upd w hg hlt]
    intro f g hfs hgs hf hg he
    rcases Nat.lt_or_ge f 2 with h | h
    · rcases Nat.lt_or_ge g 2 with h' | h'
      · have e := he (fun _ => false)
        have h1 : f = 0 ∨ f = 1 := by omega
        have h2 : g = 0 ∨ g = 1 := by omega
        rcases h1 with rfl | rfl <;> rcases h2 with rfl | rfl <;> simp [eval_zero, eval_one] at e ⊢
      · exact absurd (key g f hgs hg hf (fun a => (he a).symm) h' (by rw [tv_lt h]; exact w.tv_var h' hg)) id
    · rcases Nat.lt_or_ge g 2 with h' | h'
      · exact absurd (key f g hfs hf hg he h (by rw [tv_lt h']; exact w.tv_var h hf)) id
      · rcases Nat.lt_trichotomy (tv n ns f) (tv n ns g) with h3 | h3 | h3
        · exact absurd (key f g hfs hf hg he h h3) id
        · have h1 := w.lt_low h hf
          have h2 := w.lt_high h hf
          have h1' := w.lt_low h' hg
          have h2' := w.lt_high h' hg
          have el : (at_ n ns f).low = (at_ n ns g).low := ih _ _ (by omega) (by omega) (w.ref_low hf) (w.ref_low hg) fun a => by
            rw [← eval_low w h hf, ← eval_low w h' hg, he, h3]
          have eh : (at_ n ns f).high = (at_ n ns g).high := ih _ _ (by omega) (by omega) (w.ref_high hf) (w.ref_high hg) fun a => by
            rw [← eval_high w h hf, ← eval_high w h' hg, he, h3]
          have ev : (at_ n ns f).v = (at_ n ns g).v := h3
          have e : at_ n ns f = at_ n ns g := by
            cases hx : at_ n ns f; cases hy : at_ n ns g
            rw [hx, hy] at el eh ev
            simp at el eh ev
            simp [el, eh, ev]
          rw [at_ge h hf, at_ge h' hg] at e
          have := (List.getElem_inj w.nodup).1 e
          omega
        · exact absurd (key g f hgs hg hf (fun a => (he a).symm) h' h3) id
theorem canon (w : Wf n ns) {f g : Nat} (hf : Ref ns f) (hg : Ref ns g) (he : ∀ a, eval ns a f = eval ns a g) : f = g :=
  canon_aux w (f + g + 1) f g (by omega) (by omega) hf hg he
/-- It depends on its first variable. -/
theorem dep_top (w : Wf n ns) {f : Nat} (h : 2 ≤ f) (hf : Ref ns f) : ∃ a, eval ns (upd a (tv n ns f) false) f ≠ eval ns (upd a (tv n ns f) true) f := by
  rcases Classical.em (∃ a, eval ns (upd a (tv n ns f) false) f ≠ eval ns (upd a (tv n ns f) true) f) with h1 | h1
  · exact h1
  exfalso
  have hne : (at_ n ns f).low ≠ (at_ n ns f).high := by rw [at_ge h hf]; exact w.ne _ _
  refine hne (canon w (w.ref_low hf) (w.ref_high hf) fun a => ?_)
  rw [← eval_low w h hf, ← eval_high w h hf]
  rcases Classical.em (eval ns (upd a (tv n ns f) false) f = eval ns (upd a (tv n ns f) true) f) with h2 | h2
  · exact h2
  · exact absurd ⟨a, h2⟩ h1
/-- What does not depend on the variables before v has its first one from v on. -/
theorem tv_ge (w : Wf n ns) {f v : Nat} (hf : Ref ns f) (hv : v ≤ n) (hd : ∀ a b : Nat → Bool, (∀ i, v ≤ i → a i = b i) → eval ns a f = eval ns b f) : v ≤ tv n ns f := by
  rcases Nat.lt_or_ge f 2 with h | h
  · rw [tv_lt h]; exact hv
  rcases Nat.lt_or_ge (tv n ns f) v with h1 | h1
  · obtain ⟨a, ha⟩ := dep_top w h hf
    exact absurd (hd _ _ fun i hi => by rw [upd_ne (by omega), upd_ne (by omega)]) ha
  · exact h1
/-! ### More nodes -/
theorem at_app {ms : Ns} {f : Nat} (hf : Ref ns f) : at_ n (ns ++ ms) f = at_ n ns f := by
  rcases Nat.lt_or_ge f 2 with h | h
  · rw [at_lt h, at_lt h]
  · have hf' : Ref (ns ++ ms) f := by unfold Ref at *; simp; omega
    rw [at_ge h hf, at_ge h hf', List.getElem_append_left]
theorem tv_app {ms : Ns} {f : Nat} (hf : Ref ns f) : tv n (ns ++ ms) f = tv n ns f := by rw [tv, tv, at_app hf]
theorem Ref.app {ms : Ns} {f : Nat} (hf : Ref ns f) : Ref (ns ++ ms) f := by unfold Ref at *; simp; omega
theorem eval_app {ms : Ns} (w : Wf n ns) (w' : Wf n (ns ++ ms)) (a : Nat → Bool) : ∀ {f : Nat}, Ref ns f → eval (ns ++ ms) a f = eval ns a f := by
  intro f
  induction f using Nat.strongRecOn with
  | ind f ih =>
    intro hf
    rcases Nat.lt_or_ge f 2 with h | h
    · have : f = 0 ∨ f = 1 := by omega
      rcases this with rfl | rfl
      · rw [eval_zero, eval_zero]
      · rw [eval_one, eval_one]
    · rw [eval_node w a h hf, eval_node w' a h hf.app, at_app hf, ih _ (w.lt_high h hf) (w.ref_high hf), ih _ (w.lt_low h hf) (w.ref_low hf)]
end
/-- More nodes than before. -/
structure Ext (n : Nat) (ns ns' : Ns) : Prop where
  pre : ∃ ms, ns' = ns ++ ms
  wf : Wf n ns'
section
variable {n : Nat} {ns ns' ns2 : Ns}
theorem Ext.refl (w : Wf n ns) : Ext n ns ns := ⟨⟨[], by simp⟩, w⟩
theorem Ext.trans (h : Ext n ns ns') (k : Ext n ns' ns2) : Ext n ns ns2 := by
  obtain ⟨⟨ms, rfl⟩, _⟩ := h
  obtain ⟨⟨ms', rfl⟩, w⟩ := k
  exact ⟨⟨ms ++ ms', by simp⟩, w⟩
theorem Ext.ref (h : Ext n ns ns') {f : Nat} (hf : Ref ns f) : Ref ns' f := by
  obtain ⟨⟨ms, rfl⟩, _⟩ := h; exact hf.app
theorem Ext.eval (h : Ext n ns ns') (w : Wf n ns) (a : Nat → Bool) {f : Nat} (hf : Ref ns f) : Bd.eval ns' a f = Bd.eval ns a f := by
  obtain ⟨⟨ms, rfl⟩, w'⟩ := h; exact eval_app w w' a hf
theorem Ext.at (h : Ext n ns ns') {f : Nat} (hf : Ref ns f) : at_ n ns' f = at_ n ns f := by
  obtain ⟨⟨ms, rfl⟩, _⟩ := h; exact at_app hf
theorem Ext.tv (h : Ext n ns ns') {f : Nat} (hf : Ref ns f) : Bd.tv n ns' f = Bd.tv n ns f := by
  obtain ⟨⟨ms, rfl⟩, _⟩ := h; exact tv_app hf
theorem Ext.len (h : Ext n ns ns') : ns.length ≤ ns'.length := by
  obtain ⟨⟨ms, rfl⟩, _⟩ := h; simp
/-- A new node. -/
theorem Wf.snoc (w : Wf n ns) {v l h : Nat} (hv : v < n) (hne : l ≠ h) (hl : Ref ns l) (hh : Ref ns h) (ol : v < Bd.tv n ns l) (oh : v < Bd.tv n ns h) (hx : (⟨v, l, h⟩ : Nd) ∉ ns) : Wf n (ns ++ [⟨v, l, h⟩]) := by
  have split : ∀ k (hk : k < (ns ++ [(⟨v, l, h⟩ : Nd)]).length), (∃ hk' : k < ns.length, (ns ++ [(⟨v, l, h⟩ : Nd)])[k] = ns[k]) ∨ (k = ns.length ∧ (ns ++ [(⟨v, l, h⟩ : Nd)])[k] = ⟨v, l, h⟩) := by
    intro k hk
    rcases Nat.lt_or_ge k ns.length with h1 | h1
    · exact .inl ⟨h1, by rw [List.getElem_append_left]⟩
    · have : k = ns.length := by simp at hk; omega
      subst this
      exact .inr ⟨rfl, by simp⟩
  have rl : ∀ k (hk : k < ns.length), Ref ns ns[k].low := fun k hk => by have := w.low k hk; unfold Ref; omega
  have rh : ∀ k (hk : k < ns.length), Ref ns ns[k].high := fun k hk => by have := w.high k hk; unfold Ref; omega
  refine ⟨?_, ?_, ?_, ?_, ?_, ?_, ?_⟩
  · intro k hk
    rcases split k hk with ⟨hk', e⟩ | ⟨_, e⟩ <;> rw [e]
    · exact w.var k hk'
    · exact hv
  · intro k hk
    rcases split k hk with ⟨hk', e⟩ | ⟨_, e⟩ <;> rw [e]
    · exact w.ne k hk'
    · exact hne
  · intro k hk
    rcases split k hk with ⟨hk', e⟩ | ⟨rfl, e⟩ <;> rw [e]
    · exact w.low k hk'
    · exact hl
  · intro k hk
    rcases split k hk with ⟨hk', e⟩ | ⟨rfl, e⟩ <;> rw [e]
    · exact w.high k hk'
    · exact hh
  · intro k hk
    rcases split k hk with ⟨hk', e⟩ | ⟨_, e⟩ <;> rw [e]
    · rw [tv_app (rl k hk')]; exact w.ordl k hk'
    · rw [tv_app hl]; exact ol
  · intro k hk
    rcases split k hk with ⟨hk', e⟩ | ⟨_, e⟩ <;> rw [e]
    · rw [tv_app (rh k hk')]; exact w.ordh k hk'
    · rw [tv_app hh]; exact oh
  · rw [List.nodup_append]
    refine ⟨w.nodup, by simp, fun a ha b hb => ?_⟩
    simp at hb
    subst hb
    exact fun e => hx (e ▸ ha)
end
end Go.Bd
