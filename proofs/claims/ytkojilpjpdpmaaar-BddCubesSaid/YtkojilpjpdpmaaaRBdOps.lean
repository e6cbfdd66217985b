/- plain operations on diagrams -/
import Derived.Test.YtkojilpjpdpmaaaRBdPlain
set_option linter.unusedVariables false
set_option linter.unusedSimpArgs false
namespace Go.Bd
def opB (op : Nat) (x y : Bool) : Bool := if op = 0 then x && y else if op = 1 then x || y else x != y
theorem opB_comm (op : Nat) (x y : Bool) : opB op x y = opB op y x := by
  unfold opB; split
  · cases x <;> cases y <;> rfl
  · split <;> cases x <;> cases y <;> rfl
def sh (op f g : Nat) : Nat × Bool :=
  if op = 0 then (if f = 0 ∨ g = 0 then (0, true) else if f = 1 ∨ f = g then (g, true) else (f, decide (g = 1)))
  else if op = 1 then (if f = 1 ∨ g = 1 then (1, true) else if f = 0 ∨ f = g then (g, true) else (f, decide (g = 0)))
  else if f = g then (0, true) else if f = 0 then (g, true) else (f, decide (g = 0))
def lo (n : Nat) (ns : Ns) (v x : Nat) : Nat := if v < tv n ns x then x else (at_ n ns x).low
def hi (n : Nat) (ns : Ns) (v x : Nat) : Nat := if v < tv n ns x then x else (at_ n ns x).high
theorem Ref.zero (ns : Ns) : Ref ns 0 := by unfold Ref; omega
theorem Ref.one (ns : Ns) : Ref ns 1 := by unfold Ref; omega
section
variable {n : Nat} {ns : Ns}
theorem sh_ok {op f g r : Nat} (h : sh op f g = (r, true)) (hf : Ref ns f) (hg : Ref ns g) : Ref ns r ∧ ∀ a, eval ns a r = opB op (eval ns a f) (eval ns a g) := by
  unfold sh at h
  unfold opB
  split at h
  · rename_i h0
    simp only [h0, if_true]
    split at h
    · rename_i h1
      cases h
      refine ⟨Ref.zero ns, fun a => ?_⟩
      rcases h1 with rfl | rfl <;> simp [eval_zero]
    · split at h
      · rename_i h1
        cases h
        refine ⟨hg, fun a => ?_⟩
        rcases h1 with rfl | rfl <;> simp [eval_one]
      · simp only [Prod.mk.injEq, decide_eq_true_eq] at h
        obtain ⟨rfl, rfl⟩ := h
        exact ⟨hf, fun a => by simp [eval_one]⟩
  · rename_i h0
    simp only [h0, if_false]
    split at h
    · rename_i h1
      simp only [h1, if_true]
      split at h
      · rename_i h1
        cases h
        refine ⟨Ref.one ns, fun a => ?_⟩
        rcases h1 with rfl | rfl <;> simp [eval_one]
      · split at h
        · rename_i h1
          cases h
          refine ⟨hg, fun a => ?_⟩
          rcases h1 with rfl | rfl <;> simp [eval_zero]
        · simp only [Prod.mk.injEq, decide_eq_true_eq] at h
          obtain ⟨rfl, rfl⟩ := h
          exact ⟨hf, fun a => by simp [eval_zero]⟩
    · rename_i h1
      simp only [h1, if_false]
      split at h
      · rename_i h1
        cases h
        subst h1
        exact ⟨Ref.zero ns, fun a => by simp [eval_zero]⟩
      · split at h
        · rename_i h1
          cases h
          subst h1
          exact ⟨hg, fun a => by simp [eval_zero]⟩
        · simp only [Prod.mk.injEq, decide_eq_true_eq] at h
          obtain ⟨rfl, rfl⟩ := h
          exact ⟨hf, fun a => by simp [eval_zero]⟩
theorem sh_no {op f g r : Nat} (h : sh op f g = (r, false)) (hfg : f ≤ g) : 2 ≤ g := by
  unfold sh at h
  split at h
  · split at h
    · cases h
    · split at h
      · cases h
      · have : ¬ g = 1 := by simpa using congrArg Prod.snd h
        omega
  · split at h
    · split at h
      · cases h
      · split at h
        · cases h
        · have : ¬ g = 0 := by simpa using congrArg Prod.snd h
          omega
    · split at h
      · cases h
      · split at h
        · cases h
        · have : ¬ g = 0 := by simpa using congrArg Prod.snd h
          omega
theorem const_of_top (w : Wf n ns) {f : Nat} (hf : Ref ns f) (h : n ≤ tv n ns f) : f < 2 := by
  rcases Nat.lt_or_ge f 2 with h1 | h1
  · exact h1
  · have := w.tv_var h1 hf; omega
/-- The two halves of a function at a variable. -/
structure Cof (n : Nat) (ns : Ns) (v x l h : Nat) : Prop where
  rl : Ref ns l
  rh : Ref ns h
  tl : v < tv n ns l
  th : v < tv n ns h
  ev : ∀ a, eval ns a x = if a v then eval ns a h else eval ns a l
theorem cof_of (w : Wf n ns) {v x : Nat} (hx : Ref ns x) (hv : v ≤ tv n ns x) (hn : v < n) : Cof n ns v x (lo n ns v x) (hi n ns v x) := by
  unfold lo hi
  by_cases h : v < tv n ns x
  · simp only [h, if_true]
    exact ⟨hx, hx, h, h, fun a => by split <;> rfl⟩
  · simp only [h, if_false]
    have e : v = tv n ns x := by omega
    have h2 : 2 ≤ x := by
      rcases Nat.lt_or_ge x 2 with h1 | h1
      · rw [tv_lt h1] at e; omega
      · exact h1
    exact ⟨w.ref_low hx, w.ref_high hx, by rw [e]; exact w.tv_low h2 hx, by rw [e]; exact w.tv_high h2 hx, fun a => by rw [e]; exact eval_node w a h2 hx⟩
end
/-- What the manager's make answers: the reference (none: full) and the nodes. -/
def mkF (lim : Nat) (ns : Ns) (v l h : Nat) : Option Nat × Ns :=
  if l = h then (some l, ns) else
  match ns.findIdx? fun d => decide (d = ⟨v, l, h⟩) with
  | some k => (some (k + 2), ns)
  | none => if lim ≤ ns.length then (none, ns) else (some (ns.length + 2), ns ++ [⟨v, l, h⟩])
structure MkOk (n cap : Nat) (ns : Ns) (v l h : Nat) (r : Option Nat) (ns' : Ns) : Prop where
  ext : Ext n ns ns'
  len : ns'.length ≤ ns.length + 1
  lim : ns.length ≤ cap → ns'.length ≤ cap
  ok : ∀ x, r = some x → Ref ns' x ∧ v ≤ tv n ns' x ∧ ∀ a, eval ns' a x = if a v then eval ns' a h else eval ns' a l
  full : r = none → cap ≤ ns.length ∧ ns' = ns
theorem mkF_ok {n lim : Nat} {ns : Ns} (w : Wf n ns) {v l h : Nat} (hv : v < n) (hl : Ref ns l) (hh : Ref ns h) (tl : v < tv n ns l) (th : v < tv n ns h) : MkOk n lim ns v l h (mkF lim ns v l h).1 (mkF lim ns v l h).2 := by
  unfold mkF
  by_cases hlh : l = h
  · simp only [hlh, if_true]
    refine ⟨Ext.refl w, by omega, fun h => h, fun x hx => ?_, by simp⟩
    simp only [Option.some.injEq] at hx
    subst hx
    exact ⟨hh, by omega, fun a => by split <;> rfl⟩
  · simp only [hlh, if_false]
    cases hf : ns.findIdx? fun d => decide (d = ⟨v, l, h⟩) with
    | some k =>
      rw [List.findIdx?_eq_some_iff_getElem] at hf
      obtain ⟨hk, he, _⟩ := hf
      have he : ns[k] = ⟨v, l, h⟩ := by simpa using he
      refine ⟨Ext.refl w, by simp, fun h => h, fun x hx => ?_, by simp⟩
      simp only [Option.some.injEq] at hx
      subst hx
      have hr : Ref ns (k + 2) := by unfold Ref; omega
      have hat : at_ n ns (k + 2) = ⟨v, l, h⟩ := by rw [at_ge (by omega) hr]; simpa using he
      refine ⟨hr, by rw [tv, hat]; exact Nat.le_refl _, fun a => ?_⟩
      rw [eval_node w a (by omega) hr, hat]
    | none =>
      rw [List.findIdx?_eq_none_iff] at hf
      have hx : (⟨v, l, h⟩ : Nd) ∉ ns := fun hm => by simpa using hf _ hm
      by_cases hlim : lim ≤ ns.length
      · simp only [hlim, if_true]
        exact ⟨Ext.refl w, by omega, fun h => h, fun x hx => by simp at hx, fun _ => ⟨hlim, rfl⟩⟩
      · simp only [hlim, if_false]
        have w' := w.snoc hv hlh hl hh tl th hx
        refine ⟨⟨⟨_, rfl⟩, w'⟩, by simp, fun _ => by simp; omega, fun x hx => ?_, by simp⟩
        simp only [Option.some.injEq] at hx
        subst hx
        have hr : Ref (ns ++ [(⟨v, l, h⟩ : Nd)]) (ns.length + 2) := by unfold Ref; simp
        have hat : at_ n (ns ++ [(⟨v, l, h⟩ : Nd)]) (ns.length + 2) = ⟨v, l, h⟩ := by rw [at_ge (by omega) hr]; simp
        refine ⟨hr, by rw [tv, hat]; exact Nat.le_refl _, fun a => ?_⟩
        rw [eval_node w' a (by omega) hr, hat]
theorem nodup_len {α : Type} [DecidableEq α] : ∀ (xs ys : List α), xs.Nodup → (∀ x ∈ xs, x ∈ ys) → xs.length ≤ ys.length
  | [], ys, _, _ => by simp
  | x :: xs, ys, hn, hs => by
    rw [List.nodup_cons] at hn
    have hx : x ∈ ys := hs x (by simp)
    have := nodup_len xs (ys.erase x) hn.2 (fun y hy => by
      have hne : y ≠ x := fun e => hn.1 (e ▸ hy)
      exact (List.mem_erase_of_ne hne).2 (hs y (by simp [hy])))
    rw [List.length_erase_of_mem hx] at this
    have : 0 < ys.length := List.length_pos_of_mem hx
    simp; omega
/-! ### What apply does -/
abbrev Mem2 := List ((Nat × Nat) × Nat)
def MemOk (op : Nat) (ns : Ns) (M : Mem2) : Prop := ∀ q ∈ M, Ref ns q.1.1 ∧ Ref ns q.1.2 ∧ Ref ns q.2 ∧ ∀ a, eval ns a q.2 = opB op (eval ns a q.1.1) (eval ns a q.1.2)
theorem MemOk.ext {n op : Nat} {ns ns' : Ns} {M : Mem2} (h : MemOk op ns M) (w : Wf n ns) (hx : Ext n ns ns') : MemOk op ns' M := fun q hq => by
  obtain ⟨h1, h2, h3, h4⟩ := h q hq
  exact ⟨hx.ref h1, hx.ref h2, hx.ref h3, fun a => by rw [hx.eval w a h1, hx.eval w a h2, hx.eval w a h3, h4]⟩
theorem mem_small {ns : Ns} {M : Mem2} {N : Nat} (hN : ns.length + 2 ≤ N) (hr : ∀ q ∈ M, Ref ns q.1.1 ∧ Ref ns q.1.2) (hn : (M.map (·.1)).Nodup) : M.length ≤ N * N := by
  have h1 : ((M.map (·.1)).map fun p => p.1 * N + p.2).Nodup := by
    rw [List.nodup_iff_pairwise_ne, List.pairwise_map]
    refine List.Pairwise.imp_of_mem ?_ (List.nodup_iff_pairwise_ne.1 hn)
    intro a b ha hb hab he
    obtain ⟨q, hq, rfl⟩ := List.mem_map.1 ha
    obtain ⟨q', hq', rfl⟩ := List.mem_map.1 hb
    obtain ⟨r1, r2⟩ := hr q hq
    obtain ⟨r3, r4⟩ := hr q' hq'
    unfold Ref at *
    apply hab
    have e2 : q.1.2 = q'.1.2 := by
      have := congrArg (· % N) he
      simp only [Nat.mul_add_mod_self_right] at this
      rwa [Nat.mod_eq_of_lt (by omega), Nat.mod_eq_of_lt (by omega)] at this
    have e1 : q.1.1 = q'.1.1 := by
      rw [e2] at he
      have h3 : q.1.1 * N = q'.1.1 * N := Nat.add_right_cancel he
      exact Nat.eq_of_mul_eq_mul_right (by omega) h3
    exact Prod.ext e1 e2
  have h2 := nodup_len _ (List.range (N * N)) h1 (fun x hx => by
    obtain ⟨p, hp, rfl⟩ := List.mem_map.1 hx
    obtain ⟨q, hq, rfl⟩ := List.mem_map.1 hp
    obtain ⟨r1, r2⟩ := hr q hq
    unfold Ref at *
    rw [List.mem_range]
    calc q.1.1 * N + q.1.2 < q.1.1 * N + N := by omega
      _ = (q.1.1 + 1) * N := by rw [Nat.add_mul]; omega
      _ ≤ N * N := Nat.mul_le_mul_right _ (by omega))
  simpa using h2
/-- A set of sorted pairs that need a look at the nodes, closed under the halves. -/
def Sn (op : Nat) (S : Nat → Nat → Prop) (x y : Nat) : Prop := (sh op (min x y) (max x y)).2 = true ∨ S (min x y) (max x y)
def Clo (n op : Nat) (ns : Ns) (S : Nat → Nat → Prop) : Prop := ∀ f g, S f g → Ref ns f ∧ Ref ns g ∧
  Sn op S (lo n ns (min (tv n ns f) (tv n ns g)) f) (lo n ns (min (tv n ns f) (tv n ns g)) g) ∧ Sn op S (hi n ns (min (tv n ns f) (tv n ns g)) f) (hi n ns (min (tv n ns f) (tv n ns g)) g)
theorem lo_ext {n : Nat} {ns ns' : Ns} (hx : Ext n ns ns') {v x : Nat} (h : Ref ns x) : lo n ns' v x = lo n ns v x := by unfold lo; rw [hx.tv h, hx.at h]
theorem hi_ext {n : Nat} {ns ns' : Ns} (hx : Ext n ns ns') {v x : Nat} (h : Ref ns x) : hi n ns' v x = hi n ns v x := by unfold hi; rw [hx.tv h, hx.at h]
theorem Clo.ext {n op : Nat} {ns ns' : Ns} {S : Nat → Nat → Prop} (h : Clo n op ns S) (hx : Ext n ns ns') : Clo n op ns' S := fun f g hS => by
  obtain ⟨h1, h2, h3, h4⟩ := h f g hS
  rw [hx.tv h1, hx.tv h2, lo_ext hx h1, lo_ext hx h2, hi_ext hx h1, hi_ext hx h2]
  exact ⟨hx.ref h1, hx.ref h2, h3, h4⟩
/-- The set of all pairs. -/
theorem clo_all {n op : Nat} {ns : Ns} (w : Wf n ns) : Clo n op ns (fun f g => Ref ns f ∧ Ref ns g) := fun f g ⟨hf, hg⟩ => by
  have rl : ∀ v x, Ref ns x → Ref ns (lo n ns v x) := fun v x hx => by
    unfold lo; split
    · exact hx
    · exact w.ref_low hx
  have rh : ∀ v x, Ref ns x → Ref ns (hi n ns v x) := fun v x hx => by
    unfold hi; split
    · exact hx
    · exact w.ref_high hx
  have key : ∀ x y, Ref ns x → Ref ns y → Sn op (fun f g => Ref ns f ∧ Ref ns g) x y := fun x y hx hy => by
    refine .inr ⟨?_, ?_⟩
    · rcases Nat.le_total x y with h | h
      · rw [Nat.min_eq_left h]; exact hx
      · rw [Nat.min_eq_right h]; exact hy
    · rcases Nat.le_total x y with h | h
      · rw [Nat.max_eq_right h]; exact hy
      · rw [Nat.max_eq_left h]; exact hx
  exact ⟨hf, hg, key _ _ (rl _ _ hf) (rl _ _ hg), key _ _ (rh _ _ hf) (rh _ _ hg)⟩
structure ApOk (n cap op : Nat) (S : Nat → Nat → Prop) (ns : Ns) (M : Mem2) (f g : Nat) (r : Option Nat) (ns' : Ns) (M' : Mem2) : Prop where
  ext : Ext n ns ns'
  lim : ns'.length ≤ cap
  mem : MemOk op ns' M'
  ok : ∀ x, r = some x → Ref ns' x ∧ ∀ a, eval ns' a x = opB op (eval ns a f) (eval ns a g)
  grow : ns'.length + M.length ≤ ns.length + M'.length
  sub : ∀ q ∈ M', (∃ q' ∈ M, q'.1 = q.1) ∨ (S q.1.1 q.1.2 ∧ min (tv n ns f) (tv n ns g) ≤ min (tv n ns' q.1.1) (tv n ns' q.1.2))
  full : r = none → cap ≤ ns'.length ∧ ∃ x y, S x y ∧ ∀ q ∈ M', q.1 ≠ (x, y)
theorem ApOk.swap {n cap op : Nat} {S : Nat → Nat → Prop} {ns ns' : Ns} {M M' : Mem2} {f g : Nat} {r : Option Nat} (h : ApOk n cap op S ns M f g r ns' M') : ApOk n cap op S ns M g f r ns' M' :=
  ⟨h.ext, h.lim, h.mem, fun x hx => ⟨(h.ok x hx).1, fun a => by rw [(h.ok x hx).2 a, opB_comm]⟩, h.grow, fun q hq => by
    rcases h.sub q hq with h1 | ⟨h1, h2⟩
    · exact .inl h1
    · exact .inr ⟨h1, by omega⟩, h.full⟩
end Go.Bd
