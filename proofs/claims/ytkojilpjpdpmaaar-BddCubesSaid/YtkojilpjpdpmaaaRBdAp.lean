/- the recursion of apply, plainly -/
import Derived.Test.YtkojilpjpdpmaaaRBdOps
set_option linter.unusedVariables false
set_option linter.unusedSimpArgs false
namespace Go.Bd
section
variable {n cap op : Nat} {S : Nat → Nat → Prop} {ns ns1 ns2 : Ns} {M M1 M2 : Mem2} {p q : Nat}
structure ApPre (n op : Nat) (S : Nat → Nat → Prop) (ns : Ns) (M : Mem2) (p q v : Nat) : Prop where
  w : Wf n ns
  rp : Ref ns p
  rq : Ref ns q
  ev : v = min (tv n ns p) (tv n ns q)
  vn : v < n
  s : S p q
  nokey : ∀ x ∈ M, x.1 ≠ (p, q)
  cp : Cof n ns v p (lo n ns v p) (hi n ns v p)
  cq : Cof n ns v q (lo n ns v q) (hi n ns v q)
theorem ApPre.mk' (w : Wf n ns) (rp : Ref ns p) (rq : Ref ns q) (s : S p q) (hpq : p ≤ q) (hs : (sh op p q).2 = false) (nokey : ∀ x ∈ M, x.1 ≠ (p, q)) : ApPre n op S ns M p q (min (tv n ns p) (tv n ns q)) := by
  have h2 : 2 ≤ q := sh_no (r := (sh op p q).1) (by rw [← hs]) hpq
  have hv : min (tv n ns p) (tv n ns q) < n := by have := w.tv_var h2 rq; omega
  exact ⟨w, rp, rq, rfl, hv, s, nokey, cof_of w rp (by omega) hv, cof_of w rq (by omega) hv⟩
theorem ap_low {v : Nat} (h : ApPre n op S ns M p q v) (hl : ApOk n cap op S ns M (lo n ns v p) (lo n ns v q) none ns1 M1) : ApOk n cap op S ns M p q none ns1 M1 := by
  refine ⟨hl.ext, hl.lim, hl.mem, fun x hx => (by cases hx), hl.grow, fun x hx => ?_, fun _ => hl.full rfl⟩
  rcases hl.sub x hx with h1 | ⟨h1, h2⟩
  · exact .inl h1
  · have := h.cp.tl; have := h.cq.tl
    exact .inr ⟨h1, by rw [← h.ev]; omega⟩
/-- Behind both halves. -/
structure ApMid (n cap op : Nat) (S : Nat → Nat → Prop) (ns : Ns) (M : Mem2) (v : Nat) (ns2 : Ns) (M2 : Mem2) : Prop where
  ext : Ext n ns ns2
  lim : ns2.length ≤ cap
  mem : MemOk op ns2 M2
  grow : ns2.length + M.length ≤ ns.length + M2.length
  sub : ∀ q ∈ M2, (∃ q' ∈ M, q'.1 = q.1) ∨ (S q.1.1 q.1.2 ∧ v + 1 ≤ min (tv n ns2 q.1.1) (tv n ns2 q.1.2))
theorem ap_mid {v : Nat} {l : Nat} {r : Option Nat} (h : ApPre n op S ns M p q v) (hl : ApOk n cap op S ns M (lo n ns v p) (lo n ns v q) (some l) ns1 M1) (hh : ApOk n cap op S ns1 M1 (hi n ns1 v p) (hi n ns1 v q) r ns2 M2) : ApMid n cap op S ns M v ns2 M2 := by
  refine ⟨hl.ext.trans hh.ext, hh.lim, hh.mem, ?_, fun x hx => ?_⟩
  · have := hl.grow; have := hh.grow; omega
  · rcases hh.sub x hx with ⟨y, hy, e⟩ | ⟨h1, h2⟩
    · rcases hl.sub y hy with ⟨z, hz, e2⟩ | ⟨h3, h4⟩
      · exact .inl ⟨z, hz, e2.trans e⟩
      · have := h.cp.tl; have := h.cq.tl
        obtain ⟨r1, r2, _⟩ := hl.mem y hy
        refine .inr ⟨by rw [← e]; exact h3, ?_⟩
        rw [← e, hh.ext.tv r1, hh.ext.tv r2]; omega
    · rw [hi_ext hl.ext h.rp, hi_ext hl.ext h.rq, hl.ext.tv h.cp.rh, hl.ext.tv h.cq.rh] at h2
      have := h.cp.th; have := h.cq.th
      exact .inr ⟨h1, by omega⟩
theorem ap_high {v : Nat} {l : Nat} (h : ApPre n op S ns M p q v) (hl : ApOk n cap op S ns M (lo n ns v p) (lo n ns v q) (some l) ns1 M1) (hh : ApOk n cap op S ns1 M1 (hi n ns1 v p) (hi n ns1 v q) none ns2 M2) : ApOk n cap op S ns M p q none ns2 M2 := by
  obtain ⟨m1, m2, m3, m4, m5⟩ := ap_mid h hl hh
  refine ⟨m1, m2, m3, fun x hx => (by cases hx), m4, fun x hx => ?_, fun _ => hh.full rfl⟩
  rcases m5 x hx with h1 | ⟨h1, h2⟩
  · exact .inl h1
  · exact .inr ⟨h1, by rw [← h.ev]; omega⟩
theorem mid_nokey {v : Nat} (h : ApPre n op S ns M p q v) (hm : ApMid n cap op S ns M v ns2 M2) : ∀ x ∈ M2, x.1 ≠ (p, q) := fun x hx e => by
  rcases hm.sub x hx with ⟨y, hy, e2⟩ | ⟨_, h2⟩
  · exact h.nokey y hy (e2.trans e)
  · have e1 : x.1.1 = p := by rw [e]
    have e2 : x.1.2 = q := by rw [e]
    rw [e1, e2, hm.ext.tv h.rp, hm.ext.tv h.rq, ← h.ev] at h2
    omega
/-- The node of two halves. -/
theorem ap_make {v l hgh : Nat} (h : ApPre n op S ns M p q v) (hl : ApOk n cap op S ns M (lo n ns v p) (lo n ns v q) (some l) ns1 M1) (hh : ApOk n cap op S ns1 M1 (hi n ns1 v p) (hi n ns1 v q) (some hgh) ns2 M2) :
    Ref ns2 l ∧ Ref ns2 hgh ∧ v < tv n ns2 l ∧ v < tv n ns2 hgh ∧ ∀ a, (if a v then eval ns2 a hgh else eval ns2 a l) = opB op (eval ns2 a p) (eval ns2 a q) := by
  obtain ⟨rl, el⟩ := hl.ok l rfl
  obtain ⟨rh, eh⟩ := hh.ok hgh rfl
  have w1 := hl.ext.wf
  have w2 := hh.ext.wf
  have el2 : ∀ a, eval ns2 a l = opB op (eval ns a (lo n ns v p)) (eval ns a (lo n ns v q)) := fun a => by
    rw [hh.ext.eval w1 a rl, el]
  have eh2 : ∀ a, eval ns2 a hgh = opB op (eval ns a (hi n ns v p)) (eval ns a (hi n ns v q)) := fun a => by
    rw [eh, hi_ext hl.ext h.rp, hi_ext hl.ext h.rq, hl.ext.eval h.w a h.cp.rh, hl.ext.eval h.w a h.cq.rh]
  have rl2 := hh.ext.ref rl
  refine ⟨rl2, rh, ?_, ?_, fun a => ?_⟩
  · have := h.cp.tl; have := h.cq.tl; have := h.vn
    exact tv_ge w2 rl2 (by omega) fun a b hab => by
      rw [el2, el2, eval_congr h.w h.cp.rl (fun i hi => hab i (by omega)), eval_congr h.w h.cq.rl (fun i hi => hab i (by omega))]
  · have := h.cp.th; have := h.cq.th; have := h.vn
    exact tv_ge w2 rh (by omega) fun a b hab => by
      rw [eh2, eh2, eval_congr h.w h.cp.rh (fun i hi => hab i (by omega)), eval_congr h.w h.cq.rh (fun i hi => hab i (by omega))]
  · have e := hl.ext.trans hh.ext
    rw [e.eval h.w a h.rp, e.eval h.w a h.rq, el2, eh2, h.cp.ev a, h.cq.ev a]
    split <;> rfl
theorem ap_full {v l hgh : Nat} (h : ApPre n op S ns M p q v) (hl : ApOk n cap op S ns M (lo n ns v p) (lo n ns v q) (some l) ns1 M1) (hh : ApOk n cap op S ns1 M1 (hi n ns1 v p) (hi n ns1 v q) (some hgh) ns2 M2)
    (hk : (mkF cap ns2 v l hgh).1 = none) : ApOk n cap op S ns M p q none (mkF cap ns2 v l hgh).2 M2 := by
  have hm := ap_mid h hl hh
  obtain ⟨a1, a2, a3, a4, a5⟩ := ap_make h hl hh
  have mk := mkF_ok (lim := cap) hm.ext.wf h.vn a1 a2 a3 a4
  obtain ⟨f1, f2⟩ := mk.full hk
  rw [f2]
  refine ⟨hm.ext, hm.lim, hm.mem, fun x hx => (by cases hx), hm.grow, fun x hx => ?_, fun _ => ⟨f1, p, q, h.s, mid_nokey h hm⟩⟩
  rcases hm.sub x hx with h1 | ⟨h1, h2⟩
  · exact .inl h1
  · exact .inr ⟨h1, by rw [← h.ev]; omega⟩
theorem ap_done {v l hgh x : Nat} (h : ApPre n op S ns M p q v) (hl : ApOk n cap op S ns M (lo n ns v p) (lo n ns v q) (some l) ns1 M1) (hh : ApOk n cap op S ns1 M1 (hi n ns1 v p) (hi n ns1 v q) (some hgh) ns2 M2)
    (hk : (mkF cap ns2 v l hgh).1 = some x) : ApOk n cap op S ns M p q (some x) (mkF cap ns2 v l hgh).2 (M2 ++ [((p, q), x)]) := by
  have hm := ap_mid h hl hh
  obtain ⟨a1, a2, a3, a4, a5⟩ := ap_make h hl hh
  have mk := mkF_ok (lim := cap) hm.ext.wf h.vn a1 a2 a3 a4
  obtain ⟨rx, tx, ex⟩ := mk.ok x hk
  have w2 := hm.ext.wf
  have e3 := hm.ext.trans mk.ext
  have hx : ∀ a, eval (mkF cap ns2 v l hgh).2 a x = opB op (eval (mkF cap ns2 v l hgh).2 a p) (eval (mkF cap ns2 v l hgh).2 a q) := fun a => by
    rw [ex a, mk.ext.eval w2 a a2, mk.ext.eval w2 a a1, a5 a, mk.ext.eval w2 a (hm.ext.ref h.rp), mk.ext.eval w2 a (hm.ext.ref h.rq)]
  refine ⟨e3, mk.lim hm.lim, fun y hy => ?_, fun y hy => ?_, ?_, fun y hy => ?_, fun hn => by cases hn⟩
  · rcases List.mem_append.1 hy with h1 | h1
    · exact (hm.mem.ext w2 mk.ext) y h1
    · simp at h1; subst h1
      exact ⟨e3.ref h.rp, e3.ref h.rq, rx, hx⟩
  · simp only [Option.some.injEq] at hy
    subst hy
    exact ⟨rx, fun a => by rw [hx a, e3.eval h.w a h.rp, e3.eval h.w a h.rq]⟩
  · have := hm.grow; have := mk.len
    simp; omega
  · rcases List.mem_append.1 hy with h1 | h1
    · rcases hm.sub y h1 with h2 | ⟨h2, h3⟩
      · exact .inl h2
      · obtain ⟨r1, r2, _⟩ := hm.mem y h1
        exact .inr ⟨h2, by rw [mk.ext.tv r1, mk.ext.tv r2, ← h.ev]; omega⟩
    · simp at h1; subst h1
      exact .inr ⟨h.s, by rw [e3.tv h.rp, e3.tv h.rq]; exact Nat.le_refl _⟩
/-- Without a look at the nodes. -/
theorem ap_short {r : Nat} (w : Wf n ns) (hlim : ns.length ≤ cap) (rp : Ref ns p) (rq : Ref ns q) (hM : MemOk op ns M) (hs : sh op p q = (r, true)) : ApOk n cap op S ns M p q (some r) ns M := by
  obtain ⟨h1, h2⟩ := sh_ok hs rp rq
  exact ⟨Ext.refl w, hlim, hM, fun x hx => by simp only [Option.some.injEq] at hx; subst hx; exact ⟨h1, h2⟩, Nat.le_refl _, fun x hx => .inl ⟨x, hx, rfl⟩, fun h => by cases h⟩
theorem ap_known {r : Nat} (w : Wf n ns) (hlim : ns.length ≤ cap) (hM : MemOk op ns M) (hk : ((p, q), r) ∈ M) : ApOk n cap op S ns M p q (some r) ns M := by
  obtain ⟨_, _, h1, h2⟩ := hM _ hk
  exact ⟨Ext.refl w, hlim, hM, fun x hx => by simp only [Option.some.injEq] at hx; subst hx; exact ⟨h1, h2⟩, Nat.le_refl _, fun x hx => .inl ⟨x, hx, rfl⟩, fun h => by cases h⟩
end
end Go.Bd
namespace Go.Bd
/-- An operation on two functions, as the caller sees it. -/
structure BinOk (n cap op : Nat) (S : Nat → Nat → Prop) (ns : Ns) (f g : Nat) (r : Option Nat) (ns' : Ns) : Prop where
  ext : Ext n ns ns'
  lim : ns'.length ≤ cap
  ok : ∀ x, r = some x → Ref ns' x ∧ ∀ a, eval ns' a x = opB op (eval ns a f) (eval ns a g)
  cnt : ∀ L : List (Nat × Nat), (∀ x y, S x y → (x, y) ∈ L) → ns'.length ≤ ns.length + L.length ∧ (r = none → cap < ns.length + L.length)
theorem bin_of_ap {n cap op : Nat} {S : Nat → Nat → Prop} {ns ns' : Ns} {M' : Mem2} {f g : Nat} {r : Option Nat} (h : ApOk n cap op S ns [] f g r ns' M') (hn : (M'.map (·.1)).Nodup) : BinOk n cap op S ns f g r ns' := by
  refine ⟨h.ext, h.lim, h.ok, fun L hL => ?_⟩
  have hsub : ∀ x ∈ M'.map (·.1), x ∈ L := fun x hx => by
    obtain ⟨q, hq, rfl⟩ := List.mem_map.1 hx
    rcases h.sub q hq with ⟨q', hq', _⟩ | ⟨h1, _⟩
    · cases hq'
    · exact hL _ _ h1
  have hg := h.grow
  simp at hg
  have hlen := nodup_len _ L hn hsub
  simp at hlen
  refine ⟨by omega, fun hr => ?_⟩
  obtain ⟨h1, x, y, h2, h3⟩ := h.full hr
  have hcons : ((x, y) :: M'.map (·.1)).Nodup := by
    rw [List.nodup_cons]
    refine ⟨fun hm => ?_, hn⟩
    obtain ⟨q, hq, e⟩ := List.mem_map.1 hm
    exact h3 q hq e
  have := nodup_len _ L hcons (fun z hz => by
    rcases List.mem_cons.1 hz with rfl | hz
    · exact hL _ _ h2
    · exact hsub z hz)
  simp at this
  omega
end Go.Bd
