/-
  Parts of the proofs of this seat's statements (BdT, BdIt, BdPk, BdM); no conditions beyond those each theorem names.
-/
import Derived.Test.YtkojilpjpdpmaaaRBdR
section
set_option linter.unusedVariables false
set_option linter.unusedSimpArgs false
namespace Go.Bd
/-- The assignment of a number: variable 0 is the most significant bit. -/
def asg (n a : Nat) : Nat → Bool := fun v => decide (v < n) && a.testBit (n - 1 - v)
def Loc (n : Nat) (F : (Nat → Bool) → Bool) : Prop := ∀ a b : Nat → Bool, (∀ i, i < n → a i = b i) → F a = F b
def tab (n : Nat) (F : (Nat → Bool) → Bool) : List Bool := (List.range (2 ^ n)).map fun a => F (asg n a)
theorem tab_len (n : Nat) (F : (Nat → Bool) → Bool) : (tab n F).length = 2 ^ n := by simp [tab]
theorem tab_get {n a : Nat} {F : (Nat → Bool) → Bool} (h : a < 2 ^ n) : (tab n F)[a]? = some (F (asg n a)) := by simp [tab, h]
def rk : Nat → (Nat → Bool) → Nat
  | 0, _ => 0
  | n + 1, b => 2 * rk n b + (b n).toNat
theorem rk_lt : ∀ (n : Nat) (b : Nat → Bool), rk n b < 2 ^ n
  | 0, b => by simp [rk]
  | n + 1, b => by
    have := rk_lt n b
    rw [rk, Nat.pow_succ]
    cases b n <;> simp <;> omega
theorem asg_rk : ∀ (n : Nat) (b : Nat → Bool) (i : Nat), i < n → asg n (rk n b) i = b i
  | 0, b, i, h => by omega
  | n + 1, b, i, h => by
    have h0 : ∀ c : Bool, (2 * rk n b + c.toNat) / 2 = rk n b := fun c => by cases c <;> simp <;> omega
    have h1 : ∀ c : Bool, (2 * rk n b + c.toNat) % 2 = c.toNat := fun c => by cases c <;> simp <;> omega
    simp only [asg, h, decide_true, Bool.true_and, rk]
    by_cases hi : i = n
    · subst hi
      rw [show i + 1 - 1 - i = 0 by omega, Nat.testBit_zero, h1]
      cases b i <;> simp
    · rw [show n + 1 - 1 - i = (n - 1 - i) + 1 by omega, Nat.testBit_succ, h0]
      have := asg_rk n b i (by omega)
      simpa [asg, show i < n by omega] using this
theorem asg_ge {n a i : Nat} (h : n ≤ i) : asg n a i = false := by simp [asg, Nat.not_lt.2 h]
theorem asg_inj {n a b : Nat} (ha : a < 2 ^ n) (hb : b < 2 ^ n) (h : ∀ i, i < n → asg n a i = asg n b i) : a = b := by
  apply Nat.eq_of_testBit_eq
  intro j
  rcases Nat.lt_or_ge j n with hj | hj
  · have := h (n - 1 - j) (by omega)
    simp only [asg, show n - 1 - j < n by omega, decide_true, Bool.true_and] at this
    rwa [show n - 1 - (n - 1 - j) = j by omega] at this
  · rw [Nat.testBit_lt_two_pow (Nat.lt_of_lt_of_le ha (Nat.pow_le_pow_right (by omega) hj)), Nat.testBit_lt_two_pow (Nat.lt_of_lt_of_le hb (Nat.pow_le_pow_right (by omega) hj))]
theorem rk_asg {n a : Nat} (h : a < 2 ^ n) : rk n (asg n a) = a := asg_inj (rk_lt n _) h (asg_rk n _)
theorem Loc.asg {n : Nat} {F : (Nat → Bool) → Bool} (h : Loc n F) (b : Nat → Bool) : F (asg n (rk n b)) = F b := h _ _ fun i hi => asg_rk n b i hi
theorem tab_congr {n : Nat} {F G : (Nat → Bool) → Bool} (h : ∀ a, F a = G a) : tab n F = tab n G := by
  have : F = G := funext h
  rw [this]
theorem tab_inj {n : Nat} {F G : (Nat → Bool) → Bool} (hF : Loc n F) (hG : Loc n G) (h : tab n F = tab n G) (a : Nat → Bool) : F a = G a := by
  have := congrArg (·[rk n a]?) h
  simp only [tab_get (rk_lt n a), Option.some.injEq] at this
  rwa [hF.asg, hG.asg] at this
theorem eval_loc {n : Nat} {ns : Ns} (w : Wf n ns) : ∀ {f : Nat}, Ref ns f → Loc n (fun a => eval ns a f) := by
  intro f
  induction f using Nat.strongRecOn with
  | ind f ih =>
    intro hf a b hab
    rcases Nat.lt_or_ge f 2 with h | h
    · have : f = 0 ∨ f = 1 := by omega
      rcases this with rfl | rfl
      · show eval ns a 0 = eval ns b 0
        rw [eval_zero, eval_zero]
      · show eval ns a 1 = eval ns b 1
        rw [eval_one, eval_one]
    · show eval ns a f = eval ns b f
      rw [eval_node w a h hf, eval_node w b h hf, hab (at_ n ns f).v (w.tv_var h hf), show eval ns a (at_ n ns f).high = eval ns b (at_ n ns f).high from ih _ (w.lt_high h hf) (w.ref_high hf) a b hab,
        show eval ns a (at_ n ns f).low = eval ns b (at_ n ns f).low from ih _ (w.lt_low h hf) (w.ref_low hf) a b hab]
/-- A reference with the function that it means. -/
structure Mean (n : Nat) (ns : Ns) (f : Nat) (F : (Nat → Bool) → Bool) : Prop where
  ref : Ref ns f
  ev : ∀ a, eval ns a f = F a
theorem Mean.loc {n : Nat} {ns : Ns} {f : Nat} {F : (Nat → Bool) → Bool} (h : Mean n ns f F) (w : Wf n ns) : Loc n F := fun a b hab => by
  rw [← h.ev, ← h.ev]; exact eval_loc w h.ref a b hab
theorem Mean.ext {n : Nat} {ns ns' : Ns} {f : Nat} {F : (Nat → Bool) → Bool} (h : Mean n ns f F) (w : Wf n ns) (hx : Ext n ns ns') : Mean n ns' f F := ⟨hx.ref h.ref, fun a => by rw [hx.eval w a h.ref, h.ev]⟩
theorem Mean.eq_iff {n : Nat} {ns : Ns} {f g : Nat} {F G : (Nat → Bool) → Bool} (h : Mean n ns f F) (k : Mean n ns g G) (w : Wf n ns) : f = g ↔ tab n F = tab n G := by
  constructor
  · rintro rfl
    exact tab_congr fun a => by rw [← h.ev, ← k.ev]
  · intro e
    exact canon w h.ref k.ref fun a => by rw [h.ev, k.ev]; exact tab_inj (h.loc w) (k.loc w) e a
theorem Mean.zero (n : Nat) (ns : Ns) : Mean n ns 0 (fun _ => false) := ⟨Ref.zero ns, fun a => eval_zero ns a⟩
theorem Mean.one (n : Nat) (ns : Ns) : Mean n ns 1 (fun _ => true) := ⟨Ref.one ns, fun a => eval_one ns a⟩
/-! ### The operations of tables -/
def bitT (n a v : Nat) : Bool := decide (a / 2 ^ (n - 1 - v) % 2 = 1)
theorem bitT_eq {n a v : Nat} (h : v < n) : bitT n a v = asg n a v := by simp [bitT, asg, h, Nat.testBit_eq_decide_div_mod_eq]
def withT (n a v : Nat) (x : Bool) : Nat := a - (a &&& 2 ^ (n - 1 - v)) + if x then 2 ^ (n - 1 - v) else 0
theorem and_pow (a k : Nat) : a &&& 2 ^ k = (a.testBit k).toNat * 2 ^ k := by
  apply Nat.eq_of_testBit_eq
  intro j
  rw [Nat.testBit_and, Nat.testBit_two_pow]
  cases h : a.testBit k with
  | false =>
    simp
    intro h1 h2; subst h2; rw [h] at h1; cases h1
  | true =>
    simp [Nat.testBit_two_pow]
    intro h1; subst h1; exact h
theorem withT_bits {n a v : Nat} {x : Bool} (hv : v < n) (j : Nat) : (withT n a v x).testBit j = if j = n - 1 - v then x else a.testBit j := by
  obtain ⟨k, hk⟩ : ∃ k, k = n - 1 - v := ⟨_, rfl⟩
  unfold withT
  rw [← hk, and_pow]
  -- a without bit k
  obtain ⟨q, r, hr, ha⟩ : ∃ q r, r < 2 ^ k ∧ a = (2 * q + (a.testBit k).toNat) * 2 ^ k + r := by
    refine ⟨a / 2 ^ k / 2, a % 2 ^ k, Nat.mod_lt _ (Nat.two_pow_pos k), ?_⟩
    have e1 : 2 * (a / 2 ^ k / 2) + (a.testBit k).toNat = a / 2 ^ k := by
      rw [Nat.testBit_eq_decide_div_mod_eq]
      rcases Nat.mod_two_eq_zero_or_one (a / 2 ^ k) with h | h <;> simp [h] <;> omega
    rw [e1, Nat.mul_comm]; exact (Nat.div_add_mod a (2 ^ k)).symm
  have e2 : a - (a.testBit k).toNat * 2 ^ k + (if x then 2 ^ k else 0) = (2 * q + x.toNat) * 2 ^ k + r := by
    conv => lhs; lhs; lhs; rw [ha]
    rw [Nat.add_mul, Nat.add_mul]
    cases x <;> simp <;> omega
  rw [e2]
  have tb : ∀ (c : Bool), ((2 * q + c.toNat) * 2 ^ k + r).testBit j = if j < k then r.testBit j else if j = k then c else q.testBit (j - k - 1) := by
    intro c
    rw [Nat.mul_comm, Nat.testBit_two_pow_mul_add _ hr]
    by_cases h1 : j < k
    · simp [h1]
    · rw [if_neg h1, if_neg h1]
      by_cases h2 : j = k
      · subst h2
        rw [Nat.sub_self, if_pos rfl, Nat.testBit_zero]
        cases c <;> simp <;> omega
      · rw [if_neg h2, show j - k = (j - k - 1) + 1 by omega, Nat.testBit_succ]
        congr 1
        cases c <;> simp <;> omega
  rw [tb]
  conv => rhs; rw [ha]
  rw [tb]
  by_cases h1 : j < k
  · simp [h1, Nat.ne_of_lt h1]
  · by_cases h2 : j = k
    · simp [h2]
    · simp [h1, h2]
theorem withT_lt {n a v : Nat} {x : Bool} (hv : v < n) (ha : a < 2 ^ n) : withT n a v x < 2 ^ n := by
  apply Nat.lt_pow_two_of_testBit
  intro j hj
  rw [withT_bits hv, if_neg (by omega)]
  exact Nat.testBit_lt_two_pow (Nat.lt_of_lt_of_le ha (Nat.pow_le_pow_right (by omega) hj))
theorem asg_with {n a v : Nat} {x : Bool} (hv : v < n) : asg n (withT n a v x) = upd (asg n a) v x := by
  funext i
  unfold asg upd
  rw [withT_bits hv]
  by_cases h1 : i = v
  · subst h1; simp [hv]
  · rw [if_neg h1]
    by_cases h2 : i < n
    · rw [if_neg (by omega)]
    · simp [h2]
def iteF (F G H : (Nat → Bool) → Bool) : (Nat → Bool) → Bool := fun a => if F a then G a else H a
def resF (F : (Nat → Bool) → Bool) (v : Nat) (x : Bool) : (Nat → Bool) → Bool := fun a => F (upd a v x)
def quaF (op : Nat) (F : (Nat → Bool) → Bool) : List Nat → (Nat → Bool) → Bool
  | [] => F
  | v :: l => quaF op (fun a => opB op (resF F v false a) (resF F v true a)) l
theorem Loc.const (n : Nat) (b : Bool) : Loc n (fun _ => b) := fun _ _ _ => rfl
theorem Loc.var {n v : Nat} (h : v < n) : Loc n (fun a => a v) := fun _ _ hab => hab v h
theorem Loc.ite {n : Nat} {F G H : (Nat → Bool) → Bool} (hF : Loc n F) (hG : Loc n G) (hH : Loc n H) : Loc n (iteF F G H) := fun a b hab => by
  unfold iteF; rw [hF a b hab, hG a b hab, hH a b hab]
theorem Loc.res {n v : Nat} {x : Bool} {F : (Nat → Bool) → Bool} (hF : Loc n F) : Loc n (resF F v x) := fun a b hab => hF _ _ fun i hi => by
  unfold upd; split
  · rfl
  · exact hab i hi
end Go.Bd
namespace Go.Bd
theorem quaF_snoc (op : Nat) : ∀ (l : List Nat) (F : (Nat → Bool) → Bool) (v : Nat), quaF op F (l ++ [v]) = fun a => opB op (resF (quaF op F l) v false a) (resF (quaF op F l) v true a)
  | [], F, v => rfl
  | u :: l, F, v => by rw [List.cons_append, quaF, quaF, quaF_snoc op l]
end Go.Bd
end
section
set_option linter.unusedVariables false
set_option linter.unusedSimpArgs false
namespace Go.Bd
/-! ### If-then-else -/
abbrev K3 := Nat × Nat × Nat
abbrev Mem3 := List (K3 × Nat)
def MemI (ns : Ns) (M : Mem3) : Prop := ∀ q ∈ M, Ref ns q.1.1 ∧ Ref ns q.1.2.1 ∧ Ref ns q.1.2.2 ∧ Ref ns q.2 ∧ ∀ a, eval ns a q.2 = if eval ns a q.1.1 then eval ns a q.1.2.1 else eval ns a q.1.2.2
theorem MemI.ext {n : Nat} {ns ns' : Ns} {M : Mem3} (h : MemI ns M) (w : Wf n ns) (hx : Ext n ns ns') : MemI ns' M := fun q hq => by
  obtain ⟨h1, h2, h3, h4, h5⟩ := h q hq
  exact ⟨hx.ref h1, hx.ref h2, hx.ref h3, hx.ref h4, fun a => by rw [hx.eval w a h1, hx.eval w a h2, hx.eval w a h3, hx.eval w a h4, h5]⟩
def mtv (n : Nat) (ns : Ns) (f g h : Nat) : Nat := min (tv n ns f) (min (tv n ns g) (tv n ns h))
structure IOk (n cap : Nat) (ns : Ns) (M : Mem3) (f g h : Nat) (r : Option Nat) (ns' : Ns) (M' : Mem3) : Prop where
  ext : Ext n ns ns'
  lim : ns'.length ≤ cap
  mem : MemI ns' M'
  ok : ∀ x, r = some x → Ref ns' x ∧ ∀ a, eval ns' a x = if eval ns a f then eval ns a g else eval ns a h
  cnt : ns'.length + 1 ≤ ns.length + 2 ^ (n - mtv n ns f g h)
  grow : M'.length + 1 ≤ M.length + 2 ^ (n - mtv n ns f g h)
  full : r = none → cap < ns.length + 2 ^ (n - mtv n ns f g h)
section
variable {n cap : Nat} {ns ns1 ns2 : Ns} {M M1 M2 : Mem3} {f g h : Nat}
theorem two_half {d : Nat} (h : 0 < d) : 2 ^ (d - 1) + 2 ^ (d - 1) = 2 ^ d := by
  obtain ⟨e, rfl⟩ : ∃ e, d = e + 1 := ⟨d - 1, by omega⟩
  rw [Nat.add_sub_cancel, Nat.pow_succ]; omega
theorem two_mono {a b : Nat} (h : a ≤ b) : 2 ^ a ≤ 2 ^ b := Nat.pow_le_pow_right (by omega) h
theorem i_short {x : Nat} (w : Wf n ns) (hlim : ns.length ≤ cap) (hM : MemI ns M) (hx : Ref ns x) (he : ∀ a, eval ns a x = if eval ns a f then eval ns a g else eval ns a h) : IOk n cap ns M f g h (some x) ns M := by
  have := Nat.two_pow_pos (n - mtv n ns f g h)
  exact ⟨Ext.refl w, hlim, hM, fun y hy => by simp only [Option.some.injEq] at hy; subst hy; exact ⟨hx, he⟩, by omega, by omega, fun h => by cases h⟩
theorem i_known {x : Nat} (w : Wf n ns) (hlim : ns.length ≤ cap) (hM : MemI ns M) (hk : ((f, g, h), x) ∈ M) : IOk n cap ns M f g h (some x) ns M := by
  obtain ⟨_, _, _, h1, h2⟩ := hM _ hk
  exact i_short w hlim hM h1 h2
/-- What a look at the nodes needs. -/
structure IPre (n : Nat) (ns : Ns) (f g h v : Nat) : Prop where
  w : Wf n ns
  rf : Ref ns f
  rg : Ref ns g
  rh : Ref ns h
  ev : v = mtv n ns f g h
  vn : v < n
  cf : Cof n ns v f (lo n ns v f) (hi n ns v f)
  cg : Cof n ns v g (lo n ns v g) (hi n ns v g)
  ch : Cof n ns v h (lo n ns v h) (hi n ns v h)
theorem IPre.mk' (w : Wf n ns) (rf : Ref ns f) (rg : Ref ns g) (rh : Ref ns h) (h2 : 2 ≤ f) : IPre n ns f g h (mtv n ns f g h) := by
  have h1 := w.tv_var h2 rf
  have hv : mtv n ns f g h < n := by unfold mtv; omega
  exact ⟨w, rf, rg, rh, rfl, hv, cof_of w rf (by unfold mtv; omega) hv, cof_of w rg (by unfold mtv; omega) hv, cof_of w rh (by unfold mtv; omega) hv⟩
variable {v : Nat}
theorem IPre.lov (p : IPre n ns f g h v) : v + 1 ≤ mtv n ns (lo n ns v f) (lo n ns v g) (lo n ns v h) := by
  have := p.cf.tl; have := p.cg.tl; have := p.ch.tl
  unfold mtv; omega
theorem IPre.hiv (p : IPre n ns f g h v) (hx : Ext n ns ns1) : v + 1 ≤ mtv n ns1 (hi n ns v f) (hi n ns v g) (hi n ns v h) := by
  have := p.cf.th; have := p.cg.th; have := p.ch.th
  unfold mtv; rw [hx.tv p.cf.rh, hx.tv p.cg.rh, hx.tv p.ch.rh]; omega
theorem i_low (p : IPre n ns f g h v) (hl : IOk n cap ns M (lo n ns v f) (lo n ns v g) (lo n ns v h) none ns1 M1) : IOk n cap ns M f g h none ns1 M1 := by
  have := two_mono (show n - mtv n ns (lo n ns v f) (lo n ns v g) (lo n ns v h) ≤ n - mtv n ns f g h by have := p.lov; have := p.ev; omega)
  have := hl.cnt; have := hl.grow; have := hl.full rfl
  exact ⟨hl.ext, hl.lim, hl.mem, fun x hx => (by cases hx), by omega, by omega, fun _ => by omega⟩
theorem i_high {l : Nat} (p : IPre n ns f g h v) (hl : IOk n cap ns M (lo n ns v f) (lo n ns v g) (lo n ns v h) (some l) ns1 M1) (hh : IOk n cap ns1 M1 (hi n ns v f) (hi n ns v g) (hi n ns v h) none ns2 M2) : IOk n cap ns M f g h none ns2 M2 := by
  have e := p.ev
  have vn := p.vn
  have b0 := two_half (show 0 < n - mtv n ns f g h by omega)
  have b1 := two_mono (show n - mtv n ns (lo n ns v f) (lo n ns v g) (lo n ns v h) ≤ n - mtv n ns f g h - 1 by have := p.lov; omega)
  have b2 := two_mono (show n - mtv n ns1 (hi n ns v f) (hi n ns v g) (hi n ns v h) ≤ n - mtv n ns f g h - 1 by have := p.hiv hl.ext; omega)
  have := hl.cnt; have := hl.grow; have := hh.cnt; have := hh.grow; have := hh.full rfl
  exact ⟨hl.ext.trans hh.ext, hh.lim, hh.mem, fun x hx => (by cases hx), by omega, by omega, fun _ => by omega⟩
/-- Behind both halves. -/
structure IMid (n cap : Nat) (ns : Ns) (M : Mem3) (f g h v : Nat) (ns2 : Ns) (M2 : Mem3) (l k : Nat) : Prop where
  ext : Ext n ns ns2
  lim : ns2.length ≤ cap
  mem : MemI ns2 M2
  cnt : ns2.length + 2 ≤ ns.length + 2 ^ (n - mtv n ns f g h)
  grow : M2.length + 2 ≤ M.length + 2 ^ (n - mtv n ns f g h)
  rl : Ref ns2 l
  rk : Ref ns2 k
  tl : v < tv n ns2 l
  tk : v < tv n ns2 k
  ev : ∀ a, (if a v then eval ns2 a k else eval ns2 a l) = if eval ns a f then eval ns a g else eval ns a h
theorem i_mid {l k : Nat} (p : IPre n ns f g h v) (hl : IOk n cap ns M (lo n ns v f) (lo n ns v g) (lo n ns v h) (some l) ns1 M1) (hh : IOk n cap ns1 M1 (hi n ns v f) (hi n ns v g) (hi n ns v h) (some k) ns2 M2) : IMid n cap ns M f g h v ns2 M2 l k := by
  have e := p.ev
  have vn := p.vn
  have b0 := two_half (show 0 < n - mtv n ns f g h by omega)
  have b1 := two_mono (show n - mtv n ns (lo n ns v f) (lo n ns v g) (lo n ns v h) ≤ n - mtv n ns f g h - 1 by have := p.lov; omega)
  have b2 := two_mono (show n - mtv n ns1 (hi n ns v f) (hi n ns v g) (hi n ns v h) ≤ n - mtv n ns f g h - 1 by have := p.hiv hl.ext; omega)
  have := hl.cnt; have := hl.grow; have := hh.cnt; have := hh.grow
  obtain ⟨rl, el⟩ := hl.ok l rfl
  obtain ⟨rk, ek⟩ := hh.ok k rfl
  have w2 := hh.ext.wf
  have el2 : ∀ a, eval ns2 a l = if eval ns a (lo n ns v f) then eval ns a (lo n ns v g) else eval ns a (lo n ns v h) := fun a => by rw [hh.ext.eval hl.ext.wf a rl, el]
  have ek2 : ∀ a, eval ns2 a k = if eval ns a (hi n ns v f) then eval ns a (hi n ns v g) else eval ns a (hi n ns v h) := fun a => by
    rw [ek, hl.ext.eval p.w a p.cf.rh, hl.ext.eval p.w a p.cg.rh, hl.ext.eval p.w a p.ch.rh]
  have rl2 := hh.ext.ref rl
  refine ⟨hl.ext.trans hh.ext, hh.lim, hh.mem, by omega, by omega, rl2, rk, ?_, ?_, fun a => ?_⟩
  · have := p.cf.tl; have := p.cg.tl; have := p.ch.tl
    exact tv_ge w2 rl2 (by omega) fun a b hab => by
      rw [el2, el2, eval_congr p.w p.cf.rl (fun i hi => hab i (by omega)), eval_congr p.w p.cg.rl (fun i hi => hab i (by omega)), eval_congr p.w p.ch.rl (fun i hi => hab i (by omega))]
  · have := p.cf.th; have := p.cg.th; have := p.ch.th
    exact tv_ge w2 rk (by omega) fun a b hab => by
      rw [ek2, ek2, eval_congr p.w p.cf.rh (fun i hi => hab i (by omega)), eval_congr p.w p.cg.rh (fun i hi => hab i (by omega)), eval_congr p.w p.ch.rh (fun i hi => hab i (by omega))]
  · rw [el2, ek2, p.cf.ev a, p.cg.ev a, p.ch.ev a]
    split <;> rfl
theorem i_full {l k : Nat} (p : IPre n ns f g h v) (hm : IMid n cap ns M f g h v ns2 M2 l k) (hk : (mkF cap ns2 v l k).1 = none) : IOk n cap ns M f g h none (mkF cap ns2 v l k).2 M2 := by
  have mk := mkF_ok (lim := cap) hm.ext.wf p.vn hm.rl hm.rk hm.tl hm.tk
  obtain ⟨f1, f2⟩ := mk.full hk
  rw [f2]
  have := hm.cnt; have := hm.grow
  exact ⟨hm.ext, hm.lim, hm.mem, fun x hx => (by cases hx), by omega, by omega, fun _ => by omega⟩
theorem i_done {l k x : Nat} {M3 : Mem3} (p : IPre n ns f g h v) (hm : IMid n cap ns M f g h v ns2 M2 l k) (hk : (mkF cap ns2 v l k).1 = some x) (hM3 : ∀ q ∈ M3, q ∈ M2 ∨ q = ((f, g, h), x)) (hM3l : M3.length ≤ M2.length + 1) : IOk n cap ns M f g h (some x) (mkF cap ns2 v l k).2 M3 := by
  have mk := mkF_ok (lim := cap) hm.ext.wf p.vn hm.rl hm.rk hm.tl hm.tk
  obtain ⟨rx, _, ex⟩ := mk.ok x hk
  have w2 := hm.ext.wf
  have e3 := hm.ext.trans mk.ext
  have ex2 : ∀ a, eval (mkF cap ns2 v l k).2 a x = if eval ns a f then eval ns a g else eval ns a h := fun a => by
    rw [ex, mk.ext.eval w2 a hm.rk, mk.ext.eval w2 a hm.rl, hm.ev]
  have := hm.cnt; have := hm.grow; have := mk.len
  refine ⟨e3, mk.lim hm.lim, ?_, fun y hy => by simp only [Option.some.injEq] at hy; subst hy; exact ⟨rx, ex2⟩, by omega, by omega, fun h => by cases h⟩
  intro q hq
  rcases hM3 q hq with h1 | rfl
  · exact (hm.mem.ext w2 mk.ext) q h1
  · exact ⟨e3.ref p.rf, e3.ref p.rg, e3.ref p.rh, rx, fun a => by rw [ex2, e3.eval p.w a p.rf, e3.eval p.w a p.rg, e3.eval p.w a p.rh]⟩
end
/-! ### A function with its variables changed -/
def MemC (σ : (Nat → Bool) → Nat → Bool) (ns : Ns) (M : Mem1) : Prop := ∀ q ∈ M, Ref ns q.1 ∧ Ref ns q.2 ∧ ∀ a, eval ns a q.2 = eval ns (σ a) q.1
theorem MemC.ext {n : Nat} {σ : (Nat → Bool) → Nat → Bool} {ns ns' : Ns} {M : Mem1} (h : MemC σ ns M) (w : Wf n ns) (hx : Ext n ns ns') : MemC σ ns' M := fun q hq => by
  obtain ⟨h1, h2, h3⟩ := h q hq
  exact ⟨hx.ref h1, hx.ref h2, fun a => by rw [hx.eval w a h2, hx.eval w _ h1, h3]⟩
structure ChOk (n cap : Nat) (σ : (Nat → Bool) → Nat → Bool) (ns : Ns) (f : Nat) (r : Option Nat) (ns' : Ns) (M' : Mem1) : Prop where
  ext : Ext n ns ns'
  lim : ns'.length ≤ cap
  mem : MemC σ ns' M'
  ok : ∀ x, r = some x → Ref ns' x ∧ ∀ a, eval ns' a x = eval ns (σ a) f
  cnt : ns'.length + 1 ≤ ns.length + 2 ^ (n - tv n ns f)
  full : r = none → cap < ns.length + 2 ^ (n - tv n ns f)
section
variable {n cap : Nat} {σ : (Nat → Bool) → Nat → Bool} {ns ns1 ns2 : Ns} {M M1 M2 : Mem1} {f : Nat}
theorem c_short {x : Nat} (w : Wf n ns) (hlim : ns.length ≤ cap) (hM : MemC σ ns M) (hx : Ref ns x) (he : ∀ a, eval ns a x = eval ns (σ a) f) : ChOk n cap σ ns f (some x) ns M := by
  have := Nat.two_pow_pos (n - tv n ns f)
  exact ⟨Ext.refl w, hlim, hM, fun y hy => by simp only [Option.some.injEq] at hy; subst hy; exact ⟨hx, he⟩, by omega, fun h => by cases h⟩
theorem c_const (w : Wf n ns) (hlim : ns.length ≤ cap) (hM : MemC σ ns M) (hf : Ref ns f) (h2 : f < 2) : ChOk n cap σ ns f (some f) ns M := by
  refine c_short w hlim hM hf fun a => ?_
  have : f = 0 ∨ f = 1 := by omega
  rcases this with rfl | rfl
  · rw [eval_zero, eval_zero]
  · rw [eval_one, eval_one]
theorem c_known {x : Nat} (w : Wf n ns) (hlim : ns.length ≤ cap) (hM : MemC σ ns M) (hk : (f, x) ∈ M) : ChOk n cap σ ns f (some x) ns M := by
  obtain ⟨_, h1, h2⟩ := hM _ hk
  exact c_short w hlim hM h1 h2
/-- The variable v of f becomes u. -/
structure CPre (n : Nat) (σ : (Nat → Bool) → Nat → Bool) (ns : Ns) (f u : Nat) : Prop where
  w : Wf n ns
  rf : Ref ns f
  h2 : 2 ≤ f
  un : u < n
  su : ∀ a, σ a (tv n ns f) = a u
  il : ∀ a b : Nat → Bool, (∀ i, u + 1 ≤ i → a i = b i) → eval ns (σ a) (at_ n ns f).low = eval ns (σ b) (at_ n ns f).low
  ih : ∀ a b : Nat → Bool, (∀ i, u + 1 ≤ i → a i = b i) → eval ns (σ a) (at_ n ns f).high = eval ns (σ b) (at_ n ns f).high
variable {u : Nat}
theorem c_low (w : Wf n ns) (hf : Ref ns f) (h2 : 2 ≤ f) (hl : ChOk n cap σ ns (at_ n ns f).low none ns1 M1) : ChOk n cap σ ns f none ns1 M1 := by
  have t1 := w.tv_low h2 hf
  have := two_mono (show n - tv n ns (at_ n ns f).low ≤ n - tv n ns f by omega)
  have := hl.cnt; have := hl.full rfl
  exact ⟨hl.ext, hl.lim, hl.mem, fun x hx => (by cases hx), by omega, fun _ => by omega⟩
theorem c_high {l : Nat} (w : Wf n ns) (hf : Ref ns f) (h2 : 2 ≤ f) (hl : ChOk n cap σ ns (at_ n ns f).low (some l) ns1 M1) (hh : ChOk n cap σ ns1 (at_ n ns f).high none ns2 M2) : ChOk n cap σ ns f none ns2 M2 := by
  have t1 := w.tv_low h2 hf
  have t2 := w.tv_high h2 hf
  have tvn := w.tv_var h2 hf
  have e := hl.ext.tv (w.ref_high hf)
  have b0 := two_half (show 0 < n - tv n ns f by omega)
  have b1 := two_mono (show n - tv n ns (at_ n ns f).low ≤ n - tv n ns f - 1 by omega)
  have b2 := two_mono (show n - tv n ns1 (at_ n ns f).high ≤ n - tv n ns f - 1 by omega)
  have := hl.cnt; have := hh.cnt; have := hh.full rfl
  exact ⟨hl.ext.trans hh.ext, hh.lim, hh.mem, fun x hx => (by cases hx), by omega, fun _ => by omega⟩
structure CMid (n cap : Nat) (σ : (Nat → Bool) → Nat → Bool) (ns : Ns) (f u : Nat) (ns2 : Ns) (M2 : Mem1) (l k : Nat) : Prop where
  ext : Ext n ns ns2
  lim : ns2.length ≤ cap
  mem : MemC σ ns2 M2
  cnt : ns2.length + 2 ≤ ns.length + 2 ^ (n - tv n ns f)
  rl : Ref ns2 l
  rk : Ref ns2 k
  tl : u < tv n ns2 l
  tk : u < tv n ns2 k
  ev : ∀ a, (if a u then eval ns2 a k else eval ns2 a l) = eval ns (σ a) f
theorem c_mid {l k : Nat} (p : CPre n σ ns f u) (hl : ChOk n cap σ ns (at_ n ns f).low (some l) ns1 M1) (hh : ChOk n cap σ ns1 (at_ n ns f).high (some k) ns2 M2) : CMid n cap σ ns f u ns2 M2 l k := by
  have t1 := p.w.tv_low p.h2 p.rf
  have t2 := p.w.tv_high p.h2 p.rf
  have tvn := p.w.tv_var p.h2 p.rf
  have un := p.un
  have e := hl.ext.tv (p.w.ref_high p.rf)
  have b0 := two_half (show 0 < n - tv n ns f by omega)
  have b1 := two_mono (show n - tv n ns (at_ n ns f).low ≤ n - tv n ns f - 1 by omega)
  have b2 := two_mono (show n - tv n ns1 (at_ n ns f).high ≤ n - tv n ns f - 1 by omega)
  have := hl.cnt; have := hh.cnt
  obtain ⟨rl, el⟩ := hl.ok l rfl
  obtain ⟨rk, ek⟩ := hh.ok k rfl
  have w2 := hh.ext.wf
  have el2 : ∀ a, eval ns2 a l = eval ns (σ a) (at_ n ns f).low := fun a => by rw [hh.ext.eval hl.ext.wf a rl, el]
  have ek2 : ∀ a, eval ns2 a k = eval ns (σ a) (at_ n ns f).high := fun a => by rw [ek, hl.ext.eval p.w _ (p.w.ref_high p.rf)]
  have rl2 := hh.ext.ref rl
  refine ⟨hl.ext.trans hh.ext, hh.lim, hh.mem, by omega, rl2, rk, ?_, ?_, fun a => ?_⟩
  · exact tv_ge w2 rl2 (by omega) fun a b hab => by rw [el2, el2]; exact p.il a b hab
  · exact tv_ge w2 rk (by omega) fun a b hab => by rw [ek2, ek2]; exact p.ih a b hab
  · rw [el2, ek2, eval_node p.w _ p.h2 p.rf, show (at_ n ns f).v = tv n ns f from rfl, p.su]
theorem c_full {l k : Nat} (p : CPre n σ ns f u) (hm : CMid n cap σ ns f u ns2 M2 l k) (hk : (mkF cap ns2 u l k).1 = none) : ChOk n cap σ ns f none (mkF cap ns2 u l k).2 M2 := by
  have mk := mkF_ok (lim := cap) hm.ext.wf p.un hm.rl hm.rk hm.tl hm.tk
  obtain ⟨f1, f2⟩ := mk.full hk
  rw [f2]
  have := hm.cnt
  exact ⟨hm.ext, hm.lim, hm.mem, fun x hx => (by cases hx), by omega, fun _ => by omega⟩
theorem c_done {l k x : Nat} {M3 : Mem1} (p : CPre n σ ns f u) (hm : CMid n cap σ ns f u ns2 M2 l k) (hk : (mkF cap ns2 u l k).1 = some x) (hM3 : ∀ q ∈ M3, q ∈ M2 ∨ q = (f, x)) : ChOk n cap σ ns f (some x) (mkF cap ns2 u l k).2 M3 := by
  have mk := mkF_ok (lim := cap) hm.ext.wf p.un hm.rl hm.rk hm.tl hm.tk
  obtain ⟨rx, _, ex⟩ := mk.ok x hk
  have w2 := hm.ext.wf
  have e3 := hm.ext.trans mk.ext
  have ex2 : ∀ a, eval (mkF cap ns2 u l k).2 a x = eval ns (σ a) f := fun a => by
    rw [ex, mk.ext.eval w2 a hm.rk, mk.ext.eval w2 a hm.rl, hm.ev]
  have := hm.cnt; have := mk.len
  refine ⟨e3, mk.lim hm.lim, ?_, fun y hy => by simp only [Option.some.injEq] at hy; subst hy; exact ⟨rx, ex2⟩, by omega, fun h => by cases h⟩
  intro q hq
  rcases hM3 q hq with h1 | rfl
  · exact (hm.mem.ext w2 mk.ext) q h1
  · exact ⟨e3.ref p.rf, rx, fun a => by rw [ex2, e3.eval p.w _ p.rf]⟩
/-- Restriction. -/
theorem CPre.res {v : Nat} {b : Bool} (w : Wf n ns) (hf : Ref ns f) (h2 : 2 ≤ f) (hv : tv n ns f ≠ v) : CPre n (fun a => upd a v b) ns f (tv n ns f) := by
  have t1 := w.tv_low h2 hf
  have t2 := w.tv_high h2 hf
  have key : ∀ {a c : Nat → Bool}, (∀ i, tv n ns f + 1 ≤ i → a i = c i) → ∀ i, tv n ns f + 1 ≤ i → upd a v b i = upd c v b i := fun h i hi => by
    unfold upd; split
    · rfl
    · exact h i hi
  exact ⟨w, hf, h2, w.tv_var h2 hf, fun a => upd_ne hv, fun a c h => eval_congr w (w.ref_low hf) fun i hi => key h i (by omega), fun a c h => eval_congr w (w.ref_high hf) fun i hi => key h i (by omega)⟩
theorem c_hit {b : Bool} (w : Wf n ns) (hlim : ns.length ≤ cap) (hM : MemC (fun a => upd a (tv n ns f) b) ns M) (hf : Ref ns f) (h2 : 2 ≤ f) : ChOk n cap (fun a => upd a (tv n ns f) b) ns f (some (if b then (at_ n ns f).high else (at_ n ns f).low)) ns M := by
  cases b with
  | true => exact c_short w hlim hM (w.ref_high hf) fun a => (eval_high w h2 hf).symm
  | false => exact c_short w hlim hM (w.ref_low hf) fun a => (eval_low w h2 hf).symm
/-- It depends on the variables of what can be reached only. -/
theorem eval_reach (w : Wf n ns) {S : Nat → Prop} {a b : Nat → Bool} (hab : ∀ i, S i → a i = b i) : ∀ {f : Nat}, Ref ns f → (∀ y, Rch n ns f y → S (tv n ns y)) → eval ns a f = eval ns b f := by
  intro f
  induction f using Nat.strongRecOn with
  | ind f ih =>
    intro hf hS
    rcases Nat.lt_or_ge f 2 with h | h
    · have : f = 0 ∨ f = 1 := by omega
      rcases this with rfl | rfl
      · rw [eval_zero, eval_zero]
      · rw [eval_one, eval_one]
    · rw [eval_node w a h hf, eval_node w b h hf, hab (at_ n ns f).v (hS f (.self h)), ih _ (w.lt_high h hf) (w.ref_high hf) (fun y hy => hS y (.high h hy)), ih _ (w.lt_low h hf) (w.ref_low hf) (fun y hy => hS y (.low h hy))]
theorem Rch.tv_le (w : Wf n ns) {f y : Nat} (h : Rch n ns f y) (hf : Ref ns f) : tv n ns f ≤ tv n ns y := by
  induction h with
  | self h => exact Nat.le_refl _
  | low h _ ih => have := ih (w.ref_low hf); have := w.tv_low h hf; omega
  | high h _ ih => have := ih (w.ref_high hf); have := w.tv_high h hf; omega
/-- Renaming. -/
def Asc (n : Nat) (S : Nat → Prop) (to : Nat → Nat) : Prop := (∀ u, S u → to u < n) ∧ ∀ u v, S u → S v → u < v → to u < to v
theorem CPre.ren {S : Nat → Prop} {to : Nat → Nat} (w : Wf n ns) (hf : Ref ns f) (h2 : 2 ≤ f) (hS : ∀ y, Rch n ns f y → S (tv n ns y)) (ha : Asc n S to) : CPre n (fun a i => a (to i)) ns f (to (tv n ns f)) := by
  have sf := hS f (.self h2)
  have t1 := w.tv_low h2 hf
  have t2 := w.tv_high h2 hf
  have key : ∀ {a c : Nat → Bool} {x : Nat}, Ref ns x → tv n ns f < tv n ns x → (∀ y, Rch n ns x y → S (tv n ns y)) → (∀ i, to (tv n ns f) + 1 ≤ i → a i = c i) → eval ns (fun i => a (to i)) x = eval ns (fun i => c (to i)) x := by
    intro a c x hx hlt hSx h
    refine eval_reach w (S := fun i => S i ∧ tv n ns x ≤ i) (fun i hi => h _ ?_) hx fun y hy => ⟨hSx y hy, hy.tv_le w hx⟩
    exact ha.2 _ _ sf hi.1 (by omega)
  exact ⟨w, hf, h2, ha.1 _ sf, fun a => rfl, fun a c h => key (w.ref_low hf) t1 (fun y hy => hS y (.low h2 hy)) h, fun a c h => key (w.ref_high hf) t2 (fun y hy => hS y (.high h2 hy)) h⟩
end
end Go.Bd
end
section
set_option linter.unusedVariables false
set_option linter.unusedSimpArgs false
namespace Go.Bd
section
variable {n : Nat} {ns : Ns}
theorem upd_comm {a : Nat → Bool} {u v : Nat} {x y : Bool} (h : u ≠ v) : upd (upd a u x) v y = upd (upd a v y) u x := by
  funext i
  unfold upd
  by_cases h1 : i = v
  · subst h1; rw [if_pos rfl, if_neg (fun e => h e.symm), if_pos rfl]
  · by_cases h2 : i = u
    · simp [h1, h2, h]
    · simp [h1, h2]
theorem upd_upd {a : Nat → Bool} {v : Nat} {x y : Bool} : upd (upd a v x) v y = upd a v y := by
  funext i
  unfold upd
  split <;> rfl
/-- It depends on exactly the variables of what can be reached. -/
theorem reach_dep (w : Wf n ns) (v : Nat) : ∀ {f : Nat}, Ref ns f → ((∃ y, Rch n ns f y ∧ tv n ns y = v) ↔ ∃ a, eval ns (upd a v false) f ≠ eval ns (upd a v true) f) := by
  intro f hf
  constructor
  · rintro ⟨y, hr, rfl⟩
    induction hr with
    | self h => exact dep_top w h hf
    | @low f y h k ih =>
      obtain ⟨a, ha⟩ := ih (w.ref_low hf)
      have h1 := k.tv_le w (w.ref_low hf)
      have h2 := w.tv_low h hf
      refine ⟨upd a (tv n ns f) false, ?_⟩
      rw [upd_comm (u := tv n ns f) (y := false) (by omega), upd_comm (u := tv n ns f) (y := true) (by omega), eval_low w h hf, eval_low w h hf]
      exact ha
    | @high f y h k ih =>
      obtain ⟨a, ha⟩ := ih (w.ref_high hf)
      have h1 := k.tv_le w (w.ref_high hf)
      have h2 := w.tv_high h hf
      refine ⟨upd a (tv n ns f) true, ?_⟩
      rw [upd_comm (u := tv n ns f) (y := false) (by omega), upd_comm (u := tv n ns f) (y := true) (by omega), eval_high w h hf, eval_high w h hf]
      exact ha
  · rintro ⟨a, ha⟩
    rcases Classical.em (∃ y, Rch n ns f y ∧ tv n ns y = v) with h | h
    · exact h
    · exact absurd (eval_reach w (S := fun i => i ≠ v) (fun i hi => by rw [upd_ne hi, upd_ne hi]) hf (fun y hy e => h ⟨y, hy, e⟩)) ha
end
/-! ### The least assignment -/
def pickF (n : Nat) (ns : Ns) (f : Nat) : Nat → Bool :=
  if h : f < 2 then fun _ => false else
    let d := at_ n ns f
    if hl : d.low < f ∧ d.high < f then (if d.low = 0 then upd (pickF n ns d.high) d.v true else pickF n ns d.low) else fun _ => false
termination_by f
decreasing_by
  · exact hl.2
  · exact hl.1
section
variable {n : Nat} {ns : Ns}
theorem pick_lt {f : Nat} (h : f < 2) : pickF n ns f = fun _ => false := by unfold pickF; rw [dif_pos h]
theorem pick_node (w : Wf n ns) {f : Nat} (h : 2 ≤ f) (hf : Ref ns f) : pickF n ns f = if (at_ n ns f).low = 0 then upd (pickF n ns (at_ n ns f).high) (tv n ns f) true else pickF n ns (at_ n ns f).low := by
  conv => lhs; unfold pickF
  rw [dif_neg (by omega)]
  simp only
  rw [dif_pos ⟨w.lt_low h hf, w.lt_high h hf⟩]
  rfl
/-- Nothing is set before its first variable. -/
theorem pick_low (w : Wf n ns) : ∀ {f : Nat}, Ref ns f → ∀ i, i < tv n ns f → pickF n ns f i = false := by
  intro f
  induction f using Nat.strongRecOn with
  | ind f ih =>
    intro hf i hi
    rcases Nat.lt_or_ge f 2 with h | h
    · rw [pick_lt h]
    · rw [pick_node w h hf]
      split
      · rw [upd_ne (by omega)]
        exact ih _ (w.lt_high h hf) (w.ref_high hf) i (by have := w.tv_high h hf; omega)
      · exact ih _ (w.lt_low h hf) (w.ref_low hf) i (by have := w.tv_low h hf; omega)
theorem pick_true (w : Wf n ns) : ∀ {f : Nat}, Ref ns f → f ≠ 0 → eval ns (pickF n ns f) f = true := by
  intro f
  induction f using Nat.strongRecOn with
  | ind f ih =>
    intro hf h0
    rcases Nat.lt_or_ge f 2 with h | h
    · have : f = 1 := by omega
      subst this
      rw [eval_one]
    · rw [pick_node w h hf]
      have hne : (at_ n ns f).low ≠ (at_ n ns f).high := by rw [at_ge h hf]; exact w.ne _ _
      by_cases hl : (at_ n ns f).low = 0
      · rw [if_pos hl, eval_high w h hf]
        exact ih _ (w.lt_high h hf) (w.ref_high hf) (by omega)
      · rw [if_neg hl, eval_node w _ h hf, show (at_ n ns f).v = tv n ns f from rfl, pick_low w (w.ref_low hf) _ (w.tv_low h hf)]
        exact ih _ (w.lt_low h hf) (w.ref_low hf) hl
/-- The first difference from position k on speaks for p. -/
def Lex (n k : Nat) (p a : Nat → Bool) : Prop := (∃ i, k ≤ i ∧ i < n ∧ (∀ j, k ≤ j → j < i → p j = a j) ∧ p i = false ∧ a i = true) ∨ ∀ i, k ≤ i → i < n → p i = a i
theorem Lex.step {k : Nat} {p a : Nat → Bool} (h : Lex n (k + 1) p a) (e : p k = a k) : Lex n k p a := by
  rcases h with ⟨i, h1, h2, h3, h4, h5⟩ | h
  · refine .inl ⟨i, by omega, h2, fun j hj hji => ?_, h4, h5⟩
    rcases Nat.eq_or_lt_of_le hj with rfl | hj
    · exact e
    · exact h3 j (by omega) hji
  · refine .inr fun i hi hin => ?_
    rcases Nat.eq_or_lt_of_le hi with rfl | hi
    · exact e
    · exact h i (by omega) hin
theorem Lex.down {p a : Nat → Bool} : ∀ (d k : Nat), (∀ i, k ≤ i → i < k + d → p i = false) → k + d ≤ n → Lex n (k + d) p a → Lex n k p a
  | 0, k, _, _, h => h
  | d + 1, k, h0, hn, h => by
    cases hk : a k with
    | true => exact .inl ⟨k, Nat.le_refl _, by omega, fun j h1 h2 => by omega, h0 k (Nat.le_refl _) (by omega), hk⟩
    | false =>
      have := Lex.down d (k + 1) (fun i h1 h2 => h0 i (by omega) (by omega)) (by omega) (by rwa [show k + 1 + d = k + (d + 1) by omega])
      exact this.step (by rw [h0 k (Nat.le_refl _) (by omega), hk])
theorem pick_lex (w : Wf n ns) : ∀ {f : Nat}, Ref ns f → ∀ {a : Nat → Bool}, eval ns a f = true → ∀ k, k ≤ tv n ns f → Lex n k (pickF n ns f) a := by
  intro f
  induction f using Nat.strongRecOn with
  | ind f ih =>
    intro hf a ha k hk
    have htv := w.tv_le hf
    obtain ⟨d, hd⟩ : ∃ d, tv n ns f = k + d := ⟨tv n ns f - k, by omega⟩
    refine Lex.down d k (fun i h1 h2 => pick_low w hf i (by omega)) (by omega) ?_
    rw [← hd]
    rcases Nat.lt_or_ge f 2 with h | h
    · rw [tv_lt h]
      exact .inr fun i h1 h2 => by omega
    · have t1 := w.tv_low h hf
      have t2 := w.tv_high h hf
      rw [pick_node w h hf]
      rw [eval_node w a h hf, show (at_ n ns f).v = tv n ns f from rfl] at ha
      by_cases hl : (at_ n ns f).low = 0
      · rw [if_pos hl]
        cases hv : a (tv n ns f) with
        | false =>
          rw [hv, hl, eval_zero] at ha
          simp at ha
        | true =>
          rw [hv] at ha
          have := ih _ (w.lt_high h hf) (w.ref_high hf) (by simpa using ha) (tv n ns f + 1) (by omega)
          refine Lex.step ?_ (by rw [upd_same, hv])
          rcases this with ⟨i, h1, h2, h3, h4, h5⟩ | h3
          · exact .inl ⟨i, h1, h2, fun j hj hji => by rw [upd_ne (by omega)]; exact h3 j hj hji, by rw [upd_ne (by omega)]; exact h4, h5⟩
          · exact .inr fun i hi hin => by rw [upd_ne (by omega)]; exact h3 i hi hin
      · rw [if_neg hl]
        have pv := pick_low w (w.ref_low hf) _ t1
        cases hv : a (tv n ns f) with
        | true => exact .inl ⟨tv n ns f, Nat.le_refl _, w.tv_var h hf, fun j h1 h2 => by omega, pv, hv⟩
        | false =>
          rw [hv] at ha
          exact (ih _ (w.lt_low h hf) (w.ref_low hf) (by simpa using ha) (tv n ns f + 1) (by omega)).step (by rw [pv, hv])
end
theorem rk_congr : ∀ {n : Nat} {a b : Nat → Bool}, (∀ i, i < n → a i = b i) → rk n a = rk n b
  | 0, _, _, _ => rfl
  | n + 1, a, b, h => by rw [rk, rk, rk_congr (n := n) fun i hi => h i (by omega), h n (by omega)]
theorem rk_lex : ∀ {n : Nat} {p a : Nat → Bool}, Lex n 0 p a → rk n p ≤ rk n a
  | 0, _, _, _ => Nat.le_refl _
  | n + 1, p, a, h => by
    rw [rk, rk]
    rcases h with ⟨i, h1, h2, h3, h4, h5⟩ | h
    · by_cases hi : i = n
      · subst hi
        rw [rk_congr (n := i) (a := p) (b := a) fun j hj => h3 j (by omega) hj, h4, h5]
        simp
      · -- the earlier bits decide
        have hlt : rk n p < rk n a := by
          have h' : ∀ (m : Nat), i < m → rk m p < rk m a := by
            intro m
            induction m with
            | zero => omega
            | succ m ih =>
              intro hm
              rw [rk, rk]
              by_cases him : i = m
              · subst him
                rw [rk_congr (n := i) (a := p) (b := a) fun j hj => h3 j (by omega) hj, h4, h5]
                simp
              · have := ih (by omega)
                cases p m <;> cases a m <;> simp <;> omega
          exact h' n (by omega)
        cases p n <;> cases a n <;> simp <;> omega
    · rw [rk_congr (n := n) (a := p) (b := a) fun j hj => h j (by omega) (by omega), h n (by omega) (by omega)]
      exact Nat.le_refl _
theorem pick_least {n : Nat} {ns : Ns} (w : Wf n ns) {f : Nat} (hf : Ref ns f) {a : Nat} (ha : a < 2 ^ n) (h : eval ns (asg n a) f = true) : rk n (pickF n ns f) ≤ a := by
  have := rk_lex (pick_lex w hf h 0 (Nat.zero_le _))
  rwa [rk_asg ha] at this
/-! ### Paths -/
abbrev Fc := Nat × Nat
def cubeF (n : Nat) (ns : Ns) (f : Nat) : List (List Fc) :=
  if h : f < 2 then (if f = 0 then [] else [[]]) else
    let d := at_ n ns f
    if hl : d.low < f ∧ d.high < f then (cubeF n ns d.low).map ((d.v, 0) :: ·) ++ (cubeF n ns d.high).map ((d.v, 1) :: ·) else []
termination_by f
decreasing_by
  · exact hl.1
  · exact hl.2
section
variable {n : Nat} {ns : Ns}
theorem cube_zero : cubeF n ns 0 = [] := by unfold cubeF; simp
theorem cube_one : cubeF n ns 1 = [[]] := by unfold cubeF; simp
theorem cube_node (w : Wf n ns) {f : Nat} (h : 2 ≤ f) (hf : Ref ns f) : cubeF n ns f = (cubeF n ns (at_ n ns f).low).map ((tv n ns f, 0) :: ·) ++ (cubeF n ns (at_ n ns f).high).map ((tv n ns f, 1) :: ·) := by
  conv => lhs; unfold cubeF
  rw [dif_neg (by omega)]
  simp only
  rw [dif_pos ⟨w.lt_low h hf, w.lt_high h hf⟩]
  rfl
def fitsC (a : Nat → Bool) (c : List Fc) : Bool := c.all fun q => a q.1 == decide (q.2 = 1)
/-- Each assignment for which the function is true fits one path, another one none. -/
theorem cube_hits (w : Wf n ns) (a : Nat → Bool) : ∀ {f : Nat}, Ref ns f → ((cubeF n ns f).filter (fitsC a)).length = (eval ns a f).toNat := by
  intro f
  induction f using Nat.strongRecOn with
  | ind f ih =>
    intro hf
    rcases Nat.lt_or_ge f 2 with h | h
    · have : f = 0 ∨ f = 1 := by omega
      rcases this with rfl | rfl
      · rw [cube_zero, eval_zero]; rfl
      · rw [cube_one, eval_one]; rfl
    · have key : ∀ (x : Nat) (l : List (List Fc)), ((l.map ((tv n ns f, x) :: ·)).filter (fitsC a)).length = if a (tv n ns f) = decide (x = 1) then (l.filter (fitsC a)).length else 0 := by
        intro x l
        induction l with
        | nil => simp
        | cons c l ihl =>
          rw [List.map_cons, List.filter_cons, List.filter_cons]
          by_cases he : a (tv n ns f) = decide (x = 1)
          · have e1 : fitsC a ((tv n ns f, x) :: c) = fitsC a c := by simp [fitsC, he]
            rw [if_pos he] at ihl
            rw [if_pos he, e1]
            by_cases h1 : fitsC a c = true
            · rw [if_pos h1, if_pos h1, List.length_cons, List.length_cons, ihl]
            · rw [if_neg h1, if_neg h1, ihl]
          · have e1 : fitsC a ((tv n ns f, x) :: c) = false := by simp [fitsC, he]
            rw [if_neg he] at ihl
            rw [if_neg he, e1]
            simp [ihl]
      rw [cube_node w h hf, List.filter_append, List.length_append, key, key, ih _ (w.lt_low h hf) (w.ref_low hf), ih _ (w.lt_high h hf) (w.ref_high hf), eval_node w a h hf, show (at_ n ns f).v = tv n ns f from rfl]
      cases a (tv n ns f) <;> simp
/-- At most as many as the nodes below it allow. -/
theorem cube_len (w : Wf n ns) : ∀ {f : Nat}, Ref ns f → (cubeF n ns f).length ≤ 2 ^ (n - tv n ns f) := by
  intro f
  induction f using Nat.strongRecOn with
  | ind f ih =>
    intro hf
    rcases Nat.lt_or_ge f 2 with h | h
    · have : f = 0 ∨ f = 1 := by omega
      rcases this with rfl | rfl
      · rw [cube_zero]; simp
      · rw [cube_one]; exact Nat.two_pow_pos _
    · rw [cube_node w h hf, List.length_append, List.length_map, List.length_map]
      have t1 := w.tv_low h hf
      have t2 := w.tv_high h hf
      have tvn := w.tv_var h hf
      have b0 := two_half (show 0 < n - tv n ns f by omega)
      have b1 := two_mono (show n - tv n ns (at_ n ns f).low ≤ n - tv n ns f - 1 by omega)
      have b2 := two_mono (show n - tv n ns (at_ n ns f).high ≤ n - tv n ns f - 1 by omega)
      have := ih _ (w.lt_low h hf) (w.ref_low hf)
      have := ih _ (w.lt_high h hf) (w.ref_high hf)
      omega
end
end Go.Bd
namespace Go.Bd
section
variable {n : Nat} {ns ns' : Ns}
theorem Rch.of_ext (w : Wf n ns) (hx : Ext n ns ns') {f y : Nat} (h : Rch n ns' f y) (hf : Ref ns f) : Rch n ns f y := by
  induction h with
  | self h => exact .self h
  | low h _ ih => rw [hx.at hf] at ih; exact .low h (ih (w.ref_low hf))
  | high h _ ih => rw [hx.at hf] at ih; exact .high h (ih (w.ref_high hf))
theorem sup_ext (w : Wf n ns) (hx : Ext n ns ns') {S : Nat → Prop} {f : Nat} (hf : Ref ns f) (hS : ∀ y, Rch n ns f y → S (tv n ns y)) : ∀ y, Rch n ns' f y → S (tv n ns' y) := fun y hy => by
  have := hy.of_ext w hx hf
  rw [hx.tv (this.ref w hf)]; exact hS y this
end
end Go.Bd
end
section
set_option linter.unusedVariables false
set_option linter.unusedSimpArgs false
namespace Go.Bd
theorem bool_iff {x y : Bool} (h : x = true ↔ y = true) : x = y := by cases x <;> cases y <;> simp_all
/-! ### Quantifiers -/
theorem opB_01 {op : Nat} (h : op ≤ 1) (x y : Bool) : opB op x y = if op = 1 then x || y else x && y := by
  have : op = 0 ∨ op = 1 := by omega
  rcases this with rfl | rfl <;> simp [opB]
/-- One variable more. -/
theorem qS_snoc {op : Nat} (hop : op ≤ 1) {inn inn' : Nat → Bool} {v : Nat} (hi : ∀ i, inn' i = (inn i || decide (i = v))) (F : (Nat → Bool) → Bool) (a : Nat → Bool) :
    qS op inn' F a ↔ if op = 1 then qS op inn F (upd a v false) ∨ qS op inn F (upd a v true) else qS op inn F (upd a v false) ∧ qS op inn F (upd a v true) := by
  have off1 : ∀ {c : Nat → Bool} {x : Bool}, Off inn (upd a v x) c → Off inn' a c := fun {c x} h i hi' => by
    rw [hi] at hi'
    simp at hi'
    rw [h i hi'.1, upd_ne hi'.2]
  have off2 : ∀ {c : Nat → Bool}, Off inn' a c → inn v = false → Off inn (upd a v (c v)) c := fun {c} h hv i hi' => by
    by_cases he : i = v
    · subst he; rw [upd_same]
    · rw [upd_ne he]
      exact h i (by rw [hi]; simp [hi', he])
  have off3 : ∀ {c : Nat → Bool}, Off inn' a c → inn v = true → ∀ x, Off inn (upd a v x) c := fun {c} h hv x i hi' => by
    have he : i ≠ v := fun e => by rw [e, hv] at hi'; cases hi'
    rw [upd_ne he]
    exact h i (by rw [hi]; simp [hi', he])
  by_cases h1 : op = 1
  · subst h1
    simp only [qS, if_true]
    constructor
    · rintro ⟨c, hc, hF⟩
      cases hv : inn v with
      | true => exact .inl ⟨c, off3 hc hv false, hF⟩
      | false =>
        have := off2 hc hv
        cases hcv : c v with
        | true => rw [hcv] at this; exact .inr ⟨c, this, hF⟩
        | false => rw [hcv] at this; exact .inl ⟨c, this, hF⟩
    · rintro (⟨c, hc, hF⟩ | ⟨c, hc, hF⟩)
      · exact ⟨c, off1 hc, hF⟩
      · exact ⟨c, off1 hc, hF⟩
  · simp only [qS, h1, if_false]
    constructor
    · intro h
      exact ⟨fun c hc => h c (off1 hc), fun c hc => h c (off1 hc)⟩
    · rintro ⟨h2, h3⟩ c hc
      cases hv : inn v with
      | true => exact h2 c (off3 hc hv false)
      | false =>
        have := off2 hc hv
        cases hcv : c v with
        | true => rw [hcv] at this; exact h3 c this
        | false => rw [hcv] at this; exact h2 c this
theorem qS_none {op : Nat} {inn : Nat → Bool} (h : ∀ i, inn i = false) (F : (Nat → Bool) → Bool) (a : Nat → Bool) : qS op inn F a ↔ F a = true := by
  have e : ∀ c, Off inn a c ↔ c = a := fun c => ⟨fun hc => funext fun i => hc i (h i), fun e => by subst e; exact fun _ _ => rfl⟩
  unfold qS
  split
  · exact ⟨fun ⟨c, hc, hF⟩ => by rw [(e c).1 hc] at hF; exact hF, fun hF => ⟨a, (e a).2 rfl, hF⟩⟩
  · exact ⟨fun h => h a ((e a).2 rfl), fun hF c hc => by rw [(e c).1 hc]; exact hF⟩
theorem qS_qua {op : Nat} (hop : op ≤ 1) (F : (Nat → Bool) → Bool) : ∀ (k : Nat) (l : List Nat), k = l.length → ∀ {inn : Nat → Bool}, (∀ i, inn i = decide (i ∈ l)) → ∀ a, qS op inn F a ↔ quaF op F l a = true
  | 0, l, hk, inn, hi, a => by
    have : l = [] := List.length_eq_zero_iff.1 hk.symm
    subst this
    exact qS_none (by simpa using hi) F a
  | k + 1, l, hk, inn, hi, a => by
    have hne : l ≠ [] := fun e => by subst e; simp at hk
    obtain ⟨l', v, rfl⟩ : ∃ l' v, l = l' ++ [v] := ⟨l.dropLast, l.getLast hne, (List.dropLast_concat_getLast hne).symm⟩
    have ih := qS_qua hop F k l' (by simp at hk; omega) (inn := fun i => decide (i ∈ l')) (fun i => rfl)
    rw [qS_snoc hop (inn := fun i => decide (i ∈ l')) (v := v) (fun i => by rw [hi]; simp) F a, quaF_snoc]
    rw [ih, ih]
    show _ ↔ opB op (resF (quaF op F l') v false a) (resF (quaF op F l') v true a) = true
    rw [opB_01 hop]
    show (if op = 1 then quaF op F l' (upd a v false) = true ∨ quaF op F l' (upd a v true) = true else quaF op F l' (upd a v false) = true ∧ quaF op F l' (upd a v true) = true) ↔ (if op = 1 then quaF op F l' (upd a v false) || quaF op F l' (upd a v true) else quaF op F l' (upd a v false) && quaF op F l' (upd a v true)) = true
    split <;> simp
/-- A variable twice is a variable once. -/
theorem qS_inn {op : Nat} {inn inn' : Nat → Bool} (h : ∀ i, inn i = inn' i) (F : (Nat → Bool) → Bool) (a : Nat → Bool) : qS op inn F a ↔ qS op inn' F a := by
  have : inn = inn' := funext h
  rw [this]
/-! ### Counts -/
def tb : Nat → Nat → ((Nat → Bool) → Bool) → List Bool
  | 0, _, F => [F fun _ => false]
  | d + 1, k, F => tb d (k + 1) (fun a => F (upd a k false)) ++ tb d (k + 1) (fun a => F (upd a k true))
theorem tb_num : ∀ (d k : Nat) (F : (Nat → Bool) → Bool), (tb d k F).countP id = num d k F
  | 0, k, F => by
    rw [tb, num]
    cases F fun _ => false <;> simp
  | d + 1, k, F => by rw [tb, num, List.countP_append, tb_num, tb_num]
theorem tb_len : ∀ (d k : Nat) (F : (Nat → Bool) → Bool), (tb d k F).length = 2 ^ d
  | 0, k, F => by simp [tb]
  | d + 1, k, F => by rw [tb, List.length_append, tb_len, tb_len, Nat.pow_succ]; omega
/-- The assignment of d variables from k on. -/
def asgk (d k a : Nat) : Nat → Bool := fun i => decide (k ≤ i) && decide (i < k + d) && a.testBit (k + d - 1 - i)
theorem tb_get : ∀ (d k : Nat) (F : (Nat → Bool) → Bool) (a : Nat), a < 2 ^ d → (tb d k F)[a]? = some (F (asgk d k a))
  | 0, k, F, a, h => by
    have : a = 0 := by simp at h; exact h
    subst this
    rw [tb]
    simp only [List.getElem?_cons_zero]
    congr 2
    funext i
    unfold asgk
    by_cases h1 : k ≤ i
    · have : ¬ i < k + 0 := by omega
      simp [this]
    · simp [h1]
  | d + 1, k, F, a, h => by
    rw [tb]
    have key : ∀ (x : Bool) (a' : Nat), a' < 2 ^ d → a = a' + (if x then 2 ^ d else 0) → upd (asgk d (k + 1) a') k x = asgk (d + 1) k a := by
      intro x a' ha' he
      have tb' : ∀ j, a.testBit j = if j = d then x else a'.testBit j := fun j => by
        cases x with
        | false =>
          simp at he
          subst he
          by_cases hj : j = d
          · rw [if_pos hj, hj]; exact Nat.testBit_lt_two_pow ha'
          · rw [if_neg hj]
        | true =>
          simp at he
          rw [he, show a' + 2 ^ d = 2 ^ d * 1 + a' by omega, Nat.testBit_two_pow_mul_add _ ha']
          by_cases hj : j < d
          · rw [if_pos hj, if_neg (by omega)]
          · rw [if_neg hj]
            by_cases hj2 : j = d
            · rw [if_pos hj2, hj2, Nat.sub_self]; rfl
            · rw [if_neg hj2, Nat.testBit_lt_two_pow (show a' < 2 ^ j from Nat.lt_of_lt_of_le ha' (Nat.pow_le_pow_right (by omega) (by omega)))]
              rw [show j - d = (j - d - 1) + 1 by omega, Nat.testBit_succ]
              exact Nat.zero_testBit _
      funext i
      unfold upd asgk
      rw [tb']
      by_cases h1 : i = k
      · subst h1
        rw [if_pos rfl, if_pos (by omega)]
        simp
      · rw [if_neg h1]
        by_cases h2 : k ≤ i
        · by_cases h3 : i < k + (d + 1)
          · rw [if_neg (by omega)]
            have e1 : k + 1 ≤ i := by omega
            have e2 : i < k + 1 + d := by omega
            simp [h2, h3, e1, e2]
            first | done | (congr 1; omega)
          · have e2 : ¬ i < k + 1 + d := by omega
            simp [h3, e2]
        · have e1 : ¬ k + 1 ≤ i := by omega
          simp [h2, e1]
    rcases Nat.lt_or_ge a (2 ^ d) with h1 | h1
    · rw [List.getElem?_append_left (by rw [tb_len]; exact h1), tb_get d (k + 1) _ a h1, key false a h1 (by simp)]
    · rw [Nat.pow_succ] at h
      rw [List.getElem?_append_right (by rw [tb_len]; exact h1), tb_len, tb_get d (k + 1) _ (a - 2 ^ d) (by omega), key true (a - 2 ^ d) (by omega) (by simp; omega)]
theorem tab_tb (n : Nat) (F : (Nat → Bool) → Bool) : tab n F = tb n 0 F := by
  refine List.ext_getElem? fun a => ?_
  rcases Nat.lt_or_ge a (2 ^ n) with h | h
  · rw [tab_get h, tb_get n 0 F a h]
    congr 2
    funext i
    simp [asg, asgk]
  · rw [List.getElem?_eq_none (by rw [tab_len]; exact h), List.getElem?_eq_none (by rw [tb_len]; exact h)]
theorem tab_num (n : Nat) (F : (Nat → Bool) → Bool) : (tab n F).countP id = num n 0 F := by rw [tab_tb, tb_num]
/-! ### Supports -/
section
variable {n : Nat} {ns : Ns}
theorem Mean.res {f : Nat} {F : (Nat → Bool) → Bool} (h : Mean n ns f F) (w : Wf n ns) (v : Nat) (x : Bool) : Loc n (resF F v x) := (h.loc w).res
/-- A table depends on a variable where something that can be reached bears it. -/
theorem Mean.dep {f : Nat} {F : (Nat → Bool) → Bool} (h : Mean n ns f F) (w : Wf n ns) (v : Nat) : tab n (resF F v false) ≠ tab n (resF F v true) ↔ ∃ y, Rch n ns f y ∧ tv n ns y = v := by
  rw [reach_dep w v h.ref]
  constructor
  · intro hne
    rcases Classical.em (∃ a, eval ns (upd a v false) f ≠ eval ns (upd a v true) f) with h1 | h1
    · exact h1
    · refine absurd (tab_congr fun a => ?_) hne
      rcases Classical.em (eval ns (upd a v false) f = eval ns (upd a v true) f) with h2 | h2
      · unfold resF; rw [← h.ev, ← h.ev]; exact h2
      · exact absurd ⟨a, h2⟩ h1
  · rintro ⟨a, ha⟩ e
    refine ha ?_
    rw [h.ev, h.ev]
    exact tab_inj (h.res w v false) (h.res w v true) e a
/-- Strictly ascending lists of the same numbers are the same. -/
theorem asc_unique : ∀ {L L' : List Int}, L.Pairwise (· < ·) → L'.Pairwise (· < ·) → (∀ x, x ∈ L ↔ x ∈ L') → L = L'
  | [], [], _, _, _ => rfl
  | [], y :: l', _, _, h => by have := (h y).2 (by simp); cases this
  | x :: l, [], _, _, h => by have := (h x).1 (by simp); cases this
  | x :: l, y :: l', h1, h2, h => by
    rw [List.pairwise_cons] at h1 h2
    have hxy : x = y := by
      have hx := (h x).1 (by simp)
      have hy := (h y).2 (by simp)
      rcases List.mem_cons.1 hx with e | hx
      · exact e
      · rcases List.mem_cons.1 hy with e | hy
        · exact e.symm
        · have := h1.1 y hy; have := h2.1 x hx; omega
    subst hxy
    rw [asc_unique h1.2 h2.2 fun z => ?_]
    constructor
    · intro hz
      rcases List.mem_cons.1 ((h z).1 (by simp [hz])) with e | e
      · subst e; have := h1.1 z hz; omega
      · exact e
    · intro hz
      rcases List.mem_cons.1 ((h z).2 (by simp [hz])) with e | e
      · subst e; have := h2.1 z hz; omega
      · exact e
end
end Go.Bd
end
