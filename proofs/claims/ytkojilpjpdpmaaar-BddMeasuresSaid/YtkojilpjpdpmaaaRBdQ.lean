/- quantifiers, plainly -/
import Derived.Test.YtkojilpjpdpmaaaRBdAp
set_option linter.unusedVariables false
set_option linter.unusedSimpArgs false
namespace Go.Bd
def Off (inn : Nat → Bool) (a c : Nat → Bool) : Prop := ∀ i, inn i = false → c i = a i
def qS (op : Nat) (inn : Nat → Bool) (F : (Nat → Bool) → Bool) (a : Nat → Bool) : Prop :=
  if op = 1 then ∃ c, Off inn a c ∧ F c = true else ∀ c, Off inn a c → F c = true
theorem qS_congr {op : Nat} {inn : Nat → Bool} {F : (Nat → Bool) → Bool} {k : Nat} (hF : ∀ a b : Nat → Bool, (∀ i, k ≤ i → a i = b i) → F a = F b) {a b : Nat → Bool} (hab : ∀ i, k ≤ i → a i = b i) (h : qS op inn F a) : qS op inn F b := by
  have mv : ∀ {a b : Nat → Bool}, (∀ i, k ≤ i → a i = b i) → ∀ c, Off inn a c → ∃ c', Off inn b c' ∧ F c' = F c := by
    intro a b hab c hc
    refine ⟨fun i => if k ≤ i then c i else b i, fun i hi => ?_, hF _ _ fun i hi => by simp [hi]⟩
    by_cases hk : k ≤ i
    · simp only [hk, if_true]; rw [hc i hi, hab i hk]
    · simp only [hk, if_false]
  unfold qS at *
  split
  · rename_i h1
    rw [if_pos h1] at h
    obtain ⟨c, hc, hF1⟩ := h
    obtain ⟨c', h2, h3⟩ := mv hab c hc
    exact ⟨c', h2, by rw [h3]; exact hF1⟩
  · rename_i h1
    rw [if_neg h1] at h
    intro c hc
    obtain ⟨c', h2, h3⟩ := mv (fun i hi => (hab i hi).symm) c hc
    rw [← h3]; exact h c' h2
theorem qS_const {op : Nat} {inn : Nat → Bool} {b : Bool} {F : (Nat → Bool) → Bool} (hF : ∀ a, F a = b) (a : Nat → Bool) : qS op inn F a ↔ b = true := by
  unfold qS
  split
  · constructor
    · rintro ⟨c, _, h⟩; rw [hF] at h; exact h
    · intro h; exact ⟨a, fun _ _ => rfl, by rw [hF]; exact h⟩
  · constructor
    · intro h; have := h a (fun _ _ => rfl); rwa [hF] at this
    · intro h c _; rw [hF]; exact h
section
variable {op v : Nat} {inn : Nat → Bool} {F L H : (Nat → Bool) → Bool}
theorem qS_out (hF : ∀ a, F a = if a v then H a else L a) (hv : inn v = false) (a : Nat → Bool) : qS op inn F a ↔ if a v then qS op inn H a else qS op inn L a := by
  unfold qS
  split
  · split
    · rename_i hav
      constructor
      · rintro ⟨c, hc, h⟩; exact ⟨c, hc, by rw [hF, hc v hv, hav] at h; simpa using h⟩
      · rintro ⟨c, hc, h⟩; exact ⟨c, hc, by rw [hF, hc v hv, hav]; simpa using h⟩
    · rename_i hav
      have hav : a v = false := by simpa using hav
      constructor
      · rintro ⟨c, hc, h⟩; exact ⟨c, hc, by rw [hF, hc v hv, hav] at h; simpa using h⟩
      · rintro ⟨c, hc, h⟩; exact ⟨c, hc, by rw [hF, hc v hv, hav]; simpa using h⟩
  · split
    · rename_i hav
      constructor
      · intro h c hc; have := h c hc; rw [hF, hc v hv, hav] at this; simpa using this
      · intro h c hc; rw [hF, hc v hv, hav]; simpa using h c hc
    · rename_i hav
      have hav : a v = false := by simpa using hav
      constructor
      · intro h c hc; have := h c hc; rw [hF, hc v hv, hav] at this; simpa using this
      · intro h c hc; rw [hF, hc v hv, hav]; simpa using h c hc
theorem qS_in (hop : op ≤ 1) (hF : ∀ a, F a = if a v then H a else L a) (hL : ∀ a x, L (upd a v x) = L a) (hH : ∀ a x, H (upd a v x) = H a) (hv : inn v = true) {a : Nat → Bool} {x y : Bool}
    (hx : x = true ↔ qS op inn L a) (hy : y = true ↔ qS op inn H a) : qS op inn F a ↔ opB op x y = true := by
  have off : ∀ {c : Nat → Bool} (z : Bool), Off inn a c → Off inn a (upd c v z) := fun z hc i hi => by
    by_cases h : i = v
    · subst h; rw [hv] at hi; cases hi
    · rw [upd_ne h]; exact hc i hi
  have e1 : ∀ c, F (upd c v true) = H c := fun c => by rw [hF, upd_same]; simp [hH]
  have e0 : ∀ c, F (upd c v false) = L c := fun c => by rw [hF, upd_same]; simp [hL]
  rcases Nat.lt_or_ge op 1 with h | h
  · have : op = 0 := by omega
    subst this
    simp only [opB, if_true, Bool.and_eq_true, hx, hy]
    simp only [qS]
    simp only [show ¬ (0 : Nat) = 1 by omega, if_false]
    constructor
    · intro h; exact ⟨fun c hc => by rw [← e0]; exact h _ (off false hc), fun c hc => by rw [← e1]; exact h _ (off true hc)⟩
    · rintro ⟨h1, h2⟩ c hc
      rw [hF]
      split
      · exact h2 c hc
      · exact h1 c hc
  · have : op = 1 := by omega
    subst this
    simp only [opB, show ¬ (1 : Nat) = 0 by omega, if_false, if_true, Bool.or_eq_true, hx, hy]
    simp only [qS, if_true]
    constructor
    · rintro ⟨c, hc, h⟩
      rw [hF] at h
      split at h
      · exact .inr ⟨c, hc, h⟩
      · exact .inl ⟨c, hc, h⟩
    · rintro (⟨c, hc, h⟩ | ⟨c, hc, h⟩)
      · exact ⟨_, off false hc, by rw [e0]; exact h⟩
      · exact ⟨_, off true hc, by rw [e1]; exact h⟩
end
/-! ### The pairs that apply looks at -/
def pairs (n op : Nat) (ns : Ns) : Nat → Nat → Nat → List (Nat × Nat)
  | 0, _, _ => []
  | d + 1, f, g =>
    if (sh op (min f g) (max f g)).2 = true then [] else
    (min f g, max f g) :: (pairs n op ns d (lo n ns (min (tv n ns (min f g)) (tv n ns (max f g))) (min f g)) (lo n ns (min (tv n ns (min f g)) (tv n ns (max f g))) (max f g)) ++
      pairs n op ns d (hi n ns (min (tv n ns (min f g)) (tv n ns (max f g))) (min f g)) (hi n ns (min (tv n ns (min f g)) (tv n ns (max f g))) (max f g)))
theorem pairs_len (n op : Nat) (ns : Ns) : ∀ d f g, (pairs n op ns d f g).length ≤ 2 ^ d - 1
  | 0, f, g => by simp [pairs]
  | d + 1, f, g => by
    unfold pairs
    split
    · simp
    · have h1 := pairs_len n op ns d (lo n ns (min (tv n ns (min f g)) (tv n ns (max f g))) (min f g)) (lo n ns (min (tv n ns (min f g)) (tv n ns (max f g))) (max f g))
      have h2 := pairs_len n op ns d (hi n ns (min (tv n ns (min f g)) (tv n ns (max f g))) (min f g)) (hi n ns (min (tv n ns (min f g)) (tv n ns (max f g))) (max f g))
      have h3 : 0 < 2 ^ d := Nat.two_pow_pos d
      rw [Nat.pow_succ]
      simp only [List.length_cons, List.length_append]
      omega
theorem pairs_clo {n op : Nat} {ns : Ns} (w : Wf n ns) : ∀ d f g, Ref ns f → Ref ns g → n ≤ d + min (tv n ns f) (tv n ns g) →
    Sn op (fun x y => (x, y) ∈ pairs n op ns d f g) f g ∧ Clo n op ns (fun x y => (x, y) ∈ pairs n op ns d f g)
  | 0, f, g, hf, hg, hd => by
    have hc : ∀ x, Ref ns x → n ≤ tv n ns x → x < 2 := fun x hx h => const_of_top w hx h
    have h1 := hc f hf (by omega)
    have h2 := hc g hg (by omega)
    refine ⟨.inl ?_, fun x y h => by simp [pairs] at h⟩
    cases hs : sh op (min f g) (max f g) with
    | mk r t =>
    cases t with
    | true => rfl
    | false => have := sh_no hs (by omega); omega
  | d + 1, f, g, hf, hg, hd => by
    have hp : Ref ns (min f g) := by unfold Ref at *; omega
    have hq : Ref ns (max f g) := by unfold Ref at *; omega
    have hm : min (tv n ns (min f g)) (tv n ns (max f g)) = min (tv n ns f) (tv n ns g) := by
      rcases Nat.le_total f g with h | h
      · rw [Nat.min_eq_left h, Nat.max_eq_right h]
      · rw [Nat.min_eq_right h, Nat.max_eq_left h, Nat.min_comm]
    unfold pairs
    by_cases hs : (sh op (min f g) (max f g)).2 = true
    · rw [if_pos hs]
      exact ⟨.inl hs, fun x y h => by simp at h⟩
    · rw [if_neg hs]
      have h2 : 2 ≤ max f g := sh_no (r := (sh op (min f g) (max f g)).1) (f := min f g) (op := op) (by
        cases hh : sh op (min f g) (max f g) with
        | mk r t => rw [hh] at hs; simp at hs; rw [hs]) (by omega)
      have hv : min (tv n ns (min f g)) (tv n ns (max f g)) < n := by have := w.tv_var h2 hq; omega
      obtain ⟨v, hve⟩ : ∃ v, v = min (tv n ns (min f g)) (tv n ns (max f g)) := ⟨_, rfl⟩
      rw [← hve] at hv hm ⊢
      have cp := cof_of w hp (v := v) (by omega) hv
      have cq := cof_of w hq (v := v) (by omega) hv
      have i1 := pairs_clo (op := op) w d _ _ cp.rl cq.rl (by have := cp.tl; have := cq.tl; omega)
      have i2 := pairs_clo (op := op) w d _ _ cp.rh cq.rh (by have := cp.th; have := cq.th; omega)
      have mono : ∀ {S T : Nat → Nat → Prop}, (∀ x y, S x y → T x y) → ∀ {x y}, Sn op S x y → Sn op T x y := fun h _ _ hS => hS.imp id (h _ _)
      refine ⟨.inr (by simp), fun x y hxy => ?_⟩
      rcases List.mem_cons.1 hxy with e | hxy
      · simp only [Prod.mk.injEq] at e
        obtain ⟨rfl, rfl⟩ := e
        rw [← hve]
        exact ⟨hp, hq, mono (fun x y h => by simp [h]) i1.1, mono (fun x y h => by simp [h]) i2.1⟩
      · rcases List.mem_append.1 hxy with h | h
        · obtain ⟨a1, a2, a3, a4⟩ := i1.2 x y h
          exact ⟨a1, a2, mono (fun x y h => by simp [h]) a3, mono (fun x y h => by simp [h]) a4⟩
        · obtain ⟨a1, a2, a3, a4⟩ := i2.2 x y h
          exact ⟨a1, a2, mono (fun x y h => by simp [h]) a3, mono (fun x y h => by simp [h]) a4⟩
/-! ### What quantify does -/
abbrev Mem1 := List (Nat × Nat)
def MemQ (op : Nat) (inn : Nat → Bool) (ns : Ns) (M : Mem1) : Prop := ∀ q ∈ M, Ref ns q.1 ∧ Ref ns q.2 ∧ ∀ a, eval ns a q.2 = true ↔ qS op inn (fun c => eval ns c q.1) a
theorem MemQ.ext {n op : Nat} {inn : Nat → Bool} {ns ns' : Ns} {M : Mem1} (h : MemQ op inn ns M) (w : Wf n ns) (hx : Ext n ns ns') : MemQ op inn ns' M := fun q hq => by
  obtain ⟨h1, h2, h3⟩ := h q hq
  refine ⟨hx.ref h1, hx.ref h2, fun a => ?_⟩
  rw [hx.eval w a h2, h3]
  have : (fun c => eval ns' c q.1) = fun c => eval ns c q.1 := funext fun c => hx.eval w c h1
  rw [this]
def qB (d : Nat) : Nat := d * 2 ^ d
structure QOk (n cap op : Nat) (inn : Nat → Bool) (ns : Ns) (f : Nat) (r : Option Nat) (ns' : Ns) (M' : Mem1) : Prop where
  ext : Ext n ns ns'
  lim : ns'.length ≤ cap
  mem : MemQ op inn ns' M'
  ok : ∀ x, r = some x → Ref ns' x ∧ ∀ a, eval ns' a x = true ↔ qS op inn (fun c => eval ns c f) a
  cnt : ns'.length ≤ ns.length + qB (n - tv n ns f)
  full : r = none → cap < ns.length + qB (n - tv n ns f)
theorem mem1_small {ns : Ns} {M : Mem1} {N : Nat} (hN : ns.length + 2 ≤ N) (hr : ∀ q ∈ M, Ref ns q.1) (hn : (M.map (·.1)).Nodup) : M.length ≤ N := by
  have := nodup_len _ (List.range N) hn (fun x hx => by
    obtain ⟨q, hq, rfl⟩ := List.mem_map.1 hx
    have := hr q hq
    unfold Ref at this
    exact List.mem_range.2 (by omega))
  simpa using this
section
variable {n cap op : Nat} {inn : Nat → Bool} {ns ns1 ns2 : Ns} {M M1 M2 : Mem1} {f : Nat}
theorem qB_half {d : Nat} (h : 0 < d) : qB (d - 1) + qB (d - 1) + 2 ^ (d - 1) ≤ qB d := by
  unfold qB
  obtain ⟨e, rfl⟩ : ∃ e, d = e + 1 := ⟨d - 1, by omega⟩
  rw [Nat.add_sub_cancel, Nat.pow_succ, Nat.add_mul, Nat.one_mul]
  have : e * 2 ^ e + e * 2 ^ e = e * (2 ^ e * 2) := by rw [← Nat.mul_assoc, Nat.mul_two]
  omega
theorem qB_mono {a b : Nat} (h : a ≤ b) : qB a ≤ qB b := Nat.mul_le_mul h (Nat.pow_le_pow_right (by omega) h)
theorem q_const (w : Wf n ns) (hlim : ns.length ≤ cap) (hf : Ref ns f) (h2 : f < 2) (hM : MemQ op inn ns M) : QOk n cap op inn ns f (some f) ns M := by
  refine ⟨Ext.refl w, hlim, hM, fun x hx => ?_, by omega, fun h => by cases h⟩
  simp only [Option.some.injEq] at hx
  subst hx
  refine ⟨hf, fun a => ?_⟩
  have : f = 0 ∨ f = 1 := by omega
  rcases this with rfl | rfl
  · rw [qS_const (b := false) (fun a => eval_zero ns a), eval_zero]
  · rw [qS_const (b := true) (fun a => eval_one ns a), eval_one]
theorem q_known {r : Nat} (w : Wf n ns) (hlim : ns.length ≤ cap) (hM : MemQ op inn ns M) (hk : (f, r) ∈ M) : QOk n cap op inn ns f (some r) ns M := by
  obtain ⟨_, h1, h2⟩ := hM _ hk
  exact ⟨Ext.refl w, hlim, hM, fun x hx => by simp only [Option.some.injEq] at hx; subst hx; exact ⟨h1, h2⟩, by omega, fun h => by cases h⟩
theorem qS_fun {F G : (Nat → Bool) → Bool} (h : ∀ c, F c = G c) (a : Nat → Bool) : qS op inn F a ↔ qS op inn G a := by
  have : F = G := funext h
  rw [this]
/-- Behind both halves. -/
structure QMid (n cap op : Nat) (inn : Nat → Bool) (ns : Ns) (f : Nat) (ns2 : Ns) (M2 : Mem1) (l h : Nat) : Prop where
  ext : Ext n ns ns2
  lim : ns2.length ≤ cap
  mem : MemQ op inn ns2 M2
  cnt : ns2.length ≤ ns.length + (qB (n - tv n ns f - 1) + qB (n - tv n ns f - 1))
  rl : Ref ns2 l
  rh : Ref ns2 h
  el : ∀ a, eval ns2 a l = true ↔ qS op inn (fun c => eval ns c (at_ n ns f).low) a
  eh : ∀ a, eval ns2 a h = true ↔ qS op inn (fun c => eval ns c (at_ n ns f).high) a
  tl : tv n ns f < tv n ns2 l
  th : tv n ns f < tv n ns2 h
theorem q_low (w : Wf n ns) (hf : Ref ns f) (h2 : 2 ≤ f) (hl : QOk n cap op inn ns (at_ n ns f).low none ns1 M1) : QOk n cap op inn ns f none ns1 M1 := by
  have t1 := w.tv_low h2 hf
  have := qB_mono (show n - tv n ns (at_ n ns f).low ≤ n - tv n ns f by omega)
  have c1 := hl.cnt
  have c2 := hl.full rfl
  exact ⟨hl.ext, hl.lim, hl.mem, fun x hx => (by cases hx), by omega, fun _ => by omega⟩
theorem q_high {l : Nat} (w : Wf n ns) (hf : Ref ns f) (h2 : 2 ≤ f) (hl : QOk n cap op inn ns (at_ n ns f).low (some l) ns1 M1) (hh : QOk n cap op inn ns1 (at_ n ns f).high none ns2 M2) : QOk n cap op inn ns f none ns2 M2 := by
  have t1 := w.tv_low h2 hf
  have t2 := w.tv_high h2 hf
  have tvn := w.tv_var h2 hf
  have e := hl.ext.tv (w.ref_high hf)
  have b0 := qB_half (show 0 < n - tv n ns f by omega)
  have hp0 := Nat.two_pow_pos (n - tv n ns f - 1)
  have b1 := qB_mono (show n - tv n ns (at_ n ns f).low ≤ n - tv n ns f - 1 by omega)
  have b2 := qB_mono (show n - tv n ns1 (at_ n ns f).high ≤ n - tv n ns f - 1 by omega)
  have c1 := hl.cnt
  have c2 := hh.cnt
  have c3 := hh.full rfl
  exact ⟨hl.ext.trans hh.ext, hh.lim, hh.mem, fun x hx => (by cases hx), by omega, fun _ => by omega⟩
theorem q_mid {l h : Nat} (w : Wf n ns) (hf : Ref ns f) (h2 : 2 ≤ f) (hl : QOk n cap op inn ns (at_ n ns f).low (some l) ns1 M1) (hh : QOk n cap op inn ns1 (at_ n ns f).high (some h) ns2 M2) : QMid n cap op inn ns f ns2 M2 l h := by
  have t1 := w.tv_low h2 hf
  have t2 := w.tv_high h2 hf
  have tvn := w.tv_var h2 hf
  have e := hl.ext.tv (w.ref_high hf)
  have b1 := qB_mono (show n - tv n ns (at_ n ns f).low ≤ n - tv n ns f - 1 by omega)
  have b2 := qB_mono (show n - tv n ns1 (at_ n ns f).high ≤ n - tv n ns f - 1 by omega)
  have c1 := hl.cnt
  have c2 := hh.cnt
  obtain ⟨rl, el⟩ := hl.ok l rfl
  obtain ⟨rh, eh⟩ := hh.ok h rfl
  have el2 : ∀ a, eval ns2 a l = true ↔ qS op inn (fun c => eval ns c (at_ n ns f).low) a := fun a => by rw [hh.ext.eval hl.ext.wf a rl, el]
  have eh2 : ∀ a, eval ns2 a h = true ↔ qS op inn (fun c => eval ns c (at_ n ns f).high) a := fun a => by
    rw [eh]
    exact qS_fun (fun c => hl.ext.eval w c (w.ref_high hf)) a
  have w2 := hh.ext.wf
  have rl2 := hh.ext.ref rl
  have bb : ∀ (x y : Bool), (x = true ↔ y = true) → x = y := fun x y h => by cases x <;> cases y <;> simp_all
  refine ⟨hl.ext.trans hh.ext, hh.lim, hh.mem, by omega, rl2, rh, el2, eh2, ?_, ?_⟩
  · refine tv_ge w2 rl2 (by omega) fun a b hab => bb _ _ ?_
    rw [el2, el2]
    have hF : ∀ a b : Nat → Bool, (∀ i, tv n ns f + 1 ≤ i → a i = b i) → eval ns a (at_ n ns f).low = eval ns b (at_ n ns f).low := fun a b h => eval_congr w (w.ref_low hf) fun i hi => h i (by omega)
    exact ⟨qS_congr hF hab, qS_congr hF fun i hi => (hab i hi).symm⟩
  · refine tv_ge w2 rh (by omega) fun a b hab => bb _ _ ?_
    rw [eh2, eh2]
    have hF : ∀ a b : Nat → Bool, (∀ i, tv n ns f + 1 ≤ i → a i = b i) → eval ns a (at_ n ns f).high = eval ns b (at_ n ns f).high := fun a b h => eval_congr w (w.ref_high hf) fun i hi => h i (by omega)
    exact ⟨qS_congr hF hab, qS_congr hF fun i hi => (hab i hi).symm⟩
/-- The last step, by whichever operation: its result means the quantified function. -/
theorem q_done {l h : Nat} {r : Option Nat} {ns3 : Ns} {M3 : Mem1} (w : Wf n ns) (hf : Ref ns f) (h2 : 2 ≤ f) (hm : QMid n cap op inn ns f ns2 M2 l h) (hx : Ext n ns2 ns3) (hlim : ns3.length ≤ cap)
    (hc : ns3.length ≤ ns2.length + 2 ^ (n - tv n ns f - 1)) (hno : r = none → cap < ns2.length + 2 ^ (n - tv n ns f - 1))
    (hok : ∀ x, r = some x → Ref ns3 x ∧ ∀ a, eval ns3 a x = true ↔ qS op inn (fun c => eval ns c f) a) (hM3 : ∀ q ∈ M3, q ∈ M2 ∨ ∃ x, r = some x ∧ q = (f, x)) :
    QOk n cap op inn ns f r ns3 M3 := by
  have tvn := w.tv_var h2 hf
  have b0 := qB_half (show 0 < n - tv n ns f by omega)
  have hp0 := Nat.two_pow_pos (n - tv n ns f - 1)
  have c1 := hm.cnt
  have hext := hm.ext.trans hx
  refine ⟨hext, hlim, ?_, hok, by omega, fun hr => by have := hno hr; omega⟩
  have hM := hm.mem.ext hm.ext.wf hx
  intro q hq
  rcases hM3 q hq with h1 | ⟨x, rfl, rfl⟩
  · exact hM q h1
  · obtain ⟨h3, h4⟩ := hok x rfl
    refine ⟨hext.ref hf, h3, fun a => ?_⟩
    rw [h4]
    exact (qS_fun (fun c => hext.eval w c hf) a).symm
theorem q_sem_in {l h : Nat} (w : Wf n ns) (hf : Ref ns f) (h2 : 2 ≤ f) (hop : op ≤ 1) (hm : QMid n cap op inn ns f ns2 M2 l h) (hv : inn (tv n ns f) = true) (a : Nat → Bool) :
    (opB op (eval ns2 a l) (eval ns2 a h) = true) ↔ qS op inn (fun c => eval ns c f) a :=
  (qS_in hop (fun a => eval_node w a h2 hf) (fun a x => eval_upd w (w.ref_low hf) (w.tv_low h2 hf)) (fun a x => eval_upd w (w.ref_high hf) (w.tv_high h2 hf)) hv (hm.el a) (hm.eh a)).symm
theorem q_sem_out {l h : Nat} (w : Wf n ns) (hf : Ref ns f) (h2 : 2 ≤ f) (hm : QMid n cap op inn ns f ns2 M2 l h) (hv : inn (tv n ns f) = false) (a : Nat → Bool) :
    ((if a (tv n ns f) then eval ns2 a h else eval ns2 a l) = true) ↔ qS op inn (fun c => eval ns c f) a := by
  rw [qS_out (fun a => eval_node w a h2 hf) hv a]
  show _ ↔ if a (tv n ns f) = true then _ else _
  split
  · exact hm.eh a
  · exact hm.el a
end
end Go.Bd
