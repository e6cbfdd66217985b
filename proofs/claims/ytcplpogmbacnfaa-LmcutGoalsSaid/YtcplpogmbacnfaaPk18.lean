/-
  A part of the proof of this claim's statement (LmYD, LmYL, LmYE, LmYM): plain theorems; no conditions beyond those each names.
-/
import Derived.Test.YtcplpogmbacnfaaPk17
section
set_option maxRecDepth 100000
set_option linter.unusedSimpArgs false
set_option linter.unusedVariables false
namespace Go.Lm
open Go.Rx
section
variable {U U' : List Un} {S0 G : List Nat} {c c' V V' : Nat → Nat} {k g : Nat}
/-- The same order of values. -/
structure OrdE (V V' : Nat → Nat) : Prop where
  lt : ∀ f g, V f < V g ↔ V' f < V' g
  fin : ∀ f, V f < Inf ↔ V' f < Inf
theorem OrdE.eq (h : OrdE V V') (f g : Nat) : V f = V g ↔ V' f = V' g := by
  have := h.lt f g
  have := h.lt g f
  omega
theorem OrdE.btr (h : OrdE V V') (f g : Nat) : btr V f g = btr V' f g := by
  unfold Go.Lm.btr
  rw [decide_eq_decide.2 (h.lt g f), decide_eq_decide.2 (h.eq f g)]
theorem OrdE.gst (h : OrdE V V') (l : List Nat) : gst V l = gst V' l := by
  have : gStep V = gStep V' := by
    funext o f
    cases o with
    | none => rfl
    | some o => simp only [gStep, h.btr]
  unfold Go.Lm.gst
  rw [this]
theorem OrdE.gr (h : OrdE V V') (l : List Nat) : Go.Rx.gr V l < Inf ↔ Go.Rx.gr V' l < Inf := by
  have hp : 0 < Inf := by unfold Inf; omega
  rw [gr_lt_iff hp, gr_lt_iff hp]
  exact forall_congr' fun x => forall_congr' fun _ => h.fin x
theorem OrdE.arcs (h : OrdE V V') (U : List Un) : arcs U V = arcs U V' := by
  unfold Go.Lm.arcs
  have e : (fun u : Un => decide (Go.Rx.gr V u.needs < Inf)) = fun u => decide (Go.Rx.gr V' u.needs < Inf) := by
    funext u
    exact decide_eq_decide.2 (h.gr u.needs)
  have e2 : arU V = arU V' := by
    funext u
    unfold arU
    rw [h.gst]
  rw [e, e2]
theorem gr_zero {l : List Nat} : gr V l = 0 ↔ ∀ x ∈ l, V x = 0 := by
  have := gr_le_iff (V := V) (l := l) (k := 0)
  simpa using this
theorem LmC.zero {N C : Nat} {r : Option (List (List Nat × Nat))} (h : LmC U S0 G c r) (hz : Szs U S0 N C c) : LmC U S0 G (fun i => 0) (r.map fun _ => []) := by
  obtain ⟨V', hV'⟩ := IsVal.ex (wc U fun _ => 0) S0
  cases hr : r with
  | none =>
    obtain ⟨f, hf, hn⟩ := h.none_inf hz hr
    refine .inf hV' ?_
    apply Nat.le_of_not_lt
    intro hlt
    have := (gr_lt_iff (by unfold Inf; omega)).1 hlt f hf
    exact hn _ _ (hV'.der f this)
  | some o =>
    obtain ⟨V, hV, hg⟩ := h.some_fin o hr
    have hg := (gr_lt_iff (by unfold Inf; omega)).1 hg
    have key : ∀ f k, Der (wc U c) S0 f k → Der (wc U fun _ => 0) S0 f 0 := by
      intro f k d
      induction d with
      | base h => exact .base h
      | step hu kk hk ih =>
        obtain ⟨u, hu2, rfl⟩ := wc_mem hu
        have := Der.step (mem_wc (c := fun _ => 0) hu2) (fun _ => 0) (fun n hn => ih n hn)
        have e : gr (fun _ => 0) u.needs = 0 := gr_zero.2 fun _ _ => rfl
        simpa [e] using this
    refine .nil hV' (gr_zero.2 fun x hx => ?_)
    have := hV'.least (key x _ (hV.der x (hg x hx)))
    omega
theorem arcs_wc : arcs (wc U c') V = arcs U V := by
  unfold arcs wc
  rw [List.filter_map, List.map_map]
  rfl
theorem wc_wc : wc (wc U c') c = wc U c := by
  unfold wc
  rw [List.map_map]
  rfl
theorem LmC.wc {r : Option (List (List Nat × Nat))} (h : LmC U S0 G c r) : LmC (wc U c') S0 G c r := by
  induction h with
  | inf hV h => exact .inf (by rw [wc_wc]; exact hV) h
  | nil hV h => exact .nil (by rw [wc_wc]; exact hV) h
  | cut hV h0 hi hc hr ih => exact .cut (by rw [wc_wc]; exact hV) h0 hi ⟨by rw [arcs_wc]; exact hc.ex, hc.asc, hc.le, hc.at_⟩ ih
end
end Go.Lm
namespace Go.Proofs.Ytcplpogmbacnfaa
open Go Go.W Go.Tk Go.Rx Go.Lm Go.Maps
end Go.Proofs.Ytcplpogmbacnfaa
end
section
set_option maxRecDepth 100000
set_option linter.unusedSimpArgs false
set_option linter.unusedVariables false
namespace Go.Lm
open Go.Rx
structure Ind (n : Nat) (U : List Un) (S0 G : List Nat) : Prop where
  u1 : ∀ u ∈ U, u.op < 2 * n ∧ u.makes = 2 * (u.op / 2) + 1 ∧ u.needs = [2 * (u.op / 2)]
  u2 : ∀ q, q < 2 * n → ∃ u ∈ U, u.op = q
  s0 : ∀ x, x ∈ S0 ↔ ∃ v, v < n ∧ x = 2 * v
  g : ∀ x, x ∈ G ↔ ∃ v, v < n ∧ x = 2 * v + 1
def mins (c : Nat → Nat) : Nat → Nat
  | 0 => 0
  | k + 1 => mins c k + min (c (2 * k)) (c (2 * k + 1))
section
variable {n : Nat} {U : List Un} {S0 G : List Nat} {c V : Nat → Nat}
theorem gr_one {V : Nat → Nat} {x : Nat} : gr V [x] = V x := by simp [gr]
theorem gst_one {V : Nat → Nat} {x : Nat} : gst V [x] = some x := rfl
theorem Ind.v0 (h : Ind n U S0 G) (hV : IsVal (wc U c) S0 V) {v : Nat} (hv : v < n) : V (2 * v) = 0 := hV.s0 _ ((h.s0 _).2 ⟨v, hv, rfl⟩)
theorem Ind.der (h : Ind n U S0 G) {f k : Nat} (d : Der (wc U c) S0 f k) (v : Nat) (hf : f = 2 * v + 1) : min (c (2 * v)) (c (2 * v + 1)) ≤ k := by
  cases d with
  | base hm =>
    obtain ⟨v2, _, e⟩ := (h.s0 _).1 hm
    omega
  | step hu kk hk =>
    obtain ⟨u, hu2, rfl⟩ := wc_mem hu
    obtain ⟨h1, h2, h3⟩ := h.u1 u hu2
    have hf : u.makes = 2 * v + 1 := hf
    have hq : u.op = 2 * v ∨ u.op = 2 * v + 1 := by omega
    show _ ≤ gr kk u.needs + c u.op
    rcases hq with e | e <;> rw [e] <;> omega
theorem Ind.v1 (h : Ind n U S0 G) (hc : ∀ q, c q < Inf) (hV : IsVal (wc U c) S0 V) {v : Nat} (hv : v < n) : V (2 * v + 1) = min (c (2 * v)) (c (2 * v + 1)) := by
  have key : ∀ q, q < 2 * n → q / 2 = v → V (2 * v + 1) ≤ c q := fun q hq e => by
    obtain ⟨u, hu, rfl⟩ := h.u2 q hq
    obtain ⟨h1, h2, h3⟩ := h.u1 u hu
    have := hV.cl _ (mem_wc (c := c) hu)
    simp only [h3, h2, e, gr_one, h.v0 hV hv] at this
    have := this (by unfold Inf; omega)
    omega
  have k1 := key (2 * v) (by omega) (by omega)
  have k2 := key (2 * v + 1) (by omega) (by omega)
  have hlt : V (2 * v + 1) < Inf := by have := hc (2 * v); omega
  have := h.der (hV.der _ hlt) v rfl
  omega
theorem Ind.fin (h : Ind n U S0 G) (hc : ∀ q, c q < Inf) (hV : IsVal (wc U c) S0 V) : gr V G < Inf := by
  refine (gr_lt_iff (by unfold Inf; omega)).2 fun x hx => ?_
  obtain ⟨v, hv, rfl⟩ := (h.g _).1 hx
  rw [h.v1 hc hV hv]
  have := hc (2 * v)
  omega
theorem mins_zero {k : Nat} (h : ∀ v, v < k → min (c (2 * v)) (c (2 * v + 1)) = 0) : mins c k = 0 := by
  induction k with
  | zero => rfl
  | succ k ih =>
    unfold mins
    rw [ih fun v hv => h v (by omega), h k (by omega)]
theorem mins_sub {L : List Nat} {m v : Nat} (hL : ∀ op, op ∈ L ↔ op = 2 * v ∨ op = 2 * v + 1) (hm : m = min (c (2 * v)) (c (2 * v + 1))) : ∀ k, mins (sub c L m) k + (if v < k then m else 0) = mins c k
  | 0 => by simp [mins]
  | k + 1 => by
    have ih := mins_sub hL hm k
    unfold mins
    by_cases hvk : k = v
    · subst hvk
      rw [if_neg (by omega)] at ih
      rw [if_pos (by omega)]
      have e1 : sub c L m (2 * k) = c (2 * k) - m := by unfold sub; rw [if_pos ((hL _).2 (.inl rfl))]
      have e2 : sub c L m (2 * k + 1) = c (2 * k + 1) - m := by unfold sub; rw [if_pos ((hL _).2 (.inr rfl))]
      rw [e1, e2]
      omega
    · have e1 : sub c L m (2 * k) = c (2 * k) := by unfold sub; rw [if_neg fun hm => by have := (hL _).1 hm; omega]
      have e2 : sub c L m (2 * k + 1) = c (2 * k + 1) := by unfold sub; rw [if_neg fun hm => by have := (hL _).1 hm; omega]
      rw [e1, e2]
      by_cases h : v < k
      · rw [if_pos h] at ih
        rw [if_pos (by omega)]
        omega
      · rw [if_neg h] at ih
        rw [if_neg (by omega)]
        omega
theorem Ind.arc (h : Ind n U S0 G) {a : Ar} (ha : a ∈ arcs U V) : a.op < 2 * n ∧ a.to = 2 * (a.op / 2) + 1 ∧ a.fr = some (2 * (a.op / 2)) := by
  obtain ⟨u, hu, _, rfl⟩ := arcs_mem ha
  obtain ⟨h1, h2, h3⟩ := h.u1 u hu
  refine ⟨h1, h2, ?_⟩
  show gst V u.needs = _
  rw [h3]
  rfl
theorem Ind.tz (h : Ind n U S0 G) (hc : ∀ q, c q < Inf) (hV : IsVal (wc U c) S0 V) {v f : Nat} (hv : v < n) (h0 : 0 < V (2 * v + 1)) (ht : TZ (arcs U V) c (2 * v + 1) f) : f = 2 * v + 1 := by
  induction ht with
  | base => rfl
  | step ha hf hc0 ht ih =>
    exfalso
    obtain ⟨h1, h2, h3⟩ := h.arc ha
    have e := h.v1 hc hV hv
    rename_i a f
    have hq : a.op = 2 * v ∨ a.op = 2 * v + 1 := by omega
    rcases hq with e2 | e2 <;> rw [e2] at hc0 <;> omega
theorem Ind.sum (h : Ind n U S0 G) {r : Option (List (List Nat × Nat))} (hr : LmC U S0 G c r) (hc : ∀ q, c q < Inf) : ∃ out, r = some out ∧ sumM out = mins c n := by
  induction hr with
  | inf hV hh => have := h.fin hc hV; omega
  | @nil c V hV hh =>
    refine ⟨[], rfl, ?_⟩
    rw [mins_zero]
    · rfl
    intro v hv
    rw [← h.v1 hc hV hv]
    exact gr_zero.1 hh _ ((h.g _).2 ⟨v, hv, rfl⟩)
  | @cut c V L m r hV h0 hi hcut hr ih =>
    obtain ⟨g, hg, hx⟩ := hcut.ex
    obtain ⟨v, hv, rfl⟩ := (h.g _).1 (gst_some hg).1
    have hgv := (gst_some hg).val
    rw [← hgv] at h0
    have hL : ∀ op, op ∈ L ↔ op = 2 * v ∨ op = 2 * v + 1 := fun op => by
      rw [hx op]
      constructor
      · rintro ⟨a, ha, rfl, _, ht⟩
        have := h.tz hc hV hv h0 ht
        obtain ⟨h1, h2, h3⟩ := h.arc ha
        omega
      · intro ho
        obtain ⟨u, hu, e⟩ := h.u2 op (by omega)
        obtain ⟨h1, h2, h3⟩ := h.u1 u hu
        have hn : gr V u.needs < Inf := by
          rw [h3, gr_one, h.v0 hV (by omega)]
          unfold Inf; omega
        refine ⟨arU V u, mem_arcs hu hn, e, .inr ⟨2 * v, ?_, .base ((h.s0 _).2 ⟨v, hv, rfl⟩)⟩, ?_⟩
        · show gst V u.needs = _
          rw [h3, gst_one]
          congr 1
          omega
        · have e2 : (arU V u).to = 2 * v + 1 := by show u.makes = _; omega
          rw [e2]
          exact .base
    have hm : m = min (c (2 * v)) (c (2 * v + 1)) := by
      obtain ⟨op, ho, e⟩ := hcut.at_
      have l1 := hcut.le _ ((hL _).2 (.inl rfl))
      have l2 := hcut.le _ ((hL _).2 (.inr rfl))
      rcases (hL _).1 ho with e2 | e2 <;> rw [e2] at e <;> omega
    obtain ⟨out, e, hs⟩ := ih fun q => by
      have := hc q
      unfold Go.Lm.sub
      split <;> omega
    refine ⟨(L, m) :: out, by rw [e]; rfl, ?_⟩
    have := mins_sub hL hm n
    rw [if_pos hv] at this
    have e3 : sumM ((L, m) :: out) = m + sumM out := by simp [sumM]
    rw [e3, hs]
    omega
end
end Go.Lm
end
section
set_option maxRecDepth 100000
set_option linter.unusedSimpArgs false
set_option linter.unusedVariables false
namespace Go.Proofs.Ytcplpogmbacnfaa
open Go Go.W Go.Tk Go.Rx Go.Lm Go.Maps
theorem asc_len2 : ∀ (l : List Nat) (b n : Nat), l.Pairwise (· < ·) → (∀ x ∈ l, b ≤ x ∧ x < n) → l.length ≤ n - b
  | [], b, n, _, _ => Nat.zero_le _
  | a :: l, b, n, h, hn => by
    rw [List.pairwise_cons] at h
    have ih := asc_len2 l (a + 1) n h.2 fun x hx => ⟨h.1 x hx, (hn x (by simp [hx])).2⟩
    have := hn a (by simp)
    rw [List.length_cons]
    omega
theorem asc_len (l : List Nat) (n : Nat) (h : l.Pairwise (· < ·)) (hn : ∀ x ∈ l, x < n) : l.length ≤ n := asc_len2 l 0 n h fun x hx => ⟨Nat.zero_le _, hn x hx⟩
end Go.Proofs.Ytcplpogmbacnfaa
end
section
set_option maxRecDepth 100000
set_option linter.unusedSimpArgs false
set_option linter.unusedVariables false
namespace Go.Proofs.Ytcplpogmbacnfaa
open Go Go.W Go.Tk Go.Rx Go.Lm Go.Maps
theorem go_region {tb v : Nat} {vv nv gv ov : Value} {V I : List Nat} {Gl : List Fc} {B : Asr} {w0 w : World} {ρ : Env} {Q : Ex → Env → World → Prop} (hρ5 : ρ 5 = .pointer (some ⟨tb, 0, none⟩)) (hρ7 : ρ 7 = .int .i64 (v : Nat)) (hB : Lcl B) (hv : v ≤ 8) (hV : V.length ≤ 8) (hI : I.length ≤ 8) (hG : Gl.length ≤ 8) (hvo : oneC vv = true) (hno : oneC nv = true) (hgo : oneC gv = true)
    (h0 : At w0 [] (Star (OwnA vv 3 1 nE V) (Star (OwnA nv 3 1 nE I) (Star (OwnA gv 58 2 fcE Gl) (Star (ObjA tb (.cells #[vv, nv, gv, ov] 26 (0, 0))) B)))) w)
    (H : ∀ a b c w', At w0 [] (Star (OwnA a 3 1 nE (V ++ [2])) (Star (OwnA b 3 1 nE (I ++ [0])) (Star (OwnA c 58 2 fcE (Gl ++ [(v, 1)])) (Star (ObjA tb (.cells #[a, b, c, ov] 26 (0, 0))) B)))) w' → Q .nrm ρ w') : wpL Try.prog (.anyR goLos goDeps []) Q ρ w := by
  refine any_inv (GoT tb v vv nv gv ov V I Gl B w0 ρ) ?_ ?_ ?_
  · refine ⟨fun t _ => rfl, by simp, by simp, by simp, by simp, by simp, by simp, by simp, by simp, by simp, by simp, by simp, ?_⟩
    have hL : Lcl (Star (OwnA vv 3 1 nE V) (Star (OwnA nv 3 1 nE I) (Star (OwnA gv 58 2 fcE Gl) (Star (ObjA tb (.cells #[vv, nv, gv, ov] 26 (0, 0))) B)))) := Lcl.own.star (Lcl.own.star (Lcl.own.star (Lcl.obj.star hB)))
    have h1 := h0.drew hL
    unfold GA fl
    simp only [List.not_mem_nil, decide_false, Bool.false_eq_true, if_false]
    exact h1.by (Imp.un3 (Imp.em.trans (Imp.em.trans Imp.em)))
  · intro X i ρ' w' hi hn _ _ hd hu hT
    have hi : i < 20 := hi
    have hu : ∀ j ∈ X, (goDeps.getD j 0).testBit i = false := hu
    have key : ∀ i, GoStep tb v vv nv gv ov V I Gl B w0 ρ i → i ∉ X → (∀ j, j < 20 → (goDeps.getD i 0).testBit j = true → j ∈ X) → (∀ j ∈ X, (goDeps.getD j 0).testBit i = false) → wpT Try.prog [goLos.getD i LO.dfl] ρ' w' (GoT tb v vv nv gv ov V I Gl B w0 ρ (X ++ [i])) := fun i hs a b c => hs X ρ' w' a b c hT
    have hd : ∀ j, j < 20 → (goDeps.getD i 0).testBit j = true → j ∈ X := hd
    have h20 : i = 0 ∨ i = 1 ∨ i = 2 ∨ i = 3 ∨ i = 4 ∨ i = 5 ∨ i = 6 ∨ i = 7 ∨ i = 8 ∨ i = 9 ∨ i = 10 ∨ i = 11 ∨ i = 12 ∨ i = 13 ∨ i = 14 ∨ i = 15 ∨ i = 16 ∨ i = 17 ∨ i = 18 ∨ i = 19 := by omega
    rcases h20 with rfl | rfl | rfl | rfl | rfl | rfl | rfl | rfl | rfl | rfl | rfl | rfl | rfl | rfl | rfl | rfl | rfl | rfl | rfl | rfl
    · exact key _ (go0 hρ5 hρ7 hB hv hV hI hG hvo hno hgo) hn hd hu
    · exact key _ (go1 hρ5 hρ7 hB hv hV hI hG hvo hno hgo) hn hd hu
    · exact key _ (go2 hρ5 hρ7 hB hv hV hI hG hvo hno hgo) hn hd hu
    · exact key _ (go3 hρ5 hρ7 hB hv hV hI hG hvo hno hgo) hn hd hu
    · exact key _ (go4 hρ5 hρ7 hB hv hV hI hG hvo hno hgo) hn hd hu
    · exact key _ (go5 hρ5 hρ7 hB hv hV hI hG hvo hno hgo) hn hd hu
    · exact key _ (go6 hρ5 hρ7 hB hv hV hI hG hvo hno hgo) hn hd hu
    · exact key _ (go7 hρ5 hρ7 hB hv hV hI hG hvo hno hgo) hn hd hu
    · exact key _ (go8 hρ5 hρ7 hB hv hV hI hG hvo hno hgo) hn hd hu
    · exact key _ (go9 hρ5 hρ7 hB hv hV hI hG hvo hno hgo) hn hd hu
    · exact key _ (go10 hρ5 hρ7 hB hv hV hI hG hvo hno hgo) hn hd hu
    · exact key _ (go11 hρ5 hρ7 hB hv hV hI hG hvo hno hgo) hn hd hu
    · exact key _ (go12 hρ5 hρ7 hB hv hV hI hG hvo hno hgo) hn hd hu
    · exact key _ (go13 hρ5 hρ7 hB hv hV hI hG hvo hno hgo) hn hd hu
    · exact key _ (go14 hρ5 hρ7 hB hv hV hI hG hvo hno hgo) hn hd hu
    · exact key _ (go15 hρ5 hρ7 hB hv hV hI hG hvo hno hgo) hn hd hu
    · exact key _ (go16 hρ5 hρ7 hB hv hV hI hG hvo hno hgo) hn hd hu
    · exact key _ (go17 hρ5 hρ7 hB hv hV hI hG hvo hno hgo) hn hd hu
    · exact key _ (go18 hρ5 hρ7 hB hv hV hI hG hvo hno hgo) hn hd hu
    · exact key _ (go19 hρ5 hρ7 hB hv hV hI hG hvo hno hgo) hn hd hu
  · intro l ρ' w' hl hT
    have hm : ∀ j, j < 20 → fl l j = true := fun j hj => fl_yes (hl.mem_iff.2 (List.mem_range.2 hj))
    have h1 := hT.at_
    unfold GA at h1
    simp only [hm 3 (by omega), hm 7 (by omega), hm 13 (by omega), hm 2 (by omega), hm 6 (by omega), hm 12 (by omega), hm 15 (by omega), hm 17 (by omega), hm 19 (by omega), if_true] at h1
    exact H _ _ _ w' (h1.by (Imp.un3 (Imp.dr.trans (Imp.dr.trans Imp.dr))))
theorem u16E_cell {w : World} {v : Value} {l : List Nat} {k x : Nat} (h : Vw w v u16E l) (hk : l[k]? = some x) : w.cell? (v.adr.add k) = some (.int .u16 (x : Nat)) := by simpa using h.at_ u16E_len hk (o := 0) (u := .int .u16 (x : Nat)) rfl
/-- The operators so far. -/
def goC (cl dl : List Nat) (i : Nat) : Nat := if i % 2 = 0 then cl.getD (i / 2) 0 else dl.getD (i / 2) 0
structure GoO (i c : Nat) (o : No) : Prop where
  name : o.name = ByteArray.empty
  cost : o.cost = c
  pre : o.pre = [(i, 0)]
  effs : ∃ wv, o.effs = [⟨wv, [], i, 1⟩] ∧ wv.1 = .slice none 0 0
def GoOs (cl dl : List Nat) (n : Nat) (os : List No) : Prop := os.length = n ∧ ∀ i o, os[i]? = some o → GoO (i / 2) (goC cl dl i) o
def goG (n : Nat) : List Fc := (List.range n).map fun v => (v, 1)
theorem goG_succ (n : Nat) : goG (n + 1) = goG n ++ [(n, 1)] := by unfold goG; rw [List.range_succ, List.map_append]; rfl
theorem goC_lt {cl dl : List Nat} (h1 : ∀ c ∈ cl, c < 65536) (h2 : ∀ c ∈ dl, c < 65536) (q : Nat) : goC cl dl q ≤ 65536 := by
  have key : ∀ {l : List Nat} (h : ∀ c ∈ l, c < 65536) i, l.getD i 0 ≤ 65536 := fun {l} h i => by
    by_cases hi : i < l.length
    · have := h _ (mem_getD (l := l) hi)
      omega
    · simp [List.getD, List.getElem?_eq_none_iff.2 (Nat.le_of_not_lt hi)]
  unfold goC
  split
  · exact key h1 _
  · exact key h2 _
theorem mins_le {c : Nat → Nat} {C : Nat} (h : ∀ q, c q ≤ C) : ∀ k, mins c k ≤ k * C
  | 0 => by simp [mins]
  | k + 1 => by
    have := mins_le h k
    have := h (2 * k)
    unfold mins
    rw [Nat.add_mul]
    omega
/-- The whole task. -/
structure GoT2 (n : Nat) (cl dl : List Nat) (T : Nt) : Prop where
  vars : T.vars = List.replicate n 2
  init : T.init = List.replicate n 0
  goal : T.goal = goG n
  ops : GoOs cl dl (2 * n) T.ops
section
variable {n : Nat} {cl dl : List Nat} {T : Nt}
theorem rep_get {n a i : Nat} (h : i < n) : (List.replicate n a).getD i 0 = a := by simp [List.getD, List.getElem?_replicate, h]
theorem psum_rep {n v : Nat} (h : v ≤ n) : psum (List.replicate n 2) v = 2 * v := by
  unfold psum
  rw [List.take_replicate, Nat.min_eq_left h, List.sum_replicate_nat]
  omega
theorem GoT2.num (h : GoT2 n cl dl T) {v x : Nat} (hv : v < n) : numF T.vars (v, x) = 2 * v + x := by
  unfold numF
  rw [h.vars, psum_rep (by show v ≤ n; omega)]
theorem GoT2.len (h : GoT2 n cl dl T) : T.vars.length = n := by rw [h.vars, List.length_replicate]
theorem GoT2.op (h : GoT2 n cl dl T) {i : Nat} {o : No} (ho : T.ops[i]? = some o) : i / 2 < n ∧ GoO (i / 2) (goC cl dl i) o := by
  have := (List.getElem?_eq_some_iff.1 ho).1
  have h2 := h.ops.1
  exact ⟨by omega, h.ops.2 i o ho⟩
theorem GoT2.rng (h : GoT2 n cl dl T) {v x : Nat} (hv : v < n) (hx : x < 2) : v < T.vars.length ∧ x < T.vars.getD v 0 := by
  refine ⟨by rw [h.len]; exact hv, ?_⟩
  rw [h.vars, rep_get hv]
  exact hx
theorem GoT2.good (h : GoT2 n cl dl T) (hn : n ≤ 8) (h1 : ∀ c ∈ cl, c < 65536) (h2 : ∀ c ∈ dl, c < 65536) : NtG T := {
  vlen := by rw [h.len]; omega
  olen := by rw [h.ops.1]; omega
  vars := fun x hx => by
    rw [h.vars] at hx
    have := List.eq_of_mem_replicate hx
    omega
  ilen := by rw [h.init, h.len, List.length_replicate]
  init := fun i hi => by
    rw [h.init, List.length_replicate] at hi
    rw [h.init, h.vars, rep_get hi, rep_get hi]
    omega
  goal := by
    rw [h.goal]
    refine ⟨fun f hf => ?_, ?_⟩
    · unfold goG at hf
      obtain ⟨v, hv, rfl⟩ := List.mem_map.1 hf
      exact h.rng (List.mem_range.1 hv) (by show (1 : Nat) < 2; omega)
    · unfold goG
      rw [List.pairwise_map]
      exact List.pairwise_lt_range
  ops := fun o ho => by
    obtain ⟨i, hi, rfl⟩ := List.getElem_of_mem ho
    obtain ⟨hv, q1, q2, q3, wv, q4, q5⟩ := h.op (List.getElem?_eq_getElem hi)
    have hb := goC_lt h1 h2 i
    refine ⟨by omega, by rw [q4]; simp, ?_, ?_, ?_⟩
    · rw [q3]
      refine ⟨fun f hf => ?_, by simp⟩
      simp at hf; subst hf
      exact h.rng hv (by show (0 : Nat) < 2; omega)
    · rw [q4]
      intro e he
      simp at he; subst he
      exact ⟨fun f hf => (by simp at hf), List.Pairwise.nil⟩
    · rw [q4]
      intro e he
      simp at he; subst he
      exact h.rng hv (by show (1 : Nat) < 2; omega) }
theorem GoT2.inR (h : GoT2 n cl dl T) {v x : Nat} (hv : v < n) (hx : x < 2) : inR (T.vars.map iN) (faN (v, x)) = true := by
  obtain ⟨a, b⟩ := h.rng hv hx
  unfold Go.Tk.inR faN
  simp only [iN_at, Int.toNat_natCast, Bool.and_eq_true, decide_eq_true_eq, List.length_map]
  omega
theorem GoT2.goodB (h : GoT2 n cl dl T) (hn : n ≤ 8) (h1 : ∀ c ∈ cl, c < 65536) (h2 : ∀ c ∈ dl, c < 65536) : goodB T.raw = true := by
  have hg := h.good hn h1 h2
  have hst : StN T.vars T.init := ⟨hg.ilen, fun v hv => hg.init v (by rw [hg.ilen]; exact hv)⟩
  unfold Go.Tk.goodB
  simp only [Bool.and_eq_true, decide_eq_true_eq, List.all_eq_true]
  refine ⟨⟨⟨⟨⟨?_, ?_⟩, ?_⟩, hst.ok⟩, ?_⟩, ?_⟩
  · simp only [Nt.raw, List.length_map]; exact hg.vlen
  · simp only [Nt.raw, List.length_map]; exact hg.olen
  · intro x hx
    obtain ⟨y, hy, rfl⟩ := List.mem_map.1 hx
    have := hg.vars y hy
    unfold varB iN
    simp only [Bool.and_eq_true, decide_eq_true_eq]
    omega
  · show propF (T.vars.map iN) (T.goal.map faN) = true
    rw [h.goal]
    refine allR_true fun i hi => ?_
    have hi : i < n := by simpa [goG] using hi
    have e : ∀ k, k < n → ((goG n).map faN).getD k (0, 0) = faN (k, 1) := fun k hk => by simp [goG, List.getD, hk]
    unfold prAt
    rw [e i hi, h.inR hi (by omega), Bool.true_and]
    by_cases h0 : i = 0
    · simp [h0]
    · rw [e (i - 1) (by omega)]
      simp only [Bool.or_eq_true, decide_eq_true_eq]
      right
      show ((i - 1 : Nat) : Int) < (i : Nat)
      omega
  · intro q hq
    obtain ⟨o, ho, rfl⟩ := List.mem_map.1 hq
    obtain ⟨i, hi, rfl⟩ := List.getElem_of_mem ho
    obtain ⟨hv, q1, q2, q3, wv, q4, q5⟩ := h.op (List.getElem?_eq_getElem hi)
    have hb := goC_lt h1 h2 i
    have hx1 := h.inR hv (show 1 < 2 by omega)
    have hx0 := h.inR hv (show 0 < 2 by omega)
    unfold opB
    simp only [No.raw, q1, q3, q4, Bool.and_eq_true, decide_eq_true_eq, List.map_cons, List.map_nil, List.all_cons, List.all_nil]
    refine ⟨⟨⟨⟨⟨Int.natCast_nonneg _, by rw [q2]; omega⟩, by simp⟩, by rfl⟩, ?_⟩, ?_, trivial⟩
    · refine allR_true fun k hk => ?_
      have : k = 0 := by simpa using hk
      subst this
      show (Go.Tk.inR (T.vars.map iN) (faN (i / 2, 0)) && _) = true
      rw [hx0]; rfl
    · show (propF _ _ && _) = true
      have e1 : propF (T.vars.map iN) ((⟨wv, [], i / 2, 1⟩ : Nf).raw).cnd = true := rfl
      rw [show Nt.vars T = T.vars from rfl] at *
      refine Bool.and_eq_true_iff.2 ⟨e1, hx1⟩
theorem GoT2.cG (h : GoT2 n cl dl T) {q : Nat} (hq : q < 2 * n) : cst T [] q = goC cl dl q := by
  obtain ⟨o, ho⟩ : ∃ o, T.ops[q]? = some o := ⟨_, List.getElem?_eq_getElem (by rw [h.ops.1]; exact hq)⟩
  have := (h.op ho).2.cost
  unfold Go.Proofs.Ytcplpogmbacnfaa.cst
  simp only [List.length_nil, if_true, ho]
  exact this
theorem GoT2.cI (h : GoT2 n cl dl T) (h1 : ∀ c ∈ cl, c < 65536) (h2 : ∀ c ∈ dl, c < 65536) (q : Nat) : cst T [] q < Inf := by
  by_cases hq : q < 2 * n
  · rw [h.cG hq]
    have := goC_lt h1 h2 q
    unfold Inf; omega
  · have : T.ops[q]? = none := List.getElem?_eq_none_iff.2 (by rw [h.ops.1]; omega)
    unfold Go.Proofs.Ytcplpogmbacnfaa.cst
    simp only [List.length_nil, if_true, this]
    unfold Inf; omega
theorem mins_congr {c c' : Nat → Nat} : ∀ k, (∀ q, q < 2 * k → c q = c' q) → mins c k = mins c' k
  | 0, _ => rfl
  | k + 1, h => by
    unfold mins
    rw [mins_congr k fun q hq => h q (by omega), h _ (by omega), h _ (by omega)]
theorem GoT2.ind (h : GoT2 n cl dl T) (c : Nat → Nat) : Ind n (uns T c) (stN T.vars T.init T.vars.length) (T.goal.map (numF T.vars)) := {
  u1 := fun u hu => by
    obtain ⟨i, o, k, e, hi, ho, he, rfl⟩ := uns_mem hu
    obtain ⟨hv, q1, q2, q3, wv, q4, q5⟩ := h.op ho
    rw [h.ops.1] at hi
    rw [q4] at he
    have hk : k = 0 := by
      have := (List.getElem?_eq_some_iff.1 he).1
      simpa using this
    subst hk
    simp at he
    subst he
    refine ⟨hi, h.num hv, ?_⟩
    show dedup ((o.pre ++ []).map (numF T.vars)) = [2 * (i / 2)]
    rw [q3]
    simp only [List.append_nil, List.map_cons, List.map_nil, h.num hv]
    rfl
  u2 := fun q hq => by
    obtain ⟨o, ho⟩ : ∃ o, T.ops[q]? = some o := ⟨_, List.getElem?_eq_getElem (by rw [h.ops.1]; exact hq)⟩
    obtain ⟨hv, q1, q2, q3, wv, q4, q5⟩ := h.op ho
    have he : o.effs[0]? = some ⟨wv, [], q / 2, 1⟩ := by rw [q4]; rfl
    exact ⟨_, mem_uns (cost := c) (by rw [h.ops.1]; exact hq) ho he, rfl⟩
  s0 := fun x => by
    unfold stN
    rw [h.len]
    constructor
    · intro hx
      obtain ⟨v, hv, rfl⟩ := List.mem_map.1 hx
      have hv := List.mem_range.1 hv
      refine ⟨v, hv, ?_⟩
      rw [h.vars, psum_rep (by omega), h.init, rep_get hv]
      omega
    · rintro ⟨v, hv, rfl⟩
      refine List.mem_map.2 ⟨v, List.mem_range.2 hv, ?_⟩
      rw [h.vars, psum_rep (by omega), h.init, rep_get hv]
      omega
  g := fun x => by
    rw [h.goal]
    unfold goG
    rw [List.map_map]
    constructor
    · intro hx
      obtain ⟨v, hv, rfl⟩ := List.mem_map.1 hx
      have hv := List.mem_range.1 hv
      exact ⟨v, hv, h.num hv⟩
    · rintro ⟨v, hv, rfl⟩
      exact List.mem_map.2 ⟨v, List.mem_range.2 hv, h.num hv⟩ }
end
def preW (o : No) : Cell1 × List Fc := (o.pv, o.pre)
def effW (o : No) : Cell1 × List Nf := (o.ev, o.effs)
/-- The task so far. -/
def GoB (ov : Value) (os : List No) : Asr := Star (OwnA ov 51 4 noE os) (Star (VwsA fcE (os.map preW)) (Star (VwsA nfE (os.map effW)) Emp))
def GoS (tb v : Nat) (vv nv gv ov : Value) (os : List No) : Asr := Star (OwnA vv 3 1 nE (List.replicate v 2)) (Star (OwnA nv 3 1 nE (List.replicate v 0)) (Star (OwnA gv 58 2 fcE (goG v)) (Star (ObjA tb (.cells #[vv, nv, gv, ov] 26 (0, 0))) (GoB ov os))))
theorem GoB.lcl {ov : Value} {os : List No} : Lcl (GoB ov os) := Lcl.own.star (Lcl.vws.star (Lcl.vws.star .emp))
def GoI (tb : Nat) (cv dv : Value) (cl dl : List Nat) (w0 : World) (v : Nat) (ρ : Env) (w' : World) : Prop :=
  ρ 0 = cv ∧ ρ 1 = dv ∧ ρ 5 = .pointer (some ⟨tb, 0, none⟩) ∧ ρ 6 = .int .i64 (mins (goC cl dl) v : Nat) ∧ ρ 28 = cv ∧ ∃ vv nv gv ov os, GoOs cl dl (2 * v) os ∧ At w0 [] (GoS tb v vv nv gv ov os) w'
def GoJ (tb : Nat) (cv dv lv : Value) (cl dl : List Nat) (w0 : World) (v n s : Nat) (j : Nat) (ρ : Env) (w' : World) : Prop :=
  ρ 0 = cv ∧ ρ 1 = dv ∧ ρ 5 = .pointer (some ⟨tb, 0, none⟩) ∧ ρ 6 = .int .i64 (s : Nat) ∧ ρ 28 = cv ∧ ρ 29 = .int .i64 (n : Nat) ∧ ρ 30 = .int .i64 (v : Nat) ∧ ρ 7 = .int .i64 (v : Nat) ∧ ρ 8 = .int .u16 (goC cl dl (2 * v) : Nat) ∧ ρ 57 = lv ∧
    ∃ vv nv gv ov os, GoOs cl dl (2 * v + j) os ∧ At w0 [] (Star (OwnA lv 56 1 u16E [goC cl dl (2 * v), goC cl dl (2 * v + 1)]) (GoS tb (v + 1) vv nv gv ov os)) w'
set_option maxHeartbeats 2000000 in
theorem law_lmgoals {w : World} (cv dv : Value) (cl dl : List Nat) (hc : Vw w cv u16E cl) (hcb : ∀ c ∈ cl, c < 65536) (hcl : cl.length ≤ 9223372036854775807) (hd : Vw w dv u16E dl) (hdb : ∀ c ∈ dl, c < 65536) (hdl : dl.length ≤ 9223372036854775807) :
    Calls Try.prog 7 [cv, dv].toArray w fun e w' => ∃ x, e = .returned x ∧ x = .bool true ∧ Kp [] w w' := by
  refine enter Try.func7 mixed low7 (Nat.le_of_ble_eq_true rfl) ?_
  simp only [L7]
  by_cases a1 : 8 < cl.length
  · have a1' : (8 : Int) < cl.length := by omega
    simp [hc.len, a1, a1']
    refine cl_of mawake_spec ?_
    rintro _ w2 ⟨rfl, k2⟩
    simp
    exact k2
  have a1' : ¬ (8 : Int) < cl.length := by omega
  by_cases a2 : dl.length < cl.length
  · have a2' : (dl.length : Int) < cl.length := by omega
    simp [hc.len, hd.len, a1, a1', a2, a2']
    refine cl_of mawake_spec ?_
    rintro _ w2 ⟨rfl, k2⟩
    simp
    exact k2
  have a2' : ¬ (dl.length : Int) < cl.length := by omega
  simp [hc.len, hd.len, a1, a1', a2, a2']
  refine cl_of mawake_spec ?_
  rintro _ w2 ⟨rfl, k2⟩
  simp
  obtain ⟨tb, htb⟩ : ∃ tb, tb = w2.heap.size := ⟨_, rfl⟩
  have b1 := (At.start rfl : At w2 [] Emp w2).alloc (.cells #[.slice none 0 0, .slice none 0 0, .slice none 0 0, .slice none 0 0] 26 (0, 0)) .emp
  rw [← htb] at b1
  obtain ⟨w3, hw3⟩ : ∃ w3, w3 = w2.alloc (.cells #[.slice none 0 0, .slice none 0 0, .slice none 0 0, .slice none 0 0] 26 (0, 0)) := ⟨_, rfl⟩
  rw [← hw3] at b1
  have b2 : At w2 [] (GoS tb 0 (.slice none 0 0) (.slice none 0 0) (.slice none 0 0) (.slice none 0 0) []) w3 := by
    have c1 := VwsA.nil (enc := nfE) (Lcl.obj.star .emp) b1
    have c2 := VwsA.nil (enc := fcE) (Lcl.vws.star (Lcl.obj.star .emp)) c1
    have c3 := c2.nil (E := 51) (sz := 4) (enc := noE) (Lcl.vws.star (Lcl.vws.star (Lcl.obj.star .emp)))
    have c4 := c3.by Imp.fr4
    have hL4 : Lcl (Star (ObjA tb (.cells #[.slice none 0 0, .slice none 0 0, .slice none 0 0, .slice none 0 0] 26 (0, 0))) (GoB (.slice none 0 0) [])) := Lcl.obj.star GoB.lcl
    have c5 : At w2 [] (Star (ObjA tb (.cells #[.slice none 0 0, .slice none 0 0, .slice none 0 0, .slice none 0 0] 26 (0, 0))) (GoB (.slice none 0 0) [])) w3 := c4
    exact ((c5.nil (E := 58) (sz := 2) (enc := fcE) hL4).nil (E := 3) (sz := 1) (enc := nE) (Lcl.own.star hL4)).nil (E := 3) (sz := 1) (enc := nE) (Lcl.own.star (Lcl.own.star hL4))
  have hc3 := (hc.kp0 k2).kp0 b2.kp
  simp [← htb, ← hw3, hc3.len]
  refine range_loop (n := cl.length) (by omega) (GoI tb cv dv cl dl w2) (by simp) (by simp)
    ⟨by simp, by simp, by simp [htb], by simp [mins], by simp, _, _, _, _, [], ⟨rfl, by simp⟩, b2⟩ (by decide) (fun _ _ _ _ h => by unfold GoI at h ⊢; simpa using h) (fun _ _ _ _ h => by unfold GoI at h ⊢; simpa using h) ?_ ?_
  · rintro v ρ w4 hv hcv hlv ⟨g0, g1, g5, g6, g28, vv, nv, gv, ov, os, hos, h4⟩
    have hc4 := (hc.kp0 k2).kp0 h4.kp
    have hd4 := (hd.kp0 k2).kp0 h4.kp
    obtain ⟨c, hcc⟩ : ∃ c, cl[v]? = some c := ⟨_, List.getElem?_eq_getElem hv⟩
    obtain ⟨d, hdd⟩ : ∃ d, dl[v]? = some d := ⟨_, List.getElem?_eq_getElem (by omega)⟩
    have hcd : goC cl dl (2 * v) = c := by unfold goC; rw [if_pos (by omega)]; simp [List.getD, hcc]
    have hdd2 : goC cl dl (2 * v + 1) = d := by
      unfold goC
      rw [if_neg (by omega), show (2 * v + 1) / 2 = v by omega]
      simp [List.getD, hdd]
    have hcb2 := hcb c (List.mem_of_getElem? hcc)
    have hdb2 := hdb d (List.mem_of_getElem? hdd)
    have hvi : (v : Int) < cl.length := by omega
    have hvd : (v : Int) < dl.length := by omega
    refine seq_cut (fun ρ w' => ρ 0 = cv ∧ ρ 1 = dv ∧ ρ 5 = .pointer (some ⟨tb, 0, none⟩) ∧ ρ 6 = .int .i64 (mins (goC cl dl) v : Nat) ∧ ρ 28 = cv ∧ ρ 29 = .int .i64 (cl.length : Nat) ∧ ρ 30 = .int .i64 (v : Nat) ∧ ρ 7 = .int .i64 (v : Nat) ∧ ρ 8 = .int .u16 (c : Nat) ∧ w' = w4) ?_ ?_
    · simp (disch := omega) [g28, hcv, hlv, hc4.idx, u16E_cell hc4 hcc, g0, g1, g5, g6]
    clear g0 g1 g5 g6 g28 hcv hlv
    rintro ρ w4 ⟨g0, g1, g5, g6, g28, g29, g30, g7, g8, rfl⟩
    refine seq_cut (fun ρ w' => ρ 0 = cv ∧ ρ 1 = dv ∧ ρ 5 = .pointer (some ⟨tb, 0, none⟩) ∧ ρ 6 = .int .i64 (mins (goC cl dl) v : Nat) ∧ ρ 28 = cv ∧ ρ 29 = .int .i64 (cl.length : Nat) ∧ ρ 30 = .int .i64 (v : Nat) ∧ ρ 7 = .int .i64 (v : Nat) ∧ ρ 8 = .int .u16 (c : Nat) ∧ ∃ vv nv gv, At w2 [] (GoS tb (v + 1) vv nv gv ov os) w') ?_ ?_
    · have h4' := h4
      unfold GoS at h4'
      refine go_region g5 g7 GoB.lcl (by omega) (by simp; omega) (by simp; omega) (by simp [goG]; omega) h4'.own.o1 h4'.drop.own.o1 h4'.drop.drop.own.o1 h4' fun a b c2 w5 h5 => ?_
      refine ⟨g0, g1, g5, g6, g28, g29, g30, g7, g8, a, b, c2, ?_⟩
      unfold GoS
      rw [List.replicate_succ', List.replicate_succ', goG_succ]
      exact h5
    clear g0 g1 g5 g6 g28 g29 g30 g7 g8 h4 hc4 hd4 vv nv gv
    rintro ρ w4 ⟨g0, g1, g5, g6, g28, g29, g30, g7, g8, vv, nv, gv, h4⟩
    have hLg : Lcl (GoS tb (v + 1) vv nv gv ov os) := Lcl.own.star (Lcl.own.star (Lcl.own.star (Lcl.obj.star GoB.lcl)))
    have hd4 := (hd.kp0 k2).kp0 h4.kp
    have h5 := h4.lit (xs := [c, d]) (enc := u16E) (E := 56) (sz := 1) (cs := #[.int .u16 (c : Nat), .int .u16 (d : Nat)]) (m := 2) hLg (by simp [u16E]) u16E_len (by simp [maxLen]) rfl
    obtain ⟨lv, hlv2⟩ : ∃ lv, lv = Value.slice (some ⟨w4.heap.size, 0, none⟩) 2 2 := ⟨_, rfl⟩
    rw [← hlv2] at h5
    refine seq_cut (fun ρ w' => GoJ tb cv dv lv cl dl w2 v cl.length (mins (goC cl dl) v) 2 ρ w') ?_ ?_
    · simp (disch := omega) [g1, g7, g8, hd4.idx, u16E_cell hd4 hdd, rowOf, ← hlv2, h5.own.vw.len]
      refine range_loop (n := 2) (by omega) (GoJ tb cv dv lv cl dl w2 v cl.length (mins (goC cl dl) v)) (by simp) (by simp)
        ⟨by simp [g0], by simp [g1], by simp [g5], by simp [g6], by simp [g28], by simp [g29], by simp [g30], by simp [g7], by simp [g8, hcd], by simp, vv, nv, gv, ov, os, hos, by simpa [hcd, hdd2] using h5⟩ (by decide) (fun _ _ _ _ h => by unfold GoJ at h ⊢; simpa using h) (fun _ _ _ _ h => by unfold GoJ at h ⊢; simpa using h) ?_ ?_
      · clear g0 g1 g5 g6 g28 g29 g30 g7 g8 h4 h5 hos vv nv gv ov os hLg hd4
        rintro j ρ w5 hj hcj hlj ⟨g0, g1, g5, g6, g28, g29, g30, g7, g8, g57, vv, nv, gv, ov, os, hos, h5⟩
        obtain ⟨x, hx⟩ : ∃ x, x = goC cl dl (2 * v + j) := ⟨_, rfl⟩
        have hxj : [goC cl dl (2 * v), goC cl dl (2 * v + 1)][j]? = some x := by
          have : j = 0 ∨ j = 1 := by omega
          rcases this with rfl | rfl <;> rw [hx] <;> rfl
        have hxb : x < 65536 := by
          have : j = 0 ∨ j = 1 := by omega
          rcases this with rfl | rfl
          · rw [hx]; show goC cl dl (2 * v) < _; rw [hcd]; exact hcb2
          · rw [hx, hdd2]; exact hdb2
        have hlw := h5.own.vw
        have hji : (j : Int) < 2 := by omega
        have hji2 : (j : Int) < ([goC cl dl (2 * v), goC cl dl (2 * v + 1)] : List Nat).length := by simp; omega
        refine seq_cut (fun ρ w' => ρ 0 = cv ∧ ρ 1 = dv ∧ ρ 5 = .pointer (some ⟨tb, 0, none⟩) ∧ ρ 6 = .int .i64 (mins (goC cl dl) v : Nat) ∧ ρ 28 = cv ∧ ρ 29 = .int .i64 (cl.length : Nat) ∧ ρ 30 = .int .i64 (v : Nat) ∧ ρ 7 = .int .i64 (v : Nat) ∧ ρ 8 = .int .u16 (goC cl dl (2 * v) : Nat) ∧ ρ 57 = lv ∧ ρ 58 = .int .i64 2 ∧ ρ 59 = .int .i64 (j : Nat) ∧ ρ 10 = .int .u16 (x : Nat) ∧ w' = w5) ?_ ?_
        · simp (disch := omega) [g57, hcj, hlj, hlw.idx, hji2, u16E_cell hlw hxj, g0, g1, g5, g6, g28, g29, g30, g7, g8]
        clear g0 g1 g5 g6 g28 g29 g30 g7 g8 g57 hcj hlj
        rintro ρ w5 ⟨g0, g1, g5, g6, g28, g29, g30, g7, g8, g57, g58, g59, g10, rfl⟩
        have h6 := h5
        unfold GoS GoB at h6
        have hL0 : Lcl (Star (OwnA lv 56 1 u16E [goC cl dl (2 * v), goC cl dl (2 * v + 1)]) (GoS tb (v + 1) vv nv gv ov os)) := Lcl.own.star (Lcl.own.star (Lcl.own.star (Lcl.own.star (Lcl.obj.star GoB.lcl))))
        have ob5 := h6.drop.drop.drop.drop.obj
        simp (disch := omega) [g5, cell_blk ob5, g10, g7, wrap_i64, rowOf]
        have e0 : ∀ (w : World) (o : Obj), (w.alloc o).heap.size = w.heap.size + 1 := fun w o => by simp
        have hL6 : Lcl (Star (OwnA lv 56 1 u16E [goC cl dl (2 * v), goC cl dl (2 * v + 1)]) (Star (OwnA vv 3 1 nE (List.replicate (v + 1) 2)) (Star (OwnA nv 3 1 nE (List.replicate (v + 1) 0)) (Star (OwnA gv 58 2 fcE (goG (v + 1))) (Star (ObjA tb (.cells #[vv, nv, gv, ov] 26 (0, 0))) (Star (OwnA ov 51 4 noE os) (Star (VwsA fcE (os.map preW)) (Star (VwsA nfE (os.map effW)) Emp)))))))) := hL0
        have p1 := h6.lit (xs := [((v, 0) : Fc)]) (enc := fcE) (E := 58) (sz := 2) (cs := #[.int .i64 (v : Nat), .int .i64 0]) (m := 1) hL6 (by simp [fcE]) fcE_len (by simp [maxLen]) rfl
        have hL7 := (Lcl.own (v := .slice (some ⟨w5.heap.size, 0, none⟩) 1 1) (E := 58) (sz := 2) (enc := fcE) (l := [((v, 0) : Fc)])).star hL6
        have p2 := p1.lit (xs := [(⟨⟨.slice none 0 0, rfl⟩, [], v, 1⟩ : Nf)]) (enc := nfE) (E := 60) (sz := 3) (cs := #[.slice none 0 0, .int .i64 (v : Nat), .int .i64 1]) (m := 1) hL7 (by simp [nfE]) nfE_len (by simp [maxLen]) rfl
        simp only [e0] at p2
        obtain ⟨pvv, hpvv⟩ : ∃ u, u = Value.slice (some ⟨w5.heap.size, 0, none⟩) 1 1 := ⟨_, rfl⟩
        obtain ⟨evv, hevv⟩ : ∃ u, u = Value.slice (some ⟨w5.heap.size + 1, 0, none⟩) 1 1 := ⟨_, rfl⟩
        have opv : oneC pvv = true := by rw [hpvv]; rfl
        have oev : oneC evv = true := by rw [hevv]; rfl
        rw [← hpvv, ← hevv] at p2
        rw [← hpvv, ← hevv]
        obtain ⟨w7, hw7⟩ : ∃ w7, w7 = (w5.alloc (.cells #[.int .i64 (v : Nat), .int .i64 0] 58)).alloc (.cells #[.slice none 0 0, .int .i64 (v : Nat), .int .i64 1] 60) := ⟨_, rfl⟩
        rw [← hw7] at p2 ⊢
        have e7 : w7.heap.size = w5.heap.size + 1 + 1 := by rw [hw7]; simp
        rw [← e7]
        obtain ⟨o, ho⟩ : ∃ o : No, o = ⟨ByteArray.empty, x, ⟨pvv, opv⟩, [(v, 0)], ⟨evv, oev⟩, [⟨⟨.slice none 0 0, rfl⟩, [], v, 1⟩]⟩ := ⟨_, rfl⟩
        have p3 := (p2.by Imp.fr8).kp0 (by repeat' (first | exact Lcl.own | exact Lcl.obj | exact Lcl.vws | exact Lcl.emp | apply Lcl.star)) ((Kp.refl [] w7).alloc (.cells #[.string ByteArray.empty, .int .i64 (x : Nat), pvv, evv] 51))
        have hosl := hos.1
        refine At.append (xs := [o]) (by repeat' (first | exact Lcl.own | exact Lcl.obj | exact Lcl.vws | exact Lcl.emp | apply Lcl.star)) p3 noE_len noE_one sl_24 rfl (fun j2 u hj2 => ?_) (by omega) (by unfold maxLen; omega) fun ov' w8 p4 => ?_
        · rw [add_none, cell_blk alloc_new]
          simp only [List.flatMap_cons, List.flatMap_nil, List.append_nil, noE, ho] at hj2
          simpa using hj2
        have o8 := p4.own.o1
        have c8 := p4.own.c1
        simp [g5, c8]
        refine (p4.by Imp.fr8).st (by repeat' (first | exact Lcl.own | exact Lcl.obj | exact Lcl.vws | exact Lcl.emp | apply Lcl.star)) (by simp) (by simp [o8]) fun w9 p5 => ?_
        have p6 := p5.by Imp.bk8
        have p7 := (p6.by Imp.fr2).by Imp.bk9
        have p8 := p7.by (Imp.un4 (Imp.un4 (Imp.ow.trans (VwsA.add oev))))
        have p9 := (p8.by Imp.fr2).by Imp.bk7
        have pA := p9.by (Imp.un4 (Imp.un2 (Imp.ow.trans (VwsA.add opv))))
        have pB := pA.by Imp.bk6
        unfold GoJ
        simp [g0, g1, g5, g6, g28, g29, g30, g7, g8, g57, g58, g59]
        refine ⟨vv, nv, gv, ov', os ++ [o], ⟨by rw [List.length_append, hosl]; rfl, fun i q hq => ?_⟩, ?_⟩
        · by_cases hi : i < os.length
          · rw [List.getElem?_append_left hi] at hq
            exact hos.2 i q hq
          · rw [List.getElem?_append_right (by omega)] at hq
            have h1 := (List.getElem?_eq_some_iff.1 hq).1
            simp at h1
            have hie : i = 2 * v + j := by omega
            have e1 : i - os.length = 0 := by omega
            rw [e1] at hq
            simp at hq
            subst hq
            have e2 : i / 2 = v := by omega
            rw [e2, hie, ← hx, ho]
            exact ⟨rfl, rfl, rfl, _, rfl, rfl⟩
        · unfold GoS GoB
          have e1 : (os ++ [o]).map preW = os.map preW ++ [(⟨pvv, opv⟩, [((v, 0) : Fc)])] := by rw [List.map_append, ho]; rfl
          have e2 : (os ++ [o]).map effW = os.map effW ++ [(⟨evv, oev⟩, [(⟨⟨.slice none 0 0, rfl⟩, [], v, 1⟩ : Nf)])] := by rw [List.map_append, ho]; rfl
          rw [e1, e2]
          simpa using pB
      clear g0 g1 g5 g6 g28 g29 g30 g7 g8 h4 h5 hos vv nv gv ov os hLg hd4
      rintro ρ w5 h5
      exact h5
    clear g0 g1 g5 g6 g28 g29 g30 g7 g8 h4 h5 hos vv nv gv ov os hLg hd4
    rintro ρ w5 ⟨g0, g1, g5, g6, g28, g29, g30, g7, g8, g57, vv, nv, gv, ov, os, hos, h5⟩
    have h6 := h5.by Imp.dr
    have hd6 := (hd.kp0 k2).kp0 h6.kp
    rw [hcd] at g8
    have emin : min (c : Int) (d : Int) = ((min c d : Nat) : Int) := by omega
    have hms : mins (goC cl dl) (v + 1) = mins (goC cl dl) v + min c d := by
      show mins (goC cl dl) v + min (goC cl dl (2 * v)) (goC cl dl (2 * v + 1)) = _
      rw [hcd, hdd2]
    have hmb := mins_le (c := goC cl dl) (C := 65536) (fun q => goC_lt hcb hdb q) v
    obtain ⟨z, hz⟩ : ∃ z, z = mins (goC cl dl) v + min c d := ⟨_, rfl⟩
    have ez : (mins (goC cl dl) v : Int) + ((min c d : Nat) : Int) = (z : Int) := by omega
    simp (disch := omega) [g6, g8, g1, g7, hd6.idx, u16E_cell hd6 hdd, emin, wrap_i64, ez]
    refine ⟨g30, g29, ?_⟩
    unfold GoI
    simp [g0, g1, g5, g28]
    exact ⟨by rw [hms, hz], vv, nv, gv, ov, os, hos, h6⟩
  rintro ρ w4 ⟨g0, g1, g5, g6, g28, vv, nv, gv, ov, os, hos, h4⟩
  obtain ⟨n, hn⟩ : ∃ n, n = cl.length := ⟨_, rfl⟩
  rw [← hn] at g6 hos h4
  unfold GoS GoB at h4
  have o1 := h4.own.o1
  have o2 := h4.drop.own.o1
  have o3 := h4.drop.drop.own.o1
  have o4 := h4.drop.drop.drop.drop.own.o1
  obtain ⟨T, hT⟩ : ∃ T : Nt, T = ⟨⟨vv, o1⟩, ⟨nv, o2⟩, ⟨gv, o3⟩, ⟨ov, o4⟩, List.replicate n 2, List.replicate n 0, goG n, os⟩ := ⟨_, rfl⟩
  have hG2 : GoT2 n cl dl T := by rw [hT]; exact ⟨rfl, rfl, rfl, hos⟩
  have hg := hG2.good (by omega) hcb hdb
  have hr4 : NtR w4 T := by
    rw [hT]
    refine ⟨h4.own.vw, h4.drop.own.vw, h4.drop.drop.own.vw, h4.drop.drop.drop.drop.own.vw, fun o ho => ?_⟩
    have ho : o ∈ os := ho
    refine ⟨h4.drop.drop.drop.drop.drop.vws (p := preW o) (List.mem_map.2 ⟨o, ho, rfl⟩), h4.drop.drop.drop.drop.drop.drop.vws (p := effW o) (List.mem_map.2 ⟨o, ho, rfl⟩), fun e he => ?_⟩
    obtain ⟨i, hi, rfl⟩ := List.getElem_of_mem ho
    obtain ⟨wv, q4, q5⟩ := (hos.2 i _ (List.getElem?_eq_getElem hi)).effs
    rw [q4] at he
    simp at he
    subst he
    rw [q5]
    exact Vw.nil _ _
  have hnm : ∀ o ∈ T.ops, o.name.size ≤ 9223372036854775807 := fun o ho => by
    obtain ⟨i, hi, rfl⟩ := List.getElem_of_mem ho
    rw [(hG2.op (List.getElem?_eq_getElem hi)).2.name]
    decide
  have eT1 : T.vv.1 = vv := by rw [hT]
  have eT2 : T.nv.1 = nv := by rw [hT]
  have eT3 : T.gv.1 = gv := by rw [hT]
  have eT4 : T.ov.1 = ov := by rw [hT]
  have ob4 := h4.drop.drop.drop.obj
  have rt : ∀ {w'}, Kp [] w4 w' → cellsAt w' ⟨tb, 0, none⟩ 0 4 = some [T.vv.1, T.nv.1, T.gv.1, T.ov.1] := fun k => by rw [eT1, eT2, eT3, eT4]; simp [cellsAt, Addr.add, cell_blk (k.blk ob4 (by simp))]
  simp only [thenK_nrm]
  simp [g5, rt (Kp.refl [] w4)]
  refine cl_of (lnew_ok T hg (hG2.goodB (by omega) hcb hdb) hr4 hnm) ?_
  rintro _ w5 ⟨b, rfl, hR, k5⟩
  have ob5 := k5.blk ob4 (by simp)
  have hst : StN T.vars T.init := ⟨hg.ilen, fun v hv => hg.init v (by rw [hg.ilen]; exact hv)⟩
  simp [g5, cell_blk ob5]
  refine cl_of (hx_value nv T.init hR hg (by rw [← eT2]; exact (hr4.kp k5).init) hst) ?_
  rintro _ w6 ⟨hv6, k6⟩
  obtain ⟨r, hr6, rfl⟩ := valP_O hv6
  obtain ⟨out, rfl, hs⟩ := (hG2.ind _).sum hr6 (hG2.cI hcb hdb)
  have e : sumM out = mins (goC cl dl) n := by rw [hs]; exact mins_congr n fun q hq => hG2.cG hq
  simp [valO, g6, e]
  exact k2.trans ((h4.kp.trans k5).trans k6)
end Go.Proofs.Ytcplpogmbacnfaa
end
