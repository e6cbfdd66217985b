/-
  A part of the proof of this claim's statement (LmYA, LmYB, LmYD, LmYE, LmYI, LmXG): plain theorems; no conditions beyond those each names.
-/
import Derived.Test.YtcplpogmbacnfaaPk15
import Derived.Test.YtcplpogmbacnfaaPk20
import Derived.Test.YtcplpogmbacnfaaPk21
section
set_option maxRecDepth 100000
set_option linter.unusedSimpArgs false
set_option linter.unusedVariables false
namespace Go.Proofs.Ytcplpogmbacnfaa
open Go Go.W Go.Tk Go.Rx Go.Lm Go.Maps
set_option maxHeartbeats 1000000 in
theorem msome_spec {w : World} (T : Nt) (hr : NtR w T) (hg : NtG T) (hb : ∀ k, k ≤ T.vars.length → (stsK T.vars k).length ≤ 10000) :
    Calls Try.prog 13 [ntV T].toArray w fun e w' => ∃ u, e = .returned u ∧ ∃ ls, (∀ s ∈ ls, StN T.vars s) ∧ ls.length ≤ 100000 ∧ Kp [] w w' ∧ LLV nE w' u ls := by
  refine enter Try.func13 mixed low13 (Nat.le_of_ble_eq_true rfl) ?_
  simp only [L13]
  have hvl := hg.vlen
  obtain ⟨b, hb2⟩ : ∃ b, b = w.heap.size := ⟨_, rfl⟩
  have h1 : At w [] (Star (ObjA b (ntO T)) Emp) (w.alloc (ntO T)) := by rw [hb2]; exact (At.start rfl).alloc _ .emp
  obtain ⟨w1, hw1⟩ : ∃ w1, w1 = w.alloc (ntO T) := ⟨_, rfl⟩
  rw [← hw1] at h1
  have hw1' : w.alloc (.cells #[T.vv.1, T.nv.1, T.gv.1, T.ov.1] 26 (0, 0)) = w1 := by rw [hw1]; rfl
  have hob := h1.obj
  unfold ntO at hob
  have h2 := h1.lit (xs := [((T.nv, T.init) : Cell1 × List Nat)]) (enc := sv1) (E := 22) (sz := 1) (cs := #[T.nv.1]) (m := 1) (Lcl.obj.star .emp) (by simp [sv1]) sv1_len (by simp [maxLen]) rfl
  obtain ⟨w2, hw2⟩ : ∃ w2, w2 = w1.alloc (.cells #[T.nv.1] 22) := ⟨_, rfl⟩
  obtain ⟨ov, hov⟩ : ∃ ov, ov = Value.slice (some ⟨w1.heap.size, 0, none⟩) 1 1 := ⟨_, rfl⟩
  rw [← hw2, ← hov] at h2
  have hob2 := h2.drop.obj
  unfold ntO at hob2
  have cnv : T.nv.1.cells = #[T.nv.1] := by
    have := T.nv.2
    cases h : T.nv.1 <;> simp_all [oneC, Value.cells]
  simp [ntV, ← hb2, hw1', cell_blk hob, cnv, rowOf, ← hw2, ← hov, cell_blk hob2]
  have hr2 := hr.kp h2.kp
  refine cl_of (states_spec T.vv.1 T.vars hr2.vars (by omega) (fun n hn => by have := hg.vars n hn; omega) hb (fun k hk s hs => by have := (sts_ok k hk s hs).1; omega)) ?_
  rintro all w3 h3
  obtain ⟨ps, hps, h4⟩ := LLA.opn (At.join (Lcl.own.star (Lcl.obj.star .emp)) h2 h3)
  have h5 : At w [] (Star (OwnA ov 22 1 sv1 [((T.nv, T.init) : Cell1 × List Nat)]) (Star (OwnA all 22 1 sv1 ps) (Star (VwsA nE ps) Emp))) w3 := (h4.by Imp.fr3).by (Imp.un (Imp.un (Imp.un Imp.dr)))
  have hpl : ps.length = (stsK T.vars T.vars.length).length := by rw [← hps]; simp
  have hbl := hb _ (Nat.le_refl _)
  have hpsok : ∀ q ∈ ps, StN T.vars q.2 := fun q hq => sts_st (by rw [← hps]; exact List.mem_map.2 ⟨q, hq, rfl⟩)
  simp
  refine loop_inv (SmI T all ps w) _ ⟨0, [(T.nv, T.init)], rfl, by omega, by simp, by simp, by simp, by simp, by simpa using h5⟩ ?_
  rintro n ρ w4 ⟨i, qs, rfl, hib, g4, g5, hql, hq, h6⟩
  have hal := h6.drop.own
  by_cases hlt : i < ps.length
  case neg =>
    have hlt' : ¬ (i : Int) < ps.length := by omega
    simp [g4, g5, hal.vw.len, hlt']
    refine ⟨qs.map (·.2), ?_, by simp; omega, h6.kp, qs, rfl, h6.own.vw, ?_⟩
    · intro s hs
      obtain ⟨q, hqm, rfl⟩ := List.mem_map.1 hs
      rcases hq q hqm with rfl | h
      · exact ⟨hg.ilen, fun v hv => hg.init v (by rw [hg.ilen]; exact hv)⟩
      · exact hpsok q h
    · intro q hqm
      rcases hq q hqm with rfl | h
      · exact (hr.kp h6.kp).init
      · exact h6.drop.drop.vws h
  have hlt' : (i : Int) < ps.length := by omega
  obtain ⟨p, hp⟩ : ∃ p, ps[i]? = some p := ⟨_, List.getElem?_eq_getElem hlt⟩
  have hpm := List.mem_of_getElem? hp
  have ep : w4.cell? (all.adr.add i) = some p.1.1 := by simpa using hal.vw.at_ sv1_len hp (o := 0) (u := p.1.1) rfl
  have cp : p.1.1.cells = #[p.1.1] := by
    have := p.1.2
    cases h : p.1.1 <;> simp_all [oneC, Value.cells]
  simp (disch := omega) [g4, g5, hal.vw.len, hlt', hal.vw.idx, ep, cp, rowOf]
  have hLX : Lcl (Star (OwnA all 22 1 sv1 ps) (Star (VwsA nE ps) Emp)) := Lcl.own.star (Lcl.vws.star .emp)
  have h7 := h6.kp0 (Lcl.own.star hLX) ((Kp.refl [] w4).alloc (.cells #[p.1.1] 22))
  refine At.append (xs := [p]) hLX h7 sv1_len sv1_one sl_34 rfl (fun j u hj => ?_) (by omega) (by unfold maxLen; omega) fun v' w5 h8 => ?_
  · simp [sv1] at hj
    rw [add_none, cell_blk alloc_new]
    simpa using hj
  have hal8 := h8.drop.own
  obtain ⟨d, hd⟩ : ∃ d, d = ps.length / 8 := ⟨_, rfl⟩
  have ed : ((ps.length : Nat) : Int).tdiv 8 = (d : Int) := by rw [hd]; rfl
  have hdl : d ≤ ps.length := by omega
  obtain ⟨i2, hi2⟩ : ∃ i2, i2 = i + (1 + d) := ⟨_, rfl⟩
  have ei : (i : Int) + (1 + (d : Int)) = (i2 : Int) := by rw [hi2]; simp
  simp (disch := omega) [g4, g5, hal8.vw.len, ed, wrap_i64, ei]
  exact ⟨_, (by omega : ps.length - i2 < ps.length - i), i2, qs ++ [p], rfl, by omega, by simp [g4], by simp, by simp; omega, fun q hqm => by
    rcases List.mem_append.1 hqm with h | h
    · exact hq q h
    · simp at h; subst h; exact .inr hpm, by simpa using h8⟩
end Go.Proofs.Ytcplpogmbacnfaa
end
section
set_option maxRecDepth 100000
set_option linter.unusedSimpArgs false
set_option linter.unusedVariables false
namespace Go.Lm
open Go.Rx
end Go.Lm
namespace Go.Proofs.Ytcplpogmbacnfaa
open Go Go.W Go.Tk Go.Rx Go.Lm Go.Maps
theorem stN_lt {T : Nt} {s : List Nat} (hst : StN T.vars s) : ∀ x ∈ stN T.vars s T.vars.length, x < T.vars.sum := fun x hx => by
  unfold stN at hx
  obtain ⟨v, hv, rfl⟩ := List.mem_map.1 hx
  have hv := List.mem_range.1 hv
  exact numF_lt (f := (v, s.getD v 0)) hv (hst.rng v hv)
/-- Sizes, for a small task. -/
theorem szs_ok {T : Nt} {s : List Nat} {c : Nat → Nat} (hg : NtG T) (hst : StN T.vars s) (hc : ∀ i, i < T.ops.length → c i ≤ 1048576) : Szs (uns T c) (stN T.vars s T.vars.length) 4096 1048576 c := {
  made := fun u hu => by
    have := (uns_rng hg hu).2.1
    have := vars_sum hg
    omega
  s0 := fun x hx => by
    have := stN_lt hst x hx
    have := vars_sum hg
    omega
  cost := fun u hu => hc _ (uns_rng hg hu).2.2
  sm := by unfold Inf; omega }
/-- The value that is returned. -/
def valO : Option (List (List Nat × Nat)) → Nat
  | none => Inf
  | some out => sumM out
theorem valP_O {U : List Un} {S0 G : List Nat} {c : Nat → Nat} {x : Value} (h : valP U S0 G c x) : ∃ r, LmC U S0 G c r ∧ x = .int .i64 (valO r : Nat) := by
  obtain ⟨r, hr, hx⟩ := h
  exact ⟨r, hr, by cases r <;> exact hx⟩
end Go.Proofs.Ytcplpogmbacnfaa
end
section
set_option maxRecDepth 100000
set_option linter.unusedSimpArgs false
set_option linter.unusedVariables false
namespace Go.Lm
open Go.Rx
section
variable {U U' : List Un} {S0 G : List Nat} {c c' V V' : Nat → Nat} {k g : Nat}
/-- The same order of values. -/
structure OrdE (V V' : Nat → Nat) : Prop where
  lt : ∀ f g, V f < V g ↔ V' f < V' g
  fin : ∀ f, V f < Inf ↔ V' f < Inf
theorem OrdE.eq (h : OrdE V V') (f g : Nat) : V f = V g ↔ V' f = V' g := by
  have := h.lt f g
  have := h.lt g f
  omega
theorem OrdE.btr (h : OrdE V V') (f g : Nat) : btr V f g = btr V' f g := by
  unfold Go.Lm.btr
  rw [decide_eq_decide.2 (h.lt g f), decide_eq_decide.2 (h.eq f g)]
theorem OrdE.gst (h : OrdE V V') (l : List Nat) : gst V l = gst V' l := by
  have : gStep V = gStep V' := by
    funext o f
    cases o with
    | none => rfl
    | some o => simp only [gStep, h.btr]
  unfold Go.Lm.gst
  rw [this]
theorem OrdE.gr (h : OrdE V V') (l : List Nat) : Go.Rx.gr V l < Inf ↔ Go.Rx.gr V' l < Inf := by
  have hp : 0 < Inf := by unfold Inf; omega
  rw [gr_lt_iff hp, gr_lt_iff hp]
  exact forall_congr' fun x => forall_congr' fun _ => h.fin x
theorem OrdE.arcs (h : OrdE V V') (U : List Un) : arcs U V = arcs U V' := by
  unfold Go.Lm.arcs
  have e : (fun u : Un => decide (Go.Rx.gr V u.needs < Inf)) = fun u => decide (Go.Rx.gr V' u.needs < Inf) := by
    funext u
    exact decide_eq_decide.2 (h.gr u.needs)
  have e2 : arU V = arU V' := by
    funext u
    unfold arU
    rw [h.gst]
  rw [e, e2]
theorem gr_zero {l : List Nat} : gr V l = 0 ↔ ∀ x ∈ l, V x = 0 := by
  have := gr_le_iff (V := V) (l := l) (k := 0)
  simpa using this
theorem LmC.zero {N C : Nat} {r : Option (List (List Nat × Nat))} (h : LmC U S0 G c r) (hz : Szs U S0 N C c) : LmC U S0 G (fun i => 0) (r.map fun _ => []) := by
  obtain ⟨V', hV'⟩ := IsVal.ex (wc U fun _ => 0) S0
  cases hr : r with
  | none =>
    obtain ⟨f, hf, hn⟩ := h.none_inf hz hr
    refine .inf hV' ?_
    apply Nat.le_of_not_lt
    intro hlt
    have := (gr_lt_iff (by unfold Inf; omega)).1 hlt f hf
    exact hn _ _ (hV'.der f this)
  | some o =>
    obtain ⟨V, hV, hg⟩ := h.some_fin o hr
    have hg := (gr_lt_iff (by unfold Inf; omega)).1 hg
    have key : ∀ f k, Der (wc U c) S0 f k → Der (wc U fun _ => 0) S0 f 0 := by
      intro f k d
      induction d with
      | base h => exact .base h
      | step hu kk hk ih =>
        obtain ⟨u, hu2, rfl⟩ := wc_mem hu
        have := Der.step (mem_wc (c := fun _ => 0) hu2) (fun _ => 0) (fun n hn => ih n hn)
        have e : gr (fun _ => 0) u.needs = 0 := gr_zero.2 fun _ _ => rfl
        simpa [e] using this
    refine .nil hV' (gr_zero.2 fun x hx => ?_)
    have := hV'.least (key x _ (hV.der x (hg x hx)))
    omega
theorem arcs_wc : arcs (wc U c') V = arcs U V := by
  unfold arcs wc
  rw [List.filter_map, List.map_map]
  rfl
theorem wc_wc : wc (wc U c') c = wc U c := by
  unfold wc
  rw [List.map_map]
  rfl
theorem LmC.wc {r : Option (List (List Nat × Nat))} (h : LmC U S0 G c r) : LmC (wc U c') S0 G c r := by
  induction h with
  | inf hV h => exact .inf (by rw [wc_wc]; exact hV) h
  | nil hV h => exact .nil (by rw [wc_wc]; exact hV) h
  | cut hV h0 hi hc hr ih => exact .cut (by rw [wc_wc]; exact hV) h0 hi ⟨by rw [arcs_wc]; exact hc.ex, hc.asc, hc.le, hc.at_⟩ ih
end
end Go.Lm
namespace Go.Proofs.Ytcplpogmbacnfaa
open Go Go.W Go.Tk Go.Rx Go.Lm Go.Maps
end Go.Proofs.Ytcplpogmbacnfaa
end
section
set_option maxRecDepth 100000
set_option linter.unusedSimpArgs false
set_option linter.unusedVariables false
namespace Go.Proofs.Ytcplpogmbacnfaa
open Go Go.W Go.Tk Go.Rx Go.Lm Go.Maps
theorem asc_len2 : ∀ (l : List Nat) (b n : Nat), l.Pairwise (· < ·) → (∀ x ∈ l, b ≤ x ∧ x < n) → l.length ≤ n - b
  | [], b, n, _, _ => Nat.zero_le _
  | a :: l, b, n, h, hn => by
    rw [List.pairwise_cons] at h
    have ih := asc_len2 l (a + 1) n h.2 fun x hx => ⟨h.1 x hx, (hn x (by simp [hx])).2⟩
    have := hn a (by simp)
    rw [List.length_cons]
    omega
theorem asc_len (l : List Nat) (n : Nat) (h : l.Pairwise (· < ·)) (hn : ∀ x ∈ l, x < n) : l.length ≤ n := asc_len2 l 0 n h fun x hx => ⟨Nat.zero_le _, hn x hx⟩
end Go.Proofs.Ytcplpogmbacnfaa
end
section
set_option maxRecDepth 100000
set_option linter.unusedSimpArgs false
set_option linter.unusedVariables false
namespace Go.Lm
open Go.Rx
end Go.Lm
namespace Go.Proofs.Ytcplpogmbacnfaa
open Go Go.W Go.Tk Go.Rx Go.Lm Go.Maps
theorem uns_wc {T : Nt} {c c' : Nat → Nat} : uns T c' = wc (uns T c) c' := by
  have key : ∀ n, unsK T c' n = wc (unsK T c n) c' := by
    intro n
    unfold unsK wc
    rw [List.map_flatMap]
    congr 1
    funext i
    cases T.ops[i]? with
    | none => rfl
    | some o =>
      show opU T.vars _ i (c' i) o.effs.length = _
      unfold opU
      rw [List.map_map]
      refine List.map_congr_left fun j hj => ?_
      have hj := List.mem_range.1 hj
      have he : o.effs[j]? = some o.effs[j] := List.getElem?_eq_getElem hj
      simp only [Function.comp, unA, he]
  exact key _
end Go.Proofs.Ytcplpogmbacnfaa
end
section
set_option maxRecDepth 100000
set_option linter.unusedSimpArgs false
set_option linter.unusedVariables false
namespace Go.Proofs.Ytcplpogmbacnfaa
open Go Go.W Go.Tk Go.Rx Go.Lm Go.Maps
/-- The operators of the cut, as the document finds them. -/
def hitA (zs out : List Fc) (i : Nat) (a : Rc) : Bool := decide (a.op = i) && ((a.st || decide (a.fr ∈ out)) && decide (a.to ∈ zs))
def hitL (rs : List Rc) (zs out : List Fc) (n : Nat) : List Nat := (List.range n).filter fun i => rs.any (hitA zs out i)
theorem hitL_succ (rs : List Rc) (zs out : List Fc) (n : Nat) : hitL rs zs out (n + 1) = hitL rs zs out n ++ if rs.any (hitA zs out n) = true then [n] else [] := by
  unfold hitL
  rw [List.range_succ, List.filter_append]
  congr 1
  by_cases h : rs.any (hitA zs out n) = true
  · rw [if_pos h, List.filter_cons_of_pos (p := fun i => rs.any (hitA zs out i)) h]; rfl
  · rw [if_neg h, List.filter_cons_of_neg (p := fun i => rs.any (hitA zs out i)) h]; rfl
theorem hitL_asc (rs : List Rc) (zs out : List Fc) (n : Nat) : (hitL rs zs out n).Pairwise (· < ·) := List.Pairwise.filter _ List.pairwise_lt_range
theorem hitL_len (rs : List Rc) (zs out : List Fc) (n : Nat) : (hitL rs zs out n).length ≤ n := by
  have := List.length_filter_le (fun i => rs.any (hitA zs out i)) (List.range n)
  simpa [hitL] using this
/-- The least cost, from a great one. -/
def minI (c : Nat → Nat) (L : List Nat) : Nat := L.foldl (fun m op => min m (c op)) Inf
theorem minI_snoc {c : Nat → Nat} {L : List Nat} {x : Nat} : minI c (L ++ [x]) = min (minI c L) (c x) := by unfold minI; rw [List.foldl_append]; rfl
theorem minI_le {c : Nat → Nat} : ∀ (L : List Nat), minI c L ≤ Inf ∧ ∀ op ∈ L, minI c L ≤ c op := fun L => by
  induction L using snoc_ind with
  | h0 => simp [minI]
  | h l x ih =>
    rw [minI_snoc]
    refine ⟨by have := ih.1; omega, fun op hop => ?_⟩
    rcases List.mem_append.1 hop with h | h
    · have := ih.2 op h; omega
    · simp at h; subst h; omega
theorem minI_at {c : Nat → Nat} : ∀ (L : List Nat), minI c L = Inf ∨ ∃ op ∈ L, c op = minI c L := fun L => by
  induction L using snoc_ind with
  | h0 => exact .inl rfl
  | h l x ih =>
    rw [minI_snoc]
    by_cases hx : c x ≤ minI c l
    · exact .inr ⟨x, by simp, by omega⟩
    · have e2 : min (minI c l) (c x) = minI c l := by omega
      rw [e2]
      rcases ih with h | ⟨op, ho, h⟩
      · exact .inl h
      · exact .inr ⟨op, by simp [ho], h⟩
theorem minI_in {c : Nat → Nat} {L : List Nat} (hne : L ≠ []) (hb : ∀ op ∈ L, c op ≤ 1048576) : ∃ op ∈ L, c op = minI c L := by
  rcases minI_at (c := c) L with h | h
  · obtain ⟨x, hx⟩ := List.exists_mem_of_ne_nil L hne
    have := (minI_le (c := c) L).2 x hx
    have := hb x hx
    unfold Inf at h
    omega
  · exact h
theorem hitL_xo {T : Nt} {rs : List Rc} {zs out : List Fc} {V : Nat → Nat} {c : Nat → Nat} {S0 : List Nat} {g n : Nat} {U : List Un} (hA : rs.map (rcA T.vars) = arcs U V) (hr : RcsOk T.vars n rs) (hz : FcRng T.vars zs) (ho : FcRng T.vars out)
    (hZ : ZsP T.vars (TZ (arcs U V) c g) zs) (hS : ZsP T.vars (SZ (arcs U V) S0 (TZ (arcs U V) c g)) out) (op : Nat) : op ∈ hitL rs zs out n ↔ XO (arcs U V) c S0 g op := by
  unfold hitL XO Beg
  rw [List.mem_filter, List.mem_range, List.any_eq_true]
  unfold hitA
  constructor
  · rintro ⟨_, a, ha, h⟩
    simp only [Bool.and_eq_true, Bool.or_eq_true, decide_eq_true_eq] at h
    obtain ⟨h1, h2, h3⟩ := h
    have hm : rcA T.vars a ∈ arcs U V := by rw [← hA]; exact List.mem_map.2 ⟨a, ha, rfl⟩
    obtain ⟨t1, t2⟩ := (hr a ha).1.1
    refine ⟨_, hm, h1, ?_, (hZ _).2 ((mem_num hz t1 t2).2 h3)⟩
    cases hs : a.st with
    | true => exact .inl (by unfold rcA; simp [hs])
    | false =>
      obtain ⟨f1, f2⟩ := (hr a ha).1.2 hs
      rcases h2 with h | h
      · rw [hs] at h; cases h
      · exact .inr ⟨numF T.vars a.fr, by unfold rcA; simp [hs], (hS _).2 ((mem_num ho f1 f2).2 h)⟩
  · rintro ⟨b, hb, h1, h2, h3⟩
    rw [← hA] at hb
    obtain ⟨a, ha, rfl⟩ := List.mem_map.1 hb
    obtain ⟨t1, t2⟩ := (hr a ha).1.1
    have h1 : a.op = op := h1
    refine ⟨by rw [← h1]; exact (hr a ha).2, a, ha, ?_⟩
    simp only [Bool.and_eq_true, Bool.or_eq_true, decide_eq_true_eq]
    refine ⟨h1, ?_, (mem_num hz t1 t2).1 ((hZ _).1 h3)⟩
    cases hs : a.st with
    | true => exact .inl rfl
    | false =>
      obtain ⟨f1, f2⟩ := (hr a ha).1.2 hs
      rcases h2 with h | ⟨f, h, h4⟩
      · unfold rcA at h; simp [hs] at h
      · right
        unfold rcA at h
        simp [hs] at h
        subst h
        exact (mem_num ho f1 f2).1 ((hS _).1 h4)
/-- What the document's Cuts returns. -/
def CcP (U : List Un) (S0 G : List Nat) (c : Nat → Nat) (x : Value) (w' : World) : Prop := ∃ r, LmC U S0 G c r ∧ match r with
  | none => x = .tuple #[.slice none 0 0, .bool false]
  | some out => ∃ v, x = .tuple #[v, .bool true] ∧ CtsV w' v out
def CcI (tb : Nat) (sv dv : Value) (U : List Un) (S0 G C0 : List Nat) (w : World) (n : Nat) (ρ : Env) (w' : World) : Prop :=
  ρ 1 = sv ∧ ρ 2 = .pointer (some ⟨tb, 0, none⟩) ∧ ρ 6 = dv ∧ ∃ left cs, left.length = C0.length ∧ (∀ x ∈ left, x ≤ 1048576) ∧ n = posN (cf left) C0.length ∧ cs.length + n ≤ C0.length ∧
    (∀ r, LmC U S0 G (cf left) r → LmC U S0 G (cf C0) (r.map (cs.map ctP ++ ·))) ∧ At w [] (CuB (ρ 7) dv left cs) w'
/-- The loop over the operators. -/
def CdI (tb cb : Nat) (sv dv ov av zv bv : Value) (T : Nt) (c : Nat → Nat) (rs : List Rc) (zs out : List Fc) (w5 : World) (i : Nat) (ρ : Env) (w' : World) : Prop :=
  ρ 1 = sv ∧ ρ 2 = .pointer (some ⟨tb, 0, none⟩) ∧ ρ 6 = dv ∧ ρ 7 = ov ∧ ρ 10 = av ∧ ρ 11 = zv ∧ ρ 12 = bv ∧ ρ 13 = .pointer (some ⟨cb, 0, none⟩) ∧
    ∃ lv, At w5 [] (Star (ObjA cb (.cells #[lv, .int .i64 (minI c (hitL rs zs out i) : Nat)] 45 (0, 0))) (Star (OwnA lv 3 1 nE (hitL rs zs out i)) Emp)) w'
/-- The loop over the arcs. -/
def CeI (tb cb : Nat) (sv dv ov av zv bv : Value) (T : Nt) (c : Nat → Nat) (rs : List Rc) (zs out : List Fc) (w5 : World) (i : Nat) (lv : Value) (j : Nat) (ρ : Env) (w' : World) : Prop :=
  ρ 1 = sv ∧ ρ 2 = .pointer (some ⟨tb, 0, none⟩) ∧ ρ 6 = dv ∧ ρ 7 = ov ∧ ρ 10 = av ∧ ρ 11 = zv ∧ ρ 12 = bv ∧ ρ 13 = .pointer (some ⟨cb, 0, none⟩) ∧ ρ 52 = .int .i64 (T.ops.length : Nat) ∧ ρ 53 = .int .i64 (i : Nat) ∧ ρ 14 = .int .i64 (i : Nat) ∧ ρ 56 = av ∧ ρ 15 = .bool ((rs.take j).any (hitA zs out i)) ∧
    At w5 [] (Star (ObjA cb (.cells #[lv, .int .i64 (minI c (hitL rs zs out i) : Nat)] 45 (0, 0))) (Star (OwnA lv 3 1 nE (hitL rs zs out i)) Emp)) w'
set_option maxHeartbeats 4000000 in
theorem ccuts_spec {w : World} (T : Nt) (sv : Value) (s : List Nat) (hr : NtR w T) (hg : NtG T) (hs : Vw w sv nE s) (hst : StN T.vars s) :
    Calls Try.prog 14 [ntV T, sv].toArray w fun e w' => ∃ x, e = .returned x ∧ CcP (uns T (cst T [])) (stN T.vars s T.vars.length) (T.goal.map (numF T.vars)) (cst T []) x w' ∧ Kp [] w w' := by
  refine enter Try.func14 mixed low14 (Nat.le_of_ble_eq_true rfl) ?_
  simp only [L14]
  have hol := hg.olen
  have hvl := hg.vlen
  have hgl := hg.goal.len
  have hvs := vars_sum hg
  obtain ⟨tb, htb⟩ : ∃ tb, tb = w.heap.size := ⟨_, rfl⟩
  obtain ⟨w1, hw1⟩ : ∃ w1, w1 = w.alloc (ntO T) := ⟨_, rfl⟩
  have k1 : Kp [] w w1 := by rw [hw1]; exact (Kp.refl [] w).alloc _
  have hw1' : w.alloc (.cells #[T.vv.1, T.nv.1, T.gv.1, T.ov.1] 26 (0, 0)) = w1 := by rw [hw1]; rfl
  have hob : w1.heap[tb]? = some (.cells #[T.vv.1, T.nv.1, T.gv.1, T.ov.1] 26 (0, 0)) := by rw [htb, hw1]; exact alloc_new
  have rt : ∀ {w'}, Kp [] w1 w' → cellsAt w' ⟨tb, 0, none⟩ 0 4 = some [T.vv.1, T.nv.1, T.gv.1, T.ov.1] := fun k => by simp [cellsAt, Addr.add, cell_blk (k.blk hob (by simp))]
  have hr1 := hr.kp k1
  have hs1 := hs.kp0 k1
  simp [ntV, ← htb, hw1', rt (Kp.refl [] w1)]
  refine cl_of (costs_spec T hr1 (by omega)) ?_
  rintro dv w2 n2
  obtain ⟨C0, hC0⟩ : ∃ C0, C0 = T.ops.map (·.cost) := ⟨_, rfl⟩
  rw [← hC0] at n2
  have hC0l : C0.length = T.ops.length := by rw [hC0, List.length_map]
  have hCb : ∀ x ∈ C0, x ≤ 1048576 := by rw [hC0]; exact costs_le hg
  have ecf : cf C0 = cst T [] := by rw [hC0]; exact cf_cst
  have h2 : At w1 [] (Star (OwnA dv 3 1 nE C0) Emp) w2 := At.nw .emp (At.start rfl : At w1 [] Emp w1) n2
  have h3 : At w1 [] (CuB (.slice none 0 0) dv C0 []) w2 := by
    unfold CuB
    exact (At.nil (E := 45) (sz := 2) (enc := ctE) (Lcl.vws.star (Lcl.own.star .emp)) (VwsA.nil (enc := nE) (Lcl.own.star .emp) h2)).by Imp.fr3
  obtain ⟨S0, hS0⟩ : ∃ S0, S0 = stN T.vars s T.vars.length := ⟨_, rfl⟩
  obtain ⟨U, hU⟩ : ∃ U, U = uns T (cst T []) := ⟨_, rfl⟩
  obtain ⟨G, hG⟩ : ∃ G, G = T.goal.map (numF T.vars) := ⟨_, rfl⟩
  rw [← hS0, ← hU, ← hG, ← ecf]
  simp
  refine loop_inv (CcI tb sv dv U S0 G C0 w1) (posN (cf C0) C0.length) ⟨by simp, by simp [htb], by simp, C0, [], rfl, hCb, rfl, by have := posN_le (c := cf C0) C0.length; simpa using this, fun r hr => by
    have : r.map (List.map ctP [] ++ ·) = r := by cases r <;> simp
    rw [this]; exact hr, by simpa using h3⟩ ?_
  clear h2 h3
  rintro n ρ w3 ⟨g1, g2, g6, left, cs, hll, hlb, rfl, hcn, hpre, h3⟩
  obtain ⟨ov, g7⟩ : ∃ v, ρ 7 = v := ⟨_, rfl⟩
  rw [g7] at h3
  have hr3 := hr1.kp h3.kp
  have hs3 := hs1.kp0 h3.kp
  have hd3 := At.own (h3.by (show Imp (CuB ov dv left cs) (Star (OwnA dv 3 1 nE left) _) from Imp.rfl))
  simp [g1, g2, g6, rt h3.kp]
  refine cl_of (rfacts_spec T dv sv (.slice none 0 0) left s [] hr3 hg hd3.vw (by omega) hlb hs3 hst (Vw.nil _ _) (by simp)) ?_
  rintro tv w4 ⟨V, hV, k4, ht4⟩
  have eU : allow (okL []) (uns T (cstL left)) = wc U (cf left) := by
    rw [allow_nil, hU]
    exact uns_wc
  rw [eU, ← hS0] at hV
  have h4 := h3.kp0 CuB.lcl k4
  have k34 := h3.kp
  have hob4 := h4.kp.blk hob (by simp)
  have hr4 := hr1.kp h4.kp
  have hgl2 : T.goal.length ≤ 1000000 := by omega
  simp [g2, cell_blk hob4]
  refine cl_of (greatest_spec tv T.gv.1 T.vars V T.goal ht4 hr4.goal hgl2 hg.goal.rng) ?_
  rintro _ w5 ⟨rfl, k5⟩
  have h5 := h4.kp0 CuB.lcl k5
  have egr : grF T.vars V T.goal = gr V G := by rw [hG]; rfl
  rw [egr]
  have hgle : gr V G ≤ Inf := gr_le_iff.2 fun f _ => hV.le f
  by_cases s1 : Inf ≤ gr V G
  · have s1' : (1125899906842624 : Int) ≤ (gr V G : Int) := by unfold Inf at s1; omega
    simp [s1']
    refine ⟨⟨none, hpre none (.inf hV s1), ?_⟩, k1.trans0 h5.kp⟩
    simp
  have s1' : ¬ (1125899906842624 : Int) ≤ (gr V G : Int) := by unfold Inf at s1; omega
  by_cases s2 : gr V G = 0
  · have s2' : (gr V G : Int) = 0 := by omega
    simp [s1', s2', s2, g7]
    have h6 := h5
    unfold CuB at h6
    have hcsv : CtsV w5 ov (cs.map ctP) := ⟨cs, rfl, h6.drop.own.vw, fun c hc => h6.drop.drop.vws (p := ctW c) (List.mem_map.2 ⟨c, hc, rfl⟩)⟩
    have := hpre (some []) (.nil hV s2)
    simp at this
    exact ⟨⟨_, this, ⟨ov, by simp, by simpa using hcsv⟩⟩, k1.trans0 h5.kp⟩
  have s2' : ((gr V G : Int) == 0) = false := by simp; omega
  have s2i : ¬ (gr V G : Int) = 0 := by omega
  have hg0 : 0 < gr V G := by omega
  have hgi : gr V G < Inf := by omega
  have hne : T.goal ≠ [] := fun e => by rw [hG, e] at hg0; simp [gr] at hg0
  have ht5 := ht4.kp k5
  simp [s1', s2', s2i, s2, g2, g1, g6, g7, rt h5.kp]
  refine cl_of (carcs_spec T tv V (cst T []) (hr1.kp h5.kp) hg hV.le ht5) ?_
  rintro av w6 ⟨rs, hA, hrs, hrl, n6⟩
  have h6 := h5.kp0 CuB.lcl n6.kp
  have hav6 := n6.own.vw
  have hob6 := h6.kp.blk hob (by simp)
  have ht6 := ht5.kp n6.kp
  rw [← hU] at hA
  simp [g1, g2, g6, g7, cell_blk hob6]
  refine cl_of (cgreatest_spec tv T.gv.1 T.vars V T.goal ht6 (hr1.kp h6.kp).goal hgl2 hg.goal.rng hne) ?_
  rintro _ w7 ⟨gf, hgf, rfl, hgs, k7⟩
  have h7 := h6.kp0 CuB.lcl k7
  have hd7 := At.own (h7.by (show Imp (CuB ov dv left cs) (Star (OwnA dv 3 1 nE left) _) from Imp.rfl))
  obtain ⟨gf1, gf2⟩ := hg.goal.rng gf hgf
  have hll3 : T.ops.length = left.length := by omega
  rw [← hG] at hgs
  simp [g1, g2, g6, g7]
  refine cl_of (cgoals_spec T.vars av dv rs left gf T.ops.length (hav6.kp0 k7) hd7.vw hrs hll3 hrl hvs gf1 gf2) ?_
  rintro zv w8 ⟨zs, hzr, hzl, hZ, n8⟩
  have h8 := h7.kp0 CuB.lcl n8.kp
  have hav8 := (hav6.kp0 k7).kp0 n8.kp
  rw [hA] at hZ
  simp [g1, g2, g6, g7]
  refine cl_of (cbegins_spec T.vars s av sv zv rs zs T.ops.length _ hav8 (hs1.kp0 h8.kp) hst n8.own.vw hzr hzl hrs hrl hvs hvl hZ) ?_
  rintro bv w9 ⟨out, hor, hol2, hS, n9⟩
  have h9 := h8.kp0 CuB.lcl n9.kp
  rw [hA, ← hS0] at hS
  have hav9 := hav8.kp0 n9.kp
  have hzv9 := n8.own.vw.kp0 n9.kp
  have hbv9 := n9.own.vw
  have hd9 := At.own (h9.by (show Imp (CuB ov dv left cs) (Star (OwnA dv 3 1 nE left) _) from Imp.rfl))
  have hxo := hitL_xo hA hrs hzr hor hZ hS
  clear h3 h4 h5 h6 h7 h8
  obtain ⟨cb, hcb⟩ : ∃ cb, cb = w9.heap.size := ⟨_, rfl⟩
  have a10 := (At.start rfl : At w9 [] Emp w9).alloc (.cells #[.slice none 0 0, .int .i64 0] 45 (0, 0)) .emp
  rw [← hcb] at a10
  simp [← hcb]
  refine a10.st .emp (by simp) (by simp) fun w10 h10 => ?_
  have h10b : At w9 [] (Star (ObjA cb (.cells #[.slice none 0 0, .int .i64 (minI (cf left) (hitL rs zs out 0) : Nat)] 45 (0, 0))) (Star (OwnA (.slice none 0 0) 3 1 nE (hitL rs zs out 0)) Emp)) w10 := by
    have := ((h10.nil (E := 3) (sz := 1) (enc := nE) (Lcl.obj.star .emp)).by Imp.sw)
    simpa [hitL, minI, Inf] using this
  have hob10 := h10.kp.blk (h9.kp.blk hob (by simp)) (by simp)
  have hr10 := hr1.kp (h9.kp.trans0 h10.kp)
  simp [g2, cell_blk hob10, hr10.ops.len]
  refine range_loop (n := T.ops.length) (by omega) (CdI tb cb sv dv ov av zv bv T (cf left) rs zs out w9) (by simp) (by simp)
    ⟨by simp [g1], by simp [g2], by simp [g6], by simp [g7], by simp, by simp, by simp, by simp [hcb], _, by simpa using h10b⟩ (by decide) (fun _ _ _ _ h => by unfold CdI at h ⊢; simpa using h) (fun _ _ _ _ h => by unfold CdI at h ⊢; simpa using h) ?_ ?_
  · clear g1 g2 g6 g7 h10 h10b
    rintro i ρ w11 hi hci hli ⟨g1, g2, g6, g7, g10, g11, g12, g13, lv, h11⟩
    have hav11 := hav9.kp0 h11.kp
    simp [g10, hav11.len, hci]
    refine range_loop (n := rs.length) (by omega) (CeI tb cb sv dv ov av zv bv T (cf left) rs zs out w9 i lv) (by simp) (by simp)
      ⟨by simp [g1], by simp [g2], by simp [g6], by simp [g7], by simp [g10], by simp [g11], by simp [g12], by simp [g13], by simp [hli], by simp [hci], by simp, by simp, by simp, by simpa using h11⟩ (by decide) (fun _ _ _ _ h => by unfold CeI at h ⊢; simpa using h) (fun _ _ _ _ h => by unfold CeI at h ⊢; simpa using h) ?_ ?_
    · clear g1 g2 g6 g7 g10 g11 g12 g13 hci hli
      rintro j ρ w12 hj hcj hlj ⟨g1, g2, g6, g7, g10, g11, g12, g13, g52, g53, g14, g56, g15, h12⟩
      obtain ⟨a, hja⟩ : ∃ a, rs[j]? = some a := ⟨_, List.getElem?_eq_getElem hj⟩
      have hav12 := hav9.kp0 h12.kp
      have ec := hav12.cells rcE_len hja
      simp only [rcE] at ec
      have hji : (j : Int) < rs.length := by omega
      obtain ⟨ab, hab⟩ : ∃ ab, ab = w12.heap.size := ⟨_, rfl⟩
      have hLe : Lcl (Star (ObjA cb (.cells #[lv, .int .i64 (minI (cf left) (hitL rs zs out i) : Nat)] 45 (0, 0))) (Star (OwnA lv 3 1 nE (hitL rs zs out i)) Emp)) := Lcl.obj.star (Lcl.own.star .emp)
      simp (disch := omega) [g56, hcj, hlj, hav12.idx, ec, ← hab]
      refine st_rc (r := a) hLe h12 hab fun w13 h13 => ?_
      have rA := rc_at h13.obj
      have h13z := h13.by Imp.dr
      have et : (rs.take (j + 1)).any (hitA zs out i) = ((rs.take j).any (hitA zs out i) || hitA zs out i a) := by
        rw [take_snoc hja, List.any_append]; simp
      by_cases hf : (rs.take j).any (hitA zs out i) = true
      · rw [hf] at g15 et
        simp [g15]
        unfold CeI
        simp only [et, Bool.true_or]
        simp [g1, g2, g6, g7, g10, g11, g12, g13, g52, g53, g14, g56, hcj, hlj]
        exact h13z
      have hf : (rs.take j).any (hitA zs out i) = false := by simpa using hf
      rw [hf] at g15 et
      rw [Bool.false_or] at et
      by_cases e1 : a.op = i
      case neg =>
        have e1i : ((a.op : Int) == (i : Int)) = false := by simp; omega
        have e1n : hitA zs out i a = false := by unfold hitA; rw [decide_eq_false e1]; rfl
        rw [e1n] at et
        simp [g15, ← hab, rA.op, g14, e1i, e1]
        unfold CeI
        simp only [et]
        simp [g1, g2, g6, g7, g10, g11, g12, g13, g52, g53, g14, g56, hcj, hlj]
        exact h13z
      have e1i : ((a.op : Int) == (i : Int)) = true := by simp; omega
      cases hst2 : a.st with
      | true =>
        have c0 := rA.c0
        rw [hst2] at c0
        simp [g15, ← hab, rA.op, g14, e1i, e1, c0, g11, rA.to]
        refine cl_of (in_spec zv zs a.to (hzv9.kp0 h13.kp) (by omega)) ?_
        rintro _ w14 ⟨rfl, k14⟩
        have h14 := h13z.kp0 hLe k14
        have e1n : hitA zs out i a = decide (a.to ∈ zs) := by unfold hitA; rw [decide_eq_true e1, hst2]; rfl
        rw [e1n] at et
        simp [g15]
        unfold CeI
        simp only [et]
        simp [g1, g2, g6, g7, g10, g11, g12, g13, g52, g53, g14, g56, hcj, hlj]
        exact h14
      | false =>
        have c0 := rA.c0
        rw [hst2] at c0
        simp [g15, ← hab, rA.op, g14, e1i, e1, c0, g12, rA.fr]
        refine cl_of (in_spec bv out a.fr (hbv9.kp0 h13.kp) (by omega)) ?_
        rintro _ w14 ⟨rfl, k14⟩
        have h14 := h13z.kp0 hLe k14
        have rA14 := rc_at (k14.blk h13.obj (by simp))
        by_cases hfr : a.fr ∈ out
        · have e1n : hitA zs out i a = decide (a.to ∈ zs) := by unfold hitA; rw [decide_eq_true e1, hst2, decide_eq_true hfr]; rfl
          rw [e1n] at et
          simp [hfr, g15, ← hab, g11, rA14.to]
          refine cl_of (in_spec zv zs a.to ((hzv9.kp0 h13.kp).kp0 k14) (by omega)) ?_
          rintro _ w15 ⟨rfl, k15⟩
          have h15 := h14.kp0 hLe k15
          simp [g15]
          unfold CeI
          simp only [et]
          simp [g1, g2, g6, g7, g10, g11, g12, g13, g52, g53, g14, g56, hcj, hlj]
          exact h15
        · have e1n : hitA zs out i a = false := by unfold hitA; rw [decide_eq_true e1, hst2, decide_eq_false hfr]; rfl
          rw [e1n] at et
          simp [hfr, g15]
          unfold CeI
          simp only [et]
          simp [g1, g2, g6, g7, g10, g11, g12, g13, g52, g53, g14, g56, hcj, hlj]
          exact h14
    clear g1 g2 g6 g7 g10 g11 g12 g13 hci hli
    rintro ρ w12 ⟨g1, g2, g6, g7, g10, g11, g12, g13, g52, g53, g14, g56, g15, h12⟩
    rw [List.take_length] at g15
    have hsucc := hitL_succ rs zs out i
    have hhl := hitL_len rs zs out i
    by_cases hf : rs.any (hitA zs out i) = true
    · rw [hf] at g15
      rw [if_pos hf] at hsucc
      have oc12 := h12.obj
      obtain ⟨x, hx⟩ : ∃ x, left[i]? = some x := ⟨_, List.getElem?_eq_getElem (by omega)⟩
      have hxd : cf left i = x := by unfold cf; simp [List.getD, hx]
      have hmin : minI (cf left) (hitL rs zs out (i + 1)) = min (minI (cf left) (hitL rs zs out i)) x := by rw [hsucc, minI_snoc, hxd]
      simp [g15, g13, g14, cell_blk oc12, rowOf]
      have h13 := (h12.by Imp.sw).kp0 (Lcl.own.star (Lcl.obj.star .emp)) ((Kp.refl [] w12).alloc (.cells #[.int .i64 (i : Nat)] 3))
      refine At.append (xs := [i]) (Lcl.obj.star .emp) h13 nE_len nE_one sl_22 rfl (fun j u hj => ?_) (by omega) (by unfold maxLen; omega) fun lv' w14 h14 => ?_
      · rw [add_none, cell_blk alloc_new]
        simpa [nE] using hj
      have o14 := h14.own.o1
      have c14 := h14.own.c1
      simp [g13, c14]
      refine (h14.by Imp.sw).st (Lcl.own.star .emp) (by simp) (by simp [o14]) fun w15 h15 => ?_
      have oc15 := h15.obj
      simp at oc15
      have hd15 := hd9.vw.kp0 h15.kp
      have hii : (i : Int) < left.length := by omega
      obtain ⟨mk, hmk⟩ : ∃ mk, mk = minI (cf left) (hitL rs zs out i) := ⟨_, rfl⟩
      rw [← hmk] at hmin oc15 h15
      have emin : min (mk : Int) (x : Int) = ((min mk x : Nat) : Int) := by omega
      simp (disch := omega) [g13, g14, g6, cell_blk oc15, hd15.idx, nE_cell hd15 hx, emin]
      have h15d := h15.drew (Lcl.obj.star (Lcl.own.star .emp))
      refine h15d.st (Lcl.own.star .emp) (by simp) (by simp) fun w16 h16 => ?_
      unfold CdI
      simp [g1, g2, g6, g7, g10, g11, g12, g13, g52, g53]
      rw [hmin, hsucc]
      exact ⟨lv', by simpa using h16⟩
    · have hf2 : rs.any (hitA zs out i) = false := by simpa using hf
      rw [hf2] at g15
      rw [if_neg hf, List.append_nil] at hsucc
      simp [g15]
      unfold CdI
      simp [g1, g2, g6, g7, g10, g11, g12, g13, g52, g53]
      rw [hsucc]
      exact ⟨lv, h12⟩
  clear g1 g2 g6 g7 h10 h10b
  rintro ρ w11 ⟨g1, g2, g6, g7, g10, g11, g12, g13, lv5, h11⟩
  obtain ⟨L, hLd⟩ : ∃ L, L = hitL rs zs out T.ops.length := ⟨_, rfl⟩
  have hLp := hitL_asc rs zs out T.ops.length
  have hLl2 := hitL_len rs zs out T.ops.length
  rw [← hLd] at h11 hLp hLl2
  simp only [← hLd] at hxo
  have hz : Szs U S0 4096 1048576 (cf left) := ⟨fun u hu => by
      rw [hU] at hu
      have := (uns_rng hg hu).2.1
      omega, fun x hx => by
      rw [hS0] at hx
      have := stN_lt hst x hx
      omega, fun u hu => by
      rw [hU] at hu
      have := (uns_rng hg hu).2.2
      exact hlb _ (mem_getD (by omega)), by unfold Inf; omega⟩
  have hgval := (gst_some hgs).val
  obtain ⟨op0, hop0⟩ := xo_ex hz hV (by rw [hgval]; exact hg0) (by rw [hgval]; exact hgi)
  have hneL : L ≠ [] := fun e => by have := (hxo op0).2 hop0; rw [e] at this; cases this
  have hLop : ∀ op ∈ L, op < left.length := fun op ho => by
    rw [hLd] at ho
    unfold hitL at ho
    have := List.mem_range.1 (List.mem_filter.1 ho).1
    omega
  have hcbL : ∀ op ∈ L, cf left op ≤ 1048576 := fun op ho => hlb _ (mem_getD (hLop op ho))
  obtain ⟨m, hm⟩ : ∃ m, m = minI (cf left) L := ⟨_, rfl⟩
  have hmle := minI_le (c := cf left) L
  rw [← hm] at hmle h11
  have hcut : IsCut U (cf left) S0 G V L m := ⟨⟨numF T.vars gf, hgs, hxo⟩, hLp, hmle.2, by rw [hm]; exact minI_in hneL hcbL⟩
  have hless := hcut.less hV hg0 hgi (n := C0.length) (fun u hu => by rw [hU] at hu; have := (uns_rng hg hu).2.2; omega)
  have hmpos := (hcut.pos hV hg0 hgi).1
  have hmub : m ≤ 1048576 := by
    obtain ⟨op, ho, e⟩ := hcut.at_
    have := hcbL op ho
    omega
  have hle := hcut.le
  have o5 := h11.drop.own.o1
  have h8 := (At.join CuB.lcl h9 (h11.by Imp.as')).by Imp.as
  have hoc8 := h8.obj
  have h8' : At w1 [] (Star (OwnA dv 3 1 nE (tabN left.length (sub (cf left) (L.take 0) m))) (Star (ObjA cb (.cells #[lv5, .int .i64 (m : Nat)] 45 (0, 0))) (Star (OwnA lv5 3 1 nE L) (Star (OwnA ov 45 2 ctE cs) (Star (VwsA nE (cs.map ctW)) Emp))))) w11 := by
    have e : tabN left.length (sub (cf left) (L.take 0) m) = left := by
      have : sub (cf left) (L.take 0) m = cf left := by funext i; simp [sub]
      rw [this, tab_cf]
    rw [e]
    unfold CuB at h8
    exact h8.by Imp.fr3
  have hLY : Lcl (Star (ObjA cb (.cells #[lv5, .int .i64 (m : Nat)] 45 (0, 0))) (Star (OwnA lv5 3 1 nE L) (Star (OwnA ov 45 2 ctE cs) (Star (VwsA nE (cs.map ctW)) Emp)))) := Lcl.obj.star (Lcl.own.star (Lcl.own.star (Lcl.vws.star .emp)))
  simp only [thenK_nrm]
  simp [g13, cell_blk hoc8, h8.drop.own.vw.len]
  refine range_loop (n := L.length) (by omega) (fun k ρ w' => ρ 1 = sv ∧ ρ 2 = .pointer (some ⟨tb, 0, none⟩) ∧ ρ 6 = dv ∧ ρ 7 = ov ∧ ρ 13 = .pointer (some ⟨cb, 0, none⟩) ∧ ρ 103 = lv5 ∧ At w1 [] (Star (OwnA dv 3 1 nE (tabN left.length (sub (cf left) (L.take k) m))) (Star (ObjA cb (.cells #[lv5, .int .i64 (m : Nat)] 45 (0, 0))) (Star (OwnA lv5 3 1 nE L) (Star (OwnA ov 45 2 ctE cs) (Star (VwsA nE (cs.map ctW)) Emp))))) w') (by simp) (by simp)
    ⟨by simp [g1], by simp [g2], by simp [g6], by simp [g7], by simp [g13], by simp, by simpa using h8'⟩ (by decide) (fun _ _ _ _ h => by simpa using h) (fun _ _ _ _ h => by simpa using h) ?_ ?_
  · clear g1 g2 g6 g7 g10 g11 g12 g13 h8 h8' hoc8
    rintro k ρ w12 hk hck hlk ⟨g1, g2, g6, g7, g13, g103, h9⟩
    have hoc := h9.drop.obj
    have hlv := h9.drop.drop.own.vw
    have hdv := h9.own.vw
    obtain ⟨op, hop⟩ : ∃ op, L[k]? = some op := ⟨_, List.getElem?_eq_getElem hk⟩
    have hopm := List.mem_of_getElem? hop
    have hopl := hLop op hopm
    have hnot := asc_take hLp hop
    have hstp := sub_step (c := cf left) (m := m) hop hnot
    have hmx := hle op hopm
    obtain ⟨x, hx⟩ : ∃ x, x = cf left op := ⟨_, rfl⟩
    rw [← hx] at hmx hstp
    have hxb : x ≤ 1048576 := by rw [hx]; exact hcbL op hopm
    have ev : sub (cf left) (L.take k) m op = x := by unfold sub; rw [if_neg hnot, hx]
    have hki : (k : Int) < L.length := by omega
    have hopi : (op : Int) < left.length := by omega
    have htl : (tabN left.length (sub (cf left) (L.take k) m)).length = left.length := tabN_len _ _
    have cx := nE_cell hdv (tabN_at (g := sub (cf left) (L.take k) m) hopl)
    rw [ev] at cx
    obtain ⟨y, hy⟩ : ∃ y, y = x - m := ⟨_, rfl⟩
    rw [← hy] at hstp
    have ey : (x : Int) - (m : Int) = (y : Int) := by omega
    simp (disch := omega) [g6, g13, g103, hck, hlk, hlv.idx, nE_cell hlv hop, cell_blk hoc, hdv.idx, htl, cx, ey, wrap_i64]
    rw [adr_own h9.own (by omega : op < (tabN left.length (sub (cf left) (L.take k) m)).length)]
    have h9d := h9.drew (Lcl.own.star hLY)
    refine h9d.store1 hLY nE_len nE_one (k := op) (by omega) (x := y) rfl fun w13 h10 => ?_
    rw [tabN_set hopl, hstp] at h10
    simp [g1, g2, g6, g7, g13, g103, hck, hlk]
    exact h10
  clear g1 g2 g6 g7 g10 g11 g12 g13 h8 h8' hoc8
  rintro ρ w12 ⟨g1, g2, g6, g7, g13, _, h8⟩
  rw [List.take_length] at h8
  have hoc8 := h8.drop.obj
  have rc : cellsAt w12 ⟨cb, 0, none⟩ 0 2 = some [lv5, .int .i64 (m : Nat)] := by simp [cellsAt, Addr.add, cell_blk hoc8]
  obtain ⟨ct, hct⟩ : ∃ ct : Ct, ct = ⟨⟨lv5, o5⟩, L, m⟩ := ⟨_, rfl⟩
  have h9 := h8.by Imp.fr4
  have hLZ : Lcl (Star (OwnA dv 3 1 nE (tabN left.length (sub (cf left) L m))) (Star (ObjA cb (.cells #[lv5, .int .i64 (m : Nat)] 45 (0, 0))) (Star (OwnA lv5 3 1 nE L) (Star (VwsA nE (cs.map ctW)) Emp)))) := Lcl.own.star (Lcl.obj.star (Lcl.own.star (Lcl.vws.star .emp)))
  have h9a := h9.kp0 (Lcl.own.star hLZ) ((Kp.refl [] w12).alloc (.cells #[lv5, .int .i64 (m : Nat)] 45))
  simp [g7, g13, rc, rowOf]
  refine At.append (xs := [ct]) hLZ h9a ctE_len ctE_one sl_36 rfl (fun j u hj => ?_) (by omega) (by unfold maxLen; omega) fun ov' w14 h10 => ?_
  · rw [add_none, cell_blk alloc_new]
    simpa [ctE, hct] using hj
  have hcf : cf (tabN left.length (sub (cf left) L m)) = sub (cf left) L m := cf_tab fun i hi => sub_out hi
  have hoc14 := h10.drop.drop.obj
  have q1 : ¬ (m : Int) < 1 := by omega
  have q2 : ¬ (1125899906842624 : Int) ≤ (m : Int) := by omega
  simp [g13, cell_blk hoc14, q1, q2]
  refine ⟨_, hless, by simp [g1], by simp [g2], by simp [g6], tabN left.length (sub (cf left) L m), cs ++ [ct], by rw [tabN_len]; exact hll, fun x hx => ?_, by rw [hcf], by simp; omega, fun r hr => ?_, ?_⟩
  · unfold tabN at hx
    obtain ⟨i, hi, rfl⟩ := List.mem_map.1 hx
    have hi := List.mem_range.1 hi
    have := hlb _ (mem_getD (l := left) hi)
    have h2 : cf left i ≤ 1048576 := this
    unfold sub
    split <;> omega
  · rw [hcf] at hr
    have := cut_pre hpre hV hg0 hgi hcut r hr
    rw [List.map_append, hct]
    exact this
  · simp
    unfold CuB
    have e1 : (cs ++ [ct]).map ctW = cs.map ctW ++ [(⟨lv5, o5⟩, L)] := by rw [List.map_append, hct]; rfl
    rw [e1]
    have h11 := h10.by (Imp.sw.trans (Imp.un (Imp.un Imp.dr)))
    exact h11.by (Imp.un (Imp.un (Imp.ow.trans (VwsA.add o5))))
end Go.Proofs.Ytcplpogmbacnfaa
end
