/-
  A part of the proof of this claim's statement (RxXC, RxFx, RxXD, RxXE, RxLw, RxXG): plain theorems; no conditions beyond those each names.
-/
import Derived.Test.YtcplpogmbacnfaaPk12
import Derived.Test.YtcplpogmbacnfaaPk11
section
set_option maxRecDepth 100000
set_option linter.unusedSimpArgs false
set_option linter.unusedVariables false
namespace Go.Proofs.Ytcplpogmbacnfaa
open Go Go.W Go.Tk Go.Rx Go.Maps
/-- One number for the facts of a state, another one for the rest. -/
def stG (vars s : List Nat) (zi zo : Int) (f : Nat) : Int := if f ∈ stN vars s vars.length then zi else zo
theorem stN_mem {vars s : List Nat} (hs : StN vars s) {v x : Nat} (hv : v < vars.length) (hx : x < vars.getD v 0) : psum vars v + x ∈ stN vars s vars.length ↔ x = s.getD v 0 := by
  unfold stN
  rw [List.mem_map]
  constructor
  · rintro ⟨u, hu, e⟩
    have hu := List.mem_range.1 hu
    have := numF_inj (vars := vars) (f := (u, s.getD u 0)) (g := (v, x)) hu (hs.rng u hu) hv hx e
    injection this with e1 e2
    rw [← e2, e1]
  · rintro rfl
    exact ⟨v, List.mem_range.2 hv, rfl⟩
def rF (y : Nat) (zi zo : Int) (x : Nat) : Nat → Int := fun j => if j < x then (if j = y then zi else zo) else 0
theorem rF_zero (n y : Nat) (zi zo : Int) : List.replicate n (0 : Int) = tabZ n (rF y zi zo 0) := by
  apply List.ext_getElem
  · simp [tabZ]
  · intro i h1 h2
    simp [tabZ, rF]
theorem rF_out {y x : Nat} {zi zo : Int} (h : x ≠ y) : updN (rF y zi zo x) x zo = rF y zi zo (x + 1) := by
  funext j
  by_cases e : j = x
  · subst e; simp [rF, h]
  · rw [updN_ne e]; unfold rF
    by_cases h2 : j < x
    · have h3 : j < x + 1 := by omega
      simp [h2, h3]
    · have h3 : ¬ j < x + 1 := by omega
      simp [h2, h3]
theorem rF_in {x : Nat} {zi zo : Int} : updN (updN (rF x zi zo x) x zo) x zi = rF x zi zo (x + 1) := by
  funext j
  by_cases e : j = x
  · subst e; simp [rF]
  · rw [updN_ne e, updN_ne e]; unfold rF
    by_cases h2 : j < x
    · have h3 : j < x + 1 := by omega
      simp [h2, h3]
    · have h3 : ¬ j < x + 1 := by omega
      simp [h2, h3]
theorem rF_all {vars s : List Nat} (hs : StN vars s) {v n y : Nat} {zi zo : Int} (hv : vars[v]? = some n) (hy : s[v]? = some y) : tabZ n (rF y zi zo n) = rwI vars (stG vars s zi zo) v := by
  have hl : v < vars.length := (List.getElem?_eq_some_iff.1 hv).1
  have e1 : vars.getD v 0 = n := by simp [List.getD, hv]
  have e2 : s.getD v 0 = y := by simp [List.getD, hy]
  unfold tabZ rwI
  rw [e1]
  refine List.map_congr_left fun x hx => ?_
  have hx := List.mem_range.1 hx
  unfold rF stG
  rw [if_pos hx]
  have := stN_mem hs hl (x := x) (by rw [e1]; exact hx)
  rw [e2] at this
  by_cases h : x = y
  · rw [if_pos h, if_pos (this.2 h)]
  · rw [if_neg h, if_neg (fun h2 => h (this.1 h2))]
def StI (sv v15 : Value) (zi zo : Int) (vars s : List Nat) (w : World) (k : Nat) (ρ : Env) (w' : World) : Prop :=
  ρ 1 = sv ∧ ρ 2 = .int .i64 zi ∧ ρ 3 = .int .i64 zo ∧ ρ 15 = v15 ∧ ∃ ps : List (Cell1 × List Int), ps.map (·.2) = tbK vars (stG vars s zi zo) k ∧ At w [] (Star (TabA (ρ 9) 22 3 iE ps) Emp) w'
set_option maxHeartbeats 1000000 in
theorem start_spec {w : World} (T : Nt) (sv : Value) (s : List Nat) (zi zo : Int) (hr : NtR w T) (hs : Vw w sv nE s) (hst : StN T.vars s) (hvl : T.vars.length ≤ 1000) (hvn : ∀ n ∈ T.vars, n ≤ 1000) :
    Calls Try.prog 61 [ntV T, sv, .int .i64 zi, .int .i64 zo].toArray w fun e w' => ∃ u, e = .returned u ∧ ∃ ps : List (Cell1 × List Int), ps.map (·.2) = tbI T.vars (stG T.vars s zi zo) ∧ At w [] (Star (TabA u 22 3 iE ps) Emp) w' := by
  refine enter Try.func61 mixed low61 (Nat.le_of_ble_eq_true rfl) ?_
  simp only [L61]
  have hlen := hst.len
  obtain ⟨b, hb⟩ : ∃ b, b = w.heap.size := ⟨_, rfl⟩
  have h1 : At w [] (Star (ObjA b (ntO T)) Emp) (w.alloc (ntO T)) := by rw [hb]; exact (At.start rfl).alloc _ .emp
  obtain ⟨w1, hw1⟩ : ∃ w1, w1 = w.alloc (ntO T) := ⟨_, rfl⟩
  rw [← hw1] at h1
  have hw1' : w.alloc (.cells #[T.vv.1, T.nv.1, T.gv.1, T.ov.1] 26 (0, 0)) = w1 := by rw [hw1]; rfl
  have hr1 := hr.kp h1.kp
  have hob := h1.obj
  unfold ntO at hob
  have h2 : At w [] (Star (TabA (.slice none 0 0) 22 3 iE ([] : List (Cell1 × List Int))) Emp) w1 := TabA.nil .emp h1.drop
  simp [ntV, ← hb, hw1', cell_blk hob, hr1.vars.len]
  refine range_loop (n := T.vars.length) (by omega) (StI sv T.vv.1 zi zo T.vars s w) (by simp) (by simp)
    ⟨by simp, by simp, by simp, by simp, [], rfl, by simpa using h2⟩ (by decide) (fun _ _ _ _ h => by unfold StI at h ⊢; simpa using h) (fun _ _ _ _ h => by unfold StI at h ⊢; simpa using h) ?_ ?_
  rotate_left
  · rintro ρ w4 ⟨g1, g2, g3, g15, ps, hps, h4⟩
    simp
    exact ⟨ps, hps, h4⟩
  rintro k ρ w4 hk hc hlm ⟨g1, g2, g3, g15, ps, hps, h4⟩
  have hr4 := hr.kp h4.kp
  have hpl : ps.length = k := by
    have := congrArg List.length hps
    simpa [tbK] using this
  obtain ⟨n, hn⟩ : ∃ n, T.vars[k]? = some n := ⟨_, List.getElem?_eq_getElem hk⟩
  obtain ⟨y, hy⟩ : ∃ y, s[k]? = some y := ⟨_, List.getElem?_eq_getElem (by omega)⟩
  have hnb := hvn n (List.mem_of_getElem? hn)
  have hki : (k : Int) < T.vars.length := by omega
  have hks : (k : Int) < s.length := by omega
  have h5 := h4.made (E := 3) (enc := iE) (x := 0) (z := [.int .i64 0]) (n := n) (Lcl.tab.star .emp) rfl iE_len (by unfold maxLen; omega)
  obtain ⟨rv, hrv⟩ : ∃ rv, rv = Value.slice (some ⟨w4.heap.size, 0, none⟩) n n := ⟨_, rfl⟩
  obtain ⟨w5, hw5⟩ : ∃ w5, w5 = w4.alloc (.cells (rowOf [.int .i64 0] n).toArray 3) := ⟨_, rfl⟩
  rw [← hrv, rF_zero n y zi zo, ← hw5] at h5
  simp (disch := omega) [g15, hc, hlm, hr4.vars.idx, nE_cell hr4.vars hn]
  refine gd_mk (by omega) ?_
  simp [← hrv, ← hw5, h5.own.vw.len, tabZ_len]
  obtain ⟨ov, hov⟩ : ∃ ov, ov = ρ 9 := ⟨_, rfl⟩
  rw [← hov] at h5
  have hLT : Lcl (Star (TabA ov 22 3 iE ps) Emp) := Lcl.tab.star .emp
  refine range_loop (n := n) (by omega) (fun x ρ w' => ρ 1 = sv ∧ ρ 2 = .int .i64 zi ∧ ρ 3 = .int .i64 zo ∧ ρ 15 = T.vv.1 ∧ ρ 16 = .int .i64 (T.vars.length : Nat) ∧ ρ 17 = .int .i64 (k : Nat) ∧ ρ 10 = .int .i64 (k : Nat) ∧ ρ 9 = ov ∧ ρ 12 = rv ∧ At w [] (Star (OwnA rv 3 1 iE (tabZ n (rF y zi zo x))) (Star (TabA ov 22 3 iE ps) Emp)) w') (by simp) (by simp)
    ⟨by simp [g1], by simp [g2], by simp [g3], by simp [g15], by simp [hlm], by simp [hc], by simp, by simp [hov], by simp, h5⟩ (by decide) (fun _ _ _ _ h => by simpa using h) (fun _ _ _ _ h => by simpa using h) ?_ ?_
  rotate_left
  · clear g1 g2 g3 g15 hc hlm
    rintro ρ w6 ⟨g1, g2, g3, g15, g16, g17, g10, g9, g12, h6⟩
    rw [rF_all hst hn hy] at h6
    have c6 := h6.own.c1
    simp [g9, g12, c6]
    refine tab_append .emp h6 (by omega) fun ho v' w7 h7 => ?_
    simp [g16, g17]
    refine ⟨by simp [g1], by simp [g2], by simp [g3], by simp [g15], ps ++ [(⟨rv, ho⟩, rwI T.vars (stG T.vars s zi zo) k)], ?_, by simpa using h7⟩
    rw [List.map_append, hps, tbK_succ]
    rfl
  clear g1 g2 g3 g15 hc hlm h4 hr4 hov
  rintro x ρ w6 hx hcx hlx ⟨g1, g2, g3, g15, g16, g17, g10, g9, g12, h6⟩
  have hO6 := h6.own
  have hxi : (x : Int) < (tabZ n (rF y zi zo x)).length := by rw [tabZ_len]; omega
  simp (disch := omega) [g1, g3, g12, hcx, hO6.idx]
  refine h6.store1 hLT iE_len iE_one (k := x) (by rw [tabZ_len]; exact hx) (x := zo) rfl fun w7 h7 => ?_
  rw [tabZ_set hx] at h7
  have hs7 := hs.kp0 h7.kp
  by_cases hyx : y = x
  · have hb1 : ((y : Int) == (x : Int)) = true := by simp; omega
    have hO7 := h7.own
    have hxi7 : (x : Int) < (tabZ n (updN (rF y zi zo x) x zo)).length := by rw [tabZ_len]; omega
    simp (disch := omega) [g1, g2, g10, g12, hcx, hs7.idx, nE_cell hs7 hy, hb1, hO7.idx]
    refine h7.store1 hLT iE_len iE_one (k := x) (by rw [tabZ_len]; exact hx) (x := zi) rfl fun w8 h8 => ?_
    rw [tabZ_set hx] at h8
    simp [g1, g2, g3, g9, g10, g12, g15, g16, g17, hcx, hlx]
    subst hyx
    rw [rF_in] at h8
    exact h8
  · have hb1 : ((y : Int) == (x : Int)) = false := by simp; omega
    simp (disch := omega) [g1, g2, g3, g9, g10, g12, g15, g16, g17, hcx, hlx, hs7.idx, nE_cell hs7 hy, hb1]
    rw [rF_out (fun e => hyx e.symm)] at h7
    exact h7
end Go.Proofs.Ytcplpogmbacnfaa
end
section
set_option linter.unusedVariables false
set_option linter.unusedSimpArgs false
namespace Go.Rx
open Go.Tk Go.W Go
structure Rf (A : List Un) (S : List Nat) (V : Nat → Nat) : Prop where
  s0 : ∀ f ∈ S, V f = 0
  der : ∀ f, V f < Inf → Der A S f (V f)
  le : ∀ f, V f ≤ Inf
def sumV (N : Nat) (V : Nat → Nat) : Nat := ((List.range N).map V).sum
/-- No operator of a list lowers a value. -/
def Clo (A : List Un) (V : Nat → Nat) : Prop := ∀ u ∈ A, gr V u.needs < Inf → V u.makes ≤ gr V u.needs + u.cost
section
variable {A A' : List Un} {S : List Nat} {V : Nat → Nat} {u : Un} {N f x : Nat}
theorem sumV_succ : sumV (N + 1) V = sumV N V + V N := by
  unfold sumV; rw [List.range_succ, List.map_append, List.sum_append]; simp
theorem sumV_congr {V' : Nat → Nat} (h : ∀ i, i < N → V i = V' i) : sumV N V = sumV N V' := by
  unfold sumV
  rw [List.map_congr_left fun i hi => h i (List.mem_range.1 hi)]
theorem sumV_upd (hf : f < N) (hx : x < V f) : sumV N (updN V f x) < sumV N V := by
  induction N with
  | zero => omega
  | succ N ih =>
    rw [sumV_succ, sumV_succ]
    by_cases e : f = N
    · subst e
      rw [updN_same, sumV_congr (V' := V) fun i hi => updN_ne (by omega)]
      omega
    · have := ih (by omega)
      rw [updN_ne (fun h => e h.symm)]
      omega
theorem Rf.init : Rf A S (fun f => if f ∈ S then 0 else Inf) := {
  s0 := fun f hf => by simp [hf]
  der := fun f hf => by
    by_cases h : f ∈ S
    · simp [h]; exact .base h
    · simp [h] at hf
  le := fun f => by
    by_cases h : f ∈ S <;> simp [h] }
theorem Rf.step (h : Rf A S V) (hu : u ∈ A) (hlt : gr V u.needs + u.cost < V u.makes) : Rf A S (updN V u.makes (gr V u.needs + u.cost)) := {
  s0 := fun f hf => by
    by_cases e : f = u.makes
    · have := h.s0 f hf
      rw [e] at this; omega
    · rw [updN_ne e]; exact h.s0 f hf
  der := fun f hf => by
    by_cases e : f = u.makes
    · subst e
      rw [updN_same]
      have hle := h.le u.makes
      exact .step hu V fun n hn => h.der n (by have := gr_mem (V := V) hn; omega)
    · rw [updN_ne e] at hf ⊢; exact h.der f hf
  le := fun f => by
    by_cases e : f = u.makes
    · subst e
      rw [updN_same]
      have := h.le u.makes
      omega
    · rw [updN_ne e]; exact h.le f }
theorem Rf.fin (h : Rf A S V) (hc : Clo A V) : IsVal A S V := ⟨h.s0, hc, h.der, h.le⟩
theorem Clo.nil : Clo [] V := fun u hu => by cases hu
theorem Clo.app (h : Clo A V) (h' : Clo A' V) : Clo (A ++ A') V := fun u hu => by
  rcases List.mem_append.1 hu with h1 | h1
  · exact h u h1
  · exact h' u h1
theorem Clo.one (h : gr V u.needs < Inf → V u.makes ≤ gr V u.needs + u.cost) : Clo [u] V := fun v hv => by
  simp at hv; subst hv; exact h
end
theorem allow_app {ok : Nat → Bool} {A B : List Un} : allow ok (A ++ B) = allow ok A ++ allow ok B := by simp [allow]
theorem unA_op {vars : List Nat} {o : No} {i c k : Nat} (hk : k < o.effs.length) : (unA vars o i c k).op = i := by
  unfold unA; rw [List.getElem?_eq_getElem hk]
theorem allow_opU_no {ok : Nat → Bool} {vars : List Nat} {o : No} {i c k : Nat} (hk : k ≤ o.effs.length) (h : ok i = false) : allow ok (opU vars o i c k) = [] := by
  unfold allow opU
  rw [List.filter_eq_nil_iff]
  intro u hu
  obtain ⟨j, hj, rfl⟩ := List.mem_map.1 hu
  rw [unA_op (Nat.lt_of_lt_of_le (List.mem_range.1 hj) hk), h]
  simp
theorem allow_opU_yes {ok : Nat → Bool} {vars : List Nat} {o : No} {i c k : Nat} (hk : k ≤ o.effs.length) (h : ok i = true) : allow ok (opU vars o i c k) = opU vars o i c k := by
  unfold allow opU
  rw [List.filter_eq_self]
  intro u hu
  obtain ⟨j, hj, rfl⟩ := List.mem_map.1 hu
  rw [unA_op (Nat.lt_of_lt_of_le (List.mem_range.1 hj) hk), h]
theorem unA_at {vars : List Nat} {o : No} {i c k : Nat} {e : Nf} (h : o.effs[k]? = some e) : unA vars o i c k = ⟨i, k, c, numF vars (e.v, e.x), dedup ((o.pre ++ e.cnd).map (numF vars))⟩ := by
  unfold unA; rw [h]
theorem gr_dedup {V : Nat → Nat} {l : List Nat} : gr V (dedup l) = gr V l := gr_set fun x => dedup_mem
/-- The unary operators of a task come from its operators. -/
theorem uns_mem {t : Nt} {cost : Nat → Nat} {n : Nat} {u : Un} (h : u ∈ unsK t cost n) : ∃ i o k e, i < n ∧ t.ops[i]? = some o ∧ o.effs[k]? = some e ∧ u = ⟨i, k, cost i, numF t.vars (e.v, e.x), dedup ((o.pre ++ e.cnd).map (numF t.vars))⟩ := by
  unfold unsK at h
  obtain ⟨i, hi, h2⟩ := List.mem_flatMap.1 h
  cases ho : t.ops[i]? with
  | none => rw [ho] at h2; cases h2
  | some o =>
    rw [ho] at h2
    unfold opU at h2
    obtain ⟨k, hk, rfl⟩ := List.mem_map.1 h2
    have hk := List.mem_range.1 hk
    exact ⟨i, o, k, _, List.mem_range.1 hi, ho, List.getElem?_eq_getElem hk, unA_at (List.getElem?_eq_getElem hk)⟩
theorem mem_uns {t : Nt} {cost : Nat → Nat} {n i k : Nat} {o : No} {e : Nf} (hi : i < n) (ho : t.ops[i]? = some o) (he : o.effs[k]? = some e) : (⟨i, k, cost i, numF t.vars (e.v, e.x), dedup ((o.pre ++ e.cnd).map (numF t.vars))⟩ : Un) ∈ unsK t cost n := by
  unfold unsK
  refine List.mem_flatMap.2 ⟨i, List.mem_range.2 hi, ?_⟩
  rw [ho]
  unfold opU
  exact List.mem_map.2 ⟨k, List.mem_range.2 (List.getElem?_eq_some_iff.1 he).1, unA_at he⟩
end Go.Rx
end
section
set_option maxRecDepth 100000
set_option linter.unusedSimpArgs false
set_option linter.unusedVariables false
namespace Go.Proofs.Ytcplpogmbacnfaa
open Go Go.W Go.Tk Go.Rx Go.Maps
def iV (V : Nat → Nat) (f : Nat) : Int := (V f : Int)
theorem iV_upd {V : Nat → Nat} {f c : Nat} : updN (iV V) f (c : Int) = iV (updN V f c) := by
  funext g
  unfold iV
  by_cases e : g = f
  · subst e; simp
  · rw [updN_ne e, updN_ne e]
/-- A cell of a table is written. -/
theorem tb_set {vars : List Nat} {g : Nat → Int} {v x : Nat} {c : Int} (hv : v < vars.length) (hx : x < vars.getD v 0) : (tbI vars g).set v ((rwI vars g v).set x c) = tbI vars (updN g (psum vars v + x) c) := by
  unfold tbI tbK
  apply List.ext_getElem
  · simp
  · intro u h1 h2
    simp at h1
    rw [List.getElem_set]
    by_cases e : v = u
    · subst e
      simp only [if_true, List.getElem_map, List.getElem_range]
      unfold rwI
      apply List.ext_getElem
      · simp
      · intro y h3 h4
        rw [List.getElem_set]
        simp only [List.getElem_map, List.getElem_range]
        by_cases e2 : x = y
        · subst e2; simp
        · rw [if_neg e2, updN_ne (by omega)]
    · simp only [if_neg e, List.getElem_map, List.getElem_range]
      unfold rwI
      refine List.map_congr_left fun y hy => ?_
      have hy := List.mem_range.1 hy
      rw [updN_ne]
      intro e2
      have := numF_inj (vars := vars) (f := (u, y)) (g := (v, x)) h1 hy hv hx e2
      injection this with e3 _
      exact e e3.symm
/-- Costs. -/
def cstL (cl : List Nat) (i : Nat) : Nat := cl.getD i 0
structure Rfs (T : Nt) (cl : List Nat) (ws : List Int) (S : List Nat) (s0 : Nat) (V : Nat → Nat) (ch : Bool) (A : List Un) : Prop where
  rf : Rf (allow (okL ws) (uns T (cstL cl))) S V
  clo : ch = false → Clo A V
  lt : ch = true → sumV T.vars.sum V < s0
  le : sumV T.vars.sum V ≤ s0
def FxT (T : Nt) (tv : Value) (V : Nat → Nat) (X : Asr) (w : World) (w' : World) : Prop := ∃ ps : List (Cell1 × List Int), ps.map (·.2) = tbI T.vars (iV V) ∧ At w [] (Star (TabA tv 22 3 iE ps) X) w'
def FxI (T : Nt) (cv wv tv : Value) (b : Nat) (cl : List Nat) (ws : List Int) (S : List Nat) (w : World) (n : Nat) (ρ : Env) (w' : World) : Prop :=
  ρ 1 = cv ∧ ρ 3 = wv ∧ ρ 4 = .pointer (some ⟨b, 0, none⟩) ∧ ρ 9 = tv ∧ ∃ V ch, ρ 10 = .bool ch ∧ Rf (allow (okL ws) (uns T (cstL cl))) S V ∧ (ch = false → Clo (allow (okL ws) (uns T (cstL cl))) V) ∧ n = (if ch then sumV T.vars.sum V + 1 else 0) ∧ FxT T tv V (Star (ObjA b (ntO T)) Emp) w w'
def FxO (T : Nt) (cv wv tv : Value) (b : Nat) (cl : List Nat) (ws : List Int) (S : List Nat) (w : World) (s0 : Nat) (i : Nat) (ρ : Env) (w' : World) : Prop :=
  ρ 1 = cv ∧ ρ 3 = wv ∧ ρ 4 = .pointer (some ⟨b, 0, none⟩) ∧ ρ 9 = tv ∧ ρ 24 = T.ov.1 ∧ ∃ V ch, ρ 10 = .bool ch ∧ Rfs T cl ws S s0 V ch (allow (okL ws) (unsK T (cstL cl) i)) ∧ FxT T tv V (Star (ObjA b (ntO T)) Emp) w w'
def FxE (T : Nt) (cv wv tv : Value) (b : Nat) (cl : List Nat) (ws : List Int) (S : List Nat) (w : World) (s0 : Nat) (i ob : Nat) (o : No) (j : Nat) (ρ : Env) (w' : World) : Prop :=
  ρ 1 = cv ∧ ρ 3 = wv ∧ ρ 4 = .pointer (some ⟨b, 0, none⟩) ∧ ρ 9 = tv ∧ ρ 24 = T.ov.1 ∧ ρ 25 = .int .i64 (T.ops.length : Nat) ∧ ρ 26 = .int .i64 (i : Nat) ∧ ρ 11 = .int .i64 (i : Nat) ∧ ρ 12 = .pointer (some ⟨ob, 0, none⟩) ∧ ρ 46 = o.ev.1 ∧
    ∃ V ch, ρ 10 = .bool ch ∧ Rfs T cl ws S s0 V ch (allow (okL ws) (unsK T (cstL cl) i) ++ opU T.vars o i (cstL cl i) j) ∧ FxT T tv V (Star (ObjA ob (noO o)) (Star (ObjA b (ntO T)) Emp)) w w'
set_option maxHeartbeats 1000000 in
theorem rfacts_spec {w : World} (T : Nt) (cv sv wv : Value) (cl s : List Nat) (ws : List Int) (hr : NtR w T) (hg : NtG T) (hc : Vw w cv nE cl) (hcl : cl.length = T.ops.length) (hcb : ∀ c ∈ cl, c ≤ 1048576) (hs : Vw w sv nE s) (hst : StN T.vars s) (hw : Vw w wv iE ws) (hwl : ws.length ≤ 1000) :
    Calls Try.prog 36 [ntV T, cv, sv, wv].toArray w fun e w' => ∃ u, e = .returned u ∧ ∃ V, IsVal (allow (okL ws) (uns T (cstL cl))) (stN T.vars s T.vars.length) V ∧ Kp [] w w' ∧ LLV iE w' u (tbI T.vars (iV V)) := by
  refine enter Try.func36 mixed low36 (Nat.le_of_ble_eq_true rfl) ?_
  simp only [L36]
  have hlen := hst.len
  have hvl := hg.vlen
  have hol := hg.olen
  obtain ⟨b, hb⟩ : ∃ b, b = w.heap.size := ⟨_, rfl⟩
  have h1 : At w [] (Star (ObjA b (ntO T)) Emp) (w.alloc (ntO T)) := by rw [hb]; exact (At.start rfl).alloc _ .emp
  obtain ⟨w1, hw1⟩ : ∃ w1, w1 = w.alloc (ntO T) := ⟨_, rfl⟩
  rw [← hw1] at h1
  have hw1' : w.alloc (.cells #[T.vv.1, T.nv.1, T.gv.1, T.ov.1] 26 (0, 0)) = w1 := by rw [hw1]; rfl
  have hr1 := hr.kp h1.kp
  have hob := h1.obj
  have rt := rd_tk (t := T.raw) (b := b) (w := w1) hob
  simp [ntV, ← hb, hw1', rt, Nt.raw]
  refine cl_of (start_spec T sv s 0 1125899906842624 hr1 (hs.kp0 h1.kp) hst (by omega) (fun n hn => by have := hg.vars n hn; omega)) ?_
  rintro tv w2 ⟨ps, hps, t2⟩
  have h2 := At.join (Lcl.obj.star .emp) h1 t2
  obtain ⟨S, hS⟩ : ∃ S, S = stN T.vars s T.vars.length := ⟨_, rfl⟩
  have hV0 : stG T.vars s 0 1125899906842624 = iV fun f => if f ∈ S then 0 else Inf := by
    funext f
    unfold stG iV
    rw [← hS]
    by_cases h : f ∈ S <;> simp [h, Inf]
  rw [hV0] at hps
  rw [← hS]
  simp
  refine loop_inv (FxI T cv wv tv b cl ws S w) _ ⟨by simp, by simp, by simp, by simp, _, true, by simp, Rf.init, by simp, rfl, ps, hps, by simpa using h2⟩ ?_
  clear hps h2 hV0 t2
  rintro n ρ w3 ⟨g1, g3, g4, g9, V, ch, g10, hRf, hCl, rfl, ps, hps, h3⟩
  cases ch with
  | false =>
    simp [g10, g9]
    exact ⟨V, hRf.fin (hCl rfl), h3.kp, TabA.vw hps h3⟩
  | true =>
    have hob3 := h3.drop.obj
    unfold ntO at hob3
    have hr3 := hr.kp h3.kp
    simp [g10, g4, cell_blk hob3, hr3.ops.len]
    obtain ⟨s0, hs0⟩ : ∃ s0, s0 = sumV T.vars.sum V := ⟨_, rfl⟩
    refine range_loop (n := T.ops.length) (by omega) (FxO T cv wv tv b cl ws S w s0) (by simp) (by simp)
      ⟨by simp [g1], by simp [g3], by simp [g4], by simp [g9], by simp, V, false, by simp, ⟨hRf, fun _ => by unfold unsK allow; exact Clo.nil, by simp, by omega⟩, ps, hps, by simpa using h3⟩ (by decide) (fun _ _ _ _ h => by unfold FxO at h ⊢; simpa using h) (fun _ _ _ _ h => by unfold FxO at h ⊢; simpa using h) ?_ ?_
    rotate_left
    · clear g1 g3 g4 g9 g10 hps h3
      rintro ρ w4 ⟨g1, g3, g4, g9, g24, V2, ch2, g10, hF, h4⟩
      simp
      refine ⟨_, ?_, g1, g3, g4, g9, V2, ch2, g10, hF.rf, hF.clo, rfl, h4⟩
      cases ch2 with
      | false => simp
      | true => have := hF.lt rfl; simp; omega
    clear g1 g3 g4 g9 g10 hps h3 hob3 hr3 hRf hCl
    rintro i ρ w4 hi hci hli ⟨g1, g3, g4, g9, g24, V2, ch2, g10, hF, ps2, hps2, h4⟩
    have hr4 := hr.kp h4.kp
    obtain ⟨o, ho⟩ : ∃ o, T.ops[i]? = some o := ⟨_, List.getElem?_eq_getElem hi⟩
    have hom := List.mem_of_getElem? ho
    have hgo := hg.ops o hom
    have ec := hr4.ops.cells noE_len ho
    simp only [noE] at ec
    have hii : (i : Int) < T.ops.length := by omega
    obtain ⟨ob, hob2⟩ : ∃ ob, ob = w4.heap.size := ⟨_, rfl⟩
    have hLT : ∀ ps, Lcl (Star (TabA tv 22 3 iE ps) (Star (ObjA b (ntO T)) Emp)) := fun _ => Lcl.tab.star (Lcl.obj.star .emp)
    simp (disch := omega) [g24, hci, hli, hr4.ops.idx, ec, ← hob2]
    refine st_oq (o := o.raw) (hLT _) h4 hob2 fun w5 h5 => ?_
    have h5 : At w [] (Star (TabA tv 22 3 iE ps2) (Star (ObjA ob (noO o)) (Star (ObjA b (ntO T)) Emp))) w5 := h5.by Imp.sw
    have hw5 := hw.kp0 h5.kp
    simp [g3, hw5.len]
    refine range_loop (n := ws.length) (by omega) (fun z ρ w' => ρ 1 = cv ∧ ρ 3 = wv ∧ ρ 4 = .pointer (some ⟨b, 0, none⟩) ∧ ρ 9 = tv ∧ ρ 10 = .bool ch2 ∧ ρ 11 = .int .i64 (i : Nat) ∧ ρ 12 = .pointer (some ⟨ob, 0, none⟩) ∧ ρ 24 = T.ov.1 ∧ ρ 25 = .int .i64 (T.ops.length : Nat) ∧ ρ 26 = .int .i64 (i : Nat) ∧ ρ 31 = wv ∧ ρ 13 = .bool (decide ((i : Int) ∈ ws.take z)) ∧ w' = w5) (by simp) (by simp)
      ⟨by simp [g1], by simp [g3], by simp [g4], by simp [g9], by simp [g10], by simp [hci], by simp [hob2], by simp [g24], by simp [hli], by simp [hci], by simp, by simp, rfl⟩ (by decide) (fun _ _ _ _ h => by simpa using h) (fun _ _ _ _ h => by simpa using h) ?_ ?_
    · clear g1 g3 g4 g9 g10 g24 hci hli
      rintro z ρ w6 hz hcz hlz ⟨g1, g3, g4, g9, g10, g11, g12, g24, g25, g26, g31, g13, rfl⟩
      obtain ⟨y, hy⟩ : ∃ y, ws[z]? = some y := ⟨_, List.getElem?_eq_getElem hz⟩
      have hzi : (z : Int) < ws.length := by omega
      have e : decide ((i : Int) ∈ ws.take (z + 1)) = (decide ((i : Int) ∈ ws.take z) || decide (y = (i : Int))) := by
        rw [take_snoc hy, Bool.eq_iff_iff, decide_eq_true_iff, Bool.or_eq_true, decide_eq_true_iff, decide_eq_true_iff, List.mem_append, List.mem_singleton]
        exact or_congr Iff.rfl eq_comm
      cases hm : decide ((i : Int) ∈ ws.take z) with
      | true =>
        rw [hm] at g13 e
        simp (disch := omega) [g31, hcz, hlz, hw5.idx, iE_cell hw5 hy, g13, g1, g3, g4, g9, g10, g11, g12, g24, g25, g26]
        simpa using e
      | false =>
        rw [hm] at g13 e
        have e2 : (y == (i : Int)) = decide (y = (i : Int)) := by
          rw [Bool.eq_iff_iff]; simp
        simp (disch := omega) [g31, hcz, hlz, hw5.idx, iE_cell hw5 hy, g13, g1, g3, g4, g9, g10, g11, g12, g24, g25, g26]
        rw [e2]
        simpa using e.symm
    clear g1 g3 g4 g9 g10 g24 hci hli
    rintro ρ w6 ⟨g1, g3, g4, g9, g10, g11, g12, g24, g25, g26, g31, g13, rfl⟩
    rw [List.take_length] at g13
    have hsuc := unsK_succ (cost := cstL cl) ho
    cases hm : decide ((i : Int) ∈ ws) with
    | true =>
      rw [hm] at g13
      have hno : okL ws i = false := by unfold okL; simpa using hm
      simp [g13, g25, g26]
      refine ⟨by simp [g1], by simp [g3], by simp [g4], by simp [g9], by simp [g24], V2, ch2, by simp [g10], ⟨hF.rf, fun h => ?_, hF.lt, hF.le⟩, ps2, hps2, by simpa using h5.by (Imp.un Imp.dr)⟩
      rw [hsuc, allow_app, allow_opU_no (Nat.le_refl _) hno, List.append_nil]
      exact hF.clo h
    | false =>
      rw [hm] at g13
      have hok : okL ws i = true := by unfold okL; simpa using hm
      have hob5 := h5.drop.obj
      unfold noO oqO No.raw at hob5
      have hr5 := hr.kp h5.kp
      have hro5 := hr5.op o hom
      have helen := hgo.elen
      simp [g13, g12, cell_blk hob5, hro5.effs.len]
      refine range_loop (n := o.effs.length) (by omega) (FxE T cv wv tv b cl ws S w s0 i ob o) (by simp) (by simp)
        ⟨by simp [g1], by simp [g3], by simp [g4], by simp [g9], by simp [g24], by simp [g25], by simp [g26], by simp [g11], by simp [g12], by simp, V2, ch2, by simp [g10], ⟨hF.rf, fun h => by simpa [opU] using hF.clo h, hF.lt, hF.le⟩, ps2, hps2, by simpa using h5⟩ (by decide) (fun _ _ _ _ h => by unfold FxE at h ⊢; simpa using h) (fun _ _ _ _ h => by unfold FxE at h ⊢; simpa using h) ?_ ?_
      rotate_left
      · clear g1 g3 g4 g9 g10 g11 g12 g24 g25 g26 g31 g13 hps2 h4 h5 hob5 hr5 hro5
        rintro ρ w7 ⟨g1, g3, g4, g9, g24, g25, g26, g11, g12, g46, V3, ch3, g10, hF3, ps3, hps3, h7⟩
        simp [g25, g26]
        refine ⟨by simp [g1], by simp [g3], by simp [g4], by simp [g9], by simp [g24], V3, ch3, by simp [g10], ⟨hF3.rf, fun h => ?_, hF3.lt, hF3.le⟩, ps3, hps3, by simpa using h7.by (Imp.un Imp.dr)⟩
        rw [hsuc, allow_app, allow_opU_yes (Nat.le_refl _) hok]
        exact hF3.clo h
      clear g1 g3 g4 g9 g10 g11 g12 g24 g25 g26 g31 g13 hps2 h4 h5 hob5 hr5 hro5
      rintro j ρ w7 hj hcj hlj ⟨g1, g3, g4, g9, g24, g25, g26, g11, g12, g46, V3, ch3, g10, hF3, ps3, hps3, h7⟩
      have hr7 := hr.kp h7.kp
      have hro7 := hr7.op o hom
      obtain ⟨e, he⟩ : ∃ e, o.effs[j]? = some e := ⟨_, List.getElem?_eq_getElem hj⟩
      have hem := List.mem_of_getElem? he
      have ece := hro7.effs.cells nfE_len he
      simp only [nfE] at ece
      have hji : (j : Int) < o.effs.length := by omega
      obtain ⟨fb, hfb⟩ : ∃ fb, fb = w7.heap.size := ⟨_, rfl⟩
      have hLE : ∀ ps, Lcl (Star (TabA tv 22 3 iE ps) (Star (ObjA ob (noO o)) (Star (ObjA b (ntO T)) Emp))) := fun _ => Lcl.tab.star (Lcl.obj.star (Lcl.obj.star .emp))
      simp (disch := omega) [g46, hcj, hlj, hro7.effs.idx, ece, ← hfb]
      refine st_ef (e := e.raw) (hLE _) h7 hfb fun w8 h8 => ?_
      have h8 : At w [] (Star (TabA tv 22 3 iE ps3) (Star (ObjA ob (noO o)) (Star (ObjA fb (nfO e)) (Star (ObjA b (ntO T)) Emp)))) w8 := h8.by Imp.bk3
      have ro8 := rd_oq (o := o.raw) h8.drop.obj
      have hro8 := (hr.kp h8.kp).op o hom
      simp [g9, g12, ro8, No.raw, hcj]
      have hgp := hgo.pre
      have hgc := hgo.cnd e hem
      have hpl := hgp.len
      have hcl2 := hgc.len
      refine cl_of (needs_spec o j e hro8 he (by omega) (by omega)) ?_
      rintro nv w9 n9
      have h9 := h8.kp0 (Lcl.tab.star (Lcl.obj.star (Lcl.obj.star (Lcl.obj.star .emp)))) n9.kp
      simp [g9]
      have hrng : FcRng T.vars (o.pre ++ e.cnd) := fun f hf => by
        rcases List.mem_append.1 hf with h | h
        · exact hgp.rng f h
        · exact hgc.rng f h
      have ht9 : LLV iE w9 tv (tbI T.vars fun f => ((V3 f : Nat) : Int)) := TabA.vw hps3 h9
      have hll : (o.pre ++ e.cnd).length ≤ 1000000 := by rw [List.length_append]; omega
      refine cl_of (greatest_spec tv nv T.vars V3 (o.pre ++ e.cnd) ht9 n9.own.vw hll hrng) ?_
      rintro _ w10 ⟨rfl, k10⟩
      have h10 := h9.kp0 (Lcl.tab.star (Lcl.obj.star (Lcl.obj.star (Lcl.obj.star .emp)))) k10
      obtain ⟨m, hm2⟩ : ∃ m, m = grF T.vars V3 (o.pre ++ e.cnd) := ⟨_, rfl⟩
      rw [← hm2]
      obtain ⟨c, hce⟩ : ∃ c, cl[i]? = some c := ⟨_, List.getElem?_eq_getElem (by omega)⟩
      have hcc : cstL cl i = c := by simp [cstL, List.getD, hce]
      have hcbn := hcb c (List.mem_of_getElem? hce)
      obtain ⟨f1, f2⟩ := hgo.eff e hem
      obtain ⟨f, hf⟩ : ∃ f, f = psum T.vars e.v + e.x := ⟨_, rfl⟩
      have hfN : f < T.vars.sum := by rw [hf]; exact numF_lt (f := (e.v, e.x)) f1 f2
      have huA : (⟨i, j, c, f, dedup ((o.pre ++ e.cnd).map (numF T.vars))⟩ : Un) ∈ allow (okL ws) (uns T (cstL cl)) := by
        refine allow_mem.2 ⟨?_, hok⟩
        have := mem_uns (cost := cstL cl) hi ho he
        rw [hcc] at this
        rw [hf]
        exact this
      have hun : unA T.vars o i (cstL cl i) j = ⟨i, j, c, f, dedup ((o.pre ++ e.cnd).map (numF T.vars))⟩ := by
        rw [unA_at he, hcc, hf]; rfl
      have hgm : gr V3 (dedup ((o.pre ++ e.cnd).map (numF T.vars))) = m := by rw [gr_dedup, hm2]; rfl
      have hmI : m ≤ Inf := by rw [← hgm]; exact gr_le_iff.2 fun x _ => hF3.rf.le x
      have hVI := hF3.rf.le f
      have hfb10 := h10.drop.drop.obj
      unfold nfO efO Nf.raw at hfb10
      rw [hfb] at hfb10
      have hc10 := hc.kp0 h10.kp
      have hcii : (i : Int) < cl.length := by omega
      obtain ⟨tp, htl, htv, htr⟩ := LLV.tb (TabA.vw hps3 h10)
      obtain ⟨p, hp⟩ : ∃ p, ps3[e.v]? = some p := ⟨_, List.getElem?_eq_getElem (by
        have := congrArg List.length hps3
        rw [List.length_map] at this
        rw [this]; unfold tbI; rw [tbK_len]; exact f1)⟩
      have hp2 : p.2 = rwI T.vars (iV V3) e.v := by
        have e1 : (ps3.map (·.2))[e.v]? = some p.2 := by rw [List.getElem?_map, hp]; rfl
        rw [hps3] at e1
        unfold tbI tbK at e1
        rw [List.getElem?_map, List.getElem?_range f1] at e1
        exact (Option.some.inj e1).symm
      have hTO := TabA.own h10
      have hTR := TabA.row h10 hp
      rw [hp2] at hTR
      have ep : w10.cell? ⟨tv.blk, e.v, none⟩ = some p.1.1 := by
        have := hTO.cell sv1_len hp (o := 0) (by omega)
        simpa [sv1] using this
      have ex : w10.cell? ⟨p.1.1.blk, e.x, none⟩ = some (.int .i64 (V3 f : Nat)) := by
        have := hTR.cell iE_len (rwI_at (g := iV V3) f2) (o := 0) (by omega)
        rw [hf]
        simpa [iE, iV] using this
      have h1i : (e.v : Int) < ps3.length := by have := (List.getElem?_eq_some_iff.1 hp).1; omega
      have h2i : (e.x : Int) < (rwI T.vars (iV V3) e.v).length := by rw [rwI_len]; omega
      have hInf : Inf = 1125899906842624 := rfl
      have skipc : (m < Inf → V3 f ≤ m + c) → Rfs T cl ws S s0 V3 ch3 (allow (okL ws) (unsK T (cstL cl) i) ++ opU T.vars o i (cstL cl i) (j + 1)) := fun h => ⟨hF3.rf, fun h2 => by
        rw [opU_succ, ← List.append_assoc, hun]
        refine (hF3.clo h2).app (Clo.one ?_)
        rw [hgm]
        exact h, hF3.lt, hF3.le⟩
      by_cases t1 : Inf ≤ m
      · have t1' : ¬ (m : Int) < 1125899906842624 := by omega
        simp (disch := omega) [t1', g25, g26, g11, g12, g46, hcj, hlj, g24]
        exact ⟨by simp [g1], by simp [g3], by simp [g4], by simp [g9], by simp [g24], by simp [g25], by simp [g26], by simp [g11], by simp [g12], by simp [g46], V3, ch3, by simp [g10], skipc (fun h => absurd h (by omega)), ps3, hps3, (h10.by (Imp.un (Imp.un Imp.dr))).kp0 (hLE _) ((Kp.refl [] w10).drew)⟩
      have t1' : (m : Int) < 1125899906842624 := by omega
      by_cases t2 : V3 f ≤ m + c
      · have t2' : ¬ (m : Int) + (c : Nat) < (V3 f : Nat) := by omega
        simp (disch := omega) [t1', g1, g11, hc10.idx, nE_cell hc10 hce, wrap_i64, g9, cell_blk hfb10, hTO.idx, ep, hTR.idx, ex, t2', g25, g26, g12, g46, hcj, hlj, g24]
        exact ⟨by simp [g1], by simp [g3], by simp [g4], by simp [g9], by simp [g24], by simp [g25], by simp [g26], by simp [g11], by simp [g12], by simp [g46], V3, ch3, by simp [g10], skipc (fun _ => t2), ps3, hps3, (h10.by (Imp.un (Imp.un Imp.dr))).kp0 (hLE _) ((Kp.refl [] w10).drew)⟩
      have t2' : (m : Int) + (c : Nat) < (V3 f : Nat) := by omega
      simp (disch := omega) [t1', g1, g11, hc10.idx, nE_cell hc10 hce, wrap_i64, g9, cell_blk hfb10, hTO.idx, ep, hTR.idx, ex, t2']
      have h11 := h10.kp0 (Lcl.tab.star (Lcl.obj.star (Lcl.obj.star (Lcl.obj.star .emp)))) (((Kp.refl [] w10).drew).trans ((Kp.refl [] w10.drew).drew))
      refine TabA.store (Lcl.obj.star (Lcl.obj.star (Lcl.obj.star .emp))) h11 hp iE_len iE_one (k := e.x) (x := ((m + c : Nat) : Int)) (by rw [hp2, rwI_len]; exact f2) (by simp [iE]) fun w12 h12 => ?_
      have hps4 : (ps3.set e.v (p.1, p.2.set e.x ((m + c : Nat) : Int))).map (·.2) = tbI T.vars (iV (updN V3 f (m + c))) := by
        rw [List.map_set, hps3, hp2, tb_set f1 f2, ← hf, iV_upd]
      have hlt : m + c < V3 f := by omega
      have hstep := hF3.rf.step huA (by rw [hgm]; exact hlt)
      rw [hgm] at hstep
      have hsum := sumV_upd (V := V3) hfN hlt
      have hle3 := hF3.le
      simp (disch := omega) [g1, g3, g4, g9, g24, g25, g26, g11, g12, g46, hcj, hlj]
      refine ⟨by simp [g1], by simp [g3], by simp [g4], by simp [g9], by simp [g24], by simp [g25], by simp [g26], by simp [g11], by simp [g12], by simp [g46], updN V3 f (m + c), true, by simp, ⟨hstep, by simp, fun _ => by omega, by omega⟩, _, hps4, h12.by (Imp.un (Imp.un Imp.dr))⟩
end Go.Proofs.Ytcplpogmbacnfaa
end
section
set_option maxRecDepth 100000
set_option linter.unusedSimpArgs false
set_option linter.unusedVariables false
namespace Go.Proofs.Ytcplpogmbacnfaa
open Go Go.W Go.Tk Go.Rx Go.Maps
def NoS (l : List Un) (V : Nat → Nat) (n : Nat) : Prop := ∀ y ∈ l, isSup V n y = false
theorem NoS.app {a b : List Un} {V : Nat → Nat} {n : Nat} (h1 : NoS a V n) (h2 : NoS b V n) : NoS (a ++ b) V n := fun y hy => by
  rcases List.mem_append.1 hy with h | h
  · exact h1 y h
  · exact h2 y h
theorem NoS.one {u : Un} {V : Nat → Nat} {n : Nat} (h : isSup V n u = false) : NoS [u] V n := fun y hy => by
  simp at hy; subst hy; exact h
end Go.Proofs.Ytcplpogmbacnfaa
end
section
set_option linter.unusedVariables false
set_option linter.unusedSimpArgs false
namespace Go.Rx
structure Lw (U : List Un) (S : List Nat) (k : Nat) (lay : Nat → Int) : Prop where
  rk : ∀ j f, j ≤ k → (Rk U S j f ↔ 0 ≤ lay f ∧ lay f ≤ (j : Int))
  neg : ∀ f, lay f < 0 → lay f = -1
  top : ∀ f, lay f ≤ (k : Int)
/-- The facts that come next. -/
def Snd (U : List Un) (lay : Nat → Int) (l : List Nat) : Prop := ∀ g ∈ l, lay g < 0 ∧ ∃ u ∈ U, u.makes = g ∧ ∀ n ∈ u.needs, 0 ≤ lay n
def Ful (A : List Un) (lay : Nat → Int) (l : List Nat) : Prop := ∀ u ∈ A, lay u.makes < 0 → (∀ n ∈ u.needs, 0 ≤ lay n) → u.makes ∈ l
def layN (lay : Nat → Int) (k : Nat) (l : List Nat) : Nat → Int := fun f => if f ∈ l then (k : Int) + 1 else lay f
section
variable {U A A' : List Un} {S l : List Nat} {k N f : Nat} {lay : Nat → Int}
theorem Lw.init : Lw U S 0 (fun f => if f ∈ S then 0 else -1) := {
  rk := fun j f hj => by
    have : j = 0 := by omega
    subst this
    show f ∈ S ↔ _
    by_cases h : f ∈ S <;> simp [h]
  neg := fun f h => by
    by_cases hf : f ∈ S
    · simp [hf] at h
    · simp [hf]
  top := fun f => by
    by_cases hf : f ∈ S <;> simp [hf] }
theorem Lw.next (h : Lw U S k lay) (hs : Snd U lay l) (hf : Ful U lay l) : Lw U S (k + 1) (layN lay k l) := {
  rk := fun j f hj => by
    unfold layN
    by_cases hl : f ∈ l
    · rw [if_pos hl]
      obtain ⟨h1, u, hu, hm, hn⟩ := hs f hl
      rcases Nat.lt_or_ge j (k + 1) with hlt | hge
      · rw [h.rk j f (by omega)]; omega
      · have : j = k + 1 := by omega
        subst this
        exact ⟨fun _ => by omega, fun _ => .inr ⟨u, hu, hm, fun n hn2 => (h.rk k n (Nat.le_refl _)).2 ⟨hn n hn2, h.top n⟩⟩⟩
    · rw [if_neg hl]
      rcases Nat.lt_or_ge j (k + 1) with hlt | hge
      · exact h.rk j f (by omega)
      · have : j = k + 1 := by omega
        subst this
        have ht := h.top f
        constructor
        · rintro (h1 | ⟨u, hu, rfl, hn⟩)
          · have := (h.rk k f (Nat.le_refl _)).1 h1; omega
          · rcases int_lg (lay u.makes) 0 with h2 | h2
            · exact absurd (hf u hu h2 fun n hn2 => ((h.rk k n (Nat.le_refl _)).1 (hn n hn2)).1) hl
            · omega
        · intro h1
          exact .inl ((h.rk k f (Nat.le_refl _)).2 ⟨h1.1, ht⟩)
  neg := fun f hf2 => by
    unfold layN at hf2 ⊢
    by_cases hl : f ∈ l
    · rw [if_pos hl] at hf2; omega
    · rw [if_neg hl] at hf2 ⊢; exact h.neg f hf2
  top := fun f => by
    unfold layN
    by_cases hl : f ∈ l
    · rw [if_pos hl]; omega
    · rw [if_neg hl]; have := h.top f; omega }
theorem Lw.fin (h : Lw U S k lay) (hf : Ful U lay []) : IsLev U S lay := by
  have st : ∀ d f, Rk U S (k + d) f → Rk U S k f := by
    intro d
    induction d with
    | zero => exact fun f h => h
    | succ d ih =>
      intro f hr
      rcases hr with hr | ⟨u, hu, rfl, hr⟩
      · exact ih f hr
      · rcases int_lg (lay u.makes) 0 with h2 | h2
        · have := hf u hu h2 fun n hn => ((h.rk k n (Nat.le_refl _)).1 (ih n (hr n hn))).1
          cases this
        · exact (h.rk k _ (Nat.le_refl _)).2 ⟨h2, h.top _⟩
  intro f
  rcases int_lg (lay f) 0 with hn | hn
  · refine .inl ⟨h.neg f hn, fun j hr => ?_⟩
    have h1 : Rk U S k f := by
      rcases Nat.le_total j k with h2 | h2
      · exact hr.le h2
      · exact st (j - k) f (by rw [show k + (j - k) = j by omega]; exact hr)
    have := (h.rk k f (Nat.le_refl _)).1 h1
    omega
  · have ht := h.top f
    refine .inr ⟨(lay f).toNat, by omega, (h.rk _ f (by omega)).2 ⟨hn, by omega⟩, fun j hj hr => ?_⟩
    have := (h.rk j f (by omega)).1 hr
    omega
theorem Snd.nil : Snd U lay [] := fun g hg => by cases hg
theorem Ful.nil : Ful [] lay l := fun u hu => by cases hu
theorem Ful.more {l' : List Nat} (h : Ful A lay l) : Ful A lay (l ++ l') := fun u hu h1 h2 => List.mem_append.2 (.inl (h u hu h1 h2))
theorem Ful.app (h : Ful A lay l) (h' : Ful A' lay l) : Ful (A ++ A') lay l := fun u hu => by
  rcases List.mem_append.1 hu with h1 | h1
  · exact h u h1
  · exact h' u h1
theorem Ful.one {u : Un} (h : lay u.makes < 0 → (∀ n ∈ u.needs, 0 ≤ lay n) → u.makes ∈ l) : Ful [u] lay l := fun v hv => by
  simp at hv; subst hv; exact h
end
end Go.Rx
end
section
set_option maxRecDepth 100000
set_option linter.unusedSimpArgs false
set_option linter.unusedVariables false
namespace Go.Proofs.Ytcplpogmbacnfaa
open Go Go.W Go.Tk Go.Rx Go.Maps
def hdB (s : List Nat) (l : List Fc) : Bool := l.all fun f => decide (s.getD f.1 0 = f.2)
end Go.Proofs.Ytcplpogmbacnfaa
end
