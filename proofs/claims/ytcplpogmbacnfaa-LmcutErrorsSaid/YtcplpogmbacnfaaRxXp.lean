/-
  Parts of the proofs of this seat's statements (RxXA, RxXB, RxXC); no conditions beyond those each theorem names.
-/
import Derived.Test.YtcplpogmbacnfaaRxWp
section
set_option maxRecDepth 100000
set_option linter.unusedSimpArgs false
set_option linter.unusedVariables false
namespace Go.Proofs.Ytcplpogmbacnfaa
open Go Go.W Go.Tk Go.Rx Go.Maps
theorem num_nil (w : World) : Calls Try.prog 22 [.nilIface].toArray w fun e w' => ∃ x, e = .returned x ∧ x = .int .i64 0 ∧ Kp [] w w' := by
  refine enter Try.func22 mixed low22 (Nat.le_of_ble_eq_true rfl) ?_
  simp only [L22]
  simp
  exact Kp.refl _ _
theorem num_err (c : Int) (w : World) : Calls Try.prog 22 [errV c].toArray w fun e w' => ∃ x, e = .returned x ∧ x = .int .i64 c ∧ Kp [] w w' := by
  refine enter Try.func22 mixed low22 (Nat.le_of_ble_eq_true rfl) ?_
  simp only [L22]
  simp [errV]
  exact Kp.refl _ _
theorem ints_spec {w : World} (u v : Value) (xs ys : List Int) (hu : Vw w u iE xs) (hv : Vw w v iE ys) (hx : xs.length ≤ 1000000) (hy : ys.length ≤ 1000000) :
    Calls Try.prog 18 [u, v].toArray w fun e w' => ∃ x, e = .returned x ∧ x = .bool (decide (xs = ys)) ∧ Kp [] w w' := by
  refine enter Try.func18 mixed low18 (Nat.le_of_ble_eq_true rfl) ?_
  simp only [L18]
  by_cases hl : xs.length = ys.length
  case neg =>
    have hne : ((xs.length : Int) != ys.length) = true := by simp; omega
    have : ¬ xs = ys := fun e => hl (by rw [e])
    simp [hu.len, hv.len, hne, this]
    exact Kp.refl _ _
  have hne : ((xs.length : Int) != ys.length) = false := by simp; omega
  simp [hu.len, hv.len, hne]
  refine range_loop (n := xs.length) (by omega) (fun k ρ w' => ρ 0 = u ∧ ρ 1 = v ∧ xs.take k = ys.take k ∧ Kp [] w w') (by simp) (by simp)
    ⟨by simp, by simp, by simp, Kp.refl _ _⟩ (by decide) (fun _ _ _ _ h => by simpa using h) (fun _ _ _ _ h => by simpa using h) ?_ ?_
  · rintro k ρ w4 hk hc hlim ⟨g0, g1, ht, k4⟩
    have hu4 := hu.kp0 k4
    have hv4 := hv.kp0 k4
    obtain ⟨a, ha⟩ : ∃ a, xs[k]? = some a := ⟨_, List.getElem?_eq_getElem hk⟩
    obtain ⟨b, hb⟩ : ∃ b, ys[k]? = some b := ⟨_, List.getElem?_eq_getElem (by omega)⟩
    simp (disch := omega) [g0, g1, hc, hlim, hu4.idx, hv4.idx, iE_cell hu4 ha, iE_cell hv4 hb]
    by_cases hab : a = b
    · subst hab
      simp [g0, g1, hc, hlim]
      refine ⟨?_, k4.drew⟩
      rw [List.take_add_one, List.take_add_one, ht, ha, hb]
    · have : ¬ xs = ys := fun e => hab (by rw [e, hb] at ha; exact (Option.some.inj ha).symm)
      have hn' : (a != b) = true := by simp [hab]
      rw [hn']
      simp [this]
      exact k4.drew
  · rintro ρ w4 ⟨g0, g1, ht, k4⟩
    have : xs = ys := by rw [List.take_of_length_le (Nat.le_refl _), List.take_of_length_le (by omega)] at ht; exact ht
    simp [this]
    exact k4
def ntO (T : Nt) : Obj := .cells #[T.vv.1, T.nv.1, T.gv.1, T.ov.1] 26 (0, 0)
def ntV (T : Nt) : Value := .agg #[T.vv.1, T.nv.1, T.gv.1, T.ov.1]
def noV (o : No) : Value := .agg #[.string o.name, .int .i64 (o.cost : Nat), o.pv.1, o.ev.1]
def costK (T : Nt) (k : Nat) : List Nat := (T.ops.take k).map (·.cost)
theorem costs_spec {w : World} (T : Nt) (hr : NtR w T) (hl : T.ops.length ≤ 100000) :
    Calls Try.prog 26 [ntV T].toArray w fun e w' => ∃ u, e = .returned u ∧ Nw w w' u 3 1 nE (T.ops.map (·.cost)) := by
  refine enter Try.func26 mixed low26 (Nat.le_of_ble_eq_true rfl) ?_
  simp only [L26]
  obtain ⟨b, hb⟩ : ∃ b, b = w.heap.size := ⟨_, rfl⟩
  have h1 : At w [] (Star (ObjA b (ntO T)) Emp) (w.alloc (ntO T)) := by rw [hb]; exact (At.start rfl).alloc _ .emp
  obtain ⟨w1, hw1⟩ : ∃ w1, w1 = w.alloc (ntO T) := ⟨_, rfl⟩
  rw [← hw1] at h1
  have hw1' : w.alloc (.cells #[T.vv.1, T.nv.1, T.gv.1, T.ov.1] 26 (0, 0)) = w1 := by rw [hw1]; rfl
  have hr1 := hr.kp h1.kp
  have hob := h1.obj
  unfold ntO at hob
  have h2 : At w [] (Star (OwnA (.slice none 0 0) 3 1 nE (costK T 0)) Emp) w1 := At.nil .emp h1.drop
  simp [ntV, ← hb, hw1', cell_blk hob, hr1.ops.len]
  refine range_loop (n := T.ops.length) (by omega) (fun k ρ w' => ρ 7 = T.ov.1 ∧ At w [] (Star (OwnA (ρ 3) 3 1 nE (costK T k)) Emp) w') (by simp) (by simp)
    ⟨by simp, by simpa using h2⟩ (by decide) (fun _ _ _ _ h => by simpa using h) (fun _ _ _ _ h => by simpa using h) ?_ ?_
  rotate_left
  · rintro ρ w4 ⟨g7, h4⟩
    unfold costK at h4
    rw [List.take_length] at h4
    simp
    exact Nw.of h4
  rintro k ρ w4 hk hc hlm ⟨g7, h4⟩
  have hr4 := hr.kp h4.kp
  obtain ⟨o, ho⟩ : ∃ o, T.ops[k]? = some o := ⟨_, List.getElem?_eq_getElem hk⟩
  have ec := hr4.ops.cells noE_len ho
  simp only [noE] at ec
  have hki : (k : Int) < T.ops.length := by omega
  obtain ⟨eb, heb⟩ : ∃ eb, eb = w4.heap.size := ⟨_, rfl⟩
  simp (disch := omega) [g7, hc, hlm, hr4.ops.idx, ec, ← heb]
  refine st_oq (o := o.raw) (Lcl.own.star .emp) h4 heb fun w5 h5 => ?_
  have ho5 := h5.obj
  unfold oqO No.raw at ho5
  rw [heb] at ho5
  simp [cell_blk ho5]
  refine nat_append (x := o.cost) .emp h5.drop (by unfold costK; simp; omega) fun v' w6 h6 => ?_
  simp [g7, hc, hlm]
  have e : costK T (k + 1) = costK T k ++ [o.cost] := by unfold costK; rw [take_snoc ho, List.map_append]; rfl
  rw [e]
  exact h6
end Go.Proofs.Ytcplpogmbacnfaa
end
section
set_option maxRecDepth 100000
set_option linter.unusedSimpArgs false
set_option linter.unusedVariables false
namespace Go.Proofs.Ytcplpogmbacnfaa
open Go Go.W Go.Tk Go.Rx Go.Maps
section
variable {α : Type} {enc : α → List Value} {E sz : Nat} {B : Asr} {w w1 : World} {F : List Nat}
theorem RowsA.snoc (q : Cell1 × List α) : ∀ (ps : List (Cell1 × List α)), Imp (Star (OwnA q.1.1 E sz enc q.2) (RowsA E sz enc ps B)) (RowsA E sz enc (ps ++ [q]) B)
  | [] => Imp.rfl
  | p :: ps => Imp.sw.trans (Imp.un (RowsA.snoc q ps))
theorem TabA.vw {v : Value} {E2 : Nat} {ps : List (Cell1 × List α)} {ls : List (List α)} (e : ps.map (·.2) = ls) (h : At w F (Star (TabA v E2 E enc ps) B) w1) : LLV enc w1 v ls :=
  ⟨ps, e, (TabA.own h).vw, fun p hp => by
    obtain ⟨i, hi, rfl⟩ := List.getElem_of_mem hp
    exact (TabA.row h (List.getElem?_eq_getElem hi)).vw⟩
/-- A row is added to a table. -/
theorem tab_append {u tv : Value} {c : List α} {ps : List (Cell1 × List α)} {KV : Kont (Value × World)} (hB : Lcl B) (h : At w F (Star (OwnA u 3 1 enc c) (Star (TabA tv 22 3 enc ps) B)) w1) (hl : ps.length ≤ 100000)
    (H : ∀ (ho : oneC u = true) v' w2, At w F (Star (TabA v' 22 3 enc (ps ++ [(⟨u, ho⟩, c)])) B) w2 → KV.run (v', w2)) :
    @efH Try.prog (Builtin.append_ #[34, 34] 34 [tv, .slice (some ⟨w1.heap.size, 0, none⟩) 1 1].toArray) (w1.alloc (.cells #[u] 22)) KV := by
  have hou := h.own.o1
  have hX : Lcl (Star (OwnA u 3 1 enc c) (RowsA 3 1 enc ps B)) := Lcl.own.star (Lcl.rows hB ps)
  have h3 : At w F (Star (OwnA tv 22 1 sv1 ps) (Star (OwnA u 3 1 enc c) (RowsA 3 1 enc ps B))) w1 := h.by ((Imp.un TabA.opn).trans Imp.sw)
  have h4 := h3.kp0 (Lcl.own.star hX) ((Kp.refl [] w1).alloc (.cells #[u] 22))
  refine At.append (xs := [((⟨u, hou⟩, c) : Cell1 × List α)]) hX h4 sv1_len sv1_one sl_34 rfl (fun j x hj => ?_) (by omega) (by unfold maxLen; omega) fun v' w5 h5 => H hou v' w5 ?_
  · simp [sv1] at hj
    rw [add_none, cell_blk alloc_new]
    simpa using hj
  · exact h5.by ((Imp.un (RowsA.snoc (⟨u, hou⟩, c) ps)).trans TabA.cls)
theorem TabA.nil (hB : Lcl B) (h : At w F B w1) : At w F (Star (TabA (.slice none 0 0) 22 3 enc []) B) w1 :=
  (At.nil (E := 22) (sz := 1) (enc := (sv1 : Cell1 × List α → List Value)) hB h).by (TabA.cls (ps := []))
end
/-- The rows of a table. -/
theorem LLV.tb {w : World} {v : Value} {vars : List Nat} {g : Nat → Int} (h : LLV iE w v (tbI vars g)) : ∃ ps : List (Cell1 × List Int), ps.length = vars.length ∧ Vw w v sv1 ps ∧ ∀ (i : Nat) (p : Cell1 × List Int), ps[i]? = some p → Vw w p.1.1 iE (rwI vars g i) := by
  obtain ⟨ps, h1, h2, h3⟩ := h.spread
  refine ⟨ps, by rw [h1]; exact tbK_len _ _ _, h2, fun i p hp => ?_⟩
  obtain ⟨l, h4, h5⟩ := h3 i p hp
  unfold tbI tbK at h4
  rw [List.getElem?_map] at h4
  have hi : i < vars.length := by
    have := (List.getElem?_eq_some_iff.1 hp).1
    rw [h1] at this
    simpa [tbI, tbK] using this
  rw [List.getElem?_range hi] at h4
  have := Option.some.inj h4
  rw [← this] at h5
  exact h5
theorem rwI_at {vars : List Nat} {g : Nat → Int} {v x : Nat} (h : x < vars.getD v 0) : (rwI vars g v)[x]? = some (g (psum vars v + x)) := by
  unfold rwI
  simp only [List.getElem?_map, List.getElem?_range h, Option.map_some]
theorem rwI_len (vars : List Nat) (g : Nat → Int) (v : Nat) : (rwI vars g v).length = vars.getD v 0 := by simp [rwI]
def FcRng (vars : List Nat) (l : List Fc) : Prop := ∀ f ∈ l, f.1 < vars.length ∧ f.2 < vars.getD f.1 0
theorem greatest_spec {w : World} (tv fv : Value) (vars : List Nat) (V : Nat → Nat) (l : List Fc) (ht : LLV iE w tv (tbI vars fun f => (V f : Int))) (hf : Vw w fv fcE l) (hl : l.length ≤ 1000000) (hr : FcRng vars l) :
    Calls Try.prog 37 [tv, fv].toArray w fun e w' => ∃ x, e = .returned x ∧ x = .int .i64 (grF vars V l : Nat) ∧ Kp [] w w' := by
  refine enter Try.func37 mixed low37 (Nat.le_of_ble_eq_true rfl) ?_
  simp only [L37]
  obtain ⟨tp, htl, htv, htr⟩ := ht.tb
  simp [hf.len]
  refine range_loop (n := l.length) (by omega) (fun k ρ w' => ρ 0 = tv ∧ ρ 8 = fv ∧ ρ 5 = .int .i64 (grF vars V (l.take k) : Nat) ∧ Kp [] w w') (by simp) (by simp)
    ⟨by simp, by simp, by simp [grF, gr], Kp.refl _ _⟩ (by decide) (fun _ _ _ _ h => by simpa using h) (fun _ _ _ _ h => by simpa using h) ?_ ?_
  rotate_left
  · rintro ρ w4 ⟨g0, g8, g5, k4⟩
    rw [List.take_length] at g5
    simp [g5]
    exact k4
  rintro k ρ w4 hk hc hlm ⟨g0, g8, g5, k4⟩
  have hf4 := hf.kp0 k4
  obtain ⟨f, hfe⟩ : ∃ f, l[k]? = some f := ⟨_, List.getElem?_eq_getElem hk⟩
  obtain ⟨f1, f2⟩ := hr f (List.mem_of_getElem? hfe)
  have ec := hf4.cells fcE_len hfe
  simp only [fcE] at ec
  obtain ⟨fb, hfb⟩ : ∃ fb, fb = w4.heap.size := ⟨_, rfl⟩
  have hki : (k : Int) < l.length := by omega
  simp (disch := omega) [g8, hc, hlm, hf4.idx, ec, ← hfb]
  refine st_fa (f := faN f) .emp (At.start (w := w4) rfl) hfb fun w7 h7 => ?_
  have k7 := k4.trans h7.kp
  have hob := h7.obj
  simp only [faN, faO] at hob
  rw [hfb] at hob
  obtain ⟨p, hp⟩ : ∃ p, tp[f.1]? = some p := ⟨_, List.getElem?_eq_getElem (by omega)⟩
  have htv7 := htv.kp0 k7
  have hrow := (htr _ p hp).kp0 k7
  have ep : w7.cell? (tv.adr.add f.1) = some p.1.1 := by simpa using htv7.at_ sv1_len hp (o := 0) (u := p.1.1) rfl
  have hx := rwI_at (g := fun f => (V f : Int)) f2
  have h1i : (f.1 : Int) < tp.length := by omega
  have h2i : (f.2 : Int) < (rwI vars (fun f => (V f : Int)) f.1).length := by rw [rwI_len]; omega
  have e6 : grF vars V (l.take (k + 1)) = max (grF vars V (l.take k)) (V (psum vars f.1 + f.2)) := by
    unfold grF
    rw [take_snoc hfe, List.map_append, List.map_singleton, gr_snoc]
    rfl
  simp (disch := omega) [g0, g5, g8, hc, hlm, cell_blk hob, htv7.idx, ep, hrow.idx, iE_cell hrow hx, e6]
  exact ⟨by omega, k7.drew⟩
theorem needs_spec {w : World} (o : No) (k : Nat) (e : Nf) (hr : NoR w o) (he : o.effs[k]? = some e) (hpl : o.pre.length ≤ 100000) (hcl : e.cnd.length ≤ 100000) :
    Calls Try.prog 62 [noV o, .int .i64 (k : Nat)].toArray w fun r w' => ∃ u, r = .returned u ∧ Nw w w' u 58 2 fcE (o.pre ++ e.cnd) := by
  refine enter Try.func62 mixed low62 (Nat.le_of_ble_eq_true rfl) ?_
  simp only [L62]
  obtain ⟨b, hb⟩ : ∃ b, b = w.heap.size := ⟨_, rfl⟩
  have h1 : At w [] (Star (ObjA b (noO o)) Emp) (w.alloc (noO o)) := by rw [hb]; exact (At.start rfl).alloc _ .emp
  obtain ⟨w1, hw1⟩ : ∃ w1, w1 = w.alloc (noO o) := ⟨_, rfl⟩
  rw [← hw1] at h1
  have hw1' : w.alloc (.cells #[.string o.name, .int .i64 (o.cost : Nat), o.pv.1, o.ev.1] 51 (0, 0)) = w1 := by rw [hw1]; rfl
  have hob := h1.obj
  unfold noO oqO No.raw at hob
  have hr1 := hr.kp h1.kp
  have hem := List.mem_of_getElem? he
  have hke : k < o.effs.length := (List.getElem?_eq_some_iff.1 he).1
  have hki : (k : Int) < o.effs.length := by omega
  have fin : ∀ w2, At w [] Emp w2 → Kp [] w w2 := fun w2 h => h.kp
  have c0 := hr1.effs.fld nfE_len he (o := 0) (u := e.wv.1) rfl
  have h2 := (h1.kp0 (Lcl.obj.star .emp) ((Kp.refl [] w1).drew)).lit (xs := ([] : List Fc)) (enc := fcE) (E := 58) (sz := 2) (cs := #[]) (m := 0) (Lcl.obj.star .emp) (by simp) fcE_len (by simp [maxLen]) rfl
  simp (disch := omega) [noV, ← hb, hw1', cell_blk hob, hr1.effs.idx, c0]
  refine ⟨?_, ?_, ?_⟩
  all_goals
    refine At.appendV (xs := o.pre) (Lcl.obj.star .emp) h2 ((hr.kp h2.kp).pre) fcE_len fcE_one sl_23 (by simp; omega) (by simp; unfold maxLen; omega) fun v' w2 h3 => ?_
    have hr3 := hr.kp h3.kp
    have c3 := hr3.effs.fld nfE_len he (o := 0) (u := e.wv.1) rfl
    have hob3 := h3.drop.obj
    unfold noO oqO No.raw at hob3
    simp (disch := omega) [hr3.effs.idx, c3, cell_blk hob3]
    try (
      refine At.appendV (xs := e.cnd) (Lcl.obj.star .emp) h3 (hr3.cnd e hem) fcE_len fcE_one sl_23 (by simp; omega) (by simp; unfold maxLen; omega) fun v2 w4 h4 => ?_
      simp
      exact Nw.of (by simpa using h4))
end Go.Proofs.Ytcplpogmbacnfaa
end
section
set_option maxRecDepth 100000
set_option linter.unusedSimpArgs false
set_option linter.unusedVariables false
namespace Go.Proofs.Ytcplpogmbacnfaa
open Go Go.W Go.Tk Go.Rx Go.Maps
/-- One number for the facts of a state, another one for the rest. -/
def stG (vars s : List Nat) (zi zo : Int) (f : Nat) : Int := if f ∈ stN vars s vars.length then zi else zo
theorem stN_mem {vars s : List Nat} (hs : StN vars s) {v x : Nat} (hv : v < vars.length) (hx : x < vars.getD v 0) : psum vars v + x ∈ stN vars s vars.length ↔ x = s.getD v 0 := by
  unfold stN
  rw [List.mem_map]
  constructor
  · rintro ⟨u, hu, e⟩
    have hu := List.mem_range.1 hu
    have := numF_inj (vars := vars) (f := (u, s.getD u 0)) (g := (v, x)) hu (hs.rng u hu) hv hx e
    injection this with e1 e2
    rw [← e2, e1]
  · rintro rfl
    exact ⟨v, List.mem_range.2 hv, rfl⟩
def rF (y : Nat) (zi zo : Int) (x : Nat) : Nat → Int := fun j => if j < x then (if j = y then zi else zo) else 0
theorem rF_zero (n y : Nat) (zi zo : Int) : List.replicate n (0 : Int) = tabZ n (rF y zi zo 0) := by
  apply List.ext_getElem
  · simp [tabZ]
  · intro i h1 h2
    simp [tabZ, rF]
theorem rF_out {y x : Nat} {zi zo : Int} (h : x ≠ y) : updN (rF y zi zo x) x zo = rF y zi zo (x + 1) := by
  funext j
  by_cases e : j = x
  · subst e; simp [rF, h]
  · rw [updN_ne e]; unfold rF
    by_cases h2 : j < x
    · have h3 : j < x + 1 := by omega
      simp [h2, h3]
    · have h3 : ¬ j < x + 1 := by omega
      simp [h2, h3]
theorem rF_in {x : Nat} {zi zo : Int} : updN (updN (rF x zi zo x) x zo) x zi = rF x zi zo (x + 1) := by
  funext j
  by_cases e : j = x
  · subst e; simp [rF]
  · rw [updN_ne e, updN_ne e]; unfold rF
    by_cases h2 : j < x
    · have h3 : j < x + 1 := by omega
      simp [h2, h3]
    · have h3 : ¬ j < x + 1 := by omega
      simp [h2, h3]
theorem rF_all {vars s : List Nat} (hs : StN vars s) {v n y : Nat} {zi zo : Int} (hv : vars[v]? = some n) (hy : s[v]? = some y) : tabZ n (rF y zi zo n) = rwI vars (stG vars s zi zo) v := by
  have hl : v < vars.length := (List.getElem?_eq_some_iff.1 hv).1
  have e1 : vars.getD v 0 = n := by simp [List.getD, hv]
  have e2 : s.getD v 0 = y := by simp [List.getD, hy]
  unfold tabZ rwI
  rw [e1]
  refine List.map_congr_left fun x hx => ?_
  have hx := List.mem_range.1 hx
  unfold rF stG
  rw [if_pos hx]
  have := stN_mem hs hl (x := x) (by rw [e1]; exact hx)
  rw [e2] at this
  by_cases h : x = y
  · rw [if_pos h, if_pos (this.2 h)]
  · rw [if_neg h, if_neg (fun h2 => h (this.1 h2))]
def StI (sv v15 : Value) (zi zo : Int) (vars s : List Nat) (w : World) (k : Nat) (ρ : Env) (w' : World) : Prop :=
  ρ 1 = sv ∧ ρ 2 = .int .i64 zi ∧ ρ 3 = .int .i64 zo ∧ ρ 15 = v15 ∧ ∃ ps : List (Cell1 × List Int), ps.map (·.2) = tbK vars (stG vars s zi zo) k ∧ At w [] (Star (TabA (ρ 9) 22 3 iE ps) Emp) w'
set_option maxHeartbeats 1000000 in
theorem start_spec {w : World} (T : Nt) (sv : Value) (s : List Nat) (zi zo : Int) (hr : NtR w T) (hs : Vw w sv nE s) (hst : StN T.vars s) (hvl : T.vars.length ≤ 1000) (hvn : ∀ n ∈ T.vars, n ≤ 1000) :
    Calls Try.prog 61 [ntV T, sv, .int .i64 zi, .int .i64 zo].toArray w fun e w' => ∃ u, e = .returned u ∧ ∃ ps : List (Cell1 × List Int), ps.map (·.2) = tbI T.vars (stG T.vars s zi zo) ∧ At w [] (Star (TabA u 22 3 iE ps) Emp) w' := by
  refine enter Try.func61 mixed low61 (Nat.le_of_ble_eq_true rfl) ?_
  simp only [L61]
  have hlen := hst.len
  obtain ⟨b, hb⟩ : ∃ b, b = w.heap.size := ⟨_, rfl⟩
  have h1 : At w [] (Star (ObjA b (ntO T)) Emp) (w.alloc (ntO T)) := by rw [hb]; exact (At.start rfl).alloc _ .emp
  obtain ⟨w1, hw1⟩ : ∃ w1, w1 = w.alloc (ntO T) := ⟨_, rfl⟩
  rw [← hw1] at h1
  have hw1' : w.alloc (.cells #[T.vv.1, T.nv.1, T.gv.1, T.ov.1] 26 (0, 0)) = w1 := by rw [hw1]; rfl
  have hr1 := hr.kp h1.kp
  have hob := h1.obj
  unfold ntO at hob
  have h2 : At w [] (Star (TabA (.slice none 0 0) 22 3 iE ([] : List (Cell1 × List Int))) Emp) w1 := TabA.nil .emp h1.drop
  simp [ntV, ← hb, hw1', cell_blk hob, hr1.vars.len]
  refine range_loop (n := T.vars.length) (by omega) (StI sv T.vv.1 zi zo T.vars s w) (by simp) (by simp)
    ⟨by simp, by simp, by simp, by simp, [], rfl, by simpa using h2⟩ (by decide) (fun _ _ _ _ h => by unfold StI at h ⊢; simpa using h) (fun _ _ _ _ h => by unfold StI at h ⊢; simpa using h) ?_ ?_
  rotate_left
  · rintro ρ w4 ⟨g1, g2, g3, g15, ps, hps, h4⟩
    simp
    exact ⟨ps, hps, h4⟩
  rintro k ρ w4 hk hc hlm ⟨g1, g2, g3, g15, ps, hps, h4⟩
  have hr4 := hr.kp h4.kp
  have hpl : ps.length = k := by
    have := congrArg List.length hps
    simpa [tbK] using this
  obtain ⟨n, hn⟩ : ∃ n, T.vars[k]? = some n := ⟨_, List.getElem?_eq_getElem hk⟩
  obtain ⟨y, hy⟩ : ∃ y, s[k]? = some y := ⟨_, List.getElem?_eq_getElem (by omega)⟩
  have hnb := hvn n (List.mem_of_getElem? hn)
  have hki : (k : Int) < T.vars.length := by omega
  have hks : (k : Int) < s.length := by omega
  have h5 := h4.made (E := 3) (enc := iE) (x := 0) (z := [.int .i64 0]) (n := n) (Lcl.tab.star .emp) rfl iE_len (by unfold maxLen; omega)
  obtain ⟨rv, hrv⟩ : ∃ rv, rv = Value.slice (some ⟨w4.heap.size, 0, none⟩) n n := ⟨_, rfl⟩
  obtain ⟨w5, hw5⟩ : ∃ w5, w5 = w4.alloc (.cells (rowOf [.int .i64 0] n).toArray 3) := ⟨_, rfl⟩
  rw [← hrv, rF_zero n y zi zo, ← hw5] at h5
  simp (disch := omega) [g15, hc, hlm, hr4.vars.idx, nE_cell hr4.vars hn]
  refine gd_mk (by omega) ?_
  simp [← hrv, ← hw5, h5.own.vw.len, tabZ_len]
  obtain ⟨ov, hov⟩ : ∃ ov, ov = ρ 9 := ⟨_, rfl⟩
  rw [← hov] at h5
  have hLT : Lcl (Star (TabA ov 22 3 iE ps) Emp) := Lcl.tab.star .emp
  refine range_loop (n := n) (by omega) (fun x ρ w' => ρ 1 = sv ∧ ρ 2 = .int .i64 zi ∧ ρ 3 = .int .i64 zo ∧ ρ 15 = T.vv.1 ∧ ρ 16 = .int .i64 (T.vars.length : Nat) ∧ ρ 17 = .int .i64 (k : Nat) ∧ ρ 10 = .int .i64 (k : Nat) ∧ ρ 9 = ov ∧ ρ 12 = rv ∧ At w [] (Star (OwnA rv 3 1 iE (tabZ n (rF y zi zo x))) (Star (TabA ov 22 3 iE ps) Emp)) w') (by simp) (by simp)
    ⟨by simp [g1], by simp [g2], by simp [g3], by simp [g15], by simp [hlm], by simp [hc], by simp, by simp [hov], by simp, h5⟩ (by decide) (fun _ _ _ _ h => by simpa using h) (fun _ _ _ _ h => by simpa using h) ?_ ?_
  rotate_left
  · clear g1 g2 g3 g15 hc hlm
    rintro ρ w6 ⟨g1, g2, g3, g15, g16, g17, g10, g9, g12, h6⟩
    rw [rF_all hst hn hy] at h6
    have c6 := h6.own.c1
    simp [g9, g12, c6]
    refine tab_append .emp h6 (by omega) fun ho v' w7 h7 => ?_
    simp [g16, g17]
    refine ⟨by simp [g1], by simp [g2], by simp [g3], by simp [g15], ps ++ [(⟨rv, ho⟩, rwI T.vars (stG T.vars s zi zo) k)], ?_, by simpa using h7⟩
    rw [List.map_append, hps, tbK_succ]
    rfl
  clear g1 g2 g3 g15 hc hlm h4 hr4 hov
  rintro x ρ w6 hx hcx hlx ⟨g1, g2, g3, g15, g16, g17, g10, g9, g12, h6⟩
  have hO6 := h6.own
  have hxi : (x : Int) < (tabZ n (rF y zi zo x)).length := by rw [tabZ_len]; omega
  simp (disch := omega) [g1, g3, g12, hcx, hO6.idx]
  refine h6.store1 hLT iE_len iE_one (k := x) (by rw [tabZ_len]; exact hx) (x := zo) rfl fun w7 h7 => ?_
  rw [tabZ_set hx] at h7
  have hs7 := hs.kp0 h7.kp
  by_cases hyx : y = x
  · have hb1 : ((y : Int) == (x : Int)) = true := by simp; omega
    have hO7 := h7.own
    have hxi7 : (x : Int) < (tabZ n (updN (rF y zi zo x) x zo)).length := by rw [tabZ_len]; omega
    simp (disch := omega) [g1, g2, g10, g12, hcx, hs7.idx, nE_cell hs7 hy, hb1, hO7.idx]
    refine h7.store1 hLT iE_len iE_one (k := x) (by rw [tabZ_len]; exact hx) (x := zi) rfl fun w8 h8 => ?_
    rw [tabZ_set hx] at h8
    simp [g1, g2, g3, g9, g10, g12, g15, g16, g17, hcx, hlx]
    subst hyx
    rw [rF_in] at h8
    exact h8
  · have hb1 : ((y : Int) == (x : Int)) = false := by simp; omega
    simp (disch := omega) [g1, g2, g3, g9, g10, g12, g15, g16, g17, hcx, hlx, hs7.idx, nE_cell hs7 hy, hb1]
    rw [rF_out (fun e => hyx e.symm)] at h7
    exact h7
end Go.Proofs.Ytcplpogmbacnfaa
end
