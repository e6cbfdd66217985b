/-
  A part of the proof of this claim's statement (WhI, WhJ, WhK): plain theorems; no conditions beyond those each names.
-/
import Derived.Test.YtolkjbmcindhjaaGreatPk22
section
set_option maxRecDepth 100000
set_option linter.unusedSimpArgs false
set_option linter.unusedVariables false
namespace Go.Proofs.YtolkjbmcindhjaaGreat
open Go Go.W Go.Tk Go.Rx Go.Maps
/-- A database that can be read. -/
structure DbR (w : World) (b : Nat) (vars p : List Nat) (N m : Nat) (d : DbV) : Prop where
  ob : w.heap[b]? = some (dbO d.vv d.pv N d.I d.cv d.ev d.gv d.tv)
  vv : Vw w d.vv nE vars
  pv : Vw w d.pv nE p
  cv : ∃ cs0 : List Nat, Vw w d.cv nE cs0 ∧ cs0.length = m
  ev : Vw w d.ev edE d.es
  tv : Vw w d.tv nE (tabN N d.V)
theorem DbR.kp {w w' : World} {b : Nat} {vars p : List Nat} {N m : Nat} {d : DbV} (h : DbR w b vars p N m d) (k : Kp [] w w') : DbR w' b vars p N m d := by
  obtain ⟨cs0, h1, h2⟩ := h.cv
  exact ⟨k.blk h.ob (by simp), h.vv.kp0 k, h.pv.kp0 k, ⟨cs0, h1.kp0 k, h2⟩, h.ev.kp0 k, h.tv.kp0 k⟩
theorem DbA.rd {T : Nt} {p : List Nat} {d : DbV} {b : Nat} {w w1 : World} {F : List Nat} {B : Asr} (h : At w F (Star (DbA T p d b) B) w1) : DbR w1 b T.vars p (szS T.vars p) T.ops.length d := by
  have h := h.by Imp.as
  have h1 := (h.drop).by Imp.as
  have h2 := (h1.drop).by Imp.as
  have h3 := (h2.drop).by Imp.as
  have h4 := (h3.drop).by Imp.as
  have h5 := (h4.drop).by Imp.as
  exact ⟨h.obj, h3.own.vw, h2.own.vw, ⟨_, h4.own.vw, by simp⟩, h5.own.vw, h1.own.vw⟩
def SaI (V : Nat → Nat) (m b : Nat) (ev uv : Value) (es : List Ed) (w : World) (k : Nat) (ρ : Env) (w' : World) : Prop :=
  ρ 0 = .pointer (some ⟨b, 0, none⟩) ∧ ρ 3 = uv ∧ ρ 21 = ev ∧ At w [] (Star (OwnA uv 3 1 nE ((es.take k).foldl (sat1 V) (List.replicate m 0))) Emp) w'
theorem satF_len {V : Nat → Nat} {m : Nat} : ∀ {es : List Ed} {p : List Nat}, p.length = m → (es.foldl (sat1 V) p).length = m
  | [], p, h => h
  | e :: es, p, h => by rw [List.foldl_cons]; exact satF_len (by rw [sat1_len]; exact h)
set_option maxHeartbeats 1000000 in
theorem saturated_spec {w : World} (b N m : Nat) (vars p : List Nat) (d : DbV) (h : DbR w b vars p N m d) (hs : Sy d.es N m) (hV : ∀ i, d.V i ≤ Inf) (hm : m ≤ 1000) (hl : d.es.length ≤ 20000) :
    Calls Tryz.prog 53 [.pointer (some ⟨b, 0, none⟩)].toArray w fun e w' => ∃ u, e = .returned u ∧ Nw w w' u 3 1 nE (satL d.V m d.es) := by
  refine enter Tryz.func53 mixed low53 (Nat.le_of_ble_eq_true rfl) ?_
  simp only [L53]
  obtain ⟨cs0, hc0, hc1⟩ := h.cv
  have hob := h.ob
  unfold dbO at hob
  simp (disch := omega) [cell_blk hob, hc0.len, hc1]
  refine gd_mk (by omega) ?_
  have h1 := (At.start (w := w) (F := []) (A := Emp) rfl).made (E := 3) (enc := nE) (x := 0) (z := [.int .i64 0]) (n := m) .emp rfl nE_len (by unfold maxLen; omega)
  obtain ⟨uv, huv⟩ : ∃ uv, uv = Value.slice (some ⟨w.heap.size, 0, none⟩) m m := ⟨_, rfl⟩
  obtain ⟨w1, hw1⟩ : ∃ w1, w1 = w.alloc (.cells (rowOf [.int .i64 0] m).toArray 3) := ⟨_, rfl⟩
  rw [← huv, ← hw1] at h1
  have hR1 := h.kp h1.kp
  have hob1 := hR1.ob
  unfold dbO at hob1
  simp (disch := omega) [← huv, ← hw1, cell_blk hob1, hR1.ev.len]
  refine range_loop (n := d.es.length) (by omega) (SaI d.V m b d.ev uv d.es w) (by simp) (by simp)
    ⟨by simp, by simp, by simp, by simpa using h1⟩ (by decide) (fun _ _ _ _ h => by simpa [SaI] using h) (fun _ _ _ _ h => by simpa [SaI] using h) ?_ ?_
  rotate_left
  · rintro ρ w2 ⟨g0, g3, g21, h2⟩
    rw [List.take_length] at h2
    simp [g3]
    exact Nw.of h2
  clear h1 hR1 hob1 hob hw1 huv
  rintro k ρ w2 hk hcc hlm ⟨g0, g3, g21, h2⟩
  obtain ⟨e, he⟩ : ∃ e, d.es[k]? = some e := ⟨_, List.getElem?_eq_getElem hk⟩
  obtain ⟨he1, he2, he3⟩ := hs.rng e (List.mem_of_getElem? he)
  have hR2 := h.kp h2.kp
  have ece := hR2.ev.cells edE_len he
  simp only [edE] at ece
  obtain ⟨eb, heb⟩ : ∃ eb, eb = w2.heap.size := ⟨_, rfl⟩
  have hki : (k : Int) < d.es.length := by omega
  obtain ⟨out, hout⟩ : ∃ out, out = (d.es.take k).foldl (sat1 d.V) (List.replicate m 0) := ⟨_, rfl⟩
  have hol : out.length = m := by rw [hout]; exact satF_len (by simp)
  have hnext : (d.es.take (k + 1)).foldl (sat1 d.V) (List.replicate m 0) = sat1 d.V out e := by rw [take_snoc he, List.foldl_append, hout]; rfl
  rw [← hout] at h2
  simp (disch := omega) [g21, hcc, hlm, hR2.ev.idx, ece, ← heb]
  have hL : ∀ out, Lcl (Star (OwnA uv 3 1 nE out) Emp) := fun _ => Lcl.own.star .emp
  refine st_sd (e := e) (hL _) h2 heb fun w3 h3 => ?_
  have oe3 := h3.obj
  unfold sdO at oe3
  rw [heb] at oe3
  have hR3 := h.kp h3.kp
  have hob3 := hR3.ob
  unfold dbO at hob3
  obtain ⟨a, ha⟩ : ∃ a, a = d.V e.1 := ⟨_, rfl⟩
  obtain ⟨a', ha'⟩ : ∃ a', a' = d.V e.2.2 := ⟨_, rfl⟩
  have hta : (tabN N d.V)[e.1]? = some a := by rw [ha]; exact tabN_at he1
  have hta' : (tabN N d.V)[e.2.2]? = some a' := by rw [ha']; exact tabN_at he3
  have hti : (e.1 : Int) < (tabN N d.V).length := by rw [tabN_len]; omega
  have hti' : (e.2.2 : Int) < (tabN N d.V).length := by rw [tabN_len]; omega
  have hal : a ≤ Inf := by rw [ha]; exact hV _
  have hal' : a' ≤ Inf := by rw [ha']; exact hV _
  have hInf : Inf = 1125899906842624 := rfl
  have hO := h3.drop.own
  obtain ⟨y, hy⟩ : ∃ y, out[e.2.1]? = some y := ⟨_, List.getElem?_eq_getElem (by omega)⟩
  have hyd : out.getD e.2.1 0 = y := by simp [List.getD, hy]
  have hoi : (e.2.1 : Int) < out.length := by omega
  obtain ⟨z, hz⟩ : ∃ z, z = max y (a - a') := ⟨_, rfl⟩
  have hzi : max (y : Int) ((a : Int) - (a' : Int)) = (z : Int) := by omega
  by_cases t1 : a < 1125899906842624
  · have t1i : (a : Int) < 1125899906842624 := by omega
    by_cases t2 : a' < 1125899906842624
    · have t2i : (a' : Int) < 1125899906842624 := by omega
      have hs1 : sat1 d.V out e = out.set e.2.1 z := by
        unfold sat1
        rw [← ha, ← ha', if_pos ⟨by omega, by omega⟩, hyd, hz]
      simp (disch := omega) [g0, g3, cell_blk hob3, cell_blk oe3, hR3.tv.idx, nE_cell hR3.tv hta, nE_cell hR3.tv hta', t1, t2, t1i, t2i, hO.idx, own_cell hO hy, wrap_i64, hzi]
      refine (h3.drop.drew (hL _)).drew (hL _) |>.store1 .emp nE_len nE_one (k := e.2.1) (by omega) (x := z) rfl fun w4 h4 => ?_
      simp [hcc, hlm]
      exact ⟨by simp [g0], by simp [g3], by simp [g21], by rw [hnext, hs1]; exact h4⟩
    · have t2i : ¬ (a' : Int) < 1125899906842624 := by omega
      have hs1 : sat1 d.V out e = out := by
        unfold sat1
        rw [← ha, ← ha', if_neg (by omega)]
      simp (disch := omega) [g0, g3, cell_blk hob3, cell_blk oe3, hR3.tv.idx, nE_cell hR3.tv hta, nE_cell hR3.tv hta', t1, t2, t1i, t2i, hcc, hlm]
      exact ⟨by simp [g0], by simp [g3], by simp [g21], by rw [hnext, hs1]; exact h3.drop.drew (hL _)⟩
  · have t1i : ¬ (a : Int) < 1125899906842624 := by omega
    have hs1 : sat1 d.V out e = out := by
      unfold sat1
      rw [← ha, ← ha', if_neg (by omega)]
    simp (disch := omega) [g0, g3, cell_blk hob3, cell_blk oe3, hR3.tv.idx, nE_cell hR3.tv hta, nE_cell hR3.tv hta', t1, t1i, hcc, hlm]
    exact ⟨by simp [g0], by simp [g3], by simp [g21], by rw [hnext, hs1]; exact h3.drop.drew (hL _)⟩
theorem pdvalue_spec {w : World} (T : Nt) (b : Nat) (p s : List Nat) (sv : Value) (d : DbV) (hT : TmT T) (hp : Pt T p) (h : DbR w b T.vars p (szS T.vars p) T.ops.length d) (hsv : Vw w sv nE s) (hst : StN T.vars s) :
    Calls Tryz.prog 55 [.pointer (some ⟨b, 0, none⟩), sv].toArray w fun e w' => ∃ x, e = .returned x ∧ x = .int .i64 (d.V (nbS T.vars s p) : Nat) ∧ Kp [] w w' := by
  refine enter Tryz.func55 mixed low55 (Nat.le_of_ble_eq_true rfl) ?_
  simp only [L55]
  have hob := h.ob
  unfold dbO at hob
  have hvl := hT.vl
  have hpl := hp.len.2
  have hsl := hst.len
  simp [cell_blk hob]
  refine cl_of (tproper_spec d.vv sv _ _ (vw_n.2 h.vv) (vw_n.2 hsv) (by simp; omega)) ?_
  rintro _ w1 ⟨rfl, k1⟩
  rw [hst.ok]
  have h1 := h.kp k1
  have hob1 := h1.ob
  unfold dbO at hob1
  simp [cell_blk hob1, h1.pv.len]
  refine range_loop (n := p.length) (by omega) (fun k ρ w' => ρ 0 = .pointer (some ⟨b, 0, none⟩) ∧ ρ 1 = sv ∧ ρ 20 = d.pv ∧ ρ 5 = .int .i64 (nbK T.vars s p k : Nat) ∧ Kp [] w w') (by simp) (by simp)
    ⟨by simp, by simp, by simp, by simp [nbK], k1⟩ (by decide) (fun _ _ _ _ h => by simpa using h) (fun _ _ _ _ h => by simpa using h) ?_ ?_
  rotate_left
  · rintro ρ w2 ⟨g0, g1, g20, g5, k2⟩
    have h2 := h.kp k2
    have hob2 := h2.ob
    unfold dbO at hob2
    have hlt := hp.nb_lt hst
    have e0 : nbK T.vars s p p.length = nbS T.vars s p := rfl
    rw [e0] at g5
    have hti : ((nbS T.vars s p : Nat) : Int) < (tabN (szS T.vars p) d.V).length := by rw [tabN_len]; omega
    simp (disch := omega) [g0, g5, cell_blk hob2, h2.tv.idx, nE_cell h2.tv (tabN_at hlt)]
    exact k2
  rintro k ρ w2 hk hc hlm ⟨g0, g1, g20, g5, k2⟩
  have h2 := h.kp k2
  have hob2 := h2.ob
  unfold dbO at hob2
  have hsv2 := hsv.kp0 k2
  obtain ⟨v, hv⟩ : ∃ v, p[k]? = some v := ⟨_, List.getElem?_eq_getElem hk⟩
  have hvd : p.getD k 0 = v := by simp [List.getD, hv]
  have hvl' := hp.rng v (List.mem_of_getElem? hv)
  obtain ⟨m, hm⟩ : ∃ m, T.vars[v]? = some m := ⟨_, List.getElem?_eq_getElem hvl'⟩
  have hmd : T.vars.getD v 0 = m := by simp [List.getD, hm]
  obtain ⟨y, hy⟩ : ∃ y, s[v]? = some y := ⟨_, List.getElem?_eq_getElem (by omega)⟩
  have hyd : s.getD v 0 = y := by simp [List.getD, hy]
  have hki : (k : Int) < p.length := by omega
  have hvi : (v : Int) < T.vars.length := by omega
  have hvi2 : (v : Int) < s.length := by omega
  have hlt := nbK_lt (vars := T.vars) (s := s) (p := p) (fun v hv => hst.rng v (hp.rng v hv)) (k + 1) (by omega)
  have hsz := szK_256 hT hp.rng (by omega) (k := k + 1) (by omega)
  have e1 : nbK T.vars s p (k + 1) = nbK T.vars s p k * m + y := by simp only [nbK]; rw [hvd, hmd, hyd]
  obtain ⟨q, hq⟩ : ∃ q, q = nbK T.vars s p (k + 1) := ⟨_, rfl⟩
  obtain ⟨q0, hq0⟩ : ∃ q0, q0 = nbK T.vars s p k := ⟨_, rfl⟩
  rw [← hq] at e1 hlt ⊢
  rw [← hq0] at e1 g5
  obtain ⟨r, hr'⟩ : ∃ r, r = q0 * m := ⟨_, rfl⟩
  rw [← hr'] at e1
  have em : (q0 : Int) * (m : Int) = (r : Int) := by rw [hr']; simp
  have es : (r : Int) + (y : Int) = (q : Int) := by omega
  simp (disch := omega) [g0, g1, g5, g20, hc, hlm, h2.pv.idx, nE_cell h2.pv hv, cell_blk hob2, h2.vv.idx, nE_cell h2.vv hm, hsv2.idx, nE_cell hsv2 hy, em, es, wrap_i64]
  exact k2.drew
end Go.Proofs.YtolkjbmcindhjaaGreat
end
section
set_option maxRecDepth 100000
set_option linter.unusedSimpArgs false
set_option linter.unusedVariables false
namespace Go.Proofs.YtolkjbmcindhjaaGreat
open Go Go.W Go.Tk Go.Rx Go.Maps
theorem saPattern_spec {w : World} (T : Nt) (pv : Value) (p : List Nat) (hr : NtR w T) (hvl : T.vars.length ≤ 1000) (hpv : Vw w pv nE p) (hp : Pt T p) :
    Calls Tryz.prog 50 [ntV T, pv].toArray w fun e w' => ∃ x, e = .returned x ∧ x = .bool true ∧ Kp [] w w' := by
  refine enter Tryz.func50 mixed low50 (Nat.le_of_ble_eq_true rfl) ?_
  simp only [L50]
  have hpl := hp.len.2
  obtain ⟨b, hb⟩ : ∃ b, b = w.heap.size := ⟨_, rfl⟩
  have h1 : At w [] (Star (ObjA b (ntO T)) Emp) (w.alloc (ntO T)) := by rw [hb]; exact (At.start rfl).alloc _ .emp
  obtain ⟨w1, hw1⟩ : ∃ w1, w1 = w.alloc (ntO T) := ⟨_, rfl⟩
  rw [← hw1] at h1
  have hw1' : w.alloc (.cells #[T.vv.1, T.nv.1, T.gv.1, T.ov.1] 26 (0, 0)) = w1 := by rw [hw1]; rfl
  have hpv1 := hpv.kp0 h1.kp
  simp [ntV, ← hb, hw1', hpv1.len]
  refine range_loop (n := p.length) (by omega) (fun k ρ w' => ρ 1 = pv ∧ ρ 2 = .pointer (some ⟨b, 0, none⟩) ∧ ρ 7 = pv ∧ At w [] (Star (ObjA b (ntO T)) Emp) w') (by simp) (by simp)
    ⟨by simp, by simp, by simp, h1⟩ (by decide) (fun _ _ _ _ h => by simpa using h) (fun _ _ _ _ h => by simpa using h) ?_ ?_
  rotate_left
  · rintro ρ w4 ⟨g1, g2, g13, h4⟩
    simp
    exact h4.kp
  rintro k ρ w4 hk hc hlm ⟨g1, g2, g13, h4⟩
  obtain ⟨v, hv⟩ : ∃ v, p[k]? = some v := ⟨_, List.getElem?_eq_getElem hk⟩
  have hvl := hp.rng v (List.mem_of_getElem? hv)
  have hpv4 := hpv.kp0 h4.kp
  have hr4 := hr.kp h4.kp
  have hob := h4.obj
  unfold ntO at hob
  have hki : (k : Int) < p.length := by omega
  have n1 : ¬ (v : Int) < 0 := by omega
  have n2 : ¬ ((T.vars.length : Nat) : Int) ≤ (v : Int) := by omega
  have n2' : ¬ T.vars.length ≤ v := by omega
  rcases k with _ | k
  · simp (disch := omega) [g1, g2, g13, hc, hlm, hpv4.idx, nE_cell hpv4 hv, n1, n2, n2', cell_blk hob, hr4.vars.len]
    exact h4
  · obtain ⟨u, hu⟩ : ∃ u, p[k]? = some u := ⟨_, List.getElem?_eq_getElem (by omega)⟩
    have huv := hp.lt_succ hu hv
    have n3 : ¬ (v : Int) ≤ (u : Int) := by omega
    have n3' : ¬ v ≤ u := by omega
    have e1 : ((k + 1 : Nat) : Int) - 1 = (k : Int) := by omega
    obtain ⟨k1, hk1⟩ : ∃ k1, k1 = k + 1 := ⟨_, rfl⟩
    rw [← hk1] at hc hv e1 hki ⊢
    have n4 : (0 : Int) < (k1 : Int) := by omega
    have n4' : 0 < k1 := by omega
    have hkl : (k : Int) < p.length := by omega
    simp (disch := omega) [g1, g2, g13, hc, hlm, hpv4.idx, nE_cell hpv4 hv, nE_cell hpv4 hu, n1, n2, n2', n3, n3', n4, n4', e1, wrap_i64, cell_blk hob, hr4.vars.len]
    exact h4
theorem saNew1_spec {w : World} (T : Nt) (pv : Value) (p : List Nat) (tb : Nat) (ho : w.heap[tb]? = some (ntO T)) (hr : NtR w T) (hvl : T.vars.length ≤ 1000) (hpv : Vw w pv nE p) (hp : Pt T p) :
    Calls Tryz.prog 49 [pv, .pointer (some ⟨tb, 0, none⟩)].toArray w fun e w' => ∃ x, e = .returned x ∧ x = .bool false ∧ Kp [] w w' := by
  refine enter Tryz.func49 mixed low49 (Nat.le_of_ble_eq_true rfl) ?_
  simp only [L49]
  simp [rd_nt ho]
  refine cl_of (saPattern_spec T pv p hr hvl hpv hp) ?_
  rintro _ w2 ⟨rfl, k2⟩
  simp
  exact k2
/-- The patterns in memory. -/
structure PsR (w : World) (T : Nt) (lv : Value) (pts : List (List Nat)) : Prop where
  ll : LLV nE w lv pts
  pt : ∀ p ∈ pts, Pt T p
theorem PsR.kp {w w' : World} {T : Nt} {lv : Value} {pts : List (List Nat)} (h : PsR w T lv pts) (k : Kp [] w w') : PsR w' T lv pts := ⟨h.ll.kp k, h.pt⟩
theorem LLV.vw1 {α : Type} {enc : α → List Value} {w : World} {v : Value} {ls : List (List α)} (h : LLV enc w v ls) : ∃ ps : List (Cell1 × List α), ps.map (·.2) = ls ∧ ps.length = ls.length ∧ Vw w v sv1 ps ∧ ∀ i p, ps[i]? = some p → w.cell? (v.adr.add i) = some p.1.1 ∧ Vw w p.1.1 enc p.2 ∧ ls[i]? = some p.2 := by
  obtain ⟨ps, h1, h2, h3⟩ := h
  refine ⟨ps, h1, by rw [← h1]; simp, h2, fun i p hp => ⟨?_, h3 p (List.mem_of_getElem? hp), by rw [← h1, List.getElem?_map, hp]; rfl⟩⟩
  simpa [sv1] using h2.at_ sv1_len hp (o := 0) (u := p.1.1) rfl
theorem indexFL_spec {w : World} (T : Nt) (lv : Value) (pts : List (List Nat)) (tb : Nat) (ho : w.heap[tb]? = some (ntO T)) (hr : NtR w T) (hvl : T.vars.length ≤ 1000) (hl : PsR w T lv pts) (hn : pts.length ≤ 1000000) :
    Calls Tryz.prog 112 [lv, .func (.func 49) #[] #[.pointer (some ⟨tb, 0, none⟩)]].toArray w fun e w' => ∃ x, e = .returned x ∧ x = .int .i64 (-1) ∧ Kp [] w w' := by
  refine enter Tryz.func112 mixed low112 (Nat.le_of_ble_eq_true rfl) ?_
  simp only [L112]
  obtain ⟨ps, hps, hpl, hvw, _⟩ := hl.ll.vw1
  simp [hvw.len]
  refine range_loop (n := ps.length) (by omega) (fun k ρ w' => ρ 0 = lv ∧ ρ 1 = .func (.func 49) #[] #[.pointer (some ⟨tb, 0, none⟩)] ∧ Kp [] w w') (by simp) (by simp)
    ⟨by simp, by simp, Kp.refl _ _⟩ (by decide) (fun _ _ _ _ h => by simpa using h) (fun _ _ _ _ h => by simpa using h) ?_ ?_
  rotate_left
  · rintro ρ w4 ⟨g0, g1, k4⟩
    simp
    exact k4
  rintro k ρ w4 hk hc' hlm ⟨g0, g1, k4⟩
  obtain ⟨x, hx⟩ : ∃ x, pts[k]? = some x := ⟨_, List.getElem?_eq_getElem (by omega)⟩
  obtain ⟨u, hu1, hu2, hu3⟩ := (hl.kp k4).ll.at hx
  have hv4 := hvw.kp0 k4
  have hki : (k : Int) < ps.length := by omega
  simp (disch := omega) [g0, g1, hc', hlm, hv4.idx, hu2]
  refine cl_of (saNew1_spec T u x tb (k4.blk ho (by simp)) (hr.kp k4) hvl hu3 (hl.pt x (List.mem_of_getElem? hx))) ?_
  rintro _ w5 ⟨rfl, k5⟩
  simp [g0, g1, hc', hlm]
  exact k4.trans0 k5
theorem containsFL_spec {w : World} (T : Nt) (lv : Value) (pts : List (List Nat)) (tb : Nat) (ho : w.heap[tb]? = some (ntO T)) (hr : NtR w T) (hvl : T.vars.length ≤ 1000) (hl : PsR w T lv pts) (hn : pts.length ≤ 1000000) :
    Calls Tryz.prog 48 [lv, .func (.func 49) #[] #[.pointer (some ⟨tb, 0, none⟩)]].toArray w fun e w' => ∃ x, e = .returned x ∧ x = .bool false ∧ Kp [] w w' := by
  refine enter Tryz.func48 mixed low48 (Nat.le_of_ble_eq_true rfl) ?_
  simp only [L48]
  simp
  refine cl_of (indexFL_spec T lv pts tb ho hr hvl hl hn) ?_
  rintro _ w5 ⟨rfl, k5⟩
  simp
  exact k5
end Go.Proofs.YtolkjbmcindhjaaGreat
end
section
set_option maxRecDepth 100000
set_option linter.unusedSimpArgs false
set_option linter.unusedVariables false
namespace Go.Proofs.YtolkjbmcindhjaaGreat
open Go Go.W Go.Tk Go.Rx Go.Maps
/-- A pointer, as a cell. -/
def ptE (b : Nat) : List Value := [.pointer (some ⟨b, 0, none⟩)]
theorem ptE_len (b : Nat) : (ptE b).length = 1 := rfl
theorem ptE_one (b : Nat) : (ptE b).all oneC = true := rfl
/-- What belongs to a database: its pattern, its values, its block. -/
abbrev Dx := List Nat × DbV × Nat
def DbsA (T : Nt) : List Dx → Asr → Asr
  | [], B => B
  | x :: l, B => Star (DbA T x.1 x.2.1 x.2.2) (DbsA T l B)
theorem Lcl.dbs {T : Nt} {B : Asr} (hB : Lcl B) : ∀ (l : List Dx), Lcl (DbsA T l B)
  | [] => hB
  | x :: l => lcl_db.star (Lcl.dbs hB l)
theorem DbsA.snoc {T : Nt} {B : Asr} (x : Dx) : ∀ (l : List Dx), Imp (Star (DbA T x.1 x.2.1 x.2.2) (DbsA T l B)) (DbsA T (l ++ [x]) B)
  | [] => Imp.rfl
  | y :: l => Imp.sw.trans (Imp.un (DbsA.snoc x l))
theorem DbsA.drop {T : Nt} {B : Asr} : ∀ (l : List Dx), Imp (DbsA T l B) B
  | [] => Imp.rfl
  | y :: l => Imp.dr.trans (DbsA.drop l)
theorem DbsA.rd {T : Nt} {B : Asr} {w w1 : World} {F : List Nat} : ∀ {l : List Dx}, At w F (DbsA T l B) w1 → ∀ x ∈ l, DbR w1 x.2.2 T.vars x.1 (szS T.vars x.1) T.ops.length x.2.1
  | [], _, x, hx => by cases hx
  | y :: l, h, x, hx => by
    rcases List.mem_cons.1 hx with rfl | hx
    · exact DbA.rd h
    · exact DbsA.rd h.drop x hx
def paO (vv dv tv : Value) : Obj := .cells #[vv, dv, tv] 108 (0, 0)
theorem db_append {w w1 : World} {F : List Nat} {B : Asr} {ov : Value} {l : List Nat} {x a : Nat} {KV : Kont (Value × World)} (hB : Lcl B) (h : At w F (Star (OwnA ov 109 1 ptE l) B) w1) (hl : l.length ≤ 1000000)
    (ha : w1.heap[a]? = some (.cells #[.pointer (some ⟨x, 0, none⟩)] 109 (0, 0)))
    (H : ∀ v' w2, At w F (Star (OwnA v' 109 1 ptE (l ++ [x])) B) w2 → KV.run (v', w2)) :
    @efH Tryz.prog (Builtin.append_ #[106, 106] 106 [ov, .slice (some ⟨a, 0, none⟩) 1 1].toArray) w1 KV := by
  refine At.append (xs := [x]) hB h ptE_len ptE_one sl_106 rfl (fun j u hj => ?_) (by omega) (by unfold maxLen; omega) fun v' w5 h5 => H v' w5 h5
  rw [add_none, cell_blk ha]
  simpa [ptE] using hj
/-- A row is added to a table; it lies in a block that is there already. -/
theorem tab_append2 {α : Type} {enc : α → List Value} {w w1 : World} {F : List Nat} {B : Asr} {u tv : Value} {c : List α} {ps : List (Cell1 × List α)} {a : Nat} {KV : Kont (Value × World)} (hB : Lcl B) (h : At w F (Star (OwnA u 3 1 enc c) (Star (TabA tv 22 3 enc ps) B)) w1) (hl : ps.length ≤ 100000)
    (ha : w1.heap[a]? = some (.cells #[u] 22 (0, 0)))
    (H : ∀ (ho : oneC u = true) v' w2, At w F (Star (TabA v' 22 3 enc (ps ++ [(⟨u, ho⟩, c)])) B) w2 → KV.run (v', w2)) :
    @efH Tryz.prog (Builtin.append_ #[30, 30] 30 [tv, .slice (some ⟨a, 0, none⟩) 1 1].toArray) w1 KV := by
  have hou := h.own.o1
  have hX : Lcl (Star (OwnA u 3 1 enc c) (RowsA 3 1 enc ps B)) := Lcl.own.star (Lcl.rows hB ps)
  have h3 : At w F (Star (OwnA tv 22 1 sv1 ps) (Star (OwnA u 3 1 enc c) (RowsA 3 1 enc ps B))) w1 := h.by ((Imp.un TabA.opn).trans Imp.sw)
  refine At.append (xs := [((⟨u, hou⟩, c) : Cell1 × List α)]) hX h3 sv1_len sv1_one sl_30 rfl (fun j x hj => ?_) (by omega) (by unfold maxLen; omega) fun v' w5 h5 => H hou v' w5 ?_
  · simp [sv1] at hj
    rw [add_none, cell_blk ha]
    simpa using hj
  · exact h5.by ((Imp.un (RowsA.snoc (⟨u, hou⟩, c) ps)).trans TabA.cls)
def dbT (x : Dx) (pt : List Nat) : Db := (x.1, x.2.1.V, pt)
/-- The partition for the first patterns. -/
structure SpI (T : Nt) (ds : List Dx) (pts : List (List Nat)) (lf : List Nat) : Prop where
  len : lf.length = T.ops.length
  pl : pts.length = ds.length
  db : ∀ d ∈ ds.zip pts, (∃ c, DbOk T d.1.1 d.1.2.1.V d.2 c) ∧ Pt T d.1.1
  sum : ∀ q o, T.ops[q]? = some o → lf.getD q 0 + psm q ((ds.zip pts).map fun d => dbT d.1 d.2) = o.cost
theorem getD_map_cost {T : Nt} {q : Nat} {o : No} (h : T.ops[q]? = some o) : (T.ops.map (·.cost)).getD q 0 = o.cost := by simp [List.getD, h]
theorem SpI.start {T : Nt} : SpI T [] [] (T.ops.map (·.cost)) := ⟨by simp, rfl, by simp, fun q o h => by rw [getD_map_cost h]; simp [psm]⟩
theorem SpI.max {T : Nt} (hg : NtG T) {ds : List Dx} {pts : List (List Nat)} {lf : List Nat} (h : SpI T ds pts lf) : ∀ c ∈ lf, c ≤ 1048576 := fun c hc => by
  obtain ⟨q, hq, rfl⟩ := List.getElem_of_mem hc
  obtain ⟨o, ho⟩ : ∃ o, T.ops[q]? = some o := ⟨_, List.getElem?_eq_getElem (by rw [← h.len]; exact hq)⟩
  have h1 := h.sum q o ho
  have h2 := (hg.ops o (List.mem_of_getElem? ho)).cost
  have h3 : lf.getD q 0 = lf[q] := by simp [List.getD, hq]
  omega
def subL (lf pt : List Nat) (k : Nat) : List Nat := tabN lf.length fun i => if i < k then lf.getD i 0 - pt.getD i 0 else lf.getD i 0
theorem subL_zero {lf pt : List Nat} : subL lf pt 0 = lf := by
  apply List.ext_getElem
  · simp [subL, tabN]
  · intro i h1 h2; simp [subL, tabN, List.getD, h2]
theorem subL_len {lf pt : List Nat} {k : Nat} : (subL lf pt k).length = lf.length := tabN_len _ _
theorem subL_at {lf pt : List Nat} {k : Nat} (h : k < lf.length) : (subL lf pt k)[k]? = some (lf.getD k 0) := by
  unfold subL
  rw [tabN_at h]
  simp
theorem subL_succ {lf pt : List Nat} {k : Nat} (h : k < lf.length) : (subL lf pt k).set k (lf.getD k 0 - pt.getD k 0) = subL lf pt (k + 1) := by
  unfold subL
  rw [tabN_set h]
  refine tabN_congr fun i hi => ?_
  by_cases e : i = k
  · subst e; simp
  · rw [updN_ne e]
    have : (i < k + 1) = (i < k) := by rw [eq_iff_iff]; omega
    simp only [this]
theorem SpI.next {T : Nt} {ds : List Dx} {pts : List (List Nat)} {lf p : List Nat} {d : DbV} {b : Nat} (hT : TmT T) (h : SpI T ds pts lf) (hp : Pt T p) (hd : DbW T p lf d) :
    SpI T (ds ++ [(p, d, b)]) (pts ++ [satL d.V T.ops.length d.es]) (subL lf (satL d.V T.ops.length d.es) T.ops.length) ∧ ∀ i, (satL d.V T.ops.length d.es).getD i 0 ≤ lf.getD i 0 := by
  have hk := DbOk.of hd.prj (Nat.le_trans (szS_16 hT hp.rng hp.len.2) (by decide)) (c := fun i => lf.getD i 0) (fun i hi => h.max hT.sm.g _ (mem_getD (by rw [h.len]; exact hi))) hd.val
  obtain ⟨pt, hpt⟩ : ∃ pt, pt = satL d.V T.ops.length d.es := ⟨_, rfl⟩
  rw [← hpt] at hk ⊢
  have hz : (ds ++ [((p, d, b) : Dx)]).zip (pts ++ [pt]) = ds.zip pts ++ [((p, d, b), pt)] := by rw [List.zip_append h.pl.symm]; rfl
  refine ⟨⟨by rw [subL_len]; exact h.len, by simp [h.pl], fun x hx => ?_, fun q o ho => ?_⟩, hk.pc⟩
  · rw [hz] at hx
    rcases List.mem_append.1 hx with h1 | h1
    · exact h.db x h1
    · simp at h1; subst h1; exact ⟨⟨_, hk⟩, hp⟩
  · have hq := (List.getElem?_eq_some_iff.1 ho).1
    have h1 := h.sum q o ho
    have h2 := hk.pc q
    have h3 : (subL lf pt T.ops.length).getD q 0 = lf.getD q 0 - pt.getD q 0 := by
      unfold subL
      simp only [List.getD]
      rw [tabN_at (by rw [h.len]; exact hq), if_pos hq]
      simp [List.getD]
    have h4 : psm q (((ds ++ [((p, d, b) : Dx)]).zip (pts ++ [pt])).map fun d => dbT d.1 d.2) = psm q ((ds.zip pts).map fun d => dbT d.1 d.2) + pt.getD q 0 := by
      rw [hz]; simp [psm, dbT]
    rw [h3, h4]
    omega
end Go.Proofs.YtolkjbmcindhjaaGreat
end
