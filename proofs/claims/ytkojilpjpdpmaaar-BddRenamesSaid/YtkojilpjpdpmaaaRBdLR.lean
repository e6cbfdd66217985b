/-
  A part of the proofs of this seat's statements (BdLR); no conditions beyond those each theorem names.
-/
import Derived.Test.YtkojilpjpdpmaaaRBdLP
import Derived.Test.YtkojilpjpdpmaaaRBdLK
set_option maxRecDepth 100000
set_option linter.unusedSimpArgs false
set_option linter.unusedVariables false
namespace Go.Proofs.YtkojilpjpdpmaaaR
open Go Go.W Go.Bd Go.Maps
set_option maxHeartbeats 4000000 in
theorem law_renames {w : World} (av tov : Value) (acts : List Act) (x : Nat) (xs : List Int) (hx : x ≤ 255) (hv : Vw w av actE acts) (hok : ∀ x ∈ acts, ActOk x) (ht : Vw w tov iv xs) :
    Calls Try.prog 5 [av, .int .u8 (x : Nat), tov].toArray w fun e w' => ∃ x, e = .returned x ∧ x = .bool true ∧ Kp [] w w' := by
  refine enter Try.func5 mixed low5 (Nat.le_of_ble_eq_true rfl) ?_
  simp only [L5]
  have ew : IntKind.i64.wrap (x : Int) = x := wrap_i64 (by omega) (by omega)
  by_cases h30 : 30 < acts.length ∨ 20 < xs.length
  · have h30' : (30 : Int) < (acts.length : Nat) ∨ (20 : Int) < (xs.length : Nat) := by omega
    by_cases h1 : 30 < acts.length
    · have h1' : (30 : Int) < (acts.length : Nat) := by omega
      simp [hv.len, h1, h1']
      refine cl_of (awake_spec _) ?_
      rintro _ w2 ⟨rfl, k2⟩
      simp
      exact k2
    · have h1' : ¬ (30 : Int) < (acts.length : Nat) := by omega
      have h2 : 20 < xs.length := by omega
      have h2' : (20 : Int) < (xs.length : Nat) := by omega
      simp [hv.len, ht.len, h1, h1', h2, h2']
      refine cl_of (awake_spec _) ?_
      rintro _ w2 ⟨rfl, k2⟩
      simp
      exact k2
  have h1 : ¬ 30 < acts.length := by omega
  have h1' : ¬ (30 : Int) < (acts.length : Nat) := by omega
  have h2 : ¬ 20 < xs.length := by omega
  have h2' : ¬ (20 : Int) < (xs.length : Nat) := by omega
  simp [hv.len, ht.len, h1, h1', h2, h2']
  refine cl_of (awake_spec _) ?_
  rintro _ w1 ⟨rfl, k1⟩
  simp [h1, h1', h2, h2']
  have hA1 : At w [] Emp w1 := (At.start rfl).kp0 .emp k1
  refine cl_of (new_spec 5 1048576 .emp hA1 (by omega) (by omega) (by omega)) ?_
  rintro _ w2 ⟨m, rfl, hA2⟩
  simp
  refine cl_of (made_spec m 5 av acts .emp (by omega) hA2 (fun w' k => hv.kp0 k) (by omega) hok) ?_
  rintro _ w3 ⟨lv, rfl, hM⟩
  obtain ⟨ns, l, hS, hcnt, h3⟩ := hM
  have hll := hS.2.2.1
  have hmn := hS.2.2.2.2
  have hwf := hS.1
  have hlim := hS.2.1
  have hLD : Lcl (Star (MgrA m 5 1048576 ns) (DoL lv 5 l Emp)) := Lcl.mgr.star (DoL.lcl .emp)
  obtain ⟨j, hj⟩ : ∃ j, j = x % l.length := ⟨_, rfl⟩
  have hjl : j < l.length := by rw [hj]; exact Nat.mod_lt _ (by omega)
  have ej : (x : Int).tmod (l.length : Nat) = (j : Int) := by rw [hj, Int.tmod_eq_emod_of_nonneg (by omega)]; simp
  have hl0 : ¬ l.length = 0 := by omega
  obtain ⟨p, hp⟩ : ∃ p, l[j]? = some p := ⟨_, List.getElem?_eq_getElem hjl⟩
  have hpl := List.mem_of_getElem? hp
  have hv3 := h3.drop.own.vw
  have ec := hv3.cells (prE_len 5) hp
  simp only [prE] at ec
  have hl0' : ¬ l = [] := by rintro rfl; simp at hjl
  simp (disch := omega) [hv3.len, ew, ej, hl0, hl0', hv3.idx, ec]
  obtain ⟨pb, hpb⟩ : ∃ pb, pb = w3.heap.size := ⟨_, rfl⟩
  rw [← hpb]
  refine st_pair (n := 5) (x := p.ref) (u := p.u) hLD h3 hpb fun w4 h4 => ?_
  have r1 := rd_pr1 h4.obj
  have hvp : Vw w4 p.u.1 bv (tab 5 p.f) := h4.drop.drop.drop.vws (p := (p.u, tab 5 p.f)) (List.mem_map.2 ⟨p, hpl, rfl⟩)
  simp [r1]
  refine cl_of (rSupport_spec 5 _ p.f w4 (by omega) hvp) ?_
  rintro sv w5 hN
  have h5 := (At.nw (Lcl.obj.star hLD) h4 hN).by (Imp.un Imp.sw)
  have hmem : ∀ y ∈ supT 5 5 p.f, 0 ≤ y ∧ y < 5 := fun y hy => supT_lt y hy
  have ht5 := ht.kp0 h5.kp
  have hHL : Lcl (Star (OwnA sv 3 1 iv (supT 5 5 p.f)) (Star (MgrA m 5 1048576 ns) (Star (ObjA pb (prO 5 p.ref p.u.1)) (DoL lv 5 l Emp)))) := (Lcl.own.star (Lcl.mgr.star (Lcl.obj.star (DoL.lcl .emp))))
  by_cases hlen : xs.length = 5
  case neg =>
    have hne : ((xs.length : Int) != 5) = true := by simp; omega
    have hbad : RenBad1 5 xs (supT 5 5 p.f) := .inl hlen
    simp [ht5.len, hne]
    have r0 := rd_pr0 h5.drop.drop.obj
    simp [hlen, r0]
    refine cl_of (rename_specK m 5 1048576 ns p.ref tov xs (Lcl.own.star (Lcl.obj.star (DoL.lcl .emp))) h5.rot hwf ⟨by omega, by omega, hlim⟩ (hmn p hpl).ref (fun w' F' _ k => ht.kp0 k) (by omega)) ?_
    rintro _ w8 ⟨L', hL', hc8⟩
    obtain rfl := sup_eq (hmn p hpl) hwf hL'
    rcases hc8 with ⟨hb1, rfl, h8⟩ | ⟨hg1, hb2, rfl, h8⟩ | ⟨hg1, hg2, r, ns', M', rfl, hc, h8⟩
    · simp [noV, errV, hlen]
      refine cl_of (num_err 1 w8) ?_
      rintro _ w9 ⟨rfl, k9⟩
      simp [hlen]
      exact h8.kp.trans0 k9
    · exact absurd hbad hg1
    · exact absurd hbad hg1
  have hne : ((xs.length : Int) != 5) = false := by simp; omega
  have hsl : (supT 5 5 p.f).length ≤ 5 := by
    unfold supT
    rw [List.length_map]
    have := List.length_filter_le (depB 5 p.f) (List.range 5)
    simpa using this
  obtain ⟨L, hLe⟩ : ∃ L, L = supT 5 5 p.f := ⟨_, rfl⟩
  simp [ht5.len, hne, hN.own.vw.len]
  refine range_loop (n := (supT 5 5 p.f).length) (by omega) (fun k ρ w' => ρ 7 = .pointer (some ⟨m, 0, none⟩) ∧ ρ 11 = .pointer (some ⟨pb, 0, none⟩) ∧ ρ 2 = tov ∧ ρ 12 = sv ∧ ρ 61 = sv ∧ ((ρ 13 = .int .i64 1 ∧ RenBad1 5 xs (supT 5 5 p.f)) ∨ (ρ 13 = .int .i64 0 ∧ ∀ j x, j < k → (supT 5 5 p.f)[j]? = some x → 0 ≤ tgt xs x ∧ tgt xs x < 5)) ∧
      At w [] (Star (OwnA sv 3 1 iv (supT 5 5 p.f)) (Star (MgrA m 5 1048576 ns) (Star (ObjA pb (prO 5 p.ref p.u.1)) (DoL lv 5 l Emp)))) w') (by simp) (by simp)
    ⟨by simp, by simp, by simp, by simp, by simp, .inr ⟨by simp, by simp⟩, h5⟩ (by decide) (fun _ _ _ _ h => by simpa using h) (fun _ _ _ _ h => by simpa using h) ?_ ?_
  · rintro k ρ w6 hk hc hlm ⟨g7, g11, g2, g12, g61, g13, h6⟩
    obtain ⟨y, ek⟩ : ∃ y, (supT 5 5 p.f)[k]? = some y := ⟨_, List.getElem?_eq_getElem hk⟩
    have hy := List.mem_of_getElem? ek
    obtain ⟨y0, y1⟩ := hmem y hy
    have hs := h6.own.vw
    have ht6 := ht.kp0 h6.kp
    have hyl : y.toNat < xs.length := by omega
    have ex : xs[y.toNat]? = some (tgt xs y) := by simp [tgt, List.getD, List.getElem?_eq_getElem hyl]
    have h7 := h6.drew hHL
    simp (disch := omega) [g2, g61, hc, hs.idx, iv_cell hs ek, ht6.idx, iv_cell ht6 ex]
    by_cases c1 : tgt xs y < 0
    · simp [c1, g7, g11, g2, g12, g61, hc, hlm]
      exact ⟨.inr ⟨y, hy, .inl c1⟩, h6⟩
    by_cases c2 : (5 : Int) ≤ tgt xs y
    · simp (disch := omega) [c1, c2, g2, ht6.idx, iv_cell ht6 ex, g7, g11, g12, g61, hc, hlm]
      exact ⟨.inr ⟨y, hy, .inr c2⟩, h6⟩
    · simp (disch := omega) [c1, c2, g2, ht6.idx, iv_cell ht6 ex, g7, g11, g12, g61, hc, hlm]
      refine ⟨?_, h6⟩
      rcases g13 with ⟨e, hb⟩ | ⟨e, hall⟩
      · exact .inl ⟨e, hb⟩
      · refine .inr ⟨e, fun j z hj hz => ?_⟩
        rcases Nat.lt_or_ge j k with h5 | h5
        · exact hall j z h5 hz
        · have : j = k := by omega
          subst this
          rw [ek] at hz
          rw [← Option.some.inj hz]; omega
  rintro ρ w6 ⟨g7, g11, g2, g12, g61, ⟨g13, hbad⟩ | ⟨g13, hall⟩, h6⟩
  · simp [g13]
    have r0 := rd_pr0 h6.drop.drop.obj
    simp [g7, g11, g2, g13, r0]
    refine cl_of (rename_specK m 5 1048576 ns p.ref tov xs (Lcl.own.star (Lcl.obj.star (DoL.lcl .emp))) h6.rot hwf ⟨by omega, by omega, hlim⟩ (hmn p hpl).ref (fun w' F' _ k => ht.kp0 k) (by omega)) ?_
    rintro _ w8 ⟨L', hL', hc8⟩
    obtain rfl := sup_eq (hmn p hpl) hwf hL'
    rcases hc8 with ⟨hb1, rfl, h8⟩ | ⟨hg1, hb2, rfl, h8⟩ | ⟨hg1, hg2, r, ns', M', rfl, hc, h8⟩
    · simp [noV, errV, g7, g11, g2, g13]
      refine cl_of (num_err 1 w8) ?_
      rintro _ w9 ⟨rfl, k9⟩
      simp [g7, g11, g2, g13]
      exact h8.kp.trans0 k9
    · exact absurd hbad hg1
    · exact absurd hbad hg1
  have nb1 : ¬ RenBad1 5 xs (supT 5 5 p.f) := by
    rintro (h | ⟨v, hv, h⟩)
    · exact h hlen
    · obtain ⟨j, hj⟩ := List.getElem?_of_mem hv
      have := hall j v (List.getElem?_eq_some_iff.1 hj).1 hj
      omega
  simp [g13]
  refine loop_inv (fun q ρ w' => ∃ k, q = (supT 5 5 p.f).length - k ∧ 1 ≤ k ∧ k ≤ (supT 5 5 p.f).length + 1 ∧ ρ 16 = .int .i64 (k : Nat) ∧ ρ 7 = .pointer (some ⟨m, 0, none⟩) ∧ ρ 11 = .pointer (some ⟨pb, 0, none⟩) ∧ ρ 2 = tov ∧ ρ 12 = sv ∧
      ((ρ 13 = .int .i64 7 ∧ RenBad2 xs (supT 5 5 p.f)) ∨ (ρ 13 = .int .i64 0 ∧ ∀ i a b, i + 1 < k → (supT 5 5 p.f)[i]? = some a → (supT 5 5 p.f)[i + 1]? = some b → tgt xs a < tgt xs b)) ∧
      At w [] (Star (OwnA sv 3 1 iv (supT 5 5 p.f)) (Star (MgrA m 5 1048576 ns) (Star (ObjA pb (prO 5 p.ref p.u.1)) (DoL lv 5 l Emp)))) w') ((supT 5 5 p.f).length - 1)
    ⟨1, rfl, Nat.le_refl _, by omega, by simp, by simp [g7], by simp [g11], by simp [g2], by simp [g12], .inr ⟨by simp [g13], by omega⟩, h6⟩ ?_
  rintro q ρ w7 ⟨k, rfl, hk1, hkl, c16, g7, g11, g2, g12, hst, h7⟩
  have hs := h7.own.vw
  by_cases hk : k < (supT 5 5 p.f).length
  · have hk' : (k : Int) < (supT 5 5 p.f).length := by omega
    obtain ⟨x', ek⟩ : ∃ x', (supT 5 5 p.f)[k]? = some x' := ⟨_, List.getElem?_eq_getElem hk⟩
    obtain ⟨y, ej'⟩ : ∃ y, (supT 5 5 p.f)[k - 1]? = some y := ⟨_, List.getElem?_eq_getElem (by omega)⟩
    obtain ⟨x0, x1⟩ := hmem x' (List.mem_of_getElem? ek)
    obtain ⟨y0, y1⟩ := hmem y (List.mem_of_getElem? ej')
    have ht7 := ht.kp0 h7.kp
    have ex : xs[x'.toNat]? = some (tgt xs x') := by simp [tgt, List.getD, List.getElem?_eq_getElem (show x'.toNat < xs.length by omega)]
    have ey : xs[y.toNat]? = some (tgt xs y) := by simp [tgt, List.getD, List.getElem?_eq_getElem (show y.toNat < xs.length by omega)]
    have ekm : (k : Int) - 1 = ((k - 1 : Nat) : Int) := by omega
    have h8 := h7.drew hHL
    simp (disch := omega) [c16, g2, g12, hs.len, hk', wrap_i64, ekm]
    simp (disch := omega) [c16, g2, g12, hs.len, hk', wrap_i64, hs.idx, iv_cell hs ej', iv_cell hs ek, ht7.idx, iv_cell ht7 ex, iv_cell ht7 ey]
    by_cases c1 : tgt xs x' ≤ tgt xs y
    · simp (disch := omega) [c1, c16, wrap_i64]
      exact ⟨(supT 5 5 p.f).length - (k + 1), by omega, k + 1, rfl, by omega, by omega, by simp, g7, g11, g2, g12, ⟨k - 1, y, x', ej', by rw [show k - 1 + 1 = k by omega]; exact ek, c1⟩, h8⟩
    · simp (disch := omega) [c1, c16, wrap_i64]
      refine ⟨(supT 5 5 p.f).length - (k + 1), by omega, k + 1, rfl, by omega, by omega, by simp, g7, g11, g2, g12, ?_, h8⟩
      rcases hst with ⟨e, hb⟩ | ⟨e, hstp⟩
      · exact .inl ⟨by simp [e], hb⟩
      · refine .inr ⟨by simp [e], fun i a b hi ha hb => ?_⟩
        rcases Nat.lt_or_ge (i + 1) k with h6 | h6
        · exact hstp i a b h6 ha hb
        · have : i = k - 1 := by omega
          subst this
          rw [ej'] at ha
          rw [show k - 1 + 1 = k by omega, ek] at hb
          rw [← Option.some.inj ha, ← Option.some.inj hb]; omega
  · have hk' : ¬ (k : Int) < (supT 5 5 p.f).length := by omega
    rcases hst with ⟨g13, hbad2⟩ | ⟨g13, hstp⟩
    · simp [c16, g12, hs.len, hk', g13]
      have r0 := rd_pr0 h7.drop.drop.obj
      simp [g7, g11, g2, g13, r0]
      refine cl_of (rename_specK m 5 1048576 ns p.ref tov xs (Lcl.own.star (Lcl.obj.star (DoL.lcl .emp))) h7.rot hwf ⟨by omega, by omega, hlim⟩ (hmn p hpl).ref (fun w' F' _ k => ht.kp0 k) (by omega)) ?_
      rintro _ w8 ⟨L', hL', hc8⟩
      obtain rfl := sup_eq (hmn p hpl) hwf hL'
      rcases hc8 with ⟨hb1, rfl, h8⟩ | ⟨hg1, hb2, rfl, h8⟩ | ⟨hg1, hg2, r, ns', M', rfl, hc, h8⟩
      · exact absurd hb1 nb1
      · simp [noV, errV, g7, g11, g2, g13]
        refine cl_of (num_err 7 w8) ?_
        rintro _ w9 ⟨rfl, k9⟩
        simp [g7, g11, g2, g13]
        exact h8.kp.trans0 k9
      · exact absurd hbad2 hg2
    have nb2 : ¬ RenBad2 xs (supT 5 5 p.f) := by
      rintro ⟨i, a, b, ha, hb, h⟩
      have hl := (List.getElem?_eq_some_iff.1 hb).1
      have := hstp i a b (by omega) ha hb
      omega
    simp [c16, g12, hs.len, hk', g13]
    have r0 := rd_pr0 h7.drop.drop.obj
    simp [g7, g11, g2, g13, r0]
    refine cl_of (rename_specK m 5 1048576 ns p.ref tov xs (Lcl.own.star (Lcl.obj.star (DoL.lcl .emp))) h7.rot hwf ⟨by omega, by omega, hlim⟩ (hmn p hpl).ref (fun w' F' _ k => ht.kp0 k) (by omega)) ?_
    rintro _ w8 ⟨L', hL', hc8⟩
    obtain rfl := sup_eq (hmn p hpl) hwf hL'
    rcases hc8 with ⟨hb1, rfl, h8⟩ | ⟨hg1, hb2, rfl, h8⟩ | ⟨hg1, hg2, r, ns', M', rfl, hc, h8⟩
    · exact absurd hb1 nb1
    · exact absurd hb2 nb2
    have oo := Out.ren (by omega) hwf (hmn p hpl) hL' hc
    obtain ⟨z, rfl⟩ : ∃ z, r = some z := by
      cases r with
      | none => have := oo.full rfl; omega
      | some z => exact ⟨z, rfl⟩
    have ht8 := ht.kp0 h8.kp
    have r8 := rd_pr1 h8.drop.drop.obj
    have hvp8 : Vw w8 p.u.1 bv (tab 5 p.f) := h8.drop.drop.drop.drop.vws (p := (p.u, tab 5 p.f)) (List.mem_map.2 ⟨p, hpl, rfl⟩)
    simp [optV, okV, g7, g11, g2, g13, r8]
    refine cl_of (rRename_spec 5 _ tov p.f xs w8 (by omega) hvp8 ht8 (ren_ok nb1)) ?_
    rintro _ w9 ⟨u, rfl, tb⟩
    have h9 := h8.kp0 (Lcl.mgr.star (Lcl.own.star (Lcl.obj.star (DoL.lcl .emp)))) tb.kp
    simp [tbV, g7, g11, g2, g13, tb.own.o1]
    refine cl_of (means_spec (m := m) (n := 5) (lim := 1048576) (x := z) (ns := ns') w9 (MgrA.rd h9) ⟨by omega, by omega, oo.cap⟩ oo.ext.wf (by omega) (oo.mean z rfl) tb.own.vw) ?_
    rintro _ w10 ⟨rfl, k10⟩
    simp
    exact h9.kp.trans0 k10
end Go.Proofs.YtkojilpjpdpmaaaR
