/-
  Parts of the proofs of this seat's statements (RxXG, RxXH, RxXI, RxXJ, RxXK); no conditions beyond those each theorem names.
-/
import Derived.Test.YtjpbkljnllkneaaRxXF
section
set_option maxRecDepth 100000
set_option linter.unusedSimpArgs false
set_option linter.unusedVariables false
namespace Go.Proofs.Ytjpbkljnllkneaa
open Go Go.W Go.Tk Go.Rx Go.Maps
def hdB (s : List Nat) (l : List Fc) : Bool := l.all fun f => decide (s.getD f.1 0 = f.2)
theorem hdB_succ {s : List Nat} {l : List Fc} {z : Nat} {f : Fc} (h : l[z]? = some f) : hdB s (l.take (z + 1)) = (hdB s (l.take z) && decide (s.getD f.1 0 = f.2)) := by
  unfold hdB; rw [take_snoc h, List.all_append]; simp
theorem holds_spec {w : World} (fv sv : Value) (l : List Fc) (s : List Nat) (hf : Vw w fv fcE l) (hs : Vw w sv nE s) (hl : l.length ≤ 1000000) (hr : ∀ f ∈ l, f.1 < s.length) :
    Calls Try.prog 18 [fv, sv].toArray w fun e w' => ∃ x, e = .returned x ∧ x = .bool (hdB s l) ∧ Kp [] w w' := by
  refine enter Try.func18 mixed low18 (Nat.le_of_ble_eq_true rfl) ?_
  simp only [L18]
  simp [hf.len]
  refine range_loop (n := l.length) (by omega) (fun k ρ w' => ρ 1 = sv ∧ ρ 7 = fv ∧ hdB s (l.take k) = true ∧ Kp [] w w') (by simp) (by simp)
    ⟨by simp, by simp, by simp [hdB], Kp.refl _ _⟩ (by decide) (fun _ _ _ _ h => by simpa using h) (fun _ _ _ _ h => by simpa using h) ?_ ?_
  rotate_left
  · rintro ρ w4 ⟨g1, g7, g4, k4⟩
    rw [List.take_length] at g4
    simp [g4]
    exact k4
  rintro k ρ w4 hk hc hlm ⟨g1, g7, g4, k4⟩
  have hf4 := hf.kp0 k4
  obtain ⟨f, hfe⟩ : ∃ f, l[k]? = some f := ⟨_, List.getElem?_eq_getElem hk⟩
  have hfm := List.mem_of_getElem? hfe
  have f1 := hr f hfm
  have ec := hf4.cells fcE_len hfe
  simp only [fcE] at ec
  obtain ⟨fb, hfb⟩ : ∃ fb, fb = w4.heap.size := ⟨_, rfl⟩
  have hki : (k : Int) < l.length := by omega
  simp (disch := omega) [g7, hc, hlm, hf4.idx, ec, ← hfb]
  refine st_fa (f := faN f) .emp (At.start (w := w4) rfl) hfb fun w7 h7 => ?_
  have k7 := k4.trans h7.kp
  have hob := h7.obj
  simp only [faN, faO] at hob
  rw [hfb] at hob
  have hs7 := hs.kp0 k7
  obtain ⟨y, hy⟩ : ∃ y, s[f.1]? = some y := ⟨_, List.getElem?_eq_getElem f1⟩
  have hyd : s.getD f.1 0 = y := by simp [List.getD, hy]
  have n1 : ¬ (f.1 : Int) < 0 := by omega
  have n2 : ¬ ((s.length : Nat) : Int) ≤ (f.1 : Int) := by omega
  have n3 : (f.1 : Int) < s.length := by omega
  have n4 : ¬ s.length ≤ f.1 := by omega
  have hsc := hdB_succ (s := s) hfe
  rw [g4, hyd] at hsc
  by_cases hyx : y = f.2
  · have t : ((y : Int) != (f.2 : Int)) = false := by simp; omega
    simp (disch := omega) [g1, g7, hc, hlm, cell_blk hob, n1, n2, n4, hs7.len, hs7.idx, nE_cell hs7 hy, t]
    refine ⟨?_, k7.drew⟩
    rw [hsc]; simp [hyx]
  · have t : ((y : Int) != (f.2 : Int)) = true := by simp; omega
    have hbad : hdB s l = false := by
      unfold hdB
      rw [List.all_eq_false]
      exact ⟨f, hfm, by simp only [hyd, decide_eq_true_eq]; exact hyx⟩
    simp (disch := omega) [g1, g7, hc, hlm, cell_blk hob, n1, n2, n4, hs7.len, hs7.idx, nE_cell hs7 hy, t, hbad]
    exact k7.drew
/-- The number of a state. -/
def rkK (vars s : List Nat) : Nat → Nat
  | 0 => 0
  | k + 1 => rkK vars s k * vars.getD k 0 + s.getD k 0
theorem rank_spec {w : World} (vv sv : Value) (vars s : List Nat) (hv : Vw w vv nE vars) (hs : Vw w sv nE s) (hl : s.length = vars.length) (hl2 : s.length ≤ 1000) (hb : ∀ k, k ≤ s.length → rkK vars s k ≤ 1000000) :
    Calls Try.prog 45 [vv, sv].toArray w fun e w' => ∃ x, e = .returned x ∧ x = .int .i64 (rkK vars s s.length : Nat) ∧ Kp [] w w' := by
  refine enter Try.func45 mixed low45 (Nat.le_of_ble_eq_true rfl) ?_
  simp only [L45]
  simp [hs.len]
  refine range_loop (n := s.length) (by omega) (fun k ρ w' => ρ 0 = vv ∧ ρ 1 = sv ∧ ρ 5 = .int .i64 (rkK vars s k : Nat) ∧ Kp [] w w') (by simp) (by simp)
    ⟨by simp, by simp, by simp [rkK], Kp.refl _ _⟩ (by decide) (fun _ _ _ _ h => by simpa using h) (fun _ _ _ _ h => by simpa using h) ?_ ?_
  rotate_left
  · rintro ρ w4 ⟨g0, g1, g5, k4⟩
    simp [g5]
    exact k4
  rintro k ρ w4 hk hc hlm ⟨g0, g1, g5, k4⟩
  have hv4 := hv.kp0 k4
  have hs4 := hs.kp0 k4
  obtain ⟨n, hn⟩ : ∃ n, vars[k]? = some n := ⟨_, List.getElem?_eq_getElem (by omega)⟩
  obtain ⟨y, hy⟩ : ∃ y, s[k]? = some y := ⟨_, List.getElem?_eq_getElem hk⟩
  have hnd : vars.getD k 0 = n := by simp [List.getD, hn]
  have hyd : s.getD k 0 = y := by simp [List.getD, hy]
  have e1 : rkK vars s (k + 1) = rkK vars s k * n + y := by
    show rkK vars s k * vars.getD k 0 + s.getD k 0 = _
    rw [hnd, hyd]
  have hb1 := hb (k + 1) (by omega)
  rw [e1] at hb1
  obtain ⟨m, hm⟩ : ∃ m, m = rkK vars s k * n := ⟨_, rfl⟩
  have em : ((rkK vars s k : Nat) : Int) * (n : Nat) = (m : Int) := by rw [hm]; simp
  have e2 : (m : Int) + (y : Nat) = ((rkK vars s (k + 1) : Nat) : Int) := by rw [e1, ← hm]; simp
  have hki : (k : Int) < vars.length := by omega
  have hks : (k : Int) < s.length := by omega
  obtain ⟨m2, hm2⟩ : ∃ m2, m2 = rkK vars s (k + 1) := ⟨_, rfl⟩
  rw [← hm2] at e2 ⊢
  simp (disch := omega) [g0, g1, g5, hc, hlm, hv4.idx, hs4.idx, nE_cell hv4 hn, nE_cell hs4 hy, em, wrap_i64]
  exact ⟨e2, k4.drew⟩
end Go.Proofs.Ytjpbkljnllkneaa
end
section
set_option maxRecDepth 100000
set_option linter.unusedSimpArgs false
set_option linter.unusedVariables false
namespace Go.Proofs.Ytjpbkljnllkneaa
open Go Go.W Go.Tk Go.Rx Go.Maps
def extS (n : Nat) (s : List Nat) : List (List Nat) := (List.range n).map fun x => s ++ [x]
/-- All states over the first variables. -/
def stsK (vars : List Nat) : Nat → List (List Nat)
  | 0 => [[]]
  | k + 1 => (stsK vars k).flatMap (extS (vars.getD k 0))
theorem extS_len (n : Nat) (s : List Nat) : (extS n s).length = n := by simp [extS]
set_option maxHeartbeats 1000000 in
theorem states_spec {w : World} (vv : Value) (vars : List Nat) (hv : Vw w vv nE vars) (hl : vars.length ≤ 1000) (hn : ∀ n ∈ vars, n ≤ 1000) (hb : ∀ k, k ≤ vars.length → (stsK vars k).length ≤ 10000) (hsl : ∀ k, k ≤ vars.length → ∀ s ∈ stsK vars k, s.length ≤ 1000) :
    Calls Try.prog 16 [vv].toArray w fun e w' => ∃ u, e = .returned u ∧ At w [] (Star (LLA u 22 nE (stsK vars vars.length)) Emp) w' := by
  refine enter Try.func16 mixed low16 (Nat.le_of_ble_eq_true rfl) ?_
  simp only [L16]
  have h0 : At w [] Emp w := At.start rfl
  have h1 := h0.lit (xs := ([] : List Nat)) (enc := nE) (E := 3) (sz := 1) (cs := #[]) (m := 0) .emp (by simp) nE_len (by simp [maxLen]) rfl
  obtain ⟨w1, hw1⟩ : ∃ w1, w1 = w.alloc (.cells #[] 3) := ⟨_, rfl⟩
  obtain ⟨r, hr⟩ : ∃ r, r = Value.slice (some ⟨w.heap.size, 0, none⟩) 0 0 := ⟨_, rfl⟩
  rw [← hw1, ← hr] at h1
  have ho := h1.own.o1
  have c1 := h1.own.c1
  have h2 : At w [] (Star (VwsA nE [((⟨r, ho⟩, []) : Cell1 × List Nat)]) Emp) w1 := ((VwsA.nil (Lcl.own.star .emp) h1).by Imp.sw).by (Imp.ow.trans (VwsA.add (ps := []) ho))
  have h3 := h2.lit (xs := [((⟨r, ho⟩, []) : Cell1 × List Nat)]) (enc := sv1) (E := 22) (sz := 1) (cs := #[r]) (m := 1) (Lcl.vws.star .emp) (by simp [sv1]) sv1_len (by simp [maxLen]) rfl
  have h4 : At w [] (Star (LLA (.slice (some ⟨w1.heap.size, 0, none⟩) 1 1) 22 nE (stsK vars 0)) Emp) (w1.alloc (.cells #[r] 22)) := LLA.cls (ps := [((⟨r, ho⟩, []) : Cell1 × List Nat)]) (by simp [stsK]) h3
  have hv4 := hv.kp0 h4.kp
  simp [← hw1, ← hr, c1, rowOf, hv4.len]
  refine range_loop (n := vars.length) (by omega) (fun k ρ w' => ρ 12 = vv ∧ At w [] (Star (LLA (ρ 3) 22 nE (stsK vars k)) Emp) w') (by simp) (by simp)
    ⟨by simp, by simpa using h4⟩ (by decide) (fun _ _ _ _ h => by simpa using h) (fun _ _ _ _ h => by simpa using h) ?_ ?_
  rotate_left
  · rintro ρ w5 ⟨g12, h5⟩
    simp
    exact h5
  clear h1 h2 h3 h4 hv4 c1 hw1
  rintro k ρ w5 hk hck hlk ⟨g12, h5⟩
  have hv5 := hv.kp0 h5.kp
  obtain ⟨n, hne⟩ : ∃ n, vars[k]? = some n := ⟨_, List.getElem?_eq_getElem hk⟩
  have hnb := hn n (List.mem_of_getElem? hne)
  have hnd : vars.getD k 0 = n := by simp [List.getD, hne]
  have hki : (k : Int) < vars.length := by omega
  obtain ⟨ov, hov⟩ : ∃ ov, ov = ρ 3 := ⟨_, rfl⟩
  rw [← hov] at h5
  obtain ⟨ps, hps, h6⟩ := LLA.opn h5
  have hpl : ps.length = (stsK vars k).length := by rw [← hps]; simp
  have hbk := hb k (by omega)
  have hbk1 := hb (k + 1) (by omega)
  have hsk1 : stsK vars (k + 1) = (stsK vars k).flatMap (extS n) := by rw [← hnd]; rfl
  rw [hsk1] at hbk1
  have hX : Lcl (Star (OwnA ov 22 1 sv1 ps) (Star (VwsA nE ps) Emp)) := Lcl.own.star (Lcl.vws.star .emp)
  have h7 : At w [] (Star (LLA (.slice none 0 0) 22 nE (((stsK vars k).take 0).flatMap (extS n))) (Star (OwnA ov 22 1 sv1 ps) (Star (VwsA nE ps) Emp))) w5 := LLA.nil hX h6
  simp (disch := omega) [g12, hck, hlk, hv5.idx, nE_cell hv5 hne, ← hov, h6.own.vw.len]
  refine range_loop (n := ps.length) (by omega) (fun i ρ w' => ρ 12 = vv ∧ ρ 13 = .int .i64 (vars.length : Nat) ∧ ρ 14 = .int .i64 (k : Nat) ∧ ρ 5 = .int .i64 (n : Nat) ∧ ρ 18 = ov ∧ At w [] (Star (LLA (ρ 6) 22 nE (((stsK vars k).take i).flatMap (extS n))) (Star (OwnA ov 22 1 sv1 ps) (Star (VwsA nE ps) Emp))) w') (by simp) (by simp)
    ⟨by simp [g12], by simp [hlk], by simp [hck], by simp, by simp, by simpa using h7⟩ (by decide) (fun _ _ _ _ h => by simpa using h) (fun _ _ _ _ h => by simpa using h) ?_ ?_
  rotate_left
  · clear g12 hck hlk hov
    rintro ρ w6 ⟨g12, g13, g14, g5, g18, h8⟩
    rw [hpl, List.take_length, ← hsk1] at h8
    simp [g12, g13, g14]
    exact h8.by (Imp.un (Imp.dr.trans Imp.dr))
  clear g12 hck hlk hov h5 h6 h7 hv5
  rintro i ρ w6 hi hci hli ⟨g12, g13, g14, g5, g18, h8⟩
  obtain ⟨p, hp⟩ : ∃ p, ps[i]? = some p := ⟨_, List.getElem?_eq_getElem hi⟩
  have hpm := List.mem_of_getElem? hp
  obtain ⟨s, hse⟩ : ∃ s, s = p.2 := ⟨_, rfl⟩
  have hsi : (stsK vars k)[i]? = some s := by rw [← hps, List.getElem?_map, hp, hse]; rfl
  have hsl1 := hsl k (by omega) s (List.mem_of_getElem? hsi)
  have hii : (i : Int) < ps.length := by omega
  have hov := h8.drop.own
  have ep : w6.cell? (ov.adr.add i) = some p.1.1 := by simpa using hov.vw.at_ sv1_len hp (o := 0) (u := p.1.1) rfl
  have hlen : (((stsK vars k).take i).flatMap (extS n)).length + n ≤ 10000 := by
    have e : stsK vars k = (stsK vars k).take i ++ (s :: (stsK vars k).drop (i + 1)) := by
      obtain ⟨hk2, e2⟩ := List.getElem?_eq_some_iff.1 hsi
      rw [← e2, ← List.drop_eq_getElem_cons hk2, List.take_append_drop]
    rw [e, List.flatMap_append, List.flatMap_cons, List.length_append, List.length_append, extS_len] at hbk1
    omega
  have htk : ((stsK vars k).take (i + 1)).flatMap (extS n) = ((stsK vars k).take i).flatMap (extS n) ++ (extS n s).take n := by
    have e : (extS n s).take n = extS n s := List.take_of_length_le (by rw [extS_len]; omega)
    rw [take_snoc hsi, List.flatMap_append, e]
    simp
  simp (disch := omega) [g5, g18, hci, hli, hov.vw.idx, ep]
  refine range_loop (n := n) (by omega) (fun x ρ w' => ρ 12 = vv ∧ ρ 13 = .int .i64 (vars.length : Nat) ∧ ρ 14 = .int .i64 (k : Nat) ∧ ρ 5 = .int .i64 (n : Nat) ∧ ρ 18 = ov ∧ ρ 19 = .int .i64 (ps.length : Nat) ∧ ρ 20 = .int .i64 (i : Nat) ∧ ρ 8 = p.1.1 ∧ At w [] (Star (LLA (ρ 6) 22 nE (((stsK vars k).take i).flatMap (extS n) ++ (extS n s).take x)) (Star (OwnA ov 22 1 sv1 ps) (Star (VwsA nE ps) Emp))) w') (by simp) (by simp)
    ⟨by simp [g12], by simp [g13], by simp [g14], by simp [g5], by simp [g18], by simp [hli], by simp [hci], by simp, by simpa using h8⟩ (by decide) (fun _ _ _ _ h => by simpa using h) (fun _ _ _ _ h => by simpa using h) ?_ ?_
  rotate_left
  · clear g12 g13 g14 g5 g18 hci hli
    rintro ρ w7 ⟨g12, g13, g14, g5, g18, g19, g20, g8, h9⟩
    rw [← htk] at h9
    simp [g12, g13, g14, g5, g18, g19, g20]
    exact h9
  clear g12 g13 g14 g5 g18 hci hli h8 hov ep
  rintro x ρ w7 hx hcx hlx ⟨g12, g13, g14, g5, g18, g19, g20, g8, h9⟩
  have hXL : Lcl (Star (LLA (ρ 6) 22 nE (((stsK vars k).take i).flatMap (extS n) ++ (extS n s).take x)) (Star (OwnA ov 22 1 sv1 ps) (Star (VwsA nE ps) Emp))) := Lcl.ll.star hX
  have h10 := h9.lit (xs := ([] : List Nat)) (enc := nE) (E := 3) (sz := 1) (cs := #[]) (m := 0) hXL (by simp) nE_len (by simp [maxLen]) rfl
  have hrow : Vw (w7.alloc (.cells #[] 3)) p.1.1 nE s := by rw [hse]; exact h10.drop.drop.drop.vws hpm
  simp [hcx, g8, rowOf]
  refine At.appendV (xs := s) hXL h10 hrow nE_len nE_one sl_22 (by simp; omega) (by simp; unfold maxLen; omega) fun v1 w8 h11 => ?_
  simp
  refine nat_append hXL h11 (by simp; omega) fun v2 w9 h12 => ?_
  have c12 := h12.own.c1
  simp [c12]
  have hlen2 : (((stsK vars k).take i).flatMap (extS n) ++ (extS n s).take x).length ≤ 100000 := by
    rw [List.length_append, List.length_take, extS_len]; omega
  refine li_append hX h12 hlen2 fun v3 w10 h13 => ?_
  have ext : (extS n s)[x]? = some (s ++ [x]) := by unfold extS; rw [List.getElem?_map, List.getElem?_range hx]; rfl
  simp [g12, g13, g14, g5, g18, g19, g20, hcx, hlx]
  rw [take_snoc ext, ← List.append_assoc]
  exact ⟨g8, by simpa using h13⟩
end Go.Proofs.Ytjpbkljnllkneaa
end
section
set_option maxRecDepth 100000
set_option linter.unusedSimpArgs false
set_option linter.unusedVariables false
namespace Go.Proofs.Ytjpbkljnllkneaa
open Go Go.W Go.Tk Go.Rx Go.Maps
def apK (o : No) (s : List Nat) (k : Nat) : List Nat := (o.effs.take k).foldl (fun t e => if hdB s e.cnd then t.set e.v e.x else t) s
/-- The state behind an operator. -/
def apS (o : No) (s : List Nat) : List Nat := apK o s o.effs.length
theorem apK_succ {o : No} {s : List Nat} {k : Nat} {e : Nf} (h : o.effs[k]? = some e) : apK o s (k + 1) = if hdB s e.cnd then (apK o s k).set e.v e.x else apK o s k := by
  unfold apK; rw [take_snoc h, List.foldl_append]; rfl
theorem apK_len (o : No) (s : List Nat) : ∀ k, (apK o s k).length = s.length
  | 0 => by simp [apK]
  | k + 1 => by
    cases h : o.effs[k]? with
    | none =>
      have := List.getElem?_eq_none_iff.1 h
      have h2 := apK_len o s k
      unfold apK at h2 ⊢
      rw [List.take_of_length_le (by omega)] at h2 ⊢
      exact h2
    | some e =>
      rw [apK_succ h]
      have := apK_len o s k
      split
      · rw [List.length_set]; exact this
      · exact this
def apV (T : Nt) (o : No) (s : List Nat) (w : World) (x : Value) (w' : World) : Prop :=
  if hdB s o.pre = true then ∃ u, x = .tuple #[u, .bool true] ∧ Nw w w' u 3 1 nE (apS o s) else x = .tuple #[.slice none 0 0, .bool false] ∧ Kp [] w w'
set_option maxHeartbeats 1000000 in
theorem apply_spec {w : World} (T : Nt) (sv : Value) (s : List Nat) (i : Nat) (o : No) (hr : NtR w T) (hg : NtG T) (ho : T.ops[i]? = some o) (hs : Vw w sv nE s) (hst : StN T.vars s) :
    Calls Try.prog 44 [ntV T, sv, .int .i64 (i : Nat)].toArray w fun e w' => ∃ x, e = .returned x ∧ apV T o s w x w' := by
  refine enter Try.func44 mixed low44 (Nat.le_of_ble_eq_true rfl) ?_
  simp only [L44]
  have hlen := hst.len
  have hvl := hg.vlen
  have hol := hg.olen
  have hom := List.mem_of_getElem? ho
  have hgo := hg.ops o hom
  have hi : i < T.ops.length := (List.getElem?_eq_some_iff.1 ho).1
  have hii : (i : Int) < T.ops.length := by omega
  obtain ⟨b, hb⟩ : ∃ b, b = w.heap.size := ⟨_, rfl⟩
  have h1 : At w [] (Star (ObjA b (ntO T)) Emp) (w.alloc (ntO T)) := by rw [hb]; exact (At.start rfl).alloc _ .emp
  obtain ⟨w1, hw1⟩ : ∃ w1, w1 = w.alloc (ntO T) := ⟨_, rfl⟩
  rw [← hw1] at h1
  have hw1' : w.alloc (.cells #[T.vv.1, T.nv.1, T.gv.1, T.ov.1] 26 (0, 0)) = w1 := by rw [hw1]; rfl
  have hr1 := hr.kp h1.kp
  have hob := h1.obj
  unfold ntO at hob
  have c2 := hr1.ops.fld noE_len ho (o := 2) (u := o.pv.1) rfl
  have n1 : ¬ (i : Int) < 0 := by omega
  have n2 : ¬ T.ops.length ≤ i := by omega
  simp (disch := omega) [ntV, ← hb, hw1', cell_blk hob, n1, n2, hr1.ops.len, hr1.ops.idx, c2]
  have hgp := hgo.pre
  have hpl := hgp.len
  refine cl_of (holds_spec o.pv.1 sv o.pre s (hr1.op o hom).pre (hs.kp0 h1.kp) (by omega) (fun f hf => by rw [hlen]; exact (hgp.rng f hf).1)) ?_
  rintro _ w2 ⟨rfl, k2⟩
  have h2 := h1.kp0 (Lcl.obj.star .emp) k2
  cases hp : hdB s o.pre with
  | false =>
    simp
    unfold apV
    rw [if_neg (by rw [hp]; simp)]
    exact ⟨rfl, h2.kp⟩
  | true =>
    simp [rowOf]
    have h3 := h2.lit (xs := ([] : List Nat)) (enc := nE) (E := 3) (sz := 1) (cs := #[]) (m := 0) (Lcl.obj.star .emp) (by simp) nE_len (by simp [maxLen]) rfl
    refine At.appendV (xs := s) (Lcl.obj.star .emp) h3 (hs.kp0 h3.kp) nE_len nE_one sl_22 (by simp; omega) (by simp; unfold maxLen; omega) fun ov w4 h4 => ?_
    have hob4 := h4.drop.obj
    unfold ntO at hob4
    have hr4 := hr.kp h4.kp
    have c3 := hr4.ops.fld noE_len ho (o := 3) (u := o.ev.1) rfl
    have hro4 := hr4.op o hom
    have helen := hgo.elen
    have h4 : At w [] (Star (OwnA ov 3 1 nE (apK o s 0)) (Star (ObjA b (ntO T)) Emp)) w4 := by simpa [apK] using h4
    simp (disch := omega) [← hb, cell_blk hob4, hr4.ops.idx, c3, hro4.effs.len]
    refine range_loop (n := o.effs.length) (by omega) (fun k ρ w' => ρ 1 = sv ∧ ρ 8 = ov ∧ ρ 39 = o.ev.1 ∧ At w [] (Star (OwnA ov 3 1 nE (apK o s k)) (Star (ObjA b (ntO T)) Emp)) w') (by simp) (by simp)
      ⟨by simp, by simp, by simp, h4⟩ (by decide) (fun _ _ _ _ h => by simpa using h) (fun _ _ _ _ h => by simpa using h) ?_ ?_
    rotate_left
    · rintro ρ w5 ⟨g1, g8, g39, h5⟩
      simp [g8]
      unfold apV
      rw [if_pos hp]
      exact ⟨_, rfl, Nw.of h5⟩
    clear h3 h4 hob4 hr4 c3 hro4
    rintro k ρ w5 hk hck hlk ⟨g1, g8, g39, h5⟩
    have hro5 := (hr.kp h5.kp).op o hom
    obtain ⟨e, he⟩ : ∃ e, o.effs[k]? = some e := ⟨_, List.getElem?_eq_getElem hk⟩
    have hem := List.mem_of_getElem? he
    have ece := hro5.effs.cells nfE_len he
    simp only [nfE] at ece
    have hki : (k : Int) < o.effs.length := by omega
    obtain ⟨fb, hfb⟩ : ∃ fb, fb = w5.heap.size := ⟨_, rfl⟩
    have hL : ∀ l, Lcl (Star (OwnA ov 3 1 nE l) (Star (ObjA b (ntO T)) Emp)) := fun _ => Lcl.own.star (Lcl.obj.star .emp)
    simp (disch := omega) [g39, hck, hlk, hro5.effs.idx, ece, ← hfb]
    refine st_ef (e := e.raw) (hL _) h5 hfb fun w6 h6 => ?_
    have oe6 := h6.obj
    unfold efO Nf.raw at oe6
    rw [hfb] at oe6
    have hgc := hgo.cnd e hem
    have hcl := hgc.len
    obtain ⟨f1, f2⟩ := hgo.eff e hem
    simp (disch := omega) [cell_blk oe6, g1]
    refine cl_of (holds_spec e.wv.1 sv e.cnd s (((hr.kp h6.kp).op o hom).cnd e hem) (hs.kp0 h6.kp) (by omega) (fun f hf => by rw [hlen]; exact (hgc.rng f hf).1)) ?_
    rintro _ w7 ⟨rfl, k7⟩
    have h7 := h6.kp0 (Lcl.obj.star (hL _)) k7
    have hsuc := apK_succ (s := s) he
    cases hh : hdB s e.cnd with
    | false =>
      rw [hh] at hsuc
      simp [g1, g8, g39, hck, hlk]
      rw [hsuc]
      exact h7.drop
    | true =>
      rw [hh] at hsuc
      have oe7 := h7.obj
      unfold efO Nf.raw at oe7
      rw [hfb] at oe7
      have h8 := h7.drop
      have hO := h8.own
      have hal := apK_len o s k
      have hvi : (e.v : Int) < (apK o s k).length := by omega
      simp (disch := omega) [g8, cell_blk oe7, hO.idx]
      refine h8.store1 (Lcl.obj.star .emp) nE_len nE_one (k := e.v) (by omega) (x := e.x) rfl fun w9 h9 => ?_
      simp [g1, g8, g39, hck, hlk]
      rw [hsuc]
      exact h9
end Go.Proofs.Ytjpbkljnllkneaa
end
section
set_option maxRecDepth 100000
set_option linter.unusedSimpArgs false
set_option linter.unusedVariables false
namespace Go.Proofs.Ytjpbkljnllkneaa
open Go Go.W Go.Tk Go.Rx Go.Maps
theorem sts_ok {vars : List Nat} : ∀ k, k ≤ vars.length → ∀ s ∈ stsK vars k, s.length = k ∧ ∀ v, v < k → s.getD v 0 < vars.getD v 0
  | 0, _, s, hs => by
    simp [stsK] at hs; subst hs
    exact ⟨rfl, fun v hv => by omega⟩
  | k + 1, hk, s, hs => by
    unfold stsK at hs
    obtain ⟨t, ht, h2⟩ := List.mem_flatMap.1 hs
    unfold extS at h2
    obtain ⟨x, hx, rfl⟩ := List.mem_map.1 h2
    obtain ⟨e, hv⟩ := sts_ok k (by omega) t ht
    refine ⟨by simp [e], fun v hvk => ?_⟩
    by_cases h3 : v < k
    · have := hv v h3
      simpa [List.getD, List.getElem?_append_left (show v < t.length by omega)] using this
    · have : v = k := by omega
      subst this
      simpa [List.getD, ← e] using List.mem_range.1 hx
theorem sts_st {vars : List Nat} {s : List Nat} (h : s ∈ stsK vars vars.length) : StN vars s := by
  obtain ⟨h1, h2⟩ := sts_ok _ (Nat.le_refl _) s h
  exact ⟨h1, h2⟩
/-- Some states. -/
def SmI (T : Nt) (all : Value) (ps : List (Cell1 × List Nat)) (w : World) (n : Nat) (ρ : Env) (w' : World) : Prop :=
  ∃ i qs, n = ps.length - i ∧ i ≤ 2 * ps.length + 1 ∧ ρ 4 = all ∧ ρ 5 = .int .i64 (i : Nat) ∧ qs.length ≤ i + 1 ∧ (∀ q ∈ qs, q = (T.nv, T.init) ∨ q ∈ ps) ∧
    At w [] (Star (OwnA (ρ 3) 22 1 sv1 qs) (Star (OwnA all 22 1 sv1 ps) (Star (VwsA nE ps) Emp))) w'
set_option maxHeartbeats 1000000 in
theorem some_spec {w : World} (T : Nt) (hr : NtR w T) (hg : NtG T) (hb : ∀ k, k ≤ T.vars.length → (stsK T.vars k).length ≤ 10000) :
    Calls Try.prog 20 [ntV T].toArray w fun e w' => ∃ u, e = .returned u ∧ ∃ ls, (∀ s ∈ ls, StN T.vars s) ∧ ls.length ≤ 100000 ∧ Kp [] w w' ∧ LLV nE w' u ls := by
  refine enter Try.func20 mixed low20 (Nat.le_of_ble_eq_true rfl) ?_
  simp only [L20]
  have hvl := hg.vlen
  obtain ⟨b, hb2⟩ : ∃ b, b = w.heap.size := ⟨_, rfl⟩
  have h1 : At w [] (Star (ObjA b (ntO T)) Emp) (w.alloc (ntO T)) := by rw [hb2]; exact (At.start rfl).alloc _ .emp
  obtain ⟨w1, hw1⟩ : ∃ w1, w1 = w.alloc (ntO T) := ⟨_, rfl⟩
  rw [← hw1] at h1
  have hw1' : w.alloc (.cells #[T.vv.1, T.nv.1, T.gv.1, T.ov.1] 26 (0, 0)) = w1 := by rw [hw1]; rfl
  have hob := h1.obj
  unfold ntO at hob
  have h2 := h1.lit (xs := [((T.nv, T.init) : Cell1 × List Nat)]) (enc := sv1) (E := 22) (sz := 1) (cs := #[T.nv.1]) (m := 1) (Lcl.obj.star .emp) (by simp [sv1]) sv1_len (by simp [maxLen]) rfl
  obtain ⟨w2, hw2⟩ : ∃ w2, w2 = w1.alloc (.cells #[T.nv.1] 22) := ⟨_, rfl⟩
  obtain ⟨ov, hov⟩ : ∃ ov, ov = Value.slice (some ⟨w1.heap.size, 0, none⟩) 1 1 := ⟨_, rfl⟩
  rw [← hw2, ← hov] at h2
  have hob2 := h2.drop.obj
  unfold ntO at hob2
  have cnv : T.nv.1.cells = #[T.nv.1] := by
    have := T.nv.2
    cases h : T.nv.1 <;> simp_all [oneC, Value.cells]
  simp [ntV, ← hb2, hw1', cell_blk hob, cnv, rowOf, ← hw2, ← hov, cell_blk hob2]
  have hr2 := hr.kp h2.kp
  refine cl_of (states_spec T.vv.1 T.vars hr2.vars (by omega) (fun n hn => by have := hg.vars n hn; omega) hb (fun k hk s hs => by have := (sts_ok k hk s hs).1; omega)) ?_
  rintro all w3 h3
  obtain ⟨ps, hps, h4⟩ := LLA.opn (At.join (Lcl.own.star (Lcl.obj.star .emp)) h2 h3)
  have h5 : At w [] (Star (OwnA ov 22 1 sv1 [((T.nv, T.init) : Cell1 × List Nat)]) (Star (OwnA all 22 1 sv1 ps) (Star (VwsA nE ps) Emp))) w3 := (h4.by Imp.fr3).by (Imp.un (Imp.un (Imp.un Imp.dr)))
  have hpl : ps.length = (stsK T.vars T.vars.length).length := by rw [← hps]; simp
  have hbl := hb _ (Nat.le_refl _)
  have hpsok : ∀ q ∈ ps, StN T.vars q.2 := fun q hq => sts_st (by rw [← hps]; exact List.mem_map.2 ⟨q, hq, rfl⟩)
  simp
  refine loop_inv (SmI T all ps w) _ ⟨0, [(T.nv, T.init)], rfl, by omega, by simp, by simp, by simp, by simp, by simpa using h5⟩ ?_
  rintro n ρ w4 ⟨i, qs, rfl, hib, g4, g5, hql, hq, h6⟩
  have hal := h6.drop.own
  by_cases hlt : i < ps.length
  case neg =>
    have hlt' : ¬ (i : Int) < ps.length := by omega
    simp [g4, g5, hal.vw.len, hlt']
    refine ⟨qs.map (·.2), ?_, by simp; omega, h6.kp, qs, rfl, h6.own.vw, ?_⟩
    · intro s hs
      obtain ⟨q, hqm, rfl⟩ := List.mem_map.1 hs
      rcases hq q hqm with rfl | h
      · exact ⟨hg.ilen, fun v hv => hg.init v (by rw [hg.ilen]; exact hv)⟩
      · exact hpsok q h
    · intro q hqm
      rcases hq q hqm with rfl | h
      · exact (hr.kp h6.kp).init
      · exact h6.drop.drop.vws h
  have hlt' : (i : Int) < ps.length := by omega
  obtain ⟨p, hp⟩ : ∃ p, ps[i]? = some p := ⟨_, List.getElem?_eq_getElem hlt⟩
  have hpm := List.mem_of_getElem? hp
  have ep : w4.cell? (all.adr.add i) = some p.1.1 := by simpa using hal.vw.at_ sv1_len hp (o := 0) (u := p.1.1) rfl
  have cp : p.1.1.cells = #[p.1.1] := by
    have := p.1.2
    cases h : p.1.1 <;> simp_all [oneC, Value.cells]
  simp (disch := omega) [g4, g5, hal.vw.len, hlt', hal.vw.idx, ep, cp, rowOf]
  have hLX : Lcl (Star (OwnA all 22 1 sv1 ps) (Star (VwsA nE ps) Emp)) := Lcl.own.star (Lcl.vws.star .emp)
  have h7 := h6.kp0 (Lcl.own.star hLX) ((Kp.refl [] w4).alloc (.cells #[p.1.1] 22))
  refine At.append (xs := [p]) hLX h7 sv1_len sv1_one sl_38 rfl (fun j u hj => ?_) (by omega) (by unfold maxLen; omega) fun v' w5 h8 => ?_
  · simp [sv1] at hj
    rw [add_none, cell_blk alloc_new]
    simpa using hj
  have hal8 := h8.drop.own
  obtain ⟨d, hd⟩ : ∃ d, d = ps.length / 12 := ⟨_, rfl⟩
  have ed : ((ps.length : Nat) : Int).tdiv 12 = (d : Int) := by rw [hd]; rfl
  have hdl : d ≤ ps.length := by omega
  obtain ⟨i2, hi2⟩ : ∃ i2, i2 = i + (1 + d) := ⟨_, rfl⟩
  have ei : (i : Int) + (1 + (d : Int)) = (i2 : Int) := by rw [hi2]; simp
  simp (disch := omega) [g4, g5, hal8.vw.len, ed, wrap_i64, ei]
  exact ⟨_, (by omega : ps.length - i2 < ps.length - i), i2, qs ++ [p], rfl, by omega, by simp [g4], by simp, by simp; omega, fun q hqm => by
    rcases List.mem_append.1 hqm with h | h
    · exact hq q h
    · simp at h; subst h; exact .inr hpm, by simpa using h8⟩
end Go.Proofs.Ytjpbkljnllkneaa
end
section
set_option maxRecDepth 100000
set_option linter.unusedSimpArgs false
set_option linter.unusedVariables false
namespace Go.Proofs.Ytjpbkljnllkneaa
open Go Go.W Go.Tk Go.Rx Go.Maps
def u16E (n : Nat) : List Value := [.int .u16 (n : Nat)]
theorem u16E_len (n : Nat) : (u16E n).length = 1 := rfl
theorem u16E_one (n : Nat) : (u16E n).all oneC = true := rfl
theorem u16_cell {w : World} {v : Value} {l : List Nat} {k x : Nat} (h : Vw w v u16E l) (hx : l[k]? = some x) : w.cell? (v.adr.add k) = some (.int .u16 (x : Nat)) := by
  simpa using h.at_ u16E_len hx (o := 0) (u := .int .u16 (x : Nat)) rfl
/-- The costs that are given, and those that hold. -/
structure PrI (T : Nt) (gl rl : List Nat) : Prop where
  rlen : rl.length = T.ops.length
  rb : ∀ c ∈ rl, c ≤ 1048576
  gb : ∀ c ∈ gl, c ≤ 1048576
  glen : gl.length = 0 ∨ gl.length = T.ops.length
  eq : ∀ i, i < T.ops.length → cst T (gl.map iN) i = cstL rl i
def pcK (cl : List Nat) (k : Nat) : List Nat := (cl.take k).map (· % 100)
theorem pr_none {T : Nt} (hg : NtG T) : PrI T [] (T.ops.map (·.cost)) := {
  rlen := by simp
  rb := fun c hc => by
    obtain ⟨o, ho, rfl⟩ := List.mem_map.1 hc
    exact (hg.ops o ho).cost
  gb := by simp
  glen := .inl rfl
  eq := fun i hi => by
    unfold cst cstL
    simp [List.getD, List.getElem?_map, List.getElem?_eq_getElem hi] }
theorem pr_given {T : Nt} {cl : List Nat} (hl : T.ops.length ≤ cl.length) : PrI T (pcK cl T.ops.length) (pcK cl T.ops.length) := by
  have hlen : (pcK cl T.ops.length).length = T.ops.length := by simp [pcK]; omega
  have hb : ∀ c ∈ pcK cl T.ops.length, c ≤ 1048576 := fun c hc => by
    obtain ⟨x, _, rfl⟩ := List.mem_map.1 hc
    have : x % 100 < 100 := Nat.mod_lt _ (by omega)
    show x % 100 ≤ 1048576
    omega
  refine ⟨hlen, hb, hb, .inr hlen, fun i hi => ?_⟩
  unfold cst cstL
  rw [if_neg (by rw [List.length_map, hlen]; omega), iN_at]
  simp
set_option maxHeartbeats 1000000 in
theorem priced_spec {w : World} (T : Nt) (cv : Value) (cl : List Nat) (hr : NtR w T) (hg : NtG T) (hc : Vw w cv u16E cl) (hcb : ∀ c ∈ cl, c < 65536) (hcl : cl.length ≤ 9223372036854775807) :
    Calls Try.prog 13 [ntV T, cv].toArray w fun e w' => ∃ g r, e = .returned (.tuple #[g, r]) ∧ ∃ gl rl, PrI T gl rl ∧ Vw w' g nE gl ∧ Vw w' r nE rl ∧ Kp [] w w' := by
  refine enter Try.func13 mixed low13 (Nat.le_of_ble_eq_true rfl) ?_
  simp only [L13]
  have hol := hg.olen
  obtain ⟨b, hb⟩ : ∃ b, b = w.heap.size := ⟨_, rfl⟩
  have h1 : At w [] (Star (ObjA b (ntO T)) Emp) (w.alloc (ntO T)) := by rw [hb]; exact (At.start rfl).alloc _ .emp
  obtain ⟨w1, hw1⟩ : ∃ w1, w1 = w.alloc (ntO T) := ⟨_, rfl⟩
  rw [← hw1] at h1
  have hw1' : w.alloc (.cells #[T.vv.1, T.nv.1, T.gv.1, T.ov.1] 26 (0, 0)) = w1 := by rw [hw1]; rfl
  have hr1 := hr.kp h1.kp
  have hc1 := hc.kp0 h1.kp
  have hob := h1.obj
  have rt := rd_tk (t := T.raw) (b := b) (w := w1) hob
  unfold ntO at hob
  by_cases hlt : cl.length < T.ops.length
  · have hlt' : (cl.length : Int) < T.ops.length := by omega
    simp [ntV, ← hb, hw1', cell_blk hob, hc1.len, hr1.ops.len, hlt, hlt', rt, Nt.raw]
    refine cl_of (costs_spec T hr1 (by omega)) ?_
    rintro u w2 n2
    simp
    exact ⟨_, _, ⟨rfl, rfl⟩, _, _, pr_none hg, Vw.nil _ _, n2.own.vw, h1.kp.trans n2.kp⟩
  have hlt' : ¬ (cl.length : Int) < T.ops.length := by omega
  have h2 : At w [] (Star (OwnA (.slice none 0 0) 3 1 nE (pcK cl 0)) Emp) w1 := At.nil .emp h1.drop
  simp [ntV, ← hb, hw1', cell_blk hob, hc1.len, hr1.ops.len, hlt, hlt']
  refine range_loop (n := T.ops.length) (by omega) (fun k ρ w' => ρ 1 = cv ∧ At w [] (Star (OwnA (ρ 6) 3 1 nE (pcK cl k)) Emp) w') (by simp) (by simp)
    ⟨by simp, by simpa using h2⟩ (by decide) (fun _ _ _ _ h => by simpa using h) (fun _ _ _ _ h => by simpa using h) ?_ ?_
  rotate_left
  · rintro ρ w3 ⟨g1, h3⟩
    simp
    have hp := pr_given (T := T) (cl := cl) (by omega)
    exact ⟨_, _, ⟨rfl, rfl⟩, _, _, hp, h3.own.vw, h3.own.vw, h3.kp⟩
  rintro k ρ w3 hk hck hlk ⟨g1, h3⟩
  have hc3 := hc.kp0 h3.kp
  obtain ⟨c, hce⟩ : ∃ c, cl[k]? = some c := ⟨_, List.getElem?_eq_getElem (by omega)⟩
  have hcbb := hcb c (List.mem_of_getElem? hce)
  have hki : (k : Int) < cl.length := by omega
  obtain ⟨d, hd⟩ : ∃ d, d = c % 100 := ⟨_, rfl⟩
  have ed : ((c : Nat) : Int).tmod 100 = (d : Int) := by rw [hd]; rfl
  simp (disch := omega) [g1, hck, hlk, hc3.idx, u16_cell hc3 hce, wrap_i64, ed]
  have hpl : (pcK cl k).length ≤ 1000000 := by simp [pcK]; omega
  refine nat_append .emp h3 hpl fun v' w4 h4 => ?_
  have e : pcK cl (k + 1) = pcK cl k ++ [d] := by unfold pcK; rw [take_snoc hce, List.map_append, hd]; rfl
  simp [g1, hck, hlk]
  rw [e]
  exact h4
end Go.Proofs.Ytjpbkljnllkneaa
end
