/-
  A part of the proof of this claim's statement (RxXH, RxXI, RxXJ, RxXK, RxXL, RxYA, RxYB, RxYC, RxYF, RxYG, RxYK): plain theorems; no conditions beyond those each names.
-/
import Derived.Test.YtcplpogmbacnfaaPk12
import Derived.Test.YtcplpogmbacnfaaPk11
section
set_option maxRecDepth 100000
set_option linter.unusedSimpArgs false
set_option linter.unusedVariables false
namespace Go.Proofs.Ytcplpogmbacnfaa
open Go Go.W Go.Tk Go.Rx Go.Maps
def extS (n : Nat) (s : List Nat) : List (List Nat) := (List.range n).map fun x => s ++ [x]
/-- All states over the first variables. -/
def stsK (vars : List Nat) : Nat → List (List Nat)
  | 0 => [[]]
  | k + 1 => (stsK vars k).flatMap (extS (vars.getD k 0))
theorem extS_len (n : Nat) (s : List Nat) : (extS n s).length = n := by simp [extS]
set_option maxHeartbeats 1000000 in
theorem states_spec {w : World} (vv : Value) (vars : List Nat) (hv : Vw w vv nE vars) (hl : vars.length ≤ 1000) (hn : ∀ n ∈ vars, n ≤ 1000) (hb : ∀ k, k ≤ vars.length → (stsK vars k).length ≤ 10000) (hsl : ∀ k, k ≤ vars.length → ∀ s ∈ stsK vars k, s.length ≤ 1000) :
    Calls Try.prog 35 [vv].toArray w fun e w' => ∃ u, e = .returned u ∧ At w [] (Star (LLA u 22 nE (stsK vars vars.length)) Emp) w' := by
  refine enter Try.func35 mixed low35 (Nat.le_of_ble_eq_true rfl) ?_
  simp only [L35]
  have h0 : At w [] Emp w := At.start rfl
  have h1 := h0.lit (xs := ([] : List Nat)) (enc := nE) (E := 3) (sz := 1) (cs := #[]) (m := 0) .emp (by simp) nE_len (by simp [maxLen]) rfl
  obtain ⟨w1, hw1⟩ : ∃ w1, w1 = w.alloc (.cells #[] 3) := ⟨_, rfl⟩
  obtain ⟨r, hr⟩ : ∃ r, r = Value.slice (some ⟨w.heap.size, 0, none⟩) 0 0 := ⟨_, rfl⟩
  rw [← hw1, ← hr] at h1
  have ho := h1.own.o1
  have c1 := h1.own.c1
  have h2 : At w [] (Star (VwsA nE [((⟨r, ho⟩, []) : Cell1 × List Nat)]) Emp) w1 := ((VwsA.nil (Lcl.own.star .emp) h1).by Imp.sw).by (Imp.ow.trans (VwsA.add (ps := []) ho))
  have h3 := h2.lit (xs := [((⟨r, ho⟩, []) : Cell1 × List Nat)]) (enc := sv1) (E := 22) (sz := 1) (cs := #[r]) (m := 1) (Lcl.vws.star .emp) (by simp [sv1]) sv1_len (by simp [maxLen]) rfl
  have h4 : At w [] (Star (LLA (.slice (some ⟨w1.heap.size, 0, none⟩) 1 1) 22 nE (stsK vars 0)) Emp) (w1.alloc (.cells #[r] 22)) := LLA.cls (ps := [((⟨r, ho⟩, []) : Cell1 × List Nat)]) (by simp [stsK]) h3
  have hv4 := hv.kp0 h4.kp
  simp [← hw1, ← hr, c1, rowOf, hv4.len]
  refine range_loop (n := vars.length) (by omega) (fun k ρ w' => ρ 12 = vv ∧ At w [] (Star (LLA (ρ 3) 22 nE (stsK vars k)) Emp) w') (by simp) (by simp)
    ⟨by simp, by simpa using h4⟩ (by decide) (fun _ _ _ _ h => by simpa using h) (fun _ _ _ _ h => by simpa using h) ?_ ?_
  rotate_left
  · rintro ρ w5 ⟨g12, h5⟩
    simp
    exact h5
  clear h1 h2 h3 h4 hv4 c1 hw1
  rintro k ρ w5 hk hck hlk ⟨g12, h5⟩
  have hv5 := hv.kp0 h5.kp
  obtain ⟨n, hne⟩ : ∃ n, vars[k]? = some n := ⟨_, List.getElem?_eq_getElem hk⟩
  have hnb := hn n (List.mem_of_getElem? hne)
  have hnd : vars.getD k 0 = n := by simp [List.getD, hne]
  have hki : (k : Int) < vars.length := by omega
  obtain ⟨ov, hov⟩ : ∃ ov, ov = ρ 3 := ⟨_, rfl⟩
  rw [← hov] at h5
  obtain ⟨ps, hps, h6⟩ := LLA.opn h5
  have hpl : ps.length = (stsK vars k).length := by rw [← hps]; simp
  have hbk := hb k (by omega)
  have hbk1 := hb (k + 1) (by omega)
  have hsk1 : stsK vars (k + 1) = (stsK vars k).flatMap (extS n) := by rw [← hnd]; rfl
  rw [hsk1] at hbk1
  have hX : Lcl (Star (OwnA ov 22 1 sv1 ps) (Star (VwsA nE ps) Emp)) := Lcl.own.star (Lcl.vws.star .emp)
  have h7 : At w [] (Star (LLA (.slice none 0 0) 22 nE (((stsK vars k).take 0).flatMap (extS n))) (Star (OwnA ov 22 1 sv1 ps) (Star (VwsA nE ps) Emp))) w5 := LLA.nil hX h6
  simp (disch := omega) [g12, hck, hlk, hv5.idx, nE_cell hv5 hne, ← hov, h6.own.vw.len]
  refine range_loop (n := ps.length) (by omega) (fun i ρ w' => ρ 12 = vv ∧ ρ 13 = .int .i64 (vars.length : Nat) ∧ ρ 14 = .int .i64 (k : Nat) ∧ ρ 5 = .int .i64 (n : Nat) ∧ ρ 18 = ov ∧ At w [] (Star (LLA (ρ 6) 22 nE (((stsK vars k).take i).flatMap (extS n))) (Star (OwnA ov 22 1 sv1 ps) (Star (VwsA nE ps) Emp))) w') (by simp) (by simp)
    ⟨by simp [g12], by simp [hlk], by simp [hck], by simp, by simp, by simpa using h7⟩ (by decide) (fun _ _ _ _ h => by simpa using h) (fun _ _ _ _ h => by simpa using h) ?_ ?_
  rotate_left
  · clear g12 hck hlk hov
    rintro ρ w6 ⟨g12, g13, g14, g5, g18, h8⟩
    rw [hpl, List.take_length, ← hsk1] at h8
    simp [g12, g13, g14]
    exact h8.by (Imp.un (Imp.dr.trans Imp.dr))
  clear g12 hck hlk hov h5 h6 h7 hv5
  rintro i ρ w6 hi hci hli ⟨g12, g13, g14, g5, g18, h8⟩
  obtain ⟨p, hp⟩ : ∃ p, ps[i]? = some p := ⟨_, List.getElem?_eq_getElem hi⟩
  have hpm := List.mem_of_getElem? hp
  obtain ⟨s, hse⟩ : ∃ s, s = p.2 := ⟨_, rfl⟩
  have hsi : (stsK vars k)[i]? = some s := by rw [← hps, List.getElem?_map, hp, hse]; rfl
  have hsl1 := hsl k (by omega) s (List.mem_of_getElem? hsi)
  have hii : (i : Int) < ps.length := by omega
  have hov := h8.drop.own
  have ep : w6.cell? (ov.adr.add i) = some p.1.1 := by simpa using hov.vw.at_ sv1_len hp (o := 0) (u := p.1.1) rfl
  have hlen : (((stsK vars k).take i).flatMap (extS n)).length + n ≤ 10000 := by
    have e : stsK vars k = (stsK vars k).take i ++ (s :: (stsK vars k).drop (i + 1)) := by
      obtain ⟨hk2, e2⟩ := List.getElem?_eq_some_iff.1 hsi
      rw [← e2, ← List.drop_eq_getElem_cons hk2, List.take_append_drop]
    rw [e, List.flatMap_append, List.flatMap_cons, List.length_append, List.length_append, extS_len] at hbk1
    omega
  have htk : ((stsK vars k).take (i + 1)).flatMap (extS n) = ((stsK vars k).take i).flatMap (extS n) ++ (extS n s).take n := by
    have e : (extS n s).take n = extS n s := List.take_of_length_le (by rw [extS_len]; omega)
    rw [take_snoc hsi, List.flatMap_append, e]
    simp
  simp (disch := omega) [g5, g18, hci, hli, hov.vw.idx, ep]
  refine range_loop (n := n) (by omega) (fun x ρ w' => ρ 12 = vv ∧ ρ 13 = .int .i64 (vars.length : Nat) ∧ ρ 14 = .int .i64 (k : Nat) ∧ ρ 5 = .int .i64 (n : Nat) ∧ ρ 18 = ov ∧ ρ 19 = .int .i64 (ps.length : Nat) ∧ ρ 20 = .int .i64 (i : Nat) ∧ ρ 8 = p.1.1 ∧ At w [] (Star (LLA (ρ 6) 22 nE (((stsK vars k).take i).flatMap (extS n) ++ (extS n s).take x)) (Star (OwnA ov 22 1 sv1 ps) (Star (VwsA nE ps) Emp))) w') (by simp) (by simp)
    ⟨by simp [g12], by simp [g13], by simp [g14], by simp [g5], by simp [g18], by simp [hli], by simp [hci], by simp, by simpa using h8⟩ (by decide) (fun _ _ _ _ h => by simpa using h) (fun _ _ _ _ h => by simpa using h) ?_ ?_
  rotate_left
  · clear g12 g13 g14 g5 g18 hci hli
    rintro ρ w7 ⟨g12, g13, g14, g5, g18, g19, g20, g8, h9⟩
    rw [← htk] at h9
    simp [g12, g13, g14, g5, g18, g19, g20]
    exact h9
  clear g12 g13 g14 g5 g18 hci hli h8 hov ep
  rintro x ρ w7 hx hcx hlx ⟨g12, g13, g14, g5, g18, g19, g20, g8, h9⟩
  have hXL : Lcl (Star (LLA (ρ 6) 22 nE (((stsK vars k).take i).flatMap (extS n) ++ (extS n s).take x)) (Star (OwnA ov 22 1 sv1 ps) (Star (VwsA nE ps) Emp))) := Lcl.ll.star hX
  have h10 := h9.lit (xs := ([] : List Nat)) (enc := nE) (E := 3) (sz := 1) (cs := #[]) (m := 0) hXL (by simp) nE_len (by simp [maxLen]) rfl
  have hrow : Vw (w7.alloc (.cells #[] 3)) p.1.1 nE s := by rw [hse]; exact h10.drop.drop.drop.vws hpm
  simp [hcx, g8, rowOf]
  refine At.appendV (xs := s) hXL h10 hrow nE_len nE_one sl_22 (by simp; omega) (by simp; unfold maxLen; omega) fun v1 w8 h11 => ?_
  simp
  refine nat_append hXL h11 (by simp; omega) fun v2 w9 h12 => ?_
  have c12 := h12.own.c1
  simp [c12]
  have hlen2 : (((stsK vars k).take i).flatMap (extS n) ++ (extS n s).take x).length ≤ 100000 := by
    rw [List.length_append, List.length_take, extS_len]; omega
  refine li_append hX h12 hlen2 fun v3 w10 h13 => ?_
  have ext : (extS n s)[x]? = some (s ++ [x]) := by unfold extS; rw [List.getElem?_map, List.getElem?_range hx]; rfl
  simp [g12, g13, g14, g5, g18, g19, g20, hcx, hlx]
  rw [take_snoc ext, ← List.append_assoc]
  exact ⟨g8, by simpa using h13⟩
end Go.Proofs.Ytcplpogmbacnfaa
end
section
set_option maxRecDepth 100000
set_option linter.unusedSimpArgs false
set_option linter.unusedVariables false
namespace Go.Proofs.Ytcplpogmbacnfaa
open Go Go.W Go.Tk Go.Rx Go.Maps
def apK (o : No) (s : List Nat) (k : Nat) : List Nat := (o.effs.take k).foldl (fun t e => if hdB s e.cnd then t.set e.v e.x else t) s
/-- The state behind an operator. -/
def apS (o : No) (s : List Nat) : List Nat := apK o s o.effs.length
theorem apK_succ {o : No} {s : List Nat} {k : Nat} {e : Nf} (h : o.effs[k]? = some e) : apK o s (k + 1) = if hdB s e.cnd then (apK o s k).set e.v e.x else apK o s k := by
  unfold apK; rw [take_snoc h, List.foldl_append]; rfl
theorem apK_len (o : No) (s : List Nat) : ∀ k, (apK o s k).length = s.length
  | 0 => by simp [apK]
  | k + 1 => by
    cases h : o.effs[k]? with
    | none =>
      have := List.getElem?_eq_none_iff.1 h
      have h2 := apK_len o s k
      unfold apK at h2 ⊢
      rw [List.take_of_length_le (by omega)] at h2 ⊢
      exact h2
    | some e =>
      rw [apK_succ h]
      have := apK_len o s k
      split
      · rw [List.length_set]; exact this
      · exact this
def apV (T : Nt) (o : No) (s : List Nat) (w : World) (x : Value) (w' : World) : Prop :=
  if hdB s o.pre = true then ∃ u, x = .tuple #[u, .bool true] ∧ Nw w w' u 3 1 nE (apS o s) else x = .tuple #[.slice none 0 0, .bool false] ∧ Kp [] w w'
set_option maxHeartbeats 1000000 in
theorem apply_spec {w : World} (T : Nt) (sv : Value) (s : List Nat) (i : Nat) (o : No) (hr : NtR w T) (hg : NtG T) (ho : T.ops[i]? = some o) (hs : Vw w sv nE s) (hst : StN T.vars s) :
    Calls Try.prog 65 [ntV T, sv, .int .i64 (i : Nat)].toArray w fun e w' => ∃ x, e = .returned x ∧ apV T o s w x w' := by
  refine enter Try.func65 mixed low65 (Nat.le_of_ble_eq_true rfl) ?_
  simp only [L65]
  have hlen := hst.len
  have hvl := hg.vlen
  have hol := hg.olen
  have hom := List.mem_of_getElem? ho
  have hgo := hg.ops o hom
  have hi : i < T.ops.length := (List.getElem?_eq_some_iff.1 ho).1
  have hii : (i : Int) < T.ops.length := by omega
  obtain ⟨b, hb⟩ : ∃ b, b = w.heap.size := ⟨_, rfl⟩
  have h1 : At w [] (Star (ObjA b (ntO T)) Emp) (w.alloc (ntO T)) := by rw [hb]; exact (At.start rfl).alloc _ .emp
  obtain ⟨w1, hw1⟩ : ∃ w1, w1 = w.alloc (ntO T) := ⟨_, rfl⟩
  rw [← hw1] at h1
  have hw1' : w.alloc (.cells #[T.vv.1, T.nv.1, T.gv.1, T.ov.1] 26 (0, 0)) = w1 := by rw [hw1]; rfl
  have hr1 := hr.kp h1.kp
  have hob := h1.obj
  unfold ntO at hob
  have c2 := hr1.ops.fld noE_len ho (o := 2) (u := o.pv.1) rfl
  have n1 : ¬ (i : Int) < 0 := by omega
  have n2 : ¬ T.ops.length ≤ i := by omega
  simp (disch := omega) [ntV, ← hb, hw1', cell_blk hob, n1, n2, hr1.ops.len, hr1.ops.idx, c2]
  have hgp := hgo.pre
  have hpl := hgp.len
  refine cl_of (holds_spec o.pv.1 sv o.pre s (hr1.op o hom).pre (hs.kp0 h1.kp) (by omega) (fun f hf => by rw [hlen]; exact (hgp.rng f hf).1)) ?_
  rintro _ w2 ⟨rfl, k2⟩
  have h2 := h1.kp0 (Lcl.obj.star .emp) k2
  cases hp : hdB s o.pre with
  | false =>
    simp
    unfold apV
    rw [if_neg (by rw [hp]; simp)]
    exact ⟨rfl, h2.kp⟩
  | true =>
    simp [rowOf]
    have h3 := h2.lit (xs := ([] : List Nat)) (enc := nE) (E := 3) (sz := 1) (cs := #[]) (m := 0) (Lcl.obj.star .emp) (by simp) nE_len (by simp [maxLen]) rfl
    refine At.appendV (xs := s) (Lcl.obj.star .emp) h3 (hs.kp0 h3.kp) nE_len nE_one sl_22 (by simp; omega) (by simp; unfold maxLen; omega) fun ov w4 h4 => ?_
    have hob4 := h4.drop.obj
    unfold ntO at hob4
    have hr4 := hr.kp h4.kp
    have c3 := hr4.ops.fld noE_len ho (o := 3) (u := o.ev.1) rfl
    have hro4 := hr4.op o hom
    have helen := hgo.elen
    have h4 : At w [] (Star (OwnA ov 3 1 nE (apK o s 0)) (Star (ObjA b (ntO T)) Emp)) w4 := by simpa [apK] using h4
    simp (disch := omega) [← hb, cell_blk hob4, hr4.ops.idx, c3, hro4.effs.len]
    refine range_loop (n := o.effs.length) (by omega) (fun k ρ w' => ρ 1 = sv ∧ ρ 8 = ov ∧ ρ 39 = o.ev.1 ∧ At w [] (Star (OwnA ov 3 1 nE (apK o s k)) (Star (ObjA b (ntO T)) Emp)) w') (by simp) (by simp)
      ⟨by simp, by simp, by simp, h4⟩ (by decide) (fun _ _ _ _ h => by simpa using h) (fun _ _ _ _ h => by simpa using h) ?_ ?_
    rotate_left
    · rintro ρ w5 ⟨g1, g8, g39, h5⟩
      simp [g8]
      unfold apV
      rw [if_pos hp]
      exact ⟨_, rfl, Nw.of h5⟩
    clear h3 h4 hob4 hr4 c3 hro4
    rintro k ρ w5 hk hck hlk ⟨g1, g8, g39, h5⟩
    have hro5 := (hr.kp h5.kp).op o hom
    obtain ⟨e, he⟩ : ∃ e, o.effs[k]? = some e := ⟨_, List.getElem?_eq_getElem hk⟩
    have hem := List.mem_of_getElem? he
    have ece := hro5.effs.cells nfE_len he
    simp only [nfE] at ece
    have hki : (k : Int) < o.effs.length := by omega
    obtain ⟨fb, hfb⟩ : ∃ fb, fb = w5.heap.size := ⟨_, rfl⟩
    have hL : ∀ l, Lcl (Star (OwnA ov 3 1 nE l) (Star (ObjA b (ntO T)) Emp)) := fun _ => Lcl.own.star (Lcl.obj.star .emp)
    simp (disch := omega) [g39, hck, hlk, hro5.effs.idx, ece, ← hfb]
    refine st_ef (e := e.raw) (hL _) h5 hfb fun w6 h6 => ?_
    have oe6 := h6.obj
    unfold efO Nf.raw at oe6
    rw [hfb] at oe6
    have hgc := hgo.cnd e hem
    have hcl := hgc.len
    obtain ⟨f1, f2⟩ := hgo.eff e hem
    simp (disch := omega) [cell_blk oe6, g1]
    refine cl_of (holds_spec e.wv.1 sv e.cnd s (((hr.kp h6.kp).op o hom).cnd e hem) (hs.kp0 h6.kp) (by omega) (fun f hf => by rw [hlen]; exact (hgc.rng f hf).1)) ?_
    rintro _ w7 ⟨rfl, k7⟩
    have h7 := h6.kp0 (Lcl.obj.star (hL _)) k7
    have hsuc := apK_succ (s := s) he
    cases hh : hdB s e.cnd with
    | false =>
      rw [hh] at hsuc
      simp [g1, g8, g39, hck, hlk]
      rw [hsuc]
      exact h7.drop
    | true =>
      rw [hh] at hsuc
      have oe7 := h7.obj
      unfold efO Nf.raw at oe7
      rw [hfb] at oe7
      have h8 := h7.drop
      have hO := h8.own
      have hal := apK_len o s k
      have hvi : (e.v : Int) < (apK o s k).length := by omega
      simp (disch := omega) [g8, cell_blk oe7, hO.idx]
      refine h8.store1 (Lcl.obj.star .emp) nE_len nE_one (k := e.v) (by omega) (x := e.x) rfl fun w9 h9 => ?_
      simp [g1, g8, g39, hck, hlk]
      rw [hsuc]
      exact h9
end Go.Proofs.Ytcplpogmbacnfaa
end
section
set_option maxRecDepth 100000
set_option linter.unusedSimpArgs false
set_option linter.unusedVariables false
namespace Go.Proofs.Ytcplpogmbacnfaa
open Go Go.W Go.Tk Go.Rx Go.Maps
theorem sts_ok {vars : List Nat} : ∀ k, k ≤ vars.length → ∀ s ∈ stsK vars k, s.length = k ∧ ∀ v, v < k → s.getD v 0 < vars.getD v 0
  | 0, _, s, hs => by
    simp [stsK] at hs; subst hs
    exact ⟨rfl, fun v hv => by omega⟩
  | k + 1, hk, s, hs => by
    unfold stsK at hs
    obtain ⟨t, ht, h2⟩ := List.mem_flatMap.1 hs
    unfold extS at h2
    obtain ⟨x, hx, rfl⟩ := List.mem_map.1 h2
    obtain ⟨e, hv⟩ := sts_ok k (by omega) t ht
    refine ⟨by simp [e], fun v hvk => ?_⟩
    by_cases h3 : v < k
    · have := hv v h3
      simpa [List.getD, List.getElem?_append_left (show v < t.length by omega)] using this
    · have : v = k := by omega
      subst this
      simpa [List.getD, ← e] using List.mem_range.1 hx
theorem sts_st {vars : List Nat} {s : List Nat} (h : s ∈ stsK vars vars.length) : StN vars s := by
  obtain ⟨h1, h2⟩ := sts_ok _ (Nat.le_refl _) s h
  exact ⟨h1, h2⟩
/-- Some states. -/
def SmI (T : Nt) (all : Value) (ps : List (Cell1 × List Nat)) (w : World) (n : Nat) (ρ : Env) (w' : World) : Prop :=
  ∃ i qs, n = ps.length - i ∧ i ≤ 2 * ps.length + 1 ∧ ρ 4 = all ∧ ρ 5 = .int .i64 (i : Nat) ∧ qs.length ≤ i + 1 ∧ (∀ q ∈ qs, q = (T.nv, T.init) ∨ q ∈ ps) ∧
    At w [] (Star (OwnA (ρ 3) 22 1 sv1 qs) (Star (OwnA all 22 1 sv1 ps) (Star (VwsA nE ps) Emp))) w'
end Go.Proofs.Ytcplpogmbacnfaa
end
section
set_option maxRecDepth 100000
set_option linter.unusedSimpArgs false
set_option linter.unusedVariables false
namespace Go.Proofs.Ytcplpogmbacnfaa
open Go Go.W Go.Tk Go.Rx Go.Maps
/-- The costs that are given, and those that hold. -/
structure PrI (T : Nt) (gl rl : List Nat) : Prop where
  rlen : rl.length = T.ops.length
  rb : ∀ c ∈ rl, c ≤ 1048576
  gb : ∀ c ∈ gl, c ≤ 1048576
  glen : gl.length = 0 ∨ gl.length = T.ops.length
  eq : ∀ i, i < T.ops.length → cst T (gl.map iN) i = cstL rl i
end Go.Proofs.Ytcplpogmbacnfaa
end
section
set_option maxRecDepth 100000
set_option linter.unusedSimpArgs false
set_option linter.unusedVariables false
namespace Go.Proofs.Ytcplpogmbacnfaa
open Go Go.W Go.Tk Go.Rx Go.Maps
/-- The operators of the example. -/
def IsC (i : Nat) (o : No) : Prop := o.name = ByteArray.empty ∧ o.cost = 2 ∧ o.pre = [(0, i)] ∧ ∃ e : Nf, o.effs = [e] ∧ e.cnd = [] ∧ e.v = 0 ∧ e.x = i + 1 ∧ e.wv.1 = .slice none 0 0
def ChF (vv nv gv : Value) (os : List No) : Asr := Star (VwsA fcE (os.map fun o => (o.pv, o.pre))) (Star (VwsA nfE (os.map fun o => (o.ev, o.effs))) (Star (VwA vv nE [4]) (Star (VwA nv nE [0]) (Star (VwA gv fcE [(0, 3)]) Emp))))
theorem ChF.lcl {vv nv gv : Value} {os : List No} : Lcl (ChF vv nv gv os) := Lcl.vws.star (Lcl.vws.star (Lcl.vw.star (Lcl.vw.star (Lcl.vw.star .emp))))
end Go.Proofs.Ytcplpogmbacnfaa
end
section
set_option maxRecDepth 100000
set_option linter.unusedSimpArgs false
set_option linter.unusedVariables false
namespace Go.Rx
open Go Go.W Go.Tk
def prL : List Nat → Nat
  | [] => 1
  | x :: l => x * prL l
theorem prL_snoc : ∀ (l : List Nat) (x : Nat), prL (l ++ [x]) = prL l * x
  | [], x => by simp [prL]
  | y :: l, x => by simp only [List.cons_append, prL, prL_snoc l x, Nat.mul_assoc]
theorem many_le : ∀ (vars : List Nat) (n : Nat), (∀ v ∈ vars, 1 ≤ v) → manyF 512 n (vars.map iN) ≤ 512 → ∀ k, n * prL (vars.take k) ≤ 512
  | [], n, _, h, k => by simpa [manyF, prL] using h
  | x :: l, n, hx, h, k => by
    have h1 := hx x (by simp)
    simp only [List.map_cons, manyF] at h
    split at h
    · omega
    · rename_i hle
      have e : (iN x).toNat = x := by simp [iN]
      rw [e] at hle h
      have hle : n * min x (512 + 1) ≤ 512 := by omega
      cases k with
      | zero =>
        have := Nat.mul_le_mul_left n (show 1 ≤ min x (512 + 1) by omega)
        simp [prL]; omega
      | succ k =>
        rcases Nat.eq_zero_or_pos n with rfl | hn
        · simp
        have hm : min x (512 + 1) = x := by
          rcases Nat.le_total x 513 with h2 | h2
          · omega
          · have : min x (512 + 1) = 513 := by omega
            rw [this] at hle
            omega
        rw [hm] at h
        have := many_le l (n * x) (fun v hv => hx v (by simp [hv])) h k
        simpa [List.take_succ_cons, prL, Nat.mul_assoc] using this
theorem unsK_len8 {t : Nt} {cost : Nat → Nat} (h : ∀ o ∈ t.ops, o.effs.length ≤ 8) : ∀ n, (unsK t cost n).length ≤ 8 * n
  | 0 => by simp [unsK]
  | n + 1 => by
    have := unsK_len8 (cost := cost) h n
    cases ho : t.ops[n]? with
    | none =>
      unfold unsK at *
      rw [List.range_succ, List.flatMap_append]
      simp [ho] at this ⊢
      omega
    | some o =>
      rw [unsK_succ ho, List.length_append, opU_len]
      have := h o (List.mem_of_getElem? ho)
      omega
/-- A small task. -/
structure SmT (T : Nt) : Prop where
  g : NtG T
  good : goodB T.raw = true
  vl : T.vars.length ≤ 12
  ol : T.ops.length ≤ 20
  el : ∀ o ∈ T.ops, o.effs.length ≤ 8
  pr : ∀ k, prL (T.vars.take k) ≤ 512
  nm : ∀ o ∈ T.ops, o.name.size ≤ 9223372036854775807
theorem small_nat {t : Tk} (hl : TkL t) (h : smallB t = true) : ∃ T : Nt, T.raw = t ∧ SmT T := by
  unfold smallB at h
  simp only [Bool.and_eq_true, decide_eq_true_eq] at h
  obtain ⟨⟨⟨⟨h1, h2⟩, h3⟩, h4⟩, h5⟩ := h
  obtain ⟨T, rfl, hg⟩ := good_nat h4
  rw [List.all_eq_true] at h3
  refine ⟨T, rfl, hg, h4, by simpa [Nt.raw] using h1, by simpa [Nt.raw] using h2, fun o ho => ?_, fun k => ?_, fun o ho => ?_⟩
  · have := h3 o.raw (List.mem_map.2 ⟨o, ho, rfl⟩)
    simpa [No.raw] using this
  · have := many_le T.vars 1 (fun v hv => (hg.vars v hv).1) h5 k
    simpa using this
  · exact (hl.op o.raw (List.mem_map.2 ⟨o, ho, rfl⟩)).1
end Go.Rx
namespace Go.Proofs.Ytcplpogmbacnfaa
open Go Go.W Go.Tk Go.Rx Go.Maps
theorem stsK_len {vars : List Nat} : ∀ k, k ≤ vars.length → (stsK vars k).length = prL (vars.take k)
  | 0, _ => by simp [stsK, prL]
  | k + 1, hk => by
    obtain ⟨n, hn⟩ : ∃ n, vars[k]? = some n := ⟨_, List.getElem?_eq_getElem (by omega)⟩
    have key : ∀ (l : List (List Nat)), (l.flatMap (extS (vars.getD k 0))).length = l.length * vars.getD k 0 := by
      intro l
      induction l with
      | nil => simp
      | cons a l ih => rw [List.flatMap_cons, List.length_append, ih, extS_len, List.length_cons, Nat.add_mul]; omega
    have e : stsK vars (k + 1) = (stsK vars k).flatMap (extS (vars.getD k 0)) := rfl
    rw [take_snoc hn, prL_snoc, ← stsK_len k (by omega), e, key]
    simp [List.getD, hn]
theorem SmT.sts {T : Nt} (h : SmT T) : ∀ k, k ≤ T.vars.length → (stsK T.vars k).length ≤ 10000 := fun k hk => by
  rw [stsK_len k hk]
  have := h.pr k
  omega
theorem SmT.sm {T : Nt} (h : SmT T) {c : Nat → Nat} (hc : ∀ i, i < T.ops.length → c i ≤ 1048576) : Sm T.vars (uns T c) := {
  un := {
    nod := fun u hu => by
      obtain ⟨i, o, k, e, _, _, _, rfl⟩ := uns_mem hu
      exact dedup_nodup _
    rng := fun u hu n hn => by
      obtain ⟨i, o, k, e, hi, ho, he, rfl⟩ := uns_mem hu
      have hgo := h.g.ops o (List.mem_of_getElem? ho)
      obtain ⟨f, hf, rfl⟩ := List.mem_map.1 (dedup_mem.1 hn)
      rcases List.mem_append.1 hf with h1 | h1
      · obtain ⟨a, b⟩ := hgo.pre.rng f h1; exact numF_lt a b
      · obtain ⟨a, b⟩ := (hgo.cnd e (List.mem_of_getElem? he)).rng f h1; exact numF_lt a b
    made := fun u hu => by
      obtain ⟨i, o, k, e, hi, ho, he, rfl⟩ := uns_mem hu
      obtain ⟨a, b⟩ := (h.g.ops o (List.mem_of_getElem? ho)).eff e (List.mem_of_getElem? he)
      exact numF_lt a b
    cost := fun u hu => by
      obtain ⟨i, o, k, e, hi, ho, he, rfl⟩ := uns_mem hu
      exact hc i hi
    op := fun u hu => by
      obtain ⟨i, o, k, e, hi, ho, he, rfl⟩ := uns_mem hu
      have := h.ol
      show i ≤ 4096
      omega }
  vl := h.vl
  sm := by
    have := sum_le (N := 64) fun n hn => (h.g.vars n hn).2
    have := h.vl
    omega
  ul := by
    have := unsK_len8 (cost := c) h.el T.ops.length
    have := h.ol
    show (unsK T c T.ops.length).length ≤ 160
    omega }
/-- Right costs. -/
structure CsOk (T : Nt) (cs : List Int) : Prop where
  len : cs.length = 0 ∨ cs.length = T.ops.length
  rng : ∀ c ∈ cs, 0 ≤ c ∧ c ≤ 1048576
theorem CsOk.cst {T : Nt} {cs : List Int} (h : CsOk T cs) (hg : NtG T) (i : Nat) (hi : i < T.ops.length) : cst T cs i ≤ 1048576 := by
  unfold Go.Proofs.Ytcplpogmbacnfaa.cst
  split
  · obtain ⟨o, ho⟩ : ∃ o, T.ops[i]? = some o := ⟨_, List.getElem?_eq_getElem hi⟩
    rw [ho]
    exact (hg.ops o (List.mem_of_getElem? ho)).cost
  · rename_i hn
    rcases h.len with h1 | h1
    · exact absurd h1 hn
    have hi2 : i < cs.length := by omega
    have := h.rng cs[i] (List.getElem_mem hi2)
    simp only [List.getD, List.getElem?_eq_getElem hi2, Option.getD_some]
    omega
theorem CsOk.nil {T : Nt} : CsOk T [] := ⟨.inl rfl, by simp⟩
theorem PrI.ok {T : Nt} {gl rl : List Nat} (h : PrI T gl rl) : CsOk T (gl.map iN) := ⟨by simpa using h.glen, fun c hc => by
  obtain ⟨x, hx, rfl⟩ := List.mem_map.1 hc
  have := h.gb x hx
  unfold iN; omega⟩
/-- A relaxation that can be read. -/
def Rlx (b : Nat) (T : Nt) (U : List Un) (w : World) : Prop := ∃ vv gv fv uv nd fr rs ps, RlR b T.vars T.goal U vv gv fv uv nd fr rs ps w
theorem Rlx.kp {b : Nat} {T : Nt} {U : List Un} {w w' : World} (h : Rlx b T U w) (k : Kp [] w w') : Rlx b T U w' := by
  obtain ⟨vv, gv, fv, uv, nd, fr, rs, ps, h⟩ := h
  exact ⟨vv, gv, fv, uv, nd, fr, rs, ps, h.kp k⟩
theorem IsC.opB {i : Nat} {o : No} (h : IsC i o) (hi : i < 3) : opB [4] o.raw = true := by
  obtain ⟨h1, h2, h3, e, h4, h5, h6, h7, h8⟩ := h
  have e1 : o.raw = ⟨ByteArray.empty, 2, o.pv, [(0, (i : Int))], o.ev, [⟨e.wv, [], 0, ((i + 1 : Nat) : Int)⟩]⟩ := by
    unfold No.raw Nf.raw
    rw [h1, h2, h3, h4]
    simp [h5, h6, h7, faN]
  rw [e1]
  have : i = 0 ∨ i = 1 ∨ i = 2 := by omega
  rcases this with rfl | rfl | rfl <;> rfl
end Go.Proofs.Ytcplpogmbacnfaa
end
section
set_option maxRecDepth 100000
set_option linter.unusedSimpArgs false
set_option linter.unusedVariables false
namespace Go.Proofs.Ytcplpogmbacnfaa
open Go Go.W Go.Tk Go.Rx Go.Maps
section
variable {w : World} {b : Nat} {T : Nt} {U : List Un}
end
theorem ints_vw {w : World} {v : Value} {l : List Nat} (h : Vw w v nE l) : Vw w v iE (l.map iN) := vw_n.2 h
theorem lone {α : Type} {enc : α → List Value} {v : Value} {l : List α} {X : Asr} (ho : oneC v = true) : Imp (Star (VwA v enc l) X) (Star (VwsA enc [((⟨v, ho⟩, l) : Cell1 × List α)]) X) := by
  rintro w F ⟨Fa, Fb, ⟨h1, e1, h2⟩, h3, hd, rfl⟩
  exact ⟨_, ⟨Fa, Fb, ⟨fun p hp => by simp at hp; subst hp; exact h1, fun x hx => h2 x (by rw [← e1]; exact hx), by simpa using e1⟩, h3, hd, rfl⟩, fun x hx => hx⟩
end Go.Proofs.Ytcplpogmbacnfaa
end
section
set_option maxRecDepth 100000
set_option linter.unusedSimpArgs false
set_option linter.unusedVariables false
namespace Go.Proofs.Ytcplpogmbacnfaa
open Go Go.W Go.Tk Go.Rx Go.Maps
theorem raw_vv (T : Nt) : T.raw.vv = T.vv := rfl
theorem raw_nv (T : Nt) : T.raw.nv = T.nv := rfl
theorem raw_gv (T : Nt) : T.raw.gv = T.gv := rfl
theorem raw_ov (T : Nt) : T.raw.ov = T.ov := rfl
end Go.Proofs.Ytcplpogmbacnfaa
end
section
set_option maxRecDepth 100000
set_option linter.unusedSimpArgs false
set_option linter.unusedVariables false
namespace Go.Proofs.Ytcplpogmbacnfaa
open Go Go.W Go.Tk Go.Rx Go.Maps
theorem stN_sum {vars s : List Nat} (h : StN vars s) : ∀ x ∈ stN vars s vars.length, x < vars.sum := fun x hx => by
  unfold stN at hx
  obtain ⟨v, hv, rfl⟩ := List.mem_map.1 hx
  have hv := List.mem_range.1 hv
  exact numF_lt (f := (v, s.getD v 0)) hv (h.rng v hv)
end Go.Proofs.Ytcplpogmbacnfaa
end
section
set_option maxRecDepth 100000
set_option linter.unusedSimpArgs false
set_option linter.unusedVariables false
namespace Go.Proofs.Ytcplpogmbacnfaa
open Go Go.W Go.Tk Go.Rx Go.Maps
theorem mem_getD {l : List Nat} {i : Nat} (hi : i < l.length) : l.getD i 0 ∈ l := by simp [List.getD, List.getElem?_eq_getElem hi]
/-- The task without an operator. -/
def lessT (T : Nt) (ov : Cell1) (k : Nat) : Nt := { T with ov := ov, ops := T.ops.take k ++ T.ops.drop (k + 1) }
theorem lessT_mem {T : Nt} {ov : Cell1} {k : Nat} {o : No} (h : o ∈ (lessT T ov k).ops) : o ∈ T.ops := by
  rcases List.mem_append.1 h with h | h
  · exact List.mem_of_mem_take h
  · exact List.mem_of_mem_drop h
theorem NtR.less {T : Nt} {ov : Value} {o1 : oneC ov = true} {k : Nat} {w : World} (h : NtR w T) (hv : Vw w ov noE (T.ops.take k ++ T.ops.drop (k + 1))) : NtR w (lessT T ⟨ov, o1⟩ k) :=
  ⟨h.vars, h.init, h.goal, hv, fun o ho => h.op o (lessT_mem ho)⟩
end Go.Proofs.Ytcplpogmbacnfaa
end
section
set_option maxRecDepth 100000
set_option linter.unusedSimpArgs false
set_option linter.unusedVariables false
namespace Go.Proofs.Ytcplpogmbacnfaa
open Go Go.W Go.Tk Go.Rx Go.Maps
abbrev Ed := Nat × Nat × Nat
def edE (e : Ed) : List Value := [.int .i64 (e.1 : Nat), .int .i64 (e.2.1 : Nat), .int .i64 (e.2.2 : Nat)]
theorem edE_len (e : Ed) : (edE e).length = 3 := rfl
theorem edE_one (e : Ed) : (edE e).all oneC = true := rfl
/-- The state behind an operator is a state. -/
theorem apK_st {vars : List Nat} {o : No} {s : List Nat} (hs : StN vars s) (ho : NoG vars o) : ∀ k, k ≤ o.effs.length → StN vars (apK o s k)
  | 0, _ => by simpa [apK] using hs
  | k + 1, hk => by
    obtain ⟨e, he⟩ : ∃ e, o.effs[k]? = some e := ⟨_, List.getElem?_eq_getElem (by omega)⟩
    have ih := apK_st hs ho k (by omega)
    rw [apK_succ he]
    split
    · obtain ⟨e1, e2⟩ := ho.eff e (List.mem_of_getElem? he)
      refine ⟨by rw [List.length_set]; exact ih.len, fun v hv => ?_⟩
      by_cases h : v = e.v
      · subst h
        simp only [List.getD, List.getElem?_set_self (show e.v < (apK o s k).length by rw [ih.len]; exact e1), Option.getD_some]
        exact e2
      · have := ih.rng v hv
        simpa only [List.getD, List.getElem?_set_ne (Ne.symm h)] using this
    · exact ih
theorem apS_st {vars : List Nat} {o : No} {s : List Nat} (hs : StN vars s) (ho : NoG vars o) : StN vars (apS o s) := apK_st hs ho _ (Nat.le_refl _)
theorem flat_at {α β : Type} {f : α → List β} {n : Nat} (hf : ∀ a, (f a).length = n) : ∀ (l : List α) (i x : Nat) (a : α), l[i]? = some a → x < n → (l.flatMap f)[i * n + x]? = (f a)[x]?
  | [], i, x, a, h, _ => by simp at h
  | b :: l, 0, x, a, h, hx => by
    simp at h; subst h
    rw [List.flatMap_cons, Nat.zero_mul, Nat.zero_add, List.getElem?_append_left (by rw [hf]; exact hx)]
  | b :: l, i + 1, x, a, h, hx => by
    rw [List.flatMap_cons, List.getElem?_append_right (by rw [hf, Nat.add_mul]; omega), hf]
    have : (i + 1) * n + x - n = i * n + x := by rw [Nat.add_mul]; omega
    rw [this]
    exact flat_at hf l i x a (by simpa using h) hx
/-- A state lies at its number. -/
theorem rk_at {vars s : List Nat} (hs : StN vars s) : ∀ k, k ≤ vars.length → (stsK vars k)[rkK vars s k]? = some (s.take k)
  | 0, _ => by simp [stsK, rkK]
  | k + 1, hk => by
    have ih := rk_at hs k (by omega)
    have hr := hs.rng k (by omega)
    have e : stsK vars (k + 1) = (stsK vars k).flatMap (extS (vars.getD k 0)) := rfl
    have hsk : s[k]? = some (s.getD k 0) := by
      have : k < s.length := by rw [hs.len]; omega
      simp [List.getD, List.getElem?_eq_getElem this]
    rw [e]
    show (List.flatMap _ _)[rkK vars s k * vars.getD k 0 + s.getD k 0]? = _
    rw [flat_at (fun a => extS_len _ a) _ _ _ _ ih hr]
    unfold extS
    rw [List.getElem?_map, List.getElem?_range hr, take_snoc hsk]
    rfl
theorem rk_all {vars s : List Nat} (hs : StN vars s) : (stsK vars vars.length)[rkK vars s vars.length]? = some s := by
  have := rk_at hs vars.length (Nat.le_refl _)
  rwa [List.take_of_length_le (by rw [hs.len]; exact Nat.le_refl _)] at this
theorem rk_sm {T : Nt} {s : List Nat} (hT : SmT T) (hs : StN T.vars s) (k : Nat) (hk : k ≤ T.vars.length) : rkK T.vars s k < 512 := by
  have h1 := (List.getElem?_eq_some_iff.1 (rk_at hs k hk)).1
  rw [stsK_len k hk] at h1
  have := hT.pr k
  omega
theorem sts512 {T : Nt} (hT : SmT T) : (stsK T.vars T.vars.length).length ≤ 512 := by rw [stsK_len _ (Nat.le_refl _)]; exact hT.pr _
/-- The steps out of a state, by the first operators; those out of the first states. -/
def edS (T : Nt) (i : Nat) (s : List Nat) : Nat → List Ed
  | 0 => []
  | q + 1 => edS T i s q ++ match T.ops[q]? with | some o => if hdB s o.pre then [(i, q, rkK T.vars (apS o s) T.vars.length)] else [] | none => []
def edK (T : Nt) : Nat → List Ed
  | 0 => []
  | i + 1 => edK T i ++ match (stsK T.vars T.vars.length)[i]? with | some s => edS T i s T.ops.length | none => []
theorem edS_len (T : Nt) (i : Nat) (s : List Nat) : ∀ q, (edS T i s q).length ≤ q
  | 0 => by simp [edS]
  | q + 1 => by
    have := edS_len T i s q
    unfold edS
    rw [List.length_append]
    split
    · split <;> simp <;> omega
    · simp; omega
theorem edK_len (T : Nt) : ∀ i, (edK T i).length ≤ i * T.ops.length
  | 0 => by simp [edK]
  | i + 1 => by
    have := edK_len T i
    unfold edK
    rw [List.length_append, Nat.add_mul, Nat.one_mul]
    split
    · rename_i s _
      have := edS_len T i s T.ops.length
      omega
    · simp; omega
theorem edS_mem {T : Nt} {i : Nat} {s : List Nat} {e : Ed} : ∀ {q}, e ∈ edS T i s q → e.1 = i ∧ ∃ o, T.ops[e.2.1]? = some o ∧ hdB s o.pre = true ∧ e.2.2 = rkK T.vars (apS o s) T.vars.length
  | 0, h => by simp [edS] at h
  | q + 1, h => by
    unfold edS at h
    rcases List.mem_append.1 h with h | h
    · exact edS_mem h
    · split at h
      · rename_i o ho
        split at h
        · rename_i hp
          simp at h; subst h
          exact ⟨rfl, o, ho, hp, rfl⟩
        · simp at h
      · simp at h
theorem edK_mem {T : Nt} {e : Ed} : ∀ {n}, e ∈ edK T n → ∃ s o, (stsK T.vars T.vars.length)[e.1]? = some s ∧ T.ops[e.2.1]? = some o ∧ hdB s o.pre = true ∧ e.2.2 = rkK T.vars (apS o s) T.vars.length
  | 0, h => by simp [edK] at h
  | n + 1, h => by
    unfold edK at h
    rcases List.mem_append.1 h with h | h
    · exact edK_mem h
    · split at h
      · rename_i s hs
        obtain ⟨h1, o, h2, h3, h4⟩ := edS_mem h
        exact ⟨s, o, by rw [h1]; exact hs, h2, h3, h4⟩
      · simp at h
def edA (T : Nt) : List Ed := edK T (stsK T.vars T.vars.length).length
theorem ed_append {w w1 : World} {F : List Nat} {B : Asr} {ov : Value} {l : List Ed} {x : Ed} {KV : Kont (Value × World)} (hB : Lcl B) (h : At w F (Star (OwnA ov 95 3 edE l) B) w1) (hl : l.length ≤ 1000000)
    (H : ∀ v' w2, At w F (Star (OwnA v' 95 3 edE (l ++ [x])) B) w2 → KV.run (v', w2)) :
    @efH Try.prog (Builtin.append_ #[92, 92] 92 [ov, .slice (some ⟨w1.heap.size, 0, none⟩) 1 1].toArray) (w1.alloc (.cells #[.int .i64 (x.1 : Nat), .int .i64 (x.2.1 : Nat), .int .i64 (x.2.2 : Nat)] 95)) KV := by
  have h4 := h.kp0 (Lcl.own.star hB) ((Kp.refl [] w1).alloc (.cells #[.int .i64 (x.1 : Nat), .int .i64 (x.2.1 : Nat), .int .i64 (x.2.2 : Nat)] 95))
  refine At.append (xs := [x]) hB h4 edE_len edE_one sl_92 rfl (fun j u hj => ?_) (by omega) (by unfold maxLen; omega) fun v' w5 h5 => H v' w5 h5
  rw [add_none, cell_blk alloc_new]
  simpa [edE] using hj
set_option maxHeartbeats 1000000 in
theorem edges_spec {w : World} (T : Nt) (hr : NtR w T) (hT : SmT T) :
    Calls Try.prog 48 [ntV T].toArray w fun e w' => ∃ u, e = .returned u ∧ At w [] (Star (OwnA u 95 3 edE (edA T)) Emp) w' := by
  refine enter Try.func48 mixed low48 (Nat.le_of_ble_eq_true rfl) ?_
  simp only [L48]
  have hg := hT.g
  have hol := hT.ol
  have hvl := hT.vl
  obtain ⟨b, hb⟩ : ∃ b, b = w.heap.size := ⟨_, rfl⟩
  have h1 : At w [] (Star (ObjA b (ntO T)) Emp) (w.alloc (ntO T)) := by rw [hb]; exact (At.start rfl).alloc _ .emp
  obtain ⟨w1, hw1⟩ : ∃ w1, w1 = w.alloc (ntO T) := ⟨_, rfl⟩
  rw [← hw1] at h1
  have hw1' : w.alloc (.cells #[T.vv.1, T.nv.1, T.gv.1, T.ov.1] 26 (0, 0)) = w1 := by rw [hw1]; rfl
  have hob := h1.obj
  unfold ntO at hob
  have hr1 := hr.kp h1.kp
  simp [ntV, ← hb, hw1', cell_blk hob]
  refine cl_of (states_spec T.vv.1 T.vars hr1.vars (by omega) (fun n hn => by have := hg.vars n hn; omega) (SmT.sts hT) (fun k hk s hs => by have := (sts_ok k hk s hs).1; omega)) ?_
  rintro all w2 h2
  have hls := LLA.vw h2
  have h3 := At.nil (E := 95) (sz := 3) (enc := edE) .emp (At.start rfl : At w2 [] Emp w2)
  have k2 := h1.kp.trans0 h2.kp
  have ob2 := h2.kp.blk hob (by simp)
  have hr2 := hr.kp k2
  obtain ⟨ps, hpl, hpv, hpr⟩ := hls.spread
  have h512 := sts512 hT
  simp [hpv.len]
  refine range_loop (n := ps.length) (by omega) (fun i ρ w' => ρ 1 = .pointer (some ⟨b, 0, none⟩) ∧ ρ 11 = all ∧ At w2 [] (Star (OwnA (ρ 3) 95 3 edE (edK T i)) Emp) w') (by simp) (by simp)
    ⟨by simp, by simp, by simpa [edK] using h3⟩ (by decide) (fun _ _ _ _ h => by simpa using h) (fun _ _ _ _ h => by simpa using h) ?_ ?_
  rotate_left
  · rintro ρ w4 ⟨g1, g11, h4⟩
    rw [hpl] at h4
    simp
    obtain ⟨⟨F, hF, hs⟩, k⟩ := h4
    refine ⟨⟨F, hF, fun x hx => ?_⟩, k2.trans0 k⟩
    rcases hs x hx with h | h
    · cases h
    · have := k2.size; exact .inr (by omega)
  rintro i ρ w4 hi hci hli ⟨g1, g11, h4⟩
  obtain ⟨p, hp⟩ : ∃ p, ps[i]? = some p := ⟨_, List.getElem?_eq_getElem hi⟩
  obtain ⟨s, hsk, hsv⟩ := hpr i p hp
  have hst := sts_st (List.mem_of_getElem? hsk)
  have hpv4 := hpv.kp0 h4.kp
  have ep : w4.cell? (all.adr.add i) = some p.1.1 := by simpa using hpv4.at_ sv1_len hp (o := 0) (u := p.1.1) rfl
  have hki : (i : Int) < ps.length := by omega
  have ob4 := h4.kp.blk ob2 (by simp)
  simp (disch := omega) [g1, g11, hci, hli, hpv4.idx, ep, cell_blk ob4, (hr2.kp h4.kp).ops.len]
  refine range_loop (n := T.ops.length) (by omega) (fun q ρ w' => ρ 1 = .pointer (some ⟨b, 0, none⟩) ∧ ρ 11 = all ∧ ρ 12 = .int .i64 (ps.length : Nat) ∧ ρ 13 = .int .i64 (i : Nat) ∧ ρ 4 = .int .i64 (i : Nat) ∧ ρ 5 = p.1.1 ∧ At w2 [] (Star (OwnA (ρ 3) 95 3 edE (edK T i ++ edS T i s q)) Emp) w') (by simp) (by simp)
    ⟨by simp [g1], by simp [g11], by simp [hli], by simp [hci], by simp, by simp, by simpa [edS] using h4⟩ (by decide) (fun _ _ _ _ h => by simpa using h) (fun _ _ _ _ h => by simpa using h) ?_ ?_
  rotate_left
  · clear g1 g11 hci hli h4
    rintro ρ w5 ⟨g1, g11, g12, g13, g4, g5, h5⟩
    have e : edK T (i + 1) = edK T i ++ edS T i s T.ops.length := by
      show edK T i ++ _ = _
      rw [hsk]
    simp [g1, g11, g12, g13]
    rw [e]
    exact h5
  clear g1 g11 hci hli h4 hpv4 ep ob4
  rintro q ρ w5 hq hcq hlq ⟨g1, g11, g12, g13, g4, g5, h5⟩
  obtain ⟨o, ho⟩ : ∃ o, T.ops[q]? = some o := ⟨_, List.getElem?_eq_getElem hq⟩
  have hog := hg.ops o (List.mem_of_getElem? ho)
  have ob5 := h5.kp.blk ob2 (by simp)
  have rt : cellsAt w5 ⟨b, 0, none⟩ 0 4 = some [T.vv.1, T.nv.1, T.gv.1, T.ov.1] := by simp [cellsAt, Addr.add, cell_blk ob5]
  have hl1 := edK_len T i
  have hl2 := edS_len T i s q
  have hl3 : i * T.ops.length ≤ 512 * 20 := Nat.mul_le_mul (by omega) hol
  simp [g1, g5, hcq, rt]
  refine cl_of (apply_spec T p.1.1 s q o (hr2.kp h5.kp) hg ho (hsv.kp0 h5.kp) hst) ?_
  rintro x w6 hx
  unfold apV at hx
  by_cases hh : hdB s o.pre = true
  · rw [if_pos hh] at hx
    obtain ⟨u, rfl, n6⟩ := hx
    have h6 := h5.kp0 (Lcl.own.star .emp) n6.kp
    have ob6 := h6.kp.blk ob2 (by simp)
    have hst2 := apS_st hst hog
    have hlen2 := hst2.len
    simp [g1, g4, cell_blk ob6]
    refine cl_of (rank_spec T.vv.1 u T.vars (apS o s) (hr2.kp h6.kp).vars n6.own.vw hlen2 (by omega) (fun k hk => by have := rk_sm hT hst2 k (by omega); omega)) ?_
    rintro _ w7 ⟨rfl, k7⟩
    rw [hlen2]
    have h7 := h6.kp0 (Lcl.own.star .emp) k7
    obtain ⟨rk, hrk⟩ : ∃ rk, rk = rkK T.vars (apS o s) T.vars.length := ⟨_, rfl⟩
    rw [← hrk]
    have e : edS T i s (q + 1) = edS T i s q ++ [(i, q, rk)] := by
      show edS T i s q ++ _ = _
      rw [ho]
      simp only [if_pos hh, hrk]
    simp [g4, hcq, rowOf]
    refine ed_append (x := (i, q, rk)) .emp h7 (by rw [List.length_append]; omega) fun v' w8 h8 => ?_
    simp [g1, g11, g12, g13, g4, g5, hcq, hlq]
    rw [e, ← List.append_assoc]
    exact h8
  · rw [if_neg hh] at hx
    obtain ⟨rfl, k6⟩ := hx
    have e : edS T i s (q + 1) = edS T i s q := by
      show edS T i s q ++ _ = _
      rw [ho]
      simp only [if_neg hh, List.append_nil]
    simp [g1, g11, g12, g13, g4, g5, hcq, hlq]
    rw [e]
    exact h5.kp0 (Lcl.own.star .emp) k6
end Go.Proofs.Ytcplpogmbacnfaa
end
