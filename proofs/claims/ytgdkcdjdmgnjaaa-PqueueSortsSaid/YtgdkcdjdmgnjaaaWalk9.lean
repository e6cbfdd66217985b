/-
  A part of the proofs of this seat's statements (Walk9); no conditions beyond those each theorem names.
-/
import Derived.Test.YtgdkcdjdmgnjaaaWalk8
import Derived.Test.YtgdkcdjdmgnjaaaLibB
set_option maxRecDepth 100000
set_option linter.unusedSimpArgs false
set_option linter.unusedVariables false
namespace Go.Proofs.Ytgdkcdjdmgnjaaa
open Go Go.W Go.Pq
theorem eq43 (a b c d : Int) {x y : Operand} {w : World} {K : Kont Value} (h : K.run (.bool !([a, b] == [c, d]))) :
    @rdH Try.prog (do eqGuard .neq 43 x y (.agg #[.int .i64 a, .int .i64 b]) (.agg #[.int .i64 c, .int .i64 d]); binOp .neq 43 (.agg #[.int .i64 a, .int .i64 b]) (.agg #[.int .i64 c, .int .i64 d])) w K :=
  rd_neq (k := .i64) (la := [a, b]) (lb := [c, d]) Try.eqGuardType43 (equal_array Try.underlying43 (by kernel_rfl) (by kernel_rfl) (by kernel_rfl) rfl rfl) h
theorem eq34 (a b c a' b' c' : Int) {x y : Operand} {w : World} {K : Kont Value} (h : K.run (.bool ([a, b, c] == [a', b', c']))) :
    @rdH Try.prog (do eqGuard .eql 34 x y (.agg #[.int .i64 a, .int .i64 b, .int .i64 c]) (.agg #[.int .i64 a', .int .i64 b', .int .i64 c']); binOp .eql 34 (.agg #[.int .i64 a, .int .i64 b, .int .i64 c]) (.agg #[.int .i64 a', .int .i64 b', .int .i64 c'])) w K :=
  rd_eql (k := .i64) (la := [a, b, c]) (lb := [a', b', c']) Try.eqGuardType34 (equal_struct (by kernel_rfl) Try.stoodInHeld34 (by kernel_rfl) (by kernel_rfl) (by kernel_rfl)) h
def ie (l : List (Int × Int)) (i : Nat) : En := ⟨(gp l i).1, (gp l i).2, (i : Nat), (i : Nat)⟩
theorem ins_mem0 (l : List (Int × Int)) (k : Nat) (x : En) : x ∈ ins l 0 0 [] k ↔ ∃ i, i < k ∧ x = ie l i := by
  induction k with
  | zero => simp [ins]
  | succ k ih =>
    rw [ins, insS_mem, ih]
    constructor
    · rintro (rfl | ⟨i, hi, rfl⟩)
      · exact ⟨k, by omega, by simp [ie]⟩
      · exact ⟨i, by omega, rfl⟩
    · rintro ⟨i, hi, rfl⟩
      rcases Nat.lt_or_ge i k with h | h
      · exact .inr ⟨i, h, rfl⟩
      · have : i = k := by omega
        subst this; exact .inl (by simp [ie])
def eb (b : Bool) : List Value := [.bool b]
theorem eb_len (b : Bool) : (eb b).length = 1 := rfl
theorem eb_one (b : Bool) : (eb b).all oneC = true := rfl

/-- The state of the second loop after k rounds. -/
def SI (l : List (Int × Int)) (w w4 : World) (q b k : Nat) (v7 v8 v9 : Value) : Prop :=
  ∃ (s : List En) (seen : List Bool) (y : En), s.length + k = l.length ∧ seen.length = l.length ∧ Srt s ∧ (∀ x ∈ s, ∃ i, i < l.length ∧ x = ie l i ∧ seen[i]? = some false) ∧
    v7 = .int .i64 y.key ∧ v8 = .int .i64 y.tie ∧ v9 = .int .i64 y.item ∧ (0 < k → y.num = y.item ∧ ∀ x ∈ s, bef y x = true) ∧
    New w (Star (OwnA (.slice (some ⟨b, 0, none⟩) l.length l.length) 4 1 eb seen) (Star (QS q s l.length) Emp)) w4
theorem law_sorts (sv : Value) (l : List (Int × Int)) (w : World) (hs : Vw w sv pe l) (hlm : l.length ≤ 4611686018427387904) :
    Calls Try.prog 4 [sv].toArray w fun e w' => ∃ v, e = .returned v ∧ v = .bool true ∧ Kp [] w w' := by
  refine enter Try.func4 mixed low4 (Nat.le_of_ble_eq_true rfl) ?_
  simp only [L4]
  simp [hs.len]
  refine gd_splitf (fun hlen => ?_) (fun hlen => ?_)
  · simp at hlen
    simp
    refine cl_of (awake_spec w) ?_
    rintro v w1 ⟨rfl, k1⟩
    have : ¬ (200 : Int) < l.length := by omega
    simp [this]
    refine cl_of (st_new Lcl.emp (New.emp k1)) ?_
    rintro v w2 ⟨q, rfl, h2⟩
    simp [hs.len]
    refine range_loop (n := l.length) (by omega) (fun k ρ w3 => ρ 0 = sv ∧ ρ 3 = .pointer (some ⟨q, 0, none⟩) ∧ ρ 24 = sv ∧ New w (Star (QS q (ins l 0 0 [] k) k) Emp) w3) (by simp) (by simp) ⟨by simp, by simp, by simp, h2⟩ (by decide)
      (fun _ _ _ _ h => by simpa using h) (fun _ _ _ _ h => by simpa using h) ?_ ?_
    · rintro k ρ w3 hk hc hlim ⟨g0, g3, g24, hq⟩
      have hs3 := hs.kp0 hq.kp
      simp (disch := omega) [hc, g24, hs3.idx, hs3.cells pe_len (gp_at hk), pe_len]
      refine st_obj alloc_new (by simp [pe]) (pe_one _) ?_
      intro w4 hk4 hs4 ho4
      simp [pe] at ho4
      have hk34 : Kp [] w3 w4 := (((Kp.refl [] w3).alloc _).trans' hk4 (by simp))
      have hln := ins_len l 0 0 [] k
      simp at hln
      simp [cell_blk ho4, g3, hc]
      refine cl_of (st_push Lcl.emp (hq.kp0 (QS.loc.star Lcl.emp) hk34) (by omega) (by omega) _ _ _) ?_
      rintro v w5 ⟨rfl, h5⟩
      simp [hc, hlim, g0, g3, g24]
      simpa [ins] using h5
    · rintro ρ w3 ⟨g0, g3, g24, hq⟩
      have hs3 := hs.kp0 hq.kp
      obtain ⟨S, hS⟩ : ∃ S, S = ins l 0 0 [] l.length := ⟨_, rfl⟩
      have hsl : S.length = l.length := by rw [hS, ins_len]; simp
      have hmem : ∀ x ∈ S, ∃ i, i < l.length ∧ x = ie l i := fun x hx => (ins_mem0 l _ x).1 (hS ▸ hx)
      rw [← hS] at hq
      have hsrt := st_srt hq
      have m1 : (0 : Int) ≤ l.length := by omega
      have m2 : (l.length : Int) ≤ 9223372036854775807 := by omega
      have m3 : (l.length : Int) ≤ 140737488355328 := by omega
      simp (disch := omega) [g0, hs3.len, m1, m2, m3]
      have hnew := New.made (x := false) (enc := eb) (E := 4) (sz := 1) (n := l.length) (z := [.bool false]) (QS.loc.star Lcl.emp) hq rfl eb_len (by unfold maxLen; omega)
      refine range_loop (n := l.length) (by omega) (fun k ρ w4 => ρ 0 = sv ∧ ρ 3 = .pointer (some ⟨q, 0, none⟩) ∧ ρ 6 = .slice (some ⟨w3.heap.size, 0, none⟩) l.length l.length ∧
          SI l w w4 q w3.heap.size k (ρ 7) (ρ 8) (ρ 9)) (by simp) (by simp)
        ⟨by simp [g0], by simp [g3], by simp, S, List.replicate l.length false, ⟨0, 0, -1, 0⟩, by simp [hsl], by simp, hsrt, fun x hx => ?_, by simp, by simp, by simp, fun h => absurd h (by decide), hnew⟩ (by decide)
        (fun _ _ _ _ h => by simpa using h) (fun _ _ _ _ h => by simpa using h) ?_ ?_
      · obtain ⟨i, hi, rfl⟩ := hmem x hx
        exact ⟨i, hi, rfl, by simp [hi]⟩
      · rintro k ρ w4 hk hc hlim ⟨e0, e3, e6, s, seen, y, hsk, hsn, hst, hsm, e7, e8, e9, hy, h4⟩
        cases s with
        | nil => simp at hsk; omega
        | cons x s =>
          simp at hsk
          obtain ⟨i, hi, rfl, hfi⟩ := hsm x (by simp)
          have hp := List.pairwise_cons.1 hst
          simp [hc, e3]
          refine cl_of (st_pop (Lcl.own.star Lcl.emp) h4.rot (by omega)) ?_
          rintro v w5 ⟨rfl, h5⟩
          replace h5 := h5.rot
          have hs5 := hs.kp0 h5.kp
          have c1 : ¬ ((i : Int) < 0) := by omega
          have c2 : ¬ ((l.length : Int) ≤ (i : Int)) := by omega
          have c3 : (i : Int) < l.length := by omega
          have hcel : w5.cell? ⟨w3.heap.size, i, none⟩ = some (.bool false) := by
            have := h5.own.cell eb_len hfi (o := 0) (by omega)
            simpa [eb] using this
          simp (disch := omega) [e0, e6, hs5.len, c1, c2, c3, ie, hcel, hs5.idx, hs5.cells pe_len (gp_at hi), pe_len]
          refine eq43 _ _ _ _ ?_
          simp [hc, e7, e8, e9, e6, c3]
          refine New.store1 (QS.loc.star Lcl.emp) h5 eb_len eb_one (k := i) (by omega) (x := true) rfl ?_
          intro w6 h6
          have hrest : ∀ x ∈ s, ∃ j, j < l.length ∧ x = ie l j ∧ (seen.set i true)[j]? = some false := fun x hx => by
            obtain ⟨j, hj, rfl, hfj⟩ := hsm x (by simp [hx])
            have hne : i ≠ j := by
              rintro rfl
              have := hp.1 _ hx
              rw [bef_irr] at this; cases this
            exact ⟨j, hj, rfl, by rw [List.getElem?_set_ne hne]; exact hfj⟩
          have hfin : New w (Star (OwnA (.slice (some ⟨w3.heap.size, 0, none⟩) l.length l.length) 4 1 eb (seen.set i true)) (Star (QS q s l.length) Emp)) w6 := h6
          have hbx : ∀ z ∈ s, bef (ie l i) z = true := fun z hz => hp.1 z hz
          simp [hc, hlim, e0, e3, e6, e7, e8, e9]
          refine gd_split (fun hk0 => ?_) (fun hk0 => ?_)
          · obtain ⟨hyn, hyb⟩ := hy (by simpa using hk0)
            have hb := hyb _ (List.mem_cons_self)
            rw [bef_iff, hyn] at hb
            simp only [ie] at hb
            rcases hb with hb | ⟨hb1, hb | ⟨hb2, hb⟩⟩
            · have d1 : ¬ (gp l i).1 < y.key := by omega
              have d2 : ((gp l i).1 == y.key) = false := by simp; omega
              simp [hc, hlim, e0, e3, e6, e7, e8, e9, hk0, d1, d2]
              exact ⟨s, seen.set i true, ie l i, by omega, by simpa using hsn, hp.2, hrest, rfl, rfl, rfl, fun _ => ⟨rfl, hbx⟩, hfin⟩
            · have d1 : ¬ (gp l i).1 < y.key := by omega
              have d2 : ((gp l i).1 == y.key) = true := by simp; omega
              have d3 : ¬ (gp l i).2 < y.tie := by omega
              have d4 : ((gp l i).2 == y.tie) = false := by simp; omega
              simp [hc, hlim, e0, e3, e6, e7, e8, e9, hk0, d1, d2, d3, d4]
              exact ⟨s, seen.set i true, ie l i, by omega, by simpa using hsn, hp.2, hrest, rfl, rfl, rfl, fun _ => ⟨rfl, hbx⟩, hfin⟩
            · have d1 : ¬ (gp l i).1 < y.key := by omega
              have d2 : ((gp l i).1 == y.key) = true := by simp; omega
              have d3 : ¬ (gp l i).2 < y.tie := by omega
              have d4 : ((gp l i).2 == y.tie) = true := by simp; omega
              have d5 : ¬ (i : Int) < y.item := by omega
              simp [hc, hlim, e0, e3, e6, e7, e8, e9, hk0, d1, d2, d3, d4, d5]
              exact ⟨s, seen.set i true, ie l i, by omega, by simpa using hsn, hp.2, hrest, rfl, rfl, rfl, fun _ => ⟨rfl, hbx⟩, hfin⟩
          · simp [hc, hlim, e0, e3, e6, e7, e8, e9, hk0]
            exact ⟨s, seen.set i true, ie l i, by omega, by simpa using hsn, hp.2, hrest, rfl, rfl, rfl, fun _ => ⟨rfl, hbx⟩, hfin⟩
      · rintro ρ w4 ⟨e0, e3, e6, s, seen, y, hsk, hsn, hst, hsm, e7, e8, e9, hy, h4⟩
        have : s = [] := by
          cases s with
          | nil => rfl
          | cons x s => simp at hsk
        subst this
        simp [e3]
        refine cl_of (st_len (Lcl.own.star Lcl.emp) h4.rot) ?_
        rintro v w8 ⟨rfl, h8⟩
        simp
        exact h8.kp
  · simp at hlen
    simp [hlen]
    refine cl_of (awake_spec w) ?_
    rintro v w1 ⟨rfl, k1⟩
    simp
    exact k1
end Go.Proofs.Ytgdkcdjdmgnjaaa
