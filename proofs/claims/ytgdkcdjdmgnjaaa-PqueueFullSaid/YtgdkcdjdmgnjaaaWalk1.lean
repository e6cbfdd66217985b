/-
  A part of the proofs of this seat's statements (Walk1); no conditions beyond those each theorem names.
-/
import Derived.Test.YtgdkcdjdmgnjaaaLow
import Derived.Test.YtgdkcdjdmgnjaaaPqPlain
set_option maxRecDepth 100000
set_option linter.unusedSimpArgs false
set_option linter.unusedVariables false
namespace Go.Proofs.Ytgdkcdjdmgnjaaa
open Go Go.W Go.Pq
theorem before_spec (a b : En) (w : World) : Calls Try.prog 25 [.agg a.enc.toArray, .agg b.enc.toArray].toArray w fun e w' => ∃ v, e = .returned v ∧ v = .bool (bef a b) ∧ Kp [] w w' := by
  refine enter Try.func25 mixed low25 (Nat.le_of_ble_eq_true rfl) ?_
  have hk : Kp [] w ((w.alloc (.cells a.enc.toArray 58)).alloc (.cells b.enc.toArray 58)) := ((Kp.refl _ _).alloc _).alloc _
  have ha : ((w.alloc (.cells a.enc.toArray 58)).alloc (.cells b.enc.toArray 58)).heap[w.heap.size]? = some (.cells a.enc.toArray 58 (0,0)) := alloc_blk alloc_new
  have hb : ((w.alloc (.cells a.enc.toArray 58)).alloc (.cells b.enc.toArray 58)).heap[w.heap.size + 1]? = some (.cells b.enc.toArray 58 (0,0)) := by
    have := alloc_new (w := w.alloc (.cells a.enc.toArray 58)) (o := .cells b.enc.toArray 58)
    simpa using this
  simp only [L25]
  simp only [En.enc] at hk ha hb
  simp [En.enc, cell_blk ha, cell_blk hb]
  refine cd_split (fun h1 => ?_) (fun h1 => ?_)
  · simp [cell_blk ha, cell_blk hb]
    exact ⟨by simp [bef, h1], hk⟩
  · simp [cell_blk ha, cell_blk hb]
    refine cd_split (fun h2 => ?_) (fun h2 => ?_)
    · simp [cell_blk ha, cell_blk hb]
      exact ⟨by simp [bef, h1, h2], hk⟩
    · simp [cell_blk ha, cell_blk hb]
      exact ⟨by simp [bef, h1, h2], hk⟩

structure QA (w : World) (q : Nat) (hv : Value) (l : List En) (nx : Int) : Prop where
  obj : w.heap[q]? = some (.cells #[hv, .int .i64 nx] 56 (0, 0))
  own : Own w hv 58 4 En.enc l
  ne : q ∉ hv.own
theorem tdiv2 {n : Nat} (h : 0 < n) : ((n : Int) - 1).tdiv 2 = (((n - 1) / 2 : Nat) : Int) := by
  have : (n : Int) - 1 = ((n - 1 : Nat) : Int) := by omega
  rw [this]; exact (Int.ofNat_tdiv _ _).symm ▸ rfl

theorem QA.drew {w : World} {q : Nat} {hv : Value} {l : List En} {nx : Int} (h : QA w q hv l nx) : QA w.drew q hv l nx := ⟨h.obj, h.own, h.ne⟩
theorem QA.kp {w w' : World} {q : Nat} {hv : Value} {l : List En} {nx : Int} {S : List Nat} (h : QA w q hv l nx) (hk : Kp S w w') (h1 : q ∉ S) (h2 : ∀ b ∈ hv.own, b ∉ S) : QA w' q hv l nx := by
  refine ⟨hk.blk h.obj h1, ?_, h.ne⟩
  rcases h.own with h0 | ⟨g, cap, cur, junk, rfl, hh, rest⟩
  · exact .inl h0
  · exact .inr ⟨g, cap, cur, junk, rfl, hk.blk hh (h2 g (by simp)), rest⟩
theorem up_spec (q : Nat) (hv : Value) (l : List En) (nx : Int) (i : Nat) (w : World) (hq : QA w q hv l nx) (hi : i < l.length) (hl : l.length ≤ 100000) :
    Calls Try.prog 21 [.pointer (some ⟨q, 0, none⟩), .int .i64 i].toArray w fun e w' => ∃ v, e = .returned v ∧ v = .tuple #[] ∧ QA w' q hv (upL l i) nx ∧ Kp hv.own w w' := by
  refine enter Try.func21 mixed low21 (Nat.le_of_ble_eq_true rfl) ?_
  simp only [L21]
  simp
  refine loop_inv (fun n ρ w1 => ∃ l1, n < l1.length ∧ l1.length = l.length ∧ ρ 0 = .pointer (some ⟨q, 0, none⟩) ∧ ρ 1 = .int .i64 n ∧ upL l1 n = upL l i ∧ QA w1 q hv l1 nx ∧ Kp hv.own w w1) i
    ⟨l, hi, rfl, by simp, by simp, rfl, hq, Kp.refl _ _⟩ ?_
  rintro n ρ w1 ⟨l1, hn, hll, h0, h1, hu, hq1, hk⟩
  simp [h1]
  refine cd_split (fun h2 => ?_) (fun h2 => ?_)
  · simp at h2
    obtain ⟨p, hpd⟩ : ∃ p, p = (n - 1) / 2 := ⟨_, rfl⟩
    have hp : p < l1.length := by omega
    have hdiv : ((n : Int) - 1).tdiv 2 = (p : Int) := by rw [tdiv2 h2, hpd]
    simp (disch := omega) [h0, h1, wrap_i64, hdiv, cell_blk hq1.obj, hq1.own.idx, hq1.own.cells En.len (gt_at hn), hq1.own.cells En.len (gt_at hp)]
    refine cl_of (before_spec _ _ _) ?_
    rintro v w2 ⟨rfl, hk2⟩
    replace hk2 := hk2.drewl
    simp
    have hq2 : QA w2 q hv l1 nx := hq1.kp hk2 (by simp) (by simp)
    refine cd_split (fun h3 => ?_) (fun h3 => ?_)
    · simp at h3
      simp
      rw [← hu, upL, dif_neg (by omega), ← hpd, h3]
      simpa using ⟨hq2, hk.trans0 hk2⟩
    · simp at h3
      simp (disch := omega) [h0, h1, En.len, cell_blk hq2.obj, hq2.own.idx, hq2.own.cells En.len (gt_at hn), hq2.own.cells En.len (gt_at hp)]
      refine hq2.own.drew.store En.len En.one hn rfl ?_
      intro w3 hk3 hs3 ho3
      have hp3 : p < (l1.set n (gt l1 p)).length := by simpa using hp
      simp (disch := omega) [ho3.idx, En.len]
      refine ho3.store En.len En.one hp3 rfl ?_
      intro w4 hk4 hs4 ho4
      simp
      refine ⟨p, by omega, swp l1 n p, by simpa using hp, by simpa using hll, h0, rfl, ?_, ?_, ?_⟩
      · rw [← hu, upL.eq_def l1 n, dif_neg (by omega), ← hpd, h3]; rfl
      · have he := hq2.own.own_eq hn
        have hne : q ∉ [hv.blk] := he ▸ hq2.ne
        exact ⟨hk4.blk (hk3.blk hq2.drew.obj hne) hne, ho4, hq2.ne⟩
      · have he := hq2.own.own_eq hn
        rw [he] at hk ⊢
        exact ((hk.trans0 hk2).drew.trans hk3).trans hk4
  · simp at h2
    subst h2
    simp
    rw [← hu, upL]
    simpa using ⟨hq1, hk⟩

theorem down_spec (q : Nat) (hv : Value) (l : List En) (nx : Int) (i : Nat) (w : World) (hq : QA w q hv l nx) (hl : l.length ≤ 100000) (hi : i ≤ 100000) :
    Calls Try.prog 23 [.pointer (some ⟨q, 0, none⟩), .int .i64 i].toArray w fun e w' => ∃ v, e = .returned v ∧ v = .tuple #[] ∧ QA w' q hv (downL l i) nx ∧ Kp hv.own w w' := by
  refine enter Try.func23 mixed low23 (Nat.le_of_ble_eq_true rfl) ?_
  simp only [L23]
  simp
  refine loop_inv (fun m ρ w1 => ∃ l1 i1, m = l1.length - i1 ∧ l1.length = l.length ∧ i1 ≤ 100000 ∧ ρ 0 = .pointer (some ⟨q, 0, none⟩) ∧ ρ 1 = .int .i64 (i1 : Nat) ∧ downL l1 i1 = downL l i ∧ QA w1 q hv l1 nx ∧ Kp hv.own w w1) _
    ⟨l, i, rfl, rfl, hi, by simp, by simp, rfl, hq, Kp.refl _ _⟩ ?_
  rintro m ρ w1 ⟨l1, n, hm, hll, hn, h0, h1, hu, hq1, hk⟩
  simp (disch := omega) [h0, h1, wrap_i64, cell_blk hq1.obj, hq1.own.len]
  refine cd_split (fun h2 => ?_) (fun h2 => ?_)
  · simp at h2
    simp
    rw [← hu, downL, dif_pos (by omega)]
    exact ⟨hq1, hk⟩
  · simp at h2
    simp only [run_mk, Bool.false_eq_true, if_false, wpL_skip, thenK_nrm]
    have hk1 : 2 * n + 1 < l1.length := by omega
    obtain ⟨kd, hkd⟩ : ∃ kd, kd = kid l1 n := ⟨_, rfl⟩
    have hkl : kd < l1.length ∧ n < kd := by rw [hkd]; unfold kid; split <;> omega
    refine seq_cut (fun ρ w2 => ρ 0 = .pointer (some ⟨q, 0, none⟩) ∧ ρ 1 = .int .i64 (n : Nat) ∧ ρ 4 = .int .i64 (kd : Nat) ∧ QA w2 q hv l1 nx ∧ Kp hv.own w w2) ?_ ?_
    · simp (disch := omega) [h0, h1, wrap_i64, cell_blk hq1.obj, hq1.own.len]
      refine gd_split (fun h3 => ?_) (fun h3 => ?_)
      · have hk2 : 2 * n + 2 < l1.length := by simp at h3; omega
        have e1 : (2 * (n : Int) + 1).toNat = 2 * n + 1 := by omega
        have e2 : (2 * (n : Int) + 1 + 1).toNat = 2 * n + 2 := by omega
        simp (disch := omega) [h0, wrap_i64, cell_blk hq1.obj, hq1.own.idx, e1, e2, hq1.own.cells En.len (gt_at hk1), hq1.own.cells En.len (gt_at hk2), h3]
        refine cl_of (before_spec _ _ _) ?_
        rintro v w2 ⟨rfl, hk2'⟩
        replace hk2' := hk2'.drewl
        have hq2 : QA w2 q hv l1 nx := hq1.kp hk2' (by simp) (by simp)
        simp [h3]
        refine cd_split (fun h4 => ?_) (fun h4 => ?_)
        · have : kd = 2 * n + 2 := by rw [hkd]; unfold kid; rw [if_pos ⟨hk2, h4⟩]
          simp (disch := omega) [h0, h1, wrap_i64, this]
          exact ⟨by omega, hq2, hk.trans0 hk2'⟩
        · have : kd = 2 * n + 1 := by rw [hkd]; unfold kid; rw [if_neg (by simp [h4])]
          simp (disch := omega) [h0, h1, wrap_i64, this]
          exact ⟨hq2, hk.trans0 hk2'⟩
      · have hk2 : ¬ 2 * n + 2 < l1.length := by simp at h3; omega
        have : kd = 2 * n + 1 := by rw [hkd]; unfold kid; rw [if_neg (fun h => hk2 h.1)]
        simp (disch := omega) [h0, h1, h3, this]
        exact ⟨hq1.drew, hk.drew⟩
    · rintro ρ w2 ⟨g0, g1, g4, hq2, hk2⟩
      simp (disch := omega) [g0, g1, g4, wrap_i64, cell_blk hq2.obj, hq2.own.idx, hq2.own.cells En.len (gt_at hkl.1), hq2.own.cells En.len (gt_at (show n < l1.length by omega))]
      refine cl_of (before_spec _ _ _) ?_
      rintro v w3 ⟨rfl, hk3⟩
      replace hk3 := hk3.drewl
      have hq3 : QA w3 q hv l1 nx := hq2.kp hk3 (by simp) (by simp)
      simp
      have hd : downL l1 n = if bef (gt l1 kd) (gt l1 n) then downL (swp l1 n kd) kd else l1 := by rw [downL.eq_def l1 n, dif_neg (by omega), ← hkd]
      refine cd_split (fun h3 => ?_) (fun h3 => ?_)
      · simp at h3
        simp
        rw [← hu, hd, h3]
        simpa using ⟨hq3, hk2.trans0 hk3⟩
      · simp at h3
        have hn' : n < l1.length := by omega
        simp (disch := omega) [g0, g1, g4, En.len, cell_blk hq3.obj, hq3.own.idx, hq3.own.cells En.len (gt_at hkl.1), hq3.own.cells En.len (gt_at hn')]
        refine hq3.own.drew.store En.len En.one hn' rfl ?_
        intro w4 hk4 hs4 ho4
        have hp4 : kd < (l1.set n (gt l1 kd)).length := by simpa using hkl.1
        simp (disch := omega) [g4, ho4.idx, En.len]
        refine ho4.store En.len En.one hp4 rfl ?_
        intro w5 hk5 hs5 ho5
        simp [g0, g4]
        have he := hq3.own.own_eq hn'
        have hne : q ∉ [hv.blk] := he ▸ hq3.ne
        refine ⟨_, ?_, swp l1 n kd, kd, rfl, by simpa using hll, by omega, rfl, ?_, ⟨hk5.blk (hk4.blk hq3.drew.obj hne) hne, ho5, hq3.ne⟩, ?_⟩
        · simp; omega
        · rw [← hu, hd, h3]; rfl
        · rw [he] at hk2 ⊢
          exact ((hk2.trans0 hk3).drew.trans hk4).trans hk5

theorem new_spec (w : World) : Calls Try.prog 11 [].toArray w fun e w' => ∃ v, e = .returned v ∧ v = .pointer (some ⟨w.heap.size, 0, none⟩) ∧ QA w' w.heap.size (.slice none 0 0) [] 0 ∧ Kp [] w w' := by
  refine enter Try.func11 mixed low11 (Nat.le_of_ble_eq_true rfl) ?_
  simp only [L11]
  simp
  exact ⟨⟨alloc_new, Own.nil _ _ _ _, by simp⟩, (Kp.refl _ _).alloc _⟩

theorem len_spec (q : Nat) (hv : Value) (l : List En) (nx : Int) (w : World) (hq : QA w q hv l nx) :
    Calls Try.prog 19 [.pointer (some ⟨q, 0, none⟩)].toArray w fun e w' => ∃ v, e = .returned v ∧ v = .int .i64 l.length ∧ Kp [] w w' := by
  refine enter Try.func19 mixed low19 (Nat.le_of_ble_eq_true rfl) ?_
  simp only [L19]
  simp (disch := omega) [cell_blk hq.obj, hq.own.len]
  exact Kp.refl _ _
theorem len_nil (w : World) : Calls Try.prog 19 [.pointer none].toArray w fun e w' => ∃ v, e = .returned v ∧ v = .int .i64 0 ∧ Kp [] w w' := by
  refine enter Try.func19 mixed low19 (Nat.le_of_ble_eq_true rfl) ?_
  simp only [L19]
  simp
  exact Kp.refl _ _

theorem push_nil (a b c : Int) (w : World) : Calls Try.prog 12 [.pointer none, .int .i64 a, .int .i64 b, .int .i64 c].toArray w fun e w' => ∃ v, e = .returned v ∧ v = .iface 50 (.int .i64 3) ∧ Kp [] w w' := by
  refine enter Try.func12 mixed low12 (Nat.le_of_ble_eq_true rfl) ?_
  simp only [L12]
  simp
  exact Kp.refl _ _
theorem push_full (q : Nat) (hv : Value) (l : List En) (nx : Int) (a b c : Int) (w : World) (hq : QA w q hv l nx) (hl : 65536 ≤ l.length) :
    Calls Try.prog 12 [.pointer (some ⟨q, 0, none⟩), .int .i64 a, .int .i64 b, .int .i64 c].toArray w fun e w' => ∃ v, e = .returned v ∧ v = .iface 50 (.int .i64 10) ∧ Kp [] w w' := by
  refine enter Try.func12 mixed low12 (Nat.le_of_ble_eq_true rfl) ?_
  simp only [L12]
  simp (disch := omega) [cell_blk hq.obj, hq.own.len]
  refine cd_split (fun h => ?_) (fun h => ?_)
  · simp
    exact Kp.refl _ _
  · simp at h; omega
theorem push_spec (q : Nat) (hv : Value) (l : List En) (nx : Int) (a b c : Int) (w : World) (hq : QA w q hv l nx) (hl : l.length < 65536) (h0 : 0 ≤ nx) (h1 : nx ≤ 4611686018427387904) :
    Calls Try.prog 12 [.pointer (some ⟨q, 0, none⟩), .int .i64 a, .int .i64 b, .int .i64 c].toArray w fun e w' => ∃ v, e = .returned v ∧ v = .nilIface ∧
      ∃ hv', QA w' q hv' (upL (l ++ [⟨a, b, c, nx⟩]) l.length) (nx + 1) ∧ Kp (q :: hv.own) w w' ∧ (∀ x ∈ hv'.own, x ∈ hv.own ∨ w.heap.size ≤ x) := by
  refine enter Try.func12 mixed low12 (Nat.le_of_ble_eq_true rfl) ?_
  simp only [L12]
  simp (disch := omega) [cell_blk hq.obj, hq.own.len]
  refine cd_split (fun h => ?_) (fun h => ?_)
  · simp at h; omega
  · simp
    simp [cell_blk hq.obj]
    have hq1 : QA (w.drew.alloc (.cells (En.mk a b c nx).enc.toArray 58)) q hv l nx := hq.kp (((Kp.refl _ _).drew).alloc _) (by simp) (by simp) (S := [])
    have hnew : (w.drew.alloc (.cells (En.mk a b c nx).enc.toArray 58)).heap[w.heap.size]? = some (.cells (En.mk a b c nx).enc.toArray 58 (0, 0)) := alloc_new (w := w.drew)
    refine hq1.own.append (xs := [⟨a, b, c, nx⟩]) En.len En.one sl_54 rfl (fun j u hj => ?_) (by omega) (by unfold maxLen; omega) ?_
    · rw [addr_add, Nat.zero_add, cell_blk hnew]
      simpa using hj
    intro v' w2 hk2 ho2 hb2
    have hk12 : Kp hv.own w w2 := (((Kp.refl _ _).drew).alloc _).trans hk2
    have hob := hk2.blk hq1.obj hq.ne
    have hqlt : q < w.heap.size := lt_of_blk hq.obj
    have hqne : q ∉ v'.own := fun hm => by
      rcases hb2 q hm with h5 | h5
      · exact hq.ne h5
      · simp at h5; omega
    simp [ho2.c1]
    refine st_obj hob (by simp) (by simp [ho2.o1]) ?_
    intro w3 hk3 hs3 ho3
    have hown3 := ho2.blk_of (fun x hx (hm : x ∈ [q]) => hqne (by simp at hm; exact hm ▸ hx)) hk3
    simp at ho3
    simp (disch := omega) [cell_blk ho3, wrap_i64]
    refine st_obj ho3 (by simp) (by simp) ?_
    intro w4 hk4 hs4 ho4
    simp at ho4
    have hq4 : QA w4 q v' (l ++ [⟨a, b, c, nx⟩]) (nx + 1) := ⟨ho4, hown3.blk_of (fun x hx (hm : x ∈ [q]) => hqne (by simp at hm; exact hm ▸ hx)) hk4, hqne⟩
    have hlen : (l ++ [(⟨a, b, c, nx⟩ : En)]).length = l.length + 1 := by simp
    simp (disch := omega) [cell_blk ho4, hq4.own.len, wrap_i64, hlen]
    refine cl_of (up_spec q v' _ _ l.length w4 hq4 (by simp) (by simp; omega)) ?_
    rintro v w5 ⟨rfl, hq5, hk5⟩
    simp
    refine ⟨v', hq5, ?_, fun x hx => ?_⟩
    · have hA : Kp (q :: hv.own) w w4 := ((hk12.mono (fun x hx => List.mem_cons_of_mem _ hx)).trans (hk3.mono (by simp))).trans (hk4.mono (by simp))
      refine hA.trans' hk5 fun x hx => ?_
      rcases hb2 x hx with h5 | h5
      · exact .inl (List.mem_cons_of_mem _ h5)
      · simp at h5; exact .inr (by omega)
    · rcases hb2 x hx with h5 | h5
      · exact .inl h5
      · simp at h5; exact .inr (by omega)
end Go.Proofs.Ytgdkcdjdmgnjaaa
