/-
  A part of the proofs of this seat's statements (WalkB); no conditions beyond those each theorem names.
-/
import Derived.Test.YtgdkcdjdmgnjaaaWalkA
set_option maxRecDepth 100000
set_option linter.unusedSimpArgs false
set_option linter.unusedVariables false
namespace Go.Proofs.Ytgdkcdjdmgnjaaa
open Go Go.W Go.Pq
/-- An entry of the document's list. -/
def er (x : En) : List Value := [.int .i64 x.key, .int .i64 x.tie, .int .i64 x.item]
theorem er_len (x : En) : (er x).length = 3 := rfl
theorem er_one (x : En) : (er x).all oneC = true := rfl
def rbef (a b : En) : Bool := decide (a.key < b.key) || (a.key == b.key && decide (a.tie < b.tie))
theorem rbef_not {e x : En} (h : x.num < e.num) : rbef e x = !bef x e := by
  cases hb : bef x e with
  | true =>
    rw [bef_iff] at hb
    simp [rbef]; omega
  | false =>
    have : ¬ (bef x e = true) := by simp [hb]
    rw [bef_iff] at this
    simp [rbef]; omega
theorem rbef_spec (a b : En) (w : World) : Calls Try.prog 22 [.agg (er a).toArray, .agg (er b).toArray].toArray w fun e w' => ∃ v, e = .returned v ∧ v = .bool (rbef a b) ∧ Kp [] w w' := by
  refine enter Try.func22 mixed low22 (Nat.le_of_ble_eq_true rfl) ?_
  have hk : Kp [] w ((w.alloc (.cells (er a).toArray 34)).alloc (.cells (er b).toArray 34)) := ((Kp.refl _ _).alloc _).alloc _
  have ha : ((w.alloc (.cells (er a).toArray 34)).alloc (.cells (er b).toArray 34)).heap[w.heap.size]? = some (.cells (er a).toArray 34 (0,0)) := alloc_blk alloc_new
  have hb : ((w.alloc (.cells (er a).toArray 34)).alloc (.cells (er b).toArray 34)).heap[w.heap.size + 1]? = some (.cells (er b).toArray 34 (0,0)) := by
    have := alloc_new (w := w.alloc (.cells (er a).toArray 34)) (o := .cells (er b).toArray 34)
    simpa using this
  simp only [L22]
  simp only [er] at hk ha hb
  simp [er, cell_blk ha, cell_blk hb]
  refine gd_splitf (fun h1 => ?_) (fun h1 => ?_)
  · simp [cell_blk ha, cell_blk hb, h1]
    refine gd_split (fun h2 => ?_) (fun h2 => ?_)
    · simp [cell_blk ha, cell_blk hb, h1, h2]
      exact ⟨by simp [rbef, h1, h2], hk⟩
    · simp [h1, h2]
      exact ⟨by simp [rbef, h1, h2], hk⟩
  · simp [h1]
    exact ⟨by simp [rbef, h1], hk⟩
theorem insS_at {e : En} {S : List En} (hs : Srt S) {n : Nat} (hn : n ≤ S.length) (h1 : ∀ x ∈ S.drop n, bef x e = false) (h2 : n = 0 ∨ bef (gt S (n - 1)) e = true) : insS e S = S.take n ++ [e] ++ S.drop n := by
  have : insS e (S.take n ++ S.drop n) = S.take n ++ insS e (S.drop n) := insS_app (fun x hx => by
    obtain ⟨i, hi, rfl⟩ := List.getElem_of_mem hx
    simp at hi
    rw [List.getElem_take]
    rcases h2 with h2 | h2
    · omega
    · rw [gt_lt (by omega)] at h2
      rcases Nat.lt_or_ge i (n - 1) with h3 | h3
      · exact bef_trans (List.pairwise_iff_getElem.1 hs i (n - 1) (by omega) (by omega) h3) h2
      · have : i = n - 1 := by omega
        subst this; exact h2)
  rw [List.take_append_drop, insS_first h1] at this
  rw [this]; simp
@[simp ↓] theorem wpAlts_two {P : Program} {ρ : Env} {w : World} {K : Env → World → Prop} {l l' : List LO} {ls : List (List LO)} : wpAlts P ρ w K (l :: l' :: ls) = (wpT P l ρ w K ∧ wpAlts P ρ w K (l' :: ls)) := propext Iff.rfl
theorem rpush_spec (lv : Value) (S : List En) (e : En) (w : World) (hl : Vw w lv er S) (hn : S.length ≤ 65536) (hs : Srt S) (he : ∀ x ∈ S, x.num < e.num) :
    Calls Try.prog 13 [lv, .agg (er e).toArray].toArray w fun en w' => ∃ v, en = .returned v ∧ New w (Star (OwnA v 34 3 er (insS e S)) Emp) w' := by
  refine enter Try.func13 mixed low13 (Nat.le_of_ble_eq_true rfl) ?_
  simp only [L13]
  have ha : (w.alloc (.cells (er e).toArray 34)).heap[w.heap.size]? = some (.cells (er e).toArray 34 (0,0)) := alloc_new
  have hk : New w (Star (ObjA w.heap.size (.cells (er e).toArray 34)) Emp) (w.alloc (.cells (er e).toArray 34)) := (New.emp (Kp.refl _ _)).more Lcl.emp ((Kp.refl _ _).alloc _) ⟨_, ⟨ha, rfl⟩, by simp⟩
  obtain ⟨w1, hw1⟩ : ∃ w1, w1 = w.alloc (.cells (er e).toArray 34) := ⟨_, rfl⟩
  rw [← hw1] at hk
  have hl1 := hl.kp0 hk.kp
  refine seq_cut (fun ρ w2 => ρ 0 = lv ∧ ρ 3 = .pointer (some ⟨w.heap.size, 0, none⟩) ∧ w2 = w1) (by simp [← hw1]) ?_
  rintro ρ w2 ⟨g0, g3, rfl⟩
  refine seq_cut (fun ρ w3 => ρ 0 = lv ∧ ρ 3 = .pointer (some ⟨w.heap.size, 0, none⟩) ∧ ρ 5 = .int .i64 S.length ∧ w3 = w2) (by simp [g0, g3, hl1.len]) ?_
  rintro ρ w3 ⟨g0, g3, g5, rfl⟩
  refine seq_cut (fun ρ w4 => ρ 0 = lv ∧ ρ 3 = .pointer (some ⟨w.heap.size, 0, none⟩) ∧ ∃ n, ρ 5 = .int .i64 (n : Nat) ∧ n ≤ S.length ∧ insS e S = S.take n ++ [e] ++ S.drop n ∧ New w (Star (ObjA w.heap.size (.cells (er e).toArray 34)) Emp) w4) ?_ ?_
  · simp
    refine loop_inv (fun n ρ w2 => ρ 0 = lv ∧ ρ 3 = .pointer (some ⟨w.heap.size, 0, none⟩) ∧ ρ 5 = .int .i64 n ∧ n ≤ S.length ∧ (∀ x ∈ S.drop n, bef x e = false) ∧ New w (Star (ObjA w.heap.size (.cells (er e).toArray 34)) Emp) w2) S.length
      ⟨g0, g3, g5, Nat.le_refl _, by simp, hk⟩ ?_
    rintro n ρ w2 ⟨g0, g3, g5, hnl, hd, hk2⟩
    have hl2 := hl.kp0 hk2.kp
    simp [g5]
    refine gd_split (fun h0 => ?_) (fun h0 => ?_)
    · have h0' : 0 < n := by simpa using h0
      have hn1 : n - 1 < S.length := by omega
      have e1 : ((n : Int) - 1).toNat = n - 1 := by omega
      have hce : cellsAt w2 ⟨w.heap.size, 0, none⟩ 0 3 = some (er e) := by simp [cellsAt, cell_blk hk2.obj, er]
      simp (disch := omega) [g0, g3, g5, h0, hce, wrap_i64, hl2.idx, e1, hl2.cells er_len (gt_at hn1), er_len]
      refine cl_of (rbef_spec _ _ _) ?_
      rintro v w5 ⟨rfl, k5⟩
      have hkd := (hk2.kp0 (Lcl.obj.star Lcl.emp) (Kp.refl _ _).drew).kp0 (Lcl.obj.star Lcl.emp) k5
      have hx : gt S (n - 1) ∈ S := by rw [gt_lt hn1]; exact List.getElem_mem _
      rw [rbef_not (he _ hx)]
      simp [h0]
      refine cd_split (fun h1 => ?_) (fun h1 => ?_)
      · have h1' : bef (gt S (n - 1)) e = false := by simpa using h1
        simp (disch := omega) [g0, g3, g5, wrap_i64]
        refine ⟨n - 1, by omega, by omega, by omega, fun x hx => ?_, hkd⟩
        have hdr : S.drop (n - 1) = S[n - 1] :: S.drop n := by
          have := List.drop_eq_getElem_cons hn1
          rwa [show n - 1 + 1 = n by omega] at this
        rw [hdr] at hx
        rcases List.mem_cons.1 hx with rfl | hx
        · rw [gt_lt hn1] at h1'; exact h1'
        · exact hd x hx
      · have h1' : bef (gt S (n - 1)) e = true := by simpa using h1
        simp [g0, g3, g5]
        exact ⟨n, rfl, hnl, by simpa using insS_at hs hnl hd (.inr h1'), hkd⟩
    · have h0' : n = 0 := by simpa using h0
      simp [h0, g0, g3, g5]
      exact ⟨n, rfl, hnl, by simpa using insS_at hs hnl hd (.inl h0'), hk2.kp0 (Lcl.obj.star Lcl.emp) (Kp.refl _ _).drew⟩
  · rintro ρ w4 ⟨g0, g3, n, g5, hnl, hins, hk4⟩
    have hk5 := hk4.kp0 (Lcl.obj.star Lcl.emp) (Kp.refl _ _).drew
    have hl5 := hl.kp0 hk5.kp
    have hce : cellsAt w4 ⟨w.heap.size, 0, none⟩ 0 3 = some (er e) := by simp [cellsAt, cell_blk hk4.obj, er]
    simp [g0, g3, g5]
    have hml : maxLen = 9223372036854775807 ∨ 1000000 ≤ maxLen := .inr (by unfold maxLen; omega)
    have hmx : 1000000 ≤ maxLen := by unfold maxLen; omega
    have L1 : Lcl (Star (ObjA w.heap.size (.cells (er e).toArray 34)) Emp) := Lcl.obj.star Lcl.emp
    have ht1 : (S.take n).length = n := by simp; omega
    have ht2 : (S.drop n).length = S.length - n := by simp
    have hcell : ∀ {w5 : World} {b : Nat}, w5.heap[b]? = some (.cells (er e).toArray 34) → ∀ (j : Nat) (u : Value), ([e].flatMap er)[j]? = some u → w5.cell? ((⟨b, 0, none⟩ : Addr).add j) = some u := fun hb j u hj => by
      rw [addr_add, Nat.zero_add, cell_blk hb]
      simpa using hj
    refine ⟨?_, ?_, ?_, ?_⟩
    · refine hl.slice_hi er_len sl_26 hnl ?_
      intro v1 hv1 ho1
      simp [hce, er_len, g0, g3, g5]
      refine hl.slice_lo er_len sl_26 hnl ?_
      intro v2 hv2 ho2
      simp [hce, er_len]
      have h0 : New w (Star (OwnA (.slice (some ⟨w4.heap.size, 0, none⟩) 0 0) 34 3 er []) (Star (ObjA w.heap.size (.cells (er e).toArray 34)) Emp)) (w4.drew.alloc (.cells #[] 34)) := New.made (n := 0) (x := e) (z := er e) L1 hk5 rfl er_len (by omega)
      refine h0.appendV L1 (hv1.kp0 h0.kp) er_len er_one sl_26 (by simp; omega) (by simp; omega) ?_
      intro v' w5 h5
      simp [er_len]
      have h6 := h5.kp0 (Lcl.own.star L1) ((Kp.refl [] w5).alloc (.cells (er e).toArray 34))
      refine h6.append (xs := [e]) L1 er_len er_one sl_26 rfl (hcell alloc_new) (by simp; omega) (by simp; omega) ?_
      intro v'' w6 h7
      simp
      refine h7.appendV L1 (hv2.kp0 h7.kp) er_len er_one sl_26 (by simp; omega) (by simp; omega) ?_
      intro v3 w7 h8
      simp
      rw [hins]
      exact h8.imp (by rintro F ⟨Fa, Fb, h1, h2, hd, rfl⟩; exact ⟨Fa, ⟨Fa, [], by simpa using h1, rfl, by simp, by simp⟩, fun x hx => by simp [hx]⟩)
    · refine hl.slice_hi er_len sl_26 hnl ?_
      intro v1 hv1 ho1
      simp [hce, er_len, g0, g3, g5]
      refine hl.slice_lo er_len sl_26 hnl ?_
      intro v2 hv2 ho2
      simp [hce, er_len]
      have h0 : New w (Star (OwnA (.slice (some ⟨w4.heap.size, 0, none⟩) 0 0) 34 3 er []) (Star (ObjA w.heap.size (.cells (er e).toArray 34)) Emp)) (w4.drew.alloc (.cells #[] 34)) := New.made (n := 0) (x := e) (z := er e) L1 hk5 rfl er_len (by omega)
      have h1 := h0.more (A := ObjA (w4.heap.size + 1) (.cells (er e).toArray 34)) (Lcl.own.star L1) ((Kp.refl [] _).alloc (.cells (er e).toArray 34)) ⟨_, ⟨by
        have := alloc_new (w := w4.drew.alloc (.cells #[] 34)) (o := .cells (er e).toArray 34)
        simpa using this, rfl⟩, by simp⟩
      replace h1 := h1.rot
      refine h1.appendV (Lcl.obj.star L1) (hv1.kp0 h1.kp) er_len er_one sl_26 (by simp; omega) (by simp; omega) ?_
      intro v' w5 h5
      simp [er_len]
      refine h5.append (xs := [e]) (Lcl.obj.star L1) er_len er_one sl_26 rfl (hcell h5.rot.obj) (by simp; omega) (by simp; omega) ?_
      intro v'' w6 h7
      simp
      refine h7.appendV (Lcl.obj.star L1) (hv2.kp0 h7.kp) er_len er_one sl_26 (by simp; omega) (by simp; omega) ?_
      intro v3 w7 h8
      simp
      rw [hins]
      exact h8.imp (by rintro F ⟨Fa, Fb, h1, h2, hd, rfl⟩; exact ⟨Fa, ⟨Fa, [], by simpa using h1, rfl, by simp, by simp⟩, fun x hx => by simp [hx]⟩)
    · refine hl.slice_hi er_len sl_26 hnl ?_
      intro v1 hv1 ho1
      simp [hce, er_len, g0, g3, g5]
      refine hl.slice_lo er_len sl_26 hnl ?_
      intro v2 hv2 ho2
      simp [hce, er_len]
      have h0 := hk5.more (A := ObjA w4.heap.size (.cells (er e).toArray 34)) L1 ((Kp.refl [] w4.drew).alloc (.cells (er e).toArray 34)) ⟨_, ⟨alloc_new, rfl⟩, by simp⟩
      have h1 : New w (Star (OwnA (.slice (some ⟨w4.heap.size + 1, 0, none⟩) 0 0) 34 3 er []) (Star (ObjA w4.heap.size (.cells (er e).toArray 34)) (Star (ObjA w.heap.size (.cells (er e).toArray 34)) Emp))) ((w4.drew.alloc (.cells (er e).toArray 34)).alloc (.cells #[] 34)) := by
        have := New.made (n := 0) (x := e) (z := er e) (Lcl.obj.star L1) h0 rfl er_len (by omega) (E := 34)
        simpa using this
      refine h1.appendV (Lcl.obj.star L1) (hv1.kp0 h1.kp) er_len er_one sl_26 (by simp; omega) (by simp; omega) ?_
      intro v' w5 h5
      simp [er_len]
      refine h5.append (xs := [e]) (Lcl.obj.star L1) er_len er_one sl_26 rfl (hcell h5.rot.obj) (by simp; omega) (by simp; omega) ?_
      intro v'' w6 h7
      simp
      refine h7.appendV (Lcl.obj.star L1) (hv2.kp0 h7.kp) er_len er_one sl_26 (by simp; omega) (by simp; omega) ?_
      intro v3 w7 h8
      simp
      rw [hins]
      exact h8.imp (by rintro F ⟨Fa, Fb, h1, h2, hd, rfl⟩; exact ⟨Fa, ⟨Fa, [], by simpa using h1, rfl, by simp, by simp⟩, fun x hx => by simp [hx]⟩)
    · refine hl.slice_hi er_len sl_26 hnl ?_
      intro v1 hv1 ho1
      simp [er_len, g0, g3, g5]
      have h0 : New w (Star (OwnA (.slice (some ⟨w4.heap.size, 0, none⟩) 0 0) 34 3 er []) (Star (ObjA w.heap.size (.cells (er e).toArray 34)) Emp)) (w4.drew.alloc (.cells #[] 34)) := New.made (n := 0) (x := e) (z := er e) L1 hk5 rfl er_len (by omega)
      refine h0.appendV L1 (hv1.kp0 h0.kp) er_len er_one sl_26 (by simp; omega) (by simp; omega) ?_
      intro v' w5 h5
      have hce5 : cellsAt w5 ⟨w.heap.size, 0, none⟩ 0 3 = some (er e) := by simp [cellsAt, cell_blk h5.rot.obj, er]
      simp [er_len, g0, g3, g5, hce5]
      have h6 := h5.kp0 (Lcl.own.star L1) ((Kp.refl [] w5).alloc (.cells (er e).toArray 34))
      refine h6.append (xs := [e]) L1 er_len er_one sl_26 rfl (hcell alloc_new) (by simp; omega) (by simp; omega) ?_
      intro v'' w6 h7
      simp [g0, g5]
      refine hl.slice_lo er_len sl_26 hnl ?_
      intro v2 hv2 ho2
      simp
      refine h7.appendV L1 (hv2.kp0 h7.kp) er_len er_one sl_26 (by simp; omega) (by simp; omega) ?_
      intro v3 w7 h8
      simp
      rw [hins]
      exact h8.imp (by rintro F ⟨Fa, Fb, h1, h2, hd, rfl⟩; exact ⟨Fa, ⟨Fa, [], by simpa using h1, rfl, by simp, by simp⟩, fun x hx => by simp [hx]⟩)
end Go.Proofs.Ytgdkcdjdmgnjaaa
