/-
  A part of the proofs of this seat's statements (Walk8); no conditions beyond those each theorem names.
-/
import Derived.Test.YtgdkcdjdmgnjaaaWalk7
import Derived.Test.YtgdkcdjdmgnjaaaLibA
set_option maxRecDepth 100000
set_option linter.unusedSimpArgs false
set_option linter.unusedVariables false
namespace Go.Proofs.Ytgdkcdjdmgnjaaa
open Go Go.W Go.Pq
/-- A queue, as an assertion. -/
def QS (q : Nat) (s : List En) (nx : Int) : Asr := fun w F => PQ w q F s nx
theorem QS.loc {q : Nat} {s : List En} {nx : Int} : Lcl (QS q s nx) := ⟨fun h => PQ.lt h, fun h hk hd => PQ.kp h hk hd⟩
theorem st_new {B : Asr} (hB : Lcl B) {w w1 : World} (h : New w B w1) : Calls Try.prog 11 [].toArray w1 fun e w' => ∃ v, e = .returned v ∧ ∃ q, v = .pointer (some ⟨q, 0, none⟩) ∧ New w (Star (QS q [] 0) B) w' := by
  refine Calls.mono (pq_new w1) ?_
  rintro e w' ⟨v, rfl, q, F, rfl, hq, hk, hn⟩
  exact ⟨_, rfl, q, rfl, h.more hB hk ⟨F, hq, hn⟩⟩
section
variable {B : Asr} {w w1 : World} {q : Nat} {s : List En} {nx : Int}
theorem st_push (hB : Lcl B) (h : New w (Star (QS q s nx) B) w1) (hl : s.length < 65536) (h1 : nx ≤ 4611686018427387904) (a b c : Int) :
    Calls Try.prog 12 [.pointer (some ⟨q, 0, none⟩), .int .i64 a, .int .i64 b, .int .i64 c].toArray w1 fun e w' => ∃ v, e = .returned v ∧ v = .nilIface ∧ New w (Star (QS q (insS ⟨a, b, c, nx⟩ s) (nx + 1)) B) w' :=
  New.call QS.loc hB h fun F hF => pq_push hF hl h1 a b c
theorem st_pop {x : En} (hB : Lcl B) (h : New w (Star (QS q (x :: s) nx) B) w1) (hl : s.length < 65536) :
    Calls Try.prog 14 [.pointer (some ⟨q, 0, none⟩)].toArray w1 fun e w' => ∃ v, e = .returned v ∧ v = .tuple #[.int .i64 x.key, .int .i64 x.tie, .int .i64 x.item, .nilIface] ∧ New w (Star (QS q s nx) B) w' := by
  refine New.call QS.loc hB h fun F hF => ?_
  refine Calls.mono (pq_pop hF hl) ?_
  rintro e w' ⟨v, rfl, rfl, hq, hk⟩
  exact ⟨_, rfl, rfl, F, hq, hk, fun _ h => .inl h⟩
theorem st_len (hB : Lcl B) (h : New w (Star (QS q s nx) B) w1) :
    Calls Try.prog 19 [.pointer (some ⟨q, 0, none⟩)].toArray w1 fun e w' => ∃ v, e = .returned v ∧ v = .int .i64 s.length ∧ New w (Star (QS q s nx) B) w' := by
  refine New.call QS.loc hB h fun F hF => ?_
  refine Calls.mono (pq_len hF) ?_
  rintro e w' ⟨v, rfl, rfl, hk⟩
  exact ⟨_, rfl, rfl, F, PQ.kp0 hF hk, hk.of0, fun _ h => .inl h⟩
theorem st_drop (hB : Lcl B) (h : New w (Star (QS q s nx) B) w1) (hl : s.length ≤ 65536) (key : Int) :
    Calls Try.prog 18 [.pointer (some ⟨q, 0, none⟩), .int .i64 key].toArray w1 fun e w' => ∃ v, e = .returned v ∧ v = .int .i64 ((s.length : Int) - (keep key s).length) ∧ New w (Star (QS q (keep key s) nx) B) w' :=
  New.call QS.loc hB h fun F hF => pq_drop hF hl key
theorem st_srt (h : New w (Star (QS q s nx) B) w1) : Srt s := by
  obtain ⟨F, ⟨⟨hv, l, _, _, hr⟩, _⟩⟩ := h.get
  exact hr.srt
end
theorem keep_prefix (key : Int) : ∀ {s : List En}, Srt s → ∃ r, s = keep key s ++ r
  | [], _ => ⟨[], rfl⟩
  | x :: s, h => by
    have hp := List.pairwise_cons.1 h
    by_cases hx : x.key < key
    · obtain ⟨r, hr⟩ := keep_prefix key (s := s) hp.2
      refine ⟨r, ?_⟩
      have : keep key (x :: s) = x :: keep key s := by simp [keep, hx]
      rw [this]
      simp only [List.cons_append]
      rw [← hr]
    · refine ⟨x :: s, ?_⟩
      have : keep key (x :: s) = [] := keep_none (fun y hy => by
        rcases List.mem_cons.1 hy with rfl | hy
        · omega
        · have := hp.1 y hy
          rw [bef_iff] at this; omega)
      rw [this]; rfl
theorem keep_lt (key : Int) (s : List En) : ∀ x ∈ keep key s, x.key < key := fun x hx => by simpa using (List.mem_filter.1 hx).2
theorem keep_keep (key : Int) (s : List En) : keep key (keep key s) = keep key s := by simp [keep, List.filter_filter]
theorem keep_ins_len (key : Int) (e : En) (s : List En) : (keep key (insS e s)).length = (keep key s).length + if e.key < key then 1 else 0 := by
  have := ((insS_perm e s).filter fun x => decide (x.key < key)).length_eq
  rw [keep, this, List.filter_cons]
  by_cases h : e.key < key <;> simp [h, keep]

theorem law_drops (sv : Value) (l : List (Int × Int)) (key : Int) (w : World) (hs : Vw w sv pe l) (hlm : l.length ≤ 4611686018427387904) :
    Calls Try.prog 6 [sv, .int .i64 key].toArray w fun e w' => ∃ v, e = .returned v ∧ v = .bool true ∧ Kp [] w w' := by
  refine enter Try.func6 mixed low6 (Nat.le_of_ble_eq_true rfl) ?_
  simp only [L6]
  simp [hs.len]
  refine gd_splitf (fun hlen => ?_) (fun hlen => ?_)
  · simp at hlen
    simp
    refine cl_of (awake_spec w) ?_
    rintro v w1 ⟨rfl, k1⟩
    have : ¬ (200 : Int) < l.length := by omega
    simp [this]
    refine cl_of (st_new Lcl.emp (New.emp k1)) ?_
    rintro v w2 ⟨b, rfl, h2⟩
    simp
    refine cl_of (st_new (QS.loc.star Lcl.emp) h2) ?_
    rintro v w2 ⟨a, rfl, h2⟩
    replace h2 := h2.rot
    simp [hs.len]
    refine range_loop (n := l.length) (by omega) (fun k ρ w3 => ρ 0 = sv ∧ ρ 1 = .int .i64 key ∧ ρ 5 = .pointer (some ⟨b, 0, none⟩) ∧ ρ 6 = .pointer (some ⟨a, 0, none⟩) ∧ ρ 7 = .int .i64 (keep key (ins l 0 0 [] k)).length ∧ ρ 28 = sv ∧
        New w (Star (QS b (ins l 0 0 [] k) k) (Star (QS a (ins l 0 0 [] k) k) Emp)) w3) (by simp) (by simp) ⟨by simp, by simp, by simp, by simp, by simp [ins, keep], by simp, h2⟩ (by decide)
      (fun _ _ _ _ h => by simpa using h) (fun _ _ _ _ h => by simpa using h) ?_ ?_
    · rintro k ρ w3 hk hc hlim ⟨g0, g1, g5, g6, g7, g28, hq⟩
      have hs3 := hs.kp0 hq.kp
      simp (disch := omega) [hc, g28, hs3.idx, hs3.cells pe_len (gp_at hk), pe_len]
      refine st_obj alloc_new (by simp [pe]) (pe_one _) ?_
      intro w4 hk4 hs4 ho4
      simp [pe] at ho4
      have hk34 : Kp [] w3 w4 := (((Kp.refl [] w3).alloc _).trans' hk4 (by simp))
      have hq4 := hq.more (A := ObjA w3.heap.size _) (QS.loc.star (QS.loc.star Lcl.emp)) hk34 ⟨_, ⟨ho4, rfl⟩, by simp⟩
      have hln := ins_len l 0 0 [] k
      simp at hln
      simp [cell_blk ho4, g5, hc]
      refine cl_of (st_push (Lcl.obj.star (QS.loc.star Lcl.emp)) hq4.rot (by omega) (by omega) _ _ _) ?_
      rintro v w5 ⟨rfl, h5⟩
      replace h5 := h5.rot
      simp [cell_blk h5.obj, g6]
      refine cl_of (st_push (Lcl.obj.star (QS.loc.star Lcl.emp)) h5.rot3 (by omega) (by omega) _ _ _) ?_
      rintro v w6 ⟨rfl, h6⟩
      replace h6 := h6.rot
      have hkl := keep_ins_len key ⟨(gp l k).1, (gp l k).2, k, k⟩ (ins l 0 0 [] k)
      have hle := keep_le key (ins l 0 0 [] k)
      have hi1 : ins l 0 0 [] (k + 1) = insS ⟨(gp l k).1, (gp l k).2, k, k⟩ (ins l 0 0 [] k) := by simp [ins]
      simp [cell_blk h6.obj, g1]
      refine cd_split (fun hlt => ?_) (fun hge => ?_)
      · have hlt' : (gp l k).1 < key := by simpa using hlt
        rw [if_pos hlt'] at hkl
        simp (disch := omega) [hc, hlim, g0, g1, g5, g6, g7, g28, wrap_i64]
        exact ⟨by rw [hi1, hkl]; simp, by rw [hi1]; exact h6.drop.rot⟩
      · have hge' : ¬ (gp l k).1 < key := by simpa using hge
        rw [if_neg hge'] at hkl
        simp (disch := omega) [hc, hlim, g0, g1, g5, g6, g7, g28, wrap_i64]
        exact ⟨by rw [hi1, hkl]; simp, by rw [hi1]; exact h6.drop.rot⟩
    · rintro ρ w3 ⟨g0, g1, g5, g6, g7, g28, hq⟩
      have hs3 := hs.kp0 hq.kp
      obtain ⟨S, hS⟩ : ∃ S, S = ins l 0 0 [] l.length := ⟨_, rfl⟩
      have hsl : S.length = l.length := by rw [hS, ins_len]; simp
      rw [← hS] at hq g7
      have hkl := keep_le key S
      obtain ⟨r, hr⟩ := keep_prefix key (st_srt hq)
      simp [g1, g5]
      refine cl_of (st_drop (QS.loc.star Lcl.emp) hq (by omega) key) ?_
      rintro v w4 ⟨rfl, h4⟩
      simp (disch := omega) [g0, g7, g5, hs3.len, wrap_i64, hsl]
      refine cl_of (st_len (QS.loc.star Lcl.emp) h4) ?_
      rintro v w5 ⟨rfl, h5⟩
      simp [g1, g5, g7]
      refine cl_of (st_drop (QS.loc.star Lcl.emp) h5 (by omega) key) ?_
      rintro v w6 ⟨rfl, h6⟩
      rw [keep_keep] at h6 ⊢
      simp [g1, g5, g7]
      refine range_loop (n := (keep key S).length) (by omega) (fun k ρ w7 => ρ 1 = .int .i64 key ∧ ρ 5 = .pointer (some ⟨b, 0, none⟩) ∧ ρ 6 = .pointer (some ⟨a, 0, none⟩) ∧ ∃ s, s.length + k = (keep key S).length ∧ (∀ x ∈ s, x.key < key) ∧
        New w (Star (QS b s l.length) (Star (QS a (s ++ r) l.length) Emp)) w7) (by simp) (by simp [g7]) ⟨by simp [g1], by simp [g5], by simp [g6], _, by simp, keep_lt key S, by rw [← hr]; exact h6⟩ (by decide)
        (fun _ _ _ _ h => by simpa using h) (fun _ _ _ _ h => by simpa using h) ?_ ?_
      · rintro k ρ w7 hk hc hlim ⟨e1, e5, e6, s, hsk, hlt, h7⟩
        cases s with
        | nil => simp at hsk; omega
        | cons x s =>
          have hrl : (keep key S).length + r.length = l.length := by rw [← hsl]; conv => rhs; rw [hr]
                                                                     simp
          simp at hsk
          simp [e5]
          refine cl_of (st_pop (QS.loc.star Lcl.emp) h7 (by omega)) ?_
          rintro v w8 ⟨rfl, h8⟩
          simp [e6]
          refine cl_of (st_pop (QS.loc.star Lcl.emp) h8.rot (by simp; omega)) ?_
          rintro v w9 ⟨rfl, h9⟩
          have hx := hlt x (by simp)
          have hx' : ¬ key ≤ x.key := by omega
          simp [e1, e5, e6, hc, hlim, hx']
          exact ⟨s, by omega, fun y hy => hlt y (by simp [hy]), h9.rot⟩
      · rintro ρ w7 ⟨e1, e5, e6, s, hsk, hlt, h7⟩
        have : s = [] := by
          cases s with
          | nil => rfl
          | cons x s => simp at hsk
        subst this
        simp [e5]
        refine cl_of (st_len (QS.loc.star Lcl.emp) h7) ?_
        rintro v w8 ⟨rfl, h8⟩
        simp
        exact h8.kp
  · simp at hlen
    simp [hlen]
    refine cl_of (awake_spec w) ?_
    rintro v w1 ⟨rfl, k1⟩
    simp
    exact k1
end Go.Proofs.Ytgdkcdjdmgnjaaa
