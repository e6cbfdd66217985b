/-
  A part of the proofs of this seat's statements (WalkD); no conditions beyond those each theorem names.
-/
import Derived.Test.YtgdkcdjdmgnjaaaWalkC
set_option maxRecDepth 100000
set_option linter.unusedSimpArgs false
set_option linter.unusedVariables false
namespace Go.Proofs.Ytgdkcdjdmgnjaaa
open Go Go.W Go.Pq
structure Ac where
  kind : Int
  key : Int
  tie : Int
  item : Int
instance : Inhabited Ac := ⟨⟨0, 0, 0, 0⟩⟩
def ea (a : Ac) : List Value := [.int .u8 a.kind, .int .i64 a.key, .int .i64 a.tie, .int .i64 a.item]
theorem ea_len (a : Ac) : (ea a).length = 4 := rfl
theorem ea_one (a : Ac) : (ea a).all oneC = true := rfl
def ga (l : List Ac) (k : Nat) : Ac := l.getD k default
theorem ga_at {l : List Ac} {k : Nat} (h : k < l.length) : l[k]? = some (ga l k) := by simp [ga, h]
theorem ga_mem {l : List Ac} {k : Nat} (h : k < l.length) : ga l k ∈ l := List.mem_of_getElem? (ga_at h)
/-- A list that is read only, in blocks that lie there. -/
def VwA (v : Value) (S : List En) : Asr := fun w F => Vw w v er S ∧ F = v.own ∧ ∀ x ∈ F, x < w.heap.size
theorem VwA.loc {v : Value} {S : List En} : Lcl (VwA v S) := by
  refine ⟨?_, ?_⟩
  · rintro w F ⟨h, rfl, h2⟩ x hx
    exact h2 x hx
  · rintro w F G w' ⟨h, rfl, h2⟩ hk hd
    exact ⟨h.kp hk hd, rfl, fun x hx => Nat.lt_of_lt_of_le (h2 x hx) hk.size⟩
theorem VwA.vw {v : Value} {S : List En} {B : Asr} {w w1 : World} (h : New w (Star (VwA v S) B) w1) : Vw w1 v er S := by
  obtain ⟨F, h, _⟩ := h.get
  exact h
theorem VwA.of {v : Value} {S : List En} {B : Asr} {w w1 : World} (hB : Lcl B) (h : New w (Star (OwnA v 34 3 er S) B) w1) : New w (Star (VwA v S) B) w1 := by
  refine h.step Lcl.own hB ?_
  rintro F ⟨ho, rfl⟩
  exact ⟨_, ⟨ho.vw, rfl, Lcl.own.lt ⟨ho, rfl⟩⟩, Kp.refl _ _, fun x hx => .inl hx⟩
def PLI (w w4 : World) (q k : Nat) (v4 : Value) : Prop := ∃ S nx, S.length ≤ k ∧ nx ≤ (k : Int) ∧ New w (Star (QS q S nx) (Star (VwA v4 S) Emp)) w4
theorem st_num {B : Asr} {w w1 : World} {q : Nat} {s : List En} {nx : Int} (h : New w (Star (QS q s nx) B) w1) : ∀ x ∈ s, x.num < nx := by
  obtain ⟨F, ⟨⟨hv, l, _, _, hr⟩, _⟩⟩ := h.get
  exact fun x hx => (hr.num x hx).2
theorem st_peek {B : Asr} {w w1 : World} {q : Nat} {x : En} {s : List En} {nx : Int} (hB : Lcl B) (h : New w (Star (QS q (x :: s) nx) B) w1) :
    Calls Try.prog 16 [.pointer (some ⟨q, 0, none⟩)].toArray w1 fun e w' => ∃ v, e = .returned v ∧ v = .tuple #[.int .i64 x.key, .int .i64 x.tie, .int .i64 x.item, .nilIface] ∧ New w (Star (QS q (x :: s) nx) B) w' := by
  obtain ⟨F, hF⟩ := h.get
  refine Calls.mono (pq_peek hF) ?_
  rintro e w' ⟨v, rfl, rfl, hk⟩
  exact ⟨_, rfl, rfl, h.kp0 (QS.loc.star hB) hk⟩
theorem st_peek0 {B : Asr} {w w1 : World} {q : Nat} {nx : Int} (hB : Lcl B) (h : New w (Star (QS q [] nx) B) w1) :
    Calls Try.prog 16 [.pointer (some ⟨q, 0, none⟩)].toArray w1 fun e w' => ∃ v, e = .returned v ∧ v = .tuple #[.int .i64 0, .int .i64 0, .int .i64 0, errV 3] ∧ New w (Star (QS q [] nx) B) w' := by
  obtain ⟨F, hF⟩ := h.get
  refine Calls.mono (pq_peek0 hF) ?_
  rintro e w' ⟨v, rfl, rfl, hk⟩
  exact ⟨_, rfl, rfl, h.kp0 (QS.loc.star hB) hk⟩
theorem st_pop0 {B : Asr} {w w1 : World} {q : Nat} {nx : Int} (hB : Lcl B) (h : New w (Star (QS q [] nx) B) w1) :
    Calls Try.prog 14 [.pointer (some ⟨q, 0, none⟩)].toArray w1 fun e w' => ∃ v, e = .returned v ∧ v = .tuple #[.int .i64 0, .int .i64 0, .int .i64 0, errV 3] ∧ New w (Star (QS q [] nx) B) w' := by
  obtain ⟨F, hF⟩ := h.get
  refine Calls.mono (pq_pop0 hF) ?_
  rintro e w' ⟨v, rfl, rfl, hk⟩
  exact ⟨_, rfl, rfl, h.kp0 (QS.loc.star hB) hk⟩

theorem law_plays (sv : Value) (l : List Ac) (w : World) (hs : Vw w sv ea l) (hok : ∀ a ∈ l, 0 ≤ a.kind ∧ a.kind ≤ 255) (hlm : l.length ≤ 4611686018427387904) :
    Calls Try.prog 3 [sv].toArray w fun e w' => ∃ v, e = .returned v ∧ v = .bool true ∧ Kp [] w w' := by
  refine enter Try.func3 mixed low3 (Nat.le_of_ble_eq_true rfl) ?_
  simp only [L3]
  by_cases hlen : (200 : Int) < l.length
  · simp [hs.len, hlen]
    refine cl_of (awake_spec w) ?_
    rintro v w1 ⟨rfl, k1⟩
    simp
    exact k1
  simp [hs.len, hlen]
  refine cl_of (awake_spec w) ?_
  rintro v w1 ⟨rfl, k1⟩
  simp [hlen]
  refine cl_of (st_new Lcl.emp (New.emp k1)) ?_
  rintro v w2 ⟨q, rfl, h2⟩
  simp [hs.len]
  have LV : ∀ v S, Lcl (Star (VwA v S) Emp) := fun v S => VwA.loc.star Lcl.emp
  refine range_loop (n := l.length) (by omega) (fun k ρ w3 => ρ 3 = .pointer (some ⟨q, 0, none⟩) ∧ ρ 25 = sv ∧ PLI w w3 q k (ρ 4)) (by simp) (by simp)
    ⟨by simp, by simp, [], 0, by simp, by simp, by simpa using (VwA.of (QS.loc.star Lcl.emp) (New.nil (QS.loc.star Lcl.emp) h2)).rot⟩ (by decide)
    (fun _ _ _ _ h => by simpa using h) (fun _ _ _ _ h => by simpa using h) ?_ ?_
  · rintro k ρ w3 hk hc hlim ⟨g3, g25, S, nx, hSk, hnx, hq⟩
    have hs3 := hs.kp0 hq.kp
    obtain ⟨hk0, hk255⟩ := hok _ (ga_mem hk)
    obtain ⟨ac, hac⟩ : ∃ ac, ac = ga l k := ⟨_, rfl⟩
    have hat := ga_at hk
    rw [← hac] at hat hk0 hk255
    obtain ⟨lv, hlv⟩ : ∃ lv, lv = ρ 4 := ⟨_, rfl⟩
    rw [← hlv] at hq
    refine seq_cut (fun ρ w4 => ρ 3 = .pointer (some ⟨q, 0, none⟩) ∧ ρ 25 = sv ∧ ρ 4 = lv ∧ ρ 27 = .int .i64 k ∧ ρ 26 = .int .i64 l.length ∧ ρ 6 = .pointer (some ⟨w3.heap.size, 0, none⟩) ∧
      New w (Star (ObjA w3.heap.size (.cells (ea ac).toArray 28)) (Star (QS q S nx) (Star (VwA lv S) Emp))) w4) ?_ ?_
    · simp (disch := omega) [hc, g25, hs3.idx, hs3.cells ea_len hat, ea_len]
      refine st_obj alloc_new (by simp [ea]) (ea_one _) ?_
      intro w4 hk4 hs4 ho4
      simp [ea] at ho4
      have hk34 : Kp [] w3 w4 := (((Kp.refl [] w3).alloc _).trans' hk4 (by simp))
      simp [g3, g25, hc, hlim, hlv]
      have := hq.more (A := ObjA w3.heap.size (.cells (ea ac).toArray 28)) (QS.loc.star (LV _ _)) hk34 ⟨_, ⟨by simpa [ea] using ho4, rfl⟩, by simp⟩
      simpa [hlv] using this
    rintro ρ w4 ⟨g3, g25, g4, g27, g26, g6, h4⟩
    refine seq_cut (fun ρ w5 => ρ 3 = .pointer (some ⟨q, 0, none⟩) ∧ ρ 25 = sv ∧ ρ 27 = .int .i64 k ∧ ρ 26 = .int .i64 l.length ∧ PLI w w5 q (k + 1) (ρ 4)) ?_ ?_
    · have ho4 := h4.obj
      simp only [ea] at ho4
      have hQ := h4.drop
      have hS200 : S.length < 65536 := by omega
      have hsrt := st_srt hQ
      have hnum := st_num hQ
      obtain ⟨m, hmm⟩ : ∃ m, ac.kind.tmod 5 = m := ⟨_, rfl⟩
      have hm5 : m = 0 ∨ m = 1 ∨ m = 2 ∨ m = 3 ∨ m = 4 := by
        have : ac.kind.tmod 5 = ac.kind % 5 := Int.tmod_eq_emod_of_nonneg hk0
        omega
      rcases hm5 with HM | HM | HM | HM | HM
      · simp [g6, cell_blk ho4, hmm, HM, g3, g4]
        refine cl_of (st_push (Lcl.obj.star (LV _ _)) h4.rot hS200 (by omega) ac.key ac.tie ac.item) ?_
        rintro v w5 ⟨rfl, h5⟩
        have ho5 := h5.rot.obj
        simp only [ea] at ho5
        have h5v := VwA.vw h5.drop.drop
        simp [g4, g6, cell_blk ho5]
        refine cl_of (args := [lv, .agg (er ⟨ac.key, ac.tie, ac.item, nx⟩).toArray]) (rpush_spec lv S ⟨ac.key, ac.tie, ac.item, nx⟩ w5 h5v (by omega) hsrt (fun x hx => hnum x hx)) ?_
        rintro v w6 h6
        simp [g3, g25, g27, g26]
        refine ⟨insS ⟨ac.key, ac.tie, ac.item, nx⟩ S, nx + 1, by rw [insS_len]; omega, by omega, ?_⟩
        obtain ⟨⟨F6, ⟨Fa, Fb, o1, o2, od, rfl⟩, on⟩, ok6⟩ := h6
        have := (h5.rot.drop).more (A := OwnA v 34 3 er (insS ⟨ac.key, ac.tie, ac.item, nx⟩ S)) (QS.loc.star (LV _ _)) ok6 ⟨Fa, o1, fun x hx => on x (by simp [hx])⟩
        have h7 := VwA.of (QS.loc.star (LV _ _)) this
        exact h7.rot.imp (by
          rintro F ⟨F1, F2, a1, ⟨F3, F4, a2, _, d1, rfl⟩, d2, rfl⟩
          exact ⟨_, ⟨F1, _, a1, ⟨F3, [], a2, rfl, by simp, rfl⟩, fun x hx hm => d2 x hx (by simp at hm; simp [hm]), rfl⟩, fun x hx => by simp at hx; rcases hx with h | h <;> simp [h]⟩)
      · simp [g6, cell_blk ho4, hmm, HM, g3, g4]
        refine cl_of (st_push (Lcl.obj.star (LV _ _)) h4.rot hS200 (by omega) ac.key ac.tie ac.item) ?_
        rintro v w5 ⟨rfl, h5⟩
        have ho5 := h5.rot.obj
        simp only [ea] at ho5
        have h5v := VwA.vw h5.drop.drop
        simp [g4, g6, cell_blk ho5]
        refine cl_of (args := [lv, .agg (er ⟨ac.key, ac.tie, ac.item, nx⟩).toArray]) (rpush_spec lv S ⟨ac.key, ac.tie, ac.item, nx⟩ w5 h5v (by omega) hsrt (fun x hx => hnum x hx)) ?_
        rintro v w6 h6
        simp [g3, g25, g27, g26]
        refine ⟨insS ⟨ac.key, ac.tie, ac.item, nx⟩ S, nx + 1, by rw [insS_len]; omega, by omega, ?_⟩
        obtain ⟨⟨F6, ⟨Fa, Fb, o1, o2, od, rfl⟩, on⟩, ok6⟩ := h6
        have := (h5.rot.drop).more (A := OwnA v 34 3 er (insS ⟨ac.key, ac.tie, ac.item, nx⟩ S)) (QS.loc.star (LV _ _)) ok6 ⟨Fa, o1, fun x hx => on x (by simp [hx])⟩
        have h7 := VwA.of (QS.loc.star (LV _ _)) this
        exact h7.rot.imp (by
          rintro F ⟨F1, F2, a1, ⟨F3, F4, a2, _, d1, rfl⟩, d2, rfl⟩
          exact ⟨_, ⟨F1, _, a1, ⟨F3, [], a2, rfl, by simp, rfl⟩, fun x hx hm => d2 x hx (by simp at hm; simp [hm]), rfl⟩, fun x hx => by simp at hx; rcases hx with h | h <;> simp [h]⟩)
      · simp [g6, cell_blk ho4, hmm, HM, g3, g4]
        cases S with
        | nil =>
          refine cl_of (st_pop0 (LV _ _) hQ) ?_
          rintro v w5 ⟨rfl, h5⟩
          simp [g4]
          refine cl_of (first_nil lv w5 (VwA.vw h5.rot)) ?_
          rintro v w6 ⟨rfl, k6⟩
          have h6 := h5.kp0 (QS.loc.star (LV _ _)) k6
          have hv6 := VwA.vw h6.rot
          simp [g4, hv6.len, g3, g25, g27, g26]
          exact ⟨[], nx, by simp, by omega, h6⟩
        | cons x s =>
          simp at hSk
          refine cl_of (st_pop (LV _ _) hQ (by omega)) ?_
          rintro v w5 ⟨rfl, h5⟩
          simp [g4]
          refine cl_of (first_cons lv x s w5 (VwA.vw h5.rot)) ?_
          rintro v w6 ⟨rfl, k6⟩
          have h6 := h5.kp0 (QS.loc.star (LV _ _)) k6
          have hv6 := VwA.vw h6.rot
          have hpos : (0 : Int) < (s.length : Int) + 1 := by omega
          simp [g4, hv6.len, hpos]
          refine hv6.slice_lo (lo := 1) er_len sl_26 (by simp) ?_
          intro v' hv' ho'
          simp [g3, g25, g27, g26]
          refine ⟨s, nx, by omega, by omega, h6.imp ?_⟩
          rintro F ⟨F1, F2, a1, ⟨F3, F4, ⟨a2, rfl, a3⟩, e4, d1, rfl⟩, d2, rfl⟩
          exact ⟨_, ⟨F1, _, a1, ⟨_, F4, ⟨hv', rfl, by rw [ho']; exact a3⟩, e4, by rw [ho']; exact d1, rfl⟩, by rw [ho']; exact d2, rfl⟩, fun x hx => by rw [ho'] at hx; exact hx⟩
      · simp [g6, cell_blk ho4, hmm, HM, g3, g4]
        cases S with
        | nil =>
          refine cl_of (st_peek0 (LV _ _) hQ) ?_
          rintro v w5 ⟨rfl, h5⟩
          simp [g4]
          refine cl_of (first_nil lv w5 (VwA.vw h5.rot)) ?_
          rintro v w6 ⟨rfl, k6⟩
          have h6 := h5.kp0 (QS.loc.star (LV _ _)) k6
          simp [g4, g3, g25, g27, g26]
          exact ⟨[], nx, by simp, by omega, h6⟩
        | cons x s =>
          simp at hSk
          refine cl_of (st_peek (LV _ _) hQ) ?_
          rintro v w5 ⟨rfl, h5⟩
          simp [g4]
          refine cl_of (first_cons lv x s w5 (VwA.vw h5.rot)) ?_
          rintro v w6 ⟨rfl, k6⟩
          have h6 := h5.kp0 (QS.loc.star (LV _ _)) k6
          simp [g4, g3, g25, g27, g26]
          exact ⟨x :: s, nx, by simp; omega, by omega, h6⟩
      · simp [g6, cell_blk ho4, hmm, HM, g3, g4]
        have hkl := keep_le ac.key S
        refine cl_of (rdrop_spec lv S ac.key w4 (VwA.vw h4.drop.drop) (by omega)) ?_
        rintro v w5 h5
        obtain ⟨⟨F6, ⟨Fa, Fb, o1, o2, od, rfl⟩, on⟩, ok5⟩ := h5
        have h6 := h4.more (A := OwnA v 34 3 er (keep ac.key S)) (Lcl.obj.star (QS.loc.star (LV _ _))) ok5 ⟨Fa, o1, fun x hx => on x (by simp [hx])⟩
        have h7 := VwA.of (Lcl.obj.star (QS.loc.star (LV _ _))) h6
        have ho7 := h7.rot.obj
        simp only [ea] at ho7
        simp [g3, g6, cell_blk ho7]
        refine cl_of (st_drop (VwA.loc.star (Lcl.obj.star (LV _ _))) h7.rot3 (by omega) ac.key) ?_
        rintro v2 w6 ⟨rfl, h8⟩
        have hv1 := VwA.vw h8.rot
        have hv2 := VwA.vw h8.drop.drop.drop
        simp (disch := omega) [g4, hv1.len, hv2.len, wrap_i64, g3, g25, g27, g26]
        refine ⟨keep ac.key S, nx, by omega, by omega, h8.imp ?_⟩
        rintro F ⟨F1, F2, a1, ⟨F3, F4, a2, _, d1, rfl⟩, d2, rfl⟩
        exact ⟨_, ⟨F1, _, a1, ⟨F3, [], a2, rfl, by simp, rfl⟩, fun x hx hm => d2 x hx (by simp at hm; simp [hm]), rfl⟩, fun x hx => by simp at hx; rcases hx with h | h <;> simp [h]⟩
    · rintro ρ w5 ⟨g3, g25, g27, g26, S', nx', hS', hnx', h5⟩
      simp [g3]
      refine cl_of (st_len (LV _ _) h5) ?_
      rintro v w6 ⟨rfl, h6⟩
      have h6v : New w (Star (VwA (ρ 4) S') (Star (QS q S' nx') Emp)) w6 := h6.rot
      have hv6 := VwA.vw h6v
      simp [hv6.len, g3, g25, g27, g26]
      exact ⟨S', nx', hS', by simpa using hnx', h6⟩
  · rintro ρ w3 ⟨g3, g25, S, nx, hSk, hnx, hq⟩
    simp
    exact hq.kp
end Go.Proofs.Ytgdkcdjdmgnjaaa
