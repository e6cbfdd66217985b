/-
  A part of the proofs of this seat's statements (Walk6); no conditions beyond those each theorem names.
-/
import Derived.Test.YtgdkcdjdmgnjaaaWalk5
import Derived.Test.YtgdkcdjdmgnjaaaLib9
set_option maxRecDepth 100000
set_option linter.unusedSimpArgs false
set_option linter.unusedVariables false
namespace Go.Proofs.Ytgdkcdjdmgnjaaa
open Go Go.W Go.Pq
def pe (p : Int × Int) : List Value := [.int .i64 p.1, .int .i64 p.2]
theorem pe_len (p : Int × Int) : (pe p).length = 2 := rfl
theorem pe_one (p : Int × Int) : (pe p).all oneC = true := rfl
def gp (l : List (Int × Int)) (k : Nat) : Int × Int := l.getD k (0, 0)
theorem gp_at {l : List (Int × Int)} {k : Nat} (h : k < l.length) : l[k]? = some (gp l k) := by simp [gp, h]
/-- What a queue holds after k pushes of a list's pairs. -/
def ins (l : List (Int × Int)) (o n0 : Int) (s : List En) : Nat → List En
  | 0 => s
  | k + 1 => insS ⟨(gp l k).1, (gp l k).2, o + k, n0 + k⟩ (ins l o n0 s k)
theorem insS_len (e : En) (s : List En) : (insS e s).length = s.length + 1 := by simpa using (insS_perm e s).length_eq
theorem ins_len (l : List (Int × Int)) (o n0 : Int) (s : List En) (k : Nat) : (ins l o n0 s k).length = s.length + k := by
  induction k with
  | zero => rfl
  | succ k ih => simp [ins, insS_len, ih]; omega
/-- A queue that is new since w, whose step leaves all else. -/
structure NQ (w w1 : World) (q : Nat) (s : List En) (nx : Int) : Prop where
  ex : ∃ F, PQ w1 q F s nx ∧ ∀ x ∈ F, w.heap.size ≤ x
  kp : Kp [] w w1
theorem NQ.kp0 {w w1 w2 : World} {q : Nat} {s : List En} {nx : Int} (h : NQ w w1 q s nx) (hk : Kp [] w1 w2) : NQ w w2 q s nx := by
  obtain ⟨⟨F, hq, hn⟩, k⟩ := h
  exact ⟨⟨F, hq.kp0 hk, hn⟩, k.trans0 hk⟩
theorem nq_new (w w1 : World) (k : Kp [] w w1) : Calls Try.prog 11 [].toArray w1 fun e w' => ∃ v, e = .returned v ∧ ∃ q, v = .pointer (some ⟨q, 0, none⟩) ∧ NQ w w' q [] 0 := by
  refine Calls.mono (pq_new w1) ?_
  rintro e w' ⟨v, rfl, q, F, rfl, h, hk, hn⟩
  exact ⟨_, rfl, q, rfl, ⟨F, h, fun x hx => Nat.le_trans k.size (hn x hx)⟩, k.trans0 hk⟩
theorem nq_push {w w1 : World} {q : Nat} {s : List En} {nx : Int} (h : NQ w w1 q s nx) (hl : s.length < 65536) (h1 : nx ≤ 4611686018427387904) (a b c : Int) :
    Calls Try.prog 12 [.pointer (some ⟨q, 0, none⟩), .int .i64 a, .int .i64 b, .int .i64 c].toArray w1 fun e w' => ∃ v, e = .returned v ∧ v = .nilIface ∧ NQ w w' q (insS ⟨a, b, c, nx⟩ s) (nx + 1) := by
  obtain ⟨⟨F, hq, hn⟩, k⟩ := h
  refine Calls.mono (pq_push hq hl h1 a b c) ?_
  rintro e w' ⟨v, rfl, rfl, F', hq', hk, hs⟩
  exact ⟨_, rfl, rfl, ⟨F', hq', new_sub hn hs k.size⟩, k.trans' hk (fun x hx => .inr (hn x hx))⟩
theorem nq_pop {w w1 : World} {q : Nat} {x : En} {s : List En} {nx : Int} (h : NQ w w1 q (x :: s) nx) (hl : s.length < 65536) :
    Calls Try.prog 14 [.pointer (some ⟨q, 0, none⟩)].toArray w1 fun e w' => ∃ v, e = .returned v ∧ v = .tuple #[.int .i64 x.key, .int .i64 x.tie, .int .i64 x.item, .nilIface] ∧ NQ w w' q s nx := by
  obtain ⟨⟨F, hq, hn⟩, k⟩ := h
  refine Calls.mono (pq_pop hq hl) ?_
  rintro e w' ⟨v, rfl, rfl, hq', hk⟩
  exact ⟨_, rfl, rfl, ⟨F, hq', hn⟩, k.trans' hk (fun x hx => .inr (hn x hx))⟩
theorem nq_len {w w1 : World} {q : Nat} {s : List En} {nx : Int} (h : NQ w w1 q s nx) :
    Calls Try.prog 19 [.pointer (some ⟨q, 0, none⟩)].toArray w1 fun e w' => ∃ v, e = .returned v ∧ v = .int .i64 s.length ∧ NQ w w' q s nx := by
  have h0 := h
  obtain ⟨⟨F, hq, hn⟩, k⟩ := h
  refine Calls.mono (pq_len hq) ?_
  rintro e w' ⟨v, rfl, rfl, hk⟩
  exact ⟨_, rfl, rfl, h0.kp0 hk⟩
theorem nq_peek {w w1 : World} {q : Nat} {x : En} {s : List En} {nx : Int} (h : NQ w w1 q (x :: s) nx) :
    Calls Try.prog 16 [.pointer (some ⟨q, 0, none⟩)].toArray w1 fun e w' => ∃ v, e = .returned v ∧ v = .tuple #[.int .i64 x.key, .int .i64 x.tie, .int .i64 x.item, .nilIface] ∧ NQ w w' q (x :: s) nx := by
  have h0 := h
  obtain ⟨⟨F, hq, hn⟩, k⟩ := h
  refine Calls.mono (pq_peek hq) ?_
  rintro e w' ⟨v, rfl, rfl, hk⟩
  exact ⟨_, rfl, rfl, h0.kp0 hk⟩
theorem nq_peek0 {w w1 : World} {q : Nat} {nx : Int} (h : NQ w w1 q [] nx) :
    Calls Try.prog 16 [.pointer (some ⟨q, 0, none⟩)].toArray w1 fun e w' => ∃ v, e = .returned v ∧ v = .tuple #[.int .i64 0, .int .i64 0, .int .i64 0, errV 3] ∧ NQ w w' q [] nx := by
  have h0 := h
  obtain ⟨⟨F, hq, hn⟩, k⟩ := h
  refine Calls.mono (pq_peek0 hq) ?_
  rintro e w' ⟨v, rfl, rfl, hk⟩
  exact ⟨_, rfl, rfl, h0.kp0 hk⟩
theorem nq_pop0 {w w1 : World} {q : Nat} {nx : Int} (h : NQ w w1 q [] nx) :
    Calls Try.prog 14 [.pointer (some ⟨q, 0, none⟩)].toArray w1 fun e w' => ∃ v, e = .returned v ∧ v = .tuple #[.int .i64 0, .int .i64 0, .int .i64 0, errV 3] ∧ NQ w w' q [] nx := by
  have h0 := h
  obtain ⟨⟨F, hq, hn⟩, k⟩ := h
  refine Calls.mono (pq_pop0 hq) ?_
  rintro e w' ⟨v, rfl, rfl, hk⟩
  exact ⟨_, rfl, rfl, h0.kp0 hk⟩
theorem nq_full {w w1 : World} {q : Nat} {s : List En} {nx : Int} (h : NQ w w1 q s nx) (hl : 65536 ≤ s.length) (a b c : Int) :
    Calls Try.prog 12 [.pointer (some ⟨q, 0, none⟩), .int .i64 a, .int .i64 b, .int .i64 c].toArray w1 fun e w' => ∃ v, e = .returned v ∧ v = errV 10 ∧ NQ w w' q s nx := by
  have h0 := h
  obtain ⟨⟨F, hq, hn⟩, k⟩ := h
  refine Calls.mono (pq_full hq hl a b c) ?_
  rintro e w' ⟨v, rfl, rfl, hk⟩
  exact ⟨_, rfl, rfl, h0.kp0 hk⟩
theorem nq_drop {w w1 : World} {q : Nat} {s : List En} {nx : Int} (h : NQ w w1 q s nx) (hl : s.length ≤ 65536) (key : Int) :
    Calls Try.prog 18 [.pointer (some ⟨q, 0, none⟩), .int .i64 key].toArray w1 fun e w' => ∃ v, e = .returned v ∧ v = .int .i64 ((s.length : Int) - (keep key s).length) ∧ NQ w w' q (keep key s) nx := by
  obtain ⟨⟨F, hq, hn⟩, k⟩ := h
  refine Calls.mono (pq_drop hq hl key) ?_
  rintro e w' ⟨v, rfl, rfl, F', hq', hk, hs⟩
  exact ⟨_, rfl, rfl, ⟨F', hq', new_sub hn hs k.size⟩, k.trans' hk (fun x hx => .inr (hn x hx))⟩

theorem law_peeks (sv : Value) (l : List (Int × Int)) (w : World) (hs : Vw w sv pe l) (hlm : l.length ≤ 4611686018427387904) :
    Calls Try.prog 7 [sv].toArray w fun e w' => ∃ v, e = .returned v ∧ v = .bool true ∧ Kp [] w w' := by
  refine enter Try.func7 mixed low7 (Nat.le_of_ble_eq_true rfl) ?_
  simp only [L7]
  simp [hs.len]
  refine gd_splitf (fun hlen => ?_) (fun hlen => ?_)
  · simp at hlen
    simp
    refine cl_of (awake_spec w) ?_
    rintro v w1 ⟨rfl, k1⟩
    have : ¬ (200 : Int) < l.length := by omega
    simp [this]
    refine cl_of (nq_new w w1 k1) ?_
    rintro v w2 ⟨q, rfl, h2⟩
    simp [hs.len]
    refine range_loop (n := l.length) (by omega) (fun k ρ w3 => ρ 0 = sv ∧ ρ 3 = .pointer (some ⟨q, 0, none⟩) ∧ ρ 28 = sv ∧ NQ w w3 q (ins l 0 0 [] k) k) (by simp) (by simp) ⟨by simp, by simp, by simp, h2⟩ (by decide)
      (fun _ _ _ _ h => by simpa using h) (fun _ _ _ _ h => by simpa using h) ?_ ?_
    · rintro k ρ w3 hk hc hlim ⟨g0, g3, g28, hq⟩
      have hs3 := hs.kp0 hq.kp
      simp (disch := omega) [hc, g28, hs3.idx, hs3.cells pe_len (gp_at hk), pe_len]
      refine st_obj alloc_new (by simp [pe]) (pe_one _) ?_
      intro w4 hk4 hs4 ho4
      simp [pe] at ho4
      have hk34 : Kp [] w3 w4 := (((Kp.refl [] w3).alloc _).trans' hk4 (by simp))
      simp [cell_blk ho4, g3, hc]
      refine cl_of (nq_push (hq.kp0 hk34) (by rw [ins_len]; simp; omega) (by omega) _ _ _) ?_
      rintro v w5 ⟨rfl, h5⟩
      simp [hc, hlim, g0, g3, g28]
      simpa [ins] using h5
    · rintro ρ w3 ⟨g0, g3, g28, hq⟩
      have hs3 := hs.kp0 hq.kp
      simp [g0, hs3.len]
      refine loop_inv (fun n ρ w4 => ρ 3 = .pointer (some ⟨q, 0, none⟩) ∧ ρ 6 = .int .i64 n ∧ ∃ s, s.length = n ∧ n ≤ 200 ∧ NQ w w4 q s l.length) l.length ⟨by simp [g3], by simp, _, by rw [ins_len]; simp, by omega, hq⟩ ?_
      rintro n ρ w4 ⟨e3, e6, s, hsn, hn, hq4⟩
      simp [e6]
      cases s with
      | nil =>
        have : n = 0 := by simpa using hsn.symm
        subst this
        simp [e3]
        refine cl_of (nq_peek0 hq4) ?_
        rintro v w5 ⟨rfl, h5⟩
        simp
        refine cl_of (is_spec 3 3 w5) ?_
        rintro v w6 ⟨rfl, k6⟩
        simp
        exact h5.kp.trans0 k6
      | cons x s =>
        have hn1 : n = s.length + 1 := by simpa using hsn.symm
        subst hn1
        have e2 : (0 : Int) < (s.length : Int) + 1 := by omega
        simp [e2, e3]
        refine cl_of (nq_peek hq4) ?_
        rintro v w5 ⟨rfl, h5⟩
        simp [e3]
        refine cl_of (nq_peek h5) ?_
        rintro v w6 ⟨rfl, h6⟩
        simp [e3]
        refine cl_of (nq_len h6) ?_
        rintro v w7 ⟨rfl, h7⟩
        simp [e3, e6]
        refine cl_of (nq_pop h7 (by omega)) ?_
        rintro v w8 ⟨rfl, h8⟩
        simp [e3]
        refine cl_of (nq_len h8) ?_
        rintro v w9 ⟨rfl, h9⟩
        simp (disch := omega) [e3, e6, wrap_i64]
        exact ⟨s.length, by omega, rfl, s, rfl, by omega, h9⟩
  · simp at hlen
    simp [hlen]
    refine cl_of (awake_spec w) ?_
    rintro v w1 ⟨rfl, k1⟩
    simp
    exact k1
end Go.Proofs.Ytgdkcdjdmgnjaaa
