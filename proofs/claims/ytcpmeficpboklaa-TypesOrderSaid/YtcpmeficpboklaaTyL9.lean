/-
  A part of the proofs of this seat's statements (TyL9); no conditions beyond those each theorem names.
-/
import Derived.Test.YtcpmeficpboklaaTyL2
import Derived.Test.YtcpmeficpboklaaTyN
import Derived.Test.YtcpmeficpboklaaTyP5
set_option maxRecDepth 100000
set_option linter.unusedSimpArgs false
set_option linter.unusedVariables false
namespace Go.Proofs.Ytcpmeficpboklaa
open Go Go.W Go.Ty
set_option maxHeartbeats 4000000 in
/-- The head of a law: large, awake, New; what is left: the hierarchy. -/
theorem law_order (pv : Value) (l : List Pr) (x y z : Nat) (hx : x ≤ 255) (hy : y ≤ 255) (hz : z ≤ 255) (w0 : World) (hl0 : Vw w0 pv ep l) (hn : l.length ≤ 4611686018427387904) (hsz : Sz l) (hm0 : HM w0) :
    Calls Try.prog 11 [pv, .agg #[.int .u8 (x : Nat), .int .u8 (y : Nat), .int .u8 (z : Nat)]].toArray w0 fun e w' => ∃ v, e = .returned v ∧ v = .bool true ∧ Kp [] w0 w' := by
  refine enter Try.func11 mixed low11 (Nat.le_of_ble_eq_true rfl) ?_
  simp only [L11]
  obtain ⟨w, hw⟩ : ∃ w, w = w0.alloc (.cells #[.int .u8 (x : Nat), .int .u8 (y : Nat), .int .u8 (z : Nat)] 54) := ⟨_, rfl⟩
  have kw : Kp [] w0 w := by rw [hw]; exact (Kp.refl _ _).alloc _
  have hl := hl0.kp0 kw
  have hm := hm0.kp kw
  have hat : w.heap[w0.heap.size]? = some (.cells #[.int .u8 (x : Nat), .int .u8 (y : Nat), .int .u8 (z : Nat)] 54 (0, 0)) := by rw [hw]; exact alloc_new
  have hws : w0.heap.size + 1 = w.heap.size := by rw [hw]; simp
  simp [rowOf, hl.c1]
  rw [← hw, hws]
  refine cl_of (large1 pv l w hl hn) ?_
  rintro v w1 ⟨⟨b, rfl⟩, k1⟩
  cases b with
  | true =>
    simp
    refine cl_of (awake_spec w1 (hm.kp k1)) ?_
    rintro v w2 ⟨rfl, k2⟩
    simp
    exact kw.trans0 (k1.trans0 k2)
  | false =>
  simp
  refine cl_of (awake_spec w1 (hm.kp k1)) ?_
  rintro v w2 ⟨rfl, k2⟩
  have k02 := k1.trans0 k2
  simp
  refine cl_of (new_spec pv l w2 (hl.kp0 k02) hn hsz (hm.kp k02)) ?_
  rintro v w3 h
  cases hE : newE l with
  | some q =>
    simp only [NewP, hE] at h
    obtain ⟨rfl, k3⟩ := h
    simp
    exact kw.trans0 (k02.trans0 k3)
  | none =>
  simp only [NewP, hE] at h
  obtain ⟨f, b, rfl, hN⟩ := h
  have hA := acc_of hE
  have hf3 := hN |> FAA.get
  have k03 := k02.trans0 hN.kp
  have h64 := hA.len
  simp
  refine cl_of (fnames_spec f b l w3 hf3 hsz h64) ?_
  rintro nv w4 hnm
  have k04 := k03.trans0 hnm.kp
  have hf4 := hf3.kp0 hnm.kp
  have hv4 := hnm.own.vw
  have hat4 := k04.blk hat (by simp)
  have hxh : ∀ s ∈ nmS l, hasB l s = true := fun s h => nmS_has hA h
  have hxz : ∀ s ∈ nmS l, s.size ≤ maxLen := fun s hs => by
    rcases List.mem_append.1 ((nmS_perm l).mem_iff.1 hs) with h1 | h1
    · obtain ⟨p, hp, rfl⟩ := List.mem_map.1 h1
      exact (hsz p hp).1
    · simp at h1; subst h1; decide
  obtain ⟨xs, hxs⟩ : ∃ xs, xs = nmS l := ⟨_, rfl⟩
  have hxl := nmS_len l
  rw [← hxs] at hv4 hxl hxh hxz
  have hpos : 0 < xs.length := by omega
  have hne : ((xs.length : Int) == 0) = false := by rw [beq_eq_false_iff_ne]; omega
  have hne' : ¬ xs = [] := fun e => by rw [e] at hpos; simp at hpos
  obtain ⟨i1, hi1⟩ : ∃ i, i = x % xs.length := ⟨_, rfl⟩
  obtain ⟨i2, hi2⟩ : ∃ i, i = y % xs.length := ⟨_, rfl⟩
  obtain ⟨i3, hi3⟩ : ∃ i, i = z % xs.length := ⟨_, rfl⟩
  have hm1 : Int.tmod (x : Int) (xs.length : Int) = (i1 : Int) := by rw [hi1]; rfl
  have hm2 : Int.tmod (y : Int) (xs.length : Int) = (i2 : Int) := by rw [hi2]; rfl
  have hm3 : Int.tmod (z : Int) (xs.length : Int) = (i3 : Int) := by rw [hi3]; rfl
  have mx : i1 < xs.length := by rw [hi1]; exact Nat.mod_lt x hpos
  have my : i2 < xs.length := by rw [hi2]; exact Nat.mod_lt y hpos
  have mz : i3 < xs.length := by rw [hi3]; exact Nat.mod_lt z hpos
  have ex : xs[i1]? = some xs[i1] := List.getElem?_eq_getElem mx
  have ey : xs[i2]? = some xs[i2] := List.getElem?_eq_getElem my
  have ez : xs[i3]? = some xs[i3] := List.getElem?_eq_getElem mz
  have ha := hxh _ (List.getElem_mem mx)
  have hb := hxh _ (List.getElem_mem my)
  have hc := hxh _ (List.getElem_mem mz)
  have za := hxz _ (List.getElem_mem mx)
  have zb := hxz _ (List.getElem_mem my)
  have zc := hxz _ (List.getElem_mem mz)
  obtain ⟨a, hae⟩ : ∃ a, a = xs[i1] := ⟨_, rfl⟩
  obtain ⟨b2, hbe⟩ : ∃ b, b = xs[i2] := ⟨_, rfl⟩
  obtain ⟨c, hce⟩ : ∃ c, c = xs[i3] := ⟨_, rfl⟩
  rw [← hae] at ex ha za
  rw [← hbe] at ey hb zb
  rw [← hce] at ez hc zc
  obtain ⟨c1, c2, c3⟩ := comP_spec hA ha hb
  have ccm := comP_comm hA ha hb
  have hmh := (isP_has c1).2
  obtain ⟨m, hme⟩ : ∃ m, m = comP l a b2 := ⟨_, rfl⟩
  rw [← hme] at c1 c2 c3 ccm hmh
  have zm : m.size ≤ maxLen := by
    obtain ⟨k, _, he⟩ := (isP_iff hA ha).1 c1
    rw [← he]; exact up_sz hsz za k
  have zr : rootS.size ≤ maxLen := by decide
  have r1 := isP_refl hA ha
  have r2 := isP_root hA ha
  have hanti : isP l a b2 = true → isP l b2 a = true → a = b2 := fun h1 h2 => isP_anti hA h1 h2
  have htr : isP l a b2 = true → isP l b2 c = true → isP l a c = true := fun h1 h2 => isP_trans hA h1 h2
  have hc3 := c3 c
  have hv4' := hv4.drew
  simp (disch := omega) [hv4.len, hne, hpos]
  simp (disch := omega) [hv4.len, hne, hne', hpos, cell_blk hat4, wrap_i64, hm1, hm2, hm3, hv4'.idx, es_cell hv4' ex, es_cell hv4' ey, es_cell hv4' ez]
  have hk : Kp [] w4 w4.drew := (Kp.refl [] w4).drew
  refine cl_of (common_spec f b l a b2 _ (hf4.kp0 hk) hsz za zb hA) ?_
  rintro v w5 ⟨rfl, k5⟩
  rw [← hme]
  simp
  replace hk := hk.trans0 k5
  refine cl_of (is_specP f b l a a _ (hf4.kp0 hk) hsz za za hA) ?_
  rintro v w6 ⟨rfl, k6⟩
  replace hk := hk.trans0 k6
  simp [r1]
  refine cl_of (is_specP f b l a rootS _ (hf4.kp0 hk) hsz za zr hA) ?_
  rintro v w7 ⟨rfl, k7⟩
  replace hk := hk.trans0 k7
  simp [r2]
  have isS : ∀ (p q : ByteArray) (w' : World), Kp [] w4 w' → p.size ≤ maxLen → q.size ≤ maxLen → Calls Try.prog 23 [.pointer (some ⟨f, 0, none⟩), .string p, .string q].toArray w' fun e w'' => ∃ v, e = .returned v ∧ v = .bool (isP l p q) ∧ Kp [] w4 w'' := fun p q w' k hp hq =>
    Calls.mono (is_specP f b l p q w' (hf4.kp0 k) hsz hp hq hA) (by rintro e w'' ⟨v, rfl, rfl, k'⟩; exact ⟨_, rfl, rfl, k.trans0 k'⟩)
  have kend : ∀ w', Kp [] w4 w' → Kp [] w0 w' := fun w' k => kw.trans0 (k04.trans0 k)
  cases p1 : isP l a b2 <;> cases p2 : isP l b2 a <;> cases p3 : isP l b2 c <;> cases p4 : isP l a c <;> cases p5 : isP l m c
  all_goals try (exfalso; have h9 := htr p1 p3; rw [p4] at h9; cases h9; done)
  all_goals try (exfalso; have h9 := hc3 p4 p3; rw [p5] at h9; cases h9; done)
  all_goals try (have hab : a = b2 := hanti p1 p2; subst hab)
  all_goals
    repeat (first
      | (refine cl_of (isS _ _ _ hk (by assumption) (by assumption)) ?_
         rintro v w8 ⟨rfl, hk⟩
         simp [p1, p2, p3, p4, p5, c1, c2, r1, r2, beq_str])
      | (refine cl_of (common_spec f b l _ a _ (hf4.kp0 hk) hsz (by assumption) za hA) ?_
         rintro v w8 ⟨rfl, k8⟩
         replace hk := hk.trans0 k8
         rw [← ccm]
         simp [beq_str]))
  all_goals exact kend _ hk
end Go.Proofs.Ytcpmeficpboklaa
