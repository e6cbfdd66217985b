/-
  A part of the proofs of this seat's statements (TyL7); no conditions beyond those each theorem names.
-/
import Derived.Test.YtcpmeficpboklaaTyL2
import Derived.Test.YtcpmeficpboklaaTyN
import Derived.Test.YtcpmeficpboklaaTyP3
import Derived.Test.YtcpmeficpboklaaTyP4
set_option maxRecDepth 100000
set_option linter.unusedSimpArgs false
set_option linter.unusedVariables false
namespace Go.Proofs.Ytcpmeficpboklaa
open Go Go.W Go.Ty
/-- The head of a law: large, awake, New; what is left: the hierarchy. -/
theorem law_names (pv : Value) (l : List Pr) (w : World) (hl : Vw w pv ep l) (hn : l.length ≤ 4611686018427387904) (hsz : Sz l) (hm : HM w) :
    Calls Try.prog 9 [pv].toArray w fun e w' => ∃ v, e = .returned v ∧ v = .bool true ∧ Kp [] w w' := by
  refine enter Try.func9 mixed low9 (Nat.le_of_ble_eq_true rfl) ?_
  simp only [L9]
  simp [rowOf, hl.c1]
  refine cl_of (large1 pv l w hl hn) ?_
  rintro v w1 ⟨⟨b, rfl⟩, k1⟩
  cases b with
  | true =>
    simp
    refine cl_of (awake_spec w1 (hm.kp k1)) ?_
    rintro v w2 ⟨rfl, k2⟩
    simp
    exact k1.trans0 k2
  | false =>
  simp
  refine cl_of (awake_spec w1 (hm.kp k1)) ?_
  rintro v w2 ⟨rfl, k2⟩
  have k02 := k1.trans0 k2
  simp
  refine cl_of (new_spec pv l w2 (hl.kp0 k02) hn hsz (hm.kp k02)) ?_
  rintro v w3 h
  cases hE : newE l with
  | some q =>
    simp only [NewP, hE] at h
    obtain ⟨rfl, k3⟩ := h
    simp
    exact k02.trans0 k3
  | none =>
  simp only [NewP, hE] at h
  obtain ⟨f, b, rfl, hN⟩ := h
  have hA := acc_of hE
  have hf3 := hN |> FAA.get
  have k03 := k02.trans0 hN.kp
  have h64 := hA.len
  simp
  refine cl_of (fnames_spec f b l w3 hf3 hsz h64) ?_
  rintro nv w4 hnm
  have k04 := k03.trans0 hnm.kp
  have hl4 := hl.kp0 k04
  have hf4 := hf3.kp0 hnm.kp
  have hv4 := hnm.own.vw
  obtain ⟨xs, hxs⟩ : ∃ xs, xs = nmS l := ⟨_, rfl⟩
  have hxl := nmS_len l
  rw [← hxs] at hv4 hxl
  have hxl' : (xs.length : Int) = l.length + 1 := by omega
  simp (disch := omega) [hv4.len, hl4.len, wrap_i64, hxl']
  refine for_len (l := xs) (pv := nv) (enc := es) (by omega) is_34 (fun k ρ w5 => ρ 0 = pv ∧ ρ 3 = .pointer (some ⟨f, 0, none⟩) ∧ Kp [] w4 w5) (fun k ρ w1 h => hv4.kp0 h.2.2) (by simp) (by simp) ⟨by simp, by simp, Kp.refl _ _⟩ (by decide)
    (fun _ _ _ _ h => by simpa using h) (fun _ _ _ _ h => by simpa using h) ?_ ?_
  · rintro i ρ w5 hi hci hpi ⟨g0, g3, kp5⟩
    have ei : xs[i]? = some xs[i] := List.getElem?_eq_getElem hi
    have hmi := List.getElem_mem hi
    obtain ⟨x, hx⟩ : ∃ x, x = xs[i] := ⟨_, rfl⟩
    rw [← hx] at ei hmi
    have hfa := fnB_all (by rw [← hxs]; exact hmi)
    have hxh := nmS_has hA (by rw [← hxs]; exact hmi)
    have hxz : x.size ≤ maxLen := by
      rw [hxs] at hmi
      rcases List.mem_append.1 ((nmS_perm l).mem_iff.1 hmi) with h1 | h1
      · obtain ⟨p, hp, rfl⟩ := List.mem_map.1 h1
        exact (hsz p hp).1
      · simp at h1; subst h1; decide
    have hv5 := hv4.kp0 kp5
    simp (disch := omega) [g0, g3, hci, hpi, hv5.idx, es_cell hv5 ei, beq_root]
    refine for_len (l := l) (pv := pv) (enc := ep) (by omega) is_22 (fun k ρ w6 => ρ 6 = nv ∧ ρ 3 = .pointer (some ⟨f, 0, none⟩) ∧ ρ 7 = .int .i64 i ∧ ρ 8 = .bool (fnB l x k) ∧ Kp [] w4 w6) (fun k ρ w1 h => hl4.kp0 h.2.2.2.2) (by simp) (by simp [g0]) ⟨by simp [hpi], by simp [g3], by simp [hci], by simp [fnB_zero], kp5⟩ (by decide)
      (fun _ _ _ _ h => by simpa using h) (fun _ _ _ _ h => by simpa using h) ?_ ?_
    · rintro j ρ w6 hj hcj hpj ⟨f6, f3, f7, f8, kp6⟩
      have k6 := kp6.drew
      have hv6 := hv4.kp0 k6
      have hl6 := hl4.kp0 k6
      have hsn := fnB_succ (x := x) hj
      cases hfb : fnB l x j with
      | true =>
        rw [hfb] at f8 hsn
        simp [f3, f6, f7, f8, hcj, hpj]
        exact ⟨by rw [hsn]; simp, k6⟩
      | false =>
        rw [hfb] at f8 hsn
        simp (disch := omega) [f3, f6, f7, f8, hcj, hpj, hl6.idx, hl6.fld ep_len (gp_at hj) (o := 0) rfl, hv6.idx, es_cell hv6 ei, beq_str]
        exact ⟨by rw [hsn]; simp, k6⟩
    · rintro ρ w6 hpj ⟨f6, f3, f7, f8, kp6⟩
      have k6 := kp6.drew
      have hv6 := hv4.kp0 k6
      rw [hfa] at f8
      have hcall : ∀ w7, Kp [] w4 w7 → Calls Try.prog 21 [.pointer (some ⟨f, 0, none⟩), .string x].toArray w7 fun e w' => ∃ v, e = .returned v ∧ v = .bool (hasB l x) ∧ Kp [] w7 w' := fun w7 k => has_spec f b l x w7 (hf4.kp0 k) hxz
      by_cases h0 : 0 < i
      · have h0' : (0 : Int) < i := by omega
        obtain ⟨y, hy⟩ : ∃ y, xs[i - 1]? = some y := ⟨_, List.getElem?_eq_getElem (by omega)⟩
        have hlt := nmS_lt hA (i := i - 1) (x := y) (y := x) (by rw [← hxs]; exact hy) (by rw [← hxs, show i - 1 + 1 = i by omega]; exact ei)
        have hi1 : ((i : Int) - 1) = ((i - 1 : Nat) : Int) := by omega
        simp (disch := omega) [f3, f6, f7, f8, h0, h0', wrap_i64]
        rw [hi1]
        simp (disch := omega) [f3, f6, f7, f8, h0, hv6.idx, es_cell hv6 ei, es_cell hv6 hy, hlt]
        refine cl_of (hcall _ k6) ?_
        rintro v w7 ⟨rfl, k7⟩
        simp [hxh, f3, f6, f7, hpj]
        exact k6.trans0 k7
      · have h0' : ¬ (0 : Int) < i := by omega
        simp (disch := omega) [f3, f6, f7, f8, h0, h0', hv6.idx, es_cell hv6 ei]
        refine cl_of (hcall _ k6) ?_
        rintro v w7 ⟨rfl, k7⟩
        simp [hxh, f3, f6, f7, hpj]
        exact k6.trans0 k7
  · rintro ρ w5 hpi ⟨g0, g3, kp5⟩
    simp
    exact k04.trans0 kp5
end Go.Proofs.Ytcpmeficpboklaa
