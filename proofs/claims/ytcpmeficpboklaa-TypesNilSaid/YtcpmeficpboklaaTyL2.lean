/-
  A part of the proofs of this seat's statements (TyL2); no conditions beyond those each theorem names.
-/
import Derived.Test.YtcpmeficpboklaaTyL1
import Derived.Test.YtcpmeficpboklaaLibD
set_option maxRecDepth 100000
set_option linter.unusedSimpArgs false
set_option linter.unusedVariables false
namespace Go.Proofs.Ytcpmeficpboklaa
open Go Go.W Go.Ty
@[simp ↓] theorem wpAlts_two {P : Program} {ρ : Env} {w : World} {K : Env → World → Prop} {l l' : List LO} {ls : List (List LO)} : wpAlts P ρ w K (l :: l' :: ls) = (wpT P l ρ w K ∧ wpAlts P ρ w K (l' :: ls)) := propext Iff.rfl
theorem nmL_sz {l : List Pr} (h : Sz l) (n : Nat) : ∀ s ∈ nmL l n, s.size ≤ maxLen := by
  intro s hs
  rcases List.mem_append.1 hs with h1 | h1
  · have : ∀ s ∈ nm0, s.size ≤ maxLen := by decide
    exact this s h1
  · obtain ⟨p, hp, h2⟩ := List.mem_flatMap.1 h1
    have := h p (List.mem_of_mem_take hp)
    simp at h2
    rcases h2 with rfl | rfl
    · exact this.1
    · exact this.2
theorem es_cell {w : World} {v : Value} {xs : List ByteArray} (h : Vw w v es xs) {k : Nat} {x : ByteArray} (hx : xs[k]? = some x) : w.cell? (v.adr.add k) = some (.string x) := Vw.cell (f := Value.string) h hx
/-- The head of a law: large, awake, New; what is left: the hierarchy. -/
theorem law_common (pv : Value) (l : List Pr) (w : World) (hl : Vw w pv ep l) (hn : l.length ≤ 4611686018427387904) (hsz : Sz l) (hm : HM w) :
    Calls Try.prog 8 [pv].toArray w fun e w' => ∃ v, e = .returned v ∧ v = .bool true ∧ Kp [] w w' := by
  refine enter Try.func8 mixed low8 (Nat.le_of_ble_eq_true rfl) ?_
  simp only [L8]
  simp [rowOf, hl.c1]
  refine cl_of (large1 pv l w hl hn) ?_
  rintro v w1 ⟨⟨b, rfl⟩, k1⟩
  cases b with
  | true =>
    simp
    refine cl_of (awake_spec w1 (hm.kp k1)) ?_
    rintro v w2 ⟨rfl, k2⟩
    simp
    exact k1.trans0 k2
  | false =>
  simp
  refine cl_of (awake_spec w1 (hm.kp k1)) ?_
  rintro v w2 ⟨rfl, k2⟩
  have k02 := k1.trans0 k2
  simp
  refine cl_of (new_spec pv l w2 (hl.kp0 k02) hn hsz (hm.kp k02)) ?_
  rintro v w3 h
  cases hE : newE l with
  | some q =>
    simp only [NewP, hE] at h
    obtain ⟨rfl, k3⟩ := h
    simp
    exact k02.trans0 k3
  | none =>
  simp only [NewP, hE] at h
  obtain ⟨f, b, rfl, hN⟩ := h
  have hA := acc_of hE
  have hf3 := hN |> FAA.get
  have k03 := k02.trans0 hN.kp
  have h64 := hA.len
  simp
  refine cl_of (names_spec pv l w3 (hl.kp0 k03) hn) ?_
  rintro nv w4 hnm
  have k04 := k03.trans0 hnm.kp
  have hl4 := hl.kp0 k04
  have hf4 := hf3.kp0 hnm.kp
  have hv4 := hnm.own.vw
  obtain ⟨xs, hxs⟩ : ∃ xs, xs = nmL l (min l.length 12) := ⟨_, rfl⟩
  have hxl := nmL_len l (min l.length 12) (by omega)
  have hxz := nmL_sz hsz (min l.length 12)
  rw [← hxs] at hv4 hxl hxz
  simp
  refine for_len (l := xs) (pv := nv) (enc := es) (by omega) is_34 (fun k ρ w5 => ρ 0 = pv ∧ ρ 3 = .pointer (some ⟨f, 0, none⟩) ∧ Kp [] w4 w5) (fun k ρ w1 h => hv4.kp0 h.2.2) (by simp) (by simp) ⟨by simp, by simp, Kp.refl _ _⟩ (by decide)
    (fun _ _ _ _ h => by simpa using h) (fun _ _ _ _ h => by simpa using h) ?_ ?_
  · rintro i ρ w5 hi hci hpi ⟨g0, g3, kp5⟩
    have ei : xs[i]? = some xs[i] := List.getElem?_eq_getElem hi
    have hsi := hxz _ (List.getElem_mem hi)
    obtain ⟨a, ha⟩ : ∃ a, a = xs[i] := ⟨_, rfl⟩
    rw [← ha] at ei hsi
    simp
    refine for_len (l := xs) (pv := nv) (enc := es) (by omega) is_34 (fun k ρ w6 => ρ 0 = pv ∧ ρ 3 = .pointer (some ⟨f, 0, none⟩) ∧ ρ 7 = .int .i64 i ∧ Kp [] w4 w6) (fun k ρ w1 h => hv4.kp0 h.2.2.2) (by simp) (by simp [hpi]) ⟨by simp [g0], by simp [g3], by simp [hci], kp5⟩ (by decide)
      (fun _ _ _ _ h => by simpa using h) (fun _ _ _ _ h => by simpa using h) ?_ ?_
    · rintro j ρ w6 hj hcj hpj ⟨f0, f3, f7, kp6⟩
      have ej : xs[j]? = some xs[j] := List.getElem?_eq_getElem hj
      have hsj := hxz _ (List.getElem_mem hj)
      obtain ⟨c, hc⟩ : ∃ c, c = xs[j] := ⟨_, rfl⟩
      rw [← hc] at ej hsj
      have k6 := kp6.drew
      have hv6 := hv4.kp0 k6
      have hl6 := hl4.kp0 k6
      have hf6 := hf4.kp0 k6
      simp (disch := omega) [f0, f3, f7, hcj, hpj, hv6.idx, es_cell hv6 ei, es_cell hv6 ej]
      refine ⟨?_, ?_, ?_, ?_⟩
      all_goals
        refine cl_of (common_spec f b l a c _ hf6 hsz hsi hsj hA) ?_
        rintro v w7 ⟨rfl, k7⟩
        have hv7 := hv6.kp0 k7
        simp (disch := omega) [f0, f3, f7, hcj, hpj, hv7.idx, es_cell hv7 ei, es_cell hv7 ej]
        refine cl_of (rcommon_spec pv l a c w7 (hl6.kp0 k7) hA) ?_
        rintro v w8 ⟨rfl, k8⟩
        simp [beq_str, f0, f3, f7, hcj, hpj]
        exact (k6.trans0 k7).trans0 k8
    · rintro ρ w6 hpj ⟨f0, f3, f7, kp6⟩
      simp [f0, f3, f7, hpj]
      exact kp6
  · rintro ρ w5 hpi ⟨g0, g3, kp5⟩
    simp
    exact k04.trans0 kp5
end Go.Proofs.Ytcpmeficpboklaa
