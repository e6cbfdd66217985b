/-
  A part of the proofs of this seat's statements (TyWG); no conditions beyond those each theorem names.
-/
import Derived.Test.YtcpmeficpboklaaTyWF
set_option maxRecDepth 100000
set_option linter.unusedSimpArgs false
set_option linter.unusedVariables false
namespace Go.Proofs.Ytcpmeficpboklaa
open Go Go.W Go.Ty
theorem upd {p : Nat → Prop} {k : Nat} (h : ∀ j, j < k → p j) (hk : p k) : ∀ j, j < k + 1 → p j := fun j hj => by
  rcases Nat.lt_or_ge j k with h3 | h3
  · exact h j h3
  · have : j = k := by omega
    subst this; exact hk
theorem num_nil (w : World) : Calls Try.prog 17 [.nilIface].toArray w fun e w' => ∃ v, e = .returned v ∧ v = .int .i64 0 ∧ Kp [] w w' := by
  refine enter Try.func17 mixed low17 (Nat.le_of_ble_eq_true rfl) ?_
  simp only [L17]
  simp
  exact Kp.refl _ _
theorem num_code (w : World) (n : Int) : Calls Try.prog 17 [.iface 57 (.int .i64 n)].toArray w fun e w' => ∃ v, e = .returned v ∧ v = .int .i64 n ∧ Kp [] w w' := by
  refine enter Try.func17 mixed low17 (Nat.le_of_ble_eq_true rfl) ?_
  simp only [L17]
  simp
  exact Kp.refl _ _
theorem texts_spec (u v : Value) (xs ys : List ByteArray) (w : World) (hu : Vw w u es xs) (hv : Vw w v es ys) (hx : xs.length ≤ 4611686018427387904) (hy : ys.length ≤ 4611686018427387904) :
    Calls Try.prog 25 [u, v].toArray w fun e w' => ∃ r, e = .returned r ∧ r = .bool (decide (xs = ys)) ∧ Kp [] w w' := by
  refine enter Try.func25 mixed low25 (Nat.le_of_ble_eq_true rfl) ?_
  simp only [L25]
  by_cases hl : xs.length = ys.length
  case neg =>
    have hl' : ((xs.length : Int) != ys.length) = true := by simp; omega
    have hne : ¬ xs = ys := fun e => hl (by rw [e])
    simp [hu.len, hv.len, hl']
    exact ⟨by simp [hne], Kp.refl _ _⟩
  have hl' : ((xs.length : Int) != ys.length) = false := by simp; omega
  simp [hu.len, hv.len, hl']
  refine range_loop (n := xs.length) (by omega) (fun k ρ w1 => ρ 0 = u ∧ ρ 1 = v ∧ (∀ j, j < k → xs[j]? = ys[j]?) ∧ Kp [] w w1) (by simp) (by simp) ⟨by simp, by simp, by simp, Kp.refl _ _⟩ (by decide)
    (fun _ _ _ _ h => by simpa using h) (fun _ _ _ _ h => by simpa using h) ?_ ?_
  · rintro k ρ w1 hk hc hlim ⟨g0, g1, hall, hkp⟩
    have hu1 := (hu.kp0 hkp).drew
    have hv1 := (hv.kp0 hkp).drew
    have ex : xs[k]? = some xs[k] := List.getElem?_eq_getElem hk
    have hk2 : k < ys.length := by omega
    have ey : ys[k]? = some ys[k] := List.getElem?_eq_getElem hk2
    simp (disch := omega) [g0, g1, hc, hu1.idx, hv1.idx, hu1.cell ex, hv1.cell ey, beq_str]
    by_cases he : xs[k] = ys[k]
    · simp [he, hc, hlim, g0, g1]
      exact ⟨upd hall (by rw [ex, ey, he]), hkp.drew⟩
    · simp [he]
      refine ⟨fun e => ?_, hkp.drew⟩
      have := congrArg (·[k]?) e
      simp only [ex, ey] at this
      exact he (Option.some.inj this)
  · rintro ρ w1 ⟨g0, g1, hall, hkp⟩
    simp
    refine ⟨List.ext_getElem? fun j => ?_, hkp⟩
    rcases Nat.lt_or_ge j xs.length with h | h
    · exact hall j h
    · rw [List.getElem?_eq_none h, List.getElem?_eq_none (by omega)]
theorem large_spec (pv : Value) (vs : List Value) (w : World) (hv : Vw w pv (fun v => [v]) vs) (hn : vs.length ≤ 4611686018427387904) (hs : ∀ v ∈ vs, ∃ l, Vw w v ep l ∧ l.length ≤ 4611686018427387904) :
    Calls Try.prog 13 [pv].toArray w fun e w' => ∃ r, e = .returned r ∧ (∃ b, r = .bool b) ∧ Kp [] w w' := by
  refine enter Try.func13 mixed low13 (Nat.le_of_ble_eq_true rfl) ?_
  simp only [L13]
  simp
  refine for_len (l := vs) (pv := pv) (enc := fun v => [v]) hn is_56 (fun k ρ w1 => (∃ n, ρ 3 = .int .i64 n) ∧ Kp [] w w1) (fun k ρ w1 h => hv.kp0 h.2) (by simp) (by simp) ⟨⟨0, by simp⟩, Kp.refl _ _⟩ (by decide)
    (fun _ _ _ _ h => by simpa using h) (fun _ _ _ _ h => by simpa using h) ?_ ?_
  · rintro k ρ w1 hk hc hp ⟨⟨n, g3⟩, hkp⟩
    have hv1 := hv.kp0 hkp
    have ek : vs[k]? = some vs[k] := List.getElem?_eq_getElem hk
    obtain ⟨l, hl, hln⟩ := hs vs[k] (List.getElem_mem hk)
    obtain ⟨u, hu⟩ : ∃ u, u = vs[k] := ⟨_, rfl⟩
    rw [← hu] at ek hl
    have hl1 := hl.kp0 hkp
    simp (disch := omega) [g3, hc, hp, hv1.idx, hv1.cell ek, hl1.len]
    refine loop_inv (fun m ρ w2 => ∃ j, m = l.length - j ∧ j ≤ l.length ∧ ρ 0 = pv ∧ ρ 4 = .int .i64 (k : Nat) ∧ ρ 5 = .int .i64 (j : Nat) ∧ (∃ n, ρ 3 = .int .i64 n) ∧ Kp [] w w2) l.length
      ⟨0, by omega, by omega, by simp [hp], by simp [hc], by simp, ⟨_, by simp; rfl⟩, hkp⟩ ?_
    rintro m ρ w2 ⟨j, rfl, hj, f0, f4, f5, ⟨n2, f3⟩, hkp2⟩
    have hv2 := hv.kp0 hkp2
    have hl2 := hl.kp0 hkp2
    simp (disch := omega) [f0, f4, f5, f3, hv2.idx, hv2.cell ek, hl2.len]
    refine cd_split (fun hlt => ?_) (fun hge => ?_)
    · have hlt' : j < l.length := by simp at hlt; omega
      have hvd := hv2.drew
      have hld := hl2.drew
      simp (disch := omega) [f0, f4, f5, f3, hvd.idx, hvd.cell ek, hld.idx, hld.fld ep_len (gp_at hlt') (o := 0) rfl, hld.fld ep_len (gp_at hlt') (o := 1) rfl, wrap_i64]
      exact ⟨l.length - (j + 1), by omega, j + 1, rfl, by omega, by omega, hkp2.drew⟩
    · simp [f0, f4, f3]
      exact hkp2
  · rintro ρ w1 hp ⟨⟨n, g3⟩, hkp⟩
    simp [g3]
    exact ⟨by omega, hkp⟩
end Go.Proofs.Ytcpmeficpboklaa
