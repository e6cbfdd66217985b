/-
  A part of the proofs of this seat's statements (Walk7); no conditions beyond those each theorem names.
-/
import Derived.Test.YtgdkcdjdmgnjaaaWalk6
set_option maxRecDepth 100000
set_option linter.unusedSimpArgs false
set_option linter.unusedVariables false
namespace Go.Proofs.Ytgdkcdjdmgnjaaa
open Go Go.W Go.Pq
theorem NQ.srt {w w1 : World} {q : Nat} {s : List En} {nx : Int} (h : NQ w w1 q s nx) : Srt s := by
  obtain ⟨⟨F, ⟨⟨hv, l, _, _, hr⟩, _⟩, _⟩, _⟩ := h
  exact hr.srt
theorem insS_mem {e x : En} {s : List En} : x ∈ insS e s ↔ x = e ∨ x ∈ s := by rw [(insS_perm e s).mem_iff]; simp
/-- The key of the push of number i. -/
def fk (st i : Nat) : Nat := i * (2 * st + 1) % 65536
def fe (st i : Nat) : En := ⟨(fk st i : Nat), 0, (i : Nat), (i : Nat)⟩
theorem fk_pos {st i : Nat} (h0 : 0 < i) (h : i < 65536) : 0 < fk st i := by
  rcases Nat.eq_zero_or_pos (fk st i) with hz | hz
  · exfalso
    have hd : 65536 ∣ i * (2 * st + 1) := Nat.dvd_of_mod_eq_zero hz
    have hc : Nat.Coprime 65536 (2 * st + 1) := by
      have h2 : Nat.Coprime 2 (2 * st + 1) := by
        rw [Nat.coprime_iff_gcd_eq_one, Nat.gcd_rec]
        have : (2 * st + 1) % 2 = 1 := by omega
        rw [this]; rfl
      exact Nat.Coprime.pow_left 16 h2
    have := Nat.le_of_dvd h0 (hc.dvd_of_dvd_mul_right hd)
    omega
  · exact hz
def fill (st : Nat) : Nat → List En
  | 0 => []
  | k + 1 => insS (fe st k) (fill st k)
theorem fill_len (st k : Nat) : (fill st k).length = k := by
  induction k with
  | zero => rfl
  | succ k ih => simp [fill, insS_len, ih]
theorem fill_mem (st k : Nat) (x : En) : x ∈ fill st k ↔ ∃ i, i < k ∧ x = fe st i := by
  induction k with
  | zero => simp [fill]
  | succ k ih =>
    rw [fill, insS_mem, ih]
    constructor
    · rintro (rfl | ⟨i, hi, rfl⟩)
      · exact ⟨k, by omega, rfl⟩
      · exact ⟨i, by omega, rfl⟩
    · rintro ⟨i, hi, rfl⟩
      rcases Nat.lt_or_ge i k with h | h
      · exact .inr ⟨i, h, rfl⟩
      · have : i = k := by omega
        subst this; exact .inl rfl
theorem fill_head (st : Nat) (h : Srt (fill st 65536)) : ∃ s, fill st 65536 = fe st 0 :: s ∧ s.length = 65535 ∧ ∀ y ∈ s, 0 < y.key := by
  have hl := fill_len st 65536
  cases hf : fill st 65536 with
  | nil => rw [hf] at hl; simp at hl
  | cons x s =>
    rw [hf] at h hl
    have hp := List.pairwise_cons.1 h
    have hx : x = fe st 0 := by
      have h0 : fe st 0 ∈ x :: s := by rw [← hf]; exact (fill_mem _ _ _).2 ⟨0, by omega, rfl⟩
      rcases List.mem_cons.1 h0 with h0 | h0
      · exact h0.symm
      · have hb := hp.1 _ h0
        obtain ⟨i, hi, rfl⟩ := (fill_mem st 65536 x).1 (by rw [hf]; simp)
        rw [bef_iff] at hb
        simp [fe, fk] at hb
        omega
    subst hx
    refine ⟨s, rfl, by simpa using hl, fun y hy => ?_⟩
    obtain ⟨i, hi, rfl⟩ := (fill_mem st 65536 y).1 (by rw [hf]; simp [hy])
    have hb := hp.1 _ hy
    have hi0 : 0 < i := by
      rcases Nat.eq_zero_or_pos i with h0 | h0
      · subst h0; rw [bef_irr] at hb; cases hb
      · exact h0
    have := fk_pos (st := st) hi0 hi
    simp [fe]; omega
theorem insS_first {e : En} {s : List En} (h : ∀ x ∈ s, bef x e = false) : insS e s = e :: s := by
  cases s with
  | nil => rfl
  | cons x s => rw [insS, h x (by simp)]; simp
theorem keep_none {key : Int} {s : List En} (h : ∀ x ∈ s, key ≤ x.key) : keep key s = [] := by
  rw [keep, List.filter_eq_nil_iff]
  intro x hx
  have := h x hx
  simp; omega
theorem law_full (st : Nat) (hst : st ≤ 65535) (w : World) : Calls Try.prog 8 [.int .u16 st].toArray w fun e w' => ∃ v, e = .returned v ∧ v = .bool true ∧ Kp [] w w' := by
  refine enter Try.func8 mixed low8 (Nat.le_of_ble_eq_true rfl) ?_
  simp only [L8]
  simp
  refine cl_of (awake_spec w) ?_
  rintro v w1 ⟨rfl, k1⟩
  simp
  refine cl_of (nq_new w w1 k1) ?_
  rintro v w2 ⟨q, rfl, h2⟩
  simp
  refine loop_inv (fun m ρ w3 => ∃ k, m = 65536 - k ∧ k ≤ 65536 ∧ ρ 0 = .int .u16 st ∧ ρ 3 = .pointer (some ⟨q, 0, none⟩) ∧ ρ 12 = .int .i64 (k : Nat) ∧ NQ w w3 q (fill st k) k) 65536
    ⟨0, by omega, by omega, by simp, by simp, by simp, h2⟩ ?_
  rintro m ρ w3 ⟨k, rfl, hk, g0, g3, g12, h3⟩
  simp [g12]
  refine cd_split (fun hlt => ?_) (fun hge => ?_)
  · simp at hlt
    have hmul : k * (2 * st + 1) ≤ 65535 * 131071 := Nat.mul_le_mul (by omega) (by omega)
    have e1 : ((k : Int) * (2 * (st : Int) + 1)) = ((k * (2 * st + 1) : Nat) : Int) := by simp
    have e2 : ((k * (2 * st + 1) : Nat) : Int).tmod 65536 = ((fk st k : Nat) : Int) := by
      rw [fk]; exact (Int.ofNat_tmod _ _).symm
    have e3 : ((k : Int) * (2 * (st : Int) + 1)).tmod 65536 = ((fk st k : Nat) : Int) := by rw [e1]; exact e2
    have e4 : IntKind.i64.wrap ((k : Int) * (2 * (st : Int) + 1)) = (k : Int) * (2 * (st : Int) + 1) := wrap_i64 (by rw [e1]; omega) (by rw [e1]; omega)
    simp (disch := omega) [g0, g3, g12, wrap_i64, e3, e4]
    refine cl_of (nq_push h3 (by rw [fill_len]; omega) (by omega) (fk st k : Nat) 0 k) ?_
    rintro v w4 ⟨rfl, h4⟩
    simp (disch := omega) [g0, g3, g12, wrap_i64]
    exact ⟨65536 - (k + 1), by omega, k + 1, rfl, by omega, rfl, by simpa [fill, fe] using h4⟩
  · simp at hge
    have hk' : k = 65536 := by omega
    subst hk'
    obtain ⟨s, hs, hsl, hpos⟩ := fill_head st h3.srt
    rw [hs] at h3
    obtain ⟨N, hN⟩ : ∃ N, N = (65536 : Nat) := ⟨_, rfl⟩
    simp [g3]
    refine cl_of (nq_full h3 (by simp; omega) _ _ _) ?_
    rintro v w4 ⟨rfl, h4⟩
    simp
    refine cl_of (is_spec 10 10 w4) ?_
    rintro v w5 ⟨rfl, k5⟩
    simp [g3]
    refine cl_of (nq_len (h4.kp0 k5)) ?_
    rintro v w6 ⟨rfl, h6⟩
    simp [hsl, g3]
    refine cl_of (nq_pop h6 (by omega)) ?_
    rintro v w7 ⟨rfl, h7⟩
    simp [fe, fk, g3]
    refine cl_of (nq_push h7 (by omega) (by omega) (-1) 0 7) ?_
    rintro v w8 ⟨rfl, h8⟩
    rw [insS_first (fun x hx => by
      have := hpos x hx
      cases hb : bef x ⟨-1, 0, 7, _⟩ with
      | false => rfl
      | true => rw [bef_iff] at hb; simp at hb; omega)] at h8
    simp [g3]
    refine cl_of (nq_full h8 (by simp; omega) 0 0 0) ?_
    rintro v w9 ⟨rfl, h9⟩
    simp
    refine cl_of (is_spec 10 10 w9) ?_
    rintro v w10 ⟨rfl, k10⟩
    simp [g3]
    refine cl_of (nq_pop (h9.kp0 k10) (by omega)) ?_
    rintro v w11 ⟨rfl, h11⟩
    simp [g3]
    refine cl_of (nq_drop h11 (by omega) 1) ?_
    have hkn : keep 1 s = [] := keep_none (fun x hx => by have := hpos x hx; omega)
    rw [hkn]
    rintro v w12 ⟨rfl, h12⟩
    simp [hsl, g3]
    refine cl_of (nq_len h12) ?_
    rintro v w13 ⟨rfl, h13⟩
    simp
    exact h13.kp
end Go.Proofs.Ytgdkcdjdmgnjaaa
