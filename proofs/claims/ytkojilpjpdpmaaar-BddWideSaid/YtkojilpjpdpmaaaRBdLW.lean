/-
  A part of the proofs of this seat's statements (BdLW); no conditions beyond those each theorem names.
-/
import Derived.Test.YtkojilpjpdpmaaaRBdWC
import Derived.Test.YtkojilpjpdpmaaaRBdWd
set_option maxRecDepth 100000
set_option linter.unusedSimpArgs false
set_option linter.unusedVariables false
namespace Go.Proofs.YtkojilpjpdpmaaaR
open Go Go.W Go.Bd Go.Maps
def WideI (n k m : Nat) (w1 w' : World) (u f g : Nat) : Prop :=
  ∃ ns, Wf n ns ∧ ns.length ≤ 70 * (n - u) ∧ AllI n ns u f (evn (n - u) u) ∧ OddI n ns (min u k) (k - min u k) g ∧ At w1 [] (Star (MgrA m n 1048576 ns) Emp) w'
set_option maxHeartbeats 4000000 in
theorem law_wide (a b : Nat) (ha : a ≤ 255) (hb : b ≤ 255) (w : World) : Calls Try.prog 4 [.int .u8 (a : Nat), .int .u8 (b : Nat)].toArray w fun e w' => ∃ x, e = .returned x ∧ x = .bool true ∧ Kp [] w w' := by
  refine enter Try.func4 mixed low4 (Nat.le_of_ble_eq_true rfl) ?_
  simp only [L4]
  simp
  refine cl_of (awake_spec w) ?_
  rintro _ w1 ⟨rfl, k1⟩
  obtain ⟨n, hn⟩ : ∃ n, n = a % 200 + 2 := ⟨_, rfl⟩
  obtain ⟨k, hk⟩ : ∃ k, k = b % min n 30 + 1 := ⟨_, rfl⟩
  have e1 : (a : Int).tmod 200 + 2 = (n : Int) := by rw [Int.tmod_eq_emod_of_nonneg (by omega)]; omega
  have e2 : (b : Int).tmod (min (n : Int) 30) + 1 = (k : Int) := by
    rw [Int.tmod_eq_emod_of_nonneg (by omega), hk, show (min (n : Int) 30) = ((min n 30 : Nat) : Int) by omega]
    simp
  have hmin : min n 30 ≠ 0 := by omega
  have hkn : k ≤ min n 30 := by
    have := Nat.mod_lt b (Nat.pos_of_ne_zero hmin)
    omega
  have hn2 : n ≤ 201 := by omega
  have hn3 : 2 ≤ n := by omega
  have hk1 : 1 ≤ k := by omega
  clear hn hk
  simp (disch := omega) [e1, wrap_i64]
  refine gd_mk (by omega) ?_
  simp (disch := omega) [e2, wrap_i64]
  have hE : Lcl Emp := Lcl.emp
  have h0 : At w1 [] Emp w1 := At.start rfl
  refine cl_of (new_spec n 1048576 hE h0 (by omega) (by omega) (by omega)) ?_
  rintro _ w2 ⟨m, rfl, h2⟩
  simp (disch := omega) [wrap_i64]
  refine loop_inv (fun u ρ w' => u ≤ n ∧ ∃ f g : Nat, ρ 5 = .int .i64 n ∧ ρ 6 = .int .i64 k ∧ ρ 7 = .pointer (some ⟨m, 0, none⟩) ∧ ρ 9 = .int .i64 f ∧ ρ 10 = .int .i64 g ∧ ρ 11 = .int .i64 (evn (n - u) u : Nat) ∧ ρ 12 = .int .i64 ((u : Int) - 1) ∧ WideI n k m w1 w' u f g) n
    ⟨Nat.le_refl _, 1, 0, by simp, by simp, by simp, by simp, by simp, by simp [evn], by simp, [], Wf.nil n, by simp, by simpa [evn] using AllI.start, ?_, h2⟩ ?_
  · have : min n k = k := by omega
    rw [this, Nat.sub_self]
    exact OddI.start
  rintro u ρ w3 ⟨hun, f, g, g5, g6, g7, g9, g10, g11, g12, ns, hw, hlen, hA, hO, h3⟩
  have bnd : ∀ ns : Ns, ns.length ≤ 1048576 → Bnd n 1048576 ns := fun ns h => ⟨by omega, by omega, h⟩
  by_cases hu : u = 0
  · subst hu
    simp [g12]
    have hnn : ns.length ≤ 1048576 := by omega
    have b0 := bnd ns hnn
    rw [show min 0 k = 0 by omega, Nat.sub_zero] at hO
    rw [Nat.sub_zero] at hA g11
    have hle := evn_le n 0
    have hcA := num_evs n 0 (F := fun a => eval ns a f) (fun a => by rw [hA.sem a, Nat.zero_add])
    have hcO := num_par n (k - 1) 0 false (F := fun a => eval ns a g) (by omega) (fun a => by rw [hO.sem a, show k - 1 + 1 = k by omega]; simp)
    obtain ⟨LA, a1, a2, a3⟩ := hA.len
    obtain ⟨LO, o1, o2, o3⟩ := hO.len
    have hL : ∀ ns, Lcl (Star (MgrA m n 1048576 ns) Emp) := fun ns => Lcl.mgr.star hE
    obtain ⟨E, hEv⟩ : ∃ E, E = evn n 0 := ⟨_, rfl⟩
    rw [← hEv] at hcA hA g11 hle a3
    simp [g7, g9]
    refine cl_of (size_spec m n 1048576 ns f hE h3 hw b0 hA.ref) ?_
    rintro _ w4 ⟨L1, rfl, q1, q2, h4⟩
    have e1 : L1.length = E := by rw [same_len q1 a1 (fun y => by rw [q2, a2]), a3]
    rw [e1]
    simp [okV, g7, g10]
    refine cl_of (size_spec m n 1048576 ns g hE h4 hw b0 hO.ref) ?_
    rintro _ w5 ⟨L2, rfl, q3, q4, h5⟩
    have e2 : L2.length = 2 * k - 1 := by rw [same_len q3 o1 (fun y => by rw [q4, o2]), o3]
    rw [e2]
    simp [okV, g7, g10]
    refine cl_of (support_spec m n 1048576 ns g hE h5 hw b0 hO.ref) ?_
    rintro _ w6 ⟨v, L, rfl, ⟨s1, s2⟩, h6⟩
    have e3 : L.length = k := asc_len s1 fun x => by
      rw [s2]
      constructor
      · rintro ⟨y, hy, rfl⟩
        have := (hO.var _).1 ⟨y, hy, rfl⟩
        omega
      · intro hx
        obtain ⟨y, hy, e⟩ := (hO.var x.toNat).2 (by omega)
        exact ⟨y, hy, by omega⟩
    have hvw := h6.own.vw
    have h7 := h6.drop
    have e4 : (2 * (k : Int) - 1) = ((2 * k - 1 : Nat) : Int) := by omega
    simp (disch := omega) [g5, g6, g7, g9, g10, g11, hvw.len, wrap_i64, e4, e3]
    refine cl_of (Count_spec m n 1048576 ns f hE h7 hw b0 hA.ref) ?_
    rintro _ w8 ⟨rfl, h8⟩
    rw [hcA]
    have hmany : many = 1099511627777 := rfl
    have big : ∀ j, 40 < j → ¬ 2 ^ j < many := fun j hj h => by
      have : 2 ^ 41 ≤ 2 ^ j := Nat.pow_le_pow_right (by omega) hj
      omega
    have small : ∀ j, ¬ 40 < j → 2 ^ j < many := fun j hj => by
      have : 2 ^ j ≤ 2 ^ 40 := Nat.pow_le_pow_right (by omega) (by omega)
      omega
    have shl : ∀ j : Nat, j ≤ 40 → IntKind.i64.wrap (2 ^ min j IntKind.i64.bits) = (2 : Int) ^ j := fun j hj => by
      have h1 := small j (by omega)
      have hb : IntKind.i64.bits = 64 := rfl
      rw [hb, Nat.min_eq_left (by omega), show (2 : Int) ^ j = ((2 ^ j : Nat) : Int) by simp]
      obtain ⟨p, hp⟩ : ∃ p, p = 2 ^ j := ⟨_, rfl⟩
      rw [← hp] at h1 ⊢
      exact wrap_i64 (by omega) (by omega)
    have cutE : (n : Int) - E = ((n - E : Nat) : Int) := by omega
    by_cases h40 : 40 < n - E
    · have h41 : (40 : Int) < ((n - E : Nat) : Int) := by omega
      have hn1 : 40 < n - 1 ∨ ¬ 40 < n - 1 := by omega
      simp (disch := omega) [cntV, big _ h40, noV, g5, g7, g10, g11, wrap_i64, cutE, h40, h41]
      refine cl_of (is_err 5 5 w8) ?_
      rintro _ w9 ⟨rfl, k9⟩
      have h9 := h8.kp0 (hL ns) k9
      simp (disch := omega) [g5, g7, g10, g11, wrap_i64]
      refine cl_of (Count_spec m n 1048576 ns g hE h9 hw b0 hO.ref) ?_
      rintro _ wa ⟨rfl, hz⟩
      rw [hcO]
      have cutN : (n : Int) - 1 = ((n - 1 : Nat) : Int) := by omega
      by_cases h50 : 40 < n - 1
      · have h51 : (40 : Int) < ((n - 1 : Nat) : Int) := by omega
        simp (disch := omega) [cntV, big _ h50, noV, g5, wrap_i64, cutN, h50, h51]
        refine cl_of (is_err 5 5 wa) ?_
        rintro _ wb ⟨rfl, kb⟩
        simp
        exact (k1.trans0 hz.2).trans0 kb
      · have h51 : ¬ (40 : Int) < ((n - 1 : Nat) : Int) := by omega
        simp (disch := omega) [cntV, small _ h50, okV, g5, wrap_i64, cutN, h50, h51, shl (n - 1) (by omega)]
        exact k1.trans0 hz.2
    · have h41 : ¬ (40 : Int) < ((n - E : Nat) : Int) := by omega
      simp (disch := omega) [cntV, small _ h40, okV, g5, g7, g10, g11, wrap_i64, cutE, h40, h41, shl (n - E) (by omega)]
      have h9 := h8
      refine cl_of (Count_spec m n 1048576 ns g hE h9 hw b0 hO.ref) ?_
      rintro _ wa ⟨rfl, hz⟩
      rw [hcO]
      have cutN : (n : Int) - 1 = ((n - 1 : Nat) : Int) := by omega
      by_cases h50 : 40 < n - 1
      · have h51 : (40 : Int) < ((n - 1 : Nat) : Int) := by omega
        simp (disch := omega) [cntV, big _ h50, noV, g5, wrap_i64, cutN, h50, h51]
        refine cl_of (is_err 5 5 wa) ?_
        rintro _ wb ⟨rfl, kb⟩
        simp
        exact (k1.trans0 hz.2).trans0 kb
      · have h51 : ¬ (40 : Int) < ((n - 1 : Nat) : Int) := by omega
        simp (disch := omega) [cntV, small _ h50, okV, g5, wrap_i64, cutN, h50, h51, shl (n - 1) (by omega)]
        exact k1.trans0 hz.2
  · have hu' : (0 : Int) ≤ (u : Int) - 1 := by omega
    obtain ⟨v, rfl⟩ : ∃ v, u = v + 1 := ⟨u - 1, by omega⟩
    have ev : ((v + 1 : Nat) : Int) - 1 = (v : Int) := by omega
    rw [ev] at g12 hu'
    obtain ⟨x, ns1, hmk, hx1, hxr, hxa, hl1⟩ := wide_var (lim := 1048576) hw (v := v) (by omega) (by omega)
    simp [g12, g7]
    refine cl_of (var_spec m n 1048576 ns v hE h3 (bnd ns (by omega)) (by omega)) ?_
    rintro _ w4 ⟨rfl, h4⟩
    rw [hmk] at h4 ⊢
    simp [optV, okV, g12, g5, g6, g7, g9, g10, g11]
    have hA1 := hA.ext hw hx1
    have hO1 := hO.ext hw hx1
    have hevn : evn (n - v) v = (if v % 2 = 0 then 1 else 0) + evn (n - (v + 1)) (v + 1) := by
      rw [show n - v = (n - (v + 1)) + 1 by omega, evn]
    have hle := evn_le (n - (v + 1)) (v + 1)
    by_cases he : v % 2 = 0
    · have et : ((v : Int).tmod 2 == 0) = true := by rw [Int.tmod_eq_emod_of_nonneg (by omega)]; simp; omega
      rw [if_pos he] at hevn
      have hev : evn (n - v) v = evn (n - (v + 1)) (v + 1) + 1 := by omega
      have cl := and_clo hxr hA1.ref hxa hA1.tvu
      simp (disch := omega) [et, wrap_i64, g12, g5, g6, g7, g9, g10, g11]
      refine cl_of (and_of (R := fun v' w' => BinPost m n 1048576 0 (andS x f) ns1 x f Emp w1 [] v' w') (binary_spec m n 1048576 ns1 0 x f (andS x f) (by omega) hE h4 hx1.wf (bnd ns1 (by omega)) hxr hA1.ref cl.2 cl.1) (by rintro _ _ ⟨r, _, rfl, _⟩; exact optV_tup r)) ?_
      rintro _ w5 ⟨r, ns2, rfl, hbin, h5⟩
      obtain ⟨y, rfl, hA2, hl2⟩ := wide_and hx1.wf (by omega) hxr hxa hA1 he (by omega) hbin
      have hO2 := hO1.ext hx1.wf hbin.ext
      have hx2 := hbin.ext
      have hxr2 := hx2.ref hxr
      have hxa2 : at_ n ns2 x = ⟨v, 0, 1⟩ := by rw [hx2.at hxr]; exact hxa
      simp (disch := omega) [optV, okV, g12, g5, g6, g7, g9, g10, g11]
      -- the parity
      have hw2 := hx2.wf
      by_cases hvk : v < k
      · have hvk' : (v : Int) < k := by omega
        rw [show min (v + 1) k = v + 1 by omega] at hO2
        obtain ⟨d, hd⟩ : ∃ d, k = v + 1 + d := ⟨k - (v + 1), by omega⟩
        rw [show k - (v + 1) = d by omega] at hO2
        obtain ⟨L, l1, l2, l3⟩ := hO2.len
        have htg : v < tv n ns2 g := by
          have := tv_ge hw2 hO2.ref (v := v + 1) (by omega) fun a b hab => by rw [hO2.sem, hO2.sem]; exact par_congr d (v + 1) hab
          omega
        have cl := xor_clo hw2 hxr2 hO2.ref hxa2 htg l2
        simp [g12, g5, g6, g7, g9, g10, g11, hvk', hvk]
        refine cl_of (xor_of (R := fun v' w' => BinPost m n 1048576 2 (xorS x g L) ns2 x g Emp w1 [] v' w') (binary_spec m n 1048576 ns2 2 x g (xorS x g L) (by omega) hE h5 hw2 (bnd ns2 (by omega)) hxr2 hO2.ref cl.2 cl.1) (by rintro _ _ ⟨r, _, rfl, _⟩; exact optV_tup r)) ?_
        rintro _ w6 ⟨r, ns3, rfl, hbin2, h6⟩
        obtain ⟨z, rfl, hO3, hl3⟩ := wide_xor hw2 (by omega) hxr2 hxa2 hO2 l3 (by omega) hbin2 (by omega)
        simp (disch := omega) [optV, okV, g12, g5, g6, g7, g9, g10, g11, wrap_i64]
        refine ⟨v, by omega, by omega, y, rfl, z, rfl, by rw [hev]; rfl, rfl, ns3, hbin2.ext.wf, by omega, by rw [hev]; exact hA2.ext hw2 hbin2.ext, ?_, h6⟩
        rw [show min v k = v by omega, show k - v = d + 1 by omega]
        exact hO3
      · have hvk' : ¬ (v : Int) < k := by omega
        simp (disch := omega) [g12, g5, g6, g7, g9, g10, g11, hvk', hvk, wrap_i64]
        refine ⟨v, by omega, by omega, y, rfl, g, rfl, by rw [hev]; rfl, rfl, ns2, hw2, by omega, by rw [hev]; exact hA2, ?_, h5⟩
        rw [show min (v + 1) k = k by omega] at hO2
        rw [show min v k = k by omega]
        exact hO2
    · have et : ((v : Int).tmod 2 == 0) = false := by rw [Int.tmod_eq_emod_of_nonneg (by omega)]; simp; omega
      rw [if_neg he] at hevn
      have hev : evn (n - v) v = evn (n - (v + 1)) (v + 1) := by omega
      have hA2 := hA1.skip (by omega)
      have hO2 := hO1
      obtain ⟨ns2, hns2⟩ : ∃ ns2, ns2 = ns1 := ⟨_, rfl⟩
      have h5 := h4
      simp only at h5
      have hx2 := hx1
      have hxr2 := hxr
      have hxa2 := hxa
      have hl2 := hl1
      rw [← hns2] at hA2 hO2 h5 hx2 hxr2 hxa2 hl2
      simp [et]
      -- the parity
      have hw2 := hx2.wf
      by_cases hvk : v < k
      · have hvk' : (v : Int) < k := by omega
        rw [show min (v + 1) k = v + 1 by omega] at hO2
        obtain ⟨d, hd⟩ : ∃ d, k = v + 1 + d := ⟨k - (v + 1), by omega⟩
        rw [show k - (v + 1) = d by omega] at hO2
        obtain ⟨L, l1, l2, l3⟩ := hO2.len
        have htg : v < tv n ns2 g := by
          have := tv_ge hw2 hO2.ref (v := v + 1) (by omega) fun a b hab => by rw [hO2.sem, hO2.sem]; exact par_congr d (v + 1) hab
          omega
        have cl := xor_clo hw2 hxr2 hO2.ref hxa2 htg l2
        simp [g12, g5, g6, g7, g9, g10, g11, hvk', hvk]
        refine cl_of (xor_of (R := fun v' w' => BinPost m n 1048576 2 (xorS x g L) ns2 x g Emp w1 [] v' w') (binary_spec m n 1048576 ns2 2 x g (xorS x g L) (by omega) hE h5 hw2 (bnd ns2 (by omega)) hxr2 hO2.ref cl.2 cl.1) (by rintro _ _ ⟨r, _, rfl, _⟩; exact optV_tup r)) ?_
        rintro _ w6 ⟨r, ns3, rfl, hbin2, h6⟩
        obtain ⟨z, rfl, hO3, hl3⟩ := wide_xor hw2 (by omega) hxr2 hxa2 hO2 l3 (by omega) hbin2 (by omega)
        simp (disch := omega) [optV, okV, g12, g5, g6, g7, g9, g10, g11, wrap_i64]
        refine ⟨v, by omega, by omega, f, rfl, z, rfl, by rw [hev], rfl, ns3, hbin2.ext.wf, by omega, by rw [hev]; exact hA2.ext hw2 hbin2.ext, ?_, h6⟩
        rw [show min v k = v by omega, show k - v = d + 1 by omega]
        exact hO3
      · have hvk' : ¬ (v : Int) < k := by omega
        simp (disch := omega) [g12, g5, g6, g7, g9, g10, g11, hvk', hvk, wrap_i64]
        refine ⟨v, by omega, by omega, f, rfl, g, rfl, by rw [hev], rfl, ns2, hw2, by omega, by rw [hev]; exact hA2, ?_, h5⟩
        rw [show min (v + 1) k = k by omega] at hO2
        rw [show min v k = k by omega]
        exact hO2
end Go.Proofs.YtkojilpjpdpmaaaR
