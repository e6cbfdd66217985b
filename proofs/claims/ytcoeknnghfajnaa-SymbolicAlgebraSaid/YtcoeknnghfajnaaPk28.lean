/-
  A part of the proof of this claim's statement (SyAR, SyAL, RxYL, RxYM, LibN): plain theorems; no conditions beyond those each names.
-/
import Derived.Test.YtcoeknnghfajnaaPk27
import Derived.Test.YtcoeknnghfajnaaPk09
import Derived.Test.YtcoeknnghfajnaaPk08
import Derived.HandedShaped
import Derived.Shelf.Vars
section
set_option maxRecDepth 100000
set_option linter.unusedSimpArgs false
set_option linter.unusedVariables false
namespace Go.Proofs.Ytcoeknnghfajnaa
open Go Go.W Go.Tk Go.Rx Go.Bd Go.Sy Go.Maps
theorem wd_a : ∀ n, n < 65 → 1 ≤ n → 2 ^ (180 * wd n + 4 * n) ≤ n ^ 240 * 2 ^ 4 := by decide +kernel
theorem wd_b : ∀ n, n < 65 → 1 ≤ n → 2 ^ (10 * wd n) ≤ n ^ 13 := by decide +kernel
theorem bs_a : ∀ l : List Nat, (∀ n ∈ l, 1 ≤ n ∧ n ≤ 64) → 2 ^ (180 * nBits l + 4 * l.sum) ≤ prL l ^ 240 * 2 ^ (4 * l.length)
  | [], _ => by simp [nBits, prL]
  | n :: l, h => by
    have ih := bs_a l fun m hm => h m (by simp [hm])
    have hn := h n (by simp)
    have h1 := wd_a n (by omega) hn.1
    have e1 : 180 * nBits (n :: l) + 4 * (n :: l).sum = (180 * wd n + 4 * n) + (180 * nBits l + 4 * l.sum) := by
      unfold nBits
      simp only [List.map_cons, List.sum_cons]
      omega
    have e2 : 4 * (n :: l).length = 4 + 4 * l.length := by simp only [List.length_cons]; omega
    rw [e1, e2, Nat.pow_add, Nat.pow_add 2 4]
    show _ ≤ (n * prL l) ^ 240 * _
    rw [Nat.mul_pow]
    calc _ ≤ (n ^ 240 * 2 ^ 4) * (prL l ^ 240 * 2 ^ (4 * l.length)) := Nat.mul_le_mul h1 ih
      _ = n ^ 240 * prL l ^ 240 * (2 ^ 4 * 2 ^ (4 * l.length)) := by simp only [Nat.mul_assoc, Nat.mul_left_comm (2 ^ 4)]
theorem bs_b : ∀ l : List Nat, (∀ n ∈ l, 1 ≤ n ∧ n ≤ 64) → 2 ^ (10 * nBits l) ≤ prL l ^ 13
  | [], _ => by simp [nBits, prL]
  | n :: l, h => by
    have ih := bs_b l fun m hm => h m (by simp [hm])
    have hn := h n (by simp)
    have h1 := wd_b n (by omega) hn.1
    have e1 : 10 * nBits (n :: l) = 10 * wd n + 10 * nBits l := by
      unfold nBits
      simp only [List.map_cons, List.sum_cons]
      omega
    rw [e1, Nat.pow_add]
    show _ ≤ (n * prL l) ^ 13
    rw [Nat.mul_pow]
    exact Nat.mul_le_mul h1 ih
/-- The bits of a small task, and the number of its values. -/
theorem sm_bs {T : Nt} (hT : SmT T) : nBits T.vars ≤ 11 ∧ 180 * nBits T.vars + 4 * T.vars.sum ≤ 2208 := by
  have hp : prL T.vars ≤ 512 := by
    have := hT.pr T.vars.length
    rwa [List.take_length] at this
  have h1 := bs_a T.vars hT.g.vars
  have h2 := bs_b T.vars hT.g.vars
  have h3 : prL T.vars ^ 240 ≤ 512 ^ 240 := Nat.pow_le_pow_left hp _
  have h4 : prL T.vars ^ 13 ≤ 512 ^ 13 := Nat.pow_le_pow_left hp _
  obtain ⟨E, hE⟩ : ∃ E, E = 9 * 240 := ⟨_, rfl⟩
  have e3 : (512 : Nat) ^ 240 = 2 ^ E := by rw [show (512 : Nat) = 2 ^ 9 from rfl, ← Nat.pow_mul, hE]
  have e4 : (512 : Nat) ^ 13 = 2 ^ (9 * 13) := by rw [show (512 : Nat) = 2 ^ 9 from rfl, ← Nat.pow_mul]
  rw [e3] at h3
  rw [e4] at h4
  have h5 : 10 * nBits T.vars ≤ 9 * 13 := (Nat.pow_le_pow_iff_right (by omega)).1 (Nat.le_trans h2 h4)
  have h6 : 180 * nBits T.vars + 4 * T.vars.sum ≤ E + 4 * T.vars.length := by
    refine (Nat.pow_le_pow_iff_right (a := 2) (by omega)).1 (Nat.le_trans h1 ?_)
    rw [Nat.pow_add 2 E]
    exact Nat.mul_le_mul_right _ h3
  have := hT.vl
  omega
theorem sum_getD (l : List Nat) : ∀ k, k ≤ l.length → ((List.range k).map fun v => l.getD v 0).sum = (l.take k).sum
  | 0, _ => by simp
  | k + 1, h => by
    have ih := sum_getD l k (by omega)
    rw [List.range_succ, List.map_append, List.sum_append, ih, List.take_add_one, List.getElem?_eq_getElem (show k < l.length by omega), List.sum_append]
    simp [List.getD, List.getElem?_eq_getElem (show k < l.length by omega)]
theorem sum_mul (f : Nat → Nat) (c : Nat) : ∀ l : List Nat, (l.map fun v => f v * c).sum = (l.map f).sum * c
  | [] => by simp
  | v :: l => by
    simp only [List.map_cons, List.sum_cons, sum_mul f c l, Nat.add_mul]
theorem nb_le {T : Nt} (hT : SmT T) : nb T ≤ 10 * (nBits T.vars * nBits T.vars) + 448 * T.vars.sum + 12 * 2 ^ nBits T.vars := by
  unfold nb
  rw [sum_mul (fun v => T.vars.getD v 0), sum_getD _ _ (Nat.le_refl _), List.take_length]
  have : T.vars.length * 2 ^ nBits T.vars ≤ 12 * 2 ^ nBits T.vars := Nat.mul_le_mul_right _ hT.vl
  have e1 : 2 * nBits T.vars * (2 * nBits T.vars + 2 * nBits T.vars) = 8 * (nBits T.vars * nBits T.vars) := by rw [← Nat.mul_two, ← Nat.mul_assoc, Nat.mul_mul_mul_comm]; omega
  have e2 : nBits T.vars * (2 * nBits T.vars) = 2 * (nBits T.vars * nBits T.vars) := by rw [Nat.mul_left_comm]
  rw [e1, e2]
  omega
/-- The counts of the values of a variable add up. -/
theorem cnt_vals {l : List (List Nat)} {P : List Nat → Bool} {v n : Nat} (h : ∀ s ∈ l, s.getD v 0 < n) : ((List.range n).map fun x => (l.filter fun z => P z && hdB z [(v, x)]).length).sum = (l.filter P).length := by
  induction l with
  | nil =>
    have : ∀ l : List Nat, (l.map fun _ => 0).sum = 0 := fun l => by induction l <;> simp_all
    simpa using this (List.range n)
  | cons s l ih =>
    have ih := ih fun z hz => h z (by simp [hz])
    have hs := h s (by simp)
    have key : ∀ x, ((s :: l).filter fun z => P z && hdB z [(v, x)]).length = (l.filter fun z => P z && hdB z [(v, x)]).length + if P s = true ∧ s.getD v 0 = x then 1 else 0 := fun x => by
      rw [List.filter_cons]
      have e : hdB s [(v, x)] = decide (s.getD v 0 = x) := by simp [hdB]
      have e2 : (P s && decide (s.getD v 0 = x)) = decide (P s = true ∧ s.getD v 0 = x) := by cases P s <;> simp
      rw [e, e2]
      by_cases hc : P s = true ∧ s.getD v 0 = x
      · rw [if_pos hc, if_pos (decide_eq_true hc)]; rfl
      · rw [if_neg hc, if_neg (by rw [decide_eq_false hc]; decide)]; rfl
    have hsum : ∀ (m : Nat) (f : Nat → Nat), ((List.range m).map fun x => f x + if P s = true ∧ s.getD v 0 = x then 1 else 0).sum = ((List.range m).map f).sum + if P s = true ∧ s.getD v 0 < m then 1 else 0 := fun m f => by
      induction m with
      | zero => simp
      | succ m ihm =>
        rw [List.range_succ, List.map_append, List.sum_append, ihm, List.map_append, List.sum_append]
        simp only [List.map_cons, List.map_nil, List.sum_cons, List.sum_nil, Nat.add_zero]
        by_cases hP : P s = true
        · by_cases h1 : s.getD v 0 < m
          · have h2 : ¬ s.getD v 0 = m := by omega
            have h3 : s.getD v 0 < m + 1 := by omega
            rw [if_pos ⟨hP, h1⟩, if_neg (fun h => h2 h.2), if_pos ⟨hP, h3⟩]; omega
          · by_cases h2 : s.getD v 0 = m
            · rw [if_neg (fun h => h1 h.2), if_pos ⟨hP, h2⟩, if_pos ⟨hP, by omega⟩]; omega
            · rw [if_neg (fun h => h1 h.2), if_neg (fun h => h2 h.2), if_neg (fun h => by have := h.2; omega)]; omega
        · rw [if_neg (fun h => hP h.1), if_neg (fun h => hP h.1), if_neg (fun h => hP h.1)]; omega
    simp only [key]
    rw [hsum, ih, List.filter_cons]
    by_cases hP : P s = true
    · rw [if_pos ⟨hP, hs⟩, if_pos hP]; simp
    · rw [if_neg (fun h => hP h.1), if_neg hP]; simp
theorem of_nil (u : Value) (x : Int) (w : World) : Calls Try.prog 11 [u, .int .i64 x, .nilIface].toArray w fun e w' => ∃ v, e = .returned v ∧ v = .int .i64 x ∧ Kp [] w w' := by
  refine enter Try.func11 mixed low11 (Nat.le_of_ble_eq_true rfl) ?_
  simp only [L11]
  simp
  exact Kp.refl _ _
end Go.Proofs.Ytcoeknnghfajnaa
end
section
set_option maxRecDepth 100000
set_option linter.unusedSimpArgs false
set_option linter.unusedVariables false
namespace Go.Proofs.Ytcoeknnghfajnaa
open Go Go.W Go.Tk Go.Rx Go.Bd Go.Sy Go.Maps
theorem alg_num {T : Nt} (hT : SmT T) : nb T + (52 * 2 ^ nBits T.vars + T.vars.sum * (64 + 5 * 2 ^ nBits T.vars)) < 1048576 := by
  obtain ⟨h1, h2⟩ := sm_bs hT
  have h3 := nb_le hT
  obtain ⟨m, hm⟩ : ∃ m, m = nb T := ⟨_, rfl⟩
  rw [← hm] at h3 ⊢
  generalize nBits T.vars = b at *
  generalize T.vars.sum = S at *
  have hb : b = 0 ∨ b = 1 ∨ b = 2 ∨ b = 3 ∨ b = 4 ∨ b = 5 ∨ b = 6 ∨ b = 7 ∨ b = 8 ∨ b = 9 ∨ b = 10 ∨ b = 11 := by omega
  rcases hb with rfl | rfl | rfl | rfl | rfl | rfl | rfl | rfl | rfl | rfl | rfl | rfl <;> simp at h3 ⊢ <;> omega
theorem bas_alk {T T' : Nt} (h : T'.vars = T.vars) : BasS T' = BasS T ∧ nb T' = nb T := by
  unfold BasS NewS nb
  rw [h]
  exact ⟨rfl, rfl⟩
set_option maxHeartbeats 2000000 in
theorem law_salgebra {w : World} (t : Tk) (pv qv : Value) (pl ql : List Fa) (ht : TkR w t) (hl : TkL t) (hpv : Vw w pv faE pl) (hqv : Vw w qv faE ql) (hpl : pl.length ≤ 9223372036854775807) (hql : ql.length ≤ 9223372036854775807) :
    Calls Try.prog 3 [tkV t, pv, qv].toArray w fun e w' => ∃ x, e = .returned x ∧ x = .bool true ∧ Kp [] w w' := by
  refine enter Try.func3 mixed low3 (Nat.le_of_ble_eq_true rfl) ?_
  simp only [L3]
  obtain ⟨tb, htb⟩ : ∃ tb, tb = w.heap.size := ⟨_, rfl⟩
  obtain ⟨w1, hw1⟩ : ∃ w1, w1 = w.alloc (tkO t) := ⟨_, rfl⟩
  obtain ⟨R, hR⟩ : ∃ R, R = List.range w.heap.size := ⟨_, rfl⟩
  have hw1' : w.alloc (.cells #[t.vv.1, t.nv.1, t.gv.1, t.ov.1] 26 (0, 0)) = w1 := by rw [hw1]; rfl
  obtain ⟨B, hB⟩ : ∃ B, B = Star (ObjA tb (tkO t)) (OldA w) := ⟨_, rfl⟩
  have hLB : Lcl B := by rw [hB]; exact Lcl.obj.star OldA.lcl
  have h1 : At w R B w1 := by rw [hB, htb, hw1, hR]; exact At.alloc _ OldA.lcl (OldA.start w)
  have rO : Rds B fun w' => w'.heap[tb]? = some (tkO t) := by rw [hB]; exact Rds.obj
  have rK : Rds B fun w' => Kp [] w w' := by rw [hB]; exact Rds.star (OldA.rds fun w' k => k)
  have at0 : ∀ {w'}, At w R B w' → w'.heap[tb]? = some (tkO t) ∧ Kp [] w w' := fun h => by
    obtain ⟨⟨F', h2, _⟩, _⟩ := h
    exact ⟨rO _ _ h2, rK _ _ h2⟩
  have ob1 := (at0 h1).1
  simp [tkV, ← htb, hw1', rd_tk ob1]
  refine cl_of (small_spec t (ht.kp (at0 h1).2) hl) ?_
  rintro _ w2 ⟨rfl, k2⟩
  have h2 := h1.kp0 hLB k2
  cases hsm : smallB t with
  | false =>
    simp
    refine cl_of (awake_spec hLB h2) ?_
    rintro _ w3 ⟨rfl, h3⟩
    simp
    exact (at0 h3).2
  | true =>
    obtain ⟨T, rfl, hT⟩ := small_nat hl hsm
    have hr := NtR.raw.1 ht
    have oc2 := (at0 h2).1
    unfold tkO at oc2
    simp [cell_blk oc2, raw_vv]
    refine cl_of (proper_spec T.vv.1 pv (T.vars.map iN) pl (vw_n.2 (hr.kp (at0 h2).2).vars) (hpv.kp0 (at0 h2).2) hpl) ?_
    rintro _ w3 ⟨rfl, k3⟩
    have h3 := h2.kp0 hLB k3
    cases hpp : propF (T.vars.map iN) pl with
    | false =>
      simp
      refine cl_of (awake_spec hLB h3) ?_
      rintro _ w4 ⟨rfl, h4⟩
      simp
      exact (at0 h4).2
    | true =>
      have oc3 := (at0 h3).1
      unfold tkO at oc3
      simp [cell_blk oc3, raw_vv]
      refine cl_of (proper_spec T.vv.1 qv (T.vars.map iN) ql (vw_n.2 (hr.kp (at0 h3).2).vars) (hqv.kp0 (at0 h3).2) hql) ?_
      rintro _ w4 ⟨rfl, k4⟩
      have h4 := h3.kp0 hLB k4
      cases hqp : propF (T.vars.map iN) ql with
      | false =>
        simp
        refine cl_of (awake_spec hLB h4) ?_
        rintro _ w5 ⟨rfl, h5⟩
        simp
        exact (at0 h5).2
      | true =>
        simp
        refine cl_of (awake_spec hLB h4) ?_
        rintro _ w5 ⟨rfl, h5⟩
        obtain ⟨p, rfl, hpo⟩ := prop_nat (nvars := T.vars) rfl hpp
        obtain ⟨p2, rfl, hqo⟩ := prop_nat (nvars := T.vars) rfl hqp
        have rN : Rds B fun w' => NtR w' T := by rw [hB]; exact Rds.star (OldA.rds fun w' k => hr.kp k)
        have rP : Rds B fun w' => Vw w' pv fcE p := by rw [hB]; exact Rds.star (OldA.rds fun w' k => vw_fc.1 (hpv.kp0 k))
        have rQ : Rds B fun w' => Vw w' qv fcE p2 := by rw [hB]; exact Rds.star (OldA.rds fun w' k => vw_fc.1 (hqv.kp0 k))
        simp [rd_tk (at0 h5).1, raw_vv, raw_nv, raw_gv, raw_ov]
        refine cl_of (snew_spec T 1048576 hLB h5 rN hT.g hT.good hl (by omega) (by omega) (newW (W := BasS T) fun G h => .inl h)) ?_
        rintro _ w6 hnew
        have hbits := (sm_bs hT).1
        have hnum := alg_num hT
        rcases hnew with ⟨hbig, _⟩ | ⟨_, e, ns, hs, hnew⟩
        · omega
        obtain ⟨rfl, hr0⟩ := RunB.start (cov_bas T) hs (by omega)
        rcases hnew with ⟨h, _⟩ | ⟨_, s, m, T', q, hA, rfl, hG, h6⟩
        · cases h
        simp
        obtain ⟨ub, hub⟩ : ∃ ub, ub = w6.heap.size := ⟨_, rfl⟩
        obtain ⟨w7, hw7⟩ : ∃ w7, w7 = w6.alloc (.cells #[.int .i64 0] 37) := ⟨_, rfl⟩
        obtain ⟨U, hU⟩ : ∃ U, U = Star (ObjA ub (.cells #[.int .i64 0] 37)) B := ⟨_, rfl⟩
        have hLU : Lcl U := by rw [hU]; exact Lcl.obj.star hLB
        have h7 : At w R (SpcA s m 1048576 T' q ns (putM [(0, true)] q.all true) [] U) w7 := by
          rw [hU, hub, hw7]
          exact SpcA.into (At.alloc _ (SpcA.lcl hLB) h6)
        obtain ⟨eb, en⟩ := bas_alk hA.vars
        have hC : LwC T' (BasS T') (nb T') := ⟨fun G h => h, cov_bas T'⟩
        have hks0 : (putM [((0 : Nat), true)] q.all true).length ≤ 2 := putM_len_le
        have L7 : Lw s m 1048576 T' q (BasS T') U w R 0 2 [(q.all, fun _ => true), (0, fun _ => false)] w7 := by
          refine ⟨ns, _, [], by rw [eb, hA.vars]; exact hr0, hG, fun z hz => ?_, hks0, by simp, h7⟩
          simp at hz
          rcases hz with rfl | rfl
          · exact ⟨getM_put _ _ _, hG.all⟩
          · refine ⟨?_, ⟨by unfold Ref; omega, fun a => by rw [eval_zero]; simp⟩⟩
            by_cases h0 : q.all = 0
            · rw [h0]; exact getM_put _ _ _
            · rw [getM_put_ne h0]; rfl
        have rU : ∀ {P : World → Prop}, Rds B P → Rds U P := fun h => by rw [hU]; exact Rds.star h
        have rP2 := rU rP
        have rQ2 := rU rQ
        have rNil : Rds U fun w' => Vw w' (.slice none 0 0) fcE ([] : List Go.Tk.Fc) := fun w' _ _ => Vw.nil _ _
        have hpp2 : propF (T'.vars.map iN) (p.map faN) = true := by rw [hA.vars]; exact hpp
        have hqp2 : propF (T'.vars.map iN) (p2.map faN) = true := by rw [hA.vars]; exact hqp
        have hpo2 : FcOk T'.vars p := by rw [hA.vars]; exact hpo
        have hqo2 : FcOk T'.vars p2 := by rw [hA.vars]; exact hqo
        have hnum2 : nb T' + (52 * 2 ^ nBits T'.vars + T'.vars.sum * (64 + 5 * 2 ^ nBits T'.vars)) < 1048576 := by rw [en, hA.vars]; exact hnum
        have hvl : T'.vars.length ≤ 12 := by rw [hA.vars]; exact hT.vl
        have hp12 : p.length * 2 ^ nBits T'.vars ≤ 12 * 2 ^ nBits T'.vars := Nat.mul_le_mul_right _ (by have := hpo2.len; omega)
        have hq12 : p2.length * 2 ^ nBits T'.vars ≤ 12 * 2 ^ nBits T'.vars := Nat.mul_le_mul_right _ (by have := hqo2.len; omega)
        have hx0 : 0 < 2 ^ nBits T'.vars := Nat.two_pow_pos _
        have cnt_ok : ∀ {P : List Nat → Bool}, cntV (ctN T'.vars P) = .tuple #[.int .i64 (ctN T'.vars P : Nat), .nilIface] := fun {P} => by
          refine SpG.six ?_
          have h1 : ctN T'.vars P ≤ (stsK T'.vars T'.vars.length).length := List.length_filter_le _ _
          have h2 := sts512 hT
          rw [← hA.vars] at h2
          unfold many
          omega
        have hnil : FcOk T'.vars ([] : List Go.Tk.Fc) := ⟨fun f h => (by cases h), .nil⟩
        rw [← hub, ← hw7]
        -- STEPS
        refine cl_of (lw_partial pv p hC hLU L7 rP2 hpp2 hpo2 (cov_facts hpo2) (by omega) (by omega)) ?_
        rintro _ w8 ⟨a, rfl, L8⟩
        simp
        refine cl_of (of_nil _ a w8) ?_
        rintro _ w9 ⟨rfl, k9⟩
        have L9 := L8.kp0 hLU k9
        simp
        refine cl_of (lw_partial qv p2 hC hLU L9 rQ2 hqp2 hqo2 (cov_facts hqo2) (by omega) (by omega)) ?_
        rintro _ w10 ⟨b, rfl, L10⟩
        simp
        refine cl_of (of_nil _ b w10) ?_
        rintro _ w11 ⟨rfl, k11⟩
        have L11 := L10.kp0 hLU k11
        simp
        refine cl_of (lw_all L11) ?_
        rintro _ w12 ⟨rfl, L12⟩
        simp
        refine cl_of (lw_minus q.all a (fun _ => true) (fun z => hdB z p) hC hLU L12 (.tail _ (.tail _ (.head _))) (.tail _ (.head _)) (by omega) (by omega)) ?_
        rintro _ w13 ⟨na, rfl, L13⟩
        simp
        refine cl_of (of_nil _ na w13) ?_
        rintro _ w14 ⟨rfl, k14⟩
        have L14 := L13.kp0 hLU k14
        simp
        refine cl_of (lw_all L14) ?_
        rintro _ w15 ⟨rfl, L15⟩
        simp
        refine cl_of (lw_minus q.all b (fun _ => true) (fun z => hdB z p2) hC hLU L15 (.tail _ (.tail _ (.tail _ (.head _)))) (.tail _ (.head _)) (by omega) (by omega)) ?_
        rintro _ w16 ⟨nb2, rfl, L16⟩
        simp
        refine cl_of (of_nil _ nb2 w16) ?_
        rintro _ w17 ⟨rfl, k17⟩
        have L17 := L16.kp0 hLU k17
        simp
        refine cl_of (lw_all L17) ?_
        rintro _ w18 ⟨rfl, L18⟩
        simp
        refine cl_of (lw_minus q.all na (fun _ => true) (fun z => true && !hdB z p) hC hLU L18 (.tail _ (.tail _ (.tail _ (.tail _ (.head _))))) (.tail _ (.head _)) (by omega) (by omega)) ?_
        rintro _ w19 ⟨x1, rfl, L19⟩
        simp
        refine cl_of (of_nil _ x1 w19) ?_
        rintro _ w20 ⟨rfl, k20⟩
        have L20 := L19.kp0 hLU k20
        have e1 : x1 = a := L20.eq (P := (fun z => true && !(true && !hdB z p))) (Q := (fun z => hdB z p)) (.head _) (.tail _ (.tail _ (.tail _ (.tail _ (.head _))))) fun z _ => by cases hdB z p <;> cases hdB z p2 <;> rfl
        rw [e1]
        simp
        refine cl_of (lw_union a na (fun z => hdB z p) (fun z => true && !hdB z p) hC hLU L20 (.tail _ (.tail _ (.tail _ (.tail _ (.head _))))) (.tail _ (.tail _ (.head _))) (by omega) (by omega)) ?_
        rintro _ w21 ⟨x2, rfl, L21⟩
        simp
        refine cl_of (of_nil _ x2 w21) ?_
        rintro _ w22 ⟨rfl, k22⟩
        have L22 := L21.kp0 hLU k22
        have e2 : x2 = q.all := L22.eq (P := (fun z => hdB z p || (true && !hdB z p))) (Q := (fun _ => true)) (.head _) (.tail _ (.tail _ (.tail _ (.tail _ (.tail _ (.tail _ (.head _))))))) fun z _ => by cases hdB z p <;> cases hdB z p2 <;> rfl
        rw [e2]
        simp
        refine cl_of (lw_all L22) ?_
        rintro _ w23 ⟨rfl, L23⟩
        simp
        refine cl_of (lw_intersect a na (fun z => hdB z p) (fun z => true && !hdB z p) hC hLU L23 (.tail _ (.tail _ (.tail _ (.tail _ (.tail _ (.head _)))))) (.tail _ (.tail _ (.tail _ (.head _)))) (by omega) (by omega)) ?_
        rintro _ w24 ⟨x3, rfl, L24⟩
        simp
        refine cl_of (of_nil _ x3 w24) ?_
        rintro _ w25 ⟨rfl, k25⟩
        have L25 := L24.kp0 hLU k25
        have e3 : x3 = 0 := L25.eq (P := (fun z => hdB z p && (true && !hdB z p))) (Q := (fun _ => false)) (.head _) (.tail _ (.tail _ (.tail _ (.tail _ (.tail _ (.tail _ (.tail _ (.tail _ (.head _))))))))) fun z _ => by cases hdB z p <;> cases hdB z p2 <;> rfl
        rw [e3]
        simp
        refine cl_of (lw_minus a b (fun z => hdB z p) (fun z => hdB z p2) hC hLU L25 (.tail _ (.tail _ (.tail _ (.tail _ (.tail _ (.tail _ (.head _))))))) (.tail _ (.tail _ (.tail _ (.tail _ (.tail _ (.head _)))))) (by omega) (by omega)) ?_
        rintro _ w26 ⟨x4, rfl, L26⟩
        simp
        refine cl_of (of_nil _ x4 w26) ?_
        rintro _ w27 ⟨rfl, k27⟩
        have L27 := L26.kp0 hLU k27
        simp
        refine cl_of (lw_intersect a nb2 (fun z => hdB z p) (fun z => true && !hdB z p2) hC hLU L27 (.tail _ (.tail _ (.tail _ (.tail _ (.tail _ (.tail _ (.tail _ (.head _)))))))) (.tail _ (.tail _ (.tail _ (.tail _ (.head _))))) (by omega) (by omega)) ?_
        rintro _ w28 ⟨x5, rfl, L28⟩
        simp
        refine cl_of (of_nil _ x5 w28) ?_
        rintro _ w29 ⟨rfl, k29⟩
        have L29 := L28.kp0 hLU k29
        have e4 : x4 = x5 := L29.eq (P := (fun z => hdB z p && !hdB z p2)) (Q := (fun z => hdB z p && (true && !hdB z p2))) (.tail _ (.head _)) (.head _) fun z _ => by cases hdB z p <;> cases hdB z p2 <;> rfl
        rw [← e4]
        simp
        refine cl_of (lw_all L29) ?_
        rintro _ w30 ⟨rfl, L30⟩
        simp
        refine cl_of (lw_union a b (fun z => hdB z p) (fun z => hdB z p2) hC hLU L30 (.tail _ (.tail _ (.tail _ (.tail _ (.tail _ (.tail _ (.tail _ (.tail _ (.head _))))))))) (.tail _ (.tail _ (.tail _ (.tail _ (.tail _ (.tail _ (.tail _ (.head _)))))))) (by omega) (by omega)) ?_
        rintro _ w31 ⟨x6, rfl, L31⟩
        simp
        refine cl_of (of_nil _ x6 w31) ?_
        rintro _ w32 ⟨rfl, k32⟩
        have L32 := L31.kp0 hLU k32
        simp
        refine cl_of (lw_minus q.all x6 (fun _ => true) (fun z => hdB z p || hdB z p2) hC hLU L32 (.tail _ (.tail _ (.tail _ (.tail _ (.tail _ (.tail _ (.tail _ (.tail _ (.tail _ (.tail _ (.head _))))))))))) (.head _) (by omega) (by omega)) ?_
        rintro _ w33 ⟨x7, rfl, L33⟩
        simp
        refine cl_of (of_nil _ x7 w33) ?_
        rintro _ w34 ⟨rfl, k34⟩
        have L34 := L33.kp0 hLU k34
        simp
        refine cl_of (lw_intersect na nb2 (fun z => true && !hdB z p) (fun z => true && !hdB z p2) hC hLU L34 (.tail _ (.tail _ (.tail _ (.tail _ (.tail _ (.tail _ (.tail _ (.tail _ (.head _))))))))) (.tail _ (.tail _ (.tail _ (.tail _ (.tail _ (.tail _ (.tail _ (.head _)))))))) (by omega) (by omega)) ?_
        rintro _ w35 ⟨x8, rfl, L35⟩
        simp
        refine cl_of (of_nil _ x8 w35) ?_
        rintro _ w36 ⟨rfl, k36⟩
        have L36 := L35.kp0 hLU k36
        have e5 : x7 = x8 := L36.eq (P := (fun z => true && !(hdB z p || hdB z p2))) (Q := (fun z => (true && !hdB z p) && (true && !hdB z p2))) (.tail _ (.head _)) (.head _) fun z _ => by cases hdB z p <;> cases hdB z p2 <;> rfl
        rw [← e5]
        simp
        refine cl_of (lw_intersect a b (fun z => hdB z p) (fun z => hdB z p2) hC hLU L36 (.tail _ (.tail _ (.tail _ (.tail _ (.tail _ (.tail _ (.tail _ (.tail _ (.tail _ (.tail _ (.tail _ (.head _)))))))))))) (.tail _ (.tail _ (.tail _ (.tail _ (.tail _ (.tail _ (.tail _ (.tail _ (.tail _ (.tail _ (.head _))))))))))) (by omega) (by omega)) ?_
        rintro _ w37 ⟨x9, rfl, L37⟩
        simp
        refine cl_of (of_nil _ x9 w37) ?_
        rintro _ w38 ⟨rfl, k38⟩
        have L38 := L37.kp0 hLU k38
        simp
        refine cl_of (lw_minus a b (fun z => hdB z p) (fun z => hdB z p2) hC hLU L38 (.tail _ (.tail _ (.tail _ (.tail _ (.tail _ (.tail _ (.tail _ (.tail _ (.tail _ (.tail _ (.tail _ (.tail _ (.head _))))))))))))) (.tail _ (.tail _ (.tail _ (.tail _ (.tail _ (.tail _ (.tail _ (.tail _ (.tail _ (.tail _ (.tail _ (.head _)))))))))))) (by omega) (by omega)) ?_
        rintro _ w39 ⟨x10, rfl, L39⟩
        simp
        refine cl_of (of_nil _ x10 w39) ?_
        rintro _ w40 ⟨rfl, k40⟩
        have L40 := L39.kp0 hLU k40
        simp
        refine cl_of (lw_union x9 x10 (fun z => hdB z p && hdB z p2) (fun z => hdB z p && !hdB z p2) hC hLU L40 (.tail _ (.head _)) (.head _) (by omega) (by omega)) ?_
        rintro _ w41 ⟨x11, rfl, L41⟩
        simp
        refine cl_of (of_nil _ x11 w41) ?_
        rintro _ w42 ⟨rfl, k42⟩
        have L42 := L41.kp0 hLU k42
        have e6 : x11 = a := L42.eq (P := (fun z => (hdB z p && hdB z p2) || (hdB z p && !hdB z p2))) (Q := (fun z => hdB z p)) (.head _) (.tail _ (.tail _ (.tail _ (.tail _ (.tail _ (.tail _ (.tail _ (.tail _ (.tail _ (.tail _ (.tail _ (.tail _ (.tail _ (.tail _ (.head _))))))))))))))) fun z _ => by cases hdB z p <;> cases hdB z p2 <;> rfl
        rw [e6]
        simp
        refine cl_of (lw_partial (.slice none 0 0) [] hC hLU L42 rNil (by simp [propF, allR]) hnil (cov_facts hnil) (by simp; omega) (by omega)) ?_
        rintro _ w43 ⟨x12, rfl, L43⟩
        simp
        refine cl_of (of_nil _ x12 w43) ?_
        rintro _ w44 ⟨rfl, k44⟩
        have L44 := L43.kp0 hLU k44
        have e7 : x12 = q.all := L44.eq (P := fun z => hdB z []) (Q := (fun _ => true)) (.head _) (.tail _ (.tail _ (.tail _ (.tail _ (.tail _ (.tail _ (.tail _ (.tail _ (.tail _ (.tail _ (.tail _ (.tail _ (.tail _ (.tail _ (.tail _ (.tail _ (.head _))))))))))))))))) fun z _ => rfl
        rw [e7]
        simp
        refine cl_of (lw_all L44) ?_
        rintro _ w45 ⟨rfl, L45⟩
        simp
        refine cl_of (lw_count a (fun z => hdB z p) hC hLU L45 (.tail _ (.tail _ (.tail _ (.tail _ (.tail _ (.tail _ (.tail _ (.tail _ (.tail _ (.tail _ (.tail _ (.tail _ (.tail _ (.tail _ (.tail _ (.head _)))))))))))))))) (by simp; omega)) ?_
        rintro _ w46 ⟨rfl, L46⟩
        rw [cnt_ok]
        simp
        refine cl_of (of_nil _ (ctN T'.vars fun z => hdB z p) w46) ?_
        rintro _ w47 ⟨rfl, k47⟩
        have L47 := L46.kp0 hLU k47
        obtain ⟨X, hX⟩ : ∃ X, X = 2 ^ nBits T'.vars := ⟨_, rfl⟩
        obtain ⟨V, hV⟩ : ∃ V, V = ctN T'.vars fun z => hdB z p := ⟨_, rfl⟩
        obtain ⟨ps, hps⟩ : ∃ ps : List Kp2, ps = [(a, fun z => hdB z p), (q.all, fun _ => true), (0, fun _ => false)] := ⟨_, rfl⟩
        have M0 : Lw s m 1048576 T' q (BasS T') U w R (49 * X + 0 * (64 + 5 * X)) (20 + 2 * 0) ps w47 := L47.mono (by rw [hX]; simp; omega) (by omega) fun z hz => by
          rw [hps] at hz
          rcases List.mem_cons.1 hz with rfl | hz
          · exact (.tail _ (.tail _ (.tail _ (.tail _ (.tail _ (.tail _ (.tail _ (.tail _ (.tail _ (.tail _ (.tail _ (.tail _ (.tail _ (.tail _ (.tail _ (.head _))))))))))))))))
          rcases List.mem_cons.1 hz with rfl | hz
          · exact (.tail _ (.tail _ (.tail _ (.tail _ (.tail _ (.tail _ (.tail _ (.tail _ (.tail _ (.tail _ (.tail _ (.tail _ (.tail _ (.tail _ (.tail _ (.tail _ (.head _)))))))))))))))))
          rcases List.mem_cons.1 hz with rfl | hz
          · exact (.tail _ (.tail _ (.tail _ (.tail _ (.tail _ (.tail _ (.tail _ (.tail _ (.tail _ (.tail _ (.tail _ (.tail _ (.tail _ (.tail _ (.tail _ (.tail _ (.tail _ (.head _))))))))))))))))))
          cases hz
        clear L47 L46 L45 L44 L43 L42 L41 L40 L39 L38 L37 L36 L35 L34 L33 L32 L31 L30 L29 L28 L27 L26 L25 L24 L23 L22 L21 L20 L19 L18 L17 L16 L15 L14 L13 L12 L11 L10 L9 L8
        clear L7 h1 h2 h3 h4 h5 h6 h7
        have r0 : ∀ {w' : World} {N c : Nat} {ps : List Kp2}, Lw s m 1048576 T' q (BasS T') U w R N c ps w' → w'.heap[tb]? = some (tkO T.raw) ∧ NtR w' T := fun L => ⟨L.frame (rU rO), L.frame (rU rN)⟩
        have oc := (r0 M0).1
        unfold tkO at oc
        have hVl : V ≤ 512 := by
          have h1 : V ≤ (stsK T'.vars T'.vars.length).length := by rw [hV]; exact List.length_filter_le _ _
          have h2 := sts512 hT
          rw [← hA.vars] at h2
          exact Nat.le_trans h1 h2
        have hsum : 4 * T.vars.sum ≤ 2208 := by have := (sm_bs hT).2; omega
        have htk : ∀ k n, T.vars[k]? = some n → (T.vars.take (k + 1)).sum = (T.vars.take k).sum + n ∧ (T.vars.take k).sum + n ≤ T.vars.sum := fun k n hn => by
          have e : (T.vars.take (k + 1)).sum = (T.vars.take k).sum + n := by rw [List.take_add_one, hn, List.sum_append]; simp
          have e2 : (T.vars.take (k + 1)).sum + (T.vars.drop (k + 1)).sum = T.vars.sum := by rw [← List.sum_append, List.take_append_drop]
          exact ⟨e, by omega⟩
        have hn3 : nb T' + (52 * X + T.vars.sum * (64 + 5 * X)) < 1048576 := by rw [hX, ← hA.vars]; exact hnum2
        simp [cell_blk oc, raw_vv, (r0 M0).2.vars.len, ← hV]
        have hvl1 := hT.vl
        refine range_loop (n := T.vars.length) (by omega) (fun k ρ w' => ρ 3 = .pointer (some ⟨tb, 0, none⟩) ∧ ρ 7 = .pointer (some ⟨s, 0, none⟩) ∧ ρ 9 = .pointer (some ⟨ub, 0, none⟩) ∧ ρ 10 = .int .i64 (a : Nat) ∧ ρ 14 = .bool true ∧ ρ 15 = .int .i64 (V : Nat) ∧ ρ 209 = T.vv.1 ∧ Lw s m 1048576 T' q (BasS T') U w R (49 * X + (T.vars.take k).sum * (64 + 5 * X)) (20 + 2 * (T.vars.take k).sum) ps w') (by simp) (by simp)
          ⟨by simp, by simp, by simp, by simp, by simp, by simp, by simp, by simpa using M0⟩ (by decide) (fun _ _ _ _ h => by simpa using h) (fun _ _ _ _ h => by simpa using h) ?_ ?_
        · rintro k ρ v1 hk hck hlk ⟨g3, g7, g9, g10, g14, g15, g209, M1⟩
          obtain ⟨n, hn⟩ : ∃ n, T.vars[k]? = some n := ⟨_, List.getElem?_eq_getElem hk⟩
          have hnd : T.vars.getD k 0 = n := by simp [List.getD, hn]
          have hv1 := (r0 M1).2.vars
          have hn64 := (hT.g.vars n (List.mem_of_getElem? hn)).2
          obtain ⟨et, hts⟩ := htk k n hn
          obtain ⟨cf, hcf⟩ : ∃ cf : Nat → Nat, cf = fun x => ctN T'.vars fun z => hdB z p && hdB z [(k, x)] := ⟨_, rfl⟩
          obtain ⟨sf, hsf⟩ : ∃ sf : Nat → Nat, sf = fun x => ((List.range x).map cf).sum := ⟨_, rfl⟩
          have sf0 : sf 0 = 0 := by rw [hsf]; rfl
          have sf1 : ∀ x, sf (x + 1) = sf x + cf x := fun x => by rw [hsf]; simp [List.range_succ]
          have cf5 : ∀ x, cf x ≤ 512 := fun x => by
            have h1 : cf x ≤ (stsK T'.vars T'.vars.length).length := by rw [hcf]; exact List.length_filter_le _ _
            have h2 := sts512 hT
            rw [← hA.vars] at h2
            exact Nat.le_trans h1 h2
          have sf5 : ∀ x, sf x ≤ 512 * x := fun x => by
            induction x with
            | zero => rw [sf0]; omega
            | succ x ih => have := cf5 x; rw [sf1]; omega
          have sfn : sf n = V := by
            rw [hsf, hcf, hV]
            refine cnt_vals fun z hz => ?_
            have := (sts_st hz).rng k (by rw [hA.vars]; exact hk)
            rw [hA.vars, hnd] at this
            exact this
          have hki : (k : Int) < T.vars.length := by omega
          simp (disch := omega) [g209, hck, hlk, hv1.idx, nE_cell hv1 hn]
          refine range_loop (n := n) (by omega) (fun x ρ w' => ρ 3 = .pointer (some ⟨tb, 0, none⟩) ∧ ρ 7 = .pointer (some ⟨s, 0, none⟩) ∧ ρ 9 = .pointer (some ⟨ub, 0, none⟩) ∧ ρ 10 = .int .i64 (a : Nat) ∧ ρ 14 = .bool true ∧ ρ 15 = .int .i64 (V : Nat) ∧ ρ 209 = T.vv.1 ∧ ρ 16 = .int .i64 (k : Nat) ∧ ρ 18 = .int .i64 (sf x : Nat) ∧ ρ 210 = .int .i64 (T.vars.length : Nat) ∧ ρ 211 = .int .i64 (k : Nat) ∧ Lw s m 1048576 T' q (BasS T') U w R (49 * X + ((T.vars.take k).sum + x) * (64 + 5 * X)) (20 + 2 * ((T.vars.take k).sum + x)) ps w') (by simp) (by simp)
            ⟨by simp [g3], by simp [g7], by simp [g9], by simp [g10], by simp [g14], by simp [g15], by simp [g209], by simp, by simp [sf0], by simp [hlk], by simp [hck], by simpa using M1⟩ (by decide) (fun _ _ _ _ h => by simpa using h) (fun _ _ _ _ h => by simpa using h) ?_ ?_
          · rintro x ρ v2 hx hcx hlx ⟨g3, g7, g9, g10, g14, g15, g209, g16, g18, g210, g211, M2⟩
            have hbud : (T.vars.take k).sum + (x + 1) ≤ T.vars.sum := by omega
            have hmul : ((T.vars.take k).sum + (x + 1)) * (64 + 5 * X) ≤ T.vars.sum * (64 + 5 * X) := Nat.mul_le_mul_right _ hbud
            have emul : ((T.vars.take k).sum + (x + 1)) * (64 + 5 * X) = ((T.vars.take k).sum + x) * (64 + 5 * X) + (64 + 5 * X) := by rw [← Nat.add_assoc, Nat.add_mul, Nat.one_mul]
            obtain ⟨D, hD⟩ : ∃ D, D = 49 * X + ((T.vars.take k).sum + x) * (64 + 5 * X) := ⟨_, rfl⟩
            obtain ⟨c, hc⟩ : ∃ c, c = 20 + 2 * ((T.vars.take k).sum + x) := ⟨_, rfl⟩
            have hDl : nb T' + (D + (64 + 5 * X)) < 1048576 := by omega
            have hcl : c + 2 < 100000 := by omega
            rw [← hD, ← hc] at M2
            have hf1 : FcOk T'.vars [((k, x) : Go.Tk.Fc)] := ⟨fun f h => (by simp at h; subst h; exact ⟨by rw [hA.vars]; exact hk, by rw [hA.vars, hnd]; exact hx⟩), .cons (fun _ h => by cases h) .nil⟩
            have hp1 : propF (T'.vars.map iN) ([((k, x) : Go.Tk.Fc)].map faN) = true := by
              rw [List.map_cons, List.map_nil, propF_one, hA.vars]
              simp [inR, faN, hn]
              exact ⟨hk, by show (x : Int) < (n : Int); omega⟩
            simp [hcx, hlx, g7, g9, g10, g16, g18]
            have M3 := M2.lit (xs := [((k, x) : Go.Tk.Fc)]) (enc := fcE) (E := 45) (sz := 2) (k := 1) (cs := #[.int .i64 (k : Nat), .int .i64 (x : Nat)]) hLU (by simp [fcE]) (fun _ => rfl) (by simp [maxLen]) rfl
            refine cl_of (lw_partial _ [(k, x)] hC (Lcl.own.star hLU) M3 Rds.own hp1 hf1 (cov_fact k x) (by omega) (by omega)) ?_
            rintro _ v4 ⟨y1, rfl, M4⟩
            have M4 := M4.less
            simp [g7, g9, g10, g16, g18]
            refine cl_of (of_nil _ y1 v4) ?_
            rintro _ v5 ⟨rfl, k5⟩
            have M5 := M4.kp0 hLU k5
            simp [g7, g9, g10, g16, g18]
            refine cl_of (lw_intersect a y1 (fun z => hdB z p) (fun z => hdB z [(k, x)]) hC hLU M5 (by rw [hps]; exact .tail _ (.head _)) (.head _) (by omega) (by omega)) ?_
            rintro _ v6 ⟨y2, rfl, M6⟩
            simp [g7, g9, g10, g16, g18]
            refine cl_of (of_nil _ y2 v6) ?_
            rintro _ v7 ⟨rfl, k7⟩
            have M7 := M6.kp0 hLU k7
            simp [g7, g9, g10, g16, g18]
            refine cl_of (lw_count y2 (fun z => hdB z p && hdB z [(k, x)]) hC hLU M7 (.head _) (by omega)) ?_
            rintro _ v8 ⟨rfl, M8⟩
            rw [cnt_ok]
            simp [g7, g9, g10, g16, g18]
            refine cl_of (of_nil _ (ctN T'.vars fun z => hdB z p && hdB z [(k, x)]) v8) ?_
            rintro _ v9 ⟨rfl, k9⟩
            have M9 := M8.kp0 hLU k9
            have ecf : (ctN T'.vars fun z => hdB z p && hdB z [(k, x)]) = cf x := by rw [hcf]
            have hs1 := sf1 x
            have hs5 := sf5 x
            have hc5 := cf5 x
            have ei : ((sf x : Nat) : Int) + ((cf x : Nat) : Int) = ((sf (x + 1) : Nat) : Int) := by omega
            have ew : IntKind.i64.wrap ((sf (x + 1) : Nat) : Int) = ((sf (x + 1) : Nat) : Int) := wrap_i64 (by omega) (by omega)
            rw [ecf]
            simp [g3, g7, g9, g10, g14, g15, g209, g16, g18, g210, g211, hcx, hlx, ei, ew]
            rw [emul, ← Nat.add_assoc, ← hD]
            exact M9.mono (by omega) (by omega) fun z hz => .tail _ (.tail _ hz)
          · rintro ρ v2 ⟨g3, g7, g9, g10, g14, g15, g209, g16, g18, g210, g211, M2⟩
            rw [sfn] at g18
            simp [g3, g7, g9, g10, g14, g15, g209, g18, g210, g211]
            rw [et]
            exact M2
        rintro ρ v1 ⟨g3, g7, g9, g10, g14, g15, g209, M1⟩
        rw [List.take_length] at M1
        have ou : v1.heap[ub]? = some (.cells #[.int .i64 0] 37 (0, 0)) := M1.frame (by rw [hU]; exact Rds.obj)
        have ob := (r0 M1).1
        unfold tkO at ob
        simp [g3, g7, g9, g14, cell_blk ou, cell_blk ob, raw_vv]
        refine ⟨?_, ?_, ?_, ?_⟩
        all_goals
          have M1d := M1.drew hLU
          refine cl_of (lw_all M1d) ?_
          rintro _ v2 ⟨rfl, M2⟩
          have ou2 : v2.heap[ub]? = some (.cells #[.int .i64 0] 37 (0, 0)) := M2.frame (by rw [hU]; exact Rds.obj)
          have ob2 := (r0 M2).1
          unfold tkO at ob2
          simp [g3, g7, g9, g14, cell_blk ou2, cell_blk ob2, raw_vv]
          refine cl_of (lw_count q.all (fun _ => true) hC hLU M2 (by rw [hps]; exact .tail _ (.head _)) (by omega)) ?_
          rintro _ v3 ⟨rfl, M3⟩
          rw [cnt_ok]
          have ou3 : v3.heap[ub]? = some (.cells #[.int .i64 0] 37 (0, 0)) := M3.frame (by rw [hU]; exact Rds.obj)
          have ob3 := (r0 M3).1
          unfold tkO at ob3
          simp [g3, g7, g9, g14, cell_blk ou3, cell_blk ob3, raw_vv]
          refine cl_of (of_nil _ (ctN T'.vars fun _ => true) v3) ?_
          rintro _ v4 ⟨rfl, k4⟩
          have M4 := M3.kp0 hLU k4
          have ou4 : v4.heap[ub]? = some (.cells #[.int .i64 0] 37 (0, 0)) := M4.frame (by rw [hU]; exact Rds.obj)
          have ob4 := (r0 M4).1
          unfold tkO at ob4
          simp [g3, g7, g9, g14, cell_blk ou4, cell_blk ob4, raw_vv]
          refine cl_of (many_spec T.vv.1 (T.vars.map iN) (vw_n.2 (r0 M4).2.vars) (by simp; omega)) ?_
          rintro _ v5 ⟨rfl, k5⟩
          have M5 := M4.kp0 hLU k5
          have ou5 : v5.heap[ub]? = some (.cells #[.int .i64 0] 37 (0, 0)) := M5.frame (by rw [hU]; exact Rds.obj)
          have ek : (ctN T'.vars fun _ => true) = manyF 512 1 (T.vars.map iN) := by
            rw [many_nS hT, hA.vars]
            simp [ctN, nS]
          rw [ek]
          simp [g3, g7, g9, g14, cell_blk ou5]
          exact M5.frame (rU rK)
        -- END
end Go.Proofs.Ytcoeknnghfajnaa
end
section
set_option maxRecDepth 100000
set_option linter.unusedSimpArgs false
set_option linter.unusedVariables false
namespace Go.Rx
open Go Go.W Go.Tk
structure Low (es : List (Nat × Nat × Nat)) (c : Nat → Nat) (G : Nat → Bool) (H : Nat → Nat) : Prop where
  le : ∀ i, H i ≤ Inf
  z : ∀ i, G i = true → H i = 0
  st : ∀ e ∈ es, H e.1 ≤ H e.2.2 + c e.2.1
structure Dok (es : List (Nat × Nat × Nat)) (c : Nat → Nat) (G : Nat → Bool) (d : List Nat) : Prop where
  z0 : ∀ i, i < d.length → G i = true → d.getD i 0 = 0
  le : ∀ i, i < d.length → d.getD i 0 ≤ Inf
  low : ∀ H, Low es c G H → ∀ i, i < d.length → H i ≤ d.getD i 0
theorem getD_set_same {d : List Nat} {i x : Nat} (h : i < d.length) : (d.set i x).getD i 0 = x := by simp [List.getD, List.getElem?_set_self h]
theorem getD_set_ne {d : List Nat} {i j x : Nat} (h : i ≠ j) : (d.set i x).getD j 0 = d.getD j 0 := by simp only [List.getD, List.getElem?_set_ne h]
theorem Dok.step {es : List (Nat × Nat × Nat)} {c : Nat → Nat} {G : Nat → Bool} {d : List Nat} {e : Nat × Nat × Nat} (h : Dok es c G d) (he : e ∈ es) (hf : e.1 < d.length) (ht : e.2.2 < d.length) (hlt : d.getD e.2.2 0 + c e.2.1 < d.getD e.1 0) : Dok es c G (d.set e.1 (d.getD e.2.2 0 + c e.2.1)) := {
  z0 := fun i hi hG => by
    rw [List.length_set] at hi
    by_cases hie : e.1 = i
    · subst hie
      have := h.z0 _ hf hG
      omega
    · rw [getD_set_ne hie]; exact h.z0 i hi hG
  le := fun i hi => by
    rw [List.length_set] at hi
    by_cases hie : e.1 = i
    · subst hie
      rw [getD_set_same hf]
      have := h.le _ hf
      omega
    · rw [getD_set_ne hie]; exact h.le i hi
  low := fun H hH i hi => by
    rw [List.length_set] at hi
    by_cases hie : e.1 = i
    · subst hie
      rw [getD_set_same hf]
      have h1 := hH.st e he
      have h2 := h.low H hH e.2.2 ht
      omega
    · rw [getD_set_ne hie]; exact h.low H hH i hi }
end Go.Rx
namespace Go.Proofs.Ytcoeknnghfajnaa
open Go Go.W Go.Tk Go.Rx Go.Maps
def goalB (T : Nt) (i : Nat) : Bool := match (stsK T.vars T.vars.length)[i]? with | some s => hdB s T.goal | none => false
def d0 (T : Nt) (i : Nat) : Nat := if goalB T i = true then 0 else Inf
/-- The costs that a search for distances has. -/
def CvOk (T : Nt) (cv : Value) (c : Nat → Nat) (w : World) : Prop := (cv = .slice none 0 0 ∧ ∀ i o, T.ops[i]? = some o → c i = o.cost) ∨ ∃ cl a cap, cv = .slice (some a) cl.length cap ∧ Vw w cv nE cl ∧ cl.length = T.ops.length ∧ ∀ i, c i = cl.getD i 0
theorem CvOk.kp {T : Nt} {cv : Value} {c : Nat → Nat} {w w' : World} (h : CvOk T cv c w) (k : Kp [] w w') : CvOk T cv c w' := by
  rcases h with h | ⟨cl, a, cap, h1, h2, h3⟩
  · exact .inl h
  · exact .inr ⟨cl, a, cap, h1, h2.kp0 k, h3⟩
theorem CvOk.of {T : Nt} {cv : Value} {cl : List Nat} {w : World} (h : Vw w cv nE cl) (hl : cl.length = T.ops.length) : CvOk T cv (fun i => cl.getD i 0) w := by
  rcases sl_nil h with ⟨rfl, rfl⟩ | ⟨a, cap, e⟩
  · refine .inl ⟨rfl, fun i o ho => ?_⟩
    have := (List.getElem?_eq_some_iff.1 ho).1
    simp at hl; omega
  · exact .inr ⟨cl, a, cap, e, h, hl, fun _ => rfl⟩
end Go.Proofs.Ytcoeknnghfajnaa
end
section
set_option maxRecDepth 100000
set_option linter.unusedSimpArgs false
set_option linter.unusedVariables false
namespace Go.Rx
open Go Go.W Go.Tk
/-- There are values. -/
theorem IsVal.ex (U : List Un) (S : List Nat) : ∃ V, IsVal U S V := by
  have hex : ∀ f, ∃ x, (∀ k, Der U S f k → x ≤ k) ∧ x ≤ Inf ∧ (x < Inf → Der U S f x) := fun f => by
    rcases Classical.em (∃ k, Der U S f k) with ⟨k, hk⟩ | hn
    · obtain ⟨w, hw, hm⟩ := Lst.ex hk
      rcases Nat.lt_or_ge w Inf with h | h
      · exact ⟨w, hm, by omega, fun _ => hw⟩
      · exact ⟨Inf, fun j hj => by have := hm j hj; omega, Nat.le_refl _, fun h => by omega⟩
    · exact ⟨Inf, fun k hk => absurd ⟨k, hk⟩ hn, Nat.le_refl _, fun h => by omega⟩
  refine ⟨fun f => Classical.choose (hex f), fun f hf => ?_, fun u hu hlt => ?_, fun f hf => (Classical.choose_spec (hex f)).2.2 hf, fun f => (Classical.choose_spec (hex f)).2.1⟩
  · have := (Classical.choose_spec (hex f)).1 0 (.base hf)
    omega
  · refine (Classical.choose_spec (hex u.makes)).1 _ (.step hu _ fun n hn => (Classical.choose_spec (hex n)).2.2 ?_)
    have := gr_mem (V := fun f => Classical.choose (hex f)) hn
    omega
end Go.Rx
namespace Go.Proofs.Ytcoeknnghfajnaa
open Go Go.W Go.Tk Go.Rx Go.Maps
/-- Values in all states. -/
def VsOk (T : Nt) (U : List Un) (vS : List Nat → Nat → Nat) : Prop := ∀ s, IsVal U (stN T.vars s T.vars.length) (vS s)
theorem VsOk.ex (T : Nt) (U : List Un) : ∃ vS, VsOk T U vS := ⟨fun s => Classical.choose (IsVal.ex U (stN T.vars s T.vars.length)), fun s => Classical.choose_spec (IsVal.ex U (stN T.vars s T.vars.length))⟩
/-- The greatest value of a goal fact, in a state. -/
def hM (T : Nt) (vS : List Nat → Nat → Nat) (s : List Nat) : Nat := grF T.vars (vS s) T.goal
def hI (T : Nt) (vS : List Nat → Nat → Nat) (i : Nat) : Nat := match (stsK T.vars T.vars.length)[i]? with | some s => hM T vS s | none => 0
end Go.Proofs.Ytcoeknnghfajnaa
end
section
set_option linter.unusedVariables false
set_option linter.unusedSimpArgs false
namespace Go.W
open Go Go.ChangeShapes Go.WideShapes Go.ChangeAt Go.RowKit Go.Deep
section
variable {H : Type} {enc : TypeId × Value → H} {P : Program}
/-- A slice in the input, by its elements. -/
theorem el_vw {α : Type} {encα : α → List Value} {ok : α → Prop} {W : World} {t e : TypeId} {sz : Nat} {v : Value} {fu : Nat} {x : DataW H × List MemPlace} (ht : P.underlying t = some (.slice e)) (hC : P.cellsOf e = sz) (hz : 0 < sz) (he : ∀ x, (encα x).length = sz)
    (hel : ∀ n cs x, cs.length = sz → DataW.trod enc P W 0 (fun _ => true) true n e cs = some x → ∃ a, cs = encα a ∧ ok a) 
    (h : DataW.trod enc P W 0 (fun _ => true) true fu t [v] = some x) :
    ∃ l : List α, Vw W v encα l ∧ (∀ a ∈ l, ok a) ∧ l.length ≤ maxLen := by
  rcases open_slice ht h with ⟨hcs, hx⟩ | ⟨a, len, cap, m, n, D, Pl, hcs, hb, hl, hm, hmm, hx, hi⟩
  · simp at hcs
    subst hcs
    exact ⟨[], Vw.nil _ _, by simp, by simp⟩
  · simp at hcs
    subst hcs
    simp only [if_true] at hmm
    subst hmm
    obtain ⟨n0, hn0⟩ : ∃ n0, n0 = len := ⟨_, rfl⟩
    rw [← hn0] at hl ⊢
    have key : ∀ k, k ≤ m → ∃ l : List α, l.length = k ∧ (∀ x ∈ l, ok x) ∧ ∀ j u, (l.flatMap encα)[j]? = some u → W.cell? (a.add j) = some u := by
      intro k
      induction k with
      | zero => exact fun _ => ⟨[], rfl, by simp, by simp⟩
      | succ k ih =>
        intro hk
        obtain ⟨l, hll, ho, hc⟩ := ih (by omega)
        obtain ⟨cs, hcs, htr⟩ := hi k (by omega)
        rw [hC] at hcs
        obtain ⟨_, hlen, hat⟩ := World.cells?_some hcs
        obtain ⟨x, rfl, hox⟩ := hel _ _ _ hlen htr
        refine ⟨l ++ [x], by simp [hll], ?_, ?_⟩
        · intro y hy
          rcases List.mem_append.1 hy with h1 | h1
          · exact ho y h1
          · simp at h1; subst h1; exact hox
        · intro j u hj
          rw [List.flatMap_append, List.flatMap_cons, List.flatMap_nil, List.append_nil] at hj
          have hfl := flatMap_len he l
          rw [hll] at hfl
          by_cases hjl : j < k * sz
          · rw [List.getElem?_append_left (by omega)] at hj
            exact hc j u hj
          · rw [List.getElem?_append_right (by omega), hfl] at hj
            have hjs : j - k * sz < sz := by have h9 := (List.getElem?_eq_some_iff.1 hj).1; rw [he x] at h9; exact h9
            have := hat (j - k * sz) hjs
            rw [Go.Deep.add_add, show k * sz + (j - k * sz) = j by omega] at this
            rw [this]; exact hj
    obtain ⟨l, hll, ho, hc⟩ := key m (Nat.le_refl _)
    have hvw : Vw W (.slice (some a) n0 m) encα (l.take n0) := by
      have hlen : (l.take n0).length = n0 := by simp; omega
      refine .inr ⟨a, m, by rw [hlen], by omega, fun hne => ?_, fun j u hj => hc j u ?_⟩
      · have hn0 : 0 < n0 := by
          rcases Nat.eq_zero_or_pos n0 with h0 | h0
          · subst h0; simp at hne
          · exact h0
        obtain ⟨cs, hcs, _⟩ := hi 0 (by omega)
        rw [hC] at hcs
        obtain ⟨_, hlen', hat⟩ := World.cells?_some hcs
        have h1 := hat 0 hz
        rw [List.getElem?_eq_getElem (by omega)] at h1
        have := World.cell?_spot h1
        rw [Go.Deep.add_add] at this
        simp at this
        simpa [Addr.add] using this
      · have : l.flatMap encα = (l.take n0).flatMap encα ++ (l.drop n0).flatMap encα := by rw [← List.flatMap_append, List.take_append_drop]
        rw [this, List.getElem?_append_left (List.getElem?_eq_some_iff.1 hj).1]
        exact hj
    exact ⟨_, hvw, fun x hx => ho x (List.mem_of_mem_take hx), by rw [List.length_take]; omega⟩
end
end Go.W
end
