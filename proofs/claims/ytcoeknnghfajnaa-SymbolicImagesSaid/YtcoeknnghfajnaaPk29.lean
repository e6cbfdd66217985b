/-
  A part of the proof of this claim's statement (SyDG, RxYL, RxYM, LibN): plain theorems; no conditions beyond those each names.
-/
import Derived.Test.YtcoeknnghfajnaaPk28
import Derived.Test.YtcoeknnghfajnaaPk25
import Derived.Test.YtcoeknnghfajnaaPk09
import Derived.Test.YtcoeknnghfajnaaPk08
import Derived.HandedShaped
import Derived.Shelf.Vars
section
set_option maxRecDepth 100000
set_option linter.unusedSimpArgs false
set_option linter.unusedVariables false
namespace Go.Proofs.Ytcoeknnghfajnaa
open Go Go.W Go.Tk Go.Rx Go.Bd Go.Sy Go.Maps
section
variable {w w1 : World} {F : List Nat} {A B B' : Asr} {s m lim : Nat} {T : Nt} {q : SpC} {ns : Ns} {ks : List (Nat × Bool)} {ss : List (Nat × Nat)}
theorem SpcA.intoI {A : Asr} : Imp (Star A (SpcA s m lim T q ns ks ss B)) (SpcA s m lim T q ns ks ss (Star A B)) := by
  unfold SpcA
  exact Imp.bk8
end
theorem Rds.vws {α : Type} {enc : α → List Value} {ps : List (Cell1 × List α)} {B : Asr} {p : Cell1 × List α} (hp : p ∈ ps) : Rds (Star (VwsA enc ps) B) fun w' => Vw w' p.1.1 enc p.2 := fun w' F' hs => by
  obtain ⟨Fa, Fb, ha, _⟩ := hs
  exact ha.1 p hp
def ImI (tb : Nat) (T : Nt) (w' : World) : Prop := w'.heap[tb]? = some (tkO T.raw) ∧ NtR w' T
theorem img_pre {T : Nt} {o : No} {P : List Nat → Bool} (z : List Nat) : imgP T o (preP o P) z = (P z && imgP T o (fun _ => true) z) := by
  unfold imgP preP
  rw [Bool.eq_iff_iff]
  simp only [List.any_eq_true, Bool.and_eq_true, decide_eq_true_eq]
  constructor
  · rintro ⟨x, hx, ⟨⟨_, h2⟩, h3⟩, rfl⟩
    exact ⟨h2, x, hx, ⟨trivial, h3⟩, rfl⟩
  · rintro ⟨h2, x, hx, ⟨_, h3⟩, rfl⟩
    exact ⟨x, hx, ⟨⟨h3, h2⟩, h3⟩, rfl⟩
theorem img_un {T : Nt} {o : No} {P Q : List Nat → Bool} (z : List Nat) : imgP T o (fun x => P x || Q x) z = (imgP T o P z || imgP T o Q z) := by
  unfold imgP
  rw [Bool.eq_iff_iff]
  simp only [List.any_eq_true, Bool.and_eq_true, Bool.or_eq_true, decide_eq_true_eq]
  constructor
  · rintro ⟨x, hx, ⟨h1 | h1, h3⟩, rfl⟩
    · exact .inl ⟨x, hx, ⟨h1, h3⟩, rfl⟩
    · exact .inr ⟨x, hx, ⟨h1, h3⟩, rfl⟩
  · rintro (⟨x, hx, ⟨h1, h3⟩, rfl⟩ | ⟨x, hx, ⟨h1, h3⟩, rfl⟩)
    · exact ⟨x, hx, ⟨.inl h1, h3⟩, rfl⟩
    · exact ⟨x, hx, ⟨.inr h1, h3⟩, rfl⟩
theorem img_no {T : Nt} {o : No} {z : List Nat} : imgP T o (fun _ => false) z = false := by
  unfold imgP
  simp
theorem pre_un {o : No} {P Q : List Nat → Bool} (z : List Nat) : preP o (fun x => P x || Q x) z = (preP o P z || preP o Q z) := by
  unfold preP
  cases hdB z o.pre <;> rfl
theorem pre_cu {o : No} {P Q : List Nat → Bool} (z : List Nat) : preP o (fun x => P x && Q x) z = (preP o P z && preP o Q z) := by
  unfold preP
  cases hdB z o.pre <;> rfl
theorem pre_le {o : No} {P Q : List Nat → Bool} (z : List Nat) : preP o (fun x => P x && !Q x) z = (preP o P z && !preP o Q z) := by
  unfold preP
  cases hdB z o.pre <;> simp
theorem ps_at {ps : List (Cell1 × List Nat)} {l : List (List Nat)} {i : Nat} (h : ps.map (·.2) = l) (hi : i < l.length) : ∃ p, ps[i]? = some p ∧ l[i]? = some p.2 := by
  subst h
  rw [List.length_map] at hi
  exact ⟨_, List.getElem?_eq_getElem hi, by rw [List.getElem?_map, List.getElem?_eq_getElem hi]; rfl⟩
set_option maxHeartbeats 2000000 in
theorem law_simages {w : World} (t : Tk) (opn : Nat) (pv qv : Value) (pl ql : List Fa) (ht : TkR w t) (hl : TkL t) (hop : opn ≤ 255) (hpv : Vw w pv faE pl) (hqv : Vw w qv faE ql) (hpl : pl.length ≤ 9223372036854775807) (hql : ql.length ≤ 9223372036854775807) :
    Calls Try.prog 4 [tkV t, .int .u8 (opn : Nat), pv, qv].toArray w fun e w' => ∃ x, e = .returned x ∧ x = .bool true ∧ Kp [] w w' := by
  refine enter Try.func4 mixed low4 (Nat.le_of_ble_eq_true rfl) ?_
  simp only [L4]
  obtain ⟨tb, htb⟩ : ∃ tb, tb = w.heap.size := ⟨_, rfl⟩
  obtain ⟨w1, hw1⟩ : ∃ w1, w1 = w.alloc (tkO t) := ⟨_, rfl⟩
  obtain ⟨R, hR⟩ : ∃ R, R = List.range w.heap.size := ⟨_, rfl⟩
  have hw1' : w.alloc (.cells #[t.vv.1, t.nv.1, t.gv.1, t.ov.1] 26 (0, 0)) = w1 := by rw [hw1]; rfl
  obtain ⟨B, hB⟩ : ∃ B, B = Star (ObjA tb (tkO t)) (OldA w) := ⟨_, rfl⟩
  have hLB : Lcl B := by rw [hB]; exact Lcl.obj.star OldA.lcl
  have h1 : At w R B w1 := by rw [hB, htb, hw1, hR]; exact At.alloc _ OldA.lcl (OldA.start w)
  have rO : Rds B fun w' => w'.heap[tb]? = some (tkO t) := by rw [hB]; exact Rds.obj
  have rK : Rds B fun w' => Kp [] w w' := by rw [hB]; exact Rds.star (OldA.rds fun w' k => k)
  have at0 : ∀ {w'}, At w R B w' → w'.heap[tb]? = some (tkO t) ∧ Kp [] w w' := fun h => by
    obtain ⟨⟨F', h2, _⟩, _⟩ := h
    exact ⟨rO _ _ h2, rK _ _ h2⟩
  have ob1 := (at0 h1).1
  simp [tkV, ← htb, hw1', rd_tk ob1]
  refine cl_of (small_spec t (ht.kp (at0 h1).2) hl) ?_
  rintro _ w2 ⟨rfl, k2⟩
  have h2 := h1.kp0 hLB k2
  cases hsm : smallB t with
  | false =>
    simp
    refine cl_of (awake_spec hLB h2) ?_
    rintro _ w3 ⟨rfl, h3⟩
    simp
    exact (at0 h3).2
  | true =>
    obtain ⟨T, rfl, hT⟩ := small_nat hl hsm
    have hr := NtR.raw.1 ht
    have oc2 := (at0 h2).1
    unfold tkO at oc2
    have hol := hT.ol
    simp [cell_blk oc2, raw_vv, raw_ov, (hr.kp (at0 h2).2).ops.len]
    by_cases hn0 : T.ops.length = 0
    · simp [hn0]
      refine cl_of (awake_spec hLB h2) ?_
      rintro _ w3 ⟨rfl, h3⟩
      simp
      exact (at0 h3).2
    have hn1 : (((T.ops.length : Nat) : Int) == 0) = false := beq_eq_false_iff_ne.2 (by omega)
    rw [hn1]
    simp [cell_blk oc2, raw_vv, raw_ov]
    refine cl_of (proper_spec T.vv.1 pv (T.vars.map iN) pl (vw_n.2 (hr.kp (at0 h2).2).vars) (hpv.kp0 (at0 h2).2) hpl) ?_
    rintro _ w3 ⟨rfl, k3⟩
    have h3 := h2.kp0 hLB k3
    cases hpp : propF (T.vars.map iN) pl with
    | false =>
      simp
      refine cl_of (awake_spec hLB h3) ?_
      rintro _ w4 ⟨rfl, h4⟩
      simp
      exact (at0 h4).2
    | true =>
      have oc3 := (at0 h3).1
      unfold tkO at oc3
      simp [cell_blk oc3, raw_vv]
      refine cl_of (proper_spec T.vv.1 qv (T.vars.map iN) ql (vw_n.2 (hr.kp (at0 h3).2).vars) (hqv.kp0 (at0 h3).2) hql) ?_
      rintro _ w4 ⟨rfl, k4⟩
      have h4 := h3.kp0 hLB k4
      cases hqp : propF (T.vars.map iN) ql with
      | false =>
        simp
        refine cl_of (awake_spec hLB h4) ?_
        rintro _ w5 ⟨rfl, h5⟩
        simp
        exact (at0 h5).2
      | true =>
        simp
        refine cl_of (awake_spec hLB h4) ?_
        rintro _ w5 ⟨rfl, h5⟩
        obtain ⟨p, rfl, hpo⟩ := prop_nat (nvars := T.vars) rfl hpp
        obtain ⟨p2, rfl, hqo⟩ := prop_nat (nvars := T.vars) rfl hqp
        have rN : Rds B fun w' => NtR w' T := by rw [hB]; exact Rds.star (OldA.rds fun w' k => hr.kp k)
        have rP : Rds B fun w' => Vw w' pv fcE p := by rw [hB]; exact Rds.star (OldA.rds fun w' k => vw_fc.1 (hpv.kp0 k))
        have rQ : Rds B fun w' => Vw w' qv fcE p2 := by rw [hB]; exact Rds.star (OldA.rds fun w' k => vw_fc.1 (hqv.kp0 k))
        have oc5 := (at0 h5).1
        unfold tkO at oc5
        obtain ⟨k, hk⟩ : ∃ k, k = opn % T.ops.length := ⟨_, rfl⟩
        have hkl : k < T.ops.length := by rw [hk]; exact Nat.mod_lt _ (by omega)
        have ec : ∀ K : Kont Value, @cnvH Try.prog 5 3 (.int .u8 (opn : Nat)) K = K.run (.int .i64 (opn : Nat)) := fun K => by
          rw [cnvS_i]
          simp [wrap_i64 (n := (opn : Nat)) (by omega) (by omega)]
        have er : ∀ K : Kont Value, @intH .rem .i64 ((opn : Nat) : Int) .i64 ((T.ops.length : Nat) : Int) K = K.run (.int .i64 (k : Nat)) := fun K => by
          have hne : ((T.ops.length : Nat) : Int) ≠ 0 := by omega
          have e : ((opn : Nat) : Int).tmod ((T.ops.length : Nat) : Int) = (k : Nat) := by rw [hk]; rfl
          rw [intS_rem, e]
          simp [hne, hn0]
        simp [-intS_rem, -cnvS_i, ec, er, cell_blk oc5, raw_vv, raw_ov, (hr.kp (at0 h5).2).ops.len, rd_tk (at0 h5).1, raw_nv, raw_gv]
        clear ec er
        have hA0 : Alk T T := ⟨rfl, rfl, rfl, rfl⟩
        obtain ⟨o, ho⟩ : ∃ o, T.ops[k]? = some o := ⟨_, List.getElem?_eq_getElem hkl⟩
        have hnb : n0R T + imgN (nBits T.vars) < 1048576 := img_num (smc hT hA0)
        refine cl_of (snew_spec T 1048576 hLB h5 rN hT.g hT.good hl (by omega) (by omega) (newW (W := fun G => BasS T G ∨ ShS (nBits T.vars) G) fun G h => .inl (.inl h))) ?_
        rintro _ w6 hnew
        have hbits := (sm_bs hT).1
        rcases hnew with ⟨hbig, _⟩ | ⟨_, e, ns, hs, hnew⟩
        · omega
        have hns : e = false := by
          have hlt : nbL T + 512 < 1048576 := by unfold n0R at hnb; omega
          exact (RunR.start (S := ShS (nBits T.vars)) ((cov_basL hT.g.vars).or (cov_sh _ _)) (fun G h => .inr h) hs hlt).1
        subst hns
        rcases hnew with ⟨h, _⟩ | ⟨_, s, m, T', q, hA, rfl, hG, h6⟩
        · cases h
        obtain ⟨o', ho', epre, eap, _⟩ := hA.sk ho
        have hK := smc hT hA
        have hom := List.mem_of_getElem? ho'
        have hC : LrC T' (W0R T' o') (n0R T') := w0r_ok hK hom
        have hnum := img_num hK
        have hR : ∀ G, RelS2 T' o' G → W0R T' o' G := fun G h => .inr h
        obtain ⟨n0, hn0e⟩ : ∃ n0, n0 = n0R T' := ⟨_, rfl⟩
        rw [← hn0e] at hC hnum
        have hr0 : RunR (2 * nBits T'.vars) 1048576 (ShS (nBits T'.vars)) (W0R T' o') 0 ns := by
          refine (RunR.start hC.cov hC.sh (e := false) ?_ (by omega)).2
          rw [hA.vars]
          refine hs.mono fun G hG => .inl (hG.imp (fun h => ?_) fun h => by rw [hA.vars]; exact h)
          rw [(bas_alk hA.vars).1]
          exact h
        simp
        obtain ⟨ub, hub⟩ : ∃ ub, ub = w6.heap.size := ⟨_, rfl⟩
        obtain ⟨w7, hw7⟩ : ∃ w7, w7 = w6.alloc (.cells #[.int .i64 0] 37) := ⟨_, rfl⟩
        obtain ⟨U, hU⟩ : ∃ U, U = Star (ObjA ub (.cells #[.int .i64 0] 37)) B := ⟨_, rfl⟩
        have hLU : Lcl U := by rw [hU]; exact Lcl.obj.star hLB
        have h7 : At w R (SpcA s m 1048576 T' q ns (putM [(0, true)] q.all true) [] U) w7 := by
          rw [hU, hub, hw7]
          exact SpcA.into (At.alloc _ (SpcA.lcl hLB) h6)
        have hks0 : (putM [((0 : Nat), true)] q.all true).length ≤ 2 := putM_len_le
        have L7 : Lr s m 1048576 T' q (W0R T' o') U w R 0 2 [(q.all, fun _ => true), (0, fun _ => false)] w7 := by
          refine ⟨ns, _, [], hr0, hG, fun z hz => ?_, hks0, by simp, h7⟩
          simp at hz
          rcases hz with rfl | rfl
          · exact ⟨getM_put _ _ _, hG.all⟩
          · refine ⟨?_, ⟨by unfold Ref; omega, fun a => by rw [eval_zero]; simp⟩⟩
            by_cases h0 : q.all = 0
            · rw [h0]; exact getM_put _ _ _
            · rw [getM_put_ne h0]; rfl
        have rU : ∀ {P : World → Prop}, Rds B P → Rds U P := fun h => by rw [hU]; exact Rds.star h
        have rP2 := rU rP
        have rQ2 := rU rQ
        have hpp2 : propF (T'.vars.map iN) (p.map faN) = true := by rw [hA.vars]; exact hpp
        have hqp2 : propF (T'.vars.map iN) (p2.map faN) = true := by rw [hA.vars]; exact hqp
        have hpo2 : FcOk T'.vars p := by rw [hA.vars]; exact hpo
        have hqo2 : FcOk T'.vars p2 := by rw [hA.vars]; exact hqo
        obtain ⟨X, hX⟩ : ∃ X, X = 2 ^ (nBits T'.vars - 3) := ⟨_, rfl⟩
        obtain ⟨Y, hY⟩ : ∃ Y, Y = 12 * (3 * nBits T'.vars) := ⟨_, rfl⟩
        obtain ⟨I, hI⟩ : ∃ I, I = imC (nBits T'.vars) := ⟨_, rfl⟩
        obtain ⟨J, hJ⟩ : ∃ J, J = prC (nBits T'.vars) := ⟨_, rfl⟩
        unfold imgN at hnum
        rw [← hX, ← hY, ← hI, ← hJ] at hnum
        rw [← hub, ← hw7]
        refine cl_of (lr_partial pv p hC hLU L7 rP2 hpp2 hpo2 (cov_fcs hpo2 hK.vl) (by omega) (by omega)) ?_
        rintro _ w8 ⟨a, rfl, L8⟩
        rw [← hX, ← hY] at L8
        simp
        refine cl_of (of_nil _ a w8) ?_
        rintro _ w9 ⟨rfl, k9⟩
        have L9 := L8.kp0 hLU k9
        simp
        refine cl_of (lr_partial qv p2 hC hLU L9 rQ2 hqp2 hqo2 (cov_fcs hqo2 hK.vl) (by omega) (by omega)) ?_
        rintro _ w10 ⟨b, rfl, L10⟩
        rw [← hX, ← hY] at L10
        simp
        refine cl_of (of_nil _ b w10) ?_
        rintro _ w11 ⟨rfl, k11⟩
        have L11 := L10.kp0 hLU k11
        simp
        refine cl_of (lr_preimage a k o' (fun z => hdB z p) hC hR hLU L11 (.tail _ (.head _)) ho' (by omega) (by omega)) ?_
        rintro _ w12 ⟨pre, rfl, L12⟩
        rw [← hJ] at L12
        simp
        refine cl_of (of_nil _ pre w12) ?_
        rintro _ w13 ⟨rfl, k13⟩
        have L13 := L12.kp0 hLU k13
        have oc13 := L13.frame (rU rO)
        unfold tkO at oc13
        have hvl := hT.vl
        have hN : nS T.vars ≤ 512 := sts512 hT
        simp [cell_blk oc13, raw_vv]
        refine cl_of (states_spec T.vv.1 T.vars (L13.frame (rU rN)).vars (by omega) (fun n hn => by have := hT.g.vars n hn; omega) (SmT.sts hT) (fun k hk s hs => by have := (sts_ok k hk s hs).1; omega)) ?_
        rintro sv w14 h14
        obtain ⟨ns2, ks2, ss2, hr2, hG2, hk2, hkl2, hsl2, hA2⟩ := L13
        obtain ⟨rs, hrs, h15⟩ := LLA.opn (At.join (SpcA.lcl hLU) hA2 h14)
        have h16 := SpcA.into (h15.by (Imp.un SpcA.intoI))
        obtain ⟨B6, hB6⟩ : ∃ B6, B6 = Star (OwnA sv 22 1 sv1 rs) (Star (VwsA nE rs) U) := ⟨_, rfl⟩
        have hL6 : Lcl B6 := by rw [hB6]; exact Lcl.own.star (Lcl.vws.star hLU)
        rw [← hB6] at h16
        have rsv : Rds B6 fun w' => Vw w' sv sv1 rs := by rw [hB6]; exact Rds.own
        have rrw : ∀ r ∈ rs, Rds B6 fun w' => Vw w' r.1.1 nE r.2 := fun r hr => by rw [hB6]; exact Rds.star (Rds.vws hr)
        have rU6 : ∀ {P : World → Prop}, Rds B P → Rds B6 P := fun h => by rw [hB6]; exact Rds.star (Rds.star (rU h))
        have hrl : rs.length = nS T.vars := by unfold nS; rw [← hrs]; simp
        have hkpre : Kn T' ns2 ks2 pre (preP o' fun z => hdB z p) := hk2 _ (.head _)
        have hasC : ∀ {B0 : Asr} {u0 : World} {rv : Value} {rl : List Nat}, Lcl B0 → At w R (SpcA s m 1048576 T' q ns2 ks2 ss2 B0) u0 → Rds B0 (fun w' => Vw w' rv nE rl) → StN T'.vars rl → Calls Try.prog 22 [.pointer (some ⟨s, 0, none⟩), .int .i64 (pre : Nat), rv].toArray u0 fun en w' => ∃ v, en = .returned v ∧ v = .tuple #[.bool (preP o' (fun z => hdB z p) rl), .nilIface] ∧ At w R (SpcA s m 1048576 T' q ns2 ks2 ss2 B0) w' := fun hB0 h0 hr0 hs0 => has_spec pre _ _ (preP o' fun z => hdB z p) hG2 hB0 h0 hkpre hr0 hs0
        simp [(SpcA.frame h16 rsv).len, hrl]
        refine range_loop (n := nS T.vars) (by omega) (fun i ρ w' => ρ 4 = .pointer (some ⟨tb, 0, none⟩) ∧ ρ 2 = pv ∧ ρ 9 = .int .i64 (k : Nat) ∧ ρ 10 = .pointer (some ⟨s, 0, none⟩) ∧ ρ 12 = .pointer (some ⟨ub, 0, none⟩) ∧ ρ 13 = .int .i64 (a : Nat) ∧ ρ 14 = .int .i64 (b : Nat) ∧ ρ 15 = .int .i64 (pre : Nat) ∧ ρ 94 = sv ∧ At w R (SpcA s m 1048576 T' q ns2 ks2 ss2 B6) w') (by simp) (by simp)
          ⟨by simp, by simp, by simp, by simp, by simp, by simp, by simp, by simp, by simp, h16⟩ (by decide) (fun _ _ _ _ h => by simpa using h) (fun _ _ _ _ h => by simpa using h) ?_ ?_
        · rintro i ρ w17 hi hc hlm ⟨g4, g2, g9, g10, g12, g13, g14, g15, g94, h17⟩
          obtain ⟨r, hr1, hr2'⟩ := ps_at hrs hi
          have hst := sts_st (List.mem_of_getElem? hr2')
          have hsv := SpcA.frame h17 rsv
          have es : w17.cell? (sv.adr.add i) = some r.1.1 := by simpa using hsv.at_ sv1_len hr1 (o := 0) (u := r.1.1) rfl
          have hki : (i : Int) < rs.length := by omega
          have oc17 := SpcA.frame h17 (rU6 rO)
          simp (disch := omega) [g4, g2, g9, g10, g12, g13, g14, g15, g94, hc, hlm, hsv.idx, es, rd_tk oc17, raw_vv, raw_nv, raw_gv, raw_ov]
          refine cl_of (apply_spec T r.1.1 r.2 k o (SpcA.frame h17 (rU6 rN)) hT.g ho (SpcA.frame h17 (rrw r (List.mem_of_getElem? hr1))) hst) ?_
          rintro x w18 hap
          unfold apV at hap
          have hrr := rrw r (List.mem_of_getElem? hr1)
          have hst2 : StN T'.vars r.2 := by rw [hA.vars]; exact hst
          by_cases hpre : hdB r.2 o.pre = true
          · rw [if_pos hpre] at hap
            obtain ⟨u, rfl, hnw⟩ := hap
            have h18 := SpcA.into (At.nw (SpcA.lcl hL6) h17 hnw)
            obtain ⟨B7, hB7⟩ : ∃ B7, B7 = Star (OwnA u 3 1 nE (apS o r.2)) B6 := ⟨_, rfl⟩
            have hL7 : Lcl B7 := by rw [hB7]; exact Lcl.own.star hL6
            have hrr7 : Rds B7 fun w' => Vw w' r.1.1 nE r.2 := by rw [hB7]; exact Rds.star hrr
            have hru7 : Rds B7 fun w' => Vw w' u nE (apS o r.2) := by rw [hB7]; exact Rds.own
            have hrp7 : Rds B7 fun w' => Vw w' pv fcE p := by rw [hB7]; exact Rds.star (rU6 rP)
            have hless7 : ∀ {w'}, At w R (SpcA s m 1048576 T' q ns2 ks2 ss2 B7) w' → At w R (SpcA s m 1048576 T' q ns2 ks2 ss2 B6) w' := fun h => by rw [hB7] at h; exact SpcA.less h
            rw [← hB7] at h18
            simp [g4, g2, g9, g10, g12, g13, g14, g15, g94, hc, hlm]
            refine cl_of (hasC hL7 h18 hrr7 hst2) ?_
            rintro _ w19 ⟨rfl, h19⟩
            simp [g4, g2, g9, g10, g12, g13, g14, g15, g94, hc, hlm]
            refine cl_of (holds_spec pv u p (apS o r.2) (SpcA.frame h19 hrp7) (SpcA.frame h19 hru7) (by have := hpo.len; omega) (fun f hf => by unfold apS; rw [apK_len, hst.len]; exact (hpo.rng f hf).1)) ?_
            rintro _ w20 ⟨rfl, k20⟩
            have h20 := hless7 (At.kp0 (SpcA.lcl hL7) h19 k20)
            simp [g4, g2, g9, g10, g12, g13, g14, g15, g94, hc, hlm, preP, epre, eap, hpre]
            exact h20
          · rw [if_neg hpre] at hap
            obtain ⟨rfl, k18⟩ := hap
            have h18 := At.kp0 (SpcA.lcl hL6) h17 k18
            simp [g4, g2, g9, g10, g12, g13, g14, g15, g94, hc, hlm]
            refine cl_of (hasC hL6 h18 hrr hst2) ?_
            rintro _ w19 ⟨rfl, h19⟩
            simp [g4, g2, g9, g10, g12, g13, g14, g15, g94, hc, hlm, preP, epre, eap, hpre]
            exact h19
        · rintro ρ w17 ⟨g4, g2, g9, g10, g12, g13, g14, g15, g94, h17⟩
          rw [hB6] at h17
          have L17 := (⟨ns2, ks2, ss2, hr2, hG2, hk2, hkl2, hsl2, SpcA.less (SpcA.less h17)⟩ : Lr s m 1048576 T' q (W0R T' o') U w R _ _ _ w17)
          have hom0 := List.mem_of_getElem? ho
          have hopo : FcOk T'.vars o'.pre := by rw [hA.vars, epre]; exact (hT.g.ops o hom0).pre
          have hop2 : propF (T'.vars.map iN) (o'.pre.map faN) = true := by
            rw [hA.vars, epre]
            have hg := hT.good
            unfold goodB at hg
            simp only [Bool.and_eq_true, List.all_eq_true] at hg
            have h1 := hg.2 _ (List.mem_map.2 ⟨o, hom0, rfl⟩)
            unfold Go.Tk.opB at h1
            simp only [Bool.and_eq_true] at h1
            exact h1.1.2
          have rPv : Rds U fun w' => Vw w' o.pv.1 fcE o'.pre := by
            rw [epre]
            exact fun w' F' hs => ((rU rN) w' F' hs).op o hom0 |>.pre
          -- STEPS
          simp [g4, g2, g9, g10, g12, g13, g14, g15]
          refine cl_of (lr_union a b (fun z => hdB z p) (fun z => hdB z p2) hC hLU L17 (.tail _ (.tail _ (.head _))) (.tail _ (.head _)) (by omega) (by omega)) ?_
          rintro _ w18 ⟨un, rfl, L18⟩
          rw [← hX] at L18
          simp [g4, g2, g9, g10, g12, g13, g14, g15]
          refine cl_of (of_nil _ un w18) ?_
          rintro _ w19 ⟨rfl, k19⟩
          have L19 := L18.kp0 hLU k19
          simp [g4, g2, g9, g10, g12, g13, g14, g15]
          refine cl_of (lr_intersect a b (fun z => hdB z p) (fun z => hdB z p2) hC hLU L19 (.tail _ (.tail _ (.tail _ (.head _)))) (.tail _ (.tail _ (.head _))) (by omega) (by omega)) ?_
          rintro _ w20 ⟨cu, rfl, L20⟩
          rw [← hX] at L20
          simp [g4, g2, g9, g10, g12, g13, g14, g15]
          refine cl_of (of_nil _ cu w20) ?_
          rintro _ w21 ⟨rfl, k21⟩
          have L21 := L20.kp0 hLU k21
          simp [g4, g2, g9, g10, g12, g13, g14, g15]
          refine cl_of (lr_minus a b (fun z => hdB z p) (fun z => hdB z p2) hC hLU L21 (.tail _ (.tail _ (.tail _ (.tail _ (.head _))))) (.tail _ (.tail _ (.tail _ (.head _)))) (by omega) (by omega)) ?_
          rintro _ w22 ⟨le, rfl, L22⟩
          rw [← hX] at L22
          simp [g4, g2, g9, g10, g12, g13, g14, g15]
          refine cl_of (of_nil _ le w22) ?_
          rintro _ w23 ⟨rfl, k23⟩
          have L23 := L22.kp0 hLU k23
          simp [g4, g2, g9, g10, g12, g13, g14, g15]
          refine cl_of (lr_preimage b k o' (fun z => hdB z p2) hC hR hLU L23 (.tail _ (.tail _ (.tail _ (.tail _ (.head _))))) ho' (by omega) (by omega)) ?_
          rintro _ w24 ⟨preB, rfl, L24⟩
          rw [← hJ] at L24
          simp [g4, g2, g9, g10, g12, g13, g14, g15]
          refine cl_of (of_nil _ preB w24) ?_
          rintro _ w25 ⟨rfl, k25⟩
          have L25 := L24.kp0 hLU k25
          simp [g4, g2, g9, g10, g12, g13, g14, g15]
          have Ld := L25.drew hLU
          refine any_seq (ImI tb T) (by kernel_rfl) ⟨Ld.frame (rU rO), Ld.frame (rU rN)⟩ ?_
          simp [g4, g2, g9, g10, g12, g13, g14, g15]
          refine cl_of (lr_image pre k o' (preP o' fun z => hdB z p) hK hC hR hLU Ld (.tail _ (.tail _ (.tail _ (.tail _ (.head _))))) ho' (by omega) (by omega)) ?_
          rintro _ w26 ⟨x1, rfl, L26⟩
          rw [← hI] at L26
          simp [g4, g2, g9, g10, g12, g13, g14, g15]
          refine invH_mk ⟨L26.frame (rU rO), L26.frame (rU rN)⟩ ?_
          simp [g4, g2, g9, g10, g12, g13, g14, g15]
          refine cl_of (of_nil _ x1 w26) ?_
          rintro _ w27 ⟨rfl, k27⟩
          have L27 := L26.kp0 hLU k27
          simp [g4, g2, g9, g10, g12, g13, g14, g15]
          refine invH_mk ⟨L27.frame (rU rO), L27.frame (rU rN)⟩ ?_
          simp [g4, g2, g9, g10, g12, g13, g14, g15]
          refine cl_of (lr_all L27) ?_
          rintro _ w28 ⟨rfl, L28⟩
          simp [g4, g2, g9, g10, g12, g13, g14, g15]
          refine invH_mk ⟨L28.frame (rU rO), L28.frame (rU rN)⟩ ?_
          simp [g4, g2, g9, g10, g12, g13, g14, g15]
          refine cl_of (lr_image q.all k o' (fun _ => true) hK hC hR hLU L28 (.tail _ (.tail _ (.tail _ (.tail _ (.tail _ (.tail _ (.tail _ (.tail _ (.head _))))))))) ho' (by omega) (by omega)) ?_
          rintro _ w29 ⟨x2, rfl, L29⟩
          rw [← hI] at L29
          simp [g4, g2, g9, g10, g12, g13, g14, g15]
          refine invH_mk ⟨L29.frame (rU rO), L29.frame (rU rN)⟩ ?_
          simp [g4, g2, g9, g10, g12, g13, g14, g15]
          refine cl_of (of_nil _ x2 w29) ?_
          rintro _ w30 ⟨rfl, k30⟩
          have L30 := L29.kp0 hLU k30
          simp [g4, g2, g9, g10, g12, g13, g14, g15]
          refine invH_mk ⟨L30.frame (rU rO), L30.frame (rU rN)⟩ ?_
          simp [g4, g2, g9, g10, g12, g13, g14, g15]
          refine cl_of (lr_intersect a x2 (fun z => hdB z p) (imgP T' o' (fun _ => true)) hC hLU L30 (.tail _ (.tail _ (.tail _ (.tail _ (.tail _ (.tail _ (.tail _ (.tail _ (.head _))))))))) (.head _) (by omega) (by omega)) ?_
          rintro _ w31 ⟨x3, rfl, L31⟩
          rw [← hX] at L31
          simp [g4, g2, g9, g10, g12, g13, g14, g15]
          refine invH_mk ⟨L31.frame (rU rO), L31.frame (rU rN)⟩ ?_
          simp [g4, g2, g9, g10, g12, g13, g14, g15]
          refine cl_of (of_nil _ x3 w31) ?_
          rintro _ w32 ⟨rfl, k32⟩
          have L32 := L31.kp0 hLU k32
          simp [g4, g2, g9, g10, g12, g13, g14, g15]
          refine invH_mk ⟨L32.frame (rU rO), L32.frame (rU rN)⟩ ?_
          have e1 : x1 = x3 := L32.eq (P := (imgP T' o' (preP o' fun z => hdB z p))) (Q := (fun z => hdB z p && imgP T' o' (fun _ => true) z)) (.tail _ (.tail _ (.head _))) (.head _) fun z hz => img_pre _
          rw [← e1]
          simp [g4, g2, g9, g10, g12, g13, g14, g15]
          refine cl_of (lr_image un k o' (fun z => hdB z p || hdB z p2) hK hC hR hLU L32 (.tail _ (.tail _ (.tail _ (.tail _ (.tail _ (.tail _ (.head _))))))) ho' (by omega) (by omega)) ?_
          rintro _ w33 ⟨x4, rfl, L33⟩
          rw [← hI] at L33
          simp [g4, g2, g9, g10, g12, g13, g14, g15]
          refine invH_mk ⟨L33.frame (rU rO), L33.frame (rU rN)⟩ ?_
          simp [g4, g2, g9, g10, g12, g13, g14, g15]
          refine cl_of (of_nil _ x4 w33) ?_
          rintro _ w34 ⟨rfl, k34⟩
          have L34 := L33.kp0 hLU k34
          simp [g4, g2, g9, g10, g12, g13, g14, g15]
          refine invH_mk ⟨L34.frame (rU rO), L34.frame (rU rN)⟩ ?_
          simp [g4, g2, g9, g10, g12, g13, g14, g15]
          refine cl_of (lr_image a k o' (fun z => hdB z p) hK hC hR hLU L34 (.tail _ (.tail _ (.tail _ (.tail _ (.tail _ (.tail _ (.tail _ (.tail _ (.tail _ (.tail _ (.head _))))))))))) ho' (by omega) (by omega)) ?_
          rintro _ w35 ⟨x5, rfl, L35⟩
          rw [← hI] at L35
          simp [g4, g2, g9, g10, g12, g13, g14, g15]
          refine invH_mk ⟨L35.frame (rU rO), L35.frame (rU rN)⟩ ?_
          simp [g4, g2, g9, g10, g12, g13, g14, g15]
          refine cl_of (of_nil _ x5 w35) ?_
          rintro _ w36 ⟨rfl, k36⟩
          have L36 := L35.kp0 hLU k36
          simp [g4, g2, g9, g10, g12, g13, g14, g15]
          refine invH_mk ⟨L36.frame (rU rO), L36.frame (rU rN)⟩ ?_
          simp [g4, g2, g9, g10, g12, g13, g14, g15]
          refine cl_of (lr_image b k o' (fun z => hdB z p2) hK hC hR hLU L36 (.tail _ (.tail _ (.tail _ (.tail _ (.tail _ (.tail _ (.tail _ (.tail _ (.tail _ (.tail _ (.head _))))))))))) ho' (by omega) (by omega)) ?_
          rintro _ w37 ⟨x6, rfl, L37⟩
          rw [← hI] at L37
          simp [g4, g2, g9, g10, g12, g13, g14, g15]
          refine invH_mk ⟨L37.frame (rU rO), L37.frame (rU rN)⟩ ?_
          simp [g4, g2, g9, g10, g12, g13, g14, g15]
          refine cl_of (of_nil _ x6 w37) ?_
          rintro _ w38 ⟨rfl, k38⟩
          have L38 := L37.kp0 hLU k38
          simp [g4, g2, g9, g10, g12, g13, g14, g15]
          refine invH_mk ⟨L38.frame (rU rO), L38.frame (rU rN)⟩ ?_
          simp [g4, g2, g9, g10, g12, g13, g14, g15]
          refine cl_of (lr_union x5 x6 (imgP T' o' (fun z => hdB z p)) (imgP T' o' (fun z => hdB z p2)) hC hLU L38 (.tail _ (.head _)) (.head _) (by omega) (by omega)) ?_
          rintro _ w39 ⟨x7, rfl, L39⟩
          rw [← hX] at L39
          simp [g4, g2, g9, g10, g12, g13, g14, g15]
          refine invH_mk ⟨L39.frame (rU rO), L39.frame (rU rN)⟩ ?_
          simp [g4, g2, g9, g10, g12, g13, g14, g15]
          refine cl_of (of_nil _ x7 w39) ?_
          rintro _ w40 ⟨rfl, k40⟩
          have L40 := L39.kp0 hLU k40
          simp [g4, g2, g9, g10, g12, g13, g14, g15]
          refine invH_mk ⟨L40.frame (rU rO), L40.frame (rU rN)⟩ ?_
          have e2 : x4 = x7 := L40.eq (P := (imgP T' o' (fun z => hdB z p || hdB z p2))) (Q := (fun z => imgP T' o' (fun z => hdB z p) z || imgP T' o' (fun z => hdB z p2) z)) (.tail _ (.tail _ (.tail _ (.head _)))) (.head _) fun z hz => img_un _
          rw [← e2]
          simp [g4, g2, g9, g10, g12, g13, g14, g15]
          refine cl_of (lr_preimage un k o' (fun z => hdB z p || hdB z p2) hC hR hLU L40 (.tail _ (.tail _ (.tail _ (.tail _ (.tail _ (.tail _ (.tail _ (.tail _ (.tail _ (.tail _ (.head _))))))))))) ho' (by omega) (by omega)) ?_
          rintro _ w41 ⟨x8, rfl, L41⟩
          rw [← hJ] at L41
          simp [g4, g2, g9, g10, g12, g13, g14, g15]
          refine invH_mk ⟨L41.frame (rU rO), L41.frame (rU rN)⟩ ?_
          simp [g4, g2, g9, g10, g12, g13, g14, g15]
          refine cl_of (of_nil _ x8 w41) ?_
          rintro _ w42 ⟨rfl, k42⟩
          have L42 := L41.kp0 hLU k42
          simp [g4, g2, g9, g10, g12, g13, g14, g15]
          refine invH_mk ⟨L42.frame (rU rO), L42.frame (rU rN)⟩ ?_
          simp [g4, g2, g9, g10, g12, g13, g14, g15]
          refine cl_of (lr_union pre preB (preP o' fun z => hdB z p) (preP o' fun z => hdB z p2) hC hLU L42 (.tail _ (.tail _ (.tail _ (.tail _ (.tail _ (.tail _ (.tail _ (.tail _ (.tail _ (.tail _ (.tail _ (.tail _ (.head _))))))))))))) (.tail _ (.tail _ (.tail _ (.tail _ (.tail _ (.tail _ (.tail _ (.tail _ (.head _))))))))) (by omega) (by omega)) ?_
          rintro _ w43 ⟨x9, rfl, L43⟩
          rw [← hX] at L43
          simp [g4, g2, g9, g10, g12, g13, g14, g15]
          refine invH_mk ⟨L43.frame (rU rO), L43.frame (rU rN)⟩ ?_
          simp [g4, g2, g9, g10, g12, g13, g14, g15]
          refine cl_of (of_nil _ x9 w43) ?_
          rintro _ w44 ⟨rfl, k44⟩
          have L44 := L43.kp0 hLU k44
          simp [g4, g2, g9, g10, g12, g13, g14, g15]
          refine invH_mk ⟨L44.frame (rU rO), L44.frame (rU rN)⟩ ?_
          have e3 : x8 = x9 := L44.eq (P := (preP o' (fun z => hdB z p || hdB z p2))) (Q := (fun z => preP o' (fun z => hdB z p) z || preP o' (fun z => hdB z p2) z)) (.tail _ (.head _)) (.head _) fun z hz => pre_un _
          rw [← e3]
          simp [g4, g2, g9, g10, g12, g13, g14, g15]
          refine cl_of (lr_preimage cu k o' (fun z => hdB z p && hdB z p2) hC hR hLU L44 (.tail _ (.tail _ (.tail _ (.tail _ (.tail _ (.tail _ (.tail _ (.tail _ (.tail _ (.tail _ (.tail _ (.head _)))))))))))) ho' (by omega) (by omega)) ?_
          rintro _ w45 ⟨x10, rfl, L45⟩
          rw [← hJ] at L45
          simp [g4, g2, g9, g10, g12, g13, g14, g15]
          refine invH_mk ⟨L45.frame (rU rO), L45.frame (rU rN)⟩ ?_
          simp [g4, g2, g9, g10, g12, g13, g14, g15]
          refine cl_of (of_nil _ x10 w45) ?_
          rintro _ w46 ⟨rfl, k46⟩
          have L46 := L45.kp0 hLU k46
          simp [g4, g2, g9, g10, g12, g13, g14, g15]
          refine invH_mk ⟨L46.frame (rU rO), L46.frame (rU rN)⟩ ?_
          simp [g4, g2, g9, g10, g12, g13, g14, g15]
          refine cl_of (lr_intersect pre preB (preP o' fun z => hdB z p) (preP o' fun z => hdB z p2) hC hLU L46 (.tail _ (.tail _ (.tail _ (.tail _ (.tail _ (.tail _ (.tail _ (.tail _ (.tail _ (.tail _ (.tail _ (.tail _ (.tail _ (.tail _ (.head _))))))))))))))) (.tail _ (.tail _ (.tail _ (.tail _ (.tail _ (.tail _ (.tail _ (.tail _ (.tail _ (.tail _ (.head _))))))))))) (by omega) (by omega)) ?_
          rintro _ w47 ⟨x11, rfl, L47⟩
          rw [← hX] at L47
          simp [g4, g2, g9, g10, g12, g13, g14, g15]
          refine invH_mk ⟨L47.frame (rU rO), L47.frame (rU rN)⟩ ?_
          simp [g4, g2, g9, g10, g12, g13, g14, g15]
          refine cl_of (of_nil _ x11 w47) ?_
          rintro _ w48 ⟨rfl, k48⟩
          have L48 := L47.kp0 hLU k48
          simp [g4, g2, g9, g10, g12, g13, g14, g15]
          refine invH_mk ⟨L48.frame (rU rO), L48.frame (rU rN)⟩ ?_
          have e4 : x10 = x11 := L48.eq (P := (preP o' (fun z => hdB z p && hdB z p2))) (Q := (fun z => preP o' (fun z => hdB z p) z && preP o' (fun z => hdB z p2) z)) (.tail _ (.head _)) (.head _) fun z hz => pre_cu _
          rw [← e4]
          simp [g4, g2, g9, g10, g12, g13, g14, g15]
          refine cl_of (lr_preimage le k o' (fun z => hdB z p && !hdB z p2) hC hR hLU L48 (.tail _ (.tail _ (.tail _ (.tail _ (.tail _ (.tail _ (.tail _ (.tail _ (.tail _ (.tail _ (.tail _ (.tail _ (.head _))))))))))))) ho' (by omega) (by omega)) ?_
          rintro _ w49 ⟨x12, rfl, L49⟩
          rw [← hJ] at L49
          simp [g4, g2, g9, g10, g12, g13, g14, g15]
          refine invH_mk ⟨L49.frame (rU rO), L49.frame (rU rN)⟩ ?_
          simp [g4, g2, g9, g10, g12, g13, g14, g15]
          refine cl_of (of_nil _ x12 w49) ?_
          rintro _ w50 ⟨rfl, k50⟩
          have L50 := L49.kp0 hLU k50
          simp [g4, g2, g9, g10, g12, g13, g14, g15]
          refine invH_mk ⟨L50.frame (rU rO), L50.frame (rU rN)⟩ ?_
          simp [g4, g2, g9, g10, g12, g13, g14, g15]
          refine cl_of (lr_minus pre preB (preP o' fun z => hdB z p) (preP o' fun z => hdB z p2) hC hLU L50 (.tail _ (.tail _ (.tail _ (.tail _ (.tail _ (.tail _ (.tail _ (.tail _ (.tail _ (.tail _ (.tail _ (.tail _ (.tail _ (.tail _ (.tail _ (.tail _ (.head _))))))))))))))))) (.tail _ (.tail _ (.tail _ (.tail _ (.tail _ (.tail _ (.tail _ (.tail _ (.tail _ (.tail _ (.tail _ (.tail _ (.head _))))))))))))) (by omega) (by omega)) ?_
          rintro _ w51 ⟨x13, rfl, L51⟩
          rw [← hX] at L51
          simp [g4, g2, g9, g10, g12, g13, g14, g15]
          refine invH_mk ⟨L51.frame (rU rO), L51.frame (rU rN)⟩ ?_
          simp [g4, g2, g9, g10, g12, g13, g14, g15]
          refine cl_of (of_nil _ x13 w51) ?_
          rintro _ w52 ⟨rfl, k52⟩
          have L52 := L51.kp0 hLU k52
          simp [g4, g2, g9, g10, g12, g13, g14, g15]
          refine invH_mk ⟨L52.frame (rU rO), L52.frame (rU rN)⟩ ?_
          have e5 : x12 = x13 := L52.eq (P := (preP o' (fun z => hdB z p && !hdB z p2))) (Q := (fun z => preP o' (fun z => hdB z p) z && !preP o' (fun z => hdB z p2) z)) (.tail _ (.head _)) (.head _) fun z hz => pre_le _
          rw [← e5]
          simp [g4, g2, g9, g10, g12, g13, g14, g15]
          refine cl_of (lr_all L52) ?_
          rintro _ w53 ⟨rfl, L53⟩
          simp [g4, g2, g9, g10, g12, g13, g14, g15]
          refine invH_mk ⟨L53.frame (rU rO), L53.frame (rU rN)⟩ ?_
          simp [g4, g2, g9, g10, g12, g13, g14, g15]
          refine cl_of (lr_preimage q.all k o' (fun _ => true) hC hR hLU L53 (.tail _ (.tail _ (.tail _ (.tail _ (.tail _ (.tail _ (.tail _ (.tail _ (.tail _ (.tail _ (.tail _ (.tail _ (.tail _ (.tail _ (.tail _ (.tail _ (.tail _ (.tail _ (.tail _ (.tail _ (.head _))))))))))))))))))))) ho' (by omega) (by omega)) ?_
          rintro _ w54 ⟨x14, rfl, L54⟩
          rw [← hJ] at L54
          simp [g4, g2, g9, g10, g12, g13, g14, g15]
          refine invH_mk ⟨L54.frame (rU rO), L54.frame (rU rN)⟩ ?_
          simp [g4, g2, g9, g10, g12, g13, g14, g15]
          refine cl_of (of_nil _ x14 w54) ?_
          rintro _ w55 ⟨rfl, k55⟩
          have L55 := L54.kp0 hLU k55
          simp [g4, g2, g9, g10, g12, g13, g14, g15]
          refine invH_mk ⟨L55.frame (rU rO), L55.frame (rU rN)⟩ ?_
          simp [g4, g2, g9, g10, g12, g13, g14, g15]
          refine rdI_mk T.ov.1 (fun w' hi => ?_) ?_
          · obtain ⟨hb6, hn6⟩ := hi
            unfold tkO at hb6
            simp [g4, g2, g9, g10, g12, g13, g14, g15, cell_blk hb6, raw_vv, raw_ov]
          have hki : (k : Int) < T.ops.length := by omega
          have hN6 := L55.frame (rU rN)
          simp (disch := omega) [g4, g2, g9, g10, g12, g13, g14, g15, hN6.ops.idx, hki]
          refine rdI_mk o.pv.1 (fun w' hi => ?_) ?_
          · obtain ⟨hb6, hn6⟩ := hi
            have c2 := hn6.ops.fld noE_len ho (o := 2) (u := o.pv.1) rfl
            simp (disch := omega) [g4, g2, g9, g10, g12, g13, g14, g15, hn6.ops.idx, hki, c2]
          simp [g4, g2, g9, g10, g12, g13, g14, g15]
          refine cl_of (lr_partial o.pv.1 o'.pre hC hLU L55 rPv hop2 hopo (cov_fcs hopo hK.vl) (by omega) (by omega)) ?_
          rintro _ w56 ⟨x15, rfl, L56⟩
          rw [← hX, ← hY] at L56
          simp [g4, g2, g9, g10, g12, g13, g14, g15]
          refine invH_mk ⟨L56.frame (rU rO), L56.frame (rU rN)⟩ ?_
          simp [g4, g2, g9, g10, g12, g13, g14, g15]
          refine cl_of (of_nil _ x15 w56) ?_
          rintro _ w57 ⟨rfl, k57⟩
          have L57 := L56.kp0 hLU k57
          simp [g4, g2, g9, g10, g12, g13, g14, g15]
          refine invH_mk ⟨L57.frame (rU rO), L57.frame (rU rN)⟩ ?_
          have e6 : x14 = x15 := L57.eq (P := (preP o' (fun _ => true))) (Q := (fun z => hdB z o'.pre)) (.tail _ (.head _)) (.head _) fun z hz => by simp [preP]
          rw [← e6]
          simp [g4, g2, g9, g10, g12, g13, g14, g15]
          refine cl_of (lr_image 0 k o' (fun _ => false) hK hC hR hLU L57 (.tail _ (.tail _ (.tail _ (.tail _ (.tail _ (.tail _ (.tail _ (.tail _ (.tail _ (.tail _ (.tail _ (.tail _ (.tail _ (.tail _ (.tail _ (.tail _ (.tail _ (.tail _ (.tail _ (.tail _ (.tail _ (.tail _ (.tail _ (.head _)))))))))))))))))))))))) ho' (by omega) (by omega)) ?_
          rintro _ w58 ⟨x16, rfl, L58⟩
          rw [← hI] at L58
          simp [g4, g2, g9, g10, g12, g13, g14, g15]
          refine invH_mk ⟨L58.frame (rU rO), L58.frame (rU rN)⟩ ?_
          simp [g4, g2, g9, g10, g12, g13, g14, g15]
          refine cl_of (of_nil _ x16 w58) ?_
          rintro _ w59 ⟨rfl, k59⟩
          have L59 := L58.kp0 hLU k59
          simp [g4, g2, g9, g10, g12, g13, g14, g15]
          refine invH_mk ⟨L59.frame (rU rO), L59.frame (rU rN)⟩ ?_
          have e7 : x16 = 0 := L59.eq (P := (imgP T' o' (fun _ => false))) (Q := (fun _ => false)) (.head _) (.tail _ (.tail _ (.tail _ (.tail _ (.tail _ (.tail _ (.tail _ (.tail _ (.tail _ (.tail _ (.tail _ (.tail _ (.tail _ (.tail _ (.tail _ (.tail _ (.tail _ (.tail _ (.tail _ (.tail _ (.tail _ (.tail _ (.tail _ (.tail _ (.head _))))))))))))))))))))))))) fun z hz => img_no
          rw [e7]
          simp [g4, g2, g9, g10, g12, g13, g14, g15]
          refine cl_of (lr_preimage 0 k o' (fun _ => false) hC hR hLU L59 (.tail _ (.tail _ (.tail _ (.tail _ (.tail _ (.tail _ (.tail _ (.tail _ (.tail _ (.tail _ (.tail _ (.tail _ (.tail _ (.tail _ (.tail _ (.tail _ (.tail _ (.tail _ (.tail _ (.tail _ (.tail _ (.tail _ (.tail _ (.tail _ (.head _))))))))))))))))))))))))) ho' (by omega) (by omega)) ?_
          rintro _ w60 ⟨x17, rfl, L60⟩
          rw [← hJ] at L60
          simp [g4, g2, g9, g10, g12, g13, g14, g15]
          refine invH_mk ⟨L60.frame (rU rO), L60.frame (rU rN)⟩ ?_
          simp [g4, g2, g9, g10, g12, g13, g14, g15]
          refine cl_of (of_nil _ x17 w60) ?_
          rintro _ w61 ⟨rfl, k61⟩
          have L61 := L60.kp0 hLU k61
          simp [g4, g2, g9, g10, g12, g13, g14, g15]
          refine invH_mk ⟨L61.frame (rU rO), L61.frame (rU rN)⟩ ?_
          have e8 : x17 = 0 := L61.eq (P := (preP o' (fun _ => false))) (Q := (fun _ => false)) (.head _) (.tail _ (.tail _ (.tail _ (.tail _ (.tail _ (.tail _ (.tail _ (.tail _ (.tail _ (.tail _ (.tail _ (.tail _ (.tail _ (.tail _ (.tail _ (.tail _ (.tail _ (.tail _ (.tail _ (.tail _ (.tail _ (.tail _ (.tail _ (.tail _ (.tail _ (.head _)))))))))))))))))))))))))) fun z hz => by simp [preP]
          rw [e8]
          simp [g4, g2, g9, g10, g12, g13, g14, g15]
          -- END
          have ou : w61.heap[ub]? = some (.cells #[.int .i64 0] 37 (0, 0)) := L61.frame (by rw [hU]; exact Rds.obj)
          simp [cell_blk ou]
          exact L61.frame (rU rK)
end Go.Proofs.Ytcoeknnghfajnaa
end
section
set_option maxRecDepth 100000
set_option linter.unusedSimpArgs false
set_option linter.unusedVariables false
namespace Go.Rx
open Go Go.W Go.Tk
theorem getD_set_ne {d : List Nat} {i j x : Nat} (h : i ≠ j) : (d.set i x).getD j 0 = d.getD j 0 := by simp only [List.getD, List.getElem?_set_ne h]
end Go.Rx
namespace Go.Proofs.Ytcoeknnghfajnaa
open Go Go.W Go.Tk Go.Rx Go.Maps
def goalB (T : Nt) (i : Nat) : Bool := match (stsK T.vars T.vars.length)[i]? with | some s => hdB s T.goal | none => false
def d0 (T : Nt) (i : Nat) : Nat := if goalB T i = true then 0 else Inf
end Go.Proofs.Ytcoeknnghfajnaa
end
section
set_option maxRecDepth 100000
set_option linter.unusedSimpArgs false
set_option linter.unusedVariables false
namespace Go.Rx
open Go Go.W Go.Tk
end Go.Rx
namespace Go.Proofs.Ytcoeknnghfajnaa
open Go Go.W Go.Tk Go.Rx Go.Maps
/-- The greatest value of a goal fact, in a state. -/
def hM (T : Nt) (vS : List Nat → Nat → Nat) (s : List Nat) : Nat := grF T.vars (vS s) T.goal
def hI (T : Nt) (vS : List Nat → Nat → Nat) (i : Nat) : Nat := match (stsK T.vars T.vars.length)[i]? with | some s => hM T vS s | none => 0
end Go.Proofs.Ytcoeknnghfajnaa
end
section
set_option linter.unusedVariables false
set_option linter.unusedSimpArgs false
namespace Go.W
open Go Go.ChangeShapes Go.WideShapes Go.ChangeAt Go.RowKit Go.Deep
section
variable {H : Type} {enc : TypeId × Value → H} {P : Program}
/-- A slice in the input, by its elements. -/
theorem el_vw {α : Type} {encα : α → List Value} {ok : α → Prop} {W : World} {t e : TypeId} {sz : Nat} {v : Value} {fu : Nat} {x : DataW H × List MemPlace} (ht : P.underlying t = some (.slice e)) (hC : P.cellsOf e = sz) (hz : 0 < sz) (he : ∀ x, (encα x).length = sz)
    (hel : ∀ n cs x, cs.length = sz → DataW.trod enc P W 0 (fun _ => true) true n e cs = some x → ∃ a, cs = encα a ∧ ok a) 
    (h : DataW.trod enc P W 0 (fun _ => true) true fu t [v] = some x) :
    ∃ l : List α, Vw W v encα l ∧ (∀ a ∈ l, ok a) ∧ l.length ≤ maxLen := by
  rcases open_slice ht h with ⟨hcs, hx⟩ | ⟨a, len, cap, m, n, D, Pl, hcs, hb, hl, hm, hmm, hx, hi⟩
  · simp at hcs
    subst hcs
    exact ⟨[], Vw.nil _ _, by simp, by simp⟩
  · simp at hcs
    subst hcs
    simp only [if_true] at hmm
    subst hmm
    obtain ⟨n0, hn0⟩ : ∃ n0, n0 = len := ⟨_, rfl⟩
    rw [← hn0] at hl ⊢
    have key : ∀ k, k ≤ m → ∃ l : List α, l.length = k ∧ (∀ x ∈ l, ok x) ∧ ∀ j u, (l.flatMap encα)[j]? = some u → W.cell? (a.add j) = some u := by
      intro k
      induction k with
      | zero => exact fun _ => ⟨[], rfl, by simp, by simp⟩
      | succ k ih =>
        intro hk
        obtain ⟨l, hll, ho, hc⟩ := ih (by omega)
        obtain ⟨cs, hcs, htr⟩ := hi k (by omega)
        rw [hC] at hcs
        obtain ⟨_, hlen, hat⟩ := World.cells?_some hcs
        obtain ⟨x, rfl, hox⟩ := hel _ _ _ hlen htr
        refine ⟨l ++ [x], by simp [hll], ?_, ?_⟩
        · intro y hy
          rcases List.mem_append.1 hy with h1 | h1
          · exact ho y h1
          · simp at h1; subst h1; exact hox
        · intro j u hj
          rw [List.flatMap_append, List.flatMap_cons, List.flatMap_nil, List.append_nil] at hj
          have hfl := flatMap_len he l
          rw [hll] at hfl
          by_cases hjl : j < k * sz
          · rw [List.getElem?_append_left (by omega)] at hj
            exact hc j u hj
          · rw [List.getElem?_append_right (by omega), hfl] at hj
            have hjs : j - k * sz < sz := by have h9 := (List.getElem?_eq_some_iff.1 hj).1; rw [he x] at h9; exact h9
            have := hat (j - k * sz) hjs
            rw [Go.Deep.add_add, show k * sz + (j - k * sz) = j by omega] at this
            rw [this]; exact hj
    obtain ⟨l, hll, ho, hc⟩ := key m (Nat.le_refl _)
    have hvw : Vw W (.slice (some a) n0 m) encα (l.take n0) := by
      have hlen : (l.take n0).length = n0 := by simp; omega
      refine .inr ⟨a, m, by rw [hlen], by omega, fun hne => ?_, fun j u hj => hc j u ?_⟩
      · have hn0 : 0 < n0 := by
          rcases Nat.eq_zero_or_pos n0 with h0 | h0
          · subst h0; simp at hne
          · exact h0
        obtain ⟨cs, hcs, _⟩ := hi 0 (by omega)
        rw [hC] at hcs
        obtain ⟨_, hlen', hat⟩ := World.cells?_some hcs
        have h1 := hat 0 hz
        rw [List.getElem?_eq_getElem (by omega)] at h1
        have := World.cell?_spot h1
        rw [Go.Deep.add_add] at this
        simp at this
        simpa [Addr.add] using this
      · have : l.flatMap encα = (l.take n0).flatMap encα ++ (l.drop n0).flatMap encα := by rw [← List.flatMap_append, List.take_append_drop]
        rw [this, List.getElem?_append_left (List.getElem?_eq_some_iff.1 hj).1]
        exact hj
    exact ⟨_, hvw, fun x hx => ho x (List.mem_of_mem_take hx), by rw [List.length_take]; omega⟩
end
end Go.W
end
