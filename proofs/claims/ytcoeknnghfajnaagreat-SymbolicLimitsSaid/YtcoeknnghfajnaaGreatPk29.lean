/-
  A part of the proof of this claim's statement (SyXG, RxYL, RxYM, LibN, RxZA, SyXH): plain theorems; no conditions beyond those each names.
-/
import Derived.Test.YtcoeknnghfajnaaGreatPk28
import Derived.Test.YtcoeknnghfajnaaGreatPk18
import Derived.Test.YtcoeknnghfajnaaGreatPk14
import Derived.Test.YtcoeknnghfajnaaGreatPk06
import Derived.Test.YtcoeknnghfajnaaGreatPk05
import Derived.HandedShaped
import Derived.Shelf.Vars
import Derived.OpenShut
import Derived.Test.YtcoeknnghfajnaaGreatRows
section
set_option maxRecDepth 100000
set_option linter.unusedSimpArgs false
set_option linter.unusedVariables false
namespace Go.Proofs.YtcoeknnghfajnaaGreat
open Go Go.W Go.Tk Go.Rx Go.Bd Go.Sy Go.Maps
theorem getM_ksR {ks : List (Nat × Bool)} {x y : Nat} {e : Bool} (h : getM ks y = some true) : getM (ksR ks x e) y = some true := by
  unfold ksR
  split
  · exact h
  · by_cases hxy : y = x
    · subst hxy; exact getM_put _ _ _
    · rw [getM_put_ne (Ne.symm hxy)]; exact h
theorem Kn.step {n lim c : Nat} {T' : Nt} {ns ns' : Ns} {ks : List (Nat × Bool)} {x y : Nat} {e e' : Bool} {P : List Nat → Bool} (h : Kn T' ns ks y P) (hw : SpOk T'.vars lim ns) (hs : Stp (2 * nBits T'.vars) lim c false ns e' ns') : Kn T' ns' (ksR ks x e) y P :=
  ⟨getM_ksR h.kn, h.ok.stp hw hs⟩
theorem set_none (vars : List Nat) (ns : Ns) : SetOk vars ns 0 fun _ => false := ⟨by unfold Ref; omega, fun a => by simp [eval]⟩
/-- The acts of a law, in memory. -/
structure AcsR (w : World) (av : Value) (cs : List Ac) : Prop where
  vw : Vw w av acE cs
  p : ∀ c ∈ cs, Vw w c.pv.1 faE c.p
  k : ∀ c ∈ cs, c.k ≤ 255
  a : ∀ c ∈ cs, c.a ≤ 255
  b : ∀ c ∈ cs, c.b ≤ 255
  l : ∀ c ∈ cs, c.p.length ≤ 9223372036854775807
theorem AcsR.kp {w w' : World} {av : Value} {cs : List Ac} (h : AcsR w av cs) (k : Kp [] w w') : AcsR w' av cs := ⟨h.vw.kp0 k, fun c hc => (h.p c hc).kp0 k, h.k, h.a, h.b, h.l⟩
theorem sm_bits {T : Nt} (hT : SmT T) : nBits T.vars ≤ 72 := by
  have := nBits_le T.vars
  have := hT.vl
  omega
/-- A set is appended. -/
theorem zp_append {w w1 : World} {F : List Nat} {B : Asr} {ov : Value} {l : List Pr} {x : Pr} {KV : Kont (Value × World)} (hB : Lcl B) (h : At w F (Star (OwnA ov 53 2 zpE l) B) w1) (hl : l.length ≤ 1000000)
    (H : ∀ v' w2, At w F (Star (OwnA v' 53 2 zpE (l ++ [x])) B) w2 → KV.run (v', w2)) :
    @efH Tryz.prog (Builtin.append_ #[47, 47] 47 [ov, .slice (some ⟨w1.heap.size, 0, none⟩) 1 1].toArray) (w1.alloc (.cells #[.int .i64 (x.1 : Nat), x.2.1.1] 53)) KV := by
  have h4 := h.kp0 (Lcl.own.star hB) ((Kp.refl [] w1).alloc (.cells #[.int .i64 (x.1 : Nat), x.2.1.1] 53))
  refine At.append (xs := [x]) hB h4 zpE_len zpE_one sl_47 rfl (fun j u hj => ?_) (by omega) (by unfold maxLen; omega) fun v' w5 h5 => H v' w5 h5
  simp [zpE] at hj
  rw [add_none, cell_blk alloc_new]
  simpa using hj
def acZ : Obj := .cells #[.int .u8 0, .int .u8 0, .int .u8 0, .slice none 0 0] 50 (0, 0)
theorem rd_ac {w : World} {b : Nat} {c : Ac} (h : w.heap[b]? = some (acO c)) : cellsAt w ⟨b, 0, none⟩ 0 4 = some [.int .u8 (c.k : Nat), .int .u8 (c.a : Nat), .int .u8 (c.b : Nat), c.pv.1] := by
  unfold acO at h
  simp [cellsAt, Addr.add, cell_blk h]
/-- A law's space and its sets. -/
def LmI (s m L : Nat) (T T' : Nt) (q : SpC) (B : Asr) (w : World) (F : List Nat) (i : Nat) (lv : Value) (w' : World) : Prop :=
  ∃ ns ks ss ps, SpG L T' q ns ks ss ∧ (∀ p ∈ ps, Kn T' ns ks p.1 p.2.2) ∧ 2 ≤ ps.length ∧ ps.length ≤ 2 + i ∧ ks.length ≤ 2 + i ∧ ss.length ≤ i ∧ At w F (SpcA s m L T' q ns ks ss (PrsA T.vars lv ps B)) w'
set_option maxHeartbeats 1000000 in
theorem law_slimits {w : World} (t : Tk) (n : Nat) (av : Value) (cs : List Ac) (ht : TkR w t) (hl : TkL t) (hn : n ≤ 255) (hc : AcsR w av cs) (hcl : cs.length ≤ 9223372036854775807) :
    Calls Tryz.prog 4 [tkV t, .int .u8 (n : Nat), av].toArray w fun e w' => ∃ x, e = .returned x ∧ x = .bool true ∧ Kp [] w w' := by
  refine enter Tryz.func4 mixed low4 (Nat.le_of_ble_eq_true rfl) ?_
  simp only [L4]
  obtain ⟨tb, htb⟩ : ∃ tb, tb = w.heap.size := ⟨_, rfl⟩
  obtain ⟨w1, hw1⟩ : ∃ w1, w1 = w.alloc (tkO t) := ⟨_, rfl⟩
  obtain ⟨R, hR⟩ : ∃ R, R = List.range w.heap.size := ⟨_, rfl⟩
  have hw1' : w.alloc (.cells #[t.vv.1, t.nv.1, t.gv.1, t.ov.1] 26 (0, 0)) = w1 := by rw [hw1]; rfl
  obtain ⟨B, hB⟩ : ∃ B, B = Star (ObjA tb (tkO t)) (OldA w) := ⟨_, rfl⟩
  have hLB : Lcl B := by rw [hB]; exact Lcl.obj.star OldA.lcl
  have h1 : At w R B w1 := by rw [hB, htb, hw1, hR]; exact At.alloc _ OldA.lcl (OldA.start w)
  have rO : Rds B fun w' => w'.heap[tb]? = some (tkO t) := by rw [hB]; exact Rds.obj
  have rK : Rds B fun w' => Kp [] w w' := by rw [hB]; exact Rds.star (OldA.rds fun w' k => k)
  have at0 : ∀ {w'}, At w R B w' → w'.heap[tb]? = some (tkO t) ∧ Kp [] w w' := fun h => by
    obtain ⟨⟨F', h2, _⟩, _⟩ := h
    exact ⟨rO _ _ h2, rK _ _ h2⟩
  have ob1 := (at0 h1).1
  simp [tkV, ← htb, hw1', rd_tk ob1]
  refine cl_of (small_spec t (ht.kp (at0 h1).2) hl) ?_
  rintro _ w2 ⟨rfl, k2⟩
  have h2 := h1.kp0 hLB k2
  cases hsm : smallB t with
  | false =>
    simp
    refine cl_of (awake_spec hLB h2) ?_
    rintro _ w3 ⟨rfl, h3⟩
    simp
    exact (at0 h3).2
  | true =>
    obtain ⟨T, rfl, hT⟩ := small_nat hl hsm
    have hr := NtR.raw.1 ht
    by_cases h20 : (20 : Int) < cs.length
    · have h20' : 20 < cs.length := by omega
      simp [(hc.kp (at0 h2).2).vw.len, h20, h20']
      refine cl_of (awake_spec hLB h2) ?_
      rintro _ w3 ⟨rfl, h3⟩
      simp
      exact (at0 h3).2
    have h20' : ¬ 20 < cs.length := by omega
    simp [(hc.kp (at0 h2).2).vw.len, h20, h20']
    refine cl_of (awake_spec hLB h2) ?_
    rintro _ w3 ⟨rfl, h3⟩
    have rN : Rds B fun w' => NtR w' T := by rw [hB]; exact Rds.star (OldA.rds fun w' k => hr.kp k)
    have rC : Rds B fun w' => AcsR w' av cs := by rw [hB]; exact Rds.star (OldA.rds fun w' k => hc.kp k)
    obtain ⟨L, hL⟩ : ∃ L, L = n + 1 := ⟨_, rfl⟩
    have hn1 : ((n : Nat) : Int) + 1 = (L : Int) := by omega
    have ea : ∀ K : Kont Value, @intH .add .i64 ((n : Nat) : Int) .i64 1 K = K.run (.int .i64 (L : Nat)) := fun K => by rw [intS_add, hn1, wrap_i64 (by omega) (by omega)]
    have ec : ∀ K : Kont Value, @cnvH Tryz.prog 5 3 (.int .u8 (n : Nat)) K = K.run (.int .i64 (n : Nat)) := fun K => by
      rw [cnvS_i]
      simp [wrap_i64 (n := (n : Nat)) (by omega) (by omega)]
    simp (disch := omega) [-intS_add, -cnvS_i, ea, ec, rd_tk (at0 h3).1, raw_vv, raw_nv, raw_gv, raw_ov]
    refine cl_of (snew_spec T L hLB h3 rN hT.g hT.good hl (by omega) (by omega)) ?_
    rintro _ w4 hnew
    have hbits := sm_bits hT
    rcases hnew with ⟨hbig, _⟩ | ⟨_, e, ns, hs, hnew⟩
    · omega
    rcases hnew with ⟨rfl, rfl, h4⟩ | ⟨rfl, s, m, T', q, hA, rfl, hG, h4⟩
    · simp [eB, berrV]
      refine cl_of (is_err 10 10 w4) ?_
      rintro _ w5 ⟨rfl, k5⟩
      simp
      exact (at0 (h4.kp0 hLB k5)).2
    simp
    have h4d := SpcA.frame h4 rO
    simp [rd_tk h4d, raw_vv, raw_nv, raw_gv, raw_ov]
    refine cl_of (ybegin_spec hG hLB h4 hT rN) ?_
    rintro lv w5 ⟨c0, c1, h5⟩
    have rC5 : ∀ {ns ks ss lv ps w'}, At w R (SpcA s m L T' q ns ks ss (PrsA T.vars lv ps B)) w' → AcsR w' av cs ∧ w'.heap[tb]? = some (tkO T.raw) ∧ Kp [] w w' := fun h => by
      have e1 : ∀ {P : World → Prop}, Rds B P → P _ := fun hP => SpcA.frame h (by unfold PrsA; exact Rds.star (Rds.star hP))
      exact ⟨e1 rC, e1 rO, e1 rK⟩
    have hks0 : (putM [((0 : Nat), true)] q.all true).length ≤ 2 := putM_len_le
    have I5 : LmI s m L T T' q B w R 0 lv w5 := by
      refine ⟨ns, _, [], _, hG, fun p hp => ?_, by simp, by simp, by omega, by simp, h5⟩
      simp at hp
      rcases hp with rfl | rfl
      · refine ⟨?_, set_none _ _⟩
        by_cases h0 : q.all = 0
        · rw [h0]; exact getM_put _ _ _
        · rw [getM_put_ne h0]; rfl
      · exact ⟨getM_put _ _ _, hG.all⟩
    have acs5 := (rC5 h5).1
    simp [acs5.vw.len]
    refine range_loop (n := cs.length) (by omega) (fun i ρ w' => ρ 3 = .pointer (some ⟨tb, 0, none⟩) ∧ ρ 7 = .pointer (some ⟨s, 0, none⟩) ∧ ρ 48 = av ∧ LmI s m L T T' q B w R i (ρ 9) w') (by simp) (by simp)
      ⟨by simp, by simp, by simp, by simpa using I5⟩ (by decide) (fun _ _ _ _ h => by simpa using h) (fun _ _ _ _ h => by simpa using h) ?_ ?_
    · rintro i ρ w6 hi hci hli ⟨g3, g7, g48, ns6, ks6, ss6, ps6, hG6, hk6, hp6, hp6', hkl6, hsl6, h6⟩
      obtain ⟨c, hcc⟩ : ∃ c, cs[i]? = some c := ⟨_, List.getElem?_eq_getElem hi⟩
      have hcm := List.mem_of_getElem? hcc
      have acs6 := (rC5 h6).1
      have ec := acs6.vw.cells acE_len hcc
      simp only [acE] at ec
      have hii : (i : Int) < cs.length := by omega
      obtain ⟨lv6, hlv6⟩ : ∃ lv6, lv6 = ρ 9 := ⟨_, rfl⟩
      rw [← hlv6] at h6
      have hLP : Lcl (PrsA T.vars lv6 ps6 B) := PrsA.lcl hLB
      obtain ⟨cb, hcb⟩ : ∃ cb, cb = w6.heap.size := ⟨_, rfl⟩
      have h6a : At w R (Star (ObjA cb acZ) (SpcA s m L T' q ns6 ks6 ss6 (PrsA T.vars lv6 ps6 B))) (w6.alloc acZ) := by rw [hcb]; exact At.alloc _ (SpcA.lcl hLP) h6
      unfold acZ at h6a
      simp (disch := omega) [g3, g7, g48, hci, hli, acs6.vw.idx, ec, ← hcb]
      refine h6a.st (SpcA.lcl hLP) (by simp) (by simp [c.pv.2]) fun w7 h7 => ?_
      have h7' : At w R (Star (ObjA cb (acO c)) (SpcA s m L T' q ns6 ks6 ss6 (PrsA T.vars lv6 ps6 B))) w7 := by simpa [acO] using h7
      have ob7 := (rC5 h7'.drop).2.1
      simp [g3, g7, ← hcb, ← hlv6, rd_tk ob7, rd_ac h7'.obj, raw_vv, raw_nv, raw_gv, raw_ov]
      refine cl_of (ydo_spec c hG6 hLB h7'.drop hA hT rN (fun w' F' hs => (rC w' F' hs).p c hcm) hk6 (by omega) (by omega) (hc.a c hcm) (hc.b c hcm) (hc.k c hcm) (hc.l c hcm) (by omega) (by omega)) ?_
      rintro _ w8 ⟨x', e', ns', ss', cc, P', cst, rfl, hs', hok', hG', hsl', h8⟩
      have hLV : Lcl (Star (VwA cc.1 bE (stT T.vars P')) (PrsA T.vars lv6 ps6 B)) := Lcl.vw.star hLP
      obtain ⟨pb, hpb⟩ : ∃ pb, pb = w8.heap.size := ⟨_, rfl⟩
      have h8a : At w R (Star (ObjA pb zpZ) (SpcA s m L T' q ns' (ksR ks6 x' e') ss' (Star (VwA cc.1 bE (stT T.vars P')) (PrsA T.vars lv6 ps6 B)))) (w8.alloc zpZ) := by rw [hpb]; exact At.alloc _ (SpcA.lcl hLV) h8
      unfold zpZ at h8a
      simp [zpV, ← hpb, cells_o1 cc.2]
      refine h8a.st (SpcA.lcl hLV) (by simp) (by simp [cc.2]) fun w9 h9 => ?_
      have h9' : At w R (Star (ObjA pb (zpO (x', cc, P'))) (SpcA s m L T' q ns' (ksR ks6 x' e') ss' (Star (VwA cc.1 bE (stT T.vars P')) (PrsA T.vars lv6 ps6 B)))) w9 := by simpa [zpO] using h9
      have hksl : (ksR ks6 x' e').length ≤ ks6.length + 1 := ksR_len
      have hk9 : ∀ p ∈ ps6, Kn T' ns' (ksR ks6 x' e') p.1 p.2.2 := fun p hp => (hk6 p hp).step (n := 0) hG6.ok hs'
      cases e' with
      | true =>
        simp [g3, g7, g48, hci, hli, ← hlv6]
        exact ⟨ns', _, ss', ps6, hG', hk9, hp6, by omega, by omega, by omega, SpcA.less h9'.drop⟩
      | false =>
        have h10 := SpcA.out (h9'.drop.by (SpcA.map (Imp.sw.trans (Imp.un (VwsA.add cc.2)))))
        have hL10 : Lcl (SpcA s m L T' q ns' (ksR ks6 x' false) ss' (Star (VwsA bE (ps6.map (zpW T.vars) ++ [(⟨cc.1, cc.2⟩, stT T.vars P')])) B)) := SpcA.lcl (Lcl.vws.star hLB)
        simp [g3, g7, g48, hci, hli, ← hlv6, ← hpb, rd_zp h9'.obj, cells_o1 cc.2, rowOf]
        refine zp_append (x := (x', cc, P')) hL10 h10 (by omega) fun v' w11 h11 => ?_
        simp [g3, g7, g48, hci, hli]
        refine ⟨ns', _, ss', ps6 ++ [(x', cc, P')], hG', fun p hp => ?_, by simp; omega, by simp; omega, by omega, by omega, ?_⟩
        · rcases List.mem_append.1 hp with h | h
          · exact hk9 p h
          · simp at h
            subst h
            exact ⟨getM_put _ _ _, hok' rfl⟩
        · unfold PrsA
          rw [List.map_append]
          exact SpcA.into h11
    · rintro ρ w6 ⟨g3, g7, g48, ns6, ks6, ss6, ps6, hG6, hk6, hp6, hp6', hkl6, hsl6, h6⟩
      obtain ⟨lv6, hlv6⟩ : ∃ lv6, lv6 = ρ 9 := ⟨_, rfl⟩
      rw [← hlv6] at h6
      have hLP : Lcl (PrsA T.vars lv6 ps6 B) := PrsA.lcl hLB
      have rP : ∀ {w'}, At w R (SpcA s m L T' q ns6 ks6 ss6 (PrsA T.vars lv6 ps6 B)) w' → Vw w' lv6 zpE ps6 := fun h => SpcA.frame h (by unfold PrsA; exact Rds.own)
      simp [← hlv6, (rP h6).len]
      refine range_loop (n := ps6.length) (by omega) (fun i ρ w' => ρ 3 = .pointer (some ⟨tb, 0, none⟩) ∧ ρ 7 = .pointer (some ⟨s, 0, none⟩) ∧ ρ 75 = lv6 ∧ At w R (SpcA s m L T' q ns6 ks6 ss6 (PrsA T.vars lv6 ps6 B)) w') (by simp) (by simp)
        ⟨by simp [g3], by simp [g7], by simp [hlv6], h6⟩ (by decide) (fun _ _ _ _ h => by simpa using h) (fun _ _ _ _ h => by simpa using h) ?_ ?_
      · rintro i ρ w7 hi hci hli ⟨g3, g7, g75, h7⟩
        obtain ⟨p, hp⟩ : ∃ p, ps6[i]? = some p := ⟨_, List.getElem?_eq_getElem hi⟩
        have hpm := List.mem_of_getElem? hp
        have hv7 := rP h7
        have ep := hv7.cells zpE_len hp
        simp only [zpE] at ep
        have hii : (i : Int) < ps6.length := by omega
        obtain ⟨pb, hpb⟩ : ∃ pb, pb = w7.heap.size := ⟨_, rfl⟩
        have h7a : At w R (Star (ObjA pb zpZ) (SpcA s m L T' q ns6 ks6 ss6 (PrsA T.vars lv6 ps6 B))) (w7.alloc zpZ) := by rw [hpb]; exact At.alloc _ (SpcA.lcl hLP) h7
        unfold zpZ at h7a
        simp (disch := omega) [g3, g7, g75, hci, hli, hv7.idx, ep, ← hpb]
        refine h7a.st (SpcA.lcl hLP) (by simp) (by simp [p.2.1.2]) fun w8 h8 => ?_
        have h8' : At w R (Star (ObjA pb (zpO p)) (SpcA s m L T' q ns6 ks6 ss6 (PrsA T.vars lv6 ps6 B))) w8 := by simpa [zpO] using h8
        have ob8 := (rC5 h8'.drop).2.1
        simp [g3, g7, ← hpb, rd_tk ob8, rd_zp h8'.obj, raw_vv, raw_nv, raw_gv, raw_ov]
        refine cl_of (ymeans_spec p hG6 hLP h8'.drop hA hT (by unfold PrsA; exact Rds.star (Rds.star rN)) (by unfold PrsA; exact Rds.star (Rds.vws (p := zpW T.vars p) (List.mem_map.2 ⟨p, hpm, rfl⟩))) (hk6 p hpm)) ?_
        rintro _ w9 ⟨rfl, h9⟩
        simp [g3, g7, g75, hci, hli]
        exact h9
      · rintro ρ w7 ⟨g3, g7, g75, h7⟩
        simp
        exact (rC5 h7).2.2
end Go.Proofs.YtcoeknnghfajnaaGreat
end
section
set_option maxRecDepth 100000
set_option linter.unusedSimpArgs false
set_option linter.unusedVariables false
namespace Go.Rx
open Go Go.W Go.Tk
structure Low (es : List (Nat × Nat × Nat)) (c : Nat → Nat) (G : Nat → Bool) (H : Nat → Nat) : Prop where
  le : ∀ i, H i ≤ Inf
  z : ∀ i, G i = true → H i = 0
  st : ∀ e ∈ es, H e.1 ≤ H e.2.2 + c e.2.1
structure Dok (es : List (Nat × Nat × Nat)) (c : Nat → Nat) (G : Nat → Bool) (d : List Nat) : Prop where
  z0 : ∀ i, i < d.length → G i = true → d.getD i 0 = 0
  le : ∀ i, i < d.length → d.getD i 0 ≤ Inf
  low : ∀ H, Low es c G H → ∀ i, i < d.length → H i ≤ d.getD i 0
theorem getD_set_same {d : List Nat} {i x : Nat} (h : i < d.length) : (d.set i x).getD i 0 = x := by simp [List.getD, List.getElem?_set_self h]
theorem getD_set_ne {d : List Nat} {i j x : Nat} (h : i ≠ j) : (d.set i x).getD j 0 = d.getD j 0 := by simp only [List.getD, List.getElem?_set_ne h]
theorem Dok.step {es : List (Nat × Nat × Nat)} {c : Nat → Nat} {G : Nat → Bool} {d : List Nat} {e : Nat × Nat × Nat} (h : Dok es c G d) (he : e ∈ es) (hf : e.1 < d.length) (ht : e.2.2 < d.length) (hlt : d.getD e.2.2 0 + c e.2.1 < d.getD e.1 0) : Dok es c G (d.set e.1 (d.getD e.2.2 0 + c e.2.1)) := {
  z0 := fun i hi hG => by
    rw [List.length_set] at hi
    by_cases hie : e.1 = i
    · subst hie
      have := h.z0 _ hf hG
      omega
    · rw [getD_set_ne hie]; exact h.z0 i hi hG
  le := fun i hi => by
    rw [List.length_set] at hi
    by_cases hie : e.1 = i
    · subst hie
      rw [getD_set_same hf]
      have := h.le _ hf
      omega
    · rw [getD_set_ne hie]; exact h.le i hi
  low := fun H hH i hi => by
    rw [List.length_set] at hi
    by_cases hie : e.1 = i
    · subst hie
      rw [getD_set_same hf]
      have h1 := hH.st e he
      have h2 := h.low H hH e.2.2 ht
      omega
    · rw [getD_set_ne hie]; exact h.low H hH i hi }
end Go.Rx
namespace Go.Proofs.YtcoeknnghfajnaaGreat
open Go Go.W Go.Tk Go.Rx Go.Maps
def goalB (T : Nt) (i : Nat) : Bool := match (stsK T.vars T.vars.length)[i]? with | some s => hdB s T.goal | none => false
def d0 (T : Nt) (i : Nat) : Nat := if goalB T i = true then 0 else Inf
/-- The costs that a search for distances has. -/
def CvOk (T : Nt) (cv : Value) (c : Nat → Nat) (w : World) : Prop := (cv = .slice none 0 0 ∧ ∀ i o, T.ops[i]? = some o → c i = o.cost) ∨ ∃ cl a cap, cv = .slice (some a) cl.length cap ∧ Vw w cv nE cl ∧ cl.length = T.ops.length ∧ ∀ i, c i = cl.getD i 0
theorem CvOk.kp {T : Nt} {cv : Value} {c : Nat → Nat} {w w' : World} (h : CvOk T cv c w) (k : Kp [] w w') : CvOk T cv c w' := by
  rcases h with h | ⟨cl, a, cap, h1, h2, h3⟩
  · exact .inl h
  · exact .inr ⟨cl, a, cap, h1, h2.kp0 k, h3⟩
theorem CvOk.of {T : Nt} {cv : Value} {cl : List Nat} {w : World} (h : Vw w cv nE cl) (hl : cl.length = T.ops.length) : CvOk T cv (fun i => cl.getD i 0) w := by
  rcases sl_nil h with ⟨rfl, rfl⟩ | ⟨a, cap, e⟩
  · refine .inl ⟨rfl, fun i o ho => ?_⟩
    have := (List.getElem?_eq_some_iff.1 ho).1
    simp at hl; omega
  · exact .inr ⟨cl, a, cap, e, h, hl, fun _ => rfl⟩
end Go.Proofs.YtcoeknnghfajnaaGreat
end
section
set_option maxRecDepth 100000
set_option linter.unusedSimpArgs false
set_option linter.unusedVariables false
namespace Go.Rx
open Go Go.W Go.Tk
/-- There are values. -/
theorem IsVal.ex (U : List Un) (S : List Nat) : ∃ V, IsVal U S V := by
  have hex : ∀ f, ∃ x, (∀ k, Der U S f k → x ≤ k) ∧ x ≤ Inf ∧ (x < Inf → Der U S f x) := fun f => by
    rcases Classical.em (∃ k, Der U S f k) with ⟨k, hk⟩ | hn
    · obtain ⟨w, hw, hm⟩ := Lst.ex hk
      rcases Nat.lt_or_ge w Inf with h | h
      · exact ⟨w, hm, by omega, fun _ => hw⟩
      · exact ⟨Inf, fun j hj => by have := hm j hj; omega, Nat.le_refl _, fun h => by omega⟩
    · exact ⟨Inf, fun k hk => absurd ⟨k, hk⟩ hn, Nat.le_refl _, fun h => by omega⟩
  refine ⟨fun f => Classical.choose (hex f), fun f hf => ?_, fun u hu hlt => ?_, fun f hf => (Classical.choose_spec (hex f)).2.2 hf, fun f => (Classical.choose_spec (hex f)).2.1⟩
  · have := (Classical.choose_spec (hex f)).1 0 (.base hf)
    omega
  · refine (Classical.choose_spec (hex u.makes)).1 _ (.step hu _ fun n hn => (Classical.choose_spec (hex n)).2.2 ?_)
    have := gr_mem (V := fun f => Classical.choose (hex f)) hn
    omega
end Go.Rx
namespace Go.Proofs.YtcoeknnghfajnaaGreat
open Go Go.W Go.Tk Go.Rx Go.Maps
/-- Values in all states. -/
def VsOk (T : Nt) (U : List Un) (vS : List Nat → Nat → Nat) : Prop := ∀ s, IsVal U (stN T.vars s T.vars.length) (vS s)
theorem VsOk.ex (T : Nt) (U : List Un) : ∃ vS, VsOk T U vS := ⟨fun s => Classical.choose (IsVal.ex U (stN T.vars s T.vars.length)), fun s => Classical.choose_spec (IsVal.ex U (stN T.vars s T.vars.length))⟩
/-- The greatest value of a goal fact, in a state. -/
def hM (T : Nt) (vS : List Nat → Nat → Nat) (s : List Nat) : Nat := grF T.vars (vS s) T.goal
def hI (T : Nt) (vS : List Nat → Nat → Nat) (i : Nat) : Nat := match (stsK T.vars T.vars.length)[i]? with | some s => hM T vS s | none => 0
end Go.Proofs.YtcoeknnghfajnaaGreat
end
section
set_option linter.unusedVariables false
set_option linter.unusedSimpArgs false
namespace Go.W
open Go Go.ChangeShapes Go.WideShapes Go.ChangeAt Go.RowKit Go.Deep
section
variable {H : Type} {enc : TypeId × Value → H} {P : Program}
/-- A slice in the input, by its elements. -/
theorem el_vw {α : Type} {encα : α → List Value} {ok : α → Prop} {W : World} {t e : TypeId} {sz : Nat} {v : Value} {fu : Nat} {x : DataW H × List MemPlace} (ht : P.underlying t = some (.slice e)) (hC : P.cellsOf e = sz) (hz : 0 < sz) (he : ∀ x, (encα x).length = sz)
    (hel : ∀ n cs x, cs.length = sz → DataW.trod enc P W 0 (fun _ => true) true n e cs = some x → ∃ a, cs = encα a ∧ ok a) 
    (h : DataW.trod enc P W 0 (fun _ => true) true fu t [v] = some x) :
    ∃ l : List α, Vw W v encα l ∧ (∀ a ∈ l, ok a) ∧ l.length ≤ maxLen := by
  rcases open_slice ht h with ⟨hcs, hx⟩ | ⟨a, len, cap, m, n, D, Pl, hcs, hb, hl, hm, hmm, hx, hi⟩
  · simp at hcs
    subst hcs
    exact ⟨[], Vw.nil _ _, by simp, by simp⟩
  · simp at hcs
    subst hcs
    simp only [if_true] at hmm
    subst hmm
    obtain ⟨n0, hn0⟩ : ∃ n0, n0 = len := ⟨_, rfl⟩
    rw [← hn0] at hl ⊢
    have key : ∀ k, k ≤ m → ∃ l : List α, l.length = k ∧ (∀ x ∈ l, ok x) ∧ ∀ j u, (l.flatMap encα)[j]? = some u → W.cell? (a.add j) = some u := by
      intro k
      induction k with
      | zero => exact fun _ => ⟨[], rfl, by simp, by simp⟩
      | succ k ih =>
        intro hk
        obtain ⟨l, hll, ho, hc⟩ := ih (by omega)
        obtain ⟨cs, hcs, htr⟩ := hi k (by omega)
        rw [hC] at hcs
        obtain ⟨_, hlen, hat⟩ := World.cells?_some hcs
        obtain ⟨x, rfl, hox⟩ := hel _ _ _ hlen htr
        refine ⟨l ++ [x], by simp [hll], ?_, ?_⟩
        · intro y hy
          rcases List.mem_append.1 hy with h1 | h1
          · exact ho y h1
          · simp at h1; subst h1; exact hox
        · intro j u hj
          rw [List.flatMap_append, List.flatMap_cons, List.flatMap_nil, List.append_nil] at hj
          have hfl := flatMap_len he l
          rw [hll] at hfl
          by_cases hjl : j < k * sz
          · rw [List.getElem?_append_left (by omega)] at hj
            exact hc j u hj
          · rw [List.getElem?_append_right (by omega), hfl] at hj
            have hjs : j - k * sz < sz := by have h9 := (List.getElem?_eq_some_iff.1 hj).1; rw [he x] at h9; exact h9
            have := hat (j - k * sz) hjs
            rw [Go.Deep.add_add, show k * sz + (j - k * sz) = j by omega] at this
            rw [this]; exact hj
    obtain ⟨l, hll, ho, hc⟩ := key m (Nat.le_refl _)
    have hvw : Vw W (.slice (some a) n0 m) encα (l.take n0) := by
      have hlen : (l.take n0).length = n0 := by simp; omega
      refine .inr ⟨a, m, by rw [hlen], by omega, fun hne => ?_, fun j u hj => hc j u ?_⟩
      · have hn0 : 0 < n0 := by
          rcases Nat.eq_zero_or_pos n0 with h0 | h0
          · subst h0; simp at hne
          · exact h0
        obtain ⟨cs, hcs, _⟩ := hi 0 (by omega)
        rw [hC] at hcs
        obtain ⟨_, hlen', hat⟩ := World.cells?_some hcs
        have h1 := hat 0 hz
        rw [List.getElem?_eq_getElem (by omega)] at h1
        have := World.cell?_spot h1
        rw [Go.Deep.add_add] at this
        simp at this
        simpa [Addr.add] using this
      · have : l.flatMap encα = (l.take n0).flatMap encα ++ (l.drop n0).flatMap encα := by rw [← List.flatMap_append, List.take_append_drop]
        rw [this, List.getElem?_append_left (List.getElem?_eq_some_iff.1 hj).1]
        exact hj
    exact ⟨_, hvw, fun x hx => ho x (List.mem_of_mem_take hx), by rw [List.length_take]; omega⟩
end
end Go.W
end
section
set_option maxRecDepth 100000
set_option linter.unusedSimpArgs false
set_option linter.unusedVariables false
namespace Go.Proofs.YtcoeknnghfajnaaGreat
open Go Go.W Go.Tk Go.Rx Go.ChangeShapes Go.WideShapes Go.ChangeAt Go.RowKit
theorem own : ownKnob Tryz.prog.godebug = none := by kernel_rfl
theorem laidOut : laidOutB Tryz.prog = true := by kernel_rfl
section
variable {H : Type} {enc : TypeId × Value → H}
theorem open_u8 {W : World} {b : Nat} {v : Value} {d : DataW H} {ps : List MemPlace} (hv : Value.okWide Tryz.prog W .any b 5 v) (h : DataW.Trod enc Tryz.prog W 0 (fun _ => true) true 5 v d ps) : ∃ n : Nat, v = .int .u8 (n : Nat) ∧ n ≤ 255 := by
  obtain ⟨n, h⟩ := h
  obtain ⟨a, ha, _, wa⟩ := DataW.trod_int Tryz.underlying5 h
  have hx : ∃ x, v = .int .u8 x := by
    simp only [Value.okWide, Tryz.underlying5, Cell.okWide] at hv
    cases v <;> simp_all [Cell.ok]
  obtain ⟨x, rfl⟩ := hx
  have ha : [Value.int .u8 x] = [Value.int .u8 a] := ha
  simp at ha
  subst ha
  have q1 : IntKind.u8.min = 0 := rfl
  have q2 : IntKind.u8.max = 255 := rfl
  simp only [Lit.wf, Bool.and_eq_true, decide_eq_true_eq] at wa
  exact ⟨x.toNat, by rw [show ((x.toNat : Nat) : Int) = x by omega], by omega⟩
theorem el_int {W : World} (n : Nat) (cs : List Value) (x : DataW H × List MemPlace) (hl : cs.length = 1) (h : DataW.trod enc Tryz.prog W 0 (fun _ => true) true n 3 cs = some x) : ∃ a : Int, cs = iE a ∧ zok a := by
  obtain ⟨a, ha, _, wa⟩ := DataW.trod_int Tryz.underlying3 h
  have h1 : IntKind.i64.min = -9223372036854775808 := rfl
  have h2 : IntKind.i64.max = 9223372036854775807 := rfl
  simp only [Lit.wf, Bool.and_eq_true, decide_eq_true_eq] at wa
  exact ⟨a, ha, by unfold zok; omega⟩
theorem el_fact {W : World} (n : Nat) (cs : List Value) (x : DataW H × List MemPlace) (hl : cs.length = 2) (h : DataW.trod enc Tryz.prog W 0 (fun _ => true) true n 85 cs = some x) : ∃ a : Fa, cs = faE a ∧ True := by
  obtain ⟨xs, m, rfl, _, _, hxl, hg⟩ := DataW.trod_struct Tryz.underlying85 h
  have hc : Tryz.prog.cellsOf 3 = 1 := by kernel_rfl
  match cs, hl with
  | [u, v], _ =>
    have hx2 : xs.length = 2 := hxl
    have h0 := hg 0 _ rfl
    have h1 := hg 1 _ rfl
    rw [List.getElem?_eq_getElem (by omega)] at h0 h1
    obtain ⟨a, ha, _, wa⟩ := DataW.trod_int Tryz.underlying3 h0
    obtain ⟨b, hb, _, wb⟩ := DataW.trod_int Tryz.underlying3 h1
    replace ha : List.take (Tryz.prog.cellsOf 3) [u, v] = [.int .i64 a] := ha
    replace hb : List.take (Tryz.prog.cellsOf 3) [v] = [.int .i64 b] := hb
    rw [hc] at ha hb
    simp at ha hb
    subst ha hb
    exact ⟨(a, b), rfl, trivial⟩
theorem el_facts {W : World} {n : Nat} {c : Value} {x : DataW H × List MemPlace} (h : DataW.trod enc Tryz.prog W 0 (fun _ => true) true n 23 [c] = some x) : ∃ l : List Fa, Vw W c faE l ∧ l.length ≤ maxLen := by
  obtain ⟨l, h1, _, h2⟩ := el_vw (encα := faE) (ok := fun _ => True) (sz := 2) Tryz.underlying23 (by kernel_rfl) (by omega) faE_len el_fact h
  exact ⟨l, h1, h2⟩
theorem el_ints {W : World} {n : Nat} {c : Value} {x : DataW H × List MemPlace} (h : DataW.trod enc Tryz.prog W 0 (fun _ => true) true n 22 [c] = some x) : ∃ l : List Int, Vw W c iE l ∧ (∀ z ∈ l, zok z) ∧ l.length ≤ maxLen :=
  el_vw (encα := iE) (ok := zok) (sz := 1) Tryz.underlying22 (by kernel_rfl) (by omega) iE_len el_int h
theorem el_eff {W : World} (n : Nat) (cs : List Value) (x : DataW H × List MemPlace) (hl : cs.length = 3) (h : DataW.trod enc Tryz.prog W 0 (fun _ => true) true n 111 cs = some x) : ∃ e : Ef, cs = efE e ∧ (Vw W e.wv.1 faE e.cnd ∧ e.cnd.length ≤ maxLen) := by
  obtain ⟨xs, m, rfl, _, _, hxl, hg⟩ := DataW.trod_struct Tryz.underlying111 h
  have hc : Tryz.prog.cellsOf 3 = 1 := by kernel_rfl
  have hf : Tryz.prog.cellsOf 23 = 1 := by kernel_rfl
  match cs, hl with
  | [u, v, w], _ =>
    have hx2 : xs.length = 3 := hxl
    have h0 := hg 0 _ rfl
    have h1 := hg 1 _ rfl
    have h2 := hg 2 _ rfl
    rw [List.getElem?_eq_getElem (by omega)] at h0 h1 h2
    replace h0 : DataW.trod enc Tryz.prog W 0 (fun _ => true) true m 23 (List.take (Tryz.prog.cellsOf 23) [u, v, w]) = _ := h0
    rw [hf] at h0
    simp only [List.take_succ_cons, List.take_zero] at h0
    obtain ⟨l, hv, hlen⟩ := el_facts h0
    obtain ⟨a, ha, _, wa⟩ := DataW.trod_int Tryz.underlying3 h1
    obtain ⟨b, hb, _, wb⟩ := DataW.trod_int Tryz.underlying3 h2
    replace ha : List.take (Tryz.prog.cellsOf 3) [v, w] = [.int .i64 a] := ha
    replace hb : List.take (Tryz.prog.cellsOf 3) [w] = [.int .i64 b] := hb
    rw [hc] at ha hb
    simp at ha hb
    subst ha hb
    exact ⟨⟨⟨u, hv.o1⟩, l, a, b⟩, rfl, hv, hlen⟩
theorem el_op {W : World} (n : Nat) (cs : List Value) (x : DataW H × List MemPlace) (hl : cs.length = 4) (h : DataW.trod enc Tryz.prog W 0 (fun _ => true) true n 66 cs = some x) : ∃ o : Oq, cs = oqE o ∧ (OqR W o ∧ o.name.size ≤ maxLen ∧ o.pre.length ≤ maxLen ∧ o.effs.length ≤ maxLen ∧ ∀ e ∈ o.effs, e.cnd.length ≤ maxLen) := by
  obtain ⟨xs, m, rfl, _, _, hxl, hg⟩ := DataW.trod_struct Tryz.underlying66 h
  have hs : Tryz.prog.cellsOf 9 = 1 := by kernel_rfl
  have hc : Tryz.prog.cellsOf 3 = 1 := by kernel_rfl
  have hf : Tryz.prog.cellsOf 23 = 1 := by kernel_rfl
  have he : Tryz.prog.cellsOf 64 = 1 := by kernel_rfl
  match cs, hl with
  | [u, v, w, z], _ =>
    have hx2 : xs.length = 4 := hxl
    have h0 := hg 0 _ rfl
    have h1 := hg 1 _ rfl
    have h2 := hg 2 _ rfl
    have h3 := hg 3 _ rfl
    rw [List.getElem?_eq_getElem (by omega)] at h0 h1 h2 h3
    obtain ⟨nm, hn, _, wn⟩ := DataW.trod_string Tryz.underlying9 h0
    obtain ⟨a, ha, _, wa⟩ := DataW.trod_int Tryz.underlying3 h1
    replace hn : List.take (Tryz.prog.cellsOf 9) [u, v, w, z] = [.string nm] := hn
    replace ha : List.take (Tryz.prog.cellsOf 3) [v, w, z] = [.int .i64 a] := ha
    replace h2 : DataW.trod enc Tryz.prog W 0 (fun _ => true) true m 23 (List.take (Tryz.prog.cellsOf 23) [w, z]) = _ := h2
    replace h3 : DataW.trod enc Tryz.prog W 0 (fun _ => true) true m 64 (List.take (Tryz.prog.cellsOf 64) [z]) = _ := h3
    rw [hs] at hn
    rw [hc] at ha
    rw [hf] at h2
    rw [he] at h3
    simp only [List.take_succ_cons, List.take_zero] at h2 h3
    simp at hn ha
    subst hn ha
    obtain ⟨pl, hp1, hp2⟩ := el_facts h2
    obtain ⟨el, he1, he2, he3⟩ := el_vw (encα := efE) (ok := fun e : Ef => Vw W e.wv.1 faE e.cnd ∧ e.cnd.length ≤ maxLen) (sz := 3) Tryz.underlying64 (by kernel_rfl) (by omega) efE_len el_eff h3
    exact ⟨⟨nm, a, ⟨w, hp1.o1⟩, pl, ⟨z, he1.o1⟩, el⟩, rfl, ⟨hp1, he1, fun e h => (he2 e h).1⟩, wn, hp2, he3, fun e h => (he2 e h).2⟩
theorem open_task {W : World} {b : Nat} {v : Value} {d : DataW H} {ps : List MemPlace} (hv : Value.okWide Tryz.prog W .any b 26 v) (h : DataW.Trod enc Tryz.prog W 0 (fun _ => true) true 26 v d ps) : ∃ t : Tk, v = tkV t ∧ TkR W t ∧ TkL t := by
  simp only [Value.okWide, Tryz.underlying26] at hv
  obtain ⟨cs, rfl, hcs, _⟩ := hv
  have h4 : Tryz.prog.cellsOf 26 = 4 := by kernel_rfl
  rw [h4] at hcs
  obtain ⟨n, h⟩ := h
  obtain ⟨xs, m, rfl, _, _, hxl, hg⟩ := DataW.trod_struct Tryz.underlying26 h
  have hc : Tryz.prog.cellsOf 22 = 1 := by kernel_rfl
  have hf : Tryz.prog.cellsOf 23 = 1 := by kernel_rfl
  have ho : Tryz.prog.cellsOf 24 = 1 := by kernel_rfl
  have hl : cs.toList.length = 4 := by simpa using hcs
  have e : (Value.agg cs).cells.toList = cs.toList := rfl
  rw [e] at hg
  match hcl : cs.toList, hl with
  | [u0, u1, u2, u3], _ =>
    rw [hcl] at hg
    have hx2 : xs.length = 4 := hxl
    have h0 := hg 0 _ rfl
    have h1 := hg 1 _ rfl
    have h2 := hg 2 _ rfl
    have h3 := hg 3 _ rfl
    rw [List.getElem?_eq_getElem (by omega)] at h0 h1 h2 h3
    replace h0 : DataW.trod enc Tryz.prog W 0 (fun _ => true) true m 22 (List.take (Tryz.prog.cellsOf 22) [u0, u1, u2, u3]) = _ := h0
    replace h1 : DataW.trod enc Tryz.prog W 0 (fun _ => true) true m 22 (List.take (Tryz.prog.cellsOf 22) [u1, u2, u3]) = _ := h1
    replace h2 : DataW.trod enc Tryz.prog W 0 (fun _ => true) true m 23 (List.take (Tryz.prog.cellsOf 23) [u2, u3]) = _ := h2
    replace h3 : DataW.trod enc Tryz.prog W 0 (fun _ => true) true m 24 (List.take (Tryz.prog.cellsOf 24) [u3]) = _ := h3
    rw [hc] at h0 h1
    rw [hf] at h2
    rw [ho] at h3
    simp only [List.take_succ_cons, List.take_zero] at h0 h1 h2 h3
    obtain ⟨vl, v1, _, v2⟩ := el_ints h0
    obtain ⟨nl, n1, _, n2⟩ := el_ints h1
    obtain ⟨gl, g1, g2⟩ := el_facts h2
    obtain ⟨ol, o1, o2, o3⟩ := el_vw (encα := oqE) (ok := fun o : Oq => OqR W o ∧ o.name.size ≤ maxLen ∧ o.pre.length ≤ maxLen ∧ o.effs.length ≤ maxLen ∧ ∀ e ∈ o.effs, e.cnd.length ≤ maxLen) (sz := 4) Tryz.underlying24 (by kernel_rfl) (by omega) oqE_len el_op h3
    have em : maxLen = 9223372036854775807 := rfl
    refine ⟨⟨⟨u0, v1.o1⟩, ⟨u1, n1.o1⟩, ⟨u2, g1.o1⟩, ⟨u3, o1.o1⟩, vl, nl, gl, ol⟩, ?_, ⟨v1, n1, g1, o1, fun o h => (o2 o h).1⟩, ⟨n2, g2, o3, v2, fun o h => (o2 o h).2⟩⟩
    have : cs = #[u0, u1, u2, u3] := by
      apply Array.toList_inj.1; rw [hcl]
    rw [this]; rfl
end
end Go.Proofs.YtcoeknnghfajnaaGreat
end
section
set_option maxRecDepth 100000
set_option linter.unusedSimpArgs false
set_option linter.unusedVariables false
namespace Go.Proofs.YtcoeknnghfajnaaGreat
open Go Go.W Go.Tk Go.Rx Go.Bd Go.Sy Go.ChangeShapes Go.WideShapes Go.ChangeAt Go.RowKit
section
variable {H : Type} {enc : TypeId × Value → H}
theorem u8_of {u : Value} {k : Int} (h : u = .int .u8 k) (w : Lit.wf (.int .u8 k) = true) : ∃ n : Nat, u = .int .u8 (n : Nat) ∧ n ≤ 255 := by
  have q1 : IntKind.u8.min = 0 := rfl
  have q2 : IntKind.u8.max = 255 := rfl
  simp only [Lit.wf, Bool.and_eq_true, decide_eq_true_eq] at w
  exact ⟨k.toNat, by rw [h, show ((k.toNat : Nat) : Int) = k by omega], by omega⟩
theorem el_act {W : World} (n : Nat) (cs : List Value) (x : DataW H × List MemPlace) (hl : cs.length = 4) (h : DataW.trod enc Tryz.prog W 0 (fun _ => true) true n 50 cs = some x) : ∃ c : Ac, cs = acE c ∧ (c.k ≤ 255 ∧ c.a ≤ 255 ∧ c.b ≤ 255 ∧ Vw W c.pv.1 faE c.p ∧ c.p.length ≤ maxLen) := by
  obtain ⟨xs, m, rfl, _, _, hxl, hg⟩ := DataW.trod_struct Tryz.underlying50 h
  have hc : Tryz.prog.cellsOf 5 = 1 := by kernel_rfl
  have hf : Tryz.prog.cellsOf 23 = 1 := by kernel_rfl
  match cs, hl with
  | [u, v, w, z], _ =>
    have hx2 : xs.length = 4 := hxl
    have h0 := hg 0 _ rfl
    have h1 := hg 1 _ rfl
    have h2 := hg 2 _ rfl
    have h3 := hg 3 _ rfl
    rw [List.getElem?_eq_getElem (by omega)] at h0 h1 h2 h3
    obtain ⟨a, ha, _, wa⟩ := DataW.trod_int Tryz.underlying5 h0
    obtain ⟨b, hb, _, wb⟩ := DataW.trod_int Tryz.underlying5 h1
    obtain ⟨d, hd, _, wd⟩ := DataW.trod_int Tryz.underlying5 h2
    replace ha : List.take (Tryz.prog.cellsOf 5) [u, v, w, z] = [.int .u8 a] := ha
    replace hb : List.take (Tryz.prog.cellsOf 5) [v, w, z] = [.int .u8 b] := hb
    replace hd : List.take (Tryz.prog.cellsOf 5) [w, z] = [.int .u8 d] := hd
    replace h3 : DataW.trod enc Tryz.prog W 0 (fun _ => true) true m 23 (List.take (Tryz.prog.cellsOf 23) [z]) = _ := h3
    rw [hc] at ha hb hd
    rw [hf] at h3
    simp only [List.take_succ_cons, List.take_zero] at h3
    simp at ha hb hd
    obtain ⟨a', ha', wa'⟩ := u8_of ha wa
    obtain ⟨b', hb', wb'⟩ := u8_of hb wb
    obtain ⟨d', hd', wd'⟩ := u8_of hd wd
    obtain ⟨pl, hp1, hp2⟩ := el_facts h3
    exact ⟨⟨a', b', d', ⟨z, hp1.o1⟩, pl⟩, by rw [ha', hb', hd']; rfl, wa', wb', wd', hp1, hp2⟩
theorem open_acts {W : World} {b : Nat} {v : Value} {d : DataW H} {ps : List MemPlace} (hv : Value.okWide Tryz.prog W .any b 46 v) (h : DataW.Trod enc Tryz.prog W 0 (fun _ => true) true 46 v d ps) : ∃ cs : List Ac, AcsR W v cs ∧ cs.length ≤ maxLen := by
  obtain ⟨a0, n0, c0, rfl⟩ := okWide_slice Tryz.underlying46 hv
  obtain ⟨n, h⟩ := h
  obtain ⟨cs, h1, h2, h3⟩ := el_vw (encα := acE) (ok := fun c : Ac => c.k ≤ 255 ∧ c.a ≤ 255 ∧ c.b ≤ 255 ∧ Vw W c.pv.1 faE c.p ∧ c.p.length ≤ maxLen) (sz := 4) Tryz.underlying46 (by kernel_rfl) (by omega) acE_len el_act (fu := n) (v := .slice a0 n0 c0) h
  have em : maxLen = 9223372036854775807 := rfl
  exact ⟨cs, ⟨h1, fun c hc => (h2 c hc).2.2.2.1, fun c hc => (h2 c hc).1, fun c hc => (h2 c hc).2.1, fun c hc => (h2 c hc).2.2.1, fun c hc => (h2 c hc).2.2.2.2⟩, h3⟩
end
end Go.Proofs.YtcoeknnghfajnaaGreat
end
