/-
  A part of the proof of this claim's statement (SyCu, SyWJ, SyWK, SyWL, SyZA): plain theorems; no conditions beyond those each names.
-/
import Derived.Test.YtcoeknnghfajnaaPk22
import Derived.Test.YtcoeknnghfajnaaPk23
import Derived.Test.YtcoeknnghfajnaaPk17
import Derived.Test.YtcoeknnghfajnaaPk08
import Derived.Test.YtcoeknnghfajnaaPk07
import Derived.HandedShaped
import Derived.Shelf.Vars
import Derived.OpenShut
import Derived.Test.YtcoeknnghfajnaaRows
section
set_option maxRecDepth 100000
set_option linter.unusedSimpArgs false
set_option linter.unusedVariables false
namespace Go.Proofs.Ytcoeknnghfajnaa
open Go Go.W Go.Tk Go.Rx Go.Bd Go.Sy Go.Maps
/-- The number of states of a set. -/
def ctN (vars : List Nat) (P : List Nat → Bool) : Nat := ((stsK vars vars.length).filter P).length
theorem ct_num {vars : List Nat} {P : List Nat → Bool} (h64 : ∀ n ∈ vars, n ≤ 64) : num (2 * nBits vars) 0 (ctF vars P) = ctN vars P := by
  rw [num_asL]
  unfold ctN
  have hm : ∀ a, a ∈ (asL (2 * nBits vars) 0).filter (ctF vars P) ↔ (∀ i, ¬ i < 2 * nBits vars → a i = false) ∧ StN vars (rs vars a 0) ∧ P (rs vars a 0) = true ∧ ∀ p, p < nBits vars → a (2 * p + 1) = false := fun a => by
    rw [List.mem_filter, asL_mem]
    unfold ctF
    rw [Bool.and_eq_true_iff, Bool.and_eq_true_iff, zB_all, okB_iff]
    constructor
    · rintro ⟨h1, ⟨h2, h3⟩, h4⟩
      exact ⟨fun i hi => h1 i (by omega), h2, h3, h4⟩
    · rintro ⟨h1, h2, h3, h4⟩
      exact ⟨fun i hi => h1 i (by omega), ⟨h2, h3⟩, h4⟩
  have nd : (((asL (2 * nBits vars) 0).filter (ctF vars P)).map fun a => rs vars a 0).Nodup := by
    refine nd_map ((asL_nd _ _).filter _) fun a ha b hb e => ?_
    obtain ⟨a1, _, _, a4⟩ := (hm a).1 ha
    obtain ⟨b1, _, _, b4⟩ := (hm b).1 hb
    funext i
    by_cases hi : i < 2 * nBits vars
    · by_cases hp : i % 2 = 0
      · obtain ⟨p, rfl⟩ : ∃ p, i = 2 * p := ⟨i / 2, by omega⟩
        exact rs_inj e (by omega)
      · obtain ⟨p, rfl⟩ : ∃ p, i = 2 * p + 1 := ⟨i / 2, by omega⟩
        rw [a4 p (by omega), b4 p (by omega)]
    · rw [a1 i hi, b1 i hi]
  have key := (List.perm_ext_iff_of_nodup nd ((sts_nd vars vars.length).filter P)).2 fun x => by
    rw [List.mem_map, List.mem_filter, sts_mem]
    constructor
    · rintro ⟨a, ha, rfl⟩
      obtain ⟨_, h2, h3, _⟩ := (hm a).1 ha
      exact ⟨h2, h3⟩
    · rintro ⟨h2, h3⟩
      obtain ⟨a, ha⟩ : ∃ a : Nat → Bool, a = fun i => decide (i < 2 * nBits vars) && (decide (i % 2 = 0) && mk2 vars x [] i) := ⟨_, rfl⟩
      have hx : rs vars a 0 = x := by
        rw [← rs_mk2 (y := []) h64 h2]
        refine rs_congr fun p hp => ?_
        have e1 : decide (2 * p + 0 < 2 * nBits vars) = true := by simp; omega
        have e2 : decide ((2 * p + 0) % 2 = 0) = true := by simp
        rw [ha]
        simp only [e1, e2, Bool.true_and]
      refine ⟨a, (hm a).2 ⟨fun i hi => ?_, by rw [hx]; exact h2, by rw [hx]; exact h3, fun p hp => ?_⟩, hx⟩
      · have : decide (i < 2 * nBits vars) = false := by simpa using hi
        rw [ha]
        simp only [this, Bool.false_and]
      · have : decide ((2 * p + 1) % 2 = 0) = false := by simp
        rw [ha]
        simp only [this, Bool.false_and, Bool.and_false]
  rw [← key.length_eq, List.length_map]
end Go.Proofs.Ytcoeknnghfajnaa
end
section
set_option maxRecDepth 100000
set_option linter.unusedSimpArgs false
set_option linter.unusedVariables false
namespace Go.Proofs.Ytcoeknnghfajnaa
open Go Go.W Go.Tk Go.Rx Go.Bd Go.Sy Go.Maps
theorem apS_sk {o o2 : No} (h : o.effs.map skE = o2.effs.map skE) (s : List Nat) : apS o s = apS o2 s := by
  have hl := congrArg List.length h
  rw [List.length_map, List.length_map] at hl
  have key : ∀ k, k ≤ o.effs.length → apK o s k = apK o2 s k := by
    intro k hk
    induction k with
    | zero => rfl
    | succ k ih =>
      have ih := ih (by omega)
      obtain ⟨e, he⟩ : ∃ e, o.effs[k]? = some e := ⟨_, List.getElem?_eq_getElem (by omega)⟩
      obtain ⟨e2, he2⟩ : ∃ e, o2.effs[k]? = some e := ⟨_, List.getElem?_eq_getElem (by omega)⟩
      have hs : skE e = skE e2 := by
        have := congrArg (fun l => l[k]?) h
        simpa [he, he2] using this
      unfold skE at hs
      simp only [Prod.mk.injEq] at hs
      rw [apK_succ he, apK_succ he2, ih, hs.1, hs.2.1, hs.2.2]
  unfold apS
  rw [← hl]
  exact key _ (Nat.le_refl _)
theorem Alk.sk {T T' : Nt} (h : Alk T T') {i : Nat} {o : No} (ho : T.ops[i]? = some o) : ∃ o', T'.ops[i]? = some o' ∧ o'.pre = o.pre ∧ (∀ s, apS o' s = apS o s) ∧ o'.effs.length = o.effs.length := by
  have := congrArg (fun l => l[i]?) h.ops
  simp only [List.getElem?_map, ho, Option.map_some] at this
  cases h2 : T'.ops[i]? with
  | none => rw [h2] at this; cases this
  | some o2 =>
    rw [h2] at this
    simp only [Option.map_some, Option.some.injEq] at this
    unfold skO at this
    simp only [Prod.mk.injEq] at this
    have hl := congrArg List.length this.2.2.2
    rw [List.length_map, List.length_map] at hl
    exact ⟨o2, rfl, this.2.2.1, apS_sk this.2.2.2, hl⟩
theorem imgP_alk {T T' : Nt} {o o' : No} (h : Alk T T') (hp : o'.pre = o.pre) (hs : ∀ s, apS o' s = apS o s) (P : List Nat → Bool) : imgP T' o' P = imgP T o P := by
  funext s
  unfold imgP
  rw [h.vars, hp]
  simp only [hs]
theorem Stp.no {n lim c : Nat} {e : Bool} {ns ns' : Ns} (h : Stp n lim c false ns e ns') (hl : ns.length + c * 2 ^ n ≤ lim) : e = false := by
  cases e with
  | false => rfl
  | true => have := h.full rfl rfl; omega
/-- The document's example. -/
def exO (pv ev wv : Cell1) : No := ⟨ByteArray.empty, 0, pv, [(0, 0)], ev, [⟨⟨.slice none 0 0, rfl⟩, [], 0, 1⟩, ⟨wv, [(1, 1)], 1, 2⟩]⟩
def exT (vv nv ov pv ev wv : Cell1) : Nt := ⟨vv, nv, ⟨.slice none 0 0, rfl⟩, ov, [2, 3], [0, 0], [], [exO pv ev wv]⟩
theorem exT_g {vv nv ov pv ev wv : Cell1} : NtG (exT vv nv ov pv ev wv) := by
  refine ⟨by simp [exT], by simp [exT], by simp [exT], by simp [exT], fun i hi => ?_, ⟨by simp [exT], by simp [exT]⟩, fun o ho => ?_⟩
  · have : i = 0 ∨ i = 1 := by simp [exT] at hi; omega
    rcases this with rfl | rfl <;> simp [exT]
  · simp [exT] at ho
    subst ho
    refine ⟨by simp [exO], by simp [exO], ⟨by simp [exO, exT], by simp [exO]⟩, fun e he => ?_, fun e he => ?_⟩
    · simp [exO] at he
      rcases he with rfl | rfl
      · exact ⟨by simp, by simp⟩
      · exact ⟨by simp [exT], by simp⟩
    · simp [exO] at he
      rcases he with rfl | rfl <;> simp [exT]
theorem exT_good {vv nv ov pv ev wv : Cell1} : goodB (exT vv nv ov pv ev wv).raw = true := by
  rfl
set_option maxHeartbeats 1000000 in
theorem example_spec {w w1 : World} {F : List Nat} {B : Asr} (hB : Lcl B) (h : At w F B w1) : Calls Try.prog 30 [].toArray w1 fun e w' => ∃ x, e = .returned x ∧ ∃ vv nv ov pv ev wv, x = ntV (exT vv nv ov pv ev wv) ∧ At w F (Star (TskA (exT vv nv ov pv ev wv)) B) w' := by
  refine enter Try.func30 mixed low30 (Nat.le_of_ble_eq_true rfl) ?_
  simp only [L30]
  have e0 : ∀ (w : World) (o : Obj), (w.alloc o).heap.size = w.heap.size + 1 := fun w o => by simp
  obtain ⟨rb, hrb⟩ : ∃ rb, rb = w1.heap.size := ⟨_, rfl⟩
  have a1 : At w F (Star (ObjA rb (.cells #[.slice none 0 0, .slice none 0 0, .slice none 0 0, .slice none 0 0] 26 (0, 0))) B) (w1.alloc (.cells #[.slice none 0 0, .slice none 0 0, .slice none 0 0, .slice none 0 0] 26 (0, 0))) := by rw [hrb]; exact h.alloc _ hB
  have a2 := a1.lit (xs := [2, 3]) (enc := nE) (E := 3) (sz := 1) (cs := #[.int .i64 2, .int .i64 3]) (m := 2) (Lcl.obj.star hB) (by simp [nE]) nE_len (by simp [maxLen]) rfl
  have a3 := a2.lit (xs := [0, 0]) (enc := nE) (E := 3) (sz := 1) (cs := #[.int .i64 0, .int .i64 0]) (m := 2) (Lcl.own.star (Lcl.obj.star hB)) (by simp [nE]) nE_len (by simp [maxLen]) rfl
  have a4 := a3.lit (xs := [((0, 0) : Go.Tk.Fc)]) (enc := fcE) (E := 45) (sz := 2) (cs := #[.int .i64 0, .int .i64 0]) (m := 1) (Lcl.own.star (Lcl.own.star (Lcl.obj.star hB))) (by simp [fcE]) fcE_len (by simp [maxLen]) rfl
  have a5 := a4.lit (xs := [((1, 1) : Go.Tk.Fc)]) (enc := fcE) (E := 45) (sz := 2) (cs := #[.int .i64 1, .int .i64 1]) (m := 1) (Lcl.own.star (Lcl.own.star (Lcl.own.star (Lcl.obj.star hB)))) (by simp [fcE]) fcE_len (by simp [maxLen]) rfl
  simp only [e0, ← hrb] at a2 a3 a4 a5
  obtain ⟨vv, hvv⟩ : ∃ vv, vv = Value.slice (some ⟨rb + 1, 0, none⟩) 2 2 := ⟨_, rfl⟩
  obtain ⟨nv, hnv⟩ : ∃ nv, nv = Value.slice (some ⟨rb + 1 + 1, 0, none⟩) 2 2 := ⟨_, rfl⟩
  obtain ⟨pv, hpv⟩ : ∃ pv, pv = Value.slice (some ⟨rb + 1 + 1 + 1, 0, none⟩) 1 1 := ⟨_, rfl⟩
  obtain ⟨wv, hwv⟩ : ∃ wv, wv = Value.slice (some ⟨rb + 1 + 1 + 1 + 1, 0, none⟩) 1 1 := ⟨_, rfl⟩
  obtain ⟨ev, hev⟩ : ∃ ev, ev = Value.slice (some ⟨rb + 1 + 1 + 1 + 1 + 1, 0, none⟩) 2 2 := ⟨_, rfl⟩
  obtain ⟨ov, hov⟩ : ∃ ov, ov = Value.slice (some ⟨rb + 1 + 1 + 1 + 1 + 1 + 1, 0, none⟩) 1 1 := ⟨_, rfl⟩
  have o1 : oneC vv = true := by rw [hvv]; rfl
  have o2 : oneC nv = true := by rw [hnv]; rfl
  have o3 : oneC pv = true := by rw [hpv]; rfl
  have o4 : oneC wv = true := by rw [hwv]; rfl
  have o5 : oneC ev = true := by rw [hev]; rfl
  have o6 : oneC ov = true := by rw [hov]; rfl
  rw [← hvv, ← hnv, ← hpv, ← hwv] at a5
  have hL5 : Lcl (Star (OwnA wv 45 2 fcE [((1, 1) : Go.Tk.Fc)]) (Star (OwnA pv 45 2 fcE [((0, 0) : Go.Tk.Fc)]) (Star (OwnA nv 3 1 nE [0, 0]) (Star (OwnA vv 3 1 nE [2, 3]) (Star (ObjA rb (.cells #[.slice none 0 0, .slice none 0 0, .slice none 0 0, .slice none 0 0] 26 (0, 0))) B))))) := Lcl.own.star (Lcl.own.star (Lcl.own.star (Lcl.own.star (Lcl.obj.star hB))))
  have a6 := a5.lit (xs := [(⟨⟨.slice none 0 0, rfl⟩, [], 0, 1⟩ : Nf), ⟨⟨wv, o4⟩, [(1, 1)], 1, 2⟩]) (enc := nfE) (E := 66) (sz := 3) (cs := #[.slice none 0 0, .int .i64 0, .int .i64 1, wv, .int .i64 1, .int .i64 2]) (m := 2) hL5 (by simp [nfE]) nfE_len (by simp [maxLen]) rfl
  simp only [e0, ← hrb] at a6
  rw [← hev] at a6
  have a7 := a6.lit (xs := [exO ⟨pv, o3⟩ ⟨ev, o5⟩ ⟨wv, o4⟩]) (enc := noE) (E := 57) (sz := 4) (cs := #[.string ByteArray.empty, .int .i64 0, pv, ev]) (m := 1) (Lcl.own.star hL5) (by simp [noE, exO]) noE_len (by simp [maxLen]) rfl
  simp only [e0, ← hrb] at a7
  rw [← hov] at a7
  simp [rowOf, ← hrb]
  rw [← hvv, ← hnv, ← hpv, ← hwv, ← hev, ← hov]
  refine (a7.by Imp.fr7).st (by repeat' (first | exact hB | exact Lcl.own | apply Lcl.star)) (by simp) (by simp [o1, o2, o6]) fun w8 h8 => ?_
  simp
  refine postL_c1 ag_26 (by simp) h8.obj (by simp) rfl ?_
  have hf := h8.by Imp.dr
  have hL8 : Lcl (Star (OwnA ov 57 4 noE [exO ⟨pv, o3⟩ ⟨ev, o5⟩ ⟨wv, o4⟩]) (Star (OwnA ev 66 3 nfE [(⟨⟨.slice none 0 0, rfl⟩, [], 0, 1⟩ : Nf), ⟨⟨wv, o4⟩, [(1, 1)], 1, 2⟩]) (Star (OwnA wv 45 2 fcE [((1, 1) : Go.Tk.Fc)]) (Star (OwnA pv 45 2 fcE [((0, 0) : Go.Tk.Fc)]) (Star (OwnA nv 3 1 nE [0, 0]) (Star (OwnA vv 3 1 nE [2, 3]) B)))))) := by repeat' (first | exact hB | exact Lcl.own | apply Lcl.star)
  have g1 := VwsA.nil (enc := fcE) hL8 hf
  have g2 := g1.nil (E := 45) (sz := 2) (enc := fcE) (Lcl.vws.star hL8)
  have g3 := g2.by (Imp.trans Imp.ow (VwsA.add rfl))
  have g4 := (g3.by Imp.fr4).by (Imp.trans Imp.ow (VwsA.add o4))
  have g5 := VwsA.nil (enc := nfE) (by repeat' (first | exact hB | exact Lcl.own | exact Lcl.vws | apply Lcl.star)) g4
  have g6 := (g5.by Imp.fr4).by (Imp.trans Imp.ow (VwsA.add o5))
  have g7 := VwsA.nil (enc := fcE) (by repeat' (first | exact hB | exact Lcl.own | exact Lcl.vws | apply Lcl.star)) g6
  have g8 := (g7.by Imp.fr5).by (Imp.trans Imp.ow (VwsA.add o3))
  -- pre, effs, conds, ov, nv, vv, B
  have g9 := (g8.by Imp.fr4).by Imp.ow
  have g10 := g9.nil (E := 45) (sz := 2) (enc := fcE) (by repeat' (first | exact hB | exact Lcl.own | exact Lcl.vw | exact Lcl.vws | apply Lcl.star))
  have g11 := g10.by Imp.ow
  have g12 := (g11.by Imp.fr6).by Imp.ow
  have g13 := (g12.by Imp.fr7).by Imp.ow
  have g14 := ((((((g13.by (Imp.un (Imp.un4 Imp.as))).by (Imp.un4 Imp.as)).by (Imp.un (Imp.un (Imp.un Imp.as)))).by (Imp.un (Imp.un Imp.as))).by (Imp.un Imp.as))).by Imp.as
  refine ⟨_, rfl, vv, o1, nv, o2, ov, o6, pv, o3, ev, o5, wv, o4, by simp [ntV, exT], ?_⟩
  exact g14
end Go.Proofs.Ytcoeknnghfajnaa
end
section
set_option maxRecDepth 100000
set_option linter.unusedSimpArgs false
set_option linter.unusedVariables false
namespace Go.Proofs.Ytcoeknnghfajnaa
open Go Go.W Go.Tk Go.Rx Go.Bd Go.Sy Go.Maps
theorem getM_put {κ α : Type} [DecidableEq κ] : ∀ (l : List (κ × α)) (x : κ) (v : α), getM (putM l x v) x = some v := by
  intro l x v
  unfold getM putM
  split
  · rename_i h
    rw [List.any_eq_true] at h
    induction l with
    | nil => obtain ⟨p, hp, _⟩ := h; cases hp
    | cons p l ih =>
      by_cases e : p.1 = x
      · simp [e]
      · simp only [List.map_cons, e, if_false, List.find?_cons, decide_false]
        refine ih ?_
        obtain ⟨q, hq, hq2⟩ := h
        rcases List.mem_cons.1 hq with rfl | hq
        · exact absurd (of_decide_eq_true hq2) e
        · exact ⟨q, hq, hq2⟩
  · rename_i h
    rw [List.find?_append]
    have : l.find? (fun p => decide (p.1 = x)) = none := by
      rw [List.find?_eq_none]
      intro p hp hc
      exact h (List.any_eq_true.2 ⟨p, hp, hc⟩)
    rw [this]
    simp
section
variable {w w1 : World} {F : List Nat} {B : Asr} {s m lim : Nat} {T : Nt} {q : SpC} {ns : Ns} {ks : List (Nat × Bool)} {ss : List (Nat × Nat)}
theorem all_spec (h : At w F (SpcA s m lim T q ns ks ss B) w1) : Calls Try.prog 14 [.pointer (some ⟨s, 0, none⟩)].toArray w1 fun en w' => ∃ v, en = .returned v ∧ v = .int .i64 (q.all : Nat) ∧ At w F (SpcA s m lim T q ns ks ss B) w' := by
  refine enter Try.func14 mixed low14 (Nat.le_of_ble_eq_true rfl) ?_
  simp only [L14]
  have os := SpcA.obj h
  unfold spO at os
  simp [cell_blk os]
  exact h
theorem SpG.six {n : Nat} (h : n < many) : cntV n = .tuple #[.int .i64 (n : Nat), .nilIface] := by
  unfold cntV
  rw [if_pos h]
  rfl
theorem SRes.ok {c : Nat} {P : List Nat → Bool} {v : Value} {w' : World} (h : SRes s m lim T q ns ks ss B w F c P v w') (hl : ns.length + c * 2 ^ (2 * nBits T.vars) ≤ lim) :
    ∃ x ns' ss', v = .tuple #[.int .i64 (x : Nat), .nilIface] ∧ Stp (2 * nBits T.vars) lim c false ns false ns' ∧ Kn T ns' (putM ks x true) x P ∧ SpG lim T q ns' (putM ks x true) ss' ∧ ss'.length ≤ ss.length + 1 ∧ At w F (SpcA s m lim T q ns' (putM ks x true) ss' B) w' := by
  obtain ⟨x, e', ns', ss', rfl, h2, h3, h4, h5, h6, h7⟩ := h
  have : e' = false := h2.no hl
  subst this
  exact ⟨x, ns', ss', rfl, h2, ⟨getM_put _ _ _, h4 rfl⟩, h5, h6, h7⟩
theorem CRes.ok {P : List Nat → Bool} {v : Value} {w' : World} (h : CRes s m lim T q ns ks ss B w F P v w') (hl : ns.length + (3 * nBits T.vars + 1) * 2 ^ (2 * nBits T.vars) ≤ lim) (hg : NtG T) :
    ∃ ns', v = cntV (ctN T.vars P) ∧ Stp (2 * nBits T.vars) lim (3 * nBits T.vars + 1) false ns false ns' ∧ SpG lim T q ns' ks ss ∧ At w F (SpcA s m lim T q ns' ks ss B) w' := by
  obtain ⟨e', ns', rfl, h2, h3, h4⟩ := h
  have : e' = false := h2.no hl
  subst this
  exact ⟨ns', by rw [if_neg (by simp), ct_num fun n hn => (hg.vars n hn).2], h2, h3, h4⟩
end
set_option maxHeartbeats 4000000 in
theorem awake_spec {w w1 : World} {F : List Nat} {B : Asr} (hB : Lcl B) (h : At w F B w1) : Calls Try.prog 9 [].toArray w1 fun en w' => ∃ v, en = .returned v ∧ v = .bool true ∧ At w F B w' := by
  refine enter Try.func9 mixed low9 (Nat.le_of_ble_eq_true rfl) ?_
  simp only [L9]
  simp
  refine cl_of (example_spec hB h) ?_
  rintro _ w2 ⟨vv, nv, ov, pv, ev, wv, rfl, h2⟩
  obtain ⟨T0, hT0⟩ : ∃ T0, T0 = exT vv nv ov pv ev wv := ⟨_, rfl⟩
  have hg0 : NtG T0 := by rw [hT0]; exact exT_g
  have hgd0 : goodB T0.raw = true := by rw [hT0]; exact exT_good
  have hl0 : TkL T0.raw := hg0.lens (by rw [hT0]; simp [exT, exO])
  have ho0 : T0.ops[0]? = some (exO pv ev wv) := by rw [hT0]; rfl
  have hv0 : T0.vars = [2, 3] := by rw [hT0]; rfl
  rw [← hT0] at h2 ⊢
  have hnb : nBits [2, 3] = 3 := rfl
  have hL2 : Lcl (Star (TskA T0) B) := TskA.lcl.star hB
  simp
  refine cl_of (snew_spec T0 1048576 hL2 h2 TskA.rd hg0 hgd0 hl0 (by omega) (by omega)) ?_
  rintro _ w3 hn
  rcases hn with ⟨hbig, _⟩ | ⟨_, e3, ns3, hs3, hn⟩
  · rw [hv0, hnb] at hbig
    omega
  have hc3 := hs3.cnt
  have he3 : e3 = false := hs3.no (by rw [hv0, hnb]; simp)
  subst he3
  rcases hn with ⟨h, _⟩ | ⟨_, s, m, T, q, hA, rfl, hG3, h3⟩
  · cases h
  have hv : T.vars = [2, 3] := by rw [hA.vars, hv0]
  rw [hv0, hnb] at hc3
  simp at hc3
  have k3 : Kn T ns3 (putM [(0, true)] q.all true) q.all (fun _ => true) := ⟨getM_put _ _ _, hG3.all⟩
  simp
  refine cl_of (all_spec h3) ?_
  rintro _ w4 ⟨rfl, h4⟩
  simp
  refine cl_of (count_spec q.all (fun _ => true) hG3 hL2 h4 k3) ?_
  rintro v5 w5 hc
  obtain ⟨ns5, rfl, hs5, hG5, h5⟩ := hc.ok (by rw [hv, hnb]; simp; omega) hG3.g
  have hc5 := hs5.cnt
  rw [hv, hnb] at hc5
  simp at hc5
  have e6 : ctN T.vars (fun _ => true) = 6 := by rw [hv]; rfl
  rw [e6, SpG.six (by decide)]
  simp
  have hk3 := hG3.ok
  have k5 : Kn T ns5 (putM [(0, true)] q.all true) q.all (fun _ => true) := ⟨k3.kn, k3.ok.stp hk3 hs5⟩
  obtain ⟨o, ho, op, oa, oe⟩ := hA.sk ho0
  have hpl : o.pre.length = 1 := by rw [op]; rfl
  have hel : o.effs.length = 2 := by rw [oe]; rfl
  refine cl_of (all_spec h5) ?_
  rintro _ w6 ⟨rfl, h6⟩
  simp
  refine cl_of (image_spec q.all 0 o (fun _ => true) hG5 hL2 h6 k5 ho (by have : (putM [(0, true)] q.all true).length ≤ 1 + 1 := putM_len_le; omega) (by simp)) ?_
  rintro v7 w7 hs
  obtain ⟨x, ns7, ss7, rfl, hs7, k7, hG7, hl7, h7⟩ := hs.ok (by unfold imC rlC; rw [hv, hnb, hpl, hel]; simp; omega)
  have hc7 := hs7.cnt
  unfold imC rlC at hc7
  rw [hv, hnb, hpl, hel] at hc7
  simp at hc7
  simp
  refine cl_of (count_spec x _ hG7 hL2 h7 k7) ?_
  rintro v8 w8 hc
  obtain ⟨ns8, rfl, hs8, hG8, h8⟩ := hc.ok (by rw [hv, hnb]; simp; omega) hG7.g
  have hP : imgP T o (fun _ => true) = imgP T0 (exO pv ev wv) (fun _ => true) := imgP_alk hA op oa _
  have e8 : ctN T.vars (imgP T o fun _ => true) = 2 := by rw [hP, hv, hT0]; rfl
  rw [e8, SpG.six (by decide)]
  have k8 : Kn T ns8 (putM (putM [(0, true)] q.all true) x true) x (imgP T o fun _ => true) := ⟨k7.kn, k7.ok.stp hG7.ok hs8⟩
  simp [rowOf]
  have h9 := h8.lit (xs := [1, 2]) (enc := nE) (E := 3) (sz := 1) (cs := #[.int .i64 1, .int .i64 2]) (m := 2) (SpcA.lcl hL2) (by simp [nE]) nE_len (by simp [maxLen]) rfl
  have h10 := SpcA.into h9
  refine cl_of (has_spec x _ [1, 2] _ hG8 (Lcl.own.star hL2) h10 k8 Rds.own ?_) ?_
  · rw [hv]
    exact ⟨rfl, fun v hv => by have : v = 0 ∨ v = 1 := by simp at hv; omega
                               rcases this with rfl | rfl <;> decide⟩
  rintro _ w11 ⟨rfl, h11⟩
  have e11 : imgP T o (fun _ => true) [1, 2] = true := by rw [hP, hT0]; rfl
  rw [e11]
  simp
  have h12 := SpcA.less h11
  unfold SpcA at h12
  exact h12.drop.drop.drop.drop.drop.drop.drop.drop
end Go.Proofs.Ytcoeknnghfajnaa
end
section
set_option maxRecDepth 100000
set_option linter.unusedSimpArgs false
set_option linter.unusedVariables false
namespace Go.Proofs.Ytcoeknnghfajnaa
open Go Go.W Go.Tk Go.Rx Go.Bd Go.Sy Go.Maps
def niV : Value := .tuple #[.int .i64 0, berrV 3]
theorem two_nil (a b : Int) (w : World) : Calls Try.prog 40 [.pointer none, .int .i64 a, .int .i64 b].toArray w fun e w' => ∃ x, e = .returned x ∧ x = berrV 3 ∧ Kp [] w w' := by
  refine enter Try.func40 mixed low40 (Nat.le_of_ble_eq_true rfl) ?_
  simp only [L40]
  simp [berrV]
  exact Kp.refl _ _
theorem step_nil (a b : Int) (w : World) : Calls Try.prog 46 [.pointer none, .int .i64 a, .int .i64 b].toArray w fun e w' => ∃ x, e = .returned x ∧ x = berrV 3 ∧ Kp [] w w' := by
  refine enter Try.func46 mixed low46 (Nat.le_of_ble_eq_true rfl) ?_
  simp only [L46]
  simp [berrV]
  exact Kp.refl _ _
theorem union_nil (a b : Int) (w : World) : Calls Try.prog 15 [.pointer none, .int .i64 a, .int .i64 b].toArray w fun e w' => ∃ x, e = .returned x ∧ x = niV ∧ Kp [] w w' := by
  refine enter Try.func15 mixed low15 (Nat.le_of_ble_eq_true rfl) ?_
  simp only [L15]
  simp
  refine cl_of (two_nil a b w) ?_
  rintro _ w2 ⟨rfl, k2⟩
  simp [berrV, niV]
  exact k2
theorem image_nil (a b : Int) (w : World) : Calls Try.prog 24 [.pointer none, .int .i64 a, .int .i64 b].toArray w fun e w' => ∃ x, e = .returned x ∧ x = niV ∧ Kp [] w w' := by
  refine enter Try.func24 mixed low24 (Nat.le_of_ble_eq_true rfl) ?_
  simp only [L24]
  simp
  refine cl_of (step_nil a b w) ?_
  rintro _ w2 ⟨rfl, k2⟩
  simp [berrV, niV]
  exact k2
theorem partial_nil (v : Value) (w : World) : Calls Try.prog 12 [.pointer none, v].toArray w fun e w' => ∃ x, e = .returned x ∧ x = niV ∧ Kp [] w w' := by
  refine enter Try.func12 mixed low12 (Nat.le_of_ble_eq_true rfl) ?_
  simp only [L12]
  simp [berrV, niV]
  exact Kp.refl _ _
theorem count_nil (a : Int) (w : World) : Calls Try.prog 17 [.pointer none, .int .i64 a].toArray w fun e w' => ∃ x, e = .returned x ∧ x = niV ∧ Kp [] w w' := by
  refine enter Try.func17 mixed low17 (Nat.le_of_ble_eq_true rfl) ?_
  simp only [L17]
  simp [berrV, niV]
  exact Kp.refl _ _
theorem spick_nil (a : Int) (w : World) : Calls Try.prog 25 [.pointer none, .int .i64 a].toArray w fun e w' => ∃ x, e = .returned x ∧ x = .tuple #[.slice none 0 0, berrV 3] ∧ Kp [] w w' := by
  refine enter Try.func25 mixed low25 (Nat.le_of_ble_eq_true rfl) ?_
  simp only [L25]
  simp [berrV]
  exact Kp.refl _ _
theorem has_nil (a : Int) (v : Value) (w : World) : Calls Try.prog 22 [.pointer none, .int .i64 a, v].toArray w fun e w' => ∃ x, e = .returned x ∧ x = .tuple #[.bool false, berrV 3] ∧ Kp [] w w' := by
  refine enter Try.func22 mixed low22 (Nat.le_of_ble_eq_true rfl) ?_
  simp only [L22]
  simp [berrV]
  exact Kp.refl _ _
theorem all_nil (w : World) : Calls Try.prog 14 [.pointer none].toArray w fun e w' => ∃ x, e = .returned x ∧ x = .int .i64 0 ∧ Kp [] w w' := by
  refine enter Try.func14 mixed low14 (Nat.le_of_ble_eq_true rfl) ?_
  simp only [L14]
  simp
  exact Kp.refl _ _
set_option maxHeartbeats 1000000 in
theorem law_snil (a b : Int) (w : World) : Calls Try.prog 5 [.int .i64 a, .int .i64 b].toArray w fun e w' => ∃ x, e = .returned x ∧ x = .bool true ∧ Kp [] w w' := by
  refine enter Try.func5 mixed low5 (Nat.le_of_ble_eq_true rfl) ?_
  simp only [L5]
  simp
  refine cl_of (awake_spec .emp (At.start rfl : At w [] Emp w)) ?_
  rintro _ w1 ⟨rfl, h1⟩
  simp
  refine cl_of (union_nil a b w1) ?_
  rintro _ w2 ⟨rfl, k2⟩
  have h2 := h1.kp0 .emp k2
  simp [niV]
  refine cl_of (image_nil a b w2) ?_
  rintro _ w3 ⟨rfl, k3⟩
  have h3 := h2.kp0 .emp k3
  simp [niV]
  refine cl_of (partial_nil _ w3) ?_
  rintro _ w4 ⟨rfl, k4⟩
  have h4 := h3.kp0 .emp k4
  simp [niV]
  refine cl_of (count_nil a w4) ?_
  rintro _ w5 ⟨rfl, k5⟩
  have h5 := h4.kp0 .emp k5
  simp [niV]
  refine cl_of (spick_nil a w5) ?_
  rintro _ w6 ⟨rfl, k6⟩
  have h6 := h5.kp0 .emp k6
  simp
  refine cl_of (has_nil a _ w6) ?_
  rintro _ w7 ⟨rfl, k7⟩
  have h7 := h6.kp0 .emp k7
  have h8 := h7.lit (xs := List.replicate 6 ()) (enc := fun (_ : Unit) => [berrV 3]) (E := 32) (sz := 1) (cs := #[berrV 3, berrV 3, berrV 3, berrV 3, berrV 3, berrV 3]) (m := 6) .emp rfl (fun _ => rfl) (by simp [maxLen]) (by simp)
  have hv := h8.own.vw
  simp [rowOf, berrV, hv.len]
  refine range_loop (n := 6) (by omega) (fun k ρ w8 => ρ 5 = .pointer none ∧ ρ 65 = .slice (some ⟨w7.heap.size, 0, none⟩) 6 6 ∧ At w [] (Star (OwnA (.slice (some ⟨w7.heap.size, 0, none⟩) 6 6) 32 1 (fun (_ : Unit) => [berrV 3]) (List.replicate 6 ())) Emp) w8) (by simp) (by simp)
    ⟨by simp, by simp, h8⟩ (by decide) (fun _ _ _ _ h => by simpa using h) (fun _ _ _ _ h => by simpa using h) ?_ ?_
  · rintro k ρ w8 hk hc hlim ⟨g5, g65, h9⟩
    have hget : (List.replicate 6 ())[k]? = some () := by simp [hk]
    have hv9 := h9.own.vw
    have hcell : w8.cell? { block := w7.heap.size, off := k } = some (berrV 3) := by
      have h := Vw.cell (f := fun _ : Unit => berrV 3) hv9 hget
      simp [Addr.add] at h
      by_cases h0 : k = 0
      · simpa [h0] using h
      · simpa [h0] using h
    simp (disch := omega) [g5, g65, hc, hv9.idx]
    refine gd_mk (by omega) ?_
    simp [g5, g65, hc, hcell]
    refine cl_of (is_err 3 3 w8) ?_
    rintro _ w9 ⟨rfl, k9⟩
    simp [hc, hlim, g5, g65]
    exact h9.kp0 (Lcl.own.star .emp) k9
  · rintro ρ w8 ⟨g5, g65, h9⟩
    simp [g5]
    refine cl_of (all_nil w8) ?_
    rintro _ w9 ⟨rfl, k9⟩
    simp
    exact (h9.kp0 (Lcl.own.star .emp) k9).kp
end Go.Proofs.Ytcoeknnghfajnaa
end
section
set_option maxRecDepth 100000
set_option linter.unusedSimpArgs false
set_option linter.unusedVariables false
namespace Go.Proofs.Ytcoeknnghfajnaa
open Go Go.W Go.Bd Go.ChangeShapes Go.WideShapes Go.ChangeAt Go.RowKit
theorem sown : ownKnob Try.prog.godebug = none := by kernel_rfl
section
variable {H : Type} {enc : TypeId × Value → H}
theorem sopen_int {W : World} {b : Nat} {v : Value} {d : DataW H} {ps : List MemPlace} (hv : Value.okWide Try.prog W .any b 3 v) (h : DataW.Trod enc Try.prog W 0 (fun _ => true) true 3 v d ps) : ∃ n : Int, v = .int .i64 n ∧ (-9223372036854775808 ≤ n ∧ n ≤ 9223372036854775807) := by
  obtain ⟨n, h⟩ := h
  obtain ⟨a, ha, _, wa⟩ := DataW.trod_int Try.underlying3 h
  have hx : ∃ x, v = .int .i64 x := by
    simp only [Value.okWide, Try.underlying3, Cell.okWide] at hv
    cases v <;> simp_all [Cell.ok]
  obtain ⟨x, rfl⟩ := hx
  have ha : [Value.int .i64 x] = [Value.int .i64 a] := ha
  simp at ha
  subst ha
  have h1 : IntKind.i64.min = -9223372036854775808 := rfl
  have h2 : IntKind.i64.max = 9223372036854775807 := rfl
  simp only [Lit.wf, Bool.and_eq_true, decide_eq_true_eq] at wa
  exact ⟨x, rfl, by omega⟩
end
end Go.Proofs.Ytcoeknnghfajnaa
end
