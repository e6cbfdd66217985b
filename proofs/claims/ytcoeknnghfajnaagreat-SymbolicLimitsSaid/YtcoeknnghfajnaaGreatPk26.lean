/-
  A part of the proof of this claim's statement (SyCu, SyWJ, SyWK, SyXA, SyXB, SyXC): plain theorems; no conditions beyond those each names.
-/
import Derived.Test.YtcoeknnghfajnaaGreatPk24
import Derived.Test.YtcoeknnghfajnaaGreatPk25
import Derived.Test.YtcoeknnghfajnaaGreatPk14
section
set_option maxRecDepth 100000
set_option linter.unusedSimpArgs false
set_option linter.unusedVariables false
namespace Go.Proofs.YtcoeknnghfajnaaGreat
open Go Go.W Go.Tk Go.Rx Go.Bd Go.Sy Go.Maps
/-- The number of states of a set. -/
def ctN (vars : List Nat) (P : List Nat → Bool) : Nat := ((stsK vars vars.length).filter P).length
theorem ct_num {vars : List Nat} {P : List Nat → Bool} (h64 : ∀ n ∈ vars, n ≤ 64) : num (2 * nBits vars) 0 (ctF vars P) = ctN vars P := by
  rw [num_asL]
  unfold ctN
  have hm : ∀ a, a ∈ (asL (2 * nBits vars) 0).filter (ctF vars P) ↔ (∀ i, ¬ i < 2 * nBits vars → a i = false) ∧ StN vars (rs vars a 0) ∧ P (rs vars a 0) = true ∧ ∀ p, p < nBits vars → a (2 * p + 1) = false := fun a => by
    rw [List.mem_filter, asL_mem]
    unfold ctF
    rw [Bool.and_eq_true_iff, Bool.and_eq_true_iff, zB_all, okB_iff]
    constructor
    · rintro ⟨h1, ⟨h2, h3⟩, h4⟩
      exact ⟨fun i hi => h1 i (by omega), h2, h3, h4⟩
    · rintro ⟨h1, h2, h3, h4⟩
      exact ⟨fun i hi => h1 i (by omega), ⟨h2, h3⟩, h4⟩
  have nd : (((asL (2 * nBits vars) 0).filter (ctF vars P)).map fun a => rs vars a 0).Nodup := by
    refine nd_map ((asL_nd _ _).filter _) fun a ha b hb e => ?_
    obtain ⟨a1, _, _, a4⟩ := (hm a).1 ha
    obtain ⟨b1, _, _, b4⟩ := (hm b).1 hb
    funext i
    by_cases hi : i < 2 * nBits vars
    · by_cases hp : i % 2 = 0
      · obtain ⟨p, rfl⟩ : ∃ p, i = 2 * p := ⟨i / 2, by omega⟩
        exact rs_inj e (by omega)
      · obtain ⟨p, rfl⟩ : ∃ p, i = 2 * p + 1 := ⟨i / 2, by omega⟩
        rw [a4 p (by omega), b4 p (by omega)]
    · rw [a1 i hi, b1 i hi]
  have key := (List.perm_ext_iff_of_nodup nd ((sts_nd vars vars.length).filter P)).2 fun x => by
    rw [List.mem_map, List.mem_filter, sts_mem]
    constructor
    · rintro ⟨a, ha, rfl⟩
      obtain ⟨_, h2, h3, _⟩ := (hm a).1 ha
      exact ⟨h2, h3⟩
    · rintro ⟨h2, h3⟩
      obtain ⟨a, ha⟩ : ∃ a : Nat → Bool, a = fun i => decide (i < 2 * nBits vars) && (decide (i % 2 = 0) && mk2 vars x [] i) := ⟨_, rfl⟩
      have hx : rs vars a 0 = x := by
        rw [← rs_mk2 (y := []) h64 h2]
        refine rs_congr fun p hp => ?_
        have e1 : decide (2 * p + 0 < 2 * nBits vars) = true := by simp; omega
        have e2 : decide ((2 * p + 0) % 2 = 0) = true := by simp
        rw [ha]
        simp only [e1, e2, Bool.true_and]
      refine ⟨a, (hm a).2 ⟨fun i hi => ?_, by rw [hx]; exact h2, by rw [hx]; exact h3, fun p hp => ?_⟩, hx⟩
      · have : decide (i < 2 * nBits vars) = false := by simpa using hi
        rw [ha]
        simp only [this, Bool.false_and]
      · have : decide ((2 * p + 1) % 2 = 0) = false := by simp
        rw [ha]
        simp only [this, Bool.false_and, Bool.and_false]
  rw [← key.length_eq, List.length_map]
end Go.Proofs.YtcoeknnghfajnaaGreat
end
section
set_option maxRecDepth 100000
set_option linter.unusedSimpArgs false
set_option linter.unusedVariables false
namespace Go.Proofs.YtcoeknnghfajnaaGreat
open Go Go.W Go.Tk Go.Rx Go.Bd Go.Sy Go.Maps
theorem apS_sk {o o2 : No} (h : o.effs.map skE = o2.effs.map skE) (s : List Nat) : apS o s = apS o2 s := by
  have hl := congrArg List.length h
  rw [List.length_map, List.length_map] at hl
  have key : ∀ k, k ≤ o.effs.length → apK o s k = apK o2 s k := by
    intro k hk
    induction k with
    | zero => rfl
    | succ k ih =>
      have ih := ih (by omega)
      obtain ⟨e, he⟩ : ∃ e, o.effs[k]? = some e := ⟨_, List.getElem?_eq_getElem (by omega)⟩
      obtain ⟨e2, he2⟩ : ∃ e, o2.effs[k]? = some e := ⟨_, List.getElem?_eq_getElem (by omega)⟩
      have hs : skE e = skE e2 := by
        have := congrArg (fun l => l[k]?) h
        simpa [he, he2] using this
      unfold skE at hs
      simp only [Prod.mk.injEq] at hs
      rw [apK_succ he, apK_succ he2, ih, hs.1, hs.2.1, hs.2.2]
  unfold apS
  rw [← hl]
  exact key _ (Nat.le_refl _)
theorem Alk.sk {T T' : Nt} (h : Alk T T') {i : Nat} {o : No} (ho : T.ops[i]? = some o) : ∃ o', T'.ops[i]? = some o' ∧ o'.pre = o.pre ∧ (∀ s, apS o' s = apS o s) ∧ o'.effs.length = o.effs.length := by
  have := congrArg (fun l => l[i]?) h.ops
  simp only [List.getElem?_map, ho, Option.map_some] at this
  cases h2 : T'.ops[i]? with
  | none => rw [h2] at this; cases this
  | some o2 =>
    rw [h2] at this
    simp only [Option.map_some, Option.some.injEq] at this
    unfold skO at this
    simp only [Prod.mk.injEq] at this
    have hl := congrArg List.length this.2.2.2
    rw [List.length_map, List.length_map] at hl
    exact ⟨o2, rfl, this.2.2.1, apS_sk this.2.2.2, hl⟩
theorem imgP_alk {T T' : Nt} {o o' : No} (h : Alk T T') (hp : o'.pre = o.pre) (hs : ∀ s, apS o' s = apS o s) (P : List Nat → Bool) : imgP T' o' P = imgP T o P := by
  funext s
  unfold imgP
  rw [h.vars, hp]
  simp only [hs]
theorem preP_alk {o o' : No} (hp : o'.pre = o.pre) (hs : ∀ s, apS o' s = apS o s) (P : List Nat → Bool) : preP o' P = preP o P := by
  funext s
  unfold preP
  rw [hp, hs]
theorem Stp.no {n lim c : Nat} {e : Bool} {ns ns' : Ns} (h : Stp n lim c false ns e ns') (hl : ns.length + c * 2 ^ n ≤ lim) : e = false := by
  cases e with
  | false => rfl
  | true => have := h.full rfl rfl; omega
/-- The document's example. -/
def exO (pv ev wv : Cell1) : No := ⟨ByteArray.empty, 0, pv, [(0, 0)], ev, [⟨⟨.slice none 0 0, rfl⟩, [], 0, 1⟩, ⟨wv, [(1, 1)], 1, 2⟩]⟩
def exT (vv nv ov pv ev wv : Cell1) : Nt := ⟨vv, nv, ⟨.slice none 0 0, rfl⟩, ov, [2, 3], [0, 0], [], [exO pv ev wv]⟩
theorem exT_g {vv nv ov pv ev wv : Cell1} : NtG (exT vv nv ov pv ev wv) := by
  refine ⟨by simp [exT], by simp [exT], by simp [exT], by simp [exT], fun i hi => ?_, ⟨by simp [exT], by simp [exT]⟩, fun o ho => ?_⟩
  · have : i = 0 ∨ i = 1 := by simp [exT] at hi; omega
    rcases this with rfl | rfl <;> simp [exT]
  · simp [exT] at ho
    subst ho
    refine ⟨by simp [exO], by simp [exO], ⟨by simp [exO, exT], by simp [exO]⟩, fun e he => ?_, fun e he => ?_⟩
    · simp [exO] at he
      rcases he with rfl | rfl
      · exact ⟨by simp, by simp⟩
      · exact ⟨by simp [exT], by simp⟩
    · simp [exO] at he
      rcases he with rfl | rfl <;> simp [exT]
theorem exT_good {vv nv ov pv ev wv : Cell1} : goodB (exT vv nv ov pv ev wv).raw = true := by
  rfl
set_option maxHeartbeats 1000000 in
theorem example_spec {w w1 : World} {F : List Nat} {B : Asr} (hB : Lcl B) (h : At w F B w1) : Calls Tryz.prog 26 [].toArray w1 fun e w' => ∃ x, e = .returned x ∧ ∃ vv nv ov pv ev wv, x = ntV (exT vv nv ov pv ev wv) ∧ At w F (Star (TskA (exT vv nv ov pv ev wv)) B) w' := by
  refine enter Tryz.func26 mixed low26 (Nat.le_of_ble_eq_true rfl) ?_
  simp only [L26]
  have e0 : ∀ (w : World) (o : Obj), (w.alloc o).heap.size = w.heap.size + 1 := fun w o => by simp
  obtain ⟨rb, hrb⟩ : ∃ rb, rb = w1.heap.size := ⟨_, rfl⟩
  have a1 : At w F (Star (ObjA rb (.cells #[.slice none 0 0, .slice none 0 0, .slice none 0 0, .slice none 0 0] 26 (0, 0))) B) (w1.alloc (.cells #[.slice none 0 0, .slice none 0 0, .slice none 0 0, .slice none 0 0] 26 (0, 0))) := by rw [hrb]; exact h.alloc _ hB
  have a2 := a1.lit (xs := [2, 3]) (enc := nE) (E := 3) (sz := 1) (cs := #[.int .i64 2, .int .i64 3]) (m := 2) (Lcl.obj.star hB) (by simp [nE]) nE_len (by simp [maxLen]) rfl
  have a3 := a2.lit (xs := [0, 0]) (enc := nE) (E := 3) (sz := 1) (cs := #[.int .i64 0, .int .i64 0]) (m := 2) (Lcl.own.star (Lcl.obj.star hB)) (by simp [nE]) nE_len (by simp [maxLen]) rfl
  have a4 := a3.lit (xs := [((0, 0) : Go.Tk.Fc)]) (enc := fcE) (E := 85) (sz := 2) (cs := #[.int .i64 0, .int .i64 0]) (m := 1) (Lcl.own.star (Lcl.own.star (Lcl.obj.star hB))) (by simp [fcE]) fcE_len (by simp [maxLen]) rfl
  have a5 := a4.lit (xs := [((1, 1) : Go.Tk.Fc)]) (enc := fcE) (E := 85) (sz := 2) (cs := #[.int .i64 1, .int .i64 1]) (m := 1) (Lcl.own.star (Lcl.own.star (Lcl.own.star (Lcl.obj.star hB)))) (by simp [fcE]) fcE_len (by simp [maxLen]) rfl
  simp only [e0, ← hrb] at a2 a3 a4 a5
  obtain ⟨vv, hvv⟩ : ∃ vv, vv = Value.slice (some ⟨rb + 1, 0, none⟩) 2 2 := ⟨_, rfl⟩
  obtain ⟨nv, hnv⟩ : ∃ nv, nv = Value.slice (some ⟨rb + 1 + 1, 0, none⟩) 2 2 := ⟨_, rfl⟩
  obtain ⟨pv, hpv⟩ : ∃ pv, pv = Value.slice (some ⟨rb + 1 + 1 + 1, 0, none⟩) 1 1 := ⟨_, rfl⟩
  obtain ⟨wv, hwv⟩ : ∃ wv, wv = Value.slice (some ⟨rb + 1 + 1 + 1 + 1, 0, none⟩) 1 1 := ⟨_, rfl⟩
  obtain ⟨ev, hev⟩ : ∃ ev, ev = Value.slice (some ⟨rb + 1 + 1 + 1 + 1 + 1, 0, none⟩) 2 2 := ⟨_, rfl⟩
  obtain ⟨ov, hov⟩ : ∃ ov, ov = Value.slice (some ⟨rb + 1 + 1 + 1 + 1 + 1 + 1, 0, none⟩) 1 1 := ⟨_, rfl⟩
  have o1 : oneC vv = true := by rw [hvv]; rfl
  have o2 : oneC nv = true := by rw [hnv]; rfl
  have o3 : oneC pv = true := by rw [hpv]; rfl
  have o4 : oneC wv = true := by rw [hwv]; rfl
  have o5 : oneC ev = true := by rw [hev]; rfl
  have o6 : oneC ov = true := by rw [hov]; rfl
  rw [← hvv, ← hnv, ← hpv, ← hwv] at a5
  have hL5 : Lcl (Star (OwnA wv 85 2 fcE [((1, 1) : Go.Tk.Fc)]) (Star (OwnA pv 85 2 fcE [((0, 0) : Go.Tk.Fc)]) (Star (OwnA nv 3 1 nE [0, 0]) (Star (OwnA vv 3 1 nE [2, 3]) (Star (ObjA rb (.cells #[.slice none 0 0, .slice none 0 0, .slice none 0 0, .slice none 0 0] 26 (0, 0))) B))))) := Lcl.own.star (Lcl.own.star (Lcl.own.star (Lcl.own.star (Lcl.obj.star hB))))
  have a6 := a5.lit (xs := [(⟨⟨.slice none 0 0, rfl⟩, [], 0, 1⟩ : Nf), ⟨⟨wv, o4⟩, [(1, 1)], 1, 2⟩]) (enc := nfE) (E := 111) (sz := 3) (cs := #[.slice none 0 0, .int .i64 0, .int .i64 1, wv, .int .i64 1, .int .i64 2]) (m := 2) hL5 (by simp [nfE]) nfE_len (by simp [maxLen]) rfl
  simp only [e0, ← hrb] at a6
  rw [← hev] at a6
  have a7 := a6.lit (xs := [exO ⟨pv, o3⟩ ⟨ev, o5⟩ ⟨wv, o4⟩]) (enc := noE) (E := 66) (sz := 4) (cs := #[.string ByteArray.empty, .int .i64 0, pv, ev]) (m := 1) (Lcl.own.star hL5) (by simp [noE, exO]) noE_len (by simp [maxLen]) rfl
  simp only [e0, ← hrb] at a7
  rw [← hov] at a7
  simp [rowOf, ← hrb]
  rw [← hvv, ← hnv, ← hpv, ← hwv, ← hev, ← hov]
  refine (a7.by Imp.fr7).st (by repeat' (first | exact hB | exact Lcl.own | apply Lcl.star)) (by simp) (by simp [o1, o2, o6]) fun w8 h8 => ?_
  simp
  refine postL_c1 ag_26 (by simp) h8.obj (by simp) rfl ?_
  have hf := h8.by Imp.dr
  have hL8 : Lcl (Star (OwnA ov 66 4 noE [exO ⟨pv, o3⟩ ⟨ev, o5⟩ ⟨wv, o4⟩]) (Star (OwnA ev 111 3 nfE [(⟨⟨.slice none 0 0, rfl⟩, [], 0, 1⟩ : Nf), ⟨⟨wv, o4⟩, [(1, 1)], 1, 2⟩]) (Star (OwnA wv 85 2 fcE [((1, 1) : Go.Tk.Fc)]) (Star (OwnA pv 85 2 fcE [((0, 0) : Go.Tk.Fc)]) (Star (OwnA nv 3 1 nE [0, 0]) (Star (OwnA vv 3 1 nE [2, 3]) B)))))) := by repeat' (first | exact hB | exact Lcl.own | apply Lcl.star)
  have g1 := VwsA.nil (enc := fcE) hL8 hf
  have g2 := g1.nil (E := 85) (sz := 2) (enc := fcE) (Lcl.vws.star hL8)
  have g3 := g2.by (Imp.trans Imp.ow (VwsA.add rfl))
  have g4 := (g3.by Imp.fr4).by (Imp.trans Imp.ow (VwsA.add o4))
  have g5 := VwsA.nil (enc := nfE) (by repeat' (first | exact hB | exact Lcl.own | exact Lcl.vws | apply Lcl.star)) g4
  have g6 := (g5.by Imp.fr4).by (Imp.trans Imp.ow (VwsA.add o5))
  have g7 := VwsA.nil (enc := fcE) (by repeat' (first | exact hB | exact Lcl.own | exact Lcl.vws | apply Lcl.star)) g6
  have g8 := (g7.by Imp.fr5).by (Imp.trans Imp.ow (VwsA.add o3))
  -- pre, effs, conds, ov, nv, vv, B
  have g9 := (g8.by Imp.fr4).by Imp.ow
  have g10 := g9.nil (E := 85) (sz := 2) (enc := fcE) (by repeat' (first | exact hB | exact Lcl.own | exact Lcl.vw | exact Lcl.vws | apply Lcl.star))
  have g11 := g10.by Imp.ow
  have g12 := (g11.by Imp.fr6).by Imp.ow
  have g13 := (g12.by Imp.fr7).by Imp.ow
  have g14 := ((((((g13.by (Imp.un (Imp.un4 Imp.as))).by (Imp.un4 Imp.as)).by (Imp.un (Imp.un (Imp.un Imp.as)))).by (Imp.un (Imp.un Imp.as))).by (Imp.un Imp.as))).by Imp.as
  refine ⟨_, rfl, vv, o1, nv, o2, ov, o6, pv, o3, ev, o5, wv, o4, by simp [ntV, exT], ?_⟩
  exact g14
end Go.Proofs.YtcoeknnghfajnaaGreat
end
section
set_option maxRecDepth 100000
set_option linter.unusedSimpArgs false
set_option linter.unusedVariables false
namespace Go.Proofs.YtcoeknnghfajnaaGreat
open Go Go.W Go.Tk Go.Rx Go.Bd Go.Sy Go.Maps
theorem getM_put {κ α : Type} [DecidableEq κ] : ∀ (l : List (κ × α)) (x : κ) (v : α), getM (putM l x v) x = some v := by
  intro l x v
  unfold getM putM
  split
  · rename_i h
    rw [List.any_eq_true] at h
    induction l with
    | nil => obtain ⟨p, hp, _⟩ := h; cases hp
    | cons p l ih =>
      by_cases e : p.1 = x
      · simp [e]
      · simp only [List.map_cons, e, if_false, List.find?_cons, decide_false]
        refine ih ?_
        obtain ⟨q, hq, hq2⟩ := h
        rcases List.mem_cons.1 hq with rfl | hq
        · exact absurd (of_decide_eq_true hq2) e
        · exact ⟨q, hq, hq2⟩
  · rename_i h
    rw [List.find?_append]
    have : l.find? (fun p => decide (p.1 = x)) = none := by
      rw [List.find?_eq_none]
      intro p hp hc
      exact h (List.any_eq_true.2 ⟨p, hp, hc⟩)
    rw [this]
    simp
theorem getM_put_ne {κ α : Type} [DecidableEq κ] {l : List (κ × α)} {x y : κ} {v : α} (h : x ≠ y) : getM (putM l x v) y = getM l y := by
  unfold getM putM
  split
  · rename_i hh
    clear hh
    induction l with
    | nil => rfl
    | cons p l ih =>
      by_cases e : p.1 = x
      · have : ¬ p.1 = y := fun e2 => h (by rw [← e, e2])
        simp only [List.map_cons, e, if_true, List.find?_cons, h, decide_false, this]
        exact ih
      · by_cases e2 : p.1 = y
        · have hyx : ¬ y = x := fun e => h e.symm
          simp [List.map_cons, e2, hyx]
        · simp only [List.map_cons, e, if_false, List.find?_cons, e2, decide_false]
          exact ih
  · rw [List.find?_append]
    cases l.find? (fun p => decide (p.1 = y)) with
    | some p => rfl
    | none => simp [h]
section
variable {w w1 : World} {F : List Nat} {B : Asr} {s m lim : Nat} {T : Nt} {q : SpC} {ns : Ns} {ks : List (Nat × Bool)} {ss : List (Nat × Nat)}
theorem all_spec (h : At w F (SpcA s m lim T q ns ks ss B) w1) : Calls Tryz.prog 27 [.pointer (some ⟨s, 0, none⟩)].toArray w1 fun en w' => ∃ v, en = .returned v ∧ v = .int .i64 (q.all : Nat) ∧ At w F (SpcA s m lim T q ns ks ss B) w' := by
  refine enter Tryz.func27 mixed low27 (Nat.le_of_ble_eq_true rfl) ?_
  simp only [L27]
  have os := SpcA.obj h
  unfold spO at os
  simp [cell_blk os]
  exact h
theorem SpG.six {n : Nat} (h : n < many) : cntV n = .tuple #[.int .i64 (n : Nat), .nilIface] := by
  unfold cntV
  rw [if_pos h]
  rfl
theorem SRes.ok {c : Nat} {P : List Nat → Bool} {v : Value} {w' : World} (h : SRes s m lim T q ns ks ss B w F c P v w') (hl : ns.length + c * 2 ^ (2 * nBits T.vars) ≤ lim) :
    ∃ x ns' ss', v = .tuple #[.int .i64 (x : Nat), .nilIface] ∧ Stp (2 * nBits T.vars) lim c false ns false ns' ∧ Kn T ns' (putM ks x true) x P ∧ SpG lim T q ns' (putM ks x true) ss' ∧ ss'.length ≤ ss.length + 1 ∧ At w F (SpcA s m lim T q ns' (putM ks x true) ss' B) w' := by
  obtain ⟨x, e', ns', ss', rfl, h2, h3, h4, h5, h6, h7⟩ := h
  have : e' = false := h2.no hl
  subst this
  exact ⟨x, ns', ss', rfl, h2, ⟨getM_put _ _ _, h4 rfl⟩, h5, h6, h7⟩
theorem CRes.ok {P : List Nat → Bool} {v : Value} {w' : World} (h : CRes s m lim T q ns ks ss B w F P v w') (hl : ns.length + (3 * nBits T.vars + 1) * 2 ^ (2 * nBits T.vars) ≤ lim) (hg : NtG T) :
    ∃ ns', v = cntV (ctN T.vars P) ∧ Stp (2 * nBits T.vars) lim (3 * nBits T.vars + 1) false ns false ns' ∧ SpG lim T q ns' ks ss ∧ At w F (SpcA s m lim T q ns' ks ss B) w' := by
  obtain ⟨e', ns', rfl, h2, h3, h4⟩ := h
  have : e' = false := h2.no hl
  subst this
  exact ⟨ns', by rw [if_neg (by simp), ct_num fun n hn => (hg.vars n hn).2], h2, h3, h4⟩
end
set_option maxHeartbeats 4000000 in
theorem awake_spec {w w1 : World} {F : List Nat} {B : Asr} (hB : Lcl B) (h : At w F B w1) : Calls Tryz.prog 7 [].toArray w1 fun en w' => ∃ v, en = .returned v ∧ v = .bool true ∧ At w F B w' := by
  refine enter Tryz.func7 mixed low7 (Nat.le_of_ble_eq_true rfl) ?_
  simp only [L7]
  simp
  refine cl_of (example_spec hB h) ?_
  rintro _ w2 ⟨vv, nv, ov, pv, ev, wv, rfl, h2⟩
  obtain ⟨T0, hT0⟩ : ∃ T0, T0 = exT vv nv ov pv ev wv := ⟨_, rfl⟩
  have hg0 : NtG T0 := by rw [hT0]; exact exT_g
  have hgd0 : goodB T0.raw = true := by rw [hT0]; exact exT_good
  have hl0 : TkL T0.raw := hg0.lens (by rw [hT0]; simp [exT, exO])
  have ho0 : T0.ops[0]? = some (exO pv ev wv) := by rw [hT0]; rfl
  have hv0 : T0.vars = [2, 3] := by rw [hT0]; rfl
  rw [← hT0] at h2 ⊢
  have hnb : nBits [2, 3] = 3 := rfl
  have hL2 : Lcl (Star (TskA T0) B) := TskA.lcl.star hB
  simp
  refine cl_of (snew_spec T0 1048576 hL2 h2 TskA.rd hg0 hgd0 hl0 (by omega) (by omega)) ?_
  rintro _ w3 hn
  rcases hn with ⟨hbig, _⟩ | ⟨_, e3, ns3, hs3, hn⟩
  · rw [hv0, hnb] at hbig
    omega
  have hc3 := hs3.cnt
  have he3 : e3 = false := hs3.no (by rw [hv0, hnb]; simp)
  subst he3
  rcases hn with ⟨h, _⟩ | ⟨_, s, m, T, q, hA, rfl, hG3, h3⟩
  · cases h
  have hv : T.vars = [2, 3] := by rw [hA.vars, hv0]
  rw [hv0, hnb] at hc3
  simp at hc3
  have k3 : Kn T ns3 (putM [(0, true)] q.all true) q.all (fun _ => true) := ⟨getM_put _ _ _, hG3.all⟩
  simp
  refine cl_of (all_spec h3) ?_
  rintro _ w4 ⟨rfl, h4⟩
  simp
  refine cl_of (count_spec q.all (fun _ => true) hG3 hL2 h4 k3) ?_
  rintro v5 w5 hc
  obtain ⟨ns5, rfl, hs5, hG5, h5⟩ := hc.ok (by rw [hv, hnb]; simp; omega) hG3.g
  have hc5 := hs5.cnt
  rw [hv, hnb] at hc5
  simp at hc5
  have e6 : ctN T.vars (fun _ => true) = 6 := by rw [hv]; rfl
  rw [e6, SpG.six (by decide)]
  simp
  have hk3 := hG3.ok
  have k5 : Kn T ns5 (putM [(0, true)] q.all true) q.all (fun _ => true) := ⟨k3.kn, k3.ok.stp hk3 hs5⟩
  obtain ⟨o, ho, op, oa, oe⟩ := hA.sk ho0
  have hpl : o.pre.length = 1 := by rw [op]; rfl
  have hel : o.effs.length = 2 := by rw [oe]; rfl
  refine cl_of (all_spec h5) ?_
  rintro _ w6 ⟨rfl, h6⟩
  simp
  refine cl_of (image_spec q.all 0 o (fun _ => true) hG5 hL2 h6 k5 ho (by have : (putM [(0, true)] q.all true).length ≤ 1 + 1 := putM_len_le; omega) (by simp)) ?_
  rintro v7 w7 hs
  obtain ⟨x, ns7, ss7, rfl, hs7, k7, hG7, hl7, h7⟩ := hs.ok (by unfold imC rlC; rw [hv, hnb, hpl, hel]; simp; omega)
  have hc7 := hs7.cnt
  unfold imC rlC at hc7
  rw [hv, hnb, hpl, hel] at hc7
  simp at hc7
  simp
  refine cl_of (count_spec x _ hG7 hL2 h7 k7) ?_
  rintro v8 w8 hc
  obtain ⟨ns8, rfl, hs8, hG8, h8⟩ := hc.ok (by rw [hv, hnb]; simp; omega) hG7.g
  have hP : imgP T o (fun _ => true) = imgP T0 (exO pv ev wv) (fun _ => true) := imgP_alk hA op oa _
  have e8 : ctN T.vars (imgP T o fun _ => true) = 2 := by rw [hP, hv, hT0]; rfl
  rw [e8, SpG.six (by decide)]
  have k8 : Kn T ns8 (putM (putM [(0, true)] q.all true) x true) x (imgP T o fun _ => true) := ⟨k7.kn, k7.ok.stp hG7.ok hs8⟩
  simp [rowOf]
  have h9 := h8.lit (xs := [1, 2]) (enc := nE) (E := 3) (sz := 1) (cs := #[.int .i64 1, .int .i64 2]) (m := 2) (SpcA.lcl hL2) (by simp [nE]) nE_len (by simp [maxLen]) rfl
  have h10 := SpcA.into h9
  refine cl_of (has_spec x _ [1, 2] _ hG8 (Lcl.own.star hL2) h10 k8 Rds.own ?_) ?_
  · rw [hv]
    exact ⟨rfl, fun v hv => by have : v = 0 ∨ v = 1 := by simp at hv; omega
                               rcases this with rfl | rfl <;> decide⟩
  rintro _ w11 ⟨rfl, h11⟩
  have e11 : imgP T o (fun _ => true) [1, 2] = true := by rw [hP, hT0]; rfl
  rw [e11]
  simp
  have h12 := SpcA.less h11
  unfold SpcA at h12
  exact h12.drop.drop.drop.drop.drop.drop.drop.drop
end Go.Proofs.YtcoeknnghfajnaaGreat
end
section
set_option maxRecDepth 100000
set_option linter.unusedSimpArgs false
set_option linter.unusedVariables false
namespace Go.Proofs.YtcoeknnghfajnaaGreat
open Go Go.W Go.Tk Go.Rx Go.Bd Go.Sy Go.Maps
/-- The memory as it was. -/
def OldA (w0 : World) : Asr := fun w F => F = List.range w0.heap.size ∧ Kp [] w0 w
theorem OldA.lcl {w0 : World} : Lcl (OldA w0) := by
  refine ⟨?_, ?_⟩
  · rintro w F ⟨rfl, k⟩ x hx
    have := List.mem_range.1 hx
    have := k.size
    omega
  · rintro w F G w' ⟨rfl, k⟩ hk hG
    exact ⟨rfl, k.trans' hk fun x hx => by
      by_cases h : x < w0.heap.size
      · exact absurd hx (hG x (List.mem_range.2 h))
      · exact .inr (by omega)⟩
theorem OldA.start (w : World) : At w (List.range w.heap.size) (OldA w) w := At.start ⟨rfl, Kp.refl _ _⟩
theorem OldA.rds {w0 : World} {P : World → Prop} (h : ∀ w', Kp [] w0 w' → P w') : Rds (OldA w0) P := fun w' F hs => h w' hs.2
theorem OldA.kp {w w0 w1 : World} {F : List Nat} (h : At w F (OldA w0) w1) : Kp [] w0 w1 := by
  obtain ⟨⟨F1, h1, _⟩, _⟩ := h
  exact h1.2
theorem At.pre0 {w w1 w2 : World} {A : Asr} (k : Kp [] w w1) (h : At w1 [] A w2) : At w [] A w2 := by
  obtain ⟨⟨F', h1, hs⟩, k2⟩ := h
  exact ⟨⟨F', h1, fun x hx => by
    rcases hs x hx with h | h
    · cases h
    · have := k.size
      exact .inr (by omega)⟩, k.trans k2⟩
theorem rd_nt {w : World} {b : Nat} {T : Nt} (h : w.heap[b]? = some (ntO T)) : cellsAt w ⟨b, 0, none⟩ 0 4 = some [T.vv.1, T.nv.1, T.gv.1, T.ov.1] := by
  unfold ntO at h
  simp [cellsAt, Addr.add, cell_blk h]
def setI (vars : List Nat) (P : List Nat → Bool) (i : Nat) : Bool := P ((stsK vars vars.length).getD i [])
def nS (vars : List Nat) : Nat := (stsK vars vars.length).length
/-- The table of a set of states. -/
def stT (vars : List Nat) (P : List Nat → Bool) : List Bool := tabB (nS vars) (setI vars P)
theorem stT_len (vars : List Nat) (P : List Nat → Bool) : (stT vars P).length = nS vars := tabB_len _ _
theorem stT_at {vars : List Nat} {P : List Nat → Bool} {i : Nat} {s : List Nat} (h : (stsK vars vars.length)[i]? = some s) : (stT vars P)[i]? = some (P s) := by
  have hi := (List.getElem?_eq_some_iff.1 h).1
  unfold stT
  rw [tabB_at (N := nS vars) hi]
  unfold setI
  simp [List.getD, h]
def uptoB (k : Nat) (g : Nat → Bool) : Nat → Bool := fun j => if j < k then g j else false
theorem uptoB_succ (k : Nat) (g : Nat → Bool) : updN (uptoB k g) k (g k) = uptoB (k + 1) g := by
  funext j
  by_cases e : j = k
  · subst e; simp [uptoB, updN]
  · unfold updN uptoB
    rw [if_neg e]
    by_cases h : j < k
    · rw [if_pos h, if_pos (by omega)]
    · rw [if_neg h, if_neg (by omega)]
theorem tabB_congr {N : Nat} {f g : Nat → Bool} (h : ∀ i, i < N → f i = g i) : tabB N f = tabB N g := List.map_congr_left fun i hi => h i (List.mem_range.1 hi)
theorem uptoB_all (N : Nat) (g : Nat → Bool) : tabB N (uptoB N g) = tabB N g := tabB_congr fun i hi => by unfold uptoB; rw [if_pos hi]
theorem uptoB_zero (N : Nat) (g : Nat → Bool) : List.replicate N false = tabB N (uptoB 0 g) := by
  apply List.ext_getElem
  · simp [tabB]
  · intro i h1 h2
    simp [tabB, uptoB]
theorem setI_at {vars : List Nat} {P : List Nat → Bool} {i : Nat} {s : List Nat} (h : (stsK vars vars.length)[i]? = some s) : setI vars P i = P s := by
  unfold setI
  simp [List.getD, h]
theorem stT_congr {vars : List Nat} {P Q : List Nat → Bool} (h : ∀ s, StN vars s → P s = Q s) : stT vars P = stT vars Q := by
  unfold stT
  refine tabB_congr fun i hi => ?_
  have h1 : (stsK vars vars.length)[i]? = some ((stsK vars vars.length).getD i []) := by
    unfold nS at hi
    simp [List.getD, List.getElem?_eq_getElem hi]
  rw [setI_at h1, setI_at h1]
  exact h _ (sts_st (List.mem_of_getElem? h1))
theorem bE_cell {w : World} {v : Value} {l : List Bool} {k : Nat} {x : Bool} (h : Vw w v bE l) (hx : l[k]? = some x) : w.cell? (v.adr.add k) = some (.bool x) := by
  simpa using h.at_ bE_len hx (o := 0) (u := .bool x) rfl
theorem many_eq : ∀ (vars : List Nat) (n : Nat), 1 ≤ n → (∀ v ∈ vars, 1 ≤ v) → (∀ k, n * prL (vars.take k) ≤ 512) → manyF 512 n (vars.map iN) = n * prL vars
  | [], n, _, _, _ => by simp [manyF, prL]
  | v :: l, n, hn, hv, h => by
    have h1 := h 1
    simp [prL] at h1
    have hv1 := hv v (by simp)
    have e1 : (iN v).toNat = v := by simp [iN]
    have hm : v ≤ n * v := Nat.le_mul_of_pos_left _ (by omega)
    have e2 : min v (512 + 1) = v := by omega
    simp only [List.map_cons, manyF, e1, e2]
    rw [if_neg (by omega), many_eq l (n * v) (Nat.mul_pos (by omega) (by omega)) (fun u hu => hv u (by simp [hu])) (fun k => by
      have := h (k + 1)
      simpa [prL, Nat.mul_assoc] using this)]
    simp [prL, Nat.mul_assoc]
theorem many_nS {T : Nt} (hT : SmT T) : manyF 512 1 (T.vars.map iN) = nS T.vars := by
  rw [many_eq T.vars 1 (by omega) (fun v hv => (hT.g.vars v hv).1) (fun k => by rw [Nat.one_mul]; exact hT.pr k), Nat.one_mul]
  unfold nS
  rw [stsK_len _ (Nat.le_refl _), List.take_length]
theorem zempty_spec {w : World} (T : Nt) (hr : NtR w T) (hT : SmT T) :
    Calls Tryz.prog 51 [ntV T].toArray w fun e w' => ∃ u, e = .returned u ∧ At w [] (Star (OwnA u 4 1 bE (List.replicate (nS T.vars) false)) Emp) w' := by
  refine enter Tryz.func51 mixed low51 (Nat.le_of_ble_eq_true rfl) ?_
  simp only [L51]
  obtain ⟨b, hb⟩ : ∃ b, b = w.heap.size := ⟨_, rfl⟩
  obtain ⟨w1, hw1⟩ : ∃ w1, w1 = w.alloc (ntO T) := ⟨_, rfl⟩
  have h1 : At w [] Emp w1 := by rw [hw1]; exact (At.start rfl : At w [] Emp w).kp0 .emp ((Kp.refl [] w).alloc _)
  have ob : w1.heap[b]? = some (ntO T) := by rw [hb, hw1]; exact alloc_new
  have oc := ob
  unfold ntO at oc
  have hw1' : w.alloc (.cells #[T.vv.1, T.nv.1, T.gv.1, T.ov.1] 26 (0, 0)) = w1 := by rw [hw1]; rfl
  simp [ntV, ← hb, hw1', cell_blk oc]
  refine cl_of (many_spec T.vv.1 (T.vars.map iN) (vw_n.2 (hr.kp h1.kp).vars) (by have := hT.vl; simp; omega)) ?_
  rintro _ w2 ⟨rfl, k2⟩
  have h2 := h1.kp0 .emp k2
  have hN : nS T.vars ≤ 512 := sts512 hT
  rw [many_nS hT]
  simp
  refine gd_mk (by omega) ?_
  have h3 := h2.made (E := 4) (enc := bE) (x := false) (z := [.bool false]) (n := nS T.vars) .emp rfl bE_len (by unfold maxLen; omega)
  simpa using h3
end Go.Proofs.YtcoeknnghfajnaaGreat
end
section
set_option maxRecDepth 100000
set_option linter.unusedSimpArgs false
set_option linter.unusedVariables false
namespace Go.Proofs.YtcoeknnghfajnaaGreat
open Go Go.W Go.Tk Go.Rx Go.Bd Go.Sy Go.Maps
def ZrP (vars : List Nat) (P : List Nat → Bool) (w : World) (v : Value) (w' : World) : Prop := At w [] (Star (OwnA v 4 1 bE (stT vars P)) Emp) w'
theorem zunion_spec {w : World} (vars : List Nat) (av bv : Value) (P Q : List Nat → Bool) (ha : Vw w av bE (stT vars P)) (hb : Vw w bv bE (stT vars Q)) (hN : nS vars ≤ 512) :
    Calls Tryz.prog 61 [av, bv].toArray w fun e w' => ∃ u, e = .returned u ∧ ZrP vars (fun s => P s || Q s) w u w' := by
  refine enter Tryz.func61 mixed low61 (Nat.le_of_ble_eq_true rfl) ?_
  simp only [L61]
  obtain ⟨N, hNe⟩ : ∃ N, N = nS vars := ⟨_, rfl⟩
  have hla : (stT vars P).length = N := by rw [stT_len, hNe]
  have hlb : (stT vars Q).length = N := by rw [stT_len, hNe]
  simp [ha.len, hla]
  refine gd_mk (by omega) ?_
  have h1 := (At.start rfl : At w [] Emp w).made (E := 4) (enc := bE) (x := false) (z := [.bool false]) (n := N) .emp rfl bE_len (by unfold maxLen; omega)
  rw [uptoB_zero N (setI vars fun s => P s || Q s)] at h1
  obtain ⟨uv, huv⟩ : ∃ uv, uv = Value.slice (some ⟨w.heap.size, 0, none⟩) N N := ⟨_, rfl⟩
  rw [← huv] at h1
  simp [← huv, ha.len, hla]
  refine range_loop (n := N) (by omega) (fun i ρ w' => ρ 0 = av ∧ ρ 1 = bv ∧ ρ 5 = uv ∧ At w [] (Star (OwnA uv 4 1 bE (tabB N (uptoB i (setI vars fun s => P s || Q s)))) Emp) w') (by simp) (by simp)
    ⟨by simp, by simp, by simp, by simpa using h1⟩ (by decide) (fun _ _ _ _ h => by simpa using h) (fun _ _ _ _ h => by simpa using h) ?_ ?_
  rotate_left
  · rintro ρ w4 ⟨g0, g1, g5, h4⟩
    simp [g5]
    rw [uptoB_all, hNe] at h4
    exact h4
  rintro k ρ w4 hk hc hlm ⟨g0, g1, g5, h4⟩
  obtain ⟨s, hs⟩ : ∃ s, (stsK vars vars.length)[k]? = some s := ⟨_, List.getElem?_eq_getElem (by unfold nS at hNe; omega)⟩
  have ha4 := ha.kp0 h4.kp
  have hb4 := hb.kp0 h4.kp
  have ca := bE_cell ha4 (stT_at hs)
  have cb := bE_cell hb4 (stT_at hs)
  have hla1 : (k : Int) < (stT vars P).length := by omega
  have hlb1 : (k : Int) < (stT vars Q).length := by omega
  have hlu : (tabB N (uptoB k (setI vars fun s => P s || Q s))).length = N := tabB_len _ _
  have hkN : (k : Int) < N := by omega
  have fin : ∀ x, x = (P s || Q s) → ∀ KW : Kont World, (∀ w2, At w [] (Star (OwnA uv 4 1 bE (tabB N (uptoB (k + 1) (setI vars fun s => P s || Q s)))) Emp) w2 → KW.run w2) → @stJ w4 ⟨uv.blk, k, none⟩ [.bool x] KW := by
    intro x hx KW H
    refine h4.store1 .emp bE_len bE_one (k := k) (by omega) (x := x) rfl fun w5 h5 => H w5 ?_
    rw [tabB_set hk] at h5
    have e : x = setI vars (fun s => P s || Q s) k := by rw [setI_at hs, hx]
    rw [e, uptoB_succ] at h5
    exact h5
  cases hp : P s with
  | true =>
    rw [hp] at ca
    simp (disch := omega) [g0, g1, g5, hc, hlm, ha4.idx, hb4.idx, ca, cb, h4.own.idx, hlu]
    refine fin true (by rw [hp]; rfl) _ fun w5 h5 => ?_
    simp [g0, g1, g5, hc, hlm]
    exact h5
  | false =>
    rw [hp] at ca
    simp (disch := omega) [g0, g1, g5, hc, hlm, ha4.idx, hb4.idx, ca, cb, h4.own.idx, hlu]
    refine fin (Q s) (by rw [hp]; rfl) _ fun w5 h5 => ?_
    simp [g0, g1, g5, hc, hlm]
    exact h5
theorem zminus_spec {w : World} (vars : List Nat) (av bv : Value) (P Q : List Nat → Bool) (ha : Vw w av bE (stT vars P)) (hb : Vw w bv bE (stT vars Q)) (hN : nS vars ≤ 512) :
    Calls Tryz.prog 56 [av, bv].toArray w fun e w' => ∃ u, e = .returned u ∧ ZrP vars (fun s => P s && !Q s) w u w' := by
  refine enter Tryz.func56 mixed low56 (Nat.le_of_ble_eq_true rfl) ?_
  simp only [L56]
  obtain ⟨N, hNe⟩ : ∃ N, N = nS vars := ⟨_, rfl⟩
  have hla : (stT vars P).length = N := by rw [stT_len, hNe]
  have hlb : (stT vars Q).length = N := by rw [stT_len, hNe]
  simp [ha.len, hla]
  refine gd_mk (by omega) ?_
  have h1 := (At.start rfl : At w [] Emp w).made (E := 4) (enc := bE) (x := false) (z := [.bool false]) (n := N) .emp rfl bE_len (by unfold maxLen; omega)
  rw [uptoB_zero N (setI vars fun s => P s && !Q s)] at h1
  obtain ⟨uv, huv⟩ : ∃ uv, uv = Value.slice (some ⟨w.heap.size, 0, none⟩) N N := ⟨_, rfl⟩
  rw [← huv] at h1
  simp [← huv, ha.len, hla]
  refine range_loop (n := N) (by omega) (fun i ρ w' => ρ 0 = av ∧ ρ 1 = bv ∧ ρ 5 = uv ∧ At w [] (Star (OwnA uv 4 1 bE (tabB N (uptoB i (setI vars fun s => P s && !Q s)))) Emp) w') (by simp) (by simp)
    ⟨by simp, by simp, by simp, by simpa using h1⟩ (by decide) (fun _ _ _ _ h => by simpa using h) (fun _ _ _ _ h => by simpa using h) ?_ ?_
  rotate_left
  · rintro ρ w4 ⟨g0, g1, g5, h4⟩
    simp [g5]
    rw [uptoB_all, hNe] at h4
    exact h4
  rintro k ρ w4 hk hc hlm ⟨g0, g1, g5, h4⟩
  obtain ⟨s, hs⟩ : ∃ s, (stsK vars vars.length)[k]? = some s := ⟨_, List.getElem?_eq_getElem (by unfold nS at hNe; omega)⟩
  have ha4 := ha.kp0 h4.kp
  have hb4 := hb.kp0 h4.kp
  have ca := bE_cell ha4 (stT_at hs)
  have cb := bE_cell hb4 (stT_at hs)
  have hla1 : (k : Int) < (stT vars P).length := by omega
  have hlb1 : (k : Int) < (stT vars Q).length := by omega
  have hlu : (tabB N (uptoB k (setI vars fun s => P s && !Q s))).length = N := tabB_len _ _
  have hkN : (k : Int) < N := by omega
  have fin : ∀ x, x = (P s && !Q s) → ∀ KW : Kont World, (∀ w2, At w [] (Star (OwnA uv 4 1 bE (tabB N (uptoB (k + 1) (setI vars fun s => P s && !Q s)))) Emp) w2 → KW.run w2) → @stJ w4 ⟨uv.blk, k, none⟩ [.bool x] KW := by
    intro x hx KW H
    refine h4.store1 .emp bE_len bE_one (k := k) (by omega) (x := x) rfl fun w5 h5 => H w5 ?_
    rw [tabB_set hk] at h5
    have e : x = setI vars (fun s => P s && !Q s) k := by rw [setI_at hs, hx]
    rw [e, uptoB_succ] at h5
    exact h5
  cases hp : P s with
  | false =>
    rw [hp] at ca
    simp (disch := omega) [g0, g1, g5, hc, hlm, ha4.idx, hb4.idx, ca, cb, h4.own.idx, hlu]
    refine fin false (by rw [hp]; rfl) _ fun w5 h5 => ?_
    simp [g0, g1, g5, hc, hlm]
    exact h5
  | true =>
    rw [hp] at ca
    simp (disch := omega) [g0, g1, g5, hc, hlm, ha4.idx, hb4.idx, ca, cb, h4.own.idx, hlu]
    refine fin (!Q s) (by rw [hp]; rfl) _ fun w5 h5 => ?_
    simp [g0, g1, g5, hc, hlm]
    exact h5
end Go.Proofs.YtcoeknnghfajnaaGreat
end
section
set_option maxRecDepth 100000
set_option linter.unusedSimpArgs false
set_option linter.unusedVariables false
namespace Go.Proofs.YtcoeknnghfajnaaGreat
open Go Go.W Go.Tk Go.Rx Go.Bd Go.Sy Go.Maps
/-- A table that is filled beside the list of all states. -/
def ZI (vars : List Nat) (w : World) (uv sv : Value) (ps : List (Cell1 × List Nat)) (f : Nat → Bool) (w' : World) : Prop :=
  At w [] (Star (OwnA uv 4 1 bE (tabB (nS vars) f)) (Star (OwnA sv 22 1 sv1 ps) (Star (VwsA nE ps) Emp))) w'
theorem ZI.lcl {E : Nat} {uv sv : Value} {ps : List (Cell1 × List Nat)} : Lcl (Star (OwnA sv E 1 sv1 ps) (Star (VwsA nE ps) Emp)) := Lcl.own.star (Lcl.vws.star .emp)
section
variable {vars : List Nat} {w w' w2 : World} {uv sv : Value} {ps : List (Cell1 × List Nat)} {f : Nat → Bool}
theorem ZI.kp0 (h : ZI vars w uv sv ps f w') (k : Kp [] w' w2) : ZI vars w uv sv ps f w2 := by
  unfold ZI at h ⊢
  exact At.kp0 (Lcl.own.star (Lcl.own.star (Lcl.vws.star .emp))) h k
theorem ZI.kp (h : ZI vars w uv sv ps f w') : Kp [] w w' := by
  unfold ZI at h
  exact At.kp h
theorem ZI.own (h : ZI vars w uv sv ps f w') : Own w' uv 4 1 bE (tabB (nS vars) f) := by
  unfold ZI at h
  exact At.own h
theorem ZI.sts (h : ZI vars w uv sv ps f w') : Vw w' sv sv1 ps := by
  unfold ZI at h
  exact h.drop.own.vw
theorem ZI.row (h : ZI vars w uv sv ps f w') {p : Cell1 × List Nat} (hp : p ∈ ps) : Vw w' p.1.1 nE p.2 := by
  unfold ZI at h
  exact h.drop.drop.vws hp
theorem ZI.store {KW : Kont World} {k : Nat} {x : Bool} {g : Nat → Bool} (h : ZI vars w uv sv ps f w') (hk : k < nS vars) (hg : ∀ i, i < nS vars → updN f k x i = g i) (H : ∀ w2, ZI vars w uv sv ps g w2 → KW.run w2) : @stJ w' ⟨uv.blk, k, none⟩ [.bool x] KW := by
  unfold ZI at h
  refine h.store1 (Lcl.own.star (Lcl.vws.star .emp)) bE_len bE_one (k := k) (by rw [tabB_len]; exact hk) (x := x) rfl fun w5 h5 => H w5 ?_
  rw [tabB_set hk, tabB_congr hg] at h5
  unfold ZI
  exact h5
theorem ZI.zero {u2 : Value} {w2 w3 : World} (h2 : At w [] (Star (OwnA uv 4 1 bE (List.replicate (nS vars) false)) Emp) w2) (h3 : At w2 [] (Star (LLA sv 22 nE (stsK vars vars.length)) Emp) w3) (hf : ∀ i, f i = false) :
    ∃ ps : List (Cell1 × List Nat), ps.map (·.2) = stsK vars vars.length ∧ ZI vars w uv sv ps f w3 := by
  have h4 := At.join (Lcl.own.star .emp) h2 h3
  obtain ⟨ps, hps, h5⟩ := LLA.opn h4
  refine ⟨ps, hps, ?_⟩
  unfold ZI
  have e : List.replicate (nS vars) false = tabB (nS vars) f := by
    rw [uptoB_zero (nS vars) f]
    exact tabB_congr fun i hi => by unfold uptoB; rw [if_neg (by omega), hf]
  rw [e] at h5
  exact h5.rot3
theorem ZI.fin {P : List Nat → Bool} (h : ZI vars w uv sv ps f w') (hf : ∀ i, i < nS vars → f i = setI vars P i) : ZrP vars P w uv w' := by
  unfold ZI at h
  rw [tabB_congr hf] at h
  unfold ZrP stT
  exact h.imp fun F1 ⟨Fa, Fb, h1, h2, hd, e⟩ => ⟨Fa, ⟨Fa, [], h1, rfl, by simp, by simp⟩, fun x hx => by rw [e]; simp [hx]⟩
end
theorem ps_at {ps : List (Cell1 × List Nat)} {l : List (List Nat)} {i : Nat} (h : ps.map (·.2) = l) (hi : i < l.length) : ∃ p, ps[i]? = some p ∧ l[i]? = some p.2 := by
  subst h
  rw [List.length_map] at hi
  exact ⟨_, List.getElem?_eq_getElem hi, by rw [List.getElem?_map, List.getElem?_eq_getElem hi]; rfl⟩
theorem zpartial_spec {w : World} (T : Nt) (pv : Value) (p : List Go.Tk.Fc) (hr : NtR w T) (hT : SmT T) (hp : Vw w pv fcE p) (hpr : ∀ f ∈ p, f.1 < T.vars.length) (hpl : p.length ≤ 1000000) :
    Calls Tryz.prog 52 [ntV T, pv].toArray w fun e w' => ∃ u, e = .returned u ∧ ZrP T.vars (fun s => hdB s p) w u w' := by
  refine enter Tryz.func52 mixed low52 (Nat.le_of_ble_eq_true rfl) ?_
  simp only [L52]
  obtain ⟨b, hb⟩ : ∃ b, b = w.heap.size := ⟨_, rfl⟩
  obtain ⟨w1, hw1⟩ : ∃ w1, w1 = w.alloc (ntO T) := ⟨_, rfl⟩
  have k1 : Kp [] w w1 := by rw [hw1]; exact (Kp.refl [] w).alloc _
  have ob : w1.heap[b]? = some (ntO T) := by rw [hb, hw1]; exact alloc_new
  have hw1' : w.alloc (.cells #[T.vv.1, T.nv.1, T.gv.1, T.ov.1] 26 (0, 0)) = w1 := by rw [hw1]; rfl
  simp [ntV, ← hb, hw1', rd_nt ob]
  refine cl_of (zempty_spec T (hr.kp k1) hT) ?_
  rintro uv w2 h2
  have ob2 := h2.kp.blk ob (by simp)
  have oc2 := ob2
  unfold ntO at oc2
  have hvl := hT.vl
  have hN : nS T.vars ≤ 512 := sts512 hT
  simp [cell_blk oc2]
  refine cl_of (states_spec T.vv.1 T.vars (hr.kp (k1.trans h2.kp)).vars (by omega) (fun n hn => by have := hT.g.vars n hn; omega) (SmT.sts hT) (fun k hk s hs => by have := (sts_ok k hk s hs).1; omega)) ?_
  rintro sv w3 h3
  obtain ⟨ps, hps, h4⟩ := ZI.zero (u2 := uv) (f := uptoB 0 (setI T.vars fun s => hdB s p)) h2 h3 (fun i => by simp [uptoB])
  have hpl2 : ps.length = nS T.vars := by unfold nS; rw [← hps]; simp
  simp [h4.sts.len, hpl2]
  refine range_loop (n := nS T.vars) (by omega) (fun i ρ w' => ρ 1 = pv ∧ ρ 5 = uv ∧ ρ 12 = sv ∧ ZI T.vars w1 uv sv ps (uptoB i (setI T.vars fun s => hdB s p)) w') (by simp) (by simp)
    ⟨by simp, by simp, by simp, h4.kp0 (Kp.refl _ _)⟩ (by decide) (fun _ _ _ _ h => by simpa using h) (fun _ _ _ _ h => by simpa using h) ?_ ?_
  rotate_left
  · rintro ρ w5 ⟨g1, g5, g12, h5⟩
    simp [g5]
    have := h5.fin (P := fun s => hdB s p) fun i hi => by unfold uptoB; rw [if_pos hi]
    unfold ZrP at this ⊢
    exact At.pre0 k1 this
  rintro k ρ w5 hk hc hlm ⟨g1, g5, g12, h5⟩
  obtain ⟨q, hq, hqs⟩ := ps_at hps hk
  have hst := sts_st (List.mem_of_getElem? hqs)
  have es : w5.cell? (sv.adr.add k) = some q.1.1 := by simpa using h5.sts.at_ sv1_len hq (o := 0) (u := q.1.1) rfl
  have hki : (k : Int) < ps.length := by omega
  simp (disch := omega) [g1, g5, g12, hc, hlm, h5.sts.idx, es]
  refine cl_of (holds_spec pv q.1.1 p q.2 (hp.kp0 (k1.trans h5.kp)) (h5.row (List.mem_of_getElem? hq)) hpl (fun f hf => by rw [hst.len]; exact hpr f hf)) ?_
  rintro _ w6 ⟨rfl, k6⟩
  have h6 := h5.kp0 k6
  have hlu : (tabB (nS T.vars) (uptoB k (setI T.vars fun s => hdB s p))).length = nS T.vars := tabB_len _ _
  have hkN : (k : Int) < nS T.vars := by omega
  simp (disch := omega) [g5, hc, h6.own.idx, hlu]
  refine h6.store hk (g := uptoB (k + 1) (setI T.vars fun s => hdB s p)) (fun i hi => ?_) fun w7 h7 => ?_
  · rw [← uptoB_succ, setI_at hqs]
  simp [g1, g5, g12, hc, hlm]
  exact h7
end Go.Proofs.YtcoeknnghfajnaaGreat
end
