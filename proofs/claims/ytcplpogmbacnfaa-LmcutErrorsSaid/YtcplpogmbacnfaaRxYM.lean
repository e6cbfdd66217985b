/-
  A part of the proofs of this seat's statements (RxYM); no conditions beyond those each theorem names.
-/
import Derived.Test.YtcplpogmbacnfaaRxYL
set_option maxRecDepth 100000
set_option linter.unusedSimpArgs false
set_option linter.unusedVariables false
namespace Go.Rx
open Go Go.W Go.Tk
/-- There are values. -/
theorem IsVal.ex (U : List Un) (S : List Nat) : ∃ V, IsVal U S V := by
  have hex : ∀ f, ∃ x, (∀ k, Der U S f k → x ≤ k) ∧ x ≤ Inf ∧ (x < Inf → Der U S f x) := fun f => by
    rcases Classical.em (∃ k, Der U S f k) with ⟨k, hk⟩ | hn
    · obtain ⟨w, hw, hm⟩ := Lst.ex hk
      rcases Nat.lt_or_ge w Inf with h | h
      · exact ⟨w, hm, by omega, fun _ => hw⟩
      · exact ⟨Inf, fun j hj => by have := hm j hj; omega, Nat.le_refl _, fun h => by omega⟩
    · exact ⟨Inf, fun k hk => absurd ⟨k, hk⟩ hn, Nat.le_refl _, fun h => by omega⟩
  refine ⟨fun f => Classical.choose (hex f), fun f hf => ?_, fun u hu hlt => ?_, fun f hf => (Classical.choose_spec (hex f)).2.2 hf, fun f => (Classical.choose_spec (hex f)).2.1⟩
  · have := (Classical.choose_spec (hex f)).1 0 (.base hf)
    omega
  · refine (Classical.choose_spec (hex u.makes)).1 _ (.step hu _ fun n hn => (Classical.choose_spec (hex n)).2.2 ?_)
    have := gr_mem (V := fun f => Classical.choose (hex f)) hn
    omega
end Go.Rx
namespace Go.Proofs.Ytcplpogmbacnfaa
open Go Go.W Go.Tk Go.Rx Go.Maps
/-- Values in all states. -/
def VsOk (T : Nt) (U : List Un) (vS : List Nat → Nat → Nat) : Prop := ∀ s, IsVal U (stN T.vars s T.vars.length) (vS s)
theorem VsOk.ex (T : Nt) (U : List Un) : ∃ vS, VsOk T U vS := ⟨fun s => Classical.choose (IsVal.ex U (stN T.vars s T.vars.length)), fun s => Classical.choose_spec (IsVal.ex U (stN T.vars s T.vars.length))⟩
/-- The greatest value of a goal fact, in a state. -/
def hM (T : Nt) (vS : List Nat → Nat → Nat) (s : List Nat) : Nat := grF T.vars (vS s) T.goal
theorem hM_eq {T : Nt} {U : List Un} {vS : List Nat → Nat → Nat} {s : List Nat} {V : Nat → Nat} (hv : VsOk T U vS) (h : IsVal U (stN T.vars s T.vars.length) V) : grF T.vars V T.goal = hM T vS s := by rw [h.uniq (hv s)]; rfl
theorem hM_le {T : Nt} {U : List Un} {vS : List Nat → Nat → Nat} (hv : VsOk T U vS) (s : List Nat) : hM T vS s ≤ Inf := gr_le_iff.2 fun x _ => (hv s).le x
theorem apK_src {o : No} {s : List Nat} (v : Nat) : ∀ k, k ≤ o.effs.length → (apK o s k).getD v 0 = s.getD v 0 ∨ ∃ (j : Nat) (e : Nf), o.effs[j]? = some e ∧ hdB s e.cnd = true ∧ e.v = v ∧ e.x = (apK o s k).getD v 0
  | 0, _ => .inl (by simp [apK])
  | k + 1, hk => by
    obtain ⟨e, he⟩ : ∃ e, o.effs[k]? = some e := ⟨_, List.getElem?_eq_getElem (by omega)⟩
    rw [apK_succ he]
    split
    · rename_i hc
      by_cases h : e.v = v
      · by_cases hl : v < (apK o s k).length
        · refine .inr ⟨k, e, he, hc, h, ?_⟩
          rw [h, Go.Rx.getD_set_same hl]
        · rw [List.set_eq_of_length_le (by rw [h]; omega)]
          exact apK_src v k (by omega)
      · rw [Go.Rx.getD_set_ne h]
        exact apK_src v k (by omega)
    · exact apK_src v k (by omega)
theorem hd_mem {vars s : List Nat} {l : List Fc} (h : hdB s l = true) (hr : ∀ f ∈ l, f.1 < vars.length) : ∀ n ∈ l.map (numF vars), n ∈ stN vars s vars.length := fun n hn => by
  obtain ⟨f, hf, rfl⟩ := List.mem_map.1 hn
  unfold hdB at h
  have := List.all_eq_true.1 h f hf
  simp only [decide_eq_true_eq] at this
  unfold stN
  exact List.mem_map.2 ⟨f.1, List.mem_range.2 (hr f hf), by unfold numF; rw [this]⟩
theorem hM_goal {T : Nt} {U : List Un} {vS : List Nat → Nat → Nat} {s : List Nat} (hv : VsOk T U vS) (hg : NtG T) (h : hdB s T.goal = true) : hM T vS s = 0 := by
  have : hM T vS s ≤ 0 := gr_le_iff.2 fun x hx => by
    rw [(hv s).s0 x (hd_mem h (fun f hf => (hg.goal.rng f hf).1) x hx)]
    exact Nat.le_refl _
  omega
/-- Along a step the greatest value falls by at most the cost. -/
theorem hM_step {T : Nt} {c : Nat → Nat} {vS : List Nat → Nat → Nat} {s : List Nat} {q : Nat} {o : No} (hv : VsOk T (uns T c) vS) (hg : NtG T) (ho : T.ops[q]? = some o) (hp : hdB s o.pre = true) : hM T vS s ≤ hM T vS (apS o s) + c q := by
  have hgo := hg.ops o (List.mem_of_getElem? ho)
  have hq := (List.getElem?_eq_some_iff.1 ho).1
  have key := (hv s).step (c := c q) (hv (apS o s)) (fun f hf => by
    unfold stN at hf
    obtain ⟨v, hvr, rfl⟩ := List.mem_map.1 hf
    have hvr := List.mem_range.1 hvr
    rcases apK_src (o := o) (s := s) v o.effs.length (Nat.le_refl _) with h | ⟨j, e, he, hc, h1, h2⟩
    · have hm : psum T.vars v + (apS o s).getD v 0 ∈ stN T.vars s T.vars.length := by
        unfold stN
        exact List.mem_map.2 ⟨v, List.mem_range.2 hvr, by unfold apS; rw [h]⟩
      rw [(hv s).s0 _ hm]
      exact Nat.zero_le _
    · have hu := mem_uns (cost := c) hq ho he
      have hz : gr (vS s) (dedup ((o.pre ++ e.cnd).map (numF T.vars))) = 0 := by
        have : gr (vS s) (dedup ((o.pre ++ e.cnd).map (numF T.vars))) ≤ 0 := gr_le_iff.2 fun x hx => by
          have hx := dedup_mem.1 hx
          rw [List.map_append] at hx
          have hm : x ∈ stN T.vars s T.vars.length := by
            rcases List.mem_append.1 hx with h | h
            · exact hd_mem hp (fun f hf => (hgo.pre.rng f hf).1) x h
            · exact hd_mem hc (fun f hf => ((hgo.cnd e (List.mem_of_getElem? he)).rng f hf).1) x h
          rw [(hv s).s0 x hm]
          exact Nat.le_refl _
        omega
      have hcl := (hv s).cl _ hu (by show gr _ _ < Inf; rw [hz]; unfold Inf; omega)
      have e1 : numF T.vars (e.v, e.x) = psum T.vars v + (apS o s).getD v 0 := by
        show psum T.vars e.v + e.x = _
        rw [h1, h2]; rfl
      show vS s (psum T.vars v + (apS o s).getD v 0) ≤ c q
      rw [← e1]
      have hcl : vS s (numF T.vars (e.v, e.x)) ≤ gr (vS s) (dedup ((o.pre ++ e.cnd).map (numF T.vars))) + c q := hcl
      omega)
  refine gr_le_iff.2 fun x hx => ?_
  have h1 := key x
  have h2 := gr_mem (V := vS (apS o s)) hx
  show vS s x ≤ gr (vS (apS o s)) (T.goal.map (numF T.vars)) + c q
  omega
def hI (T : Nt) (vS : List Nat → Nat → Nat) (i : Nat) : Nat := match (stsK T.vars T.vars.length)[i]? with | some s => hM T vS s | none => 0
theorem hI_at {T : Nt} {vS : List Nat → Nat → Nat} {i : Nat} {s : List Nat} (h : (stsK T.vars T.vars.length)[i]? = some s) : hI T vS i = hM T vS s := by unfold hI; rw [h]
theorem hI_low {T : Nt} {c : Nat → Nat} {vS : List Nat → Nat → Nat} (hv : VsOk T (uns T c) vS) (hT : SmT T) : Low (edA T) c (goalB T) (hI T vS) := {
  le := fun i => by
    unfold hI
    split
    · exact hM_le hv _
    · omega
  z := fun i h => by
    unfold goalB at h
    cases hs : (stsK T.vars T.vars.length)[i]? with
    | none => unfold hI; rw [hs]
    | some s =>
      rw [hs] at h
      rw [hI_at hs]
      exact hM_goal hv hT.g h
  st := fun e he => by
    obtain ⟨s, o, h1, h2, h3, h4⟩ := edK_mem he
    have hst := apS_st (sts_st (List.mem_of_getElem? h1)) (hT.g.ops o (List.mem_of_getElem? h2))
    rw [hI_at h1, h4, hI_at (rk_all hst)]
    exact hM_step hv hT.g h2 h3 }
end Go.Proofs.Ytcplpogmbacnfaa
