/- the document's example, plainly -/
import Derived.Test.YtkojilpjpdpmaaaRBdC
set_option linter.unusedVariables false
set_option linter.unusedSimpArgs false
namespace Go.Bd
def ex1 : Ns := [⟨0, 0, 1⟩]
def ex2 : Ns := [⟨0, 0, 1⟩, ⟨1, 0, 1⟩]
theorem ex_mk1 : mkF 100 [] 0 0 1 = (some 2, ex1) := by decide
theorem ex_mk2 : mkF 100 ex1 1 0 1 = (some 3, ex2) := by decide
theorem ex_wf1 : Wf 3 ex1 := by
  have := (mkF_ok (n := 3) (lim := 100) (Wf.nil 3) (v := 0) (l := 0) (h := 1) (by omega) (Ref.zero _) (Ref.one _) (by rw [tv_lt (by omega)]; omega) (by rw [tv_lt (by omega)]; omega)).ext.wf
  rwa [ex_mk1] at this
theorem ex_wf2 : Wf 3 ex2 := by
  have := (mkF_ok (n := 3) (lim := 100) ex_wf1 (v := 1) (l := 0) (h := 1) (by omega) (Ref.zero _) (Ref.one _) (by rw [tv_lt (by omega)]; omega) (by rw [tv_lt (by omega)]; omega)).ext.wf
  rwa [ex_mk2] at this
theorem ex_r2 : Ref ex2 2 := by unfold Ref ex2; simp
theorem ex_r3 : Ref ex2 3 := by unfold Ref ex2; simp
theorem ex_e2 (a : Nat → Bool) : eval ex2 a 2 = a 0 := by
  rw [eval_node ex_wf2 a (by omega) ex_r2]
  have : at_ 3 ex2 2 = ⟨0, 0, 1⟩ := by decide
  rw [this, eval_zero, eval_one]
  cases a 0 <;> rfl
theorem ex_e3 (a : Nat → Bool) : eval ex2 a 3 = a 1 := by
  rw [eval_node ex_wf2 a (by omega) ex_r3]
  have : at_ 3 ex2 3 = ⟨1, 0, 1⟩ := by decide
  rw [this, eval_zero, eval_one]
  cases a 1 <;> rfl
abbrev exS : Nat → Nat → Prop := fun x y => (x, y) ∈ pairs 3 0 ex2 3 2 3
theorem ex_clo : Sn 0 exS 2 3 ∧ Clo 3 0 ex2 exS := pairs_clo ex_wf2 3 2 3 ex_r2 ex_r3 (by omega)
structure ExAnd (ns' : Ns) (f : Nat) : Prop where
  ext : Ext 3 ex2 ns'
  ref : Ref ns' f
  len : ns'.length ≤ 9
  sem : ∀ a, eval ns' a f = (a 0 && a 1)
theorem ex_and {r : Option Nat} {ns' : Ns} (h : BinOk 3 100 0 exS ex2 2 3 r ns') : ∃ f, r = some f ∧ ExAnd ns' f := by
  obtain ⟨h1, h2⟩ := h.cnt (pairs 3 0 ex2 3 2 3) (fun x y hx => hx)
  have h3 := pairs_len 3 0 ex2 3 2 3
  have h4 : ex2.length = 2 := rfl
  rw [h4] at h1 h2
  cases r with
  | none => have := h2 rfl; omega
  | some f =>
    obtain ⟨h5, h6⟩ := h.ok f rfl
    exact ⟨f, rfl, h.ext, h5, by omega, fun a => by rw [h6, ex_e2, ex_e3]; simp [opB]⟩
theorem ex_count {ns' : Ns} {f : Nat} (h : ExAnd ns' f) : (num 3 0 fun a => eval ns' a f) = 2 := by
  rw [num_congr 3 0 h.sem]; decide
theorem ex_ne {ns' : Ns} {f : Nat} (h : ExAnd ns' f) : f ≠ 2 := by
  rintro rfl
  have h1 := h.sem (fun i => decide (i = 0))
  rw [h.ext.eval ex_wf2 _ ex_r2, ex_e2] at h1
  simp at h1
theorem ex_some {ns' ns2 : Ns} {f : Nat} {inn : Nat → Bool} {r : Option Nat} {M' : Mem1} (h : ExAnd ns' f) (i0 : inn 0 = true) (i1 : inn 1 = false) (hq : QOk 3 100 1 inn ns' f r ns2 M') : r = some 3 := by
  cases r with
  | none =>
    have h1 := hq.full rfl
    have h2 := qB_mono (show 3 - tv 3 ns' f ≤ 3 by omega)
    have h3 : qB 3 = 24 := rfl
    have := h.len
    omega
  | some g =>
    obtain ⟨h1, h2⟩ := hq.ok g rfl
    have hx : Ext 3 ex2 ns2 := h.ext.trans hq.ext
    congr 1
    refine canon hq.ext.wf h1 (hx.ref ex_r3) fun a => ?_
    rw [hx.eval ex_wf2 a ex_r3, ex_e3, Bool.eq_iff_iff, h2, qS_fun h.sem, qS, if_pos rfl]
    constructor
    · rintro ⟨c, hc, h3⟩
      rw [← hc 1 i1]
      simp at h3
      exact h3.2
    · intro h3
      refine ⟨upd a 0 true, fun i hi => upd_ne (fun e => by rw [e, i0] at hi; cases hi), ?_⟩
      simp [upd, h3]
end Go.Bd
