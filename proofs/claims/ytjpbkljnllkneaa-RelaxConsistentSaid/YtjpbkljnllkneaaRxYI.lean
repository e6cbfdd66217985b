/-
  A part of the proofs of this seat's statements (RxYI); no conditions beyond those each theorem names.
-/
import Derived.Test.YtjpbkljnllkneaaRxYH
set_option maxRecDepth 100000
set_option linter.unusedSimpArgs false
set_option linter.unusedVariables false
namespace Go.Proofs.Ytjpbkljnllkneaa
open Go Go.W Go.Tk Go.Rx Go.Maps
theorem chk_ne {t : Tk} {c : Int} (h : chkC t = some c) : c ≠ 0 := by
  unfold chkC at h
  repeat' split at h
  all_goals first
    | (cases h; decide)
    | cases h
set_option maxHeartbeats 1000000 in
theorem rNew_bad {w : World} (t : Tk) (cv : Value) (c : Int) (ht : TkR w t) (hl : TkL t) (hc : chkC t = some c) :
    Calls Try.prog 14 [tkV t, cv].toArray w fun e w' => ∃ x, e = .returned x ∧ x = .tuple #[.pointer none, errV c] ∧ Kp [] w w' := by
  refine enter Try.func14 mixed low14 (Nat.le_of_ble_eq_true rfl) ?_
  simp only [L14]
  obtain ⟨tb, htb⟩ : ∃ tb, tb = w.heap.size := ⟨_, rfl⟩
  obtain ⟨w1, hw1⟩ : ∃ w1, w1 = w.alloc (tkO t) := ⟨_, rfl⟩
  have k1 : Kp [] w w1 := by rw [hw1]; exact (Kp.refl [] w).alloc _
  have hw1' : w.alloc (.cells #[t.vv.1, t.nv.1, t.gv.1, t.ov.1] 26 (0, 0)) = w1 := by rw [hw1]; rfl
  have ob1 : w1.heap[tb]? = some (tkO t) := by rw [htb, hw1]; exact alloc_new
  simp [tkV, ← htb, hw1', rd_tk ob1]
  refine cl_of (tcheck_spec t (ht.kp k1) hl) ?_
  rintro _ w2 ⟨rfl, k2⟩
  rw [hc]
  simp [chkV, errV]
  exact k1.trans k2
/-- What New returns, for any task. -/
def NwA (t : Tk) (cs : List Int) (w : World) (x : Value) (w' : World) : Prop := match nwC t cs with
  | some c => x = .tuple #[.pointer none, errV c]
  | none => ∃ b T U, T.raw = t ∧ x = .tuple #[.pointer (some ⟨b, 0, none⟩), .nilIface] ∧ Rlx b T U w'
theorem new_any {w : World} (t : Tk) (cv : Value) (cs : List Int) (ht : TkR w t) (hl : TkL t) (hc : Vw w cv iE cs) (hcl : cs.length ≤ 9223372036854775807) :
    Calls Try.prog 14 [tkV t, cv].toArray w fun e w' => ∃ x, e = .returned x ∧ NwA t cs w x w' ∧ Kp [] w w' := by
  cases hk : chkC t with
  | some c =>
    refine Calls.mono (rNew_bad t cv c ht hl hk) ?_
    rintro e w' ⟨x, rfl, rfl, k⟩
    refine ⟨_, rfl, ?_, k⟩
    unfold NwA nwC
    rw [hk]
  | none =>
    have hg := (chk_good t).1 hk
    obtain ⟨T, rfl, hT⟩ := good_nat hg
    have hnm : ∀ o ∈ T.ops, o.name.size ≤ 9223372036854775807 := fun o ho => (hl.op o.raw (List.mem_map.2 ⟨o, ho, rfl⟩)).1
    refine Calls.mono (rNew_good T cv cs hT hg (NtR.raw.1 ht) hnm hc hcl) ?_
    rintro e w' ⟨x, rfl, hx⟩
    unfold NwP at hx
    cases hn : nwC T.raw cs with
    | some c =>
      rw [hn] at hx
      obtain ⟨rfl, k⟩ := hx
      refine ⟨_, rfl, ?_, k⟩
      unfold NwA
      rw [hn]
    | none =>
      rw [hn] at hx
      obtain ⟨b, vv, gv, fv, tb, rfl, h⟩ := hx
      obtain ⟨uv, nd, fr, rs, ps, h2⟩ := h.rd
      refine ⟨_, rfl, ?_, h.kp⟩
      unfold NwA
      rw [hn]
      exact ⟨b, T, _, rfl, rfl, ⟨vv, gv, fv, uv, nd, fr, rs, ps, h2⟩⟩
end Go.Proofs.Ytjpbkljnllkneaa
