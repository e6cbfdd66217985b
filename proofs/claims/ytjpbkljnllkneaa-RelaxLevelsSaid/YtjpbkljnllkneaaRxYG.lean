/-
  A part of the proofs of this seat's statements (RxYG); no conditions beyond those each theorem names.
-/
import Derived.Test.YtjpbkljnllkneaaRxYF
set_option maxRecDepth 100000
set_option linter.unusedSimpArgs false
set_option linter.unusedVariables false
namespace Go.Proofs.Ytjpbkljnllkneaa
open Go Go.W Go.Tk Go.Rx Go.Maps
/-! ### Other costs, fewer operators -/
theorem cst_given {T : Nt} {cl : List Nat} (hl : cl.length = T.ops.length) {i : Nat} (hi : i < T.ops.length) : cst T (cl.map iN) i = cl.getD i 0 := by
  unfold cst
  rw [if_neg (by rw [List.length_map]; omega), iN_at]
  simp
theorem cs_given {T : Nt} {cl : List Nat} (hl : cl.length = T.ops.length) (hb : ∀ c ∈ cl, c ≤ 1048576) : CsOk T (cl.map iN) := ⟨.inr (by simpa using hl), fun c hc => by
  obtain ⟨x, hx, rfl⟩ := List.mem_map.1 hc
  have := hb x hx
  unfold iN; omega⟩
theorem mem_getD {l : List Nat} {i : Nat} (hi : i < l.length) : l.getD i 0 ∈ l := by simp [List.getD, List.getElem?_eq_getElem hi]
theorem uns_triple {T : Nt} {c : Nat → Nat} {c3 : Nat → Nat} (h : ∀ i, i < T.ops.length → c3 i = 3 * c i) : uns T c3 = mulU 3 (uns T c) := by
  have key : ∀ n, n ≤ T.ops.length → unsK T c3 n = mulU 3 (unsK T c n) := by
    intro n hn
    induction n with
    | zero => rfl
    | succ n ih =>
      obtain ⟨o, ho⟩ : ∃ o, T.ops[n]? = some o := ⟨_, List.getElem?_eq_getElem (by omega)⟩
      rw [unsK_succ ho, unsK_succ ho, ih (by omega), h n (by omega)]
      unfold mulU
      rw [List.map_append]
      congr 1
      unfold opU
      rw [List.map_map]
      refine List.map_congr_left fun k hk => ?_
      have hk := List.mem_range.1 hk
      have he : o.effs[k]? = some o.effs[k] := List.getElem?_eq_getElem hk
      simp only [Function.comp, unA_at he]
  exact key _ (Nat.le_refl _)
/-- A dearer operator lowers no value. -/
theorem dear_le {T : Nt} {c c' : Nat → Nat} {S : List Nat} {V V' : Nat → Nat} (h : ∀ i, i < T.ops.length → c i ≤ c' i) (hV : IsVal (uns T c) S V) (hV' : IsVal (uns T c') S V') (f : Nat) : V f ≤ V' f := by
  refine hV.mono hV' (fun u hu => ?_) f
  obtain ⟨i, o, k, e, hi, ho, he, rfl⟩ := uns_mem hu
  exact ⟨_, mem_uns hi ho he, rfl, h i hi, fun _ h => h⟩
/-- The task without an operator. -/
def lessT (T : Nt) (ov : Cell1) (k : Nat) : Nt := { T with ov := ov, ops := T.ops.take k ++ T.ops.drop (k + 1) }
theorem lessT_mem {T : Nt} {ov : Cell1} {k : Nat} {o : No} (h : o ∈ (lessT T ov k).ops) : o ∈ T.ops := by
  rcases List.mem_append.1 h with h | h
  · exact List.mem_of_mem_take h
  · exact List.mem_of_mem_drop h
theorem lessT_len {T : Nt} {ov : Cell1} {k : Nat} : (lessT T ov k).ops.length ≤ T.ops.length := by
  show (T.ops.take k ++ T.ops.drop (k + 1)).length ≤ _
  rw [List.length_append, List.length_take, List.length_drop]; omega
theorem lessT_small {T : Nt} {ov : Cell1} {k : Nat} (h : SmT T) : SmT (lessT T ov k) := by
  have hle := lessT_len (T := T) (ov := ov) (k := k)
  have hg := h.g
  have hol := h.ol
  refine ⟨⟨hg.vlen, by omega, hg.vars, hg.ilen, hg.init, hg.goal, fun o ho => hg.ops o (lessT_mem ho)⟩, ?_, h.vl, by omega, fun o ho => h.el o (lessT_mem ho), h.pr, fun o ho => h.nm o (lessT_mem ho)⟩
  have hgd := h.good
  unfold goodB at hgd ⊢
  simp only [Bool.and_eq_true, decide_eq_true_eq, List.all_eq_true] at hgd ⊢
  obtain ⟨⟨⟨⟨⟨h1, h2⟩, h3⟩, h4⟩, h5⟩, h6⟩ := hgd
  refine ⟨⟨⟨⟨⟨h1, ?_⟩, h3⟩, h4⟩, h5⟩, fun o ho => ?_⟩
  · simp only [Nt.raw, List.length_map] at h2 ⊢
    have : (lessT T ov k).ops.length ≤ 4096 := by omega
    exact this
  · obtain ⟨q, hq, rfl⟩ := List.mem_map.1 ho
    exact h6 _ (List.mem_map.2 ⟨q, lessT_mem hq, rfl⟩)
theorem less_le {T : Nt} {ov : Cell1} {k : Nat} {S : List Nat} {V V' : Nat → Nat} (hV : IsVal (uns T (cst T [])) S V) (hV' : IsVal (uns (lessT T ov k) (cst (lessT T ov k) [])) S V') (f : Nat) : V f ≤ V' f := by
  refine hV.mono hV' (fun u hu => ?_) f
  obtain ⟨i, o, j, e, hi, ho, he, rfl⟩ := uns_mem hu
  obtain ⟨i2, hi2, ho2⟩ := List.getElem_of_mem (lessT_mem (List.mem_of_getElem? ho))
  have ho2' : T.ops[i2]? = some o := by rw [List.getElem?_eq_getElem hi2, ho2]
  refine ⟨_, mem_uns (cost := cst T []) hi2 ho2' he, rfl, ?_, fun _ h => h⟩
  show cst T [] i2 ≤ cst (lessT T ov k) [] i
  unfold cst
  simp only [List.length_nil, if_true, ho, ho2']
  exact Nat.le_refl _
theorem NtR.less {T : Nt} {ov : Value} {o1 : oneC ov = true} {k : Nat} {w : World} (h : NtR w T) (hv : Vw w ov noE (T.ops.take k ++ T.ops.drop (k + 1))) : NtR w (lessT T ⟨ov, o1⟩ k) :=
  ⟨h.vars, h.init, h.goal, hv, fun o ho => h.op o (lessT_mem ho)⟩
end Go.Proofs.Ytjpbkljnllkneaa
