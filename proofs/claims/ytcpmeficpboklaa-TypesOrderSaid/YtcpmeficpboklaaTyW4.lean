/-
  A part of the proofs of this seat's statements (TyW4); no conditions beyond those each theorem names.
-/
import Derived.Test.YtcpmeficpboklaaTyW3
import Derived.Lib.IndexMore
set_option maxRecDepth 100000
set_option linter.unusedSimpArgs false
set_option linter.unusedVariables false
namespace Go.Proofs.Ytcpmeficpboklaa
open Go Go.W Go.Ty
def resT : List UInt8 := List.append [32, 97, 110, 100, 32, 111, 114, 32, 110, 111, 116, 32, 105, 109, 112, 108, 121, 32, 102, 111, 114, 97, 108, 108, 32, 101, 120, 105, 115, 116, 115, 32, 119, 104] [101, 110, 32, 97, 115, 115, 105, 103, 110, 32, 105, 110, 99, 114, 101, 97, 115, 101, 32, 100, 101, 99, 114, 101, 97, 115, 101, 32, 111, 98, 106, 101, 99, 116, 32]
theorem bytes_ext {a b : ByteArray} (h : a.data.toList = b.data.toList) : a = b := by
  obtain ⟨⟨x⟩⟩ := a
  obtain ⟨⟨y⟩⟩ := b
  simp at h
  subst h; rfl
theorem word_all : ∀ i, i < 69 → resT[i]? = some 32 → (resT.drop (i + 1)).takeWhile (· ≠ 32) = [] ∨ (resT.drop (i + 1)).takeWhile (· ≠ 32) ∈ resL.map (·.data.toList) := by decide
theorem word_res : ∀ s ∈ resL, Lib.contains resT (32 :: s.data.toList ++ [32]) = true := by decide
theorem takeWhile_stop {l r : List UInt8} (h : 32 ∉ l) : (l ++ 32 :: r).takeWhile (· ≠ 32) = l := by
  induction l with
  | nil => simp
  | cons a l ih =>
    have h1 : a ≠ 32 := fun e => h (by simp [e])
    have h2 : 32 ∉ l := fun e => h (by simp [e])
    simp only [List.cons_append]
    rw [List.takeWhile_cons_of_pos (by simpa using h1), ih h2]
theorem contains_res {s : ByteArray} (h0 : s.data.toList ≠ []) (h1 : 32 ∉ s.data.toList) : Lib.contains resT (32 :: s.data.toList ++ [32]) = decide (s ∈ resL) := by
  by_cases hm : s ∈ resL
  · rw [word_res s hm]; simp [hm]
  · rw [Lib.contains]
    rcases Lib.index_spec resT (32 :: s.data.toList ++ [32]) with ⟨h, _⟩ | ⟨i, h, hi, ho, _⟩
    · rw [h]; simp [hm]
    · exfalso
      apply hm
      rw [Lib.occAt, List.isPrefixOf_iff_prefix] at ho
      obtain ⟨r, hr⟩ := ho
      have hd : resT.drop (i + 1) = s.data.toList ++ 32 :: r := by
        have : resT.drop (i + 1) = (resT.drop i).drop 1 := by rw [List.drop_drop]
        rw [this, ← hr]; simp
      have hi32 : resT[i]? = some 32 := by
        have := congrArg (·[0]?) hr
        simp at this
        exact this.symm
      have hil : i < 69 := (List.getElem?_eq_some_iff.1 hi32).1
      have h2 := word_all i hil hi32
      rw [hd, takeWhile_stop h1] at h2
      rcases h2 with h2 | h2
      · exact absurd h2 h0
      · obtain ⟨x, hx, he⟩ := List.mem_map.1 h2
        rw [← bytes_ext he]; exact hx
theorem indexByte_mem : ∀ (l : List UInt8) (c : UInt8), (0 ≤ Lib.indexByte l c) ↔ c ∈ l
  | [], c => by simp [Lib.indexByte]
  | b :: l, c => by
    have ih := indexByte_mem l c
    have hg := Lib.indexByte_ge l c
    unfold Lib.indexByte
    by_cases hb : b = c
    · subst hb; simp
    · have hb' : (b == c) = false := by simpa using hb
      have hc : ¬ c = b := fun e => hb e.symm
      rw [hb']
      simp only [Bool.false_eq_true, if_false, List.mem_cons, hc, false_or]
      rw [← ih]
      split
      · rename_i h; have : Lib.indexByte l c = -1 := by simpa using h
        omega
      · rename_i h; have : Lib.indexByte l c ≠ -1 := by simpa using h
        omega
theorem con_one (s : ByteArray) (c : UInt8) (w : World) : Calls Try.prog 49 [.string s, .string ⟨#[c]⟩].toArray w fun e w' => ∃ v, e = .returned v ∧ v = .bool (decide (c ∈ s.data.toList)) ∧ Kp [] w w' := by
  refine Calls.mono (Try.strings_Contains_one s c w) ?_
  rintro e w' ⟨rfl, rfl⟩
  refine ⟨_, rfl, ?_, Kp.refl _ _⟩
  congr 1
  exact decide_eq_decide.2 (indexByte_mem _ _)
/-- The library's own variable holds some number. -/
def HM (w : World) : Prop := ∃ m, w.cell? ⟨0, 0, none⟩ = some (.int .i64 m)
theorem HM.kp {w w' : World} (h : HM w) (hk : Kp [] w w') : HM w' := by
  obtain ⟨m, hm⟩ := h
  exact ⟨m, hk.cell hm (by simp)⟩
theorem con_two (s sub : ByteArray) (w : World) (hs : s.size < 4294967281) (hm : HM w) : Calls Try.prog 49 [.string s, .string sub].toArray w fun e w' => ∃ v, e = .returned v ∧ v = .bool (Lib.contains s.data.toList sub.data.toList) ∧ Kp [] w w' := by
  obtain ⟨m, hm⟩ := hm
  refine Calls.mono (Try.strings_Contains s sub m w hs hm) ?_
  rintro e w' ⟨rfl, rfl⟩
  exact ⟨_, rfl, rfl, Kp.refl _ _⟩
def wordB (s : ByteArray) : Bool := decide (s.data.toList ≠ []) && decide (32 ∉ s.data.toList) && decide (s ∈ resL)
theorem word_spec (s : ByteArray) (w : World) (hm : HM w) (hs : s.size ≤ 1000000) : Calls Try.prog 42 [.string s].toArray w fun e w' => ∃ v, e = .returned v ∧ v = .bool (wordB s) ∧ Kp [] w w' := by
  refine enter Try.func42 mixed low42 (Nat.le_of_ble_eq_true rfl) ?_
  simp only [L42]
  have hmax : IntKind.i64.max = 9223372036854775807 := rfl
  have hte : s.toList = s.data.toList := by rw [ByteArray.toList_eq]
  by_cases h0 : s.data.toList = []
  · have hi : s.toList.isEmpty = true := by rw [hte, h0]; rfl
    simp [beq_str, hi]
    exact ⟨by simp [wordB, h0], Kp.refl _ _⟩
  have hi : s.toList.isEmpty = false := by rw [hte]; cases hq : s.data.toList with
    | nil => exact absurd hq h0
    | cons a r => rfl
  simp [beq_str, hi]
  refine cl_of (con_one s 32 w) ?_
  rintro v w1 ⟨rfl, k1⟩
  by_cases h1 : 32 ∈ s.data.toList
  · simp [h1, hi]
    exact ⟨by simp [wordB, h1], k1⟩
  have hsz : (1 + (s.size : Int)) ≤ 9223372036854775807 := by omega
  simp [h1, hi, hmax]
  have e1 : (⟨#[32]⟩ : ByteArray).size = 1 := rfl
  refine gd_mk (by rw [e1]; omega) ?_
  have e2 : ((⟨#[32]⟩ : ByteArray) ++ s).size = 1 + s.size := by rw [ByteArray.size_append]; rfl
  simp [h1, hi, hmax]
  refine gd_mk (by simp [e1]; omega) ?_
  have e3 : (((⟨#[32]⟩ : ByteArray) ++ s) ++ ⟨#[32]⟩).data.toList = 32 :: s.data.toList ++ [32] := by simp [ByteArray.data_append]
  simp [h1, hi]
  refine cl_of (con_two _ _ _ (by decide) (hm.kp k1)) ?_
  rintro v w2 ⟨rfl, k2⟩
  simp
  refine ⟨?_, k1.trans0 k2⟩
  have e4 := contains_res h0 h1
  rw [← e3] at e4
  rw [show wordB s = decide (s ∈ resL) by simp [wordB, h0, h1]]
  rw [← e4]
  rfl
end Go.Proofs.Ytcpmeficpboklaa
