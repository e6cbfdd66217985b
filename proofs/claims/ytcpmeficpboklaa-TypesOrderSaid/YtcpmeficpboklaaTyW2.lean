/-
  A part of the proofs of this seat's statements (TyW2); no conditions beyond those each theorem names.
-/
import Derived.Test.YtcpmeficpboklaaTyW1
set_option maxRecDepth 100000
set_option linter.unusedSimpArgs false
set_option linter.unusedVariables false
namespace Go.Proofs.Ytcpmeficpboklaa
open Go Go.W Go.Ty
def lowB (c : Nat) : Bool := decide (97 ≤ c) && decide (c ≤ 122)
def chB (c : Nat) : Bool := lowB c || (decide (48 ≤ c) && decide (c ≤ 57)) || c == 45 || c == 95
theorem lower_spec (c : Nat) (w : World) : Calls Try.prog 41 [.int .u8 c].toArray w fun e w' => ∃ v, e = .returned v ∧ v = .bool (lowB c) ∧ Kp [] w w' := by
  refine enter Try.func41 mixed low41 (Nat.le_of_ble_eq_true rfl) ?_
  simp only [L41]
  simp
  refine gd_split (fun h => ?_) (fun h => ?_)
  · simp [h]
    refine ⟨?_, Kp.refl _ _⟩
    have : (97 : Int) ≤ c := by simpa using h
    by_cases h2 : c ≤ 122
    · have h3 : (c : Int) ≤ 122 := by omega
      simp [lowB, h2, h3]; omega
    · have h3 : ¬ (c : Int) ≤ 122 := by omega
      simp [lowB, h2, h3]
  · simp [h]
    refine ⟨?_, Kp.refl _ _⟩
    have : ¬ (97 : Int) ≤ c := by simpa using h
    have h2 : ¬ 97 ≤ c := by omega
    simp [lowB, h2]
def resL : List ByteArray := [⟨#[97, 110, 100]⟩, ⟨#[111, 114]⟩, ⟨#[110, 111, 116]⟩, ⟨#[105, 109, 112, 108, 121]⟩, ⟨#[102, 111, 114, 97, 108, 108]⟩, ⟨#[101, 120, 105, 115, 116, 115]⟩, ⟨#[119, 104, 101, 110]⟩, ⟨#[97, 115, 115, 105, 103, 110]⟩,
  ⟨#[105, 110, 99, 114, 101, 97, 115, 101]⟩, ⟨#[100, 101, 99, 114, 101, 97, 115, 101]⟩, ⟨#[111, 98, 106, 101, 99, 116]⟩]
def es (s : ByteArray) : List Value := [.string s]
theorem es_len (s : ByteArray) : (es s).length = 1 := rfl
theorem es_one (s : ByteArray) : (es s).all oneC = true := rfl
theorem reserved_spec (s : ByteArray) (w : World) : Calls Try.prog 43 [.string s].toArray w fun e w' => ∃ v, e = .returned v ∧ v = .bool (decide (s ∈ resL)) ∧ Kp [] w w' := by
  refine enter Try.func43 mixed low43 (Nat.le_of_ble_eq_true rfl) ?_
  have hr : rowOf [Value.string ⟨#[]⟩] 11 = [Value.string ⟨#[]⟩, Value.string ⟨#[]⟩, Value.string ⟨#[]⟩, Value.string ⟨#[]⟩, Value.string ⟨#[]⟩, Value.string ⟨#[]⟩, Value.string ⟨#[]⟩, Value.string ⟨#[]⟩, Value.string ⟨#[]⟩, Value.string ⟨#[]⟩, Value.string ⟨#[]⟩] := rfl
  simp only [L43]
  simp [hr]
  have hnw : (w.alloc (.cells (resL.flatMap es).toArray 9)).heap[w.heap.size]? = some (.cells (resL.flatMap es).toArray 9 (0, 0)) := alloc_new
  have hv : Vw (w.alloc (.cells (resL.flatMap es).toArray 9)) (.slice (some ⟨w.heap.size, 0, none⟩) 11 11) es resL := by
    refine .inr ⟨_, 11, rfl, by decide, fun _ => rfl, fun j u hj => ?_⟩
    rw [addr_add, Nat.zero_add, cell_blk hnw]
    simpa using hj
  have hk : Kp [] w (w.alloc (.cells (resL.flatMap es).toArray 9)) := (Kp.refl _ _).alloc _
  have hcs : (resL.flatMap es).toArray = _ := rfl
  obtain ⟨w1, hw1⟩ : ∃ w1, w1 = w.alloc (.cells (resL.flatMap es).toArray 9) := ⟨_, rfl⟩
  rw [← hw1] at hv hk
  have hw2 : w1 = w.alloc (.cells #[.string ⟨#[97, 110, 100]⟩, .string ⟨#[111, 114]⟩, .string ⟨#[110, 111, 116]⟩, .string ⟨#[105, 109, 112, 108, 121]⟩, .string ⟨#[102, 111, 114, 97, 108, 108]⟩, .string ⟨#[101, 120, 105, 115, 116, 115]⟩, .string ⟨#[119, 104, 101, 110]⟩, .string ⟨#[97, 115, 115, 105, 103, 110]⟩,
    .string ⟨#[105, 110, 99, 114, 101, 97, 115, 101]⟩, .string ⟨#[100, 101, 99, 114, 101, 97, 115, 101]⟩, .string ⟨#[111, 98, 106, 101, 99, 116]⟩] 9) := hw1
  rw [← hw2]
  have hlen : resL.length = 11 := rfl
  refine loop_inv (fun n ρ w2 => ∃ k, n = 11 - k ∧ k ≤ 11 ∧ ρ 0 = .string s ∧ ρ 3 = .slice (some ⟨w.heap.size, 0, none⟩) 11 11 ∧ ρ 4 = .int .i64 (k : Nat) ∧ (∀ j, j < k → resL[j]? ≠ some s) ∧ Kp [] w w2 ∧ Vw w2 (.slice (some ⟨w.heap.size, 0, none⟩) 11 11) es resL) 11
    ⟨0, by omega, by omega, by simp, by simp, by simp, by simp, hk, hv⟩ ?_
  rintro n ρ w2 ⟨k, rfl, hk11, h0, h3, h4, hne, hkp, hv2⟩
  simp [h3, h4]
  refine cd_split (fun hlt => ?_) (fun hge => ?_)
  · have hlt' : k < 11 := by simp at hlt; omega
    obtain ⟨x, hx⟩ : ∃ x, resL[k]? = some x := ⟨_, List.getElem?_eq_getElem (by rw [hlen]; exact hlt')⟩
    have hc := hv2.cell (f := Value.string) hx
    simp at hc
    have hlt2 : (k : Int) < 11 := by omega
    simp (disch := omega) [h0, h3, h4, hc, hlt2, beq_str]
    refine cd_split (fun he => ?_) (fun he => ?_)
    · simp
      have he' : x = s := by simpa using he
      refine ⟨?_, hkp⟩
      rw [← he']
      exact List.mem_of_getElem? hx
    · simp (disch := omega) [h0, h3, h4, wrap_i64]
      refine ⟨11 - (k + 1), by omega, k + 1, rfl, by omega, rfl, fun j hj => ?_, hkp, hv2⟩
      rcases Nat.lt_or_ge j k with h | h
      · exact hne j h
      · have : j = k := by omega
        subst this
        rw [hx]
        intro e; injection e with e; simp [e] at he
  · have : k = 11 := by simp at hge; omega
    simp
    refine ⟨?_, hkp⟩
    intro hm
    obtain ⟨j, hj⟩ := List.getElem?_of_mem hm
    have hjl := (List.getElem?_eq_some_iff.1 hj).1
    exact hne j (by rw [hlen] at hjl; omega) hj
end Go.Proofs.Ytcpmeficpboklaa
