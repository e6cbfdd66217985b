/-
  A part of the proofs of this seat's statements (TyW7); no conditions beyond those each theorem names.
-/
import Derived.Test.YtcpmeficpboklaaTyW6
set_option maxRecDepth 100000
set_option linter.unusedSimpArgs false
set_option linter.unusedVariables false
namespace Go.Proofs.Ytcpmeficpboklaa
open Go Go.W Go.Ty
theorem ms_len {w : World} {b : Nat} {l : List Pr} {K : Kont Value} (h : MS w b l) (hk : K.run (.int .i64 l.length)) : @rdH Try.prog (Builtin.len_ #[58] 3 #[.map (some b)]) w K :=
  rd_mk (fun w' hw => MapM.len (h.ext hw) Try.underlying58 3) hk
/-- Texts that are no longer than a text can be. -/
def Sz (l : List Pr) : Prop := ∀ p ∈ l, p.1.size ≤ maxLen ∧ p.2.size ≤ maxLen
theorem gm_sz {l : List Pr} (h : Sz l) (x : ByteArray) : (gm l x).size ≤ maxLen := by
  unfold gm getM
  cases hf : l.find? fun p => decide (p.1 = x) with
  | none => exact Nat.zero_le _
  | some p => exact (h p (List.mem_of_find?_eq_some hf)).2
def cycR (l : List Pr) (t : ByteArray) : Nat → ByteArray → Bool
  | 0, _ => false
  | n + 1, a => if gm l a = t then true else if gm l a = rootS then false else cycR l t n (gm l a)
theorem cycle_spec (f b : Nat) (l : List Pr) (t : ByteArray) (w : World) (h : FA w f b l) (hsz : Sz l) (hx : t.size ≤ maxLen) (hl : l.length ≤ 1000000) :
    Calls Try.prog 32 [.pointer (some ⟨f, 0, none⟩), .string t].toArray w fun e w' => ∃ v, e = .returned v ∧ v = .bool (cycR l t l.length t) ∧ Kp [] w w' := by
  refine enter Try.func32 mixed low32 (Nat.le_of_ble_eq_true rfl) ?_
  simp only [L32]
  simp [cell_blk h.obj]
  refine ms_len h.map ?_
  simp
  refine range_loop (n := l.length) (by omega) (fun k ρ w1 => ρ 0 = .pointer (some ⟨f, 0, none⟩) ∧ ρ 1 = .string t ∧ ∃ a, ρ 5 = .string a ∧ a.size ≤ maxLen ∧ cycR l t (l.length - k) a = cycR l t l.length t ∧ Kp [] w w1) (by simp) (by simp)
    ⟨by simp, by simp, t, by simp, hx, by simp, Kp.refl _ _⟩ (by decide) (fun _ _ _ _ h => by simpa using h) (fun _ _ _ _ h => by simpa using h) ?_ ?_
  · rintro k ρ w1 hk hc hlim ⟨g0, g1, a, g5, ha, hcy, hkp⟩
    have h1 := h.kp0 hkp
    have hn : l.length - k = (l.length - (k + 1)) + 1 := by omega
    rw [hn, cycR] at hcy
    simp [g0, g5, cell_blk h1.obj]
    refine ms_get h1.map ha ?_
    simp [g1, beq_str]
    refine cd_split (fun he => ?_) (fun he => ?_)
    · simp
      have he' : gm l a = t := by simpa using he
      rw [if_pos he'] at hcy
      exact ⟨hcy.symm, hkp⟩
    · have he' : ¬ gm l a = t := by simpa using he
      rw [if_neg he'] at hcy
      simp [beq_root]
      refine cd_split (fun hr => ?_) (fun hr => ?_)
      · simp
        have hr' : gm l a = rootS := by simpa using hr
        rw [if_pos hr'] at hcy
        exact ⟨hcy.symm, hkp⟩
      · have hr' : ¬ gm l a = rootS := by simpa using hr
        rw [if_neg hr'] at hcy
        simp [hc, hlim, g0, g1]
        exact ⟨gm_sz hsz a, hcy, hkp⟩
  · rintro ρ w1 ⟨g0, g1, a, g5, ha, hcy, hkp⟩
    simp
    rw [Nat.sub_self] at hcy
    exact ⟨hcy.symm, hkp⟩
end Go.Proofs.Ytcpmeficpboklaa
