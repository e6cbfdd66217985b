/-
  A part of the proofs of this seat's statements (TyWI); no conditions beyond those each theorem names.
-/
import Derived.Test.YtcpmeficpboklaaTyWH
set_option maxRecDepth 100000
set_option linter.unusedSimpArgs false
set_option linter.unusedVariables false
namespace Go.Proofs.Ytcpmeficpboklaa
open Go Go.W Go.Ty
theorem ofP_len (l li : List Pr) (t : ByteArray) : (ofP l li t).length ≤ li.length := by
  simp only [ofP, List.length_map]; exact List.length_filter_le _ _
theorem ofP_snoc (l li : List Pr) (p : Pr) (t : ByteArray) : ofP l (li ++ [p]) t = ofP l li t ++ (if isP l p.2 t then [p.1] else []) := by
  simp only [ofP, List.filter_append, List.map_append]
  by_cases h : isP l p.2 t = true <;> simp [h]
theorem take_succ {li : List Pr} {k : Nat} (hk : k < li.length) : li.take (k + 1) = li.take k ++ [gp li k] := by
  rw [List.take_succ_eq_append_getElem hk]
  have := gp_at hk
  rw [List.getElem?_eq_getElem hk] at this
  rw [Option.some.inj this]
theorem rof_spec (pv qv : Value) (l li : List Pr) (t : ByteArray) (w : World) (hl : Vw w pv ep l) (hq : Vw w qv ep li) (hn : li.length ≤ 4398046511104) (h : Acc l) :
    Calls Try.prog 27 [pv, qv, .string t].toArray w fun e w' => ∃ v, e = .returned v ∧ New w (Star (OwnA v 9 1 es (ofP l li t)) Emp) w' := by
  refine enter Try.func27 mixed low27 (Nat.le_of_ble_eq_true rfl) ?_
  simp only [L27]
  simp
  refine for_len (l := li) (pv := qv) (enc := ep) (by omega) is_22 (fun k ρ w1 => ρ 0 = pv ∧ ρ 2 = .string t ∧ New w (Star (OwnA (ρ 7) 9 1 es (ofP l (li.take k) t)) Emp) w1) (fun k ρ w1 h => hq.kp0 h.2.2.kp) (by simp) (by simp)
    ⟨by simp, by simp, New.nil Lcl.emp (New.emp (Kp.refl _ _))⟩ (by decide) (fun _ _ _ _ h => by simpa using h) (fun _ _ _ _ h => by simpa using h) ?_ ?_
  · rintro k ρ w1 hk hc hp ⟨g0, g2, hnw⟩
    have hl1 := hl.kp0 hnw.kp
    have hq1 := hq.kp0 hnw.kp
    simp (disch := omega) [g0, g2, hc, hp, hq1.idx, hq1.fld ep_len (gp_at hk) (o := 1) rfl]
    refine cl_of (ris_spec pv l (gp li k).2 t w1 hl1 h) ?_
    rintro v w2 ⟨rfl, k2⟩
    have hq2 := hq1.kp0 k2
    have hn2 := hnw.kp0 (Lcl.own.star Lcl.emp) k2
    have hs := ofP_snoc l (li.take k) (gp li k) t
    rw [← take_succ hk] at hs
    have hle := ofP_len l (li.take k) t
    have hle2 : (li.take k).length ≤ li.length := by simp; omega
    by_cases hi : isP l (gp li k).2 t = true
    · simp [hi] at hs
      simp (disch := omega) [hi, hc, hp, hq2.idx, hq2.fld ep_len (gp_at hk) (o := 0) rfl, rowOf]
      refine New.append (xs := [(gp li k).1]) Lcl.emp (hn2.kp0 (Lcl.own.star Lcl.emp) ((Kp.refl [] w2).alloc (.cells #[.string (gp li k).1] 9))) es_len es_one sl_34 rfl (fun j u hj => ?_) (by omega) (by unfold maxLen; omega) ?_
      · rw [addr_add, Nat.zero_add, cell_blk alloc_new]
        simpa [es] using hj
      intro v' w3 h3
      simp [hc, hp, g0, g2]
      rw [hs]; exact h3
    · have hi' : isP l (gp li k).2 t = false := by simpa using hi
      simp [hi'] at hs
      simp [hi', hc, hp, g0, g2]
      rw [hs]; exact hn2
  · rintro ρ w1 hp ⟨g0, g2, hnw⟩
    simp
    rw [List.take_length] at hnw
    exact hnw
theorem of_spec (f m : Nat) (qv : Value) (l li : List Pr) (t : ByteArray) (w : World) (hf : FA w f m l) (hsz : Sz l) (hq : Vw w qv ep li) (hsq : Sz li) (ht : t.size ≤ maxLen) (hn : li.length ≤ 4398046511104) (h : Acc l) :
    Calls Try.prog 26 [.pointer (some ⟨f, 0, none⟩), qv, .string t].toArray w fun e w' => ∃ v, e = .returned v ∧ New w (Star (OwnA v 9 1 es (ofP l li t)) Emp) w' := by
  refine enter Try.func26 mixed low26 (Nat.le_of_ble_eq_true rfl) ?_
  simp only [L26]
  simp [hq.len]
  refine range_loop (n := li.length) (by omega) (fun k ρ w1 => ρ 0 = .pointer (some ⟨f, 0, none⟩) ∧ ρ 2 = .string t ∧ ρ 10 = qv ∧ New w (Star (OwnA (ρ 7) 9 1 es (ofP l (li.take k) t)) Emp) w1) (by simp) (by simp)
    ⟨by simp, by simp, by simp, New.nil Lcl.emp (New.emp (Kp.refl _ _))⟩ (by decide) (fun _ _ _ _ h => by simpa using h) (fun _ _ _ _ h => by simpa using h) ?_ ?_
  · rintro k ρ w1 hk hc hlim ⟨g0, g2, g10, hnw⟩
    have hf1 := hf.kp0 hnw.kp
    have hq1 := hq.kp0 hnw.kp
    have hpm := hsq (gp li k) (List.mem_of_getElem? (gp_at hk))
    simp (disch := omega) [g0, g2, g10, hc, hq1.idx, hq1.cells ep_len (gp_at hk), ep]
    refine st_obj alloc_new (by simp) (by simp) ?_
    simp
    intro w2 hk2 hs2 hb2
    have kk : Kp [] w1 w2 := ((Kp.refl [] w1).alloc _).trans' hk2 (fun x hx => .inr (by simp at hx; omega))
    simp [cell_blk hb2, g0, g2]
    refine cl_of (is_specP f m l (gp li k).2 t w2 (hf1.kp0 kk) hsz hpm.2 ht h) ?_
    rintro v w3 ⟨rfl, k3⟩
    have hb3 := k3.blk hb2 (by simp)
    have hn3 := (hnw.kp0 (Lcl.own.star Lcl.emp) kk).kp0 (Lcl.own.star Lcl.emp) k3
    have hs := ofP_snoc l (li.take k) (gp li k) t
    rw [← take_succ hk] at hs
    have hle := ofP_len l (li.take k) t
    have hle2 : (li.take k).length ≤ li.length := by simp; omega
    by_cases hi : isP l (gp li k).2 t = true
    · simp [hi] at hs
      simp (disch := omega) [hi, cell_blk hb3, rowOf]
      refine New.append (xs := [(gp li k).1]) Lcl.emp (hn3.kp0 (Lcl.own.star Lcl.emp) ((Kp.refl [] w3).alloc (.cells #[.string (gp li k).1] 9))) es_len es_one sl_34 rfl (fun j u hj => ?_) (by omega) (by unfold maxLen; omega) ?_
      · rw [addr_add, Nat.zero_add, cell_blk alloc_new]
        simpa [es] using hj
      intro v' w4 h4
      simp [hc, hlim, g0, g2, g10]
      rw [hs]; exact h4
    · have hi' : isP l (gp li k).2 t = false := by simpa using hi
      simp [hi'] at hs
      simp [hi', hc, hlim, g0, g2, g10]
      rw [hs]; exact hn3
  · rintro ρ w1 ⟨g0, g2, g10, hnw⟩
    simp
    rw [List.take_length] at hnw
    exact hnw
end Go.Proofs.Ytcpmeficpboklaa
