/-
  A part of the proofs of this seat's statements (TyWH); no conditions beyond those each theorem names.
-/
import Derived.Test.YtcpmeficpboklaaTyWG
set_option maxRecDepth 100000
set_option linter.unusedSimpArgs false
set_option linter.unusedVariables false
namespace Go.Proofs.Ytcpmeficpboklaa
open Go Go.W Go.Ty
def otherS : ByteArray := ⟨#[111, 116, 104, 101, 114]⟩
def andS : ByteArray := ⟨#[97, 110, 100]⟩
def nm0 : List ByteArray := [rootS, ByteArray.empty, otherS, andS]
/-- The names that a law asks for. -/
def nmL (l : List Pr) (n : Nat) : List ByteArray := nm0 ++ (l.take n).flatMap fun p => [p.1, p.2]
theorem nmL_len (l : List Pr) (n : Nat) (h : n ≤ l.length) : (nmL l n).length = 4 + 2 * n := by
  have : ∀ k : List Pr, (k.flatMap fun p => [p.1, p.2]).length = 2 * k.length := fun k => by
    induction k with
    | nil => rfl
    | cons a k ih => simp [ih]; omega
  rw [nmL, List.length_append, this]
  simp [nm0]; omega
theorem nmL_succ {l : List Pr} {k : Nat} (hk : k < l.length) : nmL l (k + 1) = nmL l k ++ [(gp l k).1, (gp l k).2] := by
  have h1 : l.take (k + 1) = l.take k ++ [gp l k] := by
    rw [List.take_succ_eq_append_getElem hk]
    have := gp_at hk
    rw [List.getElem?_eq_getElem hk] at this
    rw [Option.some.inj this]
  rw [nmL, h1]; simp [nmL]
theorem names_spec (pv : Value) (l : List Pr) (w : World) (hl : Vw w pv ep l) (hn : l.length ≤ 4611686018427387904) :
    Calls Try.prog 18 [pv].toArray w fun e w' => ∃ v, e = .returned v ∧ New w (Star (OwnA v 9 1 es (nmL l (min l.length 12))) Emp) w' := by
  refine enter Try.func18 mixed low18 (Nat.le_of_ble_eq_true rfl) ?_
  simp only [L18]
  simp [rowOf]
  have h0 : New w (Star (OwnA (.slice (some ⟨w.heap.size, 0, none⟩) 4 4) 9 1 es (nmL l 0)) Emp) (w.alloc (.cells #[.string rootS, .string ⟨#[]⟩, .string otherS, .string andS] 9)) := by
    refine (New.emp (Kp.refl [] w)).more Lcl.emp ((Kp.refl _ _).alloc _) ⟨_, ⟨.inr ⟨w.heap.size, 4, #[.string rootS, .string ⟨#[]⟩, .string otherS, .string andS], [], rfl, alloc_new, ?_, by simp [nmL, nm0], by simp [nmL, nm0], by simp [maxLen]⟩, rfl⟩, by simp⟩
    simp [nmL, nm0, es]; rfl
  refine loop_inv (fun m ρ w1 => ∃ k, m = min l.length 12 - k ∧ k ≤ min l.length 12 ∧ ρ 0 = pv ∧ ρ 4 = .int .i64 (k : Nat) ∧ New w (Star (OwnA (ρ 3) 9 1 es (nmL l k)) Emp) w1) (min l.length 12)
    ⟨0, by omega, by omega, by simp, by simp, h0⟩ ?_
  rintro m ρ w1 ⟨k, rfl, hk, g0, g4, hnw⟩
  have hl1 := hl.kp0 hnw.kp
  simp [g0, g4, hl1.len]
  by_cases h1 : k < l.length
  case neg =>
    have h1' : ¬ (k : Int) < l.length := by omega
    have hke : k = min l.length 12 := by omega
    simp [h1, h1']
    rw [← hke]; exact hnw
  have h1' : (k : Int) < l.length := by omega
  by_cases h2 : k < 12
  case neg =>
    have h2' : ¬ (k : Int) < 12 := by omega
    have hke : k = min l.length 12 := by omega
    simp [h1, h2, h1', h2', g4]
    rw [← hke]; exact hnw
  have h2' : (k : Int) < 12 := by omega
  have hld := hl1.drew
  simp (disch := omega) [rowOf, g0, g4, h1, h2, h1', h2', hld.idx, hld.fld ep_len (gp_at h1) (o := 0) rfl, hld.fld ep_len (gp_at h1) (o := 1) rfl]
  have hnl := nmL_len l k (by omega)
  refine New.append (xs := [(gp l k).1, (gp l k).2]) Lcl.emp (hnw.kp0 (Lcl.own.star Lcl.emp) (((Kp.refl [] w1).drew).alloc (.cells #[.string (gp l k).1, .string (gp l k).2] 9))) es_len es_one sl_34 rfl (fun j u hj => ?_) (by rw [hnl]; omega) (by rw [hnl]; unfold maxLen; omega) ?_
  · rw [addr_add, Nat.zero_add, show w1.heap.size = w1.drew.heap.size from rfl, cell_blk alloc_new]
    simpa [es] using hj
  intro v' w3 h3
  simp (disch := omega) [g0, g4, wrap_i64]
  refine ⟨min l.length 12 - (k + 1), by omega, k + 1, rfl, by omega, by omega, ?_⟩
  rw [nmL_succ h1]; exact h3
def truckS : ByteArray := ⟨#[116, 114, 117, 99, 107]⟩
def vehS : ByteArray := ⟨#[118, 101, 104, 105, 99, 108, 101]⟩
def awL : List Pr := [(truckS, vehS), (vehS, rootS)]
theorem aw_new : newE awL = none := by decide +kernel
theorem aw1 : isP awL truckS vehS = true := by decide +kernel
theorem aw2 : isP awL truckS rootS = true := by decide +kernel
theorem aw3 : isP awL vehS truckS = false := by decide +kernel
theorem aw_sz : Sz awL := by simp only [Sz, awL, List.mem_cons, List.not_mem_nil, or_false, forall_eq_or_imp, forall_eq]; decide
theorem awake_spec (w : World) (hm : HM w) : Calls Try.prog 14 [].toArray w fun e w' => ∃ v, e = .returned v ∧ v = .bool true ∧ Kp [] w w' := by
  refine enter Try.func14 mixed low14 (Nat.le_of_ble_eq_true rfl) ?_
  simp only [L14]
  simp [rowOf]
  have hv : Vw (w.alloc (.cells #[.string truckS, .string vehS, .string vehS, .string rootS] 44)) (.slice (some ⟨w.heap.size, 0, none⟩) 2 2) ep awL := by
    refine .inr ⟨⟨w.heap.size, 0, none⟩, 2, rfl, by simp [awL], fun _ => rfl, fun j u hj => ?_⟩
    rw [addr_add, Nat.zero_add, cell_blk alloc_new]
    rw [← Array.getElem?_toList]; exact hj
  have k0 : Kp [] w (w.alloc (.cells #[.string truckS, .string vehS, .string vehS, .string rootS] 44)) := (Kp.refl _ _).alloc _
  refine cl_of (new_spec _ awL _ hv (by decide) aw_sz (hm.kp k0)) ?_
  rintro v w1 h
  simp only [NewP, aw_new] at h
  obtain ⟨f, b, rfl, hN⟩ := h
  have k1 := k0.trans0 hN.kp
  have hf := hN |> FAA.get
  have hacc := acc_of aw_new
  simp
  refine cl_of (is_specP f b awL truckS vehS w1 hf aw_sz (by decide) (by decide) hacc) ?_
  rintro v w2 ⟨rfl, k2⟩
  simp [aw1]
  refine cl_of (is_specP f b awL truckS rootS w2 (hf.kp0 k2) aw_sz (by decide) (by decide) hacc) ?_
  rintro v w3 ⟨rfl, k3⟩
  simp [aw2]
  refine cl_of (is_specP f b awL vehS truckS w3 (hf.kp0 (k2.trans0 k3)) aw_sz (by decide) (by decide) hacc) ?_
  rintro v w4 ⟨rfl, k4⟩
  simp [aw3]
  exact k1.trans0 ((k2.trans0 k3).trans0 k4)
end Go.Proofs.Ytcpmeficpboklaa
