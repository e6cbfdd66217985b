/-
  A part of the proofs of this seat's statements (TyWB); no conditions beyond those each theorem names.
-/
import Derived.Test.YtcpmeficpboklaaTyWA
set_option maxRecDepth 100000
set_option linter.unusedSimpArgs false
set_option linter.unusedVariables false
namespace Go.Proofs.Ytcpmeficpboklaa
open Go Go.W Go.Ty
def FAA (f b : Nat) (l : List Pr) : Asr := fun w F => FA w f b l ∧ F = [f, b]
theorem FAA.loc {f b : Nat} {l : List Pr} : Lcl (FAA f b l) := by
  refine ⟨?_, ?_⟩
  · rintro w F ⟨h, rfl⟩ x hx
    simp at hx
    rcases hx with rfl | rfl
    · exact lt_of_blk h.obj
    · exact MapM.lt h.map
  · rintro w F G w' ⟨h, rfl⟩ hk hd
    exact ⟨h.kp hk (hd f (by simp)) (hd b (by simp)), rfl⟩
theorem FAA.get {f b : Nat} {l : List Pr} {B : Asr} {w w1 : World} (h : New w (Star (FAA f b l) B) w1) : FA w1 f b l := by
  obtain ⟨F, h1, _⟩ := h.get
  exact h1
theorem faa_store {f b : Nat} {l : List Pr} {w w1 : World} {x v : ByteArray} {KW : Kont World} (h : New w (Star (FAA f b l) Emp) w1) (hx : x.size ≤ maxLen) (hl : l.length ≤ 1000000)
    (hk : ∀ w2, New w (Star (FAA f b (putM l x v)) Emp) w2 → KW.run w2) : @efuH Try.prog (Instr.mapUpdate 58 (.map (some b)) (.string x) (.string v)) w1 KW := by
  have hf := h |> FAA.get
  obtain ⟨o, hr, hm⟩ := MapM.store hf.map key9 Try.underlying58 hx v (by unfold maxLen; omega)
  have hkp : Kp [f, b] w1 (w1.setB b o) := (Kp.refl _ _).setB (.inl (by simp)) o
  refine efu_mk hr (hk _ (h.step FAA.loc Lcl.emp ?_))
  rintro F ⟨h1, rfl⟩
  exact ⟨[f, b], ⟨⟨by rw [setB_ne h1.ne]; exact h1.obj, hm, h1.ne⟩, rfl⟩, hkp, fun x hx => .inl hx⟩
theorem New.kpr {A : Asr} {w w1 : World} (h : New w A w1) : Kp [] w w1 := h.kp
def NewP (l : List Pr) (w : World) (v : Value) (w' : World) : Prop := match newE l with
  | some (i, c) => v = .tuple #[.pointer none, .int .i64 (i : Nat), .iface 57 (.int .i64 c)] ∧ Kp [] w w'
  | none => ∃ f b, v = .tuple #[.pointer (some ⟨f, 0, none⟩), .int .i64 0, .nilIface] ∧ New w (Star (FAA f b l) Emp) w'
theorem new_spec (pv : Value) (l : List Pr) (w : World) (hl : Vw w pv ep l) (hn : l.length ≤ 4611686018427387904) (hsz : Sz l) (hm : HM w) :
    Calls Try.prog 15 [pv].toArray w fun e w' => ∃ v, e = .returned v ∧ NewP l w v w' := by
  refine enter Try.func15 mixed low15 (Nat.le_of_ble_eq_true rfl) ?_
  simp only [L15]
  by_cases h64 : 64 < l.length
  · have h64' : (64 : Int) < l.length := by omega
    have hE : newE l = some (0, 5) := by simp [newE, h64]
    simp [hl.len, h64']
    simp only [NewP, hE]
    exact ⟨rfl, Kp.refl _ _⟩
  have h64' : ¬ (64 : Int) < l.length := by omega
  simp [hl.len, h64']
  refine range_loop (n := l.length) (by omega) (fun k ρ w1 => ρ 0 = pv ∧ ρ 20 = pv ∧ (∀ j, j < k → badN l j = false) ∧ Kp [] w w1) (by simp) (by simp) ⟨by simp, by simp, by simp, Kp.refl _ _⟩ (by decide)
    (fun _ _ _ _ h => by simpa using h) (fun _ _ _ _ h => by simpa using h) ?_ ?_
  · rintro k ρ w1 hk hc hlim ⟨g0, g20, hall, hkp⟩
    have hl1 := hl.kp0 hkp
    have hgm : gp l k ∈ l := List.mem_of_getElem? (gp_at hk)
    have hpz := hsz _ hgm
    simp (disch := omega) [hc, g20, hl1.idx, hl1.cells ep_len (gp_at hk), ep_len]
    refine st_obj alloc_new (by simp [ep]) (ep_one _) ?_
    intro w2 hk2 hs2 ho2
    simp [ep] at ho2
    have hk12 : Kp [] w w2 := hkp.trans0 (((Kp.refl [] w1).alloc _).trans' hk2 (by simp))
    have hm2 := hm.kp hk12
    have bad : badN l k = true → NewP l w (.tuple #[.pointer none, .int .i64 (k : Nat), .iface 57 (.int .i64 8)]) = fun w' => Kp [] w w' := fun hb => by
      have hE : newE l = some (k, 8) := by simp [newE, h64, fst_some hk hall hb]
      funext w'
      simp [NewP, hE]
    have good : badN l k = false → ∀ j, j < k + 1 → badN l j = false := fun hb j hj => by
      rcases Nat.lt_or_ge j k with h | h
      · exact hall j h
      · have : j = k := by omega
        subst this; exact hb
    simp [cell_blk ho2]
    refine cl_of (name_spec (gp l k).1 w2 hm2 (by have := hpz.1; unfold maxLen at this; omega)) ?_
    rintro v w3 ⟨rfl, k3⟩
    have ho3 := k3.blk ho2 (by simp)
    have hk13 := hk12.trans0 k3
    by_cases b1 : nameB (gp l k).1 = true
    case neg =>
      have b1' : nameB (gp l k).1 = false := by simpa using b1
      simp [b1', hc]
      rw [bad (by simp [badN, b1'])]
      exact hk13
    by_cases b2 : (gp l k).2 = rootS
    · simp [b1, cell_blk ho3, beq_root, b2, hc, hlim, g0, g20]
      exact ⟨good (by simp [badN, b1, b2]), hk13⟩
    simp [b1, cell_blk ho3, beq_root, b2]
    refine cl_of (name_spec (gp l k).2 w3 (hm2.kp k3) (by have := hpz.2; unfold maxLen at this; omega)) ?_
    rintro v w4 ⟨rfl, k4⟩
    have hk14 := hk13.trans0 k4
    by_cases b3 : nameB (gp l k).2 = true
    · simp [b1, b2, b3, hc, hlim, g0, g20, beq_root]
      exact ⟨good (by simp [badN, b1, b2, b3]), hk14⟩
    · have b3' : nameB (gp l k).2 = false := by simpa using b3
      simp [b1, b2, b3', hc, hlim, g0, g20, beq_root]
      rw [bad (by simp [badN, b1, b2, b3'])]
      exact hk14
  · rintro ρ w1 ⟨g0, g20, hall, hkp⟩
    have hE1 : fst? (badN l) l.length = none := fst_none hall
    have hl1 := hl.kp0 hkp
    have hfa : New w (Star (FAA (w1.heap.size + 1) w1.heap.size []) Emp) ((w1.alloc (.map #[] 0)).alloc (.cells #[.map (some w1.heap.size)] 60)) := by
      have hk : Kp [] w1 ((w1.alloc (.map #[] 0)).alloc (.cells #[.map (some w1.heap.size)] 60)) := ((Kp.refl _ _).alloc _).alloc _
      refine (New.emp hkp).more Lcl.emp hk ⟨_, ⟨⟨?_, ?_, by omega⟩, rfl⟩, by simp⟩
      · have := alloc_new (w := w1.alloc (.map #[] 0)) (o := .cells #[.map (some w1.heap.size)] 60)
        simpa using this
      · exact MapM.kp (S := []) (MapM.new w1) ((Kp.refl _ _).alloc _) (by simp)
    obtain ⟨f, hf⟩ : ∃ f, f = w1.heap.size + 1 := ⟨_, rfl⟩
    obtain ⟨b, hb⟩ : ∃ b, b = w1.heap.size := ⟨_, rfl⟩
    rw [← hf, ← hb] at hfa
    simp [g0, hl1.len, ← hf, ← hb]
    refine range_loop (n := l.length) (by omega) (fun k ρ w1 => ρ 0 = pv ∧ ρ 48 = pv ∧ ρ 7 = .pointer (some ⟨f, 0, none⟩) ∧ (∀ j, j < k → dupN l j = false) ∧ New w (Star (FAA f b (l.take k)) Emp) w1) (by simp) (by simp) ⟨by simp [g0], by simp, by simp, by simp, by simpa using hfa⟩ (by decide)
      (fun _ _ _ _ h => by simpa using h) (fun _ _ _ _ h => by simpa using h) ?_ ?_
    · rintro k ρ w1 hk hc hlim ⟨g0, g48, g7, hdup, hnw⟩
      have hl1 := hl.kp0 hnw.kp
      have hpz := hsz _ (List.mem_of_getElem? (gp_at hk))
      simp (disch := omega) [hc, g48, hl1.idx, hl1.cells ep_len (gp_at hk), ep_len]
      refine st_obj alloc_new (by simp [ep]) (ep_one _) ?_
      intro w2 hk2 hs2 ho2
      simp [ep] at ho2
      have hk12 : Kp [] w1 w2 := ((Kp.refl [] w1).alloc _).trans' hk2 (by simp)
      have hnw2 := hnw.kp0 (FAA.loc.star Lcl.emp) hk12
      have hfa2 := FAA.get hnw2
      simp [g7, cell_blk hfa2.obj, cell_blk ho2]
      refine ms_look hfa2.map hpz.1 ?_
      by_cases hd : dupN l k = true
      · have hE : newE l = some (k, 4) := by simp [newE, h64, hE1, fst_some hk hdup hd]
        simp [show (getM (List.take k l) (gp l k).1).isSome = true from hd, hc]
        simp only [NewP, hE]
        exact ⟨trivial, hnw2.kp.drew⟩
      · have hd' : dupN l k = false := by simpa using hd
        simp [show (getM (List.take k l) (gp l k).1).isSome = false from hd', g7, cell_blk hfa2.obj, cell_blk ho2]
        refine faa_store (hnw2.kp0 (FAA.loc.star Lcl.emp) (Kp.refl _ _).drew.drew) hpz.1 (by simp; omega) ?_
        intro w3 h3
        rw [putM_new hk hd'] at h3
        simp [hc, hlim, g0, g48, g7]
        refine ⟨fun j hj => ?_, h3⟩
        rcases Nat.lt_or_ge j k with h | h
        · exact hdup j h
        · have : j = k := by omega
          subst this; exact hd'
    · rintro ρ w1 ⟨g0, g48, g7, hdup, hnw⟩
      have hE2 : fst? (dupN l) l.length = none := fst_none hdup
      rw [List.take_length] at hnw
      have hl1 := hl.kp0 hnw.kp
      simp [g0, hl1.len]
      refine range_loop (n := l.length) (by omega) (fun k ρ w1 => ρ 0 = pv ∧ ρ 77 = pv ∧ ρ 7 = .pointer (some ⟨f, 0, none⟩) ∧ (∀ j, j < k → lostN l j = false) ∧ New w (Star (FAA f b l) Emp) w1) (by simp) (by simp) ⟨by simp [g0], by simp [g0], by simp [g7], by simp, by simpa using hnw⟩ (by decide)
        (fun _ _ _ _ h => by simpa using h) (fun _ _ _ _ h => by simpa using h) ?_ ?_
      · rintro k ρ w1 hk hc hlim ⟨g0, g48, g7, hdup, hnw⟩
        have hl1 := hl.kp0 hnw.kp
        have hpz := hsz _ (List.mem_of_getElem? (gp_at hk))
        simp (disch := omega) [hc, g48, hl1.idx, hl1.cells ep_len (gp_at hk), ep_len]
        refine st_obj alloc_new (by simp [ep]) (ep_one _) ?_
        intro w2 hk2 hs2 ho2
        simp [ep] at ho2
        have hk12 : Kp [] w1 w2 := ((Kp.refl [] w1).alloc _).trans' hk2 (by simp)
        have hnw2 := hnw.kp0 (FAA.loc.star Lcl.emp) hk12
        simp [g7, cell_blk ho2]
        refine cl_of (has_spec f b l (gp l k).2 w2 (FAA.get hnw2) hpz.2) ?_
        rintro v w3 ⟨rfl, k3⟩
        have hnw3 := hnw2.kp0 (FAA.loc.star Lcl.emp) k3
        by_cases hd : hasB l (gp l k).2 = true
        · simp [hd, hc, hlim, g0, g48, g7]
          refine ⟨fun j hj => ?_, hnw3⟩
          rcases Nat.lt_or_ge j k with h | h
          · exact hdup j h
          · have : j = k := by omega
            subst this; simp [lostN, hd]
        · have hd' : hasB l (gp l k).2 = false := by simpa using hd
          have hE : newE l = some (k, 3) := by simp [newE, h64, hE1, hE2, fst_some hk hdup (show lostN l k = true by simp [lostN, hd'])]
          simp [hd', hc]
          simp only [NewP, hE]
          exact ⟨trivial, hnw3.kp⟩
      · rintro ρ w1 ⟨g0, g48, g7, hlost, hnw⟩
        have hE3 : fst? (lostN l) l.length = none := fst_none hlost
        have hl1 := hl.kp0 hnw.kp
        simp [g0, hl1.len]
        refine range_loop (n := l.length) (by omega) (fun k ρ w1 => ρ 0 = pv ∧ ρ 92 = pv ∧ ρ 7 = .pointer (some ⟨f, 0, none⟩) ∧ (∀ j, j < k → cycN l j = false) ∧ New w (Star (FAA f b l) Emp) w1) (by simp) (by simp) ⟨by simp [g0], by simp [g0], by simp [g7], by simp, by simpa using hnw⟩ (by decide)
          (fun _ _ _ _ h => by simpa using h) (fun _ _ _ _ h => by simpa using h) ?_ ?_
        · rintro k ρ w1 hk hc hlim ⟨g0, g48, g7, hdup, hnw⟩
          have hl1 := hl.kp0 hnw.kp
          have hpz := hsz _ (List.mem_of_getElem? (gp_at hk))
          simp (disch := omega) [hc, g48, hl1.idx, hl1.cells ep_len (gp_at hk), ep_len]
          refine st_obj alloc_new (by simp [ep]) (ep_one _) ?_
          intro w2 hk2 hs2 ho2
          simp [ep] at ho2
          have hk12 : Kp [] w1 w2 := ((Kp.refl [] w1).alloc _).trans' hk2 (by simp)
          have hnw2 := hnw.kp0 (FAA.loc.star Lcl.emp) hk12
          simp [g7, cell_blk ho2]
          refine cl_of (cycle_spec f b l (gp l k).1 w2 (FAA.get hnw2) hsz hpz.1 (by omega)) ?_
          rintro v w3 ⟨rfl, k3⟩
          have hnw3 := hnw2.kp0 (FAA.loc.star Lcl.emp) k3
          by_cases hd : cycN l k = true
          · have hE : newE l = some (k, 21) := by simp [newE, h64, hE1, hE2, hE3, fst_some hk hdup hd]
            simp [show cycR l (gp l k).1 l.length (gp l k).1 = true from hd, hc]
            simp only [NewP, hE]
            exact ⟨trivial, hnw3.kp⟩
          · have hd' : cycN l k = false := by simpa using hd
            simp [show cycR l (gp l k).1 l.length (gp l k).1 = false from hd', hc, hlim, g0, g48, g7]
            refine ⟨fun j hj => ?_, hnw3⟩
            rcases Nat.lt_or_ge j k with h | h
            · exact hdup j h
            · have : j = k := by omega
              subst this; exact hd'
        · rintro ρ w1 ⟨g0, g48, g7, hcyc, hnw⟩
          have hE4 : fst? (cycN l) l.length = none := fst_none hcyc
          have hE : newE l = none := by simp [newE, h64, hE1, hE2, hE3, hE4]
          simp [g7]
          simp only [NewP, hE]
          exact ⟨f, b, rfl, hnw⟩
end Go.Proofs.Ytcpmeficpboklaa
