/-
  A part of the proofs of this seat's statements (BdXD); no conditions beyond those each theorem names.
-/
import Derived.Test.YtkojilpjpdpmaaaRBdXB
set_option maxRecDepth 100000
set_option linter.unusedSimpArgs false
set_option linter.unusedVariables false
namespace Go.Proofs.YtkojilpjpdpmaaaR
open Go Go.W Go.Bd Go.Maps
theorem rcu_len (n : Nat) : ∀ d F, (rcu n d F).length ≤ 2 ^ d
  | 0, F => by unfold rcu; split <;> simp
  | d + 1, F => by
    unfold rcu
    have := Nat.two_pow_pos d
    have h1 := rcu_len n d (resF F (n - (d + 1)) false)
    have h2 := rcu_len n d (resF F (n - (d + 1)) true)
    have h3 := rcu_len n d F
    rw [Nat.pow_succ]
    split
    · simp
    split
    · simp; omega
    · omega
theorem rcu_cl (n : Nat) : ∀ d F, ∀ c ∈ rcu n d F, c.length ≤ d
  | 0, F => by
    unfold rcu
    intro c hc
    split at hc
    · cases hc
    · simp at hc; simp [hc]
  | d + 1, F => by
    unfold rcu
    intro c hc
    split at hc
    · cases hc
    split at hc
    · rcases List.mem_append.1 hc with h | h
      · obtain ⟨q, hq, rfl⟩ := List.mem_map.1 h
        have := rcu_cl n d _ q hq
        simp; omega
      · obtain ⟨q, hq, rfl⟩ := List.mem_map.1 h
        have := rcu_cl n d _ q hq
        simp; omega
    · have := rcu_cl n d _ c hc
      omega
/-- The paths through one or both values of a variable. -/
def racP (n : Nat) (F : (Nat → Bool) → Bool) (v x : Nat) : List (List Fc) := (List.range x).flatMap fun y => (rcu n (n - (v + 1)) (resF F v (y == 1))).map ((v, y) :: ·)
theorem racP_succ (n : Nat) (F : (Nat → Bool) → Bool) (v x : Nat) : racP n F v (x + 1) = racP n F v x ++ (rcu n (n - (v + 1)) (resF F v (x == 1))).map ((v, x) :: ·) := by
  unfold racP; rw [List.range_succ, List.flatMap_append]; simp
theorem racP_two (n : Nat) (F : (Nat → Bool) → Bool) (v : Nat) : racP n F v 2 = (rcu n (n - (v + 1)) (resF F v false)).map ((v, 0) :: ·) ++ (rcu n (n - (v + 1)) (resF F v true)).map ((v, 1) :: ·) := by
  rw [racP_succ, racP_succ]; simp [racP]
theorem racP_len (n : Nat) (F : (Nat → Bool) → Bool) (v x : Nat) (hn : n ≤ 6) (hx : x ≤ 2) : (racP n F v x).length ≤ 200 := by
  have h1 := rcu_len n (n - (v + 1)) (resF F v false)
  have h2 := rcu_len n (n - (v + 1)) (resF F v true)
  have h3 := two_mono (show n - (v + 1) ≤ 6 by omega)
  rcases (show x = 0 ∨ x = 1 ∨ x = 2 by omega) with rfl | rfl | rfl
  · simp [racP]
  · rw [racP_succ]; simp [racP]; omega
  · rw [racP_two]; simp; omega
def tE (n : Nat) (u : Cell1) : List Value := [.int .i64 (n : Nat), u.1]
theorem tE_len (n : Nat) (u : Cell1) : (tE n u).length = 2 := rfl
section
variable {w wa : World} {F : List Nat} {X : Asr} {KW : Kont World}
/-- A variable for a table. -/
theorem st_tbl {n b : Nat} {u : Cell1} (hX : Lcl X) (h : At w F X wa) (hb : b = wa.heap.size) (H : ∀ w2, At w F (Star (ObjA b (tbO n u.1)) X) w2 → KW.run w2) :
    @stJ (wa.alloc (.cells #[.int .i64 0, .slice none 0 0] 51 (0, 0))) ⟨b, 0, none⟩ [.int .i64 (n : Nat), u.1] KW := by
  have h1 : At w F (Star (ObjA b (.cells #[.int .i64 0, .slice none 0 0] 51 (0, 0))) X) (wa.alloc (.cells #[.int .i64 0, .slice none 0 0] 51 (0, 0))) := by rw [hb]; exact h.alloc _ hX
  exact h1.st hX (by simp) (by simp [u.2]) fun w2 h2 => H w2 (by simpa [tbO] using h2)
end
/-- The state of Cubes. -/
def CuA (b n : Nat) (fvv : Value) (w : World) (ρ : Env) (w' : World) : Prop := ρ 2 = .pointer (some ⟨b, 0, none⟩) ∧ At w [] (Star (ObjA b (tbO n fvv)) Emp) w'
set_option maxHeartbeats 4000000 in
theorem rCubes_spec (n : Nat) (hn : n ≤ 6) : ∀ (d k : Nat) (fvv : Value) (F : (Nat → Bool) → Bool) (w : World), k + d = n → Vw w fvv bv (tab n F) →
    Calls Try.prog 39 [tbV n fvv, .int .i64 (k : Nat)].toArray w fun e w' => ∃ u, e = .returned u ∧ At w [] (Star (LLA u 75 fv (rcu n d F)) Emp) w' := by
  intro d
  induction d using Nat.strongRecOn with
  | ind d ih =>
  intro k fvv F w hkd hF
  refine enter Try.func39 mixed low39 (Nat.le_of_ble_eq_true rfl) ?_
  simp only [L39]
  have h0 : At w [] Emp w := At.start rfl
  have h1 : At w [] (Star (ObjA w.heap.size (tbO n fvv)) Emp) _ := h0.alloc (tbO n fvv) Lcl.emp
  obtain ⟨b, hb⟩ : ∃ b, b = w.heap.size := ⟨_, rfl⟩
  rw [← hb] at h1
  have hLB : Lcl (Star (ObjA b (tbO n fvv)) Emp) := .star .obj .emp
  have rdb : ∀ {w'}, At w [] (Star (ObjA b (tbO n fvv)) Emp) w' → cellsAt w' ⟨b, 0, none⟩ 0 2 = some [.int .i64 (n : Nat), fvv] := fun h => rd_tb h.obj
  have rdn : ∀ {w'}, At w [] (Star (ObjA b (tbO n fvv)) Emp) w' → w'.cell? ⟨b, 0, none⟩ = some (.int .i64 (n : Nat)) := fun h => by
    have := h.obj
    unfold tbO at this
    simp [cell_blk this]
  refine seq_cut (fun ρ w' => ρ 1 = .int .i64 (k : Nat) ∧ CuA b n fvv w ρ w') ?_ ?_
  · simp [tbV, ← hb]
    exact ⟨by simp, h1⟩
  rintro ρ w1 ⟨g1, g2, h2⟩
  refine seq_cut (fun ρ w' => (ρ 1 = .int .i64 (k : Nat) ∧ CuA b n fvv w ρ w') ∧ ¬ tab n F = tab n (fun _ => false)) ?_ ?_
  · simp [g2, rdn h2, rdb h2]
    have h2 := h2.drew hLB
    refine ⟨?_, ?_⟩ <;>
    · refine cl_of (rConst_spec n false _ hn) ?_
      rintro _ w2 ⟨u0, rfl, t0⟩
      have h3 := h2.kp0 hLB t0.kp
      have hF3 := hF.kp0 h3.kp
      simp [tbV, g2, rdb h3]
      refine cl_of (rSame_spec n _ _ F (fun _ => false) w2 hn hF3 t0.own.vw) ?_
      rintro _ w3 ⟨rfl, k3⟩
      have h4 := h3.kp0 hLB k3
      by_cases hz : tab n F = tab n (fun _ => false)
      · simp [hz]
        have e : rcu n d F = [] := by
          cases d <;> (unfold rcu; rw [if_pos hz])
        rw [e]
        exact LLA.nil .emp h4.drop
      · simp [hz]
        exact ⟨g1, g2, h4⟩
  clear g1 g2 h2
  rintro ρ w2 ⟨⟨g1, g2, h2⟩, hz⟩
  refine seq_cut (fun ρ w' => CuA b n fvv w ρ w' ∧ rcu n d F = [[]]) ?_ ?_
  · simp [g1]
    refine loop_inv (fun q ρ w' => ∃ v, q = n - v ∧ k ≤ v ∧ v ≤ n ∧ ρ 5 = .int .i64 (v : Nat) ∧ ρ 2 = .pointer (some ⟨b, 0, none⟩) ∧ rcu n d F = rcu n (n - v) F ∧ At w [] (Star (ObjA b (tbO n fvv)) Emp) w') (n - k)
      ⟨k, rfl, Nat.le_refl _, by omega, by simp, by simp [g2], by rw [show n - k = d by omega], h2⟩ ?_
    rintro q ρ w4 ⟨v, rfl, hkv, hvn, g5, g2, hr, h4⟩
    by_cases hv : v < n
    case neg =>
      have hv' : ¬ (v : Int) < n := by omega
      have e : v = n := by omega
      subst e
      have e2 : rcu v d F = [[]] := by rw [hr, Nat.sub_self]; unfold rcu; rw [if_neg hz]
      simp [g5, g2, rdn h4, hv', e2]
      exact ⟨g2, h4⟩
    have hv' : (v : Int) < n := by omega
    have hsd : n - v = (n - (v + 1)) + 1 := by omega
    have hsv : n - (n - (v + 1) + 1) = v := by omega
    simp [g5, g2, rdn h4, rdb h4, hv']
    refine cl_of (rDepends_spec n v _ F w4 hn hv (hF.kp0 h4.kp)) ?_
    rintro _ w5 ⟨rfl, k5⟩
    have h5 := h4.kp0 hLB k5
    by_cases hd : depB n F v = true
    case neg =>
      have hd' : depB n F v = false := by simpa using hd
      simp (disch := omega) [hd', g5, wrap_i64]
      refine ⟨n - (v + 1), by omega, v + 1, rfl, by omega, by omega, by simp, g2, ?_, h5⟩
      rw [hr, hsd]
      conv => lhs; unfold rcu
      rw [if_neg hz, hsv, if_neg hd]
    have e : rcu n d F = (rcu n (n - (v + 1)) (resF F v false)).map ((v, 0) :: ·) ++ (rcu n (n - (v + 1)) (resF F v true)).map ((v, 1) :: ·) := by
      rw [hr, hsd]
      conv => lhs; unfold rcu
      rw [if_neg hz, hsv, if_pos hd]
    have h5d := h5.drew hLB
    simp [hd, g5, g2, rdb h5]
    refine ⟨?_, ?_⟩ <;>
    · refine cl_of (rRestrict_spec n v false _ F _ hn hv (hF.kp0 h5d.kp)) ?_
      rintro _ w6 ⟨u0, rfl, t0⟩
      have h6 := At.tb hLB h5d t0
      simp [tbV, g5, g2, rdb h6.drop]
      refine cl_of (rRestrict_spec n v true _ F _ hn hv (hF.kp0 h6.kp)) ?_
      rintro _ w7 ⟨u1, rfl, t1⟩
      have h7 := At.tb (Lcl.own.star hLB) h6 t1
      simp [tbV, rowOf, t0.own.o1, t1.own.o1]
      have o0 := t0.own.o1
      have o1 := t1.own.o1
      have h8 := h7.lit (xs := [(⟨u0, o0⟩ : Cell1), ⟨u1, o1⟩]) (enc := tE n) (E := 51) (sz := 2) (cs := #[.int .i64 (n : Nat), u0, .int .i64 (n : Nat), u1]) (m := 2) (Lcl.own.star (Lcl.own.star hLB)) (by simp [tE]) (tE_len n) (by simp [maxLen]) rfl
      obtain ⟨w8, hw8⟩ : ∃ w8, w8 = w7.alloc (.cells #[.int .i64 (n : Nat), u0, .int .i64 (n : Nat), u1] 51) := ⟨_, rfl⟩
      obtain ⟨sl, hsl⟩ : ∃ sl, sl = Value.slice (some ⟨w7.heap.size, 0, none⟩) 2 2 := ⟨_, rfl⟩
      rw [← hw8, ← hsl] at h8
      rw [← hw8]
      have V8 := h8.own.vw
      have T0 : Vw w8 u0 bv (tab n (resF F v false)) := h8.drop.drop.own.vw
      have T1 : Vw w8 u1 bv (tab n (resF F v true)) := h8.drop.own.vw
      have L8 : At w8 [] (Star (LLA (.slice none 0 0) 75 fv (racP n F v 0)) Emp) w8 := LLA.nil .emp (At.start rfl)
      refine range_loop (n := 2) (by omega) (fun x ρ w' => ρ 5 = .int .i64 (v : Nat) ∧ ρ 33 = sl ∧ At w8 [] (Star (LLA (ρ 6) 75 fv (racP n F v x)) Emp) w') (by simp) (by simp)
        ⟨by simp [g5], by simp [hsl], by simpa using L8⟩ (by decide) (fun _ _ _ _ h => by simpa using h) (fun _ _ _ _ h => by simpa using h) ?_ ?_
      · rintro x ρ w9 hx hc hlim ⟨g5, g33, h9⟩
        obtain ⟨ux, hux, Tx⟩ : ∃ ux : Cell1, [(⟨u0, o0⟩ : Cell1), ⟨u1, o1⟩][x]? = some ux ∧ Vw w8 ux.1 bv (tab n (resF F v (x == 1))) := by
          rcases (show x = 0 ∨ x = 1 by omega) with rfl | rfl
          · exact ⟨_, rfl, T0⟩
          · exact ⟨_, rfl, T1⟩
        have V9 := V8.kp0 h9.kp
        have ec := V9.cells (tE_len n) hux
        simp only [tE] at ec
        have hx2 : (x : Int) < ([(⟨u0, o0⟩ : Cell1), ⟨u1, o1⟩].length : Nat) := by simp; omega
        simp (disch := omega) [g33, hc, hlim, V9.idx, ec]
        obtain ⟨gb, hgb⟩ : ∃ gb, gb = w9.heap.size := ⟨_, rfl⟩
        rw [← hgb]
        refine st_tbl (u := ux) (Lcl.ll.star .emp) h9 hgb fun w10 h10 => ?_
        obtain ⟨k1, hk1⟩ : ∃ k1, k1 = v + 1 := ⟨_, rfl⟩
        have ev1 : (v : Int) + 1 = (k1 : Int) := by omega
        have ew1 : IntKind.i64.wrap (k1 : Int) = k1 := wrap_i64 (by omega) (by omega)
        simp [g5, rd_tb h10.obj, hc, hlim, ev1, ew1]
        refine cl_of (ih (n - (v + 1)) (by omega) k1 ux.1 (resF F v (x == 1)) w10 (by omega) (Tx.kp0 h10.kp)) ?_
        rintro s w11 ht
        have h11 := At.join (Lcl.ll.star .emp) h10.drop ht
        obtain ⟨ls, hls⟩ : ∃ ls, ls = rcu n (n - (v + 1)) (resF F v (x == 1)) := ⟨_, rfl⟩
        rw [← hls] at h11
        obtain ⟨ps, hps, h12⟩ := LLA.opn h11
        have hpl : ps.length = ls.length := by rw [← hps]; simp
        have hll := rcu_len n (n - (v + 1)) (resF F v (x == 1))
        rw [← hls] at hll
        have h26 := two_mono (show n - (v + 1) ≤ 6 by omega)
        have hrl := racP_len n F v x hn (by omega)
        simp [h12.own.vw.len]
        refine range_loop (n := ps.length) (by omega) (fun i ρ w' => ρ 5 = .int .i64 (v : Nat) ∧ ρ 33 = sl ∧ ρ 35 = .int .i64 (x : Nat) ∧ ρ 34 = .int .i64 (2 : Nat) ∧ ρ 7 = .int .i64 (x : Nat) ∧ ρ 43 = s ∧
            At w8 [] (Star (OwnA s 75 1 sv1 ps) (Star (VwsA fv ps) (Star (LLA (ρ 6) 75 fv (racP n F v x ++ (ls.take i).map ((v, x) :: ·))) Emp))) w') (by simp) (by simp)
          ⟨by simp [g5], by simp [g33], by simp [hc], by simp [hlim], by simp, by simp, by simpa using h12⟩ (by decide) (fun _ _ _ _ h => by simpa using h) (fun _ _ _ _ h => by simpa using h) ?_ ?_
        · rintro i ρ wb hi hci hli ⟨g5, g33, g35, g34, g7, g43, hb1⟩
          obtain ⟨c, hc1⟩ : ∃ c, ps[i]? = some c := ⟨_, List.getElem?_eq_getElem hi⟩
          have hcm := List.mem_of_getElem? hc1
          have hsv := hb1.own.vw
          have ei : wb.cell? (s.adr.add i) = some c.1.1 := by simpa using hsv.at_ sv1_len hc1 (o := 0) (u := c.1.1) rfl
          have hlc : ls[i]? = some c.2 := by rw [← hps, List.getElem?_map, hc1]; rfl
          have hcv := hb1.drop.vws hcm
          simp (disch := omega) [g43, g5, g7, hci, hli, hsv.idx, ei, rowOf]
          have hX : Lcl (Star (OwnA s 75 1 sv1 ps) (Star (VwsA fv ps) (Star (LLA (ρ 6) 75 fv (racP n F v x ++ (ls.take i).map ((v, x) :: ·))) Emp))) := Lcl.own.star (Lcl.vws.star (Lcl.ll.star .emp))
          have hb2 := hb1.lit (xs := [((v, x) : Fc)]) (enc := fv) (E := 77) (sz := 2) (cs := #[.int .i64 (v : Nat), .int .i64 (x : Nat)]) (m := 1) hX (by simp [fv]) fv_len (by simp [maxLen]) rfl
          have hcv2 := hcv.kp0 ((Kp.refl [] wb).alloc (.cells #[.int .i64 (v : Nat), .int .i64 (x : Nat)] 77))
          have hcl : c.2.length ≤ 100 := by
            have := rcu_cl n (n - (v + 1)) (resF F v (x == 1)) c.2 (by rw [← hls]; exact List.mem_of_getElem? hlc)
            omega
          refine At.appendV (xs := c.2) hX hb2 hcv2 fv_len fv_one sl_75 (by simp; omega) (by simp; unfold maxLen; omega) fun v' wc hb3 => ?_
          have hb4 := hb3.by (Imp.un Imp.r3)
          have c1 := hb3.own.c1
          have o1 := hb3.own.o1
          simp [c1, o1, rowOf]
          have htk : (ls.take i).length ≤ ls.length := by rw [List.length_take]; omega
          refine ll_append (c := (v, x) :: c.2) (Lcl.own.star (Lcl.vws.star .emp)) hb4 (by simp; omega) fun v2 wd hb5 => ?_
          have hb6 := hb5.by Imp.l3
          have e8 : racP n F v x ++ (ls.take (i + 1)).map ((v, x) :: ·) = racP n F v x ++ (ls.take i).map ((v, x) :: ·) ++ [(v, x) :: c.2] := by
            rw [List.take_add_one, hlc]; simp
          simp [g5, g33, g35, g34, g7, g43, hci, hli]
          rw [← List.map_take, e8]
          exact hb6
        rintro ρ wb ⟨g5, g33, g35, g34, g7, g43, hb1⟩
        simp [g5, g33, g35, g34]
        have e9 : racP n F v (x + 1) = racP n F v x ++ (ls.take ps.length).map ((v, x) :: ·) := by rw [racP_succ, ← hls, hpl, List.take_length]
        rw [e9]
        exact hb1.drop.drop
      rintro ρ w9 ⟨g5, g33, h9⟩
      simp
      have hk8 : Kp [] w w8 := h8.kp
      rw [e, ← racP_two]
      exact (At.join .emp ((At.start rfl : At w [] Emp w).kp0 .emp hk8) h9)
  rintro ρ w3 ⟨⟨g2, h3⟩, e⟩
  simp [rowOf]
  have hA0 : At w [] (Star (VwA (.slice none 0 0) fv ([] : List Fc)) (Star (VwsA fv []) Emp)) w3 := (VwsA.nil .emp h3.drop).more (Lcl.vws.star .emp) (Kp.refl _ _) ⟨[], ⟨Vw.nil _ _, by simp, by simp⟩, by simp⟩
  have hA1 := hA0.by (VwsA.add (rfl : oneC (.slice none 0 0) = true))
  have hA2 := hA1.lit (xs := [((⟨.slice none 0 0, rfl⟩, []) : Cell1 × List Fc)]) (enc := sv1) (E := 75) (sz := 1) (cs := #[.slice none 0 0]) (m := 1) (Lcl.vws.star .emp) (by simp [sv1]) sv1_len (by simp [maxLen]) rfl
  rw [e]
  exact LLA.cls (by simp) hA2
end Go.Proofs.YtkojilpjpdpmaaaR
