/-
  A part of the proofs of this seat's statements (BdLM); no conditions beyond those each theorem names.
-/
import Derived.Test.YtkojilpjpdpmaaaRBdXE
set_option maxRecDepth 100000
set_option linter.unusedSimpArgs false
set_option linter.unusedVariables false
namespace Go.Proofs.YtkojilpjpdpmaaaR
open Go Go.W Go.Bd Go.Maps
/-- The state of the law: what has been made, and what can be read in it. -/
def MsS (m n lim : Nat) (ns : Ns) (l : List Pr) (lv : Value) (w w' : World) : Prop := At w [] (Star (MgrA m n lim ns) (DoL lv n l Emp)) w'
theorem num_mean {n f : Nat} {ns : Ns} {F : (Nat → Bool) → Bool} (h : Mean n ns f F) : num n 0 (fun a => eval ns a f) = cntT n F := by
  unfold cntT
  rw [tab_num]
  exact num_congr n 0 h.ev
theorem cntT_le (n : Nat) (F : (Nat → Bool) → Bool) : cntT n F ≤ 2 ^ n := by
  have := List.countP_le_length (p := id) (l := tab n F)
  rw [tab_len] at this
  exact this
theorem cntT_zero {n f : Nat} {ns : Ns} {F : (Nat → Bool) → Bool} (h : Mean n ns f F) (w : Wf n ns) : cntT n F = 0 ↔ f = 0 := by
  rw [h.eq_iff (Mean.zero n ns) w]
  unfold cntT
  rw [List.countP_eq_zero]
  unfold tab
  constructor
  · intro h1
    refine List.map_congr_left fun a ha => ?_
    have := h1 _ (List.mem_map.2 ⟨a, ha, rfl⟩)
    simpa using this
  · intro h1 b hb
    rw [h1] at hb
    obtain ⟨a, _, rfl⟩ := List.mem_map.1 hb
    simp
set_option maxHeartbeats 4000000 in
theorem law_measures {w : World} (x : Nat) (av : Value) (acts : List Act) (hx : x ≤ 255) (hv : Vw w av actE acts) (hok : ∀ x ∈ acts, ActOk x) :
    Calls Try.prog 8 [.int .u8 (x : Nat), av].toArray w fun e w' => ∃ x, e = .returned x ∧ x = .bool true ∧ Kp [] w w' := by
  refine enter Try.func8 mixed low8 (Nat.le_of_ble_eq_true rfl) ?_
  simp only [L8]
  obtain ⟨n, hnn⟩ : ∃ n, n = x % 6 := ⟨_, rfl⟩
  have ew : IntKind.i64.wrap (x : Int) = x := wrap_i64 (by omega) (by omega)
  have en : (x : Int).tmod 6 = (n : Int) := by rw [hnn, Int.tmod_eq_emod_of_nonneg (by omega)]; simp
  by_cases h30 : 30 < acts.length
  · have h30' : (30 : Int) < (acts.length : Nat) := by omega
    simp [hv.len, h30', h30]
    refine cl_of (awake_spec _) ?_
    rintro _ w2 ⟨rfl, k2⟩
    simp
    exact k2
  have h30' : ¬ (30 : Int) < (acts.length : Nat) := by omega
  simp [hv.len, h30', h30]
  refine cl_of (awake_spec _) ?_
  rintro _ w1 ⟨rfl, k1⟩
  simp [ew, en, h30', h30]
  have h1 : At w [] Emp w1 := (At.start rfl).kp0 .emp k1
  refine cl_of (new_spec n 1048576 .emp h1 (by omega) (by omega) (by omega)) ?_
  rintro _ w2 ⟨m, rfl, h2⟩
  simp
  refine cl_of (made_spec m n av acts .emp (by omega) h2 (fun w' k => hv.kp0 k) (by omega) hok) ?_
  rintro _ w3 ⟨lv, rfl, ns, l, hS, hcnt, h3⟩
  have hll := hS.2.2.1
  have hmn := hS.2.2.2.2
  have hwf := hS.1
  have hlim := hS.2.1
  have hn5 : n ≤ 5 := by omega
  have h32 := two_mono hn5
  have hbn : Bnd n 1048576 ns := ⟨by omega, by omega, hlim⟩
  have hLD : Lcl (Star (MgrA m n 1048576 ns) (DoL lv n l Emp)) := Lcl.mgr.star (DoL.lcl .emp)
  simp [h3.drop.own.vw.len]
  refine range_loop (n := l.length) (by omega) (fun k ρ w' => ρ 6 = .pointer (some ⟨m, 0, none⟩) ∧ ρ 5 = .int .i64 (n : Nat) ∧ ρ 50 = lv ∧ MsS m n 1048576 ns l lv w w') (by simp) (by simp)
    ⟨by simp, by simp, by simp, h3⟩ (by decide) (fun _ _ _ _ h => by simpa using h) (fun _ _ _ _ h => by simpa using h) ?_ ?_
  rotate_left
  · rintro ρ w4 ⟨g6, g5, g50, h4⟩
    simp
    exact h4.kp
  rintro k ρ w4 hk hc hlm ⟨g6, g5, g50, h4⟩
  unfold MsS at h4
  obtain ⟨p, hp⟩ : ∃ p, l[k]? = some p := ⟨_, List.getElem?_eq_getElem hk⟩
  have hpl := List.mem_of_getElem? hp
  have hmp := hmn p hpl
  have V4 := h4.drop.own.vw
  have ec := V4.cells (prE_len n) hp
  simp only [prE] at ec
  simp (disch := omega) [g50, hc, hlm, V4.idx, ec]
  obtain ⟨pb, hpb⟩ : ∃ pb, pb = w4.heap.size := ⟨_, rfl⟩
  rw [← hpb]
  refine st_pair (x := p.ref) (u := p.u) hLD h4 hpb fun w5 h5 => ?_
  have h5 := h5.by Imp.sw
  have hB : Lcl (Star (ObjA pb (prO n p.ref p.u.1)) (DoL lv n l Emp)) := Lcl.obj.star (DoL.lcl .emp)
  have hT : (p.u, tab n p.f) ∈ psOf n l := List.mem_map.2 ⟨p, hpl, rfl⟩
  simp [g6, hc, hlm, rd_pr0 h5.drop.obj]
  refine cl_of (Count_spec m n 1048576 ns p.ref hB h5 hwf hbn hmp.ref) ?_
  rintro _ w6 ⟨rfl, h6⟩
  have hct := cntT_le n p.f
  have hmany : cntT n p.f < 1099511627777 := by omega
  have ecv : cntV (num n 0 fun a => eval ns a p.ref) = okV (cntT n p.f) := by
    rw [num_mean hmp]
    simp [cntV]
    intro h
    have : many = 1099511627777 := rfl
    omega
  rw [ecv]
  simp [okV, g6, hc, hlm, rd_pr0 h6.drop.obj]
  refine cl_of (support_spec m n 1048576 ns p.ref hB h6 hwf hbn hmp.ref) ?_
  rintro _ w7 ⟨sv, L, rfl, hL, h7⟩
  obtain rfl := sup_eq hmp hwf hL
  have h7 := h7.by Imp.sw
  have hB7 : Lcl (Star (OwnA sv 3 1 iv (supT n n p.f)) (Star (ObjA pb (prO n p.ref p.u.1)) (DoL lv n l Emp))) := Lcl.own.star hB
  simp [g6, hc, hlm, rd_pr0 h7.drop.drop.obj]
  refine cl_of (size_spec m n 1048576 ns p.ref hB7 h7 hwf hbn hmp.ref) ?_
  rintro _ w8 ⟨Z, rfl, hZ1, hZ2, h8⟩
  have hsz := szR_eq hwf hmp.ref hZ1 hZ2
  have hsm := rch_small hwf hmp.ref hZ1 hZ2
  have hL8 : Lcl (Star (MgrA m n 1048576 ns) (Star (OwnA sv 3 1 iv (supT n n p.f)) (Star (ObjA pb (prO n p.ref p.u.1)) (DoL lv n l Emp)))) := Lcl.mgr.star hB7
  simp [okV, g6, hc, hlm, rd_pr1 h8.drop.drop.obj]
  refine cl_of (rCount_spec n p.u.1 p.f w8 (by omega) (h8.drop.drop.drop.drop.vws hT)) ?_
  rintro _ w9 ⟨rfl, k9⟩
  have h9 := h8.kp0 hL8 k9
  simp [g6, hc, hlm, rd_pr1 h9.drop.drop.obj]
  refine cl_of (rSupport_spec n p.u.1 p.f w9 (by omega) (h9.drop.drop.drop.drop.vws hT)) ?_
  rintro su w10 hsu
  have h10 := h9.kp0 hL8 hsu.kp
  have hsl := supT_len n n p.f
  simp [g6, hc, hlm]
  refine cl_of (ints_spec sv su _ _ h10.drop.own.vw hsu.own.vw (by omega) (by omega)) ?_
  rintro _ w11 ⟨rfl, k11⟩
  have h11 := h10.kp0 hL8 k11
  simp [g6, hc, hlm, rd_pr1 h11.drop.drop.obj]
  refine cl_of (rSize_spec w11 p.u.1 (by omega) hwf hmp p.u.2 (h11.drop.drop.drop.drop.vws hT)) ?_
  rintro _ w12 ⟨rfl, k12⟩
  have h12 := h11.kp0 hL8 k12
  have hzz : ((Z.length : Int) != ((szR n ns p.ref n : Nat) : Int)) = false := by rw [hsz]; simp
  simp [g6, hc, hlm, hzz]
  refine cl_of (nodes_spec (MgrA.rd h12)) ?_
  rintro _ w13 ⟨rfl, k13⟩
  have h13 := h12.kp0 hL8 k13
  have hzn : ¬ (ns.length : Int) < (Z.length : Nat) := by omega
  have r13 := rd_pr0 h13.drop.drop.obj
  simp [natV, g6, hc, hlm, hzn, r13]
  by_cases hz : p.ref = 0
  · have hc0 := (cntT_zero hmp hwf).2 hz
    rw [hz]
    refine cl_of (pick_zero m n 1048576 ns hB7 h13 hbn) ?_
    rintro _ w14 ⟨rfl, h14⟩
    simp [hc0]
    refine cl_of (is_err 3 3 w14) ?_
    rintro _ w15 ⟨rfl, k15⟩
    have h15 := h14.kp0 hL8 k15
    simp [g6, g5, g50, hc, hlm]
    exact h15.by (Imp.un (Imp.dr.trans Imp.dr))
  have hc0 : ¬ cntT n p.f = 0 := fun e => hz ((cntT_zero hmp hwf).1 e)
  have hc0' : (((cntT n p.f : Nat) : Int) == 0) = false := by simp; omega
  refine cl_of (pick_spec m n 1048576 ns p.ref hB7 h13 hwf hbn hmp.ref hz) ?_
  rintro _ w14 ⟨gv, rfl, h14⟩
  have hpo := h14.drop.drop.drop.obj
  unfold prO at hpo
  have htv := h14.drop.drop.drop.drop.drop.vws hT
  have hL14 : Lcl (Star (OwnA gv 4 1 bv ((List.range n).map (pickF n ns p.ref))) (Star (MgrA m n 1048576 ns) (Star (OwnA sv 3 1 iv (supT n n p.f)) (Star (ObjA pb (prO n p.ref p.u.1)) (DoL lv n l Emp))))) := Lcl.own.star hL8
  obtain ⟨r, hr⟩ : ∃ r, r = rk n (pickF n ns p.ref) := ⟨_, rfl⟩
  have hrl : r < 2 ^ n := by rw [hr]; exact rk_lt _ _
  have hrt : p.f (asg n r) = true := by
    rw [hr, (hmp.loc hwf).asg, ← hmp.ev]
    exact pick_true hwf hmp.ref hz
  have hrm : ∀ a, a < r → p.f (asg n a) = false := fun a ha => by
    cases h : p.f (asg n a) with
    | false => rfl
    | true =>
      have := pick_least hwf hmp.ref (a := a) (by omega) (by rw [hmp.ev]; exact h)
      omega
  simp [hc0, hc0', g6, g5, g50, hc, hlm]
  refine loop_inv (fun q ρ w' => ∃ a, q = r - a ∧ a ≤ r ∧ ρ 20 = .int .i64 (a : Nat) ∧ ρ 11 = .pointer (some ⟨pb, 0, none⟩) ∧ ρ 6 = .pointer (some ⟨m, 0, none⟩) ∧ ρ 5 = .int .i64 (n : Nat) ∧ ρ 50 = lv ∧ ρ 52 = .int .i64 (k : Nat) ∧ ρ 51 = .int .i64 (l.length : Nat) ∧ ρ 18 = gv ∧ ρ 19 = .nilIface ∧ w' = w14) r
    ⟨0, by omega, by omega, by simp, by simp, by simp [g6], by simp [g5], by simp [g50], by simp [hc], by simp [hlm], by simp, by simp, rfl⟩ ?_
  rintro q ρ w15 ⟨a, rfl, har, g20, g11, g6, g5, g50, g52, g51, g18, g19, rfl⟩
  by_cases hlt : a < r
  · have hf := hrm a hlt
    simp (disch := omega) [g11, g20, cell_blk hpo, tb_idx htv (show a < 2 ^ n by omega), bv_at htv (show a < 2 ^ n by omega), hf, wrap_i64]
    exact ⟨r - (a + 1), by omega, a + 1, rfl, by omega, by simp, g6, g5, g50, g52, g51, g18, g19⟩
  have hra : a = r := by omega
  subst hra
  simp (disch := omega) [g11, g20, cell_blk hpo, tb_idx htv hrl, bv_at htv hrl, hrt]
  simp [g5]
  refine cl_of (bits_spec n a w15 (by omega)) ?_
  rintro wv w16 hbt
  have h16 := h14.kp0 hL14 hbt.kp
  have V16 := h16.own.vw
  have W16 := hbt.own.vw
  have hbl : (bitL n a).length = n := by simp [bitL]
  have hpl2 : ((List.range n).map (pickF n ns p.ref)).length = n := by simp
  have hbp : (List.range n).map (pickF n ns p.ref) = bitL n a := by
    unfold bitL
    refine List.map_congr_left fun i hi => ?_
    rw [hr]
    exact (asg_rk n _ i (List.mem_range.1 hi)).symm
  rw [hbp] at V16
  simp [g19, g18, g5, V16.len, hbl, W16.len]
  refine range_loop (n := n) (by omega) (fun v ρ w' => ρ 6 = .pointer (some ⟨m, 0, none⟩) ∧ ρ 5 = .int .i64 (n : Nat) ∧ ρ 50 = lv ∧ ρ 52 = .int .i64 (k : Nat) ∧ ρ 51 = .int .i64 (l.length : Nat) ∧ ρ 18 = gv ∧ ρ 21 = wv ∧ Kp [] w16 w') (by simp) (by simp)
    ⟨by simp [g6], by simp [g5], by simp [g50], by simp [g52], by simp [g51], by simp [g18], by simp, Kp.refl _ _⟩ (by decide) (fun _ _ _ _ h => by simpa using h) (fun _ _ _ _ h => by simpa using h) ?_ ?_
  · rintro v ρ w17 hvn hcv hlv ⟨g6, g5, g50, g52, g51, g18, g21, k17⟩
    have V17 := V16.kp0 k17
    have W17 := W16.kp0 k17
    obtain ⟨y, hy⟩ : ∃ y, (bitL n a)[v]? = some y := ⟨_, List.getElem?_eq_getElem (by omega)⟩
    have hvl : (v : Int) < (bitL n a).length := by omega
    simp (disch := omega) [g18, g21, hcv, hlv, V17.idx, W17.idx, bv_cell V17 hy, bv_cell W17 hy, g6, g5, g50, g52, g51]
    exact k17.drew
  rintro ρ w17 ⟨g6, g5, g50, g52, g51, g18, g21, k17⟩
  simp [g6, g5, g50, g52, g51]
  exact (h16.kp0 hL14 k17).by (Imp.dr.trans (Imp.un (Imp.dr.trans Imp.dr)))
end Go.Proofs.YtkojilpjpdpmaaaR
