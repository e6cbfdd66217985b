/-
  A part of the proof of this claim's statement (WhL, WhM): plain theorems; no conditions beyond those each names.
-/
import Derived.Test.YtolkjbmcindhjaaGreatPk23
section
set_option maxRecDepth 100000
set_option linter.unusedSimpArgs false
set_option linter.unusedVariables false
namespace Go.Proofs.YtolkjbmcindhjaaGreat
open Go Go.W Go.Tk Go.Rx Go.Maps
theorem DbsA.imp {T : Nt} {X Y : Asr} (h : Imp X Y) : ∀ (l : List Dx), Imp (DbsA T l X) (DbsA T l Y)
  | [] => h
  | x :: l => Imp.un (DbsA.imp h l)
/-- A partition in memory. -/
abbrev PaA (T : Nt) (pb : Nat) (vv dv tv : Value) (ds : List Dx) (ps : List (Cell1 × List Nat)) (B : Asr) : Asr := Star (ObjA pb (paO vv dv tv)) (Star (OwnA dv 109 1 ptE (ds.map (·.2.2))) (Star (TabA tv 22 3 nE ps) (DbsA T ds (Star (OwnA vv 3 1 nE T.vars) B))))
theorem lcl_pa {T : Nt} {pb : Nat} {vv dv tv : Value} {ds : List Dx} {ps : List (Cell1 × List Nat)} {B : Asr} (hB : Lcl B) : Lcl (PaA T pb vv dv tv ds ps B) := Lcl.obj.star (Lcl.own.star (Lcl.tab.star (Lcl.dbs (Lcl.own.star hB) ds)))
def SaR (T : Nt) (n : Nat) (w : World) (x : Value) (w' : World) : Prop := ∃ pb vv dv tv ds ps lf, x = .tuple #[.pointer (some ⟨pb, 0, none⟩), .nilIface] ∧ SpI T ds (ps.map (·.2)) lf ∧ ds.length = n ∧ At w [] (PaA T pb vv dv tv ds ps Emp) w'
abbrev FrN (T : Nt) (tb : Nat) : Asr := Star (ObjA tb (ntO T)) Emp
theorem lcl_n {T : Nt} {tb : Nat} : Lcl (FrN T tb) := Lcl.obj.star .emp
def SnA (T : Nt) (lv lf : Value) (tb : Nat) (w : World) (k : Nat) (ρ : Env) (w' : World) : Prop :=
  ρ 1 = lv ∧ ρ 2 = .pointer (some ⟨tb, 0, none⟩) ∧ ρ 7 = lf ∧ ρ 35 = T.ov.1 ∧ ∃ l, l.length = T.ops.length ∧ (∀ i, i < k → l.getD i 0 = (T.ops.map (·.cost)).getD i 0) ∧ At w [] (Star (OwnA lf 3 1 nE l) (FrN T tb)) w'
def SnB (T : Nt) (lv lf : Value) (tb pb : Nat) (w : World) (k : Nat) (ρ : Env) (w' : World) : Prop :=
  ρ 1 = lv ∧ ρ 2 = .pointer (some ⟨tb, 0, none⟩) ∧ ρ 7 = lf ∧ ρ 10 = .pointer (some ⟨pb, 0, none⟩) ∧ ρ 53 = lv ∧ ∃ vv dv tv ds ps l, SpI T ds (ps.map (·.2)) l ∧ ds.length = k ∧ At w [] (Star (OwnA lf 3 1 nE l) (PaA T pb vv dv tv ds ps (FrN T tb))) w'
def SnC (T : Nt) (lv lf pv : Value) (tb pb db k n : Nat) (l pt : List Nat) (C : Asr) (w : World) (i : Nat) (ρ : Env) (w' : World) : Prop :=
  ρ 1 = lv ∧ ρ 2 = .pointer (some ⟨tb, 0, none⟩) ∧ ρ 7 = lf ∧ ρ 10 = .pointer (some ⟨pb, 0, none⟩) ∧ ρ 53 = lv ∧ ρ 54 = .int .i64 (n : Nat) ∧ ρ 55 = .int .i64 (k : Nat) ∧ ρ 13 = .pointer (some ⟨db, 0, none⟩) ∧ ρ 15 = pv ∧ At w [] (Star (OwnA lf 3 1 nE (subL l pt i)) (Star (OwnA pv 3 1 nE pt) C)) w'
set_option maxHeartbeats 4000000 in
theorem saNew_spec {w : World} (T : Nt) (lv : Value) (pts : List (List Nat)) (hT : TmT T) (hr : NtR w T) (hl : PsR w T lv pts) (hn : pts.length ≤ 12) :
    Calls Tryz.prog 9 [ntV T, lv].toArray w fun e w' => ∃ x, e = .returned x ∧ SaR T pts.length w x w' := by
  refine enter Tryz.func9 mixed low9 (Nat.le_of_ble_eq_true rfl) ?_
  simp only [L9]
  have hs := hT.sm
  have hol := hT.ol
  have hvl := hT.vl
  obtain ⟨b, hb⟩ : ∃ b, b = w.heap.size := ⟨_, rfl⟩
  have h1 : At w [] (FrN T b) (w.alloc (ntO T)) := by rw [hb]; exact (At.start rfl).alloc _ .emp
  obtain ⟨w1, hw1⟩ : ∃ w1, w1 = w.alloc (ntO T) := ⟨_, rfl⟩
  rw [← hw1] at h1
  have hw1' : w.alloc (.cells #[T.vv.1, T.nv.1, T.gv.1, T.ov.1] 26 (0, 0)) = w1 := by rw [hw1]; rfl
  refine seq_cut (fun ρ w' => ρ 1 = lv ∧ ρ 2 = .pointer (some ⟨b, 0, none⟩) ∧ At w [] (FrN T b) w') ?_ ?_
  · simp [ntV, ← hb, hw1']
    exact h1
  clear h1 hw1 hw1' hb
  rintro ρ w1 ⟨g1, g2, h1⟩
  refine seq_cut (fun ρ w' => ρ 1 = lv ∧ ρ 2 = .pointer (some ⟨b, 0, none⟩) ∧ At w [] (FrN T b) w') ?_ ?_
  · simp [g2, rd_nt h1.obj]
    refine cl_of (tcheck_spec T.raw (NtR.raw.2 (hr.kp h1.kp)) (hs.g.lens hs.nm)) ?_
    rintro _ w2 ⟨rfl, k2⟩
    rw [(chk_good T.raw).2 hs.good]
    simp [chkV]
    exact ⟨g1, g2, h1.kp0 lcl_n k2⟩
  clear h1 g1 g2
  rintro ρ w1 ⟨g1, g2, h1⟩
  refine seq_cut (fun ρ w' => ρ 1 = lv ∧ ρ 2 = .pointer (some ⟨b, 0, none⟩) ∧ At w [] (FrN T b) w') ?_ ?_
  · simp [g1, g2]
    refine cl_of (containsFL_spec T lv pts b h1.obj (hr.kp h1.kp) (by omega) (hl.kp h1.kp) (by omega)) ?_
    rintro _ w2 ⟨rfl, k2⟩
    simp
    exact ⟨g1, g2, h1.kp0 lcl_n k2⟩
  clear h1 g1 g2
  rintro ρ w1 ⟨g1, g2, h1⟩
  obtain ⟨lps, hlm0, hlpl, hlvw, hlat⟩ := hl.ll.vw1
  refine seq_cut (fun ρ w' => ρ 1 = lv ∧ ρ 2 = .pointer (some ⟨b, 0, none⟩) ∧ At w [] (FrN T b) w') ?_ ?_
  · have n1 : ¬ (32 : Int) < (lps.length : Int) := by omega
    have n1' : ¬ 32 < lps.length := by omega
    simp [g1, g2, (hlvw.kp0 h1.kp).len, n1, n1']
    exact h1
  clear h1 g1 g2
  rintro ρ w1 ⟨g1, g2, h1⟩
  have ob1 := h1.obj
  unfold ntO at ob1
  have hr1 := hr.kp h1.kp
  simp (disch := omega) [g2, cell_blk ob1, hr1.ops.len]
  refine gd_mk (by omega) ?_
  have h2 := h1.made (E := 3) (enc := nE) (x := 0) (z := [.int .i64 0]) (n := T.ops.length) lcl_n rfl nE_len (by unfold maxLen; omega)
  obtain ⟨lf, hlf⟩ : ∃ lf, lf = Value.slice (some ⟨w1.heap.size, 0, none⟩) T.ops.length T.ops.length := ⟨_, rfl⟩
  obtain ⟨w2, hw2⟩ : ∃ w2, w2 = w1.alloc (.cells (rowOf [.int .i64 0] T.ops.length).toArray 3) := ⟨_, rfl⟩
  rw [← hlf, ← hw2] at h2
  have ob2 := h2.drop.obj
  unfold ntO at ob2
  have hr2 := hr.kp h2.kp
  simp (disch := omega) [← hlf, ← hw2, g2, cell_blk ob2, hr2.ops.len]
  have hLl : ∀ l, Lcl (Star (OwnA lf 3 1 nE l) (FrN T b)) := fun _ => Lcl.own.star lcl_n
  refine range_loop (n := T.ops.length) (by omega) (SnA T lv lf b w) (by simp) (by simp)
    ⟨by simp [g1], by simp [g2], by simp, by simp, _, by simp, fun i hi => by omega, h2⟩ (by decide) (fun _ _ _ _ h => by simpa [SnA] using h) (fun _ _ _ _ h => by simpa [SnA] using h) ?_ ?_
  · clear h1 h2 ob1 ob2 hr1 hr2 hw2 hlf g1 g2
    rintro k ρ w3 hk hc hlm ⟨g1, g2, g7, g35, l, hll, hlk, h3⟩
    obtain ⟨o, ho⟩ : ∃ o, T.ops[k]? = some o := ⟨_, List.getElem?_eq_getElem hk⟩
    have hr3 := hr.kp h3.kp
    have eco := hr3.ops.cells noE_len ho
    simp only [noE] at eco
    obtain ⟨ob, hob⟩ : ∃ ob, ob = w3.heap.size := ⟨_, rfl⟩
    have hki : (k : Int) < T.ops.length := by omega
    have hkl : (k : Int) < l.length := by omega
    simp (disch := omega) [g35, hc, hlm, hr3.ops.idx, eco, ← hob]
    refine st_oq (o := o.raw) (hLl _) h3 hob fun w4 h4 => ?_
    have oo4 := h4.obj
    unfold oqO No.raw at oo4
    rw [hob] at oo4
    have hO := h4.drop.own
    simp (disch := omega) [g7, hc, cell_blk oo4, hO.idx]
    refine h4.drop.store1 lcl_n nE_len nE_one (k := k) (by omega) (x := o.cost) rfl fun w5 h5 => ?_
    simp [hc, hlm]
    refine ⟨by simp [g1], by simp [g2], by simp [g7], by simp [g35], l.set k o.cost, by simp [hll], fun i hi => ?_, h5⟩
    by_cases e : k = i
    · subst e
      rw [getD_map_cost ho, Go.Rx.getD_set_same (by omega)]
    · rw [Go.Rx.getD_set_ne e]
      exact hlk i (by omega)
  clear h1 h2 ob1 ob2 hr1 hr2 hw2 hlf g1 g2
  rintro ρ w3 ⟨g1, g2, g7, g35, l, hll, hlk, h3⟩
  have hl0 : l = T.ops.map (·.cost) := by
    apply List.ext_getElem
    · simp [hll]
    · intro i h4 h5
      have := hlk i (by omega)
      simpa [List.getD, h4, h5, (by omega : i < T.ops.length)] using this
  subst hl0
  have ob3 := h3.drop.obj
  unfold ntO at ob3
  simp [g2, cell_blk ob3]
  refine cl_of (cloneI_spec T.vv.1 T.vars (hr.kp h3.kp).vars (by omega)) ?_
  rintro vv w4 n4
  have h4 := At.nw (hLl _) h3 n4
  obtain ⟨pb, hpb⟩ : ∃ pb, pb = w4.heap.size := ⟨_, rfl⟩
  have hL4 : Lcl (Star (OwnA vv 3 1 nE T.vars) (Star (OwnA lf 3 1 nE (T.ops.map (·.cost))) (FrN T b))) := Lcl.own.star (hLl _)
  have h5 := h4.alloc (paO vv nlV nlV) hL4
  obtain ⟨w5, hw5⟩ : ∃ w5, w5 = w4.alloc (paO vv nlV nlV) := ⟨_, rfl⟩
  rw [← hpb, ← hw5] at h5
  have hw5' : w4.alloc (.cells #[vv, .slice none 0 0, .slice none 0 0] 108 (0, 0)) = w5 := by rw [hw5]; rfl
  simp [n4.own.c1, ← hpb, hw5', g1, (hlvw.kp0 h5.kp).len]
  have h6 : At w [] (Star (OwnA lf 3 1 nE (T.ops.map (·.cost))) (PaA T pb vv nlV nlV [] [] (FrN T b))) w5 := by
    have t1 := TabA.nil (enc := nE) (Lcl.obj.star hL4) h5
    have t2 := At.nil (E := 109) (sz := 1) (enc := ptE) (Lcl.tab.star (Lcl.obj.star hL4)) t1
    exact t2.by (Imp.fr5.trans (Imp.un (Imp.fr3.trans (Imp.un (Imp.un (Imp.un Imp.rfl))))))
  have hLp : ∀ l vv dv tv ds ps, Lcl (Star (OwnA lf 3 1 nE l) (PaA T pb vv dv tv ds ps (FrN T b))) := fun _ _ _ _ _ _ => Lcl.own.star (lcl_pa lcl_n)
  refine range_loop (n := lps.length) (by omega) (SnB T lv lf b pb w) (by simp) (by simp)
    ⟨by simp [g1], by simp [g2], by simp [g7], by simp, by simp, vv, nlV, nlV, [], [], _, SpI.start, rfl, h6⟩ (by decide) (fun _ _ _ _ h => by simpa [SnB] using h) (fun _ _ _ _ h => by simpa [SnB] using h) ?_ ?_
  rotate_left
  · rintro ρ w6 ⟨g1, g2, g7, g10, g53, vv, dv, tv, ds, ps, l, hI, hdl, h6⟩
    simp [g10]
    exact ⟨pb, vv, dv, tv, ds, ps, l, rfl, hI, by omega, h6.drop.by (Imp.un (Imp.un (Imp.un (DbsA.imp (Imp.un Imp.dr) _))))⟩
  clear h3 h4 h5 h6 ob3 hw5 hw5' hpb g1 g2 g7 g35 n4 hL4 hlk
  rintro k ρ w6 hk hc hlm ⟨g1, g2, g7, g10, g53, vv, dv, tv, ds, ps, l, hI, hdl, h6⟩
  obtain ⟨q, hq⟩ : ∃ q, lps[k]? = some q := ⟨_, List.getElem?_eq_getElem hk⟩
  obtain ⟨hq1, hq2, hq3⟩ := hlat k q hq
  have hpq := hl.pt q.2 (List.mem_of_getElem? hq3)
  have hki : (k : Int) < lps.length := by omega
  have hqc : w6.cell? (lv.adr.add k) = some q.1.1 := h6.kp.cell hq1 (by simp)
  have ob6 := ((h6.drop.drop.drop.drop).by (DbsA.drop ds)).drop.obj
  simp (disch := omega) [g53, g2, g7, hc, hlm, hlvw.idx, hqc, rd_nt ob6]
  refine cl_of (build_spec T q.1.1 lf q.2 l hT (hr.kp h6.kp) (hq2.kp0 h6.kp) hpq h6.own.vw hI.len (hI.max hs.g)) ?_
  rintro _ w7 ⟨db, d, rfl, hW, h7⟩
  have h7 := At.join (hLp _ _ _ _ _ _) h6 h7
  simp
  refine cl_of (saturated_spec db (szS T.vars q.2) T.ops.length T.vars q.2 d (DbA.rd h7) hW.prj.sy hW.val.le (by omega) (by have := hW.len; omega)) ?_
  rintro pv w8 n8
  obtain ⟨pt, hpt⟩ : ∃ pt, pt = satL d.V T.ops.length d.es := ⟨_, rfl⟩
  have hptl : pt.length = T.ops.length := by rw [hpt]; exact satL_len
  obtain ⟨hI2, hple⟩ := hI.next (b := db) hT hpq hW
  rw [← hpt] at n8 hI2 hple
  have hll := hI.len
  have h8 := (At.nw (lcl_db.star (hLp _ _ _ _ _ _)) h7 n8).by Imp.fr3
  obtain ⟨C, hC⟩ : ∃ C, C = Star (DbA T q.2 d db) (PaA T pb vv dv tv ds ps (FrN T b)) := ⟨_, rfl⟩
  have hCl : Lcl C := by rw [hC]; exact lcl_db.star (lcl_pa lcl_n)
  rw [← hC] at h8
  have hO8 := h8.own
  simp (disch := omega) [g7, hO8.len]
  refine range_loop (n := l.length) (by omega) (SnC T lv lf pv b pb db k lps.length l pt C w) (by simp) (by simp)
    ⟨by simp [g1], by simp [g2], by simp [g7], by simp [g10], by simp [g53], by simp [hlm], by simp [hc], by simp, by simp, by rw [subL_zero]; exact h8⟩ (by decide) (fun _ _ _ _ h => by simpa [SnC] using h) (fun _ _ _ _ h => by simpa [SnC] using h) ?_ ?_
  · clear h6 h7 h8 hO8 n8 g1 g2 g7 g10 g53 hc hlm
    rintro i ρ w9 hi hci hli ⟨g1, g2, g7, g10, g53, g54, g55, g13, g15, h9⟩
    have hO9 := h9.own
    have hP9 := h9.drop.own
    obtain ⟨y, hy⟩ : ∃ y, pt[i]? = some y := ⟨_, List.getElem?_eq_getElem (by omega)⟩
    have hyd : pt.getD i 0 = y := by simp [List.getD, hy]
    have hsa := subL_at (lf := l) (pt := pt) hi
    have hle := hple i
    have hmx : l.getD i 0 ≤ 1048576 := hI.max hs.g _ (mem_getD hi)
    obtain ⟨x, hx⟩ : ∃ x, x = l.getD i 0 := ⟨_, rfl⟩
    rw [← hx] at hsa hle hmx
    rw [hyd] at hle
    have hxy : (x : Int) - (y : Int) = ((x - y : Nat) : Int) := by omega
    have hii : (i : Int) < (subL l pt i).length := by rw [subL_len]; omega
    have hip : (i : Int) < pt.length := by omega
    simp (disch := omega) [g7, g15, hci, hli, hO9.idx, own_cell hO9 hsa, hP9.idx, own_cell hP9 hy, hxy, wrap_i64]
    refine (h9.drew (Lcl.own.star (Lcl.own.star hCl))).store1 (Lcl.own.star hCl) nE_len nE_one (k := i) (by rw [subL_len]; exact hi) (x := x - y) rfl fun wA hA => ?_
    have hsx := subL_succ (lf := l) (pt := pt) hi
    rw [← hx, hyd] at hsx
    rw [hsx] at hA
    simp [hci, hli]
    exact ⟨by simp [g1], by simp [g2], by simp [g7], by simp [g10], by simp [g53], by simp [g54], by simp [g55], by simp [g13], by simp [g15], hA⟩
  clear h6 h7 h8 hO8 n8 g1 g2 g7 g10 g53 hc hlm
  rintro ρ w9 ⟨g1, g2, g7, g10, g53, g54, g55, g13, g15, h9⟩
  have h9 : At w [] (Star (OwnA lf 3 1 nE (subL l pt l.length)) (Star (OwnA pv 3 1 nE pt) (Star (DbA T q.2 d db) (PaA T pb vv dv tv ds ps (FrN T b))))) w9 := by rw [← hC]; exact h9
  have op9 := h9.drop.drop.drop.obj
  unfold paO at op9
  simp (disch := omega) [g10, g13, g15, cell_blk op9, h9.drop.own.c1]
  have hXl : Lcl (DbsA T ds (Star (OwnA vv 3 1 nE T.vars) (FrN T b))) := Lcl.dbs (Lcl.own.star lcl_n) ds
  have hTl : Lcl (Star (TabA tv 22 3 nE ps) (DbsA T ds (Star (OwnA vv 3 1 nE T.vars) (FrN T b)))) := Lcl.tab.star hXl
  have hRl : Lcl (Star (OwnA lf 3 1 nE (subL l pt l.length)) (Star (OwnA pv 3 1 nE pt) (Star (DbA T q.2 d db) (Star (ObjA pb (paO vv dv tv)) (Star (OwnA dv 109 1 ptE (ds.map (·.2.2))) (Star (TabA tv 22 3 nE ps) (DbsA T ds (Star (OwnA vv 3 1 nE T.vars) (FrN T b))))))))) := Lcl.own.star (Lcl.own.star (lcl_db.star (Lcl.obj.star (Lcl.own.star hTl))))
  have hRn : Lcl (Star (OwnA lf 3 1 nE (subL l pt l.length)) (Star (OwnA pv 3 1 nE pt) (Star (DbA T q.2 d db) (Star (ObjA pb (paO vv dv tv)) (Star (TabA tv 22 3 nE ps) (DbsA T ds (Star (OwnA vv 3 1 nE T.vars) (FrN T b)))))))) := Lcl.own.star (Lcl.own.star (lcl_db.star (Lcl.obj.star hTl)))
  have hd : At w [] (Star (OwnA lf 3 1 nE (subL l pt l.length)) (Star (OwnA pv 3 1 nE pt) (Star (DbA T q.2 d db) (Star (ObjA pb (paO vv dv tv)) (Star (OwnA dv 109 1 ptE (ds.map (·.2.2))) (Star (TabA tv 22 3 nE ps) (DbsA T ds (Star (OwnA vv 3 1 nE T.vars) (FrN T b))))))))) w9.drew := h9.drew hRl
  have hdl0 := hdl
  have hdl : (ds.map (·.2.2)).length ≤ 1000000 := by simp; omega
  have hpsl : ps.length = ds.length := by have := hI.pl; simpa using this
  have hq1' : q.2 = q.2 := rfl
  have szA : (w9.drew.alloc (.cells #[.pointer (some ⟨db, 0, none⟩)] 109)).heap.size = w9.heap.size + 1 := by simp
  have szB : (w9.drew.alloc (.cells #[pv] 22)).heap.size = w9.heap.size + 1 := by simp
  have nxt : ∀ (dv' tv' : Value) (ho : oneC pv = true) (W : World), At w [] (Star (ObjA pb (paO vv dv' tv')) (Star (TabA tv' 22 3 nE (ps ++ [(⟨pv, ho⟩, pt)])) (Star (OwnA dv' 109 1 ptE (ds.map (·.2.2) ++ [db])) (Star (OwnA lf 3 1 nE (subL l pt l.length)) (Star (DbA T q.2 d db) (DbsA T ds (Star (OwnA vv 3 1 nE T.vars) (FrN T b)))))))) W →
      ∃ vv dv tv ds ps l, SpI T ds (ps.map (·.2)) l ∧ ds.length = k + 1 ∧ At w [] (Star (OwnA lf 3 1 nE l) (PaA T pb vv dv tv ds ps (FrN T b))) W := fun dv' tv' ho W hW' => by
    refine ⟨vv, dv', tv', ds ++ [(q.2, d, db)], ps ++ [(⟨pv, ho⟩, pt)], subL l pt l.length, ?_, by simp [hdl0], ?_⟩
    · rw [List.map_append, hll]
      exact hI2
    · unfold PaA
      rw [List.map_append]
      exact hW'.by (Imp.fr4.trans (Imp.un (Imp.un (Imp.sw.trans (Imp.un (Imp.un (DbsA.snoc (q.2, d, db) ds)))))))
  refine ⟨?_, ?_, ?_, ?_, ?_, ?_⟩
  · have hA0 : At w [] (Star (ObjA w9.heap.size (.cells #[.pointer (some ⟨db, 0, none⟩)] 109)) (Star (OwnA lf 3 1 nE (subL l pt l.length)) (Star (OwnA pv 3 1 nE pt) (Star (DbA T q.2 d db) (Star (ObjA pb (paO vv dv tv)) (Star (OwnA dv 109 1 ptE (ds.map (·.2.2))) (Star (TabA tv 22 3 nE ps) (DbsA T ds (Star (OwnA vv 3 1 nE T.vars) (FrN T b)))))))))) (w9.drew.alloc (.cells #[.pointer (some ⟨db, 0, none⟩)] 109)) := hd.alloc (.cells #[.pointer (some ⟨db, 0, none⟩)] 109) hRl
    refine db_append (a := w9.heap.size) (l := ds.map (·.2.2)) (x := db) (B := (Star (ObjA w9.heap.size (.cells #[.pointer (some ⟨db, 0, none⟩)] 109)) (Star (OwnA lf 3 1 nE (subL l pt l.length)) (Star (OwnA pv 3 1 nE pt) (Star (DbA T q.2 d db) (Star (ObjA pb (paO vv dv tv)) (Star (TabA tv 22 3 nE ps) (DbsA T ds (Star (OwnA vv 3 1 nE T.vars) (FrN T b)))))))))) (Lcl.obj.star hRn) (hA0.by Imp.fr6) hdl hA0.obj fun dv' wA hA => ?_
    have oA := (hA.by Imp.fr6).obj
    unfold paO at oA
    obtain ⟨sA, hsA⟩ : ∃ sA, sA = wA.heap.size := ⟨_, rfl⟩
    have hC := (hA.alloc (.cells #[pv] 22) (Lcl.own.star (Lcl.obj.star hRn))).by Imp.sw
    rw [← hsA] at hC
    obtain ⟨wC, hwC⟩ : ∃ wC, wC = wA.alloc (.cells #[pv] 22) := ⟨_, rfl⟩
    rw [← hwC] at hC
    have hwC' : wA.alloc (.cells #[pv] 22 (0, 0)) = wC := by rw [hwC]
    simp [g10, g15, cell_blk oA, h9.drop.own.c1, ← hsA, hwC']
    have oiC := (hC.by Imp.fr7).obj
    unfold paO at oiC
    have ocC := hC.drop.obj
    refine tab_append2 (a := sA) (tv := tv) (ps := ps) (u := pv) (c := pt) (B := (Star (OwnA dv' 109 1 ptE (ds.map (·.2.2) ++ [db])) (Star (ObjA sA (.cells #[pv] 22)) (Star (ObjA w9.heap.size (.cells #[.pointer (some ⟨db, 0, none⟩)] 109)) (Star (OwnA lf 3 1 nE (subL l pt l.length)) (Star (DbA T q.2 d db) (Star (ObjA pb (paO vv dv tv)) (DbsA T ds (Star (OwnA vv 3 1 nE T.vars) (FrN T b)))))))))) (Lcl.own.star (Lcl.obj.star (Lcl.obj.star (Lcl.own.star (lcl_db.star (Lcl.obj.star hXl)))))) (hC.by (Imp.fr8.trans Imp.fr6)) (by omega) ocC fun ho tv' wD hD => ?_
    have hD := hD.by (Imp.fr7.trans (Imp.un (Imp.un (Imp.un (Imp.dr.trans (Imp.dr))))))
    have oD := hD.obj
    unfold paO at oD
    have o1 := hD.drop.drop.own.o1
    have c1 := hD.drop.drop.own.c1
    have hTD := TabA.own hD.drop
    have o2 := hTD.o1
    have c2 := hTD.c1
    simp [g10, c1]
    refine (show At w [] (Star (ObjA pb (paO vv dv tv)) _) wD from hD).st (Lcl.tab.star (Lcl.own.star (Lcl.own.star (lcl_db.star hXl)))) (by simp) (by simp [o1]) fun wE hE => ?_
    have e1 : wrAt #[vv, dv, tv] 1 [dv'] = #[vv, dv', tv] := by simp
    rw [e1] at hE
    simp [g10, c2]
    refine hE.st (Lcl.tab.star (Lcl.own.star (Lcl.own.star (lcl_db.star hXl)))) (by simp) (by simp [o2]) fun wF hF => ?_
    have e2 : wrAt #[vv, dv', tv] 2 [tv'] = #[vv, dv', tv'] := by simp
    rw [e2] at hF
    simp [g54, g55]
    exact ⟨by simp [g1], by simp [g2], by simp [g7], by simp [g10], by simp [g53], nxt dv' tv' ho wF hF⟩
  · have hA0 := (hd.alloc (.cells #[.pointer (some ⟨db, 0, none⟩)] 109) hRl).alloc (.cells #[pv] 22) (Lcl.obj.star hRl)
    rw [szA] at hA0
    have hA0 : At w [] (Star (ObjA (w9.heap.size + 1) (.cells #[pv] 22)) (Star (ObjA w9.heap.size (.cells #[.pointer (some ⟨db, 0, none⟩)] 109)) (Star (OwnA lf 3 1 nE (subL l pt l.length)) (Star (OwnA pv 3 1 nE pt) (Star (DbA T q.2 d db) (Star (ObjA pb (paO vv dv tv)) (Star (OwnA dv 109 1 ptE (ds.map (·.2.2))) (Star (TabA tv 22 3 nE ps) (DbsA T ds (Star (OwnA vv 3 1 nE T.vars) (FrN T b))))))))))) ((w9.drew.alloc (.cells #[.pointer (some ⟨db, 0, none⟩)] 109)).alloc (.cells #[pv] 22)) := hA0
    refine db_append (a := w9.heap.size) (l := ds.map (·.2.2)) (x := db) (B := (Star (ObjA (w9.heap.size + 1) (.cells #[pv] 22)) (Star (ObjA w9.heap.size (.cells #[.pointer (some ⟨db, 0, none⟩)] 109)) (Star (OwnA lf 3 1 nE (subL l pt l.length)) (Star (OwnA pv 3 1 nE pt) (Star (DbA T q.2 d db) (Star (ObjA pb (paO vv dv tv)) (Star (TabA tv 22 3 nE ps) (DbsA T ds (Star (OwnA vv 3 1 nE T.vars) (FrN T b))))))))))) (Lcl.obj.star (Lcl.obj.star hRn)) (hA0.by Imp.fr7) hdl hA0.drop.obj fun dv' wA hC => ?_
    have oA := (hC.by Imp.fr7).obj
    unfold paO at oA
    simp [g10, g15, cell_blk oA]
    have oiC := (hC.by Imp.fr7).obj
    unfold paO at oiC
    have ocC := hC.drop.obj
    refine tab_append2 (a := w9.heap.size + 1) (tv := tv) (ps := ps) (u := pv) (c := pt) (B := (Star (OwnA dv' 109 1 ptE (ds.map (·.2.2) ++ [db])) (Star (ObjA (w9.heap.size + 1) (.cells #[pv] 22)) (Star (ObjA w9.heap.size (.cells #[.pointer (some ⟨db, 0, none⟩)] 109)) (Star (OwnA lf 3 1 nE (subL l pt l.length)) (Star (DbA T q.2 d db) (Star (ObjA pb (paO vv dv tv)) (DbsA T ds (Star (OwnA vv 3 1 nE T.vars) (FrN T b)))))))))) (Lcl.own.star (Lcl.obj.star (Lcl.obj.star (Lcl.own.star (lcl_db.star (Lcl.obj.star hXl)))))) (hC.by (Imp.fr8.trans Imp.fr6)) (by omega) ocC fun ho tv' wD hD => ?_
    have hD := hD.by (Imp.fr7.trans (Imp.un (Imp.un (Imp.un (Imp.dr.trans (Imp.dr))))))
    have oD := hD.obj
    unfold paO at oD
    have o1 := hD.drop.drop.own.o1
    have c1 := hD.drop.drop.own.c1
    have hTD := TabA.own hD.drop
    have o2 := hTD.o1
    have c2 := hTD.c1
    simp [g10, c1]
    refine (show At w [] (Star (ObjA pb (paO vv dv tv)) _) wD from hD).st (Lcl.tab.star (Lcl.own.star (Lcl.own.star (lcl_db.star hXl)))) (by simp) (by simp [o1]) fun wE hE => ?_
    have e1 : wrAt #[vv, dv, tv] 1 [dv'] = #[vv, dv', tv] := by simp
    rw [e1] at hE
    simp [g10, c2]
    refine hE.st (Lcl.tab.star (Lcl.own.star (Lcl.own.star (lcl_db.star hXl)))) (by simp) (by simp [o2]) fun wF hF => ?_
    have e2 : wrAt #[vv, dv', tv] 2 [tv'] = #[vv, dv', tv'] := by simp
    rw [e2] at hF
    simp [g54, g55]
    exact ⟨by simp [g1], by simp [g2], by simp [g7], by simp [g10], by simp [g53], nxt dv' tv' ho wF hF⟩
  · have hA0 := (hd.alloc (.cells #[pv] 22) hRl).alloc (.cells #[.pointer (some ⟨db, 0, none⟩)] 109) (Lcl.obj.star hRl)
    rw [szB] at hA0
    have hA0 : At w [] (Star (ObjA (w9.heap.size + 1) (.cells #[.pointer (some ⟨db, 0, none⟩)] 109)) (Star (ObjA w9.heap.size (.cells #[pv] 22)) (Star (OwnA lf 3 1 nE (subL l pt l.length)) (Star (OwnA pv 3 1 nE pt) (Star (DbA T q.2 d db) (Star (ObjA pb (paO vv dv tv)) (Star (OwnA dv 109 1 ptE (ds.map (·.2.2))) (Star (TabA tv 22 3 nE ps) (DbsA T ds (Star (OwnA vv 3 1 nE T.vars) (FrN T b))))))))))) ((w9.drew.alloc (.cells #[pv] 22)).alloc (.cells #[.pointer (some ⟨db, 0, none⟩)] 109)) := hA0
    refine db_append (a := w9.heap.size + 1) (l := ds.map (·.2.2)) (x := db) (B := (Star (ObjA w9.heap.size (.cells #[pv] 22)) (Star (ObjA (w9.heap.size + 1) (.cells #[.pointer (some ⟨db, 0, none⟩)] 109)) (Star (OwnA lf 3 1 nE (subL l pt l.length)) (Star (OwnA pv 3 1 nE pt) (Star (DbA T q.2 d db) (Star (ObjA pb (paO vv dv tv)) (Star (TabA tv 22 3 nE ps) (DbsA T ds (Star (OwnA vv 3 1 nE T.vars) (FrN T b))))))))))) (Lcl.obj.star (Lcl.obj.star hRn)) (hA0.by (Imp.fr7.trans (Imp.un Imp.sw))) hdl hA0.obj fun dv' wA hC => ?_
    have oA := (hC.by Imp.fr7).obj
    unfold paO at oA
    simp [g10, g15, cell_blk oA]
    have oiC := (hC.by Imp.fr7).obj
    unfold paO at oiC
    have ocC := hC.drop.obj
    refine tab_append2 (a := w9.heap.size) (tv := tv) (ps := ps) (u := pv) (c := pt) (B := (Star (OwnA dv' 109 1 ptE (ds.map (·.2.2) ++ [db])) (Star (ObjA w9.heap.size (.cells #[pv] 22)) (Star (ObjA (w9.heap.size + 1) (.cells #[.pointer (some ⟨db, 0, none⟩)] 109)) (Star (OwnA lf 3 1 nE (subL l pt l.length)) (Star (DbA T q.2 d db) (Star (ObjA pb (paO vv dv tv)) (DbsA T ds (Star (OwnA vv 3 1 nE T.vars) (FrN T b)))))))))) (Lcl.own.star (Lcl.obj.star (Lcl.obj.star (Lcl.own.star (lcl_db.star (Lcl.obj.star hXl)))))) (hC.by (Imp.fr8.trans Imp.fr6)) (by omega) ocC fun ho tv' wD hD => ?_
    have hD := hD.by (Imp.fr7.trans (Imp.un (Imp.un (Imp.un (Imp.dr.trans (Imp.dr))))))
    have oD := hD.obj
    unfold paO at oD
    have o1 := hD.drop.drop.own.o1
    have c1 := hD.drop.drop.own.c1
    have hTD := TabA.own hD.drop
    have o2 := hTD.o1
    have c2 := hTD.c1
    simp [g10, c1]
    refine (show At w [] (Star (ObjA pb (paO vv dv tv)) _) wD from hD).st (Lcl.tab.star (Lcl.own.star (Lcl.own.star (lcl_db.star hXl)))) (by simp) (by simp [o1]) fun wE hE => ?_
    have e1 : wrAt #[vv, dv, tv] 1 [dv'] = #[vv, dv', tv] := by simp
    rw [e1] at hE
    simp [g10, c2]
    refine hE.st (Lcl.tab.star (Lcl.own.star (Lcl.own.star (lcl_db.star hXl)))) (by simp) (by simp [o2]) fun wF hF => ?_
    have e2 : wrAt #[vv, dv', tv] 2 [tv'] = #[vv, dv', tv'] := by simp
    rw [e2] at hF
    simp [g54, g55]
    exact ⟨by simp [g1], by simp [g2], by simp [g7], by simp [g10], by simp [g53], nxt dv' tv' ho wF hF⟩
  · have hA0 : At w [] (Star (ObjA w9.heap.size (.cells #[.pointer (some ⟨db, 0, none⟩)] 109)) (Star (OwnA lf 3 1 nE (subL l pt l.length)) (Star (OwnA pv 3 1 nE pt) (Star (DbA T q.2 d db) (Star (ObjA pb (paO vv dv tv)) (Star (OwnA dv 109 1 ptE (ds.map (·.2.2))) (Star (TabA tv 22 3 nE ps) (DbsA T ds (Star (OwnA vv 3 1 nE T.vars) (FrN T b)))))))))) (w9.drew.alloc (.cells #[.pointer (some ⟨db, 0, none⟩)] 109)) := hd.alloc (.cells #[.pointer (some ⟨db, 0, none⟩)] 109) hRl
    refine db_append (a := w9.heap.size) (l := ds.map (·.2.2)) (x := db) (B := (Star (ObjA w9.heap.size (.cells #[.pointer (some ⟨db, 0, none⟩)] 109)) (Star (OwnA lf 3 1 nE (subL l pt l.length)) (Star (OwnA pv 3 1 nE pt) (Star (DbA T q.2 d db) (Star (ObjA pb (paO vv dv tv)) (Star (TabA tv 22 3 nE ps) (DbsA T ds (Star (OwnA vv 3 1 nE T.vars) (FrN T b)))))))))) (Lcl.obj.star hRn) (hA0.by Imp.fr6) hdl hA0.obj fun dv' wA hA => ?_
    have oA := (hA.by Imp.fr6).obj
    unfold paO at oA
    obtain ⟨sA, hsA⟩ : ∃ sA, sA = wA.heap.size := ⟨_, rfl⟩
    have hC := (hA.alloc (.cells #[pv] 22) (Lcl.own.star (Lcl.obj.star hRn))).by Imp.sw
    rw [← hsA] at hC
    obtain ⟨wC, hwC⟩ : ∃ wC, wC = wA.alloc (.cells #[pv] 22) := ⟨_, rfl⟩
    rw [← hwC] at hC
    have hwC' : wA.alloc (.cells #[pv] 22 (0, 0)) = wC := by rw [hwC]
    simp [g10, g15, cell_blk oA, h9.drop.own.c1, ← hsA, hwC']
    have oiC := (hC.by Imp.fr7).obj
    unfold paO at oiC
    have ocC := hC.drop.obj
    refine tab_append2 (a := sA) (tv := tv) (ps := ps) (u := pv) (c := pt) (B := (Star (OwnA dv' 109 1 ptE (ds.map (·.2.2) ++ [db])) (Star (ObjA sA (.cells #[pv] 22)) (Star (ObjA w9.heap.size (.cells #[.pointer (some ⟨db, 0, none⟩)] 109)) (Star (OwnA lf 3 1 nE (subL l pt l.length)) (Star (DbA T q.2 d db) (Star (ObjA pb (paO vv dv tv)) (DbsA T ds (Star (OwnA vv 3 1 nE T.vars) (FrN T b)))))))))) (Lcl.own.star (Lcl.obj.star (Lcl.obj.star (Lcl.own.star (lcl_db.star (Lcl.obj.star hXl)))))) (hC.by (Imp.fr8.trans Imp.fr6)) (by omega) ocC fun ho tv' wD hD => ?_
    have hD := hD.by (Imp.fr7.trans (Imp.un (Imp.un (Imp.un (Imp.dr.trans (Imp.dr))))))
    have oD := hD.obj
    unfold paO at oD
    have o1 := hD.drop.drop.own.o1
    have c1 := hD.drop.drop.own.c1
    have hTD := TabA.own hD.drop
    have o2 := hTD.o1
    have c2 := hTD.c1
    simp [g10, c1]
    refine (show At w [] (Star (ObjA pb (paO vv dv tv)) _) wD from hD).st (Lcl.tab.star (Lcl.own.star (Lcl.own.star (lcl_db.star hXl)))) (by simp) (by simp [o1]) fun wE hE => ?_
    have e1 : wrAt #[vv, dv, tv] 1 [dv'] = #[vv, dv', tv] := by simp
    rw [e1] at hE
    simp [g10, c2]
    refine hE.st (Lcl.tab.star (Lcl.own.star (Lcl.own.star (lcl_db.star hXl)))) (by simp) (by simp [o2]) fun wF hF => ?_
    have e2 : wrAt #[vv, dv', tv] 2 [tv'] = #[vv, dv', tv'] := by simp
    rw [e2] at hF
    simp [g54, g55]
    exact ⟨by simp [g1], by simp [g2], by simp [g7], by simp [g10], by simp [g53], nxt dv' tv' ho wF hF⟩
  · have hA0 := (hd.alloc (.cells #[.pointer (some ⟨db, 0, none⟩)] 109) hRl).alloc (.cells #[pv] 22) (Lcl.obj.star hRl)
    rw [szA] at hA0
    have hA0 : At w [] (Star (ObjA (w9.heap.size + 1) (.cells #[pv] 22)) (Star (ObjA w9.heap.size (.cells #[.pointer (some ⟨db, 0, none⟩)] 109)) (Star (OwnA lf 3 1 nE (subL l pt l.length)) (Star (OwnA pv 3 1 nE pt) (Star (DbA T q.2 d db) (Star (ObjA pb (paO vv dv tv)) (Star (OwnA dv 109 1 ptE (ds.map (·.2.2))) (Star (TabA tv 22 3 nE ps) (DbsA T ds (Star (OwnA vv 3 1 nE T.vars) (FrN T b))))))))))) ((w9.drew.alloc (.cells #[.pointer (some ⟨db, 0, none⟩)] 109)).alloc (.cells #[pv] 22)) := hA0
    refine db_append (a := w9.heap.size) (l := ds.map (·.2.2)) (x := db) (B := (Star (ObjA (w9.heap.size + 1) (.cells #[pv] 22)) (Star (ObjA w9.heap.size (.cells #[.pointer (some ⟨db, 0, none⟩)] 109)) (Star (OwnA lf 3 1 nE (subL l pt l.length)) (Star (OwnA pv 3 1 nE pt) (Star (DbA T q.2 d db) (Star (ObjA pb (paO vv dv tv)) (Star (TabA tv 22 3 nE ps) (DbsA T ds (Star (OwnA vv 3 1 nE T.vars) (FrN T b))))))))))) (Lcl.obj.star (Lcl.obj.star hRn)) (hA0.by Imp.fr7) hdl hA0.drop.obj fun dv' wA hC => ?_
    have oA := (hC.by Imp.fr7).obj
    unfold paO at oA
    simp [g10, g15, cell_blk oA]
    have oiC := (hC.by Imp.fr7).obj
    unfold paO at oiC
    have ocC := hC.drop.obj
    refine tab_append2 (a := w9.heap.size + 1) (tv := tv) (ps := ps) (u := pv) (c := pt) (B := (Star (OwnA dv' 109 1 ptE (ds.map (·.2.2) ++ [db])) (Star (ObjA (w9.heap.size + 1) (.cells #[pv] 22)) (Star (ObjA w9.heap.size (.cells #[.pointer (some ⟨db, 0, none⟩)] 109)) (Star (OwnA lf 3 1 nE (subL l pt l.length)) (Star (DbA T q.2 d db) (Star (ObjA pb (paO vv dv tv)) (DbsA T ds (Star (OwnA vv 3 1 nE T.vars) (FrN T b)))))))))) (Lcl.own.star (Lcl.obj.star (Lcl.obj.star (Lcl.own.star (lcl_db.star (Lcl.obj.star hXl)))))) (hC.by (Imp.fr8.trans Imp.fr6)) (by omega) ocC fun ho tv' wD hD => ?_
    have hD := hD.by (Imp.fr7.trans (Imp.un (Imp.un (Imp.un (Imp.dr.trans (Imp.dr))))))
    have oD := hD.obj
    unfold paO at oD
    have o1 := hD.drop.drop.own.o1
    have c1 := hD.drop.drop.own.c1
    have hTD := TabA.own hD.drop
    have o2 := hTD.o1
    have c2 := hTD.c1
    simp [g10, c1]
    refine (show At w [] (Star (ObjA pb (paO vv dv tv)) _) wD from hD).st (Lcl.tab.star (Lcl.own.star (Lcl.own.star (lcl_db.star hXl)))) (by simp) (by simp [o1]) fun wE hE => ?_
    have e1 : wrAt #[vv, dv, tv] 1 [dv'] = #[vv, dv', tv] := by simp
    rw [e1] at hE
    simp [g10, c2]
    refine hE.st (Lcl.tab.star (Lcl.own.star (Lcl.own.star (lcl_db.star hXl)))) (by simp) (by simp [o2]) fun wF hF => ?_
    have e2 : wrAt #[vv, dv', tv] 2 [tv'] = #[vv, dv', tv'] := by simp
    rw [e2] at hF
    simp [g54, g55]
    exact ⟨by simp [g1], by simp [g2], by simp [g7], by simp [g10], by simp [g53], nxt dv' tv' ho wF hF⟩
  · have hA0 := (hd.alloc (.cells #[pv] 22) hRl).alloc (.cells #[.pointer (some ⟨db, 0, none⟩)] 109) (Lcl.obj.star hRl)
    rw [szB] at hA0
    have hA0 : At w [] (Star (ObjA (w9.heap.size + 1) (.cells #[.pointer (some ⟨db, 0, none⟩)] 109)) (Star (ObjA w9.heap.size (.cells #[pv] 22)) (Star (OwnA lf 3 1 nE (subL l pt l.length)) (Star (OwnA pv 3 1 nE pt) (Star (DbA T q.2 d db) (Star (ObjA pb (paO vv dv tv)) (Star (OwnA dv 109 1 ptE (ds.map (·.2.2))) (Star (TabA tv 22 3 nE ps) (DbsA T ds (Star (OwnA vv 3 1 nE T.vars) (FrN T b))))))))))) ((w9.drew.alloc (.cells #[pv] 22)).alloc (.cells #[.pointer (some ⟨db, 0, none⟩)] 109)) := hA0
    refine db_append (a := w9.heap.size + 1) (l := ds.map (·.2.2)) (x := db) (B := (Star (ObjA w9.heap.size (.cells #[pv] 22)) (Star (ObjA (w9.heap.size + 1) (.cells #[.pointer (some ⟨db, 0, none⟩)] 109)) (Star (OwnA lf 3 1 nE (subL l pt l.length)) (Star (OwnA pv 3 1 nE pt) (Star (DbA T q.2 d db) (Star (ObjA pb (paO vv dv tv)) (Star (TabA tv 22 3 nE ps) (DbsA T ds (Star (OwnA vv 3 1 nE T.vars) (FrN T b))))))))))) (Lcl.obj.star (Lcl.obj.star hRn)) (hA0.by (Imp.fr7.trans (Imp.un Imp.sw))) hdl hA0.obj fun dv' wA hC => ?_
    have oA := (hC.by Imp.fr7).obj
    unfold paO at oA
    simp [g10, g15, cell_blk oA]
    have oiC := (hC.by Imp.fr7).obj
    unfold paO at oiC
    have ocC := hC.drop.obj
    refine tab_append2 (a := w9.heap.size) (tv := tv) (ps := ps) (u := pv) (c := pt) (B := (Star (OwnA dv' 109 1 ptE (ds.map (·.2.2) ++ [db])) (Star (ObjA w9.heap.size (.cells #[pv] 22)) (Star (ObjA (w9.heap.size + 1) (.cells #[.pointer (some ⟨db, 0, none⟩)] 109)) (Star (OwnA lf 3 1 nE (subL l pt l.length)) (Star (DbA T q.2 d db) (Star (ObjA pb (paO vv dv tv)) (DbsA T ds (Star (OwnA vv 3 1 nE T.vars) (FrN T b)))))))))) (Lcl.own.star (Lcl.obj.star (Lcl.obj.star (Lcl.own.star (lcl_db.star (Lcl.obj.star hXl)))))) (hC.by (Imp.fr8.trans Imp.fr6)) (by omega) ocC fun ho tv' wD hD => ?_
    have hD := hD.by (Imp.fr7.trans (Imp.un (Imp.un (Imp.un (Imp.dr.trans (Imp.dr))))))
    have oD := hD.obj
    unfold paO at oD
    have o1 := hD.drop.drop.own.o1
    have c1 := hD.drop.drop.own.c1
    have hTD := TabA.own hD.drop
    have o2 := hTD.o1
    have c2 := hTD.c1
    simp [g10, c1]
    refine (show At w [] (Star (ObjA pb (paO vv dv tv)) _) wD from hD).st (Lcl.tab.star (Lcl.own.star (Lcl.own.star (lcl_db.star hXl)))) (by simp) (by simp [o1]) fun wE hE => ?_
    have e1 : wrAt #[vv, dv, tv] 1 [dv'] = #[vv, dv', tv] := by simp
    rw [e1] at hE
    simp [g10, c2]
    refine hE.st (Lcl.tab.star (Lcl.own.star (Lcl.own.star (lcl_db.star hXl)))) (by simp) (by simp [o2]) fun wF hF => ?_
    have e2 : wrAt #[vv, dv', tv] 2 [tv'] = #[vv, dv', tv'] := by simp
    rw [e2] at hF
    simp [g54, g55]
    exact ⟨by simp [g1], by simp [g2], by simp [g7], by simp [g10], by simp [g53], nxt dv' tv' ho wF hF⟩
end Go.Proofs.YtolkjbmcindhjaaGreat
end
section
set_option maxRecDepth 100000
set_option linter.unusedSimpArgs false
set_option linter.unusedVariables false
namespace Go.Proofs.YtolkjbmcindhjaaGreat
open Go Go.W Go.Tk Go.Rx Go.Maps
/-- A partition that can be read. -/
structure PaR (w : World) (T : Nt) (pb : Nat) (ds : List Dx) (pts : List (List Nat)) (vv dv tv : Value) : Prop where
  ob : w.heap[pb]? = some (paO vv dv tv)
  vv : Vw w vv nE T.vars
  dv : Vw w dv ptE (ds.map (·.2.2))
  tv : LLV nE w tv pts
  rd : ∀ x ∈ ds, DbR w x.2.2 T.vars x.1 (szS T.vars x.1) T.ops.length x.2.1
theorem PaR.kp {w w' : World} {T : Nt} {pb : Nat} {ds : List Dx} {pts : List (List Nat)} {vv dv tv : Value} (h : PaR w T pb ds pts vv dv tv) (k : Kp [] w w') : PaR w' T pb ds pts vv dv tv := ⟨k.blk h.ob (by simp), h.vv.kp0 k, h.dv.kp0 k, h.tv.kp k, fun x hx => (h.rd x hx).kp k⟩
theorem PaA.rd {T : Nt} {pb : Nat} {ds : List Dx} {ps : List (Cell1 × List Nat)} {vv dv tv : Value} {w w1 : World} {F : List Nat} {B : Asr} (h : At w F (PaA T pb vv dv tv ds ps B) w1) : PaR w1 T pb ds (ps.map (·.2)) vv dv tv :=
  ⟨h.obj, ((h.drop.drop.drop).by (DbsA.drop ds)).own.vw, h.drop.own.vw, TabA.vw rfl h.drop.drop, DbsA.rd h.drop.drop.drop⟩
theorem parts_spec {w : World} (T : Nt) (pb : Nat) (ds : List Dx) (pts : List (List Nat)) (vv dv tv : Value) (h : PaR w T pb ds pts vv dv tv) (hl : pts.length ≤ 12) (hn : ∀ p ∈ pts, p.length ≤ 1000) :
    Calls Tryz.prog 10 [.pointer (some ⟨pb, 0, none⟩)].toArray w fun e w' => ∃ u, e = .returned u ∧ At w [] (Star (LLA u 22 nE pts) Emp) w' := by
  refine enter Tryz.func10 mixed low10 (Nat.le_of_ble_eq_true rfl) ?_
  simp only [L10]
  have hob := h.ob
  unfold paO at hob
  obtain ⟨ps, hps, hpl, hvw, hat⟩ := h.tv.vw1
  simp [cell_blk hob, hvw.len]
  have h0 : At w [] (Star (LLA (.slice none 0 0) 22 nE (pts.take 0)) Emp) w := LLA.nil .emp (At.start rfl)
  refine range_loop (n := ps.length) (by omega) (fun k ρ w' => ρ 11 = tv ∧ At w [] (Star (LLA (ρ 3) 22 nE (pts.take k)) Emp) w') (by simp) (by simp)
    ⟨by simp, by simpa using h0⟩ (by decide) (fun _ _ _ _ h => by simpa using h) (fun _ _ _ _ h => by simpa using h) ?_ ?_
  rotate_left
  · rintro ρ w4 ⟨g11, h4⟩
    rw [hpl, List.take_length] at h4
    simp
    exact h4
  rintro k ρ w4 hk hc hlm ⟨g11, h4⟩
  obtain ⟨q, hq⟩ : ∃ q, ps[k]? = some q := ⟨_, List.getElem?_eq_getElem hk⟩
  obtain ⟨hq1, hq2, hq3⟩ := hat k q hq
  have hki : (k : Int) < ps.length := by omega
  have hqc : w4.cell? (tv.adr.add k) = some q.1.1 := h4.kp.cell hq1 (by simp)
  simp (disch := omega) [g11, hc, hlm, (hvw.kp0 h4.kp).idx, hqc]
  refine cl_of (cloneI_spec q.1.1 q.2 (hq2.kp0 h4.kp) (by have := hn q.2 (List.mem_of_getElem? hq3); omega)) ?_
  rintro u w5 n5
  have h5 := At.nw (Lcl.ll.star .emp) h4 n5
  simp [n5.own.c1]
  refine li_append .emp h5 (by simp; omega) fun v' w6 h6 => ?_
  simp [hc, hlm]
  refine ⟨by simp [g11], ?_⟩
  rw [take_snoc hq3]
  exact h6
theorem hvL_congr {vars s : List Nat} : ∀ {l l' : List Db} {a : Nat}, l.map (fun d => (d.1, d.2.1)) = l'.map (fun d => (d.1, d.2.1)) → hvL vars s l a = hvL vars s l' a
  | [], [], a, _ => rfl
  | [], y :: l', a, h => by simp at h
  | x :: l, [], a, h => by simp at h
  | x :: l, y :: l', a, h => by
    simp only [List.map_cons, List.cons.injEq, Prod.mk.injEq] at h
    obtain ⟨⟨h1, h2⟩, h3⟩ := h
    simp only [hvL]
    rw [h1, h2]
    split
    · rfl
    · exact hvL_congr h3
theorem hvL_inf {vars s : List Nat} {d : Db} {l : List Db} {a : Nat} (h : d.2.1 (nbS vars s d.1) = Inf) : hvL vars s (d :: l) a = Inf := by simp only [hvL]; rw [if_pos h]
theorem hvL_fin {vars s : List Nat} {d : Db} {l : List Db} {a : Nat} (h : d.2.1 (nbS vars s d.1) ≠ Inf) : hvL vars s (d :: l) a = hvL vars s l (a + d.2.1 (nbS vars s d.1)) := by simp only [hvL]; rw [if_neg h]
/-- The partition's value at a state. -/
theorem savalue_spec {w : World} (T : Nt) (pb : Nat) (ds : List Dx) (pts : List (List Nat)) (vv dv tv sv : Value) (s : List Nat) (hT : TmT T) (h : PaR w T pb ds pts vv dv tv) (hl : ds.length ≤ 12) (hsv : Vw w sv nE s) (hst : StN T.vars s)
    (hd : ∀ x ∈ ds, Pt T x.1 ∧ ∀ i, x.2.1.V i ≤ Inf ∧ (x.2.1.V i < Inf → x.2.1.V i ≤ 4096 * 1048576)) :
    Calls Tryz.prog 13 [.pointer (some ⟨pb, 0, none⟩), sv].toArray w fun e w' => ∃ x, e = .returned x ∧ x = .int .i64 (hvL T.vars s (ds.map fun x => dbT x []) 0 : Nat) ∧ Kp [] w w' := by
  refine enter Tryz.func13 mixed low13 (Nat.le_of_ble_eq_true rfl) ?_
  simp only [L13]
  have hob := h.ob
  unfold paO at hob
  have hvl := hT.vl
  have hsl := hst.len
  simp [cell_blk hob]
  refine cl_of (tproper_spec vv sv _ _ (vw_n.2 h.vv) (vw_n.2 hsv) (by simp; omega)) ?_
  rintro _ w1 ⟨rfl, k1⟩
  rw [hst.ok]
  have h1 := h.kp k1
  have hob1 := h1.ob
  unfold paO at hob1
  simp [cell_blk hob1, h1.dv.len]
  refine range_loop (n := ds.length) (by omega) (fun k ρ w' => ρ 1 = sv ∧ ρ 21 = dv ∧ Kp [] w w' ∧ ∃ a : Nat, ρ 5 = .int .i64 (a : Nat) ∧ a ≤ k * (4096 * 1048576) ∧ hvL T.vars s (ds.map fun x => dbT x []) 0 = hvL T.vars s ((ds.drop k).map fun x => dbT x []) a) (by simp) (by simp)
    ⟨by simp, by simp, k1, 0, by simp, by simp, by simp⟩ (by decide) (fun _ _ _ _ h => by simpa using h) (fun _ _ _ _ h => by simpa using h) ?_ ?_
  rotate_left
  · rintro ρ w2 ⟨g1, g21, k2, a, g5, ha, he⟩
    rw [List.drop_length] at he
    simp only [List.map_nil, hvL] at he
    simp [g5, he]
    exact k2
  rintro k ρ w2 hk hc hlm ⟨g1, g21, k2, a, g5, ha, he⟩
  obtain ⟨x, hx⟩ : ∃ x, ds[k]? = some x := ⟨_, List.getElem?_eq_getElem hk⟩
  have hxm := List.mem_of_getElem? hx
  obtain ⟨hp, hV⟩ := hd x hxm
  obtain ⟨V, hVe⟩ : ∃ V, V = x.2.1.V (nbS T.vars s x.1) := ⟨_, rfl⟩
  have hVb := hV (nbS T.vars s x.1)
  rw [← hVe] at hVb
  have h2 := h.kp k2
  have hdr : ds.drop k = x :: ds.drop (k + 1) := by rw [List.drop_eq_getElem_cons hk, (List.getElem?_eq_some_iff.1 hx).2]
  rw [hdr, List.map_cons] at he
  have hxc : (ds.map (·.2.2))[k]? = some x.2.2 := by rw [List.getElem?_map, hx]; rfl
  have hcell : w2.cell? (dv.adr.add k) = some (.pointer (some ⟨x.2.2, 0, none⟩)) := by simpa [ptE] using h2.dv.at_ ptE_len hxc (o := 0) (u := .pointer (some ⟨x.2.2, 0, none⟩)) rfl
  have hki : (k : Int) < (ds.map (·.2.2)).length := by simp; omega
  have hdx : (dbT x []).2.1 (nbS T.vars s (dbT x []).1) = V := hVe.symm
  have hInf : Inf = 1125899906842624 := rfl
  simp (disch := omega) [g21, g1, hc, hlm, h2.dv.idx, hcell]
  refine cl_of (pdvalue_spec T x.2.2 x.1 s sv x.2.1 hT hp (h2.rd x hxm) (hsv.kp0 k2) hst) ?_
  rintro _ w3 ⟨rfl, k3⟩
  rw [← hVe]
  by_cases t : V = Inf
  · have t1 : ((V : Int) == 1125899906842624) = true := by rw [t]; rfl
    rw [hvL_inf (hdx.trans t)] at he
    simp [t1, he, hInf]
    exact k2.trans0 k3
  · have t1 : ((V : Int) == 1125899906842624) = false := by
      cases h : ((V : Int) == 1125899906842624) with
      | false => rfl
      | true => rw [beq_iff_eq] at h; omega
    rw [hvL_fin (by rw [hdx]; exact t), hdx] at he
    have hVm := hVb.2 (by omega)
    have hka : k * (4096 * 1048576) ≤ 11 * (4096 * 1048576) := Nat.mul_le_mul_right _ (by omega)
    have hk1 : (k + 1) * (4096 * 1048576) = k * (4096 * 1048576) + 4096 * 1048576 := by rw [Nat.add_mul, Nat.one_mul]
    obtain ⟨c, hcv⟩ : ∃ c, c = a + V := ⟨_, rfl⟩
    rw [← hcv] at he
    have hav : (a : Int) + (V : Int) = (c : Int) := by omega
    simp (disch := omega) [t1, g5, hc, hlm, hav, wrap_i64]
    exact ⟨by simp [g1], by simp [g21], k2.trans0 k3, c, by simp, by omega, by rw [← List.map_drop]; exact he⟩
end Go.Proofs.YtolkjbmcindhjaaGreat
end
