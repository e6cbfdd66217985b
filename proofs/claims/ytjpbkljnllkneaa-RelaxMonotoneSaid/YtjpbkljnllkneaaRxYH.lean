/-
  A part of the proofs of this seat's statements (RxYH); no conditions beyond those each theorem names.
-/
import Derived.Test.YtjpbkljnllkneaaRxYG
set_option maxRecDepth 100000
set_option linter.unusedSimpArgs false
set_option linter.unusedVariables false
namespace Go.Proofs.Ytjpbkljnllkneaa
open Go Go.W Go.Tk Go.Rx Go.Maps
def dearL (cl : List Nat) (k m : Nat) : List Nat := cl.set k (cl.getD k 0 + m)
set_option maxHeartbeats 4000000 in
theorem law_monotone {w : World} (t : Tk) (x y : Nat) (ht : TkR w t) (hl : TkL t) (hx : x ≤ 255) (hy : y ≤ 255) :
    Calls Try.prog 9 [tkV t, .int .u8 (x : Nat), .int .u8 (y : Nat)].toArray w fun e w' => ∃ x, e = .returned x ∧ x = .bool true ∧ Kp [] w w' := by
  refine enter Try.func9 mixed low9 (Nat.le_of_ble_eq_true rfl) ?_
  simp only [L9]
  obtain ⟨tb, htb⟩ : ∃ tb, tb = w.heap.size := ⟨_, rfl⟩
  obtain ⟨w1, hw1⟩ : ∃ w1, w1 = w.alloc (tkO t) := ⟨_, rfl⟩
  have k1 : Kp [] w w1 := by rw [hw1]; exact (Kp.refl [] w).alloc _
  have hw1' : w.alloc (.cells #[t.vv.1, t.nv.1, t.gv.1, t.ov.1] 26 (0, 0)) = w1 := by rw [hw1]; rfl
  have ob1 : w1.heap[tb]? = some (tkO t) := by rw [htb, hw1]; exact alloc_new
  simp [tkV, ← htb, hw1', rd_tk ob1]
  refine cl_of (small_spec t (ht.kp k1) hl) ?_
  rintro _ w2 ⟨rfl, k2⟩
  cases hsm : smallB t with
  | false =>
    simp
    refine cl_of awake_spec ?_
    rintro _ w3 ⟨rfl, k3⟩
    simp
    exact k1.trans (k2.trans k3)
  | true =>
    obtain ⟨T, rfl, hST⟩ := small_nat hl hsm
    have hr := NtR.raw.1 ht
    have hol := hST.ol
    have ob2 := k2.blk ob1 (by simp)
    have oc2 := ob2
    unfold tkO at oc2
    by_cases h0 : T.ops.length = 0
    · simp [cell_blk oc2, raw_ov, (hr.kp (k1.trans k2)).ops.len, h0]
      refine cl_of awake_spec ?_
      rintro _ w3 ⟨rfl, k3⟩
      simp
      exact k1.trans (k2.trans k3)
    have h0' : ((T.ops.length : Int) == 0) = false := by simp; intro e; rw [e] at h0; exact h0 rfl
    have h0i : ¬ (T.ops.length : Int) = 0 := by omega
    simp [cell_blk oc2, raw_ov, (hr.kp (k1.trans k2)).ops.len, h0', h0i]
    refine cl_of awake_spec ?_
    rintro _ w3 ⟨rfl, k3⟩
    have hne : ¬ T.ops = [] := fun e => h0 (by rw [e]; rfl)
    have k13 := k2.trans k3
    have ob3 := k13.blk ob1 (by simp)
    have oc3 := ob3
    unfold tkO at oc3
    have hr3 := hr.kp (k1.trans k13)
    obtain ⟨k, hk⟩ : ∃ k, k = x % T.ops.length := ⟨_, rfl⟩
    have hkl : k < T.ops.length := by rw [hk]; exact Nat.mod_lt _ (by omega)
    have ek : ((x : Nat) : Int).tmod (T.ops.length : Int) = (k : Int) := by rw [hk, Int.tmod_eq_emod_of_nonneg (by omega)]; simp
    simp (disch := omega) [cell_blk oc3, raw_ov, hr3.ops.len, wrap_i64, ek, h0i, hne]
    refine range_loop (n := T.ops.length) (by omega) (fun i ρ w' => ρ 1 = .int .u8 (x : Nat) ∧ ρ 2 = .int .u8 (y : Nat) ∧ ρ 3 = .pointer (some ⟨tb, 0, none⟩) ∧ ρ 7 = .int .i64 (k : Nat) ∧ ρ 52 = T.ov.1 ∧ (∀ j o, j < i → T.ops[j]? = some o → o.cost ≤ 262144) ∧ Kp [] w3 w') (by simp) (by simp)
      ⟨by simp, by simp, by simp, by simp, by simp, fun j o hj => by omega, Kp.refl _ _⟩ (by decide) (fun _ _ _ _ h => by simpa using h) (fun _ _ _ _ h => by simpa using h) ?_ ?_
    · rintro i ρ w4 hi hci hli ⟨g1, g2, g3, g7, g52, hcb, k4⟩
      obtain ⟨o, ho⟩ : ∃ o, T.ops[i]? = some o := ⟨_, List.getElem?_eq_getElem hi⟩
      have hr4 := (hr3.kp k4).ops
      have ec := hr4.cells noE_len ho
      simp only [noE] at ec
      obtain ⟨ob, hob⟩ : ∃ ob, ob = w4.heap.size := ⟨_, rfl⟩
      have hii : (i : Int) < T.ops.length := by omega
      simp (disch := omega) [g52, hci, hli, hr4.idx, ec, ← hob]
      refine st_oq (o := o.raw) .emp (At.start rfl : At w4 [] Emp w4) hob fun w5 h5 => ?_
      have oo5 := h5.obj
      unfold oqO at oo5
      by_cases hc : 262144 < o.cost
      · have hc' : (262144 : Int) < o.raw.cost := by unfold No.raw; simp; omega
        simp [cell_blk oo5, ← hob, hc']
        exact (k1.trans k13).trans (k4.trans0 h5.kp)
      · have hc' : ¬ (262144 : Int) < o.raw.cost := by unfold No.raw; simp; omega
        simp [cell_blk oo5, ← hob, hc', g1, g2, g3, g7, g52, hci, hli]
        refine ⟨fun j q hj hq => ?_, k4.trans0 h5.kp⟩
        by_cases hji : j < i
        · exact hcb j q hji hq
        · have : j = i := by omega
          subst this
          rw [ho] at hq
          cases hq
          omega
    rintro ρ w4 ⟨g1, g2, g3, g7, g52, hcb, k4⟩
    have hcb : ∀ c ∈ T.ops.map (·.cost), c ≤ 262144 := fun c hc => by
      obtain ⟨o, ho, rfl⟩ := List.mem_map.1 hc
      obtain ⟨j, hj, rfl⟩ := List.getElem_of_mem ho
      exact hcb j _ hj (List.getElem?_eq_getElem hj)
    clear g52
    obtain ⟨cl, hcl⟩ : ∃ cl, cl = T.ops.map (·.cost) := ⟨_, rfl⟩
    rw [← hcl] at hcb
    have hcll : cl.length = T.ops.length := by rw [hcl]; simp
    simp only [thenK_nrm]
    refine seq_cut (fun ρ w' => ρ 1 = .int .u8 (x : Nat) ∧ ρ 2 = .int .u8 (y : Nat) ∧ ρ 3 = .pointer (some ⟨tb, 0, none⟩) ∧ ρ 7 = .int .i64 (k : Nat) ∧ At w3 [] (Star (OwnA (ρ 10) 3 1 nE cl) Emp) w') ?_ ?_
    · simp [g3, rd_tk (k4.blk ob3 (by simp)), raw_vv, raw_nv, raw_gv, raw_ov]
      refine cl_of (costs_spec T (hr3.kp k4) (by omega)) ?_
      rintro cv w5 n5
      rw [← hcl] at n5
      simp [g1, g2, g3, g7]
      exact At.nw .emp ((At.start rfl : At w3 [] Emp w3).kp0 .emp k4) n5
    clear g1 g2 g3 g7 k4
    rintro ρ w4 ⟨g1, g2, g3, g7, h4⟩
    obtain ⟨cv, hcv⟩ : ∃ cv, ρ 10 = cv := ⟨_, rfl⟩
    rw [hcv] at h4
    have hLc : Lcl (Star (OwnA cv 3 1 nE cl) Emp) := Lcl.own.star .emp
    refine seq_cut (fun ρ w' => ρ 2 = .int .u8 (y : Nat) ∧ ρ 3 = .pointer (some ⟨tb, 0, none⟩) ∧ ρ 7 = .int .i64 (k : Nat) ∧ ρ 10 = cv ∧ At w3 [] (Star (OwnA (ρ 11) 3 1 nE (List.replicate T.ops.length 0)) (Star (OwnA (ρ 12) 3 1 nE cl) (Star (OwnA cv 3 1 nE cl) Emp))) w') ?_ ?_
    · simp [hcv, h4.own.vw.len]
      have h4d := h4.drew hLc
      have zE : [Value.int .i64 0] = nE 0 := rfl
      refine ⟨?_, ?_, ?_⟩
      · refine gd_mk (by omega) ?_
        have h5 := h4d.made (E := 3) (enc := nE) (x := 0) (z := [.int .i64 0]) (n := cl.length) hLc zE nE_len (by unfold maxLen; omega)
        have hL5 := (Lcl.own (v := .slice (some ⟨w4.drew.heap.size, 0, none⟩) cl.length cl.length) (E := 3) (sz := 1) (enc := nE) (l := List.replicate cl.length 0)).star hLc
        have h6 := h5.lit (xs := ([] : List Nat)) (enc := nE) (E := 3) (sz := 1) (cs := #[]) (m := 0) hL5 (by simp) nE_len (by simp [maxLen]) rfl
        have e0 : ∀ (w : World) (o : Obj), (w.alloc o).heap.size = w.heap.size + 1 := fun w o => by simp
        have e9 : w4.drew.heap.size = w4.heap.size := rfl
        simp only [e0, e9] at h6
        simp [rowOf, hcv]
        refine At.appendV (xs := cl) hL5 h6 h6.drop.drop.own.vw nE_len nE_one sl_22 (by simp; omega) (by simp; unfold maxLen; omega) fun v' w7 h7 => ?_
        simp [g2, g3, g7, hcv]
        rw [← hcll]
        simpa using h7.by Imp.sw
      · refine gd_mk (by omega) ?_
        have h5 := h4d.lit (xs := ([] : List Nat)) (enc := nE) (E := 3) (sz := 1) (cs := #[]) (m := 0) hLc (by simp) nE_len (by simp [maxLen]) rfl
        have hL5 := (Lcl.own (v := .slice (some ⟨w4.drew.heap.size, 0, none⟩) 0 0) (E := 3) (sz := 1) (enc := nE) (l := ([] : List Nat))).star hLc
        have h6 := h5.made (E := 3) (enc := nE) (x := 0) (z := [.int .i64 0]) (n := cl.length) hL5 zE nE_len (by unfold maxLen; omega)
        simp [rowOf, hcv]
        have h6 := h6.by Imp.sw
        refine At.appendV (xs := cl) (Lcl.own.star hLc) h6 h6.drop.drop.own.vw nE_len nE_one sl_22 (by simp; omega) (by simp; unfold maxLen; omega) fun v' w7 h7 => ?_
        simp [g2, g3, g7, hcv]
        rw [← hcll]
        simpa using h7.by Imp.sw
      · have h5 := h4d.lit (xs := ([] : List Nat)) (enc := nE) (E := 3) (sz := 1) (cs := #[]) (m := 0) hLc (by simp) nE_len (by simp [maxLen]) rfl
        refine At.appendV (xs := cl) hLc h5 h5.drop.own.vw nE_len nE_one sl_22 (by simp; omega) (by simp; unfold maxLen; omega) fun v' w7 h7 => ?_
        simp
        refine gd_mk (by omega) ?_
        have h8 := h7.made (E := 3) (enc := nE) (x := 0) (z := [.int .i64 0]) (n := cl.length) (Lcl.own.star hLc) zE nE_len (by unfold maxLen; omega)
        simp [g2, g3, g7, hcv]
        rw [← hcll]
        simpa using h8
    clear g1 g2 g3 g7 hcv h4
    rintro ρ w4 ⟨g2, g3, g7, g10, h4⟩
    obtain ⟨tv, htv⟩ : ∃ tv, ρ 11 = tv := ⟨_, rfl⟩
    obtain ⟨dv, hdv⟩ : ∃ dv, ρ 12 = dv := ⟨_, rfl⟩
    rw [htv, hdv, upto_zero T.ops.length 0 (fun i => 3 * cl.getD i 0)] at h4
    have hLd : Lcl (Star (OwnA dv 3 1 nE cl) (Star (OwnA cv 3 1 nE cl) Emp)) := Lcl.own.star hLc
    refine seq_cut (fun ρ w' => ρ 2 = .int .u8 (y : Nat) ∧ ρ 3 = .pointer (some ⟨tb, 0, none⟩) ∧ ρ 7 = .int .i64 (k : Nat) ∧ ρ 11 = tv ∧ ρ 12 = dv ∧ At w3 [] (Star (OwnA tv 3 1 nE (tabN T.ops.length fun i => 3 * cl.getD i 0)) (Star (OwnA dv 3 1 nE cl) (Star (OwnA cv 3 1 nE cl) Emp))) w') ?_ ?_
    · simp [g10, h4.drop.drop.own.vw.len, hcll]
      refine range_loop (n := T.ops.length) (by omega) (fun i ρ w' => ρ 2 = .int .u8 (y : Nat) ∧ ρ 3 = .pointer (some ⟨tb, 0, none⟩) ∧ ρ 7 = .int .i64 (k : Nat) ∧ ρ 10 = cv ∧ ρ 11 = tv ∧ ρ 12 = dv ∧ At w3 [] (Star (OwnA tv 3 1 nE (tabN T.ops.length (upto i (fun i => 3 * cl.getD i 0) 0))) (Star (OwnA dv 3 1 nE cl) (Star (OwnA cv 3 1 nE cl) Emp))) w') (by simp) (by simp)
        ⟨by simp [g2], by simp [g3], by simp [g7], by simp [g10], by simp [htv], by simp [hdv], by simpa using h4⟩ (by decide) (fun _ _ _ _ h => by simpa using h) (fun _ _ _ _ h => by simpa using h) ?_ ?_
      · clear g2 g3 g7 g10 h4 htv hdv
        rintro i ρ w5 hi hci hli ⟨g2, g3, g7, g10, g11, g12, h5⟩
        have hii : (i : Int) < cl.length := by omega
        obtain ⟨c, hc⟩ : ∃ c, cl[i]? = some c := ⟨_, List.getElem?_eq_getElem (by omega)⟩
        have hcd : cl.getD i 0 = c := by simp [List.getD, hc]
        have hcc := hcb c (List.mem_of_getElem? hc)
        obtain ⟨c3, hc3⟩ : ∃ c3, c3 = 3 * c := ⟨_, rfl⟩
        have ec3 : 3 * (c : Int) = (c3 : Int) := by rw [hc3]; simp
        have hcv5 := h5.drop.drop.own.vw
        have htl : (tabN T.ops.length (upto i (fun i => 3 * cl.getD i 0) 0)).length = T.ops.length := tabN_len _ _
        have hiT : (i : Int) < T.ops.length := by omega
        simp (disch := omega) [g10, g11, hci, hli, hcv5.idx, nE_cell hcv5 hc, ec3, wrap_i64, h5.own.idx, htl]
        refine h5.store1 hLd nE_len nE_one (k := i) (by omega) (x := c3) rfl fun w6 h6 => ?_
        have ec4 : c3 = (fun i => 3 * cl.getD i 0) i := by rw [hc3, ← hcd]
        rw [ec4, tabN_set hi, upto_succ] at h6
        simp [g2, g3, g7, g10, g11, g12, hci, hli]
        exact h6
      rintro ρ w5 ⟨g2, g3, g7, g10, g11, g12, h5⟩
      rw [upto_all] at h5
      simp only [thenK_nrm]
      exact ⟨g2, g3, g7, g11, g12, h5⟩
    clear g2 g3 g7 g10 h4 htv hdv
    rintro ρ w4 ⟨g2, g3, g7, g11, g12, h4⟩
    have h4 := h4.by Imp.sw
    obtain ⟨ck, hck⟩ : ∃ c, cl[k]? = some c := ⟨_, List.getElem?_eq_getElem (by omega)⟩
    have hckd : cl.getD k 0 = ck := by simp [List.getD, hck]
    have hckb := hcb ck (List.mem_of_getElem? hck)
    have hki : (k : Int) < cl.length := by omega
    obtain ⟨cy, hcy⟩ : ∃ cy, cy = ck + y := ⟨_, rfl⟩
    have ecy : (ck : Int) + (y : Int) = (cy : Int) := by rw [hcy]; simp
    have hLt : Lcl (Star (OwnA tv 3 1 nE (tabN T.ops.length fun i => 3 * cl.getD i 0)) (Star (OwnA cv 3 1 nE cl) Emp)) := Lcl.own.star hLc
    have hdv4 := h4.own.vw
    refine seq_cut (fun ρ w' => ρ 3 = .pointer (some ⟨tb, 0, none⟩) ∧ ρ 7 = .int .i64 (k : Nat) ∧ ρ 11 = tv ∧ ρ 12 = dv ∧ At w3 [] (Star (OwnA dv 3 1 nE (dearL cl k y)) (Star (OwnA tv 3 1 nE (tabN T.ops.length fun i => 3 * cl.getD i 0)) (Star (OwnA cv 3 1 nE cl) Emp))) w') ?_ ?_
    · simp (disch := omega) [g2, g7, g12, hdv4.idx, nE_cell hdv4 hck, wrap_i64, ecy, h4.own.idx]
      have ea : dv.adr.add k = ⟨dv.blk, k, none⟩ := by
        rcases h4.own with ⟨rfl, h⟩ | ⟨g, cap, cur, junk, rfl, hh, _⟩
        · rw [h] at hki; simp at hki; omega
        · simp [Value.adr, Value.blk, Addr.add]; try omega
      rw [ea]
      refine h4.store1 hLt nE_len nE_one (k := k) (by omega) (x := cy) rfl fun w6 h6 => ?_
      simp [g3, g7, g11, g12]
      unfold dearL
      rw [hckd, ← hcy]
      exact h6
    clear g2 g3 g7 g11 g12 h4 hdv4
    rintro ρ w4 ⟨g3, g7, g11, g12, h4⟩
    have hLt2 : Lcl (Star (OwnA dv 3 1 nE (dearL cl k y)) (Star (OwnA tv 3 1 nE (tabN T.ops.length fun i => 3 * cl.getD i 0)) (Star (OwnA cv 3 1 nE cl) Emp))) := Lcl.own.star hLt
    -- the task without the operator
    obtain ⟨lb, hlb⟩ : ∃ lb, lb = w4.heap.size := ⟨_, rfl⟩
    refine seq_cut (fun ρ w' => ρ 3 = .pointer (some ⟨tb, 0, none⟩) ∧ ρ 7 = .int .i64 (k : Nat) ∧ ρ 11 = tv ∧ ρ 12 = dv ∧ ρ 14 = .pointer (some ⟨lb, 0, none⟩) ∧ At w3 [] (Star (ObjA lb (ntO T)) (Star (OwnA dv 3 1 nE (dearL cl k y)) (Star (OwnA tv 3 1 nE (tabN T.ops.length fun i => 3 * cl.getD i 0)) (Star (OwnA cv 3 1 nE cl) Emp)))) w') ?_ ?_
    · have a5 := h4.alloc (.cells #[.slice none 0 0, .slice none 0 0, .slice none 0 0, .slice none 0 0] 26 (0, 0)) hLt2
      rw [← hlb] at a5
      simp [g3, rd_tk (h4.kp.blk ob3 (by simp)), raw_vv, raw_nv, raw_gv, raw_ov, ← hlb]
      refine a5.st hLt2 (by simp) (by simp [T.vv.2, T.nv.2, T.gv.2, T.ov.2]) fun w6 h6 => ?_
      simp [g3, g7, g11, g12, ← hlb]
      unfold ntO
      simpa using h6
    clear g3 g7 g11 g12 h4
    rintro ρ w4 ⟨g3, g7, g11, g12, g14, h4⟩
    have hLo : Lcl (Star (ObjA lb (ntO T)) (Star (OwnA dv 3 1 nE (dearL cl k y)) (Star (OwnA tv 3 1 nE (tabN T.ops.length fun i => 3 * cl.getD i 0)) (Star (OwnA cv 3 1 nE cl) Emp)))) := Lcl.obj.star hLt2
    have oc4 := h4.kp.blk oc3 (by simp)
    obtain ⟨q1, hq1⟩ : ∃ q, q = k + 1 := ⟨_, rfl⟩
    have eq1 : (k : Int) + 1 = (q1 : Int) := by omega
    have ho4 := h4.obj
    unfold ntO at ho4
    have hr4 := (hr3.kp h4.kp).ops
    refine seq_cut (fun ρ w' => ρ 3 = .pointer (some ⟨tb, 0, none⟩) ∧ ρ 7 = .int .i64 (k : Nat) ∧ ρ 11 = tv ∧ ρ 12 = dv ∧ ρ 14 = .pointer (some ⟨lb, 0, none⟩) ∧ ∃ lv, At w3 [] (Star (ObjA lb (.cells #[T.vv.1, T.nv.1, T.gv.1, lv] 26 (0, 0))) (Star (OwnA lv 49 4 noE (T.ops.take k ++ T.ops.drop (k + 1))) (Star (OwnA dv 3 1 nE (dearL cl k y)) (Star (OwnA tv 3 1 nE (tabN T.ops.length fun i => 3 * cl.getD i 0)) Emp)))) w') ?_ ?_
    · simp (disch := omega) [g3, g7, g14, cell_blk oc4, raw_ov, wrap_i64, eq1]
      have h4d := h4.drew hLo
      have hr4d := hr4.kp0 ((Kp.refl [] w4).drew)
      have lits : At w3 [] (Star (OwnA (.slice (some ⟨w4.heap.size, 0, none⟩) 0 0) 49 4 noE []) (Star (ObjA lb (ntO T)) (Star (OwnA dv 3 1 nE (dearL cl k y)) (Star (OwnA tv 3 1 nE (tabN T.ops.length fun i => 3 * cl.getD i 0)) (Star (OwnA cv 3 1 nE cl) Emp))))) (w4.drew.alloc (.cells #[] 49)) :=
        h4d.lit (xs := ([] : List No)) (enc := noE) (E := 49) (sz := 4) (cs := #[]) (m := 0) hLo (by simp) noE_len (by simp [maxLen]) rfl
      have kl := lits.kp
      obtain ⟨l1, hl1⟩ : ∃ l1, l1 = T.ops.take k := ⟨_, rfl⟩
      obtain ⟨l2, hl2⟩ : ∃ l2, l2 = T.ops.drop q1 := ⟨_, rfl⟩
      have hlen1 : l1.length ≤ 20 := by rw [hl1, List.length_take]; omega
      have hlen2 : l2.length ≤ 20 := by rw [hl2, List.length_drop]; omega
      have fin : ∀ (lv : Value) (w10 : World), At w3 [] (Star (ObjA lb (.cells #[T.vv.1, T.nv.1, T.gv.1, lv] 26 (0, 0))) (Star (OwnA lv 49 4 noE (l1 ++ l2)) (Star (OwnA dv 3 1 nE (dearL cl k y)) (Star (OwnA tv 3 1 nE (tabN T.ops.length fun i => 3 * cl.getD i 0)) (Star (OwnA cv 3 1 nE cl) Emp))))) w10 → ∃ lv, At w3 [] (Star (ObjA lb (.cells #[T.vv.1, T.nv.1, T.gv.1, lv] 26 (0, 0))) (Star (OwnA lv 49 4 noE (T.ops.take k ++ T.ops.drop (k + 1))) (Star (OwnA dv 3 1 nE (dearL cl k y)) (Star (OwnA tv 3 1 nE (tabN T.ops.length fun i => 3 * cl.getD i 0)) Emp)))) w10 := by
        intro lv w10 h
        refine ⟨lv, ?_⟩
        rw [hl1, hl2, hq1] at h
        exact h.by (Imp.un (Imp.un (Imp.un (Imp.un Imp.dr))))
      have kq := (Kp.refl [] w4.drew).alloc (.cells #[] 49)
      have oc4d : w4.drew.heap[tb]? = _ := oc4
      refine ⟨?_, ?_⟩
      · refine hr3.ops.slice_hi noE_len sl_24 (hi := k) (by omega) fun v1 hv1 _ => ?_
        rw [← hl1] at hv1
        simp (disch := omega) [g3, g7, cell_blk oc4d, raw_ov, wrap_i64, eq1]
        refine hr3.ops.slice_lo noE_len sl_24 (lo := q1) (by omega) fun v2 hv2 _ => ?_
        rw [← hl2] at hv2
        simp [rowOf]
        refine At.appendV (xs := l1) hLo lits (hv1.kp0 lits.kp) noE_len noE_one sl_24 (by simp; omega) (by simp; unfold maxLen; omega) fun v3 w5 h5 => ?_
        rw [List.nil_append] at h5
        simp
        refine At.appendV (xs := l2) hLo h5 (hv2.kp0 h5.kp) noE_len noE_one sl_24 (by omega) (by unfold maxLen; omega) fun v6 w6 h6 => ?_
        have o6 := h6.own.o1
        have c6 := h6.own.c1
        have h7 := h6.by Imp.sw
        unfold ntO at h7
        simp [g14, c6]
        refine h7.st (Lcl.own.star hLt2) (by simp) (by simp [o6]) fun w8 h8 => ?_
        simp [g3, g7, g11, g12, g14]
        exact fin v6 w8 (by simpa [ntO] using h8)
      · refine hr3.ops.slice_hi noE_len sl_24 (hi := k) (by omega) fun v1 hv1 _ => ?_
        rw [← hl1] at hv1
        simp (disch := omega) [rowOf, g3, g7, wrap_i64, eq1]
        refine At.appendV (xs := l1) hLo lits (hv1.kp0 lits.kp) noE_len noE_one sl_24 (by simp; omega) (by simp; unfold maxLen; omega) fun v3 w5 h5 => ?_
        rw [List.nil_append] at h5
        have oc5 := h5.kp.blk oc3 (by simp)
        simp (disch := omega) [g3, g7, cell_blk oc5, raw_ov, wrap_i64, eq1]
        refine hr3.ops.slice_lo noE_len sl_24 (lo := q1) (by omega) fun v2 hv2 _ => ?_
        rw [← hl2] at hv2
        simp
        refine At.appendV (xs := l2) hLo h5 (hv2.kp0 h5.kp) noE_len noE_one sl_24 (by omega) (by unfold maxLen; omega) fun v6 w6 h6 => ?_
        have o6 := h6.own.o1
        have c6 := h6.own.c1
        have h7 := h6.by Imp.sw
        unfold ntO at h7
        simp [g14, c6]
        refine h7.st (Lcl.own.star hLt2) (by simp) (by simp [o6]) fun w8 h8 => ?_
        simp [g3, g7, g11, g12, g14]
        exact fin v6 w8 (by simpa [ntO] using h8)
    clear g3 g7 g11 g12 g14 h4 ho4 hr4 oc4
    rintro ρ w4 ⟨g3, g7, g11, g12, g14, lv, h4⟩
    have k4 := h4.kp
    have ob4 := k4.blk ob3 (by simp)
    have obl := h4.obj
    have hlv4 := h4.drop.own.vw
    have hlo1 := h4.drop.own.o1
    have hdv4 := h4.drop.drop.own.vw
    have htv4 := h4.drop.drop.drop.own.vw
    have hr4 := hr3.kp k4
    have hrl : NtR w4 (lessT T ⟨lv, hlo1⟩ k) := NtR.less hr4 hlv4
    have hSL : SmT (lessT T ⟨lv, hlo1⟩ k) := lessT_small hST
    have rl : ∀ {w'}, Kp [] w4 w' → cellsAt w' ⟨lb, 0, none⟩ 0 4 = some [T.vv.1, T.nv.1, T.gv.1, lv] := fun kk => by simp [cellsAt, Addr.add, cell_blk (kk.blk obl (by simp))]
    have e3l : (tabN T.ops.length fun i => 3 * cl.getD i 0).length = T.ops.length := tabN_len _ _
    have hok3 : CsOk T ((tabN T.ops.length fun i => 3 * cl.getD i 0).map iN) := cs_given e3l fun c hc => by
      unfold tabN at hc
      obtain ⟨i, hi, rfl⟩ := List.mem_map.1 hc
      have hi := List.mem_range.1 hi
      have := hcb _ (mem_getD (l := cl) (i := i) (by omega))
      omega
    have edl : (dearL cl k y).length = T.ops.length := by unfold dearL; rw [List.length_set]; exact hcll
    have hokd : CsOk T ((dearL cl k y).map iN) := cs_given edl fun c hc => by
      unfold dearL at hc
      rcases List.mem_or_eq_of_mem_set hc with h | h
      · have := hcb c h; omega
      · omega
    have hc0 : ∀ i, i < T.ops.length → cst T [] i = cl.getD i 0 := fun i hi => by
      have := (pr_none hST.g).eq i hi
      rw [hcl]
      exact this
    have hS := SmT.sm hST (c := cst T []) (fun i hi => CsOk.nil.cst hST.g i hi)
    have hS3 := SmT.sm hST (c := cst T ((tabN T.ops.length fun i => 3 * cl.getD i 0).map iN)) (fun i hi => hok3.cst hST.g i hi)
    have hSd := SmT.sm hST (c := cst T ((dearL cl k y).map iN)) (fun i hi => hokd.cst hST.g i hi)
    have hSl := SmT.sm hSL (c := cst (lessT T ⟨lv, hlo1⟩ k) []) (fun i hi => CsOk.nil.cst hSL.g i hi)
    have hU3 : uns T (cst T ((tabN T.ops.length fun i => 3 * cl.getD i 0).map iN)) = mulU 3 (uns T (cst T [])) := uns_triple fun i hi => by
      rw [cst_given e3l hi, hc0 i hi]
      simp only [List.getD, tabN_at hi, Option.getD_some]
    have hdl : ∀ i, i < T.ops.length → cst T [] i ≤ cst T ((dearL cl k y).map iN) i := fun i hi => by
      rw [hc0 i hi, cst_given edl hi]
      unfold dearL
      by_cases hik : i = k
      · subst hik
        simp only [List.getD, List.getElem?_set_self (show i < cl.length by omega), Option.getD_some]
        omega
      · simp only [List.getD, List.getElem?_set_ne (Ne.symm hik)]
        exact Nat.le_refl _
    simp [g3, rd_tk ob4, raw_vv, raw_nv, raw_gv, raw_ov]
    refine cl_of (new_ok T (.slice none 0 0) [] hST hr4 (Vw.nil _ _) CsOk.nil) ?_
    rintro _ w5 ⟨ba, rfl, hRa, k5⟩
    simp [g3, g11, rd_tk (k5.blk ob4 (by simp)), raw_vv, raw_nv, raw_gv, raw_ov]
    refine cl_of (new_ok T tv _ hST (hr4.kp k5) (vw_n.2 (htv4.kp0 k5)) hok3) ?_
    rintro _ w6 ⟨bb, rfl, hRb, k6⟩
    have k46 := k5.trans k6
    simp [g3, g12, rd_tk (k46.blk ob4 (by simp)), raw_vv, raw_nv, raw_gv, raw_ov]
    refine cl_of (new_ok T dv _ hST (hr4.kp k46) (vw_n.2 (hdv4.kp0 k46)) hokd) ?_
    rintro _ w7 ⟨bc, rfl, hRc, k7⟩
    have k47 := k46.trans k7
    simp [g14, rl k47]
    refine cl_of (new_ok (lessT T ⟨lv, hlo1⟩ k) (.slice none 0 0) [] hSL (hrl.kp k47) (Vw.nil _ _) CsOk.nil) ?_
    rintro _ w8 ⟨bd, rfl, hRd, k8⟩
    have k48 := k47.trans k8
    simp [g3, rd_tk (k48.blk ob4 (by simp)), raw_vv, raw_nv, raw_gv, raw_ov]
    refine cl_of (some_spec T (hr4.kp k48) hST.g (SmT.sts hST)) ?_
    rintro uv w9 ⟨ls, hls, hlsl, k9, hlv⟩
    obtain ⟨ps, hpl, hpv, hpr⟩ := hlv.spread
    have k49 := k48.trans k9
    have ob9 := k49.blk ob4 (by simp)
    have hr9 := hr4.kp k49
    have hRa9 := hRa.kp (((k6.trans k7).trans k8).trans k9)
    have hRb9 := hRb.kp ((k7.trans k8).trans k9)
    have hRc9 := hRc.kp (k8.trans k9)
    have hRd9 := hRd.kp k9
    have k09 := (k1.trans k13).trans (k4.trans k49)
    have hvl := hST.vl
    clear hRa hRb hRc hRd g7 g11 g12 g14 h4
    simp [hpv.len]
    refine range_loop (n := ps.length) (by omega) (fun k ρ w' => ρ 3 = .pointer (some ⟨tb, 0, none⟩) ∧ ρ 15 = .pointer (some ⟨ba, 0, none⟩) ∧ ρ 17 = .pointer (some ⟨bb, 0, none⟩) ∧ ρ 19 = .pointer (some ⟨bc, 0, none⟩) ∧ ρ 21 = .pointer (some ⟨bd, 0, none⟩) ∧ ρ 143 = uv ∧ Kp [] w9 w') (by simp) (by simp)
      ⟨by simp [g3], by simp, by simp, by simp, by simp, by simp, Kp.refl _ _⟩ (by decide) (fun _ _ _ _ h => by simpa using h) (fun _ _ _ _ h => by simpa using h) ?_ ?_
    rotate_left
    · clear g3
      rintro ρ w10 ⟨g3, g15, g17, g19, g21, g143, k10⟩
      simp
      exact k09.trans k10
    clear g3
    rintro j ρ w10 hj hcj hlj ⟨g3, g15, g17, g19, g21, g143, k10⟩
    obtain ⟨p, hp⟩ : ∃ p, ps[j]? = some p := ⟨_, List.getElem?_eq_getElem hj⟩
    obtain ⟨s, hsk, hsv⟩ := hpr j p hp
    have hst := hls s (List.mem_of_getElem? hsk)
    have hpv10 := hpv.kp0 k10
    have ep : w10.cell? (uv.adr.add j) = some p.1.1 := by simpa using hpv10.at_ sv1_len hp (o := 0) (u := p.1.1) rfl
    have hki : (j : Int) < ps.length := by omega
    simp (disch := omega) [g3, g15, g17, g19, g21, g143, hcj, hlj, hpv10.idx, ep]
    refine cl_of (rl_facts p.1.1 s (hRa9.kp k10) (hsv.kp0 k10) hst hS) ?_
    rintro xv w11 ⟨V, hV, k11, hxv⟩
    have k911 := k10.trans k11
    simp [g3, g15, g17, g19, g21, g143]
    refine cl_of (rl_facts p.1.1 s (hRb9.kp k911) (hsv.kp0 k911) hst hS3) ?_
    rintro yv w12 ⟨V3, hV3, k12, hyv⟩
    have k912 := k911.trans k12
    simp [g3, g15, g17, g19, g21, g143]
    refine cl_of (rl_facts p.1.1 s (hRc9.kp k912) (hsv.kp0 k912) hst hSd) ?_
    rintro zv w13 ⟨Vd, hVd, k13', hzv⟩
    have k913 := k912.trans k13'
    simp [g3, g15, g17, g19, g21, g143]
    refine cl_of (rl_facts p.1.1 s (hRd9.kp k913) (hsv.kp0 k913) hst hSl) ?_
    rintro wv w14 ⟨Vl, hVl, k14, hwv⟩
    have k914 := k913.trans k14
    have hwv : LLV iE w14 wv (tbI T.vars (iV Vl)) := hwv
    have hVl : IsVal (uns (lessT T ⟨lv, hlo1⟩ k) (cst (lessT T ⟨lv, hlo1⟩ k) [])) (stN T.vars s T.vars.length) Vl := hVl
    rw [hU3] at hV3
    have hsc := fun g => hV.scaled hV3 (by omega) hS.un.cost (sm_der hS hst) (by have := hS.sm; unfold Inf; omega) g
    have hdr := fun g => dear_le hdl hV hVd g
    have hle := fun g => less_le hV hVl g
    obtain ⟨xp, xpl, xpv, xpr⟩ := (hxv.kp ((k12.trans k13').trans k14)).tb
    obtain ⟨yp, ypl, ypv, ypr⟩ := (hyv.kp (k13'.trans k14)).tb
    obtain ⟨zp, zpl, zpv, zpr⟩ := (hzv.kp k14).tb
    obtain ⟨wp, wpl, wpv, wpr⟩ := hwv.tb
    have oc14 := k914.blk ob9 (by simp)
    unfold tkO at oc14
    simp [g3, g15, g17, g19, g21, g143, cell_blk oc14, raw_vv, (hr9.kp k914).vars.len, xpv.len, ypv.len, zpv.len, wpv.len, xpl, ypl, zpl, wpl]
    refine range_loop (n := T.vars.length) (by omega) (fun v ρ w' => ρ 3 = .pointer (some ⟨tb, 0, none⟩) ∧ ρ 15 = .pointer (some ⟨ba, 0, none⟩) ∧ ρ 17 = .pointer (some ⟨bb, 0, none⟩) ∧ ρ 19 = .pointer (some ⟨bc, 0, none⟩) ∧ ρ 21 = .pointer (some ⟨bd, 0, none⟩) ∧ ρ 143 = uv ∧ ρ 144 = .int .i64 (ps.length : Nat) ∧ ρ 145 = .int .i64 (j : Nat) ∧ ρ 25 = xv ∧ ρ 26 = yv ∧ ρ 27 = zv ∧ ρ 28 = wv ∧ Kp [] w14 w') (by simp) (by simp)
      ⟨by simp [g3], by simp [g15], by simp [g17], by simp [g19], by simp [g21], by simp [g143], by simp [hlj], by simp [hcj], by simp, by simp, by simp, by simp, Kp.refl _ _⟩ (by decide) (fun _ _ _ _ h => by simpa using h) (fun _ _ _ _ h => by simpa using h) ?_ ?_
    rotate_left
    · clear g3 g15 g17 g19 g21 g143 hcj hlj
      rintro ρ w15 ⟨g3, g15, g17, g19, g21, g143, g144, g145, g25, g26, g27, g28, k15⟩
      simp [g3, g15, g17, g19, g21, g143, g144, g145, g25, g26, g27, g28]
      exact k914.trans k15
    clear g3 g15 g17 g19 g21 g143 hcj hlj
    rintro v ρ w15 hv hcv hlv2 ⟨g3, g15, g17, g19, g21, g143, g144, g145, g25, g26, g27, g28, k15⟩
    obtain ⟨xq, hxq⟩ : ∃ p, xp[v]? = some p := ⟨_, List.getElem?_eq_getElem (by omega)⟩
    obtain ⟨yq, hyq⟩ : ∃ p, yp[v]? = some p := ⟨_, List.getElem?_eq_getElem (by omega)⟩
    obtain ⟨zq, hzq⟩ : ∃ p, zp[v]? = some p := ⟨_, List.getElem?_eq_getElem (by omega)⟩
    obtain ⟨wq, hwq⟩ : ∃ p, wp[v]? = some p := ⟨_, List.getElem?_eq_getElem (by omega)⟩
    have i1 : (v : Int) < xp.length := by omega
    have i2 : (v : Int) < yp.length := by omega
    have i3 : (v : Int) < zp.length := by omega
    have i4 : (v : Int) < wp.length := by omega
    have xpv15 := xpv.kp0 k15
    have ex : w15.cell? (xv.adr.add v) = some xq.1.1 := by simpa using xpv15.at_ sv1_len hxq (o := 0) (u := xq.1.1) rfl
    have xr15 := (xpr v xq hxq).kp0 k15
    have hlen : ∀ g : Nat → Int, (rwI T.vars g v).length = T.vars.getD v 0 := fun g => rwI_len _ _ _
    have hrng : T.vars.getD v 0 ≤ 64 := (hST.g.vars (T.vars.getD v 0) (by simp [List.getD, List.getElem?_eq_getElem hv])).2
    obtain ⟨n, hn⟩ : ∃ n, n = T.vars.getD v 0 := ⟨_, rfl⟩
    rw [← hn] at hrng
    simp only [← hn] at hlen
    simp (disch := omega) [hcv, hlv2, g25, xpv15.idx, ex, xr15.len, hlen]
    refine range_loop (n := n) (by omega) (fun x ρ w' => ρ 3 = .pointer (some ⟨tb, 0, none⟩) ∧ ρ 15 = .pointer (some ⟨ba, 0, none⟩) ∧ ρ 17 = .pointer (some ⟨bb, 0, none⟩) ∧ ρ 19 = .pointer (some ⟨bc, 0, none⟩) ∧ ρ 21 = .pointer (some ⟨bd, 0, none⟩) ∧ ρ 143 = uv ∧ ρ 144 = .int .i64 (ps.length : Nat) ∧ ρ 145 = .int .i64 (j : Nat) ∧ ρ 25 = xv ∧ ρ 26 = yv ∧ ρ 27 = zv ∧ ρ 28 = wv ∧ ρ 189 = .int .i64 (T.vars.length : Nat) ∧ ρ 190 = .int .i64 (v : Nat) ∧ ρ 29 = .int .i64 (v : Nat) ∧ Kp [] w14 w') (by simp) (by simp)
      ⟨by simp [g3], by simp [g15], by simp [g17], by simp [g19], by simp [g21], by simp [g143], by simp [g144], by simp [g145], by simp [g25], by simp [g26], by simp [g27], by simp [g28], by simp [hlv2], by simp [hcv], by simp, k15⟩ (by decide) (fun _ _ _ _ h => by simpa using h) (fun _ _ _ _ h => by simpa using h) ?_ ?_
    rotate_left
    · clear g3 g15 g17 g19 g21 g143 g144 g145 g25 g26 g27 g28 hcv hlv2
      rintro ρ w16 ⟨g3, g15, g17, g19, g21, g143, g144, g145, g25, g26, g27, g28, g189, g190, g29, k16⟩
      simp [g3, g15, g17, g19, g21, g143, g144, g145, g25, g26, g27, g28, g189, g190]
      exact k16
    clear g3 g15 g17 g19 g21 g143 g144 g145 g25 g26 g27 g28 hcv hlv2
    rintro z ρ w16 hz hcz hlz ⟨g3, g15, g17, g19, g21, g143, g144, g145, g25, g26, g27, g28, g189, g190, g29, k16⟩
    have hzn : z < T.vars.getD v 0 := by omega
    have hzi : (z : Int) < n := by omega
    have xpv16 := xpv.kp0 k16
    have ypv16 := ypv.kp0 k16
    have zpv16 := zpv.kp0 k16
    have wpv16 := wpv.kp0 k16
    have ex : w16.cell? (xv.adr.add v) = some xq.1.1 := by simpa using xpv16.at_ sv1_len hxq (o := 0) (u := xq.1.1) rfl
    have ey : w16.cell? (yv.adr.add v) = some yq.1.1 := by simpa using ypv16.at_ sv1_len hyq (o := 0) (u := yq.1.1) rfl
    have ez : w16.cell? (zv.adr.add v) = some zq.1.1 := by simpa using zpv16.at_ sv1_len hzq (o := 0) (u := zq.1.1) rfl
    have ew : w16.cell? (wv.adr.add v) = some wq.1.1 := by simpa using wpv16.at_ sv1_len hwq (o := 0) (u := wq.1.1) rfl
    have xr16 := (xpr v xq hxq).kp0 k16
    have yr16 := (ypr v yq hyq).kp0 k16
    have zr16 := (zpr v zq hzq).kp0 k16
    have wr16 := (wpr v wq hwq).kp0 k16
    have cx := iE_cell xr16 (rwI_at hzn)
    have cy2 := iE_cell yr16 (rwI_at hzn)
    have cz := iE_cell zr16 (rwI_at hzn)
    have cw := iE_cell wr16 (rwI_at hzn)
    obtain ⟨g, hg⟩ : ∃ g, g = psum T.vars v + z := ⟨_, rfl⟩
    rw [← hg] at cx cy2 cz cw
    have q1 : (z : Int) < (rwI T.vars (iV V) v).length := by rw [hlen]; exact hzi
    have q2 : (z : Int) < (rwI T.vars (iV V3) v).length := by rw [hlen]; exact hzi
    have q3 : (z : Int) < (rwI T.vars (iV Vd) v).length := by rw [hlen]; exact hzi
    have q4 : (z : Int) < (rwI T.vars (iV Vl) v).length := by rw [hlen]; exact hzi
    have k16d := k16.trans (Kp.refl [] w16).drew
    obtain ⟨s1, s2⟩ := hsc g
    have s3 : ¬ iV Vd g < iV V g := by have := hdr g; unfold iV; omega
    have s4 : ¬ iV Vl g < iV V g := by have := hle g; unfold iV; omega
    by_cases hi : Inf ≤ V g
    · have r1 : (1125899906842624 : Int) ≤ iV V g := by unfold Inf at hi; unfold iV; omega
      have r2 : ¬ iV V3 g < (1125899906842624 : Int) := by have := s2 hi; unfold Inf at this; unfold iV; omega
      simp (disch := omega) [g3, g15, g17, g19, g21, g143, g144, g145, g25, g26, g27, g28, g29, hcz, hlz, xpv16.idx, ypv16.idx, zpv16.idx, wpv16.idx, ex, ey, ez, ew, xr16.idx, yr16.idx, zr16.idx, wr16.idx, hlen, cx, cy2, cz, cw, r1, r2, s3, s4]
      exact ⟨g189, g190, k16d⟩
    · have r1 : ¬ (1125899906842624 : Int) ≤ iV V g := by unfold Inf at hi; unfold iV; omega
      have r0 : V g < Inf := by omega
      have r2 : iV V3 g = 3 * iV V g := by have := s1 r0; unfold iV; omega
      have r3 : IntKind.i64.wrap (3 * iV V g) = 3 * iV V g := wrap_i64 (by unfold iV; omega) (by unfold Inf at r0; unfold iV; omega)
      simp (disch := omega) [g3, g15, g17, g19, g21, g143, g144, g145, g25, g26, g27, g28, g29, hcz, hlz, xpv16.idx, ypv16.idx, zpv16.idx, wpv16.idx, ex, ey, ez, ew, xr16.idx, yr16.idx, zr16.idx, wr16.idx, hlen, cx, cy2, cz, cw, r1, r2, r3, s3, s4]
      exact ⟨g189, g190, k16d.trans (Kp.refl [] _).drew⟩
end Go.Proofs.Ytjpbkljnllkneaa
