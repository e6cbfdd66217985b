/-
  A part of the proof of this claim's statement (WhX, LibN, RxZA, WhZA): plain theorems; no conditions beyond those each names.
-/
import Derived.Test.YtolkjbmcindhjaaGreatPk26
import Derived.Test.YtolkjbmcindhjaaGreatPk06
import Derived.Test.YtolkjbmcindhjaaGreatPk05
import Derived.HandedShaped
import Derived.Shelf.Vars
import Derived.Test.YtolkjbmcindhjaaGreatPk19
import Derived.OpenShut
import Derived.Test.YtolkjbmcindhjaaGreatRows
section
set_option maxRecDepth 100000
set_option linter.unusedSimpArgs false
set_option linter.unusedVariables false
namespace Go.Proofs.YtolkjbmcindhjaaGreat
open Go Go.W Go.Tk Go.Rx Go.Maps
def u8E (n : Nat) : List Value := [.int .u8 (n : Nat)]
theorem u8E_len (n : Nat) : (u8E n).length = 1 := rfl
theorem u8_cell {w : World} {v : Value} {l : List Nat} {k x : Nat} (h : Vw w v u8E l) (hx : l[k]? = some x) : w.cell? (v.adr.add k) = some (.int .u8 (x : Nat)) := by
  simpa using h.at_ u8E_len hx (o := 0) (u := .int .u8 (x : Nat)) rfl
theorem tmT_of {T : Nt} (hs : SmT T) (h : TmN T) (h1 : T.ops.length ≤ 10) (h2 : T.vars.length ≤ 4) : TmT T := ⟨hs, h.v, h2, h1⟩
theorem psm_zip {q : Nat} : ∀ {ds : List Dx} {pts : List (List Nat)}, pts.length = ds.length → psm q ((ds.zip pts).map fun d => dbT d.1 d.2) = (pts.map fun p => p.getD q 0).sum
  | [], [], _ => rfl
  | [], p :: pts, h => by simp at h
  | d :: ds, [], h => by simp at h
  | d :: ds, p :: pts, h => by
    have ih := psm_zip (q := q) (ds := ds) (pts := pts) (by simpa using h)
    simp only [psm, List.zip_cons_cons, List.map_cons, List.sum_cons] at ih ⊢
    rw [ih]
    rfl
theorem zip_fst {ds : List Dx} {pts : List (List Nat)} (h : pts.length = ds.length) : ((ds.zip pts).map fun d => dbT d.1 d.2).map (fun d => (d.1, d.2.1)) = (ds.map fun x => dbT x []).map fun d => (d.1, d.2.1) := by
  rw [List.map_map, List.map_map]
  have e : (ds.zip pts).map Prod.fst = ds := List.map_fst_zip (by omega)
  conv => rhs; rw [← e, List.map_map]
  rfl
/-- A partition at its end. -/
theorem SpI.pt {T : Nt} {ds : List Dx} {pts : List (List Nat)} {lf : List Nat} (h : SpI T ds pts lf) (hl : ds.length ≤ 12) : PtOk T ((ds.zip pts).map fun d => dbT d.1 d.2) := {
  db := fun d hd => by
    obtain ⟨x, hx, rfl⟩ := List.mem_map.1 hd
    exact (h.db x hx).1
  len := by simp; omega
  pt := fun d hd => by
    obtain ⟨x, hx, rfl⟩ := List.mem_map.1 hd
    exact (h.db x hx).2
  sum := fun q o ho => by have := h.sum q o ho; omega }
theorem SpI.dbs {T : Nt} {ds : List Dx} {pts : List (List Nat)} {lf : List Nat} (h : SpI T ds pts lf) : ∀ x ∈ ds, Pt T x.1 ∧ ∀ i, x.2.1.V i ≤ Inf ∧ (x.2.1.V i < Inf → x.2.1.V i ≤ 4096 * 1048576) := fun x hx => by
  obtain ⟨k, hk, rfl⟩ := List.getElem_of_mem hx
  have hz : (ds[k], pts[k]'(by rw [h.pl]; exact hk)) ∈ ds.zip pts := by
    rw [List.mem_iff_getElem]
    exact ⟨k, by simp [h.pl]; omega, by simp⟩
  obtain ⟨⟨c, hd⟩, hp⟩ := h.db _ hz
  exact ⟨hp, fun i => ⟨hd.le i, hd.bd i⟩⟩
theorem SpI.plen {T : Nt} {ds : List Dx} {pts : List (List Nat)} {lf : List Nat} (h : SpI T ds pts lf) : ∀ p ∈ pts, p.length = T.ops.length := fun p hp => by
  obtain ⟨k, hk, rfl⟩ := List.getElem_of_mem hp
  have hz : (ds[k]'(by rw [← h.pl]; exact hk), pts[k]) ∈ ds.zip pts := by
    rw [List.mem_iff_getElem]
    exact ⟨k, by simp [h.pl]; have := h.pl; omega, by simp⟩
  obtain ⟨⟨c, hd⟩, hp⟩ := h.db _ hz
  exact hd.pl
theorem sum_take_le9 (l : List Nat) (i : Nat) : (l.take i).sum ≤ l.sum := by
  have : l.sum = (l.take i).sum + (l.drop i).sum := by rw [← List.sum_append, List.take_append_drop]
  omega
abbrev FrL (T : Nt) (tb : Nat) (lv : Value) (ps ps0 : List (Cell1 × List Nat)) : Asr := Star (OwnA lv 22 1 sv1 ps) (Star (VwsA nE ps0) (FrN T tb))
theorem lcl_l {T : Nt} {tb : Nat} {lv : Value} {ps ps0 : List (Cell1 × List Nat)} : Lcl (FrL T tb lv ps ps0) := Lcl.own.star (Lcl.vws.star lcl_n)
def SlA (T : Nt) (tb : Nat) (lv ov : Value) (ps0 : List (Cell1 × List Nat)) (w : World) (k : Nat) (ρ : Env) (w' : World) : Prop :=
  ρ 3 = .pointer (some ⟨tb, 0, none⟩) ∧ ρ 7 = lv ∧ ρ 58 = ov ∧ ∃ ps, ps.length = ps0.length ∧ (∀ p ∈ ps, p ∈ ps0) ∧ At w [] (FrL T tb lv ps ps0) w'
set_option maxHeartbeats 4000000 in
theorem law_saturated {w : World} (t : Tk) (sz : Nat) (ov : Value) (ol : List Nat) (ht : TkR w t) (hl : TkL t) (hsz : sz ≤ 255) (ho : Vw w ov u8E ol) (hob : ∀ c ∈ ol, c ≤ 255) (holen : ol.length ≤ 9223372036854775807) :
    Calls Tryz.prog 3 [tkV t, .int .u8 (sz : Nat), ov].toArray w fun e w' => ∃ x, e = .returned x ∧ x = .bool true ∧ Kp [] w w' := by
  refine enter Tryz.func3 mixed low3 (Nat.le_of_ble_eq_true rfl) ?_
  simp only [L3]
  obtain ⟨tb, htb⟩ : ∃ tb, tb = w.heap.size := ⟨_, rfl⟩
  obtain ⟨w1, hw1⟩ : ∃ w1, w1 = w.alloc (tkO t) := ⟨_, rfl⟩
  have h1 : At w [] (Star (ObjA tb (tkO t)) Emp) w1 := by rw [hw1, htb]; exact (At.start rfl).alloc _ .emp
  have hw1' : w.alloc (.cells #[t.vv.1, t.nv.1, t.gv.1, t.ov.1] 26 (0, 0)) = w1 := by rw [hw1]; rfl
  have hL : Lcl (Star (ObjA tb (tkO t)) Emp) := Lcl.obj.star .emp
  simp [tkV, ← htb, hw1', rd_tk h1.obj]
  refine cl_of (tame_spec t (ht.kp h1.kp) hl) ?_
  rintro _ w2 ⟨bt, rfl, hbt, k2⟩
  have h2 := h1.kp0 hL k2
  cases bt with
  | false =>
    simp
    refine cl_of pawake_spec ?_
    rintro _ w3 ⟨rfl, k3⟩
    simp
    exact h2.kp.trans k3
  | true =>
  obtain ⟨T, rfl, hs, htm⟩ := hbt rfl
  have hr : NtR w T := NtR.raw.1 ht
  have h2 : At w [] (FrN T tb) w2 := h2
  have ob2 := h2.obj
  unfold ntO at ob2
  have hr2 := hr.kp h2.kp
  have fin : ∀ {ρ : Env} {K : Kont (Value × World)}, (∀ w', Kp [] w w' → K.run (.bool true, w')) → @clJ Tryz.prog w2 7 [] K := fun {ρ K} H => by
    refine cl_of pawake_spec ?_
    rintro _ w3 ⟨rfl, k3⟩
    exact H w3 (h2.kp.trans k3)
  by_cases t1 : 10 < T.ops.length
  · have t1' : (10 : Int) < (T.ops.length : Int) := by omega
    simp [cell_blk ob2, hr2.ops.len, t1, t1']
    refine cl_of pawake_spec ?_
    rintro _ w3 ⟨rfl, k3⟩
    simp
    exact h2.kp.trans k3
  have t1' : ¬ (10 : Int) < (T.ops.length : Int) := by omega
  by_cases t2 : 4 < T.vars.length
  · have t2' : (4 : Int) < (T.vars.length : Int) := by omega
    simp [cell_blk ob2, hr2.ops.len, hr2.vars.len, t1, t1', t2, t2']
    refine cl_of pawake_spec ?_
    rintro _ w3 ⟨rfl, k3⟩
    simp
    exact h2.kp.trans k3
  have t2' : ¬ (4 : Int) < (T.vars.length : Int) := by omega
  by_cases t3 : 20 < ol.length
  · have t3' : (20 : Int) < (ol.length : Int) := by omega
    simp [cell_blk ob2, hr2.ops.len, hr2.vars.len, t1, t1', t2, t2', (ho.kp0 h2.kp).len, t3, t3']
    refine cl_of pawake_spec ?_
    rintro _ w3 ⟨rfl, k3⟩
    simp
    exact h2.kp.trans k3
  have t3' : ¬ (20 : Int) < (ol.length : Int) := by omega
  have hT : TmT T := tmT_of hs htm (by omega) (by omega)
  simp [cell_blk ob2, hr2.ops.len, hr2.vars.len, t1, t1', t2, t2', (ho.kp0 h2.kp).len, t3, t3']
  refine cl_of pawake_spec ?_
  rintro _ w3 ⟨rfl, k3⟩
  have h3 := h2.kp0 lcl_n k3
  obtain ⟨z, hz⟩ : ∃ z, z = sz % 2 + 1 := ⟨_, rfl⟩
  have e1 : (sz : Int).tmod 2 = ((sz % 2 : Nat) : Int) := by rw [Int.tmod_eq_emod_of_nonneg (by omega)]; simp
  obtain ⟨z0, hz0⟩ : ∃ z0, z0 = sz % 2 := ⟨_, rfl⟩
  rw [← hz0] at e1 hz
  have hz1 : z0 ≤ 1 := by omega
  have e2 : (1 : Int) + (z0 : Int) = (z : Int) := by omega
  have hrem : ∀ K : Kont Value, @intH .rem .u8 ((sz : Nat) : Int) .u8 2 K = K.run (.int .u8 (z0 : Nat)) := fun K => by
    simp [e1]
  have hcnv : ∀ K : Kont Value, @cnvH Tryz.prog 5 3 (.int .u8 (z0 : Nat)) K = K.run (.int .i64 (z0 : Nat)) := fun K => by
    simp (disch := omega) [wrap_i64]
  have hadd : ∀ K : Kont Value, @intH .add .i64 1 .i64 ((z0 : Nat) : Int) K = K.run (.int .i64 (z : Nat)) := fun K => by
    rw [intS_add, e2, wrap_i64 (by omega) (by omega)]
  simp [-intS_add, -intS_rem, -cnvS_i, hrem, hcnv, hadd, rd_nt h3.obj]
  refine cl_of (systematic_spec T z hT (hr.kp h3.kp) (by omega)) ?_
  rintro _ w4 ⟨lv, lp, rfl, hlp, h4⟩
  have h5 := At.join lcl_n h3 h4
  obtain ⟨ps0, hps0, h6⟩ := LLA.opn h5
  have hl0 : ps0.length = lp.length := by rw [← hps0]; simp
  have hll := hlp.len
  have e3 : (T.ops.length : Int) = T.ops.length := rfl
  simp [(ho.kp0 h6.kp).len]
  refine range_loop (n := ol.length) (by omega) (SlA T tb lv ov ps0 w) (by simp) (by simp)
    ⟨by simp, by simp, by simp, ps0, rfl, fun p h => h, h6⟩ (by decide) (fun _ _ _ _ h => by simpa [SlA] using h) (fun _ _ _ _ h => by simpa [SlA] using h) ?_ ?_
  · clear h1 h2 h3 h4 h5 h6 k2 k3 ob2 hr2 hw1 hw1' htb fin
    rintro k ρ w7 hk hc hlm ⟨g3, g7, g58, ps, hpl, hps, h7⟩
    obtain ⟨c, hcc⟩ : ∃ c, ol[k]? = some c := ⟨_, List.getElem?_eq_getElem hk⟩
    have hcb := hob c (List.mem_of_getElem? hcc)
    have ho7 := ho.kp0 h7.kp
    have hki : (k : Int) < ol.length := by omega
    have hO := h7.own
    by_cases t4 : 0 < ps.length
    · have t4' : (0 : Int) < (ps.length : Int) := by omega
      obtain ⟨a, ha⟩ : ∃ a, a = k % ps.length := ⟨_, rfl⟩
      obtain ⟨b, hb⟩ : ∃ b, b = c % ps.length := ⟨_, rfl⟩
      have hal : a < ps.length := by rw [ha]; exact Nat.mod_lt _ t4
      have hbl : b < ps.length := by rw [hb]; exact Nat.mod_lt _ t4
      have ea : (k : Int).tmod (ps.length : Int) = (a : Int) := by rw [Int.tmod_eq_emod_of_nonneg (by omega), ha]; simp
      have eb : (c : Int).tmod (ps.length : Int) = (b : Int) := by rw [Int.tmod_eq_emod_of_nonneg (by omega), hb]; simp
      obtain ⟨pa, hpa⟩ : ∃ pa, ps[a]? = some pa := ⟨_, List.getElem?_eq_getElem hal⟩
      obtain ⟨pb, hpb⟩ : ∃ pb, ps[b]? = some pb := ⟨_, List.getElem?_eq_getElem hbl⟩
      have ca : w7.cell? ⟨lv.blk, a, none⟩ = some pa.1.1 := by
        have := hO.cell sv1_len hpa (o := 0) (by omega)
        simpa [sv1] using this
      have cb : w7.cell? ⟨lv.blk, b, none⟩ = some pb.1.1 := by
        have := hO.cell sv1_len hpb (o := 0) (by omega)
        simpa [sv1] using this
      have ia : (a : Int) < ps.length := by omega
      have ib : (b : Int) < ps.length := by omega
      have hn0 : ¬ ps.length = 0 := by omega
      have hne : ps ≠ [] := by intro e; rw [e] at hn0; exact hn0 rfl
      have hcv : ∀ {K : Kont Value}, @cnvH Tryz.prog 5 3 (.int .u8 (c : Nat)) K = K.run (.int .i64 (c : Nat)) := by
        intro K
        simp (disch := omega) [wrap_i64]
      have hra : ∀ {K : Kont Value}, @intH .rem .i64 (k : Nat) .i64 (ps.length : Nat) K = K.run (.int .i64 (a : Nat)) := by
        intro K
        simp [ea, hne]
      have hrb : ∀ {K : Kont Value}, @intH .rem .i64 (c : Nat) .i64 (ps.length : Nat) K = K.run (.int .i64 (b : Nat)) := by
        intro K
        simp [eb, hne]
      simp (disch := omega) [-cnvS_i, -intS_rem, hcv, hra, hrb, g58, hc, hlm, ho7.idx, u8_cell ho7 hcc, g7, hO.len, t4, t4', hO.idx, ca, cb, (h7.drop.vws (hps _ (List.mem_of_getElem? hpa))).c1, (h7.drop.vws (hps _ (List.mem_of_getElem? hpb))).c1]
      refine (h7.drew lcl_l).drew lcl_l |>.store1 (Lcl.vws.star lcl_n) sv1_len sv1_one hal (x := pb) rfl fun w8 h8 => ?_
      have hO8 := h8.own
      have ib8 : (b : Int) < (ps.set a pb).length := by simp; omega
      simp (disch := omega) [g7, eb, hO8.idx, (h8.drop.vws (hps _ (List.mem_of_getElem? hpa))).c1]
      refine h8.store1 (Lcl.vws.star lcl_n) sv1_len sv1_one (k := b) (by simp; omega) (x := pa) rfl fun w9 h9 => ?_
      simp [hc, hlm]
      refine ⟨by simp [g3], by simp [g7], by simp [g58], (ps.set a pb).set b pa, by simp [hpl], fun p hp => ?_, h9⟩
      rcases List.mem_or_eq_of_mem_set hp with h | h
      · rcases List.mem_or_eq_of_mem_set h with h' | h'
        · exact hps p h'
        · rw [h']; exact hps _ (List.mem_of_getElem? hpb)
      · rw [h]; exact hps _ (List.mem_of_getElem? hpa)
    · have t4' : ¬ (0 : Int) < (ps.length : Int) := by omega
      simp (disch := omega) [g58, hc, hlm, ho7.idx, u8_cell ho7 hcc, g7, hO.len, t4, t4']
      exact ⟨by simp [g3], by simp [g7], by simp [g58], ps, hpl, hps, h7⟩
  clear h1 h2 h3 h4 h5 h6 k2 k3 ob2 hr2 hw1 hw1' htb fin
  rintro ρ w7 ⟨g3, g7, g58, ps, hpl, hps, h7⟩
  obtain ⟨m, hm⟩ : ∃ m, m = min ps.length 12 := ⟨_, rfl⟩
  have em : min (ps.length : Int) 12 = (m : Int) := by omega
  have hm12 : m ≤ 12 := by omega
  have hmp : m ≤ ps.length := by omega
  have r7 := rd_nt h7.drop.drop.obj
  have hr7 := hr.kp h7.kp
  simp (disch := omega) [g7, h7.own.len, em]
  refine h7.own.vw.slice_hi sv1_len sl_30 hmp fun lv2 hv2 _ => ?_
  have hPs : PsR w7 T lv2 ((ps.take m).map (·.2)) := ⟨⟨ps.take m, rfl, hv2, fun p hp => h7.drop.vws (hps p (List.mem_of_mem_take hp))⟩, fun q hq => by
    obtain ⟨p, hp, rfl⟩ := List.mem_map.1 hq
    refine hlp.pt p.2 ?_
    rw [← hps0]
    exact List.mem_map.2 ⟨p, hps p (List.mem_of_mem_take hp), rfl⟩⟩
  have hptl : ((ps.take m).map (·.2)).length = m := by simp; omega
  simp [g3, r7]
  refine cl_of (saNew_spec T lv2 _ hT hr7 hPs (by omega)) ?_
  rintro _ w8 ⟨pb, vv, dv, tv, ds, qs, lf, rfl, hSp, hdl, h8⟩
  rw [hptl] at hdl
  have hR8 := PaA.rd h8
  have k8 := h8.kp
  have hqpl : (qs.map (·.2)).length = m := by rw [hSp.pl]; exact hdl
  simp
  refine cl_of (parts_spec T pb ds _ vv dv tv hR8 (by omega) (fun p hp => by have := hSp.plen p hp; omega)) ?_
  rintro uv w9 h9
  obtain ⟨us, husm, husl, husv, husa⟩ := (LLA.vw h9).vw1
  have k9 := k8.trans0 h9.kp
  have hus : us.length = m := by rw [husl]; exact hqpl
  have hlv9 := hv2.kp0 k9
  have hlv9l : (ps.take m).length = m := by simp; omega
  have hmn : min m ps.length = m := by omega
  have n5 : ((us.length : Int) != (m : Int)) = false := by rw [hus]; simp
  have ob9 : w9.heap[tb]? = some (ntO T) := k9.blk h7.drop.drop.obj (by simp)
  have ob9' := ob9
  unfold ntO at ob9'
  have hr9 := hr7.kp k9
  have hol := hT.ol
  simp (disch := omega) [husv.len, hlv9.len, hmn, n5, g3, cell_blk ob9', hr9.ops.len]
  have hR9 := hR8.kp h9.kp
  refine range_loop (n := T.ops.length) (by omega) (fun k ρ w' => ρ 3 = .pointer (some ⟨tb, 0, none⟩) ∧ ρ 13 = .pointer (some ⟨pb, 0, none⟩) ∧ ρ 14 = uv ∧ ρ 113 = T.ov.1 ∧ At w9 [] Emp w') (by simp) (by simp)
    ⟨by simp [g3], by simp, by simp, by simp, At.start rfl⟩ (by decide) (fun _ _ _ _ h => by simpa using h) (fun _ _ _ _ h => by simpa using h) ?_ ?_
  · rintro k ρ wA hk hc hlm ⟨g3, g13, g14, g113, hA⟩
    obtain ⟨o, ho'⟩ : ∃ o, T.ops[k]? = some o := ⟨_, List.getElem?_eq_getElem hk⟩
    have hrA := hr9.kp hA.kp
    have eco := hrA.ops.cells noE_len ho'
    simp only [noE] at eco
    obtain ⟨ob, hob'⟩ : ∃ ob, ob = wA.heap.size := ⟨_, rfl⟩
    have hki : (k : Int) < T.ops.length := by omega
    simp (disch := omega) [g113, hc, hlm, hrA.ops.idx, eco, ← hob']
    refine st_oq (o := o.raw) .emp hA hob' fun wB hB => ?_
    simp (disch := omega) [g14, (husv.kp0 hB.kp).len]
    obtain ⟨cs, hcs⟩ : ∃ cs, cs = (qs.map (·.2)).map fun p => p.getD k 0 := ⟨_, rfl⟩
    have hpsm := psm_zip (q := k) hSp.pl
    rw [← hcs] at hpsm
    have hsum := hSp.sum k o ho'
    rw [hpsm] at hsum
    have hcost := (hs.g.ops o (List.mem_of_getElem? ho')).cost
    have hcsl : cs.length = m := by rw [hcs, List.length_map]; exact hqpl
    refine range_loop (n := us.length) (by omega) (fun i ρ w' => ρ 3 = .pointer (some ⟨tb, 0, none⟩) ∧ ρ 13 = .pointer (some ⟨pb, 0, none⟩) ∧ ρ 14 = uv ∧ ρ 113 = T.ov.1 ∧ ρ 115 = .int .i64 (k : Nat) ∧ ρ 114 = .int .i64 (T.ops.length : Nat) ∧ ρ 15 = .int .i64 (k : Nat) ∧ ρ 16 = .pointer (some ⟨ob, 0, none⟩) ∧ ρ 17 = .int .i64 ((cs.take i).sum : Nat) ∧ At w9 [] (Star (ObjA ob (oqO o.raw)) Emp) w') (by simp) (by simp)
      ⟨by simp [g3], by simp [g13], by simp [g14], by simp [g113], by simp [hc], by simp [hlm], by simp [hc], by simp [← hob'], by simp, hB⟩ (by decide) (fun _ _ _ _ h => by simpa using h) (fun _ _ _ _ h => by simpa using h) ?_ ?_
    rotate_left
    · rintro ρ wC ⟨g3, g13, g14, g113, g115, g114, g15, g16, g17, hC⟩
      have e1 : cs.take us.length = cs := List.take_of_length_le (by omega)
      rw [e1] at g17
      have oC := hC.obj
      unfold oqO No.raw at oC
      obtain ⟨sm, hsm⟩ : ∃ sm, sm = cs.sum := ⟨_, rfl⟩
      rw [← hsm] at g17 hsum
      have n1 : ¬ (o.cost : Int) < (sm : Int) := by omega
      have n1' : ¬ o.cost < sm := by omega
      simp [g16, g17, cell_blk oC, n1, n1', g115, g114]
      exact ⟨by simp [g3], by simp [g13], by simp [g14], by simp [g113], hC.drop⟩
    clear hA hB hrA eco hob' g3 g13 g14 g113 hc hlm
    rintro i ρ wC hi hci hli ⟨g3, g13, g14, g113, g115, g114, g15, g16, g17, hC⟩
    obtain ⟨x, hx⟩ : ∃ x, us[i]? = some x := ⟨_, List.getElem?_eq_getElem hi⟩
    obtain ⟨hx1, hx2, hx3⟩ := husa i x hx
    have hxl := hSp.plen x.2 (List.mem_of_getElem? hx3)
    obtain ⟨y, hy⟩ : ∃ y, x.2[k]? = some y := ⟨_, List.getElem?_eq_getElem (by rw [hxl]; exact hk)⟩
    have hcy : cs[i]? = some y := by
      rw [hcs, List.getElem?_map, hx3]
      simp [List.getD, hy]
    have hxc : wC.cell? (uv.adr.add i) = some x.1.1 := hC.kp.cell hx1 (by simp)
    have hvC := husv.kp0 hC.kp
    have hxC := hx2.kp0 hC.kp
    have obC := hC.kp.blk ob9 (by simp)
    unfold ntO at obC
    have hrC := hr9.kp hC.kp
    have hii : (i : Int) < us.length := by omega
    have hkx : (k : Int) < x.2.length := by rw [hxl]; omega
    have n1 : ((x.2.length : Int) != (T.ops.length : Int)) = false := by rw [hxl]; simp
    have n2 : ¬ (y : Int) < 0 := by omega
    obtain ⟨s0, hs0⟩ : ∃ s0, s0 = (cs.take i).sum := ⟨_, rfl⟩
    obtain ⟨s1, hs1⟩ : ∃ s1, s1 = (cs.take (i + 1)).sum := ⟨_, rfl⟩
    have hs01 : s1 = s0 + y := by rw [hs1, hs0, take_snoc hcy]; simp
    have hs1b : s1 ≤ cs.sum := by rw [hs1]; exact sum_take_le9 _ _
    have hsi : (s0 : Int) + (y : Int) = (s1 : Int) := by omega
    rw [← hs0] at g17
    simp (disch := omega) [g14, hci, hli, hvC.idx, hxc, hxC.len, g3, cell_blk obC, hrC.ops.len, n1, g15, hxC.idx, nE_cell hxC hy, n2, g17, hsi, wrap_i64]
    exact ⟨by simp [g13], by simp [g113], by simp [g115], by simp [g114], by simp [g16], by rw [hs1], hC.drew (Lcl.obj.star .emp)⟩
  rintro ρ wA ⟨g3, g13, g14, g113, hA⟩
  have obA := hA.kp.blk ob9 (by simp)
  have hrA := hr9.kp hA.kp
  simp [g3, rd_nt obA]
  refine cl_of (distances_spec T (.slice none 0 0) (fun i => (T.ops.map (·.cost)).getD i 0) hrA hs (.inl ⟨rfl, fun i o ho => getD_map_cost ho⟩) (fun i hi => ?_)) ?_
  · obtain ⟨o, ho⟩ : ∃ o, T.ops[i]? = some o := ⟨_, List.getElem?_eq_getElem hi⟩
    rw [getD_map_cost ho]
    exact (hs.g.ops o (List.mem_of_getElem? ho)).cost
  rintro bv wB ⟨d, hdl', hdok, hdcl, hdv, kB⟩
  have obB := kB.blk obA (by simp)
  unfold ntO at obB
  have hrB := hrA.kp kB
  have hvl := hs.vl
  simp [g3, cell_blk obB]
  refine cl_of (states_spec T.vv.1 T.vars hrB.vars (by omega) (fun n hn => by have := hs.g.vars n hn; omega) (SmT.sts hs) (fun k hk s hs' => by have := (sts_ok k hk s hs').1; omega)) ?_
  rintro xv wC hC
  obtain ⟨ss, hssm, hssl, hssv, hssa⟩ := (LLA.vw hC).vw1
  have hPt := hSp.pt (by omega : ds.length ≤ 12)
  have hlow : Low (edA T) (fun i => (T.ops.map (·.cost)).getD i 0) (goalB T) (hW T ((ds.zip (qs.map (·.2))).map fun d => dbT d.1 d.2)) := hW_low (fun i o ho => getD_map_cost ho) hPt hs
  have hRC := hR9.kp ((hA.kp.trans kB).trans0 hC.kp)
  have hdvC := hdv.kp0 hC.kp
  have h512 := sts512 hs
  have hall : Kp [] w wC := ((((h7.kp.trans k9).trans hA.kp).trans kB).trans0 hC.kp)
  simp [hssv.len]
  refine range_loop (n := ss.length) (by omega) (fun k ρ w' => ρ 13 = .pointer (some ⟨pb, 0, none⟩) ∧ ρ 19 = bv ∧ ρ 163 = xv ∧ Kp [] wC w') (by simp) (by simp)
    ⟨by simp [g13], by simp, by simp, Kp.refl _ _⟩ (by decide) (fun _ _ _ _ h => by simpa using h) (fun _ _ _ _ h => by simpa using h) ?_ ?_
  rotate_left
  · rintro ρ wD ⟨g13, g19, g163, kD⟩
    simp
    exact hall.trans kD
  rintro k ρ wD hk hc hlm ⟨g13, g19, g163, kD⟩
  obtain ⟨x, hx⟩ : ∃ x, ss[k]? = some x := ⟨_, List.getElem?_eq_getElem hk⟩
  obtain ⟨hx1, hx2, hx3⟩ := hssa k x hx
  have hst := sts_st (List.mem_of_getElem? hx3)
  have hxc : wD.cell? (xv.adr.add k) = some x.1.1 := kD.cell hx1 (by simp)
  have hvD := hssv.kp0 kD
  have hkd : k < d.length := by omega
  obtain ⟨y, hy⟩ : ∃ y, d[k]? = some y := ⟨_, List.getElem?_eq_getElem hkd⟩
  have hyd : d.getD k 0 = y := by simp [List.getD, hy]
  have hdD := hdvC.kp0 kD
  have hki : (k : Int) < ss.length := by omega
  have hkdi : (k : Int) < d.length := by omega
  have hbest := hdok.low _ hlow k hkd
  rw [hW_at hx3, hyd, hvL_congr (zip_fst hSp.pl)] at hbest
  obtain ⟨V, hV⟩ : ∃ V, V = hvL T.vars x.2 (ds.map fun x => dbT x []) 0 := ⟨_, rfl⟩
  rw [← hV] at hbest
  have n1 : ¬ (y : Int) < (V : Int) := by omega
  have n1' : ¬ y < V := by omega
  simp (disch := omega) [g163, hc, hlm, hvD.idx, hxc, g13, g19, hdD.idx, nE_cell hdD hy]
  refine ⟨?_, ?_⟩
  all_goals
    refine cl_of (savalue_spec T pb ds _ vv dv tv x.1.1 x.2 hT ((hRC.kp kD).kp (Kp.refl [] _).drew) (by omega) ((hx2.kp0 kD).kp0 (Kp.refl [] _).drew) hst hSp.dbs) ?_
    rintro _ wE ⟨rfl, kE⟩
    rw [← hV]
    have hdE := hdD.kp0 kE.drewl
    simp (disch := omega) [g19, hc, hdE.idx, nE_cell hdE hy, n1, n1', hlm]
    exact ⟨by simp [g13], by simp [g163], kD.trans kE.drewl⟩
end Go.Proofs.YtolkjbmcindhjaaGreat
end
section
set_option linter.unusedVariables false
set_option linter.unusedSimpArgs false
namespace Go.W
open Go Go.ChangeShapes Go.WideShapes Go.ChangeAt Go.RowKit Go.Deep
section
variable {H : Type} {enc : TypeId × Value → H} {P : Program}
/-- A slice in the input, by its elements. -/
theorem el_vw {α : Type} {encα : α → List Value} {ok : α → Prop} {W : World} {t e : TypeId} {sz : Nat} {v : Value} {fu : Nat} {x : DataW H × List MemPlace} (ht : P.underlying t = some (.slice e)) (hC : P.cellsOf e = sz) (hz : 0 < sz) (he : ∀ x, (encα x).length = sz)
    (hel : ∀ n cs x, cs.length = sz → DataW.trod enc P W 0 (fun _ => true) true n e cs = some x → ∃ a, cs = encα a ∧ ok a) 
    (h : DataW.trod enc P W 0 (fun _ => true) true fu t [v] = some x) :
    ∃ l : List α, Vw W v encα l ∧ (∀ a ∈ l, ok a) ∧ l.length ≤ maxLen := by
  rcases open_slice ht h with ⟨hcs, hx⟩ | ⟨a, len, cap, m, n, D, Pl, hcs, hb, hl, hm, hmm, hx, hi⟩
  · simp at hcs
    subst hcs
    exact ⟨[], Vw.nil _ _, by simp, by simp⟩
  · simp at hcs
    subst hcs
    simp only [if_true] at hmm
    subst hmm
    obtain ⟨n0, hn0⟩ : ∃ n0, n0 = len := ⟨_, rfl⟩
    rw [← hn0] at hl ⊢
    have key : ∀ k, k ≤ m → ∃ l : List α, l.length = k ∧ (∀ x ∈ l, ok x) ∧ ∀ j u, (l.flatMap encα)[j]? = some u → W.cell? (a.add j) = some u := by
      intro k
      induction k with
      | zero => exact fun _ => ⟨[], rfl, by simp, by simp⟩
      | succ k ih =>
        intro hk
        obtain ⟨l, hll, ho, hc⟩ := ih (by omega)
        obtain ⟨cs, hcs, htr⟩ := hi k (by omega)
        rw [hC] at hcs
        obtain ⟨_, hlen, hat⟩ := World.cells?_some hcs
        obtain ⟨x, rfl, hox⟩ := hel _ _ _ hlen htr
        refine ⟨l ++ [x], by simp [hll], ?_, ?_⟩
        · intro y hy
          rcases List.mem_append.1 hy with h1 | h1
          · exact ho y h1
          · simp at h1; subst h1; exact hox
        · intro j u hj
          rw [List.flatMap_append, List.flatMap_cons, List.flatMap_nil, List.append_nil] at hj
          have hfl := flatMap_len he l
          rw [hll] at hfl
          by_cases hjl : j < k * sz
          · rw [List.getElem?_append_left (by omega)] at hj
            exact hc j u hj
          · rw [List.getElem?_append_right (by omega), hfl] at hj
            have hjs : j - k * sz < sz := by have h9 := (List.getElem?_eq_some_iff.1 hj).1; rw [he x] at h9; exact h9
            have := hat (j - k * sz) hjs
            rw [Go.Deep.add_add, show k * sz + (j - k * sz) = j by omega] at this
            rw [this]; exact hj
    obtain ⟨l, hll, ho, hc⟩ := key m (Nat.le_refl _)
    have hvw : Vw W (.slice (some a) n0 m) encα (l.take n0) := by
      have hlen : (l.take n0).length = n0 := by simp; omega
      refine .inr ⟨a, m, by rw [hlen], by omega, fun hne => ?_, fun j u hj => hc j u ?_⟩
      · have hn0 : 0 < n0 := by
          rcases Nat.eq_zero_or_pos n0 with h0 | h0
          · subst h0; simp at hne
          · exact h0
        obtain ⟨cs, hcs, _⟩ := hi 0 (by omega)
        rw [hC] at hcs
        obtain ⟨_, hlen', hat⟩ := World.cells?_some hcs
        have h1 := hat 0 hz
        rw [List.getElem?_eq_getElem (by omega)] at h1
        have := World.cell?_spot h1
        rw [Go.Deep.add_add] at this
        simp at this
        simpa [Addr.add] using this
      · have : l.flatMap encα = (l.take n0).flatMap encα ++ (l.drop n0).flatMap encα := by rw [← List.flatMap_append, List.take_append_drop]
        rw [this, List.getElem?_append_left (List.getElem?_eq_some_iff.1 hj).1]
        exact hj
    exact ⟨_, hvw, fun x hx => ho x (List.mem_of_mem_take hx), by rw [List.length_take]; omega⟩
end
end Go.W
end
section
set_option maxRecDepth 100000
set_option linter.unusedSimpArgs false
set_option linter.unusedVariables false
namespace Go.Proofs.YtolkjbmcindhjaaGreat
open Go Go.W Go.Tk Go.Rx Go.ChangeShapes Go.WideShapes Go.ChangeAt Go.RowKit
theorem own : ownKnob Tryz.prog.godebug = none := by kernel_rfl
theorem laidOut : laidOutB Tryz.prog = true := by kernel_rfl
section
variable {H : Type} {enc : TypeId × Value → H}
theorem open_u8 {W : World} {b : Nat} {v : Value} {d : DataW H} {ps : List MemPlace} (hv : Value.okWide Tryz.prog W .any b 5 v) (h : DataW.Trod enc Tryz.prog W 0 (fun _ => true) true 5 v d ps) : ∃ n : Nat, v = .int .u8 (n : Nat) ∧ n ≤ 255 := by
  obtain ⟨n, h⟩ := h
  obtain ⟨a, ha, _, wa⟩ := DataW.trod_int Tryz.underlying5 h
  have hx : ∃ x, v = .int .u8 x := by
    simp only [Value.okWide, Tryz.underlying5, Cell.okWide] at hv
    cases v <;> simp_all [Cell.ok]
  obtain ⟨x, rfl⟩ := hx
  have ha : [Value.int .u8 x] = [Value.int .u8 a] := ha
  simp at ha
  subst ha
  have q1 : IntKind.u8.min = 0 := rfl
  have q2 : IntKind.u8.max = 255 := rfl
  simp only [Lit.wf, Bool.and_eq_true, decide_eq_true_eq] at wa
  exact ⟨x.toNat, by rw [show ((x.toNat : Nat) : Int) = x by omega], by omega⟩
theorem el_int {W : World} (n : Nat) (cs : List Value) (x : DataW H × List MemPlace) (hl : cs.length = 1) (h : DataW.trod enc Tryz.prog W 0 (fun _ => true) true n 3 cs = some x) : ∃ a : Int, cs = iE a ∧ zok a := by
  obtain ⟨a, ha, _, wa⟩ := DataW.trod_int Tryz.underlying3 h
  have h1 : IntKind.i64.min = -9223372036854775808 := rfl
  have h2 : IntKind.i64.max = 9223372036854775807 := rfl
  simp only [Lit.wf, Bool.and_eq_true, decide_eq_true_eq] at wa
  exact ⟨a, ha, by unfold zok; omega⟩
theorem el_fact {W : World} (n : Nat) (cs : List Value) (x : DataW H × List MemPlace) (hl : cs.length = 2) (h : DataW.trod enc Tryz.prog W 0 (fun _ => true) true n 100 cs = some x) : ∃ a : Fa, cs = faE a ∧ True := by
  obtain ⟨xs, m, rfl, _, _, hxl, hg⟩ := DataW.trod_struct Tryz.underlying100 h
  have hc : Tryz.prog.cellsOf 3 = 1 := by kernel_rfl
  match cs, hl with
  | [u, v], _ =>
    have hx2 : xs.length = 2 := hxl
    have h0 := hg 0 _ rfl
    have h1 := hg 1 _ rfl
    rw [List.getElem?_eq_getElem (by omega)] at h0 h1
    obtain ⟨a, ha, _, wa⟩ := DataW.trod_int Tryz.underlying3 h0
    obtain ⟨b, hb, _, wb⟩ := DataW.trod_int Tryz.underlying3 h1
    replace ha : List.take (Tryz.prog.cellsOf 3) [u, v] = [.int .i64 a] := ha
    replace hb : List.take (Tryz.prog.cellsOf 3) [v] = [.int .i64 b] := hb
    rw [hc] at ha hb
    simp at ha hb
    subst ha hb
    exact ⟨(a, b), rfl, trivial⟩
theorem el_facts {W : World} {n : Nat} {c : Value} {x : DataW H × List MemPlace} (h : DataW.trod enc Tryz.prog W 0 (fun _ => true) true n 23 [c] = some x) : ∃ l : List Fa, Vw W c faE l ∧ l.length ≤ maxLen := by
  obtain ⟨l, h1, _, h2⟩ := el_vw (encα := faE) (ok := fun _ => True) (sz := 2) Tryz.underlying23 (by kernel_rfl) (by omega) faE_len el_fact h
  exact ⟨l, h1, h2⟩
theorem el_ints {W : World} {n : Nat} {c : Value} {x : DataW H × List MemPlace} (h : DataW.trod enc Tryz.prog W 0 (fun _ => true) true n 22 [c] = some x) : ∃ l : List Int, Vw W c iE l ∧ (∀ z ∈ l, zok z) ∧ l.length ≤ maxLen :=
  el_vw (encα := iE) (ok := zok) (sz := 1) Tryz.underlying22 (by kernel_rfl) (by omega) iE_len el_int h
theorem el_eff {W : World} (n : Nat) (cs : List Value) (x : DataW H × List MemPlace) (hl : cs.length = 3) (h : DataW.trod enc Tryz.prog W 0 (fun _ => true) true n 87 cs = some x) : ∃ e : Ef, cs = efE e ∧ (Vw W e.wv.1 faE e.cnd ∧ e.cnd.length ≤ maxLen) := by
  obtain ⟨xs, m, rfl, _, _, hxl, hg⟩ := DataW.trod_struct Tryz.underlying87 h
  have hc : Tryz.prog.cellsOf 3 = 1 := by kernel_rfl
  have hf : Tryz.prog.cellsOf 23 = 1 := by kernel_rfl
  match cs, hl with
  | [u, v, w], _ =>
    have hx2 : xs.length = 3 := hxl
    have h0 := hg 0 _ rfl
    have h1 := hg 1 _ rfl
    have h2 := hg 2 _ rfl
    rw [List.getElem?_eq_getElem (by omega)] at h0 h1 h2
    replace h0 : DataW.trod enc Tryz.prog W 0 (fun _ => true) true m 23 (List.take (Tryz.prog.cellsOf 23) [u, v, w]) = _ := h0
    rw [hf] at h0
    simp only [List.take_succ_cons, List.take_zero] at h0
    obtain ⟨l, hv, hlen⟩ := el_facts h0
    obtain ⟨a, ha, _, wa⟩ := DataW.trod_int Tryz.underlying3 h1
    obtain ⟨b, hb, _, wb⟩ := DataW.trod_int Tryz.underlying3 h2
    replace ha : List.take (Tryz.prog.cellsOf 3) [v, w] = [.int .i64 a] := ha
    replace hb : List.take (Tryz.prog.cellsOf 3) [w] = [.int .i64 b] := hb
    rw [hc] at ha hb
    simp at ha hb
    subst ha hb
    exact ⟨⟨⟨u, hv.o1⟩, l, a, b⟩, rfl, hv, hlen⟩
theorem el_op {W : World} (n : Nat) (cs : List Value) (x : DataW H × List MemPlace) (hl : cs.length = 4) (h : DataW.trod enc Tryz.prog W 0 (fun _ => true) true n 41 cs = some x) : ∃ o : Oq, cs = oqE o ∧ (OqR W o ∧ o.name.size ≤ maxLen ∧ o.pre.length ≤ maxLen ∧ o.effs.length ≤ maxLen ∧ ∀ e ∈ o.effs, e.cnd.length ≤ maxLen) := by
  obtain ⟨xs, m, rfl, _, _, hxl, hg⟩ := DataW.trod_struct Tryz.underlying41 h
  have hs : Tryz.prog.cellsOf 9 = 1 := by kernel_rfl
  have hc : Tryz.prog.cellsOf 3 = 1 := by kernel_rfl
  have hf : Tryz.prog.cellsOf 23 = 1 := by kernel_rfl
  have he : Tryz.prog.cellsOf 39 = 1 := by kernel_rfl
  match cs, hl with
  | [u, v, w, z], _ =>
    have hx2 : xs.length = 4 := hxl
    have h0 := hg 0 _ rfl
    have h1 := hg 1 _ rfl
    have h2 := hg 2 _ rfl
    have h3 := hg 3 _ rfl
    rw [List.getElem?_eq_getElem (by omega)] at h0 h1 h2 h3
    obtain ⟨nm, hn, _, wn⟩ := DataW.trod_string Tryz.underlying9 h0
    obtain ⟨a, ha, _, wa⟩ := DataW.trod_int Tryz.underlying3 h1
    replace hn : List.take (Tryz.prog.cellsOf 9) [u, v, w, z] = [.string nm] := hn
    replace ha : List.take (Tryz.prog.cellsOf 3) [v, w, z] = [.int .i64 a] := ha
    replace h2 : DataW.trod enc Tryz.prog W 0 (fun _ => true) true m 23 (List.take (Tryz.prog.cellsOf 23) [w, z]) = _ := h2
    replace h3 : DataW.trod enc Tryz.prog W 0 (fun _ => true) true m 39 (List.take (Tryz.prog.cellsOf 39) [z]) = _ := h3
    rw [hs] at hn
    rw [hc] at ha
    rw [hf] at h2
    rw [he] at h3
    simp only [List.take_succ_cons, List.take_zero] at h2 h3
    simp at hn ha
    subst hn ha
    obtain ⟨pl, hp1, hp2⟩ := el_facts h2
    obtain ⟨el, he1, he2, he3⟩ := el_vw (encα := efE) (ok := fun e : Ef => Vw W e.wv.1 faE e.cnd ∧ e.cnd.length ≤ maxLen) (sz := 3) Tryz.underlying39 (by kernel_rfl) (by omega) efE_len el_eff h3
    exact ⟨⟨nm, a, ⟨w, hp1.o1⟩, pl, ⟨z, he1.o1⟩, el⟩, rfl, ⟨hp1, he1, fun e h => (he2 e h).1⟩, wn, hp2, he3, fun e h => (he2 e h).2⟩
theorem open_task {W : World} {b : Nat} {v : Value} {d : DataW H} {ps : List MemPlace} (hv : Value.okWide Tryz.prog W .any b 26 v) (h : DataW.Trod enc Tryz.prog W 0 (fun _ => true) true 26 v d ps) : ∃ t : Tk, v = tkV t ∧ TkR W t ∧ TkL t := by
  simp only [Value.okWide, Tryz.underlying26] at hv
  obtain ⟨cs, rfl, hcs, _⟩ := hv
  have h4 : Tryz.prog.cellsOf 26 = 4 := by kernel_rfl
  rw [h4] at hcs
  obtain ⟨n, h⟩ := h
  obtain ⟨xs, m, rfl, _, _, hxl, hg⟩ := DataW.trod_struct Tryz.underlying26 h
  have hc : Tryz.prog.cellsOf 22 = 1 := by kernel_rfl
  have hf : Tryz.prog.cellsOf 23 = 1 := by kernel_rfl
  have ho : Tryz.prog.cellsOf 24 = 1 := by kernel_rfl
  have hl : cs.toList.length = 4 := by simpa using hcs
  have e : (Value.agg cs).cells.toList = cs.toList := rfl
  rw [e] at hg
  match hcl : cs.toList, hl with
  | [u0, u1, u2, u3], _ =>
    rw [hcl] at hg
    have hx2 : xs.length = 4 := hxl
    have h0 := hg 0 _ rfl
    have h1 := hg 1 _ rfl
    have h2 := hg 2 _ rfl
    have h3 := hg 3 _ rfl
    rw [List.getElem?_eq_getElem (by omega)] at h0 h1 h2 h3
    replace h0 : DataW.trod enc Tryz.prog W 0 (fun _ => true) true m 22 (List.take (Tryz.prog.cellsOf 22) [u0, u1, u2, u3]) = _ := h0
    replace h1 : DataW.trod enc Tryz.prog W 0 (fun _ => true) true m 22 (List.take (Tryz.prog.cellsOf 22) [u1, u2, u3]) = _ := h1
    replace h2 : DataW.trod enc Tryz.prog W 0 (fun _ => true) true m 23 (List.take (Tryz.prog.cellsOf 23) [u2, u3]) = _ := h2
    replace h3 : DataW.trod enc Tryz.prog W 0 (fun _ => true) true m 24 (List.take (Tryz.prog.cellsOf 24) [u3]) = _ := h3
    rw [hc] at h0 h1
    rw [hf] at h2
    rw [ho] at h3
    simp only [List.take_succ_cons, List.take_zero] at h0 h1 h2 h3
    obtain ⟨vl, v1, _, v2⟩ := el_ints h0
    obtain ⟨nl, n1, _, n2⟩ := el_ints h1
    obtain ⟨gl, g1, g2⟩ := el_facts h2
    obtain ⟨ol, o1, o2, o3⟩ := el_vw (encα := oqE) (ok := fun o : Oq => OqR W o ∧ o.name.size ≤ maxLen ∧ o.pre.length ≤ maxLen ∧ o.effs.length ≤ maxLen ∧ ∀ e ∈ o.effs, e.cnd.length ≤ maxLen) (sz := 4) Tryz.underlying24 (by kernel_rfl) (by omega) oqE_len el_op h3
    have em : maxLen = 9223372036854775807 := rfl
    refine ⟨⟨⟨u0, v1.o1⟩, ⟨u1, n1.o1⟩, ⟨u2, g1.o1⟩, ⟨u3, o1.o1⟩, vl, nl, gl, ol⟩, ?_, ⟨v1, n1, g1, o1, fun o h => (o2 o h).1⟩, ⟨n2, g2, o3, v2, fun o h => (o2 o h).2⟩⟩
    have : cs = #[u0, u1, u2, u3] := by
      apply Array.toList_inj.1; rw [hcl]
    rw [this]; rfl
end
end Go.Proofs.YtolkjbmcindhjaaGreat
end
section
set_option maxRecDepth 100000
set_option linter.unusedSimpArgs false
set_option linter.unusedVariables false
namespace Go.Proofs.YtolkjbmcindhjaaGreat
open Go Go.W Go.Tk Go.Rx Go.ChangeShapes Go.WideShapes Go.ChangeAt Go.RowKit
section
variable {H : Type} {enc : TypeId × Value → H}
theorem el_u8 {W : World} (n : Nat) (cs : List Value) (x : DataW H × List MemPlace) (hl : cs.length = 1) (h : DataW.trod enc Tryz.prog W 0 (fun _ => true) true n 5 cs = some x) : ∃ a : Nat, cs = u8E a ∧ a ≤ 255 := by
  obtain ⟨a, ha, _, wa⟩ := DataW.trod_int Tryz.underlying5 h
  have h1 : IntKind.u8.min = 0 := rfl
  have h2 : IntKind.u8.max = 255 := rfl
  simp only [Lit.wf, Bool.and_eq_true, decide_eq_true_eq] at wa
  refine ⟨a.toNat, ?_, by omega⟩
  unfold u8E
  rw [ha, show ((a.toNat : Nat) : Int) = a by omega]
theorem open_u8s {W : World} {b : Nat} {v : Value} {d : DataW H} {ps : List MemPlace} (hv : Value.okWide Tryz.prog W .any b 27 v) (h : DataW.Trod enc Tryz.prog W 0 (fun _ => true) true 27 v d ps) : ∃ l : List Nat, Vw W v u8E l ∧ (∀ c ∈ l, c ≤ 255) ∧ l.length ≤ 9223372036854775807 := by
  obtain ⟨a0, n0, c0, rfl⟩ := okWide_slice Tryz.underlying27 hv
  obtain ⟨n, h⟩ := h
  exact el_vw (encα := u8E) (ok := fun c => c ≤ 255) (sz := 1) Tryz.underlying27 (by kernel_rfl) (by omega) u8E_len el_u8 (fu := n) (v := .slice a0 n0 c0) h
end
end Go.Proofs.YtolkjbmcindhjaaGreat
end
