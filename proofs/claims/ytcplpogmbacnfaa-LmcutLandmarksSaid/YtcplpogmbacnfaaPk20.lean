/-
  A part of the proof of this claim's statement (LmYG): plain theorems; no conditions beyond those each names.
-/
import Derived.Test.YtcplpogmbacnfaaPk19
section
set_option maxRecDepth 100000
set_option linter.unusedSimpArgs false
set_option linter.unusedVariables false
namespace Go.Proofs.Ytcplpogmbacnfaa
open Go Go.W Go.Tk Go.Rx Go.Lm Go.Maps
/-- What the loop over the cuts keeps. -/
def LkI (tb b : Nat) (uv av : Value) (n j m : Nat) (s1 : Value) (w0 : World) (i : Nat) (ρ : Env) (w' : World) : Prop :=
  ρ 1 = .pointer (some ⟨tb, 0, none⟩) ∧ ρ 3 = .pointer (some ⟨b, 0, none⟩) ∧ ρ 33 = uv ∧ ρ 34 = .int .i64 (n : Nat) ∧ ρ 35 = .int .i64 (j : Nat) ∧ ρ 6 = s1 ∧ ρ 47 = av ∧ Kp [] w0 w'
/-- What the loop over the operators keeps. -/
def LoI (T : Nt) (X : List Nat) (nv : Cell1) (tb b cb lb : Nat) (uv av : Value) (n j i m : Nat) (cts : Obj) (w0 : World) (q : Nat) (ρ : Env) (w' : World) : Prop :=
  ρ 1 = .pointer (some ⟨tb, 0, none⟩) ∧ ρ 3 = .pointer (some ⟨b, 0, none⟩) ∧ ρ 33 = uv ∧ ρ 34 = .int .i64 (n : Nat) ∧ ρ 35 = .int .i64 (j : Nat) ∧ ρ 6 = nv.1 ∧ ρ 47 = av ∧ ρ 48 = .int .i64 (m : Nat) ∧ ρ 49 = .int .i64 (i : Nat) ∧ ρ 10 = .pointer (some ⟨cb, 0, none⟩) ∧ ρ 11 = .pointer (some ⟨lb, 0, none⟩) ∧ ρ 58 = T.ov.1 ∧
    ∃ lv, At w0 [] (Star (ObjA lb (.cells #[T.vv.1, nv.1, T.gv.1, lv] 26 (0, 0))) (Star (OwnA lv 51 4 noE (keepK T X q)) (Star (ObjA cb cts) Emp))) w'
/-- What the loop over the operators of the cut keeps. -/
def LpI (T : Nt) (X : List Nat) (nv ov : Cell1) (tb b cb lb ob : Nat) (uv av : Value) (n j i m q : Nat) (w0 : World) (a : Nat) (ρ : Env) (w' : World) : Prop :=
  ρ 1 = .pointer (some ⟨tb, 0, none⟩) ∧ ρ 3 = .pointer (some ⟨b, 0, none⟩) ∧ ρ 33 = uv ∧ ρ 34 = .int .i64 (n : Nat) ∧ ρ 35 = .int .i64 (j : Nat) ∧ ρ 6 = nv.1 ∧ ρ 47 = av ∧ ρ 48 = .int .i64 (m : Nat) ∧ ρ 49 = .int .i64 (i : Nat) ∧ ρ 10 = .pointer (some ⟨cb, 0, none⟩) ∧ ρ 11 = .pointer (some ⟨lb, 0, none⟩) ∧ ρ 58 = T.ov.1 ∧
    ρ 59 = .int .i64 (T.ops.length : Nat) ∧ ρ 60 = .int .i64 (q : Nat) ∧ ρ 12 = .int .i64 (q : Nat) ∧ ρ 13 = .pointer (some ⟨ob, 0, none⟩) ∧ ρ 66 = ov.1 ∧ ρ 14 = .bool (decide (q ∈ X.take a)) ∧ w' = w0
set_option maxHeartbeats 2000000 in
theorem law_lmlandmarks {w : World} (t : Tk) (ht : TkR w t) (hl : TkL t) :
    Calls Try.prog 5 [tkV t].toArray w fun e w' => ∃ x, e = .returned x ∧ x = .bool true ∧ Kp [] w w' := by
  refine enter Try.func5 mixed low5 (Nat.le_of_ble_eq_true rfl) ?_
  simp only [L5]
  obtain ⟨tb, htb⟩ : ∃ tb, tb = w.heap.size := ⟨_, rfl⟩
  obtain ⟨w1, hw1⟩ : ∃ w1, w1 = w.alloc (tkO t) := ⟨_, rfl⟩
  have k1 : Kp [] w w1 := by rw [hw1]; exact (Kp.refl [] w).alloc _
  have hw1' : w.alloc (.cells #[t.vv.1, t.nv.1, t.gv.1, t.ov.1] 26 (0, 0)) = w1 := by rw [hw1]; rfl
  have ob1 : w1.heap[tb]? = some (tkO t) := by rw [htb, hw1]; exact alloc_new
  simp [tkV, ← htb, hw1', rd_tk ob1]
  refine cl_of (small_spec t (ht.kp k1) hl) ?_
  rintro _ w2 ⟨rfl, k2⟩
  cases hsm : smallB t with
  | false =>
    simp
    refine cl_of mawake_spec ?_
    rintro _ w3 ⟨rfl, k3⟩
    simp
    exact k1.trans (k2.trans k3)
  | true =>
    obtain ⟨T, rfl, hST⟩ := small_nat hl hsm
    have hr := NtR.raw.1 ht
    have hol := hST.ol
    simp
    refine cl_of mawake_spec ?_
    rintro _ w3 ⟨rfl, k3⟩
    have k13 := k2.trans k3
    simp [rd_tk (k13.blk ob1 (by simp)), raw_vv, raw_nv, raw_gv, raw_ov]
    refine cl_of (lnew_ok T hST.g hST.good (hr.kp (k1.trans k13)) hST.nm) ?_
    rintro _ w4 ⟨b, rfl, hR, k4⟩
    have k14 := k13.trans k4
    simp [rd_tk (k14.blk ob1 (by simp)), raw_vv, raw_nv, raw_gv, raw_ov]
    refine cl_of (msome_spec T (hr.kp (k1.trans k14)) hST.g (SmT.sts hST)) ?_
    rintro uv w6 ⟨ls, hls, hll, k6, hlv⟩
    obtain ⟨ps, hpl, hpv, hpr⟩ := hlv.spread
    have k16 := k14.trans k6
    have hR6 := hR.kp k6
    have ob6 := k16.blk ob1 (by simp)
    have oc6 := ob6
    unfold tkO at oc6
    have hr6 := hr.kp (k1.trans k16)
    simp [hpv.len]
    refine range_loop (n := ps.length) (by omega) (fun k ρ w' => ρ 1 = .pointer (some ⟨tb, 0, none⟩) ∧ ρ 3 = .pointer (some ⟨b, 0, none⟩) ∧ ρ 33 = uv ∧ Kp [] w6 w') (by simp) (by simp)
      ⟨by simp, by simp, by simp, Kp.refl _ _⟩ (by decide) (fun _ _ _ _ h => by simpa using h) (fun _ _ _ _ h => by simpa using h) ?_ ?_
    rotate_left
    · rintro ρ w8 ⟨g1, g3, g33, k8⟩
      simp
      exact k1.trans (k16.trans k8)
    rintro j ρ w8 hj hcj hlj ⟨g1, g3, g33, k8⟩
    obtain ⟨p, hp⟩ : ∃ p, ps[j]? = some p := ⟨_, List.getElem?_eq_getElem hj⟩
    obtain ⟨s, hsk, hsv⟩ := hpr j p hp
    have hst := hls s (List.mem_of_getElem? hsk)
    have hpv8 := hpv.kp0 k8
    have ep : w8.cell? (uv.adr.add j) = some p.1.1 := by simpa using hpv8.at_ sv1_len hp (o := 0) (u := p.1.1) rfl
    have hki : (j : Int) < ps.length := by omega
    simp (disch := omega) [g1, g3, g33, hcj, hlj, hpv8.idx, ep]
    refine cl_of (hx_cuts p.1.1 s (hR6.kp k8) hST.g (hsv.kp0 k8) hst) ?_
    rintro xa w9 ⟨⟨r, hr9, hxa⟩, k9⟩
    have k89 := k8.trans k9
    cases hro : r with
    | none =>
      rw [hro] at hxa
      have hxa : xa = .tuple #[.slice none 0 0, errV 3] := hxa
      subst hxa
      simp [errV, g1, g3, g33, hcj, hlj]
      exact k89
    | some out =>
      rw [hro] at hxa
      obtain ⟨av, rfl, ca, hca, hav, haw⟩ := hxa
      have hol2 := hr9.len (n := T.ops.length) (fun u hu => (uns_rng hST.g hu).2.2) out hro
      have hol3 := posN_le (c := cst T []) T.ops.length
      have hcal : ca.length = out.length := by rw [← hca, List.length_map]
      simp [g1, g3, g33, hcj, hlj, hav.len]
      refine range_loop (n := ca.length) (by omega) (LkI tb b uv av ps.length j ca.length p.1.1 w9) (by simp) (by simp)
        ⟨by simp [g1], by simp [g3], by simp [g33], by simp [hlj], by simp [hcj], by simp, by simp, Kp.refl _ _⟩ (by decide) (fun _ _ _ _ h => by unfold LkI at h ⊢; simpa using h) (fun _ _ _ _ h => by unfold LkI at h ⊢; simpa using h) ?_ ?_
      rotate_left
      · clear g1 g3 g33 hcj hlj
        rintro ρ w10 ⟨g1, g3, g33, g34, g35, g6, g47, k10⟩
        simp [g1, g3, g33, g34, g35]
        exact k89.trans k10
      clear g1 g3 g33 hcj hlj
      rintro i ρ w10 hi hci hli ⟨g1, g3, g33, g34, g35, g6, g47, k10⟩
      obtain ⟨xa, hxa⟩ : ∃ x, ca[i]? = some x := ⟨_, List.getElem?_eq_getElem hi⟩
      have hm : ctP xa ∈ out := by rw [← hca]; exact List.mem_map.2 ⟨xa, List.mem_of_getElem? hxa, rfl⟩
      have hav10 := hav.kp0 k10
      have ec := hav10.cells ctE_len hxa
      simp only [ctE] at ec
      have i1 : (i : Int) < ca.length := by omega
      obtain ⟨cb, hcb⟩ : ∃ cb, cb = w10.heap.size := ⟨_, rfl⟩
      simp (disch := omega) [g47, hci, hli, hav10.idx, ec, ← hcb]
      refine st_ct (c := xa) .emp (At.start rfl : At w10 [] Emp w10) hcb fun w11 h11 => ?_
      have k611 := k89.trans (k10.trans0 h11.kp)
      have ob11 := k611.blk ob6 (by simp)
      obtain ⟨lb, hlb⟩ : ∃ lb, lb = w11.heap.size := ⟨_, rfl⟩
      have hLc : Lcl (Star (ObjA cb (ctO xa)) Emp) := Lcl.obj.star .emp
      have a5 := h11.alloc (.cells #[.slice none 0 0, .slice none 0 0, .slice none 0 0, .slice none 0 0] 26 (0, 0)) hLc
      rw [← hlb] at a5
      simp [g1, rd_tk ob11, raw_vv, raw_nv, raw_gv, raw_ov, ← hlb]
      refine a5.st hLc (by simp) (by simp [T.vv.2, T.nv.2, T.gv.2, T.ov.2]) fun w12 h12 => ?_
      have cp : p.1.1.cells = #[p.1.1] := by
        have := p.1.2
        cases h : p.1.1 <;> simp_all [oneC, Value.cells]
      simp [g6, ← hlb, cp]
      refine h12.st hLc (by simp) (by simp [p.1.2]) fun w13 h13 => ?_
      simp [← hlb]
      refine (h13.by Imp.rfl).st hLc (by simp) (by simp) fun w14 h14 => ?_
      have h15 := (h14.nil (E := 51) (sz := 4) (enc := noE) (Lcl.obj.star hLc)).by Imp.sw
      have ocE := h14.kp.blk (k10.blk (k89.blk oc6 (by simp)) (by simp)) (by simp)
      have hr14 := hr6.kp (k89.trans (k10.trans0 h14.kp))
      simp [g1, cell_blk ocE, raw_ov, hr14.ops.len]
      refine range_loop (n := T.ops.length) (by omega) (LoI T xa.ops p.1 tb b cb lb uv av ps.length j i ca.length (ctO xa) w10) (by simp) (by simp)
        ⟨by simp [g1], by simp [g3], by simp [g33], by simp [g34], by simp [g35], by simp [g6], by simp [g47], by simp [hli], by simp [hci], by simp [hcb], by simp [hlb], by simp, _, by simpa [keepK] using h15⟩ (by decide) (fun _ _ _ _ h => by unfold LoI at h ⊢; simpa using h) (fun _ _ _ _ h => by unfold LoI at h ⊢; simpa using h) ?_ ?_
      · clear g1 g3 g33 g34 g35 g6 g47 hci hli
        rintro q ρ w15 hq hcq hlq ⟨g1, g3, g33, g34, g35, g6, g47, g48, g49, g10, g11, g58, lv, h16⟩
        obtain ⟨o, ho⟩ : ∃ o, T.ops[q]? = some o := ⟨_, List.getElem?_eq_getElem hq⟩
        have k15 := k89.trans (k10.trans0 h16.kp)
        have hr15 := (hr6.kp k15).ops
        have eco := hr15.cells noE_len ho
        simp only [noE] at eco
        obtain ⟨ob, hob⟩ : ∃ ob, ob = w15.heap.size := ⟨_, rfl⟩
        have hqi : (q : Int) < T.ops.length := by omega
        have hLX : Lcl (Star (ObjA lb (.cells #[T.vv.1, p.1.1, T.gv.1, lv] 26 (0, 0))) (Star (OwnA lv 51 4 noE (keepK T xa.ops q)) (Star (ObjA cb (ctO xa)) Emp))) := Lcl.obj.star (Lcl.own.star hLc)
        simp (disch := omega) [g58, hcq, hlq, hr15.idx, eco, ← hob]
        refine st_oq (o := o.raw) hLX h16 hob fun w16 h17 => ?_
        have oct := h17.drop.drop.drop.obj
        unfold ctO at oct
        have hwa := (haw xa (List.mem_of_getElem? hxa)).kp0 (k10.trans0 h17.kp)
        have hlen : xa.ops.length ≤ 1000000 := by
          obtain ⟨_, _, hasc, hops, _⟩ := hr9.each (szs_ok hST.g hst (CsOk.nil.cst hST.g)) out hro _ hm
          have := asc_len xa.ops T.ops.length hasc fun op ho => by
            obtain ⟨u, hu, rfl⟩ := hops op ho
            exact (uns_rng hST.g hu).2.2
          omega
        simp [g10, cell_blk oct, hwa.len]
        refine range_loop (n := xa.ops.length) (by omega) (LpI T xa.ops p.1 xa.ov tb b cb lb ob uv av ps.length j i ca.length q w16) (by simp) (by simp)
          ⟨by simp [g1], by simp [g3], by simp [g33], by simp [g34], by simp [g35], by simp [g6], by simp [g47], by simp [g48], by simp [g49], by simp [g10], by simp [g11], by simp [g58], by simp [hlq], by simp [hcq], by simp [hcq], by simp [hob], by simp, by simp, rfl⟩ (by decide) (fun _ _ _ _ h => by unfold LpI at h ⊢; simpa using h) (fun _ _ _ _ h => by unfold LpI at h ⊢; simpa using h) ?_ ?_
        · clear g1 g3 g33 g34 g35 g6 g47 g48 g49 g10 g11 g58 hcq hlq
          rintro a ρ w17 ha hca hla ⟨g1, g3, g33, g34, g35, g6, g47, g48, g49, g10, g11, g58, g59, g60, g12, g13, g66, g14, rfl⟩
          obtain ⟨y, hy⟩ : ∃ y, xa.ops[a]? = some y := ⟨_, List.getElem?_eq_getElem ha⟩
          have hai : (a : Int) < xa.ops.length := by omega
          have et : decide (q ∈ xa.ops.take (a + 1)) = (decide (q ∈ xa.ops.take a) || decide (y = q)) := by
            rw [take_snoc hy, Bool.eq_iff_iff]
            simp only [Bool.or_eq_true, decide_eq_true_eq, List.mem_append, List.mem_singleton]
            exact or_congr Iff.rfl ⟨fun h => h.symm, fun h => h.symm⟩
          have eyq : ((y : Int) == (q : Int)) = decide (y = q) := by
            rw [Bool.eq_iff_iff]
            simp only [beq_iff_eq, decide_eq_true_eq]
            omega
          by_cases hf : q ∈ xa.ops.take a
          · rw [decide_eq_true hf] at g14 et
            simp (disch := omega) [g66, hca, hla, hwa.idx, nE_cell hwa hy, g14]
            refine ⟨g1, g3, g33, g34, g35, g6, g47, g48, g49, g10, g11, g58, g59, g60, g12, g13, g66, by simp [et, g14], rfl⟩
          · rw [decide_eq_false hf] at g14 et
            simp (disch := omega) [g66, hca, hla, hwa.idx, nE_cell hwa hy, g14, g12]
            refine ⟨g1, g3, g33, g34, g35, g6, g47, g48, g49, g10, g11, g58, g59, g60, g12, g13, g66, ?_, rfl⟩
            rw [et, eyq, Bool.false_or]
            simp
        clear g1 g3 g33 g34 g35 g6 g47 g48 g49 g10 g11 g58 hcq hlq
        rintro ρ w17 ⟨g1, g3, g33, g34, g35, g6, g47, g48, g49, g10, g11, g58, g59, g60, g12, g13, g66, g14, rfl⟩
        rw [List.take_length] at g14
        have ekk : keepK T xa.ops (q + 1) = keepK T xa.ops q ++ (if q ∈ xa.ops then [] else [o]) := by
          show keepK T xa.ops q ++ _ = _
          rw [ho]
        by_cases hqX : q ∈ xa.ops
        · rw [if_pos hqX, List.append_nil] at ekk
          simp [g14, hqX, g59, g60]
          unfold LoI
          simp [g1, g3, g33, g34, g35, g6, g47, g48, g49, g10, g11, g58, g59, g60]
          exact ⟨lv, by rw [ekk]; exact h17.by Imp.dr⟩
        · rw [if_neg hqX] at ekk
          have oo17 := h17.obj
          unfold oqO at oo17
          have ol17 := h17.drop.obj
          have rc : cellsAt w17 ⟨ob, 0, none⟩ 0 4 = some [.string o.name, .int .i64 (o.cost : Nat), o.pv.1, o.ev.1] := by simp [cellsAt, Addr.add, cell_blk oo17, No.raw]
          have h18 := (h17.by Imp.dr).by Imp.sw
          have hLo : Lcl (Star (ObjA lb (.cells #[T.vv.1, p.1.1, T.gv.1, lv] 26 (0, 0))) (Star (ObjA cb (ctO xa)) Emp)) := Lcl.obj.star hLc
          have h18a := h18.kp0 (Lcl.own.star hLo) ((Kp.refl [] w17).alloc (.cells #[.string o.name, .int .i64 (o.cost : Nat), o.pv.1, o.ev.1] 51))
          have hkl := keepK_len (T := T) (X := xa.ops) q
          simp [g14, hqX, g11, g13, cell_blk ol17, rc, rowOf]
          refine At.append (xs := [o]) hLo h18a noE_len noE_one sl_24 rfl (fun j u hj => ?_) (by omega) (by unfold maxLen; omega) fun lv' w19 h19 => ?_
          · rw [add_none, cell_blk alloc_new]
            simp only [List.flatMap_cons, List.flatMap_nil, List.append_nil, noE] at hj
            simpa using hj
          have o11 := h19.own.o1
          have c11 := h19.own.c1
          simp [g11, c11]
          refine (h19.by Imp.sw).st (Lcl.own.star hLc) (by simp) (by simp [o11]) fun w20 h20 => ?_
          unfold LoI
          simp [g1, g3, g33, g34, g35, g6, g47, g48, g49, g10, g11, g58, g59, g60]
          exact ⟨lv', by rw [ekk]; simpa using h20⟩
      clear g1 g3 g33 g34 g35 g6 g47 hci hli
      rintro ρ w15 ⟨g1, g3, g33, g34, g35, g6, g47, g48, g49, g10, g11, g58, lv, h16⟩
      have hlo1 := h16.drop.own.o1
      have obl := h16.obj
      have k15 := k89.trans (k10.trans0 h16.kp)
      have hr15 := hr6.kp k15
      have hrl : NtR w15 (lmT T p.1 s ⟨lv, hlo1⟩ xa.ops) := NtR.lm hr15 (hsv.kp0 k15) h16.drop.own.vw
      have hSL : SmT (lmT T p.1 s ⟨lv, hlo1⟩ xa.ops) := lmT_small hST hst
      have rl : cellsAt w15 ⟨lb, 0, none⟩ 0 4 = some [T.vv.1, p.1.1, T.gv.1, lv] := by simp [cellsAt, Addr.add, cell_blk obl]
      simp [g11, rl]
      refine cl_of (best_spec (lmT T p.1 s ⟨lv, hlo1⟩ xa.ops) hrl hSL) ?_
      rintro _ w16 ⟨d, hdl, hdok, rfl, k16'⟩
      have hbig := lm_best hST hst hr9 hro hm hdok hdl
      obtain ⟨z, hz⟩ : ∃ z, z = d.getD (rkK T.vars s T.vars.length) 0 := ⟨_, rfl⟩
      have hz2 : d.getD (rkK (lmT T p.1 s ⟨lv, hlo1⟩ xa.ops).vars (lmT T p.1 s ⟨lv, hlo1⟩ xa.ops).init (lmT T p.1 s ⟨lv, hlo1⟩ xa.ops).vars.length) 0 = z := hz.symm
      rw [← hz] at hbig
      rw [hz2]
      have n1 : ¬ (z : Int) < 1125899906842624 := by unfold Inf at hbig; omega
      simp [n1]
      unfold LkI
      simp [g1, g3, g33, g34, g35, g6, g47, g48, g49]
      exact (k10.trans0 h16.kp).trans k16'
end Go.Proofs.Ytcplpogmbacnfaa
end
