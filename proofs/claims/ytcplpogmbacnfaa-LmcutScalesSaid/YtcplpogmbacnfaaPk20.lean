/-
  A part of the proof of this claim's statement (LmYE): plain theorems; no conditions beyond those each names.
-/
import Derived.Test.YtcplpogmbacnfaaPk19
section
set_option maxRecDepth 100000
set_option linter.unusedSimpArgs false
set_option linter.unusedVariables false
namespace Go.Proofs.Ytcplpogmbacnfaa
open Go Go.W Go.Tk Go.Rx Go.Lm Go.Maps
theorem asc_len2 : ∀ (l : List Nat) (b n : Nat), l.Pairwise (· < ·) → (∀ x ∈ l, b ≤ x ∧ x < n) → l.length ≤ n - b
  | [], b, n, _, _ => Nat.zero_le _
  | a :: l, b, n, h, hn => by
    rw [List.pairwise_cons] at h
    have ih := asc_len2 l (a + 1) n h.2 fun x hx => ⟨h.1 x hx, (hn x (by simp [hx])).2⟩
    have := hn a (by simp)
    rw [List.length_cons]
    omega
theorem asc_len (l : List Nat) (n : Nat) (h : l.Pairwise (· < ·)) (hn : ∀ x ∈ l, x < n) : l.length ≤ n := asc_len2 l 0 n h fun x hx => ⟨Nat.zero_le _, hn x hx⟩
def scN (k : Nat) (o : No) : No := { o with cost := o.cost * k }
/-- The dearer task, after i operators. -/
def ScI (T : Nt) (tb lb k : Nat) (w3 : World) (i : Nat) (ρ : Env) (w' : World) : Prop :=
  ρ 2 = .pointer (some ⟨tb, 0, none⟩) ∧ ρ 5 = .int .i64 (k : Nat) ∧ ρ 6 = .pointer (some ⟨lb, 0, none⟩) ∧ ρ 34 = T.ov.1 ∧ (∀ o ∈ T.ops.take i, o.cost * k ≤ 1048576) ∧
    ∃ lv, At w3 [] (Star (ObjA lb (.cells #[T.vv.1, T.nv.1, T.gv.1, lv] 26 (0, 0))) (Star (OwnA lv 51 4 noE ((T.ops.take i).map (scN k))) Emp)) w'
theorem NtR.sc {T : Nt} {ov : Value} {o1 : oneC ov = true} {k : Nat} {w : World} (h : NtR w T) (hv : Vw w ov noE (T.ops.map (scN k))) : NtR w (scT T ⟨ov, o1⟩ k) :=
  ⟨h.vars, h.init, h.goal, hv, fun o ho => by
    obtain ⟨q, hq, rfl⟩ := List.mem_map.1 ho
    have := h.op q hq
    exact ⟨this.pre, this.effs, this.cnd⟩⟩
set_option maxHeartbeats 2000000 in
theorem law_lmscales {w : World} (t : Tk) (x : Nat) (ht : TkR w t) (hl : TkL t) (hx : x ≤ 255) :
    Calls Try.prog 6 [tkV t, .int .u8 (x : Nat)].toArray w fun e w' => ∃ x, e = .returned x ∧ x = .bool true ∧ Kp [] w w' := by
  refine enter Try.func6 mixed low6 (Nat.le_of_ble_eq_true rfl) ?_
  simp only [L6]
  obtain ⟨tb, htb⟩ : ∃ tb, tb = w.heap.size := ⟨_, rfl⟩
  obtain ⟨w1, hw1⟩ : ∃ w1, w1 = w.alloc (tkO t) := ⟨_, rfl⟩
  have k1 : Kp [] w w1 := by rw [hw1]; exact (Kp.refl [] w).alloc _
  have hw1' : w.alloc (.cells #[t.vv.1, t.nv.1, t.gv.1, t.ov.1] 26 (0, 0)) = w1 := by rw [hw1]; rfl
  have ob1 : w1.heap[tb]? = some (tkO t) := by rw [htb, hw1]; exact alloc_new
  simp [tkV, ← htb, hw1', rd_tk ob1]
  refine cl_of (small_spec t (ht.kp k1) hl) ?_
  rintro _ w2 ⟨rfl, k2⟩
  cases hsm : smallB t with
  | false =>
    simp
    refine cl_of mawake_spec ?_
    rintro _ w3 ⟨rfl, k3⟩
    simp
    exact k1.trans (k2.trans k3)
  | true =>
    obtain ⟨T, rfl, hST⟩ := small_nat hl hsm
    have hr := NtR.raw.1 ht
    have hol := hST.ol
    simp
    refine cl_of mawake_spec ?_
    rintro _ w3 ⟨rfl, k3⟩
    have k13 := k2.trans k3
    have ob3 := k13.blk ob1 (by simp)
    have oc3 := ob3
    unfold tkO at oc3
    have hr3 := hr.kp (k1.trans k13)
    obtain ⟨k, hk⟩ : ∃ k, k = x % 7 := ⟨_, rfl⟩
    have hk7 : k < 7 := by omega
    have ek : ((x : Nat) : Int).tmod 7 = (k : Int) := by rw [hk, Int.tmod_eq_emod_of_nonneg (by omega)]; simp
    obtain ⟨lb, hlb⟩ : ∃ lb, lb = w3.heap.size := ⟨_, rfl⟩
    have a5 := (At.start rfl : At w3 [] Emp w3).alloc (.cells #[.slice none 0 0, .slice none 0 0, .slice none 0 0, .slice none 0 0] 26 (0, 0)) .emp
    rw [← hlb] at a5
    simp (disch := omega) [wrap_i64, ek, rd_tk ob3, raw_vv, raw_nv, raw_gv, raw_ov, ← hlb]
    refine a5.st .emp (by simp) (by simp [T.vv.2, T.nv.2, T.gv.2, T.ov.2]) fun w4 h4 => ?_
    simp [← hlb]
    refine (h4.by Imp.rfl).st .emp (by simp) (by simp) fun w5 h5 => ?_
    have h6 := (h5.nil (E := 51) (sz := 4) (enc := noE) (Lcl.obj.star .emp)).by Imp.sw
    have oc5 := h5.kp.blk oc3 (by simp)
    simp [cell_blk oc5, raw_ov, (hr3.kp h5.kp).ops.len]
    refine range_loop (n := T.ops.length) (by omega) (ScI T tb lb k w3) (by simp) (by simp)
      ⟨by simp, by simp, by simp [hlb], by simp, by simp, _, by simpa using h6⟩ (by decide) (fun _ _ _ _ h => by unfold ScI at h ⊢; simpa using h) (fun _ _ _ _ h => by unfold ScI at h ⊢; simpa using h) ?_ ?_
    · rintro i ρ w6 hi hci hli ⟨g2, g5, g6, g34, hcb, lv, h7⟩
      obtain ⟨o, ho⟩ : ∃ o, T.ops[i]? = some o := ⟨_, List.getElem?_eq_getElem hi⟩
      have hr6 := (hr3.kp h7.kp).ops
      have ec := hr6.cells noE_len ho
      simp only [noE] at ec
      obtain ⟨ob, hob⟩ : ∃ ob, ob = w6.heap.size := ⟨_, rfl⟩
      have hii : (i : Int) < T.ops.length := by omega
      have hLX : Lcl (Star (ObjA lb (.cells #[T.vv.1, T.nv.1, T.gv.1, lv] 26 (0, 0))) (Star (OwnA lv 51 4 noE ((T.ops.take i).map (scN k))) Emp)) := Lcl.obj.star (Lcl.own.star .emp)
      simp (disch := omega) [g34, hci, hli, hr6.idx, ec, ← hob]
      refine st_oq (o := o.raw) hLX h7 hob fun w7 h8 => ?_
      have oo8 := h8.obj
      unfold oqO at oo8
      have hoc := (hST.g.ops o (List.mem_of_getElem? ho)).cost
      obtain ⟨cc, hcc⟩ : ∃ cc, cc = o.cost * k := ⟨_, rfl⟩
      have hcl : cc ≤ 1048576 * 7 := by rw [hcc]; exact Nat.mul_le_mul hoc (by omega)
      have erc : o.raw.cost = (o.cost : Int) := rfl
      have ecc : (o.cost : Int) * (k : Int) = (cc : Int) := by rw [hcc]; simp
      by_cases hc : 1048576 < cc
      · have hc' : (1048576 : Int) < (cc : Int) := by omega
        simp (disch := omega) [cell_blk oo8, ← hob, g5, erc, ecc, wrap_i64, hc']
        exact (k1.trans k13).trans h8.kp
      · have hc' : ¬ (1048576 : Int) < (cc : Int) := by omega
        simp (disch := omega) [cell_blk oo8, ← hob, g5, erc, ecc, wrap_i64, hc']
        unfold oqO at h8
        refine h8.st hLX (by simp) (by simp) fun w8 h9 => ?_
        have oo9 := h9.obj
        have ol9 := h9.drop.obj
        simp at oo9
        have rc : cellsAt w8 ⟨ob, 0, none⟩ 0 4 = some [.string o.name, .int .i64 (cc : Nat), o.pv.1, o.ev.1] := by simp [cellsAt, Addr.add, cell_blk oo9, No.raw]
        have h10 := (h9.by Imp.dr).by Imp.sw
        have hLo : Lcl (Star (ObjA lb (.cells #[T.vv.1, T.nv.1, T.gv.1, lv] 26 (0, 0))) Emp) := Lcl.obj.star .emp
        have h10a := h10.kp0 (Lcl.own.star hLo) ((Kp.refl [] w8).alloc (.cells #[.string o.name, .int .i64 (cc : Nat), o.pv.1, o.ev.1] 51))
        simp [g6, ← hob, cell_blk ol9, rc, rowOf]
        refine At.append (xs := [scN k o]) hLo h10a noE_len noE_one sl_24 rfl (fun j u hj => ?_) (by simp; omega) (by simp; unfold maxLen; omega) fun lv' w10 h11 => ?_
        · rw [add_none, cell_blk alloc_new]
          simp only [List.flatMap_cons, List.flatMap_nil, List.append_nil, noE, scN, ← hcc] at hj
          simpa using hj
        have o11 := h11.own.o1
        have c11 := h11.own.c1
        simp [g6, c11]
        refine (h11.by Imp.sw).st (Lcl.own.star .emp) (by simp) (by simp [o11]) fun w11 h12 => ?_
        unfold ScI
        simp [g2, g5, g6, g34, hci, hli]
        refine ⟨fun q hq => ?_, lv', ?_⟩
        · rw [take_snoc ho] at hq
          rcases List.mem_append.1 hq with h | h
          · exact hcb q h
          · simp at h; subst h; omega
        · rw [← List.map_take, take_snoc ho, List.map_append]
          simpa using h12
    rintro ρ w6 ⟨g2, g5, g6, g34, hcb, lv, h7⟩
    rw [List.take_length] at hcb h7
    have k6 := h7.kp
    have hlo1 := h7.drop.own.o1
    have obl := h7.obj
    have hr6 := hr3.kp k6
    have hrl : NtR w6 (scT T ⟨lv, hlo1⟩ k) := NtR.sc hr6 h7.drop.own.vw
    have hSL : SmT (scT T ⟨lv, hlo1⟩ k) := scT_small hST hcb
    have ob6 := k6.blk ob3 (by simp)
    have rl : ∀ {w'}, Kp [] w6 w' → cellsAt w' ⟨lb, 0, none⟩ 0 4 = some [T.vv.1, T.nv.1, T.gv.1, lv] := fun kk => by simp [cellsAt, Addr.add, cell_blk (kk.blk obl (by simp))]
    have k06 := (k1.trans k13).trans k6
    clear g34
    simp [g2, rd_tk ob6, raw_vv, raw_nv, raw_gv, raw_ov]
    refine cl_of (lnew_ok T hST.g hST.good hr6 hST.nm) ?_
    rintro _ w7 ⟨ba, rfl, hRa, k7⟩
    simp [g2, g5, g6, rl k7]
    refine cl_of (lnew_ok (scT T ⟨lv, hlo1⟩ k) hSL.g hSL.good (hrl.kp k7) hSL.nm) ?_
    rintro _ w8 ⟨bb, rfl, hRb, k8⟩
    have k68 := k7.trans k8
    simp [g2, g5, g6, rd_tk (k68.blk ob6 (by simp)), raw_vv, raw_nv, raw_gv, raw_ov]
    refine cl_of (msome_spec T (hr6.kp k68) hST.g (SmT.sts hST)) ?_
    rintro uv w9 ⟨ls, hls, hlsl, k9, hlv⟩
    obtain ⟨ps, hpl, hpv, hpr⟩ := hlv.spread
    have k69 := k68.trans k9
    have hRa9 := hRa.kp (k8.trans k9)
    have hRb9 := hRb.kp k9
    simp [hpv.len]
    refine range_loop (n := ps.length) (by omega) (fun j ρ w' => ρ 5 = .int .i64 (k : Nat) ∧ ρ 9 = .pointer (some ⟨ba, 0, none⟩) ∧ ρ 11 = .pointer (some ⟨bb, 0, none⟩) ∧ ρ 74 = uv ∧ Kp [] w9 w') (by simp) (by simp)
      ⟨by simp [g5], by simp, by simp, by simp, Kp.refl _ _⟩ (by decide) (fun _ _ _ _ h => by simpa using h) (fun _ _ _ _ h => by simpa using h) ?_ ?_
    rotate_left
    · clear g2 g5 g6
      rintro ρ w10 ⟨g5, g9, g11, g74, k10⟩
      simp
      exact k06.trans (k69.trans k10)
    clear g2 g5 g6
    rintro j ρ w10 hj hcj hlj ⟨g5, g9, g11, g74, k10⟩
    obtain ⟨p, hp⟩ : ∃ p, ps[j]? = some p := ⟨_, List.getElem?_eq_getElem hj⟩
    obtain ⟨s, hsk, hsv⟩ := hpr j p hp
    have hst := hls s (List.mem_of_getElem? hsk)
    have hpv10 := hpv.kp0 k10
    have ep : w10.cell? (uv.adr.add j) = some p.1.1 := by simpa using hpv10.at_ sv1_len hp (o := 0) (u := p.1.1) rfl
    have hki : (j : Int) < ps.length := by omega
    simp (disch := omega) [g5, g9, g11, g74, hcj, hlj, hpv10.idx, ep]
    refine cl_of (hx_cuts p.1.1 s (hRa9.kp k10) hST.g (hsv.kp0 k10) hst) ?_
    rintro xa w11 ⟨⟨r, hr11, hxa⟩, k11⟩
    have k911 := k10.trans k11
    have hsl : StN (scT T ⟨lv, hlo1⟩ k).vars s := hst
    cases r with
    | none =>
      subst hxa
      simp [g5, g9, g11]
      refine cl_of (hx_cuts p.1.1 s (hRb9.kp k911) hSL.g (hsv.kp0 k911) hsl) ?_
      rintro xb w12 ⟨⟨r', hr12, hxb⟩, k12⟩
      have he := sc_cuts hST hst hk7 hr11 hr12
      subst he
      have hxb : xb = .tuple #[.slice none 0 0, errV 3] := hxb
      subst hxb
      have k912 := k911.trans k12
      simp [g5, g9, g11]
      refine cl_of (num_err 3 w12) ?_
      rintro _ w13 ⟨rfl, k13'⟩
      simp [g5, g9, g11]
      refine cl_of (num_err 3 w13) ?_
      rintro _ w14 ⟨rfl, k14⟩
      have k914 := (k912.trans k13').trans k14
      by_cases hk0 : 0 < k
      · have n1 : (0 : Int) < (k : Int) := by omega
        have n2 : ((k : Int) == 0) = false := by simp; omega
        have n3 : ¬ k = 0 := by omega
        simp [g5, n1, n2, n3, hk0]
        refine range_loop (n := 0) (by omega) (fun i ρ w' => ρ 5 = .int .i64 (k : Nat) ∧ ρ 9 = .pointer (some ⟨ba, 0, none⟩) ∧ ρ 11 = .pointer (some ⟨bb, 0, none⟩) ∧ ρ 74 = uv ∧ ρ 75 = .int .i64 (ps.length : Nat) ∧ ρ 76 = .int .i64 (j : Nat) ∧ Kp [] w9 w') (by simp) (by simp)
          ⟨by simp [g5], by simp [g9], by simp [g11], by simp [g74], by simp [hlj], by simp [hcj], k914⟩ (by decide) (fun _ _ _ _ h => by simpa using h) (fun _ _ _ _ h => by simpa using h) (fun i _ _ hi => by omega) ?_
        clear g5 g9 g11 g74 hcj hlj
        rintro ρ w15 ⟨g5, g9, g11, g74, g75, g76, k15⟩
        simp [g5, g9, g11, g74, g75, g76]
        exact k15
      · have n3 : k = 0 := by omega
        subst n3
        simp [g5]
        refine range_loop (n := 0) (by omega) (fun i ρ w' => ρ 5 = .int .i64 (0) ∧ ρ 9 = .pointer (some ⟨ba, 0, none⟩) ∧ ρ 11 = .pointer (some ⟨bb, 0, none⟩) ∧ ρ 74 = uv ∧ ρ 75 = .int .i64 (ps.length : Nat) ∧ ρ 76 = .int .i64 (j : Nat) ∧ Kp [] w9 w') (by simp) (by simp)
          ⟨by simp [g5], by simp [g9], by simp [g11], by simp [g74], by simp [hlj], by simp [hcj], k914⟩ (by decide) (fun _ _ _ _ h => by simpa using h) (fun _ _ _ _ h => by simpa using h) (fun i _ _ hi => by omega) ?_
        clear g5 g9 g11 g74 hcj hlj
        rintro ρ w15 ⟨g5, g9, g11, g74, g75, g76, k15⟩
        simp [g5, g9, g11, g74, g75, g76]
        exact k15
    | some out =>
      obtain ⟨av, rfl, ca, hca, hav, haw⟩ := hxa
      simp [g5, g9, g11]
      refine cl_of (hx_cuts p.1.1 s (hRb9.kp k911) hSL.g (hsv.kp0 k911) hsl) ?_
      rintro xb w12 ⟨⟨r', hr12, hxb⟩, k12⟩
      have he := sc_cuts hST hst hk7 hr11 hr12
      subst he
      obtain ⟨bv, rfl, cb, hcb2, hbv, hbw⟩ := hxb
      have k912 := k911.trans k12
      simp [g5, g9, g11]
      refine cl_of (num_nil w12) ?_
      rintro _ w13 ⟨rfl, k13'⟩
      simp [g5, g9, g11]
      refine cl_of (num_nil w13) ?_
      rintro _ w14 ⟨rfl, k14⟩
      have k1214 := k13'.trans k14
      have k914 := k912.trans k1214
      have hav14 := (hav.kp0 k12).kp0 k1214
      have hbv14 := hbv.kp0 k1214
      have hol2 := hr11.len (n := T.ops.length) (fun u hu => (uns_rng hST.g hu).2.2) out rfl
      have hol3 := posN_le (c := cst T []) T.ops.length
      have hcal : ca.length = out.length := by rw [← hca, List.length_map]
      by_cases hk0 : 0 < k
      · have hcb2 : cb.map ctP = if 0 < k then scO k out else [] := hcb2
        rw [if_pos hk0] at hcb2
        have hcbl : cb.length = ca.length := by
          have := congrArg List.length hcb2
          unfold scO at this
          simpa [hcal] using this
        have n1 : (0 : Int) < (k : Int) := by omega
        have n2 : ((k : Int) == 0) = false := by simp; omega
        have n3 : ¬ k = 0 := by omega
        simp [g5, n1, n2, n3, hk0, hav14.len, hbv14.len, hcbl]
        refine range_loop (n := ca.length) (by omega) (fun i ρ w' => ρ 5 = .int .i64 (k : Nat) ∧ ρ 9 = .pointer (some ⟨ba, 0, none⟩) ∧ ρ 11 = .pointer (some ⟨bb, 0, none⟩) ∧ ρ 74 = uv ∧ ρ 75 = .int .i64 (ps.length : Nat) ∧ ρ 76 = .int .i64 (j : Nat) ∧ ρ 15 = av ∧ ρ 17 = bv ∧ Kp [] w14 w') (by simp) (by simp)
          ⟨by simp [g5], by simp [g9], by simp [g11], by simp [g74], by simp [hlj], by simp [hcj], by simp, by simp, Kp.refl _ _⟩ (by decide) (fun _ _ _ _ h => by simpa using h) (fun _ _ _ _ h => by simpa using h) ?_ ?_
        rotate_left
        · clear g5 g9 g11 g74 hcj hlj
          rintro ρ w15 ⟨g5, g9, g11, g74, g75, g76, g15, g17, k15⟩
          simp [g5, g9, g11, g74, g75, g76]
          exact k914.trans k15
        clear g5 g9 g11 g74 hcj hlj
        rintro i ρ w15 hi hci hli ⟨g5, g9, g11, g74, g75, g76, g15, g17, k15⟩
        obtain ⟨xa, hxa⟩ : ∃ x, ca[i]? = some x := ⟨_, List.getElem?_eq_getElem hi⟩
        obtain ⟨xb, hxb⟩ : ∃ x, cb[i]? = some x := ⟨_, List.getElem?_eq_getElem (by omega)⟩
        have hab : ctP xb = (xa.ops, k * xa.cost) := by
          have e1 : (cb.map ctP)[i]? = some (ctP xb) := by rw [List.getElem?_map, hxb]; rfl
          rw [hcb2, ← hca] at e1
          unfold scO at e1
          rw [List.map_map, List.getElem?_map, hxa] at e1
          simp only [Option.map_some, Option.some.injEq] at e1
          exact e1.symm
        have eo : xb.ops = xa.ops := congrArg Prod.fst hab
        have ecst : xb.cost = k * xa.cost := congrArg Prod.snd hab
        have hub : xa.cost ≤ 1048576 := by
          have hm : ctP xa ∈ out := by rw [← hca]; exact List.mem_map.2 ⟨xa, List.mem_of_getElem? hxa, rfl⟩
          exact hr11.ub (szs_ok hST.g hst (CsOk.nil.cst hST.g)) out rfl _ hm
        have hub2 : k * xa.cost ≤ 7 * 1048576 := Nat.mul_le_mul (by omega) hub
        have hav15 := hav14.kp0 k15
        have hbv15 := hbv14.kp0 k15
        have fa0 := hav15.fld ctE_len hxa (o := 0) rfl
        have fa1 := hav15.fld ctE_len hxa (o := 1) rfl
        have fb0 := hbv15.fld ctE_len hxb (o := 0) rfl
        have fb1 := hbv15.fld ctE_len hxb (o := 1) rfl
        rw [ecst] at fb1
        obtain ⟨cc, hcc⟩ : ∃ cc, cc = k * xa.cost := ⟨_, rfl⟩
        have ecc : (k : Int) * (xa.cost : Int) = (cc : Int) := by rw [hcc]; simp
        rw [← hcc] at fb1 hub2
        have i1 : (i : Int) < ca.length := by omega
        have i2 : (i : Int) < cb.length := by omega
        have hwa := ((haw xa (List.mem_of_getElem? hxa)).kp0 (k12.trans k1214)).kp0 k15
        have hwb := ((hbw xb (List.mem_of_getElem? hxb)).kp0 k1214).kp0 k15
        rw [eo] at hwb
        have hlen : xa.ops.length ≤ 1000000 := by
          have hm : ctP xa ∈ out := by rw [← hca]; exact List.mem_map.2 ⟨xa, List.mem_of_getElem? hxa, rfl⟩
          obtain ⟨_, _, hasc, hops, _⟩ := hr11.each (szs_ok hST.g hst (CsOk.nil.cst hST.g)) out rfl _ hm
          have := asc_len xa.ops T.ops.length hasc fun op ho => by
            obtain ⟨u, hu, rfl⟩ := hops op ho
            exact (uns_rng hST.g hu).2.2
          omega
        simp (disch := omega) [g5, g15, g17, hci, hli, hav15.idx, hbv15.idx, fa0, fa1, fb0, fb1, ecc, wrap_i64]
        refine cl_of (ints_spec _ _ _ _ (ints_vw (hwa.kp0 ((Kp.refl [] w15).drew))) (ints_vw (hwb.kp0 ((Kp.refl [] w15).drew))) (by simpa using hlen) (by simpa using hlen)) ?_
        rintro _ w16 ⟨rfl, k16⟩
        simp [g5, g9, g11, g74, g75, g76, g15, g17, hci, hli]
        exact k15.trans (((Kp.refl [] w15).drew).trans k16)
      · have n3 : k = 0 := by omega
        subst n3
        have hcb2 : cb.map ctP = if 0 < 0 then scO 0 out else [] := hcb2
        rw [if_neg hk0] at hcb2
        have hcb3 : cb = [] := List.map_eq_nil_iff.1 hcb2
        subst hcb3
        simp [g5, hav14.len, hbv14.len]
        refine range_loop (n := 0) (by omega) (fun i ρ w' => ρ 5 = .int .i64 (0) ∧ ρ 9 = .pointer (some ⟨ba, 0, none⟩) ∧ ρ 11 = .pointer (some ⟨bb, 0, none⟩) ∧ ρ 74 = uv ∧ ρ 75 = .int .i64 (ps.length : Nat) ∧ ρ 76 = .int .i64 (j : Nat) ∧ Kp [] w9 w') (by simp) (by simp)
          ⟨by simp [g5], by simp [g9], by simp [g11], by simp [g74], by simp [hlj], by simp [hcj], k914⟩ (by decide) (fun _ _ _ _ h => by simpa using h) (fun _ _ _ _ h => by simpa using h) (fun i _ _ hi => by omega) ?_
        clear g5 g9 g11 g74 hcj hlj
        rintro ρ w15 ⟨g5, g9, g11, g74, g75, g76, k15⟩
        simp [g5, g9, g11, g74, g75, g76]
        exact k15
end Go.Proofs.Ytcplpogmbacnfaa
end
