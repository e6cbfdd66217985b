/-
  A part of the proof of this claim's statement (LmYI): plain theorems; no conditions beyond those each names.
-/
import Derived.Test.YtcplpogmbacnfaaPk22
section
set_option maxRecDepth 100000
set_option linter.unusedSimpArgs false
set_option linter.unusedVariables false
namespace Go.Lm
open Go.Rx
theorem leftO_snoc : ∀ (o : List (List Nat × Nat)) (c : Nat → Nat) (p : List Nat × Nat), leftO c (o ++ [p]) = sub (leftO c o) p.1 p.2
  | [], c, p => rfl
  | q :: o, c, p => leftO_snoc o (sub c q.1 q.2) p
theorem leftO_le : ∀ (o : List (List Nat × Nat)) (c : Nat → Nat) (i : Nat), leftO c o i ≤ c i
  | [], c, i => Nat.le_refl _
  | q :: o, c, i => by
    have h1 := leftO_le o (sub c q.1 q.2) i
    have h2 : sub c q.1 q.2 i ≤ c i := by unfold sub; split <;> omega
    exact Nat.le_trans h1 h2
theorem pays_at : ∀ {o : List (List Nat × Nat)} {c : Nat → Nat} {i : Nat} {p : List Nat × Nat}, Pays c o → o[i]? = some p → ∀ op ∈ p.1, p.2 ≤ leftO c (o.take i) op
  | [], c, i, p, _, h, _, _ => by simp at h
  | q :: o, c, 0, p, hp, h, op, ho => by
    simp at h
    subst h
    exact hp.1 op ho
  | q :: o, c, i + 1, p, hp, h, op, ho => by
    have := pays_at (i := i) hp.2 (by simpa using h) op ho
    simpa [leftO] using this
end Go.Lm
namespace Go.Proofs.Ytcplpogmbacnfaa
open Go Go.W Go.Tk Go.Rx Go.Lm Go.Maps
theorem uns_wc {T : Nt} {c c' : Nat → Nat} : uns T c' = wc (uns T c) c' := by
  have key : ∀ n, unsK T c' n = wc (unsK T c n) c' := by
    intro n
    unfold unsK wc
    rw [List.map_flatMap]
    congr 1
    funext i
    cases T.ops[i]? with
    | none => rfl
    | some o =>
      show opU T.vars _ i (c' i) o.effs.length = _
      unfold opU
      rw [List.map_map]
      refine List.map_congr_left fun j hj => ?_
      have hj := List.mem_range.1 hj
      have he : o.effs[j]? = some o.effs[j] := List.getElem?_eq_getElem hj
      simp only [Function.comp, unA, he]
  exact key _
def BuI (tb b : Nat) (uv av dv : Value) (N n j : Nat) (s1 : Value) (c : Nat → Nat) (out : List (List Nat × Nat)) (w0 : World) (i : Nat) (ρ : Env) (w' : World) : Prop :=
  ρ 1 = .pointer (some ⟨tb, 0, none⟩) ∧ ρ 3 = .pointer (some ⟨b, 0, none⟩) ∧ ρ 31 = uv ∧ ρ 32 = .int .i64 (n : Nat) ∧ ρ 33 = .int .i64 (j : Nat) ∧ ρ 6 = s1 ∧ ρ 53 = av ∧ ρ 9 = dv ∧ At w0 [] (Star (OwnA dv 3 1 nE (tabN N (leftO c (out.take i)))) Emp) w'
def BvI (tb b cb : Nat) (uv av dv : Value) (N n j i m : Nat) (s1 : Value) (g : Nat → Nat) (xa : Ct) (w0 : World) (a : Nat) (ρ : Env) (w' : World) : Prop :=
  ρ 1 = .pointer (some ⟨tb, 0, none⟩) ∧ ρ 3 = .pointer (some ⟨b, 0, none⟩) ∧ ρ 31 = uv ∧ ρ 32 = .int .i64 (n : Nat) ∧ ρ 33 = .int .i64 (j : Nat) ∧ ρ 6 = s1 ∧ ρ 53 = av ∧ ρ 54 = .int .i64 (m : Nat) ∧ ρ 55 = .int .i64 (i : Nat) ∧ ρ 9 = dv ∧ ρ 11 = .pointer (some ⟨cb, 0, none⟩) ∧ ρ 69 = xa.ov.1 ∧
    At w0 [] (Star (OwnA dv 3 1 nE (tabN N (sub g (xa.ops.take a) xa.cost))) (Star (ObjA cb (ctO xa)) Emp)) w'
set_option maxHeartbeats 2000000 in
theorem law_lmbudget {w : World} (t : Tk) (ht : TkR w t) (hl : TkL t) :
    Calls Try.prog 9 [tkV t].toArray w fun e w' => ∃ x, e = .returned x ∧ x = .bool true ∧ Kp [] w w' := by
  refine enter Try.func9 mixed low9 (Nat.le_of_ble_eq_true rfl) ?_
  simp only [L9]
  obtain ⟨tb, htb⟩ : ∃ tb, tb = w.heap.size := ⟨_, rfl⟩
  obtain ⟨w1, hw1⟩ : ∃ w1, w1 = w.alloc (tkO t) := ⟨_, rfl⟩
  have k1 : Kp [] w w1 := by rw [hw1]; exact (Kp.refl [] w).alloc _
  have hw1' : w.alloc (.cells #[t.vv.1, t.nv.1, t.gv.1, t.ov.1] 26 (0, 0)) = w1 := by rw [hw1]; rfl
  have ob1 : w1.heap[tb]? = some (tkO t) := by rw [htb, hw1]; exact alloc_new
  simp [tkV, ← htb, hw1', rd_tk ob1]
  refine cl_of (small_spec t (ht.kp k1) hl) ?_
  rintro _ w2 ⟨rfl, k2⟩
  cases hsm : smallB t with
  | false =>
    simp
    refine cl_of mawake_spec ?_
    rintro _ w3 ⟨rfl, k3⟩
    simp
    exact k1.trans (k2.trans k3)
  | true =>
    obtain ⟨T, rfl, hST⟩ := small_nat hl hsm
    have hr := NtR.raw.1 ht
    have hol := hST.ol
    simp
    refine cl_of mawake_spec ?_
    rintro _ w3 ⟨rfl, k3⟩
    have k13 := k2.trans k3
    simp [rd_tk (k13.blk ob1 (by simp)), raw_vv, raw_nv, raw_gv, raw_ov]
    refine cl_of (lnew_ok T hST.g hST.good (hr.kp (k1.trans k13)) hST.nm) ?_
    rintro _ w4 ⟨b, rfl, hR, k4⟩
    have k14 := k13.trans k4
    simp [rd_tk (k14.blk ob1 (by simp)), raw_vv, raw_nv, raw_gv, raw_ov]
    refine cl_of (msome_spec T (hr.kp (k1.trans k14)) hST.g (SmT.sts hST)) ?_
    rintro uv w6 ⟨ls, hls, hll, k6, hlv⟩
    obtain ⟨ps, hpl, hpv, hpr⟩ := hlv.spread
    have k16 := k14.trans k6
    have hR6 := hR.kp k6
    have ob6 := k16.blk ob1 (by simp)
    have oc6 := ob6
    unfold tkO at oc6
    have hr6 := hr.kp (k1.trans k16)
    simp [hpv.len]
    refine range_loop (n := ps.length) (by omega) (fun k ρ w' => ρ 1 = .pointer (some ⟨tb, 0, none⟩) ∧ ρ 3 = .pointer (some ⟨b, 0, none⟩) ∧ ρ 31 = uv ∧ Kp [] w6 w') (by simp) (by simp)
      ⟨by simp, by simp, by simp, Kp.refl _ _⟩ (by decide) (fun _ _ _ _ h => by simpa using h) (fun _ _ _ _ h => by simpa using h) ?_ ?_
    rotate_left
    · rintro ρ w8 ⟨g1, g3, g31, k8⟩
      simp
      exact k1.trans (k16.trans k8)
    rintro j ρ w8 hj hcj hlj ⟨g1, g3, g31, k8⟩
    obtain ⟨p, hp⟩ : ∃ p, ps[j]? = some p := ⟨_, List.getElem?_eq_getElem hj⟩
    obtain ⟨s, hsk, hsv⟩ := hpr j p hp
    have hst := hls s (List.mem_of_getElem? hsk)
    have hpv8 := hpv.kp0 k8
    have ep : w8.cell? (uv.adr.add j) = some p.1.1 := by simpa using hpv8.at_ sv1_len hp (o := 0) (u := p.1.1) rfl
    have hki : (j : Int) < ps.length := by omega
    simp (disch := omega) [g1, g3, g31, hcj, hlj, hpv8.idx, ep]
    refine cl_of (hx_cuts p.1.1 s (hR6.kp k8) hST.g (hsv.kp0 k8) hst) ?_
    rintro xa w9 ⟨⟨r, hr9, hxa⟩, k9⟩
    have k89 := k8.trans k9
    cases hro : r with
    | none =>
      rw [hro] at hxa
      have hxa : xa = .tuple #[.slice none 0 0, errV 3] := hxa
      subst hxa
      simp [errV, g1, g3, g31, hcj, hlj]
      exact k89
    | some out =>
      rw [hro] at hxa
      obtain ⟨av, rfl, ca, hca, hav, haw⟩ := hxa
      have hol2 := hr9.len (n := T.ops.length) (fun u hu => (uns_rng hST.g hu).2.2) out hro
      have hol3 := posN_le (c := cst T []) T.ops.length
      have hcal : ca.length = out.length := by rw [← hca, List.length_map]
      obtain ⟨hpay, V0, hV0, hgr0⟩ := hr9.budget out hro
      obtain ⟨N, hN⟩ : ∃ N, N = T.ops.length := ⟨_, rfl⟩
      simp [g1, g3, g31, hcj, hlj, hav.len, rd_tk (k89.blk ob6 (by simp)), raw_vv, raw_nv, raw_gv, raw_ov]
      refine cl_of (costs_spec T (hr6.kp k89) (by omega)) ?_
      rintro dv w10 n10
      have h10 := At.nw .emp (At.start rfl : At w9 [] Emp w9) n10
      have etab : T.ops.map (·.cost) = tabN N (cst T []) := by
        have := tab_cf (T.ops.map (·.cost))
        rw [cf_cst, List.length_map, ← hN] at this
        exact this.symm
      rw [etab] at h10
      have n1 : ¬ (T.ops.length : Int) < (ca.length : Int) := by omega
      have oc10 := h10.kp.blk (k89.blk oc6 (by simp)) (by simp)
      have hr10 := hr6.kp (k89.trans0 h10.kp)
      simp [g1, g3, g31, hcj, hlj, cell_blk oc10, raw_ov, hr10.ops.len, (hav.kp0 h10.kp).len, n1]
      refine range_loop (n := ca.length) (by omega) (BuI tb b uv av dv N ps.length j p.1.1 (cst T []) out w9) (by simp) (by simp)
        ⟨by simp [g1], by simp [g3], by simp [g31], by simp [hlj], by simp [hcj], by simp, by simp, by simp, by simpa [leftO] using h10⟩ (by decide) (fun _ _ _ _ h => by unfold BuI at h ⊢; simpa using h) (fun _ _ _ _ h => by unfold BuI at h ⊢; simpa using h) ?_ ?_
      · clear g1 g3 g31 hcj hlj
        rintro i ρ w11 hi hci hli ⟨g1, g3, g31, g32, g33, g6, g53, g9, h11⟩
        obtain ⟨xa, hxa⟩ : ∃ x, ca[i]? = some x := ⟨_, List.getElem?_eq_getElem hi⟩
        have hoi : out[i]? = some (xa.ops, xa.cost) := by rw [← hca, List.getElem?_map, hxa]; rfl
        have hm := List.mem_of_getElem? hoi
        obtain ⟨q1, q2, hasc, hops, _⟩ := hr9.each (szs_ok hST.g hst (CsOk.nil.cst hST.g)) out hro _ hm
        have hopl : ∀ op ∈ xa.ops, op < T.ops.length := fun op ho => by
          obtain ⟨u, hu, rfl⟩ := hops op ho
          exact (uns_rng hST.g hu).2.2
        have hlen := asc_len xa.ops T.ops.length hasc hopl
        have hpos : 0 < xa.ops.length := List.length_pos_iff.2 q2
        have hpa := pays_at hpay hoi
        have q1 : 1 ≤ xa.cost := q1
        obtain ⟨g, hg⟩ : ∃ g, g = leftO (cst T []) (out.take i) := ⟨_, rfl⟩
        have hgle : ∀ i, g i ≤ cst T [] i := fun i => by rw [hg]; exact leftO_le _ _ _
        rw [← hg] at hpa h11
        have hav11 := hav.kp0 h11.kp
        have ec := hav11.cells ctE_len hxa
        simp only [ctE] at ec
        have i1 : (i : Int) < ca.length := by omega
        obtain ⟨cb, hcb⟩ : ∃ cb, cb = w11.heap.size := ⟨_, rfl⟩
        have hLd : Lcl (Star (OwnA dv 3 1 nE (tabN N g)) Emp) := Lcl.own.star .emp
        simp (disch := omega) [g53, hci, hli, hav11.idx, ec, ← hcb]
        refine st_ct (c := xa) hLd h11 hcb fun w12 h12 => ?_
        have hwa := (haw xa (List.mem_of_getElem? hxa)).kp0 h12.kp
        have oct := h12.obj
        unfold ctO at oct
        have n1 : ¬ (xa.cost : Int) < 1 := by omega
        have n2 : ((xa.ops.length : Int) == 0) = false := by simp; omega
        have n3 : ¬ xa.ops = [] := q2
        simp [cell_blk oct, n1, n2, n3, hwa.len, ← hcb]
        have h13 : At w9 [] (Star (OwnA dv 3 1 nE (tabN N (sub g (xa.ops.take 0) xa.cost))) (Star (ObjA cb (ctO xa)) Emp)) w12 := by
          have e : sub g (xa.ops.take 0) xa.cost = g := by funext i; simp [sub]
          rw [e]
          exact h12.by Imp.sw
        refine range_loop (n := xa.ops.length) (by omega) (BvI tb b cb uv av dv N ps.length j i ca.length p.1.1 g xa w9) (by simp) (by simp)
          ⟨by simp [g1], by simp [g3], by simp [g31], by simp [g32], by simp [g33], by simp [g6], by simp [g53], by simp [hli], by simp [hci], by simp [g9], by simp [hcb], by simp, by simpa using h13⟩ (by decide) (fun _ _ _ _ h => by unfold BvI at h ⊢; simpa using h) (fun _ _ _ _ h => by unfold BvI at h ⊢; simpa using h) ?_ ?_
        rotate_left
        · clear g1 g3 g31 g32 g33 g6 g53 g9 hci hli h13
          rintro ρ w13 ⟨g1, g3, g31, g32, g33, g6, g53, g54, g55, g9, g11, g69, h13⟩
          rw [List.take_length] at h13
          unfold BuI
          simp [g1, g3, g31, g32, g33, g6, g53, g54, g55, g9]
          rw [take_snoc hoi, leftO_snoc, ← hg]
          exact h13.by (Imp.un Imp.dr)
        clear g1 g3 g31 g32 g33 g6 g53 g9 hci hli h13
        rintro a ρ w13 ha hca2 hla ⟨g1, g3, g31, g32, g33, g6, g53, g54, g55, g9, g11, g69, h13⟩
        obtain ⟨op, hop⟩ : ∃ op, xa.ops[a]? = some op := ⟨_, List.getElem?_eq_getElem ha⟩
        have hopm := List.mem_of_getElem? hop
        have hopN : op < N := by rw [hN]; exact hopl op hopm
        have hnot := asc_take hasc hop
        have hstp := sub_step (c := g) (m := xa.cost) hop hnot
        have hmx := hpa op hopm
        obtain ⟨x, hx⟩ : ∃ x, x = g op := ⟨_, rfl⟩
        rw [← hx] at hmx hstp
        have hxb : x ≤ 1048576 := by
          rw [hx]
          exact Nat.le_trans (hgle op) (cst_le hST.g op (hopl op hopm))
        have ev : sub g (xa.ops.take a) xa.cost op = x := by unfold sub; rw [if_neg hnot, hx]
        have hdv := h13.own.vw
        have htl : (tabN N (sub g (xa.ops.take a) xa.cost)).length = N := tabN_len _ _
        have cx := nE_cell hdv (tabN_at (g := sub g (xa.ops.take a) xa.cost) hopN)
        rw [ev] at cx
        obtain ⟨y, hy⟩ : ∃ y, y = x - xa.cost := ⟨_, rfl⟩
        rw [← hy] at hstp
        have ey : (x : Int) - (xa.cost : Int) = (y : Int) := by omega
        have hwa13 := (haw xa (List.mem_of_getElem? hxa)).kp0 h13.kp
        have oct13 := h13.drop.obj
        unfold ctO at oct13
        have hai : (a : Int) < xa.ops.length := by omega
        have hopi : (op : Int) < N := by omega
        have m1 : ¬ (op : Int) < 0 := by omega
        have m2 : ¬ (N : Int) ≤ (op : Int) := by omega
        have m4 : ¬ N ≤ op := by omega
        refine seq_cut (fun ρ w' => ρ 12 = .int .i64 (a : Nat) ∧ ρ 13 = .int .i64 (op : Nat) ∧ ρ 70 = .int .i64 (xa.ops.length : Nat) ∧ ρ 71 = .int .i64 (a : Nat) ∧ ρ 1 = .pointer (some ⟨tb, 0, none⟩) ∧ ρ 3 = .pointer (some ⟨b, 0, none⟩) ∧ ρ 31 = uv ∧ ρ 32 = .int .i64 (ps.length : Nat) ∧ ρ 33 = .int .i64 (j : Nat) ∧ ρ 6 = p.1.1 ∧ ρ 53 = av ∧ ρ 54 = .int .i64 (ca.length : Nat) ∧ ρ 55 = .int .i64 (i : Nat) ∧ ρ 9 = dv ∧ ρ 11 = .pointer (some ⟨cb, 0, none⟩) ∧ ρ 69 = xa.ov.1 ∧ w' = w13) ?_ ?_
        · simp (disch := omega) [g69, hca2, hla, hwa13.idx, nE_cell hwa13 hop, g1, g3, g31, g32, g33, g6, g53, g54, g55, g9, g11]
        clear g1 g3 g31 g32 g33 g6 g53 g54 g55 g9 g11 g69 hca2 hla
        rintro ρ w13 ⟨g12, g13, g70, g71, g1, g3, g31, g32, g33, g6, g53, g54, g55, g9, g11, g69, rfl⟩
        refine seq_cut (fun ρ w' => ρ 12 = .int .i64 (a : Nat) ∧ ρ 13 = .int .i64 (op : Nat) ∧ ρ 70 = .int .i64 (xa.ops.length : Nat) ∧ ρ 71 = .int .i64 (a : Nat) ∧ ρ 1 = .pointer (some ⟨tb, 0, none⟩) ∧ ρ 3 = .pointer (some ⟨b, 0, none⟩) ∧ ρ 31 = uv ∧ ρ 32 = .int .i64 (ps.length : Nat) ∧ ρ 33 = .int .i64 (j : Nat) ∧ ρ 6 = p.1.1 ∧ ρ 53 = av ∧ ρ 54 = .int .i64 (ca.length : Nat) ∧ ρ 55 = .int .i64 (i : Nat) ∧ ρ 9 = dv ∧ ρ 11 = .pointer (some ⟨cb, 0, none⟩) ∧ ρ 69 = xa.ov.1 ∧ w' = w13) ?_ ?_
        · by_cases ha0 : a = 0
          · subst ha0
            simp [g12, g13, g9, hdv.len, tabN_len, m1, m2, m4]
            exact ⟨g70, g71, g1, g3, g31, g32, g33, g6, g53, g54, g55, g11, g69⟩
          · have n5 : (0 : Int) < (a : Int) := by omega
            obtain ⟨a1, ha1⟩ : ∃ a1, a = a1 + 1 := ⟨a - 1, by omega⟩
            obtain ⟨z, hz⟩ : ∃ z, xa.ops[a1]? = some z := ⟨_, List.getElem?_eq_getElem (by omega)⟩
            have hzo : z < op := by
              have h1 := (List.getElem?_eq_some_iff.1 hz)
              have h2 := (List.getElem?_eq_some_iff.1 hop)
              obtain ⟨h1, rfl⟩ := h1
              obtain ⟨h2, rfl⟩ := h2
              exact List.pairwise_iff_getElem.1 hasc a1 a h1 h2 (by omega)
            have ea1 : (a : Int) - 1 = (a1 : Int) := by omega
            have m3 : ¬ (op : Int) ≤ (z : Int) := by omega
            have m5 : ¬ op ≤ z := by omega
            have n6 : 0 < a := by omega
            have ha1i : (a1 : Int) < xa.ops.length := by omega
            simp (disch := omega) [g12, g13, g9, g11, hdv.len, htl, m1, m2, m4, n5, n6, ea1, wrap_i64, cell_blk oct13, hwa13.idx, nE_cell hwa13 hz, m3, m5]
            exact ⟨g70, g71, g1, g3, g31, g32, g33, g6, g53, g54, g55, g69⟩
        clear g1 g3 g31 g32 g33 g6 g53 g54 g55 g9 g11 g69 g12 g13 g70 g71
        rintro ρ w13 ⟨g12, g13, g70, g71, g1, g3, g31, g32, g33, g6, g53, g54, g55, g9, g11, g69, rfl⟩
        simp (disch := omega) [g9, g11, g13, cell_blk oct13, hdv.idx, htl, cx, ey, wrap_i64]
        rw [adr_own h13.own (by omega : op < (tabN N (sub g (xa.ops.take a) xa.cost)).length)]
        have hLc : Lcl (Star (ObjA cb (ctO xa)) Emp) := Lcl.obj.star .emp
        have h13d := h13.drew (Lcl.own.star hLc)
        refine h13d.store1 hLc nE_len nE_one (k := op) (by omega) (x := y) rfl fun w14 h14 => ?_
        rw [tabN_set hopN, hstp] at h14
        have ev2 : sub g (xa.ops.take (a + 1)) xa.cost op = y := by rw [← hstp]; simp [updN]
        have hdv14 := h14.own.vw
        have cy := nE_cell hdv14 (tabN_at (g := sub g (xa.ops.take (a + 1)) xa.cost) hopN)
        rw [ev2] at cy
        have m6 : ¬ (y : Int) < 0 := by omega
        have htl14 : (tabN N (sub g (xa.ops.take (a + 1)) xa.cost)).length = N := tabN_len _ _
        simp (disch := omega) [g9, g13, hdv14.idx, htl14, cy, m6]
        unfold BvI
        simp [g70, g71, g1, g3, g31, g32, g33, g6, g53, g54, g55, g9, g11, g69]
        exact h14
      clear g1 g3 g31 hcj hlj
      rintro ρ w11 ⟨g1, g3, g31, g32, g33, g6, g53, g9, h11⟩
      rw [hcal, List.take_length] at h11
      simp only [thenK_nrm]
      have oc11 := h11.kp.blk (k89.blk oc6 (by simp)) (by simp)
      have ob11 := h11.kp.blk (k89.blk ob6 (by simp)) (by simp)
      have hr11 := hr6.kp (k89.trans0 h11.kp)
      have k11 := k89.trans0 h11.kp
      by_cases h0 : T.ops.length = 0
      · have h0' : T.ops = [] := List.length_eq_zero_iff.1 h0
        simp [g1, g3, g31, g32, g33, cell_blk oc11, raw_ov, hr11.ops.len, h0, h0']
        exact k11
      · have h0' : ¬ T.ops = [] := fun e => h0 (by rw [e]; rfl)
        have h0i : ((T.ops.length : Int) == 0) = false := by simp; intro e; rw [e] at h0; exact h0 rfl
        simp [g1, g3, g31, g32, g33, cell_blk oc11, raw_ov, hr11.ops.len, h0, h0', h0i, rd_tk ob11, raw_vv, raw_nv, raw_gv, g9]
        have hll2 : (tabN N (leftO (cst T []) out)).length = T.ops.length := by rw [tabN_len, hN]
        have hok : CsOk T ((tabN N (leftO (cst T []) out)).map iN) := cs_given hll2 fun c hc => by
          unfold tabN at hc
          obtain ⟨i, hi, rfl⟩ := List.mem_map.1 hc
          have hi := List.mem_range.1 hi
          exact Nat.le_trans (leftO_le _ _ _) (cst_le hST.g i (by omega))
        refine cl_of (new_ok T dv _ hST hr11 (vw_n.2 h11.own.vw) hok) ?_
        rintro _ w12 ⟨rb, rfl, hRx, k12⟩
        simp [g1, g3, g31, g32, g33, g6]
        have hS := SmT.sm hST (c := cst T ((tabN N (leftO (cst T []) out)).map iN)) (fun i hi => hok.cst hST.g i hi)
        refine cl_of (rl_max p.1.1 s hRx hST.g (hsv.kp0 (k11.trans k12)) hst hS) ?_
        rintro _ w13 ⟨V, hV, rfl, k13'⟩
        have eU : uns T (cst T ((tabN N (leftO (cst T []) out)).map iN)) = wc (uns T (cst T [])) (leftO (cst T []) out) := by
          rw [← uns_wc]
          refine uns_congr fun i hi => ?_
          rw [cst_given hll2 hi]
          simp only [List.getD, tabN_at (show i < N by omega), Option.getD_some]
        rw [eU] at hV
        have e0 : grF T.vars V T.goal = 0 := by rw [hV.uniq hV0]; exact hgr0
        rw [e0]
        simp [g1, g3, g31, g32, g33]
        exact (k11.trans k12).trans k13'
end Go.Proofs.Ytcplpogmbacnfaa
end
