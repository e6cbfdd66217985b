/-
  A part of the proofs of this seat's statements (BdLC); no conditions beyond those each theorem names.
-/
import Derived.Test.YtkojilpjpdpmaaaRBdXD
set_option maxRecDepth 100000
set_option linter.unusedSimpArgs false
set_option linter.unusedVariables false
namespace Go.Proofs.YtkojilpjpdpmaaaR
open Go Go.W Go.Bd Go.Maps
theorem cu_iff {most : Int} (cs : List (List Fc)) : CuOk most 0 cs ↔ ¬ max 0 most < (cs.length : Nat) := by
  unfold CuOk
  constructor
  · rintro (rfl | h)
    · simp; omega
    · omega
  · intro h
    rcases cs with _ | ⟨c, cs⟩
    · exact .inl rfl
    · refine .inr ?_
      simp at h ⊢
      omega
theorem rcu_var (n : Nat) : ∀ d F, d ≤ n → ∀ c ∈ rcu n d F, ∀ q ∈ c, q.1 < n ∧ q.2 ≤ 1
  | 0, F => by
    unfold rcu
    intro hd c hc q hq
    split at hc
    · cases hc
    · simp at hc; subst hc; cases hq
  | d + 1, F => by
    unfold rcu
    intro hd c hc q hq
    split at hc
    · cases hc
    split at hc
    · rcases List.mem_append.1 hc with h | h
      · obtain ⟨z, hz, rfl⟩ := List.mem_map.1 h
        rcases List.mem_cons.1 hq with rfl | h1
        · exact ⟨by simp; omega, by simp⟩
        · exact rcu_var n d _ (by omega) z hz q h1
      · obtain ⟨z, hz, rfl⟩ := List.mem_map.1 h
        rcases List.mem_cons.1 hq with rfl | h1
        · exact ⟨by simp; omega, by simp⟩
        · exact rcu_var n d _ (by omega) z hz q h1
    · exact rcu_var n d _ (by omega) c hc q hq
/-- A variable for a fact. -/
def fcO (c : Fc) : Obj := .cells #[.int .i64 (c.1 : Nat), .int .i64 (c.2 : Nat)] 77 (0, 0)
theorem st_fc {w wa : World} {F : List Nat} {X : Asr} {KW : Kont World} {b : Nat} {c : Fc} (hX : Lcl X) (h : At w F X wa) (hb : b = wa.heap.size) (H : ∀ w2, At w F (Star (ObjA b (fcO c)) X) w2 → KW.run w2) :
    @stJ (wa.alloc (.cells #[.int .i64 0, .int .i64 0] 77 (0, 0))) ⟨b, 0, none⟩ [.int .i64 (c.1 : Nat), .int .i64 (c.2 : Nat)] KW := by
  have h1 : At w F (Star (ObjA b (.cells #[.int .i64 0, .int .i64 0] 77 (0, 0))) X) (wa.alloc (.cells #[.int .i64 0, .int .i64 0] 77 (0, 0))) := by rw [hb]; exact h.alloc _ hX
  exact h1.st hX (by simp) (by simp) fun w2 h2 => H w2 (by simpa [fcO] using h2)
/-- The state of the law: what has been made, and what can be read in it. -/
def CbS (m n lim : Nat) (ns : Ns) (l : List Pr) (lv : Value) (w w' : World) : Prop := At w [] (Star (MgrA m n lim ns) (DoL lv n l Emp)) w'
set_option maxHeartbeats 4000000 in
theorem law_cubes {w : World} (x s : Nat) (av : Value) (acts : List Act) (hx : x ≤ 255) (hs : s ≤ 255) (hv : Vw w av actE acts) (hok : ∀ x ∈ acts, ActOk x) :
    Calls Try.prog 9 [.int .u8 (x : Nat), av, .int .u8 (s : Nat)].toArray w fun e w' => ∃ x, e = .returned x ∧ x = .bool true ∧ Kp [] w w' := by
  refine enter Try.func9 mixed low9 (Nat.le_of_ble_eq_true rfl) ?_
  simp only [L9]
  obtain ⟨n, hnn⟩ : ∃ n, n = x % 6 := ⟨_, rfl⟩
  have ew : IntKind.i64.wrap (x : Int) = x := wrap_i64 (by omega) (by omega)
  have en : (x : Int).tmod 6 = (n : Int) := by rw [hnn, Int.tmod_eq_emod_of_nonneg (by omega)]; simp
  by_cases h30 : 30 < acts.length
  · have h30' : (30 : Int) < (acts.length : Nat) := by omega
    simp [hv.len, h30', h30]
    refine cl_of (awake_spec _) ?_
    rintro _ w2 ⟨rfl, k2⟩
    simp
    exact k2
  have h30' : ¬ (30 : Int) < (acts.length : Nat) := by omega
  simp [hv.len, h30', h30]
  refine cl_of (awake_spec _) ?_
  rintro _ w1 ⟨rfl, k1⟩
  simp [ew, en, h30', h30]
  have h1 : At w [] Emp w1 := (At.start rfl).kp0 .emp k1
  refine cl_of (new_spec n 1048576 .emp h1 (by omega) (by omega) (by omega)) ?_
  rintro _ w2 ⟨m, rfl, h2⟩
  simp
  refine cl_of (made_spec m n av acts .emp (by omega) h2 (fun w' k => hv.kp0 k) (by omega) hok) ?_
  rintro _ w3 ⟨lv, rfl, ns, l, hS, hcnt, h3⟩
  have hll := hS.2.2.1
  have hmn := hS.2.2.2.2
  have hwf := hS.1
  have hlim := hS.2.1
  have hn5 : n ≤ 5 := by omega
  have hbn : Bnd n 1048576 ns := ⟨by omega, by omega, hlim⟩
  have hLD : Lcl (Star (MgrA m n 1048576 ns) (DoL lv n l Emp)) := Lcl.mgr.star (DoL.lcl .emp)
  obtain ⟨most, hmost⟩ : ∃ most : Int, most = (s : Int).tmod 10 - 1 := ⟨_, rfl⟩
  have hmr : -1 ≤ most ∧ most ≤ 8 := by rw [hmost, Int.tmod_eq_emod_of_nonneg (by omega)]; omega
  have ews : IntKind.i64.wrap (s : Int) = s := wrap_i64 (by omega) (by omega)
  have ewm : IntKind.i64.wrap most = most := wrap_i64 (by omega) (by omega)
  simp [h3.drop.own.vw.len]
  refine range_loop (n := l.length) (by omega) (fun k ρ w' => ρ 8 = .pointer (some ⟨m, 0, none⟩) ∧ ρ 7 = .int .i64 (n : Nat) ∧ ρ 2 = .int .u8 (s : Nat) ∧ ρ 54 = lv ∧ CbS m n 1048576 ns l lv w w') (by simp) (by simp)
    ⟨by simp, by simp, by simp, by simp, h3⟩ (by decide) (fun _ _ _ _ h => by simpa using h) (fun _ _ _ _ h => by simpa using h) ?_ ?_
  · rintro k ρ w4 hk hc hlm ⟨g8, g7, g2, g54, h4⟩
    unfold CbS at h4
    obtain ⟨p, hp⟩ : ∃ p, l[k]? = some p := ⟨_, List.getElem?_eq_getElem hk⟩
    have hpl := List.mem_of_getElem? hp
    have V4 := h4.drop.own.vw
    have ec := V4.cells (prE_len n) hp
    simp only [prE] at ec
    simp (disch := omega) [g54, hc, hlm, V4.idx, ec]
    obtain ⟨pb, hpb⟩ : ∃ pb, pb = w4.heap.size := ⟨_, rfl⟩
    rw [← hpb]
    refine st_pair (x := p.ref) (u := p.u) hLD h4 hpb fun w5 h5 => ?_
    have hT : (p.u, tab n p.f) ∈ psOf n l := List.mem_map.2 ⟨p, hpl, rfl⟩
    have hLP : Lcl (Star (ObjA pb (prO n p.ref p.u.1)) (Star (MgrA m n 1048576 ns) (DoL lv n l Emp))) := Lcl.obj.star hLD
    simp [g8, hc, hlm, rd_pr1 h5.obj]
    refine cl_of (rCubes_spec n (by omega) n 0 p.u.1 p.f w5 (by omega) (h5.drop.drop.drop.vws hT)) ?_
    rintro wl w6 ht
    have hcu := rcu_eq hwf n p.ref p.f (hmn p hpl) (Nat.le_refl _) (by omega)
    obtain ⟨cs, hcs⟩ : ∃ cs, cs = cubeF n ns p.ref := ⟨_, rfl⟩
    rw [hcu, ← hcs] at ht
    have hcl := cube_len hwf (hmn p hpl).ref
    rw [← hcs] at hcl
    have h32 := pow5 hn5 (tv n ns p.ref)
    obtain ⟨ps, hps, h6⟩ := LLA.opn (At.join hLP h5 ht)
    have h6 := h6.by Imp.r4
    have hpl2 : ps.length = cs.length := by rw [← hps]; simp
    have hB6 : Lcl (Star (OwnA wl 75 1 sv1 ps) (Star (VwsA fv ps) (Star (ObjA pb (prO n p.ref p.u.1)) (DoL lv n l Emp)))) := Lcl.own.star (Lcl.vws.star (Lcl.obj.star (DoL.lcl .emp)))
    simp [g8, g2, rd_pr0 h6.drop.drop.drop.obj, ews, ← hmost, ewm]
    refine cl_of (Cubes_spec m n 1048576 most ns p.ref (by omega) hB6 h6 hwf hbn (hmn p hpl).ref) ?_
    rintro _ w7 hcb
    unfold CbPost at hcb
    rw [← hcs, cu_iff] at hcb
    rcases hcb with ⟨hmx, ov, rfl, h7⟩ | ⟨hmx, rfl, h7⟩
    · obtain ⟨ps2, hps2, h7⟩ := LLA.opn h7
      have hpl3 : ps2.length = cs.length := by rw [← hps2]; simp
      have hmx' : ¬ max 0 most < (ps.length : Nat) := by rw [hpl2]; exact hmx
      have hle : ((ps2.length : Int) != ps.length) = false := by simp; omega
      have V7 := h7.own.vw
      have W7 := h7.drop.drop.drop.own.vw
      simp (disch := omega) [g8, g2, ews, ← hmost, ewm, V7.len, W7.len, hmx', hle]
      have h8 := h7.drop.drop
      have r8 := rd_pr0 h8.drop.drop.drop.obj
      simp [g8, r8]
      refine cl_of (Cubes_spec m n 1048576 64 ns p.ref (by omega) hB6 h8 hwf hbn (hmn p hpl).ref) ?_
      rintro _ w9 hcb2
      unfold CbPost at hcb2
      rw [← hcs, cu_iff] at hcb2
      rcases hcb2 with ⟨_, ov2, rfl, h9⟩ | ⟨hno, rfl, h9⟩
      case inr => omega
      obtain ⟨qs, hqs, h9⟩ := LLA.opn h9
      have hql : qs.length = cs.length := by rw [← hqs]; simp
      have hqe : ((qs.length : Int) != ps.length) = false := by simp; omega
      have V9 := h9.own.vw
      have W9 := h9.drop.drop.drop.own.vw
      simp (disch := omega) [V9.len, W9.len, hqe]
      refine range_loop (n := qs.length) (by omega) (fun i ρ' w' => ρ' 8 = .pointer (some ⟨m, 0, none⟩) ∧ ρ' 7 = .int .i64 (n : Nat) ∧ ρ' 2 = .int .u8 (s : Nat) ∧ ρ' 54 = lv ∧ ρ' 56 = .int .i64 (k : Nat) ∧ ρ' 55 = .int .i64 (l.length : Nat) ∧ ρ' 13 = .pointer (some ⟨pb, 0, none⟩) ∧ ρ' 17 = ov2 ∧ ρ' 14 = wl ∧ Kp [] w9 w') (by simp) (by simp)
        ⟨by simp [g8], by simp [g7], by simp [g2], by simp [g54], by simp [hc], by simp [hlm], by simp, by simp, by simp, Kp.refl _ _⟩ (by decide) (fun _ _ _ _ h => by simpa using h) (fun _ _ _ _ h => by simpa using h) ?_ ?_
      · rintro i ρ wa hi hci hli ⟨g8, g7, g2, g54, g56, g55, g13, g17, g14, ka⟩
        obtain ⟨q, hq⟩ : ∃ q, qs[i]? = some q := ⟨_, List.getElem?_eq_getElem hi⟩
        obtain ⟨r, hr⟩ : ∃ r, ps[i]? = some r := ⟨_, List.getElem?_eq_getElem (by omega)⟩
        have Va := V9.kp0 ka
        have Wa := W9.kp0 ka
        have eq1 : wa.cell? (ov2.adr.add i) = some q.1.1 := by simpa using Va.at_ sv1_len hq (o := 0) (u := q.1.1) rfl
        have er1 : wa.cell? (wl.adr.add i) = some r.1.1 := by simpa using Wa.at_ sv1_len hr (o := 0) (u := r.1.1) rfl
        have hqr : q.2 = r.2 := by
          have e1 : (qs.map (·.2))[i]? = some q.2 := by rw [List.getElem?_map, hq]; rfl
          have e2 : (ps.map (·.2))[i]? = some r.2 := by rw [List.getElem?_map, hr]; rfl
          rw [hqs] at e1
          rw [hps] at e2
          rw [e1] at e2
          exact Option.some.inj e2
        have hqv := (h9.drop.vws (List.mem_of_getElem? hq)).kp0 ka
        have hrv := (h9.drop.drop.drop.drop.vws (List.mem_of_getElem? hr)).kp0 ka
        have hi2 : (i : Int) < ps.length := by omega
        simp (disch := omega) [g17, g14, hci, hli, Va.idx, Wa.idx, eq1, er1]
        have hx2 : q.2.length ≤ 1000000 := by
          have e1 : (qs.map (·.2))[i]? = some q.2 := by rw [List.getElem?_map, hq]; rfl
          rw [hqs, hcs, ← hcu] at e1
          have := rcu_cl n n p.f q.2 (List.mem_of_getElem? e1)
          omega
        refine cl_of (facts_spec _ _ q.2 r.2 hqv.drew hrv.drew hx2 (by rw [← hqr]; exact hx2)) ?_
        rintro _ wb ⟨rfl, kb⟩
        simp [hqr, g8, g7, g2, g54, g56, g55, g13, g17, g14, hci, hli]
        exact ka.drew.trans0 kb
      rintro ρ wa ⟨g8, g7, g2, g54, g56, g55, g13, g17, g14, ka⟩
      have hpv := (h9.drop.drop.drop.drop.drop.drop.drop.vws hT).kp0 ka
      have h10 := h9.kp0 (Lcl.own.star (Lcl.vws.star (Lcl.mgr.star hB6))) ka
      have hpo := h10.drop.drop.drop.drop.drop.obj
      unfold prO at hpo
      simp [g13, cell_blk hpo, hpv.len, tab_len]
      refine range_loop (n := 2 ^ n) (by have := two_mono hn5; omega) (fun a ρ' w' => ρ' 8 = .pointer (some ⟨m, 0, none⟩) ∧ ρ' 7 = .int .i64 (n : Nat) ∧ ρ' 2 = .int .u8 (s : Nat) ∧ ρ' 54 = lv ∧ ρ' 56 = .int .i64 (k : Nat) ∧ ρ' 55 = .int .i64 (l.length : Nat) ∧ ρ' 133 = p.u.1 ∧ ρ' 17 = ov2 ∧ Kp [] wa w') (by simp) (by simp)
        ⟨by simp [g8], by simp [g7], by simp [g2], by simp [g54], by simp [g56], by simp [g55], by simp, by simp [g17], Kp.refl _ _⟩ (by decide) (fun _ _ _ _ h => by simpa using h) (fun _ _ _ _ h => by simpa using h) ?_ ?_
      · rintro a ρ wb ha hca hla ⟨g8, g7, g2, g54, g56, g55, g133, g17, kb⟩
        have hpvb := hpv.kp0 kb
        have Vb := V9.kp0 (ka.trans0 kb)
        simp (disch := omega) [g133, g17, hca, hla, tb_idx hpvb ha, bv_at hpvb ha, Vb.len]
        have hpow := two_mono hn5
        obtain ⟨A, hA⟩ : ∃ A, A = asg n a := ⟨_, rfl⟩
        rw [← hA]
        have hcq : qs.map (·.2) = cs := hqs
        refine range_loop (n := qs.length) (by omega) (fun i ρ' w' => ρ' 8 = .pointer (some ⟨m, 0, none⟩) ∧ ρ' 7 = .int .i64 (n : Nat) ∧ ρ' 2 = .int .u8 (s : Nat) ∧ ρ' 54 = lv ∧ ρ' 56 = .int .i64 (k : Nat) ∧ ρ' 55 = .int .i64 (l.length : Nat) ∧ ρ' 133 = p.u.1 ∧ ρ' 17 = ov2 ∧ ρ' 134 = .int .i64 ((2 ^ n : Nat) : Int) ∧ ρ' 135 = .int .i64 (a : Nat) ∧ ρ' 140 = ov2 ∧ ρ' 19 = .int .i64 (a : Nat) ∧ ρ' 20 = .bool (p.f A) ∧
            ρ' 21 = .int .i64 (((cs.take i).filter (fitsC A)).length : Nat) ∧ Kp [] wb w') (by simp) (by simp)
          ⟨by simp [g8], by simp [g7], by simp [g2], by simp [g54], by simp [g56], by simp [g55], by simp [g133], by simp [g17], by simp [hla], by simp [hca], by simp [g17], by simp, by simp, by simp, Kp.refl _ _⟩ (by decide) (fun _ _ _ _ h => by simpa using h) (fun _ _ _ _ h => by simpa using h) ?_ ?_
        · rintro i ρ wc hi hci hli ⟨g8, g7, g2, g54, g56, g55, g133, g17, g134, g135, g140, g19, g20, g21, kc⟩
          obtain ⟨q, hq⟩ : ∃ q, qs[i]? = some q := ⟨_, List.getElem?_eq_getElem hi⟩
          have hqc : cs[i]? = some q.2 := by rw [← hcq, List.getElem?_map, hq]; rfl
          have kca := (ka.trans0 kb).trans0 kc
          have Vc := V9.kp0 kca
          have eqc : wc.cell? (ov2.adr.add i) = some q.1.1 := by simpa using Vc.at_ sv1_len hq (o := 0) (u := q.1.1) rfl
          have hqv := (h9.drop.vws (List.mem_of_getElem? hq)).kp0 kca
          have hqm := List.mem_of_getElem? hqc
          rw [hcs, ← hcu] at hqm
          have hql2 := rcu_cl n n p.f q.2 hqm
          have hqv2 := rcu_var n n p.f (Nat.le_refl _) q.2 hqm
          simp (disch := omega) [g140, hci, hli, Vc.idx, eqc, hqv.len]
          refine range_loop (n := q.2.length) (by omega) (fun j ρ' w' => ρ' 8 = .pointer (some ⟨m, 0, none⟩) ∧ ρ' 7 = .int .i64 (n : Nat) ∧ ρ' 2 = .int .u8 (s : Nat) ∧ ρ' 54 = lv ∧ ρ' 56 = .int .i64 (k : Nat) ∧ ρ' 55 = .int .i64 (l.length : Nat) ∧ ρ' 133 = p.u.1 ∧ ρ' 17 = ov2 ∧ ρ' 134 = .int .i64 ((2 ^ n : Nat) : Int) ∧ ρ' 135 = .int .i64 (a : Nat) ∧ ρ' 140 = ov2 ∧ ρ' 19 = .int .i64 (a : Nat) ∧ ρ' 20 = .bool (p.f A) ∧
              ρ' 21 = .int .i64 (((cs.take i).filter (fitsC A)).length : Nat) ∧ ρ' 142 = .int .i64 (i : Nat) ∧ ρ' 141 = .int .i64 (qs.length : Nat) ∧ ρ' 146 = q.1.1 ∧ ρ' 24 = .bool (fitsC A (q.2.take j)) ∧ Kp [] wc w') (by simp) (by simp)
            ⟨by simp [g8], by simp [g7], by simp [g2], by simp [g54], by simp [g56], by simp [g55], by simp [g133], by simp [g17], by simp [g134], by simp [g135], by simp [g140], by simp [g19], by simp [g20], by simp [g21], by simp [hci], by simp [hli], by simp, by simp [fitsC], Kp.refl _ _⟩ (by decide) (fun _ _ _ _ h => by simpa using h) (fun _ _ _ _ h => by simpa using h) ?_ ?_
          · rintro j ρ wd hj hcj hlj ⟨g8, g7, g2, g54, g56, g55, g133, g17, g134, g135, g140, g19, g20, g21, g142, g141, g146, g24, kd⟩
            obtain ⟨c, hc1⟩ : ∃ c, q.2[j]? = some c := ⟨_, List.getElem?_eq_getElem hj⟩
            have hqd := hqv.kp0 kd
            have ecf := hqd.cells fv_len hc1
            simp only [fv] at ecf
            obtain ⟨hv1, hv2⟩ := hqv2 c (List.mem_of_getElem? hc1)
            have hfs : fitsC A (q.2.take (j + 1)) = (fitsC A (q.2.take j) && (A c.1 == decide (c.2 = 1))) := by
              unfold fitsC
              rw [List.take_add_one, hc1, List.all_append]
              simp
            rw [hfs]
            obtain ⟨fb, hfb⟩ : ∃ fb, fb = wd.heap.size := ⟨_, rfl⟩
            simp (disch := omega) [g146, hcj, hlj, hqd.idx, ecf, ← hfb]
            refine st_fc (c := c) .emp (At.start rfl : At wd [] Emp wd) hfb fun we he => ?_
            have ho := he.obj
            unfold fcO at ho
            rw [hfb] at ho
            cases hfd : fitsC A (q.2.take j) with
            | false =>
              rw [hfd] at g24
              simp [g24, g8, g7, g2, g54, g56, g55, g133, g17, g134, g135, g140, g19, g20, g21, g142, g141, g146, hcj, hlj]
              exact (kd.trans0 he.kp).drew
            | true =>
              rw [hfd] at g24
              have hbq : ((c.2 : Int) == 1) = decide (c.2 = 1) := by
                rw [Bool.eq_iff_iff, beq_iff_eq, decide_eq_true_eq]; omega
              simp [g24, g7, g19, cell_blk ho]
              refine ⟨?_, ?_⟩ <;>
              · refine cl_of (rBit_spec n a c.1 _ hv1 (by omega)) ?_
                rintro _ wf ⟨rfl, kf⟩
                have ho2 := kf.blk (o := .cells #[.int .i64 (c.1 : Nat), .int .i64 (c.2 : Nat)] 77 (0, 0)) (b := wd.heap.size) (by simpa using ho) (by simp)
                simp [← hA, hbq, cell_blk ho2, g24, g8, g7, g2, g54, g56, g55, g133, g17, g134, g135, g140, g19, g20, g21, g142, g141, g146, hcj, hlj]
                exact (kd.trans0 he.kp).drew.trans0 kf
          rintro ρ wd ⟨g8, g7, g2, g54, g56, g55, g133, g17, g134, g135, g140, g19, g20, g21, g142, g141, g146, g24, kd⟩
          rw [List.take_of_length_le (Nat.le_refl _)] at g24
          have hst : ((cs.take (i + 1)).filter (fitsC A)).length = ((cs.take i).filter (fitsC A)).length + (fitsC A q.2).toNat := by
            rw [List.take_add_one, hqc, List.filter_append]
            cases h : fitsC A q.2 <;> simp [h]
          rw [hst]
          have hfl := List.length_filter_le (fitsC A) (cs.take i)
          rw [List.length_take] at hfl
          cases hfi : fitsC A q.2 with
          | true =>
            simp (disch := omega) [g24, hfi, wrap_i64, g8, g7, g2, g54, g56, g55, g133, g17, g134, g135, g140, g19, g20, g21, g142, g141]
            exact kc.trans0 kd
          | false =>
            simp [g24, hfi, g8, g7, g2, g54, g56, g55, g133, g17, g134, g135, g140, g19, g20, g21, g142, g141]
            exact kc.trans0 kd
        rintro ρ wc ⟨g8, g7, g2, g54, g56, g55, g133, g17, g134, g135, g140, g19, g20, g21, kc⟩
        rw [List.take_of_length_le (by omega)] at g21
        have hhit := cube_hits hwf A (hmn p hpl).ref
        rw [← hcs, (hmn p hpl).ev] at hhit
        rw [hhit] at g21
        cases hpf : p.f A with
        | true =>
          rw [hpf] at g20 g21
          simp [g20, g21, g8, g7, g2, g54, g56, g55, g133, g17, g134, g135]
          exact kb.trans0 kc
        | false =>
          rw [hpf] at g20 g21
          simp [g20, g21, g8, g7, g2, g54, g56, g55, g133, g17, g134, g135]
          exact kb.trans0 kc
      rintro ρ wb ⟨g8, g7, g2, g54, g56, g55, g133, g17, kb⟩
      simp [g8, g7, g2, g54, g56, g55]
      have h11 := h10.kp0 (Lcl.own.star (Lcl.vws.star (Lcl.mgr.star hB6))) kb
      exact (h11.drop.drop).by (Imp.un (Imp.dr.trans (Imp.dr.trans Imp.dr)))
    · have hmx' : max 0 most < (ps.length : Nat) := by rw [hpl2]; omega
      have W7 := h7.drop.own.vw
      simp (disch := omega) [g8, g2, ews, ← hmost, ewm, W7.len, hmx', noV, errV]
      refine cl_of (is_err 10 10 w7) ?_
      rintro _ w8 ⟨rfl, k8⟩
      have h8 := h7.kp0 (Lcl.mgr.star hB6) k8
      have r8 := rd_pr0 h8.drop.drop.drop.obj
      simp [g8, r8]
      refine cl_of (Cubes_spec m n 1048576 64 ns p.ref (by omega) hB6 h8 hwf hbn (hmn p hpl).ref) ?_
      rintro _ w9 hcb2
      unfold CbPost at hcb2
      rw [← hcs, cu_iff] at hcb2
      rcases hcb2 with ⟨_, ov2, rfl, h9⟩ | ⟨hno, rfl, h9⟩
      case inr => omega
      obtain ⟨qs, hqs, h9⟩ := LLA.opn h9
      have hql : qs.length = cs.length := by rw [← hqs]; simp
      have hqe : ((qs.length : Int) != ps.length) = false := by simp; omega
      have V9 := h9.own.vw
      have W9 := h9.drop.drop.drop.own.vw
      simp (disch := omega) [V9.len, W9.len, hqe]
      refine range_loop (n := qs.length) (by omega) (fun i ρ' w' => ρ' 8 = .pointer (some ⟨m, 0, none⟩) ∧ ρ' 7 = .int .i64 (n : Nat) ∧ ρ' 2 = .int .u8 (s : Nat) ∧ ρ' 54 = lv ∧ ρ' 56 = .int .i64 (k : Nat) ∧ ρ' 55 = .int .i64 (l.length : Nat) ∧ ρ' 13 = .pointer (some ⟨pb, 0, none⟩) ∧ ρ' 17 = ov2 ∧ ρ' 14 = wl ∧ Kp [] w9 w') (by simp) (by simp)
        ⟨by simp [g8], by simp [g7], by simp [g2], by simp [g54], by simp [hc], by simp [hlm], by simp, by simp, by simp, Kp.refl _ _⟩ (by decide) (fun _ _ _ _ h => by simpa using h) (fun _ _ _ _ h => by simpa using h) ?_ ?_
      · rintro i ρ wa hi hci hli ⟨g8, g7, g2, g54, g56, g55, g13, g17, g14, ka⟩
        obtain ⟨q, hq⟩ : ∃ q, qs[i]? = some q := ⟨_, List.getElem?_eq_getElem hi⟩
        obtain ⟨r, hr⟩ : ∃ r, ps[i]? = some r := ⟨_, List.getElem?_eq_getElem (by omega)⟩
        have Va := V9.kp0 ka
        have Wa := W9.kp0 ka
        have eq1 : wa.cell? (ov2.adr.add i) = some q.1.1 := by simpa using Va.at_ sv1_len hq (o := 0) (u := q.1.1) rfl
        have er1 : wa.cell? (wl.adr.add i) = some r.1.1 := by simpa using Wa.at_ sv1_len hr (o := 0) (u := r.1.1) rfl
        have hqr : q.2 = r.2 := by
          have e1 : (qs.map (·.2))[i]? = some q.2 := by rw [List.getElem?_map, hq]; rfl
          have e2 : (ps.map (·.2))[i]? = some r.2 := by rw [List.getElem?_map, hr]; rfl
          rw [hqs] at e1
          rw [hps] at e2
          rw [e1] at e2
          exact Option.some.inj e2
        have hqv := (h9.drop.vws (List.mem_of_getElem? hq)).kp0 ka
        have hrv := (h9.drop.drop.drop.drop.vws (List.mem_of_getElem? hr)).kp0 ka
        have hi2 : (i : Int) < ps.length := by omega
        simp (disch := omega) [g17, g14, hci, hli, Va.idx, Wa.idx, eq1, er1]
        have hx2 : q.2.length ≤ 1000000 := by
          have e1 : (qs.map (·.2))[i]? = some q.2 := by rw [List.getElem?_map, hq]; rfl
          rw [hqs, hcs, ← hcu] at e1
          have := rcu_cl n n p.f q.2 (List.mem_of_getElem? e1)
          omega
        refine cl_of (facts_spec _ _ q.2 r.2 hqv.drew hrv.drew hx2 (by rw [← hqr]; exact hx2)) ?_
        rintro _ wb ⟨rfl, kb⟩
        simp [hqr, g8, g7, g2, g54, g56, g55, g13, g17, g14, hci, hli]
        exact ka.drew.trans0 kb
      rintro ρ wa ⟨g8, g7, g2, g54, g56, g55, g13, g17, g14, ka⟩
      have hpv := (h9.drop.drop.drop.drop.drop.drop.drop.vws hT).kp0 ka
      have h10 := h9.kp0 (Lcl.own.star (Lcl.vws.star (Lcl.mgr.star hB6))) ka
      have hpo := h10.drop.drop.drop.drop.drop.obj
      unfold prO at hpo
      simp [g13, cell_blk hpo, hpv.len, tab_len]
      refine range_loop (n := 2 ^ n) (by have := two_mono hn5; omega) (fun a ρ' w' => ρ' 8 = .pointer (some ⟨m, 0, none⟩) ∧ ρ' 7 = .int .i64 (n : Nat) ∧ ρ' 2 = .int .u8 (s : Nat) ∧ ρ' 54 = lv ∧ ρ' 56 = .int .i64 (k : Nat) ∧ ρ' 55 = .int .i64 (l.length : Nat) ∧ ρ' 133 = p.u.1 ∧ ρ' 17 = ov2 ∧ Kp [] wa w') (by simp) (by simp)
        ⟨by simp [g8], by simp [g7], by simp [g2], by simp [g54], by simp [g56], by simp [g55], by simp, by simp [g17], Kp.refl _ _⟩ (by decide) (fun _ _ _ _ h => by simpa using h) (fun _ _ _ _ h => by simpa using h) ?_ ?_
      · rintro a ρ wb ha hca hla ⟨g8, g7, g2, g54, g56, g55, g133, g17, kb⟩
        have hpvb := hpv.kp0 kb
        have Vb := V9.kp0 (ka.trans0 kb)
        simp (disch := omega) [g133, g17, hca, hla, tb_idx hpvb ha, bv_at hpvb ha, Vb.len]
        have hpow := two_mono hn5
        obtain ⟨A, hA⟩ : ∃ A, A = asg n a := ⟨_, rfl⟩
        rw [← hA]
        have hcq : qs.map (·.2) = cs := hqs
        refine range_loop (n := qs.length) (by omega) (fun i ρ' w' => ρ' 8 = .pointer (some ⟨m, 0, none⟩) ∧ ρ' 7 = .int .i64 (n : Nat) ∧ ρ' 2 = .int .u8 (s : Nat) ∧ ρ' 54 = lv ∧ ρ' 56 = .int .i64 (k : Nat) ∧ ρ' 55 = .int .i64 (l.length : Nat) ∧ ρ' 133 = p.u.1 ∧ ρ' 17 = ov2 ∧ ρ' 134 = .int .i64 ((2 ^ n : Nat) : Int) ∧ ρ' 135 = .int .i64 (a : Nat) ∧ ρ' 140 = ov2 ∧ ρ' 19 = .int .i64 (a : Nat) ∧ ρ' 20 = .bool (p.f A) ∧
            ρ' 21 = .int .i64 (((cs.take i).filter (fitsC A)).length : Nat) ∧ Kp [] wb w') (by simp) (by simp)
          ⟨by simp [g8], by simp [g7], by simp [g2], by simp [g54], by simp [g56], by simp [g55], by simp [g133], by simp [g17], by simp [hla], by simp [hca], by simp [g17], by simp, by simp, by simp, Kp.refl _ _⟩ (by decide) (fun _ _ _ _ h => by simpa using h) (fun _ _ _ _ h => by simpa using h) ?_ ?_
        · rintro i ρ wc hi hci hli ⟨g8, g7, g2, g54, g56, g55, g133, g17, g134, g135, g140, g19, g20, g21, kc⟩
          obtain ⟨q, hq⟩ : ∃ q, qs[i]? = some q := ⟨_, List.getElem?_eq_getElem hi⟩
          have hqc : cs[i]? = some q.2 := by rw [← hcq, List.getElem?_map, hq]; rfl
          have kca := (ka.trans0 kb).trans0 kc
          have Vc := V9.kp0 kca
          have eqc : wc.cell? (ov2.adr.add i) = some q.1.1 := by simpa using Vc.at_ sv1_len hq (o := 0) (u := q.1.1) rfl
          have hqv := (h9.drop.vws (List.mem_of_getElem? hq)).kp0 kca
          have hqm := List.mem_of_getElem? hqc
          rw [hcs, ← hcu] at hqm
          have hql2 := rcu_cl n n p.f q.2 hqm
          have hqv2 := rcu_var n n p.f (Nat.le_refl _) q.2 hqm
          simp (disch := omega) [g140, hci, hli, Vc.idx, eqc, hqv.len]
          refine range_loop (n := q.2.length) (by omega) (fun j ρ' w' => ρ' 8 = .pointer (some ⟨m, 0, none⟩) ∧ ρ' 7 = .int .i64 (n : Nat) ∧ ρ' 2 = .int .u8 (s : Nat) ∧ ρ' 54 = lv ∧ ρ' 56 = .int .i64 (k : Nat) ∧ ρ' 55 = .int .i64 (l.length : Nat) ∧ ρ' 133 = p.u.1 ∧ ρ' 17 = ov2 ∧ ρ' 134 = .int .i64 ((2 ^ n : Nat) : Int) ∧ ρ' 135 = .int .i64 (a : Nat) ∧ ρ' 140 = ov2 ∧ ρ' 19 = .int .i64 (a : Nat) ∧ ρ' 20 = .bool (p.f A) ∧
              ρ' 21 = .int .i64 (((cs.take i).filter (fitsC A)).length : Nat) ∧ ρ' 142 = .int .i64 (i : Nat) ∧ ρ' 141 = .int .i64 (qs.length : Nat) ∧ ρ' 146 = q.1.1 ∧ ρ' 24 = .bool (fitsC A (q.2.take j)) ∧ Kp [] wc w') (by simp) (by simp)
            ⟨by simp [g8], by simp [g7], by simp [g2], by simp [g54], by simp [g56], by simp [g55], by simp [g133], by simp [g17], by simp [g134], by simp [g135], by simp [g140], by simp [g19], by simp [g20], by simp [g21], by simp [hci], by simp [hli], by simp, by simp [fitsC], Kp.refl _ _⟩ (by decide) (fun _ _ _ _ h => by simpa using h) (fun _ _ _ _ h => by simpa using h) ?_ ?_
          · rintro j ρ wd hj hcj hlj ⟨g8, g7, g2, g54, g56, g55, g133, g17, g134, g135, g140, g19, g20, g21, g142, g141, g146, g24, kd⟩
            obtain ⟨c, hc1⟩ : ∃ c, q.2[j]? = some c := ⟨_, List.getElem?_eq_getElem hj⟩
            have hqd := hqv.kp0 kd
            have ecf := hqd.cells fv_len hc1
            simp only [fv] at ecf
            obtain ⟨hv1, hv2⟩ := hqv2 c (List.mem_of_getElem? hc1)
            have hfs : fitsC A (q.2.take (j + 1)) = (fitsC A (q.2.take j) && (A c.1 == decide (c.2 = 1))) := by
              unfold fitsC
              rw [List.take_add_one, hc1, List.all_append]
              simp
            rw [hfs]
            obtain ⟨fb, hfb⟩ : ∃ fb, fb = wd.heap.size := ⟨_, rfl⟩
            simp (disch := omega) [g146, hcj, hlj, hqd.idx, ecf, ← hfb]
            refine st_fc (c := c) .emp (At.start rfl : At wd [] Emp wd) hfb fun we he => ?_
            have ho := he.obj
            unfold fcO at ho
            rw [hfb] at ho
            cases hfd : fitsC A (q.2.take j) with
            | false =>
              rw [hfd] at g24
              simp [g24, g8, g7, g2, g54, g56, g55, g133, g17, g134, g135, g140, g19, g20, g21, g142, g141, g146, hcj, hlj]
              exact (kd.trans0 he.kp).drew
            | true =>
              rw [hfd] at g24
              have hbq : ((c.2 : Int) == 1) = decide (c.2 = 1) := by
                rw [Bool.eq_iff_iff, beq_iff_eq, decide_eq_true_eq]; omega
              simp [g24, g7, g19, cell_blk ho]
              refine ⟨?_, ?_⟩ <;>
              · refine cl_of (rBit_spec n a c.1 _ hv1 (by omega)) ?_
                rintro _ wf ⟨rfl, kf⟩
                have ho2 := kf.blk (o := .cells #[.int .i64 (c.1 : Nat), .int .i64 (c.2 : Nat)] 77 (0, 0)) (b := wd.heap.size) (by simpa using ho) (by simp)
                simp [← hA, hbq, cell_blk ho2, g24, g8, g7, g2, g54, g56, g55, g133, g17, g134, g135, g140, g19, g20, g21, g142, g141, g146, hcj, hlj]
                exact (kd.trans0 he.kp).drew.trans0 kf
          rintro ρ wd ⟨g8, g7, g2, g54, g56, g55, g133, g17, g134, g135, g140, g19, g20, g21, g142, g141, g146, g24, kd⟩
          rw [List.take_of_length_le (Nat.le_refl _)] at g24
          have hst : ((cs.take (i + 1)).filter (fitsC A)).length = ((cs.take i).filter (fitsC A)).length + (fitsC A q.2).toNat := by
            rw [List.take_add_one, hqc, List.filter_append]
            cases h : fitsC A q.2 <;> simp [h]
          rw [hst]
          have hfl := List.length_filter_le (fitsC A) (cs.take i)
          rw [List.length_take] at hfl
          cases hfi : fitsC A q.2 with
          | true =>
            simp (disch := omega) [g24, hfi, wrap_i64, g8, g7, g2, g54, g56, g55, g133, g17, g134, g135, g140, g19, g20, g21, g142, g141]
            exact kc.trans0 kd
          | false =>
            simp [g24, hfi, g8, g7, g2, g54, g56, g55, g133, g17, g134, g135, g140, g19, g20, g21, g142, g141]
            exact kc.trans0 kd
        rintro ρ wc ⟨g8, g7, g2, g54, g56, g55, g133, g17, g134, g135, g140, g19, g20, g21, kc⟩
        rw [List.take_of_length_le (by omega)] at g21
        have hhit := cube_hits hwf A (hmn p hpl).ref
        rw [← hcs, (hmn p hpl).ev] at hhit
        rw [hhit] at g21
        cases hpf : p.f A with
        | true =>
          rw [hpf] at g20 g21
          simp [g20, g21, g8, g7, g2, g54, g56, g55, g133, g17, g134, g135]
          exact kb.trans0 kc
        | false =>
          rw [hpf] at g20 g21
          simp [g20, g21, g8, g7, g2, g54, g56, g55, g133, g17, g134, g135]
          exact kb.trans0 kc
      rintro ρ wb ⟨g8, g7, g2, g54, g56, g55, g133, g17, kb⟩
      simp [g8, g7, g2, g54, g56, g55]
      have h11 := h10.kp0 (Lcl.own.star (Lcl.vws.star (Lcl.mgr.star hB6))) kb
      exact (h11.drop.drop).by (Imp.un (Imp.dr.trans (Imp.dr.trans Imp.dr)))
  rintro ρ w4 ⟨g8, g7, g2, g54, h4⟩
  simp
  exact h4.kp
end Go.Proofs.YtkojilpjpdpmaaaR
