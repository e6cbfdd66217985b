/-
  A part of the proof of this claim's statement (WhH, WhU): plain theorems; no conditions beyond those each names.
-/
import Derived.Test.YtolkjbmcindhjaaGreatPk21
import Derived.Test.YtolkjbmcindhjaaGreatPk16
section
set_option maxRecDepth 100000
set_option linter.unusedSimpArgs false
set_option linter.unusedVariables false
namespace Go.Proofs.YtolkjbmcindhjaaGreat
open Go Go.W Go.Tk Go.Rx Go.Maps
theorem build1_spec {w : World} (c : Nat) (hc : c ≤ 1048576) :
    Calls Tryz.prog 114 [.int .i64 (c : Nat)].toArray w fun e w' => ∃ x, e = .returned x ∧ x = .bool false ∧ Kp [] w w' := by
  refine enter Tryz.func114 mixed low114 (Nat.le_of_ble_eq_true rfl) ?_
  simp only [L114]
  have n1 : ¬ (c : Int) < 0 := by omega
  have n2 : ¬ (1048576 : Int) < (c : Int) := by omega
  have n2' : ¬ 1048576 < c := by omega
  simp [n1, n2, n2']
  exact Kp.refl _ _
theorem indexFI_spec {w : World} (v : Value) (l : List Nat) (hv : Vw w v nE l) (hl : l.length ≤ 1000000) (hc : ∀ c ∈ l, c ≤ 1048576) :
    Calls Tryz.prog 165 [v, .func (.func 114) #[] #[]].toArray w fun e w' => ∃ x, e = .returned x ∧ x = .int .i64 (-1) ∧ Kp [] w w' := by
  refine enter Tryz.func165 mixed low165 (Nat.le_of_ble_eq_true rfl) ?_
  simp only [L165]
  simp [hv.len]
  refine range_loop (n := l.length) (by omega) (fun k ρ w' => ρ 0 = v ∧ ρ 1 = .func (.func 114) #[] #[] ∧ Kp [] w w') (by simp) (by simp)
    ⟨by simp, by simp, Kp.refl _ _⟩ (by decide) (fun _ _ _ _ h => by simpa using h) (fun _ _ _ _ h => by simpa using h) ?_ ?_
  rotate_left
  · rintro ρ w4 ⟨g0, g1, k4⟩
    simp
    exact k4
  rintro k ρ w4 hk hc' hlm ⟨g0, g1, k4⟩
  obtain ⟨x, hx⟩ : ∃ x, l[k]? = some x := ⟨_, List.getElem?_eq_getElem hk⟩
  have hv4 := hv.kp0 k4
  have hki : (k : Int) < l.length := by omega
  simp (disch := omega) [g0, g1, hc', hlm, hv4.idx, nE_cell hv4 hx]
  refine cl_of (build1_spec x (hc x (List.mem_of_getElem? hx))) ?_
  rintro _ w5 ⟨rfl, k5⟩
  simp [g0, g1, hc', hlm]
  exact k4.trans0 k5
theorem containsFI_spec {w : World} (v : Value) (l : List Nat) (hv : Vw w v nE l) (hl : l.length ≤ 1000000) (hc : ∀ c ∈ l, c ≤ 1048576) :
    Calls Tryz.prog 113 [v, .func (.func 114) #[] #[]].toArray w fun e w' => ∃ x, e = .returned x ∧ x = .bool false ∧ Kp [] w w' := by
  refine enter Tryz.func113 mixed low113 (Nat.le_of_ble_eq_true rfl) ?_
  simp only [L113]
  simp
  refine cl_of (indexFI_spec v l hv hl hc) ?_
  rintro _ w5 ⟨rfl, k5⟩
  simp
  exact k5
theorem Imp.emr {X : Asr} : Imp X (Star X Emp) := fun w F h => ⟨F ++ [], ⟨F, [], h, Eq.refl _, by simp, Eq.refl _⟩, fun x hx => by simpa using hx⟩
theorem At.join2 {w w1 w2 : World} {F : List Nat} {A B : Asr} (hB : Lcl B) (h : At w F B w1) (t : At w1 [] A w2) : At w F (Star A B) w2 := by
  obtain ⟨Fa, h1, hs⟩ := t.ex
  refine h.more hB t.kp ⟨Fa, h1, fun x hx => ?_⟩
  rcases hs x hx with h3 | h3
  · cases h3
  · exact h3
theorem st_sy {n i : Nat} {cv ev gv : Value} {b : Nat} {w wa : World} {F : List Nat} {X : Asr} {KW : Kont World} (hX : Lcl X) (h : At w F X wa) (hb : b = wa.heap.size) (o1 : oneC cv = true) (o2 : oneC ev = true) (o3 : oneC gv = true) (H : ∀ w2, At w F (Star (ObjA b (syO n i cv ev gv)) X) w2 → KW.run w2) :
    @stJ (wa.alloc (.cells #[.int .i64 0, .int .i64 0, .slice none 0 0, .slice none 0 0, .slice none 0 0] 194 (0, 0))) ⟨b, 0, none⟩ [.int .i64 (n : Nat), .int .i64 (i : Nat), cv, ev, gv] KW := by
  have h1 : At w F (Star (ObjA b (.cells #[.int .i64 0, .int .i64 0, .slice none 0 0, .slice none 0 0, .slice none 0 0] 194 (0, 0))) X) (wa.alloc (.cells #[.int .i64 0, .int .i64 0, .slice none 0 0, .slice none 0 0, .slice none 0 0] 194 (0, 0))) := by rw [hb]; exact h.alloc _ hX
  exact h1.st hX (by simp) (by simp [o1, o2, o3]) fun w2 h2 => H w2 (by simpa [syO] using h2)
def dbO (vv pv : Value) (N I : Nat) (cv ev gv tv : Value) : Obj := .cells #[vv, pv, .int .i64 (N : Nat), .int .i64 (I : Nat), cv, ev, gv, tv] 199 (0, 0)
/-- The values of a database. -/
structure DbV where
  vv : Value
  pv : Value
  I : Nat
  cv : Value
  ev : Value
  gv : Value
  tv : Value
  es : List Ed
  gl : List Bool
  V : Nat → Nat
/-- A database in memory. -/
def DbA (T : Nt) (p : List Nat) (d : DbV) (b : Nat) : Asr := Star (ObjA b (dbO d.vv d.pv (szS T.vars p) d.I d.cv d.ev d.gv d.tv)) (Star (OwnA d.tv 3 1 nE (tabN (szS T.vars p) d.V)) (Star (OwnA d.pv 3 1 nE p) (Star (OwnA d.vv 3 1 nE T.vars) (Star (OwnA d.cv 3 1 nE (T.ops.map (·.cost))) (Star (OwnA d.ev 201 3 edE d.es) (Star (OwnA d.gv 4 1 bE d.gl) Emp))))))
theorem lcl_db {T : Nt} {p : List Nat} {d : DbV} {b : Nat} : Lcl (DbA T p d b) := Lcl.obj.star (Lcl.own.star (Lcl.own.star (Lcl.own.star (Lcl.own.star (Lcl.own.star (Lcl.own.star .emp))))))
/-- It is the database for some costs. -/
structure DbW (T : Nt) (p : List Nat) (cs : List Nat) (d : DbV) : Prop where
  prj : Prj T p d.gl d.es
  len : d.es.length ≤ 10240
  val : IsVal (unE d.es fun i => cs.getD i 0) (glS d.gl) d.V
def BdR (T : Nt) (p cs : List Nat) (w : World) (x : Value) (w' : World) : Prop := ∃ b d, x = .tuple #[.pointer (some ⟨b, 0, none⟩), .nilIface] ∧ DbW T p cs d ∧ At w [] (Star (DbA T p d b) Emp) w'
set_option maxHeartbeats 4000000 in
theorem build_spec {w : World} (T : Nt) (pv cov : Value) (p cs : List Nat) (hT : TmT T) (hr : NtR w T) (hpv : Vw w pv nE p) (hp : Pt T p) (hcv : Vw w cov nE cs) (hcl : cs.length = T.ops.length) (hcm : ∀ c ∈ cs, c ≤ 1048576) :
    Calls Tryz.prog 52 [ntV T, pv, cov].toArray w fun e w' => ∃ x, e = .returned x ∧ BdR T p cs w x w' := by
  refine enter Tryz.func52 mixed low52 (Nat.le_of_ble_eq_true rfl) ?_
  simp only [L52]
  have hs := hT.sm
  have hol := hT.ol
  obtain ⟨b, hb⟩ : ∃ b, b = w.heap.size := ⟨_, rfl⟩
  have h1 : At w [] (Star (ObjA b (ntO T)) Emp) (w.alloc (ntO T)) := by rw [hb]; exact (At.start rfl).alloc _ .emp
  obtain ⟨w1, hw1⟩ : ∃ w1, w1 = w.alloc (ntO T) := ⟨_, rfl⟩
  rw [← hw1] at h1
  have hw1' : w.alloc (.cells #[T.vv.1, T.nv.1, T.gv.1, T.ov.1] 26 (0, 0)) = w1 := by rw [hw1]; rfl
  have hL : Lcl (Star (ObjA b (ntO T)) Emp) := Lcl.obj.star .emp
  refine seq_cut (fun ρ w' => ρ 1 = pv ∧ ρ 2 = cov ∧ ρ 3 = .pointer (some ⟨b, 0, none⟩) ∧ At w [] (Star (ObjA b (ntO T)) Emp) w') ?_ ?_
  · simp [ntV, ← hb, hw1']
    exact h1
  clear h1 hw1 hw1' hb
  rintro ρ w1 ⟨g1, g2, g3, h1⟩
  refine seq_cut (fun ρ w' => ρ 1 = pv ∧ ρ 2 = cov ∧ ρ 3 = .pointer (some ⟨b, 0, none⟩) ∧ At w [] (Star (ObjA b (ntO T)) Emp) w') ?_ ?_
  · simp [g3, rd_nt h1.obj]
    refine cl_of (tcheck_spec T.raw (NtR.raw.2 (hr.kp h1.kp)) (hs.g.lens hs.nm)) ?_
    rintro _ w2 ⟨rfl, k2⟩
    rw [(chk_good T.raw).2 hs.good]
    simp [chkV]
    exact ⟨g1, g2, g3, h1.kp0 hL k2⟩
  clear h1 g1 g2 g3
  rintro ρ w2 ⟨g1, g2, g3, h2⟩
  have ob2 := h2.obj
  unfold ntO at ob2
  have hr2 := hr.kp h2.kp
  have hcv2 := hcv.kp0 h2.kp
  have n1 : ((cs.length : Int) != (T.ops.length : Int)) = false := by rw [hcl]; simp
  refine seq_cut (fun ρ w' => ρ 1 = pv ∧ ρ 2 = cov ∧ ρ 3 = .pointer (some ⟨b, 0, none⟩) ∧ At w [] (Star (ObjA b (ntO T)) Emp) w') ?_ ?_
  · by_cases hz : 0 < cs.length
    · have hz' : (0 : Int) < (cs.length : Int) := by omega
      simp [g2, g3, hcv2.len, cell_blk ob2, hr2.ops.len, n1, hz, hz']
      exact ⟨g1, h2⟩
    · have hz' : ¬ (0 : Int) < (cs.length : Int) := by omega
      simp [g2, g3, hcv2.len, cell_blk ob2, hr2.ops.len, n1, hz, hz']
      exact ⟨g1, h2⟩
  clear h2 ob2 hr2 hcv2 g1 g2 g3
  rintro ρ w3 ⟨g1, g2, g3, h3⟩
  refine seq_cut (fun ρ w' => ρ 1 = pv ∧ ρ 2 = cov ∧ ρ 3 = .pointer (some ⟨b, 0, none⟩) ∧ At w [] (Star (ObjA b (ntO T)) Emp) w') ?_ ?_
  · simp [g2]
    refine cl_of (containsFI_spec cov cs (hcv.kp0 h3.kp) (by omega) hcm) ?_
    rintro _ w4 ⟨rfl, k4⟩
    simp
    exact ⟨g1, g2, g3, h3.kp0 hL k4⟩
  clear h3 g1 g2 g3
  rintro ρ w4 ⟨g1, g2, g3, h4⟩
  obtain ⟨N, hN⟩ : ∃ N, N = szS T.vars p := ⟨_, rfl⟩
  obtain ⟨I, hI⟩ : ∃ I, I = nbS T.vars T.init p := ⟨_, rfl⟩
  refine seq_cut (fun ρ w' => ρ 1 = pv ∧ ρ 2 = cov ∧ ρ 3 = .pointer (some ⟨b, 0, none⟩) ∧ ρ 10 = .nilIface ∧ ∃ xb cv ev gv es gl, ρ 9 = .pointer (some ⟨xb, 0, none⟩) ∧ Prj T p gl es ∧ es.length ≤ 10240 ∧
      At w [] (Star (ObjA xb (syO N I cv ev gv)) (Star (OwnA cv 3 1 nE (T.ops.map (·.cost))) (Star (OwnA ev 201 3 edE es) (Star (OwnA gv 4 1 bE gl) (Star (ObjA b (ntO T)) Emp))))) w') ?_ ?_
  · simp [g1, g3, rd_nt h4.obj]
    refine cl_of (project_spec T pv p hT (hr.kp h4.kp) (hpv.kp0 h4.kp) hp) ?_
    rintro _ w5 ⟨cv, ev, gv, es, gl, rfl, hP, hel, h5⟩
    have h6 := (At.join2 hL h4 h5).by (Imp.as.trans (Imp.un (Imp.as.trans (Imp.un (Imp.as.trans (Imp.un Imp.dr))))))
    rw [← hN, ← hI]
    obtain ⟨xb, hxb⟩ : ∃ xb, xb = w5.heap.size := ⟨_, rfl⟩
    simp [syV, ← hxb]
    have hL6 : Lcl (Star (OwnA cv 3 1 nE (T.ops.map (·.cost))) (Star (OwnA ev 201 3 edE es) (Star (OwnA gv 4 1 bE gl) (Star (ObjA b (ntO T)) Emp)))) := Lcl.own.star (Lcl.own.star (Lcl.own.star hL))
    refine st_sy hL6 h6 hxb h6.own.o1 h6.drop.own.o1 h6.drop.drop.own.o1 fun w6 h7 => ?_
    simp [g1, g2, g3]
    rw [← hxb]
    exact ⟨cv, ev, gv, es, gl, hP, hel, h7⟩
  clear h4 g1 g2 g3
  rintro ρ w6 ⟨g1, g2, g3, g10, xb, cv, ev, gv, es, gl, g9, hP, hel, h7⟩
  have ox7 := h7.obj
  unfold syO at ox7
  refine seq_cut (fun ρ w' => ρ 1 = pv ∧ ρ 2 = cov ∧ ρ 3 = .pointer (some ⟨b, 0, none⟩) ∧ ρ 9 = .pointer (some ⟨xb, 0, none⟩) ∧ w' = w6) ?_ ?_
  · simp [g1, g2, g3, g9, g10]
  clear g1 g2 g3 g9 g10
  rintro ρ w7 ⟨g1, g2, g3, g9, rfl⟩
  refine seq_cut (fun ρ w' => ρ 1 = pv ∧ ρ 3 = .pointer (some ⟨b, 0, none⟩) ∧ ρ 9 = .pointer (some ⟨xb, 0, none⟩) ∧ w' = w7 ∧ Vw w7 (ρ 2) nE cs) ?_ ?_
  · by_cases hz : cs.length = 0
    · have hz' : ((cs.length : Int) == 0) = true := by rw [hz]; rfl
      simp [g2, (hcv.kp0 h7.kp).len, hz', cell_blk ox7, g1, g3, g9]
      have e1 : cs = T.ops.map (·.cost) := by
        have e2 : cs = [] := List.length_eq_zero_iff.1 hz
        have e3 : T.ops = [] := List.length_eq_zero_iff.1 (by omega)
        rw [e2, e3]; rfl
      rw [e1]
      exact h7.drop.own.vw
    · have hz' : ((cs.length : Int) == 0) = false := by
        cases h : ((cs.length : Int) == 0) with
        | false => rfl
        | true => rw [beq_iff_eq] at h; omega
      simp [g2, (hcv.kp0 h7.kp).len, hz', g1, g3, g9]
      exact hcv.kp0 h7.kp
  clear g1 g2 g3 g9
  rintro ρ w8 ⟨g1, g3, g9, rfl, hcv7⟩
  have hcv7' := hcv7
  have hL7 : Lcl (Star (ObjA xb (syO N I cv ev gv)) (Star (OwnA cv 3 1 nE (T.ops.map (·.cost))) (Star (OwnA ev 201 3 edE es) (Star (OwnA gv 4 1 bE gl) (Star (ObjA b (ntO T)) Emp))))) := Lcl.obj.star (Lcl.own.star (Lcl.own.star (Lcl.own.star hL)))
  have hS : SyR w8 N T.ops.length cs ev gv (ρ 2) es gl := ⟨h7.drop.drop.own.vw, h7.drop.drop.drop.own.vw, hcv7, by rw [hN]; exact hP.sy, by rw [hN]; exact hP.glen, hcl, hcm, by have := szS_16 hT hp.rng hp.len.2; omega, by omega⟩
  have ob8 := h7.drop.drop.drop.drop.obj
  unfold ntO at ob8
  have oC := h7.drop.own.o1
  have oE := h7.drop.drop.own.o1
  have oG := h7.drop.drop.drop.own.o1
  have r0 := rd_sy h7.obj
  have hvl := hs.vl
  have key : ∀ (wa wb wc : World) (u1 u2 u3 : Value), Nw w8.drew wa u1 3 1 nE T.vars → Nw wa wb u2 3 1 nE p → (∃ V, IsVal (unE es fun i => cs.getD i 0) (glS gl) V ∧ Nw wb wc u3 3 1 nE (tabN N V)) →
      (u1.cells = #[u1] ∧ u2.cells = #[u2] ∧ u3.cells = #[u3]) ∧ BdR T p cs w (.tuple #[.pointer (some ⟨wc.heap.size, 0, none⟩), .nilIface]) (wc.alloc (.cells #[u1, u2, .int .i64 (N : Nat), .int .i64 (I : Nat), cv, ev, gv, u3] 199 (0, 0))) := fun wa wb wc u1 u2 u3 n1 n2 ⟨V, hV, n3⟩ => by
    have ha := At.nw hL7 (h7.drew hL7) n1
    have hb := At.nw (Lcl.own.star hL7) ha n2
    have hc := At.nw (Lcl.own.star (Lcl.own.star hL7)) hb n3
    refine ⟨⟨n1.own.c1, n2.own.c1, n3.own.c1⟩, wc.heap.size, ⟨u1, u2, I, cv, ev, gv, u3, es, gl, V⟩, rfl, ⟨hP, hel, hV⟩, ?_⟩
    have hd := hc.alloc (.cells #[u1, u2, .int .i64 (N : Nat), .int .i64 (I : Nat), cv, ev, gv, u3] 199 (0, 0)) (Lcl.own.star (Lcl.own.star (Lcl.own.star hL7)))
    unfold DbA
    rw [← hN]
    exact hd.by ((Imp.un4 (Imp.dr.trans (Imp.un3 Imp.dr))).trans Imp.emr)
  simp (disch := omega) [g3, g9, g1, cell_blk ob8, r0]
  refine ⟨?_, ?_, ?_, ?_, ?_, ?_, ?_, ?_, ?_, ?_, ?_, ?_⟩
  all_goals
    refine cl_of (cloneI_spec T.vv.1 T.vars ((hr.kp h7.kp).vars.kp0 (Kp.refl [] _).drew) (by omega)) ?_
    rintro u1 wa n1
    have r1 := rd_sy ((h7.drew hL7).kp0 hL7 n1.kp).obj
    simp (disch := omega) [g3, g9, g1, r1]
    refine cl_of (cloneI_spec pv p (((hpv.kp0 h7.kp).kp0 (Kp.refl [] _).drew).kp0 n1.kp) (by have := hp.len.2; omega)) ?_
    rintro u2 wb n2
    have r2 := rd_sy (((h7.drew hL7).kp0 hL7 n1.kp).kp0 hL7 n2.kp).obj
    simp (disch := omega) [g3, g9, g1, r2]
    refine cl_of (pddist_spec N I T.ops.length cv ev gv (ρ 2) es gl cs (((hS.kp (Kp.refl [] _).drew).kp n1.kp).kp n2.kp)) ?_
    rintro u3 wc n3
    have r3 := rd_sy ((((h7.drew hL7).kp0 hL7 n1.kp).kp0 hL7 n2.kp).kp0 hL7 n3.choose_spec.2.kp).obj
    obtain ⟨⟨o1, o2, o3⟩, hfin⟩ := key wa wb wc u1 u2 u3 n1 n2 n3
    simp [g9, r3, o1, o2, o3]
    exact hfin
end Go.Proofs.YtolkjbmcindhjaaGreat
end
section
set_option maxRecDepth 100000
set_option linter.unusedSimpArgs false
set_option linter.unusedVariables false
namespace Go.Proofs.YtolkjbmcindhjaaGreat
open Go Go.W Go.Tk Go.Rx Go.Maps
/-- A cut in memory. -/
structure Kt where
  ov : Cell1
  ops : List Nat
  cost : Nat
def ktE (k : Kt) : List Value := [k.ov.1, .int .i64 (k.cost : Nat)]
theorem ktE_len (k : Kt) : (ktE k).length = 2 := rfl
def ktO (k : Kt) : Obj := .cells #[k.ov.1, .int .i64 (k.cost : Nat)] 63 (0, 0)
structure KtR (w : World) (v : Value) (ks : List Kt) : Prop where
  vw : Vw w v ktE ks
  ops : ∀ k ∈ ks, Vw w k.ov.1 nE k.ops
theorem KtR.kp {w w' : World} {v : Value} {ks : List Kt} (h : KtR w v ks) (k : Kp [] w w') : KtR w' v ks := ⟨h.vw.kp0 k, fun x hx => (h.ops x hx).kp0 k⟩
/-- The cuts are right, for operators with some costs. -/
structure KtG (cs : List Nat) (ks : List Kt) : Prop where
  len : ks.length ≤ 24
  clen : cs.length ≤ 4096
  cmax : ∀ c ∈ cs, c ≤ 1048576
  ne : ∀ k ∈ ks, k.ops ≠ []
  asc : ∀ k ∈ ks, k.ops.Pairwise (· < ·)
  rng : ∀ k ∈ ks, ∀ q ∈ k.ops, q < cs.length
theorem KtG.olen {cs : List Nat} {ks : List Kt} (h : KtG cs ks) {k : Kt} (hk : k ∈ ks) : k.ops.length ≤ 4096 := Nat.le_trans (asc_len k.ops cs.length (h.asc k hk) (h.rng k hk)) h.clen
theorem st_kt {k : Kt} {b : Nat} {w wa : World} {F : List Nat} {X : Asr} {KW : Kont World} (hX : Lcl X) (h : At w F X wa) (hb : b = wa.heap.size) (H : ∀ w2, At w F (Star (ObjA b (ktO k)) X) w2 → KW.run w2) :
    @stJ (wa.alloc (.cells #[.slice none 0 0, .int .i64 0] 63 (0, 0))) ⟨b, 0, none⟩ [k.ov.1, .int .i64 (k.cost : Nat)] KW := by
  have h1 : At w F (Star (ObjA b (.cells #[.slice none 0 0, .int .i64 0] 63 (0, 0))) X) (wa.alloc (.cells #[.slice none 0 0, .int .i64 0] 63 (0, 0))) := by rw [hb]; exact h.alloc _ hX
  exact h1.st hX (by simp) (by simp [k.ov.2]) fun w2 h2 => H w2 (by simpa [ktO] using h2)
theorem check1_spec {w : World} (c : Nat) (hc : c ≤ 1048576) :
    Calls Tryz.prog 160 [.int .i64 (c : Nat)].toArray w fun e w' => ∃ x, e = .returned x ∧ x = .bool false ∧ Kp [] w w' := by
  refine enter Tryz.func160 mixed low160 (Nat.le_of_ble_eq_true rfl) ?_
  simp only [L160]
  have n1 : ¬ (c : Int) < 0 := by omega
  have n2 : ¬ (1048576 : Int) < (c : Int) := by omega
  have n2' : ¬ 1048576 < c := by omega
  simp [n1, n2, n2']
  exact Kp.refl _ _
theorem indexPI_spec {w : World} (v : Value) (l : List Nat) (hv : Vw w v nE l) (hl : l.length ≤ 1000000) (hc : ∀ c ∈ l, c ≤ 1048576) :
    Calls Tryz.prog 165 [v, .func (.func 160) #[] #[]].toArray w fun e w' => ∃ x, e = .returned x ∧ x = .int .i64 (-1) ∧ Kp [] w w' := by
  refine enter Tryz.func165 mixed low165 (Nat.le_of_ble_eq_true rfl) ?_
  simp only [L165]
  simp [hv.len]
  refine range_loop (n := l.length) (by omega) (fun k ρ w' => ρ 0 = v ∧ ρ 1 = .func (.func 160) #[] #[] ∧ Kp [] w w') (by simp) (by simp)
    ⟨by simp, by simp, Kp.refl _ _⟩ (by decide) (fun _ _ _ _ h => by simpa using h) (fun _ _ _ _ h => by simpa using h) ?_ ?_
  rotate_left
  · rintro ρ w4 ⟨g0, g1, k4⟩
    simp
    exact k4
  rintro k ρ w4 hk hc' hlm ⟨g0, g1, k4⟩
  obtain ⟨x, hx⟩ : ∃ x, l[k]? = some x := ⟨_, List.getElem?_eq_getElem hk⟩
  have hv4 := hv.kp0 k4
  have hki : (k : Int) < l.length := by omega
  simp (disch := omega) [g0, g1, hc', hlm, hv4.idx, nE_cell hv4 hx]
  refine cl_of (check1_spec x (hc x (List.mem_of_getElem? hx))) ?_
  rintro _ w5 ⟨rfl, k5⟩
  simp [g0, g1, hc', hlm]
  exact k4.trans0 k5
theorem containsPI_spec {w : World} (v : Value) (l : List Nat) (hv : Vw w v nE l) (hl : l.length ≤ 1000000) (hc : ∀ c ∈ l, c ≤ 1048576) :
    Calls Tryz.prog 113 [v, .func (.func 160) #[] #[]].toArray w fun e w' => ∃ x, e = .returned x ∧ x = .bool false ∧ Kp [] w w' := by
  refine enter Tryz.func113 mixed low113 (Nat.le_of_ble_eq_true rfl) ?_
  simp only [L113]
  simp
  refine cl_of (indexPI_spec v l hv hl hc) ?_
  rintro _ w5 ⟨rfl, k5⟩
  simp
  exact k5
theorem asc_succ {l : List Nat} (h : l.Pairwise (· < ·)) {i a b : Nat} (ha : l[i]? = some a) (hb : l[i + 1]? = some b) : a < b := by
  rw [List.pairwise_iff_getElem] at h
  obtain ⟨h2, rfl⟩ := List.getElem?_eq_some_iff.1 ha
  obtain ⟨h3, rfl⟩ := List.getElem?_eq_some_iff.1 hb
  exact h i (i + 1) h2 h3 (by omega)
set_option maxHeartbeats 1000000 in
theorem paCheck_spec {w : World} (cv kv : Value) (cs : List Nat) (ks : List Kt) (hc : Vw w cv nE cs) (hk : KtR w kv ks) (hg : KtG cs ks) :
    Calls Tryz.prog 105 [cv, kv].toArray w fun e w' => ∃ x, e = .returned x ∧ x = .nilIface ∧ Kp [] w w' := by
  refine enter Tryz.func105 mixed low105 (Nat.le_of_ble_eq_true rfl) ?_
  simp only [L105]
  have hkl := hg.len
  have hcl := hg.clen
  simp
  refine cl_of (containsPI_spec cv cs hc (by omega) hg.cmax) ?_
  rintro _ w1 ⟨rfl, k1⟩
  have n1 : ¬ (24 : Int) < (ks.length : Int) := by omega
  have n1' : ¬ 24 < ks.length := by omega
  simp [(hk.kp k1).vw.len, n1, n1']
  refine range_loop (n := ks.length) (by omega) (fun i ρ w' => ρ 0 = cv ∧ ρ 16 = kv ∧ At w [] Emp w') (by simp) (by simp)
    ⟨by simp, by simp, (At.start rfl).kp0 .emp k1⟩ (by decide) (fun _ _ _ _ h => by simpa using h) (fun _ _ _ _ h => by simpa using h) ?_ ?_
  rotate_left
  · rintro ρ w2 ⟨g0, g16, h2⟩
    simp
    exact h2.kp
  rintro i ρ w2 hi hci hli ⟨g0, g16, h2⟩
  obtain ⟨k, hkk⟩ : ∃ k, ks[i]? = some k := ⟨_, List.getElem?_eq_getElem hi⟩
  have hkm := List.mem_of_getElem? hkk
  have hR2 := hk.kp h2.kp
  have eck := hR2.vw.cells ktE_len hkk
  simp only [ktE] at eck
  obtain ⟨kb, hkb⟩ : ∃ kb, kb = w2.heap.size := ⟨_, rfl⟩
  have hii : (i : Int) < ks.length := by omega
  simp (disch := omega) [g16, hci, hli, hR2.vw.idx, eck, ← hkb]
  refine st_kt (k := k) .emp h2 hkb fun w3 h3 => ?_
  have ok3 := h3.obj
  unfold ktO at ok3
  have ok3' := ok3
  rw [hkb] at ok3'
  have ho3 := (hk.kp h3.kp).ops k hkm
  have hol := hg.olen hkm
  have hne := hg.ne k hkm
  have hnl : 0 < k.ops.length := by
    cases h : k.ops with
    | nil => exact absurd h hne
    | cons a l => simp
  have n2 : ((k.ops.length : Int) == 0) = false := by
    cases h : ((k.ops.length : Int) == 0) with
    | false => rfl
    | true => rw [beq_iff_eq] at h; omega
  simp [cell_blk ok3', ho3.len, n2]
  refine range_loop (n := k.ops.length) (by omega) (fun j ρ w' => ρ 0 = cv ∧ ρ 16 = kv ∧ ρ 18 = .int .i64 (i : Nat) ∧ ρ 17 = .int .i64 (ks.length : Nat) ∧ ρ 6 = .pointer (some ⟨kb, 0, none⟩) ∧ ρ 28 = k.ov.1 ∧ At w [] (Star (ObjA kb (ktO k)) Emp) w') (by simp) (by simp)
    ⟨by simp [g0], by simp [g16], by simp [hci], by simp [hli], by simp [← hkb], by simp, h3⟩ (by decide) (fun _ _ _ _ h => by simpa using h) (fun _ _ _ _ h => by simpa using h) ?_ ?_
  rotate_left
  · rintro ρ w4 ⟨g0, g16, g18, g17, g6, g28, h4⟩
    simp [g18, g17]
    exact ⟨by simp [g0], by simp [g16], h4.drop⟩
  clear h2 h3 ok3 ok3' ho3 hR2 eck g0 g16 hci hli hkb
  rintro j ρ w4 hj hcj hlj ⟨g0, g16, g18, g17, g6, g28, h4⟩
  obtain ⟨v, hv⟩ : ∃ v, k.ops[j]? = some v := ⟨_, List.getElem?_eq_getElem hj⟩
  have hvl := hg.rng k hkm v (List.mem_of_getElem? hv)
  have ok4 := h4.obj
  unfold ktO at ok4
  have ho4 := (hk.kp h4.kp).ops k hkm
  have hc4 := hc.kp0 h4.kp
  have hji : (j : Int) < k.ops.length := by omega
  have n1 : ¬ (v : Int) < 0 := by omega
  have n2 : ¬ ((cs.length : Nat) : Int) ≤ (v : Int) := by omega
  have n2' : ¬ cs.length ≤ v := by omega
  rcases j with _ | j
  · simp (disch := omega) [g0, g28, hcj, hlj, ho4.idx, nE_cell ho4 hv, hc4.len, n1, n2, n2']
    exact ⟨by simp [g16], by simp [g18], by simp [g17], by simp [g6], h4⟩
  · obtain ⟨u, hu⟩ : ∃ u, k.ops[j]? = some u := ⟨_, List.getElem?_eq_getElem (by omega)⟩
    have huv := asc_succ (hg.asc k hkm) hu hv
    have n3 : ¬ (v : Int) ≤ (u : Int) := by omega
    have n3' : ¬ v ≤ u := by omega
    have e1 : ((j + 1 : Nat) : Int) - 1 = (j : Int) := by omega
    obtain ⟨k1, hk1⟩ : ∃ k1, k1 = j + 1 := ⟨_, rfl⟩
    rw [← hk1] at hcj hv e1 hji ⊢
    have n4 : (0 : Int) < (k1 : Int) := by omega
    have n4' : 0 < k1 := by omega
    have hkl : (j : Int) < k.ops.length := by omega
    simp (disch := omega) [g0, g28, g6, hcj, hlj, ho4.idx, nE_cell ho4 hv, nE_cell ho4 hu, hc4.len, n1, n2, n2', n3, n3', n4, n4', e1, wrap_i64, cell_blk ok4]
    exact ⟨by simp [g16], by simp [g18], by simp [g17], h4⟩
def mnL (ks : List Kt) (q : Nat) : Nat := (ks.map fun k => k.ops.count q).sum
theorem mnL_snoc {ks : List Kt} {k : Kt} {q : Nat} : mnL (ks ++ [k]) q = mnL ks q + k.ops.count q := by simp [mnL]
theorem mnL_le {ks : List Kt} {q n : Nat} (hn : ∀ k ∈ ks, k.ops.count q ≤ n) : mnL ks q ≤ ks.length * n := by
  induction ks with
  | nil => simp [mnL]
  | cons k ks ih =>
    have h1 := hn k (by simp)
    have h2 := ih fun k' hk' => hn k' (List.mem_cons_of_mem _ hk')
    have h3 : mnL (k :: ks) q = k.ops.count q + mnL ks q := by simp [mnL]
    rw [h3, List.length_cons, Nat.add_mul]
    omega
theorem mnL_pos {ks : List Kt} {k : Kt} {q : Nat} (hk : k ∈ ks) (hq : q ∈ k.ops) : 1 ≤ mnL ks q := by
  induction ks with
  | nil => cases hk
  | cons k' ks ih =>
    have h3 : mnL (k' :: ks) q = k'.ops.count q + mnL ks q := by simp [mnL]
    rcases List.mem_cons.1 hk with rfl | hk
    · have := List.count_pos_iff.2 hq
      omega
    · have := ih hk
      omega
/-- The share of an operator. -/
def shr (cs : List Nat) (ks : List Kt) (q : Nat) : Fr := (frNew (cs.getD q 0 : Nat) (mnL ks q : Nat)).getD (0, 1)
theorem shr_new {n d : Nat} (hn : n ≤ 1048576) (hd : 1 ≤ d ∧ d ≤ 1048576) : ∃ f, frNew (n : Nat) (d : Nat) = some f := by
  unfold frNew
  obtain ⟨g, hg⟩ : ∃ g, g = Nat.gcd (n : Int).natAbs (d : Int).natAbs := ⟨_, rfl⟩
  have hg1 : 1 ≤ g := by rw [hg]; exact Nat.gcd_pos_of_pos_right _ (by omega)
  simp only [← hg]
  have h1 := tdiv_le (n := (n : Int)) hg1
  have h2 := tdiv_le (n := (d : Int)) hg1
  rw [if_neg (by omega)]
  exact ⟨_, rfl⟩
theorem KtG.cnt {cs : List Nat} {ks : List Kt} (h : KtG cs ks) (q : Nat) {ks' : List Kt} (hs : ∀ k ∈ ks', k ∈ ks) (hl : ks'.length ≤ 24) : mnL ks' q ≤ 24 := by
  have : mnL ks' q ≤ ks'.length * 1 := mnL_le fun k hk => by
    have := (h.asc k (hs k hk)).imp (S := fun a b => a ≠ b) fun h => Nat.ne_of_lt h
    exact List.nodup_iff_count.1 this q
  omega
theorem shr_ok {cs : List Nat} {ks : List Kt} (h : KtG cs ks) {k : Kt} {q : Nat} (hk : k ∈ ks) (hq : q ∈ k.ops) : frNew (cs.getD q 0 : Nat) (mnL ks q : Nat) = some (shr cs ks q) ∧ frP (shr cs ks q) = true := by
  have h1 : cs.getD q 0 ≤ 1048576 := h.cmax _ (mem_getD (h.rng k hk q hq))
  have h2 := mnL_pos hk hq
  have h3 := h.cnt q (ks' := ks) (fun _ h => h) h.len
  obtain ⟨f, hf⟩ := shr_new h1 ⟨h2, by omega⟩
  have : shr cs ks q = f := by unfold shr; rw [hf]; rfl
  rw [this]
  exact ⟨hf, (frNew_ok (by omega) hf).1⟩
/-- The least share of some operators. -/
def lsF (f : Nat → Fr) : List Nat → Fr
  | [] => (0, 0)
  | q :: r => r.foldl (fun a x => if frCmp (f x) a < 0 then f x else a) (f q)
theorem lsF_snoc {f : Nat → Fr} {l : List Nat} {x : Nat} : lsF f (l ++ [x]) = if l = [] then f x else if frCmp (f x) (lsF f l) < 0 then f x else lsF f l := by
  cases l with
  | nil => rfl
  | cons q r =>
    rw [if_neg (by simp)]
    show (r ++ [x]).foldl _ (f q) = _
    rw [List.foldl_append]
    rfl
theorem lsF_ok {f : Nat → Fr} {l : List Nat} (hl : l ≠ []) (h : ∀ q ∈ l, frP (f q) = true) : frP (lsF f l) = true := by
  obtain ⟨q, r, rfl⟩ : ∃ q r, l = q :: r := by
    cases l with
    | nil => exact absurd rfl hl
    | cons q r => exact ⟨q, r, rfl⟩
  simp only [lsF]
  have : ∀ (r : List Nat) (a : Fr), frP a = true → (∀ x ∈ r, frP (f x) = true) → frP (r.foldl (fun a x => if frCmp (f x) a < 0 then f x else a) a) = true := by
    intro r
    induction r with
    | nil => intro a ha _; exact ha
    | cons x r ih =>
      intro a ha hr
      rw [List.foldl_cons]
      refine ih _ ?_ fun y hy => hr y (List.mem_cons_of_mem _ hy)
      split
      · exact hr x (by simp)
      · exact ha
  exact this r _ (h q (by simp)) fun x hx => h x (List.mem_cons_of_mem _ hx)
def unF (cs : List Nat) (ks : List Kt) : List Fr := ks.map fun k => lsF (shr cs ks) k.ops
theorem fr_append {w w1 : World} {F : List Nat} {B : Asr} {ov : Value} {l : List Fr} {x : Fr} {KV : Kont (Value × World)} (hB : Lcl B) (h : At w F (Star (OwnA ov 151 2 frE l) B) w1) (hl : l.length ≤ 1000000)
    (H : ∀ v' w2, At w F (Star (OwnA v' 151 2 frE (l ++ [x])) B) w2 → KV.run (v', w2)) :
    @efH Tryz.prog (Builtin.append_ #[88, 88] 88 [ov, .slice (some ⟨w1.heap.size, 0, none⟩) 1 1].toArray) (w1.alloc (.cells #[.int .i64 x.1, .int .i64 x.2] 151)) KV := by
  have h4 := h.kp0 (Lcl.own.star hB) ((Kp.refl [] w1).alloc (.cells #[.int .i64 x.1, .int .i64 x.2] 151))
  refine At.append (xs := [x]) hB h4 frE_len frE_one sl_88 rfl (fun j u hj => ?_) (by omega) (by unfold maxLen; omega) fun v' w5 h5 => H v' w5 h5
  rw [add_none, cell_blk alloc_new]
  simpa [frE] using hj
abbrev FrU (mv ov : Value) (n : Nat) (g : Nat → Nat) (l : List Fr) : Asr := Star (OwnA ov 151 2 frE l) (Star (OwnA mv 3 1 nE (tabN n g)) Emp)
theorem lcl_u {mv ov : Value} {n : Nat} {g : Nat → Nat} {l : List Fr} : Lcl (FrU mv ov n g l) := Lcl.own.star (Lcl.own.star .emp)
set_option maxHeartbeats 1000000 in
theorem uniform_spec {w : World} (cv kv : Value) (cs : List Nat) (ks : List Kt) (hc : Vw w cv nE cs) (hk : KtR w kv ks) (hg : KtG cs ks) :
    Calls Tryz.prog 44 [cv, kv].toArray w fun e w' => ∃ x, e = .returned x ∧ ∃ u, x = .tuple #[u, .nilIface] ∧ At w [] (Star (OwnA u 151 2 frE (unF cs ks)) Emp) w' := by
  refine enter Tryz.func44 mixed low44 (Nat.le_of_ble_eq_true rfl) ?_
  simp only [L44]
  have hkl := hg.len
  have hcl := hg.clen
  simp
  refine cl_of (paCheck_spec cv kv cs ks hc hk hg) ?_
  rintro _ w1 ⟨rfl, k1⟩
  simp (disch := omega) [(hc.kp0 k1).len]
  refine gd_mk (by omega) ?_
  have h2 := ((At.start (w := w) (F := []) (A := Emp) rfl).kp0 .emp k1).made (E := 3) (enc := nE) (x := 0) (z := [.int .i64 0]) (n := cs.length) .emp rfl nE_len (by unfold maxLen; omega)
  obtain ⟨mv, hmv⟩ : ∃ mv, mv = Value.slice (some ⟨w1.heap.size, 0, none⟩) cs.length cs.length := ⟨_, rfl⟩
  obtain ⟨w2, hw2⟩ : ∃ w2, w2 = w1.alloc (.cells (rowOf [.int .i64 0] cs.length).toArray 3) := ⟨_, rfl⟩
  rw [← hmv, ← hw2] at h2
  obtain ⟨n, hn⟩ : ∃ n, n = cs.length := ⟨_, rfl⟩
  have e0 : List.replicate cs.length 0 = tabN n (mnL (ks.take 0)) := by
    rw [hn]
    apply List.ext_getElem
    · simp [tabN]
    · intro i h1 h2; simp [tabN, mnL]
  rw [e0] at h2
  have hLm : ∀ g, Lcl (Star (OwnA mv 3 1 nE (tabN n g)) Emp) := fun _ => Lcl.own.star .emp
  simp (disch := omega) [← hmv, ← hw2, (hk.kp h2.kp).vw.len]
  refine range_loop (n := ks.length) (by omega) (fun i ρ w' => ρ 0 = cv ∧ ρ 1 = kv ∧ ρ 7 = mv ∧ ρ 29 = kv ∧ At w [] (Star (OwnA mv 3 1 nE (tabN n (mnL (ks.take i)))) Emp) w') (by simp) (by simp)
    ⟨by simp, by simp, by simp, by simp, h2⟩ (by decide) (fun _ _ _ _ h => by simpa using h) (fun _ _ _ _ h => by simpa using h) ?_ ?_
  · clear h2 hw2 hmv k1
    rintro i ρ w3 hi hci hli ⟨g0, g1, g7, g29, h3⟩
    obtain ⟨k, hkk⟩ : ∃ k, ks[i]? = some k := ⟨_, List.getElem?_eq_getElem hi⟩
    have hkm := List.mem_of_getElem? hkk
    have hR3 := hk.kp h3.kp
    have eck := hR3.vw.cells ktE_len hkk
    simp only [ktE] at eck
    obtain ⟨kb, hkb⟩ : ∃ kb, kb = w3.heap.size := ⟨_, rfl⟩
    have hii : (i : Int) < ks.length := by omega
    simp (disch := omega) [g29, hci, hli, hR3.vw.idx, eck, ← hkb]
    refine st_kt (k := k) (hLm _) h3 hkb fun w4 h4 => ?_
    have ok4 := h4.obj
    unfold ktO at ok4
    rw [hkb] at ok4
    have ho4 := (hk.kp h4.kp).ops k hkm
    have hol := hg.olen hkm
    simp [cell_blk ok4, ho4.len]
    refine range_loop (n := k.ops.length) (by omega) (fun j ρ w' => ρ 0 = cv ∧ ρ 1 = kv ∧ ρ 7 = mv ∧ ρ 29 = kv ∧ ρ 31 = .int .i64 (i : Nat) ∧ ρ 30 = .int .i64 (ks.length : Nat) ∧ ρ 36 = k.ov.1 ∧ At w [] (Star (OwnA mv 3 1 nE (tabN n fun q => mnL (ks.take i) q + (k.ops.take j).count q)) Emp) w') (by simp) (by simp)
      ⟨by simp [g0], by simp [g1], by simp [g7], by simp [g29], by simp [hci], by simp [hli], by simp, by simpa using h4.drop⟩ (by decide) (fun _ _ _ _ h => by simpa using h) (fun _ _ _ _ h => by simpa using h) ?_ ?_
    rotate_left
    · rintro ρ w5 ⟨g0, g1, g7, g29, g31, g30, g36, h5⟩
      rw [List.take_length] at h5
      simp [g31, g30]
      refine ⟨by simp [g0], by simp [g1], by simp [g7], by simp [g29], ?_⟩
      have : (fun q => mnL (ks.take i) q + k.ops.count q) = mnL (ks.take (i + 1)) := by
        funext q
        rw [take_snoc hkk, mnL_snoc]
      rw [← this]
      exact h5
    clear h3 h4 ok4 ho4 hR3 eck hkb g0 g1 g7 g29 hci hli
    rintro j ρ w5 hj hcj hlj ⟨g0, g1, g7, g29, g31, g30, g36, h5⟩
    obtain ⟨q, hq⟩ : ∃ q, k.ops[j]? = some q := ⟨_, List.getElem?_eq_getElem hj⟩
    have hqn : q < n := by rw [hn]; exact hg.rng k hkm q (List.mem_of_getElem? hq)
    have ho5 := (hk.kp h5.kp).ops k hkm
    have hO := h5.own
    have hji : (j : Int) < k.ops.length := by omega
    obtain ⟨g, hgf⟩ : ∃ g : Nat → Nat, g = fun q => mnL (ks.take i) q + (k.ops.take j).count q := ⟨_, rfl⟩
    rw [← hgf] at h5 hO
    have hqi : (q : Int) < (tabN n g).length := by rw [tabN_len]; omega
    have hqc := own_cell hO (tabN_at hqn)
    have hgq : g q ≤ 24 + 4096 := by
      rw [hgf]
      have h1 := hg.cnt q (ks' := ks.take i) (fun _ h => List.mem_of_mem_take h) (by simp; omega)
      have h2 : (k.ops.take j).count q ≤ (k.ops.take j).length := List.count_le_length
      have h3 : (k.ops.take j).length ≤ k.ops.length := by simp; omega
      have h4 := hg.olen hkm
      show mnL _ q + _ ≤ _
      omega
    obtain ⟨z, hz⟩ : ∃ z, z = g q + 1 := ⟨_, rfl⟩
    have hzi : (g q : Int) + 1 = (z : Int) := by omega
    simp (disch := omega) [g7, g36, hcj, hlj, ho5.idx, nE_cell ho5 hq, hO.idx, hqc, hzi, wrap_i64]
    refine h5.store1 .emp nE_len nE_one (k := q) (by rw [tabN_len]; exact hqn) (x := z) rfl fun w6 h6 => ?_
    rw [tabN_set hqn] at h6
    simp [hcj, hlj]
    refine ⟨by simp [g0], by simp [g1], by simp [g7], by simp [g29], by simp [g31], by simp [g30], by simp [g36], ?_⟩
    have : updN g q z = fun q => mnL (ks.take i) q + (k.ops.take (j + 1)).count q := by
      funext x
      rw [take_snoc hq, List.count_append]
      by_cases e : x = q
      · subst e
        rw [updN_same, hz, hgf]
        simp
        omega
      · rw [updN_ne e, hgf]
        have : List.count x [q] = 0 := by
          rw [List.count_eq_zero]; simpa using e
        simp [this]
    rw [← this]
    exact h6
  clear h2 hw2 hmv k1
  rintro ρ w3 ⟨g0, g1, g7, g29, h3⟩
  rw [List.take_length] at h3
  have h4 := At.nil (E := 151) (sz := 2) (enc := frE) (hLm _) h3
  simp (disch := omega) [g1, (hk.kp h3.kp).vw.len]
  refine range_loop (n := ks.length) (by omega) (fun i ρ w' => ρ 0 = cv ∧ ρ 7 = mv ∧ ρ 50 = kv ∧ At w [] (FrU mv (ρ 12) n (mnL ks) ((unF cs ks).take i)) w') (by simp) (by simp)
    ⟨by simp [g0], by simp [g7], by simp, by simpa using h4⟩ (by decide) (fun _ _ _ _ h => by simpa using h) (fun _ _ _ _ h => by simpa using h) ?_ ?_
  rotate_left
  · rintro ρ w5 ⟨g0, g7, g50, h5⟩
    have e1 : (unF cs ks).take ks.length = unF cs ks := List.take_of_length_le (by simp [unF])
    rw [e1] at h5
    simp
    exact h5.by (Imp.un Imp.dr)
  clear h3 h4 g0 g1 g7 g29
  rintro i ρ w5 hi hci hli ⟨g0, g7, g50, h5⟩
  obtain ⟨k, hkk⟩ : ∃ k, ks[i]? = some k := ⟨_, List.getElem?_eq_getElem hi⟩
  have hkm := List.mem_of_getElem? hkk
  have hR5 := hk.kp h5.kp
  have eck := hR5.vw.cells ktE_len hkk
  simp only [ktE] at eck
  obtain ⟨kb, hkb⟩ : ∃ kb, kb = w5.heap.size := ⟨_, rfl⟩
  have hii : (i : Int) < ks.length := by omega
  simp (disch := omega) [g50, hci, hli, hR5.vw.idx, eck, ← hkb]
  refine st_kt (k := k) lcl_u h5 hkb fun w6 h6 => ?_
  have ok6 := h6.obj
  unfold ktO at ok6
  rw [hkb] at ok6
  have hol := hg.olen hkm
  obtain ⟨lb, hlb⟩ : ∃ lb, lb = w6.heap.size := ⟨_, rfl⟩
  have hL6 : Lcl (Star (ObjA kb (ktO k)) (FrU mv (ρ 12) n (mnL ks) ((unF cs ks).take i))) := Lcl.obj.star lcl_u
  have h7 := h6.alloc (frO (0, 0)) hL6
  rw [← hlb] at h7
  obtain ⟨w7, hw7⟩ : ∃ w7, w7 = w6.alloc (frO (0, 0)) := ⟨_, rfl⟩
  rw [← hw7] at h7
  have hw7' : w6.alloc (.cells #[.int .i64 0, .int .i64 0] 151 (0, 0)) = w7 := by rw [hw7]; rfl
  have ok7 := h7.drop.obj
  unfold ktO at ok7
  rw [hkb] at ok7
  have ho7 := (hk.kp h7.kp).ops k hkm
  simp (disch := omega) [← hlb, hw7', cell_blk ok7, ho7.len]
  obtain ⟨ov, hov⟩ : ∃ ov, ov = ρ 12 := ⟨_, rfl⟩
  obtain ⟨us, hus⟩ : ∃ us, us = (unF cs ks).take i := ⟨_, rfl⟩
  rw [← hov, ← hus] at h7
  have husl : us.length = i := by rw [hus]; simp [unF]; omega
  have hshr : ∀ q ∈ k.ops, frNew (cs.getD q 0 : Nat) (mnL ks q : Nat) = some (shr cs ks q) ∧ frP (shr cs ks q) = true := fun q hq => shr_ok hg hkm hq
  refine range_loop (n := k.ops.length) (by omega) (fun j ρ w' => ρ 0 = cv ∧ ρ 7 = mv ∧ ρ 50 = kv ∧ ρ 52 = .int .i64 (i : Nat) ∧ ρ 51 = .int .i64 (ks.length : Nat) ∧ ρ 12 = ov ∧ ρ 15 = .pointer (some ⟨lb, 0, none⟩) ∧ ρ 57 = k.ov.1 ∧ At w [] (Star (ObjA lb (frO (lsF (shr cs ks) (k.ops.take j)))) (FrU mv ov n (mnL ks) us)) w') (by simp) (by simp)
    ⟨by simp [g0], by simp [g7], by simp [g50], by simp [hci], by simp [hli], by simp [← hov], by simp, by simp, h7.by (Imp.un Imp.dr)⟩ (by decide) (fun _ _ _ _ h => by simpa using h) (fun _ _ _ _ h => by simpa using h) ?_ ?_
  rotate_left
  · clear h5 h6 h7 ok6 ok7 ho7 hR5 eck hw7 hw7' hlb hkb g0 g7 g50 hci hli hov
    rintro ρ w8 ⟨g0, g7, g50, g52, g51, g12, g15, g57, h8⟩
    rw [List.take_length] at h8
    simp [g12, g15, rd_fr h8.obj]
    refine fr_append (l := us) (x := lsF (shr cs ks) k.ops) (B := Star (ObjA lb (frO (lsF (shr cs ks) k.ops))) (Star (OwnA mv 3 1 nE (tabN n (mnL ks))) Emp)) (Lcl.obj.star (Lcl.own.star .emp)) (h8.by Imp.sw) (by omega) fun v' w9 h9 => ?_
    simp [g52, g51]
    refine ⟨by simp [g0], by simp [g7], by simp [g50], ?_⟩
    have e1 : (unF cs ks).take (i + 1) = us ++ [lsF (shr cs ks) k.ops] := by
      rw [hus, take_snoc (x := lsF (shr cs ks) k.ops)]
      unfold unF
      rw [List.getElem?_map, hkk]
      rfl
    rw [e1]
    exact h9.by (Imp.un Imp.dr)
  clear h5 h6 h7 ok6 ok7 ho7 hR5 eck hw7 hw7' hlb hkb g0 g7 g50 hci hli hov
  rintro j ρ w8 hj hcj hlj ⟨g0, g7, g50, g52, g51, g12, g15, g57, h8⟩
  obtain ⟨q, hq⟩ : ∃ q, k.ops[j]? = some q := ⟨_, List.getElem?_eq_getElem hj⟩
  have hqm := List.mem_of_getElem? hq
  have hqn : q < n := by rw [hn]; exact hg.rng k hkm q hqm
  obtain ⟨hs1, hs2⟩ := hshr q hqm
  have ho8 := (hk.kp h8.kp).ops k hkm
  have hO := h8.drop.drop.own
  have hqi : (q : Int) < (tabN n (mnL ks)).length := by rw [tabN_len]; omega
  have hqc := own_cell hO (tabN_at hqn)
  have hc8 := hc.kp0 h8.kp
  obtain ⟨c, hcq⟩ : ∃ c, cs[q]? = some c := ⟨_, List.getElem?_eq_getElem (by rw [← hn]; exact hqn)⟩
  have hcd : cs.getD q 0 = c := by simp [List.getD, hcq]
  have hcm := hg.cmax c (List.mem_of_getElem? hcq)
  have hmp := mnL_pos hkm hqm
  have hml := hg.cnt q (ks' := ks) (fun _ h => h) hg.len
  rw [hcd] at hs1
  obtain ⟨f, hf⟩ : ∃ f, f = shr cs ks q := ⟨_, rfl⟩
  rw [← hf] at hs1 hs2
  obtain ⟨a, ha⟩ : ∃ a, a = lsF (shr cs ks) (k.ops.take j) := ⟨_, rfl⟩
  rw [← ha] at h8
  have hsn : lsF (shr cs ks) (k.ops.take (j + 1)) = if k.ops.take j = [] then f else if frCmp f a < 0 then f else a := by rw [take_snoc hq, lsF_snoc, ← hf, ← ha]
  have hji : (j : Int) < k.ops.length := by omega
  have hqci : (q : Int) < cs.length := by omega
  have hL8 : Lcl (Star (ObjA lb (frO a)) (FrU mv ov n (mnL ks) us)) := Lcl.obj.star lcl_u
  simp (disch := omega) [g57, hcj, hlj, ho8.idx, nE_cell ho8 hq, g0, hc8.idx, nE_cell hc8 hcq, g7, hO.idx, hqc]
  refine ⟨?_, ?_⟩
  · refine cl_of (new9_spec (c : Nat) (mnL ks q : Nat) (by omega) (by omega) (by omega) (by omega)) ?_
    rintro _ w9 ⟨rfl, k9⟩
    have h9 := (h8.drew hL8).kp0 hL8 k9
    obtain ⟨sb, hsb⟩ : ∃ sb, sb = w9.heap.size := ⟨_, rfl⟩
    simp [hs1, frR, frV, ← hsb]
    refine st_fr0 (f := f) hL8 h9 hsb fun wA hT => ?_
    have rs := rd_fr hT.obj
    rw [hsb] at rs
    have hT2 := hT
    have hj0 : (k.ops.take j = []) = (j = 0) := by
      rw [eq_iff_iff]
      constructor
      · intro h
        have := congrArg List.length h
        simp at this
        rcases this with h | h
        · exact h
        · rw [h] at hj; simp at hj
      · intro h; rw [h]; rfl
    simp only [hj0] at hsn
    by_cases t0 : j = 0
    · subst t0
      rw [if_pos rfl] at hsn
      simp [hcj, hlj, rs, g15]
      refine st_fr (f := a) (g := f) (Lcl.obj.star lcl_u) (hT.by Imp.sw) fun wB hB => ?_
      simp [hcj, hlj]
      refine ⟨by simp [g0], by simp [g7], by simp [g50], by simp [g52], by simp [g51], by simp [g12], by simp [g15], by simp [g57], ?_⟩
      rw [hsn]
      exact hB.by (Imp.un Imp.dr)
    · rw [if_neg t0] at hsn
      have t1 : ((j : Int) == 0) = false := by
        cases h : ((j : Int) == 0) with
        | false => rfl
        | true => rw [beq_iff_eq] at h; omega
      have hap : frP a = true := by
        rw [ha]
        exact lsF_ok (by rw [ne_eq, hj0]; exact t0) fun x hx => (hshr x (List.mem_of_mem_take hx)).2
      have rl := rd_fr hT.drop.obj
      simp [hcj, hlj, t1, rs, g15, rl]
      refine cl_of (cmp9_spec f a hs2 hap) ?_
      rintro _ wB ⟨rfl, kB⟩
      have hB := hT.kp0 (Lcl.obj.star hL8) kB
      have rsB := rd_fr hB.obj
      rw [hsb] at rsB
      by_cases t2 : frCmp f a < 0
      · rw [if_pos t2] at hsn
        simp [t0, t1, t2, rsB, g15]
        refine st_fr (f := a) (g := f) (Lcl.obj.star lcl_u) (hB.by Imp.sw) fun wC hC => ?_
        simp [hcj, hlj]
        refine ⟨by simp [g0], by simp [g7], by simp [g50], by simp [g52], by simp [g51], by simp [g12], by simp [g15], by simp [g57], ?_⟩
        rw [hsn]
        exact hC.by (Imp.un Imp.dr)
      · rw [if_neg t2] at hsn
        simp [t0, t1, t2, hcj, hlj]
        refine ⟨by simp [g0], by simp [g7], by simp [g50], by simp [g52], by simp [g51], by simp [g12], by simp [g15], by simp [g57], ?_⟩
        rw [hsn]
        exact hB.drop
  · obtain ⟨sb, hsb⟩ : ∃ sb, sb = w8.drew.heap.size := ⟨_, rfl⟩
    have h9 : At w [] (Star (ObjA sb (frO (0, 0))) (Star (ObjA lb (frO a)) (FrU mv ov n (mnL ks) us))) (w8.drew.alloc (frO (0, 0))) := by rw [hsb]; exact (h8.drew hL8).alloc _ hL8
    have hb9 : Lcl (Star (ObjA sb (frO (0, 0))) (Star (ObjA lb (frO a)) (FrU mv ov n (mnL ks) us))) := Lcl.obj.star hL8
    refine cl_of (new9_spec (c : Nat) (mnL ks q : Nat) (by omega) (by omega) (by omega) (by omega)) ?_
    rintro _ w9 ⟨rfl, k9⟩
    have h10 := h9.kp0 hb9 k9
    simp [hs1, frR, frV]
    have hsb' : w8.heap.size = sb := hsb.symm
    rw [hsb']
    refine st_fr (f := (0, 0)) (g := f) hL8 h10 fun wA hT => ?_
    have rs := rd_fr hT.obj
    rw [← hsb'] at rs
    have hT2 := hT
    have hj0 : (k.ops.take j = []) = (j = 0) := by
      rw [eq_iff_iff]
      constructor
      · intro h
        have := congrArg List.length h
        simp at this
        rcases this with h | h
        · exact h
        · rw [h] at hj; simp at hj
      · intro h; rw [h]; rfl
    simp only [hj0] at hsn
    by_cases t0 : j = 0
    · subst t0
      rw [if_pos rfl] at hsn
      simp [hcj, hlj, rs, g15]
      refine st_fr (f := a) (g := f) (Lcl.obj.star lcl_u) (hT.by Imp.sw) fun wB hB => ?_
      simp [hcj, hlj]
      refine ⟨by simp [g0], by simp [g7], by simp [g50], by simp [g52], by simp [g51], by simp [g12], by simp [g15], by simp [g57], ?_⟩
      rw [hsn]
      exact hB.by (Imp.un Imp.dr)
    · rw [if_neg t0] at hsn
      have t1 : ((j : Int) == 0) = false := by
        cases h : ((j : Int) == 0) with
        | false => rfl
        | true => rw [beq_iff_eq] at h; omega
      have hap : frP a = true := by
        rw [ha]
        exact lsF_ok (by rw [ne_eq, hj0]; exact t0) fun x hx => (hshr x (List.mem_of_mem_take hx)).2
      have rl := rd_fr hT.drop.obj
      simp [hcj, hlj, t1, rs, g15, rl]
      refine cl_of (cmp9_spec f a hs2 hap) ?_
      rintro _ wB ⟨rfl, kB⟩
      have hB := hT.kp0 (Lcl.obj.star hL8) kB
      have rsB := rd_fr hB.obj
      rw [← hsb'] at rsB
      by_cases t2 : frCmp f a < 0
      · rw [if_pos t2] at hsn
        simp [t0, t1, t2, rsB, g15]
        refine st_fr (f := a) (g := f) (Lcl.obj.star lcl_u) (hB.by Imp.sw) fun wC hC => ?_
        simp [hcj, hlj]
        refine ⟨by simp [g0], by simp [g7], by simp [g50], by simp [g52], by simp [g51], by simp [g12], by simp [g15], by simp [g57], ?_⟩
        rw [hsn]
        exact hC.by (Imp.un Imp.dr)
      · rw [if_neg t2] at hsn
        simp [t0, t1, t2, hcj, hlj]
        refine ⟨by simp [g0], by simp [g7], by simp [g50], by simp [g52], by simp [g51], by simp [g12], by simp [g15], by simp [g57], ?_⟩
        rw [hsn]
        exact hB.drop
end Go.Proofs.YtolkjbmcindhjaaGreat
end
