/-
  A part of the proofs of this seat's statements (RxXD); no conditions beyond those each theorem names.
-/
import Derived.Test.YtcplpogmbacnfaaRxXp
import Derived.Test.YtcplpogmbacnfaaRxPa
set_option maxRecDepth 100000
set_option linter.unusedSimpArgs false
set_option linter.unusedVariables false
namespace Go.Proofs.Ytcplpogmbacnfaa
open Go Go.W Go.Tk Go.Rx Go.Maps
def iV (V : Nat → Nat) (f : Nat) : Int := (V f : Int)
theorem iV_upd {V : Nat → Nat} {f c : Nat} : updN (iV V) f (c : Int) = iV (updN V f c) := by
  funext g
  unfold iV
  by_cases e : g = f
  · subst e; simp
  · rw [updN_ne e, updN_ne e]
/-- A cell of a table is written. -/
theorem tb_set {vars : List Nat} {g : Nat → Int} {v x : Nat} {c : Int} (hv : v < vars.length) (hx : x < vars.getD v 0) : (tbI vars g).set v ((rwI vars g v).set x c) = tbI vars (updN g (psum vars v + x) c) := by
  unfold tbI tbK
  apply List.ext_getElem
  · simp
  · intro u h1 h2
    simp at h1
    rw [List.getElem_set]
    by_cases e : v = u
    · subst e
      simp only [if_true, List.getElem_map, List.getElem_range]
      unfold rwI
      apply List.ext_getElem
      · simp
      · intro y h3 h4
        rw [List.getElem_set]
        simp only [List.getElem_map, List.getElem_range]
        by_cases e2 : x = y
        · subst e2; simp
        · rw [if_neg e2, updN_ne (by omega)]
    · simp only [if_neg e, List.getElem_map, List.getElem_range]
      unfold rwI
      refine List.map_congr_left fun y hy => ?_
      have hy := List.mem_range.1 hy
      rw [updN_ne]
      intro e2
      have := numF_inj (vars := vars) (f := (u, y)) (g := (v, x)) h1 hy hv hx e2
      injection this with e3 _
      exact e e3.symm
/-- Costs. -/
def cstL (cl : List Nat) (i : Nat) : Nat := cl.getD i 0
structure Rfs (T : Nt) (cl : List Nat) (ws : List Int) (S : List Nat) (s0 : Nat) (V : Nat → Nat) (ch : Bool) (A : List Un) : Prop where
  rf : Rf (allow (okL ws) (uns T (cstL cl))) S V
  clo : ch = false → Clo A V
  lt : ch = true → sumV T.vars.sum V < s0
  le : sumV T.vars.sum V ≤ s0
def FxT (T : Nt) (tv : Value) (V : Nat → Nat) (X : Asr) (w : World) (w' : World) : Prop := ∃ ps : List (Cell1 × List Int), ps.map (·.2) = tbI T.vars (iV V) ∧ At w [] (Star (TabA tv 22 3 iE ps) X) w'
def FxI (T : Nt) (cv wv tv : Value) (b : Nat) (cl : List Nat) (ws : List Int) (S : List Nat) (w : World) (n : Nat) (ρ : Env) (w' : World) : Prop :=
  ρ 1 = cv ∧ ρ 3 = wv ∧ ρ 4 = .pointer (some ⟨b, 0, none⟩) ∧ ρ 9 = tv ∧ ∃ V ch, ρ 10 = .bool ch ∧ Rf (allow (okL ws) (uns T (cstL cl))) S V ∧ (ch = false → Clo (allow (okL ws) (uns T (cstL cl))) V) ∧ n = (if ch then sumV T.vars.sum V + 1 else 0) ∧ FxT T tv V (Star (ObjA b (ntO T)) Emp) w w'
def FxO (T : Nt) (cv wv tv : Value) (b : Nat) (cl : List Nat) (ws : List Int) (S : List Nat) (w : World) (s0 : Nat) (i : Nat) (ρ : Env) (w' : World) : Prop :=
  ρ 1 = cv ∧ ρ 3 = wv ∧ ρ 4 = .pointer (some ⟨b, 0, none⟩) ∧ ρ 9 = tv ∧ ρ 24 = T.ov.1 ∧ ∃ V ch, ρ 10 = .bool ch ∧ Rfs T cl ws S s0 V ch (allow (okL ws) (unsK T (cstL cl) i)) ∧ FxT T tv V (Star (ObjA b (ntO T)) Emp) w w'
def FxE (T : Nt) (cv wv tv : Value) (b : Nat) (cl : List Nat) (ws : List Int) (S : List Nat) (w : World) (s0 : Nat) (i ob : Nat) (o : No) (j : Nat) (ρ : Env) (w' : World) : Prop :=
  ρ 1 = cv ∧ ρ 3 = wv ∧ ρ 4 = .pointer (some ⟨b, 0, none⟩) ∧ ρ 9 = tv ∧ ρ 24 = T.ov.1 ∧ ρ 25 = .int .i64 (T.ops.length : Nat) ∧ ρ 26 = .int .i64 (i : Nat) ∧ ρ 11 = .int .i64 (i : Nat) ∧ ρ 12 = .pointer (some ⟨ob, 0, none⟩) ∧ ρ 46 = o.ev.1 ∧
    ∃ V ch, ρ 10 = .bool ch ∧ Rfs T cl ws S s0 V ch (allow (okL ws) (unsK T (cstL cl) i) ++ opU T.vars o i (cstL cl i) j) ∧ FxT T tv V (Star (ObjA ob (noO o)) (Star (ObjA b (ntO T)) Emp)) w w'
set_option maxHeartbeats 1000000 in
theorem rfacts_spec {w : World} (T : Nt) (cv sv wv : Value) (cl s : List Nat) (ws : List Int) (hr : NtR w T) (hg : NtG T) (hc : Vw w cv nE cl) (hcl : cl.length = T.ops.length) (hcb : ∀ c ∈ cl, c ≤ 1048576) (hs : Vw w sv nE s) (hst : StN T.vars s) (hw : Vw w wv iE ws) (hwl : ws.length ≤ 1000) :
    Calls Try.prog 36 [ntV T, cv, sv, wv].toArray w fun e w' => ∃ u, e = .returned u ∧ ∃ V, IsVal (allow (okL ws) (uns T (cstL cl))) (stN T.vars s T.vars.length) V ∧ Kp [] w w' ∧ LLV iE w' u (tbI T.vars (iV V)) := by
  refine enter Try.func36 mixed low36 (Nat.le_of_ble_eq_true rfl) ?_
  simp only [L36]
  have hlen := hst.len
  have hvl := hg.vlen
  have hol := hg.olen
  obtain ⟨b, hb⟩ : ∃ b, b = w.heap.size := ⟨_, rfl⟩
  have h1 : At w [] (Star (ObjA b (ntO T)) Emp) (w.alloc (ntO T)) := by rw [hb]; exact (At.start rfl).alloc _ .emp
  obtain ⟨w1, hw1⟩ : ∃ w1, w1 = w.alloc (ntO T) := ⟨_, rfl⟩
  rw [← hw1] at h1
  have hw1' : w.alloc (.cells #[T.vv.1, T.nv.1, T.gv.1, T.ov.1] 26 (0, 0)) = w1 := by rw [hw1]; rfl
  have hr1 := hr.kp h1.kp
  have hob := h1.obj
  have rt := rd_tk (t := T.raw) (b := b) (w := w1) hob
  simp [ntV, ← hb, hw1', rt, Nt.raw]
  refine cl_of (start_spec T sv s 0 1125899906842624 hr1 (hs.kp0 h1.kp) hst (by omega) (fun n hn => by have := hg.vars n hn; omega)) ?_
  rintro tv w2 ⟨ps, hps, t2⟩
  have h2 := At.join (Lcl.obj.star .emp) h1 t2
  obtain ⟨S, hS⟩ : ∃ S, S = stN T.vars s T.vars.length := ⟨_, rfl⟩
  have hV0 : stG T.vars s 0 1125899906842624 = iV fun f => if f ∈ S then 0 else Inf := by
    funext f
    unfold stG iV
    rw [← hS]
    by_cases h : f ∈ S <;> simp [h, Inf]
  rw [hV0] at hps
  rw [← hS]
  simp
  refine loop_inv (FxI T cv wv tv b cl ws S w) _ ⟨by simp, by simp, by simp, by simp, _, true, by simp, Rf.init, by simp, rfl, ps, hps, by simpa using h2⟩ ?_
  clear hps h2 hV0 t2
  rintro n ρ w3 ⟨g1, g3, g4, g9, V, ch, g10, hRf, hCl, rfl, ps, hps, h3⟩
  cases ch with
  | false =>
    simp [g10, g9]
    exact ⟨V, hRf.fin (hCl rfl), h3.kp, TabA.vw hps h3⟩
  | true =>
    have hob3 := h3.drop.obj
    unfold ntO at hob3
    have hr3 := hr.kp h3.kp
    simp [g10, g4, cell_blk hob3, hr3.ops.len]
    obtain ⟨s0, hs0⟩ : ∃ s0, s0 = sumV T.vars.sum V := ⟨_, rfl⟩
    refine range_loop (n := T.ops.length) (by omega) (FxO T cv wv tv b cl ws S w s0) (by simp) (by simp)
      ⟨by simp [g1], by simp [g3], by simp [g4], by simp [g9], by simp, V, false, by simp, ⟨hRf, fun _ => by unfold unsK allow; exact Clo.nil, by simp, by omega⟩, ps, hps, by simpa using h3⟩ (by decide) (fun _ _ _ _ h => by unfold FxO at h ⊢; simpa using h) (fun _ _ _ _ h => by unfold FxO at h ⊢; simpa using h) ?_ ?_
    rotate_left
    · clear g1 g3 g4 g9 g10 hps h3
      rintro ρ w4 ⟨g1, g3, g4, g9, g24, V2, ch2, g10, hF, h4⟩
      simp
      refine ⟨_, ?_, g1, g3, g4, g9, V2, ch2, g10, hF.rf, hF.clo, rfl, h4⟩
      cases ch2 with
      | false => simp
      | true => have := hF.lt rfl; simp; omega
    clear g1 g3 g4 g9 g10 hps h3 hob3 hr3 hRf hCl
    rintro i ρ w4 hi hci hli ⟨g1, g3, g4, g9, g24, V2, ch2, g10, hF, ps2, hps2, h4⟩
    have hr4 := hr.kp h4.kp
    obtain ⟨o, ho⟩ : ∃ o, T.ops[i]? = some o := ⟨_, List.getElem?_eq_getElem hi⟩
    have hom := List.mem_of_getElem? ho
    have hgo := hg.ops o hom
    have ec := hr4.ops.cells noE_len ho
    simp only [noE] at ec
    have hii : (i : Int) < T.ops.length := by omega
    obtain ⟨ob, hob2⟩ : ∃ ob, ob = w4.heap.size := ⟨_, rfl⟩
    have hLT : ∀ ps, Lcl (Star (TabA tv 22 3 iE ps) (Star (ObjA b (ntO T)) Emp)) := fun _ => Lcl.tab.star (Lcl.obj.star .emp)
    simp (disch := omega) [g24, hci, hli, hr4.ops.idx, ec, ← hob2]
    refine st_oq (o := o.raw) (hLT _) h4 hob2 fun w5 h5 => ?_
    have h5 : At w [] (Star (TabA tv 22 3 iE ps2) (Star (ObjA ob (noO o)) (Star (ObjA b (ntO T)) Emp))) w5 := h5.by Imp.sw
    have hw5 := hw.kp0 h5.kp
    simp [g3, hw5.len]
    refine range_loop (n := ws.length) (by omega) (fun z ρ w' => ρ 1 = cv ∧ ρ 3 = wv ∧ ρ 4 = .pointer (some ⟨b, 0, none⟩) ∧ ρ 9 = tv ∧ ρ 10 = .bool ch2 ∧ ρ 11 = .int .i64 (i : Nat) ∧ ρ 12 = .pointer (some ⟨ob, 0, none⟩) ∧ ρ 24 = T.ov.1 ∧ ρ 25 = .int .i64 (T.ops.length : Nat) ∧ ρ 26 = .int .i64 (i : Nat) ∧ ρ 31 = wv ∧ ρ 13 = .bool (decide ((i : Int) ∈ ws.take z)) ∧ w' = w5) (by simp) (by simp)
      ⟨by simp [g1], by simp [g3], by simp [g4], by simp [g9], by simp [g10], by simp [hci], by simp [hob2], by simp [g24], by simp [hli], by simp [hci], by simp, by simp, rfl⟩ (by decide) (fun _ _ _ _ h => by simpa using h) (fun _ _ _ _ h => by simpa using h) ?_ ?_
    · clear g1 g3 g4 g9 g10 g24 hci hli
      rintro z ρ w6 hz hcz hlz ⟨g1, g3, g4, g9, g10, g11, g12, g24, g25, g26, g31, g13, rfl⟩
      obtain ⟨y, hy⟩ : ∃ y, ws[z]? = some y := ⟨_, List.getElem?_eq_getElem hz⟩
      have hzi : (z : Int) < ws.length := by omega
      have e : decide ((i : Int) ∈ ws.take (z + 1)) = (decide ((i : Int) ∈ ws.take z) || decide (y = (i : Int))) := by
        rw [take_snoc hy, Bool.eq_iff_iff, decide_eq_true_iff, Bool.or_eq_true, decide_eq_true_iff, decide_eq_true_iff, List.mem_append, List.mem_singleton]
        exact or_congr Iff.rfl eq_comm
      cases hm : decide ((i : Int) ∈ ws.take z) with
      | true =>
        rw [hm] at g13 e
        simp (disch := omega) [g31, hcz, hlz, hw5.idx, iE_cell hw5 hy, g13, g1, g3, g4, g9, g10, g11, g12, g24, g25, g26]
        simpa using e
      | false =>
        rw [hm] at g13 e
        have e2 : (y == (i : Int)) = decide (y = (i : Int)) := by
          rw [Bool.eq_iff_iff]; simp
        simp (disch := omega) [g31, hcz, hlz, hw5.idx, iE_cell hw5 hy, g13, g1, g3, g4, g9, g10, g11, g12, g24, g25, g26]
        rw [e2]
        simpa using e.symm
    clear g1 g3 g4 g9 g10 g24 hci hli
    rintro ρ w6 ⟨g1, g3, g4, g9, g10, g11, g12, g24, g25, g26, g31, g13, rfl⟩
    rw [List.take_length] at g13
    have hsuc := unsK_succ (cost := cstL cl) ho
    cases hm : decide ((i : Int) ∈ ws) with
    | true =>
      rw [hm] at g13
      have hno : okL ws i = false := by unfold okL; simpa using hm
      simp [g13, g25, g26]
      refine ⟨by simp [g1], by simp [g3], by simp [g4], by simp [g9], by simp [g24], V2, ch2, by simp [g10], ⟨hF.rf, fun h => ?_, hF.lt, hF.le⟩, ps2, hps2, by simpa using h5.by (Imp.un Imp.dr)⟩
      rw [hsuc, allow_app, allow_opU_no (Nat.le_refl _) hno, List.append_nil]
      exact hF.clo h
    | false =>
      rw [hm] at g13
      have hok : okL ws i = true := by unfold okL; simpa using hm
      have hob5 := h5.drop.obj
      unfold noO oqO No.raw at hob5
      have hr5 := hr.kp h5.kp
      have hro5 := hr5.op o hom
      have helen := hgo.elen
      simp [g13, g12, cell_blk hob5, hro5.effs.len]
      refine range_loop (n := o.effs.length) (by omega) (FxE T cv wv tv b cl ws S w s0 i ob o) (by simp) (by simp)
        ⟨by simp [g1], by simp [g3], by simp [g4], by simp [g9], by simp [g24], by simp [g25], by simp [g26], by simp [g11], by simp [g12], by simp, V2, ch2, by simp [g10], ⟨hF.rf, fun h => by simpa [opU] using hF.clo h, hF.lt, hF.le⟩, ps2, hps2, by simpa using h5⟩ (by decide) (fun _ _ _ _ h => by unfold FxE at h ⊢; simpa using h) (fun _ _ _ _ h => by unfold FxE at h ⊢; simpa using h) ?_ ?_
      rotate_left
      · clear g1 g3 g4 g9 g10 g11 g12 g24 g25 g26 g31 g13 hps2 h4 h5 hob5 hr5 hro5
        rintro ρ w7 ⟨g1, g3, g4, g9, g24, g25, g26, g11, g12, g46, V3, ch3, g10, hF3, ps3, hps3, h7⟩
        simp [g25, g26]
        refine ⟨by simp [g1], by simp [g3], by simp [g4], by simp [g9], by simp [g24], V3, ch3, by simp [g10], ⟨hF3.rf, fun h => ?_, hF3.lt, hF3.le⟩, ps3, hps3, by simpa using h7.by (Imp.un Imp.dr)⟩
        rw [hsuc, allow_app, allow_opU_yes (Nat.le_refl _) hok]
        exact hF3.clo h
      clear g1 g3 g4 g9 g10 g11 g12 g24 g25 g26 g31 g13 hps2 h4 h5 hob5 hr5 hro5
      rintro j ρ w7 hj hcj hlj ⟨g1, g3, g4, g9, g24, g25, g26, g11, g12, g46, V3, ch3, g10, hF3, ps3, hps3, h7⟩
      have hr7 := hr.kp h7.kp
      have hro7 := hr7.op o hom
      obtain ⟨e, he⟩ : ∃ e, o.effs[j]? = some e := ⟨_, List.getElem?_eq_getElem hj⟩
      have hem := List.mem_of_getElem? he
      have ece := hro7.effs.cells nfE_len he
      simp only [nfE] at ece
      have hji : (j : Int) < o.effs.length := by omega
      obtain ⟨fb, hfb⟩ : ∃ fb, fb = w7.heap.size := ⟨_, rfl⟩
      have hLE : ∀ ps, Lcl (Star (TabA tv 22 3 iE ps) (Star (ObjA ob (noO o)) (Star (ObjA b (ntO T)) Emp))) := fun _ => Lcl.tab.star (Lcl.obj.star (Lcl.obj.star .emp))
      simp (disch := omega) [g46, hcj, hlj, hro7.effs.idx, ece, ← hfb]
      refine st_ef (e := e.raw) (hLE _) h7 hfb fun w8 h8 => ?_
      have h8 : At w [] (Star (TabA tv 22 3 iE ps3) (Star (ObjA ob (noO o)) (Star (ObjA fb (nfO e)) (Star (ObjA b (ntO T)) Emp)))) w8 := h8.by Imp.bk3
      have ro8 := rd_oq (o := o.raw) h8.drop.obj
      have hro8 := (hr.kp h8.kp).op o hom
      simp [g9, g12, ro8, No.raw, hcj]
      have hgp := hgo.pre
      have hgc := hgo.cnd e hem
      have hpl := hgp.len
      have hcl2 := hgc.len
      refine cl_of (needs_spec o j e hro8 he (by omega) (by omega)) ?_
      rintro nv w9 n9
      have h9 := h8.kp0 (Lcl.tab.star (Lcl.obj.star (Lcl.obj.star (Lcl.obj.star .emp)))) n9.kp
      simp [g9]
      have hrng : FcRng T.vars (o.pre ++ e.cnd) := fun f hf => by
        rcases List.mem_append.1 hf with h | h
        · exact hgp.rng f h
        · exact hgc.rng f h
      have ht9 : LLV iE w9 tv (tbI T.vars fun f => ((V3 f : Nat) : Int)) := TabA.vw hps3 h9
      have hll : (o.pre ++ e.cnd).length ≤ 1000000 := by rw [List.length_append]; omega
      refine cl_of (greatest_spec tv nv T.vars V3 (o.pre ++ e.cnd) ht9 n9.own.vw hll hrng) ?_
      rintro _ w10 ⟨rfl, k10⟩
      have h10 := h9.kp0 (Lcl.tab.star (Lcl.obj.star (Lcl.obj.star (Lcl.obj.star .emp)))) k10
      obtain ⟨m, hm2⟩ : ∃ m, m = grF T.vars V3 (o.pre ++ e.cnd) := ⟨_, rfl⟩
      rw [← hm2]
      obtain ⟨c, hce⟩ : ∃ c, cl[i]? = some c := ⟨_, List.getElem?_eq_getElem (by omega)⟩
      have hcc : cstL cl i = c := by simp [cstL, List.getD, hce]
      have hcbn := hcb c (List.mem_of_getElem? hce)
      obtain ⟨f1, f2⟩ := hgo.eff e hem
      obtain ⟨f, hf⟩ : ∃ f, f = psum T.vars e.v + e.x := ⟨_, rfl⟩
      have hfN : f < T.vars.sum := by rw [hf]; exact numF_lt (f := (e.v, e.x)) f1 f2
      have huA : (⟨i, j, c, f, dedup ((o.pre ++ e.cnd).map (numF T.vars))⟩ : Un) ∈ allow (okL ws) (uns T (cstL cl)) := by
        refine allow_mem.2 ⟨?_, hok⟩
        have := mem_uns (cost := cstL cl) hi ho he
        rw [hcc] at this
        rw [hf]
        exact this
      have hun : unA T.vars o i (cstL cl i) j = ⟨i, j, c, f, dedup ((o.pre ++ e.cnd).map (numF T.vars))⟩ := by
        rw [unA_at he, hcc, hf]; rfl
      have hgm : gr V3 (dedup ((o.pre ++ e.cnd).map (numF T.vars))) = m := by rw [gr_dedup, hm2]; rfl
      have hmI : m ≤ Inf := by rw [← hgm]; exact gr_le_iff.2 fun x _ => hF3.rf.le x
      have hVI := hF3.rf.le f
      have hfb10 := h10.drop.drop.obj
      unfold nfO efO Nf.raw at hfb10
      rw [hfb] at hfb10
      have hc10 := hc.kp0 h10.kp
      have hcii : (i : Int) < cl.length := by omega
      obtain ⟨tp, htl, htv, htr⟩ := LLV.tb (TabA.vw hps3 h10)
      obtain ⟨p, hp⟩ : ∃ p, ps3[e.v]? = some p := ⟨_, List.getElem?_eq_getElem (by
        have := congrArg List.length hps3
        rw [List.length_map] at this
        rw [this]; unfold tbI; rw [tbK_len]; exact f1)⟩
      have hp2 : p.2 = rwI T.vars (iV V3) e.v := by
        have e1 : (ps3.map (·.2))[e.v]? = some p.2 := by rw [List.getElem?_map, hp]; rfl
        rw [hps3] at e1
        unfold tbI tbK at e1
        rw [List.getElem?_map, List.getElem?_range f1] at e1
        exact (Option.some.inj e1).symm
      have hTO := TabA.own h10
      have hTR := TabA.row h10 hp
      rw [hp2] at hTR
      have ep : w10.cell? ⟨tv.blk, e.v, none⟩ = some p.1.1 := by
        have := hTO.cell sv1_len hp (o := 0) (by omega)
        simpa [sv1] using this
      have ex : w10.cell? ⟨p.1.1.blk, e.x, none⟩ = some (.int .i64 (V3 f : Nat)) := by
        have := hTR.cell iE_len (rwI_at (g := iV V3) f2) (o := 0) (by omega)
        rw [hf]
        simpa [iE, iV] using this
      have h1i : (e.v : Int) < ps3.length := by have := (List.getElem?_eq_some_iff.1 hp).1; omega
      have h2i : (e.x : Int) < (rwI T.vars (iV V3) e.v).length := by rw [rwI_len]; omega
      have hInf : Inf = 1125899906842624 := rfl
      have skipc : (m < Inf → V3 f ≤ m + c) → Rfs T cl ws S s0 V3 ch3 (allow (okL ws) (unsK T (cstL cl) i) ++ opU T.vars o i (cstL cl i) (j + 1)) := fun h => ⟨hF3.rf, fun h2 => by
        rw [opU_succ, ← List.append_assoc, hun]
        refine (hF3.clo h2).app (Clo.one ?_)
        rw [hgm]
        exact h, hF3.lt, hF3.le⟩
      by_cases t1 : Inf ≤ m
      · have t1' : ¬ (m : Int) < 1125899906842624 := by omega
        simp (disch := omega) [t1', g25, g26, g11, g12, g46, hcj, hlj, g24]
        exact ⟨by simp [g1], by simp [g3], by simp [g4], by simp [g9], by simp [g24], by simp [g25], by simp [g26], by simp [g11], by simp [g12], by simp [g46], V3, ch3, by simp [g10], skipc (fun h => absurd h (by omega)), ps3, hps3, (h10.by (Imp.un (Imp.un Imp.dr))).kp0 (hLE _) ((Kp.refl [] w10).drew)⟩
      have t1' : (m : Int) < 1125899906842624 := by omega
      by_cases t2 : V3 f ≤ m + c
      · have t2' : ¬ (m : Int) + (c : Nat) < (V3 f : Nat) := by omega
        simp (disch := omega) [t1', g1, g11, hc10.idx, nE_cell hc10 hce, wrap_i64, g9, cell_blk hfb10, hTO.idx, ep, hTR.idx, ex, t2', g25, g26, g12, g46, hcj, hlj, g24]
        exact ⟨by simp [g1], by simp [g3], by simp [g4], by simp [g9], by simp [g24], by simp [g25], by simp [g26], by simp [g11], by simp [g12], by simp [g46], V3, ch3, by simp [g10], skipc (fun _ => t2), ps3, hps3, (h10.by (Imp.un (Imp.un Imp.dr))).kp0 (hLE _) ((Kp.refl [] w10).drew)⟩
      have t2' : (m : Int) + (c : Nat) < (V3 f : Nat) := by omega
      simp (disch := omega) [t1', g1, g11, hc10.idx, nE_cell hc10 hce, wrap_i64, g9, cell_blk hfb10, hTO.idx, ep, hTR.idx, ex, t2']
      have h11 := h10.kp0 (Lcl.tab.star (Lcl.obj.star (Lcl.obj.star (Lcl.obj.star .emp)))) (((Kp.refl [] w10).drew).trans ((Kp.refl [] w10.drew).drew))
      refine TabA.store (Lcl.obj.star (Lcl.obj.star (Lcl.obj.star .emp))) h11 hp iE_len iE_one (k := e.x) (x := ((m + c : Nat) : Int)) (by rw [hp2, rwI_len]; exact f2) (by simp [iE]) fun w12 h12 => ?_
      have hps4 : (ps3.set e.v (p.1, p.2.set e.x ((m + c : Nat) : Int))).map (·.2) = tbI T.vars (iV (updN V3 f (m + c))) := by
        rw [List.map_set, hps3, hp2, tb_set f1 f2, ← hf, iV_upd]
      have hlt : m + c < V3 f := by omega
      have hstep := hF3.rf.step huA (by rw [hgm]; exact hlt)
      rw [hgm] at hstep
      have hsum := sumV_upd (V := V3) hfN hlt
      have hle3 := hF3.le
      simp (disch := omega) [g1, g3, g4, g9, g24, g25, g26, g11, g12, g46, hcj, hlj]
      refine ⟨by simp [g1], by simp [g3], by simp [g4], by simp [g9], by simp [g24], by simp [g25], by simp [g26], by simp [g11], by simp [g12], by simp [g46], updN V3 f (m + c), true, by simp, ⟨hstep, by simp, fun _ => by omega, by omega⟩, _, hps4, h12.by (Imp.un (Imp.un Imp.dr))⟩
end Go.Proofs.Ytcplpogmbacnfaa
