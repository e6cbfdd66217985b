/-
  A part of the proofs of this seat's statements (RxXF); no conditions beyond those each theorem names.
-/
import Derived.Test.YtjpbkljnllkneaaRxXE
import Derived.Test.YtjpbkljnllkneaaRxPa
set_option maxRecDepth 100000
set_option linter.unusedSimpArgs false
set_option linter.unusedVariables false
namespace Go.Proofs.Ytjpbkljnllkneaa
open Go Go.W Go.Tk Go.Rx Go.Maps
def nmL (vars : List Nat) (l : List Fc) : List Nat := l.map (numF vars)
def alB (vars : List Nat) (lay : Nat → Int) (l : List Fc) : Bool := l.all fun f => decide (0 ≤ lay (numF vars f))
/-- A fact is appended. -/
theorem fc_append {w w1 : World} {F : List Nat} {B : Asr} {ov : Value} {l : List Fc} {x : Fc} {KV : Kont (Value × World)} (hB : Lcl B) (h : At w F (Star (OwnA ov 57 2 fcE l) B) w1) (hl : l.length ≤ 1000000)
    (H : ∀ v' w2, At w F (Star (OwnA v' 57 2 fcE (l ++ [x])) B) w2 → KV.run (v', w2)) :
    @efH Try.prog (Builtin.append_ #[23, 23] 23 [ov, .slice (some ⟨w1.heap.size, 0, none⟩) 1 1].toArray) (w1.alloc (.cells #[.int .i64 (x.1 : Nat), .int .i64 (x.2 : Nat)] 57)) KV := by
  have h4 := h.kp0 (Lcl.own.star hB) ((Kp.refl [] w1).alloc (.cells #[.int .i64 (x.1 : Nat), .int .i64 (x.2 : Nat)] 57))
  refine At.append (xs := [x]) hB h4 fcE_len fcE_one sl_23 rfl (fun j u hj => ?_) (by omega) (by unfold maxLen; omega) fun v' w5 h5 => H v' w5 h5
  simp [fcE] at hj
  rw [add_none, cell_blk alloc_new]
  simpa using hj
structure Pas (T : Nt) (lay : Nat → Int) (A : List Un) (c : Nat) (l : List Fc) : Prop where
  rng : FcRng T.vars l
  snd : Snd (uns T fun _ => 0) lay (nmL T.vars l)
  ful : Ful A lay (nmL T.vars l)
  len : l.length ≤ c
def LwI (T : Nt) (tv : Value) (b : Nat) (S : List Nat) (w : World) (n : Nat) (ρ : Env) (w' : World) : Prop :=
  ∃ k lay, n = ngs T.vars.sum lay ∧ k + n ≤ T.vars.sum ∧ Lw (uns T fun _ => 0) S k lay ∧ ρ 2 = .pointer (some ⟨b, 0, none⟩) ∧ ρ 5 = tv ∧ ρ 6 = .int .i64 (k : Nat) ∧
    ∃ ps : List (Cell1 × List Int), ps.map (·.2) = tbI T.vars lay ∧ At w [] (Star (TabA tv 22 3 iE ps) (Star (ObjA b (ntO T)) Emp)) w'
def LwO (T : Nt) (tv : Value) (b k : Nat) (lay : Nat → Int) (ps : List (Cell1 × List Int)) (w : World) (i : Nat) (ρ : Env) (w' : World) : Prop :=
  ρ 2 = .pointer (some ⟨b, 0, none⟩) ∧ ρ 5 = tv ∧ ρ 6 = .int .i64 (k : Nat) ∧ ρ 23 = T.ov.1 ∧ ∃ l, Pas T lay (unsK T (fun _ => 0) i) (64 * i) l ∧ At w [] (Star (OwnA (ρ 7) 57 2 fcE l) (Star (TabA tv 22 3 iE ps) (Star (ObjA b (ntO T)) Emp))) w'
def LwE (T : Nt) (tv : Value) (b k : Nat) (lay : Nat → Int) (ps : List (Cell1 × List Int)) (w : World) (i ob : Nat) (o : No) (j : Nat) (ρ : Env) (w' : World) : Prop :=
  ρ 2 = .pointer (some ⟨b, 0, none⟩) ∧ ρ 5 = tv ∧ ρ 6 = .int .i64 (k : Nat) ∧ ρ 23 = T.ov.1 ∧ ρ 24 = .int .i64 (T.ops.length : Nat) ∧ ρ 25 = .int .i64 (i : Nat) ∧ ρ 9 = .pointer (some ⟨ob, 0, none⟩) ∧ ρ 30 = o.ev.1 ∧
    ∃ l, Pas T lay (unsK T (fun _ => 0) i ++ opU T.vars o i 0 j) (64 * i + j) l ∧ At w [] (Star (OwnA (ρ 7) 57 2 fcE l) (Star (TabA tv 22 3 iE ps) (Star (ObjA ob (noO o)) (Star (ObjA b (ntO T)) Emp)))) w'
def LwN (T : Nt) (tv nv xv : Value) (b k : Nat) (lay : Nat → Int) (ps : List (Cell1 × List Int)) (w : World) (i ob fb : Nat) (o : No) (e : Nf) (nd : List Fc) (j : Nat) (l : List Fc) (z : Nat) (ρ : Env) (w' : World) : Prop :=
  ρ 2 = .pointer (some ⟨b, 0, none⟩) ∧ ρ 5 = tv ∧ ρ 6 = .int .i64 (k : Nat) ∧ ρ 23 = T.ov.1 ∧ ρ 24 = .int .i64 (T.ops.length : Nat) ∧ ρ 25 = .int .i64 (i : Nat) ∧ ρ 9 = .pointer (some ⟨ob, 0, none⟩) ∧ ρ 30 = o.ev.1 ∧ ρ 31 = .int .i64 (o.effs.length : Nat) ∧ ρ 32 = .int .i64 (j : Nat) ∧ ρ 11 = .pointer (some ⟨fb, 0, none⟩) ∧ ρ 49 = nv ∧ ρ 7 = xv ∧
    ρ 12 = .bool (alB T.vars lay (nd.take z)) ∧ At w [] (Star (OwnA nv 57 2 fcE nd) (Star (OwnA xv 57 2 fcE l) (Star (TabA tv 22 3 iE ps) (Star (ObjA ob (noO o)) (Star (ObjA fb (nfO e)) (Star (ObjA b (ntO T)) Emp)))))) w'
def FxL (T : Nt) (tv xv : Value) (b k : Nat) (lay : Nat → Int) (l : List Fc) (y : Nat) (w : World) (w' : World) : Prop :=
  ∃ ps : List (Cell1 × List Int), ps.map (·.2) = tbI T.vars (layN lay k (nmL T.vars (l.take y))) ∧ At w [] (Star (OwnA xv 57 2 fcE l) (Star (TabA tv 22 3 iE ps) (Star (ObjA b (ntO T)) Emp))) w'
theorem layN_nil {lay : Nat → Int} {k : Nat} : layN lay k [] = lay := by funext g; simp [layN]
theorem layN_snoc {lay : Nat → Int} {k f : Nat} {A : List Nat} : updN (layN lay k A) f ((k : Int) + 1) = layN lay k (A ++ [f]) := by
  funext g
  unfold layN
  by_cases e : g = f
  · subst e; simp
  · rw [updN_ne e]; simp [e]
theorem alB_succ {vars : List Nat} {lay : Nat → Int} {l : List Fc} {z : Nat} {f : Fc} (h : l[z]? = some f) : alB vars lay (l.take (z + 1)) = (alB vars lay (l.take z) && decide (0 ≤ lay (numF vars f))) := by
  unfold alB; rw [take_snoc h, List.all_append]; simp
theorem tab_row {T : Nt} {lay : Nat → Int} {ps : List (Cell1 × List Int)} (hps : ps.map (·.2) = tbI T.vars lay) {v : Nat} (hv : v < T.vars.length) : ∃ p, ps[v]? = some p ∧ p.2 = rwI T.vars lay v := by
  obtain ⟨p, hp⟩ : ∃ p, ps[v]? = some p := ⟨_, List.getElem?_eq_getElem (by
    have := congrArg List.length hps
    rw [List.length_map] at this
    rw [this]; unfold tbI; rw [tbK_len]; exact hv)⟩
  refine ⟨p, hp, ?_⟩
  have e1 : (ps.map (·.2))[v]? = some p.2 := by rw [List.getElem?_map, hp]; rfl
  rw [hps] at e1
  unfold tbI tbK at e1
  rw [List.getElem?_map, List.getElem?_range hv] at e1
  exact (Option.some.inj e1).symm
set_option maxHeartbeats 1000000 in
theorem rlevels_spec {w : World} (T : Nt) (sv : Value) (s : List Nat) (hr : NtR w T) (hg : NtG T) (hs : Vw w sv nE s) (hst : StN T.vars s) :
    Calls Try.prog 31 [ntV T, sv].toArray w fun e w' => ∃ u, e = .returned u ∧ ∃ L, IsLev (uns T fun _ => 0) (stN T.vars s T.vars.length) L ∧ Kp [] w w' ∧ LLV iE w' u (tbI T.vars L) := by
  refine enter Try.func31 mixed low31 (Nat.le_of_ble_eq_true rfl) ?_
  simp only [L31]
  have hlen := hst.len
  have hvl := hg.vlen
  have hol := hg.olen
  have hsum : T.vars.sum ≤ 4096 := by
    have := sum_le (N := 64) fun n hn => (hg.vars n hn).2
    omega
  obtain ⟨b, hb⟩ : ∃ b, b = w.heap.size := ⟨_, rfl⟩
  have h1 : At w [] (Star (ObjA b (ntO T)) Emp) (w.alloc (ntO T)) := by rw [hb]; exact (At.start rfl).alloc _ .emp
  obtain ⟨w1, hw1⟩ : ∃ w1, w1 = w.alloc (ntO T) := ⟨_, rfl⟩
  rw [← hw1] at h1
  have hw1' : w.alloc (.cells #[T.vv.1, T.nv.1, T.gv.1, T.ov.1] 26 (0, 0)) = w1 := by rw [hw1]; rfl
  have hr1 := hr.kp h1.kp
  have hob := h1.obj
  have rt := rd_tk (t := T.raw) (b := b) (w := w1) hob
  simp [ntV, ← hb, hw1', rt, Nt.raw]
  refine cl_of (start_spec T sv s 0 (-1) hr1 (hs.kp0 h1.kp) hst (by omega) (fun n hn => by have := hg.vars n hn; omega)) ?_
  rintro tv w2 ⟨ps, hps, t2⟩
  have h2 := At.join (Lcl.obj.star .emp) h1 t2
  obtain ⟨S, hS⟩ : ∃ S, S = stN T.vars s T.vars.length := ⟨_, rfl⟩
  have hV0 : stG T.vars s 0 (-1) = fun f => if f ∈ S then 0 else -1 := by
    funext f
    unfold stG
    rw [← hS]
  rw [hV0] at hps
  rw [← hS]
  simp
  refine loop_inv (LwI T tv b S w) _ ⟨0, _, rfl, by have := ngs_le (N := T.vars.sum) (lay := fun f => if f ∈ S then 0 else -1); omega, Lw.init, by simp, by simp, by simp, ps, hps, by simpa using h2⟩ ?_
  clear hps h2 hV0 t2
  rintro n ρ w3 ⟨k, lay, rfl, hkn, hL, g2, g5, g6, ps, hps, h3⟩
  have hob3 := h3.drop.obj
  unfold ntO at hob3
  have hr3 := hr.kp h3.kp
  have hLT : ∀ ps, Lcl (Star (TabA tv 22 3 iE ps) (Star (ObjA b (ntO T)) Emp)) := fun _ => Lcl.tab.star (Lcl.obj.star .emp)
  have h4 : At w [] (Star (OwnA (.slice none 0 0) 57 2 fcE ([] : List Fc)) (Star (TabA tv 22 3 iE ps) (Star (ObjA b (ntO T)) Emp))) w3 := At.nil (hLT _) h3
  simp [g2, cell_blk hob3, hr3.ops.len]
  refine range_loop (n := T.ops.length) (by omega) (LwO T tv b k lay ps w) (by simp) (by simp)
    ⟨by simp [g2], by simp [g5], by simp [g6], by simp, [], ⟨(by intro f hf; cases hf), Snd.nil, (by unfold unsK; exact Ful.nil), by simp⟩, by simpa using h4⟩ (by decide) (fun _ _ _ _ h => by unfold LwO at h ⊢; simpa using h) (fun _ _ _ _ h => by unfold LwO at h ⊢; simpa using h) ?_ ?_
  · clear g2 g5 g6 h3 h4 hob3 hr3
    rintro i ρ w4 hi hci hli ⟨g2, g5, g6, g23, l, hP, h4⟩
    have hr4 := hr.kp h4.kp
    obtain ⟨o, ho⟩ : ∃ o, T.ops[i]? = some o := ⟨_, List.getElem?_eq_getElem hi⟩
    have hom := List.mem_of_getElem? ho
    have hgo := hg.ops o hom
    have ec := hr4.ops.cells noE_len ho
    simp only [noE] at ec
    have hii : (i : Int) < T.ops.length := by omega
    obtain ⟨ob, hob2⟩ : ∃ ob, ob = w4.heap.size := ⟨_, rfl⟩
    simp (disch := omega) [g23, hci, hli, hr4.ops.idx, ec, ← hob2]
    refine st_oq (o := o.raw) (Lcl.own.star (hLT _)) h4 hob2 fun w5 h5 => ?_
    have h5 : At w [] (Star (OwnA (ρ 7) 57 2 fcE l) (Star (TabA tv 22 3 iE ps) (Star (ObjA ob (noO o)) (Star (ObjA b (ntO T)) Emp)))) w5 := h5.by Imp.bk3
    have hob5 := h5.drop.drop.obj
    unfold noO oqO No.raw at hob5
    have hob5' := hob5
    rw [hob2] at hob5'
    have hro5 := (hr.kp h5.kp).op o hom
    have helen := hgo.elen
    have hsuc := unsK_succ (cost := fun _ => 0) ho
    simp [cell_blk hob5', hro5.effs.len]
    refine range_loop (n := o.effs.length) (by omega) (LwE T tv b k lay ps w i ob o) (by simp) (by simp)
      ⟨by simp [g2], by simp [g5], by simp [g6], by simp [g23], by simp [hli], by simp [hci], by simp [hob2], by simp, l, ⟨hP.rng, hP.snd, by simpa [opU] using hP.ful, by simpa using hP.len⟩, by simpa using h5⟩ (by decide) (fun _ _ _ _ h => by unfold LwE at h ⊢; simpa using h) (fun _ _ _ _ h => by unfold LwE at h ⊢; simpa using h) ?_ ?_
    rotate_left
    · clear g2 g5 g6 g23 hci hli h4 h5 hob5 hob5' hro5
      rintro ρ w6 ⟨g2, g5, g6, g23, g24, g25, g9, g30, l2, hP2, h6⟩
      simp [g24, g25]
      refine ⟨by simp [g2], by simp [g5], by simp [g6], by simp [g23], l2, ⟨hP2.rng, hP2.snd, ?_, by have := hP2.len; omega⟩, by simpa using h6.by (Imp.un (Imp.un Imp.dr))⟩
      rw [hsuc]
      exact hP2.ful
    clear g2 g5 g6 g23 hci hli h4 h5 hob5 hob5' hro5
    rintro j ρ w6 hj hcj hlj ⟨g2, g5, g6, g23, g24, g25, g9, g30, l2, hP2, h6⟩
    have hro6 := (hr.kp h6.kp).op o hom
    obtain ⟨e, he⟩ : ∃ e, o.effs[j]? = some e := ⟨_, List.getElem?_eq_getElem hj⟩
    have hem := List.mem_of_getElem? he
    have ece := hro6.effs.cells nfE_len he
    simp only [nfE] at ece
    have hji : (j : Int) < o.effs.length := by omega
    obtain ⟨fb, hfb⟩ : ∃ fb, fb = w6.heap.size := ⟨_, rfl⟩
    have hLE : Lcl (Star (OwnA (ρ 7) 57 2 fcE l2) (Star (TabA tv 22 3 iE ps) (Star (ObjA ob (noO o)) (Star (ObjA b (ntO T)) Emp)))) := Lcl.own.star (Lcl.tab.star (Lcl.obj.star (Lcl.obj.star .emp)))
    simp (disch := omega) [g30, hcj, hlj, hro6.effs.idx, ece, ← hfb]
    refine st_ef (e := e.raw) hLE h6 hfb fun w8 h8 => ?_
    have h8 : At w [] (Star (OwnA (ρ 7) 57 2 fcE l2) (Star (TabA tv 22 3 iE ps) (Star (ObjA ob (noO o)) (Star (ObjA fb (nfO e)) (Star (ObjA b (ntO T)) Emp))))) w8 := h8.by Imp.bk4
    have hLF : Lcl (Star (OwnA (ρ 7) 57 2 fcE l2) (Star (TabA tv 22 3 iE ps) (Star (ObjA ob (noO o)) (Star (ObjA fb (nfO e)) (Star (ObjA b (ntO T)) Emp))))) := Lcl.own.star (Lcl.tab.star (Lcl.obj.star (Lcl.obj.star (Lcl.obj.star .emp))))
    have oe8 := h8.drop.drop.drop.obj
    unfold nfO efO Nf.raw at oe8
    rw [hfb] at oe8
    obtain ⟨f1, f2⟩ := hgo.eff e hem
    obtain ⟨p, hp, hp2⟩ := tab_row hps f1
    have hTO := TabA.own h8.drop
    have hTR := TabA.row h8.drop hp
    rw [hp2] at hTR
    have ep : w8.cell? ⟨tv.blk, e.v, none⟩ = some p.1.1 := by
      have := hTO.cell sv1_len hp (o := 0) (by omega)
      simpa [sv1] using this
    obtain ⟨f, hf⟩ : ∃ f, f = psum T.vars e.v + e.x := ⟨_, rfl⟩
    have ex : w8.cell? ⟨p.1.1.blk, e.x, none⟩ = some (.int .i64 (lay f)) := by
      have := hTR.cell iE_len (rwI_at (g := lay) f2) (o := 0) (by omega)
      rw [hf]
      simpa [iE] using this
    have h1i : (e.v : Int) < ps.length := by have := (List.getElem?_eq_some_iff.1 hp).1; omega
    have h2i : (e.x : Int) < (rwI T.vars lay e.v).length := by rw [rwI_len]; omega
    have hun : unA T.vars o i 0 j = ⟨i, j, 0, f, dedup ((o.pre ++ e.cnd).map (numF T.vars))⟩ := by
      rw [unA_at he, hf]; rfl
    have hopU : opU T.vars o i 0 (j + 1) = opU T.vars o i 0 j ++ [⟨i, j, 0, f, dedup ((o.pre ++ e.cnd).map (numF T.vars))⟩] := by rw [opU_succ, hun]
    have skp : (lay f < 0 → (∀ n ∈ dedup ((o.pre ++ e.cnd).map (numF T.vars)), 0 ≤ lay n) → False) → Pas T lay (unsK T (fun _ => 0) i ++ opU T.vars o i 0 (j + 1)) (64 * i + (j + 1)) l2 := fun h => ⟨hP2.rng, hP2.snd, by
      rw [hopU, ← List.append_assoc]
      exact hP2.ful.app (Ful.one fun h3 h4 => absurd (h h3 h4) id), by have := hP2.len; omega⟩
    by_cases t1 : 0 ≤ lay f
    · simp (disch := omega) [g5, cell_blk oe8, hTO.idx, ep, hTR.idx, ex, t1, hcj, hlj]
      exact ⟨by simp [g2], by simp [g5], by simp [g6], by simp [g23], by simp [g24], by simp [g25], by simp [g9], by simp [g30], l2, skp (fun h => absurd h (by omega)), by simpa using (h8.by (Imp.un (Imp.un (Imp.un Imp.dr)))).kp0 hLE ((Kp.refl [] w8).drew)⟩
    have ro8 : cellsAt w8.drew ⟨ob, 0, none⟩ 0 4 = some [.string o.name, .int .i64 (o.cost : Nat), o.pv.1, o.ev.1] := rd_oq (o := o.raw) (w := w8.drew) h8.drop.drop.obj
    have hro8 := (hr.kp (h8.kp.drew)).op o hom
    have hgp := hgo.pre
    have hgc := hgo.cnd e hem
    have hpl := hgp.len
    have hcl2 := hgc.len
    simp (disch := omega) [g5, cell_blk oe8, hTO.idx, ep, hTR.idx, ex, t1, g9, ro8, hcj]
    refine cl_of (needs_spec o j e hro8 he (by omega) (by omega)) ?_
    rintro nv w9 n9
    have h9 := At.nw hLF (h8.kp0 hLF ((Kp.refl [] w8).drew)) n9
    have hrng : FcRng T.vars (o.pre ++ e.cnd) := fun f hf => by
      rcases List.mem_append.1 hf with h | h
      · exact hgp.rng f h
      · exact hgc.rng f h
    have hll : (o.pre ++ e.cnd).length ≤ 1000000 := by rw [List.length_append]; omega
    obtain ⟨nd, hnd⟩ : ∃ nd, nd = o.pre ++ e.cnd := ⟨_, rfl⟩
    obtain ⟨xv, hxv⟩ : ∃ xv, xv = ρ 7 := ⟨_, rfl⟩
    rw [← hxv] at h9
    rw [← hnd] at h9 hrng hll
    have hnv := h9.own.vw
    simp [hnv.len]
    have hLN : Lcl (Star (OwnA nv 57 2 fcE nd) (Star (OwnA xv 57 2 fcE l2) (Star (TabA tv 22 3 iE ps) (Star (ObjA ob (noO o)) (Star (ObjA fb (nfO e)) (Star (ObjA b (ntO T)) Emp)))))) := by
      rw [hxv]; exact Lcl.own.star hLF
    refine range_loop (n := nd.length) (by omega) (LwN T tv nv xv b k lay ps w i ob fb o e nd j l2) (by simp) (by simp)
      ⟨by simp [g2], by simp [g5], by simp [g6], by simp [g23], by simp [g24], by simp [g25], by simp [g9], by simp [g30], by simp [hlj], by simp [hcj], by simp [hfb], by simp, by simp [hxv], by simp [alB], by simpa using h9⟩ (by decide) (fun _ _ _ _ h => by unfold LwN at h ⊢; simpa using h) (fun _ _ _ _ h => by unfold LwN at h ⊢; simpa using h) ?_ ?_
    · clear g2 g5 g6 g23 g24 g25 g9 g30 hcj hlj hTO hTR ep ex hnv ro8 hro8 oe8
      rintro z ρ w10 hz hcz hlz ⟨g2, g5, g6, g23, g24, g25, g9, g30, g31, g32, g11, g49, g7, g12, h10⟩
      have hnv := h10.own.vw
      obtain ⟨g, hge⟩ : ∃ g, nd[z]? = some g := ⟨_, List.getElem?_eq_getElem hz⟩
      obtain ⟨q1, q2⟩ := hrng g (List.mem_of_getElem? hge)
      have ecg := hnv.cells fcE_len hge
      simp only [fcE] at ecg
      obtain ⟨gb, hgb⟩ : ∃ gb, gb = w10.heap.size := ⟨_, rfl⟩
      have hzi : (z : Int) < nd.length := by omega
      simp (disch := omega) [g49, hcz, hlz, hnv.idx, ecg, ← hgb]
      refine st_fa (f := faN g) hLN h10 hgb fun w11 h11 => ?_
      have hog := h11.obj
      simp only [faN, faO] at hog
      rw [hgb] at hog
      have h11 := h11.drop
      have has := alB_succ (vars := T.vars) (lay := lay) hge
      cases hall : alB T.vars lay (nd.take z) with
      | false =>
        rw [hall] at g12 has
        simp [g12, hcz, hlz]
        exact ⟨by simp [g2], by simp [g5], by simp [g6], by simp [g23], by simp [g24], by simp [g25], by simp [g9], by simp [g30], by simp [g31], by simp [g32], by simp [g11], by simp [g49], by simp [g7], by simp [has], by simpa using h11.kp0 hLN ((Kp.refl [] w11).drew)⟩
      | true =>
        rw [hall] at g12 has
        obtain ⟨p', hp', hp2'⟩ := tab_row hps q1
        have hTO := TabA.own h11.drop.drop
        have hTR := TabA.row h11.drop.drop hp'
        rw [hp2'] at hTR
        have ep : w11.cell? ⟨tv.blk, g.1, none⟩ = some p'.1.1 := by
          have := hTO.cell sv1_len hp' (o := 0) (by omega)
          simpa [sv1] using this
        have ex : w11.cell? ⟨p'.1.1.blk, g.2, none⟩ = some (.int .i64 (lay (psum T.vars g.1 + g.2))) := by
          have := hTR.cell iE_len (rwI_at (g := lay) q2) (o := 0) (by omega)
          simpa [iE] using this
        have h1i : (g.1 : Int) < ps.length := by have := (List.getElem?_eq_some_iff.1 hp').1; omega
        have h2i : (g.2 : Int) < (rwI T.vars lay g.1).length := by rw [rwI_len]; omega
        simp (disch := omega) [g12, g5, cell_blk hog, hTO.idx, ep, hTR.idx, ex, hcz, hlz]
        exact ⟨by simp [g2], by simp [g5], by simp [g6], by simp [g23], by simp [g24], by simp [g25], by simp [g9], by simp [g30], by simp [g31], by simp [g32], by simp [g11], by simp [g49], by simp [g7], (by simp [has, numF] <;> exact decide_eq_decide.2 Iff.rfl), by simpa using h11.kp0 hLN ((Kp.refl [] w11).drew)⟩
    clear g2 g5 g6 g23 g24 g25 g9 g30 hcj hlj hTO hTR ep ex hnv ro8 hro8 oe8
    rintro ρ w10 ⟨g2, g5, g6, g23, g24, g25, g9, g30, g31, g32, g11, g49, g7, g12, h10⟩
    rw [List.take_length] at g12
    have h10 := h10.drop
    have hgd : ∀ n, n ∈ dedup ((o.pre ++ e.cnd).map (numF T.vars)) ↔ ∃ q ∈ nd, numF T.vars q = n := fun n => by
      rw [dedup_mem, hnd, List.mem_map]
    cases hall : alB T.vars lay nd with
    | false =>
      rw [hall] at g12
      have hno : ¬ ∀ n ∈ dedup ((o.pre ++ e.cnd).map (numF T.vars)), 0 ≤ lay n := fun h => by
        have : alB T.vars lay nd = true := by
          unfold alB
          rw [List.all_eq_true]
          exact fun q hq => decide_eq_true (h _ ((hgd _).2 ⟨q, hq, rfl⟩))
        rw [hall] at this; cases this
      simp [g12, g31, g32]
      exact ⟨by simp [g2], by simp [g5], by simp [g6], by simp [g23], by simp [g24], by simp [g25], by simp [g9], by simp [g30], l2, skp (fun _ h => hno h), by simpa [g7] using h10.by (Imp.un (Imp.un (Imp.un Imp.dr)))⟩
    | true =>
      rw [hall] at g12
      have hyes : ∀ n ∈ dedup ((o.pre ++ e.cnd).map (numF T.vars)), 0 ≤ lay n := fun n hn => by
        obtain ⟨q, hq, rfl⟩ := (hgd n).1 hn
        unfold alB at hall
        rw [List.all_eq_true] at hall
        exact of_decide_eq_true (hall q hq)
      have oe10 := h10.drop.drop.drop.obj
      unfold nfO efO Nf.raw at oe10
      simp [g12, g7, g11, cell_blk oe10, rowOf]
      have hl2 := hP2.len
      have hLX : Lcl (Star (TabA tv 22 3 iE ps) (Star (ObjA ob (noO o)) (Star (ObjA fb (nfO e)) (Star (ObjA b (ntO T)) Emp)))) := Lcl.tab.star (Lcl.obj.star (Lcl.obj.star (Lcl.obj.star .emp)))
      refine fc_append (x := (e.v, e.x)) hLX h10 (by omega) fun v' w11 h11 => ?_
      have hmem := mem_uns (cost := fun _ => 0) hi ho he
      have hnm : nmL T.vars (l2 ++ [(e.v, e.x)]) = nmL T.vars l2 ++ [f] := by
        unfold nmL; rw [List.map_append, hf]; rfl
      simp [g31, g32]
      refine ⟨by simp [g2], by simp [g5], by simp [g6], by simp [g23], by simp [g24], by simp [g25], by simp [g9], by simp [g30], l2 ++ [(e.v, e.x)], ⟨fun q hq => ?_, fun q hq => ?_, ?_, by simp; omega⟩, by simpa using h11.by (Imp.un (Imp.un (Imp.un Imp.dr)))⟩
      · rcases List.mem_append.1 hq with h | h
        · exact hP2.rng q h
        · simp at h; subst h; exact ⟨f1, f2⟩
      · rw [hnm] at hq
        rcases List.mem_append.1 hq with h | h
        · exact hP2.snd q h
        · simp at h; subst h
          exact ⟨by omega, _, hmem, by rw [hf]; rfl, hyes⟩
      · rw [hnm, hopU, ← List.append_assoc]
        exact (Ful.more hP2.ful).app (Ful.one fun _ _ => by simp)
  clear g2 g5 g6 h3 h4 hob3 hr3
  rintro ρ w4 ⟨g2, g5, g6, g23, l, hP, h4⟩
  have hlv := h4.own.vw
  obtain ⟨xv, hxv⟩ : ∃ xv, xv = ρ 7 := ⟨_, rfl⟩
  rw [← hxv] at h4 hlv
  have hPl := hP.len
  by_cases hl0 : l = []
  · have hz : ((l.length : Int) == 0) = true := by simp [hl0]
    simp [← hxv, hlv.len, hz, g5]
    refine ⟨lay, hL.fin ?_, h4.kp, TabA.vw hps h4.drop⟩
    have := hP.ful
    rw [hl0] at this
    exact this
  have hlp := List.length_pos_iff.2 hl0
  have hz : ((l.length : Int) == 0) = false := by simp; omega
  have hll : l.length ≤ 300000 := by omega
  simp [← hxv, hlv.len, hz]
  refine range_loop (n := l.length) (by omega) (fun y ρ w' => ρ 2 = .pointer (some ⟨b, 0, none⟩) ∧ ρ 5 = tv ∧ ρ 6 = .int .i64 (k : Nat) ∧ ρ 84 = xv ∧ FxL T tv xv b k lay l y w w') (by simp) (by simp)
    ⟨by simp [g2], by simp [g5], by simp [g6], by simp, ps, by simpa [nmL, layN_nil] using hps, h4⟩ (by decide) (fun _ _ _ _ h => by simpa using h) (fun _ _ _ _ h => by simpa using h) ?_ ?_
  rotate_left
  · clear g2 g5 g6 g23 h4 hps
    rintro ρ w5 ⟨g2, g5, g6, g84, ps5, hps5, h5⟩
    rw [List.take_length] at hps5
    have hL2 := hL.next hP.snd hP.ful
    obtain ⟨q, hq⟩ : ∃ q, q ∈ l := List.exists_mem_of_ne_nil _ hl0
    obtain ⟨q1, q2⟩ := hP.rng q hq
    have hdec := ngs_next (k := k) hP.snd (f := numF T.vars q) (List.mem_map.2 ⟨q, hq, rfl⟩) (numF_lt q1 q2)
    obtain ⟨k1, hk1⟩ : ∃ k1, k1 = k + 1 := ⟨_, rfl⟩
    have ek : (k : Int) + 1 = (k1 : Int) := by omega
    rw [← hk1] at hL2
    simp (disch := omega) [g6, wrap_i64, ek]
    exact ⟨_, hdec, k1, _, rfl, by omega, hL2, by simp [g2], by simp [g5], by simp, ps5, hps5, h5.drop⟩
  clear g2 g5 g6 g23 h4 hps
  rintro y ρ w5 hy hcy hly ⟨g2, g5, g6, g84, ps5, hps5, h5⟩
  have hxv5 := h5.own.vw
  obtain ⟨g, hge⟩ : ∃ g, l[y]? = some g := ⟨_, List.getElem?_eq_getElem hy⟩
  obtain ⟨q1, q2⟩ := hP.rng g (List.mem_of_getElem? hge)
  have ecg := hxv5.cells fcE_len hge
  simp only [fcE] at ecg
  obtain ⟨gb, hgb⟩ : ∃ gb, gb = w5.heap.size := ⟨_, rfl⟩
  have hyi : (y : Int) < l.length := by omega
  have hLN : ∀ ps, Lcl (Star (OwnA xv 57 2 fcE l) (Star (TabA tv 22 3 iE ps) (Star (ObjA b (ntO T)) Emp))) := fun _ => Lcl.own.star (hLT _)
  simp (disch := omega) [g84, hcy, hly, hxv5.idx, ecg, ← hgb]
  refine st_fa (f := faN g) (hLN _) h5 hgb fun w6 h6 => ?_
  have hog := h6.obj
  simp only [faN, faO] at hog
  rw [hgb] at hog
  have h6 := h6.drop
  obtain ⟨p', hp', hp2'⟩ := tab_row hps5 q1
  have hTO := TabA.own h6.drop
  have hTR := TabA.row h6.drop hp'
  rw [hp2'] at hTR
  have ep : w6.cell? ⟨tv.blk, g.1, none⟩ = some p'.1.1 := by
    have := hTO.cell sv1_len hp' (o := 0) (by omega)
    simpa [sv1] using this
  have h1i : (g.1 : Int) < ps5.length := by have := (List.getElem?_eq_some_iff.1 hp').1; omega
  have h2i : (g.2 : Int) < (rwI T.vars (layN lay k (nmL T.vars (l.take y))) g.1).length := by rw [rwI_len]; omega
  have hkb : k ≤ 4096 := by omega
  simp (disch := omega) [g5, g6, cell_blk hog, hTO.idx, ep, hTR.idx, wrap_i64]
  have h7 := (h6.kp0 (hLN _) ((Kp.refl [] w6).drew)).by Imp.sw
  refine TabA.store (Lcl.own.star (Lcl.obj.star .emp)) h7 hp' iE_len iE_one (k := g.2) (x := (k : Int) + 1) (by rw [hp2', rwI_len]; exact q2) (by simp [iE]) fun w8 h8 => ?_
  simp [g2, g5, g6, g84, hcy, hly]
  refine ⟨_, ?_, h8.by Imp.sw⟩
  have e9 : nmL T.vars (l.take (y + 1)) = nmL T.vars (l.take y) ++ [psum T.vars g.1 + g.2] := by
    unfold nmL; rw [take_snoc hge, List.map_append]; rfl
  rw [List.map_set, hps5, hp2', tb_set q1 q2, layN_snoc, e9]
end Go.Proofs.Ytjpbkljnllkneaa
