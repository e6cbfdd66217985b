/-
  A part of the proof of this claim's statement (WhN, WhO): plain theorems; no conditions beyond those each names.
-/
import Derived.Test.YtolkjbmcindhjaaGreatPk24
section
set_option maxRecDepth 100000
set_option linter.unusedSimpArgs false
set_option linter.unusedVariables false
namespace Go.Proofs.YtolkjbmcindhjaaGreat
open Go Go.W Go.Tk Go.Rx Go.Maps
/-- A square table of truth values. -/
structure BT (n : Nat) (ps : List (Cell1 × List Bool)) : Prop where
  len : ps.length = n
  row : ∀ (i : Nat) (p : Cell1 × List Bool), ps[i]? = some p → p.2.length = n
theorem BT.set {n i : Nat} {ps : List (Cell1 × List Bool)} {c : Cell1} {l : List Bool} (h : BT n ps) (hl : l.length = n) : BT n (ps.set i (c, l)) := ⟨by simp [h.len], fun j p hp => by
  by_cases e : i = j
  · subst e
    by_cases hi : i < ps.length
    · rw [List.getElem?_set_self hi] at hp
      cases hp; exact hl
    · rw [List.set_eq_of_length_le (Nat.le_of_not_lt hi)] at hp
      exact h.row _ _ hp
  · rw [List.getElem?_set_ne e] at hp
    exact h.row j p hp⟩
def btP (n : Nat) (tv : Value) (B : Asr) (w : World) (w' : World) : Prop := ∃ ps, BT n ps ∧ At w [] (Star (TabA tv 96 4 bE ps) B) w'
/-- A truth value is written. -/
theorem btP.store {n i k : Nat} {tv : Value} {B : Asr} {w w1 : World} {ps : List (Cell1 × List Bool)} {p : Cell1 × List Bool} {x : Bool} {KW : Kont World} (hB : Lcl B) (hps : BT n ps) (h : At w [] (Star (TabA tv 96 4 bE ps) B) w1) (hi : ps[i]? = some p) (hk : k < n)
    (H : ∀ w2, btP n tv B w w2 → KW.run w2) : @stJ w1 ⟨p.1.1.blk, k, none⟩ [.bool x] KW := by
  have hpl := hps.row i p hi
  exact TabA.store hB h hi bE_len bE_one (k := k) (by omega) (x := x) rfl fun w2 h2 => H w2 ⟨_, hps.set (by simp [hpl]), h2⟩
theorem tab_cellB {w w1 : World} {F : List Nat} {B : Asr} {v : Value} {i : Nat} {ps : List (Cell1 × List Bool)} {p : Cell1 × List Bool} (h : At w F (Star (TabA v 96 4 bE ps) B) w1) (hi : ps[i]? = some p) : w1.cell? ⟨v.blk, i, none⟩ = some p.1.1 := by
  have := (TabA.own h).cell sv1_len hi (o := 0) (by omega)
  simpa [sv1] using this
def DpA (n tb : Nat) (T : Nt) (tv : Value) (w : World) (k : Nat) (ρ : Env) (w' : World) : Prop :=
  ρ 1 = .pointer (some ⟨tb, 0, none⟩) ∧ ρ 3 = tv ∧ ∃ ps : List (Cell1 × List Bool), ps.length = n ∧ (∀ (i : Nat) (p : Cell1 × List Bool), i < k → ps[i]? = some p → p.2.length = n) ∧ At w [] (Star (TabA tv 96 4 bE ps) (FrN T tb)) w'
def DpB (n tb : Nat) (T : Nt) (tv : Value) (w : World) (k : Nat) (ρ : Env) (w' : World) : Prop :=
  ρ 1 = .pointer (some ⟨tb, 0, none⟩) ∧ ρ 3 = tv ∧ ρ 34 = T.ov.1 ∧ btP n tv (FrN T tb) w w'
abbrev FrDO (T : Nt) (tb ob : Nat) (o : No) : Asr := Star (ObjA ob (noO o)) (FrN T tb)
theorem lcl_do {T : Nt} {tb ob : Nat} {o : No} : Lcl (FrDO T tb ob o) := Lcl.obj.star lcl_n
def DpC (n tb ob : Nat) (T : Nt) (o : No) (tv : Value) (k m : Nat) (w : World) (j : Nat) (ρ : Env) (w' : World) : Prop :=
  ρ 1 = .pointer (some ⟨tb, 0, none⟩) ∧ ρ 3 = tv ∧ ρ 34 = T.ov.1 ∧ ρ 36 = .int .i64 (k : Nat) ∧ ρ 35 = .int .i64 (m : Nat) ∧ ρ 6 = .pointer (some ⟨ob, 0, none⟩) ∧ ρ 41 = o.ev.1 ∧ btP n tv (FrDO T tb ob o) w w'
abbrev FrDE (T : Nt) (tb ob eb : Nat) (o : No) (e : Nf) : Asr := Star (ObjA eb (efO e.raw)) (FrDO T tb ob o)
theorem lcl_de {T : Nt} {tb ob eb : Nat} {o : No} {e : Nf} : Lcl (FrDE T tb ob eb o e) := Lcl.obj.star lcl_do
def DpX (n tb ob eb : Nat) (T : Nt) (o : No) (e : Nf) (tv : Value) (k m j l : Nat) (B : Asr) (w : World) (ρ : Env) (w' : World) : Prop :=
  ρ 1 = .pointer (some ⟨tb, 0, none⟩) ∧ ρ 3 = tv ∧ ρ 34 = T.ov.1 ∧ ρ 36 = .int .i64 (k : Nat) ∧ ρ 35 = .int .i64 (m : Nat) ∧ ρ 6 = .pointer (some ⟨ob, 0, none⟩) ∧ ρ 41 = o.ev.1 ∧ ρ 43 = .int .i64 (j : Nat) ∧ ρ 42 = .int .i64 (l : Nat) ∧ ρ 8 = .pointer (some ⟨eb, 0, none⟩) ∧ btP n tv B w w'
set_option maxHeartbeats 4000000 in
theorem depends_spec {w : World} (T : Nt) (hr : NtR w T) (hg : NtG T) :
    Calls Tryz.prog 108 [ntV T].toArray w fun e w' => ∃ u, e = .returned u ∧ btP T.vars.length u Emp w w' := by
  refine enter Tryz.func108 mixed low108 (Nat.le_of_ble_eq_true rfl) ?_
  simp only [L108]
  have hvl := hg.vlen
  have hol := hg.olen
  obtain ⟨tb, htb⟩ : ∃ tb, tb = w.heap.size := ⟨_, rfl⟩
  have h1 : At w [] (FrN T tb) (w.alloc (ntO T)) := by rw [htb]; exact (At.start rfl).alloc _ .emp
  obtain ⟨w1, hw1⟩ : ∃ w1, w1 = w.alloc (ntO T) := ⟨_, rfl⟩
  rw [← hw1] at h1
  have hw1' : w.alloc (.cells #[T.vv.1, T.nv.1, T.gv.1, T.ov.1] 26 (0, 0)) = w1 := by rw [hw1]; rfl
  have ob1 := h1.obj
  unfold ntO at ob1
  have hr1 := hr.kp h1.kp
  obtain ⟨n, hn⟩ : ∃ n, n = T.vars.length := ⟨_, rfl⟩
  have hvlen : ∀ {w' : World} {K : Kont Value}, NtR w' T → @lenH Tryz.prog 22 T.vv.1 K = @gdH (isSl Tryz.prog 22 = true) ⟨fun _ => K.run (.int .i64 n)⟩ := fun h => by rw [hn]; exact h.vars.len
  simp (disch := omega) [ntV, ← htb, hw1', cell_blk ob1, hvlen hr1]
  refine gd_mk (by omega) ?_
  have h2 := h1.made (E := 96) (enc := (sv1 : Cell1 × List Bool → List Value)) (x := (⟨nlV, rfl⟩, [])) (z := [nlV]) (n := n) lcl_n rfl sv1_len (by unfold maxLen; omega)
  have h2 := ((At.rows_nil (E := 4) (sz := 1) (enc := bE) (Lcl.own.star lcl_n) h2 rfl n).by (RowsA.up _)).by TabA.cls
  obtain ⟨tv, htv⟩ : ∃ tv, tv = Value.slice (some ⟨w1.heap.size, 0, none⟩) n n := ⟨_, rfl⟩
  obtain ⟨w2, hw2⟩ : ∃ w2, w2 = w1.alloc (.cells (rowOf [nlV] n).toArray 96) := ⟨_, rfl⟩
  rw [← htv, ← hw2] at h2
  have hlen : ∀ {w' : World} {ps : List (Cell1 × List Bool)} {B : Asr} {K : Kont Value}, ps.length = n → At w [] (Star (TabA tv 96 4 bE ps) B) w' → @lenH Tryz.prog 95 tv K = @gdH (isSl Tryz.prog 95 = true) ⟨fun _ => K.run (.int .i64 n)⟩ := fun h h' => by
    rw [← h]
    exact (TabA.own h').len
  simp (disch := omega) [← htv, ← hw2, hlen (by simp) h2]
  refine range_loop (n := n) (by omega) (DpA n tb T tv w) (by simp) (by simp)
    ⟨by simp, by simp, _, by simp, fun i p hi => by omega, h2⟩ (by decide) (fun _ _ _ _ h => by simpa [DpA] using h) (fun _ _ _ _ h => by simpa [DpA] using h) ?_ ?_
  · clear h1 h2 ob1 hr1 hw1 hw1' hw2 htv htb
    rintro k ρ w3 hk hc hlm ⟨g1, g3, ps, hpl, hps, h3⟩
    have ob3 := h3.drop.obj
    unfold ntO at ob3
    have hr3 := hr.kp h3.kp
    have hki : (k : Int) < n := by omega
    obtain ⟨pr, hpr⟩ : ∃ pr, ps[k]? = some pr := ⟨_, List.getElem?_eq_getElem (by omega)⟩
    simp (disch := omega) [g1, g3, hc, hlm, cell_blk ob3, hvlen hr3]
    refine gd_mk (by omega) ?_
    have h4 := h3.made (E := 4) (enc := bE) (x := false) (z := [.bool false]) (n := n) (Lcl.tab.star lcl_n) rfl bE_len (by unfold maxLen; omega)
    have hTO := TabA.own h4.drop
    have hkp : (k : Int) < ps.length := by omega
    simp (disch := omega) [g3, hc, hTO.idx]
    refine tab_set lcl_n h4 hpr rfl fun ho w5 h5 => ?_
    simp [hc, hlm]
    refine ⟨by simp [g1], by simp [g3], _, by simp [hpl], fun i p hi hp => ?_, h5⟩
    by_cases e : k = i
    · subst e
      rw [List.getElem?_set_self (by omega)] at hp
      cases hp; simp
    · rw [List.getElem?_set_ne e] at hp
      exact hps i p (by omega) hp
  clear h1 h2 ob1 hr1 hw1 hw1' hw2 htv htb
  rintro ρ w3 ⟨g1, g3, ps, hpl, hps, h3⟩
  have hbt : BT n ps := ⟨hpl, fun i p hp => hps i p (by have := (List.getElem?_eq_some_iff.1 hp).1; omega) hp⟩
  have ob3 := h3.drop.obj
  unfold ntO at ob3
  have hr3 := hr.kp h3.kp
  simp only [thenK_nrm]
  refine seq_cut (fun ρ w' => ρ 3 = tv ∧ btP n tv (FrN T tb) w w') ?_ ?_
  rotate_left
  · clear h3 hr3 ob3 g1 g3
    rintro ρ w4 ⟨g3, ps, hps, h4⟩
    simp (disch := omega) [g3, hlen hps.len h4]
    refine range_loop (n := n) (by omega) (fun k ρ w' => ρ 3 = tv ∧ btP n tv (FrN T tb) w w') (by simp) (by simp)
      ⟨by simp [g3], ps, hps, h4⟩ (by decide) (fun _ _ _ _ h => by simpa using h) (fun _ _ _ _ h => by simpa using h) ?_ ?_
    rotate_left
    · rintro ρ w5 ⟨g3, ps, hps, h5⟩
      simp [g3]
      exact ⟨ps, by rw [← hn]; exact hps, h5.by (Imp.un Imp.dr)⟩
    rintro k ρ w5 hk hc hlm ⟨g3, ps, hps, h5⟩
    obtain ⟨pr, hpr⟩ : ∃ pr, ps[k]? = some pr := ⟨_, List.getElem?_eq_getElem (by rw [hps.len]; exact hk)⟩
    have hki : (k : Int) < n := by omega
    have hkp : (k : Int) < ps.length := by rw [hps.len]; omega
    have hrl : (k : Int) < pr.2.length := by rw [hps.row k pr hpr]; omega
    have hTO := TabA.own h5
    have hR := TabA.row h5 hpr
    simp (disch := omega) [g3, hc, hlm, hTO.idx, tab_cellB h5 hpr, hR.idx]
    refine btP.store lcl_n hps h5 hpr hk fun w6 h6 => ?_
    simp [hc, hlm]
    exact ⟨by simp [g3], h6⟩
  simp (disch := omega) [g1, cell_blk ob3, hr3.ops.len]
  refine range_loop (n := T.ops.length) (by omega) (DpB n tb T tv w) (by simp) (by simp)
    ⟨by simp [g1], by simp [g3], by simp, ps, hbt, h3⟩ (by decide) (fun _ _ _ _ h => by simpa [DpB] using h) (fun _ _ _ _ h => by simpa [DpB] using h) ?_ ?_
  rotate_left
  · rintro ρ w4 ⟨g1, g3, g34, h4⟩
    simp
    exact ⟨g3, h4⟩
  clear h3 hr3 ob3 g1 g3 hbt hpl hps
  rintro k ρ w4 hk hc hlm ⟨g1, g3, g34, ps, hps, h4⟩
  obtain ⟨o, ho⟩ : ∃ o, T.ops[k]? = some o := ⟨_, List.getElem?_eq_getElem hk⟩
  have hom := List.mem_of_getElem? ho
  have hgo := hg.ops o hom
  have helen := hgo.elen
  have hr4 := hr.kp h4.kp
  have eco := hr4.ops.cells noE_len ho
  simp only [noE] at eco
  obtain ⟨ob, hob⟩ : ∃ ob, ob = w4.heap.size := ⟨_, rfl⟩
  have hki : (k : Int) < T.ops.length := by omega
  simp (disch := omega) [g34, hc, hlm, hr4.ops.idx, eco, ← hob]
  refine st_oq (o := o.raw) (Lcl.tab.star lcl_n) h4 hob fun w5 h5 => ?_
  have oo5 := h5.obj
  unfold oqO No.raw at oo5
  rw [hob] at oo5
  have hro5 := (hr.kp h5.kp).op o hom
  simp (disch := omega) [cell_blk oo5, hro5.effs.len]
  refine range_loop (n := o.effs.length) (by omega) (DpC n tb ob T o tv k T.ops.length w) (by simp) (by simp)
    ⟨by simp [g1], by simp [g3], by simp [g34], by simp [hc], by simp [hlm], by simp [← hob], by simp, ps, hps, h5.by Imp.sw⟩ (by decide) (fun _ _ _ _ h => by simpa [DpC] using h) (fun _ _ _ _ h => by simpa [DpC] using h) ?_ ?_
  rotate_left
  · clear h4 h5 oo5 hro5 hr4 eco g1 g3 g34 hc hlm
    rintro ρ w6 ⟨g1, g3, g34, g36, g35, g6, g41, ps, hps, h6⟩
    simp [g36, g35]
    exact ⟨by simp [g1], by simp [g3], by simp [g34], ps, hps, h6.by (Imp.un Imp.dr)⟩
  clear h4 h5 oo5 hro5 hr4 eco g1 g3 g34 hc hlm hps ps
  rintro j ρ w6 hj hcj hlj ⟨g1, g3, g34, g36, g35, g6, g41, ps, hps, h6⟩
  obtain ⟨e, he⟩ : ∃ e, o.effs[j]? = some e := ⟨_, List.getElem?_eq_getElem hj⟩
  have hem := List.mem_of_getElem? he
  obtain ⟨hev, hex⟩ := hgo.eff e hem
  have hgc := hgo.cnd e hem
  have hcl := hgc.len
  have hpl := hgo.pre.len
  have hro6 := (hr.kp h6.kp).op o hom
  have ece := hro6.effs.cells nfE_len he
  simp only [nfE] at ece
  obtain ⟨eb, heb⟩ : ∃ eb, eb = w6.heap.size := ⟨_, rfl⟩
  have hji : (j : Int) < o.effs.length := by omega
  simp (disch := omega) [g41, hcj, hlj, hro6.effs.idx, ece, ← heb]
  refine st_ef (e := e.raw) (Lcl.tab.star lcl_do) h6 heb fun w7 h7 => ?_
  have h7 := h7.by Imp.sw
  have oe7 := h7.drop.obj
  unfold efO Nf.raw at oe7
  have oo7 := h7.drop.drop.obj
  unfold noO oqO No.raw at oo7
  have oo7' := oo7
  have hcp : o.pv.1.cells = #[o.pv.1] := ((hr.kp h7.kp).op o hom).pre.c1
  have hce : e.wv.1.cells = #[e.wv.1] := (((hr.kp h7.kp).op o hom).cnd e hem).c1
  have oe7' := oe7
  rw [heb] at oe7'
  have hr2 : rowOf [Value.slice none 0 0] 2 = [.slice none 0 0, .slice none 0 0] := rfl
  simp (disch := omega) [g6, cell_blk oe7', cell_blk oo7, hcp, hce, hr2]
  obtain ⟨xs, hxs⟩ : ∃ xs : List (Cell1 × List Fc), xs = [(o.pv, o.pre), (e.wv, e.cnd)] := ⟨_, rfl⟩
  have hLE : ∀ ps, Lcl (Star (TabA tv 96 4 bE ps) (FrDE T tb ob eb o e)) := fun _ => Lcl.tab.star lcl_de
  have h8 := h7.lit (xs := xs) (enc := (sv1 : Cell1 × List Fc → List Value)) (E := 23) (sz := 1) (cs := #[o.pv.1, e.wv.1]) (m := 2) (hLE ps) (by rw [hxs]; rfl) sv1_len (by rw [hxs]; simp [maxLen]) (by rw [hxs]; rfl)
  obtain ⟨w8, hw8⟩ : ∃ w8, w8 = w7.alloc (.cells #[o.pv.1, e.wv.1] 23) := ⟨_, rfl⟩
  obtain ⟨xv, hxv⟩ : ∃ xv, xv = Value.slice (some ⟨w7.heap.size, 0, none⟩) 2 2 := ⟨_, rfl⟩
  rw [← hw8, ← hxv] at h8
  rw [← hw8, ← hxv]
  have h9 := h8.by Imp.sw
  have hLX : Lcl (Star (OwnA xv 23 1 sv1 xs) (FrDE T tb ob eb o e)) := Lcl.own.star lcl_de
  have hxm : ∀ x ∈ xs, FcOk T.vars x.2 ∧ Vw w x.1.1 fcE x.2 := fun x hx => by
    rw [hxs] at hx
    simp at hx
    rcases hx with rfl | rfl
    · exact ⟨hgo.pre, (hr.op o hom).pre⟩
    · exact ⟨hgc, (hr.op o hom).cnd e hem⟩
  refine range_loop (n := 2) (by omega) (fun i ρ w' => ρ 51 = xv ∧ DpX n tb ob eb T o e tv k T.ops.length j o.effs.length (Star (OwnA xv 23 1 sv1 xs) (FrDE T tb ob eb o e)) w ρ w') (by simp) (by simp)
    ⟨by simp, by simp [g1], by simp [g3], by simp [g34], by simp [g36], by simp [g35], by simp [g6], by simp [g41], by simp [hcj], by simp [hlj], by simp [← heb], ps, hps, h9⟩ (by decide) (fun _ _ _ _ h => by simpa [DpX] using h) (fun _ _ _ _ h => by simpa [DpX] using h) ?_ ?_
  · clear h6 h7 h8 h9 oe7 oe7' oo7 oo7' hcp hce hro6 ece g1 g3 g34 g36 g35 g6 g41 hcj hlj hw8 hxv heb hps
    rintro i ρ w9 hi hci hli ⟨g51, g1, g3, g34, g36, g35, g6, g41, g43, g42, g8, ps, hps, h9⟩
    obtain ⟨x, hx⟩ : ∃ x, xs[i]? = some x := ⟨_, List.getElem?_eq_getElem (by rw [hxs]; exact hi)⟩
    obtain ⟨hx1, hx2⟩ := hxm x (List.mem_of_getElem? hx)
    have hxl := hx1.len
    have hO := h9.drop.own
    have hxl2 : xs.length = 2 := by rw [hxs]; rfl
    have hcx : w9.cell? ⟨xv.blk, i, none⟩ = some x.1.1 := by
      have := hO.cell sv1_len hx (o := 0) (by omega)
      simpa [sv1] using this
    have hii : (i : Int) < xs.length := by rw [hxl2]; omega
    have hi2 : (i : Int) < 2 := by omega
    simp (disch := omega) [g51, hci, hli, hO.idx, hcx, (hx2.kp0 h9.kp).len, hi2]
    refine range_loop (n := x.2.length) (by omega) (fun z ρ w' => (ρ 51 = xv ∧ ρ 53 = .int .i64 (i : Nat) ∧ ρ 52 = .int .i64 2 ∧ ρ 57 = x.1.1) ∧ DpX n tb ob eb T o e tv k T.ops.length j o.effs.length (Star (OwnA xv 23 1 sv1 xs) (FrDE T tb ob eb o e)) w ρ w') (by simp) (by simp)
      ⟨by simp [g51, hci, hli], by simp [g1], by simp [g3], by simp [g34], by simp [g36], by simp [g35], by simp [g6], by simp [g41], by simp [g43], by simp [g42], by simp [g8], ps, hps, h9⟩ (by decide) (fun _ _ _ _ h => by simpa [DpX] using h) (fun _ _ _ _ h => by simpa [DpX] using h) ?_ ?_
    rotate_left
    · rintro ρ wA ⟨⟨g51, g53, g52, g57⟩, g1, g3, g34, g36, g35, g6, g41, g43, g42, g8, hA⟩
      simp [g53, g52]
      exact ⟨by simp [g51], by simp [g1], by simp [g3], by simp [g34], by simp [g36], by simp [g35], by simp [g6], by simp [g41], by simp [g43], by simp [g42], by simp [g8], hA⟩
    clear h9 hO hcx g51 g1 g3 g34 g36 g35 g6 g41 g43 g42 g8 hps
    rintro z ρ wA hz hcz hlz ⟨⟨g51, g53, g52, g57⟩, g1, g3, g34, g36, g35, g6, g41, g43, g42, g8, ps, hps, hA⟩
    obtain ⟨f, hf⟩ : ∃ f, x.2[z]? = some f := ⟨_, List.getElem?_eq_getElem hz⟩
    obtain ⟨hf1, hf2⟩ := hx1.rng f (List.mem_of_getElem? hf)
    have hvA := hx2.kp0 hA.kp
    have ecf := hvA.cells fcE_len hf
    simp only [fcE] at ecf
    obtain ⟨fb, hfb⟩ : ∃ fb, fb = wA.heap.size := ⟨_, rfl⟩
    have hzi : (z : Int) < x.2.length := by omega
    simp (disch := omega) [g57, hcz, hlz, hvA.idx, ecf, ← hfb]
    refine st_fa (f := faN f) (Lcl.tab.star hLX) hA hfb fun wB hB => ?_
    have ofB := hB.obj
    simp only [faN, faO] at ofB
    rw [hfb] at ofB
    have oeB := hB.drop.drop.drop.obj
    unfold efO Nf.raw at oeB
    have hB2 := (hB.by Imp.sw).drew (Lcl.tab.star (Lcl.obj.star hLX))
    obtain ⟨pr, hpr⟩ : ∃ pr, ps[e.v]? = some pr := ⟨_, List.getElem?_eq_getElem (by rw [hps.len, hn]; exact hev)⟩
    have hTO := TabA.own hB2
    have hRo := TabA.row hB2 hpr
    have hki2 : (e.v : Int) < ps.length := by rw [hps.len]; omega
    have hrl : (f.1 : Int) < pr.2.length := by rw [hps.row _ pr hpr]; omega
    simp (disch := omega) [g3, g8, cell_blk oeB, cell_blk ofB, hTO.idx, tab_cellB hB2 hpr, hRo.idx]
    refine btP.store (Lcl.obj.star hLX) hps hB2 hpr (k := f.1) (by omega) fun wC hC => ?_
    obtain ⟨ps2, hps2, hC⟩ := hC
    simp [hcz, hlz]
    exact ⟨by simp [g51, g53, g52, g57], by simp [g1], by simp [g3], by simp [g34], by simp [g36], by simp [g35], by simp [g6], by simp [g41], by simp [g43], by simp [g42], by simp [g8], ps2, hps2, hC.by (Imp.un Imp.dr)⟩
  clear h6 h7 h8 h9 oe7 oe7' oo7 oo7' hcp hce hro6 ece g1 g3 g34 g36 g35 g6 g41 hcj hlj hw8 hxv heb hps
  rintro ρ w9 ⟨g51, g1, g3, g34, g36, g35, g6, g41, g43, g42, g8, ps, hps, h9⟩
  have oo9 := h9.drop.drop.drop.obj
  unfold noO oqO No.raw at oo9
  have hro9 := (hr.kp h9.kp).op o hom
  simp (disch := omega) [g6, cell_blk oo9, hro9.effs.len]
  refine range_loop (n := o.effs.length) (by omega) (fun z ρ w' => ρ 74 = o.ev.1 ∧ DpX n tb ob eb T o e tv k T.ops.length j o.effs.length (FrDE T tb ob eb o e) w ρ w') (by simp) (by simp)
    ⟨by simp, by simp [g1], by simp [g3], by simp [g34], by simp [g36], by simp [g35], by simp [g6], by simp [g41], by simp [g43], by simp [g42], by simp [g8], ps, hps, h9.by (Imp.un Imp.dr)⟩ (by decide) (fun _ _ _ _ h => by simpa [DpX] using h) (fun _ _ _ _ h => by simpa [DpX] using h) ?_ ?_
  rotate_left
  · rintro ρ wA ⟨g74, g1, g3, g34, g36, g35, g6, g41, g43, g42, g8, ps, hps, hA⟩
    simp [g43, g42]
    exact ⟨by simp [g1], by simp [g3], by simp [g34], by simp [g36], by simp [g35], by simp [g6], by simp [g41], ps, hps, hA.by (Imp.un Imp.dr)⟩
  clear h9 oo9 hro9 g51 g1 g3 g34 g36 g35 g6 g41 g43 g42 g8 hps
  rintro z ρ wA hz hcz hlz ⟨g74, g1, g3, g34, g36, g35, g6, g41, g43, g42, g8, ps, hps, hA⟩
  obtain ⟨e2, he2⟩ : ∃ e2, o.effs[z]? = some e2 := ⟨_, List.getElem?_eq_getElem hz⟩
  have hem2 := List.mem_of_getElem? he2
  obtain ⟨hev2, hex2⟩ := hgo.eff e2 hem2
  have hroA := (hr.kp hA.kp).op o hom
  have ece2 := hroA.effs.cells nfE_len he2
  simp only [nfE] at ece2
  obtain ⟨eb2, heb2⟩ : ∃ eb2, eb2 = wA.heap.size := ⟨_, rfl⟩
  have hzi : (z : Int) < o.effs.length := by omega
  simp (disch := omega) [g74, hcz, hlz, hroA.effs.idx, ece2, ← heb2]
  refine st_ef (e := e2.raw) (Lcl.tab.star lcl_de) hA heb2 fun wB hB => ?_
  have oe2B := hB.obj
  unfold efO Nf.raw at oe2B
  rw [heb2] at oe2B
  have oeB := hB.drop.drop.obj
  unfold efO Nf.raw at oeB
  have hB2 := (hB.by Imp.sw).drew (Lcl.tab.star (Lcl.obj.star lcl_de))
  obtain ⟨pr, hpr⟩ : ∃ pr, ps[e.v]? = some pr := ⟨_, List.getElem?_eq_getElem (by rw [hps.len, hn]; exact hev)⟩
  have hTO := TabA.own hB2
  have hRo := TabA.row hB2 hpr
  have hki2 : (e.v : Int) < ps.length := by rw [hps.len]; omega
  have hrl : (e2.v : Int) < pr.2.length := by rw [hps.row _ pr hpr]; omega
  simp (disch := omega) [g3, g8, cell_blk oeB, cell_blk oe2B, hTO.idx, tab_cellB hB2 hpr, hRo.idx]
  refine btP.store (Lcl.obj.star lcl_de) hps hB2 hpr (k := e2.v) (by omega) fun wC hC => ?_
  obtain ⟨ps2, hps2, hC⟩ := hC
  simp [hcz, hlz]
  exact ⟨by simp [g74], by simp [g1], by simp [g3], by simp [g34], by simp [g36], by simp [g35], by simp [g6], by simp [g41], by simp [g43], by simp [g42], by simp [g8], ps2, hps2, hC.by (Imp.un Imp.dr)⟩
end Go.Proofs.YtolkjbmcindhjaaGreat
end
section
set_option maxRecDepth 100000
set_option linter.unusedSimpArgs false
set_option linter.unusedVariables false
namespace Go.Proofs.YtolkjbmcindhjaaGreat
open Go Go.W Go.Tk Go.Rx Go.Maps
def a9E (a : Nat × Nat) : List Value := [.int .i64 (a.1 : Nat), .int .i64 (a.2 : Nat), .int .i64 1]
theorem a9E_len (a : Nat × Nat) : (a9E a).length = 3 := rfl
theorem a9E_one (a : Nat × Nat) : (a9E a).all oneC = true := rfl
theorem a9_append {w w1 : World} {F : List Nat} {B : Asr} {ov : Value} {l : List (Nat × Nat)} {x : Nat × Nat} {KV : Kont (Value × World)} (hB : Lcl B) (h : At w F (Star (OwnA ov 98 3 a9E l) B) w1) (hl : l.length ≤ 1000000)
    (H : ∀ v' w2, At w F (Star (OwnA v' 98 3 a9E (l ++ [x])) B) w2 → KV.run (v', w2)) :
    @efH Tryz.prog (Builtin.append_ #[92, 92] 92 [ov, .slice (some ⟨w1.heap.size, 0, none⟩) 1 1].toArray) (w1.alloc (.cells #[.int .i64 (x.1 : Nat), .int .i64 (x.2 : Nat), .int .i64 1] 98)) KV := by
  have h4 := h.kp0 (Lcl.own.star hB) ((Kp.refl [] w1).alloc (.cells #[.int .i64 (x.1 : Nat), .int .i64 (x.2 : Nat), .int .i64 1] 98))
  refine At.append (xs := [x]) hB h4 a9E_len a9E_one sl_92 rfl (fun j u hj => ?_) (by omega) (by unfold maxLen; omega) fun v' w5 h5 => H v' w5 h5
  rw [add_none, cell_blk alloc_new]
  simpa [a9E] using hj
/-- Arcs between n variables. -/
structure AcP (n m : Nat) (l : List (Nat × Nat)) : Prop where
  rng : ∀ a ∈ l, a.1 < n ∧ a.2 < n
  len : l.length ≤ m
def AcA (n tb : Nat) (T : Nt) (tv : Value) (ps : List (Cell1 × List Bool)) (w : World) (u : Nat) (ρ : Env) (w' : World) : Prop :=
  ρ 1 = .pointer (some ⟨tb, 0, none⟩) ∧ ρ 5 = tv ∧ ∃ l, AcP n (u * 64) l ∧ At w [] (Star (OwnA (ρ 6) 98 3 a9E l) (Star (TabA tv 96 4 bE ps) (FrN T tb))) w'
def AcB (n tb u : Nat) (T : Nt) (tv : Value) (ps : List (Cell1 × List Bool)) (w : World) (v : Nat) (ρ : Env) (w' : World) : Prop :=
  ρ 1 = .pointer (some ⟨tb, 0, none⟩) ∧ ρ 5 = tv ∧ ρ 7 = .int .i64 (u : Nat) ∧ ρ 19 = .int .i64 (u : Nat) ∧ ρ 18 = .int .i64 (n : Nat) ∧ ∃ l, AcP n (u * 64 + v) l ∧ At w [] (Star (OwnA (ρ 6) 98 3 a9E l) (Star (TabA tv 96 4 bE ps) (FrN T tb))) w'
set_option maxHeartbeats 2000000 in
theorem arcs39_spec {w : World} (T : Nt) (hs : SmT T) (hr : NtR w T) :
    Calls Tryz.prog 46 [ntV T].toArray w fun e w' => ∃ x, e = .returned x ∧ ∃ u l, x = .tuple #[u, .nilIface] ∧ AcP T.vars.length 4096 l ∧ At w [] (Star (OwnA u 98 3 a9E l) Emp) w' := by
  refine enter Tryz.func46 mixed low46 (Nat.le_of_ble_eq_true rfl) ?_
  simp only [L46]
  have hg := hs.g
  have hvl := hs.vl
  obtain ⟨tb, htb⟩ : ∃ tb, tb = w.heap.size := ⟨_, rfl⟩
  have h1 : At w [] (FrN T tb) (w.alloc (ntO T)) := by rw [htb]; exact (At.start rfl).alloc _ .emp
  obtain ⟨w1, hw1⟩ : ∃ w1, w1 = w.alloc (ntO T) := ⟨_, rfl⟩
  rw [← hw1] at h1
  have hw1' : w.alloc (.cells #[T.vv.1, T.nv.1, T.gv.1, T.ov.1] 26 (0, 0)) = w1 := by rw [hw1]; rfl
  simp [ntV, ← htb, hw1', rd_nt h1.obj]
  refine cl_of (tcheck_spec T.raw (NtR.raw.2 (hr.kp h1.kp)) (hs.g.lens hs.nm)) ?_
  rintro _ w2 ⟨rfl, k2⟩
  rw [(chk_good T.raw).2 hs.good]
  have h2 := h1.kp0 lcl_n k2
  simp [chkV, rd_nt h2.obj]
  refine cl_of (depends_spec T (hr.kp h2.kp) hg) ?_
  rintro tv w3 ⟨ps, hps, h3⟩
  have h4 := At.join lcl_n h2 h3
  obtain ⟨n, hn⟩ : ∃ n, n = T.vars.length := ⟨_, rfl⟩
  rw [← hn] at hps ⊢
  have hvlen : ∀ {w' : World} {K : Kont Value}, NtR w' T → @lenH Tryz.prog 22 T.vv.1 K = @gdH (isSl Tryz.prog 22 = true) ⟨fun _ => K.run (.int .i64 n)⟩ := fun h => by rw [hn]; exact h.vars.len
  have ob4 := h4.drop.obj
  unfold ntO at ob4
  have hL4 : Lcl (Star (TabA tv 96 4 bE ps) (FrN T tb)) := Lcl.tab.star lcl_n
  have h5 := At.nil (E := 98) (sz := 3) (enc := a9E) hL4 h4
  simp (disch := omega) [cell_blk ob4, hvlen (hr.kp h4.kp)]
  refine range_loop (n := n) (by omega) (AcA n tb T tv ps w) (by simp) (by simp)
    ⟨by simp, by simp, [], ⟨by simp, by simp⟩, by simpa using h5⟩ (by decide) (fun _ _ _ _ h => by simpa [AcA] using h) (fun _ _ _ _ h => by simpa [AcA] using h) ?_ ?_
  rotate_left
  · rintro ρ w6 ⟨g1, g5, l, hl, h6⟩
    simp
    exact ⟨l, ⟨hl.rng, by have := hl.len; omega⟩, h6.by (Imp.un (Imp.dr.trans Imp.dr))⟩
  clear h1 h2 h3 h4 h5 ob4 k2 hw1 hw1' htb
  rintro u ρ w6 hu hc hlm ⟨g1, g5, l, hl, h6⟩
  have ob6 := h6.drop.drop.obj
  unfold ntO at ob6
  have hui : (u : Int) < n := by omega
  simp (disch := omega) [g1, hc, hlm, cell_blk ob6, hvlen (hr.kp h6.kp)]
  refine range_loop (n := n) (by omega) (AcB n tb u T tv ps w) (by simp) (by simp)
    ⟨by simp [g1], by simp [g5], by simp, by simp [hc], by simp [hlm], l, ⟨hl.rng, hl.len⟩, by simpa using h6⟩ (by decide) (fun _ _ _ _ h => by simpa [AcB] using h) (fun _ _ _ _ h => by simpa [AcB] using h) ?_ ?_
  rotate_left
  · rintro ρ w7 ⟨g1, g5, g7, g19, g18, l, hl, h7⟩
    simp [g19, g18]
    exact ⟨by simp [g1], by simp [g5], l, ⟨hl.rng, by have := hl.len; omega⟩, by simpa using h7⟩
  clear h6 ob6 g1 g5 hl hc hlm l
  rintro v ρ w7 hv hcv hlv ⟨g1, g5, g7, g19, g18, l, hl, h7⟩
  obtain ⟨pr, hpr⟩ : ∃ pr, ps[v]? = some pr := ⟨_, List.getElem?_eq_getElem (by rw [hps.len]; exact hv)⟩
  have hvi : (v : Int) < n := by omega
  have hvp : (v : Int) < ps.length := by rw [hps.len]; omega
  have hrl : (u : Int) < pr.2.length := by rw [hps.row _ pr hpr]; omega
  obtain ⟨y, hy⟩ : ∃ y, pr.2[u]? = some y := ⟨_, List.getElem?_eq_getElem (by rw [hps.row _ pr hpr]; exact hu)⟩
  have h7t := h7.drop
  have hTO := TabA.own h7t
  have hRo := TabA.row h7t hpr
  have hcy : w7.cell? ⟨pr.1.1.blk, u, none⟩ = some (.bool y) := by
    have := hRo.cell bE_len hy (o := 0) (by omega)
    simpa [bE] using this
  have hll := hl.len
  cases y with
  | false =>
    simp (disch := omega) [g5, g7, hcv, hlv, hTO.idx, tab_cellB h7t hpr, hRo.idx, hcy]
    exact ⟨by simp [g1], by simp [g5], by simp [g7], by simp [g19], by simp [g18], l, ⟨hl.rng, by omega⟩, by simpa using h7⟩
  | true =>
    simp (disch := omega) [g5, g7, hcv, hlv, hTO.idx, tab_cellB h7t hpr, hRo.idx, hcy]
    refine a9_append (x := (u, v)) hL4 h7 (by omega) fun v' w8 h8 => ?_
    simp [hcv, hlv]
    refine ⟨by simp [g1], by simp [g5], by simp [g7], by simp [g19], by simp [g18], l ++ [(u, v)], ⟨fun a ha => ?_, by simp; omega⟩, by simpa using h8⟩
    rcases List.mem_append.1 ha with h | h
    · exact hl.rng a h
    · simp at h; subst h; exact ⟨hu, hv⟩
end Go.Proofs.YtolkjbmcindhjaaGreat
end
