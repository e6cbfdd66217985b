/-
  A part of the proof of this claim's statement (WhD, RxYM, WhE): plain theorems; no conditions beyond those each names.
-/
import Derived.Test.YtolkjbmcindhjaaGreatPk18
import Derived.Test.YtolkjbmcindhjaaGreatPk14
section
set_option maxRecDepth 100000
set_option linter.unusedSimpArgs false
set_option linter.unusedVariables false
namespace Go.Proofs.YtolkjbmcindhjaaGreat
open Go Go.W Go.Tk Go.Rx Go.Maps
theorem rd_nt {w : World} {b : Nat} {T : Nt} (h : w.heap[b]? = some (ntO T)) : cellsAt w ⟨b, 0, none⟩ 0 4 = some [T.vv.1, T.nv.1, T.gv.1, T.ov.1] := by
  unfold ntO at h
  simp [cellsAt, Addr.add, cell_blk h]
/-- What an operator's targets are. -/
structure TgO (T : Nt) (o : No) (p : List Nat) (f : Nat) (ys : List Nat) : Prop where
  rng : ∀ y ∈ ys, y < szS T.vars p
  hit : ∀ x, Cx T o p f x → nbS T.vars (apS o x) p ∈ ys
/-- The frame: the task and the operator. -/
abbrev FrTO (T : Nt) (o : No) (b ob : Nat) : Asr := Star (ObjA ob (noO o)) (Star (ObjA b (ntO T)) Emp)
def TgA (T : Nt) (o : No) (pv fv sv : Value) (p : List Nat) (f b ob : Nat) (w : World) (k : Nat) (ρ : Env) (w' : World) : Prop :=
  ρ 2 = pv ∧ ρ 3 = fv ∧ ρ 5 = .pointer (some ⟨b, 0, none⟩) ∧ ρ 11 = .pointer (some ⟨ob, 0, none⟩) ∧ ρ 12 = sv ∧ ρ 37 = o.pv.1 ∧ ∃ s, SI T o p f (fun u => u ∈ p ∨ hasB (o.pre.take k) u = true) s ∧ At w [] (Star (OwnA sv 3 1 nE s) (FrTO T o b ob)) w'
def TgB (T : Nt) (o : No) (pv fv sv : Value) (p l : List Nat) (f b ob : Nat) (w : World) (k : Nat) (ρ : Env) (w' : World) : Prop :=
  ρ 2 = pv ∧ ρ 3 = fv ∧ ρ 5 = .pointer (some ⟨b, 0, none⟩) ∧ ρ 11 = .pointer (some ⟨ob, 0, none⟩) ∧ ρ 12 = sv ∧ ∃ s ys, SI T o p f (fun u => u ∈ p ∨ hasB o.pre u = true) s ∧ YI T o p l f k ys ∧ At w [] (Star (OwnA (ρ 17) 3 1 nE ys) (Star (OwnA sv 3 1 nE s) (FrTO T o b ob))) w'
def TgC (T : Nt) (o : No) (pv fv sv ov nv : Value) (p l s ys : List Nat) (f b ob k n : Nat) (w : World) (j : Nat) (ρ : Env) (w' : World) : Prop :=
  ρ 2 = pv ∧ ρ 3 = fv ∧ ρ 5 = .pointer (some ⟨b, 0, none⟩) ∧ ρ 11 = .pointer (some ⟨ob, 0, none⟩) ∧ ρ 12 = sv ∧ ρ 17 = ov ∧ ρ 19 = nv ∧ ρ 69 = .int .i64 (k : Nat) ∧ ρ 68 = .int .i64 (n : Nat) ∧ ρ 80 = o.ev.1 ∧
    ∃ t, EI T o p l f k j t ∧ At w [] (Star (OwnA nv 3 1 nE t) (Star (OwnA ov 3 1 nE ys) (Star (OwnA sv 3 1 nE s) (FrTO T o b ob)))) w'
theorem lcl_to {T : Nt} {o : No} {b ob : Nat} : Lcl (FrTO T o b ob) := Lcl.obj.star (Lcl.obj.star .emp)
theorem own_cell {w : World} {v : Value} {E : Nat} {l : List Nat} {k x : Nat} (h : Go.W.Own w v E 1 nE l) (hx : l[k]? = some x) : w.cell? ⟨v.blk, k, none⟩ = some (.int .i64 (x : Nat)) := by
  have := h.cell nE_len hx (o := 0) (by omega)
  simpa [nE] using this
set_option maxHeartbeats 2000000 in
theorem targets_spec {w : World} (T : Nt) (o : No) (pv fv : Value) (p l : List Nat) (q f : Nat) (hr : NtR w T) (hg : NtG T) (ho : T.ops[q]? = some o) (hpv : Vw w pv nE p) (hfv : Vw w fv nE l) (hp : ∀ v ∈ p, v < T.vars.length) (hp0 : p ≠ []) (hpl : p.length ≤ 1000)
    (hl : Osr o p T.vars.length l) (hsp : ∀ k, k ≤ p.length → szK T.vars p k ≤ 4096) (hsl : ∀ k, k ≤ l.length → szK T.vars l k ≤ 4096) (hf : f ≤ 1000000) :
    Calls Tryz.prog 171 [ntV T, .int .i64 (q : Nat), pv, fv, .int .i64 (f : Nat)].toArray w fun e w' => ∃ u, e = .returned u ∧ ∃ ys, TgO T o p f ys ∧ ys.length ≤ szS T.vars l ∧ Nw w w' u 3 1 nE ys := by
  refine enter Tryz.func171 mixed low171 (Nat.le_of_ble_eq_true rfl) ?_
  simp only [L171]
  have hvl := hg.vlen
  have hol := hg.olen
  have hom := List.mem_of_getElem? ho
  have hgo := hg.ops o hom
  have hpre := hgo.pre.len
  have helen := hgo.elen
  have hv0 : T.vars ≠ [] := by
    intro e
    cases p with
    | nil => exact hp0 rfl
    | cons v p => have := hp v (by simp); rw [e] at this; simp at this
  have hlv : ∀ v ∈ l, v < T.vars.length := fun v hv => (hl.rng v hv).1
  have hll : l.length ≤ 1000 := by have := hl.len; omega
  have hqi : (q : Int) < T.ops.length := by have := (List.getElem?_eq_some_iff.1 ho).1; omega
  obtain ⟨b, hb⟩ : ∃ b, b = w.heap.size := ⟨_, rfl⟩
  have h1 : At w [] (Star (ObjA b (ntO T)) Emp) (w.alloc (ntO T)) := by rw [hb]; exact (At.start rfl).alloc _ .emp
  obtain ⟨w1, hw1⟩ : ∃ w1, w1 = w.alloc (ntO T) := ⟨_, rfl⟩
  rw [← hw1] at h1
  have hw1' : w.alloc (.cells #[T.vv.1, T.nv.1, T.gv.1, T.ov.1] 26 (0, 0)) = w1 := by rw [hw1]; rfl
  have hr1 := hr.kp h1.kp
  have hob := h1.obj
  unfold ntO at hob
  have eco := hr1.ops.cells noE_len ho
  simp only [noE] at eco
  obtain ⟨ob, hobb⟩ : ∃ ob, ob = w1.heap.size := ⟨_, rfl⟩
  simp (disch := omega) [ntV, ← hb, hw1', cell_blk hob, hr1.ops.idx, eco, ← hobb]
  refine st_oq (o := o.raw) (Lcl.obj.star .emp) h1 hobb fun w2 h2 => ?_
  have hob2 := h2.drop.obj
  unfold ntO at hob2
  have hr2 := hr.kp h2.kp
  have h3 := h2.made (E := 3) (enc := nE) (x := 0) (z := [.int .i64 0]) (n := T.vars.length) (Lcl.obj.star (Lcl.obj.star .emp)) rfl nE_len (by unfold maxLen; omega)
  simp (disch := omega) [cell_blk hob2, hr2.vars.len]
  refine gd_mk (by omega) ?_
  have hLF : Lcl (FrTO T o b ob) := lcl_to
  have h3 : At w [] (Star (OwnA (.slice (some ⟨w2.heap.size, 0, none⟩) T.vars.length T.vars.length) 3 1 nE (List.replicate T.vars.length 0)) (FrTO T o b ob)) (w2.alloc (.cells (rowOf [.int .i64 0] T.vars.length).toArray 3)) := h3
  obtain ⟨sv, hsv⟩ : ∃ sv, sv = Value.slice (some ⟨w2.heap.size, 0, none⟩) T.vars.length T.vars.length := ⟨_, rfl⟩
  obtain ⟨w3, hw3⟩ : ∃ w3, w3 = w2.alloc (.cells (rowOf [.int .i64 0] T.vars.length).toArray 3) := ⟨_, rfl⟩
  rw [← hsv, ← hw3] at h3
  have ob3 := h3.drop.drop.obj
  simp [← hsv, ← hw3, rd_nt ob3]
  refine cl_of (put_spec T pv sv p _ f hr hg hv0 hpv hp hpl (by omega) hLF h3 (by simp)) ?_
  rintro _ w4 h4
  have hsi0 := SI.start hg (o := o) (f := f) hp
  have oo4 := h4.drop.obj
  unfold noO oqO No.raw at oo4
  have hro4 := (hr.kp h4.kp).op o hom
  simp [← hobb, cell_blk oo4, hro4.pre.len]
  refine range_loop (n := o.pre.length) (by omega) (TgA T o pv fv sv p f b ob w) (by simp) (by simp)
    ⟨by simp, by simp, by simp, by simp [← hobb], by simp, by simp, _, hsi0, h4⟩ (by decide) (fun _ _ _ _ h => by simpa [TgA] using h) (fun _ _ _ _ h => by simpa [TgA] using h) ?_ ?_
  · clear h1 h2 h3 h4 hob hob2 hr1 hr2 eco oo4 ob3 hro4 hsi0 hw3 hsv hw1 hw1'
    rintro k ρ w5 hk hc hlm ⟨g2, g3, g5, g11, g12, g37, s, hs, h5⟩
    obtain ⟨g, hgk⟩ : ∃ g, o.pre[k]? = some g := ⟨_, List.getElem?_eq_getElem hk⟩
    have hgm := List.mem_of_getElem? hgk
    obtain ⟨hg1, hg2⟩ := hgo.pre.rng g hgm
    have hro5 := (hr.kp h5.kp).op o hom
    have ecf := hro5.pre.cells fcE_len hgk
    simp only [fcE] at ecf
    obtain ⟨gb, hgb⟩ : ∃ gb, gb = w5.heap.size := ⟨_, rfl⟩
    have hji : (k : Int) < o.pre.length := by omega
    have hL : ∀ s, Lcl (Star (OwnA sv 3 1 nE s) (FrTO T o b ob)) := fun _ => Lcl.own.star hLF
    simp (disch := omega) [g37, hc, hlm, hro5.pre.idx, ecf, ← hgb]
    refine st_fa (f := faN g) (hL _) h5 hgb fun w6 h6 => ?_
    have of6 := h6.obj
    simp only [faN, faO] at of6
    rw [hgb] at of6
    simp (disch := omega) [cell_blk of6, g2]
    refine cl_of (containsI_spec pv p g.1 (hpv.kp0 h6.kp) (by omega)) ?_
    rintro _ w7 ⟨rfl, k7⟩
    have h7 := h6.kp0 (Lcl.obj.star (hL _)) k7
    have of7 := h7.obj
    simp only [faN, faO] at of7
    rw [hgb] at of7
    have hO := h7.drop.own
    obtain ⟨y, hy⟩ : ∃ y, s[g.1]? = some y := ⟨_, List.getElem?_eq_getElem (by rw [hs.len]; exact hg1)⟩
    have hyd : s.getD g.1 0 = y := by simp [List.getD, hy]
    have hgi : (g.1 : Int) < s.length := by rw [hs.len]; omega
    by_cases hin : g.1 ∈ p
    · by_cases hyg : y = g.2
      · have t : ((y : Int) != (g.2 : Int)) = false := by simp; omega
        simp (disch := omega) [hin, g12, cell_blk of7, hO.idx, own_cell hO hy, t, hc, hlm]
        exact ⟨by simp [g2], by simp [g3], by simp [g5], by simp [g11], by simp [g12], by simp [g37], s, hs.pre_in hgk hin, h7.drop.drew (hL _)⟩
      · have t : ((y : Int) != (g.2 : Int)) = true := by simp; omega
        simp (disch := omega) [hin, g12, cell_blk of7, hO.idx, own_cell hO hy, t, hc, hlm]
        refine ⟨[], ⟨by simp, fun x hx => ?_⟩, by simp, Nw.of (At.nil (E := 3) (sz := 1) (enc := nE) (hL _) (h7.drop.drew (hL _)))⟩
        exact (hs.none hgk (.inl hin) (by rw [hyd]; exact hyg) x hx).elim
    · simp (disch := omega) [hin, g12, cell_blk of7, hO.idx]
      refine h7.drop.store1 hLF nE_len nE_one (k := g.1) (by rw [hs.len]; exact hg1) (x := g.2) rfl fun w8 h8 => ?_
      simp [hc, hlm]
      exact ⟨by simp [g2], by simp [g3], by simp [g5], by simp [g11], by simp [g12], by simp [g37], _, hs.pre_out hgk hg1 hg2, h8⟩
  clear h1 h2 h3 h4 hob hob2 hr1 hr2 eco oo4 ob3 hro4 hsi0 hw3 hsv hw1 hw1'
  rintro ρ w5 ⟨g2, g3, g5, g11, g12, g37, s, hs, h5⟩
  have hs : SI T o p f (fun u => u ∈ p ∨ hasB o.pre u = true) s := hs.mono fun u hu => by rwa [List.take_length]
  have hL : ∀ s, Lcl (Star (OwnA sv 3 1 nE s) (FrTO T o b ob)) := fun _ => Lcl.own.star hLF
  have ob5 := h5.drop.drop.obj
  simp [g5, g3, rd_nt ob5]
  refine cl_of (count_spec T fv l (hr.kp h5.kp) (hfv.kp0 h5.kp) hlv hll hsl) ?_
  rintro _ w6 ⟨rfl, k6⟩
  have h6 := h5.kp0 (hL _) k6
  have hsz := hsl l.length (Nat.le_refl _)
  have hsz : szS T.vars l ≤ 4096 := hsz
  simp
  have h7 : At w [] (Star (OwnA (.slice none 0 0) 3 1 nE ([] : List Nat)) (Star (OwnA sv 3 1 nE s) (FrTO T o b ob))) w6 := At.nil (hL _) h6
  refine range_loop (n := szS T.vars l) (by omega) (TgB T o pv fv sv p l f b ob w) (by simp) (by simp)
    ⟨by simp [g2], by simp [g3], by simp [g5], by simp [g11], by simp [g12], s, [], hs, ⟨rfl, by simp, fun x hx h => by omega⟩, by simpa using h7⟩ (by decide) (fun _ _ _ _ h => by simpa [TgB] using h) (fun _ _ _ _ h => by simpa [TgB] using h) ?_ ?_
  rotate_left
  · rintro ρ w8 ⟨g2, g3, g5, g11, g12, s, ys, hs, hY, h8⟩
    have hyl := hY.len
    simp
    refine cl_of (sort_spec h8.own (by omega)) ?_
    rintro _ w9 ⟨rfl, k9, l9, hO9, hm9, hs9, hl9⟩
    have h9 : At w [] (Star (OwnA (ρ 17) 3 1 nE l9) (Star (OwnA sv 3 1 nE s) (FrTO T o b ob))) w9 := h8.step Lcl.own (hL _) (by
      rintro Fa ⟨_, rfl⟩
      exact ⟨_, ⟨hO9, rfl⟩, k9, fun x hx => .inl hx⟩)
    simp
    refine cl_of (compact_spec h9.own hs9 (by omega)) ?_
    rintro x wA ⟨kA, hxo, lA, hOA, hmA, hsA, hlA⟩
    have hA : At w [] (Star (OwnA x 3 1 nE lA) (Star (OwnA sv 3 1 nE s) (FrTO T o b ob))) wA := h9.step Lcl.own (hL _) (by
      rintro Fa ⟨_, rfl⟩
      exact ⟨_, ⟨hOA, rfl⟩, kA, fun y hy => .inl (by rw [hxo] at hy; exact hy)⟩)
    simp
    exact ⟨lA, ⟨fun y hy => hY.rng y ((hm9 y).1 ((hmA y).1 hy)), fun x hx => (hmA _).2 ((hm9 _).2 (hY.hit x hx (nbS_lt fun v hv => hx.st.rng v (hlv v hv))))⟩, by omega, Nw.of hA⟩
  clear h5 h6 h7 k6 ob5 hs g2 g3 g5 g11 g12 g37
  rintro k ρ w8 hk hc hlm ⟨g2, g3, g5, g11, g12, s, ys, hs, hY, h8⟩
  have ob8 := h8.drop.drop.drop.obj
  have hLO : ∀ v ys s, Lcl (Star (OwnA v 3 1 nE ys) (Star (OwnA sv 3 1 nE s) (FrTO T o b ob))) := fun _ _ _ => Lcl.own.star (hL _)
  have hki : (k : Int) < (szS T.vars l : Nat) := by omega
  simp (disch := omega) [hc, hlm, g5, g3, g12, rd_nt ob8]
  refine cl_of (put_spec T fv sv l s k hr hg hv0 hfv hlv hll (by omega) (B := Star (OwnA (ρ 17) 3 1 nE ys) (FrTO T o b ob)) (Lcl.own.star hLF) (h8.by Imp.sw) hs.len) ?_
  rintro _ w9 h9
  simp [g12]
  refine cl_of (cloneI_spec sv _ h9.own.vw (by rw [putR_len, hs.len]; omega)) ?_
  rintro nv wA hN
  have hA := At.nw (Lcl.own.star (Lcl.own.star hLF)) h9 hN
  have hA := hA.by (Imp.un Imp.sw)
  have hsf := hs.free hg (k := k) (l := l) fun v hv => ⟨hlv v hv, fun h => by
    rcases h with h | h
    · exact (hl.rng v hv).2 h
    · rw [hl.np v hv] at h; cases h⟩
  have hE0 := EI.start (l := l) (k := k) hsf fun u hu => .inl hu
  have hfr : ∀ x, Cx T o p f x → nbS T.vars x l = k → ∀ u ∈ l, (putR T.vars l.reverse s k).getD u 0 = x.getD u 0 := fun x hx e => free_at hx hlv hs.len e
  obtain ⟨sk, hsk⟩ : ∃ sk, sk = putR T.vars l.reverse s k := ⟨_, rfl⟩
  rw [← hsk] at hA hsf hE0 hfr
  have oA := hA.drop.drop.drop.obj
  unfold noO oqO No.raw at oA
  have hroA := (hr.kp hA.kp).op o hom
  simp [g11, cell_blk oA, hroA.effs.len]
  refine range_loop (n := o.effs.length) (by omega) (TgC T o pv fv sv (ρ 17) nv p l sk ys f b ob k (szS T.vars l) w) (by simp) (by simp)
    ⟨by simp [g2], by simp [g3], by simp [g5], by simp [g11], by simp [g12], by simp, by simp, by simp [hc], by simp [hlm], by simp, sk, hE0, hA⟩ (by decide) (fun _ _ _ _ h => by simpa [TgC] using h) (fun _ _ _ _ h => by simpa [TgC] using h) ?_ ?_
  rotate_left
  · obtain ⟨ov, hov⟩ : ∃ ov, ov = ρ 17 := ⟨_, rfl⟩
    rw [← hov]
    clear h8 h9 hA hN oA hroA
    rintro ρ wB ⟨g2, g3, g5, g11, g12, g17, g19, g69, g68, g80, t, hE, hB⟩
    have obB := hB.drop.drop.drop.drop.obj
    simp [g2, g5, g17, g19, rd_nt obB]
    refine cl_of (number_pr T pv nv p t (hr.kp hB.kp) (hpv.kp0 hB.kp) hB.own.vw hE.len (fun v hv => ⟨hp v hv, hE.rng v (hp v hv)⟩) hpl (by omega) hsp) ?_
    rintro _ wC ⟨rfl, kC⟩
    have hC := hB.kp0 (Lcl.own.star (hLO _ _ _)) kC
    have hyl := hY.len
    have hkl : k < szS T.vars l := hk
    simp [g17]
    refine nat_append (l := ys) (x := nbS T.vars t p) (hL _) hC.drop (by omega) fun v' wD hD => ?_
    simp [g68, g69]
    exact ⟨by simp [g2], by simp [g3], by simp [g5], by simp [g11], by simp [g12], sk, _, hsf, hY.next hp hE, by simpa using hD⟩
  clear h8 h9 hA hN oA hroA
  obtain ⟨ov, hov⟩ : ∃ ov, ov = ρ 17 := ⟨_, rfl⟩
  rw [← hov]
  rintro j ρ wB hj hcj hlj ⟨g2, g3, g5, g11, g12, g17, g19, g69, g68, g80, t, hE, hB⟩
  obtain ⟨e, he⟩ : ∃ e, o.effs[j]? = some e := ⟨_, List.getElem?_eq_getElem hj⟩
  have hem := List.mem_of_getElem? he
  obtain ⟨hev, hex⟩ := hgo.eff e hem
  have hroB := (hr.kp hB.kp).op o hom
  have ece := hroB.effs.cells nfE_len he
  simp only [nfE] at ece
  obtain ⟨fb, hfb⟩ : ∃ fb, fb = wB.heap.size := ⟨_, rfl⟩
  have hji : (j : Int) < o.effs.length := by omega
  have hLN : ∀ t, Lcl (Star (OwnA nv 3 1 nE t) (Star (OwnA ov 3 1 nE ys) (Star (OwnA sv 3 1 nE sk) (FrTO T o b ob)))) := fun _ => Lcl.own.star (hLO _ _ _)
  simp (disch := omega) [g80, hcj, hlj, hroB.effs.idx, ece, ← hfb]
  refine st_ef (e := e.raw) (hLN _) hB hfb fun wC hC => ?_
  have oeC := hC.obj
  unfold efO Nf.raw at oeC
  rw [hfb] at oeC
  simp (disch := omega) [cell_blk oeC, g2]
  refine cl_of (containsI_spec pv p e.v (hpv.kp0 hC.kp) (by omega)) ?_
  rintro _ wD ⟨rfl, kD⟩
  have hD := hC.kp0 (Lcl.obj.star (hLN _)) kD
  by_cases hin : e.v ∈ p
  case neg =>
    simp [hin, hcj, hlj]
    exact ⟨by simp [g2], by simp [g3], by simp [g5], by simp [g11], by simp [g12], by simp [g17], by simp [g19], by simp [g69], by simp [g68], by simp [g80], t, hE.skip he fun x hx _ hv => absurd hv hin, hD.drop⟩
  have oeD := hD.obj
  unfold efO Nf.raw at oeD
  rw [hfb] at oeD
  have hgc := hgo.cnd e hem
  simp [hin, cell_blk oeD, g12]
  refine cl_of (tholds_spec e.wv.1 sv e.cnd sk ((hr.kp hD.kp).op o hom |>.cnd e hem) hD.drop.drop.drop.own.vw (by have := hgc.len; omega) (fun g hg => by rw [hsf.len]; exact (hgc.rng g hg).1)) ?_
  rintro _ wE ⟨rfl, kE⟩
  have hE2 := hD.kp0 (Lcl.obj.star (hLN _)) kE
  have hcs : ∀ x, Cx T o p f x → nbS T.vars x l = k → hdB sk e.cnd = hdB x e.cnd := by
    intro x hx hk
    exact cond_same (k := k) (s := s) hx hl hem hin hsf (hfr x hx hk)

  cases hd : hdB sk e.cnd with
  | false =>
    simp [hcj, hlj]
    exact ⟨by simp [g2], by simp [g3], by simp [g5], by simp [g11], by simp [g12], by simp [g17], by simp [g19], by simp [g69], by simp [g68], by simp [g80], t, hE.skip he fun x hx hk hv => by rw [← hcs x hx hk, hd], hE2.drop⟩
  | true =>
    have oeE := hE2.obj
    unfold efO Nf.raw at oeE
    rw [hfb] at oeE
    have hO := hE2.drop.own
    have hvi : (e.v : Int) < t.length := by rw [hE.len]; omega
    simp (disch := omega) [hin, cell_blk oeE, g19, hO.idx]
    refine hE2.drop.store1 (hLO _ _ _) nE_len nE_one (k := e.v) (by rw [hE.len]; exact hev) (x := e.x) rfl fun wF hF => ?_
    simp [hcj, hlj]
    exact ⟨by simp [g2], by simp [g3], by simp [g5], by simp [g11], by simp [g12], by simp [g17], by simp [g19], by simp [g69], by simp [g68], by simp [g80], _, hE.set he hev hex fun x hx hk => by rw [← hcs x hx hk, hd], hF⟩
end Go.Proofs.YtolkjbmcindhjaaGreat
end
section
set_option maxRecDepth 100000
set_option linter.unusedSimpArgs false
set_option linter.unusedVariables false
namespace Go.Rx
open Go Go.W Go.Tk
/-- There are values. -/
theorem IsVal.ex (U : List Un) (S : List Nat) : ∃ V, IsVal U S V := by
  have hex : ∀ f, ∃ x, (∀ k, Der U S f k → x ≤ k) ∧ x ≤ Inf ∧ (x < Inf → Der U S f x) := fun f => by
    rcases Classical.em (∃ k, Der U S f k) with ⟨k, hk⟩ | hn
    · obtain ⟨w, hw, hm⟩ := Lst.ex hk
      rcases Nat.lt_or_ge w Inf with h | h
      · exact ⟨w, hm, by omega, fun _ => hw⟩
      · exact ⟨Inf, fun j hj => by have := hm j hj; omega, Nat.le_refl _, fun h => by omega⟩
    · exact ⟨Inf, fun k hk => absurd ⟨k, hk⟩ hn, Nat.le_refl _, fun h => by omega⟩
  refine ⟨fun f => Classical.choose (hex f), fun f hf => ?_, fun u hu hlt => ?_, fun f hf => (Classical.choose_spec (hex f)).2.2 hf, fun f => (Classical.choose_spec (hex f)).2.1⟩
  · have := (Classical.choose_spec (hex f)).1 0 (.base hf)
    omega
  · refine (Classical.choose_spec (hex u.makes)).1 _ (.step hu _ fun n hn => (Classical.choose_spec (hex n)).2.2 ?_)
    have := gr_mem (V := fun f => Classical.choose (hex f)) hn
    omega
end Go.Rx
namespace Go.Proofs.YtolkjbmcindhjaaGreat
open Go Go.W Go.Tk Go.Rx Go.Maps
/-- Values in all states. -/
def VsOk (T : Nt) (U : List Un) (vS : List Nat → Nat → Nat) : Prop := ∀ s, IsVal U (stN T.vars s T.vars.length) (vS s)
theorem VsOk.ex (T : Nt) (U : List Un) : ∃ vS, VsOk T U vS := ⟨fun s => Classical.choose (IsVal.ex U (stN T.vars s T.vars.length)), fun s => Classical.choose_spec (IsVal.ex U (stN T.vars s T.vars.length))⟩
/-- The greatest value of a goal fact, in a state. -/
def hM (T : Nt) (vS : List Nat → Nat → Nat) (s : List Nat) : Nat := grF T.vars (vS s) T.goal
def hI (T : Nt) (vS : List Nat → Nat → Nat) (i : Nat) : Nat := match (stsK T.vars T.vars.length)[i]? with | some s => hM T vS s | none => 0
end Go.Proofs.YtolkjbmcindhjaaGreat
end
section
set_option maxRecDepth 100000
set_option linter.unusedSimpArgs false
set_option linter.unusedVariables false
namespace Go.Proofs.YtolkjbmcindhjaaGreat
open Go Go.W Go.Tk Go.Rx Go.Maps
/-- A tame task. -/
structure TmT (T : Nt) : Prop where
  sm : SmT T
  v4 : ∀ n ∈ T.vars, 2 ≤ n ∧ n ≤ 4
  vl : T.vars.length ≤ 4
  ol : T.ops.length ≤ 10
theorem TmT.v4' {T : Nt} (h : TmT T) {v : Nat} (hv : v < T.vars.length) : T.vars.getD v 0 ≤ 4 := (h.v4 _ (mem_getD hv)).2
theorem szK_le {T : Nt} (h : TmT T) {p : List Nat} (hp : ∀ v ∈ p, v < T.vars.length) : ∀ k, k ≤ p.length → szK T.vars p k ≤ 4 ^ k
  | 0, _ => by simp [szK]
  | k + 1, hk => by
    have h1 := szK_le h hp k (by omega)
    have h2 := h.v4' (hp (p.getD k 0) (mem_getD (by omega)))
    simp only [szK, Nat.pow_succ]
    exact Nat.mul_le_mul h1 h2
theorem szK_256 {T : Nt} (h : TmT T) {p : List Nat} (hp : ∀ v ∈ p, v < T.vars.length) (hl : p.length ≤ 4) {k : Nat} (hk : k ≤ p.length) : szK T.vars p k ≤ 256 := by
  have h1 := szK_le h hp k hk
  have h2 : (4 : Nat) ^ k ≤ 4 ^ 4 := Nat.pow_le_pow_right (by decide) (by omega)
  have h3 : (4 : Nat) ^ 4 = 256 := by decide
  omega
theorem szS_64 {T : Nt} (h : TmT T) {p : List Nat} (hp : ∀ v ∈ p, v < T.vars.length) (hl : p.length ≤ 3) : szS T.vars p ≤ 64 := by
  have h1 := szK_le h hp p.length (Nat.le_refl _)
  have h2 : (4 : Nat) ^ p.length ≤ 4 ^ 3 := Nat.pow_le_pow_right (by decide) (by omega)
  have h3 : (4 : Nat) ^ 3 = 64 := by decide
  unfold szS
  omega
theorem szS_16 {T : Nt} (h : TmT T) {p : List Nat} (hp : ∀ v ∈ p, v < T.vars.length) (hl : p.length ≤ 2) : szS T.vars p ≤ 16 := by
  have h1 := szK_le h hp p.length (Nat.le_refl _)
  have h2 : (4 : Nat) ^ p.length ≤ 4 ^ 2 := Nat.pow_le_pow_right (by decide) (by omega)
  have h3 : (4 : Nat) ^ 2 = 16 := by decide
  unfold szS
  omega
theorem Pt.lt_succ {T : Nt} {p : List Nat} (h : Pt T p) {i a b : Nat} (ha : p[i]? = some a) (hb : p[i + 1]? = some b) : a < b := by
  have h1 := h.asc
  rw [List.pairwise_iff_getElem] at h1
  obtain ⟨h2, rfl⟩ := List.getElem?_eq_some_iff.1 ha
  obtain ⟨h3, rfl⟩ := List.getElem?_eq_some_iff.1 hb
  exact h1 i (i + 1) h2 h3 (by omega)
theorem prCheck_spec {w : World} (T : Nt) (pv : Value) (p : List Nat) (hs : SmT T) (hr : NtR w T) (hpv : Vw w pv nE p) (hp : Pt T p) :
    Calls Tryz.prog 166 [ntV T, pv].toArray w fun e w' => ∃ x, e = .returned x ∧ x = .nilIface ∧ Kp [] w w' := by
  refine enter Tryz.func166 mixed low166 (Nat.le_of_ble_eq_true rfl) ?_
  simp only [L166]
  have hpl := hp.len.2
  obtain ⟨b, hb⟩ : ∃ b, b = w.heap.size := ⟨_, rfl⟩
  have h1 : At w [] (Star (ObjA b (ntO T)) Emp) (w.alloc (ntO T)) := by rw [hb]; exact (At.start rfl).alloc _ .emp
  obtain ⟨w1, hw1⟩ : ∃ w1, w1 = w.alloc (ntO T) := ⟨_, rfl⟩
  rw [← hw1] at h1
  have hw1' : w.alloc (.cells #[T.vv.1, T.nv.1, T.gv.1, T.ov.1] 26 (0, 0)) = w1 := by rw [hw1]; rfl
  have hL : Lcl (Star (ObjA b (ntO T)) Emp) := Lcl.obj.star .emp
  simp [ntV, ← hb, hw1', rd_nt h1.obj]
  refine cl_of (tcheck_spec T.raw (NtR.raw.2 (hr.kp h1.kp)) (hs.g.lens hs.nm)) ?_
  rintro _ w2 ⟨rfl, k2⟩
  rw [(chk_good T.raw).2 hs.good]
  have h2 := h1.kp0 hL k2
  have hpv2 := hpv.kp0 h2.kp
  simp [chkV, hpv2.len]
  refine range_loop (n := p.length) (by omega) (fun k ρ w' => ρ 1 = pv ∧ ρ 2 = .pointer (some ⟨b, 0, none⟩) ∧ ρ 13 = pv ∧ At w [] (Star (ObjA b (ntO T)) Emp) w') (by simp) (by simp)
    ⟨by simp, by simp [← hb], by simp, h2⟩ (by decide) (fun _ _ _ _ h => by simpa using h) (fun _ _ _ _ h => by simpa using h) ?_ ?_
  rotate_left
  · rintro ρ w4 ⟨g1, g2, g13, h4⟩
    simp
    exact h4.kp
  rintro k ρ w4 hk hc hlm ⟨g1, g2, g13, h4⟩
  obtain ⟨v, hv⟩ : ∃ v, p[k]? = some v := ⟨_, List.getElem?_eq_getElem hk⟩
  have hvl := hp.rng v (List.mem_of_getElem? hv)
  have hpv4 := hpv.kp0 h4.kp
  have hr4 := hr.kp h4.kp
  have hob := h4.obj
  unfold ntO at hob
  have hki : (k : Int) < p.length := by omega
  have n1 : ¬ (v : Int) < 0 := by omega
  have n2 : ¬ ((T.vars.length : Nat) : Int) ≤ (v : Int) := by omega
  have n2' : ¬ T.vars.length ≤ v := by omega
  rcases k with _ | k
  · simp (disch := omega) [g1, g2, g13, hc, hlm, hpv4.idx, nE_cell hpv4 hv, n1, n2, n2', cell_blk hob, hr4.vars.len]
    exact h4
  · obtain ⟨u, hu⟩ : ∃ u, p[k]? = some u := ⟨_, List.getElem?_eq_getElem (by omega)⟩
    have huv := hp.lt_succ hu hv
    have n3 : ¬ (v : Int) ≤ (u : Int) := by omega
    have n3' : ¬ v ≤ u := by omega
    have e1 : ((k + 1 : Nat) : Int) - 1 = (k : Int) := by omega
    obtain ⟨k1, hk1⟩ : ∃ k1, k1 = k + 1 := ⟨_, rfl⟩
    rw [← hk1] at hc hv e1 hki ⊢
    have n4 : (0 : Int) < (k1 : Int) := by omega
    have n4' : 0 < k1 := by omega
    have hkl : (k : Int) < p.length := by omega
    simp (disch := omega) [g1, g2, g13, hc, hlm, hpv4.idx, nE_cell hpv4 hv, nE_cell hpv4 hu, n1, n2, n2', n3, n3', n4, n4', e1, wrap_i64, cell_blk hob, hr4.vars.len]
    exact h4
end Go.Proofs.YtolkjbmcindhjaaGreat
end
