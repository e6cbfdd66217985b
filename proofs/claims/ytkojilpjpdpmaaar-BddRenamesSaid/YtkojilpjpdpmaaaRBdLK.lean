/-
  A part of the proofs of this seat's statements (BdLK); no conditions beyond those each theorem names.
-/
import Derived.Test.YtkojilpjpdpmaaaRBdWt
set_option maxRecDepth 100000
set_option linter.unusedSimpArgs false
set_option linter.unusedVariables false
namespace Go.Proofs.YtkojilpjpdpmaaaR
open Go Go.W Go.Bd Go.Maps
/-! ### Rename, where the list was passed in and is not ours (as BdWE and BdWG, with the world's change at hand) -/
set_option maxHeartbeats 4000000 in
theorem change_renK (m n lim b : Nat) (v0 v1 : Int) (tov : Value) (xs : List Int) (S : Nat → Prop) (to : Nat → Nat) (htov : ∃ a k c, tov = .slice (some a) k c) (hto : ∀ i, S i → xs[i]? = some ((to i : Nat) : Int)) (hasc : Asc n S to) (w : World) (F : List Nat) : ∀ (d f : Nat) (ns : Ns) (M : Mem1) (B : Asr) (w1 : World), Lcl B → Wf n ns → Bnd n lim ns → Ref ns f → f ≤ d → Go.Bd.MemC (fun a i => a (to i)) ns M → (∀ y, Rch n ns f y → S (tv n ns y)) → (∀ w' F', B w' F' → Kp F w w' → Vw w' tov iv xs) →
    At w F (Star (MgrA m n lim ns) (Star (MemB b M) B)) w1 →
    Calls Try.prog 59 [.pointer (some ⟨m, 0, none⟩), .int .i64 (f : Nat), .int .i64 v0, .int .i64 v1, tov, .map (some b)].toArray w1 fun e w' => ∃ v, e = .returned v ∧ ChPost m n lim (fun a i => a (to i)) ns f b B w F v w' := by
  intro d
  induction d using Nat.strongRecOn with
  | ind d ih =>
  intro f ns M B w1 hB hw hb hf hd hM hS hR hA
  obtain ⟨hbn, hbl, hbs⟩ := hb
  have hb' : Bnd n lim ns := ⟨hbn, hbl, hbs⟩
  have hLV : Lcl B := hB
  have hLX : Lcl (Star (MgrA m n lim ns) (Star (MemB b M) B)) := Lcl.mgr.star (Lcl.map.star hLV)
  have hrf : f ≤ 1048578 := by unfold Ref at hf; omega
  refine enter Try.func59 mixed low59 (Nat.le_of_ble_eq_true rfl) ?_
  simp only [L59]
  by_cases h2 : f < 2
  · have h2' : (f : Int) < 2 := by omega
    simp [h2']
    exact ⟨some f, ns, M, rfl, c_const hw hbs hM hf h2, hA⟩
  have h2' : ¬ (f : Int) < 2 := by omega
  have hf2 : 2 ≤ f := by omega
  simp [h2']
  refine MapM.look2 (x := f) hA.drop.map keyI Try.underlying100 zint (show i64ok f by unfold i64ok; omega) ?_
  cases hgm : getM M f with
  | some r =>
    simp [natV]
    exact ⟨some r, ns, M, rfl, c_known hw hbs hM (getM_in hgm), hA⟩
  | none =>
  simp
  refine cl_of (at_spec m n lim f ns w1 (MgrA.rd hA) hb' hf) ?_
  rintro v w2 ⟨rfl, k2⟩
  have h3 := (hA.kp0 hLX k2).alloc (.cells #[.int .i64 0, .int .i64 0, .int .i64 0] 90) hLX
  simp [ndV, en_len]
  refine h3.st hLX (by simp [en, ints]) (by simp [en, ints]) fun w4 h4 => ?_
  have e3 : ∀ d : Nd, wrAt #[.int .i64 0, .int .i64 0, .int .i64 0] 0 (en d) = (en d).toArray := fun d => by simp [en, ints]
  rw [e3] at h4
  obtain ⟨t, ht⟩ : ∃ t, t = w2.heap.size := ⟨_, rfl⟩
  rw [← ht] at h4 ⊢
  have h5 := h4.tor3
  have hLT : Lcl (Star (ObjA t (.cells (en (at_ n ns f)).toArray 90 (0, 0))) B) := Lcl.obj.star hB
  have hot := h4.obj
  have l1 := hw.lt_low hf2 hf
  have l2 := hw.lt_high hf2 hf
  have tvn := hw.tv_var hf2 hf
  have etv : tv n ns f = (at_ n ns f).v := rfl
  have brl : (at_ n ns f).low ≤ 1048578 := by omega
  have brh : (at_ n ns f).high ≤ 1048578 := by omega
  obtain ⟨ta, tk, tc, rfl⟩ := htov
  have hRT : ∀ w' F', Star (ObjA t (.cells (en (at_ n ns f)).toArray 90 (0, 0))) B w' F' → Kp F w w' → Vw w' (.slice (some ta) tk tc) iv xs := fun w' F' h hkk => by
    obtain ⟨_, Fb, _, h2, _⟩ := h
    exact hR _ _ h2 hkk
  simp [cell_blk hot, en, ints]
  refine cl_of (ih (d - 1) (by omega) (at_ n ns f).low ns M _ w4 hLT hw hb' (hw.ref_low hf) (by omega) hM (fun y hy => hS y (.low hf2 hy)) hRT h5) ?_
  rintro _ w6 ⟨r1, ns1, M1, rfl, hl, h6⟩
  have drp : ∀ {nsx : Ns} {Mx : Mem1} {wx : World}, At w F (Star (MgrA m n lim nsx) (Star (MemB b Mx) (Star (ObjA t (.cells (en (at_ n ns f)).toArray 90 (0, 0))) B))) wx → At w F (Star (MgrA m n lim nsx) (Star (MemB b Mx) B)) wx := fun h => h.by (Imp.un (Imp.un Imp.dr))
  cases r1 with
  | none =>
    simp [optV, noV, errV]
    exact ⟨none, ns1, M1, rfl, c_low hw hf hf2 hl, drp h6⟩
  | some l =>
  have hw1 := hl.ext.wf
  have hb1 : Bnd n lim ns1 := ⟨hbn, hbl, hl.lim⟩
  have hot := h6.drop.drop.obj
  simp [optV, okV, cell_blk hot, en, ints]
  refine cl_of (ih (d - 1) (by omega) (at_ n ns f).high ns1 M1 _ w6 hLT hw1 hb1 (hl.ext.ref (hw.ref_high hf)) (by omega) hl.mem (sup_ext hw hl.ext (hw.ref_high hf) (fun y hy => hS y (.high hf2 hy))) hRT h6) ?_
  rintro _ w7 ⟨r2, ns2, M2, rfl, hh, h7⟩
  cases r2 with
  | none =>
    simp [optV, noV, errV]
    exact ⟨none, ns2, M2, rfl, c_high hw hf hf2 hl hh, drp h7⟩
  | some h =>
  have hpre := CPre.ren hw hf hf2 hS hasc
  have hm := c_mid hpre hl hh
  have hw2 := hm.ext.wf
  have hb2 : Bnd n lim ns2 := ⟨hbn, hbl, hm.lim⟩
  have hl2 := hm.lim
  have hot := h7.drop.drop.obj
  have hlr : l ≤ 2000000 := by have := hm.rl; unfold Ref at this; omega
  have hhr : h ≤ 2000000 := by have := hm.rk; unfold Ref at this; omega
  have hml : M2.length ≤ 1048578 := mem1_small (ns := ns2) (N := 1048578) (by omega) (fun q hq => (hm.mem q hq).1) (MapM.nodup h7.drop.map)
  obtain ⟨_, hq, _⟩ := h7.drop.drop.drop.ex
  have hvw := hR _ _ hq h7.kp
  have sv := hto _ (hS f (.self hf2))
  have un := hpre.un
  have hix : (tv n ns f) < xs.length := (List.getElem?_eq_some_iff.1 sv).1
  rw [etv] at sv un hix
  have hcv := iv_cell hvw sv
  have etk : tk = xs.length := by
    rcases hvw with ⟨h1, _⟩ | ⟨a, cap, h1, _⟩
    · cases h1
    · injection h1
  have hlt : ((at_ n ns f).v : Int) < tk := by omega
  have hlt' : (at_ n ns f).v < tk := by omega
  simp [Value.adr] at hcv
  simp [optV, okV, cell_blk hot, en, ints, hcv, hlt, hlt']
  rw [← etv]
  refine cl_of (make_spec m n lim ns2 (to (tv n ns f)) l h (Lcl.map.star hLT) h7 hb2 (by have := hpre.un; omega) hlr hhr) ?_
  rintro _ w9 ⟨rfl, h9⟩
  cases hk : (mkF lim ns2 (to (tv n ns f)) l h).1 with
  | none =>
    simp [optV, noV, errV]
    exact ⟨none, _, M2, rfl, c_full hpre hm hk, drp h9⟩
  | some x =>
    simp [optV, okV]
    refine At.put (x := f) (v := x) (Lcl.mgr.star hLT) h9.rot keyI Try.underlying100 (show i64ok f by unfold i64ok; omega) (by unfold maxLen; omega) fun w12 h12 => ?_
    simp
    exact ⟨some x, _, _, rfl, c_done hpre hm hk (fun q hq => putM_mem hq), drp h12.rot⟩
set_option maxHeartbeats 1000000 in
theorem rename_specK {w w1 : World} {F : List Nat} {B : Asr} (m n lim : Nat) (ns : Ns) (f : Nat) (tov : Value) (xs : List Int) (hB : Lcl B) (hA : At w F (Star (MgrA m n lim ns) B) w1) (hw : Wf n ns) (hb : Bnd n lim ns) (hf : Ref ns f)
    (hR : ∀ w' F', B w' F' → Kp F w w' → Vw w' tov iv xs) (hx : xs.length ≤ 1000000) :
    Calls Try.prog 28 [.pointer (some ⟨m, 0, none⟩), .int .i64 (f : Nat), tov].toArray w1 fun e w' => ∃ x, e = .returned x ∧ RenPost m n lim xs ns f B w F x w' := by
  have hbn := hb.hn
  have hbl := hb.hl
  have hbs := hb.hs
  refine enter Try.func28 mixed low28 (Nat.le_of_ble_eq_true rfl) ?_
  simp only [L28]
  have hl : Lcl (Star (MgrA m n lim ns) B) := Lcl.mgr.star hB
  have vw : ∀ {w'}, At w F (Star (MgrA m n lim ns) B) w' → Vw w' tov iv xs := fun h => by
    obtain ⟨_, hq, _⟩ := h.drop.ex
    exact hR _ _ hq h.kp
  simp
  refine cl_of (support_spec m n lim ns f hB hA hw hb hf) ?_
  rintro _ w2 ⟨v, L, rfl, hS, h2⟩
  have hLo : Lcl (Star (OwnA v 3 1 iv L) (Star (MgrA m n lim ns) B)) := Lcl.own.star hl
  have hmem : ∀ x ∈ L, 0 ≤ x ∧ x < n := fun x hx => by
    obtain ⟨y, hy, rfl⟩ := (hS.2 x).1 hx
    have := hw.tv_var hy.ge (hy.ref hw hf)
    omega
  have hLlen : L.length ≤ 1000000 := by
    have hnd : (L.map Int.toNat).Nodup := by
      rw [List.nodup_iff_pairwise_ne, List.pairwise_map]
      refine List.Pairwise.imp_of_mem ?_ hS.1
      intro a b ha hb hab
      have := hmem a ha; have := hmem b hb
      omega
    have := nodup_len _ (List.range n) hnd (fun x hx => by
      obtain ⟨y, hy, rfl⟩ := List.mem_map.1 hx
      have := hmem y hy
      exact List.mem_range.2 (by omega))
    simp at this; omega
  obtain ⟨nv, b, ho, _, _⟩ := MgrA.rd h2.drop
  unfold mgrO at ho
  simp [(vw h2.drop).len, cell_blk ho]
  by_cases hlen : xs.length = n
  case neg =>
    have : ((xs.length : Int) != n) = true := by simp; omega
    simp [this]
    exact ⟨L, hS, .inl ⟨.inl hlen, rfl, h2.drop⟩⟩
  have : ((xs.length : Int) != n) = false := by simp; omega
  simp [this, h2.own.vw.len]
  refine range_loop (n := L.length) (by omega) (fun k ρ w' => ρ 0 = .pointer (some ⟨m, 0, none⟩) ∧ ρ 1 = .int .i64 (f : Nat) ∧ ρ 2 = tov ∧ ρ 8 = v ∧ ρ 30 = v ∧ (∀ j x, j < k → L[j]? = some x → 0 ≤ tgt xs x ∧ tgt xs x < n) ∧
      At w F (Star (OwnA v 3 1 iv L) (Star (MgrA m n lim ns) B)) w') (by simp) (by simp)
    ⟨by simp, by simp, by simp, by simp, by simp, by simp, h2⟩ (by decide) (fun _ _ _ _ h => by simpa using h) (fun _ _ _ _ h => by simpa using h) ?_ ?_
  · rintro k ρ w3 hk hc hlim ⟨g0, g1, g2, g8, g30, hall, h3⟩
    have ek : L[k]? = some L[k] := List.getElem?_eq_getElem hk
    obtain ⟨x, hxe⟩ : ∃ x, x = L[k] := ⟨_, rfl⟩
    rw [← hxe] at ek
    obtain ⟨x0, x1⟩ := hmem x (List.mem_of_getElem? ek)
    have hs := h3.own.vw
    have ht := vw h3.drop
    obtain ⟨nv, b, ho, _, _⟩ := MgrA.rd h3.drop
    unfold mgrO at ho
    have hxl : x.toNat < xs.length := by omega
    have ex : xs[x.toNat]? = some (tgt xs x) := by simp [tgt, List.getD, List.getElem?_eq_getElem hxl]
    have h4 := h3.drew hLo
    simp (disch := omega) [g0, g2, g30, hc, hs.idx, iv_cell hs ek, ht.idx, iv_cell ht ex, cell_blk ho]
    by_cases c1 : tgt xs x < 0
    · simp [c1]
      exact ⟨L, hS, .inl ⟨.inr ⟨x, List.mem_of_getElem? ek, .inl c1⟩, rfl, h4.drop⟩⟩
    by_cases c2 : (n : Int) ≤ tgt xs x
    · simp (disch := omega) [c1, c2, g0, g2, ht.idx, iv_cell ht ex, cell_blk ho]
      exact ⟨L, hS, .inl ⟨.inr ⟨x, List.mem_of_getElem? ek, .inr c2⟩, rfl, h4.drop⟩⟩
    · simp (disch := omega) [c1, c2, ht.idx, iv_cell ht ex, cell_blk ho, g0, g1, g2, g8, g30, hc, hlim]
      refine ⟨fun j y hj hy => ?_, h4⟩
      rcases Nat.lt_or_ge j k with h5 | h5
      · exact hall j y h5 hy
      · have : j = k := by omega
        subst this
        rw [ek] at hy
        rw [← Option.some.inj hy]; omega
  rintro ρ w3 ⟨g0, g1, g2, g8, g30, hall, h3⟩
  have nb1 : ¬ RenBad1 n xs L := by
    rintro (h | ⟨v, hv, h⟩)
    · exact h hlen
    · obtain ⟨j, hj⟩ := List.getElem?_of_mem hv
      have := hall j v (List.getElem?_eq_some_iff.1 hj).1 hj
      omega
  simp
  refine loop_inv (fun q ρ w' => ∃ k, q = L.length - k ∧ 1 ≤ k ∧ k ≤ L.length + 1 ∧ ρ 12 = .int .i64 (k : Nat) ∧ ρ 0 = .pointer (some ⟨m, 0, none⟩) ∧ ρ 1 = .int .i64 (f : Nat) ∧ ρ 2 = tov ∧ ρ 8 = v ∧ (∀ i a b, i + 1 < k → L[i]? = some a → L[i + 1]? = some b → tgt xs a < tgt xs b) ∧
      At w F (Star (OwnA v 3 1 iv L) (Star (MgrA m n lim ns) B)) w') (L.length - 1)
    ⟨1, rfl, Nat.le_refl _, by omega, by simp, by simp [g0], by simp [g1], by simp [g2], by simp [g8], by omega, h3⟩ ?_
  rintro q ρ w4 ⟨k, rfl, hk1, hkl, c12, g0, g1, g2, g8, hstp, h4⟩
  have hs := h4.own.vw
  by_cases hk : k < L.length
  · have hk' : (k : Int) < L.length := by omega
    have ek : L[k]? = some L[k] := List.getElem?_eq_getElem hk
    have ej : L[k - 1]? = some (L[k - 1]'(by omega)) := List.getElem?_eq_getElem _
    obtain ⟨x, hxe⟩ : ∃ x, x = L[k] := ⟨_, rfl⟩
    obtain ⟨y, hye⟩ : ∃ y, y = L[k - 1]'(by omega) := ⟨_, rfl⟩
    rw [← hxe] at ek
    rw [← hye] at ej
    obtain ⟨x0, x1⟩ := hmem x (List.mem_of_getElem? ek)
    obtain ⟨y0, y1⟩ := hmem y (List.mem_of_getElem? ej)
    have ht := vw h4.drop
    have ex : xs[x.toNat]? = some (tgt xs x) := by simp [tgt, List.getD, List.getElem?_eq_getElem (show x.toNat < xs.length by omega)]
    have ey : xs[y.toNat]? = some (tgt xs y) := by simp [tgt, List.getD, List.getElem?_eq_getElem (show y.toNat < xs.length by omega)]
    have ekm : (k : Int) - 1 = ((k - 1 : Nat) : Int) := by omega
    have h5 := h4.drew hLo
    simp (disch := omega) [c12, g2, g8, hs.len, hk', wrap_i64, ekm]
    simp (disch := omega) [c12, g2, g8, hs.len, hk', wrap_i64, hs.idx, iv_cell hs ej, iv_cell hs ek, ht.idx, iv_cell ht ex, iv_cell ht ey]
    by_cases c1 : tgt xs x ≤ tgt xs y
    · simp [c1]
      exact ⟨L, hS, .inr (.inl ⟨nb1, ⟨k - 1, y, x, ej, by rw [show k - 1 + 1 = k by omega]; exact ek, c1⟩, rfl, h5.drop⟩)⟩
    · simp (disch := omega) [c1, c12, wrap_i64]
      refine ⟨L.length - (k + 1), by omega, k + 1, rfl, by omega, by omega, by simp, g0, g1, g2, g8, fun i a b hi ha hb => ?_, h5⟩
      rcases Nat.lt_or_ge (i + 1) k with h6 | h6
      · exact hstp i a b h6 ha hb
      · have : i = k - 1 := by omega
        subst this
        rw [ej] at ha
        rw [show k - 1 + 1 = k by omega, ek] at hb
        rw [← Option.some.inj ha, ← Option.some.inj hb]; omega
  · have hk' : ¬ (k : Int) < L.length := by omega
    have nb2 : ¬ RenBad2 xs L := by
      rintro ⟨i, a, b, ha, hb, h⟩
      have hl := (List.getElem?_eq_some_iff.1 hb).1
      have := hstp i a b (by omega) ha hb
      omega
    have hasc := asc_of hS.1 nb1 nb2
    simp [c12, g8, hs.len, hk', g1]
    by_cases hf2 : f < 2
    · have hf2' : (f : Int) < 2 := by omega
      simp [hf2', g1]
      exact ⟨L, hS, .inr (.inr ⟨nb1, nb2, some f, ns, [], rfl, c_const hw hbs (fun q hq => by cases hq) hf hf2, h4.drop⟩)⟩
    · have hf2' : ¬ (f : Int) < 2 := by omega
      have ht := vw h4.drop
      have hn0 : 0 < n := by have := hw.tv_var (show 2 ≤ f by omega) hf; omega
      have htov : ∃ a k c, tov = .slice (some a) k c := by
        rcases ht with ⟨_, h1⟩ | ⟨a, cap, h1, _⟩
        · rw [h1] at hlen; simp at hlen; omega
        · exact ⟨a, _, _, h1⟩
      have hto : ∀ i : Nat, (i : Int) ∈ L → xs[i]? = some (((tgt xs i).toNat : Nat) : Int) := fun i hi => by
        have h6 := hmem _ hi
        have h7 : ¬ (tgt xs i < 0) := fun h => nb1 (.inr ⟨_, hi, .inl h⟩)
        have e1 : tgt xs i = xs.getD i 0 := by simp [tgt]
        rw [show (((tgt xs i).toNat : Nat) : Int) = tgt xs i by omega, e1]
        simp [List.getD, List.getElem?_eq_getElem (show i < xs.length by omega)]
      simp [hf2', g0, g1, g2]
      have h6 := (h4.drop.newmap (ek := natV) (ev := natV) (ok := i64ok) hl).rot
      refine cl_of (change_renK m n lim w4.heap.size 0 0 tov xs (fun i => (i : Int) ∈ L) (fun i => (tgt xs i).toNat) htov hto hasc w F f f ns [] B _ hB hw hb hf (Nat.le_refl _) (fun q hq => by cases hq) (fun y hy => (hS.2 _).2 ⟨y, hy, rfl⟩) hR h6) ?_
      rintro _ w5 ⟨r, ns', M', rfl, hc, h7⟩
      cases r with
      | none => simp [optV, noV, errV]; exact ⟨L, hS, .inr (.inr ⟨nb1, nb2, none, ns', M', rfl, hc, h7.by (Imp.un Imp.dr)⟩)⟩
      | some x => simp [optV, okV]; exact ⟨L, hS, .inr (.inr ⟨nb1, nb2, some x, ns', M', rfl, hc, h7.by (Imp.un Imp.dr)⟩)⟩
end Go.Proofs.YtkojilpjpdpmaaaR
