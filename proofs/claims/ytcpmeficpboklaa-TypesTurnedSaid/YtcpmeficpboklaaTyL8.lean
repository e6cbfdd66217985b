/-
  A part of the proofs of this seat's statements (TyL8); no conditions beyond those each theorem names.
-/
import Derived.Test.YtcpmeficpboklaaTyL2
import Derived.Test.YtcpmeficpboklaaTyN
import Derived.Test.YtcpmeficpboklaaTyP5
set_option maxRecDepth 100000
set_option linter.unusedSimpArgs false
set_option linter.unusedVariables false
namespace Go.Proofs.Ytcpmeficpboklaa
open Go Go.W Go.Ty
theorem sz_perm {l l' : List Pr} (hp : l.Perm l') (h : Sz l) : Sz l' := fun p hm => h p (hp.mem_iff.2 hm)
theorem newP_kp {l : List Pr} {w w' : World} {v : Value} (h : NewP l w v w') : Kp [] w w' := by
  unfold NewP at h
  split at h
  · exact h.2
  · obtain ⟨f, b, _, hN⟩ := h
    exact hN.kp
theorem rot_ok {n : Int} {L : Nat} (hL : 0 < L) (hL2 : L ≤ 4398046511104) : ∃ r : Nat, Int.tmod (IntKind.i64.wrap (Int.tmod n L + L)) L = (r : Int) ∧ r < L := by
  have h1 : -(L : Int) < Int.tmod n L ∧ Int.tmod n L < L := by
    have h2 : (L : Int) ≠ 0 := by omega
    have h3 := Int.natAbs_tmod n L
    have h4 : (Int.tmod n L).natAbs < L := by
      rw [h3]
      simpa using Nat.mod_lt n.natAbs hL
    omega
  rw [wrap_i64 (by omega) (by omega)]
  obtain ⟨s, hs⟩ : ∃ s : Nat, Int.tmod n L + L = (s : Int) := ⟨(Int.tmod n L + L).toNat, by omega⟩
  rw [hs]
  exact ⟨s % L, rfl, Nat.mod_lt _ hL⟩
set_option maxHeartbeats 4000000 in
theorem law_turned (pv : Value) (l : List Pr) (n : Int) (w : World) (hn : -9223372036854775808 ≤ n ∧ n ≤ 9223372036854775807) (hl : Vw w pv ep l) (hln : l.length ≤ 4398046511104) (hsz : Sz l) (hm : HM w) :
    Calls Try.prog 10 [pv, .int .i64 n].toArray w fun e w' => ∃ v, e = .returned v ∧ v = .bool true ∧ Kp [] w w' := by
  refine enter Try.func10 mixed low10 (Nat.le_of_ble_eq_true rfl) ?_
  simp only [L10]
  simp [rowOf, hl.c1]
  refine cl_of (large1 pv l w hl (by omega)) ?_
  rintro v w1 ⟨⟨b, rfl⟩, k1⟩
  have hl1 := hl.kp0 k1
  cases b with
  | true =>
    simp
    refine cl_of (awake_spec w1 (hm.kp k1)) ?_
    rintro v w2 ⟨rfl, k2⟩
    simp
    exact k1.trans0 k2
  | false =>
  by_cases he : l.length = 0
  · have he' : ((l.length : Int) == 0) = true := by rw [beq_iff_eq]; omega
    simp [hl1.len, he, he']
    refine cl_of (awake_spec w1 (hm.kp k1)) ?_
    rintro v w2 ⟨rfl, k2⟩
    simp
    exact k1.trans0 k2
  have hpos : 0 < l.length := by omega
  have he' : ((l.length : Int) == 0) = false := by rw [beq_eq_false_iff_ne]; omega
  have hne : ¬ l = [] := fun e => by rw [e] at hpos; simp at hpos
  simp [hl1.len, he', hne, he]
  refine cl_of (awake_spec w1 (hm.kp k1)) ?_
  rintro v w2 ⟨rfl, k2⟩
  have k02 := k1.trans0 k2
  have hl2 := hl.kp0 k02
  obtain ⟨r, hr, hrl⟩ := rot_ok (n := n) hpos hln
  simp [hl2.len, hne, hr]
  have k03 := k02.drew
  have hl3 := hl.kp0 k03
  obtain ⟨w3, hw3⟩ : ∃ w3, w3 = w2.drew := ⟨_, rfl⟩
  rw [← hw3] at hl3 k03
  have h0 : New w3 (Star (OwnA (.slice (some ⟨w3.heap.size, 0, none⟩) 0 0) 44 2 ep []) Emp) (w3.alloc (.cells #[] 44)) := by
    refine (New.emp (Kp.refl [] w3)).more Lcl.emp ((Kp.refl _ _).alloc _) ⟨_, ⟨.inr ⟨w3.heap.size, 0, #[], [], rfl, alloc_new, rfl, rfl, by simp, by simp⟩, rfl⟩, by simp⟩
  have hl4 := hl3.kp0 h0.kp
  have hz3 : w2.heap.size = w3.heap.size := by rw [hw3]; rfl
  obtain ⟨w4, hw4⟩ : ∃ w4, w4 = w3.alloc (.cells #[] 44) := ⟨_, rfl⟩
  rw [← hw4] at hl4 h0
  refine hl4.slice_lo ep_len sl_22 (lo := r) (by omega) fun u1 hu1 _ => ?_
  simp
  rw [← hw3, hz3, ← hw4]
  refine New.appendV Lcl.emp h0 hu1 ep_len ep_one sl_22 (by simp; omega) (by simp; unfold maxLen; omega) fun v5 w5 n5 => ?_
  have k05 := k03.trans0 n5.kp
  have hl5 := hl.kp0 k05
  simp
  refine hl5.slice_hi ep_len sl_22 (hi := r) (by omega) fun u2 hu2 _ => ?_
  simp
  refine New.appendV Lcl.emp n5 hu2 ep_len ep_one sl_22 (by simp; omega) (by simp; unfold maxLen; omega) fun v6 w6 n6 => ?_
  rw [List.nil_append] at n6
  have hperm : l.Perm (l.drop r ++ l.take r) := by
    have := (List.perm_append_comm (l₁ := l.drop r) (l₂ := l.take r)).symm
    rwa [List.take_append_drop] at this
  obtain ⟨l', hl'⟩ : ∃ l', l' = l.drop r ++ l.take r := ⟨_, rfl⟩
  rw [← hl'] at hperm n6
  have hsz' := sz_perm hperm hsz
  have hlen' := hperm.length_eq
  have k06 := k03.trans0 n6.kp
  have hl6 := hl.kp0 k06
  have ht6 := n6.own.vw
  simp
  refine cl_of (new_spec pv l w6 hl6 (by omega) hsz (hm.kp k06)) ?_
  rintro v7 w7 h7
  have k07 := k06.trans0 (newP_kp h7)
  have ht7 := ht6.kp0 (newP_kp h7)
  have hcode := code_perm hperm
  cases hE : newE l with
  | some q =>
    obtain ⟨i, c⟩ := q
    rw [hE] at hcode
    cases hE' : newE l' with
    | none => rw [hE'] at hcode; cases hcode
    | some q' =>
    obtain ⟨i', c'⟩ := q'
    rw [hE'] at hcode
    simp at hcode
    subst hcode
    simp only [NewP, hE] at h7
    obtain ⟨rfl, _⟩ := h7
    simp
    refine cl_of (new_spec v6 l' w7 ht7 (by omega) hsz' (hm.kp k07)) ?_
    rintro v8 w8 h8
    have k08 := k07.trans0 (newP_kp h8)
    simp only [NewP, hE'] at h8
    obtain ⟨rfl, _⟩ := h8
    simp
    refine cl_of (num_code w8 c) ?_
    rintro v9 w9 ⟨rfl, k9⟩
    simp
    refine cl_of (num_code w9 c) ?_
    rintro va wa ⟨rfl, ka⟩
    simp
    exact (k08.trans0 k9).trans0 ka
  | none =>
  rw [hE] at hcode
  cases hE' : newE l' with
  | some q' => rw [hE'] at hcode; cases hcode
  | none =>
  simp only [NewP, hE] at h7
  obtain ⟨f, b, rfl, hN⟩ := h7
  have hf7 := hN |> FAA.get
  have hA := acc_of hE
  have hA' := acc_of hE'
  have hnd := hA.nodup
  simp
  refine cl_of (new_spec v6 l' w7 ht7 (by omega) hsz' (hm.kp k07)) ?_
  rintro v8 w8 h8
  have k08 := k07.trans0 (newP_kp h8)
  have hf8 := hf7.kp0 (newP_kp h8)
  simp only [NewP, hE'] at h8
  obtain ⟨g, b', rfl, hN'⟩ := h8
  have hg8 := hN' |> FAA.get
  simp
  refine cl_of (num_nil w8) ?_
  rintro v9 w9 ⟨rfl, k9⟩
  simp
  refine cl_of (num_nil w9) ?_
  rintro va wa ⟨rfl, ka⟩
  have k8a := k9.trans0 ka
  have k0a := k08.trans0 k8a
  have hla := hl.kp0 k0a
  simp
  refine cl_of (names_spec pv l wa hla (by omega)) ?_
  rintro nv wb hnm
  have k0b := k0a.trans0 hnm.kp
  have k8b := k8a.trans0 hnm.kp
  have hfb := hf8.kp0 k8b
  have hgb := hg8.kp0 k8b
  have hvb := hnm.own.vw
  have h64 := hA.len
  have h64' := hA'.len
  obtain ⟨xs, hxs⟩ : ∃ xs, xs = nmL l (min l.length 12) := ⟨_, rfl⟩
  have hxl := nmL_len l (min l.length 12) (by omega)
  have hxz := nmL_sz hsz (min l.length 12)
  rw [← hxs] at hvb hxl hxz
  simp
  refine for_len (l := xs) (pv := nv) (enc := es) (by omega) is_34 (fun k ρ w5 => ρ 6 = .pointer (some ⟨f, 0, none⟩) ∧ ρ 9 = .pointer (some ⟨g, 0, none⟩) ∧ Kp [] wb w5) (fun k ρ w1 h => hvb.kp0 h.2.2) (by simp) (by simp) ⟨by simp, by simp, Kp.refl _ _⟩ (by decide)
    (fun _ _ _ _ h => by simpa using h) (fun _ _ _ _ h => by simpa using h) ?_ ?_
  · rintro i ρ wc hi hci hpi ⟨g0, g3, kp5⟩
    have ei : xs[i]? = some xs[i] := List.getElem?_eq_getElem hi
    have hsi := hxz _ (List.getElem_mem hi)
    obtain ⟨a, ha⟩ : ∃ a, a = xs[i] := ⟨_, rfl⟩
    rw [← ha] at ei hsi
    simp
    refine for_len (l := xs) (pv := nv) (enc := es) (by omega) is_34 (fun k ρ w6 => ρ 6 = .pointer (some ⟨f, 0, none⟩) ∧ ρ 9 = .pointer (some ⟨g, 0, none⟩) ∧ ρ 13 = .int .i64 i ∧ Kp [] wb w6) (fun k ρ w1 h => hvb.kp0 h.2.2.2) (by simp) (by simp [hpi]) ⟨by simp [g0], by simp [g3], by simp [hci], kp5⟩ (by decide)
      (fun _ _ _ _ h => by simpa using h) (fun _ _ _ _ h => by simpa using h) ?_ ?_
    · rintro j ρ w6 hj hcj hpj ⟨f0, f3, f7, kp6⟩
      have ej : xs[j]? = some xs[j] := List.getElem?_eq_getElem hj
      have hsj := hxz _ (List.getElem_mem hj)
      obtain ⟨c, hc⟩ : ∃ c, c = xs[j] := ⟨_, rfl⟩
      rw [← hc] at ej hsj
      have k6 := kp6.drew
      have hv6 := hvb.kp0 k6
      have hif := isP_perm hperm hnd a c
      have hcf := comP_perm hperm hnd a c
      simp (disch := omega) [f0, f3, f7, hcj, hpj, hv6.idx, es_cell hv6 ei, es_cell hv6 ej]
      refine ⟨?_, ?_, ?_, ?_, ?_, ?_, ?_, ?_, ?_, ?_, ?_, ?_, ?_, ?_, ?_, ?_⟩
      all_goals
        refine cl_of (is_specP f b l a c _ (hfb.kp0 k6) hsz hsi hsj hA) ?_
        rintro v w7 ⟨rfl, k7⟩
        have kb7 := k6.trans0 k7
        have hv7 := hvb.kp0 kb7
        simp (disch := omega) [f0, f3, f7, hcj, hpj, hv7.idx, es_cell hv7 ei, es_cell hv7 ej]
        refine cl_of (is_specP g b' l' a c w7 (hgb.kp0 kb7) hsz' hsi hsj hA') ?_
        rintro v w8 ⟨rfl, k8⟩
        have kb8 := kb7.trans0 k8
        have hv8 := hvb.kp0 kb8
        simp (disch := omega) [← hif, f0, f3, f7, hcj, hpj, hv8.idx, es_cell hv8 ei, es_cell hv8 ej]
        refine cl_of (common_spec f b l a c _ (hfb.kp0 kb8) hsz hsi hsj hA) ?_
        rintro v w9 ⟨rfl, k9⟩
        have kb9 := kb8.trans0 k9
        have hv9 := hvb.kp0 kb9
        simp (disch := omega) [f0, f3, f7, hcj, hpj, hv9.idx, es_cell hv9 ei, es_cell hv9 ej]
        refine cl_of (common_spec g b' l' a c _ (hgb.kp0 kb9) hsz' hsi hsj hA') ?_
        rintro v w10 ⟨rfl, k10⟩
        simp [← hcf, beq_str, f0, f3, f7, hcj, hpj]
        exact kb9.trans0 k10
    · rintro ρ w6 hpj ⟨f0, f3, f7, kp6⟩
      simp [f0, f3, f7, hpj]
      exact kp6
  · rintro ρ wc hpi ⟨g0, g3, kp5⟩
    have k0c := k0b.trans0 kp5
    simp [g0, g3]
    refine cl_of (fnames_spec f b l wc (hfb.kp0 kp5) hsz h64) ?_
    rintro x wd nd
    simp [g3]
    refine cl_of (fnames_spec g b' l' wd ((hgb.kp0 kp5).kp0 nd.kp) hsz' h64') ?_
    rintro y we ne
    have hx1 := nmS_len l
    have hy1 := nmS_len l'
    simp
    refine cl_of (texts_spec x y _ _ we (nd.own.vw.kp0 ne.kp) ne.own.vw (by omega) (by omega)) ?_
    rintro _ wf ⟨rfl, kf⟩
    have := nmS_eq hperm
    simp [this]
    exact ((k0c.trans0 nd.kp).trans0 ne.kp).trans0 kf
end Go.Proofs.Ytcpmeficpboklaa
