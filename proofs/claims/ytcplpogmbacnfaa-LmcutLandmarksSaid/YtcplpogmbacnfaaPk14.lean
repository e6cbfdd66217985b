/-
  A part of the proof of this claim's statement (RxYL, RxYM, LmPlain, LmCut): plain theorems; no conditions beyond those each names.
-/
import Derived.Test.YtcplpogmbacnfaaPk13
import Derived.Test.YtcplpogmbacnfaaPk12
section
set_option maxRecDepth 100000
set_option linter.unusedSimpArgs false
set_option linter.unusedVariables false
namespace Go.Rx
open Go Go.W Go.Tk
structure Low (es : List (Nat × Nat × Nat)) (c : Nat → Nat) (G : Nat → Bool) (H : Nat → Nat) : Prop where
  le : ∀ i, H i ≤ Inf
  z : ∀ i, G i = true → H i = 0
  st : ∀ e ∈ es, H e.1 ≤ H e.2.2 + c e.2.1
structure Dok (es : List (Nat × Nat × Nat)) (c : Nat → Nat) (G : Nat → Bool) (d : List Nat) : Prop where
  z0 : ∀ i, i < d.length → G i = true → d.getD i 0 = 0
  le : ∀ i, i < d.length → d.getD i 0 ≤ Inf
  low : ∀ H, Low es c G H → ∀ i, i < d.length → H i ≤ d.getD i 0
def DClo (es : List (Nat × Nat × Nat)) (c : Nat → Nat) (d : List Nat) : Prop := ∀ e ∈ es, d.getD e.2.2 0 < Inf → d.getD e.1 0 ≤ d.getD e.2.2 0 + c e.2.1
theorem getD_set_same {d : List Nat} {i x : Nat} (h : i < d.length) : (d.set i x).getD i 0 = x := by simp [List.getD, List.getElem?_set_self h]
theorem getD_set_ne {d : List Nat} {i j x : Nat} (h : i ≠ j) : (d.set i x).getD j 0 = d.getD j 0 := by simp only [List.getD, List.getElem?_set_ne h]
theorem sum_set_lt : ∀ {d : List Nat} {i x : Nat}, i < d.length → x < d.getD i 0 → (d.set i x).sum < d.sum
  | [], i, x, h, _ => by simp at h
  | a :: d, 0, x, _, h => by
    simp at h
    simp [List.sum_cons]; exact h
  | a :: d, i + 1, x, h, h2 => by
    have := sum_set_lt (d := d) (i := i) (x := x) (by simpa using h) (by simpa using h2)
    simp [List.sum_cons]; exact this
theorem Dok.step {es : List (Nat × Nat × Nat)} {c : Nat → Nat} {G : Nat → Bool} {d : List Nat} {e : Nat × Nat × Nat} (h : Dok es c G d) (he : e ∈ es) (hf : e.1 < d.length) (ht : e.2.2 < d.length) (hlt : d.getD e.2.2 0 + c e.2.1 < d.getD e.1 0) : Dok es c G (d.set e.1 (d.getD e.2.2 0 + c e.2.1)) := {
  z0 := fun i hi hG => by
    rw [List.length_set] at hi
    by_cases hie : e.1 = i
    · subst hie
      have := h.z0 _ hf hG
      omega
    · rw [getD_set_ne hie]; exact h.z0 i hi hG
  le := fun i hi => by
    rw [List.length_set] at hi
    by_cases hie : e.1 = i
    · subst hie
      rw [getD_set_same hf]
      have := h.le _ hf
      omega
    · rw [getD_set_ne hie]; exact h.le i hi
  low := fun H hH i hi => by
    rw [List.length_set] at hi
    by_cases hie : e.1 = i
    · subst hie
      rw [getD_set_same hf]
      have h1 := hH.st e he
      have h2 := h.low H hH e.2.2 ht
      omega
    · rw [getD_set_ne hie]; exact h.low H hH i hi }
end Go.Rx
namespace Go.Proofs.Ytcplpogmbacnfaa
open Go Go.W Go.Tk Go.Rx Go.Maps
def edO (e : Ed) : Obj := .cells #[.int .i64 (e.1 : Nat), .int .i64 (e.2.1 : Nat), .int .i64 (e.2.2 : Nat)] 95 (0, 0)
theorem st_ed {wa w : World} {F : List Nat} {X : Asr} {KW : Kont World} {e : Ed} {b : Nat} (hX : Lcl X) (h : At w F X wa) (hb : b = wa.heap.size) (H : ∀ w2, At w F (Star (ObjA b (edO e)) X) w2 → KW.run w2) :
    @stJ (wa.alloc (.cells #[.int .i64 0, .int .i64 0, .int .i64 0] 95 (0, 0))) ⟨b, 0, none⟩ [.int .i64 (e.1 : Nat), .int .i64 (e.2.1 : Nat), .int .i64 (e.2.2 : Nat)] KW := by
  have h1 : At w F (Star (ObjA b (.cells #[.int .i64 0, .int .i64 0, .int .i64 0] 95 (0, 0))) X) (wa.alloc (.cells #[.int .i64 0, .int .i64 0, .int .i64 0] 95 (0, 0))) := by rw [hb]; exact h.alloc _ hX
  exact h1.st hX (by simp) (by simp) fun w2 h2 => H w2 (by simpa [edO] using h2)
def goalB (T : Nt) (i : Nat) : Bool := match (stsK T.vars T.vars.length)[i]? with | some s => hdB s T.goal | none => false
def d0 (T : Nt) (i : Nat) : Nat := if goalB T i = true then 0 else Inf
theorem d0_ok (T : Nt) (es : List Ed) (c : Nat → Nat) (n : Nat) : Dok es c (goalB T) (tabN n (d0 T)) := {
  z0 := fun i hi h => by
    rw [tabN_len] at hi
    simp only [List.getD, tabN_at hi, Option.getD_some]
    unfold d0; rw [if_pos h]
  le := fun i hi => by
    rw [tabN_len] at hi
    simp only [List.getD, tabN_at hi, Option.getD_some]
    unfold d0; split
    · omega
    · exact Nat.le_refl _
  low := fun H hH i hi => by
    rw [tabN_len] at hi
    simp only [List.getD, tabN_at hi, Option.getD_some]
    unfold d0; split
    · rename_i h; rw [hH.z i h]; exact Nat.le_refl _
    · exact hH.le i }
/-- The costs that a search for distances has. -/
def CvOk (T : Nt) (cv : Value) (c : Nat → Nat) (w : World) : Prop := (cv = .slice none 0 0 ∧ ∀ i o, T.ops[i]? = some o → c i = o.cost) ∨ ∃ cl a cap, cv = .slice (some a) cl.length cap ∧ Vw w cv nE cl ∧ cl.length = T.ops.length ∧ ∀ i, c i = cl.getD i 0
theorem CvOk.kp {T : Nt} {cv : Value} {c : Nat → Nat} {w w' : World} (h : CvOk T cv c w) (k : Kp [] w w') : CvOk T cv c w' := by
  rcases h with h | ⟨cl, a, cap, h1, h2, h3⟩
  · exact .inl h
  · exact .inr ⟨cl, a, cap, h1, h2.kp0 k, h3⟩
theorem CvOk.of {T : Nt} {cv : Value} {cl : List Nat} {w : World} (h : Vw w cv nE cl) (hl : cl.length = T.ops.length) : CvOk T cv (fun i => cl.getD i 0) w := by
  rcases sl_nil h with ⟨rfl, rfl⟩ | ⟨a, cap, e⟩
  · refine .inl ⟨rfl, fun i o ho => ?_⟩
    have := (List.getElem?_eq_some_iff.1 ho).1
    simp at hl; omega
  · exact .inr ⟨cl, a, cap, e, h, hl, fun _ => rfl⟩
/-- The loop until nothing changes; over the edges. -/
def DsI (T : Nt) (cv dv ev : Value) (b : Nat) (c : Nat → Nat) (N : Nat) (w : World) (n : Nat) (ρ : Env) (w' : World) : Prop :=
  ρ 1 = cv ∧ ρ 2 = .pointer (some ⟨b, 0, none⟩) ∧ ρ 6 = dv ∧ ρ 9 = ev ∧ ∃ d ch, ρ 10 = .bool ch ∧ d.length = N ∧ Dok (edA T) c (goalB T) d ∧ (ch = false → DClo (edA T) c d) ∧ n = (if ch then d.sum + 1 else 0) ∧ At w [] (Star (OwnA dv 3 1 nE d) (Star (OwnA ev 95 3 edE (edA T)) Emp)) w'
structure Dsf (T : Nt) (c : Nat → Nat) (N s0 k : Nat) (ch : Bool) (d : List Nat) : Prop where
  len : d.length = N
  ok : Dok (edA T) c (goalB T) d
  clo : ch = false → DClo ((edA T).take k) c d
  lt : ch = true → d.sum < s0
  le : d.sum ≤ s0
def DsE (T : Nt) (cv dv ev : Value) (b : Nat) (c : Nat → Nat) (N s0 : Nat) (w : World) (k : Nat) (ρ : Env) (w' : World) : Prop :=
  ρ 1 = cv ∧ ρ 2 = .pointer (some ⟨b, 0, none⟩) ∧ ρ 6 = dv ∧ ρ 9 = ev ∧ ρ 41 = ev ∧ ∃ d ch, ρ 10 = .bool ch ∧ Dsf T c N s0 k ch d ∧ At w [] (Star (OwnA dv 3 1 nE d) (Star (OwnA ev 95 3 edE (edA T)) Emp)) w'
theorem upd_upto {g : Nat → Nat} {i x : Nat} (hx : g i = x) (y : Nat) : updN (updN (upto i g 0) i y) i x = upto (i + 1) g 0 := by
  rw [← upto_succ, hx]
  funext j
  by_cases h : j = i
  · subst h; simp
  · rw [updN_ne h, updN_ne h, updN_ne h]
theorem ed_rng {T : Nt} (hT : SmT T) {e : Ed} (he : e ∈ edA T) : e.1 < (stsK T.vars T.vars.length).length ∧ e.2.1 < T.ops.length ∧ e.2.2 < (stsK T.vars T.vars.length).length := by
  obtain ⟨s, o, h1, h2, h3, h4⟩ := edK_mem he
  refine ⟨(List.getElem?_eq_some_iff.1 h1).1, (List.getElem?_eq_some_iff.1 h2).1, ?_⟩
  have hst := apS_st (sts_st (List.mem_of_getElem? h1)) (hT.g.ops o (List.mem_of_getElem? h2))
  rw [h4]
  exact (List.getElem?_eq_some_iff.1 (rk_all hst)).1
set_option maxHeartbeats 1000000 in
theorem distances_spec {w : World} (T : Nt) (cv : Value) (c : Nat → Nat) (hr : NtR w T) (hT : SmT T) (hc : CvOk T cv c w) (hcb : ∀ i, i < T.ops.length → c i ≤ 1048576) :
    Calls Try.prog 19 [ntV T, cv].toArray w fun e w' => ∃ u, e = .returned u ∧ ∃ d, d.length = (stsK T.vars T.vars.length).length ∧ Dok (edA T) c (goalB T) d ∧ DClo (edA T) c d ∧ Vw w' u nE d ∧ Kp [] w w' := by
  refine enter Try.func19 mixed low19 (Nat.le_of_ble_eq_true rfl) ?_
  simp only [L19]
  have hg := hT.g
  have hol := hT.ol
  have hvl := hT.vl
  obtain ⟨b, hb⟩ : ∃ b, b = w.heap.size := ⟨_, rfl⟩
  obtain ⟨w1, hw1⟩ : ∃ w1, w1 = w.alloc (ntO T) := ⟨_, rfl⟩
  have k1 : Kp [] w w1 := by rw [hw1]; exact (Kp.refl [] w).alloc _
  have hw1' : w.alloc (.cells #[T.vv.1, T.nv.1, T.gv.1, T.ov.1] 26 (0, 0)) = w1 := by rw [hw1]; rfl
  have hob : w1.heap[b]? = some (.cells #[T.vv.1, T.nv.1, T.gv.1, T.ov.1] 26 (0, 0)) := by rw [hb, hw1]; exact alloc_new
  have hr1 := hr.kp k1
  simp [ntV, ← hb, hw1', cell_blk hob]
  refine cl_of (states_spec T.vv.1 T.vars hr1.vars (by omega) (fun n hn => by have := hg.vars n hn; omega) (SmT.sts hT) (fun k hk s hs => by have := (sts_ok k hk s hs).1; omega)) ?_
  rintro all w2 h2
  have hls := LLA.vw h2
  have k2 := k1.trans0 h2.kp
  have ob2 := h2.kp.blk hob (by simp)
  have hr2 := hr.kp k2
  have hc2 := hc.kp k2
  obtain ⟨ps, hpl, hpv, hpr⟩ := hls.spread
  have h512 := sts512 hT
  obtain ⟨N, hN⟩ : ∃ N, N = ps.length := ⟨_, rfl⟩
  have hN512 : N ≤ 512 := by omega
  simp [hpv.len, ← hN]
  refine gd_mk (by omega) ?_
  have h3 := (At.start rfl : At w2 [] Emp w2).made (E := 3) (enc := nE) (x := 0) (z := [.int .i64 0]) (n := N) .emp rfl nE_len (by unfold maxLen; omega)
  rw [upto_zero N 0 (d0 T)] at h3
  obtain ⟨dv, hdv⟩ : ∃ dv, dv = Value.slice (some ⟨w2.heap.size, 0, none⟩) N N := ⟨_, rfl⟩
  rw [← hdv] at h3
  simp [← hdv, hpv.len, ← hN]
  refine range_loop (n := N) (by omega) (fun i ρ w' => ρ 1 = cv ∧ ρ 2 = .pointer (some ⟨b, 0, none⟩) ∧ ρ 6 = dv ∧ ρ 20 = all ∧ At w2 [] (Star (OwnA dv 3 1 nE (tabN N (upto i (d0 T) 0))) Emp) w') (by simp) (by simp)
    ⟨by simp, by simp, by simp, by simp, by simpa using h3⟩ (by decide) (fun _ _ _ _ h => by simpa using h) (fun _ _ _ _ h => by simpa using h) ?_ ?_
  · rintro i ρ w4 hi hci hli ⟨g1, g2, g6, g20, h4⟩
    obtain ⟨p, hp⟩ : ∃ p, ps[i]? = some p := ⟨_, List.getElem?_eq_getElem (by omega)⟩
    obtain ⟨s, hsk, hsv⟩ := hpr i p hp
    have hst := sts_st (List.mem_of_getElem? hsk)
    have hpv4 := hpv.kp0 h4.kp
    have ep : w4.cell? (all.adr.add i) = some p.1.1 := by simpa using hpv4.at_ sv1_len hp (o := 0) (u := p.1.1) rfl
    have hki : (i : Int) < ps.length := by omega
    have hiN : (i : Int) < N := by omega
    have htl : (tabN N (upto i (d0 T) 0)).length = N := tabN_len _ _
    simp (disch := omega) [g2, g6, g20, hci, hli, hpv4.idx, ep, h4.own.idx, htl]
    refine h4.store1 .emp nE_len nE_one (k := i) (by omega) (x := Inf) rfl fun w5 h5 => ?_
    rw [tabN_set hi] at h5
    have ob5 := h5.kp.blk ob2 (by simp)
    have hgl := hg.goal.len
    simp [g2, cell_blk ob5]
    refine cl_of (holds_spec T.gv.1 p.1.1 T.goal s (hr2.kp h5.kp).goal (hsv.kp0 h5.kp) (by omega) (fun f hf => by rw [hst.len]; exact (hg.goal.rng f hf).1)) ?_
    rintro _ w6 ⟨rfl, k6⟩
    have h6 := h5.kp0 (Lcl.own.star .emp) k6
    have hgi : goalB T i = hdB s T.goal := by unfold goalB; rw [hsk]
    cases hh : hdB s T.goal with
    | false =>
      have e : d0 T i = Inf := by unfold d0; rw [hgi, hh]; rfl
      rw [← e, upto_succ] at h6
      simp [g1, g2, g6, g20, hci, hli]
      exact h6
    | true =>
      have e : d0 T i = 0 := by unfold d0; rw [hgi, hh]; rfl
      have htl6 : (tabN N (updN (upto i (d0 T) 0) i Inf)).length = N := tabN_len _ _
      simp (disch := omega) [g6, hci, h6.own.idx, htl6]
      refine h6.store1 .emp nE_len nE_one (k := i) (by omega) (x := 0) rfl fun w7 h7 => ?_
      rw [tabN_set hi, upd_upto e Inf] at h7
      simp [g1, g2, g6, g20, hci, hli]
      exact h7
  rintro ρ w4 ⟨g1, g2, g6, g20, h4⟩
  rw [upto_all] at h4
  have ob4 := h4.kp.blk ob2 (by simp)
  have rt : cellsAt w4 ⟨b, 0, none⟩ 0 4 = some [T.vv.1, T.nv.1, T.gv.1, T.ov.1] := by simp [cellsAt, Addr.add, cell_blk ob4]
  simp [g2, rt]
  refine cl_of (edges_spec T (hr2.kp h4.kp) hT) ?_
  rintro ev w5 h5
  have h6 := (At.join (Lcl.own.star .emp) h4 h5).by Imp.sw
  simp
  refine loop_inv (DsI T cv dv ev b c N w2) ((tabN N (d0 T)).sum + 1) ⟨by simp [g1], by simp [g2], by simp [g6], by simp, _, true, by simp, tabN_len _ _, d0_ok T (edA T) c N, by simp, rfl, h6⟩ ?_
  clear g1 g2 g6 g20 h4 h5 h6 rt ob4
  rintro n ρ w6 ⟨g1, g2, g6, g9, d, ch, g10, hdl, hok, hcl, rfl, h6⟩
  cases ch with
  | false =>
    simp [g10, g6]
    exact ⟨d, by omega, hok, hcl rfl, h6.own.vw, k2.trans0 h6.kp⟩
  | true =>
    have hel := edK_len T (stsK T.vars T.vars.length).length
    have hel2 : (stsK T.vars T.vars.length).length * T.ops.length ≤ 512 * 20 := Nat.mul_le_mul (by omega) hol
    have helA : (edA T).length ≤ 10240 := by show (edK T (stsK T.vars T.vars.length).length).length ≤ _; omega
    obtain ⟨s0, hs0⟩ : ∃ s0, s0 = d.sum := ⟨_, rfl⟩
    obtain ⟨M, hM⟩ : ∃ M, M = (edA T).length := ⟨_, rfl⟩
    simp [g10, g9, h6.drop.own.vw.len, ← hM]
    refine range_loop (n := M) (by omega) (DsE T cv dv ev b c N s0 w2) (by simp) (by simp)
      ⟨by simp [g1], by simp [g2], by simp [g6], by simp [g9], by simp, d, false, by simp, ⟨hdl, hok, fun _ e he => by simp at he, by simp, by omega⟩, by simpa using h6⟩ (by decide) (fun _ _ _ _ h => by unfold DsE at h ⊢; simpa using h) (fun _ _ _ _ h => by unfold DsE at h ⊢; simpa using h) ?_ ?_
    rotate_left
    · clear g1 g2 g6 g9 g10 h6
      rintro ρ w7 ⟨g1, g2, g6, g9, g41, d2, ch2, g10, hF, h7⟩
      simp
      have hcl2 := hF.clo
      rw [hM, List.take_length] at hcl2
      refine ⟨_, ?_, g1, g2, g6, g9, d2, ch2, g10, hF.len, hF.ok, hcl2, rfl, h7⟩
      cases ch2 with
      | false => simp
      | true => have := hF.lt rfl; simp; omega
    clear g1 g2 g6 g9 g10 h6 hcl hok
    rintro k ρ w7 hk hck hlk ⟨g1, g2, g6, g9, g41, d2, ch2, g10, hF, h7⟩
    obtain ⟨e, he⟩ : ∃ e, (edA T)[k]? = some e := ⟨_, List.getElem?_eq_getElem (by omega)⟩
    have hem := List.mem_of_getElem? he
    obtain ⟨r1, r2, r3⟩ := ed_rng hT hem
    obtain ⟨ef, eq, et⟩ := e
    simp only at r1 r2 r3
    obtain ⟨o, ho⟩ : ∃ o, T.ops[eq]? = some o := ⟨_, List.getElem?_eq_getElem r2⟩
    have hcq := hcb eq r2
    obtain ⟨fb, hfb⟩ : ∃ fb, fb = w7.heap.size := ⟨_, rfl⟩
    have hLX : ∀ l : List Nat, Lcl (Star (OwnA dv 3 1 nE l) (Star (OwnA ev 95 3 edE (edA T)) Emp)) := fun _ => Lcl.own.star (Lcl.own.star .emp)
    refine seq_cut (fun ρ w' => ρ 1 = cv ∧ ρ 2 = .pointer (some ⟨b, 0, none⟩) ∧ ρ 6 = dv ∧ ρ 9 = ev ∧ ρ 41 = ev ∧ ρ 42 = .int .i64 (M : Nat) ∧ ρ 43 = .int .i64 (k : Nat) ∧ ρ 10 = .bool ch2 ∧ ρ 12 = .pointer (some ⟨fb, 0, none⟩) ∧ At w2 [] (Star (ObjA fb (edO (ef, eq, et))) (Star (OwnA dv 3 1 nE d2) (Star (OwnA ev 95 3 edE (edA T)) Emp))) w') ?_ ?_
    · have hev := h7.drop.own.vw
      have ec := hev.cells edE_len he
      simp only [edE] at ec
      have hki : (k : Int) < (edA T).length := by omega
      simp (disch := omega) [g9, g41, hck, hlk, hev.idx, ec, ← hfb]
      refine st_ed (e := (ef, eq, et)) (hLX _) h7 hfb fun w8 h8 => ?_
      simp [g1, g2, g6, g9, g41, g10, hck, hlk, ← hfb]
      exact h8
    clear g1 g2 g6 g9 g41 g10 hck hlk h7 hfb
    rintro ρ w7 ⟨g1, g2, g6, g9, g41, g42, g43, g10, g12, h7⟩
    have oe7 := h7.obj
    unfold edO at oe7
    have ob7 := h7.kp.blk ob2 (by simp)
    have hr7 := (hr2.kp h7.kp).ops
    have hqi : (eq : Int) < T.ops.length := by omega
    refine seq_cut (fun ρ w' => ρ 1 = cv ∧ ρ 2 = .pointer (some ⟨b, 0, none⟩) ∧ ρ 6 = dv ∧ ρ 9 = ev ∧ ρ 41 = ev ∧ ρ 42 = .int .i64 (M : Nat) ∧ ρ 43 = .int .i64 (k : Nat) ∧ ρ 10 = .bool ch2 ∧ ρ 12 = .pointer (some ⟨fb, 0, none⟩) ∧ ρ 13 = .int .i64 (o.cost : Nat) ∧ w' = w7) ?_ ?_
    · have c1 := hr7.fld noE_len ho (o := 1) (u := .int .i64 (o.cost : Nat)) rfl
      simp (disch := omega) [g1, g2, g6, g9, g41, g42, g43, g10, g12, cell_blk ob7, cell_blk oe7, hr7.idx, c1]
    clear g1 g2 g6 g9 g41 g42 g43 g10 g12
    rintro ρ w7 ⟨g1, g2, g6, g9, g41, g42, g43, g10, g12, g13, rfl⟩
    refine seq_cut (fun ρ w' => ρ 1 = cv ∧ ρ 2 = .pointer (some ⟨b, 0, none⟩) ∧ ρ 6 = dv ∧ ρ 9 = ev ∧ ρ 41 = ev ∧ ρ 42 = .int .i64 (M : Nat) ∧ ρ 43 = .int .i64 (k : Nat) ∧ ρ 10 = .bool ch2 ∧ ρ 12 = .pointer (some ⟨fb, 0, none⟩) ∧ ρ 13 = .int .i64 (c eq : Nat) ∧ w' = w7) ?_ ?_
    · rcases hc2.kp h7.kp with ⟨rfl, hcc⟩ | ⟨cl, a, cap, e1, hcv, hcll, hcc⟩
      · have := hcc eq o ho
        rw [← this] at g13
        simp [g1, g2, g6, g9, g41, g42, g43, g10, g12, g13]
      · obtain ⟨x, hx⟩ : ∃ x, cl[eq]? = some x := ⟨_, List.getElem?_eq_getElem (by omega)⟩
        have hxe : c eq = x := by rw [hcc eq]; simp [List.getD, hx]
        have hqc : (eq : Int) < cl.length := by omega
        have c2 := nE_cell hcv hx
        subst e1
        have c2 : w7.cell? (a.add eq) = some (.int .i64 (x : Nat)) := c2
        simp (disch := omega) [g1, g2, g6, g9, g41, g42, g43, g10, g12, cell_blk oe7, hcv.idx, c2, hxe]
    clear g1 g2 g6 g9 g41 g42 g43 g10 g12 g13
    rintro ρ w7 ⟨g1, g2, g6, g9, g41, g42, g43, g10, g12, g13, rfl⟩
    have h8 := h7.by Imp.sw
    have hO := h8.own
    have hdl2 := hF.len
    have tki : (edA T).take (k + 1) = (edA T).take k ++ [(ef, eq, et)] := take_snoc he
    obtain ⟨xt, hxt⟩ : ∃ x, d2[et]? = some x := ⟨_, List.getElem?_eq_getElem (by omega)⟩
    obtain ⟨xf, hxf⟩ : ∃ x, d2[ef]? = some x := ⟨_, List.getElem?_eq_getElem (by omega)⟩
    have hxtd : d2.getD et 0 = xt := by simp [List.getD, hxt]
    have hxfd : d2.getD ef 0 = xf := by simp [List.getD, hxf]
    have hti : (et : Int) < d2.length := by omega
    have hfi : (ef : Int) < d2.length := by omega
    have hxtI : xt ≤ Inf := by rw [← hxtd]; exact hF.ok.le et (by omega)
    obtain ⟨cq, hcqe⟩ : ∃ cq, cq = c eq := ⟨_, rfl⟩
    rw [← hcqe] at g13 hcq
    obtain ⟨sm, hsm⟩ : ∃ sm, sm = xt + cq := ⟨_, rfl⟩
    have esm : (xt : Int) + (cq : Int) = (sm : Int) := by omega
    have hInf : Inf = 1125899906842624 := rfl
    have cO := hO.vw
    have ct := nE_cell cO hxt
    have cf := nE_cell cO hxf
    have ixt := fun {K : Kont Value} => cO.idx (P := Try.prog) (T := 22) (k := .i64) (i := (et : Int)) (K := K) (by omega) hti
    by_cases s1 : xt < Inf
    · have s1' : (xt : Int) < 1125899906842624 := by omega
      by_cases s2 : sm < xf
      · have s2' : (sm : Int) < (xf : Int) := by omega
        simp (disch := omega) [g1, g2, g6, g9, g41, g42, g43, g10, g12, g13, cell_blk oe7, cO.idx, ct, cf, s1', s2', esm, wrap_i64]
        have ea : dv.adr.add ef = ⟨dv.blk, ef, none⟩ := by
          rcases hO with ⟨rfl, h⟩ | ⟨g, cap, cur, junk, rfl, hh, _⟩
          · rw [h] at hfi; simp at hfi; omega
          · simp [Value.adr, Value.blk, Addr.add]; try omega
        rw [ea]
        have hLE : Lcl (Star (ObjA fb (edO (ef, eq, et))) (Star (OwnA ev 95 3 edE (edA T)) Emp)) := Lcl.obj.star (Lcl.own.star .emp)
        have h9 := (h8.drew (Lcl.own.star hLE)).drew (Lcl.own.star hLE)
        refine h9.store1 hLE nE_len nE_one (k := ef) (by omega) (x := sm) rfl fun w9 h10 => ?_
        simp [g42, g43]
        unfold DsE
        have hst1 := hF.ok.step hem (by simp; omega) (by simp; omega) (by show d2.getD et 0 + c eq < d2.getD ef 0; omega)
        have hst2 : Dok (edA T) c (goalB T) (d2.set ef sm) := by
          have e : d2.getD et 0 + c eq = sm := by omega
          simpa only [e] using hst1
        have hslt : (d2.set ef sm).sum < d2.sum := sum_set_lt (by omega) (by omega)
        have hle := hF.le
        refine ⟨by simp [g1], by simp [g2], by simp [g6], by simp [g9], by simp [g41], d2.set ef sm, true, by simp, ⟨by rw [List.length_set]; exact hdl2, hst2, (fun h => by cases h), (fun _ => by omega), by omega⟩, ?_⟩
        exact (h10.by (Imp.un Imp.dr))
      · have s2' : ¬ (sm : Int) < (xf : Int) := by omega
        simp (disch := omega) [g1, g2, g6, g9, g41, g42, g43, g10, g12, g13, cell_blk oe7, cO.idx, ct, cf, s1', s2', esm, wrap_i64]
        unfold DsE
        refine ⟨by simp [g1], by simp [g2], by simp [g6], by simp [g9], by simp [g41], d2, ch2, by simp [g10], ⟨hdl2, hF.ok, fun hc => ?_, hF.lt, hF.le⟩, ?_⟩
        · rw [tki]
          intro x hx
          rcases List.mem_append.1 hx with h | h
          · exact hF.clo hc x h
          · simp at h; subst h
            intro hh
            have hh : d2.getD et 0 < Inf := hh
            show d2.getD ef 0 ≤ d2.getD et 0 + c eq
            omega
        · exact ((h7.drop).drew (hLX _))
    · have s1' : ¬ (xt : Int) < 1125899906842624 := by omega
      simp (disch := omega) [g1, g2, g6, g9, g41, g42, g43, g10, g12, g13, cell_blk oe7, cO.idx, ct, cf, s1', esm, wrap_i64]
      unfold DsE
      refine ⟨by simp [g1], by simp [g2], by simp [g6], by simp [g9], by simp [g41], d2, ch2, by simp [g10], ⟨hdl2, hF.ok, fun hc => ?_, hF.lt, hF.le⟩, ?_⟩
      · rw [tki]
        intro x hx
        rcases List.mem_append.1 hx with h | h
        · exact hF.clo hc x h
        · simp at h; subst h
          intro hh
          have hh : d2.getD et 0 < Inf := hh
          show d2.getD ef 0 ≤ d2.getD et 0 + c eq
          omega
      · exact ((h7.drop).drew (hLX _))
end Go.Proofs.Ytcplpogmbacnfaa
end
section
set_option maxRecDepth 100000
set_option linter.unusedSimpArgs false
set_option linter.unusedVariables false
namespace Go.Rx
open Go Go.W Go.Tk
/-- There are values. -/
theorem IsVal.ex (U : List Un) (S : List Nat) : ∃ V, IsVal U S V := by
  have hex : ∀ f, ∃ x, (∀ k, Der U S f k → x ≤ k) ∧ x ≤ Inf ∧ (x < Inf → Der U S f x) := fun f => by
    rcases Classical.em (∃ k, Der U S f k) with ⟨k, hk⟩ | hn
    · obtain ⟨w, hw, hm⟩ := Lst.ex hk
      rcases Nat.lt_or_ge w Inf with h | h
      · exact ⟨w, hm, by omega, fun _ => hw⟩
      · exact ⟨Inf, fun j hj => by have := hm j hj; omega, Nat.le_refl _, fun h => by omega⟩
    · exact ⟨Inf, fun k hk => absurd ⟨k, hk⟩ hn, Nat.le_refl _, fun h => by omega⟩
  refine ⟨fun f => Classical.choose (hex f), fun f hf => ?_, fun u hu hlt => ?_, fun f hf => (Classical.choose_spec (hex f)).2.2 hf, fun f => (Classical.choose_spec (hex f)).2.1⟩
  · have := (Classical.choose_spec (hex f)).1 0 (.base hf)
    omega
  · refine (Classical.choose_spec (hex u.makes)).1 _ (.step hu _ fun n hn => (Classical.choose_spec (hex n)).2.2 ?_)
    have := gr_mem (V := fun f => Classical.choose (hex f)) hn
    omega
end Go.Rx
namespace Go.Proofs.Ytcplpogmbacnfaa
open Go Go.W Go.Tk Go.Rx Go.Maps
/-- Values in all states. -/
def VsOk (T : Nt) (U : List Un) (vS : List Nat → Nat → Nat) : Prop := ∀ s, IsVal U (stN T.vars s T.vars.length) (vS s)
theorem VsOk.ex (T : Nt) (U : List Un) : ∃ vS, VsOk T U vS := ⟨fun s => Classical.choose (IsVal.ex U (stN T.vars s T.vars.length)), fun s => Classical.choose_spec (IsVal.ex U (stN T.vars s T.vars.length))⟩
/-- The greatest value of a goal fact, in a state. -/
def hM (T : Nt) (vS : List Nat → Nat → Nat) (s : List Nat) : Nat := grF T.vars (vS s) T.goal
theorem apK_src {o : No} {s : List Nat} (v : Nat) : ∀ k, k ≤ o.effs.length → (apK o s k).getD v 0 = s.getD v 0 ∨ ∃ (j : Nat) (e : Nf), o.effs[j]? = some e ∧ hdB s e.cnd = true ∧ e.v = v ∧ e.x = (apK o s k).getD v 0
  | 0, _ => .inl (by simp [apK])
  | k + 1, hk => by
    obtain ⟨e, he⟩ : ∃ e, o.effs[k]? = some e := ⟨_, List.getElem?_eq_getElem (by omega)⟩
    rw [apK_succ he]
    split
    · rename_i hc
      by_cases h : e.v = v
      · by_cases hl : v < (apK o s k).length
        · refine .inr ⟨k, e, he, hc, h, ?_⟩
          rw [h, Go.Rx.getD_set_same hl]
        · rw [List.set_eq_of_length_le (by rw [h]; omega)]
          exact apK_src v k (by omega)
      · rw [Go.Rx.getD_set_ne h]
        exact apK_src v k (by omega)
    · exact apK_src v k (by omega)
theorem hd_mem {vars s : List Nat} {l : List Fc} (h : hdB s l = true) (hr : ∀ f ∈ l, f.1 < vars.length) : ∀ n ∈ l.map (numF vars), n ∈ stN vars s vars.length := fun n hn => by
  obtain ⟨f, hf, rfl⟩ := List.mem_map.1 hn
  unfold hdB at h
  have := List.all_eq_true.1 h f hf
  simp only [decide_eq_true_eq] at this
  unfold stN
  exact List.mem_map.2 ⟨f.1, List.mem_range.2 (hr f hf), by unfold numF; rw [this]⟩
def hI (T : Nt) (vS : List Nat → Nat → Nat) (i : Nat) : Nat := match (stsK T.vars T.vars.length)[i]? with | some s => hM T vS s | none => 0
end Go.Proofs.Ytcplpogmbacnfaa
end
section
set_option linter.unusedVariables false
set_option linter.unusedSimpArgs false
namespace Go.Lm
open Go.Rx
/-- f is better than o. -/
def btr (V : Nat → Nat) (f o : Nat) : Bool := decide (V o < V f) || (decide (V f = V o) && decide (f < o))
def gStep (V : Nat → Nat) : Option Nat → Nat → Option Nat
  | none, f => some f
  | some o, f => if btr V f o = true then some f else some o
def gst (V : Nat → Nat) (l : List Nat) : Option Nat := l.foldl (gStep V) none
/-- It is the best one of a list. -/
def IsG (V : Nat → Nat) (l : List Nat) (g : Nat) : Prop := g ∈ l ∧ ∀ x ∈ l, V x < V g ∨ (V x = V g ∧ g ≤ x)
section
variable {V : Nat → Nat} {l l' : List Nat} {g g' : Nat}
theorem IsG.uniq (h : IsG V l g) (h' : IsG V l g') : g = g' := by
  have h1 := h.2 g' h'.1
  have h2 := h'.2 g h.1
  omega
theorem IsG.set (h : IsG V l g) (hs : ∀ x, x ∈ l ↔ x ∈ l') : IsG V l' g := ⟨(hs g).1 h.1, fun x hx => h.2 x ((hs x).2 hx)⟩
theorem IsG.val (h : IsG V l g) : V g = gr V l := Nat.le_antisymm (gr_mem h.1) (gr_le_iff.2 fun x hx => by have := h.2 x hx; omega)
theorem IsG.snoc (h : IsG V l g) (f : Nat) : IsG V (l ++ [f]) (if btr V f g = true then f else g) := by
  by_cases hb : btr V f g = true
  · rw [if_pos hb]
    unfold btr at hb
    simp only [Bool.or_eq_true, Bool.and_eq_true, decide_eq_true_eq] at hb
    refine ⟨by simp, fun x hx => ?_⟩
    rcases List.mem_append.1 hx with h1 | h1
    · have := h.2 x h1; omega
    · simp at h1; subst h1; omega
  · rw [if_neg hb]
    unfold btr at hb
    simp only [Bool.or_eq_true, Bool.and_eq_true, decide_eq_true_eq, not_or, not_and] at hb
    refine ⟨by simp [h.1], fun x hx => ?_⟩
    rcases List.mem_append.1 hx with h1 | h1
    · exact h.2 x h1
    · simp at h1; subst h1
      have h2 := hb.1
      have h3 := hb.2
      by_cases he : V x = V g
      · have := h3 he; omega
      · omega
theorem gst_snoc (l : List Nat) (f : Nat) : gst V (l ++ [f]) = gStep V (gst V l) f := by unfold gst; rw [List.foldl_append]; rfl
theorem snoc_ind {α : Type} {p : List α → Prop} (h0 : p []) (h : ∀ l x, p l → p (l ++ [x])) (l : List α) : p l := by
  have key : ∀ r : List α, p r.reverse := by
    intro r
    induction r with
    | nil => exact h0
    | cons x r ih => rw [List.reverse_cons]; exact h _ _ ih
  simpa using key l.reverse
theorem gst_spec (l : List Nat) : (l = [] ∧ gst V l = none) ∨ ∃ g, gst V l = some g ∧ IsG V l g := by
  induction l using snoc_ind with
  | h0 => exact .inl ⟨rfl, rfl⟩
  | h l f ih =>
    right
    rw [gst_snoc]
    rcases ih with ⟨rfl, h⟩ | ⟨g, h, hg⟩
    · rw [h]
      exact ⟨f, rfl, by simp, fun x hx => by simp at hx; subst hx; exact .inr ⟨rfl, Nat.le_refl _⟩⟩
    · rw [h]
      have := hg.snoc f
      by_cases hb : btr V f g = true
      · rw [if_pos hb] at this
        exact ⟨f, by simp only [gStep, if_pos hb], this⟩
      · rw [if_neg hb] at this
        exact ⟨g, by simp only [gStep, if_neg hb], this⟩
theorem gst_of (h : IsG V l g) : gst V l = some g := by
  rcases gst_spec (V := V) l with ⟨rfl, _⟩ | ⟨g', e, hg⟩
  · cases h.1
  · rw [e, hg.uniq h]
theorem gst_some (h : gst V l = some g) : IsG V l g := by
  rcases gst_spec (V := V) l with ⟨rfl, e⟩ | ⟨g', e, hg⟩
  · cases h
  · rw [e] at h; cases h; exact hg
theorem gst_none (h : gst V l = none) : l = [] := by
  rcases gst_spec (V := V) l with ⟨e, _⟩ | ⟨g', e, hg⟩
  · exact e
  · rw [e] at h; cases h
theorem gst_set (hs : ∀ x, x ∈ l ↔ x ∈ l') : gst V l = gst V l' := by
  rcases gst_spec (V := V) l with ⟨rfl, e⟩ | ⟨g, e, hg⟩
  · have : l' = [] := List.eq_nil_iff_forall_not_mem.2 fun x hx => by have := (hs x).2 hx; cases this
    subst this; rfl
  · rw [e, gst_of (hg.set hs)]
/-- The greatest value is that of the best fact. -/
theorem gr_gst (l : List Nat) : gr V l = match gst V l with | some g => V g | none => 0 := by
  rcases gst_spec (V := V) l with ⟨rfl, e⟩ | ⟨g, e, hg⟩
  · rfl
  · rw [e]; exact hg.val.symm
end
structure Ar where
  fr : Option Nat
  to : Nat
  op : Nat
def arU (V : Nat → Nat) (u : Un) : Ar := ⟨gst V u.needs, u.makes, u.op⟩
def arcs (U : List Un) (V : Nat → Nat) : List Ar := (U.filter fun u => decide (gr V u.needs < Inf)).map (arU V)
/-- The goal zone. -/
inductive TZ (A : List Ar) (c : Nat → Nat) (g : Nat) : Nat → Prop
  | base : TZ A c g g
  | step {a : Ar} {f : Nat} (ha : a ∈ A) (hf : a.fr = some f) (hc : c a.op = 0) (ht : TZ A c g a.to) : TZ A c g f
/-- The start zone. -/
inductive SZ (A : List Ar) (S0 : List Nat) (T : Nat → Prop) : Nat → Prop
  | base {f : Nat} (h : f ∈ S0) : SZ A S0 T f
  | start {a : Ar} (ha : a ∈ A) (hf : a.fr = none) (ht : ¬ T a.to) : SZ A S0 T a.to
  | step {a : Ar} {f : Nat} (ha : a ∈ A) (hf : a.fr = some f) (hs : SZ A S0 T f) (ht : ¬ T a.to) : SZ A S0 T a.to
/-- An arc begins in the start zone. -/
def Beg (A : List Ar) (S0 : List Nat) (T : Nat → Prop) (a : Ar) : Prop := a.fr = none ∨ ∃ f, a.fr = some f ∧ SZ A S0 T f
/-- The operators of the cut. -/
def XO (A : List Ar) (c : Nat → Nat) (S0 : List Nat) (g : Nat) (op : Nat) : Prop := ∃ a ∈ A, a.op = op ∧ Beg A S0 (TZ A c g) a ∧ TZ A c g a.to
/-- Operators with other costs. -/
def wc (U : List Un) (c : Nat → Nat) : List Un := U.map fun u => { u with cost := c u.op }
theorem wc_mem {U : List Un} {c : Nat → Nat} {v : Un} (h : v ∈ wc U c) : ∃ u ∈ U, v = { u with cost := c u.op } := by
  obtain ⟨u, hu, rfl⟩ := List.mem_map.1 h
  exact ⟨u, hu, rfl⟩
theorem mem_wc {U : List Un} {c : Nat → Nat} {u : Un} (h : u ∈ U) : ({ u with cost := c u.op } : Un) ∈ wc U c := List.mem_map.2 ⟨u, h, rfl⟩
structure IsCut (U : List Un) (c : Nat → Nat) (S0 G : List Nat) (V : Nat → Nat) (L : List Nat) (m : Nat) : Prop where
  ex : ∃ g, gst V G = some g ∧ ∀ op, op ∈ L ↔ XO (arcs U V) c S0 g op
  asc : L.Pairwise (· < ·)
  le : ∀ op ∈ L, m ≤ c op
  at_ : ∃ op ∈ L, c op = m
def sub (c : Nat → Nat) (L : List Nat) (m : Nat) : Nat → Nat := fun i => if i ∈ L then c i - m else c i
/-- The cuts for a state. -/
inductive LmC (U : List Un) (S0 G : List Nat) : (Nat → Nat) → Option (List (List Nat × Nat)) → Prop
  | inf {c V : Nat → Nat} (hV : IsVal (wc U c) S0 V) (h : Inf ≤ gr V G) : LmC U S0 G c none
  | nil {c V : Nat → Nat} (hV : IsVal (wc U c) S0 V) (h : gr V G = 0) : LmC U S0 G c (some [])
  | cut {c V : Nat → Nat} {L : List Nat} {m : Nat} {r : Option (List (List Nat × Nat))} (hV : IsVal (wc U c) S0 V) (h0 : 0 < gr V G) (hi : gr V G < Inf) (hc : IsCut U c S0 G V L m) (hr : LmC U S0 G (sub c L m) r) : LmC U S0 G c (r.map ((L, m) :: ·))
section
variable {U : List Un} {S0 G : List Nat} {c V : Nat → Nat} {L L' : List Nat} {m m' g : Nat}
theorem asc_ext : ∀ {L L' : List Nat}, L.Pairwise (· < ·) → L'.Pairwise (· < ·) → (∀ x, x ∈ L ↔ x ∈ L') → L = L'
  | [], [], _, _, _ => rfl
  | [], b :: L', _, _, h => by have := (h b).2 (by simp); cases this
  | a :: L, [], _, _, h => by have := (h a).1 (by simp); cases this
  | a :: L, b :: L', h1, h2, h => by
    rw [List.pairwise_cons] at h1 h2
    have hab : a = b := by
      rcases List.mem_cons.1 ((h a).1 (by simp)) with e | e
      · exact e
      · rcases List.mem_cons.1 ((h b).2 (by simp)) with e2 | e2
        · exact e2.symm
        · have := h1.1 b e2; have := h2.1 a e; omega
    subst hab
    congr 1
    refine asc_ext h1.2 h2.2 fun x => ?_
    constructor
    · intro hx
      rcases List.mem_cons.1 ((h x).1 (by simp [hx])) with e | e
      · subst e; have := h1.1 x hx; omega
      · exact e
    · intro hx
      rcases List.mem_cons.1 ((h x).2 (by simp [hx])) with e | e
      · subst e; have := h2.1 x hx; omega
      · exact e
theorem IsCut.uniq (h : IsCut U c S0 G V L m) (h' : IsCut U c S0 G V L' m') : L = L' ∧ m = m' := by
  obtain ⟨g, e, hx⟩ := h.ex
  obtain ⟨g', e', hx'⟩ := h'.ex
  rw [e] at e'
  cases e'
  have hL := asc_ext h.asc h'.asc fun x => (hx x).trans (hx' x).symm
  subst hL
  obtain ⟨o, ho, e1⟩ := h.at_
  obtain ⟨o', ho', e2⟩ := h'.at_
  have := h.le o' ho'
  have := h'.le o ho
  exact ⟨rfl, by omega⟩
theorem LmC.uniq {r r' : Option (List (List Nat × Nat))} (h : LmC U S0 G c r) (h' : LmC U S0 G c r') : r = r' := by
  induction h generalizing r' with
  | inf hV hh =>
    cases h' with
    | inf _ _ => rfl
    | nil hV' h2 => rw [hV.uniq hV'] at hh; rw [h2] at hh; unfold Inf at hh; omega
    | cut hV' _ h2 _ _ => rw [hV.uniq hV'] at hh; omega
  | nil hV hh =>
    cases h' with
    | inf hV' h2 => rw [← hV.uniq hV', hh] at h2; unfold Inf at h2; omega
    | nil _ _ => rfl
    | cut hV' h2 _ _ _ => rw [← hV.uniq hV', hh] at h2; omega
  | cut hV h0 hi hc hr ih =>
    cases h' with
    | inf hV' h2 => rw [← hV.uniq hV'] at h2; omega
    | nil hV' h2 => rw [← hV.uniq hV'] at h2; omega
    | cut hV' _ _ hc' hr' =>
      have e := hV.uniq hV'
      subst e
      obtain ⟨rfl, rfl⟩ := hc.uniq hc'
      rw [ih hr']
end
end Go.Lm
end
section
set_option linter.unusedVariables false
set_option linter.unusedSimpArgs false
namespace Go.Lm
open Go.Rx
/-- Sizes. -/
structure Szs (U : List Un) (S0 : List Nat) (N C : Nat) (c : Nat → Nat) : Prop where
  made : ∀ u ∈ U, u.makes < N
  s0 : ∀ x ∈ S0, x < N
  cost : ∀ u ∈ U, c u.op ≤ C
  sm : N * C < Inf
section
variable {U : List Un} {S0 G : List Nat} {c V : Nat → Nat} {L : List Nat} {m g N C f k op : Nat}
theorem Szs.der (h : Szs U S0 N C c) (d : Der (wc U c) S0 f k) : f < N := by
  cases d with
  | base hf => exact h.s0 _ hf
  | step hu kk hk =>
    obtain ⟨u, hu2, rfl⟩ := wc_mem hu
    exact h.made u hu2
theorem Szs.fin (h : Szs U S0 N C c) (hV : IsVal (wc U c) S0 V) : V f < Inf ↔ ∃ k, Der (wc U c) S0 f k :=
  hV.fin (C := C) (N := N) (fun u hu => by
    obtain ⟨v, hv, rfl⟩ := wc_mem hu
    exact h.cost v hv) (fun f k d => h.der d) h.sm
theorem Szs.sub (h : Szs U S0 N C c) (L : List Nat) (m : Nat) : Szs U S0 N C (sub c L m) :=
  ⟨h.made, h.s0, fun u hu => by
    have := h.cost u hu
    unfold Go.Lm.sub
    split <;> omega, h.sm⟩
theorem arcs_mem {a : Ar} (h : a ∈ arcs U V) : ∃ u ∈ U, gr V u.needs < Inf ∧ a = arU V u := by
  unfold arcs at h
  obtain ⟨u, hu, rfl⟩ := List.mem_map.1 h
  rw [List.mem_filter] at hu
  exact ⟨u, hu.1, by simpa using hu.2, rfl⟩
theorem mem_arcs {u : Un} (hu : u ∈ U) (h : gr V u.needs < Inf) : arU V u ∈ arcs U V := List.mem_map.2 ⟨u, List.mem_filter.2 ⟨hu, by simpa using h⟩, rfl⟩
theorem val_cl (hV : IsVal (wc U c) S0 V) {u : Un} (hu : u ∈ U) (h : gr V u.needs < Inf) : V u.makes ≤ gr V u.needs + c u.op := hV.cl _ (mem_wc (c := c) hu) h
theorem tz_val (hV : IsVal (wc U c) S0 V) (h : TZ (arcs U V) c g f) : V g ≤ V f := by
  induction h with
  | base => exact Nat.le_refl _
  | step ha hf hc ht ih =>
    obtain ⟨u, hu, h1, rfl⟩ := arcs_mem ha
    have h2 := val_cl hV hu h1
    have h3 := gr_gst (V := V) u.needs
    have hf : gst V u.needs = some _ := hf
    rw [hf] at h3
    have hc : c u.op = 0 := hc
    have ih : V g ≤ V u.makes := ih
    simp only at h3
    omega
theorem sz_tz (hV : IsVal (wc U c) S0 V) (h0 : 0 < V g) (h : SZ (arcs U V) S0 (TZ (arcs U V) c g) f) : ¬ TZ (arcs U V) c g f := by
  cases h with
  | base hf =>
    intro ht
    have := tz_val hV ht
    rw [hV.s0 f hf] at this
    omega
  | start ha hf ht => exact ht
  | step ha hf hs ht => exact ht
theorem xo_pos (hV : IsVal (wc U c) S0 V) (h0 : 0 < V g) (h : XO (arcs U V) c S0 g op) : 0 < c op := by
  obtain ⟨a, ha, rfl, hb, ht⟩ := h
  rcases Nat.eq_zero_or_pos (c a.op) with hz | hp
  · exfalso
    rcases hb with hf | ⟨f, hf, hs⟩
    · obtain ⟨u, hu, h1, rfl⟩ := arcs_mem ha
      have h2 := val_cl hV hu h1
      have h3 := tz_val hV ht
      have hn : u.needs = [] := gst_none hf
      rw [hn] at h2
      have hz : c u.op = 0 := hz
      have h3 : V g ≤ V u.makes := h3
      simp only [gr] at h2
      omega
    · exact sz_tz hV h0 hs (.step ha hf hz ht)
  · exact hp
theorem sz_der (hV : IsVal (wc U c) S0 V) {T : Nat → Prop} (h : SZ (arcs U V) S0 T f) : ∃ k, Der (wc U c) S0 f k := by
  have key : ∀ a ∈ arcs U V, ∃ k, Der (wc U c) S0 a.to k := fun a ha => by
    obtain ⟨u, hu, h1, rfl⟩ := arcs_mem ha
    have h2 := (gr_lt_iff (by unfold Inf; omega)).1 h1
    exact ⟨_, .step (mem_wc (c := c) hu) V fun n hn => hV.der n (h2 n hn)⟩
  cases h with
  | base hf => exact ⟨0, .base hf⟩
  | start ha hf ht => exact key _ ha
  | step ha hf hs ht => exact key _ ha
/-- The operators that do not cross stay in the start zone. -/
theorem sz_step (hz : Szs U S0 N C c) (hV : IsVal (wc U c) S0 V) {u : Un} (hu : u ∈ U) (hn : ∀ n ∈ u.needs, SZ (arcs U V) S0 (TZ (arcs U V) c g) n) (hx : ¬ XO (arcs U V) c S0 g u.op) : SZ (arcs U V) S0 (TZ (arcs U V) c g) u.makes := by
  have h1 : gr V u.needs < Inf := (gr_lt_iff (by unfold Inf; omega)).2 fun n h => (hz.fin hV).2 (sz_der hV (hn n h))
  have ha := mem_arcs hu h1
  by_cases ht : TZ (arcs U V) c g u.makes
  · refine absurd ⟨arU V u, ha, rfl, ?_, ht⟩ hx
    rcases gst_spec (V := V) u.needs with ⟨_, e⟩ | ⟨f, e, hf⟩
    · exact .inl e
    · exact .inr ⟨f, e, hn f hf.1⟩
  · rcases gst_spec (V := V) u.needs with ⟨_, e⟩ | ⟨f, e, hf⟩
    · exact SZ.start (a := arU V u) ha e ht
    · exact SZ.step (a := arU V u) ha e (hn f hf.1) ht
theorem xo_ex (hz : Szs U S0 N C c) (hV : IsVal (wc U c) S0 V) (h0 : 0 < V g) (hi : V g < Inf) : ∃ op, XO (arcs U V) c S0 g op := by
  apply Classical.byContradiction
  intro hno
  have key : ∀ f k, Der (wc U c) S0 f k → SZ (arcs U V) S0 (TZ (arcs U V) c g) f := by
    intro f k d
    induction d with
    | base hf => exact .base hf
    | step hu kk hk ih =>
      obtain ⟨u, hu2, rfl⟩ := wc_mem hu
      have := sz_step hz hV hu2 (g := g) ih fun hx => hno ⟨_, hx⟩
      exact this
  exact sz_tz hV h0 (key g _ (hV.der g hi)) .base
/-- A step of the relaxed task: every fact behind it was there, or is made by the operator. -/
def Stp (U : List Un) (x : List Nat) (q : Nat) (x' : List Nat) : Prop := ∀ f ∈ x', f ∈ x ∨ ∃ u ∈ U, u.op = q ∧ u.makes = f ∧ ∀ n ∈ u.needs, n ∈ x
theorem IsCut.gst0 (h : IsCut U c S0 G V L m) (h0 : 0 < gr V G) (hi : gr V G < Inf) : ∃ g, gst V G = some g ∧ 0 < V g ∧ V g < Inf ∧ g ∈ G ∧ ∀ op, op ∈ L ↔ XO (arcs U V) c S0 g op := by
  obtain ⟨g, e, hx⟩ := h.ex
  have hg := gst_some e
  rw [← hg.val] at h0 hi
  exact ⟨g, e, h0, hi, hg.1, hx⟩
/-- A cut is a landmark. -/
theorem IsCut.landmark (hz : Szs U S0 N C c) (hV : IsVal (wc U c) S0 V) (h : IsCut U c S0 G V L m) (h0 : 0 < gr V G) (hi : gr V G < Inf) :
    ∃ P : List Nat → Prop, P S0 ∧ (∀ x, P x → ¬ ∀ f ∈ G, f ∈ x) ∧ ∀ x q x', q ∉ L → Stp U x q x' → P x → P x' := by
  obtain ⟨g, e, hg0, hgi, hgm, hx⟩ := h.gst0 h0 hi
  refine ⟨fun x => ∀ f ∈ x, SZ (arcs U V) S0 (TZ (arcs U V) c g) f, fun f hf => .base hf, fun x hp hG => ?_, fun x q x' hq hs hp f hf => ?_⟩
  · exact sz_tz hV hg0 (hp g (hG g hgm)) .base
  · rcases hs f hf with h1 | ⟨u, hu, rfl, rfl, hn⟩
    · exact hp f h1
    · exact sz_step hz hV hu (fun n hn2 => hp n (hn n hn2)) fun hxx => hq ((hx _).2 hxx)
theorem IsCut.pos (hV : IsVal (wc U c) S0 V) (h : IsCut U c S0 G V L m) (h0 : 0 < gr V G) (hi : gr V G < Inf) : 1 ≤ m ∧ L ≠ [] ∧ ∀ op ∈ L, ∃ u ∈ U, u.op = op := by
  obtain ⟨g, e, hg0, hgi, hgm, hx⟩ := h.gst0 h0 hi
  obtain ⟨op, ho, e1⟩ := h.at_
  refine ⟨?_, (fun e2 => by rw [e2] at ho; cases ho), fun op ho => ?_⟩
  · have := xo_pos hV hg0 ((hx op).1 ho); omega
  · obtain ⟨a, ha, rfl, _⟩ := (hx op).1 ho
    obtain ⟨u, hu, _, rfl⟩ := arcs_mem ha
    exact ⟨u, hu, rfl⟩
def sumM (out : List (List Nat × Nat)) : Nat := (out.map (·.2)).sum
/-- What every cut gives. -/
theorem LmC.each {r : Option (List (List Nat × Nat))} (h : LmC U S0 G c r) (hz : Szs U S0 N C c) : ∀ out, r = some out → ∀ p ∈ out, 1 ≤ p.2 ∧ p.1 ≠ [] ∧ p.1.Pairwise (· < ·) ∧ (∀ op ∈ p.1, ∃ u ∈ U, u.op = op) ∧
    ∃ P : List Nat → Prop, P S0 ∧ (∀ x, P x → ¬ ∀ f ∈ G, f ∈ x) ∧ ∀ x q x', q ∉ p.1 → Stp U x q x' → P x → P x' := by
  induction h with
  | inf hV h => intro out e; cases e
  | nil hV h => intro out e; cases e; simp
  | @cut c V L m r hV h0 hi hc hr ih =>
    intro out e
    cases r with
    | none => cases e
    | some o =>
      cases e
      intro p hp
      rcases List.mem_cons.1 hp with rfl | hp
      · obtain ⟨a, b, d⟩ := hc.pos hV h0 hi
        exact ⟨a, b, hc.asc, d, hc.landmark hz hV h0 hi⟩
      · exact ih (hz.sub L m) o rfl p hp
/-- The operators that still cost something. -/
def posN (c : Nat → Nat) (n : Nat) : Nat := ((List.range n).filter fun i => decide (0 < c i)).length
theorem posN_lt (hle : ∀ i, c i ≤ V i) (ho : op < k) (h1 : c op = 0) (h2 : 0 < V op) : posN c k < posN V k := by
  induction k with
  | zero => omega
  | succ n ih =>
    have hmono : ∀ n, posN c n ≤ posN V n := by
      intro n
      induction n with
      | zero => exact Nat.le_refl _
      | succ n ih =>
        unfold posN at ih ⊢
        rw [List.range_succ, List.filter_append, List.filter_append, List.length_append, List.length_append]
        have := hle n
        by_cases h : 0 < c n
        · have h' : 0 < V n := by omega
          simp [h, h']; exact ih
        · simp [h]; omega
    have hm := hmono n
    unfold posN at ih hm ⊢
    rw [List.range_succ, List.filter_append, List.filter_append, List.length_append, List.length_append]
    by_cases e : op = n
    · subst e
      simp [h1, h2]; omega
    · have := ih (by omega)
      have := hle n
      by_cases h : 0 < c n
      · have h' : 0 < V n := by omega
        simp [h, h']; omega
      · simp [h]; omega
theorem posN_le (n : Nat) : posN c n ≤ n := by
  have := List.length_filter_le (fun i => decide (0 < c i)) (List.range n)
  simpa [posN] using this
theorem IsCut.less (hV : IsVal (wc U c) S0 V) (h : IsCut U c S0 G V L m) (h0 : 0 < gr V G) (hi : gr V G < Inf) {n : Nat} (hn : ∀ u ∈ U, u.op < n) : posN (sub c L m) n < posN c n := by
  obtain ⟨h1, h2, h3⟩ := h.pos hV h0 hi
  obtain ⟨op, ho, e⟩ := h.at_
  obtain ⟨u, hu, rfl⟩ := h3 op ho
  refine posN_lt (op := u.op) (fun i => ?_) (hn u hu) ?_ (by omega)
  · unfold sub; split <;> omega
  · unfold sub; rw [if_pos ho]; omega
theorem LmC.len {r : Option (List (List Nat × Nat))} (h : LmC U S0 G c r) {n : Nat} (hn : ∀ u ∈ U, u.op < n) : ∀ out, r = some out → out.length ≤ posN c n := by
  induction h with
  | inf hV h => intro out e; cases e
  | nil hV h => intro out e; cases e; simp
  | @cut c V L m r hV h0 hi hc hr ih =>
    intro out e
    cases r with
    | none => cases e
    | some o =>
      cases e
      have := ih o rfl
      have := hc.less hV h0 hi hn
      simp; omega
/-- Without the goal there is no state with a plan. -/
theorem LmC.none_inf {r : Option (List (List Nat × Nat))} (h : LmC U S0 G c r) (hz : Szs U S0 N C c) : r = none → ∃ f ∈ G, ∀ c' k, ¬ Der (wc U c') S0 f k := by
  have mono : ∀ {c c' : Nat → Nat} {f k : Nat}, Der (wc U c') S0 f k → ∃ j, Der (wc U c) S0 f j := by
    intro c c' f k d
    induction d with
    | base h => exact ⟨0, .base h⟩
    | step hu kk hk ih =>
      obtain ⟨u, hu2, rfl⟩ := wc_mem hu
      have hex : ∀ n, ∃ j, n ∈ u.needs → Der (wc U c) S0 n j := fun n => by
        by_cases hn : n ∈ u.needs
        · obtain ⟨j, hj⟩ := ih n hn
          exact ⟨j, fun _ => hj⟩
        · exact ⟨0, fun h => absurd h hn⟩
      exact ⟨_, .step (mem_wc (c := c) hu2) (fun n => Classical.choose (hex n)) fun n hn => Classical.choose_spec (hex n) hn⟩
  induction h with
  | @inf c V hV h =>
    intro _
    apply Classical.byContradiction
    intro hno
    have : gr V G < Inf := (gr_lt_iff (by unfold Inf; omega)).2 fun f hf => (hz.fin hV).2 (by
      apply Classical.byContradiction
      intro hn
      refine hno ⟨f, hf, fun c' k d => hn ?_⟩
      exact mono d)
    omega
  | nil hV h => intro e; cases e
  | @cut c V L m r hV h0 hi hc hr ih =>
    intro e
    cases r with
    | none => exact ih (hz.sub L m) rfl
    | some o => cases e
theorem LmC.some_fin {r : Option (List (List Nat × Nat))} (h : LmC U S0 G c r) (out : List (List Nat × Nat)) (e : r = some out) : ∃ V, IsVal (wc U c) S0 V ∧ gr V G < Inf := by
  cases h with
  | inf hV h => cases e
  | nil hV h => exact ⟨_, hV, by rw [h]; unfold Inf; omega⟩
  | cut hV h0 hi hc hr => exact ⟨_, hV, hi⟩
end
end Go.Lm
end
