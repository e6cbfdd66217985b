/-
  A part of the proof of this claim's statement (WhHp, WhG): plain theorems; no conditions beyond those each names.
-/
import Derived.Test.YtolkjbmcindhjaaGreatPk15
import Derived.Test.YtolkjbmcindhjaaGreatPk20
section
set_option maxRecDepth 100000
set_option linter.unusedSimpArgs false
set_option linter.unusedVariables false
namespace Go.Proofs.YtolkjbmcindhjaaGreat.Pd
open Go Go.W Go.Tk Go.Rx
theorem mt_len : mth Tryz.prog 270 "Len" = some (172, false) := by kernel_rfl
theorem mt_less : mth Tryz.prog 270 "Less" = some (293, false) := by kernel_rfl
theorem mt_swap : mth Tryz.prog 270 "Swap" = some (296, false) := by kernel_rfl
theorem mt_pop : mth Tryz.prog 270 "Pop" = some (294, true) := by kernel_rfl
theorem mt_push : mth Tryz.prog 270 "Push" = some (295, true) := by kernel_rfl
theorem mt_un : Tryz.prog.underlying 270 = some (.pointer 272) := by kernel_rfl
theorem mt_ag : tyAgg Tryz.prog 272 = some none := by kernel_rfl
theorem en_len : enterable Tryz.prog 172 = true := by kernel_rfl
theorem en_less : enterable Tryz.prog 293 = true := by kernel_rfl
theorem en_swap : enterable Tryz.prog 296 = true := by kernel_rfl
theorem en_pop : enterable Tryz.prog 294 = true := by kernel_rfl
theorem en_push : enterable Tryz.prog 295 = true := by kernel_rfl
def enE (e : En) : List Value := [.int .i64 (e.1 : Nat), .int .i64 (e.2 : Nat)]
theorem enE_len (e : En) : (enE e).length = 2 := rfl
theorem enE_one (e : En) : (enE e).all oneC = true := rfl
def enV (e : En) : Value := .agg #[.int .i64 (e.1 : Nat), .int .i64 (e.2 : Nat)]
def qO (v : Value) : Obj := .cells #[v] 272 (0, 0)
def hpV (qb : Nat) : Value := .iface 270 (.pointer (some ⟨qb, 0, none⟩))
def QI (qb : Nat) (l : List En) (w : World) (F : List Nat) (B : Asr) (w' : World) : Prop := ∃ sv, At w F (Star (ObjA qb (qO sv)) (Star (OwnA sv 274 2 enE l) B)) w'
theorem rd_q {w : World} {qb : Nat} {v : Value} (h : w.heap[qb]? = some (qO v)) : w.cell? ⟨qb, 0, none⟩ = some v := by
  unfold qO at h
  simp [cell_blk h]
theorem gt_get {l : List En} {i : Nat} (h : i < l.length) : l[i]? = some (gt l i) := by rw [gt_lt h]; exact List.getElem?_eq_getElem h
theorem less_spec {w : World} (sv : Value) (l : List En) (i j : Nat) (hv : Vw w sv enE l) (hi : i < l.length) (hj : j < l.length) :
    Calls Tryz.prog 293 [sv, .int .i64 (i : Nat), .int .i64 (j : Nat)].toArray w fun e w' => ∃ x, e = .returned x ∧ x = .bool (bef (gt l i) (gt l j)) ∧ Kp [] w w' := by
  refine enter Tryz.func293 mixed low293 (Nat.le_of_ble_eq_true rfl) ?_
  simp only [L293]
  have e1 := hv.fld enE_len (gt_get hi) (o := 0) (u := .int .i64 ((gt l i).1 : Nat)) rfl
  have e2 := hv.fld enE_len (gt_get hj) (o := 0) (u := .int .i64 ((gt l j).1 : Nat)) rfl
  simp (disch := omega) [hv.idx, e1, e2]
  exact ⟨rfl, (Kp.refl [] w).drew⟩
theorem len_spec {w : World} (sv : Value) (l : List En) (hv : Vw w sv enE l) :
    Calls Tryz.prog 172 [sv].toArray w fun e w' => ∃ x, e = .returned x ∧ x = .int .i64 (l.length : Nat) ∧ Kp [] w w' := by
  refine enter Tryz.func172 mixed low172 (Nat.le_of_ble_eq_true rfl) ?_
  simp only [L172]
  simp [hv.len]
  exact Kp.refl [] w
theorem swap_spec {w w1 : World} {F : List Nat} {B : Asr} (sv : Value) (l : List En) (i j : Nat) (hB : Lcl B) (h : At w F (Star (OwnA sv 274 2 enE l) B) w1) (hi : i < l.length) (hj : j < l.length) :
    Calls Tryz.prog 296 [sv, .int .i64 (i : Nat), .int .i64 (j : Nat)].toArray w1 fun e w' => ∃ x, e = .returned x ∧ At w F (Star (OwnA sv 274 2 enE (swp l i j)) B) w' := by
  refine enter Tryz.func296 mixed low296 (Nat.le_of_ble_eq_true rfl) ?_
  simp only [L296]
  have h1 := h.drew (Lcl.own.star hB)
  have hO := h1.own
  have c1 := hO.cells enE_len (gt_get hi)
  have c2 := hO.cells enE_len (gt_get hj)
  simp only [enE] at c1 c2
  simp (disch := omega) [hO.idx, c1, c2]
  refine h1.store hB enE_len enE_one hi (x := gt l j) rfl fun w2 h2 => ?_
  have hO2 := h2.own
  have hj2 : (j : Int) < (l.set i (gt l j)).length := by simp; omega
  simp (disch := omega) [hO2.idx]
  refine h2.store hB enE_len enE_one (by simpa using hj) (x := gt l i) rfl fun w3 h3 => ?_
  simp
  exact h3
theorem push_spec {w w1 : World} {F : List Nat} {B : Asr} (qb : Nat) (l : List En) (e : En) (hB : Lcl B) (h : QI qb l w F B w1) (hl : l.length ≤ 1000000) :
    Calls Tryz.prog 295 [.pointer (some ⟨qb, 0, none⟩), .iface 274 (enV e)].toArray w1 fun x w' => ∃ y, x = .returned y ∧ QI qb (l ++ [e]) w F B w' := by
  obtain ⟨sv, h1⟩ := h
  refine enter Tryz.func295 mixed low295 (Nat.le_of_ble_eq_true rfl) ?_
  simp only [L295]
  obtain ⟨eb, heb⟩ : ∃ eb, eb = w1.heap.size := ⟨_, rfl⟩
  have hL1 : Lcl (Star (ObjA qb (qO sv)) (Star (OwnA sv 274 2 enE l) B)) := Lcl.obj.star (Lcl.own.star hB)
  have h2 : At w F (Star (ObjA eb (.cells #[.int .i64 0, .int .i64 0] 274 (0, 0))) (Star (ObjA qb (qO sv)) (Star (OwnA sv 274 2 enE l) B))) (w1.alloc (.cells #[.int .i64 0, .int .i64 0] 274 (0, 0))) := by rw [heb]; exact h1.alloc _ hL1
  simp [enV, ← heb]
  refine h2.st hL1 (by simp) (by simp) fun w3 h3 => ?_
  have hq := rd_q h3.drop.obj
  have he := h3.obj
  have ce : cellsAt w3 ⟨w1.heap.size, 0, none⟩ 0 2 = some [.int .i64 (e.1 : Nat), .int .i64 (e.2 : Nat)] := by
    rw [← heb]
    simp at he
    simp [cellsAt, Addr.add, cell_blk he]
  have h4 := h3.drop.drew hL1
  have h5 := (h4.by Imp.sw).kp0 (Lcl.own.star (Lcl.obj.star hB)) ((Kp.refl [] _).alloc (.cells #[.int .i64 (e.1 : Nat), .int .i64 (e.2 : Nat)] 274))
  simp [hq, ce, rowOf]
  refine At.append (xs := [e]) (Lcl.obj.star hB) h5 enE_len enE_one sl_272 rfl (fun j u hj => ?_) (by omega) (by unfold maxLen; omega) fun v' w6 h6 => ?_
  · rw [show w3.heap.size = w3.drew.heap.size from rfl, add_none, cell_blk alloc_new]
    simpa [enE] using hj
  have c6 := h6.own.c1
  have o6 := h6.own.o1
  have h7 := h6.by Imp.sw
  unfold qO at h7
  simp [c6]
  refine h7.st (Lcl.own.star hB) (by simp) (by simp [o6]) fun w8 h8 => ?_
  simp
  exact ⟨v', by unfold qO; simpa using h8⟩
theorem pop_spec {w w1 : World} {F : List Nat} {B : Asr} (qb : Nat) (l : List En) (e : En) (hB : Lcl B) (h : QI qb (l ++ [e]) w F B w1) (hl : l.length ≤ 1000000) :
    Calls Tryz.prog 294 [.pointer (some ⟨qb, 0, none⟩)].toArray w1 fun x w' => ∃ y, x = .returned y ∧ y = .iface 274 (enV e) ∧ QI qb l w F B w' := by
  obtain ⟨sv, h1⟩ := h
  refine enter Tryz.func294 mixed low294 (Nat.le_of_ble_eq_true rfl) ?_
  simp only [L294]
  have hq := rd_q h1.obj
  have hO := h1.drop.own
  have hi : (l ++ [e])[l.length]? = some e := by simp
  have ec := hO.cells enE_len hi
  simp only [enE] at ec
  have hlen : ((l ++ [e]).length : Int) = (l.length : Int) + 1 := by simp
  have hidx : (l.length : Int) < (l ++ [e]).length := by simp; omega
  obtain ⟨eb, heb⟩ : ∃ eb, eb = w1.heap.size := ⟨_, rfl⟩
  have hL1 : Lcl (Star (ObjA qb (qO sv)) (Star (OwnA sv 274 2 enE (l ++ [e])) B)) := Lcl.obj.star (Lcl.own.star hB)
  have h2 : At w F (Star (ObjA eb (.cells #[.int .i64 0, .int .i64 0] 274 (0, 0))) (Star (ObjA qb (qO sv)) (Star (OwnA sv 274 2 enE (l ++ [e])) B))) (w1.alloc (.cells #[.int .i64 0, .int .i64 0] 274 (0, 0))) := by rw [heb]; exact h1.alloc _ hL1
  simp (disch := omega) [hq, hO.vw.len, hlen, wrap_i64, hO.idx, hidx, ec, ← heb]
  refine h2.st hL1 (by simp) (by simp) fun w3 h3 => ?_
  have he := h3.obj
  have h4 := h3.by Imp.fr3
  have hO4 := h4.own
  simp (disch := omega) [rd_q h3.drop.obj, hO4.vw.len, hlen, wrap_i64]
  refine hO4.slice_hi enE_len sl_272 (by simp) fun v' hv' hown => ?_
  have htk : (l ++ [e]).take l.length = l := by simp
  rw [htk] at hv'
  have h5 : At w F (Star (OwnA v' 274 2 enE l) (Star (ObjA eb _) (Star (ObjA qb (qO sv)) B))) w3 := h4.step (w2 := w3) Lcl.own (Lcl.obj.star (Lcl.obj.star hB)) (fun Fa ⟨_, hFa⟩ => ⟨v'.own, ⟨hv', rfl⟩, Kp.refl _ _, fun x hx => .inl (by rw [hFa, ← hown]; exact hx)⟩)
  have c5 := hv'.c1
  have o5 := hv'.o1
  have h6 := h5.by Imp.fr3
  unfold qO at h6
  simp [c5]
  refine h6.st (Lcl.own.star (Lcl.obj.star hB)) (by simp) (by simp [o5]) fun w7 h7 => ?_
  have he7 := h7.drop.drop.obj
  have ce : cellsAt w7 ⟨w1.heap.size, 0, none⟩ 0 2 = some [.int .i64 (e.1 : Nat), .int .i64 (e.2 : Nat)] := by
    rw [← heb]
    simp at he7
    simp [cellsAt, Addr.add, cell_blk he7]
  simp [ce, enV]
  exact ⟨v', (by unfold qO; simpa using h7.by (Imp.un (Imp.un Imp.dr)))⟩
theorem hUp_spec {w w1 : World} {F : List Nat} {B : Asr} (qb : Nat) (l : List En) (j : Nat) (hB : Lcl B) (h : QI qb l w F B w1) (hl : l.length ≤ 1000000) (hj : j < l.length) :
    Calls Tryz.prog 185 [hpV qb, .int .i64 (j : Nat)].toArray w1 fun x w' => ∃ y, x = .returned y ∧ QI qb (upL l j) w F B w' := by
  refine enter Tryz.func185 mixed low185 (Nat.le_of_ble_eq_true rfl) ?_
  simp only [L185]
  refine loop_inv (fun n ρ w' => ∃ l' j', j' = n ∧ upL l j = upL l' j' ∧ l'.length = l.length ∧ j' < l.length ∧ ρ 0 = hpV qb ∧ ρ 1 = .int .i64 (j' : Nat) ∧ QI qb l' w F B w') j ⟨l, j, rfl, rfl, rfl, hj, by simp, by simp, h⟩ ?_
  rintro n ρ w2 ⟨l', j', rfl, hup, hl', hj', g0, g1, sv, h2⟩
  have hq := rd_q h2.obj
  have hV := h2.drop.own.vw
  have hL2 : Lcl (Star (ObjA qb (qO sv)) (Star (OwnA sv 274 2 enE l') B)) := Lcl.obj.star (Lcl.own.star hB)
  by_cases hz : j' = 0
  · subst hz
    have ew : IntKind.i64.wrap (-1) = -1 := wrap_i64 (by omega) (by omega)
    have eq : (-1 : Int).tdiv 2 = 0 := by decide
    have e0 : IntKind.i64.wrap 0 = 0 := wrap_i64 (by omega) (by omega)
    conv at hup => rhs; rw [upL, dif_pos rfl]
    simp [g0, g1, ew, eq, e0]
    rw [hup]
    exact ⟨sv, h2⟩
  obtain ⟨p, hp⟩ : ∃ p, p = (j' - 1) / 2 := ⟨_, rfl⟩
  have ew : IntKind.i64.wrap ((j' : Int) - 1) = (j' : Int) - 1 := wrap_i64 (by omega) (by omega)
  have eq : ((j' : Int) - 1).tdiv 2 = (p : Int) := by rw [Int.tdiv_eq_ediv_of_nonneg (by omega)]; omega
  have ep : IntKind.i64.wrap (p : Int) = p := wrap_i64 (by omega) (by omega)
  have hne : ((p : Int) == (j' : Int)) = false := by simp; omega
  simp [g0, g1, ew, eq, ep, hne, hpV, iv_v mt_less mt_un mt_ag en_less hq]
  refine cl_of (less_spec sv l' j' p hV (by omega) (by omega)) ?_
  rintro _ w3 ⟨rfl, k3⟩
  have h3 := h2.kp0 hL2 k3
  conv at hup => rhs; rw [upL, dif_neg hz, ← hp]
  cases hb : bef (gt l' j') (gt l' p) with
  | false =>
    rw [hb] at hup
    simp at hup
    simp [hne]
    rw [hup]
    exact ⟨sv, h3⟩
  | true =>
    rw [hb] at hup
    simp at hup
    have hq3 := rd_q h3.obj
    simp [hne, g0, g1, hpV, iv_v mt_swap mt_un mt_ag en_swap hq3]
    refine cl_of (swap_spec sv l' p j' (Lcl.obj.star hB) (h3.by Imp.sw) (by omega) (by omega)) ?_
    rintro _ w4 h4
    simp
    have hc : swp l' p j' = swp l' j' p := by
      unfold swp
      exact (List.set_comm _ _ (by omega)).symm
    rw [hc] at h4
    exact ⟨p, by omega, swp l' j' p, hup, by simp [hl'], by omega, by simpa [hpV] using g0, rfl, sv, h4.by Imp.sw⟩
/-- Down in a list with one more entry behind it. -/
theorem gt_app {l : List En} {x : En} {i : Nat} (h : i < l.length) : gt (l ++ [x]) i = gt l i := by
  rw [gt_lt (by simp; omega), gt_lt h, List.getElem_append_left h]
theorem swp_app {l : List En} {x : En} {i p : Nat} (hi : i < l.length) (hp : p < l.length) : swp (l ++ [x]) i p = swp l i p ++ [x] := by
  unfold swp
  rw [gt_app hi, gt_app hp, List.set_append_left _ _ hi, List.set_append_left _ _ (by simpa using hp)]
theorem hDown_spec {w w1 : World} {F : List Nat} {B : Asr} (qb : Nat) (l : List En) (x : En) (hB : Lcl B) (h : QI qb (l ++ [x]) w F B w1) (hl : l.length ≤ 1000000) :
    Calls Tryz.prog 186 [hpV qb, .int .i64 0, .int .i64 (l.length : Nat)].toArray w1 fun r w' => ∃ y, r = .returned y ∧ QI qb (downL l 0 ++ [x]) w F B w' := by
  refine enter Tryz.func186 mixed low186 (Nat.le_of_ble_eq_true rfl) ?_
  simp only [L186]
  simp
  refine loop_inv (fun n ρ w' => ∃ l' i', n = l.length - i' ∧ downL l 0 = downL l' i' ∧ l'.length = l.length ∧ i' ≤ l.length ∧ ρ 0 = hpV qb ∧ ρ 1 = .int .i64 0 ∧ ρ 2 = .int .i64 (l.length : Nat) ∧ ρ 7 = .int .i64 (i' : Nat) ∧ QI qb (l' ++ [x]) w F B w') l.length ⟨l, 0, rfl, rfl, rfl, by omega, by simp, by simp, by simp, by simp, h⟩ ?_
  rintro n ρ w2 ⟨l', i', rfl, hdn, hl', hi', g0, g1, g2, g7, sv, h2⟩
  have hq := rd_q h2.obj
  have hV := h2.drop.own.vw
  have hL2 : Lcl (Star (ObjA qb (qO sv)) (Star (OwnA sv 274 2 enE (l' ++ [x])) B)) := Lcl.obj.star (Lcl.own.star hB)
  obtain ⟨d, hd⟩ : ∃ d, d = 2 * i' := ⟨_, rfl⟩
  have e1 : (2 : Int) * i' = (d : Int) := by omega
  have w1 : IntKind.i64.wrap (d : Int) = (d : Int) := wrap_i64 (by omega) (by omega)
  obtain ⟨j1, hj1⟩ : ∃ j1, j1 = 2 * i' + 1 := ⟨_, rfl⟩
  have e2 : (d : Int) + 1 = (j1 : Int) := by omega
  have w2' : IntKind.i64.wrap (j1 : Int) = j1 := wrap_i64 (by omega) (by omega)
  obtain ⟨j2, hj2⟩ : ∃ j2, j2 = j1 + 1 := ⟨_, rfl⟩
  have e3 : (j1 : Int) + 1 = (j2 : Int) := by omega
  have w3' : IntKind.i64.wrap (j2 : Int) = j2 := wrap_i64 (by omega) (by omega)
  by_cases hend : l.length ≤ j1
  · have hend' : (l.length : Int) ≤ j1 := by omega
    conv at hdn => rhs; rw [downL, dif_pos (show l'.length ≤ 2 * i' + 1 by omega)]
    simp [g0, g1, g2, g7, e1, w1, e2, w2', hend, hend']
    rw [hdn]
    exact ⟨sv, h2⟩
  have hend' : ¬ (l.length : Int) ≤ j1 := by omega
  have hneg : ¬ (j1 : Int) < 0 := by omega
  conv at hdn => rhs; rw [downL, dif_neg (show ¬ l'.length ≤ 2 * i' + 1 by omega)]
  obtain ⟨kd, hkd⟩ : ∃ kd, kd = kid l' i' := ⟨_, rfl⟩
  obtain ⟨hk1, hk2, hk3⟩ := kid_le (l := l') (i := i') (by omega)
  rw [← hkd] at hk1 hk2 hk3 hdn
  -- the lesser child
  refine seq_cut (fun ρ w' => ρ 0 = hpV qb ∧ ρ 1 = .int .i64 0 ∧ ρ 2 = .int .i64 (l.length : Nat) ∧ ρ 7 = .int .i64 (i' : Nat) ∧ ρ 8 = .int .i64 (j1 : Nat) ∧ w' = w2) ?_ ?_
  · simp [g0, g1, g2, g7, e1, w1, e2, w2']
  rintro ρ w2 ⟨g0, g1, g2, g7, g8, rfl⟩
  refine seq_cut (fun ρ w' => ρ 0 = hpV qb ∧ ρ 1 = .int .i64 0 ∧ ρ 2 = .int .i64 (l.length : Nat) ∧ ρ 7 = .int .i64 (i' : Nat) ∧ ρ 8 = .int .i64 (j1 : Nat) ∧ w' = w2) ?_ ?_
  · simp [g0, g1, g2, g7, g8, hend, hend', hneg]
  clear g0 g1 g2 g7 g8
  rintro ρ w2 ⟨g0, g1, g2, g7, g8, rfl⟩
  refine seq_cut (fun ρ w' => ρ 0 = hpV qb ∧ ρ 1 = .int .i64 0 ∧ ρ 2 = .int .i64 (l.length : Nat) ∧ ρ 7 = .int .i64 (i' : Nat) ∧ ρ 8 = .int .i64 (j1 : Nat) ∧ ρ 9 = .int .i64 (j1 : Nat) ∧ w' = w2) ?_ ?_
  · simp [g0, g1, g2, g7, g8]
  clear g0 g1 g2 g7 g8
  rintro ρ w2 ⟨g0, g1, g2, g7, g8, g9, rfl⟩
  refine seq_cut (fun ρ w' => ρ 0 = hpV qb ∧ ρ 1 = .int .i64 0 ∧ ρ 2 = .int .i64 (l.length : Nat) ∧ ρ 7 = .int .i64 (i' : Nat) ∧ ρ 9 = .int .i64 (kd : Nat) ∧ At w F (Star (ObjA qb (qO sv)) (Star (OwnA sv 274 2 enE (l' ++ [x])) B)) w') ?_ ?_
  · by_cases t : j2 < l.length
    · have t' : (j2 : Int) < l.length := by omega
      simp [g0, g1, g2, g7, g8, g9, e3, w3', t, t', hpV, iv_v mt_less mt_un mt_ag en_less hq]
      refine cl_of (less_spec sv (l' ++ [x]) j2 j1 hV (by simp; omega) (by simp; omega)) ?_
      rintro _ w3 ⟨rfl, k3⟩
      have h3 := h2.kp0 hL2 k3
      rw [gt_app (by omega), gt_app (by omega)]
      cases hb : bef (gt l' j2) (gt l' j1) with
      | true =>
        have : kd = j2 := by
          rw [hkd]; unfold kid
          rw [if_pos ⟨by omega, by rw [show 2 * i' + 2 = j2 by omega, show 2 * i' + 1 = j1 by omega]; exact hb⟩]
          omega
        simp [t, g0, g1, g2, g7, hpV, this]
        exact h3
      | false =>
        have : kd = j1 := by
          rw [hkd]; unfold kid
          rw [if_neg (fun h => by rw [show 2 * i' + 2 = j2 by omega, show 2 * i' + 1 = j1 by omega, hb] at h; exact absurd h.2 (by simp))]
          omega
        simp [t, g0, g1, g2, g7, g9, hpV, this]
        exact h3
    · have t' : ¬ (j2 : Int) < l.length := by omega
      have : kd = j1 := by
        rw [hkd]; unfold kid
        rw [if_neg (fun h => by omega)]
        omega
      simp [g0, g1, g2, g7, g8, g9, e3, w3', t, t', this]
      exact h2
  clear g0 g1 g2 g7 g8 g9
  rintro ρ w3 ⟨g0, g1, g2, g7, g9, h3⟩
  have hq3 := rd_q h3.obj
  have hV3 := h3.drop.own.vw
  simp [g0, g7, g9, hpV, iv_v mt_less mt_un mt_ag en_less hq3]
  refine cl_of (less_spec sv (l' ++ [x]) kd i' hV3 (by simp; omega) (by simp; omega)) ?_
  rintro _ w4 ⟨rfl, k4⟩
  have h4 := h3.kp0 hL2 k4
  rw [gt_app (by omega), gt_app (by omega)]
  cases hb : bef (gt l' kd) (gt l' i') with
  | false =>
    rw [hb] at hdn
    simp at hdn
    simp [g7, g1]
    rw [hdn]
    exact ⟨sv, h4⟩
  | true =>
    rw [hb] at hdn
    simp at hdn
    have hq4 := rd_q h4.obj
    simp [g0, g7, g9, hpV, iv_v mt_swap mt_un mt_ag en_swap hq4]
    refine cl_of (swap_spec sv (l' ++ [x]) i' kd (Lcl.obj.star hB) (h4.by Imp.sw) (by simp; omega) (by simp; omega)) ?_
    rintro _ w5 h5
    rw [swp_app (by omega) (by omega)] at h5
    simp [g9]
    exact ⟨l.length - kd, by omega, swp l' i' kd, kd, rfl, hdn, by simp [hl'], by omega, by simp [g0, hpV], g1, g2, rfl, sv, h5.by Imp.sw⟩
theorem hPush_spec {w w1 : World} {F : List Nat} {B : Asr} (qb : Nat) (l : List En) (e : En) (hB : Lcl B) (h : QI qb l w F B w1) (hl : l.length ≤ 900000) :
    Calls Tryz.prog 130 [hpV qb, .iface 274 (enV e)].toArray w1 fun x w' => ∃ y, x = .returned y ∧ QI qb (upL (l ++ [e]) l.length) w F B w' := by
  refine enter Tryz.func130 mixed low130 (Nat.le_of_ble_eq_true rfl) ?_
  simp only [L130]
  simp [hpV, iv_p mt_push mt_un en_push]
  refine cl_of (push_spec qb l e hB h (by omega)) ?_
  rintro _ w2 ⟨sv, h2⟩
  have hL2 : Lcl (Star (ObjA qb (qO sv)) (Star (OwnA sv 274 2 enE (l ++ [e])) B)) := Lcl.obj.star (Lcl.own.star hB)
  simp [hpV, iv_v mt_len mt_un mt_ag en_len (rd_q h2.obj)]
  refine cl_of (len_spec sv (l ++ [e]) h2.drop.own.vw) ?_
  rintro _ w3 ⟨rfl, k3⟩
  have h3 := h2.kp0 hL2 k3
  have e1 : ((l ++ [e]).length : Int) - 1 = (l.length : Int) := by simp
  simp only [run_mk]
  simp (disch := omega) [e1, wrap_i64]
  refine cl_of (hUp_spec qb (l ++ [e]) l.length hB ⟨sv, h3⟩ (by simp; omega) (by simp)) ?_
  rintro _ w4 h4
  simp
  exact h4
theorem hPop_spec {w w1 : World} {F : List Nat} {B : Asr} (qb : Nat) (l : List En) (e : En) (hB : Lcl B) (h : QI qb (e :: l) w F B w1) (hl : l.length ≤ 900000) :
    Calls Tryz.prog 132 [hpV qb].toArray w1 fun x w' => ∃ y, x = .returned y ∧ y = .iface 274 (enV e) ∧ QI qb (downL (topL (e :: l)) 0) w F B w' := by
  obtain ⟨sv, h1⟩ := h
  refine enter Tryz.func132 mixed low132 (Nat.le_of_ble_eq_true rfl) ?_
  simp only [L132]
  have hL1 : ∀ l', Lcl (Star (ObjA qb (qO sv)) (Star (OwnA sv 274 2 enE l') B)) := fun l' => Lcl.obj.star (Lcl.own.star hB)
  simp [hpV, iv_v mt_len mt_un mt_ag en_len (rd_q h1.obj)]
  refine cl_of (len_spec sv (e :: l) h1.drop.own.vw) ?_
  rintro _ w2 ⟨rfl, k2⟩
  have h2 := h1.kp0 (hL1 _) k2
  have e1 : ((e :: l).length : Int) - 1 = (l.length : Int) := by simp
  simp only [run_mk]
  simp (disch := omega) [e1, wrap_i64, iv_v mt_swap mt_un mt_ag en_swap (rd_q h2.obj)]
  refine cl_of (swap_spec sv (e :: l) 0 l.length (Lcl.obj.star hB) (h2.by Imp.sw) (by simp) (by simp)) ?_
  rintro _ w3 h3
  have est : swp (e :: l) 0 l.length = topL (e :: l) ++ [e] := by
    have := swp_top (l := e :: l) (by simp)
    simpa [gt] using this
  rw [est] at h3
  have htl : (topL (e :: l)).length = l.length := by rw [topL_len]; simp
  simp
  have hd := hDown_spec qb (topL (e :: l)) e hB ⟨sv, h3.by Imp.sw⟩ (by omega)
  rw [htl] at hd
  refine cl_of hd ?_
  rintro _ w4 h4
  simp [iv_p mt_pop mt_un en_pop]
  refine cl_of (pop_spec qb (downL (topL (e :: l)) 0) e hB h4 ?_) ?_
  · rw [downL_len _ 0 _ (Nat.le_refl _)]; omega
  rintro _ w5 ⟨rfl, h5⟩
  simp
  exact h5
end Go.Proofs.YtolkjbmcindhjaaGreat.Pd
end
section
set_option maxRecDepth 100000
set_option linter.unusedSimpArgs false
set_option linter.unusedVariables false
namespace Go.Proofs.YtolkjbmcindhjaaGreat
open Go Go.W Go.Tk Go.Rx Go.Maps
theorem rd_sd {w : World} {b : Nat} {e : Ed} (h : w.heap[b]? = some (.cells #[.int .i64 (e.1 : Nat), .int .i64 (e.2.1 : Nat), .int .i64 (e.2.2 : Nat)] 201 (0, 0))) : cellsAt w ⟨b, 0, none⟩ 0 3 = some [.int .i64 (e.1 : Nat), .int .i64 (e.2.1 : Nat), .int .i64 (e.2.2 : Nat)] := by
  simp [cellsAt, Addr.add, cell_blk h]
def sdO (e : Ed) : Obj := .cells #[.int .i64 (e.1 : Nat), .int .i64 (e.2.1 : Nat), .int .i64 (e.2.2 : Nat)] 201 (0, 0)
theorem st_sd {e : Ed} {b : Nat} {w wa : World} {F : List Nat} {X : Asr} {KW : Kont World} (hX : Lcl X) (h : At w F X wa) (hb : b = wa.heap.size) (H : ∀ w2, At w F (Star (ObjA b (sdO e)) X) w2 → KW.run w2) :
    @stJ (wa.alloc (.cells #[.int .i64 0, .int .i64 0, .int .i64 0] 201 (0, 0))) ⟨b, 0, none⟩ [.int .i64 (e.1 : Nat), .int .i64 (e.2.1 : Nat), .int .i64 (e.2.2 : Nat)] KW := by
  have h1 : At w F (Star (ObjA b (.cells #[.int .i64 0, .int .i64 0, .int .i64 0] 201 (0, 0))) X) (wa.alloc (.cells #[.int .i64 0, .int .i64 0, .int .i64 0] 201 (0, 0))) := by rw [hb]; exact h.alloc _ hX
  exact h1.st hX (by simp) (by simp) fun w2 h2 => H w2 (by simpa [sdO] using h2)
theorem upto_upd {k : Nat} {g : Nat → Nat} {d x : Nat} : updN (upto (k + 1) g d) k x = upto (k + 1) (updN g k x) d := by
  funext j
  unfold upto
  by_cases h : j = k
  · subst h; simp
  · rw [updN_ne h, updN_ne h]
theorem glS_at {gl : List Bool} {k : Nat} (h : gl[k]? = some true) : k ∈ glS gl := glS_mem.2 h
def itO (e : En) : Obj := .cells #[.int .i64 (e.1 : Nat), .int .i64 (e.2 : Nat)] 274 (0, 0)
theorem st_it {e : En} {b : Nat} {w wa : World} {F : List Nat} {X : Asr} {KW : Kont World} (hX : Lcl X) (h : At w F X wa) (hb : b = wa.heap.size) (H : ∀ w2, At w F (Star (ObjA b (itO e)) X) w2 → KW.run w2) :
    @stJ (wa.alloc (.cells #[.int .i64 0, .int .i64 0] 274 (0, 0))) ⟨b, 0, none⟩ [.int .i64 (e.1 : Nat), .int .i64 (e.2 : Nat)] KW := by
  have h1 : At w F (Star (ObjA b (.cells #[.int .i64 0, .int .i64 0] 274 (0, 0))) X) (wa.alloc (.cells #[.int .i64 0, .int .i64 0] 274 (0, 0))) := by rw [hb]; exact h.alloc _ hX
  exact h1.st hX (by simp) (by simp) fun w2 h2 => H w2 (by simpa [itO] using h2)
/-- What a system is like in memory. -/
structure SyR (w : World) (N m : Nat) (cs : List Nat) (ev gv cov : Value) (es : List Ed) (gl : List Bool) : Prop where
  res : Vw w ev edE es
  rgl : Vw w gv bE gl
  rcs : Vw w cov nE cs
  sy : Sy es N m
  glen : gl.length = N
  clen : cs.length = m
  cmax : ∀ x ∈ cs, x ≤ 1048576
  n : N ≤ 4096
  elen : es.length ≤ 20000
theorem SyR.kp {w w' : World} {N m : Nat} {cs : List Nat} {ev gv cov : Value} {es : List Ed} {gl : List Bool} (h : SyR w N m cs ev gv cov es gl) (k : Kp [] w w') : SyR w' N m cs ev gv cov es gl := ⟨h.res.kp0 k, h.rgl.kp0 k, h.rcs.kp0 k, h.sy, h.glen, h.clen, h.cmax, h.n, h.elen⟩
abbrev FrD (xb N I : Nat) (cv ev gv : Value) : Asr := Star (ObjA xb (syO N I cv ev gv)) Emp
theorem lcl_d {xb N I : Nat} {cv ev gv : Value} : Lcl (FrD xb N I cv ev gv) := Lcl.obj.star .emp
/-- The rows of edges by their ends. -/
def ToI (N : Nat) (es : List Ed) (ps : List (Cell1 × List Ed)) : Prop := ps.length = N ∧ ∀ v pr, ps[v]? = some pr → pr.2 = toL es v
def DsA (N I xb : Nat) (cv ev gv cov tv : Value) (es : List Ed) (w : World) (k : Nat) (ρ : Env) (w' : World) : Prop :=
  ρ 1 = cov ∧ ρ 2 = .pointer (some ⟨xb, 0, none⟩) ∧ ρ 5 = tv ∧ ρ 21 = ev ∧ ∃ ps, ToI N (es.take k) ps ∧ At w [] (Star (TabS tv 192 201 3 edE ps) (FrD xb N I cv ev gv)) w'
abbrev D1 (N I xb : Nat) (cv ev gv tv ov : Value) (ps : List (Cell1 × List Ed)) (out : List Nat) : Asr := Star (OwnA ov 3 1 nE out) (Star (TabS tv 192 201 3 edE ps) (FrD xb N I cv ev gv))
theorem lcl_d1 {N I xb : Nat} {cv ev gv tv ov : Value} {ps : List (Cell1 × List Ed)} {out : List Nat} : Lcl (D1 N I xb cv ev gv tv ov ps out) := Lcl.own.star (Lcl.tabS.star lcl_d)
/-- The goal states below k. -/
def glK (gl : List Bool) (k : Nat) : List Nat := (List.range k).filter fun i => gl.getD i false
theorem glK_all (gl : List Bool) : glK gl gl.length = glS gl := rfl
theorem glK_succ {gl : List Bool} {k : Nat} : glK gl (k + 1) = if gl.getD k false = true then glK gl k ++ [k] else glK gl k := by
  unfold glK
  rw [List.range_succ, List.filter_append, List.filter_cons, List.filter_nil]
  cases h : gl.getD k false with
  | true => rw [if_pos rfl, if_pos rfl]
  | false => rw [if_neg (by decide), if_neg (by decide)]; simp
def DsB (N I xb qb : Nat) (cv ev gv cov tv ov : Value) (es : List Ed) (gl : List Bool) (c : Nat → Nat) (ps : List (Cell1 × List Ed)) (w : World) (k : Nat) (ρ : Env) (w' : World) : Prop :=
  ρ 1 = cov ∧ ρ 2 = .pointer (some ⟨xb, 0, none⟩) ∧ ρ 5 = tv ∧ ρ 8 = ov ∧ ρ 9 = .pointer (some ⟨qb, 0, none⟩) ∧ ρ 46 = gv ∧ ∃ out s l, Dq es c (glS gl) (glK gl k) out s (fun _ => false) 0 [] ∧ Hp l s ∧ l.length ≤ k ∧ (∀ f, k ≤ f → out f = Inf) ∧
    Pd.QI qb l w [] (D1 N I xb cv ev gv tv ov ps (tabN N (upto k out 0))) w'
def DsC (N I xb qb : Nat) (cv ev gv cov tv ov : Value) (es : List Ed) (gl : List Bool) (c : Nat → Nat) (ps : List (Cell1 × List Ed)) (w : World) (n : Nat) (ρ : Env) (w' : World) : Prop :=
  ρ 1 = cov ∧ ρ 5 = tv ∧ ρ 8 = ov ∧ ρ 9 = .pointer (some ⟨qb, 0, none⟩) ∧ ∃ out s l done cur, Dq es c (glS gl) (glS gl) out s done cur [] ∧ Hp l s ∧ n = l.length + und es done ∧ n ≤ N + es.length ∧ Pd.QI qb l w [] (D1 N I xb cv ev gv tv ov ps (tabN N out)) w'
def DsD (N I xb qb ib v f n0 : Nat) (cv ev gv cov tv ov : Value) (es : List Ed) (gl : List Bool) (c : Nat → Nat) (done : Nat → Bool) (ps : List (Cell1 × List Ed)) (row : Value) (w : World) (k : Nat) (ρ : Env) (w' : World) : Prop :=
  ρ 1 = cov ∧ ρ 5 = tv ∧ ρ 8 = ov ∧ ρ 9 = .pointer (some ⟨qb, 0, none⟩) ∧ ρ 12 = .pointer (some ⟨ib, 0, none⟩) ∧ ρ 91 = row ∧ ∃ out s l, Dq es c (glS gl) (glS gl) out s done v ((toL es f).drop k) ∧ out f = v ∧ Hp l s ∧ l.length + und es done + (toL es f).length ≤ n0 + k ∧
    Pd.QI qb l w [] (Star (ObjA ib (itO (v, f))) (D1 N I xb cv ev gv tv ov ps (tabN N out))) w'
set_option maxHeartbeats 4000000 in
theorem pddist_spec {w : World} (N I m : Nat) (cv ev gv cov : Value) (es : List Ed) (gl : List Bool) (cs : List Nat) (hS : SyR w N m cs ev gv cov es gl) :
    Calls Tryz.prog 116 [syV N I cv ev gv, cov].toArray w fun e w' => ∃ u, e = .returned u ∧ ∃ V, IsVal (unE es fun i => cs.getD i 0) (glS gl) V ∧ Nw w w' u 3 1 nE (tabN N V) := by
  refine enter Tryz.func116 mixed low116 (Nat.le_of_ble_eq_true rfl) ?_
  simp only [L116]
  obtain ⟨c, hc0⟩ : ∃ c : Nat → Nat, c = fun i => cs.getD i 0 := ⟨_, rfl⟩
  rw [← hc0]
  have hn := hS.n
  have hel := hS.elen
  obtain ⟨xb, hxb⟩ : ∃ xb, xb = w.heap.size := ⟨_, rfl⟩
  have h1 : At w [] (FrD xb N I cv ev gv) (w.alloc (syO N I cv ev gv)) := by rw [hxb]; exact (At.start rfl).alloc _ .emp
  obtain ⟨w1, hw1⟩ : ∃ w1, w1 = w.alloc (syO N I cv ev gv) := ⟨_, rfl⟩
  rw [← hw1] at h1
  have hw1' : w.alloc (.cells #[.int .i64 (N : Nat), .int .i64 (I : Nat), cv, ev, gv] 194 (0, 0)) = w1 := by rw [hw1]; rfl
  have ob1 := h1.obj
  unfold syO at ob1
  simp (disch := omega) [syV, ← hxb, hw1', cell_blk ob1]
  refine gd_mk (by omega) ?_
  have h2 := h1.made (E := 192) (enc := (sv1 : Cell1 × List Ed → List Value)) (x := (⟨nlV, rfl⟩, [])) (z := [nlV]) (n := N) lcl_d rfl sv1_len (by unfold maxLen; omega)
  have h2 := ((At.rows_nil (E := 201) (sz := 3) (enc := edE) (Lcl.own.star lcl_d) h2 rfl N).by (RowsA.up _)).by TabS.cls
  obtain ⟨tv, htv⟩ : ∃ tv, tv = Value.slice (some ⟨w1.heap.size, 0, none⟩) N N := ⟨_, rfl⟩
  obtain ⟨w2, hw2⟩ : ∃ w2, w2 = w1.alloc (.cells (rowOf [nlV] N).toArray 192) := ⟨_, rfl⟩
  rw [← htv, ← hw2] at h2
  have ob2 := h2.drop.obj
  unfold syO at ob2
  have hS2 := hS.kp h2.kp
  simp (disch := omega) [← htv, ← hw2, cell_blk ob2, hS2.res.len]
  refine range_loop (n := es.length) (by omega) (DsA N I xb cv ev gv cov tv es w) (by simp) (by simp)
    ⟨by simp, by simp, by simp, by simp, _, ⟨by simp, fun v pr hpr => ?_⟩, h2⟩ (by decide) (fun _ _ _ _ h => by simpa [DsA] using h) (fun _ _ _ _ h => by simpa [DsA] using h) ?_ ?_
  · rw [List.getElem?_replicate] at hpr
    split at hpr
    · cases hpr; rfl
    · cases hpr
  · clear h1 h2 ob1 ob2 hS2 hw1 hw1' hw2 htv hxb
    rintro k ρ w3 hk hcc hlm ⟨g1, g2, g5, g21, ps, ⟨hpl, hps⟩, h3⟩
    obtain ⟨e, he⟩ : ∃ e, es[k]? = some e := ⟨_, List.getElem?_eq_getElem hk⟩
    have hem := List.mem_of_getElem? he
    obtain ⟨he1, he2, he3⟩ := hS.sy.rng e hem
    have hS3 := hS.kp h3.kp
    have ece := hS3.res.cells edE_len he
    simp only [edE] at ece
    obtain ⟨eb, heb⟩ : ∃ eb, eb = w3.heap.size := ⟨_, rfl⟩
    have hki : (k : Int) < es.length := by omega
    simp (disch := omega) [g21, hcc, hlm, hS3.res.idx, ece, ← heb]
    refine st_sd (e := e) (Lcl.tabS.star lcl_d) h3 heb fun w4 h4 => ?_
    have oe4 := h4.obj
    unfold sdO at oe4
    rw [heb] at oe4
    obtain ⟨pr, hpr⟩ : ∃ pr, ps[e.2.2]? = some pr := ⟨_, List.getElem?_eq_getElem (by omega)⟩
    have h4s := (h4.by Imp.sw).drew (Lcl.tabS.star (Lcl.obj.star lcl_d))
    have hTO := TabS.own h4s
    have htc := TabS.cell h4s hpr
    have hei : (e.2.2 : Int) < ps.length := by omega
    have rde := rd_sd oe4
    have hrl : pr.2.length ≤ 20000 := by
      rw [hps _ _ hpr]
      have h5 : (toL (es.take k) e.2.2).length ≤ (es.take k).length := List.length_filter_le _ _
      have h6 : (es.take k).length ≤ es.length := by simp; omega
      omega
    simp (disch := omega) [cell_blk oe4, g5, hTO.idx, htc, rde]
    have hLr : Lcl (Star (OwnA tv 192 1 sv1 ps) (RowsA 201 3 edE (ps.eraseIdx e.2.2) (Star (ObjA eb (sdO e)) (FrD xb N I cv ev gv)))) := TabS.lcl_rest (Lcl.obj.star lcl_d)
    have htk := take_snoc he
    have fin : ∀ (u : Value) (w5 : World), At w [] (Star (OwnA u 201 3 edE (pr.2 ++ [e])) (Star (OwnA tv 192 1 sv1 ps) (RowsA 201 3 edE (ps.eraseIdx e.2.2) (Star (ObjA eb (sdO e)) (FrD xb N I cv ev gv))))) w5 →
        ∀ {KW : Kont World}, (∀ w6, (∃ ps, ToI N (es.take (k + 1)) ps ∧ At w [] (Star (TabS tv 192 201 3 edE ps) (FrD xb N I cv ev gv)) w6) → KW.run w6) → @stJ w5 ⟨tv.blk, e.2.2, none⟩ [u] KW := fun u w5 h5 KW H => by
      refine TabS.put (Lcl.obj.star lcl_d) h5 hpr rfl fun ho w6 h6 => H w6 ⟨_, ⟨by simp [hpl], fun v q hq => ?_⟩, h6.by (Imp.un Imp.dr)⟩
      rw [htk, toL_snoc]
      by_cases e1 : e.2.2 = v
      · rw [← e1, List.getElem?_set_self (by omega)] at hq
        cases hq
        rw [if_pos e1, hps _ _ hpr, e1]
      · rw [List.getElem?_set_ne e1] at hq
        rw [if_neg e1]
        exact hps _ _ hq
    refine ⟨?_, ?_⟩
    all_goals
      refine se_append (l := pr.2) (x := e) hLr (h4s.by (TabS.take hpr)) (by omega) fun u w5 h5 => ?_
      have h5b := h5.drop.by (Imp.un (RowsA.drop (X := Star (ObjA eb (sdO e)) (FrD xb N I cv ev gv)) (ps.eraseIdx e.2.2)))
      have oe5 := h5b.drop.obj
      unfold sdO at oe5
      rw [heb] at oe5
      have hTO5 := h5.drop.own
      simp (disch := omega) [cell_blk oe5, g5, hTO5.idx, h5.own.c1]
      refine fin u w5 h5 fun w6 h6 => ?_
      simp [hcc, hlm]
      exact ⟨by simp [g1], by simp [g2], by simp [g5], by simp [g21], h6⟩
  clear h1 h2 ob1 ob2 hS2 hw1 hw1' hw2 htv hxb
  rintro ρ w3 ⟨g1, g2, g5, g21, ps, hTo, h3⟩
  rw [List.take_length] at hTo
  obtain ⟨hpl, hps⟩ := hTo
  have ob3 := h3.drop.obj
  unfold syO at ob3
  simp (disch := omega) [g2, cell_blk ob3]
  refine gd_mk (by omega) ?_
  have h4 := h3.made (E := 3) (enc := nE) (x := 0) (z := [.int .i64 0]) (n := N) (Lcl.tabS.star lcl_d) rfl nE_len (by unfold maxLen; omega)
  obtain ⟨ov, hov⟩ : ∃ ov, ov = Value.slice (some ⟨w3.heap.size, 0, none⟩) N N := ⟨_, rfl⟩
  obtain ⟨w4, hw4⟩ : ∃ w4, w4 = w3.alloc (.cells (rowOf [.int .i64 0] N).toArray 3) := ⟨_, rfl⟩
  rw [← hov, ← hw4, upto_zero N 0 fun _ => Inf] at h4
  have hLD : ∀ out, Lcl (D1 N I xb cv ev gv tv ov ps out) := fun _ => lcl_d1
  have h5 : At w [] (Star (OwnA (.slice (some ⟨w4.heap.size, 0, none⟩) 0 0) 274 2 Pd.enE ([] : List En)) (D1 N I xb cv ev gv tv ov ps (tabN N (upto 0 (fun _ => Inf) 0)))) (w4.alloc (.cells #[] 274)) := h4.lit (xs := []) (hLD _) (by simp) Pd.enE_len (by simp [maxLen]) rfl
  obtain ⟨w5, hw5⟩ : ∃ w5, w5 = w4.alloc (.cells #[] 274) := ⟨_, rfl⟩
  obtain ⟨sv0, hsv0⟩ : ∃ sv0, sv0 = Value.slice (some ⟨w4.heap.size, 0, none⟩) 0 0 := ⟨_, rfl⟩
  rw [← hw5, ← hsv0] at h5
  have hsc0 : sv0.cells = #[sv0] := by rw [hsv0]; rfl
  have h6 := h5.alloc (Pd.qO sv0) (Lcl.own.star (hLD _))
  obtain ⟨qb, hqb⟩ : ∃ qb, qb = w5.heap.size := ⟨_, rfl⟩
  obtain ⟨w6, hw6⟩ : ∃ w6, w6 = w5.alloc (Pd.qO sv0) := ⟨_, rfl⟩
  rw [← hqb, ← hw6] at h6
  have hw6' : w5.alloc (.cells #[sv0] 272 (0, 0)) = w6 := by rw [hw6]; rfl
  have ob6 := h6.drop.drop.drop.drop.obj
  unfold syO at ob6
  have hS6 := hS.kp h6.kp
  simp (disch := omega) [← hov, ← hw4, ← hw5, ← hsv0, hsc0, ← hqb, hw6', g2, cell_blk ob6, hS6.rgl.len]
  refine range_loop (n := gl.length) (by rw [hS.glen]; omega) (DsB N I xb qb cv ev gv cov tv ov es gl c ps w) (by simp) (by simp)
    ⟨by simp [g1], by simp [g2], by simp [g5], by simp, by simp, by simp, fun _ => Inf, [], [], Dq.init, Hp.nil, by simp, fun _ _ => rfl, sv0, h6⟩ (by decide) (fun _ _ _ _ h => by simpa [DsB] using h) (fun _ _ _ _ h => by simpa [DsB] using h) ?_ ?_
  · clear h3 h4 h5 h6 ob3 ob6 hS6 hw4 hw5 hw6 hw6' hqb hsv0 hsc0 hov g1 g2 g5 g21
    rintro k ρ w7 hk hcc hlm ⟨g1, g2, g5, g8, g9, g46, out, s, l, hD, hH, hll, hinf, sv, h7⟩
    have hkN : k < N := by rw [← hS.glen]; exact hk
    have hkN' : (k : Int) < (N : Nat) := by omega
    obtain ⟨g, hg⟩ : ∃ g, gl[k]? = some g := ⟨_, List.getElem?_eq_getElem hk⟩
    have hgd : gl.getD k false = g := by simp [List.getD, hg]
    have hS7 := hS.kp h7.kp
    have h7b := h7.by Imp.fr3
    have hO := h7b.own
    have ecg := hS7.rgl.cell (f := Value.bool) hg
    have hgi : (k : Int) < gl.length := by omega
    have hoi : (k : Int) < (tabN N (upto k out 0)).length := by rw [tabN_len]; omega
    have hoN : k < (tabN N (upto k out 0)).length := by rw [tabN_len]; exact hkN
    simp (disch := omega) [g46, hcc, hlm, hS7.rgl.idx, ecg, g8, hO.idx]
    have hLq : ∀ sv l out, Lcl (Star (ObjA qb (Pd.qO sv)) (Star (OwnA sv 274 2 Pd.enE l) (D1 N I xb cv ev gv tv ov ps out))) := fun _ _ _ => Lcl.obj.star (Lcl.own.star (hLD _))
    have hLr : Lcl (Star (ObjA qb (Pd.qO sv)) (Star (OwnA sv 274 2 Pd.enE l) (Star (TabS tv 192 201 3 edE ps) (FrD xb N I cv ev gv)))) := Lcl.obj.star (Lcl.own.star (Lcl.tabS.star lcl_d))
    refine h7b.store1 hLr nE_len nE_one hoN (x := Inf) rfl fun w8 h8 => ?_
    have e1 : (tabN N (upto k out 0)).set k Inf = tabN N (upto (k + 1) out 0) := by
      rw [tabN_set hkN, ← hinf k (Nat.le_refl _), upto_succ]
    rw [e1] at h8
    cases g with
    | false =>
      simp [hcc, hlm]
      refine ⟨by simp [g1], by simp [g2], by simp [g5], by simp [g8], by simp [g9], by simp [g46], out, s, l, ?_, hH, by omega, fun f hf => hinf f (by omega), sv, h8.by Imp.bk3⟩
      rw [glK_succ, hgd]
      exact hD
    | true =>
      have hO8 := h8.own
      have hoi8 : (k : Int) < (tabN N (upto (k + 1) out 0)).length := by rw [tabN_len]; omega
      have hoN8 : k < (tabN N (upto (k + 1) out 0)).length := by rw [tabN_len]; exact hkN
      simp (disch := omega) [g8, hO8.idx, hcc]
      refine h8.store1 hLr nE_len nE_one hoN8 (x := 0) rfl fun w9 h9 => ?_
      have e2 : (tabN N (upto (k + 1) out 0)).set k 0 = tabN N (upto (k + 1) (updN out k 0) 0) := by rw [tabN_set hkN, upto_upd]
      rw [e2] at h9
      have hp := Pd.hPush_spec qb l (0, k) (hLD _) ⟨sv, h9.by Imp.bk3⟩ (by omega)
      simp only [Pd.hpV, Pd.enV] at hp
      simp [g9, hcc]
      refine cl_of hp ?_
      rintro _ wA hA
      simp [hcc, hlm]
      refine ⟨by simp [g1], by simp [g2], by simp [g5], by simp [g8], by simp [g9], by simp [g46], updN out k 0, (0, k) :: s, _, ?_, hH.push (0, k), ?_, fun f hf => ?_, hA⟩
      · rw [glK_succ, hgd]
        exact hD.goal (glS_at hg) (hinf k (Nat.le_refl _))
      · rw [upL_len]; simp; omega
      · rw [updN_ne (by omega)]; exact hinf f (by omega)
  clear h3 h4 h5 h6 ob3 ob6 hS6 hw4 hw5 hw6 hw6' hqb hsv0 hsc0 hov g1 g2 g5 g21
  rintro ρ w7 ⟨g1, g2, g5, g8, g9, g46, out, s, l, hD, hH, hll, hinf, sv, h7⟩
  rw [glK_all] at hD
  rw [hS.glen, upto_all] at h7
  simp only [thenK_nrm]
  refine seq_cut (fun ρ w' => ρ 8 = ov ∧ ∃ V, IsVal (unE es c) (glS gl) V ∧ At w [] (D1 N I xb cv ev gv tv ov ps (tabN N V)) w') ?_ ?_
  rotate_left
  · clear h7 g1 g2 g5 g8 g9 g46
    rintro ρ w8 ⟨g8, V, hV, h8⟩
    simp [g8]
    exact ⟨V, hV, Nw.of h8⟩
  simp
  refine loop_inv (DsC N I xb qb cv ev gv cov tv ov es gl c ps w) _ ⟨g1, g5, g8, g9, out, s, l, _, 0, hD, hH, rfl, by have := und_le (es := es) (done := fun _ => false); have := hS.glen; omega, sv, h7⟩ ?_
  clear h7 g1 g2 g5 g8 g9 g46 hD hH hll hinf sv out s l
  rintro n ρ w8 ⟨g1, g5, g8, g9, out, s, l, done, cur, hD, hH, hn0, hnb, sv, h8⟩
  have hLq : ∀ sv l out, Lcl (Star (ObjA qb (Pd.qO sv)) (Star (OwnA sv 274 2 Pd.enE l) (D1 N I xb cv ev gv tv ov ps out))) := fun _ _ _ => Lcl.obj.star (Lcl.own.star (hLD _))
  have hul := und_le (es := es) (done := done)
  simp [g9, Pd.rd_q h8.obj]
  refine cl_of (Pd.len_spec sv l h8.drop.own.vw) ?_
  rintro _ w9 ⟨rfl, k9⟩
  have h9 := h8.kp0 (hLq _ _ _) k9
  cases l with
  | nil =>
    have hq0 : s = [] := List.Perm.nil_eq hH.perm |>.symm
    subst hq0
    simp [g8]
    exact ⟨out, hD.fin, h9.drop.drop⟩
  | cons x l' =>
  obtain ⟨hH1, hxq, hxm⟩ := hH.pop
  have hpos : (0 : Int) < (l'.length : Int) + 1 := by omega
  simp only [List.length_cons] at hn0
  have hp := Pd.hPop_spec qb l' x (hLD _) ⟨sv, h9⟩ (by omega)
  simp only [Pd.hpV, Pd.enV] at hp
  simp [g9]
  refine cl_of hp ?_
  rintro _ wA ⟨rfl, svA, hA⟩
  obtain ⟨l1, hl1⟩ : ∃ l1, l1 = downL (topL (x :: l')) 0 := ⟨_, rfl⟩
  have hl1l : l1.length = l'.length := by rw [hl1, downL_len _ 0 _ (Nat.le_refl _), topL_len]; simp
  rw [← hl1] at hA hH1
  obtain ⟨v, f⟩ := x
  have hxe := hD.dk.ent _ hxq
  have hfN : f < N := sy_der hS.sy (fun g hg => by rw [← hS.glen]; exact glS_lt hg) f _ (hD.dk.der f (Nat.lt_of_le_of_lt hxe.1 hxe.2))
  have hvI : v < 1125899906842624 := hxe.2
  obtain ⟨ib, hib⟩ : ∃ ib, ib = wA.heap.size := ⟨_, rfl⟩
  simp [← hib]
  refine st_it (e := (v, f)) (hLq _ _ _) hA hib fun wB hB => ?_
  have oiB := hB.obj
  simp only [itO] at oiB
  rw [hib] at oiB
  have hB4 := hB.by Imp.fr4
  have hOB := hB4.own
  have hfi : (f : Int) < (tabN N out).length := by rw [tabN_len]; omega
  have hof : (tabN N out)[f]? = some (out f) := tabN_at hfN
  have hfr : ∀ ib sv l out, Imp (Star (ObjA ib (itO (v, f))) (Star (ObjA qb (Pd.qO sv)) (Star (OwnA sv 274 2 Pd.enE l) (D1 N I xb cv ev gv tv ov ps out)))) (Star (ObjA qb (Pd.qO sv)) (Star (OwnA sv 274 2 Pd.enE l) (Star (ObjA ib (itO (v, f))) (D1 N I xb cv ev gv tv ov ps out)))) := fun _ _ _ _ => Imp.bk3
  clear hp h8 h9 hA k9
  by_cases t0 : out f < v
  · have t1 : (out f : Int) < (v : Int) := by omega
    simp (disch := omega) [cell_blk oiB, g8, hOB.idx, own_cell hOB hof, t0, t1]
    exact ⟨l1.length + und es done, by omega, g1, g5, g8, g9, out, s.erase (v, f), l1, done, cur, hD.skip t0, hH1, rfl, by omega, svA, hB.drop.drew (hLq _ _ _)⟩
  have t1 : ¬ (out f : Int) < (v : Int) := by omega
  simp (disch := omega) [cell_blk oiB, g8, hOB.idx, own_cell hOB hof, t0, t1]
  obtain ⟨hdf, hof2, hD1⟩ := hD.pop hxq hxm (by simpa using t0)
  simp only at hdf hof2 hD1
  have hund := und_upd (es := es) hdf
  obtain ⟨pr, hpr⟩ : ∃ pr, ps[f]? = some pr := ⟨_, List.getElem?_eq_getElem (by omega)⟩
  have hpe := hps _ _ hpr
  obtain ⟨prc, prl⟩ := pr
  have hpe : prl = toL es f := hpe
  subst hpe
  have hB5 := (hB.by Imp.fr5).drew (Lcl.tabS.star (Lcl.obj.star (Lcl.obj.star (Lcl.own.star (Lcl.own.star lcl_d)))))
  have hTO := TabS.own hB5
  have htc := TabS.cell hB5 hpr
  have hrow := TabS.row hB5 hpr
  have hfp : (f : Int) < ps.length := by omega
  have hrl : (toL es f).length ≤ es.length := List.length_filter_le _ _
  simp (disch := omega) [cell_blk oiB, g5, hTO.idx, htc, hrow.len]
  obtain ⟨n0, hn1⟩ : ∃ n0, n0 = l'.length + und es done := ⟨_, rfl⟩
  refine range_loop (n := (toL es f).length) (by omega) (DsD N I xb qb ib v f n0 cv ev gv cov tv ov es gl c (updN done f true) ps prc.1 w) (by simp) (by simp)
    ⟨by simp [g1], by simp [g5], by simp [g8], by simp [g9], by simp [← hib], by simp, out, s.erase (v, f), l1, by simpa using hD1, hof2, hH1, by omega, svA, (hB.by (hfr _ _ _ _)).drew (Lcl.obj.star (Lcl.own.star (Lcl.obj.star (hLD _))))⟩ (by decide) (fun _ _ _ _ h => by simpa [DsD] using h) (fun _ _ _ _ h => by simpa [DsD] using h) ?_ ?_
  rotate_left
  · clear hB hB4 hB5 hOB hTO htc hrow oiB g1 g5 g8 g9 hD hD1 hH hH1 hxq hxm hxe hof hof2 t0 t1
    rintro ρ wC ⟨g1, g5, g8, g9, g12, g91, out2, s2, l2, hD2, hof3, hH2, hlen, sv2, hC⟩
    rw [List.drop_length] at hD2
    simp
    exact ⟨l2.length + und es (updN done f true), by omega, g1, g5, g8, g9, out2, s2, l2, _, v, hD2, hH2, rfl, by omega, sv2, hC.by (Imp.un (Imp.un Imp.dr))⟩
  clear hB hB4 hB5 hOB hTO htc hrow oiB g1 g5 g8 g9 hD hD1 hH hH1 hxq hxm hxe hof hof2 t0 t1
  rintro k ρ wC hk hcc hlm ⟨g1, g5, g8, g9, g12, g91, out2, s2, l2, hD2, hof3, hH2, hlen, sv2, hC⟩
  obtain ⟨e, he⟩ : ∃ e, (toL es f)[k]? = some e := ⟨_, List.getElem?_eq_getElem hk⟩
  obtain ⟨hem, hef⟩ := toL_mem.1 (List.mem_of_getElem? he)
  obtain ⟨he1, he2, he3⟩ := hS.sy.rng e hem
  have hdr : (toL es f).drop k = e :: (toL es f).drop (k + 1) := by
    rw [List.drop_eq_getElem_cons hk, (List.getElem?_eq_some_iff.1 he).2]
  rw [hdr] at hD2
  have hC5 := hC.by Imp.fr5
  have hrow := TabS.row hC5 hpr
  have ece := hrow.cells edE_len he
  simp only [edE] at ece
  have hki : (k : Int) < (toL es f).length := by omega
  obtain ⟨eb, heb⟩ : ∃ eb, eb = wC.heap.size := ⟨_, rfl⟩
  have hLC : ∀ sv l out, Lcl (Star (ObjA qb (Pd.qO sv)) (Star (OwnA sv 274 2 Pd.enE l) (Star (ObjA ib (itO (v, f))) (D1 N I xb cv ev gv tv ov ps out)))) := fun _ _ _ => Lcl.obj.star (Lcl.own.star (Lcl.obj.star (hLD _)))
  simp (disch := omega) [g91, hcc, hlm, hrow.idx, ece, ← heb]
  refine st_sd (e := e) (hLC _ _ _) hC heb fun wD hD3 => ?_
  have oeD := hD3.obj
  unfold sdO at oeD
  rw [heb] at oeD
  have oiD := hD3.drop.drop.drop.obj
  simp only [itO] at oiD
  have hSD := hS.kp hD3.kp
  obtain ⟨x, hx⟩ : ∃ x, cs[e.2.1]? = some x := ⟨_, List.getElem?_eq_getElem (by rw [hS.clen]; exact he2)⟩
  have hcx : c e.2.1 = x := by rw [hc0]; simp [List.getD, hx]
  have hxm := hS.cmax x (List.mem_of_getElem? hx)
  have hci : (e.2.1 : Int) < cs.length := by rw [hS.clen]; omega
  have hD5 := (hD3.by Imp.fr5).drew (Lcl.own.star (Lcl.obj.star (Lcl.obj.star (Lcl.own.star (Lcl.obj.star (Lcl.tabS.star lcl_d))))))
  have hOD := hD5.own
  have hoi : (e.1 : Int) < (tabN N out2).length := by rw [tabN_len]; omega
  have hoN : e.1 < (tabN N out2).length := by rw [tabN_len]; exact he1
  have hoe : (tabN N out2)[e.1]? = some (out2 e.1) := tabN_at he1
  obtain ⟨d, hd⟩ : ∃ d, d = v + x := ⟨_, rfl⟩
  have hdi : (v : Int) + (x : Int) = (d : Int) := by omega
  have hcell := nE_cell hSD.rcs hx
  by_cases t : d < out2 e.1
  · have t1 : (d : Int) < (out2 e.1 : Int) := by omega
    simp (disch := omega) [g12, cell_blk oiD, g1, cell_blk oeD, hSD.rcs.idx, hcell, hdi, wrap_i64, g8, hOD.idx, own_cell hOD hoe, t, t1]
    have oeD5 := hD5.drop.obj
    refine hD5.store1 (Lcl.obj.star (Lcl.obj.star (Lcl.own.star (Lcl.obj.star (Lcl.tabS.star lcl_d))))) nE_len nE_one hoN (x := d) rfl fun wE hE => ?_
    rw [tabN_set he1] at hE
    have hE5 := hE.by Imp.bk5
    have oeE := hE5.obj
    unfold sdO at oeE
    rw [heb] at oeE
    have hp := Pd.hPush_spec qb l2 (d, e.1) (Lcl.obj.star (hLD _)) ⟨sv2, hE5.drop⟩ (by omega)
    simp only [Pd.hpV, Pd.enV] at hp
    simp [g9, cell_blk oeE]
    refine cl_of hp ?_
    rintro _ wF hF
    simp [hcc, hlm]
    have hit := hD2.hit hem (by rw [hef]; exact hof3) (by rw [hcx, ← hd]; exact t)
    rw [hcx, ← hd, hef] at hit
    refine ⟨by simp [g1], by simp [g5], by simp [g8], by simp [g9], by simp [g12], by simp [g91], updN out2 e.1 d, (d, e.1) :: s2, _, hit.1, hit.2, hH2.push (d, e.1), ?_, hF⟩
    rw [upL_len]
    simp
    omega
  · have t1 : ¬ (d : Int) < (out2 e.1 : Int) := by omega
    simp (disch := omega) [g12, cell_blk oiD, g1, cell_blk oeD, hSD.rcs.idx, hcell, hdi, wrap_i64, g8, hOD.idx, own_cell hOD hoe, t, t1, hcc, hlm]
    refine ⟨by simp [g1], by simp [g5], by simp [g8], by simp [g9], by simp [g12], by simp [g91], out2, s2, l2, hD2.look ?_, hof3, hH2, by omega, sv2, hD3.drop.drew (hLC _ _ _)⟩
    rw [hef, hof3, hcx]
    omega
end Go.Proofs.YtolkjbmcindhjaaGreat
end
