/-
  A part of the proofs of this seat's statements (RxW4); no conditions beyond those each theorem names.
-/
import Derived.Test.YtcplpogmbacnfaaRxW3
set_option maxRecDepth 100000
set_option linter.unusedSimpArgs false
set_option linter.unusedVariables false
namespace Go.Proofs.Ytcplpogmbacnfaa
open Go Go.W Go.Tk Go.Rx
theorem mt_len : mth Try.prog 130 "Len" = some (71, false) := by kernel_rfl
theorem mt_less : mth Try.prog 130 "Less" = some (112, false) := by kernel_rfl
theorem mt_swap : mth Try.prog 130 "Swap" = some (113, false) := by kernel_rfl
theorem mt_pop : mth Try.prog 130 "Pop" = some (114, true) := by kernel_rfl
theorem mt_push : mth Try.prog 130 "Push" = some (115, true) := by kernel_rfl
theorem mt_un : Try.prog.underlying 130 = some (.pointer 128) := by kernel_rfl
theorem mt_ag : tyAgg Try.prog 128 = some none := by kernel_rfl
theorem en_len : enterable Try.prog 71 = true := by kernel_rfl
theorem en_less : enterable Try.prog 112 = true := by kernel_rfl
theorem en_swap : enterable Try.prog 113 = true := by kernel_rfl
theorem en_pop : enterable Try.prog 114 = true := by kernel_rfl
theorem en_push : enterable Try.prog 115 = true := by kernel_rfl
def enE (e : En) : List Value := [.int .i64 (e.1 : Nat), .int .i64 (e.2 : Nat)]
theorem enE_len (e : En) : (enE e).length = 2 := rfl
theorem enE_one (e : En) : (enE e).all oneC = true := rfl
def enV (e : En) : Value := .agg #[.int .i64 (e.1 : Nat), .int .i64 (e.2 : Nat)]
def qO (v : Value) : Obj := .cells #[v] 128 (0, 0)
def hpV (qb : Nat) : Value := .iface 130 (.pointer (some ⟨qb, 0, none⟩))
def QI (qb : Nat) (l : List En) (w : World) (F : List Nat) (B : Asr) (w' : World) : Prop := ∃ sv, At w F (Star (ObjA qb (qO sv)) (Star (OwnA sv 132 2 enE l) B)) w'
theorem rd_q {w : World} {qb : Nat} {v : Value} (h : w.heap[qb]? = some (qO v)) : w.cell? ⟨qb, 0, none⟩ = some v := by
  unfold qO at h
  simp [cell_blk h]
theorem gt_get {l : List En} {i : Nat} (h : i < l.length) : l[i]? = some (gt l i) := by rw [gt_lt h]; exact List.getElem?_eq_getElem h
theorem less_spec {w : World} (sv : Value) (l : List En) (i j : Nat) (hv : Vw w sv enE l) (hi : i < l.length) (hj : j < l.length) :
    Calls Try.prog 112 [sv, .int .i64 (i : Nat), .int .i64 (j : Nat)].toArray w fun e w' => ∃ x, e = .returned x ∧ x = .bool (bef (gt l i) (gt l j)) ∧ Kp [] w w' := by
  refine enter Try.func112 mixed low112 (Nat.le_of_ble_eq_true rfl) ?_
  simp only [L112]
  have e1 := hv.fld enE_len (gt_get hi) (o := 0) (u := .int .i64 ((gt l i).1 : Nat)) rfl
  have e2 := hv.fld enE_len (gt_get hj) (o := 0) (u := .int .i64 ((gt l j).1 : Nat)) rfl
  simp (disch := omega) [hv.idx, e1, e2]
  exact ⟨rfl, (Kp.refl [] w).drew⟩
theorem len_spec {w : World} (sv : Value) (l : List En) (hv : Vw w sv enE l) :
    Calls Try.prog 71 [sv].toArray w fun e w' => ∃ x, e = .returned x ∧ x = .int .i64 (l.length : Nat) ∧ Kp [] w w' := by
  refine enter Try.func71 mixed low71 (Nat.le_of_ble_eq_true rfl) ?_
  simp only [L71]
  simp [hv.len]
  exact Kp.refl [] w
theorem swap_spec {w w1 : World} {F : List Nat} {B : Asr} (sv : Value) (l : List En) (i j : Nat) (hB : Lcl B) (h : At w F (Star (OwnA sv 132 2 enE l) B) w1) (hi : i < l.length) (hj : j < l.length) :
    Calls Try.prog 113 [sv, .int .i64 (i : Nat), .int .i64 (j : Nat)].toArray w1 fun e w' => ∃ x, e = .returned x ∧ At w F (Star (OwnA sv 132 2 enE (swp l i j)) B) w' := by
  refine enter Try.func113 mixed low113 (Nat.le_of_ble_eq_true rfl) ?_
  simp only [L113]
  have h1 := h.drew (Lcl.own.star hB)
  have hO := h1.own
  have c1 := hO.cells enE_len (gt_get hi)
  have c2 := hO.cells enE_len (gt_get hj)
  simp only [enE] at c1 c2
  simp (disch := omega) [hO.idx, c1, c2]
  refine h1.store hB enE_len enE_one hi (x := gt l j) rfl fun w2 h2 => ?_
  have hO2 := h2.own
  have hj2 : (j : Int) < (l.set i (gt l j)).length := by simp; omega
  simp (disch := omega) [hO2.idx]
  refine h2.store hB enE_len enE_one (by simpa using hj) (x := gt l i) rfl fun w3 h3 => ?_
  simp
  exact h3
theorem push_spec {w w1 : World} {F : List Nat} {B : Asr} (qb : Nat) (l : List En) (e : En) (hB : Lcl B) (h : QI qb l w F B w1) (hl : l.length ≤ 1000000) :
    Calls Try.prog 115 [.pointer (some ⟨qb, 0, none⟩), .iface 132 (enV e)].toArray w1 fun x w' => ∃ y, x = .returned y ∧ QI qb (l ++ [e]) w F B w' := by
  obtain ⟨sv, h1⟩ := h
  refine enter Try.func115 mixed low115 (Nat.le_of_ble_eq_true rfl) ?_
  simp only [L115]
  obtain ⟨eb, heb⟩ : ∃ eb, eb = w1.heap.size := ⟨_, rfl⟩
  have hL1 : Lcl (Star (ObjA qb (qO sv)) (Star (OwnA sv 132 2 enE l) B)) := Lcl.obj.star (Lcl.own.star hB)
  have h2 : At w F (Star (ObjA eb (.cells #[.int .i64 0, .int .i64 0] 132 (0, 0))) (Star (ObjA qb (qO sv)) (Star (OwnA sv 132 2 enE l) B))) (w1.alloc (.cells #[.int .i64 0, .int .i64 0] 132 (0, 0))) := by rw [heb]; exact h1.alloc _ hL1
  simp [enV, ← heb]
  refine h2.st hL1 (by simp) (by simp) fun w3 h3 => ?_
  have hq := rd_q h3.drop.obj
  have he := h3.obj
  have ce : cellsAt w3 ⟨w1.heap.size, 0, none⟩ 0 2 = some [.int .i64 (e.1 : Nat), .int .i64 (e.2 : Nat)] := by
    rw [← heb]
    simp at he
    simp [cellsAt, Addr.add, cell_blk he]
  have h4 := h3.drop.drew hL1
  have h5 := (h4.by Imp.sw).kp0 (Lcl.own.star (Lcl.obj.star hB)) ((Kp.refl [] _).alloc (.cells #[.int .i64 (e.1 : Nat), .int .i64 (e.2 : Nat)] 132))
  simp [hq, ce, rowOf]
  refine At.append (xs := [e]) (Lcl.obj.star hB) h5 enE_len enE_one sl_128 rfl (fun j u hj => ?_) (by omega) (by unfold maxLen; omega) fun v' w6 h6 => ?_
  · rw [show w3.heap.size = w3.drew.heap.size from rfl, add_none, cell_blk alloc_new]
    simpa [enE] using hj
  have c6 := h6.own.c1
  have o6 := h6.own.o1
  have h7 := h6.by Imp.sw
  unfold qO at h7
  simp [c6]
  refine h7.st (Lcl.own.star hB) (by simp) (by simp [o6]) fun w8 h8 => ?_
  simp
  exact ⟨v', by unfold qO; simpa using h8⟩
theorem pop_spec {w w1 : World} {F : List Nat} {B : Asr} (qb : Nat) (l : List En) (e : En) (hB : Lcl B) (h : QI qb (l ++ [e]) w F B w1) (hl : l.length ≤ 1000000) :
    Calls Try.prog 114 [.pointer (some ⟨qb, 0, none⟩)].toArray w1 fun x w' => ∃ y, x = .returned y ∧ y = .iface 132 (enV e) ∧ QI qb l w F B w' := by
  obtain ⟨sv, h1⟩ := h
  refine enter Try.func114 mixed low114 (Nat.le_of_ble_eq_true rfl) ?_
  simp only [L114]
  have hq := rd_q h1.obj
  have hO := h1.drop.own
  have hi : (l ++ [e])[l.length]? = some e := by simp
  have ec := hO.cells enE_len hi
  simp only [enE] at ec
  have hlen : ((l ++ [e]).length : Int) = (l.length : Int) + 1 := by simp
  have hidx : (l.length : Int) < (l ++ [e]).length := by simp; omega
  obtain ⟨eb, heb⟩ : ∃ eb, eb = w1.heap.size := ⟨_, rfl⟩
  have hL1 : Lcl (Star (ObjA qb (qO sv)) (Star (OwnA sv 132 2 enE (l ++ [e])) B)) := Lcl.obj.star (Lcl.own.star hB)
  have h2 : At w F (Star (ObjA eb (.cells #[.int .i64 0, .int .i64 0] 132 (0, 0))) (Star (ObjA qb (qO sv)) (Star (OwnA sv 132 2 enE (l ++ [e])) B))) (w1.alloc (.cells #[.int .i64 0, .int .i64 0] 132 (0, 0))) := by rw [heb]; exact h1.alloc _ hL1
  simp (disch := omega) [hq, hO.vw.len, hlen, wrap_i64, hO.idx, hidx, ec, ← heb]
  refine h2.st hL1 (by simp) (by simp) fun w3 h3 => ?_
  have he := h3.obj
  have h4 := h3.by Imp.fr3
  have hO4 := h4.own
  simp (disch := omega) [hO4.vw.len, hlen, wrap_i64]
  refine hO4.slice_hi enE_len sl_128 (by simp) fun v' hv' hown => ?_
  have htk : (l ++ [e]).take l.length = l := by simp
  rw [htk] at hv'
  have h5 : At w F (Star (OwnA v' 132 2 enE l) (Star (ObjA eb _) (Star (ObjA qb (qO sv)) B))) w3 := h4.step (w2 := w3) Lcl.own (Lcl.obj.star (Lcl.obj.star hB)) (fun Fa ⟨_, hFa⟩ => ⟨v'.own, ⟨hv', rfl⟩, Kp.refl _ _, fun x hx => .inl (by rw [hFa, ← hown]; exact hx)⟩)
  have c5 := hv'.c1
  have o5 := hv'.o1
  have h6 := h5.by Imp.fr3
  unfold qO at h6
  simp [c5]
  refine h6.st (Lcl.own.star (Lcl.obj.star hB)) (by simp) (by simp [o5]) fun w7 h7 => ?_
  have he7 := h7.drop.drop.obj
  have ce : cellsAt w7 ⟨w1.heap.size, 0, none⟩ 0 2 = some [.int .i64 (e.1 : Nat), .int .i64 (e.2 : Nat)] := by
    rw [← heb]
    simp at he7
    simp [cellsAt, Addr.add, cell_blk he7]
  simp [ce, enV]
  exact ⟨v', (by unfold qO; simpa using h7.by (Imp.un (Imp.un Imp.dr)))⟩
/-! ### The heap's procedures -/
theorem hUp_spec {w w1 : World} {F : List Nat} {B : Asr} (qb : Nat) (l : List En) (j : Nat) (hB : Lcl B) (h : QI qb l w F B w1) (hl : l.length ≤ 1000000) (hj : j < l.length) :
    Calls Try.prog 86 [hpV qb, .int .i64 (j : Nat)].toArray w1 fun x w' => ∃ y, x = .returned y ∧ QI qb (upL l j) w F B w' := by
  refine enter Try.func86 mixed low86 (Nat.le_of_ble_eq_true rfl) ?_
  simp only [L86]
  refine loop_inv (fun n ρ w' => ∃ l' j', j' = n ∧ upL l j = upL l' j' ∧ l'.length = l.length ∧ j' < l.length ∧ ρ 0 = hpV qb ∧ ρ 1 = .int .i64 (j' : Nat) ∧ QI qb l' w F B w') j ⟨l, j, rfl, rfl, rfl, hj, by simp, by simp, h⟩ ?_
  rintro n ρ w2 ⟨l', j', rfl, hup, hl', hj', g0, g1, sv, h2⟩
  have hq := rd_q h2.obj
  have hV := h2.drop.own.vw
  have hL2 : Lcl (Star (ObjA qb (qO sv)) (Star (OwnA sv 132 2 enE l') B)) := Lcl.obj.star (Lcl.own.star hB)
  by_cases hz : j' = 0
  · subst hz
    have ew : IntKind.i64.wrap (-1) = -1 := wrap_i64 (by omega) (by omega)
    have eq : (-1 : Int).tdiv 2 = 0 := by decide
    have e0 : IntKind.i64.wrap 0 = 0 := wrap_i64 (by omega) (by omega)
    conv at hup => rhs; rw [upL, dif_pos rfl]
    simp [g0, g1, ew, eq, e0]
    rw [hup]
    exact ⟨sv, h2⟩
  obtain ⟨p, hp⟩ : ∃ p, p = (j' - 1) / 2 := ⟨_, rfl⟩
  have ew : IntKind.i64.wrap ((j' : Int) - 1) = (j' : Int) - 1 := wrap_i64 (by omega) (by omega)
  have eq : ((j' : Int) - 1).tdiv 2 = (p : Int) := by rw [Int.tdiv_eq_ediv_of_nonneg (by omega)]; omega
  have ep : IntKind.i64.wrap (p : Int) = p := wrap_i64 (by omega) (by omega)
  have hne : ((p : Int) == (j' : Int)) = false := by simp; omega
  simp [g0, g1, ew, eq, ep, hne, hpV, iv_v mt_less mt_un mt_ag en_less hq]
  refine cl_of (less_spec sv l' j' p hV (by omega) (by omega)) ?_
  rintro _ w3 ⟨rfl, k3⟩
  have h3 := h2.kp0 hL2 k3
  conv at hup => rhs; rw [upL, dif_neg hz, ← hp]
  cases hb : bef (gt l' j') (gt l' p) with
  | false =>
    rw [hb] at hup
    simp at hup
    simp [hne]
    rw [hup]
    exact ⟨sv, h3⟩
  | true =>
    rw [hb] at hup
    simp at hup
    have hq3 := rd_q h3.obj
    simp [hne, g0, g1, hpV, iv_v mt_swap mt_un mt_ag en_swap hq3]
    refine cl_of (swap_spec sv l' p j' (Lcl.obj.star hB) (h3.by Imp.sw) (by omega) (by omega)) ?_
    rintro _ w4 h4
    simp
    have hc : swp l' p j' = swp l' j' p := by
      unfold swp
      exact (List.set_comm _ _ (by omega)).symm
    rw [hc] at h4
    exact ⟨p, by omega, swp l' j' p, hup, by simp [hl'], by omega, by simpa [hpV] using g0, rfl, sv, h4.by Imp.sw⟩
/-- Down in a list with one more entry behind it. -/
theorem gt_app {l : List En} {x : En} {i : Nat} (h : i < l.length) : gt (l ++ [x]) i = gt l i := by
  rw [gt_lt (by simp; omega), gt_lt h, List.getElem_append_left h]
theorem swp_app {l : List En} {x : En} {i p : Nat} (hi : i < l.length) (hp : p < l.length) : swp (l ++ [x]) i p = swp l i p ++ [x] := by
  unfold swp
  rw [gt_app hi, gt_app hp, List.set_append_left _ _ hi, List.set_append_left _ _ (by simpa using hp)]
theorem hDown_spec {w w1 : World} {F : List Nat} {B : Asr} (qb : Nat) (l : List En) (x : En) (hB : Lcl B) (h : QI qb (l ++ [x]) w F B w1) (hl : l.length ≤ 1000000) :
    Calls Try.prog 87 [hpV qb, .int .i64 0, .int .i64 (l.length : Nat)].toArray w1 fun r w' => ∃ y, r = .returned y ∧ QI qb (downL l 0 ++ [x]) w F B w' := by
  refine enter Try.func87 mixed low87 (Nat.le_of_ble_eq_true rfl) ?_
  simp only [L87]
  simp
  refine loop_inv (fun n ρ w' => ∃ l' i', n = l.length - i' ∧ downL l 0 = downL l' i' ∧ l'.length = l.length ∧ i' ≤ l.length ∧ ρ 0 = hpV qb ∧ ρ 1 = .int .i64 0 ∧ ρ 2 = .int .i64 (l.length : Nat) ∧ ρ 7 = .int .i64 (i' : Nat) ∧ QI qb (l' ++ [x]) w F B w') l.length ⟨l, 0, rfl, rfl, rfl, by omega, by simp, by simp, by simp, by simp, h⟩ ?_
  rintro n ρ w2 ⟨l', i', rfl, hdn, hl', hi', g0, g1, g2, g7, sv, h2⟩
  have hq := rd_q h2.obj
  have hV := h2.drop.own.vw
  have hL2 : Lcl (Star (ObjA qb (qO sv)) (Star (OwnA sv 132 2 enE (l' ++ [x])) B)) := Lcl.obj.star (Lcl.own.star hB)
  obtain ⟨d, hd⟩ : ∃ d, d = 2 * i' := ⟨_, rfl⟩
  have e1 : (2 : Int) * i' = (d : Int) := by omega
  have w1 : IntKind.i64.wrap (d : Int) = (d : Int) := wrap_i64 (by omega) (by omega)
  obtain ⟨j1, hj1⟩ : ∃ j1, j1 = 2 * i' + 1 := ⟨_, rfl⟩
  have e2 : (d : Int) + 1 = (j1 : Int) := by omega
  have w2' : IntKind.i64.wrap (j1 : Int) = j1 := wrap_i64 (by omega) (by omega)
  obtain ⟨j2, hj2⟩ : ∃ j2, j2 = j1 + 1 := ⟨_, rfl⟩
  have e3 : (j1 : Int) + 1 = (j2 : Int) := by omega
  have w3' : IntKind.i64.wrap (j2 : Int) = j2 := wrap_i64 (by omega) (by omega)
  by_cases hend : l.length ≤ j1
  · have hend' : (l.length : Int) ≤ j1 := by omega
    conv at hdn => rhs; rw [downL, dif_pos (show l'.length ≤ 2 * i' + 1 by omega)]
    simp [g0, g1, g2, g7, e1, w1, e2, w2', hend, hend']
    rw [hdn]
    exact ⟨sv, h2⟩
  have hend' : ¬ (l.length : Int) ≤ j1 := by omega
  have hneg : ¬ (j1 : Int) < 0 := by omega
  conv at hdn => rhs; rw [downL, dif_neg (show ¬ l'.length ≤ 2 * i' + 1 by omega)]
  obtain ⟨kd, hkd⟩ : ∃ kd, kd = kid l' i' := ⟨_, rfl⟩
  obtain ⟨hk1, hk2, hk3⟩ := kid_le (l := l') (i := i') (by omega)
  rw [← hkd] at hk1 hk2 hk3 hdn
  -- the lesser child
  refine seq_cut (fun ρ w' => ρ 0 = hpV qb ∧ ρ 1 = .int .i64 0 ∧ ρ 2 = .int .i64 (l.length : Nat) ∧ ρ 7 = .int .i64 (i' : Nat) ∧ ρ 8 = .int .i64 (j1 : Nat) ∧ w' = w2) ?_ ?_
  · simp [g0, g1, g2, g7, e1, w1, e2, w2']
  rintro ρ w2 ⟨g0, g1, g2, g7, g8, rfl⟩
  refine seq_cut (fun ρ w' => ρ 0 = hpV qb ∧ ρ 1 = .int .i64 0 ∧ ρ 2 = .int .i64 (l.length : Nat) ∧ ρ 7 = .int .i64 (i' : Nat) ∧ ρ 8 = .int .i64 (j1 : Nat) ∧ w' = w2) ?_ ?_
  · simp [g0, g1, g2, g7, g8, hend, hend', hneg]
  clear g0 g1 g2 g7 g8
  rintro ρ w2 ⟨g0, g1, g2, g7, g8, rfl⟩
  refine seq_cut (fun ρ w' => ρ 0 = hpV qb ∧ ρ 1 = .int .i64 0 ∧ ρ 2 = .int .i64 (l.length : Nat) ∧ ρ 7 = .int .i64 (i' : Nat) ∧ ρ 8 = .int .i64 (j1 : Nat) ∧ ρ 9 = .int .i64 (j1 : Nat) ∧ w' = w2) ?_ ?_
  · simp [g0, g1, g2, g7, g8]
  clear g0 g1 g2 g7 g8
  rintro ρ w2 ⟨g0, g1, g2, g7, g8, g9, rfl⟩
  refine seq_cut (fun ρ w' => ρ 0 = hpV qb ∧ ρ 1 = .int .i64 0 ∧ ρ 2 = .int .i64 (l.length : Nat) ∧ ρ 7 = .int .i64 (i' : Nat) ∧ ρ 9 = .int .i64 (kd : Nat) ∧ At w F (Star (ObjA qb (qO sv)) (Star (OwnA sv 132 2 enE (l' ++ [x])) B)) w') ?_ ?_
  · by_cases t : j2 < l.length
    · have t' : (j2 : Int) < l.length := by omega
      simp [g0, g1, g2, g7, g8, g9, e3, w3', t, t', hpV, iv_v mt_less mt_un mt_ag en_less hq]
      refine cl_of (less_spec sv (l' ++ [x]) j2 j1 hV (by simp; omega) (by simp; omega)) ?_
      rintro _ w3 ⟨rfl, k3⟩
      have h3 := h2.kp0 hL2 k3
      rw [gt_app (by omega), gt_app (by omega)]
      cases hb : bef (gt l' j2) (gt l' j1) with
      | true =>
        have : kd = j2 := by
          rw [hkd]; unfold kid
          rw [if_pos ⟨by omega, by rw [show 2 * i' + 2 = j2 by omega, show 2 * i' + 1 = j1 by omega]; exact hb⟩]
          omega
        simp [t, g0, g1, g2, g7, hpV, this]
        exact h3
      | false =>
        have : kd = j1 := by
          rw [hkd]; unfold kid
          rw [if_neg (fun h => by rw [show 2 * i' + 2 = j2 by omega, show 2 * i' + 1 = j1 by omega, hb] at h; exact absurd h.2 (by simp))]
          omega
        simp [t, g0, g1, g2, g7, g9, hpV, this]
        exact h3
    · have t' : ¬ (j2 : Int) < l.length := by omega
      have : kd = j1 := by
        rw [hkd]; unfold kid
        rw [if_neg (fun h => by omega)]
        omega
      simp [g0, g1, g2, g7, g8, g9, e3, w3', t, t', this]
      exact h2
  clear g0 g1 g2 g7 g8 g9
  rintro ρ w3 ⟨g0, g1, g2, g7, g9, h3⟩
  have hq3 := rd_q h3.obj
  have hV3 := h3.drop.own.vw
  simp [g0, g7, g9, hpV, iv_v mt_less mt_un mt_ag en_less hq3]
  refine cl_of (less_spec sv (l' ++ [x]) kd i' hV3 (by simp; omega) (by simp; omega)) ?_
  rintro _ w4 ⟨rfl, k4⟩
  have h4 := h3.kp0 hL2 k4
  rw [gt_app (by omega), gt_app (by omega)]
  cases hb : bef (gt l' kd) (gt l' i') with
  | false =>
    rw [hb] at hdn
    simp at hdn
    simp [g7, g1]
    rw [hdn]
    exact ⟨sv, h4⟩
  | true =>
    rw [hb] at hdn
    simp at hdn
    have hq4 := rd_q h4.obj
    simp [g0, g7, g9, hpV, iv_v mt_swap mt_un mt_ag en_swap hq4]
    refine cl_of (swap_spec sv (l' ++ [x]) i' kd (Lcl.obj.star hB) (h4.by Imp.sw) (by simp; omega) (by simp; omega)) ?_
    rintro _ w5 h5
    rw [swp_app (by omega) (by omega)] at h5
    simp [g9]
    exact ⟨l.length - kd, by omega, swp l' i' kd, kd, rfl, hdn, by simp [hl'], by omega, by simp [g0, hpV], g1, g2, rfl, sv, h5.by Imp.sw⟩
theorem hPush_spec {w w1 : World} {F : List Nat} {B : Asr} (qb : Nat) (l : List En) (e : En) (hB : Lcl B) (h : QI qb l w F B w1) (hl : l.length ≤ 900000) :
    Calls Try.prog 70 [hpV qb, .iface 132 (enV e)].toArray w1 fun x w' => ∃ y, x = .returned y ∧ QI qb (upL (l ++ [e]) l.length) w F B w' := by
  refine enter Try.func70 mixed low70 (Nat.le_of_ble_eq_true rfl) ?_
  simp only [L70]
  simp [hpV, iv_p mt_push mt_un en_push]
  refine cl_of (push_spec qb l e hB h (by omega)) ?_
  rintro _ w2 ⟨sv, h2⟩
  have hL2 : Lcl (Star (ObjA qb (qO sv)) (Star (OwnA sv 132 2 enE (l ++ [e])) B)) := Lcl.obj.star (Lcl.own.star hB)
  simp [hpV, iv_v mt_len mt_un mt_ag en_len (rd_q h2.obj)]
  refine cl_of (len_spec sv (l ++ [e]) h2.drop.own.vw) ?_
  rintro _ w3 ⟨rfl, k3⟩
  have h3 := h2.kp0 hL2 k3
  have e1 : ((l ++ [e]).length : Int) - 1 = (l.length : Int) := by simp
  simp only [run_mk]
  simp (disch := omega) [e1, wrap_i64]
  refine cl_of (hUp_spec qb (l ++ [e]) l.length hB ⟨sv, h3⟩ (by simp; omega) (by simp)) ?_
  rintro _ w4 h4
  simp
  exact h4
theorem hPop_spec {w w1 : World} {F : List Nat} {B : Asr} (qb : Nat) (l : List En) (e : En) (hB : Lcl B) (h : QI qb (e :: l) w F B w1) (hl : l.length ≤ 900000) :
    Calls Try.prog 72 [hpV qb].toArray w1 fun x w' => ∃ y, x = .returned y ∧ y = .iface 132 (enV e) ∧ QI qb (downL (topL (e :: l)) 0) w F B w' := by
  obtain ⟨sv, h1⟩ := h
  refine enter Try.func72 mixed low72 (Nat.le_of_ble_eq_true rfl) ?_
  simp only [L72]
  have hL1 : ∀ l', Lcl (Star (ObjA qb (qO sv)) (Star (OwnA sv 132 2 enE l') B)) := fun l' => Lcl.obj.star (Lcl.own.star hB)
  simp [hpV, iv_v mt_len mt_un mt_ag en_len (rd_q h1.obj)]
  refine cl_of (len_spec sv (e :: l) h1.drop.own.vw) ?_
  rintro _ w2 ⟨rfl, k2⟩
  have h2 := h1.kp0 (hL1 _) k2
  have e1 : ((e :: l).length : Int) - 1 = (l.length : Int) := by simp
  simp only [run_mk]
  simp (disch := omega) [e1, wrap_i64, iv_v mt_swap mt_un mt_ag en_swap (rd_q h2.obj)]
  refine cl_of (swap_spec sv (e :: l) 0 l.length (Lcl.obj.star hB) (h2.by Imp.sw) (by simp) (by simp)) ?_
  rintro _ w3 h3
  have est : swp (e :: l) 0 l.length = topL (e :: l) ++ [e] := by
    have := swp_top (l := e :: l) (by simp)
    simpa [gt] using this
  rw [est] at h3
  have htl : (topL (e :: l)).length = l.length := by rw [topL_len]; simp
  simp
  have hd := hDown_spec qb (topL (e :: l)) e hB ⟨sv, h3.by Imp.sw⟩ (by omega)
  rw [htl] at hd
  refine cl_of hd ?_
  rintro _ w4 h4
  simp [iv_p mt_pop mt_un en_pop]
  refine cl_of (pop_spec qb (downL (topL (e :: l)) 0) e hB h4 ?_) ?_
  · rw [downL_len _ 0 _ (Nat.le_refl _)]; omega
  rintro _ w5 ⟨rfl, h5⟩
  simp
  exact h5
end Go.Proofs.Ytcplpogmbacnfaa
