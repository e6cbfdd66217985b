/-
  A part of the proof of this claim's statement (LmW8, LmW9, LmWA): plain theorems; no conditions beyond those each names.
-/
import Derived.Test.YtcplpogmbacnfaaPk14
section
set_option maxRecDepth 100000
set_option linter.unusedSimpArgs false
set_option linter.unusedVariables false
namespace Go.Proofs.Ytcplpogmbacnfaa
open Go Go.W Go.Tk Go.Rx Go.Lm Go.Maps
def CuB (ov dv : Value) (left : List Nat) (cs : List Ct) : Asr := Star (OwnA dv 3 1 nE left) (Star (OwnA ov 45 2 ctE cs) (Star (VwsA nE (cs.map ctW)) Emp))
theorem CuB.lcl {ov dv : Value} {left : List Nat} {cs : List Ct} : Lcl (CuB ov dv left cs) := Lcl.own.star (Lcl.own.star (Lcl.vws.star .emp))
def CuI (b : Nat) (sv dv : Value) (UL : List Un) (S0 G C0 : List Nat) (w : World) (n : Nat) (ρ : Env) (w' : World) : Prop :=
  ρ 0 = .pointer (some ⟨b, 0, none⟩) ∧ ρ 1 = sv ∧ ρ 6 = dv ∧ ∃ left cs, left.length = C0.length ∧ (∀ x ∈ left, x ≤ 1048576) ∧ n = posN (cf left) C0.length ∧ cs.length + n ≤ C0.length ∧
    (∀ r, LmC UL S0 G (cf left) r → LmC UL S0 G (cf C0) (r.map (cs.map ctP ++ ·))) ∧ At w [] (CuB (ρ 7) dv left cs) w'
theorem cut_pre {UL : List Un} {S0 G : List Nat} {c0 c : Nat → Nat} {done : List (List Nat × Nat)} {V : Nat → Nat} {L : List Nat} {m : Nat} (hp : ∀ r, LmC UL S0 G c r → LmC UL S0 G c0 (r.map (done ++ ·))) (hV : IsVal (wc UL c) S0 V) (h0 : 0 < gr V G) (hi : gr V G < Inf) (hc : IsCut UL c S0 G V L m) (r : Option (List (List Nat × Nat))) (hr : LmC UL S0 G (sub c L m) r) : LmC UL S0 G c0 (r.map (done ++ [(L, m)] ++ ·)) := by
  have := hp _ (.cut hV h0 hi hc hr)
  cases r with
  | none => exact this
  | some o =>
    simp only [Option.map_some] at this ⊢
    rw [List.append_assoc]
    exact this
theorem sum_szs {UL : List Un} {S0 left : List Nat} {N : Nat} (hL : LuOk UL N left.length) (hS : ∀ x ∈ S0, x < N) (hb : ∀ x ∈ left, x ≤ 1048576) : Szs UL S0 N 1048576 (cf left) := ⟨hL.made, hS, fun u hu => by
  have := hL.op u hu
  have h2 : cf left u.op ∈ left := mem_getD this
  exact hb _ h2, by
  have := hL.nn
  have h3 : N * 1048576 ≤ 4096 * 1048576 := Nat.mul_le_mul_right _ this
  unfold Inf; omega⟩
section
variable {w : World} {b : Nat} {vars G C0 : List Nat} {UL : List Un} {vv fv gv cv lv : Value} {rs : List Lu}
set_option maxHeartbeats 4000000 in
theorem cuts_walk (sv : Value) (s : List Nat) (hR : HrR b vars G C0 UL vv fv gv cv lv rs w) (hs : Vw w sv nE s) (hst : StN vars s) (hL : LuOk UL vars.sum C0.length) (hvl : vars.length ≤ 64) (hG : ∀ x ∈ G, x < vars.sum) (hGl : G.length ≤ 1000000) (hCb : ∀ x ∈ C0, x ≤ 1048576) (hCl : C0.length ≤ 4096) :
    Calls Try.prog 15 [.pointer (some ⟨b, 0, none⟩), sv].toArray w fun e w' => ∃ x, e = .returned x ∧ CutsP UL (stN vars s vars.length) G (cf C0) x w' ∧ Kp [] w w' := by
  refine enter Try.func15 mixed low15 (Nat.le_of_ble_eq_true rfl) ?_
  simp only [L15]
  have hlen := hst.len
  have hob := hR.obj
  simp [cell_blk hob]
  refine cl_of (tproper_spec vv sv _ _ (vw_n.2 hR.vvw) (vw_n.2 hs) (by simp; omega)) ?_
  rintro _ w1 ⟨rfl, k1⟩
  rw [hst.ok]
  have hR1 := hR.kp k1
  have hob1 := hR1.obj
  simp [cell_blk hob1]
  refine cl_of (cloneI_spec cv C0 hR1.costs (by omega)) ?_
  rintro dv w2 n2
  simp
  have h2 : At w [] (Star (OwnA dv 3 1 nE C0) Emp) w2 := At.nw .emp ((At.start rfl : At w [] Emp w).kp0 .emp k1) n2
  have h3 : At w [] (CuB (.slice none 0 0) dv C0 []) w2 := by
    unfold CuB
    exact (At.nil (E := 45) (sz := 2) (enc := ctE) (Lcl.vws.star (Lcl.own.star .emp)) (VwsA.nil (enc := nE) (Lcl.own.star .emp) h2)).by Imp.fr3
  obtain ⟨S0, hS0⟩ : ∃ S0, S0 = stN vars s vars.length := ⟨_, rfl⟩
  have hS0b : ∀ x ∈ S0, x < vars.sum := by rw [hS0]; exact stN_sum hst
  rw [← hS0]
  refine loop_inv (CuI b sv dv UL S0 G C0 w) (posN (cf C0) C0.length) ⟨by simp, by simp, by simp, C0, [], rfl, hCb, rfl, by have := posN_le (c := cf C0) C0.length; simpa using this, fun r hr => by
    have : r.map (List.map ctP [] ++ ·) = r := by cases r <;> simp
    rw [this]; exact hr, by simpa using h3⟩ ?_
  clear h2 h3 hR1 hob1 hob
  rintro n ρ w3 ⟨g0, g1, g6, left, cs, hll, hlb, rfl, hcn, hpre, h3⟩
  obtain ⟨ov, g7⟩ : ∃ v, ρ 7 = v := ⟨_, rfl⟩
  rw [g7] at h3
  have hR3 := hR.kp h3.kp
  have hs3 := hs.kp0 h3.kp
  have hd3 := At.own (h3.by (show Imp (CuB ov dv left cs) (Star (OwnA dv 3 1 nE left) _) from Imp.rfl))
  have hLl : LuOk UL vars.sum left.length := by rw [hll]; exact hL
  simp [g0, g1, g6]
  refine cl_of (values35_walk sv dv s left hR3 hs3 hst hd3.vw hlb hLl hvl) ?_
  rintro tv w4 ⟨V, hV, n4⟩
  rw [← hS0] at hV
  have h4 : At w [] (Star (OwnA tv 3 1 nE (tabN vars.sum V)) (CuB ov dv left cs)) w4 := At.nw CuB.lcl h3 n4
  have hR4 := hR.kp h4.kp
  have hob4 := hR4.obj
  simp [g0, cell_blk hob4]
  refine cl_of (highest_walk gv tv G vars.sum V hR4.goal h4.own.vw hG hGl) ?_
  rintro _ w5 ⟨rfl, k5⟩
  have h5 := h4.kp0 (Lcl.own.star CuB.lcl) k5
  have hInf : Inf = 1125899906842624 := rfl
  have hgle : gr V G ≤ Inf := gr_le_iff.2 fun f _ => hV.le f
  by_cases s1 : gr V G = Inf
  · have s1' : (gr V G : Int) = 1125899906842624 := by omega
    simp [s1']
    refine ⟨⟨none, hpre none (.inf hV (by omega)), ?_⟩, h5.kp⟩
    simp [errV]
  have s1' : ((gr V G : Int) == 1125899906842624) = false := by simp; omega
  have s1i : ¬ (gr V G : Int) = 1125899906842624 := by omega
  by_cases s2 : gr V G = 0
  · have s2' : (gr V G : Int) = 0 := by omega
    simp [s1', s1i, s2', s2, g7]
    have h6 := h5.drop
    unfold CuB at h6
    have hcsv : CtsV w5 ov (cs.map ctP) := ⟨cs, rfl, h6.drop.own.vw, fun c hc => h6.drop.drop.vws (p := ctW c) (List.mem_map.2 ⟨c, hc, rfl⟩)⟩
    have := hpre (some []) (.nil hV s2)
    simp at this
    exact ⟨⟨_, this, ⟨ov, by simp, by simpa using hcsv⟩⟩, h5.kp⟩
  have s2' : ((gr V G : Int) == 0) = false := by simp; omega
  have s2i : ¬ (gr V G : Int) = 0 := by omega
  have hg0 : 0 < gr V G := by omega
  have hgi : gr V G < Inf := by omega
  obtain ⟨g, hg⟩ : ∃ g, gst V G = some g := by
    rcases gst_spec (V := V) G with ⟨e, _⟩ | ⟨g, e, _⟩
    · rw [e] at hg0; simp [gr] at hg0
    · exact ⟨g, e⟩
  have hgv := (gst_some hg).val
  simp [s1', s1i, s2', s2i, s2, g0, g1, g6]
  have hd5 := h5.drop.own.vw
  have ht5 := h5.own.vw
  refine cl_of (cut_walk sv dv tv s left V g (hR.kp h5.kp) (hs.kp0 h5.kp) hst hd5 ht5 hLl hvl hG hGl hg) ?_
  rintro lv5 w6 ⟨L, hLx, hLp, hLl2, n6⟩
  rw [← hS0] at hLx
  have h6 : At w [] (Star (OwnA lv5 3 1 nE L) (CuB ov dv left cs)) w6 := At.nw CuB.lcl (h5.drop.kp0 CuB.lcl (Kp.refl [] _)) n6
  have hz := sum_szs hLl hS0b hlb
  obtain ⟨op0, hop0⟩ := xo_ex hz hV (by rw [hgv]; exact hg0) (by rw [hgv]; exact hgi)
  have hne : L ≠ [] := fun e => by have := (hLx op0).2 hop0; rw [e] at this; cases this
  have hLop : ∀ op ∈ L, op < left.length := fun op ho => by
    obtain ⟨a, ha, rfl, _⟩ := (hLx op).1 ho
    exact (arcs_ok hLl).op a ha
  have hcb : ∀ op ∈ L, cf left op ≤ 1048576 := fun op ho => hlb _ (mem_getD (hLop op ho))
  obtain ⟨m, hm⟩ : ∃ m, m = minL (cf left) L := ⟨_, rfl⟩
  have hmle := minL_le (c := cf left) L
  rw [← hm] at hmle
  have hcut : IsCut UL (cf left) S0 G V L m := ⟨⟨g, hg, hLx⟩, hLp, hmle.2, by rw [hm]; exact minL_in hne hcb⟩
  have hless := hcut.less hV hg0 hgi (n := C0.length) (fun u hu => by have := hLl.op u hu; omega)
  obtain ⟨cb, hcb2⟩ : ∃ cb, cb = w6.heap.size := ⟨_, rfl⟩
  have hL6 : Lcl (Star (OwnA lv5 3 1 nE L) (CuB ov dv left cs)) := Lcl.own.star CuB.lcl
  have o5 := h6.own.o1
  have a7 := h6.alloc (.cells #[.slice none 0 0, .int .i64 0] 45 (0, 0)) hL6
  rw [← hcb2] at a7
  have c5 := h6.own.c1
  simp [← hcb2, c5]
  refine a7.st hL6 (by simp) (by simp [o5]) fun w8 h8 => ?_
  have h8 : At w [] (Star (ObjA cb (.cells #[lv5, .int .i64 1048576] 45 (0, 0))) (Star (OwnA lv5 3 1 nE L) (CuB ov dv left cs))) w8 := by simpa using h8
  have hoc8 := h8.obj
  have hd8 := h8.drop.drop.own.vw
  -- the least cost
  have hle := hcut.le
  simp [cell_blk hoc8, ← hcb2, h8.drop.own.vw.len]
  refine range_loop (n := L.length) (by omega) (fun k ρ w' => ρ 0 = .pointer (some ⟨b, 0, none⟩) ∧ ρ 1 = sv ∧ ρ 6 = dv ∧ ρ 7 = ov ∧ ρ 10 = .pointer (some ⟨cb, 0, none⟩) ∧ ρ 54 = lv5 ∧ At w [] (Star (ObjA cb (.cells #[lv5, .int .i64 (minL (cf left) (L.take k) : Nat)] 45 (0, 0))) (Star (OwnA lv5 3 1 nE L) (CuB ov dv left cs))) w') (by simp) (by simp)
    ⟨by simp [g0], by simp [g1], by simp [g6], by simp [g7], by simp [← hcb2], by simp, by simpa [minL] using h8⟩ (by decide) (fun _ _ _ _ h => by simpa using h) (fun _ _ _ _ h => by simpa using h) ?_ ?_
  · clear g0 g1 g6 g7 h3 h4 h5 h6 h8 hoc8 hd8 a7
    rintro k ρ w9 hk hck hlk ⟨g0, g1, g6, g7, g10, g54, h9⟩
    have hoc := h9.obj
    have hlv := h9.drop.own.vw
    have hdv := h9.drop.drop.own.vw
    obtain ⟨op, hop⟩ : ∃ op, L[k]? = some op := ⟨_, List.getElem?_eq_getElem hk⟩
    have hopl := hLop op (List.mem_of_getElem? hop)
    obtain ⟨x, hx⟩ : ∃ x, left[op]? = some x := ⟨_, List.getElem?_eq_getElem hopl⟩
    have hxd : cf left op = x := by unfold cf; simp [List.getD, hx]
    have hki : (k : Int) < L.length := by omega
    have hopi : (op : Int) < left.length := by omega
    have hmt := min_take (c := cf left) hop
    rw [hxd] at hmt
    obtain ⟨mk, hmk⟩ : ∃ mk, mk = minL (cf left) (L.take k) := ⟨_, rfl⟩
    rw [← hmk] at hmt hoc h9
    have emin : min (mk : Int) (x : Int) = ((min mk x : Nat) : Int) := by omega
    have hLX : Lcl (Star (OwnA lv5 3 1 nE L) (CuB ov dv left cs)) := Lcl.own.star CuB.lcl
    simp (disch := omega) [g6, g10, g54, hck, hlk, hlv.idx, nE_cell hlv hop, cell_blk hoc, hdv.idx, nE_cell hdv hx, emin]
    have h9d := h9.drew (Lcl.obj.star hLX)
    refine h9d.st hLX (by simp) (by simp) fun w10 h10 => ?_
    simp [g0, g1, g6, g7, g10, g54, hck, hlk]
    rw [hmt]
    simpa using h10
  clear g0 g1 g6 g7 h3 h4 h5 h6 h8 hoc8 hd8 a7
  rintro ρ w8 ⟨g0, g1, g6, g7, g10, _, h8⟩
  rw [List.take_length, ← hm] at h8
  have hoc8 := h8.obj
  have h8' : At w [] (Star (OwnA dv 3 1 nE (tabN left.length (sub (cf left) (L.take 0) m))) (Star (ObjA cb (.cells #[lv5, .int .i64 (m : Nat)] 45 (0, 0))) (Star (OwnA lv5 3 1 nE L) (Star (OwnA ov 45 2 ctE cs) (Star (VwsA nE (cs.map ctW)) Emp))))) w8 := by
    have e : tabN left.length (sub (cf left) (L.take 0) m) = left := by
      have : sub (cf left) (L.take 0) m = cf left := by funext i; simp [sub]
      rw [this, tab_cf]
    rw [e]
    unfold CuB at h8
    exact h8.by Imp.fr3
  have hLY : Lcl (Star (ObjA cb (.cells #[lv5, .int .i64 (m : Nat)] 45 (0, 0))) (Star (OwnA lv5 3 1 nE L) (Star (OwnA ov 45 2 ctE cs) (Star (VwsA nE (cs.map ctW)) Emp)))) := Lcl.obj.star (Lcl.own.star (Lcl.own.star (Lcl.vws.star .emp)))
  simp [g10, cell_blk hoc8, h8.drop.own.vw.len]
  refine range_loop (n := L.length) (by omega) (fun k ρ w' => ρ 0 = .pointer (some ⟨b, 0, none⟩) ∧ ρ 1 = sv ∧ ρ 6 = dv ∧ ρ 7 = ov ∧ ρ 10 = .pointer (some ⟨cb, 0, none⟩) ∧ ρ 70 = lv5 ∧ At w [] (Star (OwnA dv 3 1 nE (tabN left.length (sub (cf left) (L.take k) m))) (Star (ObjA cb (.cells #[lv5, .int .i64 (m : Nat)] 45 (0, 0))) (Star (OwnA lv5 3 1 nE L) (Star (OwnA ov 45 2 ctE cs) (Star (VwsA nE (cs.map ctW)) Emp))))) w') (by simp) (by simp)
    ⟨by simp [g0], by simp [g1], by simp [g6], by simp [g7], by simp [g10], by simp, by simpa using h8'⟩ (by decide) (fun _ _ _ _ h => by simpa using h) (fun _ _ _ _ h => by simpa using h) ?_ ?_
  · clear g0 g1 g6 g7 g10 h8 h8' hoc8
    rintro k ρ w9 hk hck hlk ⟨g0, g1, g6, g7, g10, g70, h9⟩
    have hoc := h9.drop.obj
    have hlv := h9.drop.drop.own.vw
    have hdv := h9.own.vw
    obtain ⟨op, hop⟩ : ∃ op, L[k]? = some op := ⟨_, List.getElem?_eq_getElem hk⟩
    have hopm := List.mem_of_getElem? hop
    have hopl := hLop op hopm
    have hnot := asc_take hLp hop
    have hstp := sub_step (c := cf left) (m := m) hop hnot
    have hmx := hle op hopm
    obtain ⟨x, hx⟩ : ∃ x, x = cf left op := ⟨_, rfl⟩
    rw [← hx] at hmx hstp
    have hxb : x ≤ 1048576 := by rw [hx]; exact hcb op hopm
    have ev : sub (cf left) (L.take k) m op = x := by unfold sub; rw [if_neg hnot, hx]
    have hki : (k : Int) < L.length := by omega
    have hopi : (op : Int) < left.length := by omega
    have htl : (tabN left.length (sub (cf left) (L.take k) m)).length = left.length := tabN_len _ _
    have cx := nE_cell hdv (tabN_at (g := sub (cf left) (L.take k) m) hopl)
    rw [ev] at cx
    obtain ⟨y, hy⟩ : ∃ y, y = x - m := ⟨_, rfl⟩
    rw [← hy] at hstp
    have ey : (x : Int) - (m : Int) = (y : Int) := by omega
    simp (disch := omega) [g6, g10, g70, hck, hlk, hlv.idx, nE_cell hlv hop, cell_blk hoc, hdv.idx, htl, cx, ey, wrap_i64]
    rw [adr_own h9.own (by omega : op < (tabN left.length (sub (cf left) (L.take k) m)).length)]
    have h9d := h9.drew (Lcl.own.star hLY)
    refine h9d.store1 hLY nE_len nE_one (k := op) (by omega) (x := y) rfl fun w10 h10 => ?_
    rw [tabN_set hopl, hstp] at h10
    simp [g0, g1, g6, g7, g10, g70, hck, hlk]
    exact h10
  clear g0 g1 g6 g7 g10 h8 h8' hoc8
  rintro ρ w8 ⟨g0, g1, g6, g7, g10, _, h8⟩
  rw [List.take_length] at h8
  have hoc8 := h8.drop.obj
  have rc : cellsAt w8 ⟨cb, 0, none⟩ 0 2 = some [lv5, .int .i64 (m : Nat)] := by simp [cellsAt, Addr.add, cell_blk hoc8]
  obtain ⟨ct, hct⟩ : ∃ ct : Ct, ct = ⟨⟨lv5, o5⟩, L, m⟩ := ⟨_, rfl⟩
  have h9 := h8.by Imp.fr4
  have hLZ : Lcl (Star (OwnA dv 3 1 nE (tabN left.length (sub (cf left) L m))) (Star (ObjA cb (.cells #[lv5, .int .i64 (m : Nat)] 45 (0, 0))) (Star (OwnA lv5 3 1 nE L) (Star (VwsA nE (cs.map ctW)) Emp)))) := Lcl.own.star (Lcl.obj.star (Lcl.own.star (Lcl.vws.star .emp)))
  have h9a := h9.kp0 (Lcl.own.star hLZ) ((Kp.refl [] w8).alloc (.cells #[lv5, .int .i64 (m : Nat)] 45))
  simp [g7, g10, rc, rowOf]
  refine At.append (xs := [ct]) hLZ h9a ctE_len ctE_one sl_36 rfl (fun j u hj => ?_) (by omega) (by unfold maxLen; omega) fun ov' w10 h10 => ?_
  · rw [add_none, cell_blk alloc_new]
    simpa [ctE, hct] using hj
  have hcf : cf (tabN left.length (sub (cf left) L m)) = sub (cf left) L m := cf_tab fun i hi => sub_out hi
  simp
  refine ⟨_, hless, by simp [g0], by simp [g1], by simp [g6], tabN left.length (sub (cf left) L m), cs ++ [ct], by rw [tabN_len]; exact hll, fun x hx => ?_, by rw [hcf], by simp; omega, fun r hr => ?_, ?_⟩
  · unfold tabN at hx
    obtain ⟨i, hi, rfl⟩ := List.mem_map.1 hx
    have hi := List.mem_range.1 hi
    have := hlb _ (mem_getD (l := left) hi)
    have h2 : cf left i ≤ 1048576 := this
    unfold sub
    split <;> omega
  · rw [hcf] at hr
    have := cut_pre hpre hV hg0 hgi hcut r hr
    rw [List.map_append, hct]
    exact this
  · simp
    unfold CuB
    have e1 : (cs ++ [ct]).map ctW = cs.map ctW ++ [(⟨lv5, o5⟩, L)] := by rw [List.map_append, hct]; rfl
    rw [e1]
    have h11 := h10.by (Imp.sw.trans (Imp.un (Imp.un Imp.dr)))
    exact h11.by (Imp.un (Imp.un (Imp.ow.trans (VwsA.add o5))))
end
end Go.Proofs.Ytcplpogmbacnfaa
end
section
set_option maxRecDepth 100000
set_option linter.unusedSimpArgs false
set_option linter.unusedVariables false
namespace Go.Lm
open Go.Rx
theorem LmC.ub {U : List Un} {S0 G : List Nat} {c : Nat → Nat} {N C : Nat} {r : Option (List (List Nat × Nat))} (h : LmC U S0 G c r) (hz : Szs U S0 N C c) : ∀ out, r = some out → ∀ p ∈ out, p.2 ≤ C := by
  induction h with
  | inf hV h => intro out e; cases e
  | nil hV h => intro out e; cases e; simp
  | @cut c V L m r hV h0 hi hc hr ih =>
    intro out e
    cases r with
    | none => cases e
    | some o =>
      cases e
      intro p hp
      rcases List.mem_cons.1 hp with rfl | hp
      · obtain ⟨op, ho, e1⟩ := hc.at_
        obtain ⟨u, hu, rfl⟩ := (hc.pos hV h0 hi).2.2 op ho
        have := hz.cost u hu
        show m ≤ C
        omega
      · exact ih (hz.sub L m) o rfl p hp
end Go.Lm
namespace Go.Proofs.Ytcplpogmbacnfaa
open Go Go.W Go.Tk Go.Rx Go.Lm Go.Maps
def ctO (c : Ct) : Obj := .cells #[c.ov.1, .int .i64 (c.cost : Nat)] 45 (0, 0)
theorem st_ct {wa w : World} {F : List Nat} {X : Asr} {KW : Kont World} {c : Ct} {b : Nat} (hX : Lcl X) (h : At w F X wa) (hb : b = wa.heap.size) (H : ∀ w2, At w F (Star (ObjA b (ctO c)) X) w2 → KW.run w2) :
    @stJ (wa.alloc (.cells #[.slice none 0 0, .int .i64 0] 45 (0, 0))) ⟨b, 0, none⟩ [c.ov.1, .int .i64 (c.cost : Nat)] KW := by
  have h1 : At w F (Star (ObjA b (.cells #[.slice none 0 0, .int .i64 0] 45 (0, 0))) X) (wa.alloc (.cells #[.slice none 0 0, .int .i64 0] 45 (0, 0))) := by rw [hb]; exact h.alloc _ hX
  exact h1.st hX (by simp) (by simp [c.ov.2]) fun w2 h2 => H w2 (by simpa [ctO] using h2)
/-- The value of a state. -/
def valP (UL : List Un) (S0 G : List Nat) (c : Nat → Nat) (x : Value) : Prop := ∃ r, LmC UL S0 G c r ∧ x = .int .i64 (match r with | none => Inf | some out => sumM out : Nat)
theorem sumM_take {out : List (List Nat × Nat)} {k : Nat} {p : List Nat × Nat} (h : out[k]? = some p) : sumM (out.take (k + 1)) = sumM (out.take k) + p.2 := by
  rw [take_snoc h]; unfold sumM; rw [List.map_append, List.sum_append]; simp
theorem sumM_ub {out : List (List Nat × Nat)} {C : Nat} (h : ∀ p ∈ out, p.2 ≤ C) : sumM out ≤ out.length * C := by
  unfold sumM
  have := sum_le (vars := out.map (·.2)) (N := C) (fun n hn => by
    obtain ⟨p, hp, rfl⟩ := List.mem_map.1 hn
    exact h p hp)
  simpa using this
section
variable {w : World} {b : Nat} {vars G C0 : List Nat} {UL : List Un} {vv fv gv cv lv : Value} {rs : List Lu}
set_option maxHeartbeats 1000000 in
theorem value_walk (sv : Value) (s : List Nat) (hR : HrR b vars G C0 UL vv fv gv cv lv rs w) (hs : Vw w sv nE s) (hst : StN vars s) (hL : LuOk UL vars.sum C0.length) (hvl : vars.length ≤ 64) (hG : ∀ x ∈ G, x < vars.sum) (hGl : G.length ≤ 1000000) (hCb : ∀ x ∈ C0, x ≤ 1048576) (hCl : C0.length ≤ 4096) :
    Calls Try.prog 17 [.pointer (some ⟨b, 0, none⟩), sv].toArray w fun e w' => ∃ x, e = .returned x ∧ valP UL (stN vars s vars.length) G (cf C0) x ∧ Kp [] w w' := by
  refine enter Try.func17 mixed low17 (Nat.le_of_ble_eq_true rfl) ?_
  simp only [L17]
  simp
  refine cl_of (cuts_walk sv s hR hs hst hL hvl hG hGl hCb hCl) ?_
  rintro x w1 ⟨⟨r, hr, hx⟩, k1⟩
  cases r with
  | none =>
    subst hx
    simp [errV]
    exact ⟨⟨none, hr, rfl⟩, k1⟩
  | some out =>
    obtain ⟨v, rfl, cs, hcs, hv, _⟩ := hx
    have hz := sum_szs (left := C0) hL (stN_sum hst) hCb
    have hub := hr.ub hz out rfl
    have hlen := hr.len (n := C0.length) hL.op out rfl
    have hpn := posN_le (c := cf C0) C0.length
    have hcl : cs.length = out.length := by rw [← hcs]; simp
    simp [hv.len]
    refine range_loop (n := cs.length) (by omega) (fun k ρ w' => ρ 20 = v ∧ ρ 7 = .int .i64 (sumM (out.take k) : Nat) ∧ Kp [] w1 w') (by simp) (by simp)
      ⟨by simp, by simp [sumM], Kp.refl _ _⟩ (by decide) (fun _ _ _ _ h => by simpa using h) (fun _ _ _ _ h => by simpa using h) ?_ ?_
    rotate_left
    · rintro ρ w2 ⟨_, g7, k2⟩
      rw [hcl, List.take_length] at g7
      simp [g7]
      exact ⟨⟨some out, hr, rfl⟩, k1.trans k2⟩
    rintro k ρ w2 hk hck hlk ⟨g20, g7, k2⟩
    have hv2 := hv.kp0 k2
    obtain ⟨c, hc⟩ : ∃ c, cs[k]? = some c := ⟨_, List.getElem?_eq_getElem hk⟩
    have hck2 : out[k]? = some (ctP c) := by rw [← hcs, List.getElem?_map, hc]; rfl
    have ec := hv2.cells ctE_len hc
    simp only [ctE] at ec
    obtain ⟨cb, hcb⟩ : ∃ cb, cb = w2.heap.size := ⟨_, rfl⟩
    have hki : (k : Int) < cs.length := by omega
    simp (disch := omega) [g20, hck, hlk, hv2.idx, ec, ← hcb]
    refine st_ct (c := c) .emp (At.start rfl : At w2 [] Emp w2) hcb fun w3 h3 => ?_
    have oc3 := h3.obj
    unfold ctO at oc3
    have hst1 := sumM_take hck2
    have hs1 := sumM_ub (out := out.take (k + 1)) (C := 1048576) fun p hp => hub p (List.mem_of_mem_take hp)
    have hl1 : (out.take (k + 1)).length * 1048576 ≤ 4096 * 1048576 := Nat.mul_le_mul_right _ (by rw [List.length_take]; omega)
    obtain ⟨sk, hsk⟩ : ∃ x, x = sumM (out.take k) := ⟨_, rfl⟩
    obtain ⟨sk1, hsk1⟩ : ∃ x, x = sumM (out.take (k + 1)) := ⟨_, rfl⟩
    rw [← hsk] at g7 hst1
    rw [← hsk1] at hst1 hs1
    have e : (sk : Int) + (c.cost : Int) = (sk1 : Int) := by rw [hst1]; rfl
    simp (disch := omega) [g7, g20, cell_blk oc3, ← hcb, e, wrap_i64, hck, hlk]
    rw [hsk1]
    exact ⟨rfl, k2.trans0 h3.kp⟩
end
end Go.Proofs.Ytcplpogmbacnfaa
end
section
set_option maxRecDepth 100000
set_option linter.unusedSimpArgs false
set_option linter.unusedVariables false
namespace Go.Lm
open Go.Rx
/-- The same operators but for the order and the repetition of needs. -/
structure LkE (u v : Un) : Prop where
  op : u.op = v.op
  mq : u.makes = v.makes
  nd : ∀ n, n ∈ u.needs ↔ n ∈ v.needs
  nl : u.needs.length ≤ 1000000
def Lk (UL U : List Un) : Prop := UL.length = U.length ∧ ∀ (i : Nat) (u v : Un), UL[i]? = some u → U[i]? = some v → LkE u v
section
variable {UL U : List Un} {V c : Nat → Nat} {S0 G : List Nat}
theorem Lk.nil : Lk [] [] := ⟨rfl, fun i u v h => by simp at h⟩
theorem Lk.snoc {u v : Un} (h : Lk UL U) (he : LkE u v) : Lk (UL ++ [u]) (U ++ [v]) := by
  refine ⟨by simp [h.1], fun i a b ha hb => ?_⟩
  by_cases hi : i < UL.length
  · rw [List.getElem?_append_left hi] at ha
    rw [List.getElem?_append_left (by rw [← h.1]; exact hi)] at hb
    exact h.2 i a b ha hb
  · rw [List.getElem?_append_right (by omega)] at ha
    rw [List.getElem?_append_right (by rw [← h.1]; omega)] at hb
    have h1 := (List.getElem?_eq_some_iff.1 ha).1
    simp at h1
    have e : i - UL.length = 0 := by omega
    have e2 : i - U.length = 0 := by rw [← h.1]; exact e
    rw [e] at ha
    rw [e2] at hb
    simp at ha hb
    subst ha hb
    exact he
theorem Lk.left (h : Lk UL U) {u : Un} (hu : u ∈ UL) : ∃ v ∈ U, LkE u v := by
  obtain ⟨i, hi, rfl⟩ := List.getElem_of_mem hu
  have hi2 : i < U.length := by rw [← h.1]; exact hi
  exact ⟨U[i], List.getElem_mem hi2, h.2 i _ _ (List.getElem?_eq_getElem hi) (List.getElem?_eq_getElem hi2)⟩
theorem Lk.right (h : Lk UL U) {v : Un} (hv : v ∈ U) : ∃ u ∈ UL, LkE u v := by
  obtain ⟨i, hi, rfl⟩ := List.getElem_of_mem hv
  have hi2 : i < UL.length := by rw [h.1]; exact hi
  exact ⟨UL[i], List.getElem_mem hi2, h.2 i _ _ (List.getElem?_eq_getElem hi2) (List.getElem?_eq_getElem hi)⟩
theorem LkE.gr {u v : Un} (h : LkE u v) : gr V u.needs = gr V v.needs := gr_set h.nd
theorem LkE.ar {u v : Un} (h : LkE u v) : arU V u = arU V v := by
  unfold arU
  rw [gst_set h.nd, h.op, h.mq]
theorem Lk.arcs (h : Lk UL U) : arcs UL V = arcs U V := by
  obtain ⟨hl, hh⟩ := h
  unfold Go.Lm.arcs
  induction UL generalizing U with
  | nil =>
    cases U with
    | nil => rfl
    | cons v U => simp at hl
  | cons u UL ih =>
    cases U with
    | nil => simp at hl
    | cons v U =>
      have he := hh 0 u v (by simp) (by simp)
      have ih := ih (U := U) (by simpa using hl) (fun i a b ha hb => hh (i + 1) a b (by simpa using ha) (by simpa using hb))
      have hg := he.gr (V := V)
      simp only [List.filter_cons, hg]
      split
      · rw [List.map_cons, List.map_cons, ih, he.ar]
      · exact ih
theorem Lk.val (h : Lk UL U) (hV : IsVal (wc UL c) S0 V) : IsVal (wc U c) S0 V := by
  refine hV.same (fun u hu => ?_) (fun v hv => ?_)
  · obtain ⟨u, hu2, rfl⟩ := wc_mem hu
    obtain ⟨v, hv, he⟩ := h.left hu2
    exact ⟨_, mem_wc hv, he.mq.symm, by rw [he.op], fun n => (he.nd n).symm⟩
  · obtain ⟨v, hv2, rfl⟩ := wc_mem hv
    obtain ⟨u, hu, he⟩ := h.right hv2
    exact ⟨_, mem_wc hu, he.mq, by rw [he.op], fun n => he.nd n⟩
theorem Lk.lmc {r : Option (List (List Nat × Nat))} (h : Lk UL U) (hr : LmC UL S0 G c r) : LmC U S0 G c r := by
  induction hr with
  | inf hV hh => exact .inf (h.val hV) hh
  | nil hV hh => exact .nil (h.val hV) hh
  | cut hV h0 hi hc hr ih =>
    refine .cut (h.val hV) h0 hi ⟨?_, hc.asc, hc.le, hc.at_⟩ ih
    obtain ⟨g, e, hx⟩ := hc.ex
    exact ⟨g, e, by rw [← h.arcs]; exact hx⟩
end
end Go.Lm
namespace Go.Proofs.Ytcplpogmbacnfaa
open Go Go.W Go.Tk Go.Rx Go.Lm Go.Maps
def hrO (vv fv : Value) (n : Nat) (gv cv lv : Value) : Obj := .cells #[vv, fv, .int .i64 (n : Nat), gv, cv, lv] 73 (0, 0)
set_option maxHeartbeats 1000000 in
theorem numbers_walk {w : World} {b : Nat} {vv fv gv cv lv : Value} {n : Nat} (lf : Value) (vars : List Nat) (l : List Fc) (ho : w.heap[b]? = some (hrO vv fv n gv cv lv)) (hf : Vw w fv nE (firsts vars vars.length)) (hl : Vw w lf fcE l) (hr : FcRng vars l) (hs : vars.sum ≤ 4096) (hll : l.length ≤ 1000000) :
    Calls Try.prog 32 [.pointer (some ⟨b, 0, none⟩), lf].toArray w fun e w' => ∃ x, e = .returned x ∧ Nw w w' x 3 1 nE (l.map (numF vars)) := by
  refine enter Try.func32 mixed low32 (Nat.le_of_ble_eq_true rfl) ?_
  simp only [L32]
  unfold hrO at ho
  have h1 := At.nil (E := 3) (sz := 1) (enc := nE) .emp (At.start rfl : At w [] Emp w)
  simp [hl.len]
  refine range_loop (n := l.length) (by omega) (fun k ρ w' => ρ 0 = .pointer (some ⟨b, 0, none⟩) ∧ ρ 8 = lf ∧ At w [] (Star (OwnA (ρ 5) 3 1 nE ((l.take k).map (numF vars))) Emp) w') (by simp) (by simp)
    ⟨by simp, by simp, by simpa using h1⟩ (by decide) (fun _ _ _ _ h => by simpa using h) (fun _ _ _ _ h => by simpa using h) ?_ ?_
  rotate_left
  · rintro ρ w2 ⟨_, _, h2⟩
    rw [List.take_length] at h2
    simp
    exact Nw.of h2
  rintro k ρ w2 hk hck hlk ⟨g0, g8, h2⟩
  have hl2 := hl.kp0 h2.kp
  obtain ⟨f, hfe⟩ : ∃ f, l[k]? = some f := ⟨_, List.getElem?_eq_getElem hk⟩
  obtain ⟨f1, f2⟩ := hr f (List.mem_of_getElem? hfe)
  have ec := hl2.cells fcE_len hfe
  simp only [fcE] at ec
  obtain ⟨fb, hfb⟩ : ∃ fb, fb = w2.heap.size := ⟨_, rfl⟩
  have hki : (k : Int) < l.length := by omega
  simp (disch := omega) [g8, hck, hlk, hl2.idx, ec, ← hfb]
  refine st_fa (f := faN f) (Lcl.own.star .emp) h2 hfb fun w3 h3 => ?_
  have of3 := h3.obj
  simp only [faN, faO] at of3
  have ho3 := h3.kp.blk ho (by simp)
  have hf3 := hf.kp0 h3.kp
  have efc := nE_cell hf3 (firsts_at (vars := vars) f1)
  have hfl : (firsts vars vars.length).length = vars.length := by simp [firsts]
  have hf1i : (f.1 : Int) < vars.length := by omega
  have hnl := numF_lt f1 f2
  obtain ⟨x, hx⟩ : ∃ x, x = numF vars f := ⟨_, rfl⟩
  have ex : ((psum vars f.1 : Nat) : Int) + (f.2 : Nat) = (x : Int) := by rw [hx]; unfold numF; simp
  rw [← hx] at hnl
  have h4 := h3.drop
  have hLX : Lcl (Star (OwnA (ρ 5) 3 1 nE ((l.take k).map (numF vars))) Emp) := Lcl.own.star .emp
  simp (disch := omega) [g0, cell_blk ho3, cell_blk of3, ← hfb, hf3.idx, hfl, efc, wrap_i64, ex, rowOf]
  have h4d := h4.drew hLX
  refine nat_append .emp h4d (by simp; omega) fun v' w5 h5 => ?_
  have e : (l.take (k + 1)).map (numF vars) = (l.take k).map (numF vars) ++ [x] := by rw [take_snoc hfe, List.map_append, List.map_singleton, ← hx]
  rw [← e] at h5
  simp [g0, g8, hck, hlk]
  simpa using h5
end Go.Proofs.Ytcplpogmbacnfaa
end
