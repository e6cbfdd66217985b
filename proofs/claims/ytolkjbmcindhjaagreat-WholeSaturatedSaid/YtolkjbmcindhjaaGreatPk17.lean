/-
  A part of the proof of this claim's statement (WhPut, WhA): plain theorems; no conditions beyond those each names.
-/
import Derived.Test.YtolkjbmcindhjaaGreatPk15
import Derived.Test.YtolkjbmcindhjaaGreatPk16
import Derived.Test.YtolkjbmcindhjaaGreatPk07
import Derived.RangeFuncNested
import Derived.RangeFuncBound
import Derived.RangeFuncCalls
import Derived.RangeFuncLeaves
import Derived.RangeFuncBox
import Derived.Shelf.Abstract
import Derived.Shelf.RegionOpen
import Derived.WalkKit
import Derived.OwnWalkIn
import Derived.TacticsInMore
import Derived.LoopNIn
import Derived.LoopIn
section
set_option maxRecDepth 100000
set_option linter.unusedSimpArgs false
set_option linter.unusedVariables false
namespace Go.Proofs.YtolkjbmcindhjaaGreat
open Go Go.W Go.Tk Go.Rx Go.RowKit Go.Shelf
attribute [local go_sem] Oper.semAt_some
/-- Blocks below B but S are kept. -/
structure Kq (B : Nat) (S : List Nat) (w w' : World) : Prop where
  os : w'.os = w.os
  tape : w'.tape = w.tape
  output : w'.output = w.output
  size : w.heap.size ≤ w'.heap.size
  block : ∀ b, b < B → b ∉ S → w'.heap[b]? = w.heap[b]?
theorem Kq.refl (B : Nat) (S : List Nat) (w : World) : Kq B S w w := ⟨rfl, rfl, rfl, Nat.le_refl _, fun _ _ _ => rfl⟩
theorem Kq.trans {B : Nat} {S : List Nat} {a b c : World} (h : Kq B S a b) (k : Kq B S b c) : Kq B S a c := ⟨k.os.trans h.os, k.tape.trans h.tape, k.output.trans h.output, Nat.le_trans h.size k.size, fun i hi hs => (k.block i hi hs).trans (h.block i hi hs)⟩
theorem cell_of_block {w w' : World} {a : Addr} (h : w'.heap[a.block]? = w.heap[a.block]?) : w'.cell? a = w.cell? a := by
  unfold World.cell?
  rw [h]
theorem Kq.cell {B : Nat} {S : List Nat} {w w' : World} {a : Addr} (h : Kq B S w w') (hb : a.block < B) (hs : a.block ∉ S) : w'.cell? a = w.cell? a := cell_of_block (h.block _ hb hs)
theorem Kq.putObj {B : Nat} {S : List Nat} {w : World} {l : Nat} (o : Obj) (hl : B ≤ l) : Kq B S w (w.putObj l o) := by
  have := grownBy_putObj' w l o
  refine ⟨rfl, rfl, rfl, this.size, fun b hb hs => World.putObj_heap_other (by omega)⟩
/-- The indices that have come when k rounds are over. -/
def bkT (zs : List Nat) (k : Nat) : List Nat := (List.range k).map fun j => zs.length - 1 - j
theorem bkT_succ {zs : List Nat} {k : Nat} : bkT zs (k + 1) = bkT zs k ++ [zs.length - 1 - k] := by simp [bkT, List.range_succ]
theorem bkT_len {zs : List Nat} {k : Nat} : (bkT zs k).length = k := by simp [bkT]
set_option maxHeartbeats 2000000 in
theorem back1_in (F : Fence) (n : Nat) (h7 : F.fn 245) (hro : F.round = none) (hn : 1 ≤ n) (l Bs B b off cap : Nat) (S : List Nat) (zs : List Nat) (hreach : zs.length ≤ 1000000) (hb : b < B) (hbS : b ∉ S) (hBB : Bs < B) (hBS : Bs ∉ S) (J Jx : List Nat → World → Prop)
    (hY : ∀ pre x W, J pre W → pre.length < zs.length → YieldAt F (n - 1) Tryz.prog l #[.int .i64 (x : Nat), .int .i64 (zs.getD x 0 : Nat)] W fun e W' =>
      (e = .returned (.bool true) ∧ J (pre ++ [x]) W' ∧ Kq B S W W') ∨ (e = .returned (.bool false) ∧ Jx (pre ++ [x]) W'))
    (W : World) (hBs : W.cell? ⟨Bs, 0, none⟩ = some (.slice (some ⟨b, off, none⟩) zs.length cap)) (hc : ∀ j, j < zs.length → W.cell? ⟨b, off + j, none⟩ = some (.int .i64 (zs.getD j 0 : Nat))) (h0 : J [] W) :
    CallsIn F n Tryz.prog 245 #[.func (.yield l) #[] #[], .pointer (some ⟨Bs, 0, none⟩)] W fun e W' => (∃ v, e = .returned v) ∧
      ((∃ ys, ys = bkT zs zs.length ∧ J ys W') ∨ (∃ pre, (∃ k, k ≤ zs.length ∧ pre = bkT zs k) ∧ Jx pre W')) := by
  obtain ⟨len, hlen⟩ : ∃ len, len = zs.length := ⟨_, rfl⟩
  rw [← hlen] at hBs hreach
  refine callsIn_of_wp Tryz.func245 rfl h7 ?_ hro
  simp only [Tryz.ntmps245, List.size_toArray, List.length_cons, List.length_nil, Nat.reduceAdd, Nat.reduceSub, Array.replicate_succ, Array.replicate_zero, List.push_toArray, List.append_toArray, List.nil_append, List.cons_append]
  have hw0 : wrap64 ((len : Int) - 1) = (len : Int) - 1 := by unfold wrap64; omega
  gi_wp2
  gi_loopw [3] (fun i wr => ∃ (k : Nat) (i0 : Int), k ≤ zs.length ∧ i = .int .i64 i0 ∧ i0 = (zs.length : Int) - 1 - k ∧ J (bkT zs k) wr ∧ Kq B S W wr)
    (fun i _ => (intOf i + 1).toNat)
  case atStart => exact ⟨0, _, Nat.zero_le _, rfl, by omega, h0, Kq.refl _ _ _⟩
  case round =>
    obtain ⟨k, i0, hk, rfl, hi0, hJs, hnx⟩ := hrel
    have hbx := (hnx.cell (a := ⟨Bs, 0, none⟩) hBB hBS).trans hBs
    by_cases hlt : k < zs.length
    · obtain ⟨m, rfl⟩ : ∃ m : Nat, i0 = m := ⟨zs.length - 1 - k, by omega⟩
      have hm : zs.length - 1 - k = m := by omega
      have hml : m < zs.length := by omega
      obtain ⟨x, hx⟩ : ∃ x, x = zs.getD m 0 := ⟨_, rfl⟩
      have hcx : wr.cell? ⟨b, off + m, none⟩ = some (.int .i64 (x : Nat)) := by
        rw [hx]; exact (hnx.cell (a := ⟨b, off + m, none⟩) hb hbS).trans (hc m hml)
      obtain ⟨fn, tmps, assign, body, hy, hR⟩ := hY _ m wr hJs (by rw [bkT_len]; exact hlt)
      rw [← hx] at hy
      have hw1 : wrap64 ((m : Int) - 1) = (m : Int) - 1 := by unfold wrap64; omega
      have hnext : ∀ _ : Unit, bkT zs (k + 1) = bkT zs k ++ [m] := fun _ => by rw [bkT_succ, hm]
      have hi1 : ∀ _ : Unit, (m : Int) - 1 = (zs.length : Int) - 1 - ((k + 1 : Nat) : Int) := fun _ => by omega
      clear hm hx hi0 hw0
      gi_wp2
      refine hR.mono ?_
      rintro e W3 (⟨rfl, hJ3, hk3⟩ | ⟨rfl, hJx3⟩)
      · gi_wp2
        go_roundw
        case rel => exact ⟨k + 1, _, by omega, rfl, hi1 (), by rw [hnext ()]; exact hJ3, hnx.trans hk3⟩
        case measure => simp [intOf] <;> omega
      · gi_wp2
        refine bodyPost_ret (results_none rfl _ _ _) rfl ?_
        exact ⟨⟨_, rfl⟩, .inr ⟨_, ⟨k + 1, by omega, (hnext ()).symm⟩, hJx3⟩⟩
    · obtain rfl : k = zs.length := by omega
      obtain rfl : i0 = -1 := by omega
      gi_wp2
      go_end0
      exact ⟨⟨_, rfl⟩, .inl ⟨_, rfl, hJs⟩⟩
set_option maxHeartbeats 2000000 in
theorem back1_nil_in (F : Fence) (n : Nat) (h7 : F.fn 245) (hro : F.round = none) (l Bs : Nat) (oa : Option Addr) (cap : Nat) (J : List Nat → World → Prop) (W : World) (hBs : W.cell? ⟨Bs, 0, none⟩ = some (.slice oa 0 cap)) (h0 : J [] W) :
    CallsIn F n Tryz.prog 245 #[.func (.yield l) #[] #[], .pointer (some ⟨Bs, 0, none⟩)] W fun e W' => (∃ v, e = .returned v) ∧ J [] W' := by
  refine callsIn_of_wp Tryz.func245 rfl h7 ?_ hro
  simp only [Tryz.ntmps245, List.size_toArray, List.length_cons, List.length_nil, Nat.reduceAdd, Nat.reduceSub, Array.replicate_succ, Array.replicate_zero, List.push_toArray, List.append_toArray, List.nil_append, List.cons_append]
  have hw0 : wrap64 (-1 : Int) = -1 := by unfold wrap64; omega
  gi_wp2
  gi_loopw [3] (fun i wr => i = .int .i64 (-1) ∧ J [] wr) (fun _ _ => 0)
  case atStart => exact ⟨rfl, h0⟩
  case round =>
    obtain ⟨rfl, hJs⟩ := hrel
    gi_wp2
    go_end0
    exact ⟨⟨_, rfl⟩, hJs⟩
/-- slices.Backward(s): the slice value is boxed; the function value captures the box. -/
theorem back_in (F : Fence) (n : Nat) (h5 : F.fn 219) (hro : F.round = none) (a : Option Addr) (len cap : Nat) (w : World) :
    CallsIn F n Tryz.prog 219 #[.slice a len cap] w fun e w' => e = .returned (.func (.func 245) #[] #[.pointer (some ⟨w.heap.size, 0, none⟩)]) ∧ w' = w.alloc (.cells #[.slice a len cap] 22) := by
  refine callsIn_of_wp Tryz.func219 rfl h5 ?_ hro
  simp only [Tryz.ntmps219, List.size_toArray, List.length_cons, List.length_nil, Nat.reduceAdd, Nat.reduceSub, Array.replicate_succ, Array.replicate_zero, List.push_toArray, List.append_toArray, List.nil_append, List.cons_append]
  gi_wp2
  go_ret
  exact ⟨rfl, rfl⟩
theorem flat_nv (l : List Nat) : l.flatMap nE = l.map fun x => .int .i64 (x : Nat) := by
  induction l with
  | nil => rfl
  | cons x l ih => rw [List.flatMap_cons, ih]; rfl
theorem back_stops (F : Fence) (n : Nat) (h7 : F.fn 245) (hro : F.round = none) (hn : 1 ≤ n) (Bs B : Nat) (S : List Nat) (pv : Value) (zs : List Nat) (hreach : zs.length ≤ 1000000) (w : World) (hB : B ≤ w.heap.size) (hBB : Bs < B) (hBS : Bs ∉ S)
    (hc : w.cell? ⟨Bs, 0, none⟩ = some pv) (hv : Vw w pv nE zs) (hvb : zs ≠ [] → pv.adr.block < B) (hvs : zs ≠ [] → pv.adr.block ∉ S) :
    SeqStopsK F n Tryz.prog 245 #[.pointer (some ⟨Bs, 0, none⟩)] (fun x : Nat => #[.int .i64 (x : Nat), .int .i64 (zs.getD x 0 : Nat)]) (Kq B S) (fun ys => ys = bkT zs zs.length)
      (fun pre => ∃ k, k ≤ zs.length ∧ pre = bkT zs k) zs.length w := fun l J Jx W hW _ _ hY h0 => by
  have hc' : W.cell? ⟨Bs, 0, none⟩ = some pv := (hW.cell (p := ⟨Bs, 0, none⟩) (by show Bs < _; omega)).trans hc
  by_cases hz : zs = []
  · subst hz
    have : ∃ oa cap, pv = .slice oa 0 cap := by
      rcases hv with ⟨rfl, _⟩ | ⟨a, cap, rfl, _⟩
      · exact ⟨_, _, rfl⟩
      · exact ⟨_, _, rfl⟩
    obtain ⟨oa, cap, rfl⟩ := this
    exact (back1_nil_in F n h7 hro l Bs oa cap J W hc' h0).mono fun e W' ⟨he, hj⟩ => ⟨he, .inl ⟨_, rfl, hj⟩⟩
  · rcases hv with ⟨_, e⟩ | ⟨⟨b, off, sp⟩, cap, rfl, _, hsp, hcs⟩
    · exact absurd e hz
    · obtain rfl : sp = none := hsp hz
      have hvb := hvb hz
      have hvs := hvs hz
      refine back1_in F n h7 hro hn l Bs B b off cap S zs hreach hvb hvs hBB hBS J Jx hY W hc' (fun j hj => ?_) h0
      have := hcs j (.int .i64 (zs.getD j 0 : Nat)) (by rw [flat_nv]; simp [List.getElem?_eq_getElem hj])
      exact (hW.cell (p := ⟨b, off + j, none⟩) (by show b < _; have : b < B := hvb; omega)).trans (by
        rw [← this]
        by_cases hj0 : j = 0
        · subst hj0; simp [Addr.add]
        · simp [Addr.add, hj0])
/-- One variable's value is set. -/
def pst (vars p : List Nat) (st : List Nat × Nat) (j : Nat) : List Nat × Nat := (st.1.set (p.getD j 0) (st.2 % vars.getD (p.getD j 0) 0), st.2 / vars.getD (p.getD j 0) 0)
def pstL (vars p : List Nat) (s : List Nat) (n : Nat) (pre : List Nat) : List Nat × Nat := pre.foldl (pst vars p) (s, n)
theorem pstL_snoc {vars p s pre : List Nat} {n j : Nat} : pstL vars p s n (pre ++ [j]) = pst vars p (pstL vars p s n pre) j := by simp [pstL]
theorem pstL_len {vars p s pre : List Nat} {n : Nat} : (pstL vars p s n pre).1.length = s.length := by
  unfold pstL
  induction pre generalizing s n with
  | nil => rfl
  | cons j pre ih =>
    rw [List.foldl_cons]
    refine (ih (s := (pst vars p (s, n) j).1) (n := (pst vars p (s, n) j).2)).trans ?_
    simp [pst]
theorem pstL_le {vars p s pre : List Nat} {n : Nat} : (pstL vars p s n pre).2 ≤ n := by
  unfold pstL
  induction pre generalizing s n with
  | nil => exact Nat.le_refl _
  | cons j pre ih =>
    rw [List.foldl_cons]
    refine Nat.le_trans (ih (s := (pst vars p (s, n) j).1) (n := (pst vars p (s, n) j).2)) ?_
    exact Nat.div_le_self _ _
theorem pstL_all {vars p s : List Nat} {n : Nat} : (pstL vars p s n (bkT p p.length)).1 = putR vars p.reverse s n := by
  have key : ∀ (r s : List Nat) (n : Nat) (q : List Nat), p = r.reverse ++ q → (((List.range r.length).map fun j => r.length - 1 - j).foldl (pst vars p) (s, n)).1 = putR vars r s n := by
    intro r
    induction r with
    | nil => intro s n q _; rfl
    | cons v r ih =>
      intro s n q hp
      have e0 : p.getD r.length 0 = v := by
        rw [hp]
        simp [List.getD]
      have e1 : ((List.range (v :: r).length).map fun j => (v :: r).length - 1 - j) = r.length :: ((List.range r.length).map fun j => r.length - 1 - j) := by
        rw [List.length_cons, List.range_succ_eq_map, List.map_cons, List.map_map]
        congr 1
        apply List.map_congr_left
        intro j hj
        simp
        omega
      rw [e1, List.foldl_cons]
      have := ih (s.set v (n % vars.getD v 0)) (n / vars.getD v 0) (v :: q) (by rw [hp]; simp)
      simp only [putR]
      rw [← this]
      unfold pst
      rw [e0]
  have := key p.reverse s n [] (by simp)
  unfold pstL bkT
  simpa using this
/-- What holds between two rounds. -/
structure PuI (vars p s : List Nat) (n : Nat) (sv : Value) (nb B : Nat) (w : World) (pre : List Nat) (W : World) : Prop where
  row : Go.W.Own W sv 3 1 nE (pstL vars p s n pre).1
  num : W.heap[nb]? = some (.cells #[.int .i64 ((pstL vars p s n pre).2 : Nat)] 3 (0, 0))
  kq : Kq B [sv.blk, nb] w W
theorem kp_grown {W W' : World} {row : Option Nat} (h : W.grownBy W' row) : Kp row.toList W W' := ⟨h.os, h.tape, h.output, h.size, fun b hb hs => h.block b hb fun e => hs (by rw [← e]; simp)⟩
theorem PuI.own {vars p s : List Nat} {n : Nat} {sv : Value} {nb B : Nat} {w : World} (h1 : sv.blk < B) (h2 : nb < B) (hB : B ≤ w.heap.size) : OwnFrom B (PuI vars p s n sv nb B w) := by
  rintro pre W W' row ⟨hr, hn, hk⟩ hg hrow
  have hkp := kp_grown hg
  have hsz := hk.size
  have nin : ∀ b, b < B → b ∉ row.toList := fun b hb hm => by
    have := (hrow b (by simpa using hm)).1
    omega
  exact ⟨hr.kp hkp (nin _ h1), hkp.blk hn (nin _ h2), hk.trans ⟨hg.os, hg.tape, hg.output, hg.size, fun b hb hs => hg.block b (by omega) fun e => by have := (hrow b e.symm).1; omega⟩⟩
theorem w64 {i : Int} (h1 : -9223372036854775808 ≤ i) (h2 : i ≤ 9223372036854775807) : IntKind.i64.wrap i = i := wrap_i64 h1 h2
theorem vw_own {α : Type} {w : World} {v : Value} {enc : α → List Value} {l : List α} (h : Vw w v enc l) {x : Nat} (hx : x ∈ v.own) : x = v.adr.block := by
  rcases h with ⟨rfl, _⟩ | ⟨a, cap, rfl, _⟩
  · cases hx
  · simpa [Value.own] using hx
/-- The world behind one round. -/
def PuQ (W : World) (sv : Value) (nb : Nat) (s' : List Nat) (n' : Nat) (e : Ex) (ρ : Env) (W' : World) : Prop :=
  e = .nrm ∧ At W [sv.blk, nb] (Star (ObjA nb (.cells #[.int .i64 (n' : Nat)] 3 (0, 0))) (Star (OwnA sv 3 1 nE s') Emp)) W'
theorem put_body {W : World} (vv nv gv ov sv : Value) (vars s' : List Nat) (n' v m sb cap D : Nat) (ρ : Env) (g4 : ρ 4 = .pointer (some ⟨D, 0, none⟩)) (g6 : ρ 6 = .pointer (some ⟨D + 1, 0, none⟩)) (g7 : ρ 7 = .pointer (some ⟨D + 2, 0, none⟩)) (g9 : ρ 9 = .int .i64 (v : Nat))
    (ot : W.heap[D]? = some (.cells #[vv, nv, gv, ov] 26 (0, 0))) (os : W.heap[D + 1]? = some (.cells #[sv] 22 (0, 0))) (on : W.heap[D + 2]? = some (.cells #[.int .i64 (n' : Nat)] 3 (0, 0)))
    (hvv : Vw W vv nE vars) (hO : Go.W.Own W sv 3 1 nE s') (hso : sv.own = [sv.blk]) (hsD : sv.blk < D) (hv1 : v < s'.length) (hv2 : vars[v]? = some m) (hm : 1 ≤ m ∧ m ≤ 1000) (hn : n' ≤ 1000000000) (hl : s'.length ≤ 1000) (hvl : vars.length ≤ 1000) (hvb : vv.adr.block ≠ sv.blk) (hvD : vv.adr.block < D) :
    wpL Tryz.prog LB170_0 (PuQ W sv (D + 2) (s'.set v (n' % m)) (n' / m)) ρ W := by
  simp only [LB170_0]
  have q1 : (n' : Int).tmod (m : Int) = ((n' % m : Nat) : Int) := by rw [Int.tmod_eq_emod_of_nonneg (by omega)]; simp
  have q2 : (n' : Int).tdiv (m : Int) = ((n' / m : Nat) : Int) := by rw [Int.tdiv_eq_ediv_of_nonneg (by omega)]; simp
  have q3 : ¬ m = 0 := by omega
  have hv3 := (List.getElem?_eq_some_iff.1 hv2).1
  have h0 : At W [sv.blk, D + 2] (Star (OwnA sv 3 1 nE s') (Star (ObjA (D + 2) (.cells #[.int .i64 (n' : Nat)] 3 (0, 0))) Emp)) W :=
    At.start ⟨[sv.blk], [D + 2], ⟨hO, hso.symm⟩, ⟨[D + 2], [], ⟨on, rfl⟩, rfl, by simp, rfl⟩, by simp; omega, rfl⟩
  have c2 := hvv.cell hv2
  have hvi : (v : Int) < vars.length := by omega
  have hsi : (v : Int) < s'.length := by omega
  simp (disch := omega) [g4, g6, g7, g9, cell_blk ot, cell_blk os, cell_blk on, hvv.idx, hO.idx, c2, q1, q2, q3]
  obtain ⟨d, hd⟩ : ∃ d, d = n' / m := ⟨_, rfl⟩
  have hdl : d ≤ n' := by rw [hd]; exact Nat.div_le_self _ _
  obtain ⟨r, hr⟩ : ∃ r, r = n' % m := ⟨_, rfl⟩
  rw [← hd] at q2
  rw [← hr] at q1
  rw [← hd, ← hr]
  have h1 := h0.drew (Lcl.own.star (Lcl.obj.star .emp))
  refine h1.store1 (Lcl.obj.star .emp) nE_len nE_one hv1 (x := r) (by simp only [nE]; rw [hr]; simp) fun w2 h2 => ?_
  have k2 := h2.kp
  have ot2 := k2.blk ot (by simp; omega)
  have os2 := k2.blk os (by simp; omega)
  have on2 := h2.drop.obj
  have hvv2 := hvv.kp k2 (fun x hx => by have := vw_own hvv hx; simp; omega)
  have c22 := hvv2.cell hv2
  simp (disch := omega) [g4, g6, g7, g9, cell_blk ot2, cell_blk os2, cell_blk on2, hvv2.idx, c22, q2, q3, w64]
  have h3 := (h2.by Imp.sw).drew (Lcl.obj.star (Lcl.own.star .emp))
  refine h3.st (Lcl.own.star .emp) (by simp) (by simp) fun w4 h4 => ?_
  simp
  exact ⟨rfl, by simpa using h4⟩
set_option maxHeartbeats 4000000 in
theorem put_in {w : World} (vv nv gv ov pv sv : Value) (vars p s : List Nat) (n : Nat) (hvv : Vw w vv nE vars) (hpv : Vw w pv nE p) (hO : Go.W.Own w sv 3 1 nE s) (hs0 : s ≠ [])
    (hp : ∀ v ∈ p, v < s.length ∧ v < vars.length) (hsl : s.length ≤ 1000) (hvl : vars.length ≤ 1000) (hpl : p.length ≤ 1000000)
    (hvn : ∀ n ∈ vars, 1 ≤ n ∧ n ≤ 1000) (hn : n ≤ 1000000000) (hne1 : vars ≠ [] → vv.adr.block ≠ sv.blk) (hne2 : p ≠ [] → pv.adr.block ≠ sv.blk) (hlt1 : vars ≠ [] → vv.adr.block < w.heap.size) (hlt2 : p ≠ [] → pv.adr.block < w.heap.size) :
    CallsIn Fence.wide 8 Tryz.prog 170 #[.agg #[vv, nv, gv, ov], pv, sv, .int .i64 (n : Nat)] w fun e W => (∃ v, e = .returned v) ∧ Kp [sv.blk] w W ∧ Go.W.Own W sv 3 1 nE (putR vars p.reverse s n) := by
  obtain ⟨oa, pl, pcap, rfl⟩ : ∃ oa pl cap, pv = .slice oa pl cap := by
    rcases hpv with ⟨rfl, _⟩ | ⟨a, cap, rfl, _⟩
    · exact ⟨_, _, _, rfl⟩
    · exact ⟨_, _, _, rfl⟩
  have hso : sv.own = [sv.blk] := hO.own_eq (k := 0) (by cases s with | nil => exact absurd rfl hs0 | cons a l => simp)
  have hsb : sv.blk < w.heap.size := hO.lt hs0
  obtain ⟨sb, sl, cap, rfl⟩ : ∃ sb sl cap, sv = .slice (some ⟨sb, 0, none⟩) sl cap := by
    rcases hO with ⟨rfl, e⟩ | ⟨g, cap, cur, junk, rfl, _⟩
    · exact absurd e hs0
    · exact ⟨_, _, _, rfl⟩
  have hsb : sb < w.heap.size := hsb
  refine callsIn_of_wp_marks Tryz.func170 rfl trivial ?_ rfl
  simp only [Tryz.ntmps170, List.size_toArray, List.length_cons, List.length_nil, Nat.reduceAdd, Nat.reduceSub, Array.replicate_succ, Array.replicate_zero, List.push_toArray, List.append_toArray, List.nil_append, List.cons_append]
  gi_wp2_with (refine ⟨trivial, ?_⟩; gi_at_call 219; refine (back_in Fence.wide (8 - 1) trivial rfl _ _ _ _).mono ?_; rintro e w' ⟨rfl, rfl⟩)
  obtain ⟨D, hD⟩ : ∃ D, D = w.heap.size := ⟨_, rfl⟩
  obtain ⟨w3, hw3⟩ : ∃ w3, w3 = ((w.alloc (Obj.cells #[vv, nv, gv, ov] 26)).alloc (Obj.cells #[Value.slice (some ⟨sb, 0, none⟩) sl cap] 22)).alloc (Obj.cells #[.int .i64 (n : Nat)] 3) := ⟨_, rfl⟩
  obtain ⟨w4, hw4⟩ : ∃ w4, w4 = w3.alloc (Obj.cells #[Value.slice oa pl pcap] 22) := ⟨_, rfl⟩
  have z3 : w3.heap.size = D + 3 := by rw [hw3]; simp [hD]
  have z4 : w4.heap.size = D + 4 := by rw [hw4]; simp [z3]
  have k3 : Kp [] w w3 := by rw [hw3]; exact (((Kp.refl [] w).alloc _).alloc _).alloc _
  have k4 : Kp [] w w4 := by rw [hw4]; exact k3.alloc _
  have k34 : Kp [] w3 w4 := by rw [hw4]; exact (Kp.refl [] _).alloc _
  have b4 : w4.heap[D + 3]? = some (Obj.cells #[Value.slice oa pl pcap] 22) := by rw [hw4, ← z3]; exact alloc_new
  have bn : w4.heap[D + 2]? = some (Obj.cells #[.int .i64 (n : Nat)] 3) := by
    refine k34.blk (b := D + 2) ?_ (by simp)
    rw [hw3, show D + 2 = ((w.alloc (Obj.cells #[vv, nv, gv, ov] 26)).alloc (Obj.cells #[Value.slice (some ⟨sb, 0, none⟩) sl cap] 22)).heap.size by simp [hD]]
    exact alloc_new
  have bs : w4.heap[D + 1]? = some (Obj.cells #[Value.slice (some ⟨sb, 0, none⟩) sl cap] 22) := by
    refine k34.blk (b := D + 1) ?_ (by simp)
    rw [hw3]
    refine ((Kp.refl [] _).alloc _).blk (b := D + 1) ?_ (by simp)
    rw [show D + 1 = (w.alloc (Obj.cells #[vv, nv, gv, ov] 26)).heap.size by simp [hD]]
    exact alloc_new
  have bt : w4.heap[D]? = some (Obj.cells #[vv, nv, gv, ov] 26) := by
    refine k34.blk (b := D) ?_ (by simp)
    rw [hw3]
    refine (((Kp.refl [] _).alloc _).alloc _).blk (b := D) ?_ (by simp)
    rw [hD]
    exact alloc_new
  have hvv4 := hvv.kp0 k4
  have hpv4 := hpv.kp0 k4
  have hO4 : Go.W.Own w4 (.slice (some ⟨sb, 0, none⟩) sl cap) 3 1 nE s := hO.kp k4 (by simp)
  rw [← hw3, ← hw4, ← hD]
  simp only [Nat.add_assoc, Nat.reduceAdd]
  have hD' : w.heap.size = D := hD.symm
  clear hw3 hw4 hD
  have hI0 : OwnFrom w4.heap.size (PuI vars p s n (.slice (some ⟨sb, 0, none⟩) sl cap) (D + 2) (D + 4) w4) := by rw [z4]; exact PuI.own (by simp; omega) (by omega) (by omega)
  refine wpIn_rangeFunc_ownG rfl (by omega) (gf := 245) (lb := #[.pointer (some ⟨D + 3, 0, none⟩)]) rfl trivial (enters_of Tryz.func245 (by kernel_rfl) rfl)
    (back_stops Fence.wide (8 - 1) trivial rfl (by omega) (D + 3) (D + 4) [sb, D + 2] (.slice oa pl pcap) p hpl w4 (by omega) (by omega) (by simp; omega) (by simp [cell_blk b4]) hpv4 (fun hz => by have := hlt2 hz; omega) (fun hz => by have := hlt2 hz; have := hne2 hz; simp at this ⊢; omega)) (fun h k => h.trans k) (fun W l o o' hl h h1 h2 => Kq.putObj o' (by omega)) (Below.refl _ _) (fun _ => rfl)
    (PuI vars p s n (.slice (some ⟨sb, 0, none⟩) sl cap) (D + 2) (D + 4) w4)
    (fun _ _ _ => False) hI0
    (fun _ _ _ _ _ hs _ _ => hs)
    ⟨hO4, bn, Kq.refl _ _ _⟩
    (fun x => { tmps := #[.agg #[vv, nv, gv, ov], .slice oa pl pcap, .slice (some ⟨sb, 0, none⟩) sl cap, .int .i64 (n : Nat), .pointer (some ⟨D, 0, none⟩), undef, .pointer (some ⟨D + 1, 0, none⟩), .pointer (some ⟨D + 2, 0, none⟩), undef, (.int .i64 (p[x]?.getD 0 : Nat)), .slice oa pl pcap, .func (.func 245) #[] #[.pointer (some ⟨D + 3, 0, none⟩)], .int .i64 (x : Nat), (.int .i64 (p[x]?.getD 0 : Nat)), undef, undef, undef, undef, undef, undef, undef, undef, undef, undef, undef, undef, undef, undef, undef, undef, undef], defers := [] }) ?assign ?body ?done ?stop
  case assign =>
    intro l x W K hK
    gi_wp2
    exact hK
  case body =>
    rintro l pre x W ⟨hr, hn1, hk⟩ hpre
    obtain ⟨v, hv0⟩ : ∃ v, p[x]?.getD 0 = v := ⟨_, rfl⟩
    have hv : p.getD x 0 = v := by simpa [List.getD] using hv0
    have hv12 : v < s.length ∧ v < vars.length := by
      by_cases hx : x < p.length
      · rw [← hv]; exact hp _ (mem_getD hx)
      · have h0 := hp _ (mem_getD (l := p) (i := 0) (by omega))
        have : v = 0 := by rw [← hv]; simp [List.getD, List.getElem?_eq_none (Nat.le_of_not_lt hx)]
        omega
    obtain ⟨hv1, hv2⟩ := hv12
    obtain ⟨m, hm⟩ : ∃ m, vars[v]? = some m := ⟨_, List.getElem?_eq_getElem hv2⟩
    have hmd : vars.getD v 0 = m := by simp [List.getD, hm]
    have hmr := hvn m (List.mem_of_getElem? hm)
    have hnle := pstL_le (vars := vars) (p := p) (s := s) (n := n) (pre := pre)
    have hsn : pstL vars p s n (pre ++ [x]) = ((pstL vars p s n pre).1.set v ((pstL vars p s n pre).2 % m), (pstL vars p s n pre).2 / m) := by rw [pstL_snoc]; unfold pst; rw [hv, hmd]
    have hsl' := pstL_len (vars := vars) (p := p) (s := s) (n := n) (pre := pre)
    obtain ⟨s', hs'⟩ : ∃ s', (pstL vars p s n pre).1 = s' := ⟨_, rfl⟩
    obtain ⟨n', hn'⟩ : ∃ n', (pstL vars p s n pre).2 = n' := ⟨_, rfl⟩
    rw [hs', hn'] at hsn
    rw [hn'] at hn1 hnle
    rw [hs'] at hr hsl'
    rw [hv0]
    have kk : ∀ {b : Nat} {o : Obj}, w4.heap[b]? = some o → b < D + 4 → b ≠ sb → b ≠ D + 2 → W.heap[b]? = some o := fun h1 h2 h3 h4 => (hk.block _ h2 (by simp; exact ⟨h3, h4⟩)).trans h1
    have hvne : vars ≠ [] := by intro e; rw [e] at hv2; simp at hv2
    have hne1 : vv.adr.block ≠ sb := hne1 hvne
    have hlt1 := hlt1 hvne
    have hvvW : Vw W vv nE vars := by
      rcases hvv4 with h | ⟨a, vc, rfl, h1, h2, h3⟩
      · exact .inl h
      · refine .inr ⟨a, vc, rfl, h1, h2, fun j u hj => ?_⟩
        rw [← h3 j u hj]
        have hb : (a.add j).block = a.block := by unfold Addr.add; split <;> rfl
        exact hk.cell (by rw [hb]; have : a.block < w.heap.size := hlt1; omega) (by rw [hb]; have : a.block ≠ sb := hne1; have : a.block < w.heap.size := hlt1; simp; omega)
    refine wpIn_mono (soundR (types := Tryz.prog.types) (n := 31) (G := 720) mixed _ LB170_0 (PuQ W (.slice (some ⟨sb, 0, none⟩) sl cap) (D + 2) (s'.set v (n' % m)) (n' / m)) _ (fun t => (#[.agg #[vv, nv, gv, ov], .slice oa pl pcap, .slice (some ⟨sb, 0, none⟩) sl cap, .int .i64 (n : Nat), .pointer (some ⟨D, 0, none⟩), undef, .pointer (some ⟨D + 1, 0, none⟩), .pointer (some ⟨D + 2, 0, none⟩), undef, (.int .i64 (v : Nat)), .slice oa pl pcap, .func (.func 245) #[] #[.pointer (some ⟨D + 3, 0, none⟩)], .int .i64 (x : Nat), (.int .i64 (v : Nat)), undef, undef, undef, undef, undef, undef, undef, undef, undef, undef, undef, undef, undef, undef, undef, undef, undef] : Array Value).getD t undef) W (by kernel_rfl) (by kernel_rfl) ⟨rfl, rfl, fun t _ => rfl⟩ ?_) ?_
    · exact put_body vv nv gv ov _ vars s' n' v m sb cap D _ rfl rfl rfl rfl (kk bt (by omega) (by omega) (by omega)) (kk bs (by omega) (by omega) (by omega)) hn1 hvvW hr rfl (by show sb < D; omega) (by omega) hm hmr (by omega) (by omega) hvl hne1 (by omega)
    · rintro e a' W' hh
      cases e <;> simp only [liftQ] at hh
      case normal =>
        obtain ⟨ρ', _, _, h4⟩ := hh
        have k4' := h4.kp
        refine ⟨⟨k4'.size, fun k o hk1 hk2 _ => k4'.blk hk2 (by simp; omega)⟩, ⟨k4'.os, k4'.tape, k4'.output, k4'.size, fun b hb hs => k4'.block b (by have := hk.size; omega) hs⟩, ?_, ?_, hk.trans ⟨k4'.os, k4'.tape, k4'.output, k4'.size, fun b hb hs => k4'.block b (by have := hk.size; omega) hs⟩⟩
        · rw [hsn]; exact h4.drop.own
        · rw [hsn]; exact h4.obj
      case exit id => obtain ⟨ρ', _, h5, _⟩ := hh; cases h5
      case ret => obtain ⟨ρ', _, h5, _⟩ := hh; cases h5
  case done =>
    rintro D' ys W hDD rfl ⟨hr, hn1, hk⟩ hK
    gi_wp2
    refine ⟨by simp, .inl ⟨_, _, rfl, run_takeDeferred hK, ?_⟩⟩
    have hpo : W.grownBy (W.putObj D' (.deferred none)) (some D') := grownBy_putObj' W D' (.deferred none)
    have hkp := kp_grown hpo
    have hw4 := k4.size
    refine ⟨_, results_none rfl _ _ _, ⟨_, rfl⟩, ⟨hkp.os.trans (hk.os.trans k4.os), hkp.tape.trans (hk.tape.trans k4.tape), hkp.output.trans (hk.output.trans k4.output), Nat.le_trans hw4 (Nat.le_trans hk.size hkp.size), fun b hb hs => ?_⟩, ?_⟩
    · have h1 := hk.size
      simp only [blk_slice, List.mem_singleton] at hs
      rw [hkp.block b (by omega) (by simp; omega), hk.block b (by omega) (by simp; omega)]
      exact k4.block b hb (by simp)
    · rw [pstL_all] at hr
      exact hr.kp hkp (by simp; omega)
  case stop =>
    rintro D c pre W _ _ h _
    exact h.elim
theorem vw_lt {α : Type} {w : World} {v : Value} {enc : α → List Value} {l : List α} (h : Vw w v enc l) (he : ∀ x, enc x ≠ []) (hl : l ≠ []) : v.adr.block < w.heap.size := by
  rcases h with ⟨_, e⟩ | ⟨a, cap, rfl, _, _, hc⟩
  · exact absurd e hl
  · cases l with
    | nil => exact absurd rfl hl
    | cons x l =>
      obtain ⟨u, r, hu⟩ : ∃ u r, enc x = u :: r := by
        cases h : enc x with
        | nil => exact absurd h (he x)
        | cons u r => exact ⟨u, r, rfl⟩
      have := hc 0 u (by simp [hu])
      have e : a.add 0 = a := by simp [Addr.add]
      rw [e] at this
      unfold World.cell? at this
      by_cases hlt : a.block < w.heap.size
      · exact hlt
      · rw [Array.getElem?_eq_none (by omega)] at this
        cases this
theorem own_new {α : Type} {w w1 : World} {B : Asr} {v : Value} {E sz : Nat} {enc : α → List Value} {l : List α} (h : At w [] (Star (OwnA v E sz enc l) B) w1) {x : Nat} (hx : x ∈ v.own) : w.heap.size ≤ x := by
  obtain ⟨⟨F', ⟨Fa, Fb, ⟨_, rfl⟩, _, _, rfl⟩, hs⟩, _⟩ := h
  rcases hs x (by simp [hx]) with h1 | h1
  · cases h1
  · exact h1
theorem put_spec {w w1 : World} {B : Asr} (T : Nt) (pv sv : Value) (p s : List Nat) (n : Nat) (hr : NtR w T) (hT : NtG T) (hv0 : T.vars ≠ []) (hpv : Vw w pv nE p) (hp : ∀ v ∈ p, v < T.vars.length) (hpl : p.length ≤ 1000) (hn : n ≤ 1000000000)
    (hB : Lcl B) (h : At w [] (Star (OwnA sv 3 1 nE s) B) w1) (hsl : s.length = T.vars.length) :
    Calls Tryz.prog 170 [ntV T, pv, sv, .int .i64 (n : Nat)].toArray w1 fun e w' => ∃ x, e = .returned x ∧ At w [] (Star (OwnA sv 3 1 nE (putR T.vars p.reverse s n)) B) w' := by
  have hO := h.own
  have hvl := hT.vlen
  have hs0 : s ≠ [] := by
    intro e
    rw [e] at hsl
    exact hv0 (List.length_eq_zero_iff.1 hsl.symm)
  have hso : sv.own = [sv.blk] := hO.own_eq (k := 0) (by cases s with | nil => exact absurd rfl hs0 | cons a l => simp)
  have hge := own_new h (x := sv.blk) (by rw [hso]; simp)
  have hb1 := vw_lt hr.vars (fun x => by simp [nE]) hv0
  have hb2 := vw_lt hpv (fun x => by simp [nE])
  have hsz := h.kp.size
  refine Calls.mono (callsIn_wide.1 (put_in T.vv.1 T.nv.1 T.gv.1 T.ov.1 pv sv T.vars p s n (hr.vars.kp0 h.kp) (hpv.kp0 h.kp) hO hs0 (fun v hv => by have := hp v hv; omega) (by omega) (by omega) (by omega) (fun n hn => by have := hT.vars n hn; omega) hn (fun _ => by omega) (fun hz => by have := hb2 hz; omega) (fun _ => by omega) (fun hz => by have := hb2 hz; omega))) ?_
  rintro e w' ⟨⟨x, rfl⟩, hk, hO'⟩
  refine ⟨x, rfl, h.step Lcl.own hB ?_⟩
  rintro Fa ⟨_, rfl⟩
  exact ⟨_, ⟨hO', rfl⟩, by rw [hso]; exact hk, fun x hx => .inl hx⟩
end Go.Proofs.YtolkjbmcindhjaaGreat
end
section
set_option maxRecDepth 100000
set_option linter.unusedSimpArgs false
set_option linter.unusedVariables false
namespace Go.Proofs.YtolkjbmcindhjaaGreat
open Go Go.W Go.Tk Go.Rx Go.Maps
theorem tholds_spec {w : World} (fv sv : Value) (l : List Fc) (s : List Nat) (hf : Vw w fv fcE l) (hs : Vw w sv nE s) (hl : l.length ≤ 1000000) (hr : ∀ f ∈ l, f.1 < s.length) :
    Calls Tryz.prog 220 [fv, sv].toArray w fun e w' => ∃ x, e = .returned x ∧ x = .bool (hdB s l) ∧ Kp [] w w' := by
  refine enter Tryz.func220 mixed low220 (Nat.le_of_ble_eq_true rfl) ?_
  simp only [L220]
  simp [hf.len]
  refine range_loop (n := l.length) (by omega) (fun k ρ w' => ρ 1 = sv ∧ ρ 7 = fv ∧ hdB s (l.take k) = true ∧ Kp [] w w') (by simp) (by simp)
    ⟨by simp, by simp, by simp [hdB], Kp.refl _ _⟩ (by decide) (fun _ _ _ _ h => by simpa using h) (fun _ _ _ _ h => by simpa using h) ?_ ?_
  rotate_left
  · rintro ρ w4 ⟨g1, g7, g4, k4⟩
    rw [List.take_length] at g4
    simp [g4]
    exact k4
  rintro k ρ w4 hk hc hlm ⟨g1, g7, g4, k4⟩
  have hf4 := hf.kp0 k4
  obtain ⟨f, hfe⟩ : ∃ f, l[k]? = some f := ⟨_, List.getElem?_eq_getElem hk⟩
  have hfm := List.mem_of_getElem? hfe
  have f1 := hr f hfm
  have ec := hf4.cells fcE_len hfe
  simp only [fcE] at ec
  obtain ⟨fb, hfb⟩ : ∃ fb, fb = w4.heap.size := ⟨_, rfl⟩
  have hki : (k : Int) < l.length := by omega
  simp (disch := omega) [g7, hc, hlm, hf4.idx, ec, ← hfb]
  refine st_fa (f := faN f) .emp (At.start (w := w4) rfl) hfb fun w7 h7 => ?_
  have k7 := k4.trans h7.kp
  have hob := h7.obj
  simp only [faN, faO] at hob
  rw [hfb] at hob
  have hs7 := hs.kp0 k7
  obtain ⟨y, hy⟩ : ∃ y, s[f.1]? = some y := ⟨_, List.getElem?_eq_getElem f1⟩
  have hyd : s.getD f.1 0 = y := by simp [List.getD, hy]
  have n1 : ¬ (f.1 : Int) < 0 := by omega
  have n2 : ¬ ((s.length : Nat) : Int) ≤ (f.1 : Int) := by omega
  have n3 : (f.1 : Int) < s.length := by omega
  have n4 : ¬ s.length ≤ f.1 := by omega
  have hsc := hdB_succ (s := s) hfe
  rw [g4, hyd] at hsc
  by_cases hyx : y = f.2
  · have t : ((y : Int) != (f.2 : Int)) = false := by simp; omega
    simp (disch := omega) [g1, g7, hc, hlm, cell_blk hob, n1, n2, n4, hs7.len, hs7.idx, nE_cell hs7 hy, t]
    refine ⟨?_, k7.drew⟩
    rw [hsc]; simp [hyx]
  · have t : ((y : Int) != (f.2 : Int)) = true := by simp; omega
    have hbad : hdB s l = false := by
      unfold hdB
      rw [List.all_eq_false]
      exact ⟨f, hfm, by simp only [hyd, decide_eq_true_eq]; exact hyx⟩
    simp (disch := omega) [g1, g7, hc, hlm, cell_blk hob, n1, n2, n4, hs7.len, hs7.idx, nE_cell hs7 hy, t, hbad]
    exact k7.drew
def hasB (l : List Fc) (v : Nat) : Bool := l.any fun f => decide (f.1 = v)
theorem hasB_iff {l : List Fc} {v : Nat} : hasB l v = true ↔ ∃ f ∈ l, f.1 = v := by simp [hasB]
theorem has1_spec {w : World} (f : Fc) (v vb : Nat) (ho : w.heap[vb]? = some (.cells #[.int .i64 (v : Nat)] 3 (0, 0))) :
    Calls Tryz.prog 244 [fcV f, .pointer (some ⟨vb, 0, none⟩)].toArray w fun e w' => ∃ x, e = .returned x ∧ x = .bool (decide (f.1 = v)) ∧ Kp [] w w' := by
  refine enter Tryz.func244 mixed low244 (Nat.le_of_ble_eq_true rfl) ?_
  simp only [L244]
  have k1 : Kp [] w (w.alloc (.cells #[.int .i64 (f.1 : Nat), .int .i64 (f.2 : Nat)] 100)) := (Kp.refl [] w).alloc _
  have ob : (w.alloc (.cells #[.int .i64 (f.1 : Nat), .int .i64 (f.2 : Nat)] 100)).heap[w.heap.size]? = some (.cells #[.int .i64 (f.1 : Nat), .int .i64 (f.2 : Nat)] 100 (0, 0)) := alloc_new
  have ho1 := k1.blk ho (by simp)
  by_cases e : f.1 = v
  · have e' : ((f.1 : Int) == (v : Int)) = true := by simp; omega
    have e2 : decide (f.1 = v) = true := by simp [e]
    rw [e2]
    simp [fcV, cell_blk ob, cell_blk ho1, e']
    exact k1
  · have e' : ((f.1 : Int) == (v : Int)) = false := by simp; omega
    simp [fcV, cell_blk ob, cell_blk ho1, e', e]
    exact k1
theorem indexFF_spec {w : World} (fv : Value) (l : List Fc) (v vb : Nat) (hf : Vw w fv fcE l) (hl : l.length ≤ 1000000) (ho : w.heap[vb]? = some (.cells #[.int .i64 (v : Nat)] 3 (0, 0))) :
    Calls Tryz.prog 255 [fv, .func (.func 244) #[] #[.pointer (some ⟨vb, 0, none⟩)]].toArray w fun e w' => ∃ x, e = .returned x ∧ (∃ i : Int, x = .int .i64 i ∧ decide (0 ≤ i) = hasB l v) ∧ Kp [] w w' := by
  refine enter Tryz.func255 mixed low255 (Nat.le_of_ble_eq_true rfl) ?_
  simp only [L255]
  simp [hf.len]
  refine range_loop (n := l.length) (by omega) (fun k ρ w' => ρ 0 = fv ∧ ρ 1 = .func (.func 244) #[] #[.pointer (some ⟨vb, 0, none⟩)] ∧ hasB (l.take k) v = false ∧ Kp [] w w') (by simp) (by simp)
    ⟨by simp, by simp, by simp [hasB], Kp.refl _ _⟩ (by decide) (fun _ _ _ _ h => by simpa using h) (fun _ _ _ _ h => by simpa using h) ?_ ?_
  rotate_left
  · rintro ρ w4 ⟨g0, g1, hall, k4⟩
    rw [List.take_length] at hall
    simp [hall]
    exact k4
  rintro k ρ w4 hk hc hlm ⟨g0, g1, hall, k4⟩
  obtain ⟨f, hfe⟩ : ∃ f, l[k]? = some f := ⟨_, List.getElem?_eq_getElem hk⟩
  have hf4 := hf.kp0 k4
  have ec := hf4.cells fcE_len hfe
  simp only [fcE] at ec
  have hki : (k : Int) < l.length := by omega
  simp (disch := omega) [g0, g1, hc, hlm, hf4.idx, ec]
  refine cl_of (has1_spec f v vb (k4.blk ho (by simp))) ?_
  rintro _ w5 ⟨rfl, k5⟩
  by_cases t : f.1 = v
  · have e : hasB l v = true := hasB_iff.2 ⟨f, List.mem_of_getElem? hfe, t⟩
    simp [t, g0, g1, hc, hlm, e]
    exact k4.trans0 k5
  · simp [t, g0, g1, hc, hlm]
    refine ⟨?_, k4.trans0 k5⟩
    rw [take_snoc hfe]
    unfold hasB at hall ⊢
    rw [List.any_append, hall]
    simp [t]
theorem containsFF_spec {w : World} (fv : Value) (l : List Fc) (v vb : Nat) (hf : Vw w fv fcE l) (hl : l.length ≤ 1000000) (ho : w.heap[vb]? = some (.cells #[.int .i64 (v : Nat)] 3 (0, 0))) :
    Calls Tryz.prog 243 [fv, .func (.func 244) #[] #[.pointer (some ⟨vb, 0, none⟩)]].toArray w fun e w' => ∃ x, e = .returned x ∧ x = .bool (hasB l v) ∧ Kp [] w w' := by
  refine enter Tryz.func243 mixed low243 (Nat.le_of_ble_eq_true rfl) ?_
  simp only [L243]
  simp
  refine cl_of (indexFF_spec fv l v vb hf hl ho) ?_
  rintro _ w5 ⟨⟨i, rfl, hi⟩, k5⟩
  simp [hi]
  exact k5
theorem has_spec {w : World} (fv : Value) (l : List Fc) (v : Nat) (hf : Vw w fv fcE l) (hl : l.length ≤ 1000000) :
    Calls Tryz.prog 218 [fv, .int .i64 (v : Nat)].toArray w fun e w' => ∃ x, e = .returned x ∧ x = .bool (hasB l v) ∧ Kp [] w w' := by
  refine enter Tryz.func218 mixed low218 (Nat.le_of_ble_eq_true rfl) ?_
  simp only [L218]
  have k1 : Kp [] w (w.alloc (.cells #[.int .i64 (v : Nat)] 3)) := (Kp.refl [] w).alloc _
  have ob : (w.alloc (.cells #[.int .i64 (v : Nat)] 3)).heap[w.heap.size]? = some (.cells #[.int .i64 (v : Nat)] 3 (0, 0)) := alloc_new
  simp
  refine cl_of (containsFF_spec fv l v _ (hf.kp0 k1) hl ob) ?_
  rintro _ w5 ⟨rfl, k5⟩
  simp
  exact k1.trans k5
theorem count_spec {w : World} (T : Nt) (pv : Value) (p : List Nat) (hr : NtR w T) (hpv : Vw w pv nE p) (hp : ∀ v ∈ p, v < T.vars.length) (hpl : p.length ≤ 1000) (hs : ∀ k, k ≤ p.length → szK T.vars p k ≤ 4096) :
    Calls Tryz.prog 167 [ntV T, pv].toArray w fun e w' => ∃ x, e = .returned x ∧ x = .tuple #[.int .i64 (szS T.vars p : Nat), .bool true] ∧ Kp [] w w' := by
  refine enter Tryz.func167 mixed low167 (Nat.le_of_ble_eq_true rfl) ?_
  simp only [L167]
  obtain ⟨b, hb⟩ : ∃ b, b = w.heap.size := ⟨_, rfl⟩
  obtain ⟨w1, hw1⟩ : ∃ w1, w1 = w.alloc (ntO T) := ⟨_, rfl⟩
  have k1 : Kp [] w w1 := by rw [hw1]; exact (Kp.refl [] w).alloc _
  have hob : w1.heap[b]? = some (ntO T) := by rw [hw1, hb]; exact alloc_new
  have hw1' : w.alloc (.cells #[T.vv.1, T.nv.1, T.gv.1, T.ov.1] 26 (0, 0)) = w1 := by rw [hw1]; rfl
  have hpv1 := hpv.kp0 k1
  simp [ntV, ← hb, hw1', hpv1.len]
  refine range_loop (n := p.length) (by omega) (fun k ρ w' => ρ 2 = .pointer (some ⟨b, 0, none⟩) ∧ ρ 9 = pv ∧ ρ 6 = .int .i64 (szK T.vars p k : Nat) ∧ Kp [] w1 w') (by simp) (by simp)
    ⟨by simp, by simp, by simp [szK], Kp.refl _ _⟩ (by decide) (fun _ _ _ _ h => by simpa using h) (fun _ _ _ _ h => by simpa using h) ?_ ?_
  rotate_left
  · rintro ρ w4 ⟨g2, g9, g6, k4⟩
    simp [g6]
    exact ⟨rfl, k1.trans k4⟩
  rintro k ρ w4 hk hc hlm ⟨g2, g9, g6, k4⟩
  have hpv4 := hpv1.kp0 k4
  obtain ⟨v, hv⟩ : ∃ v, p[k]? = some v := ⟨_, List.getElem?_eq_getElem hk⟩
  have hvd : p.getD k 0 = v := by simp [List.getD, hv]
  have hvl := hp v (List.mem_of_getElem? hv)
  obtain ⟨m, hm⟩ : ∃ m, T.vars[v]? = some m := ⟨_, List.getElem?_eq_getElem hvl⟩
  have hmd : T.vars.getD v 0 = m := by simp [List.getD, hm]
  have hvv4 := (hr.kp (k1.trans k4)).vars
  have hob4 := k4.blk hob (by simp)
  unfold ntO at hob4
  have hki : (k : Int) < p.length := by omega
  have hvi : (v : Int) < T.vars.length := by omega
  have hsz := hs (k + 1) (by omega)
  have esz : szK T.vars p (k + 1) = szK T.vars p k * m := by simp only [szK]; rw [hvd, hmd]
  obtain ⟨q, hq⟩ : ∃ q, q = szK T.vars p (k + 1) := ⟨_, rfl⟩
  obtain ⟨q0, hq0⟩ : ∃ q0, q0 = szK T.vars p k := ⟨_, rfl⟩
  rw [← hq] at esz hsz ⊢
  rw [← hq0] at esz g6
  have em : (q0 : Int) * (m : Int) = (q : Int) := by rw [esz]; simp
  have n1 : ¬ (4096 : Int) < (q : Int) := by omega
  have n2 : ¬ 4096 < q := by omega
  simp (disch := omega) [g2, g6, g9, hc, hlm, hpv4.idx, nE_cell hpv4 hv, cell_blk hob4, hvv4.idx, nE_cell hvv4 hm, em, wrap_i64, n1, n2]
  exact k4
theorem number_pr {w : World} (T : Nt) (pv sv : Value) (p s : List Nat) (hr : NtR w T) (hpv : Vw w pv nE p) (hsv : Vw w sv nE s) (hsl : s.length = T.vars.length) (hp : ∀ v ∈ p, v < T.vars.length ∧ s.getD v 0 < T.vars.getD v 0) (hpl : p.length ≤ 1000) (hvl : T.vars.length ≤ 1000) (hs : ∀ k, k ≤ p.length → szK T.vars p k ≤ 4096) :
    Calls Tryz.prog 168 [ntV T, pv, sv].toArray w fun e w' => ∃ x, e = .returned x ∧ x = .int .i64 (nbS T.vars s p : Nat) ∧ Kp [] w w' := by
  refine enter Tryz.func168 mixed low168 (Nat.le_of_ble_eq_true rfl) ?_
  simp only [L168]
  obtain ⟨b, hb⟩ : ∃ b, b = w.heap.size := ⟨_, rfl⟩
  obtain ⟨w1, hw1⟩ : ∃ w1, w1 = w.alloc (ntO T) := ⟨_, rfl⟩
  have k1 : Kp [] w w1 := by rw [hw1]; exact (Kp.refl [] w).alloc _
  have hob : w1.heap[b]? = some (ntO T) := by rw [hw1, hb]; exact alloc_new
  have hw1' : w.alloc (.cells #[T.vv.1, T.nv.1, T.gv.1, T.ov.1] 26 (0, 0)) = w1 := by rw [hw1]; rfl
  have hpv1 := hpv.kp0 k1
  simp [ntV, ← hb, hw1', hpv1.len]
  refine range_loop (n := p.length) (by omega) (fun k ρ w' => ρ 2 = sv ∧ ρ 3 = .pointer (some ⟨b, 0, none⟩) ∧ ρ 10 = pv ∧ ρ 7 = .int .i64 (nbK T.vars s p k : Nat) ∧ Kp [] w1 w') (by simp) (by simp)
    ⟨by simp, by simp, by simp, by simp [nbK], Kp.refl _ _⟩ (by decide) (fun _ _ _ _ h => by simpa using h) (fun _ _ _ _ h => by simpa using h) ?_ ?_
  rotate_left
  · rintro ρ w4 ⟨g2, g3, g10, g7, k4⟩
    simp [g7]
    exact ⟨rfl, k1.trans k4⟩
  rintro k ρ w4 hk hc hlm ⟨g2, g3, g10, g7, k4⟩
  have hpv4 := hpv1.kp0 k4
  have hsv4 := (hsv.kp0 k1).kp0 k4
  obtain ⟨v, hv⟩ : ∃ v, p[k]? = some v := ⟨_, List.getElem?_eq_getElem hk⟩
  have hvd : p.getD k 0 = v := by simp [List.getD, hv]
  obtain ⟨hvl, hsr⟩ := hp v (List.mem_of_getElem? hv)
  obtain ⟨m, hm⟩ : ∃ m, T.vars[v]? = some m := ⟨_, List.getElem?_eq_getElem hvl⟩
  have hmd : T.vars.getD v 0 = m := by simp [List.getD, hm]
  obtain ⟨y, hy⟩ : ∃ y, s[v]? = some y := ⟨_, List.getElem?_eq_getElem (by omega)⟩
  have hyd : s.getD v 0 = y := by simp [List.getD, hy]
  have hvv4 := (hr.kp (k1.trans k4)).vars
  have hob4 := k4.blk hob (by simp)
  unfold ntO at hob4
  have hki : (k : Int) < p.length := by omega
  have hvi : (v : Int) < T.vars.length := by omega
  have hvi2 : (v : Int) < s.length := by omega
  have hlt := nbK_lt (vars := T.vars) (s := s) (p := p) (fun v hv => (hp v hv).2) (k + 1) (by omega)
  have hsz := hs (k + 1) (by omega)
  have e1 : nbK T.vars s p (k + 1) = nbK T.vars s p k * m + y := by simp only [nbK]; rw [hvd, hmd, hyd]
  obtain ⟨q, hq⟩ : ∃ q, q = nbK T.vars s p (k + 1) := ⟨_, rfl⟩
  obtain ⟨q0, hq0⟩ : ∃ q0, q0 = nbK T.vars s p k := ⟨_, rfl⟩
  rw [← hq] at e1 hlt ⊢
  rw [← hq0] at e1 g7
  obtain ⟨r, hr'⟩ : ∃ r, r = q0 * m := ⟨_, rfl⟩
  rw [← hr'] at e1
  have em : (q0 : Int) * (m : Int) = (r : Int) := by rw [hr']; simp
  have es : (r : Int) + (y : Int) = (q : Int) := by omega
  simp (disch := omega) [g2, g3, g7, g10, hc, hlm, hpv4.idx, nE_cell hpv4 hv, cell_blk hob4, hvv4.idx, nE_cell hvv4 hm, hsv4.idx, nE_cell hsv4 hy, em, es, wrap_i64]
  exact k4.drew
end Go.Proofs.YtolkjbmcindhjaaGreat
end
