/-
  Parts of the proofs of this seat's statements (LmW1, LmW2, LmW3, LmW4, LmW5); no conditions beyond those each theorem names.
-/
import Derived.Test.YtcplpogmbacnfaaRxYM
import Derived.Test.YtcplpogmbacnfaaLmPa
import Derived.Test.YtcplpogmbacnfaaLmKeys
import Derived.Lib.SlKeysI
section
set_option maxRecDepth 100000
set_option linter.unusedSimpArgs false
set_option linter.unusedVariables false
namespace Go.Proofs.Ytcplpogmbacnfaa
open Go Go.W Go.Tk Go.Rx Go.Lm Go.Maps
def gI (o : Option Nat) : Int := match o with | some g => (g : Int) | none => -1
theorem gst_take {V : Nat → Nat} {l : List Nat} {k f : Nat} (h : l[k]? = some f) : gst V (l.take (k + 1)) = gStep V (gst V (l.take k)) f := by
  rw [take_snoc h, gst_snoc]
theorem gst_mem_take {V : Nat → Nat} {l : List Nat} {k g : Nat} (h : gst V (l.take k) = some g) : g ∈ l := List.mem_of_mem_take (gst_some h).1
set_option maxHeartbeats 1000000 in
theorem greatest_walk {w : World} (lv tv : Value) (l : List Nat) (N : Nat) (V : Nat → Nat) (hl : Vw w lv nE l) (ht : Vw w tv nE (tabN N V)) (hr : ∀ x ∈ l, x < N) (hll : l.length ≤ 1000000) :
    Calls Try.prog 63 [lv, tv].toArray w fun e w' => ∃ x, e = .returned x ∧ x = .int .i64 (gI (gst V l)) ∧ Kp [] w w' := by
  refine enter Try.func63 mixed low63 (Nat.le_of_ble_eq_true rfl) ?_
  simp only [L63]
  simp [hl.len]
  refine range_loop (n := l.length) (by omega) (fun k ρ w' => ρ 0 = lv ∧ ρ 1 = tv ∧ ρ 8 = lv ∧ ρ 5 = .int .i64 (gI (gst V (l.take k))) ∧ Kp [] w w') (by simp) (by simp)
    ⟨by simp, by simp, by simp, by simp [gst, gI], Kp.refl _ _⟩ (by decide) (fun _ _ _ _ h => by simpa using h) (fun _ _ _ _ h => by simpa using h) ?_ ?_
  rotate_left
  · rintro ρ w2 ⟨g0, g1, g8, g5, k2⟩
    rw [List.take_length] at g5
    simp [g5]
    exact k2
  rintro k ρ w2 hk hck hlk ⟨g0, g1, g8, g5, k2⟩
  have hl2 := hl.kp0 k2
  have ht2 := ht.kp0 k2
  obtain ⟨f, hf⟩ : ∃ f, l[k]? = some f := ⟨_, List.getElem?_eq_getElem hk⟩
  have hfN := hr f (List.mem_of_getElem? hf)
  have hki : (k : Int) < l.length := by omega
  have htl : (tabN N V).length = N := tabN_len _ _
  have hfi : (f : Int) < N := by omega
  have cf := nE_cell ht2 (tabN_at (g := V) hfN)
  have hsuc := gst_take (V := V) hf
  cases hg : gst V (l.take k) with
  | none =>
    rw [hg] at g5 hsuc
    have e : gst V (l.take (k + 1)) = some f := hsuc
    simp (disch := omega) [g0, g1, g8, g5, hck, hlk, hl2.idx, nE_cell hl2 hf, gI, e]
    exact k2.drew
  | some g =>
    rw [hg] at g5 hsuc
    have hgN := hr g (gst_mem_take hg)
    have hgi : (g : Int) < N := by omega
    have cg := nE_cell ht2 (tabN_at (g := V) hgN)
    have n0 : ¬ (g : Int) < 0 := by omega
    have hsuc : gst V (l.take (k + 1)) = if btr V f g = true then some f else some g := hsuc
    by_cases s1 : V g < V f
    · have s1' : (V g : Int) < (V f : Int) := by omega
      have e : gst V (l.take (k + 1)) = some f := by rw [hsuc, if_pos]; unfold btr; simp [s1]
      simp (disch := omega) [g0, g1, g8, g5, hck, hlk, hl2.idx, nE_cell hl2 hf, gI, e, n0, ht2.idx, htl, cf, cg, s1, s1']
      exact k2.drew
    have s1' : ¬ (V g : Int) < (V f : Int) := by omega
    by_cases s2 : V f = V g
    · have s2' : (V f : Int) = (V g : Int) := by omega
      by_cases s3 : f < g
      · have s3' : (f : Int) < (g : Int) := by omega
        have e : gst V (l.take (k + 1)) = some f := by rw [hsuc, if_pos]; unfold btr; simp [s2, s3]
        simp (disch := omega) [g0, g1, g8, g5, hck, hlk, hl2.idx, nE_cell hl2 hf, gI, e, n0, ht2.idx, htl, cf, cg, s2, s2', s3, s3']
        exact k2.drew
      · have s3' : ¬ (f : Int) < (g : Int) := by omega
        have e : gst V (l.take (k + 1)) = some g := by rw [hsuc, if_neg]; unfold btr; simp [s2]; omega
        simp (disch := omega) [g0, g1, g8, g5, hck, hlk, hl2.idx, nE_cell hl2 hf, gI, e, n0, ht2.idx, htl, cf, cg, s2, s2', s3, s3']
        exact k2.drew
    · have s2' : ((V f : Int) == (V g : Int)) = false := by simp; omega
      have e : gst V (l.take (k + 1)) = some g := by rw [hsuc, if_neg]; unfold btr; simp [s2]; omega
      simp (disch := omega) [g0, g1, g8, g5, hck, hlk, hl2.idx, nE_cell hl2 hf, gI, e, n0, ht2.idx, htl, cf, cg, s1, s1', s2, s2']
      exact k2.drew
theorem highest_walk {w : World} (lv tv : Value) (l : List Nat) (N : Nat) (V : Nat → Nat) (hl : Vw w lv nE l) (ht : Vw w tv nE (tabN N V)) (hr : ∀ x ∈ l, x < N) (hll : l.length ≤ 1000000) :
    Calls Try.prog 45 [lv, tv].toArray w fun e w' => ∃ x, e = .returned x ∧ x = .int .i64 (gr V l : Nat) ∧ Kp [] w w' := by
  refine enter Try.func45 mixed low45 (Nat.le_of_ble_eq_true rfl) ?_
  simp only [L45]
  simp
  refine cl_of (greatest_walk lv tv l N V hl ht hr hll) ?_
  rintro _ w2 ⟨rfl, k2⟩
  have e := gr_gst (V := V) l
  cases hg : gst V l with
  | none =>
    rw [hg] at e
    simp [gI, e]
    exact k2
  | some g =>
    rw [hg] at e
    have hgN := hr g (gst_some hg).1
    have ht2 := ht.kp0 k2
    have htl : (tabN N V).length = N := tabN_len _ _
    have hgi : (g : Int) < N := by omega
    have n0 : (0 : Int) ≤ (g : Int) := by omega
    simp (disch := omega) [gI, n0, ht2.idx, htl, nE_cell ht2 (tabN_at (g := V) hgN), e]
    exact k2
end Go.Proofs.Ytcplpogmbacnfaa
end
section
set_option maxRecDepth 100000
set_option linter.unusedSimpArgs false
set_option linter.unusedVariables false
namespace Go.Proofs.Ytcplpogmbacnfaa
open Go Go.W Go.Tk Go.Rx Go.Lm Go.Maps
/-- An operator of the heuristic, as it lies in memory. -/
structure Lu where
  nv : Cell1
  u : Un
def luE (r : Lu) : List Value := [.int .i64 (r.u.op : Nat), .int .i64 (r.u.makes : Nat), r.nv.1]
theorem luE_len (r : Lu) : (luE r).length = 3 := rfl
theorem luE_one (r : Lu) : (luE r).all oneC = true := by simp [luE, r.nv.2]
def luO (r : Lu) : Obj := .cells #[.int .i64 (r.u.op : Nat), .int .i64 (r.u.makes : Nat), r.nv.1] 77 (0, 0)
theorem st_lu {wa w : World} {F : List Nat} {X : Asr} {KW : Kont World} {r : Lu} {b : Nat} (hX : Lcl X) (h : At w F X wa) (hb : b = wa.heap.size) (H : ∀ w2, At w F (Star (ObjA b (luO r)) X) w2 → KW.run w2) :
    @stJ (wa.alloc (.cells #[.int .i64 0, .int .i64 0, .slice none 0 0] 77 (0, 0))) ⟨b, 0, none⟩ [.int .i64 (r.u.op : Nat), .int .i64 (r.u.makes : Nat), r.nv.1] KW := by
  have h1 : At w F (Star (ObjA b (.cells #[.int .i64 0, .int .i64 0, .slice none 0 0] 77 (0, 0))) X) (wa.alloc (.cells #[.int .i64 0, .int .i64 0, .slice none 0 0] 77 (0, 0))) := by rw [hb]; exact h.alloc _ hX
  exact h1.st hX (by simp) (by simp [r.nv.2]) fun w2 h2 => H w2 (by simpa [luO] using h2)
/-- Sizes of the operators. -/
structure LuOk (UL : List Un) (N M : Nat) : Prop where
  rng : ∀ u ∈ UL, ∀ n ∈ u.needs, n < N
  made : ∀ u ∈ UL, u.makes < N
  op : ∀ u ∈ UL, u.op < M
  nl : ∀ u ∈ UL, u.needs.length ≤ 1000000
  ul : UL.length ≤ 1000000
  nn : N ≤ 4096
/-- A heuristic that can be read. -/
structure HrR (b : Nat) (vars : List Nat) (G C0 : List Nat) (UL : List Un) (vv fv gv cv lv : Value) (rs : List Lu) (w : World) : Prop where
  obj : w.heap[b]? = some (.cells #[vv, fv, .int .i64 (vars.sum : Nat), gv, cv, lv] 73 (0, 0))
  vvw : Vw w vv nE vars
  first : Vw w fv nE (firsts vars vars.length)
  goal : Vw w gv nE G
  costs : Vw w cv nE C0
  list : Vw w lv luE rs
  needs : ∀ r ∈ rs, Vw w r.nv.1 nE r.u.needs
  eu : rs.map (·.u) = UL
theorem HrR.kp {b : Nat} {vars G C0 : List Nat} {UL : List Un} {vv fv gv cv lv : Value} {rs : List Lu} {w w' : World} (h : HrR b vars G C0 UL vv fv gv cv lv rs w) (k : Kp [] w w') : HrR b vars G C0 UL vv fv gv cv lv rs w' :=
  ⟨k.blk h.obj (by simp), h.vvw.kp0 k, h.first.kp0 k, h.goal.kp0 k, h.costs.kp0 k, h.list.kp0 k, fun r hr => (h.needs r hr).kp0 k, h.eu⟩
def cf (l : List Nat) : Nat → Nat := fun i => l.getD i 0
def v0S (S : List Nat) : Nat → Nat := fun f => if f ∈ S then 0 else Inf
theorem v0S_snoc (S : List Nat) (f : Nat) : updN (v0S S) f 0 = v0S (S ++ [f]) := by
  funext g
  unfold v0S
  by_cases h : g = f
  · subst h; simp
  · rw [updN_ne h]; simp [h]
theorem wc_take {UL : List Un} {c : Nat → Nat} {k : Nat} {u : Un} (h : UL[k]? = some u) : wc (UL.take (k + 1)) c = wc (UL.take k) c ++ [{ u with cost := c u.op }] := by
  rw [take_snoc h]; unfold wc; rw [List.map_append]; rfl
structure Vfs (UL : List Un) (c : Nat → Nat) (S : List Nat) (N s0 k : Nat) (ch : Bool) (V : Nat → Nat) : Prop where
  rf : Rf (wc UL c) S V
  clo : ch = false → Clo (wc (UL.take k) c) V
  lt : ch = true → sumV N V < s0
  le : sumV N V ≤ s0
def VmI (b : Nat) (cv ov : Value) (UL : List Un) (c : Nat → Nat) (S : List Nat) (N : Nat) (w : World) (n : Nat) (ρ : Env) (w' : World) : Prop :=
  ρ 0 = .pointer (some ⟨b, 0, none⟩) ∧ ρ 2 = cv ∧ ρ 7 = ov ∧ ∃ V ch, ρ 11 = .bool ch ∧ Rf (wc UL c) S V ∧ (ch = false → Clo (wc UL c) V) ∧ n = (if ch then sumV N V + 1 else 0) ∧ At w [] (Star (OwnA ov 3 1 nE (tabN N V)) Emp) w'
def VmE (b : Nat) (cv ov lv : Value) (UL : List Un) (c : Nat → Nat) (S : List Nat) (N s0 : Nat) (w : World) (k : Nat) (ρ : Env) (w' : World) : Prop :=
  ρ 0 = .pointer (some ⟨b, 0, none⟩) ∧ ρ 2 = cv ∧ ρ 7 = ov ∧ ρ 52 = lv ∧ ∃ V ch, ρ 11 = .bool ch ∧ Vfs UL c S N s0 k ch V ∧ At w [] (Star (OwnA ov 3 1 nE (tabN N V)) Emp) w'
theorem adr_own {α : Type} {enc : α → List Value} {w : World} {v : Value} {E sz : Nat} {l : List α} {k : Nat} (h : Own w v E sz enc l) (hk : k < l.length) : v.adr.add k = ⟨v.blk, k, none⟩ := by
  rcases h with ⟨rfl, h⟩ | ⟨g, cap, cur, junk, rfl, hh, _⟩
  · rw [h] at hk; simp at hk
  · simp [Value.adr, Value.blk, Addr.add]
    try omega
section
variable {w : World} {b : Nat} {vars G C0 : List Nat} {UL : List Un} {vv fv gv cv lv : Value} {rs : List Lu}
set_option maxHeartbeats 1000000 in
theorem values35_walk (sv dv : Value) (s left : List Nat) (hR : HrR b vars G C0 UL vv fv gv cv lv rs w) (hs : Vw w sv nE s) (hst : StN vars s) (hd : Vw w dv nE left) (hdb : ∀ x ∈ left, x ≤ 1048576) (hL : LuOk UL vars.sum left.length) (hvl : vars.length ≤ 64) :
    Calls Try.prog 44 [.pointer (some ⟨b, 0, none⟩), sv, dv].toArray w fun e w' => ∃ x, e = .returned x ∧ ∃ V, IsVal (wc UL (cf left)) (stN vars s vars.length) V ∧ Nw w w' x 3 1 nE (tabN vars.sum V) := by
  refine enter Try.func44 mixed low44 (Nat.le_of_ble_eq_true rfl) ?_
  simp only [L44]
  have hlen := hst.len
  obtain ⟨N, hN⟩ : ∃ N, N = vars.sum := ⟨_, rfl⟩
  have hNb : N ≤ 4096 := by rw [hN]; exact hL.nn
  rw [← hN] at hL
  have hob := hR.obj
  rw [← hN] at hob ⊢
  simp [cell_blk hob]
  refine gd_mk (by omega) ?_
  have h1 := (At.start rfl : At w [] Emp w).made (E := 3) (enc := nE) (x := 0) (z := [.int .i64 0]) (n := N) .emp rfl nE_len (by unfold maxLen; omega)
  rw [upto_zero N 0 (fun _ => Inf)] at h1
  obtain ⟨ov, hov⟩ : ∃ ov, ov = Value.slice (some ⟨w.heap.size, 0, none⟩) N N := ⟨_, rfl⟩
  rw [← hov] at h1
  simp [← hov, h1.own.vw.len, tabN_len]
  refine range_loop (n := N) (by omega) (fun i ρ w' => ρ 0 = .pointer (some ⟨b, 0, none⟩) ∧ ρ 1 = sv ∧ ρ 2 = dv ∧ ρ 7 = ov ∧ At w [] (Star (OwnA ov 3 1 nE (tabN N (upto i (fun _ => Inf) 0))) Emp) w') (by simp) (by simp)
    ⟨by simp, by simp, by simp, by simp, by simpa using h1⟩ (by decide) (fun _ _ _ _ h => by simpa using h) (fun _ _ _ _ h => by simpa using h) ?_ ?_
  · rintro i ρ w2 hi hci hli ⟨g0, g1, g2, g7, h2⟩
    have hiN : (i : Int) < N := by omega
    have htl : (tabN N (upto i (fun _ => Inf) 0)).length = N := tabN_len _ _
    simp (disch := omega) [g0, g1, g2, g7, hci, hli, h2.own.idx, htl]
    refine h2.store1 .emp nE_len nE_one (k := i) (by omega) (x := Inf) rfl fun w3 h3 => ?_
    rw [tabN_set hi, upto_succ] at h3
    simp [g0, g1, g2, g7, hci, hli]
    exact h3
  rintro ρ w2 ⟨g0, g1, g2, g7, h2⟩
  rw [upto_all] at h2
  have e0 : (fun _ : Nat => Inf) = v0S (stN vars s 0) := by funext f; simp [v0S, stN]
  rw [e0] at h2
  have hs2 := hs.kp0 h2.kp
  simp [g1, hs2.len]
  refine range_loop (n := s.length) (by omega) (fun v ρ w' => ρ 0 = .pointer (some ⟨b, 0, none⟩) ∧ ρ 2 = dv ∧ ρ 7 = ov ∧ ρ 29 = sv ∧ At w [] (Star (OwnA ov 3 1 nE (tabN N (v0S (stN vars s v)))) Emp) w') (by simp) (by simp)
    ⟨by simp [g0], by simp [g2], by simp [g7], by simp, by simpa using h2⟩ (by decide) (fun _ _ _ _ h => by simpa using h) (fun _ _ _ _ h => by simpa using h) ?_ ?_
  · clear g0 g1 g2 g7 h2 hs2
    rintro v ρ w3 hv hcv hlv2 ⟨g0, g2, g7, g29, h3⟩
    have hR3 := hR.kp h3.kp
    have hs3 := hs.kp0 h3.kp
    have hob3 := hR3.obj
    obtain ⟨x, hx⟩ : ∃ x, s[v]? = some x := ⟨_, List.getElem?_eq_getElem hv⟩
    have hxd : s.getD v 0 = x := by simp [List.getD, hx]
    have hvlt : v < vars.length := by rw [← hlen]; exact hv
    have hvr := hst.rng v hvlt
    rw [hxd] at hvr
    have hnum := numF_lt (f := (v, x)) (vars := vars) hvlt hvr
    unfold numF at hnum
    obtain ⟨f, hf⟩ : ∃ f, f = psum vars v + x := ⟨_, rfl⟩
    have ef : ((psum vars v : Nat) : Int) + (x : Nat) = (f : Int) := by rw [hf]; simp
    have hfN : f < N := by rw [hf, hN]; exact hnum
    have hfi : (f : Int) < N := by omega
    have efc := nE_cell hR3.first (firsts_at (vars := vars) hvlt)
    have hfl : (firsts vars vars.length).length = vars.length := by simp [firsts]
    have hvi : (v : Int) < s.length := by omega
    have hvi2 : (v : Int) < vars.length := by omega
    have htl : (tabN N (v0S (stN vars s v))).length = N := tabN_len _ _
    simp (disch := omega) [g0, g2, g7, g29, hcv, hlv2, hs3.idx, nE_cell hs3 hx, cell_blk hob3, hR3.first.idx, hfl, efc, wrap_i64, ef, h3.own.idx, htl]
    refine h3.store1 .emp nE_len nE_one (k := f) (by omega) (x := 0) rfl fun w4 h4 => ?_
    have e5 : stN vars s (v + 1) = stN vars s v ++ [f] := by rw [stN_succ, hxd, hf]
    rw [tabN_set hfN, v0S_snoc, ← e5] at h4
    simp [g0, g2, g7, g29, hcv, hlv2]
    exact h4
  clear g0 g1 g2 g7 h2 hs2
  rintro ρ w2 ⟨g0, g2, g7, g29, h2⟩
  rw [hlen] at h2
  obtain ⟨S, hS⟩ : ∃ S, S = stN vars s vars.length := ⟨_, rfl⟩
  rw [← hS] at h2 ⊢
  simp
  refine loop_inv (VmI b dv ov UL (cf left) S N w) (sumV N (v0S S) + 1) ⟨by simp [g0], by simp [g2], by simp [g7], _, true, by simp, Rf.init, by simp, rfl, h2⟩ ?_
  clear g0 g2 g7 g29 h2
  rintro n ρ w3 ⟨g0, g2, g7, V, ch, g11, hRf, hCl, rfl, h3⟩
  cases ch with
  | false =>
    simp [g11, g7]
    exact ⟨V, hRf.fin (hCl rfl), Nw.of h3⟩
  | true =>
    have hR3 := hR.kp h3.kp
    have hob3 := hR3.obj
    have hrl : rs.length = UL.length := by rw [← hR.eu]; simp
    have hul := hL.ul
    obtain ⟨s0, hs0⟩ : ∃ s0, s0 = sumV N V := ⟨_, rfl⟩
    simp [g11, g0, cell_blk hob3, hR3.list.len, hrl]
    refine range_loop (n := UL.length) (by omega) (VmE b dv ov lv UL (cf left) S N s0 w) (by simp) (by simp)
      ⟨by simp [g0], by simp [g2], by simp [g7], by simp, V, false, by simp, ⟨hRf, fun _ => by simp [wc]; exact Clo.nil, by simp, by omega⟩, by simpa using h3⟩ (by decide) (fun _ _ _ _ h => by unfold VmE at h ⊢; simpa using h) (fun _ _ _ _ h => by unfold VmE at h ⊢; simpa using h) ?_ ?_
    rotate_left
    · clear g0 g2 g7 g11 h3
      rintro ρ w4 ⟨g0, g2, g7, g52, V2, ch2, g11, hF, h4⟩
      simp
      have hcl2 := hF.clo
      rw [List.take_length] at hcl2
      refine ⟨_, ?_, g0, g2, g7, V2, ch2, g11, hF.rf, hcl2, rfl, h4⟩
      cases ch2 with
      | false => simp
      | true => have := hF.lt rfl; simp; omega
    clear g0 g2 g7 g11 h3 hR3 hob3 hRf hCl
    rintro k ρ w4 hk hck hlk ⟨g0, g2, g7, g52, V2, ch2, g11, hF, h4⟩
    have hR4 := hR.kp h4.kp
    obtain ⟨r, hr⟩ : ∃ r, rs[k]? = some r := ⟨_, List.getElem?_eq_getElem (by omega)⟩
    have hrm := List.mem_of_getElem? hr
    obtain ⟨u, hu⟩ : ∃ u, u = r.u := ⟨_, rfl⟩
    have huk : UL[k]? = some u := by rw [← hR.eu, List.getElem?_map, hr, hu]; rfl
    have hum := List.mem_of_getElem? huk
    have ec := hR4.list.cells luE_len hr
    simp only [luE] at ec
    obtain ⟨ub, hub⟩ : ∃ ub, ub = w4.heap.size := ⟨_, rfl⟩
    have hki : (k : Int) < rs.length := by omega
    simp (disch := omega) [g52, hck, hlk, hR4.list.idx, ec, ← hub]
    refine st_lu (r := r) (Lcl.own.star .emp) h4 hub fun w5 h5 => ?_
    have oo5 := h5.obj
    unfold luO at oo5
    have h5' := h5.by Imp.sw
    simp [g7, cell_blk oo5, ← hub]
    refine cl_of (highest_walk r.nv.1 ov r.u.needs N V2 ((hR.kp h5.kp).needs r hrm) h5'.own.vw (by rw [← hu]; exact hL.rng u hum) (by rw [← hu]; exact hL.nl u hum)) ?_
    rintro _ w6 ⟨rfl, k6⟩
    rw [← hu]
    have h6 := h5'.kp0 (Lcl.own.star (Lcl.obj.star .emp)) k6
    have oo6 := h6.drop.obj
    unfold luO at oo6
    rw [← hu] at oo6
    have hopM := hL.op u hum
    have hmk := hL.made u hum
    obtain ⟨x, hx⟩ : ∃ x, left[u.op]? = some x := ⟨_, List.getElem?_eq_getElem hopM⟩
    have hxd : cf left u.op = x := by unfold cf; simp [List.getD, hx]
    have hxb := hdb x (List.mem_of_getElem? hx)
    have hd6 := hd.kp0 h6.kp
    have htl : (tabN N V2).length = N := tabN_len _ _
    have cO := h6.own.vw
    have cm := nE_cell cO (tabN_at (g := V2) hmk)
    have hoi : (u.op : Int) < left.length := by omega
    have hmi : (u.makes : Int) < N := by omega
    obtain ⟨gr0, hgr⟩ : ∃ z, z = gr V2 u.needs := ⟨_, rfl⟩
    rw [← hgr]
    have hInf : Inf = 1125899906842624 := rfl
    have hgI : gr0 ≤ Inf := by rw [hgr]; exact gr_le_iff.2 fun f _ => hF.rf.le f
    obtain ⟨sm, hsm⟩ : ∃ sm, sm = gr0 + x := ⟨_, rfl⟩
    have esm : (gr0 : Int) + (x : Int) = (sm : Int) := by omega
    have hwt := wc_take (c := cf left) huk
    have same : (¬ (gr0 < Inf ∧ sm < V2 u.makes)) → Vfs UL (cf left) S N s0 (k + 1) ch2 V2 := fun hno => ⟨hF.rf, fun hc => by
      rw [hwt]
      refine (hF.clo hc).app (Clo.one fun hg => ?_)
      have hg : gr V2 u.needs < Inf := hg
      show V2 u.makes ≤ gr V2 u.needs + cf left u.op
      omega, hF.lt, hF.le⟩
    by_cases s1 : gr0 < Inf
    · have s1' : (gr0 : Int) < 1125899906842624 := by omega
      by_cases s2 : sm < V2 u.makes
      · have s2' : (sm : Int) < (V2 u.makes : Int) := by omega
        simp (disch := omega) [g2, g7, ← hub, cell_blk oo6, hd6.idx, nE_cell hd6 hx, cO.idx, htl, cm, s1', s2', esm, wrap_i64]
        rw [adr_own h6.own (by omega : u.makes < (tabN N V2).length)]
        have hLX : Lcl (Star (ObjA ub (luO r)) Emp) := Lcl.obj.star .emp
        have h7 := (h6.drew (Lcl.own.star hLX)).drew (Lcl.own.star hLX)
        refine h7.store1 hLX nE_len nE_one (k := u.makes) (by omega) (x := sm) rfl fun w8 h8 => ?_
        rw [tabN_set hmk] at h8
        have hst1 := hF.rf.step (mem_wc (c := cf left) hum) (by show gr V2 u.needs + cf left u.op < V2 u.makes; omega)
        have hst2 : Rf (wc UL (cf left)) S (updN V2 u.makes sm) := by
          have e : gr V2 u.needs + cf left u.op = sm := by omega
          have h9 : Rf (wc UL (cf left)) S (updN V2 u.makes (gr V2 u.needs + cf left u.op)) := hst1
          rwa [e] at h9
        have hlt := sumV_upd (V := V2) (x := sm) hmk s2
        have hle := hF.le
        simp [hck, hlk]
        exact ⟨by simp [g0], by simp [g2], by simp [g7], by simp [g52], updN V2 u.makes sm, true, by simp, ⟨hst2, (fun h => by cases h), (fun _ => by omega), by omega⟩, h8.by (Imp.un Imp.dr)⟩
      · have s2' : ¬ (sm : Int) < (V2 u.makes : Int) := by omega
        simp (disch := omega) [g2, g7, ← hub, cell_blk oo6, hd6.idx, nE_cell hd6 hx, cO.idx, htl, cm, s1', s2', esm, wrap_i64, hck, hlk]
        exact ⟨by simp [g0], by simp [g2], by simp [g7], by simp [g52], V2, ch2, by simp [g11], same (by omega), (h6.by (Imp.un Imp.dr)).drew (Lcl.own.star .emp)⟩
    · have s1' : ¬ (gr0 : Int) < 1125899906842624 := by omega
      simp (disch := omega) [g2, g7, ← hub, cell_blk oo6, s1', wrap_i64, hck, hlk]
      exact ⟨by simp [g0], by simp [g2], by simp [g7], by simp [g52], V2, ch2, by simp [g11], same (by omega), (h6.by (Imp.un Imp.dr)).drew (Lcl.own.star .emp)⟩
end
end Go.Proofs.Ytcplpogmbacnfaa
end
section
set_option maxRecDepth 100000
set_option linter.unusedSimpArgs false
set_option linter.unusedVariables false
namespace Go.Proofs.Ytcplpogmbacnfaa
open Go Go.W Go.Tk Go.Rx Go.Lm Go.Maps
def arE (a : Ar) : List Value := [.int .i64 (gI a.fr), .int .i64 (a.to : Nat), .int .i64 (a.op : Nat)]
theorem arE_len (a : Ar) : (arE a).length = 3 := rfl
theorem arE_one (a : Ar) : (arE a).all oneC = true := rfl
def arO (a : Ar) : Obj := .cells #[.int .i64 (gI a.fr), .int .i64 (a.to : Nat), .int .i64 (a.op : Nat)] 120 (0, 0)
theorem st_ar {wa w : World} {F : List Nat} {X : Asr} {KW : Kont World} {a : Ar} {b : Nat} (hX : Lcl X) (h : At w F X wa) (hb : b = wa.heap.size) (H : ∀ w2, At w F (Star (ObjA b (arO a)) X) w2 → KW.run w2) :
    @stJ (wa.alloc (.cells #[.int .i64 0, .int .i64 0, .int .i64 0] 120 (0, 0))) ⟨b, 0, none⟩ [.int .i64 (gI a.fr), .int .i64 (a.to : Nat), .int .i64 (a.op : Nat)] KW := by
  have h1 : At w F (Star (ObjA b (.cells #[.int .i64 0, .int .i64 0, .int .i64 0] 120 (0, 0))) X) (wa.alloc (.cells #[.int .i64 0, .int .i64 0, .int .i64 0] 120 (0, 0))) := by rw [hb]; exact h.alloc _ hX
  exact h1.st hX (by simp) (by simp) fun w2 h2 => H w2 (by simpa [arO] using h2)
theorem arcs_take {UL : List Un} {V : Nat → Nat} {k : Nat} {u : Un} (h : UL[k]? = some u) : arcs (UL.take (k + 1)) V = arcs (UL.take k) V ++ if gr V u.needs < Inf then [arU V u] else [] := by
  rw [take_snoc h]
  unfold arcs
  rw [List.filter_append, List.map_append]
  by_cases hg : gr V u.needs < Inf
  · simp [hg]
  · simp [hg]
theorem arcs_len (UL : List Un) (V : Nat → Nat) : (arcs UL V).length ≤ UL.length := by
  unfold arcs
  rw [List.length_map]
  exact List.length_filter_le _ _
theorem ar_append {w w1 : World} {F : List Nat} {B : Asr} {ov : Value} {l : List Ar} {a : Ar} {KV : Kont (Value × World)} (hB : Lcl B) (h : At w F (Star (OwnA ov 120 3 arE l) B) w1) (hl : l.length ≤ 1000000)
    (H : ∀ v' w2, At w F (Star (OwnA v' 120 3 arE (l ++ [a])) B) w2 → KV.run (v', w2)) :
    @efH Try.prog (Builtin.append_ #[116, 116] 116 [ov, .slice (some ⟨w1.heap.size, 0, none⟩) 1 1].toArray) (w1.alloc (.cells #[.int .i64 (gI a.fr), .int .i64 (a.to : Nat), .int .i64 (a.op : Nat)] 120)) KV := by
  have h4 := h.kp0 (Lcl.own.star hB) ((Kp.refl [] w1).alloc (.cells #[.int .i64 (gI a.fr), .int .i64 (a.to : Nat), .int .i64 (a.op : Nat)] 120))
  refine At.append (xs := [a]) hB h4 arE_len arE_one sl_116 rfl (fun j u hj => ?_) (by omega) (by unfold maxLen; omega) fun v' w5 h5 => H v' w5 h5
  rw [add_none, cell_blk alloc_new]
  simpa [arE] using hj
section
variable {w : World} {b : Nat} {vars G C0 : List Nat} {UL : List Un} {vv fv gv cv lv : Value} {rs : List Lu}
set_option maxHeartbeats 1000000 in
theorem arcs_walk (tv : Value) (V : Nat → Nat) (M : Nat) (hR : HrR b vars G C0 UL vv fv gv cv lv rs w) (ht : Vw w tv nE (tabN vars.sum V)) (hL : LuOk UL vars.sum M) :
    Calls Try.prog 64 [.pointer (some ⟨b, 0, none⟩), tv].toArray w fun e w' => ∃ x, e = .returned x ∧ Nw w w' x 120 3 arE (arcs UL V) := by
  refine enter Try.func64 mixed low64 (Nat.le_of_ble_eq_true rfl) ?_
  simp only [L64]
  have hrl : rs.length = UL.length := by rw [← hR.eu]; simp
  have hul := hL.ul
  have h1 := At.nil (E := 120) (sz := 3) (enc := arE) .emp (At.start rfl : At w [] Emp w)
  simp [cell_blk hR.obj, hR.list.len, hrl]
  refine range_loop (n := UL.length) (by omega) (fun k ρ w' => ρ 1 = tv ∧ ρ 11 = lv ∧ At w [] (Star (OwnA (ρ 5) 120 3 arE (arcs (UL.take k) V)) Emp) w') (by simp) (by simp)
    ⟨by simp, by simp, by simpa [arcs] using h1⟩ (by decide) (fun _ _ _ _ h => by simpa using h) (fun _ _ _ _ h => by simpa using h) ?_ ?_
  rotate_left
  · rintro ρ w2 ⟨g1, g11, h2⟩
    rw [List.take_length] at h2
    simp
    exact Nw.of h2
  rintro k ρ w2 hk hck hlk ⟨g1, g11, h2⟩
  have hR2 := hR.kp h2.kp
  obtain ⟨r, hr⟩ : ∃ r, rs[k]? = some r := ⟨_, List.getElem?_eq_getElem (by omega)⟩
  have hrm := List.mem_of_getElem? hr
  obtain ⟨u, hu⟩ : ∃ u, u = r.u := ⟨_, rfl⟩
  have huk : UL[k]? = some u := by rw [← hR.eu, List.getElem?_map, hr, hu]; rfl
  have hum := List.mem_of_getElem? huk
  have ec := hR2.list.cells luE_len hr
  simp only [luE] at ec
  obtain ⟨ub, hub⟩ : ∃ ub, ub = w2.heap.size := ⟨_, rfl⟩
  have hki : (k : Int) < rs.length := by omega
  simp (disch := omega) [g11, hck, hlk, hR2.list.idx, ec, ← hub]
  refine st_lu (r := r) (Lcl.own.star .emp) h2 hub fun w3 h3 => ?_
  have oo3 := h3.obj
  unfold luO at oo3
  have hrg := hL.rng u hum
  have hnl := hL.nl u hum
  simp [g1, cell_blk oo3, ← hub]
  refine cl_of (highest_walk r.nv.1 tv r.u.needs vars.sum V ((hR.kp h3.kp).needs r hrm) (ht.kp0 h3.kp) (by rw [← hu]; exact hrg) (by rw [← hu]; exact hnl)) ?_
  rintro _ w4 ⟨rfl, k4⟩
  have h4 := h3.kp0 (Lcl.obj.star (Lcl.own.star .emp)) k4
  have hsuc := arcs_take (V := V) huk
  have hal := arcs_len (UL.take k) V
  have htl : (UL.take k).length ≤ UL.length := by rw [List.length_take]; omega
  rw [hu] at hsuc
  by_cases s1 : gr V r.u.needs < Inf
  · have hInf : Inf = 1125899906842624 := rfl
    have s1' : (gr V r.u.needs : Int) < 1125899906842624 := by omega
    rw [if_pos s1] at hsuc
    have h4d := h4.drew (Lcl.obj.star (Lcl.own.star .emp))
    have oo4 := h4d.obj
    unfold luO at oo4
    simp [s1', g1, cell_blk oo4, ← hub]
    refine ⟨?_, ?_, ?_, ?_⟩ <;>
    · refine cl_of (greatest_walk r.nv.1 tv r.u.needs vars.sum V ((hR.kp h4d.kp).needs r hrm) (ht.kp0 h4d.kp) (by rw [← hu]; exact hrg) (by rw [← hu]; exact hnl)) ?_
      rintro _ w5 ⟨rfl, k5⟩
      have h5 := h4d.kp0 (Lcl.obj.star (Lcl.own.star .emp)) k5
      have oo5 := h5.obj
      unfold luO at oo5
      simp [g1, cell_blk oo5, ← hub, rowOf]
      refine ar_append (a := arU V r.u) .emp h5.drop (by omega) fun v' w6 h6 => ?_
      simp [g1, g11, hck, hlk]
      rw [hsuc]
      exact h6
  · have hInf : Inf = 1125899906842624 := rfl
    have s1' : ¬ (gr V r.u.needs : Int) < 1125899906842624 := by omega
    rw [if_neg s1, List.append_nil] at hsuc
    simp [s1', g1, g11, hck, hlk]
    rw [hsuc]
    exact h4.drop
end
end Go.Proofs.Ytcplpogmbacnfaa
end
section
set_option maxRecDepth 100000
set_option linter.unusedSimpArgs false
set_option linter.unusedVariables false
namespace Go.Proofs.Ytcplpogmbacnfaa
open Go Go.W Go.Tk Go.Rx Go.Lm Go.Maps
theorem flat_nE (l : List Nat) : l.flatMap nE = (l.map iN).map (Value.int .i64) := by
  induction l with
  | nil => rfl
  | cons x l ih => rw [List.flatMap_cons, ih]; rfl
theorem put_list {cur : Array Value} {l ys : List Int} {junk : List Value} (hc : cur.toList = l.map (Value.int .i64) ++ junk) (hy : ys.length = l.length) :
    (Go.Sort.putCells (Value.int .i64) 0 ys.toArray cur).toList = ys.map (Value.int .i64) ++ junk := by
  unfold Go.Sort.putCells
  rw [Array.toList_mapIdx, hc]
  apply List.ext_getElem?
  intro i
  rw [List.getElem?_mapIdx]
  by_cases hi : i < ys.length
  · rw [List.getElem?_append_left (by simpa [hy] using hi), List.getElem?_append_left (by simpa using hi), List.getElem?_map, List.getElem?_map, List.getElem?_eq_getElem hi, List.getElem?_eq_getElem (by omega)]
    simp [hi]
  · rw [List.getElem?_append_right (by simp; omega), List.getElem?_append_right (by simp; omega)]
    simp only [List.length_map, hy]
    cases junk[i - l.length]? with
    | none => rfl
    | some v =>
      simp
      intro h
      omega
theorem kp_put {w w' : World} {g n : Nat} {f : Array Value → Array Value} {os : Array Obj} (hw : w' = Go.Sort.grow (Go.Sort.mapBlock (Go.Sort.ahead w n) g f) os) : Kp [g] w w' := by
  subst hw
  refine ⟨rfl, rfl, rfl, ?_, fun i hi hn => ?_⟩
  · show w.heap.size ≤ ((w.heap.modify g _) ++ os).size
    simp
  · show ((w.heap.modify g (Go.Sort.onCells f)) ++ os)[i]? = w.heap[i]?
    rw [Array.getElem?_append_left (by simpa using hi), Array.getElem?_modify, if_neg (by intro e; exact hn (by simp [e]))]
theorem blk_put {w w' : World} {g n E : Nat} {f : Array Value → Array Value} {os : Array Obj} {cur : Array Value} (hb : w.heap[g]? = some (.cells cur E (0, 0))) (hw : w' = Go.Sort.grow (Go.Sort.mapBlock (Go.Sort.ahead w n) g f) os) : w'.heap[g]? = some (.cells (f cur) E (0, 0)) := by
  subst hw
  show ((w.heap.modify g (Go.Sort.onCells f)) ++ os)[g]? = _
  have hg := lt_of_blk hb
  rw [Array.getElem?_append_left (by simpa using hg), Array.getElem?_modify, if_pos rfl, hb]
  rfl
/-- slices.Sort: the row's own numbers, in order. -/
theorem sort_spec {w : World} {v : Value} {l : List Nat} (h : Own w v 3 1 nE l) (hl : l.length ≤ 1000000) :
    Calls Try.prog 33 [v].toArray w fun e w' => ∃ x, e = .returned x ∧ x = .tuple #[] ∧ Kp v.own w w' ∧ ∃ l', Own w' v 3 1 nE l' ∧ (∀ x, x ∈ l' ↔ x ∈ l) ∧ l'.Pairwise (· ≤ ·) ∧ l'.length = l.length := by
  rcases h with ⟨rfl, rfl⟩ | ⟨g, cap, cur, junk, rfl, hb, hc, hj, hle, hm⟩
  · refine Calls.mono (AnyM.slices_Sort_int_none Try.sort33 none 0 w) ?_
    rintro e w' ⟨rfl, rfl⟩
    exact ⟨_, rfl, rfl, Kp.refl _ _, [], Own.nil _ _ _ _, by simp, by simp, rfl⟩
  · rw [flat_nE] at hc
    obtain ⟨zs, hzs⟩ : ∃ zs, zs = l.map iN := ⟨_, rfl⟩
    rw [← hzs] at hc
    have hzl : zs.length = l.length := by rw [hzs]; simp
    have hH : Go.Sort.Holds (Value.int .i64) w g 0 zs.toArray := by
      refine holds_of_block_i hb ?_
      rw [hc, List.take_append_of_le_length (by simp), List.take_of_length_le (by simp)]
    rw [← hzl]
    refine Calls.mono (AnyM.slices_Sort_int Try.sort33 g 0 cap zs w hH (lt_of_blk hb) (by omega)) ?_
    rintro e w' ⟨rfl, n, os, hw⟩
    obtain ⟨ys, hys⟩ : ∃ ys, ys = zs.mergeSort fun x y => decide (x ≤ y) := ⟨_, rfl⟩
    rw [← hys] at hw
    have hperm : ys.Perm zs := by rw [hys]; exact List.mergeSort_perm _ _
    have hpw : ys.Pairwise fun x y => x ≤ y := by
      have := List.pairwise_mergeSort (le := fun x y : Int => decide (x ≤ y)) (fun a b c h1 h2 => by simp at h1 h2 ⊢; omega) (fun a b => by simp; omega) zs
      rw [hys]
      exact this.imp fun h => by simpa using h
    have hyl : ys.length = zs.length := hperm.length_eq
    obtain ⟨l', hl', hl2⟩ := list_nat (f := iN) (p := fun n => n ∈ l) (l := ys) fun a ha => by
      have := hperm.mem_iff.1 ha
      rw [hzs] at this
      obtain ⟨x, hx, rfl⟩ := List.mem_map.1 this
      exact ⟨x, rfl, hx⟩
    have hw2 : w' = Go.Sort.grow (Go.Sort.mapBlock (Go.Sort.ahead w n) g (Go.Sort.putCells (Value.int .i64) 0 ys.toArray)) os := hw
    have hl'l : l'.length = l.length := by
      have := congrArg List.length hl'
      simp at this; omega
    refine ⟨_, rfl, rfl, kp_put hw2, l', ?_, fun x => ⟨fun hx => hl2 x hx, fun hx => ?_⟩, ?_, hl'l.trans hzl.symm⟩
    · refine .inr ⟨g, cap, _, junk, by rw [hl'l, hzl], blk_put hb hw2, ?_, by rw [hl'l]; exact hj, by omega, hm⟩
      rw [put_list hc hyl, flat_nE, hl']
    · have : iN x ∈ ys := hperm.mem_iff.2 (by rw [hzs]; exact List.mem_map.2 ⟨x, hx, rfl⟩)
      rw [← hl'] at this
      obtain ⟨y, hy, e⟩ := List.mem_map.1 this
      have : y = x := by unfold iN at e; omega
      rw [← this]; exact hy
    · rw [← hl', List.pairwise_map] at hpw
      exact hpw.imp fun h => by unfold iN at h; omega
theorem cpt_ok {d : Array Int} (hd : ∀ i j, i ≤ j → j < d.size → d[i]! ≤ d[j]!) : ∀ m, m ≤ d.size → (Go.Lib.compactUpTo d m).Pairwise (· < ·) ∧ ∀ x, x ∈ Go.Lib.compactUpTo d m ↔ ∃ j, j < m ∧ d[j]! = x
  | 0, _ => by simp [Go.Lib.compactUpTo]
  | m + 1, hm => by
    obtain ⟨h1, h2⟩ := cpt_ok hd m (by omega)
    rw [Go.Lib.compactUpTo_succ]
    by_cases hk : Go.Lib.keeps d m = true
    · rw [if_pos hk]
      unfold Go.Lib.keeps at hk
      simp only [decide_eq_true_eq] at hk
      refine ⟨List.pairwise_append.2 ⟨h1, by simp, fun a ha b hb => ?_⟩, fun x => ?_⟩
      · simp at hb; subst hb
        obtain ⟨j, hj, rfl⟩ := (h2 a).1 ha
        rcases hk with hk | hk
        · omega
        · have e1 := hd j (m - 1) (by omega) (by omega)
          have e2 := hd (m - 1) m (by omega) (by omega)
          omega
      · rw [List.mem_append, h2]
        constructor
        · rintro (⟨j, hj, e⟩ | e)
          · exact ⟨j, by omega, e⟩
          · simp at e; exact ⟨m, by omega, e.symm⟩
        · rintro ⟨j, hj, e⟩
          by_cases hjm : j = m
          · subst hjm; right; simp [e]
          · exact .inl ⟨j, by omega, e⟩
    · rw [if_neg hk, List.append_nil]
      refine ⟨h1, fun x => ?_⟩
      rw [h2]
      unfold Go.Lib.keeps at hk
      simp only [decide_eq_true_eq, not_or, Classical.not_not] at hk
      constructor
      · rintro ⟨j, hj, e⟩; exact ⟨j, by omega, e⟩
      · rintro ⟨j, hj, e⟩
        by_cases hjm : j = m
        · subst hjm; exact ⟨j - 1, by omega, by rw [← hk.2]; exact e⟩
        · exact ⟨j, by omega, e⟩
/-- slices.Compact, of an ordered row: its numbers, each once. -/
theorem compact_spec {w : World} {v : Value} {l : List Nat} (h : Own w v 3 1 nE l) (hp : l.Pairwise (· ≤ ·)) (hl : l.length ≤ 1000000) :
    Calls Try.prog 34 [v].toArray w fun e w' => ∃ x, e = .returned x ∧ Kp v.own w w' ∧ x.own = v.own ∧ ∃ l', Own w' x 3 1 nE l' ∧ (∀ x, x ∈ l' ↔ x ∈ l) ∧ l'.Pairwise (· < ·) ∧ l'.length ≤ l.length := by
  rcases h with ⟨rfl, rfl⟩ | ⟨g, cap, cur, junk, rfl, hb, hc, hj, hle, hm⟩
  · refine Calls.mono (Any.slices_Compact_int_empty Try.compact34 none 0 w) ?_
    rintro e w' ⟨rfl, rfl⟩
    exact ⟨_, rfl, Kp.refl _ _, rfl, [], Own.nil _ _ _ _, by simp, by simp, by simp⟩
  · rw [flat_nE] at hc
    obtain ⟨zs, hzs⟩ : ∃ zs, zs = l.map iN := ⟨_, rfl⟩
    rw [← hzs] at hc
    have hzl : zs.length = l.length := by rw [hzs]; simp
    have hH : Go.Sort.Holds (Value.int .i64) w g 0 zs.toArray := by
      refine holds_of_block_i hb ?_
      rw [hc, List.take_append_of_le_length (by simp), List.take_of_length_le (by simp)]
    have hpz : zs.Pairwise (· ≤ ·) := by
      rw [hzs, List.pairwise_map]
      exact hp.imp fun h => by unfold iN; omega
    rw [← hzl]
    refine Calls.mono (Any.slices_Compact_int Try.compact34 g 0 cap zs w hH (by omega) (by omega)) ?_
    rintro e w' ⟨rfl, q, hw⟩
    have hok := cpt_ok (d := zs.toArray) (fun i j hij hjs => by
      have hjs : j < zs.length := by simpa using hjs
      by_cases e : i = j
      · subst e; exact Int.le_refl _
      · have := List.pairwise_iff_getElem.1 hpz i j (by omega) hjs (by omega)
        simpa [getElem!_pos, hjs, show i < zs.length by omega] using this) zs.length (by simp)
    obtain ⟨ys, hys⟩ : ∃ ys, ys = Go.Lib.compact zs := ⟨_, rfl⟩
    have hys2 : ys = Go.Lib.compactUpTo zs.toArray zs.length := hys
    rw [← hys2] at hok
    have hyl : ys.length ≤ zs.length := by
      rw [hys2]
      unfold Go.Lib.compactUpTo
      rw [List.length_map]
      refine Nat.le_trans (List.length_filter_le _ _) ?_
      simp
    rw [← hys] at hw ⊢
    have hmem : ∀ x, x ∈ ys ↔ x ∈ zs := fun x => by
      rw [hok.2 x]
      constructor
      · rintro ⟨j, hj, rfl⟩
        simp [getElem!_pos, hj]
      · intro hx
        obtain ⟨j, hj, rfl⟩ := List.getElem_of_mem hx
        exact ⟨j, hj, by simp [getElem!_pos, hj]⟩
    obtain ⟨l', hl', hl2⟩ := list_nat (f := iN) (p := fun n => n ∈ l) (l := ys) fun a ha => by
      have := (hmem a).1 ha
      rw [hzs] at this
      obtain ⟨x, hx, rfl⟩ := List.mem_map.1 this
      exact ⟨x, rfl, hx⟩
    have hl'l : l'.length = ys.length := by rw [← hl']; simp
    have hw2 : w' = Go.Sort.grow (Go.Sort.mapBlock (Go.Sort.ahead w q) g (Go.Sort.putCells (Value.int .i64) 0 (ys ++ List.replicate (zs.length - ys.length) 0).toArray)) #[] := by rw [Go.Sort.grow_empty]; exact hw
    refine ⟨_, rfl, kp_put hw2, rfl, l', ?_, fun x => ⟨fun hx => hl2 x hx, fun hx => ?_⟩, ?_, by omega⟩
    · refine .inr ⟨g, cap, _, (List.replicate (zs.length - ys.length) (0 : Int)).map (Value.int .i64) ++ junk, by rw [hl'l], blk_put hb hw2, ?_, by simp; omega, by omega, hm⟩
      rw [put_list hc (by simp; omega), flat_nE, hl', List.map_append, List.append_assoc]
    · have : iN x ∈ ys := (hmem _).2 (by rw [hzs]; exact List.mem_map.2 ⟨x, hx, rfl⟩)
      rw [← hl'] at this
      obtain ⟨y, hy, e⟩ := List.mem_map.1 this
      have : y = x := by unfold iN at e; omega
      rw [← this]; exact hy
    · have := hok.1
      rw [← hl', List.pairwise_map] at this
      exact this.imp fun h => by unfold iN at h; omega
end Go.Proofs.Ytcplpogmbacnfaa
end
section
set_option maxRecDepth 100000
set_option linter.unusedSimpArgs false
set_option linter.unusedVariables false
namespace Go.Proofs.Ytcplpogmbacnfaa
open Go Go.W Go.Tk Go.Rx Go.Lm Go.Maps
def nfl (t : Nat → Bool) : Nat → Nat := fun i => if t i = true then 0 else 1
theorem nfl_upd {t : Nat → Bool} {f N : Nat} (hf : f < N) (h : t f = false) : sumV N (nfl (updN t f true)) < sumV N (nfl t) := by
  have e : nfl (updN t f true) = updN (nfl t) f 0 := by
    funext i
    by_cases hi : i = f
    · subst hi; simp [nfl]
    · rw [updN_ne hi]; simp [nfl, updN_ne hi]
  rw [e]
  exact sumV_upd hf (by simp [nfl, h])
/-- In the search for the goal zone. -/
structure Tg (A : List Ar) (c : Nat → Nat) (g : Nat) (t : Nat → Bool) : Prop where
  base : t g = true
  snd : ∀ f, t f = true → TZ A c g f
def TgC (B : List Ar) (c : Nat → Nat) (t : Nat → Bool) : Prop := ∀ a ∈ B, ∀ f, a.fr = some f → c a.op = 0 → t a.to = true → t f = true
theorem Tg.fin {A : List Ar} {c : Nat → Nat} {g : Nat} {t : Nat → Bool} (h : Tg A c g t) (hc : TgC A c t) (f : Nat) : t f = true ↔ TZ A c g f := by
  refine ⟨h.snd f, fun ht => ?_⟩
  induction ht with
  | base => exact h.base
  | step ha hf hc0 ht ih => exact hc _ ha _ hf hc0 ih
theorem Tg.step {A : List Ar} {c : Nat → Nat} {g : Nat} {t : Nat → Bool} (h : Tg A c g t) {a : Ar} {f : Nat} (ha : a ∈ A) (hf : a.fr = some f) (hc : c a.op = 0) (ht : t a.to = true) : Tg A c g (updN t f true) := {
  base := by
    by_cases e : g = f
    · subst e; simp
    · rw [updN_ne e]; exact h.base
  snd := fun x hx => by
    by_cases e : x = f
    · subst e; exact .step ha hf hc (h.snd _ ht)
    · rw [updN_ne e] at hx; exact h.snd x hx }
/-- In the search for the start zone. -/
structure Sg (A : List Ar) (S0 : List Nat) (T : Nat → Prop) (t : Nat → Bool) : Prop where
  base : ∀ f ∈ S0, t f = true
  snd : ∀ f, t f = true → SZ A S0 T f
def bgB (t : Nat → Bool) (a : Ar) : Bool := match a.fr with | none => true | some f => t f
def SgC (B : List Ar) (T t : Nat → Bool) : Prop := ∀ a ∈ B, bgB t a = true → T a.to = false → t a.to = true
theorem Sg.fin {A : List Ar} {S0 : List Nat} {T : Nat → Prop} {tb t : Nat → Bool} (h : Sg A S0 T t) (hT : ∀ f, tb f = true ↔ T f) (hc : SgC A tb t) (f : Nat) : t f = true ↔ SZ A S0 T f := by
  have hT2 : ∀ {f}, ¬ T f → tb f = false := fun {f} hn => by
    cases h : tb f with
    | false => rfl
    | true => exact absurd ((hT f).1 h) hn
  refine ⟨h.snd f, fun ht => ?_⟩
  induction ht with
  | base hf => exact h.base _ hf
  | start ha hf ht => exact hc _ ha (by unfold bgB; rw [hf]) (hT2 ht)
  | step ha hf hs ht ih => exact hc _ ha (by unfold bgB; rw [hf]; exact ih) (hT2 ht)
theorem Sg.step {A : List Ar} {S0 : List Nat} {T : Nat → Prop} {t : Nat → Bool} (h : Sg A S0 T t) {a : Ar} (ha : a ∈ A) (hb : bgB t a = true) (ht : ¬ T a.to) : Sg A S0 T (updN t a.to true) := {
  base := fun f hf => by
    by_cases e : f = a.to
    · subst e; simp
    · rw [updN_ne e]; exact h.base f hf
  snd := fun x hx => by
    by_cases e : x = a.to
    · subst e
      unfold bgB at hb
      cases hfr : a.fr with
      | none => exact .start ha hfr ht
      | some f => rw [hfr] at hb; exact .step ha hfr (h.snd f hb) ht
    · rw [updN_ne e] at hx; exact h.snd x hx }
theorem bg_iff {A : List Ar} {S0 : List Nat} {T : Nat → Prop} {t : Nat → Bool} (hS : ∀ f, t f = true ↔ SZ A S0 T f) (a : Ar) : bgB t a = true ↔ Beg A S0 T a := by
  unfold bgB Beg
  cases hfr : a.fr with
  | none => simp
  | some f => simp [hS]
/-- The operators that cross, by the first arcs. -/
def crK (A : List Ar) (tb t : Nat → Bool) : List Nat := (A.filter fun a => bgB t a && tb a.to).map (·.op)
theorem cr_take {A : List Ar} {tb t : Nat → Bool} {k : Nat} {a : Ar} (h : A[k]? = some a) : crK (A.take (k + 1)) tb t = crK (A.take k) tb t ++ if (bgB t a && tb a.to) = true then [a.op] else [] := by
  rw [take_snoc h]
  unfold crK
  rw [List.filter_append, List.map_append]
  by_cases hg : (bgB t a && tb a.to) = true
  · rw [if_pos hg]; simp [hg]
  · rw [if_neg hg]; simp [hg]
theorem cr_len (A : List Ar) (tb t : Nat → Bool) : (crK A tb t).length ≤ A.length := by
  unfold crK; rw [List.length_map]; exact List.length_filter_le _ _
theorem cr_mem {A : List Ar} {c : Nat → Nat} {S0 : List Nat} {g : Nat} {tb t : Nat → Bool} (hT : ∀ f, tb f = true ↔ TZ A c g f) (hS : ∀ f, t f = true ↔ SZ A S0 (TZ A c g) f) (op : Nat) : op ∈ crK A tb t ↔ XO A c S0 g op := by
  unfold crK XO
  rw [List.mem_map]
  constructor
  · rintro ⟨a, ha, rfl⟩
    rw [List.mem_filter, Bool.and_eq_true, bg_iff hS, hT] at ha
    exact ⟨a, ha.1, rfl, ha.2.1, ha.2.2⟩
  · rintro ⟨a, ha, rfl, h1, h2⟩
    exact ⟨a, by rw [List.mem_filter, Bool.and_eq_true, bg_iff hS, hT]; exact ⟨ha, h1, h2⟩, rfl⟩
def fB : Nat → Bool := fun _ => false
theorem tabB_false (N : Nat) : List.replicate N false = tabB N fB := by
  unfold tabB fB
  apply List.ext_getElem
  · simp
  · intro i h1 h2; simp
def setS (S : List Nat) : Nat → Bool := fun f => decide (f ∈ S)
theorem setS_snoc (S : List Nat) (f : Nat) : updN (setS S) f true = setS (S ++ [f]) := by
  funext x
  by_cases e : x = f
  · subst e; simp [setS]
  · rw [updN_ne e]; simp [setS, e]
/-- Sizes of arcs. -/
structure ArOk (A : List Ar) (N M : Nat) : Prop where
  to : ∀ a ∈ A, a.to < N
  op : ∀ a ∈ A, a.op < M
  fr : ∀ a ∈ A, ∀ f, a.fr = some f → f < N
theorem arcs_ok {UL : List Un} {V : Nat → Nat} {N M : Nat} (h : LuOk UL N M) : ArOk (arcs UL V) N M := {
  to := fun a ha => by
    obtain ⟨u, hu, _, rfl⟩ := arcs_mem ha
    exact h.made u hu
  op := fun a ha => by
    obtain ⟨u, hu, _, rfl⟩ := arcs_mem ha
    exact h.op u hu
  fr := fun a ha f hf => by
    obtain ⟨u, hu, _, rfl⟩ := arcs_mem ha
    exact h.rng u hu f (gst_some hf).1 }
def TgI (av dv tgv : Value) (A : List Ar) (c : Nat → Nat) (g N : Nat) (b : Nat) (sv : Value) (w : World) (n : Nat) (ρ : Env) (w' : World) : Prop :=
  ρ 0 = .pointer (some ⟨b, 0, none⟩) ∧ ρ 1 = sv ∧ ρ 2 = dv ∧ ρ 9 = av ∧ ρ 10 = tgv ∧ ∃ t ch, ρ 11 = .bool ch ∧ Tg A c g t ∧ (ch = false → TgC A c t) ∧ n = (if ch then sumV N (nfl t) + 1 else 0) ∧ At w [] (Star (OwnA tgv 4 1 bE (tabB N t)) (Star (OwnA av 120 3 arE A) Emp)) w'
structure Tgf (A : List Ar) (c : Nat → Nat) (g N s0 k : Nat) (ch : Bool) (t : Nat → Bool) : Prop where
  tg : Tg A c g t
  clo : ch = false → TgC (A.take k) c t
  lt : ch = true → sumV N (nfl t) < s0
  le : sumV N (nfl t) ≤ s0
def TgE (av dv tgv : Value) (A : List Ar) (c : Nat → Nat) (g N s0 : Nat) (b : Nat) (sv : Value) (w : World) (k : Nat) (ρ : Env) (w' : World) : Prop :=
  ρ 0 = .pointer (some ⟨b, 0, none⟩) ∧ ρ 1 = sv ∧ ρ 2 = dv ∧ ρ 9 = av ∧ ρ 10 = tgv ∧ ρ 40 = av ∧ ∃ t ch, ρ 11 = .bool ch ∧ Tgf A c g N s0 k ch t ∧ At w [] (Star (OwnA tgv 4 1 bE (tabB N t)) (Star (OwnA av 120 3 arE A) Emp)) w'
def SgI (av tgv sgv : Value) (A : List Ar) (S0 : List Nat) (T : Nat → Prop) (tb : Nat → Bool) (N : Nat) (w : World) (n : Nat) (ρ : Env) (w' : World) : Prop :=
  ρ 9 = av ∧ ρ 10 = tgv ∧ ρ 14 = sgv ∧ ∃ t ch, ρ 17 = .bool ch ∧ Sg A S0 T t ∧ (ch = false → SgC A tb t) ∧ n = (if ch then sumV N (nfl t) + 1 else 0) ∧ At w [] (Star (OwnA sgv 4 1 bE (tabB N t)) (Star (OwnA tgv 4 1 bE (tabB N tb)) (Star (OwnA av 120 3 arE A) Emp))) w'
structure Sgf (A : List Ar) (S0 : List Nat) (T : Nat → Prop) (tb : Nat → Bool) (N s0 k : Nat) (ch : Bool) (t : Nat → Bool) : Prop where
  sg : Sg A S0 T t
  clo : ch = false → SgC (A.take k) tb t
  lt : ch = true → sumV N (nfl t) < s0
  le : sumV N (nfl t) ≤ s0
def SgE (av tgv sgv : Value) (A : List Ar) (S0 : List Nat) (T : Nat → Prop) (tb : Nat → Bool) (N s0 : Nat) (w : World) (k : Nat) (ρ : Env) (w' : World) : Prop :=
  ρ 9 = av ∧ ρ 10 = tgv ∧ ρ 14 = sgv ∧ ρ 102 = av ∧ ∃ t ch, ρ 17 = .bool ch ∧ Sgf A S0 T tb N s0 k ch t ∧ At w [] (Star (OwnA sgv 4 1 bE (tabB N t)) (Star (OwnA tgv 4 1 bE (tabB N tb)) (Star (OwnA av 120 3 arE A) Emp))) w'
end Go.Proofs.Ytcplpogmbacnfaa
end
