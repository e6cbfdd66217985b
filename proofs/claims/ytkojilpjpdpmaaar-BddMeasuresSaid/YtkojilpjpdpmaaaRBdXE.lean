/-
  A part of the proofs of this seat's statements (BdXE); no conditions beyond those each theorem names.
-/
import Derived.Test.YtkojilpjpdpmaaaRBdXD
import Derived.Test.YtkojilpjpdpmaaaRBdSz
set_option maxRecDepth 100000
set_option linter.unusedSimpArgs false
set_option linter.unusedVariables false
namespace Go.Proofs.YtkojilpjpdpmaaaR
open Go Go.W Go.Bd Go.Maps
/-! ### The size of a table, level by level -/
def lvE (n : Nat) (p : Pr) : List Value := [.int .i64 (n : Nat), p.u.1]
theorem lvE_len (n : Nat) (p : Pr) : (lvE n p).length = 2 := rfl
theorem lvE_one (n : Nat) (p : Pr) : (lvE n p).all oneC = true := by simp [lvE, p.u.2]
/-- The tables of a list, among slices. -/
def InT (n : Nat) (l : List Pr) (ts : List (Cell1 × List Bool)) : Prop := ∀ p ∈ l, (p.u, tab n p.f) ∈ ts
/-- A level: its list, and the tables in it. -/
def LvA (n : Nat) (v : Value) (l : List Pr) (B : Asr) : Asr := ExA fun ts : {ts : List (Cell1 × List Bool) // InT n l ts} => Star (OwnA v 51 2 (lvE n) l) (Star (VwsA bv ts.1) B)
theorem LvA.lcl {n : Nat} {v : Value} {l : List Pr} {B : Asr} (hB : Lcl B) : Lcl (LvA n v l B) := Lcl.ex fun _ => Lcl.own.star (Lcl.vws.star hB)
theorem any_addR {n : Nat} {ns : Ns} (w : Wf n ns) {l : List Pr} (hm : ∀ p ∈ l, Mean n ns p.ref p.f) {q : Pr} (hq : Mean n ns q.ref q.f) : l.any (fun p => decide (tab n p.f = tab n q.f)) = decide (q.ref ∈ l.map (·.ref)) := by
  rw [Bool.eq_iff_iff, List.any_eq_true, decide_eq_true_eq, List.mem_map]
  constructor
  · rintro ⟨p, hp, h⟩
    exact ⟨p, hp, ((hm p hp).eq_iff hq w).2 (of_decide_eq_true h)⟩
  · rintro ⟨p, hp, h⟩
    exact ⟨p, hp, decide_eq_true (((hm p hp).eq_iff hq w).1 h)⟩
/-- What is known of a level. -/
structure LvS (n : Nat) (ns : Ns) (l : List Pr) (rs : List Nat) : Prop where
  mean : ∀ p ∈ l, Mean n ns p.ref p.f
  refs : l.map (·.ref) = rs
theorem LvS.len {n : Nat} {ns : Ns} {l : List Pr} {rs : List Nat} (h : LvS n ns l rs) : l.length = rs.length := by rw [← h.refs]; simp
theorem LvS.snoc {n : Nat} {ns : Ns} {l : List Pr} {rs : List Nat} {q : Pr} (h : LvS n ns l rs) (hq : Mean n ns q.ref q.f) (hn : q.ref ∉ rs) : LvS n ns (l ++ [q]) (addR rs q.ref) := by
  refine ⟨fun p hp => ?_, ?_⟩
  · rcases List.mem_append.1 hp with h1 | h1
    · exact h.mean p h1
    · simp at h1; subst h1; exact hq
  · unfold addR
    rw [if_neg hn, List.map_append, h.refs]
    rfl
theorem LvS.known {n : Nat} {ns : Ns} {l : List Pr} {rs : List Nat} {r : Nat} (h : LvS n ns l rs) (hn : r ∈ rs) : LvS n ns l (addR rs r) := by
  unfold addR; rw [if_pos hn]; exact h
theorem atR_take {n v : Nat} {ns : Ns} {rs : List Nat} {k : Nat} (hk : k < rs.length) : ((rs.take (k + 1)).filter fun y => tv n ns y == v).length = ((rs.take k).filter fun y => tv n ns y == v).length + if tv n ns rs[k] == v then 1 else 0 := by
  rw [List.take_add_one, List.getElem?_eq_getElem hk, List.filter_append, List.length_append]
  cases h : tv n ns rs[k] == v <;> simp [h]
/-- The state of the next level. -/
def NxS (n : Nat) (ns : Ns) (w4 : World) (B : Asr) (sub : List (Cell1 × List Bool)) (sv : Value) (rs : List Nat) (w' : World) : Prop :=
  ∃ nx ts, LvS n ns nx rs ∧ InT n nx ts ∧ (∀ t ∈ sub, t ∈ ts) ∧ At w4 [] (Star (OwnA sv 51 2 (lvE n) nx) (Star (VwsA bv ts) B)) w'
theorem addRs_len : ∀ (l rs : List Nat), (l.foldl addR rs).length ≤ rs.length + l.length
  | [], rs => by simp
  | y :: l, rs => by
    have := addRs_len l (addR rs y)
    have : (addR rs y).length ≤ rs.length + 1 := by
      unfold addR
      split <;> simp
    rw [List.foldl_cons, List.length_cons]
    omega
/-- The two halves of a function. -/
def hlf (n : Nat) (ns : Ns) (v : Nat) (p : Pr) (u0 u1 : Cell1) : List Pr := [⟨lo n ns v p.ref, u0, resF p.f v false⟩, ⟨hi n ns v p.ref, u1, resF p.f v true⟩]
set_option maxHeartbeats 4000000 in
theorem rSize_spec {n x : Nat} {ns : Ns} {F : (Nat → Bool) → Bool} (w : World) (fvv : Value) (hn : n ≤ 6) (hw : Wf n ns) (hm : Mean n ns x F) (ho : oneC fvv = true) (hF : Vw w fvv bv (tab n F)) :
    Calls Try.prog 37 [tbV n fvv].toArray w fun e w' => ∃ r, e = .returned r ∧ r = .int .i64 (szR n ns x n : Nat) ∧ Kp [] w w' := by
  refine enter Try.func37 mixed low37 (Nat.le_of_ble_eq_true rfl) ?_
  simp only [L37]
  have h0 : At w [] Emp w := At.start rfl
  have h1 : At w [] (Star (ObjA w.heap.size (tbO n fvv)) Emp) _ := h0.alloc (tbO n fvv) Lcl.emp
  obtain ⟨b, hb⟩ : ∃ b, b = w.heap.size := ⟨_, rfl⟩
  rw [← hb] at h1
  have hLB : Lcl (Star (ObjA b (tbO n fvv)) Emp) := .star .obj .emp
  obtain ⟨w1, hw1⟩ : ∃ w1, w1 = w.alloc (tbO n fvv) := ⟨_, rfl⟩
  rw [← hw1] at h1
  have hw1' : w.alloc (.cells #[.int .i64 (n : Nat), fvv] 51 (0, 0)) = w1 := by rw [hw1]; rfl
  have hT1 := hF.kp0 h1.kp
  have vw0 : At w [] (Star (VwA fvv bv (tab n F)) Emp) w1 → True := fun _ => trivial
  have h2 := h1.lit (xs := [(⟨x, ⟨fvv, ho⟩, F⟩ : Pr)]) (enc := lvE n) (E := 51) (sz := 2) (cs := #[.int .i64 (n : Nat), fvv]) (m := 1) hLB (by simp [lvE]) (lvE_len n) (by simp [maxLen]) rfl
  obtain ⟨w2, hw2⟩ : ∃ w2, w2 = w1.alloc (.cells #[.int .i64 (n : Nat), fvv] 51) := ⟨_, rfl⟩
  obtain ⟨sl, hsl⟩ : ∃ sl, sl = Value.slice (some ⟨w1.heap.size, 0, none⟩) 1 1 := ⟨_, rfl⟩
  rw [← hw2, ← hsl] at h2
  simp [tbV, ← hb, hw1', rd_tb h1.obj, rd_tb0 h1.obj, rowOf, ho, ← hw2, ← hsl, rd_tb0 h2.drop.obj]
  have hV2 : ∀ p ∈ [(⟨x, ⟨fvv, ho⟩, F⟩ : Pr)], Vw w2 p.u.1 bv (tab n p.f) := fun p hp => by
    simp at hp; subst hp
    exact hF.kp0 h2.kp
  refine range_loop (n := n) (by omega) (fun v ρ w' => ρ 1 = .pointer (some ⟨b, 0, none⟩) ∧ ρ 4 = .int .i64 (szR n ns x v : Nat) ∧ (∃ l, LvS n ns l (levR n ns x v) ∧ (∀ p ∈ l, Vw w' p.u.1 bv (tab n p.f)) ∧ At w [] (Star (OwnA (ρ 3) 51 2 (lvE n) l) (Star (ObjA b (tbO n fvv)) Emp)) w')) (by simp) (by simp)
    ⟨by simp, by simp [szR], ⟨_, ⟨fun p hp => by simp at hp; subst hp; exact hm, rfl⟩, hV2, by simpa using h2⟩⟩ (by decide) (fun _ _ _ _ h => by simpa using h) (fun _ _ _ _ h => by simpa using h) ?_ ?_
  rotate_left
  · rintro ρ w4 ⟨g1, g4, l, hS, hV, h4⟩
    simp [g4]
    exact h4.kp
  rintro v ρ w4 hv hc hlim ⟨g1, g4, l, hS, hV, h4⟩
  have hlen := hS.len
  have hll := levR_len (n := n) (ns := ns) (f := x) v
  have h26 := two_mono (show v ≤ 5 by omega)
  have hok := levR_ok hw hm.ref v (by omega)
  obtain ⟨lvv, hlvv⟩ : ∃ lvv, lvv = ρ 3 := ⟨_, rfl⟩
  rw [← hlvv] at h4
  have hVl := h4.own.vw
  have hN0 : NxS n ns w4 Emp [] (.slice none 0 0) (((levR n ns x v).take 0).foldl (stR n ns v) []) w4 := ⟨[], [], ⟨by simp, rfl⟩, fun p hp => (by cases hp), by simp, At.nil (Lcl.vws.star .emp) (VwsA.nil .emp (At.start rfl))⟩
  simp [hc, hlim, ← hlvv, hVl.len]
  refine range_loop (n := l.length) (by omega) (fun j ρ w' => ρ 1 = .pointer (some ⟨b, 0, none⟩) ∧ ρ 5 = .int .i64 (v : Nat) ∧ ρ 17 = .int .i64 (n : Nat) ∧ ρ 18 = .int .i64 (v : Nat) ∧ ρ 21 = lvv ∧ ρ 4 = .int .i64 (szR n ns x v + (((levR n ns x v).take j).filter fun y => tv n ns y == v).length : Nat) ∧ NxS n ns w4 Emp [] (ρ 6) (((levR n ns x v).take j).foldl (stR n ns v) []) w') (by simp) (by simp)
    ⟨by simp [g1], by simp, by simp [hlim], by simp [hc], by simp, by simp [g4], by simpa using hN0⟩ (by decide) (fun _ _ _ _ h => by simpa using h) (fun _ _ _ _ h => by simpa using h) ?_ ?_
  rotate_left
  · rintro ρ w5 ⟨g1, g5, g17, g18, g21, g4, nx, ts, hnx, hin, _, h5⟩
    have e1 : (levR n ns x v).take l.length = levR n ns x v := List.take_of_length_le (by omega)
    rw [e1] at g4 hnx
    have hj := At.join (A := Star (OwnA (ρ 6) 51 2 (lvE n) nx) (VwsA bv ts)) hLB h4.drop h5.assoc'
    simp [g1, g4, g17, g18]
    exact ⟨rfl, nx, hnx, fun p hp => h5.drop.vws (hin p hp), hj.assoc.by (Imp.un Imp.dr)⟩
  rintro j ρ w5 hj hcj hlj ⟨g1, g5, g17, g18, g21, g4, nx, ts, hnx, hin, _, h5⟩
  obtain ⟨p, hp⟩ : ∃ p, l[j]? = some p := ⟨_, List.getElem?_eq_getElem hj⟩
  have hpl := List.mem_of_getElem? hp
  have hpr : (levR n ns x v)[j]? = some p.ref := by rw [← hS.refs, List.getElem?_map, hp]; rfl
  obtain ⟨hj2, hpr2⟩ := List.getElem?_eq_some_iff.1 hpr
  have hmp := hS.mean p hpl
  obtain ⟨hr1, hr2, _⟩ := hok p.ref (List.mem_of_getElem? hpr)
  have V5 := hVl.kp0 h5.kp
  have ec := V5.cells (lvE_len n) hp
  simp only [lvE] at ec
  have hT5 := (hV p hpl).kp0 h5.kp
  have hLX : Lcl (Star (OwnA (ρ 6) 51 2 (lvE n) nx) (Star (VwsA bv ts) Emp)) := Lcl.own.star (Lcl.vws.star .emp)
  obtain ⟨rs, hrs⟩ : ∃ rs, rs = ((levR n ns x v).take j).foldl (stR n ns v) [] := ⟨_, rfl⟩
  rw [← hrs] at hnx
  obtain ⟨c0, hc0⟩ : ∃ c0, c0 = szR n ns x v + (((levR n ns x v).take j).filter fun y => tv n ns y == v).length := ⟨_, rfl⟩
  rw [← hc0] at g4
  obtain ⟨gb, hgb⟩ : ∃ gb, gb = w5.heap.size := ⟨_, rfl⟩
  obtain ⟨nv, hnv⟩ : ∃ nv, nv = ρ 6 := ⟨_, rfl⟩
  rw [← hnv] at h5 hLX
  refine seq_cut (fun ρ w' => ρ 1 = .pointer (some ⟨b, 0, none⟩) ∧ ρ 5 = .int .i64 (v : Nat) ∧ ρ 17 = .int .i64 (n : Nat) ∧ ρ 18 = .int .i64 (v : Nat) ∧ ρ 21 = lvv ∧ ρ 22 = .int .i64 (l.length : Nat) ∧ ρ 23 = .int .i64 (j : Nat) ∧ ρ 4 = .int .i64 (c0 : Nat) ∧ ρ 6 = nv ∧ ρ 8 = .pointer (some ⟨gb, 0, none⟩) ∧ At w4 [] (Star (ObjA gb (tbO n p.u.1)) (Star (OwnA nv 51 2 (lvE n) nx) (Star (VwsA bv ts) Emp))) w') ?_ ?_
  · simp (disch := omega) [g21, hcj, hlj, V5.idx, ec, ← hgb]
    refine st_tbl (u := p.u) hLX h5 hgb fun w6 h6 => ?_
    simp [g1, g5, g17, g18, g21, hcj, hlj, g4, ← hnv]
    exact h6
  clear g1 g5 g17 g18 g21 hcj hlj g4 hnv
  rintro ρ w6 ⟨g1, g5, g17, g18, g21, g22, g23, g4, g6, g8, h6⟩
  have hLG : Lcl (Star (ObjA gb (tbO n p.u.1)) (Star (OwnA nv 51 2 (lvE n) nx) (Star (VwsA bv ts) Emp))) := Lcl.obj.star hLX
  have hcnt := atR_take (n := n) (ns := ns) (v := v) hj2
  rw [hpr2] at hcnt
  refine seq_cut (fun ρ w' => ρ 1 = .pointer (some ⟨b, 0, none⟩) ∧ ρ 5 = .int .i64 (v : Nat) ∧ ρ 17 = .int .i64 (n : Nat) ∧ ρ 18 = .int .i64 (v : Nat) ∧ ρ 21 = lvv ∧ ρ 22 = .int .i64 (l.length : Nat) ∧ ρ 23 = .int .i64 (j : Nat) ∧ ρ 4 = .int .i64 (szR n ns x v + (((levR n ns x v).take (j + 1)).filter fun y => tv n ns y == v).length : Nat) ∧ ρ 6 = nv ∧ ρ 8 = .pointer (some ⟨gb, 0, none⟩) ∧ At w4 [] (Star (ObjA gb (tbO n p.u.1)) (Star (OwnA nv 51 2 (lvE n) nx) (Star (VwsA bv ts) Emp))) w') ?_ ?_
  · simp [g8, g5, rd_tb h6.obj]
    refine cl_of (rDepends_spec n v p.u.1 p.f w6 hn hv ((hV p hpl).kp0 h6.kp)) ?_
    rintro _ w7 ⟨rfl, k7⟩
    have e : depB n p.f v = (tv n ns p.ref == v) := hmp.dep_top hw hr2 (by omega)
    have h7 := h6.kp0 hLG k7
    have hc0b : c0 ≤ 10000 := by
      have a1 := szR_lt (n := n) (ns := ns) (f := x) v
      have a2 := List.length_filter_le (fun y => tv n ns y == v) ((levR n ns x v).take j)
      rw [List.length_take] at a2
      omega
    cases ht : (tv n ns p.ref == v) with
    | true =>
      rw [ht] at hcnt e
      simp at hcnt
      simp (disch := omega) [e, g4, wrap_i64]
      rw [hcnt]
      exact ⟨g1, g5, g17, g18, g21, g22, g23, by rw [hc0]; simp; omega, g6, g8, h7⟩
    | false =>
      rw [ht] at hcnt e
      simp at hcnt
      simp [e]
      rw [hcnt]
      exact ⟨g1, g5, g17, g18, g21, g22, g23, by rw [g4, hc0]; simp, g6, g8, h7⟩
  clear g1 g5 g17 g18 g21 g22 g23 g4 g6 g8 h6
  rintro ρ w6 ⟨g1, g5, g17, g18, g21, g22, g23, g4, g6, g8, h6⟩
  simp [g8, g5, rd_tb h6.obj]
  refine ⟨?_, ?_⟩ <;>
  · have h6 := h6.drew hLG
    refine cl_of (rRestrict_spec n v false p.u.1 p.f _ hn hv ((hV p hpl).kp0 h6.kp)) ?_
    rintro _ w7 ⟨u0, rfl, t0⟩
    have h7 := At.tb hLG h6 t0
    simp [tbV, g5, g8, rd_tb h7.drop.obj]
    refine cl_of (rRestrict_spec n v true p.u.1 p.f _ hn hv ((hV p hpl).kp0 h7.kp)) ?_
    rintro _ w8 ⟨u1, rfl, t1⟩
    have h8 := At.tb (Lcl.own.star hLG) h7 t1
    have o0 := t0.own.o1
    have o1 := t1.own.o1
    simp [tbV, rowOf, o0, o1]
    obtain ⟨q0, hq0⟩ : ∃ q0 : Pr, q0 = ⟨lo n ns v p.ref, ⟨u0, o0⟩, resF p.f v false⟩ := ⟨_, rfl⟩
    obtain ⟨q1, hq1⟩ : ∃ q1 : Pr, q1 = ⟨hi n ns v p.ref, ⟨u1, o1⟩, resF p.f v true⟩ := ⟨_, rfl⟩
    have m0 : Mean n ns q0.ref q0.f := by rw [hq0]; exact hmp.lo hw hr2 (by omega)
    have m1 : Mean n ns q1.ref q1.f := by rw [hq1]; exact hmp.hi hw hr2 (by omega)
    have hmq : ∀ q ∈ [q0, q1], Mean n ns q.ref q.f := fun q hq => by
      simp at hq
      rcases hq with rfl | rfl
      · exact m0
      · exact m1
    have hst : ((levR n ns x v).take (j + 1)).foldl (stR n ns v) [] = addR (addR rs q0.ref) q1.ref := by
      rw [List.take_add_one, hpr, List.foldl_append, ← hrs, hq0, hq1]
      rfl
    have h9 : At w4 [] (Star (VwA u0 bv (tab n (resF p.f v false))) (Star (VwsA bv ts) (Star (VwA u1 bv (tab n (resF p.f v true))) (Star (ObjA gb (tbO n p.u.1)) (Star (OwnA nv 51 2 (lvE n) nx) Emp))))) w8 := (h8.own_vw.rot.own_vw).by (Imp.un Imp.r4)
    have h10 := (h9.by ((VwsA.add o0).trans (Imp.sw.trans (VwsA.add o1)))).by ((Imp.un Imp.dr).trans Imp.sw)
    obtain ⟨ts', hts⟩ : ∃ ts', ts' = ts ++ [((⟨u0, o0⟩, tab n (resF p.f v false)) : Cell1 × List Bool)] ++ [((⟨u1, o1⟩, tab n (resF p.f v true)) : Cell1 × List Bool)] := ⟨_, rfl⟩
    rw [← hts] at h10
    have h11 := h10.lit (xs := [q0, q1]) (enc := lvE n) (E := 51) (sz := 2) (cs := #[.int .i64 (n : Nat), u0, .int .i64 (n : Nat), u1]) (m := 2) (Lcl.own.star (Lcl.vws.star .emp)) (by simp [lvE, hq0, hq1]) (lvE_len n) (by simp [maxLen]) rfl
    obtain ⟨w9, hw9⟩ : ∃ w9, w9 = w8.alloc (.cells #[.int .i64 (n : Nat), u0, .int .i64 (n : Nat), u1] 51) := ⟨_, rfl⟩
    obtain ⟨sl2, hsl2⟩ : ∃ sl, sl = Value.slice (some ⟨w8.heap.size, 0, none⟩) 2 2 := ⟨_, rfl⟩
    rw [← hw9, ← hsl2] at h11
    rw [← hw9]
    have h12 := h11.by Imp.l3
    have hsub : ∀ q ∈ [q0, q1], (q.u, tab n q.f) ∈ ts' := fun q hq => by
      simp at hq
      rw [hts]
      rcases hq with rfl | rfl
      · rw [hq0]; simp
      · rw [hq1]; simp
    have hq2 : [q0, q1].length = 2 := rfl
    have hN9 : NxS n ns w4 (Star (OwnA sl2 51 2 (lvE n) [q0, q1]) Emp) ts' nv rs w9 := ⟨nx, ts', hnx, fun p hp => by rw [hts]; simp [hin p hp], fun t h => h, h12⟩
    refine range_loop (n := 2) (by omega) (fun k ρ w' => ρ 1 = .pointer (some ⟨b, 0, none⟩) ∧ ρ 5 = .int .i64 (v : Nat) ∧ ρ 17 = .int .i64 (n : Nat) ∧ ρ 18 = .int .i64 (v : Nat) ∧ ρ 21 = lvv ∧ ρ 22 = .int .i64 (l.length : Nat) ∧ ρ 23 = .int .i64 (j : Nat) ∧ ρ 4 = .int .i64 (szR n ns x v + (((levR n ns x v).take (j + 1)).filter fun y => tv n ns y == v).length : Nat) ∧ ρ 38 = sl2 ∧
        NxS n ns w4 (Star (OwnA sl2 51 2 (lvE n) [q0, q1]) Emp) ts' (ρ 6) ((([q0, q1].take k).map (·.ref)).foldl addR rs) w') (by simp) (by simp)
      ⟨by simp [g1], by simp [g5], by simp [g17], by simp [g18], by simp [g21], by simp [g22], by simp [g23], by simp [g4], by simp [hsl2], by simpa [g6] using hN9⟩ (by decide) (fun _ _ _ _ h => by simpa using h) (fun _ _ _ _ h => by simpa using h) ?_ ?_
    rotate_left
    · rintro ρ w10 ⟨g1, g5, g17, g18, g21, g22, g23, g4, g38, nx', ts2, hnx', hin', hsub', h13⟩
      simp [g1, g5, g17, g18, g21, g22, g23, g4]
      rw [hst]
      exact ⟨nx', ts2, hnx', hin', by simp, h13.by (Imp.un (Imp.un Imp.dr))⟩
    rintro k ρ w10 hk hck hlk ⟨g1, g5, g17, g18, g21, g22, g23, g4, g38, nx', ts2, hnx', hin', hsub', h13⟩
    obtain ⟨q, hq⟩ : ∃ q, [q0, q1][k]? = some q := ⟨_, List.getElem?_eq_getElem hk⟩
    have hqm := List.mem_of_getElem? hq
    have V10 := h13.drop.drop.own.vw
    have ecq := V10.cells (lvE_len n) hq
    simp only [lvE] at ecq
    have hk2 : (k : Int) < ([q0, q1].length : Nat) := by simp; omega
    obtain ⟨rk, hrk⟩ : ∃ rk, rk = (([q0, q1].take k).map (·.ref)).foldl addR rs := ⟨_, rfl⟩
    have hrk1 : (([q0, q1].take (k + 1)).map (·.ref)).foldl addR rs = addR rk q.ref := by
      rw [List.take_add_one, hq, List.map_append, List.foldl_append, ← hrk]
      rfl
    rw [← hrk] at hnx'
    rw [hrk1]
    obtain ⟨nv', hnv'⟩ : ∃ nv', nv' = ρ 6 := ⟨_, rfl⟩
    rw [← hnv'] at h13
    have hL13 : Lcl (Star (OwnA nv' 51 2 (lvE n) nx') (Star (VwsA bv ts2) (Star (OwnA sl2 51 2 (lvE n) [q0, q1]) Emp))) := Lcl.own.star (Lcl.vws.star (Lcl.own.star .emp))
    obtain ⟨hb2, hhb⟩ : ∃ hb2, hb2 = w10.heap.size := ⟨_, rfl⟩
    have htq := hsub' _ (hsub q hqm)
    simp (disch := omega) [g38, hck, hlk, V10.idx, ecq, ← hhb]
    refine st_tbl (u := q.u) hL13 h13 hhb fun w11 h14 => ?_
    have hL14 : Lcl (Star (ObjA hb2 (tbO n q.u.1)) (Star (OwnA nv' 51 2 (lvE n) nx') (Star (VwsA bv ts2) (Star (OwnA sl2 51 2 (lvE n) [q0, q1]) Emp)))) := Lcl.obj.star hL13
    simp [← hnv', h14.drop.own.vw.len]
    have hnl : nx'.length ≤ 1000 := by
      have a1 := hnx'.len
      have a2 := addRs_len (([q0, q1].take k).map (·.ref)) rs
      have a3 := foldR_len (n := n) (ns := ns) (v := v) ((levR n ns x v).take j) []
      rw [← hrs] at a3
      rw [← hrk] at a2
      simp at a2 a3
      omega
    refine range_loop (n := nx'.length) (by omega) (fun i ρ w' => ρ 1 = .pointer (some ⟨b, 0, none⟩) ∧ ρ 5 = .int .i64 (v : Nat) ∧ ρ 17 = .int .i64 (n : Nat) ∧ ρ 18 = .int .i64 (v : Nat) ∧ ρ 21 = lvv ∧ ρ 22 = .int .i64 (l.length : Nat) ∧ ρ 23 = .int .i64 (j : Nat) ∧ ρ 4 = .int .i64 (szR n ns x v + (((levR n ns x v).take (j + 1)).filter fun y => tv n ns y == v).length : Nat) ∧ ρ 38 = sl2 ∧
        ρ 39 = .int .i64 (2 : Nat) ∧ ρ 40 = .int .i64 (k : Nat) ∧ ρ 6 = nv' ∧ ρ 44 = nv' ∧ ρ 10 = .pointer (some ⟨hb2, 0, none⟩) ∧ ρ 11 = .bool ((nx'.take i).any fun p => decide (tab n p.f = tab n q.f)) ∧ Kp [] w11 w') (by simp) (by simp)
      ⟨by simp [g1], by simp [g5], by simp [g17], by simp [g18], by simp [g21], by simp [g22], by simp [g23], by simp [g4], by simp [g38], by simp [hlk], by simp [hck], by simp [← hnv'], by simp, by simp, by simp, Kp.refl _ _⟩ (by decide) (fun _ _ _ _ h => by simpa using h) (fun _ _ _ _ h => by simpa using h) ?_ ?_
    · rintro i ρ w12 hi hci hli ⟨g1, g5, g17, g18, g21, g22, g23, g4, g38, g39, g40, g6, g44, g10, g11, k12⟩
      obtain ⟨r, hr⟩ : ∃ r, nx'[i]? = some r := ⟨_, List.getElem?_eq_getElem hi⟩
      have hrm := List.mem_of_getElem? hr
      have h15 := h14.kp0 hL14 k12
      have V12 := h15.drop.own.vw
      have ecr := V12.cells (lvE_len n) hr
      simp only [lvE] at ecr
      have hany : (nx'.take (i + 1)).any (fun p => decide (tab n p.f = tab n q.f)) = ((nx'.take i).any (fun p => decide (tab n p.f = tab n q.f)) || decide (tab n r.f = tab n q.f)) := by
        rw [List.take_add_one, hr, List.any_append]; simp
      rw [hany]
      obtain ⟨rb, hrb⟩ : ∃ rb, rb = w12.heap.size := ⟨_, rfl⟩
      simp (disch := omega) [g44, hci, hli, V12.idx, ecr, ← hrb]
      refine st_tbl (u := r.u) .emp (At.start rfl : At w12 [] Emp w12) hrb fun w13 h16 => ?_
      have h17 := h15.kp0 hL14 h16.kp
      cases hfd : (nx'.take i).any (fun p => decide (tab n p.f = tab n q.f)) with
      | true =>
        simp [g11, hfd, g1, g5, g17, g18, g21, g22, g23, g4, g38, g39, g40, g6, g44, g10, hci, hli]
        exact k12.trans0 h16.kp
      | false =>
        have r16 := rd_tb h16.obj
        rw [hrb] at r16
        simp [g11, hfd, g10, r16, rd_tb h16.obj, rd_tb h17.obj]
        refine cl_of (rSame_spec n r.u.1 q.u.1 r.f q.f w13 hn (h17.drop.drop.vws (hin' r hrm)) (h17.drop.drop.vws htq)) ?_
        rintro _ w14 ⟨rfl, k14⟩
        simp [g11, hfd, g1, g5, g17, g18, g21, g22, g23, g4, g38, g39, g40, g6, g44, g10, hci, hli]
        exact (k12.trans0 h16.kp).trans0 k14
    rintro ρ w12 ⟨g1, g5, g17, g18, g21, g22, g23, g4, g38, g39, g40, g6, g44, g10, g11, k12⟩
    rw [List.take_of_length_le (Nat.le_refl _), any_addR hw hnx'.mean (hmq q hqm), hnx'.refs] at g11
    have h15 := h14.kp0 hL14 k12
    by_cases hin2 : q.ref ∈ rk
    · simp [g11, hin2, g1, g5, g17, g18, g21, g22, g23, g4, g38, g39, g40, g6]
      exact ⟨nx', ts2, hnx'.known hin2, hin', hsub', h15.drop⟩
    · simp [g11, hin2, g6, g10, rd_tb h15.obj, rowOf, q.u.2]
      have h16 := h15.drop.kp0 hL13 ((Kp.refl [] w12).alloc (.cells #[.int .i64 (n : Nat), q.u.1] 51))
      refine At.append (xs := [q]) (Lcl.vws.star (Lcl.own.star .emp)) h16 (lvE_len n) (lvE_one n) sl_111 rfl (fun j' u hj' => ?_) (by omega) (by unfold maxLen; omega) fun v' w13 h17 => ?_
      · rw [add_none, cell_blk alloc_new]
        simpa [lvE] using hj'
      simp [g1, g5, g17, g18, g21, g22, g23, g4, g38, g39, g40]
      refine ⟨nx' ++ [q], ts2, hnx'.snoc (hmq q hqm) hin2, fun p hp => ?_, hsub', h17⟩
      rcases List.mem_append.1 hp with h | h
      · exact hin' p h
      · simp at h; subst h; exact htq
end Go.Proofs.YtkojilpjpdpmaaaR
