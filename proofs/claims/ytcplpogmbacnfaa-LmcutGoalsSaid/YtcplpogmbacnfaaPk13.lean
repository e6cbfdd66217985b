/-
  A part of the proof of this claim's statement (LmW3, LmKeys, LmW4, LmW5): plain theorems; no conditions beyond those each names.
-/
import Derived.Test.YtcplpogmbacnfaaPk12
import Derived.Shelf.SortM.Plain
import Derived.Shelf.SortM.SortNone
import Derived.Shelf.Slices.CompactI
import Derived.Test.YtcplpogmbacnfaaProg
import Derived.Lib.SlKeysI
section
set_option maxRecDepth 100000
set_option linter.unusedSimpArgs false
set_option linter.unusedVariables false
namespace Go.Proofs.Ytcplpogmbacnfaa
open Go Go.W Go.Tk Go.Rx Go.Lm Go.Maps
def arE (a : Ar) : List Value := [.int .i64 (gI a.fr), .int .i64 (a.to : Nat), .int .i64 (a.op : Nat)]
theorem arE_len (a : Ar) : (arE a).length = 3 := rfl
theorem arE_one (a : Ar) : (arE a).all oneC = true := rfl
def arO (a : Ar) : Obj := .cells #[.int .i64 (gI a.fr), .int .i64 (a.to : Nat), .int .i64 (a.op : Nat)] 120 (0, 0)
theorem st_ar {wa w : World} {F : List Nat} {X : Asr} {KW : Kont World} {a : Ar} {b : Nat} (hX : Lcl X) (h : At w F X wa) (hb : b = wa.heap.size) (H : ∀ w2, At w F (Star (ObjA b (arO a)) X) w2 → KW.run w2) :
    @stJ (wa.alloc (.cells #[.int .i64 0, .int .i64 0, .int .i64 0] 120 (0, 0))) ⟨b, 0, none⟩ [.int .i64 (gI a.fr), .int .i64 (a.to : Nat), .int .i64 (a.op : Nat)] KW := by
  have h1 : At w F (Star (ObjA b (.cells #[.int .i64 0, .int .i64 0, .int .i64 0] 120 (0, 0))) X) (wa.alloc (.cells #[.int .i64 0, .int .i64 0, .int .i64 0] 120 (0, 0))) := by rw [hb]; exact h.alloc _ hX
  exact h1.st hX (by simp) (by simp) fun w2 h2 => H w2 (by simpa [arO] using h2)
theorem arcs_take {UL : List Un} {V : Nat → Nat} {k : Nat} {u : Un} (h : UL[k]? = some u) : arcs (UL.take (k + 1)) V = arcs (UL.take k) V ++ if gr V u.needs < Inf then [arU V u] else [] := by
  rw [take_snoc h]
  unfold arcs
  rw [List.filter_append, List.map_append]
  by_cases hg : gr V u.needs < Inf
  · simp [hg]
  · simp [hg]
theorem arcs_len (UL : List Un) (V : Nat → Nat) : (arcs UL V).length ≤ UL.length := by
  unfold arcs
  rw [List.length_map]
  exact List.length_filter_le _ _
theorem ar_append {w w1 : World} {F : List Nat} {B : Asr} {ov : Value} {l : List Ar} {a : Ar} {KV : Kont (Value × World)} (hB : Lcl B) (h : At w F (Star (OwnA ov 120 3 arE l) B) w1) (hl : l.length ≤ 1000000)
    (H : ∀ v' w2, At w F (Star (OwnA v' 120 3 arE (l ++ [a])) B) w2 → KV.run (v', w2)) :
    @efH Try.prog (Builtin.append_ #[116, 116] 116 [ov, .slice (some ⟨w1.heap.size, 0, none⟩) 1 1].toArray) (w1.alloc (.cells #[.int .i64 (gI a.fr), .int .i64 (a.to : Nat), .int .i64 (a.op : Nat)] 120)) KV := by
  have h4 := h.kp0 (Lcl.own.star hB) ((Kp.refl [] w1).alloc (.cells #[.int .i64 (gI a.fr), .int .i64 (a.to : Nat), .int .i64 (a.op : Nat)] 120))
  refine At.append (xs := [a]) hB h4 arE_len arE_one sl_116 rfl (fun j u hj => ?_) (by omega) (by unfold maxLen; omega) fun v' w5 h5 => H v' w5 h5
  rw [add_none, cell_blk alloc_new]
  simpa [arE] using hj
section
variable {w : World} {b : Nat} {vars G C0 : List Nat} {UL : List Un} {vv fv gv cv lv : Value} {rs : List Lu}
set_option maxHeartbeats 1000000 in
theorem arcs_walk (tv : Value) (V : Nat → Nat) (M : Nat) (hR : HrR b vars G C0 UL vv fv gv cv lv rs w) (ht : Vw w tv nE (tabN vars.sum V)) (hL : LuOk UL vars.sum M) :
    Calls Try.prog 64 [.pointer (some ⟨b, 0, none⟩), tv].toArray w fun e w' => ∃ x, e = .returned x ∧ Nw w w' x 120 3 arE (arcs UL V) := by
  refine enter Try.func64 mixed low64 (Nat.le_of_ble_eq_true rfl) ?_
  simp only [L64]
  have hrl : rs.length = UL.length := by rw [← hR.eu]; simp
  have hul := hL.ul
  have h1 := At.nil (E := 120) (sz := 3) (enc := arE) .emp (At.start rfl : At w [] Emp w)
  simp [cell_blk hR.obj, hR.list.len, hrl]
  refine range_loop (n := UL.length) (by omega) (fun k ρ w' => ρ 1 = tv ∧ ρ 11 = lv ∧ At w [] (Star (OwnA (ρ 5) 120 3 arE (arcs (UL.take k) V)) Emp) w') (by simp) (by simp)
    ⟨by simp, by simp, by simpa [arcs] using h1⟩ (by decide) (fun _ _ _ _ h => by simpa using h) (fun _ _ _ _ h => by simpa using h) ?_ ?_
  rotate_left
  · rintro ρ w2 ⟨g1, g11, h2⟩
    rw [List.take_length] at h2
    simp
    exact Nw.of h2
  rintro k ρ w2 hk hck hlk ⟨g1, g11, h2⟩
  have hR2 := hR.kp h2.kp
  obtain ⟨r, hr⟩ : ∃ r, rs[k]? = some r := ⟨_, List.getElem?_eq_getElem (by omega)⟩
  have hrm := List.mem_of_getElem? hr
  obtain ⟨u, hu⟩ : ∃ u, u = r.u := ⟨_, rfl⟩
  have huk : UL[k]? = some u := by rw [← hR.eu, List.getElem?_map, hr, hu]; rfl
  have hum := List.mem_of_getElem? huk
  have ec := hR2.list.cells luE_len hr
  simp only [luE] at ec
  obtain ⟨ub, hub⟩ : ∃ ub, ub = w2.heap.size := ⟨_, rfl⟩
  have hki : (k : Int) < rs.length := by omega
  simp (disch := omega) [g11, hck, hlk, hR2.list.idx, ec, ← hub]
  refine st_lu (r := r) (Lcl.own.star .emp) h2 hub fun w3 h3 => ?_
  have oo3 := h3.obj
  unfold luO at oo3
  have hrg := hL.rng u hum
  have hnl := hL.nl u hum
  simp [g1, cell_blk oo3, ← hub]
  refine cl_of (highest_walk r.nv.1 tv r.u.needs vars.sum V ((hR.kp h3.kp).needs r hrm) (ht.kp0 h3.kp) (by rw [← hu]; exact hrg) (by rw [← hu]; exact hnl)) ?_
  rintro _ w4 ⟨rfl, k4⟩
  have h4 := h3.kp0 (Lcl.obj.star (Lcl.own.star .emp)) k4
  have hsuc := arcs_take (V := V) huk
  have hal := arcs_len (UL.take k) V
  have htl : (UL.take k).length ≤ UL.length := by rw [List.length_take]; omega
  rw [hu] at hsuc
  by_cases s1 : gr V r.u.needs < Inf
  · have hInf : Inf = 1125899906842624 := rfl
    have s1' : (gr V r.u.needs : Int) < 1125899906842624 := by omega
    rw [if_pos s1] at hsuc
    have h4d := h4.drew (Lcl.obj.star (Lcl.own.star .emp))
    have oo4 := h4d.obj
    unfold luO at oo4
    simp [s1', g1, cell_blk oo4, ← hub]
    refine ⟨?_, ?_, ?_, ?_⟩ <;>
    · refine cl_of (greatest_walk r.nv.1 tv r.u.needs vars.sum V ((hR.kp h4d.kp).needs r hrm) (ht.kp0 h4d.kp) (by rw [← hu]; exact hrg) (by rw [← hu]; exact hnl)) ?_
      rintro _ w5 ⟨rfl, k5⟩
      have h5 := h4d.kp0 (Lcl.obj.star (Lcl.own.star .emp)) k5
      have oo5 := h5.obj
      unfold luO at oo5
      simp [g1, cell_blk oo5, ← hub, rowOf]
      refine ar_append (a := arU V r.u) .emp h5.drop (by omega) fun v' w6 h6 => ?_
      simp [g1, g11, hck, hlk]
      rw [hsuc]
      exact h6
  · have hInf : Inf = 1125899906842624 := rfl
    have s1' : ¬ (gr V r.u.needs : Int) < 1125899906842624 := by omega
    rw [if_neg s1, List.append_nil] at hsuc
    simp [s1', g1, g11, hck, hlk]
    rw [hsuc]
    exact h4.drop
end
end Go.Proofs.Ytcplpogmbacnfaa
end
section
namespace Go.Proofs
open Go.Shelf
def Try.sort33_ren : Go.Shelf.Ren := ⟨fun | 5 => 33 | 8 => 60 | 7 => 59 | 19 => 82 | 20 => 83 | 10 => 73 | 11 => 74 | 12 => 75 | 13 => 76 | 14 => 77 | 15 => 78 | 16 => 79 | 17 => 80 | 18 => 81 | 30 => 88 | 31 => 89 | 32 => 90 | 33 => 91 | 34 => 92 | 35 => 93 | 40 => 94 | n => n, fun | 23 => 22 | 25 => 3 | 3 => 3 | 32 => 113 | 22 => 22 | 0 => 0 | 44 => 147 | 46 => 149 | 4 => 4 | 36 => 139 | 35 => 138 | 41 => 144 | 5 => 5 | 9 => 9 | 53 => 157 | 57 => 161 | 63 => 164 | 64 => 165 | n => n, fun | n => n⟩
theorem Try.sort33 : Go.Proofs.SlLaysM.n5 Try.prog Try.sort33_ren := {
  mixed := by kernel_rfl
  f5 := ⟨Try.f33.name, by decide, Try.func33.trans (congrArg some (by kernel_rfl))⟩
  f7 := ⟨Try.f59.name, by decide, Try.func59.trans (congrArg some (by kernel_rfl))⟩
  f8 := Try.func60.trans (congrArg some (by kernel_rfl))
  f10 := ⟨Try.f73.name, by decide, Try.func73.trans (congrArg some (by kernel_rfl))⟩
  f11 := ⟨Try.f74.name, by decide, Try.func74.trans (congrArg some (by kernel_rfl))⟩
  f12 := ⟨Try.f75.name, by decide, Try.func75.trans (congrArg some (by kernel_rfl))⟩
  f13 := ⟨Try.f76.name, by decide, Try.func76.trans (congrArg some (by kernel_rfl))⟩
  f14 := ⟨Try.f77.name, by decide, Try.func77.trans (congrArg some (by kernel_rfl))⟩
  f15 := ⟨Try.f78.name, by decide, Try.func78.trans (congrArg some (by kernel_rfl))⟩
  f16 := ⟨Try.f79.name, by decide, Try.func79.trans (congrArg some (by kernel_rfl))⟩
  f17 := ⟨Try.f80.name, by decide, Try.func80.trans (congrArg some (by kernel_rfl))⟩
  f18 := ⟨Try.f81.name, by decide, Try.func81.trans (congrArg some (by kernel_rfl))⟩
  f19 := Try.func82.trans (congrArg some (by kernel_rfl))
  f20 := Try.func83.trans (congrArg some (by kernel_rfl))
  f30 := ⟨Try.f88.name, by decide, Try.func88.trans (congrArg some (by kernel_rfl))⟩
  f31 := Try.func89.trans (congrArg some (by kernel_rfl))
  f32 := Try.func90.trans (congrArg some (by kernel_rfl))
  f33 := ⟨Try.f91.name, by decide, Try.func91.trans (congrArg some (by kernel_rfl))⟩
  f34 := ⟨Try.f92.name, by decide, Try.func92.trans (congrArg some (by kernel_rfl))⟩
  f35 := ⟨Try.f93.name, by decide, Try.func93.trans (congrArg some (by kernel_rfl))⟩
  f40 := ⟨Try.f94.name, by decide, Try.func94.trans (congrArg some (by kernel_rfl))⟩
  t0 := Try.underlying0
  a0 := Try.isAgg0
  z0 := Try.sizeOf0
  v0 := Try.zeroValue0
  t3 := Try.underlying3
  a3 := Try.isAgg3
  z3 := Try.sizeOf3
  v3 := Try.zeroValue3
  t4 := Try.underlying4
  a4 := Try.isAgg4
  z4 := Try.sizeOf4
  v4 := Try.zeroValue4
  t5 := Try.underlying5
  a5 := Try.isAgg5
  z5 := Try.sizeOf5
  v5 := Try.zeroValue5
  t9 := Try.underlying9
  a9 := Try.isAgg9
  z9 := Try.sizeOf9
  v9 := Try.zeroValue9
  t22 := Try.underlying22
  a22 := Try.isAgg22
  z22 := Try.sizeOf22
  v22 := Try.zeroValue22
  t23 := Try.underlying22
  a23 := Try.isAgg22
  z23 := Try.sizeOf22
  v23 := Try.zeroValue22
  t25 := Try.underlying3
  a25 := Try.isAgg3
  z25 := Try.sizeOf3
  v25 := Try.zeroValue3
  t32 := Try.underlying113
  a32 := Try.isAgg113
  z32 := Try.sizeOf113
  v32 := Try.zeroValue113
  t35 := Try.underlying138
  a35 := Try.isAgg138
  z35 := Try.sizeOf138
  v35 := Try.zeroValue138
  t36 := Try.underlying139
  a36 := Try.isAgg139
  z36 := Try.sizeOf139
  v36 := Try.zeroValue139
  t41 := Try.underlying144
  a41 := Try.isAgg144
  z41 := Try.sizeOf144
  v41 := Try.zeroValue144
  t44 := Try.underlying147
  a44 := Try.isAgg147
  z44 := Try.sizeOf147
  v44 := Try.zeroValue147
  t46 := Try.underlying149
  a46 := Try.isAgg149
  z46 := Try.sizeOf149
  v46 := Try.zeroValue149
  t53 := Try.underlying157
  a53 := Try.isAgg157
  z53 := Try.sizeOf157
  v53 := Try.zeroValue157
  t57 := Try.underlying161
  a57 := Try.isAgg161
  z57 := Try.sizeOf161
  v57 := Try.zeroValue161
  t63 := Try.underlying164
  a63 := Try.isAgg164
  z63 := Try.sizeOf164
  v63 := Try.zeroValue164
  t64 := Try.underlying165
  a64 := Try.isAgg165
  z64 := Try.sizeOf165
  v64 := Try.zeroValue165 }
def Try.compact34_ren : Go.Shelf.Ren := ⟨fun | 20 => 34 | n => n, fun | 22 => 22 | 3 => 3 | 4 => 4 | 0 => 0 | n => n, fun | n => n⟩
theorem Try.compact34 : Go.Proofs.Lays2.n20 Try.prog Try.compact34_ren := {
  mixed := by kernel_rfl
  f20 := Try.func34.trans (congrArg some (by kernel_rfl))
  t0 := Try.underlying0
  a0 := Try.isAgg0
  z0 := Try.sizeOf0
  v0 := Try.zeroValue0
  t3 := Try.underlying3
  a3 := Try.isAgg3
  z3 := Try.sizeOf3
  v3 := Try.zeroValue3
  t4 := Try.underlying4
  a4 := Try.isAgg4
  z4 := Try.sizeOf4
  v4 := Try.zeroValue4
  t22 := Try.underlying22
  a22 := Try.isAgg22
  z22 := Try.sizeOf22
  v22 := Try.zeroValue22
  i3 := by kernel_rfl }
end Go.Proofs
end
section
set_option maxRecDepth 100000
set_option linter.unusedSimpArgs false
set_option linter.unusedVariables false
namespace Go.Proofs.Ytcplpogmbacnfaa
open Go Go.W Go.Tk Go.Rx Go.Lm Go.Maps
theorem flat_nE (l : List Nat) : l.flatMap nE = (l.map iN).map (Value.int .i64) := by
  induction l with
  | nil => rfl
  | cons x l ih => rw [List.flatMap_cons, ih]; rfl
theorem put_list {cur : Array Value} {l ys : List Int} {junk : List Value} (hc : cur.toList = l.map (Value.int .i64) ++ junk) (hy : ys.length = l.length) :
    (Go.Sort.putCells (Value.int .i64) 0 ys.toArray cur).toList = ys.map (Value.int .i64) ++ junk := by
  unfold Go.Sort.putCells
  rw [Array.toList_mapIdx, hc]
  apply List.ext_getElem?
  intro i
  rw [List.getElem?_mapIdx]
  by_cases hi : i < ys.length
  · rw [List.getElem?_append_left (by simpa [hy] using hi), List.getElem?_append_left (by simpa using hi), List.getElem?_map, List.getElem?_map, List.getElem?_eq_getElem hi, List.getElem?_eq_getElem (by omega)]
    simp [hi]
  · rw [List.getElem?_append_right (by simp; omega), List.getElem?_append_right (by simp; omega)]
    simp only [List.length_map, hy]
    cases junk[i - l.length]? with
    | none => rfl
    | some v =>
      simp
      intro h
      omega
theorem kp_put {w w' : World} {g n : Nat} {f : Array Value → Array Value} {os : Array Obj} (hw : w' = Go.Sort.grow (Go.Sort.mapBlock (Go.Sort.ahead w n) g f) os) : Kp [g] w w' := by
  subst hw
  refine ⟨rfl, rfl, rfl, ?_, fun i hi hn => ?_⟩
  · show w.heap.size ≤ ((w.heap.modify g _) ++ os).size
    simp
  · show ((w.heap.modify g (Go.Sort.onCells f)) ++ os)[i]? = w.heap[i]?
    rw [Array.getElem?_append_left (by simpa using hi), Array.getElem?_modify, if_neg (by intro e; exact hn (by simp [e]))]
theorem blk_put {w w' : World} {g n E : Nat} {f : Array Value → Array Value} {os : Array Obj} {cur : Array Value} (hb : w.heap[g]? = some (.cells cur E (0, 0))) (hw : w' = Go.Sort.grow (Go.Sort.mapBlock (Go.Sort.ahead w n) g f) os) : w'.heap[g]? = some (.cells (f cur) E (0, 0)) := by
  subst hw
  show ((w.heap.modify g (Go.Sort.onCells f)) ++ os)[g]? = _
  have hg := lt_of_blk hb
  rw [Array.getElem?_append_left (by simpa using hg), Array.getElem?_modify, if_pos rfl, hb]
  rfl
/-- slices.Sort: the row's own numbers, in order. -/
theorem sort_spec {w : World} {v : Value} {l : List Nat} (h : Own w v 3 1 nE l) (hl : l.length ≤ 1000000) :
    Calls Try.prog 33 [v].toArray w fun e w' => ∃ x, e = .returned x ∧ x = .tuple #[] ∧ Kp v.own w w' ∧ ∃ l', Own w' v 3 1 nE l' ∧ (∀ x, x ∈ l' ↔ x ∈ l) ∧ l'.Pairwise (· ≤ ·) ∧ l'.length = l.length := by
  rcases h with ⟨rfl, rfl⟩ | ⟨g, cap, cur, junk, rfl, hb, hc, hj, hle, hm⟩
  · refine Calls.mono (AnyM.slices_Sort_int_none Try.sort33 none 0 w) ?_
    rintro e w' ⟨rfl, rfl⟩
    exact ⟨_, rfl, rfl, Kp.refl _ _, [], Own.nil _ _ _ _, by simp, by simp, rfl⟩
  · rw [flat_nE] at hc
    obtain ⟨zs, hzs⟩ : ∃ zs, zs = l.map iN := ⟨_, rfl⟩
    rw [← hzs] at hc
    have hzl : zs.length = l.length := by rw [hzs]; simp
    have hH : Go.Sort.Holds (Value.int .i64) w g 0 zs.toArray := by
      refine holds_of_block_i hb ?_
      rw [hc, List.take_append_of_le_length (by simp), List.take_of_length_le (by simp)]
    rw [← hzl]
    refine Calls.mono (AnyM.slices_Sort_int Try.sort33 g 0 cap zs w hH (lt_of_blk hb) (by omega)) ?_
    rintro e w' ⟨rfl, n, os, hw⟩
    obtain ⟨ys, hys⟩ : ∃ ys, ys = zs.mergeSort fun x y => decide (x ≤ y) := ⟨_, rfl⟩
    rw [← hys] at hw
    have hperm : ys.Perm zs := by rw [hys]; exact List.mergeSort_perm _ _
    have hpw : ys.Pairwise fun x y => x ≤ y := by
      have := List.pairwise_mergeSort (le := fun x y : Int => decide (x ≤ y)) (fun a b c h1 h2 => by simp at h1 h2 ⊢; omega) (fun a b => by simp; omega) zs
      rw [hys]
      exact this.imp fun h => by simpa using h
    have hyl : ys.length = zs.length := hperm.length_eq
    obtain ⟨l', hl', hl2⟩ := list_nat (f := iN) (p := fun n => n ∈ l) (l := ys) fun a ha => by
      have := hperm.mem_iff.1 ha
      rw [hzs] at this
      obtain ⟨x, hx, rfl⟩ := List.mem_map.1 this
      exact ⟨x, rfl, hx⟩
    have hw2 : w' = Go.Sort.grow (Go.Sort.mapBlock (Go.Sort.ahead w n) g (Go.Sort.putCells (Value.int .i64) 0 ys.toArray)) os := hw
    have hl'l : l'.length = l.length := by
      have := congrArg List.length hl'
      simp at this; omega
    refine ⟨_, rfl, rfl, kp_put hw2, l', ?_, fun x => ⟨fun hx => hl2 x hx, fun hx => ?_⟩, ?_, hl'l.trans hzl.symm⟩
    · refine .inr ⟨g, cap, _, junk, by rw [hl'l, hzl], blk_put hb hw2, ?_, by rw [hl'l]; exact hj, by omega, hm⟩
      rw [put_list hc hyl, flat_nE, hl']
    · have : iN x ∈ ys := hperm.mem_iff.2 (by rw [hzs]; exact List.mem_map.2 ⟨x, hx, rfl⟩)
      rw [← hl'] at this
      obtain ⟨y, hy, e⟩ := List.mem_map.1 this
      have : y = x := by unfold iN at e; omega
      rw [← this]; exact hy
    · rw [← hl', List.pairwise_map] at hpw
      exact hpw.imp fun h => by unfold iN at h; omega
theorem cpt_ok {d : Array Int} (hd : ∀ i j, i ≤ j → j < d.size → d[i]! ≤ d[j]!) : ∀ m, m ≤ d.size → (Go.Lib.compactUpTo d m).Pairwise (· < ·) ∧ ∀ x, x ∈ Go.Lib.compactUpTo d m ↔ ∃ j, j < m ∧ d[j]! = x
  | 0, _ => by simp [Go.Lib.compactUpTo]
  | m + 1, hm => by
    obtain ⟨h1, h2⟩ := cpt_ok hd m (by omega)
    rw [Go.Lib.compactUpTo_succ]
    by_cases hk : Go.Lib.keeps d m = true
    · rw [if_pos hk]
      unfold Go.Lib.keeps at hk
      simp only [decide_eq_true_eq] at hk
      refine ⟨List.pairwise_append.2 ⟨h1, by simp, fun a ha b hb => ?_⟩, fun x => ?_⟩
      · simp at hb; subst hb
        obtain ⟨j, hj, rfl⟩ := (h2 a).1 ha
        rcases hk with hk | hk
        · omega
        · have e1 := hd j (m - 1) (by omega) (by omega)
          have e2 := hd (m - 1) m (by omega) (by omega)
          omega
      · rw [List.mem_append, h2]
        constructor
        · rintro (⟨j, hj, e⟩ | e)
          · exact ⟨j, by omega, e⟩
          · simp at e; exact ⟨m, by omega, e.symm⟩
        · rintro ⟨j, hj, e⟩
          by_cases hjm : j = m
          · subst hjm; right; simp [e]
          · exact .inl ⟨j, by omega, e⟩
    · rw [if_neg hk, List.append_nil]
      refine ⟨h1, fun x => ?_⟩
      rw [h2]
      unfold Go.Lib.keeps at hk
      simp only [decide_eq_true_eq, not_or, Classical.not_not] at hk
      constructor
      · rintro ⟨j, hj, e⟩; exact ⟨j, by omega, e⟩
      · rintro ⟨j, hj, e⟩
        by_cases hjm : j = m
        · subst hjm; exact ⟨j - 1, by omega, by rw [← hk.2]; exact e⟩
        · exact ⟨j, by omega, e⟩
/-- slices.Compact, of an ordered row: its numbers, each once. -/
theorem compact_spec {w : World} {v : Value} {l : List Nat} (h : Own w v 3 1 nE l) (hp : l.Pairwise (· ≤ ·)) (hl : l.length ≤ 1000000) :
    Calls Try.prog 34 [v].toArray w fun e w' => ∃ x, e = .returned x ∧ Kp v.own w w' ∧ x.own = v.own ∧ ∃ l', Own w' x 3 1 nE l' ∧ (∀ x, x ∈ l' ↔ x ∈ l) ∧ l'.Pairwise (· < ·) ∧ l'.length ≤ l.length := by
  rcases h with ⟨rfl, rfl⟩ | ⟨g, cap, cur, junk, rfl, hb, hc, hj, hle, hm⟩
  · refine Calls.mono (Any.slices_Compact_int_empty Try.compact34 none 0 w) ?_
    rintro e w' ⟨rfl, rfl⟩
    exact ⟨_, rfl, Kp.refl _ _, rfl, [], Own.nil _ _ _ _, by simp, by simp, by simp⟩
  · rw [flat_nE] at hc
    obtain ⟨zs, hzs⟩ : ∃ zs, zs = l.map iN := ⟨_, rfl⟩
    rw [← hzs] at hc
    have hzl : zs.length = l.length := by rw [hzs]; simp
    have hH : Go.Sort.Holds (Value.int .i64) w g 0 zs.toArray := by
      refine holds_of_block_i hb ?_
      rw [hc, List.take_append_of_le_length (by simp), List.take_of_length_le (by simp)]
    have hpz : zs.Pairwise (· ≤ ·) := by
      rw [hzs, List.pairwise_map]
      exact hp.imp fun h => by unfold iN; omega
    rw [← hzl]
    refine Calls.mono (Any.slices_Compact_int Try.compact34 g 0 cap zs w hH (by omega) (by omega)) ?_
    rintro e w' ⟨rfl, q, hw⟩
    have hok := cpt_ok (d := zs.toArray) (fun i j hij hjs => by
      have hjs : j < zs.length := by simpa using hjs
      by_cases e : i = j
      · subst e; exact Int.le_refl _
      · have := List.pairwise_iff_getElem.1 hpz i j (by omega) hjs (by omega)
        simpa [getElem!_pos, hjs, show i < zs.length by omega] using this) zs.length (by simp)
    obtain ⟨ys, hys⟩ : ∃ ys, ys = Go.Lib.compact zs := ⟨_, rfl⟩
    have hys2 : ys = Go.Lib.compactUpTo zs.toArray zs.length := hys
    rw [← hys2] at hok
    have hyl : ys.length ≤ zs.length := by
      rw [hys2]
      unfold Go.Lib.compactUpTo
      rw [List.length_map]
      refine Nat.le_trans (List.length_filter_le _ _) ?_
      simp
    rw [← hys] at hw ⊢
    have hmem : ∀ x, x ∈ ys ↔ x ∈ zs := fun x => by
      rw [hok.2 x]
      constructor
      · rintro ⟨j, hj, rfl⟩
        simp [getElem!_pos, hj]
      · intro hx
        obtain ⟨j, hj, rfl⟩ := List.getElem_of_mem hx
        exact ⟨j, hj, by simp [getElem!_pos, hj]⟩
    obtain ⟨l', hl', hl2⟩ := list_nat (f := iN) (p := fun n => n ∈ l) (l := ys) fun a ha => by
      have := (hmem a).1 ha
      rw [hzs] at this
      obtain ⟨x, hx, rfl⟩ := List.mem_map.1 this
      exact ⟨x, rfl, hx⟩
    have hl'l : l'.length = ys.length := by rw [← hl']; simp
    have hw2 : w' = Go.Sort.grow (Go.Sort.mapBlock (Go.Sort.ahead w q) g (Go.Sort.putCells (Value.int .i64) 0 (ys ++ List.replicate (zs.length - ys.length) 0).toArray)) #[] := by rw [Go.Sort.grow_empty]; exact hw
    refine ⟨_, rfl, kp_put hw2, rfl, l', ?_, fun x => ⟨fun hx => hl2 x hx, fun hx => ?_⟩, ?_, by omega⟩
    · refine .inr ⟨g, cap, _, (List.replicate (zs.length - ys.length) (0 : Int)).map (Value.int .i64) ++ junk, by rw [hl'l], blk_put hb hw2, ?_, by simp; omega, by omega, hm⟩
      rw [put_list hc (by simp; omega), flat_nE, hl', List.map_append, List.append_assoc]
    · have : iN x ∈ ys := (hmem _).2 (by rw [hzs]; exact List.mem_map.2 ⟨x, hx, rfl⟩)
      rw [← hl'] at this
      obtain ⟨y, hy, e⟩ := List.mem_map.1 this
      have : y = x := by unfold iN at e; omega
      rw [← this]; exact hy
    · have := hok.1
      rw [← hl', List.pairwise_map] at this
      exact this.imp fun h => by unfold iN at h; omega
end Go.Proofs.Ytcplpogmbacnfaa
end
section
set_option maxRecDepth 100000
set_option linter.unusedSimpArgs false
set_option linter.unusedVariables false
namespace Go.Proofs.Ytcplpogmbacnfaa
open Go Go.W Go.Tk Go.Rx Go.Lm Go.Maps
def nfl (t : Nat → Bool) : Nat → Nat := fun i => if t i = true then 0 else 1
theorem nfl_upd {t : Nat → Bool} {f N : Nat} (hf : f < N) (h : t f = false) : sumV N (nfl (updN t f true)) < sumV N (nfl t) := by
  have e : nfl (updN t f true) = updN (nfl t) f 0 := by
    funext i
    by_cases hi : i = f
    · subst hi; simp [nfl]
    · rw [updN_ne hi]; simp [nfl, updN_ne hi]
  rw [e]
  exact sumV_upd hf (by simp [nfl, h])
/-- In the search for the goal zone. -/
structure Tg (A : List Ar) (c : Nat → Nat) (g : Nat) (t : Nat → Bool) : Prop where
  base : t g = true
  snd : ∀ f, t f = true → TZ A c g f
def TgC (B : List Ar) (c : Nat → Nat) (t : Nat → Bool) : Prop := ∀ a ∈ B, ∀ f, a.fr = some f → c a.op = 0 → t a.to = true → t f = true
theorem Tg.fin {A : List Ar} {c : Nat → Nat} {g : Nat} {t : Nat → Bool} (h : Tg A c g t) (hc : TgC A c t) (f : Nat) : t f = true ↔ TZ A c g f := by
  refine ⟨h.snd f, fun ht => ?_⟩
  induction ht with
  | base => exact h.base
  | step ha hf hc0 ht ih => exact hc _ ha _ hf hc0 ih
theorem Tg.step {A : List Ar} {c : Nat → Nat} {g : Nat} {t : Nat → Bool} (h : Tg A c g t) {a : Ar} {f : Nat} (ha : a ∈ A) (hf : a.fr = some f) (hc : c a.op = 0) (ht : t a.to = true) : Tg A c g (updN t f true) := {
  base := by
    by_cases e : g = f
    · subst e; simp
    · rw [updN_ne e]; exact h.base
  snd := fun x hx => by
    by_cases e : x = f
    · subst e; exact .step ha hf hc (h.snd _ ht)
    · rw [updN_ne e] at hx; exact h.snd x hx }
/-- In the search for the start zone. -/
structure Sg (A : List Ar) (S0 : List Nat) (T : Nat → Prop) (t : Nat → Bool) : Prop where
  base : ∀ f ∈ S0, t f = true
  snd : ∀ f, t f = true → SZ A S0 T f
def bgB (t : Nat → Bool) (a : Ar) : Bool := match a.fr with | none => true | some f => t f
def SgC (B : List Ar) (T t : Nat → Bool) : Prop := ∀ a ∈ B, bgB t a = true → T a.to = false → t a.to = true
theorem Sg.fin {A : List Ar} {S0 : List Nat} {T : Nat → Prop} {tb t : Nat → Bool} (h : Sg A S0 T t) (hT : ∀ f, tb f = true ↔ T f) (hc : SgC A tb t) (f : Nat) : t f = true ↔ SZ A S0 T f := by
  have hT2 : ∀ {f}, ¬ T f → tb f = false := fun {f} hn => by
    cases h : tb f with
    | false => rfl
    | true => exact absurd ((hT f).1 h) hn
  refine ⟨h.snd f, fun ht => ?_⟩
  induction ht with
  | base hf => exact h.base _ hf
  | start ha hf ht => exact hc _ ha (by unfold bgB; rw [hf]) (hT2 ht)
  | step ha hf hs ht ih => exact hc _ ha (by unfold bgB; rw [hf]; exact ih) (hT2 ht)
theorem Sg.step {A : List Ar} {S0 : List Nat} {T : Nat → Prop} {t : Nat → Bool} (h : Sg A S0 T t) {a : Ar} (ha : a ∈ A) (hb : bgB t a = true) (ht : ¬ T a.to) : Sg A S0 T (updN t a.to true) := {
  base := fun f hf => by
    by_cases e : f = a.to
    · subst e; simp
    · rw [updN_ne e]; exact h.base f hf
  snd := fun x hx => by
    by_cases e : x = a.to
    · subst e
      unfold bgB at hb
      cases hfr : a.fr with
      | none => exact .start ha hfr ht
      | some f => rw [hfr] at hb; exact .step ha hfr (h.snd f hb) ht
    · rw [updN_ne e] at hx; exact h.snd x hx }
theorem bg_iff {A : List Ar} {S0 : List Nat} {T : Nat → Prop} {t : Nat → Bool} (hS : ∀ f, t f = true ↔ SZ A S0 T f) (a : Ar) : bgB t a = true ↔ Beg A S0 T a := by
  unfold bgB Beg
  cases hfr : a.fr with
  | none => simp
  | some f => simp [hS]
/-- The operators that cross, by the first arcs. -/
def crK (A : List Ar) (tb t : Nat → Bool) : List Nat := (A.filter fun a => bgB t a && tb a.to).map (·.op)
theorem cr_take {A : List Ar} {tb t : Nat → Bool} {k : Nat} {a : Ar} (h : A[k]? = some a) : crK (A.take (k + 1)) tb t = crK (A.take k) tb t ++ if (bgB t a && tb a.to) = true then [a.op] else [] := by
  rw [take_snoc h]
  unfold crK
  rw [List.filter_append, List.map_append]
  by_cases hg : (bgB t a && tb a.to) = true
  · rw [if_pos hg]; simp [hg]
  · rw [if_neg hg]; simp [hg]
theorem cr_len (A : List Ar) (tb t : Nat → Bool) : (crK A tb t).length ≤ A.length := by
  unfold crK; rw [List.length_map]; exact List.length_filter_le _ _
theorem cr_mem {A : List Ar} {c : Nat → Nat} {S0 : List Nat} {g : Nat} {tb t : Nat → Bool} (hT : ∀ f, tb f = true ↔ TZ A c g f) (hS : ∀ f, t f = true ↔ SZ A S0 (TZ A c g) f) (op : Nat) : op ∈ crK A tb t ↔ XO A c S0 g op := by
  unfold crK XO
  rw [List.mem_map]
  constructor
  · rintro ⟨a, ha, rfl⟩
    rw [List.mem_filter, Bool.and_eq_true, bg_iff hS, hT] at ha
    exact ⟨a, ha.1, rfl, ha.2.1, ha.2.2⟩
  · rintro ⟨a, ha, rfl, h1, h2⟩
    exact ⟨a, by rw [List.mem_filter, Bool.and_eq_true, bg_iff hS, hT]; exact ⟨ha, h1, h2⟩, rfl⟩
def fB : Nat → Bool := fun _ => false
theorem tabB_false (N : Nat) : List.replicate N false = tabB N fB := by
  unfold tabB fB
  apply List.ext_getElem
  · simp
  · intro i h1 h2; simp
def setS (S : List Nat) : Nat → Bool := fun f => decide (f ∈ S)
theorem setS_snoc (S : List Nat) (f : Nat) : updN (setS S) f true = setS (S ++ [f]) := by
  funext x
  by_cases e : x = f
  · subst e; simp [setS]
  · rw [updN_ne e]; simp [setS, e]
/-- Sizes of arcs. -/
structure ArOk (A : List Ar) (N M : Nat) : Prop where
  to : ∀ a ∈ A, a.to < N
  op : ∀ a ∈ A, a.op < M
  fr : ∀ a ∈ A, ∀ f, a.fr = some f → f < N
theorem arcs_ok {UL : List Un} {V : Nat → Nat} {N M : Nat} (h : LuOk UL N M) : ArOk (arcs UL V) N M := {
  to := fun a ha => by
    obtain ⟨u, hu, _, rfl⟩ := arcs_mem ha
    exact h.made u hu
  op := fun a ha => by
    obtain ⟨u, hu, _, rfl⟩ := arcs_mem ha
    exact h.op u hu
  fr := fun a ha f hf => by
    obtain ⟨u, hu, _, rfl⟩ := arcs_mem ha
    exact h.rng u hu f (gst_some hf).1 }
def TgI (av dv tgv : Value) (A : List Ar) (c : Nat → Nat) (g N : Nat) (b : Nat) (sv : Value) (w : World) (n : Nat) (ρ : Env) (w' : World) : Prop :=
  ρ 0 = .pointer (some ⟨b, 0, none⟩) ∧ ρ 1 = sv ∧ ρ 2 = dv ∧ ρ 9 = av ∧ ρ 10 = tgv ∧ ∃ t ch, ρ 11 = .bool ch ∧ Tg A c g t ∧ (ch = false → TgC A c t) ∧ n = (if ch then sumV N (nfl t) + 1 else 0) ∧ At w [] (Star (OwnA tgv 4 1 bE (tabB N t)) (Star (OwnA av 120 3 arE A) Emp)) w'
structure Tgf (A : List Ar) (c : Nat → Nat) (g N s0 k : Nat) (ch : Bool) (t : Nat → Bool) : Prop where
  tg : Tg A c g t
  clo : ch = false → TgC (A.take k) c t
  lt : ch = true → sumV N (nfl t) < s0
  le : sumV N (nfl t) ≤ s0
def TgE (av dv tgv : Value) (A : List Ar) (c : Nat → Nat) (g N s0 : Nat) (b : Nat) (sv : Value) (w : World) (k : Nat) (ρ : Env) (w' : World) : Prop :=
  ρ 0 = .pointer (some ⟨b, 0, none⟩) ∧ ρ 1 = sv ∧ ρ 2 = dv ∧ ρ 9 = av ∧ ρ 10 = tgv ∧ ρ 40 = av ∧ ∃ t ch, ρ 11 = .bool ch ∧ Tgf A c g N s0 k ch t ∧ At w [] (Star (OwnA tgv 4 1 bE (tabB N t)) (Star (OwnA av 120 3 arE A) Emp)) w'
def SgI (av tgv sgv : Value) (A : List Ar) (S0 : List Nat) (T : Nat → Prop) (tb : Nat → Bool) (N : Nat) (w : World) (n : Nat) (ρ : Env) (w' : World) : Prop :=
  ρ 9 = av ∧ ρ 10 = tgv ∧ ρ 14 = sgv ∧ ∃ t ch, ρ 17 = .bool ch ∧ Sg A S0 T t ∧ (ch = false → SgC A tb t) ∧ n = (if ch then sumV N (nfl t) + 1 else 0) ∧ At w [] (Star (OwnA sgv 4 1 bE (tabB N t)) (Star (OwnA tgv 4 1 bE (tabB N tb)) (Star (OwnA av 120 3 arE A) Emp))) w'
structure Sgf (A : List Ar) (S0 : List Nat) (T : Nat → Prop) (tb : Nat → Bool) (N s0 k : Nat) (ch : Bool) (t : Nat → Bool) : Prop where
  sg : Sg A S0 T t
  clo : ch = false → SgC (A.take k) tb t
  lt : ch = true → sumV N (nfl t) < s0
  le : sumV N (nfl t) ≤ s0
def SgE (av tgv sgv : Value) (A : List Ar) (S0 : List Nat) (T : Nat → Prop) (tb : Nat → Bool) (N s0 : Nat) (w : World) (k : Nat) (ρ : Env) (w' : World) : Prop :=
  ρ 9 = av ∧ ρ 10 = tgv ∧ ρ 14 = sgv ∧ ρ 102 = av ∧ ∃ t ch, ρ 17 = .bool ch ∧ Sgf A S0 T tb N s0 k ch t ∧ At w [] (Star (OwnA sgv 4 1 bE (tabB N t)) (Star (OwnA tgv 4 1 bE (tabB N tb)) (Star (OwnA av 120 3 arE A) Emp))) w'
end Go.Proofs.Ytcplpogmbacnfaa
end
