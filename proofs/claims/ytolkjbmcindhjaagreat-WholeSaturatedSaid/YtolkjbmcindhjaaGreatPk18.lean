/-
  A part of the proof of this claim's statement (WhKeys, WhSort, WhB, WhC): plain theorems; no conditions beyond those each names.
-/
import Derived.Shelf.SortM.Plain
import Derived.Shelf.SortM.SortNone
import Derived.Shelf.Slices.CompactI
import Derived.Test.YtolkjbmcindhjaaGreatProg
import Derived.Test.YtolkjbmcindhjaaGreatPk15
import Derived.Lib.SlKeysI
import Derived.Test.YtolkjbmcindhjaaGreatPk17
section
namespace Go.Proofs
open Go.Shelf
def Tryz.sort60_ren : Go.Shelf.Ren := ⟨fun | 5 => 60 | 8 => 120 | 7 => 119 | 19 => 182 | 20 => 183 | 10 => 173 | 11 => 174 | 12 => 175 | 13 => 176 | 14 => 177 | 15 => 178 | 16 => 179 | 17 => 180 | 18 => 181 | 30 => 221 | 31 => 222 | 32 => 223 | 33 => 224 | 34 => 225 | 35 => 209 | 40 => 246 | n => n, fun | 23 => 22 | 25 => 3 | 3 => 3 | 32 => 205 | 22 => 22 | 0 => 0 | 44 => 285 | 46 => 287 | 4 => 4 | 36 => 278 | 35 => 277 | 41 => 248 | 5 => 5 | 9 => 9 | 53 => 325 | 57 => 329 | 63 => 346 | 64 => 347 | n => n, fun | n => n⟩
theorem Tryz.sort60 : Go.Proofs.SlLaysM.n5 Tryz.prog Tryz.sort60_ren := {
  mixed := by kernel_rfl
  f5 := ⟨Tryz.f60.name, by decide, Tryz.func60.trans (congrArg some (by kernel_rfl))⟩
  f7 := ⟨Tryz.f119.name, by decide, Tryz.func119.trans (congrArg some (by kernel_rfl))⟩
  f8 := Tryz.func120.trans (congrArg some (by kernel_rfl))
  f10 := ⟨Tryz.f173.name, by decide, Tryz.func173.trans (congrArg some (by kernel_rfl))⟩
  f11 := ⟨Tryz.f174.name, by decide, Tryz.func174.trans (congrArg some (by kernel_rfl))⟩
  f12 := ⟨Tryz.f175.name, by decide, Tryz.func175.trans (congrArg some (by kernel_rfl))⟩
  f13 := ⟨Tryz.f176.name, by decide, Tryz.func176.trans (congrArg some (by kernel_rfl))⟩
  f14 := ⟨Tryz.f177.name, by decide, Tryz.func177.trans (congrArg some (by kernel_rfl))⟩
  f15 := ⟨Tryz.f178.name, by decide, Tryz.func178.trans (congrArg some (by kernel_rfl))⟩
  f16 := ⟨Tryz.f179.name, by decide, Tryz.func179.trans (congrArg some (by kernel_rfl))⟩
  f17 := ⟨Tryz.f180.name, by decide, Tryz.func180.trans (congrArg some (by kernel_rfl))⟩
  f18 := ⟨Tryz.f181.name, by decide, Tryz.func181.trans (congrArg some (by kernel_rfl))⟩
  f19 := Tryz.func182.trans (congrArg some (by kernel_rfl))
  f20 := Tryz.func183.trans (congrArg some (by kernel_rfl))
  f30 := ⟨Tryz.f221.name, by decide, Tryz.func221.trans (congrArg some (by kernel_rfl))⟩
  f31 := Tryz.func222.trans (congrArg some (by kernel_rfl))
  f32 := Tryz.func223.trans (congrArg some (by kernel_rfl))
  f33 := ⟨Tryz.f224.name, by decide, Tryz.func224.trans (congrArg some (by kernel_rfl))⟩
  f34 := ⟨Tryz.f225.name, by decide, Tryz.func225.trans (congrArg some (by kernel_rfl))⟩
  f35 := ⟨Tryz.f209.name, by decide, Tryz.func209.trans (congrArg some (by kernel_rfl))⟩
  f40 := ⟨Tryz.f246.name, by decide, Tryz.func246.trans (congrArg some (by kernel_rfl))⟩
  t0 := Tryz.underlying0
  a0 := Tryz.isAgg0
  z0 := Tryz.sizeOf0
  v0 := Tryz.zeroValue0
  t3 := Tryz.underlying3
  a3 := Tryz.isAgg3
  z3 := Tryz.sizeOf3
  v3 := Tryz.zeroValue3
  t4 := Tryz.underlying4
  a4 := Tryz.isAgg4
  z4 := Tryz.sizeOf4
  v4 := Tryz.zeroValue4
  t5 := Tryz.underlying5
  a5 := Tryz.isAgg5
  z5 := Tryz.sizeOf5
  v5 := Tryz.zeroValue5
  t9 := Tryz.underlying9
  a9 := Tryz.isAgg9
  z9 := Tryz.sizeOf9
  v9 := Tryz.zeroValue9
  t22 := Tryz.underlying22
  a22 := Tryz.isAgg22
  z22 := Tryz.sizeOf22
  v22 := Tryz.zeroValue22
  t23 := Tryz.underlying22
  a23 := Tryz.isAgg22
  z23 := Tryz.sizeOf22
  v23 := Tryz.zeroValue22
  t25 := Tryz.underlying3
  a25 := Tryz.isAgg3
  z25 := Tryz.sizeOf3
  v25 := Tryz.zeroValue3
  t32 := Tryz.underlying205
  a32 := Tryz.isAgg205
  z32 := Tryz.sizeOf205
  v32 := Tryz.zeroValue205
  t35 := Tryz.underlying277
  a35 := Tryz.isAgg277
  z35 := Tryz.sizeOf277
  v35 := Tryz.zeroValue277
  t36 := Tryz.underlying278
  a36 := Tryz.isAgg278
  z36 := Tryz.sizeOf278
  v36 := Tryz.zeroValue278
  t41 := Tryz.underlying248
  a41 := Tryz.isAgg248
  z41 := Tryz.sizeOf248
  v41 := Tryz.zeroValue248
  t44 := Tryz.underlying285
  a44 := Tryz.isAgg285
  z44 := Tryz.sizeOf285
  v44 := Tryz.zeroValue285
  t46 := Tryz.underlying287
  a46 := Tryz.isAgg287
  z46 := Tryz.sizeOf287
  v46 := Tryz.zeroValue287
  t53 := Tryz.underlying325
  a53 := Tryz.isAgg325
  z53 := Tryz.sizeOf325
  v53 := Tryz.zeroValue325
  t57 := Tryz.underlying329
  a57 := Tryz.isAgg329
  z57 := Tryz.sizeOf329
  v57 := Tryz.zeroValue329
  t63 := Tryz.underlying346
  a63 := Tryz.isAgg346
  z63 := Tryz.sizeOf346
  v63 := Tryz.zeroValue346
  t64 := Tryz.underlying347
  a64 := Tryz.isAgg347
  z64 := Tryz.sizeOf347
  v64 := Tryz.zeroValue347 }
def Tryz.compact61_ren : Go.Shelf.Ren := ⟨fun | 20 => 61 | n => n, fun | 22 => 22 | 3 => 3 | 4 => 4 | 0 => 0 | n => n, fun | n => n⟩
theorem Tryz.compact61 : Go.Proofs.Lays2.n20 Tryz.prog Tryz.compact61_ren := {
  mixed := by kernel_rfl
  f20 := Tryz.func61.trans (congrArg some (by kernel_rfl))
  t0 := Tryz.underlying0
  a0 := Tryz.isAgg0
  z0 := Tryz.sizeOf0
  v0 := Tryz.zeroValue0
  t3 := Tryz.underlying3
  a3 := Tryz.isAgg3
  z3 := Tryz.sizeOf3
  v3 := Tryz.zeroValue3
  t4 := Tryz.underlying4
  a4 := Tryz.isAgg4
  z4 := Tryz.sizeOf4
  v4 := Tryz.zeroValue4
  t22 := Tryz.underlying22
  a22 := Tryz.isAgg22
  z22 := Tryz.sizeOf22
  v22 := Tryz.zeroValue22
  i3 := by kernel_rfl }
end Go.Proofs
end
section
set_option maxRecDepth 100000
set_option linter.unusedSimpArgs false
set_option linter.unusedVariables false
namespace Go.Proofs.YtolkjbmcindhjaaGreat
open Go Go.W Go.Tk Go.Rx Go.Maps
theorem flat_nE (l : List Nat) : l.flatMap nE = (l.map iN).map (Value.int .i64) := by
  induction l with
  | nil => rfl
  | cons x l ih => rw [List.flatMap_cons, ih]; rfl
theorem put_list {cur : Array Value} {l ys : List Int} {junk : List Value} (hc : cur.toList = l.map (Value.int .i64) ++ junk) (hy : ys.length = l.length) :
    (Go.Sort.putCells (Value.int .i64) 0 ys.toArray cur).toList = ys.map (Value.int .i64) ++ junk := by
  unfold Go.Sort.putCells
  rw [Array.toList_mapIdx, hc]
  apply List.ext_getElem?
  intro i
  rw [List.getElem?_mapIdx]
  by_cases hi : i < ys.length
  · rw [List.getElem?_append_left (by simpa [hy] using hi), List.getElem?_append_left (by simpa using hi), List.getElem?_map, List.getElem?_map, List.getElem?_eq_getElem hi, List.getElem?_eq_getElem (by omega)]
    simp [hi]
  · rw [List.getElem?_append_right (by simp; omega), List.getElem?_append_right (by simp; omega)]
    simp only [List.length_map, hy]
    cases junk[i - l.length]? with
    | none => rfl
    | some v =>
      simp
      intro h
      omega
theorem kp_put {w w' : World} {g n : Nat} {f : Array Value → Array Value} {os : Array Obj} (hw : w' = Go.Sort.grow (Go.Sort.mapBlock (Go.Sort.ahead w n) g f) os) : Kp [g] w w' := by
  subst hw
  refine ⟨rfl, rfl, rfl, ?_, fun i hi hn => ?_⟩
  · show w.heap.size ≤ ((w.heap.modify g _) ++ os).size
    simp
  · show ((w.heap.modify g (Go.Sort.onCells f)) ++ os)[i]? = w.heap[i]?
    rw [Array.getElem?_append_left (by simpa using hi), Array.getElem?_modify, if_neg (by intro e; exact hn (by simp [e]))]
theorem blk_put {w w' : World} {g n E : Nat} {f : Array Value → Array Value} {os : Array Obj} {cur : Array Value} (hb : w.heap[g]? = some (.cells cur E (0, 0))) (hw : w' = Go.Sort.grow (Go.Sort.mapBlock (Go.Sort.ahead w n) g f) os) : w'.heap[g]? = some (.cells (f cur) E (0, 0)) := by
  subst hw
  show ((w.heap.modify g (Go.Sort.onCells f)) ++ os)[g]? = _
  have hg := lt_of_blk hb
  rw [Array.getElem?_append_left (by simpa using hg), Array.getElem?_modify, if_pos rfl, hb]
  rfl
/-- slices.Sort: the row's own numbers, in order. -/
theorem sort_spec {w : World} {v : Value} {l : List Nat} (h : Go.W.Own w v 3 1 nE l) (hl : l.length ≤ 1000000) :
    Calls Tryz.prog 60 [v].toArray w fun e w' => ∃ x, e = .returned x ∧ x = .tuple #[] ∧ Kp v.own w w' ∧ ∃ l', Go.W.Own w' v 3 1 nE l' ∧ (∀ x, x ∈ l' ↔ x ∈ l) ∧ l'.Pairwise (· ≤ ·) ∧ l'.length = l.length := by
  rcases h with ⟨rfl, rfl⟩ | ⟨g, cap, cur, junk, rfl, hb, hc, hj, hle, hm⟩
  · refine Calls.mono (AnyM.slices_Sort_int_none Tryz.sort60 none 0 w) ?_
    rintro e w' ⟨rfl, rfl⟩
    exact ⟨_, rfl, rfl, Kp.refl _ _, [], Go.W.Own.nil _ _ _ _, by simp, by simp, rfl⟩
  · rw [flat_nE] at hc
    obtain ⟨zs, hzs⟩ : ∃ zs, zs = l.map iN := ⟨_, rfl⟩
    rw [← hzs] at hc
    have hzl : zs.length = l.length := by rw [hzs]; simp
    have hH : Go.Sort.Holds (Value.int .i64) w g 0 zs.toArray := by
      refine holds_of_block_i hb ?_
      rw [hc, List.take_append_of_le_length (by simp), List.take_of_length_le (by simp)]
    rw [← hzl]
    refine Calls.mono (AnyM.slices_Sort_int Tryz.sort60 g 0 cap zs w hH (lt_of_blk hb) (by omega)) ?_
    rintro e w' ⟨rfl, n, os, hw⟩
    obtain ⟨ys, hys⟩ : ∃ ys, ys = zs.mergeSort fun x y => decide (x ≤ y) := ⟨_, rfl⟩
    rw [← hys] at hw
    have hperm : ys.Perm zs := by rw [hys]; exact List.mergeSort_perm _ _
    have hpw : ys.Pairwise fun x y => x ≤ y := by
      have := List.pairwise_mergeSort (le := fun x y : Int => decide (x ≤ y)) (fun a b c h1 h2 => by simp at h1 h2 ⊢; omega) (fun a b => by simp; omega) zs
      rw [hys]
      exact this.imp fun h => by simpa using h
    have hyl : ys.length = zs.length := hperm.length_eq
    obtain ⟨l', hl', hl2⟩ := list_nat (f := iN) (p := fun n => n ∈ l) (l := ys) fun a ha => by
      have := hperm.mem_iff.1 ha
      rw [hzs] at this
      obtain ⟨x, hx, rfl⟩ := List.mem_map.1 this
      exact ⟨x, rfl, hx⟩
    have hw2 : w' = Go.Sort.grow (Go.Sort.mapBlock (Go.Sort.ahead w n) g (Go.Sort.putCells (Value.int .i64) 0 ys.toArray)) os := hw
    have hl'l : l'.length = l.length := by
      have := congrArg List.length hl'
      simp at this; omega
    refine ⟨_, rfl, rfl, kp_put hw2, l', ?_, fun x => ⟨fun hx => hl2 x hx, fun hx => ?_⟩, ?_, hl'l.trans hzl.symm⟩
    · refine .inr ⟨g, cap, _, junk, by rw [hl'l, hzl], blk_put hb hw2, ?_, by rw [hl'l]; exact hj, by omega, hm⟩
      rw [put_list hc hyl, flat_nE, hl']
    · have : iN x ∈ ys := hperm.mem_iff.2 (by rw [hzs]; exact List.mem_map.2 ⟨x, hx, rfl⟩)
      rw [← hl'] at this
      obtain ⟨y, hy, e⟩ := List.mem_map.1 this
      have : y = x := by unfold iN at e; omega
      rw [← this]; exact hy
    · rw [← hl', List.pairwise_map] at hpw
      exact hpw.imp fun h => by unfold iN at h; omega
theorem cpt_ok {d : Array Int} (hd : ∀ i j, i ≤ j → j < d.size → d[i]! ≤ d[j]!) : ∀ m, m ≤ d.size → (Go.Lib.compactUpTo d m).Pairwise (· < ·) ∧ ∀ x, x ∈ Go.Lib.compactUpTo d m ↔ ∃ j, j < m ∧ d[j]! = x
  | 0, _ => by simp [Go.Lib.compactUpTo]
  | m + 1, hm => by
    obtain ⟨h1, h2⟩ := cpt_ok hd m (by omega)
    rw [Go.Lib.compactUpTo_succ]
    by_cases hk : Go.Lib.keeps d m = true
    · rw [if_pos hk]
      unfold Go.Lib.keeps at hk
      simp only [decide_eq_true_eq] at hk
      refine ⟨List.pairwise_append.2 ⟨h1, by simp, fun a ha b hb => ?_⟩, fun x => ?_⟩
      · simp at hb; subst hb
        obtain ⟨j, hj, rfl⟩ := (h2 a).1 ha
        rcases hk with hk | hk
        · omega
        · have e1 := hd j (m - 1) (by omega) (by omega)
          have e2 := hd (m - 1) m (by omega) (by omega)
          omega
      · rw [List.mem_append, h2]
        constructor
        · rintro (⟨j, hj, e⟩ | e)
          · exact ⟨j, by omega, e⟩
          · simp at e; exact ⟨m, by omega, e.symm⟩
        · rintro ⟨j, hj, e⟩
          by_cases hjm : j = m
          · subst hjm; right; simp [e]
          · exact .inl ⟨j, by omega, e⟩
    · rw [if_neg hk, List.append_nil]
      refine ⟨h1, fun x => ?_⟩
      rw [h2]
      unfold Go.Lib.keeps at hk
      simp only [decide_eq_true_eq, not_or, Classical.not_not] at hk
      constructor
      · rintro ⟨j, hj, e⟩; exact ⟨j, by omega, e⟩
      · rintro ⟨j, hj, e⟩
        by_cases hjm : j = m
        · subst hjm; exact ⟨j - 1, by omega, by rw [← hk.2]; exact e⟩
        · exact ⟨j, by omega, e⟩
/-- slices.Compact, of an ordered row: its numbers, each once. -/
theorem compact_spec {w : World} {v : Value} {l : List Nat} (h : Go.W.Own w v 3 1 nE l) (hp : l.Pairwise (· ≤ ·)) (hl : l.length ≤ 1000000) :
    Calls Tryz.prog 61 [v].toArray w fun e w' => ∃ x, e = .returned x ∧ Kp v.own w w' ∧ x.own = v.own ∧ ∃ l', Go.W.Own w' x 3 1 nE l' ∧ (∀ x, x ∈ l' ↔ x ∈ l) ∧ l'.Pairwise (· < ·) ∧ l'.length ≤ l.length := by
  rcases h with ⟨rfl, rfl⟩ | ⟨g, cap, cur, junk, rfl, hb, hc, hj, hle, hm⟩
  · refine Calls.mono (Any.slices_Compact_int_empty Tryz.compact61 none 0 w) ?_
    rintro e w' ⟨rfl, rfl⟩
    exact ⟨_, rfl, Kp.refl _ _, rfl, [], Go.W.Own.nil _ _ _ _, by simp, by simp, by simp⟩
  · rw [flat_nE] at hc
    obtain ⟨zs, hzs⟩ : ∃ zs, zs = l.map iN := ⟨_, rfl⟩
    rw [← hzs] at hc
    have hzl : zs.length = l.length := by rw [hzs]; simp
    have hH : Go.Sort.Holds (Value.int .i64) w g 0 zs.toArray := by
      refine holds_of_block_i hb ?_
      rw [hc, List.take_append_of_le_length (by simp), List.take_of_length_le (by simp)]
    have hpz : zs.Pairwise (· ≤ ·) := by
      rw [hzs, List.pairwise_map]
      exact hp.imp fun h => by unfold iN; omega
    rw [← hzl]
    refine Calls.mono (Any.slices_Compact_int Tryz.compact61 g 0 cap zs w hH (by omega) (by omega)) ?_
    rintro e w' ⟨rfl, q, hw⟩
    have hok := cpt_ok (d := zs.toArray) (fun i j hij hjs => by
      have hjs : j < zs.length := by simpa using hjs
      by_cases e : i = j
      · subst e; exact Int.le_refl _
      · have := List.pairwise_iff_getElem.1 hpz i j (by omega) hjs (by omega)
        simpa [getElem!_pos, hjs, show i < zs.length by omega] using this) zs.length (by simp)
    obtain ⟨ys, hys⟩ : ∃ ys, ys = Go.Lib.compact zs := ⟨_, rfl⟩
    have hys2 : ys = Go.Lib.compactUpTo zs.toArray zs.length := hys
    rw [← hys2] at hok
    have hyl : ys.length ≤ zs.length := by
      rw [hys2]
      unfold Go.Lib.compactUpTo
      rw [List.length_map]
      refine Nat.le_trans (List.length_filter_le _ _) ?_
      simp
    rw [← hys] at hw ⊢
    have hmem : ∀ x, x ∈ ys ↔ x ∈ zs := fun x => by
      rw [hok.2 x]
      constructor
      · rintro ⟨j, hj, rfl⟩
        simp [getElem!_pos, hj]
      · intro hx
        obtain ⟨j, hj, rfl⟩ := List.getElem_of_mem hx
        exact ⟨j, hj, by simp [getElem!_pos, hj]⟩
    obtain ⟨l', hl', hl2⟩ := list_nat (f := iN) (p := fun n => n ∈ l) (l := ys) fun a ha => by
      have := (hmem a).1 ha
      rw [hzs] at this
      obtain ⟨x, hx, rfl⟩ := List.mem_map.1 this
      exact ⟨x, rfl, hx⟩
    have hl'l : l'.length = ys.length := by rw [← hl']; simp
    have hw2 : w' = Go.Sort.grow (Go.Sort.mapBlock (Go.Sort.ahead w q) g (Go.Sort.putCells (Value.int .i64) 0 (ys ++ List.replicate (zs.length - ys.length) 0).toArray)) #[] := by rw [Go.Sort.grow_empty]; exact hw
    refine ⟨_, rfl, kp_put hw2, rfl, l', ?_, fun x => ⟨fun hx => hl2 x hx, fun hx => ?_⟩, ?_, by omega⟩
    · refine .inr ⟨g, cap, _, (List.replicate (zs.length - ys.length) (0 : Int)).map (Value.int .i64) ++ junk, by rw [hl'l], blk_put hb hw2, ?_, by simp; omega, by omega, hm⟩
      rw [put_list hc (by simp; omega), flat_nE, hl', List.map_append, List.append_assoc]
    · have : iN x ∈ ys := (hmem _).2 (by rw [hzs]; exact List.mem_map.2 ⟨x, hx, rfl⟩)
      rw [← hl'] at this
      obtain ⟨y, hy, e⟩ := List.mem_map.1 this
      have : y = x := by unfold iN at e; omega
      rw [← this]; exact hy
    · have := hok.1
      rw [← hl', List.pairwise_map] at this
      exact this.imp fun h => by unfold iN at h; omega
end Go.Proofs.YtolkjbmcindhjaaGreat
end
section
set_option maxRecDepth 100000
set_option linter.unusedSimpArgs false
set_option linter.unusedVariables false
namespace Go.Proofs.YtolkjbmcindhjaaGreat
open Go Go.W Go.Tk Go.Rx Go.Maps
/-- A condition is known inside. -/
def gdF (p : List Nat) (o : No) (l : List Nat) (f : Fc) : Prop := f.1 ∈ p ∨ hasB o.pre f.1 = true ∨ f.1 ∈ l
theorem gdF.mono {p l l' : List Nat} {o : No} {f : Fc} (h : gdF p o l f) (hs : ∀ x ∈ l, x ∈ l') : gdF p o l' f := by
  rcases h with h | h | h
  · exact .inl h
  · exact .inr (.inl h)
  · exact .inr (.inr (hs _ h))
structure Osd (o : No) (p : List Nat) (N k : Nat) (l : List Nat) : Prop where
  nd : l.Nodup
  rng : ∀ v ∈ l, v < N ∧ v ∉ p
  np : ∀ v ∈ l, hasB o.pre v = false
  ok : ∀ e ∈ o.effs.take k, e.v ∈ p → ∀ f ∈ e.cnd, gdF p o l f
theorem Osd.len {o : No} {p : List Nat} {N k : Nat} {l : List Nat} (h : Osd o p N k l) : l.length ≤ N := nodup_le l N h.nd fun v hv => (h.rng v hv).1
theorem Osd.len2 {o : No} {p : List Nat} {N k : Nat} {l : List Nat} (h : Osd o p N k l) (hp : p.Nodup) (hpr : ∀ v ∈ p, v < N) : l.length + p.length ≤ N := by
  have := nodup_le (l ++ p) N (by
    rw [List.nodup_append]
    exact ⟨h.nd, hp, fun a ha b hb e => by subst e; exact (h.rng a ha).2 hb⟩) (fun v hv => by
    rcases List.mem_append.1 hv with h1 | h1
    · exact (h.rng v h1).1
    · exact hpr v h1)
  simpa using this
/-- What outside gives. -/
structure Osr (o : No) (p : List Nat) (N : Nat) (l : List Nat) : Prop where
  len : l.length + p.length ≤ N
  rng : ∀ v ∈ l, v < N ∧ v ∉ p
  np : ∀ v ∈ l, hasB o.pre v = false
  ok : ∀ e ∈ o.effs, e.v ∈ p → ∀ f ∈ e.cnd, gdF p o l f
def OsI (o : No) (pv ev : Value) (p : List Nat) (N b : Nat) (w : World) (k : Nat) (ρ : Env) (w' : World) : Prop :=
  ρ 1 = pv ∧ ρ 2 = .pointer (some ⟨b, 0, none⟩) ∧ ρ 11 = ev ∧ ∃ l, Osd o p N k l ∧ At w [] (Star (OwnA (ρ 5) 3 1 nE l) (Star (ObjA b (noO o)) Emp)) w'
def OsJ (o : No) (pv ev cv : Value) (p : List Nat) (N b k m : Nat) (cs : List Fc) (w : World) (j : Nat) (ρ : Env) (w' : World) : Prop :=
  ρ 1 = pv ∧ ρ 2 = .pointer (some ⟨b, 0, none⟩) ∧ ρ 11 = ev ∧ ρ 13 = .int .i64 (k : Nat) ∧ ρ 12 = .int .i64 (m : Nat) ∧ ρ 23 = cv ∧ ∃ l, Osd o p N k l ∧ (∀ f ∈ cs.take j, gdF p o l f) ∧ At w [] (Star (OwnA (ρ 5) 3 1 nE l) (Star (ObjA b (noO o)) Emp)) w'
set_option maxHeartbeats 1000000 in
theorem outside_spec {w : World} (o : No) (pv : Value) (p vars : List Nat) (hro : NoR w o) (hgo : NoG vars o) (hpv : Vw w pv nE p) (hpn : p.Nodup) (hpr : ∀ v ∈ p, v < vars.length) (hpl : p.length ≤ 1000) (hvl : vars.length ≤ 64) :
    Calls Tryz.prog 169 [noV o, pv].toArray w fun e w' => ∃ u, e = .returned u ∧ ∃ l, Osr o p vars.length l ∧ Nw w w' u 3 1 nE l := by
  refine enter Tryz.func169 mixed low169 (Nat.le_of_ble_eq_true rfl) ?_
  simp only [L169]
  obtain ⟨b, hb⟩ : ∃ b, b = w.heap.size := ⟨_, rfl⟩
  have h1 : At w [] (Star (ObjA b (noO o)) Emp) (w.alloc (noO o)) := by rw [hb]; exact (At.start rfl).alloc _ .emp
  obtain ⟨w1, hw1⟩ : ∃ w1, w1 = w.alloc (noO o) := ⟨_, rfl⟩
  rw [← hw1] at h1
  have hw1' : w.alloc (.cells #[.string o.name, .int .i64 (o.cost : Nat), o.pv.1, o.ev.1] 41 (0, 0)) = w1 := by rw [hw1]; rfl
  have hob := h1.obj
  unfold noO oqO No.raw at hob
  have helen := hgo.elen
  have hpre := hgo.pre.len
  have h2 : At w [] (Star (OwnA (.slice none 0 0) 3 1 nE ([] : List Nat)) (Star (ObjA b (noO o)) Emp)) w1 := At.nil (Lcl.obj.star .emp) h1
  have hro1 := hro.kp h1.kp
  simp [noV, ← hb, hw1', cell_blk hob, hro1.effs.len]
  refine range_loop (n := o.effs.length) (by omega) (OsI o pv o.ev.1 p vars.length b w) (by simp) (by simp)
    ⟨by simp, by simp, by simp, [], ⟨by simp, by simp, by simp, by simp⟩, by simpa using h2⟩ (by decide) (fun _ _ _ _ h => by simpa [OsI] using h) (fun _ _ _ _ h => by simpa [OsI] using h) ?_ ?_
  rotate_left
  · rintro ρ w3 ⟨g1, g2, g11, l, hl, h3⟩
    have hll := hl.len
    have h3' := h3
    simp
    refine cl_of (sort_spec h3.own (by omega)) ?_
    rintro _ w4 ⟨rfl, hk4, l', hO4, hm, _, hlen⟩
    have h4 : At w [] (Star (OwnA (ρ 5) 3 1 nE l') (Star (ObjA b (noO o)) Emp)) w4 := h3.step Lcl.own (Lcl.obj.star .emp) (by
      rintro Fa ⟨_, rfl⟩
      exact ⟨_, ⟨hO4, rfl⟩, hk4, fun x hx => .inl hx⟩)
    simp
    exact ⟨l', ⟨by rw [hlen]; exact hl.len2 hpn hpr, fun v hv => hl.rng v ((hm v).1 hv), fun v hv => hl.np v ((hm v).1 hv), fun e he hv f hf => (hl.ok e (by rwa [List.take_length]) hv f hf).mono fun x hx => (hm x).2 hx⟩, Nw.of h4⟩
  rintro k ρ w3 hk hc hlm ⟨g1, g2, g11, l, hl, h3⟩
  obtain ⟨e, he⟩ : ∃ e, o.effs[k]? = some e := ⟨_, List.getElem?_eq_getElem hk⟩
  have hem := List.mem_of_getElem? he
  have hro3 := hro.kp h3.kp
  have ece := hro3.effs.cells nfE_len he
  simp only [nfE] at ece
  have hki : (k : Int) < o.effs.length := by omega
  obtain ⟨fb, hfb⟩ : ∃ fb, fb = w3.heap.size := ⟨_, rfl⟩
  have hL : ∀ v l, Lcl (Star (OwnA v 3 1 nE l) (Star (ObjA b (noO o)) Emp)) := fun _ _ => Lcl.own.star (Lcl.obj.star .emp)
  simp (disch := omega) [g11, hc, hlm, hro3.effs.idx, ece, ← hfb]
  refine st_ef (e := e.raw) (hL _ _) h3 hfb fun w4 h4 => ?_
  have oe4 := h4.obj
  unfold efO Nf.raw at oe4
  rw [hfb] at oe4
  have hgc := hgo.cnd e hem
  have hcl := hgc.len
  simp (disch := omega) [cell_blk oe4, g1]
  refine cl_of (containsI_spec pv p e.v (hpv.kp0 h4.kp) (by omega)) ?_
  rintro _ w5 ⟨rfl, k5⟩
  have h5 := h4.kp0 (Lcl.obj.star (hL _ _)) k5
  have htk := take_snoc he
  by_cases hin : e.v ∈ p
  case neg =>
    simp [hin, hc, hlm, g1, g2, g11]
    refine ⟨by simp [g1], by simp [g2], by simp [g11], l, ⟨hl.nd, hl.rng, hl.np, fun e' he' hv f hf => ?_⟩, by simpa using h5.drop⟩
    rw [htk] at he'
    rcases List.mem_append.1 he' with h | h
    · exact hl.ok e' h hv f hf
    · simp at h; subst h; exact absurd hv hin
  have oe5 := h5.obj
  unfold efO Nf.raw at oe5
  rw [hfb] at oe5
  have hcv5 := ((hro.kp h5.kp).cnd e hem)
  simp [hin, cell_blk oe5, hcv5.len]
  refine range_loop (n := e.cnd.length) (by omega) (OsJ o pv o.ev.1 e.wv.1 p vars.length b k o.effs.length e.cnd w) (by simp) (by simp)
    ⟨by simp [g1], by simp [g2], by simp [g11], by simp [hc], by simp [hlm], by simp, l, hl, by simp, by simpa using h5.drop⟩ (by decide) (fun _ _ _ _ h => by simpa [OsJ] using h) (fun _ _ _ _ h => by simpa [OsJ] using h) ?_ ?_
  rotate_left
  · rintro ρ w6 ⟨g1, g2, g11, hc, hlm, g23, l, hl, hj, h6⟩
    simp [hc, hlm]
    refine ⟨by simp [g1], by simp [g2], by simp [g11], l, ⟨hl.nd, hl.rng, hl.np, fun e' he' hv f hf => ?_⟩, by simpa using h6⟩
    rw [htk] at he'
    rcases List.mem_append.1 he' with h | h
    · exact hl.ok e' h hv f hf
    · simp at h; subst h; exact hj f (by rwa [List.take_length])
  clear h3 hl g1 g2 g11 hc hlm h4 h5 oe4 oe5 hcv5 ece hro3 k5 hob h1 h2
  rintro j ρ w6 hj hcj hlj ⟨g1, g2, g11, hc, hlm, g23, l, hl, hjs, h6⟩
  obtain ⟨f, hf⟩ : ∃ f, e.cnd[j]? = some f := ⟨_, List.getElem?_eq_getElem hj⟩
  have hfm := List.mem_of_getElem? hf
  have hcv6 := (hro.kp h6.kp).cnd e hem
  have ecf := hcv6.cells fcE_len hf
  simp only [fcE] at ecf
  obtain ⟨gb, hgb⟩ : ∃ gb, gb = w6.heap.size := ⟨_, rfl⟩
  have hji : (j : Int) < e.cnd.length := by omega
  have hll := hl.len
  simp (disch := omega) [g23, hcj, hlj, hcv6.idx, ecf, ← hgb]
  refine st_fa (f := faN f) (hL _ _) h6 hgb fun w7 h7 => ?_
  have of7 := h7.obj
  simp only [faN, faO] at of7
  have of7' := of7
  rw [hgb] at of7
  simp (disch := omega) [cell_blk of7, g1]
  refine cl_of (containsI_spec pv p f.1 (hpv.kp0 h7.kp) (by omega)) ?_
  rintro _ w8 ⟨rfl, k8⟩
  have h8 := h7.kp0 (Lcl.obj.star (hL _ _)) k8
  have htf := take_snoc hf
  have skip : ∀ {W : World}, gdF p o l f → At w [] (Star (OwnA (ρ 5) 3 1 nE l) (Star (ObjA b (noO o)) Emp)) W → (Osd o p vars.length k l ∧ (∀ f' ∈ e.cnd.take (j + 1), gdF p o l f') ∧ At w [] (Star (OwnA (ρ 5) 3 1 nE l) (Star (ObjA b (noO o)) Emp)) W) := fun hg hA => by
    refine ⟨hl, fun f' hf' => ?_, hA⟩
    rw [htf] at hf'
    rcases List.mem_append.1 hf' with h | h
    · exact hjs f' h
    · simp at h; subst h; exact hg
  by_cases t1 : f.1 ∈ p
  · simp [t1, g1, g2, g11, hc, hlm, g23, hcj, hlj]
    exact ⟨by simp [g1], by simp [g2], by simp [g11], by simp [hc], by simp [hlm], by simp [g23], l, by simpa using skip (.inl t1) h8.drop⟩
  have ob8 := h8.drop.drop.obj
  unfold noO oqO No.raw at ob8
  have of8 := h8.obj
  rw [hgb] at of8
  simp [t1, g2, cell_blk ob8, cell_blk of8]
  refine cl_of (has_spec o.pv.1 o.pre f.1 (hro.kp h8.kp).pre (by omega)) ?_
  rintro _ w9 ⟨rfl, k9⟩
  have h9 := h8.kp0 (Lcl.obj.star (hL _ _)) k9
  cases t2 : hasB o.pre f.1 with
  | true =>
    simp [g1, g2, g11, hc, hlm, g23, hcj, hlj]
    exact ⟨by simp [g1], by simp [g2], by simp [g11], by simp [hc], by simp [hlm], by simp [g23], l, by simpa using skip (.inr (.inl t2)) h9.drop⟩
  | false =>
    have of9 := h9.obj
    rw [hgb] at of9
    simp [cell_blk of9]
    refine cl_of (containsI_spec (ρ 5) l f.1 h9.drop.own.vw (by omega)) ?_
    rintro _ wA ⟨rfl, kA⟩
    have hA := h9.kp0 (Lcl.obj.star (hL _ _)) kA
    by_cases t3 : f.1 ∈ l
    · simp [t3, g1, g2, g11, hc, hlm, g23, hcj, hlj]
      exact ⟨by simp [g1], by simp [g2], by simp [g11], by simp [hc], by simp [hlm], by simp [g23], l, by simpa using skip (.inr (.inr t3)) hA.drop⟩
    · have ofA := hA.obj
      rw [hgb] at ofA
      simp [t3, cell_blk ofA]
      refine nat_append (x := f.1) (Lcl.obj.star .emp) hA.drop (by omega) fun v' wB hB => ?_
      simp [g1, g2, g11, hc, hlm, g23, hcj, hlj]
      refine ⟨by simp [g1], by simp [g2], by simp [g11], by simp [hc], by simp [hlm], by simp [g23], l ++ [f.1], ⟨?_, fun v hv => ?_, fun v hv => ?_, fun e' he' hv f' hf' => (hl.ok e' he' hv f' hf').mono fun x hx => by simp [hx]⟩, fun f' hf' => ?_, by simpa using hB⟩
      · rw [List.nodup_append]
        exact ⟨hl.nd, by simp, fun a ha b' hb' => by simp at hb'; subst hb'; intro e'; subst e'; exact t3 ha⟩
      · rcases List.mem_append.1 hv with h | h
        · exact hl.rng v h
        · simp at h; subst h; exact ⟨(hgc.rng f hfm).1, t1⟩
      · rcases List.mem_append.1 hv with h | h
        · exact hl.np v h
        · simp at h; subst h; exact t2
      · rw [htf] at hf'
        rcases List.mem_append.1 hf' with h | h
        · exact (hjs f' h).mono fun x hx => by simp [hx]
        · simp at h; subst h; exact .inr (.inr (by simp))
end Go.Proofs.YtolkjbmcindhjaaGreat
end
section
set_option maxRecDepth 100000
set_option linter.unusedSimpArgs false
set_option linter.unusedVariables false
namespace Go.Proofs.YtolkjbmcindhjaaGreat
open Go Go.W Go.Tk Go.Rx
/-- A state in which the operator can be applied, with the abstract state f. -/
structure Cx (T : Nt) (o : No) (p : List Nat) (f : Nat) (x : List Nat) : Prop where
  st : StN T.vars x
  pre : hdB x o.pre = true
  nb : nbS T.vars x p = f
structure SI (T : Nt) (o : No) (p : List Nat) (f : Nat) (D : Nat → Prop) (s : List Nat) : Prop where
  len : s.length = T.vars.length
  rng : ∀ u, u < T.vars.length → s.getD u 0 < T.vars.getD u 0
  agr : ∀ x, Cx T o p f x → ∀ u, D u → s.getD u 0 = x.getD u 0
theorem SI.st {T : Nt} {o : No} {p : List Nat} {f : Nat} {D : Nat → Prop} {s : List Nat} (h : SI T o p f D s) : StN T.vars s := ⟨h.len, h.rng⟩
theorem SI.mono {T : Nt} {o : No} {p : List Nat} {f : Nat} {D D' : Nat → Prop} {s : List Nat} (h : SI T o p f D s) (hd : ∀ u, D' u → D u) : SI T o p f D' s := ⟨h.len, h.rng, fun x hx u hu => h.agr x hx u (hd u hu)⟩
theorem vpos {T : Nt} (hg : NtG T) {u : Nat} (hu : u < T.vars.length) : 1 ≤ T.vars.getD u 0 ∧ T.vars.getD u 0 ≤ 64 := hg.vars _ (mem_getD hu)
theorem putR_st {T : Nt} (hg : NtG T) {r s : List Nat} {n : Nat} (hr : ∀ v ∈ r, v < T.vars.length) (hl : s.length = T.vars.length) (hs : ∀ u, u < T.vars.length → s.getD u 0 < T.vars.getD u 0) : ∀ u, u < T.vars.length → (putR T.vars r s n).getD u 0 < T.vars.getD u 0 := fun u hu => by
  by_cases h : u ∈ r
  · exact putR_rng (fun v hv => ⟨by rw [hl]; exact hr v hv, (vpos hg (hr v hv)).1⟩) h
  · rw [putR_out h]; exact hs u hu
theorem SI.start {T : Nt} (hg : NtG T) {o : No} {p : List Nat} {f : Nat} (hp : ∀ v ∈ p, v < T.vars.length) : SI T o p f (fun u => u ∈ p ∨ hasB (o.pre.take 0) u = true) (putR T.vars p.reverse (List.replicate T.vars.length 0) f) := {
  len := by rw [putR_len]; simp
  rng := putR_st hg (fun v hv => hp v (by simpa using hv)) (by simp) fun u hu => by
    have := (vpos hg hu).1
    simp [List.getD, hu]
    simp [List.getD, hu] at this
    omega
  agr := fun x hx u hu => by
    rcases hu with hu | hu
    · rw [← hx.nb]
      exact putR_nb (fun v hv => ⟨by simp; exact hp v hv, hx.st.rng v (hp v hv)⟩) hu
    · simp [hasB] at hu }
theorem hdB_at {s : List Nat} {l : List Fc} {f : Fc} (h : hdB s l = true) (hf : f ∈ l) : s.getD f.1 0 = f.2 := by
  unfold hdB at h
  rw [List.all_eq_true] at h
  simpa using h f hf
theorem hasB_snoc {l : List Fc} {k u : Nat} {f : Fc} (h : l[k]? = some f) : hasB (l.take (k + 1)) u = true ↔ hasB (l.take k) u = true ∨ f.1 = u := by
  rw [take_snoc h]
  unfold hasB
  simp
theorem SI.pre_in {T : Nt} {o : No} {p : List Nat} {f k : Nat} {s : List Nat} {g : Fc} (h : SI T o p f (fun u => u ∈ p ∨ hasB (o.pre.take k) u = true) s) (hg : o.pre[k]? = some g) (hin : g.1 ∈ p) : SI T o p f (fun u => u ∈ p ∨ hasB (o.pre.take (k + 1)) u = true) s :=
  h.mono fun u hu => by
    rcases hu with hu | hu
    · exact .inl hu
    · rcases (hasB_snoc hg).1 hu with h1 | h1
      · exact .inr h1
      · subst h1; exact .inl hin
theorem SI.pre_out {T : Nt} {o : No} {p : List Nat} {f k : Nat} {s : List Nat} {g : Fc} (h : SI T o p f (fun u => u ∈ p ∨ hasB (o.pre.take k) u = true) s) (hg : o.pre[k]? = some g) (h1 : g.1 < T.vars.length) (h2 : g.2 < T.vars.getD g.1 0) : SI T o p f (fun u => u ∈ p ∨ hasB (o.pre.take (k + 1)) u = true) (s.set g.1 g.2) := {
  len := by rw [List.length_set]; exact h.len
  rng := fun u hu => by
    by_cases e : g.1 = u
    · subst e; rw [Go.Rx.getD_set_same (by rw [h.len]; exact hu)]; exact h2
    · rw [Go.Rx.getD_set_ne e]; exact h.rng u hu
  agr := fun x hx u hu => by
    by_cases e : g.1 = u
    · subst e
      rw [Go.Rx.getD_set_same (by rw [h.len]; exact h1)]
      exact (hdB_at hx.pre (List.mem_of_getElem? hg)).symm
    · rw [Go.Rx.getD_set_ne e]
      refine h.agr x hx u ?_
      rcases hu with hu | hu
      · exact .inl hu
      · rcases (hasB_snoc hg).1 hu with h3 | h3
        · exact .inr h3
        · exact absurd h3 e }
theorem SI.none {T : Nt} {o : No} {p : List Nat} {f k : Nat} {s : List Nat} {g : Fc} {D : Nat → Prop} (h : SI T o p f D s) (hg : o.pre[k]? = some g) (hin : D g.1) (hne : s.getD g.1 0 ≠ g.2) (x : List Nat) (hx : Cx T o p f x) : False :=
  hne ((h.agr x hx _ hin).trans (hdB_at hx.pre (List.mem_of_getElem? hg)))
theorem SI.free {T : Nt} (hg : NtG T) {o : No} {p l : List Nat} {f k : Nat} {s : List Nat} {D : Nat → Prop} (h : SI T o p f D s) (hl : ∀ v ∈ l, v < T.vars.length ∧ ¬ D v) : SI T o p f D (putR T.vars l.reverse s k) := {
  len := by rw [putR_len]; exact h.len
  rng := putR_st hg (fun v hv => (hl v (by simpa using hv)).1) h.len h.rng
  agr := fun x hx u hu => by
    rw [putR_out (fun hm => (hl u (by simpa using hm)).2 hu)]
    exact h.agr x hx u hu }
/-- The state behind some effects, on the pattern. -/
structure EI (T : Nt) (o : No) (p l : List Nat) (f k j : Nat) (s : List Nat) : Prop where
  len : s.length = T.vars.length
  rng : ∀ u, u < T.vars.length → s.getD u 0 < T.vars.getD u 0
  agr : ∀ x, Cx T o p f x → nbS T.vars x l = k → ∀ u ∈ p, s.getD u 0 = (apK o x j).getD u 0
theorem EI.start {T : Nt} {o : No} {p l : List Nat} {f k : Nat} {s : List Nat} {D : Nat → Prop} (h : SI T o p f D s) (hD : ∀ u ∈ p, D u) : EI T o p l f k 0 s := ⟨h.len, h.rng, fun x hx _ u hu => by
  rw [h.agr x hx u (hD u hu)]
  simp [apK]⟩
theorem free_at {T : Nt} {o : No} {p l : List Nat} {f k : Nat} {s : List Nat} {x : List Nat} (hx : Cx T o p f x) (hl : ∀ v ∈ l, v < T.vars.length) (hs : s.length = T.vars.length) (e : nbS T.vars x l = k) : ∀ u ∈ l, (putR T.vars l.reverse s k).getD u 0 = x.getD u 0 := fun u hu => by
  rw [← e]
  exact putR_nb (fun v hv => ⟨by rw [hs]; exact hl v hv, hx.st.rng v (hl v hv)⟩) hu
/-- The condition of an effect on the pattern holds alike. -/
theorem cond_same {T : Nt} {o : No} {p l : List Nat} {f k : Nat} {s sk : List Nat} {x : List Nat} {e : Nf} (hx : Cx T o p f x) (ho : Osr o p T.vars.length l) (he : e ∈ o.effs) (hv : e.v ∈ p) (hs : SI T o p f (fun u => u ∈ p ∨ hasB o.pre u = true) sk) (hf : ∀ u ∈ l, sk.getD u 0 = x.getD u 0) : hdB sk e.cnd = hdB x e.cnd := by
  have key : ∀ g ∈ e.cnd, sk.getD g.1 0 = x.getD g.1 0 := fun g hg => by
    rcases ho.ok e he hv g hg with h | h | h
    · exact hs.agr x hx _ (.inl h)
    · exact hs.agr x hx _ (.inr h)
    · exact hf _ h
  unfold hdB
  rw [Bool.eq_iff_iff, List.all_eq_true, List.all_eq_true]
  constructor
  · intro h g hg
    have := h g hg
    rwa [key g hg] at this
  · intro h g hg
    rw [key g hg]
    exact h g hg
theorem EI.skip {T : Nt} {o : No} {p l : List Nat} {f k j : Nat} {s : List Nat} {e : Nf} (h : EI T o p l f k j s) (he : o.effs[j]? = some e) (hn : ∀ x, Cx T o p f x → nbS T.vars x l = k → e.v ∈ p → hdB x e.cnd = false) : EI T o p l f k (j + 1) s := ⟨h.len, h.rng, fun x hx hk u hu => by
  rw [h.agr x hx hk u hu, apK_succ he]
  split
  · rename_i hh
    by_cases e1 : e.v = u
    · subst e1
      rw [hn x hx hk hu] at hh; cases hh
    · rw [Go.Rx.getD_set_ne e1]
  · rfl⟩
theorem EI.set {T : Nt} {o : No} {p l : List Nat} {f k j : Nat} {s : List Nat} {e : Nf} (h : EI T o p l f k j s) (he : o.effs[j]? = some e) (h1 : e.v < T.vars.length) (h2 : e.x < T.vars.getD e.v 0) (hn : ∀ x, Cx T o p f x → nbS T.vars x l = k → hdB x e.cnd = true) : EI T o p l f k (j + 1) (s.set e.v e.x) := ⟨by rw [List.length_set]; exact h.len, fun u hu => by
  by_cases e1 : e.v = u
  · subst e1; rw [Go.Rx.getD_set_same (by rw [h.len]; exact hu)]; exact h2
  · rw [Go.Rx.getD_set_ne e1]; exact h.rng u hu, fun x hx hk u hu => by
  rw [apK_succ he, hn x hx hk, if_pos rfl]
  by_cases e1 : e.v = u
  · subst e1
    rw [Go.Rx.getD_set_same (by rw [h.len]; exact h1), Go.Rx.getD_set_same (by rw [apK_len, hx.st.len]; exact h1)]
  · rw [Go.Rx.getD_set_ne e1, Go.Rx.getD_set_ne e1]; exact h.agr x hx hk u hu⟩
/-- What has been found when some combinations have been looked at. -/
structure YI (T : Nt) (o : No) (p l : List Nat) (f k : Nat) (ys : List Nat) : Prop where
  len : ys.length = k
  rng : ∀ y ∈ ys, y < szS T.vars p
  hit : ∀ x, Cx T o p f x → nbS T.vars x l < k → nbS T.vars (apS o x) p ∈ ys
theorem YI.next {T : Nt} {o : No} {p l : List Nat} {f k : Nat} {ys s : List Nat} (hp : ∀ v ∈ p, v < T.vars.length) (h : YI T o p l f k ys) (he : EI T o p l f k o.effs.length s) : YI T o p l f (k + 1) (ys ++ [nbS T.vars s p]) := ⟨by simp [h.len], fun y hy => by
  rcases List.mem_append.1 hy with h1 | h1
  · exact h.rng y h1
  · simp at h1; subst h1
    exact nbS_lt fun v hv => he.rng v (hp v hv), fun x hx hk => by
  by_cases e : nbS T.vars x l = k
  · rw [nbS_congr (s := apS o x) (t := s) fun v hv => (he.agr x hx e v hv).symm]
    simp
  · exact List.mem_append_left _ (h.hit x hx (by omega))⟩
end Go.Proofs.YtolkjbmcindhjaaGreat
end
