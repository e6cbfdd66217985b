/-
  A part of the proof of this claim's statement (LmW4, LmW5): plain theorems; no conditions beyond those each names.
-/
import Derived.Test.YtcplpogmbacnfaaPk15
import Derived.Lib.SlKeysI
section
set_option maxRecDepth 100000
set_option linter.unusedSimpArgs false
set_option linter.unusedVariables false
namespace Go.Proofs.Ytcplpogmbacnfaa
open Go Go.W Go.Tk Go.Rx Go.Lm Go.Maps
theorem flat_nE (l : List Nat) : l.flatMap nE = (l.map iN).map (Value.int .i64) := by
  induction l with
  | nil => rfl
  | cons x l ih => rw [List.flatMap_cons, ih]; rfl
theorem put_list {cur : Array Value} {l ys : List Int} {junk : List Value} (hc : cur.toList = l.map (Value.int .i64) ++ junk) (hy : ys.length = l.length) :
    (Go.Sort.putCells (Value.int .i64) 0 ys.toArray cur).toList = ys.map (Value.int .i64) ++ junk := by
  unfold Go.Sort.putCells
  rw [Array.toList_mapIdx, hc]
  apply List.ext_getElem?
  intro i
  rw [List.getElem?_mapIdx]
  by_cases hi : i < ys.length
  · rw [List.getElem?_append_left (by simpa [hy] using hi), List.getElem?_append_left (by simpa using hi), List.getElem?_map, List.getElem?_map, List.getElem?_eq_getElem hi, List.getElem?_eq_getElem (by omega)]
    simp [hi]
  · rw [List.getElem?_append_right (by simp; omega), List.getElem?_append_right (by simp; omega)]
    simp only [List.length_map, hy]
    cases junk[i - l.length]? with
    | none => rfl
    | some v =>
      simp
      intro h
      omega
theorem kp_put {w w' : World} {g n : Nat} {f : Array Value → Array Value} {os : Array Obj} (hw : w' = Go.Sort.grow (Go.Sort.mapBlock (Go.Sort.ahead w n) g f) os) : Kp [g] w w' := by
  subst hw
  refine ⟨rfl, rfl, rfl, ?_, fun i hi hn => ?_⟩
  · show w.heap.size ≤ ((w.heap.modify g _) ++ os).size
    simp
  · show ((w.heap.modify g (Go.Sort.onCells f)) ++ os)[i]? = w.heap[i]?
    rw [Array.getElem?_append_left (by simpa using hi), Array.getElem?_modify, if_neg (by intro e; exact hn (by simp [e]))]
theorem blk_put {w w' : World} {g n E : Nat} {f : Array Value → Array Value} {os : Array Obj} {cur : Array Value} (hb : w.heap[g]? = some (.cells cur E (0, 0))) (hw : w' = Go.Sort.grow (Go.Sort.mapBlock (Go.Sort.ahead w n) g f) os) : w'.heap[g]? = some (.cells (f cur) E (0, 0)) := by
  subst hw
  show ((w.heap.modify g (Go.Sort.onCells f)) ++ os)[g]? = _
  have hg := lt_of_blk hb
  rw [Array.getElem?_append_left (by simpa using hg), Array.getElem?_modify, if_pos rfl, hb]
  rfl
/-- slices.Sort: the row's own numbers, in order. -/
theorem sort_spec {w : World} {v : Value} {l : List Nat} (h : Own w v 3 1 nE l) (hl : l.length ≤ 1000000) :
    Calls Try.prog 33 [v].toArray w fun e w' => ∃ x, e = .returned x ∧ x = .tuple #[] ∧ Kp v.own w w' ∧ ∃ l', Own w' v 3 1 nE l' ∧ (∀ x, x ∈ l' ↔ x ∈ l) ∧ l'.Pairwise (· ≤ ·) ∧ l'.length = l.length := by
  rcases h with ⟨rfl, rfl⟩ | ⟨g, cap, cur, junk, rfl, hb, hc, hj, hle, hm⟩
  · refine Calls.mono (AnyM.slices_Sort_int_none Try.sort33 none 0 w) ?_
    rintro e w' ⟨rfl, rfl⟩
    exact ⟨_, rfl, rfl, Kp.refl _ _, [], Own.nil _ _ _ _, by simp, by simp, rfl⟩
  · rw [flat_nE] at hc
    obtain ⟨zs, hzs⟩ : ∃ zs, zs = l.map iN := ⟨_, rfl⟩
    rw [← hzs] at hc
    have hzl : zs.length = l.length := by rw [hzs]; simp
    have hH : Go.Sort.Holds (Value.int .i64) w g 0 zs.toArray := by
      refine holds_of_block_i hb ?_
      rw [hc, List.take_append_of_le_length (by simp), List.take_of_length_le (by simp)]
    rw [← hzl]
    refine Calls.mono (AnyM.slices_Sort_int Try.sort33 g 0 cap zs w hH (lt_of_blk hb) (by omega)) ?_
    rintro e w' ⟨rfl, n, os, hw⟩
    obtain ⟨ys, hys⟩ : ∃ ys, ys = zs.mergeSort fun x y => decide (x ≤ y) := ⟨_, rfl⟩
    rw [← hys] at hw
    have hperm : ys.Perm zs := by rw [hys]; exact List.mergeSort_perm _ _
    have hpw : ys.Pairwise fun x y => x ≤ y := by
      have := List.pairwise_mergeSort (le := fun x y : Int => decide (x ≤ y)) (fun a b c h1 h2 => by simp at h1 h2 ⊢; omega) (fun a b => by simp; omega) zs
      rw [hys]
      exact this.imp fun h => by simpa using h
    have hyl : ys.length = zs.length := hperm.length_eq
    obtain ⟨l', hl', hl2⟩ := list_nat (f := iN) (p := fun n => n ∈ l) (l := ys) fun a ha => by
      have := hperm.mem_iff.1 ha
      rw [hzs] at this
      obtain ⟨x, hx, rfl⟩ := List.mem_map.1 this
      exact ⟨x, rfl, hx⟩
    have hw2 : w' = Go.Sort.grow (Go.Sort.mapBlock (Go.Sort.ahead w n) g (Go.Sort.putCells (Value.int .i64) 0 ys.toArray)) os := hw
    have hl'l : l'.length = l.length := by
      have := congrArg List.length hl'
      simp at this; omega
    refine ⟨_, rfl, rfl, kp_put hw2, l', ?_, fun x => ⟨fun hx => hl2 x hx, fun hx => ?_⟩, ?_, hl'l.trans hzl.symm⟩
    · refine .inr ⟨g, cap, _, junk, by rw [hl'l, hzl], blk_put hb hw2, ?_, by rw [hl'l]; exact hj, by omega, hm⟩
      rw [put_list hc hyl, flat_nE, hl']
    · have : iN x ∈ ys := hperm.mem_iff.2 (by rw [hzs]; exact List.mem_map.2 ⟨x, hx, rfl⟩)
      rw [← hl'] at this
      obtain ⟨y, hy, e⟩ := List.mem_map.1 this
      have : y = x := by unfold iN at e; omega
      rw [← this]; exact hy
    · rw [← hl', List.pairwise_map] at hpw
      exact hpw.imp fun h => by unfold iN at h; omega
theorem cpt_ok {d : Array Int} (hd : ∀ i j, i ≤ j → j < d.size → d[i]! ≤ d[j]!) : ∀ m, m ≤ d.size → (Go.Lib.compactUpTo d m).Pairwise (· < ·) ∧ ∀ x, x ∈ Go.Lib.compactUpTo d m ↔ ∃ j, j < m ∧ d[j]! = x
  | 0, _ => by simp [Go.Lib.compactUpTo]
  | m + 1, hm => by
    obtain ⟨h1, h2⟩ := cpt_ok hd m (by omega)
    rw [Go.Lib.compactUpTo_succ]
    by_cases hk : Go.Lib.keeps d m = true
    · rw [if_pos hk]
      unfold Go.Lib.keeps at hk
      simp only [decide_eq_true_eq] at hk
      refine ⟨List.pairwise_append.2 ⟨h1, by simp, fun a ha b hb => ?_⟩, fun x => ?_⟩
      · simp at hb; subst hb
        obtain ⟨j, hj, rfl⟩ := (h2 a).1 ha
        rcases hk with hk | hk
        · omega
        · have e1 := hd j (m - 1) (by omega) (by omega)
          have e2 := hd (m - 1) m (by omega) (by omega)
          omega
      · rw [List.mem_append, h2]
        constructor
        · rintro (⟨j, hj, e⟩ | e)
          · exact ⟨j, by omega, e⟩
          · simp at e; exact ⟨m, by omega, e.symm⟩
        · rintro ⟨j, hj, e⟩
          by_cases hjm : j = m
          · subst hjm; right; simp [e]
          · exact .inl ⟨j, by omega, e⟩
    · rw [if_neg hk, List.append_nil]
      refine ⟨h1, fun x => ?_⟩
      rw [h2]
      unfold Go.Lib.keeps at hk
      simp only [decide_eq_true_eq, not_or, Classical.not_not] at hk
      constructor
      · rintro ⟨j, hj, e⟩; exact ⟨j, by omega, e⟩
      · rintro ⟨j, hj, e⟩
        by_cases hjm : j = m
        · subst hjm; exact ⟨j - 1, by omega, by rw [← hk.2]; exact e⟩
        · exact ⟨j, by omega, e⟩
/-- slices.Compact, of an ordered row: its numbers, each once. -/
theorem compact_spec {w : World} {v : Value} {l : List Nat} (h : Own w v 3 1 nE l) (hp : l.Pairwise (· ≤ ·)) (hl : l.length ≤ 1000000) :
    Calls Try.prog 34 [v].toArray w fun e w' => ∃ x, e = .returned x ∧ Kp v.own w w' ∧ x.own = v.own ∧ ∃ l', Own w' x 3 1 nE l' ∧ (∀ x, x ∈ l' ↔ x ∈ l) ∧ l'.Pairwise (· < ·) ∧ l'.length ≤ l.length := by
  rcases h with ⟨rfl, rfl⟩ | ⟨g, cap, cur, junk, rfl, hb, hc, hj, hle, hm⟩
  · refine Calls.mono (Any.slices_Compact_int_empty Try.compact34 none 0 w) ?_
    rintro e w' ⟨rfl, rfl⟩
    exact ⟨_, rfl, Kp.refl _ _, rfl, [], Own.nil _ _ _ _, by simp, by simp, by simp⟩
  · rw [flat_nE] at hc
    obtain ⟨zs, hzs⟩ : ∃ zs, zs = l.map iN := ⟨_, rfl⟩
    rw [← hzs] at hc
    have hzl : zs.length = l.length := by rw [hzs]; simp
    have hH : Go.Sort.Holds (Value.int .i64) w g 0 zs.toArray := by
      refine holds_of_block_i hb ?_
      rw [hc, List.take_append_of_le_length (by simp), List.take_of_length_le (by simp)]
    have hpz : zs.Pairwise (· ≤ ·) := by
      rw [hzs, List.pairwise_map]
      exact hp.imp fun h => by unfold iN; omega
    rw [← hzl]
    refine Calls.mono (Any.slices_Compact_int Try.compact34 g 0 cap zs w hH (by omega) (by omega)) ?_
    rintro e w' ⟨rfl, q, hw⟩
    have hok := cpt_ok (d := zs.toArray) (fun i j hij hjs => by
      have hjs : j < zs.length := by simpa using hjs
      by_cases e : i = j
      · subst e; exact Int.le_refl _
      · have := List.pairwise_iff_getElem.1 hpz i j (by omega) hjs (by omega)
        simpa [getElem!_pos, hjs, show i < zs.length by omega] using this) zs.length (by simp)
    obtain ⟨ys, hys⟩ : ∃ ys, ys = Go.Lib.compact zs := ⟨_, rfl⟩
    have hys2 : ys = Go.Lib.compactUpTo zs.toArray zs.length := hys
    rw [← hys2] at hok
    have hyl : ys.length ≤ zs.length := by
      rw [hys2]
      unfold Go.Lib.compactUpTo
      rw [List.length_map]
      refine Nat.le_trans (List.length_filter_le _ _) ?_
      simp
    rw [← hys] at hw ⊢
    have hmem : ∀ x, x ∈ ys ↔ x ∈ zs := fun x => by
      rw [hok.2 x]
      constructor
      · rintro ⟨j, hj, rfl⟩
        simp [getElem!_pos, hj]
      · intro hx
        obtain ⟨j, hj, rfl⟩ := List.getElem_of_mem hx
        exact ⟨j, hj, by simp [getElem!_pos, hj]⟩
    obtain ⟨l', hl', hl2⟩ := list_nat (f := iN) (p := fun n => n ∈ l) (l := ys) fun a ha => by
      have := (hmem a).1 ha
      rw [hzs] at this
      obtain ⟨x, hx, rfl⟩ := List.mem_map.1 this
      exact ⟨x, rfl, hx⟩
    have hl'l : l'.length = ys.length := by rw [← hl']; simp
    have hw2 : w' = Go.Sort.grow (Go.Sort.mapBlock (Go.Sort.ahead w q) g (Go.Sort.putCells (Value.int .i64) 0 (ys ++ List.replicate (zs.length - ys.length) 0).toArray)) #[] := by rw [Go.Sort.grow_empty]; exact hw
    refine ⟨_, rfl, kp_put hw2, rfl, l', ?_, fun x => ⟨fun hx => hl2 x hx, fun hx => ?_⟩, ?_, by omega⟩
    · refine .inr ⟨g, cap, _, (List.replicate (zs.length - ys.length) (0 : Int)).map (Value.int .i64) ++ junk, by rw [hl'l], blk_put hb hw2, ?_, by simp; omega, by omega, hm⟩
      rw [put_list hc (by simp; omega), flat_nE, hl', List.map_append, List.append_assoc]
    · have : iN x ∈ ys := (hmem _).2 (by rw [hzs]; exact List.mem_map.2 ⟨x, hx, rfl⟩)
      rw [← hl'] at this
      obtain ⟨y, hy, e⟩ := List.mem_map.1 this
      have : y = x := by unfold iN at e; omega
      rw [← this]; exact hy
    · have := hok.1
      rw [← hl', List.pairwise_map] at this
      exact this.imp fun h => by unfold iN at h; omega
end Go.Proofs.Ytcplpogmbacnfaa
end
section
set_option maxRecDepth 100000
set_option linter.unusedSimpArgs false
set_option linter.unusedVariables false
namespace Go.Proofs.Ytcplpogmbacnfaa
open Go Go.W Go.Tk Go.Rx Go.Lm Go.Maps
def nfl (t : Nat → Bool) : Nat → Nat := fun i => if t i = true then 0 else 1
theorem nfl_upd {t : Nat → Bool} {f N : Nat} (hf : f < N) (h : t f = false) : sumV N (nfl (updN t f true)) < sumV N (nfl t) := by
  have e : nfl (updN t f true) = updN (nfl t) f 0 := by
    funext i
    by_cases hi : i = f
    · subst hi; simp [nfl]
    · rw [updN_ne hi]; simp [nfl, updN_ne hi]
  rw [e]
  exact sumV_upd hf (by simp [nfl, h])
/-- In the search for the goal zone. -/
structure Tg (A : List Ar) (c : Nat → Nat) (g : Nat) (t : Nat → Bool) : Prop where
  base : t g = true
  snd : ∀ f, t f = true → TZ A c g f
def TgC (B : List Ar) (c : Nat → Nat) (t : Nat → Bool) : Prop := ∀ a ∈ B, ∀ f, a.fr = some f → c a.op = 0 → t a.to = true → t f = true
theorem Tg.fin {A : List Ar} {c : Nat → Nat} {g : Nat} {t : Nat → Bool} (h : Tg A c g t) (hc : TgC A c t) (f : Nat) : t f = true ↔ TZ A c g f := by
  refine ⟨h.snd f, fun ht => ?_⟩
  induction ht with
  | base => exact h.base
  | step ha hf hc0 ht ih => exact hc _ ha _ hf hc0 ih
theorem Tg.step {A : List Ar} {c : Nat → Nat} {g : Nat} {t : Nat → Bool} (h : Tg A c g t) {a : Ar} {f : Nat} (ha : a ∈ A) (hf : a.fr = some f) (hc : c a.op = 0) (ht : t a.to = true) : Tg A c g (updN t f true) := {
  base := by
    by_cases e : g = f
    · subst e; simp
    · rw [updN_ne e]; exact h.base
  snd := fun x hx => by
    by_cases e : x = f
    · subst e; exact .step ha hf hc (h.snd _ ht)
    · rw [updN_ne e] at hx; exact h.snd x hx }
/-- In the search for the start zone. -/
structure Sg (A : List Ar) (S0 : List Nat) (T : Nat → Prop) (t : Nat → Bool) : Prop where
  base : ∀ f ∈ S0, t f = true
  snd : ∀ f, t f = true → SZ A S0 T f
def bgB (t : Nat → Bool) (a : Ar) : Bool := match a.fr with | none => true | some f => t f
def SgC (B : List Ar) (T t : Nat → Bool) : Prop := ∀ a ∈ B, bgB t a = true → T a.to = false → t a.to = true
theorem Sg.fin {A : List Ar} {S0 : List Nat} {T : Nat → Prop} {tb t : Nat → Bool} (h : Sg A S0 T t) (hT : ∀ f, tb f = true ↔ T f) (hc : SgC A tb t) (f : Nat) : t f = true ↔ SZ A S0 T f := by
  have hT2 : ∀ {f}, ¬ T f → tb f = false := fun {f} hn => by
    cases h : tb f with
    | false => rfl
    | true => exact absurd ((hT f).1 h) hn
  refine ⟨h.snd f, fun ht => ?_⟩
  induction ht with
  | base hf => exact h.base _ hf
  | start ha hf ht => exact hc _ ha (by unfold bgB; rw [hf]) (hT2 ht)
  | step ha hf hs ht ih => exact hc _ ha (by unfold bgB; rw [hf]; exact ih) (hT2 ht)
theorem Sg.step {A : List Ar} {S0 : List Nat} {T : Nat → Prop} {t : Nat → Bool} (h : Sg A S0 T t) {a : Ar} (ha : a ∈ A) (hb : bgB t a = true) (ht : ¬ T a.to) : Sg A S0 T (updN t a.to true) := {
  base := fun f hf => by
    by_cases e : f = a.to
    · subst e; simp
    · rw [updN_ne e]; exact h.base f hf
  snd := fun x hx => by
    by_cases e : x = a.to
    · subst e
      unfold bgB at hb
      cases hfr : a.fr with
      | none => exact .start ha hfr ht
      | some f => rw [hfr] at hb; exact .step ha hfr (h.snd f hb) ht
    · rw [updN_ne e] at hx; exact h.snd x hx }
theorem bg_iff {A : List Ar} {S0 : List Nat} {T : Nat → Prop} {t : Nat → Bool} (hS : ∀ f, t f = true ↔ SZ A S0 T f) (a : Ar) : bgB t a = true ↔ Beg A S0 T a := by
  unfold bgB Beg
  cases hfr : a.fr with
  | none => simp
  | some f => simp [hS]
/-- The operators that cross, by the first arcs. -/
def crK (A : List Ar) (tb t : Nat → Bool) : List Nat := (A.filter fun a => bgB t a && tb a.to).map (·.op)
theorem cr_take {A : List Ar} {tb t : Nat → Bool} {k : Nat} {a : Ar} (h : A[k]? = some a) : crK (A.take (k + 1)) tb t = crK (A.take k) tb t ++ if (bgB t a && tb a.to) = true then [a.op] else [] := by
  rw [take_snoc h]
  unfold crK
  rw [List.filter_append, List.map_append]
  by_cases hg : (bgB t a && tb a.to) = true
  · rw [if_pos hg]; simp [hg]
  · rw [if_neg hg]; simp [hg]
theorem cr_len (A : List Ar) (tb t : Nat → Bool) : (crK A tb t).length ≤ A.length := by
  unfold crK; rw [List.length_map]; exact List.length_filter_le _ _
theorem cr_mem {A : List Ar} {c : Nat → Nat} {S0 : List Nat} {g : Nat} {tb t : Nat → Bool} (hT : ∀ f, tb f = true ↔ TZ A c g f) (hS : ∀ f, t f = true ↔ SZ A S0 (TZ A c g) f) (op : Nat) : op ∈ crK A tb t ↔ XO A c S0 g op := by
  unfold crK XO
  rw [List.mem_map]
  constructor
  · rintro ⟨a, ha, rfl⟩
    rw [List.mem_filter, Bool.and_eq_true, bg_iff hS, hT] at ha
    exact ⟨a, ha.1, rfl, ha.2.1, ha.2.2⟩
  · rintro ⟨a, ha, rfl, h1, h2⟩
    exact ⟨a, by rw [List.mem_filter, Bool.and_eq_true, bg_iff hS, hT]; exact ⟨ha, h1, h2⟩, rfl⟩
def fB : Nat → Bool := fun _ => false
theorem tabB_false (N : Nat) : List.replicate N false = tabB N fB := by
  unfold tabB fB
  apply List.ext_getElem
  · simp
  · intro i h1 h2; simp
def setS (S : List Nat) : Nat → Bool := fun f => decide (f ∈ S)
theorem setS_snoc (S : List Nat) (f : Nat) : updN (setS S) f true = setS (S ++ [f]) := by
  funext x
  by_cases e : x = f
  · subst e; simp [setS]
  · rw [updN_ne e]; simp [setS, e]
/-- Sizes of arcs. -/
structure ArOk (A : List Ar) (N M : Nat) : Prop where
  to : ∀ a ∈ A, a.to < N
  op : ∀ a ∈ A, a.op < M
  fr : ∀ a ∈ A, ∀ f, a.fr = some f → f < N
theorem arcs_ok {UL : List Un} {V : Nat → Nat} {N M : Nat} (h : LuOk UL N M) : ArOk (arcs UL V) N M := {
  to := fun a ha => by
    obtain ⟨u, hu, _, rfl⟩ := arcs_mem ha
    exact h.made u hu
  op := fun a ha => by
    obtain ⟨u, hu, _, rfl⟩ := arcs_mem ha
    exact h.op u hu
  fr := fun a ha f hf => by
    obtain ⟨u, hu, _, rfl⟩ := arcs_mem ha
    exact h.rng u hu f (gst_some hf).1 }
def TgI (av dv tgv : Value) (A : List Ar) (c : Nat → Nat) (g N : Nat) (b : Nat) (sv : Value) (w : World) (n : Nat) (ρ : Env) (w' : World) : Prop :=
  ρ 0 = .pointer (some ⟨b, 0, none⟩) ∧ ρ 1 = sv ∧ ρ 2 = dv ∧ ρ 9 = av ∧ ρ 10 = tgv ∧ ∃ t ch, ρ 11 = .bool ch ∧ Tg A c g t ∧ (ch = false → TgC A c t) ∧ n = (if ch then sumV N (nfl t) + 1 else 0) ∧ At w [] (Star (OwnA tgv 4 1 bE (tabB N t)) (Star (OwnA av 120 3 arE A) Emp)) w'
structure Tgf (A : List Ar) (c : Nat → Nat) (g N s0 k : Nat) (ch : Bool) (t : Nat → Bool) : Prop where
  tg : Tg A c g t
  clo : ch = false → TgC (A.take k) c t
  lt : ch = true → sumV N (nfl t) < s0
  le : sumV N (nfl t) ≤ s0
def TgE (av dv tgv : Value) (A : List Ar) (c : Nat → Nat) (g N s0 : Nat) (b : Nat) (sv : Value) (w : World) (k : Nat) (ρ : Env) (w' : World) : Prop :=
  ρ 0 = .pointer (some ⟨b, 0, none⟩) ∧ ρ 1 = sv ∧ ρ 2 = dv ∧ ρ 9 = av ∧ ρ 10 = tgv ∧ ρ 40 = av ∧ ∃ t ch, ρ 11 = .bool ch ∧ Tgf A c g N s0 k ch t ∧ At w [] (Star (OwnA tgv 4 1 bE (tabB N t)) (Star (OwnA av 120 3 arE A) Emp)) w'
def SgI (av tgv sgv : Value) (A : List Ar) (S0 : List Nat) (T : Nat → Prop) (tb : Nat → Bool) (N : Nat) (w : World) (n : Nat) (ρ : Env) (w' : World) : Prop :=
  ρ 9 = av ∧ ρ 10 = tgv ∧ ρ 14 = sgv ∧ ∃ t ch, ρ 17 = .bool ch ∧ Sg A S0 T t ∧ (ch = false → SgC A tb t) ∧ n = (if ch then sumV N (nfl t) + 1 else 0) ∧ At w [] (Star (OwnA sgv 4 1 bE (tabB N t)) (Star (OwnA tgv 4 1 bE (tabB N tb)) (Star (OwnA av 120 3 arE A) Emp))) w'
structure Sgf (A : List Ar) (S0 : List Nat) (T : Nat → Prop) (tb : Nat → Bool) (N s0 k : Nat) (ch : Bool) (t : Nat → Bool) : Prop where
  sg : Sg A S0 T t
  clo : ch = false → SgC (A.take k) tb t
  lt : ch = true → sumV N (nfl t) < s0
  le : sumV N (nfl t) ≤ s0
def SgE (av tgv sgv : Value) (A : List Ar) (S0 : List Nat) (T : Nat → Prop) (tb : Nat → Bool) (N s0 : Nat) (w : World) (k : Nat) (ρ : Env) (w' : World) : Prop :=
  ρ 9 = av ∧ ρ 10 = tgv ∧ ρ 14 = sgv ∧ ρ 102 = av ∧ ∃ t ch, ρ 17 = .bool ch ∧ Sgf A S0 T tb N s0 k ch t ∧ At w [] (Star (OwnA sgv 4 1 bE (tabB N t)) (Star (OwnA tgv 4 1 bE (tabB N tb)) (Star (OwnA av 120 3 arE A) Emp))) w'
end Go.Proofs.Ytcplpogmbacnfaa
end
