/-
  The walker's library, part LibC: plain theorems that the proofs of this seat use; no conditions beyond those each theorem names.
-/
import Derived.Test.YtkojilpjpdpmaaaRLibB
import Derived.Maps.OwnSet
set_option linter.unusedVariables false
set_option linter.unusedSimpArgs false
set_option linter.unusedSectionVars false
namespace Go.W
open Go Go.Maps
/-! ### Maps -/
section
variable {κ α : Type} [DecidableEq κ] {ek : κ → Value} {ev : α → Value} {ok : κ → Prop} {P : Program} {k e t : TypeId}
/-- Values of a key type. -/
structure KeyEnc (P : Program) (k : TypeId) (ek : κ → Value) (ok : κ → Prop) : Prop where
  keyed : Keyed P k
  lit : ∀ x, ok x → ∃ l, keyOf P k (ek x) = some l
  inj : ∀ x y, ek x = ek y → x = y
def getM (l : List (κ × α)) (x : κ) : Option α := (l.find? fun p => decide (p.1 = x)).map (·.2)
def putM (l : List (κ × α)) (x : κ) (v : α) : List (κ × α) := if l.any (fun p => decide (p.1 = x)) then l.map fun p => if p.1 = x then (x, v) else p else l ++ [(x, v)]
/-- Block b is a map of these pairs. -/
def MapM (w : World) (b : Nat) (ek : κ → Value) (ev : α → Value) (ok : κ → Prop) (l : List (κ × α)) : Prop :=
  ∃ es clock, w.heap[b]? = some (.map es clock) ∧ es.size ≤ maxLen ∧ es.toList.map (fun x => (x.key, x.val)) = l.map (fun p => (ek p.1, ev p.2)) ∧ (∀ p ∈ l, ok p.1) ∧ (l.map (·.1)).Nodup ∧ MapKept.Stamped es clock
theorem MapM.lt {w : World} {b : Nat} {l : List (κ × α)} (h : MapM w b ek ev ok l) : b < w.heap.size := by
  obtain ⟨es, clock, hb, _⟩ := h
  exact lt_of_blk hb
theorem MapM.ext {w w' : World} {b : Nat} {l : List (κ × α)} (h : MapM w b ek ev ok l) (hx : ExtH w w') : MapM w' b ek ev ok l := by
  obtain ⟨es, clock, hb, r⟩ := h
  exact ⟨es, clock, hx _ _ hb, r⟩
theorem MapM.kp {S : List Nat} {w w' : World} {b : Nat} {l : List (κ × α)} (h : MapM w b ek ev ok l) (hk : Kp S w w') (hb : b ∉ S) : MapM w' b ek ev ok l := by
  obtain ⟨es, clock, h1, r⟩ := h
  exact ⟨es, clock, hk.blk h1 hb, r⟩
theorem MapM.new (w : World) : MapM (w.alloc (.map #[] 0)) w.heap.size ek ev ok ([] : List (κ × α)) := ⟨#[], 0, alloc_new, Nat.zero_le _, rfl, by simp, by simp, MapKept.stamped_empty _⟩
theorem find_none {l : List (κ × α)} {x : κ} (h : ∀ p ∈ l, p.1 ≠ x) : getM l x = none := by
  simp only [getM, Option.map_eq_none_iff, List.find?_eq_none]
  intro p hp; simpa using h p hp
theorem find_some : ∀ {l : List (κ × α)} {j : Nat} {p : κ × α}, (l.map (·.1)).Nodup → l[j]? = some p → getM l p.1 = some p.2
  | [], j, p, _, h => by simp at h
  | q :: l, 0, p, _, h => by simp at h; subst h; simp [getM]
  | q :: l, j + 1, p, hn, h => by
    simp at h
    simp only [List.map_cons, List.nodup_cons] at hn
    have hne : q.1 ≠ p.1 := fun e => hn.1 (by rw [e]; exact List.mem_map.2 ⟨p, List.mem_of_getElem? h, rfl⟩)
    have := find_some hn.2 h
    simp only [getM] at this ⊢
    rw [List.find?_cons_of_neg (by simpa using hne)]
    exact this
/-- Where a key stands in a map's entries. -/
theorem MapM.find {w w' : World} {b : Nat} {l : List (κ × α)} (hk : KeyEnc P k ek ok) {es : Array MapEntry} (hes : es.toList.map (fun x => (x.key, x.val)) = l.map (fun p => (ek p.1, ev p.2))) (hok : ∀ p ∈ l, ok p.1) {x : κ} (hx : ok x) :
    ((Instr.findKey k (ek x) es.toList).run P w = .ok none w ∧ ∀ p ∈ l, p.1 ≠ x) ∨
    ∃ j v e0, (Instr.findKey k (ek x) es.toList).run P w = .ok (some (j, ev v)) w ∧ l[j]? = some (x, v) ∧ es[j]? = some e0 ∧ e0.key = ek x := by
  obtain ⟨lx, hlx⟩ := hk.lit x hx
  have hat : ∀ (j : Nat) (e0 : MapEntry), es.toList[j]? = some e0 → ∃ p : κ × α, l[j]? = some p ∧ e0.key = ek p.1 ∧ e0.val = ev p.2 := fun j e0 he => by
    have := congrArg (·[j]?) hes
    simp only [List.getElem?_map, he, Option.map_some] at this
    cases hp : l[j]? with
    | none => rw [hp] at this; cases this
    | some p =>
      rw [hp] at this
      simp only [Option.map_some, Option.some.injEq, Prod.mk.injEq] at this
      exact ⟨p, rfl, this.1, this.2⟩
  rcases hk.keyed.find w hlx es.toList (fun e0 he => by
      obtain ⟨j, hj⟩ := List.getElem?_of_mem he
      obtain ⟨p, hp, h1, _⟩ := hat j e0 hj
      rw [h1]; exact hk.lit _ (hok p (List.mem_of_getElem? hp))) with ⟨h1, h2⟩ | ⟨j, e0, h1, h2, h3⟩
  · refine .inl ⟨h1, fun p hp hpx => ?_⟩
    obtain ⟨j, hj⟩ := List.getElem?_of_mem hp
    have hlen := congrArg List.length hes
    simp only [List.length_map] at hlen
    have hjl : j < es.toList.length := by rw [hlen]; exact (List.getElem?_eq_some_iff.1 hj).1
    obtain ⟨p', hp', h4, _⟩ := hat j _ (List.getElem?_eq_getElem hjl)
    rw [hj] at hp'
    cases hp'
    exact h2 _ (List.getElem_mem hjl) (by rw [h4, hpx])
  · obtain ⟨p, hp, h4, h5⟩ := hat j e0 h2
    have hpx : p.1 = x := hk.inj _ _ (by rw [← h4, h3])
    refine .inr ⟨j, p.2, e0, by rw [← h5]; exact h1, by rw [hp, ← hpx], by simpa using h2, h3⟩
theorem MapM.look {w : World} {b : Nat} {l : List (κ × α)} (h : MapM w b ek ev ok l) (hk : KeyEnc P k ek ok) (ht : P.underlying t = some (.map k e)) {z : Value} (hz : (zeroValue e).run P w = .ok z w) {x : κ} (hx : ok x) (c : Bool) :
    (Instr.lookup t (.map (some b)) (ek x) c).run P w = .ok (if c then .tuple #[((getM l x).map ev).getD z, .bool (getM l x).isSome] else ((getM l x).map ev).getD z) w := by
  obtain ⟨es, clock, hb, _, hes, hok, hnd, _⟩ := h
  obtain ⟨lx, hlx⟩ := hk.lit x hx
  rcases MapM.find (w := w) (w' := w) (b := b) hk hes hok hx with ⟨h1, h2⟩ | ⟨j, v, e0, h1, h2, h3, h4⟩
  · have hg := find_none h2
    simp [Instr.lookup, run_underlying ht, MapKept.run_getObj_map hb, hk.keyed.check w _ hlx, h1, hz, Result.andThen, hg]
  · have hg := find_some hnd h2
    simp only at hg
    simp [Instr.lookup, run_underlying ht, MapKept.run_getObj_map hb, hk.keyed.check w _ hlx, h1, Result.andThen, hg]
theorem MapM.len {w : World} {b : Nat} {l : List (κ × α)} (h : MapM w b ek ev ok l) (ht : P.underlying t = some (.map k e)) (ty : TypeId) : (Builtin.len_ #[t] ty #[.map (some b)]).run P w = .ok (.int .i64 l.length) w := by
  obtain ⟨es, clock, hb, _, hes, _, _, _⟩ := h
  have e1 : es.size = l.length := by
    have := congrArg List.length hes
    simpa using this
  simp [Builtin.len_, run_underlying ht, MapKept.run_getObj_map hb, goInt, Result.andThen, e1]
theorem MapM.store {w : World} {b : Nat} {l : List (κ × α)} (h : MapM w b ek ev ok l) (hk : KeyEnc P k ek ok) (ht : P.underlying t = some (.map k e)) {x : κ} (hx : ok x) (v : α) (hl : l.length < maxLen) :
    ∃ o, (Instr.mapUpdate t (.map (some b)) (ek x) (ev v)).run P w = .ok () (w.setB b o) ∧ MapM (w.setB b o) b ek ev ok (putM l x v) := by
  obtain ⟨es, clock, hb, hsz, hes, hok, hnd, hst⟩ := h
  obtain ⟨lx, hlx⟩ := hk.lit x hx
  have e1 : es.size = l.length := by
    have := congrArg List.length hes
    simpa using this
  rcases MapM.find (w := w) (w' := w) (b := b) hk hes hok hx with ⟨h1, h2⟩ | ⟨j, u, e0, h1, h2, h3, h4⟩
  · refine ⟨.map (es.push ⟨ek x, ev v, clock⟩) (clock + 1), ?_, _, _, setB_new (lt_of_blk hb), by simp; omega, ?_, ?_, ?_, MapKept.stamped_push hst (fun e he hek => ?_)⟩
    · simp [Instr.mapUpdate, run_underlying ht, MapKept.run_getObj_map hb, hk.keyed.check w false hlx, h1, MapKept.run_setObj_map _ hb, Result.andThen, World.setB]
    all_goals
      have hp : putM l x v = l ++ [(x, v)] := by
        rw [putM, if_neg]
        simp only [List.any_eq_true, decide_eq_true_eq, not_exists, not_and]
        exact h2
      try rw [hp]
    · simp [hes]
    · intro p hp'
      rcases List.mem_append.1 hp' with h | h
      · exact hok p h
      · simp at h; subst h; exact hx
    · rw [List.map_append, List.nodup_append]
      refine ⟨hnd, by simp, fun a ha c hc => ?_⟩
      simp at hc
      subst hc
      obtain ⟨p, hp', rfl⟩ := List.mem_map.1 ha
      exact h2 p hp'
    · obtain ⟨j, hj⟩ := List.getElem?_of_mem he
      have := congrArg (·[j]?) hes
      simp only [List.getElem?_map, hj, Option.map_some] at this
      cases hp' : l[j]? with
      | none => rw [hp'] at this; cases this
      | some p =>
        rw [hp'] at this
        simp only [Option.map_some, Option.some.injEq, Prod.mk.injEq] at this
        exact h2 p (List.mem_of_getElem? hp') (hk.inj _ _ (by rw [← this.1]; exact hek))
  · have hp : putM l x v = l.map fun p => if p.1 = x then (x, v) else p := by
      rw [putM, if_pos]
      simp only [List.any_eq_true, decide_eq_true_eq]
      exact ⟨_, List.mem_of_getElem? h2, rfl⟩
    have hset : (l.map fun p => if p.1 = x then (x, v) else p) = l.set j (x, v) := by
      refine List.ext_getElem (by simp) fun i hi hi' => ?_
      rw [List.getElem_map, List.getElem_set]
      have hil : i < l.length := by simpa using hi
      by_cases hij : j = i
      · subst hij
        rw [if_pos rfl]
        rw [List.getElem?_eq_getElem hil] at h2
        rw [if_pos (by rw [Option.some.inj h2])]
      · rw [if_neg hij, if_neg]
        intro he
        have hjl : j < l.length := (List.getElem?_eq_some_iff.1 h2).1
        rw [List.getElem?_eq_getElem hjl] at h2
        have h5 : (l.map (·.1))[i]'(by simpa using hil) = (l.map (·.1))[j]'(by simpa using hjl) := by
          simp only [List.getElem_map]
          rw [he, Option.some.inj h2]
        exact hij ((List.getElem_inj hnd).1 h5).symm
    have hmod : (es.modify j (fun e' => { e' with key := ek x, val := ev v })).toList = es.toList.set j ⟨ek x, ev v, e0.born⟩ := by
      have he : es.toList[j]? = some e0 := by simpa using h3
      refine List.ext_getElem (by simp) fun i hi hi' => ?_
      simp only [Array.getElem_toList, Array.getElem_modify, List.getElem_set]
      by_cases hij : j = i
      · subst hij
        have hil : j < es.size := by simpa using hi
        rw [if_pos rfl, if_pos rfl]
        have : es[j] = e0 := by
          rw [Array.getElem?_eq_getElem hil] at h3
          exact Option.some.inj h3
        rw [this]
      · rw [if_neg hij, if_neg hij]
    refine ⟨.map (es.modify j (fun e' => { e' with key := ek x, val := ev v })) clock, ?_, _, _, setB_new (lt_of_blk hb), by simpa using hsz, ?_, ?_, ?_, MapKept.stamped_modify hst _ _ (fun _ _ => rfl) (fun e _ he => ?_)⟩
    · simp [Instr.mapUpdate, run_underlying ht, MapKept.run_getObj_map hb, hk.keyed.check w false hlx, h1, h3, h4, hk.keyed.stays w hlx, MapKept.run_setObj_map _ hb, Result.andThen, World.setB]
    · rw [hp, hset, hmod, List.map_set, List.map_set, hes]
    · rw [hp]
      intro p hp'
      obtain ⟨q, hq, rfl⟩ := List.mem_map.1 hp'
      by_cases hqx : q.1 = x
      · rw [if_pos hqx]; exact hx
      · rw [if_neg hqx]; exact hok q hq
    · rw [hp]
      have : (l.map fun p => if p.1 = x then (x, v) else p).map (·.1) = l.map (·.1) := by
        rw [List.map_map]
        refine List.map_congr_left fun p _ => ?_
        simp only [Function.comp]
        by_cases hpx : p.1 = x
        · rw [if_pos hpx, hpx]
        · rw [if_neg hpx]
      rw [this]; exact hnd
    · rw [h3] at he
      rw [← Option.some.inj he]; exact h4.symm
end
end Go.W
