/-
  A part of the proof of this claim's statement (LibB, LibC, LibF, LibG, LibH): plain theorems; no conditions beyond those each names.
-/
import Derived.Test.YtolkjbmcindhjaaGreatPk05
import Derived.Laws.StructEq
import Derived.ChangeKeysEq
import Derived.Maps.OwnSet
import Derived.Laws.Rows
import Derived.DeepKeys4
section
set_option linter.unusedVariables false
set_option linter.unusedSimpArgs false
namespace Go.W
open Go
@[simp] theorem gd_undef {b : Bool} {KB : Kont Bool} : @guH undef b KB = KB.run false := by simp [undef]
section
variable {P : Program} {k : IntKind} {T : TypeId} {la lb : List Int} {x y : Operand} {w : World} {K : Kont Value}
end

theorem rowOf_rep {α : Type} {enc : α → List Value} (x : α) : ∀ n, rowOf (enc x) n = (List.replicate n x).flatMap enc
  | 0 => rfl
  | n + 1 => by simp [rowOf, List.replicate_succ, rowOf_rep x n]
theorem Own.made {α : Type} {enc : α → List Value} {E sz n : Nat} {x : α} {z : List Value} {w : World} (hz : z = enc x) (he : ∀ x, (enc x).length = sz) (hn : n ≤ maxLen) :
    Own (w.alloc (.cells (rowOf z n).toArray E)) (.slice (some ⟨w.heap.size, 0, none⟩) n n) E sz enc (List.replicate n x) := by
  subst hz
  refine .inr ⟨w.heap.size, n, _, [], by simp, alloc_new, ?_, by simp, by simp, hn⟩
  simp [rowOf_rep]
theorem New.made {α : Type} {enc : α → List Value} {E sz n : Nat} {x : α} {z : List Value} {B : Asr} {w w1 : World} (hB : Lcl B) (h : New w B w1) (hz : z = enc x) (he : ∀ x, (enc x).length = sz) (hn : n ≤ maxLen) :
    New w (Star (OwnA (.slice (some ⟨w1.heap.size, 0, none⟩) n n) E sz enc (List.replicate n x)) B) (w1.alloc (.cells (rowOf z n).toArray E)) :=
  h.more hB ((Kp.refl _ _).alloc _) ⟨_, ⟨Own.made hz he hn, rfl⟩, by simp⟩
section
variable {α : Type} {enc : α → List Value} {E sz : Nat} {l : List α} {v : Value} {B : Asr} {w w1 : World}
theorem New.own (h : New w (Star (OwnA v E sz enc l) B) w1) : Own w1 v E sz enc l := by
  obtain ⟨F, h1, _⟩ := h.get
  exact h1
/-- An element is stored into a row of one's own. -/
theorem New.store {KW : Kont World} (hB : Lcl B) (h : New w (Star (OwnA v E sz enc l) B) w1) (he : ∀ x, (enc x).length = sz) (h1 : ∀ x, (enc x).all oneC = true) {k : Nat} (hk : k < l.length) {x : α} {cs : List Value} (hcs : cs = enc x)
    (H : ∀ w2, New w (Star (OwnA v E sz enc (l.set k x)) B) w2 → KW.run w2) : @stJ w1 ⟨v.blk, k * sz, none⟩ cs KW := by
  refine h.own.store he h1 hk hcs fun w2 hk2 hs2 ho2 => H w2 (h.step Lcl.own hB ?_)
  rintro F ⟨ho, rfl⟩
  exact ⟨_, ⟨ho2, rfl⟩, by rw [ho.own_eq hk]; exact hk2, fun x hx => .inl hx⟩
theorem New.store1 {KW : Kont World} (hB : Lcl B) (h : New w (Star (OwnA v E 1 enc l) B) w1) (he : ∀ x, (enc x).length = 1) (h1 : ∀ x, (enc x).all oneC = true) {k : Nat} (hk : k < l.length) {x : α} {cs : List Value} (hcs : cs = enc x)
    (H : ∀ w2, New w (Star (OwnA v E 1 enc (l.set k x)) B) w2 → KW.run w2) : @stJ w1 ⟨v.blk, k, none⟩ cs KW := by
  have := h.store (KW := KW) hB he h1 hk hcs H
  rwa [Nat.mul_one] at this
/-- Elements are appended to a row of one's own. -/
theorem New.append {P : Program} {KV : Kont (Value × World)} {T ty by_ : Nat} {z : List Value} (hB : Lcl B) (h : New w (Star (OwnA v E sz enc l) B) w1) (he : ∀ x, (enc x).length = sz) (h1 : ∀ x, (enc x).all oneC = true)
    (hT : slInfo P T = some (E, sz, by_, z)) {a : Addr} {m c : Nat} {xs : List α} (hm : xs.length = m) (hx : ∀ j u, (xs.flatMap enc)[j]? = some u → w1.cell? (a.add j) = some u)
    (hb : (l.length + m) * by_ ≤ 140737488355328) (hmax : l.length + m ≤ maxLen)
    (H : ∀ v' w2, New w (Star (OwnA v' E sz enc (l ++ xs)) B) w2 → KV.run (v', w2)) :
    @efH P (Builtin.append_ #[T, T] ty [v, .slice (some a) m c].toArray) w1 KV := by
  refine h.own.append he h1 hT hm hx hb hmax fun v' w2 hk2 ho2 hs2 => H v' w2 (h.step Lcl.own hB ?_)
  rintro F ⟨ho, rfl⟩
  exact ⟨_, ⟨ho2, rfl⟩, hk2, hs2⟩
theorem New.appendV {P : Program} {KV : Kont (Value × World)} {T ty by_ : Nat} {z : List Value} {u : Value} {xs : List α} (hB : Lcl B) (h : New w (Star (OwnA v E sz enc l) B) w1) (hu : Vw w1 u enc xs) (he : ∀ x, (enc x).length = sz) (h1 : ∀ x, (enc x).all oneC = true)
    (hT : slInfo P T = some (E, sz, by_, z)) (hb : (l.length + xs.length) * by_ ≤ 140737488355328) (hmax : l.length + xs.length ≤ maxLen)
    (H : ∀ v' w2, New w (Star (OwnA v' E sz enc (l ++ xs)) B) w2 → KV.run (v', w2)) :
    @efH P (Builtin.append_ #[T, T] ty [v, u].toArray) w1 KV := by
  refine h.own.appendV hu he h1 hT hb hmax fun v' w2 hk2 ho2 hs2 => H v' w2 (h.step Lcl.own hB ?_)
  rintro F ⟨ho, rfl⟩
  exact ⟨_, ⟨ho2, rfl⟩, hk2, hs2⟩
theorem New.nil (hB : Lcl B) (h : New w B w1) : New w (Star (OwnA (.slice none 0 0) E sz enc []) B) w1 :=
  h.more hB (Kp.refl _ _) ⟨_, ⟨Own.nil _ _ _ _, rfl⟩, by simp⟩
end
end Go.W
end
section
set_option linter.unusedVariables false
set_option linter.unusedSimpArgs false
set_option linter.unusedSectionVars false
namespace Go.W
open Go Go.Maps
section
variable {κ α : Type} [DecidableEq κ] {ek : κ → Value} {ev : α → Value} {ok : κ → Prop} {P : Program} {k e t : TypeId}
/-- Values of a key type. -/
structure KeyEnc (P : Program) (k : TypeId) (ek : κ → Value) (ok : κ → Prop) : Prop where
  keyed : Keyed P k
  lit : ∀ x, ok x → ∃ l, keyOf P k (ek x) = some l
  inj : ∀ x y, ek x = ek y → x = y
def getM (l : List (κ × α)) (x : κ) : Option α := (l.find? fun p => decide (p.1 = x)).map (·.2)
def putM (l : List (κ × α)) (x : κ) (v : α) : List (κ × α) := if l.any (fun p => decide (p.1 = x)) then l.map fun p => if p.1 = x then (x, v) else p else l ++ [(x, v)]
/-- Block b is a map of these pairs. -/
def MapM (w : World) (b : Nat) (ek : κ → Value) (ev : α → Value) (ok : κ → Prop) (l : List (κ × α)) : Prop :=
  ∃ es clock, w.heap[b]? = some (.map es clock) ∧ es.size ≤ maxLen ∧ es.toList.map (fun x => (x.key, x.val)) = l.map (fun p => (ek p.1, ev p.2)) ∧ (∀ p ∈ l, ok p.1) ∧ (l.map (·.1)).Nodup ∧ MapKept.Stamped es clock
theorem MapM.lt {w : World} {b : Nat} {l : List (κ × α)} (h : MapM w b ek ev ok l) : b < w.heap.size := by
  obtain ⟨es, clock, hb, _⟩ := h
  exact lt_of_blk hb
theorem MapM.ext {w w' : World} {b : Nat} {l : List (κ × α)} (h : MapM w b ek ev ok l) (hx : ExtH w w') : MapM w' b ek ev ok l := by
  obtain ⟨es, clock, hb, r⟩ := h
  exact ⟨es, clock, hx _ _ hb, r⟩
theorem MapM.kp {S : List Nat} {w w' : World} {b : Nat} {l : List (κ × α)} (h : MapM w b ek ev ok l) (hk : Kp S w w') (hb : b ∉ S) : MapM w' b ek ev ok l := by
  obtain ⟨es, clock, h1, r⟩ := h
  exact ⟨es, clock, hk.blk h1 hb, r⟩
theorem MapM.new (w : World) : MapM (w.alloc (.map #[] 0)) w.heap.size ek ev ok ([] : List (κ × α)) := ⟨#[], 0, alloc_new, Nat.zero_le _, rfl, by simp, by simp, MapKept.stamped_empty _⟩
theorem find_none {l : List (κ × α)} {x : κ} (h : ∀ p ∈ l, p.1 ≠ x) : getM l x = none := by
  simp only [getM, Option.map_eq_none_iff, List.find?_eq_none]
  intro p hp; simpa using h p hp
theorem find_some : ∀ {l : List (κ × α)} {j : Nat} {p : κ × α}, (l.map (·.1)).Nodup → l[j]? = some p → getM l p.1 = some p.2
  | [], j, p, _, h => by simp at h
  | q :: l, 0, p, _, h => by simp at h; subst h; simp [getM]
  | q :: l, j + 1, p, hn, h => by
    simp at h
    simp only [List.map_cons, List.nodup_cons] at hn
    have hne : q.1 ≠ p.1 := fun e => hn.1 (by rw [e]; exact List.mem_map.2 ⟨p, List.mem_of_getElem? h, rfl⟩)
    have := find_some hn.2 h
    simp only [getM] at this ⊢
    rw [List.find?_cons_of_neg (by simpa using hne)]
    exact this
/-- Where a key stands in a map's entries. -/
theorem MapM.find {w w' : World} {b : Nat} {l : List (κ × α)} (hk : KeyEnc P k ek ok) {es : Array MapEntry} (hes : es.toList.map (fun x => (x.key, x.val)) = l.map (fun p => (ek p.1, ev p.2))) (hok : ∀ p ∈ l, ok p.1) {x : κ} (hx : ok x) :
    ((Instr.findKey k (ek x) es.toList).run P w = .ok none w ∧ ∀ p ∈ l, p.1 ≠ x) ∨
    ∃ j v e0, (Instr.findKey k (ek x) es.toList).run P w = .ok (some (j, ev v)) w ∧ l[j]? = some (x, v) ∧ es[j]? = some e0 ∧ e0.key = ek x := by
  obtain ⟨lx, hlx⟩ := hk.lit x hx
  have hat : ∀ (j : Nat) (e0 : MapEntry), es.toList[j]? = some e0 → ∃ p : κ × α, l[j]? = some p ∧ e0.key = ek p.1 ∧ e0.val = ev p.2 := fun j e0 he => by
    have := congrArg (·[j]?) hes
    simp only [List.getElem?_map, he, Option.map_some] at this
    cases hp : l[j]? with
    | none => rw [hp] at this; cases this
    | some p =>
      rw [hp] at this
      simp only [Option.map_some, Option.some.injEq, Prod.mk.injEq] at this
      exact ⟨p, rfl, this.1, this.2⟩
  rcases hk.keyed.find w hlx es.toList (fun e0 he => by
      obtain ⟨j, hj⟩ := List.getElem?_of_mem he
      obtain ⟨p, hp, h1, _⟩ := hat j e0 hj
      rw [h1]; exact hk.lit _ (hok p (List.mem_of_getElem? hp))) with ⟨h1, h2⟩ | ⟨j, e0, h1, h2, h3⟩
  · refine .inl ⟨h1, fun p hp hpx => ?_⟩
    obtain ⟨j, hj⟩ := List.getElem?_of_mem hp
    have hlen := congrArg List.length hes
    simp only [List.length_map] at hlen
    have hjl : j < es.toList.length := by rw [hlen]; exact (List.getElem?_eq_some_iff.1 hj).1
    obtain ⟨p', hp', h4, _⟩ := hat j _ (List.getElem?_eq_getElem hjl)
    rw [hj] at hp'
    cases hp'
    exact h2 _ (List.getElem_mem hjl) (by rw [h4, hpx])
  · obtain ⟨p, hp, h4, h5⟩ := hat j e0 h2
    have hpx : p.1 = x := hk.inj _ _ (by rw [← h4, h3])
    refine .inr ⟨j, p.2, e0, by rw [← h5]; exact h1, by rw [hp, ← hpx], by simpa using h2, h3⟩
theorem MapM.look {w : World} {b : Nat} {l : List (κ × α)} (h : MapM w b ek ev ok l) (hk : KeyEnc P k ek ok) (ht : P.underlying t = some (.map k e)) {z : Value} (hz : (zeroValue e).run P w = .ok z w) {x : κ} (hx : ok x) (c : Bool) :
    (Instr.lookup t (.map (some b)) (ek x) c).run P w = .ok (if c then .tuple #[((getM l x).map ev).getD z, .bool (getM l x).isSome] else ((getM l x).map ev).getD z) w := by
  obtain ⟨es, clock, hb, _, hes, hok, hnd, _⟩ := h
  obtain ⟨lx, hlx⟩ := hk.lit x hx
  rcases MapM.find (w := w) (w' := w) (b := b) hk hes hok hx with ⟨h1, h2⟩ | ⟨j, v, e0, h1, h2, h3, h4⟩
  · have hg := find_none h2
    simp [Instr.lookup, run_underlying ht, MapKept.run_getObj_map hb, hk.keyed.check w _ hlx, h1, hz, Result.andThen, hg]
  · have hg := find_some hnd h2
    simp only at hg
    simp [Instr.lookup, run_underlying ht, MapKept.run_getObj_map hb, hk.keyed.check w _ hlx, h1, Result.andThen, hg]
theorem MapM.len {w : World} {b : Nat} {l : List (κ × α)} (h : MapM w b ek ev ok l) (ht : P.underlying t = some (.map k e)) (ty : TypeId) : (Builtin.len_ #[t] ty #[.map (some b)]).run P w = .ok (.int .i64 l.length) w := by
  obtain ⟨es, clock, hb, _, hes, _, _, _⟩ := h
  have e1 : es.size = l.length := by
    have := congrArg List.length hes
    simpa using this
  simp [Builtin.len_, run_underlying ht, MapKept.run_getObj_map hb, goInt, Result.andThen, e1]
theorem MapM.store {w : World} {b : Nat} {l : List (κ × α)} (h : MapM w b ek ev ok l) (hk : KeyEnc P k ek ok) (ht : P.underlying t = some (.map k e)) {x : κ} (hx : ok x) (v : α) (hl : l.length < maxLen) :
    ∃ o, (Instr.mapUpdate t (.map (some b)) (ek x) (ev v)).run P w = .ok () (w.setB b o) ∧ MapM (w.setB b o) b ek ev ok (putM l x v) := by
  obtain ⟨es, clock, hb, hsz, hes, hok, hnd, hst⟩ := h
  obtain ⟨lx, hlx⟩ := hk.lit x hx
  have e1 : es.size = l.length := by
    have := congrArg List.length hes
    simpa using this
  rcases MapM.find (w := w) (w' := w) (b := b) hk hes hok hx with ⟨h1, h2⟩ | ⟨j, u, e0, h1, h2, h3, h4⟩
  · refine ⟨.map (es.push ⟨ek x, ev v, clock⟩) (clock + 1), ?_, _, _, setB_new (lt_of_blk hb), by simp; omega, ?_, ?_, ?_, MapKept.stamped_push hst (fun e he hek => ?_)⟩
    · simp [Instr.mapUpdate, run_underlying ht, MapKept.run_getObj_map hb, hk.keyed.check w false hlx, h1, MapKept.run_setObj_map _ hb, Result.andThen, World.setB]
    all_goals
      have hp : putM l x v = l ++ [(x, v)] := by
        rw [putM, if_neg]
        simp only [List.any_eq_true, decide_eq_true_eq, not_exists, not_and]
        exact h2
      try rw [hp]
    · simp [hes]
    · intro p hp'
      rcases List.mem_append.1 hp' with h | h
      · exact hok p h
      · simp at h; subst h; exact hx
    · rw [List.map_append, List.nodup_append]
      refine ⟨hnd, by simp, fun a ha c hc => ?_⟩
      simp at hc
      subst hc
      obtain ⟨p, hp', rfl⟩ := List.mem_map.1 ha
      exact h2 p hp'
    · obtain ⟨j, hj⟩ := List.getElem?_of_mem he
      have := congrArg (·[j]?) hes
      simp only [List.getElem?_map, hj, Option.map_some] at this
      cases hp' : l[j]? with
      | none => rw [hp'] at this; cases this
      | some p =>
        rw [hp'] at this
        simp only [Option.map_some, Option.some.injEq, Prod.mk.injEq] at this
        exact h2 p (List.mem_of_getElem? hp') (hk.inj _ _ (by rw [← this.1]; exact hek))
  · have hp : putM l x v = l.map fun p => if p.1 = x then (x, v) else p := by
      rw [putM, if_pos]
      simp only [List.any_eq_true, decide_eq_true_eq]
      exact ⟨_, List.mem_of_getElem? h2, rfl⟩
    have hset : (l.map fun p => if p.1 = x then (x, v) else p) = l.set j (x, v) := by
      refine List.ext_getElem (by simp) fun i hi hi' => ?_
      rw [List.getElem_map, List.getElem_set]
      have hil : i < l.length := by simpa using hi
      by_cases hij : j = i
      · subst hij
        rw [if_pos rfl]
        rw [List.getElem?_eq_getElem hil] at h2
        rw [if_pos (by rw [Option.some.inj h2])]
      · rw [if_neg hij, if_neg]
        intro he
        have hjl : j < l.length := (List.getElem?_eq_some_iff.1 h2).1
        rw [List.getElem?_eq_getElem hjl] at h2
        have h5 : (l.map (·.1))[i]'(by simpa using hil) = (l.map (·.1))[j]'(by simpa using hjl) := by
          simp only [List.getElem_map]
          rw [he, Option.some.inj h2]
        exact hij ((List.getElem_inj hnd).1 h5).symm
    have hmod : (es.modify j (fun e' => { e' with key := ek x, val := ev v })).toList = es.toList.set j ⟨ek x, ev v, e0.born⟩ := by
      have he : es.toList[j]? = some e0 := by simpa using h3
      refine List.ext_getElem (by simp) fun i hi hi' => ?_
      simp only [Array.getElem_toList, Array.getElem_modify, List.getElem_set]
      by_cases hij : j = i
      · subst hij
        have hil : j < es.size := by simpa using hi
        rw [if_pos rfl, if_pos rfl]
        have : es[j] = e0 := by
          rw [Array.getElem?_eq_getElem hil] at h3
          exact Option.some.inj h3
        rw [this]
      · rw [if_neg hij, if_neg hij]
    refine ⟨.map (es.modify j (fun e' => { e' with key := ek x, val := ev v })) clock, ?_, _, _, setB_new (lt_of_blk hb), by simpa using hsz, ?_, ?_, ?_, MapKept.stamped_modify hst _ _ (fun _ _ => rfl) (fun e _ he => ?_)⟩
    · simp [Instr.mapUpdate, run_underlying ht, MapKept.run_getObj_map hb, hk.keyed.check w false hlx, h1, h3, h4, hk.keyed.stays w hlx, MapKept.run_setObj_map _ hb, Result.andThen, World.setB]
    · rw [hp, hset, hmod, List.map_set, List.map_set, hes]
    · rw [hp]
      intro p hp'
      obtain ⟨q, hq, rfl⟩ := List.mem_map.1 hp'
      by_cases hqx : q.1 = x
      · rw [if_pos hqx]; exact hx
      · rw [if_neg hqx]; exact hok q hq
    · rw [hp]
      have : (l.map fun p => if p.1 = x then (x, v) else p).map (·.1) = l.map (·.1) := by
        rw [List.map_map]
        refine List.map_congr_left fun p _ => ?_
        simp only [Function.comp]
        by_cases hpx : p.1 = x
        · rw [if_pos hpx, hpx]
        · rw [if_neg hpx]
      rw [this]; exact hnd
    · rw [h3] at he
      rw [← Option.some.inj he]; exact h4.symm
end
end Go.W
end
section
set_option linter.unusedVariables false
set_option linter.unusedSimpArgs false
set_option linter.unusedSectionVars false
namespace Go.W
open Go
structure At (w : World) (F : List Nat) (A : Asr) (w1 : World) : Prop where
  ex : ∃ F', A w1 F' ∧ Sub w F F'
  kp : Kp F w w1
theorem At.start {w : World} {F : List Nat} {A : Asr} (h : A w F) : At w F A w := ⟨⟨F, h, Sub.refl w F⟩, Kp.refl _ _⟩
theorem At.new {w w1 : World} {A : Asr} (h : At w [] A w1) : New w A w1 := by
  obtain ⟨⟨F, h1, hn⟩, k⟩ := h
  refine ⟨⟨F, h1, fun x hx => ?_⟩, k⟩
  rcases hn x hx with h | h
  · cases h
  · exact h
section
variable {w w1 w2 : World} {F : List Nat} {A A' B C D : Asr}
theorem At.imp (h : At w F A w1) (hi : ∀ F1, A w1 F1 → ∃ F', A' w1 F' ∧ ∀ x ∈ F', x ∈ F1) : At w F A' w1 := by
  obtain ⟨⟨F1, h1, hn⟩, k⟩ := h
  obtain ⟨F', h2, hs⟩ := hi F1 h1
  exact ⟨⟨F', h2, fun x hx => hn x (hs x hx)⟩, k⟩
theorem At.swap (h : At w F (Star A B) w1) : At w F (Star B A) w1 := h.imp fun F1 ⟨Fa, Fb, h1, h2, hd, e⟩ => ⟨_, ⟨Fb, Fa, h2, h1, fun x hx hxa => hd x hxa hx, rfl⟩, fun x hx => by
  rw [e]; simpa [or_comm] using hx⟩
theorem At.rot (h : At w F (Star A (Star B C)) w1) : At w F (Star B (Star A C)) w1 := h.imp fun F1 ⟨Fa, Fx, h1, ⟨Fb, Fc, h2, h3, hd, ex⟩, hd2, e⟩ => by
  subst ex e
  refine ⟨_, ⟨Fb, _, h2, ⟨Fa, Fc, h1, h3, fun x hx hc => hd2 x hx (by simp [hc]), rfl⟩, fun x hx hxa => ?_, rfl⟩, fun x hx => ?_⟩
  · rcases List.mem_append.1 hxa with h | h
    · exact hd2 x h (by simp [hx])
    · exact hd x hx h
  · simp only [List.mem_append] at hx ⊢
    rcases hx with h | h | h
    · exact .inr (.inl h)
    · exact .inl h
    · exact .inr (.inr h)
theorem At.rot3 (h : At w F (Star A (Star B (Star C D))) w1) : At w F (Star C (Star A (Star B D))) w1 := h.imp fun F1 ⟨Fa, Fx, h1, ⟨Fb, Fy, h2, ⟨Fc, Fd, h3, h4, d1, e1⟩, d2, e2⟩, d3, e3⟩ => by
  subst e1 e2 e3
  refine ⟨_, ⟨Fc, _, h3, ⟨Fa, _, h1, ⟨Fb, Fd, h2, h4, fun x hx hd => d2 x hx (by simp [hd]), rfl⟩, fun x hx hm => ?_, rfl⟩, fun x hx hm => ?_, rfl⟩, fun x hx => ?_⟩
  · rcases List.mem_append.1 hm with h | h
    · exact d3 x hx (by simp [h])
    · exact d3 x hx (by simp [h])
  · simp only [List.mem_append] at hm
    rcases hm with h | h | h
    · exact d3 x h (by simp [hx])
    · exact d2 x h (by simp [hx])
    · exact d1 x hx h
  · simp only [List.mem_append] at hx ⊢
    rcases hx with h | h | h | h
    · exact .inr (.inr (.inl h))
    · exact .inl h
    · exact .inr (.inl h)
    · exact .inr (.inr (.inr h))
theorem At.kp0 (hl : Lcl A) (h : At w F A w1) (hk : Kp [] w1 w2) : At w F A w2 := by
  obtain ⟨⟨F1, h1, hn⟩, k⟩ := h
  exact ⟨⟨F1, hl.kp h1 hk (by simp), hn⟩, k.trans0 hk⟩
/-- A step in A's blocks. -/
theorem At.step (hA : Lcl A) (hB : Lcl B) (h : At w F (Star A B) w1) (hk : ∀ Fa, A w1 Fa → ∃ F', A' w2 F' ∧ Kp Fa w1 w2 ∧ Sub w1 Fa F') : At w F (Star A' B) w2 := by
  obtain ⟨⟨F1, ⟨Fa, Fb, h1, h2, hd, rfl⟩, hn⟩, k⟩ := h
  obtain ⟨F', h', hk', hs⟩ := hk Fa h1
  refine ⟨⟨_, ⟨F', Fb, h', hB.kp h2 hk' (fun x hx hxa => hd x hxa hx), fun x hx hxb => ?_, rfl⟩, fun x hx => ?_⟩, k.trans' hk' (fun x hx => hn x (by simp [hx]))⟩
  · rcases hs x hx with h3 | h3
    · exact hd x h3 hxb
    · have := hB.lt h2 x hxb; omega
  · rcases List.mem_append.1 hx with h3 | h3
    · rcases hs x h3 with h4 | h4
      · exact hn x (by simp [h4])
      · have := k.size; exact .inr (by omega)
    · exact hn x (by simp [h3])
/-- A step in all of A's blocks. -/
theorem At.step1 (hA : Lcl A) (h : At w F A w1) (hk : ∀ Fa, A w1 Fa → ∃ F', A' w2 F' ∧ Kp Fa w1 w2 ∧ Sub w1 Fa F') : At w F A' w2 := by
  obtain ⟨⟨Fa, h1, hn⟩, k⟩ := h
  obtain ⟨F', h', hk', hs⟩ := hk Fa h1
  refine ⟨⟨F', h', fun x hx => ?_⟩, k.trans' hk' (fun x hx => hn x hx)⟩
  rcases hs x hx with h3 | h3
  · exact hn x h3
  · have := k.size; exact .inr (by omega)
theorem At.more (hB : Lcl B) (h : At w F B w1) (hk : Kp [] w1 w2) (ha : ∃ F1, A w2 F1 ∧ ∀ x ∈ F1, w1.heap.size ≤ x) : At w F (Star A B) w2 := by
  obtain ⟨⟨Fb, h1, hn⟩, k⟩ := h
  obtain ⟨Fa, h2, hn2⟩ := ha
  refine ⟨⟨_, ⟨Fa, Fb, h2, hB.kp h1 hk (by simp), fun x hx hxb => ?_, rfl⟩, fun x hx => ?_⟩, k.trans0 hk⟩
  · have := hB.lt h1 x hxb; have := hn2 x hx; omega
  · rcases List.mem_append.1 hx with h3 | h3
    · have := hn2 x h3; have := k.size; exact .inr (by omega)
    · exact hn x h3
theorem At.drop (h : At w F (Star A B) w1) : At w F B w1 := h.imp fun F1 ⟨Fa, Fb, h1, h2, hd, e⟩ => ⟨Fb, h2, fun x hx => by rw [e]; simp [hx]⟩
theorem At.get (h : At w F (Star A B) w1) : ∃ F1, A w1 F1 := by
  obtain ⟨⟨F1, ⟨Fa, Fb, h1, _⟩, _⟩, _⟩ := h
  exact ⟨Fa, h1⟩
theorem At.obj {b : Nat} {o : Obj} (h : At w F (Star (ObjA b o) B) w1) : w1.heap[b]? = some o := by
  obtain ⟨F1, h1⟩ := h.get
  exact h1.1
/-- A block is set. -/
theorem At.setB {b : Nat} {o o' : Obj} (hB : Lcl B) (h : At w F (Star (ObjA b o) B) w1) : At w F (Star (ObjA b o') B) (w1.setB b o') := by
  refine h.step Lcl.obj hB ?_
  rintro Fa ⟨h1, rfl⟩
  exact ⟨[b], ⟨setB_new (lt_of_blk h1), rfl⟩, (Kp.refl _ _).setB (.inl (by simp)) _, fun x hx => .inl hx⟩
/-- A new block. -/
theorem At.alloc (o : Obj) (hB : Lcl B) (h : At w F B w1) : At w F (Star (ObjA w1.heap.size o) B) (w1.alloc o) :=
  h.more hB ((Kp.refl _ _).alloc _) ⟨_, ⟨alloc_new, rfl⟩, by simp⟩
theorem At.drew (hA : Lcl A) (h : At w F A w1) : At w F A w1.drew := h.kp0 hA (Kp.refl [] w1).drew
end
section
variable {α : Type} {enc : α → List Value} {E sz : Nat} {l : List α} {v : Value} {B : Asr} {w w1 : World} {F : List Nat}
theorem At.own (h : At w F (Star (OwnA v E sz enc l) B) w1) : Own w1 v E sz enc l := by
  obtain ⟨F1, h1, _⟩ := h.get
  exact h1
theorem At.store {KW : Kont World} (hB : Lcl B) (h : At w F (Star (OwnA v E sz enc l) B) w1) (he : ∀ x, (enc x).length = sz) (h1 : ∀ x, (enc x).all oneC = true) {k : Nat} (hk : k < l.length) {x : α} {cs : List Value} (hcs : cs = enc x)
    (H : ∀ w2, At w F (Star (OwnA v E sz enc (l.set k x)) B) w2 → KW.run w2) : @stJ w1 ⟨v.blk, k * sz, none⟩ cs KW := by
  refine h.own.store he h1 hk hcs fun w2 hk2 hs2 ho2 => H w2 (h.step Lcl.own hB ?_)
  rintro Fa ⟨ho, rfl⟩
  exact ⟨_, ⟨ho2, rfl⟩, by rw [ho.own_eq hk]; exact hk2, fun x hx => .inl hx⟩
theorem At.store1 {KW : Kont World} (hB : Lcl B) (h : At w F (Star (OwnA v E 1 enc l) B) w1) (he : ∀ x, (enc x).length = 1) (h1 : ∀ x, (enc x).all oneC = true) {k : Nat} (hk : k < l.length) {x : α} {cs : List Value} (hcs : cs = enc x)
    (H : ∀ w2, At w F (Star (OwnA v E 1 enc (l.set k x)) B) w2 → KW.run w2) : @stJ w1 ⟨v.blk, k, none⟩ cs KW := by
  have := h.store (KW := KW) hB he h1 hk hcs H
  rwa [Nat.mul_one] at this
theorem At.append {P : Program} {KV : Kont (Value × World)} {T ty by_ : Nat} {z : List Value} (hB : Lcl B) (h : At w F (Star (OwnA v E sz enc l) B) w1) (he : ∀ x, (enc x).length = sz) (h1 : ∀ x, (enc x).all oneC = true)
    (hT : slInfo P T = some (E, sz, by_, z)) {a : Addr} {m c : Nat} {xs : List α} (hm : xs.length = m) (hx : ∀ j u, (xs.flatMap enc)[j]? = some u → w1.cell? (a.add j) = some u)
    (hb : (l.length + m) * by_ ≤ 140737488355328) (hmax : l.length + m ≤ maxLen)
    (H : ∀ v' w2, At w F (Star (OwnA v' E sz enc (l ++ xs)) B) w2 → KV.run (v', w2)) :
    @efH P (Builtin.append_ #[T, T] ty [v, .slice (some a) m c].toArray) w1 KV := by
  refine h.own.append he h1 hT hm hx hb hmax fun v' w2 hk2 ho2 hs2 => H v' w2 (h.step Lcl.own hB ?_)
  rintro Fa ⟨ho, rfl⟩
  exact ⟨_, ⟨ho2, rfl⟩, hk2, hs2⟩
theorem At.appendV {P : Program} {KV : Kont (Value × World)} {T ty by_ : Nat} {z : List Value} {u : Value} {xs : List α} (hB : Lcl B) (h : At w F (Star (OwnA v E sz enc l) B) w1) (hu : Vw w1 u enc xs) (he : ∀ x, (enc x).length = sz) (h1 : ∀ x, (enc x).all oneC = true)
    (hT : slInfo P T = some (E, sz, by_, z)) (hb : (l.length + xs.length) * by_ ≤ 140737488355328) (hmax : l.length + xs.length ≤ maxLen)
    (H : ∀ v' w2, At w F (Star (OwnA v' E sz enc (l ++ xs)) B) w2 → KV.run (v', w2)) :
    @efH P (Builtin.append_ #[T, T] ty [v, u].toArray) w1 KV := by
  refine h.own.appendV hu he h1 hT hb hmax fun v' w2 hk2 ho2 hs2 => H v' w2 (h.step Lcl.own hB ?_)
  rintro Fa ⟨ho, rfl⟩
  exact ⟨_, ⟨ho2, rfl⟩, hk2, hs2⟩
theorem At.nil (hB : Lcl B) (h : At w F B w1) : At w F (Star (OwnA (.slice none 0 0) E sz enc []) B) w1 :=
  h.more hB (Kp.refl _ _) ⟨_, ⟨Own.nil _ _ _ _, rfl⟩, by simp⟩
theorem At.made {n : Nat} {x : α} {z : List Value} (hB : Lcl B) (h : At w F B w1) (hz : z = enc x) (he : ∀ x, (enc x).length = sz) (hn : n ≤ maxLen) :
    At w F (Star (OwnA (.slice (some ⟨w1.heap.size, 0, none⟩) n n) E sz enc (List.replicate n x)) B) (w1.alloc (.cells (rowOf z n).toArray E)) :=
  h.more hB ((Kp.refl _ _).alloc _) ⟨_, ⟨Own.made hz he hn, rfl⟩, by simp⟩
/-- A literal slice. -/
theorem At.lit {xs : List α} {cs : Array Value} (hB : Lcl B) (h : At w F B w1) (hcs : cs.toList = xs.flatMap enc) (he : ∀ x, (enc x).length = sz) (hn : xs.length ≤ maxLen) {m : Nat} (hm : m = xs.length) :
    At w F (Star (OwnA (.slice (some ⟨w1.heap.size, 0, none⟩) m m) E sz enc xs) B) (w1.alloc (.cells cs E)) := by
  subst hm
  exact h.more hB ((Kp.refl _ _).alloc _) ⟨_, ⟨.inr ⟨w1.heap.size, xs.length, cs, [], rfl, alloc_new, by simpa using hcs, by simp, Nat.le_refl _, hn⟩, rfl⟩, by simp⟩
end
def VwA {α : Type} (v : Value) (enc : α → List Value) (l : List α) : Asr := fun w F => Vw w v enc l ∧ F = v.own ∧ ∀ x ∈ v.own, x < w.heap.size
theorem Lcl.vw {α : Type} {v : Value} {enc : α → List Value} {l : List α} : Lcl (VwA v enc l) := by
  refine ⟨?_, ?_⟩
  · rintro w F ⟨h, rfl, hlt⟩ x hx; exact hlt x hx
  · rintro w F G w' ⟨h, rfl, hlt⟩ hk hd
    exact ⟨h.kp hk hd, rfl, fun x hx => by have := hlt x hx; have := hk.size; omega⟩
theorem At.vw {α : Type} {v : Value} {enc : α → List Value} {l : List α} {w w1 : World} {F : List Nat} {B : Asr} (h : At w F (Star (VwA v enc l) B) w1) : Vw w1 v enc l := by
  obtain ⟨F1, h1, _⟩ := h.get
  exact h1
theorem At.own_vw {α : Type} {v : Value} {E sz : Nat} {enc : α → List Value} {l : List α} {w w1 : World} {F : List Nat} {B : Asr} (h : At w F (Star (OwnA v E sz enc l) B) w1) : At w F (Star (VwA v enc l) B) w1 := h.imp fun F1 ⟨Fa, Fb, ⟨h1, e1⟩, h2, hd, e⟩ => by
  subst e e1
  refine ⟨_, ⟨v.own, Fb, ⟨h1.vw, rfl, fun x hx => ?_⟩, h2, hd, rfl⟩, fun x hx => hx⟩
  rcases h1 with ⟨rfl, _⟩ | ⟨g, cap, cur, junk, rfl, hh, _⟩
  · cases hx
  · simp at hx; subst hx; exact lt_of_blk hh
section
open Go.Maps
variable {κ α : Type} [DecidableEq κ] {ek : κ → Value} {ev : α → Value} {ok : κ → Prop} {P : Program} {k e t : TypeId} {l : List (κ × α)} {b : Nat} {B : Asr} {w w1 : World} {F : List Nat}
def MapA (b : Nat) (ek : κ → Value) (ev : α → Value) (ok : κ → Prop) (l : List (κ × α)) : Asr := fun w F => MapM w b ek ev ok l ∧ F = [b]
theorem Lcl.map : Lcl (MapA b ek ev ok l) := by
  refine ⟨?_, ?_⟩
  · rintro w F ⟨h, rfl⟩ x hx
    simp at hx; subst hx; exact h.lt
  · rintro w F G w' ⟨h, rfl⟩ hk hd
    exact ⟨h.kp hk (hd b (by simp)), rfl⟩
theorem At.map (h : At w F (Star (MapA b ek ev ok l) B) w1) : MapM w1 b ek ev ok l := by
  obtain ⟨F1, h1, _⟩ := h.get
  exact h1
theorem At.put {KW : Kont World} {x : κ} {v : α} (hB : Lcl B) (h : At w F (Star (MapA b ek ev ok l) B) w1) (hk : KeyEnc P k ek ok) (ht : P.underlying t = some (.map k e)) (hx : ok x) (hl : l.length < maxLen)
    (H : ∀ w2, At w F (Star (MapA b ek ev ok (putM l x v)) B) w2 → KW.run w2) : @efuH P (Instr.mapUpdate t (.map (some b)) (ek x) (ev v)) w1 KW := by
  obtain ⟨o, hr, hm⟩ := h.map.store hk ht hx v hl
  refine efu_mk hr (H _ (h.step Lcl.map hB ?_))
  rintro Fa ⟨h1, rfl⟩
  exact ⟨[b], ⟨hm, rfl⟩, (Kp.refl _ _).setB (.inl (by simp)) _, fun x hx => .inl hx⟩
theorem MapM.look1 {K : Kont Value} {x : κ} (h : MapM w b ek ev ok l) (hk : KeyEnc P k ek ok) (ht : P.underlying t = some (.map k e)) {z : Value} (hz : ∀ w, (zeroValue e).run P w = .ok z w) (hx : ok x)
    (H : K.run (((getM l x).map ev).getD z)) : @rdH P (Instr.lookup t (.map (some b)) (ek x) false) w K :=
  rd_mk (fun w' hw => by have := MapM.look (h.ext hw) hk ht (hz w') hx false; simpa using this) H
theorem MapM.len2 {K : Kont Value} {ty : Nat} (h : MapM w b ek ev ok l) (ht : P.underlying t = some (.map k e)) (H : K.run (.int .i64 l.length)) : @rdH P (Builtin.len_ #[t] ty #[.map (some b)]) w K :=
  rd_mk (fun w' hw => MapM.len (h.ext hw) ht ty) H
end
end Go.W
end
section
set_option linter.unusedVariables false
set_option linter.unusedSimpArgs false
set_option linter.unusedSectionVars false
namespace Go.W
open Go
section
variable (P : Program) (S : Nat → World → Prop)
/-- One operation: its value is the same in each world that may be there; the k-th effect leads on. -/
def stA (c : Nat) (op : Op) (ty : TypeId) (ρ : Env) (k : Nat) (N : Value → Nat → Prop) : Prop :=
  match c with
  | 0 => opS P 0 op ty ρ default fun v _ => N v k
  | 1 => ∃ v, (∀ k' w', S k' w' → opS P 1 op ty ρ w' fun x _ => x = v) ∧ N v k
  | c + 2 => ∃ v, (∀ w', S k w' → opS P (c + 2) op ty ρ w' fun x w'' => x = v ∧ S (k + 1) w'') ∧ N v (k + 1)
def wpA : Nat → List LO → Env → (Env → Nat → Prop) → Prop
  | k, [], ρ, K => K ρ k
  | k, ⟨c, d, op, ty, none⟩ :: l, ρ, K => stA P S c op ty ρ k fun v k' => wpA k' l (ρ.put d v) K
  | k, ⟨c, d, op, ty, some (g, b)⟩ :: l, ρ, K => gd (ρ g) b (stA P S c op ty ρ k fun v k' => wpA k' l (ρ.put d v) K) (wpA k l (ρ.put d undef) K)
end
section
variable {P : Program} {S : Nat → World → Prop} {los : List LO} {deps : List Nat}
end
section
variable {P : Program} {S : Nat → World → Prop} {ρ : Env} {K : Env → Nat → Prop} {k : Nat} {ty : Nat}
class KontA (α : Type) where
  run : α → Prop
@[simp] theorem runA_mk {α : Type} {f : α → Prop} {x : α} : @KontA.run α ⟨f⟩ x = f x := propext Iff.rfl
/-- A read, hidden. -/
def rdA (P : Program) (S : Nat → World → Prop) (op : Op) (ty : Nat) (ρ : Env) [K : KontA Value] : Prop := ∃ v, (∀ k' w', S k' w' → opS P 1 op ty ρ w' fun x _ => x = v) ∧ K.run v
/-- An effect, hidden. -/
def efA (P : Program) (S : Nat → World → Prop) (c : Nat) (op : Op) (ty : Nat) (ρ : Env) (k : Nat) [K : KontA Value] : Prop := ∃ v, (∀ w', S k w' → opS P (c + 2) op ty ρ w' fun x w'' => x = v ∧ S (k + 1) w'') ∧ K.run v
@[simp ↓] theorem wpA_nil : wpA P S k [] ρ K = K ρ k := propext Iff.rfl
@[simp ↓] theorem wpA_0 {d : Option Nat} {op : Op} {l : List LO} : wpA P S k (⟨0, d, op, ty, none⟩ :: l) ρ K = opS P 0 op ty ρ default fun v _ => wpA P S k l (ρ.put d v) K := propext Iff.rfl
@[simp ↓] theorem wpA_1 {d : Option Nat} {op : Op} {l : List LO} : wpA P S k (⟨1, d, op, ty, none⟩ :: l) ρ K = @rdA P S op ty ρ ⟨fun v => wpA P S k l (ρ.put d v) K⟩ := propext Iff.rfl
@[simp ↓] theorem wpA_2 {d : Option Nat} {op : Op} {l : List LO} : wpA P S k (⟨2, d, op, ty, none⟩ :: l) ρ K = @efA P S 0 op ty ρ k ⟨fun v => wpA P S (k + 1) l (ρ.put d v) K⟩ := propext Iff.rfl
end
end Go.W
end
section
set_option linter.unusedVariables false
set_option linter.unusedSimpArgs false
set_option linter.unusedSectionVars false
namespace Go.W
open Go Go.Maps
theorem tyAgg_row {P : Program} {T n : Nat} (h : tyAgg P T = some (some n)) : ∃ d, P.underlying T = some d ∧ (match d with | .struct _ | .array _ _ => true | _ => false) = true ∧ (P.info? T).map (·.size) = some n := by
  unfold tyAgg at h
  split at h
  · rename_i fs i h1 h2
    simp only [Option.some.injEq] at h
    exact ⟨_, h1, rfl, by rw [h2]; simp [h]⟩
  · rename_i i h1 h2
    simp only [Option.some.injEq] at h
    exact ⟨_, h1, rfl, by rw [h2]; simp [h]⟩
  · split at h <;> simp at h
  · cases h
theorem postL_c1 {P : Program} {ρ : Env} {w : World} {R : Ending → World → Prop} {a T n g E : Nat} {cs : Array Value} {fr : Nat × Nat} (hT : tyAgg P T = some (some n)) (ha : ρ a = .pointer (some ⟨g, 0, none⟩)) (hg : w.heap[g]? = some (.cells cs E fr)) (hn : cs.size = n) (hE : E = T)
    (h : R (.returned (.agg cs)) w) : postL P [.cell a T] R .ret ρ w := by
  subst hE
  obtain ⟨d, h1, h2, h3⟩ := tyAgg_row hT
  refine ⟨.agg cs, ?_, h⟩
  have := run_loadVar_row (P := P) w g E E cs fr d hg h1 (by cases d <;> first | rfl | (simp at h2)) (by rw [h3, hn])
  simp [resAll, resOne, ha, asAddr, this, Result.andThen]
section
variable {w w1 : World} {F : List Nat} {B A C D : Asr}
/-- A store into a block. -/
theorem At.st {b o E : Nat} {c : Array Value} {cs : List Value} {KW : Kont World} (hB : Lcl B) (h : At w F (Star (ObjA b (.cells c E (0, 0))) B) w1) (hs : o + cs.length ≤ c.size) (h1 : cs.all oneC = true)
    (H : ∀ w2, At w F (Star (ObjA b (.cells (wrAt c o cs) E (0, 0))) B) w2 → KW.run w2) : @stJ w1 ⟨b, o, none⟩ cs KW := by
  rw [stC_eq, row_blk h.obj]
  simp only [optS_some, run_mk]
  refine gd_mk ⟨trivial, hs, h1⟩ ?_
  exact H _ (h.setB hB)
theorem Star.assoc {w : World} {F : List Nat} (h : Star (Star A B) C w F) : ∃ F', Star A (Star B C) w F' ∧ ∀ x ∈ F', x ∈ F := by
  obtain ⟨Fx, Fc, ⟨Fa, Fb, h1, h2, d1, rfl⟩, h3, d2, rfl⟩ := h
  refine ⟨_, ⟨Fa, _, h1, ⟨Fb, Fc, h2, h3, fun x hx hc => d2 x (by simp [hx]) hc, rfl⟩, fun x hx hm => ?_, rfl⟩, fun x hx => by simpa using hx⟩
  rcases List.mem_append.1 hm with h | h
  · exact d1 x hx h
  · exact d2 x (by simp [hx]) h
theorem Star.assoc' {w : World} {F : List Nat} (h : Star A (Star B C) w F) : ∃ F', Star (Star A B) C w F' ∧ ∀ x ∈ F', x ∈ F := by
  obtain ⟨Fa, Fx, h1, ⟨Fb, Fc, h2, h3, d1, rfl⟩, d2, rfl⟩ := h
  refine ⟨_, ⟨_, Fc, ⟨Fa, Fb, h1, h2, fun x hx hb => d2 x hx (by simp [hb]), rfl⟩, h3, fun x hx hc => ?_, rfl⟩, fun x hx => by simpa using hx⟩
  rcases List.mem_append.1 hx with h | h
  · exact d2 x h (by simp [hc])
  · exact d1 x h hc
theorem At.assoc (h : At w F (Star (Star A B) C) w1) : At w F (Star A (Star B C)) w1 := h.imp fun _ h => h.assoc
theorem At.assoc' (h : At w F (Star A (Star B C)) w1) : At w F (Star (Star A B) C) w1 := h.imp fun _ h => h.assoc'
/-- Something that there is. -/
def ExA {α : Type} (A : α → Asr) : Asr := fun w F => ∃ x, A x w F
theorem Lcl.ex {α : Type} {A : α → Asr} (h : ∀ x, Lcl (A x)) : Lcl (ExA A) := by
  refine ⟨?_, ?_⟩
  · rintro w F ⟨x, hx⟩; exact (h x).lt hx
  · rintro w F G w' ⟨x, hx⟩ hk hd; exact ⟨x, (h x).kp hx hk hd⟩
theorem At.ex_open {α : Type} {A : α → Asr} (h : At w F (Star (ExA A) B) w1) : ∃ x, At w F (Star (A x) B) w1 := by
  obtain ⟨⟨F1, ⟨Fa, Fb, ⟨x, h1⟩, h2, hd, e⟩, hn⟩, k⟩ := h
  exact ⟨x, ⟨⟨F1, ⟨Fa, Fb, h1, h2, hd, e⟩, hn⟩, k⟩⟩
theorem At.ex_close {α : Type} {A : α → Asr} {x : α} (h : At w F (Star (A x) B) w1) : At w F (Star (ExA A) B) w1 :=
  h.imp fun F1 ⟨Fa, Fb, h1, h2, hd, e⟩ => ⟨F1, ⟨Fa, Fb, ⟨x, h1⟩, h2, hd, e⟩, fun x hx => hx⟩
/-- One assertion out of another, in no more blocks. -/
def Imp (A B : Asr) : Prop := ∀ w F, A w F → ∃ F', B w F' ∧ ∀ x ∈ F', x ∈ F
theorem Imp.rfl {A : Asr} : Imp A A := fun _ F h => ⟨F, h, fun _ h => h⟩
theorem Imp.trans {A B C : Asr} (h : Imp A B) (k : Imp B C) : Imp A C := fun w F hA => by
  obtain ⟨F', h1, h2⟩ := h w F hA
  obtain ⟨F'', h3, h4⟩ := k w F' h1
  exact ⟨F'', h3, fun x hx => h2 x (h4 x hx)⟩
theorem Imp.sw {A B C : Asr} : Imp (Star A (Star B C)) (Star B (Star A C)) := by
  rintro w F ⟨Fa, Fx, h1, ⟨Fb, Fc, h2, h3, hd, rfl⟩, hd2, rfl⟩
  refine ⟨_, ⟨Fb, _, h2, ⟨Fa, Fc, h1, h3, fun x hx hc => hd2 x hx (by simp [hc]), _root_.rfl⟩, fun x hx hxa => ?_, _root_.rfl⟩, fun x hx => ?_⟩
  · rcases List.mem_append.1 hxa with h | h
    · exact hd2 x h (by simp [hx])
    · exact hd x hx h
  · simp only [List.mem_append] at hx ⊢
    rcases hx with h | h | h
    · exact .inr (.inl h)
    · exact .inl h
    · exact .inr (.inr h)
theorem Imp.un {A X Y : Asr} (h : Imp X Y) : Imp (Star A X) (Star A Y) := by
  rintro w F ⟨Fa, Fx, h1, h2, hd, rfl⟩
  obtain ⟨F', h3, h4⟩ := h w Fx h2
  refine ⟨_, ⟨Fa, F', h1, h3, fun x hx hm => hd x hx (h4 x hm), _root_.rfl⟩, fun x hx => ?_⟩
  rcases List.mem_append.1 hx with h | h
  · simp [h]
  · simp [h4 x h]
theorem Imp.dr {A X : Asr} : Imp (Star A X) X := by
  rintro w F ⟨Fa, Fx, h1, h2, hd, rfl⟩
  exact ⟨Fx, h2, fun x hx => by simp [hx]⟩
theorem At.by {A X : Asr} (h : At w F A w1) (i : Imp A X) : At w F X w1 := h.imp fun F1 h1 => i w1 F1 h1
end
end Go.W
end
