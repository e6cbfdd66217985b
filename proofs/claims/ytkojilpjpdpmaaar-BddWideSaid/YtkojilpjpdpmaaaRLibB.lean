/-
  The walker's library, part LibB: plain theorems that the proofs of this seat use; no conditions beyond those each theorem names.
-/
import Derived.Test.YtkojilpjpdpmaaaRLibA
import Derived.Laws.StructEq
import Derived.ChangeKeysEq
set_option linter.unusedVariables false
set_option linter.unusedSimpArgs false
namespace Go.W
open Go
@[simp] theorem gd_undef {b : Bool} {KB : Kont Bool} : @guH undef b KB = KB.run false := by simp [undef]
/-! ### '==' of structs and arrays of integers -/
def intT (P : Program) (k : IntKind) (e : TypeId) : Bool := P.plainKey e && (match P.underlying e with | some (.int k') => k' == k | _ => false)
theorem intT_ok {P : Program} {k : IntKind} {e : TypeId} (h : intT P k e = true) : P.plainKey e = true ∧ P.underlying e = some (.int k) := by
  simp only [intT, Bool.and_eq_true] at h
  refine ⟨h.1, ?_⟩
  have h2 := h.2
  split at h2
  · rename_i k' hk
    rw [hk]
    have : k' = k := by simpa using h2
    rw [this]
  · cases h2
def fieldsI (P : Program) (k : IntKind) : Nat → List Field → Bool
  | _, [] => true
  | o, f :: fs => f.offset == o && f.name != "_" && intT P k f.type && fieldsI P k (o + 1) fs
theorem eqFields_ints {P : Program} {k : IntKind} (w : World) (d : Nat) : ∀ (fs : List Field) (o : Nat) (la lb : List Int) (xs ys : Array Value), fieldsI P k o fs = true → la.length = fs.length → lb.length = fs.length →
    (∀ j u, la[j]? = some u → xs[o + j]? = some (.int k u)) → (∀ j u, lb[j]? = some u → ys[o + j]? = some (.int k u)) → (Op.eqFields (d + 1) xs ys fs).run P w = .ok (la == lb) w
  | [], o, la, lb, xs, ys, _, ha, hb, _, _ => by
    have h1 : la = [] := by simpa using ha
    have h2 : lb = [] := by simpa using hb
    subst h1 h2
    simp [Op.eqFields]
  | f :: fs, o, [], lb, xs, ys, _, ha, hb, _, _ => by simp at ha
  | f :: fs, o, a :: la, [], xs, ys, _, ha, hb, _, _ => by simp at hb
  | f :: fs, o, a :: la, b :: lb, xs, ys, h, ha, hb, hx, hy => by
    simp only [fieldsI, Bool.and_eq_true, bne_iff_ne, ne_eq, beq_iff_eq] at h
    obtain ⟨⟨⟨h1, h2⟩, h3⟩, h4⟩ := h
    obtain ⟨hp, hu⟩ := intT_ok h3
    have x0 := hx 0 a rfl
    have y0 := hy 0 b rfl
    rw [Nat.add_zero, ← h1] at x0 y0
    have ih := eqFields_ints w d fs (o + 1) la lb xs ys h4 (by simpa using ha) (by simpa using hb) (fun j u hj => by rw [show o + 1 + j = o + (j + 1) by omega]; exact hx (j + 1) u (by simpa using hj)) (fun j u hj => by rw [show o + 1 + j = o + (j + 1) by omega]; exact hy (j + 1) u (by simpa using hj))
    simp only [Op.eqFields, if_pos h2, ne_eq, h2, not_false_eq_true, if_true, Sem.run_bind, run_part_plain w hp x0, run_part_plain w hp y0, Result.andThen_ok, run_equalIn_int w d f.type k k a b hu, Sem.run_ite, Sem.run_pure, ih]
    by_cases hab : a = b <;> simp [hab]
theorem eqItems_ints {P : Program} {k : IntKind} (w : World) (d : Nat) {e : TypeId} (he : intT P k e = true) (xs ys : Array Value) : ∀ (la lb : List Int) (o : Nat), la.length = lb.length →
    (∀ j u, la[j]? = some u → xs[o + j]? = some (.int k u)) → (∀ j u, lb[j]? = some u → ys[o + j]? = some (.int k u)) → (Op.eqItems (d + 1) e 1 xs ys ((List.range' o la.length))).run P w = .ok (la == lb) w
  | [], [], o, _, _, _ => by simp [Op.eqItems]
  | [], b :: lb, o, h, _, _ => by simp at h
  | a :: la, [], o, h, _, _ => by simp at h
  | a :: la, b :: lb, o, h, hx, hy => by
    obtain ⟨hp, hu⟩ := intT_ok he
    have x0 := hx 0 a rfl
    have y0 := hy 0 b rfl
    rw [Nat.add_zero] at x0 y0
    have ih := eqItems_ints w d he xs ys la lb (o + 1) (by simpa using h) (fun j u hj => by rw [show o + 1 + j = o + (j + 1) by omega]; exact hx (j + 1) u (by simpa using hj)) (fun j u hj => by rw [show o + 1 + j = o + (j + 1) by omega]; exact hy (j + 1) u (by simpa using hj))
    simp only [List.length_cons, List.range'_succ, Op.eqItems, Nat.mul_one, Sem.run_bind, run_part_plain w hp x0, run_part_plain w hp y0, Result.andThen_ok, run_equalIn_int w d e k k a b hu, Sem.run_ite, Sem.run_pure, ih]
    by_cases hab : a = b <;> simp [hab]
section
variable {P : Program} {k : IntKind} {T : TypeId} {la lb : List Int} {x y : Operand} {w : World} {K : Kont Value}
theorem equal_struct (hg : P.underlying T = some (.struct (P.fieldsOf T))) (hs : P.stoodInHeld T = false) (hf : fieldsI P k 0 (P.fieldsOf T).toList = true) (ha : la.length = (P.fieldsOf T).size) (hb : lb.length = (P.fieldsOf T).size) (w : World) :
    (Op.equalIn 10000 T (.agg (la.map (.int k)).toArray) (.agg (lb.map (.int k)).toArray)).run P w = .ok (la == lb) w := by
  rw [run_equalIn_agg w 9999 T _ _ hg hs]
  exact eqFields_ints w 9998 _ 0 la lb _ _ hf (by simpa using ha) (by simpa using hb) (fun j u hj => by simp [hj]) (fun j u hj => by simp [hj])
theorem equal_array {e n : Nat} (hu : P.underlying T = some (.array n e)) (hi : (P.info? e).isSome = true) (hc : P.cellsOf e = 1) (he : intT P k e = true) (ha : la.length = n) (hb : lb.length = n) (w : World) :
    (Op.equalIn 10000 T (.agg (la.map (.int k)).toArray) (.agg (lb.map (.int k)).toArray)).run P w = .ok (la == lb) w := by
  obtain ⟨i, hi⟩ := Option.isSome_iff_exists.1 hi
  rw [run_equalIn_array w 9999 _ _ hu hi, hc, List.range_eq_range', ← ha]
  exact eqItems_ints w 9998 he _ _ la lb 0 (by omega) (fun j u hj => by simp [hj]) (fun j u hj => by simp [hj])
theorem rd_eql (hg : P.eqGuardType P.depth T = false) (he : ∀ w, (Op.equalIn 10000 T (.agg (la.map (.int k)).toArray) (.agg (lb.map (.int k)).toArray)).run P w = .ok (la == lb) w) (h : K.run (.bool (la == lb))) :
    @rdH P (do eqGuard .eql T x y (.agg (la.map (.int k)).toArray) (.agg (lb.map (.int k)).toArray); binOp .eql T (.agg (la.map (.int k)).toArray) (.agg (lb.map (.int k)).toArray)) w K :=
  rd_mk (fun w' _ => by simp only [Sem.run_bind, run_eqGuard_agg w' _ _ _ _ _ _ hg, Result.andThen_ok, run_eql_struct, he]) h
theorem rd_neq (hg : P.eqGuardType P.depth T = false) (he : ∀ w, (Op.equalIn 10000 T (.agg (la.map (.int k)).toArray) (.agg (lb.map (.int k)).toArray)).run P w = .ok (la == lb) w) (h : K.run (.bool !(la == lb))) :
    @rdH P (do eqGuard .neq T x y (.agg (la.map (.int k)).toArray) (.agg (lb.map (.int k)).toArray); binOp .neq T (.agg (la.map (.int k)).toArray) (.agg (lb.map (.int k)).toArray)) w K :=
  rd_mk (fun w' _ => by simp only [Sem.run_bind, run_eqGuard_agg w' _ _ _ _ _ _ hg, Result.andThen_ok, run_neq_struct, he]) h
end

/-! ### Rows of one's own, in assertions -/
theorem rowOf_rep {α : Type} {enc : α → List Value} (x : α) : ∀ n, rowOf (enc x) n = (List.replicate n x).flatMap enc
  | 0 => rfl
  | n + 1 => by simp [rowOf, List.replicate_succ, rowOf_rep x n]
theorem Own.made {α : Type} {enc : α → List Value} {E sz n : Nat} {x : α} {z : List Value} {w : World} (hz : z = enc x) (he : ∀ x, (enc x).length = sz) (hn : n ≤ maxLen) :
    Own (w.alloc (.cells (rowOf z n).toArray E)) (.slice (some ⟨w.heap.size, 0, none⟩) n n) E sz enc (List.replicate n x) := by
  subst hz
  refine .inr ⟨w.heap.size, n, _, [], by simp, alloc_new, ?_, by simp, by simp, hn⟩
  simp [rowOf_rep]
theorem New.made {α : Type} {enc : α → List Value} {E sz n : Nat} {x : α} {z : List Value} {B : Asr} {w w1 : World} (hB : Lcl B) (h : New w B w1) (hz : z = enc x) (he : ∀ x, (enc x).length = sz) (hn : n ≤ maxLen) :
    New w (Star (OwnA (.slice (some ⟨w1.heap.size, 0, none⟩) n n) E sz enc (List.replicate n x)) B) (w1.alloc (.cells (rowOf z n).toArray E)) :=
  h.more hB ((Kp.refl _ _).alloc _) ⟨_, ⟨Own.made hz he hn, rfl⟩, by simp⟩
section
variable {α : Type} {enc : α → List Value} {E sz : Nat} {l : List α} {v : Value} {B : Asr} {w w1 : World}
theorem New.own (h : New w (Star (OwnA v E sz enc l) B) w1) : Own w1 v E sz enc l := by
  obtain ⟨F, h1, _⟩ := h.get
  exact h1
/-- An element is stored into a row of one's own. -/
theorem New.store {KW : Kont World} (hB : Lcl B) (h : New w (Star (OwnA v E sz enc l) B) w1) (he : ∀ x, (enc x).length = sz) (h1 : ∀ x, (enc x).all oneC = true) {k : Nat} (hk : k < l.length) {x : α} {cs : List Value} (hcs : cs = enc x)
    (H : ∀ w2, New w (Star (OwnA v E sz enc (l.set k x)) B) w2 → KW.run w2) : @stJ w1 ⟨v.blk, k * sz, none⟩ cs KW := by
  refine h.own.store he h1 hk hcs fun w2 hk2 hs2 ho2 => H w2 (h.step Lcl.own hB ?_)
  rintro F ⟨ho, rfl⟩
  exact ⟨_, ⟨ho2, rfl⟩, by rw [ho.own_eq hk]; exact hk2, fun x hx => .inl hx⟩
theorem New.store1 {KW : Kont World} (hB : Lcl B) (h : New w (Star (OwnA v E 1 enc l) B) w1) (he : ∀ x, (enc x).length = 1) (h1 : ∀ x, (enc x).all oneC = true) {k : Nat} (hk : k < l.length) {x : α} {cs : List Value} (hcs : cs = enc x)
    (H : ∀ w2, New w (Star (OwnA v E 1 enc (l.set k x)) B) w2 → KW.run w2) : @stJ w1 ⟨v.blk, k, none⟩ cs KW := by
  have := h.store (KW := KW) hB he h1 hk hcs H
  rwa [Nat.mul_one] at this
/-- Elements are appended to a row of one's own. -/
theorem New.append {P : Program} {KV : Kont (Value × World)} {T ty by_ : Nat} {z : List Value} (hB : Lcl B) (h : New w (Star (OwnA v E sz enc l) B) w1) (he : ∀ x, (enc x).length = sz) (h1 : ∀ x, (enc x).all oneC = true)
    (hT : slInfo P T = some (E, sz, by_, z)) {a : Addr} {m c : Nat} {xs : List α} (hm : xs.length = m) (hx : ∀ j u, (xs.flatMap enc)[j]? = some u → w1.cell? (a.add j) = some u)
    (hb : (l.length + m) * by_ ≤ 140737488355328) (hmax : l.length + m ≤ maxLen)
    (H : ∀ v' w2, New w (Star (OwnA v' E sz enc (l ++ xs)) B) w2 → KV.run (v', w2)) :
    @efH P (Builtin.append_ #[T, T] ty [v, .slice (some a) m c].toArray) w1 KV := by
  refine h.own.append he h1 hT hm hx hb hmax fun v' w2 hk2 ho2 hs2 => H v' w2 (h.step Lcl.own hB ?_)
  rintro F ⟨ho, rfl⟩
  exact ⟨_, ⟨ho2, rfl⟩, hk2, hs2⟩
theorem New.appendV {P : Program} {KV : Kont (Value × World)} {T ty by_ : Nat} {z : List Value} {u : Value} {xs : List α} (hB : Lcl B) (h : New w (Star (OwnA v E sz enc l) B) w1) (hu : Vw w1 u enc xs) (he : ∀ x, (enc x).length = sz) (h1 : ∀ x, (enc x).all oneC = true)
    (hT : slInfo P T = some (E, sz, by_, z)) (hb : (l.length + xs.length) * by_ ≤ 140737488355328) (hmax : l.length + xs.length ≤ maxLen)
    (H : ∀ v' w2, New w (Star (OwnA v' E sz enc (l ++ xs)) B) w2 → KV.run (v', w2)) :
    @efH P (Builtin.append_ #[T, T] ty [v, u].toArray) w1 KV := by
  refine h.own.appendV hu he h1 hT hb hmax fun v' w2 hk2 ho2 hs2 => H v' w2 (h.step Lcl.own hB ?_)
  rintro F ⟨ho, rfl⟩
  exact ⟨_, ⟨ho2, rfl⟩, hk2, hs2⟩
theorem New.nil (hB : Lcl B) (h : New w B w1) : New w (Star (OwnA (.slice none 0 0) E sz enc []) B) w1 :=
  h.more hB (Kp.refl _ _) ⟨_, ⟨Own.nil _ _ _ _, rfl⟩, by simp⟩
end
end Go.W
