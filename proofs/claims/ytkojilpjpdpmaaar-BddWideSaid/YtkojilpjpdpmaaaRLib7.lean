/-
  The walker's library, part Lib7: plain theorems that the proofs of this seat use; no conditions beyond those each theorem names.
-/
import Derived.Test.YtkojilpjpdpmaaaRLib6
set_option linter.unusedVariables false
set_option linter.unusedSimpArgs false
namespace Go.W
open Go

/-! ### Slices that are read -/
section
variable {α : Type} {enc : α → List Value} {sz : Nat}
/-- The slice reads as the list; nothing is said of whose row it is. -/
def Vw (w : World) (v : Value) (enc : α → List Value) (l : List α) : Prop :=
  (v = .slice none 0 0 ∧ l = []) ∨
  ∃ a cap, v = .slice (some a) l.length cap ∧ l.length ≤ cap ∧ (l ≠ [] → a.spot = none) ∧ ∀ j u, (l.flatMap enc)[j]? = some u → w.cell? (a.add j) = some u
/-- The address of a slice's row. -/
def _root_.Go.Value.adr : Value → Addr
  | .slice (some a) _ _ => a
  | _ => ⟨0, 0, none⟩
@[simp] theorem adr_slice {a : Addr} {n c : Nat} : (Value.slice (some a) n c).adr = a := rfl

variable {w : World} {v : Value} {E : Nat} {l : List α}
theorem Vw.nil (w : World) (enc : α → List Value) : Vw w (.slice none 0 0) enc [] := .inl ⟨rfl, rfl⟩
theorem Own.vw (h : Own w v E sz enc l) : Vw w v enc l := by
  rcases h with h | ⟨g, cap, cur, junk, rfl, hh, hc, hj, hle, hm⟩
  · exact .inl h
  · refine .inr ⟨_, cap, rfl, hle, fun _ => rfl, fun j u hj' => ?_⟩
    rw [addr_add, Nat.zero_add, cell_blk hh, ← Array.getElem?_toList, hc, List.getElem?_append_left]
    · exact hj'
    · exact (List.getElem?_eq_some_iff.1 hj').1
theorem Vw.kp {S : List Nat} {w' : World} (h : Vw w v enc l) (hk : Kp S w w') (hS : ∀ x ∈ v.own, x ∉ S) : Vw w' v enc l := by
  rcases h with h | ⟨a, cap, rfl, hle, hs, hc⟩
  · exact .inl h
  · refine .inr ⟨a, cap, rfl, hle, hs, fun j u hj => hk.cell (hc j u hj) ?_⟩
    have : (a.add j).block = a.block := by unfold Addr.add; split <;> rfl
    rw [this]
    exact hS _ (by simp)
theorem Vw.kp0 {w' : World} (h : Vw w v enc l) (hk : Kp [] w w') : Vw w' v enc l := h.kp hk (by simp)
theorem Vw.drew (h : Vw w v enc l) : Vw w.drew v enc l := h
theorem Vw.c1 (h : Vw w v enc l) : v.cells = #[v] := by
  rcases h with ⟨rfl, rfl⟩ | ⟨a, cap, rfl, _⟩ <;> rfl
theorem Vw.o1 (h : Vw w v enc l) : oneC v = true := by
  rcases h with ⟨rfl, rfl⟩ | ⟨a, cap, rfl, _⟩ <;> rfl
theorem Vw.len {P : Program} {T : Nat} {K : Kont Value} (h : Vw w v enc l) : @lenH P T v K = @gdH (isSl P T = true) ⟨fun _ => K.run (.int .i64 l.length)⟩ := by
  rcases h with ⟨rfl, rfl⟩ | ⟨a, cap, rfl, _⟩ <;> rfl
theorem Vw.idx {P : Program} {T : Nat} {K : Kont Value} {k : IntKind} {i : Int} (h : Vw w v enc l) (h0 : 0 ≤ i) (h1 : i < l.length) :
    @idxAH P T v (.int k i) K = @optH _ (slInfo P T) ⟨fun q => K.run (.pointer (some (v.adr.add (i.toNat * q.2.1))))⟩ := by
  rcases h with ⟨rfl, rfl⟩ | ⟨a, cap, rfl, _⟩
  · simp at h1; omega
  · cases hs : slInfo P T with
    | none => simp [hs, optH, optS]
    | some q => simp [hs, h0, h1]
theorem addr_add_add {a : Addr} (hs : a.spot = none) (i j : Nat) : (a.add i).add j = a.add (i + j) := by
  obtain ⟨b, o, s⟩ := a
  dsimp only at hs
  subst hs
  simp [Nat.add_assoc]
theorem Vw.at_ (h : Vw w v enc l) (he : ∀ x, (enc x).length = sz) {k : Nat} {x : α} (hx : l[k]? = some x) {o : Nat} {u : Value} (hu : (enc x)[o]? = some u) : w.cell? (v.adr.add (k * sz + o)) = some u := by
  have hk : k < l.length := (List.getElem?_eq_some_iff.1 hx).1
  have ho : o < sz := by rw [← he x]; exact (List.getElem?_eq_some_iff.1 hu).1
  rcases h with ⟨rfl, rfl⟩ | ⟨a, cap, rfl, hle, hs, hc⟩
  · simp at hk
  · exact hc _ _ (by rw [flatMap_at he l k x hx o ho]; exact hu)
theorem Vw.spot (h : Vw w v enc l) {k : Nat} (hk : k < l.length) : v.adr.spot = none := by
  rcases h with ⟨rfl, rfl⟩ | ⟨a, cap, rfl, hle, hs, hc⟩
  · simp at hk
  · exact hs (by rintro rfl; simp at hk)
theorem Vw.cells (h : Vw w v enc l) (he : ∀ x, (enc x).length = sz) {k : Nat} {x : α} (hx : l[k]? = some x) : cellsAt w (v.adr.add (k * sz)) 0 sz = some (enc x) := by
  have hk : k < l.length := (List.getElem?_eq_some_iff.1 hx).1
  have := cellsAt_of (w := w) (a := v.adr.add (k * sz)) (enc x) 0 (fun o ho => by
    rw [addr_add_add (h.spot hk), Nat.zero_add, h.at_ he hx (List.getElem?_eq_getElem ho), List.getElem?_eq_getElem ho])
  rwa [he] at this
/-- An element of one cell. -/
theorem Vw.cell {f : α → Value} (h : Vw w v (fun x => [f x]) l) {k : Nat} {x : α} (hx : l[k]? = some x) : w.cell? (v.adr.add k) = some (f x) := by
  have := h.at_ (sz := 1) (fun _ => rfl) hx (o := 0) (u := f x) rfl
  simpa using this
/-- A field of an element. -/
theorem Vw.fld (h : Vw w v enc l) (he : ∀ x, (enc x).length = sz) {k : Nat} {x : α} (hx : l[k]? = some x) {o : Nat} {u : Value} (hu : (enc x)[o]? = some u) : w.cell? ((v.adr.add (k * sz)).add o) = some u := by
  rw [addr_add_add (h.spot (List.getElem?_eq_some_iff.1 hx).1)]
  exact h.at_ he hx hu

/-- v[lo:hi]. -/
theorem Vw.slice {P : Program} {T e by_ : Nat} {z : List Value} {K : Kont Value} (h : Vw w v enc l) (he : ∀ x, (enc x).length = sz) (hT : slInfo P T = some (e, sz, by_, z)) {lo hi : Nat} {k1 k2 : IntKind} (h1 : lo ≤ hi) (h2 : hi ≤ l.length)
    (H : ∀ v', Vw w v' enc ((l.take hi).drop lo) → v'.own = v.own → K.run v') : @slcH P (Instr.sliceAt T v (some (.int k1 lo)) (some (.int k2 hi)) none) K := by
  obtain ⟨i, zv, hu, hinf, hz, rfl, _⟩ := slInfo_spec hT
  rcases h with ⟨rfl, rfl⟩ | ⟨a, cap, rfl, hle, hs, hc⟩
  · have e0 : lo = 0 := by simp at h2; omega
    have e1 : hi = 0 := by simp at h2; omega
    subst e0 e1
    refine slc_mk (v := .slice none 0 0) (fun w' => ?_) (H _ (by simpa using Vw.nil w enc) rfl)
    simp [Instr.sliceAt, run_underlying hu, Instr.slice, Instr.sliceBounds, Instr.sliceBound, asIntOf, sizeOf, typeInfo, hinf]
  · have hin : ((l.take hi).drop lo).length = hi - lo := by simp; omega
    have hrun : ∀ w', (Instr.sliceAt T (.slice (some a) l.length cap) (some (.int k1 lo)) (some (.int k2 hi)) none).run P w' = .ok (.slice (some (if cap = lo then a else a.add (lo * i.size))) (hi - lo) (cap - lo)) w' := by
      intro w'
      have c2 : hi ≤ cap := by omega
      by_cases hcl : cap = lo
      · simp [Instr.sliceAt, run_underlying hu, Instr.slice, Instr.sliceBounds, Instr.sliceBound, asIntOf, sizeOf, typeInfo, hinf, h1, c2, hcl]
        intro hlt; omega
      · simp [Instr.sliceAt, run_underlying hu, Instr.slice, Instr.sliceBounds, Instr.sliceBound, asIntOf, sizeOf, typeInfo, hinf, h1, c2, hcl]
    refine slc_mk hrun (H _ ?_ ?_)
    · refine .inr ⟨_, cap - lo, by rw [hin], by rw [hin]; omega, fun hne => ?_, fun j u hj => ?_⟩
      · have hl : l ≠ [] := by rintro rfl; simp at hne
        split
        · exact hs hl
        · unfold Addr.add; split <;> simp [hs hl]
      · have hjl : j < ((l.take hi).drop lo).length * i.size := by rw [← flatMap_len he]; exact (List.getElem?_eq_some_iff.1 hj).1
        have hpos : lo < hi := by
          rcases Nat.lt_or_ge lo hi with h' | h'
          · exact h'
          · rw [hin, show hi - lo = 0 by omega] at hjl; simp at hjl
        have hl : l ≠ [] := by rintro rfl; simp at h2; omega
        rw [if_neg (by omega), addr_add_add (hs hl)]
        refine hc _ _ ?_
        -- the cell lo * size + j of the whole is the cell j of the part
        have hsplit : l = l.take lo ++ ((l.take hi).drop lo ++ l.drop hi) := by
          rw [← List.append_assoc]
          have : l.take lo = (l.take hi).take lo := by rw [List.take_take]; congr 1; omega
          rw [this, List.take_append_drop, List.take_append_drop]
        have hlen : (l.take lo).length = lo := by simp; omega
        rw [hsplit, List.flatMap_append, List.flatMap_append, List.getElem?_append_right (by rw [flatMap_len he, hlen]; omega), flatMap_len he, hlen]
        rw [show lo * i.size + j - lo * i.size = j by omega, List.getElem?_append_left (by rw [flatMap_len he]; exact hjl)]
        exact hj
    · split
      · rfl
      · simp only [own_slice]; unfold Addr.add; split <;> rfl
theorem Vw.slice_hi {P : Program} {T e by_ : Nat} {z : List Value} {K : Kont Value} (h : Vw w v enc l) (he : ∀ x, (enc x).length = sz) (hT : slInfo P T = some (e, sz, by_, z)) {hi : Nat} {k2 : IntKind} (h2 : hi ≤ l.length)
    (H : ∀ v', Vw w v' enc (l.take hi) → v'.own = v.own → K.run v') : @slcH P (Instr.sliceAt T v none (some (.int k2 hi)) none) K := by
  obtain ⟨r, hr, hk⟩ := h.slice (P := P) (k1 := .i64) (k2 := k2) (K := K) he hT (Nat.zero_le hi) h2 (fun v' hv ho => H v' (by simpa using hv) ho)
  obtain ⟨i, zv, hu, hinf, hz, rfl, _⟩ := slInfo_spec hT
  refine ⟨r, fun w' => ?_, hk⟩
  rw [← hr w']
  rcases h with ⟨rfl, rfl⟩ | ⟨a, cap, rfl, hle, hs, hc⟩ <;>
    simp [Instr.sliceAt, run_underlying hu, Instr.slice, Instr.sliceBounds, Instr.sliceBound, asIntOf]
theorem Vw.slice_lo {P : Program} {T e by_ : Nat} {z : List Value} {K : Kont Value} (h : Vw w v enc l) (he : ∀ x, (enc x).length = sz) (hT : slInfo P T = some (e, sz, by_, z)) {lo : Nat} {k1 : IntKind} (h2 : lo ≤ l.length)
    (H : ∀ v', Vw w v' enc (l.drop lo) → v'.own = v.own → K.run v') : @slcH P (Instr.sliceAt T v (some (.int k1 lo)) none none) K := by
  obtain ⟨r, hr, hk⟩ := h.slice (P := P) (k1 := k1) (k2 := .i64) (K := K) he hT (lo := lo) (hi := l.length) h2 (Nat.le_refl _) (fun v' hv ho => H v' (by simpa using hv) ho)
  obtain ⟨i, zv, hu, hinf, hz, rfl, _⟩ := slInfo_spec hT
  refine ⟨r, fun w' => ?_, hk⟩
  rw [← hr w']
  rcases h with ⟨rfl, rfl⟩ | ⟨a, cap, rfl, hle, hs, hc⟩
  · simp [Instr.sliceAt, run_underlying hu, Instr.slice, Instr.sliceBounds, Instr.sliceBound, asIntOf]
  · simp [Instr.sliceAt, run_underlying hu, Instr.slice, Instr.sliceBounds, Instr.sliceBound, asIntOf, hle]

/-- Append of a slice that is read (nil too), onto a row of the call's own. -/
theorem Own.appendV {P : Program} {KV : Kont (Value × World)} {T ty by_ : Nat} {z : List Value} {u : Value} {xs : List α} (h : Own w v E sz enc l) (hu : Vw w u enc xs) (he : ∀ x, (enc x).length = sz) (h1 : ∀ x, (enc x).all oneC = true)
    (hT : slInfo P T = some (E, sz, by_, z)) (hb : (l.length + xs.length) * by_ ≤ 140737488355328) (hmax : l.length + xs.length ≤ maxLen)
    (H : ∀ v' w', Kp v.own w w' → Own w' v' E sz enc (l ++ xs) → (∀ x ∈ v'.own, x ∈ v.own ∨ w.heap.size ≤ x) → KV.run (v', w')) :
    @efH P (Builtin.append_ #[T, T] ty [v, u].toArray) w KV := by
  rcases hu with ⟨rfl, rfl⟩ | ⟨a, cap, rfl, hle, hs, hc⟩
  · obtain ⟨i, zv, hu, hinf, hz, rfl, rfl, rfl, hzs, hpos⟩ := slInfo_spec hT
    refine ef_mk (v := v) (w' := w) ?_ (H v w (Kp.refl _ _) (by simpa using h) (fun x hx => .inl hx))
    rcases h with ⟨rfl, rfl⟩ | ⟨g, cap, cur, junk, rfl, hh, hc, hj, hle, hm⟩
    · simp [Builtin.append_, run_underlying hu, sizeOf, typeInfo, hinf, Builtin.lenOf, Builtin.firstCells]
    · simp [Builtin.append_, run_underlying hu, sizeOf, typeInfo, hinf, Builtin.lenOf, Builtin.firstCells, hle, storeCells]
  · exact h.append he h1 hT rfl hc hb hmax H
/-- v[:hi] of a row of the call's own. -/
theorem Own.slice_hi {P : Program} {T by_ : Nat} {z : List Value} {K : Kont Value} (h : Own w v E sz enc l) (he : ∀ x, (enc x).length = sz) (hT : slInfo P T = some (E, sz, by_, z)) {hi : Nat} {k2 : IntKind} (h2 : hi ≤ l.length)
    (H : ∀ v', Own w v' E sz enc (l.take hi) → v'.own = v.own → K.run v') : @slcH P (Instr.sliceAt T v none (some (.int k2 hi)) none) K := by
  obtain ⟨i, zv, hu, hinf, hz, rfl, _⟩ := slInfo_spec hT
  rcases h with ⟨rfl, rfl⟩ | ⟨g, cap, cur, junk, rfl, hh, hc, hj, hle, hm⟩
  · have e1 : hi = 0 := by simp at h2; omega
    subst e1
    refine slc_mk (v := .slice none 0 0) (fun w' => ?_) (H _ (by simpa using Own.nil w E i.size enc) rfl)
    simp [Instr.sliceAt, run_underlying hu, Instr.slice, Instr.sliceBounds, Instr.sliceBound, asIntOf, sizeOf, typeInfo, hinf]
  · have c2 : hi ≤ cap := by omega
    refine slc_mk (v := .slice (some ⟨g, 0, none⟩) hi cap) (fun w' => ?_) (H _ ?_ rfl)
    · simp [Instr.sliceAt, run_underlying hu, Instr.slice, Instr.sliceBounds, Instr.sliceBound, asIntOf, sizeOf, typeInfo, hinf, c2]
    · have hlen : (l.take hi).length = hi := by simp; omega
      refine .inr ⟨g, cap, cur, (l.drop hi).flatMap enc ++ junk, by rw [hlen], hh, ?_, ?_, by omega, hm⟩
      · rw [hc, ← List.append_assoc, ← List.flatMap_append, List.take_append_drop]
      · rw [hlen, List.length_append, flatMap_len he, List.length_drop, ← hj, ← Nat.add_assoc, ← Nat.add_mul]
        congr 2; omega
end
end Go.W
