/-
  The walker's library, part Lib5: plain theorems that the proofs of this seat use; no conditions beyond those each theorem names.
-/
import Derived.Test.YtkojilpjpdpmaaaRLib4
import Derived.Below
set_option linter.unusedVariables false
set_option linter.unusedSimpArgs false
namespace Go.W
open Go

/-- w' is w but for the blocks of S, and new ones. -/
structure Kp (S : List Nat) (w w' : World) : Prop where
  os : w'.os = w.os
  tape : w'.tape = w.tape
  output : w'.output = w.output
  size : w.heap.size ≤ w'.heap.size
  block : ∀ b, b < w.heap.size → b ∉ S → w'.heap[b]? = w.heap[b]?

theorem Kp.refl (S : List Nat) (w : World) : Kp S w w := ⟨rfl, rfl, rfl, Nat.le_refl _, fun _ _ _ => rfl⟩
theorem Kp.trans' {S S' : List Nat} {a b c : World} (h : Kp S a b) (k : Kp S' b c) (hs : ∀ x ∈ S', x ∈ S ∨ a.heap.size ≤ x) : Kp S a c :=
  ⟨k.os.trans h.os, k.tape.trans h.tape, k.output.trans h.output, Nat.le_trans h.size k.size, fun i hi hn => (k.block i (Nat.lt_of_lt_of_le hi h.size) (fun hm => by
    rcases hs i hm with h1 | h1
    · exact hn h1
    · omega)).trans (h.block i hi hn)⟩
theorem Kp.trans {S : List Nat} {a b c : World} (h : Kp S a b) (k : Kp S b c) : Kp S a c := h.trans' k fun _ h => .inl h
theorem Kp.trans0 {S : List Nat} {a b c : World} (h : Kp S a b) (k : Kp [] b c) : Kp S a c := h.trans' k fun _ h => by cases h
theorem Kp.mono {S S' : List Nat} {a b : World} (h : Kp S a b) (hs : ∀ x ∈ S, x ∈ S') : Kp S' a b := ⟨h.os, h.tape, h.output, h.size, fun i hi hn => h.block i hi fun hm => hn (hs i hm)⟩
theorem Kp.of0 {S : List Nat} {a b : World} (h : Kp [] a b) : Kp S a b := h.mono fun _ h => by cases h
theorem Kp.drew {S : List Nat} {a b : World} (h : Kp S a b) : Kp S a b.drew := ⟨h.os, h.tape, h.output, h.size, h.block⟩
theorem Kp.alloc {S : List Nat} {a b : World} (h : Kp S a b) (o : Obj) : Kp S a (b.alloc o) :=
  ⟨h.os, h.tape, h.output, by have := h.size; simp; omega, fun i hi hn => (alloc_old (Nat.lt_of_lt_of_le hi h.size)).trans (h.block i hi hn)⟩
theorem Kp.setB {S : List Nat} {a b : World} (h : Kp S a b) {i : Nat} (hi : i ∈ S ∨ a.heap.size ≤ i) (o : Obj) : Kp S a (b.setB i o) :=
  ⟨h.os, h.tape, h.output, by simpa using h.size, fun j hj hn => (setB_ne (fun e => by subst e; rcases hi with h1 | h1; exact hn h1; omega)).trans (h.block j hj hn)⟩
theorem Kp.ext {w w' : World} (h : Kp [] w w') : ExtH w w' := fun b o hb => (h.block b (lt_of_blk hb) (by simp)).trans hb
theorem Kp.blk {S : List Nat} {w w' : World} (h : Kp S w w') {b : Nat} {o : Obj} (hb : w.heap[b]? = some o) (hn : b ∉ S) : w'.heap[b]? = some o := (h.block b (lt_of_blk hb) hn).trans hb
theorem Kp.cell {S : List Nat} {w w' : World} (h : Kp S w w') {a : Addr} {v : Value} (hc : w.cell? a = some v) (hn : a.block ∉ S) : w'.cell? a = some v := by
  have hlt := World.block_lt_of_cell? w a hc
  rw [World.cell?_of_block (h.block a.block hlt hn)]
  exact hc
theorem Kp.below {w w' : World} (h : Kp [] w w') : Go.RowKit.Below w.heap.size w w' := ⟨h.os, h.tape, h.output, h.size, fun k hk => h.block k hk (by simp)⟩
@[simp] theorem cellsAt_drew {w : World} {a : Addr} : ∀ {n i : Nat}, cellsAt w.drew a i n = cellsAt w a i n
  | 0, _ => rfl
  | n + 1, i => by simp [cellsAt, cellsAt_drew (n := n)]
@[simp] theorem rowAt_drew {w : World} {a : Addr} : rowAt w.drew a = rowAt w a := rfl
theorem Kp.drewl {S : List Nat} {a b : World} (h : Kp S a.drew b) : Kp S a b := ⟨h.os, h.tape, h.output, h.size, h.block⟩
end Go.W
