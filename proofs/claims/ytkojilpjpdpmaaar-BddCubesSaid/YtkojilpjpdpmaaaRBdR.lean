/- what can be reached, plainly -/
import Derived.Test.YtkojilpjpdpmaaaRBdC
set_option linter.unusedVariables false
set_option linter.unusedSimpArgs false
namespace Go.Bd
/-- An inner node that can be reached. -/
inductive Rch (n : Nat) (ns : Ns) : Nat → Nat → Prop
  | self {f : Nat} (h : 2 ≤ f) : Rch n ns f f
  | low {f y : Nat} (h : 2 ≤ f) (k : Rch n ns (at_ n ns f).low y) : Rch n ns f y
  | high {f y : Nat} (h : 2 ≤ f) (k : Rch n ns (at_ n ns f).high y) : Rch n ns f y
theorem Rch.ge {n : Nat} {ns : Ns} {f y : Nat} (h : Rch n ns f y) : 2 ≤ y := by
  induction h with
  | self h => exact h
  | low _ _ ih => exact ih
  | high _ _ ih => exact ih
theorem Rch.ref {n : Nat} {ns : Ns} (w : Wf n ns) {f y : Nat} (h : Rch n ns f y) (hf : Ref ns f) : Ref ns y := by
  induction h with
  | self h => exact hf
  | low h _ ih => exact ih (w.ref_low hf)
  | high h _ ih => exact ih (w.ref_high hf)
theorem Rch.from2 {n : Nat} {ns : Ns} {f y : Nat} (h : Rch n ns f y) : 2 ≤ f := by
  cases h <;> assumption
theorem Rch.trans {n : Nat} {ns : Ns} {f g y : Nat} (h : Rch n ns f g) (k : Rch n ns g y) : Rch n ns f y := by
  induction h with
  | self h => exact k
  | low h _ ih => exact .low h (ih k)
  | high h _ ih => exact .high h (ih k)
abbrev MemR := List (Nat × Bool)
def keys (M : MemR) : List Nat := M.map (·.1)
/-- What a search adds. -/
structure ROk (n : Nat) (ns : Ns) (f : Nat) (M M' : MemR) : Prop where
  sub : ∀ x ∈ keys M, x ∈ keys M'
  new : ∀ x ∈ keys M', x ∈ keys M ∨ Rch n ns f x
  clo : ∀ x ∈ keys M', x ∉ keys M → ((at_ n ns x).low < 2 ∨ (at_ n ns x).low ∈ keys M') ∧ ((at_ n ns x).high < 2 ∨ (at_ n ns x).high ∈ keys M')
  top : f < 2 ∨ f ∈ keys M'
  all : ∀ q ∈ M', q.2 = true
section
variable {n : Nat} {ns : Ns} {f : Nat} {M M1 M2 M3 : MemR}
theorem ROk.same (h : f < 2 ∨ f ∈ keys M) (ha : ∀ q ∈ M, q.2 = true) : ROk n ns f M M :=
  ⟨fun x hx => hx, fun x hx => .inl hx, fun x hx hn => absurd hx hn, h, ha⟩
theorem ROk.node (h2 : 2 ≤ f) (h1 : ∀ x, x ∈ keys M1 ↔ x ∈ keys M ∨ x = f) (hl : ROk n ns (at_ n ns f).low M1 M2) (hh : ROk n ns (at_ n ns f).high M2 M3) : ROk n ns f M M3 := by
  refine ⟨fun x hx => hh.sub x (hl.sub x ((h1 x).2 (.inl hx))), fun x hx => ?_, fun x hx hn => ?_, .inr (hh.sub f (hl.sub f ((h1 f).2 (.inr rfl)))), hh.all⟩
  · rcases hh.new x hx with h | h
    · rcases hl.new x h with h | h
      · rcases (h1 x).1 h with h | rfl
        · exact .inl h
        · exact .inr (.self h2)
      · exact .inr (.low h2 h)
    · exact .inr (.high h2 h)
  · by_cases hx2 : x ∈ keys M2
    · by_cases hx1 : x ∈ keys M1
      · rcases (h1 x).1 hx1 with h | rfl
        · exact absurd h hn
        · refine ⟨?_, hh.top⟩
          rcases hl.top with h | h
          · exact .inl h
          · exact .inr (hh.sub _ h)
      · obtain ⟨a, b⟩ := hl.clo x hx2 hx1
        exact ⟨a.imp_right (hh.sub _), b.imp_right (hh.sub _)⟩
    · exact hh.clo x hx hx2
/-- From nothing: what can be reached. -/
theorem ROk.all_rch (h : ROk n ns f [] M) (x : Nat) : x ∈ keys M ↔ Rch n ns f x := by
  constructor
  · intro hx
    rcases h.new x hx with h | h
    · cases h
    · exact h
  · intro hr
    have key : ∀ g y, Rch n ns g y → (g < 2 ∨ g ∈ keys M) → y ∈ keys M := by
      intro g y hr
      induction hr with
      | self h2 => rintro (h1 | h1); · omega
                   · exact h1
      | low h2 k ih =>
        rintro (h1 | h1)
        · omega
        · exact ih (h.clo _ h1 (by simp [keys])).1
      | high h2 k ih =>
        rintro (h1 | h1)
        · omega
        · exact ih (h.clo _ h1 (by simp [keys])).2
    exact key f x hr h.top
end
theorem keys_put {M : MemR} {x : Nat} {b : Bool} {y : Nat} : y ∈ (M.map (·.1) ++ [x]) ↔ y ∈ keys M ∨ y = x := by simp [keys]
end Go.Bd
