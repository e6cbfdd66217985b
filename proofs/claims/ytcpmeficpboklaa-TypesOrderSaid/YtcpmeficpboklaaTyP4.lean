/-
  A part of the proofs of this seat's statements (TyP4); no conditions beyond those each theorem names.
-/
import Derived.Test.YtcpmeficpboklaaTyN
import Derived.Sort.Walk0
set_option linter.unusedSimpArgs false
set_option linter.unusedVariables false
namespace Go.Proofs.Ytcpmeficpboklaa
open Go Go.W Go.Ty
theorem bs_inj {a b : Bs} (h : bs a = bs b) : a = b := by
  have := congrArg sb h
  exact this
theorem nmS_nodup {l : List Pr} (h : Acc l) : (nmS l).Nodup := by
  refine (nmS_perm l).nodup_iff.2 ?_
  rw [List.nodup_append]
  refine ⟨h.nodup, by simp, fun a ha b hb => ?_⟩
  simp at hb
  subst hb
  obtain ⟨p, hp, rfl⟩ := List.mem_map.1 ha
  obtain ⟨q, hq, rfl⟩ := List.mem_iff_getElem.1 hp
  have hg := gp_at hq
  rw [List.getElem?_eq_getElem hq] at hg
  rw [Option.some.inj hg]
  exact h.nroot hq
theorem nmB_sorted (l : List Pr) : (nmB l).Pairwise fun a b => leB a b = true := by
  have tr : ∀ a b c : List UInt8, leB a b = true → leB b c = true → leB a c = true := fun a b c h1 h2 => by simp only [leB, decide_eq_true_eq] at *; exact List.le_trans h1 h2
  have to : ∀ a b : List UInt8, (leB a b || leB b a) = true := fun a b => by simp only [leB, Bool.or_eq_true, decide_eq_true_eq]; exact List.le_total a b
  exact List.pairwise_mergeSort tr to _
theorem nmS_lt {l : List Pr} (h : Acc l) {i : Nat} {x y : ByteArray} (hx : (nmS l)[i]? = some x) (hy : (nmS l)[i + 1]? = some y) : Op.bytesLess x.toList y.toList = true := by
  have hn := nmS_nodup h
  rw [nmS, List.getElem?_map, Option.map_eq_some_iff] at hx hy
  obtain ⟨a, ha, rfl⟩ := hx
  obtain ⟨b, hb, rfl⟩ := hy
  obtain ⟨hi, rfl⟩ := List.getElem?_eq_some_iff.1 ha
  obtain ⟨hj, rfl⟩ := List.getElem?_eq_some_iff.1 hb
  have hle := List.pairwise_iff_getElem.1 (nmB_sorted l) i (i + 1) hi hj (by omega)
  simp only [leB, decide_eq_true_eq] at hle
  have hne : (nmB l)[i] ≠ (nmB l)[i + 1] := fun e => by
    have h1 : (nmS l)[i]'(by simpa [nmS] using hi) = (nmS l)[i + 1]'(by simpa [nmS] using hj) := by
      simp only [nmS, List.getElem_map, e]
    have := (List.getElem_inj hn).1 h1
    omega
  rw [ByteArray.toList_eq, ByteArray.toList_eq]
  show Op.bytesLess (nmB l)[i] (nmB l)[i + 1] = true
  rw [Go.Proofs.bytesLess_eq]
  simp only [decide_eq_true_eq]
  rcases List.le_iff_lt_or_eq.1 hle with h1 | h1
  · exact h1
  · exact absurd h1 hne
theorem nmS_found {l : List Pr} {x : ByteArray} (hx : x ∈ nmS l) : (decide (x = rootS) || l.any fun p => decide (p.1 = x)) = true := by
  rcases List.mem_append.1 ((nmS_perm l).mem_iff.1 hx) with h1 | h1
  · obtain ⟨p, hp, rfl⟩ := List.mem_map.1 h1
    simp only [Bool.or_eq_true, List.any_eq_true]
    exact .inr ⟨p, hp, by simp⟩
  · simp at h1; simp [h1]
def fnB (l : List Pr) (x : ByteArray) (k : Nat) : Bool := decide (x = rootS) || (l.take k).any fun p => decide (p.1 = x)
theorem fnB_zero (l : List Pr) (x : ByteArray) : fnB l x 0 = decide (x = rootS) := by simp [fnB]
theorem fnB_succ {l : List Pr} {x : ByteArray} {k : Nat} (hk : k < l.length) : fnB l x (k + 1) = (fnB l x k || decide ((gp l k).1 = x)) := by
  rw [fnB, take_succ hk, List.any_append, ← Bool.or_assoc]
  simp [fnB]
theorem fnB_all {l : List Pr} {x : ByteArray} (hx : x ∈ nmS l) : fnB l x l.length = true := by
  rw [fnB, List.take_length]; exact nmS_found hx
end Go.Proofs.Ytcpmeficpboklaa
