/-
  A part of the proofs of this seat's statements (TyN); no conditions beyond those each theorem names.
-/
import Derived.Test.YtcpmeficpboklaaTyP2
import Derived.Test.YtcpmeficpboklaaTyKeys
import Derived.Sort.OwnSorted
import Derived.Sort.KeysCollected
import Derived.Maps.OwnSet
set_option maxRecDepth 100000
set_option linter.unusedSimpArgs false
set_option linter.unusedVariables false
namespace Go.Proofs.Ytcpmeficpboklaa
open Go Go.W Go.Ty Go.Maps
open Go.WideElems (Fit rd rg)
abbrev Bs := List UInt8
def bs (b : Bs) : ByteArray := ⟨b.toArray⟩
def sb (s : ByteArray) : Bs := s.data.toList
theorem bs_sb (s : ByteArray) : bs (sb s) = s := by
  obtain ⟨⟨x⟩⟩ := s; rfl
theorem sb_bs (b : Bs) : sb (bs b) = b := rfl
theorem flat_bs (ss : List Bs) : (ss.map bs).flatMap es = ss.map encStr := by
  induction ss with
  | nil => rfl
  | cons a l ih => simp only [List.map_cons, List.flatMap_cons, ih]; rfl
theorem own_of_row {w : World} {base : Nat} {v : Value} {ss : List Bs} (h : w.ownsRow base 9 1 v ss.length (ss.map encStr)) : Own w v 9 1 es (ss.map bs) ∧ (∀ x ∈ v.own, base ≤ x) := by
  rcases h.2 with ⟨rfl, h0⟩ | ⟨g, cap, cur, rfl, hg, hb, h1, h2, h3, h4⟩
  · have : ss = [] := List.length_eq_zero_iff.1 h0
    subst this
    exact ⟨.inl ⟨rfl, rfl⟩, by simp⟩
  · refine ⟨.inr ⟨g, cap, cur, cur.toList.drop ss.length, by rw [List.length_map], hb, ?_, ?_, by simpa using h1, h2⟩, by simpa using hg⟩
    · rw [flat_bs, ← h4, Nat.mul_one, List.take_append_drop]
    · simp; omega
theorem ms_owns {w : World} {b : Nat} {l : List Pr} (h : MS w b l) (hv : Sz l) :
    ∃ D0 : DataW Unit, w.ownsMap Try.prog 9 (plainElem Try.prog 9) b l.length D0 ∧ (strKeys D0).Perm (l.map fun p => sb p.1) ∧ Maps.size D0 = l.length := by
  obtain ⟨es', clock, hb, hsz, hes, hok, hnd, hst⟩ := h
  let g : Value × Value → Lit × DataW Unit := fun q => (((keyOf Try.prog 9 q.1).bind fun key => (plainElem (H := Unit) Try.prog 9 q.2).map fun y => (key, y.1)).getD (.bool false, .nil))
  have hrg : ∀ x : MapEntry, rg (H := Unit) Try.prog 9 (plainElem Try.prog 9) x = g (x.key, x.val) := fun x => rfl
  have hgl : es'.toList.map (rg (H := Unit) Try.prog 9 (plainElem Try.prog 9)) = l.map fun p => g (.string p.1, .string p.2) := by
    have : es'.toList.map (rg (H := Unit) Try.prog 9 (plainElem Try.prog 9)) = (es'.toList.map fun x => (x.key, x.val)).map g := by
      rw [List.map_map]; rfl
    rw [this, hes, List.map_map]; rfl
  have hk : ∀ s : ByteArray, s.size ≤ maxLen → keyOf Try.prog 9 (.string s) = some (.string s.data.toList) := fun s hs => by simp [keyOf, mapKey, Try.underlying9, hs]
  have hg : ∀ p ∈ l, g (.string p.1, .string p.2) = (.string p.1.data.toList, .lit (.string p.2.data.toList)) := fun p hp => by
    show (((keyOf Try.prog 9 (.string p.1)).bind fun key => (plainElem (H := Unit) Try.prog 9 (.string p.2)).map fun y => (key, y.1)).getD (.bool false, .nil)) = _
    rw [hk _ (hv p hp).1, plainElem_string Try.underlying9 (hv p hp).2]
    rfl
  have hperm := WideShapes.sorted_perm (es'.toList.map (rg (H := Unit) Try.prog 9 (plainElem Try.prog 9)))
  have e1 : es'.size = l.length := by
    have := congrArg List.length hes
    simpa using this
  refine ⟨_, ⟨es', clock, hb, ⟨hsz, hst, fun x hx => ?_⟩, by omega, rfl⟩, ?_, ?_⟩
  · obtain ⟨j, hj⟩ := List.getElem?_of_mem hx
    have := congrArg (·[j]?) hes
    simp only [List.getElem?_map, hj, Option.map_some] at this
    cases hp' : l[j]? with
    | none => rw [hp'] at this; cases this
    | some p =>
      rw [hp'] at this
      simp only [Option.map_some, Option.some.injEq, Prod.mk.injEq] at this
      have hm := List.mem_of_getElem? hp'
      refine ⟨(.string p.1.data.toList, .lit (.string p.2.data.toList)), ?_⟩
      unfold rd
      rw [this.1, this.2, hk _ (hv p hm).1, plainElem_string Try.underlying9 (hv p hm).2]
      rfl
  · have : (l.map fun p => sb p.1) = (es'.toList.map (rg (H := Unit) Try.prog 9 (plainElem Try.prog 9))).map (fun p => strOf p.1) := by
      rw [hgl, List.map_map]
      refine List.map_congr_left fun p hp => ?_
      simp only [Function.comp]
      rw [hg p hp]; rfl
    rw [this]
    exact hperm.map _
  · show (List.foldr DataW.insert [] _).length = _
    rw [hperm.length_eq, List.length_map]
    simpa using e1
/-- The names of all types, in order. -/
def nmB (l : List Pr) : List Bs := ((l.map fun p => sb p.1) ++ [sb rootS]).mergeSort leB
def nmS (l : List Pr) : List ByteArray := (nmB l).map bs
theorem kp_grown {w w' : World} {g : Nat} (h : w.grownBy w' (some g)) : Kp [g] w w' :=
  ⟨h.os, h.tape, h.output, h.size, fun b hb hn => h.block b hb (fun e => hn (by have := Option.some.inj e; simp [this]))⟩
theorem kp_below {w w' : World} (h : Go.RowKit.Below w.heap.size w w') : Kp [] w w' := ⟨h.os, h.tape, h.output, h.size, fun b hb _ => h.block b hb⟩
theorem fnames_spec (f b : Nat) (l : List Pr) (w : World) (h : FA w f b l) (hsz : Sz l) (hl : l.length ≤ 64) :
    Calls Try.prog 30 [.pointer (some ⟨f, 0, none⟩)].toArray w fun e w' => ∃ v, e = .returned v ∧ New w (Star (OwnA v 9 1 es (nmS l)) Emp) w' := by
  refine enter Try.func30 mixed low30 (Nat.le_of_ble_eq_true rfl) ?_
  simp only [L30]
  simp [cell_blk h.obj]
  refine cl_of (R := fun v w' => v = .func (.func 46) #[] #[.pointer (some ⟨w.heap.size, 0, none⟩)] ∧ w' = w.alloc (.cells #[.map (some b)] 58))
    (Calls.mono (callsIn_wide.1 (Try.maps_Keys_39 (some b) w)) (by rintro e w' ⟨rfl, rfl⟩; exact ⟨_, rfl, rfl, rfl⟩)) ?_
  rintro v w1 ⟨rfl, rfl⟩
  obtain ⟨D0, hown, hperm, hDs⟩ := ms_owns h.map hsz
  simp
  refine cl_of (R := fun v w' => ∃ ss : List Bs, ss.Perm (l.map fun p => sb p.1) ∧ Own w' v 9 1 es ((ss.mergeSort leB).map bs) ∧ (∀ x ∈ v.own, w.heap.size ≤ x) ∧ Kp [] w w')
    (Calls.mono (callsIn_wide.1 (Try.slices_Sorted_keys_38_39 b l.length D0 (plainElem Try.prog 9) w hown (by rw [hDs]; unfold maxLen; omega) (by rw [hDs]; omega))) ?_) ?_
  · rintro e w' ⟨v, ss, rfl, hS, hrow, hnil, hb⟩
    have hml : ss.length = (ss.mergeSort (fun x y => decide (x ≤ y))).length := by simp
    rw [hml] at hrow
    obtain ⟨ho, hlow⟩ := own_of_row hrow
    exact ⟨v, rfl, ss, hS.trans hperm, ho, fun x hx => by have := hlow x hx; simp at this; omega, ((Kp.refl [] w).alloc _).trans0 (kp_below hb)⟩
  rintro v w2 ⟨ss, hS, ho, hlow, k2⟩
  have hn2 : New w (Star (OwnA v 9 1 es ((ss.mergeSort leB).map bs)) Emp) w2 := (New.emp (Kp.refl [] w)).more Lcl.emp k2 ⟨_, ⟨ho, rfl⟩, hlow⟩
  have hssl : ss.length = l.length := by rw [hS.length_eq, List.length_map]
  have hml : ((ss.mergeSort leB).map bs).length = l.length := by simp [hssl]
  simp [rowOf]
  refine New.append (xs := [rootS]) Lcl.emp (hn2.kp0 (Lcl.own.star Lcl.emp) ((Kp.refl [] w2).alloc (.cells #[.string rootS] 9))) es_len es_one sl_34 rfl (fun j u hj => ?_) (by rw [hml]; omega) (by rw [hml]; unfold maxLen; omega) ?_
  · rw [addr_add, Nat.zero_add, show (.cells #[.string rootS] 9 : Obj) = .cells #[.string rootS] 9 from rfl, cell_blk alloc_new]
    simpa [es] using hj
  intro v3 w3 hn3
  simp
  have h3 := hn3.own
  have hcat : (ss.mergeSort leB).map bs ++ [rootS] = ((ss.mergeSort leB) ++ [sb rootS]).map bs := by simp [bs_sb]
  rw [hcat] at h3 hn3
  obtain ⟨ts, hts⟩ : ∃ ts, ts = (ss.mergeSort leB) ++ [sb rootS] := ⟨_, rfl⟩
  have htl : ts.length = l.length + 1 := by rw [hts]; simp [hssl]
  have htn : ts.mergeSort leB = nmB l := by
    rw [nmB]
    refine mergeSort_of_perm ?_
    rw [hts]
    exact List.Perm.append_right _ ((List.mergeSort_perm ss leB).trans hS)
  rw [← hts] at h3 hn3
  have h3' := h3
  rcases h3 with ⟨_, h0⟩ | ⟨g, cap, cur, junk, rfl, hb, hc, hj, hle, hm⟩
  · rw [List.map_eq_nil_iff] at h0
    rw [h0] at htl; simp at htl
  rw [List.length_map] at hj hle
  have htake : cur.toList.take ts.length = ts.map encStr := by
    rw [hc, flat_bs, List.take_append_of_le_length (by simp), List.take_of_length_le (by simp)]
  have hcs : cur.size = cap * 1 := by
    have := congrArg List.length hc
    rw [flat_bs] at this
    simp at this; omega
  simp only [List.length_map] at hn3 ⊢
  refine cl_of (R := fun v w' => New w (Star (OwnA (.slice (some ⟨g, 0, none⟩) ts.length cap) 9 1 es (nmS l)) Emp) w')
    (Calls.mono (Try.slices_Sort_string g 0 cap ts w3 (holds_of_block hb htake) (lt_of_blk hb) (by omega)) ?_) ?_
  · rintro e w' ⟨rfl, n, os, rfl⟩
    refine ⟨_, rfl, ?_⟩
    rw [show (ts.mergeSort fun x y => decide (x ≤ y)) = nmB l from htn]
    have hrow := ownsRow_sorted (n := n) (os := os) (ss := ts) (ts := ts.mergeSort leB) (base := 0) (by simp) (Nat.zero_le _) hb hle hm hcs
    rw [htn] at hrow
    have hnl : (nmB l).length = ts.length := by rw [← htn]; simp
    refine hn3.step Lcl.own Lcl.emp ?_
    rintro F ⟨ho, rfl⟩
    rw [← hnl] at hrow ⊢
    refine ⟨_, ⟨(own_of_row hrow).1, rfl⟩, ?_, fun x hx => .inl (by simpa using hx)⟩
    have := kp_grown (grownBy_sorted (w := w3) (g := g) (n := n) (os := os) (ts.mergeSort leB).toArray)
    rw [htn] at this
    simpa using this
  rintro _ w4 hn4
  simp
  exact hn4
theorem nmB_perm (l : List Pr) : (nmB l).Perm ((l.map fun p => sb p.1) ++ [sb rootS]) := List.mergeSort_perm _ _
theorem nmS_perm (l : List Pr) : (nmS l).Perm (l.map (·.1) ++ [rootS]) := by
  have := (nmB_perm l).map bs
  rw [List.map_append, List.map_map] at this
  have e : (l.map (bs ∘ fun p => sb p.1)) = l.map (·.1) := List.map_congr_left fun p _ => bs_sb p.1
  rw [e] at this
  rw [nmS]
  simpa [bs_sb] using this
theorem nmS_len (l : List Pr) : (nmS l).length = l.length + 1 := by rw [(nmS_perm l).length_eq]; simp
theorem nmS_has {l : List Pr} (h : Acc l) {x : ByteArray} (hx : x ∈ nmS l) : hasB l x = true := by
  have := (nmS_perm l).mem_iff.1 hx
  rcases List.mem_append.1 this with h1 | h1
  · obtain ⟨p, hp, rfl⟩ := List.mem_map.1 h1
    obtain ⟨q, hq, rfl⟩ := List.mem_iff_getElem.1 hp
    have hg := gp_at hq
    rw [List.getElem?_eq_getElem hq] at hg
    rw [Option.some.inj hg]
    exact h.hasN hq
  · simp at h1; subst h1; simp [hasB]
end Go.Proofs.Ytcpmeficpboklaa
