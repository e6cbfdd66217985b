/-
  The walker's library, part LibI: plain theorems that the proofs of this seat use; no conditions beyond those each theorem names.
-/
import Derived.Test.YtkojilpjpdpmaaaRLibH
import Derived.Maps.RangeRun
set_option linter.unusedVariables false
set_option linter.unusedSimpArgs false
set_option linter.unusedSectionVars false
namespace Go.W
open Go Go.Maps
/-! ### 'for k, v := range m': each entry once, in some order -/
section
variable {κ α : Type} [DecidableEq κ] {ek : κ → Value} {ev : α → Value} {ok : κ → Prop} {P : Program} {k e t : TypeId} {l vis : List (κ × α)} {b r : Nat} {B : Asr} {w w1 : World} {F : List Nat}
/-- A map and a walk through it; vis: what has come, in its order. -/
structure RngM (w : World) (b r : Nat) (ek : κ → Value) (ev : α → Value) (ok : κ → Prop) (l vis : List (κ × α)) : Prop where
  map : MapM w b ek ev ok l
  ne : b ≠ r
  it : ∃ (es : Array MapEntry) (clock since : Nat) (seen : Array Nat) (c0 : Nat) (vs : List MapEntry), w.heap[b]? = some (.map es clock) ∧ es.toList.map (fun x => (x.key, x.val)) = l.map (fun p => (ek p.1, ev p.2)) ∧ MapKept.Stamped es clock ∧ w.heap[r]? = some (.mapIter (some b) since seen c0) ∧ (∀ x ∈ es.toList, x.born < since) ∧ (since ≤ c0 ∧ since ≤ clock ∧ (vis ≠ [] → c0 = clock)) ∧
    seen.toList = vs.map (fun x : MapEntry => x.born) ∧ (∀ x ∈ vs, x ∈ es.toList) ∧ vs.map (fun x => (x.key, x.val)) = vis.map (fun p => (ek p.1, ev p.2))
  sub : ∀ p ∈ vis, p ∈ l
  nd : vis.Nodup
def RngA (b r : Nat) (ek : κ → Value) (ev : α → Value) (ok : κ → Prop) (l vis : List (κ × α)) : Asr := fun w F => RngM w b r ek ev ok l vis ∧ F = [b, r]
theorem RngM.lt (h : RngM w b r ek ev ok l vis) : r < w.heap.size := by
  obtain ⟨es, clock, since, seen, c0, vs, _, _, _, h4, _⟩ := h.it
  exact lt_of_blk h4
theorem RngM.kp {S : List Nat} {w' : World} (h : RngM w b r ek ev ok l vis) (hk : Kp S w w') (hb : b ∉ S) (hr : r ∉ S) : RngM w' b r ek ev ok l vis := by
  obtain ⟨es, clock, since, seen, c0, vs, h1, h2, h3, h4, h5⟩ := h.it
  exact ⟨h.map.kp hk hb, h.ne, ⟨es, clock, since, seen, c0, vs, hk.blk h1 hb, h2, h3, hk.blk h4 hr, h5⟩, h.sub, h.nd⟩
theorem Lcl.rng : Lcl (RngA b r ek ev ok l vis) := by
  refine ⟨?_, ?_⟩
  · rintro w F ⟨h, rfl⟩ x hx
    simp at hx
    rcases hx with rfl | rfl
    · exact h.map.lt
    · exact h.lt
  · rintro w F G w' ⟨h, rfl⟩ hk hd
    exact ⟨h.kp hk (hd b (by simp)) (hd r (by simp)), rfl⟩
theorem At.rng (h : At w F (Star (RngA b r ek ev ok l vis) B) w1) : RngM w1 b r ek ev ok l vis := by
  obtain ⟨F1, h1, _⟩ := h.get
  exact h1
theorem At.rng_map (h : At w F (Star (RngA b r ek ev ok l vis) B) w1) : At w F (Star (MapA b ek ev ok l) B) w1 := h.imp fun F1 ⟨Fa, Fb, ⟨h1, e1⟩, h2, hd, e⟩ => by
  subst e1
  exact ⟨_, ⟨[b], Fb, ⟨h1.map, rfl⟩, h2, fun x hx => hd x (by simp at hx; simp [hx]), rfl⟩, fun x hx => by rw [e]; simp at hx ⊢; rcases hx with h | h <;> simp [h]⟩
/-- The start of the walk. -/
theorem At.range {KV : Kont (Value × World)} (hB : Lcl B) (h : At w F (Star (MapA b ek ev ok l) B) w1) (ht : P.underlying t = some (.map k e))
    (H : ∀ w2, At w F (Star (RngA b w1.heap.size ek ev ok l []) B) w2 → KV.run (.pointer (some ⟨w1.heap.size, 0, none⟩), w2)) : @efH P (Instr.range t (.map (some b))) w1 KV := by
  have hm := h.map
  obtain ⟨es, clock, hb, hsz, hes, hok, hnd, hst⟩ := hm
  have hbl := lt_of_blk hb
  refine ef_mk (run_range_map w1 t k e b es clock ht hb) (H _ ?_)
  have kp : Kp [] w1 (w1.alloc (.mapIter (some b) clock #[] clock)) := (Kp.refl _ _).alloc _
  refine h.step Lcl.map hB ?_
  rintro Fa ⟨h1, rfl⟩
  refine ⟨[b, w1.heap.size], ⟨⟨h1.kp kp (by simp), by omega, ⟨es, clock, clock, #[], clock, [], kp.blk hb (by simp), hes, hst, alloc_new, hst.1, ⟨Nat.le_refl _, Nat.le_refl _, fun _ => rfl⟩, rfl, by simp, rfl⟩, by simp, by simp⟩, rfl⟩, (Kp.refl _ _).alloc _, fun x hx => ?_⟩
  simp at hx
  rcases hx with rfl | rfl
  · exact .inl (by simp)
  · exact .inr (Nat.le_refl _)
theorem born_inj {es : List MapEntry} (h : (es.map (·.born)).Nodup) {x y : MapEntry} (hx : x ∈ es) (hy : y ∈ es) (e : x.born = y.born) : x = y := by
  obtain ⟨i, hi, rfl⟩ := List.mem_iff_getElem.1 hx
  obtain ⟨j, hj, rfl⟩ := List.mem_iff_getElem.1 hy
  have : (es.map (·.born))[i]'(by simpa using hi) = (es.map (·.born))[j]'(by simpa using hj) := by simpa using e
  have := (List.getElem_inj h).1 this
  subst this; rfl
theorem key_inj {es : List MapEntry} (h : (es.map (·.key)).Nodup) {x y : MapEntry} (hx : x ∈ es) (hy : y ∈ es) (e : x.key = y.key) : x = y := by
  obtain ⟨i, hi, rfl⟩ := List.mem_iff_getElem.1 hx
  obtain ⟨j, hj, rfl⟩ := List.mem_iff_getElem.1 hy
  have : (es.map (·.key))[i]'(by simpa using hi) = (es.map (·.key))[j]'(by simpa using hj) := by simpa using e
  have := (List.getElem_inj h).1 this
  subst this; rfl
/-- The next entry, whichever. -/
theorem At.next {KV : Kont (Value × World)} {ty : Nat} (hB : Lcl B) (hk : KeyEnc P k ek ok) (h : At w F (Star (RngA b r ek ev ok l vis) B) w1)
    (hDone : (∀ p ∈ l, p ∈ vis) → At w F (Star (RngA b r ek ev ok l vis) B) w1 → KV.run (.tuple #[.bool false], w1))
    (hMore : ∀ p w2, p ∈ l → p ∉ vis → At w F (Star (RngA b r ek ev ok l (vis ++ [p])) B) w2 → KV.run (.tuple #[.bool true, ek p.1, ev p.2], w2)) : @efH P (Instr.next (.pointer (some ⟨r, 0, none⟩)) false ty) w1 KV := by
  have hr := h.rng
  obtain ⟨es, clock, since, seen, c0, vs, h1, h2, h3, h4, h5, h6, h7, h8, h9⟩ := hr.it
  have of_entry : ∀ x ∈ es.toList, ∃ p ∈ l, x.key = ek p.1 ∧ x.val = ev p.2 := fun x hx => by
    have : (x.key, x.val) ∈ es.toList.map (fun x => (x.key, x.val)) := List.mem_map.2 ⟨x, hx, rfl⟩
    rw [h2] at this
    obtain ⟨p, hp, e⟩ := List.mem_map.1 this
    simp only [Prod.mk.injEq] at e
    exact ⟨p, hp, e.1.symm, e.2.symm⟩
  have of_pair : ∀ p ∈ l, ∃ x ∈ es.toList, x.key = ek p.1 ∧ x.val = ev p.2 := fun p hp => by
    have : (ek p.1, ev p.2) ∈ l.map (fun p => (ek p.1, ev p.2)) := List.mem_map.2 ⟨p, hp, rfl⟩
    rw [← h2] at this
    obtain ⟨x, hx, e⟩ := List.mem_map.1 this
    simp only [Prod.mk.injEq] at e
    exact ⟨x, hx, e.1, e.2⟩
  have pair_inj : ∀ p ∈ l, ∀ q ∈ l, p.1 = q.1 → p = q := fun p hp q hq e => by
    have hnd : (l.map (·.1)).Nodup := by
      obtain ⟨_, _, _, _, _, _, hnd, _⟩ := hr.map
      exact hnd
    obtain ⟨i, hi, rfl⟩ := List.mem_iff_getElem.1 hp
    obtain ⟨j, hj, rfl⟩ := List.mem_iff_getElem.1 hq
    have : (l.map (·.1))[i]'(by simpa using hi) = (l.map (·.1))[j]'(by simpa using hj) := by simpa using e
    have := (List.getElem_inj hnd).1 this
    subst this; rfl
  rcases run_next_at w1 ty r b since c0 seen es clock h4 h1 h5 h6.1 with ⟨hz, hrun⟩ | ⟨x, hx, w2, hw2, hrun⟩
  · refine ef_mk hrun (hDone (fun p hp => ?_) h)
    obtain ⟨x, hx, ex1, ex2⟩ := of_pair p hp
    have hin : x.born ∈ seen.toList := by
      rcases Classical.em (x.born ∈ seen.toList) with hs | hs
      · exact hs
      · exfalso
        have : x ∈ (leftOf es seen).toList := by
          unfold leftOf
          rw [Array.toList_filter, List.mem_filter]
          refine ⟨hx, ?_⟩
          simp
          exact fun hc => hs (Array.mem_toList_iff.2 hc)
        have h0 : (leftOf es seen).toList.length = 0 := by simpa using hz
        rw [List.length_eq_zero_iff] at h0
        rw [h0] at this; cases this
    rw [h7] at hin
    obtain ⟨y, hy, ey⟩ := List.mem_map.1 hin
    have := born_inj h3.2.1 (h8 y hy) hx ey
    subst this
    have hv : (y.key, y.val) ∈ vis.map (fun p => (ek p.1, ev p.2)) := by rw [← h9]; exact List.mem_map.2 ⟨y, hy, rfl⟩
    obtain ⟨q, hq, eq⟩ := List.mem_map.1 hv
    simp only [Prod.mk.injEq] at eq
    have hqp : q = p := pair_inj q (hr.sub q hq) p hp (hk.inj _ _ (by rw [eq.1, ex1]))
    rw [← hqp]; exact hq
  · have hxl : x ∈ es.toList ∧ x.born ∉ seen.toList := by
      unfold leftOf at hx
      rw [Array.toList_filter, List.mem_filter] at hx
      have h2 := hx.2
      simp at h2
      exact ⟨hx.1, fun hc => h2 (Array.mem_toList_iff.1 hc)⟩
    obtain ⟨p, hp, ep1, ep2⟩ := of_entry x hxl.1
    have hpv : p ∉ vis := fun hv => by
      have : (ek p.1, ev p.2) ∈ vis.map (fun p => (ek p.1, ev p.2)) := List.mem_map.2 ⟨p, hv, rfl⟩
      rw [← h9] at this
      obtain ⟨y, hy, ey⟩ := List.mem_map.1 this
      simp only [Prod.mk.injEq] at ey
      have hyx := key_inj h3.2.2 (h8 y hy) hxl.1 (by rw [ey.1, ep1])
      subst hyx
      exact hxl.2 (by rw [h7]; exact List.mem_map.2 ⟨y, hy, rfl⟩)
    have kd : Kp [] w1 w2 := by
      rcases hw2 with rfl | rfl
      · exact Kp.refl _ _
      · exact (Kp.refl _ _).drew
    have h' := h.kp0 (Lcl.rng.star hB) kd
    rw [ep1, ep2] at hrun
    refine ef_mk hrun (hMore p _ hp hpv (h'.step Lcl.rng hB ?_))
    rintro Fa ⟨h1', rfl⟩
    have hne := hr.ne
    have hr2 : w2.heap[r]? = some (.mapIter (some b) since seen c0) := kd.blk h4 (by simp)
    have hb2 : w2.heap[b]? = some (.map es clock) := kd.blk h1 (by simp)
    have ks : Kp [r] w2 (w2.setB r (.mapIter (some b) since (seen.push x.born) clock)) := (Kp.refl _ _).setB (.inl (by simp)) _
    refine ⟨[b, r], ⟨⟨h1'.map.kp ks (by simpa using hne), hne, ⟨es, clock, since, seen.push x.born, clock, vs ++ [x], ks.blk hb2 (by simpa using hne), h2, h3, setB_new (lt_of_blk hr2), h5, ⟨h6.2.1, h6.2.1, fun _ => rfl⟩, by simp [h7], fun y hy => ?_, ?_⟩, fun q hq => ?_, ?_⟩, rfl⟩, (Kp.refl _ _).setB (.inl (by simp)) _, fun x hx => .inl hx⟩
    · rcases List.mem_append.1 hy with h | h
      · exact h8 y h
      · simp at h; subst h; exact hxl.1
    · simp [h9, ep1, ep2]
    · rcases List.mem_append.1 hq with h | h
      · exact hr.sub q h
      · simp at h; subst h; exact hp
    · rw [List.nodup_append]
      refine ⟨hr.nd, by simp, fun a ha c hc => ?_⟩
      simp at hc
      subst hc
      exact fun e => hpv (e ▸ ha)
/-- The entry that has come. -/
theorem At.entry {KV : Kont (Value × World)} {p : κ × α} (h : At w F (Star (RngA b r ek ev ok l (vis ++ [p])) B) w1) (H : KV.run (.tuple #[ek p.1, ev p.2], w1)) : @efH P (Instr.entry (.pointer (some ⟨r, 0, none⟩))) w1 KV := by
  have hr := h.rng
  obtain ⟨es, clock, since, seen, c0, vs, h1, h2, h3, h4, h5, h6, h7, h8, h9⟩ := hr.it
  rw [List.map_append] at h9
  obtain ⟨v0, v1, rfl, e0, e1⟩ := List.map_eq_append_iff.1 h9
  obtain ⟨x, rfl, ex⟩ : ∃ x, v1 = [x] ∧ (x.key, x.val) = (ek p.1, ev p.2) := by
    obtain ⟨x, l1, rfl, h1, h2⟩ := List.map_eq_cons_iff.1 e1
    have := List.map_eq_nil_iff.1 h2
    subst this
    exact ⟨x, rfl, h1⟩
  simp only [Prod.mk.injEq] at ex
  have hs : seen = (v0.map (fun x : MapEntry => x.born)).toArray.push x.born := by
    apply Array.toList_inj.1
    rw [h7]
    simp
  rw [hs, h6.2.2 (by simp)] at h4
  have := run_entry_at (P := P) w1 r b since (v0.map (fun x : MapEntry => x.born)).toArray es clock x (by simpa using h4) h1 (h8 x (by simp)) h3.2.1
  rw [ex.1, ex.2] at this
  exact ef_mk this H
end
end Go.W
