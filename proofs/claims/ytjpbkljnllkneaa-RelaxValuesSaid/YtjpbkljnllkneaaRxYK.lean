/-
  A part of the proofs of this seat's statements (RxYK); no conditions beyond those each theorem names.
-/
import Derived.Test.YtjpbkljnllkneaaRxYJ
set_option maxRecDepth 100000
set_option linter.unusedSimpArgs false
set_option linter.unusedVariables false
namespace Go.Proofs.Ytjpbkljnllkneaa
open Go Go.W Go.Tk Go.Rx Go.Maps
abbrev Ed := Nat × Nat × Nat
def edE (e : Ed) : List Value := [.int .i64 (e.1 : Nat), .int .i64 (e.2.1 : Nat), .int .i64 (e.2.2 : Nat)]
theorem edE_len (e : Ed) : (edE e).length = 3 := rfl
theorem edE_one (e : Ed) : (edE e).all oneC = true := rfl
/-- The state behind an operator is a state. -/
theorem apK_st {vars : List Nat} {o : No} {s : List Nat} (hs : StN vars s) (ho : NoG vars o) : ∀ k, k ≤ o.effs.length → StN vars (apK o s k)
  | 0, _ => by simpa [apK] using hs
  | k + 1, hk => by
    obtain ⟨e, he⟩ : ∃ e, o.effs[k]? = some e := ⟨_, List.getElem?_eq_getElem (by omega)⟩
    have ih := apK_st hs ho k (by omega)
    rw [apK_succ he]
    split
    · obtain ⟨e1, e2⟩ := ho.eff e (List.mem_of_getElem? he)
      refine ⟨by rw [List.length_set]; exact ih.len, fun v hv => ?_⟩
      by_cases h : v = e.v
      · subst h
        simp only [List.getD, List.getElem?_set_self (show e.v < (apK o s k).length by rw [ih.len]; exact e1), Option.getD_some]
        exact e2
      · have := ih.rng v hv
        simpa only [List.getD, List.getElem?_set_ne (Ne.symm h)] using this
    · exact ih
theorem apS_st {vars : List Nat} {o : No} {s : List Nat} (hs : StN vars s) (ho : NoG vars o) : StN vars (apS o s) := apK_st hs ho _ (Nat.le_refl _)
theorem flat_at {α β : Type} {f : α → List β} {n : Nat} (hf : ∀ a, (f a).length = n) : ∀ (l : List α) (i x : Nat) (a : α), l[i]? = some a → x < n → (l.flatMap f)[i * n + x]? = (f a)[x]?
  | [], i, x, a, h, _ => by simp at h
  | b :: l, 0, x, a, h, hx => by
    simp at h; subst h
    rw [List.flatMap_cons, Nat.zero_mul, Nat.zero_add, List.getElem?_append_left (by rw [hf]; exact hx)]
  | b :: l, i + 1, x, a, h, hx => by
    rw [List.flatMap_cons, List.getElem?_append_right (by rw [hf, Nat.add_mul]; omega), hf]
    have : (i + 1) * n + x - n = i * n + x := by rw [Nat.add_mul]; omega
    rw [this]
    exact flat_at hf l i x a (by simpa using h) hx
/-- A state lies at its number. -/
theorem rk_at {vars s : List Nat} (hs : StN vars s) : ∀ k, k ≤ vars.length → (stsK vars k)[rkK vars s k]? = some (s.take k)
  | 0, _ => by simp [stsK, rkK]
  | k + 1, hk => by
    have ih := rk_at hs k (by omega)
    have hr := hs.rng k (by omega)
    have e : stsK vars (k + 1) = (stsK vars k).flatMap (extS (vars.getD k 0)) := rfl
    have hsk : s[k]? = some (s.getD k 0) := by
      have : k < s.length := by rw [hs.len]; omega
      simp [List.getD, List.getElem?_eq_getElem this]
    rw [e]
    show (List.flatMap _ _)[rkK vars s k * vars.getD k 0 + s.getD k 0]? = _
    rw [flat_at (fun a => extS_len _ a) _ _ _ _ ih hr]
    unfold extS
    rw [List.getElem?_map, List.getElem?_range hr, take_snoc hsk]
    rfl
theorem rk_all {vars s : List Nat} (hs : StN vars s) : (stsK vars vars.length)[rkK vars s vars.length]? = some s := by
  have := rk_at hs vars.length (Nat.le_refl _)
  rwa [List.take_of_length_le (by rw [hs.len]; exact Nat.le_refl _)] at this
theorem rk_sm {T : Nt} {s : List Nat} (hT : SmT T) (hs : StN T.vars s) (k : Nat) (hk : k ≤ T.vars.length) : rkK T.vars s k < 512 := by
  have h1 := (List.getElem?_eq_some_iff.1 (rk_at hs k hk)).1
  rw [stsK_len k hk] at h1
  have := hT.pr k
  omega
theorem sts512 {T : Nt} (hT : SmT T) : (stsK T.vars T.vars.length).length ≤ 512 := by rw [stsK_len _ (Nat.le_refl _)]; exact hT.pr _
/-- The steps out of a state, by the first operators; those out of the first states. -/
def edS (T : Nt) (i : Nat) (s : List Nat) : Nat → List Ed
  | 0 => []
  | q + 1 => edS T i s q ++ match T.ops[q]? with | some o => if hdB s o.pre then [(i, q, rkK T.vars (apS o s) T.vars.length)] else [] | none => []
def edK (T : Nt) : Nat → List Ed
  | 0 => []
  | i + 1 => edK T i ++ match (stsK T.vars T.vars.length)[i]? with | some s => edS T i s T.ops.length | none => []
theorem edS_len (T : Nt) (i : Nat) (s : List Nat) : ∀ q, (edS T i s q).length ≤ q
  | 0 => by simp [edS]
  | q + 1 => by
    have := edS_len T i s q
    unfold edS
    rw [List.length_append]
    split
    · split <;> simp <;> omega
    · simp; omega
theorem edK_len (T : Nt) : ∀ i, (edK T i).length ≤ i * T.ops.length
  | 0 => by simp [edK]
  | i + 1 => by
    have := edK_len T i
    unfold edK
    rw [List.length_append, Nat.add_mul, Nat.one_mul]
    split
    · rename_i s _
      have := edS_len T i s T.ops.length
      omega
    · simp; omega
theorem edS_mem {T : Nt} {i : Nat} {s : List Nat} {e : Ed} : ∀ {q}, e ∈ edS T i s q → e.1 = i ∧ ∃ o, T.ops[e.2.1]? = some o ∧ hdB s o.pre = true ∧ e.2.2 = rkK T.vars (apS o s) T.vars.length
  | 0, h => by simp [edS] at h
  | q + 1, h => by
    unfold edS at h
    rcases List.mem_append.1 h with h | h
    · exact edS_mem h
    · split at h
      · rename_i o ho
        split at h
        · rename_i hp
          simp at h; subst h
          exact ⟨rfl, o, ho, hp, rfl⟩
        · simp at h
      · simp at h
theorem edK_mem {T : Nt} {e : Ed} : ∀ {n}, e ∈ edK T n → ∃ s o, (stsK T.vars T.vars.length)[e.1]? = some s ∧ T.ops[e.2.1]? = some o ∧ hdB s o.pre = true ∧ e.2.2 = rkK T.vars (apS o s) T.vars.length
  | 0, h => by simp [edK] at h
  | n + 1, h => by
    unfold edK at h
    rcases List.mem_append.1 h with h | h
    · exact edK_mem h
    · split at h
      · rename_i s hs
        obtain ⟨h1, o, h2, h3, h4⟩ := edS_mem h
        exact ⟨s, o, by rw [h1]; exact hs, h2, h3, h4⟩
      · simp at h
def edA (T : Nt) : List Ed := edK T (stsK T.vars T.vars.length).length
theorem ed_append {w w1 : World} {F : List Nat} {B : Asr} {ov : Value} {l : List Ed} {x : Ed} {KV : Kont (Value × World)} (hB : Lcl B) (h : At w F (Star (OwnA ov 46 3 edE l) B) w1) (hl : l.length ≤ 1000000)
    (H : ∀ v' w2, At w F (Star (OwnA v' 46 3 edE (l ++ [x])) B) w2 → KV.run (v', w2)) :
    @efH Try.prog (Builtin.append_ #[43, 43] 43 [ov, .slice (some ⟨w1.heap.size, 0, none⟩) 1 1].toArray) (w1.alloc (.cells #[.int .i64 (x.1 : Nat), .int .i64 (x.2.1 : Nat), .int .i64 (x.2.2 : Nat)] 46)) KV := by
  have h4 := h.kp0 (Lcl.own.star hB) ((Kp.refl [] w1).alloc (.cells #[.int .i64 (x.1 : Nat), .int .i64 (x.2.1 : Nat), .int .i64 (x.2.2 : Nat)] 46))
  refine At.append (xs := [x]) hB h4 edE_len edE_one sl_43 rfl (fun j u hj => ?_) (by omega) (by unfold maxLen; omega) fun v' w5 h5 => H v' w5 h5
  rw [add_none, cell_blk alloc_new]
  simpa [edE] using hj
set_option maxHeartbeats 1000000 in
theorem edges_spec {w : World} (T : Nt) (hr : NtR w T) (hT : SmT T) :
    Calls Try.prog 19 [ntV T].toArray w fun e w' => ∃ u, e = .returned u ∧ At w [] (Star (OwnA u 46 3 edE (edA T)) Emp) w' := by
  refine enter Try.func19 mixed low19 (Nat.le_of_ble_eq_true rfl) ?_
  simp only [L19]
  have hg := hT.g
  have hol := hT.ol
  have hvl := hT.vl
  obtain ⟨b, hb⟩ : ∃ b, b = w.heap.size := ⟨_, rfl⟩
  have h1 : At w [] (Star (ObjA b (ntO T)) Emp) (w.alloc (ntO T)) := by rw [hb]; exact (At.start rfl).alloc _ .emp
  obtain ⟨w1, hw1⟩ : ∃ w1, w1 = w.alloc (ntO T) := ⟨_, rfl⟩
  rw [← hw1] at h1
  have hw1' : w.alloc (.cells #[T.vv.1, T.nv.1, T.gv.1, T.ov.1] 26 (0, 0)) = w1 := by rw [hw1]; rfl
  have hob := h1.obj
  unfold ntO at hob
  have hr1 := hr.kp h1.kp
  simp [ntV, ← hb, hw1', cell_blk hob]
  refine cl_of (states_spec T.vv.1 T.vars hr1.vars (by omega) (fun n hn => by have := hg.vars n hn; omega) (SmT.sts hT) (fun k hk s hs => by have := (sts_ok k hk s hs).1; omega)) ?_
  rintro all w2 h2
  have hls := LLA.vw h2
  have h3 := At.nil (E := 46) (sz := 3) (enc := edE) .emp (At.start rfl : At w2 [] Emp w2)
  have k2 := h1.kp.trans0 h2.kp
  have ob2 := h2.kp.blk hob (by simp)
  have hr2 := hr.kp k2
  obtain ⟨ps, hpl, hpv, hpr⟩ := hls.spread
  have h512 := sts512 hT
  simp [hpv.len]
  refine range_loop (n := ps.length) (by omega) (fun i ρ w' => ρ 1 = .pointer (some ⟨b, 0, none⟩) ∧ ρ 11 = all ∧ At w2 [] (Star (OwnA (ρ 3) 46 3 edE (edK T i)) Emp) w') (by simp) (by simp)
    ⟨by simp, by simp, by simpa [edK] using h3⟩ (by decide) (fun _ _ _ _ h => by simpa using h) (fun _ _ _ _ h => by simpa using h) ?_ ?_
  rotate_left
  · rintro ρ w4 ⟨g1, g11, h4⟩
    rw [hpl] at h4
    simp
    obtain ⟨⟨F, hF, hs⟩, k⟩ := h4
    refine ⟨⟨F, hF, fun x hx => ?_⟩, k2.trans0 k⟩
    rcases hs x hx with h | h
    · cases h
    · have := k2.size; exact .inr (by omega)
  rintro i ρ w4 hi hci hli ⟨g1, g11, h4⟩
  obtain ⟨p, hp⟩ : ∃ p, ps[i]? = some p := ⟨_, List.getElem?_eq_getElem hi⟩
  obtain ⟨s, hsk, hsv⟩ := hpr i p hp
  have hst := sts_st (List.mem_of_getElem? hsk)
  have hpv4 := hpv.kp0 h4.kp
  have ep : w4.cell? (all.adr.add i) = some p.1.1 := by simpa using hpv4.at_ sv1_len hp (o := 0) (u := p.1.1) rfl
  have hki : (i : Int) < ps.length := by omega
  have ob4 := h4.kp.blk ob2 (by simp)
  simp (disch := omega) [g1, g11, hci, hli, hpv4.idx, ep, cell_blk ob4, (hr2.kp h4.kp).ops.len]
  refine range_loop (n := T.ops.length) (by omega) (fun q ρ w' => ρ 1 = .pointer (some ⟨b, 0, none⟩) ∧ ρ 11 = all ∧ ρ 12 = .int .i64 (ps.length : Nat) ∧ ρ 13 = .int .i64 (i : Nat) ∧ ρ 4 = .int .i64 (i : Nat) ∧ ρ 5 = p.1.1 ∧ At w2 [] (Star (OwnA (ρ 3) 46 3 edE (edK T i ++ edS T i s q)) Emp) w') (by simp) (by simp)
    ⟨by simp [g1], by simp [g11], by simp [hli], by simp [hci], by simp, by simp, by simpa [edS] using h4⟩ (by decide) (fun _ _ _ _ h => by simpa using h) (fun _ _ _ _ h => by simpa using h) ?_ ?_
  rotate_left
  · clear g1 g11 hci hli h4
    rintro ρ w5 ⟨g1, g11, g12, g13, g4, g5, h5⟩
    have e : edK T (i + 1) = edK T i ++ edS T i s T.ops.length := by
      show edK T i ++ _ = _
      rw [hsk]
    simp [g1, g11, g12, g13]
    rw [e]
    exact h5
  clear g1 g11 hci hli h4 hpv4 ep ob4
  rintro q ρ w5 hq hcq hlq ⟨g1, g11, g12, g13, g4, g5, h5⟩
  obtain ⟨o, ho⟩ : ∃ o, T.ops[q]? = some o := ⟨_, List.getElem?_eq_getElem hq⟩
  have hog := hg.ops o (List.mem_of_getElem? ho)
  have ob5 := h5.kp.blk ob2 (by simp)
  have rt : cellsAt w5 ⟨b, 0, none⟩ 0 4 = some [T.vv.1, T.nv.1, T.gv.1, T.ov.1] := by simp [cellsAt, Addr.add, cell_blk ob5]
  have hl1 := edK_len T i
  have hl2 := edS_len T i s q
  have hl3 : i * T.ops.length ≤ 512 * 20 := Nat.mul_le_mul (by omega) hol
  simp [g1, g5, hcq, rt]
  refine cl_of (apply_spec T p.1.1 s q o (hr2.kp h5.kp) hg ho (hsv.kp0 h5.kp) hst) ?_
  rintro x w6 hx
  unfold apV at hx
  by_cases hh : hdB s o.pre = true
  · rw [if_pos hh] at hx
    obtain ⟨u, rfl, n6⟩ := hx
    have h6 := h5.kp0 (Lcl.own.star .emp) n6.kp
    have ob6 := h6.kp.blk ob2 (by simp)
    have hst2 := apS_st hst hog
    have hlen2 := hst2.len
    simp [g1, g4, cell_blk ob6]
    refine cl_of (rank_spec T.vv.1 u T.vars (apS o s) (hr2.kp h6.kp).vars n6.own.vw hlen2 (by omega) (fun k hk => by have := rk_sm hT hst2 k (by omega); omega)) ?_
    rintro _ w7 ⟨rfl, k7⟩
    rw [hlen2]
    have h7 := h6.kp0 (Lcl.own.star .emp) k7
    obtain ⟨rk, hrk⟩ : ∃ rk, rk = rkK T.vars (apS o s) T.vars.length := ⟨_, rfl⟩
    rw [← hrk]
    have e : edS T i s (q + 1) = edS T i s q ++ [(i, q, rk)] := by
      show edS T i s q ++ _ = _
      rw [ho]
      simp only [if_pos hh, hrk]
    simp [g4, hcq, rowOf]
    refine ed_append (x := (i, q, rk)) .emp h7 (by rw [List.length_append]; omega) fun v' w8 h8 => ?_
    simp [g1, g11, g12, g13, g4, g5, hcq, hlq]
    rw [e, ← List.append_assoc]
    exact h8
  · rw [if_neg hh] at hx
    obtain ⟨rfl, k6⟩ := hx
    have e : edS T i s (q + 1) = edS T i s q := by
      show edS T i s q ++ _ = _
      rw [ho]
      simp only [if_neg hh, List.append_nil]
    simp [g1, g11, g12, g13, g4, g5, hcq, hlq]
    rw [e]
    exact h5.kp0 (Lcl.own.star .emp) k6
end Go.Proofs.Ytjpbkljnllkneaa
