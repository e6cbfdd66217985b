/-
  A part of the proofs of this seat's statements (RxW7); no conditions beyond those each theorem names.
-/
import Derived.Test.YtjpbkljnllkneaaRxW6
set_option maxRecDepth 100000
set_option linter.unusedSimpArgs false
set_option linter.unusedVariables false
namespace Go.Proofs.Ytjpbkljnllkneaa
open Go Go.W Go.Tk Go.Rx Go.Maps
section
variable {α : Type} {enc : α → List Value} {w w' w1 w2 : World} {v : Value} {ls : List (List α)} {F : List Nat} {A B : Asr}
/-- A table that can be read. -/
def LLV (enc : α → List Value) (w : World) (v : Value) (ls : List (List α)) : Prop := ∃ ps : List (Cell1 × List α), ps.map (·.2) = ls ∧ Vw w v sv1 ps ∧ ∀ p ∈ ps, Vw w p.1.1 enc p.2
theorem LLV.kp (h : LLV enc w v ls) (k : Kp [] w w') : LLV enc w' v ls := by
  obtain ⟨ps, h1, h2, h3⟩ := h
  exact ⟨ps, h1, h2.kp0 k, fun p hp => (h3 p hp).kp0 k⟩
theorem LLA.vw {E : Nat} (h : At w F (Star (LLA v E enc ls) B) w') : LLV enc w' v ls := by
  obtain ⟨ps, h1, h2⟩ := LLA.opn h
  exact ⟨ps, h1, h2.own.vw, fun p hp => h2.drop.vws hp⟩
theorem LLV.at (h : LLV enc w v ls) {i : Nat} {l : List α} (hi : ls[i]? = some l) : ∃ u, oneC u = true ∧ w.cell? (v.adr.add i) = some u ∧ Vw w u enc l := by
  obtain ⟨ps, rfl, h2, h3⟩ := h
  obtain ⟨p, hp, rfl⟩ : ∃ p : Cell1 × List α, ps[i]? = some p ∧ p.2 = l := by
    rw [List.getElem?_map] at hi
    cases hq : ps[i]? with
    | none => rw [hq] at hi; cases hi
    | some p => rw [hq] at hi; exact ⟨p, rfl, Option.some.inj hi⟩
  refine ⟨p.1.1, p.1.2, ?_, h3 p (List.mem_of_getElem? hp)⟩
  simpa using h2.at_ sv1_len hp (o := 0) (u := p.1.1) rfl
theorem LLV.spread (h : LLV enc w v ls) : ∃ ps : List (Cell1 × List α), ps.length = ls.length ∧ Vw w v sv1 ps ∧ ∀ (i : Nat) (p : Cell1 × List α), ps[i]? = some p → ∃ l, ls[i]? = some l ∧ Vw w p.1.1 enc l := by
  obtain ⟨ps, rfl, h2, h3⟩ := h
  exact ⟨ps, by simp, h2, fun i p hp => ⟨p.2, by rw [List.getElem?_map, hp]; rfl, h3 p (List.mem_of_getElem? hp)⟩⟩
/-- What a callee made since its start, beside what is there. -/
theorem At.join (hB : Lcl B) (h : At w F B w1) (t : At w1 [] (Star A Emp) w2) : At w F (Star A B) w2 := by
  obtain ⟨F1, ⟨Fa, Fe, h1, h2, hd, rfl⟩, hs⟩ := t.ex
  refine h.more hB t.kp ⟨Fa, h1, fun x hx => ?_⟩
  rcases hs x (by simp [hx]) with h3 | h3
  · cases h3
  · exact h3
/-- A row is added to a list of rows. -/
theorem li_append {u ov : Value} {c : List α} {outs : List (List α)} {KV : Kont (Value × World)} (hB : Lcl B) (h : At w F (Star (OwnA u 3 1 enc c) (Star (LLA ov 22 enc outs) B)) w1) (hl : outs.length ≤ 100000)
    (H : ∀ v' w2, At w F (Star (LLA v' 22 enc (outs ++ [c])) B) w2 → KV.run (v', w2)) :
    @efH Try.prog (Builtin.append_ #[38, 38] 38 [ov, .slice (some ⟨w1.heap.size, 0, none⟩) 1 1].toArray) (w1.alloc (.cells #[u] 22)) KV := by
  have hou := h.own.o1
  obtain ⟨ps, hps, h3⟩ := LLA.opn h.rot
  have hpl : ps.length = outs.length := by rw [← hps]; simp
  have hBX : Lcl (Star (VwsA enc ps) (Star (OwnA u 3 1 enc c) B)) := Lcl.vws.star (Lcl.own.star hB)
  have h4 := h3.kp0 (Lcl.own.star hBX) ((Kp.refl [] w1).alloc (.cells #[u] 22))
  refine At.append (xs := [((⟨u, hou⟩, c) : Cell1 × List α)]) hBX h4 sv1_len sv1_one sl_38 rfl (fun j x hj => ?_) (by omega) (by unfold maxLen; omega) fun v' w5 h5 => H v' w5 ?_
  · simp [sv1] at hj
    rw [add_none, cell_blk alloc_new]
    simpa using hj
  · have h6 : At w F (Star (OwnA v' 22 1 sv1 (ps ++ [((⟨u, hou⟩, c) : Cell1 × List α)])) (Star (VwsA enc (ps ++ [((⟨u, hou⟩, c) : Cell1 × List α)])) B)) w5 :=
      ((h5.rot3.own_vw).by (Imp.trans (Imp.un Imp.sw) (Imp.trans (VwsA.add hou) Imp.sw))).by Imp.rfl
    exact LLA.cls (ls := outs ++ [c]) (by simp [hps]) h6
end
theorem cloneZ_spec {w : World} (v : Value) (l : List Int) (hv : Vw w v iE l) (hl : l.length ≤ 1000000) :
    Calls Try.prog 38 [v].toArray w fun e w' => ∃ u, e = .returned u ∧ Nw w w' u 3 1 iE l := by
  refine enter Try.func38 mixed low38 (Nat.le_of_ble_eq_true rfl) ?_
  simp only [L38]
  have h0 : At w [] Emp w := At.start rfl
  rcases sl_nil hv with ⟨rfl, rfl⟩ | ⟨a, cap, rfl⟩
  · simp
    exact Nw.of (At.nil (E := 3) (sz := 1) (enc := iE) .emp h0)
  · simp [rowOf]
    have h1 := h0.lit (xs := ([] : List Int)) (enc := iE) (E := 3) (sz := 1) (cs := #[]) (m := 0) .emp (by simp) iE_len (by simp [maxLen]) rfl
    refine At.appendV (xs := l) .emp h1 (hv.kp0 ((Kp.refl [] w).alloc _)) iE_len iE_one sl_22 (by simp; omega) (by simp; unfold maxLen; omega) fun v' w2 h2 => ?_
    simp
    exact Nw.of (by simpa using h2)
/-- The row of a variable; the rows of the first variables. -/
def rwI (vars : List Nat) (g : Nat → Int) (v : Nat) : List Int := (List.range (vars.getD v 0)).map fun x => g (psum vars v + x)
def tbK (vars : List Nat) (g : Nat → Int) (k : Nat) : List (List Int) := (List.range k).map (rwI vars g)
def tbI (vars : List Nat) (g : Nat → Int) : List (List Int) := tbK vars g vars.length
theorem tbK_succ (vars : List Nat) (g : Nat → Int) (k : Nat) : tbK vars g (k + 1) = tbK vars g k ++ [rwI vars g k] := by
  unfold tbK; rw [List.range_succ]; simp
theorem tbK_len (vars : List Nat) (g : Nat → Int) (k : Nat) : (tbK vars g k).length = k := by simp [tbK]
theorem rwI_cut {vars : List Nat} {g : Nat → Int} {v n : Nat} (hv : vars[v]? = some n) : ((((List.range vars.sum).map g).take (psum vars v + n)).drop (psum vars v)) = rwI vars g v := by
  have h1 := psum_succ hv
  have h2 := psum_le (vars := vars) (v + 1)
  have e : vars.getD v 0 = n := by simp [List.getD, hv]
  unfold rwI
  rw [e]
  apply List.ext_getElem
  · simp; omega
  · intro i h3 h4
    simp
def tabZ (N : Nat) (g : Nat → Int) : List Int := (List.range N).map g
set_option maxHeartbeats 1000000 in
theorem split_spec {w : World} {b : Nat} {vars : List Nat} {goal : List Fc} {U : List Un} {vv gv fv uv nd fr : Value} {rs : List Ru} {ps : List (Cell1 × List Nat)} (lv : Value) (g : Nat → Int)
    (hR : RlR b vars goal U vv gv fv uv nd fr rs ps w) (hv : Vw w lv iE (tabZ vars.sum g)) (hvl : vars.length ≤ 12) (hN : vars.sum ≤ 768) :
    Calls Try.prog 50 [.pointer (some ⟨b, 0, none⟩), lv].toArray w fun e w' => ∃ u, e = .returned u ∧ Kp [] w w' ∧ LLV iE w' u (tbI vars g) := by
  refine enter Try.func50 mixed low50 (Nat.le_of_ble_eq_true rfl) ?_
  simp only [L50]
  have h0 : At w [] (Star (LLA (.slice none 0 0) 22 iE (tbK vars g 0)) Emp) w := LLA.nil .emp (At.start rfl)
  simp [cell_blk hR.obj, hR.vvw.len]
  refine range_loop (n := vars.length) (by omega) (fun k ρ w' => ρ 0 = .pointer (some ⟨b, 0, none⟩) ∧ ρ 1 = lv ∧ ρ 12 = vv ∧ At w [] (Star (LLA (ρ 5) 22 iE (tbK vars g k)) Emp) w') (by simp) (by simp)
    ⟨by simp, by simp, by simp, h0⟩ (by decide) (fun _ _ _ _ h => by simpa using h) (fun _ _ _ _ h => by simpa using h) ?_ ?_
  rotate_left
  · rintro ρ w2 ⟨g0, g1, g12, h2⟩
    simp
    exact ⟨h2.kp, LLA.vw h2⟩
  rintro k ρ w2 hk hc hlm ⟨g0, g1, g12, h2⟩
  have hR2 := hR.kp h2.kp
  have hv2 := hv.kp0 h2.kp
  obtain ⟨n, hn⟩ : ∃ n, vars[k]? = some n := ⟨_, List.getElem?_eq_getElem hk⟩
  have hp1 := psum_succ hn
  have hp2 := psum_le (vars := vars) (k + 1)
  have hfi : (k : Int) < (firsts vars vars.length).length := by simp [firsts]; omega
  have hki : (k : Int) < vars.length := by omega
  have efc := nE_cell hR2.first (firsts_at (vars := vars) hk)
  obtain ⟨lo, hlo⟩ : ∃ lo, lo = psum vars k := ⟨_, rfl⟩
  obtain ⟨hi, hhi⟩ : ∃ hi, hi = psum vars k + n := ⟨_, rfl⟩
  have ehi : ((psum vars k : Nat) : Int) + (n : Nat) = (hi : Int) := by rw [hhi]; simp
  simp (disch := omega) [g0, g1, g12, hc, hlm, hR2.vvw.idx, nE_cell hR2.vvw hn, cell_blk hR2.obj, hR2.first.idx, efc, ehi, wrap_i64]
  have hcut := rwI_cut (g := g) hn
  refine Vw.slice hv2 iE_len sl_22 (lo := psum vars k) (hi := hi) (by omega) (by simp [tabZ]; omega) fun v' hv' _ => ?_
  rw [hhi] at hv'
  unfold tabZ at hv'
  rw [hcut] at hv'
  simp
  refine cl_of (cloneZ_spec v' _ hv' (by unfold rwI; simp [List.getD, hn]; omega)) ?_
  rintro u w3 hu
  have h3 := At.nw (Lcl.ll.star .emp) (h2.kp0 (Lcl.ll.star .emp) ((Kp.refl [] w2).drew)) hu
  have c3 := h3.own.c1
  simp [c3]
  refine li_append .emp h3 (by rw [tbK_len]; omega) fun v4 w4 h4 => ?_
  rw [← tbK_succ] at h4
  simp [g0, g1, g12, hc, hlm]
  exact h4
end Go.Proofs.Ytjpbkljnllkneaa
