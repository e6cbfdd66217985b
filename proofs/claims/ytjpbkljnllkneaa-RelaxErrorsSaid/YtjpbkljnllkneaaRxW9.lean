/-
  A part of the proofs of this seat's statements (RxW9); no conditions beyond those each theorem names.
-/
import Derived.Test.YtjpbkljnllkneaaRxW8
set_option maxRecDepth 100000
set_option linter.unusedSimpArgs false
set_option linter.unusedVariables false
namespace Go.Proofs.Ytjpbkljnllkneaa
open Go Go.W Go.Tk Go.Rx Go.Maps
/-- The greatest value of a list of facts. -/
def grF (vars : List Nat) (V : Nat → Nat) (l : List Fc) : Nat := gr V (l.map (numF vars))
theorem gr_snoc {V : Nat → Nat} {l : List Nat} {x : Nat} : gr V (l ++ [x]) = max (gr V l) (V x) := by
  rw [gr_app]; simp only [gr]; omega
theorem take_snoc {α : Type} {l : List α} {k : Nat} {x : α} (h : l[k]? = some x) : l.take (k + 1) = l.take k ++ [x] := by
  rw [List.take_add_one, h]; rfl
section
variable {w : World} {b : Nat} {vars : List Nat} {goal : List Fc} {U : List Un} {vv gv fv uv nd fr : Value} {rs : List Ru} {ps : List (Cell1 × List Nat)}
theorem max_ok (sv : Value) (s : List Nat) (hR : RlR b vars goal U vv gv fv uv nd fr rs ps w) (hg : FcOk vars goal) (hs : Vw w sv nE s) (hst : StN vars s) (hS : Sm vars U) :
    Calls Try.prog 17 [.pointer (some ⟨b, 0, none⟩), sv].toArray w fun e w' => ∃ x, e = .returned x ∧ ∃ V, IsVal U (stN vars s vars.length) V ∧ x = .int .i64 (grF vars V goal : Nat) ∧ Kp [] w w' := by
  refine enter Try.func17 mixed low17 (Nat.le_of_ble_eq_true rfl) ?_
  simp only [L17]
  have hvl := hS.vl
  have hsm := hS.sm
  have hlen := hst.len
  simp [cell_blk hR.obj]
  refine cl_of (tproper_spec vv sv _ _ (vw_n.2 hR.vvw) (vw_n.2 hs) (by simp; omega)) ?_
  rintro _ w2 ⟨rfl, k2⟩
  rw [hst.ok]
  simp
  refine cl_of (values_spec sv (.map none) s (fun _ => true) (hR.kp k2) (hs.kp0 k2) .none hlen hst.rng hS.un hS.vl hS.sm hS.ul) ?_
  rintro u w3 ⟨V, hV, n3⟩
  rw [allow_all] at hV
  have k3 := k2.trans n3.kp
  have hR3 := hR.kp k3
  have hv3 := n3.own.vw
  simp [cell_blk hR3.obj, hR3.gvw.len]
  have hgl := hg.len
  refine range_loop (n := goal.length) (by omega) (fun k ρ w' => ρ 0 = .pointer (some ⟨b, 0, none⟩) ∧ ρ 5 = u ∧ ρ 26 = gv ∧ ρ 6 = .int .i64 (grF vars V (goal.take k) : Nat) ∧ Kp [] w3 w') (by simp) (by simp)
    ⟨by simp, by simp, by simp, by simp [grF, gr], Kp.refl _ _⟩ (by decide) (fun _ _ _ _ h => by simpa using h) (fun _ _ _ _ h => by simpa using h) ?_ ?_
  rotate_left
  · rintro ρ w4 ⟨g0, g5, g26, g6, k4⟩
    rw [List.take_length] at g6
    simp [g6]
    exact ⟨V, hV, rfl, k3.trans k4⟩
  rintro k ρ w4 hk hc hlm ⟨g0, g5, g26, g6, k4⟩
  have hR4 := hR3.kp k4
  obtain ⟨f, hf⟩ : ∃ f, goal[k]? = some f := ⟨_, List.getElem?_eq_getElem hk⟩
  obtain ⟨f1, f2⟩ := hg.rng f (List.mem_of_getElem? hf)
  have hnf := numF_lt f1 f2
  have ec := hR4.gvw.cells fcE_len hf
  simp only [fcE] at ec
  obtain ⟨fb, hfb⟩ : ∃ fb, fb = w4.heap.size := ⟨_, rfl⟩
  have hki : (k : Int) < goal.length := by omega
  simp (disch := omega) [g26, hc, hlm, hR4.gvw.idx, ec, ← hfb]
  refine st_fa (f := faN f) .emp (At.start (w := w4) rfl) hfb fun w7 h7 => ?_
  have r7 := rd_fa h7.obj
  simp only [faN] at r7
  rw [hfb] at r7
  have hR7 := hR4.kp h7.kp
  simp [g0, g5, r7]
  refine cl_of (number_spec vars f hR7.obj hR7.first f1 (by omega)) ?_
  rintro _ w8 ⟨rfl, k8⟩
  have k48 := h7.kp.trans k8
  have hv8 := hv3.kp0 (k4.trans k48)
  have hni : ((numF vars f : Nat) : Int) < (tabN vars.sum V).length := by rw [tabN_len]; omega
  obtain ⟨q, hq⟩ : ∃ q, q = numF vars f := ⟨_, rfl⟩
  have hx := tabN_at (g := V) hnf
  have e6 : grF vars V (goal.take (k + 1)) = max (grF vars V (goal.take k)) (V q) := by
    unfold grF
    rw [take_snoc hf, List.map_append, List.map_singleton, gr_snoc, ← hq]
  rw [← hq] at hni hx ⊢
  simp (disch := omega) [g0, g5, g6, g26, hc, hlm, hv8.idx, nE_cell hv8 hx, e6]
  exact ⟨by omega, k4.trans k48⟩
/-- The operators of a list are left out. -/
def okL (ws : List Int) (i : Nat) : Bool := decide ((i : Int) ∉ ws)
def mkM (ws : List Int) : List (Int × Bool) := ws.foldl (fun M z => putM M z true) []
theorem getM_cons {l : List (Int × Bool)} {q : Int × Bool} {z : Int} : getM (q :: l) z = if q.1 = z then some q.2 else getM l z := by
  by_cases h : q.1 = z <;> simp [getM, List.find?_cons, h]
theorem getM_app {x z : Int} {v : Bool} : ∀ {l : List (Int × Bool)}, (∀ q ∈ l, q.1 ≠ x) → getM (l ++ [(x, v)]) z = if z = x then some v else getM l z
  | [], _ => by
    rw [List.nil_append, getM_cons]
    by_cases h : x = z
    · simp [h]
    · simp [h, Ne.symm h]
  | q :: l, hq => by
    rw [List.cons_append, getM_cons, getM_cons, getM_app fun q hq2 => hq q (by simp [hq2])]
    have := hq q (by simp)
    by_cases h1 : q.1 = z
    · have : z ≠ x := fun e => this (h1.trans e)
      simp [h1, this]
    · simp [h1]
theorem getM_map {x z : Int} {v : Bool} : ∀ {l : List (Int × Bool)}, getM (l.map fun p => if p.1 = x then (x, v) else p) z = if z = x then (if l.any (fun p => decide (p.1 = x)) then some v else none) else getM l z
  | [] => by simp [getM]
  | q :: l => by
    rw [List.map_cons, getM_cons, getM_cons, getM_map]
    by_cases h1 : q.1 = x
    · by_cases h2 : z = x
      · simp [h1, h2]
      · simp [h1, h2, Ne.symm h2]
    · by_cases h2 : z = x
      · simp [h1, h2]
      · simp [h1, h2]
theorem getM_putM {l : List (Int × Bool)} {x z : Int} {v : Bool} : getM (putM l x v) z = if z = x then some v else getM l z := by
  unfold putM
  by_cases h : l.any (fun p => decide (p.1 = x)) = true
  · rw [if_pos h, getM_map]
    simp only [h, if_true]
  · rw [if_neg h, getM_app]
    intro q hq e
    exact h (List.any_eq_true.2 ⟨q, hq, by simp [e]⟩)
theorem putM_len {l : List (Int × Bool)} {x : Int} {v : Bool} : (putM l x v).length ≤ l.length + 1 := by
  unfold putM
  split <;> simp
theorem mk_get : ∀ (ws : List Int) (M : List (Int × Bool)) (z : Int), getM (ws.foldl (fun M z => putM M z true) M) z = if z ∈ ws then some true else getM M z
  | [], M, z => by simp
  | y :: ws, M, z => by
    rw [List.foldl_cons, mk_get ws _ z, getM_putM]
    by_cases h1 : z ∈ ws
    · simp [h1]
    · by_cases h2 : z = y
      · simp [h1, h2]
      · simp [h1, h2]
theorem mk_len : ∀ (ws : List Int) (M : List (Int × Bool)), (ws.foldl (fun M z => putM M z true) M).length ≤ M.length + ws.length
  | [], M => by simp
  | y :: ws, M => by
    have := mk_len ws (putM M y true)
    have h : (putM M y true).length ≤ M.length + 1 := putM_len
    rw [List.foldl_cons, List.length_cons]
    omega
set_option maxHeartbeats 1000000 in
theorem reached_ok (sv wv : Value) (s : List Nat) (ws : List Int) (hR : RlR b vars goal U vv gv fv uv nd fr rs ps w) (hg : FcOk vars goal) (hs : Vw w sv nE s) (hw : Vw w wv iE ws) (hwl : ws.length ≤ 1000) (hwr : ∀ z ∈ ws, zok z) (hst : StN vars s) (hS : Sm vars U) :
    Calls Try.prog 21 [.pointer (some ⟨b, 0, none⟩), sv, wv].toArray w fun e w' => ∃ x, e = .returned x ∧ ∃ V, IsVal (allow (okL ws) U) (stN vars s vars.length) V ∧ x = .bool (decide (grF vars V goal < Inf)) ∧ Kp [] w w' := by
  refine enter Try.func21 mixed low21 (Nat.le_of_ble_eq_true rfl) ?_
  simp only [L21]
  have hvl := hS.vl
  have hsm := hS.sm
  have hlen := hst.len
  simp [cell_blk hR.obj]
  refine cl_of (tproper_spec vv sv _ _ (vw_n.2 hR.vvw) (vw_n.2 hs) (by simp; omega)) ?_
  rintro _ w2 ⟨rfl, k2⟩
  rw [hst.ok]
  have h2 : At w [] Emp w2 := (At.start rfl).kp0 .emp k2
  obtain ⟨mb, hmb⟩ : ∃ mb, mb = w2.heap.size := ⟨_, rfl⟩
  simp [← hmb]
  have k2' : Kp [] w (w2.alloc (.map #[] 0)) := k2.trans ((Kp.refl [] w2).alloc _)
  have hA0 : At w [] (Star (MapA mb intV Value.bool zok (mkM (ws.take 0))) Emp) (w2.alloc (.map #[] 0)) := by rw [hmb]; exact h2.newmap .emp
  have hw2 := hw.kp0 k2'
  simp [hw2.len]
  refine range_loop (n := ws.length) (by omega) (fun k ρ w' => ρ 0 = .pointer (some ⟨b, 0, none⟩) ∧ ρ 1 = sv ∧ ρ 7 = .map (some mb) ∧ ρ 26 = wv ∧ At w [] (Star (MapA mb intV Value.bool zok (mkM (ws.take k))) Emp) w') (by simp) (by simp)
      ⟨by simp, by simp, by simp, by simp, hA0⟩ (by decide) (fun _ _ _ _ h => by simpa using h) (fun _ _ _ _ h => by simpa using h) ?_ ?_
  · rintro k ρ w4 hk hc hlm ⟨g0, g1, g7, g26, h4⟩
    have hw4 := hw.kp0 h4.kp
    obtain ⟨z, hz⟩ : ∃ z, ws[k]? = some z := ⟨_, List.getElem?_eq_getElem hk⟩
    have hki : (k : Int) < ws.length := by omega
    simp (disch := omega) [g7, g26, hc, hlm, hw4.idx, iE_cell hw4 hz]
    have hml := mk_len (ws.take k) []
    simp at hml
    refine At.put (x := z) (v := true) .emp h4 keyI Try.underlying88 (hwr z (List.mem_of_getElem? hz)) (by unfold mkM maxLen; omega) fun w5 h5 => ?_
    simp [g0, g1, g7, g26, hc, hlm]
    have e : mkM (ws.take (k + 1)) = putM (mkM (ws.take k)) z true := by
      unfold mkM; rw [take_snoc hz, List.foldl_append]; rfl
    rw [e]; exact h5
  rintro ρ w3 ⟨g0, g1, g7, g26, h3⟩
  rw [List.take_length] at h3
  have hlk : LkP w3 (.map (some mb)) (okL ws) := by
    refine .inr ⟨mb, mkM ws, rfl, h3.map, fun i _ => ?_⟩
    unfold mkM okL
    rw [mk_get]
    by_cases hm : (i : Int) ∈ ws
    · simp [hm]
    · simp [hm, getM]
  have k3 := h3.kp
  simp [g0, g1, g7]
  refine cl_of (values_spec sv (.map (some mb)) s (okL ws) (hR.kp k3) (hs.kp0 k3) hlk hlen hst.rng hS.un hS.vl hS.sm hS.ul) ?_
  rintro u w4 ⟨V, hV, n4⟩
  have k4 := k3.trans n4.kp
  have hR4 := hR.kp k4
  have hv4 := n4.own.vw
  simp [g0, cell_blk hR4.obj, hR4.gvw.len]
  have hgl := hg.len
  have hInf : ((Inf : Nat) : Int) = 1125899906842624 := rfl
  refine range_loop (n := goal.length) (by omega) (fun k ρ w' => ρ 0 = .pointer (some ⟨b, 0, none⟩) ∧ ρ 10 = u ∧ ρ 43 = gv ∧ grF vars V (goal.take k) < Inf ∧ Kp [] w4 w') (by simp) (by simp)
    ⟨by simp [g0], by simp, by simp, by simp [grF, gr, Inf], Kp.refl _ _⟩ (by decide) (fun _ _ _ _ h => by simpa using h) (fun _ _ _ _ h => by simpa using h) ?_ ?_
  rotate_left
  · rintro ρ w5 ⟨g0, g10, g43, g6, k5⟩
    rw [List.take_length] at g6
    simp
    exact ⟨V, hV, by simp [g6], k4.trans k5⟩
  clear g0 g1 g7 h3 hlk
  rintro k ρ w5 hk hc hlm ⟨g0, g10, g43, g6, k5⟩
  have hR5 := hR4.kp k5
  obtain ⟨f, hf⟩ : ∃ f, goal[k]? = some f := ⟨_, List.getElem?_eq_getElem hk⟩
  obtain ⟨f1, f2⟩ := hg.rng f (List.mem_of_getElem? hf)
  have hnf := numF_lt f1 f2
  have ec := hR5.gvw.cells fcE_len hf
  simp only [fcE] at ec
  obtain ⟨fb, hfb⟩ : ∃ fb, fb = w5.heap.size := ⟨_, rfl⟩
  have hki : (k : Int) < goal.length := by omega
  simp (disch := omega) [g43, hc, hlm, hR5.gvw.idx, ec, ← hfb]
  refine st_fa (f := faN f) .emp (At.start (w := w5) rfl) hfb fun w7 h7 => ?_
  have r7 := rd_fa h7.obj
  simp only [faN] at r7
  rw [hfb] at r7
  have hR7 := hR5.kp h7.kp
  simp [g0, g10, r7]
  refine cl_of (number_spec vars f hR7.obj hR7.first f1 (by omega)) ?_
  rintro _ w8 ⟨rfl, k8⟩
  have k58 := h7.kp.trans k8
  have hv8 := hv4.kp0 (k5.trans k58)
  have hni : ((numF vars f : Nat) : Int) < (tabN vars.sum V).length := by rw [tabN_len]; omega
  obtain ⟨q, hq⟩ : ∃ q, q = numF vars f := ⟨_, rfl⟩
  have hx := tabN_at (g := V) hnf
  have e6 : grF vars V (goal.take (k + 1)) = max (grF vars V (goal.take k)) (V q) := by
    unfold grF
    rw [take_snoc hf, List.map_append, List.map_singleton, gr_snoc, ← hq]
  have e7 : V q ≤ grF vars V goal := gr_mem (List.mem_map.2 ⟨f, List.mem_of_getElem? hf, hq.symm⟩)
  rw [← hq] at hni hx ⊢
  by_cases hge : Inf ≤ V q
  · have hge' : (1125899906842624 : Int) ≤ (V q : Int) := by omega
    simp (disch := omega) [g0, g10, g43, hc, hlm, hv8.idx, nE_cell hv8 hx, hge']
    exact ⟨V, hV, by omega, k4.trans (k5.trans k58)⟩
  · have hge' : ¬ (1125899906842624 : Int) ≤ (V q : Int) := by omega
    simp (disch := omega) [g0, g10, g43, hc, hlm, hv8.idx, nE_cell hv8 hx, hge', e6]
    exact ⟨by omega, k5.trans k58⟩
end
end Go.Proofs.Ytjpbkljnllkneaa
