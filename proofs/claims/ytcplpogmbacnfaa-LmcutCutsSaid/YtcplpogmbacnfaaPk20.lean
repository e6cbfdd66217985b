/-
  A part of the proof of this claim's statement (LmWE, LmWF, LibN, LmZA, LmXA, LmXB, LmXC): plain theorems; no conditions beyond those each names.
-/
import Derived.Test.YtcplpogmbacnfaaPk19
import Derived.Test.YtcplpogmbacnfaaPk14
import Derived.Test.YtcplpogmbacnfaaPk06
import Derived.Test.YtcplpogmbacnfaaPk05
import Derived.HandedShaped
import Derived.Shelf.Vars
import Derived.OpenShut
import Derived.Test.YtcplpogmbacnfaaRows
section
set_option maxRecDepth 100000
set_option linter.unusedSimpArgs false
set_option linter.unusedVariables false
namespace Go.Tk
theorem map_inj {α β : Type} {f : α → β} (h : ∀ x y, f x = f y → x = y) : ∀ {l l' : List α}, l.map f = l'.map f → l = l'
  | [], [], _ => rfl
  | [], _ :: _, e => by simp at e
  | _ :: _, [], e => by simp at e
  | a :: l, b :: l', e => by
    simp only [List.map_cons, List.cons.injEq] at e
    rw [h _ _ e.1, map_inj h e.2]
theorem faN_inj (a b : Fc) (h : faN a = faN b) : a = b := by
  obtain ⟨a1, a2⟩ := a
  obtain ⟨b1, b2⟩ := b
  simp only [faN, Prod.mk.injEq] at h
  have h1 : a1 = b1 := by omega
  have h2 : a2 = b2 := by omega
  rw [h1, h2]
theorem Nf.raw_inj (a b : Nf) (h : a.raw = b.raw) : a = b := by
  obtain ⟨a1, a2, a3, a4⟩ := a
  obtain ⟨b1, b2, b3, b4⟩ := b
  simp only [Nf.raw, Ef.mk.injEq] at h
  obtain ⟨h1, h2, h3, h4⟩ := h
  have h2 := map_inj faN_inj h2
  have h3 : a3 = b3 := by omega
  have h4 : a4 = b4 := by omega
  subst h1 h2 h3 h4
  rfl
theorem No.raw_inj (a b : No) (h : a.raw = b.raw) : a = b := by
  obtain ⟨a1, a2, a3, a4, a5, a6⟩ := a
  obtain ⟨b1, b2, b3, b4, b5, b6⟩ := b
  simp only [No.raw, Oq.mk.injEq] at h
  obtain ⟨h1, h2, h3, h4, h5, h6⟩ := h
  have h2 : a2 = b2 := by omega
  have h4 := map_inj faN_inj h4
  have h6 := map_inj Nf.raw_inj h6
  subst h1 h2 h3 h4 h5 h6
  rfl
theorem Nt.raw_inj (a b : Nt) (h : a.raw = b.raw) : a = b := by
  obtain ⟨a1, a2, a3, a4, a5, a6, a7, a8⟩ := a
  obtain ⟨b1, b2, b3, b4, b5, b6, b7, b8⟩ := b
  simp only [Nt.raw, Tk.mk.injEq] at h
  obtain ⟨h1, h2, h3, h4, h5, h6, h7, h8⟩ := h
  have hi : ∀ x y : Nat, iN x = iN y → x = y := fun x y h => by unfold iN at h; omega
  have h5 := map_inj hi h5
  have h6 := map_inj hi h6
  have h7 := map_inj faN_inj h7
  have h8 := map_inj No.raw_inj h8
  subst h1 h2 h3 h4 h5 h6 h7 h8
  rfl
end Go.Tk
namespace Go.Proofs.Ytcplpogmbacnfaa
open Go Go.W Go.Tk Go.Rx Go.Lm Go.Maps
theorem lnew_ok {w : World} (T : Nt) (hg : NtG T) (hgood : goodB T.raw = true) (hr : NtR w T) (hnm : ∀ o ∈ T.ops, o.name.size ≤ 9223372036854775807) :
    Calls Try.prog 12 [ntV T].toArray w fun e w' => ∃ x, e = .returned x ∧ ∃ b, x = .tuple #[.pointer (some ⟨b, 0, none⟩), .nilIface] ∧ Hrx b T w' ∧ Kp [] w w' := by
  refine Calls.mono (lnew_walk T.raw (NtR.raw.2 hr) (hg.lens hnm)) ?_
  rintro e w' ⟨x, rfl, hx, k⟩
  refine ⟨x, rfl, ?_⟩
  unfold HnA at hx
  rw [(chk_good T.raw).2 hgood] at hx
  obtain ⟨b, T', e, _, rfl, hh⟩ := hx
  have e := Nt.raw_inj _ _ e
  subst e
  exact ⟨b, rfl, hh, k⟩
theorem ex_good {vv nv gv ov e0 e1 : Cell1} : goodB (exT vv nv gv ov e0 e1).raw = true := by
  unfold goodB
  rfl
theorem ex_g {vv nv gv ov e0 e1 : Cell1} : NtG (exT vv nv gv ov e0 e1) := by
  obtain ⟨T, e, hg⟩ := good_nat (ex_good (vv := vv) (nv := nv) (gv := gv) (ov := ov) (e0 := e0) (e1 := e1))
  rw [← Nt.raw_inj _ _ e]
  exact hg
theorem ex_uns {vv nv gv ov e0 e1 : Cell1} : uns (exT vv nv gv ov e0 e1) (cst (exT vv nv gv ov e0 e1) []) = E2 := rfl
theorem ex_cst {vv nv gv ov e0 e1 : Cell1} : cst (exT vv nv gv ov e0 e1) [] = cE 2 3 := by
  funext i
  match i with
  | 0 => rfl
  | 1 => rfl
  | i + 2 => rfl
theorem two_map {α β : Type} {f : α → β} {p q : β} : ∀ l : List α, l.map f = [p, q] → ∃ a b, l = [a, b] ∧ f a = p ∧ f b = q
  | [a, b], h => by simp only [List.map_cons, List.map_nil, List.cons.injEq, and_true] at h; exact ⟨a, b, rfl, h.1, h.2⟩
  | [], h => by simp at h
  | [a], h => by simp at h
  | a :: b :: c :: l, h => by simp at h
set_option maxHeartbeats 1000000 in
theorem mawake_spec {w : World} : Calls Try.prog 11 [].toArray w fun e w' => ∃ x, e = .returned x ∧ x = .bool true ∧ Kp [] w w' := by
  refine enter Try.func11 mixed low11 (Nat.le_of_ble_eq_true rfl) ?_
  simp only [L11]
  simp
  refine cl_of example_spec ?_
  rintro _ w1 ⟨vv, nv, gv, ov, e0, e1, rfl, hr, k1⟩
  simp
  refine cl_of (lnew_ok _ ex_g ex_good hr (fun o ho => ?_)) ?_
  · simp only [exT, List.mem_cons, List.not_mem_nil, or_false] at ho
    rcases ho with rfl | rfl <;> exact (by decide : ByteArray.empty.size ≤ 9223372036854775807)
  rintro _ w2 ⟨b, rfl, hR, k2⟩
  have h3 := (At.start rfl : At w2 [] Emp w2).lit (xs := [0, 0]) (enc := nE) (E := 3) (sz := 1) (cs := #[.int .i64 0, .int .i64 0]) (m := 2) .emp (by simp [nE]) nE_len (by simp [maxLen]) rfl
  obtain ⟨sv, hsv⟩ : ∃ sv, sv = Value.slice (some ⟨w2.heap.size, 0, none⟩) 2 2 := ⟨_, rfl⟩
  obtain ⟨w3, hw3⟩ : ∃ w3, w3 = w2.alloc (.cells #[.int .i64 0, .int .i64 0] 3) := ⟨_, rfl⟩
  rw [← hsv, ← hw3] at h3
  have hst : StN (exT vv nv gv ov e0 e1).vars [0, 0] := ⟨rfl, fun v hv => by
    have : v < 2 := hv
    have : v = 0 ∨ v = 1 := by omega
    rcases this with rfl | rfl <;> simp [exT]⟩
  have hst1 : StN (exT vv nv gv ov e0 e1).vars [1, 1] := ⟨rfl, fun v hv => by
    have : v < 2 := hv
    have : v = 0 ∨ v = 1 := by omega
    rcases this with rfl | rfl <;> simp [exT]⟩
  simp [rowOf, ← hsv, ← hw3]
  refine cl_of (hx_cuts sv [0, 0] (hR.kp h3.kp) ex_g h3.own.vw hst) ?_
  rintro x w4 ⟨⟨r, hr4, hx⟩, k4⟩
  rw [ex_uns, ex_cst] at hr4
  have hr4 := hr4.uniq ex_cuts
  subst hr4
  obtain ⟨v, rfl, cs, hcs, hv, hvs⟩ := hx
  obtain ⟨c0, c1, rfl, h0, h1⟩ := two_map cs hcs
  have hw0 := hvs c0 (by simp)
  have z1 : c0.ops = [1] := congrArg Prod.fst h0
  have z2 : c0.cost = 3 := congrArg Prod.snd h0
  have z3 : c1.cost = 2 := congrArg Prod.snd h1
  rw [z1] at hw0
  have ec0 := hv.fld ctE_len (k := 0) (x := c0) rfl (o := 1) rfl
  have ec1 := hv.fld ctE_len (k := 1) (x := c1) rfl (o := 1) rfl
  have ec2 := hv.fld ctE_len (k := 0) (x := c0) rfl (o := 0) rfl
  rw [z2] at ec0
  rw [z3] at ec1
  have hk := (k1.trans k2).trans0 (h3.kp.trans0 k4)
  have h5 := (At.start rfl : At w4 [] Emp w4).lit (xs := [1]) (enc := nE) (E := 3) (sz := 1) (cs := #[.int .i64 1]) (m := 1) .emp (by simp [nE]) nE_len (by simp [maxLen]) rfl
  simp (disch := simp) [hv.len, hv.idx, ec0, ec1, ec2]
  refine cl_of (ints_spec _ _ _ _ (ints_vw (hw0.kp0 h5.kp)) (ints_vw h5.own.vw) (by simp) (by simp)) ?_
  rintro _ w6 ⟨rfl, k6⟩
  have k46 := h5.kp.trans k6
  have ec3 := (hv.kp0 k46).fld ctE_len (k := 1) (x := c1) rfl (o := 1) rfl
  rw [z3] at ec3
  simp (disch := simp) [(hv.kp0 k46).len, (hv.kp0 k46).idx, ec3, rowOf]
  have h7 := (At.start rfl : At w6 [] Emp w6).lit (xs := [0, 0]) (enc := nE) (E := 3) (sz := 1) (cs := #[.int .i64 0, .int .i64 0]) (m := 2) .emp (by simp [nE]) nE_len (by simp [maxLen]) rfl
  have hR6 := (hR.kp (h3.kp.trans k4)).kp (k46.trans h7.kp)
  refine cl_of (hx_value _ [0, 0] hR6 ex_g h7.own.vw hst) ?_
  rintro _ w8 ⟨⟨r, hr8, rfl⟩, k8⟩
  rw [ex_uns, ex_cst] at hr8
  have hr8 := hr8.uniq ex_cuts
  subst hr8
  simp [sumM, rowOf]
  have h9 := (At.start rfl : At w8 [] Emp w8).lit (xs := [1, 1]) (enc := nE) (E := 3) (sz := 1) (cs := #[.int .i64 1, .int .i64 1]) (m := 2) .emp (by simp [nE]) nE_len (by simp [maxLen]) rfl
  refine cl_of (hx_value _ [1, 1] (hR6.kp (k8.trans h9.kp)) ex_g h9.own.vw hst1) ?_
  rintro _ w10 ⟨⟨r, hr10, rfl⟩, k10⟩
  rw [ex_uns] at hr10
  have hr10 := hr10.uniq ex_done
  subst hr10
  simp [sumM]
  exact hk.trans (k46.trans (h7.kp.trans (k8.trans (h9.kp.trans k10))))
end Go.Proofs.Ytcplpogmbacnfaa
end
section
set_option maxRecDepth 100000
set_option linter.unusedSimpArgs false
set_option linter.unusedVariables false
namespace Go.Proofs.Ytcplpogmbacnfaa
open Go Go.W Go.Tk Go.Rx Go.Lm Go.Maps
theorem is_errs (c k : Int) (w : World) : Calls Try.prog 16 [errV c, .int .i64 k].toArray w fun e w' => ∃ x, e = .returned x ∧ x = .bool (decide (c = k)) ∧ Kp [] w w' := by
  refine enter Try.func16 mixed low16 (Nat.le_of_ble_eq_true rfl) ?_
  simp only [L16]
  have hn := num_err c w
  unfold errV at hn
  simp [errV]
  refine cl_of hn ?_
  rintro _ w2 ⟨rfl, k2⟩
  simp
  refine ⟨?_, k2⟩
  by_cases h : c = k <;> simp [h]
end Go.Proofs.Ytcplpogmbacnfaa
end
section
set_option linter.unusedVariables false
set_option linter.unusedSimpArgs false
namespace Go.W
open Go Go.ChangeShapes Go.WideShapes Go.ChangeAt Go.RowKit Go.Deep
section
variable {H : Type} {enc : TypeId × Value → H} {P : Program}
/-- A slice in the input, by its elements. -/
theorem el_vw {α : Type} {encα : α → List Value} {ok : α → Prop} {W : World} {t e : TypeId} {sz : Nat} {v : Value} {fu : Nat} {x : DataW H × List MemPlace} (ht : P.underlying t = some (.slice e)) (hC : P.cellsOf e = sz) (hz : 0 < sz) (he : ∀ x, (encα x).length = sz)
    (hel : ∀ n cs x, cs.length = sz → DataW.trod enc P W 0 (fun _ => true) true n e cs = some x → ∃ a, cs = encα a ∧ ok a) 
    (h : DataW.trod enc P W 0 (fun _ => true) true fu t [v] = some x) :
    ∃ l : List α, Vw W v encα l ∧ (∀ a ∈ l, ok a) ∧ l.length ≤ maxLen := by
  rcases open_slice ht h with ⟨hcs, hx⟩ | ⟨a, len, cap, m, n, D, Pl, hcs, hb, hl, hm, hmm, hx, hi⟩
  · simp at hcs
    subst hcs
    exact ⟨[], Vw.nil _ _, by simp, by simp⟩
  · simp at hcs
    subst hcs
    simp only [if_true] at hmm
    subst hmm
    obtain ⟨n0, hn0⟩ : ∃ n0, n0 = len := ⟨_, rfl⟩
    rw [← hn0] at hl ⊢
    have key : ∀ k, k ≤ m → ∃ l : List α, l.length = k ∧ (∀ x ∈ l, ok x) ∧ ∀ j u, (l.flatMap encα)[j]? = some u → W.cell? (a.add j) = some u := by
      intro k
      induction k with
      | zero => exact fun _ => ⟨[], rfl, by simp, by simp⟩
      | succ k ih =>
        intro hk
        obtain ⟨l, hll, ho, hc⟩ := ih (by omega)
        obtain ⟨cs, hcs, htr⟩ := hi k (by omega)
        rw [hC] at hcs
        obtain ⟨_, hlen, hat⟩ := World.cells?_some hcs
        obtain ⟨x, rfl, hox⟩ := hel _ _ _ hlen htr
        refine ⟨l ++ [x], by simp [hll], ?_, ?_⟩
        · intro y hy
          rcases List.mem_append.1 hy with h1 | h1
          · exact ho y h1
          · simp at h1; subst h1; exact hox
        · intro j u hj
          rw [List.flatMap_append, List.flatMap_cons, List.flatMap_nil, List.append_nil] at hj
          have hfl := flatMap_len he l
          rw [hll] at hfl
          by_cases hjl : j < k * sz
          · rw [List.getElem?_append_left (by omega)] at hj
            exact hc j u hj
          · rw [List.getElem?_append_right (by omega), hfl] at hj
            have hjs : j - k * sz < sz := by have h9 := (List.getElem?_eq_some_iff.1 hj).1; rw [he x] at h9; exact h9
            have := hat (j - k * sz) hjs
            rw [Go.Deep.add_add, show k * sz + (j - k * sz) = j by omega] at this
            rw [this]; exact hj
    obtain ⟨l, hll, ho, hc⟩ := key m (Nat.le_refl _)
    have hvw : Vw W (.slice (some a) n0 m) encα (l.take n0) := by
      have hlen : (l.take n0).length = n0 := by simp; omega
      refine .inr ⟨a, m, by rw [hlen], by omega, fun hne => ?_, fun j u hj => hc j u ?_⟩
      · have hn0 : 0 < n0 := by
          rcases Nat.eq_zero_or_pos n0 with h0 | h0
          · subst h0; simp at hne
          · exact h0
        obtain ⟨cs, hcs, _⟩ := hi 0 (by omega)
        rw [hC] at hcs
        obtain ⟨_, hlen', hat⟩ := World.cells?_some hcs
        have h1 := hat 0 hz
        rw [List.getElem?_eq_getElem (by omega)] at h1
        have := World.cell?_spot h1
        rw [Go.Deep.add_add] at this
        simp at this
        simpa [Addr.add] using this
      · have : l.flatMap encα = (l.take n0).flatMap encα ++ (l.drop n0).flatMap encα := by rw [← List.flatMap_append, List.take_append_drop]
        rw [this, List.getElem?_append_left (List.getElem?_eq_some_iff.1 hj).1]
        exact hj
    exact ⟨_, hvw, fun x hx => ho x (List.mem_of_mem_take hx), by rw [List.length_take]; omega⟩
end
end Go.W
end
section
set_option maxRecDepth 100000
set_option linter.unusedSimpArgs false
set_option linter.unusedVariables false
namespace Go.Proofs.Ytcplpogmbacnfaa
open Go Go.W Go.Tk Go.Rx Go.Lm Go.ChangeShapes Go.WideShapes Go.ChangeAt Go.RowKit
theorem own : ownKnob Try.prog.godebug = none := by kernel_rfl
theorem laidOut : laidOutB Try.prog = true := by kernel_rfl
section
variable {H : Type} {enc : TypeId × Value → H}
theorem el_int {W : World} (n : Nat) (cs : List Value) (x : DataW H × List MemPlace) (hl : cs.length = 1) (h : DataW.trod enc Try.prog W 0 (fun _ => true) true n 3 cs = some x) : ∃ a : Int, cs = iE a ∧ zok a := by
  obtain ⟨a, ha, _, wa⟩ := DataW.trod_int Try.underlying3 h
  have h1 : IntKind.i64.min = -9223372036854775808 := rfl
  have h2 : IntKind.i64.max = 9223372036854775807 := rfl
  simp only [Lit.wf, Bool.and_eq_true, decide_eq_true_eq] at wa
  exact ⟨a, ha, by unfold zok; omega⟩
theorem el_fact {W : World} (n : Nat) (cs : List Value) (x : DataW H × List MemPlace) (hl : cs.length = 2) (h : DataW.trod enc Try.prog W 0 (fun _ => true) true n 58 cs = some x) : ∃ a : Fa, cs = faE a ∧ True := by
  obtain ⟨xs, m, rfl, _, _, hxl, hg⟩ := DataW.trod_struct Try.underlying58 h
  have hc : Try.prog.cellsOf 3 = 1 := by kernel_rfl
  match cs, hl with
  | [u, v], _ =>
    have hx2 : xs.length = 2 := hxl
    have h0 := hg 0 _ rfl
    have h1 := hg 1 _ rfl
    rw [List.getElem?_eq_getElem (by omega)] at h0 h1
    obtain ⟨a, ha, _, wa⟩ := DataW.trod_int Try.underlying3 h0
    obtain ⟨b, hb, _, wb⟩ := DataW.trod_int Try.underlying3 h1
    replace ha : List.take (Try.prog.cellsOf 3) [u, v] = [.int .i64 a] := ha
    replace hb : List.take (Try.prog.cellsOf 3) [v] = [.int .i64 b] := hb
    rw [hc] at ha hb
    simp at ha hb
    subst ha hb
    exact ⟨(a, b), rfl, trivial⟩
theorem el_facts {W : World} {n : Nat} {c : Value} {x : DataW H × List MemPlace} (h : DataW.trod enc Try.prog W 0 (fun _ => true) true n 23 [c] = some x) : ∃ l : List Fa, Vw W c faE l ∧ l.length ≤ maxLen := by
  obtain ⟨l, h1, _, h2⟩ := el_vw (encα := faE) (ok := fun _ => True) (sz := 2) Try.underlying23 (by kernel_rfl) (by omega) faE_len el_fact h
  exact ⟨l, h1, h2⟩
theorem el_ints {W : World} {n : Nat} {c : Value} {x : DataW H × List MemPlace} (h : DataW.trod enc Try.prog W 0 (fun _ => true) true n 22 [c] = some x) : ∃ l : List Int, Vw W c iE l ∧ (∀ z ∈ l, zok z) ∧ l.length ≤ maxLen :=
  el_vw (encα := iE) (ok := zok) (sz := 1) Try.underlying22 (by kernel_rfl) (by omega) iE_len el_int h
theorem el_eff {W : World} (n : Nat) (cs : List Value) (x : DataW H × List MemPlace) (hl : cs.length = 3) (h : DataW.trod enc Try.prog W 0 (fun _ => true) true n 60 cs = some x) : ∃ e : Ef, cs = efE e ∧ (Vw W e.wv.1 faE e.cnd ∧ e.cnd.length ≤ maxLen) := by
  obtain ⟨xs, m, rfl, _, _, hxl, hg⟩ := DataW.trod_struct Try.underlying60 h
  have hc : Try.prog.cellsOf 3 = 1 := by kernel_rfl
  have hf : Try.prog.cellsOf 23 = 1 := by kernel_rfl
  match cs, hl with
  | [u, v, w], _ =>
    have hx2 : xs.length = 3 := hxl
    have h0 := hg 0 _ rfl
    have h1 := hg 1 _ rfl
    have h2 := hg 2 _ rfl
    rw [List.getElem?_eq_getElem (by omega)] at h0 h1 h2
    replace h0 : DataW.trod enc Try.prog W 0 (fun _ => true) true m 23 (List.take (Try.prog.cellsOf 23) [u, v, w]) = _ := h0
    rw [hf] at h0
    simp only [List.take_succ_cons, List.take_zero] at h0
    obtain ⟨l, hv, hlen⟩ := el_facts h0
    obtain ⟨a, ha, _, wa⟩ := DataW.trod_int Try.underlying3 h1
    obtain ⟨b, hb, _, wb⟩ := DataW.trod_int Try.underlying3 h2
    replace ha : List.take (Try.prog.cellsOf 3) [v, w] = [.int .i64 a] := ha
    replace hb : List.take (Try.prog.cellsOf 3) [w] = [.int .i64 b] := hb
    rw [hc] at ha hb
    simp at ha hb
    subst ha hb
    exact ⟨⟨⟨u, hv.o1⟩, l, a, b⟩, rfl, hv, hlen⟩
theorem el_op {W : World} (n : Nat) (cs : List Value) (x : DataW H × List MemPlace) (hl : cs.length = 4) (h : DataW.trod enc Try.prog W 0 (fun _ => true) true n 51 cs = some x) : ∃ o : Oq, cs = oqE o ∧ (OqR W o ∧ o.name.size ≤ maxLen ∧ o.pre.length ≤ maxLen ∧ o.effs.length ≤ maxLen ∧ ∀ e ∈ o.effs, e.cnd.length ≤ maxLen) := by
  obtain ⟨xs, m, rfl, _, _, hxl, hg⟩ := DataW.trod_struct Try.underlying51 h
  have hs : Try.prog.cellsOf 9 = 1 := by kernel_rfl
  have hc : Try.prog.cellsOf 3 = 1 := by kernel_rfl
  have hf : Try.prog.cellsOf 23 = 1 := by kernel_rfl
  have he : Try.prog.cellsOf 49 = 1 := by kernel_rfl
  match cs, hl with
  | [u, v, w, z], _ =>
    have hx2 : xs.length = 4 := hxl
    have h0 := hg 0 _ rfl
    have h1 := hg 1 _ rfl
    have h2 := hg 2 _ rfl
    have h3 := hg 3 _ rfl
    rw [List.getElem?_eq_getElem (by omega)] at h0 h1 h2 h3
    obtain ⟨nm, hn, _, wn⟩ := DataW.trod_string Try.underlying9 h0
    obtain ⟨a, ha, _, wa⟩ := DataW.trod_int Try.underlying3 h1
    replace hn : List.take (Try.prog.cellsOf 9) [u, v, w, z] = [.string nm] := hn
    replace ha : List.take (Try.prog.cellsOf 3) [v, w, z] = [.int .i64 a] := ha
    replace h2 : DataW.trod enc Try.prog W 0 (fun _ => true) true m 23 (List.take (Try.prog.cellsOf 23) [w, z]) = _ := h2
    replace h3 : DataW.trod enc Try.prog W 0 (fun _ => true) true m 49 (List.take (Try.prog.cellsOf 49) [z]) = _ := h3
    rw [hs] at hn
    rw [hc] at ha
    rw [hf] at h2
    rw [he] at h3
    simp only [List.take_succ_cons, List.take_zero] at h2 h3
    simp at hn ha
    subst hn ha
    obtain ⟨pl, hp1, hp2⟩ := el_facts h2
    obtain ⟨el, he1, he2, he3⟩ := el_vw (encα := efE) (ok := fun e : Ef => Vw W e.wv.1 faE e.cnd ∧ e.cnd.length ≤ maxLen) (sz := 3) Try.underlying49 (by kernel_rfl) (by omega) efE_len el_eff h3
    exact ⟨⟨nm, a, ⟨w, hp1.o1⟩, pl, ⟨z, he1.o1⟩, el⟩, rfl, ⟨hp1, he1, fun e h => (he2 e h).1⟩, wn, hp2, he3, fun e h => (he2 e h).2⟩
theorem open_task {W : World} {b : Nat} {v : Value} {d : DataW H} {ps : List MemPlace} (hv : Value.okWide Try.prog W .any b 26 v) (h : DataW.Trod enc Try.prog W 0 (fun _ => true) true 26 v d ps) : ∃ t : Tk, v = tkV t ∧ TkR W t ∧ TkL t := by
  simp only [Value.okWide, Try.underlying26] at hv
  obtain ⟨cs, rfl, hcs, _⟩ := hv
  have h4 : Try.prog.cellsOf 26 = 4 := by kernel_rfl
  rw [h4] at hcs
  obtain ⟨n, h⟩ := h
  obtain ⟨xs, m, rfl, _, _, hxl, hg⟩ := DataW.trod_struct Try.underlying26 h
  have hc : Try.prog.cellsOf 22 = 1 := by kernel_rfl
  have hf : Try.prog.cellsOf 23 = 1 := by kernel_rfl
  have ho : Try.prog.cellsOf 24 = 1 := by kernel_rfl
  have hl : cs.toList.length = 4 := by simpa using hcs
  have e : (Value.agg cs).cells.toList = cs.toList := rfl
  rw [e] at hg
  match hcl : cs.toList, hl with
  | [u0, u1, u2, u3], _ =>
    rw [hcl] at hg
    have hx2 : xs.length = 4 := hxl
    have h0 := hg 0 _ rfl
    have h1 := hg 1 _ rfl
    have h2 := hg 2 _ rfl
    have h3 := hg 3 _ rfl
    rw [List.getElem?_eq_getElem (by omega)] at h0 h1 h2 h3
    replace h0 : DataW.trod enc Try.prog W 0 (fun _ => true) true m 22 (List.take (Try.prog.cellsOf 22) [u0, u1, u2, u3]) = _ := h0
    replace h1 : DataW.trod enc Try.prog W 0 (fun _ => true) true m 22 (List.take (Try.prog.cellsOf 22) [u1, u2, u3]) = _ := h1
    replace h2 : DataW.trod enc Try.prog W 0 (fun _ => true) true m 23 (List.take (Try.prog.cellsOf 23) [u2, u3]) = _ := h2
    replace h3 : DataW.trod enc Try.prog W 0 (fun _ => true) true m 24 (List.take (Try.prog.cellsOf 24) [u3]) = _ := h3
    rw [hc] at h0 h1
    rw [hf] at h2
    rw [ho] at h3
    simp only [List.take_succ_cons, List.take_zero] at h0 h1 h2 h3
    obtain ⟨vl, v1, _, v2⟩ := el_ints h0
    obtain ⟨nl, n1, _, n2⟩ := el_ints h1
    obtain ⟨gl, g1, g2⟩ := el_facts h2
    obtain ⟨ol, o1, o2, o3⟩ := el_vw (encα := oqE) (ok := fun o : Oq => OqR W o ∧ o.name.size ≤ maxLen ∧ o.pre.length ≤ maxLen ∧ o.effs.length ≤ maxLen ∧ ∀ e ∈ o.effs, e.cnd.length ≤ maxLen) (sz := 4) Try.underlying24 (by kernel_rfl) (by omega) oqE_len el_op h3
    have em : maxLen = 9223372036854775807 := rfl
    refine ⟨⟨⟨u0, v1.o1⟩, ⟨u1, n1.o1⟩, ⟨u2, g1.o1⟩, ⟨u3, o1.o1⟩, vl, nl, gl, ol⟩, ?_, ⟨v1, n1, g1, o1, fun o h => (o2 o h).1⟩, ⟨n2, g2, o3, v2, fun o h => (o2 o h).2⟩⟩
    have : cs = #[u0, u1, u2, u3] := by
      apply Array.toList_inj.1; rw [hcl]
    rw [this]; rfl
end
end Go.Proofs.Ytcplpogmbacnfaa
end
section
set_option maxRecDepth 100000
set_option linter.unusedSimpArgs false
set_option linter.unusedVariables false
namespace Go.Proofs.Ytcplpogmbacnfaa
open Go Go.W Go.Tk Go.Rx Go.Lm Go.Maps
theorem eq_fact (a b c d : Int) (w : World) : (Op.equalIn 10000 58 (.agg #[.int .i64 a, .int .i64 b]) (.agg #[.int .i64 c, .int .i64 d])).run Try.prog w = .ok (a == c && b == d) w := by
  have u3 := Try.underlying3
  have a3 := Try.isAgg3
  have z3 := Try.sizeOf3
  have hS : Try.prog.underlying 58 = some (.struct (Try.prog.fieldsOf 58)) := by kernel_rfl
  rw [show (10000 : Nat) = 9999 + 1 from rfl, run_equalIn_agg w 9999 58 _ _ hS (by kernel_rfl)]
  simp only [Program.fieldsOf, Try.underlying58]
  go_simp
  by_cases h1 : a = c <;> by_cases h2 : b = d <;> simp [h1, h2]
theorem in_spec {w : World} (fv : Value) (l : List Fc) (f : Fc) (hf : Vw w fv fcE l) (hl : l.length ≤ 1000000) :
    Calls Try.prog 42 [fv, faV (faN f)].toArray w fun e w' => ∃ x, e = .returned x ∧ x = .bool (decide (f ∈ l)) ∧ Kp [] w w' := by
  refine enter Try.func42 mixed low42 (Nat.le_of_ble_eq_true rfl) ?_
  simp only [L42]
  obtain ⟨ab, hab⟩ : ∃ ab, ab = w.heap.size := ⟨_, rfl⟩
  obtain ⟨w1, hw1⟩ : ∃ w1, w1 = w.alloc (faO (faN f)) := ⟨_, rfl⟩
  have k1 : Kp [] w w1 := by rw [hw1]; exact (Kp.refl [] w).alloc _
  have hw1' : w.alloc (.cells #[.int .i64 (f.1 : Nat), .int .i64 (f.2 : Nat)] 58 (0, 0)) = w1 := by rw [hw1]; rfl
  have oa1 : w1.heap[ab]? = some (faO (faN f)) := by rw [hab, hw1]; exact alloc_new
  simp only [faO, faN] at oa1
  simp [faV, faN, ← hab, hw1', hf.len]
  refine range_loop (n := l.length) (by omega) (fun k ρ w' => ρ 3 = .pointer (some ⟨ab, 0, none⟩) ∧ ρ 7 = fv ∧ f ∉ l.take k ∧ Kp [] w1 w') (by simp) (by simp)
    ⟨by simp, by simp, by simp, Kp.refl _ _⟩ (by decide) (fun _ _ _ _ h => by simpa using h) (fun _ _ _ _ h => by simpa using h) ?_ ?_
  rotate_left
  · rintro ρ w2 ⟨_, _, hn, k2⟩
    rw [List.take_length] at hn
    simp [hn]
    exact k1.trans k2
  rintro k ρ w2 hk hck hlk ⟨g3, g7, hn, k2⟩
  have hf2 := (hf.kp0 k1).kp0 k2
  obtain ⟨x, hx⟩ : ∃ x, l[k]? = some x := ⟨_, List.getElem?_eq_getElem hk⟩
  have ec := hf2.cells fcE_len hx
  simp only [fcE] at ec
  obtain ⟨xb, hxb⟩ : ∃ xb, xb = w2.heap.size := ⟨_, rfl⟩
  have hki : (k : Int) < l.length := by omega
  simp (disch := omega) [g7, hck, hlk, hf2.idx, ec, ← hxb]
  refine st_fa (f := faN x) .emp (At.start (w := w2) rfl) hxb fun w3 h3 => ?_
  have ox3 := h3.obj
  simp only [faN, faO] at ox3
  have k3 := k2.trans h3.kp
  have oa3 := k3.blk oa1 (by simp)
  have cx : cellsAt w3 ⟨xb, 0, none⟩ 0 2 = some [.int .i64 (x.1 : Nat), .int .i64 (x.2 : Nat)] := by simp [cellsAt, Addr.add, cell_blk ox3]
  have ca : cellsAt w3 ⟨ab, 0, none⟩ 0 2 = some [.int .i64 (f.1 : Nat), .int .i64 (f.2 : Nat)] := by simp [cellsAt, Addr.add, cell_blk oa3]
  simp [g3, ← hxb, cx, ca]
  have eq1 : ((x.1 : Int) == (f.1 : Nat) && (x.2 : Int) == (f.2 : Nat)) = decide (x = f) := by
    obtain ⟨x1, x2⟩ := x
    obtain ⟨f1, f2⟩ := f
    rw [Bool.eq_iff_iff]
    simp only [Bool.and_eq_true, beq_iff_eq, decide_eq_true_eq, Prod.mk.injEq]
    omega
  refine rd_mk (v := .bool (decide (x = f))) (fun w' _ => by simp only [Sem.run_bind, run_eqGuard_agg w' _ _ _ _ _ _ (by kernel_rfl : Try.prog.eqGuardType Try.prog.depth 58 = false), Result.andThen_ok, run_eql_struct, eq_fact, eq1]) ?_
  by_cases h : x = f
  · subst h
    simp [List.mem_of_getElem? hx]
    exact k1.trans k3
  · simp [h, g7, g3, hck, hlk]
    rw [take_snoc hx, List.mem_append]
    refine ⟨fun h1 => h1.elim hn (fun h2 => h (List.mem_singleton.1 h2).symm), k3⟩
end Go.Proofs.Ytcplpogmbacnfaa
end
section
set_option maxRecDepth 100000
set_option linter.unusedSimpArgs false
set_option linter.unusedVariables false
namespace Go.Rx
open Go Go.W Go.Tk
/-- The order of the numbers is the order of the facts. -/
theorem numF_lex {vars : List Nat} {f g : Fc} (h1 : f.1 < vars.length) (h2 : f.2 < vars.getD f.1 0) (k1 : g.1 < vars.length) (k2 : g.2 < vars.getD g.1 0) : numF vars f < numF vars g ↔ f.1 < g.1 ∨ (f.1 = g.1 ∧ f.2 < g.2) := by
  have key : ∀ {f g : Fc}, f.1 < vars.length → f.2 < vars.getD f.1 0 → f.1 < g.1 → numF vars f < numF vars g := fun {f g} h1 h2 hlt => by
    obtain ⟨n, hn⟩ : ∃ n, vars[f.1]? = some n := ⟨_, List.getElem?_eq_getElem h1⟩
    have e : vars.getD f.1 0 = n := by simp [List.getD, hn]
    have h3 := psum_succ hn
    have h4 := psum_mono (vars := vars) (show f.1 + 1 ≤ g.1 by omega)
    unfold numF
    omega
  rcases Nat.lt_trichotomy f.1 g.1 with hl | he | hl
  · have := key h1 h2 hl; omega
  · unfold numF
    rw [he]
    omega
  · have := key k1 k2 hl; omega
end Go.Rx
namespace Go.Proofs.Ytcplpogmbacnfaa
open Go Go.W Go.Tk Go.Rx Go.Lm Go.Maps
/-- The walk's comparison. -/
def btF (vars : List Nat) (V : Nat → Nat) (x f : Fc) : Bool := decide (V (numF vars f) < V (numF vars x)) || (decide (V (numF vars x) = V (numF vars f)) && (decide (x.1 < f.1) || (decide (x.1 = f.1) && decide (x.2 < f.2))))
theorem btF_eq {vars : List Nat} {V : Nat → Nat} {x f : Fc} (h1 : x.1 < vars.length) (h2 : x.2 < vars.getD x.1 0) (k1 : f.1 < vars.length) (k2 : f.2 < vars.getD f.1 0) : btF vars V x f = btr V (numF vars x) (numF vars f) := by
  have := numF_lex h1 h2 k1 k2
  unfold btF btr
  rw [Bool.eq_iff_iff]
  simp only [Bool.or_eq_true, Bool.and_eq_true, decide_eq_true_eq, this]
/-- What has been found after k facts. -/
def BeG (vars : List Nat) (V : Nat → Nat) (l : List Fc) (k : Nat) (f : Fc) : Prop := f ∈ l ∧ ((k = 0 ∧ l[0]? = some f) ∨ gst V ((l.take k).map (numF vars)) = some (numF vars f))
theorem BeG.step {vars : List Nat} {V : Nat → Nat} {l : List Fc} {k : Nat} {f x : Fc} (h : BeG vars V l k f) (hr : FcRng vars l) (hx : l[k]? = some x) : BeG vars V l (k + 1) (if btF vars V x f = true then x else f) := by
  have hxm := List.mem_of_getElem? hx
  obtain ⟨x1, x2⟩ := hr x hxm
  obtain ⟨f1, f2⟩ := hr f h.1
  refine ⟨by split; exact hxm; exact h.1, .inr ?_⟩
  rw [take_snoc hx, List.map_append, List.map_singleton, gst_snoc]
  rcases h.2 with ⟨rfl, h0⟩ | h1
  · rw [h0] at hx
    cases hx
    simp [gst, gStep]
  · rw [h1, btF_eq x1 x2 f1 f2]
    show (if btr V (numF vars x) (numF vars f) = true then some (numF vars x) else some (numF vars f)) = _
    split <;> rfl
set_option maxHeartbeats 1000000 in
theorem cgreatest_spec {w : World} (tv fv : Value) (vars : List Nat) (V : Nat → Nat) (l : List Fc) (ht : LLV iE w tv (tbI vars fun f => (V f : Int))) (hf : Vw w fv fcE l) (hl : l.length ≤ 1000000) (hr : FcRng vars l) (hne : l ≠ []) :
    Calls Try.prog 40 [tv, fv].toArray w fun e w' => ∃ x, e = .returned x ∧ ∃ f, f ∈ l ∧ x = faV (faN f) ∧ gst V (l.map (numF vars)) = some (numF vars f) ∧ Kp [] w w' := by
  refine enter Try.func40 mixed low40 (Nat.le_of_ble_eq_true rfl) ?_
  simp only [L40]
  obtain ⟨tp, htl, htv, htr⟩ := ht.tb
  obtain ⟨f0, hf0⟩ : ∃ f, l[0]? = some f := ⟨_, List.getElem?_eq_getElem (List.length_pos_iff.2 hne)⟩
  have hpos : (0 : Int) < l.length := by have := List.length_pos_iff.2 hne; omega
  obtain ⟨rb, hrb⟩ : ∃ rb, rb = w.heap.size := ⟨_, rfl⟩
  obtain ⟨w1, hw1⟩ : ∃ w1, w1 = w.alloc (.cells #[.int .i64 0, .int .i64 0] 58 (0, 0)) := ⟨_, rfl⟩
  have h1 : At w [] (Star (ObjA rb (.cells #[.int .i64 0, .int .i64 0] 58 (0, 0))) Emp) w1 := by rw [hrb, hw1]; exact (At.start rfl).alloc _ .emp
  have hf1 := hf.kp0 h1.kp
  have ec := hf1.cells fcE_len hf0
  simp only [fcE] at ec
  obtain ⟨gb, hgb⟩ : ∃ gb, gb = w1.heap.size := ⟨_, rfl⟩
  simp (disch := omega) [← hrb, ← hw1, hf1.idx, ec, ← hgb]
  refine st_fa (f := faN f0) (Lcl.obj.star .emp) h1 hgb fun w2 h2 => ?_
  simp [hf.len]
  refine range_loop (n := l.length) (by omega) (fun k ρ w' => ρ 0 = tv ∧ ρ 4 = .pointer (some ⟨rb, 0, none⟩) ∧ ρ 5 = .pointer (some ⟨gb, 0, none⟩) ∧ ρ 13 = fv ∧ ∃ f, BeG vars V l k f ∧ At w [] (Star (ObjA gb (faO (faN f))) (Star (ObjA rb (.cells #[.int .i64 0, .int .i64 0] 58 (0, 0))) Emp)) w') (by simp) (by simp)
    ⟨by simp, by simp, by simp, by simp, f0, ⟨List.mem_of_getElem? hf0, .inl ⟨rfl, hf0⟩⟩, h2⟩ (by decide) (fun _ _ _ _ h => by simpa using h) (fun _ _ _ _ h => by simpa using h) ?_ ?_
  rotate_left
  · rintro ρ w3 ⟨g0, g4, g5, g13, f, hB, h3⟩
    have og := h3.obj
    simp only [faO, faN] at og
    have cg : cellsAt w3 ⟨gb, 0, none⟩ 0 2 = some [.int .i64 (f.1 : Nat), .int .i64 (f.2 : Nat)] := by simp [cellsAt, Addr.add, cell_blk og]
    simp [g4, g5, cg]
    refine (h3.by Imp.fr2).st (Lcl.obj.star .emp) (by simp) (by simp) fun w4 h4 => ?_
    simp
    refine postL_c1 ag_58 (by simp [g4]) h4.obj (by simp) rfl ?_
    refine ⟨_, rfl, f.1, f.2, hB.1, by simp [faV, faN], ?_, h4.kp⟩
    rcases hB.2 with ⟨h0, _⟩ | h0
    · exact absurd (List.length_eq_zero_iff.1 h0) hne
    · rwa [List.take_length] at h0
  rintro k ρ w3 hk hck hlk ⟨g0, g4, g5, g13, f, hB, h3⟩
  obtain ⟨x, hx⟩ : ∃ x, l[k]? = some x := ⟨_, List.getElem?_eq_getElem hk⟩
  have hBs := hB.step hr hx
  obtain ⟨x1, x2⟩ := hr x (List.mem_of_getElem? hx)
  obtain ⟨f1, f2⟩ := hr f hB.1
  have hf3 := hf.kp0 h3.kp
  have ecx := hf3.cells fcE_len hx
  simp only [fcE] at ecx
  obtain ⟨xb, hxb⟩ : ∃ xb, xb = w3.heap.size := ⟨_, rfl⟩
  have hki : (k : Int) < l.length := by omega
  simp (disch := omega) [g13, hck, hlk, hf3.idx, ecx, ← hxb]
  refine st_fa (f := faN x) (Lcl.obj.star (Lcl.obj.star .emp)) h3 hxb fun w4 h4 => ?_
  have ox := h4.obj
  have og := h4.drop.obj
  simp only [faO, faN] at ox og
  have htv4 := htv.kp0 h4.kp
  obtain ⟨p, hp⟩ : ∃ p, tp[x.1]? = some p := ⟨_, List.getElem?_eq_getElem (by omega)⟩
  obtain ⟨q, hq⟩ : ∃ q, tp[f.1]? = some q := ⟨_, List.getElem?_eq_getElem (by omega)⟩
  have hrx := (htr _ p hp).kp0 h4.kp
  have hrf := (htr _ q hq).kp0 h4.kp
  have ep : w4.cell? (tv.adr.add x.1) = some p.1.1 := by simpa using htv4.at_ sv1_len hp (o := 0) (u := p.1.1) rfl
  have eq : w4.cell? (tv.adr.add f.1) = some q.1.1 := by simpa using htv4.at_ sv1_len hq (o := 0) (u := q.1.1) rfl
  have hxx := rwI_at (g := fun f => (V f : Int)) x2
  have hff := rwI_at (g := fun f => (V f : Int)) f2
  have x1i : (x.1 : Int) < tp.length := by omega
  have f1i : (f.1 : Int) < tp.length := by omega
  have x2i : (x.2 : Int) < (rwI vars (fun f => (V f : Int)) x.1).length := by rw [rwI_len]; omega
  have f2i : (f.2 : Int) < (rwI vars (fun f => (V f : Int)) f.1).length := by rw [rwI_len]; omega
  have cx : cellsAt w4 ⟨xb, 0, none⟩ 0 2 = some [.int .i64 (x.1 : Nat), .int .i64 (x.2 : Nat)] := by simp [cellsAt, Addr.add, cell_blk ox]
  have yes : btF vars V x f = true → ∃ f', BeG vars V l (k + 1) f' ∧ f' = x := fun hb => by rw [hb] at hBs; exact ⟨_, hBs, rfl⟩
  have no : btF vars V x f = false → BeG vars V l (k + 1) f := fun hb => by rw [hb] at hBs; exact hBs
  have eX : numF vars x = psum vars x.1 + x.2 := rfl
  have eF : numF vars f = psum vars f.1 + f.2 := rfl
  unfold btF at yes no
  rw [eX, eF] at yes no
  have h4d := h4.drew (Lcl.obj.star (Lcl.obj.star (Lcl.obj.star .emp)))
  simp only [faO, faN] at h4d
  by_cases c1 : V (psum vars f.1 + f.2) < V (psum vars x.1 + x.2)
  · obtain ⟨_, hy, rfl⟩ := yes (by simp [c1])
    simp (disch := omega) [g0, g5, cell_blk ox, cell_blk og, ← hxb, htv4.idx, ep, eq, hrx.idx, hrf.idx, iE_cell hrx hxx, iE_cell hrf hff, cx, c1]
    refine (h4d.by Imp.sw).st (Lcl.obj.star (Lcl.obj.star .emp)) (by simp) (by simp) fun w5 h5 => ?_
    simp [g0, g4, g5, g13, hck, hlk]
    exact ⟨_, _, hy, by simpa [faO, faN] using h5.by (Imp.un Imp.dr)⟩
  by_cases c2 : V (psum vars x.1 + x.2) = V (psum vars f.1 + f.2)
  · by_cases c3 : x.1 < f.1
    · obtain ⟨_, hy, rfl⟩ := yes (by simp [c1, c2, c3])
      simp (disch := omega) [g0, g5, cell_blk ox, cell_blk og, ← hxb, htv4.idx, ep, eq, hrx.idx, hrf.idx, iE_cell hrx hxx, iE_cell hrf hff, cx, c1, c2, c3]
      refine (h4d.by Imp.sw).st (Lcl.obj.star (Lcl.obj.star .emp)) (by simp) (by simp) fun w5 h5 => ?_
      simp [g0, g4, g5, g13, hck, hlk]
      exact ⟨_, _, hy, by simpa [faO, faN] using h5.by (Imp.un Imp.dr)⟩
    by_cases c4 : x.1 = f.1
    · have i4 : ((x.1 : Int) == (f.1 : Int)) = true := by simp [c4]
      have j4 : (x.1 == f.1) = true := by simp [c4]
      by_cases c5 : x.2 < f.2
      · obtain ⟨_, hy, rfl⟩ := yes (by rw [decide_eq_false c1, decide_eq_true c2, decide_eq_false c3, decide_eq_true c4, decide_eq_true c5]; rfl)
        simp (disch := omega) [g0, g5, cell_blk ox, cell_blk og, ← hxb, htv4.idx, ep, eq, hrx.idx, hrf.idx, iE_cell hrx hxx, iE_cell hrf hff, cx, c1, c2, c3, i4, j4, c5]
        refine (h4d.by Imp.sw).st (Lcl.obj.star (Lcl.obj.star .emp)) (by simp) (by simp) fun w5 h5 => ?_
        simp [g0, g4, g5, g13, hck, hlk]
        exact ⟨_, _, hy, by simpa [faO, faN] using h5.by (Imp.un Imp.dr)⟩
      · have hy := no (by rw [decide_eq_false c1, decide_eq_true c2, decide_eq_false c3, decide_eq_true c4, decide_eq_false c5]; rfl)
        simp (disch := omega) [g0, g5, cell_blk ox, cell_blk og, ← hxb, htv4.idx, ep, eq, hrx.idx, hrf.idx, iE_cell hrx hxx, iE_cell hrf hff, cx, c1, c2, c3, i4, j4, c5, g4, g13, hck, hlk]
        exact ⟨_, _, hy, by simpa [faO, faN] using h4d.drop⟩
    have i4 : ((x.1 : Int) == (f.1 : Int)) = false := by simp; omega
    have j4 : (x.1 == f.1) = false := by simp [c4]
    have hy := no (by rw [decide_eq_false c1, decide_eq_true c2, decide_eq_false c3, decide_eq_false c4]; rfl)
    simp (disch := omega) [g0, g5, cell_blk ox, cell_blk og, ← hxb, htv4.idx, ep, eq, hrx.idx, hrf.idx, iE_cell hrx hxx, iE_cell hrf hff, cx, c1, c2, c3, i4, j4, g4, g13, hck, hlk]
    exact ⟨_, _, hy, by simpa [faO, faN] using h4d.drop⟩
  · have i2 : (((V (psum vars x.1 + x.2) : Nat) : Int) == ((V (psum vars f.1 + f.2) : Nat) : Int)) = false := by simp; omega
    have hy := no (by simp [c1, c2])
    simp (disch := omega) [g0, g5, cell_blk ox, cell_blk og, ← hxb, htv4.idx, ep, eq, hrx.idx, hrf.idx, iE_cell hrx hxx, iE_cell hrf hff, cx, c1, c2, i2, g4, g13, hck, hlk]
    exact ⟨_, _, hy, by simpa [faO, faN] using h4d.drop⟩
end Go.Proofs.Ytcplpogmbacnfaa
end
section
set_option maxRecDepth 100000
set_option linter.unusedSimpArgs false
set_option linter.unusedVariables false
namespace Go.Proofs.Ytcplpogmbacnfaa
open Go Go.W Go.Tk Go.Rx Go.Lm Go.Maps
/-- An arc of the document, as it lies in memory. -/
structure Rc where
  st : Bool
  fr : Fc
  to : Fc
  op : Nat
def rcE (r : Rc) : List Value := [.bool r.st, .int .i64 (r.fr.1 : Nat), .int .i64 (r.fr.2 : Nat), .int .i64 (r.to.1 : Nat), .int .i64 (r.to.2 : Nat), .int .i64 (r.op : Nat)]
theorem rcE_len (r : Rc) : (rcE r).length = 6 := rfl
theorem rcE_one (r : Rc) : (rcE r).all oneC = true := rfl
/-- The arc in numbers. -/
def rcA (vars : List Nat) (r : Rc) : Ar := ⟨if r.st = true then none else some (numF vars r.fr), numF vars r.to, r.op⟩
/-- Its facts are facts. -/
def RcOk (vars : List Nat) (r : Rc) : Prop := (r.to.1 < vars.length ∧ r.to.2 < vars.getD r.to.1 0) ∧ (r.st = false → r.fr.1 < vars.length ∧ r.fr.2 < vars.getD r.fr.1 0)
end Go.Proofs.Ytcplpogmbacnfaa
end
