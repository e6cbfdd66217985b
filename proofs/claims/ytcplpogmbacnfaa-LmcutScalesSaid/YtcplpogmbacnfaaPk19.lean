/-
  A part of the proof of this claim's statement (LmWE, LibN, LmZA, LmYA, LmYB, LmYD): plain theorems; no conditions beyond those each names.
-/
import Derived.Test.YtcplpogmbacnfaaPk18
import Derived.Test.YtcplpogmbacnfaaPk13
import Derived.Test.YtcplpogmbacnfaaPk06
import Derived.Test.YtcplpogmbacnfaaPk05
import Derived.HandedShaped
import Derived.Shelf.Vars
import Derived.OpenShut
import Derived.Test.YtcplpogmbacnfaaRows
import Derived.Test.YtcplpogmbacnfaaPk14
section
set_option maxRecDepth 100000
set_option linter.unusedSimpArgs false
set_option linter.unusedVariables false
namespace Go.Tk
theorem map_inj {α β : Type} {f : α → β} (h : ∀ x y, f x = f y → x = y) : ∀ {l l' : List α}, l.map f = l'.map f → l = l'
  | [], [], _ => rfl
  | [], _ :: _, e => by simp at e
  | _ :: _, [], e => by simp at e
  | a :: l, b :: l', e => by
    simp only [List.map_cons, List.cons.injEq] at e
    rw [h _ _ e.1, map_inj h e.2]
theorem faN_inj (a b : Fc) (h : faN a = faN b) : a = b := by
  obtain ⟨a1, a2⟩ := a
  obtain ⟨b1, b2⟩ := b
  simp only [faN, Prod.mk.injEq] at h
  have h1 : a1 = b1 := by omega
  have h2 : a2 = b2 := by omega
  rw [h1, h2]
theorem Nf.raw_inj (a b : Nf) (h : a.raw = b.raw) : a = b := by
  obtain ⟨a1, a2, a3, a4⟩ := a
  obtain ⟨b1, b2, b3, b4⟩ := b
  simp only [Nf.raw, Ef.mk.injEq] at h
  obtain ⟨h1, h2, h3, h4⟩ := h
  have h2 := map_inj faN_inj h2
  have h3 : a3 = b3 := by omega
  have h4 : a4 = b4 := by omega
  subst h1 h2 h3 h4
  rfl
theorem No.raw_inj (a b : No) (h : a.raw = b.raw) : a = b := by
  obtain ⟨a1, a2, a3, a4, a5, a6⟩ := a
  obtain ⟨b1, b2, b3, b4, b5, b6⟩ := b
  simp only [No.raw, Oq.mk.injEq] at h
  obtain ⟨h1, h2, h3, h4, h5, h6⟩ := h
  have h2 : a2 = b2 := by omega
  have h4 := map_inj faN_inj h4
  have h6 := map_inj Nf.raw_inj h6
  subst h1 h2 h3 h4 h5 h6
  rfl
theorem Nt.raw_inj (a b : Nt) (h : a.raw = b.raw) : a = b := by
  obtain ⟨a1, a2, a3, a4, a5, a6, a7, a8⟩ := a
  obtain ⟨b1, b2, b3, b4, b5, b6, b7, b8⟩ := b
  simp only [Nt.raw, Tk.mk.injEq] at h
  obtain ⟨h1, h2, h3, h4, h5, h6, h7, h8⟩ := h
  have hi : ∀ x y : Nat, iN x = iN y → x = y := fun x y h => by unfold iN at h; omega
  have h5 := map_inj hi h5
  have h6 := map_inj hi h6
  have h7 := map_inj faN_inj h7
  have h8 := map_inj No.raw_inj h8
  subst h1 h2 h3 h4 h5 h6 h7 h8
  rfl
end Go.Tk
namespace Go.Proofs.Ytcplpogmbacnfaa
open Go Go.W Go.Tk Go.Rx Go.Lm Go.Maps
theorem lnew_ok {w : World} (T : Nt) (hg : NtG T) (hgood : goodB T.raw = true) (hr : NtR w T) (hnm : ∀ o ∈ T.ops, o.name.size ≤ 9223372036854775807) :
    Calls Try.prog 12 [ntV T].toArray w fun e w' => ∃ x, e = .returned x ∧ ∃ b, x = .tuple #[.pointer (some ⟨b, 0, none⟩), .nilIface] ∧ Hrx b T w' ∧ Kp [] w w' := by
  refine Calls.mono (lnew_walk T.raw (NtR.raw.2 hr) (hg.lens hnm)) ?_
  rintro e w' ⟨x, rfl, hx, k⟩
  refine ⟨x, rfl, ?_⟩
  unfold HnA at hx
  rw [(chk_good T.raw).2 hgood] at hx
  obtain ⟨b, T', e, _, rfl, hh⟩ := hx
  have e := Nt.raw_inj _ _ e
  subst e
  exact ⟨b, rfl, hh, k⟩
theorem ex_good {vv nv gv ov e0 e1 : Cell1} : goodB (exT vv nv gv ov e0 e1).raw = true := by
  unfold goodB
  rfl
theorem ex_g {vv nv gv ov e0 e1 : Cell1} : NtG (exT vv nv gv ov e0 e1) := by
  obtain ⟨T, e, hg⟩ := good_nat (ex_good (vv := vv) (nv := nv) (gv := gv) (ov := ov) (e0 := e0) (e1 := e1))
  rw [← Nt.raw_inj _ _ e]
  exact hg
theorem ex_uns {vv nv gv ov e0 e1 : Cell1} : uns (exT vv nv gv ov e0 e1) (cst (exT vv nv gv ov e0 e1) []) = E2 := rfl
theorem ex_cst {vv nv gv ov e0 e1 : Cell1} : cst (exT vv nv gv ov e0 e1) [] = cE 2 3 := by
  funext i
  match i with
  | 0 => rfl
  | 1 => rfl
  | i + 2 => rfl
theorem two_map {α β : Type} {f : α → β} {p q : β} : ∀ l : List α, l.map f = [p, q] → ∃ a b, l = [a, b] ∧ f a = p ∧ f b = q
  | [a, b], h => by simp only [List.map_cons, List.map_nil, List.cons.injEq, and_true] at h; exact ⟨a, b, rfl, h.1, h.2⟩
  | [], h => by simp at h
  | [a], h => by simp at h
  | a :: b :: c :: l, h => by simp at h
set_option maxHeartbeats 1000000 in
theorem mawake_spec {w : World} : Calls Try.prog 11 [].toArray w fun e w' => ∃ x, e = .returned x ∧ x = .bool true ∧ Kp [] w w' := by
  refine enter Try.func11 mixed low11 (Nat.le_of_ble_eq_true rfl) ?_
  simp only [L11]
  simp
  refine cl_of example_spec ?_
  rintro _ w1 ⟨vv, nv, gv, ov, e0, e1, rfl, hr, k1⟩
  simp
  refine cl_of (lnew_ok _ ex_g ex_good hr (fun o ho => ?_)) ?_
  · simp only [exT, List.mem_cons, List.not_mem_nil, or_false] at ho
    rcases ho with rfl | rfl <;> exact (by decide : ByteArray.empty.size ≤ 9223372036854775807)
  rintro _ w2 ⟨b, rfl, hR, k2⟩
  have h3 := (At.start rfl : At w2 [] Emp w2).lit (xs := [0, 0]) (enc := nE) (E := 3) (sz := 1) (cs := #[.int .i64 0, .int .i64 0]) (m := 2) .emp (by simp [nE]) nE_len (by simp [maxLen]) rfl
  obtain ⟨sv, hsv⟩ : ∃ sv, sv = Value.slice (some ⟨w2.heap.size, 0, none⟩) 2 2 := ⟨_, rfl⟩
  obtain ⟨w3, hw3⟩ : ∃ w3, w3 = w2.alloc (.cells #[.int .i64 0, .int .i64 0] 3) := ⟨_, rfl⟩
  rw [← hsv, ← hw3] at h3
  have hst : StN (exT vv nv gv ov e0 e1).vars [0, 0] := ⟨rfl, fun v hv => by
    have : v < 2 := hv
    have : v = 0 ∨ v = 1 := by omega
    rcases this with rfl | rfl <;> simp [exT]⟩
  have hst1 : StN (exT vv nv gv ov e0 e1).vars [1, 1] := ⟨rfl, fun v hv => by
    have : v < 2 := hv
    have : v = 0 ∨ v = 1 := by omega
    rcases this with rfl | rfl <;> simp [exT]⟩
  simp [rowOf, ← hsv, ← hw3]
  refine cl_of (hx_cuts sv [0, 0] (hR.kp h3.kp) ex_g h3.own.vw hst) ?_
  rintro x w4 ⟨⟨r, hr4, hx⟩, k4⟩
  rw [ex_uns, ex_cst] at hr4
  have hr4 := hr4.uniq ex_cuts
  subst hr4
  obtain ⟨v, rfl, cs, hcs, hv, hvs⟩ := hx
  obtain ⟨c0, c1, rfl, h0, h1⟩ := two_map cs hcs
  have hw0 := hvs c0 (by simp)
  have z1 : c0.ops = [1] := congrArg Prod.fst h0
  have z2 : c0.cost = 3 := congrArg Prod.snd h0
  have z3 : c1.cost = 2 := congrArg Prod.snd h1
  rw [z1] at hw0
  have ec0 := hv.fld ctE_len (k := 0) (x := c0) rfl (o := 1) rfl
  have ec1 := hv.fld ctE_len (k := 1) (x := c1) rfl (o := 1) rfl
  have ec2 := hv.fld ctE_len (k := 0) (x := c0) rfl (o := 0) rfl
  rw [z2] at ec0
  rw [z3] at ec1
  have hk := (k1.trans k2).trans0 (h3.kp.trans0 k4)
  have h5 := (At.start rfl : At w4 [] Emp w4).lit (xs := [1]) (enc := nE) (E := 3) (sz := 1) (cs := #[.int .i64 1]) (m := 1) .emp (by simp [nE]) nE_len (by simp [maxLen]) rfl
  simp (disch := simp) [hv.len, hv.idx, ec0, ec1, ec2]
  refine cl_of (ints_spec _ _ _ _ (ints_vw (hw0.kp0 h5.kp)) (ints_vw h5.own.vw) (by simp) (by simp)) ?_
  rintro _ w6 ⟨rfl, k6⟩
  have k46 := h5.kp.trans k6
  have ec3 := (hv.kp0 k46).fld ctE_len (k := 1) (x := c1) rfl (o := 1) rfl
  rw [z3] at ec3
  simp (disch := simp) [(hv.kp0 k46).len, (hv.kp0 k46).idx, ec3, rowOf]
  have h7 := (At.start rfl : At w6 [] Emp w6).lit (xs := [0, 0]) (enc := nE) (E := 3) (sz := 1) (cs := #[.int .i64 0, .int .i64 0]) (m := 2) .emp (by simp [nE]) nE_len (by simp [maxLen]) rfl
  have hR6 := (hR.kp (h3.kp.trans k4)).kp (k46.trans h7.kp)
  refine cl_of (hx_value _ [0, 0] hR6 ex_g h7.own.vw hst) ?_
  rintro _ w8 ⟨⟨r, hr8, rfl⟩, k8⟩
  rw [ex_uns, ex_cst] at hr8
  have hr8 := hr8.uniq ex_cuts
  subst hr8
  simp [sumM, rowOf]
  have h9 := (At.start rfl : At w8 [] Emp w8).lit (xs := [1, 1]) (enc := nE) (E := 3) (sz := 1) (cs := #[.int .i64 1, .int .i64 1]) (m := 2) .emp (by simp [nE]) nE_len (by simp [maxLen]) rfl
  refine cl_of (hx_value _ [1, 1] (hR6.kp (k8.trans h9.kp)) ex_g h9.own.vw hst1) ?_
  rintro _ w10 ⟨⟨r, hr10, rfl⟩, k10⟩
  rw [ex_uns] at hr10
  have hr10 := hr10.uniq ex_done
  subst hr10
  simp [sumM]
  exact hk.trans (k46.trans (h7.kp.trans (k8.trans (h9.kp.trans k10))))
end Go.Proofs.Ytcplpogmbacnfaa
end
section
set_option linter.unusedVariables false
set_option linter.unusedSimpArgs false
namespace Go.W
open Go Go.ChangeShapes Go.WideShapes Go.ChangeAt Go.RowKit Go.Deep
section
variable {H : Type} {enc : TypeId × Value → H} {P : Program}
/-- A slice in the input, by its elements. -/
theorem el_vw {α : Type} {encα : α → List Value} {ok : α → Prop} {W : World} {t e : TypeId} {sz : Nat} {v : Value} {fu : Nat} {x : DataW H × List MemPlace} (ht : P.underlying t = some (.slice e)) (hC : P.cellsOf e = sz) (hz : 0 < sz) (he : ∀ x, (encα x).length = sz)
    (hel : ∀ n cs x, cs.length = sz → DataW.trod enc P W 0 (fun _ => true) true n e cs = some x → ∃ a, cs = encα a ∧ ok a) 
    (h : DataW.trod enc P W 0 (fun _ => true) true fu t [v] = some x) :
    ∃ l : List α, Vw W v encα l ∧ (∀ a ∈ l, ok a) ∧ l.length ≤ maxLen := by
  rcases open_slice ht h with ⟨hcs, hx⟩ | ⟨a, len, cap, m, n, D, Pl, hcs, hb, hl, hm, hmm, hx, hi⟩
  · simp at hcs
    subst hcs
    exact ⟨[], Vw.nil _ _, by simp, by simp⟩
  · simp at hcs
    subst hcs
    simp only [if_true] at hmm
    subst hmm
    obtain ⟨n0, hn0⟩ : ∃ n0, n0 = len := ⟨_, rfl⟩
    rw [← hn0] at hl ⊢
    have key : ∀ k, k ≤ m → ∃ l : List α, l.length = k ∧ (∀ x ∈ l, ok x) ∧ ∀ j u, (l.flatMap encα)[j]? = some u → W.cell? (a.add j) = some u := by
      intro k
      induction k with
      | zero => exact fun _ => ⟨[], rfl, by simp, by simp⟩
      | succ k ih =>
        intro hk
        obtain ⟨l, hll, ho, hc⟩ := ih (by omega)
        obtain ⟨cs, hcs, htr⟩ := hi k (by omega)
        rw [hC] at hcs
        obtain ⟨_, hlen, hat⟩ := World.cells?_some hcs
        obtain ⟨x, rfl, hox⟩ := hel _ _ _ hlen htr
        refine ⟨l ++ [x], by simp [hll], ?_, ?_⟩
        · intro y hy
          rcases List.mem_append.1 hy with h1 | h1
          · exact ho y h1
          · simp at h1; subst h1; exact hox
        · intro j u hj
          rw [List.flatMap_append, List.flatMap_cons, List.flatMap_nil, List.append_nil] at hj
          have hfl := flatMap_len he l
          rw [hll] at hfl
          by_cases hjl : j < k * sz
          · rw [List.getElem?_append_left (by omega)] at hj
            exact hc j u hj
          · rw [List.getElem?_append_right (by omega), hfl] at hj
            have hjs : j - k * sz < sz := by have h9 := (List.getElem?_eq_some_iff.1 hj).1; rw [he x] at h9; exact h9
            have := hat (j - k * sz) hjs
            rw [Go.Deep.add_add, show k * sz + (j - k * sz) = j by omega] at this
            rw [this]; exact hj
    obtain ⟨l, hll, ho, hc⟩ := key m (Nat.le_refl _)
    have hvw : Vw W (.slice (some a) n0 m) encα (l.take n0) := by
      have hlen : (l.take n0).length = n0 := by simp; omega
      refine .inr ⟨a, m, by rw [hlen], by omega, fun hne => ?_, fun j u hj => hc j u ?_⟩
      · have hn0 : 0 < n0 := by
          rcases Nat.eq_zero_or_pos n0 with h0 | h0
          · subst h0; simp at hne
          · exact h0
        obtain ⟨cs, hcs, _⟩ := hi 0 (by omega)
        rw [hC] at hcs
        obtain ⟨_, hlen', hat⟩ := World.cells?_some hcs
        have h1 := hat 0 hz
        rw [List.getElem?_eq_getElem (by omega)] at h1
        have := World.cell?_spot h1
        rw [Go.Deep.add_add] at this
        simp at this
        simpa [Addr.add] using this
      · have : l.flatMap encα = (l.take n0).flatMap encα ++ (l.drop n0).flatMap encα := by rw [← List.flatMap_append, List.take_append_drop]
        rw [this, List.getElem?_append_left (List.getElem?_eq_some_iff.1 hj).1]
        exact hj
    exact ⟨_, hvw, fun x hx => ho x (List.mem_of_mem_take hx), by rw [List.length_take]; omega⟩
end
end Go.W
end
section
set_option maxRecDepth 100000
set_option linter.unusedSimpArgs false
set_option linter.unusedVariables false
namespace Go.Proofs.Ytcplpogmbacnfaa
open Go Go.W Go.Tk Go.Rx Go.Lm Go.ChangeShapes Go.WideShapes Go.ChangeAt Go.RowKit
theorem own : ownKnob Try.prog.godebug = none := by kernel_rfl
theorem laidOut : laidOutB Try.prog = true := by kernel_rfl
section
variable {H : Type} {enc : TypeId × Value → H}
theorem open_u8 {W : World} {b : Nat} {v : Value} {d : DataW H} {ps : List MemPlace} (hv : Value.okWide Try.prog W .any b 5 v) (h : DataW.Trod enc Try.prog W 0 (fun _ => true) true 5 v d ps) : ∃ n : Nat, v = .int .u8 (n : Nat) ∧ n ≤ 255 := by
  obtain ⟨n, h⟩ := h
  obtain ⟨a, ha, _, wa⟩ := DataW.trod_int Try.underlying5 h
  have hx : ∃ x, v = .int .u8 x := by
    simp only [Value.okWide, Try.underlying5, Cell.okWide] at hv
    cases v <;> simp_all [Cell.ok]
  obtain ⟨x, rfl⟩ := hx
  have ha : [Value.int .u8 x] = [Value.int .u8 a] := ha
  simp at ha
  subst ha
  have q1 : IntKind.u8.min = 0 := rfl
  have q2 : IntKind.u8.max = 255 := rfl
  simp only [Lit.wf, Bool.and_eq_true, decide_eq_true_eq] at wa
  exact ⟨x.toNat, by rw [show ((x.toNat : Nat) : Int) = x by omega], by omega⟩
theorem el_int {W : World} (n : Nat) (cs : List Value) (x : DataW H × List MemPlace) (hl : cs.length = 1) (h : DataW.trod enc Try.prog W 0 (fun _ => true) true n 3 cs = some x) : ∃ a : Int, cs = iE a ∧ zok a := by
  obtain ⟨a, ha, _, wa⟩ := DataW.trod_int Try.underlying3 h
  have h1 : IntKind.i64.min = -9223372036854775808 := rfl
  have h2 : IntKind.i64.max = 9223372036854775807 := rfl
  simp only [Lit.wf, Bool.and_eq_true, decide_eq_true_eq] at wa
  exact ⟨a, ha, by unfold zok; omega⟩
theorem el_fact {W : World} (n : Nat) (cs : List Value) (x : DataW H × List MemPlace) (hl : cs.length = 2) (h : DataW.trod enc Try.prog W 0 (fun _ => true) true n 58 cs = some x) : ∃ a : Fa, cs = faE a ∧ True := by
  obtain ⟨xs, m, rfl, _, _, hxl, hg⟩ := DataW.trod_struct Try.underlying58 h
  have hc : Try.prog.cellsOf 3 = 1 := by kernel_rfl
  match cs, hl with
  | [u, v], _ =>
    have hx2 : xs.length = 2 := hxl
    have h0 := hg 0 _ rfl
    have h1 := hg 1 _ rfl
    rw [List.getElem?_eq_getElem (by omega)] at h0 h1
    obtain ⟨a, ha, _, wa⟩ := DataW.trod_int Try.underlying3 h0
    obtain ⟨b, hb, _, wb⟩ := DataW.trod_int Try.underlying3 h1
    replace ha : List.take (Try.prog.cellsOf 3) [u, v] = [.int .i64 a] := ha
    replace hb : List.take (Try.prog.cellsOf 3) [v] = [.int .i64 b] := hb
    rw [hc] at ha hb
    simp at ha hb
    subst ha hb
    exact ⟨(a, b), rfl, trivial⟩
theorem el_facts {W : World} {n : Nat} {c : Value} {x : DataW H × List MemPlace} (h : DataW.trod enc Try.prog W 0 (fun _ => true) true n 23 [c] = some x) : ∃ l : List Fa, Vw W c faE l ∧ l.length ≤ maxLen := by
  obtain ⟨l, h1, _, h2⟩ := el_vw (encα := faE) (ok := fun _ => True) (sz := 2) Try.underlying23 (by kernel_rfl) (by omega) faE_len el_fact h
  exact ⟨l, h1, h2⟩
theorem el_ints {W : World} {n : Nat} {c : Value} {x : DataW H × List MemPlace} (h : DataW.trod enc Try.prog W 0 (fun _ => true) true n 22 [c] = some x) : ∃ l : List Int, Vw W c iE l ∧ (∀ z ∈ l, zok z) ∧ l.length ≤ maxLen :=
  el_vw (encα := iE) (ok := zok) (sz := 1) Try.underlying22 (by kernel_rfl) (by omega) iE_len el_int h
theorem el_eff {W : World} (n : Nat) (cs : List Value) (x : DataW H × List MemPlace) (hl : cs.length = 3) (h : DataW.trod enc Try.prog W 0 (fun _ => true) true n 60 cs = some x) : ∃ e : Ef, cs = efE e ∧ (Vw W e.wv.1 faE e.cnd ∧ e.cnd.length ≤ maxLen) := by
  obtain ⟨xs, m, rfl, _, _, hxl, hg⟩ := DataW.trod_struct Try.underlying60 h
  have hc : Try.prog.cellsOf 3 = 1 := by kernel_rfl
  have hf : Try.prog.cellsOf 23 = 1 := by kernel_rfl
  match cs, hl with
  | [u, v, w], _ =>
    have hx2 : xs.length = 3 := hxl
    have h0 := hg 0 _ rfl
    have h1 := hg 1 _ rfl
    have h2 := hg 2 _ rfl
    rw [List.getElem?_eq_getElem (by omega)] at h0 h1 h2
    replace h0 : DataW.trod enc Try.prog W 0 (fun _ => true) true m 23 (List.take (Try.prog.cellsOf 23) [u, v, w]) = _ := h0
    rw [hf] at h0
    simp only [List.take_succ_cons, List.take_zero] at h0
    obtain ⟨l, hv, hlen⟩ := el_facts h0
    obtain ⟨a, ha, _, wa⟩ := DataW.trod_int Try.underlying3 h1
    obtain ⟨b, hb, _, wb⟩ := DataW.trod_int Try.underlying3 h2
    replace ha : List.take (Try.prog.cellsOf 3) [v, w] = [.int .i64 a] := ha
    replace hb : List.take (Try.prog.cellsOf 3) [w] = [.int .i64 b] := hb
    rw [hc] at ha hb
    simp at ha hb
    subst ha hb
    exact ⟨⟨⟨u, hv.o1⟩, l, a, b⟩, rfl, hv, hlen⟩
theorem el_op {W : World} (n : Nat) (cs : List Value) (x : DataW H × List MemPlace) (hl : cs.length = 4) (h : DataW.trod enc Try.prog W 0 (fun _ => true) true n 51 cs = some x) : ∃ o : Oq, cs = oqE o ∧ (OqR W o ∧ o.name.size ≤ maxLen ∧ o.pre.length ≤ maxLen ∧ o.effs.length ≤ maxLen ∧ ∀ e ∈ o.effs, e.cnd.length ≤ maxLen) := by
  obtain ⟨xs, m, rfl, _, _, hxl, hg⟩ := DataW.trod_struct Try.underlying51 h
  have hs : Try.prog.cellsOf 9 = 1 := by kernel_rfl
  have hc : Try.prog.cellsOf 3 = 1 := by kernel_rfl
  have hf : Try.prog.cellsOf 23 = 1 := by kernel_rfl
  have he : Try.prog.cellsOf 49 = 1 := by kernel_rfl
  match cs, hl with
  | [u, v, w, z], _ =>
    have hx2 : xs.length = 4 := hxl
    have h0 := hg 0 _ rfl
    have h1 := hg 1 _ rfl
    have h2 := hg 2 _ rfl
    have h3 := hg 3 _ rfl
    rw [List.getElem?_eq_getElem (by omega)] at h0 h1 h2 h3
    obtain ⟨nm, hn, _, wn⟩ := DataW.trod_string Try.underlying9 h0
    obtain ⟨a, ha, _, wa⟩ := DataW.trod_int Try.underlying3 h1
    replace hn : List.take (Try.prog.cellsOf 9) [u, v, w, z] = [.string nm] := hn
    replace ha : List.take (Try.prog.cellsOf 3) [v, w, z] = [.int .i64 a] := ha
    replace h2 : DataW.trod enc Try.prog W 0 (fun _ => true) true m 23 (List.take (Try.prog.cellsOf 23) [w, z]) = _ := h2
    replace h3 : DataW.trod enc Try.prog W 0 (fun _ => true) true m 49 (List.take (Try.prog.cellsOf 49) [z]) = _ := h3
    rw [hs] at hn
    rw [hc] at ha
    rw [hf] at h2
    rw [he] at h3
    simp only [List.take_succ_cons, List.take_zero] at h2 h3
    simp at hn ha
    subst hn ha
    obtain ⟨pl, hp1, hp2⟩ := el_facts h2
    obtain ⟨el, he1, he2, he3⟩ := el_vw (encα := efE) (ok := fun e : Ef => Vw W e.wv.1 faE e.cnd ∧ e.cnd.length ≤ maxLen) (sz := 3) Try.underlying49 (by kernel_rfl) (by omega) efE_len el_eff h3
    exact ⟨⟨nm, a, ⟨w, hp1.o1⟩, pl, ⟨z, he1.o1⟩, el⟩, rfl, ⟨hp1, he1, fun e h => (he2 e h).1⟩, wn, hp2, he3, fun e h => (he2 e h).2⟩
theorem open_task {W : World} {b : Nat} {v : Value} {d : DataW H} {ps : List MemPlace} (hv : Value.okWide Try.prog W .any b 26 v) (h : DataW.Trod enc Try.prog W 0 (fun _ => true) true 26 v d ps) : ∃ t : Tk, v = tkV t ∧ TkR W t ∧ TkL t := by
  simp only [Value.okWide, Try.underlying26] at hv
  obtain ⟨cs, rfl, hcs, _⟩ := hv
  have h4 : Try.prog.cellsOf 26 = 4 := by kernel_rfl
  rw [h4] at hcs
  obtain ⟨n, h⟩ := h
  obtain ⟨xs, m, rfl, _, _, hxl, hg⟩ := DataW.trod_struct Try.underlying26 h
  have hc : Try.prog.cellsOf 22 = 1 := by kernel_rfl
  have hf : Try.prog.cellsOf 23 = 1 := by kernel_rfl
  have ho : Try.prog.cellsOf 24 = 1 := by kernel_rfl
  have hl : cs.toList.length = 4 := by simpa using hcs
  have e : (Value.agg cs).cells.toList = cs.toList := rfl
  rw [e] at hg
  match hcl : cs.toList, hl with
  | [u0, u1, u2, u3], _ =>
    rw [hcl] at hg
    have hx2 : xs.length = 4 := hxl
    have h0 := hg 0 _ rfl
    have h1 := hg 1 _ rfl
    have h2 := hg 2 _ rfl
    have h3 := hg 3 _ rfl
    rw [List.getElem?_eq_getElem (by omega)] at h0 h1 h2 h3
    replace h0 : DataW.trod enc Try.prog W 0 (fun _ => true) true m 22 (List.take (Try.prog.cellsOf 22) [u0, u1, u2, u3]) = _ := h0
    replace h1 : DataW.trod enc Try.prog W 0 (fun _ => true) true m 22 (List.take (Try.prog.cellsOf 22) [u1, u2, u3]) = _ := h1
    replace h2 : DataW.trod enc Try.prog W 0 (fun _ => true) true m 23 (List.take (Try.prog.cellsOf 23) [u2, u3]) = _ := h2
    replace h3 : DataW.trod enc Try.prog W 0 (fun _ => true) true m 24 (List.take (Try.prog.cellsOf 24) [u3]) = _ := h3
    rw [hc] at h0 h1
    rw [hf] at h2
    rw [ho] at h3
    simp only [List.take_succ_cons, List.take_zero] at h0 h1 h2 h3
    obtain ⟨vl, v1, _, v2⟩ := el_ints h0
    obtain ⟨nl, n1, _, n2⟩ := el_ints h1
    obtain ⟨gl, g1, g2⟩ := el_facts h2
    obtain ⟨ol, o1, o2, o3⟩ := el_vw (encα := oqE) (ok := fun o : Oq => OqR W o ∧ o.name.size ≤ maxLen ∧ o.pre.length ≤ maxLen ∧ o.effs.length ≤ maxLen ∧ ∀ e ∈ o.effs, e.cnd.length ≤ maxLen) (sz := 4) Try.underlying24 (by kernel_rfl) (by omega) oqE_len el_op h3
    have em : maxLen = 9223372036854775807 := rfl
    refine ⟨⟨⟨u0, v1.o1⟩, ⟨u1, n1.o1⟩, ⟨u2, g1.o1⟩, ⟨u3, o1.o1⟩, vl, nl, gl, ol⟩, ?_, ⟨v1, n1, g1, o1, fun o h => (o2 o h).1⟩, ⟨n2, g2, o3, v2, fun o h => (o2 o h).2⟩⟩
    have : cs = #[u0, u1, u2, u3] := by
      apply Array.toList_inj.1; rw [hcl]
    rw [this]; rfl
end
end Go.Proofs.Ytcplpogmbacnfaa
end
section
set_option maxRecDepth 100000
set_option linter.unusedSimpArgs false
set_option linter.unusedVariables false
namespace Go.Proofs.Ytcplpogmbacnfaa
open Go Go.W Go.Tk Go.Rx Go.Lm Go.Maps
set_option maxHeartbeats 1000000 in
theorem msome_spec {w : World} (T : Nt) (hr : NtR w T) (hg : NtG T) (hb : ∀ k, k ≤ T.vars.length → (stsK T.vars k).length ≤ 10000) :
    Calls Try.prog 13 [ntV T].toArray w fun e w' => ∃ u, e = .returned u ∧ ∃ ls, (∀ s ∈ ls, StN T.vars s) ∧ ls.length ≤ 100000 ∧ Kp [] w w' ∧ LLV nE w' u ls := by
  refine enter Try.func13 mixed low13 (Nat.le_of_ble_eq_true rfl) ?_
  simp only [L13]
  have hvl := hg.vlen
  obtain ⟨b, hb2⟩ : ∃ b, b = w.heap.size := ⟨_, rfl⟩
  have h1 : At w [] (Star (ObjA b (ntO T)) Emp) (w.alloc (ntO T)) := by rw [hb2]; exact (At.start rfl).alloc _ .emp
  obtain ⟨w1, hw1⟩ : ∃ w1, w1 = w.alloc (ntO T) := ⟨_, rfl⟩
  rw [← hw1] at h1
  have hw1' : w.alloc (.cells #[T.vv.1, T.nv.1, T.gv.1, T.ov.1] 26 (0, 0)) = w1 := by rw [hw1]; rfl
  have hob := h1.obj
  unfold ntO at hob
  have h2 := h1.lit (xs := [((T.nv, T.init) : Cell1 × List Nat)]) (enc := sv1) (E := 22) (sz := 1) (cs := #[T.nv.1]) (m := 1) (Lcl.obj.star .emp) (by simp [sv1]) sv1_len (by simp [maxLen]) rfl
  obtain ⟨w2, hw2⟩ : ∃ w2, w2 = w1.alloc (.cells #[T.nv.1] 22) := ⟨_, rfl⟩
  obtain ⟨ov, hov⟩ : ∃ ov, ov = Value.slice (some ⟨w1.heap.size, 0, none⟩) 1 1 := ⟨_, rfl⟩
  rw [← hw2, ← hov] at h2
  have hob2 := h2.drop.obj
  unfold ntO at hob2
  have cnv : T.nv.1.cells = #[T.nv.1] := by
    have := T.nv.2
    cases h : T.nv.1 <;> simp_all [oneC, Value.cells]
  simp [ntV, ← hb2, hw1', cell_blk hob, cnv, rowOf, ← hw2, ← hov, cell_blk hob2]
  have hr2 := hr.kp h2.kp
  refine cl_of (states_spec T.vv.1 T.vars hr2.vars (by omega) (fun n hn => by have := hg.vars n hn; omega) hb (fun k hk s hs => by have := (sts_ok k hk s hs).1; omega)) ?_
  rintro all w3 h3
  obtain ⟨ps, hps, h4⟩ := LLA.opn (At.join (Lcl.own.star (Lcl.obj.star .emp)) h2 h3)
  have h5 : At w [] (Star (OwnA ov 22 1 sv1 [((T.nv, T.init) : Cell1 × List Nat)]) (Star (OwnA all 22 1 sv1 ps) (Star (VwsA nE ps) Emp))) w3 := (h4.by Imp.fr3).by (Imp.un (Imp.un (Imp.un Imp.dr)))
  have hpl : ps.length = (stsK T.vars T.vars.length).length := by rw [← hps]; simp
  have hbl := hb _ (Nat.le_refl _)
  have hpsok : ∀ q ∈ ps, StN T.vars q.2 := fun q hq => sts_st (by rw [← hps]; exact List.mem_map.2 ⟨q, hq, rfl⟩)
  simp
  refine loop_inv (SmI T all ps w) _ ⟨0, [(T.nv, T.init)], rfl, by omega, by simp, by simp, by simp, by simp, by simpa using h5⟩ ?_
  rintro n ρ w4 ⟨i, qs, rfl, hib, g4, g5, hql, hq, h6⟩
  have hal := h6.drop.own
  by_cases hlt : i < ps.length
  case neg =>
    have hlt' : ¬ (i : Int) < ps.length := by omega
    simp [g4, g5, hal.vw.len, hlt']
    refine ⟨qs.map (·.2), ?_, by simp; omega, h6.kp, qs, rfl, h6.own.vw, ?_⟩
    · intro s hs
      obtain ⟨q, hqm, rfl⟩ := List.mem_map.1 hs
      rcases hq q hqm with rfl | h
      · exact ⟨hg.ilen, fun v hv => hg.init v (by rw [hg.ilen]; exact hv)⟩
      · exact hpsok q h
    · intro q hqm
      rcases hq q hqm with rfl | h
      · exact (hr.kp h6.kp).init
      · exact h6.drop.drop.vws h
  have hlt' : (i : Int) < ps.length := by omega
  obtain ⟨p, hp⟩ : ∃ p, ps[i]? = some p := ⟨_, List.getElem?_eq_getElem hlt⟩
  have hpm := List.mem_of_getElem? hp
  have ep : w4.cell? (all.adr.add i) = some p.1.1 := by simpa using hal.vw.at_ sv1_len hp (o := 0) (u := p.1.1) rfl
  have cp : p.1.1.cells = #[p.1.1] := by
    have := p.1.2
    cases h : p.1.1 <;> simp_all [oneC, Value.cells]
  simp (disch := omega) [g4, g5, hal.vw.len, hlt', hal.vw.idx, ep, cp, rowOf]
  have hLX : Lcl (Star (OwnA all 22 1 sv1 ps) (Star (VwsA nE ps) Emp)) := Lcl.own.star (Lcl.vws.star .emp)
  have h7 := h6.kp0 (Lcl.own.star hLX) ((Kp.refl [] w4).alloc (.cells #[p.1.1] 22))
  refine At.append (xs := [p]) hLX h7 sv1_len sv1_one sl_34 rfl (fun j u hj => ?_) (by omega) (by unfold maxLen; omega) fun v' w5 h8 => ?_
  · simp [sv1] at hj
    rw [add_none, cell_blk alloc_new]
    simpa using hj
  have hal8 := h8.drop.own
  obtain ⟨d, hd⟩ : ∃ d, d = ps.length / 8 := ⟨_, rfl⟩
  have ed : ((ps.length : Nat) : Int).tdiv 8 = (d : Int) := by rw [hd]; rfl
  have hdl : d ≤ ps.length := by omega
  obtain ⟨i2, hi2⟩ : ∃ i2, i2 = i + (1 + d) := ⟨_, rfl⟩
  have ei : (i : Int) + (1 + (d : Int)) = (i2 : Int) := by rw [hi2]; simp
  simp (disch := omega) [g4, g5, hal8.vw.len, ed, wrap_i64, ei]
  exact ⟨_, (by omega : ps.length - i2 < ps.length - i), i2, qs ++ [p], rfl, by omega, by simp [g4], by simp, by simp; omega, fun q hqm => by
    rcases List.mem_append.1 hqm with h | h
    · exact hq q h
    · simp at h; subst h; exact .inr hpm, by simpa using h8⟩
end Go.Proofs.Ytcplpogmbacnfaa
end
section
set_option maxRecDepth 100000
set_option linter.unusedSimpArgs false
set_option linter.unusedVariables false
namespace Go.Lm
open Go.Rx
end Go.Lm
namespace Go.Proofs.Ytcplpogmbacnfaa
open Go Go.W Go.Tk Go.Rx Go.Lm Go.Maps
theorem stN_lt {T : Nt} {s : List Nat} (hst : StN T.vars s) : ∀ x ∈ stN T.vars s T.vars.length, x < T.vars.sum := fun x hx => by
  unfold stN at hx
  obtain ⟨v, hv, rfl⟩ := List.mem_map.1 hx
  have hv := List.mem_range.1 hv
  exact numF_lt (f := (v, s.getD v 0)) hv (hst.rng v hv)
/-- Sizes, for a small task. -/
theorem szs_ok {T : Nt} {s : List Nat} {c : Nat → Nat} (hg : NtG T) (hst : StN T.vars s) (hc : ∀ i, i < T.ops.length → c i ≤ 1048576) : Szs (uns T c) (stN T.vars s T.vars.length) 4096 1048576 c := {
  made := fun u hu => by
    have := (uns_rng hg hu).2.1
    have := vars_sum hg
    omega
  s0 := fun x hx => by
    have := stN_lt hst x hx
    have := vars_sum hg
    omega
  cost := fun u hu => hc _ (uns_rng hg hu).2.2
  sm := by unfold Inf; omega }
end Go.Proofs.Ytcplpogmbacnfaa
end
section
set_option maxRecDepth 100000
set_option linter.unusedSimpArgs false
set_option linter.unusedVariables false
namespace Go.Lm
open Go.Rx
section
variable {U U' : List Un} {S0 G : List Nat} {c c' V V' : Nat → Nat} {k g : Nat}
/-- The same order of values. -/
structure OrdE (V V' : Nat → Nat) : Prop where
  lt : ∀ f g, V f < V g ↔ V' f < V' g
  fin : ∀ f, V f < Inf ↔ V' f < Inf
theorem OrdE.eq (h : OrdE V V') (f g : Nat) : V f = V g ↔ V' f = V' g := by
  have := h.lt f g
  have := h.lt g f
  omega
theorem OrdE.btr (h : OrdE V V') (f g : Nat) : btr V f g = btr V' f g := by
  unfold Go.Lm.btr
  rw [decide_eq_decide.2 (h.lt g f), decide_eq_decide.2 (h.eq f g)]
theorem OrdE.gst (h : OrdE V V') (l : List Nat) : gst V l = gst V' l := by
  have : gStep V = gStep V' := by
    funext o f
    cases o with
    | none => rfl
    | some o => simp only [gStep, h.btr]
  unfold Go.Lm.gst
  rw [this]
theorem OrdE.gr (h : OrdE V V') (l : List Nat) : Go.Rx.gr V l < Inf ↔ Go.Rx.gr V' l < Inf := by
  have hp : 0 < Inf := by unfold Inf; omega
  rw [gr_lt_iff hp, gr_lt_iff hp]
  exact forall_congr' fun x => forall_congr' fun _ => h.fin x
theorem OrdE.arcs (h : OrdE V V') (U : List Un) : arcs U V = arcs U V' := by
  unfold Go.Lm.arcs
  have e : (fun u : Un => decide (Go.Rx.gr V u.needs < Inf)) = fun u => decide (Go.Rx.gr V' u.needs < Inf) := by
    funext u
    exact decide_eq_decide.2 (h.gr u.needs)
  have e2 : arU V = arU V' := by
    funext u
    unfold arU
    rw [h.gst]
  rw [e, e2]
theorem tz_congr {A : List Ar} (h : ∀ i, c i = 0 ↔ c' i = 0) : TZ A c g = TZ A c' g := by
  have key : ∀ {c c' : Nat → Nat} (h : ∀ i, c i = 0 ↔ c' i = 0) f, TZ A c g f → TZ A c' g f := by
    intro c c' h f hf
    induction hf with
    | base => exact .base
    | step ha hf hc ht ih => exact .step ha hf ((h _).1 hc) ih
  funext f
  exact propext ⟨key h f, key (fun i => (h i).symm) f⟩
theorem xo_congr {A : List Ar} (h : ∀ i, c i = 0 ↔ c' i = 0) (op : Nat) : XO A c S0 g op ↔ XO A c' S0 g op := by
  unfold XO
  rw [tz_congr h]
theorem IsCut.scale {L : List Nat} {m : Nat} (h : IsCut U c S0 G V L m) (hk : 0 < k) (hV : OrdE V V') : IsCut U (fun i => k * c i) S0 G V' L (k * m) := {
  ex := by
    obtain ⟨g, e, hx⟩ := h.ex
    refine ⟨g, by rw [← hV.gst]; exact e, fun op => ?_⟩
    rw [hx op, ← hV.arcs]
    exact xo_congr (fun i => by
      constructor
      · intro h; simp [h]
      · intro h; rcases Nat.mul_eq_zero.1 h with h | h
        · omega
        · exact h) op
  asc := h.asc
  le := fun op ho => Nat.mul_le_mul_left _ (h.le op ho)
  at_ := by
    obtain ⟨op, ho, e⟩ := h.at_
    exact ⟨op, ho, by rw [e]⟩ }
theorem sub_scale {L : List Nat} {m : Nat} : Go.Lm.sub (fun i => k * c i) L (k * m) = fun i => k * Go.Lm.sub c L m i := by
  funext i
  unfold Go.Lm.sub
  split
  · rw [Nat.mul_sub]
  · rfl
theorem wc_mul : mulU k (wc U c) = wc U fun i => k * c i := by
  unfold mulU wc
  rw [List.map_map]
  rfl
theorem Szs.scaled {N C : Nat} (hz : Szs U S0 N C c) (hV : IsVal (wc U c) S0 V) (hV' : IsVal (wc U fun i => k * c i) S0 V') (hk : 0 < k) (hs : N * (k * C) < Inf) : OrdE V V' ∧ ∀ f, V f = 0 ↔ V' f = 0 := by
  rw [← wc_mul] at hV'
  have key := fun f => hV.scaled hV' hk (C := C) (N := N) (fun u hu => by
    obtain ⟨v, hv, rfl⟩ := wc_mem hu
    exact hz.cost v hv) (fun f k d => hz.der d) hs f
  have fin : ∀ f, V f < Inf ↔ V' f < Inf := fun f => by
    have hb := hV.bound (C := C) (N := N) (f := f) (fun u hu => by
      obtain ⟨v, hv, rfl⟩ := wc_mem hu
      exact hz.cost v hv) (fun f k d => hz.der d)
    constructor
    · intro h
      have h1 := hb h
      have h2 : k * V f ≤ k * (N * C) := Nat.mul_le_mul_left _ h1
      have h3 : k * (N * C) = N * (k * C) := by rw [Nat.mul_left_comm]
      rw [(key f).1 h]
      omega
    · intro h
      apply Nat.lt_of_not_le
      intro h2
      have := (key f).2 h2
      omega
  refine ⟨⟨fun f g => ?_, fin⟩, fun f => ?_⟩
  · have hf := hV.le f
    have hg := hV.le g
    have hf' := hV'.le f
    have hg' := hV'.le g
    have ff := fin f
    have fg := fin g
    by_cases h1 : V f < Inf
    · by_cases h2 : V g < Inf
      · rw [(key f).1 h1, (key g).1 h2]
        exact (Nat.mul_lt_mul_left hk).symm
      · omega
    · omega
  · have ff := fin f
    by_cases h1 : V f < Inf
    · rw [(key f).1 h1]
      constructor
      · intro h; simp [h]
      · intro h; rcases Nat.mul_eq_zero.1 h with h | h
        · omega
        · exact h
    · unfold Inf at *
      omega
theorem gr_zero {l : List Nat} : gr V l = 0 ↔ ∀ x ∈ l, V x = 0 := by
  have := gr_le_iff (V := V) (l := l) (k := 0)
  simpa using this
def scO (k : Nat) (o : List (List Nat × Nat)) : List (List Nat × Nat) := o.map fun p => (p.1, k * p.2)
theorem LmC.scale {N C : Nat} {r : Option (List (List Nat × Nat))} (h : LmC U S0 G c r) (hk : 0 < k) (hz : Szs U S0 N C c) (hs : N * (k * C) < Inf) : LmC U S0 G (fun i => k * c i) (r.map (scO k)) := by
  induction h with
  | @inf c V hV h =>
    obtain ⟨V', hV'⟩ := IsVal.ex (wc U fun i => k * c i) S0
    obtain ⟨ho, _⟩ := hz.scaled hV hV' hk hs
    refine .inf hV' ?_
    have := ho.gr G
    omega
  | @nil c V hV h =>
    obtain ⟨V', hV'⟩ := IsVal.ex (wc U fun i => k * c i) S0
    obtain ⟨_, h0⟩ := hz.scaled hV hV' hk hs
    exact .nil hV' (gr_zero.2 fun x hx => (h0 x).1 (gr_zero.1 h x hx))
  | @cut c V L m r hV h0 hi hc hr ih =>
    obtain ⟨V', hV'⟩ := IsVal.ex (wc U fun i => k * c i) S0
    obtain ⟨ho, hz0⟩ := hz.scaled hV hV' hk hs
    have ih := ih (hz.sub L m)
    rw [← sub_scale] at ih
    have := LmC.cut hV' (by
      apply Nat.pos_of_ne_zero
      intro h
      have : gr V G = 0 := gr_zero.2 fun x hx => (hz0 x).2 (gr_zero.1 h x hx)
      omega) ((ho.gr G).1 hi) (hc.scale hk ho) ih
    cases r with
    | none => exact this
    | some o => exact this
theorem LmC.zero {N C : Nat} {r : Option (List (List Nat × Nat))} (h : LmC U S0 G c r) (hz : Szs U S0 N C c) : LmC U S0 G (fun i => 0) (r.map fun _ => []) := by
  obtain ⟨V', hV'⟩ := IsVal.ex (wc U fun _ => 0) S0
  cases hr : r with
  | none =>
    obtain ⟨f, hf, hn⟩ := h.none_inf hz hr
    refine .inf hV' ?_
    apply Nat.le_of_not_lt
    intro hlt
    have := (gr_lt_iff (by unfold Inf; omega)).1 hlt f hf
    exact hn _ _ (hV'.der f this)
  | some o =>
    obtain ⟨V, hV, hg⟩ := h.some_fin o hr
    have hg := (gr_lt_iff (by unfold Inf; omega)).1 hg
    have key : ∀ f k, Der (wc U c) S0 f k → Der (wc U fun _ => 0) S0 f 0 := by
      intro f k d
      induction d with
      | base h => exact .base h
      | step hu kk hk ih =>
        obtain ⟨u, hu2, rfl⟩ := wc_mem hu
        have := Der.step (mem_wc (c := fun _ => 0) hu2) (fun _ => 0) (fun n hn => ih n hn)
        have e : gr (fun _ => 0) u.needs = 0 := gr_zero.2 fun _ _ => rfl
        simpa [e] using this
    refine .nil hV' (gr_zero.2 fun x hx => ?_)
    have := hV'.least (key x _ (hV.der x (hg x hx)))
    omega
theorem arcs_wc : arcs (wc U c') V = arcs U V := by
  unfold arcs wc
  rw [List.filter_map, List.map_map]
  rfl
theorem wc_wc : wc (wc U c') c = wc U c := by
  unfold wc
  rw [List.map_map]
  rfl
theorem LmC.wc {r : Option (List (List Nat × Nat))} (h : LmC U S0 G c r) : LmC (wc U c') S0 G c r := by
  induction h with
  | inf hV h => exact .inf (by rw [wc_wc]; exact hV) h
  | nil hV h => exact .nil (by rw [wc_wc]; exact hV) h
  | cut hV h0 hi hc hr ih => exact .cut (by rw [wc_wc]; exact hV) h0 hi ⟨by rw [arcs_wc]; exact hc.ex, hc.asc, hc.le, hc.at_⟩ ih
end
end Go.Lm
namespace Go.Proofs.Ytcplpogmbacnfaa
open Go Go.W Go.Tk Go.Rx Go.Lm Go.Maps
/-- The task with costs times k. -/
def scT (T : Nt) (ov : Cell1) (k : Nat) : Nt := { T with ov := ov, ops := T.ops.map fun o => { o with cost := o.cost * k } }
theorem scT_at {T : Nt} {ov : Cell1} {k i : Nat} : (scT T ov k).ops[i]? = (T.ops[i]?).map fun o => { o with cost := o.cost * k } := by unfold scT; rw [List.getElem?_map]
theorem uns_sc {T : Nt} {ov : Cell1} {k : Nat} {c c' : Nat → Nat} : uns (scT T ov k) c' = wc (uns T c) c' := by
  have key : ∀ n, unsK (scT T ov k) c' n = wc (unsK T c n) c' := by
    intro n
    unfold unsK wc
    rw [List.map_flatMap]
    congr 1
    funext i
    rw [scT_at]
    cases T.ops[i]? with
    | none => rfl
    | some o =>
      show opU T.vars _ i (c' i) o.effs.length = _
      unfold opU
      rw [List.map_map]
      refine List.map_congr_left fun j hj => ?_
      have hj := List.mem_range.1 hj
      have he : o.effs[j]? = some o.effs[j] := List.getElem?_eq_getElem hj
      simp only [Function.comp, unA, he]
  unfold uns
  rw [show (scT T ov k).ops.length = T.ops.length by unfold scT; rw [List.length_map]]
  exact key _
theorem cst_sc {T : Nt} {ov : Cell1} {k : Nat} : cst (scT T ov k) [] = fun i => k * cst T [] i := by
  funext i
  unfold cst
  simp only [List.length_nil, if_true]
  rw [scT_at]
  cases T.ops[i]? with
  | none => rfl
  | some o => exact Nat.mul_comm _ _
theorem scT_small {T : Nt} {ov : Cell1} {k : Nat} (h : SmT T) (hk : ∀ o ∈ T.ops, o.cost * k ≤ 1048576) : SmT (scT T ov k) := by
  have hg := h.g
  have hlen : (scT T ov k).ops.length = T.ops.length := by unfold scT; rw [List.length_map]
  have hmem : ∀ o ∈ (scT T ov k).ops, ∃ q ∈ T.ops, o = { q with cost := q.cost * k } := fun o ho => by
    obtain ⟨q, hq, rfl⟩ := List.mem_map.1 ho
    exact ⟨q, hq, rfl⟩
  refine ⟨⟨hg.vlen, by rw [hlen]; exact hg.olen, hg.vars, hg.ilen, hg.init, hg.goal, fun o ho => ?_⟩, ?_, h.vl, by rw [hlen]; exact h.ol, fun o ho => ?_, h.pr, fun o ho => ?_⟩
  · obtain ⟨q, hq, rfl⟩ := hmem o ho
    have := hg.ops q hq
    exact ⟨hk q hq, this.elen, this.pre, this.cnd, this.eff⟩
  · have hgd := h.good
    unfold goodB at hgd ⊢
    simp only [Bool.and_eq_true, decide_eq_true_eq, List.all_eq_true] at hgd ⊢
    obtain ⟨⟨⟨⟨⟨h1, h2⟩, h3⟩, h4⟩, h5⟩, h6⟩ := hgd
    refine ⟨⟨⟨⟨⟨h1, ?_⟩, h3⟩, h4⟩, h5⟩, fun o ho => ?_⟩
    · simp only [Nt.raw, List.length_map] at h2 ⊢
      rw [hlen]; exact h2
    · obtain ⟨q, hq, rfl⟩ := List.mem_map.1 ho
      obtain ⟨q, hq2, rfl⟩ := hmem q hq
      have h7 := h6 _ (List.mem_map.2 ⟨q, hq2, rfl⟩)
      have hc := hk q hq2
      unfold opB at h7 ⊢
      simp only [No.raw] at h7 ⊢
      simp only [Bool.and_eq_true, decide_eq_true_eq] at h7 ⊢
      obtain ⟨⟨⟨⟨⟨a1, a2⟩, a3⟩, a4⟩, a5⟩, a6⟩ := h7
      exact ⟨⟨⟨⟨⟨decide_eq_true (Int.natCast_nonneg _), decide_eq_true (by show ((q.cost * k : Nat) : Int) ≤ 1048576; omega)⟩, a3⟩, a4⟩, a5⟩, a6⟩
  · obtain ⟨q, hq, rfl⟩ := hmem o ho
    exact h.el q hq
  · obtain ⟨q, hq, rfl⟩ := hmem o ho
    exact h.nm q hq
/-- The cuts of the scaled task. -/
theorem sc_cuts {T : Nt} {ov : Cell1} {k : Nat} {s : List Nat} {r r' : Option (List (List Nat × Nat))} (hT : SmT T) (hst : StN T.vars s) (hk : k < 7) (h : LmC (uns T (cst T [])) (stN T.vars s T.vars.length) (T.goal.map (numF T.vars)) (cst T []) r) (h' : LmC (uns (scT T ov k) (cst (scT T ov k) [])) (stN T.vars s T.vars.length) (T.goal.map (numF T.vars)) (cst (scT T ov k) []) r') :
    r' = r.map fun o => if 0 < k then scO k o else [] := by
  have hz := szs_ok hT.g hst (CsOk.nil.cst hT.g)
  rw [uns_sc (c := cst T []), cst_sc] at h'
  rcases Nat.eq_zero_or_pos k with rfl | hp
  · have := (h.zero hz).wc (c' := fun i => 0 * cst T [] i)
    have e : (fun i => 0 * cst T [] i) = fun _ => 0 := by funext i; exact Nat.zero_mul _
    rw [e] at h' this
    rw [h'.uniq this]
    rfl
  · have := (h.scale hp hz (by unfold Inf; omega)).wc (c' := fun i => k * cst T [] i)
    rw [h'.uniq this]
    cases r with
    | none => rfl
    | some o => simp [if_pos hp]
end Go.Proofs.Ytcplpogmbacnfaa
end
