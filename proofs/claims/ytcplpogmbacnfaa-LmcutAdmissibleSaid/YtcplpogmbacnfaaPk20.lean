/-
  A part of the proof of this claim's statement (LmWE, LibN, LmZA, LmYA, LmYB, LmYC): plain theorems; no conditions beyond those each names.
-/
import Derived.Test.YtcplpogmbacnfaaPk19
import Derived.Test.YtcplpogmbacnfaaPk13
import Derived.Test.YtcplpogmbacnfaaPk06
import Derived.Test.YtcplpogmbacnfaaPk05
import Derived.HandedShaped
import Derived.Shelf.Vars
import Derived.OpenShut
import Derived.Test.YtcplpogmbacnfaaRows
import Derived.Test.YtcplpogmbacnfaaPk15
section
set_option maxRecDepth 100000
set_option linter.unusedSimpArgs false
set_option linter.unusedVariables false
namespace Go.Tk
theorem map_inj {α β : Type} {f : α → β} (h : ∀ x y, f x = f y → x = y) : ∀ {l l' : List α}, l.map f = l'.map f → l = l'
  | [], [], _ => rfl
  | [], _ :: _, e => by simp at e
  | _ :: _, [], e => by simp at e
  | a :: l, b :: l', e => by
    simp only [List.map_cons, List.cons.injEq] at e
    rw [h _ _ e.1, map_inj h e.2]
theorem faN_inj (a b : Fc) (h : faN a = faN b) : a = b := by
  obtain ⟨a1, a2⟩ := a
  obtain ⟨b1, b2⟩ := b
  simp only [faN, Prod.mk.injEq] at h
  have h1 : a1 = b1 := by omega
  have h2 : a2 = b2 := by omega
  rw [h1, h2]
theorem Nf.raw_inj (a b : Nf) (h : a.raw = b.raw) : a = b := by
  obtain ⟨a1, a2, a3, a4⟩ := a
  obtain ⟨b1, b2, b3, b4⟩ := b
  simp only [Nf.raw, Ef.mk.injEq] at h
  obtain ⟨h1, h2, h3, h4⟩ := h
  have h2 := map_inj faN_inj h2
  have h3 : a3 = b3 := by omega
  have h4 : a4 = b4 := by omega
  subst h1 h2 h3 h4
  rfl
theorem No.raw_inj (a b : No) (h : a.raw = b.raw) : a = b := by
  obtain ⟨a1, a2, a3, a4, a5, a6⟩ := a
  obtain ⟨b1, b2, b3, b4, b5, b6⟩ := b
  simp only [No.raw, Oq.mk.injEq] at h
  obtain ⟨h1, h2, h3, h4, h5, h6⟩ := h
  have h2 : a2 = b2 := by omega
  have h4 := map_inj faN_inj h4
  have h6 := map_inj Nf.raw_inj h6
  subst h1 h2 h3 h4 h5 h6
  rfl
theorem Nt.raw_inj (a b : Nt) (h : a.raw = b.raw) : a = b := by
  obtain ⟨a1, a2, a3, a4, a5, a6, a7, a8⟩ := a
  obtain ⟨b1, b2, b3, b4, b5, b6, b7, b8⟩ := b
  simp only [Nt.raw, Tk.mk.injEq] at h
  obtain ⟨h1, h2, h3, h4, h5, h6, h7, h8⟩ := h
  have hi : ∀ x y : Nat, iN x = iN y → x = y := fun x y h => by unfold iN at h; omega
  have h5 := map_inj hi h5
  have h6 := map_inj hi h6
  have h7 := map_inj faN_inj h7
  have h8 := map_inj No.raw_inj h8
  subst h1 h2 h3 h4 h5 h6 h7 h8
  rfl
end Go.Tk
namespace Go.Proofs.Ytcplpogmbacnfaa
open Go Go.W Go.Tk Go.Rx Go.Lm Go.Maps
theorem lnew_ok {w : World} (T : Nt) (hg : NtG T) (hgood : goodB T.raw = true) (hr : NtR w T) (hnm : ∀ o ∈ T.ops, o.name.size ≤ 9223372036854775807) :
    Calls Try.prog 12 [ntV T].toArray w fun e w' => ∃ x, e = .returned x ∧ ∃ b, x = .tuple #[.pointer (some ⟨b, 0, none⟩), .nilIface] ∧ Hrx b T w' ∧ Kp [] w w' := by
  refine Calls.mono (lnew_walk T.raw (NtR.raw.2 hr) (hg.lens hnm)) ?_
  rintro e w' ⟨x, rfl, hx, k⟩
  refine ⟨x, rfl, ?_⟩
  unfold HnA at hx
  rw [(chk_good T.raw).2 hgood] at hx
  obtain ⟨b, T', e, _, rfl, hh⟩ := hx
  have e := Nt.raw_inj _ _ e
  subst e
  exact ⟨b, rfl, hh, k⟩
theorem ex_good {vv nv gv ov e0 e1 : Cell1} : goodB (exT vv nv gv ov e0 e1).raw = true := by
  unfold goodB
  rfl
theorem ex_g {vv nv gv ov e0 e1 : Cell1} : NtG (exT vv nv gv ov e0 e1) := by
  obtain ⟨T, e, hg⟩ := good_nat (ex_good (vv := vv) (nv := nv) (gv := gv) (ov := ov) (e0 := e0) (e1 := e1))
  rw [← Nt.raw_inj _ _ e]
  exact hg
theorem ex_uns {vv nv gv ov e0 e1 : Cell1} : uns (exT vv nv gv ov e0 e1) (cst (exT vv nv gv ov e0 e1) []) = E2 := rfl
theorem ex_cst {vv nv gv ov e0 e1 : Cell1} : cst (exT vv nv gv ov e0 e1) [] = cE 2 3 := by
  funext i
  match i with
  | 0 => rfl
  | 1 => rfl
  | i + 2 => rfl
theorem two_map {α β : Type} {f : α → β} {p q : β} : ∀ l : List α, l.map f = [p, q] → ∃ a b, l = [a, b] ∧ f a = p ∧ f b = q
  | [a, b], h => by simp only [List.map_cons, List.map_nil, List.cons.injEq, and_true] at h; exact ⟨a, b, rfl, h.1, h.2⟩
  | [], h => by simp at h
  | [a], h => by simp at h
  | a :: b :: c :: l, h => by simp at h
set_option maxHeartbeats 1000000 in
theorem mawake_spec {w : World} : Calls Try.prog 11 [].toArray w fun e w' => ∃ x, e = .returned x ∧ x = .bool true ∧ Kp [] w w' := by
  refine enter Try.func11 mixed low11 (Nat.le_of_ble_eq_true rfl) ?_
  simp only [L11]
  simp
  refine cl_of example_spec ?_
  rintro _ w1 ⟨vv, nv, gv, ov, e0, e1, rfl, hr, k1⟩
  simp
  refine cl_of (lnew_ok _ ex_g ex_good hr (fun o ho => ?_)) ?_
  · simp only [exT, List.mem_cons, List.not_mem_nil, or_false] at ho
    rcases ho with rfl | rfl <;> exact (by decide : ByteArray.empty.size ≤ 9223372036854775807)
  rintro _ w2 ⟨b, rfl, hR, k2⟩
  have h3 := (At.start rfl : At w2 [] Emp w2).lit (xs := [0, 0]) (enc := nE) (E := 3) (sz := 1) (cs := #[.int .i64 0, .int .i64 0]) (m := 2) .emp (by simp [nE]) nE_len (by simp [maxLen]) rfl
  obtain ⟨sv, hsv⟩ : ∃ sv, sv = Value.slice (some ⟨w2.heap.size, 0, none⟩) 2 2 := ⟨_, rfl⟩
  obtain ⟨w3, hw3⟩ : ∃ w3, w3 = w2.alloc (.cells #[.int .i64 0, .int .i64 0] 3) := ⟨_, rfl⟩
  rw [← hsv, ← hw3] at h3
  have hst : StN (exT vv nv gv ov e0 e1).vars [0, 0] := ⟨rfl, fun v hv => by
    have : v < 2 := hv
    have : v = 0 ∨ v = 1 := by omega
    rcases this with rfl | rfl <;> simp [exT]⟩
  have hst1 : StN (exT vv nv gv ov e0 e1).vars [1, 1] := ⟨rfl, fun v hv => by
    have : v < 2 := hv
    have : v = 0 ∨ v = 1 := by omega
    rcases this with rfl | rfl <;> simp [exT]⟩
  simp [rowOf, ← hsv, ← hw3]
  refine cl_of (hx_cuts sv [0, 0] (hR.kp h3.kp) ex_g h3.own.vw hst) ?_
  rintro x w4 ⟨⟨r, hr4, hx⟩, k4⟩
  rw [ex_uns, ex_cst] at hr4
  have hr4 := hr4.uniq ex_cuts
  subst hr4
  obtain ⟨v, rfl, cs, hcs, hv, hvs⟩ := hx
  obtain ⟨c0, c1, rfl, h0, h1⟩ := two_map cs hcs
  have hw0 := hvs c0 (by simp)
  have z1 : c0.ops = [1] := congrArg Prod.fst h0
  have z2 : c0.cost = 3 := congrArg Prod.snd h0
  have z3 : c1.cost = 2 := congrArg Prod.snd h1
  rw [z1] at hw0
  have ec0 := hv.fld ctE_len (k := 0) (x := c0) rfl (o := 1) rfl
  have ec1 := hv.fld ctE_len (k := 1) (x := c1) rfl (o := 1) rfl
  have ec2 := hv.fld ctE_len (k := 0) (x := c0) rfl (o := 0) rfl
  rw [z2] at ec0
  rw [z3] at ec1
  have hk := (k1.trans k2).trans0 (h3.kp.trans0 k4)
  have h5 := (At.start rfl : At w4 [] Emp w4).lit (xs := [1]) (enc := nE) (E := 3) (sz := 1) (cs := #[.int .i64 1]) (m := 1) .emp (by simp [nE]) nE_len (by simp [maxLen]) rfl
  simp (disch := simp) [hv.len, hv.idx, ec0, ec1, ec2]
  refine cl_of (ints_spec _ _ _ _ (ints_vw (hw0.kp0 h5.kp)) (ints_vw h5.own.vw) (by simp) (by simp)) ?_
  rintro _ w6 ⟨rfl, k6⟩
  have k46 := h5.kp.trans k6
  have ec3 := (hv.kp0 k46).fld ctE_len (k := 1) (x := c1) rfl (o := 1) rfl
  rw [z3] at ec3
  simp (disch := simp) [(hv.kp0 k46).len, (hv.kp0 k46).idx, ec3, rowOf]
  have h7 := (At.start rfl : At w6 [] Emp w6).lit (xs := [0, 0]) (enc := nE) (E := 3) (sz := 1) (cs := #[.int .i64 0, .int .i64 0]) (m := 2) .emp (by simp [nE]) nE_len (by simp [maxLen]) rfl
  have hR6 := (hR.kp (h3.kp.trans k4)).kp (k46.trans h7.kp)
  refine cl_of (hx_value _ [0, 0] hR6 ex_g h7.own.vw hst) ?_
  rintro _ w8 ⟨⟨r, hr8, rfl⟩, k8⟩
  rw [ex_uns, ex_cst] at hr8
  have hr8 := hr8.uniq ex_cuts
  subst hr8
  simp [sumM, rowOf]
  have h9 := (At.start rfl : At w8 [] Emp w8).lit (xs := [1, 1]) (enc := nE) (E := 3) (sz := 1) (cs := #[.int .i64 1, .int .i64 1]) (m := 2) .emp (by simp [nE]) nE_len (by simp [maxLen]) rfl
  refine cl_of (hx_value _ [1, 1] (hR6.kp (k8.trans h9.kp)) ex_g h9.own.vw hst1) ?_
  rintro _ w10 ⟨⟨r, hr10, rfl⟩, k10⟩
  rw [ex_uns] at hr10
  have hr10 := hr10.uniq ex_done
  subst hr10
  simp [sumM]
  exact hk.trans (k46.trans (h7.kp.trans (k8.trans (h9.kp.trans k10))))
end Go.Proofs.Ytcplpogmbacnfaa
end
section
set_option linter.unusedVariables false
set_option linter.unusedSimpArgs false
namespace Go.W
open Go Go.ChangeShapes Go.WideShapes Go.ChangeAt Go.RowKit Go.Deep
section
variable {H : Type} {enc : TypeId × Value → H} {P : Program}
/-- A slice in the input, by its elements. -/
theorem el_vw {α : Type} {encα : α → List Value} {ok : α → Prop} {W : World} {t e : TypeId} {sz : Nat} {v : Value} {fu : Nat} {x : DataW H × List MemPlace} (ht : P.underlying t = some (.slice e)) (hC : P.cellsOf e = sz) (hz : 0 < sz) (he : ∀ x, (encα x).length = sz)
    (hel : ∀ n cs x, cs.length = sz → DataW.trod enc P W 0 (fun _ => true) true n e cs = some x → ∃ a, cs = encα a ∧ ok a) 
    (h : DataW.trod enc P W 0 (fun _ => true) true fu t [v] = some x) :
    ∃ l : List α, Vw W v encα l ∧ (∀ a ∈ l, ok a) ∧ l.length ≤ maxLen := by
  rcases open_slice ht h with ⟨hcs, hx⟩ | ⟨a, len, cap, m, n, D, Pl, hcs, hb, hl, hm, hmm, hx, hi⟩
  · simp at hcs
    subst hcs
    exact ⟨[], Vw.nil _ _, by simp, by simp⟩
  · simp at hcs
    subst hcs
    simp only [if_true] at hmm
    subst hmm
    obtain ⟨n0, hn0⟩ : ∃ n0, n0 = len := ⟨_, rfl⟩
    rw [← hn0] at hl ⊢
    have key : ∀ k, k ≤ m → ∃ l : List α, l.length = k ∧ (∀ x ∈ l, ok x) ∧ ∀ j u, (l.flatMap encα)[j]? = some u → W.cell? (a.add j) = some u := by
      intro k
      induction k with
      | zero => exact fun _ => ⟨[], rfl, by simp, by simp⟩
      | succ k ih =>
        intro hk
        obtain ⟨l, hll, ho, hc⟩ := ih (by omega)
        obtain ⟨cs, hcs, htr⟩ := hi k (by omega)
        rw [hC] at hcs
        obtain ⟨_, hlen, hat⟩ := World.cells?_some hcs
        obtain ⟨x, rfl, hox⟩ := hel _ _ _ hlen htr
        refine ⟨l ++ [x], by simp [hll], ?_, ?_⟩
        · intro y hy
          rcases List.mem_append.1 hy with h1 | h1
          · exact ho y h1
          · simp at h1; subst h1; exact hox
        · intro j u hj
          rw [List.flatMap_append, List.flatMap_cons, List.flatMap_nil, List.append_nil] at hj
          have hfl := flatMap_len he l
          rw [hll] at hfl
          by_cases hjl : j < k * sz
          · rw [List.getElem?_append_left (by omega)] at hj
            exact hc j u hj
          · rw [List.getElem?_append_right (by omega), hfl] at hj
            have hjs : j - k * sz < sz := by have h9 := (List.getElem?_eq_some_iff.1 hj).1; rw [he x] at h9; exact h9
            have := hat (j - k * sz) hjs
            rw [Go.Deep.add_add, show k * sz + (j - k * sz) = j by omega] at this
            rw [this]; exact hj
    obtain ⟨l, hll, ho, hc⟩ := key m (Nat.le_refl _)
    have hvw : Vw W (.slice (some a) n0 m) encα (l.take n0) := by
      have hlen : (l.take n0).length = n0 := by simp; omega
      refine .inr ⟨a, m, by rw [hlen], by omega, fun hne => ?_, fun j u hj => hc j u ?_⟩
      · have hn0 : 0 < n0 := by
          rcases Nat.eq_zero_or_pos n0 with h0 | h0
          · subst h0; simp at hne
          · exact h0
        obtain ⟨cs, hcs, _⟩ := hi 0 (by omega)
        rw [hC] at hcs
        obtain ⟨_, hlen', hat⟩ := World.cells?_some hcs
        have h1 := hat 0 hz
        rw [List.getElem?_eq_getElem (by omega)] at h1
        have := World.cell?_spot h1
        rw [Go.Deep.add_add] at this
        simp at this
        simpa [Addr.add] using this
      · have : l.flatMap encα = (l.take n0).flatMap encα ++ (l.drop n0).flatMap encα := by rw [← List.flatMap_append, List.take_append_drop]
        rw [this, List.getElem?_append_left (List.getElem?_eq_some_iff.1 hj).1]
        exact hj
    exact ⟨_, hvw, fun x hx => ho x (List.mem_of_mem_take hx), by rw [List.length_take]; omega⟩
end
end Go.W
end
section
set_option maxRecDepth 100000
set_option linter.unusedSimpArgs false
set_option linter.unusedVariables false
namespace Go.Proofs.Ytcplpogmbacnfaa
open Go Go.W Go.Tk Go.Rx Go.Lm Go.ChangeShapes Go.WideShapes Go.ChangeAt Go.RowKit
theorem own : ownKnob Try.prog.godebug = none := by kernel_rfl
theorem laidOut : laidOutB Try.prog = true := by kernel_rfl
section
variable {H : Type} {enc : TypeId × Value → H}
theorem el_int {W : World} (n : Nat) (cs : List Value) (x : DataW H × List MemPlace) (hl : cs.length = 1) (h : DataW.trod enc Try.prog W 0 (fun _ => true) true n 3 cs = some x) : ∃ a : Int, cs = iE a ∧ zok a := by
  obtain ⟨a, ha, _, wa⟩ := DataW.trod_int Try.underlying3 h
  have h1 : IntKind.i64.min = -9223372036854775808 := rfl
  have h2 : IntKind.i64.max = 9223372036854775807 := rfl
  simp only [Lit.wf, Bool.and_eq_true, decide_eq_true_eq] at wa
  exact ⟨a, ha, by unfold zok; omega⟩
theorem el_fact {W : World} (n : Nat) (cs : List Value) (x : DataW H × List MemPlace) (hl : cs.length = 2) (h : DataW.trod enc Try.prog W 0 (fun _ => true) true n 58 cs = some x) : ∃ a : Fa, cs = faE a ∧ True := by
  obtain ⟨xs, m, rfl, _, _, hxl, hg⟩ := DataW.trod_struct Try.underlying58 h
  have hc : Try.prog.cellsOf 3 = 1 := by kernel_rfl
  match cs, hl with
  | [u, v], _ =>
    have hx2 : xs.length = 2 := hxl
    have h0 := hg 0 _ rfl
    have h1 := hg 1 _ rfl
    rw [List.getElem?_eq_getElem (by omega)] at h0 h1
    obtain ⟨a, ha, _, wa⟩ := DataW.trod_int Try.underlying3 h0
    obtain ⟨b, hb, _, wb⟩ := DataW.trod_int Try.underlying3 h1
    replace ha : List.take (Try.prog.cellsOf 3) [u, v] = [.int .i64 a] := ha
    replace hb : List.take (Try.prog.cellsOf 3) [v] = [.int .i64 b] := hb
    rw [hc] at ha hb
    simp at ha hb
    subst ha hb
    exact ⟨(a, b), rfl, trivial⟩
theorem el_facts {W : World} {n : Nat} {c : Value} {x : DataW H × List MemPlace} (h : DataW.trod enc Try.prog W 0 (fun _ => true) true n 23 [c] = some x) : ∃ l : List Fa, Vw W c faE l ∧ l.length ≤ maxLen := by
  obtain ⟨l, h1, _, h2⟩ := el_vw (encα := faE) (ok := fun _ => True) (sz := 2) Try.underlying23 (by kernel_rfl) (by omega) faE_len el_fact h
  exact ⟨l, h1, h2⟩
theorem el_ints {W : World} {n : Nat} {c : Value} {x : DataW H × List MemPlace} (h : DataW.trod enc Try.prog W 0 (fun _ => true) true n 22 [c] = some x) : ∃ l : List Int, Vw W c iE l ∧ (∀ z ∈ l, zok z) ∧ l.length ≤ maxLen :=
  el_vw (encα := iE) (ok := zok) (sz := 1) Try.underlying22 (by kernel_rfl) (by omega) iE_len el_int h
theorem el_eff {W : World} (n : Nat) (cs : List Value) (x : DataW H × List MemPlace) (hl : cs.length = 3) (h : DataW.trod enc Try.prog W 0 (fun _ => true) true n 60 cs = some x) : ∃ e : Ef, cs = efE e ∧ (Vw W e.wv.1 faE e.cnd ∧ e.cnd.length ≤ maxLen) := by
  obtain ⟨xs, m, rfl, _, _, hxl, hg⟩ := DataW.trod_struct Try.underlying60 h
  have hc : Try.prog.cellsOf 3 = 1 := by kernel_rfl
  have hf : Try.prog.cellsOf 23 = 1 := by kernel_rfl
  match cs, hl with
  | [u, v, w], _ =>
    have hx2 : xs.length = 3 := hxl
    have h0 := hg 0 _ rfl
    have h1 := hg 1 _ rfl
    have h2 := hg 2 _ rfl
    rw [List.getElem?_eq_getElem (by omega)] at h0 h1 h2
    replace h0 : DataW.trod enc Try.prog W 0 (fun _ => true) true m 23 (List.take (Try.prog.cellsOf 23) [u, v, w]) = _ := h0
    rw [hf] at h0
    simp only [List.take_succ_cons, List.take_zero] at h0
    obtain ⟨l, hv, hlen⟩ := el_facts h0
    obtain ⟨a, ha, _, wa⟩ := DataW.trod_int Try.underlying3 h1
    obtain ⟨b, hb, _, wb⟩ := DataW.trod_int Try.underlying3 h2
    replace ha : List.take (Try.prog.cellsOf 3) [v, w] = [.int .i64 a] := ha
    replace hb : List.take (Try.prog.cellsOf 3) [w] = [.int .i64 b] := hb
    rw [hc] at ha hb
    simp at ha hb
    subst ha hb
    exact ⟨⟨⟨u, hv.o1⟩, l, a, b⟩, rfl, hv, hlen⟩
theorem el_op {W : World} (n : Nat) (cs : List Value) (x : DataW H × List MemPlace) (hl : cs.length = 4) (h : DataW.trod enc Try.prog W 0 (fun _ => true) true n 51 cs = some x) : ∃ o : Oq, cs = oqE o ∧ (OqR W o ∧ o.name.size ≤ maxLen ∧ o.pre.length ≤ maxLen ∧ o.effs.length ≤ maxLen ∧ ∀ e ∈ o.effs, e.cnd.length ≤ maxLen) := by
  obtain ⟨xs, m, rfl, _, _, hxl, hg⟩ := DataW.trod_struct Try.underlying51 h
  have hs : Try.prog.cellsOf 9 = 1 := by kernel_rfl
  have hc : Try.prog.cellsOf 3 = 1 := by kernel_rfl
  have hf : Try.prog.cellsOf 23 = 1 := by kernel_rfl
  have he : Try.prog.cellsOf 49 = 1 := by kernel_rfl
  match cs, hl with
  | [u, v, w, z], _ =>
    have hx2 : xs.length = 4 := hxl
    have h0 := hg 0 _ rfl
    have h1 := hg 1 _ rfl
    have h2 := hg 2 _ rfl
    have h3 := hg 3 _ rfl
    rw [List.getElem?_eq_getElem (by omega)] at h0 h1 h2 h3
    obtain ⟨nm, hn, _, wn⟩ := DataW.trod_string Try.underlying9 h0
    obtain ⟨a, ha, _, wa⟩ := DataW.trod_int Try.underlying3 h1
    replace hn : List.take (Try.prog.cellsOf 9) [u, v, w, z] = [.string nm] := hn
    replace ha : List.take (Try.prog.cellsOf 3) [v, w, z] = [.int .i64 a] := ha
    replace h2 : DataW.trod enc Try.prog W 0 (fun _ => true) true m 23 (List.take (Try.prog.cellsOf 23) [w, z]) = _ := h2
    replace h3 : DataW.trod enc Try.prog W 0 (fun _ => true) true m 49 (List.take (Try.prog.cellsOf 49) [z]) = _ := h3
    rw [hs] at hn
    rw [hc] at ha
    rw [hf] at h2
    rw [he] at h3
    simp only [List.take_succ_cons, List.take_zero] at h2 h3
    simp at hn ha
    subst hn ha
    obtain ⟨pl, hp1, hp2⟩ := el_facts h2
    obtain ⟨el, he1, he2, he3⟩ := el_vw (encα := efE) (ok := fun e : Ef => Vw W e.wv.1 faE e.cnd ∧ e.cnd.length ≤ maxLen) (sz := 3) Try.underlying49 (by kernel_rfl) (by omega) efE_len el_eff h3
    exact ⟨⟨nm, a, ⟨w, hp1.o1⟩, pl, ⟨z, he1.o1⟩, el⟩, rfl, ⟨hp1, he1, fun e h => (he2 e h).1⟩, wn, hp2, he3, fun e h => (he2 e h).2⟩
theorem open_task {W : World} {b : Nat} {v : Value} {d : DataW H} {ps : List MemPlace} (hv : Value.okWide Try.prog W .any b 26 v) (h : DataW.Trod enc Try.prog W 0 (fun _ => true) true 26 v d ps) : ∃ t : Tk, v = tkV t ∧ TkR W t ∧ TkL t := by
  simp only [Value.okWide, Try.underlying26] at hv
  obtain ⟨cs, rfl, hcs, _⟩ := hv
  have h4 : Try.prog.cellsOf 26 = 4 := by kernel_rfl
  rw [h4] at hcs
  obtain ⟨n, h⟩ := h
  obtain ⟨xs, m, rfl, _, _, hxl, hg⟩ := DataW.trod_struct Try.underlying26 h
  have hc : Try.prog.cellsOf 22 = 1 := by kernel_rfl
  have hf : Try.prog.cellsOf 23 = 1 := by kernel_rfl
  have ho : Try.prog.cellsOf 24 = 1 := by kernel_rfl
  have hl : cs.toList.length = 4 := by simpa using hcs
  have e : (Value.agg cs).cells.toList = cs.toList := rfl
  rw [e] at hg
  match hcl : cs.toList, hl with
  | [u0, u1, u2, u3], _ =>
    rw [hcl] at hg
    have hx2 : xs.length = 4 := hxl
    have h0 := hg 0 _ rfl
    have h1 := hg 1 _ rfl
    have h2 := hg 2 _ rfl
    have h3 := hg 3 _ rfl
    rw [List.getElem?_eq_getElem (by omega)] at h0 h1 h2 h3
    replace h0 : DataW.trod enc Try.prog W 0 (fun _ => true) true m 22 (List.take (Try.prog.cellsOf 22) [u0, u1, u2, u3]) = _ := h0
    replace h1 : DataW.trod enc Try.prog W 0 (fun _ => true) true m 22 (List.take (Try.prog.cellsOf 22) [u1, u2, u3]) = _ := h1
    replace h2 : DataW.trod enc Try.prog W 0 (fun _ => true) true m 23 (List.take (Try.prog.cellsOf 23) [u2, u3]) = _ := h2
    replace h3 : DataW.trod enc Try.prog W 0 (fun _ => true) true m 24 (List.take (Try.prog.cellsOf 24) [u3]) = _ := h3
    rw [hc] at h0 h1
    rw [hf] at h2
    rw [ho] at h3
    simp only [List.take_succ_cons, List.take_zero] at h0 h1 h2 h3
    obtain ⟨vl, v1, _, v2⟩ := el_ints h0
    obtain ⟨nl, n1, _, n2⟩ := el_ints h1
    obtain ⟨gl, g1, g2⟩ := el_facts h2
    obtain ⟨ol, o1, o2, o3⟩ := el_vw (encα := oqE) (ok := fun o : Oq => OqR W o ∧ o.name.size ≤ maxLen ∧ o.pre.length ≤ maxLen ∧ o.effs.length ≤ maxLen ∧ ∀ e ∈ o.effs, e.cnd.length ≤ maxLen) (sz := 4) Try.underlying24 (by kernel_rfl) (by omega) oqE_len el_op h3
    have em : maxLen = 9223372036854775807 := rfl
    refine ⟨⟨⟨u0, v1.o1⟩, ⟨u1, n1.o1⟩, ⟨u2, g1.o1⟩, ⟨u3, o1.o1⟩, vl, nl, gl, ol⟩, ?_, ⟨v1, n1, g1, o1, fun o h => (o2 o h).1⟩, ⟨n2, g2, o3, v2, fun o h => (o2 o h).2⟩⟩
    have : cs = #[u0, u1, u2, u3] := by
      apply Array.toList_inj.1; rw [hcl]
    rw [this]; rfl
end
end Go.Proofs.Ytcplpogmbacnfaa
end
section
set_option maxRecDepth 100000
set_option linter.unusedSimpArgs false
set_option linter.unusedVariables false
namespace Go.Proofs.Ytcplpogmbacnfaa
open Go Go.W Go.Tk Go.Rx Go.Lm Go.Maps
set_option maxHeartbeats 1000000 in
theorem msome_spec {w : World} (T : Nt) (hr : NtR w T) (hg : NtG T) (hb : ∀ k, k ≤ T.vars.length → (stsK T.vars k).length ≤ 10000) :
    Calls Try.prog 13 [ntV T].toArray w fun e w' => ∃ u, e = .returned u ∧ ∃ ls, (∀ s ∈ ls, StN T.vars s) ∧ ls.length ≤ 100000 ∧ Kp [] w w' ∧ LLV nE w' u ls := by
  refine enter Try.func13 mixed low13 (Nat.le_of_ble_eq_true rfl) ?_
  simp only [L13]
  have hvl := hg.vlen
  obtain ⟨b, hb2⟩ : ∃ b, b = w.heap.size := ⟨_, rfl⟩
  have h1 : At w [] (Star (ObjA b (ntO T)) Emp) (w.alloc (ntO T)) := by rw [hb2]; exact (At.start rfl).alloc _ .emp
  obtain ⟨w1, hw1⟩ : ∃ w1, w1 = w.alloc (ntO T) := ⟨_, rfl⟩
  rw [← hw1] at h1
  have hw1' : w.alloc (.cells #[T.vv.1, T.nv.1, T.gv.1, T.ov.1] 26 (0, 0)) = w1 := by rw [hw1]; rfl
  have hob := h1.obj
  unfold ntO at hob
  have h2 := h1.lit (xs := [((T.nv, T.init) : Cell1 × List Nat)]) (enc := sv1) (E := 22) (sz := 1) (cs := #[T.nv.1]) (m := 1) (Lcl.obj.star .emp) (by simp [sv1]) sv1_len (by simp [maxLen]) rfl
  obtain ⟨w2, hw2⟩ : ∃ w2, w2 = w1.alloc (.cells #[T.nv.1] 22) := ⟨_, rfl⟩
  obtain ⟨ov, hov⟩ : ∃ ov, ov = Value.slice (some ⟨w1.heap.size, 0, none⟩) 1 1 := ⟨_, rfl⟩
  rw [← hw2, ← hov] at h2
  have hob2 := h2.drop.obj
  unfold ntO at hob2
  have cnv : T.nv.1.cells = #[T.nv.1] := by
    have := T.nv.2
    cases h : T.nv.1 <;> simp_all [oneC, Value.cells]
  simp [ntV, ← hb2, hw1', cell_blk hob, cnv, rowOf, ← hw2, ← hov, cell_blk hob2]
  have hr2 := hr.kp h2.kp
  refine cl_of (states_spec T.vv.1 T.vars hr2.vars (by omega) (fun n hn => by have := hg.vars n hn; omega) hb (fun k hk s hs => by have := (sts_ok k hk s hs).1; omega)) ?_
  rintro all w3 h3
  obtain ⟨ps, hps, h4⟩ := LLA.opn (At.join (Lcl.own.star (Lcl.obj.star .emp)) h2 h3)
  have h5 : At w [] (Star (OwnA ov 22 1 sv1 [((T.nv, T.init) : Cell1 × List Nat)]) (Star (OwnA all 22 1 sv1 ps) (Star (VwsA nE ps) Emp))) w3 := (h4.by Imp.fr3).by (Imp.un (Imp.un (Imp.un Imp.dr)))
  have hpl : ps.length = (stsK T.vars T.vars.length).length := by rw [← hps]; simp
  have hbl := hb _ (Nat.le_refl _)
  have hpsok : ∀ q ∈ ps, StN T.vars q.2 := fun q hq => sts_st (by rw [← hps]; exact List.mem_map.2 ⟨q, hq, rfl⟩)
  simp
  refine loop_inv (SmI T all ps w) _ ⟨0, [(T.nv, T.init)], rfl, by omega, by simp, by simp, by simp, by simp, by simpa using h5⟩ ?_
  rintro n ρ w4 ⟨i, qs, rfl, hib, g4, g5, hql, hq, h6⟩
  have hal := h6.drop.own
  by_cases hlt : i < ps.length
  case neg =>
    have hlt' : ¬ (i : Int) < ps.length := by omega
    simp [g4, g5, hal.vw.len, hlt']
    refine ⟨qs.map (·.2), ?_, by simp; omega, h6.kp, qs, rfl, h6.own.vw, ?_⟩
    · intro s hs
      obtain ⟨q, hqm, rfl⟩ := List.mem_map.1 hs
      rcases hq q hqm with rfl | h
      · exact ⟨hg.ilen, fun v hv => hg.init v (by rw [hg.ilen]; exact hv)⟩
      · exact hpsok q h
    · intro q hqm
      rcases hq q hqm with rfl | h
      · exact (hr.kp h6.kp).init
      · exact h6.drop.drop.vws h
  have hlt' : (i : Int) < ps.length := by omega
  obtain ⟨p, hp⟩ : ∃ p, ps[i]? = some p := ⟨_, List.getElem?_eq_getElem hlt⟩
  have hpm := List.mem_of_getElem? hp
  have ep : w4.cell? (all.adr.add i) = some p.1.1 := by simpa using hal.vw.at_ sv1_len hp (o := 0) (u := p.1.1) rfl
  have cp : p.1.1.cells = #[p.1.1] := by
    have := p.1.2
    cases h : p.1.1 <;> simp_all [oneC, Value.cells]
  simp (disch := omega) [g4, g5, hal.vw.len, hlt', hal.vw.idx, ep, cp, rowOf]
  have hLX : Lcl (Star (OwnA all 22 1 sv1 ps) (Star (VwsA nE ps) Emp)) := Lcl.own.star (Lcl.vws.star .emp)
  have h7 := h6.kp0 (Lcl.own.star hLX) ((Kp.refl [] w4).alloc (.cells #[p.1.1] 22))
  refine At.append (xs := [p]) hLX h7 sv1_len sv1_one sl_34 rfl (fun j u hj => ?_) (by omega) (by unfold maxLen; omega) fun v' w5 h8 => ?_
  · simp [sv1] at hj
    rw [add_none, cell_blk alloc_new]
    simpa using hj
  have hal8 := h8.drop.own
  obtain ⟨d, hd⟩ : ∃ d, d = ps.length / 8 := ⟨_, rfl⟩
  have ed : ((ps.length : Nat) : Int).tdiv 8 = (d : Int) := by rw [hd]; rfl
  have hdl : d ≤ ps.length := by omega
  obtain ⟨i2, hi2⟩ : ∃ i2, i2 = i + (1 + d) := ⟨_, rfl⟩
  have ei : (i : Int) + (1 + (d : Int)) = (i2 : Int) := by rw [hi2]; simp
  simp (disch := omega) [g4, g5, hal8.vw.len, ed, wrap_i64, ei]
  exact ⟨_, (by omega : ps.length - i2 < ps.length - i), i2, qs ++ [p], rfl, by omega, by simp [g4], by simp, by simp; omega, fun q hqm => by
    rcases List.mem_append.1 hqm with h | h
    · exact hq q h
    · simp at h; subst h; exact .inr hpm, by simpa using h8⟩
end Go.Proofs.Ytcplpogmbacnfaa
end
section
set_option maxRecDepth 100000
set_option linter.unusedSimpArgs false
set_option linter.unusedVariables false
namespace Go.Lm
open Go.Rx
/-- What is kept by all steps and excludes the goal is a lower bound. -/
theorem inv_pot {U : List Un} {S0 G : List Nat} {c : Nat → Nat} {A : Nat → Prop} {P : List Nat → Prop} (h0 : P S0) (hg : ∀ x, P x → ¬ ∀ f ∈ G, f ∈ x) (hs : ∀ x q x', A q → Stp U x q x' → P x → P x') :
    ∃ H : List Nat → Nat, H S0 = Inf ∧ (∀ x, (∀ f ∈ G, f ∈ x) → H x = 0) ∧ ∀ x q x', A q → Stp U x q x' → H x ≤ H x' + c q := by
  have hex : ∀ x, ∃ n, (P x → n = Inf) ∧ (¬ P x → n = 0) := fun x => by
    rcases Classical.em (P x) with h | h
    · exact ⟨Inf, fun _ => rfl, fun h2 => absurd h h2⟩
    · exact ⟨0, fun h2 => absurd h2 h, fun _ => rfl⟩
  refine ⟨fun x => Classical.choose (hex x), (Classical.choose_spec (hex S0)).1 h0, fun x hx => (Classical.choose_spec (hex x)).2 fun hp => hg x hp hx, fun x q x' ha h => ?_⟩
  show Classical.choose (hex x) ≤ Classical.choose (hex x') + c q
  rcases Classical.em (P x) with hp | hp
  · rw [(Classical.choose_spec (hex x)).1 hp, (Classical.choose_spec (hex x')).1 (hs x q x' ha h hp)]
    omega
  · rw [(Classical.choose_spec (hex x)).2 hp]
    exact Nat.zero_le _
theorem LmC.inf_pot {U : List Un} {S0 G : List Nat} {c : Nat → Nat} {N C : Nat} (h : LmC U S0 G c none) (hz : Szs U S0 N C c) :
    ∃ H : List Nat → Nat, H S0 = Inf ∧ (∀ x, (∀ f ∈ G, f ∈ x) → H x = 0) ∧ ∀ x q x', Stp U x q x' → H x ≤ H x' + c q := by
  obtain ⟨g, hg, hn⟩ := h.none_inf hz rfl
  obtain ⟨H, h1, h2, h3⟩ := inv_pot (U := U) (S0 := S0) (G := G) (c := c) (A := fun _ => True) (P := fun x => ∀ f ∈ x, ∃ k, Der (wc U c) S0 f k) (fun f hf => ⟨0, .base hf⟩) (fun x hx hG => by
    obtain ⟨k, hk⟩ := hx g (hG g hg)
    exact hn c k hk) (fun x q x' _ hs hx f hf => by
    rcases hs f hf with h1 | ⟨u, hu, rfl, rfl, hnd⟩
    · exact hx f h1
    · have hex : ∀ n, ∃ j, n ∈ u.needs → Der (wc U c) S0 n j := fun n => by
        by_cases hn2 : n ∈ u.needs
        · obtain ⟨j, hj⟩ := hx n (hnd n hn2)
          exact ⟨j, fun _ => hj⟩
        · exact ⟨0, fun h => absurd h hn2⟩
      exact ⟨_, .step (mem_wc (c := c) hu) (fun n => Classical.choose (hex n)) fun n hn2 => Classical.choose_spec (hex n) hn2⟩)
  exact ⟨H, h1, h2, fun x q x' hs => h3 x q x' trivial hs⟩
end Go.Lm
namespace Go.Proofs.Ytcplpogmbacnfaa
open Go Go.W Go.Tk Go.Rx Go.Lm Go.Maps
/-- The facts of a state. -/
theorem stN_goal {T : Nt} {s : List Nat} (hg : NtG T) (h : hdB s T.goal = true) : ∀ f ∈ T.goal.map (numF T.vars), f ∈ stN T.vars s T.vars.length := hd_mem h fun f hf => (hg.goal.rng f hf).1
theorem stN_lt {T : Nt} {s : List Nat} (hst : StN T.vars s) : ∀ x ∈ stN T.vars s T.vars.length, x < T.vars.sum := fun x hx => by
  unfold stN at hx
  obtain ⟨v, hv, rfl⟩ := List.mem_map.1 hx
  have hv := List.mem_range.1 hv
  exact numF_lt (f := (v, s.getD v 0)) hv (hst.rng v hv)
/-- A step of the task is a step of the relaxed one. -/
theorem stp_op {T : Nt} {c : Nat → Nat} {s : List Nat} {q : Nat} {o : No} (hg : NtG T) (ho : T.ops[q]? = some o) (hp : hdB s o.pre = true) : Stp (uns T c) (stN T.vars s T.vars.length) q (stN T.vars (apS o s) T.vars.length) := fun f hf => by
  have hgo := hg.ops o (List.mem_of_getElem? ho)
  have hq := (List.getElem?_eq_some_iff.1 ho).1
  unfold stN at hf
  obtain ⟨v, hvr, rfl⟩ := List.mem_map.1 hf
  have hvr := List.mem_range.1 hvr
  rcases apK_src (o := o) (s := s) v o.effs.length (Nat.le_refl _) with h | ⟨j, e, he, hc, h1, h2⟩
  · left
    unfold stN
    exact List.mem_map.2 ⟨v, List.mem_range.2 hvr, by unfold apS; rw [h]⟩
  · right
    refine ⟨_, mem_uns (cost := c) hq ho he, rfl, ?_, fun n hn => ?_⟩
    · show numF T.vars (e.v, e.x) = psum T.vars v + (apS o s).getD v 0
      show psum T.vars e.v + e.x = _
      rw [h1, h2]; rfl
    · have hx := dedup_mem.1 hn
      rw [List.map_append] at hx
      rcases List.mem_append.1 hx with h | h
      · exact hd_mem hp (fun f hf => (hgo.pre.rng f hf).1) n h
      · exact hd_mem hc (fun f hf => ((hgo.cnd e (List.mem_of_getElem? he)).rng f hf).1) n h
/-- Sizes, for a small task. -/
theorem szs_ok {T : Nt} {s : List Nat} {c : Nat → Nat} (hg : NtG T) (hst : StN T.vars s) (hc : ∀ i, i < T.ops.length → c i ≤ 1048576) : Szs (uns T c) (stN T.vars s T.vars.length) 4096 1048576 c := {
  made := fun u hu => by
    have := (uns_rng hg hu).2.1
    have := vars_sum hg
    omega
  s0 := fun x hx => by
    have := stN_lt hst x hx
    have := vars_sum hg
    omega
  cost := fun u hu => hc _ (uns_rng hg hu).2.2
  sm := by unfold Inf; omega }
/-- A lower bound on distances from a bound on sets of facts. -/
def hP (T : Nt) (H : List Nat → Nat) (i : Nat) : Nat := match (stsK T.vars T.vars.length)[i]? with | some s => min Inf (H (stN T.vars s T.vars.length)) | none => 0
theorem hP_at {T : Nt} {H : List Nat → Nat} {i : Nat} {s : List Nat} (h : (stsK T.vars T.vars.length)[i]? = some s) : hP T H i = min Inf (H (stN T.vars s T.vars.length)) := by unfold hP; rw [h]
theorem hP_low {T : Nt} {c : Nat → Nat} {H : List Nat → Nat} (hT : SmT T) (hz : ∀ x, (∀ f ∈ T.goal.map (numF T.vars), f ∈ x) → H x = 0) (hs : ∀ x q x', Stp (uns T c) x q x' → H x ≤ H x' + c q) : Low (edA T) c (goalB T) (hP T H) := {
  le := fun i => by
    unfold hP
    split
    · omega
    · omega
  z := fun i h => by
    unfold goalB at h
    cases hsi : (stsK T.vars T.vars.length)[i]? with
    | none => unfold hP; rw [hsi]
    | some s =>
      rw [hsi] at h
      rw [hP_at hsi, hz _ (stN_goal hT.g h)]
      omega
  st := fun e he => by
    obtain ⟨s, o, h1, h2, h3, h4⟩ := edK_mem he
    have hst := apS_st (sts_st (List.mem_of_getElem? h1)) (hT.g.ops o (List.mem_of_getElem? h2))
    rw [hP_at h1, h4, hP_at (rk_all hst)]
    have := hs _ _ _ (stp_op (c := c) hT.g h2 h3)
    omega }
/-- The value that is returned. -/
def valO : Option (List (List Nat × Nat)) → Nat
  | none => Inf
  | some out => sumM out
theorem valP_O {U : List Un} {S0 G : List Nat} {c : Nat → Nat} {x : Value} (h : valP U S0 G c x) : ∃ r, LmC U S0 G c r ∧ x = .int .i64 (valO r : Nat) := by
  obtain ⟨r, hr, hx⟩ := h
  exact ⟨r, hr, by cases r <;> exact hx⟩
/-- The value of a state is at most its distance. -/
theorem val_low {T : Nt} {s : List Nat} {r : Option (List (List Nat × Nat))} {d : List Nat} (hT : SmT T) (hst : StN T.vars s) (hr : LmC (uns T (cst T [])) (stN T.vars s T.vars.length) (T.goal.map (numF T.vars)) (cst T []) r) (hd : Dok (edA T) (cst T []) (goalB T) d) (hdl : d.length = (stsK T.vars T.vars.length).length) : valO r ≤ d.getD (rkK T.vars s T.vars.length) 0 := by
  have hz := szs_ok hT.g hst (CsOk.nil.cst hT.g)
  have hk := rk_all hst
  have hlt : rkK T.vars s T.vars.length < d.length := by rw [hdl]; exact (List.getElem?_eq_some_iff.1 hk).1
  cases r with
  | none =>
    obtain ⟨H, h1, h2, h3⟩ := hr.inf_pot hz
    have := hd.low _ (hP_low hT h2 h3) _ hlt
    rw [hP_at hk, h1, Nat.min_self] at this
    exact this
  | some out =>
    obtain ⟨V, hV, hg⟩ := hr.some_fin out rfl
    obtain ⟨H, h1, h2, h3, _⟩ := hr.pot hz out rfl
    have := hd.low _ (hP_low hT h2 h3) _ hlt
    rw [hP_at hk, h1] at this
    have h20 := sumM_ub (C := 1048576) (hr.ub hz out rfl)
    have h21 := hr.len (n := T.ops.length) (fun u hu => (uns_rng hT.g hu).2.2) out rfl
    have h22 := posN_le (c := cst T []) T.ops.length
    have h23 := hT.ol
    have h24 : out.length * 1048576 ≤ 20 * 1048576 := Nat.mul_le_mul_right _ (by omega)
    show sumM out ≤ _
    unfold Inf at this
    omega
theorem cst_le {T : Nt} (hg : NtG T) : ∀ i, i < T.ops.length → cst T [] i ≤ 1048576 := CsOk.nil.cst hg
end Go.Proofs.Ytcplpogmbacnfaa
end
section
set_option maxRecDepth 100000
set_option linter.unusedSimpArgs false
set_option linter.unusedVariables false
namespace Go.Proofs.Ytcplpogmbacnfaa
open Go Go.W Go.Tk Go.Rx Go.Lm Go.Maps
set_option maxHeartbeats 1000000 in
theorem law_lmadmissible {w : World} (t : Tk) (ht : TkR w t) (hl : TkL t) :
    Calls Try.prog 4 [tkV t].toArray w fun e w' => ∃ x, e = .returned x ∧ x = .bool true ∧ Kp [] w w' := by
  refine enter Try.func4 mixed low4 (Nat.le_of_ble_eq_true rfl) ?_
  simp only [L4]
  obtain ⟨tb, htb⟩ : ∃ tb, tb = w.heap.size := ⟨_, rfl⟩
  obtain ⟨w1, hw1⟩ : ∃ w1, w1 = w.alloc (tkO t) := ⟨_, rfl⟩
  have k1 : Kp [] w w1 := by rw [hw1]; exact (Kp.refl [] w).alloc _
  have hw1' : w.alloc (.cells #[t.vv.1, t.nv.1, t.gv.1, t.ov.1] 26 (0, 0)) = w1 := by rw [hw1]; rfl
  have ob1 : w1.heap[tb]? = some (tkO t) := by rw [htb, hw1]; exact alloc_new
  simp [tkV, ← htb, hw1', rd_tk ob1]
  refine cl_of (small_spec t (ht.kp k1) hl) ?_
  rintro _ w2 ⟨rfl, k2⟩
  cases hsm : smallB t with
  | false =>
    simp
    refine cl_of mawake_spec ?_
    rintro _ w3 ⟨rfl, k3⟩
    simp
    exact k1.trans (k2.trans k3)
  | true =>
    obtain ⟨T, rfl, hST⟩ := small_nat hl hsm
    have hr := NtR.raw.1 ht
    simp
    refine cl_of mawake_spec ?_
    rintro _ w3 ⟨rfl, k3⟩
    have k13 := k2.trans k3
    simp [rd_tk (k13.blk ob1 (by simp)), raw_vv, raw_nv, raw_gv, raw_ov]
    refine cl_of (lnew_ok T hST.g hST.good (hr.kp (k1.trans k13)) hST.nm) ?_
    rintro _ w4 ⟨b, rfl, hR, k4⟩
    have k14 := k13.trans k4
    have hcv : CvOk T (.slice none 0 0) (cst T []) w4 := .inl ⟨rfl, fun i o ho => by unfold cst; simp [ho]⟩
    simp [rd_tk (k14.blk ob1 (by simp)), raw_vv, raw_nv, raw_gv, raw_ov]
    refine cl_of (distances_spec T (.slice none 0 0) (cst T []) (hr.kp (k1.trans k14)) hST hcv (cst_le hST.g)) ?_
    rintro bv w5 ⟨d, hdl, hdok, hdcl, hdv, k5⟩
    have k15 := k14.trans k5
    simp [rd_tk (k15.blk ob1 (by simp)), raw_vv, raw_nv, raw_gv, raw_ov]
    refine cl_of (msome_spec T (hr.kp (k1.trans k15)) hST.g (SmT.sts hST)) ?_
    rintro uv w6 ⟨ls, hls, hll, k6, hlv⟩
    obtain ⟨ps, hpl, hpv, hpr⟩ := hlv.spread
    have k16 := k15.trans k6
    have hR6 := hR.kp (k5.trans k6)
    have hdv6 := hdv.kp0 k6
    simp [hpv.len]
    refine range_loop (n := ps.length) (by omega) (fun k ρ w' => ρ 1 = .pointer (some ⟨tb, 0, none⟩) ∧ ρ 3 = .pointer (some ⟨b, 0, none⟩) ∧ ρ 5 = bv ∧ ρ 27 = uv ∧ Kp [] w6 w') (by simp) (by simp)
      ⟨by simp, by simp, by simp, by simp, Kp.refl _ _⟩ (by decide) (fun _ _ _ _ h => by simpa using h) (fun _ _ _ _ h => by simpa using h) ?_ ?_
    rotate_left
    · rintro ρ w8 ⟨g1, g3, g5, g27, k8⟩
      simp
      exact k1.trans (k16.trans k8)
    rintro k ρ w8 hk hck hlk ⟨g1, g3, g5, g27, k8⟩
    obtain ⟨p, hp⟩ : ∃ p, ps[k]? = some p := ⟨_, List.getElem?_eq_getElem hk⟩
    obtain ⟨s, hsk, hsv⟩ := hpr k p hp
    have hst := hls s (List.mem_of_getElem? hsk)
    have hpv8 := hpv.kp0 k8
    have ep : w8.cell? (uv.adr.add k) = some p.1.1 := by simpa using hpv8.at_ sv1_len hp (o := 0) (u := p.1.1) rfl
    have hki : (k : Int) < ps.length := by omega
    simp (disch := omega) [g1, g3, g5, g27, hck, hlk, hpv8.idx, ep]
    refine cl_of (hx_value p.1.1 s (hR6.kp k8) hST.g (hsv.kp0 k8) hst) ?_
    rintro _ w9 ⟨hv9, k9⟩
    obtain ⟨r, hr9, rfl⟩ := valP_O hv9
    have k19 := k16.trans (k8.trans k9)
    have hbest := val_low hST hst hr9 hdok hdl
    have hrl : rkK T.vars s T.vars.length < d.length := by rw [hdl]; exact (List.getElem?_eq_some_iff.1 (rk_all hst)).1
    obtain ⟨x, hx⟩ : ∃ x, d[rkK T.vars s T.vars.length]? = some x := ⟨_, List.getElem?_eq_getElem hrl⟩
    have hxd : d.getD (rkK T.vars s T.vars.length) 0 = x := by simp [List.getD, hx]
    rw [hxd] at hbest
    obtain ⟨h, hh⟩ : ∃ h, h = valO r := ⟨_, rfl⟩
    rw [← hh] at hbest ⊢
    have n1 : ¬ (h : Int) < 0 := by omega
    have n2 : ¬ (x : Int) < (h : Int) := by omega
    have oc9 := k19.blk ob1 (by simp)
    unfold tkO at oc9
    have hvl := hST.vl
    simp [g1, g3, g5, g27, hck, hlk, n1, cell_blk oc9, raw_vv]
    refine cl_of (rank_spec T.vv.1 p.1.1 T.vars s (hr.kp (k1.trans k19)).vars (hsv.kp0 (k8.trans k9)) hst.len (by rw [hst.len]; omega) (fun k hk => by have := rk_sm hST hst k (by rw [← hst.len]; exact hk); omega)) ?_
    rintro _ w10 ⟨rfl, k10⟩
    rw [hst.len]
    have hdv10 := hdv6.kp0 (k8.trans (k9.trans k10))
    have hkd : ((rkK T.vars s T.vars.length : Nat) : Int) < d.length := by omega
    simp (disch := omega) [g1, g3, g5, g27, hck, hlk, n1, n2, hdv10.idx, nE_cell hdv10 hx]
    exact k8.trans (k9.trans k10)
end Go.Proofs.Ytcplpogmbacnfaa
end
