/-
  Parts of the proofs of this seat's statements (LmWC, LmWD, LmWE); no conditions beyond those each theorem names.
-/
import Derived.Test.YtcplpogmbacnfaaLmWB
import Derived.Test.YtcplpogmbacnfaaRxYp
import Derived.Test.YtcplpogmbacnfaaLmPa
section
set_option maxRecDepth 100000
set_option linter.unusedSimpArgs false
set_option linter.unusedVariables false
namespace Go.Proofs.Ytcplpogmbacnfaa
open Go Go.W Go.Tk Go.Rx Go.Lm Go.Maps
theorem uns_rng {T : Nt} {c : Nat → Nat} (hg : NtG T) {u : Un} (hu : u ∈ uns T c) : (∀ n ∈ u.needs, n < T.vars.sum) ∧ u.makes < T.vars.sum ∧ u.op < T.ops.length := by
  obtain ⟨i, o, k, e, hi, ho, he, rfl⟩ := uns_mem hu
  have hgo := hg.ops o (List.mem_of_getElem? ho)
  refine ⟨fun n hn => ?_, ?_, hi⟩
  · obtain ⟨f, hf, rfl⟩ := List.mem_map.1 (dedup_mem.1 hn)
    rcases List.mem_append.1 hf with h1 | h1
    · obtain ⟨a, b⟩ := hgo.pre.rng f h1; exact numF_lt a b
    · obtain ⟨a, b⟩ := (hgo.cnd e (List.mem_of_getElem? he)).rng f h1; exact numF_lt a b
  · obtain ⟨a, b⟩ := hgo.eff e (List.mem_of_getElem? he)
    exact numF_lt a b
theorem vars_sum {T : Nt} (hg : NtG T) : T.vars.sum ≤ 4096 := by
  have hvl := hg.vlen
  have := sum_le (N := 64) fun n hn => (hg.vars n hn).2
  omega
theorem lu_ok {T : Nt} {UL : List Un} (hg : NtG T) (h : Lk UL (uns T (cst T []))) : LuOk UL T.vars.sum (T.ops.map (·.cost)).length := {
  rng := fun u hu n hn => by
    obtain ⟨v, hv, he⟩ := h.left hu
    exact (uns_rng hg hv).1 n ((he.nd n).1 hn)
  made := fun u hu => by
    obtain ⟨v, hv, he⟩ := h.left hu
    rw [he.mq]
    exact (uns_rng hg hv).2.1
  op := fun u hu => by
    obtain ⟨v, hv, he⟩ := h.left hu
    rw [he.op, List.length_map]
    exact (uns_rng hg hv).2.2
  nl := fun u hu => by
    obtain ⟨v, hv, he⟩ := h.left hu
    exact he.nl
  ul := by
    rw [h.1]
    have := unsK_len (cost := cst T []) (fun o ho => (hg.ops o ho).elen) T.ops.length
    have := hg.olen
    show (unsK T (cst T []) T.ops.length).length ≤ 1000000
    omega
  nn := vars_sum hg }
theorem cf_cst {T : Nt} : cf (T.ops.map (·.cost)) = cst T [] := by
  funext i
  unfold cf cst
  simp only [List.length_nil, if_true, List.getD, List.getElem?_map]
  cases T.ops[i]? <;> rfl
theorem goal_lt {T : Nt} (hg : NtG T) : ∀ x ∈ T.goal.map (numF T.vars), x < T.vars.sum := fun x hx => by
  obtain ⟨f, hf, rfl⟩ := List.mem_map.1 hx
  obtain ⟨a, b⟩ := hg.goal.rng f hf
  exact numF_lt a b
theorem goal_len {T : Nt} (hg : NtG T) : (T.goal.map (numF T.vars)).length ≤ 1000000 := by
  have := hg.goal.len
  have := hg.vlen
  rw [List.length_map]
  omega
theorem costs_le {T : Nt} (hg : NtG T) : ∀ x ∈ T.ops.map (·.cost), x ≤ 1048576 := fun x hx => by
  obtain ⟨o, ho, rfl⟩ := List.mem_map.1 hx
  exact (hg.ops o ho).cost
theorem costs_len {T : Nt} (hg : NtG T) : (T.ops.map (·.cost)).length ≤ 4096 := by
  rw [List.length_map]
  exact hg.olen
section
variable {w : World} {b : Nat} {T : Nt}
theorem hx_cuts (sv : Value) (s : List Nat) (hR : Hrx b T w) (hg : NtG T) (hs : Vw w sv nE s) (hst : StN T.vars s) :
    Calls Try.prog 15 [.pointer (some ⟨b, 0, none⟩), sv].toArray w fun e w' => ∃ x, e = .returned x ∧ CutsP (uns T (cst T [])) (stN T.vars s T.vars.length) (T.goal.map (numF T.vars)) (cst T []) x w' ∧ Kp [] w w' := by
  obtain ⟨UL, vv, fv, gv, cv, lv, rs, hk, hR⟩ := hR
  refine Calls.mono (cuts_walk sv s hR hs hst (lu_ok hg hk) hg.vlen (goal_lt hg) (goal_len hg) (costs_le hg) (costs_len hg)) ?_
  rintro e w' ⟨x, rfl, ⟨r, hr, hx⟩, k⟩
  rw [cf_cst] at hr
  exact ⟨x, rfl, ⟨r, hk.lmc hr, hx⟩, k⟩
theorem hx_value (sv : Value) (s : List Nat) (hR : Hrx b T w) (hg : NtG T) (hs : Vw w sv nE s) (hst : StN T.vars s) :
    Calls Try.prog 17 [.pointer (some ⟨b, 0, none⟩), sv].toArray w fun e w' => ∃ x, e = .returned x ∧ valP (uns T (cst T [])) (stN T.vars s T.vars.length) (T.goal.map (numF T.vars)) (cst T []) x ∧ Kp [] w w' := by
  obtain ⟨UL, vv, fv, gv, cv, lv, rs, hk, hR⟩ := hR
  refine Calls.mono (value_walk sv s hR hs hst (lu_ok hg hk) hg.vlen (goal_lt hg) (goal_len hg) (costs_le hg) (costs_len hg)) ?_
  rintro e w' ⟨x, rfl, ⟨r, hr, hx⟩, k⟩
  rw [cf_cst] at hr
  exact ⟨x, rfl, ⟨r, hk.lmc hr, hx⟩, k⟩
theorem hx_cbad (sv : Value) (s : List Int) (hR : Hrx b T w) (hs : Vw w sv iE s) (hl : s.length ≤ 9223372036854775807) (hbad : stateB (T.vars.map iN) s = false) : RetsTo 15 [.pointer (some ⟨b, 0, none⟩), sv] (.tuple #[.slice none 0 0, errV 2]) w := by
  obtain ⟨UL, vv, fv, gv, cv, lv, rs, hk, hR⟩ := hR
  exact cuts_bad sv s hR hs hl hbad
theorem hx_vbad (sv : Value) (s : List Int) (hR : Hrx b T w) (hs : Vw w sv iE s) (hl : s.length ≤ 9223372036854775807) (hbad : stateB (T.vars.map iN) s = false) : RetsTo 17 [.pointer (some ⟨b, 0, none⟩), sv] infV w := by
  obtain ⟨UL, vv, fv, gv, cv, lv, rs, hk, hR⟩ := hR
  exact value_bad sv s hR hs hl hbad
end
end Go.Proofs.Ytcplpogmbacnfaa
end
section
set_option maxRecDepth 100000
set_option linter.unusedSimpArgs false
set_option linter.unusedVariables false
namespace Go.Proofs.Ytcplpogmbacnfaa
open Go Go.W Go.Tk Go.Rx Go.Lm Go.Maps
def nC : Cell1 := ⟨.slice none 0 0, rfl⟩
/-- The example. -/
def exT (vv nv gv ov e0 e1 : Cell1) : Nt := ⟨vv, nv, gv, ov, [2, 2], [0, 0], [(0, 1), (1, 1)], [⟨ByteArray.empty, 2, nC, [], e0, [⟨nC, [], 0, 1⟩]⟩, ⟨ByteArray.empty, 3, nC, [], e1, [⟨nC, [], 1, 1⟩]⟩]⟩
set_option maxHeartbeats 1000000 in
theorem example_spec {w : World} : Calls Try.prog 30 [].toArray w fun e w' => ∃ x, e = .returned x ∧ ∃ vv nv gv ov e0 e1, x = ntV (exT vv nv gv ov e0 e1) ∧ NtR w' (exT vv nv gv ov e0 e1) ∧ Kp [] w w' := by
  refine enter Try.func30 mixed low30 (Nat.le_of_ble_eq_true rfl) ?_
  simp only [L30]
  have e0 : ∀ (w : World) (o : Obj), (w.alloc o).heap.size = w.heap.size + 1 := fun w o => by simp
  obtain ⟨rb, hrb⟩ : ∃ rb, rb = w.heap.size := ⟨_, rfl⟩
  have a1 : At w [] (Star (ObjA rb (.cells #[.slice none 0 0, .slice none 0 0, .slice none 0 0, .slice none 0 0] 26 (0, 0))) Emp) (w.alloc (.cells #[.slice none 0 0, .slice none 0 0, .slice none 0 0, .slice none 0 0] 26 (0, 0))) := by rw [hrb]; exact (At.start rfl).alloc _ .emp
  have a2 := a1.lit (xs := [2, 2]) (enc := nE) (E := 3) (sz := 1) (cs := #[.int .i64 2, .int .i64 2]) (m := 2) (Lcl.obj.star .emp) (by simp [nE]) nE_len (by simp [maxLen]) rfl
  have a3 := a2.lit (xs := [0, 0]) (enc := nE) (E := 3) (sz := 1) (cs := #[.int .i64 0, .int .i64 0]) (m := 2) (Lcl.own.star (Lcl.obj.star .emp)) (by simp [nE]) nE_len (by simp [maxLen]) rfl
  have a4 := a3.lit (xs := [((0, 1) : Fc), (1, 1)]) (enc := fcE) (E := 58) (sz := 2) (cs := #[.int .i64 0, .int .i64 1, .int .i64 1, .int .i64 1]) (m := 2) (Lcl.own.star (Lcl.own.star (Lcl.obj.star .emp))) (by simp [fcE]) fcE_len (by simp [maxLen]) rfl
  have a5 := a4.lit (xs := [(⟨nC, [], 0, 1⟩ : Nf)]) (enc := nfE) (E := 60) (sz := 3) (cs := #[.slice none 0 0, .int .i64 0, .int .i64 1]) (m := 1) (Lcl.own.star (Lcl.own.star (Lcl.own.star (Lcl.obj.star .emp)))) (by simp [nfE, nC]) nfE_len (by simp [maxLen]) rfl
  have a6 := a5.lit (xs := [(⟨nC, [], 1, 1⟩ : Nf)]) (enc := nfE) (E := 60) (sz := 3) (cs := #[.slice none 0 0, .int .i64 1, .int .i64 1]) (m := 1) (Lcl.own.star (Lcl.own.star (Lcl.own.star (Lcl.own.star (Lcl.obj.star .emp))))) (by simp [nfE, nC]) nfE_len (by simp [maxLen]) rfl
  simp only [e0, ← hrb] at a2 a3 a4 a5 a6
  obtain ⟨vv, hvv⟩ : ∃ vv, vv = Value.slice (some ⟨rb + 1, 0, none⟩) 2 2 := ⟨_, rfl⟩
  obtain ⟨nv, hnv⟩ : ∃ nv, nv = Value.slice (some ⟨rb + 1 + 1, 0, none⟩) 2 2 := ⟨_, rfl⟩
  obtain ⟨gv, hgv⟩ : ∃ gv, gv = Value.slice (some ⟨rb + 1 + 1 + 1, 0, none⟩) 2 2 := ⟨_, rfl⟩
  obtain ⟨ev, hev⟩ : ∃ ev, ev = Value.slice (some ⟨rb + 1 + 1 + 1 + 1, 0, none⟩) 1 1 := ⟨_, rfl⟩
  obtain ⟨fv, hfv⟩ : ∃ fv, fv = Value.slice (some ⟨rb + 1 + 1 + 1 + 1 + 1, 0, none⟩) 1 1 := ⟨_, rfl⟩
  obtain ⟨ov, hov⟩ : ∃ ov, ov = Value.slice (some ⟨rb + 1 + 1 + 1 + 1 + 1 + 1, 0, none⟩) 2 2 := ⟨_, rfl⟩
  have o1 : oneC vv = true := by rw [hvv]; rfl
  have o2 : oneC nv = true := by rw [hnv]; rfl
  have o3 : oneC gv = true := by rw [hgv]; rfl
  have o4 : oneC ev = true := by rw [hev]; rfl
  have o5 : oneC fv = true := by rw [hfv]; rfl
  have o6 : oneC ov = true := by rw [hov]; rfl
  rw [← hgv, ← hnv, ← hvv, ← hev, ← hfv] at a6
  have a7 := a6.lit (xs := [(⟨ByteArray.empty, 2, nC, [], ⟨ev, o4⟩, [⟨nC, [], 0, 1⟩]⟩ : No), ⟨ByteArray.empty, 3, nC, [], ⟨fv, o5⟩, [⟨nC, [], 1, 1⟩]⟩]) (enc := noE) (E := 51) (sz := 4) (cs := #[.string ByteArray.empty, .int .i64 2, .slice none 0 0, ev, .string ByteArray.empty, .int .i64 3, .slice none 0 0, fv]) (m := 2) (Lcl.own.star (Lcl.own.star (Lcl.own.star (Lcl.own.star (Lcl.own.star (Lcl.obj.star .emp)))))) (by simp [noE, nC]) noE_len (by simp [maxLen]) rfl
  simp only [e0, ← hrb] at a7
  rw [← hov] at a7
  simp [rowOf, ← hrb]
  rw [← hgv, ← hnv, ← hvv, ← hev, ← hfv, ← hov]
  refine (a7.by Imp.fr7).st (Lcl.own.star (Lcl.own.star (Lcl.own.star (Lcl.own.star (Lcl.own.star (Lcl.own.star .emp)))))) (by simp) (by simp [o1, o2, o3, o6]) fun w8 h8 => ?_
  simp
  refine postL_c1 ag_26 (by simp) h8.obj (by simp) rfl ?_
  have hf := h8.drop
  refine ⟨_, rfl, vv, o1, nv, o2, gv, o3, ov, o6, ev, o4, fv, o5, by simp [ntV, exT], ⟨hf.drop.drop.drop.drop.drop.own.vw, hf.drop.drop.drop.drop.own.vw, hf.drop.drop.drop.own.vw, hf.own.vw, fun o ho => ?_⟩, h8.kp⟩
  simp only [exT, List.mem_cons, List.not_mem_nil, or_false] at ho
  rcases ho with rfl | rfl
  · exact ⟨Vw.nil _ _, hf.drop.drop.own.vw, fun e he => by simp at he; subst he; exact Vw.nil _ _⟩
  · exact ⟨Vw.nil _ _, hf.drop.own.vw, fun e he => by simp at he; subst he; exact Vw.nil _ _⟩
end Go.Proofs.Ytcplpogmbacnfaa
end
section
set_option maxRecDepth 100000
set_option linter.unusedSimpArgs false
set_option linter.unusedVariables false
namespace Go.Tk
theorem map_inj {α β : Type} {f : α → β} (h : ∀ x y, f x = f y → x = y) : ∀ {l l' : List α}, l.map f = l'.map f → l = l'
  | [], [], _ => rfl
  | [], _ :: _, e => by simp at e
  | _ :: _, [], e => by simp at e
  | a :: l, b :: l', e => by
    simp only [List.map_cons, List.cons.injEq] at e
    rw [h _ _ e.1, map_inj h e.2]
theorem faN_inj (a b : Fc) (h : faN a = faN b) : a = b := by
  obtain ⟨a1, a2⟩ := a
  obtain ⟨b1, b2⟩ := b
  simp only [faN, Prod.mk.injEq] at h
  have h1 : a1 = b1 := by omega
  have h2 : a2 = b2 := by omega
  rw [h1, h2]
theorem Nf.raw_inj (a b : Nf) (h : a.raw = b.raw) : a = b := by
  obtain ⟨a1, a2, a3, a4⟩ := a
  obtain ⟨b1, b2, b3, b4⟩ := b
  simp only [Nf.raw, Ef.mk.injEq] at h
  obtain ⟨h1, h2, h3, h4⟩ := h
  have h2 := map_inj faN_inj h2
  have h3 : a3 = b3 := by omega
  have h4 : a4 = b4 := by omega
  subst h1 h2 h3 h4
  rfl
theorem No.raw_inj (a b : No) (h : a.raw = b.raw) : a = b := by
  obtain ⟨a1, a2, a3, a4, a5, a6⟩ := a
  obtain ⟨b1, b2, b3, b4, b5, b6⟩ := b
  simp only [No.raw, Oq.mk.injEq] at h
  obtain ⟨h1, h2, h3, h4, h5, h6⟩ := h
  have h2 : a2 = b2 := by omega
  have h4 := map_inj faN_inj h4
  have h6 := map_inj Nf.raw_inj h6
  subst h1 h2 h3 h4 h5 h6
  rfl
theorem Nt.raw_inj (a b : Nt) (h : a.raw = b.raw) : a = b := by
  obtain ⟨a1, a2, a3, a4, a5, a6, a7, a8⟩ := a
  obtain ⟨b1, b2, b3, b4, b5, b6, b7, b8⟩ := b
  simp only [Nt.raw, Tk.mk.injEq] at h
  obtain ⟨h1, h2, h3, h4, h5, h6, h7, h8⟩ := h
  have hi : ∀ x y : Nat, iN x = iN y → x = y := fun x y h => by unfold iN at h; omega
  have h5 := map_inj hi h5
  have h6 := map_inj hi h6
  have h7 := map_inj faN_inj h7
  have h8 := map_inj No.raw_inj h8
  subst h1 h2 h3 h4 h5 h6 h7 h8
  rfl
end Go.Tk
namespace Go.Proofs.Ytcplpogmbacnfaa
open Go Go.W Go.Tk Go.Rx Go.Lm Go.Maps
theorem lnew_ok {w : World} (T : Nt) (hg : NtG T) (hgood : goodB T.raw = true) (hr : NtR w T) (hnm : ∀ o ∈ T.ops, o.name.size ≤ 9223372036854775807) :
    Calls Try.prog 12 [ntV T].toArray w fun e w' => ∃ x, e = .returned x ∧ ∃ b, x = .tuple #[.pointer (some ⟨b, 0, none⟩), .nilIface] ∧ Hrx b T w' ∧ Kp [] w w' := by
  refine Calls.mono (lnew_walk T.raw (NtR.raw.2 hr) (hg.lens hnm)) ?_
  rintro e w' ⟨x, rfl, hx, k⟩
  refine ⟨x, rfl, ?_⟩
  unfold HnA at hx
  rw [(chk_good T.raw).2 hgood] at hx
  obtain ⟨b, T', e, _, rfl, hh⟩ := hx
  have e := Nt.raw_inj _ _ e
  subst e
  exact ⟨b, rfl, hh, k⟩
theorem ex_good {vv nv gv ov e0 e1 : Cell1} : goodB (exT vv nv gv ov e0 e1).raw = true := by
  unfold goodB
  rfl
theorem ex_g {vv nv gv ov e0 e1 : Cell1} : NtG (exT vv nv gv ov e0 e1) := by
  obtain ⟨T, e, hg⟩ := good_nat (ex_good (vv := vv) (nv := nv) (gv := gv) (ov := ov) (e0 := e0) (e1 := e1))
  rw [← Nt.raw_inj _ _ e]
  exact hg
theorem ex_uns {vv nv gv ov e0 e1 : Cell1} : uns (exT vv nv gv ov e0 e1) (cst (exT vv nv gv ov e0 e1) []) = E2 := rfl
theorem ex_cst {vv nv gv ov e0 e1 : Cell1} : cst (exT vv nv gv ov e0 e1) [] = cE 2 3 := by
  funext i
  match i with
  | 0 => rfl
  | 1 => rfl
  | i + 2 => rfl
theorem two_map {α β : Type} {f : α → β} {p q : β} : ∀ l : List α, l.map f = [p, q] → ∃ a b, l = [a, b] ∧ f a = p ∧ f b = q
  | [a, b], h => by simp only [List.map_cons, List.map_nil, List.cons.injEq, and_true] at h; exact ⟨a, b, rfl, h.1, h.2⟩
  | [], h => by simp at h
  | [a], h => by simp at h
  | a :: b :: c :: l, h => by simp at h
set_option maxHeartbeats 1000000 in
theorem mawake_spec {w : World} : Calls Try.prog 11 [].toArray w fun e w' => ∃ x, e = .returned x ∧ x = .bool true ∧ Kp [] w w' := by
  refine enter Try.func11 mixed low11 (Nat.le_of_ble_eq_true rfl) ?_
  simp only [L11]
  simp
  refine cl_of example_spec ?_
  rintro _ w1 ⟨vv, nv, gv, ov, e0, e1, rfl, hr, k1⟩
  simp
  refine cl_of (lnew_ok _ ex_g ex_good hr (fun o ho => ?_)) ?_
  · simp only [exT, List.mem_cons, List.not_mem_nil, or_false] at ho
    rcases ho with rfl | rfl <;> exact (by decide : ByteArray.empty.size ≤ 9223372036854775807)
  rintro _ w2 ⟨b, rfl, hR, k2⟩
  have h3 := (At.start rfl : At w2 [] Emp w2).lit (xs := [0, 0]) (enc := nE) (E := 3) (sz := 1) (cs := #[.int .i64 0, .int .i64 0]) (m := 2) .emp (by simp [nE]) nE_len (by simp [maxLen]) rfl
  obtain ⟨sv, hsv⟩ : ∃ sv, sv = Value.slice (some ⟨w2.heap.size, 0, none⟩) 2 2 := ⟨_, rfl⟩
  obtain ⟨w3, hw3⟩ : ∃ w3, w3 = w2.alloc (.cells #[.int .i64 0, .int .i64 0] 3) := ⟨_, rfl⟩
  rw [← hsv, ← hw3] at h3
  have hst : StN (exT vv nv gv ov e0 e1).vars [0, 0] := ⟨rfl, fun v hv => by
    have : v < 2 := hv
    have : v = 0 ∨ v = 1 := by omega
    rcases this with rfl | rfl <;> simp [exT]⟩
  have hst1 : StN (exT vv nv gv ov e0 e1).vars [1, 1] := ⟨rfl, fun v hv => by
    have : v < 2 := hv
    have : v = 0 ∨ v = 1 := by omega
    rcases this with rfl | rfl <;> simp [exT]⟩
  simp [rowOf, ← hsv, ← hw3]
  refine cl_of (hx_cuts sv [0, 0] (hR.kp h3.kp) ex_g h3.own.vw hst) ?_
  rintro x w4 ⟨⟨r, hr4, hx⟩, k4⟩
  rw [ex_uns, ex_cst] at hr4
  have hr4 := hr4.uniq ex_cuts
  subst hr4
  obtain ⟨v, rfl, cs, hcs, hv, hvs⟩ := hx
  obtain ⟨c0, c1, rfl, h0, h1⟩ := two_map cs hcs
  have hw0 := hvs c0 (by simp)
  have z1 : c0.ops = [1] := congrArg Prod.fst h0
  have z2 : c0.cost = 3 := congrArg Prod.snd h0
  have z3 : c1.cost = 2 := congrArg Prod.snd h1
  rw [z1] at hw0
  have ec0 := hv.fld ctE_len (k := 0) (x := c0) rfl (o := 1) rfl
  have ec1 := hv.fld ctE_len (k := 1) (x := c1) rfl (o := 1) rfl
  have ec2 := hv.fld ctE_len (k := 0) (x := c0) rfl (o := 0) rfl
  rw [z2] at ec0
  rw [z3] at ec1
  have hk := (k1.trans k2).trans0 (h3.kp.trans0 k4)
  have h5 := (At.start rfl : At w4 [] Emp w4).lit (xs := [1]) (enc := nE) (E := 3) (sz := 1) (cs := #[.int .i64 1]) (m := 1) .emp (by simp [nE]) nE_len (by simp [maxLen]) rfl
  simp (disch := simp) [hv.len, hv.idx, ec0, ec1, ec2]
  refine cl_of (ints_spec _ _ _ _ (ints_vw (hw0.kp0 h5.kp)) (ints_vw h5.own.vw) (by simp) (by simp)) ?_
  rintro _ w6 ⟨rfl, k6⟩
  have k46 := h5.kp.trans k6
  have ec3 := (hv.kp0 k46).fld ctE_len (k := 1) (x := c1) rfl (o := 1) rfl
  rw [z3] at ec3
  simp (disch := simp) [(hv.kp0 k46).len, (hv.kp0 k46).idx, ec3, rowOf]
  have h7 := (At.start rfl : At w6 [] Emp w6).lit (xs := [0, 0]) (enc := nE) (E := 3) (sz := 1) (cs := #[.int .i64 0, .int .i64 0]) (m := 2) .emp (by simp [nE]) nE_len (by simp [maxLen]) rfl
  have hR6 := (hR.kp (h3.kp.trans k4)).kp (k46.trans h7.kp)
  refine cl_of (hx_value _ [0, 0] hR6 ex_g h7.own.vw hst) ?_
  rintro _ w8 ⟨⟨r, hr8, rfl⟩, k8⟩
  rw [ex_uns, ex_cst] at hr8
  have hr8 := hr8.uniq ex_cuts
  subst hr8
  simp [sumM, rowOf]
  have h9 := (At.start rfl : At w8 [] Emp w8).lit (xs := [1, 1]) (enc := nE) (E := 3) (sz := 1) (cs := #[.int .i64 1, .int .i64 1]) (m := 2) .emp (by simp [nE]) nE_len (by simp [maxLen]) rfl
  refine cl_of (hx_value _ [1, 1] (hR6.kp (k8.trans h9.kp)) ex_g h9.own.vw hst1) ?_
  rintro _ w10 ⟨⟨r, hr10, rfl⟩, k10⟩
  rw [ex_uns] at hr10
  have hr10 := hr10.uniq ex_done
  subst hr10
  simp [sumM]
  exact hk.trans (k46.trans (h7.kp.trans (k8.trans (h9.kp.trans k10))))
end Go.Proofs.Ytcplpogmbacnfaa
end
