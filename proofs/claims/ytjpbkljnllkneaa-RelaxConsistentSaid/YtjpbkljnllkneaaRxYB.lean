/-
  A part of the proofs of this seat's statements (RxYB); no conditions beyond those each theorem names.
-/
import Derived.Test.YtjpbkljnllkneaaRxYA
set_option maxRecDepth 100000
set_option linter.unusedSimpArgs false
set_option linter.unusedVariables false
namespace Go.Proofs.Ytjpbkljnllkneaa
open Go Go.W Go.Tk Go.Rx Go.Maps
section
variable {w : World} {b : Nat} {T : Nt} {U : List Un}
theorem rl_facts (sv : Value) (s : List Nat) (hR : Rlx b T U w) (hs : Vw w sv nE s) (hst : StN T.vars s) (hS : Sm T.vars U) :
    Calls Try.prog 29 [.pointer (some ⟨b, 0, none⟩), sv].toArray w fun e w' => ∃ u, e = .returned u ∧ ∃ V, IsVal U (stN T.vars s T.vars.length) V ∧ Kp [] w w' ∧ LLV iE w' u (tbI T.vars (iV V)) := by
  obtain ⟨vv, gv, fv, uv, nd, fr, rs, ps, h⟩ := hR
  exact facts_ok sv s h hs hst hS
theorem rl_max (sv : Value) (s : List Nat) (hR : Rlx b T U w) (hg : NtG T) (hs : Vw w sv nE s) (hst : StN T.vars s) (hS : Sm T.vars U) :
    Calls Try.prog 17 [.pointer (some ⟨b, 0, none⟩), sv].toArray w fun e w' => ∃ x, e = .returned x ∧ ∃ V, IsVal U (stN T.vars s T.vars.length) V ∧ x = .int .i64 (grF T.vars V T.goal : Nat) ∧ Kp [] w w' := by
  obtain ⟨vv, gv, fv, uv, nd, fr, rs, ps, h⟩ := hR
  exact max_ok sv s h hg.goal hs hst hS
theorem rl_reached (sv wv : Value) (s : List Nat) (ws : List Int) (hR : Rlx b T U w) (hg : NtG T) (hs : Vw w sv nE s) (hw : Vw w wv iE ws) (hwl : ws.length ≤ 1000) (hwr : ∀ z ∈ ws, zok z) (hst : StN T.vars s) (hS : Sm T.vars U) :
    Calls Try.prog 21 [.pointer (some ⟨b, 0, none⟩), sv, wv].toArray w fun e w' => ∃ x, e = .returned x ∧ ∃ V, IsVal (allow (okL ws) U) (stN T.vars s T.vars.length) V ∧ x = .bool (decide (grF T.vars V T.goal < Inf)) ∧ Kp [] w w' := by
  obtain ⟨vv, gv, fv, uv, nd, fr, rs, ps, h⟩ := hR
  exact reached_ok sv wv s ws h hg.goal hs hw hwl hwr hst hS
theorem rl_supp (sv : Value) (s : List Nat) (f : Fa) (hR : Rlx b T U w) (hs : Vw w sv nE s) (hst : StN T.vars s) (hS : Sm T.vars U) :
    Calls Try.prog 25 [.pointer (some ⟨b, 0, none⟩), sv, faV f].toArray w fun e w' => ∃ x, e = .returned x ∧ (∀ V, IsVal U (stN T.vars s T.vars.length) V → x = prV (supF T.vars s U V f)) ∧ Kp [] w w' := by
  obtain ⟨vv, gv, fv, uv, nd, fr, rs, ps, h⟩ := hR
  exact supporter_ok sv s f h hs hst hS
theorem rl_levels (sv : Value) (s : List Nat) (hR : Rlx b T U w) (hs : Vw w sv nE s) (hst : StN T.vars s) (hS : Sm T.vars U) :
    Calls Try.prog 30 [.pointer (some ⟨b, 0, none⟩), sv].toArray w fun e w' => ∃ u, e = .returned u ∧ ∃ L, IsLev U (stN T.vars s T.vars.length) L ∧ Kp [] w w' ∧ LLV iE w' u (tbI T.vars L) := by
  obtain ⟨vv, gv, fv, uv, nd, fr, rs, ps, h⟩ := hR
  exact levels_ok sv s h hs hst hS
end
theorem chain_uns {T : Nt} (hv : T.vars = [4]) (hl : T.ops.length = 3) (h : ∀ i o, T.ops[i]? = some o → IsC i o) : uns T (cst T []) = U3 := by
  obtain ⟨a, b, c, e, ha, hb, hc⟩ := chain_ops hl h
  have key : ∀ {i : Nat} {o : No}, T.ops[i]? = some o → IsC i o → opU T.vars o i (cst T [] i) o.effs.length = [⟨i, 0, 2, i + 1, [i]⟩] := by
    intro i o ho hi
    obtain ⟨_, h2, h3, e2, h4, h5, h6, h7, _⟩ := hi
    have ec : cst T [] i = 2 := by unfold cst; simp only [List.length_nil, if_true, ho]; exact h2
    rw [ec, hv]
    unfold opU
    rw [h4]
    simp only [List.length_singleton, List.range_one, List.map_cons, List.map_nil]
    rw [unA_at (e := e2) (by rw [h4]; rfl), h3, h5, h6, h7]
    simp [numF, psum, dedup, ndd]
  have e0 : T.ops[0]? = some a := by rw [e]; rfl
  have e1 : T.ops[1]? = some b := by rw [e]; rfl
  have e2 : T.ops[2]? = some c := by rw [e]; rfl
  unfold uns
  rw [hl, unsK_succ e2, unsK_succ e1, unsK_succ e0, key e0 ha, key e1 hb, key e2 hc]
  rfl
theorem ints_vw {w : World} {v : Value} {l : List Nat} (h : Vw w v nE l) : Vw w v iE (l.map iN) := vw_n.2 h
theorem lone {α : Type} {enc : α → List Value} {v : Value} {l : List α} {X : Asr} (ho : oneC v = true) : Imp (Star (VwA v enc l) X) (Star (VwsA enc [((⟨v, ho⟩, l) : Cell1 × List α)]) X) := by
  rintro w F ⟨Fa, Fb, ⟨h1, e1, h2⟩, h3, hd, rfl⟩
  exact ⟨_, ⟨Fa, Fb, ⟨fun p hp => by simp at hp; subst hp; exact h1, fun x hx => h2 x (by rw [← e1]; exact hx), by simpa using e1⟩, h3, hd, rfl⟩, fun x hx => hx⟩
def ChT (T : Nt) (w : World) : Prop := NtR w T ∧ T.vars = [4] ∧ T.init = [0] ∧ T.goal = [(0, 3)] ∧ T.ops.length = 3 ∧ ∀ i o, T.ops[i]? = some o → IsC i o
theorem chain_ok {w : World} : Calls Try.prog 37 [].toArray w fun e w' => ∃ x, e = .returned x ∧ ∃ T, x = ntV T ∧ ChT T w' ∧ Kp [] w w' := by
  refine Calls.mono chain_spec ?_
  rintro e w' ⟨T, h1, h2, h3, h4⟩
  exact ⟨_, h1, T, rfl, ⟨h2, h4⟩, h3⟩
set_option maxHeartbeats 1000000 in
theorem awake_spec {w : World} : Calls Try.prog 12 [].toArray w fun e w' => ∃ x, e = .returned x ∧ x = .bool true ∧ Kp [] w w' := by
  refine enter Try.func12 mixed low12 (Nat.le_of_ble_eq_true rfl) ?_
  simp only [L12]
  simp
  refine cl_of chain_ok ?_
  rintro _ w1 ⟨T, rfl, ⟨hr, hv, hn, hgl, hl, hops⟩, k1⟩
  have hST := chain_small hv hn hgl hl hops
  have hU := chain_uns hv hl hops
  have hS := SmT.sm hST (c := cst T []) (fun i hi => CsOk.nil.cst hST.g i hi)
  simp
  refine cl_of (new_ok T (.slice none 0 0) [] hST hr (Vw.nil _ _) CsOk.nil) ?_
  rintro _ w2 ⟨b, rfl, hR, k2⟩
  rw [hU] at hS hR
  have h3 := (At.start rfl : At w2 [] Emp w2).lit (xs := [0]) (enc := nE) (E := 3) (sz := 1) (cs := #[.int .i64 0]) (m := 1) .emp (by simp [nE]) nE_len (by simp [maxLen]) rfl
  obtain ⟨sv, hsv⟩ : ∃ sv, sv = Value.slice (some ⟨w2.heap.size, 0, none⟩) 1 1 := ⟨_, rfl⟩
  obtain ⟨w3, hw3⟩ : ∃ w3, w3 = w2.alloc (.cells #[.int .i64 0] 3) := ⟨_, rfl⟩
  rw [← hsv, ← hw3] at h3
  have hs3 := h3.own.vw
  have hst : StN T.vars [0] := by rw [hv]; exact ⟨rfl, fun v hv => by simp at hv; subst hv; simp⟩
  have hSt : stN T.vars [0] T.vars.length = [0] := by rw [hv]; rfl
  have hk3 := (k1.trans k2).trans0 h3.kp
  simp [rowOf, ← hsv, ← hw3]
  refine cl_of (rl_supp sv [0] (0, 2) (hR.kp h3.kp) hs3 hst hS) ?_
  rintro x w4 ⟨hx, k4⟩
  rw [hSt] at hx
  have hx := hx VA va_val
  have e1 : supF [4] [0] U3 VA (0, 2) = (1, 0) := by decide
  rw [hv, e1] at hx
  subst hx
  simp [prV]
  refine cl_of (rl_max sv [0] (hR.kp (h3.kp.trans k4)) hST.g (hs3.kp0 k4) hst hS) ?_
  rintro _ w5 ⟨V, hV, rfl, k5⟩
  rw [hSt] at hV
  have e2 : grF T.vars V T.goal = 6 := by rw [hV.uniq va_val, hv, hgl]; decide
  rw [e2]
  have k35 := k4.trans k5
  simp
  refine cl_of (rl_reached sv (.slice none 0 0) [0] [] (hR.kp (h3.kp.trans k35)) hST.g (hs3.kp0 k35) (Vw.nil _ _) (by simp) (by simp) hst hS) ?_
  rintro _ w6 ⟨V, hV, rfl, k6⟩
  rw [hSt] at hV
  have e3 : allow (okL []) U3 = U3 := by simp [allow, okL]
  rw [e3] at hV
  have e4 : grF T.vars V T.goal = 6 := by rw [hV.uniq va_val, hv, hgl]; decide
  rw [e4]
  have k36 := k35.trans k6
  simp [Inf]
  have hsv1 := h3.own.o1
  have hs6 := hs3.kp0 k36
  have h7 := (At.start rfl : At w6 [] Emp w6).lit (xs := [1]) (enc := nE) (E := 3) (sz := 1) (cs := #[.int .i64 1]) (m := 1) .emp (by simp [nE]) nE_len (by simp [maxLen]) rfl
  have k37 := k36.trans0 h7.kp
  refine cl_of (rl_reached sv _ [0] [1] (hR.kp (h3.kp.trans k37)) hST.g (hs3.kp0 k37) (ints_vw h7.own.vw) (by simp) (by simp [zok]) hst hS) ?_
  rintro _ w8 ⟨V, hV, rfl, k8⟩
  rw [hSt] at hV
  have e5 : allow (okL [1]) U3 = U3b := by simp [allow, okL, U3, U3b]
  rw [e5] at hV
  have e6 : grF T.vars V T.goal = Inf := by rw [hV.uniq vb_val, hv, hgl]; decide
  rw [e6]
  have k38 := k37.trans k8
  simp
  refine cl_of (rl_levels sv [0] (hR.kp (h3.kp.trans k38)) (hs3.kp0 k38) hst hS) ?_
  rintro lv w9 ⟨L, hL, k9, hlv⟩
  rw [hSt] at hL
  have e7 : tbI T.vars L = [[0, 1, 2, 3]] := by rw [hL.uniq la_lev, hv]; decide
  rw [e7] at hlv
  have k39 := k38.trans k9
  simp [rowOf]
  have h10 := (At.start rfl : At w9 [] Emp w9).lit (xs := [(0 : Int), 1, 2, 3]) (enc := iE) (E := 3) (sz := 1) (cs := #[.int .i64 0, .int .i64 1, .int .i64 2, .int .i64 3]) (m := 4) .emp (by simp [iE]) iE_len (by simp [maxLen]) rfl
  obtain ⟨rv, hrv⟩ : ∃ rv, rv = Value.slice (some ⟨w9.heap.size, 0, none⟩) 4 4 := ⟨_, rfl⟩
  obtain ⟨w10, hw10⟩ : ∃ w10, w10 = w9.alloc (.cells #[.int .i64 0, .int .i64 1, .int .i64 2, .int .i64 3] 3) := ⟨_, rfl⟩
  rw [← hrv, ← hw10] at h10
  have ho10 := h10.own.o1
  have h11 := h10.lit (xs := [((⟨rv, ho10⟩, [0, 1, 2, 3]) : Cell1 × List Int)]) (enc := sv1) (E := 22) (sz := 1) (cs := #[rv]) (m := 1) (Lcl.own.star .emp) (by simp [sv1]) sv1_len (by simp [maxLen]) rfl
  have e8 : w10.heap.size = w9.heap.size + 1 := by rw [hw10]; simp
  rw [← hrv, ← hw10, ← e8]
  have h12 : At w9 [] (Star (LLA (.slice (some ⟨w10.heap.size, 0, none⟩) 1 1) 22 iE [[(0 : Int), 1, 2, 3]]) Emp) (w10.alloc (.cells #[rv] 22)) :=
    LLA.cls (ps := [((⟨rv, ho10⟩, [0, 1, 2, 3]) : Cell1 × List Int)]) rfl (h11.by (Imp.un (Imp.ow.trans (lone ho10))))
  refine cl_of (same_spec lv _ [[0, 1, 2, 3]] [[0, 1, 2, 3]] (hlv.kp h12.kp) (LLA.vw h12) (by simp) (by simp) (by simp) (by simp)) ?_
  rintro _ w13 ⟨rfl, k13⟩
  simp
  exact (k1.trans k2).trans ((h3.kp.trans k39).trans (h12.kp.trans k13))
end Go.Proofs.Ytjpbkljnllkneaa
