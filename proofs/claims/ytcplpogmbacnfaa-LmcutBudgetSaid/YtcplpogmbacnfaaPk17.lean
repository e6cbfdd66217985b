/-
  A part of the proof of this claim's statement (RxXJ, RxXK, RxXL, RxYA, RxYB, RxYC, RxYF, RxYG, RxYL, RxYM, LmPlain, LmCut): plain theorems; no conditions beyond those each names.
-/
import Derived.Test.YtcplpogmbacnfaaPk16
import Derived.Test.YtcplpogmbacnfaaPk11
section
set_option maxRecDepth 100000
set_option linter.unusedSimpArgs false
set_option linter.unusedVariables false
namespace Go.Proofs.Ytcplpogmbacnfaa
open Go Go.W Go.Tk Go.Rx Go.Maps
theorem sts_ok {vars : List Nat} : ∀ k, k ≤ vars.length → ∀ s ∈ stsK vars k, s.length = k ∧ ∀ v, v < k → s.getD v 0 < vars.getD v 0
  | 0, _, s, hs => by
    simp [stsK] at hs; subst hs
    exact ⟨rfl, fun v hv => by omega⟩
  | k + 1, hk, s, hs => by
    unfold stsK at hs
    obtain ⟨t, ht, h2⟩ := List.mem_flatMap.1 hs
    unfold extS at h2
    obtain ⟨x, hx, rfl⟩ := List.mem_map.1 h2
    obtain ⟨e, hv⟩ := sts_ok k (by omega) t ht
    refine ⟨by simp [e], fun v hvk => ?_⟩
    by_cases h3 : v < k
    · have := hv v h3
      simpa [List.getD, List.getElem?_append_left (show v < t.length by omega)] using this
    · have : v = k := by omega
      subst this
      simpa [List.getD, ← e] using List.mem_range.1 hx
theorem sts_st {vars : List Nat} {s : List Nat} (h : s ∈ stsK vars vars.length) : StN vars s := by
  obtain ⟨h1, h2⟩ := sts_ok _ (Nat.le_refl _) s h
  exact ⟨h1, h2⟩
/-- Some states. -/
def SmI (T : Nt) (all : Value) (ps : List (Cell1 × List Nat)) (w : World) (n : Nat) (ρ : Env) (w' : World) : Prop :=
  ∃ i qs, n = ps.length - i ∧ i ≤ 2 * ps.length + 1 ∧ ρ 4 = all ∧ ρ 5 = .int .i64 (i : Nat) ∧ qs.length ≤ i + 1 ∧ (∀ q ∈ qs, q = (T.nv, T.init) ∨ q ∈ ps) ∧
    At w [] (Star (OwnA (ρ 3) 22 1 sv1 qs) (Star (OwnA all 22 1 sv1 ps) (Star (VwsA nE ps) Emp))) w'
end Go.Proofs.Ytcplpogmbacnfaa
end
section
set_option maxRecDepth 100000
set_option linter.unusedSimpArgs false
set_option linter.unusedVariables false
namespace Go.Proofs.Ytcplpogmbacnfaa
open Go Go.W Go.Tk Go.Rx Go.Maps
/-- The costs that are given, and those that hold. -/
structure PrI (T : Nt) (gl rl : List Nat) : Prop where
  rlen : rl.length = T.ops.length
  rb : ∀ c ∈ rl, c ≤ 1048576
  gb : ∀ c ∈ gl, c ≤ 1048576
  glen : gl.length = 0 ∨ gl.length = T.ops.length
  eq : ∀ i, i < T.ops.length → cst T (gl.map iN) i = cstL rl i
end Go.Proofs.Ytcplpogmbacnfaa
end
section
set_option maxRecDepth 100000
set_option linter.unusedSimpArgs false
set_option linter.unusedVariables false
namespace Go.Proofs.Ytcplpogmbacnfaa
open Go Go.W Go.Tk Go.Rx Go.Maps
/-- The operators of the example. -/
def IsC (i : Nat) (o : No) : Prop := o.name = ByteArray.empty ∧ o.cost = 2 ∧ o.pre = [(0, i)] ∧ ∃ e : Nf, o.effs = [e] ∧ e.cnd = [] ∧ e.v = 0 ∧ e.x = i + 1 ∧ e.wv.1 = .slice none 0 0
def ChF (vv nv gv : Value) (os : List No) : Asr := Star (VwsA fcE (os.map fun o => (o.pv, o.pre))) (Star (VwsA nfE (os.map fun o => (o.ev, o.effs))) (Star (VwA vv nE [4]) (Star (VwA nv nE [0]) (Star (VwA gv fcE [(0, 3)]) Emp))))
theorem ChF.lcl {vv nv gv : Value} {os : List No} : Lcl (ChF vv nv gv os) := Lcl.vws.star (Lcl.vws.star (Lcl.vw.star (Lcl.vw.star (Lcl.vw.star .emp))))
end Go.Proofs.Ytcplpogmbacnfaa
end
section
set_option maxRecDepth 100000
set_option linter.unusedSimpArgs false
set_option linter.unusedVariables false
namespace Go.Rx
open Go Go.W Go.Tk
def prL : List Nat → Nat
  | [] => 1
  | x :: l => x * prL l
theorem prL_snoc : ∀ (l : List Nat) (x : Nat), prL (l ++ [x]) = prL l * x
  | [], x => by simp [prL]
  | y :: l, x => by simp only [List.cons_append, prL, prL_snoc l x, Nat.mul_assoc]
theorem many_le : ∀ (vars : List Nat) (n : Nat), (∀ v ∈ vars, 1 ≤ v) → manyF 512 n (vars.map iN) ≤ 512 → ∀ k, n * prL (vars.take k) ≤ 512
  | [], n, _, h, k => by simpa [manyF, prL] using h
  | x :: l, n, hx, h, k => by
    have h1 := hx x (by simp)
    simp only [List.map_cons, manyF] at h
    split at h
    · omega
    · rename_i hle
      have e : (iN x).toNat = x := by simp [iN]
      rw [e] at hle h
      have hle : n * min x (512 + 1) ≤ 512 := by omega
      cases k with
      | zero =>
        have := Nat.mul_le_mul_left n (show 1 ≤ min x (512 + 1) by omega)
        simp [prL]; omega
      | succ k =>
        rcases Nat.eq_zero_or_pos n with rfl | hn
        · simp
        have hm : min x (512 + 1) = x := by
          rcases Nat.le_total x 513 with h2 | h2
          · omega
          · have : min x (512 + 1) = 513 := by omega
            rw [this] at hle
            omega
        rw [hm] at h
        have := many_le l (n * x) (fun v hv => hx v (by simp [hv])) h k
        simpa [List.take_succ_cons, prL, Nat.mul_assoc] using this
theorem unsK_len8 {t : Nt} {cost : Nat → Nat} (h : ∀ o ∈ t.ops, o.effs.length ≤ 8) : ∀ n, (unsK t cost n).length ≤ 8 * n
  | 0 => by simp [unsK]
  | n + 1 => by
    have := unsK_len8 (cost := cost) h n
    cases ho : t.ops[n]? with
    | none =>
      unfold unsK at *
      rw [List.range_succ, List.flatMap_append]
      simp [ho] at this ⊢
      omega
    | some o =>
      rw [unsK_succ ho, List.length_append, opU_len]
      have := h o (List.mem_of_getElem? ho)
      omega
/-- A small task. -/
structure SmT (T : Nt) : Prop where
  g : NtG T
  good : goodB T.raw = true
  vl : T.vars.length ≤ 12
  ol : T.ops.length ≤ 20
  el : ∀ o ∈ T.ops, o.effs.length ≤ 8
  pr : ∀ k, prL (T.vars.take k) ≤ 512
  nm : ∀ o ∈ T.ops, o.name.size ≤ 9223372036854775807
theorem small_nat {t : Tk} (hl : TkL t) (h : smallB t = true) : ∃ T : Nt, T.raw = t ∧ SmT T := by
  unfold smallB at h
  simp only [Bool.and_eq_true, decide_eq_true_eq] at h
  obtain ⟨⟨⟨⟨h1, h2⟩, h3⟩, h4⟩, h5⟩ := h
  obtain ⟨T, rfl, hg⟩ := good_nat h4
  rw [List.all_eq_true] at h3
  refine ⟨T, rfl, hg, h4, by simpa [Nt.raw] using h1, by simpa [Nt.raw] using h2, fun o ho => ?_, fun k => ?_, fun o ho => ?_⟩
  · have := h3 o.raw (List.mem_map.2 ⟨o, ho, rfl⟩)
    simpa [No.raw] using this
  · have := many_le T.vars 1 (fun v hv => (hg.vars v hv).1) h5 k
    simpa using this
  · exact (hl.op o.raw (List.mem_map.2 ⟨o, ho, rfl⟩)).1
end Go.Rx
namespace Go.Proofs.Ytcplpogmbacnfaa
open Go Go.W Go.Tk Go.Rx Go.Maps
theorem stsK_len {vars : List Nat} : ∀ k, k ≤ vars.length → (stsK vars k).length = prL (vars.take k)
  | 0, _ => by simp [stsK, prL]
  | k + 1, hk => by
    obtain ⟨n, hn⟩ : ∃ n, vars[k]? = some n := ⟨_, List.getElem?_eq_getElem (by omega)⟩
    have key : ∀ (l : List (List Nat)), (l.flatMap (extS (vars.getD k 0))).length = l.length * vars.getD k 0 := by
      intro l
      induction l with
      | nil => simp
      | cons a l ih => rw [List.flatMap_cons, List.length_append, ih, extS_len, List.length_cons, Nat.add_mul]; omega
    have e : stsK vars (k + 1) = (stsK vars k).flatMap (extS (vars.getD k 0)) := rfl
    rw [take_snoc hn, prL_snoc, ← stsK_len k (by omega), e, key]
    simp [List.getD, hn]
theorem SmT.sts {T : Nt} (h : SmT T) : ∀ k, k ≤ T.vars.length → (stsK T.vars k).length ≤ 10000 := fun k hk => by
  rw [stsK_len k hk]
  have := h.pr k
  omega
theorem SmT.sm {T : Nt} (h : SmT T) {c : Nat → Nat} (hc : ∀ i, i < T.ops.length → c i ≤ 1048576) : Sm T.vars (uns T c) := {
  un := {
    nod := fun u hu => by
      obtain ⟨i, o, k, e, _, _, _, rfl⟩ := uns_mem hu
      exact dedup_nodup _
    rng := fun u hu n hn => by
      obtain ⟨i, o, k, e, hi, ho, he, rfl⟩ := uns_mem hu
      have hgo := h.g.ops o (List.mem_of_getElem? ho)
      obtain ⟨f, hf, rfl⟩ := List.mem_map.1 (dedup_mem.1 hn)
      rcases List.mem_append.1 hf with h1 | h1
      · obtain ⟨a, b⟩ := hgo.pre.rng f h1; exact numF_lt a b
      · obtain ⟨a, b⟩ := (hgo.cnd e (List.mem_of_getElem? he)).rng f h1; exact numF_lt a b
    made := fun u hu => by
      obtain ⟨i, o, k, e, hi, ho, he, rfl⟩ := uns_mem hu
      obtain ⟨a, b⟩ := (h.g.ops o (List.mem_of_getElem? ho)).eff e (List.mem_of_getElem? he)
      exact numF_lt a b
    cost := fun u hu => by
      obtain ⟨i, o, k, e, hi, ho, he, rfl⟩ := uns_mem hu
      exact hc i hi
    op := fun u hu => by
      obtain ⟨i, o, k, e, hi, ho, he, rfl⟩ := uns_mem hu
      have := h.ol
      show i ≤ 4096
      omega }
  vl := h.vl
  sm := by
    have := sum_le (N := 64) fun n hn => (h.g.vars n hn).2
    have := h.vl
    omega
  ul := by
    have := unsK_len8 (cost := c) h.el T.ops.length
    have := h.ol
    show (unsK T c T.ops.length).length ≤ 160
    omega }
/-- Right costs. -/
structure CsOk (T : Nt) (cs : List Int) : Prop where
  len : cs.length = 0 ∨ cs.length = T.ops.length
  rng : ∀ c ∈ cs, 0 ≤ c ∧ c ≤ 1048576
theorem CsOk.cst {T : Nt} {cs : List Int} (h : CsOk T cs) (hg : NtG T) (i : Nat) (hi : i < T.ops.length) : cst T cs i ≤ 1048576 := by
  unfold Go.Proofs.Ytcplpogmbacnfaa.cst
  split
  · obtain ⟨o, ho⟩ : ∃ o, T.ops[i]? = some o := ⟨_, List.getElem?_eq_getElem hi⟩
    rw [ho]
    exact (hg.ops o (List.mem_of_getElem? ho)).cost
  · rename_i hn
    rcases h.len with h1 | h1
    · exact absurd h1 hn
    have hi2 : i < cs.length := by omega
    have := h.rng cs[i] (List.getElem_mem hi2)
    simp only [List.getD, List.getElem?_eq_getElem hi2, Option.getD_some]
    omega
theorem CsOk.nil {T : Nt} : CsOk T [] := ⟨.inl rfl, by simp⟩
theorem PrI.ok {T : Nt} {gl rl : List Nat} (h : PrI T gl rl) : CsOk T (gl.map iN) := ⟨by simpa using h.glen, fun c hc => by
  obtain ⟨x, hx, rfl⟩ := List.mem_map.1 hc
  have := h.gb x hx
  unfold iN; omega⟩
/-- A relaxation that can be read. -/
def Rlx (b : Nat) (T : Nt) (U : List Un) (w : World) : Prop := ∃ vv gv fv uv nd fr rs ps, RlR b T.vars T.goal U vv gv fv uv nd fr rs ps w
theorem Rlx.kp {b : Nat} {T : Nt} {U : List Un} {w w' : World} (h : Rlx b T U w) (k : Kp [] w w') : Rlx b T U w' := by
  obtain ⟨vv, gv, fv, uv, nd, fr, rs, ps, h⟩ := h
  exact ⟨vv, gv, fv, uv, nd, fr, rs, ps, h.kp k⟩
theorem new_ok {w : World} (T : Nt) (cv : Value) (cs : List Int) (hs : SmT T) (hr : NtR w T) (hc : Vw w cv iE cs) (hok : CsOk T cs) :
    Calls Try.prog 27 [ntV T, cv].toArray w fun e w' => ∃ x, e = .returned x ∧ ∃ b, x = .tuple #[.pointer (some ⟨b, 0, none⟩), .nilIface] ∧ Rlx b T (uns T (cst T cs)) w' ∧ Kp [] w w' := by
  have hol := hs.ol
  refine Calls.mono (rNew_good T cv cs hs.g hs.good hr hs.nm hc (by rcases hok.len with h | h <;> omega)) ?_
  rintro e w' ⟨x, rfl, hx⟩
  refine ⟨x, rfl, ?_⟩
  have hn : nwC T.raw cs = none := by
    unfold nwC
    rw [(chk_good T.raw).2 hs.good]
    have h1 : ¬ (0 < cs.length ∧ cs.length ≠ T.raw.ops.length) := by
      have : T.raw.ops.length = T.ops.length := by simp [Nt.raw]
      rcases hok.len with h | h <;> omega
    have h2 : cs.all cOk = true := by
      rw [List.all_eq_true]
      intro c hc
      have := hok.rng c hc
      simp [cOk]; omega
    rw [if_neg h1, if_neg (by rw [h2]; simp)]
  unfold NwP at hx
  rw [hn] at hx
  obtain ⟨b, vv, gv, fv, tb, rfl, h⟩ := hx
  obtain ⟨uv, nd, fr, rs, ps, h2⟩ := h.rd
  exact ⟨b, rfl, ⟨vv, gv, fv, uv, nd, fr, rs, ps, h2⟩, h.kp⟩
theorem IsC.opB {i : Nat} {o : No} (h : IsC i o) (hi : i < 3) : opB [4] o.raw = true := by
  obtain ⟨h1, h2, h3, e, h4, h5, h6, h7, h8⟩ := h
  have e1 : o.raw = ⟨ByteArray.empty, 2, o.pv, [(0, (i : Int))], o.ev, [⟨e.wv, [], 0, ((i + 1 : Nat) : Int)⟩]⟩ := by
    unfold No.raw Nf.raw
    rw [h1, h2, h3, h4]
    simp [h5, h6, h7, faN]
  rw [e1]
  have : i = 0 ∨ i = 1 ∨ i = 2 := by omega
  rcases this with rfl | rfl | rfl <;> rfl
end Go.Proofs.Ytcplpogmbacnfaa
end
section
set_option maxRecDepth 100000
set_option linter.unusedSimpArgs false
set_option linter.unusedVariables false
namespace Go.Proofs.Ytcplpogmbacnfaa
open Go Go.W Go.Tk Go.Rx Go.Maps
section
variable {w : World} {b : Nat} {T : Nt} {U : List Un}
theorem rl_max (sv : Value) (s : List Nat) (hR : Rlx b T U w) (hg : NtG T) (hs : Vw w sv nE s) (hst : StN T.vars s) (hS : Sm T.vars U) :
    Calls Try.prog 28 [.pointer (some ⟨b, 0, none⟩), sv].toArray w fun e w' => ∃ x, e = .returned x ∧ ∃ V, IsVal U (stN T.vars s T.vars.length) V ∧ x = .int .i64 (grF T.vars V T.goal : Nat) ∧ Kp [] w w' := by
  obtain ⟨vv, gv, fv, uv, nd, fr, rs, ps, h⟩ := hR
  exact max_ok sv s h hg.goal hs hst hS
end
theorem ints_vw {w : World} {v : Value} {l : List Nat} (h : Vw w v nE l) : Vw w v iE (l.map iN) := vw_n.2 h
theorem lone {α : Type} {enc : α → List Value} {v : Value} {l : List α} {X : Asr} (ho : oneC v = true) : Imp (Star (VwA v enc l) X) (Star (VwsA enc [((⟨v, ho⟩, l) : Cell1 × List α)]) X) := by
  rintro w F ⟨Fa, Fb, ⟨h1, e1, h2⟩, h3, hd, rfl⟩
  exact ⟨_, ⟨Fa, Fb, ⟨fun p hp => by simp at hp; subst hp; exact h1, fun x hx => h2 x (by rw [← e1]; exact hx), by simpa using e1⟩, h3, hd, rfl⟩, fun x hx => hx⟩
end Go.Proofs.Ytcplpogmbacnfaa
end
section
set_option maxRecDepth 100000
set_option linter.unusedSimpArgs false
set_option linter.unusedVariables false
namespace Go.Proofs.Ytcplpogmbacnfaa
open Go Go.W Go.Tk Go.Rx Go.Maps
theorem uns_congr {T : Nt} {c c' : Nat → Nat} (h : ∀ i, i < T.ops.length → c i = c' i) : uns T c = uns T c' := by
  have key : ∀ n, n ≤ T.ops.length → unsK T c n = unsK T c' n := by
    intro n hn
    induction n with
    | zero => rfl
    | succ n ih =>
      obtain ⟨o, ho⟩ : ∃ o, T.ops[n]? = some o := ⟨_, List.getElem?_eq_getElem (by omega)⟩
      rw [unsK_succ ho, unsK_succ ho, ih (by omega), h n (by omega)]
  exact key _ (Nat.le_refl _)
theorem raw_vv (T : Nt) : T.raw.vv = T.vv := rfl
theorem raw_nv (T : Nt) : T.raw.nv = T.nv := rfl
theorem raw_gv (T : Nt) : T.raw.gv = T.gv := rfl
theorem raw_ov (T : Nt) : T.raw.ov = T.ov := rfl
end Go.Proofs.Ytcplpogmbacnfaa
end
section
set_option maxRecDepth 100000
set_option linter.unusedSimpArgs false
set_option linter.unusedVariables false
namespace Go.Proofs.Ytcplpogmbacnfaa
open Go Go.W Go.Tk Go.Rx Go.Maps
theorem stN_sum {vars s : List Nat} (h : StN vars s) : ∀ x ∈ stN vars s vars.length, x < vars.sum := fun x hx => by
  unfold stN at hx
  obtain ⟨v, hv, rfl⟩ := List.mem_map.1 hx
  have hv := List.mem_range.1 hv
  exact numF_lt (f := (v, s.getD v 0)) hv (h.rng v hv)
end Go.Proofs.Ytcplpogmbacnfaa
end
section
set_option maxRecDepth 100000
set_option linter.unusedSimpArgs false
set_option linter.unusedVariables false
namespace Go.Proofs.Ytcplpogmbacnfaa
open Go Go.W Go.Tk Go.Rx Go.Maps
theorem cst_given {T : Nt} {cl : List Nat} (hl : cl.length = T.ops.length) {i : Nat} (hi : i < T.ops.length) : cst T (cl.map iN) i = cl.getD i 0 := by
  unfold cst
  rw [if_neg (by rw [List.length_map]; omega), iN_at]
  simp
theorem cs_given {T : Nt} {cl : List Nat} (hl : cl.length = T.ops.length) (hb : ∀ c ∈ cl, c ≤ 1048576) : CsOk T (cl.map iN) := ⟨.inr (by simpa using hl), fun c hc => by
  obtain ⟨x, hx, rfl⟩ := List.mem_map.1 hc
  have := hb x hx
  unfold iN; omega⟩
theorem mem_getD {l : List Nat} {i : Nat} (hi : i < l.length) : l.getD i 0 ∈ l := by simp [List.getD, List.getElem?_eq_getElem hi]
/-- The task without an operator. -/
def lessT (T : Nt) (ov : Cell1) (k : Nat) : Nt := { T with ov := ov, ops := T.ops.take k ++ T.ops.drop (k + 1) }
theorem lessT_mem {T : Nt} {ov : Cell1} {k : Nat} {o : No} (h : o ∈ (lessT T ov k).ops) : o ∈ T.ops := by
  rcases List.mem_append.1 h with h | h
  · exact List.mem_of_mem_take h
  · exact List.mem_of_mem_drop h
theorem NtR.less {T : Nt} {ov : Value} {o1 : oneC ov = true} {k : Nat} {w : World} (h : NtR w T) (hv : Vw w ov noE (T.ops.take k ++ T.ops.drop (k + 1))) : NtR w (lessT T ⟨ov, o1⟩ k) :=
  ⟨h.vars, h.init, h.goal, hv, fun o ho => h.op o (lessT_mem ho)⟩
end Go.Proofs.Ytcplpogmbacnfaa
end
section
set_option maxRecDepth 100000
set_option linter.unusedSimpArgs false
set_option linter.unusedVariables false
namespace Go.Rx
open Go Go.W Go.Tk
structure Low (es : List (Nat × Nat × Nat)) (c : Nat → Nat) (G : Nat → Bool) (H : Nat → Nat) : Prop where
  le : ∀ i, H i ≤ Inf
  z : ∀ i, G i = true → H i = 0
  st : ∀ e ∈ es, H e.1 ≤ H e.2.2 + c e.2.1
structure Dok (es : List (Nat × Nat × Nat)) (c : Nat → Nat) (G : Nat → Bool) (d : List Nat) : Prop where
  z0 : ∀ i, i < d.length → G i = true → d.getD i 0 = 0
  le : ∀ i, i < d.length → d.getD i 0 ≤ Inf
  low : ∀ H, Low es c G H → ∀ i, i < d.length → H i ≤ d.getD i 0
theorem getD_set_same {d : List Nat} {i x : Nat} (h : i < d.length) : (d.set i x).getD i 0 = x := by simp [List.getD, List.getElem?_set_self h]
theorem getD_set_ne {d : List Nat} {i j x : Nat} (h : i ≠ j) : (d.set i x).getD j 0 = d.getD j 0 := by simp only [List.getD, List.getElem?_set_ne h]
theorem Dok.step {es : List (Nat × Nat × Nat)} {c : Nat → Nat} {G : Nat → Bool} {d : List Nat} {e : Nat × Nat × Nat} (h : Dok es c G d) (he : e ∈ es) (hf : e.1 < d.length) (ht : e.2.2 < d.length) (hlt : d.getD e.2.2 0 + c e.2.1 < d.getD e.1 0) : Dok es c G (d.set e.1 (d.getD e.2.2 0 + c e.2.1)) := {
  z0 := fun i hi hG => by
    rw [List.length_set] at hi
    by_cases hie : e.1 = i
    · subst hie
      have := h.z0 _ hf hG
      omega
    · rw [getD_set_ne hie]; exact h.z0 i hi hG
  le := fun i hi => by
    rw [List.length_set] at hi
    by_cases hie : e.1 = i
    · subst hie
      rw [getD_set_same hf]
      have := h.le _ hf
      omega
    · rw [getD_set_ne hie]; exact h.le i hi
  low := fun H hH i hi => by
    rw [List.length_set] at hi
    by_cases hie : e.1 = i
    · subst hie
      rw [getD_set_same hf]
      have h1 := hH.st e he
      have h2 := h.low H hH e.2.2 ht
      omega
    · rw [getD_set_ne hie]; exact h.low H hH i hi }
end Go.Rx
namespace Go.Proofs.Ytcplpogmbacnfaa
open Go Go.W Go.Tk Go.Rx Go.Maps
def goalB (T : Nt) (i : Nat) : Bool := match (stsK T.vars T.vars.length)[i]? with | some s => hdB s T.goal | none => false
def d0 (T : Nt) (i : Nat) : Nat := if goalB T i = true then 0 else Inf
/-- The costs that a search for distances has. -/
def CvOk (T : Nt) (cv : Value) (c : Nat → Nat) (w : World) : Prop := (cv = .slice none 0 0 ∧ ∀ i o, T.ops[i]? = some o → c i = o.cost) ∨ ∃ cl a cap, cv = .slice (some a) cl.length cap ∧ Vw w cv nE cl ∧ cl.length = T.ops.length ∧ ∀ i, c i = cl.getD i 0
theorem CvOk.kp {T : Nt} {cv : Value} {c : Nat → Nat} {w w' : World} (h : CvOk T cv c w) (k : Kp [] w w') : CvOk T cv c w' := by
  rcases h with h | ⟨cl, a, cap, h1, h2, h3⟩
  · exact .inl h
  · exact .inr ⟨cl, a, cap, h1, h2.kp0 k, h3⟩
theorem CvOk.of {T : Nt} {cv : Value} {cl : List Nat} {w : World} (h : Vw w cv nE cl) (hl : cl.length = T.ops.length) : CvOk T cv (fun i => cl.getD i 0) w := by
  rcases sl_nil h with ⟨rfl, rfl⟩ | ⟨a, cap, e⟩
  · refine .inl ⟨rfl, fun i o ho => ?_⟩
    have := (List.getElem?_eq_some_iff.1 ho).1
    simp at hl; omega
  · exact .inr ⟨cl, a, cap, e, h, hl, fun _ => rfl⟩
end Go.Proofs.Ytcplpogmbacnfaa
end
section
set_option maxRecDepth 100000
set_option linter.unusedSimpArgs false
set_option linter.unusedVariables false
namespace Go.Rx
open Go Go.W Go.Tk
/-- There are values. -/
theorem IsVal.ex (U : List Un) (S : List Nat) : ∃ V, IsVal U S V := by
  have hex : ∀ f, ∃ x, (∀ k, Der U S f k → x ≤ k) ∧ x ≤ Inf ∧ (x < Inf → Der U S f x) := fun f => by
    rcases Classical.em (∃ k, Der U S f k) with ⟨k, hk⟩ | hn
    · obtain ⟨w, hw, hm⟩ := Lst.ex hk
      rcases Nat.lt_or_ge w Inf with h | h
      · exact ⟨w, hm, by omega, fun _ => hw⟩
      · exact ⟨Inf, fun j hj => by have := hm j hj; omega, Nat.le_refl _, fun h => by omega⟩
    · exact ⟨Inf, fun k hk => absurd ⟨k, hk⟩ hn, Nat.le_refl _, fun h => by omega⟩
  refine ⟨fun f => Classical.choose (hex f), fun f hf => ?_, fun u hu hlt => ?_, fun f hf => (Classical.choose_spec (hex f)).2.2 hf, fun f => (Classical.choose_spec (hex f)).2.1⟩
  · have := (Classical.choose_spec (hex f)).1 0 (.base hf)
    omega
  · refine (Classical.choose_spec (hex u.makes)).1 _ (.step hu _ fun n hn => (Classical.choose_spec (hex n)).2.2 ?_)
    have := gr_mem (V := fun f => Classical.choose (hex f)) hn
    omega
end Go.Rx
namespace Go.Proofs.Ytcplpogmbacnfaa
open Go Go.W Go.Tk Go.Rx Go.Maps
/-- Values in all states. -/
def VsOk (T : Nt) (U : List Un) (vS : List Nat → Nat → Nat) : Prop := ∀ s, IsVal U (stN T.vars s T.vars.length) (vS s)
theorem VsOk.ex (T : Nt) (U : List Un) : ∃ vS, VsOk T U vS := ⟨fun s => Classical.choose (IsVal.ex U (stN T.vars s T.vars.length)), fun s => Classical.choose_spec (IsVal.ex U (stN T.vars s T.vars.length))⟩
/-- The greatest value of a goal fact, in a state. -/
def hM (T : Nt) (vS : List Nat → Nat → Nat) (s : List Nat) : Nat := grF T.vars (vS s) T.goal
def hI (T : Nt) (vS : List Nat → Nat → Nat) (i : Nat) : Nat := match (stsK T.vars T.vars.length)[i]? with | some s => hM T vS s | none => 0
end Go.Proofs.Ytcplpogmbacnfaa
end
section
set_option linter.unusedVariables false
set_option linter.unusedSimpArgs false
namespace Go.Lm
open Go.Rx
/-- f is better than o. -/
def btr (V : Nat → Nat) (f o : Nat) : Bool := decide (V o < V f) || (decide (V f = V o) && decide (f < o))
def gStep (V : Nat → Nat) : Option Nat → Nat → Option Nat
  | none, f => some f
  | some o, f => if btr V f o = true then some f else some o
def gst (V : Nat → Nat) (l : List Nat) : Option Nat := l.foldl (gStep V) none
/-- It is the best one of a list. -/
def IsG (V : Nat → Nat) (l : List Nat) (g : Nat) : Prop := g ∈ l ∧ ∀ x ∈ l, V x < V g ∨ (V x = V g ∧ g ≤ x)
section
variable {V : Nat → Nat} {l l' : List Nat} {g g' : Nat}
theorem IsG.uniq (h : IsG V l g) (h' : IsG V l g') : g = g' := by
  have h1 := h.2 g' h'.1
  have h2 := h'.2 g h.1
  omega
theorem IsG.set (h : IsG V l g) (hs : ∀ x, x ∈ l ↔ x ∈ l') : IsG V l' g := ⟨(hs g).1 h.1, fun x hx => h.2 x ((hs x).2 hx)⟩
theorem IsG.val (h : IsG V l g) : V g = gr V l := Nat.le_antisymm (gr_mem h.1) (gr_le_iff.2 fun x hx => by have := h.2 x hx; omega)
theorem IsG.snoc (h : IsG V l g) (f : Nat) : IsG V (l ++ [f]) (if btr V f g = true then f else g) := by
  by_cases hb : btr V f g = true
  · rw [if_pos hb]
    unfold btr at hb
    simp only [Bool.or_eq_true, Bool.and_eq_true, decide_eq_true_eq] at hb
    refine ⟨by simp, fun x hx => ?_⟩
    rcases List.mem_append.1 hx with h1 | h1
    · have := h.2 x h1; omega
    · simp at h1; subst h1; omega
  · rw [if_neg hb]
    unfold btr at hb
    simp only [Bool.or_eq_true, Bool.and_eq_true, decide_eq_true_eq, not_or, not_and] at hb
    refine ⟨by simp [h.1], fun x hx => ?_⟩
    rcases List.mem_append.1 hx with h1 | h1
    · exact h.2 x h1
    · simp at h1; subst h1
      have h2 := hb.1
      have h3 := hb.2
      by_cases he : V x = V g
      · have := h3 he; omega
      · omega
theorem gst_snoc (l : List Nat) (f : Nat) : gst V (l ++ [f]) = gStep V (gst V l) f := by unfold gst; rw [List.foldl_append]; rfl
theorem snoc_ind {α : Type} {p : List α → Prop} (h0 : p []) (h : ∀ l x, p l → p (l ++ [x])) (l : List α) : p l := by
  have key : ∀ r : List α, p r.reverse := by
    intro r
    induction r with
    | nil => exact h0
    | cons x r ih => rw [List.reverse_cons]; exact h _ _ ih
  simpa using key l.reverse
theorem gst_spec (l : List Nat) : (l = [] ∧ gst V l = none) ∨ ∃ g, gst V l = some g ∧ IsG V l g := by
  induction l using snoc_ind with
  | h0 => exact .inl ⟨rfl, rfl⟩
  | h l f ih =>
    right
    rw [gst_snoc]
    rcases ih with ⟨rfl, h⟩ | ⟨g, h, hg⟩
    · rw [h]
      exact ⟨f, rfl, by simp, fun x hx => by simp at hx; subst hx; exact .inr ⟨rfl, Nat.le_refl _⟩⟩
    · rw [h]
      have := hg.snoc f
      by_cases hb : btr V f g = true
      · rw [if_pos hb] at this
        exact ⟨f, by simp only [gStep, if_pos hb], this⟩
      · rw [if_neg hb] at this
        exact ⟨g, by simp only [gStep, if_neg hb], this⟩
theorem gst_of (h : IsG V l g) : gst V l = some g := by
  rcases gst_spec (V := V) l with ⟨rfl, _⟩ | ⟨g', e, hg⟩
  · cases h.1
  · rw [e, hg.uniq h]
theorem gst_some (h : gst V l = some g) : IsG V l g := by
  rcases gst_spec (V := V) l with ⟨rfl, e⟩ | ⟨g', e, hg⟩
  · cases h
  · rw [e] at h; cases h; exact hg
theorem gst_none (h : gst V l = none) : l = [] := by
  rcases gst_spec (V := V) l with ⟨e, _⟩ | ⟨g', e, hg⟩
  · exact e
  · rw [e] at h; cases h
theorem gst_set (hs : ∀ x, x ∈ l ↔ x ∈ l') : gst V l = gst V l' := by
  rcases gst_spec (V := V) l with ⟨rfl, e⟩ | ⟨g, e, hg⟩
  · have : l' = [] := List.eq_nil_iff_forall_not_mem.2 fun x hx => by have := (hs x).2 hx; cases this
    subst this; rfl
  · rw [e, gst_of (hg.set hs)]
/-- The greatest value is that of the best fact. -/
theorem gr_gst (l : List Nat) : gr V l = match gst V l with | some g => V g | none => 0 := by
  rcases gst_spec (V := V) l with ⟨rfl, e⟩ | ⟨g, e, hg⟩
  · rfl
  · rw [e]; exact hg.val.symm
end
structure Ar where
  fr : Option Nat
  to : Nat
  op : Nat
def arU (V : Nat → Nat) (u : Un) : Ar := ⟨gst V u.needs, u.makes, u.op⟩
def arcs (U : List Un) (V : Nat → Nat) : List Ar := (U.filter fun u => decide (gr V u.needs < Inf)).map (arU V)
/-- The goal zone. -/
inductive TZ (A : List Ar) (c : Nat → Nat) (g : Nat) : Nat → Prop
  | base : TZ A c g g
  | step {a : Ar} {f : Nat} (ha : a ∈ A) (hf : a.fr = some f) (hc : c a.op = 0) (ht : TZ A c g a.to) : TZ A c g f
/-- The start zone. -/
inductive SZ (A : List Ar) (S0 : List Nat) (T : Nat → Prop) : Nat → Prop
  | base {f : Nat} (h : f ∈ S0) : SZ A S0 T f
  | start {a : Ar} (ha : a ∈ A) (hf : a.fr = none) (ht : ¬ T a.to) : SZ A S0 T a.to
  | step {a : Ar} {f : Nat} (ha : a ∈ A) (hf : a.fr = some f) (hs : SZ A S0 T f) (ht : ¬ T a.to) : SZ A S0 T a.to
/-- An arc begins in the start zone. -/
def Beg (A : List Ar) (S0 : List Nat) (T : Nat → Prop) (a : Ar) : Prop := a.fr = none ∨ ∃ f, a.fr = some f ∧ SZ A S0 T f
/-- The operators of the cut. -/
def XO (A : List Ar) (c : Nat → Nat) (S0 : List Nat) (g : Nat) (op : Nat) : Prop := ∃ a ∈ A, a.op = op ∧ Beg A S0 (TZ A c g) a ∧ TZ A c g a.to
/-- Operators with other costs. -/
def wc (U : List Un) (c : Nat → Nat) : List Un := U.map fun u => { u with cost := c u.op }
theorem wc_mem {U : List Un} {c : Nat → Nat} {v : Un} (h : v ∈ wc U c) : ∃ u ∈ U, v = { u with cost := c u.op } := by
  obtain ⟨u, hu, rfl⟩ := List.mem_map.1 h
  exact ⟨u, hu, rfl⟩
theorem mem_wc {U : List Un} {c : Nat → Nat} {u : Un} (h : u ∈ U) : ({ u with cost := c u.op } : Un) ∈ wc U c := List.mem_map.2 ⟨u, h, rfl⟩
structure IsCut (U : List Un) (c : Nat → Nat) (S0 G : List Nat) (V : Nat → Nat) (L : List Nat) (m : Nat) : Prop where
  ex : ∃ g, gst V G = some g ∧ ∀ op, op ∈ L ↔ XO (arcs U V) c S0 g op
  asc : L.Pairwise (· < ·)
  le : ∀ op ∈ L, m ≤ c op
  at_ : ∃ op ∈ L, c op = m
def sub (c : Nat → Nat) (L : List Nat) (m : Nat) : Nat → Nat := fun i => if i ∈ L then c i - m else c i
/-- The cuts for a state. -/
inductive LmC (U : List Un) (S0 G : List Nat) : (Nat → Nat) → Option (List (List Nat × Nat)) → Prop
  | inf {c V : Nat → Nat} (hV : IsVal (wc U c) S0 V) (h : Inf ≤ gr V G) : LmC U S0 G c none
  | nil {c V : Nat → Nat} (hV : IsVal (wc U c) S0 V) (h : gr V G = 0) : LmC U S0 G c (some [])
  | cut {c V : Nat → Nat} {L : List Nat} {m : Nat} {r : Option (List (List Nat × Nat))} (hV : IsVal (wc U c) S0 V) (h0 : 0 < gr V G) (hi : gr V G < Inf) (hc : IsCut U c S0 G V L m) (hr : LmC U S0 G (sub c L m) r) : LmC U S0 G c (r.map ((L, m) :: ·))
section
variable {U : List Un} {S0 G : List Nat} {c V : Nat → Nat} {L L' : List Nat} {m m' g : Nat}
theorem asc_ext : ∀ {L L' : List Nat}, L.Pairwise (· < ·) → L'.Pairwise (· < ·) → (∀ x, x ∈ L ↔ x ∈ L') → L = L'
  | [], [], _, _, _ => rfl
  | [], b :: L', _, _, h => by have := (h b).2 (by simp); cases this
  | a :: L, [], _, _, h => by have := (h a).1 (by simp); cases this
  | a :: L, b :: L', h1, h2, h => by
    rw [List.pairwise_cons] at h1 h2
    have hab : a = b := by
      rcases List.mem_cons.1 ((h a).1 (by simp)) with e | e
      · exact e
      · rcases List.mem_cons.1 ((h b).2 (by simp)) with e2 | e2
        · exact e2.symm
        · have := h1.1 b e2; have := h2.1 a e; omega
    subst hab
    congr 1
    refine asc_ext h1.2 h2.2 fun x => ?_
    constructor
    · intro hx
      rcases List.mem_cons.1 ((h x).1 (by simp [hx])) with e | e
      · subst e; have := h1.1 x hx; omega
      · exact e
    · intro hx
      rcases List.mem_cons.1 ((h x).2 (by simp [hx])) with e | e
      · subst e; have := h2.1 x hx; omega
      · exact e
theorem IsCut.uniq (h : IsCut U c S0 G V L m) (h' : IsCut U c S0 G V L' m') : L = L' ∧ m = m' := by
  obtain ⟨g, e, hx⟩ := h.ex
  obtain ⟨g', e', hx'⟩ := h'.ex
  rw [e] at e'
  cases e'
  have hL := asc_ext h.asc h'.asc fun x => (hx x).trans (hx' x).symm
  subst hL
  obtain ⟨o, ho, e1⟩ := h.at_
  obtain ⟨o', ho', e2⟩ := h'.at_
  have := h.le o' ho'
  have := h'.le o ho
  exact ⟨rfl, by omega⟩
theorem LmC.uniq {r r' : Option (List (List Nat × Nat))} (h : LmC U S0 G c r) (h' : LmC U S0 G c r') : r = r' := by
  induction h generalizing r' with
  | inf hV hh =>
    cases h' with
    | inf _ _ => rfl
    | nil hV' h2 => rw [hV.uniq hV'] at hh; rw [h2] at hh; unfold Inf at hh; omega
    | cut hV' _ h2 _ _ => rw [hV.uniq hV'] at hh; omega
  | nil hV hh =>
    cases h' with
    | inf hV' h2 => rw [← hV.uniq hV', hh] at h2; unfold Inf at h2; omega
    | nil _ _ => rfl
    | cut hV' h2 _ _ _ => rw [← hV.uniq hV', hh] at h2; omega
  | cut hV h0 hi hc hr ih =>
    cases h' with
    | inf hV' h2 => rw [← hV.uniq hV'] at h2; omega
    | nil hV' h2 => rw [← hV.uniq hV'] at h2; omega
    | cut hV' _ _ hc' hr' =>
      have e := hV.uniq hV'
      subst e
      obtain ⟨rfl, rfl⟩ := hc.uniq hc'
      rw [ih hr']
end
end Go.Lm
end
section
set_option linter.unusedVariables false
set_option linter.unusedSimpArgs false
namespace Go.Lm
open Go.Rx
/-- Sizes. -/
structure Szs (U : List Un) (S0 : List Nat) (N C : Nat) (c : Nat → Nat) : Prop where
  made : ∀ u ∈ U, u.makes < N
  s0 : ∀ x ∈ S0, x < N
  cost : ∀ u ∈ U, c u.op ≤ C
  sm : N * C < Inf
section
variable {U : List Un} {S0 G : List Nat} {c V : Nat → Nat} {L : List Nat} {m g N C f k op : Nat}
theorem Szs.der (h : Szs U S0 N C c) (d : Der (wc U c) S0 f k) : f < N := by
  cases d with
  | base hf => exact h.s0 _ hf
  | step hu kk hk =>
    obtain ⟨u, hu2, rfl⟩ := wc_mem hu
    exact h.made u hu2
theorem Szs.fin (h : Szs U S0 N C c) (hV : IsVal (wc U c) S0 V) : V f < Inf ↔ ∃ k, Der (wc U c) S0 f k :=
  hV.fin (C := C) (N := N) (fun u hu => by
    obtain ⟨v, hv, rfl⟩ := wc_mem hu
    exact h.cost v hv) (fun f k d => h.der d) h.sm
theorem Szs.sub (h : Szs U S0 N C c) (L : List Nat) (m : Nat) : Szs U S0 N C (sub c L m) :=
  ⟨h.made, h.s0, fun u hu => by
    have := h.cost u hu
    unfold Go.Lm.sub
    split <;> omega, h.sm⟩
theorem arcs_mem {a : Ar} (h : a ∈ arcs U V) : ∃ u ∈ U, gr V u.needs < Inf ∧ a = arU V u := by
  unfold arcs at h
  obtain ⟨u, hu, rfl⟩ := List.mem_map.1 h
  rw [List.mem_filter] at hu
  exact ⟨u, hu.1, by simpa using hu.2, rfl⟩
theorem mem_arcs {u : Un} (hu : u ∈ U) (h : gr V u.needs < Inf) : arU V u ∈ arcs U V := List.mem_map.2 ⟨u, List.mem_filter.2 ⟨hu, by simpa using h⟩, rfl⟩
theorem val_cl (hV : IsVal (wc U c) S0 V) {u : Un} (hu : u ∈ U) (h : gr V u.needs < Inf) : V u.makes ≤ gr V u.needs + c u.op := hV.cl _ (mem_wc (c := c) hu) h
theorem tz_val (hV : IsVal (wc U c) S0 V) (h : TZ (arcs U V) c g f) : V g ≤ V f := by
  induction h with
  | base => exact Nat.le_refl _
  | step ha hf hc ht ih =>
    obtain ⟨u, hu, h1, rfl⟩ := arcs_mem ha
    have h2 := val_cl hV hu h1
    have h3 := gr_gst (V := V) u.needs
    have hf : gst V u.needs = some _ := hf
    rw [hf] at h3
    have hc : c u.op = 0 := hc
    have ih : V g ≤ V u.makes := ih
    simp only at h3
    omega
theorem sz_tz (hV : IsVal (wc U c) S0 V) (h0 : 0 < V g) (h : SZ (arcs U V) S0 (TZ (arcs U V) c g) f) : ¬ TZ (arcs U V) c g f := by
  cases h with
  | base hf =>
    intro ht
    have := tz_val hV ht
    rw [hV.s0 f hf] at this
    omega
  | start ha hf ht => exact ht
  | step ha hf hs ht => exact ht
theorem xo_pos (hV : IsVal (wc U c) S0 V) (h0 : 0 < V g) (h : XO (arcs U V) c S0 g op) : 0 < c op := by
  obtain ⟨a, ha, rfl, hb, ht⟩ := h
  rcases Nat.eq_zero_or_pos (c a.op) with hz | hp
  · exfalso
    rcases hb with hf | ⟨f, hf, hs⟩
    · obtain ⟨u, hu, h1, rfl⟩ := arcs_mem ha
      have h2 := val_cl hV hu h1
      have h3 := tz_val hV ht
      have hn : u.needs = [] := gst_none hf
      rw [hn] at h2
      have hz : c u.op = 0 := hz
      have h3 : V g ≤ V u.makes := h3
      simp only [gr] at h2
      omega
    · exact sz_tz hV h0 hs (.step ha hf hz ht)
  · exact hp
theorem sz_der (hV : IsVal (wc U c) S0 V) {T : Nat → Prop} (h : SZ (arcs U V) S0 T f) : ∃ k, Der (wc U c) S0 f k := by
  have key : ∀ a ∈ arcs U V, ∃ k, Der (wc U c) S0 a.to k := fun a ha => by
    obtain ⟨u, hu, h1, rfl⟩ := arcs_mem ha
    have h2 := (gr_lt_iff (by unfold Inf; omega)).1 h1
    exact ⟨_, .step (mem_wc (c := c) hu) V fun n hn => hV.der n (h2 n hn)⟩
  cases h with
  | base hf => exact ⟨0, .base hf⟩
  | start ha hf ht => exact key _ ha
  | step ha hf hs ht => exact key _ ha
/-- The operators that do not cross stay in the start zone. -/
theorem sz_step (hz : Szs U S0 N C c) (hV : IsVal (wc U c) S0 V) {u : Un} (hu : u ∈ U) (hn : ∀ n ∈ u.needs, SZ (arcs U V) S0 (TZ (arcs U V) c g) n) (hx : ¬ XO (arcs U V) c S0 g u.op) : SZ (arcs U V) S0 (TZ (arcs U V) c g) u.makes := by
  have h1 : gr V u.needs < Inf := (gr_lt_iff (by unfold Inf; omega)).2 fun n h => (hz.fin hV).2 (sz_der hV (hn n h))
  have ha := mem_arcs hu h1
  by_cases ht : TZ (arcs U V) c g u.makes
  · refine absurd ⟨arU V u, ha, rfl, ?_, ht⟩ hx
    rcases gst_spec (V := V) u.needs with ⟨_, e⟩ | ⟨f, e, hf⟩
    · exact .inl e
    · exact .inr ⟨f, e, hn f hf.1⟩
  · rcases gst_spec (V := V) u.needs with ⟨_, e⟩ | ⟨f, e, hf⟩
    · exact SZ.start (a := arU V u) ha e ht
    · exact SZ.step (a := arU V u) ha e (hn f hf.1) ht
theorem xo_ex (hz : Szs U S0 N C c) (hV : IsVal (wc U c) S0 V) (h0 : 0 < V g) (hi : V g < Inf) : ∃ op, XO (arcs U V) c S0 g op := by
  apply Classical.byContradiction
  intro hno
  have key : ∀ f k, Der (wc U c) S0 f k → SZ (arcs U V) S0 (TZ (arcs U V) c g) f := by
    intro f k d
    induction d with
    | base hf => exact .base hf
    | step hu kk hk ih =>
      obtain ⟨u, hu2, rfl⟩ := wc_mem hu
      have := sz_step hz hV hu2 (g := g) ih fun hx => hno ⟨_, hx⟩
      exact this
  exact sz_tz hV h0 (key g _ (hV.der g hi)) .base
/-- A step of the relaxed task: every fact behind it was there, or is made by the operator. -/
def Stp (U : List Un) (x : List Nat) (q : Nat) (x' : List Nat) : Prop := ∀ f ∈ x', f ∈ x ∨ ∃ u ∈ U, u.op = q ∧ u.makes = f ∧ ∀ n ∈ u.needs, n ∈ x
theorem IsCut.gst0 (h : IsCut U c S0 G V L m) (h0 : 0 < gr V G) (hi : gr V G < Inf) : ∃ g, gst V G = some g ∧ 0 < V g ∧ V g < Inf ∧ g ∈ G ∧ ∀ op, op ∈ L ↔ XO (arcs U V) c S0 g op := by
  obtain ⟨g, e, hx⟩ := h.ex
  have hg := gst_some e
  rw [← hg.val] at h0 hi
  exact ⟨g, e, h0, hi, hg.1, hx⟩
/-- A cut is a landmark. -/
theorem IsCut.landmark (hz : Szs U S0 N C c) (hV : IsVal (wc U c) S0 V) (h : IsCut U c S0 G V L m) (h0 : 0 < gr V G) (hi : gr V G < Inf) :
    ∃ P : List Nat → Prop, P S0 ∧ (∀ x, P x → ¬ ∀ f ∈ G, f ∈ x) ∧ ∀ x q x', q ∉ L → Stp U x q x' → P x → P x' := by
  obtain ⟨g, e, hg0, hgi, hgm, hx⟩ := h.gst0 h0 hi
  refine ⟨fun x => ∀ f ∈ x, SZ (arcs U V) S0 (TZ (arcs U V) c g) f, fun f hf => .base hf, fun x hp hG => ?_, fun x q x' hq hs hp f hf => ?_⟩
  · exact sz_tz hV hg0 (hp g (hG g hgm)) .base
  · rcases hs f hf with h1 | ⟨u, hu, rfl, rfl, hn⟩
    · exact hp f h1
    · exact sz_step hz hV hu (fun n hn2 => hp n (hn n hn2)) fun hxx => hq ((hx _).2 hxx)
theorem IsCut.pos (hV : IsVal (wc U c) S0 V) (h : IsCut U c S0 G V L m) (h0 : 0 < gr V G) (hi : gr V G < Inf) : 1 ≤ m ∧ L ≠ [] ∧ ∀ op ∈ L, ∃ u ∈ U, u.op = op := by
  obtain ⟨g, e, hg0, hgi, hgm, hx⟩ := h.gst0 h0 hi
  obtain ⟨op, ho, e1⟩ := h.at_
  refine ⟨?_, (fun e2 => by rw [e2] at ho; cases ho), fun op ho => ?_⟩
  · have := xo_pos hV hg0 ((hx op).1 ho); omega
  · obtain ⟨a, ha, rfl, _⟩ := (hx op).1 ho
    obtain ⟨u, hu, _, rfl⟩ := arcs_mem ha
    exact ⟨u, hu, rfl⟩
def sumM (out : List (List Nat × Nat)) : Nat := (out.map (·.2)).sum
/-- What every cut gives. -/
theorem LmC.each {r : Option (List (List Nat × Nat))} (h : LmC U S0 G c r) (hz : Szs U S0 N C c) : ∀ out, r = some out → ∀ p ∈ out, 1 ≤ p.2 ∧ p.1 ≠ [] ∧ p.1.Pairwise (· < ·) ∧ (∀ op ∈ p.1, ∃ u ∈ U, u.op = op) ∧
    ∃ P : List Nat → Prop, P S0 ∧ (∀ x, P x → ¬ ∀ f ∈ G, f ∈ x) ∧ ∀ x q x', q ∉ p.1 → Stp U x q x' → P x → P x' := by
  induction h with
  | inf hV h => intro out e; cases e
  | nil hV h => intro out e; cases e; simp
  | @cut c V L m r hV h0 hi hc hr ih =>
    intro out e
    cases r with
    | none => cases e
    | some o =>
      cases e
      intro p hp
      rcases List.mem_cons.1 hp with rfl | hp
      · obtain ⟨a, b, d⟩ := hc.pos hV h0 hi
        exact ⟨a, b, hc.asc, d, hc.landmark hz hV h0 hi⟩
      · exact ih (hz.sub L m) o rfl p hp
/-- The costs that are left. -/
def leftO (c : Nat → Nat) : List (List Nat × Nat) → Nat → Nat
  | [] => c
  | p :: o => leftO (sub c p.1 p.2) o
/-- No operator pays more than it has. -/
def Pays (c : Nat → Nat) : List (List Nat × Nat) → Prop
  | [] => True
  | p :: o => (∀ op ∈ p.1, p.2 ≤ c op) ∧ Pays (sub c p.1 p.2) o
theorem LmC.budget {r : Option (List (List Nat × Nat))} (h : LmC U S0 G c r) : ∀ out, r = some out → Pays c out ∧ ∃ V, IsVal (wc U (leftO c out)) S0 V ∧ gr V G = 0 := by
  induction h with
  | inf hV h => intro out e; cases e
  | nil hV h => intro out e; cases e; exact ⟨trivial, _, hV, h⟩
  | @cut c V L m r hV h0 hi hc hr ih =>
    intro out e
    cases r with
    | none => cases e
    | some o =>
      cases e
      obtain ⟨h1, h2⟩ := ih o rfl
      exact ⟨⟨hc.le, h1⟩, h2⟩
/-- The operators that still cost something. -/
def posN (c : Nat → Nat) (n : Nat) : Nat := ((List.range n).filter fun i => decide (0 < c i)).length
theorem posN_lt (hle : ∀ i, c i ≤ V i) (ho : op < k) (h1 : c op = 0) (h2 : 0 < V op) : posN c k < posN V k := by
  induction k with
  | zero => omega
  | succ n ih =>
    have hmono : ∀ n, posN c n ≤ posN V n := by
      intro n
      induction n with
      | zero => exact Nat.le_refl _
      | succ n ih =>
        unfold posN at ih ⊢
        rw [List.range_succ, List.filter_append, List.filter_append, List.length_append, List.length_append]
        have := hle n
        by_cases h : 0 < c n
        · have h' : 0 < V n := by omega
          simp [h, h']; exact ih
        · simp [h]; omega
    have hm := hmono n
    unfold posN at ih hm ⊢
    rw [List.range_succ, List.filter_append, List.filter_append, List.length_append, List.length_append]
    by_cases e : op = n
    · subst e
      simp [h1, h2]; omega
    · have := ih (by omega)
      have := hle n
      by_cases h : 0 < c n
      · have h' : 0 < V n := by omega
        simp [h, h']; omega
      · simp [h]; omega
theorem posN_le (n : Nat) : posN c n ≤ n := by
  have := List.length_filter_le (fun i => decide (0 < c i)) (List.range n)
  simpa [posN] using this
theorem IsCut.less (hV : IsVal (wc U c) S0 V) (h : IsCut U c S0 G V L m) (h0 : 0 < gr V G) (hi : gr V G < Inf) {n : Nat} (hn : ∀ u ∈ U, u.op < n) : posN (sub c L m) n < posN c n := by
  obtain ⟨h1, h2, h3⟩ := h.pos hV h0 hi
  obtain ⟨op, ho, e⟩ := h.at_
  obtain ⟨u, hu, rfl⟩ := h3 op ho
  refine posN_lt (op := u.op) (fun i => ?_) (hn u hu) ?_ (by omega)
  · unfold sub; split <;> omega
  · unfold sub; rw [if_pos ho]; omega
theorem LmC.len {r : Option (List (List Nat × Nat))} (h : LmC U S0 G c r) {n : Nat} (hn : ∀ u ∈ U, u.op < n) : ∀ out, r = some out → out.length ≤ posN c n := by
  induction h with
  | inf hV h => intro out e; cases e
  | nil hV h => intro out e; cases e; simp
  | @cut c V L m r hV h0 hi hc hr ih =>
    intro out e
    cases r with
    | none => cases e
    | some o =>
      cases e
      have := ih o rfl
      have := hc.less hV h0 hi hn
      simp; omega
/-- Without the goal there is no state with a plan. -/
theorem LmC.none_inf {r : Option (List (List Nat × Nat))} (h : LmC U S0 G c r) (hz : Szs U S0 N C c) : r = none → ∃ f ∈ G, ∀ c' k, ¬ Der (wc U c') S0 f k := by
  have mono : ∀ {c c' : Nat → Nat} {f k : Nat}, Der (wc U c') S0 f k → ∃ j, Der (wc U c) S0 f j := by
    intro c c' f k d
    induction d with
    | base h => exact ⟨0, .base h⟩
    | step hu kk hk ih =>
      obtain ⟨u, hu2, rfl⟩ := wc_mem hu
      have hex : ∀ n, ∃ j, n ∈ u.needs → Der (wc U c) S0 n j := fun n => by
        by_cases hn : n ∈ u.needs
        · obtain ⟨j, hj⟩ := ih n hn
          exact ⟨j, fun _ => hj⟩
        · exact ⟨0, fun h => absurd h hn⟩
      exact ⟨_, .step (mem_wc (c := c) hu2) (fun n => Classical.choose (hex n)) fun n hn => Classical.choose_spec (hex n) hn⟩
  induction h with
  | @inf c V hV h =>
    intro _
    apply Classical.byContradiction
    intro hno
    have : gr V G < Inf := (gr_lt_iff (by unfold Inf; omega)).2 fun f hf => (hz.fin hV).2 (by
      apply Classical.byContradiction
      intro hn
      refine hno ⟨f, hf, fun c' k d => hn ?_⟩
      exact mono d)
    omega
  | nil hV h => intro e; cases e
  | @cut c V L m r hV h0 hi hc hr ih =>
    intro e
    cases r with
    | none => exact ih (hz.sub L m) rfl
    | some o => cases e
theorem LmC.some_fin {r : Option (List (List Nat × Nat))} (h : LmC U S0 G c r) (out : List (List Nat × Nat)) (e : r = some out) : ∃ V, IsVal (wc U c) S0 V ∧ gr V G < Inf := by
  cases h with
  | inf hV h => cases e
  | nil hV h => exact ⟨_, hV, by rw [h]; unfold Inf; omega⟩
  | cut hV h0 hi hc hr => exact ⟨_, hV, hi⟩
end
end Go.Lm
end
