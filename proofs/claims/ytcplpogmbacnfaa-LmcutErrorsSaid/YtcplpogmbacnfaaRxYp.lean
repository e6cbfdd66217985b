/-
  Parts of the proofs of this seat's statements (RxXL, RxYA, RxYB, RxYC, RxYD, RxYE, RxYF, RxYG, RxYH, RxYI, RxYJ, RxYK); no conditions beyond those each theorem names.
-/
import Derived.Test.YtcplpogmbacnfaaRxXq
import Derived.Test.YtcplpogmbacnfaaRxPa
section
set_option maxRecDepth 100000
set_option linter.unusedSimpArgs false
set_option linter.unusedVariables false
namespace Go.Proofs.Ytcplpogmbacnfaa
open Go Go.W Go.Tk Go.Rx Go.Maps
/-- The operators of the example. -/
def IsC (i : Nat) (o : No) : Prop := o.name = ByteArray.empty ∧ o.cost = 2 ∧ o.pre = [(0, i)] ∧ ∃ e : Nf, o.effs = [e] ∧ e.cnd = [] ∧ e.v = 0 ∧ e.x = i + 1 ∧ e.wv.1 = .slice none 0 0
def ChF (vv nv gv : Value) (os : List No) : Asr := Star (VwsA fcE (os.map fun o => (o.pv, o.pre))) (Star (VwsA nfE (os.map fun o => (o.ev, o.effs))) (Star (VwA vv nE [4]) (Star (VwA nv nE [0]) (Star (VwA gv fcE [(0, 3)]) Emp))))
def ChI (rb tb : Nat) (vv nv gv : Value) (w : World) (n : Nat) (ρ : Env) (w' : World) : Prop :=
  ∃ k os ov, n = 3 - k ∧ k ≤ 3 ∧ os.length = k ∧ (∀ i o, os[i]? = some o → IsC i o) ∧ ρ 0 = .pointer (some ⟨rb, 0, none⟩) ∧ ρ 1 = .pointer (some ⟨tb, 0, none⟩) ∧ ρ 8 = .int .i64 (k : Nat) ∧
    At w [] (Star (ObjA tb (.cells #[vv, nv, gv, ov] 26 (0, 0))) (Star (OwnA ov 51 4 noE os) (Star (ObjA rb (.cells #[.slice none 0 0, .slice none 0 0, .slice none 0 0, .slice none 0 0] 26 (0, 0))) (ChF vv nv gv os)))) w'
theorem ChF.lcl {vv nv gv : Value} {os : List No} : Lcl (ChF vv nv gv os) := Lcl.vws.star (Lcl.vws.star (Lcl.vw.star (Lcl.vw.star (Lcl.vw.star .emp))))
end Go.Proofs.Ytcplpogmbacnfaa
end
section
set_option maxRecDepth 100000
set_option linter.unusedSimpArgs false
set_option linter.unusedVariables false
namespace Go.Rx
open Go Go.W Go.Tk
def prL : List Nat → Nat
  | [] => 1
  | x :: l => x * prL l
theorem prL_snoc : ∀ (l : List Nat) (x : Nat), prL (l ++ [x]) = prL l * x
  | [], x => by simp [prL]
  | y :: l, x => by simp only [List.cons_append, prL, prL_snoc l x, Nat.mul_assoc]
theorem many_le : ∀ (vars : List Nat) (n : Nat), (∀ v ∈ vars, 1 ≤ v) → manyF 512 n (vars.map iN) ≤ 512 → ∀ k, n * prL (vars.take k) ≤ 512
  | [], n, _, h, k => by simpa [manyF, prL] using h
  | x :: l, n, hx, h, k => by
    have h1 := hx x (by simp)
    simp only [List.map_cons, manyF] at h
    split at h
    · omega
    · rename_i hle
      have e : (iN x).toNat = x := by simp [iN]
      rw [e] at hle h
      have hle : n * min x (512 + 1) ≤ 512 := by omega
      cases k with
      | zero =>
        have := Nat.mul_le_mul_left n (show 1 ≤ min x (512 + 1) by omega)
        simp [prL]; omega
      | succ k =>
        rcases Nat.eq_zero_or_pos n with rfl | hn
        · simp
        have hm : min x (512 + 1) = x := by
          rcases Nat.le_total x 513 with h2 | h2
          · omega
          · have : min x (512 + 1) = 513 := by omega
            rw [this] at hle
            omega
        rw [hm] at h
        have := many_le l (n * x) (fun v hv => hx v (by simp [hv])) h k
        simpa [List.take_succ_cons, prL, Nat.mul_assoc] using this
theorem unsK_len8 {t : Nt} {cost : Nat → Nat} (h : ∀ o ∈ t.ops, o.effs.length ≤ 8) : ∀ n, (unsK t cost n).length ≤ 8 * n
  | 0 => by simp [unsK]
  | n + 1 => by
    have := unsK_len8 (cost := cost) h n
    cases ho : t.ops[n]? with
    | none =>
      unfold unsK at *
      rw [List.range_succ, List.flatMap_append]
      simp [ho] at this ⊢
      omega
    | some o =>
      rw [unsK_succ ho, List.length_append, opU_len]
      have := h o (List.mem_of_getElem? ho)
      omega
/-- A small task. -/
structure SmT (T : Nt) : Prop where
  g : NtG T
  good : goodB T.raw = true
  vl : T.vars.length ≤ 12
  ol : T.ops.length ≤ 20
  el : ∀ o ∈ T.ops, o.effs.length ≤ 8
  pr : ∀ k, prL (T.vars.take k) ≤ 512
  nm : ∀ o ∈ T.ops, o.name.size ≤ 9223372036854775807
theorem small_nat {t : Tk} (hl : TkL t) (h : smallB t = true) : ∃ T : Nt, T.raw = t ∧ SmT T := by
  unfold smallB at h
  simp only [Bool.and_eq_true, decide_eq_true_eq] at h
  obtain ⟨⟨⟨⟨h1, h2⟩, h3⟩, h4⟩, h5⟩ := h
  obtain ⟨T, rfl, hg⟩ := good_nat h4
  rw [List.all_eq_true] at h3
  refine ⟨T, rfl, hg, h4, by simpa [Nt.raw] using h1, by simpa [Nt.raw] using h2, fun o ho => ?_, fun k => ?_, fun o ho => ?_⟩
  · have := h3 o.raw (List.mem_map.2 ⟨o, ho, rfl⟩)
    simpa [No.raw] using this
  · have := many_le T.vars 1 (fun v hv => (hg.vars v hv).1) h5 k
    simpa using this
  · exact (hl.op o.raw (List.mem_map.2 ⟨o, ho, rfl⟩)).1
end Go.Rx
namespace Go.Proofs.Ytcplpogmbacnfaa
open Go Go.W Go.Tk Go.Rx Go.Maps
theorem stsK_len {vars : List Nat} : ∀ k, k ≤ vars.length → (stsK vars k).length = prL (vars.take k)
  | 0, _ => by simp [stsK, prL]
  | k + 1, hk => by
    obtain ⟨n, hn⟩ : ∃ n, vars[k]? = some n := ⟨_, List.getElem?_eq_getElem (by omega)⟩
    have key : ∀ (l : List (List Nat)), (l.flatMap (extS (vars.getD k 0))).length = l.length * vars.getD k 0 := by
      intro l
      induction l with
      | nil => simp
      | cons a l ih => rw [List.flatMap_cons, List.length_append, ih, extS_len, List.length_cons, Nat.add_mul]; omega
    have e : stsK vars (k + 1) = (stsK vars k).flatMap (extS (vars.getD k 0)) := rfl
    rw [take_snoc hn, prL_snoc, ← stsK_len k (by omega), e, key]
    simp [List.getD, hn]
theorem SmT.sts {T : Nt} (h : SmT T) : ∀ k, k ≤ T.vars.length → (stsK T.vars k).length ≤ 10000 := fun k hk => by
  rw [stsK_len k hk]
  have := h.pr k
  omega
theorem SmT.sm {T : Nt} (h : SmT T) {c : Nat → Nat} (hc : ∀ i, i < T.ops.length → c i ≤ 1048576) : Sm T.vars (uns T c) := {
  un := {
    nod := fun u hu => by
      obtain ⟨i, o, k, e, _, _, _, rfl⟩ := uns_mem hu
      exact dedup_nodup _
    rng := fun u hu n hn => by
      obtain ⟨i, o, k, e, hi, ho, he, rfl⟩ := uns_mem hu
      have hgo := h.g.ops o (List.mem_of_getElem? ho)
      obtain ⟨f, hf, rfl⟩ := List.mem_map.1 (dedup_mem.1 hn)
      rcases List.mem_append.1 hf with h1 | h1
      · obtain ⟨a, b⟩ := hgo.pre.rng f h1; exact numF_lt a b
      · obtain ⟨a, b⟩ := (hgo.cnd e (List.mem_of_getElem? he)).rng f h1; exact numF_lt a b
    made := fun u hu => by
      obtain ⟨i, o, k, e, hi, ho, he, rfl⟩ := uns_mem hu
      obtain ⟨a, b⟩ := (h.g.ops o (List.mem_of_getElem? ho)).eff e (List.mem_of_getElem? he)
      exact numF_lt a b
    cost := fun u hu => by
      obtain ⟨i, o, k, e, hi, ho, he, rfl⟩ := uns_mem hu
      exact hc i hi
    op := fun u hu => by
      obtain ⟨i, o, k, e, hi, ho, he, rfl⟩ := uns_mem hu
      have := h.ol
      show i ≤ 4096
      omega }
  vl := h.vl
  sm := by
    have := sum_le (N := 64) fun n hn => (h.g.vars n hn).2
    have := h.vl
    omega
  ul := by
    have := unsK_len8 (cost := c) h.el T.ops.length
    have := h.ol
    show (unsK T c T.ops.length).length ≤ 160
    omega }
/-- Right costs. -/
structure CsOk (T : Nt) (cs : List Int) : Prop where
  len : cs.length = 0 ∨ cs.length = T.ops.length
  rng : ∀ c ∈ cs, 0 ≤ c ∧ c ≤ 1048576
theorem CsOk.cst {T : Nt} {cs : List Int} (h : CsOk T cs) (hg : NtG T) (i : Nat) (hi : i < T.ops.length) : cst T cs i ≤ 1048576 := by
  unfold Go.Proofs.Ytcplpogmbacnfaa.cst
  split
  · obtain ⟨o, ho⟩ : ∃ o, T.ops[i]? = some o := ⟨_, List.getElem?_eq_getElem hi⟩
    rw [ho]
    exact (hg.ops o (List.mem_of_getElem? ho)).cost
  · rename_i hn
    rcases h.len with h1 | h1
    · exact absurd h1 hn
    have hi2 : i < cs.length := by omega
    have := h.rng cs[i] (List.getElem_mem hi2)
    simp only [List.getD, List.getElem?_eq_getElem hi2, Option.getD_some]
    omega
theorem CsOk.nil {T : Nt} : CsOk T [] := ⟨.inl rfl, by simp⟩
theorem PrI.ok {T : Nt} {gl rl : List Nat} (h : PrI T gl rl) : CsOk T (gl.map iN) := ⟨by simpa using h.glen, fun c hc => by
  obtain ⟨x, hx, rfl⟩ := List.mem_map.1 hc
  have := h.gb x hx
  unfold iN; omega⟩
/-- A relaxation that can be read. -/
def Rlx (b : Nat) (T : Nt) (U : List Un) (w : World) : Prop := ∃ vv gv fv uv nd fr rs ps, RlR b T.vars T.goal U vv gv fv uv nd fr rs ps w
theorem Rlx.kp {b : Nat} {T : Nt} {U : List Un} {w w' : World} (h : Rlx b T U w) (k : Kp [] w w') : Rlx b T U w' := by
  obtain ⟨vv, gv, fv, uv, nd, fr, rs, ps, h⟩ := h
  exact ⟨vv, gv, fv, uv, nd, fr, rs, ps, h.kp k⟩
theorem new_ok {w : World} (T : Nt) (cv : Value) (cs : List Int) (hs : SmT T) (hr : NtR w T) (hc : Vw w cv iE cs) (hok : CsOk T cs) :
    Calls Try.prog 27 [ntV T, cv].toArray w fun e w' => ∃ x, e = .returned x ∧ ∃ b, x = .tuple #[.pointer (some ⟨b, 0, none⟩), .nilIface] ∧ Rlx b T (uns T (cst T cs)) w' ∧ Kp [] w w' := by
  have hol := hs.ol
  refine Calls.mono (rNew_good T cv cs hs.g hs.good hr hs.nm hc (by rcases hok.len with h | h <;> omega)) ?_
  rintro e w' ⟨x, rfl, hx⟩
  refine ⟨x, rfl, ?_⟩
  have hn : nwC T.raw cs = none := by
    unfold nwC
    rw [(chk_good T.raw).2 hs.good]
    have h1 : ¬ (0 < cs.length ∧ cs.length ≠ T.raw.ops.length) := by
      have : T.raw.ops.length = T.ops.length := by simp [Nt.raw]
      rcases hok.len with h | h <;> omega
    have h2 : cs.all cOk = true := by
      rw [List.all_eq_true]
      intro c hc
      have := hok.rng c hc
      simp [cOk]; omega
    rw [if_neg h1, if_neg (by rw [h2]; simp)]
  unfold NwP at hx
  rw [hn] at hx
  obtain ⟨b, vv, gv, fv, tb, rfl, h⟩ := hx
  obtain ⟨uv, nd, fr, rs, ps, h2⟩ := h.rd
  exact ⟨b, rfl, ⟨vv, gv, fv, uv, nd, fr, rs, ps, h2⟩, h.kp⟩
/-! ### The example -/
theorem chain_ops {T : Nt} (hl : T.ops.length = 3) (h : ∀ i o, T.ops[i]? = some o → IsC i o) : ∃ a b c, T.ops = [a, b, c] ∧ IsC 0 a ∧ IsC 1 b ∧ IsC 2 c := by
  obtain ⟨a, b, c, e⟩ : ∃ a b c, T.ops = [a, b, c] := by
    match ho : T.ops, hl with
    | [a, b, c], _ => exact ⟨a, b, c, rfl⟩
  exact ⟨a, b, c, e, h 0 a (by rw [e]; rfl), h 1 b (by rw [e]; rfl), h 2 c (by rw [e]; rfl)⟩
theorem IsC.opB {i : Nat} {o : No} (h : IsC i o) (hi : i < 3) : opB [4] o.raw = true := by
  obtain ⟨h1, h2, h3, e, h4, h5, h6, h7, h8⟩ := h
  have e1 : o.raw = ⟨ByteArray.empty, 2, o.pv, [(0, (i : Int))], o.ev, [⟨e.wv, [], 0, ((i + 1 : Nat) : Int)⟩]⟩ := by
    unfold No.raw Nf.raw
    rw [h1, h2, h3, h4]
    simp [h5, h6, h7, faN]
  rw [e1]
  have : i = 0 ∨ i = 1 ∨ i = 2 := by omega
  rcases this with rfl | rfl | rfl <;> rfl
theorem chain_small {T : Nt} (hv : T.vars = [4]) (hn : T.init = [0]) (hgl : T.goal = [(0, 3)]) (hl : T.ops.length = 3) (h : ∀ i o, T.ops[i]? = some o → IsC i o) : SmT T := by
  obtain ⟨a, b, c, e, ha, hb, hc⟩ := chain_ops hl h
  have hgood : goodB T.raw = true := by
    have e1 : T.raw = ⟨T.vv, T.nv, T.gv, T.ov, [4], [0], [(0, 3)], [a.raw, b.raw, c.raw]⟩ := by
      unfold Nt.raw; rw [hv, hn, hgl, e]; rfl
    rw [e1]
    unfold goodB
    simp only [List.all_cons, List.all_nil, ha.opB (by omega), hb.opB (by omega), hc.opB (by omega), Bool.and_true]
    rfl
  obtain ⟨T', eT, hg⟩ := good_nat hgood
  have hel : ∀ o ∈ T.ops, o.effs.length ≤ 8 := fun o ho => by
    obtain ⟨i, hi, rfl⟩ := List.getElem_of_mem ho
    obtain ⟨_, _, _, e2, q, _⟩ := h i _ (List.getElem?_eq_getElem hi)
    rw [q]; simp
  have hnm : ∀ o ∈ T.ops, o.name = ByteArray.empty := fun o ho => by
    obtain ⟨i, hi, rfl⟩ := List.getElem_of_mem ho
    exact (h i _ (List.getElem?_eq_getElem hi)).1
  refine ⟨⟨by rw [hv]; simp, by omega, by rw [hv]; simp, by rw [hv, hn]; rfl, by rw [hv, hn]; simp, by rw [hv, hgl]; exact ⟨by simp, by simp⟩, fun o ho => ?_⟩, hgood, by rw [hv]; simp, by omega, hel, fun k => ?_, fun o ho => by rw [hnm o ho]; decide⟩
  · obtain ⟨i, hi, rfl⟩ := List.getElem_of_mem ho
    obtain ⟨h1, h2, h3, e2, h4, h5, h6, h7, h8⟩ := h i _ (List.getElem?_eq_getElem hi)
    rw [hv]
    refine ⟨by omega, by rw [h4]; simp, by rw [h3]; exact ⟨by simp; omega, by simp⟩, by rw [h4]; simp [h5]; exact ⟨by simp, by simp⟩, by rw [h4]; simp [h6, h7]; omega⟩
  · rw [hv]
    cases k with
    | zero => simp [prL]
    | succ k => simp [prL]
end Go.Proofs.Ytcplpogmbacnfaa
end
section
set_option maxRecDepth 100000
set_option linter.unusedSimpArgs false
set_option linter.unusedVariables false
namespace Go.Proofs.Ytcplpogmbacnfaa
open Go Go.W Go.Tk Go.Rx Go.Maps
section
variable {w : World} {b : Nat} {T : Nt} {U : List Un}
theorem rl_max (sv : Value) (s : List Nat) (hR : Rlx b T U w) (hg : NtG T) (hs : Vw w sv nE s) (hst : StN T.vars s) (hS : Sm T.vars U) :
    Calls Try.prog 28 [.pointer (some ⟨b, 0, none⟩), sv].toArray w fun e w' => ∃ x, e = .returned x ∧ ∃ V, IsVal U (stN T.vars s T.vars.length) V ∧ x = .int .i64 (grF T.vars V T.goal : Nat) ∧ Kp [] w w' := by
  obtain ⟨vv, gv, fv, uv, nd, fr, rs, ps, h⟩ := hR
  exact max_ok sv s h hg.goal hs hst hS
end
theorem chain_uns {T : Nt} (hv : T.vars = [4]) (hl : T.ops.length = 3) (h : ∀ i o, T.ops[i]? = some o → IsC i o) : uns T (cst T []) = U3 := by
  obtain ⟨a, b, c, e, ha, hb, hc⟩ := chain_ops hl h
  have key : ∀ {i : Nat} {o : No}, T.ops[i]? = some o → IsC i o → opU T.vars o i (cst T [] i) o.effs.length = [⟨i, 0, 2, i + 1, [i]⟩] := by
    intro i o ho hi
    obtain ⟨_, h2, h3, e2, h4, h5, h6, h7, _⟩ := hi
    have ec : cst T [] i = 2 := by unfold cst; simp only [List.length_nil, if_true, ho]; exact h2
    rw [ec, hv]
    unfold opU
    rw [h4]
    simp only [List.length_singleton, List.range_one, List.map_cons, List.map_nil]
    rw [unA_at (e := e2) (by rw [h4]; rfl), h3, h5, h6, h7]
    simp [numF, psum, dedup, ndd]
  have e0 : T.ops[0]? = some a := by rw [e]; rfl
  have e1 : T.ops[1]? = some b := by rw [e]; rfl
  have e2 : T.ops[2]? = some c := by rw [e]; rfl
  unfold uns
  rw [hl, unsK_succ e2, unsK_succ e1, unsK_succ e0, key e0 ha, key e1 hb, key e2 hc]
  rfl
theorem ints_vw {w : World} {v : Value} {l : List Nat} (h : Vw w v nE l) : Vw w v iE (l.map iN) := vw_n.2 h
theorem lone {α : Type} {enc : α → List Value} {v : Value} {l : List α} {X : Asr} (ho : oneC v = true) : Imp (Star (VwA v enc l) X) (Star (VwsA enc [((⟨v, ho⟩, l) : Cell1 × List α)]) X) := by
  rintro w F ⟨Fa, Fb, ⟨h1, e1, h2⟩, h3, hd, rfl⟩
  exact ⟨_, ⟨Fa, Fb, ⟨fun p hp => by simp at hp; subst hp; exact h1, fun x hx => h2 x (by rw [← e1]; exact hx), by simpa using e1⟩, h3, hd, rfl⟩, fun x hx => hx⟩
def ChT (T : Nt) (w : World) : Prop := NtR w T ∧ T.vars = [4] ∧ T.init = [0] ∧ T.goal = [(0, 3)] ∧ T.ops.length = 3 ∧ ∀ i o, T.ops[i]? = some o → IsC i o
end Go.Proofs.Ytcplpogmbacnfaa
end
section
set_option maxRecDepth 100000
set_option linter.unusedSimpArgs false
set_option linter.unusedVariables false
namespace Go.Proofs.Ytcplpogmbacnfaa
open Go Go.W Go.Tk Go.Rx Go.Maps
theorem uns_congr {T : Nt} {c c' : Nat → Nat} (h : ∀ i, i < T.ops.length → c i = c' i) : uns T c = uns T c' := by
  have key : ∀ n, n ≤ T.ops.length → unsK T c n = unsK T c' n := by
    intro n hn
    induction n with
    | zero => rfl
    | succ n ih =>
      obtain ⟨o, ho⟩ : ∃ o, T.ops[n]? = some o := ⟨_, List.getElem?_eq_getElem (by omega)⟩
      rw [unsK_succ ho, unsK_succ ho, ih (by omega), h n (by omega)]
  exact key _ (Nat.le_refl _)
theorem allow_nil (U : List Un) : allow (okL []) U = U := by simp [allow, okL]
theorem tbI_len (vars : List Nat) (g : Nat → Int) : (tbI vars g).length = vars.length := tbK_len _ _ _
theorem tbI_row {T : Nt} (hs : SmT T) (g : Nat → Int) : ∀ x ∈ tbI T.vars g, x.length ≤ 1000000 := fun x hx => by
  unfold tbI tbK at hx
  obtain ⟨v, hv, rfl⟩ := List.mem_map.1 hx
  rw [rwI_len]
  have hv := List.mem_range.1 hv
  have := (hs.g.vars (T.vars.getD v 0) (by simp [List.getD, List.getElem?_eq_getElem hv])).2
  omega
theorem raw_vv (T : Nt) : T.raw.vv = T.vv := rfl
theorem raw_nv (T : Nt) : T.raw.nv = T.nv := rfl
theorem raw_gv (T : Nt) : T.raw.gv = T.gv := rfl
theorem raw_ov (T : Nt) : T.raw.ov = T.ov := rfl
end Go.Proofs.Ytcplpogmbacnfaa
end
section
set_option maxRecDepth 100000
set_option linter.unusedSimpArgs false
set_option linter.unusedVariables false
namespace Go.Proofs.Ytcplpogmbacnfaa
open Go Go.W Go.Tk Go.Rx Go.Maps
end Go.Proofs.Ytcplpogmbacnfaa
end
section
set_option maxRecDepth 100000
set_option linter.unusedSimpArgs false
set_option linter.unusedVariables false
namespace Go.Proofs.Ytcplpogmbacnfaa
open Go Go.W Go.Tk Go.Rx Go.Maps
def RcI (T : Nt) (s : List Nat) (ws : List Int) (i : Nat) (v : Value) : Prop := ∃ V, IsVal (allow (okL (ws.take i)) (uns T (cst T []))) (stN T.vars s T.vars.length) V ∧ v = .bool (decide (grF T.vars V T.goal < Inf))
end Go.Proofs.Ytcplpogmbacnfaa
end
section
set_option maxRecDepth 100000
set_option linter.unusedSimpArgs false
set_option linter.unusedVariables false
namespace Go.Proofs.Ytcplpogmbacnfaa
open Go Go.W Go.Tk Go.Rx Go.Maps
theorem stN_sum {vars s : List Nat} (h : StN vars s) : ∀ x ∈ stN vars s vars.length, x < vars.sum := fun x hx => by
  unfold stN at hx
  obtain ⟨v, hv, rfl⟩ := List.mem_map.1 hx
  have hv := List.mem_range.1 hv
  exact numF_lt (f := (v, s.getD v 0)) hv (h.rng v hv)
theorem sm_der {vars s : List Nat} {U : List Un} (hS : Sm vars U) (h : StN vars s) : ∀ f k, Der U (stN vars s vars.length) f k → f < vars.sum := fun f k d => der_lt hS.un.made (stN_sum h) d
theorem uns_twin {T : Nt} {c c' : Nat → Nat} : ∀ u ∈ uns T c, ∃ v ∈ uns T c', v.makes = u.makes ∧ ∀ n, n ∈ v.needs ↔ n ∈ u.needs := fun u hu => by
  obtain ⟨i, o, k, e, hi, ho, he, rfl⟩ := uns_mem hu
  exact ⟨_, mem_uns hi ho he, rfl, fun _ => Iff.rfl⟩
theorem lev_cost {T : Nt} {c c' : Nat → Nat} {S : List Nat} {L : Nat → Int} (h : IsLev (uns T c) S L) : IsLev (uns T c') S L := h.same uns_twin uns_twin
theorem cst_ones {T : Nt} {i : Nat} (hi : i < T.ops.length) : cst T ((List.replicate T.ops.length 1).map iN) i = 1 := by
  unfold cst
  rw [if_neg (by rw [List.length_map, List.length_replicate]; omega)]
  simp [List.getD, hi, iN]
theorem ones_ok {T : Nt} : CsOk T ((List.replicate T.ops.length 1).map iN) := ⟨.inr (by simp), fun c hc => by
  simp [iN] at hc
  omega⟩
theorem ones_cost {T : Nt} : ∀ u ∈ uns T (cst T ((List.replicate T.ops.length 1).map iN)), u.cost = 1 := fun u hu => by
  obtain ⟨i, o, k, e, hi, ho, he, rfl⟩ := uns_mem hu
  exact cst_ones hi
theorem tabN_one (n : Nat) : tabN n (upto n (fun _ => 1) 0) = List.replicate n 1 := by
  rw [upto_all]
  unfold tabN
  apply List.ext_getElem
  · simp
  · intro i h1 h2; simp
theorem lev_fin {vars s : List Nat} {U : List Un} {L : Nat → Int} {V : Nat → Nat} {f : Nat} (hS : Sm vars U) (h : StN vars s) (hL : IsLev U (stN vars s vars.length) L) (hV : IsVal U (stN vars s vars.length) V) : L f < 0 ↔ Inf ≤ V f :=
  hL.fin hV hS.un.cost (sm_der hS h) (by have := hS.sm; unfold Inf; omega)
theorem lev_ones {vars s : List Nat} {U : List Un} {L : Nat → Int} {V : Nat → Nat} {f : Nat} (hS : Sm vars U) (h : StN vars s) (h1 : ∀ u ∈ U, u.cost = 1) (hL : IsLev U (stN vars s vars.length) L) (hV : IsVal U (stN vars s vars.length) V) (hp : 0 ≤ L f) : L f = (V f : Int) :=
  hL.ones hV h1 (sm_der hS h) (by have := hS.sm; unfold Inf; omega) hp
end Go.Proofs.Ytcplpogmbacnfaa
end
section
set_option maxRecDepth 100000
set_option linter.unusedSimpArgs false
set_option linter.unusedVariables false
namespace Go.Proofs.Ytcplpogmbacnfaa
open Go Go.W Go.Tk Go.Rx Go.Maps
/-! ### Other costs, fewer operators -/
theorem cst_given {T : Nt} {cl : List Nat} (hl : cl.length = T.ops.length) {i : Nat} (hi : i < T.ops.length) : cst T (cl.map iN) i = cl.getD i 0 := by
  unfold cst
  rw [if_neg (by rw [List.length_map]; omega), iN_at]
  simp
theorem cs_given {T : Nt} {cl : List Nat} (hl : cl.length = T.ops.length) (hb : ∀ c ∈ cl, c ≤ 1048576) : CsOk T (cl.map iN) := ⟨.inr (by simpa using hl), fun c hc => by
  obtain ⟨x, hx, rfl⟩ := List.mem_map.1 hc
  have := hb x hx
  unfold iN; omega⟩
theorem mem_getD {l : List Nat} {i : Nat} (hi : i < l.length) : l.getD i 0 ∈ l := by simp [List.getD, List.getElem?_eq_getElem hi]
theorem uns_triple {T : Nt} {c : Nat → Nat} {c3 : Nat → Nat} (h : ∀ i, i < T.ops.length → c3 i = 3 * c i) : uns T c3 = mulU 3 (uns T c) := by
  have key : ∀ n, n ≤ T.ops.length → unsK T c3 n = mulU 3 (unsK T c n) := by
    intro n hn
    induction n with
    | zero => rfl
    | succ n ih =>
      obtain ⟨o, ho⟩ : ∃ o, T.ops[n]? = some o := ⟨_, List.getElem?_eq_getElem (by omega)⟩
      rw [unsK_succ ho, unsK_succ ho, ih (by omega), h n (by omega)]
      unfold mulU
      rw [List.map_append]
      congr 1
      unfold opU
      rw [List.map_map]
      refine List.map_congr_left fun k hk => ?_
      have hk := List.mem_range.1 hk
      have he : o.effs[k]? = some o.effs[k] := List.getElem?_eq_getElem hk
      simp only [Function.comp, unA_at he]
  exact key _ (Nat.le_refl _)
/-- A dearer operator lowers no value. -/
theorem dear_le {T : Nt} {c c' : Nat → Nat} {S : List Nat} {V V' : Nat → Nat} (h : ∀ i, i < T.ops.length → c i ≤ c' i) (hV : IsVal (uns T c) S V) (hV' : IsVal (uns T c') S V') (f : Nat) : V f ≤ V' f := by
  refine hV.mono hV' (fun u hu => ?_) f
  obtain ⟨i, o, k, e, hi, ho, he, rfl⟩ := uns_mem hu
  exact ⟨_, mem_uns hi ho he, rfl, h i hi, fun _ h => h⟩
/-- The task without an operator. -/
def lessT (T : Nt) (ov : Cell1) (k : Nat) : Nt := { T with ov := ov, ops := T.ops.take k ++ T.ops.drop (k + 1) }
theorem lessT_mem {T : Nt} {ov : Cell1} {k : Nat} {o : No} (h : o ∈ (lessT T ov k).ops) : o ∈ T.ops := by
  rcases List.mem_append.1 h with h | h
  · exact List.mem_of_mem_take h
  · exact List.mem_of_mem_drop h
theorem lessT_len {T : Nt} {ov : Cell1} {k : Nat} : (lessT T ov k).ops.length ≤ T.ops.length := by
  show (T.ops.take k ++ T.ops.drop (k + 1)).length ≤ _
  rw [List.length_append, List.length_take, List.length_drop]; omega
theorem lessT_small {T : Nt} {ov : Cell1} {k : Nat} (h : SmT T) : SmT (lessT T ov k) := by
  have hle := lessT_len (T := T) (ov := ov) (k := k)
  have hg := h.g
  have hol := h.ol
  refine ⟨⟨hg.vlen, by omega, hg.vars, hg.ilen, hg.init, hg.goal, fun o ho => hg.ops o (lessT_mem ho)⟩, ?_, h.vl, by omega, fun o ho => h.el o (lessT_mem ho), h.pr, fun o ho => h.nm o (lessT_mem ho)⟩
  have hgd := h.good
  unfold goodB at hgd ⊢
  simp only [Bool.and_eq_true, decide_eq_true_eq, List.all_eq_true] at hgd ⊢
  obtain ⟨⟨⟨⟨⟨h1, h2⟩, h3⟩, h4⟩, h5⟩, h6⟩ := hgd
  refine ⟨⟨⟨⟨⟨h1, ?_⟩, h3⟩, h4⟩, h5⟩, fun o ho => ?_⟩
  · simp only [Nt.raw, List.length_map] at h2 ⊢
    have : (lessT T ov k).ops.length ≤ 4096 := by omega
    exact this
  · obtain ⟨q, hq, rfl⟩ := List.mem_map.1 ho
    exact h6 _ (List.mem_map.2 ⟨q, lessT_mem hq, rfl⟩)
theorem less_le {T : Nt} {ov : Cell1} {k : Nat} {S : List Nat} {V V' : Nat → Nat} (hV : IsVal (uns T (cst T [])) S V) (hV' : IsVal (uns (lessT T ov k) (cst (lessT T ov k) [])) S V') (f : Nat) : V f ≤ V' f := by
  refine hV.mono hV' (fun u hu => ?_) f
  obtain ⟨i, o, j, e, hi, ho, he, rfl⟩ := uns_mem hu
  obtain ⟨i2, hi2, ho2⟩ := List.getElem_of_mem (lessT_mem (List.mem_of_getElem? ho))
  have ho2' : T.ops[i2]? = some o := by rw [List.getElem?_eq_getElem hi2, ho2]
  refine ⟨_, mem_uns (cost := cst T []) hi2 ho2' he, rfl, ?_, fun _ h => h⟩
  show cst T [] i2 ≤ cst (lessT T ov k) [] i
  unfold cst
  simp only [List.length_nil, if_true, ho, ho2']
  exact Nat.le_refl _
theorem NtR.less {T : Nt} {ov : Value} {o1 : oneC ov = true} {k : Nat} {w : World} (h : NtR w T) (hv : Vw w ov noE (T.ops.take k ++ T.ops.drop (k + 1))) : NtR w (lessT T ⟨ov, o1⟩ k) :=
  ⟨h.vars, h.init, h.goal, hv, fun o ho => h.op o (lessT_mem ho)⟩
end Go.Proofs.Ytcplpogmbacnfaa
end
section
set_option maxRecDepth 100000
set_option linter.unusedSimpArgs false
set_option linter.unusedVariables false
namespace Go.Proofs.Ytcplpogmbacnfaa
open Go Go.W Go.Tk Go.Rx Go.Maps
def dearL (cl : List Nat) (k m : Nat) : List Nat := cl.set k (cl.getD k 0 + m)
end Go.Proofs.Ytcplpogmbacnfaa
end
section
set_option maxRecDepth 100000
set_option linter.unusedSimpArgs false
set_option linter.unusedVariables false
namespace Go.Proofs.Ytcplpogmbacnfaa
open Go Go.W Go.Tk Go.Rx Go.Maps
theorem chk_ne {t : Tk} {c : Int} (h : chkC t = some c) : c ≠ 0 := by
  unfold chkC at h
  repeat' split at h
  all_goals first
    | (cases h; decide)
    | cases h
set_option maxHeartbeats 1000000 in
theorem rNew_bad {w : World} (t : Tk) (cv : Value) (c : Int) (ht : TkR w t) (hl : TkL t) (hc : chkC t = some c) :
    Calls Try.prog 27 [tkV t, cv].toArray w fun e w' => ∃ x, e = .returned x ∧ x = .tuple #[.pointer none, errV c] ∧ Kp [] w w' := by
  refine enter Try.func27 mixed low27 (Nat.le_of_ble_eq_true rfl) ?_
  simp only [L27]
  obtain ⟨tb, htb⟩ : ∃ tb, tb = w.heap.size := ⟨_, rfl⟩
  obtain ⟨w1, hw1⟩ : ∃ w1, w1 = w.alloc (tkO t) := ⟨_, rfl⟩
  have k1 : Kp [] w w1 := by rw [hw1]; exact (Kp.refl [] w).alloc _
  have hw1' : w.alloc (.cells #[t.vv.1, t.nv.1, t.gv.1, t.ov.1] 26 (0, 0)) = w1 := by rw [hw1]; rfl
  have ob1 : w1.heap[tb]? = some (tkO t) := by rw [htb, hw1]; exact alloc_new
  simp [tkV, ← htb, hw1', rd_tk ob1]
  refine cl_of (tcheck_spec t (ht.kp k1) hl) ?_
  rintro _ w2 ⟨rfl, k2⟩
  rw [hc]
  simp [chkV, errV]
  exact k1.trans k2
/-- What New returns, for any task. -/
def NwA (t : Tk) (cs : List Int) (w : World) (x : Value) (w' : World) : Prop := match nwC t cs with
  | some c => x = .tuple #[.pointer none, errV c]
  | none => ∃ b T U, T.raw = t ∧ x = .tuple #[.pointer (some ⟨b, 0, none⟩), .nilIface] ∧ Rlx b T U w'
theorem new_any {w : World} (t : Tk) (cv : Value) (cs : List Int) (ht : TkR w t) (hl : TkL t) (hc : Vw w cv iE cs) (hcl : cs.length ≤ 9223372036854775807) :
    Calls Try.prog 27 [tkV t, cv].toArray w fun e w' => ∃ x, e = .returned x ∧ NwA t cs w x w' ∧ Kp [] w w' := by
  cases hk : chkC t with
  | some c =>
    refine Calls.mono (rNew_bad t cv c ht hl hk) ?_
    rintro e w' ⟨x, rfl, rfl, k⟩
    refine ⟨_, rfl, ?_, k⟩
    unfold NwA nwC
    rw [hk]
  | none =>
    have hg := (chk_good t).1 hk
    obtain ⟨T, rfl, hT⟩ := good_nat hg
    have hnm : ∀ o ∈ T.ops, o.name.size ≤ 9223372036854775807 := fun o ho => (hl.op o.raw (List.mem_map.2 ⟨o, ho, rfl⟩)).1
    refine Calls.mono (rNew_good T cv cs hT hg (NtR.raw.1 ht) hnm hc hcl) ?_
    rintro e w' ⟨x, rfl, hx⟩
    unfold NwP at hx
    cases hn : nwC T.raw cs with
    | some c =>
      rw [hn] at hx
      obtain ⟨rfl, k⟩ := hx
      refine ⟨_, rfl, ?_, k⟩
      unfold NwA
      rw [hn]
    | none =>
      rw [hn] at hx
      obtain ⟨b, vv, gv, fv, tb, rfl, h⟩ := hx
      obtain ⟨uv, nd, fr, rs, ps, h2⟩ := h.rd
      refine ⟨_, rfl, ?_, h.kp⟩
      unfold NwA
      rw [hn]
      exact ⟨b, T, _, rfl, rfl, ⟨vv, gv, fv, uv, nd, fr, rs, ps, h2⟩⟩
end Go.Proofs.Ytcplpogmbacnfaa
end
section
set_option maxRecDepth 100000
set_option linter.unusedSimpArgs false
set_option linter.unusedVariables false
namespace Go.Proofs.Ytcplpogmbacnfaa
open Go Go.W Go.Tk Go.Rx Go.Maps
def wantZ (t : Tk) (cs : List Int) : Int := match nwC t cs with | some c => c | none => 0
def rgC (l : List Int) : Int := if l.all cOk = true then 0 else 1
theorem rgC_succ {l : List Int} {k : Nat} {x : Int} (h : l[k]? = some x) : rgC (l.take (k + 1)) = if cOk x = true then rgC (l.take k) else 1 := by
  unfold rgC
  rw [take_snoc h, List.all_append]
  simp only [List.all_cons, List.all_nil, Bool.and_true, Bool.and_eq_true]
  by_cases h1 : (l.take k).all cOk = true <;> by_cases h2 : cOk x = true <;> simp [h1, h2]
end Go.Proofs.Ytcplpogmbacnfaa
end
section
set_option maxRecDepth 100000
set_option linter.unusedSimpArgs false
set_option linter.unusedVariables false
namespace Go.Proofs.Ytcplpogmbacnfaa
open Go Go.W Go.Tk Go.Rx Go.Maps
abbrev Ed := Nat × Nat × Nat
def edE (e : Ed) : List Value := [.int .i64 (e.1 : Nat), .int .i64 (e.2.1 : Nat), .int .i64 (e.2.2 : Nat)]
theorem edE_len (e : Ed) : (edE e).length = 3 := rfl
theorem edE_one (e : Ed) : (edE e).all oneC = true := rfl
/-- The state behind an operator is a state. -/
theorem apK_st {vars : List Nat} {o : No} {s : List Nat} (hs : StN vars s) (ho : NoG vars o) : ∀ k, k ≤ o.effs.length → StN vars (apK o s k)
  | 0, _ => by simpa [apK] using hs
  | k + 1, hk => by
    obtain ⟨e, he⟩ : ∃ e, o.effs[k]? = some e := ⟨_, List.getElem?_eq_getElem (by omega)⟩
    have ih := apK_st hs ho k (by omega)
    rw [apK_succ he]
    split
    · obtain ⟨e1, e2⟩ := ho.eff e (List.mem_of_getElem? he)
      refine ⟨by rw [List.length_set]; exact ih.len, fun v hv => ?_⟩
      by_cases h : v = e.v
      · subst h
        simp only [List.getD, List.getElem?_set_self (show e.v < (apK o s k).length by rw [ih.len]; exact e1), Option.getD_some]
        exact e2
      · have := ih.rng v hv
        simpa only [List.getD, List.getElem?_set_ne (Ne.symm h)] using this
    · exact ih
theorem apS_st {vars : List Nat} {o : No} {s : List Nat} (hs : StN vars s) (ho : NoG vars o) : StN vars (apS o s) := apK_st hs ho _ (Nat.le_refl _)
theorem flat_at {α β : Type} {f : α → List β} {n : Nat} (hf : ∀ a, (f a).length = n) : ∀ (l : List α) (i x : Nat) (a : α), l[i]? = some a → x < n → (l.flatMap f)[i * n + x]? = (f a)[x]?
  | [], i, x, a, h, _ => by simp at h
  | b :: l, 0, x, a, h, hx => by
    simp at h; subst h
    rw [List.flatMap_cons, Nat.zero_mul, Nat.zero_add, List.getElem?_append_left (by rw [hf]; exact hx)]
  | b :: l, i + 1, x, a, h, hx => by
    rw [List.flatMap_cons, List.getElem?_append_right (by rw [hf, Nat.add_mul]; omega), hf]
    have : (i + 1) * n + x - n = i * n + x := by rw [Nat.add_mul]; omega
    rw [this]
    exact flat_at hf l i x a (by simpa using h) hx
/-- A state lies at its number. -/
theorem rk_at {vars s : List Nat} (hs : StN vars s) : ∀ k, k ≤ vars.length → (stsK vars k)[rkK vars s k]? = some (s.take k)
  | 0, _ => by simp [stsK, rkK]
  | k + 1, hk => by
    have ih := rk_at hs k (by omega)
    have hr := hs.rng k (by omega)
    have e : stsK vars (k + 1) = (stsK vars k).flatMap (extS (vars.getD k 0)) := rfl
    have hsk : s[k]? = some (s.getD k 0) := by
      have : k < s.length := by rw [hs.len]; omega
      simp [List.getD, List.getElem?_eq_getElem this]
    rw [e]
    show (List.flatMap _ _)[rkK vars s k * vars.getD k 0 + s.getD k 0]? = _
    rw [flat_at (fun a => extS_len _ a) _ _ _ _ ih hr]
    unfold extS
    rw [List.getElem?_map, List.getElem?_range hr, take_snoc hsk]
    rfl
theorem rk_all {vars s : List Nat} (hs : StN vars s) : (stsK vars vars.length)[rkK vars s vars.length]? = some s := by
  have := rk_at hs vars.length (Nat.le_refl _)
  rwa [List.take_of_length_le (by rw [hs.len]; exact Nat.le_refl _)] at this
theorem rk_sm {T : Nt} {s : List Nat} (hT : SmT T) (hs : StN T.vars s) (k : Nat) (hk : k ≤ T.vars.length) : rkK T.vars s k < 512 := by
  have h1 := (List.getElem?_eq_some_iff.1 (rk_at hs k hk)).1
  rw [stsK_len k hk] at h1
  have := hT.pr k
  omega
theorem sts512 {T : Nt} (hT : SmT T) : (stsK T.vars T.vars.length).length ≤ 512 := by rw [stsK_len _ (Nat.le_refl _)]; exact hT.pr _
/-- The steps out of a state, by the first operators; those out of the first states. -/
def edS (T : Nt) (i : Nat) (s : List Nat) : Nat → List Ed
  | 0 => []
  | q + 1 => edS T i s q ++ match T.ops[q]? with | some o => if hdB s o.pre then [(i, q, rkK T.vars (apS o s) T.vars.length)] else [] | none => []
def edK (T : Nt) : Nat → List Ed
  | 0 => []
  | i + 1 => edK T i ++ match (stsK T.vars T.vars.length)[i]? with | some s => edS T i s T.ops.length | none => []
theorem edS_len (T : Nt) (i : Nat) (s : List Nat) : ∀ q, (edS T i s q).length ≤ q
  | 0 => by simp [edS]
  | q + 1 => by
    have := edS_len T i s q
    unfold edS
    rw [List.length_append]
    split
    · split <;> simp <;> omega
    · simp; omega
theorem edK_len (T : Nt) : ∀ i, (edK T i).length ≤ i * T.ops.length
  | 0 => by simp [edK]
  | i + 1 => by
    have := edK_len T i
    unfold edK
    rw [List.length_append, Nat.add_mul, Nat.one_mul]
    split
    · rename_i s _
      have := edS_len T i s T.ops.length
      omega
    · simp; omega
theorem edS_mem {T : Nt} {i : Nat} {s : List Nat} {e : Ed} : ∀ {q}, e ∈ edS T i s q → e.1 = i ∧ ∃ o, T.ops[e.2.1]? = some o ∧ hdB s o.pre = true ∧ e.2.2 = rkK T.vars (apS o s) T.vars.length
  | 0, h => by simp [edS] at h
  | q + 1, h => by
    unfold edS at h
    rcases List.mem_append.1 h with h | h
    · exact edS_mem h
    · split at h
      · rename_i o ho
        split at h
        · rename_i hp
          simp at h; subst h
          exact ⟨rfl, o, ho, hp, rfl⟩
        · simp at h
      · simp at h
theorem edK_mem {T : Nt} {e : Ed} : ∀ {n}, e ∈ edK T n → ∃ s o, (stsK T.vars T.vars.length)[e.1]? = some s ∧ T.ops[e.2.1]? = some o ∧ hdB s o.pre = true ∧ e.2.2 = rkK T.vars (apS o s) T.vars.length
  | 0, h => by simp [edK] at h
  | n + 1, h => by
    unfold edK at h
    rcases List.mem_append.1 h with h | h
    · exact edK_mem h
    · split at h
      · rename_i s hs
        obtain ⟨h1, o, h2, h3, h4⟩ := edS_mem h
        exact ⟨s, o, by rw [h1]; exact hs, h2, h3, h4⟩
      · simp at h
def edA (T : Nt) : List Ed := edK T (stsK T.vars T.vars.length).length
theorem ed_append {w w1 : World} {F : List Nat} {B : Asr} {ov : Value} {l : List Ed} {x : Ed} {KV : Kont (Value × World)} (hB : Lcl B) (h : At w F (Star (OwnA ov 95 3 edE l) B) w1) (hl : l.length ≤ 1000000)
    (H : ∀ v' w2, At w F (Star (OwnA v' 95 3 edE (l ++ [x])) B) w2 → KV.run (v', w2)) :
    @efH Try.prog (Builtin.append_ #[92, 92] 92 [ov, .slice (some ⟨w1.heap.size, 0, none⟩) 1 1].toArray) (w1.alloc (.cells #[.int .i64 (x.1 : Nat), .int .i64 (x.2.1 : Nat), .int .i64 (x.2.2 : Nat)] 95)) KV := by
  have h4 := h.kp0 (Lcl.own.star hB) ((Kp.refl [] w1).alloc (.cells #[.int .i64 (x.1 : Nat), .int .i64 (x.2.1 : Nat), .int .i64 (x.2.2 : Nat)] 95))
  refine At.append (xs := [x]) hB h4 edE_len edE_one sl_92 rfl (fun j u hj => ?_) (by omega) (by unfold maxLen; omega) fun v' w5 h5 => H v' w5 h5
  rw [add_none, cell_blk alloc_new]
  simpa [edE] using hj
set_option maxHeartbeats 1000000 in
theorem edges_spec {w : World} (T : Nt) (hr : NtR w T) (hT : SmT T) :
    Calls Try.prog 48 [ntV T].toArray w fun e w' => ∃ u, e = .returned u ∧ At w [] (Star (OwnA u 95 3 edE (edA T)) Emp) w' := by
  refine enter Try.func48 mixed low48 (Nat.le_of_ble_eq_true rfl) ?_
  simp only [L48]
  have hg := hT.g
  have hol := hT.ol
  have hvl := hT.vl
  obtain ⟨b, hb⟩ : ∃ b, b = w.heap.size := ⟨_, rfl⟩
  have h1 : At w [] (Star (ObjA b (ntO T)) Emp) (w.alloc (ntO T)) := by rw [hb]; exact (At.start rfl).alloc _ .emp
  obtain ⟨w1, hw1⟩ : ∃ w1, w1 = w.alloc (ntO T) := ⟨_, rfl⟩
  rw [← hw1] at h1
  have hw1' : w.alloc (.cells #[T.vv.1, T.nv.1, T.gv.1, T.ov.1] 26 (0, 0)) = w1 := by rw [hw1]; rfl
  have hob := h1.obj
  unfold ntO at hob
  have hr1 := hr.kp h1.kp
  simp [ntV, ← hb, hw1', cell_blk hob]
  refine cl_of (states_spec T.vv.1 T.vars hr1.vars (by omega) (fun n hn => by have := hg.vars n hn; omega) (SmT.sts hT) (fun k hk s hs => by have := (sts_ok k hk s hs).1; omega)) ?_
  rintro all w2 h2
  have hls := LLA.vw h2
  have h3 := At.nil (E := 95) (sz := 3) (enc := edE) .emp (At.start rfl : At w2 [] Emp w2)
  have k2 := h1.kp.trans0 h2.kp
  have ob2 := h2.kp.blk hob (by simp)
  have hr2 := hr.kp k2
  obtain ⟨ps, hpl, hpv, hpr⟩ := hls.spread
  have h512 := sts512 hT
  simp [hpv.len]
  refine range_loop (n := ps.length) (by omega) (fun i ρ w' => ρ 1 = .pointer (some ⟨b, 0, none⟩) ∧ ρ 11 = all ∧ At w2 [] (Star (OwnA (ρ 3) 95 3 edE (edK T i)) Emp) w') (by simp) (by simp)
    ⟨by simp, by simp, by simpa [edK] using h3⟩ (by decide) (fun _ _ _ _ h => by simpa using h) (fun _ _ _ _ h => by simpa using h) ?_ ?_
  rotate_left
  · rintro ρ w4 ⟨g1, g11, h4⟩
    rw [hpl] at h4
    simp
    obtain ⟨⟨F, hF, hs⟩, k⟩ := h4
    refine ⟨⟨F, hF, fun x hx => ?_⟩, k2.trans0 k⟩
    rcases hs x hx with h | h
    · cases h
    · have := k2.size; exact .inr (by omega)
  rintro i ρ w4 hi hci hli ⟨g1, g11, h4⟩
  obtain ⟨p, hp⟩ : ∃ p, ps[i]? = some p := ⟨_, List.getElem?_eq_getElem hi⟩
  obtain ⟨s, hsk, hsv⟩ := hpr i p hp
  have hst := sts_st (List.mem_of_getElem? hsk)
  have hpv4 := hpv.kp0 h4.kp
  have ep : w4.cell? (all.adr.add i) = some p.1.1 := by simpa using hpv4.at_ sv1_len hp (o := 0) (u := p.1.1) rfl
  have hki : (i : Int) < ps.length := by omega
  have ob4 := h4.kp.blk ob2 (by simp)
  simp (disch := omega) [g1, g11, hci, hli, hpv4.idx, ep, cell_blk ob4, (hr2.kp h4.kp).ops.len]
  refine range_loop (n := T.ops.length) (by omega) (fun q ρ w' => ρ 1 = .pointer (some ⟨b, 0, none⟩) ∧ ρ 11 = all ∧ ρ 12 = .int .i64 (ps.length : Nat) ∧ ρ 13 = .int .i64 (i : Nat) ∧ ρ 4 = .int .i64 (i : Nat) ∧ ρ 5 = p.1.1 ∧ At w2 [] (Star (OwnA (ρ 3) 95 3 edE (edK T i ++ edS T i s q)) Emp) w') (by simp) (by simp)
    ⟨by simp [g1], by simp [g11], by simp [hli], by simp [hci], by simp, by simp, by simpa [edS] using h4⟩ (by decide) (fun _ _ _ _ h => by simpa using h) (fun _ _ _ _ h => by simpa using h) ?_ ?_
  rotate_left
  · clear g1 g11 hci hli h4
    rintro ρ w5 ⟨g1, g11, g12, g13, g4, g5, h5⟩
    have e : edK T (i + 1) = edK T i ++ edS T i s T.ops.length := by
      show edK T i ++ _ = _
      rw [hsk]
    simp [g1, g11, g12, g13]
    rw [e]
    exact h5
  clear g1 g11 hci hli h4 hpv4 ep ob4
  rintro q ρ w5 hq hcq hlq ⟨g1, g11, g12, g13, g4, g5, h5⟩
  obtain ⟨o, ho⟩ : ∃ o, T.ops[q]? = some o := ⟨_, List.getElem?_eq_getElem hq⟩
  have hog := hg.ops o (List.mem_of_getElem? ho)
  have ob5 := h5.kp.blk ob2 (by simp)
  have rt : cellsAt w5 ⟨b, 0, none⟩ 0 4 = some [T.vv.1, T.nv.1, T.gv.1, T.ov.1] := by simp [cellsAt, Addr.add, cell_blk ob5]
  have hl1 := edK_len T i
  have hl2 := edS_len T i s q
  have hl3 : i * T.ops.length ≤ 512 * 20 := Nat.mul_le_mul (by omega) hol
  simp [g1, g5, hcq, rt]
  refine cl_of (apply_spec T p.1.1 s q o (hr2.kp h5.kp) hg ho (hsv.kp0 h5.kp) hst) ?_
  rintro x w6 hx
  unfold apV at hx
  by_cases hh : hdB s o.pre = true
  · rw [if_pos hh] at hx
    obtain ⟨u, rfl, n6⟩ := hx
    have h6 := h5.kp0 (Lcl.own.star .emp) n6.kp
    have ob6 := h6.kp.blk ob2 (by simp)
    have hst2 := apS_st hst hog
    have hlen2 := hst2.len
    simp [g1, g4, cell_blk ob6]
    refine cl_of (rank_spec T.vv.1 u T.vars (apS o s) (hr2.kp h6.kp).vars n6.own.vw hlen2 (by omega) (fun k hk => by have := rk_sm hT hst2 k (by omega); omega)) ?_
    rintro _ w7 ⟨rfl, k7⟩
    rw [hlen2]
    have h7 := h6.kp0 (Lcl.own.star .emp) k7
    obtain ⟨rk, hrk⟩ : ∃ rk, rk = rkK T.vars (apS o s) T.vars.length := ⟨_, rfl⟩
    rw [← hrk]
    have e : edS T i s (q + 1) = edS T i s q ++ [(i, q, rk)] := by
      show edS T i s q ++ _ = _
      rw [ho]
      simp only [if_pos hh, hrk]
    simp [g4, hcq, rowOf]
    refine ed_append (x := (i, q, rk)) .emp h7 (by rw [List.length_append]; omega) fun v' w8 h8 => ?_
    simp [g1, g11, g12, g13, g4, g5, hcq, hlq]
    rw [e, ← List.append_assoc]
    exact h8
  · rw [if_neg hh] at hx
    obtain ⟨rfl, k6⟩ := hx
    have e : edS T i s (q + 1) = edS T i s q := by
      show edS T i s q ++ _ = _
      rw [ho]
      simp only [if_neg hh, List.append_nil]
    simp [g1, g11, g12, g13, g4, g5, hcq, hlq]
    rw [e]
    exact h5.kp0 (Lcl.own.star .emp) k6
end Go.Proofs.Ytcplpogmbacnfaa
end
