/-
  A part of the proofs of this seat's statements (RxYA); no conditions beyond those each theorem names.
-/
import Derived.Test.YtjpbkljnllkneaaRxXL
set_option maxRecDepth 100000
set_option linter.unusedSimpArgs false
set_option linter.unusedVariables false
namespace Go.Rx
open Go Go.W Go.Tk
def prL : List Nat → Nat
  | [] => 1
  | x :: l => x * prL l
theorem prL_snoc : ∀ (l : List Nat) (x : Nat), prL (l ++ [x]) = prL l * x
  | [], x => by simp [prL]
  | y :: l, x => by simp only [List.cons_append, prL, prL_snoc l x, Nat.mul_assoc]
theorem many_le : ∀ (vars : List Nat) (n : Nat), (∀ v ∈ vars, 1 ≤ v) → manyF 512 n (vars.map iN) ≤ 512 → ∀ k, n * prL (vars.take k) ≤ 512
  | [], n, _, h, k => by simpa [manyF, prL] using h
  | x :: l, n, hx, h, k => by
    have h1 := hx x (by simp)
    simp only [List.map_cons, manyF] at h
    split at h
    · omega
    · rename_i hle
      have e : (iN x).toNat = x := by simp [iN]
      rw [e] at hle h
      have hle : n * min x (512 + 1) ≤ 512 := by omega
      cases k with
      | zero =>
        have := Nat.mul_le_mul_left n (show 1 ≤ min x (512 + 1) by omega)
        simp [prL]; omega
      | succ k =>
        rcases Nat.eq_zero_or_pos n with rfl | hn
        · simp
        have hm : min x (512 + 1) = x := by
          rcases Nat.le_total x 513 with h2 | h2
          · omega
          · have : min x (512 + 1) = 513 := by omega
            rw [this] at hle
            omega
        rw [hm] at h
        have := many_le l (n * x) (fun v hv => hx v (by simp [hv])) h k
        simpa [List.take_succ_cons, prL, Nat.mul_assoc] using this
theorem unsK_len8 {t : Nt} {cost : Nat → Nat} (h : ∀ o ∈ t.ops, o.effs.length ≤ 8) : ∀ n, (unsK t cost n).length ≤ 8 * n
  | 0 => by simp [unsK]
  | n + 1 => by
    have := unsK_len8 (cost := cost) h n
    cases ho : t.ops[n]? with
    | none =>
      unfold unsK at *
      rw [List.range_succ, List.flatMap_append]
      simp [ho] at this ⊢
      omega
    | some o =>
      rw [unsK_succ ho, List.length_append, opU_len]
      have := h o (List.mem_of_getElem? ho)
      omega
/-- A small task. -/
structure SmT (T : Nt) : Prop where
  g : NtG T
  good : goodB T.raw = true
  vl : T.vars.length ≤ 12
  ol : T.ops.length ≤ 20
  el : ∀ o ∈ T.ops, o.effs.length ≤ 8
  pr : ∀ k, prL (T.vars.take k) ≤ 512
  nm : ∀ o ∈ T.ops, o.name.size ≤ 9223372036854775807
theorem small_nat {t : Tk} (hl : TkL t) (h : smallB t = true) : ∃ T : Nt, T.raw = t ∧ SmT T := by
  unfold smallB at h
  simp only [Bool.and_eq_true, decide_eq_true_eq] at h
  obtain ⟨⟨⟨⟨h1, h2⟩, h3⟩, h4⟩, h5⟩ := h
  obtain ⟨T, rfl, hg⟩ := good_nat h4
  rw [List.all_eq_true] at h3
  refine ⟨T, rfl, hg, h4, by simpa [Nt.raw] using h1, by simpa [Nt.raw] using h2, fun o ho => ?_, fun k => ?_, fun o ho => ?_⟩
  · have := h3 o.raw (List.mem_map.2 ⟨o, ho, rfl⟩)
    simpa [No.raw] using this
  · have := many_le T.vars 1 (fun v hv => (hg.vars v hv).1) h5 k
    simpa using this
  · exact (hl.op o.raw (List.mem_map.2 ⟨o, ho, rfl⟩)).1
end Go.Rx
namespace Go.Proofs.Ytjpbkljnllkneaa
open Go Go.W Go.Tk Go.Rx Go.Maps
theorem stsK_len {vars : List Nat} : ∀ k, k ≤ vars.length → (stsK vars k).length = prL (vars.take k)
  | 0, _ => by simp [stsK, prL]
  | k + 1, hk => by
    obtain ⟨n, hn⟩ : ∃ n, vars[k]? = some n := ⟨_, List.getElem?_eq_getElem (by omega)⟩
    have key : ∀ (l : List (List Nat)), (l.flatMap (extS (vars.getD k 0))).length = l.length * vars.getD k 0 := by
      intro l
      induction l with
      | nil => simp
      | cons a l ih => rw [List.flatMap_cons, List.length_append, ih, extS_len, List.length_cons, Nat.add_mul]; omega
    have e : stsK vars (k + 1) = (stsK vars k).flatMap (extS (vars.getD k 0)) := rfl
    rw [take_snoc hn, prL_snoc, ← stsK_len k (by omega), e, key]
    simp [List.getD, hn]
theorem SmT.sts {T : Nt} (h : SmT T) : ∀ k, k ≤ T.vars.length → (stsK T.vars k).length ≤ 10000 := fun k hk => by
  rw [stsK_len k hk]
  have := h.pr k
  omega
theorem SmT.sm {T : Nt} (h : SmT T) {c : Nat → Nat} (hc : ∀ i, i < T.ops.length → c i ≤ 1048576) : Sm T.vars (uns T c) := {
  un := {
    nod := fun u hu => by
      obtain ⟨i, o, k, e, _, _, _, rfl⟩ := uns_mem hu
      exact dedup_nodup _
    rng := fun u hu n hn => by
      obtain ⟨i, o, k, e, hi, ho, he, rfl⟩ := uns_mem hu
      have hgo := h.g.ops o (List.mem_of_getElem? ho)
      obtain ⟨f, hf, rfl⟩ := List.mem_map.1 (dedup_mem.1 hn)
      rcases List.mem_append.1 hf with h1 | h1
      · obtain ⟨a, b⟩ := hgo.pre.rng f h1; exact numF_lt a b
      · obtain ⟨a, b⟩ := (hgo.cnd e (List.mem_of_getElem? he)).rng f h1; exact numF_lt a b
    made := fun u hu => by
      obtain ⟨i, o, k, e, hi, ho, he, rfl⟩ := uns_mem hu
      obtain ⟨a, b⟩ := (h.g.ops o (List.mem_of_getElem? ho)).eff e (List.mem_of_getElem? he)
      exact numF_lt a b
    cost := fun u hu => by
      obtain ⟨i, o, k, e, hi, ho, he, rfl⟩ := uns_mem hu
      exact hc i hi
    op := fun u hu => by
      obtain ⟨i, o, k, e, hi, ho, he, rfl⟩ := uns_mem hu
      have := h.ol
      show i ≤ 4096
      omega }
  vl := h.vl
  sm := by
    have := sum_le (N := 64) fun n hn => (h.g.vars n hn).2
    have := h.vl
    omega
  ul := by
    have := unsK_len8 (cost := c) h.el T.ops.length
    have := h.ol
    show (unsK T c T.ops.length).length ≤ 160
    omega }
/-- Right costs. -/
structure CsOk (T : Nt) (cs : List Int) : Prop where
  len : cs.length = 0 ∨ cs.length = T.ops.length
  rng : ∀ c ∈ cs, 0 ≤ c ∧ c ≤ 1048576
theorem CsOk.cst {T : Nt} {cs : List Int} (h : CsOk T cs) (hg : NtG T) (i : Nat) (hi : i < T.ops.length) : cst T cs i ≤ 1048576 := by
  unfold Go.Proofs.Ytjpbkljnllkneaa.cst
  split
  · obtain ⟨o, ho⟩ : ∃ o, T.ops[i]? = some o := ⟨_, List.getElem?_eq_getElem hi⟩
    rw [ho]
    exact (hg.ops o (List.mem_of_getElem? ho)).cost
  · rename_i hn
    rcases h.len with h1 | h1
    · exact absurd h1 hn
    have hi2 : i < cs.length := by omega
    have := h.rng cs[i] (List.getElem_mem hi2)
    simp only [List.getD, List.getElem?_eq_getElem hi2, Option.getD_some]
    omega
theorem CsOk.nil {T : Nt} : CsOk T [] := ⟨.inl rfl, by simp⟩
theorem PrI.ok {T : Nt} {gl rl : List Nat} (h : PrI T gl rl) : CsOk T (gl.map iN) := ⟨by simpa using h.glen, fun c hc => by
  obtain ⟨x, hx, rfl⟩ := List.mem_map.1 hc
  have := h.gb x hx
  unfold iN; omega⟩
/-- A relaxation that can be read. -/
def Rlx (b : Nat) (T : Nt) (U : List Un) (w : World) : Prop := ∃ vv gv fv uv nd fr rs ps, RlR b T.vars T.goal U vv gv fv uv nd fr rs ps w
theorem Rlx.kp {b : Nat} {T : Nt} {U : List Un} {w w' : World} (h : Rlx b T U w) (k : Kp [] w w') : Rlx b T U w' := by
  obtain ⟨vv, gv, fv, uv, nd, fr, rs, ps, h⟩ := h
  exact ⟨vv, gv, fv, uv, nd, fr, rs, ps, h.kp k⟩
theorem new_ok {w : World} (T : Nt) (cv : Value) (cs : List Int) (hs : SmT T) (hr : NtR w T) (hc : Vw w cv iE cs) (hok : CsOk T cs) :
    Calls Try.prog 14 [ntV T, cv].toArray w fun e w' => ∃ x, e = .returned x ∧ ∃ b, x = .tuple #[.pointer (some ⟨b, 0, none⟩), .nilIface] ∧ Rlx b T (uns T (cst T cs)) w' ∧ Kp [] w w' := by
  have hol := hs.ol
  refine Calls.mono (rNew_good T cv cs hs.g hs.good hr hs.nm hc (by rcases hok.len with h | h <;> omega)) ?_
  rintro e w' ⟨x, rfl, hx⟩
  refine ⟨x, rfl, ?_⟩
  have hn : nwC T.raw cs = none := by
    unfold nwC
    rw [(chk_good T.raw).2 hs.good]
    have h1 : ¬ (0 < cs.length ∧ cs.length ≠ T.raw.ops.length) := by
      have : T.raw.ops.length = T.ops.length := by simp [Nt.raw]
      rcases hok.len with h | h <;> omega
    have h2 : cs.all cOk = true := by
      rw [List.all_eq_true]
      intro c hc
      have := hok.rng c hc
      simp [cOk]; omega
    rw [if_neg h1, if_neg (by rw [h2]; simp)]
  unfold NwP at hx
  rw [hn] at hx
  obtain ⟨b, vv, gv, fv, tb, rfl, h⟩ := hx
  obtain ⟨uv, nd, fr, rs, ps, h2⟩ := h.rd
  exact ⟨b, rfl, ⟨vv, gv, fv, uv, nd, fr, rs, ps, h2⟩, h.kp⟩
/-! ### The example -/
theorem chain_ops {T : Nt} (hl : T.ops.length = 3) (h : ∀ i o, T.ops[i]? = some o → IsC i o) : ∃ a b c, T.ops = [a, b, c] ∧ IsC 0 a ∧ IsC 1 b ∧ IsC 2 c := by
  obtain ⟨a, b, c, e⟩ : ∃ a b c, T.ops = [a, b, c] := by
    match ho : T.ops, hl with
    | [a, b, c], _ => exact ⟨a, b, c, rfl⟩
  exact ⟨a, b, c, e, h 0 a (by rw [e]; rfl), h 1 b (by rw [e]; rfl), h 2 c (by rw [e]; rfl)⟩
theorem IsC.opB {i : Nat} {o : No} (h : IsC i o) (hi : i < 3) : opB [4] o.raw = true := by
  obtain ⟨h1, h2, h3, e, h4, h5, h6, h7, h8⟩ := h
  have e1 : o.raw = ⟨ByteArray.empty, 2, o.pv, [(0, (i : Int))], o.ev, [⟨e.wv, [], 0, ((i + 1 : Nat) : Int)⟩]⟩ := by
    unfold No.raw Nf.raw
    rw [h1, h2, h3, h4]
    simp [h5, h6, h7, faN]
  rw [e1]
  have : i = 0 ∨ i = 1 ∨ i = 2 := by omega
  rcases this with rfl | rfl | rfl <;> rfl
theorem chain_small {T : Nt} (hv : T.vars = [4]) (hn : T.init = [0]) (hgl : T.goal = [(0, 3)]) (hl : T.ops.length = 3) (h : ∀ i o, T.ops[i]? = some o → IsC i o) : SmT T := by
  obtain ⟨a, b, c, e, ha, hb, hc⟩ := chain_ops hl h
  have hgood : goodB T.raw = true := by
    have e1 : T.raw = ⟨T.vv, T.nv, T.gv, T.ov, [4], [0], [(0, 3)], [a.raw, b.raw, c.raw]⟩ := by
      unfold Nt.raw; rw [hv, hn, hgl, e]; rfl
    rw [e1]
    unfold goodB
    simp only [List.all_cons, List.all_nil, ha.opB (by omega), hb.opB (by omega), hc.opB (by omega), Bool.and_true]
    rfl
  obtain ⟨T', eT, hg⟩ := good_nat hgood
  have hel : ∀ o ∈ T.ops, o.effs.length ≤ 8 := fun o ho => by
    obtain ⟨i, hi, rfl⟩ := List.getElem_of_mem ho
    obtain ⟨_, _, _, e2, q, _⟩ := h i _ (List.getElem?_eq_getElem hi)
    rw [q]; simp
  have hnm : ∀ o ∈ T.ops, o.name = ByteArray.empty := fun o ho => by
    obtain ⟨i, hi, rfl⟩ := List.getElem_of_mem ho
    exact (h i _ (List.getElem?_eq_getElem hi)).1
  refine ⟨⟨by rw [hv]; simp, by omega, by rw [hv]; simp, by rw [hv, hn]; rfl, by rw [hv, hn]; simp, by rw [hv, hgl]; exact ⟨by simp, by simp⟩, fun o ho => ?_⟩, hgood, by rw [hv]; simp, by omega, hel, fun k => ?_, fun o ho => by rw [hnm o ho]; decide⟩
  · obtain ⟨i, hi, rfl⟩ := List.getElem_of_mem ho
    obtain ⟨h1, h2, h3, e2, h4, h5, h6, h7, h8⟩ := h i _ (List.getElem?_eq_getElem hi)
    rw [hv]
    refine ⟨by omega, by rw [h4]; simp, by rw [h3]; exact ⟨by simp; omega, by simp⟩, by rw [h4]; simp [h5]; exact ⟨by simp, by simp⟩, by rw [h4]; simp [h6, h7]; omega⟩
  · rw [hv]
    cases k with
    | zero => simp [prL]
    | succ k => simp [prL]
end Go.Proofs.Ytjpbkljnllkneaa
