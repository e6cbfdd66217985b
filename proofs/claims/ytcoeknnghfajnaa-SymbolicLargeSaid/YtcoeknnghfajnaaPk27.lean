/-
  A part of the proof of this claim's statement (SyBA, RxXK, RxXL, RxYA, RxYB, RxYG, SyXA, SyAR, SyBB, SyBC, BdWH): plain theorems; no conditions beyond those each names.
-/
import Derived.Test.YtcoeknnghfajnaaPk26
import Derived.Test.YtcoeknnghfajnaaPk15
import Derived.Test.YtcoeknnghfajnaaPk14
import Derived.Test.YtcoeknnghfajnaaPk19
section
set_option maxRecDepth 100000
set_option linter.unusedSimpArgs false
set_option linter.unusedVariables false
namespace Go.Proofs.Ytcoeknnghfajnaa
open Go Go.W Go.Tk Go.Rx Go.Bd Go.Sy Go.Maps
theorem pl_bit {s w p nx : Nat} (hp : p < w) (hn : nx < 2) (f : Bool → Bool) : PairL s w fun a => f (a (2 * (s + p) + nx)) := by
  rcases (show nx = 0 ∨ nx = 1 by omega) with rfl | rfl
  · exact PairL.one hp fun x _ => f x
  · exact PairL.one hp fun _ y => f y
theorem pl_vl (vars : List Nat) (v x : Nat) {nx : Nat} (hn : nx < 2) (j : Nat) : PairL (bP vars v) (wd (vars.getD v 0)) (vlB vars v x nx j) :=
  PairL.all (fun i a => decide (a (2 * (bP vars v + (j + i)) + nx) = x.testBit (wd (vars.getD v 0) - 1 - (j + i)))) _ fun i hi => by
    have := List.mem_range.1 hi
    exact pl_bit (by omega) hn fun y => decide (y = x.testBit (wd (vars.getD v 0) - 1 - (j + i)))
theorem pl_rv (vars : List Nat) (v x : Nat) {nx : Nat} (hn : nx < 2) : PairL (bP vars v) (wd (vars.getD v 0)) fun a => decide (rv vars a nx v = x) := by
  by_cases hx : x < 2 ^ wd (vars.getD v 0)
  · exact (pl_vl vars v x hn 0).eq fun a => (vlB_all hx).symm
  · exact (PairL.const _ _ false).eq fun a => decide_eq_false fun e => hx (by rw [← e]; exact rv_lt _ _ _ _)
theorem pl_sa (vars : List Nat) (v j : Nat) : PairL (bP vars v) (wd (vars.getD v 0)) (saB vars v j) :=
  PairL.all (fun i a => decide (a (2 * (bP vars v + (j + i))) = a (2 * (bP vars v + (j + i)) + 1))) _ fun i hi => by
    have := List.mem_range.1 hi
    exact PairL.one (by omega) fun x y => decide (x = y)
theorem pl_eq (vars : List Nat) (v : Nat) : PairL (bP vars v) (wd (vars.getD v 0)) fun a => decide (rv vars a 0 v = rv vars a 1 v) := (pl_sa vars v 0).eq fun a => saB_all.symm
theorem bP_wd {vars : List Nat} {v : Nat} (hv : v < vars.length) : bP vars v + wd (vars.getD v 0) ≤ nBits vars := by
  have hn : vars[v]? = some (vars.getD v 0) := by simp [List.getD, List.getElem?_eq_getElem hv]
  have h2 := bP_succ hn
  have h3 := bP_mono (vars := vars) (show v + 1 ≤ vars.length by omega)
  rw [bP_all] at h3
  omega
theorem pf_fc {vars : List Nat} {l : List Go.Tk.Fc} (hr : ∀ f ∈ l, f.1 < vars.length) (j : Nat) : PairF (nBits vars) (fcB vars l j) :=
  PairF.all (fun (f : Go.Tk.Fc) a => decide (rv vars a 0 f.1 = f.2)) _ fun f hf => (pl_rv vars f.1 f.2 (by omega)).pair (bP_wd (hr f (List.mem_of_mem_drop hf)))
theorem fc_hd {vars : List Nat} {l : List Go.Tk.Fc} (hr : ∀ f ∈ l, f.1 < vars.length) (a : Nat → Bool) : hdB (rs vars a 0) l = fcB vars l 0 a := by
  unfold hdB fcB
  rw [List.drop_zero]
  exact allc_congr fun f hf => by rw [rs_at (hr f hf)]
/-- No conditions. -/
def NoC (o : No) : Prop := ∀ x ∈ o.effs, x.cnd = []
theorem lastE_nc {o : No} (ho : NoC o) (s s' : List Nat) (v : Nat) : ∀ d i, lastE o s v d i = lastE o s' v d i
  | 0, _ => rfl
  | d + 1, i => by
    rw [lastE_succ, lastE_succ, lastE_nc ho s s' v d (i + 1)]
    cases hx : o.effs[i]? with
    | none => rfl
    | some e =>
      have := ho e (List.mem_of_getElem? hx)
      simp only [this, hdB, List.all_nil]
theorem pl_ch {vars : List Nat} {o : No} (ho : NoC o) (v : Nat) (hv : v < vars.length) : PairL (bP vars v) (wd (vars.getD v 0)) fun a => decide (rv vars a 1 v = chgV o (rs vars a 0) v) := by
  cases h : lastE o [] v o.effs.length 0 with
  | none =>
    refine (pl_eq vars v).eq fun a => ?_
    show decide (rv vars a 1 v = (lastE o (rs vars a 0) v o.effs.length 0).getD _) = _
    rw [lastE_nc ho _ [], h, Option.getD_none, rs_at hv, Bool.eq_iff_iff, decide_eq_true_iff, decide_eq_true_iff]
    exact eq_comm
  | some z =>
    refine (pl_rv vars v z (nx := 1) (by omega)).eq fun a => ?_
    show decide (rv vars a 1 v = (lastE o (rs vars a 0) v o.effs.length 0).getD _) = _
    rw [lastE_nc ho _ [], h, Option.getD_some]
theorem pl_chs {vars : List Nat} {o : No} (ho : NoC o) {v : Nat} (hv : v < vars.length) {G : BFn} (h : ChS vars o v G) : PairL (bP vars v) (wd (vars.getD v 0)) G := by
  have hle : ∀ n, ∃ c, ∀ a, leB vars o v n a = c := fun n => ⟨(lastE o [] v (o.effs.length - n) n).isNone, fun a => by unfold leB lsE; rw [lastE_nc ho _ []]⟩
  rcases h with ⟨j, hj, h⟩ | rfl | rfl | ⟨j, hj, x, hx, hxv, h⟩
  · rcases h with rfl | rfl | rfl | rfl
    · exact PairL.one hj fun x y => x && y
    · exact PairL.one hj fun x y => !x && !y
    · exact PairL.one hj fun x y => (x && y) || (!x && !y)
    · exact pl_sa vars v j
  · obtain ⟨c, hc⟩ := hle 0
    exact ((PairL.const _ _ c).and (pl_eq vars v)).eq fun a => by rw [hc]
  · exact pl_ch ho v hv
  · have hcn := ho x (List.mem_of_getElem? hx)
    obtain ⟨c, hc⟩ := hle (j + 1)
    have hh : ∀ s, hdB s x.cnd = true := fun s => by rw [hcn]; rfl
    rcases h with h | ⟨i, hi, rfl⟩ | rfl | rfl | rfl | rfl | rfl
    · rw [hcn] at h
      rcases h with ⟨i, hi, _⟩ | ⟨i, hi, _⟩ <;> exact absurd hi (Nat.not_lt_zero _)
    · exact pl_vl vars v x.x (by omega) i
    · exact (PairL.const _ _ c).eq fun a => by rw [hc, hh, Bool.and_true]
    · exact ((PairL.const _ _ c).and (pl_rv vars v x.x (nx := 1) (by omega))).eq fun a => by rw [hc, hh, Bool.and_true]
    · cases hl : lastE o [] v (o.effs.length - j) j with
      | none => exact (PairL.const _ _ false).eq fun a => by unfold ouB lsE; rw [lastE_nc ho _ [], hl]
      | some z => exact (pl_rv vars v z (nx := 1) (by omega)).eq fun a => by unfold ouB lsE; rw [lastE_nc ho _ [], hl]
    · exact (PairL.const _ _ false).eq fun a => by rw [hh]; rfl
    · obtain ⟨c, hc⟩ := hle j
      exact (PairL.const _ _ c).eq fun a => by rw [hc]
theorem pf_rl {T : Nt} {o : No} (ho : NoC o) (j : Nat) : PairF (nBits T.vars) (rlB T o j) :=
  PairF.all (fun i a => decide (rv T.vars a 1 (j + i) = chgV o (rs T.vars a 0) (j + i))) _ fun i hi => by
    have := List.mem_range.1 hi
    exact (pl_ch ho (j + i) (by omega)).pair (bP_wd (by omega))
theorem pf_rel {T : Nt} {o : No} (ho : NoC o) (hr : ∀ f ∈ o.pre, f.1 < T.vars.length) : PairF (nBits T.vars) fun a => hdB (rs T.vars a 0) o.pre && rlB T o 0 a :=
  ((pf_fc hr 0).and (pf_rl ho 0)).eq fun a => by rw [fc_hd hr]
theorem finVl (vars : List Nat) (v x nx : Nat) : FinW (VlS vars v x nx) 6 := ((FinW.each (fun j G => G = vlB vars v x nx j) _ fun j _ => FinW.one _).mono (fun _ h => h) (by have := wd_le (vars.getD v 0); omega))
theorem finFac (vars : List Nat) (l : List Go.Tk.Fc) : FinW (FacS vars l) (l.length * 7) := ((FinW.each (fun i G => VlS vars (l.getD i (0, 0)).1 (l.getD i (0, 0)).2 0 G) _ fun i _ => finVl _ _ _ _).or (FinW.each (fun j G => G = fcB vars l j) _ fun j _ => FinW.one _)).mono (fun _ h => h) (by omega)
theorem finSa (vars : List Nat) (v : Nat) : FinW (SaS vars v) 24 := (FinW.each (fun j G => G = (fun a => a (2 * (bP vars v + j)) && a (2 * (bP vars v + j) + 1)) ∨ G = (fun a => !a (2 * (bP vars v + j)) && !a (2 * (bP vars v + j) + 1)) ∨
  G = (fun a => (a (2 * (bP vars v + j)) && a (2 * (bP vars v + j) + 1)) || (!a (2 * (bP vars v + j)) && !a (2 * (bP vars v + j) + 1))) ∨ G = saB vars v j) _ fun j _ => (FinW.one _).or ((FinW.one _).or ((FinW.one _).or (FinW.one _)))).mono (fun _ h => h) (by have := wd_le (vars.getD v 0); omega)
theorem finEf (vars : List Nat) (o : No) (v j : Nat) (x : Nf) (hx : x.cnd = []) : FinW (EfS vars o v j x) 11 :=
  ((finFac vars x.cnd).or ((finVl vars v x.x 1).or ((FinW.one _).or ((FinW.one _).or ((FinW.one _).or ((FinW.one _).or (FinW.one _))))))).mono (fun _ h => h) (by rw [hx]; simp)
theorem finCh (vars : List Nat) {o : No} (ho : NoC o) (v : Nat) : FinW (ChS vars o v) (26 + o.effs.length * 11) :=
  ((finSa vars v).or ((FinW.one _).or ((FinW.one _).or (FinW.each (fun j G => ∃ x, o.effs[j]? = some x ∧ x.v = v ∧ EfS vars o v j x G) _ fun j _ => FinW.opt fun x h => (finEf vars o v j x (ho x (List.mem_of_getElem? h))).mono (fun _ h => h.2) (Nat.le_refl _))))).mono (fun _ h => h) (by omega)
/-- The relation but for the literals. -/
def RelS2 (T : Nt) (o : No) (G : BFn) : Prop := (∃ v, v < T.vars.length ∧ ChS T.vars o v G) ∨ ((∃ j, j < T.vars.length ∧ G = rlB T o j) ∨ FacS T.vars o.pre G ∨ G = fun a => hdB (rs T.vars a 0) o.pre && rlB T o 0 a)
theorem pf_facs {vars : List Nat} {l : List Go.Tk.Fc} (hr : ∀ f ∈ l, f.1 < vars.length) {G : BFn} (h : FacS vars l G) : PairF (nBits vars) G := by
  rcases h with ⟨i, hi, j, hj, rfl⟩ | ⟨j, hj, rfl⟩
  · have hm : l.getD i (0, 0) ∈ l := by simp [List.getD, List.getElem?_eq_getElem hi]
    exact (pl_vl vars _ _ (by omega) j).pair (bP_wd (hr _ hm))
  · exact pf_fc hr j
theorem cov_rel2 (T : Nt) {o : No} (ho : NoC o) (hr : ∀ f ∈ o.pre, f.1 < T.vars.length) : CovW (2 * nBits T.vars) (RelS2 T o) (T.vars.length * ((26 + o.effs.length * 11) * 18) + (T.vars.length + (o.pre.length * 7 + 1)) * (3 * nBits T.vars)) := by
  refine CovW.or (CovW.eachW _ _ fun v hv => (finCh T.vars ho v).cov fun G hG => (pl_chs ho hv hG).cov.mono (fun _ h => h) (by have := wd_le (T.vars.getD v 0); omega)) ?_
  refine (((FinW.each (fun j G => G = rlB T o j) T.vars.length fun j _ => FinW.one _).or ((finFac T.vars o.pre).or (FinW.one (fun a => hdB (rs T.vars a 0) o.pre && rlB T o 0 a)))).mono (fun _ h => h) (by omega)).cov fun G hG => ?_
  rcases hG with ⟨j, hj, rfl⟩ | hG | rfl
  · exact (pf_rl ho j).cov
  · exact (pf_facs hr hG).cov
  · exact (pf_rel ho hr).cov
end Go.Proofs.Ytcoeknnghfajnaa
end
section
set_option maxRecDepth 100000
set_option linter.unusedSimpArgs false
set_option linter.unusedVariables false
namespace Go.Proofs.Ytcoeknnghfajnaa
open Go Go.W Go.Tk Go.Rx Go.Maps
/-- The costs that are given, and those that hold. -/
structure PrI (T : Nt) (gl rl : List Nat) : Prop where
  rlen : rl.length = T.ops.length
  rb : ∀ c ∈ rl, c ≤ 1048576
  gb : ∀ c ∈ gl, c ≤ 1048576
  glen : gl.length = 0 ∨ gl.length = T.ops.length
  eq : ∀ i, i < T.ops.length → cst T (gl.map iN) i = cstL rl i
end Go.Proofs.Ytcoeknnghfajnaa
end
section
set_option maxRecDepth 100000
set_option linter.unusedSimpArgs false
set_option linter.unusedVariables false
namespace Go.Proofs.Ytcoeknnghfajnaa
open Go Go.W Go.Tk Go.Rx Go.Maps
/-- The operators of the example. -/
def IsC (i : Nat) (o : No) : Prop := o.name = ByteArray.empty ∧ o.cost = 2 ∧ o.pre = [(0, i)] ∧ ∃ e : Nf, o.effs = [e] ∧ e.cnd = [] ∧ e.v = 0 ∧ e.x = i + 1 ∧ e.wv.1 = .slice none 0 0
def ChF (vv nv gv : Value) (os : List No) : Asr := Star (VwsA fcE (os.map fun o => (o.pv, o.pre))) (Star (VwsA nfE (os.map fun o => (o.ev, o.effs))) (Star (VwA vv nE [4]) (Star (VwA nv nE [0]) (Star (VwA gv fcE [(0, 3)]) Emp))))
theorem ChF.lcl {vv nv gv : Value} {os : List No} : Lcl (ChF vv nv gv os) := Lcl.vws.star (Lcl.vws.star (Lcl.vw.star (Lcl.vw.star (Lcl.vw.star .emp))))
end Go.Proofs.Ytcoeknnghfajnaa
end
section
set_option maxRecDepth 100000
set_option linter.unusedSimpArgs false
set_option linter.unusedVariables false
namespace Go.Rx
open Go Go.W Go.Tk
def prL : List Nat → Nat
  | [] => 1
  | x :: l => x * prL l
theorem prL_snoc : ∀ (l : List Nat) (x : Nat), prL (l ++ [x]) = prL l * x
  | [], x => by simp [prL]
  | y :: l, x => by simp only [List.cons_append, prL, prL_snoc l x, Nat.mul_assoc]
theorem unsK_len8 {t : Nt} {cost : Nat → Nat} (h : ∀ o ∈ t.ops, o.effs.length ≤ 8) : ∀ n, (unsK t cost n).length ≤ 8 * n
  | 0 => by simp [unsK]
  | n + 1 => by
    have := unsK_len8 (cost := cost) h n
    cases ho : t.ops[n]? with
    | none =>
      unfold unsK at *
      rw [List.range_succ, List.flatMap_append]
      simp [ho] at this ⊢
      omega
    | some o =>
      rw [unsK_succ ho, List.length_append, opU_len]
      have := h o (List.mem_of_getElem? ho)
      omega
/-- A small task. -/
structure SmT (T : Nt) : Prop where
  g : NtG T
  good : goodB T.raw = true
  vl : T.vars.length ≤ 12
  ol : T.ops.length ≤ 20
  el : ∀ o ∈ T.ops, o.effs.length ≤ 8
  pr : ∀ k, prL (T.vars.take k) ≤ 512
  nm : ∀ o ∈ T.ops, o.name.size ≤ 9223372036854775807
end Go.Rx
namespace Go.Proofs.Ytcoeknnghfajnaa
open Go Go.W Go.Tk Go.Rx Go.Maps
theorem stsK_len {vars : List Nat} : ∀ k, k ≤ vars.length → (stsK vars k).length = prL (vars.take k)
  | 0, _ => by simp [stsK, prL]
  | k + 1, hk => by
    obtain ⟨n, hn⟩ : ∃ n, vars[k]? = some n := ⟨_, List.getElem?_eq_getElem (by omega)⟩
    have key : ∀ (l : List (List Nat)), (l.flatMap (extS (vars.getD k 0))).length = l.length * vars.getD k 0 := by
      intro l
      induction l with
      | nil => simp
      | cons a l ih => rw [List.flatMap_cons, List.length_append, ih, extS_len, List.length_cons, Nat.add_mul]; omega
    have e : stsK vars (k + 1) = (stsK vars k).flatMap (extS (vars.getD k 0)) := rfl
    rw [take_snoc hn, prL_snoc, ← stsK_len k (by omega), e, key]
    simp [List.getD, hn]
theorem SmT.sm {T : Nt} (h : SmT T) {c : Nat → Nat} (hc : ∀ i, i < T.ops.length → c i ≤ 1048576) : Sm T.vars (uns T c) := {
  un := {
    nod := fun u hu => by
      obtain ⟨i, o, k, e, _, _, _, rfl⟩ := uns_mem hu
      exact dedup_nodup _
    rng := fun u hu n hn => by
      obtain ⟨i, o, k, e, hi, ho, he, rfl⟩ := uns_mem hu
      have hgo := h.g.ops o (List.mem_of_getElem? ho)
      obtain ⟨f, hf, rfl⟩ := List.mem_map.1 (dedup_mem.1 hn)
      rcases List.mem_append.1 hf with h1 | h1
      · obtain ⟨a, b⟩ := hgo.pre.rng f h1; exact numF_lt a b
      · obtain ⟨a, b⟩ := (hgo.cnd e (List.mem_of_getElem? he)).rng f h1; exact numF_lt a b
    made := fun u hu => by
      obtain ⟨i, o, k, e, hi, ho, he, rfl⟩ := uns_mem hu
      obtain ⟨a, b⟩ := (h.g.ops o (List.mem_of_getElem? ho)).eff e (List.mem_of_getElem? he)
      exact numF_lt a b
    cost := fun u hu => by
      obtain ⟨i, o, k, e, hi, ho, he, rfl⟩ := uns_mem hu
      exact hc i hi
    op := fun u hu => by
      obtain ⟨i, o, k, e, hi, ho, he, rfl⟩ := uns_mem hu
      have := h.ol
      show i ≤ 4096
      omega }
  vl := h.vl
  sm := by
    have := sum_le (N := 64) fun n hn => (h.g.vars n hn).2
    have := h.vl
    omega
  ul := by
    have := unsK_len8 (cost := c) h.el T.ops.length
    have := h.ol
    show (unsK T c T.ops.length).length ≤ 160
    omega }
/-- Right costs. -/
structure CsOk (T : Nt) (cs : List Int) : Prop where
  len : cs.length = 0 ∨ cs.length = T.ops.length
  rng : ∀ c ∈ cs, 0 ≤ c ∧ c ≤ 1048576
theorem CsOk.cst {T : Nt} {cs : List Int} (h : CsOk T cs) (hg : NtG T) (i : Nat) (hi : i < T.ops.length) : cst T cs i ≤ 1048576 := by
  unfold Go.Proofs.Ytcoeknnghfajnaa.cst
  split
  · obtain ⟨o, ho⟩ : ∃ o, T.ops[i]? = some o := ⟨_, List.getElem?_eq_getElem hi⟩
    rw [ho]
    exact (hg.ops o (List.mem_of_getElem? ho)).cost
  · rename_i hn
    rcases h.len with h1 | h1
    · exact absurd h1 hn
    have hi2 : i < cs.length := by omega
    have := h.rng cs[i] (List.getElem_mem hi2)
    simp only [List.getD, List.getElem?_eq_getElem hi2, Option.getD_some]
    omega
theorem CsOk.nil {T : Nt} : CsOk T [] := ⟨.inl rfl, by simp⟩
theorem PrI.ok {T : Nt} {gl rl : List Nat} (h : PrI T gl rl) : CsOk T (gl.map iN) := ⟨by simpa using h.glen, fun c hc => by
  obtain ⟨x, hx, rfl⟩ := List.mem_map.1 hc
  have := h.gb x hx
  unfold iN; omega⟩
theorem IsC.opB {i : Nat} {o : No} (h : IsC i o) (hi : i < 3) : opB [4] o.raw = true := by
  obtain ⟨h1, h2, h3, e, h4, h5, h6, h7, h8⟩ := h
  have e1 : o.raw = ⟨ByteArray.empty, 2, o.pv, [(0, (i : Int))], o.ev, [⟨e.wv, [], 0, ((i + 1 : Nat) : Int)⟩]⟩ := by
    unfold No.raw Nf.raw
    rw [h1, h2, h3, h4]
    simp [h5, h6, h7, faN]
  rw [e1]
  have : i = 0 ∨ i = 1 ∨ i = 2 := by omega
  rcases this with rfl | rfl | rfl <;> rfl
end Go.Proofs.Ytcoeknnghfajnaa
end
section
set_option maxRecDepth 100000
set_option linter.unusedSimpArgs false
set_option linter.unusedVariables false
namespace Go.Proofs.Ytcoeknnghfajnaa
open Go Go.W Go.Tk Go.Rx Go.Maps
section
variable {w : World} {b : Nat} {T : Nt} {U : List Un}
end
theorem lone {α : Type} {enc : α → List Value} {v : Value} {l : List α} {X : Asr} (ho : oneC v = true) : Imp (Star (VwA v enc l) X) (Star (VwsA enc [((⟨v, ho⟩, l) : Cell1 × List α)]) X) := by
  rintro w F ⟨Fa, Fb, ⟨h1, e1, h2⟩, h3, hd, rfl⟩
  exact ⟨_, ⟨Fa, Fb, ⟨fun p hp => by simp at hp; subst hp; exact h1, fun x hx => h2 x (by rw [← e1]; exact hx), by simpa using e1⟩, h3, hd, rfl⟩, fun x hx => hx⟩
end Go.Proofs.Ytcoeknnghfajnaa
end
section
set_option maxRecDepth 100000
set_option linter.unusedSimpArgs false
set_option linter.unusedVariables false
namespace Go.Proofs.Ytcoeknnghfajnaa
open Go Go.W Go.Tk Go.Rx Go.Maps
/-- The task without an operator. -/
def lessT (T : Nt) (ov : Cell1) (k : Nat) : Nt := { T with ov := ov, ops := T.ops.take k ++ T.ops.drop (k + 1) }
theorem lessT_mem {T : Nt} {ov : Cell1} {k : Nat} {o : No} (h : o ∈ (lessT T ov k).ops) : o ∈ T.ops := by
  rcases List.mem_append.1 h with h | h
  · exact List.mem_of_mem_take h
  · exact List.mem_of_mem_drop h
theorem NtR.less {T : Nt} {ov : Value} {o1 : oneC ov = true} {k : Nat} {w : World} (h : NtR w T) (hv : Vw w ov noE (T.ops.take k ++ T.ops.drop (k + 1))) : NtR w (lessT T ⟨ov, o1⟩ k) :=
  ⟨h.vars, h.init, h.goal, hv, fun o ho => h.op o (lessT_mem ho)⟩
end Go.Proofs.Ytcoeknnghfajnaa
end
section
set_option maxRecDepth 100000
set_option linter.unusedSimpArgs false
set_option linter.unusedVariables false
namespace Go.Proofs.Ytcoeknnghfajnaa
open Go Go.W Go.Tk Go.Rx Go.Bd Go.Sy Go.Maps
/-- The memory as it was. -/
def OldA (w0 : World) : Asr := fun w F => F = List.range w0.heap.size ∧ Kp [] w0 w
theorem OldA.lcl {w0 : World} : Lcl (OldA w0) := by
  refine ⟨?_, ?_⟩
  · rintro w F ⟨rfl, k⟩ x hx
    have := List.mem_range.1 hx
    have := k.size
    omega
  · rintro w F G w' ⟨rfl, k⟩ hk hG
    exact ⟨rfl, k.trans' hk fun x hx => by
      by_cases h : x < w0.heap.size
      · exact absurd hx (hG x (List.mem_range.2 h))
      · exact .inr (by omega)⟩
theorem OldA.start (w : World) : At w (List.range w.heap.size) (OldA w) w := At.start ⟨rfl, Kp.refl _ _⟩
theorem OldA.kp {w w0 w1 : World} {F : List Nat} (h : At w F (OldA w0) w1) : Kp [] w0 w1 := by
  obtain ⟨⟨F1, h1, _⟩, _⟩ := h
  exact h1.2
end Go.Proofs.Ytcoeknnghfajnaa
end
section
set_option maxRecDepth 100000
set_option linter.unusedSimpArgs false
set_option linter.unusedVariables false
namespace Go.Proofs.Ytcoeknnghfajnaa
open Go Go.W Go.Tk Go.Rx Go.Bd Go.Sy Go.Maps
theorem sum_getD (l : List Nat) : ∀ k, k ≤ l.length → ((List.range k).map fun v => l.getD v 0).sum = (l.take k).sum
  | 0, _ => by simp
  | k + 1, h => by
    have ih := sum_getD l k (by omega)
    rw [List.range_succ, List.map_append, List.sum_append, ih, List.take_add_one, List.getElem?_eq_getElem (show k < l.length by omega), List.sum_append]
    simp [List.getD, List.getElem?_eq_getElem (show k < l.length by omega)]
theorem sum_mul (f : Nat → Nat) (c : Nat) : ∀ l : List Nat, (l.map fun v => f v * c).sum = (l.map f).sum * c
  | [] => by simp
  | v :: l => by
    simp only [List.map_cons, List.sum_cons, sum_mul f c l, Nat.add_mul]
end Go.Proofs.Ytcoeknnghfajnaa
end
section
set_option maxRecDepth 100000
set_option linter.unusedSimpArgs false
set_option linter.unusedVariables false
namespace Go.Proofs.Ytcoeknnghfajnaa
open Go Go.W Go.Tk Go.Rx Go.Bd Go.Sy Go.Maps
theorem pf_set1 {vars s : List Nat} (hs : StN vars s) : PairF (nBits vars) (setF vars fun z => decide (z = s)) := by
  have hr : ∀ f ∈ sF s s.length, f.1 < vars.length := fun f hf => (sF_rng hs f hf).1
  refine (pf_fc hr 0).eq fun a => ?_
  rw [← fc_hd hr, sF_hd (by rw [rs_len, hs.len])]
  show (okB vars a && decide (rs vars a 0 = s)) = _
  by_cases h : rs vars a 0 = s
  · rw [decide_eq_true h, okB_iff.2 (by rw [h]; exact hs)]; rfl
  · rw [decide_eq_false h, Bool.and_false]
theorem pf_relB {T : Nt} {o : No} (ho : NoC o) (hr : ∀ f ∈ o.pre, f.1 < T.vars.length) : PairF (nBits T.vars) (relB T o) := (pf_rel ho hr).eq fun a => by unfold relB; rw [rlB_all]
theorem pf_imA {T : Nt} {o : No} {P : List Nat → Bool} (ho : NoC o) (hr : ∀ f ∈ o.pre, f.1 < T.vars.length) (hS : PairF (nBits T.vars) (setF T.vars P)) : PairF (nBits T.vars) (imA T o P) := hS.and (pf_relB ho hr)
theorem pf_sg {b nx : Nat} {H : BFn} (h : PairF b H) (hn : nx < 2) : PairF b fun a => H (sgA (2 * b) nx a) := by
  refine h.map (sgA (2 * b) nx) (fun x y => if nx = 0 then y else x) (fun x y => if nx = 0 then y else x) (fun a p hp => ?_) (fun a p hp => ?_)
  · rcases (show nx = 0 ∨ nx = 1 by omega) with rfl | rfl
    · exact sgA_in (n := 2 * b) (nx := 0) (p := p) (by omega) (by omega)
    · exact sgA_out (n := 2 * b) (nx := 1) (p := p) (by omega) (by omega)
  · rcases (show nx = 0 ∨ nx = 1 by omega) with rfl | rfl
    · exact sgA_out (n := 2 * b) (nx := 0) (p := p) (by omega) (by omega)
    · exact sgA_in (n := 2 * b) (nx := 1) (p := p) (by omega) (by omega)
theorem pf_prA {T : Nt} {o : No} {P : List Nat → Bool} (ho : NoC o) (hr : ∀ f ∈ o.pre, f.1 < T.vars.length) (hS : PairF (nBits T.vars) (setF T.vars P)) : PairF (nBits T.vars) (prA T o P) := (pf_relB ho hr).and (pf_sg hS (by omega))
def ImgX (T : Nt) (o : No) (P : List Nat → Bool) (G : BFn) : Prop := RelS2 T o G ∨ G = imA T o P ∨ (∃ H, Bd.IsC (imA T o P) H ∧ ∀ a, G a = true ↔ qS 1 (inn T 0) H a) ∨
  ∃ X, (∀ a, X a = true ↔ qS 1 (inn T 0) (imA T o P) a) ∧ ∃ H, Bd.IsC X H ∧ G = fun b => H (sgA (2 * nBits T.vars) 1 b)
def PreX (T : Nt) (o : No) (P : List Nat → Bool) (G : BFn) : Prop := RelS2 T o G ∨ (∃ H, Bd.IsC (setF T.vars P) H ∧ G = fun b => H (sgA (2 * nBits T.vars) 0 b)) ∨ G = prA T o P ∨ (∃ H, Bd.IsC (prA T o P) H ∧ ∀ a, G a = true ↔ qS 1 (inn T 1) H a) ∨ G = setF T.vars (preP o P)
theorem rel_x {T : Nt} {o : No} {G : BFn} (h : RelS T o G) : LitS T.vars G ∨ RelS2 T o G := h
theorem img_x {T : Nt} {o : No} {P : List Nat → Bool} {G : BFn} (h : ImgS T o P G) : LitS T.vars G ∨ ImgX T o P G := by
  rcases h with h | h
  · exact (rel_x h).imp id .inl
  · exact .inr (.inr h)
theorem pre_x {T : Nt} {o : No} {P : List Nat → Bool} {G : BFn} (h : PreS T o P G) : LitS T.vars G ∨ PreX T o P G := by
  rcases h with h | h
  · exact (rel_x h).imp id .inl
  · exact .inr (.inr h)
def relN (T : Nt) (o : No) : Nat := T.vars.length * ((26 + o.effs.length * 11) * 18) + (T.vars.length + (o.pre.length * 7 + 1)) * (3 * nBits T.vars)
def famN (b : Nat) : Nat := (3 * b + 4) * (3 * b)
theorem cov_imgx {T : Nt} {o : No} {P : List Nat → Bool} (ho : NoC o) (hr : ∀ f ∈ o.pre, f.1 < T.vars.length) (hS : PairF (nBits T.vars) (setF T.vars P)) :
    CovW (2 * nBits T.vars) (ImgX T o P) (relN T o + (3 * nBits T.vars + (famN (nBits T.vars) + famN (nBits T.vars)))) := by
  have hI := pf_imA ho hr hS
  refine (cov_rel2 T ho hr).or (hI.cov.or (CovW.or ?_ ?_))
  · exact hI.fam (fun H G => ∀ a, G a = true ↔ qS 1 (inn T 0) H a) (fun H hH G hG => (hI.isc hH).ex hG) (fun H G G' h h' => ex_uniq _ _ h h')
  · by_cases hX : ∃ X : BFn, ∀ a, X a = true ↔ qS 1 (inn T 0) (imA T o P) a
    · obtain ⟨X, hX⟩ := hX
      have hXf : PairF (nBits T.vars) X := hI.ex hX
      refine (hXf.fam (n := 2 * nBits T.vars) (fun H G => G = fun b => H (sgA (2 * nBits T.vars) 1 b)) (fun H hH G hG => by rw [hG]; exact pf_sg (hXf.isc hH) (by omega)) (fun H G G' h h' => by rw [h, h'])).mono (fun G hG => ?_) (Nat.le_refl _)
      obtain ⟨Y, hY, H, hH, e⟩ := hG
      have : Y = X := ex_uniq _ _ hY hX
      subst this
      exact ⟨H, hH, e⟩
    · exact (CovW.none _).mono (fun G ⟨X, h, _⟩ => hX ⟨X, h⟩) (Nat.zero_le _)
theorem cov_prex {T : Nt} {o : No} {P : List Nat → Bool} (ho : NoC o) (hr : ∀ f ∈ o.pre, f.1 < T.vars.length) (hS : PairF (nBits T.vars) (setF T.vars P)) (hF : PairF (nBits T.vars) (setF T.vars (preP o P))) :
    CovW (2 * nBits T.vars) (PreX T o P) (relN T o + (famN (nBits T.vars) + (3 * nBits T.vars + (famN (nBits T.vars) + 3 * nBits T.vars)))) := by
  have hI := pf_prA ho hr hS
  refine (cov_rel2 T ho hr).or (CovW.or ?_ (hI.cov.or (CovW.or ?_ hF.cov)))
  · exact hS.fam (fun H G => G = fun b => H (sgA (2 * nBits T.vars) 0 b)) (fun H hH G hG => by rw [hG]; exact pf_sg (hS.isc hH) (by omega)) (fun H G G' h h' => by rw [h, h'])
  · exact hI.fam (fun H G => ∀ a, G a = true ↔ qS 1 (inn T 1) H a) (fun H hH G hG => (hI.isc hH).ex hG) (fun H G G' h h' => ex_uniq _ _ h h')
theorem bP_split {vars : List Nat} : ∀ k, k ≤ vars.length → ∀ p, p < bP vars k → ∃ v j, v < k ∧ j < wd (vars.getD v 0) ∧ p = bP vars v + j
  | 0, _, p, h => by unfold bP at h; simp at h
  | k + 1, hk, p, h => by
    have hn : vars[k]? = some (vars.getD k 0) := by simp [List.getD, List.getElem?_eq_getElem (show k < vars.length by omega)]
    rw [bP_succ hn] at h
    by_cases hp : p < bP vars k
    · obtain ⟨v, j, h1, h2, h3⟩ := bP_split k (by omega) p hp
      exact ⟨v, j, by omega, h2, h3⟩
    · exact ⟨k, p - bP vars k, by omega, by omega, by omega⟩
theorem cov_blocks {n : Nat} (vars : List Nat) (B : Nat → BFn) (N : Nat → Nat) (hB : ∀ v, v < vars.length → IvIn (2 * bP vars v) (2 * wd (vars.getD v 0)) (B v)) (hN : ∀ v, v < vars.length → CovW n (fun K => K = B v) (N v)) :
    ∀ k, k ≤ vars.length → CovW n (fun K => K = fun a => (List.range k).all fun v => B v a) ((List.range k).map N).sum
  | 0, _ => (cov_const true).mono (fun K h => h) (Nat.zero_le _)
  | k + 1, hk => by
    have e : (fun a => (List.range (k + 1)).all fun v => B v a) = fun a => ((List.range k).all fun v => B v a) && B k a := funext fun a => by
      rw [List.range_succ, List.all_append]
      simp
    rw [e, List.range_succ, List.map_append, List.sum_append]
    have e2 : ([k].map N).sum = N k := by simp
    rw [e2]
    refine cov_and2 (s := 2 * bP vars k) (B := fun a => (List.range k).all fun v => B v a) (R := B k) (fun a b h => ?_) (fun a b h => hB k (by omega) a b fun i h1 h2 => h i h1) (cov_blocks vars B N hB hN k (by omega)) (hN k (by omega))
    refine allc_congr fun v hv => ?_
    have hv := List.mem_range.1 hv
    refine hB v (by omega) a b fun i h1 h2 => h i ?_
    have hn : vars[v]? = some (vars.getD v 0) := by simp [List.getD, List.getElem?_eq_getElem (show v < vars.length by omega)]
    have h3 := bP_succ hn
    have h4 := bP_mono (vars := vars) (show v + 1 ≤ k by omega)
    omega
theorem sum_le (f g : Nat → Nat) : ∀ k, (∀ v, v < k → f v ≤ g v) → ((List.range k).map f).sum ≤ ((List.range k).map g).sum
  | 0, _ => by simp
  | k + 1, h => by
    have := sum_le f g k fun v hv => h v (by omega)
    have := h k (by omega)
    rw [List.range_succ, List.map_append, List.sum_append, List.map_append, List.sum_append]
    simp
    omega
theorem wd_dbl {n : Nat} (h : 1 ≤ n) : 2 ^ wd n ≤ n * 2 := by
  by_cases h0 : wd n = 0
  · rw [h0]; omega
  · have := wd_lt (n := n) (w := wd n - 1) (by omega)
    have e : 2 ^ wd n = 2 ^ (wd n - 1) * 2 := by rw [← Nat.pow_succ]; congr 1; omega
    omega
theorem take_sum (l : List Nat) (k : Nat) : (l.take k).sum ≤ l.sum := by
  have : (l.take k).sum + (l.drop k).sum = l.sum := by rw [← List.sum_append, List.take_append_drop]
  omega
theorem sum_lin {vars : List Nat} {f : Nat → Nat} {c : Nat} (h : ∀ v, v < vars.length → f v ≤ vars.getD v 0 * c) {k : Nat} (hk : k ≤ vars.length) : ((List.range k).map f).sum ≤ vars.sum * c := by
  refine Nat.le_trans (sum_le f (fun v => vars.getD v 0 * c) k fun v hv => h v (by omega)) ?_
  rw [sum_mul (fun v => vars.getD v 0), sum_getD _ _ hk]
  exact Nat.mul_le_mul_right _ (take_sum _ _)
theorem rv_iv (vars : List Nat) (v : Nat) : ∀ a b : Nat → Bool, (∀ i, 2 * bP vars v ≤ i → i < 2 * bP vars v + 2 * wd (vars.getD v 0) → a i = b i) → rv vars a 0 v = rv vars b 0 v := fun a b h => rv_x fun p h1 h2 => h _ (by omega) (by omega)
theorem cov_okp {n : Nat} {vars : List Nat} (h1 : ∀ m ∈ vars, 1 ≤ m ∧ m ≤ 64) {k : Nat} (hk : k ≤ vars.length) : CovW n (fun K => K = okP vars k) (vars.sum * 2) := by
  refine (cov_blocks vars (fun v a => decide (rv vars a 0 v < vars.getD v 0)) (fun v => 2 ^ wd (vars.getD v 0)) (fun v hv a b h => by
    show decide (rv vars a 0 v < vars.getD v 0) = decide (rv vars b 0 v < vars.getD v 0)
    rw [rv_iv vars v a b h]) (fun v hv => cov_x (s := bP vars v) (w := wd (vars.getD v 0)) fun a b h => congrArg (fun y => decide (y < vars.getD v 0)) (rv_x h)) k hk).mono (fun _ h => h) (sum_lin (fun v hv => wd_dbl (h1 _ (by simp [List.getD, List.getElem?_eq_getElem hv])).1) hk)
theorem cov_ct1 {n : Nat} {vars : List Nat} (h1 : ∀ m ∈ vars, 1 ≤ m ∧ m ≤ 64) : CovW n (fun K => K = ctF vars fun _ => true) (vars.sum * 128) := by
  let B : Nat → BFn := fun v a => decide (rv vars a 0 v < vars.getD v 0) && (List.range (wd (vars.getD v 0))).all fun j => !a (2 * (bP vars v + j) + 1)
  have hBI : ∀ v, v < vars.length → IvIn (2 * bP vars v) (2 * wd (vars.getD v 0)) (B v) := fun v hv a b h => by
    show (decide (rv vars a 0 v < vars.getD v 0) && (List.range (wd (vars.getD v 0))).all fun j => !a (2 * (bP vars v + j) + 1)) = (decide (rv vars b 0 v < vars.getD v 0) && (List.range (wd (vars.getD v 0))).all fun j => !b (2 * (bP vars v + j) + 1))
    rw [rv_iv vars v a b h]
    congr 1
    refine allc_congr fun j hj => ?_
    have := List.mem_range.1 hj
    rw [h _ (by omega) (by omega)]
  have e : (ctF vars fun _ => true) = fun a => (List.range vars.length).all fun v => B v a := funext fun a => by
    rw [Bool.eq_iff_iff, rangeAll]
    unfold ctF okB
    rw [Bool.and_true, Bool.and_eq_true, rangeAll, zB_all]
    constructor
    · rintro ⟨h2, h3⟩ v hv
      show (decide (rv vars a 0 v < vars.getD v 0) && (List.range (wd (vars.getD v 0))).all fun j => !a (2 * (bP vars v + j) + 1)) = true
      rw [Bool.and_eq_true, rangeAll]
      refine ⟨h2 v hv, fun j hj => ?_⟩
      have := bP_wd hv
      rw [h3 _ (by omega)]
      rfl
    · intro h
      have h : ∀ v, v < vars.length → decide (rv vars a 0 v < vars.getD v 0) = true ∧ ∀ j, j < wd (vars.getD v 0) → (!a (2 * (bP vars v + j) + 1)) = true := fun v hv => by
        have := h v hv
        have : (decide (rv vars a 0 v < vars.getD v 0) && (List.range (wd (vars.getD v 0))).all fun j => !a (2 * (bP vars v + j) + 1)) = true := this
        rw [Bool.and_eq_true, rangeAll] at this
        exact this
      refine ⟨fun v hv => (h v hv).1, fun p hp => ?_⟩
      rw [← bP_all] at hp
      obtain ⟨v, j, h4, h5, rfl⟩ := bP_split vars.length (Nat.le_refl _) p hp
      simpa using (h v h4).2 j h5
  rw [e]
  refine (cov_blocks vars B (fun v => 2 ^ (2 * wd (vars.getD v 0))) hBI (fun v hv => cov_iv (hBI v hv) (by omega)) vars.length (Nat.le_refl _)).mono (fun _ h => h) (sum_lin (fun v hv => ?_) (Nat.le_refl _))
  have h2 := wd_dbl (h1 _ (show vars.getD v 0 ∈ vars by simp [List.getD, List.getElem?_eq_getElem hv])).1
  have h3 := pow_wd (vars.getD v 0)
  rw [Nat.two_mul, Nat.pow_add]
  calc 2 ^ wd (vars.getD v 0) * 2 ^ wd (vars.getD v 0) ≤ (vars.getD v 0 * 2) * 64 := Nat.mul_le_mul h2 h3
    _ = vars.getD v 0 * 128 := by omega
def nbL (T : Nt) : Nat := 2 * nBits T.vars * 2 + (T.vars.sum * 172 + T.vars.length * (T.vars.sum * 2)) + nBits T.vars * (3 * nBits T.vars)
theorem cov_basL {T : Nt} (h1 : ∀ m ∈ T.vars, 1 ≤ m ∧ m ≤ 64) : CovW (2 * nBits T.vars) (BasS T) (nbL T) := by
  unfold nbL
  refine CovW.or (((?_ : CovW _ (LitS T.vars) _).or (CovW.or (N2 := T.vars.length * (T.vars.sum * 2)) ((CovW.sum _ (fun v => T.vars.getD v 0 * 172) _ fun v hv => ?_).mono (N' := T.vars.sum * 172) (fun _ h => h) (sum_lin (fun v hv => Nat.le_refl _) (Nat.le_refl _))) (CovW.eachW (fun k G => G = okP T.vars (k + 1)) _ fun k hk => cov_okp h1 (by omega))))) (CovW.eachW (fun j G => G = zB (nBits T.vars) j) _ fun j _ => ?_)
  · refine CovW.eachW _ _ fun i hi => (CovW.or (N1 := 1) (N2 := 1) (cov_iv (s := i) (w := 1) (fun a b h => ?_) (by omega)) (cov_iv (s := i) (w := 1) (fun a b h => ?_) (by omega)))
    · exact h i (by omega) (by omega)
    · exact congrArg (fun x => !x) (h i (by omega) (by omega))
  · refine CovW.eachW (fun x G => VlS T.vars v x 0 G ∨ G = fun a => decide (rv T.vars a 0 v < x + 1)) _ fun x _ => CovW.or (N1 := 108) ?_ ((cov_x (thr_x T.vars v x)).mono (fun _ h => h) (pow_wd _))
    refine (finVl T.vars v x 0).cov (C := 18) fun G hG => ?_
    obtain ⟨j, hj, rfl⟩ := hG
    exact (pl_vl T.vars v x (by omega) j).cov.mono (fun _ h => h) (by have := wd_le (T.vars.getD v 0); omega)
  · exact (PairF.cov (b := nBits T.vars) (PairF.all (fun i a => !a (2 * (j + i) + 1)) _ fun i hi => PairF.one (p := j + i) (by have := List.mem_range.1 hi; omega) fun _ y => !y))
end Go.Proofs.Ytcoeknnghfajnaa
end
section
set_option maxRecDepth 100000
set_option linter.unusedSimpArgs false
set_option linter.unusedVariables false
namespace Go.Proofs.Ytcoeknnghfajnaa
open Go Go.W Go.Tk Go.Rx Go.Bd Go.Sy Go.Maps
section
variable {w w1 : World} {F : List Nat} {B : Asr} {s m lim N N0 c : Nat} {T : Nt} {q : SpC} {W0 W : BFn → Prop} {ps : List Kp2}
theorem lw_single (sv : Value) (st : List Nat) (hC : LwC T W0 N0) (hB : Lcl B) (h : Lw s m lim T q W0 B w F N c ps w1) (hr : Rds B fun w' => Vw w' sv nE st) (hst : StN T.vars st) (hl : N0 + (N + T.vars.length * (3 * nBits T.vars)) < lim) (hc : c < 100000) :
    Calls Try.prog 27 [.pointer (some ⟨s, 0, none⟩), sv].toArray w1 fun en w' => ∃ v, en = .returned v ∧ ∃ x : Nat, v = .tuple #[.int .i64 (x : Nat), .nilIface] ∧ Lw s m lim T q W0 B w F (N + T.vars.length * (3 * nBits T.vars)) (c + 1) ((x, fun z => decide (z = st)) :: ps) w' := by
  obtain ⟨ns, ks, ss, hrn, hG, hk, hkl, hsl, hA⟩ := h
  have hfr := sF_rng hst
  refine (single_spec sv st hG hB hA hr hst (by omega) (W := fun G => W0 G ∨ ∃ j, j < (sF st st.length).length ∧ G = fcB T.vars (sF st st.length) j) hC.lit (hC.fc hfr fun j hj => ⟨j, hj, rfl⟩)).mono ?_
  rintro en w' ⟨v, rfl, hs⟩
  refine ⟨v, rfl, lw_sres hC hrn hG hk hkl hsl hs ((CovW.eachW (fun j G => G = fcB T.vars (sF st st.length) j) _ fun j _ => (pf_fc (fun f hf => (hfr f hf).1) j).cov).mono (fun _ h => h) ?_) hl⟩
  rw [sF_len, hst.len]
  exact Nat.le_refl _
theorem lw_image (a op : Nat) (o : No) (P : List Nat → Bool) (hC : LwC T W0 N0) (hB : Lcl B) (h : Lw s m lim T q W0 B w F N c ps w1) (ha : (a, P) ∈ ps) (ho : T.ops[op]? = some o) (hn : NoC o) (hr : ∀ f ∈ o.pre, f.1 < T.vars.length) (hS : PairF (nBits T.vars) (setF T.vars P))
    (hl : N0 + (N + (relN T o + (3 * nBits T.vars + (famN (nBits T.vars) + famN (nBits T.vars))))) < lim) (hc : c < 100000) :
    Calls Try.prog 24 [.pointer (some ⟨s, 0, none⟩), .int .i64 (a : Nat), .int .i64 (op : Nat)].toArray w1 fun en w' => ∃ v, en = .returned v ∧ ∃ x : Nat, v = .tuple #[.int .i64 (x : Nat), .nilIface] ∧ Lw s m lim T q W0 B w F (N + (relN T o + (3 * nBits T.vars + (famN (nBits T.vars) + famN (nBits T.vars))))) (c + 1) ((x, imgP T o P) :: ps) w' := by
  obtain ⟨ns, ks, ss, hrn, hG, hk, hkl, hsl, hA⟩ := h
  refine (image_spec a op o P hG hB hA (hk _ ha) ho (by omega) (by omega) (imgW (W := fun G => W0 G ∨ ImgX T o P G) fun G hG => (img_x hG).imp (fun h => hC.bas G (.inl (.inl h))) id)).mono ?_
  rintro en w' ⟨v, rfl, hs⟩
  exact ⟨v, rfl, lw_sres hC hrn hG hk hkl hsl hs (cov_imgx hn hr hS) hl⟩
theorem lw_preimage (a op : Nat) (o : No) (P : List Nat → Bool) (hC : LwC T W0 N0) (hB : Lcl B) (h : Lw s m lim T q W0 B w F N c ps w1) (ha : (a, P) ∈ ps) (ho : T.ops[op]? = some o) (hn : NoC o) (hr : ∀ f ∈ o.pre, f.1 < T.vars.length) (hS : PairF (nBits T.vars) (setF T.vars P)) (hF : PairF (nBits T.vars) (setF T.vars (preP o P)))
    (hl : N0 + (N + (relN T o + (famN (nBits T.vars) + (3 * nBits T.vars + (famN (nBits T.vars) + 3 * nBits T.vars))))) < lim) (hc : c < 100000) :
    Calls Try.prog 19 [.pointer (some ⟨s, 0, none⟩), .int .i64 (a : Nat), .int .i64 (op : Nat)].toArray w1 fun en w' => ∃ v, en = .returned v ∧ ∃ x : Nat, v = .tuple #[.int .i64 (x : Nat), .nilIface] ∧ Lw s m lim T q W0 B w F (N + (relN T o + (famN (nBits T.vars) + (3 * nBits T.vars + (famN (nBits T.vars) + 3 * nBits T.vars))))) (c + 1) ((x, preP o P) :: ps) w' := by
  obtain ⟨ns, ks, ss, hrn, hG, hk, hkl, hsl, hA⟩ := h
  refine (preimage_spec a op o P hG hB hA (hk _ ha) ho (by omega) (by omega) (preW (W := fun G => W0 G ∨ PreX T o P G) fun G hG => (pre_x hG).imp (fun h => hC.bas G (.inl (.inl h))) id)).mono ?_
  rintro en w' ⟨v, rfl, hs⟩
  exact ⟨v, rfl, lw_sres hC hrn hG hk hkl hsl hs (cov_prex hn hr hS hF) hl⟩
theorem lw_count1 (a : Nat) (hC : LwC T W0 N0) (hB : Lcl B) (h : Lw s m lim T q W0 B w F N c ps w1) (ha : (a, fun _ => true) ∈ ps) (hl : N0 + (N + T.vars.sum * 128) < lim) :
    Calls Try.prog 17 [.pointer (some ⟨s, 0, none⟩), .int .i64 (a : Nat)].toArray w1 fun en w' => ∃ v, en = .returned v ∧ v = cntV (ctN T.vars fun _ => true) ∧ Lw s m lim T q W0 B w F (N + T.vars.sum * 128) c ps w' := by
  obtain ⟨ns, ks, ss, hrn, hG, hk, hkl, hsl, hA⟩ := h
  refine (count_spec a _ hG hB hA (hk _ ha) (W := fun G => W0 G ∨ G = ctF T.vars fun _ => true) hC.lit (hC.zb (W := fun G => G = ctF T.vars fun _ => true)) (.inr rfl)).mono ?_
  rintro en w' ⟨v, rfl, e', ns', rfl, h2, h3, h4⟩
  obtain ⟨rfl, hr2⟩ := hrn.step hC.cov h2 (cov_ct1 hG.g.vars) hl
  exact ⟨_, rfl, by rw [if_neg (by simp), ct_num fun n hn => (hG.g.vars n hn).2], ns', ks, ss, hr2, h3, fun p hp => ⟨(hk p hp).kn, (hk p hp).ok.stp hG.ok h2⟩, hkl, hsl, h4⟩
end
/-- Images of one state. -/
theorem img_one {T : Nt} {o : No} {st : List Nat} (hst : StN T.vars st) : imgP T o (fun z => decide (z = st)) = fun z => hdB st o.pre && decide (z = apS o st) := funext fun z => by
  rw [Bool.eq_iff_iff]
  unfold imgP
  rw [List.any_eq_true, Bool.and_eq_true, decide_eq_true_iff]
  constructor
  · rintro ⟨x, hx, h⟩
    simp only [Bool.and_eq_true, decide_eq_true_eq] at h
    obtain ⟨⟨rfl, h2⟩, rfl⟩ := h
    exact ⟨h2, rfl⟩
  · rintro ⟨h1, rfl⟩
    exact ⟨st, sts_mem.2 hst, by simp [h1]⟩
end Go.Proofs.Ytcoeknnghfajnaa
end
section
set_option maxRecDepth 100000
set_option linter.unusedSimpArgs false
set_option linter.unusedVariables false
namespace Go.Proofs.Ytcoeknnghfajnaa
open Go Go.W Go.Bd Go.Maps
def PickI (n : Nat) (ns : Ns) (f g : Nat) (l : List Bool) : Prop := Ref ns g ∧ g ≠ 0 ∧ l.length = n ∧ ∀ i, i < n → pickF n ns f i = (l.getD i false || pickF n ns g i)
theorem PickI.step {n f g : Nat} {ns : Ns} {l : List Bool} (w : Wf n ns) (h : PickI n ns f g l) (h2 : 2 ≤ g) : if (at_ n ns g).low = 0 then PickI n ns f (at_ n ns g).high (l.set (tv n ns g) true) else PickI n ns f (at_ n ns g).low l := by
  obtain ⟨h1, h0, hl, hp⟩ := h
  have hne : (at_ n ns g).low ≠ (at_ n ns g).high := by rw [at_ge h2 h1]; exact w.ne _ _
  have tvn := w.tv_var h2 h1
  rw [pick_node w h2 h1] at hp
  by_cases hz : (at_ n ns g).low = 0
  · rw [if_pos hz] at hp ⊢
    refine ⟨w.ref_high h1, by omega, by simpa using hl, fun i hi => ?_⟩
    rw [hp i hi]
    by_cases he : i = tv n ns g
    · subst he
      rw [upd_same]
      simp [List.getD, List.getElem?_set, hl, hi]
    · rw [upd_ne he]
      simp only [List.getD_eq_getElem?_getD, List.getElem?_set]
      rw [if_neg (fun e => he e.symm)]
  · rw [if_neg hz] at hp ⊢
    exact ⟨w.ref_low h1, hz, hl, hp⟩
theorem PickI.done {n f g : Nat} {ns : Ns} {l : List Bool} (h : PickI n ns f g l) (h2 : g < 2) : l = (List.range n).map (pickF n ns f) := by
  obtain ⟨h1, h0, hl, hp⟩ := h
  refine List.ext_getElem (by simp [hl]) fun i h3 h4 => ?_
  have := hp i (by omega)
  rw [pick_lt h2] at this
  simp [this, List.getD, List.getElem?_eq_getElem h3]
def PickV (m n lim : Nat) (ns : Ns) (f : Nat) (sv : Value) (B : Asr) (w : World) (F : List Nat) (q : Nat) (ρ : Env) (w' : World) : Prop :=
  ∃ l, ρ 0 = .pointer (some ⟨m, 0, none⟩) ∧ ρ 1 = .int .i64 (q : Nat) ∧ ρ 7 = sv ∧ PickI n ns f q l ∧ At w F (Star (OwnA sv 4 1 bv l) (Star (MgrA m n lim ns) B)) w'
theorem pick_spec {w w1 : World} {F : List Nat} {B : Asr} (m n lim : Nat) (ns : Ns) (f : Nat) (hB : Lcl B) (hA : At w F (Star (MgrA m n lim ns) B) w1) (hw : Wf n ns) (hb : Bnd n lim ns) (hf : Ref ns f) (h0 : f ≠ 0) :
    Calls Try.prog 53 [.pointer (some ⟨m, 0, none⟩), .int .i64 (f : Nat)].toArray w1 fun e w' => ∃ x, e = .returned x ∧ ∃ v, x = .tuple #[v, .nilIface] ∧ At w F (Star (OwnA v 4 1 bv ((List.range n).map (pickF n ns f))) (Star (MgrA m n lim ns) B)) w' := by
  have hbn := hb.hn
  have hbl := hb.hl
  have hbs := hb.hs
  refine enter Try.func53 mixed low53 (Nat.le_of_ble_eq_true rfl) ?_
  simp only [L53]
  have hl : Lcl (Star (MgrA m n lim ns) B) := Lcl.mgr.star hB
  simp [rowOf]
  refine cl_of (check_lit [(f : Int)] (MgrA.rd hA) hb rfl (by simp) rfl) ?_
  rintro u w2 ⟨rfl, k2⟩
  have h2 := hA.kp0 hl k2
  have hr : [(f : Int)].all (refB ns) = true := by
    unfold Ref at hf
    simp [refB]; omega
  rw [hr]
  obtain ⟨nv, b, ho, _, _⟩ := MgrA.rd h2
  unfold mgrO at ho
  have h4 := h2.made (E := 4) (enc := bv) (x := false) (z := [.bool false]) (n := n) hl rfl bv_len (by unfold maxLen; omega)
  simp [bchkV, e_eq0, h0, cell_blk ho]
  refine gd_mk (by omega) ?_
  obtain ⟨sv, hsv⟩ : ∃ sv, sv = Value.slice (some ⟨w2.heap.size, 0, none⟩) n n := ⟨_, rfl⟩
  rw [← hsv] at h4
  simp [← hsv]
  refine loop_inv (PickV m n lim ns f sv B w F) f
    ⟨List.replicate n false, by simp, by simp, by simp, ⟨hf, h0, by simp, fun i hi => by simp [List.getD, List.getElem?_replicate, hi]⟩, h4⟩ ?_
  rintro q ρ w4 ⟨l, g0, g1, g7, hI, h5⟩
  by_cases hq : q < 2
  · have hq' : ¬ (1 : Int) < q := by omega
    simp [g1, g7, hq']
    rw [hI.done hq] at h5
    exact h5
  · have hq' : (1 : Int) < q := by omega
    have hq2 : 2 ≤ q := by omega
    have hst := hI.step hw hq2
    have hrq := hI.1
    have l1 := hw.lt_low hq2 hrq
    have l2 := hw.lt_high hq2 hrq
    have tvn := hw.tv_var hq2 hrq
    have hLl : Lcl (Star (OwnA sv 4 1 bv l) (Star (MgrA m n lim ns) B)) := Lcl.own.star hl
    simp [g1, g0, hq']
    refine cl_of (at_spec m n lim q ns w4 (MgrA.rd h5.drop) hb hrq) ?_
    rintro _ w5 ⟨rfl, k5⟩
    have h6 := (h5.kp0 hLl k5).alloc (.cells #[.int .i64 0, .int .i64 0, .int .i64 0] 112) hLl
    simp [ndV, bn_len]
    refine h6.st hLl (by simp [en, ints]) (by simp [en, ints]) fun w7 h7 => ?_
    have hon := h7.obj
    simp [en, ints] at hon
    have h8 := h7.rot
    have hLn : ∀ {o : Obj} {b : Nat}, Lcl (Star (ObjA b o) (Star (MgrA m n lim ns) B)) := Lcl.obj.star hl
    have eqz : (((at_ n ns q).low : Int) == 0) = decide ((at_ n ns q).low = 0) := e_eq0 _
    simp [cell_blk hon, eqz]
    by_cases hz : (at_ n ns q).low = 0
    · rw [if_pos hz] at hst
      have hvl : (at_ n ns q).v < l.length := by rw [hI.2.2.1]; exact tvn
      simp (disch := omega) [hz, cell_blk hon, g7, h8.own.idx]
      refine At.store1 (k := (at_ n ns q).v) (x := true) hLn h8 bv_len bv_one hvl rfl fun w9 h9 => ?_
      have hon9 := h9.drop.obj
      simp [en, ints] at hon9
      simp [cell_blk hon9, g0, g7]
      exact ⟨_, l2, l.set (at_ n ns q).v true, by simp [g0], by simp, by simp [g7], hst, h9.by (Imp.un Imp.dr)⟩
    · rw [if_neg hz] at hst
      simp [hz, g0, g7]
      exact ⟨_, l1, l, by simp [g0], by simp, by simp [g7], hst, h8.by (Imp.un Imp.dr)⟩
end Go.Proofs.Ytcoeknnghfajnaa
end
