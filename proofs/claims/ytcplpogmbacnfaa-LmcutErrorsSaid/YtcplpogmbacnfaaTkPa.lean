/-
  Parts of the proofs of this seat's statements (TkPlain, TkNat, TkChk); no conditions beyond those each theorem names.
-/
import Derived.Test.YtcplpogmbacnfaaLibS
section
set_option linter.unusedVariables false
set_option linter.unusedSimpArgs false
namespace Go.Tk
open Go Go.W
/-! ### Raw tasks: any numbers -/
abbrev Fa := Int × Int
structure Ef where
  wv : Cell1
  cnd : List Fa
  v : Int
  x : Int
structure Oq where
  name : ByteArray
  cost : Int
  pv : Cell1
  pre : List Fa
  ev : Cell1
  effs : List Ef
structure Tk where
  vv : Cell1
  nv : Cell1
  gv : Cell1
  ov : Cell1
  vars : List Int
  init : List Int
  goal : List Fa
  ops : List Oq
def iE (i : Int) : List Value := [.int .i64 i]
theorem iE_len (i : Int) : (iE i).length = 1 := rfl
theorem iE_one (i : Int) : (iE i).all oneC = true := rfl
def faE (f : Fa) : List Value := [.int .i64 f.1, .int .i64 f.2]
theorem faE_len (f : Fa) : (faE f).length = 2 := rfl
theorem faE_one (f : Fa) : (faE f).all oneC = true := rfl
def efE (e : Ef) : List Value := [e.wv.1, .int .i64 e.v, .int .i64 e.x]
theorem efE_len (e : Ef) : (efE e).length = 3 := rfl
theorem efE_one (e : Ef) : (efE e).all oneC = true := by simp [efE, e.wv.2]
def oqE (o : Oq) : List Value := [.string o.name, .int .i64 o.cost, o.pv.1, o.ev.1]
theorem oqE_len (o : Oq) : (oqE o).length = 4 := rfl
theorem oqE_one (o : Oq) : (oqE o).all oneC = true := by simp [oqE, o.pv.2, o.ev.2]
def tkV (t : Tk) : Value := .agg #[t.vv.1, t.nv.1, t.gv.1, t.ov.1]
/-- An operator can be read. -/
structure OqR (w : World) (o : Oq) : Prop where
  pre : Vw w o.pv.1 faE o.pre
  effs : Vw w o.ev.1 efE o.effs
  cnd : ∀ e ∈ o.effs, Vw w e.wv.1 faE e.cnd
theorem OqR.kp {w w' : World} {o : Oq} (h : OqR w o) (k : Kp [] w w') : OqR w' o := ⟨h.pre.kp0 k, h.effs.kp0 k, fun e he => (h.cnd e he).kp0 k⟩
/-- A task can be read. -/
structure TkR (w : World) (t : Tk) : Prop where
  vars : Vw w t.vv.1 iE t.vars
  init : Vw w t.nv.1 iE t.init
  goal : Vw w t.gv.1 faE t.goal
  ops : Vw w t.ov.1 oqE t.ops
  op : ∀ o ∈ t.ops, OqR w o
theorem TkR.kp {w w' : World} {t : Tk} (h : TkR w t) (k : Kp [] w w') : TkR w' t := ⟨h.vars.kp0 k, h.init.kp0 k, h.goal.kp0 k, h.ops.kp0 k, fun o ho => (h.op o ho).kp k⟩
/-! ### The tests -/
/-- A fact is in range. -/
def inR (vars : List Int) (f : Fa) : Bool := decide (0 ≤ f.1) && decide (f.1 < vars.length) && decide (0 ≤ f.2) && decide (f.2 < vars.getD f.1.toNat 0)
def allR (n : Nat) (p : Nat → Bool) : Bool := (List.range n).all p
theorem allR_true {n : Nat} {p : Nat → Bool} (h : ∀ j, j < n → p j = true) : allR n p = true := by
  unfold allR; rw [List.all_eq_true]; exact fun j hj => h j (List.mem_range.1 hj)
theorem allR_false {n k : Nat} {p : Nat → Bool} (hk : k < n) (h : p k = false) : allR n p = false := by
  unfold allR; rw [List.all_eq_false]; exact ⟨k, List.mem_range.2 hk, by simp [h]⟩
theorem allR_at {n k : Nat} {p : Nat → Bool} (h : allR n p = true) (hk : k < n) : p k = true := by
  unfold allR at h; rw [List.all_eq_true] at h; exact h k (List.mem_range.2 hk)
theorem all_false {α : Type} {l : List α} {p : α → Bool} {x : α} (hx : x ∈ l) (h : p x = false) : l.all p = false := by
  rw [List.all_eq_false]; exact ⟨x, hx, by simp [h]⟩
/-- A list of facts is in range, and ascends. -/
def prAt (vars : List Int) (l : List Fa) (i : Nat) : Bool := inR vars (l.getD i (0, 0)) && (decide (i = 0) || decide ((l.getD (i - 1) (0, 0)).1 < (l.getD i (0, 0)).1))
def propF (vars : List Int) (l : List Fa) : Bool := allR l.length (prAt vars l)
def stAt (vars s : List Int) (i : Nat) : Bool := decide (0 ≤ s.getD i 0) && decide (s.getD i 0 < vars.getD i 0)
def stateB (vars s : List Int) : Bool := decide (s.length = vars.length) && allR s.length (stAt vars s)
def chB (b : ByteArray) (i : Nat) : Bool := decide (32 ≤ (b[i]?.getD 0).toNat) && decide ((b[i]?.getD 0).toNat ≤ 126)
def nameB (b : ByteArray) : Bool := decide (b.size ≤ 256) && allR b.size (chB b)
def effB (vars : List Int) (e : Ef) : Bool := propF vars e.cnd && inR vars (e.v, e.x)
def opB (vars : List Int) (o : Oq) : Bool := decide (0 ≤ o.cost) && decide (o.cost ≤ 1048576) && decide (o.effs.length ≤ 64) && nameB o.name && propF vars o.pre && o.effs.all (effB vars)
def varB (n : Int) : Bool := decide (1 ≤ n) && decide (n ≤ 64)
def goodB (t : Tk) : Bool := decide (t.vars.length ≤ 64) && decide (t.ops.length ≤ 4096) && t.vars.all varB && stateB t.vars t.init && propF t.vars t.goal && t.ops.all (opB t.vars)
/-- The number of states, at most one more than most. -/
def manyF (most : Nat) : Nat → List Int → Nat
  | n, [] => n
  | n, k :: l => if most < n * min k.toNat (most + 1) then most + 1 else manyF most (n * min k.toNat (most + 1)) l
def smallB (t : Tk) : Bool := decide (t.vars.length ≤ 12) && decide (t.ops.length ≤ 20) && (t.ops.all fun o => decide (o.effs.length ≤ 8)) && goodB t && decide (manyF 512 1 t.vars ≤ 512)
/-- Lists are no longer than a number can say. -/
structure TkL (t : Tk) : Prop where
  init : t.init.length ≤ 9223372036854775807
  goal : t.goal.length ≤ 9223372036854775807
  ops : t.ops.length ≤ 9223372036854775807
  vars : t.vars.length ≤ 9223372036854775807
  op : ∀ o ∈ t.ops, o.name.size ≤ 9223372036854775807 ∧ o.pre.length ≤ 9223372036854775807 ∧ o.effs.length ≤ 9223372036854775807 ∧ ∀ e ∈ o.effs, e.cnd.length ≤ 9223372036854775807
/-! ### The program's own check -/
def condsO (o : Oq) : List (Cell1 × List Fa) := (o.pv, o.pre) :: o.effs.map fun e => (e.wv, e.cnd)
def condsL (t : Tk) : List (Cell1 × List Fa) := (t.gv, t.goal) :: t.ops.flatMap condsO
def largeB (t : Tk) : Bool := !(decide (t.vars.length ≤ 64) && decide (t.ops.length ≤ 4096) && (t.ops.all fun o => decide (o.effs.length ≤ 64)) && (condsL t).all fun p => decide (p.2.length ≤ 64))
/-- The number of the first error. -/
def chkC (t : Tk) : Option Int :=
  if largeB t = true then some 5
  else if (t.vars.all varB) = false then some 1
  else if (t.ops.all fun o => decide (0 ≤ o.cost) && decide (o.cost ≤ 1048576)) = false then some 1
  else if stateB t.vars t.init = false then some 2
  else if ((condsL t).all fun p => propF t.vars p.2) = false then some 2
  else if (t.ops.all fun o => o.effs.all fun e => inR t.vars (e.v, e.x)) = false then some 2
  else if (t.ops.all fun o => nameB o.name) = false then some 8
  else none
end Go.Tk
end
section
set_option linter.unusedVariables false
set_option linter.unusedSimpArgs false
namespace Go.Tk
open Go Go.W
abbrev Fc := Nat × Nat
structure Nf where
  wv : Cell1
  cnd : List Fc
  v : Nat
  x : Nat
structure No where
  name : ByteArray
  cost : Nat
  pv : Cell1
  pre : List Fc
  ev : Cell1
  effs : List Nf
structure Nt where
  vv : Cell1
  nv : Cell1
  gv : Cell1
  ov : Cell1
  vars : List Nat
  init : List Nat
  goal : List Fc
  ops : List No
def iN (n : Nat) : Int := (n : Int)
def faN (f : Fc) : Fa := ((f.1 : Int), (f.2 : Int))
def Nf.raw (e : Nf) : Ef := ⟨e.wv, e.cnd.map faN, e.v, e.x⟩
def No.raw (o : No) : Oq := ⟨o.name, o.cost, o.pv, o.pre.map faN, o.ev, o.effs.map Nf.raw⟩
def Nt.raw (t : Nt) : Tk := ⟨t.vv, t.nv, t.gv, t.ov, t.vars.map iN, t.init.map iN, t.goal.map faN, t.ops.map No.raw⟩
def nE (n : Nat) : List Value := [.int .i64 (n : Nat)]
theorem nE_len (i : Nat) : (nE i).length = 1 := rfl
theorem nE_one (i : Nat) : (nE i).all oneC = true := rfl
def fcE (f : Fc) : List Value := [.int .i64 (f.1 : Nat), .int .i64 (f.2 : Nat)]
theorem fcE_len (f : Fc) : (fcE f).length = 2 := rfl
theorem fcE_one (f : Fc) : (fcE f).all oneC = true := rfl
def nfE (e : Nf) : List Value := [e.wv.1, .int .i64 (e.v : Nat), .int .i64 (e.x : Nat)]
theorem nfE_len (e : Nf) : (nfE e).length = 3 := rfl
theorem nfE_one (e : Nf) : (nfE e).all oneC = true := by simp [nfE, e.wv.2]
def noE (o : No) : List Value := [.string o.name, .int .i64 (o.cost : Nat), o.pv.1, o.ev.1]
theorem noE_len (o : No) : (noE o).length = 4 := rfl
theorem noE_one (o : No) : (noE o).all oneC = true := by simp [noE, o.pv.2, o.ev.2]
theorem Vw.mapped {α β : Type} {encα : α → List Value} {encβ : β → List Value} {f : β → α} {w : World} {v : Value} {l : List β} (he : ∀ b, encα (f b) = encβ b) : Vw w v encα (l.map f) ↔ Vw w v encβ l := by
  have e : (l.map f).flatMap encα = l.flatMap encβ := by
    induction l with
    | nil => rfl
    | cons b l ih => simp only [List.map_cons, List.flatMap_cons, ih, he]
  unfold Vw
  rw [e]
  simp
structure NoR (w : World) (o : No) : Prop where
  pre : Vw w o.pv.1 fcE o.pre
  effs : Vw w o.ev.1 nfE o.effs
  cnd : ∀ e ∈ o.effs, Vw w e.wv.1 fcE e.cnd
structure NtR (w : World) (t : Nt) : Prop where
  vars : Vw w t.vv.1 nE t.vars
  init : Vw w t.nv.1 nE t.init
  goal : Vw w t.gv.1 fcE t.goal
  ops : Vw w t.ov.1 noE t.ops
  op : ∀ o ∈ t.ops, NoR w o
theorem NoR.kp {w w' : World} {o : No} (h : NoR w o) (k : Kp [] w w') : NoR w' o := ⟨h.pre.kp0 k, h.effs.kp0 k, fun e he => (h.cnd e he).kp0 k⟩
theorem NtR.kp {w w' : World} {t : Nt} (h : NtR w t) (k : Kp [] w w') : NtR w' t := ⟨h.vars.kp0 k, h.init.kp0 k, h.goal.kp0 k, h.ops.kp0 k, fun o ho => (h.op o ho).kp k⟩
theorem vw_fc {w : World} {v : Value} {l : List Fc} : Vw w v faE (l.map faN) ↔ Vw w v fcE l := Vw.mapped fun b => rfl
theorem vw_n {w : World} {v : Value} {l : List Nat} : Vw w v iE (l.map iN) ↔ Vw w v nE l := Vw.mapped fun b => rfl
theorem NoR.raw {w : World} {o : No} : OqR w o.raw ↔ NoR w o := by
  constructor
  · rintro ⟨h1, h2, h3⟩
    exact ⟨vw_fc.1 h1, (Vw.mapped (f := Nf.raw) fun b => rfl).1 h2, fun e he => vw_fc.1 (h3 e.raw (List.mem_map.2 ⟨e, he, rfl⟩))⟩
  · rintro ⟨h1, h2, h3⟩
    refine ⟨vw_fc.2 h1, (Vw.mapped (f := Nf.raw) fun b => rfl).2 h2, fun e he => ?_⟩
    obtain ⟨e', he', rfl⟩ := List.mem_map.1 he
    exact vw_fc.2 (h3 e' he')
theorem NtR.raw {w : World} {t : Nt} : TkR w t.raw ↔ NtR w t := by
  constructor
  · rintro ⟨h1, h2, h3, h4, h5⟩
    exact ⟨vw_n.1 h1, vw_n.1 h2, vw_fc.1 h3, (Vw.mapped (f := No.raw) fun b => rfl).1 h4, fun o ho => NoR.raw.1 (h5 o.raw (List.mem_map.2 ⟨o, ho, rfl⟩))⟩
  · rintro ⟨h1, h2, h3, h4, h5⟩
    refine ⟨vw_n.2 h1, vw_n.2 h2, vw_fc.2 h3, (Vw.mapped (f := No.raw) fun b => rfl).2 h4, fun o ho => ?_⟩
    obtain ⟨o', ho', rfl⟩ := List.mem_map.1 ho
    exact NoR.raw.2 (h5 o' ho')
/-! ### Good tasks -/
structure FcOk (vars : List Nat) (l : List Fc) : Prop where
  rng : ∀ f ∈ l, f.1 < vars.length ∧ f.2 < vars.getD f.1 0
  asc : l.Pairwise fun a b => a.1 < b.1
structure NoG (vars : List Nat) (o : No) : Prop where
  cost : o.cost ≤ 1048576
  elen : o.effs.length ≤ 64
  pre : FcOk vars o.pre
  cnd : ∀ e ∈ o.effs, FcOk vars e.cnd
  eff : ∀ e ∈ o.effs, e.v < vars.length ∧ e.x < vars.getD e.v 0
structure NtG (t : Nt) : Prop where
  vlen : t.vars.length ≤ 64
  olen : t.ops.length ≤ 4096
  vars : ∀ n ∈ t.vars, 1 ≤ n ∧ n ≤ 64
  ilen : t.init.length = t.vars.length
  init : ∀ i, i < t.init.length → t.init.getD i 0 < t.vars.getD i 0
  goal : FcOk t.vars t.goal
  ops : ∀ o ∈ t.ops, NoG t.vars o
theorem asc_len : ∀ (l : List Nat) (N : Nat), l.Pairwise (· < ·) → (∀ x ∈ l, x < N) → l.length ≤ N
  | [], N, _, _ => by simp
  | [x], N, _, h => by have := h x (by simp); simp; omega
  | x :: y :: l, N, hp, h => by
    have hx := List.pairwise_cons.1 hp
    have := asc_len ((y :: l).map (· - 1)) (N - 1) ?_ ?_
    · have hy := h y (by simp)
      simp at this ⊢
      omega
    · rw [List.pairwise_map]
      refine List.Pairwise.imp_of_mem ?_ hx.2
      intro a b ha hb hab
      have := hx.1 a ha
      omega
    · intro z hz
      obtain ⟨a, ha, rfl⟩ := List.mem_map.1 hz
      have := hx.1 a ha
      have := h a (by simp [ha])
      omega
termination_by l => l.length
theorem FcOk.len {vars : List Nat} {l : List Fc} (h : FcOk vars l) : l.length ≤ vars.length := by
  have := asc_len (l.map (·.1)) vars.length (by rw [List.pairwise_map]; exact h.asc) (fun x hx => by
    obtain ⟨f, hf, rfl⟩ := List.mem_map.1 hx
    exact (h.rng f hf).1)
  simpa using this
theorem prop_asc {vars : List Int} {l : List Fa} (h : propF vars l = true) : (∀ f ∈ l, inR vars f = true) ∧ l.Pairwise fun a b => a.1 < b.1 := by
  have hat : ∀ i, i < l.length → inR vars (l.getD i (0, 0)) = true ∧ (0 < i → (l.getD (i - 1) (0, 0)).1 < (l.getD i (0, 0)).1) := fun i hi => by
    have := allR_at h hi
    unfold prAt at this
    simp only [Bool.and_eq_true, Bool.or_eq_true, decide_eq_true_eq] at this
    refine ⟨this.1, fun h0 => ?_⟩
    rcases this.2 with h2 | h2
    · omega
    · exact h2
  have get : ∀ i (hi : i < l.length), l.getD i (0, 0) = l[i] := fun i hi => by simp [List.getD, hi]
  refine ⟨fun f hf => ?_, ?_⟩
  · obtain ⟨i, hi, rfl⟩ := List.getElem_of_mem hf
    have := (hat i hi).1
    rwa [get i hi] at this
  · rw [List.pairwise_iff_getElem]
    intro i j hi hj hij
    have key : ∀ d i, i + d + 1 < l.length → (l.getD i (0, 0)).1 < (l.getD (i + d + 1) (0, 0)).1 := by
      intro d
      induction d with
      | zero => intro i hi; exact (hat (i + 1) (by omega)).2 (by omega)
      | succ d ih =>
        intro i hi
        have h1 := ih i (by omega)
        have h2 := (hat (i + (d + 1) + 1) (by omega)).2 (by omega)
        have e : i + (d + 1) + 1 - 1 = i + d + 1 := by omega
        rw [e] at h2
        omega
    have := key (j - i - 1) i (by omega)
    rw [show i + (j - i - 1) + 1 = j by omega, get i hi, get j hj] at this
    exact this
theorem fa_nat {vars : List Int} {nvars : List Nat} (hv : vars = nvars.map iN) {f : Fa} (h : inR vars f = true) : faN (f.1.toNat, f.2.toNat) = f ∧ f.1.toNat < nvars.length ∧ f.2.toNat < nvars.getD f.1.toNat 0 := by
  unfold inR at h
  simp only [Bool.and_eq_true, decide_eq_true_eq] at h
  obtain ⟨⟨⟨h1, h2⟩, h3⟩, h4⟩ := h
  subst hv
  have hl : f.1.toNat < nvars.length := by simp at h2; omega
  have e : (nvars.map iN).getD f.1.toNat 0 = (nvars.getD f.1.toNat 0 : Int) := by simp [List.getD, hl, iN]
  rw [e] at h4
  refine ⟨?_, hl, by omega⟩
  unfold faN
  exact Prod.ext (by simp; omega) (by simp; omega)
theorem prop_nat {vars : List Int} {nvars : List Nat} (hv : vars = nvars.map iN) {l : List Fa} (h : propF vars l = true) : ∃ m : List Fc, m.map faN = l ∧ FcOk nvars m := by
  obtain ⟨h1, h2⟩ := prop_asc h
  refine ⟨l.map fun f => (f.1.toNat, f.2.toNat), ?_, ?_, ?_⟩
  · rw [List.map_map]
    conv => rhs; rw [← List.map_id l]
    exact List.map_congr_left fun f hf => (fa_nat hv (h1 f hf)).1
  · intro g hg
    obtain ⟨f, hf, rfl⟩ := List.mem_map.1 hg
    exact (fa_nat hv (h1 f hf)).2
  · rw [List.pairwise_map]
    refine List.Pairwise.imp_of_mem ?_ h2
    intro a b ha hb hab
    have ea := congrArg Prod.fst (fa_nat hv (h1 a ha)).1
    have eb := congrArg Prod.fst (fa_nat hv (h1 b hb)).1
    simp only [faN] at ea eb
    show a.1.toNat < b.1.toNat
    omega
theorem list_nat {α β : Type} {f : β → α} {p : β → Prop} : ∀ {l : List α}, (∀ a ∈ l, ∃ b, f b = a ∧ p b) → ∃ m : List β, m.map f = l ∧ ∀ b ∈ m, p b
  | [], _ => ⟨[], rfl, by simp⟩
  | a :: l, h => by
    obtain ⟨b, hb, hp⟩ := h a (by simp)
    obtain ⟨m, hm, hpm⟩ := list_nat (l := l) fun a ha => h a (by simp [ha])
    refine ⟨b :: m, by simp [hb, hm], fun c hc => ?_⟩
    rcases List.mem_cons.1 hc with rfl | hc
    · exact hp
    · exact hpm c hc
theorem good_nat {t : Tk} (h : goodB t = true) : ∃ T : Nt, T.raw = t ∧ NtG T := by
  unfold goodB at h
  simp only [Bool.and_eq_true, decide_eq_true_eq] at h
  obtain ⟨⟨⟨⟨⟨h1, h2⟩, h3⟩, h4⟩, h5⟩, h6⟩ := h
  rw [List.all_eq_true] at h3 h6
  obtain ⟨nv, hnv, hnv2⟩ := list_nat (f := iN) (p := fun n => 1 ≤ n ∧ n ≤ 64) (l := t.vars) fun a ha => by
    have := h3 a ha
    simp [varB] at this
    exact ⟨a.toNat, by unfold iN; omega, by omega, by omega⟩
  unfold stateB at h4
  simp only [Bool.and_eq_true, decide_eq_true_eq] at h4
  obtain ⟨hil, hst⟩ := h4
  have hst2 : ∀ i, i < t.init.length → 0 ≤ t.init.getD i 0 ∧ t.init.getD i 0 < t.vars.getD i 0 := fun i hi => by
    have := allR_at hst hi
    simpa [stAt] using this
  obtain ⟨ni, hni, _⟩ := list_nat (f := iN) (p := fun _ => True) (l := t.init) fun a ha => by
    obtain ⟨i, hi, rfl⟩ := List.getElem_of_mem ha
    have := (hst2 i hi).1
    simp [List.getD, hi] at this
    exact ⟨t.init[i].toNat, by unfold iN; omega, trivial⟩
  obtain ⟨ng, hng, hgok⟩ := prop_nat hnv.symm h5
  obtain ⟨no, hno, hook⟩ := list_nat (f := No.raw) (p := NoG nv) (l := t.ops) fun o ho => by
    have := h6 o ho
    unfold opB at this
    simp only [Bool.and_eq_true, decide_eq_true_eq] at this
    obtain ⟨⟨⟨⟨⟨c1, c2⟩, c3⟩, c4⟩, c5⟩, c6⟩ := this
    rw [List.all_eq_true] at c6
    obtain ⟨np, hnp, hpok⟩ := prop_nat hnv.symm c5
    obtain ⟨ne, hne, heok⟩ := list_nat (f := Nf.raw) (p := fun e => FcOk nv e.cnd ∧ e.v < nv.length ∧ e.x < nv.getD e.v 0) (l := o.effs) fun e he => by
      have := c6 e he
      unfold effB at this
      simp only [Bool.and_eq_true] at this
      obtain ⟨d1, d2⟩ := this
      obtain ⟨nc, hnc, hcok⟩ := prop_nat hnv.symm d1
      obtain ⟨f1, f2, f3⟩ := fa_nat hnv.symm d2
      refine ⟨⟨e.wv, nc, e.v.toNat, e.x.toNat⟩, ?_, hcok, f2, f3⟩
      have q1 := congrArg Prod.fst f1
      have q2 := congrArg Prod.snd f1
      simp only [faN] at q1 q2
      unfold Nf.raw
      simp only [hnc]
      cases e
      simp only at q1 q2
      simp only [q1, q2]
    refine ⟨⟨o.name, o.cost.toNat, o.pv, np, o.ev, ne⟩, ?_, by simp; omega, ?_, hpok, fun e he => (heok e he).1, fun e he => (heok e he).2⟩
    · unfold No.raw
      simp only [hnp, hne]
      have : ((o.cost.toNat : Nat) : Int) = o.cost := by omega
      cases o
      simp only at this
      simp only [this]
    · show ne.length ≤ 64
      have := congrArg List.length hne
      simp at this; omega
  have hlv : nv.length = t.vars.length := by rw [← hnv]; simp
  have hlo : no.length = t.ops.length := by rw [← hno]; simp
  have hli : ni.length = t.init.length := by rw [← hni]; simp
  refine ⟨⟨t.vv, t.nv, t.gv, t.ov, nv, ni, ng, no⟩, ?_, by show nv.length ≤ 64; omega, by show no.length ≤ 4096; omega, hnv2, by show ni.length = nv.length; omega, fun i hi => ?_, hgok, hook⟩
  · unfold Nt.raw
    simp only [hnv, hni, hng, hno]
  · have hi : i < ni.length := hi
    have := (hst2 i (by omega)).2
    rw [← hnv, ← hni] at this
    have e1 : (ni.map iN).getD i 0 = (ni.getD i 0 : Int) := by simp [List.getD, hi, iN]
    have e2 : (nv.map iN).getD i 0 = (nv.getD i 0 : Int) := by simp [List.getD, show i < nv.length by omega, iN]
    rw [e1, e2] at this
    show ni.getD i 0 < nv.getD i 0
    omega
theorem tkV_raw (T : Nt) : tkV T.raw = .agg #[T.vv.1, T.nv.1, T.gv.1, T.ov.1] := rfl
end Go.Tk
end
section
set_option linter.unusedVariables false
set_option linter.unusedSimpArgs false
namespace Go.Tk
open Go Go.W
theorem prop_len {vars : List Int} {l : List Fa} (hv : ∀ n ∈ vars, 0 ≤ n) (h : propF vars l = true) : l.length ≤ vars.length := by
  have hn : vars = (vars.map Int.toNat).map iN := by
    rw [List.map_map]
    conv => lhs; rw [← List.map_id vars]
    exact List.map_congr_left fun n hn2 => by have := hv n hn2; simp [iN]; omega
  obtain ⟨m, hm, ok⟩ := prop_nat hn h
  have := ok.len
  have := congrArg List.length hm
  simp at *
  omega
theorem chk_good (t : Tk) : chkC t = none ↔ goodB t = true := by
  have hc : ∀ {vars : List Int}, vars.all varB = true → ∀ n ∈ vars, 0 ≤ n := fun h n hn => by
    have := List.all_eq_true.1 h n hn
    simp [varB] at this
    omega
  constructor
  · intro h
    unfold chkC at h
    split at h; · cases h
    rename_i e1
    split at h; · cases h
    rename_i e2
    split at h; · cases h
    rename_i e3
    split at h; · cases h
    rename_i e4
    split at h; · cases h
    rename_i e5
    split at h; · cases h
    rename_i e6
    split at h; · cases h
    rename_i e7
    simp only [Bool.not_eq_true, Bool.not_eq_false] at e1 e2 e3 e4 e5 e6 e7
    unfold largeB at e1
    simp only [Bool.not_eq_false', Bool.and_eq_true, decide_eq_true_eq] at e1
    obtain ⟨⟨⟨l1, l2⟩, l3⟩, l4⟩ := e1
    rw [List.all_eq_true] at l3 e3 e5 e6 e7
    have hg : propF t.vars t.goal = true := e5 (t.gv, t.goal) (by simp [condsL])
    have ho : t.ops.all (opB t.vars) = true := by
      rw [List.all_eq_true]
      intro o ho
      have a1 := e3 o ho
      have a2 := e7 o ho
      have a3 := l3 o ho
      have a4 : propF t.vars o.pre = true := e5 (o.pv, o.pre) (by
        unfold condsL
        exact List.mem_cons_of_mem _ (List.mem_flatMap.2 ⟨o, ho, by simp [condsO]⟩))
      have a5 : o.effs.all (effB t.vars) = true := by
        rw [List.all_eq_true]
        intro e he
        have b1 := List.all_eq_true.1 (e6 o ho) e he
        have b2 : propF t.vars e.cnd = true := e5 (e.wv, e.cnd) (by
          unfold condsL
          exact List.mem_cons_of_mem _ (List.mem_flatMap.2 ⟨o, ho, by
            unfold condsO
            exact List.mem_cons_of_mem _ (List.mem_map.2 ⟨e, he, rfl⟩)⟩))
        simp [effB, b1, b2]
      simp only [Bool.and_eq_true, decide_eq_true_eq] at a1 a3
      simp only [opB, a2, a4, a5, Bool.and_true, Bool.and_eq_true, decide_eq_true_eq]
      exact ⟨a1, a3⟩
    simp only [goodB, e2, e4, hg, ho, Bool.and_true, Bool.and_eq_true, decide_eq_true_eq]
    exact ⟨l1, l2⟩
  · intro h
    unfold goodB at h
    simp only [Bool.and_eq_true, decide_eq_true_eq] at h
    obtain ⟨⟨⟨⟨⟨h1, h2⟩, h3⟩, h4⟩, h5⟩, h6⟩ := h
    have h6' := List.all_eq_true.1 h6
    have hop : ∀ o ∈ t.ops, (0 ≤ o.cost ∧ o.cost ≤ 1048576) ∧ o.effs.length ≤ 64 ∧ nameB o.name = true ∧ propF t.vars o.pre = true ∧ ∀ e ∈ o.effs, propF t.vars e.cnd = true ∧ inR t.vars (e.v, e.x) = true := fun o ho => by
      have := h6' o ho
      unfold opB at this
      simp only [Bool.and_eq_true, decide_eq_true_eq, List.all_eq_true] at this
      obtain ⟨⟨⟨⟨⟨c1, c2⟩, c3⟩, c4⟩, c5⟩, c6⟩ := this
      refine ⟨⟨c1, c2⟩, c3, c4, c5, fun e he => ?_⟩
      have := c6 e he
      unfold effB at this
      simpa only [Bool.and_eq_true] using this
    have hcp : ∀ p ∈ condsL t, propF t.vars p.2 = true := fun p hp => by
      unfold condsL at hp
      rcases List.mem_cons.1 hp with rfl | hp
      · exact h5
      · obtain ⟨o, ho, hp⟩ := List.mem_flatMap.1 hp
        unfold condsO at hp
        rcases List.mem_cons.1 hp with rfl | hp
        · exact (hop o ho).2.2.2.1
        · obtain ⟨e, he, rfl⟩ := List.mem_map.1 hp
          exact ((hop o ho).2.2.2.2 e he).1
    have hl : largeB t = false := by
      unfold largeB
      simp only [Bool.not_eq_false', Bool.and_eq_true, decide_eq_true_eq, List.all_eq_true]
      exact ⟨⟨⟨h1, h2⟩, fun o ho => (hop o ho).2.1⟩, fun p hp => Nat.le_trans (prop_len (hc h3) (hcp p hp)) h1⟩
    have e3 : (t.ops.all fun o => decide (0 ≤ o.cost) && decide (o.cost ≤ 1048576)) = true := by
      rw [List.all_eq_true]
      intro o ho
      have := (hop o ho).1
      simp; omega
    have e5 : ((condsL t).all fun p => propF t.vars p.2) = true := by rw [List.all_eq_true]; exact hcp
    have e6 : (t.ops.all fun o => o.effs.all fun e => inR t.vars (e.v, e.x)) = true := by
      rw [List.all_eq_true]
      intro o ho
      rw [List.all_eq_true]
      exact fun e he => ((hop o ho).2.2.2.2 e he).2
    have e7 : (t.ops.all fun o => nameB o.name) = true := by
      rw [List.all_eq_true]
      exact fun o ho => (hop o ho).2.2.1
    unfold chkC
    rw [if_neg (by rw [hl]; simp), if_neg (by rw [h3]; simp), if_neg (by rw [e3]; simp), if_neg (by rw [h4]; simp), if_neg (by rw [e5]; simp), if_neg (by rw [e6]; simp), if_neg (by rw [e7]; simp)]
/-- A good task's lists are short. -/
theorem NtG.lens {T : Nt} (h : NtG T) (hn : ∀ o ∈ T.ops, o.name.size ≤ 9223372036854775807) : TkL T.raw := by
  have hg := h.goal.len
  refine ⟨by simp [Nt.raw]; have := h.ilen; have := h.vlen; omega, by simp [Nt.raw]; have := h.vlen; omega, by simp [Nt.raw]; have := h.olen; omega, by simp [Nt.raw]; have := h.vlen; omega, fun o ho => ?_⟩
  obtain ⟨o', ho', rfl⟩ := List.mem_map.1 ho
  have g := h.ops o' ho'
  have := g.pre.len
  have := h.vlen
  have := g.elen
  refine ⟨hn o' ho', by simp [No.raw]; omega, by simp [No.raw]; omega, fun e he => ?_⟩
  obtain ⟨e', he', rfl⟩ := List.mem_map.1 he
  have := (g.cnd e' he').len
  simp [Nf.raw]; omega
end Go.Tk
end
