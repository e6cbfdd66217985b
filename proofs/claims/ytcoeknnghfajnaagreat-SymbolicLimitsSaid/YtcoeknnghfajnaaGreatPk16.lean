/-
  A part of the proof of this claim's statement (SyPlain, SyRel, BdW1, BdW2): plain theorems; no conditions beyond those each names.
-/
import Derived.Test.YtcoeknnghfajnaaGreatPk15
import Derived.Test.YtcoeknnghfajnaaGreatPk14
import Derived.Test.YtcoeknnghfajnaaGreatPk08
import Derived.Test.YtcoeknnghfajnaaGreatPk07
section
set_option linter.unusedVariables false
set_option linter.unusedSimpArgs false
namespace Go.Sy
/-- A number by its nBits, the most significant one first. -/
def valK (g : Nat → Bool) : Nat → Nat
  | 0 => 0
  | k + 1 => 2 * valK g k + (if g k = true then 1 else 0)
theorem valK_lt (g : Nat → Bool) : ∀ w, valK g w < 2 ^ w
  | 0 => by simp [valK]
  | w + 1 => by
    have := valK_lt g w
    unfold valK
    rw [Nat.pow_succ]
    split <;> omega
theorem valK_congr {g h : Nat → Bool} : ∀ w, (∀ k, k < w → g k = h k) → valK g w = valK h w
  | 0, _ => rfl
  | w + 1, e => by
    unfold valK
    rw [valK_congr w fun k hk => e k (by omega), e w (by omega)]
theorem valK_eq {g : Nat → Bool} : ∀ (w x : Nat), x < 2 ^ w → ((∀ k, k < w → g k = x.testBit (w - 1 - k)) ↔ valK g w = x)
  | 0, x, h => by
    have : x = 0 := by simpa using h
    subst this
    simp [valK]
  | w + 1, x, h => by
    rw [Nat.pow_succ] at h
    have ih := valK_eq (g := g) w (x / 2) (by omega)
    have e : ∀ k, k < w → x.testBit (w + 1 - 1 - k) = (x / 2).testBit (w - 1 - k) := fun k hk => by
      rw [show w + 1 - 1 - k = (w - 1 - k) + 1 by omega, Nat.testBit_succ]
    have e0 : x.testBit (w + 1 - 1 - w) = decide (x % 2 = 1) := by
      rw [show w + 1 - 1 - w = 0 by omega, Nat.testBit_zero]
    constructor
    · intro h1
      have h2 := ih.1 fun k hk => by rw [h1 k (by omega), e k hk]
      have h3 := h1 w (by omega)
      rw [e0] at h3
      unfold valK
      rw [h2, h3]
      by_cases hx : x % 2 = 1
      · simp [hx]; omega
      · simp [hx]; omega
    · intro h1 k hk
      unfold valK at h1
      have hb : (if g w = true then 1 else 0 : Nat) ≤ 1 := by split <;> omega
      have h2 : valK g w = x / 2 := by omega
      by_cases hkw : k < w
      · rw [e k hkw]
        exact ih.2 h2 k hkw
      · have : k = w := by omega
        subst this
        rw [e0]
        cases hg : g k with
        | true =>
          rw [hg] at h1
          simp at h1
          symm
          rw [decide_eq_true_iff]
          omega
        | false =>
          rw [hg] at h1
          simp at h1
          symm
          rw [decide_eq_false_iff_not]
          omega
theorem valK_bits {w x : Nat} (h : x < 2 ^ w) : valK (fun k => x.testBit (w - 1 - k)) w = x := (valK_eq w x h).1 fun k _ => rfl
/-- The nBits of a variable of n values. -/
def wd (n : Nat) : Nat := if n ≤ 1 then 0 else if n ≤ 2 then 1 else if n ≤ 4 then 2 else if n ≤ 8 then 3 else if n ≤ 16 then 4 else if n ≤ 32 then 5 else 6
theorem wd_le (n : Nat) : wd n ≤ 6 := by unfold wd; (repeat' split) <;> omega
theorem wd_ge {n : Nat} (h : n ≤ 64) : n ≤ 2 ^ wd n := by
  unfold wd
  (repeat' split) <;> simp <;> omega
theorem wd_lt {n w : Nat} (h : w < wd n) : 2 ^ w < n := by
  unfold wd at h
  have key : w = 0 ∨ w = 1 ∨ w = 2 ∨ w = 3 ∨ w = 4 ∨ w = 5 := by
    (repeat' split at h) <;> omega
  rcases key with rfl | rfl | rfl | rfl | rfl | rfl <;> simp <;> (repeat' split at h) <;> omega
theorem wd_loop {n w : Nat} (h : n ≤ 64) (hw : w ≤ wd n) : 2 ^ w < n ↔ w < wd n := by
  refine ⟨fun h1 => ?_, wd_lt⟩
  apply Nat.lt_of_le_of_ne hw
  intro e
  subst e
  have := wd_ge h
  omega
/-- The first bit of a variable. -/
def bP (vars : List Nat) (v : Nat) : Nat := ((vars.take v).map wd).sum
def nBits (vars : List Nat) : Nat := (vars.map wd).sum
theorem bP_succ {vars : List Nat} {v n : Nat} (h : vars[v]? = some n) : bP vars (v + 1) = bP vars v + wd n := by
  unfold bP
  rw [List.take_add_one, h, List.map_append, List.sum_append]
  simp
theorem bP_all (vars : List Nat) : bP vars vars.length = nBits vars := by unfold bP nBits; rw [List.take_length]
theorem bP_mono {vars : List Nat} {u v : Nat} (h : u ≤ v) : bP vars u ≤ bP vars v := by
  have e : vars.take u = (vars.take v).take u := by rw [List.take_take, Nat.min_eq_left h]
  unfold bP
  rw [e]
  have : ∀ (l : List Nat) (k : Nat), ((l.take k).map wd).sum ≤ (l.map wd).sum := fun l k => by
    conv => rhs; rw [← List.take_append_drop k l, List.map_append, List.sum_append]
    omega
  exact this _ _
theorem bP_in {vars : List Nat} {v n k : Nat} (h : vars[v]? = some n) (hk : k < wd n) : bP vars v + k < nBits vars := by
  have h1 := bP_succ h
  have h2 := (List.getElem?_eq_some_iff.1 h).1
  have h3 := bP_mono (vars := vars) (show v + 1 ≤ vars.length by omega)
  rw [bP_all] at h3
  omega
theorem nBits_le (vars : List Nat) : nBits vars ≤ 6 * vars.length := by
  unfold nBits
  induction vars with
  | nil => simp
  | cons n l ih =>
    have := wd_le n
    simp only [List.map_cons, List.sum_cons, List.length_cons]
    omega
/-- The variable of a bit. -/
def vOf : List Nat → Nat → Nat
  | [], _ => 0
  | n :: l, p => if p < wd n then 0 else vOf l (p - wd n) + 1
theorem vOf_at : ∀ {vars : List Nat} {v n k : Nat}, vars[v]? = some n → k < wd n → vOf vars (bP vars v + k) = v
  | [], v, n, k, h, _ => by simp at h
  | m :: l, 0, n, k, h, hk => by
    simp at h
    subst h
    unfold vOf bP
    simp [hk]
  | m :: l, v + 1, n, k, h, hk => by
    have h : l[v]? = some n := by simpa using h
    have e : bP (m :: l) (v + 1) = wd m + bP l v := by unfold bP; simp
    unfold vOf
    rw [e, if_neg (by omega), show wd m + bP l v + k - wd m = bP l v + k by omega, vOf_at h hk]
/-- The value of a variable, in a state (0) or its successor (1), by an assignment of the nBits. -/
def rv (vars : List Nat) (a : Nat → Bool) (nx v : Nat) : Nat := valK (fun k => a (2 * (bP vars v + k) + nx)) (wd (vars.getD v 0))
theorem rv_lt (vars : List Nat) (a : Nat → Bool) (nx v : Nat) : rv vars a nx v < 2 ^ wd (vars.getD v 0) := valK_lt _ _
def rs (vars : List Nat) (a : Nat → Bool) (nx : Nat) : List Nat := (List.range vars.length).map (rv vars a nx)
theorem rs_len (vars : List Nat) (a : Nat → Bool) (nx : Nat) : (rs vars a nx).length = vars.length := by simp [rs]
theorem rs_at {vars : List Nat} {a : Nat → Bool} {nx v : Nat} (h : v < vars.length) : (rs vars a nx).getD v 0 = rv vars a nx v := by simp [rs, List.getD, h]
/-- An assignment with given values. -/
def mk2 (vars : List Nat) (x y : List Nat) (i : Nat) : Bool :=
  let v := vOf vars (i / 2)
  ((if i % 2 = 0 then x else y).getD v 0).testBit (wd (vars.getD v 0) - 1 - (i / 2 - bP vars v))
theorem mk2_at {vars x y : List Nat} {v n k nx : Nat} (h : vars[v]? = some n) (hk : k < wd n) (hn : nx < 2) : mk2 vars x y (2 * (bP vars v + k) + nx) = ((if nx = 0 then x else y).getD v 0).testBit (wd n - 1 - k) := by
  have e1 : (2 * (bP vars v + k) + nx) / 2 = bP vars v + k := by omega
  have e2 : (2 * (bP vars v + k) + nx) % 2 = nx := by omega
  have e3 : vars.getD v 0 = n := by simp [List.getD, h]
  unfold mk2
  simp only [e1, e2, vOf_at h hk, e3]
  rw [show bP vars v + k - bP vars v = k by omega]
theorem rv_mk2 {vars x y : List Nat} {v nx : Nat} (hv : v < vars.length) (hn : nx < 2) (hx : (if nx = 0 then x else y).getD v 0 < 2 ^ wd (vars.getD v 0)) : rv vars (mk2 vars x y) nx v = (if nx = 0 then x else y).getD v 0 := by
  obtain ⟨n, h⟩ : ∃ n, vars[v]? = some n := ⟨_, List.getElem?_eq_getElem hv⟩
  have e3 : vars.getD v 0 = n := by simp [List.getD, h]
  rw [e3] at hx
  unfold rv
  rw [e3]
  rw [valK_congr _ fun k hk => mk2_at h hk hn]
  exact valK_bits hx
end Go.Sy
end
section
set_option maxRecDepth 100000
set_option linter.unusedSimpArgs false
set_option linter.unusedVariables false
namespace Go.Proofs.YtcoeknnghfajnaaGreat
open Go Go.W Go.Tk Go.Rx Go.Sy Go.Maps
/-- The bits of the state are those of values. -/
def okB (vars : List Nat) (a : Nat → Bool) : Bool := (List.range vars.length).all fun v => decide (rv vars a 0 v < vars.getD v 0)
theorem okB_iff {vars : List Nat} {a : Nat → Bool} : okB vars a = true ↔ StN vars (rs vars a 0) := by
  unfold okB
  rw [List.all_eq_true]
  constructor
  · intro h
    refine ⟨rs_len _ _ _, fun v hv => ?_⟩
    rw [rs_at hv]
    have := h v (List.mem_range.2 hv)
    simpa using this
  · intro h v hv
    have hv := List.mem_range.1 hv
    have := h.rng v hv
    rw [rs_at hv] at this
    simpa using this
/-- The last effect on a variable that happens, from an index on. -/
def lastE (o : No) (s : List Nat) (v : Nat) : Nat → Nat → Option Nat
  | 0, _ => none
  | d + 1, i => match lastE o s v d (i + 1) with
    | some z => some z
    | none => match o.effs[i]? with
      | some e => if e.v = v ∧ hdB s e.cnd = true then some e.x else none
      | none => none
theorem lastE_succ (o : No) (s : List Nat) (v d i : Nat) : lastE o s v (d + 1) i = (match lastE o s v d (i + 1) with
    | some z => some z
    | none => match o.effs[i]? with
      | some e => if e.v = v ∧ hdB s e.cnd = true then some e.x else none
      | none => none) := rfl
theorem gD_same {d : List Nat} {i x : Nat} (h : i < d.length) : (d.set i x).getD i 0 = x := by simp [List.getD, List.getElem?_set_self h]
theorem gD_ne {d : List Nat} {i j x : Nat} (h : i ≠ j) : (d.set i x).getD j 0 = d.getD j 0 := by simp only [List.getD, List.getElem?_set_ne h]
theorem lastE_ap {o : No} {s : List Nat} {v : Nat} (hv : v < s.length) : ∀ d i, i + d = o.effs.length → (apS o s).getD v 0 = (lastE o s v d i).getD ((apK o s i).getD v 0)
  | 0, i, h => by
    have : i = o.effs.length := by omega
    subst this
    rfl
  | d + 1, i, h => by
    rw [lastE_ap hv d (i + 1) (by omega)]
    obtain ⟨e, he⟩ : ∃ e, o.effs[i]? = some e := ⟨_, List.getElem?_eq_getElem (by omega)⟩
    rw [lastE_succ]
    cases hl : lastE o s v d (i + 1) with
    | some z => rfl
    | none =>
      rw [he]
      simp only [Option.getD_none]
      rw [apK_succ he]
      by_cases hc : hdB s e.cnd = true
      · by_cases hev : e.v = v
        · subst hev
          rw [if_pos hc, if_pos ⟨rfl, hc⟩]
          rw [gD_same (by rw [apK_len]; exact hv)]
          rfl
        · rw [if_pos hc, if_neg (fun h => hev h.1), gD_ne hev]
          rfl
      · rw [if_neg hc, if_neg (fun h => hc h.2)]
        rfl
/-- The value of a variable in the successor. -/
def chgV (o : No) (s : List Nat) (v : Nat) : Nat := (lastE o s v o.effs.length 0).getD (s.getD v 0)
theorem chg_ap {o : No} {s : List Nat} {v : Nat} (hv : v < s.length) : (apS o s).getD v 0 = chgV o s v := by
  rw [lastE_ap hv o.effs.length 0 (by omega)]
  rfl
/-- The relation of an operator. -/
def relB (T : Nt) (o : No) (a : Nat → Bool) : Bool := hdB (rs T.vars a 0) o.pre && decide (rs T.vars a 1 = apS o (rs T.vars a 0))
def relV (T : Nt) (o : No) (v : Nat) (a : Nat → Bool) : Bool := decide (rv T.vars a 1 v = chgV o (rs T.vars a 0) v)
theorem ext_getD {l l' : List Nat} (h : l.length = l'.length) (hh : ∀ v, v < l.length → l.getD v 0 = l'.getD v 0) : l = l' := by
  apply List.ext_getElem h
  intro i h1 h2
  have := hh i h1
  simpa [List.getD, h1, h2] using this
theorem rel_all {T : Nt} {o : No} {a : Nat → Bool} : (∀ v, v < T.vars.length → relV T o v a = true) ↔ rs T.vars a 1 = apS o (rs T.vars a 0) := by
  have hl : (apS o (rs T.vars a 0)).length = T.vars.length := by unfold apS; rw [apK_len, rs_len]
  constructor
  · intro h
    refine ext_getD (by rw [rs_len, hl]) fun v hv => ?_
    rw [rs_len] at hv
    have := h v hv
    unfold relV at this
    rw [rs_at hv, chg_ap (by rw [rs_len]; exact hv)]
    simpa using this
  · intro h v hv
    unfold relV
    rw [decide_eq_true_iff, ← chg_ap (by rw [rs_len]; exact hv), ← h, rs_at hv]
/-- The successors. -/
def imgP (T : Nt) (o : No) (P : List Nat → Bool) (s : List Nat) : Bool := (stsK T.vars T.vars.length).any fun x => P x && hdB x o.pre && decide (apS o x = s)
def preP (o : No) (P : List Nat → Bool) (s : List Nat) : Bool := hdB s o.pre && P (apS o s)
theorem sts_mem {vars s : List Nat} : s ∈ stsK vars vars.length ↔ StN vars s := by
  refine ⟨sts_st, fun h => ?_⟩
  have key : ∀ k, k ≤ vars.length → s.take k ∈ stsK vars k := by
    intro k hk
    induction k with
    | zero => simp [stsK]
    | succ k ih =>
      unfold stsK
      refine List.mem_flatMap.2 ⟨_, ih (by omega), ?_⟩
      unfold extS
      have hks : k < s.length := by rw [h.len]; omega
      refine List.mem_map.2 ⟨s.getD k 0, List.mem_range.2 (h.rng k (by omega)), ?_⟩
      rw [List.take_add_one, List.getElem?_eq_getElem hks]
      simp [List.getD, List.getElem?_eq_getElem hks]
  have := key _ (Nat.le_refl _)
  rwa [List.take_of_length_le (by rw [h.len]; exact Nat.le_refl _)] at this
/-- Where a state has been kept. -/
theorem rs_mk2 {vars x y : List Nat} (h64 : ∀ n ∈ vars, n ≤ 64) (hx : StN vars x) : rs vars (mk2 vars x y) 0 = x := by
  refine ext_getD (by rw [rs_len, hx.len]) fun v hv => ?_
  rw [rs_len] at hv
  have hm : vars.getD v 0 ∈ vars := by simp [List.getD, List.getElem?_eq_getElem hv]
  have h1 := hx.rng v hv
  have h2 := wd_ge (h64 _ hm)
  rw [rs_at hv, rv_mk2 (nx := 0) hv (by omega) (by simp only [if_true]; omega)]
  rfl
end Go.Proofs.YtcoeknnghfajnaaGreat
end
section
set_option maxRecDepth 100000
set_option linter.unusedSimpArgs false
set_option linter.unusedVariables false
namespace Go.Proofs.YtcoeknnghfajnaaGreat
open Go Go.W Go.Bd Go.Maps
theorem blaidOut : laidOutB Tryz.prog = true := by kernel_rfl
def en (d : Nd) : List Value := ints [d.v, d.low, d.high]
theorem bn_len (d : Nd) : (en d).length = 3 := rfl
theorem en_one (d : Nd) : (en d).all oneC = true := rfl
def ndV (d : Nd) : Value := .agg (en d).toArray
def nd_ok (d : Nd) : Prop := ∀ x ∈ [d.v, d.low, d.high], i64ok x
theorem keyN : KeyEnc Tryz.prog 125 ndV nd_ok := {
  keyed := Keyed.of_law (deep_law_laid blaidOut (m := 5) (by omega) (of_decide_eq_true (by kernel_rfl)) (by kernel_rfl) (by kernel_rfl))
  lit := fun d hd => key_struct Tryz.underlying125 (by kernel_rfl) (by intro f hf; simp at hf; rcases hf with rfl | rfl | rfl <;> kernel_rfl) (by kernel_rfl) (by kernel_rfl) (m := Tryz.prog.types.size - 1) (by kernel_rfl) rfl hd
  inj := fun x y h => by
    have := ints_inj h
    cases x; cases y; simp at this; simp [this] }
def natV (k : Nat) : Value := .int .i64 (k : Int)
/-- The index of the nodes. -/
def idx (ns : Ns) : List (Nd × Nat) := ns.zipIdx.map fun p => (p.1, p.2 + 2)
theorem idx_snoc (ns : Ns) (d : Nd) : idx (ns ++ [d]) = idx ns ++ [(d, ns.length + 2)] := by simp [idx, List.zipIdx_append]
theorem idx_len (ns : Ns) : (idx ns).length = ns.length := by simp [idx]
theorem getM_idx (ns : Ns) (d : Nd) : getM (idx ns) d = (ns.findIdx? fun x => decide (x = d)).map (· + 2) := by
  have key : ∀ (l : Ns) (o : Nat), (((l.zipIdx o).map fun p => (p.1, p.2 + 2)).find? fun p => decide (p.1 = d)).map (·.2) = (l.findIdx? fun x => decide (x = d)).map (· + o + 2) := by
    intro l
    induction l with
    | nil => intro o; rfl
    | cons x l ih =>
      intro o
      rw [List.zipIdx_cons, List.map_cons, List.findIdx?_cons]
      by_cases hx : x = d
      · simp [hx]
      · rw [List.find?_cons_of_neg (by simpa using hx), ih (o + 1)]
        simp only [hx, decide_false, Bool.false_eq_true, if_false, Option.map_map]
        congr 1
        funext k; simp only [Function.comp]; omega
  exact key ns 0
def mgrO (n lim : Nat) (nv : Value) (b : Nat) : Obj := .cells #[.int .i64 n, .int .i64 lim, nv, .map (some b)] 120 (0, 0)
/-- A manager at m. -/
def MgrA (m n lim : Nat) (ns : Ns) : Asr := ExA fun q : Value × Nat => Star (ObjA m (mgrO n lim q.1 q.2)) (Star (OwnA q.1 125 3 en ns) (MapA q.2 ndV natV nd_ok (idx ns)))
theorem Lcl.mgr {m n lim : Nat} {ns : Ns} : Lcl (MgrA m n lim ns) := Lcl.ex fun _ => Lcl.star Lcl.obj (Lcl.star Lcl.own Lcl.map)
section
variable {w w1 : World} {F : List Nat} {B : Asr} {m n lim : Nat} {ns : Ns}
theorem MgrA.opn (h : At w F (Star (MgrA m n lim ns) B) w1) : ∃ nv b, At w F (Star (ObjA m (mgrO n lim nv b)) (Star (OwnA nv 125 3 en ns) (Star (MapA b ndV natV nd_ok (idx ns)) B))) w1 := by
  obtain ⟨⟨nv, b⟩, h⟩ := h.ex_open
  exact ⟨nv, b, h.assoc.rot.assoc.rot3⟩
theorem MgrA.cls {nv : Value} {b : Nat} (h : At w F (Star (ObjA m (mgrO n lim nv b)) (Star (OwnA nv 125 3 en ns) (Star (MapA b ndV natV nd_ok (idx ns)) B))) w1) : At w F (Star (MgrA m n lim ns) B) w1 :=
  At.ex_close (x := (nv, b)) h.rot.rot3.rot.assoc'.rot.assoc'
/-- What a reader needs of a manager. -/
structure MgrF (w : World) (m n lim : Nat) (ns : Ns) : Prop where
  ex : ∃ nv b, w.heap[m]? = some (mgrO n lim nv b) ∧ Own w nv 125 3 en ns ∧ MapM w b ndV natV nd_ok (idx ns)
theorem MgrF.kp0 {w' : World} (h : MgrF w m n lim ns) (hk : Kp [] w w') : MgrF w' m n lim ns := by
  obtain ⟨nv, b, h1, h2, h3⟩ := h
  exact ⟨nv, b, hk.blk h1 (by simp), h2.kp hk (by simp), h3.kp hk (by simp)⟩
theorem MgrA.rd (h : At w F (Star (MgrA m n lim ns) B) w1) : MgrF w1 m n lim ns := by
  obtain ⟨nv, b, h⟩ := MgrA.opn h
  exact ⟨nv, b, h.obj, h.drop.own, h.drop.drop.map⟩
end
/-- Sizes. -/
structure Bnd (n lim : Nat) (ns : Ns) : Prop where
  hn : n ≤ 256
  hl : lim ≤ 1048576
  hs : ns.length ≤ lim
theorem at_spec (m n lim f : Nat) (ns : Ns) (w : World) (h : MgrF w m n lim ns) (hb : Bnd n lim ns) (hf : Ref ns f) :
    Calls Tryz.prog 78 [.pointer (some ⟨m, 0, none⟩), .int .i64 (f : Nat)].toArray w fun e w' => ∃ v, e = .returned v ∧ v = ndV (at_ n ns f) ∧ Kp [] w w' := by
  obtain ⟨hbn, hbl, hbs⟩ := hb
  obtain ⟨nv, b, ho, hown, hmap⟩ := h
  have hf' : f < ns.length + 2 := hf
  refine enter Tryz.func78 mixed low78 (Nat.le_of_ble_eq_true rfl) ?_
  simp only [L78]
  have ka : Kp [] w (w.alloc (.cells #[.int .i64 0, .int .i64 0, .int .i64 0] 125)) := (Kp.refl _ _).alloc _
  have ho' := ka.blk ho (by simp)
  have hown' := hown.kp ka (by simp)
  unfold mgrO at ho'
  rcases Nat.lt_or_ge f 2 with h2 | h2
  · have h2' : (f : Int) < 2 := by omega
    simp [h2', cell_blk ho']
    refine st_obj alloc_new (by simp) (by simp) ?_
    intro w2 hk2 hs2 hb2
    simp
    refine postL_c1 (g := w.heap.size) (n := 3) ag_125 (by simp) (by simpa using hb2) rfl rfl ?_
    refine ⟨_, rfl, ?_, ka.trans' hk2 (fun x hx => .inr (by simp at hx; omega))⟩
    rw [at_lt h2]; rfl
  · have h2' : ¬ (f : Int) < 2 := by omega
    have hlt : f - 2 < ns.length := by omega
    have hi : ((f : Int) - 2) = ((f - 2 : Nat) : Int) := by omega
    have hget : ns[f - 2]? = some (at_ n ns f) := by rw [at_ge h2 hf]; exact List.getElem?_eq_getElem _
    simp (disch := omega) [h2', cell_blk ho', wrap_i64]
    rw [hi]
    simp (disch := omega) [hown'.idx, hown'.cells bn_len hget, bn_len]
    refine st_obj alloc_new (by simp [en, ints]) (by simp [en, ints]) ?_
    intro w2 hk2 hs2 hb2
    simp
    refine postL_c1 (g := w.heap.size) (n := 3) ag_125 (by simp) (by simpa [en, ints] using hb2) rfl rfl ?_
    exact ⟨_, rfl, rfl, ka.trans' hk2 (fun x hx => .inr (by simp at hx; omega))⟩
end Go.Proofs.YtcoeknnghfajnaaGreat
end
section
set_option maxRecDepth 100000
set_option linter.unusedSimpArgs false
set_option linter.unusedVariables false
namespace Go.Proofs.YtcoeknnghfajnaaGreat
open Go Go.W Go.Bd Go.Maps
def berrV (c : Int) : Value := .iface 39 (.int .i64 c)
/-- A reference, or an error. -/
def okV (x : Nat) : Value := .tuple #[.int .i64 (x : Int), .nilIface]
def bnoV (c : Int) : Value := .tuple #[.int .i64 0, berrV c]
def optV : Option Nat → Value
  | some x => okV x
  | none => bnoV 10
theorem kindex : Tryz.prog.underlying 117 = some (.map 125 3) := Tryz.underlying117
theorem zint (w : World) : (zeroValue 3).run Tryz.prog w = .ok (.int .i64 0) w := Tryz.zeroValue3 w
theorem make_spec {w w1 : World} {F : List Nat} {B : Asr} (m n lim : Nat) (ns : Ns) (v l h : Nat) (hB : Lcl B) (hA : At w F (Star (MgrA m n lim ns) B) w1) (hb : Bnd n lim ns) (hv : v ≤ 1000000) (hl : l ≤ 2000000) (hh : h ≤ 2000000) :
    Calls Tryz.prog 89 [.pointer (some ⟨m, 0, none⟩), .int .i64 (v : Nat), .int .i64 (l : Nat), .int .i64 (h : Nat)].toArray w1 fun e w' => ∃ x, e = .returned x ∧ x = optV (mkF lim ns v l h).1 ∧ At w F (Star (MgrA m n lim (mkF lim ns v l h).2) B) w' := by
  obtain ⟨hbn, hbl, hbs⟩ := hb
  refine enter Tryz.func89 mixed low89 (Nat.le_of_ble_eq_true rfl) ?_
  simp only [L89]
  by_cases hlh : l = h
  · subst hlh
    simp
    exact ⟨by simp [mkF, optV, okV], by simpa [mkF] using hA⟩
  have hlh' : ((l : Int) == h) = false := by rw [beq_eq_false_iff_ne]; omega
  simp [hlh', hlh]
  have hlm : Lcl (MgrA m n lim ns) := Lcl.mgr
  have h0 := hA.alloc (.cells #[.int .i64 0, .int .i64 0, .int .i64 0] 125) (hlm.star hB)
  refine h0.st (hlm.star hB) (by simp) (by simp) fun w2 h2 => ?_
  obtain ⟨t, ht⟩ : ∃ t, t = w1.heap.size := ⟨_, rfl⟩
  rw [← ht] at h2 ⊢
  have hLl := Lcl.obj.star (hlm.star hB) (A := ObjA t (.cells (wrAt #[.int .i64 0, .int .i64 0, .int .i64 0] 0 [.int .i64 (v : Nat), .int .i64 (l : Nat), .int .i64 (h : Nat)]) 125 (0, 0)))
  have ht2 := h2.obj
  simp at ht2
  obtain ⟨nv, b, h5⟩ := MgrA.opn h2.rot
  have ho := h5.obj
  have hown := h5.drop.own
  have hmap := h5.drop.drop.map
  have hmapd : MapM w2.drew b ndV natV nd_ok (idx ns) := hmap
  have hok : nd_ok ⟨v, l, h⟩ := by
    intro x hx
    simp at hx
    unfold i64ok
    rcases hx with rfl | rfl | rfl <;> omega
  unfold mgrO at ho
  simp [cell_blk ho, cell_blk ht2]
  have hcs : cellsAt w2 ⟨t, 0, none⟩ 0 3 = some (en ⟨v, l, h⟩) := by
    simp [cellsAt, Addr.add, cell_blk ht2, en, ints]
  simp [hcs]
  refine hmapd.look2 (x := (⟨v, l, h⟩ : Nd)) keyN kindex zint hok ?_
  have hgi := getM_idx ns ⟨v, l, h⟩
  cases hf : ns.findIdx? fun x => decide (x = (⟨v, l, h⟩ : Nd)) with
  | some k =>
    rw [hf] at hgi
    simp only [Option.map_some] at hgi
    have hm : mkF lim ns v l h = (some (k + 2), ns) := by simp [mkF, hlh, hf]
    simp [hgi, natV]
    rw [hm]
    exact ⟨by simp [optV, okV], (h2.drew hLl).drop⟩
  | none =>
  rw [hf] at hgi
  simp only [Option.map_none] at hgi
  simp [hgi, cell_blk ho, hown.len]
  by_cases hlim : lim ≤ ns.length
  · have hlim' : (lim : Int) ≤ ns.length := by omega
    have hm : mkF lim ns v l h = (none, ns) := by simp [mkF, hlh, hf, hlim]
    simp [hlim, hlim']
    rw [hm]
    exact ⟨by simp [optV, bnoV, berrV], ((h2.drew hLl).drew hLl).drop⟩
  have hlim' : ¬ (lim : Int) ≤ ns.length := by omega
  have hm : mkF lim ns v l h = (some (ns.length + 2), ns ++ [⟨v, l, h⟩]) := by simp [mkF, hlh, hf, hlim]
  have h4 := ((h2.drew hLl).drew hLl).drew hLl
  have hL5 : Lcl (Star (ObjA m (mgrO n lim nv b)) (Star (OwnA nv 125 3 en ns) (Star (MapA b ndV natV nd_ok (idx ns)) (Star (ObjA t (.cells (wrAt #[.int .i64 0, .int .i64 0, .int .i64 0] 0 [.int .i64 (v : Nat), .int .i64 (l : Nat), .int .i64 (h : Nat)]) 125 (0, 0))) B)))) :=
    Lcl.obj.star (Lcl.own.star (Lcl.map.star (Lcl.obj.star hB)))
  have h6 := ((h5.drew hL5).drew hL5).drew hL5
  simp [hlim, hlim', cell_blk ho, hcs, bn_len, rowOf]
  have e3 : wrAt #[.int .i64 0, .int .i64 0, .int .i64 0] 0 (en ⟨v, l, h⟩) = (en ⟨v, l, h⟩).toArray := by simp [en, ints]
  rw [e3]
  have h7 := (h6.rot).kp0 (Lcl.own.star (Lcl.obj.star (Lcl.map.star (Lcl.obj.star hB)))) ((Kp.refl [] w2.drew.drew.drew).alloc (.cells (en ⟨v, l, h⟩).toArray 125))
  refine At.append (xs := [(⟨v, l, h⟩ : Nd)]) (Lcl.obj.star (Lcl.map.star (Lcl.obj.star hB))) h7 bn_len en_one sl_118 rfl (fun j u hj => ?_) (by omega) (by unfold maxLen; omega) fun v8 w8 h8 => ?_
  · rw [addr_add, Nat.zero_add, show w2.heap.size = w2.drew.drew.drew.heap.size from rfl, cell_blk alloc_new]
    simpa using hj
  have h9 := h8.rot
  have ho9 := h9.obj
  unfold mgrO at h9 ho9
  simp [h8.own.c1]
  refine h9.st (Lcl.own.star (Lcl.map.star (Lcl.obj.star hB))) (by simp) (by simp [h8.own.o1]) fun w10 h10 => ?_
  have hL10 := Lcl.obj.star (Lcl.own.star (Lcl.map.star (Lcl.obj.star hB))) (A := ObjA m (mgrO n lim v8 b)) (B := Star (OwnA v8 125 3 en (ns ++ [(⟨v, l, h⟩ : Nd)])) (Star (MapA b ndV natV nd_ok (idx ns)) (Star (ObjA t (.cells (wrAt #[.int .i64 0, .int .i64 0, .int .i64 0] 0 [.int .i64 (v : Nat), .int .i64 (l : Nat), .int .i64 (h : Nat)]) 125 (0, 0))) B)))
  have h10 : At w F (Star (ObjA m (mgrO n lim v8 b)) (Star (OwnA v8 125 3 en (ns ++ [(⟨v, l, h⟩ : Nd)])) (Star (MapA b ndV natV nd_ok (idx ns)) (Star (ObjA t (.cells (wrAt #[.int .i64 0, .int .i64 0, .int .i64 0] 0 [.int .i64 (v : Nat), .int .i64 (l : Nat), .int .i64 (h : Nat)]) 125 (0, 0))) B)))) w10 := by
    simpa [mgrO] using h10
  have hoa := h10.obj
  unfold mgrO at hoa
  have hta := h10.drop.drop.drop.obj
  have hown10 := h10.drop.own
  simp at hta
  have hcsa : cellsAt w10 ⟨t, 0, none⟩ 0 3 = some (en ⟨v, l, h⟩) := by
    simp [cellsAt, Addr.add, cell_blk hta, en, ints]
  simp (disch := omega) [cell_blk hoa, hcsa, hown10.len, wrap_i64]
  have e1 : Value.int .i64 ((ns.length : Int) + 1 + 1) = natV (ns.length + 2) := by unfold natV; congr 1
  rw [e1]
  have hb11 := (h10.drew hL10).drop.drop
  refine At.put (x := (⟨v, l, h⟩ : Nd)) (Lcl.obj.star (Lcl.own.star (Lcl.obj.star hB))) ((h10.drew hL10).rot3) keyN kindex hok (by rw [idx_len]; unfold maxLen; omega) fun w12 h12 => ?_
  have hput : putM (idx ns) (⟨v, l, h⟩ : Nd) (ns.length + 2) = idx (ns ++ [(⟨v, l, h⟩ : Nd)]) := by
    rw [idx_snoc, putM, if_neg]
    simp only [getM, Option.map_eq_none_iff, List.find?_eq_none] at hgi
    simp only [List.any_eq_true, not_exists, not_and]
    exact hgi
  rw [hput] at h12
  have h12 := h12.rot.rot3.rot
  have hoc := h12.obj
  unfold mgrO at hoc
  have hownc := h12.drop.own
  simp (disch := omega) [cell_blk hoc, hownc.len, wrap_i64]
  rw [hm]
  exact ⟨by simp [optV, okV]; omega, (MgrA.cls h12).rot.drop⟩
theorem short_spec (op f g : Nat) (w : World) (hop : op ≤ 2) : Calls Tryz.prog 101 [.int .i64 (op : Nat), .int .i64 (f : Nat), .int .i64 (g : Nat)].toArray w fun e w' => ∃ x, e = .returned x ∧ x = .tuple #[.int .i64 ((sh op f g).1 : Nat), .bool (sh op f g).2] ∧ Kp [] w w' := by
  refine enter Tryz.func101 mixed low101 (Nat.le_of_ble_eq_true rfl) ?_
  simp only [L101]
  have e : ∀ a b : Nat, ((a : Int) == (b : Int)) = decide (a = b) := fun a b => by
    by_cases h : a = b
    · simp [h]
    · have : ((a : Int) == b) = false := by rw [beq_eq_false_iff_ne]; omega
      rw [this]; simp [h]
  have e0 : ∀ a : Nat, ((a : Int) == 0) = decide (a = 0) := fun a => e a 0
  have e1 : ∀ a : Nat, ((a : Int) == 1) = decide (a = 1) := fun a => e a 1
  unfold sh
  have hc : op = 0 ∨ op = 1 ∨ op = 2 := by omega
  rcases hc with rfl | rfl | rfl
  · by_cases h1 : f = 0
    · subst h1
      simp
      exact Kp.refl _ _
    by_cases h2 : g = 0
    · subst h2
      simp [e0, h1]
      exact Kp.refl _ _
    by_cases h3 : f = 1
    · subst h3
      simp [e0, h2]
      exact Kp.refl _ _
    by_cases h4 : f = g
    · subst h4
      simp [e0, e1, h1, h3]
      exact Kp.refl _ _
    · simp [e0, e1, e, h1, h2, h3, h4]
      exact Kp.refl _ _
  · by_cases h1 : f = 1
    · subst h1
      simp
      exact Kp.refl _ _
    by_cases h2 : g = 1
    · subst h2
      simp [e1, h1]
      exact Kp.refl _ _
    by_cases h3 : f = 0
    · subst h3
      simp [e1, h2]
      exact Kp.refl _ _
    by_cases h4 : f = g
    · subst h4
      simp [e0, e1, h1, h3]
      exact Kp.refl _ _
    · simp [e0, e1, e, h1, h2, h3, h4]
      exact Kp.refl _ _
  · by_cases h4 : f = g
    · subst h4
      simp
      exact Kp.refl _ _
    by_cases h3 : f = 0
    · subst h3
      have h5 : ((0 : Int) == g) = false := by rw [beq_eq_false_iff_ne]; omega
      simp [h5, h4]
      exact Kp.refl _ _
    · simp [e0, e1, e, h3, h4]
      exact Kp.refl _ _
end Go.Proofs.YtcoeknnghfajnaaGreat
end
