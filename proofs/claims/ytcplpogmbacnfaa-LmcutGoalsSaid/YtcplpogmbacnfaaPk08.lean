/-
  A part of the proof of this claim's statement (LibK, LibL, TkPlain, TkW1, TkW2, TkW3, TkW5, TkW6, TkW7): plain theorems; no conditions beyond those each names.
-/
import Derived.Test.YtcplpogmbacnfaaPk06
import Derived.Test.YtcplpogmbacnfaaPk07
section
set_option linter.unusedVariables false
set_option linter.unusedSimpArgs false
set_option linter.unusedSectionVars false
namespace Go.W
open Go
section
variable {P : Program} {los : List LO} {deps : List Nat} {ρ : Env} {w : World} {Q : Ex → Env → World → Prop} {outs : List Nat}
theorem wpX_of_one {o : LO} {l : List LO} {K : Env → World → Prop} (h : wpT P [o] ρ w fun ρ' w' => wpX P l ρ' w' K) : wpX P (o :: l) ρ w K := by
  obtain ⟨c, d, op, ty, g⟩ := o
  cases g with
  | none =>
    simp only [wpT] at h
    simp only [wpX]
    exact opS_sound h
  | some gb =>
    obtain ⟨g, b⟩ := gb
    simp only [wpT, gd] at h
    simp only [wpX, gd]
    exact ⟨fun e => opS_sound (h.1 e), h.2⟩
/-- A statement of what has run, kept by each operation. -/
theorem any_inv (T : List Nat → Env → World → Prop) (h0 : T [] ρ w.drew)
    (hs : ∀ X i ρ' w', i < los.length → i ∉ X → (∀ j ∈ X, j < los.length) → X.Nodup → (∀ j, j < los.length → (deps.getD i 0).testBit j = true → j ∈ X) → (∀ j ∈ X, (deps.getD j 0).testBit i = false) → T X ρ' w' → wpT P [los.getD i LO.dfl] ρ' w' (T (X ++ [i])))
    (he : ∀ l ρ' w', l.Perm (List.range los.length) → T l ρ' w' → Q .nrm (ρ.merge ρ' outs) w') : wpL P (.anyR los deps outs) Q ρ w := by
  intro l hl hD
  have hlt : ∀ i ∈ l, i < los.length := fun i hi => List.mem_range.1 (hl.subset hi)
  have hlnd : l.Nodup := hl.symm.nodup List.nodup_range
  have key : ∀ (l2 l1 : List Nat) (ρ' : Env) (w' : World), l = l1 ++ l2 → T l1 ρ' w' → wpX P (inOrder los l2) ρ' w' fun ρ' w'' => Q .nrm (ρ.merge ρ' outs) w'' := by
    intro l2
    induction l2 with
    | nil =>
      intro l1 ρ' w' e hT
      rw [List.append_nil] at e
      subst e
      exact he _ _ _ hl hT
    | cons i l2 ih =>
      intro l1 ρ' w' e hT
      have hi : i < los.length := hlt i (by rw [e]; simp)
      have hnd := hlnd
      rw [e, List.nodup_append] at hnd
      have hin : i ∉ l1 := fun hm => hnd.2.2 i hm i (by simp) rfl
      refine wpX_of_one (wpT_mono (fun ρ'' w'' hT' => ih (l1 ++ [i]) ρ'' w'' (by rw [e]; simp) hT') _ _ _ (hs l1 i ρ' w' hi hin (fun j hj => hlt j (by rw [e]; simp [hj])) hnd.1 (fun j hj hb => ?_) (fun j hj => ?_) hT))
      · obtain ⟨r1, r2, e1, e2⟩ := hD i hi j hj hb
        have hlnd' := hlnd
        rw [e] at e1 hlnd'
        rw [(split_unique hlnd' e1).1]; exact e2
      · cases hb : (deps.getD j 0).testBit i with
        | false => rfl
        | true =>
          exfalso
          obtain ⟨r1, r2, e1, e2⟩ := hD j (hlt j (by rw [e]; simp [hj])) i hi hb
          obtain ⟨m1, m2, e3⟩ := List.append_of_mem hj
          have e4 : l = m1 ++ j :: (m2 ++ i :: l2) := by rw [e, e3]; simp
          have hlnd' := hlnd
          rw [e4] at e1 hlnd'
          have := (split_unique hlnd' e1).1
          rw [← this] at e2
          rw [List.nodup_append] at hlnd'
          exact hlnd'.2.2 i e2 i (by simp) rfl
  exact key l [] ρ _ rfl h0
end
end Go.W
namespace Go.W
open Go
section
variable {α : Type} {enc : α → List Value} {w w1 : World} {F : List Nat} {B X : Asr}
def PinA (l : List (Nat × Obj)) : Asr := fun w F => (∀ q ∈ l, w.heap[q.1]? = some q.2) ∧ F = l.map (·.1)
theorem PinA.add {l : List (Nat × Obj)} {b : Nat} {o : Obj} : Imp (Star (ObjA b o) (Star (PinA l) X)) (Star (PinA ((b, o) :: l)) X) := by
  rintro w F ⟨Fa, Fx, ⟨h1, rfl⟩, ⟨Fb, Fc, ⟨h2, rfl⟩, h3, d1, rfl⟩, d2, rfl⟩
  refine ⟨_, ⟨_, Fc, ⟨fun q hq => ?_, rfl⟩, h3, fun x hx hc => ?_, rfl⟩, fun x hx => ?_⟩
  · rcases List.mem_cons.1 hq with rfl | h
    · exact h1
    · exact h2 q h
  · simp only [List.map_cons, List.mem_cons] at hx
    rcases hx with rfl | h
    · exact d2 x (by simp) (by simp [hc])
    · exact d1 x h hc
  · simp only [List.map_cons, List.mem_append, List.mem_cons] at hx ⊢
    rcases hx with (rfl | h) | h
    · exact .inl (.inl rfl)
    · exact .inr (.inl h)
    · exact .inr (.inr h)
theorem PinA.nil (hX : Lcl X) (h : At w F X w1) : At w F (Star (PinA []) X) w1 := h.more hX (Kp.refl _ _) ⟨[], ⟨by simp, rfl⟩, by simp⟩
theorem VwsA.sub {ps qs : List (Cell1 × List α)} (hs : ∀ p ∈ qs, p ∈ ps) : Imp (Star (VwsA enc ps) X) (Star (VwsA enc qs) X) := by
  rintro w F ⟨Fb, Fc, ⟨h2, h2', rfl⟩, h3, d1, rfl⟩
  have sub : ∀ x, x ∈ qs.flatMap (fun p => p.1.1.own) → x ∈ ps.flatMap (fun p => p.1.1.own) := fun x hx => by
    obtain ⟨q, hq, hq2⟩ := List.mem_flatMap.1 hx
    exact List.mem_flatMap.2 ⟨q, hs q hq, hq2⟩
  refine ⟨_, ⟨_, Fc, ⟨fun q hq => h2 q (hs q hq), fun x hx => h2' x (sub x hx), rfl⟩, h3, fun x hx hc => d1 x (sub x hx) hc, rfl⟩, fun x hx => ?_⟩
  rcases List.mem_append.1 hx with h | h
  · exact List.mem_append.2 (.inl (sub x h))
  · exact List.mem_append.2 (.inr h)
end
end Go.W
namespace Go.W
open Go
section
variable {P : Program} {los : List LO} {deps : List Nat} {ρ : Env} {w : World} {Q : Ex → Env → World → Prop} {outs : List Nat}
end
end Go.W
namespace Go.W
open Go
section
variable {A B C D E G I X : Asr}
end
end Go.W
end
section
set_option linter.unusedVariables false
set_option linter.unusedSimpArgs false
set_option linter.unusedSectionVars false
namespace Go.W
open Go
def ivH (P : Program) (w : World) (v : Value) (name : String) (args : List Value) [k : Kont (Value × World)] : Prop := upon2 P (fun v w' => k.run (v, w')) ((callMethod v name args.toArray).run P w)
section
variable {P : Program} {ρ : Env} {w : World} {KW : Value → World → Prop} {KV : Kont (Value × World)} {ty : Nat} {args : List Value} {name : String} {v : Value}
@[simp ↓] theorem opS_invoke {r : Operand} {m : String} {args : Array Operand} {tys : Array Nat} : opS P 2 (.call ⟨.invoke r m, args, tys⟩) ty ρ w KW = @ivH P w (ρ.ev r) m (args.toList.map ρ.ev) ⟨fun q => KW q.1 q.2⟩ := by
  show upon2 P KW _ = upon2 P KW _
  congr 1
  have e : (#[ρ.ev r] ++ args.map ρ.ev).extract 1 (#[ρ.ev r] ++ args.map ρ.ev).size = (args.toList.map ρ.ev).toArray := by
    apply Array.ext'
    simp
    exact List.take_of_length_le (by simp)
  have h0 : (#[ρ.ev r] ++ args.map ρ.ev)[0]? = some (ρ.ev r) := by
    rw [Array.getElem?_append_left (by simp)]; rfl
  simp only [LO.exec, execOp, resolve, Sem.run_bind, Sem.run_pure, Result.andThen_ok, invoke, h0, e]
end
end Go.W
end
section
set_option linter.unusedVariables false
set_option linter.unusedSimpArgs false
namespace Go.Tk
open Go Go.W
abbrev Fa := Int × Int
structure Ef where
  wv : Cell1
  cnd : List Fa
  v : Int
  x : Int
structure Oq where
  name : ByteArray
  cost : Int
  pv : Cell1
  pre : List Fa
  ev : Cell1
  effs : List Ef
structure Tk where
  vv : Cell1
  nv : Cell1
  gv : Cell1
  ov : Cell1
  vars : List Int
  init : List Int
  goal : List Fa
  ops : List Oq
def iE (i : Int) : List Value := [.int .i64 i]
theorem iE_len (i : Int) : (iE i).length = 1 := rfl
def faE (f : Fa) : List Value := [.int .i64 f.1, .int .i64 f.2]
theorem faE_len (f : Fa) : (faE f).length = 2 := rfl
def efE (e : Ef) : List Value := [e.wv.1, .int .i64 e.v, .int .i64 e.x]
theorem efE_len (e : Ef) : (efE e).length = 3 := rfl
def oqE (o : Oq) : List Value := [.string o.name, .int .i64 o.cost, o.pv.1, o.ev.1]
theorem oqE_len (o : Oq) : (oqE o).length = 4 := rfl
def tkV (t : Tk) : Value := .agg #[t.vv.1, t.nv.1, t.gv.1, t.ov.1]
/-- An operator can be read. -/
structure OqR (w : World) (o : Oq) : Prop where
  pre : Vw w o.pv.1 faE o.pre
  effs : Vw w o.ev.1 efE o.effs
  cnd : ∀ e ∈ o.effs, Vw w e.wv.1 faE e.cnd
theorem OqR.kp {w w' : World} {o : Oq} (h : OqR w o) (k : Kp [] w w') : OqR w' o := ⟨h.pre.kp0 k, h.effs.kp0 k, fun e he => (h.cnd e he).kp0 k⟩
/-- A task can be read. -/
structure TkR (w : World) (t : Tk) : Prop where
  vars : Vw w t.vv.1 iE t.vars
  init : Vw w t.nv.1 iE t.init
  goal : Vw w t.gv.1 faE t.goal
  ops : Vw w t.ov.1 oqE t.ops
  op : ∀ o ∈ t.ops, OqR w o
theorem TkR.kp {w w' : World} {t : Tk} (h : TkR w t) (k : Kp [] w w') : TkR w' t := ⟨h.vars.kp0 k, h.init.kp0 k, h.goal.kp0 k, h.ops.kp0 k, fun o ho => (h.op o ho).kp k⟩
/-- A fact is in range. -/
def inR (vars : List Int) (f : Fa) : Bool := decide (0 ≤ f.1) && decide (f.1 < vars.length) && decide (0 ≤ f.2) && decide (f.2 < vars.getD f.1.toNat 0)
def allR (n : Nat) (p : Nat → Bool) : Bool := (List.range n).all p
theorem allR_true {n : Nat} {p : Nat → Bool} (h : ∀ j, j < n → p j = true) : allR n p = true := by
  unfold allR; rw [List.all_eq_true]; exact fun j hj => h j (List.mem_range.1 hj)
theorem allR_false {n k : Nat} {p : Nat → Bool} (hk : k < n) (h : p k = false) : allR n p = false := by
  unfold allR; rw [List.all_eq_false]; exact ⟨k, List.mem_range.2 hk, by simp [h]⟩
theorem allR_at {n k : Nat} {p : Nat → Bool} (h : allR n p = true) (hk : k < n) : p k = true := by
  unfold allR at h; rw [List.all_eq_true] at h; exact h k (List.mem_range.2 hk)
theorem all_false {α : Type} {l : List α} {p : α → Bool} {x : α} (hx : x ∈ l) (h : p x = false) : l.all p = false := by
  rw [List.all_eq_false]; exact ⟨x, hx, by simp [h]⟩
/-- A list of facts is in range, and ascends. -/
def prAt (vars : List Int) (l : List Fa) (i : Nat) : Bool := inR vars (l.getD i (0, 0)) && (decide (i = 0) || decide ((l.getD (i - 1) (0, 0)).1 < (l.getD i (0, 0)).1))
def propF (vars : List Int) (l : List Fa) : Bool := allR l.length (prAt vars l)
def stAt (vars s : List Int) (i : Nat) : Bool := decide (0 ≤ s.getD i 0) && decide (s.getD i 0 < vars.getD i 0)
def stateB (vars s : List Int) : Bool := decide (s.length = vars.length) && allR s.length (stAt vars s)
def chB (b : ByteArray) (i : Nat) : Bool := decide (32 ≤ (b[i]?.getD 0).toNat) && decide ((b[i]?.getD 0).toNat ≤ 126)
def nameB (b : ByteArray) : Bool := decide (b.size ≤ 256) && allR b.size (chB b)
def effB (vars : List Int) (e : Ef) : Bool := propF vars e.cnd && inR vars (e.v, e.x)
def opB (vars : List Int) (o : Oq) : Bool := decide (0 ≤ o.cost) && decide (o.cost ≤ 1048576) && decide (o.effs.length ≤ 64) && nameB o.name && propF vars o.pre && o.effs.all (effB vars)
def varB (n : Int) : Bool := decide (1 ≤ n) && decide (n ≤ 64)
def goodB (t : Tk) : Bool := decide (t.vars.length ≤ 64) && decide (t.ops.length ≤ 4096) && t.vars.all varB && stateB t.vars t.init && propF t.vars t.goal && t.ops.all (opB t.vars)
/-- Lists are no longer than a number can say. -/
structure TkL (t : Tk) : Prop where
  init : t.init.length ≤ 9223372036854775807
  goal : t.goal.length ≤ 9223372036854775807
  ops : t.ops.length ≤ 9223372036854775807
  vars : t.vars.length ≤ 9223372036854775807
  op : ∀ o ∈ t.ops, o.name.size ≤ 9223372036854775807 ∧ o.pre.length ≤ 9223372036854775807 ∧ o.effs.length ≤ 9223372036854775807 ∧ ∀ e ∈ o.effs, e.cnd.length ≤ 9223372036854775807
def condsO (o : Oq) : List (Cell1 × List Fa) := (o.pv, o.pre) :: o.effs.map fun e => (e.wv, e.cnd)
def condsL (t : Tk) : List (Cell1 × List Fa) := (t.gv, t.goal) :: t.ops.flatMap condsO
def largeB (t : Tk) : Bool := !(decide (t.vars.length ≤ 64) && decide (t.ops.length ≤ 4096) && (t.ops.all fun o => decide (o.effs.length ≤ 64)) && (condsL t).all fun p => decide (p.2.length ≤ 64))
/-- The number of the first error. -/
def chkC (t : Tk) : Option Int :=
  if largeB t = true then some 5
  else if (t.vars.all varB) = false then some 1
  else if (t.ops.all fun o => decide (0 ≤ o.cost) && decide (o.cost ≤ 1048576)) = false then some 1
  else if stateB t.vars t.init = false then some 2
  else if ((condsL t).all fun p => propF t.vars p.2) = false then some 2
  else if (t.ops.all fun o => o.effs.all fun e => inR t.vars (e.v, e.x)) = false then some 2
  else if (t.ops.all fun o => nameB o.name) = false then some 8
  else none
end Go.Tk
end
section
set_option maxRecDepth 100000
set_option linter.unusedSimpArgs false
set_option linter.unusedVariables false
namespace Go.Proofs.Ytcplpogmbacnfaa
open Go Go.W Go.Tk
def faO (f : Fa) : Obj := .cells #[.int .i64 f.1, .int .i64 f.2] 58 (0, 0)
section
variable {w wa : World} {F : List Nat} {X : Asr} {KW : Kont World}
/-- A variable for a fact. -/
theorem st_fa {f : Fa} {b : Nat} (hX : Lcl X) (h : At w F X wa) (hb : b = wa.heap.size) (H : ∀ w2, At w F (Star (ObjA b (faO f)) X) w2 → KW.run w2) :
    @stJ (wa.alloc (.cells #[.int .i64 0, .int .i64 0] 58 (0, 0))) ⟨b, 0, none⟩ [.int .i64 f.1, .int .i64 f.2] KW := by
  have h1 : At w F (Star (ObjA b (.cells #[.int .i64 0, .int .i64 0] 58 (0, 0))) X) (wa.alloc (.cells #[.int .i64 0, .int .i64 0] 58 (0, 0))) := by rw [hb]; exact h.alloc _ hX
  exact h1.st hX (by simp) (by simp) fun w2 h2 => H w2 (by simpa [faO] using h2)
end
theorem iE_cell {w : World} {v : Value} {l : List Int} {k : Nat} {x : Int} (h : Vw w v iE l) (hx : l[k]? = some x) : w.cell? (v.adr.add k) = some (.int .i64 x) := by
  simpa using h.at_ iE_len hx (o := 0) (u := .int .i64 x) rfl
theorem getD_at {α : Type} {l : List α} {k : Nat} {x d : α} (h : l[k]? = some x) : l.getD k d = x := by simp [List.getD, h]
end Go.Proofs.Ytcplpogmbacnfaa
end
section
set_option maxRecDepth 100000
set_option linter.unusedSimpArgs false
set_option linter.unusedVariables false
namespace Go.Proofs.Ytcplpogmbacnfaa
open Go Go.W Go.Tk
def efO (e : Ef) : Obj := .cells #[e.wv.1, .int .i64 e.v, .int .i64 e.x] 60 (0, 0)
def oqO (o : Oq) : Obj := .cells #[.string o.name, .int .i64 o.cost, o.pv.1, o.ev.1] 51 (0, 0)
def tkO (t : Tk) : Obj := .cells #[t.vv.1, t.nv.1, t.gv.1, t.ov.1] 26 (0, 0)
section
variable {w wa : World} {F : List Nat} {X : Asr} {KW : Kont World}
/-- A variable for an effect. -/
theorem st_ef {e : Ef} {b : Nat} (hX : Lcl X) (h : At w F X wa) (hb : b = wa.heap.size) (H : ∀ w2, At w F (Star (ObjA b (efO e)) X) w2 → KW.run w2) :
    @stJ (wa.alloc (.cells #[.slice none 0 0, .int .i64 0, .int .i64 0] 60 (0, 0))) ⟨b, 0, none⟩ [e.wv.1, .int .i64 e.v, .int .i64 e.x] KW := by
  have h1 : At w F (Star (ObjA b (.cells #[.slice none 0 0, .int .i64 0, .int .i64 0] 60 (0, 0))) X) (wa.alloc (.cells #[.slice none 0 0, .int .i64 0, .int .i64 0] 60 (0, 0))) := by rw [hb]; exact h.alloc _ hX
  exact h1.st hX (by simp) (by simp [e.wv.2]) fun w2 h2 => H w2 (by simpa [efO] using h2)
/-- A variable for an operator. -/
theorem st_oq {o : Oq} {b : Nat} {es : ByteArray} (hX : Lcl X) (h : At w F X wa) (hb : b = wa.heap.size) (H : ∀ w2, At w F (Star (ObjA b (oqO o)) X) w2 → KW.run w2) :
    @stJ (wa.alloc (.cells #[.string es, .int .i64 0, .slice none 0 0, .slice none 0 0] 51 (0, 0))) ⟨b, 0, none⟩ [.string o.name, .int .i64 o.cost, o.pv.1, o.ev.1] KW := by
  have h1 : At w F (Star (ObjA b (.cells #[.string es, .int .i64 0, .slice none 0 0, .slice none 0 0] 51 (0, 0))) X) (wa.alloc (.cells #[.string es, .int .i64 0, .slice none 0 0, .slice none 0 0] 51 (0, 0))) := by rw [hb]; exact h.alloc _ hX
  exact h1.st hX (by simp) (by simp [o.pv.2, o.ev.2]) fun w2 h2 => H w2 (by simpa [oqO] using h2)
theorem rd_tk {w : World} {b : Nat} {t : Tk} (h : w.heap[b]? = some (tkO t)) : cellsAt w ⟨b, 0, none⟩ 0 4 = some [t.vv.1, t.nv.1, t.gv.1, t.ov.1] := by
  unfold tkO at h
  simp [cellsAt, Addr.add, cell_blk h]
end
end Go.Proofs.Ytcplpogmbacnfaa
end
section
set_option maxRecDepth 100000
set_option linter.unusedSimpArgs false
set_option linter.unusedVariables false
namespace Go.Proofs.Ytcplpogmbacnfaa
open Go Go.W Go.Tk
theorem propF_one (vars : List Int) (f : Fa) : propF vars [f] = inR vars f := by
  unfold propF allR prAt
  simp [List.range_succ]
theorem chB_at {b : ByteArray} {k : Nat} {c : UInt8} (h : b[k]? = some c) : chB b k = (decide (32 ≤ c.toNat) && decide (c.toNat ≤ 126)) := by
  unfold chB; rw [h]; rfl
end Go.Proofs.Ytcplpogmbacnfaa
end
section
set_option maxRecDepth 100000
set_option linter.unusedSimpArgs false
set_option linter.unusedVariables false
namespace Go.Proofs.Ytcplpogmbacnfaa
open Go Go.W Go.Tk
theorem tproper_spec {w : World} (vv sv : Value) (vars s : List Int) (hv : Vw w vv iE vars) (hs : Vw w sv iE s) (hl : s.length ≤ 9223372036854775807) :
    Calls Try.prog 43 [vv, sv].toArray w fun e w' => ∃ x, e = .returned x ∧ x = .bool (stateB vars s) ∧ Kp [] w w' := by
  refine enter Try.func43 mixed low43 (Nat.le_of_ble_eq_true rfl) ?_
  simp only [L43]
  by_cases hle : s.length = vars.length
  case neg =>
    have hne : ((s.length : Int) != vars.length) = true := by simp; omega
    have e : stateB vars s = false := by simp [stateB, hle]
    simp [hv.len, hs.len, hne, e]
    exact Kp.refl _ _
  have hne : ((s.length : Int) != vars.length) = false := by simp; omega
  simp [hv.len, hs.len, hne]
  refine range_loop (n := s.length) (by omega) (fun k ρ w' => ρ 0 = vv ∧ ρ 12 = sv ∧ (∀ j, j < k → stAt vars s j = true) ∧ Kp [] w w') (by simp) (by simp)
    ⟨by simp, by simp, by omega, Kp.refl _ _⟩ (by decide) (fun _ _ _ _ h => by simpa using h) (fun _ _ _ _ h => by simpa using h) ?_ ?_
  rotate_left
  · rintro ρ w4 ⟨g0, g1, hall, k4⟩
    have : stateB vars s = true := by unfold stateB; rw [allR_true hall]; simp [hle]
    simp [this]
    exact k4
  rintro k ρ w4 hk hc hlm ⟨g0, g1, hall, k4⟩
  have hs4 := hs.kp0 k4
  have hv4 := hv.kp0 k4
  obtain ⟨x, hx⟩ : ∃ x, s[k]? = some x := ⟨_, List.getElem?_eq_getElem hk⟩
  obtain ⟨y, hy⟩ : ∃ y, vars[k]? = some y := ⟨_, List.getElem?_eq_getElem (by omega)⟩
  have ex : stAt vars s k = (decide (0 ≤ x) && decide (x < y)) := by unfold stAt; rw [getD_at hx, getD_at hy]
  have bad : (decide (0 ≤ x) && decide (x < y)) = false → stateB vars s = false := fun h => by
    unfold stateB; rw [allR_false hk (ex.trans h)]; simp
  by_cases t1 : x < 0
  · have e := bad (by simp; omega)
    simp (disch := omega) [g0, g1, hc, hlm, hs4.idx, iE_cell hs4 hx, t1, e]
    exact k4
  by_cases t2 : y ≤ x
  · have e := bad (by simp; omega)
    simp (disch := omega) [g0, g1, hc, hlm, hs4.idx, iE_cell hs4 hx, hv4.idx, iE_cell hv4 hy, t1, t2, e]
    exact k4
  simp (disch := omega) [g0, g1, hc, hlm, hs4.idx, iE_cell hs4 hx, hv4.idx, iE_cell hv4 hy, t1, t2]
  refine ⟨fun j hj => ?_, k4⟩
  rcases (show j < k ∨ j = k by omega) with h1 | h1
  · exact hall j h1
  · subst h1; rw [ex]; simp; omega
theorem tfacts_spec {w : World} (vv fv : Value) (vars : List Int) (l : List Fa) (hv : Vw w vv iE vars) (hf : Vw w fv faE l) (hl : l.length ≤ 9223372036854775807) :
    Calls Try.prog 53 [vv, fv].toArray w fun e w' => ∃ x, e = .returned x ∧ x = .bool (propF vars l) ∧ Kp [] w w' := by
  refine enter Try.func53 mixed low53 (Nat.le_of_ble_eq_true rfl) ?_
  simp only [L53]
  simp [hf.len]
  refine range_loop (n := l.length) (by omega) (fun k ρ w' => ρ 0 = vv ∧ ρ 8 = fv ∧ (∃ p : Int, ρ 5 = .int .i64 p ∧ ((k = 0 ∧ p = -1) ∨ (0 < k ∧ 0 ≤ p ∧ (l.getD (k - 1) (0, 0)).1 = p))) ∧ (∀ j, j < k → prAt vars l j = true) ∧ Kp [] w w') (by simp) (by simp)
    ⟨by simp, by simp, ⟨-1, by simp, .inl ⟨rfl, rfl⟩⟩, by omega, Kp.refl _ _⟩ (by decide) (fun _ _ _ _ h => by simpa using h) (fun _ _ _ _ h => by simpa using h) ?_ ?_
  rotate_left
  · rintro ρ w4 ⟨g0, g8, _, hall, k4⟩
    have : propF vars l = true := allR_true hall
    simp [this]
    exact k4
  rintro k ρ w4 hk hc hlm ⟨g0, g8, ⟨p, g5, hp⟩, hall, k4⟩
  obtain ⟨f, hfk⟩ : ∃ f, l[k]? = some f := ⟨_, List.getElem?_eq_getElem hk⟩
  have hf4 := hf.kp0 k4
  have hv4 := hv.kp0 k4
  have ec := hf4.cells faE_len hfk
  simp only [faE] at ec
  obtain ⟨b, hb⟩ : ∃ b, b = w4.heap.size := ⟨_, rfl⟩
  refine seq_cut (fun ρ w' => ρ 0 = vv ∧ ρ 8 = fv ∧ ρ 5 = .int .i64 p ∧ ρ 9 = .int .i64 (l.length : Nat) ∧ ρ 10 = .int .i64 (k : Nat) ∧ ρ 7 = .pointer (some ⟨b, 0, none⟩) ∧ At w4 [] (Star (ObjA b (faO f)) Emp) w') ?_ ?_
  · simp (disch := omega) [g8, hc, hlm, hf4.idx, ec, ← hb]
    refine st_fa (f := f) .emp (At.start rfl : At w4 [] Emp w4) hb fun w5 h5 => ?_
    simp [g0, g8, g5, hc, hlm, ← hb]
    exact h5
  clear g0 g8 g5 hc hlm
  rintro ρ w5 ⟨g0, g8, g5, g9, g10, g7, h5⟩
  have ho := h5.obj
  unfold faO at ho
  have hv5 := hv4.kp0 h5.kp
  have eg : l.getD k (0, 0) = f := getD_at hfk
  have bad : (inR vars f && (decide (k = 0) || decide ((l.getD (k - 1) (0, 0)).1 < f.1))) = false → propF vars l = false := fun h => allR_false hk (by unfold prAt; rw [eg]; exact h)
  have k5 : Kp [] w w5.drew := (k4.trans0 h5.kp).drew
  by_cases t0 : f.1 ≤ p
  · have e := bad (by
      rcases hp with ⟨h1, h2⟩ | ⟨h1, h2, h3⟩
      · simp [inR]; omega
      · rw [h3]; simp [Nat.ne_of_gt h1]; omega)
    simp [g7, g5, cell_blk ho, t0, e]
    exact k5
  by_cases t2 : (vars.length : Int) ≤ f.1
  · have e := bad (by simp [inR]; omega)
    simp [g7, g5, g0, cell_blk ho, t0, hv5.len, t2, e]
    exact k5
  by_cases t3 : f.2 < 0
  · have e := bad (by simp [inR]; omega)
    simp [g7, g5, g0, cell_blk ho, t0, hv5.len, t2, t3, e]
    exact k5
  have t1 : 0 ≤ f.1 := by omega
  obtain ⟨y, hy⟩ : ∃ y, vars[f.1.toNat]? = some y := ⟨_, List.getElem?_eq_getElem (by omega)⟩
  have ey : vars.getD f.1.toNat 0 = y := getD_at hy
  by_cases t4 : y ≤ f.2
  · have e := bad (by unfold inR; rw [ey]; simp; omega)
    simp (disch := omega) [g7, g5, g0, cell_blk ho, t0, hv5.len, t2, t3, hv5.idx, iE_cell hv5 hy, t4, e]
    exact k5
  have hin : inR vars f = true := by unfold inR; rw [ey]; simp; omega
  simp (disch := omega) [g7, g5, g0, g8, g9, g10, cell_blk ho, t0, hv5.len, t2, t3, hv5.idx, iE_cell hv5 hy, t4]
  refine ⟨⟨by rw [(List.getElem?_eq_some_iff.1 hfk).2], by rw [(List.getElem?_eq_some_iff.1 hfk).2]; exact t1⟩, fun j hj => ?_, k5⟩
  rcases (show j < k ∨ j = k by omega) with h1 | h1
  · exact hall j h1
  · subst h1
    unfold prAt
    rw [eg, hin]
    rcases hp with ⟨h1, h2⟩ | ⟨h1, h2, h3⟩
    · simp [h1]
    · rw [h3]; simp; omega
theorem tnamed_spec {w : World} (b : ByteArray) (hl : b.size ≤ 9223372036854775807) :
    Calls Try.prog 54 [.string b].toArray w fun e w' => ∃ x, e = .returned x ∧ x = .bool (nameB b) ∧ Kp [] w w' := by
  refine enter Try.func54 mixed low54 (Nat.le_of_ble_eq_true rfl) ?_
  simp only [L54]
  simp
  refine range_loop (n := b.size) (by omega) (fun k ρ w' => ρ 0 = .string b ∧ (∀ j, j < k → chB b j = true) ∧ w' = w) (by simp) (by simp)
    ⟨by simp, by omega, rfl⟩ (by decide) (fun _ _ _ _ h => by simpa using h) (fun _ _ _ _ h => by simpa using h) ?_ ?_
  · rintro k ρ w4 hk hc hlm ⟨g0, hall, rfl⟩
    obtain ⟨c, hc1⟩ : ∃ c, b[k]? = some c := ⟨_, getElem?_pos b k hk⟩
    have ech := chB_at hc1
    have bad : (decide (32 ≤ c.toNat) && decide (c.toNat ≤ 126)) = false → nameB b = false := fun h => by
      unfold nameB; rw [allR_false hk (ech.trans h)]; simp
    by_cases s1 : c.toNat < 32
    · have s1' : ((c.toNat : Nat) : Int) < 32 := by omega
      have e := bad (by simp; omega)
      simp [g0, hc, hlm, hc1, s1, s1', e]
      exact Kp.refl _ _
    have s1' : ¬ ((c.toNat : Nat) : Int) < 32 := by omega
    by_cases s2 : 126 < c.toNat
    · have s2' : (126 : Int) < ((c.toNat : Nat) : Int) := by omega
      have e := bad (by simp; omega)
      simp [g0, hc, hlm, hc1, s1, s1', s2, s2', e]
      exact Kp.refl _ _
    have s2' : ¬ (126 : Int) < ((c.toNat : Nat) : Int) := by omega
    simp [g0, hc, hlm, hc1, s1, s1', s2, s2']
    intro j hj
    rcases (show j < k ∨ j = k by omega) with h | h
    · exact hall j h
    · subst h; rw [ech]; simp; omega
  rintro ρ w4 ⟨g0, hall, rfl⟩
  have e : decide ((b.size : Int) ≤ 256) = nameB b := by
    unfold nameB
    rw [allR_true hall, Bool.and_true, Bool.eq_iff_iff]
    simp only [decide_eq_true_eq]
    omega
  simp [g0, e]
  exact Kp.refl _ _
end Go.Proofs.Ytcplpogmbacnfaa
end
section
set_option maxRecDepth 100000
set_option linter.unusedSimpArgs false
set_option linter.unusedVariables false
namespace Go.Proofs.Ytcplpogmbacnfaa
open Go Go.W Go.Tk
/-- A new row. -/
structure Nw {α : Type} (w w' : World) (u : Value) (E sz : Nat) (enc : α → List Value) (l : List α) : Prop where
  kp : Kp [] w w'
  own : Own w' u E sz enc l
  fresh : ∀ x ∈ u.own, w.heap.size ≤ x
theorem Nw.of {α : Type} {w w' : World} {u : Value} {E sz : Nat} {enc : α → List Value} {l : List α} {B : Asr} (h : At w [] (Star (OwnA u E sz enc l) B) w') : Nw w w' u E sz enc l := by
  refine ⟨h.kp, h.own, fun x hx => ?_⟩
  obtain ⟨F', ⟨Fa, Fb, ⟨_, rfl⟩, _, _, rfl⟩, hs⟩ := h.ex
  rcases hs x (by simp [hx]) with h1 | h1
  · cases h1
  · exact h1
theorem At.nw {α : Type} {w w1 w' : World} {F : List Nat} {B : Asr} {u : Value} {E sz : Nat} {enc : α → List Value} {l : List α} (hB : Lcl B) (h : At w F B w1) (t : Nw w1 w' u E sz enc l) : At w F (Star (OwnA u E sz enc l) B) w' :=
  h.more hB t.kp ⟨u.own, ⟨t.own, rfl⟩, t.fresh⟩
theorem condsO_len (o : Oq) : (condsO o).length = 1 + o.effs.length := by simp [condsO]; omega
theorem conds_len {ops : List Oq} (h : ∀ o ∈ ops, o.effs.length ≤ 64) : (ops.flatMap condsO).length ≤ 65 * ops.length := by
  induction ops with
  | nil => simp
  | cons o l ih =>
    have := ih fun o' ho => h o' (by simp [ho])
    have := h o (by simp)
    simp only [List.flatMap_cons, List.length_append, condsO_len, List.length_cons]
    omega
/-- One condition more. -/
theorem cd_append {w w1 : World} {F : List Nat} {B : Asr} {ov : Value} {p : Cell1 × List Fa} {outs : List (Cell1 × List Fa)} {KV : Kont (Value × World)} (hB : Lcl B) (h : At w F (Star (OwnA ov 23 1 sv1 outs) B) w1) (hl : outs.length ≤ 1000000)
    (H : ∀ v' w2, At w F (Star (OwnA v' 23 1 sv1 (outs ++ [p])) B) w2 → KV.run (v', w2)) :
    @efH Try.prog (Builtin.append_ #[99, 99] 99 [ov, .slice (some ⟨w1.heap.size, 0, none⟩) 1 1].toArray) (w1.alloc (.cells #[p.1.1] 23)) KV := by
  have h4 := h.kp0 (Lcl.own.star hB) ((Kp.refl [] w1).alloc (.cells #[p.1.1] 23))
  refine At.append (xs := [p]) hB h4 sv1_len sv1_one sl_99 rfl (fun j x hj => ?_) (by omega) (by unfold maxLen; omega) fun v' w5 h5 => H v' w5 h5
  simp [sv1] at hj
  rw [add_none, cell_blk alloc_new]
  simpa using hj
set_option maxHeartbeats 1000000 in
theorem tconds_spec {w : World} (t : Tk) (ht : TkR w t) (ho : t.ops.length ≤ 4096) (he : ∀ o ∈ t.ops, o.effs.length ≤ 64) :
    Calls Try.prog 52 [tkV t].toArray w fun e w' => ∃ u, e = .returned u ∧ Nw w w' u 23 1 sv1 (condsL t) := by
  refine enter Try.func52 mixed low52 (Nat.le_of_ble_eq_true rfl) ?_
  simp only [L52]
  have h0 : At w [] Emp w := At.start rfl
  have h1 : At w [] (Star (ObjA w.heap.size (tkO t)) Emp) _ := h0.alloc (tkO t) Lcl.emp
  obtain ⟨b, hb⟩ : ∃ b, b = w.heap.size := ⟨_, rfl⟩
  rw [← hb] at h1
  have hLB : Lcl (Star (ObjA b (tkO t)) Emp) := .star .obj .emp
  obtain ⟨w1, hw1⟩ : ∃ w1, w1 = w.alloc (tkO t) := ⟨_, rfl⟩
  rw [← hw1] at h1
  have hw1' : w.alloc (.cells #[t.vv.1, t.nv.1, t.gv.1, t.ov.1] 26 (0, 0)) = w1 := by rw [hw1]; rfl
  have hob := h1.obj
  unfold tkO at hob
  have ht1 := ht.kp h1.kp
  have h2 := h1.lit (xs := [((t.gv, t.goal) : Cell1 × List Fa)]) (enc := sv1) (E := 23) (sz := 1) (cs := #[t.gv.1]) (m := 1) hLB (by simp [sv1]) sv1_len (by simp [maxLen]) rfl
  obtain ⟨w2, hw2⟩ : ∃ w2, w2 = w1.alloc (.cells #[t.gv.1] 23) := ⟨_, rfl⟩
  obtain ⟨sl, hsl⟩ : ∃ sl, sl = Value.slice (some ⟨w1.heap.size, 0, none⟩) 1 1 := ⟨_, rfl⟩
  rw [← hw2, ← hsl] at h2
  have hob2 := h2.drop.obj
  unfold tkO at hob2
  have ht2 := ht.kp h2.kp
  have go := ht1.goal.c1
  simp [tkV, ← hb, hw1', cell_blk hob, rowOf, go, ← hw2, ← hsl, cell_blk hob2, ht2.ops.len]
  refine range_loop (n := t.ops.length) (by omega) (fun k ρ w' => ρ 1 = .pointer (some ⟨b, 0, none⟩) ∧ ρ 12 = t.ov.1 ∧ At w [] (Star (OwnA (ρ 3) 23 1 sv1 ((t.gv, t.goal) :: (t.ops.take k).flatMap condsO)) (Star (ObjA b (tkO t)) Emp)) w') (by simp) (by simp)
    ⟨by simp, by simp, by simpa using h2⟩ (by decide) (fun _ _ _ _ h => by simpa using h) (fun _ _ _ _ h => by simpa using h) ?_ ?_
  rotate_left
  · rintro ρ w5 ⟨g1, g12, h5⟩
    rw [List.take_length] at h5
    simp
    exact Nw.of h5
  rintro k ρ w5 hk hc hlm ⟨g1, g12, h5⟩
  obtain ⟨o, hok⟩ : ∃ o, t.ops[k]? = some o := ⟨_, List.getElem?_eq_getElem hk⟩
  have hom := List.mem_of_getElem? hok
  have ht5 := ht.kp h5.kp
  have ec := ht5.ops.cells oqE_len hok
  simp only [oqE] at ec
  have hpl : ((t.ops.take k).flatMap condsO).length ≤ 65 * 4096 := by
    have := conds_len (ops := t.ops.take k) fun o ho => he o (List.mem_of_mem_take ho)
    rw [List.length_take] at this
    omega
  obtain ⟨pre, hpre⟩ : ∃ pre, pre = (t.ops.take k).flatMap condsO := ⟨_, rfl⟩
  rw [← hpre] at h5 hpl
  have hnext : (t.ops.take (k + 1)).flatMap condsO = pre ++ condsO o := by
    rw [List.take_add_one, hok, hpre]; simp
  rw [hnext]
  have hel := he o hom
  obtain ⟨eb, heb⟩ : ∃ eb, eb = w5.heap.size := ⟨_, rfl⟩
  simp (disch := omega) [g12, hc, hlm, ht5.ops.idx, ec, ← heb]
  have hL5 : Lcl (Star (OwnA (ρ 3) 23 1 sv1 ((t.gv, t.goal) :: pre)) (Star (ObjA b (tkO t)) Emp)) := Lcl.own.star hLB
  refine st_oq (o := o) hL5 h5 heb fun w6 h6 => ?_
  have ho6 := h6.obj
  unfold oqO at ho6
  rw [heb] at ho6
  have po := ht5.op o hom |>.pre.c1
  simp [cell_blk ho6, rowOf, po]
  refine cd_append (p := (o.pv, o.pre)) (Lcl.obj.star hLB) (h6.by Imp.sw) (by simp; omega) fun v' w7 h7 => ?_
  have ho7 := h7.drop.obj
  unfold oqO at ho7
  rw [heb] at ho7
  have ht7 := ht.kp h7.kp
  have hR := ht7.op o hom
  simp [cell_blk ho7, hR.effs.len]
  refine range_loop (n := o.effs.length) (by omega) (fun j ρ w' => ρ 1 = .pointer (some ⟨b, 0, none⟩) ∧ ρ 12 = t.ov.1 ∧ ρ 13 = .int .i64 (t.ops.length : Nat) ∧ ρ 14 = .int .i64 (k : Nat) ∧ ρ 24 = o.ev.1 ∧ At w [] (Star (OwnA (ρ 3) 23 1 sv1 ((t.gv, t.goal) :: pre ++ [(o.pv, o.pre)] ++ (o.effs.take j).map fun e => (e.wv, e.cnd))) (Star (ObjA b (tkO t)) Emp)) w') (by simp) (by simp)
    ⟨by simp [g1], by simp [g12], by simp [hlm], by simp [hc], by simp, by simpa using h7.by (Imp.un Imp.dr)⟩ (by decide) (fun _ _ _ _ h => by simpa using h) (fun _ _ _ _ h => by simpa using h) ?_ ?_
  rotate_left
  · rintro ρ w8 ⟨g1, g12, g13, g14, g24, h8⟩
    rw [List.take_length] at h8
    simp [g1, g12, g13, g14]
    have e : (t.gv, t.goal) :: (pre ++ condsO o) = (t.gv, t.goal) :: pre ++ [(o.pv, o.pre)] ++ o.effs.map fun e => (e.wv, e.cnd) := by simp [condsO]
    rw [e]
    exact h8
  rintro j ρ w8 hj hcj hlj ⟨g1, g12, g13, g14, g24, h8⟩
  obtain ⟨e, hej⟩ : ∃ e, o.effs[j]? = some e := ⟨_, List.getElem?_eq_getElem hj⟩
  have ht8 := ht.kp h8.kp
  have hR8 := ht8.op o hom
  have ece := hR8.effs.cells efE_len hej
  simp only [efE] at ece
  obtain ⟨fb, hfb⟩ : ∃ fb, fb = w8.heap.size := ⟨_, rfl⟩
  simp (disch := omega) [g24, hcj, hlj, hR8.effs.idx, ece, ← hfb]
  refine st_ef (e := e) (Lcl.own.star hLB) h8 hfb fun w9 h9 => ?_
  have ho9 := h9.obj
  unfold efO at ho9
  rw [hfb] at ho9
  have wo := hR8.cnd e (List.mem_of_getElem? hej) |>.c1
  have htl : (o.effs.take j).length ≤ 64 := by rw [List.length_take]; omega
  simp [cell_blk ho9, rowOf, wo]
  refine cd_append (p := (e.wv, e.cnd)) (Lcl.obj.star hLB) (h9.by Imp.sw) (by simp; omega) fun v' w10 h10 => ?_
  simp [g1, g12, g13, g14, g24, hcj, hlj]
  have e2 : (t.gv, t.goal) :: (pre ++ (o.pv, o.pre) :: (o.effs.take (j + 1)).map fun e => (e.wv, e.cnd)) = (t.gv, t.goal) :: pre ++ [(o.pv, o.pre)] ++ ((o.effs.take j).map fun e => (e.wv, e.cnd)) ++ [(e.wv, e.cnd)] := by
    rw [List.take_add_one, hej]; simp
  rw [← List.map_take, e2]
  exact h10.by (Imp.un Imp.dr)
end Go.Proofs.Ytcplpogmbacnfaa
end
section
set_option maxRecDepth 100000
set_option linter.unusedSimpArgs false
set_option linter.unusedVariables false
namespace Go.Proofs.Ytcplpogmbacnfaa
open Go Go.W Go.Tk
theorem tlarge1_spec {w : World} (fv : Value) (l : List Fa) (hf : Vw w fv faE l) :
    Calls Try.prog 67 [fv].toArray w fun e w' => ∃ x, e = .returned x ∧ x = .bool (decide (64 < l.length)) ∧ Kp [] w w' := by
  refine enter Try.func67 mixed low67 (Nat.le_of_ble_eq_true rfl) ?_
  simp only [L67]
  simp [hf.len]
  refine ⟨by omega, Kp.refl _ _⟩
def smB (ps : List (Cell1 × List Fa)) : Bool := ps.all fun p => decide (p.2.length ≤ 64)
def SmK (ps : List (Cell1 × List Fa)) (k : Nat) : Prop := ∀ j p, j < k → ps[j]? = some p → p.2.length ≤ 64
theorem indexL_spec {w : World} (v : Value) (ps : List (Cell1 × List Fa)) (hv : Vw w v sv1 ps) (hp : ∀ p ∈ ps, Vw w p.1.1 faE p.2) (hl : ps.length ≤ 9223372036854775807) :
    Calls Try.prog 84 [v, .func (.func 67) #[] #[]].toArray w fun e w' => ∃ x, e = .returned x ∧ (∃ i : Int, x = .int .i64 i ∧ decide (0 ≤ i) = !(smB ps)) ∧ Kp [] w w' := by
  refine enter Try.func84 mixed low84 (Nat.le_of_ble_eq_true rfl) ?_
  simp only [L84]
  simp [hv.len]
  refine range_loop (n := ps.length) (by omega) (fun k ρ w' => ρ 0 = v ∧ ρ 1 = .func (.func 67) #[] #[] ∧ SmK ps k ∧ Kp [] w w') (by simp) (by simp)
    ⟨by simp, by simp, fun j p hj => by omega, Kp.refl _ _⟩ (by decide) (fun _ _ _ _ h => by simpa using h) (fun _ _ _ _ h => by simpa using h) ?_ ?_
  rotate_left
  · rintro ρ w4 ⟨g0, g1, hall, k4⟩
    have : smB ps = true := by
      unfold smB
      rw [List.all_eq_true]
      intro p hp
      obtain ⟨j, hj, rfl⟩ := List.getElem_of_mem hp
      exact decide_eq_true (hall j _ hj (List.getElem?_eq_getElem hj))
    simp [this]
    exact k4
  rintro k ρ w4 hk hc hlm ⟨g0, g1, hall, k4⟩
  obtain ⟨p, hpk⟩ : ∃ p, ps[k]? = some p := ⟨_, List.getElem?_eq_getElem hk⟩
  have hv4 := hv.kp0 k4
  have hpm := List.mem_of_getElem? hpk
  have ei : w4.cell? (v.adr.add k) = some p.1.1 := by simpa using hv4.at_ sv1_len hpk (o := 0) (u := p.1.1) rfl
  simp (disch := omega) [g0, g1, hc, hlm, hv4.idx, ei]
  refine cl_of (tlarge1_spec p.1.1 p.2 ((hp p hpm).kp0 k4)) ?_
  rintro _ w5 ⟨rfl, k5⟩
  by_cases t : 64 < p.2.length
  · have e : smB ps = false := all_false hpm (by simp; omega)
    simp [t, g0, g1, hc, hlm, e]
    exact k4.trans0 k5
  · simp [t, g0, g1, hc, hlm]
    refine ⟨fun j q hj hq => ?_, k4.trans0 k5⟩
    rcases (show j < k ∨ j = k by omega) with h | h
    · exact hall j q h hq
    · subst h
      rw [hpk] at hq
      cases hq
      omega
theorem containsL_spec {w : World} (v : Value) (ps : List (Cell1 × List Fa)) (hv : Vw w v sv1 ps) (hp : ∀ p ∈ ps, Vw w p.1.1 faE p.2) (hl : ps.length ≤ 9223372036854775807) :
    Calls Try.prog 66 [v, .func (.func 67) #[] #[]].toArray w fun e w' => ∃ x, e = .returned x ∧ x = .bool (!(smB ps)) ∧ Kp [] w w' := by
  refine enter Try.func66 mixed low66 (Nat.le_of_ble_eq_true rfl) ?_
  simp only [L66]
  simp
  refine cl_of (indexL_spec v ps hv hp hl) ?_
  rintro _ w5 ⟨⟨i, rfl, hi⟩, k5⟩
  simp [hi]
  exact k5
theorem conds_vw {w : World} {t : Tk} (h : TkR w t) : ∀ p ∈ condsL t, Vw w p.1.1 faE p.2 := by
  intro p hp
  unfold condsL at hp
  rcases List.mem_cons.1 hp with rfl | hp
  · exact h.goal
  · obtain ⟨o, ho, hp⟩ := List.mem_flatMap.1 hp
    have hR := h.op o ho
    unfold condsO at hp
    rcases List.mem_cons.1 hp with rfl | hp
    · exact hR.pre
    · obtain ⟨e, he, rfl⟩ := List.mem_map.1 hp
      exact hR.cnd e he
set_option maxHeartbeats 1000000 in
theorem tlarge_spec {w : World} (t : Tk) (ht : TkR w t) (hl : TkL t) :
    Calls Try.prog 51 [tkV t].toArray w fun e w' => ∃ x, e = .returned x ∧ x = .bool (largeB t) ∧ Kp [] w w' := by
  refine enter Try.func51 mixed low51 (Nat.le_of_ble_eq_true rfl) ?_
  simp only [L51]
  have h0 : At w [] Emp w := At.start rfl
  have h1 : At w [] (Star (ObjA w.heap.size (tkO t)) Emp) _ := h0.alloc (tkO t) Lcl.emp
  obtain ⟨b, hb⟩ : ∃ b, b = w.heap.size := ⟨_, rfl⟩
  rw [← hb] at h1
  have hLB : Lcl (Star (ObjA b (tkO t)) Emp) := .star .obj .emp
  obtain ⟨w1, hw1⟩ : ∃ w1, w1 = w.alloc (tkO t) := ⟨_, rfl⟩
  rw [← hw1] at h1
  have hw1' : w.alloc (.cells #[t.vv.1, t.nv.1, t.gv.1, t.ov.1] 26 (0, 0)) = w1 := by rw [hw1]; rfl
  have hob := h1.obj
  unfold tkO at hob
  have ht1 := ht.kp h1.kp
  have k1 := h1.kp
  by_cases t1 : 64 < t.vars.length
  · have t1' : (64 : Int) < (t.vars.length : Nat) := by omega
    have e : largeB t = true := by
      have : decide (t.vars.length ≤ 64) = false := by simp; omega
      simp [largeB, this]
    simp [tkV, ← hb, hw1', cell_blk hob, ht1.vars.len, t1, t1', e]
    exact k1
  have t1' : ¬ (64 : Int) < (t.vars.length : Nat) := by omega
  by_cases t2 : 4096 < t.ops.length
  · have t2' : (4096 : Int) < (t.ops.length : Nat) := by omega
    have e : largeB t = true := by
      have : decide (t.ops.length ≤ 4096) = false := by simp; omega
      simp [largeB, this]
    simp [tkV, ← hb, hw1', cell_blk hob, ht1.vars.len, ht1.ops.len, t1, t1', t2, t2', e]
    exact k1
  have t2' : ¬ (4096 : Int) < (t.ops.length : Nat) := by omega
  simp [tkV, ← hb, hw1', cell_blk hob, ht1.vars.len, ht1.ops.len, t1, t1', t2, t2']
  refine range_loop (n := t.ops.length) (by omega) (fun k ρ w' => ρ 1 = .pointer (some ⟨b, 0, none⟩) ∧ ρ 16 = t.ov.1 ∧ (∀ j o, j < k → t.ops[j]? = some o → o.effs.length ≤ 64) ∧ At w [] (Star (ObjA b (tkO t)) Emp) w' ∧ Kp [] w1 w') (by simp) (by simp)
    ⟨by simp, by simp, by omega, h1, Kp.refl _ _⟩ (by decide) (fun _ _ _ _ h => by simpa using h) (fun _ _ _ _ h => by simpa using h) ?_ ?_
  · rintro k ρ w5 hk hc hlm ⟨g1, g16, hall2, h5, k5⟩
    obtain ⟨o, hok⟩ : ∃ o, t.ops[k]? = some o := ⟨_, List.getElem?_eq_getElem hk⟩
    have hom := List.mem_of_getElem? hok
    have ht5 := ht1.kp k5
    have ec := ht5.ops.cells oqE_len hok
    simp only [oqE] at ec
    obtain ⟨eb, heb⟩ : ∃ eb, eb = w5.heap.size := ⟨_, rfl⟩
    simp (disch := omega) [g16, hc, hlm, ht5.ops.idx, ec, ← heb]
    refine st_oq (o := o) .emp (At.start rfl : At w5 [] Emp w5) heb fun w6 h6 => ?_
    have h7 := h5.kp0 hLB h6.kp
    have ho6 := h6.obj
    unfold oqO at ho6
    rw [heb] at ho6
    have ht6 := ht5.kp h6.kp
    by_cases s1 : 64 < o.effs.length
    · have s1' : (64 : Int) < (o.effs.length : Nat) := by omega
      have e : largeB t = true := by
        have : (t.ops.all fun o => decide (o.effs.length ≤ 64)) = false := all_false hom (by simp; omega)
        simp [largeB, this]
      simp [cell_blk ho6, (ht6.op o hom).effs.len, s1, s1', e]
      exact h7.kp
    have s1' : ¬ (64 : Int) < (o.effs.length : Nat) := by omega
    simp [cell_blk ho6, (ht6.op o hom).effs.len, s1, s1', g1, g16, hc, hlm]
    refine ⟨fun j o' hj hj' => ?_, h7, k5.trans0 h6.kp⟩
    rcases (show j < k ∨ j = k by omega) with h | h
    · exact hall2 j o' h hj'
    · subst h
      rw [hok] at hj'
      cases hj'
      omega
  rintro ρ w5 ⟨g1, g16, hall2, h5, k5⟩
  have hops : ∀ o ∈ t.ops, o.effs.length ≤ 64 := fun o ho => by
    obtain ⟨j, hj, rfl⟩ := List.getElem_of_mem ho
    exact hall2 j _ hj (List.getElem?_eq_getElem hj)
  have ht5 := ht1.kp k5
  simp [g1, rd_tk h5.obj]
  refine cl_of (tconds_spec t ht5 (by omega) hops) ?_
  rintro u w6 hu
  have h6 := h5.kp0 hLB hu.kp
  have hcl : (condsL t).length ≤ 1000000 := by
    have := conds_len hops
    simp only [condsL, List.length_cons]
    omega
  simp
  refine cl_of (containsL_spec u (condsL t) hu.own.vw (conds_vw (ht5.kp hu.kp)) (by omega)) ?_
  rintro _ w7 ⟨rfl, k7⟩
  have e : (!(smB (condsL t))) = largeB t := by
    have e1 : (t.ops.all fun o => decide (o.effs.length ≤ 64)) = true := by
      rw [List.all_eq_true]; exact fun o ho => decide_eq_true (hops o ho)
    have e2 : decide (t.vars.length ≤ 64) = true := by simp; omega
    have e3 : decide (t.ops.length ≤ 4096) = true := by simp; omega
    simp only [largeB, e1, e2, e3, Bool.true_and, smB]
  simp [e]
  exact h6.kp.trans0 k7
end Go.Proofs.Ytcplpogmbacnfaa
end
