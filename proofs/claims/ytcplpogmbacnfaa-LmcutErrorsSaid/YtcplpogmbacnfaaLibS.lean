/-
  Parts of the proofs of this seat's statements (LibL, LibM, LibN); no conditions beyond those each theorem names.
-/
import Derived.Test.YtcplpogmbacnfaaLibR
import Derived.Test.YtcplpogmbacnfaaLibQ
section
set_option linter.unusedVariables false
set_option linter.unusedSimpArgs false
set_option linter.unusedSectionVars false
namespace Go.W
open Go
/-! ### Calls of methods of interface values -/
/-- A method of a type: the function, and whether it takes the pointer. -/
def mth (P : Program) (t : TypeId) (name : String) : Option (Nat × Bool) := (P.info? t).bind fun i => (i.methods.find? (·.name == name)).bind fun m => if m.path.isEmpty then m.func else none
def ivH (P : Program) (w : World) (v : Value) (name : String) (args : List Value) [k : Kont (Value × World)] : Prop := upon2 P (fun v w' => k.run (v, w')) ((callMethod v name args.toArray).run P w)
section
variable {P : Program} {ρ : Env} {w : World} {KW : Value → World → Prop} {KV : Kont (Value × World)} {ty : Nat} {args : List Value} {name : String} {v : Value}
@[simp ↓] theorem opS_invoke {r : Operand} {m : String} {args : Array Operand} {tys : Array Nat} : opS P 2 (.call ⟨.invoke r m, args, tys⟩) ty ρ w KW = @ivH P w (ρ.ev r) m (args.toList.map ρ.ev) ⟨fun q => KW q.1 q.2⟩ := by
  show upon2 P KW _ = upon2 P KW _
  congr 1
  have e : (#[ρ.ev r] ++ args.map ρ.ev).extract 1 (#[ρ.ev r] ++ args.map ρ.ev).size = (args.toList.map ρ.ev).toArray := by
    apply Array.ext'
    simp
    exact List.take_of_length_le (by simp)
  have h0 : (#[ρ.ev r] ++ args.map ρ.ev)[0]? = some (ρ.ev r) := by
    rw [Array.getElem?_append_left (by simp)]; rfl
  simp only [LO.exec, execOp, resolve, Sem.run_bind, Sem.run_pure, Result.andThen_ok, invoke, h0, e]
theorem mth_spec {t f : Nat} {b : Bool} (h : mth P t name = some (f, b)) : ∃ i m, P.info? t = some i ∧ i.methods.find? (·.name == name) = some m ∧ m.path = #[] ∧ m.func = some (f, b) := by
  unfold mth at h
  rw [Option.bind_eq_some_iff] at h
  obtain ⟨i, hi, h⟩ := h
  rw [Option.bind_eq_some_iff] at h
  obtain ⟨m, hm, h⟩ := h
  split at h
  · rename_i hp
    exact ⟨i, m, hi, hm, by simpa using hp, h⟩
  · cases h
theorem callFunc_enter {f : Nat} {as : Array Value} (he : enterable P f = true) : (callFunc f as).run P w = .ok (.enter f as) w := by
  unfold enterable at he
  split at he
  · rename_i fn hf
    simp only [Bool.and_eq_true, bne_iff_ne, ne_eq] at he
    have hb : fn.body.isNone = false := by
      cases hh : fn.body with
      | none => rw [hh] at he; simp at he
      | some _ => rfl
    simp only [callFunc, Sem.run_bind, run_program, Result.andThen_ok, hf, beq_iff_eq, he.2, if_false, hb, Bool.false_eq_true, Sem.run_pure]
  · cases he
theorem depth_pos : ∃ k, P.types.size + Made.depth = k + 1 := ⟨P.types.size + Made.depth - 1, by
  have : Made.depth ≠ 0 := by decide
  omega⟩
/-- A pointer's method. -/
theorem iv_p {t f e : Nat} (hm : mth P t name = some (f, true)) (hu : P.underlying t = some (.pointer e)) (he : enterable P f = true) : @ivH P w (.iface t v) name args KV = @clJ P w f (v :: args) KV := by
  obtain ⟨i, m, hi, hf, hp, hfn⟩ := mth_spec hm
  obtain ⟨k, hk⟩ := depth_pos (P := P)
  unfold ivH
  simp only [callMethod, Sem.run_bind, run_program, Result.andThen_ok, hk, method, typeInfo, hi, Sem.run_pure, hf, hp, follow, hfn, receiverAt, run_underlying hu, Place.get, callFunc_enter he]
  have e : #[v] ++ args.toArray = (v :: args).toArray := by simp
  rw [e]
  rfl
theorem loadVar_one {e : Nat} {a : Addr} {x : Value} (hg : tyAgg P e = some none) (hx : w.cell? a = some x) : (loadVar e a).run P w = .ok x w := by
  have hi : (isAgg e).run P w = .ok false w := by
    unfold tyAgg at hg
    split at hg
    · cases hg
    · cases hg
    · rename_i d i hna1 hna2 hu hi
      unfold isAgg
      rw [Sem.run_bind, run_underlying hu]
      simp only [Result.andThen_ok]
      cases d <;> simp_all
    · cases hg
  simp [loadVar, hi, hx]
/-- A value's method, through the pointer. -/
theorem iv_v {t f e : Nat} {a : Addr} {x : Value} (hm : mth P t name = some (f, false)) (hu : P.underlying t = some (.pointer e)) (hg : tyAgg P e = some none) (he : enterable P f = true) (hx : w.cell? a = some x) : @ivH P w (.iface t (.pointer (some a))) name args KV = @clJ P w f (x :: args) KV := by
  obtain ⟨i, m, hi, hf, hp, hfn⟩ := mth_spec hm
  obtain ⟨k, hk⟩ := depth_pos (P := P)
  unfold ivH
  simp only [callMethod, Sem.run_bind, run_program, Result.andThen_ok, hk, method, typeInfo, hi, Sem.run_pure, hf, hp, follow, hfn, receiverAt, run_underlying hu, Place.get]
  have e1 : (#[] : Array FieldStep).isEmpty = true := rfl
  have hw : ∀ n : String, (Builtin.ssaWrapNilChk_ #[t] t #[.pointer (some a), strVal "", strVal n]) = pure (.pointer (some a)) := fun n => rfl
  simp only [e1, if_true, hw, Sem.run_bind, Sem.run_pure, Result.andThen_ok, asAddr, loadVar_one hg hx, callFunc_enter he]
  have e : #[x] ++ args.toArray = (x :: args).toArray := by simp
  rw [e]
  rfl
end
end Go.W
end
section
set_option linter.unusedVariables false
set_option linter.unusedSimpArgs false
set_option linter.unusedSectionVars false
namespace Go.W
open Go
/-! ### Rows of one's own, in a list -/
section
variable {α : Type} {enc : α → List Value} {E sz : Nat} {B X Y : Asr} {w w1 : World} {F : List Nat}
def RowsA (E sz : Nat) (enc : α → List Value) : List (Cell1 × List α) → Asr → Asr
  | [], B => B
  | p :: ps, B => Star (OwnA p.1.1 E sz enc p.2) (RowsA E sz enc ps B)
theorem Lcl.rows (hB : Lcl B) : ∀ (ps : List (Cell1 × List α)), Lcl (RowsA E sz enc ps B)
  | [] => hB
  | p :: ps => Lcl.own.star (Lcl.rows hB ps)
/-- A row comes to the front. -/
theorem RowsA.out : ∀ (ps : List (Cell1 × List α)) (i : Nat) (p : Cell1 × List α), ps[i]? = some p → Imp (RowsA E sz enc ps B) (Star (OwnA p.1.1 E sz enc p.2) (RowsA E sz enc (ps.eraseIdx i) B))
  | [], i, p, h => by simp at h
  | q :: ps, 0, p, h => by
    simp at h; subst h
    exact Imp.rfl
  | q :: ps, i + 1, p, h => by
    simp only [List.eraseIdx_cons_succ, RowsA]
    exact (Imp.un (RowsA.out ps i p (by simpa using h))).trans Imp.sw
/-- It goes back. -/
theorem RowsA.back : ∀ (ps : List (Cell1 × List α)) (i : Nat) (p : Cell1 × List α), i < ps.length → Imp (Star (OwnA p.1.1 E sz enc p.2) (RowsA E sz enc (ps.eraseIdx i) B)) (RowsA E sz enc (ps.set i p) B)
  | [], i, p, h => by simp at h
  | q :: ps, 0, p, h => Imp.rfl
  | q :: ps, i + 1, p, h => by
    simp only [List.eraseIdx_cons_succ, RowsA, List.set_cons_succ]
    exact Imp.sw.trans (Imp.un (RowsA.back ps i p (by simpa using h)))
theorem RowsA.imp (h : Imp X Y) : ∀ (ps : List (Cell1 × List α)), Imp (RowsA E sz enc ps X) (RowsA E sz enc ps Y)
  | [] => h
  | p :: ps => Imp.un (RowsA.imp h ps)
/-- What lies behind the rows comes before them. -/
theorem RowsA.up : ∀ (ps : List (Cell1 × List α)), Imp (RowsA E sz enc ps (Star X Y)) (Star X (RowsA E sz enc ps Y))
  | [] => Imp.rfl
  | p :: ps => (Imp.un (RowsA.up ps)).trans Imp.sw
theorem RowsA.down : ∀ (ps : List (Cell1 × List α)), Imp (Star X (RowsA E sz enc ps Y)) (RowsA E sz enc ps (Star X Y))
  | [] => Imp.rfl
  | p :: ps => Imp.sw.trans (Imp.un (RowsA.down ps))
theorem RowsA.drop : ∀ (ps : List (Cell1 × List α)), Imp (RowsA E sz enc ps X) X
  | [] => Imp.rfl
  | p :: ps => Imp.dr.trans (RowsA.drop ps)
theorem At.rows_vw {ps : List (Cell1 × List α)} (h : At w F (RowsA E sz enc ps B) w1) {p : Cell1 × List α} (hp : p ∈ ps) : Vw w1 p.1.1 enc p.2 := by
  obtain ⟨i, hi, rfl⟩ := List.getElem_of_mem hp
  exact (h.by (RowsA.out ps i _ (List.getElem?_eq_getElem hi))).own.vw
/-- Empty rows. -/
theorem At.rows_nil (hB : Lcl B) (h : At w F B w1) (o : oneC (.slice none 0 0) = true) : ∀ n, At w F (RowsA E sz enc (List.replicate n ((⟨.slice none 0 0, o⟩, []) : Cell1 × List α)) B) w1
  | 0 => h
  | n + 1 => by
    rw [List.replicate_succ]
    exact At.nil (Lcl.rows hB _) (At.rows_nil hB h o n)
end
/-! ### Tables: a list of rows, all of one's own -/
section
variable {α : Type} {enc : α → List Value} {E E2 : Nat} {B : Asr} {w w1 : World} {F : List Nat} {v : Value} {ps : List (Cell1 × List α)}
def Tb2 (v : Value) (E2 E : Nat) (enc : α → List Value) (ps : List (Cell1 × List α)) (B : Asr) : Asr := Star (OwnA v E2 1 sv1 ps) (RowsA E 1 enc ps B)
theorem Lcl.tb2 (hB : Lcl B) : Lcl (Tb2 v E2 E enc ps B) := Lcl.own.star (Lcl.rows hB ps)
theorem Own.same {β γ : Type} {encb : β → List Value} {encc : γ → List Value} {l : List β} {l' : List γ} {sz : Nat} (h : Own w v E sz encb l) (e : l.flatMap encb = l'.flatMap encc) (hl : l.length = l'.length) : Own w v E sz encc l' := by
  unfold Own at *
  rw [← e, ← hl]
  rcases h with ⟨h1, h2⟩ | h
  · left
    subst h2
    refine ⟨h1, ?_⟩
    simp at hl
    exact List.eq_nil_of_length_eq_zero hl.symm
  · exact .inr h
theorem OwnA.same {β γ : Type} {encb : β → List Value} {encc : γ → List Value} {l : List β} {l' : List γ} {sz : Nat} {X : Asr} (e : l.flatMap encb = l'.flatMap encc) (hl : l.length = l'.length) : Imp (Star (OwnA v E sz encb l) X) (Star (OwnA v E sz encc l') X) := by
  rintro w F ⟨Fa, Fb, ⟨h1, h2⟩, h3, hd, rfl⟩
  exact ⟨_, ⟨Fa, Fb, ⟨h1.same e hl, h2⟩, h3, hd, rfl⟩, fun x hx => hx⟩
theorem sv1_set (ps : List (Cell1 × List α)) {i : Nat} {p : Cell1 × List α} (hi : ps[i]? = some p) (l : List α) : ps.flatMap sv1 = (ps.set i (p.1, l)).flatMap sv1 := by
  induction ps generalizing i with
  | nil => rfl
  | cons q ps ih =>
    cases i with
    | zero => simp at hi; subst hi; rfl
    | succ i => simp only [List.set_cons_succ, List.flatMap_cons]; rw [ih (by simpa using hi)]
theorem Tb2.own (h : At w F (Tb2 v E2 E enc ps B) w1) : Own w1 v E2 1 sv1 ps := At.own h
theorem Tb2.rowI {i : Nat} {p : Cell1 × List α} (hi : ps[i]? = some p) : Imp (Tb2 v E2 E enc ps B) (Star (OwnA p.1.1 E 1 enc p.2) (Star (OwnA v E2 1 sv1 ps) (RowsA E 1 enc (ps.eraseIdx i) B))) := (Imp.un (RowsA.out ps i p hi)).trans Imp.sw
theorem Tb2.row {i : Nat} {p : Cell1 × List α} (h : At w F (Tb2 v E2 E enc ps B) w1) (hi : ps[i]? = some p) : Own w1 p.1.1 E 1 enc p.2 := (h.by (Tb2.rowI hi)).own
theorem Tb2.drop : Imp (Tb2 v E2 E enc ps B) B := Imp.dr.trans (RowsA.drop ps)
/-- A row with new contents goes back. -/
theorem Tb2.rowB {i : Nat} {p : Cell1 × List α} {l : List α} (hi : ps[i]? = some p) : Imp (Star (OwnA p.1.1 E 1 enc l) (Star (OwnA v E2 1 sv1 ps) (RowsA E 1 enc (ps.eraseIdx i) B))) (Tb2 v E2 E enc (ps.set i (p.1, l)) B) := by
  have hlt : i < ps.length := (List.getElem?_eq_some_iff.1 hi).1
  exact Imp.sw.trans ((Imp.un (RowsA.back ps i (p.1, l) hlt)).trans (OwnA.same (sv1_set ps hi l) (by simp)))
/-- A cell of a table is written. -/
theorem Tb2.store {KW : Kont World} {i k : Nat} {p : Cell1 × List α} {x : α} {cs : List Value} (hB : Lcl B) (h : At w F (Tb2 v E2 E enc ps B) w1) (hi : ps[i]? = some p) (he : ∀ x, (enc x).length = 1) (h1 : ∀ x, (enc x).all oneC = true) (hk : k < p.2.length) (hcs : cs = enc x)
    (H : ∀ w2, At w F (Tb2 v E2 E enc (ps.set i (p.1, p.2.set k x)) B) w2 → KW.run w2) : @stJ w1 ⟨p.1.1.blk, k, none⟩ cs KW :=
  (h.by (Tb2.rowI hi)).store1 (Lcl.own.star (Lcl.rows hB _)) he h1 hk hcs fun w2 h2 => H w2 (h2.by (Tb2.rowB hi))
/-- A row is replaced by another one. -/
theorem Tb2.put {KW : Kont World} {i : Nat} {p q : Cell1 × List α} {cs : List Value} (hB : Lcl B) (h : At w F (Star (OwnA q.1.1 E 1 enc q.2) (Star (OwnA v E2 1 sv1 ps) (RowsA E 1 enc (ps.eraseIdx i) B))) w1) (hi : ps[i]? = some p) (hcs : cs = [q.1.1])
    (H : ∀ w2, At w F (Tb2 v E2 E enc (ps.set i q) B) w2 → KW.run w2) : @stJ w1 ⟨v.blk, i, none⟩ cs KW := by
  have hlt : i < ps.length := (List.getElem?_eq_some_iff.1 hi).1
  exact (h.by Imp.sw).store1 (Lcl.own.star (Lcl.rows hB _)) sv1_len sv1_one hlt (x := q) hcs fun w2 h2 => H w2 (h2.by (Imp.un (RowsA.back ps i q hlt)))
end
end Go.W
namespace Go.W
open Go
section
variable {α : Type} {enc : α → List Value} {E E2 : Nat} {B X : Asr} {w w1 : World} {F : List Nat} {v : Value} {ps : List (Cell1 × List α)}
/-- A table as one assertion. -/
def TabA (v : Value) (E2 E : Nat) (enc : α → List Value) (ps : List (Cell1 × List α)) : Asr := Tb2 v E2 E enc ps Emp
theorem Lcl.tab : Lcl (TabA v E2 E enc ps) := Lcl.tb2 Lcl.emp
theorem Imp.as {A B C : Asr} : Imp (Star (Star A B) C) (Star A (Star B C)) := fun w F h => Star.assoc h
theorem Imp.as' {A B C : Asr} : Imp (Star A (Star B C)) (Star (Star A B) C) := fun w F h => Star.assoc' h
theorem Imp.left {A B C : Asr} (h : Imp A B) : Imp (Star A C) (Star B C) := by
  rintro w F ⟨Fa, Fb, h1, h2, hd, rfl⟩
  obtain ⟨F', h3, h4⟩ := h w Fa h1
  exact ⟨_, ⟨F', Fb, h3, h2, fun x hx => hd x (h4 x hx), Eq.refl _⟩, fun x hx => by
    rcases List.mem_append.1 hx with h5 | h5
    · exact List.mem_append.2 (.inl (h4 x h5))
    · exact List.mem_append.2 (.inr h5)⟩
theorem Imp.em {X : Asr} : Imp X (Star Emp X) := fun w F h => ⟨[] ++ F, ⟨[], F, Eq.refl _, h, by simp, Eq.refl _⟩, fun x hx => by simpa using hx⟩
theorem RowsA.opn : ∀ (ps : List (Cell1 × List α)), Imp (Star (RowsA E 1 enc ps Emp) X) (RowsA E 1 enc ps X)
  | [] => Imp.dr
  | p :: ps => Imp.as.trans (Imp.un (RowsA.opn ps))
theorem RowsA.cls : ∀ (ps : List (Cell1 × List α)), Imp (RowsA E 1 enc ps X) (Star (RowsA E 1 enc ps Emp) X)
  | [] => Imp.em
  | p :: ps => (Imp.un (RowsA.cls ps)).trans Imp.as'
theorem TabA.opn : Imp (Star (TabA v E2 E enc ps) X) (Tb2 v E2 E enc ps X) := Imp.as.trans (Imp.un (RowsA.opn ps))
theorem TabA.cls : Imp (Tb2 v E2 E enc ps X) (Star (TabA v E2 E enc ps) X) := (Imp.un (RowsA.cls ps)).trans Imp.as'
theorem TabA.row {i : Nat} {p : Cell1 × List α} (h : At w F (Star (TabA v E2 E enc ps) B) w1) (hi : ps[i]? = some p) : Own w1 p.1.1 E 1 enc p.2 := Tb2.row (h.by TabA.opn) hi
theorem TabA.own (h : At w F (Star (TabA v E2 E enc ps) B) w1) : Own w1 v E2 1 sv1 ps := Tb2.own (h.by TabA.opn)
theorem TabA.store {KW : Kont World} {i k : Nat} {p : Cell1 × List α} {x : α} {cs : List Value} (hB : Lcl B) (h : At w F (Star (TabA v E2 E enc ps) B) w1) (hi : ps[i]? = some p) (he : ∀ x, (enc x).length = 1) (h1 : ∀ x, (enc x).all oneC = true) (hk : k < p.2.length) (hcs : cs = enc x)
    (H : ∀ w2, At w F (Star (TabA v E2 E enc (ps.set i (p.1, p.2.set k x))) B) w2 → KW.run w2) : @stJ w1 ⟨p.1.1.blk, k, none⟩ cs KW :=
  Tb2.store hB (h.by TabA.opn) hi he h1 hk hcs fun w2 h2 => H w2 (h2.by TabA.cls)
/-- Something is appended to a row; it is still to be put back. -/
theorem TabA.append {P : Program} {KV : Kont (Value × World)} {T ty by_ : Nat} {z : List Value} {i : Nat} {p : Cell1 × List α} (hB : Lcl B) (h : At w F (Star (TabA v E2 E enc ps) B) w1) (hi : ps[i]? = some p) (he : ∀ x, (enc x).length = 1) (h1 : ∀ x, (enc x).all oneC = true)
    (hT : slInfo P T = some (E, 1, by_, z)) {a : Addr} {m c : Nat} {xs : List α} (hm : xs.length = m) (hx : ∀ j u, (xs.flatMap enc)[j]? = some u → w1.cell? (a.add j) = some u)
    (hb : (p.2.length + m) * by_ ≤ 140737488355328) (hmax : p.2.length + m ≤ maxLen)
    (H : ∀ v' w2, At w F (Star (OwnA v' E 1 enc (p.2 ++ xs)) (Star (OwnA v E2 1 sv1 ps) (RowsA E 1 enc (ps.eraseIdx i) B))) w2 → KV.run (v', w2)) :
    @efH P (Builtin.append_ #[T, T] ty [p.1.1, .slice (some a) m c].toArray) w1 KV :=
  At.append (Lcl.own.star (Lcl.rows hB _)) ((h.by TabA.opn).by (Tb2.rowI hi)) he h1 hT hm hx hb hmax H
theorem TabA.put {KW : Kont World} {i : Nat} {p : Cell1 × List α} {u : Value} {l : List α} {cs : List Value} (hB : Lcl B) (h : At w F (Star (OwnA u E 1 enc l) (Star (OwnA v E2 1 sv1 ps) (RowsA E 1 enc (ps.eraseIdx i) B))) w1) (hi : ps[i]? = some p) (hcs : cs = [u])
    (H : ∀ (ho : oneC u = true) w2, At w F (Star (TabA v E2 E enc (ps.set i (⟨u, ho⟩, l))) B) w2 → KW.run w2) : @stJ w1 ⟨v.blk, i, none⟩ cs KW :=
  Tb2.put (q := (⟨u, h.own.o1⟩, l)) hB h hi hcs fun w2 h2 => H h.own.o1 w2 (h2.by TabA.cls)
end
end Go.W
namespace Go.W
open Go
theorem Imp.ow {α : Type} {v : Value} {E sz : Nat} {enc : α → List Value} {l : List α} {X : Asr} : Imp (Star (OwnA v E sz enc l) X) (Star (VwA v enc l) X) := by
  rintro w F ⟨Fa, Fb, ⟨h1, e1⟩, h2, hd, e⟩
  subst e e1
  refine ⟨_, ⟨v.own, Fb, ⟨h1.vw, Eq.refl _, fun x hx => ?_⟩, h2, hd, Eq.refl _⟩, fun x hx => hx⟩
  rcases h1 with ⟨rfl, _⟩ | ⟨g, cap, cur, junk, rfl, hh, _⟩
  · cases hx
  · simp at hx; subst hx; exact lt_of_blk hh
end Go.W
namespace Go.W
variable {X : Asr}
theorem Imp.fr2 {A1 A2 : Asr} : Imp (Star A1 (Star A2 X)) (Star A2 (Star A1 X)) := Imp.sw
theorem Imp.bk2 {A1 A2 : Asr} : Imp (Star A1 (Star A2 X)) (Star A2 (Star A1 X)) := Imp.sw
theorem Imp.fr3 {A1 A2 A3 : Asr} : Imp (Star A1 (Star A2 (Star A3 X))) (Star A3 (Star A1 (Star A2 X))) := (Imp.un Imp.fr2).trans Imp.sw
theorem Imp.bk3 {A1 A2 A3 : Asr} : Imp (Star A1 (Star A2 (Star A3 X))) (Star A2 (Star A3 (Star A1 X))) := Imp.sw.trans (Imp.un Imp.bk2)
theorem Imp.fr4 {A1 A2 A3 A4 : Asr} : Imp (Star A1 (Star A2 (Star A3 (Star A4 X)))) (Star A4 (Star A1 (Star A2 (Star A3 X)))) := (Imp.un Imp.fr3).trans Imp.sw
theorem Imp.bk4 {A1 A2 A3 A4 : Asr} : Imp (Star A1 (Star A2 (Star A3 (Star A4 X)))) (Star A2 (Star A3 (Star A4 (Star A1 X)))) := Imp.sw.trans (Imp.un Imp.bk3)
theorem Imp.fr5 {A1 A2 A3 A4 A5 : Asr} : Imp (Star A1 (Star A2 (Star A3 (Star A4 (Star A5 X))))) (Star A5 (Star A1 (Star A2 (Star A3 (Star A4 X))))) := (Imp.un Imp.fr4).trans Imp.sw
theorem Imp.bk5 {A1 A2 A3 A4 A5 : Asr} : Imp (Star A1 (Star A2 (Star A3 (Star A4 (Star A5 X))))) (Star A2 (Star A3 (Star A4 (Star A5 (Star A1 X))))) := Imp.sw.trans (Imp.un Imp.bk4)
theorem Imp.fr6 {A1 A2 A3 A4 A5 A6 : Asr} : Imp (Star A1 (Star A2 (Star A3 (Star A4 (Star A5 (Star A6 X)))))) (Star A6 (Star A1 (Star A2 (Star A3 (Star A4 (Star A5 X)))))) := (Imp.un Imp.fr5).trans Imp.sw
theorem Imp.bk6 {A1 A2 A3 A4 A5 A6 : Asr} : Imp (Star A1 (Star A2 (Star A3 (Star A4 (Star A5 (Star A6 X)))))) (Star A2 (Star A3 (Star A4 (Star A5 (Star A6 (Star A1 X)))))) := Imp.sw.trans (Imp.un Imp.bk5)
theorem Imp.fr7 {A1 A2 A3 A4 A5 A6 A7 : Asr} : Imp (Star A1 (Star A2 (Star A3 (Star A4 (Star A5 (Star A6 (Star A7 X))))))) (Star A7 (Star A1 (Star A2 (Star A3 (Star A4 (Star A5 (Star A6 X))))))) := (Imp.un Imp.fr6).trans Imp.sw
theorem Imp.bk7 {A1 A2 A3 A4 A5 A6 A7 : Asr} : Imp (Star A1 (Star A2 (Star A3 (Star A4 (Star A5 (Star A6 (Star A7 X))))))) (Star A2 (Star A3 (Star A4 (Star A5 (Star A6 (Star A7 (Star A1 X))))))) := Imp.sw.trans (Imp.un Imp.bk6)
theorem Imp.fr8 {A1 A2 A3 A4 A5 A6 A7 A8 : Asr} : Imp (Star A1 (Star A2 (Star A3 (Star A4 (Star A5 (Star A6 (Star A7 (Star A8 X)))))))) (Star A8 (Star A1 (Star A2 (Star A3 (Star A4 (Star A5 (Star A6 (Star A7 X)))))))) := (Imp.un Imp.fr7).trans Imp.sw
theorem Imp.bk8 {A1 A2 A3 A4 A5 A6 A7 A8 : Asr} : Imp (Star A1 (Star A2 (Star A3 (Star A4 (Star A5 (Star A6 (Star A7 (Star A8 X)))))))) (Star A2 (Star A3 (Star A4 (Star A5 (Star A6 (Star A7 (Star A8 (Star A1 X)))))))) := Imp.sw.trans (Imp.un Imp.bk7)
theorem Imp.fr9 {A1 A2 A3 A4 A5 A6 A7 A8 A9 : Asr} : Imp (Star A1 (Star A2 (Star A3 (Star A4 (Star A5 (Star A6 (Star A7 (Star A8 (Star A9 X))))))))) (Star A9 (Star A1 (Star A2 (Star A3 (Star A4 (Star A5 (Star A6 (Star A7 (Star A8 X))))))))) := (Imp.un Imp.fr8).trans Imp.sw
theorem Imp.bk9 {A1 A2 A3 A4 A5 A6 A7 A8 A9 : Asr} : Imp (Star A1 (Star A2 (Star A3 (Star A4 (Star A5 (Star A6 (Star A7 (Star A8 (Star A9 X))))))))) (Star A2 (Star A3 (Star A4 (Star A5 (Star A6 (Star A7 (Star A8 (Star A9 (Star A1 X))))))))) := Imp.sw.trans (Imp.un Imp.bk8)
theorem Imp.fr10 {A1 A2 A3 A4 A5 A6 A7 A8 A9 AA : Asr} : Imp (Star A1 (Star A2 (Star A3 (Star A4 (Star A5 (Star A6 (Star A7 (Star A8 (Star A9 (Star AA X)))))))))) (Star AA (Star A1 (Star A2 (Star A3 (Star A4 (Star A5 (Star A6 (Star A7 (Star A8 (Star A9 X)))))))))) := (Imp.un Imp.fr9).trans Imp.sw
theorem Imp.bk10 {A1 A2 A3 A4 A5 A6 A7 A8 A9 AA : Asr} : Imp (Star A1 (Star A2 (Star A3 (Star A4 (Star A5 (Star A6 (Star A7 (Star A8 (Star A9 (Star AA X)))))))))) (Star A2 (Star A3 (Star A4 (Star A5 (Star A6 (Star A7 (Star A8 (Star A9 (Star AA (Star A1 X)))))))))) := Imp.sw.trans (Imp.un Imp.bk9)
theorem Imp.fr11 {A1 A2 A3 A4 A5 A6 A7 A8 A9 AA AB : Asr} : Imp (Star A1 (Star A2 (Star A3 (Star A4 (Star A5 (Star A6 (Star A7 (Star A8 (Star A9 (Star AA (Star AB X))))))))))) (Star AB (Star A1 (Star A2 (Star A3 (Star A4 (Star A5 (Star A6 (Star A7 (Star A8 (Star A9 (Star AA X))))))))))) := (Imp.un Imp.fr10).trans Imp.sw
theorem Imp.bk11 {A1 A2 A3 A4 A5 A6 A7 A8 A9 AA AB : Asr} : Imp (Star A1 (Star A2 (Star A3 (Star A4 (Star A5 (Star A6 (Star A7 (Star A8 (Star A9 (Star AA (Star AB X))))))))))) (Star A2 (Star A3 (Star A4 (Star A5 (Star A6 (Star A7 (Star A8 (Star A9 (Star AA (Star AB (Star A1 X))))))))))) := Imp.sw.trans (Imp.un Imp.bk10)
theorem Imp.fr12 {A1 A2 A3 A4 A5 A6 A7 A8 A9 AA AB AC : Asr} : Imp (Star A1 (Star A2 (Star A3 (Star A4 (Star A5 (Star A6 (Star A7 (Star A8 (Star A9 (Star AA (Star AB (Star AC X)))))))))))) (Star AC (Star A1 (Star A2 (Star A3 (Star A4 (Star A5 (Star A6 (Star A7 (Star A8 (Star A9 (Star AA (Star AB X)))))))))))) := (Imp.un Imp.fr11).trans Imp.sw
theorem Imp.bk12 {A1 A2 A3 A4 A5 A6 A7 A8 A9 AA AB AC : Asr} : Imp (Star A1 (Star A2 (Star A3 (Star A4 (Star A5 (Star A6 (Star A7 (Star A8 (Star A9 (Star AA (Star AB (Star AC X)))))))))))) (Star A2 (Star A3 (Star A4 (Star A5 (Star A6 (Star A7 (Star A8 (Star A9 (Star AA (Star AB (Star AC (Star A1 X)))))))))))) := Imp.sw.trans (Imp.un Imp.bk11)
end Go.W
namespace Go.W
open Go Go.Maps
section
variable {κ : Type} [DecidableEq κ] {ek : κ → Value} {ok : κ → Prop} {P : Program} {k e t : TypeId} {w : World}
/-- A look into no map. -/
theorem look_nil {K : Kont Value} {x : κ} (hk : KeyEnc P k ek ok) (ht : P.underlying t = some (.map k e)) {z : Value} (hz : ∀ w, (zeroValue e).run P w = .ok z w) (hx : ok x) (H : K.run z) : @rdH P (Instr.lookup t (.map none) (ek x) false) w K := by
  refine rd_mk (fun w' hw => ?_) H
  obtain ⟨lx, hlx⟩ := hk.lit x hx
  rcases MapM.find (w := w') (w' := w') (b := 0) (ev := Value.bool) (es := #[]) (l := []) hk rfl (by simp) hx with ⟨h1, h2⟩ | ⟨j, v, e0, h1, h2, h3, h4⟩
  · simp [Instr.lookup, run_underlying ht, hk.keyed.check w' _ hlx, h1, hz, Result.andThen]
  · simp at h2
end
end Go.W
namespace Go.W
/-- A statement that simp leaves alone. -/
def Hid (p : Prop) : Prop := p
theorem Hid.mk {p : Prop} (h : p) : Hid p := h
theorem Hid.un {p : Prop} (h : Hid p) : p := h
end Go.W
end
section
set_option linter.unusedVariables false
set_option linter.unusedSimpArgs false
namespace Go.W
open Go Go.ChangeShapes Go.WideShapes Go.ChangeAt Go.RowKit Go.Deep
section
variable {H : Type} {enc : TypeId × Value → H} {P : Program}
/-- A slice in the input, by its elements. -/
theorem el_vw {α : Type} {encα : α → List Value} {ok : α → Prop} {W : World} {t e : TypeId} {sz : Nat} {v : Value} {fu : Nat} {x : DataW H × List MemPlace} (ht : P.underlying t = some (.slice e)) (hC : P.cellsOf e = sz) (hz : 0 < sz) (he : ∀ x, (encα x).length = sz)
    (hel : ∀ n cs x, cs.length = sz → DataW.trod enc P W 0 (fun _ => true) true n e cs = some x → ∃ a, cs = encα a ∧ ok a) 
    (h : DataW.trod enc P W 0 (fun _ => true) true fu t [v] = some x) :
    ∃ l : List α, Vw W v encα l ∧ (∀ a ∈ l, ok a) ∧ l.length ≤ maxLen := by
  rcases open_slice ht h with ⟨hcs, hx⟩ | ⟨a, len, cap, m, n, D, Pl, hcs, hb, hl, hm, hmm, hx, hi⟩
  · simp at hcs
    subst hcs
    exact ⟨[], Vw.nil _ _, by simp, by simp⟩
  · simp at hcs
    subst hcs
    simp only [if_true] at hmm
    subst hmm
    obtain ⟨n0, hn0⟩ : ∃ n0, n0 = len := ⟨_, rfl⟩
    rw [← hn0] at hl ⊢
    have key : ∀ k, k ≤ m → ∃ l : List α, l.length = k ∧ (∀ x ∈ l, ok x) ∧ ∀ j u, (l.flatMap encα)[j]? = some u → W.cell? (a.add j) = some u := by
      intro k
      induction k with
      | zero => exact fun _ => ⟨[], rfl, by simp, by simp⟩
      | succ k ih =>
        intro hk
        obtain ⟨l, hll, ho, hc⟩ := ih (by omega)
        obtain ⟨cs, hcs, htr⟩ := hi k (by omega)
        rw [hC] at hcs
        obtain ⟨_, hlen, hat⟩ := World.cells?_some hcs
        obtain ⟨x, rfl, hox⟩ := hel _ _ _ hlen htr
        refine ⟨l ++ [x], by simp [hll], ?_, ?_⟩
        · intro y hy
          rcases List.mem_append.1 hy with h1 | h1
          · exact ho y h1
          · simp at h1; subst h1; exact hox
        · intro j u hj
          rw [List.flatMap_append, List.flatMap_cons, List.flatMap_nil, List.append_nil] at hj
          have hfl := flatMap_len he l
          rw [hll] at hfl
          by_cases hjl : j < k * sz
          · rw [List.getElem?_append_left (by omega)] at hj
            exact hc j u hj
          · rw [List.getElem?_append_right (by omega), hfl] at hj
            have hjs : j - k * sz < sz := by have h9 := (List.getElem?_eq_some_iff.1 hj).1; rw [he x] at h9; exact h9
            have := hat (j - k * sz) hjs
            rw [Go.Deep.add_add, show k * sz + (j - k * sz) = j by omega] at this
            rw [this]; exact hj
    obtain ⟨l, hll, ho, hc⟩ := key m (Nat.le_refl _)
    have hvw : Vw W (.slice (some a) n0 m) encα (l.take n0) := by
      have hlen : (l.take n0).length = n0 := by simp; omega
      refine .inr ⟨a, m, by rw [hlen], by omega, fun hne => ?_, fun j u hj => hc j u ?_⟩
      · have hn0 : 0 < n0 := by
          rcases Nat.eq_zero_or_pos n0 with h0 | h0
          · subst h0; simp at hne
          · exact h0
        obtain ⟨cs, hcs, _⟩ := hi 0 (by omega)
        rw [hC] at hcs
        obtain ⟨_, hlen', hat⟩ := World.cells?_some hcs
        have h1 := hat 0 hz
        rw [List.getElem?_eq_getElem (by omega)] at h1
        have := World.cell?_spot h1
        rw [Go.Deep.add_add] at this
        simp at this
        simpa [Addr.add] using this
      · have : l.flatMap encα = (l.take n0).flatMap encα ++ (l.drop n0).flatMap encα := by rw [← List.flatMap_append, List.take_append_drop]
        rw [this, List.getElem?_append_left (List.getElem?_eq_some_iff.1 hj).1]
        exact hj
    exact ⟨_, hvw, fun x hx => ho x (List.mem_of_mem_take hx), by rw [List.length_take]; omega⟩
end
end Go.W
end
