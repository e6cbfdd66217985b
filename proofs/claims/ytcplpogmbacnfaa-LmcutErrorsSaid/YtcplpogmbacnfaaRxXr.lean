/-
  Parts of the proofs of this seat's statements (RxXE, RxXF); no conditions beyond those each theorem names.
-/
import Derived.Test.YtcplpogmbacnfaaRxXD
import Derived.Test.YtcplpogmbacnfaaRxPa
section
set_option maxRecDepth 100000
set_option linter.unusedSimpArgs false
set_option linter.unusedVariables false
namespace Go.Proofs.Ytcplpogmbacnfaa
open Go Go.W Go.Tk Go.Rx Go.Maps
theorem unsK_pre {t : Nt} {cost : Nat → Nat} {i : Nat} : ∀ n, i ≤ n → ∃ r, unsK t cost n = unsK t cost i ++ r
  | 0, h => ⟨[], by have : i = 0 := by omega
                    subst this; simp⟩
  | n + 1, h => by
    by_cases e : i = n + 1
    · subst e; exact ⟨[], by simp⟩
    · obtain ⟨r, hr⟩ := unsK_pre (t := t) (cost := cost) n (show i ≤ n by omega)
      unfold unsK at hr ⊢
      rw [List.range_succ, List.flatMap_append, hr, List.append_assoc]
      exact ⟨_, rfl⟩
theorem opU_pre {vars : List Nat} {o : No} {i c j k : Nat} (h : j ≤ k) : ∃ r, opU vars o i c k = opU vars o i c j ++ r := by
  unfold opU
  refine ⟨((List.range k).drop j).map (unA vars o i c), ?_⟩
  rw [← List.map_append]
  congr 1
  have : List.range j = (List.range k).take j := by rw [List.take_range, Nat.min_eq_left h]
  rw [this, List.take_append_drop]
theorem find_mid {α : Type} {l a b : List α} {x : α} {p : α → Bool} (e : l = a ++ [x] ++ b) (ha : ∀ y ∈ a, p y = false) (hx : p x = true) : l.find? p = some x := by
  rw [e, List.append_assoc, List.find?_append, find_no ha]
  simp [hx]
def NoS (l : List Un) (V : Nat → Nat) (n : Nat) : Prop := ∀ y ∈ l, isSup V n y = false
theorem NoS.app {a b : List Un} {V : Nat → Nat} {n : Nat} (h1 : NoS a V n) (h2 : NoS b V n) : NoS (a ++ b) V n := fun y hy => by
  rcases List.mem_append.1 hy with h | h
  · exact h1 y h
  · exact h2 y h
theorem NoS.one {u : Un} {V : Nat → Nat} {n : Nat} (h : isSup V n u = false) : NoS [u] V n := fun y hy => by
  simp at hy; subst hy; exact h
end Go.Proofs.Ytcplpogmbacnfaa
end
section
set_option maxRecDepth 100000
set_option linter.unusedSimpArgs false
set_option linter.unusedVariables false
namespace Go.Proofs.Ytcplpogmbacnfaa
open Go Go.W Go.Tk Go.Rx Go.Maps
def nmL (vars : List Nat) (l : List Fc) : List Nat := l.map (numF vars)
def alB (vars : List Nat) (lay : Nat → Int) (l : List Fc) : Bool := l.all fun f => decide (0 ≤ lay (numF vars f))
/-- A fact is appended. -/
theorem fc_append {w w1 : World} {F : List Nat} {B : Asr} {ov : Value} {l : List Fc} {x : Fc} {KV : Kont (Value × World)} (hB : Lcl B) (h : At w F (Star (OwnA ov 58 2 fcE l) B) w1) (hl : l.length ≤ 1000000)
    (H : ∀ v' w2, At w F (Star (OwnA v' 58 2 fcE (l ++ [x])) B) w2 → KV.run (v', w2)) :
    @efH Try.prog (Builtin.append_ #[23, 23] 23 [ov, .slice (some ⟨w1.heap.size, 0, none⟩) 1 1].toArray) (w1.alloc (.cells #[.int .i64 (x.1 : Nat), .int .i64 (x.2 : Nat)] 58)) KV := by
  have h4 := h.kp0 (Lcl.own.star hB) ((Kp.refl [] w1).alloc (.cells #[.int .i64 (x.1 : Nat), .int .i64 (x.2 : Nat)] 58))
  refine At.append (xs := [x]) hB h4 fcE_len fcE_one sl_23 rfl (fun j u hj => ?_) (by omega) (by unfold maxLen; omega) fun v' w5 h5 => H v' w5 h5
  simp [fcE] at hj
  rw [add_none, cell_blk alloc_new]
  simpa using hj
structure Pas (T : Nt) (lay : Nat → Int) (A : List Un) (c : Nat) (l : List Fc) : Prop where
  rng : FcRng T.vars l
  snd : Snd (uns T fun _ => 0) lay (nmL T.vars l)
  ful : Ful A lay (nmL T.vars l)
  len : l.length ≤ c
def LwI (T : Nt) (tv : Value) (b : Nat) (S : List Nat) (w : World) (n : Nat) (ρ : Env) (w' : World) : Prop :=
  ∃ k lay, n = ngs T.vars.sum lay ∧ k + n ≤ T.vars.sum ∧ Lw (uns T fun _ => 0) S k lay ∧ ρ 2 = .pointer (some ⟨b, 0, none⟩) ∧ ρ 5 = tv ∧ ρ 6 = .int .i64 (k : Nat) ∧
    ∃ ps : List (Cell1 × List Int), ps.map (·.2) = tbI T.vars lay ∧ At w [] (Star (TabA tv 22 3 iE ps) (Star (ObjA b (ntO T)) Emp)) w'
def LwO (T : Nt) (tv : Value) (b k : Nat) (lay : Nat → Int) (ps : List (Cell1 × List Int)) (w : World) (i : Nat) (ρ : Env) (w' : World) : Prop :=
  ρ 2 = .pointer (some ⟨b, 0, none⟩) ∧ ρ 5 = tv ∧ ρ 6 = .int .i64 (k : Nat) ∧ ρ 23 = T.ov.1 ∧ ∃ l, Pas T lay (unsK T (fun _ => 0) i) (64 * i) l ∧ At w [] (Star (OwnA (ρ 7) 58 2 fcE l) (Star (TabA tv 22 3 iE ps) (Star (ObjA b (ntO T)) Emp))) w'
def LwE (T : Nt) (tv : Value) (b k : Nat) (lay : Nat → Int) (ps : List (Cell1 × List Int)) (w : World) (i ob : Nat) (o : No) (j : Nat) (ρ : Env) (w' : World) : Prop :=
  ρ 2 = .pointer (some ⟨b, 0, none⟩) ∧ ρ 5 = tv ∧ ρ 6 = .int .i64 (k : Nat) ∧ ρ 23 = T.ov.1 ∧ ρ 24 = .int .i64 (T.ops.length : Nat) ∧ ρ 25 = .int .i64 (i : Nat) ∧ ρ 9 = .pointer (some ⟨ob, 0, none⟩) ∧ ρ 30 = o.ev.1 ∧
    ∃ l, Pas T lay (unsK T (fun _ => 0) i ++ opU T.vars o i 0 j) (64 * i + j) l ∧ At w [] (Star (OwnA (ρ 7) 58 2 fcE l) (Star (TabA tv 22 3 iE ps) (Star (ObjA ob (noO o)) (Star (ObjA b (ntO T)) Emp)))) w'
def LwN (T : Nt) (tv nv xv : Value) (b k : Nat) (lay : Nat → Int) (ps : List (Cell1 × List Int)) (w : World) (i ob fb : Nat) (o : No) (e : Nf) (nd : List Fc) (j : Nat) (l : List Fc) (z : Nat) (ρ : Env) (w' : World) : Prop :=
  ρ 2 = .pointer (some ⟨b, 0, none⟩) ∧ ρ 5 = tv ∧ ρ 6 = .int .i64 (k : Nat) ∧ ρ 23 = T.ov.1 ∧ ρ 24 = .int .i64 (T.ops.length : Nat) ∧ ρ 25 = .int .i64 (i : Nat) ∧ ρ 9 = .pointer (some ⟨ob, 0, none⟩) ∧ ρ 30 = o.ev.1 ∧ ρ 31 = .int .i64 (o.effs.length : Nat) ∧ ρ 32 = .int .i64 (j : Nat) ∧ ρ 11 = .pointer (some ⟨fb, 0, none⟩) ∧ ρ 49 = nv ∧ ρ 7 = xv ∧
    ρ 12 = .bool (alB T.vars lay (nd.take z)) ∧ At w [] (Star (OwnA nv 58 2 fcE nd) (Star (OwnA xv 58 2 fcE l) (Star (TabA tv 22 3 iE ps) (Star (ObjA ob (noO o)) (Star (ObjA fb (nfO e)) (Star (ObjA b (ntO T)) Emp)))))) w'
def FxL (T : Nt) (tv xv : Value) (b k : Nat) (lay : Nat → Int) (l : List Fc) (y : Nat) (w : World) (w' : World) : Prop :=
  ∃ ps : List (Cell1 × List Int), ps.map (·.2) = tbI T.vars (layN lay k (nmL T.vars (l.take y))) ∧ At w [] (Star (OwnA xv 58 2 fcE l) (Star (TabA tv 22 3 iE ps) (Star (ObjA b (ntO T)) Emp))) w'
theorem layN_nil {lay : Nat → Int} {k : Nat} : layN lay k [] = lay := by funext g; simp [layN]
theorem layN_snoc {lay : Nat → Int} {k f : Nat} {A : List Nat} : updN (layN lay k A) f ((k : Int) + 1) = layN lay k (A ++ [f]) := by
  funext g
  unfold layN
  by_cases e : g = f
  · subst e; simp
  · rw [updN_ne e]; simp [e]
theorem alB_succ {vars : List Nat} {lay : Nat → Int} {l : List Fc} {z : Nat} {f : Fc} (h : l[z]? = some f) : alB vars lay (l.take (z + 1)) = (alB vars lay (l.take z) && decide (0 ≤ lay (numF vars f))) := by
  unfold alB; rw [take_snoc h, List.all_append]; simp
theorem tab_row {T : Nt} {lay : Nat → Int} {ps : List (Cell1 × List Int)} (hps : ps.map (·.2) = tbI T.vars lay) {v : Nat} (hv : v < T.vars.length) : ∃ p, ps[v]? = some p ∧ p.2 = rwI T.vars lay v := by
  obtain ⟨p, hp⟩ : ∃ p, ps[v]? = some p := ⟨_, List.getElem?_eq_getElem (by
    have := congrArg List.length hps
    rw [List.length_map] at this
    rw [this]; unfold tbI; rw [tbK_len]; exact hv)⟩
  refine ⟨p, hp, ?_⟩
  have e1 : (ps.map (·.2))[v]? = some p.2 := by rw [List.getElem?_map, hp]; rfl
  rw [hps] at e1
  unfold tbI tbK at e1
  rw [List.getElem?_map, List.getElem?_range hv] at e1
  exact (Option.some.inj e1).symm
end Go.Proofs.Ytcplpogmbacnfaa
end
