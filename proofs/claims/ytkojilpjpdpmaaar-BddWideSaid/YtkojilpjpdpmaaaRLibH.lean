/-
  The walker's library, part LibH: plain theorems that the proofs of this seat use; no conditions beyond those each theorem names.
-/
import Derived.Test.YtkojilpjpdpmaaaRLibG
import Derived.Laws.Rows
import Derived.DeepKeys4
set_option linter.unusedVariables false
set_option linter.unusedSimpArgs false
set_option linter.unusedSectionVars false
namespace Go.W
open Go Go.Maps
/-! ### A result that lies in a block -/
theorem tyAgg_row {P : Program} {T n : Nat} (h : tyAgg P T = some (some n)) : ∃ d, P.underlying T = some d ∧ (match d with | .struct _ | .array _ _ => true | _ => false) = true ∧ (P.info? T).map (·.size) = some n := by
  unfold tyAgg at h
  split at h
  · rename_i fs i h1 h2
    simp only [Option.some.injEq] at h
    exact ⟨_, h1, rfl, by rw [h2]; simp [h]⟩
  · rename_i i h1 h2
    simp only [Option.some.injEq] at h
    exact ⟨_, h1, rfl, by rw [h2]; simp [h]⟩
  · split at h <;> simp at h
  · cases h
theorem postL_c1 {P : Program} {ρ : Env} {w : World} {R : Ending → World → Prop} {a T n g E : Nat} {cs : Array Value} {fr : Nat × Nat} (hT : tyAgg P T = some (some n)) (ha : ρ a = .pointer (some ⟨g, 0, none⟩)) (hg : w.heap[g]? = some (.cells cs E fr)) (hn : cs.size = n) (hE : E = T)
    (h : R (.returned (.agg cs)) w) : postL P [.cell a T] R .ret ρ w := by
  subst hE
  obtain ⟨d, h1, h2, h3⟩ := tyAgg_row hT
  refine ⟨.agg cs, ?_, h⟩
  have := run_loadVar_row (P := P) w g E E cs fr d hg h1 (by cases d <;> first | rfl | (simp at h2)) (by rw [h3, hn])
  simp [resAll, resOne, ha, asAddr, this, Result.andThen]
/-! ### Keys of integers -/
theorem mapM_some {α β : Type} {f : α → Option β} {g : α → β} : ∀ (l : List α), (∀ x ∈ l, f x = some (g x)) → l.mapM f = some (l.map g)
  | [], _ => rfl
  | x :: l, h => by
    rw [List.mapM_cons, h x (by simp), mapM_some l fun y hy => h y (by simp [hy])]
    rfl
def i64ok (n : Nat) : Prop := n ≤ 9223372036854775807
theorem wf_nat {n : Nat} (h : i64ok n) : (Lit.int .i64 (n : Int)).wf = true := by
  have h1 : IntKind.i64.min = -9223372036854775808 := rfl
  have h2 : IntKind.i64.max = 9223372036854775807 := rfl
  unfold i64ok at h
  simp only [Lit.wf, Bool.and_eq_true, decide_eq_true_eq]
  omega
/-- A list of numbers, as cells. -/
def ints (l : List Nat) : List Value := l.map fun (n : Nat) => .int .i64 (n : Int)
theorem keyLits_int {P : Program} {e d : Nat} (he : P.underlying e = some (.int .i64)) {n : Nat} (h : i64ok n) : P.keyLits (d + 1) e [.int .i64 (n : Int)] = some [.int .i64 (n : Int)] := by
  unfold Program.keyLits
  simp only [he]
  rw [if_pos ⟨trivial, wf_nat h⟩]
theorem ints_part {l : List Nat} {i : Nat} (h : i < l.length) : ((ints l).drop i).take 1 = [.int .i64 ((l.getD i 0 : Nat) : Int)] := by
  have hl : i < (ints l).length := by simpa [ints] using h
  rw [List.drop_eq_getElem_cons hl]
  simp [ints, List.getD, List.getElem?_eq_getElem h]
theorem key_array {P : Program} {k e n m : Nat} (hu : P.underlying k = some (.array n e)) (he : P.underlying e = some (.int .i64)) (h1 : P.cellsOf e = 1) (hn : P.cellsOf k = n) (hk : P.keyType k = true) (hm : P.types.size = m + 1) {l : List Nat} (hl : l.length = n) (hok : ∀ x ∈ l, i64ok x) :
    ∃ L, keyOf P k (.agg (ints l).toArray) = some L := by
  have hlen : (ints l).length = n := by simp [ints, hl]
  have hL : P.keyLits (m + 1 + 1) k (ints l) = some (((List.range n).map fun i => [Lit.int .i64 ((l.getD i 0 : Nat) : Int)]).flatten) := by
    unfold Program.keyLits
    simp only [hu]
    rw [if_pos (by rw [hn, hlen]), h1, mapM_some (g := fun i => [Lit.int .i64 ((l.getD i 0 : Nat) : Int)]) (List.range n) fun i hi => by
      have hil : i < l.length := by rw [hl]; exact List.mem_range.1 hi
      rw [Nat.mul_one, ints_part hil]
      exact keyLits_int he (hok _ (by simp [List.getD, List.getElem?_eq_getElem hil]))]
    rfl
  refine ⟨.string (keyBytes (((List.range n).map fun i => [Lit.int .i64 ((l.getD i 0 : Nat) : Int)]).flatten)), ?_⟩
  unfold keyOf
  simp only [hu]
  rw [if_pos (by simp [hk, Value.formed, hu, hn, hlen]), hm]
  have hcs : (Value.agg (ints l).toArray).cells.toList = ints l := by simp
  rw [hcs, hL]
  rfl
/-- A struct of numbers, field i at i. -/
theorem key_struct {P : Program} {k m : Nat} {fs : Array Field} (hu : P.underlying k = some (.struct fs)) (hf : fieldsI P .i64 0 fs.toList = true) (h1 : ∀ f ∈ fs, P.cellsOf f.type = 1) (hn : P.cellsOf k = fs.size) (hk : P.keyType k = true) (hm : P.types.size = m + 1) {l : List Nat} (hl : l.length = fs.size) (hok : ∀ x ∈ l, i64ok x) :
    ∃ L, keyOf P k (.agg (ints l).toArray) = some L := by
  have hlen : (ints l).length = fs.size := by simp [ints, hl]
  have key : ∀ (gs : List Field) (o : Nat), fieldsI P .i64 o gs = true → (∀ f ∈ gs, P.cellsOf f.type = 1) → o + gs.length = l.length → ∀ f ∈ gs, P.keyLits (m + 1) f.type (((ints l).drop f.offset).take (P.cellsOf f.type)) = some [Lit.int .i64 ((l.getD f.offset 0 : Nat) : Int)] := by
    intro gs
    induction gs with
    | nil => intro o _ _ _ f hf; cases hf
    | cons g gs ih =>
      intro o h hc ho f hfm
      simp only [fieldsI, Bool.and_eq_true, bne_iff_ne, ne_eq, beq_iff_eq] at h
      obtain ⟨⟨⟨e1, e2⟩, e3⟩, e4⟩ := h
      simp only [List.length_cons] at ho
      rcases List.mem_cons.1 hfm with rfl | hm'
      · have hil : f.offset < l.length := by omega
        rw [hc f (by simp), ints_part hil]
        exact keyLits_int (intT_ok e3).2 (hok _ (by simp [List.getD, List.getElem?_eq_getElem hil]))
      · exact ih (o + 1) e4 (fun f hf => hc f (by simp [hf])) (by omega) f hm'
  have names : ∀ (gs : List Field) (o : Nat), fieldsI P .i64 o gs = true → ∀ f ∈ gs, (f.name != "_") = true := by
    intro gs
    induction gs with
    | nil => intro o _ f hf; cases hf
    | cons g gs ih =>
      intro o h f hfm
      simp only [fieldsI, Bool.and_eq_true] at h
      rcases List.mem_cons.1 hfm with rfl | hm'
      · exact h.1.1.2
      · exact ih (o + 1) h.2 f hm'
  have hnm : fs.all (fun f => f.name != "_") = true := by
    rw [Array.all_eq_true_iff_forall_mem]
    exact fun f hfm => names _ 0 hf f (by simpa using hfm)
  have hL : P.keyLits (m + 1 + 1) k (ints l) = some ((fs.toList.map fun f => [Lit.int .i64 ((l.getD f.offset 0 : Nat) : Int)]).flatten) := by
    unfold Program.keyLits
    simp only [hu]
    rw [if_pos ⟨by rw [hn, hlen], hnm⟩, mapM_some (g := fun f : Field => [Lit.int .i64 ((l.getD f.offset 0 : Nat) : Int)]) fs.toList fun f hfm => key fs.toList 0 hf (fun f hf => h1 f (by simpa using hf)) (by simp [hl]) f hfm]
    rfl
  refine ⟨.string (keyBytes ((fs.toList.map fun f => [Lit.int .i64 ((l.getD f.offset 0 : Nat) : Int)]).flatten)), ?_⟩
  unfold keyOf
  simp only [hu]
  rw [if_pos (by simp [hk, Value.formed, hu, hn, hlen]), hm]
  have hcs : (Value.agg (ints l).toArray).cells.toList = ints l := by simp
  rw [hcs, hL]
  rfl
/-- Keys that are rows of numbers. -/
theorem ints_inj {l l' : List Nat} (h : Value.agg (ints l).toArray = Value.agg (ints l').toArray) : l = l' := by
  injection h with h
  have h : ints l = ints l' := by simpa using h
  unfold ints at h
  exact (List.map_inj_right (fun a b hab => by injection hab with _ h; omega)).1 h
/-! ### Blocks of one's own -/
section
variable {w w1 : World} {F : List Nat} {B A C D : Asr}
/-- A store into a block. -/
theorem At.st {b o E : Nat} {c : Array Value} {cs : List Value} {KW : Kont World} (hB : Lcl B) (h : At w F (Star (ObjA b (.cells c E (0, 0))) B) w1) (hs : o + cs.length ≤ c.size) (h1 : cs.all oneC = true)
    (H : ∀ w2, At w F (Star (ObjA b (.cells (wrAt c o cs) E (0, 0))) B) w2 → KW.run w2) : @stJ w1 ⟨b, o, none⟩ cs KW := by
  rw [stC_eq, row_blk h.obj]
  simp only [optS_some, run_mk]
  refine gd_mk ⟨trivial, hs, h1⟩ ?_
  exact H _ (h.setB hB)
theorem Star.assoc {w : World} {F : List Nat} (h : Star (Star A B) C w F) : ∃ F', Star A (Star B C) w F' ∧ ∀ x ∈ F', x ∈ F := by
  obtain ⟨Fx, Fc, ⟨Fa, Fb, h1, h2, d1, rfl⟩, h3, d2, rfl⟩ := h
  refine ⟨_, ⟨Fa, _, h1, ⟨Fb, Fc, h2, h3, fun x hx hc => d2 x (by simp [hx]) hc, rfl⟩, fun x hx hm => ?_, rfl⟩, fun x hx => by simpa using hx⟩
  rcases List.mem_append.1 hm with h | h
  · exact d1 x hx h
  · exact d2 x (by simp [hx]) h
theorem Star.assoc' {w : World} {F : List Nat} (h : Star A (Star B C) w F) : ∃ F', Star (Star A B) C w F' ∧ ∀ x ∈ F', x ∈ F := by
  obtain ⟨Fa, Fx, h1, ⟨Fb, Fc, h2, h3, d1, rfl⟩, d2, rfl⟩ := h
  refine ⟨_, ⟨_, Fc, ⟨Fa, Fb, h1, h2, fun x hx hb => d2 x hx (by simp [hb]), rfl⟩, h3, fun x hx hc => ?_, rfl⟩, fun x hx => by simpa using hx⟩
  rcases List.mem_append.1 hx with h | h
  · exact d2 x h (by simp [hc])
  · exact d1 x h hc
theorem At.assoc (h : At w F (Star (Star A B) C) w1) : At w F (Star A (Star B C)) w1 := h.imp fun _ h => h.assoc
theorem At.assoc' (h : At w F (Star A (Star B C)) w1) : At w F (Star (Star A B) C) w1 := h.imp fun _ h => h.assoc'
/-- Something that there is. -/
def ExA {α : Type} (A : α → Asr) : Asr := fun w F => ∃ x, A x w F
theorem Lcl.ex {α : Type} {A : α → Asr} (h : ∀ x, Lcl (A x)) : Lcl (ExA A) := by
  refine ⟨?_, ?_⟩
  · rintro w F ⟨x, hx⟩; exact (h x).lt hx
  · rintro w F G w' ⟨x, hx⟩ hk hd; exact ⟨x, (h x).kp hx hk hd⟩
theorem At.ex_open {α : Type} {A : α → Asr} (h : At w F (Star (ExA A) B) w1) : ∃ x, At w F (Star (A x) B) w1 := by
  obtain ⟨⟨F1, ⟨Fa, Fb, ⟨x, h1⟩, h2, hd, e⟩, hn⟩, k⟩ := h
  exact ⟨x, ⟨⟨F1, ⟨Fa, Fb, h1, h2, hd, e⟩, hn⟩, k⟩⟩
theorem At.ex_close {α : Type} {A : α → Asr} {x : α} (h : At w F (Star (A x) B) w1) : At w F (Star (ExA A) B) w1 :=
  h.imp fun F1 ⟨Fa, Fb, h1, h2, hd, e⟩ => ⟨F1, ⟨Fa, Fb, ⟨x, h1⟩, h2, hd, e⟩, fun x hx => hx⟩
/-- One assertion out of another, in no more blocks. -/
def Imp (A B : Asr) : Prop := ∀ w F, A w F → ∃ F', B w F' ∧ ∀ x ∈ F', x ∈ F
theorem Imp.rfl {A : Asr} : Imp A A := fun _ F h => ⟨F, h, fun _ h => h⟩
theorem Imp.trans {A B C : Asr} (h : Imp A B) (k : Imp B C) : Imp A C := fun w F hA => by
  obtain ⟨F', h1, h2⟩ := h w F hA
  obtain ⟨F'', h3, h4⟩ := k w F' h1
  exact ⟨F'', h3, fun x hx => h2 x (h4 x hx)⟩
theorem Imp.sw {A B C : Asr} : Imp (Star A (Star B C)) (Star B (Star A C)) := by
  rintro w F ⟨Fa, Fx, h1, ⟨Fb, Fc, h2, h3, hd, rfl⟩, hd2, rfl⟩
  refine ⟨_, ⟨Fb, _, h2, ⟨Fa, Fc, h1, h3, fun x hx hc => hd2 x hx (by simp [hc]), _root_.rfl⟩, fun x hx hxa => ?_, _root_.rfl⟩, fun x hx => ?_⟩
  · rcases List.mem_append.1 hxa with h | h
    · exact hd2 x h (by simp [hx])
    · exact hd x hx h
  · simp only [List.mem_append] at hx ⊢
    rcases hx with h | h | h
    · exact .inr (.inl h)
    · exact .inl h
    · exact .inr (.inr h)
theorem Imp.un {A X Y : Asr} (h : Imp X Y) : Imp (Star A X) (Star A Y) := by
  rintro w F ⟨Fa, Fx, h1, h2, hd, rfl⟩
  obtain ⟨F', h3, h4⟩ := h w Fx h2
  refine ⟨_, ⟨Fa, F', h1, h3, fun x hx hm => hd x hx (h4 x hm), _root_.rfl⟩, fun x hx => ?_⟩
  rcases List.mem_append.1 hx with h | h
  · simp [h]
  · simp [h4 x h]
theorem Imp.dr {A X : Asr} : Imp (Star A X) X := by
  rintro w F ⟨Fa, Fx, h1, h2, hd, rfl⟩
  exact ⟨Fx, h2, fun x hx => by simp [hx]⟩
theorem At.by {A X : Asr} (h : At w F A w1) (i : Imp A X) : At w F X w1 := h.imp fun F1 h1 => i w1 F1 h1
theorem At.rot4 {A1 A2 A3 A4 X : Asr} (h : At w F (Star A1 (Star A2 (Star A3 (Star A4 X)))) w1) : At w F (Star A4 (Star A1 (Star A2 (Star A3 X)))) w1 :=
  h.by ((Imp.sw.un).un.trans (Imp.sw.un.trans Imp.sw))
theorem At.rot5 {A1 A2 A3 A4 A5 X : Asr} (h : At w F (Star A1 (Star A2 (Star A3 (Star A4 (Star A5 X))))) w1) : At w F (Star A5 (Star A1 (Star A2 (Star A3 (Star A4 X))))) w1 :=
  h.by ((Imp.sw.un).un.un.trans ((Imp.sw.un).un.trans (Imp.sw.un.trans Imp.sw)))
theorem At.tor3 {A1 A2 A3 X : Asr} (h : At w F (Star A1 (Star A2 (Star A3 X))) w1) : At w F (Star A2 (Star A3 (Star A1 X))) w1 :=
  h.by (Imp.sw.trans Imp.sw.un)
theorem At.tor4 {A1 A2 A3 A4 X : Asr} (h : At w F (Star A1 (Star A2 (Star A3 (Star A4 X)))) w1) : At w F (Star A2 (Star A3 (Star A4 (Star A1 X)))) w1 :=
  h.by (Imp.sw.trans (Imp.sw.un.trans Imp.sw.un.un))
end
end Go.W
