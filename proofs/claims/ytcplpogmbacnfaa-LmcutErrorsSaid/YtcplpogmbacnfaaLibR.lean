/-
  Parts of the proofs of this seat's statements (LibF, LibG, LibH, LibI, LibJ, LibK); no conditions beyond those each theorem names.
-/
import Derived.Test.YtcplpogmbacnfaaLibQ
import Derived.Laws.Rows
import Derived.DeepKeys4
import Derived.Maps.RangeRun
section
set_option linter.unusedVariables false
set_option linter.unusedSimpArgs false
set_option linter.unusedSectionVars false
namespace Go.W
open Go
/-! ### An assertion that holds since w in the blocks F, and in new ones -/
structure At (w : World) (F : List Nat) (A : Asr) (w1 : World) : Prop where
  ex : ∃ F', A w1 F' ∧ Sub w F F'
  kp : Kp F w w1
theorem At.start {w : World} {F : List Nat} {A : Asr} (h : A w F) : At w F A w := ⟨⟨F, h, Sub.refl w F⟩, Kp.refl _ _⟩
theorem At.of_new {w w1 : World} {A : Asr} (h : New w A w1) : At w [] A w1 := by
  obtain ⟨⟨F, h1, hn⟩, k⟩ := h
  exact ⟨⟨F, h1, fun x hx => .inr (hn x hx)⟩, k⟩
theorem At.new {w w1 : World} {A : Asr} (h : At w [] A w1) : New w A w1 := by
  obtain ⟨⟨F, h1, hn⟩, k⟩ := h
  refine ⟨⟨F, h1, fun x hx => ?_⟩, k⟩
  rcases hn x hx with h | h
  · cases h
  · exact h
section
variable {w w1 w2 : World} {F : List Nat} {A A' B C D : Asr}
theorem At.imp (h : At w F A w1) (hi : ∀ F1, A w1 F1 → ∃ F', A' w1 F' ∧ ∀ x ∈ F', x ∈ F1) : At w F A' w1 := by
  obtain ⟨⟨F1, h1, hn⟩, k⟩ := h
  obtain ⟨F', h2, hs⟩ := hi F1 h1
  exact ⟨⟨F', h2, fun x hx => hn x (hs x hx)⟩, k⟩
theorem At.swap (h : At w F (Star A B) w1) : At w F (Star B A) w1 := h.imp fun F1 ⟨Fa, Fb, h1, h2, hd, e⟩ => ⟨_, ⟨Fb, Fa, h2, h1, fun x hx hxa => hd x hxa hx, rfl⟩, fun x hx => by
  rw [e]; simpa [or_comm] using hx⟩
theorem At.rot (h : At w F (Star A (Star B C)) w1) : At w F (Star B (Star A C)) w1 := h.imp fun F1 ⟨Fa, Fx, h1, ⟨Fb, Fc, h2, h3, hd, ex⟩, hd2, e⟩ => by
  subst ex e
  refine ⟨_, ⟨Fb, _, h2, ⟨Fa, Fc, h1, h3, fun x hx hc => hd2 x hx (by simp [hc]), rfl⟩, fun x hx hxa => ?_, rfl⟩, fun x hx => ?_⟩
  · rcases List.mem_append.1 hxa with h | h
    · exact hd2 x h (by simp [hx])
    · exact hd x hx h
  · simp only [List.mem_append] at hx ⊢
    rcases hx with h | h | h
    · exact .inr (.inl h)
    · exact .inl h
    · exact .inr (.inr h)
theorem At.rot3 (h : At w F (Star A (Star B (Star C D))) w1) : At w F (Star C (Star A (Star B D))) w1 := h.imp fun F1 ⟨Fa, Fx, h1, ⟨Fb, Fy, h2, ⟨Fc, Fd, h3, h4, d1, e1⟩, d2, e2⟩, d3, e3⟩ => by
  subst e1 e2 e3
  refine ⟨_, ⟨Fc, _, h3, ⟨Fa, _, h1, ⟨Fb, Fd, h2, h4, fun x hx hd => d2 x hx (by simp [hd]), rfl⟩, fun x hx hm => ?_, rfl⟩, fun x hx hm => ?_, rfl⟩, fun x hx => ?_⟩
  · rcases List.mem_append.1 hm with h | h
    · exact d3 x hx (by simp [h])
    · exact d3 x hx (by simp [h])
  · simp only [List.mem_append] at hm
    rcases hm with h | h | h
    · exact d3 x h (by simp [hx])
    · exact d2 x h (by simp [hx])
    · exact d1 x hx h
  · simp only [List.mem_append] at hx ⊢
    rcases hx with h | h | h | h
    · exact .inr (.inr (.inl h))
    · exact .inl h
    · exact .inr (.inl h)
    · exact .inr (.inr (.inr h))
theorem At.kp0 (hl : Lcl A) (h : At w F A w1) (hk : Kp [] w1 w2) : At w F A w2 := by
  obtain ⟨⟨F1, h1, hn⟩, k⟩ := h
  exact ⟨⟨F1, hl.kp h1 hk (by simp), hn⟩, k.trans0 hk⟩
/-- A step in A's blocks. -/
theorem At.step (hA : Lcl A) (hB : Lcl B) (h : At w F (Star A B) w1) (hk : ∀ Fa, A w1 Fa → ∃ F', A' w2 F' ∧ Kp Fa w1 w2 ∧ Sub w1 Fa F') : At w F (Star A' B) w2 := by
  obtain ⟨⟨F1, ⟨Fa, Fb, h1, h2, hd, rfl⟩, hn⟩, k⟩ := h
  obtain ⟨F', h', hk', hs⟩ := hk Fa h1
  refine ⟨⟨_, ⟨F', Fb, h', hB.kp h2 hk' (fun x hx hxa => hd x hxa hx), fun x hx hxb => ?_, rfl⟩, fun x hx => ?_⟩, k.trans' hk' (fun x hx => hn x (by simp [hx]))⟩
  · rcases hs x hx with h3 | h3
    · exact hd x h3 hxb
    · have := hB.lt h2 x hxb; omega
  · rcases List.mem_append.1 hx with h3 | h3
    · rcases hs x h3 with h4 | h4
      · exact hn x (by simp [h4])
      · have := k.size; exact .inr (by omega)
    · exact hn x (by simp [h3])
/-- A step in all of A's blocks. -/
theorem At.step1 (hA : Lcl A) (h : At w F A w1) (hk : ∀ Fa, A w1 Fa → ∃ F', A' w2 F' ∧ Kp Fa w1 w2 ∧ Sub w1 Fa F') : At w F A' w2 := by
  obtain ⟨⟨Fa, h1, hn⟩, k⟩ := h
  obtain ⟨F', h', hk', hs⟩ := hk Fa h1
  refine ⟨⟨F', h', fun x hx => ?_⟩, k.trans' hk' (fun x hx => hn x hx)⟩
  rcases hs x hx with h3 | h3
  · exact hn x h3
  · have := k.size; exact .inr (by omega)
theorem At.more (hB : Lcl B) (h : At w F B w1) (hk : Kp [] w1 w2) (ha : ∃ F1, A w2 F1 ∧ ∀ x ∈ F1, w1.heap.size ≤ x) : At w F (Star A B) w2 := by
  obtain ⟨⟨Fb, h1, hn⟩, k⟩ := h
  obtain ⟨Fa, h2, hn2⟩ := ha
  refine ⟨⟨_, ⟨Fa, Fb, h2, hB.kp h1 hk (by simp), fun x hx hxb => ?_, rfl⟩, fun x hx => ?_⟩, k.trans0 hk⟩
  · have := hB.lt h1 x hxb; have := hn2 x hx; omega
  · rcases List.mem_append.1 hx with h3 | h3
    · have := hn2 x h3; have := k.size; exact .inr (by omega)
    · exact hn x h3
theorem At.drop (h : At w F (Star A B) w1) : At w F B w1 := h.imp fun F1 ⟨Fa, Fb, h1, h2, hd, e⟩ => ⟨Fb, h2, fun x hx => by rw [e]; simp [hx]⟩
theorem At.get (h : At w F (Star A B) w1) : ∃ F1, A w1 F1 := by
  obtain ⟨⟨F1, ⟨Fa, Fb, h1, _⟩, _⟩, _⟩ := h
  exact ⟨Fa, h1⟩
theorem At.obj {b : Nat} {o : Obj} (h : At w F (Star (ObjA b o) B) w1) : w1.heap[b]? = some o := by
  obtain ⟨F1, h1⟩ := h.get
  exact h1.1
/-- A block is set. -/
theorem At.setB {b : Nat} {o o' : Obj} (hB : Lcl B) (h : At w F (Star (ObjA b o) B) w1) : At w F (Star (ObjA b o') B) (w1.setB b o') := by
  refine h.step Lcl.obj hB ?_
  rintro Fa ⟨h1, rfl⟩
  exact ⟨[b], ⟨setB_new (lt_of_blk h1), rfl⟩, (Kp.refl _ _).setB (.inl (by simp)) _, fun x hx => .inl hx⟩
/-- A new block. -/
theorem At.alloc (o : Obj) (hB : Lcl B) (h : At w F B w1) : At w F (Star (ObjA w1.heap.size o) B) (w1.alloc o) :=
  h.more hB ((Kp.refl _ _).alloc _) ⟨_, ⟨alloc_new, rfl⟩, by simp⟩
theorem At.drew (hA : Lcl A) (h : At w F A w1) : At w F A w1.drew := h.kp0 hA (Kp.refl [] w1).drew
end
section
variable {α : Type} {enc : α → List Value} {E sz : Nat} {l : List α} {v : Value} {B : Asr} {w w1 : World} {F : List Nat}
theorem At.own (h : At w F (Star (OwnA v E sz enc l) B) w1) : Own w1 v E sz enc l := by
  obtain ⟨F1, h1, _⟩ := h.get
  exact h1
theorem At.store {KW : Kont World} (hB : Lcl B) (h : At w F (Star (OwnA v E sz enc l) B) w1) (he : ∀ x, (enc x).length = sz) (h1 : ∀ x, (enc x).all oneC = true) {k : Nat} (hk : k < l.length) {x : α} {cs : List Value} (hcs : cs = enc x)
    (H : ∀ w2, At w F (Star (OwnA v E sz enc (l.set k x)) B) w2 → KW.run w2) : @stJ w1 ⟨v.blk, k * sz, none⟩ cs KW := by
  refine h.own.store he h1 hk hcs fun w2 hk2 hs2 ho2 => H w2 (h.step Lcl.own hB ?_)
  rintro Fa ⟨ho, rfl⟩
  exact ⟨_, ⟨ho2, rfl⟩, by rw [ho.own_eq hk]; exact hk2, fun x hx => .inl hx⟩
theorem At.store1 {KW : Kont World} (hB : Lcl B) (h : At w F (Star (OwnA v E 1 enc l) B) w1) (he : ∀ x, (enc x).length = 1) (h1 : ∀ x, (enc x).all oneC = true) {k : Nat} (hk : k < l.length) {x : α} {cs : List Value} (hcs : cs = enc x)
    (H : ∀ w2, At w F (Star (OwnA v E 1 enc (l.set k x)) B) w2 → KW.run w2) : @stJ w1 ⟨v.blk, k, none⟩ cs KW := by
  have := h.store (KW := KW) hB he h1 hk hcs H
  rwa [Nat.mul_one] at this
theorem At.append {P : Program} {KV : Kont (Value × World)} {T ty by_ : Nat} {z : List Value} (hB : Lcl B) (h : At w F (Star (OwnA v E sz enc l) B) w1) (he : ∀ x, (enc x).length = sz) (h1 : ∀ x, (enc x).all oneC = true)
    (hT : slInfo P T = some (E, sz, by_, z)) {a : Addr} {m c : Nat} {xs : List α} (hm : xs.length = m) (hx : ∀ j u, (xs.flatMap enc)[j]? = some u → w1.cell? (a.add j) = some u)
    (hb : (l.length + m) * by_ ≤ 140737488355328) (hmax : l.length + m ≤ maxLen)
    (H : ∀ v' w2, At w F (Star (OwnA v' E sz enc (l ++ xs)) B) w2 → KV.run (v', w2)) :
    @efH P (Builtin.append_ #[T, T] ty [v, .slice (some a) m c].toArray) w1 KV := by
  refine h.own.append he h1 hT hm hx hb hmax fun v' w2 hk2 ho2 hs2 => H v' w2 (h.step Lcl.own hB ?_)
  rintro Fa ⟨ho, rfl⟩
  exact ⟨_, ⟨ho2, rfl⟩, hk2, hs2⟩
theorem At.appendV {P : Program} {KV : Kont (Value × World)} {T ty by_ : Nat} {z : List Value} {u : Value} {xs : List α} (hB : Lcl B) (h : At w F (Star (OwnA v E sz enc l) B) w1) (hu : Vw w1 u enc xs) (he : ∀ x, (enc x).length = sz) (h1 : ∀ x, (enc x).all oneC = true)
    (hT : slInfo P T = some (E, sz, by_, z)) (hb : (l.length + xs.length) * by_ ≤ 140737488355328) (hmax : l.length + xs.length ≤ maxLen)
    (H : ∀ v' w2, At w F (Star (OwnA v' E sz enc (l ++ xs)) B) w2 → KV.run (v', w2)) :
    @efH P (Builtin.append_ #[T, T] ty [v, u].toArray) w1 KV := by
  refine h.own.appendV hu he h1 hT hb hmax fun v' w2 hk2 ho2 hs2 => H v' w2 (h.step Lcl.own hB ?_)
  rintro Fa ⟨ho, rfl⟩
  exact ⟨_, ⟨ho2, rfl⟩, hk2, hs2⟩
theorem At.nil (hB : Lcl B) (h : At w F B w1) : At w F (Star (OwnA (.slice none 0 0) E sz enc []) B) w1 :=
  h.more hB (Kp.refl _ _) ⟨_, ⟨Own.nil _ _ _ _, rfl⟩, by simp⟩
theorem At.made {n : Nat} {x : α} {z : List Value} (hB : Lcl B) (h : At w F B w1) (hz : z = enc x) (he : ∀ x, (enc x).length = sz) (hn : n ≤ maxLen) :
    At w F (Star (OwnA (.slice (some ⟨w1.heap.size, 0, none⟩) n n) E sz enc (List.replicate n x)) B) (w1.alloc (.cells (rowOf z n).toArray E)) :=
  h.more hB ((Kp.refl _ _).alloc _) ⟨_, ⟨Own.made hz he hn, rfl⟩, by simp⟩
/-- A literal slice. -/
theorem At.lit {xs : List α} {cs : Array Value} (hB : Lcl B) (h : At w F B w1) (hcs : cs.toList = xs.flatMap enc) (he : ∀ x, (enc x).length = sz) (hn : xs.length ≤ maxLen) {m : Nat} (hm : m = xs.length) :
    At w F (Star (OwnA (.slice (some ⟨w1.heap.size, 0, none⟩) m m) E sz enc xs) B) (w1.alloc (.cells cs E)) := by
  subst hm
  exact h.more hB ((Kp.refl _ _).alloc _) ⟨_, ⟨.inr ⟨w1.heap.size, xs.length, cs, [], rfl, alloc_new, by simpa using hcs, by simp, Nat.le_refl _, hn⟩, rfl⟩, by simp⟩
end
/-! ### A slice that is read, as an assertion -/
def VwA {α : Type} (v : Value) (enc : α → List Value) (l : List α) : Asr := fun w F => Vw w v enc l ∧ F = v.own ∧ ∀ x ∈ v.own, x < w.heap.size
theorem Lcl.vw {α : Type} {v : Value} {enc : α → List Value} {l : List α} : Lcl (VwA v enc l) := by
  refine ⟨?_, ?_⟩
  · rintro w F ⟨h, rfl, hlt⟩ x hx; exact hlt x hx
  · rintro w F G w' ⟨h, rfl, hlt⟩ hk hd
    exact ⟨h.kp hk hd, rfl, fun x hx => by have := hlt x hx; have := hk.size; omega⟩
theorem At.vw {α : Type} {v : Value} {enc : α → List Value} {l : List α} {w w1 : World} {F : List Nat} {B : Asr} (h : At w F (Star (VwA v enc l) B) w1) : Vw w1 v enc l := by
  obtain ⟨F1, h1, _⟩ := h.get
  exact h1
theorem At.own_vw {α : Type} {v : Value} {E sz : Nat} {enc : α → List Value} {l : List α} {w w1 : World} {F : List Nat} {B : Asr} (h : At w F (Star (OwnA v E sz enc l) B) w1) : At w F (Star (VwA v enc l) B) w1 := h.imp fun F1 ⟨Fa, Fb, ⟨h1, e1⟩, h2, hd, e⟩ => by
  subst e e1
  refine ⟨_, ⟨v.own, Fb, ⟨h1.vw, rfl, fun x hx => ?_⟩, h2, hd, rfl⟩, fun x hx => hx⟩
  rcases h1 with ⟨rfl, _⟩ | ⟨g, cap, cur, junk, rfl, hh, _⟩
  · cases hx
  · simp at hx; subst hx; exact lt_of_blk hh
/-! ### A map, as an assertion -/
section
open Go.Maps
variable {κ α : Type} [DecidableEq κ] {ek : κ → Value} {ev : α → Value} {ok : κ → Prop} {P : Program} {k e t : TypeId} {l : List (κ × α)} {b : Nat} {B : Asr} {w w1 : World} {F : List Nat}
def MapA (b : Nat) (ek : κ → Value) (ev : α → Value) (ok : κ → Prop) (l : List (κ × α)) : Asr := fun w F => MapM w b ek ev ok l ∧ F = [b]
theorem Lcl.map : Lcl (MapA b ek ev ok l) := by
  refine ⟨?_, ?_⟩
  · rintro w F ⟨h, rfl⟩ x hx
    simp at hx; subst hx; exact h.lt
  · rintro w F G w' ⟨h, rfl⟩ hk hd
    exact ⟨h.kp hk (hd b (by simp)), rfl⟩
theorem At.map (h : At w F (Star (MapA b ek ev ok l) B) w1) : MapM w1 b ek ev ok l := by
  obtain ⟨F1, h1, _⟩ := h.get
  exact h1
theorem At.newmap (hB : Lcl B) (h : At w F B w1) : At w F (Star (MapA w1.heap.size ek ev ok ([] : List (κ × α))) B) (w1.alloc (.map #[] 0)) :=
  h.more hB ((Kp.refl _ _).alloc _) ⟨_, ⟨MapM.new _, rfl⟩, by simp⟩
theorem At.put {KW : Kont World} {x : κ} {v : α} (hB : Lcl B) (h : At w F (Star (MapA b ek ev ok l) B) w1) (hk : KeyEnc P k ek ok) (ht : P.underlying t = some (.map k e)) (hx : ok x) (hl : l.length < maxLen)
    (H : ∀ w2, At w F (Star (MapA b ek ev ok (putM l x v)) B) w2 → KW.run w2) : @efuH P (Instr.mapUpdate t (.map (some b)) (ek x) (ev v)) w1 KW := by
  obtain ⟨o, hr, hm⟩ := h.map.store hk ht hx v hl
  refine efu_mk hr (H _ (h.step Lcl.map hB ?_))
  rintro Fa ⟨h1, rfl⟩
  exact ⟨[b], ⟨hm, rfl⟩, (Kp.refl _ _).setB (.inl (by simp)) _, fun x hx => .inl hx⟩
theorem MapM.look2 {K : Kont Value} {x : κ} (h : MapM w b ek ev ok l) (hk : KeyEnc P k ek ok) (ht : P.underlying t = some (.map k e)) {z : Value} (hz : ∀ w, (zeroValue e).run P w = .ok z w) (hx : ok x)
    (H : K.run (.tuple #[((getM l x).map ev).getD z, .bool (getM l x).isSome])) : @rdH P (Instr.lookup t (.map (some b)) (ek x) true) w K :=
  rd_mk (fun w' hw => by have := MapM.look (h.ext hw) hk ht (hz w') hx true; simpa using this) H
theorem MapM.look1 {K : Kont Value} {x : κ} (h : MapM w b ek ev ok l) (hk : KeyEnc P k ek ok) (ht : P.underlying t = some (.map k e)) {z : Value} (hz : ∀ w, (zeroValue e).run P w = .ok z w) (hx : ok x)
    (H : K.run (((getM l x).map ev).getD z)) : @rdH P (Instr.lookup t (.map (some b)) (ek x) false) w K :=
  rd_mk (fun w' hw => by have := MapM.look (h.ext hw) hk ht (hz w') hx false; simpa using this) H
theorem MapM.len2 {K : Kont Value} {ty : Nat} (h : MapM w b ek ev ok l) (ht : P.underlying t = some (.map k e)) (H : K.run (.int .i64 l.length)) : @rdH P (Builtin.len_ #[t] ty #[.map (some b)]) w K :=
  rd_mk (fun w' hw => MapM.len (h.ext hw) ht ty) H
end
end Go.W
end
section
set_option linter.unusedVariables false
set_option linter.unusedSimpArgs false
set_option linter.unusedSectionVars false
namespace Go.W
open Go
/-! ### A region in any order, by a walk in the order of the text -/
section
variable (P : Program) (S : Nat → World → Prop)
/-- One operation: its value is the same in each world that may be there; the k-th effect leads on. -/
def stA (c : Nat) (op : Op) (ty : TypeId) (ρ : Env) (k : Nat) (N : Value → Nat → Prop) : Prop :=
  match c with
  | 0 => opS P 0 op ty ρ default fun v _ => N v k
  | 1 => ∃ v, (∀ k' w', S k' w' → opS P 1 op ty ρ w' fun x _ => x = v) ∧ N v k
  | c + 2 => ∃ v, (∀ w', S k w' → opS P (c + 2) op ty ρ w' fun x w'' => x = v ∧ S (k + 1) w'') ∧ N v (k + 1)
def wpA : Nat → List LO → Env → (Env → Nat → Prop) → Prop
  | k, [], ρ, K => K ρ k
  | k, ⟨c, d, op, ty, none⟩ :: l, ρ, K => stA P S c op ty ρ k fun v k' => wpA k' l (ρ.put d v) K
  | k, ⟨c, d, op, ty, some (g, b)⟩ :: l, ρ, K => gd (ρ g) b (stA P S c op ty ρ k fun v k' => wpA k' l (ρ.put d v) K) (wpA k l (ρ.put d undef) K)
end
/-- What an operation reads. -/
def LO.reads (o : LO) : List Nat := (o.op.operands.toList.filterMap fun | .tmp t => some t | _ => none) ++ (match o.guard with | some (g, _) => [g] | none => [])
def anyChk (los : List LO) (deps : List Nat) : Bool :=
  decide ((los.filterMap (·.dst)).Nodup) &&
  los.all (fun o => !isSel o.op) &&
  (List.range los.length).all fun i => (List.range los.length).all fun j =>
    (!(deps.getD i 0).testBit j || decide (j < i)) &&
    (!(decide (2 ≤ (los.getD i LO.dfl).cls) && decide (2 ≤ (los.getD j LO.dfl).cls) && decide (j < i)) || (deps.getD i 0).testBit j) &&
    (match (los.getD j LO.dfl).dst with
      | some t => !((los.getD i LO.dfl).reads.contains t) || decide (i = j) || (deps.getD i 0).testBit j || (deps.getD j 0).testBit i
      | none => true)
/-- The slots behind the operations of a list (the last one first). -/
def envX (los : List LO) (vs : Nat → Value) (ρ : Env) : List Nat → Env
  | [] => ρ
  | i :: X => (envX los vs ρ X).put (los.getD i LO.dfl).dst (vs i)
section
variable {P : Program} {S : Nat → World → Prop} {los : List LO} {deps : List Nat}
theorem envX_at {vs : Nat → Value} {ρ : Env} (hn : ∀ i j t, i < los.length → j < los.length → (los.getD i LO.dfl).dst = some t → (los.getD j LO.dfl).dst = some t → i = j) {t : Nat} : ∀ {X : List Nat}, (∀ i ∈ X, i < los.length) →
    (∀ j, j ∈ X → (los.getD j LO.dfl).dst = some t → envX los vs ρ X t = vs j) ∧ ((∀ j ∈ X, (los.getD j LO.dfl).dst ≠ some t) → envX los vs ρ X t = ρ t)
  | [], _ => ⟨fun j hj => (by cases hj), fun _ => rfl⟩
  | i :: X, hX => by
    obtain ⟨h1, h2⟩ := envX_at (vs := vs) (ρ := ρ) hn (t := t) (X := X) (fun i hi => hX i (by simp [hi]))
    refine ⟨fun j hj hd => ?_, fun hno => ?_⟩
    · by_cases hit : (los.getD i LO.dfl).dst = some t
      · have := hn i j t (hX i (by simp)) (hX j hj) hit hd
        subst this
        simp only [envX, hit, Env.put, Env.set, if_true]
      · have hjX : j ∈ X := by
          rcases List.mem_cons.1 hj with rfl | h
          · exact absurd hd hit
          · exact h
        rw [envX]
        cases hdi : (los.getD i LO.dfl).dst with
        | none => exact h1 j hjX hd
        | some d =>
          have : t ≠ d := fun e => hit (by rw [hdi, e])
          simp only [Env.put, Env.set, if_neg this]
          exact h1 j hjX hd
    · have hi := hno i (by simp)
      rw [envX]
      cases hdi : (los.getD i LO.dfl).dst with
      | none => exact h2 fun j hj => hno j (by simp [hj])
      | some d =>
        have : t ≠ d := fun e => hi (by rw [hdi, e])
        simp only [Env.put, Env.set, if_neg this]
        exact h2 fun j hj => hno j (by simp [hj])
/-- What the walk in the order of the text has shown of an operation. -/
def FactA (P : Program) (S : Nat → World → Prop) (o : LO) (ρ : Env) (k : Nat) (v : Value) (k' : Nat) : Prop :=
  match o with
  | ⟨c, d, op, ty, g⟩ =>
    ((match g with | none => True | some (g, b) => ρ g = .bool b) ∧
      (if 2 ≤ c then k' = k + 1 ∧ ∀ w', S k w' → stepL P c op ty ρ w' (fun x w'' => x = v ∧ S (k + 1) w'')
       else k' = k ∧ ∀ j w', S j w' → stepL P c op ty ρ w' (fun x w'' => x = v ∧ S j w''))) ∨
    ((match g with | none => False | some (g, b) => ρ g ≠ .bool b) ∧ v = undef ∧ k' = k)
theorem stA_fact {c : Nat} {op : Op} {ty : TypeId} {ρ : Env} {k : Nat} {N : Value → Nat → Prop} (h : stA P S c op ty ρ k N) :
    ∃ v k', (if 2 ≤ c then k' = k + 1 ∧ ∀ w', S k w' → stepL P c op ty ρ w' (fun x w'' => x = v ∧ S (k + 1) w'')
       else k' = k ∧ ∀ j w', S j w' → stepL P c op ty ρ w' (fun x w'' => x = v ∧ S j w'')) ∧ N v k' := by
  match c, h with
  | 0, h =>
    have h : opS P 0 op ty ρ default fun v _ => N v k := h
    have h : step0 P op ty ρ default fun v _ => N v k := opS_sound h
    obtain ⟨v, hv, hN⟩ := h
    exact ⟨v, k, ⟨rfl, fun j w' hS => ⟨v, hv, rfl, hS⟩⟩, hN⟩
  | 1, h =>
    obtain ⟨v, hv, hN⟩ := h
    refine ⟨v, k, ⟨rfl, fun j w' hS => ?_⟩, hN⟩
    have h9 : step1 P op ty ρ w' fun x _ => x = v := opS_sound (hv j w' hS)
    obtain ⟨x, hx, rfl⟩ := h9
    exact ⟨x, hx, rfl, hS⟩
  | c + 2, h =>
    obtain ⟨v, hv, hN⟩ := h
    exact ⟨v, k + 1, ⟨rfl, fun w' hS => opS_sound (hv w' hS)⟩, hN⟩
/-- The facts of a whole walk. -/
theorem wpA_facts {K : Env → Nat → Prop} : ∀ (l : List LO) (ρ : Env) (k : Nat), wpA P S k l ρ K → ∃ (vs : Nat → Value) (ks : Nat → Nat), ks 0 = k ∧
    (∀ i, i < l.length → FactA P S (l.getD i LO.dfl) (envX l vs ρ (List.range i).reverse) (ks i) (vs i) (ks (i + 1))) ∧ K (envX l vs ρ (List.range l.length).reverse) (ks l.length)
  | [], ρ, k, h => ⟨fun _ => undef, fun _ => k, rfl, by simp, h⟩
  | o :: l, ρ, k, h => by
    have head : ∃ v k', FactA P S o ρ k v k' ∧ wpA P S k' l (ρ.put o.dst v) K := by
      obtain ⟨c, d, op, ty, g⟩ := o
      cases g with
      | none =>
        obtain ⟨v, k', h1, h2⟩ := stA_fact h
        exact ⟨v, k', .inl ⟨trivial, h1⟩, h2⟩
      | some gb =>
        obtain ⟨g, b⟩ := gb
        simp only [wpA, gd] at h
        rcases Classical.em (ρ g = .bool b) with hb | hb
        · obtain ⟨v, k', h1, h2⟩ := stA_fact (h.1 hb)
          exact ⟨v, k', .inl ⟨hb, h1⟩, h2⟩
        · exact ⟨undef, k, .inr ⟨hb, rfl, rfl⟩, h.2 hb⟩
    obtain ⟨v, k', hf, hr⟩ := head
    obtain ⟨vs, ks, hk0, hfs, hK⟩ := wpA_facts l _ k' hr
    let vs' : Nat → Value := fun | 0 => v | i + 1 => vs i
    let ks' : Nat → Nat := fun | 0 => k | i + 1 => ks i
    have hshift : ∀ n, envX (o :: l) vs' ρ (List.range (n + 1)).reverse = envX l vs (ρ.put o.dst v) (List.range n).reverse := by
      intro n
      induction n with
      | zero => simp [envX, List.range_succ, vs']
      | succ n ih =>
        have e : ∀ m : Nat, (List.range (m + 1)).reverse = m :: (List.range m).reverse := fun m => by rw [List.range_succ, List.reverse_append, List.reverse_singleton, List.singleton_append]
        rw [e (n + 1)]
        conv => rhs; rw [e n]
        show (envX (o :: l) vs' ρ (List.range (n + 1)).reverse).put _ _ = (envX l vs (ρ.put o.dst v) (List.range n).reverse).put _ _
        rw [ih]
        rfl
    refine ⟨vs', ks', rfl, fun i hi => ?_, ?_⟩
    · cases i with
      | zero => simpa [envX, vs', ks', hk0] using hf
      | succ i =>
        rw [hshift]
        have := hfs i (by simpa using hi)
        simpa [vs', ks'] using this
    · rw [List.length_cons, hshift]
      exact hK
theorem exec_env {op : Op} {ty : TypeId} {ρ ρ' : Env} (hs : isSel op = false) (h : ∀ t, Operand.tmp t ∈ op.operands → ρ t = ρ' t) : LO.exec op ty ρ = LO.exec op ty ρ' := by
  refine execOp_congr (ρ := ρ.ev) (ρ' := ρ'.ev) _ (fun cs b he => ?_) (fun x hx => ?_)
  · have he : op = .select cs b := he
    rw [he] at hs; cases hs
  · cases x with
    | tmp t => exact h t hx
    | const v => rfl
    | global g => rfl
    | func f => rfl
theorem stepL_env {c : Nat} {op : Op} {ty : TypeId} {ρ ρ' : Env} {w : World} {K : Value → World → Prop} (hs : isSel op = false) (h : ∀ t, Operand.tmp t ∈ op.operands → ρ t = ρ' t) (hh : stepL P c op ty ρ w K) : stepL P c op ty ρ' w K := by
  unfold stepL step0 step1 step3 step2 at *
  rw [← exec_env hs h]; exact hh
/-- A region in any order. -/
theorem any_text {Q : Ex → Env → World → Prop} {ρ : Env} {w : World} {outs : List Nat} (S : Nat → World → Prop) (hc : anyChk los deps = true) (h0 : S 0 w.drew)
    (h : wpA P S 0 los ρ fun ρ' k => ∀ w', S k w' → Q .nrm (ρ.merge ρ' outs) w') : wpL P (.anyR los deps outs) Q ρ w := by
  simp only [anyChk, Bool.and_eq_true, decide_eq_true_eq, List.all_eq_true, List.mem_range, Bool.or_eq_true, Bool.not_eq_true'] at hc
  obtain ⟨⟨hnd, hsel⟩, hall⟩ := hc
  have hd : ∀ i j, i < los.length → j < los.length → (deps.getD i 0).testBit j = true → j < i := fun i j hi hj hb => by
    have := (hall i hi j hj).1.1
    rcases this with h1 | h1
    · rw [h1] at hb; cases hb
    · exact h1
  have hch : ∀ i j, i < los.length → j < los.length → 2 ≤ (los.getD i LO.dfl).cls → 2 ≤ (los.getD j LO.dfl).cls → j < i → (deps.getD i 0).testBit j = true := fun i j hi hj h1 h2 h3 => by
    have := (hall i hi j hj).1.2
    rcases this with h4 | h4
    · rw [decide_eq_true h1, decide_eq_true h2, decide_eq_true h3] at h4; cases h4
    · exact h4
  have hrd : ∀ i j t, i < los.length → j < los.length → (los.getD j LO.dfl).dst = some t → t ∈ (los.getD i LO.dfl).reads → i = j ∨ (deps.getD i 0).testBit j = true ∨ (deps.getD j 0).testBit i = true := fun i j t hi hj h1 h2 => by
    have := (hall i hi j hj).2
    rw [h1] at this
    simp only [Bool.or_eq_true, Bool.not_eq_true', decide_eq_true_eq] at this
    rcases this with ((h3 | h3) | h3) | h3
    · rw [List.contains_iff_mem.2 h2] at h3; cases h3
    · exact .inl h3
    · exact .inr (.inl h3)
    · exact .inr (.inr h3)
  have hn : ∀ i j t, i < los.length → j < los.length → (los.getD i LO.dfl).dst = some t → (los.getD j LO.dfl).dst = some t → i = j := by
    intro i j t hi hj h1 h2
    have key : ∀ (l : List LO), ((l.filterMap (·.dst)).Nodup) → ∀ i j, i < l.length → j < l.length → i < j → (l.getD i LO.dfl).dst = some t → (l.getD j LO.dfl).dst = some t → False := by
      intro l
      induction l with
      | nil => intro _ i j hi; simp at hi
      | cons o l ih =>
        intro hnd i j hi hj hij h1 h2
        cases i with
        | zero =>
          cases j with
          | zero => omega
          | succ j =>
            simp at h1 h2 hj
            rw [List.filterMap_cons_some h1, List.nodup_cons] at hnd
            apply hnd.1
            rw [List.mem_filterMap]
            refine ⟨l[j], List.getElem_mem hj, ?_⟩
            rw [List.getElem?_eq_getElem hj] at h2
            simpa using h2
        | succ i =>
          cases j with
          | zero => omega
          | succ j =>
            refine ih ?_ i j (by simpa using hi) (by simpa using hj) (by omega) (by simpa using h1) (by simpa using h2)
            cases ho : o.dst with
            | none => rwa [List.filterMap_cons_none ho] at hnd
            | some d =>
              rw [List.filterMap_cons_some ho, List.nodup_cons] at hnd
              exact hnd.2
    rcases Nat.lt_trichotomy i j with h3 | h3 | h3
    · exact (key los hnd i j hi hj h3 h1 h2).elim
    · exact h3
    · exact (key los hnd j i hj hi h3 h2 h1).elim
  obtain ⟨vs, ks, hk0, hf, hK⟩ := wpA_facts los ρ 0 h
  -- the counter
  have hks : ∀ i, i < los.length → ks (i + 1) = ks i ∨ (ks (i + 1) = ks i + 1 ∧ 2 ≤ (los.getD i LO.dfl).cls) := by
    intro i hi
    have := hf i hi
    generalize los.getD i LO.dfl = o at *
    obtain ⟨c, d, op, ty, g⟩ := o
    rcases this with ⟨_, h1⟩ | ⟨_, _, h1⟩
    · split at h1
      · rename_i hc; exact .inr ⟨h1.1, hc⟩
      · exact .inl h1.1
    · exact .inl h1
  intro l hl hD
  have hlt : ∀ i ∈ l, i < los.length := fun i hi => List.mem_range.1 (hl.subset hi)
  have hlnd : l.Nodup := hl.symm.nodup List.nodup_range
  -- how many effects were there
  let tk : Nat → Nat := fun i => ks (i + 1) - ks i
  have agree : ∀ (X Y : List Nat) (t : Nat), (∀ i ∈ X, i < los.length) → (∀ i ∈ Y, i < los.length) → (∀ j, j < los.length → (los.getD j LO.dfl).dst = some t → (j ∈ X ↔ j ∈ Y)) → envX los vs ρ X t = envX los vs ρ Y t := by
    intro X Y t hX hY hXY
    obtain ⟨a1, a2⟩ := envX_at (vs := vs) (ρ := ρ) hn (t := t) hX
    obtain ⟨b1, b2⟩ := envX_at (vs := vs) (ρ := ρ) hn (t := t) hY
    rcases Classical.em (∃ j ∈ X, (los.getD j LO.dfl).dst = some t) with ⟨j, hj, hd⟩ | hno
    · rw [a1 j hj hd, b1 j ((hXY j (hX j hj) hd).1 hj) hd]
    · rw [a2 fun j hj he => hno ⟨j, hj, he⟩, b2 fun j hj he => hno ⟨j, (hXY j (hY j hj) he).2 hj, he⟩]
  have key : ∀ (l2 l1 : List Nat) (w' : World), l = l1 ++ l2 → S ((l1.map tk).sum) w' →
      wpX P (inOrder los l2) (envX los vs ρ l1.reverse) w' fun ρ' w'' => Q .nrm (ρ.merge ρ' outs) w'' := by
    intro l2
    induction l2 with
    | nil =>
      intro l1 w' he hS
      rw [List.append_nil] at he
      subst he
      have e1 : envX los vs ρ l.reverse = envX los vs ρ (List.range los.length).reverse := by
        funext t
        refine agree _ _ t (fun i hi => hlt i (List.mem_reverse.1 hi)) (fun i hi => List.mem_range.1 (List.mem_reverse.1 hi)) fun j hj _ => ?_
        rw [List.mem_reverse, List.mem_reverse]
        exact hl.mem_iff
      have e2 : (l.map tk).sum = ks los.length := by
        rw [(hl.map tk).sum_nat]
        have : ∀ m, m ≤ los.length → (((List.range m).map tk).sum = ks m) := by
          intro m
          induction m with
          | zero => intro _; simp [hk0]
          | succ m ih =>
            intro hm
            rw [List.range_succ, List.map_append, List.sum_append, ih (by omega)]
            have := hks m (by omega)
            simp only [List.map_cons, List.map_nil, List.sum_cons, List.sum_nil, tk]
            omega
        exact this _ (Nat.le_refl _)
      show Q .nrm (ρ.merge (envX los vs ρ l.reverse) outs) w'
      rw [e1]
      rw [e2] at hS
      exact hK w' hS
    | cons i l2 ih =>
      intro l1 w' he hS
      have hi : i < los.length := hlt i (by rw [he]; simp)
      have hin : i ∉ l1 := fun hm => by
        rw [he, List.nodup_append] at hlnd
        exact hlnd.2.2 i hm i (by simp) rfl
      have before : ∀ j, j < los.length → (deps.getD i 0).testBit j = true → j ∈ l1 := fun j hj hb => by
        obtain ⟨r1, r2, e1, e2⟩ := hD i hi j hj hb
        rw [he] at e1 hlnd
        rw [(split_unique hlnd e1).1]; exact e2
      have after : ∀ j, j < los.length → (deps.getD j 0).testBit i = true → j ∉ l1 := fun j hj hb hm => by
        obtain ⟨r1, r2, e1, e2⟩ := hD j hj i hi hb
        obtain ⟨m1, m2, e3⟩ := List.append_of_mem hm
        have e4 : l = m1 ++ j :: (m2 ++ i :: l2) := by rw [he, e3]; simp
        rw [e4] at e1 hlnd
        have := (split_unique hlnd e1).1
        rw [← this] at e2
        rw [List.nodup_append] at hlnd
        exact hlnd.2.2 i e2 i (by simp) rfl
      have hagr : ∀ t ∈ (los.getD i LO.dfl).reads, envX los vs ρ (List.range i).reverse t = envX los vs ρ l1.reverse t := by
        intro t ht
        refine agree _ _ t (fun j hj => by have := List.mem_range.1 (List.mem_reverse.1 hj); omega) (fun j hj => hlt j (by rw [he]; simp [List.mem_reverse.1 hj])) fun j hj hdj => ?_
        rw [List.mem_reverse, List.mem_reverse, List.mem_range]
        rcases hrd i j t hi hj hdj ht with rfl | h1 | h1
        · exact ⟨fun h => by omega, fun h => absurd h hin⟩
        · exact ⟨fun _ => before j hj h1, fun _ => hd i j hi hj h1⟩
        · exact ⟨fun h => by have := hd j i hj hi h1; omega, fun h => absurd h (after j hj h1)⟩
      have hnext : ∀ w'', S (((l1 ++ [i]).map tk).sum) w'' → wpX P (inOrder los l2) ((envX los vs ρ l1.reverse).put (los.getD i LO.dfl).dst (vs i)) w'' fun ρ' w'' => Q .nrm (ρ.merge ρ' outs) w'' := by
        intro w'' hS'
        have := ih (l1 ++ [i]) w'' (by rw [he]; simp) hS'
        rw [List.reverse_append, List.reverse_singleton, List.singleton_append] at this
        exact this
      have hsum : ((l1 ++ [i]).map tk).sum = (l1.map tk).sum + tk i := by simp
      rw [hsum] at hnext
      -- the effects that were there, where it is an effect itself
      have hcnt : 2 ≤ (los.getD i LO.dfl).cls → (l1.map tk).sum = ks i := by
        intro h2
        have hz : ∀ j, j < los.length → ¬ 2 ≤ (los.getD j LO.dfl).cls → tk j = 0 := fun j hj hn2 => by
          rcases hks j hj with h1 | ⟨_, h1⟩
          · simp [tk, h1]
          · exact absurd h1 hn2
        have hiff : ∀ j, j < los.length → 2 ≤ (los.getD j LO.dfl).cls → (j ∈ l1 ↔ j < i) := fun j hj hj2 => by
          constructor
          · intro hm
            rcases Nat.lt_trichotomy j i with h3 | h3 | h3
            · exact h3
            · exact absurd (h3 ▸ hm) hin
            · exact absurd hm (after j hj (hch j i hj hi hj2 h2 h3))
          · intro h3; exact before j hj (hch i j hi hj h2 hj2 h3)
        have filt : ∀ (L : List Nat), (∀ j ∈ L, j < los.length) → (L.map tk).sum = ((L.filter fun j => decide (2 ≤ (los.getD j LO.dfl).cls)).map tk).sum := by
          intro L
          induction L with
          | nil => intro _; rfl
          | cons j L ihL =>
            intro hL
            rw [List.map_cons, List.sum_cons, ihL fun k hk => hL k (by simp [hk])]
            by_cases hj2 : 2 ≤ (los.getD j LO.dfl).cls
            · rw [List.filter_cons_of_pos (by simpa using hj2), List.map_cons, List.sum_cons]
            · rw [List.filter_cons_of_neg (by simpa using hj2), hz j (hL j (by simp)) hj2, Nat.zero_add]
        have hl1 : ∀ j ∈ l1, j < los.length := fun j hj => hlt j (by rw [he]; simp [hj])
        have hl1n : l1.Nodup := by rw [he, List.nodup_append] at hlnd; exact hlnd.1
        rw [filt l1 hl1]
        have hp : (l1.filter fun j => decide (2 ≤ (los.getD j LO.dfl).cls)).Perm ((List.range i).filter fun j => decide (2 ≤ (los.getD j LO.dfl).cls)) := by
          refine (List.perm_ext_iff_of_nodup (hl1n.filter _) (List.nodup_range.filter _)).2 fun j => ?_
          rw [List.mem_filter, List.mem_filter, List.mem_range]
          constructor
          · rintro ⟨h3, h4⟩; exact ⟨(hiff j (hl1 j h3) (by simpa using h4)).1 h3, h4⟩
          · rintro ⟨h3, h4⟩; exact ⟨(hiff j (by omega) (by simpa using h4)).2 h3, h4⟩
        rw [(hp.map tk).sum_nat, ← filt (List.range i) fun j hj => by have := List.mem_range.1 hj; omega]
        have : ∀ m, m ≤ i → (((List.range m).map tk).sum = ks m) := by
          intro m
          induction m with
          | zero => intro _; simp [hk0]
          | succ m ihm =>
            intro hm
            rw [List.range_succ, List.map_append, List.sum_append, ihm (by omega)]
            have := hks m (by omega)
            simp only [List.map_cons, List.map_nil, List.sum_cons, List.sum_nil, tk]
            omega
        exact this i (Nat.le_refl _)
      have hfi := hf i hi
      have hseli := hsel (los.getD i LO.dfl) (by simp [List.getD, List.getElem?_eq_getElem hi])
      simp only [inOrder, List.map_cons]
      have htk : tk i = ks (i + 1) - ks i := rfl
      generalize los.getD i LO.dfl = o at *
      obtain ⟨c, d, op, ty, g⟩ := o
      have hop : ∀ t, Operand.tmp t ∈ op.operands → envX los vs ρ (List.range i).reverse t = envX los vs ρ l1.reverse t := fun t ht => hagr t (by
        simp only [LO.reads, List.mem_append, List.mem_filterMap]
        exact .inl ⟨.tmp t, by simpa using ht, rfl⟩)
      have run : (if 2 ≤ c then ks (i + 1) = ks i + 1 ∧ ∀ w', S (ks i) w' → stepL P c op ty (envX los vs ρ (List.range i).reverse) w' (fun x w'' => x = vs i ∧ S (ks i + 1) w'')
          else ks (i + 1) = ks i ∧ ∀ j w', S j w' → stepL P c op ty (envX los vs ρ (List.range i).reverse) w' (fun x w'' => x = vs i ∧ S j w'')) →
          stepL P c op ty (envX los vs ρ l1.reverse) w' fun v w'' => wpX P (inOrder los l2) ((envX los vs ρ l1.reverse).put d v) w'' fun ρ' w'' => Q .nrm (ρ.merge ρ' outs) w'' := by
        intro hh
        split at hh
        · rename_i h2
          obtain ⟨e1, hh⟩ := hh
          have hS' := hS
          rw [hcnt h2] at hS'
          refine stepL_mono ?_ (stepL_env hseli hop (hh w' hS'))
          rintro x w'' ⟨rfl, hS2⟩
          refine hnext w'' ?_
          rw [hcnt h2, htk, e1, Nat.add_sub_cancel_left]; exact hS2
        · obtain ⟨e1, hh⟩ := hh
          refine stepL_mono ?_ (stepL_env hseli hop (hh _ w' hS))
          rintro x w'' ⟨rfl, hS2⟩
          refine hnext w'' ?_
          rw [htk, e1, Nat.sub_self]; exact hS2
      cases g with
      | none =>
        simp only [wpX]
        rcases hfi with ⟨_, hh⟩ | ⟨hh, _⟩
        · exact run hh
        · exact hh.elim
      | some gb =>
        obtain ⟨g, b⟩ := gb
        have hg := hagr g (by simp [LO.reads])
        simp only [wpX, gd]
        rcases hfi with ⟨hb, hh⟩ | ⟨hb, hv, hk⟩
        · refine ⟨fun _ => run hh, fun hne => absurd (by rw [← hg]; exact hb) hne⟩
        · refine ⟨fun he => absurd (by rw [hg]; exact he) hb, fun _ => ?_⟩
          have := hnext w' (by rw [htk, hk, Nat.sub_self]; exact hS)
          rw [hv] at this
          exact this
  have := key l [] w.drew rfl h0
  simpa [envX, drawnW] using this
end
/-! ### The walk in the order of the text -/
section
variable {P : Program} {S : Nat → World → Prop} {ρ : Env} {K : Env → Nat → Prop} {k : Nat} {ty : Nat}
class KontA (α : Type) where
  run : α → Prop
@[simp] theorem runA_mk {α : Type} {f : α → Prop} {x : α} : @KontA.run α ⟨f⟩ x = f x := propext Iff.rfl
/-- A read, hidden. -/
def rdA (P : Program) (S : Nat → World → Prop) (op : Op) (ty : Nat) (ρ : Env) [K : KontA Value] : Prop := ∃ v, (∀ k' w', S k' w' → opS P 1 op ty ρ w' fun x _ => x = v) ∧ K.run v
/-- An effect, hidden. -/
def efA (P : Program) (S : Nat → World → Prop) (c : Nat) (op : Op) (ty : Nat) (ρ : Env) (k : Nat) [K : KontA Value] : Prop := ∃ v, (∀ w', S k w' → opS P (c + 2) op ty ρ w' fun x w'' => x = v ∧ S (k + 1) w'') ∧ K.run v
@[simp ↓] theorem wpA_nil : wpA P S k [] ρ K = K ρ k := propext Iff.rfl
@[simp ↓] theorem wpA_0 {d : Option Nat} {op : Op} {l : List LO} : wpA P S k (⟨0, d, op, ty, none⟩ :: l) ρ K = opS P 0 op ty ρ default fun v _ => wpA P S k l (ρ.put d v) K := propext Iff.rfl
@[simp ↓] theorem wpA_1 {d : Option Nat} {op : Op} {l : List LO} : wpA P S k (⟨1, d, op, ty, none⟩ :: l) ρ K = @rdA P S op ty ρ ⟨fun v => wpA P S k l (ρ.put d v) K⟩ := propext Iff.rfl
@[simp ↓] theorem wpA_2 {d : Option Nat} {op : Op} {l : List LO} : wpA P S k (⟨2, d, op, ty, none⟩ :: l) ρ K = @efA P S 0 op ty ρ k ⟨fun v => wpA P S (k + 1) l (ρ.put d v) K⟩ := propext Iff.rfl
theorem rdA_mk {op : Op} {KA : KontA Value} (v : Value) (h : ∀ k' w', S k' w' → opS P 1 op ty ρ w' fun x _ => x = v) (hk : KA.run v) : @rdA P S op ty ρ KA := ⟨v, h, hk⟩
theorem efA_mk {c : Nat} {op : Op} {KA : KontA Value} (v : Value) (h : ∀ w', S k w' → opS P (c + 2) op ty ρ w' fun x w'' => x = v ∧ S (k + 1) w'') (hk : KA.run v) : @efA P S c op ty ρ k KA := ⟨v, h, hk⟩
end
end Go.W
end
section
set_option linter.unusedVariables false
set_option linter.unusedSimpArgs false
set_option linter.unusedSectionVars false
namespace Go.W
open Go Go.Maps
/-! ### A result that lies in a block -/
theorem tyAgg_row {P : Program} {T n : Nat} (h : tyAgg P T = some (some n)) : ∃ d, P.underlying T = some d ∧ (match d with | .struct _ | .array _ _ => true | _ => false) = true ∧ (P.info? T).map (·.size) = some n := by
  unfold tyAgg at h
  split at h
  · rename_i fs i h1 h2
    simp only [Option.some.injEq] at h
    exact ⟨_, h1, rfl, by rw [h2]; simp [h]⟩
  · rename_i i h1 h2
    simp only [Option.some.injEq] at h
    exact ⟨_, h1, rfl, by rw [h2]; simp [h]⟩
  · split at h <;> simp at h
  · cases h
theorem postL_c1 {P : Program} {ρ : Env} {w : World} {R : Ending → World → Prop} {a T n g E : Nat} {cs : Array Value} {fr : Nat × Nat} (hT : tyAgg P T = some (some n)) (ha : ρ a = .pointer (some ⟨g, 0, none⟩)) (hg : w.heap[g]? = some (.cells cs E fr)) (hn : cs.size = n) (hE : E = T)
    (h : R (.returned (.agg cs)) w) : postL P [.cell a T] R .ret ρ w := by
  subst hE
  obtain ⟨d, h1, h2, h3⟩ := tyAgg_row hT
  refine ⟨.agg cs, ?_, h⟩
  have := run_loadVar_row (P := P) w g E E cs fr d hg h1 (by cases d <;> first | rfl | (simp at h2)) (by rw [h3, hn])
  simp [resAll, resOne, ha, asAddr, this, Result.andThen]
/-! ### Keys of integers -/
theorem mapM_some {α β : Type} {f : α → Option β} {g : α → β} : ∀ (l : List α), (∀ x ∈ l, f x = some (g x)) → l.mapM f = some (l.map g)
  | [], _ => rfl
  | x :: l, h => by
    rw [List.mapM_cons, h x (by simp), mapM_some l fun y hy => h y (by simp [hy])]
    rfl
def i64ok (n : Nat) : Prop := n ≤ 9223372036854775807
theorem wf_nat {n : Nat} (h : i64ok n) : (Lit.int .i64 (n : Int)).wf = true := by
  have h1 : IntKind.i64.min = -9223372036854775808 := rfl
  have h2 : IntKind.i64.max = 9223372036854775807 := rfl
  unfold i64ok at h
  simp only [Lit.wf, Bool.and_eq_true, decide_eq_true_eq]
  omega
/-- A list of numbers, as cells. -/
def ints (l : List Nat) : List Value := l.map fun (n : Nat) => .int .i64 (n : Int)
theorem keyLits_int {P : Program} {e d : Nat} (he : P.underlying e = some (.int .i64)) {n : Nat} (h : i64ok n) : P.keyLits (d + 1) e [.int .i64 (n : Int)] = some [.int .i64 (n : Int)] := by
  unfold Program.keyLits
  simp only [he]
  rw [if_pos ⟨trivial, wf_nat h⟩]
theorem ints_part {l : List Nat} {i : Nat} (h : i < l.length) : ((ints l).drop i).take 1 = [.int .i64 ((l.getD i 0 : Nat) : Int)] := by
  have hl : i < (ints l).length := by simpa [ints] using h
  rw [List.drop_eq_getElem_cons hl]
  simp [ints, List.getD, List.getElem?_eq_getElem h]
theorem key_array {P : Program} {k e n m : Nat} (hu : P.underlying k = some (.array n e)) (he : P.underlying e = some (.int .i64)) (h1 : P.cellsOf e = 1) (hn : P.cellsOf k = n) (hk : P.keyType k = true) (hm : P.types.size = m + 1) {l : List Nat} (hl : l.length = n) (hok : ∀ x ∈ l, i64ok x) :
    ∃ L, keyOf P k (.agg (ints l).toArray) = some L := by
  have hlen : (ints l).length = n := by simp [ints, hl]
  have hL : P.keyLits (m + 1 + 1) k (ints l) = some (((List.range n).map fun i => [Lit.int .i64 ((l.getD i 0 : Nat) : Int)]).flatten) := by
    unfold Program.keyLits
    simp only [hu]
    rw [if_pos (by rw [hn, hlen]), h1, mapM_some (g := fun i => [Lit.int .i64 ((l.getD i 0 : Nat) : Int)]) (List.range n) fun i hi => by
      have hil : i < l.length := by rw [hl]; exact List.mem_range.1 hi
      rw [Nat.mul_one, ints_part hil]
      exact keyLits_int he (hok _ (by simp [List.getD, List.getElem?_eq_getElem hil]))]
    rfl
  refine ⟨.string (keyBytes (((List.range n).map fun i => [Lit.int .i64 ((l.getD i 0 : Nat) : Int)]).flatten)), ?_⟩
  unfold keyOf
  simp only [hu]
  rw [if_pos (by simp [hk, Value.formed, hu, hn, hlen]), hm]
  have hcs : (Value.agg (ints l).toArray).cells.toList = ints l := by simp
  rw [hcs, hL]
  rfl
/-- A struct of numbers, field i at i. -/
theorem key_struct {P : Program} {k m : Nat} {fs : Array Field} (hu : P.underlying k = some (.struct fs)) (hf : fieldsI P .i64 0 fs.toList = true) (h1 : ∀ f ∈ fs, P.cellsOf f.type = 1) (hn : P.cellsOf k = fs.size) (hk : P.keyType k = true) (hm : P.types.size = m + 1) {l : List Nat} (hl : l.length = fs.size) (hok : ∀ x ∈ l, i64ok x) :
    ∃ L, keyOf P k (.agg (ints l).toArray) = some L := by
  have hlen : (ints l).length = fs.size := by simp [ints, hl]
  have key : ∀ (gs : List Field) (o : Nat), fieldsI P .i64 o gs = true → (∀ f ∈ gs, P.cellsOf f.type = 1) → o + gs.length = l.length → ∀ f ∈ gs, P.keyLits (m + 1) f.type (((ints l).drop f.offset).take (P.cellsOf f.type)) = some [Lit.int .i64 ((l.getD f.offset 0 : Nat) : Int)] := by
    intro gs
    induction gs with
    | nil => intro o _ _ _ f hf; cases hf
    | cons g gs ih =>
      intro o h hc ho f hfm
      simp only [fieldsI, Bool.and_eq_true, bne_iff_ne, ne_eq, beq_iff_eq] at h
      obtain ⟨⟨⟨e1, e2⟩, e3⟩, e4⟩ := h
      simp only [List.length_cons] at ho
      rcases List.mem_cons.1 hfm with rfl | hm'
      · have hil : f.offset < l.length := by omega
        rw [hc f (by simp), ints_part hil]
        exact keyLits_int (intT_ok e3).2 (hok _ (by simp [List.getD, List.getElem?_eq_getElem hil]))
      · exact ih (o + 1) e4 (fun f hf => hc f (by simp [hf])) (by omega) f hm'
  have names : ∀ (gs : List Field) (o : Nat), fieldsI P .i64 o gs = true → ∀ f ∈ gs, (f.name != "_") = true := by
    intro gs
    induction gs with
    | nil => intro o _ f hf; cases hf
    | cons g gs ih =>
      intro o h f hfm
      simp only [fieldsI, Bool.and_eq_true] at h
      rcases List.mem_cons.1 hfm with rfl | hm'
      · exact h.1.1.2
      · exact ih (o + 1) h.2 f hm'
  have hnm : fs.all (fun f => f.name != "_") = true := by
    rw [Array.all_eq_true_iff_forall_mem]
    exact fun f hfm => names _ 0 hf f (by simpa using hfm)
  have hL : P.keyLits (m + 1 + 1) k (ints l) = some ((fs.toList.map fun f => [Lit.int .i64 ((l.getD f.offset 0 : Nat) : Int)]).flatten) := by
    unfold Program.keyLits
    simp only [hu]
    rw [if_pos ⟨by rw [hn, hlen], hnm⟩, mapM_some (g := fun f : Field => [Lit.int .i64 ((l.getD f.offset 0 : Nat) : Int)]) fs.toList fun f hfm => key fs.toList 0 hf (fun f hf => h1 f (by simpa using hf)) (by simp [hl]) f hfm]
    rfl
  refine ⟨.string (keyBytes ((fs.toList.map fun f => [Lit.int .i64 ((l.getD f.offset 0 : Nat) : Int)]).flatten)), ?_⟩
  unfold keyOf
  simp only [hu]
  rw [if_pos (by simp [hk, Value.formed, hu, hn, hlen]), hm]
  have hcs : (Value.agg (ints l).toArray).cells.toList = ints l := by simp
  rw [hcs, hL]
  rfl
/-- Keys that are rows of numbers. -/
theorem ints_inj {l l' : List Nat} (h : Value.agg (ints l).toArray = Value.agg (ints l').toArray) : l = l' := by
  injection h with h
  have h : ints l = ints l' := by simpa using h
  unfold ints at h
  exact (List.map_inj_right (fun a b hab => by injection hab with _ h; omega)).1 h
/-! ### Blocks of one's own -/
section
variable {w w1 : World} {F : List Nat} {B A C D : Asr}
/-- A store into a block. -/
theorem At.st {b o E : Nat} {c : Array Value} {cs : List Value} {KW : Kont World} (hB : Lcl B) (h : At w F (Star (ObjA b (.cells c E (0, 0))) B) w1) (hs : o + cs.length ≤ c.size) (h1 : cs.all oneC = true)
    (H : ∀ w2, At w F (Star (ObjA b (.cells (wrAt c o cs) E (0, 0))) B) w2 → KW.run w2) : @stJ w1 ⟨b, o, none⟩ cs KW := by
  rw [stC_eq, row_blk h.obj]
  simp only [optS_some, run_mk]
  refine gd_mk ⟨trivial, hs, h1⟩ ?_
  exact H _ (h.setB hB)
theorem Star.assoc {w : World} {F : List Nat} (h : Star (Star A B) C w F) : ∃ F', Star A (Star B C) w F' ∧ ∀ x ∈ F', x ∈ F := by
  obtain ⟨Fx, Fc, ⟨Fa, Fb, h1, h2, d1, rfl⟩, h3, d2, rfl⟩ := h
  refine ⟨_, ⟨Fa, _, h1, ⟨Fb, Fc, h2, h3, fun x hx hc => d2 x (by simp [hx]) hc, rfl⟩, fun x hx hm => ?_, rfl⟩, fun x hx => by simpa using hx⟩
  rcases List.mem_append.1 hm with h | h
  · exact d1 x hx h
  · exact d2 x (by simp [hx]) h
theorem Star.assoc' {w : World} {F : List Nat} (h : Star A (Star B C) w F) : ∃ F', Star (Star A B) C w F' ∧ ∀ x ∈ F', x ∈ F := by
  obtain ⟨Fa, Fx, h1, ⟨Fb, Fc, h2, h3, d1, rfl⟩, d2, rfl⟩ := h
  refine ⟨_, ⟨_, Fc, ⟨Fa, Fb, h1, h2, fun x hx hb => d2 x hx (by simp [hb]), rfl⟩, h3, fun x hx hc => ?_, rfl⟩, fun x hx => by simpa using hx⟩
  rcases List.mem_append.1 hx with h | h
  · exact d2 x h (by simp [hc])
  · exact d1 x h hc
theorem At.assoc (h : At w F (Star (Star A B) C) w1) : At w F (Star A (Star B C)) w1 := h.imp fun _ h => h.assoc
theorem At.assoc' (h : At w F (Star A (Star B C)) w1) : At w F (Star (Star A B) C) w1 := h.imp fun _ h => h.assoc'
/-- Something that there is. -/
def ExA {α : Type} (A : α → Asr) : Asr := fun w F => ∃ x, A x w F
theorem Lcl.ex {α : Type} {A : α → Asr} (h : ∀ x, Lcl (A x)) : Lcl (ExA A) := by
  refine ⟨?_, ?_⟩
  · rintro w F ⟨x, hx⟩; exact (h x).lt hx
  · rintro w F G w' ⟨x, hx⟩ hk hd; exact ⟨x, (h x).kp hx hk hd⟩
theorem At.ex_open {α : Type} {A : α → Asr} (h : At w F (Star (ExA A) B) w1) : ∃ x, At w F (Star (A x) B) w1 := by
  obtain ⟨⟨F1, ⟨Fa, Fb, ⟨x, h1⟩, h2, hd, e⟩, hn⟩, k⟩ := h
  exact ⟨x, ⟨⟨F1, ⟨Fa, Fb, h1, h2, hd, e⟩, hn⟩, k⟩⟩
theorem At.ex_close {α : Type} {A : α → Asr} {x : α} (h : At w F (Star (A x) B) w1) : At w F (Star (ExA A) B) w1 :=
  h.imp fun F1 ⟨Fa, Fb, h1, h2, hd, e⟩ => ⟨F1, ⟨Fa, Fb, ⟨x, h1⟩, h2, hd, e⟩, fun x hx => hx⟩
/-- One assertion out of another, in no more blocks. -/
def Imp (A B : Asr) : Prop := ∀ w F, A w F → ∃ F', B w F' ∧ ∀ x ∈ F', x ∈ F
theorem Imp.rfl {A : Asr} : Imp A A := fun _ F h => ⟨F, h, fun _ h => h⟩
theorem Imp.trans {A B C : Asr} (h : Imp A B) (k : Imp B C) : Imp A C := fun w F hA => by
  obtain ⟨F', h1, h2⟩ := h w F hA
  obtain ⟨F'', h3, h4⟩ := k w F' h1
  exact ⟨F'', h3, fun x hx => h2 x (h4 x hx)⟩
theorem Imp.sw {A B C : Asr} : Imp (Star A (Star B C)) (Star B (Star A C)) := by
  rintro w F ⟨Fa, Fx, h1, ⟨Fb, Fc, h2, h3, hd, rfl⟩, hd2, rfl⟩
  refine ⟨_, ⟨Fb, _, h2, ⟨Fa, Fc, h1, h3, fun x hx hc => hd2 x hx (by simp [hc]), _root_.rfl⟩, fun x hx hxa => ?_, _root_.rfl⟩, fun x hx => ?_⟩
  · rcases List.mem_append.1 hxa with h | h
    · exact hd2 x h (by simp [hx])
    · exact hd x hx h
  · simp only [List.mem_append] at hx ⊢
    rcases hx with h | h | h
    · exact .inr (.inl h)
    · exact .inl h
    · exact .inr (.inr h)
theorem Imp.un {A X Y : Asr} (h : Imp X Y) : Imp (Star A X) (Star A Y) := by
  rintro w F ⟨Fa, Fx, h1, h2, hd, rfl⟩
  obtain ⟨F', h3, h4⟩ := h w Fx h2
  refine ⟨_, ⟨Fa, F', h1, h3, fun x hx hm => hd x hx (h4 x hm), _root_.rfl⟩, fun x hx => ?_⟩
  rcases List.mem_append.1 hx with h | h
  · simp [h]
  · simp [h4 x h]
theorem Imp.dr {A X : Asr} : Imp (Star A X) X := by
  rintro w F ⟨Fa, Fx, h1, h2, hd, rfl⟩
  exact ⟨Fx, h2, fun x hx => by simp [hx]⟩
theorem At.by {A X : Asr} (h : At w F A w1) (i : Imp A X) : At w F X w1 := h.imp fun F1 h1 => i w1 F1 h1
theorem At.rot4 {A1 A2 A3 A4 X : Asr} (h : At w F (Star A1 (Star A2 (Star A3 (Star A4 X)))) w1) : At w F (Star A4 (Star A1 (Star A2 (Star A3 X)))) w1 :=
  h.by ((Imp.sw.un).un.trans (Imp.sw.un.trans Imp.sw))
theorem At.rot5 {A1 A2 A3 A4 A5 X : Asr} (h : At w F (Star A1 (Star A2 (Star A3 (Star A4 (Star A5 X))))) w1) : At w F (Star A5 (Star A1 (Star A2 (Star A3 (Star A4 X))))) w1 :=
  h.by ((Imp.sw.un).un.un.trans ((Imp.sw.un).un.trans (Imp.sw.un.trans Imp.sw)))
theorem At.tor3 {A1 A2 A3 X : Asr} (h : At w F (Star A1 (Star A2 (Star A3 X))) w1) : At w F (Star A2 (Star A3 (Star A1 X))) w1 :=
  h.by (Imp.sw.trans Imp.sw.un)
theorem At.tor4 {A1 A2 A3 A4 X : Asr} (h : At w F (Star A1 (Star A2 (Star A3 (Star A4 X)))) w1) : At w F (Star A2 (Star A3 (Star A4 (Star A1 X)))) w1 :=
  h.by (Imp.sw.trans (Imp.sw.un.trans Imp.sw.un.un))
end
end Go.W
end
section
set_option linter.unusedVariables false
set_option linter.unusedSimpArgs false
set_option linter.unusedSectionVars false
namespace Go.W
open Go Go.Maps
/-! ### 'for k, v := range m': each entry once, in some order -/
section
variable {κ α : Type} [DecidableEq κ] {ek : κ → Value} {ev : α → Value} {ok : κ → Prop} {P : Program} {k e t : TypeId} {l vis : List (κ × α)} {b r : Nat} {B : Asr} {w w1 : World} {F : List Nat}
/-- A map and a walk through it; vis: what has come, in its order. -/
structure RngM (w : World) (b r : Nat) (ek : κ → Value) (ev : α → Value) (ok : κ → Prop) (l vis : List (κ × α)) : Prop where
  map : MapM w b ek ev ok l
  ne : b ≠ r
  it : ∃ (es : Array MapEntry) (clock since : Nat) (seen : Array Nat) (c0 : Nat) (vs : List MapEntry), w.heap[b]? = some (.map es clock) ∧ es.toList.map (fun x => (x.key, x.val)) = l.map (fun p => (ek p.1, ev p.2)) ∧ MapKept.Stamped es clock ∧ w.heap[r]? = some (.mapIter (some b) since seen c0) ∧ (∀ x ∈ es.toList, x.born < since) ∧ (since ≤ c0 ∧ since ≤ clock ∧ (vis ≠ [] → c0 = clock)) ∧
    seen.toList = vs.map (fun x : MapEntry => x.born) ∧ (∀ x ∈ vs, x ∈ es.toList) ∧ vs.map (fun x => (x.key, x.val)) = vis.map (fun p => (ek p.1, ev p.2))
  sub : ∀ p ∈ vis, p ∈ l
  nd : vis.Nodup
def RngA (b r : Nat) (ek : κ → Value) (ev : α → Value) (ok : κ → Prop) (l vis : List (κ × α)) : Asr := fun w F => RngM w b r ek ev ok l vis ∧ F = [b, r]
theorem RngM.lt (h : RngM w b r ek ev ok l vis) : r < w.heap.size := by
  obtain ⟨es, clock, since, seen, c0, vs, _, _, _, h4, _⟩ := h.it
  exact lt_of_blk h4
theorem RngM.kp {S : List Nat} {w' : World} (h : RngM w b r ek ev ok l vis) (hk : Kp S w w') (hb : b ∉ S) (hr : r ∉ S) : RngM w' b r ek ev ok l vis := by
  obtain ⟨es, clock, since, seen, c0, vs, h1, h2, h3, h4, h5⟩ := h.it
  exact ⟨h.map.kp hk hb, h.ne, ⟨es, clock, since, seen, c0, vs, hk.blk h1 hb, h2, h3, hk.blk h4 hr, h5⟩, h.sub, h.nd⟩
theorem Lcl.rng : Lcl (RngA b r ek ev ok l vis) := by
  refine ⟨?_, ?_⟩
  · rintro w F ⟨h, rfl⟩ x hx
    simp at hx
    rcases hx with rfl | rfl
    · exact h.map.lt
    · exact h.lt
  · rintro w F G w' ⟨h, rfl⟩ hk hd
    exact ⟨h.kp hk (hd b (by simp)) (hd r (by simp)), rfl⟩
theorem At.rng (h : At w F (Star (RngA b r ek ev ok l vis) B) w1) : RngM w1 b r ek ev ok l vis := by
  obtain ⟨F1, h1, _⟩ := h.get
  exact h1
theorem At.rng_map (h : At w F (Star (RngA b r ek ev ok l vis) B) w1) : At w F (Star (MapA b ek ev ok l) B) w1 := h.imp fun F1 ⟨Fa, Fb, ⟨h1, e1⟩, h2, hd, e⟩ => by
  subst e1
  exact ⟨_, ⟨[b], Fb, ⟨h1.map, rfl⟩, h2, fun x hx => hd x (by simp at hx; simp [hx]), rfl⟩, fun x hx => by rw [e]; simp at hx ⊢; rcases hx with h | h <;> simp [h]⟩
/-- The start of the walk. -/
theorem At.range {KV : Kont (Value × World)} (hB : Lcl B) (h : At w F (Star (MapA b ek ev ok l) B) w1) (ht : P.underlying t = some (.map k e))
    (H : ∀ w2, At w F (Star (RngA b w1.heap.size ek ev ok l []) B) w2 → KV.run (.pointer (some ⟨w1.heap.size, 0, none⟩), w2)) : @efH P (Instr.range t (.map (some b))) w1 KV := by
  have hm := h.map
  obtain ⟨es, clock, hb, hsz, hes, hok, hnd, hst⟩ := hm
  have hbl := lt_of_blk hb
  refine ef_mk (run_range_map w1 t k e b es clock ht hb) (H _ ?_)
  have kp : Kp [] w1 (w1.alloc (.mapIter (some b) clock #[] clock)) := (Kp.refl _ _).alloc _
  refine h.step Lcl.map hB ?_
  rintro Fa ⟨h1, rfl⟩
  refine ⟨[b, w1.heap.size], ⟨⟨h1.kp kp (by simp), by omega, ⟨es, clock, clock, #[], clock, [], kp.blk hb (by simp), hes, hst, alloc_new, hst.1, ⟨Nat.le_refl _, Nat.le_refl _, fun _ => rfl⟩, rfl, by simp, rfl⟩, by simp, by simp⟩, rfl⟩, (Kp.refl _ _).alloc _, fun x hx => ?_⟩
  simp at hx
  rcases hx with rfl | rfl
  · exact .inl (by simp)
  · exact .inr (Nat.le_refl _)
theorem born_inj {es : List MapEntry} (h : (es.map (·.born)).Nodup) {x y : MapEntry} (hx : x ∈ es) (hy : y ∈ es) (e : x.born = y.born) : x = y := by
  obtain ⟨i, hi, rfl⟩ := List.mem_iff_getElem.1 hx
  obtain ⟨j, hj, rfl⟩ := List.mem_iff_getElem.1 hy
  have : (es.map (·.born))[i]'(by simpa using hi) = (es.map (·.born))[j]'(by simpa using hj) := by simpa using e
  have := (List.getElem_inj h).1 this
  subst this; rfl
theorem key_inj {es : List MapEntry} (h : (es.map (·.key)).Nodup) {x y : MapEntry} (hx : x ∈ es) (hy : y ∈ es) (e : x.key = y.key) : x = y := by
  obtain ⟨i, hi, rfl⟩ := List.mem_iff_getElem.1 hx
  obtain ⟨j, hj, rfl⟩ := List.mem_iff_getElem.1 hy
  have : (es.map (·.key))[i]'(by simpa using hi) = (es.map (·.key))[j]'(by simpa using hj) := by simpa using e
  have := (List.getElem_inj h).1 this
  subst this; rfl
/-- The next entry, whichever. -/
theorem At.next {KV : Kont (Value × World)} {ty : Nat} (hB : Lcl B) (hk : KeyEnc P k ek ok) (h : At w F (Star (RngA b r ek ev ok l vis) B) w1)
    (hDone : (∀ p ∈ l, p ∈ vis) → At w F (Star (RngA b r ek ev ok l vis) B) w1 → KV.run (.tuple #[.bool false], w1))
    (hMore : ∀ p w2, p ∈ l → p ∉ vis → At w F (Star (RngA b r ek ev ok l (vis ++ [p])) B) w2 → KV.run (.tuple #[.bool true, ek p.1, ev p.2], w2)) : @efH P (Instr.next (.pointer (some ⟨r, 0, none⟩)) false ty) w1 KV := by
  have hr := h.rng
  obtain ⟨es, clock, since, seen, c0, vs, h1, h2, h3, h4, h5, h6, h7, h8, h9⟩ := hr.it
  have of_entry : ∀ x ∈ es.toList, ∃ p ∈ l, x.key = ek p.1 ∧ x.val = ev p.2 := fun x hx => by
    have : (x.key, x.val) ∈ es.toList.map (fun x => (x.key, x.val)) := List.mem_map.2 ⟨x, hx, rfl⟩
    rw [h2] at this
    obtain ⟨p, hp, e⟩ := List.mem_map.1 this
    simp only [Prod.mk.injEq] at e
    exact ⟨p, hp, e.1.symm, e.2.symm⟩
  have of_pair : ∀ p ∈ l, ∃ x ∈ es.toList, x.key = ek p.1 ∧ x.val = ev p.2 := fun p hp => by
    have : (ek p.1, ev p.2) ∈ l.map (fun p => (ek p.1, ev p.2)) := List.mem_map.2 ⟨p, hp, rfl⟩
    rw [← h2] at this
    obtain ⟨x, hx, e⟩ := List.mem_map.1 this
    simp only [Prod.mk.injEq] at e
    exact ⟨x, hx, e.1, e.2⟩
  have pair_inj : ∀ p ∈ l, ∀ q ∈ l, p.1 = q.1 → p = q := fun p hp q hq e => by
    have hnd : (l.map (·.1)).Nodup := by
      obtain ⟨_, _, _, _, _, _, hnd, _⟩ := hr.map
      exact hnd
    obtain ⟨i, hi, rfl⟩ := List.mem_iff_getElem.1 hp
    obtain ⟨j, hj, rfl⟩ := List.mem_iff_getElem.1 hq
    have : (l.map (·.1))[i]'(by simpa using hi) = (l.map (·.1))[j]'(by simpa using hj) := by simpa using e
    have := (List.getElem_inj hnd).1 this
    subst this; rfl
  rcases run_next_at w1 ty r b since c0 seen es clock h4 h1 h5 h6.1 with ⟨hz, hrun⟩ | ⟨x, hx, w2, hw2, hrun⟩
  · refine ef_mk hrun (hDone (fun p hp => ?_) h)
    obtain ⟨x, hx, ex1, ex2⟩ := of_pair p hp
    have hin : x.born ∈ seen.toList := by
      rcases Classical.em (x.born ∈ seen.toList) with hs | hs
      · exact hs
      · exfalso
        have : x ∈ (leftOf es seen).toList := by
          unfold leftOf
          rw [Array.toList_filter, List.mem_filter]
          refine ⟨hx, ?_⟩
          simp
          exact fun hc => hs (Array.mem_toList_iff.2 hc)
        have h0 : (leftOf es seen).toList.length = 0 := by simpa using hz
        rw [List.length_eq_zero_iff] at h0
        rw [h0] at this; cases this
    rw [h7] at hin
    obtain ⟨y, hy, ey⟩ := List.mem_map.1 hin
    have := born_inj h3.2.1 (h8 y hy) hx ey
    subst this
    have hv : (y.key, y.val) ∈ vis.map (fun p => (ek p.1, ev p.2)) := by rw [← h9]; exact List.mem_map.2 ⟨y, hy, rfl⟩
    obtain ⟨q, hq, eq⟩ := List.mem_map.1 hv
    simp only [Prod.mk.injEq] at eq
    have hqp : q = p := pair_inj q (hr.sub q hq) p hp (hk.inj _ _ (by rw [eq.1, ex1]))
    rw [← hqp]; exact hq
  · have hxl : x ∈ es.toList ∧ x.born ∉ seen.toList := by
      unfold leftOf at hx
      rw [Array.toList_filter, List.mem_filter] at hx
      have h2 := hx.2
      simp at h2
      exact ⟨hx.1, fun hc => h2 (Array.mem_toList_iff.1 hc)⟩
    obtain ⟨p, hp, ep1, ep2⟩ := of_entry x hxl.1
    have hpv : p ∉ vis := fun hv => by
      have : (ek p.1, ev p.2) ∈ vis.map (fun p => (ek p.1, ev p.2)) := List.mem_map.2 ⟨p, hv, rfl⟩
      rw [← h9] at this
      obtain ⟨y, hy, ey⟩ := List.mem_map.1 this
      simp only [Prod.mk.injEq] at ey
      have hyx := key_inj h3.2.2 (h8 y hy) hxl.1 (by rw [ey.1, ep1])
      subst hyx
      exact hxl.2 (by rw [h7]; exact List.mem_map.2 ⟨y, hy, rfl⟩)
    have kd : Kp [] w1 w2 := by
      rcases hw2 with rfl | rfl
      · exact Kp.refl _ _
      · exact (Kp.refl _ _).drew
    have h' := h.kp0 (Lcl.rng.star hB) kd
    rw [ep1, ep2] at hrun
    refine ef_mk hrun (hMore p _ hp hpv (h'.step Lcl.rng hB ?_))
    rintro Fa ⟨h1', rfl⟩
    have hne := hr.ne
    have hr2 : w2.heap[r]? = some (.mapIter (some b) since seen c0) := kd.blk h4 (by simp)
    have hb2 : w2.heap[b]? = some (.map es clock) := kd.blk h1 (by simp)
    have ks : Kp [r] w2 (w2.setB r (.mapIter (some b) since (seen.push x.born) clock)) := (Kp.refl _ _).setB (.inl (by simp)) _
    refine ⟨[b, r], ⟨⟨h1'.map.kp ks (by simpa using hne), hne, ⟨es, clock, since, seen.push x.born, clock, vs ++ [x], ks.blk hb2 (by simpa using hne), h2, h3, setB_new (lt_of_blk hr2), h5, ⟨h6.2.1, h6.2.1, fun _ => rfl⟩, by simp [h7], fun y hy => ?_, ?_⟩, fun q hq => ?_, ?_⟩, rfl⟩, (Kp.refl _ _).setB (.inl (by simp)) _, fun x hx => .inl hx⟩
    · rcases List.mem_append.1 hy with h | h
      · exact h8 y h
      · simp at h; subst h; exact hxl.1
    · simp [h9, ep1, ep2]
    · rcases List.mem_append.1 hq with h | h
      · exact hr.sub q h
      · simp at h; subst h; exact hp
    · rw [List.nodup_append]
      refine ⟨hr.nd, by simp, fun a ha c hc => ?_⟩
      simp at hc
      subst hc
      exact fun e => hpv (e ▸ ha)
/-- The entry that has come. -/
theorem At.entry {KV : Kont (Value × World)} {p : κ × α} (h : At w F (Star (RngA b r ek ev ok l (vis ++ [p])) B) w1) (H : KV.run (.tuple #[ek p.1, ev p.2], w1)) : @efH P (Instr.entry (.pointer (some ⟨r, 0, none⟩))) w1 KV := by
  have hr := h.rng
  obtain ⟨es, clock, since, seen, c0, vs, h1, h2, h3, h4, h5, h6, h7, h8, h9⟩ := hr.it
  rw [List.map_append] at h9
  obtain ⟨v0, v1, rfl, e0, e1⟩ := List.map_eq_append_iff.1 h9
  obtain ⟨x, rfl, ex⟩ : ∃ x, v1 = [x] ∧ (x.key, x.val) = (ek p.1, ev p.2) := by
    obtain ⟨x, l1, rfl, h1, h2⟩ := List.map_eq_cons_iff.1 e1
    have := List.map_eq_nil_iff.1 h2
    subst this
    exact ⟨x, rfl, h1⟩
  simp only [Prod.mk.injEq] at ex
  have hs : seen = (v0.map (fun x : MapEntry => x.born)).toArray.push x.born := by
    apply Array.toList_inj.1
    rw [h7]
    simp
  rw [hs, h6.2.2 (by simp)] at h4
  have := run_entry_at (P := P) w1 r b since (v0.map (fun x : MapEntry => x.born)).toArray es clock x (by simpa using h4) h1 (h8 x (by simp)) h3.2.1
  rw [ex.1, ex.2] at this
  exact ef_mk this H
end
end Go.W
end
section
set_option linter.unusedVariables false
set_option linter.unusedSimpArgs false
set_option linter.unusedSectionVars false
namespace Go.W
open Go Go.Maps
/-! ### A few orders; bits -/
section
variable {P : Program} {ρ : Env} {w : World} {K : Env → World → Prop}
@[simp ↓] theorem wpAlts_more {a b : List LO} {l : List (List LO)} : wpAlts P ρ w K (a :: b :: l) = (wpT P a ρ w K ∧ wpAlts P ρ w K (b :: l)) := propext Iff.rfl
end
theorem ofNat_and (a b : Nat) (ha : a < 18446744073709551616) : ((BitVec.ofInt 64 (a : Int) &&& BitVec.ofInt 64 (b : Int)).toNat : Int) = ((a &&& b : Nat) : Int) := by
  have e1 : ∀ x : Nat, BitVec.ofInt 64 (x : Int) = BitVec.ofNat 64 x := fun x => by
    apply BitVec.eq_of_toNat_eq
    simp
  rw [e1, e1, BitVec.toNat_and, BitVec.toNat_ofNat, BitVec.toNat_ofNat]
  congr 1
  apply Nat.eq_of_testBit_eq
  intro i
  rw [Nat.testBit_and, Nat.testBit_and, Nat.testBit_mod_two_pow, Nat.testBit_mod_two_pow]
  by_cases hi : i < 64
  · simp [hi]
  · have : a.testBit i = false := Nat.testBit_lt_two_pow (Nat.lt_of_lt_of_le ha (by have : 2 ^ 64 ≤ 2 ^ i := Nat.pow_le_pow_right (by omega) (by omega); omega))
    simp [hi, this]
end Go.W
namespace Go.W
open Go Go.Maps
/-! ### An append behind which the old slice is used again -/
section
variable {α : Type} {enc : α → List Value} {sz E : Nat} {l : List α} {v : Value} {w : World}
/-- The old slice comes back out of the new one, or lies apart from it. -/
def Back (v v' : Value) (E sz : Nat) (enc : α → List Value) (l : List α) (w w' : World) : Prop :=
  ((∀ (w'' : World) (more : List α), Own w'' v' E sz enc (l ++ more) → Own w'' v E sz enc l) ∧ (∀ x ∈ v.own, x ∈ v'.own) ∧ ∀ (w'' : World) (more : List α), Vw w'' v' enc (l ++ more) → Vw w'' v enc l) ∨ (Own w' v E sz enc l ∧ ∀ x ∈ v'.own, w.heap.size ≤ x)
theorem Own.appendK {P : Program} {KV : Kont (Value × World)} {T ty by_ : Nat} {z : List Value} (h : Own w v E sz enc l) (he : ∀ x, (enc x).length = sz) (h1 : ∀ x, (enc x).all oneC = true)
    (hT : slInfo P T = some (E, sz, by_, z)) {a : Addr} {m c : Nat} {xs : List α} (hm : xs.length = m) (hx : ∀ j u, (xs.flatMap enc)[j]? = some u → w.cell? (a.add j) = some u)
    (hb : (l.length + m) * by_ ≤ 140737488355328) (hmax : l.length + m ≤ maxLen)
    (H : ∀ v' w', Kp v.own w w' → Own w' v' E sz enc (l ++ xs) → (∀ x ∈ v'.own, x ∈ v.own ∨ w.heap.size ≤ x) → Back v v' E sz enc l w w' → KV.run (v', w')) :
    @efH P (Builtin.append_ #[T, T] ty [v, .slice (some a) m c].toArray) w KV := by
  obtain ⟨v', w', hr, hk, ho, hs⟩ : ∃ v' w', (Builtin.append_ #[T, T] ty [v, .slice (some a) m c].toArray).run P w = .ok v' w' ∧ Kp v.own w w' ∧ Own w' v' E sz enc (l ++ xs) ∧ (∀ x ∈ v'.own, x ∈ v.own ∨ w.heap.size ≤ x) := by
    have := Own.append (P := P) (KV := ⟨fun q => Kp v.own w q.2 ∧ Own q.2 q.1 E sz enc (l ++ xs) ∧ (∀ x ∈ q.1.own, x ∈ v.own ∨ w.heap.size ≤ x)⟩) (ty := ty) (c := c) h he h1 hT hm hx hb hmax (fun v' w' p q r => ⟨p, q, r⟩)
    obtain ⟨v', w', hr, hh⟩ := this
    exact ⟨v', w', hr, hh⟩
  refine ef_mk hr (H v' w' hk ho hs ?_)
  obtain ⟨i, zv, hu, hi, hz, rfl, rfl, rfl, hzs, hpos⟩ := slInfo_spec hT
  have h1' : ∀ u ∈ xs.flatMap enc, u.oneCell' = true := by
    intro u hu
    obtain ⟨x, _, hux⟩ := List.mem_flatMap.1 hu
    have := List.all_eq_true.1 (h1 x) u hux
    cases u <;> simp_all [oneC, Value.oneCell']
  rcases h with ⟨rfl, rfl⟩ | ⟨g, cap, cur, junk, rfl, hh, hc, hj, hle, hm'⟩
  · exact .inl ⟨fun w'' more _ => Own.nil _ _ _ _, by simp, fun w'' more _ => Vw.nil _ _⟩
  have hcs : cur.size = cap * i.size := by
    have := congrArg List.length hc
    simp [flatMap_len he] at this
    omega
  by_cases hroom : l.length + m ≤ cap
  · left
    have := run_append_room (P := P) w T ty E i hu hi g l.length cap cur hh a m c (xs.flatMap enc) (by rw [flatMap_len he, hm]) hx h1' hroom (by
      rw [flatMap_len he, hm, ← Nat.add_mul, hcs]
      exact Nat.mul_le_mul_right _ hroom)
    rw [this] at hr
    injection hr with e1 _
    subst e1
    refine ⟨fun w'' more ho' => ?_, by simp, fun w'' more ho' => ?_⟩
    rotate_left
    · rcases ho' with ⟨e, _⟩ | ⟨a', cap', e, hle', hsp, hcc⟩
      · cases e
      · injection e with e1 e2 e3
        injection e1 with e1
        subst e1 e3
        refine .inr ⟨_, cap, rfl, hle, fun _ => rfl, fun j u hj' => hcc j u ?_⟩
        rw [List.flatMap_append, List.getElem?_append_left (List.getElem?_eq_some_iff.1 hj').1]
        exact hj'
    rcases ho' with ⟨e, _⟩ | ⟨g', cap', cur', junk', e, hh', hc', hj', hle', hmm⟩
    · cases e
    · injection e with e1 e2 e3
      injection e1 with e1
      injection e1 with e4
      subst e4 e3
      refine .inr ⟨g, cap, cur', more.flatMap enc ++ junk', rfl, hh', by rw [hc', List.flatMap_append, List.append_assoc], ?_, hle, hm'⟩
      simp only [List.length_append, flatMap_len he] at hj' ⊢
      rw [Nat.add_mul] at hj'
      omega
  · right
    have hown : w.ownsRow 0 E i.size (.slice (some ⟨g, 0, none⟩) l.length cap) l.length (l.flatMap enc) := by
      refine ⟨flatMap_len he l, .inr ⟨g, cap, cur, rfl, Nat.zero_le _, hh, hle, hm', hcs, ?_⟩⟩
      rw [hc, ← flatMap_len he l, List.take_left]
    have holds : ∀ j u, (l.flatMap enc)[j]? = some u → w.cell? ((⟨g, 0, none⟩ : Addr).add j) = some u := hown.cells (g := g) rfl
    have := run_append_grow (P := P) w T ty E i zv hu hi hz ⟨g, 0, none⟩ l.length cap (l.flatMap enc) hown.1 holds a m c (xs.flatMap enc) (by rw [flatMap_len he, hm]) hx (by omega) (by simp only [maxLen] at hmax; omega) (growslice_fits (by simp only [maxLen] at hmax; omega) hb)
    rw [this] at hr
    injection hr with e1 e2
    subst e1 e2
    refine ⟨.inr ⟨g, cap, cur, junk, rfl, ?_, hc, hj, hle, hm'⟩, by simp⟩
    exact (alloc_old (w := w.drew) (lt_of_blk hh)).trans hh
theorem At.appendK {P : Program} {KV : Kont (Value × World)} {T ty by_ : Nat} {z : List Value} {B : Asr} {w0 : World} {F : List Nat} (hB : Lcl B) (h : At w0 F (Star (OwnA v E sz enc l) B) w) (he : ∀ x, (enc x).length = sz) (h1 : ∀ x, (enc x).all oneC = true)
    (hT : slInfo P T = some (E, sz, by_, z)) {a : Addr} {m c : Nat} {xs : List α} (hm : xs.length = m) (hx : ∀ j u, (xs.flatMap enc)[j]? = some u → w.cell? (a.add j) = some u)
    (hb : (l.length + m) * by_ ≤ 140737488355328) (hmax : l.length + m ≤ maxLen)
    (H : ∀ v' w2 R, Lcl R → At w0 F (Star (OwnA v' E sz enc (l ++ xs)) (Star R B)) w2 → (∀ more X, Imp (Star (OwnA v' E sz enc (l ++ more)) (Star R X)) (Star (OwnA v E sz enc l) X)) →
      KV.run (v', w2)) :
    @efH P (Builtin.append_ #[T, T] ty [v, .slice (some a) m c].toArray) w KV := by
  refine h.own.appendK he h1 hT hm hx hb hmax fun v' w2 hk2 ho2 hs2 hbk => ?_
  rcases hbk with ⟨hback, hin, _⟩ | ⟨hold, hnew⟩
  · refine H v' w2 Emp Lcl.emp ?_ ?_
    · have := h.step (A' := Star (OwnA v' E sz enc (l ++ xs)) Emp) Lcl.own hB (w2 := w2) ?_
      · exact this.assoc
      · rintro Fa ⟨ho, rfl⟩
        exact ⟨v'.own, ⟨v'.own, [], ⟨ho2, rfl⟩, rfl, by simp, by simp⟩, hk2, hs2⟩
    · rintro more X w3 F3 ⟨Fa, Fx, ⟨h3, e3⟩, ⟨Fe, Fb, e4, h4, d1, e5⟩, d2, e6⟩
      have e4 : Fe = [] := e4
      have e7 : Fx = Fb := by rw [e5, e4]; rfl
      rw [e7] at d2 e6
      refine ⟨v.own ++ Fb, ⟨v.own, Fb, ⟨hback _ _ h3, rfl⟩, h4, fun x hx hm => d2 x (by rw [e3]; exact hin x hx) hm, rfl⟩, fun x hx => ?_⟩
      rw [e6, e3]
      rcases List.mem_append.1 hx with h5 | h5
      · simp [hin x h5]
      · simp [h5]
  · refine H v' w2 (OwnA v E sz enc l) Lcl.own ?_ ?_
    · have := h.step (A' := Star (OwnA v' E sz enc (l ++ xs)) (OwnA v E sz enc l)) Lcl.own hB (w2 := w2) ?_
      · exact this.assoc
      · rintro Fa ⟨ho, rfl⟩
        have hlt : ∀ x ∈ v.own, x < w.heap.size := fun x hx => (Lcl.own (enc := enc) (E := E) (sz := sz) (l := l) (v := v)).lt ⟨ho, rfl⟩ x hx
        refine ⟨v'.own ++ v.own, ⟨v'.own, v.own, ⟨ho2, rfl⟩, ⟨hold, rfl⟩, fun x hx hm => ?_, rfl⟩, hk2, fun x hx => ?_⟩
        · have := hnew x hx; have := hlt x hm; omega
        · rcases List.mem_append.1 hx with h5 | h5
          · exact hs2 x h5
          · exact .inl h5
    · rintro more X w3 F3 ⟨Fa, Fx, h3, ⟨Fb, Fc, h4, h5, d1, rfl⟩, d2, rfl⟩
      exact ⟨_, ⟨Fb, Fc, h4, h5, d1, rfl⟩, fun x hx => by simp at hx ⊢; rcases hx with h | h <;> simp [h]⟩
end
section
variable {α : Type} {enc : α → List Value} {sz E : Nat} {l : List α} {v : Value} {w : World}
/-- 'append(v, u...)'; v is read again afterwards. -/
theorem At.appendKV {P : Program} {KV : Kont (Value × World)} {T ty by_ : Nat} {z : List Value} {B : Asr} {w0 : World} {F : List Nat} {u : Value} {xs : List α} (hB : Lcl B) (h : At w0 F (Star (OwnA v E sz enc l) B) w) (hu : Vw w u enc xs) (he : ∀ x, (enc x).length = sz) (h1 : ∀ x, (enc x).all oneC = true)
    (hT : slInfo P T = some (E, sz, by_, z)) (hb : (l.length + xs.length) * by_ ≤ 140737488355328) (hmax : l.length + xs.length ≤ maxLen)
    (H : ∀ v' w2 R, Lcl R → At w0 F (Star (VwA v' enc (l ++ xs)) (Star R B)) w2 → (∀ more X, Imp (Star (VwA v' enc (l ++ more)) (Star R X)) (Star (VwA v enc l) X)) → KV.run (v', w2)) :
    @efH P (Builtin.append_ #[T, T] ty [v, u].toArray) w KV := by
  have fin : ∀ v' w2, Kp v.own w w2 → Own w2 v' E sz enc (l ++ xs) → (∀ x ∈ v'.own, x ∈ v.own ∨ w.heap.size ≤ x) → Back v v' E sz enc l w w2 → KV.run (v', w2) := by
    intro v' w2 hk2 ho2 hs2 hbk
    have hlt2 : ∀ x ∈ v'.own, x < w2.heap.size := fun x hx => (Lcl.own (enc := enc) (E := E) (sz := sz) (l := l ++ xs) (v := v')).lt ⟨ho2, rfl⟩ x hx
    rcases hbk with ⟨_, hin, hback⟩ | ⟨hold, hnew⟩
    · refine H v' w2 Emp Lcl.emp ?_ ?_
      · have := h.step (A' := Star (VwA v' enc (l ++ xs)) Emp) Lcl.own hB (w2 := w2) ?_
        · exact this.assoc
        · rintro Fa ⟨ho, rfl⟩
          exact ⟨v'.own, ⟨v'.own, [], ⟨ho2.vw, rfl, hlt2⟩, rfl, by simp, by simp⟩, hk2, hs2⟩
      · rintro more X w3 F3 ⟨Fa, Fx, ⟨h3, e3, h3'⟩, ⟨Fe, Fb, e4, h4, d1, e5⟩, d2, e6⟩
        have e4 : Fe = [] := e4
        have e7 : Fx = Fb := by rw [e5, e4]; rfl
        rw [e7] at d2 e6
        refine ⟨v.own ++ Fb, ⟨v.own, Fb, ⟨hback _ _ h3, rfl, fun x hx => h3' x (hin x hx)⟩, h4, fun x hx hm => d2 x (by rw [e3]; exact hin x hx) hm, rfl⟩, fun x hx => ?_⟩
        rw [e6, e3]
        rcases List.mem_append.1 hx with h5 | h5
        · simp [hin x h5]
        · simp [h5]
    · refine H v' w2 (OwnA v E sz enc l) Lcl.own ?_ ?_
      · have := h.step (A' := Star (VwA v' enc (l ++ xs)) (OwnA v E sz enc l)) Lcl.own hB (w2 := w2) ?_
        · exact this.assoc
        · rintro Fa ⟨ho, rfl⟩
          have hlt : ∀ x ∈ v.own, x < w.heap.size := fun x hx => (Lcl.own (enc := enc) (E := E) (sz := sz) (l := l) (v := v)).lt ⟨ho, rfl⟩ x hx
          refine ⟨v'.own ++ v.own, ⟨v'.own, v.own, ⟨ho2.vw, rfl, hlt2⟩, ⟨hold, rfl⟩, fun x hx hm => ?_, rfl⟩, hk2, fun x hx => ?_⟩
          · have := hnew x hx; have := hlt x hm; omega
          · rcases List.mem_append.1 hx with h5 | h5
            · exact hs2 x h5
            · exact .inl h5
      · rintro more X w3 F3 ⟨Fa, Fx, h3, ⟨Fb, Fc, ⟨h4, e4⟩, h5, d1, rfl⟩, d2, rfl⟩
        refine ⟨_, ⟨Fb, Fc, ⟨h4.vw, e4, fun x hx => ?_⟩, h5, d1, rfl⟩, fun x hx => by simp at hx ⊢; rcases hx with h | h <;> simp [h]⟩
        exact (Lcl.own (enc := enc) (E := E) (sz := sz) (l := l) (v := v)).lt ⟨h4, rfl⟩ x hx
  rcases hu with ⟨rfl, rfl⟩ | ⟨a, cap, rfl, hle, hs, hc⟩
  · obtain ⟨i, zv, hu, hinf, hz, rfl, rfl, rfl, hzs, hpos⟩ := slInfo_spec hT
    have hown := h.own
    refine ef_mk (v := v) (w' := w) ?_ (fin v w (Kp.refl _ _) (by simpa using hown) (fun x hx => .inl hx) (.inl ⟨fun w'' more ho => ?_, fun x hx => hx, fun w'' more ho => ?_⟩))
    · rcases hown with ⟨rfl, rfl⟩ | ⟨g, cap, cur, junk, rfl, hh, hc, hj, hle, hm⟩
      · simp [Builtin.append_, run_underlying hu, sizeOf, typeInfo, hinf, Builtin.lenOf, Builtin.firstCells]
      · simp [Builtin.append_, run_underlying hu, sizeOf, typeInfo, hinf, Builtin.lenOf, Builtin.firstCells, hle, storeCells]
    · rcases hown with ⟨rfl, rfl⟩ | ⟨g, cap, cur, junk, rfl, hh, hc, hj, hle, hm⟩
      · exact Own.nil _ _ _ _
      · have em : more = [] := by
          rcases ho with ⟨e, _⟩ | ⟨g', cap', cur', junk', e, _⟩
          · cases e
          · injection e with e1 e2 e3
            simp at e2; exact e2
        subst em
        simpa using ho
    · rcases hown with ⟨rfl, rfl⟩ | ⟨g, cap, cur, junk, rfl, hh, hc, hj, hle, hm⟩
      · exact Vw.nil _ _
      · have em : more = [] := by
          rcases ho with ⟨e, _⟩ | ⟨a', cap', e, _⟩
          · cases e
          · injection e with e1 e2 e3
            simp at e2; exact e2
        subst em
        simpa using ho
  · exact h.own.appendK he h1 hT rfl hc hb hmax fin
end
/-! ### Lists of slices -/
/-- A value of one cell. -/
abbrev Cell1 := {v : Value // oneC v = true}
section
variable {α : Type} {enc : α → List Value} {w w1 : World} {F : List Nat} {B : Asr} {E : Nat}
def sv1 (p : Cell1 × List α) : List Value := [p.1.1]
theorem sv1_len (p : Cell1 × List α) : (sv1 p).length = 1 := rfl
theorem sv1_one (p : Cell1 × List α) : (sv1 p).all oneC = true := by simp [sv1, p.1.2]
/-- Slices that are read; some of their blocks may be the same. -/
def VwsA (enc : α → List Value) (ps : List (Cell1 × List α)) : Asr := fun w F => (∀ p ∈ ps, Vw w p.1.1 enc p.2) ∧ (∀ x ∈ F, x < w.heap.size) ∧ F = ps.flatMap fun p => p.1.1.own
theorem Lcl.vws {ps : List (Cell1 × List α)} : Lcl (VwsA enc ps) := by
  refine ⟨?_, ?_⟩
  · rintro w F ⟨_, h, _⟩; exact h
  · rintro w F G w' ⟨h1, h2, rfl⟩ hk hd
    refine ⟨fun p hp => (h1 p hp).kp hk fun x hx => hd x (List.mem_flatMap.2 ⟨p, hp, hx⟩), fun x hx => ?_, rfl⟩
    have := h2 x hx; have := hk.size; omega
theorem At.vws {ps : List (Cell1 × List α)} (h : At w F (Star (VwsA enc ps) B) w1) {p : Cell1 × List α} (hp : p ∈ ps) : Vw w1 p.1.1 enc p.2 := by
  obtain ⟨F1, h1, _⟩ := h.get
  exact h1 p hp
theorem VwsA.add {ps : List (Cell1 × List α)} {v : Value} {l : List α} {X : Asr} (ho : oneC v = true) : Imp (Star (VwA v enc l) (Star (VwsA enc ps) X)) (Star (VwsA enc (ps ++ [(⟨v, ho⟩, l)])) X) := by
  rintro w F ⟨Fa, Fx, ⟨h1, rfl, h1'⟩, ⟨Fb, Fc, ⟨h2, h2', rfl⟩, h3, d1, rfl⟩, d2, rfl⟩
  refine ⟨_, ⟨_, Fc, ⟨fun p hp => ?_, fun x hx => ?_, rfl⟩, h3, fun x hx hc => ?_, rfl⟩, fun x hx => ?_⟩
  · rcases List.mem_append.1 hp with h | h
    · exact h2 p h
    · simp at h; subst h; exact h1
  · simp only [List.flatMap_append, List.flatMap_cons, List.flatMap_nil, List.append_nil] at hx
    rcases List.mem_append.1 hx with h | h
    · exact h2' x h
    · exact h1' x h
  · simp only [List.flatMap_append, List.flatMap_cons, List.flatMap_nil, List.append_nil] at hx
    rcases List.mem_append.1 hx with h | h
    · exact d1 x h hc
    · exact d2 x h (by simp [hc])
  · simp only [List.flatMap_append, List.flatMap_cons, List.flatMap_nil, List.append_nil] at hx
    simp only [List.mem_append] at hx ⊢
    rcases hx with (h | h) | h
    · exact .inr (.inl h)
    · exact .inl h
    · exact .inr (.inr h)
theorem VwsA.nil {X : Asr} (hX : Lcl X) (h : At w F X w1) : At w F (Star (VwsA enc []) X) w1 :=
  h.more hX (Kp.refl _ _) ⟨[], ⟨by simp, by simp, by simp⟩, by simp⟩
/-- One that is there already. -/
theorem VwsA.again {ps : List (Cell1 × List α)} {p : Cell1 × List α} {X : Asr} (hp : p ∈ ps) : Imp (Star (VwsA enc ps) X) (Star (VwsA enc (ps ++ [p])) X) := by
  rintro w F ⟨Fb, Fc, ⟨h2, h2', rfl⟩, h3, d1, rfl⟩
  have sub : ∀ x, x ∈ (ps ++ [p]).flatMap (fun p => p.1.1.own) → x ∈ ps.flatMap (fun p => p.1.1.own) := fun x hx => by
    obtain ⟨q, hq, hq2⟩ := List.mem_flatMap.1 hx
    rcases List.mem_append.1 hq with h | h
    · exact List.mem_flatMap.2 ⟨q, h, hq2⟩
    · simp at h; subst h; exact List.mem_flatMap.2 ⟨_, hp, hq2⟩
  refine ⟨_, ⟨_, Fc, ⟨fun q hq => ?_, fun x hx => h2' x (sub x hx), rfl⟩, h3, fun x hx hc => d1 x (sub x hx) hc, rfl⟩, fun x hx => ?_⟩
  · rcases List.mem_append.1 hq with h | h
    · exact h2 q h
    · simp at h; subst h; exact h2 _ hp
  · rcases List.mem_append.1 hx with h | h
    · exact List.mem_append.2 (.inl (sub x h))
    · exact List.mem_append.2 (.inr h)
/-- A list of slices: a row of its own, and the slices in it. -/
def LLA (v : Value) (E : Nat) (enc : α → List Value) (ls : List (List α)) : Asr := ExA fun ps : {ps : List (Cell1 × List α) // ps.map (·.2) = ls} => Star (OwnA v E 1 sv1 ps.1) (VwsA enc ps.1)
theorem Lcl.ll {v : Value} {ls : List (List α)} : Lcl (LLA v E enc ls) := Lcl.ex fun _ => Lcl.own.star Lcl.vws
theorem LLA.opn {v : Value} {ls : List (List α)} (h : At w F (Star (LLA v E enc ls) B) w1) : ∃ ps : List (Cell1 × List α), ps.map (·.2) = ls ∧ At w F (Star (OwnA v E 1 sv1 ps) (Star (VwsA enc ps) B)) w1 := by
  obtain ⟨⟨ps, hp⟩, h⟩ := h.ex_open
  exact ⟨ps, hp, h.assoc⟩
theorem LLA.cls {v : Value} {ls : List (List α)} {ps : List (Cell1 × List α)} (hp : ps.map (·.2) = ls) (h : At w F (Star (OwnA v E 1 sv1 ps) (Star (VwsA enc ps) B)) w1) : At w F (Star (LLA v E enc ls) B) w1 :=
  At.ex_close (x := (⟨ps, hp⟩ : {ps : List (Cell1 × List α) // ps.map (·.2) = ls})) h.assoc'
theorem LLA.nil (hB : Lcl B) (h : At w F B w1) : At w F (Star (LLA (.slice none 0 0) E enc []) B) w1 :=
  LLA.cls (ps := []) rfl (At.nil (Lcl.vws.star hB) (VwsA.nil hB h))
end
end Go.W
namespace Go.W
theorem Imp.r3 {A B C X : Asr} : Imp (Star A (Star B (Star C X))) (Star C (Star A (Star B X))) := Imp.sw.un.trans Imp.sw
theorem Imp.r4 {A B C D X : Asr} : Imp (Star A (Star B (Star C (Star D X)))) (Star D (Star A (Star B (Star C X)))) := Imp.r3.un.trans Imp.sw
theorem Imp.l3 {A B C X : Asr} : Imp (Star A (Star B (Star C X))) (Star B (Star C (Star A X))) := Imp.sw.trans Imp.sw.un
end Go.W
namespace Go.W
open Go
theorem and_i64 {K : Kont Value} {a b : Nat} (ha : a ≤ 4611686018427387904) : @intH .and .i64 (a : Int) .i64 (b : Int) K = K.run (.int .i64 ((a &&& b : Nat) : Int)) := by
  have hb : IntKind.i64.bits = 64 := rfl
  have hle : a &&& b ≤ a := Nat.and_le_left
  show intS .and .i64 (a : Int) .i64 (b : Int) K.run = _
  simp only [intS, gdS, true_and]
  rw [hb, ofNat_and a b (by omega), wrap_i64 (by omega) (by omega)]
end Go.W
namespace Go.W
/-- The first one goes behind four others. -/
theorem Imp.d4 {A B C D E X : Asr} : Imp (Star A (Star B (Star C (Star D (Star E X))))) (Star B (Star C (Star D (Star E (Star A X))))) := Imp.sw.trans (Imp.un (Imp.sw.trans (Imp.un (Imp.sw.trans (Imp.un Imp.sw)))))
theorem Imp.d3 {A B C D X : Asr} : Imp (Star A (Star B (Star C (Star D X)))) (Star B (Star C (Star D (Star A X)))) := Imp.sw.trans (Imp.un (Imp.sw.trans (Imp.un Imp.sw)))
theorem Imp.un2 {A B X Y : Asr} (h : Imp X Y) : Imp (Star A (Star B X)) (Star A (Star B Y)) := Imp.un (Imp.un h)
theorem Imp.un3 {A B C X Y : Asr} (h : Imp X Y) : Imp (Star A (Star B (Star C X))) (Star A (Star B (Star C Y))) := Imp.un (Imp.un2 h)
theorem Imp.un4 {A B C D X Y : Asr} (h : Imp X Y) : Imp (Star A (Star B (Star C (Star D X)))) (Star A (Star B (Star C (Star D Y)))) := Imp.un (Imp.un3 h)
end Go.W
end
section
set_option linter.unusedVariables false
set_option linter.unusedSimpArgs false
set_option linter.unusedSectionVars false
namespace Go.W
open Go
/-! ### A region in any order whose first operations change nothing that is there -/
section
variable {P : Program} {los : List LO} {deps : List Nat} {ρ : Env} {w : World} {Q : Ex → Env → World → Prop} {outs : List Nat}
theorem wpX_of_one {o : LO} {l : List LO} {K : Env → World → Prop} (h : wpT P [o] ρ w fun ρ' w' => wpX P l ρ' w' K) : wpX P (o :: l) ρ w K := by
  obtain ⟨c, d, op, ty, g⟩ := o
  cases g with
  | none =>
    simp only [wpT] at h
    simp only [wpX]
    exact opS_sound h
  | some gb =>
    obtain ⟨g, b⟩ := gb
    simp only [wpT, gd] at h
    simp only [wpX, gd]
    exact ⟨fun e => opS_sound (h.1 e), h.2⟩
theorem wpT_one {o : LO} {l : List LO} {K : Env → World → Prop} (h : wpT P (o :: l) ρ w K) : wpT P [o] ρ w fun ρ' w' => wpT P l ρ' w' K := by
  obtain ⟨c, d, op, ty, g⟩ := o
  cases g with
  | none => exact h
  | some gb => exact h
/-- A statement of what has run, kept by each operation. -/
theorem any_inv (T : List Nat → Env → World → Prop) (h0 : T [] ρ w.drew)
    (hs : ∀ X i ρ' w', i < los.length → i ∉ X → (∀ j ∈ X, j < los.length) → X.Nodup → (∀ j, j < los.length → (deps.getD i 0).testBit j = true → j ∈ X) → (∀ j ∈ X, (deps.getD j 0).testBit i = false) → T X ρ' w' → wpT P [los.getD i LO.dfl] ρ' w' (T (X ++ [i])))
    (he : ∀ l ρ' w', l.Perm (List.range los.length) → T l ρ' w' → Q .nrm (ρ.merge ρ' outs) w') : wpL P (.anyR los deps outs) Q ρ w := by
  intro l hl hD
  have hlt : ∀ i ∈ l, i < los.length := fun i hi => List.mem_range.1 (hl.subset hi)
  have hlnd : l.Nodup := hl.symm.nodup List.nodup_range
  have key : ∀ (l2 l1 : List Nat) (ρ' : Env) (w' : World), l = l1 ++ l2 → T l1 ρ' w' → wpX P (inOrder los l2) ρ' w' fun ρ' w'' => Q .nrm (ρ.merge ρ' outs) w'' := by
    intro l2
    induction l2 with
    | nil =>
      intro l1 ρ' w' e hT
      rw [List.append_nil] at e
      subst e
      exact he _ _ _ hl hT
    | cons i l2 ih =>
      intro l1 ρ' w' e hT
      have hi : i < los.length := hlt i (by rw [e]; simp)
      have hnd := hlnd
      rw [e, List.nodup_append] at hnd
      have hin : i ∉ l1 := fun hm => hnd.2.2 i hm i (by simp) rfl
      refine wpX_of_one (wpT_mono (fun ρ'' w'' hT' => ih (l1 ++ [i]) ρ'' w'' (by rw [e]; simp) hT') _ _ _ (hs l1 i ρ' w' hi hin (fun j hj => hlt j (by rw [e]; simp [hj])) hnd.1 (fun j hj hb => ?_) (fun j hj => ?_) hT))
      · obtain ⟨r1, r2, e1, e2⟩ := hD i hi j hj hb
        have hlnd' := hlnd
        rw [e] at e1 hlnd'
        rw [(split_unique hlnd' e1).1]; exact e2
      · cases hb : (deps.getD j 0).testBit i with
        | false => rfl
        | true =>
          exfalso
          obtain ⟨r1, r2, e1, e2⟩ := hD j (hlt j (by rw [e]; simp [hj])) i hi hb
          obtain ⟨m1, m2, e3⟩ := List.append_of_mem hj
          have e4 : l = m1 ++ j :: (m2 ++ i :: l2) := by rw [e, e3]; simp
          have hlnd' := hlnd
          rw [e4] at e1 hlnd'
          have := (split_unique hlnd' e1).1
          rw [← this] at e2
          rw [List.nodup_append] at hlnd'
          exact hlnd'.2.2 i e2 i (by simp) rfl
  exact key l [] ρ _ rfl h0
/-- The slot of an operation. -/
def dstN (los : List LO) (i : Nat) : Nat := ((los.getD i LO.dfl).dst).getD 0
def tupChk (los : List LO) (deps : List Nat) (m : Nat) : Bool :=
  decide (m ≤ los.length) && decide (((los.take m).filterMap (·.dst)).Nodup) && (los.take m).all (fun o => o.dst.isSome) &&
  (List.range los.length).all fun i => (List.range los.length).all fun j => !(decide (m ≤ i) && decide (j < i)) || (deps.getD i 0).testBit j
/-- What is known behind some of the first operations: facts of values, and new blocks, all different. -/
structure Flt (los : List LO) (m : Nat) (Fact : Nat → Value → World → Prop) (A : Nat → Option Obj) (ρ : Env) (w : World) (X : List Nat) (ρ' : Env) (w' : World) : Prop where
  kp : Kp [] w w'
  old : ∀ t, (∀ i ∈ X, (los.getD i LO.dfl).dst ≠ some t) → ρ' t = ρ t
  fact : ∀ i ∈ X, A i = none → Fact i (ρ' (dstN los i)) w'
  new : ∀ i ∈ X, ∀ o, A i = some o → ∃ p, ρ' (dstN los i) = .pointer (some ⟨p, 0, none⟩) ∧ w.heap.size ≤ p ∧ w'.heap[p]? = some o
  ne : ∀ i ∈ X, ∀ j ∈ X, i ≠ j → (A i).isSome = true → (A j).isSome = true → ρ' (dstN los i) ≠ ρ' (dstN los j)
theorem any_tuple (m : Nat) (Fact : Nat → Value → World → Prop) (A : Nat → Option Obj) (hc : tupChk los deps m = true)
    (hst : ∀ i v w1 w2, Kp [] w1 w2 → Fact i v w1 → Fact i v w2)
    (hF : ∀ i ρ' w', i < m → A i = none → Kp [] w w' → (∀ t, (∀ j, j < m → (los.getD j LO.dfl).dst ≠ some t) → ρ' t = ρ t) →
      (∀ j, j < m → (deps.getD i 0).testBit j = true → A j = none → Fact j (ρ' (dstN los j)) w') → wpT P [los.getD i LO.dfl] ρ' w' fun ρ'' w'' => ∃ v, ρ'' = ρ'.put (los.getD i LO.dfl).dst v ∧ Kp [] w' w'' ∧ Fact i v w'')
    (hA : ∀ i ρ' w' o, i < m → A i = some o → wpT P [los.getD i LO.dfl] ρ' w' fun ρ'' w'' => ρ'' = ρ'.put (los.getD i LO.dfl).dst (.pointer (some ⟨w'.heap.size, 0, none⟩)) ∧ w'' = w'.alloc o)
    (hE : ∀ X ρ' w', (∀ i, i ∈ X ↔ i < m) → Flt los m Fact A ρ w X ρ' w' → wpT P (los.drop m) ρ' w' fun ρ'' w'' => Q .nrm (ρ.merge ρ'' outs) w'') : wpL P (.anyR los deps outs) Q ρ w := by
  simp only [tupChk, Bool.and_eq_true, decide_eq_true_eq, List.all_eq_true, List.mem_range, Bool.or_eq_true, Bool.not_eq_true'] at hc
  obtain ⟨⟨⟨hml, hnd⟩, hsome⟩, hdep⟩ := hc
  have hall : ∀ i j, i < los.length → m ≤ i → j < i → (deps.getD i 0).testBit j = true := fun i j hi hmi hji => by
    have := hdep i hi j (by omega)
    simpa [hmi, hji] using this
  -- the slots are different
  have hdst : ∀ i, i < m → (los.getD i LO.dfl).dst = some (dstN los i) := fun i hi => by
    have hil : i < los.length := by omega
    have : los.getD i LO.dfl ∈ los.take m := by
      rw [List.mem_take_iff_getElem]
      exact ⟨i, by omega, by simp [List.getD, List.getElem?_eq_getElem hil]⟩
    have h1 := hsome _ this
    unfold dstN
    cases hd : (los.getD i LO.dfl).dst with
    | none => rw [hd] at h1; cases h1
    | some t => rfl
  have hinj : ∀ i j, i < m → j < m → dstN los i = dstN los j → i = j := by
    have hmap : (los.take m).filterMap (·.dst) = (List.range m).map (dstN los) := by
      have key : ∀ k, k ≤ m → (los.take k).filterMap (·.dst) = (List.range k).map (dstN los) := by
        intro k
        induction k with
        | zero => intro _; simp
        | succ k ih =>
          intro hk
          have hkl : k < los.length := by omega
          rw [List.take_add_one, List.filterMap_append, ih (by omega), List.range_succ, List.map_append]
          congr 1
          have := hdst k (by omega)
          simp only [List.getD, List.getElem?_eq_getElem hkl, Option.getD_some] at this
          simp [List.getElem?_eq_getElem hkl, this]
      exact key m (Nat.le_refl _)
    rw [hmap, List.nodup_iff_pairwise_ne, List.pairwise_map] at hnd
    intro i j hi hj e
    rcases Nat.lt_trichotomy i j with h | h | h
    · have := List.pairwise_iff_getElem.1 hnd i j (by simpa using hi) (by simpa using hj) h
      simp only [List.getElem_range] at this
      exact absurd e this
    · exact h
    · have := List.pairwise_iff_getElem.1 hnd j i (by simpa using hj) (by simpa using hi) h
      simp only [List.getElem_range] at this
      exact absurd e.symm this
  refine any_inv (fun X ρ' w' => ((∀ i ∈ X, i < m) ∧ Flt los m Fact A ρ w X ρ' w') ∨ ∃ k, m < k ∧ k ≤ los.length ∧ (∀ i, i ∈ X ↔ i < k) ∧ wpT P (los.drop k) ρ' w' fun ρ'' w'' => Q .nrm (ρ.merge ρ'' outs) w'')
    (.inl ⟨by simp, ⟨(Kp.refl _ _).drew, fun _ _ => rfl, by simp, by simp, by simp⟩⟩) ?_ ?_
  · rintro X i ρ' w' hi hiX hXlt hXnd hdeps hno (⟨hXm, hf⟩ | ⟨k, hmk, hkl, hXk, hw⟩)
    · by_cases him : i < m
      · cases hAi : A i with
        | none =>
          refine wpT_mono ?_ _ _ _ (hF i ρ' w' him hAi hf.kp (fun t ht => hf.old t fun j hj => ht j (hXm j hj)) (fun j hj hb hAj => hf.fact j (hdeps j (by omega) hb) hAj))
          rintro ρ'' w'' ⟨v, rfl, k, hv⟩
          rw [hdst i him]
          have hne : ∀ j ∈ X, dstN los j ≠ dstN los i := fun j hj e => hiX (hinj j i (hXm j hj) him e ▸ hj)
          have at_i : (ρ'.put (some (dstN los i)) v) (dstN los i) = v := by simp
          have at_j : ∀ j ∈ X, (ρ'.put (some (dstN los i)) v) (dstN los j) = ρ' (dstN los j) := fun j hj => by simp [hne j hj]
          refine .inl ⟨fun j hj => ?_, ⟨hf.kp.trans0 k, fun t ht => ?_, fun j hj hAj => ?_, fun j hj o hAj => ?_, fun a ha b hb hab hAa hAb => ?_⟩⟩
          · rcases List.mem_append.1 hj with h | h
            · exact hXm j h
            · simp at h; omega
          · have h1 : t ≠ dstN los i := fun e => ht i (by simp) (by rw [hdst i him, e])
            have : (ρ'.put (some (dstN los i)) v) t = ρ' t := by simp [h1]
            rw [this]
            exact hf.old t fun j hj => ht j (by simp [hj])
          · rcases List.mem_append.1 hj with h | h
            · rw [at_j j h]; exact hst _ _ _ _ k (hf.fact j h hAj)
            · simp at h; subst h; rw [at_i]; exact hv
          · rcases List.mem_append.1 hj with h | h
            · rw [at_j j h]
              obtain ⟨p, e1, e2, e3⟩ := hf.new j h o hAj
              exact ⟨p, e1, e2, k.blk e3 (by simp)⟩
            · simp at h; subst h; rw [hAi] at hAj; cases hAj
          · have ha' : a ∈ X := by
              rcases List.mem_append.1 ha with h | h
              · exact h
              · simp at h; subst h; rw [hAi] at hAa; cases hAa
            have hb' : b ∈ X := by
              rcases List.mem_append.1 hb with h | h
              · exact h
              · simp at h; subst h; rw [hAi] at hAb; cases hAb
            rw [at_j a ha', at_j b hb']
            exact hf.ne a ha' b hb' hab hAa hAb
        | some o =>
          refine wpT_mono ?_ _ _ _ (hA i ρ' w' o him hAi)
          rintro ρ'' w'' ⟨rfl, rfl⟩
          rw [hdst i him]
          have k : Kp [] w' (w'.alloc o) := (Kp.refl _ _).alloc _
          have hne : ∀ j ∈ X, dstN los j ≠ dstN los i := fun j hj e => hiX (hinj j i (hXm j hj) him e ▸ hj)
          have at_i : (ρ'.put (some (dstN los i)) (.pointer (some ⟨w'.heap.size, 0, none⟩))) (dstN los i) = .pointer (some ⟨w'.heap.size, 0, none⟩) := by simp
          have at_j : ∀ j ∈ X, (ρ'.put (some (dstN los i)) (.pointer (some ⟨w'.heap.size, 0, none⟩))) (dstN los j) = ρ' (dstN los j) := fun j hj => by simp [hne j hj]
          have fresh : ∀ j ∈ X, (A j).isSome = true → ρ' (dstN los j) ≠ .pointer (some ⟨w'.heap.size, 0, none⟩) := fun j hj hAj e => by
            obtain ⟨oj, hoj⟩ := Option.isSome_iff_exists.1 hAj
            obtain ⟨p, e1, e2, e3⟩ := hf.new j hj oj hoj
            rw [e1] at e
            injection e with e
            injection e with e
            injection e with e
            have := lt_of_blk e3
            omega
          refine .inl ⟨fun j hj => ?_, ⟨hf.kp.trans0 k, fun t ht => ?_, fun j hj hAj => ?_, fun j hj o' hAj => ?_, fun a ha b hb hab hAa hAb => ?_⟩⟩
          · rcases List.mem_append.1 hj with h | h
            · exact hXm j h
            · simp at h; omega
          · have h1 : t ≠ dstN los i := fun e => ht i (by simp) (by rw [hdst i him, e])
            have : (ρ'.put (some (dstN los i)) (.pointer (some ⟨w'.heap.size, 0, none⟩))) t = ρ' t := by simp [h1]
            rw [this]
            exact hf.old t fun j hj => ht j (by simp [hj])
          · rcases List.mem_append.1 hj with h | h
            · rw [at_j j h]; exact hst _ _ _ _ k (hf.fact j h hAj)
            · simp at h; subst h; rw [hAi] at hAj; cases hAj
          · rcases List.mem_append.1 hj with h | h
            · rw [at_j j h]
              obtain ⟨p, e1, e2, e3⟩ := hf.new j h o' hAj
              exact ⟨p, e1, e2, k.blk e3 (by simp)⟩
            · simp at h; subst h
              rw [hAi] at hAj
              cases hAj
              exact ⟨w'.heap.size, at_i, hf.kp.size, alloc_new⟩
          · rcases List.mem_append.1 ha with ha' | ha'
            · rcases List.mem_append.1 hb with hb' | hb'
              · rw [at_j a ha', at_j b hb']
                exact hf.ne a ha' b hb' hab hAa hAb
              · simp at hb'; subst hb'
                rw [at_i, at_j a ha']
                exact fresh a ha' hAa
            · simp at ha'; subst ha'
              rcases List.mem_append.1 hb with hb' | hb'
              · rw [at_i, at_j b hb']
                exact fun e => fresh b hb' hAb e.symm
              · simp at hb'; exact absurd hb'.symm hab
      · have hX : ∀ j, j ∈ X ↔ j < m := fun j => ⟨hXm j, fun hj => hdeps j (by omega) (hall i j hi (by omega) (by omega))⟩
        have him' : i = m := by
          rcases Nat.lt_or_ge m i with h | h
          · have := hdeps m (by omega) (hall i m hi (by omega) h)
            have := hXm m this; omega
          · omega
        subst him'
        have h1 := hE X ρ' w' hX hf
        have e : los.drop i = los.getD i LO.dfl :: los.drop (i + 1) := by
          rw [List.drop_eq_getElem_cons hi]
          simp [List.getD, List.getElem?_eq_getElem hi]
        rw [e] at h1
        refine wpT_mono ?_ _ _ _ (wpT_one h1)
        intro ρ'' w'' h2
        refine .inr ⟨i + 1, by omega, hi, fun j => ?_, h2⟩
        rw [List.mem_append, hX]; simp; omega
    · have hik : i = k := by
        have h1 : ¬ i < k := fun h => hiX ((hXk i).2 h)
        rcases Nat.lt_or_ge k i with h | h
        · have := hdeps k (by omega) (hall i k hi (by omega) h)
          have := (hXk k).1 this; omega
        · omega
      subst hik
      have e : los.drop i = los.getD i LO.dfl :: los.drop (i + 1) := by
        rw [List.drop_eq_getElem_cons hi]
        simp [List.getD, List.getElem?_eq_getElem hi]
      rw [e] at hw
      refine wpT_mono ?_ _ _ _ (wpT_one hw)
      intro ρ'' w'' h2
      refine .inr ⟨i + 1, by omega, hi, fun j => ?_, h2⟩
      rw [List.mem_append, hXk]; simp; omega
  · rintro l ρ' w' hl (⟨hXm, hf⟩ | ⟨k, hmk, hkl, hXk, hw⟩)
    · have hmem : ∀ j, j ∈ l ↔ j < los.length := fun j => by rw [hl.mem_iff, List.mem_range]
      have em : m = los.length := by
        rcases Nat.lt_or_ge m los.length with h | h
        · have := hXm m ((hmem m).2 h); omega
        · omega
      have h1 := hE l ρ' w' (fun j => by rw [hmem, em]) hf
      rw [em, List.drop_length] at h1
      exact h1
    · have ek : k = los.length := by
        rcases Nat.lt_or_ge k los.length with h | h
        · have : k ∈ l := by rw [hl.mem_iff, List.mem_range]; exact h
          have := (hXk k).1 this; omega
        · omega
      rw [ek, List.drop_length] at hw
      exact hw
end
end Go.W
namespace Go.W
open Go
/-! ### Blocks that stay as they are -/
section
variable {α : Type} {enc : α → List Value} {w w1 : World} {F : List Nat} {B X : Asr}
def PinA (l : List (Nat × Obj)) : Asr := fun w F => (∀ q ∈ l, w.heap[q.1]? = some q.2) ∧ F = l.map (·.1)
theorem Lcl.pin {l : List (Nat × Obj)} : Lcl (PinA l) := by
  refine ⟨?_, ?_⟩
  · rintro w F ⟨h, rfl⟩ x hx
    obtain ⟨q, hq, rfl⟩ := List.mem_map.1 hx
    exact lt_of_blk (h q hq)
  · rintro w F G w' ⟨h, rfl⟩ hk hd
    exact ⟨fun q hq => hk.blk (h q hq) (hd q.1 (List.mem_map.2 ⟨q, hq, rfl⟩)), rfl⟩
theorem At.pin {l : List (Nat × Obj)} (h : At w F (Star (PinA l) B) w1) {b : Nat} {o : Obj} (hq : (b, o) ∈ l) : w1.heap[b]? = some o := by
  obtain ⟨F1, h1, _⟩ := h.get
  exact h1 _ hq
theorem PinA.add {l : List (Nat × Obj)} {b : Nat} {o : Obj} : Imp (Star (ObjA b o) (Star (PinA l) X)) (Star (PinA ((b, o) :: l)) X) := by
  rintro w F ⟨Fa, Fx, ⟨h1, rfl⟩, ⟨Fb, Fc, ⟨h2, rfl⟩, h3, d1, rfl⟩, d2, rfl⟩
  refine ⟨_, ⟨_, Fc, ⟨fun q hq => ?_, rfl⟩, h3, fun x hx hc => ?_, rfl⟩, fun x hx => ?_⟩
  · rcases List.mem_cons.1 hq with rfl | h
    · exact h1
    · exact h2 q h
  · simp only [List.map_cons, List.mem_cons] at hx
    rcases hx with rfl | h
    · exact d2 x (by simp) (by simp [hc])
    · exact d1 x h hc
  · simp only [List.map_cons, List.mem_append, List.mem_cons] at hx ⊢
    rcases hx with (rfl | h) | h
    · exact .inl (.inl rfl)
    · exact .inr (.inl h)
    · exact .inr (.inr h)
theorem PinA.nil (hX : Lcl X) (h : At w F X w1) : At w F (Star (PinA []) X) w1 := h.more hX (Kp.refl _ _) ⟨[], ⟨by simp, rfl⟩, by simp⟩
theorem VwsA.sub {ps qs : List (Cell1 × List α)} (hs : ∀ p ∈ qs, p ∈ ps) : Imp (Star (VwsA enc ps) X) (Star (VwsA enc qs) X) := by
  rintro w F ⟨Fb, Fc, ⟨h2, h2', rfl⟩, h3, d1, rfl⟩
  have sub : ∀ x, x ∈ qs.flatMap (fun p => p.1.1.own) → x ∈ ps.flatMap (fun p => p.1.1.own) := fun x hx => by
    obtain ⟨q, hq, hq2⟩ := List.mem_flatMap.1 hx
    exact List.mem_flatMap.2 ⟨q, hs q hq, hq2⟩
  refine ⟨_, ⟨_, Fc, ⟨fun q hq => h2 q (hs q hq), fun x hx => h2' x (sub x hx), rfl⟩, h3, fun x hx hc => d1 x (sub x hx) hc, rfl⟩, fun x hx => ?_⟩
  rcases List.mem_append.1 hx with h | h
  · exact List.mem_append.2 (.inl (sub x h))
  · exact List.mem_append.2 (.inr h)
end
end Go.W
namespace Go.W
open Go
/-! ### Variables that are made and filled, in any order -/
section
variable {P : Program} {los : List LO} {deps : List Nat} {ρ : Env} {w : World} {Q : Ex → Env → World → Prop} {outs : List Nat}
def varChk (los : List LO) (deps : List Nat) (St : Nat → Option (Nat × Obj)) : Bool :=
  decide ((los.filterMap (·.dst)).Nodup) &&
  (List.range los.length).all fun i => match St i with
    | none => (los.getD i LO.dfl).dst.isSome
    | some (j, _) => (los.getD i LO.dfl).dst.isNone && decide (j < los.length) && (deps.getD i 0).testBit j
/-- What has run, and what the new variables hold. -/
structure Vrs (los : List LO) (Fact : Nat → Value → Prop) (A : Nat → Option Obj) (St : Nat → Option (Nat × Obj)) (ρ : Env) (w : World) (X : List Nat) (ρ' : Env) (w' : World) : Prop where
  kp : Kp [] w w'
  old : ∀ t, (∀ i ∈ X, (los.getD i LO.dfl).dst ≠ some t) → ρ' t = ρ t
  fact : ∀ i ∈ X, A i = none → St i = none → Fact i (ρ' (dstN los i))
  new : ∀ j ∈ X, ∀ o, A j = some o → ∃ p, ρ' (dstN los j) = .pointer (some ⟨p, 0, none⟩) ∧ w.heap.size ≤ p ∧ ((∀ i ∈ X, ∀ o', St i ≠ some (j, o')) → w'.heap[p]? = some o) ∧ (∀ i ∈ X, ∀ o', St i = some (j, o') → w'.heap[p]? = some o')
  ne : ∀ i ∈ X, ∀ j ∈ X, i ≠ j → (A i).isSome = true → (A j).isSome = true → ρ' (dstN los i) ≠ ρ' (dstN los j)
  lt : ∀ i ∈ X, ∀ o, A i = some o → ∀ p, ρ' (dstN los i) = .pointer (some ⟨p, 0, none⟩) → p < w'.heap.size
theorem any_vars (Fact : Nat → Value → Prop) (A : Nat → Option Obj) (St : Nat → Option (Nat × Obj)) (hc : varChk los deps St = true)
    (hAS : ∀ i, (A i).isSome = true → St i = none) (hSA : ∀ i j o, St i = some (j, o) → (A j).isSome = true) (hS1 : ∀ i i' j o o', St i = some (j, o) → St i' = some (j, o') → i = i')
    (hF : ∀ i ρ' w', i < los.length → A i = none → St i = none → Kp [] w w' → (∀ t, (∀ j, j < los.length → (los.getD j LO.dfl).dst ≠ some t) → ρ' t = ρ t) →
      (∀ j, j < los.length → (deps.getD i 0).testBit j = true → A j = none → St j = none → Fact j (ρ' (dstN los j))) → wpT P [los.getD i LO.dfl] ρ' w' fun ρ'' w'' => ∃ v, ρ'' = ρ'.put (los.getD i LO.dfl).dst v ∧ Kp [] w' w'' ∧ Fact i v)
    (hA : ∀ i ρ' w' o, i < los.length → A i = some o → wpT P [los.getD i LO.dfl] ρ' w' fun ρ'' w'' => ρ'' = ρ'.put (los.getD i LO.dfl).dst (.pointer (some ⟨w'.heap.size, 0, none⟩)) ∧ w'' = w'.alloc o)
    (hS : ∀ i j o oj p ρ' w', i < los.length → St i = some (j, o) → A j = some oj → ρ' (dstN los j) = .pointer (some ⟨p, 0, none⟩) → w'.heap[p]? = some oj → Kp [] w w' →
      (∀ j, j < los.length → (deps.getD i 0).testBit j = true → A j = none → St j = none → Fact j (ρ' (dstN los j))) → wpT P [los.getD i LO.dfl] ρ' w' fun ρ'' w'' => ρ'' = ρ' ∧ w'' = w'.setB p o)
    (hE : ∀ X ρ' w', (∀ i, i ∈ X ↔ i < los.length) → Vrs los Fact A St ρ w X ρ' w' → Q .nrm (ρ.merge ρ' outs) w') : wpL P (.anyR los deps outs) Q ρ w := by
  simp only [varChk, Bool.and_eq_true, decide_eq_true_eq, List.all_eq_true, List.mem_range] at hc
  obtain ⟨hnd, hall⟩ := hc
  have hdst : ∀ i, i < los.length → St i = none → (los.getD i LO.dfl).dst = some (dstN los i) := fun i hi hs => by
    have h1 := hall i hi
    rw [hs] at h1
    unfold dstN
    cases hd : (los.getD i LO.dfl).dst with
    | none => rw [hd] at h1; cases h1
    | some t => rfl
  have hsto : ∀ i j o, i < los.length → St i = some (j, o) → (los.getD i LO.dfl).dst = none ∧ j < los.length ∧ (deps.getD i 0).testBit j = true := fun i j o hi hs => by
    have h1 := hall i hi
    rw [hs] at h1
    simp only [Bool.and_eq_true, decide_eq_true_eq, Option.isNone_iff_eq_none] at h1
    exact ⟨h1.1.1, h1.1.2, h1.2⟩
  have hinj : ∀ i j, i < los.length → j < los.length → St i = none → St j = none → dstN los i = dstN los j → i = j := by
    have key : ∀ (l : List LO), ((l.filterMap (·.dst)).Nodup) → ∀ i j t, i < l.length → j < l.length → i < j → (l.getD i LO.dfl).dst = some t → (l.getD j LO.dfl).dst = some t → False := by
      intro l
      induction l with
      | nil => intro _ i j t hi; simp at hi
      | cons o l ih =>
        intro hnd i j t hi hj hij h1 h2
        cases i with
        | zero =>
          cases j with
          | zero => omega
          | succ j =>
            simp at h1 h2 hj
            rw [List.filterMap_cons_some h1, List.nodup_cons] at hnd
            apply hnd.1
            rw [List.mem_filterMap]
            refine ⟨l[j], List.getElem_mem hj, ?_⟩
            rw [List.getElem?_eq_getElem hj] at h2
            simpa using h2
        | succ i =>
          cases j with
          | zero => omega
          | succ j =>
            refine ih ?_ i j t (by simpa using hi) (by simpa using hj) (by omega) (by simpa using h1) (by simpa using h2)
            cases ho : o.dst with
            | none => rwa [List.filterMap_cons_none ho] at hnd
            | some d =>
              rw [List.filterMap_cons_some ho, List.nodup_cons] at hnd
              exact hnd.2
    intro i j hi hj si sj e
    have h1 := hdst i hi si
    have h2 := hdst j hj sj
    rw [e] at h1
    rcases Nat.lt_trichotomy i j with h | h | h
    · exact (key los hnd i j _ hi hj h h1 h2).elim
    · exact h
    · exact (key los hnd j i _ hj hi h h2 h1).elim
  refine any_inv (fun X ρ' w' => Vrs los Fact A St ρ w X ρ' w' ∧ ∀ i ∈ X, i < los.length) ⟨⟨(Kp.refl _ _).drew, fun _ _ => rfl, by simp, by simp, by simp, by simp⟩, by simp⟩ ?_ ?_
  · rintro X i ρ' w' hi hiX hXlt hXnd hdeps hno ⟨hf, _⟩
    have hlt' : ∀ j ∈ X ++ [i], j < los.length := fun j hj => by
      rcases List.mem_append.1 hj with h | h
      · exact hXlt j h
      · simp at h; omega
    have facts : ∀ j, j < los.length → (deps.getD i 0).testBit j = true → A j = none → St j = none → Fact j (ρ' (dstN los j)) := fun j hj hb hAj hSj => hf.fact j (hdeps j hj hb) hAj hSj
    cases hSi : St i with
    | some jo =>
      obtain ⟨j, o⟩ := jo
      obtain ⟨hd0, hjl, hjb⟩ := hsto i j o hi hSi
      have hjX := hdeps j hjl hjb
      have hAi : A i = none := by
        cases h : A i with
        | none => rfl
        | some o' => have := hAS i (by rw [h]; rfl); rw [hSi] at this; cases this
      obtain ⟨oj, hoj⟩ := Option.isSome_iff_exists.1 (hSA i j o hSi)
      obtain ⟨p, e1, e2, e3, e4⟩ := hf.new j hjX oj hoj
      have hpo : w'.heap[p]? = some oj := e3 fun i' hi' o' hs => hiX (hS1 i i' j o o' hSi hs ▸ hi')
      refine wpT_mono ?_ _ _ _ (hS i j o oj p ρ' w' hi hSi hoj e1 hpo hf.kp facts)
      rintro ρ'' w'' ⟨rfl, rfl⟩
      have hpl := lt_of_blk hpo
      refine ⟨⟨hf.kp.setB (.inr e2) o, fun t ht => hf.old t fun k hk => ht k (by simp [hk]), fun k hk hAk hSk => ?_, fun k hk ok hAk => ?_, fun a ha b hb hab hAa hAb => ?_, fun k hk ok hAk q hq => ?_⟩, hlt'⟩
      · rcases List.mem_append.1 hk with h | h
        · exact hf.fact k h hAk hSk
        · simp at h; subst h; rw [hSi] at hSk; cases hSk
      · have hkX : k ∈ X := by
          rcases List.mem_append.1 hk with h | h
          · exact h
          · simp at h; subst h; rw [hAi] at hAk; cases hAk
        obtain ⟨q, q1, q2, q3, q4⟩ := hf.new k hkX ok hAk
        refine ⟨q, q1, q2, fun hns => ?_, fun i' hi' o' hs => ?_⟩
        · have hkj : k ≠ j := fun e => hns i (by simp) o (by rw [hSi, e])
          have hqp : q ≠ p := fun e => by
            have := hf.ne k hkX j hjX hkj (by rw [hAk]; rfl) (by rw [hoj]; rfl)
            rw [q1, e1, e] at this
            exact this rfl
          rw [setB_ne hqp]
          exact q3 fun i' hi' o' => hns i' (by simp [hi']) o'
        · by_cases hii : i' = i
          · subst hii
            rw [hSi] at hs
            cases hs
            have : q = p := by
              rw [q1] at e1
              injection e1 with e1
              injection e1 with e1
              injection e1 with e1
            subst this
            exact setB_new hpl
          · have hiX' : i' ∈ X := by
              rcases List.mem_append.1 hi' with h | h
              · exact h
              · simp at h; exact absurd h hii
            have hkj : k ≠ j := fun e => hii (hS1 i' i j o' o (by rw [hs, e]) hSi)
            have hqp : q ≠ p := fun e => by
              have := hf.ne k hkX j hjX hkj (by rw [hAk]; rfl) (by rw [hoj]; rfl)
              rw [q1, e1, e] at this
              exact this rfl
            rw [setB_ne hqp]
            exact q4 i' hiX' o' hs
      · have ha' : a ∈ X := by
          rcases List.mem_append.1 ha with h | h
          · exact h
          · simp at h; subst h; rw [hAi] at hAa; cases hAa
        have hb' : b ∈ X := by
          rcases List.mem_append.1 hb with h | h
          · exact h
          · simp at h; subst h; rw [hAi] at hAb; cases hAb
        exact hf.ne a ha' b hb' hab hAa hAb
      · have hkX : k ∈ X := by
          rcases List.mem_append.1 hk with h | h
          · exact h
          · simp at h; subst h; rw [hAi] at hAk; cases hAk
        simpa using hf.lt k hkX ok hAk q hq
    | none =>
      have hne : ∀ j ∈ X, St j = none → dstN los j ≠ dstN los i := fun j hj hs e => hiX (hinj j i (hXlt j hj) hi hs hSi e ▸ hj)
      -- a slot is written
      have slot : ∀ (v : Value) (w'' : World), Kp [] w' w'' → (A i = none → Fact i v) → (∀ o, A i = some o → v = .pointer (some ⟨w'.heap.size, 0, none⟩) ∧ w''.heap[w'.heap.size]? = some o ∧ w'.heap.size < w''.heap.size) → Vrs los Fact A St ρ w (X ++ [i]) (ρ'.put (los.getD i LO.dfl).dst v) w'' := by
        intro v w'' k hv hvA
        rw [hdst i hi hSi]
        have at_i : (ρ'.put (some (dstN los i)) v) (dstN los i) = v := by simp
        have at_j : ∀ j ∈ X, St j = none → (ρ'.put (some (dstN los i)) v) (dstN los j) = ρ' (dstN los j) := fun j hj hs => by simp [hne j hj hs]
        have nS : ∀ j, (A j).isSome = true → St j = none := hAS
        have noSt : ∀ j o', St i ≠ some (j, o') := fun j o' e => by rw [hSi] at e; cases e
        refine ⟨hf.kp.trans0 k, fun t ht => ?_, fun j hj hAj hSj => ?_, fun j hj o hAj => ?_, fun a ha b hb hab hAa hAb => ?_, fun j hj o hAj q hq => ?_⟩
        · have h1 : t ≠ dstN los i := fun e => ht i (by simp) (by rw [hdst i hi hSi, e])
          have : (ρ'.put (some (dstN los i)) v) t = ρ' t := by simp [h1]
          rw [this]
          exact hf.old t fun j hj => ht j (by simp [hj])
        · rcases List.mem_append.1 hj with h | h
          · rw [at_j j h hSj]; exact hf.fact j h hAj hSj
          · simp at h; subst h; rw [at_i]; exact hv hAj
        · rcases List.mem_append.1 hj with h | h
          · rw [at_j j h (nS j (by rw [hAj]; rfl))]
            obtain ⟨p, e1, e2, e3, e4⟩ := hf.new j h o hAj
            refine ⟨p, e1, e2, fun hns => k.blk (e3 fun i' hi' o' => hns i' (by simp [hi']) o') (by simp), fun i' hi' o' hs => ?_⟩
            rcases List.mem_append.1 hi' with h' | h'
            · exact k.blk (e4 i' h' o' hs) (by simp)
            · simp at h'; subst h'; exact absurd hs (noSt j o')
          · simp at h; subst h
            obtain ⟨rfl, h2, h3⟩ := hvA o hAj
            refine ⟨w'.heap.size, at_i, hf.kp.size, fun _ => h2, fun i' hi' o' hs => ?_⟩
            rcases List.mem_append.1 hi' with h' | h'
            · have := hno i' h'
              rw [(hsto i' j o' (hXlt i' h') hs).2.2] at this; cases this
            · simp at h'; subst h'; exact absurd hs (noSt i' o')
        · have fresh : ∀ j ∈ X, (A j).isSome = true → (A i).isSome = true → ρ' (dstN los j) ≠ v := fun j hj hAj hAi e => by
            obtain ⟨oj, hoj⟩ := Option.isSome_iff_exists.1 hAj
            obtain ⟨oi, hoi⟩ := Option.isSome_iff_exists.1 hAi
            obtain ⟨p, e1, e2, e3, e4⟩ := hf.new j hj oj hoj
            have := hf.lt j hj oj hoj p e1
            rw [e1, (hvA oi hoi).1] at e
            injection e with e
            injection e with e
            injection e with e
            omega
          rcases List.mem_append.1 ha with ha' | ha'
          · rcases List.mem_append.1 hb with hb' | hb'
            · rw [at_j a ha' (nS a hAa), at_j b hb' (nS b hAb)]
              exact hf.ne a ha' b hb' hab hAa hAb
            · simp at hb'; subst hb'
              rw [at_i, at_j a ha' (nS a hAa)]
              exact fresh a ha' hAa hAb
          · simp at ha'; subst ha'
            rcases List.mem_append.1 hb with hb' | hb'
            · rw [at_i, at_j b hb' (nS b hAb)]
              exact fun e => fresh b hb' hAb hAa e.symm
            · simp at hb'; exact absurd hb'.symm hab
        · rcases List.mem_append.1 hj with h | h
          · rw [at_j j h (nS j (by rw [hAj]; rfl))] at hq
            exact Nat.lt_of_lt_of_le (hf.lt j h o hAj q hq) k.size
          · simp at h; subst h
            obtain ⟨rfl, h2, h3⟩ := hvA o hAj
            rw [at_i] at hq
            injection hq with hq
            injection hq with hq
            injection hq with hq
            omega
      cases hAi : A i with
      | none =>
        refine wpT_mono ?_ _ _ _ (hF i ρ' w' hi hAi hSi hf.kp (fun t ht => hf.old t fun j hj => ht j (hXlt j hj)) facts)
        rintro ρ'' w'' ⟨v, rfl, k, hv⟩
        exact ⟨slot v w'' k (fun _ => hv) (fun o ho => by rw [hAi] at ho; cases ho), hlt'⟩
      | some o =>
        refine wpT_mono ?_ _ _ _ (hA i ρ' w' o hi hAi)
        rintro ρ'' w'' ⟨rfl, rfl⟩
        refine ⟨slot _ _ ((Kp.refl _ _).alloc _) (fun h => by rw [hAi] at h; cases h) (fun o' ho => ?_), hlt'⟩
        rw [hAi] at ho
        cases ho
        exact ⟨rfl, alloc_new, by simp⟩
  · rintro l ρ' w' hl ⟨hf, _⟩
    exact hE l ρ' w' (fun j => by rw [hl.mem_iff, List.mem_range]) hf
end
end Go.W
namespace Go.W
open Go
/-- A result that lies in a block, and another one. -/
theorem postL_c2 {P : Program} {ρ : Env} {w : World} {R : Ending → World → Prop} {a T n g E t : Nat} {cs : Array Value} {fr : Nat × Nat} (hT : tyAgg P T = some (some n)) (ha : ρ a = .pointer (some ⟨g, 0, none⟩)) (hg : w.heap[g]? = some (.cells cs E fr)) (hn : cs.size = n) (hE : E = T)
    (h : R (.returned (.tuple #[.agg cs, ρ t])) w) : postL P [.cell a T, .tmp t] R .ret ρ w := by
  subst hE
  obtain ⟨d, h1, h2, h3⟩ := tyAgg_row hT
  refine ⟨.tuple #[.agg cs, ρ t], ?_, h⟩
  have := run_loadVar_row (P := P) w g E E cs fr d hg h1 (by cases d <;> first | rfl | (simp at h2)) (by rw [h3, hn])
  simp [resAll, resOne, ha, asAddr, this, Result.andThen]
section
variable {A B C D E G I X : Asr}
theorem Imp.d6 : Imp (Star A (Star B (Star C (Star D (Star E (Star G (Star I X))))))) (Star B (Star C (Star D (Star E (Star G (Star I (Star A X))))))) := Imp.d4.trans (Imp.un4 (Imp.sw.trans (Imp.un Imp.sw)))
end
end Go.W
end
