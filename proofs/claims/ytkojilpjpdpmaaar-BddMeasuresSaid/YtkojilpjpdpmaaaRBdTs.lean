/-
  Parts of the proofs of this seat's statements (BdTA, BdTB, BdTC, BdTD, BdTE, BdTF, BdTG, BdTH); no conditions beyond those each theorem names.
-/
import Derived.Test.YtkojilpjpdpmaaaRBdWI
import Derived.Test.YtkojilpjpdpmaaaRLibR
import Derived.Test.YtkojilpjpdpmaaaRBdPa
import Derived.Test.YtkojilpjpdpmaaaRBdWA
section
set_option maxRecDepth 100000
set_option linter.unusedSimpArgs false
set_option linter.unusedVariables false
namespace Go.Proofs.YtkojilpjpdpmaaaR
open Go Go.W Go.Bd Go.Maps
/-! ### Truth tables -/
def tbV (n : Nat) (u : Value) : Value := .agg #[.int .i64 (n : Nat), u]
/-- A new table. -/
structure Tb (w w' : World) (u : Value) (l : List Bool) : Prop where
  kp : Kp [] w w'
  own : Own w' u 4 1 bv l
  fresh : ∀ x ∈ u.own, w.heap.size ≤ x
theorem Tb.of {w w' : World} {u : Value} {l : List Bool} {B : Asr} (h : At w [] (Star (OwnA u 4 1 bv l) B) w') : Tb w w' u l := by
  refine ⟨h.kp, h.own, fun x hx => ?_⟩
  obtain ⟨F', ⟨Fa, Fb, ⟨_, rfl⟩, _, _, rfl⟩, hs⟩ := h.ex
  rcases hs x (by simp [hx]) with h1 | h1
  · cases h1
  · exact h1
theorem At.tb {w w1 w' : World} {F : List Nat} {B : Asr} {u : Value} {l : List Bool} (hB : Lcl B) (h : At w F B w1) (t : Tb w1 w' u l) : At w F (Star (OwnA u 4 1 bv l) B) w' :=
  h.more hB t.kp ⟨u.own, ⟨t.own, rfl⟩, t.fresh⟩
theorem shl1 {j : Nat} (h : j ≤ 40) : IntKind.i64.wrap (1 * 2 ^ min ((j : Int).toNat) IntKind.i64.bits) = ((2 ^ j : Nat) : Int) := by
  have hb : IntKind.i64.bits = 64 := rfl
  have h1 : 2 ^ j ≤ 2 ^ 40 := Nat.pow_le_pow_right (by omega) h
  rw [hb, Int.toNat_natCast, Nat.min_eq_left (by omega), Int.one_mul, show (2 : Int) ^ j = ((2 ^ j : Nat) : Int) by simp]
  obtain ⟨p, hp⟩ : ∃ p, p = 2 ^ j := ⟨_, rfl⟩
  rw [← hp] at h1 ⊢
  exact wrap_i64 (by omega) (by omega)
theorem shl1' {j : Nat} (h : j ≤ 40) : IntKind.i64.wrap (2 ^ min j IntKind.i64.bits) = ((2 ^ j : Nat) : Int) := by
  have := shl1 h
  rwa [Int.one_mul, Int.toNat_natCast] at this
/-- The first entries of a table. -/
def UpT (k : Nat) (G : Nat → Bool) (N : Nat) (l : List Bool) : Prop := l.length = N ∧ ∀ j, j < k → j < N → l[j]? = some (G j)
theorem UpT.set {k N : Nat} {G : Nat → Bool} {l : List Bool} {y : Bool} (h : UpT k G N l) (hk : k < N) (hy : y = G k) : UpT (k + 1) G N (l.set k y) := by
  obtain ⟨h1, h2⟩ := h
  refine ⟨by simpa using h1, fun j hj hz => ?_⟩
  rw [List.getElem?_set]
  by_cases he : k = j
  · subst he; rw [if_pos rfl, if_pos (by omega), hy]
  · rw [if_neg he]; exact h2 j (by omega) hz
theorem UpT.all {n : Nat} {F : (Nat → Bool) → Bool} {l : List Bool} (h : UpT (2 ^ n) (fun a => F (asg n a)) (2 ^ n) l) : l = tab n F := by
  refine List.ext_getElem? fun j => ?_
  rcases Nat.lt_or_ge j (2 ^ n) with hj | hj
  · rw [h.2 j hj hj, tab_get hj]
  · rw [List.getElem?_eq_none (by rw [h.1]; exact hj), List.getElem?_eq_none (by rw [tab_len]; exact hj)]
theorem UpT.start (G : Nat → Bool) (N : Nat) (b : Bool) : UpT 0 G N (List.replicate N b) := ⟨by simp, fun j h => by omega⟩
theorem UpT.start' (G : Nat → Bool) (N : Nat) {l : List Bool} (h : l.length = N) : UpT 0 G N l := ⟨h, fun j h => by omega⟩
def tbO (n : Nat) (u : Value) : Obj := .cells #[.int .i64 (n : Nat), u] 51 (0, 0)
theorem rConst_spec (n : Nat) (b : Bool) (w : World) (hn : n ≤ 6) : Calls Try.prog 33 [.int .i64 (n : Nat), .bool b].toArray w fun e w' => ∃ x, e = .returned x ∧ ∃ u, x = tbV n u ∧ Tb w w' u (tab n (fun _ => b)) := by
  refine enter Try.func33 mixed low33 (Nat.le_of_ble_eq_true rfl) ?_
  simp only [L33]
  have hp := two_mono hn
  have h0 : At w [] Emp w := At.start rfl
  have h1 := h0.alloc (.cells #[.int .i64 0, .slice none 0 0] 51) Lcl.emp
  obtain ⟨N, hN⟩ : ∃ N, N = 2 ^ n := ⟨_, rfl⟩
  have hsh := shl1' (show n ≤ 40 by omega)
  rw [← hN] at hsh hp
  simp [hsh]
  refine gd_mk (by omega) ?_
  obtain ⟨rb, hrb⟩ : ∃ rb, rb = w.heap.size := ⟨_, rfl⟩
  rw [← hrb] at h1 ⊢
  have h2 := h1.made (E := 4) (enc := bv) (x := false) (z := [.bool false]) (n := N) (Lcl.obj.star Lcl.emp) rfl bv_len (by unfold maxLen; omega)
  rw [show (w.alloc (.cells #[.int .i64 0, .slice none 0 0] 51)).heap.size = rb + 1 by simp [hrb]] at h2
  have h3 := h2.alloc (.cells #[.int .i64 0, .slice none 0 0] 51) (Lcl.own.star (Lcl.obj.star Lcl.emp))
  rw [show ((w.alloc (.cells #[.int .i64 0, .slice none 0 0] 51)).alloc (.cells (rowOf [.bool false] N).toArray 4)).heap.size = rb + 1 + 1 by simp [hrb]] at h3
  obtain ⟨sv, hsv⟩ : ∃ sv, sv = Value.slice (some ⟨rb + 1, 0, none⟩) N N := ⟨_, rfl⟩
  rw [← hsv] at h3
  have hsc : sv.cells = #[sv] := by simp [hsv]
  simp [← hrb, ← hsv, hsc]
  refine h3.st (Lcl.own.star (Lcl.obj.star Lcl.emp)) (by simp) (by simp [hsv]) fun w4 h4 => ?_
  have h4 : At w [] (Star (ObjA (rb + 1 + 1) (tbO n sv)) (Star (OwnA sv 4 1 bv (List.replicate N false)) (Star (ObjA rb (.cells #[.int .i64 0, .slice none 0 0] 51)) Emp))) w4 := by simpa [tbO] using h4
  have ho := h4.obj
  unfold tbO at ho
  simp [← hrb, cell_blk ho, h4.drop.own.len]
  refine range_loop (n := N) (by omega) (fun k ρ w' => ρ 1 = .bool b ∧ ρ 4 = .pointer (some ⟨rb, 0, none⟩) ∧ ρ 5 = .pointer (some ⟨rb + 1 + 1, 0, none⟩) ∧ ∃ l, UpT k (fun _ => b) N l ∧ At w [] (Star (ObjA (rb + 1 + 1) (tbO n sv)) (Star (OwnA sv 4 1 bv l) (Star (ObjA rb (.cells #[.int .i64 0, .slice none 0 0] 51)) Emp))) w') (by simp) (by simp)
    ⟨by simp, by simp, by simp, _, UpT.start _ _ _, h4⟩ (by decide) (fun _ _ _ _ h => by simpa using h) (fun _ _ _ _ h => by simpa using h) ?_ ?_
  · rintro k ρ w5 hk hc hlim ⟨g1, g4, g5, l, hU, h5⟩
    have ho := h5.obj
    unfold tbO at ho
    have hkl : k < l.length := by rw [hU.1]; exact hk
    simp (disch := omega) [g1, g4, g5, hc, hlim, cell_blk ho, h5.drop.own.idx]
    refine At.store1 (k := k) (x := b) (Lcl.obj.star (Lcl.obj.star Lcl.emp)) h5.rot bv_len bv_one hkl rfl fun w6 h6 => ?_
    simp [g1, g4, g5, hc, hlim]
    exact ⟨_, hU.set hk rfl, h6.rot⟩
  · rintro ρ w5 ⟨g1, g4, g5, l, hU, h5⟩
    have ho := h5.obj
    unfold tbO at ho
    have hc2 : cellsAt w5 ⟨rb + 1 + 1, 0, none⟩ 0 2 = some [.int .i64 (n : Nat), sv] := by
      simp [cellsAt, Addr.add, cell_blk ho]
    simp [g4, g5, hc2]
    refine h5.rot3.st (Lcl.obj.star (Lcl.own.star Lcl.emp)) (by simp) (by simp [hsv]) fun w6 h6 => ?_
    simp at h6
    simp
    refine postL_c1 (g := rb) (n := 2) ag_51 (by simp [g4]) h6.obj rfl rfl ?_
    refine ⟨_, rfl, sv, rfl, ?_⟩
    have e : l = tab n (fun _ => b) := UpT.all (by rw [← hN]; exact hU)
    rw [← e]
    exact Tb.of h6.rot3
theorem fdiv_pow (a j : Nat) : ((a : Int).fdiv (2 ^ j)).tmod 2 = ((a / 2 ^ j % 2 : Nat) : Int) := by
  have e : ((2 : Int) ^ j) = ((2 ^ j : Nat) : Int) := by simp
  rw [e, Int.fdiv_eq_ediv_of_nonneg _ (Int.natCast_nonneg _), ← Int.natCast_ediv, Int.tmod_eq_emod_of_nonneg (Int.natCast_nonneg _)]
  omega
theorem rBit_spec (n a v : Nat) (w : World) (hv : v < n) (hn : n ≤ 60) : Calls Try.prog 42 [.int .i64 (n : Nat), .int .i64 (a : Nat), .int .i64 (v : Nat)].toArray w fun e w' => ∃ x, e = .returned x ∧ x = .bool (asg n a v) ∧ Kp [] w w' := by
  refine enter Try.func42 mixed low42 (Nat.le_of_ble_eq_true rfl) ?_
  simp only [L42]
  have e1 : (n : Int) - 1 - v = ((n - 1 - v : Nat) : Int) := by omega
  have hb : IntKind.i64.bits = 64 := rfl
  simp (disch := omega) [wrap_i64, e1, hb]
  rw [fdiv_pow, ← bitT_eq hv, bitT]
  refine ⟨?_, Kp.refl _ _⟩
  rcases Nat.mod_two_eq_zero_or_one (a / 2 ^ (n - 1 - v)) with h | h <;> simp [h]
theorem rWith_spec (n a v : Nat) (x : Bool) (w : World) (hv : v < n) (hn : n ≤ 40) (ha : a < 2 ^ n) : Calls Try.prog 60 [.int .i64 (n : Nat), .int .i64 (a : Nat), .int .i64 (v : Nat), .bool x].toArray w fun e w' => ∃ y, e = .returned y ∧ y = .int .i64 (withT n a v x : Nat) ∧ Kp [] w w' := by
  refine enter Try.func60 mixed low60 (Nat.le_of_ble_eq_true rfl) ?_
  simp only [L60]
  have e1 : (n : Int) - 1 - v = ((n - 1 - v : Nat) : Int) := by omega
  have hb : IntKind.i64.bits = 64 := rfl
  have h40 : 2 ^ n ≤ 2 ^ 40 := two_mono hn
  have hj : 2 ^ (n - 1 - v) ≤ 2 ^ 40 := two_mono (by omega)
  obtain ⟨p, hp⟩ : ∃ p, p = 2 ^ (n - 1 - v) := ⟨_, rfl⟩
  have hsh : IntKind.i64.wrap ((2 : Int) ^ (n - 1 - v)) = (p : Int) := by
    rw [show (2 : Int) ^ (n - 1 - v) = ((2 ^ (n - 1 - v) : Nat) : Int) by simp, ← hp]
    exact wrap_i64 (by omega) (by omega)
  rw [← hp] at hj
  have hle : a &&& p ≤ a := Nat.and_le_left
  have e2 : (a : Int) - ((a &&& p : Nat) : Int) = ((a - (a &&& p) : Nat) : Int) := by omega
  simp (disch := omega) [-intS_and, and_i64, wrap_i64, e1, hsh]
  unfold withT
  rw [← hp]
  cases x with
  | true =>
    simp (disch := omega) [hsh, e2, wrap_i64]
    exact Kp.refl _ _
  | false =>
    simp (disch := omega) [hsh, e2, wrap_i64]
    exact Kp.refl _ _
end Go.Proofs.YtkojilpjpdpmaaaR
end
section
set_option maxRecDepth 100000
set_option linter.unusedSimpArgs false
set_option linter.unusedVariables false
namespace Go.Proofs.YtkojilpjpdpmaaaR
open Go Go.W Go.Bd Go.Maps
def zO : Obj := .cells #[.int .i64 0, .slice none 0 0] 51 (0, 0)
/-- A table that is being filled: t is where it lies, r is the place of the result. -/
def FillI (w : World) (n t r : Nat) (u : Value) (G : Nat → Bool) (N : Nat) (X : Asr) (k : Nat) (w' : World) : Prop :=
  ∃ l, UpT k G N l ∧ At w [] (Star (OwnA u 4 1 bv l) (Star (ObjA t (tbO n u)) (Star (ObjA r zO) X))) w'
theorem FillI.own {w w' : World} {n t r k N : Nat} {u : Value} {G : Nat → Bool} {X : Asr} (h : FillI w n t r u G N X k w') : ∃ l, Own w' u 4 1 bv l ∧ l.length = N := by
  obtain ⟨l, h1, h2⟩ := h
  exact ⟨l, h2.own, h1.1⟩
theorem FillI.obj {w w' : World} {n t r k N : Nat} {u : Value} {G : Nat → Bool} {X : Asr} (h : FillI w n t r u G N X k w') : w'.heap[t]? = some (.cells #[.int .i64 (n : Nat), u] 51 (0, 0)) := by
  obtain ⟨l, h1, h2⟩ := h
  exact h2.drop.obj
theorem FillI.kp0 {w w' w2 : World} {n t r k N : Nat} {u : Value} {G : Nat → Bool} {X : Asr} (hX : Lcl X) (h : FillI w n t r u G N X k w') (hk : Kp [] w' w2) : FillI w n t r u G N X k w2 := by
  obtain ⟨l, h1, h2⟩ := h
  exact ⟨l, h1, h2.kp0 (.star .own (.star .obj (.star .obj hX))) hk⟩
theorem FillI.kp {w w' : World} {n t r k N : Nat} {u : Value} {G : Nat → Bool} {X : Asr} (h : FillI w n t r u G N X k w') : Kp [] w w' := by
  obtain ⟨l, h1, h2⟩ := h
  exact h2.kp
theorem FillI.store {w w' : World} {n t r k N : Nat} {u : Value} {G : Nat → Bool} {X : Asr} {KW : Kont World} {y : Bool} (hX : Lcl X) (h : FillI w n t r u G N X k w') (hk : k < N) (hy : y = G k) (H : ∀ w2, FillI w n t r u G N X (k + 1) w2 → KW.run w2) :
    @stJ w' ⟨u.blk, k, none⟩ [.bool y] KW := by
  obtain ⟨l, h1, h2⟩ := h
  have hkl : k < l.length := by rw [h1.1]; exact hk
  refine At.store1 (k := k) (x := y) (.star .obj (.star .obj hX)) h2 bv_len bv_one hkl rfl fun w6 h6 => ?_
  exact H _ ⟨_, h1.set hk hy, h6⟩
/-- The filled table goes to the place of the result. -/
theorem FillI.done {w w' : World} {n t r : Nat} {u : Value} {F : (Nat → Bool) → Bool} {X : Asr} {KW : Kont World} (hX : Lcl X) (h : FillI w n t r u (fun a => F (asg n a)) (2 ^ n) X (2 ^ n) w')
    (H : ∀ w2, w2.heap[r]? = some (.cells #[.int .i64 (n : Nat), u] 51 (0, 0)) → Tb w w2 u (tab n F) → KW.run w2) : @stJ w' ⟨r, 0, none⟩ [.int .i64 (n : Nat), u] KW := by
  obtain ⟨l, h1, h2⟩ := h
  have h3 := h2.rot3
  unfold zO at h3
  refine h3.st (.star .own (.star .obj hX)) (by simp) (by simp [h2.own.o1]) fun w6 h6 => H w6 (by simpa using h6.obj) ?_
  have e := h1.all
  rw [← e]
  exact Tb.of h6.rot
theorem FillI.start {w w1 : World} {n r : Nat} {u : Value} {l : List Bool} {G : Nat → Bool} {N : Nat} {X : Asr} {KW : Kont World} (hX : Lcl X) (h : At w [] (Star (OwnA u 4 1 bv l) (Star (ObjA r zO) X)) w1) (hl : l.length = N)
    (H : ∀ w2, FillI w n w1.heap.size r u G N X 0 w2 → KW.run w2) : @stJ (w1.alloc zO) ⟨w1.heap.size, 0, none⟩ [.int .i64 (n : Nat), u] KW := by
  have h1 := h.alloc zO (.star .own (.star .obj hX))
  have h1' := h1
  unfold zO at h1'
  refine At.st (.star .own (.star .obj hX)) (show At w [] (Star (ObjA w1.heap.size (.cells #[.int .i64 0, .slice none 0 0] 51 (0, 0))) _) _ from h1) (by simp) (by simp [h.own.o1]) fun w6 h6 => H w6 ⟨l, UpT.start' _ _ hl, ?_⟩
  have : At w [] (Star (ObjA w1.heap.size (tbO n u)) (Star (OwnA u 4 1 bv l) (Star (ObjA r zO) X))) w6 := by simpa [tbO] using h6
  exact this.rot
theorem FillI.rest {w w' : World} {n t r k N : Nat} {u : Value} {G : Nat → Bool} {X : Asr} (h : FillI w n t r u G N X k w') : At w [] X w' := by
  obtain ⟨l, h1, h2⟩ := h
  exact h2.drop.drop.drop
theorem bv_at {w : World} {v : Value} {n a : Nat} {F : (Nat → Bool) → Bool} (h : Vw w v bv (tab n F)) (ha : a < 2 ^ n) : w.cell? (v.adr.add a) = some (.bool (F (asg n a))) := bv_cell h (tab_get ha)
theorem tb_idx {P : Program} {T : Nat} {w : World} {v : Value} {n a : Nat} {F : (Nat → Bool) → Bool} {K : Kont Value} {k : IntKind} (h : Vw w v bv (tab n F)) (ha : a < 2 ^ n) :
    @idxAH P T v (.int k (a : Nat)) K = @optH _ (slInfo P T) ⟨fun q => K.run (.pointer (some (v.adr.add (a * q.2.1))))⟩ := by
  have := h.idx (P := P) (T := T) (K := K) (k := k) (i := (a : Int)) (Int.natCast_nonneg _) (by rw [tab_len]; omega)
  simpa using this
theorem rVar_spec (n v : Nat) (w : World) (hn : n ≤ 6) (hv : v < n) : Calls Try.prog 57 [.int .i64 (n : Nat), .int .i64 (v : Nat)].toArray w fun e w' => ∃ x, e = .returned x ∧ ∃ u, x = tbV n u ∧ Tb w w' u (tab n (fun a => a v)) := by
  refine enter Try.func57 mixed low57 (Nat.le_of_ble_eq_true rfl) ?_
  simp only [L57]
  have hp := two_mono hn
  have h0 : At w [] Emp w := At.start rfl
  have h1 : At w [] (Star (ObjA w.heap.size zO) Emp) _ := h0.alloc zO Lcl.emp
  obtain ⟨r, hr⟩ : ∃ r, r = w.heap.size := ⟨_, rfl⟩
  rw [← hr] at h1
  simp [← hr]
  refine cl_of (rConst_spec n false _ hn) ?_
  rintro _ w2 ⟨u, rfl, hT⟩
  have h2 := At.tb (Lcl.obj.star Lcl.emp) h1 hT
  simp [tbV, hT.own.c1]
  refine FillI.start (n := n) (G := fun a => asg n a v) (N := 2 ^ n) Lcl.emp h2 (tab_len _ _) fun w3 h3 => ?_
  obtain ⟨t, ht⟩ : ∃ t, t = w2.heap.size := ⟨_, rfl⟩
  rw [← ht] at h3
  obtain ⟨l, hol, hll⟩ := h3.own
  simp [← ht, ← hr, cell_blk h3.obj, hol.len, hll]
  refine range_loop (n := 2 ^ n) (by omega) (fun k ρ w' => ρ 0 = .int .i64 (n : Nat) ∧ ρ 1 = .int .i64 (v : Nat) ∧ ρ 4 = .pointer (some ⟨r, 0, none⟩) ∧ ρ 5 = .pointer (some ⟨t, 0, none⟩) ∧ FillI w n t r u (fun a => asg n a v) (2 ^ n) Emp k w') (by simp) (by simp)
    ⟨by simp, by simp, by simp, by simp, h3⟩ (by decide) (fun _ _ _ _ h => by simpa using h) (fun _ _ _ _ h => by simpa using h) ?_ ?_
  · rintro k ρ w4 hk hc hlim ⟨g0, g1, g4, g5, h4⟩
    obtain ⟨l, hol, hll⟩ := h4.own
    have h4d := h4.kp0 Lcl.emp (Kp.refl [] w4).drew
    simp [g0, g1, g4, g5, hc, hlim, cell_blk h4.obj]
    refine ⟨?_, ?_⟩ <;>
    · refine cl_of (rBit_spec n k v _ hv (by omega)) ?_
      rintro _ w5 ⟨rfl, k5⟩
      have h5 := h4d.kp0 Lcl.emp k5
      obtain ⟨l, hol, hll⟩ := h5.own
      simp (disch := omega) [cell_blk h5.obj, hol.idx]
      refine h5.store Lcl.emp hk rfl fun w6 h6 => ?_
      simp [g0, g1, g4, g5, hc, hlim]
      exact h6
  · rintro ρ w4 ⟨g0, g1, g4, g5, h4⟩
    have ho := h4.obj
    have hc2 : cellsAt w4 ⟨t, 0, none⟩ 0 2 = some [.int .i64 (n : Nat), u] := by
      simp [cellsAt, Addr.add, cell_blk ho]
    simp [g4, g5, hc2]
    refine h4.done (F := fun a => a v) Lcl.emp fun w5 ho5 hT5 => ?_
    simp
    refine postL_c1 (g := r) (n := 2) ag_51 (by simp [g4]) ho5 rfl rfl ?_
    exact ⟨_, rfl, u, rfl, hT5⟩
set_option maxHeartbeats 1000000 in
theorem rRestrict_spec (n v : Nat) (x : Bool) (iv : Value) (F : (Nat → Bool) → Bool) (w : World) (hn : n ≤ 6) (hv : v < n) (hF : Vw w iv bv (tab n F)) : Calls Try.prog 64 [tbV n iv, .int .i64 (v : Nat), .bool x].toArray w fun e w' => ∃ x', e = .returned x' ∧ ∃ u, x' = tbV n u ∧ Tb w w' u (tab n (resF F v x)) := by
  refine enter Try.func64 mixed low64 (Nat.le_of_ble_eq_true rfl) ?_
  simp only [L64]
  have hp := two_mono hn
  have h0 : At w [] Emp w := At.start rfl
  have h01 : At w [] (Star (ObjA w.heap.size (tbO n iv)) Emp) _ := h0.alloc (tbO n iv) Lcl.emp
  have h1 : At w [] (Star (ObjA (w.alloc (tbO n iv)).heap.size zO) (Star (ObjA w.heap.size (tbO n iv)) Emp)) _ := h01.alloc zO (Lcl.obj.star Lcl.emp)
  rw [show (w.alloc (tbO n iv)).heap.size = w.heap.size + 1 by simp] at h1
  obtain ⟨b, hb⟩ : ∃ b, b = w.heap.size := ⟨_, rfl⟩
  obtain ⟨r, hr⟩ : ∃ r, r = b + 1 := ⟨_, rfl⟩
  have hX : Lcl (Star (ObjA b (tbO n iv)) Emp) := Lcl.obj.star Lcl.emp
  rw [← hb, ← hr] at h1
  have hob := h1.drop.obj
  unfold tbO at hob
  simp [← hb, ← hr, tbV, tbO, zO, cell_blk] at hob ⊢
  simp [cell_blk hob]
  refine cl_of (rConst_spec n false _ hn) ?_
  rintro _ w2 ⟨u, rfl, hT⟩
  have h2 := At.tb (Lcl.obj.star hX) h1 hT
  simp [tbV, hT.own.c1]
  refine FillI.start (n := n) (G := fun a => resF F v x (asg n a)) (N := 2 ^ n) hX h2 (tab_len _ _) fun w3 h3 => ?_
  obtain ⟨t, ht⟩ : ∃ t, t = w2.heap.size := ⟨_, rfl⟩
  rw [← ht] at h3
  obtain ⟨l, hol, hll⟩ := h3.own
  simp [← ht, ← hr, cell_blk h3.obj, hol.len, hll]
  refine range_loop (n := 2 ^ n) (by omega) (fun k ρ w' => ρ 1 = .int .i64 (v : Nat) ∧ ρ 2 = .bool x ∧ ρ 3 = .pointer (some ⟨b, 0, none⟩) ∧ ρ 6 = .pointer (some ⟨r, 0, none⟩) ∧ ρ 7 = .pointer (some ⟨t, 0, none⟩) ∧ FillI w n t r u (fun a => resF F v x (asg n a)) (2 ^ n) (Star (ObjA b (tbO n iv)) Emp) k w') (by simp) (by simp)
    ⟨by simp, by simp, by simp, by simp, by simp, h3⟩ (by decide) (fun _ _ _ _ h => by simpa using h) (fun _ _ _ _ h => by simpa using h) ?_ ?_
  · rintro k ρ w4 hk hc hlim ⟨g1, g2, g3, g6, g7, h4⟩
    have h4d := h4.kp0 hX (Kp.refl [] w4).drew
    have hob4 := h4.rest.obj
    unfold tbO at hob4
    have hwl := withT_lt (x := x) hv hk
    simp [g1, g2, g3, g6, g7, hc, hlim, cell_blk h4.obj, cell_blk hob4]
    refine ⟨?_, ?_, ?_, ?_⟩ <;>
    · refine cl_of (rWith_spec n k v x _ hv (by omega) hk) ?_
      rintro _ w5 ⟨rfl, k5⟩
      have h5 := h4d.kp0 hX k5
      obtain ⟨l, hol, hll⟩ := h5.own
      have hob5 := h5.rest.obj
      unfold tbO at hob5
      have hF5 := hF.kp0 h5.kp
      simp (disch := omega) [cell_blk h5.obj, cell_blk hob5, hol.idx, tb_idx hF5 hwl, bv_at hF5 hwl]
      refine h5.store hX hk (by rw [asg_with hv]; rfl) fun w6 h6 => ?_
      simp [g1, g2, g3, g6, g7, hc, hlim]
      exact h6
  · rintro ρ w4 ⟨g1, g2, g3, g6, g7, h4⟩
    have ho := h4.obj
    have hc2 : cellsAt w4 ⟨t, 0, none⟩ 0 2 = some [.int .i64 (n : Nat), u] := by
      simp [cellsAt, Addr.add, cell_blk ho]
    simp [g6, g7, hc2]
    refine h4.done (F := resF F v x) hX fun w5 ho5 hT5 => ?_
    simp
    refine postL_c1 (g := r) (n := 2) ag_51 (by simp [g6]) ho5 rfl rfl ?_
    exact ⟨_, rfl, u, rfl, hT5⟩
set_option maxHeartbeats 1000000 in
theorem rIte_spec (n : Nat) (fv gv hv : Value) (F G H : (Nat → Bool) → Bool) (w : World) (hn : n ≤ 6) (hF : Vw w fv bv (tab n F)) (hG : Vw w gv bv (tab n G)) (hH : Vw w hv bv (tab n H)) : Calls Try.prog 62 [tbV n fv, tbV n gv, tbV n hv].toArray w fun e w' => ∃ x', e = .returned x' ∧ ∃ u, x' = tbV n u ∧ Tb w w' u (tab n (iteF F G H)) := by
  refine enter Try.func62 mixed low62 (Nat.le_of_ble_eq_true rfl) ?_
  simp only [L62]
  have hp := two_mono hn
  have h0 : At w [] Emp w := At.start rfl
  have a1 : At w [] (Star (ObjA w.heap.size (tbO n fv)) Emp) _ := h0.alloc (tbO n fv) Lcl.emp
  have a2 : At w [] (Star (ObjA (w.alloc (tbO n fv)).heap.size (tbO n gv)) _) _ := a1.alloc (tbO n gv) (Lcl.obj.star Lcl.emp)
  have a3 : At w [] (Star (ObjA ((w.alloc (tbO n fv)).alloc (tbO n gv)).heap.size (tbO n hv)) _) _ := a2.alloc (tbO n hv) (Lcl.obj.star (Lcl.obj.star Lcl.emp))
  have h1 : At w [] (Star (ObjA (((w.alloc (tbO n fv)).alloc (tbO n gv)).alloc (tbO n hv)).heap.size zO) _) _ := a3.alloc zO (Lcl.obj.star (Lcl.obj.star (Lcl.obj.star Lcl.emp)))
  obtain ⟨b, hb⟩ : ∃ b, b = w.heap.size := ⟨_, rfl⟩
  have e1 : (w.alloc (tbO n fv)).heap.size = b + 1 := by simp [hb]
  have e2 : ((w.alloc (tbO n fv)).alloc (tbO n gv)).heap.size = b + 1 + 1 := by simp [hb]
  have e3 : (((w.alloc (tbO n fv)).alloc (tbO n gv)).alloc (tbO n hv)).heap.size = b + 1 + 1 + 1 := by simp [hb]
  rw [e3, e2, e1, ← hb] at h1
  obtain ⟨r, hr⟩ : ∃ r, r = b + 1 + 1 + 1 := ⟨_, rfl⟩
  obtain ⟨b1, hb1⟩ : ∃ b1, b1 = b + 1 := ⟨_, rfl⟩
  obtain ⟨b2, hb2⟩ : ∃ b2, b2 = b1 + 1 := ⟨_, rfl⟩
  have er : r = b2 + 1 := by omega
  rw [← hr] at h1
  rw [← hb1, ← hb2] at h1
  have hX : Lcl (Star (ObjA b2 (tbO n hv)) (Star (ObjA b1 (tbO n gv)) (Star (ObjA b (tbO n fv)) Emp))) := Lcl.obj.star (Lcl.obj.star (Lcl.obj.star Lcl.emp))
  have hob := h1.drop.drop.drop.obj
  unfold tbO at hob
  simp [← hb, ← hb1, ← hb2, ← er, tbV, tbO, zO] at hob ⊢
  simp [cell_blk hob]
  refine cl_of (rConst_spec n false _ hn) ?_
  rintro _ w2 ⟨u, rfl, hT⟩
  have h2 := At.tb (Lcl.obj.star hX) h1 hT
  simp [tbV, hT.own.c1]
  refine FillI.start (n := n) (G := fun a => iteF F G H (asg n a)) (N := 2 ^ n) hX h2 (tab_len _ _) fun w3 h3 => ?_
  obtain ⟨t, ht⟩ : ∃ t, t = w2.heap.size := ⟨_, rfl⟩
  rw [← ht] at h3
  obtain ⟨l, hol, hll⟩ := h3.own
  simp [← ht, cell_blk h3.obj, hol.len, hll]
  refine range_loop (n := 2 ^ n) (by omega) (fun k ρ w' => ρ 3 = .pointer (some ⟨b, 0, none⟩) ∧ ρ 4 = .pointer (some ⟨b1, 0, none⟩) ∧ ρ 5 = .pointer (some ⟨b2, 0, none⟩) ∧ ρ 6 = .pointer (some ⟨r, 0, none⟩) ∧ ρ 7 = .pointer (some ⟨t, 0, none⟩) ∧ FillI w n t r u (fun a => iteF F G H (asg n a)) (2 ^ n) (Star (ObjA b2 (tbO n hv)) (Star (ObjA b1 (tbO n gv)) (Star (ObjA b (tbO n fv)) Emp))) k w') (by simp) (by simp)
    ⟨by simp, by simp, by simp, by simp, by simp, h3⟩ (by decide) (fun _ _ _ _ h => by simpa using h) (fun _ _ _ _ h => by simpa using h) ?_ ?_
  · rintro k ρ w4 hk hc hlim ⟨g3, g4, g5, g6, g7, h4⟩
    have h4d := h4.kp0 hX (Kp.refl [] w4).drew
    have o3 := h4.rest.drop.drop.obj
    have o4 := h4.rest.drop.obj
    have o5 := h4.rest.obj
    unfold tbO at o3 o4 o5
    have hF4 := hF.kp0 h4.kp
    have hG4 := hG.kp0 h4.kp
    have hH4 := hH.kp0 h4.kp
    obtain ⟨l, hol, hll⟩ := h4.own
    simp (disch := omega) [g3, g4, g5, g6, g7, hc, hlim, cell_blk o3, tb_idx hF4 hk, bv_at hF4 hk]
    cases hv0 : F (asg n k) with
    | true =>
      simp (disch := omega) [g3, g4, g5, g6, g7, hc, hlim, cell_blk o3, cell_blk o4, cell_blk o5, cell_blk h4.obj, hol.idx, tb_idx hG4 hk, bv_at hG4 hk]
      refine h4d.store hX hk (by simp [iteF, hv0]) fun w6 h6 => ?_
      simp [g3, g4, g5, g6, g7, hc, hlim]
      exact h6
    | false =>
      simp (disch := omega) [g3, g4, g5, g6, g7, hc, hlim, cell_blk o3, cell_blk o4, cell_blk o5, cell_blk h4.obj, hol.idx, tb_idx hH4 hk, bv_at hH4 hk]
      refine h4d.store hX hk (by simp [iteF, hv0]) fun w6 h6 => ?_
      simp [g3, g4, g5, g6, g7, hc, hlim]
      exact h6
  · rintro ρ w4 ⟨g3, g4, g5, g6, g7, h4⟩
    have ho := h4.obj
    have hc2 : cellsAt w4 ⟨t, 0, none⟩ 0 2 = some [.int .i64 (n : Nat), u] := by
      simp [cellsAt, Addr.add, cell_blk ho]
    simp [g6, g7, hc2]
    refine h4.done (F := iteF F G H) hX fun w5 ho5 hT5 => ?_
    simp
    refine postL_c1 (g := r) (n := 2) ag_51 (by simp [g6]) ho5 rfl rfl ?_
    exact ⟨_, rfl, u, rfl, hT5⟩
end Go.Proofs.YtkojilpjpdpmaaaR
end
section
set_option maxRecDepth 100000
set_option linter.unusedSimpArgs false
set_option linter.unusedVariables false
namespace Go.Proofs.YtkojilpjpdpmaaaR
open Go Go.W Go.Bd Go.Maps
/-! ### Comparing and counting tables -/
theorem rSame_spec (n : Nat) (fv gv : Value) (F G : (Nat → Bool) → Bool) (w : World) (hn : n ≤ 6) (hF : Vw w fv bv (tab n F)) (hG : Vw w gv bv (tab n G)) : Calls Try.prog 32 [tbV n fv, tbV n gv].toArray w fun e w' => ∃ x', e = .returned x' ∧ x' = .bool (decide (tab n F = tab n G)) ∧ Kp [] w w' := by
  refine enter Try.func32 mixed low32 (Nat.le_of_ble_eq_true rfl) ?_
  simp only [L32]
  have hp := two_mono hn
  have h0 : At w [] Emp w := At.start rfl
  have a1 : At w [] (Star (ObjA w.heap.size (tbO n fv)) Emp) _ := h0.alloc (tbO n fv) Lcl.emp
  have h1 : At w [] (Star (ObjA (w.alloc (tbO n fv)).heap.size (tbO n gv)) _) _ := a1.alloc (tbO n gv) (Lcl.obj.star Lcl.emp)
  obtain ⟨b, hb⟩ : ∃ b, b = w.heap.size := ⟨_, rfl⟩
  rw [show (w.alloc (tbO n fv)).heap.size = b + 1 by simp [hb], ← hb] at h1
  have ob := h1.drop.obj
  unfold tbO at ob
  have hF1 := hF.kp0 h1.kp
  simp [← hb, tbV, tbO] at ob ⊢
  simp [cell_blk ob, hF1.len, tab_len]
  refine range_loop (n := 2 ^ n) (by omega) (fun k ρ w' => ρ 2 = .pointer (some ⟨b, 0, none⟩) ∧ ρ 3 = .pointer (some ⟨b + 1, 0, none⟩) ∧ (∀ j, j < k → F (asg n j) = G (asg n j)) ∧ At w [] (Star (ObjA (b + 1) (tbO n gv)) (Star (ObjA b (tbO n fv)) Emp)) w') (by simp) (by simp)
    ⟨by simp, by simp, by omega, h1⟩ (by decide) (fun _ _ _ _ h => by simpa using h) (fun _ _ _ _ h => by simpa using h) ?_ ?_
  · rintro k ρ w4 hk hc hlim ⟨g2, g3, hall, h4⟩
    have o2 := h4.drop.obj
    have o3 := h4.obj
    unfold tbO at o2 o3
    have hF4 := hF.kp0 h4.kp
    have hG4 := hG.kp0 h4.kp
    have h4d := h4.drew (.star .obj (.star .obj .emp))
    simp (disch := omega) [g2, g3, hc, hlim, cell_blk o2, cell_blk o3, tb_idx hF4 hk, bv_at hF4 hk, tb_idx hG4 hk, bv_at hG4 hk]
    by_cases he : F (asg n k) = G (asg n k)
    · simp [he, hc, hlim, g2, g3]
      refine ⟨fun j hj => ?_, h4d⟩
      rcases Nat.lt_or_ge j k with h5 | h5
      · exact hall j h5
      · have : j = k := by omega
        subst this; exact he
    · have hne : tab n F ≠ tab n G := fun e => he (by
        have := congrArg (·[k]?) e
        simpa [tab_get hk] using this)
      have hbne : (F (asg n k) == G (asg n k)) = false := by simpa using he
      simp [hbne, hne]
      exact h4d.kp
  · rintro ρ w4 ⟨g2, g3, hall, h4⟩
    have he : tab n F = tab n G := by
      unfold tab
      exact List.map_congr_left fun a ha => hall a (List.mem_range.1 ha)
    simp [he]
    exact h4.kp
def depB (n : Nat) (F : (Nat → Bool) → Bool) (v : Nat) : Bool := decide (tab n (resF F v false) ≠ tab n (resF F v true))
theorem rDepends_spec (n v : Nat) (fv : Value) (F : (Nat → Bool) → Bool) (w : World) (hn : n ≤ 6) (hv : v < n) (hF : Vw w fv bv (tab n F)) : Calls Try.prog 58 [tbV n fv, .int .i64 (v : Nat)].toArray w fun e w' => ∃ x', e = .returned x' ∧ x' = .bool (depB n F v) ∧ Kp [] w w' := by
  refine enter Try.func58 mixed low58 (Nat.le_of_ble_eq_true rfl) ?_
  simp only [L58]
  have h0 : At w [] Emp w := At.start rfl
  have h1 : At w [] (Star (ObjA w.heap.size (tbO n fv)) Emp) _ := h0.alloc (tbO n fv) Lcl.emp
  have h1 := h1.drew (.star .obj .emp)
  have hX : Lcl (Star (ObjA w.heap.size (tbO n fv)) Emp) := .star .obj .emp
  obtain ⟨b, hb⟩ : ∃ b, b = w.heap.size := ⟨_, rfl⟩
  rw [← hb] at h1 hX
  have rd : ∀ {w'}, At w [] (Star (ObjA b (tbO n fv)) Emp) w' → cellsAt w' ⟨b, 0, none⟩ 0 2 = some [.int .i64 (n : Nat), fv] := fun h => by
    have ob := h.obj
    unfold tbO at ob
    simp [cellsAt, Addr.add, cell_blk ob]
  have rd1 := rd h1
  have hF1 := hF.kp0 h1.kp
  unfold tbO at h1 rd1 hF1
  simp [← hb, tbV] at h1 rd1 hF1 ⊢
  simp [rd1]
  refine ⟨?_, ?_⟩ <;>
  · refine cl_of (rRestrict_spec n v false fv F _ hn hv hF1) ?_
    rintro _ w2 ⟨u, rfl, hT⟩
    have h2 := h1.kp0 (.star .obj .emp) hT.kp
    have rd2 := rd h2
    simp [rd2]
    refine cl_of (rRestrict_spec n v true fv F _ hn hv (hF1.kp0 hT.kp)) ?_
    rintro _ w3 ⟨u', rfl, hT'⟩
    simp
    refine cl_of (rSame_spec n u u' _ _ _ hn (hT.own.vw.kp0 hT'.kp) hT'.own.vw) ?_
    rintro _ w4 ⟨rfl, k4⟩
    simp [depB]
    exact (h2.kp.trans0 hT'.kp).trans0 k4
end Go.Proofs.YtkojilpjpdpmaaaR
end
section
set_option maxRecDepth 100000
set_option linter.unusedSimpArgs false
set_option linter.unusedVariables false
namespace Go.Proofs.YtkojilpjpdpmaaaR
open Go Go.W Go.Bd Go.Maps
/-- A new row. -/
structure Nw {α : Type} (w w' : World) (u : Value) (E sz : Nat) (enc : α → List Value) (l : List α) : Prop where
  kp : Kp [] w w'
  own : Own w' u E sz enc l
  fresh : ∀ x ∈ u.own, w.heap.size ≤ x
theorem Nw.of {α : Type} {w w' : World} {u : Value} {E sz : Nat} {enc : α → List Value} {l : List α} {B : Asr} (h : At w [] (Star (OwnA u E sz enc l) B) w') : Nw w w' u E sz enc l := by
  refine ⟨h.kp, h.own, fun x hx => ?_⟩
  obtain ⟨F', ⟨Fa, Fb, ⟨_, rfl⟩, _, _, rfl⟩, hs⟩ := h.ex
  rcases hs x (by simp [hx]) with h1 | h1
  · cases h1
  · exact h1
theorem At.nw {α : Type} {w w1 w' : World} {F : List Nat} {B : Asr} {u : Value} {E sz : Nat} {enc : α → List Value} {l : List α} (hB : Lcl B) (h : At w F B w1) (t : Nw w1 w' u E sz enc l) : At w F (Star (OwnA u E sz enc l) B) w' :=
  h.more hB t.kp ⟨u.own, ⟨t.own, rfl⟩, t.fresh⟩
def supT (n k : Nat) (F : (Nat → Bool) → Bool) : List Int := ((List.range k).filter (depB n F)).map fun v : Nat => (v : Int)
theorem supT_succ (n k : Nat) (F : (Nat → Bool) → Bool) : supT n (k + 1) F = if depB n F k = true then supT n k F ++ [(k : Int)] else supT n k F := by
  unfold supT
  rw [List.range_succ, List.filter_append]
  by_cases h : depB n F k = true
  · simp [h]
  · simp [h]
theorem supT_len (n k : Nat) (F : (Nat → Bool) → Bool) : (supT n k F).length ≤ k := by
  unfold supT
  rw [List.length_map]
  have := List.length_filter_le (depB n F) (List.range k)
  simpa using this
theorem rSupport_spec (n : Nat) (fv : Value) (F : (Nat → Bool) → Bool) (w : World) (hn : n ≤ 6) (hF : Vw w fv bv (tab n F)) : Calls Try.prog 27 [tbV n fv].toArray w fun e w' => ∃ u, e = .returned u ∧ Nw w w' u 3 1 iv (supT n n F) := by
  refine enter Try.func27 mixed low27 (Nat.le_of_ble_eq_true rfl) ?_
  simp only [L27]
  have h0 : At w [] Emp w := At.start rfl
  have h1 : At w [] (Star (ObjA w.heap.size (tbO n fv)) Emp) _ := h0.alloc (tbO n fv) Lcl.emp
  obtain ⟨b, hb⟩ : ∃ b, b = w.heap.size := ⟨_, rfl⟩
  rw [← hb] at h1
  have ob := h1.obj
  have h2 := At.nil (E := 3) (sz := 1) (enc := iv) (.star .obj .emp) h1
  unfold tbO at ob
  simp [← hb, tbV]
  simp [cell_blk ob]
  refine range_loop (n := n) (by omega) (fun k ρ w' => ρ 1 = .pointer (some ⟨b, 0, none⟩) ∧ At w [] (Star (OwnA (ρ 3) 3 1 iv (supT n k F)) (Star (ObjA b (tbO n fv)) Emp)) w') (by simp) (by simp)
    ⟨by simp, by simpa [supT, tbO] using h2⟩ (by decide) (fun _ _ _ _ h => by simpa using h) (fun _ _ _ _ h => by simpa using h) ?_ ?_
  · rintro k ρ w4 hk hc hlim ⟨g1, h4⟩
    have ob := h4.drop.obj
    unfold tbO at ob
    have rd : cellsAt w4 ⟨b, 0, none⟩ 0 2 = some [.int .i64 (n : Nat), fv] := by simp [cellsAt, Addr.add, cell_blk ob]
    have hl4 : Lcl (Star (OwnA (ρ 3) 3 1 iv (supT n k F)) (Star (ObjA b (tbO n fv)) Emp)) := .star .own (.star .obj .emp)
    have hlen := supT_len n k F
    simp [g1, hc, hlim, rd]
    refine cl_of (rDepends_spec n k fv F _ hn hk (hF.kp0 h4.kp)) ?_
    rintro _ w5 ⟨rfl, k5⟩
    have h5 := h4.kp0 hl4 k5
    have hs := supT_succ n k F
    by_cases hd : depB n F k = true
    · rw [if_pos hd] at hs
      have h6 := h5.kp0 hl4 ((Kp.refl [] w5).alloc (.cells #[.int .i64 (k : Nat)] 3))
      simp [hd, rowOf]
      refine At.append (xs := [(k : Int)]) (.star .obj .emp) h6 iv_len iv_one sl_30 rfl (fun j u hj => ?_) (by omega) (by unfold maxLen; omega) fun v' w7 h7 => ?_
      · rw [add_none, cell_blk alloc_new]
        simpa [iv] using hj
      rw [← hs] at h7
      simp [hc, hlim, g1]
      exact h7
    · rw [if_neg hd] at hs
      rw [hs]
      simp [hd, hc, hlim, g1]
      exact h5
  · rintro ρ w4 ⟨g1, h4⟩
    simp
    exact Nw.of h4
def cntT (n : Nat) (F : (Nat → Bool) → Bool) : Nat := (tab n F).countP id
theorem rCount_spec (n : Nat) (fv : Value) (F : (Nat → Bool) → Bool) (w : World) (hn : n ≤ 6) (hF : Vw w fv bv (tab n F)) : Calls Try.prog 35 [tbV n fv].toArray w fun e w' => ∃ x, e = .returned x ∧ x = .int .i64 (cntT n F : Nat) ∧ Kp [] w w' := by
  refine enter Try.func35 mixed low35 (Nat.le_of_ble_eq_true rfl) ?_
  simp only [L35]
  have hp := two_mono hn
  have k1 : Kp [] w (w.alloc (tbO n fv)) := (Kp.refl _ _).alloc _
  have ob : (w.alloc (tbO n fv)).heap[w.heap.size]? = some (tbO n fv) := alloc_new
  have hF1 := hF.kp0 k1
  unfold tbO at ob hF1 k1
  simp [tbV]
  simp [cell_blk ob, hF1.len, tab_len]
  refine range_loop (n := 2 ^ n) (by omega) (fun k ρ w' => ρ 7 = fv ∧ ρ 3 = .int .i64 (((tab n F).take k).countP id : Nat) ∧ Kp [] w w') (by simp) (by simp)
    ⟨by simp, by simp, by simpa using k1⟩ (by decide) (fun _ _ _ _ h => by simpa using h) (fun _ _ _ _ h => by simpa using h) ?_ ?_
  · rintro k ρ w4 hk hc hlim ⟨g7, g3, k4⟩
    have hF4 := hF.kp0 k4
    have hle : ((tab n F).take k).countP id ≤ 2 ^ n := by
      have := List.countP_le_length (p := id) (l := (tab n F).take k)
      rw [List.length_take, tab_len] at this
      omega
    have hst : ((tab n F).take (k + 1)).countP id = ((tab n F).take k).countP id + (F (asg n k)).toNat := by
      rw [List.take_add_one, tab_get hk, List.countP_append]
      cases F (asg n k) <;> simp
    rw [hst]
    simp (disch := omega) [g7, g3, hc, hlim, tb_idx hF4 hk, bv_at hF4 hk]
    cases hv : F (asg n k) with
    | true =>
      simp (disch := omega) [hc, hlim, g7, g3, wrap_i64]
      exact k4
    | false =>
      simp [hc, hlim, g7, g3]
      exact k4
  · rintro ρ w4 ⟨g7, g3, k4⟩
    simp [g3]
    refine ⟨?_, k4⟩
    rw [List.take_of_length_le (by rw [tab_len]; exact Nat.le_refl _)]
    rfl
end Go.Proofs.YtkojilpjpdpmaaaR
end
section
set_option maxRecDepth 100000
set_option linter.unusedSimpArgs false
set_option linter.unusedVariables false
namespace Go.Proofs.YtkojilpjpdpmaaaR
open Go Go.W Go.Bd Go.Maps
/-! ### Quantified tables -/
/-- The table so far: the one that came in, or a new one. -/
def QtX (n : Nat) (fv : Value) (F G : (Nat → Bool) → Bool) (uv : Value) (X : Asr) : Prop := (uv = fv ∧ tab n G = tab n F ∧ X = Emp) ∨ X = VwA uv bv (tab n G)
theorem QtX.lcl {n : Nat} {fv uv : Value} {F G : (Nat → Bool) → Bool} {X : Asr} (h : QtX n fv F G uv X) : Lcl X := by
  rcases h with ⟨_, _, rfl⟩ | rfl
  · exact Lcl.emp
  · exact Lcl.vw
theorem QtX.vw {w w' : World} {n : Nat} {fv uv : Value} {F G : (Nat → Bool) → Bool} {X B : Asr} (hF : Vw w fv bv (tab n F)) (h : QtX n fv F G uv X) (hA : At w [] (Star X B) w') : Vw w' uv bv (tab n G) ∧ (uv = fv ∨ ∀ z ∈ uv.own, w.heap.size ≤ z) := by
  rcases h with ⟨rfl, e, rfl⟩ | rfl
  · rw [e]; exact ⟨hF.kp0 hA.kp, .inl rfl⟩
  · refine ⟨hA.vw, .inr fun z hz => ?_⟩
    obtain ⟨F', ⟨Fa, Fb, ⟨_, rfl, _⟩, _, _, rfl⟩, hs⟩ := hA.ex
    rcases hs z (by simp [hz]) with h1 | h1
    · cases h1
    · exact h1
def QtI (w : World) (n b r : Nat) (fv : Value) (F G : (Nat → Bool) → Bool) (w' : World) : Prop :=
  ∃ uv X, QtX n fv F G uv X ∧ At w [] (Star X (Star (ObjA b (tbO n uv)) (Star (ObjA r zO) Emp))) w'
theorem rd_tb {w : World} {b n : Nat} {u : Value} (h : w.heap[b]? = some (tbO n u)) : cellsAt w ⟨b, 0, none⟩ 0 2 = some [.int .i64 (n : Nat), u] := by
  unfold tbO at h
  simp [cellsAt, Addr.add, cell_blk h]
theorem rd_tb0 {w : World} {b n : Nat} {u : Value} (h : w.heap[b]? = some (tbO n u)) : w.cell? ⟨b, 0, none⟩ = some (.int .i64 (n : Nat)) := by
  unfold tbO at h
  simp [cell_blk h]
theorem add_blk (a : Addr) (k : Nat) : (a.add k).block = a.block := by unfold Addr.add; split <;> rfl
theorem vw_lt {w : World} {u : Value} {l : List Bool} (h : Vw w u bv l) (hl : l ≠ []) : ∀ x ∈ u.own, x < w.heap.size := by
  rcases h with ⟨rfl, e⟩ | ⟨a, cap, rfl, _, _, hc⟩
  · exact absurd e hl
  · obtain ⟨b, l', rfl⟩ := List.exists_cons_of_ne_nil hl
    have := World.block_lt_of_cell? w _ (hc 0 (.bool b) (by simp [bv]))
    rw [add_blk] at this
    intro x hx
    simp at hx; subst hx; exact this
theorem vw_ne {w : World} {u : Value} {l : List Bool} {p : Nat} (h : Vw w u bv l) (hl : l ≠ []) (hp : w.heap[p]? = some zO) : ∀ x ∈ u.own, x ≠ p := by
  rcases h with ⟨rfl, e⟩ | ⟨a, cap, rfl, _, hs, hc⟩
  · exact absurd e hl
  · obtain ⟨b, l', rfl⟩ := List.exists_cons_of_ne_nil hl
    have h1 := hc 0 (.bool b) (by simp [bv])
    intro x hx e
    simp at hx
    subst hx
    obtain ⟨ab, ao, asp⟩ := a
    have : asp = none := hs (by simp)
    subst this
    unfold zO at hp
    simp only at e
    subst e
    rw [add_none, cell_blk hp] at h1
    rcases Nat.lt_trichotomy (ao + 0) 1 with h | h | h
    · have : ao + 0 = 0 := by omega
      rw [this] at h1; simp at h1
    · rw [h] at h1; simp at h1
    · rw [Array.getElem?_eq_none (by simp; omega)] at h1; cases h1
theorem tab_ne (n : Nat) (F : (Nat → Bool) → Bool) : tab n F ≠ [] := fun e => by
  have := congrArg List.length e
  rw [tab_len] at this
  have := Nat.two_pow_pos n
  simp at *
/-- Facts of the operations of the pair's region. -/
def QFact (base n x : Nat) (uv : Value) (G : (Nat → Bool) → Bool) : Nat → Value → World → Prop
  | 0, v, _ => v = tbV n uv
  | 1, v, _ => v = .int .i64 (x : Nat)
  | 2, v, w => ∃ u, v = tbV n u ∧ Vw w u bv (tab n (resF G x false)) ∧ oneC u = true ∧ u.cells = #[u] ∧ ∀ z ∈ u.own, base ≤ z
  | 3, v, _ => v = tbV n uv
  | 4, v, _ => v = .int .i64 (x : Nat)
  | 5, v, w => ∃ u, v = tbV n u ∧ Vw w u bv (tab n (resF G x true)) ∧ oneC u = true ∧ u.cells = #[u] ∧ ∀ z ∈ u.own, base ≤ z
  | _, _, _ => True
def QNew : Nat → Option Obj
  | 6 => some zO
  | 7 => some zO
  | _ => none
theorem QFact.st {base n x : Nat} {uv : Value} {G : (Nat → Bool) → Bool} : ∀ (i : Nat) (v : Value) (w1 w2 : World), Kp [] w1 w2 → QFact base n x uv G i v w1 → QFact base n x uv G i v w2
  | 0, _, _, _, _, h => h
  | 1, _, _, _, _, h => h
  | 2, _, _, _, k, ⟨u, h1, h2, h3⟩ => ⟨u, h1, h2.kp0 k, h3⟩
  | 3, _, _, _, _, h => h
  | 4, _, _, _, _, h => h
  | 5, _, _, _, k, ⟨u, h1, h2, h3⟩ => ⟨u, h1, h2.kp0 k, h3⟩
  | _ + 6, _, _, _, _, _ => trivial
set_option maxHeartbeats 4000000 in
theorem rQuantify_spec (n : Nat) (fv vv : Value) (F : (Nat → Bool) → Bool) (xs : List Nat) (all : Bool) (w : World) (hn : n ≤ 6) (hF : Vw w fv bv (tab n F)) (hV : Vw w vv iv (xs.map fun x : Nat => (x : Int))) (hx : ∀ x ∈ xs, x < n) (hxl : xs.length ≤ 1000000) :
    Calls Try.prog 63 [tbV n fv, vv, .bool all].toArray w fun e w' => ∃ x', e = .returned x' ∧ ∃ u, x' = tbV n u ∧ Kp [] w w' ∧ Vw w' u bv (tab n (quaF (if all then 0 else 1) F xs)) ∧ (u = fv ∨ ∀ z ∈ u.own, w.heap.size ≤ z) := by
  refine enter Try.func63 mixed low63 (Nat.le_of_ble_eq_true rfl) ?_
  simp only [L63]
  have hp := two_mono hn
  have h0 : At w [] Emp w := At.start rfl
  have h01 : At w [] (Star (ObjA w.heap.size (tbO n fv)) Emp) _ := h0.alloc (tbO n fv) Lcl.emp
  have h1 : At w [] (Star (ObjA (w.alloc (tbO n fv)).heap.size zO) (Star (ObjA w.heap.size (tbO n fv)) Emp)) _ := h01.alloc zO (Lcl.obj.star Lcl.emp)
  rw [show (w.alloc (tbO n fv)).heap.size = w.heap.size + 1 by simp] at h1
  obtain ⟨b, hb⟩ : ∃ b, b = w.heap.size := ⟨_, rfl⟩
  obtain ⟨r, hr⟩ : ∃ r, r = b + 1 := ⟨_, rfl⟩
  rw [← hb, ← hr] at h1
  have hL : ∀ {o : Obj}, Lcl (Star (ObjA b o) (Star (ObjA r zO) Emp)) := .star .obj (.star .obj .emp)
  have hV1 := hV.kp0 h1.kp
  have h1e : At w [] (Star Emp (Star (ObjA b (tbO n fv)) (Star (ObjA r zO) Emp))) _ := h1.rot.more hL (Kp.refl _ _) ⟨[], rfl, by simp⟩
  simp [← hb, ← hr, tbV, hV1.len]
  refine range_loop (n := xs.length) (by omega) (fun k ρ w' => ρ 2 = .bool all ∧ ρ 3 = .pointer (some ⟨b, 0, none⟩) ∧ ρ 6 = .pointer (some ⟨r, 0, none⟩) ∧ ρ 11 = vv ∧ QtI w n b r fv F (quaF (if all then 0 else 1) F (xs.take k)) w') (by simp) (by simp)
    ⟨by simp, by simp, by simp, by simp, fv, Emp, .inl ⟨rfl, by simp [quaF], rfl⟩, by simpa [tbO, zO] using h1e⟩ (by decide) (fun _ _ _ _ h => by simpa using h) (fun _ _ _ _ h => by simpa using h) ?_ ?_
  · rintro k ρ w4 hk hc hlim ⟨g2, g3, g6, g11, uv, X, hQ, h4⟩
    obtain ⟨hU, hal⟩ := hQ.vw hF h4
    obtain ⟨x, hxk⟩ : ∃ x, xs[k]? = some x := ⟨_, List.getElem?_eq_getElem hk⟩
    have hxn := hx x (List.mem_of_getElem? hxk)
    have hvw := hV.kp0 h4.kp
    have hxi : (xs.map fun x : Nat => (x : Int))[k]? = some (x : Int) := by simp [hxk]
    obtain ⟨ys, hys⟩ : ∃ ys, ys = xs.map fun x : Nat => (x : Int) := ⟨_, rfl⟩
    have hyl : ys.length = xs.length := by simp [hys]
    rw [← hys] at hvw hxi
    obtain ⟨G, hG⟩ : ∃ G, G = quaF (if all then 0 else 1) F (xs.take k) := ⟨_, rfl⟩
    have hsn : quaF (if all then 0 else 1) F (xs.take (k + 1)) = fun a => opB (if all then 0 else 1) (resF G x false a) (resF G x true a) := by
      rw [List.take_add_one, hxk]
      show quaF _ F (xs.take k ++ [x]) = _
      rw [quaF_snoc, hG]
    rw [← hG] at hU hQ
    rw [hsn]
    simp (disch := omega) [g2, g3, g6, g11, hc, hlim, hvw.idx, iv_cell hvw hxi]
    have ob4 := h4.drop.obj
    refine any_tuple 8 (QFact w4.heap.size n x uv G) QNew (by kernel_rfl) QFact.st ?_ ?_ ?_
    · intro i ρ' w' hi hA hkp hold hd
      have e : i = 0 ∨ i = 1 ∨ i = 2 ∨ i = 3 ∨ i = 4 ∨ i = 5 ∨ i = 6 ∨ i = 7 := by omega
      have o3 : ρ' 3 = .pointer (some ⟨b, 0, none⟩) := by
        rw [hold 3 (fun j hj => by have e : j = 0 ∨ j = 1 ∨ j = 2 ∨ j = 3 ∨ j = 4 ∨ j = 5 ∨ j = 6 ∨ j = 7 := by omega
                                   rcases e with rfl | rfl | rfl | rfl | rfl | rfl | rfl | rfl <;> simp)]
        simp [g3]
      have o8 : ρ' 8 = .int .i64 (x : Nat) := by
        rw [hold 8 (fun j hj => by have e : j = 0 ∨ j = 1 ∨ j = 2 ∨ j = 3 ∨ j = 4 ∨ j = 5 ∨ j = 6 ∨ j = 7 := by omega
                                   rcases e with rfl | rfl | rfl | rfl | rfl | rfl | rfl | rfl <;> simp)]
        simp
      have ob := rd_tb (hkp.blk ob4 (by simp))
      rcases e with rfl | rfl | rfl | rfl | rfl | rfl | rfl | rfl
      · simp [o3, ob]
        exact ⟨_, rfl, Kp.refl _ _, rfl⟩
      · simp [o8]
        exact ⟨_, rfl, Kp.refl _ _, rfl⟩
      · have f0 := hd 0 (by omega) (by decide) rfl
        have f1 := hd 1 (by omega) (by decide) rfl
        simp [dstN, QFact] at f0 f1
        simp [f0, f1]
        refine cl_of (rRestrict_spec n x false uv G _ hn hxn (hU.kp0 hkp)) ?_
        rintro _ w2 ⟨u, rfl, hT⟩
        exact ⟨_, rfl, hT.kp, u, rfl, hT.own.vw, hT.own.o1, hT.own.c1, fun z hz => Nat.le_trans hkp.size (hT.fresh z hz)⟩
      · simp [o3, ob]
        exact ⟨_, rfl, Kp.refl _ _, rfl⟩
      · simp [o8]
        exact ⟨_, rfl, Kp.refl _ _, rfl⟩
      · have f0 := hd 3 (by omega) (by decide) rfl
        have f1 := hd 4 (by omega) (by decide) rfl
        simp [dstN, QFact] at f0 f1
        simp [f0, f1]
        refine cl_of (rRestrict_spec n x true uv G _ hn hxn (hU.kp0 hkp)) ?_
        rintro _ w2 ⟨u, rfl, hT⟩
        exact ⟨_, rfl, hT.kp, u, rfl, hT.own.vw, hT.own.o1, hT.own.c1, fun z hz => Nat.le_trans hkp.size (hT.fresh z hz)⟩
      · cases hA
      · cases hA
    · intro i ρ' w' o hi hA
      have e : i = 0 ∨ i = 1 ∨ i = 2 ∨ i = 3 ∨ i = 4 ∨ i = 5 ∨ i = 6 ∨ i = 7 := by omega
      rcases e with rfl | rfl | rfl | rfl | rfl | rfl | rfl | rfl <;> first | (cases hA; done) | skip
      all_goals
        cases hA
        simp [zO]
    · intro Y ρ' w' hY hf
      obtain ⟨u1, e19, hU1, ho1, hc1, hf1⟩ := hf.fact 2 ((hY 2).2 (by omega)) rfl
      obtain ⟨u2, e22, hU2, ho2, hc2, hf2⟩ := hf.fact 5 ((hY 5).2 (by omega)) rfl
      obtain ⟨p9, e9, hp9, hb9⟩ := hf.new 6 ((hY 6).2 (by omega)) zO rfl
      obtain ⟨p10, e10, hp10, hb10⟩ := hf.new 7 ((hY 7).2 (by omega)) zO rfl
      have hne := hf.ne 6 ((hY 6).2 (by omega)) 7 ((hY 7).2 (by omega)) (by decide) rfl rfl
      rw [e9, e10] at hne
      have hne : p9 ≠ p10 := fun e => hne (by rw [e])
      simp [dstN] at e19 e22 e9 e10
      have hL4 : Lcl (Star X (Star (ObjA b (tbO n uv)) (Star (ObjA r zO) Emp))) := .star hQ.lcl hL
      have hnw : ∃ F1, Star (ObjA p9 zO) (Star (ObjA p10 zO) (VwsA bv [((⟨u1, ho1⟩, tab n (resF G x false)) : Cell1 × List Bool), (⟨u2, ho2⟩, tab n (resF G x true))])) w' F1 ∧ ∀ z ∈ F1, w4.heap.size ≤ z := by
        refine ⟨_, ⟨[p9], _, ⟨hb9, rfl⟩, ⟨[p10], _, ⟨hb10, rfl⟩, ⟨?_, ?_, rfl⟩, ?_, rfl⟩, ?_, rfl⟩, ?_⟩
        · intro q hq
          simp at hq
          rcases hq with rfl | rfl
          · exact hU1
          · exact hU2
        · intro z hz
          simp at hz
          rcases hz with hz | hz
          · exact vw_lt hU1 (tab_ne _ _) z hz
          · exact vw_lt hU2 (tab_ne _ _) z hz
        · intro z hz hz2
          simp at hz hz2
          subst hz
          rcases hz2 with hz2 | hz2
          · exact vw_ne hU1 (tab_ne _ _) hb10 z hz2 rfl
          · exact vw_ne hU2 (tab_ne _ _) hb10 z hz2 rfl
        · intro z hz hz2
          simp at hz hz2
          subst hz
          rcases hz2 with hz2 | hz2 | hz2
          · exact hne hz2
          · exact vw_ne hU1 (tab_ne _ _) hb9 z hz2 rfl
          · exact vw_ne hU2 (tab_ne _ _) hb9 z hz2 rfl
        · intro z hz
          simp at hz
          rcases hz with rfl | rfl | hz | hz
          · exact hp9
          · exact hp10
          · exact hf1 z hz
          · exact hf2 z hz
      have h6 := ((h4.more hL4 hf.kp hnw).assoc).by (Imp.un (fun w F h => Star.assoc h))
      have hLV : Lcl (Star (VwsA bv [((⟨u1, ho1⟩, tab n (resF G x false)) : Cell1 × List Bool), (⟨u2, ho2⟩, tab n (resF G x true))]) (Star X (Star (ObjA b (tbO n uv)) (Star (ObjA r zO) Emp)))) := .star .vws hL4
      have h6' := h6
      unfold zO at h6
      simp [e9, e19, tbV, hc1]
      refine h6.st (.star .obj (.star .vws (.star hQ.lcl (.star .obj (.star .obj .emp))))) (by simp) (by simp [ho1]) fun w6 h7 => ?_
      simp [e10, e22, tbV, hc2]
      refine h7.rot.st (.star .obj (.star .vws (.star hQ.lcl (.star .obj (.star .obj .emp))))) (by simp) (by simp [ho2]) fun w7 h8 => ?_
      have h8 : At w [] (Star (ObjA p10 (tbO n u2)) (Star (ObjA p9 (tbO n u1)) (Star (VwsA bv [((⟨u1, ho1⟩, tab n (resF G x false)) : Cell1 × List Bool), (⟨u2, ho2⟩, tab n (resF G x true))]) (Star X (Star (ObjA b (tbO n uv)) (Star (ObjA r zO) Emp)))))) w7 := by simpa [tbO, zO] using h8
      have hLA : Lcl (Star (ObjA p10 (tbO n u2)) (Star (ObjA p9 (tbO n u1)) (Star (VwsA bv [((⟨u1, ho1⟩, tab n (resF G x false)) : Cell1 × List Bool), (⟨u2, ho2⟩, tab n (resF G x true))]) (Star X (Star (ObjA b (tbO n uv)) (Star (ObjA r zO) Emp)))))) := .star .obj (.star .obj hLV)
      have r10 : ∀ {wa}, At w [] (Star (ObjA p10 (tbO n u2)) (Star (ObjA p9 (tbO n u1)) (Star (VwsA bv [((⟨u1, ho1⟩, tab n (resF G x false)) : Cell1 × List Bool), (⟨u2, ho2⟩, tab n (resF G x true))]) (Star X (Star (ObjA b (tbO n uv)) (Star (ObjA r zO) Emp)))))) wa → cellsAt wa ⟨p10, 0, none⟩ 0 2 = some [.int .i64 (n : Nat), u2] := fun h => rd_tb h.obj
      have r9 : ∀ {wa}, At w [] (Star (ObjA p10 (tbO n u2)) (Star (ObjA p9 (tbO n u1)) (Star (VwsA bv [((⟨u1, ho1⟩, tab n (resF G x false)) : Cell1 × List Bool), (⟨u2, ho2⟩, tab n (resF G x true))]) (Star X (Star (ObjA b (tbO n uv)) (Star (ObjA r zO) Emp)))))) wa → cellsAt wa ⟨p9, 0, none⟩ 0 2 = some [.int .i64 (n : Nat), u1] := fun h => rd_tb h.drop.obj
      have rN : ∀ {wa}, At w [] (Star (ObjA p10 (tbO n u2)) (Star (ObjA p9 (tbO n u1)) (Star (VwsA bv [((⟨u1, ho1⟩, tab n (resF G x false)) : Cell1 × List Bool), (⟨u2, ho2⟩, tab n (resF G x true))]) (Star X (Star (ObjA b (tbO n uv)) (Star (ObjA r zO) Emp)))))) wa → wa.cell? ⟨b, 0, none⟩ = some (.int .i64 (n : Nat)) := fun h => rd_tb0 h.drop.drop.drop.drop.obj
      have hV1 : ∀ {wa}, At w [] (Star (ObjA p10 (tbO n u2)) (Star (ObjA p9 (tbO n u1)) (Star (VwsA bv [((⟨u1, ho1⟩, tab n (resF G x false)) : Cell1 × List Bool), (⟨u2, ho2⟩, tab n (resF G x true))]) (Star X (Star (ObjA b (tbO n uv)) (Star (ObjA r zO) Emp)))))) wa → Vw wa u1 bv (tab n (resF G x false)) ∧ Vw wa u2 bv (tab n (resF G x true)) := fun h =>
        ⟨h.drop.drop.vws (p := (⟨u1, ho1⟩, tab n (resF G x false))) (by simp), h.drop.drop.vws (p := (⟨u2, ho2⟩, tab n (resF G x true))) (by simp)⟩
      have fin : ∀ {u3 u4 : Value} {H : (Nat → Bool) → Bool} {wa : World} {KW : Kont World}, At w [] (Star (OwnA u4 4 1 bv (tab n H)) (Star (ObjA p10 (tbO n u2)) (Star (ObjA p9 (tbO n u1)) (Star (VwsA bv [((⟨u1, ho1⟩, tab n (resF G x false)) : Cell1 × List Bool), (⟨u2, ho2⟩, tab n (resF G x true))]) (Star X (Star (ObjA b (tbO n uv)) (Star (ObjA r zO) Emp))))))) wa →
          (∀ wb, QtI w n b r fv F H wb → KW.run wb) → @stJ wa ⟨b, 0, none⟩ [.int .i64 (n : Nat), u4] KW := by
        intro u3 u4 H wa KW h9 hk
        have ha : At w [] (Star (OwnA u4 4 1 bv (tab n H)) (Star (ObjA b (tbO n uv)) (Star (ObjA r zO) Emp))) wa := h9.by (Imp.un (Imp.dr.trans (Imp.dr.trans (Imp.dr.trans Imp.dr))))
        have hb := ha.rot
        unfold tbO at hb
        refine hb.st (.star .own (.star .obj .emp)) (by simp) (by simp [h9.own.o1]) fun wb h10 => hk wb ⟨u4, _, .inr rfl, ?_⟩
        have h11 : At w [] (Star (ObjA b (tbO n u4)) (Star (OwnA u4 4 1 bv (tab n H)) (Star (ObjA r zO) Emp))) wb := by simpa [tbO] using h10
        exact h11.rot.own_vw
      have h8d := h8.drew hLA
      simp [g2, g3, g6, g11, hc, hlim, e9, e10]
      cases all with
      | true =>
        simp [r10 h8, r9 h8, rN h8, g3, e9, e10]
        refine ⟨?_, ?_, ?_, ?_⟩ <;>
        · refine cl_of (rConst_spec n false _ hn) ?_
          rintro _ w8 ⟨u3, rfl, hT⟩
          have h9 := h8d.kp0 hLA hT.kp
          simp [r10 h9, r9 h9, rN h9, g3, e9, e10]
          refine cl_of (rIte_spec n u1 u2 u3 _ _ _ _ hn (hV1 h9).1 (hV1 h9).2 hT.own.vw) ?_
          rintro _ w9 ⟨u4, rfl, hT4⟩
          simp [tbV, hT4.own.c1, g3]
          refine fin (u3 := u3) (At.tb hLA h9 hT4) fun wb hq => ?_
          simp [g2, g3, g6, g11, hc, hlim, e9, e10]
          have e : tab n (iteF (resF G x false) (resF G x true) (fun _ => false)) = tab n (fun a => opB 0 (resF G x false a) (resF G x true a)) := tab_congr fun a => by
            unfold iteF opB; cases resF G x false a <;> simp
          unfold QtI QtX at hq ⊢
          rw [e] at hq
          exact hq
      | false =>
        simp [r10 h8, r9 h8, rN h8, g3, e9, e10]
        refine ⟨?_, ?_, ?_, ?_⟩ <;>
        · refine cl_of (rConst_spec n true _ hn) ?_
          rintro _ w8 ⟨u3, rfl, hT⟩
          have h9 := h8d.kp0 hLA hT.kp
          simp [r10 h9, r9 h9, rN h9, g3, e9, e10]
          refine cl_of (rIte_spec n u1 u3 u2 _ _ _ _ hn (hV1 h9).1 hT.own.vw (hV1 h9).2) ?_
          rintro _ w9 ⟨u4, rfl, hT4⟩
          simp [tbV, hT4.own.c1, g3]
          refine fin (u3 := u3) (At.tb hLA h9 hT4) fun wb hq => ?_
          simp [g2, g3, g6, g11, hc, hlim, e9, e10]
          have e : tab n (iteF (resF G x false) (fun _ => true) (resF G x true)) = tab n (fun a => opB 1 (resF G x false a) (resF G x true a)) := tab_congr fun a => by
            unfold iteF opB; cases resF G x false a <;> simp
          unfold QtI QtX at hq ⊢
          rw [e] at hq
          exact hq
  · rintro ρ w4 ⟨g2, g3, g6, g11, uv, X, hQ, h4⟩
    have hU := (hQ.vw hF h4).1
    have ob := rd_tb h4.drop.obj
    simp [g3, g6, ob]
    have h5 := h4.rot3
    unfold zO at h5
    refine h5.st (.star hQ.lcl (.star .obj .emp)) (by simp) (by simp [hU.o1]) fun w5 h6 => ?_
    simp at h6
    simp
    refine postL_c1 (g := r) (n := 2) ag_51 (by simp [g6]) h6.obj rfl rfl ?_
    rw [List.take_length] at hQ
    obtain ⟨e1, e2⟩ := hQ.vw hF h6.rot
    exact ⟨_, rfl, uv, rfl, h6.kp, e1, by rw [hb]; exact e2⟩
end Go.Proofs.YtkojilpjpdpmaaaR
end
section
set_option maxRecDepth 100000
set_option linter.unusedSimpArgs false
set_option linter.unusedVariables false
namespace Go.Proofs.YtkojilpjpdpmaaaR
open Go Go.W Go.Bd Go.Maps
/-! ### Renamed tables -/
def rb (n a : Nat) (xs L : List Int) : Nat := L.foldl (fun b v => withT n b v.toNat (asg n a (tgt xs v).toNat)) 0
theorem rb_snoc (n a : Nat) (xs L : List Int) (v : Int) : rb n a xs (L ++ [v]) = withT n (rb n a xs L) v.toNat (asg n a (tgt xs v).toNat) := by simp [rb, List.foldl_append]
theorem rb_lt {n a : Nat} {xs : List Int} : ∀ {L : List Int}, (∀ v ∈ L, 0 ≤ v ∧ v < n) → rb n a xs L < 2 ^ n := by
  intro L hL
  have key : ∀ k, k ≤ L.length → rb n a xs (L.take k) < 2 ^ n := by
    intro k
    induction k with
    | zero => intro _; simpa [rb] using Nat.two_pow_pos n
    | succ k ih =>
      intro hk
      have h1 := hL L[k] (List.getElem_mem _)
      rw [List.take_add_one, List.getElem?_eq_getElem (by omega)]
      show rb n a xs (L.take k ++ [L[k]]) < _
      rw [rb_snoc]
      exact withT_lt (by omega) (ih (by omega))
  have := key L.length (Nat.le_refl _)
  rwa [List.take_length] at this
theorem asg_zero (n i : Nat) : asg n 0 i = false := by simp [asg]
theorem rb_asg {n a : Nat} {xs : List Int} {L : List Int} (hL : ∀ v ∈ L, 0 ≤ v ∧ v < n) (i : Nat) : asg n (rb n a xs L) i = (decide ((i : Int) ∈ L) && asg n a (tgt xs i).toNat) := by
  have key : ∀ k, k ≤ L.length → asg n (rb n a xs (L.take k)) i = (decide ((i : Int) ∈ L.take k) && asg n a (tgt xs i).toNat) := by
    intro k
    induction k with
    | zero => intro _; simp [rb, asg_zero]
    | succ k ih =>
      intro hk
      have h1 := hL L[k] (List.getElem_mem _)
      have e : L.take (k + 1) = L.take k ++ [L[k]] := by rw [List.take_add_one, List.getElem?_eq_getElem (by omega)]; rfl
      rw [e, rb_snoc, asg_with (by omega)]
      by_cases h2 : i = (L[k]).toNat
      · have h3 : (i : Int) = L[k] := by omega
        rw [← h2, upd_same, ← h3]
        simp
      · have h3 : ¬ (i : Int) = L[k] := by omega
        have h4 : ((i : Int) ∈ L.take k ++ [L[k]]) = ((i : Int) ∈ L.take k) := propext ⟨fun h => (List.mem_append.1 h).resolve_right (fun h => h3 (List.mem_singleton.1 h)), fun h => List.mem_append.2 (.inl h)⟩
        rw [upd_ne h2, ih (by omega)]
        simp only [h4]
  have := key L.length (Nat.le_refl _)
  rwa [List.take_length] at this
/-- The function with its variables renamed. -/
def renF (xs L : List Int) (F : (Nat → Bool) → Bool) : (Nat → Bool) → Bool := fun a => F fun i => decide ((i : Int) ∈ L) && a (tgt xs i).toNat
theorem supT_mem {n k : Nat} {F : (Nat → Bool) → Bool} {v : Int} : v ∈ supT n k F ↔ ∃ i : Nat, v = i ∧ i < k ∧ depB n F i = true := by
  unfold supT
  simp only [List.mem_map, List.mem_filter, List.mem_range]
  constructor
  · rintro ⟨i, ⟨h1, h2⟩, rfl⟩; exact ⟨i, rfl, h1, h2⟩
  · rintro ⟨i, rfl, h1, h2⟩; exact ⟨i, ⟨h1, h2⟩, rfl⟩
set_option maxHeartbeats 1000000 in
theorem rRename_spec (n : Nat) (fv tov : Value) (F : (Nat → Bool) → Bool) (xs : List Int) (w : World) (hn : n ≤ 6) (hF : Vw w fv bv (tab n F)) (hV : Vw w tov iv xs) (hx : ∀ v ∈ supT n n F, v.toNat < xs.length ∧ 0 ≤ tgt xs v ∧ tgt xs v < n) :
    Calls Try.prog 31 [tbV n fv, tov].toArray w fun e w' => ∃ x', e = .returned x' ∧ ∃ u, x' = tbV n u ∧ Tb w w' u (tab n (renF xs (supT n n F) F)) := by
  refine enter Try.func31 mixed low31 (Nat.le_of_ble_eq_true rfl) ?_
  simp only [L31]
  have hp := two_mono hn
  have h0 : At w [] Emp w := At.start rfl
  have h01 : At w [] (Star (ObjA w.heap.size (tbO n fv)) Emp) _ := h0.alloc (tbO n fv) Lcl.emp
  have h1 : At w [] (Star (ObjA (w.alloc (tbO n fv)).heap.size zO) (Star (ObjA w.heap.size (tbO n fv)) Emp)) _ := h01.alloc zO (Lcl.obj.star Lcl.emp)
  rw [show (w.alloc (tbO n fv)).heap.size = w.heap.size + 1 by simp] at h1
  obtain ⟨b, hb⟩ : ∃ b, b = w.heap.size := ⟨_, rfl⟩
  obtain ⟨r, hr⟩ : ∃ r, r = b + 1 := ⟨_, rfl⟩
  rw [← hb, ← hr] at h1
  have rd0 := rd_tb0 h1.drop.obj
  unfold zO tbO at rd0
  simp [← hb, ← hr, tbV, rd0]
  refine cl_of (rConst_spec n false _ hn) ?_
  rintro _ w2 ⟨u, rfl, hT⟩
  have hL1 : Lcl (Star (ObjA r zO) (Star (ObjA b (tbO n fv)) Emp)) := .star .obj (.star .obj .emp)
  have h2 := At.tb hL1 h1 hT
  simp [tbV, hT.own.c1]
  -- the table, and the support
  have h2a := h2.alloc zO (.star .own hL1)
  have h2b := h2a
  unfold zO at h2b
  refine h2b.st (.star .own (.star .obj (.star .obj .emp))) (by simp) (by simp [hT.own.o1]) fun w3 h3 => ?_
  obtain ⟨t, ht⟩ : ∃ t, t = w2.heap.size := ⟨_, rfl⟩
  rw [← ht] at h3
  have h3 : At w [] (Star (ObjA t (tbO n u)) (Star (OwnA u 4 1 bv (tab n (fun _ => false))) (Star (ObjA r zO) (Star (ObjA b (tbO n fv)) Emp)))) w3 := by simpa [tbO, zO] using h3
  have rd3 := rd_tb h3.drop.drop.drop.obj
  simp [rd3]
  refine cl_of (rSupport_spec n fv F _ hn (hF.kp0 h3.kp)) ?_
  rintro sv w4 hN
  have h4 := At.nw (.star .obj (.star .own hL1)) h3 hN
  obtain ⟨L, hL⟩ : ∃ L, L = supT n n F := ⟨_, rfl⟩
  rw [← hL] at h4 hx ⊢
  have hLn : ∀ v ∈ L, 0 ≤ v ∧ v < n := fun v hv => by
    rw [hL] at hv
    obtain ⟨i, rfl, hi, _⟩ := supT_mem.1 hv
    omega
  have hLl : L.length ≤ n := by rw [hL]; exact supT_len n n F
  obtain ⟨X, hXe⟩ : ∃ X, X = Star (OwnA sv 3 1 iv L) (Star (ObjA b (tbO n fv)) Emp) := ⟨_, rfl⟩
  have hX : Lcl X := by rw [hXe]; exact .star .own (.star .obj .emp)
  have h5 : FillI w n t r u (fun a => renF xs L F (asg n a)) (2 ^ n) X 0 w4 := ⟨_, UpT.start' _ _ (tab_len n (fun _ => false)), by
    rw [hXe]
    exact h4.by (Imp.l3.trans (Imp.sw.trans (Imp.un (Imp.un Imp.sw))))⟩
  have rsv : ∀ {wa}, At w [] X wa → Vw wa sv iv L := fun h => by rw [hXe] at h; exact h.own.vw
  have rfb : ∀ {wa}, At w [] X wa → wa.heap[b]? = some (tbO n fv) := fun h => by rw [hXe] at h; exact h.drop.obj
  obtain ⟨l, hol, hll⟩ := h5.own
  simp [← ht, cell_blk h5.obj, hol.len, hll]
  refine range_loop (n := 2 ^ n) (by omega) (fun k ρ w' => ρ 1 = tov ∧ ρ 2 = .pointer (some ⟨b, 0, none⟩) ∧ ρ 4 = .pointer (some ⟨r, 0, none⟩) ∧ ρ 5 = .pointer (some ⟨t, 0, none⟩) ∧ ρ 6 = sv ∧ FillI w n t r u (fun a => renF xs L F (asg n a)) (2 ^ n) X k w') (by simp) (by simp)
    ⟨by simp, by simp, by simp, by simp, by simp, h5⟩ (by decide) (fun _ _ _ _ h => by simpa using h) (fun _ _ _ _ h => by simpa using h) ?_ ?_
  · rintro k ρ w5 hk hc hlim ⟨g1, g2, g4, g5, g6, h6⟩
    have hs := rsv h6.rest
    simp [g1, g2, g4, g5, g6, hc, hlim, hs.len]
    refine range_loop (n := L.length) (by omega) (fun j ρ w' => ρ 1 = tov ∧ ρ 2 = .pointer (some ⟨b, 0, none⟩) ∧ ρ 4 = .pointer (some ⟨r, 0, none⟩) ∧ ρ 5 = .pointer (some ⟨t, 0, none⟩) ∧ ρ 6 = sv ∧ ρ 19 = .int .i64 (k : Nat) ∧ ρ 18 = .int .i64 ((2 ^ n : Nat) : Int) ∧ ρ 7 = .int .i64 (k : Nat) ∧ ρ 8 = .int .i64 (rb n k xs (L.take j) : Nat) ∧ ρ 22 = sv ∧ FillI w n t r u (fun a => renF xs L F (asg n a)) (2 ^ n) X k w') (by simp) (by simp)
      ⟨by simp [g1], by simp [g2], by simp [g4], by simp [g5], by simp [g6], by simp [hc], by simpa using hlim, by simp, by simp [rb], by simp, h6⟩ (by decide) (fun _ _ _ _ h => by simpa using h) (fun _ _ _ _ h => by simpa using h) ?_ ?_
    · rintro j ρ w6 hj hcj hlimj ⟨g1, g2, g4, g5, g6, g19, g18, g7, g8, g22, h7⟩
      have hs := rsv h7.rest
      have hob := rfb h7.rest
      have rN := rd_tb0 hob
      have hto := hV.kp0 h7.kp
      obtain ⟨v, hv⟩ : ∃ v, L[j]? = some v := ⟨_, List.getElem?_eq_getElem hj⟩
      have hvL := List.mem_of_getElem? hv
      obtain ⟨v0, v1⟩ := hLn v hvL
      obtain ⟨x0, x1, x2⟩ := hx v hvL
      have ex : xs[v.toNat]? = some (tgt xs v) := by simp [tgt, List.getD, List.getElem?_eq_getElem x0]
      have hbl := rb_lt (a := k) (xs := xs) (L := L.take j) (n := n) (fun v hv => hLn v (List.mem_of_mem_take hv))
      have esn : rb n k xs (L.take (j + 1)) = withT n (rb n k xs (L.take j)) v.toNat (asg n k (tgt xs v).toNat) := by
        rw [List.take_add_one, hv]; exact rb_snoc _ _ _ _ _
      obtain ⟨vn, rfl⟩ : ∃ vn : Nat, v = (vn : Int) := ⟨v.toNat, by omega⟩
      obtain ⟨tn, htn⟩ : ∃ tn : Nat, tgt xs (vn : Int) = (tn : Int) := ⟨(tgt xs (vn : Int)).toNat, by omega⟩
      rw [htn] at esn ex x1 x2
      simp only [Int.toNat_natCast] at esn ex x0
      have h7d := h7.kp0 hX (Kp.refl [] w6).drew
      rw [esn]
      simp (disch := omega) [g1, g2, g4, g5, g6, g7, g8, g18, g19, g22, hcj, hlimj, hs.idx, iv_cell hs hv, hto.idx, iv_cell hto ex, rN]
      refine ⟨?_, ?_⟩ <;>
      · refine cl_of (rBit_spec n k tn _ (by omega) (by omega)) ?_
        rintro _ w7 ⟨rfl, k7⟩
        have h8 := h7d.kp0 hX k7
        have rN8 := rd_tb0 (rfb h8.rest)
        simp [rN8, g2, g8]
        refine cl_of (rWith_spec n (rb n k xs (L.take j)) vn _ _ (by omega) (by omega) hbl) ?_
        rintro _ w8 ⟨rfl, k8⟩
        simp [g1, g2, g4, g5, g6, g7, g18, g19, g22, hcj, hlimj]
        exact h8.kp0 hX k8
    · rintro ρ w6 ⟨g1, g2, g4, g5, g6, g19, g18, g7, g8, g22, h7⟩
      rw [List.take_length] at g8
      have hbl := rb_lt (a := k) (xs := xs) (L := L) (n := n) hLn
      have hob := rfb h7.rest
      have hFw := hF.kp0 h7.kp
      obtain ⟨l, hol, hll⟩ := h7.own
      have h7d := h7.kp0 hX (Kp.refl [] w6).drew
      unfold tbO at hob
      simp (disch := omega) [g2, g5, g7, g8, cell_blk h7.obj, cell_blk hob, hol.idx, tb_idx hFw hbl, bv_at hFw hbl]
      refine h7d.store hX hk ?_ fun w7 h8 => ?_
      · unfold renF
        congr 1
        funext i
        exact rb_asg hLn i
      · simp [g1, g2, g4, g5, g6, g18, g19]
        exact h8
  · rintro ρ w5 ⟨g1, g2, g4, g5, g6, h6⟩
    have ho := h6.obj
    have hc2 : cellsAt w5 ⟨t, 0, none⟩ 0 2 = some [.int .i64 (n : Nat), u] := by
      simp [cellsAt, Addr.add, cell_blk ho]
    simp [g4, g5, hc2]
    refine h6.done (F := renF xs L F) hX fun w6 ho6 hT6 => ?_
    simp
    refine postL_c1 (g := r) (n := 2) ag_51 (by simp [g4]) ho6 rfl rfl ?_
    exact ⟨_, rfl, u, rfl, hT6⟩
end Go.Proofs.YtkojilpjpdpmaaaR
end
section
set_option maxRecDepth 100000
set_option linter.unusedSimpArgs false
set_option linter.unusedVariables false
namespace Go.Proofs.YtkojilpjpdpmaaaR
open Go Go.W Go.Bd Go.Maps
/-! ### What the statements use -/
/-- The variables of a set of bits. -/
def chN (n v : Nat) : List Nat := (List.range n).filter fun i => decide (v / 2 ^ i % 2 = 1)
def chI (n v : Nat) : List Int := (chN n v).map fun i : Nat => (i : Int)
theorem chN_lt {n v : Nat} : ∀ x ∈ chN n v, x < n := fun x hx => by
  unfold chN at hx
  rw [List.mem_filter, List.mem_range] at hx
  exact hx.1
theorem chN_len (n v : Nat) : (chN n v).length ≤ n := by
  have := List.length_filter_le (fun i => decide (v / 2 ^ i % 2 = 1)) (List.range n)
  simpa [chN] using this
theorem chN_succ (n v : Nat) : chN (n + 1) v = if v / 2 ^ n % 2 = 1 then chN n v ++ [n] else chN n v := by
  unfold chN
  rw [List.range_succ, List.filter_append]
  by_cases h : v / 2 ^ n % 2 = 1 <;> simp [h]
theorem u8_bits {v i : Nat} (hi : i ≤ 8) : ((v : Int).fdiv (2 ^ min i 8)).tmod 2 = ((v / 2 ^ i % 2 : Nat) : Int) := by
  rw [Nat.min_eq_left hi]; exact fdiv_pow v i
theorem bit_eq (k : Nat) : (((k % 2 : Nat) : Int) == 1) = decide (k % 2 = 1) := by
  rcases Nat.mod_two_eq_zero_or_one k with h | h <;> simp [h]
theorem bit_i (v k : Nat) : (((v : Int) / 2 ^ k % 2) == 1) = decide (v / 2 ^ k % 2 = 1) := by
  have e : (v : Int) / 2 ^ k % 2 = ((v / 2 ^ k % 2 : Nat) : Int) := by simp
  rw [e, bit_eq]
theorem chosen_spec (n v : Nat) (w : World) (hn : n ≤ 6) : Calls Try.prog 61 [.int .i64 (n : Nat), .int .u8 (v : Nat)].toArray w fun e w' => ∃ u, e = .returned u ∧ Nw w w' u 3 1 iv (chI n v) := by
  refine enter Try.func61 mixed low61 (Nat.le_of_ble_eq_true rfl) ?_
  simp only [L61]
  have h0 : At w [] Emp w := At.start rfl
  have h1 := At.nil (E := 3) (sz := 1) (enc := iv) .emp h0
  have hb : IntKind.u8.bits = 8 := rfl
  simp
  refine range_loop (n := n) (by omega) (fun k ρ w' => ρ 1 = .int .u8 (v : Nat) ∧ At w [] (Star (OwnA (ρ 5) 3 1 iv (chI k v)) Emp) w') (by simp) (by simp)
    ⟨by simp, by simpa [chI, chN] using h1⟩ (by decide) (fun _ _ _ _ h => by simpa using h) (fun _ _ _ _ h => by simpa using h) ?_ ?_
  · rintro k ρ w4 hk hc hlim ⟨g1, h4⟩
    have hlen : (chI k v).length ≤ k := by unfold chI; rw [List.length_map]; exact chN_len k v
    have hs := chN_succ k v
    simp [g1, hc, hlim, hb, u8_bits (v := v) (show k ≤ 8 by omega), bit_eq, bit_i]
    by_cases hd : v / 2 ^ k % 2 = 1
    · rw [if_pos hd] at hs
      have e : chI (k + 1) v = chI k v ++ [(k : Int)] := by unfold chI; rw [hs]; simp
      have h6 := h4.kp0 (.star .own .emp) ((Kp.refl [] w4).alloc (.cells #[.int .i64 (k : Nat)] 3))
      simp [hd, rowOf]
      refine At.append (xs := [(k : Int)]) .emp h6 iv_len iv_one sl_30 rfl (fun j u hj => ?_) (by omega) (by unfold maxLen; omega) fun v' w7 h7 => ?_
      · rw [add_none, cell_blk alloc_new]
        simpa [iv] using hj
      rw [← e] at h7
      simp [hc, hlim, g1]
      exact h7
    · rw [if_neg hd] at hs
      have e : chI (k + 1) v = chI k v := by unfold chI; rw [hs]
      rw [e]
      simp [hd, hc, hlim, g1]
      exact h4
  · rintro ρ w4 ⟨g1, h4⟩
    simp
    exact Nw.of h4
/-- An assignment as a list. -/
def bitL (n a : Nat) : List Bool := (List.range n).map (asg n a)
theorem bits_spec (n a : Nat) (w : World) (hn : n ≤ 6) : Calls Try.prog 38 [.int .i64 (n : Nat), .int .i64 (a : Nat)].toArray w fun e w' => ∃ u, e = .returned u ∧ Nw w w' u 4 1 bv (bitL n a) := by
  refine enter Try.func38 mixed low38 (Nat.le_of_ble_eq_true rfl) ?_
  simp only [L38]
  have h0 : At w [] Emp w := At.start rfl
  have h1 := At.nil (E := 4) (sz := 1) (enc := bv) .emp h0
  simp
  refine range_loop (n := n) (by omega) (fun k ρ w' => ρ 0 = .int .i64 (n : Nat) ∧ ρ 1 = .int .i64 (a : Nat) ∧ At w [] (Star (OwnA (ρ 5) 4 1 bv ((List.range k).map (asg n a))) Emp) w') (by simp) (by simp)
    ⟨by simp, by simp, by simpa using h1⟩ (by decide) (fun _ _ _ _ h => by simpa using h) (fun _ _ _ _ h => by simpa using h) ?_ ?_
  · rintro k ρ w4 hk hc hlim ⟨g0, g1, h4⟩
    have e : (List.range (k + 1)).map (asg n a) = (List.range k).map (asg n a) ++ [asg n a k] := by rw [List.range_succ, List.map_append]; rfl
    simp [g0, g1, hc, hlim]
    refine cl_of (rBit_spec n a k _ hk (by omega)) ?_
    rintro _ w5 ⟨rfl, k5⟩
    have h6 := (h4.kp0 (.star .own .emp) k5).kp0 (.star .own .emp) ((Kp.refl [] w5).alloc (.cells #[.bool (asg n a k)] 4))
    simp [rowOf]
    refine At.append (xs := [asg n a k]) .emp h6 bv_len bv_one sl_33 rfl (fun j u hj => ?_) (by simp; omega) (by simp; unfold maxLen; omega) fun v' w7 h7 => ?_
    · rw [add_none, cell_blk alloc_new]
      simpa [bv] using hj
    rw [← e] at h7
    simp [hc, hlim, g0, g1]
    exact h7
  · rintro ρ w4 ⟨g0, g1, h4⟩
    simp
    exact Nw.of h4
theorem inB_bitL {n a i : Nat} : inB (bitL n a) i = asg n a i := by
  unfold inB bitL
  rcases Nat.lt_or_ge i n with h | h
  · simp [List.getD, List.getElem?_eq_getElem, h]
  · rw [asg_ge h]
    simp [List.getD, h]
/-- A pair of a reference and its table. -/
structure Pr where
  ref : Nat
  u : Cell1
  f : (Nat → Bool) → Bool
def prV (n x : Nat) (u : Value) : Value := .agg #[.int .i64 (x : Nat), .int .i64 (n : Nat), u]
def prE (n : Nat) (p : Pr) : List Value := [.int .i64 (p.ref : Nat), .int .i64 (n : Nat), p.u.1]
theorem prE_len (n : Nat) (p : Pr) : (prE n p).length = 3 := rfl
theorem prE_one (n : Nat) (p : Pr) : (prE n p).all oneC = true := by simp [prE, p.u.2]
def prO (n x : Nat) (u : Value) : Obj := .cells #[.int .i64 (x : Nat), .int .i64 (n : Nat), u] 53 (0, 0)
theorem means_spec {m n lim x : Nat} {ns : Ns} {uv : Value} {F : (Nat → Bool) → Bool} (w : World) (h : MgrF w m n lim ns) (hb : Bnd n lim ns) (hw : Wf n ns) (hn : n ≤ 6) (hm : Mean n ns x F) (hF : Vw w uv bv (tab n F)) :
    Calls Try.prog 30 [.pointer (some ⟨m, 0, none⟩), prV n x uv].toArray w fun e w' => ∃ v, e = .returned v ∧ v = .bool true ∧ Kp [] w w' := by
  refine enter Try.func30 mixed low30 (Nat.le_of_ble_eq_true rfl) ?_
  simp only [L30]
  have hp := two_mono hn
  have h0 : At w [] Emp w := At.start rfl
  have h1 : At w [] (Star (ObjA w.heap.size (prO n x uv)) Emp) _ := h0.alloc (prO n x uv) Lcl.emp
  obtain ⟨b, hbb⟩ : ∃ b, b = w.heap.size := ⟨_, rfl⟩
  rw [← hbb] at h1
  have ob := h1.obj
  have hF1 := hF.kp0 h1.kp
  unfold prO at ob hF1
  simp [← hbb, prV]
  simp [cell_blk ob, hF1.len, tab_len]
  refine range_loop (n := 2 ^ n) (by omega) (fun k ρ w' => ρ 0 = .pointer (some ⟨m, 0, none⟩) ∧ ρ 3 = .pointer (some ⟨b, 0, none⟩) ∧ At w [] (Star (ObjA b (prO n x uv)) Emp) w') (by simp) (by simp)
    ⟨by simp, by simp, h1⟩ (by decide) (fun _ _ _ _ h => by simpa using h) (fun _ _ _ _ h => by simpa using h) ?_ ?_
  · rintro k ρ w4 hk hc hlim ⟨g0, g3, h4⟩
    have h4d := h4.drew (.star .obj .emp)
    have ob := h4.obj
    unfold prO at ob
    simp [g0, g3, hc, hlim, cell_blk ob]
    refine ⟨?_, ?_⟩ <;>
    · refine cl_of (bits_spec n k _ hn) ?_
      rintro u w5 hN
      have h5 := h4d.kp0 (.star .obj .emp) hN.kp
      have ob := h5.obj
      unfold prO at ob
      simp [g0, g3, cell_blk ob]
      refine cl_of (eval_spec x u (bitL n k) (h.kp0 h5.kp) hb hw hm.ref hN.own.vw (by simp [bitL]; omega)) ?_
      rintro _ w6 ⟨rfl, k6⟩
      have h6 := h5.kp0 (.star .obj .emp) k6
      have ob := h6.obj
      unfold prO at ob
      have hF6 := hF.kp0 h6.kp
      have he : eval ns (inB (bitL n k)) x = F (asg n k) := by
        have e : inB (bitL n k) = asg n k := funext fun i => inB_bitL
        rw [e, hm.ev]
      simp (disch := omega) [g0, g3, hc, hlim, cell_blk ob, he, tb_idx hF6 hk, bv_at hF6 hk]
      exact h6
  · rintro ρ w4 ⟨g0, g3, h4⟩
    simp
    exact h4.kp
end Go.Proofs.YtkojilpjpdpmaaaR
end
section
set_option maxRecDepth 100000
set_option linter.unusedSimpArgs false
set_option linter.unusedVariables false
namespace Go.Proofs.YtkojilpjpdpmaaaR
open Go Go.W Go.Bd Go.Maps
/-! ### Shifts -/
structure ShI (n : Nat) (L : List Int) (q : Nat) (xs : List Int) (nx : Int) : Prop where
  len : xs.length = n
  le : nx ≤ n
  low : ∀ a, 0 < q → L[q - 1]? = some a → a < nx
  rng : ∀ j a, q ≤ j → L[j]? = some a → 0 ≤ tgt xs a ∧ tgt xs a < n
  asc : ∀ j a b, q ≤ j → L[j]? = some a → L[j + 1]? = some b → tgt xs a < tgt xs b
  top : ∀ a, L[q]? = some a → nx = tgt xs a
theorem tgt_set {xs : List Int} {s b val : Int} (hs : 0 ≤ s) (hl : s.toNat < xs.length) (hb : 0 ≤ b) : tgt (xs.set s.toNat val) b = if b = s then val else tgt xs b := by
  unfold tgt
  simp only [List.getD_eq_getElem?_getD, List.getElem?_set]
  by_cases h : b = s
  · subst h; rw [if_pos rfl, if_pos rfl, if_pos hl]; rfl
  · rw [if_neg h, if_neg (by omega)]
theorem ShI.step {n i : Nat} {L xs : List Int} {nx s val : Int} (hL : L.Pairwise (· < ·)) (hLn : ∀ v ∈ L, 0 ≤ v ∧ v < n) (h : ShI n L (i + 1) xs nx) (hs : L[i]? = some s) (h1 : s ≤ val) (h2 : val < nx) : ShI n L i (xs.set s.toNat val) val := by
  obtain ⟨e1, e2, e3, e4, e5, e6⟩ := h
  have hsm := hLn s (List.mem_of_getElem? hs)
  have lt : ∀ {j : Nat} {a : Int}, i < j → L[j]? = some a → s < a := fun {j a} hij ha => by
    obtain ⟨hi, hv⟩ := List.getElem?_eq_some_iff.1 hs
    obtain ⟨hj, hw⟩ := List.getElem?_eq_some_iff.1 ha
    have := List.pairwise_iff_getElem.1 hL i j hi hj hij
    rwa [hv, hw] at this
  have tg : ∀ b, 0 ≤ b → tgt (xs.set s.toNat val) b = if b = s then val else tgt xs b := fun b hb => tgt_set hsm.1 (by omega) hb
  have nn : ∀ {j : Nat} {a : Int}, L[j]? = some a → 0 ≤ a := fun ha => (hLn _ (List.mem_of_getElem? ha)).1
  refine ⟨by simpa using e1, by omega, fun a hi ha => ?_, fun j a hj ha => ?_, fun j a b hj ha hb => ?_, fun a ha => ?_⟩
  · obtain ⟨hi', hv⟩ := List.getElem?_eq_some_iff.1 ha
    obtain ⟨hj, hw⟩ := List.getElem?_eq_some_iff.1 hs
    have := List.pairwise_iff_getElem.1 hL (i - 1) i hi' hj (by omega)
    rw [hv, hw] at this
    omega
  · rw [tg a (nn ha)]
    by_cases hji : j = i
    · subst hji
      rw [hs] at ha
      rw [if_pos (Option.some.inj ha).symm]; omega
    · have := lt (show i < j by omega) ha
      rw [if_neg (by omega)]
      exact e4 j a (by omega) ha
  · rw [tg a (nn ha), tg b (nn hb)]
    have hbs := lt (show i < j + 1 by omega) hb
    rw [if_neg (show ¬ b = s by omega)]
    by_cases hji : j = i
    · subst hji
      rw [hs] at ha
      rw [if_pos (Option.some.inj ha).symm]
      have := e6 b hb
      omega
    · have := lt (show i < j by omega) ha
      rw [if_neg (by omega)]
      exact e5 j a b (by omega) ha hb
  · rw [hs] at ha
    have := Option.some.inj ha
    subst this
    rw [tg s hsm.1, if_pos rfl]
theorem ShI.done {n : Nat} {L xs : List Int} {nx : Int} (h : ShI n L 0 xs nx) : ¬ RenBad1 n xs L ∧ ¬ RenBad2 xs L := by
  obtain ⟨e1, e2, e3, e4, e5, e6⟩ := h
  refine ⟨?_, ?_⟩
  · rintro (h | ⟨v, hv, h⟩)
    · exact h e1
    · obtain ⟨j, hj⟩ := List.getElem?_of_mem hv
      have := e4 j v (Nat.zero_le _) hj
      omega
  · rintro ⟨i, a, b, ha, hb, h⟩
    have := e5 i a b (Nat.zero_le _) ha hb
    omega
theorem supT_asc (n k : Nat) (F : (Nat → Bool) → Bool) : (supT n k F).Pairwise (· < ·) := by
  unfold supT
  rw [List.pairwise_map]
  have : (List.range k).Pairwise (· < ·) := List.pairwise_lt_range
  exact (this.filter _).imp fun h => by omega
theorem supT_lt {n : Nat} {F : (Nat → Bool) → Bool} : ∀ v ∈ supT n n F, 0 ≤ v ∧ v < n := fun v hv => by
  obtain ⟨i, rfl, hi, _⟩ := supT_mem.1 hv
  omega
def ShV (w : World) (n V : Nat) (L : List Int) (tv sv : Value) (q : Nat) (ρ : Env) (w' : World) : Prop :=
  ∃ xs nx, ρ 1 = .int .u8 (V : Nat) ∧ ρ 5 = tv ∧ ρ 6 = .int .i64 nx ∧ ρ 7 = sv ∧ ρ 8 = .int .i64 ((q : Int) - 1) ∧ q ≤ L.length ∧ ShI n L q xs nx ∧ At w [] (Star (OwnA tv 3 1 iv xs) (Star (OwnA sv 3 1 iv L) Emp)) w'
set_option maxHeartbeats 1000000 in
theorem shift_spec (n V : Nat) (fv : Value) (F : (Nat → Bool) → Bool) (w : World) (hn : n ≤ 6) (hF : Vw w fv bv (tab n F)) : Calls Try.prog 65 [tbV n fv, .int .u8 (V : Nat)].toArray w fun e w' => ∃ u, e = .returned u ∧ ∃ xs, (¬ RenBad1 n xs (supT n n F) ∧ ¬ RenBad2 xs (supT n n F)) ∧ Nw w w' u 3 1 iv xs := by
  refine enter Try.func65 mixed low65 (Nat.le_of_ble_eq_true rfl) ?_
  simp only [L65]
  have h0 : At w [] Emp w := At.start rfl
  have h1 : At w [] (Star (ObjA w.heap.size (tbO n fv)) Emp) _ := h0.alloc (tbO n fv) Lcl.emp
  obtain ⟨b, hb⟩ : ∃ b, b = w.heap.size := ⟨_, rfl⟩
  rw [← hb] at h1
  have rd := rd_tb h1.obj
  have rd0 := rd_tb0 h1.obj
  have h2 := h1.made (E := 3) (enc := iv) (x := 0) (z := [.int .i64 0]) (n := n) (.star .obj .emp) rfl iv_len (by unfold maxLen; omega)
  obtain ⟨to, hto⟩ : ∃ to, to = Value.slice (some ⟨(w.alloc (tbO n fv)).heap.size, 0, none⟩) n n := ⟨_, rfl⟩
  rw [← hto] at h2
  unfold tbO at rd rd0 hto
  simp [← hb, tbV, rd0]
  refine gd_mk (by omega) ?_
  have hs1 : Value.slice (some ⟨b + 1, 0, none⟩) n n = to := by rw [hto]; simp [hb]
  have rd2 := rd_tb (h2.drop.obj)
  have rd3 := rd_tb0 (h2.drop.obj)
  have kF := hF.kp0 h2.kp
  unfold tbO at rd2 rd3 kF
  simp [← hb, hs1, rd2, rd3]
  refine cl_of (rSupport_spec n fv F _ hn kF) ?_
  rintro sv w3 hN
  have h3 := At.nw (.star .own (.star .obj .emp)) h2 hN
  obtain ⟨L, hL⟩ : ∃ L, L = supT n n F := ⟨_, rfl⟩
  have hLa := supT_asc n n F
  have hLn := supT_lt (n := n) (F := F)
  have hLl := supT_len n n F
  rw [← hL] at h3 hLa hLn hLl ⊢
  simp (disch := omega) [h3.own.vw.len, wrap_i64]
  refine loop_inv (ShV w n V L to sv) L.length ⟨List.replicate n 0, (n : Int), by simp, by simp, by simp, by simp, by simp, Nat.le_refl _, ⟨by simp, Int.le_refl _, fun a _ ha => (hLn a (List.mem_of_getElem? ha)).2, fun j a hj ha => ?_, fun j a b hj ha _ => ?_, fun a ha => ?_⟩, h3.by (Imp.sw.trans (Imp.un (Imp.un Imp.dr)))⟩ ?_
  · have := (List.getElem?_eq_some_iff.1 ha).1; omega
  · have := (List.getElem?_eq_some_iff.1 ha).1; omega
  · have := (List.getElem?_eq_some_iff.1 ha).1; omega
  rintro q ρ w4 ⟨xs, nx, g1, g5, g6, g7, g8, hq, hI, h4⟩
  have hE : Lcl (Star (OwnA sv 3 1 iv L) Emp) := .star .own .emp
  by_cases hq0 : q = 0
  · subst hq0
    simp [g8, g5]
    exact ⟨xs, hI.done, Nw.of h4⟩
  · obtain ⟨i, rfl⟩ : ∃ i, q = i + 1 := ⟨q - 1, by omega⟩
    have e8 : ((i + 1 : Nat) : Int) - 1 = (i : Int) := by omega
    rw [e8] at g8
    obtain ⟨s, hs⟩ : ∃ s, L[i]? = some s := ⟨_, List.getElem?_eq_getElem (by omega)⟩
    obtain ⟨s0, s1⟩ := hLn s (List.mem_of_getElem? hs)
    obtain ⟨sn, rfl⟩ : ∃ sn : Nat, s = (sn : Int) := ⟨s.toNat, by omega⟩
    have hlow := hI.low _ (by omega) (by simpa using hs)
    have hle := hI.le
    have hvs := h4.drop.own.vw
    have hxl : sn < xs.length := by rw [hI.len]; omega
    have hb8 : IntKind.u8.bits = 8 := rfl
    have h4d := h4.drew (.star .own hE)
    simp (disch := omega) [g8, g5, g7, hvs.idx, iv_cell hvs hs, h4.own.idx]
    refine At.store1 (k := sn) (x := (sn : Int)) hE h4d iv_len iv_one hxl rfl fun w5 h5 => ?_
    have hvs5 := h5.drop.own.vw
    have l5 : (xs.set sn (sn : Int)).length = xs.length := by simp
    have l6 : (xs.set sn (nx - 1)).length = xs.length := by simp
    simp (disch := omega) [g1, g8, g5, g7, hvs5.idx, iv_cell hvs5 hs, h5.own.idx, hb8, fdiv_pow, bit_eq, bit_i]
    by_cases hd : V / 2 ^ sn % 2 = 1
    · simp (disch := omega) [hd, g1, g6, g8, g5, g7, hvs5.idx, iv_cell hvs5 hs, h5.own.idx, wrap_i64]
      refine At.store1 (k := sn) (x := nx - 1) hE h5 iv_len iv_one (by simpa using hxl) rfl fun w6 h6 => ?_
      have hst := hI.step hLa hLn hs (val := nx - 1) (by omega) (by omega)
      simp at h6 hst
      have hvs6 := h6.drop.own.vw
      have ex : (xs.set sn (nx - 1))[sn]? = some (nx - 1) := by simp [hxl]
      have c6 := h6.own.cell iv_len ex (o := 0) (by omega)
      simp [iv] at c6
      simp (disch := omega) [g1, g6, g8, g5, g7, hvs6.idx, iv_cell hvs6 hs, h6.own.idx, c6, wrap_i64]
      exact ⟨i, by omega, _, _, by simp [g1], by simp [g5], by simp, by simp [g7], by simp, by omega, hst, h6⟩
    · have hst := hI.step hLa hLn hs (val := (sn : Int)) (Int.le_refl _) (by omega)
      simp at hst
      have ex : (xs.set sn (sn : Int))[sn]? = some (sn : Int) := by simp [hxl]
      have c6 := h5.own.cell iv_len ex (o := 0) (by omega)
      simp [iv] at c6
      simp (disch := omega) [hd, g1, g6, g8, g5, g7, hvs5.idx, iv_cell hvs5 hs, h5.own.idx, c6, wrap_i64]
      exact ⟨i, by omega, _, _, by simp [g1], by simp [g5], by simp, by simp [g7], by simp, by omega, hst, h5⟩
end Go.Proofs.YtkojilpjpdpmaaaR
end
