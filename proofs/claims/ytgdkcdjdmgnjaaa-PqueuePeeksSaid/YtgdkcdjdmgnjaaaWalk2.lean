/-
  A part of the proofs of this seat's statements (Walk2); no conditions beyond those each theorem names.
-/
import Derived.Test.YtgdkcdjdmgnjaaaWalk1
import Derived.Test.YtgdkcdjdmgnjaaaLib7
set_option maxRecDepth 100000
set_option linter.unusedSimpArgs false
set_option linter.unusedVariables false
namespace Go.Proofs.Ytgdkcdjdmgnjaaa
open Go Go.W Go.Pq
/-- An error by its number: 0 is nil. -/
def errV (n : Int) : Value := if n = 0 then .nilIface else .iface 50 (.int .i64 n)
@[simp] theorem errV0 : errV 0 = .nilIface := rfl
theorem errVn {n : Int} (h : n ≠ 0) : errV n = .iface 50 (.int .i64 n) := by simp [errV, h]
theorem num_spec (n : Int) (w : World) : Calls Try.prog 24 [errV n].toArray w fun e w' => ∃ v, e = .returned v ∧ v = .int .i64 n ∧ Kp [] w w' := by
  refine enter Try.func24 mixed low24 (Nat.le_of_ble_eq_true rfl) ?_
  simp only [L24]
  by_cases h : n = 0
  · subst h
    simp
    exact Kp.refl _ _
  · simp [errVn h]
    exact Kp.refl _ _
theorem is_spec (n m : Int) (w : World) : Calls Try.prog 20 [errV n, .int .i64 m].toArray w fun e w' => ∃ v, e = .returned v ∧ v = .bool (n != 0 && n == m) ∧ Kp [] w w' := by
  refine enter Try.func20 mixed low20 (Nat.le_of_ble_eq_true rfl) ?_
  simp only [L20]
  by_cases h : n = 0
  · subst h
    simp
    exact Kp.refl _ _
  · have hn := num_spec n w
    simp only [errVn h] at hn ⊢
    simp
    refine cl_of hn ?_
    rintro v w' ⟨rfl, hk⟩
    simp [h]
    exact hk
theorem peek_none (q : Option (Nat × Value × Int)) (w : World) (hq : ∀ x, q = some x → QA w x.1 x.2.1 [] x.2.2) :
    Calls Try.prog 16 [.pointer (q.map fun x => ⟨x.1, 0, none⟩)].toArray w fun e w' => ∃ v, e = .returned v ∧ v = .tuple #[.int .i64 0, .int .i64 0, .int .i64 0, errV 3] ∧ Kp [] w w' := by
  refine enter Try.func16 mixed low16 (Nat.le_of_ble_eq_true rfl) ?_
  simp only [L16]
  cases q with
  | none =>
    simp [errV]
    exact Kp.refl _ _
  | some x =>
    have hq := hq x rfl
    simp [errV, cell_blk hq.obj, hq.own.len]
    exact Kp.refl _ _
theorem peek_spec (q : Nat) (hv : Value) (x : En) (l : List En) (nx : Int) (w : World) (hq : QA w q hv (x :: l) nx) :
    Calls Try.prog 16 [.pointer (some ⟨q, 0, none⟩)].toArray w fun e w' => ∃ v, e = .returned v ∧ v = .tuple #[.int .i64 x.key, .int .i64 x.tie, .int .i64 x.item, errV 0] ∧ Kp [] w w' := by
  refine enter Try.func16 mixed low16 (Nat.le_of_ble_eq_true rfl) ?_
  simp only [L16]
  have hne : ((l.length : Int) + 1 == 0) = false := by simp; omega
  simp [cell_blk hq.obj, hq.own.len, hne]
  have h0 : ((0 : Int) < (x :: l).length) := by simp
  simp (disch := omega) [cell_blk hq.obj, hq.own.idx]
  have := hq.own.cells En.len (k := 0) (x := x) rfl
  simp at this
  simp [this, En.len]
  refine st_obj alloc_new (by simp [En.enc]) (En.one x) ?_
  intro w2 hk hs ho
  simp [En.enc] at ho
  simp [cell_blk ho, errV]
  exact (((Kp.refl [] w).alloc _).trans' hk (by simp)).drew

def popL (l : List En) : List En := downL ((l.set 0 (gt l (l.length - 1))).take (l.length - 1)) 0
theorem pop_none (q : Option (Nat × Value × Int)) (w : World) (hq : ∀ x, q = some x → QA w x.1 x.2.1 [] x.2.2) :
    Calls Try.prog 14 [.pointer (q.map fun x => ⟨x.1, 0, none⟩)].toArray w fun e w' => ∃ v, e = .returned v ∧ v = .tuple #[.int .i64 0, .int .i64 0, .int .i64 0, errV 3] ∧ Kp [] w w' := by
  refine enter Try.func14 mixed low14 (Nat.le_of_ble_eq_true rfl) ?_
  simp only [L14]
  simp
  refine cl_of (peek_none q w hq) ?_
  rintro v w2 ⟨rfl, hk⟩
  simp [errV]
  exact hk
theorem pop_spec (q : Nat) (hv : Value) (x : En) (l : List En) (nx : Int) (w : World) (hq : QA w q hv (x :: l) nx) (hl : l.length < 65536) :
    Calls Try.prog 14 [.pointer (some ⟨q, 0, none⟩)].toArray w fun e w' => ∃ v, e = .returned v ∧ v = .tuple #[.int .i64 x.key, .int .i64 x.tie, .int .i64 x.item, errV 0] ∧
      ∃ hv', QA w' q hv' (popL (x :: l)) nx ∧ hv'.own = hv.own ∧ Kp (q :: hv.own) w w' := by
  refine enter Try.func14 mixed low14 (Nat.le_of_ble_eq_true rfl) ?_
  simp only [L14]
  simp
  refine cl_of (peek_spec q hv x l nx w hq) ?_
  rintro v w2 ⟨rfl, hk⟩
  have hq2 := hq.kp hk (by simp) (by simp)
  have h0 : ((0 : Int) < (x :: l).length) := by simp
  have hn : (l.length : Int) < (x :: l).length := by rw [List.length_cons]; omega
  have hlast : l.length < (x :: l).length := by simp
  simp (disch := omega) [cell_blk hq2.obj, hq2.own.idx, hq2.own.len, wrap_i64, En.len, hq2.own.cells En.len (gt_at hlast)]
  refine hq2.own.drew.store En.len En.one (k := 0) (by simp) rfl ?_
  intro w3 hk3 hs3 ho3
  have hob3 := hk3.blk hq2.drew.obj (hq2.own.own_eq hlast ▸ hq.ne)
  simp [cell_blk hob3]
  refine ho3.slice_hi En.len sl_54 (by simp) ?_
  intro hv' ho' he'
  have heo := hq2.own.own_eq hlast
  have hqn : q ∉ hv'.own := by rw [he']; exact hq.ne
  simp [ho'.c1]
  refine st_obj hob3 (by simp) (by simp [ho'.o1]) ?_
  intro w4 hk4 hs4 ho4
  simp at ho4
  have hq4 : QA w4 q hv' (((x :: l).set 0 (gt (x :: l) l.length)).take l.length) nx := ⟨ho4, ho'.blk_of (fun y hy (hm : y ∈ [q]) => hqn (by simp at hm; exact hm ▸ hy)) hk4, hqn⟩
  simp
  refine cl_of (down_spec q hv' _ nx 0 w4 hq4 (by simp; omega) (by omega)) ?_
  rintro v w5 ⟨rfl, hq5, hk5⟩
  simp
  refine ⟨hv', by simpa [popL] using hq5, he', ?_⟩
  have h1 : Kp (q :: hv.own) w w3 := (hk.drew.of0).trans (hk3.mono (by rw [heo]; simp))
  have h2 : Kp (q :: hv.own) w w4 := h1.trans (hk4.mono (by simp))
  exact h2.trans (hk5.mono (by rw [he']; exact fun y hy => List.mem_cons_of_mem _ hy))
end Go.Proofs.Ytgdkcdjdmgnjaaa
