/- counting, plainly -/
import Derived.Test.YtkojilpjpdpmaaaRBdQ
set_option linter.unusedVariables false
set_option linter.unusedSimpArgs false
namespace Go.Bd
/-- The number of assignments of d variables from k on. -/
def num : Nat → Nat → ((Nat → Bool) → Bool) → Nat
  | 0, _, F => if F (fun _ => false) then 1 else 0
  | d + 1, k, F => num d (k + 1) (fun a => F (upd a k false)) + num d (k + 1) (fun a => F (upd a k true))
theorem num_congr : ∀ (d k : Nat) {F G : (Nat → Bool) → Bool}, (∀ a, F a = G a) → num d k F = num d k G
  | 0, k, F, G, h => by rw [num, num, h]
  | d + 1, k, F, G, h => by rw [num, num, num_congr d (k + 1) (fun a => h _), num_congr d (k + 1) (fun a => h _)]
/-- What does not depend on the first variable counts twice. -/
theorem num_skip {d k : Nat} {F : (Nat → Bool) → Bool} (h : ∀ a x, F (upd a k x) = F a) : num (d + 1) k F = 2 * num d (k + 1) F := by
  rw [num, num_congr d (k + 1) (fun a => h a false), num_congr d (k + 1) (fun a => h a true)]; omega
theorem num_skips {F : (Nat → Bool) → Bool} {d : Nat} : ∀ (j k : Nat), (∀ i a x, k ≤ i → i < k + j → F (upd a i x) = F a) → num (d + j) k F = 2 ^ j * num d (k + j) F
  | 0, k, _ => by simp
  | j + 1, k, h => by
    have := num_skips (F := F) (d := d) j (k + 1) (fun i a x h1 h2 => h i a x (by omega) (by omega))
    rw [show d + (j + 1) = (d + j) + 1 by omega, num_skip (fun a x => h k a x (by omega) (by omega)), this, Nat.pow_succ, show k + 1 + j = k + (j + 1) by omega]
    rw [Nat.mul_comm (2 ^ j) 2, Nat.mul_assoc]
/-- The number of assignments of the variables from that of a node on. -/
def cnt (n : Nat) (ns : Ns) (f : Nat) : Nat :=
  if h : f < 2 then f else
    let d := at_ n ns f
    if hl : d.low < f ∧ d.high < f then cnt n ns d.low * 2 ^ (tv n ns d.low - d.v - 1) + cnt n ns d.high * 2 ^ (tv n ns d.high - d.v - 1) else 0
termination_by f
decreasing_by
  · exact hl.1
  · exact hl.2
section
variable {n : Nat} {ns : Ns}
theorem cnt_lt {f : Nat} (h : f < 2) : cnt n ns f = f := by unfold cnt; rw [dif_pos h]
theorem cnt_node (w : Wf n ns) {f : Nat} (h : 2 ≤ f) (hf : Ref ns f) : cnt n ns f = cnt n ns (at_ n ns f).low * 2 ^ (tv n ns (at_ n ns f).low - tv n ns f - 1) + cnt n ns (at_ n ns f).high * 2 ^ (tv n ns (at_ n ns f).high - tv n ns f - 1) := by
  conv => lhs; unfold cnt
  rw [dif_neg (by omega)]
  simp only
  rw [dif_pos ⟨w.lt_low h hf, w.lt_high h hf⟩]
  rfl
theorem cnt_num (w : Wf n ns) : ∀ {f : Nat}, Ref ns f → cnt n ns f = num (n - tv n ns f) (tv n ns f) (fun a => eval ns a f) := by
  intro f
  induction f using Nat.strongRecOn with
  | ind f ih =>
    intro hf
    rcases Nat.lt_or_ge f 2 with h | h
    · rw [cnt_lt h, tv_lt h, Nat.sub_self, num]
      have : f = 0 ∨ f = 1 := by omega
      rcases this with rfl | rfl
      · simp [eval_zero]
      · simp [eval_one]
    · have tvn := w.tv_var h hf
      have tl := w.tv_low h hf
      have th := w.tv_high h hf
      have rl := w.ref_low hf
      have rh := w.ref_high hf
      have bl := w.tv_le rl
      have bh := w.tv_le rh
      have key : ∀ x, Ref ns x → tv n ns f < tv n ns x → num (n - tv n ns f - 1) (tv n ns f + 1) (fun a => eval ns a x) = num (n - tv n ns x) (tv n ns x) (fun a => eval ns a x) * 2 ^ (tv n ns x - tv n ns f - 1) := by
        intro x hx hlt
        have bx := w.tv_le hx
        have := num_skips (F := fun a => eval ns a x) (d := n - tv n ns x) (tv n ns x - tv n ns f - 1) (tv n ns f + 1) (fun i a y h1 h2 => eval_upd w hx (by omega))
        rw [show n - tv n ns f - 1 = (n - tv n ns x) + (tv n ns x - tv n ns f - 1) by omega, this, show tv n ns f + 1 + (tv n ns x - tv n ns f - 1) = tv n ns x by omega, Nat.mul_comm]
      rw [cnt_node w h hf, ih _ (w.lt_low h hf) rl, ih _ (w.lt_high h hf) rh, ← key _ rl tl, ← key _ rh th]
      obtain ⟨d, hd⟩ : ∃ d, n - tv n ns f = d + 1 := ⟨n - tv n ns f - 1, by omega⟩
      rw [hd, num, Nat.add_sub_cancel, num_congr d _ (fun a => eval_low w h hf), num_congr d _ (fun a => eval_high w h hf)]
/-- All assignments. -/
theorem cnt_all (w : Wf n ns) {f : Nat} (hf : Ref ns f) : cnt n ns f * 2 ^ tv n ns f = num n 0 (fun a => eval ns a f) := by
  have bx := w.tv_le hf
  have := num_skips (F := fun a => eval ns a f) (d := n - tv n ns f) (tv n ns f) 0 (fun i a y h1 h2 => eval_upd w hf (by omega))
  have e : (n - tv n ns f) + tv n ns f = n := by omega
  rw [e] at this
  rw [this, Nat.zero_add, ← cnt_num w hf, Nat.mul_comm]
theorem cnt_ext {ns' : Ns} (w : Wf n ns) (hx : Ext n ns ns') {f : Nat} (hf : Ref ns f) : cnt n ns' f = cnt n ns f := by
  rw [cnt_num w hf, cnt_num hx.wf (hx.ref hf), hx.tv hf]
  exact num_congr _ _ fun a => hx.eval w a hf
end
/-- The number that says: too many. -/
def many : Nat := 1099511627777
theorem many_mul (x k : Nat) : min (min x many * 2 ^ k) many = min (x * 2 ^ k) many := by
  rcases Nat.le_total x many with h | h
  · rw [Nat.min_eq_left h]
  · have hp := Nat.two_pow_pos k
    rw [Nat.min_eq_right h]
    have h1 : many ≤ many * 2 ^ k := Nat.le_mul_of_pos_right _ hp
    have h2 : many * 2 ^ k ≤ x * 2 ^ k := Nat.mul_le_mul_right _ h
    omega
theorem many_add (x y : Nat) : min (min x many + min y many) many = min (x + y) many := by omega
end Go.Bd
