/-
  Proved: the statement TypesOrderSaid: for every input the law returns true and leaves its arguments as they were (Is is a partial order with object above all, and Common the least common upper bound).
  Conditions: none beyond the statement's own.
-/
import Derived.Test.YtcpmeficpboklaaTyOpen
import Derived.Test.YtcpmeficpboklaaTyL9
set_option maxRecDepth 100000
set_option linter.unusedSimpArgs false
set_option linter.unusedVariables false
namespace Go.Proofs.Ytcpmeficpboklaa
open Go Go.W Go.Ty Go.ChangeShapes Go.WideShapes Go.ChangeAt Go.RowKit
theorem order_lifted (os : Os) (started : os.Started) (H : Type) (enc : TypeId × Value → H) :
    ReturnsInHanded {} Try.checked os 11 .any (Rows.typesOrderSpec.pre6 enc Try.prog Try.f11 Rows.typesOrderRow.domain false) (Rows.typesOrderSpec.post enc Try.prog Try.f11 false true false false) := by
  refine law_liftS (C := Try.checked) own started (by kernel_rfl) Try.func11
    (ChangeSpec.witness6 (enc := enc) (C := Try.checked) false ⟨#[], #[.slice none 0 0, .agg #[.int .u8 0, .int .u8 0, .int .u8 0]], []⟩ 8 (by kernel_rfl) (by kernel_rfl) (by kernel_rfl) (by kernel_rfl))
    laidOut (by kernel_rfl) (by kernel_rfl) Try.underlying4 rfl ?_
  intro W base args ds ps hsh hval hA hsz
  have hp : Try.f11.params = #[22, 54] := by kernel_rfl
  rw [hp] at hA hval hsz
  obtain ⟨v0, v1, d0, d1, q0, q1, rfl, rfl, rfl, h0, h1⟩ := trodAll_two hA
  obtain ⟨l, hlv, hlz, hld⟩ := open_pairs (hval 0 22 v0 rfl rfl) h0
  have hln := len_pairs hsz (j := 0) rfl rfl hld
  obtain ⟨x, y, z, rfl, hx, hy, hz⟩ := open_arr (hval 1 54 v1 rfl rfl) h1
  exact ⟨rfl, law_order v0 l x y z hx hy hz W hlv (by omega) hlz (hm_of hsh)⟩
theorem order_holds : Rows.TypesOrderSaid :=
  OpenClaim.holds_of_wide 11 Try.f11 rfl rfl rfl rfl rfl rfl rfl ⟨rfl, rfl, rfl, rfl, rfl⟩ rfl rfl rfl rfl rfl (by kernel_rfl) Try.func11 (by kernel_rfl)
    (of_decide_eq_true (by kernel_rfl)) (by unfold Func.isWrapper; first | (rw [if_pos (by decide +kernel)]; kernel_rfl) | (rw [if_neg (by decide +kernel)]; exact ⟨rfl, rfl⟩))
    (fun os started H enc _ => order_lifted os started H enc)
end Go.Proofs.Ytcpmeficpboklaa
