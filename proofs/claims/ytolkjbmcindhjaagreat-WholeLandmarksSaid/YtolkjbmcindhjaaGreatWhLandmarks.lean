/-
  Proved: the statement WholeLandmarksSaid: for every input the law returns true and leaves its arguments as they were (every plan of a task contains an operator of each cut that LM-cut or the landmarks give; every division of the costs among them is valid, none exceeds the optimal one, and none the cost of a plan).
  Conditions: none beyond the statement's own.
-/
import Derived.Test.YtolkjbmcindhjaaGreatPk34
set_option maxRecDepth 100000
set_option linter.unusedSimpArgs false
set_option linter.unusedVariables false
set_option linter.unusedSectionVars false
namespace Go.Proofs.YtolkjbmcindhjaaGreat
open Go Go.W Go.Tk Go.Rx Go.ChangeShapes Go.WideShapes Go.ChangeAt Go.RowKit
theorem landmarks_lifted (os:Os) (started:os.Started) (H:Type) (enc:TypeId × Value→H) :
  ReturnsInHanded {} Tryz.checked os 4 .any (Rows.wholeLandmarksSpec.pre6 enc Tryz.prog Tryz.f4 Rows.wholeLandmarksRow.domain false) (Rows.wholeLandmarksSpec.post enc Tryz.prog Tryz.f4 false true false false):=by
 refine law_lift (C:=Tryz.checked) own started (by kernel_rfl) Tryz.func4
  (ChangeSpec.witness6 (enc:=enc) (C:=Tryz.checked) false ⟨#[],#[.agg #[.slice none 0 0,.slice none 0 0,.slice none 0 0,.slice none 0 0],.slice none 0 0],[]⟩ 8 (by kernel_rfl) (by kernel_rfl) (by kernel_rfl) (by kernel_rfl))
  laidOut (by kernel_rfl) (by kernel_rfl) Tryz.underlying4 rfl ?_
 intro W base args ds ps hval hA hsz
 have hp:Tryz.f4.params=#[26,22]:=by kernel_rfl
 rw [hp] at hA hval hsz
 obtain ⟨v0,v1,d0,d1,p0,p1,rfl,rfl,rfl,h0,h1⟩:=trodAll_two hA
 obtain ⟨t0,rfl,r0,l0⟩:=open_task (hval 0 26 v0 rfl rfl) h0
 obtain ⟨x1,r1,z1,n1⟩:=open_ints (hval 1 22 v1 rfl rfl) h1
 exact ⟨rfl,law_marks t0 v1 x1 r0 l0 r1 n1⟩
theorem landmarks_holds:Rows.WholeLandmarksSaid :=
 OpenClaim.holds_of_wide 4 Tryz.f4 rfl rfl rfl rfl rfl rfl rfl ⟨rfl,rfl,rfl,rfl,rfl⟩ rfl rfl rfl rfl rfl (by kernel_rfl) Tryz.func4 (by kernel_rfl)
  (of_decide_eq_true (by kernel_rfl)) (by unfold Func.isWrapper; first | (rw [if_pos (by decide +kernel)]; kernel_rfl) | (rw [if_neg (by decide +kernel)]; exact ⟨rfl,rfl⟩))
  (fun os started H enc _=>landmarks_lifted os started H enc)
end Go.Proofs.YtolkjbmcindhjaaGreat
