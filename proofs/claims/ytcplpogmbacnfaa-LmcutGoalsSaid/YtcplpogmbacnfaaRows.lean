/-
  No cell of these rows narrows 'for every input' (looked for: loops, veiled, ifaces, maps, wideKeys, modest, calm, conditions, laid).
  DERIVED. THE GIVEN ROWS OF THIS SEAT. 7 by the template 'for every input the law returns true; each argument reads behind the call as it read before'; 0 by the template 'total and deterministic' (their statements: YtcplpogmbacnfaaTotals.lean).
  GIVEN WITH THE SEED: the statements are not yours to turn. If you find one false, say at which input.
  Laid BY PROGRAM, IN A SANDBOX (cutbox-rows.mjs): the forced cells as the released guide's own fill.sh prints them over the translation aab30030f387e7b8… (all of the seat's roots in one cut). By AI agents, Wed Nov 11 2026. No macro, syntax, notation, axiom, sorry.
-/
import Derived.Test.YtcplpogmbacnfaaChecked
import GoSem.Claim
import GoSem.ClaimJoined
import GoSem.ClaimMapViews
import Derived.JoinedTies
import Derived.KernelRfl
namespace Go.Proofs.Ytcplpogmbacnfaa
/- THE CELL 'sum', in the pinned program and in every row, IS THE sha256 OF THE DUMP (.gsa) THAT YtcplpogmbacnfaaProg.lean LOADS. Nothing in Lean hashes anything: it is a label: what it is worth is what the hold of that sum in a sandbox is worth. -/
noncomputable def Try.pinned : Pinned := { name := "ytcplpogmbacnfaa", sum := "aab30030f387e7b816b10954eda52ada015ea2a4cf055301b86c548309b6557b", checked := Try.checked }
namespace Rows
def none {H : Type} : Left H := { results := [], args := [] }

/-- 'stratagemlaw35.LmcutCuts': WHATEVER THE INPUT: true; the input reads as it did. -/
def lmcutCutsSpec : ChangeSpec := { name := "lmcutCuts", fn := fun _ => fun
  | [d] => { results := [.lit (.bool true)], args := [d] }
  | _ => none }
def lmcutCutsRow : OpenClaim := { program := "ytcplpogmbacnfaa", sum := "aab30030f387e7b816b10954eda52ada015ea2a4cf055301b86c548309b6557b", func := "stratagem/stratagemlaw35.LmcutCuts", spec := "lmcutCuts", unfollowed := true, recurses := true, apart := false }
def LmcutCutsSaid : Prop := lmcutCutsRow.holds Try.pinned (OpenSpec.ofChange lmcutCutsSpec)

/-- ITS FALSE NEIGHBOUR: 'it returns false'. Refute it at one input. -/
def lmcutCutsWrong : ChangeSpec := { name := "lmcutCuts", fn := fun _ => fun
  | [d] => { results := [.lit (.bool false)], args := [d] }
  | _ => none }
def LmcutCutsWrongFalsely : Prop := lmcutCutsRow.holds Try.pinned (OpenSpec.ofChange lmcutCutsWrong)

/-- 'stratagemlaw35.LmcutAdmissible': WHATEVER THE INPUT: true; the input reads as it did. -/
def lmcutAdmissibleSpec : ChangeSpec := { name := "lmcutAdmissible", fn := fun _ => fun
  | [d] => { results := [.lit (.bool true)], args := [d] }
  | _ => none }
def lmcutAdmissibleRow : OpenClaim := { program := "ytcplpogmbacnfaa", sum := "aab30030f387e7b816b10954eda52ada015ea2a4cf055301b86c548309b6557b", func := "stratagem/stratagemlaw35.LmcutAdmissible", spec := "lmcutAdmissible", unfollowed := true, recurses := true, apart := false }
def LmcutAdmissibleSaid : Prop := lmcutAdmissibleRow.holds Try.pinned (OpenSpec.ofChange lmcutAdmissibleSpec)

/-- ITS FALSE NEIGHBOUR: 'it returns false'. Refute it at one input. -/
def lmcutAdmissibleWrong : ChangeSpec := { name := "lmcutAdmissible", fn := fun _ => fun
  | [d] => { results := [.lit (.bool false)], args := [d] }
  | _ => none }
def LmcutAdmissibleWrongFalsely : Prop := lmcutAdmissibleRow.holds Try.pinned (OpenSpec.ofChange lmcutAdmissibleWrong)

/-- 'stratagemlaw35.LmcutLandmarks': WHATEVER THE INPUT: true; the input reads as it did. -/
def lmcutLandmarksSpec : ChangeSpec := { name := "lmcutLandmarks", fn := fun _ => fun
  | [d] => { results := [.lit (.bool true)], args := [d] }
  | _ => none }
def lmcutLandmarksRow : OpenClaim := { program := "ytcplpogmbacnfaa", sum := "aab30030f387e7b816b10954eda52ada015ea2a4cf055301b86c548309b6557b", func := "stratagem/stratagemlaw35.LmcutLandmarks", spec := "lmcutLandmarks", unfollowed := true, recurses := true, apart := false }
def LmcutLandmarksSaid : Prop := lmcutLandmarksRow.holds Try.pinned (OpenSpec.ofChange lmcutLandmarksSpec)

/-- ITS FALSE NEIGHBOUR: 'it returns false'. Refute it at one input. -/
def lmcutLandmarksWrong : ChangeSpec := { name := "lmcutLandmarks", fn := fun _ => fun
  | [d] => { results := [.lit (.bool false)], args := [d] }
  | _ => none }
def LmcutLandmarksWrongFalsely : Prop := lmcutLandmarksRow.holds Try.pinned (OpenSpec.ofChange lmcutLandmarksWrong)

/-- 'stratagemlaw35.LmcutScales': WHATEVER THE INPUT: true; the input reads as it did. -/
def lmcutScalesSpec : ChangeSpec := { name := "lmcutScales", fn := fun _ => fun
  | [d1, d2] => { results := [.lit (.bool true)], args := [d1, d2] }
  | _ => none }
def lmcutScalesRow : OpenClaim := { program := "ytcplpogmbacnfaa", sum := "aab30030f387e7b816b10954eda52ada015ea2a4cf055301b86c548309b6557b", func := "stratagem/stratagemlaw35.LmcutScales", spec := "lmcutScales", unfollowed := true, recurses := true, apart := false }
def LmcutScalesSaid : Prop := lmcutScalesRow.holds Try.pinned (OpenSpec.ofChange lmcutScalesSpec)

/-- ITS FALSE NEIGHBOUR: 'it returns false'. Refute it at one input. -/
def lmcutScalesWrong : ChangeSpec := { name := "lmcutScales", fn := fun _ => fun
  | [d1, d2] => { results := [.lit (.bool false)], args := [d1, d2] }
  | _ => none }
def LmcutScalesWrongFalsely : Prop := lmcutScalesRow.holds Try.pinned (OpenSpec.ofChange lmcutScalesWrong)

/-- 'stratagemlaw35.LmcutGoals': WHATEVER THE INPUT: true; the input reads as it did. -/
def lmcutGoalsSpec : ChangeSpec := { name := "lmcutGoals", fn := fun _ => fun
  | [d1, d2] => { results := [.lit (.bool true)], args := [d1, d2] }
  | _ => none }
def lmcutGoalsRow : OpenClaim := { program := "ytcplpogmbacnfaa", sum := "aab30030f387e7b816b10954eda52ada015ea2a4cf055301b86c548309b6557b", func := "stratagem/stratagemlaw35.LmcutGoals", spec := "lmcutGoals", unfollowed := true, recurses := true, apart := false }
def LmcutGoalsSaid : Prop := lmcutGoalsRow.holds Try.pinned (OpenSpec.ofChange lmcutGoalsSpec)

/-- ITS FALSE NEIGHBOUR: 'it returns false'. Refute it at one input. -/
def lmcutGoalsWrong : ChangeSpec := { name := "lmcutGoals", fn := fun _ => fun
  | [d1, d2] => { results := [.lit (.bool false)], args := [d1, d2] }
  | _ => none }
def LmcutGoalsWrongFalsely : Prop := lmcutGoalsRow.holds Try.pinned (OpenSpec.ofChange lmcutGoalsWrong)

/-- 'stratagemlaw35.LmcutErrors': WHATEVER THE INPUT: true; the input reads as it did. -/
def lmcutErrorsSpec : ChangeSpec := { name := "lmcutErrors", fn := fun _ => fun
  | [d1, d2] => { results := [.lit (.bool true)], args := [d1, d2] }
  | _ => none }
def lmcutErrorsRow : OpenClaim := { program := "ytcplpogmbacnfaa", sum := "aab30030f387e7b816b10954eda52ada015ea2a4cf055301b86c548309b6557b", func := "stratagem/stratagemlaw35.LmcutErrors", spec := "lmcutErrors", unfollowed := true, recurses := true, apart := false }
def LmcutErrorsSaid : Prop := lmcutErrorsRow.holds Try.pinned (OpenSpec.ofChange lmcutErrorsSpec)

/-- ITS FALSE NEIGHBOUR: 'it returns false'. Refute it at one input. -/
def lmcutErrorsWrong : ChangeSpec := { name := "lmcutErrors", fn := fun _ => fun
  | [d1, d2] => { results := [.lit (.bool false)], args := [d1, d2] }
  | _ => none }
def LmcutErrorsWrongFalsely : Prop := lmcutErrorsRow.holds Try.pinned (OpenSpec.ofChange lmcutErrorsWrong)

/-- 'stratagemlaw35.LmcutBudget': WHATEVER THE INPUT: true; the input reads as it did. -/
def lmcutBudgetSpec : ChangeSpec := { name := "lmcutBudget", fn := fun _ => fun
  | [d] => { results := [.lit (.bool true)], args := [d] }
  | _ => none }
def lmcutBudgetRow : OpenClaim := { program := "ytcplpogmbacnfaa", sum := "aab30030f387e7b816b10954eda52ada015ea2a4cf055301b86c548309b6557b", func := "stratagem/stratagemlaw35.LmcutBudget", spec := "lmcutBudget", unfollowed := true, recurses := true, apart := false }
def LmcutBudgetSaid : Prop := lmcutBudgetRow.holds Try.pinned (OpenSpec.ofChange lmcutBudgetSpec)

/-- ITS FALSE NEIGHBOUR: 'it returns false'. Refute it at one input. -/
def lmcutBudgetWrong : ChangeSpec := { name := "lmcutBudget", fn := fun _ => fun
  | [d] => { results := [.lit (.bool false)], args := [d] }
  | _ => none }
def LmcutBudgetWrongFalsely : Prop := lmcutBudgetRow.holds Try.pinned (OpenSpec.ofChange lmcutBudgetWrong)

/- THE SECOND FORM. 'bulk': how many values and letters a reading holds, each counted each time it is reached (what is shared counts as often as it is met; a slice's spare places count too). A statement '..UptoSaid' is the law's where the arguments, and the package variables that the reading takes, are together of bulk at most 1048576: NARROWER than '..Said'. Prove '..Said' where nothing that the law and all that it calls make is longer than what came in: it says more and counts as full. Else prove '..UptoSaid'. A law counts once. -/
mutual
def uptoBulk {H : Type} : DataW H → Nat
  | .lit (.string bytes) => bytes.length + 1
  | .lit _ => 1
  | .nil => 1
  | .ptr d => uptoBulk d + 1
  | .slice elems spare => uptoBulkAll elems + uptoBulkAll spare + 1
  | .agg parts => uptoBulkAll parts + 1
  | .iface _ d => uptoBulk d + 1
  | .map entries => uptoBulkEntries entries + 1
  | .held _ => 1
def uptoBulkAll {H : Type} : List (DataW H) → Nat
  | [] => 0
  | d :: r => uptoBulk d + uptoBulkAll r
def uptoBulkEntries {H : Type} : List (Lit × DataW H) → Nat
  | [] => 0
  | x :: r => uptoBulkEntry x + uptoBulkEntries r
def uptoBulkEntry {H : Type} : Lit × DataW H → Nat
  | (.string bytes, d) => bytes.length + uptoBulk d + 1
  | (_, d) => uptoBulk d + 1
 end
def uptoSmall : (H : Type) → List (DataW H) → Bool := fun _ ds => decide (uptoBulkAll ds ≤ 1048576)
def OpenSpec.upto (s : _root_.Go.ChangeSpec) : _root_.Go.OpenSpec := { _root_.Go.OpenSpec.ofChange s with cond := some uptoSmall }

/-- 'stratagemlaw35.LmcutCuts', WHERE WHAT IT READS IS OF BULK AT MOST 1048576: true; the input reads as it did. -/
def lmcutCutsUptoRow : OpenClaim := { program := "ytcplpogmbacnfaa", sum := "aab30030f387e7b816b10954eda52ada015ea2a4cf055301b86c548309b6557b", func := "stratagem/stratagemlaw35.LmcutCuts", spec := "lmcutCuts", unfollowed := true, recurses := true, apart := false, narrowed := true }
def LmcutCutsUptoSaid : Prop := lmcutCutsUptoRow.holds Try.pinned (OpenSpec.upto lmcutCutsSpec)

/-- 'stratagemlaw35.LmcutAdmissible', WHERE WHAT IT READS IS OF BULK AT MOST 1048576: true; the input reads as it did. -/
def lmcutAdmissibleUptoRow : OpenClaim := { program := "ytcplpogmbacnfaa", sum := "aab30030f387e7b816b10954eda52ada015ea2a4cf055301b86c548309b6557b", func := "stratagem/stratagemlaw35.LmcutAdmissible", spec := "lmcutAdmissible", unfollowed := true, recurses := true, apart := false, narrowed := true }
def LmcutAdmissibleUptoSaid : Prop := lmcutAdmissibleUptoRow.holds Try.pinned (OpenSpec.upto lmcutAdmissibleSpec)

/-- 'stratagemlaw35.LmcutLandmarks', WHERE WHAT IT READS IS OF BULK AT MOST 1048576: true; the input reads as it did. -/
def lmcutLandmarksUptoRow : OpenClaim := { program := "ytcplpogmbacnfaa", sum := "aab30030f387e7b816b10954eda52ada015ea2a4cf055301b86c548309b6557b", func := "stratagem/stratagemlaw35.LmcutLandmarks", spec := "lmcutLandmarks", unfollowed := true, recurses := true, apart := false, narrowed := true }
def LmcutLandmarksUptoSaid : Prop := lmcutLandmarksUptoRow.holds Try.pinned (OpenSpec.upto lmcutLandmarksSpec)

/-- 'stratagemlaw35.LmcutScales', WHERE WHAT IT READS IS OF BULK AT MOST 1048576: true; the input reads as it did. -/
def lmcutScalesUptoRow : OpenClaim := { program := "ytcplpogmbacnfaa", sum := "aab30030f387e7b816b10954eda52ada015ea2a4cf055301b86c548309b6557b", func := "stratagem/stratagemlaw35.LmcutScales", spec := "lmcutScales", unfollowed := true, recurses := true, apart := false, narrowed := true }
def LmcutScalesUptoSaid : Prop := lmcutScalesUptoRow.holds Try.pinned (OpenSpec.upto lmcutScalesSpec)

/-- 'stratagemlaw35.LmcutGoals', WHERE WHAT IT READS IS OF BULK AT MOST 1048576: true; the input reads as it did. -/
def lmcutGoalsUptoRow : OpenClaim := { program := "ytcplpogmbacnfaa", sum := "aab30030f387e7b816b10954eda52ada015ea2a4cf055301b86c548309b6557b", func := "stratagem/stratagemlaw35.LmcutGoals", spec := "lmcutGoals", unfollowed := true, recurses := true, apart := false, narrowed := true }
def LmcutGoalsUptoSaid : Prop := lmcutGoalsUptoRow.holds Try.pinned (OpenSpec.upto lmcutGoalsSpec)

/-- 'stratagemlaw35.LmcutErrors', WHERE WHAT IT READS IS OF BULK AT MOST 1048576: true; the input reads as it did. -/
def lmcutErrorsUptoRow : OpenClaim := { program := "ytcplpogmbacnfaa", sum := "aab30030f387e7b816b10954eda52ada015ea2a4cf055301b86c548309b6557b", func := "stratagem/stratagemlaw35.LmcutErrors", spec := "lmcutErrors", unfollowed := true, recurses := true, apart := false, narrowed := true }
def LmcutErrorsUptoSaid : Prop := lmcutErrorsUptoRow.holds Try.pinned (OpenSpec.upto lmcutErrorsSpec)

/-- 'stratagemlaw35.LmcutBudget', WHERE WHAT IT READS IS OF BULK AT MOST 1048576: true; the input reads as it did. -/
def lmcutBudgetUptoRow : OpenClaim := { program := "ytcplpogmbacnfaa", sum := "aab30030f387e7b816b10954eda52ada015ea2a4cf055301b86c548309b6557b", func := "stratagem/stratagemlaw35.LmcutBudget", spec := "lmcutBudget", unfollowed := true, recurses := true, apart := false, narrowed := true }
def LmcutBudgetUptoSaid : Prop := lmcutBudgetUptoRow.holds Try.pinned (OpenSpec.upto lmcutBudgetSpec)

end Rows
end Go.Proofs.Ytcplpogmbacnfaa
