/-
  No cell of these rows narrows 'for every input' (looked for: loops, veiled, ifaces, maps, wideKeys, modest, calm, conditions, laid).
  DERIVED. THE GIVEN ROWS OF THIS SEAT. 8 by the template 'for every input the law returns true; each argument reads behind the call as it read before'; 0 by the template 'total and deterministic' (their statements: YtjpbkljnllkneaaTotals.lean).
  GIVEN WITH THE SEED: the statements are not yours to turn. If you find one false, say at which input.
  Laid BY PROGRAM, IN A SANDBOX (cutbox-rows.mjs): the forced cells as the released guide's own fill.sh prints them over the translation 610db6e430717280… (all of the seat's roots in one cut). By AI agents, Wed Nov 11 2026. No macro, syntax, notation, axiom, sorry.
-/
import Derived.Test.YtjpbkljnllkneaaChecked
import GoSem.Claim
import GoSem.ClaimJoined
import GoSem.ClaimMapViews
import Derived.JoinedTies
import Derived.KernelRfl
namespace Go.Proofs.Ytjpbkljnllkneaa
/- THE CELL 'sum', in the pinned program and in every row, IS THE sha256 OF THE DUMP (.gsa) THAT YtjpbkljnllkneaaProg.lean LOADS. Nothing in Lean hashes anything: it is a label: what it is worth is what the hold of that sum in a sandbox is worth. -/
noncomputable def Try.pinned : Pinned := { name := "ytjpbkljnllkneaa", sum := "610db6e430717280516af810568753837c3b006ab1e4abf2ff60fcacf83f2aa6", checked := Try.checked }
namespace Rows
def none {H : Type} : Left H := { results := [], args := [] }

/-- 'stratagemlaw34.RelaxAdmissible': WHATEVER THE INPUT: true; the input reads as it did. -/
def relaxAdmissibleSpec : ChangeSpec := { name := "relaxAdmissible", fn := fun _ => fun
  | [d1, d2] => { results := [.lit (.bool true)], args := [d1, d2] }
  | _ => none }
def relaxAdmissibleRow : OpenClaim := { program := "ytjpbkljnllkneaa", sum := "610db6e430717280516af810568753837c3b006ab1e4abf2ff60fcacf83f2aa6", func := "stratagem/stratagemlaw34.RelaxAdmissible", spec := "relaxAdmissible", unfollowed := true, recurses := true, apart := false }
def RelaxAdmissibleSaid : Prop := relaxAdmissibleRow.holds Try.pinned (OpenSpec.ofChange relaxAdmissibleSpec)

/-- ITS FALSE NEIGHBOUR: 'it returns false'. Refute it at one input. -/
def relaxAdmissibleWrong : ChangeSpec := { name := "relaxAdmissible", fn := fun _ => fun
  | [d1, d2] => { results := [.lit (.bool false)], args := [d1, d2] }
  | _ => none }
def RelaxAdmissibleWrongFalsely : Prop := relaxAdmissibleRow.holds Try.pinned (OpenSpec.ofChange relaxAdmissibleWrong)

/-- 'stratagemlaw34.RelaxConsistent': WHATEVER THE INPUT: true; the input reads as it did. -/
def relaxConsistentSpec : ChangeSpec := { name := "relaxConsistent", fn := fun _ => fun
  | [d] => { results := [.lit (.bool true)], args := [d] }
  | _ => none }
def relaxConsistentRow : OpenClaim := { program := "ytjpbkljnllkneaa", sum := "610db6e430717280516af810568753837c3b006ab1e4abf2ff60fcacf83f2aa6", func := "stratagem/stratagemlaw34.RelaxConsistent", spec := "relaxConsistent", unfollowed := true, recurses := true, apart := false }
def RelaxConsistentSaid : Prop := relaxConsistentRow.holds Try.pinned (OpenSpec.ofChange relaxConsistentSpec)

/-- ITS FALSE NEIGHBOUR: 'it returns false'. Refute it at one input. -/
def relaxConsistentWrong : ChangeSpec := { name := "relaxConsistent", fn := fun _ => fun
  | [d] => { results := [.lit (.bool false)], args := [d] }
  | _ => none }
def RelaxConsistentWrongFalsely : Prop := relaxConsistentRow.holds Try.pinned (OpenSpec.ofChange relaxConsistentWrong)

/-- 'stratagemlaw34.RelaxReached': WHATEVER THE INPUT: true; the input reads as it did. -/
def relaxReachedSpec : ChangeSpec := { name := "relaxReached", fn := fun _ => fun
  | [d1, d2] => { results := [.lit (.bool true)], args := [d1, d2] }
  | _ => none }
def relaxReachedRow : OpenClaim := { program := "ytjpbkljnllkneaa", sum := "610db6e430717280516af810568753837c3b006ab1e4abf2ff60fcacf83f2aa6", func := "stratagem/stratagemlaw34.RelaxReached", spec := "relaxReached", unfollowed := true, recurses := true, apart := false }
def RelaxReachedSaid : Prop := relaxReachedRow.holds Try.pinned (OpenSpec.ofChange relaxReachedSpec)

/-- ITS FALSE NEIGHBOUR: 'it returns false'. Refute it at one input. -/
def relaxReachedWrong : ChangeSpec := { name := "relaxReached", fn := fun _ => fun
  | [d1, d2] => { results := [.lit (.bool false)], args := [d1, d2] }
  | _ => none }
def RelaxReachedWrongFalsely : Prop := relaxReachedRow.holds Try.pinned (OpenSpec.ofChange relaxReachedWrong)

/-- 'stratagemlaw34.RelaxSupporters': WHATEVER THE INPUT: true; the input reads as it did. -/
def relaxSupportersSpec : ChangeSpec := { name := "relaxSupporters", fn := fun _ => fun
  | [d1, d2, d3] => { results := [.lit (.bool true)], args := [d1, d2, d3] }
  | _ => none }
def relaxSupportersRow : OpenClaim := { program := "ytjpbkljnllkneaa", sum := "610db6e430717280516af810568753837c3b006ab1e4abf2ff60fcacf83f2aa6", func := "stratagem/stratagemlaw34.RelaxSupporters", spec := "relaxSupporters", unfollowed := true, recurses := true, apart := false }
def RelaxSupportersSaid : Prop := relaxSupportersRow.holds Try.pinned (OpenSpec.ofChange relaxSupportersSpec)

/-- ITS FALSE NEIGHBOUR: 'it returns false'. Refute it at one input. -/
def relaxSupportersWrong : ChangeSpec := { name := "relaxSupporters", fn := fun _ => fun
  | [d1, d2, d3] => { results := [.lit (.bool false)], args := [d1, d2, d3] }
  | _ => none }
def RelaxSupportersWrongFalsely : Prop := relaxSupportersRow.holds Try.pinned (OpenSpec.ofChange relaxSupportersWrong)

/-- 'stratagemlaw34.RelaxValues': WHATEVER THE INPUT: true; the input reads as it did. -/
def relaxValuesSpec : ChangeSpec := { name := "relaxValues", fn := fun _ => fun
  | [d1, d2] => { results := [.lit (.bool true)], args := [d1, d2] }
  | _ => none }
def relaxValuesRow : OpenClaim := { program := "ytjpbkljnllkneaa", sum := "610db6e430717280516af810568753837c3b006ab1e4abf2ff60fcacf83f2aa6", func := "stratagem/stratagemlaw34.RelaxValues", spec := "relaxValues", unfollowed := true, recurses := true, apart := false }
def RelaxValuesSaid : Prop := relaxValuesRow.holds Try.pinned (OpenSpec.ofChange relaxValuesSpec)

/-- ITS FALSE NEIGHBOUR: 'it returns false'. Refute it at one input. -/
def relaxValuesWrong : ChangeSpec := { name := "relaxValues", fn := fun _ => fun
  | [d1, d2] => { results := [.lit (.bool false)], args := [d1, d2] }
  | _ => none }
def RelaxValuesWrongFalsely : Prop := relaxValuesRow.holds Try.pinned (OpenSpec.ofChange relaxValuesWrong)

/-- 'stratagemlaw34.RelaxLevels': WHATEVER THE INPUT: true; the input reads as it did. -/
def relaxLevelsSpec : ChangeSpec := { name := "relaxLevels", fn := fun _ => fun
  | [d] => { results := [.lit (.bool true)], args := [d] }
  | _ => none }
def relaxLevelsRow : OpenClaim := { program := "ytjpbkljnllkneaa", sum := "610db6e430717280516af810568753837c3b006ab1e4abf2ff60fcacf83f2aa6", func := "stratagem/stratagemlaw34.RelaxLevels", spec := "relaxLevels", unfollowed := true, recurses := true, apart := false }
def RelaxLevelsSaid : Prop := relaxLevelsRow.holds Try.pinned (OpenSpec.ofChange relaxLevelsSpec)

/-- ITS FALSE NEIGHBOUR: 'it returns false'. Refute it at one input. -/
def relaxLevelsWrong : ChangeSpec := { name := "relaxLevels", fn := fun _ => fun
  | [d] => { results := [.lit (.bool false)], args := [d] }
  | _ => none }
def RelaxLevelsWrongFalsely : Prop := relaxLevelsRow.holds Try.pinned (OpenSpec.ofChange relaxLevelsWrong)

/-- 'stratagemlaw34.RelaxMonotone': WHATEVER THE INPUT: true; the input reads as it did. -/
def relaxMonotoneSpec : ChangeSpec := { name := "relaxMonotone", fn := fun _ => fun
  | [d1, d2, d3] => { results := [.lit (.bool true)], args := [d1, d2, d3] }
  | _ => none }
def relaxMonotoneRow : OpenClaim := { program := "ytjpbkljnllkneaa", sum := "610db6e430717280516af810568753837c3b006ab1e4abf2ff60fcacf83f2aa6", func := "stratagem/stratagemlaw34.RelaxMonotone", spec := "relaxMonotone", unfollowed := true, recurses := true, apart := false }
def RelaxMonotoneSaid : Prop := relaxMonotoneRow.holds Try.pinned (OpenSpec.ofChange relaxMonotoneSpec)

/-- ITS FALSE NEIGHBOUR: 'it returns false'. Refute it at one input. -/
def relaxMonotoneWrong : ChangeSpec := { name := "relaxMonotone", fn := fun _ => fun
  | [d1, d2, d3] => { results := [.lit (.bool false)], args := [d1, d2, d3] }
  | _ => none }
def RelaxMonotoneWrongFalsely : Prop := relaxMonotoneRow.holds Try.pinned (OpenSpec.ofChange relaxMonotoneWrong)

/-- 'stratagemlaw34.RelaxErrors': WHATEVER THE INPUT: true; the input reads as it did. -/
def relaxErrorsSpec : ChangeSpec := { name := "relaxErrors", fn := fun _ => fun
  | [d1, d2, d3] => { results := [.lit (.bool true)], args := [d1, d2, d3] }
  | _ => none }
def relaxErrorsRow : OpenClaim := { program := "ytjpbkljnllkneaa", sum := "610db6e430717280516af810568753837c3b006ab1e4abf2ff60fcacf83f2aa6", func := "stratagem/stratagemlaw34.RelaxErrors", spec := "relaxErrors", unfollowed := true, recurses := true, apart := false }
def RelaxErrorsSaid : Prop := relaxErrorsRow.holds Try.pinned (OpenSpec.ofChange relaxErrorsSpec)

/-- ITS FALSE NEIGHBOUR: 'it returns false'. Refute it at one input. -/
def relaxErrorsWrong : ChangeSpec := { name := "relaxErrors", fn := fun _ => fun
  | [d1, d2, d3] => { results := [.lit (.bool false)], args := [d1, d2, d3] }
  | _ => none }
def RelaxErrorsWrongFalsely : Prop := relaxErrorsRow.holds Try.pinned (OpenSpec.ofChange relaxErrorsWrong)

/- THE SECOND FORM. 'bulk': how many values and letters a reading holds, each counted each time it is reached (what is shared counts as often as it is met; a slice's spare places count too). A statement '..UptoSaid' is the law's where the arguments, and the package variables that the reading takes, are together of bulk at most 1048576: NARROWER than '..Said'. Prove '..Said' where nothing that the law and all that it calls make is longer than what came in: it says more and counts as full. Else prove '..UptoSaid'. A law counts once. -/
mutual
def uptoBulk {H : Type} : DataW H → Nat
  | .lit (.string bytes) => bytes.length + 1
  | .lit _ => 1
  | .nil => 1
  | .ptr d => uptoBulk d + 1
  | .slice elems spare => uptoBulkAll elems + uptoBulkAll spare + 1
  | .agg parts => uptoBulkAll parts + 1
  | .iface _ d => uptoBulk d + 1
  | .map entries => uptoBulkEntries entries + 1
  | .held _ => 1
def uptoBulkAll {H : Type} : List (DataW H) → Nat
  | [] => 0
  | d :: r => uptoBulk d + uptoBulkAll r
def uptoBulkEntries {H : Type} : List (Lit × DataW H) → Nat
  | [] => 0
  | x :: r => uptoBulkEntry x + uptoBulkEntries r
def uptoBulkEntry {H : Type} : Lit × DataW H → Nat
  | (.string bytes, d) => bytes.length + uptoBulk d + 1
  | (_, d) => uptoBulk d + 1
 end
def uptoSmall : (H : Type) → List (DataW H) → Bool := fun _ ds => decide (uptoBulkAll ds ≤ 1048576)
def OpenSpec.upto (s : _root_.Go.ChangeSpec) : _root_.Go.OpenSpec := { _root_.Go.OpenSpec.ofChange s with cond := some uptoSmall }

/-- 'stratagemlaw34.RelaxAdmissible', WHERE WHAT IT READS IS OF BULK AT MOST 1048576: true; the input reads as it did. -/
def relaxAdmissibleUptoRow : OpenClaim := { program := "ytjpbkljnllkneaa", sum := "610db6e430717280516af810568753837c3b006ab1e4abf2ff60fcacf83f2aa6", func := "stratagem/stratagemlaw34.RelaxAdmissible", spec := "relaxAdmissible", unfollowed := true, recurses := true, apart := false, narrowed := true }
def RelaxAdmissibleUptoSaid : Prop := relaxAdmissibleUptoRow.holds Try.pinned (OpenSpec.upto relaxAdmissibleSpec)

/-- 'stratagemlaw34.RelaxConsistent', WHERE WHAT IT READS IS OF BULK AT MOST 1048576: true; the input reads as it did. -/
def relaxConsistentUptoRow : OpenClaim := { program := "ytjpbkljnllkneaa", sum := "610db6e430717280516af810568753837c3b006ab1e4abf2ff60fcacf83f2aa6", func := "stratagem/stratagemlaw34.RelaxConsistent", spec := "relaxConsistent", unfollowed := true, recurses := true, apart := false, narrowed := true }
def RelaxConsistentUptoSaid : Prop := relaxConsistentUptoRow.holds Try.pinned (OpenSpec.upto relaxConsistentSpec)

/-- 'stratagemlaw34.RelaxReached', WHERE WHAT IT READS IS OF BULK AT MOST 1048576: true; the input reads as it did. -/
def relaxReachedUptoRow : OpenClaim := { program := "ytjpbkljnllkneaa", sum := "610db6e430717280516af810568753837c3b006ab1e4abf2ff60fcacf83f2aa6", func := "stratagem/stratagemlaw34.RelaxReached", spec := "relaxReached", unfollowed := true, recurses := true, apart := false, narrowed := true }
def RelaxReachedUptoSaid : Prop := relaxReachedUptoRow.holds Try.pinned (OpenSpec.upto relaxReachedSpec)

/-- 'stratagemlaw34.RelaxSupporters', WHERE WHAT IT READS IS OF BULK AT MOST 1048576: true; the input reads as it did. -/
def relaxSupportersUptoRow : OpenClaim := { program := "ytjpbkljnllkneaa", sum := "610db6e430717280516af810568753837c3b006ab1e4abf2ff60fcacf83f2aa6", func := "stratagem/stratagemlaw34.RelaxSupporters", spec := "relaxSupporters", unfollowed := true, recurses := true, apart := false, narrowed := true }
def RelaxSupportersUptoSaid : Prop := relaxSupportersUptoRow.holds Try.pinned (OpenSpec.upto relaxSupportersSpec)

/-- 'stratagemlaw34.RelaxValues', WHERE WHAT IT READS IS OF BULK AT MOST 1048576: true; the input reads as it did. -/
def relaxValuesUptoRow : OpenClaim := { program := "ytjpbkljnllkneaa", sum := "610db6e430717280516af810568753837c3b006ab1e4abf2ff60fcacf83f2aa6", func := "stratagem/stratagemlaw34.RelaxValues", spec := "relaxValues", unfollowed := true, recurses := true, apart := false, narrowed := true }
def RelaxValuesUptoSaid : Prop := relaxValuesUptoRow.holds Try.pinned (OpenSpec.upto relaxValuesSpec)

/-- 'stratagemlaw34.RelaxLevels', WHERE WHAT IT READS IS OF BULK AT MOST 1048576: true; the input reads as it did. -/
def relaxLevelsUptoRow : OpenClaim := { program := "ytjpbkljnllkneaa", sum := "610db6e430717280516af810568753837c3b006ab1e4abf2ff60fcacf83f2aa6", func := "stratagem/stratagemlaw34.RelaxLevels", spec := "relaxLevels", unfollowed := true, recurses := true, apart := false, narrowed := true }
def RelaxLevelsUptoSaid : Prop := relaxLevelsUptoRow.holds Try.pinned (OpenSpec.upto relaxLevelsSpec)

/-- 'stratagemlaw34.RelaxMonotone', WHERE WHAT IT READS IS OF BULK AT MOST 1048576: true; the input reads as it did. -/
def relaxMonotoneUptoRow : OpenClaim := { program := "ytjpbkljnllkneaa", sum := "610db6e430717280516af810568753837c3b006ab1e4abf2ff60fcacf83f2aa6", func := "stratagem/stratagemlaw34.RelaxMonotone", spec := "relaxMonotone", unfollowed := true, recurses := true, apart := false, narrowed := true }
def RelaxMonotoneUptoSaid : Prop := relaxMonotoneUptoRow.holds Try.pinned (OpenSpec.upto relaxMonotoneSpec)

/-- 'stratagemlaw34.RelaxErrors', WHERE WHAT IT READS IS OF BULK AT MOST 1048576: true; the input reads as it did. -/
def relaxErrorsUptoRow : OpenClaim := { program := "ytjpbkljnllkneaa", sum := "610db6e430717280516af810568753837c3b006ab1e4abf2ff60fcacf83f2aa6", func := "stratagem/stratagemlaw34.RelaxErrors", spec := "relaxErrors", unfollowed := true, recurses := true, apart := false, narrowed := true }
def RelaxErrorsUptoSaid : Prop := relaxErrorsUptoRow.holds Try.pinned (OpenSpec.upto relaxErrorsSpec)

end Rows
end Go.Proofs.Ytjpbkljnllkneaa
