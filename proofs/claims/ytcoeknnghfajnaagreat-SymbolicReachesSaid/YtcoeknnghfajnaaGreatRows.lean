/-
  No cell of these rows narrows 'for every input' (looked for: loops, veiled, ifaces, maps, wideKeys, modest, calm, conditions, laid).
  DERIVED. THE GIVEN ROWS OF THIS SEAT. 3 by the template 'for every input the law returns true; each argument reads behind the call as it read before'; 0 by the template 'total and deterministic' (their statements: YtcoeknnghfajnaaGreatTotals.lean).
  GIVEN WITH THE SEED: the statements are not yours to turn. If you find one false, say at which input.
  Laid BY PROGRAM, IN A SANDBOX (cutbox-rows.mjs): the forced cells as the released guide's own fill.sh prints them over the translation 00d085629425d5fc… (all of the seat's roots in one cut). By AI agents, Wed Nov 11 2026. No macro, syntax, notation, axiom, sorry.
-/
import Derived.Test.YtcoeknnghfajnaaGreatChecked
import GoSem.Claim
import GoSem.ClaimJoined
import GoSem.ClaimMapViews
import Derived.JoinedTies
import Derived.KernelRfl
namespace Go.Proofs.YtcoeknnghfajnaaGreat
/- THE CELL 'sum', in the pinned program and in every row, IS THE sha256 OF THE DUMP (.gsa) THAT YtcoeknnghfajnaaGreatProg.lean LOADS. Nothing in Lean hashes anything: it is a label: what it is worth is what the hold of that sum in a sandbox is worth. -/
noncomputable def Tryz.pinned : Pinned := { name := "ytcoeknnghfajnaagreat", sum := "00d085629425d5fc83e6fa48cbd4d488b8fff43cb99962b62eb5d399b9aa2bce", checked := Tryz.checked }
namespace Rows
def none {H : Type} : Left H := { results := [], args := [] }

/-- 'stratagemlaw28.SymbolicReaches': WHATEVER THE INPUT: true; the input reads as it did. -/
def symbolicReachesSpec : ChangeSpec := { name := "symbolicReaches", fn := fun _ => fun
  | [d] => { results := [.lit (.bool true)], args := [d] }
  | _ => none }
def symbolicReachesRow : OpenClaim := { program := "ytcoeknnghfajnaagreat", sum := "00d085629425d5fc83e6fa48cbd4d488b8fff43cb99962b62eb5d399b9aa2bce", func := "stratagem/stratagemlaw28.SymbolicReaches", spec := "symbolicReaches", unfollowed := true, recurses := true, plainKeys := false, apart := false }
def SymbolicReachesSaid : Prop := symbolicReachesRow.holds Tryz.pinned (OpenSpec.ofChange symbolicReachesSpec)

/-- ITS FALSE NEIGHBOUR: 'it returns false'. Refute it at one input. -/
def symbolicReachesWrong : ChangeSpec := { name := "symbolicReaches", fn := fun _ => fun
  | [d] => { results := [.lit (.bool false)], args := [d] }
  | _ => none }
def SymbolicReachesWrongFalsely : Prop := symbolicReachesRow.holds Tryz.pinned (OpenSpec.ofChange symbolicReachesWrong)

/-- 'stratagemlaw28.SymbolicLimits': WHATEVER THE INPUT: true; the input reads as it did. -/
def symbolicLimitsSpec : ChangeSpec := { name := "symbolicLimits", fn := fun _ => fun
  | [d1, d2, d3] => { results := [.lit (.bool true)], args := [d1, d2, d3] }
  | _ => none }
def symbolicLimitsRow : OpenClaim := { program := "ytcoeknnghfajnaagreat", sum := "00d085629425d5fc83e6fa48cbd4d488b8fff43cb99962b62eb5d399b9aa2bce", func := "stratagem/stratagemlaw28.SymbolicLimits", spec := "symbolicLimits", unfollowed := true, recurses := true, plainKeys := false, apart := false }
def SymbolicLimitsSaid : Prop := symbolicLimitsRow.holds Tryz.pinned (OpenSpec.ofChange symbolicLimitsSpec)

/-- ITS FALSE NEIGHBOUR: 'it returns false'. Refute it at one input. -/
def symbolicLimitsWrong : ChangeSpec := { name := "symbolicLimits", fn := fun _ => fun
  | [d1, d2, d3] => { results := [.lit (.bool false)], args := [d1, d2, d3] }
  | _ => none }
def SymbolicLimitsWrongFalsely : Prop := symbolicLimitsRow.holds Tryz.pinned (OpenSpec.ofChange symbolicLimitsWrong)

/-- 'stratagemlaw28.SymbolicSets': WHATEVER THE INPUT: true; the input reads as it did. -/
def symbolicSetsSpec : ChangeSpec := { name := "symbolicSets", fn := fun _ => fun
  | [d1, d2] => { results := [.lit (.bool true)], args := [d1, d2] }
  | _ => none }
def symbolicSetsRow : OpenClaim := { program := "ytcoeknnghfajnaagreat", sum := "00d085629425d5fc83e6fa48cbd4d488b8fff43cb99962b62eb5d399b9aa2bce", func := "stratagem/stratagemlaw28.SymbolicSets", spec := "symbolicSets", unfollowed := true, recurses := true, plainKeys := false, apart := false }
def SymbolicSetsSaid : Prop := symbolicSetsRow.holds Tryz.pinned (OpenSpec.ofChange symbolicSetsSpec)

/-- ITS FALSE NEIGHBOUR: 'it returns false'. Refute it at one input. -/
def symbolicSetsWrong : ChangeSpec := { name := "symbolicSets", fn := fun _ => fun
  | [d1, d2] => { results := [.lit (.bool false)], args := [d1, d2] }
  | _ => none }
def SymbolicSetsWrongFalsely : Prop := symbolicSetsRow.holds Tryz.pinned (OpenSpec.ofChange symbolicSetsWrong)

/- THE SECOND FORM. 'bulk': how many values and letters a reading holds, each counted each time it is reached (what is shared counts as often as it is met; a slice's spare places count too). A statement '..UptoSaid' is the law's where the arguments, and the package variables that the reading takes, are together of bulk at most 1048576: NARROWER than '..Said'. Prove '..Said' where nothing that the law and all that it calls make is longer than what came in: it says more and counts as full. Else prove '..UptoSaid'. A law counts once. -/
mutual
def uptoBulk {H : Type} : DataW H → Nat
  | .lit (.string bytes) => bytes.length + 1
  | .lit _ => 1
  | .nil => 1
  | .ptr d => uptoBulk d + 1
  | .slice elems spare => uptoBulkAll elems + uptoBulkAll spare + 1
  | .agg parts => uptoBulkAll parts + 1
  | .iface _ d => uptoBulk d + 1
  | .map entries => uptoBulkEntries entries + 1
  | .held _ => 1
def uptoBulkAll {H : Type} : List (DataW H) → Nat
  | [] => 0
  | d :: r => uptoBulk d + uptoBulkAll r
def uptoBulkEntries {H : Type} : List (Lit × DataW H) → Nat
  | [] => 0
  | x :: r => uptoBulkEntry x + uptoBulkEntries r
def uptoBulkEntry {H : Type} : Lit × DataW H → Nat
  | (.string bytes, d) => bytes.length + uptoBulk d + 1
  | (_, d) => uptoBulk d + 1
 end
def uptoSmall : (H : Type) → List (DataW H) → Bool := fun _ ds => decide (uptoBulkAll ds ≤ 1048576)
def OpenSpec.upto (s : _root_.Go.ChangeSpec) : _root_.Go.OpenSpec := { _root_.Go.OpenSpec.ofChange s with cond := some uptoSmall }

/-- 'stratagemlaw28.SymbolicReaches', WHERE WHAT IT READS IS OF BULK AT MOST 1048576: true; the input reads as it did. -/
def symbolicReachesUptoRow : OpenClaim := { program := "ytcoeknnghfajnaagreat", sum := "00d085629425d5fc83e6fa48cbd4d488b8fff43cb99962b62eb5d399b9aa2bce", func := "stratagem/stratagemlaw28.SymbolicReaches", spec := "symbolicReaches", unfollowed := true, recurses := true, plainKeys := false, apart := false, narrowed := true }
def SymbolicReachesUptoSaid : Prop := symbolicReachesUptoRow.holds Tryz.pinned (OpenSpec.upto symbolicReachesSpec)

/-- 'stratagemlaw28.SymbolicLimits', WHERE WHAT IT READS IS OF BULK AT MOST 1048576: true; the input reads as it did. -/
def symbolicLimitsUptoRow : OpenClaim := { program := "ytcoeknnghfajnaagreat", sum := "00d085629425d5fc83e6fa48cbd4d488b8fff43cb99962b62eb5d399b9aa2bce", func := "stratagem/stratagemlaw28.SymbolicLimits", spec := "symbolicLimits", unfollowed := true, recurses := true, plainKeys := false, apart := false, narrowed := true }
def SymbolicLimitsUptoSaid : Prop := symbolicLimitsUptoRow.holds Tryz.pinned (OpenSpec.upto symbolicLimitsSpec)

/-- 'stratagemlaw28.SymbolicSets', WHERE WHAT IT READS IS OF BULK AT MOST 1048576: true; the input reads as it did. -/
def symbolicSetsUptoRow : OpenClaim := { program := "ytcoeknnghfajnaagreat", sum := "00d085629425d5fc83e6fa48cbd4d488b8fff43cb99962b62eb5d399b9aa2bce", func := "stratagem/stratagemlaw28.SymbolicSets", spec := "symbolicSets", unfollowed := true, recurses := true, plainKeys := false, apart := false, narrowed := true }
def SymbolicSetsUptoSaid : Prop := symbolicSetsUptoRow.holds Tryz.pinned (OpenSpec.upto symbolicSetsSpec)

end Rows
end Go.Proofs.YtcoeknnghfajnaaGreat
