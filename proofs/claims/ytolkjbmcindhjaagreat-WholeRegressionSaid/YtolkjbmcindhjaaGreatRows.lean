/-
  No cell of these rows narrows 'for every input' (looked for: loops, veiled, ifaces, maps, wideKeys, modest, calm, conditions, laid).
  DERIVED. THE GIVEN ROWS OF THIS SEAT. 3 by the template 'for every input the law returns true; each argument reads behind the call as it read before'; 0 by the template 'total and deterministic' (their statements: YtolkjbmcindhjaaGreatTotals.lean).
  GIVEN WITH THE SEED: the statements are not yours to turn. If you find one false, say at which input.
  Laid BY PROGRAM, IN A SANDBOX (cutbox-rows.mjs): the forced cells as the released guide's own fill.sh prints them over the translation 1ad2e8e8480be4ab… (all of the seat's roots in one cut). By AI agents, Wed Nov 11 2026. No macro, syntax, notation, axiom, sorry.
-/
import Derived.Test.YtolkjbmcindhjaaGreatChecked
import GoSem.Claim
import GoSem.ClaimJoined
import GoSem.ClaimMapViews
import Derived.JoinedTies
import Derived.KernelRfl
namespace Go.Proofs.YtolkjbmcindhjaaGreat
/- THE CELL 'sum', in the pinned program and in every row, IS THE sha256 OF THE DUMP (.gsa) THAT YtolkjbmcindhjaaGreatProg.lean LOADS. Nothing in Lean hashes anything: it is a label: what it is worth is what the hold of that sum in a sandbox is worth. -/
noncomputable def Tryz.pinned : Pinned := { name := "ytolkjbmcindhjaagreat", sum := "1ad2e8e8480be4ab91e5207869a4115862d611662c5b70ccf1681232cb93c336", checked := Tryz.checked }
namespace Rows
def none {H : Type} : Left H := { results := [], args := [] }

/-- 'stratagemtop.WholeSaturated': WHATEVER THE INPUT: true; the input reads as it did. -/
def wholeSaturatedSpec : ChangeSpec := { name := "wholeSaturated", fn := fun _ => fun
  | [d1, d2, d3] => { results := [.lit (.bool true)], args := [d1, d2, d3] }
  | _ => none }
def wholeSaturatedRow : OpenClaim := { program := "ytolkjbmcindhjaagreat", sum := "1ad2e8e8480be4ab91e5207869a4115862d611662c5b70ccf1681232cb93c336", func := "stratagem/stratagemtop.WholeSaturated", spec := "wholeSaturated", unfollowed := true, recurses := true, plainKeys := false, apart := false }
def WholeSaturatedSaid : Prop := wholeSaturatedRow.holds Tryz.pinned (OpenSpec.ofChange wholeSaturatedSpec)

/-- ITS FALSE NEIGHBOUR: 'it returns false'. Refute it at one input. -/
def wholeSaturatedWrong : ChangeSpec := { name := "wholeSaturated", fn := fun _ => fun
  | [d1, d2, d3] => { results := [.lit (.bool false)], args := [d1, d2, d3] }
  | _ => none }
def WholeSaturatedWrongFalsely : Prop := wholeSaturatedRow.holds Tryz.pinned (OpenSpec.ofChange wholeSaturatedWrong)

/-- 'stratagemtop.WholeLandmarks': WHATEVER THE INPUT: true; the input reads as it did. -/
def wholeLandmarksSpec : ChangeSpec := { name := "wholeLandmarks", fn := fun _ => fun
  | [d1, d2] => { results := [.lit (.bool true)], args := [d1, d2] }
  | _ => none }
def wholeLandmarksRow : OpenClaim := { program := "ytolkjbmcindhjaagreat", sum := "1ad2e8e8480be4ab91e5207869a4115862d611662c5b70ccf1681232cb93c336", func := "stratagem/stratagemtop.WholeLandmarks", spec := "wholeLandmarks", unfollowed := true, recurses := true, plainKeys := false, apart := false }
def WholeLandmarksSaid : Prop := wholeLandmarksRow.holds Tryz.pinned (OpenSpec.ofChange wholeLandmarksSpec)

/-- ITS FALSE NEIGHBOUR: 'it returns false'. Refute it at one input. -/
def wholeLandmarksWrong : ChangeSpec := { name := "wholeLandmarks", fn := fun _ => fun
  | [d1, d2] => { results := [.lit (.bool false)], args := [d1, d2] }
  | _ => none }
def WholeLandmarksWrongFalsely : Prop := wholeLandmarksRow.holds Tryz.pinned (OpenSpec.ofChange wholeLandmarksWrong)

/-- 'stratagemtop.WholeRegression': WHATEVER THE INPUT: true; the input reads as it did. -/
def wholeRegressionSpec : ChangeSpec := { name := "wholeRegression", fn := fun _ => fun
  | [d1, d2, d3] => { results := [.lit (.bool true)], args := [d1, d2, d3] }
  | _ => none }
def wholeRegressionRow : OpenClaim := { program := "ytolkjbmcindhjaagreat", sum := "1ad2e8e8480be4ab91e5207869a4115862d611662c5b70ccf1681232cb93c336", func := "stratagem/stratagemtop.WholeRegression", spec := "wholeRegression", inPlace := ["slices.overlaps[[]stratagem/api.Fact]"], unfollowed := true, recurses := true, plainKeys := false, apart := false }
def WholeRegressionSaid : Prop := wholeRegressionRow.holds Tryz.pinned (OpenSpec.ofChange wholeRegressionSpec)

/-- ITS FALSE NEIGHBOUR: 'it returns false'. Refute it at one input. -/
def wholeRegressionWrong : ChangeSpec := { name := "wholeRegression", fn := fun _ => fun
  | [d1, d2, d3] => { results := [.lit (.bool false)], args := [d1, d2, d3] }
  | _ => none }
def WholeRegressionWrongFalsely : Prop := wholeRegressionRow.holds Tryz.pinned (OpenSpec.ofChange wholeRegressionWrong)

/- THE SECOND FORM. 'bulk': how many values and letters a reading holds, each counted each time it is reached (what is shared counts as often as it is met; a slice's spare places count too). A statement '..UptoSaid' is the law's where the arguments, and the package variables that the reading takes, are together of bulk at most 1048576: NARROWER than '..Said'. Prove '..Said' where nothing that the law and all that it calls make is longer than what came in: it says more and counts as full. Else prove '..UptoSaid'. A law counts once. -/
mutual
def uptoBulk {H : Type} : DataW H → Nat
  | .lit (.string bytes) => bytes.length + 1
  | .lit _ => 1
  | .nil => 1
  | .ptr d => uptoBulk d + 1
  | .slice elems spare => uptoBulkAll elems + uptoBulkAll spare + 1
  | .agg parts => uptoBulkAll parts + 1
  | .iface _ d => uptoBulk d + 1
  | .map entries => uptoBulkEntries entries + 1
  | .held _ => 1
def uptoBulkAll {H : Type} : List (DataW H) → Nat
  | [] => 0
  | d :: r => uptoBulk d + uptoBulkAll r
def uptoBulkEntries {H : Type} : List (Lit × DataW H) → Nat
  | [] => 0
  | x :: r => uptoBulkEntry x + uptoBulkEntries r
def uptoBulkEntry {H : Type} : Lit × DataW H → Nat
  | (.string bytes, d) => bytes.length + uptoBulk d + 1
  | (_, d) => uptoBulk d + 1
 end
def uptoSmall : (H : Type) → List (DataW H) → Bool := fun _ ds => decide (uptoBulkAll ds ≤ 1048576)
def OpenSpec.upto (s : _root_.Go.ChangeSpec) : _root_.Go.OpenSpec := { _root_.Go.OpenSpec.ofChange s with cond := some uptoSmall }

/-- 'stratagemtop.WholeSaturated', WHERE WHAT IT READS IS OF BULK AT MOST 1048576: true; the input reads as it did. -/
def wholeSaturatedUptoRow : OpenClaim := { program := "ytolkjbmcindhjaagreat", sum := "1ad2e8e8480be4ab91e5207869a4115862d611662c5b70ccf1681232cb93c336", func := "stratagem/stratagemtop.WholeSaturated", spec := "wholeSaturated", unfollowed := true, recurses := true, plainKeys := false, apart := false, narrowed := true }
def WholeSaturatedUptoSaid : Prop := wholeSaturatedUptoRow.holds Tryz.pinned (OpenSpec.upto wholeSaturatedSpec)

/-- 'stratagemtop.WholeLandmarks', WHERE WHAT IT READS IS OF BULK AT MOST 1048576: true; the input reads as it did. -/
def wholeLandmarksUptoRow : OpenClaim := { program := "ytolkjbmcindhjaagreat", sum := "1ad2e8e8480be4ab91e5207869a4115862d611662c5b70ccf1681232cb93c336", func := "stratagem/stratagemtop.WholeLandmarks", spec := "wholeLandmarks", unfollowed := true, recurses := true, plainKeys := false, apart := false, narrowed := true }
def WholeLandmarksUptoSaid : Prop := wholeLandmarksUptoRow.holds Tryz.pinned (OpenSpec.upto wholeLandmarksSpec)

/-- 'stratagemtop.WholeRegression', WHERE WHAT IT READS IS OF BULK AT MOST 1048576: true; the input reads as it did. -/
def wholeRegressionUptoRow : OpenClaim := { program := "ytolkjbmcindhjaagreat", sum := "1ad2e8e8480be4ab91e5207869a4115862d611662c5b70ccf1681232cb93c336", func := "stratagem/stratagemtop.WholeRegression", spec := "wholeRegression", inPlace := ["slices.overlaps[[]stratagem/api.Fact]"], unfollowed := true, recurses := true, plainKeys := false, apart := false, narrowed := true }
def WholeRegressionUptoSaid : Prop := wholeRegressionUptoRow.holds Tryz.pinned (OpenSpec.upto wholeRegressionSpec)

end Rows
end Go.Proofs.YtolkjbmcindhjaaGreat
