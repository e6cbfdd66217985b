/-
  No cell of these rows narrows 'for every input' (looked for: loops, veiled, ifaces, maps, wideKeys, modest, calm, conditions, laid).
  DERIVED. THE GIVEN ROWS OF THIS SEAT. 4 by the template 'for every input the law returns true; each argument reads behind the call as it read before'; 0 by the template 'total and deterministic' (their statements: YtcoeknnghfajnaaTotals.lean).
  GIVEN WITH THE SEED: the statements are not yours to turn. If you find one false, say at which input.
  Laid BY PROGRAM, IN A SANDBOX (cutbox-rows.mjs): the forced cells as the released guide's own fill.sh prints them over the translation 3ee1d578d384b3d0… (all of the seat's roots in one cut). By AI agents, Wed Nov 11 2026. No macro, syntax, notation, axiom, sorry.
-/
import Derived.Test.YtcoeknnghfajnaaChecked
import GoSem.Claim
import GoSem.ClaimJoined
import GoSem.ClaimMapViews
import Derived.JoinedTies
import Derived.KernelRfl
namespace Go.Proofs.Ytcoeknnghfajnaa
/- THE CELL 'sum', in the pinned program and in every row, IS THE sha256 OF THE DUMP (.gsa) THAT YtcoeknnghfajnaaProg.lean LOADS. Nothing in Lean hashes anything: it is a label: what it is worth is what the hold of that sum in a sandbox is worth. -/
noncomputable def Try.pinned : Pinned := { name := "ytcoeknnghfajnaa", sum := "3ee1d578d384b3d08e492cc6e8e39876f6e5617c0ea836be8f2ffa474663424c", checked := Try.checked }
namespace Rows
def none {H : Type} : Left H := { results := [], args := [] }

/-- 'stratagemlaw28.SymbolicAlgebra': WHATEVER THE INPUT: true; the input reads as it did. -/
def symbolicAlgebraSpec : ChangeSpec := { name := "symbolicAlgebra", fn := fun _ => fun
  | [d1, d2, d3] => { results := [.lit (.bool true)], args := [d1, d2, d3] }
  | _ => none }
def symbolicAlgebraRow : OpenClaim := { program := "ytcoeknnghfajnaa", sum := "3ee1d578d384b3d08e492cc6e8e39876f6e5617c0ea836be8f2ffa474663424c", func := "stratagem/stratagemlaw28.SymbolicAlgebra", spec := "symbolicAlgebra", unfollowed := true, recurses := true, plainKeys := false, apart := false }
def SymbolicAlgebraSaid : Prop := symbolicAlgebraRow.holds Try.pinned (OpenSpec.ofChange symbolicAlgebraSpec)

/-- ITS FALSE NEIGHBOUR: 'it returns false'. Refute it at one input. -/
def symbolicAlgebraWrong : ChangeSpec := { name := "symbolicAlgebra", fn := fun _ => fun
  | [d1, d2, d3] => { results := [.lit (.bool false)], args := [d1, d2, d3] }
  | _ => none }
def SymbolicAlgebraWrongFalsely : Prop := symbolicAlgebraRow.holds Try.pinned (OpenSpec.ofChange symbolicAlgebraWrong)

/-- 'stratagemlaw28.SymbolicImages': WHATEVER THE INPUT: true; the input reads as it did. -/
def symbolicImagesSpec : ChangeSpec := { name := "symbolicImages", fn := fun _ => fun
  | [d1, d2, d3, d4] => { results := [.lit (.bool true)], args := [d1, d2, d3, d4] }
  | _ => none }
def symbolicImagesRow : OpenClaim := { program := "ytcoeknnghfajnaa", sum := "3ee1d578d384b3d08e492cc6e8e39876f6e5617c0ea836be8f2ffa474663424c", func := "stratagem/stratagemlaw28.SymbolicImages", spec := "symbolicImages", unfollowed := true, recurses := true, plainKeys := false, apart := false }
def SymbolicImagesSaid : Prop := symbolicImagesRow.holds Try.pinned (OpenSpec.ofChange symbolicImagesSpec)

/-- ITS FALSE NEIGHBOUR: 'it returns false'. Refute it at one input. -/
def symbolicImagesWrong : ChangeSpec := { name := "symbolicImages", fn := fun _ => fun
  | [d1, d2, d3, d4] => { results := [.lit (.bool false)], args := [d1, d2, d3, d4] }
  | _ => none }
def SymbolicImagesWrongFalsely : Prop := symbolicImagesRow.holds Try.pinned (OpenSpec.ofChange symbolicImagesWrong)

/-- 'stratagemlaw28.SymbolicNil': WHATEVER THE INPUT: true; the input reads as it did. -/
def symbolicNilSpec : ChangeSpec := { name := "symbolicNil", fn := fun _ => fun
  | [d1, d2] => { results := [.lit (.bool true)], args := [d1, d2] }
  | _ => none }
def symbolicNilRow : OpenClaim := { program := "ytcoeknnghfajnaa", sum := "3ee1d578d384b3d08e492cc6e8e39876f6e5617c0ea836be8f2ffa474663424c", func := "stratagem/stratagemlaw28.SymbolicNil", spec := "symbolicNil", unfollowed := true, recurses := true, plainKeys := false, apart := false }
def SymbolicNilSaid : Prop := symbolicNilRow.holds Try.pinned (OpenSpec.ofChange symbolicNilSpec)

/-- ITS FALSE NEIGHBOUR: 'it returns false'. Refute it at one input. -/
def symbolicNilWrong : ChangeSpec := { name := "symbolicNil", fn := fun _ => fun
  | [d1, d2] => { results := [.lit (.bool false)], args := [d1, d2] }
  | _ => none }
def SymbolicNilWrongFalsely : Prop := symbolicNilRow.holds Try.pinned (OpenSpec.ofChange symbolicNilWrong)

/-- 'stratagemlaw28.SymbolicLarge': WHATEVER THE INPUT: true; the input reads as it did. -/
def symbolicLargeSpec : ChangeSpec := { name := "symbolicLarge", fn := fun _ => fun
  | [d1, d2] => { results := [.lit (.bool true)], args := [d1, d2] }
  | _ => none }
def symbolicLargeRow : OpenClaim := { program := "ytcoeknnghfajnaa", sum := "3ee1d578d384b3d08e492cc6e8e39876f6e5617c0ea836be8f2ffa474663424c", func := "stratagem/stratagemlaw28.SymbolicLarge", spec := "symbolicLarge", unfollowed := true, recurses := true, plainKeys := false, apart := false }
def SymbolicLargeSaid : Prop := symbolicLargeRow.holds Try.pinned (OpenSpec.ofChange symbolicLargeSpec)

/-- ITS FALSE NEIGHBOUR: 'it returns false'. Refute it at one input. -/
def symbolicLargeWrong : ChangeSpec := { name := "symbolicLarge", fn := fun _ => fun
  | [d1, d2] => { results := [.lit (.bool false)], args := [d1, d2] }
  | _ => none }
def SymbolicLargeWrongFalsely : Prop := symbolicLargeRow.holds Try.pinned (OpenSpec.ofChange symbolicLargeWrong)

/- THE SECOND FORM. 'bulk': how many values and letters a reading holds, each counted each time it is reached (what is shared counts as often as it is met; a slice's spare places count too). A statement '..UptoSaid' is the law's where the arguments, and the package variables that the reading takes, are together of bulk at most 1048576: NARROWER than '..Said'. Prove '..Said' where nothing that the law and all that it calls make is longer than what came in: it says more and counts as full. Else prove '..UptoSaid'. A law counts once. -/
mutual
def uptoBulk {H : Type} : DataW H → Nat
  | .lit (.string bytes) => bytes.length + 1
  | .lit _ => 1
  | .nil => 1
  | .ptr d => uptoBulk d + 1
  | .slice elems spare => uptoBulkAll elems + uptoBulkAll spare + 1
  | .agg parts => uptoBulkAll parts + 1
  | .iface _ d => uptoBulk d + 1
  | .map entries => uptoBulkEntries entries + 1
  | .held _ => 1
def uptoBulkAll {H : Type} : List (DataW H) → Nat
  | [] => 0
  | d :: r => uptoBulk d + uptoBulkAll r
def uptoBulkEntries {H : Type} : List (Lit × DataW H) → Nat
  | [] => 0
  | x :: r => uptoBulkEntry x + uptoBulkEntries r
def uptoBulkEntry {H : Type} : Lit × DataW H → Nat
  | (.string bytes, d) => bytes.length + uptoBulk d + 1
  | (_, d) => uptoBulk d + 1
 end
def uptoSmall : (H : Type) → List (DataW H) → Bool := fun _ ds => decide (uptoBulkAll ds ≤ 1048576)
def OpenSpec.upto (s : _root_.Go.ChangeSpec) : _root_.Go.OpenSpec := { _root_.Go.OpenSpec.ofChange s with cond := some uptoSmall }

/-- 'stratagemlaw28.SymbolicAlgebra', WHERE WHAT IT READS IS OF BULK AT MOST 1048576: true; the input reads as it did. -/
def symbolicAlgebraUptoRow : OpenClaim := { program := "ytcoeknnghfajnaa", sum := "3ee1d578d384b3d08e492cc6e8e39876f6e5617c0ea836be8f2ffa474663424c", func := "stratagem/stratagemlaw28.SymbolicAlgebra", spec := "symbolicAlgebra", unfollowed := true, recurses := true, plainKeys := false, apart := false, narrowed := true }
def SymbolicAlgebraUptoSaid : Prop := symbolicAlgebraUptoRow.holds Try.pinned (OpenSpec.upto symbolicAlgebraSpec)

/-- 'stratagemlaw28.SymbolicImages', WHERE WHAT IT READS IS OF BULK AT MOST 1048576: true; the input reads as it did. -/
def symbolicImagesUptoRow : OpenClaim := { program := "ytcoeknnghfajnaa", sum := "3ee1d578d384b3d08e492cc6e8e39876f6e5617c0ea836be8f2ffa474663424c", func := "stratagem/stratagemlaw28.SymbolicImages", spec := "symbolicImages", unfollowed := true, recurses := true, plainKeys := false, apart := false, narrowed := true }
def SymbolicImagesUptoSaid : Prop := symbolicImagesUptoRow.holds Try.pinned (OpenSpec.upto symbolicImagesSpec)

/-- 'stratagemlaw28.SymbolicNil', WHERE WHAT IT READS IS OF BULK AT MOST 1048576: true; the input reads as it did. -/
def symbolicNilUptoRow : OpenClaim := { program := "ytcoeknnghfajnaa", sum := "3ee1d578d384b3d08e492cc6e8e39876f6e5617c0ea836be8f2ffa474663424c", func := "stratagem/stratagemlaw28.SymbolicNil", spec := "symbolicNil", unfollowed := true, recurses := true, plainKeys := false, apart := false, narrowed := true }
def SymbolicNilUptoSaid : Prop := symbolicNilUptoRow.holds Try.pinned (OpenSpec.upto symbolicNilSpec)

/-- 'stratagemlaw28.SymbolicLarge', WHERE WHAT IT READS IS OF BULK AT MOST 1048576: true; the input reads as it did. -/
def symbolicLargeUptoRow : OpenClaim := { program := "ytcoeknnghfajnaa", sum := "3ee1d578d384b3d08e492cc6e8e39876f6e5617c0ea836be8f2ffa474663424c", func := "stratagem/stratagemlaw28.SymbolicLarge", spec := "symbolicLarge", unfollowed := true, recurses := true, plainKeys := false, apart := false, narrowed := true }
def SymbolicLargeUptoSaid : Prop := symbolicLargeUptoRow.holds Try.pinned (OpenSpec.upto symbolicLargeSpec)

end Rows
end Go.Proofs.Ytcoeknnghfajnaa
