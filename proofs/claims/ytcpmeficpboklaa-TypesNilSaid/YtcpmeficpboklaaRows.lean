/-
  No cell of these rows narrows 'for every input' (looked for: loops, veiled, ifaces, maps, wideKeys, modest, calm, conditions, laid).
  DERIVED. THE GIVEN ROWS OF THIS SEAT. 10 by the template 'for every input the law returns true; each argument reads behind the call as it read before'; 0 by the template 'total and deterministic' (their statements: YtcpmeficpboklaaTotals.lean).
  GIVEN WITH THE SEED: the statements are not yours to turn. If you find one false, say at which input.
  Laid BY PROGRAM, IN A SANDBOX (cutbox-rows.mjs): the forced cells as the released guide's own fill.sh prints them over the translation e2b3cfd666d1e7d5… (all of the seat's roots in one cut). By AI agents, Wed Nov 11 2026. No macro, syntax, notation, axiom, sorry.
-/
import Derived.Test.YtcpmeficpboklaaChecked
import GoSem.Claim
import GoSem.ClaimJoined
import GoSem.ClaimMapViews
import Derived.JoinedTies
import Derived.KernelRfl
namespace Go.Proofs.Ytcpmeficpboklaa
/- THE CELL 'sum', in the pinned program and in every row, IS THE sha256 OF THE DUMP (.gsa) THAT YtcpmeficpboklaaProg.lean LOADS. Nothing in Lean hashes anything: it is a label: what it is worth is what the hold of that sum in a sandbox is worth. -/
noncomputable def Try.pinned : Pinned := { name := "ytcpmeficpboklaa", sum := "e2b3cfd666d1e7d5c2542463f06dd85f50b8fdf934ada2f6ea9d717614fc1156", checked := Try.checked }
namespace Rows
def none {H : Type} : Left H := { results := [], args := [] }

/-- 'stratagemlaw07.TypesDeclared': WHATEVER THE INPUT: true; the input reads as it did. -/
def typesDeclaredSpec : ChangeSpec := { name := "typesDeclared", fn := fun _ => fun
  | [d] => { results := [.lit (.bool true)], args := [d] }
  | _ => none }
def typesDeclaredRow : OpenClaim := { program := "ytcpmeficpboklaa", sum := "e2b3cfd666d1e7d5c2542463f06dd85f50b8fdf934ada2f6ea9d717614fc1156", func := "stratagem/stratagemlaw07.TypesDeclared", spec := "typesDeclared", inPlace := ["internal/bytealg.IndexByteString", "internal/bytealg.IndexString"], named := ["internal/bytealg.MaxLen"], apart := false }
def TypesDeclaredSaid : Prop := typesDeclaredRow.holds Try.pinned (OpenSpec.ofChange typesDeclaredSpec)

/-- ITS FALSE NEIGHBOUR: 'it returns false'. Refute it at one input. -/
def typesDeclaredWrong : ChangeSpec := { name := "typesDeclared", fn := fun _ => fun
  | [d] => { results := [.lit (.bool false)], args := [d] }
  | _ => none }
def TypesDeclaredWrongFalsely : Prop := typesDeclaredRow.holds Try.pinned (OpenSpec.ofChange typesDeclaredWrong)

/-- 'stratagemlaw07.TypesRelated': WHATEVER THE INPUT: true; the input reads as it did. -/
def typesRelatedSpec : ChangeSpec := { name := "typesRelated", fn := fun _ => fun
  | [d] => { results := [.lit (.bool true)], args := [d] }
  | _ => none }
def typesRelatedRow : OpenClaim := { program := "ytcpmeficpboklaa", sum := "e2b3cfd666d1e7d5c2542463f06dd85f50b8fdf934ada2f6ea9d717614fc1156", func := "stratagem/stratagemlaw07.TypesRelated", spec := "typesRelated", inPlace := ["internal/bytealg.IndexByteString", "internal/bytealg.IndexString"], named := ["internal/bytealg.MaxLen"], apart := false }
def TypesRelatedSaid : Prop := typesRelatedRow.holds Try.pinned (OpenSpec.ofChange typesRelatedSpec)

/-- ITS FALSE NEIGHBOUR: 'it returns false'. Refute it at one input. -/
def typesRelatedWrong : ChangeSpec := { name := "typesRelated", fn := fun _ => fun
  | [d] => { results := [.lit (.bool false)], args := [d] }
  | _ => none }
def TypesRelatedWrongFalsely : Prop := typesRelatedRow.holds Try.pinned (OpenSpec.ofChange typesRelatedWrong)

/-- 'stratagemlaw07.TypesClimbed': WHATEVER THE INPUT: true; the input reads as it did. -/
def typesClimbedSpec : ChangeSpec := { name := "typesClimbed", fn := fun _ => fun
  | [d] => { results := [.lit (.bool true)], args := [d] }
  | _ => none }
def typesClimbedRow : OpenClaim := { program := "ytcpmeficpboklaa", sum := "e2b3cfd666d1e7d5c2542463f06dd85f50b8fdf934ada2f6ea9d717614fc1156", func := "stratagem/stratagemlaw07.TypesClimbed", spec := "typesClimbed", inPlace := ["internal/bytealg.IndexByteString", "internal/bytealg.IndexString"], named := ["internal/bytealg.MaxLen"], apart := false }
def TypesClimbedSaid : Prop := typesClimbedRow.holds Try.pinned (OpenSpec.ofChange typesClimbedSpec)

/-- ITS FALSE NEIGHBOUR: 'it returns false'. Refute it at one input. -/
def typesClimbedWrong : ChangeSpec := { name := "typesClimbed", fn := fun _ => fun
  | [d] => { results := [.lit (.bool false)], args := [d] }
  | _ => none }
def TypesClimbedWrongFalsely : Prop := typesClimbedRow.holds Try.pinned (OpenSpec.ofChange typesClimbedWrong)

/-- 'stratagemlaw07.TypesObjects': WHATEVER THE INPUT: true; the input reads as it did. -/
def typesObjectsSpec : ChangeSpec := { name := "typesObjects", fn := fun _ => fun
  | [d1, d2, d3] => { results := [.lit (.bool true)], args := [d1, d2, d3] }
  | _ => none }
def typesObjectsRow : OpenClaim := { program := "ytcpmeficpboklaa", sum := "e2b3cfd666d1e7d5c2542463f06dd85f50b8fdf934ada2f6ea9d717614fc1156", func := "stratagem/stratagemlaw07.TypesObjects", spec := "typesObjects", inPlace := ["internal/bytealg.IndexByteString", "internal/bytealg.IndexString"], named := ["internal/bytealg.MaxLen"], apart := false }
def TypesObjectsSaid : Prop := typesObjectsRow.holds Try.pinned (OpenSpec.ofChange typesObjectsSpec)

/-- ITS FALSE NEIGHBOUR: 'it returns false'. Refute it at one input. -/
def typesObjectsWrong : ChangeSpec := { name := "typesObjects", fn := fun _ => fun
  | [d1, d2, d3] => { results := [.lit (.bool false)], args := [d1, d2, d3] }
  | _ => none }
def TypesObjectsWrongFalsely : Prop := typesObjectsRow.holds Try.pinned (OpenSpec.ofChange typesObjectsWrong)

/-- 'stratagemlaw07.TypesNarrowed': WHATEVER THE INPUT: true; the input reads as it did. -/
def typesNarrowedSpec : ChangeSpec := { name := "typesNarrowed", fn := fun _ => fun
  | [d1, d2] => { results := [.lit (.bool true)], args := [d1, d2] }
  | _ => none }
def typesNarrowedRow : OpenClaim := { program := "ytcpmeficpboklaa", sum := "e2b3cfd666d1e7d5c2542463f06dd85f50b8fdf934ada2f6ea9d717614fc1156", func := "stratagem/stratagemlaw07.TypesNarrowed", spec := "typesNarrowed", inPlace := ["internal/bytealg.IndexByteString", "internal/bytealg.IndexString"], named := ["internal/bytealg.MaxLen"], apart := false }
def TypesNarrowedSaid : Prop := typesNarrowedRow.holds Try.pinned (OpenSpec.ofChange typesNarrowedSpec)

/-- ITS FALSE NEIGHBOUR: 'it returns false'. Refute it at one input. -/
def typesNarrowedWrong : ChangeSpec := { name := "typesNarrowed", fn := fun _ => fun
  | [d1, d2] => { results := [.lit (.bool false)], args := [d1, d2] }
  | _ => none }
def TypesNarrowedWrongFalsely : Prop := typesNarrowedRow.holds Try.pinned (OpenSpec.ofChange typesNarrowedWrong)

/-- 'stratagemlaw07.TypesCommon': WHATEVER THE INPUT: true; the input reads as it did. -/
def typesCommonSpec : ChangeSpec := { name := "typesCommon", fn := fun _ => fun
  | [d] => { results := [.lit (.bool true)], args := [d] }
  | _ => none }
def typesCommonRow : OpenClaim := { program := "ytcpmeficpboklaa", sum := "e2b3cfd666d1e7d5c2542463f06dd85f50b8fdf934ada2f6ea9d717614fc1156", func := "stratagem/stratagemlaw07.TypesCommon", spec := "typesCommon", inPlace := ["internal/bytealg.IndexByteString", "internal/bytealg.IndexString"], named := ["internal/bytealg.MaxLen"], apart := false }
def TypesCommonSaid : Prop := typesCommonRow.holds Try.pinned (OpenSpec.ofChange typesCommonSpec)

/-- ITS FALSE NEIGHBOUR: 'it returns false'. Refute it at one input. -/
def typesCommonWrong : ChangeSpec := { name := "typesCommon", fn := fun _ => fun
  | [d] => { results := [.lit (.bool false)], args := [d] }
  | _ => none }
def TypesCommonWrongFalsely : Prop := typesCommonRow.holds Try.pinned (OpenSpec.ofChange typesCommonWrong)

/-- 'stratagemlaw07.TypesNames': WHATEVER THE INPUT: true; the input reads as it did. -/
def typesNamesSpec : ChangeSpec := { name := "typesNames", fn := fun _ => fun
  | [d] => { results := [.lit (.bool true)], args := [d] }
  | _ => none }
def typesNamesRow : OpenClaim := { program := "ytcpmeficpboklaa", sum := "e2b3cfd666d1e7d5c2542463f06dd85f50b8fdf934ada2f6ea9d717614fc1156", func := "stratagem/stratagemlaw07.TypesNames", spec := "typesNames", inPlace := ["internal/bytealg.IndexByteString", "internal/bytealg.IndexString"], unfollowed := true, recurses := true, named := ["internal/bytealg.MaxLen"], apart := false }
def TypesNamesSaid : Prop := typesNamesRow.holds Try.pinned (OpenSpec.ofChange typesNamesSpec)

/-- ITS FALSE NEIGHBOUR: 'it returns false'. Refute it at one input. -/
def typesNamesWrong : ChangeSpec := { name := "typesNames", fn := fun _ => fun
  | [d] => { results := [.lit (.bool false)], args := [d] }
  | _ => none }
def TypesNamesWrongFalsely : Prop := typesNamesRow.holds Try.pinned (OpenSpec.ofChange typesNamesWrong)

/-- 'stratagemlaw07.TypesTurned': WHATEVER THE INPUT: true; the input reads as it did. -/
def typesTurnedSpec : ChangeSpec := { name := "typesTurned", fn := fun _ => fun
  | [d1, d2] => { results := [.lit (.bool true)], args := [d1, d2] }
  | _ => none }
def typesTurnedRow : OpenClaim := { program := "ytcpmeficpboklaa", sum := "e2b3cfd666d1e7d5c2542463f06dd85f50b8fdf934ada2f6ea9d717614fc1156", func := "stratagem/stratagemlaw07.TypesTurned", spec := "typesTurned", inPlace := ["internal/bytealg.IndexByteString", "internal/bytealg.IndexString"], unfollowed := true, recurses := true, named := ["internal/bytealg.MaxLen"], apart := false }
def TypesTurnedSaid : Prop := typesTurnedRow.holds Try.pinned (OpenSpec.ofChange typesTurnedSpec)

/-- ITS FALSE NEIGHBOUR: 'it returns false'. Refute it at one input. -/
def typesTurnedWrong : ChangeSpec := { name := "typesTurned", fn := fun _ => fun
  | [d1, d2] => { results := [.lit (.bool false)], args := [d1, d2] }
  | _ => none }
def TypesTurnedWrongFalsely : Prop := typesTurnedRow.holds Try.pinned (OpenSpec.ofChange typesTurnedWrong)

/-- 'stratagemlaw07.TypesOrder': WHATEVER THE INPUT: true; the input reads as it did. -/
def typesOrderSpec : ChangeSpec := { name := "typesOrder", fn := fun _ => fun
  | [d1, d2] => { results := [.lit (.bool true)], args := [d1, d2] }
  | _ => none }
def typesOrderRow : OpenClaim := { program := "ytcpmeficpboklaa", sum := "e2b3cfd666d1e7d5c2542463f06dd85f50b8fdf934ada2f6ea9d717614fc1156", func := "stratagem/stratagemlaw07.TypesOrder", spec := "typesOrder", inPlace := ["internal/bytealg.IndexByteString", "internal/bytealg.IndexString"], unfollowed := true, recurses := true, named := ["internal/bytealg.MaxLen"], apart := false }
def TypesOrderSaid : Prop := typesOrderRow.holds Try.pinned (OpenSpec.ofChange typesOrderSpec)

/-- ITS FALSE NEIGHBOUR: 'it returns false'. Refute it at one input. -/
def typesOrderWrong : ChangeSpec := { name := "typesOrder", fn := fun _ => fun
  | [d1, d2] => { results := [.lit (.bool false)], args := [d1, d2] }
  | _ => none }
def TypesOrderWrongFalsely : Prop := typesOrderRow.holds Try.pinned (OpenSpec.ofChange typesOrderWrong)

/-- 'stratagemlaw07.TypesNil': WHATEVER THE INPUT: true; the input reads as it did. -/
def typesNilSpec : ChangeSpec := { name := "typesNil", fn := fun _ => fun
  | [d1, d2] => { results := [.lit (.bool true)], args := [d1, d2] }
  | _ => none }
def typesNilRow : OpenClaim := { program := "ytcpmeficpboklaa", sum := "e2b3cfd666d1e7d5c2542463f06dd85f50b8fdf934ada2f6ea9d717614fc1156", func := "stratagem/stratagemlaw07.TypesNil", spec := "typesNil", inPlace := ["internal/bytealg.IndexByteString", "internal/bytealg.IndexString"], unfollowed := true, recurses := true, named := ["internal/bytealg.MaxLen"], apart := false }
def TypesNilSaid : Prop := typesNilRow.holds Try.pinned (OpenSpec.ofChange typesNilSpec)

/-- ITS FALSE NEIGHBOUR: 'it returns false'. Refute it at one input. -/
def typesNilWrong : ChangeSpec := { name := "typesNil", fn := fun _ => fun
  | [d1, d2] => { results := [.lit (.bool false)], args := [d1, d2] }
  | _ => none }
def TypesNilWrongFalsely : Prop := typesNilRow.holds Try.pinned (OpenSpec.ofChange typesNilWrong)

/- THE SECOND FORM. 'bulk': how many values and letters a reading holds, each counted each time it is reached (what is shared counts as often as it is met; a slice's spare places count too). A statement '..UptoSaid' is the law's where the arguments, and the package variables that the reading takes, are together of bulk at most 1048576: NARROWER than '..Said'. Prove '..Said' where nothing that the law and all that it calls make is longer than what came in: it says more and counts as full. Else prove '..UptoSaid'. A law counts once. -/
mutual
def uptoBulk {H : Type} : DataW H → Nat
  | .lit (.string bytes) => bytes.length + 1
  | .lit _ => 1
  | .nil => 1
  | .ptr d => uptoBulk d + 1
  | .slice elems spare => uptoBulkAll elems + uptoBulkAll spare + 1
  | .agg parts => uptoBulkAll parts + 1
  | .iface _ d => uptoBulk d + 1
  | .map entries => uptoBulkEntries entries + 1
  | .held _ => 1
def uptoBulkAll {H : Type} : List (DataW H) → Nat
  | [] => 0
  | d :: r => uptoBulk d + uptoBulkAll r
def uptoBulkEntries {H : Type} : List (Lit × DataW H) → Nat
  | [] => 0
  | x :: r => uptoBulkEntry x + uptoBulkEntries r
def uptoBulkEntry {H : Type} : Lit × DataW H → Nat
  | (.string bytes, d) => bytes.length + uptoBulk d + 1
  | (_, d) => uptoBulk d + 1
 end
def uptoSmall : (H : Type) → List (DataW H) → Bool := fun _ ds => decide (uptoBulkAll ds ≤ 1048576)
def OpenSpec.upto (s : _root_.Go.ChangeSpec) : _root_.Go.OpenSpec := { _root_.Go.OpenSpec.ofChange s with cond := some uptoSmall }

/-- 'stratagemlaw07.TypesDeclared', WHERE WHAT IT READS IS OF BULK AT MOST 1048576: true; the input reads as it did. -/
def typesDeclaredUptoRow : OpenClaim := { program := "ytcpmeficpboklaa", sum := "e2b3cfd666d1e7d5c2542463f06dd85f50b8fdf934ada2f6ea9d717614fc1156", func := "stratagem/stratagemlaw07.TypesDeclared", spec := "typesDeclared", inPlace := ["internal/bytealg.IndexByteString", "internal/bytealg.IndexString"], named := ["internal/bytealg.MaxLen"], apart := false, narrowed := true }
def TypesDeclaredUptoSaid : Prop := typesDeclaredUptoRow.holds Try.pinned (OpenSpec.upto typesDeclaredSpec)

/-- 'stratagemlaw07.TypesRelated', WHERE WHAT IT READS IS OF BULK AT MOST 1048576: true; the input reads as it did. -/
def typesRelatedUptoRow : OpenClaim := { program := "ytcpmeficpboklaa", sum := "e2b3cfd666d1e7d5c2542463f06dd85f50b8fdf934ada2f6ea9d717614fc1156", func := "stratagem/stratagemlaw07.TypesRelated", spec := "typesRelated", inPlace := ["internal/bytealg.IndexByteString", "internal/bytealg.IndexString"], named := ["internal/bytealg.MaxLen"], apart := false, narrowed := true }
def TypesRelatedUptoSaid : Prop := typesRelatedUptoRow.holds Try.pinned (OpenSpec.upto typesRelatedSpec)

/-- 'stratagemlaw07.TypesClimbed', WHERE WHAT IT READS IS OF BULK AT MOST 1048576: true; the input reads as it did. -/
def typesClimbedUptoRow : OpenClaim := { program := "ytcpmeficpboklaa", sum := "e2b3cfd666d1e7d5c2542463f06dd85f50b8fdf934ada2f6ea9d717614fc1156", func := "stratagem/stratagemlaw07.TypesClimbed", spec := "typesClimbed", inPlace := ["internal/bytealg.IndexByteString", "internal/bytealg.IndexString"], named := ["internal/bytealg.MaxLen"], apart := false, narrowed := true }
def TypesClimbedUptoSaid : Prop := typesClimbedUptoRow.holds Try.pinned (OpenSpec.upto typesClimbedSpec)

/-- 'stratagemlaw07.TypesObjects', WHERE WHAT IT READS IS OF BULK AT MOST 1048576: true; the input reads as it did. -/
def typesObjectsUptoRow : OpenClaim := { program := "ytcpmeficpboklaa", sum := "e2b3cfd666d1e7d5c2542463f06dd85f50b8fdf934ada2f6ea9d717614fc1156", func := "stratagem/stratagemlaw07.TypesObjects", spec := "typesObjects", inPlace := ["internal/bytealg.IndexByteString", "internal/bytealg.IndexString"], named := ["internal/bytealg.MaxLen"], apart := false, narrowed := true }
def TypesObjectsUptoSaid : Prop := typesObjectsUptoRow.holds Try.pinned (OpenSpec.upto typesObjectsSpec)

/-- 'stratagemlaw07.TypesNarrowed', WHERE WHAT IT READS IS OF BULK AT MOST 1048576: true; the input reads as it did. -/
def typesNarrowedUptoRow : OpenClaim := { program := "ytcpmeficpboklaa", sum := "e2b3cfd666d1e7d5c2542463f06dd85f50b8fdf934ada2f6ea9d717614fc1156", func := "stratagem/stratagemlaw07.TypesNarrowed", spec := "typesNarrowed", inPlace := ["internal/bytealg.IndexByteString", "internal/bytealg.IndexString"], named := ["internal/bytealg.MaxLen"], apart := false, narrowed := true }
def TypesNarrowedUptoSaid : Prop := typesNarrowedUptoRow.holds Try.pinned (OpenSpec.upto typesNarrowedSpec)

/-- 'stratagemlaw07.TypesCommon', WHERE WHAT IT READS IS OF BULK AT MOST 1048576: true; the input reads as it did. -/
def typesCommonUptoRow : OpenClaim := { program := "ytcpmeficpboklaa", sum := "e2b3cfd666d1e7d5c2542463f06dd85f50b8fdf934ada2f6ea9d717614fc1156", func := "stratagem/stratagemlaw07.TypesCommon", spec := "typesCommon", inPlace := ["internal/bytealg.IndexByteString", "internal/bytealg.IndexString"], named := ["internal/bytealg.MaxLen"], apart := false, narrowed := true }
def TypesCommonUptoSaid : Prop := typesCommonUptoRow.holds Try.pinned (OpenSpec.upto typesCommonSpec)

/-- 'stratagemlaw07.TypesNames', WHERE WHAT IT READS IS OF BULK AT MOST 1048576: true; the input reads as it did. -/
def typesNamesUptoRow : OpenClaim := { program := "ytcpmeficpboklaa", sum := "e2b3cfd666d1e7d5c2542463f06dd85f50b8fdf934ada2f6ea9d717614fc1156", func := "stratagem/stratagemlaw07.TypesNames", spec := "typesNames", inPlace := ["internal/bytealg.IndexByteString", "internal/bytealg.IndexString"], unfollowed := true, recurses := true, named := ["internal/bytealg.MaxLen"], apart := false, narrowed := true }
def TypesNamesUptoSaid : Prop := typesNamesUptoRow.holds Try.pinned (OpenSpec.upto typesNamesSpec)

/-- 'stratagemlaw07.TypesTurned', WHERE WHAT IT READS IS OF BULK AT MOST 1048576: true; the input reads as it did. -/
def typesTurnedUptoRow : OpenClaim := { program := "ytcpmeficpboklaa", sum := "e2b3cfd666d1e7d5c2542463f06dd85f50b8fdf934ada2f6ea9d717614fc1156", func := "stratagem/stratagemlaw07.TypesTurned", spec := "typesTurned", inPlace := ["internal/bytealg.IndexByteString", "internal/bytealg.IndexString"], unfollowed := true, recurses := true, named := ["internal/bytealg.MaxLen"], apart := false, narrowed := true }
def TypesTurnedUptoSaid : Prop := typesTurnedUptoRow.holds Try.pinned (OpenSpec.upto typesTurnedSpec)

/-- 'stratagemlaw07.TypesOrder', WHERE WHAT IT READS IS OF BULK AT MOST 1048576: true; the input reads as it did. -/
def typesOrderUptoRow : OpenClaim := { program := "ytcpmeficpboklaa", sum := "e2b3cfd666d1e7d5c2542463f06dd85f50b8fdf934ada2f6ea9d717614fc1156", func := "stratagem/stratagemlaw07.TypesOrder", spec := "typesOrder", inPlace := ["internal/bytealg.IndexByteString", "internal/bytealg.IndexString"], unfollowed := true, recurses := true, named := ["internal/bytealg.MaxLen"], apart := false, narrowed := true }
def TypesOrderUptoSaid : Prop := typesOrderUptoRow.holds Try.pinned (OpenSpec.upto typesOrderSpec)

/-- 'stratagemlaw07.TypesNil', WHERE WHAT IT READS IS OF BULK AT MOST 1048576: true; the input reads as it did. -/
def typesNilUptoRow : OpenClaim := { program := "ytcpmeficpboklaa", sum := "e2b3cfd666d1e7d5c2542463f06dd85f50b8fdf934ada2f6ea9d717614fc1156", func := "stratagem/stratagemlaw07.TypesNil", spec := "typesNil", inPlace := ["internal/bytealg.IndexByteString", "internal/bytealg.IndexString"], unfollowed := true, recurses := true, named := ["internal/bytealg.MaxLen"], apart := false, narrowed := true }
def TypesNilUptoSaid : Prop := typesNilUptoRow.holds Try.pinned (OpenSpec.upto typesNilSpec)

end Rows
end Go.Proofs.Ytcpmeficpboklaa
