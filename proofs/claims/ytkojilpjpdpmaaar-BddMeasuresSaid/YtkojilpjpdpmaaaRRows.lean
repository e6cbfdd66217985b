/-
  No cell of these rows narrows 'for every input' (looked for: loops, veiled, ifaces, maps, wideKeys, modest, calm, conditions, laid).
  DERIVED. THE GIVEN ROWS OF THIS SEAT. 8 by the template 'for every input the law returns true; each argument reads behind the call as it read before'; 0 by the template 'total and deterministic' (their statements: YtkojilpjpdpmaaaRTotals.lean).
  GIVEN WITH THE SEED: the statements are not yours to turn. If you find one false, say at which input.
  Laid BY PROGRAM, IN A SANDBOX (cutbox-rows.mjs): the forced cells as the released guide's own fill.sh prints them over the translation d0a62618b84e6ce5… (all of the seat's roots in one cut). By AI agents, Wed Nov 11 2026. No macro, syntax, notation, axiom, sorry.
-/
import Derived.Test.YtkojilpjpdpmaaaRChecked
import GoSem.Claim
import GoSem.ClaimJoined
import GoSem.ClaimMapViews
import Derived.JoinedTies
import Derived.KernelRfl
namespace Go.Proofs.YtkojilpjpdpmaaaR
/- THE CELL 'sum', in the pinned program and in every row, IS THE sha256 OF THE DUMP (.gsa) THAT YtkojilpjpdpmaaaRProg.lean LOADS. Nothing in Lean hashes anything: it is a label: what it is worth is what the hold of that sum in a sandbox is worth. -/
noncomputable def Try.pinned : Pinned := { name := "ytkojilpjpdpmaaar", sum := "d0a62618b84e6ce5c7976f30cbcdfd96158997f2a59a2920f499ad2347160b8e", checked := Try.checked }
namespace Rows
def none {H : Type} : Left H := { results := [], args := [] }

/-- 'stratagemlaw27.BddNil': WHATEVER THE INPUT: true; the input reads as it did. -/
def bddNilSpec : ChangeSpec := { name := "bddNil", fn := fun _ => fun
  | [d1, d2] => { results := [.lit (.bool true)], args := [d1, d2] }
  | _ => none }
def bddNilRow : OpenClaim := { program := "ytkojilpjpdpmaaar", sum := "d0a62618b84e6ce5c7976f30cbcdfd96158997f2a59a2920f499ad2347160b8e", func := "stratagem/stratagemlaw27.BddNil", spec := "bddNil", recurses := true, plainKeys := false, apart := false }
def BddNilSaid : Prop := bddNilRow.holds Try.pinned (OpenSpec.ofChange bddNilSpec)

/-- ITS FALSE NEIGHBOUR: 'it returns false'. Refute it at one input. -/
def bddNilWrong : ChangeSpec := { name := "bddNil", fn := fun _ => fun
  | [d1, d2] => { results := [.lit (.bool false)], args := [d1, d2] }
  | _ => none }
def BddNilWrongFalsely : Prop := bddNilRow.holds Try.pinned (OpenSpec.ofChange bddNilWrong)

/-- 'stratagemlaw27.BddWide': WHATEVER THE INPUT: true; the input reads as it did. -/
def bddWideSpec : ChangeSpec := { name := "bddWide", fn := fun _ => fun
  | [d1, d2] => { results := [.lit (.bool true)], args := [d1, d2] }
  | _ => none }
def bddWideRow : OpenClaim := { program := "ytkojilpjpdpmaaar", sum := "d0a62618b84e6ce5c7976f30cbcdfd96158997f2a59a2920f499ad2347160b8e", func := "stratagem/stratagemlaw27.BddWide", spec := "bddWide", unfollowed := true, recurses := true, plainKeys := false, apart := false }
def BddWideSaid : Prop := bddWideRow.holds Try.pinned (OpenSpec.ofChange bddWideSpec)

/-- ITS FALSE NEIGHBOUR: 'it returns false'. Refute it at one input. -/
def bddWideWrong : ChangeSpec := { name := "bddWide", fn := fun _ => fun
  | [d1, d2] => { results := [.lit (.bool false)], args := [d1, d2] }
  | _ => none }
def BddWideWrongFalsely : Prop := bddWideRow.holds Try.pinned (OpenSpec.ofChange bddWideWrong)

/-- 'stratagemlaw27.BddRenames': WHATEVER THE INPUT: true; the input reads as it did. -/
def bddRenamesSpec : ChangeSpec := { name := "bddRenames", fn := fun _ => fun
  | [d1, d2, d3] => { results := [.lit (.bool true)], args := [d1, d2, d3] }
  | _ => none }
def bddRenamesRow : OpenClaim := { program := "ytkojilpjpdpmaaar", sum := "d0a62618b84e6ce5c7976f30cbcdfd96158997f2a59a2920f499ad2347160b8e", func := "stratagem/stratagemlaw27.BddRenames", spec := "bddRenames", unfollowed := true, recurses := true, plainKeys := false, apart := false }
def BddRenamesSaid : Prop := bddRenamesRow.holds Try.pinned (OpenSpec.ofChange bddRenamesSpec)

/-- ITS FALSE NEIGHBOUR: 'it returns false'. Refute it at one input. -/
def bddRenamesWrong : ChangeSpec := { name := "bddRenames", fn := fun _ => fun
  | [d1, d2, d3] => { results := [.lit (.bool false)], args := [d1, d2, d3] }
  | _ => none }
def BddRenamesWrongFalsely : Prop := bddRenamesRow.holds Try.pinned (OpenSpec.ofChange bddRenamesWrong)

/-- 'stratagemlaw27.BddPlays': WHATEVER THE INPUT: true; the input reads as it did. -/
def bddPlaysSpec : ChangeSpec := { name := "bddPlays", fn := fun _ => fun
  | [d1, d2] => { results := [.lit (.bool true)], args := [d1, d2] }
  | _ => none }
def bddPlaysRow : OpenClaim := { program := "ytkojilpjpdpmaaar", sum := "d0a62618b84e6ce5c7976f30cbcdfd96158997f2a59a2920f499ad2347160b8e", func := "stratagem/stratagemlaw27.BddPlays", spec := "bddPlays", unfollowed := true, recurses := true, plainKeys := false, apart := false }
def BddPlaysSaid : Prop := bddPlaysRow.holds Try.pinned (OpenSpec.ofChange bddPlaysSpec)

/-- ITS FALSE NEIGHBOUR: 'it returns false'. Refute it at one input. -/
def bddPlaysWrong : ChangeSpec := { name := "bddPlays", fn := fun _ => fun
  | [d1, d2] => { results := [.lit (.bool false)], args := [d1, d2] }
  | _ => none }
def BddPlaysWrongFalsely : Prop := bddPlaysRow.holds Try.pinned (OpenSpec.ofChange bddPlaysWrong)

/-- 'stratagemlaw27.BddLimits': WHATEVER THE INPUT: true; the input reads as it did. -/
def bddLimitsSpec : ChangeSpec := { name := "bddLimits", fn := fun _ => fun
  | [d1, d2, d3] => { results := [.lit (.bool true)], args := [d1, d2, d3] }
  | _ => none }
def bddLimitsRow : OpenClaim := { program := "ytkojilpjpdpmaaar", sum := "d0a62618b84e6ce5c7976f30cbcdfd96158997f2a59a2920f499ad2347160b8e", func := "stratagem/stratagemlaw27.BddLimits", spec := "bddLimits", unfollowed := true, recurses := true, plainKeys := false, apart := false }
def BddLimitsSaid : Prop := bddLimitsRow.holds Try.pinned (OpenSpec.ofChange bddLimitsSpec)

/-- ITS FALSE NEIGHBOUR: 'it returns false'. Refute it at one input. -/
def bddLimitsWrong : ChangeSpec := { name := "bddLimits", fn := fun _ => fun
  | [d1, d2, d3] => { results := [.lit (.bool false)], args := [d1, d2, d3] }
  | _ => none }
def BddLimitsWrongFalsely : Prop := bddLimitsRow.holds Try.pinned (OpenSpec.ofChange bddLimitsWrong)

/-- 'stratagemlaw27.BddMeasures': WHATEVER THE INPUT: true; the input reads as it did. -/
def bddMeasuresSpec : ChangeSpec := { name := "bddMeasures", fn := fun _ => fun
  | [d1, d2] => { results := [.lit (.bool true)], args := [d1, d2] }
  | _ => none }
def bddMeasuresRow : OpenClaim := { program := "ytkojilpjpdpmaaar", sum := "d0a62618b84e6ce5c7976f30cbcdfd96158997f2a59a2920f499ad2347160b8e", func := "stratagem/stratagemlaw27.BddMeasures", spec := "bddMeasures", unfollowed := true, recurses := true, plainKeys := false, apart := false }
def BddMeasuresSaid : Prop := bddMeasuresRow.holds Try.pinned (OpenSpec.ofChange bddMeasuresSpec)

/-- ITS FALSE NEIGHBOUR: 'it returns false'. Refute it at one input. -/
def bddMeasuresWrong : ChangeSpec := { name := "bddMeasures", fn := fun _ => fun
  | [d1, d2] => { results := [.lit (.bool false)], args := [d1, d2] }
  | _ => none }
def BddMeasuresWrongFalsely : Prop := bddMeasuresRow.holds Try.pinned (OpenSpec.ofChange bddMeasuresWrong)

/-- 'stratagemlaw27.BddCubes': WHATEVER THE INPUT: true; the input reads as it did. -/
def bddCubesSpec : ChangeSpec := { name := "bddCubes", fn := fun _ => fun
  | [d1, d2, d3] => { results := [.lit (.bool true)], args := [d1, d2, d3] }
  | _ => none }
def bddCubesRow : OpenClaim := { program := "ytkojilpjpdpmaaar", sum := "d0a62618b84e6ce5c7976f30cbcdfd96158997f2a59a2920f499ad2347160b8e", func := "stratagem/stratagemlaw27.BddCubes", spec := "bddCubes", unfollowed := true, recurses := true, plainKeys := false, apart := false }
def BddCubesSaid : Prop := bddCubesRow.holds Try.pinned (OpenSpec.ofChange bddCubesSpec)

/-- ITS FALSE NEIGHBOUR: 'it returns false'. Refute it at one input. -/
def bddCubesWrong : ChangeSpec := { name := "bddCubes", fn := fun _ => fun
  | [d1, d2, d3] => { results := [.lit (.bool false)], args := [d1, d2, d3] }
  | _ => none }
def BddCubesWrongFalsely : Prop := bddCubesRow.holds Try.pinned (OpenSpec.ofChange bddCubesWrong)

/-- 'stratagemlaw27.BddErrors': WHATEVER THE INPUT: true; the input reads as it did. -/
def bddErrorsSpec : ChangeSpec := { name := "bddErrors", fn := fun _ => fun
  | [d1, d2, d3, d4] => { results := [.lit (.bool true)], args := [d1, d2, d3, d4] }
  | _ => none }
def bddErrorsRow : OpenClaim := { program := "ytkojilpjpdpmaaar", sum := "d0a62618b84e6ce5c7976f30cbcdfd96158997f2a59a2920f499ad2347160b8e", func := "stratagem/stratagemlaw27.BddErrors", spec := "bddErrors", unfollowed := true, recurses := true, plainKeys := false, apart := false }
def BddErrorsSaid : Prop := bddErrorsRow.holds Try.pinned (OpenSpec.ofChange bddErrorsSpec)

/-- ITS FALSE NEIGHBOUR: 'it returns false'. Refute it at one input. -/
def bddErrorsWrong : ChangeSpec := { name := "bddErrors", fn := fun _ => fun
  | [d1, d2, d3, d4] => { results := [.lit (.bool false)], args := [d1, d2, d3, d4] }
  | _ => none }
def BddErrorsWrongFalsely : Prop := bddErrorsRow.holds Try.pinned (OpenSpec.ofChange bddErrorsWrong)

/- THE SECOND FORM. 'bulk': how many values and letters a reading holds, each counted each time it is reached (what is shared counts as often as it is met; a slice's spare places count too). A statement '..UptoSaid' is the law's where the arguments, and the package variables that the reading takes, are together of bulk at most 1048576: NARROWER than '..Said'. Prove '..Said' where nothing that the law and all that it calls make is longer than what came in: it says more and counts as full. Else prove '..UptoSaid'. A law counts once. -/
mutual
def uptoBulk {H : Type} : DataW H → Nat
  | .lit (.string bytes) => bytes.length + 1
  | .lit _ => 1
  | .nil => 1
  | .ptr d => uptoBulk d + 1
  | .slice elems spare => uptoBulkAll elems + uptoBulkAll spare + 1
  | .agg parts => uptoBulkAll parts + 1
  | .iface _ d => uptoBulk d + 1
  | .map entries => uptoBulkEntries entries + 1
  | .held _ => 1
def uptoBulkAll {H : Type} : List (DataW H) → Nat
  | [] => 0
  | d :: r => uptoBulk d + uptoBulkAll r
def uptoBulkEntries {H : Type} : List (Lit × DataW H) → Nat
  | [] => 0
  | x :: r => uptoBulkEntry x + uptoBulkEntries r
def uptoBulkEntry {H : Type} : Lit × DataW H → Nat
  | (.string bytes, d) => bytes.length + uptoBulk d + 1
  | (_, d) => uptoBulk d + 1
 end
def uptoSmall : (H : Type) → List (DataW H) → Bool := fun _ ds => decide (uptoBulkAll ds ≤ 1048576)
def OpenSpec.upto (s : _root_.Go.ChangeSpec) : _root_.Go.OpenSpec := { _root_.Go.OpenSpec.ofChange s with cond := some uptoSmall }

/-- 'stratagemlaw27.BddNil', WHERE WHAT IT READS IS OF BULK AT MOST 1048576: true; the input reads as it did. -/
def bddNilUptoRow : OpenClaim := { program := "ytkojilpjpdpmaaar", sum := "d0a62618b84e6ce5c7976f30cbcdfd96158997f2a59a2920f499ad2347160b8e", func := "stratagem/stratagemlaw27.BddNil", spec := "bddNil", recurses := true, plainKeys := false, apart := false, narrowed := true }
def BddNilUptoSaid : Prop := bddNilUptoRow.holds Try.pinned (OpenSpec.upto bddNilSpec)

/-- 'stratagemlaw27.BddWide', WHERE WHAT IT READS IS OF BULK AT MOST 1048576: true; the input reads as it did. -/
def bddWideUptoRow : OpenClaim := { program := "ytkojilpjpdpmaaar", sum := "d0a62618b84e6ce5c7976f30cbcdfd96158997f2a59a2920f499ad2347160b8e", func := "stratagem/stratagemlaw27.BddWide", spec := "bddWide", unfollowed := true, recurses := true, plainKeys := false, apart := false, narrowed := true }
def BddWideUptoSaid : Prop := bddWideUptoRow.holds Try.pinned (OpenSpec.upto bddWideSpec)

/-- 'stratagemlaw27.BddRenames', WHERE WHAT IT READS IS OF BULK AT MOST 1048576: true; the input reads as it did. -/
def bddRenamesUptoRow : OpenClaim := { program := "ytkojilpjpdpmaaar", sum := "d0a62618b84e6ce5c7976f30cbcdfd96158997f2a59a2920f499ad2347160b8e", func := "stratagem/stratagemlaw27.BddRenames", spec := "bddRenames", unfollowed := true, recurses := true, plainKeys := false, apart := false, narrowed := true }
def BddRenamesUptoSaid : Prop := bddRenamesUptoRow.holds Try.pinned (OpenSpec.upto bddRenamesSpec)

/-- 'stratagemlaw27.BddPlays', WHERE WHAT IT READS IS OF BULK AT MOST 1048576: true; the input reads as it did. -/
def bddPlaysUptoRow : OpenClaim := { program := "ytkojilpjpdpmaaar", sum := "d0a62618b84e6ce5c7976f30cbcdfd96158997f2a59a2920f499ad2347160b8e", func := "stratagem/stratagemlaw27.BddPlays", spec := "bddPlays", unfollowed := true, recurses := true, plainKeys := false, apart := false, narrowed := true }
def BddPlaysUptoSaid : Prop := bddPlaysUptoRow.holds Try.pinned (OpenSpec.upto bddPlaysSpec)

/-- 'stratagemlaw27.BddLimits', WHERE WHAT IT READS IS OF BULK AT MOST 1048576: true; the input reads as it did. -/
def bddLimitsUptoRow : OpenClaim := { program := "ytkojilpjpdpmaaar", sum := "d0a62618b84e6ce5c7976f30cbcdfd96158997f2a59a2920f499ad2347160b8e", func := "stratagem/stratagemlaw27.BddLimits", spec := "bddLimits", unfollowed := true, recurses := true, plainKeys := false, apart := false, narrowed := true }
def BddLimitsUptoSaid : Prop := bddLimitsUptoRow.holds Try.pinned (OpenSpec.upto bddLimitsSpec)

/-- 'stratagemlaw27.BddMeasures', WHERE WHAT IT READS IS OF BULK AT MOST 1048576: true; the input reads as it did. -/
def bddMeasuresUptoRow : OpenClaim := { program := "ytkojilpjpdpmaaar", sum := "d0a62618b84e6ce5c7976f30cbcdfd96158997f2a59a2920f499ad2347160b8e", func := "stratagem/stratagemlaw27.BddMeasures", spec := "bddMeasures", unfollowed := true, recurses := true, plainKeys := false, apart := false, narrowed := true }
def BddMeasuresUptoSaid : Prop := bddMeasuresUptoRow.holds Try.pinned (OpenSpec.upto bddMeasuresSpec)

/-- 'stratagemlaw27.BddCubes', WHERE WHAT IT READS IS OF BULK AT MOST 1048576: true; the input reads as it did. -/
def bddCubesUptoRow : OpenClaim := { program := "ytkojilpjpdpmaaar", sum := "d0a62618b84e6ce5c7976f30cbcdfd96158997f2a59a2920f499ad2347160b8e", func := "stratagem/stratagemlaw27.BddCubes", spec := "bddCubes", unfollowed := true, recurses := true, plainKeys := false, apart := false, narrowed := true }
def BddCubesUptoSaid : Prop := bddCubesUptoRow.holds Try.pinned (OpenSpec.upto bddCubesSpec)

/-- 'stratagemlaw27.BddErrors', WHERE WHAT IT READS IS OF BULK AT MOST 1048576: true; the input reads as it did. -/
def bddErrorsUptoRow : OpenClaim := { program := "ytkojilpjpdpmaaar", sum := "d0a62618b84e6ce5c7976f30cbcdfd96158997f2a59a2920f499ad2347160b8e", func := "stratagem/stratagemlaw27.BddErrors", spec := "bddErrors", unfollowed := true, recurses := true, plainKeys := false, apart := false, narrowed := true }
def BddErrorsUptoSaid : Prop := bddErrorsUptoRow.holds Try.pinned (OpenSpec.upto bddErrorsSpec)

end Rows
end Go.Proofs.YtkojilpjpdpmaaaR
