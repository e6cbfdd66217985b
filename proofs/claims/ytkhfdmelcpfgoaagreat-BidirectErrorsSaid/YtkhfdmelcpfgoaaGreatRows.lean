/-
  No cell of these rows narrows 'for every input' (looked for: loops, veiled, ifaces, maps, wideKeys, modest, calm, conditions, laid).
  DERIVED. THE GIVEN ROWS OF THIS SEAT. 5 by the template 'for every input the law returns true; each argument reads behind the call as it read before'; 0 by the template 'total and deterministic' (their statements: YtkhfdmelcpfgoaaGreatTotals.lean).
  GIVEN WITH THE SEED: the statements are not yours to turn. If you find one false, say at which input.
  Laid BY PROGRAM, IN A SANDBOX (cutbox-rows.mjs): the forced cells as the released guide's own fill.sh prints them over the translation 186b666f7708efff… (all of the seat's roots in one cut). By AI agents, Wed Nov 11 2026. No macro, syntax, notation, axiom, sorry.
-/
import Derived.Test.YtkhfdmelcpfgoaaGreatChecked
import GoSem.Claim
import GoSem.ClaimJoined
import GoSem.ClaimMapViews
import Derived.JoinedTies
import Derived.KernelRfl
namespace Go.Proofs.YtkhfdmelcpfgoaaGreat
/- THE CELL 'sum', in the pinned program and in every row, IS THE sha256 OF THE DUMP (.gsa) THAT YtkhfdmelcpfgoaaGreatProg.lean LOADS. Nothing in Lean hashes anything: it is a label: what it is worth is what the hold of that sum in a sandbox is worth. -/
noncomputable def Tryz.pinned : Pinned := { name := "ytkhfdmelcpfgoaagreat", sum := "186b666f7708efff0c4b634059f53c03b4f70405f121ead57816fb5bc0dc6939", checked := Tryz.checked }
namespace Rows
def none {H : Type} : Left H := { results := [], args := [] }

/-- 'stratagemlaw29.BidirectLayers': WHATEVER THE INPUT: true; the input reads as it did. -/
def bidirectLayersSpec : ChangeSpec := { name := "bidirectLayers", fn := fun _ => fun
  | [d1, d2] => { results := [.lit (.bool true)], args := [d1, d2] }
  | _ => none }
def bidirectLayersRow : OpenClaim := { program := "ytkhfdmelcpfgoaagreat", sum := "186b666f7708efff0c4b634059f53c03b4f70405f121ead57816fb5bc0dc6939", func := "stratagem/stratagemlaw29.BidirectLayers", spec := "bidirectLayers", unfollowed := true, recurses := true, plainKeys := false, apart := false }
def BidirectLayersSaid : Prop := bidirectLayersRow.holds Tryz.pinned (OpenSpec.ofChange bidirectLayersSpec)

/-- ITS FALSE NEIGHBOUR: 'it returns false'. Refute it at one input. -/
def bidirectLayersWrong : ChangeSpec := { name := "bidirectLayers", fn := fun _ => fun
  | [d1, d2] => { results := [.lit (.bool false)], args := [d1, d2] }
  | _ => none }
def BidirectLayersWrongFalsely : Prop := bidirectLayersRow.holds Tryz.pinned (OpenSpec.ofChange bidirectLayersWrong)

/-- 'stratagemlaw29.BidirectForward': WHATEVER THE INPUT: true; the input reads as it did. -/
def bidirectForwardSpec : ChangeSpec := { name := "bidirectForward", fn := fun _ => fun
  | [d] => { results := [.lit (.bool true)], args := [d] }
  | _ => none }
def bidirectForwardRow : OpenClaim := { program := "ytkhfdmelcpfgoaagreat", sum := "186b666f7708efff0c4b634059f53c03b4f70405f121ead57816fb5bc0dc6939", func := "stratagem/stratagemlaw29.BidirectForward", spec := "bidirectForward", unfollowed := true, recurses := true, plainKeys := false, apart := false }
def BidirectForwardSaid : Prop := bidirectForwardRow.holds Tryz.pinned (OpenSpec.ofChange bidirectForwardSpec)

/-- ITS FALSE NEIGHBOUR: 'it returns false'. Refute it at one input. -/
def bidirectForwardWrong : ChangeSpec := { name := "bidirectForward", fn := fun _ => fun
  | [d] => { results := [.lit (.bool false)], args := [d] }
  | _ => none }
def BidirectForwardWrongFalsely : Prop := bidirectForwardRow.holds Tryz.pinned (OpenSpec.ofChange bidirectForwardWrong)

/-- 'stratagemlaw29.BidirectBackward': WHATEVER THE INPUT: true; the input reads as it did. -/
def bidirectBackwardSpec : ChangeSpec := { name := "bidirectBackward", fn := fun _ => fun
  | [d] => { results := [.lit (.bool true)], args := [d] }
  | _ => none }
def bidirectBackwardRow : OpenClaim := { program := "ytkhfdmelcpfgoaagreat", sum := "186b666f7708efff0c4b634059f53c03b4f70405f121ead57816fb5bc0dc6939", func := "stratagem/stratagemlaw29.BidirectBackward", spec := "bidirectBackward", unfollowed := true, recurses := true, plainKeys := false, apart := false }
def BidirectBackwardSaid : Prop := bidirectBackwardRow.holds Tryz.pinned (OpenSpec.ofChange bidirectBackwardSpec)

/-- ITS FALSE NEIGHBOUR: 'it returns false'. Refute it at one input. -/
def bidirectBackwardWrong : ChangeSpec := { name := "bidirectBackward", fn := fun _ => fun
  | [d] => { results := [.lit (.bool false)], args := [d] }
  | _ => none }
def BidirectBackwardWrongFalsely : Prop := bidirectBackwardRow.holds Tryz.pinned (OpenSpec.ofChange bidirectBackwardWrong)

/-- 'stratagemlaw29.BidirectLimits': WHATEVER THE INPUT: true; the input reads as it did. -/
def bidirectLimitsSpec : ChangeSpec := { name := "bidirectLimits", fn := fun _ => fun
  | [d1, d2] => { results := [.lit (.bool true)], args := [d1, d2] }
  | _ => none }
def bidirectLimitsRow : OpenClaim := { program := "ytkhfdmelcpfgoaagreat", sum := "186b666f7708efff0c4b634059f53c03b4f70405f121ead57816fb5bc0dc6939", func := "stratagem/stratagemlaw29.BidirectLimits", spec := "bidirectLimits", unfollowed := true, recurses := true, plainKeys := false, apart := false }
def BidirectLimitsSaid : Prop := bidirectLimitsRow.holds Tryz.pinned (OpenSpec.ofChange bidirectLimitsSpec)

/-- ITS FALSE NEIGHBOUR: 'it returns false'. Refute it at one input. -/
def bidirectLimitsWrong : ChangeSpec := { name := "bidirectLimits", fn := fun _ => fun
  | [d1, d2] => { results := [.lit (.bool false)], args := [d1, d2] }
  | _ => none }
def BidirectLimitsWrongFalsely : Prop := bidirectLimitsRow.holds Tryz.pinned (OpenSpec.ofChange bidirectLimitsWrong)

/-- 'stratagemlaw29.BidirectErrors': WHATEVER THE INPUT: true; the input reads as it did. -/
def bidirectErrorsSpec : ChangeSpec := { name := "bidirectErrors", fn := fun _ => fun
  | [d1, d2] => { results := [.lit (.bool true)], args := [d1, d2] }
  | _ => none }
def bidirectErrorsRow : OpenClaim := { program := "ytkhfdmelcpfgoaagreat", sum := "186b666f7708efff0c4b634059f53c03b4f70405f121ead57816fb5bc0dc6939", func := "stratagem/stratagemlaw29.BidirectErrors", spec := "bidirectErrors", unfollowed := true, recurses := true, plainKeys := false, apart := false }
def BidirectErrorsSaid : Prop := bidirectErrorsRow.holds Tryz.pinned (OpenSpec.ofChange bidirectErrorsSpec)

/-- ITS FALSE NEIGHBOUR: 'it returns false'. Refute it at one input. -/
def bidirectErrorsWrong : ChangeSpec := { name := "bidirectErrors", fn := fun _ => fun
  | [d1, d2] => { results := [.lit (.bool false)], args := [d1, d2] }
  | _ => none }
def BidirectErrorsWrongFalsely : Prop := bidirectErrorsRow.holds Tryz.pinned (OpenSpec.ofChange bidirectErrorsWrong)

/- THE SECOND FORM. 'bulk': how many values and letters a reading holds, each counted each time it is reached (what is shared counts as often as it is met; a slice's spare places count too). A statement '..UptoSaid' is the law's where the arguments, and the package variables that the reading takes, are together of bulk at most 1048576: NARROWER than '..Said'. Prove '..Said' where nothing that the law and all that it calls make is longer than what came in: it says more and counts as full. Else prove '..UptoSaid'. A law counts once. -/
mutual
def uptoBulk {H : Type} : DataW H → Nat
  | .lit (.string bytes) => bytes.length + 1
  | .lit _ => 1
  | .nil => 1
  | .ptr d => uptoBulk d + 1
  | .slice elems spare => uptoBulkAll elems + uptoBulkAll spare + 1
  | .agg parts => uptoBulkAll parts + 1
  | .iface _ d => uptoBulk d + 1
  | .map entries => uptoBulkEntries entries + 1
  | .held _ => 1
def uptoBulkAll {H : Type} : List (DataW H) → Nat
  | [] => 0
  | d :: r => uptoBulk d + uptoBulkAll r
def uptoBulkEntries {H : Type} : List (Lit × DataW H) → Nat
  | [] => 0
  | x :: r => uptoBulkEntry x + uptoBulkEntries r
def uptoBulkEntry {H : Type} : Lit × DataW H → Nat
  | (.string bytes, d) => bytes.length + uptoBulk d + 1
  | (_, d) => uptoBulk d + 1
 end
def uptoSmall : (H : Type) → List (DataW H) → Bool := fun _ ds => decide (uptoBulkAll ds ≤ 1048576)
def OpenSpec.upto (s : _root_.Go.ChangeSpec) : _root_.Go.OpenSpec := { _root_.Go.OpenSpec.ofChange s with cond := some uptoSmall }

/-- 'stratagemlaw29.BidirectLayers', WHERE WHAT IT READS IS OF BULK AT MOST 1048576: true; the input reads as it did. -/
def bidirectLayersUptoRow : OpenClaim := { program := "ytkhfdmelcpfgoaagreat", sum := "186b666f7708efff0c4b634059f53c03b4f70405f121ead57816fb5bc0dc6939", func := "stratagem/stratagemlaw29.BidirectLayers", spec := "bidirectLayers", unfollowed := true, recurses := true, plainKeys := false, apart := false, narrowed := true }
def BidirectLayersUptoSaid : Prop := bidirectLayersUptoRow.holds Tryz.pinned (OpenSpec.upto bidirectLayersSpec)

/-- 'stratagemlaw29.BidirectForward', WHERE WHAT IT READS IS OF BULK AT MOST 1048576: true; the input reads as it did. -/
def bidirectForwardUptoRow : OpenClaim := { program := "ytkhfdmelcpfgoaagreat", sum := "186b666f7708efff0c4b634059f53c03b4f70405f121ead57816fb5bc0dc6939", func := "stratagem/stratagemlaw29.BidirectForward", spec := "bidirectForward", unfollowed := true, recurses := true, plainKeys := false, apart := false, narrowed := true }
def BidirectForwardUptoSaid : Prop := bidirectForwardUptoRow.holds Tryz.pinned (OpenSpec.upto bidirectForwardSpec)

/-- 'stratagemlaw29.BidirectBackward', WHERE WHAT IT READS IS OF BULK AT MOST 1048576: true; the input reads as it did. -/
def bidirectBackwardUptoRow : OpenClaim := { program := "ytkhfdmelcpfgoaagreat", sum := "186b666f7708efff0c4b634059f53c03b4f70405f121ead57816fb5bc0dc6939", func := "stratagem/stratagemlaw29.BidirectBackward", spec := "bidirectBackward", unfollowed := true, recurses := true, plainKeys := false, apart := false, narrowed := true }
def BidirectBackwardUptoSaid : Prop := bidirectBackwardUptoRow.holds Tryz.pinned (OpenSpec.upto bidirectBackwardSpec)

/-- 'stratagemlaw29.BidirectLimits', WHERE WHAT IT READS IS OF BULK AT MOST 1048576: true; the input reads as it did. -/
def bidirectLimitsUptoRow : OpenClaim := { program := "ytkhfdmelcpfgoaagreat", sum := "186b666f7708efff0c4b634059f53c03b4f70405f121ead57816fb5bc0dc6939", func := "stratagem/stratagemlaw29.BidirectLimits", spec := "bidirectLimits", unfollowed := true, recurses := true, plainKeys := false, apart := false, narrowed := true }
def BidirectLimitsUptoSaid : Prop := bidirectLimitsUptoRow.holds Tryz.pinned (OpenSpec.upto bidirectLimitsSpec)

/-- 'stratagemlaw29.BidirectErrors', WHERE WHAT IT READS IS OF BULK AT MOST 1048576: true; the input reads as it did. -/
def bidirectErrorsUptoRow : OpenClaim := { program := "ytkhfdmelcpfgoaagreat", sum := "186b666f7708efff0c4b634059f53c03b4f70405f121ead57816fb5bc0dc6939", func := "stratagem/stratagemlaw29.BidirectErrors", spec := "bidirectErrors", unfollowed := true, recurses := true, plainKeys := false, apart := false, narrowed := true }
def BidirectErrorsUptoSaid : Prop := bidirectErrorsUptoRow.holds Tryz.pinned (OpenSpec.upto bidirectErrorsSpec)

end Rows
end Go.Proofs.YtkhfdmelcpfgoaaGreat
