/-
  No cell of these rows narrows 'for every input' (looked for: loops, veiled, ifaces, maps, wideKeys, modest, calm, conditions, laid).
  DERIVED. THE GIVEN ROWS OF THIS SEAT. 7 by the template 'for every input the law returns true; each argument reads behind the call as it read before'; 0 by the template 'total and deterministic' (their statements: YtgdkcdjdmgnjaaaTotals.lean).
  GIVEN WITH THE SEED: the statements are not yours to turn. If you find one false, say at which input.
  Laid BY PROGRAM, IN A SANDBOX (cutbox-rows.mjs): the forced cells as the released guide's own fill.sh prints them over the translation 3ef476fb01d1dd95… (all of the seat's roots in one cut). By AI agents, Wed Nov 11 2026. No macro, syntax, notation, axiom, sorry.
-/
import Derived.Test.YtgdkcdjdmgnjaaaChecked
import GoSem.Claim
import GoSem.ClaimJoined
import GoSem.ClaimMapViews
import Derived.JoinedTies
import Derived.KernelRfl
namespace Go.Proofs.Ytgdkcdjdmgnjaaa
/- THE CELL 'sum', in the pinned program and in every row, IS THE sha256 OF THE DUMP (.gsa) THAT YtgdkcdjdmgnjaaaProg.lean LOADS. Nothing in Lean hashes anything: it is a label: what it is worth is what the hold of that sum in a sandbox is worth. -/
noncomputable def Try.pinned : Pinned := { name := "ytgdkcdjdmgnjaaa", sum := "3ef476fb01d1dd95e0f6bf208bf23525693ebfe355dced6581bfce2e8fa2d20c", checked := Try.checked }
namespace Rows
def none {H : Type} : Left H := { results := [], args := [] }

/-- 'stratagemlaw03.PqueuePlays': WHATEVER THE INPUT: true; the input reads as it did. -/
def pqueuePlaysSpec : ChangeSpec := { name := "pqueuePlays", fn := fun _ => fun
  | [d] => { results := [.lit (.bool true)], args := [d] }
  | _ => none }
def pqueuePlaysRow : OpenClaim := { program := "ytgdkcdjdmgnjaaa", sum := "3ef476fb01d1dd95e0f6bf208bf23525693ebfe355dced6581bfce2e8fa2d20c", func := "stratagem/stratagemlaw03.PqueuePlays", spec := "pqueuePlays", apart := false }
def PqueuePlaysSaid : Prop := pqueuePlaysRow.holds Try.pinned (OpenSpec.ofChange pqueuePlaysSpec)

/-- ITS FALSE NEIGHBOUR: 'it returns false'. Refute it at one input. -/
def pqueuePlaysWrong : ChangeSpec := { name := "pqueuePlays", fn := fun _ => fun
  | [d] => { results := [.lit (.bool false)], args := [d] }
  | _ => none }
def PqueuePlaysWrongFalsely : Prop := pqueuePlaysRow.holds Try.pinned (OpenSpec.ofChange pqueuePlaysWrong)

/-- 'stratagemlaw03.PqueueSorts': WHATEVER THE INPUT: true; the input reads as it did. -/
def pqueueSortsSpec : ChangeSpec := { name := "pqueueSorts", fn := fun _ => fun
  | [d] => { results := [.lit (.bool true)], args := [d] }
  | _ => none }
def pqueueSortsRow : OpenClaim := { program := "ytgdkcdjdmgnjaaa", sum := "3ef476fb01d1dd95e0f6bf208bf23525693ebfe355dced6581bfce2e8fa2d20c", func := "stratagem/stratagemlaw03.PqueueSorts", spec := "pqueueSorts", apart := false }
def PqueueSortsSaid : Prop := pqueueSortsRow.holds Try.pinned (OpenSpec.ofChange pqueueSortsSpec)

/-- ITS FALSE NEIGHBOUR: 'it returns false'. Refute it at one input. -/
def pqueueSortsWrong : ChangeSpec := { name := "pqueueSorts", fn := fun _ => fun
  | [d] => { results := [.lit (.bool false)], args := [d] }
  | _ => none }
def PqueueSortsWrongFalsely : Prop := pqueueSortsRow.holds Try.pinned (OpenSpec.ofChange pqueueSortsWrong)

/-- 'stratagemlaw03.PqueueParts': WHATEVER THE INPUT: true; the input reads as it did. -/
def pqueuePartsSpec : ChangeSpec := { name := "pqueueParts", fn := fun _ => fun
  | [d1, d2, d3] => { results := [.lit (.bool true)], args := [d1, d2, d3] }
  | _ => none }
def pqueuePartsRow : OpenClaim := { program := "ytgdkcdjdmgnjaaa", sum := "3ef476fb01d1dd95e0f6bf208bf23525693ebfe355dced6581bfce2e8fa2d20c", func := "stratagem/stratagemlaw03.PqueueParts", spec := "pqueueParts", apart := false }
def PqueuePartsSaid : Prop := pqueuePartsRow.holds Try.pinned (OpenSpec.ofChange pqueuePartsSpec)

/-- ITS FALSE NEIGHBOUR: 'it returns false'. Refute it at one input. -/
def pqueuePartsWrong : ChangeSpec := { name := "pqueueParts", fn := fun _ => fun
  | [d1, d2, d3] => { results := [.lit (.bool false)], args := [d1, d2, d3] }
  | _ => none }
def PqueuePartsWrongFalsely : Prop := pqueuePartsRow.holds Try.pinned (OpenSpec.ofChange pqueuePartsWrong)

/-- 'stratagemlaw03.PqueueDrops': WHATEVER THE INPUT: true; the input reads as it did. -/
def pqueueDropsSpec : ChangeSpec := { name := "pqueueDrops", fn := fun _ => fun
  | [d1, d2] => { results := [.lit (.bool true)], args := [d1, d2] }
  | _ => none }
def pqueueDropsRow : OpenClaim := { program := "ytgdkcdjdmgnjaaa", sum := "3ef476fb01d1dd95e0f6bf208bf23525693ebfe355dced6581bfce2e8fa2d20c", func := "stratagem/stratagemlaw03.PqueueDrops", spec := "pqueueDrops", apart := false }
def PqueueDropsSaid : Prop := pqueueDropsRow.holds Try.pinned (OpenSpec.ofChange pqueueDropsSpec)

/-- ITS FALSE NEIGHBOUR: 'it returns false'. Refute it at one input. -/
def pqueueDropsWrong : ChangeSpec := { name := "pqueueDrops", fn := fun _ => fun
  | [d1, d2] => { results := [.lit (.bool false)], args := [d1, d2] }
  | _ => none }
def PqueueDropsWrongFalsely : Prop := pqueueDropsRow.holds Try.pinned (OpenSpec.ofChange pqueueDropsWrong)

/-- 'stratagemlaw03.PqueuePeeks': WHATEVER THE INPUT: true; the input reads as it did. -/
def pqueuePeeksSpec : ChangeSpec := { name := "pqueuePeeks", fn := fun _ => fun
  | [d] => { results := [.lit (.bool true)], args := [d] }
  | _ => none }
def pqueuePeeksRow : OpenClaim := { program := "ytgdkcdjdmgnjaaa", sum := "3ef476fb01d1dd95e0f6bf208bf23525693ebfe355dced6581bfce2e8fa2d20c", func := "stratagem/stratagemlaw03.PqueuePeeks", spec := "pqueuePeeks", apart := false }
def PqueuePeeksSaid : Prop := pqueuePeeksRow.holds Try.pinned (OpenSpec.ofChange pqueuePeeksSpec)

/-- ITS FALSE NEIGHBOUR: 'it returns false'. Refute it at one input. -/
def pqueuePeeksWrong : ChangeSpec := { name := "pqueuePeeks", fn := fun _ => fun
  | [d] => { results := [.lit (.bool false)], args := [d] }
  | _ => none }
def PqueuePeeksWrongFalsely : Prop := pqueuePeeksRow.holds Try.pinned (OpenSpec.ofChange pqueuePeeksWrong)

/-- 'stratagemlaw03.PqueueFull': WHATEVER THE INPUT: true; the input reads as it did. -/
def pqueueFullSpec : ChangeSpec := { name := "pqueueFull", fn := fun _ => fun
  | [d] => { results := [.lit (.bool true)], args := [d] }
  | _ => none }
def pqueueFullRow : OpenClaim := { program := "ytgdkcdjdmgnjaaa", sum := "3ef476fb01d1dd95e0f6bf208bf23525693ebfe355dced6581bfce2e8fa2d20c", func := "stratagem/stratagemlaw03.PqueueFull", spec := "pqueueFull", apart := false }
def PqueueFullSaid : Prop := pqueueFullRow.holds Try.pinned (OpenSpec.ofChange pqueueFullSpec)

/-- ITS FALSE NEIGHBOUR: 'it returns false'. Refute it at one input. -/
def pqueueFullWrong : ChangeSpec := { name := "pqueueFull", fn := fun _ => fun
  | [d] => { results := [.lit (.bool false)], args := [d] }
  | _ => none }
def PqueueFullWrongFalsely : Prop := pqueueFullRow.holds Try.pinned (OpenSpec.ofChange pqueueFullWrong)

/-- 'stratagemlaw03.PqueueNil': WHATEVER THE INPUT: true; the input reads as it did. -/
def pqueueNilSpec : ChangeSpec := { name := "pqueueNil", fn := fun _ => fun
  | [d1, d2, d3] => { results := [.lit (.bool true)], args := [d1, d2, d3] }
  | _ => none }
def pqueueNilRow : OpenClaim := { program := "ytgdkcdjdmgnjaaa", sum := "3ef476fb01d1dd95e0f6bf208bf23525693ebfe355dced6581bfce2e8fa2d20c", func := "stratagem/stratagemlaw03.PqueueNil", spec := "pqueueNil", apart := false }
def PqueueNilSaid : Prop := pqueueNilRow.holds Try.pinned (OpenSpec.ofChange pqueueNilSpec)

/-- ITS FALSE NEIGHBOUR: 'it returns false'. Refute it at one input. -/
def pqueueNilWrong : ChangeSpec := { name := "pqueueNil", fn := fun _ => fun
  | [d1, d2, d3] => { results := [.lit (.bool false)], args := [d1, d2, d3] }
  | _ => none }
def PqueueNilWrongFalsely : Prop := pqueueNilRow.holds Try.pinned (OpenSpec.ofChange pqueueNilWrong)

/- THE SECOND FORM. 'bulk': how many values and letters a reading holds, each counted each time it is reached (what is shared counts as often as it is met; a slice's spare places count too). A statement '..UptoSaid' is the law's where the arguments, and the package variables that the reading takes, are together of bulk at most 1048576: NARROWER than '..Said'. Prove '..Said' where nothing that the law and all that it calls make is longer than what came in: it says more and counts as full. Else prove '..UptoSaid'. A law counts once. -/
mutual
def uptoBulk {H : Type} : DataW H → Nat
  | .lit (.string bytes) => bytes.length + 1
  | .lit _ => 1
  | .nil => 1
  | .ptr d => uptoBulk d + 1
  | .slice elems spare => uptoBulkAll elems + uptoBulkAll spare + 1
  | .agg parts => uptoBulkAll parts + 1
  | .iface _ d => uptoBulk d + 1
  | .map entries => uptoBulkEntries entries + 1
  | .held _ => 1
def uptoBulkAll {H : Type} : List (DataW H) → Nat
  | [] => 0
  | d :: r => uptoBulk d + uptoBulkAll r
def uptoBulkEntries {H : Type} : List (Lit × DataW H) → Nat
  | [] => 0
  | x :: r => uptoBulkEntry x + uptoBulkEntries r
def uptoBulkEntry {H : Type} : Lit × DataW H → Nat
  | (.string bytes, d) => bytes.length + uptoBulk d + 1
  | (_, d) => uptoBulk d + 1
 end
def uptoSmall : (H : Type) → List (DataW H) → Bool := fun _ ds => decide (uptoBulkAll ds ≤ 1048576)
def OpenSpec.upto (s : _root_.Go.ChangeSpec) : _root_.Go.OpenSpec := { _root_.Go.OpenSpec.ofChange s with cond := some uptoSmall }

/-- 'stratagemlaw03.PqueuePlays', WHERE WHAT IT READS IS OF BULK AT MOST 1048576: true; the input reads as it did. -/
def pqueuePlaysUptoRow : OpenClaim := { program := "ytgdkcdjdmgnjaaa", sum := "3ef476fb01d1dd95e0f6bf208bf23525693ebfe355dced6581bfce2e8fa2d20c", func := "stratagem/stratagemlaw03.PqueuePlays", spec := "pqueuePlays", apart := false, narrowed := true }
def PqueuePlaysUptoSaid : Prop := pqueuePlaysUptoRow.holds Try.pinned (OpenSpec.upto pqueuePlaysSpec)

/-- 'stratagemlaw03.PqueueSorts', WHERE WHAT IT READS IS OF BULK AT MOST 1048576: true; the input reads as it did. -/
def pqueueSortsUptoRow : OpenClaim := { program := "ytgdkcdjdmgnjaaa", sum := "3ef476fb01d1dd95e0f6bf208bf23525693ebfe355dced6581bfce2e8fa2d20c", func := "stratagem/stratagemlaw03.PqueueSorts", spec := "pqueueSorts", apart := false, narrowed := true }
def PqueueSortsUptoSaid : Prop := pqueueSortsUptoRow.holds Try.pinned (OpenSpec.upto pqueueSortsSpec)

/-- 'stratagemlaw03.PqueueParts', WHERE WHAT IT READS IS OF BULK AT MOST 1048576: true; the input reads as it did. -/
def pqueuePartsUptoRow : OpenClaim := { program := "ytgdkcdjdmgnjaaa", sum := "3ef476fb01d1dd95e0f6bf208bf23525693ebfe355dced6581bfce2e8fa2d20c", func := "stratagem/stratagemlaw03.PqueueParts", spec := "pqueueParts", apart := false, narrowed := true }
def PqueuePartsUptoSaid : Prop := pqueuePartsUptoRow.holds Try.pinned (OpenSpec.upto pqueuePartsSpec)

/-- 'stratagemlaw03.PqueueDrops', WHERE WHAT IT READS IS OF BULK AT MOST 1048576: true; the input reads as it did. -/
def pqueueDropsUptoRow : OpenClaim := { program := "ytgdkcdjdmgnjaaa", sum := "3ef476fb01d1dd95e0f6bf208bf23525693ebfe355dced6581bfce2e8fa2d20c", func := "stratagem/stratagemlaw03.PqueueDrops", spec := "pqueueDrops", apart := false, narrowed := true }
def PqueueDropsUptoSaid : Prop := pqueueDropsUptoRow.holds Try.pinned (OpenSpec.upto pqueueDropsSpec)

/-- 'stratagemlaw03.PqueuePeeks', WHERE WHAT IT READS IS OF BULK AT MOST 1048576: true; the input reads as it did. -/
def pqueuePeeksUptoRow : OpenClaim := { program := "ytgdkcdjdmgnjaaa", sum := "3ef476fb01d1dd95e0f6bf208bf23525693ebfe355dced6581bfce2e8fa2d20c", func := "stratagem/stratagemlaw03.PqueuePeeks", spec := "pqueuePeeks", apart := false, narrowed := true }
def PqueuePeeksUptoSaid : Prop := pqueuePeeksUptoRow.holds Try.pinned (OpenSpec.upto pqueuePeeksSpec)

/-- 'stratagemlaw03.PqueueFull', WHERE WHAT IT READS IS OF BULK AT MOST 1048576: true; the input reads as it did. -/
def pqueueFullUptoRow : OpenClaim := { program := "ytgdkcdjdmgnjaaa", sum := "3ef476fb01d1dd95e0f6bf208bf23525693ebfe355dced6581bfce2e8fa2d20c", func := "stratagem/stratagemlaw03.PqueueFull", spec := "pqueueFull", apart := false, narrowed := true }
def PqueueFullUptoSaid : Prop := pqueueFullUptoRow.holds Try.pinned (OpenSpec.upto pqueueFullSpec)

/-- 'stratagemlaw03.PqueueNil', WHERE WHAT IT READS IS OF BULK AT MOST 1048576: true; the input reads as it did. -/
def pqueueNilUptoRow : OpenClaim := { program := "ytgdkcdjdmgnjaaa", sum := "3ef476fb01d1dd95e0f6bf208bf23525693ebfe355dced6581bfce2e8fa2d20c", func := "stratagem/stratagemlaw03.PqueueNil", spec := "pqueueNil", apart := false, narrowed := true }
def PqueueNilUptoSaid : Prop := pqueueNilUptoRow.holds Try.pinned (OpenSpec.upto pqueueNilSpec)

end Rows
end Go.Proofs.Ytgdkcdjdmgnjaaa
