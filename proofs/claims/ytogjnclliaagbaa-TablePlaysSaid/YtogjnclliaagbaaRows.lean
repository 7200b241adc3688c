/-
  No cell of these rows narrows 'for every input' (looked for: loops, veiled, ifaces, maps, wideKeys, modest, calm, conditions, laid).
  DERIVED. THE GIVEN ROWS OF THIS SEAT. 7 by the template 'for every input the law returns true; each argument reads behind the call as it read before'; 0 by the template 'total and deterministic' (their statements: YtogjnclliaagbaaTotals.lean).
  GIVEN WITH THE SEED: the statements are not yours to turn. If you find one false, say at which input.
  Laid BY PROGRAM, IN A SANDBOX (cutbox-rows.mjs): the forced cells as the released guide's own fill.sh prints them over the translation f7f48c9f1a3cd91e… (all of the seat's roots in one cut). By AI agents, Wed Nov 11 2026. No macro, syntax, notation, axiom, sorry.
-/
import Derived.Test.YtogjnclliaagbaaChecked
import GoSem.Claim
import GoSem.ClaimJoined
import GoSem.ClaimMapViews
import Derived.JoinedTies
import Derived.KernelRfl
namespace Go.Proofs.Ytogjnclliaagbaa
/- THE CELL 'sum', in the pinned program and in every row, IS THE sha256 OF THE DUMP (.gsa) THAT YtogjnclliaagbaaProg.lean LOADS. Nothing in Lean hashes anything: it is a label: what it is worth is what the hold of that sum in a sandbox is worth. -/
noncomputable def Try.pinned : Pinned := { name := "ytogjnclliaagbaa", sum := "f7f48c9f1a3cd91e8f0533a695489da9de6b85f13c6533a1ef6807e4a344169a", checked := Try.checked }
namespace Rows
def none {H : Type} : Left H := { results := [], args := [] }

/-- 'linchpinlaw02.TableStale': WHATEVER THE INPUT: true; the input reads as it did. -/
def tableStaleSpec : ChangeSpec := { name := "tableStale", fn := fun _ => fun
  | [d1, d2, d3] => { results := [.lit (.bool true)], args := [d1, d2, d3] }
  | _ => none }
def tableStaleRow : OpenClaim := { program := "ytogjnclliaagbaa", sum := "f7f48c9f1a3cd91e8f0533a695489da9de6b85f13c6533a1ef6807e4a344169a", func := "linchpin/linchpinlaw02.TableStale", spec := "tableStale", apart := false }
def TableStaleSaid : Prop := tableStaleRow.holds Try.pinned (OpenSpec.ofChange tableStaleSpec)

/-- ITS FALSE NEIGHBOUR: 'it returns false'. Refute it at one input. -/
def tableStaleWrong : ChangeSpec := { name := "tableStale", fn := fun _ => fun
  | [d1, d2, d3] => { results := [.lit (.bool false)], args := [d1, d2, d3] }
  | _ => none }
def TableStaleWrongFalsely : Prop := tableStaleRow.holds Try.pinned (OpenSpec.ofChange tableStaleWrong)

/-- 'linchpinlaw02.TableSets': WHATEVER THE INPUT: true; the input reads as it did. -/
def tableSetsSpec : ChangeSpec := { name := "tableSets", fn := fun _ => fun
  | [d1, d2] => { results := [.lit (.bool true)], args := [d1, d2] }
  | _ => none }
def tableSetsRow : OpenClaim := { program := "ytogjnclliaagbaa", sum := "f7f48c9f1a3cd91e8f0533a695489da9de6b85f13c6533a1ef6807e4a344169a", func := "linchpin/linchpinlaw02.TableSets", spec := "tableSets", apart := false }
def TableSetsSaid : Prop := tableSetsRow.holds Try.pinned (OpenSpec.ofChange tableSetsSpec)

/-- ITS FALSE NEIGHBOUR: 'it returns false'. Refute it at one input. -/
def tableSetsWrong : ChangeSpec := { name := "tableSets", fn := fun _ => fun
  | [d1, d2] => { results := [.lit (.bool false)], args := [d1, d2] }
  | _ => none }
def TableSetsWrongFalsely : Prop := tableSetsRow.holds Try.pinned (OpenSpec.ofChange tableSetsWrong)

/-- 'linchpinlaw02.TableSizes': WHATEVER THE INPUT: true; the input reads as it did. -/
def tableSizesSpec : ChangeSpec := { name := "tableSizes", fn := fun _ => fun
  | [d1, d2, d3] => { results := [.lit (.bool true)], args := [d1, d2, d3] }
  | _ => none }
def tableSizesRow : OpenClaim := { program := "ytogjnclliaagbaa", sum := "f7f48c9f1a3cd91e8f0533a695489da9de6b85f13c6533a1ef6807e4a344169a", func := "linchpin/linchpinlaw02.TableSizes", spec := "tableSizes", apart := false }
def TableSizesSaid : Prop := tableSizesRow.holds Try.pinned (OpenSpec.ofChange tableSizesSpec)

/-- ITS FALSE NEIGHBOUR: 'it returns false'. Refute it at one input. -/
def tableSizesWrong : ChangeSpec := { name := "tableSizes", fn := fun _ => fun
  | [d1, d2, d3] => { results := [.lit (.bool false)], args := [d1, d2, d3] }
  | _ => none }
def TableSizesWrongFalsely : Prop := tableSizesRow.holds Try.pinned (OpenSpec.ofChange tableSizesWrong)

/-- 'linchpinlaw02.TableFull': WHATEVER THE INPUT: true; the input reads as it did. -/
def tableFullSpec : ChangeSpec := { name := "tableFull", fn := fun _ => fun
  | [d1, d2] => { results := [.lit (.bool true)], args := [d1, d2] }
  | _ => none }
def tableFullRow : OpenClaim := { program := "ytogjnclliaagbaa", sum := "f7f48c9f1a3cd91e8f0533a695489da9de6b85f13c6533a1ef6807e4a344169a", func := "linchpin/linchpinlaw02.TableFull", spec := "tableFull", apart := false }
def TableFullSaid : Prop := tableFullRow.holds Try.pinned (OpenSpec.ofChange tableFullSpec)

/-- ITS FALSE NEIGHBOUR: 'it returns false'. Refute it at one input. -/
def tableFullWrong : ChangeSpec := { name := "tableFull", fn := fun _ => fun
  | [d1, d2] => { results := [.lit (.bool false)], args := [d1, d2] }
  | _ => none }
def TableFullWrongFalsely : Prop := tableFullRow.holds Try.pinned (OpenSpec.ofChange tableFullWrong)

/-- 'linchpinlaw02.TableLeast': WHATEVER THE INPUT: true; the input reads as it did. -/
def tableLeastSpec : ChangeSpec := { name := "tableLeast", fn := fun _ => fun
  | [d1, d2] => { results := [.lit (.bool true)], args := [d1, d2] }
  | _ => none }
def tableLeastRow : OpenClaim := { program := "ytogjnclliaagbaa", sum := "f7f48c9f1a3cd91e8f0533a695489da9de6b85f13c6533a1ef6807e4a344169a", func := "linchpin/linchpinlaw02.TableLeast", spec := "tableLeast", apart := false }
def TableLeastSaid : Prop := tableLeastRow.holds Try.pinned (OpenSpec.ofChange tableLeastSpec)

/-- ITS FALSE NEIGHBOUR: 'it returns false'. Refute it at one input. -/
def tableLeastWrong : ChangeSpec := { name := "tableLeast", fn := fun _ => fun
  | [d1, d2] => { results := [.lit (.bool false)], args := [d1, d2] }
  | _ => none }
def TableLeastWrongFalsely : Prop := tableLeastRow.holds Try.pinned (OpenSpec.ofChange tableLeastWrong)

/-- 'linchpinlaw02.TablePlays': WHATEVER THE INPUT: true; the input reads as it did. -/
def tablePlaysSpec : ChangeSpec := { name := "tablePlays", fn := fun _ => fun
  | [d1, d2] => { results := [.lit (.bool true)], args := [d1, d2] }
  | _ => none }
def tablePlaysRow : OpenClaim := { program := "ytogjnclliaagbaa", sum := "f7f48c9f1a3cd91e8f0533a695489da9de6b85f13c6533a1ef6807e4a344169a", func := "linchpin/linchpinlaw02.TablePlays", spec := "tablePlays", apart := false }
def TablePlaysSaid : Prop := tablePlaysRow.holds Try.pinned (OpenSpec.ofChange tablePlaysSpec)

/-- ITS FALSE NEIGHBOUR: 'it returns false'. Refute it at one input. -/
def tablePlaysWrong : ChangeSpec := { name := "tablePlays", fn := fun _ => fun
  | [d1, d2] => { results := [.lit (.bool false)], args := [d1, d2] }
  | _ => none }
def TablePlaysWrongFalsely : Prop := tablePlaysRow.holds Try.pinned (OpenSpec.ofChange tablePlaysWrong)

/-- 'linchpinlaw02.TableApart': WHATEVER THE INPUT: true; the input reads as it did. -/
def tableApartSpec : ChangeSpec := { name := "tableApart", fn := fun _ => fun
  | [d] => { results := [.lit (.bool true)], args := [d] }
  | _ => none }
def tableApartRow : OpenClaim := { program := "ytogjnclliaagbaa", sum := "f7f48c9f1a3cd91e8f0533a695489da9de6b85f13c6533a1ef6807e4a344169a", func := "linchpin/linchpinlaw02.TableApart", spec := "tableApart", apart := false }
def TableApartSaid : Prop := tableApartRow.holds Try.pinned (OpenSpec.ofChange tableApartSpec)

/-- ITS FALSE NEIGHBOUR: 'it returns false'. Refute it at one input. -/
def tableApartWrong : ChangeSpec := { name := "tableApart", fn := fun _ => fun
  | [d] => { results := [.lit (.bool false)], args := [d] }
  | _ => none }
def TableApartWrongFalsely : Prop := tableApartRow.holds Try.pinned (OpenSpec.ofChange tableApartWrong)

/- THE SECOND FORM. 'bulk': how many values and letters a reading holds, each counted each time it is reached (what is shared counts as often as it is met; a slice's spare places count too). A statement '..UptoSaid' is the law's where the arguments, and the package variables that the reading takes, are together of bulk at most 1048576: NARROWER than '..Said'. Prove '..Said' where nothing that the law and all that it calls make is longer than what came in: it says more and counts as full. Else prove '..UptoSaid'. A law counts once. -/
mutual
def uptoBulk {H : Type} : DataW H → Nat
  | .lit (.string bytes) => bytes.length + 1
  | .lit _ => 1
  | .nil => 1
  | .ptr d => uptoBulk d + 1
  | .slice elems spare => uptoBulkAll elems + uptoBulkAll spare + 1
  | .agg parts => uptoBulkAll parts + 1
  | .iface _ d => uptoBulk d + 1
  | .map entries => uptoBulkEntries entries + 1
  | .held _ => 1
def uptoBulkAll {H : Type} : List (DataW H) → Nat
  | [] => 0
  | d :: r => uptoBulk d + uptoBulkAll r
def uptoBulkEntries {H : Type} : List (Lit × DataW H) → Nat
  | [] => 0
  | x :: r => uptoBulkEntry x + uptoBulkEntries r
def uptoBulkEntry {H : Type} : Lit × DataW H → Nat
  | (.string bytes, d) => bytes.length + uptoBulk d + 1
  | (_, d) => uptoBulk d + 1
 end
def uptoSmall : (H : Type) → List (DataW H) → Bool := fun _ ds => decide (uptoBulkAll ds ≤ 1048576)
def OpenSpec.upto (s : _root_.Go.ChangeSpec) : _root_.Go.OpenSpec := { _root_.Go.OpenSpec.ofChange s with cond := some uptoSmall }

/-- 'linchpinlaw02.TableStale', WHERE WHAT IT READS IS OF BULK AT MOST 1048576: true; the input reads as it did. -/
def tableStaleUptoRow : OpenClaim := { program := "ytogjnclliaagbaa", sum := "f7f48c9f1a3cd91e8f0533a695489da9de6b85f13c6533a1ef6807e4a344169a", func := "linchpin/linchpinlaw02.TableStale", spec := "tableStale", apart := false, narrowed := true }
def TableStaleUptoSaid : Prop := tableStaleUptoRow.holds Try.pinned (OpenSpec.upto tableStaleSpec)

/-- 'linchpinlaw02.TableSets', WHERE WHAT IT READS IS OF BULK AT MOST 1048576: true; the input reads as it did. -/
def tableSetsUptoRow : OpenClaim := { program := "ytogjnclliaagbaa", sum := "f7f48c9f1a3cd91e8f0533a695489da9de6b85f13c6533a1ef6807e4a344169a", func := "linchpin/linchpinlaw02.TableSets", spec := "tableSets", apart := false, narrowed := true }
def TableSetsUptoSaid : Prop := tableSetsUptoRow.holds Try.pinned (OpenSpec.upto tableSetsSpec)

/-- 'linchpinlaw02.TableSizes', WHERE WHAT IT READS IS OF BULK AT MOST 1048576: true; the input reads as it did. -/
def tableSizesUptoRow : OpenClaim := { program := "ytogjnclliaagbaa", sum := "f7f48c9f1a3cd91e8f0533a695489da9de6b85f13c6533a1ef6807e4a344169a", func := "linchpin/linchpinlaw02.TableSizes", spec := "tableSizes", apart := false, narrowed := true }
def TableSizesUptoSaid : Prop := tableSizesUptoRow.holds Try.pinned (OpenSpec.upto tableSizesSpec)

/-- 'linchpinlaw02.TableFull', WHERE WHAT IT READS IS OF BULK AT MOST 1048576: true; the input reads as it did. -/
def tableFullUptoRow : OpenClaim := { program := "ytogjnclliaagbaa", sum := "f7f48c9f1a3cd91e8f0533a695489da9de6b85f13c6533a1ef6807e4a344169a", func := "linchpin/linchpinlaw02.TableFull", spec := "tableFull", apart := false, narrowed := true }
def TableFullUptoSaid : Prop := tableFullUptoRow.holds Try.pinned (OpenSpec.upto tableFullSpec)

/-- 'linchpinlaw02.TableLeast', WHERE WHAT IT READS IS OF BULK AT MOST 1048576: true; the input reads as it did. -/
def tableLeastUptoRow : OpenClaim := { program := "ytogjnclliaagbaa", sum := "f7f48c9f1a3cd91e8f0533a695489da9de6b85f13c6533a1ef6807e4a344169a", func := "linchpin/linchpinlaw02.TableLeast", spec := "tableLeast", apart := false, narrowed := true }
def TableLeastUptoSaid : Prop := tableLeastUptoRow.holds Try.pinned (OpenSpec.upto tableLeastSpec)

/-- 'linchpinlaw02.TablePlays', WHERE WHAT IT READS IS OF BULK AT MOST 1048576: true; the input reads as it did. -/
def tablePlaysUptoRow : OpenClaim := { program := "ytogjnclliaagbaa", sum := "f7f48c9f1a3cd91e8f0533a695489da9de6b85f13c6533a1ef6807e4a344169a", func := "linchpin/linchpinlaw02.TablePlays", spec := "tablePlays", apart := false, narrowed := true }
def TablePlaysUptoSaid : Prop := tablePlaysUptoRow.holds Try.pinned (OpenSpec.upto tablePlaysSpec)

/-- 'linchpinlaw02.TableApart', WHERE WHAT IT READS IS OF BULK AT MOST 1048576: true; the input reads as it did. -/
def tableApartUptoRow : OpenClaim := { program := "ytogjnclliaagbaa", sum := "f7f48c9f1a3cd91e8f0533a695489da9de6b85f13c6533a1ef6807e4a344169a", func := "linchpin/linchpinlaw02.TableApart", spec := "tableApart", apart := false, narrowed := true }
def TableApartUptoSaid : Prop := tableApartUptoRow.holds Try.pinned (OpenSpec.upto tableApartSpec)

end Rows
end Go.Proofs.Ytogjnclliaagbaa
