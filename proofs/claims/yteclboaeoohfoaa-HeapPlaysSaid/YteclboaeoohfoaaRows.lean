/-
  No cell of these rows narrows 'for every input' (looked for: loops, veiled, ifaces, maps, wideKeys, modest, calm, conditions, laid).
  DERIVED. THE GIVEN ROWS OF THIS SEAT. 6 by the template 'for every input the law returns true; each argument reads behind the call as it read before'; 0 by the template 'total and deterministic' (their statements: YteclboaeoohfoaaTotals.lean).
  GIVEN WITH THE SEED: the statements are not yours to turn. If you find one false, say at which input.
  Laid BY PROGRAM, IN A SANDBOX (cutbox-rows.mjs): the forced cells as the released guide's own fill.sh prints them over the translation 70a375b1dbb7e81f… (all of the seat's roots in one cut). By AI agents, Wed Nov 11 2026. No macro, syntax, notation, axiom, sorry.
-/
import Derived.Test.YteclboaeoohfoaaChecked
import GoSem.Claim
import GoSem.ClaimJoined
import GoSem.ClaimMapViews
import Derived.JoinedTies
import Derived.KernelRfl
namespace Go.Proofs.Yteclboaeoohfoaa
/- THE CELL 'sum', in the pinned program and in every row, IS THE sha256 OF THE DUMP (.gsa) THAT YteclboaeoohfoaaProg.lean LOADS. Nothing in Lean hashes anything: it is a label: what it is worth is what the hold of that sum in a sandbox is worth. -/
noncomputable def Try.pinned : Pinned := { name := "yteclboaeoohfoaa", sum := "70a375b1dbb7e81f0ecbf4cf6859be76a54affaa239a5258323f2ad32776ee3b", checked := Try.checked }
namespace Rows
def none {H : Type} : Left H := { results := [], args := [] }

/-- 'linchpinlaw03.HeapPlays': WHATEVER THE INPUT: true; the input reads as it did. -/
def heapPlaysSpec : ChangeSpec := { name := "heapPlays", fn := fun _ => fun
  | [d1, d2] => { results := [.lit (.bool true)], args := [d1, d2] }
  | _ => none }
def heapPlaysRow : OpenClaim := { program := "yteclboaeoohfoaa", sum := "70a375b1dbb7e81f0ecbf4cf6859be76a54affaa239a5258323f2ad32776ee3b", func := "linchpin/linchpinlaw03.HeapPlays", spec := "heapPlays", unfollowed := true, recurses := true, apart := false }
def HeapPlaysSaid : Prop := heapPlaysRow.holds Try.pinned (OpenSpec.ofChange heapPlaysSpec)

/-- ITS FALSE NEIGHBOUR: 'it returns false'. Refute it at one input. -/
def heapPlaysWrong : ChangeSpec := { name := "heapPlays", fn := fun _ => fun
  | [d1, d2] => { results := [.lit (.bool false)], args := [d1, d2] }
  | _ => none }
def HeapPlaysWrongFalsely : Prop := heapPlaysRow.holds Try.pinned (OpenSpec.ofChange heapPlaysWrong)

/-- 'linchpinlaw03.HeapSorts': WHATEVER THE INPUT: true; the input reads as it did. -/
def heapSortsSpec : ChangeSpec := { name := "heapSorts", fn := fun _ => fun
  | [d1, d2] => { results := [.lit (.bool true)], args := [d1, d2] }
  | _ => none }
def heapSortsRow : OpenClaim := { program := "yteclboaeoohfoaa", sum := "70a375b1dbb7e81f0ecbf4cf6859be76a54affaa239a5258323f2ad32776ee3b", func := "linchpin/linchpinlaw03.HeapSorts", spec := "heapSorts", unfollowed := true, recurses := true, apart := false }
def HeapSortsSaid : Prop := heapSortsRow.holds Try.pinned (OpenSpec.ofChange heapSortsSpec)

/-- ITS FALSE NEIGHBOUR: 'it returns false'. Refute it at one input. -/
def heapSortsWrong : ChangeSpec := { name := "heapSorts", fn := fun _ => fun
  | [d1, d2] => { results := [.lit (.bool false)], args := [d1, d2] }
  | _ => none }
def HeapSortsWrongFalsely : Prop := heapSortsRow.holds Try.pinned (OpenSpec.ofChange heapSortsWrong)

/-- 'linchpinlaw03.HeapFirst': WHATEVER THE INPUT: true; the input reads as it did. -/
def heapFirstSpec : ChangeSpec := { name := "heapFirst", fn := fun _ => fun
  | [d] => { results := [.lit (.bool true)], args := [d] }
  | _ => none }
def heapFirstRow : OpenClaim := { program := "yteclboaeoohfoaa", sum := "70a375b1dbb7e81f0ecbf4cf6859be76a54affaa239a5258323f2ad32776ee3b", func := "linchpin/linchpinlaw03.HeapFirst", spec := "heapFirst", unfollowed := true, recurses := true, apart := false }
def HeapFirstSaid : Prop := heapFirstRow.holds Try.pinned (OpenSpec.ofChange heapFirstSpec)

/-- ITS FALSE NEIGHBOUR: 'it returns false'. Refute it at one input. -/
def heapFirstWrong : ChangeSpec := { name := "heapFirst", fn := fun _ => fun
  | [d] => { results := [.lit (.bool false)], args := [d] }
  | _ => none }
def HeapFirstWrongFalsely : Prop := heapFirstRow.holds Try.pinned (OpenSpec.ofChange heapFirstWrong)

/-- 'linchpinlaw03.HeapBack': WHATEVER THE INPUT: true; the input reads as it did. -/
def heapBackSpec : ChangeSpec := { name := "heapBack", fn := fun _ => fun
  | [d1, d2] => { results := [.lit (.bool true)], args := [d1, d2] }
  | _ => none }
def heapBackRow : OpenClaim := { program := "yteclboaeoohfoaa", sum := "70a375b1dbb7e81f0ecbf4cf6859be76a54affaa239a5258323f2ad32776ee3b", func := "linchpin/linchpinlaw03.HeapBack", spec := "heapBack", unfollowed := true, recurses := true, apart := false }
def HeapBackSaid : Prop := heapBackRow.holds Try.pinned (OpenSpec.ofChange heapBackSpec)

/-- ITS FALSE NEIGHBOUR: 'it returns false'. Refute it at one input. -/
def heapBackWrong : ChangeSpec := { name := "heapBack", fn := fun _ => fun
  | [d1, d2] => { results := [.lit (.bool false)], args := [d1, d2] }
  | _ => none }
def HeapBackWrongFalsely : Prop := heapBackRow.holds Try.pinned (OpenSpec.ofChange heapBackWrong)

/-- 'linchpinlaw03.HeapMerge': WHATEVER THE INPUT: true; the input reads as it did. -/
def heapMergeSpec : ChangeSpec := { name := "heapMerge", fn := fun _ => fun
  | [d1, d2] => { results := [.lit (.bool true)], args := [d1, d2] }
  | _ => none }
def heapMergeRow : OpenClaim := { program := "yteclboaeoohfoaa", sum := "70a375b1dbb7e81f0ecbf4cf6859be76a54affaa239a5258323f2ad32776ee3b", func := "linchpin/linchpinlaw03.HeapMerge", spec := "heapMerge", unfollowed := true, recurses := true, apart := false }
def HeapMergeSaid : Prop := heapMergeRow.holds Try.pinned (OpenSpec.ofChange heapMergeSpec)

/-- ITS FALSE NEIGHBOUR: 'it returns false'. Refute it at one input. -/
def heapMergeWrong : ChangeSpec := { name := "heapMerge", fn := fun _ => fun
  | [d1, d2] => { results := [.lit (.bool false)], args := [d1, d2] }
  | _ => none }
def HeapMergeWrongFalsely : Prop := heapMergeRow.holds Try.pinned (OpenSpec.ofChange heapMergeWrong)

/-- 'linchpinlaw03.HeapKeys': WHATEVER THE INPUT: true; the input reads as it did. -/
def heapKeysSpec : ChangeSpec := { name := "heapKeys", fn := fun _ => fun
  | [d1, d2, d3] => { results := [.lit (.bool true)], args := [d1, d2, d3] }
  | _ => none }
def heapKeysRow : OpenClaim := { program := "yteclboaeoohfoaa", sum := "70a375b1dbb7e81f0ecbf4cf6859be76a54affaa239a5258323f2ad32776ee3b", func := "linchpin/linchpinlaw03.HeapKeys", spec := "heapKeys", unfollowed := true, recurses := true, apart := false }
def HeapKeysSaid : Prop := heapKeysRow.holds Try.pinned (OpenSpec.ofChange heapKeysSpec)

/-- ITS FALSE NEIGHBOUR: 'it returns false'. Refute it at one input. -/
def heapKeysWrong : ChangeSpec := { name := "heapKeys", fn := fun _ => fun
  | [d1, d2, d3] => { results := [.lit (.bool false)], args := [d1, d2, d3] }
  | _ => none }
def HeapKeysWrongFalsely : Prop := heapKeysRow.holds Try.pinned (OpenSpec.ofChange heapKeysWrong)

/- THE SECOND FORM. 'bulk': how many values and letters a reading holds, each counted each time it is reached (what is shared counts as often as it is met; a slice's spare places count too). A statement '..UptoSaid' is the law's where the arguments, and the package variables that the reading takes, are together of bulk at most 1048576: NARROWER than '..Said'. Prove '..Said' where nothing that the law and all that it calls make is longer than what came in: it says more and counts as full. Else prove '..UptoSaid'. A law counts once. -/
mutual
def uptoBulk {H : Type} : DataW H → Nat
  | .lit (.string bytes) => bytes.length + 1
  | .lit _ => 1
  | .nil => 1
  | .ptr d => uptoBulk d + 1
  | .slice elems spare => uptoBulkAll elems + uptoBulkAll spare + 1
  | .agg parts => uptoBulkAll parts + 1
  | .iface _ d => uptoBulk d + 1
  | .map entries => uptoBulkEntries entries + 1
  | .held _ => 1
def uptoBulkAll {H : Type} : List (DataW H) → Nat
  | [] => 0
  | d :: r => uptoBulk d + uptoBulkAll r
def uptoBulkEntries {H : Type} : List (Lit × DataW H) → Nat
  | [] => 0
  | x :: r => uptoBulkEntry x + uptoBulkEntries r
def uptoBulkEntry {H : Type} : Lit × DataW H → Nat
  | (.string bytes, d) => bytes.length + uptoBulk d + 1
  | (_, d) => uptoBulk d + 1
 end
def uptoSmall : (H : Type) → List (DataW H) → Bool := fun _ ds => decide (uptoBulkAll ds ≤ 1048576)
def OpenSpec.upto (s : _root_.Go.ChangeSpec) : _root_.Go.OpenSpec := { _root_.Go.OpenSpec.ofChange s with cond := some uptoSmall }

/-- 'linchpinlaw03.HeapPlays', WHERE WHAT IT READS IS OF BULK AT MOST 1048576: true; the input reads as it did. -/
def heapPlaysUptoRow : OpenClaim := { program := "yteclboaeoohfoaa", sum := "70a375b1dbb7e81f0ecbf4cf6859be76a54affaa239a5258323f2ad32776ee3b", func := "linchpin/linchpinlaw03.HeapPlays", spec := "heapPlays", unfollowed := true, recurses := true, apart := false, narrowed := true }
def HeapPlaysUptoSaid : Prop := heapPlaysUptoRow.holds Try.pinned (OpenSpec.upto heapPlaysSpec)

/-- 'linchpinlaw03.HeapSorts', WHERE WHAT IT READS IS OF BULK AT MOST 1048576: true; the input reads as it did. -/
def heapSortsUptoRow : OpenClaim := { program := "yteclboaeoohfoaa", sum := "70a375b1dbb7e81f0ecbf4cf6859be76a54affaa239a5258323f2ad32776ee3b", func := "linchpin/linchpinlaw03.HeapSorts", spec := "heapSorts", unfollowed := true, recurses := true, apart := false, narrowed := true }
def HeapSortsUptoSaid : Prop := heapSortsUptoRow.holds Try.pinned (OpenSpec.upto heapSortsSpec)

/-- 'linchpinlaw03.HeapFirst', WHERE WHAT IT READS IS OF BULK AT MOST 1048576: true; the input reads as it did. -/
def heapFirstUptoRow : OpenClaim := { program := "yteclboaeoohfoaa", sum := "70a375b1dbb7e81f0ecbf4cf6859be76a54affaa239a5258323f2ad32776ee3b", func := "linchpin/linchpinlaw03.HeapFirst", spec := "heapFirst", unfollowed := true, recurses := true, apart := false, narrowed := true }
def HeapFirstUptoSaid : Prop := heapFirstUptoRow.holds Try.pinned (OpenSpec.upto heapFirstSpec)

/-- 'linchpinlaw03.HeapBack', WHERE WHAT IT READS IS OF BULK AT MOST 1048576: true; the input reads as it did. -/
def heapBackUptoRow : OpenClaim := { program := "yteclboaeoohfoaa", sum := "70a375b1dbb7e81f0ecbf4cf6859be76a54affaa239a5258323f2ad32776ee3b", func := "linchpin/linchpinlaw03.HeapBack", spec := "heapBack", unfollowed := true, recurses := true, apart := false, narrowed := true }
def HeapBackUptoSaid : Prop := heapBackUptoRow.holds Try.pinned (OpenSpec.upto heapBackSpec)

/-- 'linchpinlaw03.HeapMerge', WHERE WHAT IT READS IS OF BULK AT MOST 1048576: true; the input reads as it did. -/
def heapMergeUptoRow : OpenClaim := { program := "yteclboaeoohfoaa", sum := "70a375b1dbb7e81f0ecbf4cf6859be76a54affaa239a5258323f2ad32776ee3b", func := "linchpin/linchpinlaw03.HeapMerge", spec := "heapMerge", unfollowed := true, recurses := true, apart := false, narrowed := true }
def HeapMergeUptoSaid : Prop := heapMergeUptoRow.holds Try.pinned (OpenSpec.upto heapMergeSpec)

/-- 'linchpinlaw03.HeapKeys', WHERE WHAT IT READS IS OF BULK AT MOST 1048576: true; the input reads as it did. -/
def heapKeysUptoRow : OpenClaim := { program := "yteclboaeoohfoaa", sum := "70a375b1dbb7e81f0ecbf4cf6859be76a54affaa239a5258323f2ad32776ee3b", func := "linchpin/linchpinlaw03.HeapKeys", spec := "heapKeys", unfollowed := true, recurses := true, apart := false, narrowed := true }
def HeapKeysUptoSaid : Prop := heapKeysUptoRow.holds Try.pinned (OpenSpec.upto heapKeysSpec)

end Rows
end Go.Proofs.Yteclboaeoohfoaa
