/-
  No cell of these rows narrows 'for every input' (looked for: loops, veiled, ifaces, maps, wideKeys, modest, calm, conditions, laid).
  DERIVED. THE GIVEN ROWS OF THIS SEAT. 6 by the template 'for every input the law returns true; each argument reads behind the call as it read before'; 0 by the template 'total and deterministic' (their statements: YtkmgdfcpfdnkfaaTotals.lean).
  GIVEN WITH THE SEED: the statements are not yours to turn. If you find one false, say at which input.
  Laid BY PROGRAM, IN A SANDBOX (cutbox-rows.mjs): the forced cells as the released guide's own fill.sh prints them over the translation e87311c1cb06745e… (all of the seat's roots in one cut). By AI agents, Wed Nov 11 2026. No macro, syntax, notation, axiom, sorry.
-/
import Derived.Test.YtkmgdfcpfdnkfaaChecked
import GoSem.Claim
import GoSem.ClaimJoined
import GoSem.ClaimMapViews
import Derived.JoinedTies
import Derived.KernelRfl
namespace Go.Proofs.Ytkmgdfcpfdnkfaa
/- THE CELL 'sum', in the pinned program and in every row, IS THE sha256 OF THE DUMP (.gsa) THAT YtkmgdfcpfdnkfaaProg.lean LOADS. Nothing in Lean hashes anything: it is a label: what it is worth is what the hold of that sum in a sandbox is worth. -/
noncomputable def Try.pinned : Pinned := { name := "ytkmgdfcpfdnkfaa", sum := "e87311c1cb06745edc7f872824a81233fb9de792dc550f63aeb084cec6f0ca4a", checked := Try.checked }
namespace Rows
def none {H : Type} : Left H := { results := [], args := [] }

/-- 'linchpinlaw09.DescTells': WHATEVER THE INPUT: true; the input reads as it did. -/
def descTellsSpec : ChangeSpec := { name := "descTells", fn := fun _ => fun
  | [d] => { results := [.lit (.bool true)], args := [d] }
  | _ => none }
def descTellsRow : OpenClaim := { program := "ytkmgdfcpfdnkfaa", sum := "e87311c1cb06745edc7f872824a81233fb9de792dc550f63aeb084cec6f0ca4a", func := "linchpin/linchpinlaw09.DescTells", spec := "descTells", apart := false }
def DescTellsSaid : Prop := descTellsRow.holds Try.pinned (OpenSpec.ofChange descTellsSpec)

/-- ITS FALSE NEIGHBOUR: 'it returns false'. Refute it at one input. -/
def descTellsWrong : ChangeSpec := { name := "descTells", fn := fun _ => fun
  | [d] => { results := [.lit (.bool false)], args := [d] }
  | _ => none }
def DescTellsWrongFalsely : Prop := descTellsRow.holds Try.pinned (OpenSpec.ofChange descTellsWrong)

/-- 'linchpinlaw09.DescReads': WHATEVER THE INPUT: true; the input reads as it did. -/
def descReadsSpec : ChangeSpec := { name := "descReads", fn := fun _ => fun
  | [d] => { results := [.lit (.bool true)], args := [d] }
  | _ => none }
def descReadsRow : OpenClaim := { program := "ytkmgdfcpfdnkfaa", sum := "e87311c1cb06745edc7f872824a81233fb9de792dc550f63aeb084cec6f0ca4a", func := "linchpin/linchpinlaw09.DescReads", spec := "descReads", apart := false }
def DescReadsSaid : Prop := descReadsRow.holds Try.pinned (OpenSpec.ofChange descReadsSpec)

/-- ITS FALSE NEIGHBOUR: 'it returns false'. Refute it at one input. -/
def descReadsWrong : ChangeSpec := { name := "descReads", fn := fun _ => fun
  | [d] => { results := [.lit (.bool false)], args := [d] }
  | _ => none }
def DescReadsWrongFalsely : Prop := descReadsRow.holds Try.pinned (OpenSpec.ofChange descReadsWrong)

/-- 'linchpinlaw09.DescTurned': WHATEVER THE INPUT: true; the input reads as it did. -/
def descTurnedSpec : ChangeSpec := { name := "descTurned", fn := fun _ => fun
  | [d1, d2, d3] => { results := [.lit (.bool true)], args := [d1, d2, d3] }
  | _ => none }
def descTurnedRow : OpenClaim := { program := "ytkmgdfcpfdnkfaa", sum := "e87311c1cb06745edc7f872824a81233fb9de792dc550f63aeb084cec6f0ca4a", func := "linchpin/linchpinlaw09.DescTurned", spec := "descTurned", apart := false }
def DescTurnedSaid : Prop := descTurnedRow.holds Try.pinned (OpenSpec.ofChange descTurnedSpec)

/-- ITS FALSE NEIGHBOUR: 'it returns false'. Refute it at one input. -/
def descTurnedWrong : ChangeSpec := { name := "descTurned", fn := fun _ => fun
  | [d1, d2, d3] => { results := [.lit (.bool false)], args := [d1, d2, d3] }
  | _ => none }
def DescTurnedWrongFalsely : Prop := descTurnedRow.holds Try.pinned (OpenSpec.ofChange descTurnedWrong)

/-- 'linchpinlaw09.DescFields': WHATEVER THE INPUT: true; the input reads as it did. -/
def descFieldsSpec : ChangeSpec := { name := "descFields", fn := fun _ => fun
  | [d1, d2, d3] => { results := [.lit (.bool true)], args := [d1, d2, d3] }
  | _ => none }
def descFieldsRow : OpenClaim := { program := "ytkmgdfcpfdnkfaa", sum := "e87311c1cb06745edc7f872824a81233fb9de792dc550f63aeb084cec6f0ca4a", func := "linchpin/linchpinlaw09.DescFields", spec := "descFields", apart := false }
def DescFieldsSaid : Prop := descFieldsRow.holds Try.pinned (OpenSpec.ofChange descFieldsSpec)

/-- ITS FALSE NEIGHBOUR: 'it returns false'. Refute it at one input. -/
def descFieldsWrong : ChangeSpec := { name := "descFields", fn := fun _ => fun
  | [d1, d2, d3] => { results := [.lit (.bool false)], args := [d1, d2, d3] }
  | _ => none }
def DescFieldsWrongFalsely : Prop := descFieldsRow.holds Try.pinned (OpenSpec.ofChange descFieldsWrong)

/-- 'linchpinlaw09.DescCheck': WHATEVER THE INPUT: true; the input reads as it did. -/
def descCheckSpec : ChangeSpec := { name := "descCheck", fn := fun _ => fun
  | [d1, d2, d3] => { results := [.lit (.bool true)], args := [d1, d2, d3] }
  | _ => none }
def descCheckRow : OpenClaim := { program := "ytkmgdfcpfdnkfaa", sum := "e87311c1cb06745edc7f872824a81233fb9de792dc550f63aeb084cec6f0ca4a", func := "linchpin/linchpinlaw09.DescCheck", spec := "descCheck", apart := false }
def DescCheckSaid : Prop := descCheckRow.holds Try.pinned (OpenSpec.ofChange descCheckSpec)

/-- ITS FALSE NEIGHBOUR: 'it returns false'. Refute it at one input. -/
def descCheckWrong : ChangeSpec := { name := "descCheck", fn := fun _ => fun
  | [d1, d2, d3] => { results := [.lit (.bool false)], args := [d1, d2, d3] }
  | _ => none }
def DescCheckWrongFalsely : Prop := descCheckRow.holds Try.pinned (OpenSpec.ofChange descCheckWrong)

/-- 'linchpinlaw09.DescLens': WHATEVER THE INPUT: true; the input reads as it did. -/
def descLensSpec : ChangeSpec := { name := "descLens", fn := fun _ => fun
  | [d1, d2] => { results := [.lit (.bool true)], args := [d1, d2] }
  | _ => none }
def descLensRow : OpenClaim := { program := "ytkmgdfcpfdnkfaa", sum := "e87311c1cb06745edc7f872824a81233fb9de792dc550f63aeb084cec6f0ca4a", func := "linchpin/linchpinlaw09.DescLens", spec := "descLens", apart := false }
def DescLensSaid : Prop := descLensRow.holds Try.pinned (OpenSpec.ofChange descLensSpec)

/-- ITS FALSE NEIGHBOUR: 'it returns false'. Refute it at one input. -/
def descLensWrong : ChangeSpec := { name := "descLens", fn := fun _ => fun
  | [d1, d2] => { results := [.lit (.bool false)], args := [d1, d2] }
  | _ => none }
def DescLensWrongFalsely : Prop := descLensRow.holds Try.pinned (OpenSpec.ofChange descLensWrong)

/- THE SECOND FORM. 'bulk': how many values and letters a reading holds, each counted each time it is reached (what is shared counts as often as it is met; a slice's spare places count too). A statement '..UptoSaid' is the law's where the arguments, and the package variables that the reading takes, are together of bulk at most 1048576: NARROWER than '..Said'. Prove '..Said' where nothing that the law and all that it calls make is longer than what came in: it says more and counts as full. Else prove '..UptoSaid'. A law counts once. -/
mutual
def uptoBulk {H : Type} : DataW H → Nat
  | .lit (.string bytes) => bytes.length + 1
  | .lit _ => 1
  | .nil => 1
  | .ptr d => uptoBulk d + 1
  | .slice elems spare => uptoBulkAll elems + uptoBulkAll spare + 1
  | .agg parts => uptoBulkAll parts + 1
  | .iface _ d => uptoBulk d + 1
  | .map entries => uptoBulkEntries entries + 1
  | .held _ => 1
def uptoBulkAll {H : Type} : List (DataW H) → Nat
  | [] => 0
  | d :: r => uptoBulk d + uptoBulkAll r
def uptoBulkEntries {H : Type} : List (Lit × DataW H) → Nat
  | [] => 0
  | x :: r => uptoBulkEntry x + uptoBulkEntries r
def uptoBulkEntry {H : Type} : Lit × DataW H → Nat
  | (.string bytes, d) => bytes.length + uptoBulk d + 1
  | (_, d) => uptoBulk d + 1
 end
def uptoSmall : (H : Type) → List (DataW H) → Bool := fun _ ds => decide (uptoBulkAll ds ≤ 1048576)
def OpenSpec.upto (s : _root_.Go.ChangeSpec) : _root_.Go.OpenSpec := { _root_.Go.OpenSpec.ofChange s with cond := some uptoSmall }

/-- 'linchpinlaw09.DescTells', WHERE WHAT IT READS IS OF BULK AT MOST 1048576: true; the input reads as it did. -/
def descTellsUptoRow : OpenClaim := { program := "ytkmgdfcpfdnkfaa", sum := "e87311c1cb06745edc7f872824a81233fb9de792dc550f63aeb084cec6f0ca4a", func := "linchpin/linchpinlaw09.DescTells", spec := "descTells", apart := false, narrowed := true }
def DescTellsUptoSaid : Prop := descTellsUptoRow.holds Try.pinned (OpenSpec.upto descTellsSpec)

/-- 'linchpinlaw09.DescReads', WHERE WHAT IT READS IS OF BULK AT MOST 1048576: true; the input reads as it did. -/
def descReadsUptoRow : OpenClaim := { program := "ytkmgdfcpfdnkfaa", sum := "e87311c1cb06745edc7f872824a81233fb9de792dc550f63aeb084cec6f0ca4a", func := "linchpin/linchpinlaw09.DescReads", spec := "descReads", apart := false, narrowed := true }
def DescReadsUptoSaid : Prop := descReadsUptoRow.holds Try.pinned (OpenSpec.upto descReadsSpec)

/-- 'linchpinlaw09.DescTurned', WHERE WHAT IT READS IS OF BULK AT MOST 1048576: true; the input reads as it did. -/
def descTurnedUptoRow : OpenClaim := { program := "ytkmgdfcpfdnkfaa", sum := "e87311c1cb06745edc7f872824a81233fb9de792dc550f63aeb084cec6f0ca4a", func := "linchpin/linchpinlaw09.DescTurned", spec := "descTurned", apart := false, narrowed := true }
def DescTurnedUptoSaid : Prop := descTurnedUptoRow.holds Try.pinned (OpenSpec.upto descTurnedSpec)

/-- 'linchpinlaw09.DescFields', WHERE WHAT IT READS IS OF BULK AT MOST 1048576: true; the input reads as it did. -/
def descFieldsUptoRow : OpenClaim := { program := "ytkmgdfcpfdnkfaa", sum := "e87311c1cb06745edc7f872824a81233fb9de792dc550f63aeb084cec6f0ca4a", func := "linchpin/linchpinlaw09.DescFields", spec := "descFields", apart := false, narrowed := true }
def DescFieldsUptoSaid : Prop := descFieldsUptoRow.holds Try.pinned (OpenSpec.upto descFieldsSpec)

/-- 'linchpinlaw09.DescCheck', WHERE WHAT IT READS IS OF BULK AT MOST 1048576: true; the input reads as it did. -/
def descCheckUptoRow : OpenClaim := { program := "ytkmgdfcpfdnkfaa", sum := "e87311c1cb06745edc7f872824a81233fb9de792dc550f63aeb084cec6f0ca4a", func := "linchpin/linchpinlaw09.DescCheck", spec := "descCheck", apart := false, narrowed := true }
def DescCheckUptoSaid : Prop := descCheckUptoRow.holds Try.pinned (OpenSpec.upto descCheckSpec)

/-- 'linchpinlaw09.DescLens', WHERE WHAT IT READS IS OF BULK AT MOST 1048576: true; the input reads as it did. -/
def descLensUptoRow : OpenClaim := { program := "ytkmgdfcpfdnkfaa", sum := "e87311c1cb06745edc7f872824a81233fb9de792dc550f63aeb084cec6f0ca4a", func := "linchpin/linchpinlaw09.DescLens", spec := "descLens", apart := false, narrowed := true }
def DescLensUptoSaid : Prop := descLensUptoRow.holds Try.pinned (OpenSpec.upto descLensSpec)

end Rows
end Go.Proofs.Ytkmgdfcpfdnkfaa
