/-
  No cell of these rows narrows 'for every input' (looked for: loops, veiled, ifaces, maps, wideKeys, modest, calm, conditions, laid).
  DERIVED. THE GIVEN ROWS OF THIS SEAT. 5 by the template 'for every input the law returns true; each argument reads behind the call as it read before'; 0 by the template 'total and deterministic' (their statements: YtnbbaggmkinfkaaTotals.lean).
  GIVEN WITH THE SEED: the statements are not yours to turn. If you find one false, say at which input.
  Laid BY PROGRAM, IN A SANDBOX (cutbox-rows.mjs): the forced cells as the released guide's own fill.sh prints them over the translation f1e91efeb3b9c1b6… (all of the seat's roots in one cut). By AI agents, Wed Nov 11 2026. No macro, syntax, notation, axiom, sorry.
-/
import Derived.Test.YtnbbaggmkinfkaaChecked
import GoSem.Claim
import GoSem.ClaimJoined
import GoSem.ClaimMapViews
import Derived.JoinedTies
import Derived.KernelRfl
namespace Go.Proofs.Ytnbbaggmkinfkaa
/- THE CELL 'sum', in the pinned program and in every row, IS THE sha256 OF THE DUMP (.gsa) THAT YtnbbaggmkinfkaaProg.lean LOADS. Nothing in Lean hashes anything: it is a label: what it is worth is what the hold of that sum in a sandbox is worth. -/
noncomputable def Try.pinned : Pinned := { name := "ytnbbaggmkinfkaa", sum := "f1e91efeb3b9c1b668657b685cfb1d1a953e9bb2a1f4cf067fc3c7c0c3da5a2f", checked := Try.checked }
namespace Rows
def none {H : Type} : Left H := { results := [], args := [] }

/-- 'linchpinlaw10.RingOrder': WHATEVER THE INPUT: true; the input reads as it did. -/
def ringOrderSpec : ChangeSpec := { name := "ringOrder", fn := fun _ => fun
  | [d1, d2] => { results := [.lit (.bool true)], args := [d1, d2] }
  | _ => none }
def ringOrderRow : OpenClaim := { program := "ytnbbaggmkinfkaa", sum := "f1e91efeb3b9c1b668657b685cfb1d1a953e9bb2a1f4cf067fc3c7c0c3da5a2f", func := "linchpin/linchpinlaw10.RingOrder", spec := "ringOrder", apart := false }
def RingOrderSaid : Prop := ringOrderRow.holds Try.pinned (OpenSpec.ofChange ringOrderSpec)

/-- ITS FALSE NEIGHBOUR: 'it returns false'. Refute it at one input. -/
def ringOrderWrong : ChangeSpec := { name := "ringOrder", fn := fun _ => fun
  | [d1, d2] => { results := [.lit (.bool false)], args := [d1, d2] }
  | _ => none }
def RingOrderWrongFalsely : Prop := ringOrderRow.holds Try.pinned (OpenSpec.ofChange ringOrderWrong)

/-- 'linchpinlaw10.RingLate': WHATEVER THE INPUT: true; the input reads as it did. -/
def ringLateSpec : ChangeSpec := { name := "ringLate", fn := fun _ => fun
  | [d] => { results := [.lit (.bool true)], args := [d] }
  | _ => none }
def ringLateRow : OpenClaim := { program := "ytnbbaggmkinfkaa", sum := "f1e91efeb3b9c1b668657b685cfb1d1a953e9bb2a1f4cf067fc3c7c0c3da5a2f", func := "linchpin/linchpinlaw10.RingLate", spec := "ringLate", apart := false }
def RingLateSaid : Prop := ringLateRow.holds Try.pinned (OpenSpec.ofChange ringLateSpec)

/-- ITS FALSE NEIGHBOUR: 'it returns false'. Refute it at one input. -/
def ringLateWrong : ChangeSpec := { name := "ringLate", fn := fun _ => fun
  | [d] => { results := [.lit (.bool false)], args := [d] }
  | _ => none }
def RingLateWrongFalsely : Prop := ringLateRow.holds Try.pinned (OpenSpec.ofChange ringLateWrong)

/-- 'linchpinlaw10.RingRound': WHATEVER THE INPUT: true; the input reads as it did. -/
def ringRoundSpec : ChangeSpec := { name := "ringRound", fn := fun _ => fun
  | [d1, d2] => { results := [.lit (.bool true)], args := [d1, d2] }
  | _ => none }
def ringRoundRow : OpenClaim := { program := "ytnbbaggmkinfkaa", sum := "f1e91efeb3b9c1b668657b685cfb1d1a953e9bb2a1f4cf067fc3c7c0c3da5a2f", func := "linchpin/linchpinlaw10.RingRound", spec := "ringRound", apart := false }
def RingRoundSaid : Prop := ringRoundRow.holds Try.pinned (OpenSpec.ofChange ringRoundSpec)

/-- ITS FALSE NEIGHBOUR: 'it returns false'. Refute it at one input. -/
def ringRoundWrong : ChangeSpec := { name := "ringRound", fn := fun _ => fun
  | [d1, d2] => { results := [.lit (.bool false)], args := [d1, d2] }
  | _ => none }
def RingRoundWrongFalsely : Prop := ringRoundRow.holds Try.pinned (OpenSpec.ofChange ringRoundWrong)

/-- 'linchpinlaw10.RingResets': WHATEVER THE INPUT: true; the input reads as it did. -/
def ringResetsSpec : ChangeSpec := { name := "ringResets", fn := fun _ => fun
  | [d1, d2] => { results := [.lit (.bool true)], args := [d1, d2] }
  | _ => none }
def ringResetsRow : OpenClaim := { program := "ytnbbaggmkinfkaa", sum := "f1e91efeb3b9c1b668657b685cfb1d1a953e9bb2a1f4cf067fc3c7c0c3da5a2f", func := "linchpin/linchpinlaw10.RingResets", spec := "ringResets", apart := false }
def RingResetsSaid : Prop := ringResetsRow.holds Try.pinned (OpenSpec.ofChange ringResetsSpec)

/-- ITS FALSE NEIGHBOUR: 'it returns false'. Refute it at one input. -/
def ringResetsWrong : ChangeSpec := { name := "ringResets", fn := fun _ => fun
  | [d1, d2] => { results := [.lit (.bool false)], args := [d1, d2] }
  | _ => none }
def RingResetsWrongFalsely : Prop := ringResetsRow.holds Try.pinned (OpenSpec.ofChange ringResetsWrong)

/-- 'linchpinlaw10.RingPlays': WHATEVER THE INPUT: true; the input reads as it did. -/
def ringPlaysSpec : ChangeSpec := { name := "ringPlays", fn := fun _ => fun
  | [d1, d2] => { results := [.lit (.bool true)], args := [d1, d2] }
  | _ => none }
def ringPlaysRow : OpenClaim := { program := "ytnbbaggmkinfkaa", sum := "f1e91efeb3b9c1b668657b685cfb1d1a953e9bb2a1f4cf067fc3c7c0c3da5a2f", func := "linchpin/linchpinlaw10.RingPlays", spec := "ringPlays", apart := false }
def RingPlaysSaid : Prop := ringPlaysRow.holds Try.pinned (OpenSpec.ofChange ringPlaysSpec)

/-- ITS FALSE NEIGHBOUR: 'it returns false'. Refute it at one input. -/
def ringPlaysWrong : ChangeSpec := { name := "ringPlays", fn := fun _ => fun
  | [d1, d2] => { results := [.lit (.bool false)], args := [d1, d2] }
  | _ => none }
def RingPlaysWrongFalsely : Prop := ringPlaysRow.holds Try.pinned (OpenSpec.ofChange ringPlaysWrong)

/- THE SECOND FORM. 'bulk': how many values and letters a reading holds, each counted each time it is reached (what is shared counts as often as it is met; a slice's spare places count too). A statement '..UptoSaid' is the law's where the arguments, and the package variables that the reading takes, are together of bulk at most 1048576: NARROWER than '..Said'. Prove '..Said' where nothing that the law and all that it calls make is longer than what came in: it says more and counts as full. Else prove '..UptoSaid'. A law counts once. -/
mutual
def uptoBulk {H : Type} : DataW H → Nat
  | .lit (.string bytes) => bytes.length + 1
  | .lit _ => 1
  | .nil => 1
  | .ptr d => uptoBulk d + 1
  | .slice elems spare => uptoBulkAll elems + uptoBulkAll spare + 1
  | .agg parts => uptoBulkAll parts + 1
  | .iface _ d => uptoBulk d + 1
  | .map entries => uptoBulkEntries entries + 1
  | .held _ => 1
def uptoBulkAll {H : Type} : List (DataW H) → Nat
  | [] => 0
  | d :: r => uptoBulk d + uptoBulkAll r
def uptoBulkEntries {H : Type} : List (Lit × DataW H) → Nat
  | [] => 0
  | x :: r => uptoBulkEntry x + uptoBulkEntries r
def uptoBulkEntry {H : Type} : Lit × DataW H → Nat
  | (.string bytes, d) => bytes.length + uptoBulk d + 1
  | (_, d) => uptoBulk d + 1
 end
def uptoSmall : (H : Type) → List (DataW H) → Bool := fun _ ds => decide (uptoBulkAll ds ≤ 1048576)
def OpenSpec.upto (s : _root_.Go.ChangeSpec) : _root_.Go.OpenSpec := { _root_.Go.OpenSpec.ofChange s with cond := some uptoSmall }

/-- 'linchpinlaw10.RingOrder', WHERE WHAT IT READS IS OF BULK AT MOST 1048576: true; the input reads as it did. -/
def ringOrderUptoRow : OpenClaim := { program := "ytnbbaggmkinfkaa", sum := "f1e91efeb3b9c1b668657b685cfb1d1a953e9bb2a1f4cf067fc3c7c0c3da5a2f", func := "linchpin/linchpinlaw10.RingOrder", spec := "ringOrder", apart := false, narrowed := true }
def RingOrderUptoSaid : Prop := ringOrderUptoRow.holds Try.pinned (OpenSpec.upto ringOrderSpec)

/-- 'linchpinlaw10.RingLate', WHERE WHAT IT READS IS OF BULK AT MOST 1048576: true; the input reads as it did. -/
def ringLateUptoRow : OpenClaim := { program := "ytnbbaggmkinfkaa", sum := "f1e91efeb3b9c1b668657b685cfb1d1a953e9bb2a1f4cf067fc3c7c0c3da5a2f", func := "linchpin/linchpinlaw10.RingLate", spec := "ringLate", apart := false, narrowed := true }
def RingLateUptoSaid : Prop := ringLateUptoRow.holds Try.pinned (OpenSpec.upto ringLateSpec)

/-- 'linchpinlaw10.RingRound', WHERE WHAT IT READS IS OF BULK AT MOST 1048576: true; the input reads as it did. -/
def ringRoundUptoRow : OpenClaim := { program := "ytnbbaggmkinfkaa", sum := "f1e91efeb3b9c1b668657b685cfb1d1a953e9bb2a1f4cf067fc3c7c0c3da5a2f", func := "linchpin/linchpinlaw10.RingRound", spec := "ringRound", apart := false, narrowed := true }
def RingRoundUptoSaid : Prop := ringRoundUptoRow.holds Try.pinned (OpenSpec.upto ringRoundSpec)

/-- 'linchpinlaw10.RingResets', WHERE WHAT IT READS IS OF BULK AT MOST 1048576: true; the input reads as it did. -/
def ringResetsUptoRow : OpenClaim := { program := "ytnbbaggmkinfkaa", sum := "f1e91efeb3b9c1b668657b685cfb1d1a953e9bb2a1f4cf067fc3c7c0c3da5a2f", func := "linchpin/linchpinlaw10.RingResets", spec := "ringResets", apart := false, narrowed := true }
def RingResetsUptoSaid : Prop := ringResetsUptoRow.holds Try.pinned (OpenSpec.upto ringResetsSpec)

/-- 'linchpinlaw10.RingPlays', WHERE WHAT IT READS IS OF BULK AT MOST 1048576: true; the input reads as it did. -/
def ringPlaysUptoRow : OpenClaim := { program := "ytnbbaggmkinfkaa", sum := "f1e91efeb3b9c1b668657b685cfb1d1a953e9bb2a1f4cf067fc3c7c0c3da5a2f", func := "linchpin/linchpinlaw10.RingPlays", spec := "ringPlays", apart := false, narrowed := true }
def RingPlaysUptoSaid : Prop := ringPlaysUptoRow.holds Try.pinned (OpenSpec.upto ringPlaysSpec)

end Rows
end Go.Proofs.Ytnbbaggmkinfkaa
