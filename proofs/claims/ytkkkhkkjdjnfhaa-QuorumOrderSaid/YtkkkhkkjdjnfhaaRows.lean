/-
  No cell of these rows narrows 'for every input' (looked for: loops, veiled, ifaces, maps, wideKeys, modest, calm, conditions, laid).
  DERIVED. THE GIVEN ROWS OF THIS SEAT. 5 by the template 'for every input the law returns true; each argument reads behind the call as it read before'; 0 by the template 'total and deterministic' (their statements: YtkkkhkkjdjnfhaaTotals.lean).
  GIVEN WITH THE SEED: the statements are not yours to turn. If you find one false, say at which input.
  Laid BY PROGRAM, IN A SANDBOX (cutbox-rows.mjs): the forced cells as the released guide's own fill.sh prints them over the translation c74bb06c9b32fefc… (all of the seat's roots in one cut). By AI agents, Wed Nov 11 2026. No macro, syntax, notation, axiom, sorry.
-/
import Derived.Test.YtkkkhkkjdjnfhaaChecked
import GoSem.Claim
import GoSem.ClaimJoined
import GoSem.ClaimMapViews
import Derived.JoinedTies
import Derived.KernelRfl
namespace Go.Proofs.Ytkkkhkkjdjnfhaa
/- THE CELL 'sum', in the pinned program and in every row, IS THE sha256 OF THE DUMP (.gsa) THAT YtkkkhkkjdjnfhaaProg.lean LOADS. Nothing in Lean hashes anything: it is a label: what it is worth is what the hold of that sum in a sandbox is worth. -/
noncomputable def Try.pinned : Pinned := { name := "ytkkkhkkjdjnfhaa", sum := "c74bb06c9b32fefc9634ff2f0e0c932868513fc8603049c54f887c9dd01941c2", checked := Try.checked }
namespace Rows
def none {H : Type} : Left H := { results := [], args := [] }

/-- 'braidworklaw05.QuorumNewer': WHATEVER THE INPUT: true; the input reads as it did. -/
def quorumNewerSpec : ChangeSpec := { name := "quorumNewer", fn := fun _ => fun
  | [d1, d2, d3] => { results := [.lit (.bool true)], args := [d1, d2, d3] }
  | _ => none }
def quorumNewerRow : OpenClaim := { program := "ytkkkhkkjdjnfhaa", sum := "c74bb06c9b32fefc9634ff2f0e0c932868513fc8603049c54f887c9dd01941c2", func := "braidwork/braidworklaw05.QuorumNewer", spec := "quorumNewer", unfollowed := true, recurses := true, apart := false }
def QuorumNewerSaid : Prop := quorumNewerRow.holds Try.pinned (OpenSpec.ofChange quorumNewerSpec)

/-- ITS FALSE NEIGHBOUR: 'it returns false'. Refute it at one input. -/
def quorumNewerWrong : ChangeSpec := { name := "quorumNewer", fn := fun _ => fun
  | [d1, d2, d3] => { results := [.lit (.bool false)], args := [d1, d2, d3] }
  | _ => none }
def QuorumNewerWrongFalsely : Prop := quorumNewerRow.holds Try.pinned (OpenSpec.ofChange quorumNewerWrong)

/-- 'braidworklaw05.QuorumLost': WHATEVER THE INPUT: true; the input reads as it did. -/
def quorumLostSpec : ChangeSpec := { name := "quorumLost", fn := fun _ => fun
  | [d1, d2, d3] => { results := [.lit (.bool true)], args := [d1, d2, d3] }
  | _ => none }
def quorumLostRow : OpenClaim := { program := "ytkkkhkkjdjnfhaa", sum := "c74bb06c9b32fefc9634ff2f0e0c932868513fc8603049c54f887c9dd01941c2", func := "braidwork/braidworklaw05.QuorumLost", spec := "quorumLost", unfollowed := true, recurses := true, apart := false }
def QuorumLostSaid : Prop := quorumLostRow.holds Try.pinned (OpenSpec.ofChange quorumLostSpec)

/-- ITS FALSE NEIGHBOUR: 'it returns false'. Refute it at one input. -/
def quorumLostWrong : ChangeSpec := { name := "quorumLost", fn := fun _ => fun
  | [d1, d2, d3] => { results := [.lit (.bool false)], args := [d1, d2, d3] }
  | _ => none }
def QuorumLostWrongFalsely : Prop := quorumLostRow.holds Try.pinned (OpenSpec.ofChange quorumLostWrong)

/-- 'braidworklaw05.QuorumOrder': WHATEVER THE INPUT: true; the input reads as it did. -/
def quorumOrderSpec : ChangeSpec := { name := "quorumOrder", fn := fun _ => fun
  | [d] => { results := [.lit (.bool true)], args := [d] }
  | _ => none }
def quorumOrderRow : OpenClaim := { program := "ytkkkhkkjdjnfhaa", sum := "c74bb06c9b32fefc9634ff2f0e0c932868513fc8603049c54f887c9dd01941c2", func := "braidwork/braidworklaw05.QuorumOrder", spec := "quorumOrder", unfollowed := true, recurses := true, apart := false }
def QuorumOrderSaid : Prop := quorumOrderRow.holds Try.pinned (OpenSpec.ofChange quorumOrderSpec)

/-- ITS FALSE NEIGHBOUR: 'it returns false'. Refute it at one input. -/
def quorumOrderWrong : ChangeSpec := { name := "quorumOrder", fn := fun _ => fun
  | [d] => { results := [.lit (.bool false)], args := [d] }
  | _ => none }
def QuorumOrderWrongFalsely : Prop := quorumOrderRow.holds Try.pinned (OpenSpec.ofChange quorumOrderWrong)

/-- 'braidworklaw05.QuorumMissing': WHATEVER THE INPUT: true; the input reads as it did. -/
def quorumMissingSpec : ChangeSpec := { name := "quorumMissing", fn := fun _ => fun
  | [d1, d2] => { results := [.lit (.bool true)], args := [d1, d2] }
  | _ => none }
def quorumMissingRow : OpenClaim := { program := "ytkkkhkkjdjnfhaa", sum := "c74bb06c9b32fefc9634ff2f0e0c932868513fc8603049c54f887c9dd01941c2", func := "braidwork/braidworklaw05.QuorumMissing", spec := "quorumMissing", unfollowed := true, recurses := true, apart := false }
def QuorumMissingSaid : Prop := quorumMissingRow.holds Try.pinned (OpenSpec.ofChange quorumMissingSpec)

/-- ITS FALSE NEIGHBOUR: 'it returns false'. Refute it at one input. -/
def quorumMissingWrong : ChangeSpec := { name := "quorumMissing", fn := fun _ => fun
  | [d1, d2] => { results := [.lit (.bool false)], args := [d1, d2] }
  | _ => none }
def QuorumMissingWrongFalsely : Prop := quorumMissingRow.holds Try.pinned (OpenSpec.ofChange quorumMissingWrong)

/-- 'braidworklaw05.QuorumFailed': WHATEVER THE INPUT: true; the input reads as it did. -/
def quorumFailedSpec : ChangeSpec := { name := "quorumFailed", fn := fun _ => fun
  | [d1, d2, d3] => { results := [.lit (.bool true)], args := [d1, d2, d3] }
  | _ => none }
def quorumFailedRow : OpenClaim := { program := "ytkkkhkkjdjnfhaa", sum := "c74bb06c9b32fefc9634ff2f0e0c932868513fc8603049c54f887c9dd01941c2", func := "braidwork/braidworklaw05.QuorumFailed", spec := "quorumFailed", unfollowed := true, recurses := true, apart := false }
def QuorumFailedSaid : Prop := quorumFailedRow.holds Try.pinned (OpenSpec.ofChange quorumFailedSpec)

/-- ITS FALSE NEIGHBOUR: 'it returns false'. Refute it at one input. -/
def quorumFailedWrong : ChangeSpec := { name := "quorumFailed", fn := fun _ => fun
  | [d1, d2, d3] => { results := [.lit (.bool false)], args := [d1, d2, d3] }
  | _ => none }
def QuorumFailedWrongFalsely : Prop := quorumFailedRow.holds Try.pinned (OpenSpec.ofChange quorumFailedWrong)

/- THE SECOND FORM. 'bulk': how many values and letters a reading holds, each counted each time it is reached (what is shared counts as often as it is met; a slice's spare places count too). A statement '..UptoSaid' is the law's where the arguments, and the package variables that the reading takes, are together of bulk at most 1048576: NARROWER than '..Said'. Prove '..Said' where nothing that the law and all that it calls make is longer than what came in: it says more and counts as full. Else prove '..UptoSaid'. A law counts once. -/
mutual
def uptoBulk {H : Type} : DataW H → Nat
  | .lit (.string bytes) => bytes.length + 1
  | .lit _ => 1
  | .nil => 1
  | .ptr d => uptoBulk d + 1
  | .slice elems spare => uptoBulkAll elems + uptoBulkAll spare + 1
  | .agg parts => uptoBulkAll parts + 1
  | .iface _ d => uptoBulk d + 1
  | .map entries => uptoBulkEntries entries + 1
  | .held _ => 1
def uptoBulkAll {H : Type} : List (DataW H) → Nat
  | [] => 0
  | d :: r => uptoBulk d + uptoBulkAll r
def uptoBulkEntries {H : Type} : List (Lit × DataW H) → Nat
  | [] => 0
  | x :: r => uptoBulkEntry x + uptoBulkEntries r
def uptoBulkEntry {H : Type} : Lit × DataW H → Nat
  | (.string bytes, d) => bytes.length + uptoBulk d + 1
  | (_, d) => uptoBulk d + 1
 end
def uptoSmall : (H : Type) → List (DataW H) → Bool := fun _ ds => decide (uptoBulkAll ds ≤ 1048576)
def OpenSpec.upto (s : _root_.Go.ChangeSpec) : _root_.Go.OpenSpec := { _root_.Go.OpenSpec.ofChange s with cond := some uptoSmall }

/-- 'braidworklaw05.QuorumNewer', WHERE WHAT IT READS IS OF BULK AT MOST 1048576: true; the input reads as it did. -/
def quorumNewerUptoRow : OpenClaim := { program := "ytkkkhkkjdjnfhaa", sum := "c74bb06c9b32fefc9634ff2f0e0c932868513fc8603049c54f887c9dd01941c2", func := "braidwork/braidworklaw05.QuorumNewer", spec := "quorumNewer", unfollowed := true, recurses := true, apart := false, narrowed := true }
def QuorumNewerUptoSaid : Prop := quorumNewerUptoRow.holds Try.pinned (OpenSpec.upto quorumNewerSpec)

/-- 'braidworklaw05.QuorumLost', WHERE WHAT IT READS IS OF BULK AT MOST 1048576: true; the input reads as it did. -/
def quorumLostUptoRow : OpenClaim := { program := "ytkkkhkkjdjnfhaa", sum := "c74bb06c9b32fefc9634ff2f0e0c932868513fc8603049c54f887c9dd01941c2", func := "braidwork/braidworklaw05.QuorumLost", spec := "quorumLost", unfollowed := true, recurses := true, apart := false, narrowed := true }
def QuorumLostUptoSaid : Prop := quorumLostUptoRow.holds Try.pinned (OpenSpec.upto quorumLostSpec)

/-- 'braidworklaw05.QuorumOrder', WHERE WHAT IT READS IS OF BULK AT MOST 1048576: true; the input reads as it did. -/
def quorumOrderUptoRow : OpenClaim := { program := "ytkkkhkkjdjnfhaa", sum := "c74bb06c9b32fefc9634ff2f0e0c932868513fc8603049c54f887c9dd01941c2", func := "braidwork/braidworklaw05.QuorumOrder", spec := "quorumOrder", unfollowed := true, recurses := true, apart := false, narrowed := true }
def QuorumOrderUptoSaid : Prop := quorumOrderUptoRow.holds Try.pinned (OpenSpec.upto quorumOrderSpec)

/-- 'braidworklaw05.QuorumMissing', WHERE WHAT IT READS IS OF BULK AT MOST 1048576: true; the input reads as it did. -/
def quorumMissingUptoRow : OpenClaim := { program := "ytkkkhkkjdjnfhaa", sum := "c74bb06c9b32fefc9634ff2f0e0c932868513fc8603049c54f887c9dd01941c2", func := "braidwork/braidworklaw05.QuorumMissing", spec := "quorumMissing", unfollowed := true, recurses := true, apart := false, narrowed := true }
def QuorumMissingUptoSaid : Prop := quorumMissingUptoRow.holds Try.pinned (OpenSpec.upto quorumMissingSpec)

/-- 'braidworklaw05.QuorumFailed', WHERE WHAT IT READS IS OF BULK AT MOST 1048576: true; the input reads as it did. -/
def quorumFailedUptoRow : OpenClaim := { program := "ytkkkhkkjdjnfhaa", sum := "c74bb06c9b32fefc9634ff2f0e0c932868513fc8603049c54f887c9dd01941c2", func := "braidwork/braidworklaw05.QuorumFailed", spec := "quorumFailed", unfollowed := true, recurses := true, apart := false, narrowed := true }
def QuorumFailedUptoSaid : Prop := quorumFailedUptoRow.holds Try.pinned (OpenSpec.upto quorumFailedSpec)

end Rows
end Go.Proofs.Ytkkkhkkjdjnfhaa
