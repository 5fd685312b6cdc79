/-
  No cell of these rows narrows 'for every input' (looked for: loops, veiled, ifaces, maps, wideKeys, modest, calm, conditions, laid).
  DERIVED. THE GIVEN ROWS OF THIS SEAT. 7 by the template 'for every input the law returns true; each argument reads behind the call as it read before'; 0 by the template 'total and deterministic' (their statements: YtobifmndpkjlmaaTotals.lean).
  GIVEN WITH THE SEED: the statements are not yours to turn. If you find one false, say at which input.
  Laid BY PROGRAM, IN A SANDBOX (cutbox-rows.mjs): the forced cells as the released guide's own fill.sh prints them over the translation fd7551509e8847da… (all of the seat's roots in one cut). By AI agents, Wed Nov 11 2026. No macro, syntax, notation, axiom, sorry.
-/
import Derived.Test.YtobifmndpkjlmaaChecked
import GoSem.Claim
import GoSem.ClaimJoined
import GoSem.ClaimMapViews
import Derived.JoinedTies
import Derived.KernelRfl
namespace Go.Proofs.Ytobifmndpkjlmaa
/- THE CELL 'sum', in the pinned program and in every row, IS THE sha256 OF THE DUMP (.gsa) THAT YtobifmndpkjlmaaProg.lean LOADS. Nothing in Lean hashes anything: it is a label: what it is worth is what the hold of that sum in a sandbox is worth. -/
noncomputable def Try.pinned : Pinned := { name := "ytobifmndpkjlmaa", sum := "fd7551509e8847dad9cd3c95f17fc78a00f2e634d859ef7e2d1b0e90d3e7b74c", checked := Try.checked }
namespace Rows
def none {H : Type} : Left H := { results := [], args := [] }

/-- 'braidworklaw07.GroupPicks': WHATEVER THE INPUT: true; the input reads as it did. -/
def groupPicksSpec : ChangeSpec := { name := "groupPicks", fn := fun _ => fun
  | [d1, d2, d3] => { results := [.lit (.bool true)], args := [d1, d2, d3] }
  | _ => none }
def groupPicksRow : OpenClaim := { program := "ytobifmndpkjlmaa", sum := "fd7551509e8847dad9cd3c95f17fc78a00f2e634d859ef7e2d1b0e90d3e7b74c", func := "braidwork/braidworklaw07.GroupPicks", spec := "groupPicks", unfollowed := true, recurses := true, apart := false }
def GroupPicksSaid : Prop := groupPicksRow.holds Try.pinned (OpenSpec.ofChange groupPicksSpec)

/-- ITS FALSE NEIGHBOUR: 'it returns false'. Refute it at one input. -/
def groupPicksWrong : ChangeSpec := { name := "groupPicks", fn := fun _ => fun
  | [d1, d2, d3] => { results := [.lit (.bool false)], args := [d1, d2, d3] }
  | _ => none }
def GroupPicksWrongFalsely : Prop := groupPicksRow.holds Try.pinned (OpenSpec.ofChange groupPicksWrong)

/-- 'braidworklaw07.GroupMoves': WHATEVER THE INPUT: true; the input reads as it did. -/
def groupMovesSpec : ChangeSpec := { name := "groupMoves", fn := fun _ => fun
  | [d1, d2, d3] => { results := [.lit (.bool true)], args := [d1, d2, d3] }
  | _ => none }
def groupMovesRow : OpenClaim := { program := "ytobifmndpkjlmaa", sum := "fd7551509e8847dad9cd3c95f17fc78a00f2e634d859ef7e2d1b0e90d3e7b74c", func := "braidwork/braidworklaw07.GroupMoves", spec := "groupMoves", unfollowed := true, recurses := true, apart := false }
def GroupMovesSaid : Prop := groupMovesRow.holds Try.pinned (OpenSpec.ofChange groupMovesSpec)

/-- ITS FALSE NEIGHBOUR: 'it returns false'. Refute it at one input. -/
def groupMovesWrong : ChangeSpec := { name := "groupMoves", fn := fun _ => fun
  | [d1, d2, d3] => { results := [.lit (.bool false)], args := [d1, d2, d3] }
  | _ => none }
def GroupMovesWrongFalsely : Prop := groupMovesRow.holds Try.pinned (OpenSpec.ofChange groupMovesWrong)

/-- 'braidworklaw07.GroupRehomes': WHATEVER THE INPUT: true; the input reads as it did. -/
def groupRehomesSpec : ChangeSpec := { name := "groupRehomes", fn := fun _ => fun
  | [d1, d2, d3] => { results := [.lit (.bool true)], args := [d1, d2, d3] }
  | _ => none }
def groupRehomesRow : OpenClaim := { program := "ytobifmndpkjlmaa", sum := "fd7551509e8847dad9cd3c95f17fc78a00f2e634d859ef7e2d1b0e90d3e7b74c", func := "braidwork/braidworklaw07.GroupRehomes", spec := "groupRehomes", unfollowed := true, recurses := true, apart := false }
def GroupRehomesSaid : Prop := groupRehomesRow.holds Try.pinned (OpenSpec.ofChange groupRehomesSpec)

/-- ITS FALSE NEIGHBOUR: 'it returns false'. Refute it at one input. -/
def groupRehomesWrong : ChangeSpec := { name := "groupRehomes", fn := fun _ => fun
  | [d1, d2, d3] => { results := [.lit (.bool false)], args := [d1, d2, d3] }
  | _ => none }
def GroupRehomesWrongFalsely : Prop := groupRehomesRow.holds Try.pinned (OpenSpec.ofChange groupRehomesWrong)

/-- 'braidworklaw07.GroupMore': WHATEVER THE INPUT: true; the input reads as it did. -/
def groupMoreSpec : ChangeSpec := { name := "groupMore", fn := fun _ => fun
  | [d1, d2, d3, d4] => { results := [.lit (.bool true)], args := [d1, d2, d3, d4] }
  | _ => none }
def groupMoreRow : OpenClaim := { program := "ytobifmndpkjlmaa", sum := "fd7551509e8847dad9cd3c95f17fc78a00f2e634d859ef7e2d1b0e90d3e7b74c", func := "braidwork/braidworklaw07.GroupMore", spec := "groupMore", unfollowed := true, recurses := true, apart := false }
def GroupMoreSaid : Prop := groupMoreRow.holds Try.pinned (OpenSpec.ofChange groupMoreSpec)

/-- ITS FALSE NEIGHBOUR: 'it returns false'. Refute it at one input. -/
def groupMoreWrong : ChangeSpec := { name := "groupMore", fn := fun _ => fun
  | [d1, d2, d3, d4] => { results := [.lit (.bool false)], args := [d1, d2, d3, d4] }
  | _ => none }
def GroupMoreWrongFalsely : Prop := groupMoreRow.holds Try.pinned (OpenSpec.ofChange groupMoreWrong)

/-- 'braidworklaw07.GroupPicked': WHATEVER THE INPUT: true; the input reads as it did. -/
def groupPickedSpec : ChangeSpec := { name := "groupPicked", fn := fun _ => fun
  | [d1, d2, d3] => { results := [.lit (.bool true)], args := [d1, d2, d3] }
  | _ => none }
def groupPickedRow : OpenClaim := { program := "ytobifmndpkjlmaa", sum := "fd7551509e8847dad9cd3c95f17fc78a00f2e634d859ef7e2d1b0e90d3e7b74c", func := "braidwork/braidworklaw07.GroupPicked", spec := "groupPicked", unfollowed := true, recurses := true, apart := false }
def GroupPickedSaid : Prop := groupPickedRow.holds Try.pinned (OpenSpec.ofChange groupPickedSpec)

/-- ITS FALSE NEIGHBOUR: 'it returns false'. Refute it at one input. -/
def groupPickedWrong : ChangeSpec := { name := "groupPicked", fn := fun _ => fun
  | [d1, d2, d3] => { results := [.lit (.bool false)], args := [d1, d2, d3] }
  | _ => none }
def GroupPickedWrongFalsely : Prop := groupPickedRow.holds Try.pinned (OpenSpec.ofChange groupPickedWrong)

/-- 'braidworklaw07.GroupSpares': WHATEVER THE INPUT: true; the input reads as it did. -/
def groupSparesSpec : ChangeSpec := { name := "groupSpares", fn := fun _ => fun
  | [d1, d2] => { results := [.lit (.bool true)], args := [d1, d2] }
  | _ => none }
def groupSparesRow : OpenClaim := { program := "ytobifmndpkjlmaa", sum := "fd7551509e8847dad9cd3c95f17fc78a00f2e634d859ef7e2d1b0e90d3e7b74c", func := "braidwork/braidworklaw07.GroupSpares", spec := "groupSpares", unfollowed := true, recurses := true, apart := false }
def GroupSparesSaid : Prop := groupSparesRow.holds Try.pinned (OpenSpec.ofChange groupSparesSpec)

/-- ITS FALSE NEIGHBOUR: 'it returns false'. Refute it at one input. -/
def groupSparesWrong : ChangeSpec := { name := "groupSpares", fn := fun _ => fun
  | [d1, d2] => { results := [.lit (.bool false)], args := [d1, d2] }
  | _ => none }
def GroupSparesWrongFalsely : Prop := groupSparesRow.holds Try.pinned (OpenSpec.ofChange groupSparesWrong)

/-- 'braidworklaw07.GroupSafe': WHATEVER THE INPUT: true; the input reads as it did. -/
def groupSafeSpec : ChangeSpec := { name := "groupSafe", fn := fun _ => fun
  | [d1, d2, d3] => { results := [.lit (.bool true)], args := [d1, d2, d3] }
  | _ => none }
def groupSafeRow : OpenClaim := { program := "ytobifmndpkjlmaa", sum := "fd7551509e8847dad9cd3c95f17fc78a00f2e634d859ef7e2d1b0e90d3e7b74c", func := "braidwork/braidworklaw07.GroupSafe", spec := "groupSafe", unfollowed := true, recurses := true, apart := false }
def GroupSafeSaid : Prop := groupSafeRow.holds Try.pinned (OpenSpec.ofChange groupSafeSpec)

/-- ITS FALSE NEIGHBOUR: 'it returns false'. Refute it at one input. -/
def groupSafeWrong : ChangeSpec := { name := "groupSafe", fn := fun _ => fun
  | [d1, d2, d3] => { results := [.lit (.bool false)], args := [d1, d2, d3] }
  | _ => none }
def GroupSafeWrongFalsely : Prop := groupSafeRow.holds Try.pinned (OpenSpec.ofChange groupSafeWrong)

/- THE SECOND FORM. 'bulk': how many values and letters a reading holds, each counted each time it is reached (what is shared counts as often as it is met; a slice's spare places count too). A statement '..UptoSaid' is the law's where the arguments, and the package variables that the reading takes, are together of bulk at most 1048576: NARROWER than '..Said'. Prove '..Said' where nothing that the law and all that it calls make is longer than what came in: it says more and counts as full. Else prove '..UptoSaid'. A law counts once. -/
mutual
def uptoBulk {H : Type} : DataW H → Nat
  | .lit (.string bytes) => bytes.length + 1
  | .lit _ => 1
  | .nil => 1
  | .ptr d => uptoBulk d + 1
  | .slice elems spare => uptoBulkAll elems + uptoBulkAll spare + 1
  | .agg parts => uptoBulkAll parts + 1
  | .iface _ d => uptoBulk d + 1
  | .map entries => uptoBulkEntries entries + 1
  | .held _ => 1
def uptoBulkAll {H : Type} : List (DataW H) → Nat
  | [] => 0
  | d :: r => uptoBulk d + uptoBulkAll r
def uptoBulkEntries {H : Type} : List (Lit × DataW H) → Nat
  | [] => 0
  | x :: r => uptoBulkEntry x + uptoBulkEntries r
def uptoBulkEntry {H : Type} : Lit × DataW H → Nat
  | (.string bytes, d) => bytes.length + uptoBulk d + 1
  | (_, d) => uptoBulk d + 1
 end
def uptoSmall : (H : Type) → List (DataW H) → Bool := fun _ ds => decide (uptoBulkAll ds ≤ 1048576)
def OpenSpec.upto (s : _root_.Go.ChangeSpec) : _root_.Go.OpenSpec := { _root_.Go.OpenSpec.ofChange s with cond := some uptoSmall }

/-- 'braidworklaw07.GroupPicks', WHERE WHAT IT READS IS OF BULK AT MOST 1048576: true; the input reads as it did. -/
def groupPicksUptoRow : OpenClaim := { program := "ytobifmndpkjlmaa", sum := "fd7551509e8847dad9cd3c95f17fc78a00f2e634d859ef7e2d1b0e90d3e7b74c", func := "braidwork/braidworklaw07.GroupPicks", spec := "groupPicks", unfollowed := true, recurses := true, apart := false, narrowed := true }
def GroupPicksUptoSaid : Prop := groupPicksUptoRow.holds Try.pinned (OpenSpec.upto groupPicksSpec)

/-- 'braidworklaw07.GroupMoves', WHERE WHAT IT READS IS OF BULK AT MOST 1048576: true; the input reads as it did. -/
def groupMovesUptoRow : OpenClaim := { program := "ytobifmndpkjlmaa", sum := "fd7551509e8847dad9cd3c95f17fc78a00f2e634d859ef7e2d1b0e90d3e7b74c", func := "braidwork/braidworklaw07.GroupMoves", spec := "groupMoves", unfollowed := true, recurses := true, apart := false, narrowed := true }
def GroupMovesUptoSaid : Prop := groupMovesUptoRow.holds Try.pinned (OpenSpec.upto groupMovesSpec)

/-- 'braidworklaw07.GroupRehomes', WHERE WHAT IT READS IS OF BULK AT MOST 1048576: true; the input reads as it did. -/
def groupRehomesUptoRow : OpenClaim := { program := "ytobifmndpkjlmaa", sum := "fd7551509e8847dad9cd3c95f17fc78a00f2e634d859ef7e2d1b0e90d3e7b74c", func := "braidwork/braidworklaw07.GroupRehomes", spec := "groupRehomes", unfollowed := true, recurses := true, apart := false, narrowed := true }
def GroupRehomesUptoSaid : Prop := groupRehomesUptoRow.holds Try.pinned (OpenSpec.upto groupRehomesSpec)

/-- 'braidworklaw07.GroupMore', WHERE WHAT IT READS IS OF BULK AT MOST 1048576: true; the input reads as it did. -/
def groupMoreUptoRow : OpenClaim := { program := "ytobifmndpkjlmaa", sum := "fd7551509e8847dad9cd3c95f17fc78a00f2e634d859ef7e2d1b0e90d3e7b74c", func := "braidwork/braidworklaw07.GroupMore", spec := "groupMore", unfollowed := true, recurses := true, apart := false, narrowed := true }
def GroupMoreUptoSaid : Prop := groupMoreUptoRow.holds Try.pinned (OpenSpec.upto groupMoreSpec)

/-- 'braidworklaw07.GroupPicked', WHERE WHAT IT READS IS OF BULK AT MOST 1048576: true; the input reads as it did. -/
def groupPickedUptoRow : OpenClaim := { program := "ytobifmndpkjlmaa", sum := "fd7551509e8847dad9cd3c95f17fc78a00f2e634d859ef7e2d1b0e90d3e7b74c", func := "braidwork/braidworklaw07.GroupPicked", spec := "groupPicked", unfollowed := true, recurses := true, apart := false, narrowed := true }
def GroupPickedUptoSaid : Prop := groupPickedUptoRow.holds Try.pinned (OpenSpec.upto groupPickedSpec)

/-- 'braidworklaw07.GroupSpares', WHERE WHAT IT READS IS OF BULK AT MOST 1048576: true; the input reads as it did. -/
def groupSparesUptoRow : OpenClaim := { program := "ytobifmndpkjlmaa", sum := "fd7551509e8847dad9cd3c95f17fc78a00f2e634d859ef7e2d1b0e90d3e7b74c", func := "braidwork/braidworklaw07.GroupSpares", spec := "groupSpares", unfollowed := true, recurses := true, apart := false, narrowed := true }
def GroupSparesUptoSaid : Prop := groupSparesUptoRow.holds Try.pinned (OpenSpec.upto groupSparesSpec)

/-- 'braidworklaw07.GroupSafe', WHERE WHAT IT READS IS OF BULK AT MOST 1048576: true; the input reads as it did. -/
def groupSafeUptoRow : OpenClaim := { program := "ytobifmndpkjlmaa", sum := "fd7551509e8847dad9cd3c95f17fc78a00f2e634d859ef7e2d1b0e90d3e7b74c", func := "braidwork/braidworklaw07.GroupSafe", spec := "groupSafe", unfollowed := true, recurses := true, apart := false, narrowed := true }
def GroupSafeUptoSaid : Prop := groupSafeUptoRow.holds Try.pinned (OpenSpec.upto groupSafeSpec)

end Rows
end Go.Proofs.Ytobifmndpkjlmaa
