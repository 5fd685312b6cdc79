/-
  No cell of these rows narrows 'for every input' (looked for: loops, veiled, ifaces, maps, wideKeys, modest, calm, conditions, laid).
  DERIVED. THE GIVEN ROWS OF THIS SEAT. 9 by the template 'for every input the law returns true; each argument reads behind the call as it read before'; 0 by the template 'total and deterministic' (their statements: YtmcgfnfhpcddlaaTotals.lean).
  GIVEN WITH THE SEED: the statements are not yours to turn. If you find one false, say at which input.
  Laid BY PROGRAM, IN A SANDBOX (cutbox-rows.mjs): the forced cells as the released guide's own fill.sh prints them over the translation 215da4586804537b… (all of the seat's roots in one cut). By AI agents, Wed Nov 11 2026. No macro, syntax, notation, axiom, sorry.
-/
import Derived.Test.YtmcgfnfhpcddlaaChecked
import GoSem.Claim
import GoSem.ClaimJoined
import GoSem.ClaimMapViews
import Derived.JoinedTies
import Derived.KernelRfl
namespace Go.Proofs.Ytmcgfnfhpcddlaa
/- THE CELL 'sum', in the pinned program and in every row, IS THE sha256 OF THE DUMP (.gsa) THAT YtmcgfnfhpcddlaaProg.lean LOADS. Nothing in Lean hashes anything: it is a label: what it is worth is what the hold of that sum in a sandbox is worth. -/
noncomputable def Try.pinned : Pinned := { name := "ytmcgfnfhpcddlaa", sum := "215da4586804537bb441c0ef5e95aedfb56e64f7475d01bfd0f2ae6242f4a09b", checked := Try.checked }
namespace Rows
def none {H : Type} : Left H := { results := [], args := [] }

/-- 'braidworklaw20.ScriptNone': WHATEVER THE INPUT: true; the input reads as it did. -/
def scriptNoneSpec : ChangeSpec := { name := "scriptNone", fn := fun _ => fun
  | [d1, d2] => { results := [.lit (.bool true)], args := [d1, d2] }
  | _ => none }
def scriptNoneRow : OpenClaim := { program := "ytmcgfnfhpcddlaa", sum := "215da4586804537bb441c0ef5e95aedfb56e64f7475d01bfd0f2ae6242f4a09b", func := "braidwork/braidworklaw20.ScriptNone", spec := "scriptNone", unfollowed := true, recurses := true, apart := false }
def ScriptNoneSaid : Prop := scriptNoneRow.holds Try.pinned (OpenSpec.ofChange scriptNoneSpec)

/-- ITS FALSE NEIGHBOUR: 'it returns false'. Refute it at one input. -/
def scriptNoneWrong : ChangeSpec := { name := "scriptNone", fn := fun _ => fun
  | [d1, d2] => { results := [.lit (.bool false)], args := [d1, d2] }
  | _ => none }
def ScriptNoneWrongFalsely : Prop := scriptNoneRow.holds Try.pinned (OpenSpec.ofChange scriptNoneWrong)

/-- 'braidworklaw20.ScriptQuiet': WHATEVER THE INPUT: true; the input reads as it did. -/
def scriptQuietSpec : ChangeSpec := { name := "scriptQuiet", fn := fun _ => fun
  | [d1, d2] => { results := [.lit (.bool true)], args := [d1, d2] }
  | _ => none }
def scriptQuietRow : OpenClaim := { program := "ytmcgfnfhpcddlaa", sum := "215da4586804537bb441c0ef5e95aedfb56e64f7475d01bfd0f2ae6242f4a09b", func := "braidwork/braidworklaw20.ScriptQuiet", spec := "scriptQuiet", unfollowed := true, recurses := true, apart := false }
def ScriptQuietSaid : Prop := scriptQuietRow.holds Try.pinned (OpenSpec.ofChange scriptQuietSpec)

/-- ITS FALSE NEIGHBOUR: 'it returns false'. Refute it at one input. -/
def scriptQuietWrong : ChangeSpec := { name := "scriptQuiet", fn := fun _ => fun
  | [d1, d2] => { results := [.lit (.bool false)], args := [d1, d2] }
  | _ => none }
def ScriptQuietWrongFalsely : Prop := scriptQuietRow.holds Try.pinned (OpenSpec.ofChange scriptQuietWrong)

/-- 'braidworklaw20.ScriptWrites': WHATEVER THE INPUT: true; the input reads as it did. -/
def scriptWritesSpec : ChangeSpec := { name := "scriptWrites", fn := fun _ => fun
  | [d] => { results := [.lit (.bool true)], args := [d] }
  | _ => none }
def scriptWritesRow : OpenClaim := { program := "ytmcgfnfhpcddlaa", sum := "215da4586804537bb441c0ef5e95aedfb56e64f7475d01bfd0f2ae6242f4a09b", func := "braidwork/braidworklaw20.ScriptWrites", spec := "scriptWrites", apart := false }
def ScriptWritesSaid : Prop := scriptWritesRow.holds Try.pinned (OpenSpec.ofChange scriptWritesSpec)

/-- ITS FALSE NEIGHBOUR: 'it returns false'. Refute it at one input. -/
def scriptWritesWrong : ChangeSpec := { name := "scriptWrites", fn := fun _ => fun
  | [d] => { results := [.lit (.bool false)], args := [d] }
  | _ => none }
def ScriptWritesWrongFalsely : Prop := scriptWritesRow.holds Try.pinned (OpenSpec.ofChange scriptWritesWrong)

/-- 'braidworklaw20.ScriptReads': WHATEVER THE INPUT: true; the input reads as it did. -/
def scriptReadsSpec : ChangeSpec := { name := "scriptReads", fn := fun _ => fun
  | [d] => { results := [.lit (.bool true)], args := [d] }
  | _ => none }
def scriptReadsRow : OpenClaim := { program := "ytmcgfnfhpcddlaa", sum := "215da4586804537bb441c0ef5e95aedfb56e64f7475d01bfd0f2ae6242f4a09b", func := "braidwork/braidworklaw20.ScriptReads", spec := "scriptReads", apart := false }
def ScriptReadsSaid : Prop := scriptReadsRow.holds Try.pinned (OpenSpec.ofChange scriptReadsSpec)

/-- ITS FALSE NEIGHBOUR: 'it returns false'. Refute it at one input. -/
def scriptReadsWrong : ChangeSpec := { name := "scriptReads", fn := fun _ => fun
  | [d] => { results := [.lit (.bool false)], args := [d] }
  | _ => none }
def ScriptReadsWrongFalsely : Prop := scriptReadsRow.holds Try.pinned (OpenSpec.ofChange scriptReadsWrong)

/-- 'braidworklaw20.ScriptBack': WHATEVER THE INPUT: true; the input reads as it did. -/
def scriptBackSpec : ChangeSpec := { name := "scriptBack", fn := fun _ => fun
  | [d1, d2, d3] => { results := [.lit (.bool true)], args := [d1, d2, d3] }
  | _ => none }
def scriptBackRow : OpenClaim := { program := "ytmcgfnfhpcddlaa", sum := "215da4586804537bb441c0ef5e95aedfb56e64f7475d01bfd0f2ae6242f4a09b", func := "braidwork/braidworklaw20.ScriptBack", spec := "scriptBack", apart := false }
def ScriptBackSaid : Prop := scriptBackRow.holds Try.pinned (OpenSpec.ofChange scriptBackSpec)

/-- ITS FALSE NEIGHBOUR: 'it returns false'. Refute it at one input. -/
def scriptBackWrong : ChangeSpec := { name := "scriptBack", fn := fun _ => fun
  | [d1, d2, d3] => { results := [.lit (.bool false)], args := [d1, d2, d3] }
  | _ => none }
def ScriptBackWrongFalsely : Prop := scriptBackRow.holds Try.pinned (OpenSpec.ofChange scriptBackWrong)

/-- 'braidworklaw20.ScriptLengths': WHATEVER THE INPUT: true; the input reads as it did. -/
def scriptLengthsSpec : ChangeSpec := { name := "scriptLengths", fn := fun _ => fun
  | [d] => { results := [.lit (.bool true)], args := [d] }
  | _ => none }
def scriptLengthsRow : OpenClaim := { program := "ytmcgfnfhpcddlaa", sum := "215da4586804537bb441c0ef5e95aedfb56e64f7475d01bfd0f2ae6242f4a09b", func := "braidwork/braidworklaw20.ScriptLengths", spec := "scriptLengths", apart := false }
def ScriptLengthsSaid : Prop := scriptLengthsRow.holds Try.pinned (OpenSpec.ofChange scriptLengthsSpec)

/-- ITS FALSE NEIGHBOUR: 'it returns false'. Refute it at one input. -/
def scriptLengthsWrong : ChangeSpec := { name := "scriptLengths", fn := fun _ => fun
  | [d] => { results := [.lit (.bool false)], args := [d] }
  | _ => none }
def ScriptLengthsWrongFalsely : Prop := scriptLengthsRow.holds Try.pinned (OpenSpec.ofChange scriptLengthsWrong)

/-- 'braidworklaw20.ScriptHonest': WHATEVER THE INPUT: true; the input reads as it did. -/
def scriptHonestSpec : ChangeSpec := { name := "scriptHonest", fn := fun _ => fun
  | [d1, d2] => { results := [.lit (.bool true)], args := [d1, d2] }
  | _ => none }
def scriptHonestRow : OpenClaim := { program := "ytmcgfnfhpcddlaa", sum := "215da4586804537bb441c0ef5e95aedfb56e64f7475d01bfd0f2ae6242f4a09b", func := "braidwork/braidworklaw20.ScriptHonest", spec := "scriptHonest", unfollowed := true, recurses := true, apart := false }
def ScriptHonestSaid : Prop := scriptHonestRow.holds Try.pinned (OpenSpec.ofChange scriptHonestSpec)

/-- ITS FALSE NEIGHBOUR: 'it returns false'. Refute it at one input. -/
def scriptHonestWrong : ChangeSpec := { name := "scriptHonest", fn := fun _ => fun
  | [d1, d2] => { results := [.lit (.bool false)], args := [d1, d2] }
  | _ => none }
def ScriptHonestWrongFalsely : Prop := scriptHonestRow.holds Try.pinned (OpenSpec.ofChange scriptHonestWrong)

/-- 'braidworklaw20.ScriptLies': WHATEVER THE INPUT: true; the input reads as it did. -/
def scriptLiesSpec : ChangeSpec := { name := "scriptLies", fn := fun _ => fun
  | [d1, d2, d3] => { results := [.lit (.bool true)], args := [d1, d2, d3] }
  | _ => none }
def scriptLiesRow : OpenClaim := { program := "ytmcgfnfhpcddlaa", sum := "215da4586804537bb441c0ef5e95aedfb56e64f7475d01bfd0f2ae6242f4a09b", func := "braidwork/braidworklaw20.ScriptLies", spec := "scriptLies", unfollowed := true, recurses := true, apart := false }
def ScriptLiesSaid : Prop := scriptLiesRow.holds Try.pinned (OpenSpec.ofChange scriptLiesSpec)

/-- ITS FALSE NEIGHBOUR: 'it returns false'. Refute it at one input. -/
def scriptLiesWrong : ChangeSpec := { name := "scriptLies", fn := fun _ => fun
  | [d1, d2, d3] => { results := [.lit (.bool false)], args := [d1, d2, d3] }
  | _ => none }
def ScriptLiesWrongFalsely : Prop := scriptLiesRow.holds Try.pinned (OpenSpec.ofChange scriptLiesWrong)

/-- 'braidworklaw20.ScriptFirst': WHATEVER THE INPUT: true; the input reads as it did. -/
def scriptFirstSpec : ChangeSpec := { name := "scriptFirst", fn := fun _ => fun
  | [d1, d2, d3] => { results := [.lit (.bool true)], args := [d1, d2, d3] }
  | _ => none }
def scriptFirstRow : OpenClaim := { program := "ytmcgfnfhpcddlaa", sum := "215da4586804537bb441c0ef5e95aedfb56e64f7475d01bfd0f2ae6242f4a09b", func := "braidwork/braidworklaw20.ScriptFirst", spec := "scriptFirst", unfollowed := true, recurses := true, apart := false }
def ScriptFirstSaid : Prop := scriptFirstRow.holds Try.pinned (OpenSpec.ofChange scriptFirstSpec)

/-- ITS FALSE NEIGHBOUR: 'it returns false'. Refute it at one input. -/
def scriptFirstWrong : ChangeSpec := { name := "scriptFirst", fn := fun _ => fun
  | [d1, d2, d3] => { results := [.lit (.bool false)], args := [d1, d2, d3] }
  | _ => none }
def ScriptFirstWrongFalsely : Prop := scriptFirstRow.holds Try.pinned (OpenSpec.ofChange scriptFirstWrong)

/- THE SECOND FORM. 'bulk': how many values and letters a reading holds, each counted each time it is reached (what is shared counts as often as it is met; a slice's spare places count too). A statement '..UptoSaid' is the law's where the arguments, and the package variables that the reading takes, are together of bulk at most 1048576: NARROWER than '..Said'. Prove '..Said' where nothing that the law and all that it calls make is longer than what came in: it says more and counts as full. Else prove '..UptoSaid'. A law counts once. -/
mutual
def uptoBulk {H : Type} : DataW H → Nat
  | .lit (.string bytes) => bytes.length + 1
  | .lit _ => 1
  | .nil => 1
  | .ptr d => uptoBulk d + 1
  | .slice elems spare => uptoBulkAll elems + uptoBulkAll spare + 1
  | .agg parts => uptoBulkAll parts + 1
  | .iface _ d => uptoBulk d + 1
  | .map entries => uptoBulkEntries entries + 1
  | .held _ => 1
def uptoBulkAll {H : Type} : List (DataW H) → Nat
  | [] => 0
  | d :: r => uptoBulk d + uptoBulkAll r
def uptoBulkEntries {H : Type} : List (Lit × DataW H) → Nat
  | [] => 0
  | x :: r => uptoBulkEntry x + uptoBulkEntries r
def uptoBulkEntry {H : Type} : Lit × DataW H → Nat
  | (.string bytes, d) => bytes.length + uptoBulk d + 1
  | (_, d) => uptoBulk d + 1
 end
def uptoSmall : (H : Type) → List (DataW H) → Bool := fun _ ds => decide (uptoBulkAll ds ≤ 1048576)
def OpenSpec.upto (s : _root_.Go.ChangeSpec) : _root_.Go.OpenSpec := { _root_.Go.OpenSpec.ofChange s with cond := some uptoSmall }

/-- 'braidworklaw20.ScriptNone', WHERE WHAT IT READS IS OF BULK AT MOST 1048576: true; the input reads as it did. -/
def scriptNoneUptoRow : OpenClaim := { program := "ytmcgfnfhpcddlaa", sum := "215da4586804537bb441c0ef5e95aedfb56e64f7475d01bfd0f2ae6242f4a09b", func := "braidwork/braidworklaw20.ScriptNone", spec := "scriptNone", unfollowed := true, recurses := true, apart := false, narrowed := true }
def ScriptNoneUptoSaid : Prop := scriptNoneUptoRow.holds Try.pinned (OpenSpec.upto scriptNoneSpec)

/-- 'braidworklaw20.ScriptQuiet', WHERE WHAT IT READS IS OF BULK AT MOST 1048576: true; the input reads as it did. -/
def scriptQuietUptoRow : OpenClaim := { program := "ytmcgfnfhpcddlaa", sum := "215da4586804537bb441c0ef5e95aedfb56e64f7475d01bfd0f2ae6242f4a09b", func := "braidwork/braidworklaw20.ScriptQuiet", spec := "scriptQuiet", unfollowed := true, recurses := true, apart := false, narrowed := true }
def ScriptQuietUptoSaid : Prop := scriptQuietUptoRow.holds Try.pinned (OpenSpec.upto scriptQuietSpec)

/-- 'braidworklaw20.ScriptWrites', WHERE WHAT IT READS IS OF BULK AT MOST 1048576: true; the input reads as it did. -/
def scriptWritesUptoRow : OpenClaim := { program := "ytmcgfnfhpcddlaa", sum := "215da4586804537bb441c0ef5e95aedfb56e64f7475d01bfd0f2ae6242f4a09b", func := "braidwork/braidworklaw20.ScriptWrites", spec := "scriptWrites", apart := false, narrowed := true }
def ScriptWritesUptoSaid : Prop := scriptWritesUptoRow.holds Try.pinned (OpenSpec.upto scriptWritesSpec)

/-- 'braidworklaw20.ScriptReads', WHERE WHAT IT READS IS OF BULK AT MOST 1048576: true; the input reads as it did. -/
def scriptReadsUptoRow : OpenClaim := { program := "ytmcgfnfhpcddlaa", sum := "215da4586804537bb441c0ef5e95aedfb56e64f7475d01bfd0f2ae6242f4a09b", func := "braidwork/braidworklaw20.ScriptReads", spec := "scriptReads", apart := false, narrowed := true }
def ScriptReadsUptoSaid : Prop := scriptReadsUptoRow.holds Try.pinned (OpenSpec.upto scriptReadsSpec)

/-- 'braidworklaw20.ScriptBack', WHERE WHAT IT READS IS OF BULK AT MOST 1048576: true; the input reads as it did. -/
def scriptBackUptoRow : OpenClaim := { program := "ytmcgfnfhpcddlaa", sum := "215da4586804537bb441c0ef5e95aedfb56e64f7475d01bfd0f2ae6242f4a09b", func := "braidwork/braidworklaw20.ScriptBack", spec := "scriptBack", apart := false, narrowed := true }
def ScriptBackUptoSaid : Prop := scriptBackUptoRow.holds Try.pinned (OpenSpec.upto scriptBackSpec)

/-- 'braidworklaw20.ScriptLengths', WHERE WHAT IT READS IS OF BULK AT MOST 1048576: true; the input reads as it did. -/
def scriptLengthsUptoRow : OpenClaim := { program := "ytmcgfnfhpcddlaa", sum := "215da4586804537bb441c0ef5e95aedfb56e64f7475d01bfd0f2ae6242f4a09b", func := "braidwork/braidworklaw20.ScriptLengths", spec := "scriptLengths", apart := false, narrowed := true }
def ScriptLengthsUptoSaid : Prop := scriptLengthsUptoRow.holds Try.pinned (OpenSpec.upto scriptLengthsSpec)

/-- 'braidworklaw20.ScriptHonest', WHERE WHAT IT READS IS OF BULK AT MOST 1048576: true; the input reads as it did. -/
def scriptHonestUptoRow : OpenClaim := { program := "ytmcgfnfhpcddlaa", sum := "215da4586804537bb441c0ef5e95aedfb56e64f7475d01bfd0f2ae6242f4a09b", func := "braidwork/braidworklaw20.ScriptHonest", spec := "scriptHonest", unfollowed := true, recurses := true, apart := false, narrowed := true }
def ScriptHonestUptoSaid : Prop := scriptHonestUptoRow.holds Try.pinned (OpenSpec.upto scriptHonestSpec)

/-- 'braidworklaw20.ScriptLies', WHERE WHAT IT READS IS OF BULK AT MOST 1048576: true; the input reads as it did. -/
def scriptLiesUptoRow : OpenClaim := { program := "ytmcgfnfhpcddlaa", sum := "215da4586804537bb441c0ef5e95aedfb56e64f7475d01bfd0f2ae6242f4a09b", func := "braidwork/braidworklaw20.ScriptLies", spec := "scriptLies", unfollowed := true, recurses := true, apart := false, narrowed := true }
def ScriptLiesUptoSaid : Prop := scriptLiesUptoRow.holds Try.pinned (OpenSpec.upto scriptLiesSpec)

/-- 'braidworklaw20.ScriptFirst', WHERE WHAT IT READS IS OF BULK AT MOST 1048576: true; the input reads as it did. -/
def scriptFirstUptoRow : OpenClaim := { program := "ytmcgfnfhpcddlaa", sum := "215da4586804537bb441c0ef5e95aedfb56e64f7475d01bfd0f2ae6242f4a09b", func := "braidwork/braidworklaw20.ScriptFirst", spec := "scriptFirst", unfollowed := true, recurses := true, apart := false, narrowed := true }
def ScriptFirstUptoSaid : Prop := scriptFirstUptoRow.holds Try.pinned (OpenSpec.upto scriptFirstSpec)

end Rows
end Go.Proofs.Ytmcgfnfhpcddlaa
