/-
  No cell of these rows narrows 'for every input' (looked for: loops, veiled, ifaces, maps, wideKeys, modest, calm, conditions, laid).
  DERIVED. THE GIVEN ROWS OF THIS SEAT. 6 by the template 'for every input the law returns true; each argument reads behind the call as it read before'; 0 by the template 'total and deterministic' (their statements: YtblkdmnfmnbbeaaTotals.lean).
  GIVEN WITH THE SEED: the statements are not yours to turn. If you find one false, say at which input.
  Laid BY PROGRAM, IN A SANDBOX (cutbox-rows.mjs): the forced cells as the released guide's own fill.sh prints them over the translation 780fa5266982465f… (all of the seat's roots in one cut). By AI agents, Wed Nov 11 2026. No macro, syntax, notation, axiom, sorry.
-/
import Derived.Test.YtblkdmnfmnbbeaaChecked
import GoSem.Claim
import GoSem.ClaimJoined
import GoSem.ClaimMapViews
import Derived.JoinedTies
import Derived.KernelRfl
namespace Go.Proofs.Ytblkdmnfmnbbeaa
/- THE CELL 'sum', in the pinned program and in every row, IS THE sha256 OF THE DUMP (.gsa) THAT YtblkdmnfmnbbeaaProg.lean LOADS. Nothing in Lean hashes anything: it is a label: what it is worth is what the hold of that sum in a sandbox is worth. -/
noncomputable def Try.pinned : Pinned := { name := "ytblkdmnfmnbbeaa", sum := "780fa5266982465f74bcd23dbb6468d4bc2a23c17d56144d8835c499dc34cc06", checked := Try.checked }
namespace Rows
def none {H : Type} : Left H := { results := [], args := [] }

/-- 'braidworklaw19.ModelLasts': WHATEVER THE INPUT: true; the input reads as it did. -/
def modelLastsSpec : ChangeSpec := { name := "modelLasts", fn := fun _ => fun
  | [d1, d2, d3] => { results := [.lit (.bool true)], args := [d1, d2, d3] }
  | _ => none }
def modelLastsRow : OpenClaim := { program := "ytblkdmnfmnbbeaa", sum := "780fa5266982465f74bcd23dbb6468d4bc2a23c17d56144d8835c499dc34cc06", func := "braidwork/braidworklaw19.ModelLasts", spec := "modelLasts", apart := false }
def ModelLastsSaid : Prop := modelLastsRow.holds Try.pinned (OpenSpec.ofChange modelLastsSpec)

/-- ITS FALSE NEIGHBOUR: 'it returns false'. Refute it at one input. -/
def modelLastsWrong : ChangeSpec := { name := "modelLasts", fn := fun _ => fun
  | [d1, d2, d3] => { results := [.lit (.bool false)], args := [d1, d2, d3] }
  | _ => none }
def ModelLastsWrongFalsely : Prop := modelLastsRow.holds Try.pinned (OpenSpec.ofChange modelLastsWrong)

/-- 'braidworklaw19.ModelFresh': WHATEVER THE INPUT: true; the input reads as it did. -/
def modelFreshSpec : ChangeSpec := { name := "modelFresh", fn := fun _ => fun
  | [d1, d2, d3] => { results := [.lit (.bool true)], args := [d1, d2, d3] }
  | _ => none }
def modelFreshRow : OpenClaim := { program := "ytblkdmnfmnbbeaa", sum := "780fa5266982465f74bcd23dbb6468d4bc2a23c17d56144d8835c499dc34cc06", func := "braidwork/braidworklaw19.ModelFresh", spec := "modelFresh", apart := false }
def ModelFreshSaid : Prop := modelFreshRow.holds Try.pinned (OpenSpec.ofChange modelFreshSpec)

/-- ITS FALSE NEIGHBOUR: 'it returns false'. Refute it at one input. -/
def modelFreshWrong : ChangeSpec := { name := "modelFresh", fn := fun _ => fun
  | [d1, d2, d3] => { results := [.lit (.bool false)], args := [d1, d2, d3] }
  | _ => none }
def ModelFreshWrongFalsely : Prop := modelFreshRow.holds Try.pinned (OpenSpec.ofChange modelFreshWrong)

/-- 'braidworklaw19.ModelOnce': WHATEVER THE INPUT: true; the input reads as it did. -/
def modelOnceSpec : ChangeSpec := { name := "modelOnce", fn := fun _ => fun
  | [d1, d2] => { results := [.lit (.bool true)], args := [d1, d2] }
  | _ => none }
def modelOnceRow : OpenClaim := { program := "ytblkdmnfmnbbeaa", sum := "780fa5266982465f74bcd23dbb6468d4bc2a23c17d56144d8835c499dc34cc06", func := "braidwork/braidworklaw19.ModelOnce", spec := "modelOnce", apart := false }
def ModelOnceSaid : Prop := modelOnceRow.holds Try.pinned (OpenSpec.ofChange modelOnceSpec)

/-- ITS FALSE NEIGHBOUR: 'it returns false'. Refute it at one input. -/
def modelOnceWrong : ChangeSpec := { name := "modelOnce", fn := fun _ => fun
  | [d1, d2] => { results := [.lit (.bool false)], args := [d1, d2] }
  | _ => none }
def ModelOnceWrongFalsely : Prop := modelOnceRow.holds Try.pinned (OpenSpec.ofChange modelOnceWrong)

/-- 'braidworklaw19.ModelPlays': WHATEVER THE INPUT: true; the input reads as it did. -/
def modelPlaysSpec : ChangeSpec := { name := "modelPlays", fn := fun _ => fun
  | [d1, d2] => { results := [.lit (.bool true)], args := [d1, d2] }
  | _ => none }
def modelPlaysRow : OpenClaim := { program := "ytblkdmnfmnbbeaa", sum := "780fa5266982465f74bcd23dbb6468d4bc2a23c17d56144d8835c499dc34cc06", func := "braidwork/braidworklaw19.ModelPlays", spec := "modelPlays", apart := false }
def ModelPlaysSaid : Prop := modelPlaysRow.holds Try.pinned (OpenSpec.ofChange modelPlaysSpec)

/-- ITS FALSE NEIGHBOUR: 'it returns false'. Refute it at one input. -/
def modelPlaysWrong : ChangeSpec := { name := "modelPlays", fn := fun _ => fun
  | [d1, d2] => { results := [.lit (.bool false)], args := [d1, d2] }
  | _ => none }
def ModelPlaysWrongFalsely : Prop := modelPlaysRow.holds Try.pinned (OpenSpec.ofChange modelPlaysWrong)

/-- 'braidworklaw19.ModelApart': WHATEVER THE INPUT: true; the input reads as it did. -/
def modelApartSpec : ChangeSpec := { name := "modelApart", fn := fun _ => fun
  | [d1, d2] => { results := [.lit (.bool true)], args := [d1, d2] }
  | _ => none }
def modelApartRow : OpenClaim := { program := "ytblkdmnfmnbbeaa", sum := "780fa5266982465f74bcd23dbb6468d4bc2a23c17d56144d8835c499dc34cc06", func := "braidwork/braidworklaw19.ModelApart", spec := "modelApart", apart := false }
def ModelApartSaid : Prop := modelApartRow.holds Try.pinned (OpenSpec.ofChange modelApartSpec)

/-- ITS FALSE NEIGHBOUR: 'it returns false'. Refute it at one input. -/
def modelApartWrong : ChangeSpec := { name := "modelApart", fn := fun _ => fun
  | [d1, d2] => { results := [.lit (.bool false)], args := [d1, d2] }
  | _ => none }
def ModelApartWrongFalsely : Prop := modelApartRow.holds Try.pinned (OpenSpec.ofChange modelApartWrong)

/-- 'braidworklaw19.ModelReads': WHATEVER THE INPUT: true; the input reads as it did. -/
def modelReadsSpec : ChangeSpec := { name := "modelReads", fn := fun _ => fun
  | [d1, d2] => { results := [.lit (.bool true)], args := [d1, d2] }
  | _ => none }
def modelReadsRow : OpenClaim := { program := "ytblkdmnfmnbbeaa", sum := "780fa5266982465f74bcd23dbb6468d4bc2a23c17d56144d8835c499dc34cc06", func := "braidwork/braidworklaw19.ModelReads", spec := "modelReads", apart := false }
def ModelReadsSaid : Prop := modelReadsRow.holds Try.pinned (OpenSpec.ofChange modelReadsSpec)

/-- ITS FALSE NEIGHBOUR: 'it returns false'. Refute it at one input. -/
def modelReadsWrong : ChangeSpec := { name := "modelReads", fn := fun _ => fun
  | [d1, d2] => { results := [.lit (.bool false)], args := [d1, d2] }
  | _ => none }
def ModelReadsWrongFalsely : Prop := modelReadsRow.holds Try.pinned (OpenSpec.ofChange modelReadsWrong)

/- THE SECOND FORM. 'bulk': how many values and letters a reading holds, each counted each time it is reached (what is shared counts as often as it is met; a slice's spare places count too). A statement '..UptoSaid' is the law's where the arguments, and the package variables that the reading takes, are together of bulk at most 1048576: NARROWER than '..Said'. Prove '..Said' where nothing that the law and all that it calls make is longer than what came in: it says more and counts as full. Else prove '..UptoSaid'. A law counts once. -/
mutual
def uptoBulk {H : Type} : DataW H → Nat
  | .lit (.string bytes) => bytes.length + 1
  | .lit _ => 1
  | .nil => 1
  | .ptr d => uptoBulk d + 1
  | .slice elems spare => uptoBulkAll elems + uptoBulkAll spare + 1
  | .agg parts => uptoBulkAll parts + 1
  | .iface _ d => uptoBulk d + 1
  | .map entries => uptoBulkEntries entries + 1
  | .held _ => 1
def uptoBulkAll {H : Type} : List (DataW H) → Nat
  | [] => 0
  | d :: r => uptoBulk d + uptoBulkAll r
def uptoBulkEntries {H : Type} : List (Lit × DataW H) → Nat
  | [] => 0
  | x :: r => uptoBulkEntry x + uptoBulkEntries r
def uptoBulkEntry {H : Type} : Lit × DataW H → Nat
  | (.string bytes, d) => bytes.length + uptoBulk d + 1
  | (_, d) => uptoBulk d + 1
 end
def uptoSmall : (H : Type) → List (DataW H) → Bool := fun _ ds => decide (uptoBulkAll ds ≤ 1048576)
def OpenSpec.upto (s : _root_.Go.ChangeSpec) : _root_.Go.OpenSpec := { _root_.Go.OpenSpec.ofChange s with cond := some uptoSmall }

/-- 'braidworklaw19.ModelLasts', WHERE WHAT IT READS IS OF BULK AT MOST 1048576: true; the input reads as it did. -/
def modelLastsUptoRow : OpenClaim := { program := "ytblkdmnfmnbbeaa", sum := "780fa5266982465f74bcd23dbb6468d4bc2a23c17d56144d8835c499dc34cc06", func := "braidwork/braidworklaw19.ModelLasts", spec := "modelLasts", apart := false, narrowed := true }
def ModelLastsUptoSaid : Prop := modelLastsUptoRow.holds Try.pinned (OpenSpec.upto modelLastsSpec)

/-- 'braidworklaw19.ModelFresh', WHERE WHAT IT READS IS OF BULK AT MOST 1048576: true; the input reads as it did. -/
def modelFreshUptoRow : OpenClaim := { program := "ytblkdmnfmnbbeaa", sum := "780fa5266982465f74bcd23dbb6468d4bc2a23c17d56144d8835c499dc34cc06", func := "braidwork/braidworklaw19.ModelFresh", spec := "modelFresh", apart := false, narrowed := true }
def ModelFreshUptoSaid : Prop := modelFreshUptoRow.holds Try.pinned (OpenSpec.upto modelFreshSpec)

/-- 'braidworklaw19.ModelOnce', WHERE WHAT IT READS IS OF BULK AT MOST 1048576: true; the input reads as it did. -/
def modelOnceUptoRow : OpenClaim := { program := "ytblkdmnfmnbbeaa", sum := "780fa5266982465f74bcd23dbb6468d4bc2a23c17d56144d8835c499dc34cc06", func := "braidwork/braidworklaw19.ModelOnce", spec := "modelOnce", apart := false, narrowed := true }
def ModelOnceUptoSaid : Prop := modelOnceUptoRow.holds Try.pinned (OpenSpec.upto modelOnceSpec)

/-- 'braidworklaw19.ModelPlays', WHERE WHAT IT READS IS OF BULK AT MOST 1048576: true; the input reads as it did. -/
def modelPlaysUptoRow : OpenClaim := { program := "ytblkdmnfmnbbeaa", sum := "780fa5266982465f74bcd23dbb6468d4bc2a23c17d56144d8835c499dc34cc06", func := "braidwork/braidworklaw19.ModelPlays", spec := "modelPlays", apart := false, narrowed := true }
def ModelPlaysUptoSaid : Prop := modelPlaysUptoRow.holds Try.pinned (OpenSpec.upto modelPlaysSpec)

/-- 'braidworklaw19.ModelApart', WHERE WHAT IT READS IS OF BULK AT MOST 1048576: true; the input reads as it did. -/
def modelApartUptoRow : OpenClaim := { program := "ytblkdmnfmnbbeaa", sum := "780fa5266982465f74bcd23dbb6468d4bc2a23c17d56144d8835c499dc34cc06", func := "braidwork/braidworklaw19.ModelApart", spec := "modelApart", apart := false, narrowed := true }
def ModelApartUptoSaid : Prop := modelApartUptoRow.holds Try.pinned (OpenSpec.upto modelApartSpec)

/-- 'braidworklaw19.ModelReads', WHERE WHAT IT READS IS OF BULK AT MOST 1048576: true; the input reads as it did. -/
def modelReadsUptoRow : OpenClaim := { program := "ytblkdmnfmnbbeaa", sum := "780fa5266982465f74bcd23dbb6468d4bc2a23c17d56144d8835c499dc34cc06", func := "braidwork/braidworklaw19.ModelReads", spec := "modelReads", apart := false, narrowed := true }
def ModelReadsUptoSaid : Prop := modelReadsUptoRow.holds Try.pinned (OpenSpec.upto modelReadsSpec)

end Rows
end Go.Proofs.Ytblkdmnfmnbbeaa
