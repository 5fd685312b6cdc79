/-
  NARROWER THAN 'FOR EVERY INPUT', by the rows' own cells (each row's printed sentence says how): BitsBack: laid · BitsNext: laid · BitsCounts: laid · BitsReads: laid · BitsTakes: laid · BitsPlays: laid.
  DERIVED. THE GIVEN ROWS OF THIS SEAT. 6 by the template 'for every input the law returns true; each argument reads behind the call as it read before'; 0 by the template 'total and deterministic' (their statements: YtoinkofoaodkhaaDoorTotals.lean).
  GIVEN WITH THE SEED: the statements are not yours to turn. If you find one false, say at which input.
  Laid BY PROGRAM, IN A SANDBOX (cutbox-rows.mjs): the forced cells as the released guide's own fill.sh prints them over the translation 67de138ec3344e33… (all of the seat's roots in one cut). By AI agents, Wed Nov 11 2026. No macro, syntax, notation, axiom, sorry.
-/
import Derived.Test.YtoinkofoaodkhaaDoorChecked
import GoSem.Claim
import GoSem.ClaimJoined
import GoSem.ClaimMapViews
import Derived.JoinedTies
import Derived.KernelRfl
namespace Go.Proofs.YtoinkofoaodkhaaDoor
/- THE CELL 'sum', in the pinned program and in every row, IS THE sha256 OF THE DUMP (.gsa) THAT YtoinkofoaodkhaaDoorProg.lean LOADS. Nothing in Lean hashes anything: it is a label: what it is worth is what the hold of that sum in a sandbox is worth. -/
noncomputable def Tryd.pinned : Pinned := { name := "ytoinkofoaodkhaadoor", sum := "67de138ec3344e3393795a12541580498aaa3b6c73cf417d274deccfb43922b0", checked := Tryd.checked }
namespace Rows
def none {H : Type} : Left H := { results := [], args := [] }

/- WHAT THE LISTED PACKAGE-LEVEL VARIABLES READ AS WHEN THE CALL BEGINS. Each datum BY PROGRAM (the guide's laid-datum.mjs) off the statement by which the dump's own 'gosem.cut.vars' lays the variable. In a bare row this is a premise. The card (YtoinkofoaodkhaaDoorCards.lean) ties it to the program's text. -/
def laid_math_bits_deBruijn64tab {H : Type} : DataW H := .agg [.lit (.int .u8 0), .lit (.int .u8 1), .lit (.int .u8 56), .lit (.int .u8 2), .lit (.int .u8 57), .lit (.int .u8 49), .lit (.int .u8 28), .lit (.int .u8 3), .lit (.int .u8 61), .lit (.int .u8 58), .lit (.int .u8 42), .lit (.int .u8 50), .lit (.int .u8 38), .lit (.int .u8 29), .lit (.int .u8 17), .lit (.int .u8 4), .lit (.int .u8 62), .lit (.int .u8 47), .lit (.int .u8 59), .lit (.int .u8 36), .lit (.int .u8 45), .lit (.int .u8 43), .lit (.int .u8 51), .lit (.int .u8 22), .lit (.int .u8 53), .lit (.int .u8 39), .lit (.int .u8 33), .lit (.int .u8 30), .lit (.int .u8 24), .lit (.int .u8 18), .lit (.int .u8 12), .lit (.int .u8 5), .lit (.int .u8 63), .lit (.int .u8 55), .lit (.int .u8 48), .lit (.int .u8 27), .lit (.int .u8 60), .lit (.int .u8 41), .lit (.int .u8 37), .lit (.int .u8 16), .lit (.int .u8 46), .lit (.int .u8 35), .lit (.int .u8 44), .lit (.int .u8 21), .lit (.int .u8 52), .lit (.int .u8 32), .lit (.int .u8 23), .lit (.int .u8 11), .lit (.int .u8 54), .lit (.int .u8 26), .lit (.int .u8 40), .lit (.int .u8 15), .lit (.int .u8 34), .lit (.int .u8 20), .lit (.int .u8 31), .lit (.int .u8 10), .lit (.int .u8 25), .lit (.int .u8 14), .lit (.int .u8 19), .lit (.int .u8 9), .lit (.int .u8 13), .lit (.int .u8 8), .lit (.int .u8 7), .lit (.int .u8 6)]

/-- 'braidworklaw02.BitsBack': WHATEVER THE INPUT: true; the input reads as it did. -/
def bitsBackSpec : ChangeSpec := { name := "bitsBack", fn := fun _ => fun
  | [d1, d2] => { results := [.lit (.bool true)], args := [d1, d2] }
  | _ => none }
def bitsBackRow : OpenClaim := { program := "ytoinkofoaodkhaadoor", sum := "67de138ec3344e3393795a12541580498aaa3b6c73cf417d274deccfb43922b0", func := "braidwork/braidworklaw02.BitsBack", spec := "bitsBack", named := ["math/bits.deBruijn64tab"], apart := false, laid := [("math/bits.deBruijn64tab", laid_math_bits_deBruijn64tab)] }
def BitsBackSaid : Prop := bitsBackRow.holds Tryd.pinned (OpenSpec.ofChange bitsBackSpec)

/-- ITS FALSE NEIGHBOUR: 'it returns false'. Refute it at one input. -/
def bitsBackWrong : ChangeSpec := { name := "bitsBack", fn := fun _ => fun
  | [d1, d2] => { results := [.lit (.bool false)], args := [d1, d2] }
  | _ => none }
def BitsBackWrongFalsely : Prop := bitsBackRow.holds Tryd.pinned (OpenSpec.ofChange bitsBackWrong)

/-- 'braidworklaw02.BitsNext': WHATEVER THE INPUT: true; the input reads as it did. -/
def bitsNextSpec : ChangeSpec := { name := "bitsNext", fn := fun _ => fun
  | [d1, d2, d3] => { results := [.lit (.bool true)], args := [d1, d2, d3] }
  | _ => none }
def bitsNextRow : OpenClaim := { program := "ytoinkofoaodkhaadoor", sum := "67de138ec3344e3393795a12541580498aaa3b6c73cf417d274deccfb43922b0", func := "braidwork/braidworklaw02.BitsNext", spec := "bitsNext", named := ["math/bits.deBruijn64tab"], apart := false, laid := [("math/bits.deBruijn64tab", laid_math_bits_deBruijn64tab)] }
def BitsNextSaid : Prop := bitsNextRow.holds Tryd.pinned (OpenSpec.ofChange bitsNextSpec)

/-- ITS FALSE NEIGHBOUR: 'it returns false'. Refute it at one input. -/
def bitsNextWrong : ChangeSpec := { name := "bitsNext", fn := fun _ => fun
  | [d1, d2, d3] => { results := [.lit (.bool false)], args := [d1, d2, d3] }
  | _ => none }
def BitsNextWrongFalsely : Prop := bitsNextRow.holds Tryd.pinned (OpenSpec.ofChange bitsNextWrong)

/-- 'braidworklaw02.BitsCounts': WHATEVER THE INPUT: true; the input reads as it did. -/
def bitsCountsSpec : ChangeSpec := { name := "bitsCounts", fn := fun _ => fun
  | [d1, d2] => { results := [.lit (.bool true)], args := [d1, d2] }
  | _ => none }
def bitsCountsRow : OpenClaim := { program := "ytoinkofoaodkhaadoor", sum := "67de138ec3344e3393795a12541580498aaa3b6c73cf417d274deccfb43922b0", func := "braidwork/braidworklaw02.BitsCounts", spec := "bitsCounts", named := ["math/bits.deBruijn64tab"], apart := false, laid := [("math/bits.deBruijn64tab", laid_math_bits_deBruijn64tab)] }
def BitsCountsSaid : Prop := bitsCountsRow.holds Tryd.pinned (OpenSpec.ofChange bitsCountsSpec)

/-- ITS FALSE NEIGHBOUR: 'it returns false'. Refute it at one input. -/
def bitsCountsWrong : ChangeSpec := { name := "bitsCounts", fn := fun _ => fun
  | [d1, d2] => { results := [.lit (.bool false)], args := [d1, d2] }
  | _ => none }
def BitsCountsWrongFalsely : Prop := bitsCountsRow.holds Tryd.pinned (OpenSpec.ofChange bitsCountsWrong)

/-- 'braidworklaw02.BitsReads': WHATEVER THE INPUT: true; the input reads as it did. -/
def bitsReadsSpec : ChangeSpec := { name := "bitsReads", fn := fun _ => fun
  | [d1, d2] => { results := [.lit (.bool true)], args := [d1, d2] }
  | _ => none }
def bitsReadsRow : OpenClaim := { program := "ytoinkofoaodkhaadoor", sum := "67de138ec3344e3393795a12541580498aaa3b6c73cf417d274deccfb43922b0", func := "braidwork/braidworklaw02.BitsReads", spec := "bitsReads", named := ["math/bits.deBruijn64tab"], apart := false, laid := [("math/bits.deBruijn64tab", laid_math_bits_deBruijn64tab)] }
def BitsReadsSaid : Prop := bitsReadsRow.holds Tryd.pinned (OpenSpec.ofChange bitsReadsSpec)

/-- ITS FALSE NEIGHBOUR: 'it returns false'. Refute it at one input. -/
def bitsReadsWrong : ChangeSpec := { name := "bitsReads", fn := fun _ => fun
  | [d1, d2] => { results := [.lit (.bool false)], args := [d1, d2] }
  | _ => none }
def BitsReadsWrongFalsely : Prop := bitsReadsRow.holds Tryd.pinned (OpenSpec.ofChange bitsReadsWrong)

/-- 'braidworklaw02.BitsTakes': WHATEVER THE INPUT: true; the input reads as it did. -/
def bitsTakesSpec : ChangeSpec := { name := "bitsTakes", fn := fun _ => fun
  | [d1, d2, d3] => { results := [.lit (.bool true)], args := [d1, d2, d3] }
  | _ => none }
def bitsTakesRow : OpenClaim := { program := "ytoinkofoaodkhaadoor", sum := "67de138ec3344e3393795a12541580498aaa3b6c73cf417d274deccfb43922b0", func := "braidwork/braidworklaw02.BitsTakes", spec := "bitsTakes", named := ["math/bits.deBruijn64tab"], apart := false, laid := [("math/bits.deBruijn64tab", laid_math_bits_deBruijn64tab)] }
def BitsTakesSaid : Prop := bitsTakesRow.holds Tryd.pinned (OpenSpec.ofChange bitsTakesSpec)

/-- ITS FALSE NEIGHBOUR: 'it returns false'. Refute it at one input. -/
def bitsTakesWrong : ChangeSpec := { name := "bitsTakes", fn := fun _ => fun
  | [d1, d2, d3] => { results := [.lit (.bool false)], args := [d1, d2, d3] }
  | _ => none }
def BitsTakesWrongFalsely : Prop := bitsTakesRow.holds Tryd.pinned (OpenSpec.ofChange bitsTakesWrong)

/-- 'braidworklaw02.BitsPlays': WHATEVER THE INPUT: true; the input reads as it did. -/
def bitsPlaysSpec : ChangeSpec := { name := "bitsPlays", fn := fun _ => fun
  | [d1, d2] => { results := [.lit (.bool true)], args := [d1, d2] }
  | _ => none }
def bitsPlaysRow : OpenClaim := { program := "ytoinkofoaodkhaadoor", sum := "67de138ec3344e3393795a12541580498aaa3b6c73cf417d274deccfb43922b0", func := "braidwork/braidworklaw02.BitsPlays", spec := "bitsPlays", named := ["math/bits.deBruijn64tab"], apart := false, laid := [("math/bits.deBruijn64tab", laid_math_bits_deBruijn64tab)] }
def BitsPlaysSaid : Prop := bitsPlaysRow.holds Tryd.pinned (OpenSpec.ofChange bitsPlaysSpec)

/-- ITS FALSE NEIGHBOUR: 'it returns false'. Refute it at one input. -/
def bitsPlaysWrong : ChangeSpec := { name := "bitsPlays", fn := fun _ => fun
  | [d1, d2] => { results := [.lit (.bool false)], args := [d1, d2] }
  | _ => none }
def BitsPlaysWrongFalsely : Prop := bitsPlaysRow.holds Tryd.pinned (OpenSpec.ofChange bitsPlaysWrong)

/- THE SECOND FORM. 'bulk': how many values and letters a reading holds, each counted each time it is reached (what is shared counts as often as it is met; a slice's spare places count too). A statement '..UptoSaid' is the law's where the arguments, and the package variables that the reading takes, are together of bulk at most 1048576: NARROWER than '..Said'. Prove '..Said' where nothing that the law and all that it calls make is longer than what came in: it says more and counts as full. Else prove '..UptoSaid'. A law counts once. -/
mutual
def uptoBulk {H : Type} : DataW H → Nat
  | .lit (.string bytes) => bytes.length + 1
  | .lit _ => 1
  | .nil => 1
  | .ptr d => uptoBulk d + 1
  | .slice elems spare => uptoBulkAll elems + uptoBulkAll spare + 1
  | .agg parts => uptoBulkAll parts + 1
  | .iface _ d => uptoBulk d + 1
  | .map entries => uptoBulkEntries entries + 1
  | .held _ => 1
def uptoBulkAll {H : Type} : List (DataW H) → Nat
  | [] => 0
  | d :: r => uptoBulk d + uptoBulkAll r
def uptoBulkEntries {H : Type} : List (Lit × DataW H) → Nat
  | [] => 0
  | x :: r => uptoBulkEntry x + uptoBulkEntries r
def uptoBulkEntry {H : Type} : Lit × DataW H → Nat
  | (.string bytes, d) => bytes.length + uptoBulk d + 1
  | (_, d) => uptoBulk d + 1
 end
def uptoSmall : (H : Type) → List (DataW H) → Bool := fun _ ds => decide (uptoBulkAll ds ≤ 1048576)
def OpenSpec.upto (s : _root_.Go.ChangeSpec) : _root_.Go.OpenSpec := { _root_.Go.OpenSpec.ofChange s with cond := some uptoSmall }

/-- 'braidworklaw02.BitsBack', WHERE WHAT IT READS IS OF BULK AT MOST 1048576: true; the input reads as it did. -/
def bitsBackUptoRow : OpenClaim := { program := "ytoinkofoaodkhaadoor", sum := "67de138ec3344e3393795a12541580498aaa3b6c73cf417d274deccfb43922b0", func := "braidwork/braidworklaw02.BitsBack", spec := "bitsBack", named := ["math/bits.deBruijn64tab"], apart := false, laid := [("math/bits.deBruijn64tab", laid_math_bits_deBruijn64tab)], narrowed := true }
def BitsBackUptoSaid : Prop := bitsBackUptoRow.holds Tryd.pinned (OpenSpec.upto bitsBackSpec)

/-- 'braidworklaw02.BitsNext', WHERE WHAT IT READS IS OF BULK AT MOST 1048576: true; the input reads as it did. -/
def bitsNextUptoRow : OpenClaim := { program := "ytoinkofoaodkhaadoor", sum := "67de138ec3344e3393795a12541580498aaa3b6c73cf417d274deccfb43922b0", func := "braidwork/braidworklaw02.BitsNext", spec := "bitsNext", named := ["math/bits.deBruijn64tab"], apart := false, laid := [("math/bits.deBruijn64tab", laid_math_bits_deBruijn64tab)], narrowed := true }
def BitsNextUptoSaid : Prop := bitsNextUptoRow.holds Tryd.pinned (OpenSpec.upto bitsNextSpec)

/-- 'braidworklaw02.BitsCounts', WHERE WHAT IT READS IS OF BULK AT MOST 1048576: true; the input reads as it did. -/
def bitsCountsUptoRow : OpenClaim := { program := "ytoinkofoaodkhaadoor", sum := "67de138ec3344e3393795a12541580498aaa3b6c73cf417d274deccfb43922b0", func := "braidwork/braidworklaw02.BitsCounts", spec := "bitsCounts", named := ["math/bits.deBruijn64tab"], apart := false, laid := [("math/bits.deBruijn64tab", laid_math_bits_deBruijn64tab)], narrowed := true }
def BitsCountsUptoSaid : Prop := bitsCountsUptoRow.holds Tryd.pinned (OpenSpec.upto bitsCountsSpec)

/-- 'braidworklaw02.BitsReads', WHERE WHAT IT READS IS OF BULK AT MOST 1048576: true; the input reads as it did. -/
def bitsReadsUptoRow : OpenClaim := { program := "ytoinkofoaodkhaadoor", sum := "67de138ec3344e3393795a12541580498aaa3b6c73cf417d274deccfb43922b0", func := "braidwork/braidworklaw02.BitsReads", spec := "bitsReads", named := ["math/bits.deBruijn64tab"], apart := false, laid := [("math/bits.deBruijn64tab", laid_math_bits_deBruijn64tab)], narrowed := true }
def BitsReadsUptoSaid : Prop := bitsReadsUptoRow.holds Tryd.pinned (OpenSpec.upto bitsReadsSpec)

/-- 'braidworklaw02.BitsTakes', WHERE WHAT IT READS IS OF BULK AT MOST 1048576: true; the input reads as it did. -/
def bitsTakesUptoRow : OpenClaim := { program := "ytoinkofoaodkhaadoor", sum := "67de138ec3344e3393795a12541580498aaa3b6c73cf417d274deccfb43922b0", func := "braidwork/braidworklaw02.BitsTakes", spec := "bitsTakes", named := ["math/bits.deBruijn64tab"], apart := false, laid := [("math/bits.deBruijn64tab", laid_math_bits_deBruijn64tab)], narrowed := true }
def BitsTakesUptoSaid : Prop := bitsTakesUptoRow.holds Tryd.pinned (OpenSpec.upto bitsTakesSpec)

/-- 'braidworklaw02.BitsPlays', WHERE WHAT IT READS IS OF BULK AT MOST 1048576: true; the input reads as it did. -/
def bitsPlaysUptoRow : OpenClaim := { program := "ytoinkofoaodkhaadoor", sum := "67de138ec3344e3393795a12541580498aaa3b6c73cf417d274deccfb43922b0", func := "braidwork/braidworklaw02.BitsPlays", spec := "bitsPlays", named := ["math/bits.deBruijn64tab"], apart := false, laid := [("math/bits.deBruijn64tab", laid_math_bits_deBruijn64tab)], narrowed := true }
def BitsPlaysUptoSaid : Prop := bitsPlaysUptoRow.holds Tryd.pinned (OpenSpec.upto bitsPlaysSpec)

end Rows
end Go.Proofs.YtoinkofoaodkhaaDoor
