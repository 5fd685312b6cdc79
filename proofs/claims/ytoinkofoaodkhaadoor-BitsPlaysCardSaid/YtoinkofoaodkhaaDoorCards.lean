/-
  DERIVED. GIVEN WITH THE SEED: THE CARDS: each row of YtoinkofoaodkhaaDoorRows.lean that lists a variable, with what it lists TIED to the program's text (the seventh form; the later family's looks); each row that meets fmt, with fmt's text TOLD by the authors' own Lean function (tested against real Go, not proved from fmt's source: count such statements apart). THE CARD IS WHAT COUNTS. Prove the row's statement (the work); the ties are given (YtoinkofoaodkhaaDoorTie.lean); close each card by the builder's one call (the guide's Derived/Test/ToyasCard.lean, 'card_holds'). Laid BY PROGRAM, IN A SANDBOX (cutbox-door.mjs). By AI agents, Wed Nov 11 2026. No macro, syntax, notation, axiom, sorry.
-/
import Derived.Test.YtoinkofoaodkhaaDoorRows
import GoSem.ClaimSeven
namespace Go.Proofs.YtoinkofoaodkhaaDoor
namespace Rows

/-- THE TIED CARD OF 'braidworklaw02.BitsBack'. -/
def bitsBackCard : Claim7 := { stood := { row := bitsBackRow, standIns := [], harness := (true, "7d1fd0cc3bab2bdeaa276745c5242ee58720bbb1158e9e2f6dee58a13e8b7fad"), looks := false }, kinds := [], alts := [], laidByText := true, laidKinds := [.data], laidTests := true, laidLooks := .later }
def BitsBackCardSaid : Prop := Claim7.holds Tryd.pinned (.plain (OpenSpec.ofChange bitsBackSpec)) bitsBackCard

/-- THE TIED CARD OF 'braidworklaw02.BitsNext'. -/
def bitsNextCard : Claim7 := { stood := { row := bitsNextRow, standIns := [], harness := (true, "7d1fd0cc3bab2bdeaa276745c5242ee58720bbb1158e9e2f6dee58a13e8b7fad"), looks := false }, kinds := [], alts := [], laidByText := true, laidKinds := [.data], laidTests := true, laidLooks := .later }
def BitsNextCardSaid : Prop := Claim7.holds Tryd.pinned (.plain (OpenSpec.ofChange bitsNextSpec)) bitsNextCard

/-- THE TIED CARD OF 'braidworklaw02.BitsCounts'. -/
def bitsCountsCard : Claim7 := { stood := { row := bitsCountsRow, standIns := [], harness := (true, "7d1fd0cc3bab2bdeaa276745c5242ee58720bbb1158e9e2f6dee58a13e8b7fad"), looks := false }, kinds := [], alts := [], laidByText := true, laidKinds := [.data], laidTests := true, laidLooks := .later }
def BitsCountsCardSaid : Prop := Claim7.holds Tryd.pinned (.plain (OpenSpec.ofChange bitsCountsSpec)) bitsCountsCard

/-- THE TIED CARD OF 'braidworklaw02.BitsReads'. -/
def bitsReadsCard : Claim7 := { stood := { row := bitsReadsRow, standIns := [], harness := (true, "7d1fd0cc3bab2bdeaa276745c5242ee58720bbb1158e9e2f6dee58a13e8b7fad"), looks := false }, kinds := [], alts := [], laidByText := true, laidKinds := [.data], laidTests := true, laidLooks := .later }
def BitsReadsCardSaid : Prop := Claim7.holds Tryd.pinned (.plain (OpenSpec.ofChange bitsReadsSpec)) bitsReadsCard

/-- THE TIED CARD OF 'braidworklaw02.BitsTakes'. -/
def bitsTakesCard : Claim7 := { stood := { row := bitsTakesRow, standIns := [], harness := (true, "7d1fd0cc3bab2bdeaa276745c5242ee58720bbb1158e9e2f6dee58a13e8b7fad"), looks := false }, kinds := [], alts := [], laidByText := true, laidKinds := [.data], laidTests := true, laidLooks := .later }
def BitsTakesCardSaid : Prop := Claim7.holds Tryd.pinned (.plain (OpenSpec.ofChange bitsTakesSpec)) bitsTakesCard

/-- THE TIED CARD OF 'braidworklaw02.BitsPlays'. -/
def bitsPlaysCard : Claim7 := { stood := { row := bitsPlaysRow, standIns := [], harness := (true, "7d1fd0cc3bab2bdeaa276745c5242ee58720bbb1158e9e2f6dee58a13e8b7fad"), looks := false }, kinds := [], alts := [], laidByText := true, laidKinds := [.data], laidTests := true, laidLooks := .later }
def BitsPlaysCardSaid : Prop := Claim7.holds Tryd.pinned (.plain (OpenSpec.ofChange bitsPlaysSpec)) bitsPlaysCard

/-- THE SECOND FORM's CARD OF 'braidworklaw02.BitsBack'. -/
def bitsBackUptoCard : Claim7 := { stood := { row := bitsBackUptoRow, standIns := [], harness := (true, "7d1fd0cc3bab2bdeaa276745c5242ee58720bbb1158e9e2f6dee58a13e8b7fad"), looks := false }, kinds := [], alts := [], laidByText := true, laidKinds := [.data], laidTests := true, laidLooks := .later }
def BitsBackUptoCardSaid : Prop := Claim7.holds Tryd.pinned (.plain (OpenSpec.upto bitsBackSpec)) bitsBackUptoCard

/-- THE SECOND FORM's CARD OF 'braidworklaw02.BitsNext'. -/
def bitsNextUptoCard : Claim7 := { stood := { row := bitsNextUptoRow, standIns := [], harness := (true, "7d1fd0cc3bab2bdeaa276745c5242ee58720bbb1158e9e2f6dee58a13e8b7fad"), looks := false }, kinds := [], alts := [], laidByText := true, laidKinds := [.data], laidTests := true, laidLooks := .later }
def BitsNextUptoCardSaid : Prop := Claim7.holds Tryd.pinned (.plain (OpenSpec.upto bitsNextSpec)) bitsNextUptoCard

/-- THE SECOND FORM's CARD OF 'braidworklaw02.BitsCounts'. -/
def bitsCountsUptoCard : Claim7 := { stood := { row := bitsCountsUptoRow, standIns := [], harness := (true, "7d1fd0cc3bab2bdeaa276745c5242ee58720bbb1158e9e2f6dee58a13e8b7fad"), looks := false }, kinds := [], alts := [], laidByText := true, laidKinds := [.data], laidTests := true, laidLooks := .later }
def BitsCountsUptoCardSaid : Prop := Claim7.holds Tryd.pinned (.plain (OpenSpec.upto bitsCountsSpec)) bitsCountsUptoCard

/-- THE SECOND FORM's CARD OF 'braidworklaw02.BitsReads'. -/
def bitsReadsUptoCard : Claim7 := { stood := { row := bitsReadsUptoRow, standIns := [], harness := (true, "7d1fd0cc3bab2bdeaa276745c5242ee58720bbb1158e9e2f6dee58a13e8b7fad"), looks := false }, kinds := [], alts := [], laidByText := true, laidKinds := [.data], laidTests := true, laidLooks := .later }
def BitsReadsUptoCardSaid : Prop := Claim7.holds Tryd.pinned (.plain (OpenSpec.upto bitsReadsSpec)) bitsReadsUptoCard

/-- THE SECOND FORM's CARD OF 'braidworklaw02.BitsTakes'. -/
def bitsTakesUptoCard : Claim7 := { stood := { row := bitsTakesUptoRow, standIns := [], harness := (true, "7d1fd0cc3bab2bdeaa276745c5242ee58720bbb1158e9e2f6dee58a13e8b7fad"), looks := false }, kinds := [], alts := [], laidByText := true, laidKinds := [.data], laidTests := true, laidLooks := .later }
def BitsTakesUptoCardSaid : Prop := Claim7.holds Tryd.pinned (.plain (OpenSpec.upto bitsTakesSpec)) bitsTakesUptoCard

/-- THE SECOND FORM's CARD OF 'braidworklaw02.BitsPlays'. -/
def bitsPlaysUptoCard : Claim7 := { stood := { row := bitsPlaysUptoRow, standIns := [], harness := (true, "7d1fd0cc3bab2bdeaa276745c5242ee58720bbb1158e9e2f6dee58a13e8b7fad"), looks := false }, kinds := [], alts := [], laidByText := true, laidKinds := [.data], laidTests := true, laidLooks := .later }
def BitsPlaysUptoCardSaid : Prop := Claim7.holds Tryd.pinned (.plain (OpenSpec.upto bitsPlaysSpec)) bitsPlaysUptoCard
end Rows
end Go.Proofs.YtoinkofoaodkhaaDoor
