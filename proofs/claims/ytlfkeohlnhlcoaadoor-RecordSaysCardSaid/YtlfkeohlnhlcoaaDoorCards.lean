/-
  DERIVED. GIVEN WITH THE SEED: THE CARDS: each row of YtlfkeohlnhlcoaaDoorRows.lean that lists a variable, with what it lists TIED to the program's text (the seventh form; the later family's looks); each row that meets fmt, with fmt's text TOLD by the authors' own Lean function (tested against real Go, not proved from fmt's source: count such statements apart). THE CARD IS WHAT COUNTS. Prove the row's statement (the work); the ties are given (YtlfkeohlnhlcoaaDoorTie.lean); close each card by the builder's one call (the guide's Derived/Test/ToyasCard.lean, 'card_holds'). Laid BY PROGRAM, IN A SANDBOX (cutbox-door.mjs). By AI agents, Wed Nov 11 2026. No macro, syntax, notation, axiom, sorry.
-/
import Derived.Test.YtlfkeohlnhlcoaaDoorRows
import GoSem.ClaimSeven
namespace Go.Proofs.YtlfkeohlnhlcoaaDoor
namespace Rows

/-- THE TIED CARD OF 'braidworklaw08.RecordSplits'. -/
def recordSplitsCard : Claim7 := { stood := { row := recordSplitsRow, standIns := [], harness := (true, "f0da5b792e246a0ddcd049f98afa054641265220466399313cc8d6541fd91b9b"), looks := false }, kinds := [], alts := [], laidByText := true, laidKinds := [.sentinel], laidTests := true, laidLooks := .later }
def RecordSplitsCardSaid : Prop := Claim7.holds Tryd.pinned (.plain (OpenSpec.ofChange recordSplitsSpec)) recordSplitsCard

/-- THE TIED CARD OF 'braidworklaw08.RecordTags'. -/
def recordTagsCard : Claim7 := { stood := { row := recordTagsRow, standIns := [], harness := (true, "f0da5b792e246a0ddcd049f98afa054641265220466399313cc8d6541fd91b9b"), looks := false }, kinds := [], alts := [], laidByText := true, laidKinds := [.sentinel], laidTests := true, laidLooks := .later }
def RecordTagsCardSaid : Prop := Claim7.holds Tryd.pinned (.plain (OpenSpec.ofChange recordTagsSpec)) recordTagsCard

/-- THE TIED CARD OF 'braidworklaw08.RecordBack'. -/
def recordBackCard : Claim7 := { stood := { row := recordBackRow, standIns := [], harness := (true, "f0da5b792e246a0ddcd049f98afa054641265220466399313cc8d6541fd91b9b"), looks := false }, kinds := [], alts := [], laidByText := true, laidKinds := [.sentinel], laidTests := true, laidLooks := .later }
def RecordBackCardSaid : Prop := Claim7.holds Tryd.pinned (.plain (OpenSpec.ofChange recordBackSpec)) recordBackCard

/-- THE TIED CARD OF 'braidworklaw08.RecordOther'. -/
def recordOtherCard : Claim7 := { stood := { row := recordOtherRow, standIns := [], harness := (true, "f0da5b792e246a0ddcd049f98afa054641265220466399313cc8d6541fd91b9b"), looks := false }, kinds := [], alts := [], laidByText := true, laidKinds := [.sentinel], laidTests := true, laidLooks := .later }
def RecordOtherCardSaid : Prop := Claim7.holds Tryd.pinned (.plain (OpenSpec.ofChange recordOtherSpec)) recordOtherCard

/-- THE TIED CARD OF 'braidworklaw08.RecordNone'. -/
def recordNoneCard : Claim7 := { stood := { row := recordNoneRow, standIns := [], harness := (true, "f0da5b792e246a0ddcd049f98afa054641265220466399313cc8d6541fd91b9b"), looks := false }, kinds := [], alts := [], laidByText := true, laidKinds := [.sentinel], laidTests := true, laidLooks := .later }
def RecordNoneCardSaid : Prop := Claim7.holds Tryd.pinned (.plain (OpenSpec.ofChange recordNoneSpec)) recordNoneCard

/-- THE TIED CARD OF 'braidworklaw08.RecordSays'. -/
def recordSaysCard : Claim7 := { stood := { row := recordSaysRow, standIns := [], harness := (true, "f0da5b792e246a0ddcd049f98afa054641265220466399313cc8d6541fd91b9b"), looks := false }, kinds := [], alts := [], laidByText := true, laidKinds := [.sentinel], laidTests := true, laidLooks := .later }
def RecordSaysCardSaid : Prop := Claim7.holds Tryd.pinned (.plain (OpenSpec.ofChange recordSaysSpec)) recordSaysCard

/-- THE TIED CARD OF 'braidworklaw08.RecordCount'. -/
def recordCountCard : Claim7 := { stood := { row := recordCountRow, standIns := [], harness := (true, "f0da5b792e246a0ddcd049f98afa054641265220466399313cc8d6541fd91b9b"), looks := false }, kinds := [], alts := [], laidByText := true, laidKinds := [.sentinel], laidTests := true, laidLooks := .later }
def RecordCountCardSaid : Prop := Claim7.holds Tryd.pinned (.plain (OpenSpec.ofChange recordCountSpec)) recordCountCard

/-- THE SECOND FORM's CARD OF 'braidworklaw08.RecordSplits'. -/
def recordSplitsUptoCard : Claim7 := { stood := { row := recordSplitsUptoRow, standIns := [], harness := (true, "f0da5b792e246a0ddcd049f98afa054641265220466399313cc8d6541fd91b9b"), looks := false }, kinds := [], alts := [], laidByText := true, laidKinds := [.sentinel], laidTests := true, laidLooks := .later }
def RecordSplitsUptoCardSaid : Prop := Claim7.holds Tryd.pinned (.plain (OpenSpec.upto recordSplitsSpec)) recordSplitsUptoCard

/-- THE SECOND FORM's CARD OF 'braidworklaw08.RecordTags'. -/
def recordTagsUptoCard : Claim7 := { stood := { row := recordTagsUptoRow, standIns := [], harness := (true, "f0da5b792e246a0ddcd049f98afa054641265220466399313cc8d6541fd91b9b"), looks := false }, kinds := [], alts := [], laidByText := true, laidKinds := [.sentinel], laidTests := true, laidLooks := .later }
def RecordTagsUptoCardSaid : Prop := Claim7.holds Tryd.pinned (.plain (OpenSpec.upto recordTagsSpec)) recordTagsUptoCard

/-- THE SECOND FORM's CARD OF 'braidworklaw08.RecordBack'. -/
def recordBackUptoCard : Claim7 := { stood := { row := recordBackUptoRow, standIns := [], harness := (true, "f0da5b792e246a0ddcd049f98afa054641265220466399313cc8d6541fd91b9b"), looks := false }, kinds := [], alts := [], laidByText := true, laidKinds := [.sentinel], laidTests := true, laidLooks := .later }
def RecordBackUptoCardSaid : Prop := Claim7.holds Tryd.pinned (.plain (OpenSpec.upto recordBackSpec)) recordBackUptoCard

/-- THE SECOND FORM's CARD OF 'braidworklaw08.RecordOther'. -/
def recordOtherUptoCard : Claim7 := { stood := { row := recordOtherUptoRow, standIns := [], harness := (true, "f0da5b792e246a0ddcd049f98afa054641265220466399313cc8d6541fd91b9b"), looks := false }, kinds := [], alts := [], laidByText := true, laidKinds := [.sentinel], laidTests := true, laidLooks := .later }
def RecordOtherUptoCardSaid : Prop := Claim7.holds Tryd.pinned (.plain (OpenSpec.upto recordOtherSpec)) recordOtherUptoCard

/-- THE SECOND FORM's CARD OF 'braidworklaw08.RecordNone'. -/
def recordNoneUptoCard : Claim7 := { stood := { row := recordNoneUptoRow, standIns := [], harness := (true, "f0da5b792e246a0ddcd049f98afa054641265220466399313cc8d6541fd91b9b"), looks := false }, kinds := [], alts := [], laidByText := true, laidKinds := [.sentinel], laidTests := true, laidLooks := .later }
def RecordNoneUptoCardSaid : Prop := Claim7.holds Tryd.pinned (.plain (OpenSpec.upto recordNoneSpec)) recordNoneUptoCard

/-- THE SECOND FORM's CARD OF 'braidworklaw08.RecordSays'. -/
def recordSaysUptoCard : Claim7 := { stood := { row := recordSaysUptoRow, standIns := [], harness := (true, "f0da5b792e246a0ddcd049f98afa054641265220466399313cc8d6541fd91b9b"), looks := false }, kinds := [], alts := [], laidByText := true, laidKinds := [.sentinel], laidTests := true, laidLooks := .later }
def RecordSaysUptoCardSaid : Prop := Claim7.holds Tryd.pinned (.plain (OpenSpec.upto recordSaysSpec)) recordSaysUptoCard

/-- THE SECOND FORM's CARD OF 'braidworklaw08.RecordCount'. -/
def recordCountUptoCard : Claim7 := { stood := { row := recordCountUptoRow, standIns := [], harness := (true, "f0da5b792e246a0ddcd049f98afa054641265220466399313cc8d6541fd91b9b"), looks := false }, kinds := [], alts := [], laidByText := true, laidKinds := [.sentinel], laidTests := true, laidLooks := .later }
def RecordCountUptoCardSaid : Prop := Claim7.holds Tryd.pinned (.plain (OpenSpec.upto recordCountSpec)) recordCountUptoCard
end Rows
end Go.Proofs.YtlfkeohlnhlcoaaDoor
