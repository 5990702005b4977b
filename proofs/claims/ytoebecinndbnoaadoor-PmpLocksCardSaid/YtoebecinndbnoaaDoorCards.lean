/-
  DERIVED. GIVEN WITH THE SEED: THE CARDS: each row of YtoebecinndbnoaaDoorRows.lean that lists a variable, with what it lists TIED to the program's text (the seventh form; the later family's looks); each row that meets fmt, with fmt's text TOLD by the authors' own Lean function (tested against real Go, not proved from fmt's source: count such statements apart). THE CARD IS WHAT COUNTS. Prove the row's statement (the work); the ties are given (YtoebecinndbnoaaDoorTie.lean); close each card by the builder's one call (the guide's Derived/Test/ToyasCard.lean, 'card_holds'). Laid BY PROGRAM, IN A SANDBOX (cutbox-door.mjs). By AI agents, Wed Nov 11 2026. No macro, syntax, notation, axiom, sorry.
-/
import Derived.Test.YtoebecinndbnoaaDoorRows
import GoSem.ClaimSeven
namespace Go.Proofs.YtoebecinndbnoaaDoor
namespace Rows

/-- THE TIED CARD OF 'tandemlaw11.PmpRanges'. -/
def pmpRangesCard : Claim7 := { stood := { row := pmpRangesRow, standIns := [], harness := (true, "ef1f2c6bd80da54ce274b70dd86cfaa167478ceca7d885b26f69ec17e7c61a66"), looks := false }, kinds := [], alts := [], laidByText := true, laidKinds := [.data], laidTests := true, laidLooks := .later }
def PmpRangesCardSaid : Prop := Claim7.holds Tryd.pinned (.plain (OpenSpec.ofChange pmpRangesSpec)) pmpRangesCard

/-- THE TIED CARD OF 'tandemlaw11.PmpChecks'. -/
def pmpChecksCard : Claim7 := { stood := { row := pmpChecksRow, standIns := [], harness := (true, "ef1f2c6bd80da54ce274b70dd86cfaa167478ceca7d885b26f69ec17e7c61a66"), looks := false }, kinds := [], alts := [], laidByText := true, laidKinds := [.data], laidTests := true, laidLooks := .later }
def PmpChecksCardSaid : Prop := Claim7.holds Tryd.pinned (.plain (OpenSpec.ofChange pmpChecksSpec)) pmpChecksCard

/-- THE TIED CARD OF 'tandemlaw11.PmpWrites'. -/
def pmpWritesCard : Claim7 := { stood := { row := pmpWritesRow, standIns := [], harness := (true, "ef1f2c6bd80da54ce274b70dd86cfaa167478ceca7d885b26f69ec17e7c61a66"), looks := false }, kinds := [], alts := [], laidByText := true, laidKinds := [.data], laidTests := true, laidLooks := .later }
def PmpWritesCardSaid : Prop := Claim7.holds Tryd.pinned (.plain (OpenSpec.ofChange pmpWritesSpec)) pmpWritesCard

/-- THE TIED CARD OF 'tandemlaw11.PmpBehind'. -/
def pmpBehindCard : Claim7 := { stood := { row := pmpBehindRow, standIns := [], harness := (true, "ef1f2c6bd80da54ce274b70dd86cfaa167478ceca7d885b26f69ec17e7c61a66"), looks := false }, kinds := [], alts := [], laidByText := true, laidKinds := [.data], laidTests := true, laidLooks := .later }
def PmpBehindCardSaid : Prop := Claim7.holds Tryd.pinned (.plain (OpenSpec.ofChange pmpBehindSpec)) pmpBehindCard

/-- THE TIED CARD OF 'tandemlaw11.PmpLocks'. -/
def pmpLocksCard : Claim7 := { stood := { row := pmpLocksRow, standIns := [], harness := (true, "ef1f2c6bd80da54ce274b70dd86cfaa167478ceca7d885b26f69ec17e7c61a66"), looks := false }, kinds := [], alts := [], laidByText := true, laidKinds := [.data], laidTests := true, laidLooks := .later }
def PmpLocksCardSaid : Prop := Claim7.holds Tryd.pinned (.plain (OpenSpec.ofChange pmpLocksSpec)) pmpLocksCard

/-- THE SECOND FORM's CARD OF 'tandemlaw11.PmpRanges'. -/
def pmpRangesUptoCard : Claim7 := { stood := { row := pmpRangesUptoRow, standIns := [], harness := (true, "ef1f2c6bd80da54ce274b70dd86cfaa167478ceca7d885b26f69ec17e7c61a66"), looks := false }, kinds := [], alts := [], laidByText := true, laidKinds := [.data], laidTests := true, laidLooks := .later }
def PmpRangesUptoCardSaid : Prop := Claim7.holds Tryd.pinned (.plain (OpenSpec.upto pmpRangesSpec)) pmpRangesUptoCard

/-- THE SECOND FORM's CARD OF 'tandemlaw11.PmpChecks'. -/
def pmpChecksUptoCard : Claim7 := { stood := { row := pmpChecksUptoRow, standIns := [], harness := (true, "ef1f2c6bd80da54ce274b70dd86cfaa167478ceca7d885b26f69ec17e7c61a66"), looks := false }, kinds := [], alts := [], laidByText := true, laidKinds := [.data], laidTests := true, laidLooks := .later }
def PmpChecksUptoCardSaid : Prop := Claim7.holds Tryd.pinned (.plain (OpenSpec.upto pmpChecksSpec)) pmpChecksUptoCard

/-- THE SECOND FORM's CARD OF 'tandemlaw11.PmpWrites'. -/
def pmpWritesUptoCard : Claim7 := { stood := { row := pmpWritesUptoRow, standIns := [], harness := (true, "ef1f2c6bd80da54ce274b70dd86cfaa167478ceca7d885b26f69ec17e7c61a66"), looks := false }, kinds := [], alts := [], laidByText := true, laidKinds := [.data], laidTests := true, laidLooks := .later }
def PmpWritesUptoCardSaid : Prop := Claim7.holds Tryd.pinned (.plain (OpenSpec.upto pmpWritesSpec)) pmpWritesUptoCard

/-- THE SECOND FORM's CARD OF 'tandemlaw11.PmpBehind'. -/
def pmpBehindUptoCard : Claim7 := { stood := { row := pmpBehindUptoRow, standIns := [], harness := (true, "ef1f2c6bd80da54ce274b70dd86cfaa167478ceca7d885b26f69ec17e7c61a66"), looks := false }, kinds := [], alts := [], laidByText := true, laidKinds := [.data], laidTests := true, laidLooks := .later }
def PmpBehindUptoCardSaid : Prop := Claim7.holds Tryd.pinned (.plain (OpenSpec.upto pmpBehindSpec)) pmpBehindUptoCard

/-- THE SECOND FORM's CARD OF 'tandemlaw11.PmpLocks'. -/
def pmpLocksUptoCard : Claim7 := { stood := { row := pmpLocksUptoRow, standIns := [], harness := (true, "ef1f2c6bd80da54ce274b70dd86cfaa167478ceca7d885b26f69ec17e7c61a66"), looks := false }, kinds := [], alts := [], laidByText := true, laidKinds := [.data], laidTests := true, laidLooks := .later }
def PmpLocksUptoCardSaid : Prop := Claim7.holds Tryd.pinned (.plain (OpenSpec.upto pmpLocksSpec)) pmpLocksUptoCard
end Rows
end Go.Proofs.YtoebecinndbnoaaDoor
