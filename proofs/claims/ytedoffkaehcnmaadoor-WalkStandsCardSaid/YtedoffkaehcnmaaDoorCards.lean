/-
  DERIVED. GIVEN WITH THE SEED: THE CARDS: each row of YtedoffkaehcnmaaDoorRows.lean that lists a variable, with what it lists TIED to the program's text (the seventh form; the later family's looks); each row that meets fmt, with fmt's text TOLD by the authors' own Lean function (tested against real Go, not proved from fmt's source: count such statements apart). THE CARD IS WHAT COUNTS. Prove the row's statement (the work); the ties are given (YtedoffkaehcnmaaDoorTie.lean); close each card by the builder's one call (the guide's Derived/Test/ToyasCard.lean, 'card_holds'). Laid BY PROGRAM, IN A SANDBOX (cutbox-door.mjs). By AI agents, Wed Nov 11 2026. No macro, syntax, notation, axiom, sorry.
-/
import Derived.Test.YtedoffkaehcnmaaDoorRows
import GoSem.ClaimSeven
namespace Go.Proofs.YtedoffkaehcnmaaDoor
namespace Rows

/-- THE TIED CARD OF 'tandemlaw14.WalkModes'. -/
def walkModesCard : Claim7 := { stood := { row := walkModesRow, standIns := [], harness := (true, "ad82bc64db00a77ddb4f6da76236ea02588450c80ed5b0efe6ae7a4971dd16f1"), looks := false }, kinds := [], alts := [], laidByText := true, laidKinds := [.data], laidTests := true, laidLooks := .later }
def WalkModesCardSaid : Prop := Claim7.holds Tryd.pinned (.plain (OpenSpec.ofChange walkModesSpec)) walkModesCard

/-- THE TIED CARD OF 'tandemlaw14.WalkAllows'. -/
def walkAllowsCard : Claim7 := { stood := { row := walkAllowsRow, standIns := [], harness := (true, "ad82bc64db00a77ddb4f6da76236ea02588450c80ed5b0efe6ae7a4971dd16f1"), looks := false }, kinds := [], alts := [], laidByText := true, laidKinds := [.data], laidTests := true, laidLooks := .later }
def WalkAllowsCardSaid : Prop := Claim7.holds Tryd.pinned (.plain (OpenSpec.ofChange walkAllowsSpec)) walkAllowsCard

/-- THE TIED CARD OF 'tandemlaw14.WalkPages'. -/
def walkPagesCard : Claim7 := { stood := { row := walkPagesRow, standIns := [], harness := (true, "ad82bc64db00a77ddb4f6da76236ea02588450c80ed5b0efe6ae7a4971dd16f1"), looks := false }, kinds := [], alts := [], laidByText := true, laidKinds := [.data], laidTests := true, laidLooks := .later }
def WalkPagesCardSaid : Prop := Claim7.holds Tryd.pinned (.plain (OpenSpec.ofChange walkPagesSpec)) walkPagesCard

/-- THE TIED CARD OF 'tandemlaw14.WalkStands'. -/
def walkStandsCard : Claim7 := { stood := { row := walkStandsRow, standIns := [], harness := (true, "ad82bc64db00a77ddb4f6da76236ea02588450c80ed5b0efe6ae7a4971dd16f1"), looks := false }, kinds := [], alts := [], laidByText := true, laidKinds := [.data], laidTests := true, laidLooks := .later }
def WalkStandsCardSaid : Prop := Claim7.holds Tryd.pinned (.plain (OpenSpec.ofChange walkStandsSpec)) walkStandsCard

/-- THE SECOND FORM's CARD OF 'tandemlaw14.WalkModes'. -/
def walkModesUptoCard : Claim7 := { stood := { row := walkModesUptoRow, standIns := [], harness := (true, "ad82bc64db00a77ddb4f6da76236ea02588450c80ed5b0efe6ae7a4971dd16f1"), looks := false }, kinds := [], alts := [], laidByText := true, laidKinds := [.data], laidTests := true, laidLooks := .later }
def WalkModesUptoCardSaid : Prop := Claim7.holds Tryd.pinned (.plain (OpenSpec.upto walkModesSpec)) walkModesUptoCard

/-- THE SECOND FORM's CARD OF 'tandemlaw14.WalkAllows'. -/
def walkAllowsUptoCard : Claim7 := { stood := { row := walkAllowsUptoRow, standIns := [], harness := (true, "ad82bc64db00a77ddb4f6da76236ea02588450c80ed5b0efe6ae7a4971dd16f1"), looks := false }, kinds := [], alts := [], laidByText := true, laidKinds := [.data], laidTests := true, laidLooks := .later }
def WalkAllowsUptoCardSaid : Prop := Claim7.holds Tryd.pinned (.plain (OpenSpec.upto walkAllowsSpec)) walkAllowsUptoCard

/-- THE SECOND FORM's CARD OF 'tandemlaw14.WalkPages'. -/
def walkPagesUptoCard : Claim7 := { stood := { row := walkPagesUptoRow, standIns := [], harness := (true, "ad82bc64db00a77ddb4f6da76236ea02588450c80ed5b0efe6ae7a4971dd16f1"), looks := false }, kinds := [], alts := [], laidByText := true, laidKinds := [.data], laidTests := true, laidLooks := .later }
def WalkPagesUptoCardSaid : Prop := Claim7.holds Tryd.pinned (.plain (OpenSpec.upto walkPagesSpec)) walkPagesUptoCard

/-- THE SECOND FORM's CARD OF 'tandemlaw14.WalkStands'. -/
def walkStandsUptoCard : Claim7 := { stood := { row := walkStandsUptoRow, standIns := [], harness := (true, "ad82bc64db00a77ddb4f6da76236ea02588450c80ed5b0efe6ae7a4971dd16f1"), looks := false }, kinds := [], alts := [], laidByText := true, laidKinds := [.data], laidTests := true, laidLooks := .later }
def WalkStandsUptoCardSaid : Prop := Claim7.holds Tryd.pinned (.plain (OpenSpec.upto walkStandsSpec)) walkStandsUptoCard
end Rows
end Go.Proofs.YtedoffkaehcnmaaDoor
