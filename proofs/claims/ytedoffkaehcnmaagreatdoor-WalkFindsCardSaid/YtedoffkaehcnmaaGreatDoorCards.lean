/-
  DERIVED. GIVEN WITH THE SEED: THE CARDS: each row of YtedoffkaehcnmaaGreatDoorRows.lean that lists a variable, with what it lists TIED to the program's text (the seventh form; the later family's looks); each row that meets fmt, with fmt's text TOLD by the authors' own Lean function (tested against real Go, not proved from fmt's source: count such statements apart). THE CARD IS WHAT COUNTS. Prove the row's statement (the work); the ties are given (YtedoffkaehcnmaaGreatDoorTie.lean); close each card by the builder's one call (the guide's Derived/Test/ToyasCard.lean, 'card_holds'). Laid BY PROGRAM, IN A SANDBOX (cutbox-door.mjs). By AI agents, Wed Nov 11 2026. No macro, syntax, notation, axiom, sorry.
-/
import Derived.Test.YtedoffkaehcnmaaGreatDoorRows
import GoSem.ClaimSeven
namespace Go.Proofs.YtedoffkaehcnmaaGreatDoor
namespace Rows

/-- THE TIED CARD OF 'tandemlaw14.WalkFinds'. -/
def walkFindsCard : Claim7 := { stood := { row := walkFindsRow, standIns := [], harness := (true, "baa1f62aab85fa503868b71a5b71db619ffc0b4b36198e43a05c48b12befd4e7"), looks := false }, kinds := [], alts := [], laidByText := true, laidKinds := [.data], laidTests := true, laidLooks := .later }
def WalkFindsCardSaid : Prop := Claim7.holds Tryz.pinned (.plain (OpenSpec.ofChange walkFindsSpec)) walkFindsCard

/-- THE SECOND FORM's CARD OF 'tandemlaw14.WalkFinds'. -/
def walkFindsUptoCard : Claim7 := { stood := { row := walkFindsUptoRow, standIns := [], harness := (true, "baa1f62aab85fa503868b71a5b71db619ffc0b4b36198e43a05c48b12befd4e7"), looks := false }, kinds := [], alts := [], laidByText := true, laidKinds := [.data], laidTests := true, laidLooks := .later }
def WalkFindsUptoCardSaid : Prop := Claim7.holds Tryz.pinned (.plain (OpenSpec.upto walkFindsSpec)) walkFindsUptoCard
end Rows
end Go.Proofs.YtedoffkaehcnmaaGreatDoor
