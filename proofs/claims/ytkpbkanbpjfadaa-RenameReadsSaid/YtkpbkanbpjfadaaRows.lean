/-
  No cell of these rows narrows 'for every input' (looked for: loops, veiled, ifaces, maps, wideKeys, modest, calm, conditions, laid).
  DERIVED. THE GIVEN ROWS OF THIS SEAT. 5 by the template 'for every input the law returns true; each argument reads behind the call as it read before'; 0 by the template 'total and deterministic' (their statements: YtkpbkanbpjfadaaTotals.lean).
  GIVEN WITH THE SEED: the statements are not yours to turn. If you find one false, say at which input.
  Laid BY PROGRAM, IN A SANDBOX (cutbox-rows.mjs): the forced cells as the released guide's own fill.sh prints them over the translation 0457db720d3ee393… (all of the seat's roots in one cut). By AI agents, Wed Nov 11 2026. No macro, syntax, notation, axiom, sorry.
-/
import Derived.Test.YtkpbkanbpjfadaaChecked
import GoSem.Claim
import GoSem.ClaimJoined
import GoSem.ClaimMapViews
import Derived.JoinedTies
import Derived.KernelRfl
namespace Go.Proofs.Ytkpbkanbpjfadaa
/- THE CELL 'sum', in the pinned program and in every row, IS THE sha256 OF THE DUMP (.gsa) THAT YtkpbkanbpjfadaaProg.lean LOADS. Nothing in Lean hashes anything: it is a label: what it is worth is what the hold of that sum in a sandbox is worth. -/
noncomputable def Try.pinned : Pinned := { name := "ytkpbkanbpjfadaa", sum := "0457db720d3ee393a92c2f7a7b79416858860df9c30a69a5edd6c598d72b1d20", checked := Try.checked }
namespace Rows
def none {H : Type} : Left H := { results := [], args := [] }

/-- 'tandemlaw21.RenameDoes': WHATEVER THE INPUT: true; the input reads as it did. -/
def renameDoesSpec : ChangeSpec := { name := "renameDoes", fn := fun _ => fun
  | [d] => { results := [.lit (.bool true)], args := [d] }
  | _ => none }
def renameDoesRow : OpenClaim := { program := "ytkpbkanbpjfadaa", sum := "0457db720d3ee393a92c2f7a7b79416858860df9c30a69a5edd6c598d72b1d20", func := "tandem/tandemlaw21.RenameDoes", spec := "renameDoes", inPlace := ["slices.overlaps[int]"], apart := false }
def RenameDoesSaid : Prop := renameDoesRow.holds Try.pinned (OpenSpec.ofChange renameDoesSpec)

/-- ITS FALSE NEIGHBOUR: 'it returns false'. Refute it at one input. -/
def renameDoesWrong : ChangeSpec := { name := "renameDoes", fn := fun _ => fun
  | [d] => { results := [.lit (.bool false)], args := [d] }
  | _ => none }
def RenameDoesWrongFalsely : Prop := renameDoesRow.holds Try.pinned (OpenSpec.ofChange renameDoesWrong)

/-- 'tandemlaw21.RenameKeeps': WHATEVER THE INPUT: true; the input reads as it did. -/
def renameKeepsSpec : ChangeSpec := { name := "renameKeeps", fn := fun _ => fun
  | [d] => { results := [.lit (.bool true)], args := [d] }
  | _ => none }
def renameKeepsRow : OpenClaim := { program := "ytkpbkanbpjfadaa", sum := "0457db720d3ee393a92c2f7a7b79416858860df9c30a69a5edd6c598d72b1d20", func := "tandem/tandemlaw21.RenameKeeps", spec := "renameKeeps", inPlace := ["slices.overlaps[int]"], apart := false }
def RenameKeepsSaid : Prop := renameKeepsRow.holds Try.pinned (OpenSpec.ofChange renameKeepsSpec)

/-- ITS FALSE NEIGHBOUR: 'it returns false'. Refute it at one input. -/
def renameKeepsWrong : ChangeSpec := { name := "renameKeeps", fn := fun _ => fun
  | [d] => { results := [.lit (.bool false)], args := [d] }
  | _ => none }
def RenameKeepsWrongFalsely : Prop := renameKeepsRow.holds Try.pinned (OpenSpec.ofChange renameKeepsWrong)

/-- 'tandemlaw21.RenameReads': WHATEVER THE INPUT: true; the input reads as it did. -/
def renameReadsSpec : ChangeSpec := { name := "renameReads", fn := fun _ => fun
  | [d] => { results := [.lit (.bool true)], args := [d] }
  | _ => none }
def renameReadsRow : OpenClaim := { program := "ytkpbkanbpjfadaa", sum := "0457db720d3ee393a92c2f7a7b79416858860df9c30a69a5edd6c598d72b1d20", func := "tandem/tandemlaw21.RenameReads", spec := "renameReads", inPlace := ["slices.overlaps[int]"], apart := false }
def RenameReadsSaid : Prop := renameReadsRow.holds Try.pinned (OpenSpec.ofChange renameReadsSpec)

/-- ITS FALSE NEIGHBOUR: 'it returns false'. Refute it at one input. -/
def renameReadsWrong : ChangeSpec := { name := "renameReads", fn := fun _ => fun
  | [d] => { results := [.lit (.bool false)], args := [d] }
  | _ => none }
def RenameReadsWrongFalsely : Prop := renameReadsRow.holds Try.pinned (OpenSpec.ofChange renameReadsWrong)

/-- 'tandemlaw21.RenameBack': WHATEVER THE INPUT: true; the input reads as it did. -/
def renameBackSpec : ChangeSpec := { name := "renameBack", fn := fun _ => fun
  | [d1, d2] => { results := [.lit (.bool true)], args := [d1, d2] }
  | _ => none }
def renameBackRow : OpenClaim := { program := "ytkpbkanbpjfadaa", sum := "0457db720d3ee393a92c2f7a7b79416858860df9c30a69a5edd6c598d72b1d20", func := "tandem/tandemlaw21.RenameBack", spec := "renameBack", inPlace := ["slices.overlaps[int]"], apart := false }
def RenameBackSaid : Prop := renameBackRow.holds Try.pinned (OpenSpec.ofChange renameBackSpec)

/-- ITS FALSE NEIGHBOUR: 'it returns false'. Refute it at one input. -/
def renameBackWrong : ChangeSpec := { name := "renameBack", fn := fun _ => fun
  | [d1, d2] => { results := [.lit (.bool false)], args := [d1, d2] }
  | _ => none }
def RenameBackWrongFalsely : Prop := renameBackRow.holds Try.pinned (OpenSpec.ofChange renameBackWrong)

/-- 'tandemlaw21.RenameRoom': WHATEVER THE INPUT: true; the input reads as it did. -/
def renameRoomSpec : ChangeSpec := { name := "renameRoom", fn := fun _ => fun
  | [d] => { results := [.lit (.bool true)], args := [d] }
  | _ => none }
def renameRoomRow : OpenClaim := { program := "ytkpbkanbpjfadaa", sum := "0457db720d3ee393a92c2f7a7b79416858860df9c30a69a5edd6c598d72b1d20", func := "tandem/tandemlaw21.RenameRoom", spec := "renameRoom", inPlace := ["slices.overlaps[int]"], apart := false }
def RenameRoomSaid : Prop := renameRoomRow.holds Try.pinned (OpenSpec.ofChange renameRoomSpec)

/-- ITS FALSE NEIGHBOUR: 'it returns false'. Refute it at one input. -/
def renameRoomWrong : ChangeSpec := { name := "renameRoom", fn := fun _ => fun
  | [d] => { results := [.lit (.bool false)], args := [d] }
  | _ => none }
def RenameRoomWrongFalsely : Prop := renameRoomRow.holds Try.pinned (OpenSpec.ofChange renameRoomWrong)

/- THE SECOND FORM. 'bulk': how many values and letters a reading holds, each counted each time it is reached (what is shared counts as often as it is met; a slice's spare places count too). A statement '..UptoSaid' is the law's where the arguments, and the package variables that the reading takes, are together of bulk at most 1048576: NARROWER than '..Said'. Prove '..Said' where nothing that the law and all that it calls make is longer than what came in: it says more and counts as full. Else prove '..UptoSaid'. A law counts once. -/
mutual
def uptoBulk {H : Type} : DataW H → Nat
  | .lit (.string bytes) => bytes.length + 1
  | .lit _ => 1
  | .nil => 1
  | .ptr d => uptoBulk d + 1
  | .slice elems spare => uptoBulkAll elems + uptoBulkAll spare + 1
  | .agg parts => uptoBulkAll parts + 1
  | .iface _ d => uptoBulk d + 1
  | .map entries => uptoBulkEntries entries + 1
  | .held _ => 1
def uptoBulkAll {H : Type} : List (DataW H) → Nat
  | [] => 0
  | d :: r => uptoBulk d + uptoBulkAll r
def uptoBulkEntries {H : Type} : List (Lit × DataW H) → Nat
  | [] => 0
  | x :: r => uptoBulkEntry x + uptoBulkEntries r
def uptoBulkEntry {H : Type} : Lit × DataW H → Nat
  | (.string bytes, d) => bytes.length + uptoBulk d + 1
  | (_, d) => uptoBulk d + 1
 end
def uptoSmall : (H : Type) → List (DataW H) → Bool := fun _ ds => decide (uptoBulkAll ds ≤ 1048576)
def OpenSpec.upto (s : _root_.Go.ChangeSpec) : _root_.Go.OpenSpec := { _root_.Go.OpenSpec.ofChange s with cond := some uptoSmall }

/-- 'tandemlaw21.RenameDoes', WHERE WHAT IT READS IS OF BULK AT MOST 1048576: true; the input reads as it did. -/
def renameDoesUptoRow : OpenClaim := { program := "ytkpbkanbpjfadaa", sum := "0457db720d3ee393a92c2f7a7b79416858860df9c30a69a5edd6c598d72b1d20", func := "tandem/tandemlaw21.RenameDoes", spec := "renameDoes", inPlace := ["slices.overlaps[int]"], apart := false, narrowed := true }
def RenameDoesUptoSaid : Prop := renameDoesUptoRow.holds Try.pinned (OpenSpec.upto renameDoesSpec)

/-- 'tandemlaw21.RenameKeeps', WHERE WHAT IT READS IS OF BULK AT MOST 1048576: true; the input reads as it did. -/
def renameKeepsUptoRow : OpenClaim := { program := "ytkpbkanbpjfadaa", sum := "0457db720d3ee393a92c2f7a7b79416858860df9c30a69a5edd6c598d72b1d20", func := "tandem/tandemlaw21.RenameKeeps", spec := "renameKeeps", inPlace := ["slices.overlaps[int]"], apart := false, narrowed := true }
def RenameKeepsUptoSaid : Prop := renameKeepsUptoRow.holds Try.pinned (OpenSpec.upto renameKeepsSpec)

/-- 'tandemlaw21.RenameReads', WHERE WHAT IT READS IS OF BULK AT MOST 1048576: true; the input reads as it did. -/
def renameReadsUptoRow : OpenClaim := { program := "ytkpbkanbpjfadaa", sum := "0457db720d3ee393a92c2f7a7b79416858860df9c30a69a5edd6c598d72b1d20", func := "tandem/tandemlaw21.RenameReads", spec := "renameReads", inPlace := ["slices.overlaps[int]"], apart := false, narrowed := true }
def RenameReadsUptoSaid : Prop := renameReadsUptoRow.holds Try.pinned (OpenSpec.upto renameReadsSpec)

/-- 'tandemlaw21.RenameBack', WHERE WHAT IT READS IS OF BULK AT MOST 1048576: true; the input reads as it did. -/
def renameBackUptoRow : OpenClaim := { program := "ytkpbkanbpjfadaa", sum := "0457db720d3ee393a92c2f7a7b79416858860df9c30a69a5edd6c598d72b1d20", func := "tandem/tandemlaw21.RenameBack", spec := "renameBack", inPlace := ["slices.overlaps[int]"], apart := false, narrowed := true }
def RenameBackUptoSaid : Prop := renameBackUptoRow.holds Try.pinned (OpenSpec.upto renameBackSpec)

/-- 'tandemlaw21.RenameRoom', WHERE WHAT IT READS IS OF BULK AT MOST 1048576: true; the input reads as it did. -/
def renameRoomUptoRow : OpenClaim := { program := "ytkpbkanbpjfadaa", sum := "0457db720d3ee393a92c2f7a7b79416858860df9c30a69a5edd6c598d72b1d20", func := "tandem/tandemlaw21.RenameRoom", spec := "renameRoom", inPlace := ["slices.overlaps[int]"], apart := false, narrowed := true }
def RenameRoomUptoSaid : Prop := renameRoomUptoRow.holds Try.pinned (OpenSpec.upto renameRoomSpec)

end Rows
end Go.Proofs.Ytkpbkanbpjfadaa
