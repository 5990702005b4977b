/-
  No cell of these rows narrows 'for every input' (looked for: loops, veiled, ifaces, maps, wideKeys, modest, calm, conditions, laid).
  DERIVED. THE GIVEN ROWS OF THIS SEAT. 4 by the template 'for every input the law returns true; each argument reads behind the call as it read before'; 0 by the template 'total and deterministic' (their statements: YtiabiimoalkmjaaTotals.lean).
  GIVEN WITH THE SEED: the statements are not yours to turn. If you find one false, say at which input.
  Laid BY PROGRAM, IN A SANDBOX (cutbox-rows.mjs): the forced cells as the released guide's own fill.sh prints them over the translation 141b220312c9b054… (all of the seat's roots in one cut). By AI agents, Wed Nov 11 2026. No macro, syntax, notation, axiom, sorry.
-/
import Derived.Test.YtiabiimoalkmjaaChecked
import GoSem.Claim
import GoSem.ClaimJoined
import GoSem.ClaimMapViews
import Derived.JoinedTies
import Derived.KernelRfl
namespace Go.Proofs.Ytiabiimoalkmjaa
/- THE CELL 'sum', in the pinned program and in every row, IS THE sha256 OF THE DUMP (.gsa) THAT YtiabiimoalkmjaaProg.lean LOADS. Nothing in Lean hashes anything: it is a label: what it is worth is what the hold of that sum in a sandbox is worth. -/
noncomputable def Try.pinned : Pinned := { name := "ytiabiimoalkmjaa", sum := "141b220312c9b054a69a6a2cbed721133e30c91d108eef4986d0ed9f52cd5228", checked := Try.checked }
namespace Rows
def none {H : Type} : Left H := { results := [], args := [] }

/-- 'tandemlaw10.BusDoes': WHATEVER THE INPUT: true; the input reads as it did. -/
def busDoesSpec : ChangeSpec := { name := "busDoes", fn := fun _ => fun
  | [d1, d2, d3] => { results := [.lit (.bool true)], args := [d1, d2, d3] }
  | _ => none }
def busDoesRow : OpenClaim := { program := "ytiabiimoalkmjaa", sum := "141b220312c9b054a69a6a2cbed721133e30c91d108eef4986d0ed9f52cd5228", func := "tandem/tandemlaw10.BusDoes", spec := "busDoes", unfollowed := true, recurses := true, plainKeys := false, apart := false }
def BusDoesSaid : Prop := busDoesRow.holds Try.pinned (OpenSpec.ofChange busDoesSpec)

/-- ITS FALSE NEIGHBOUR: 'it returns false'. Refute it at one input. -/
def busDoesWrong : ChangeSpec := { name := "busDoes", fn := fun _ => fun
  | [d1, d2, d3] => { results := [.lit (.bool false)], args := [d1, d2, d3] }
  | _ => none }
def BusDoesWrongFalsely : Prop := busDoesRow.holds Try.pinned (OpenSpec.ofChange busDoesWrong)

/-- 'tandemlaw10.BusInputs': WHATEVER THE INPUT: true; the input reads as it did. -/
def busInputsSpec : ChangeSpec := { name := "busInputs", fn := fun _ => fun
  | [d1, d2] => { results := [.lit (.bool true)], args := [d1, d2] }
  | _ => none }
def busInputsRow : OpenClaim := { program := "ytiabiimoalkmjaa", sum := "141b220312c9b054a69a6a2cbed721133e30c91d108eef4986d0ed9f52cd5228", func := "tandem/tandemlaw10.BusInputs", spec := "busInputs", unfollowed := true, recurses := true, plainKeys := false, apart := false }
def BusInputsSaid : Prop := busInputsRow.holds Try.pinned (OpenSpec.ofChange busInputsSpec)

/-- ITS FALSE NEIGHBOUR: 'it returns false'. Refute it at one input. -/
def busInputsWrong : ChangeSpec := { name := "busInputs", fn := fun _ => fun
  | [d1, d2] => { results := [.lit (.bool false)], args := [d1, d2] }
  | _ => none }
def BusInputsWrongFalsely : Prop := busInputsRow.holds Try.pinned (OpenSpec.ofChange busInputsWrong)

/-- 'tandemlaw10.BusMay': WHATEVER THE INPUT: true; the input reads as it did. -/
def busMaySpec : ChangeSpec := { name := "busMay", fn := fun _ => fun
  | [d1, d2, d3, d4] => { results := [.lit (.bool true)], args := [d1, d2, d3, d4] }
  | _ => none }
def busMayRow : OpenClaim := { program := "ytiabiimoalkmjaa", sum := "141b220312c9b054a69a6a2cbed721133e30c91d108eef4986d0ed9f52cd5228", func := "tandem/tandemlaw10.BusMay", spec := "busMay", unfollowed := true, recurses := true, plainKeys := false, apart := false }
def BusMaySaid : Prop := busMayRow.holds Try.pinned (OpenSpec.ofChange busMaySpec)

/-- ITS FALSE NEIGHBOUR: 'it returns false'. Refute it at one input. -/
def busMayWrong : ChangeSpec := { name := "busMay", fn := fun _ => fun
  | [d1, d2, d3, d4] => { results := [.lit (.bool false)], args := [d1, d2, d3, d4] }
  | _ => none }
def BusMayWrongFalsely : Prop := busMayRow.holds Try.pinned (OpenSpec.ofChange busMayWrong)

/-- 'tandemlaw10.BusTimes': WHATEVER THE INPUT: true; the input reads as it did. -/
def busTimesSpec : ChangeSpec := { name := "busTimes", fn := fun _ => fun
  | [d1, d2, d3] => { results := [.lit (.bool true)], args := [d1, d2, d3] }
  | _ => none }
def busTimesRow : OpenClaim := { program := "ytiabiimoalkmjaa", sum := "141b220312c9b054a69a6a2cbed721133e30c91d108eef4986d0ed9f52cd5228", func := "tandem/tandemlaw10.BusTimes", spec := "busTimes", unfollowed := true, recurses := true, plainKeys := false, apart := false }
def BusTimesSaid : Prop := busTimesRow.holds Try.pinned (OpenSpec.ofChange busTimesSpec)

/-- ITS FALSE NEIGHBOUR: 'it returns false'. Refute it at one input. -/
def busTimesWrong : ChangeSpec := { name := "busTimes", fn := fun _ => fun
  | [d1, d2, d3] => { results := [.lit (.bool false)], args := [d1, d2, d3] }
  | _ => none }
def BusTimesWrongFalsely : Prop := busTimesRow.holds Try.pinned (OpenSpec.ofChange busTimesWrong)

/- THE SECOND FORM. 'bulk': how many values and letters a reading holds, each counted each time it is reached (what is shared counts as often as it is met; a slice's spare places count too). A statement '..UptoSaid' is the law's where the arguments, and the package variables that the reading takes, are together of bulk at most 1048576: NARROWER than '..Said'. Prove '..Said' where nothing that the law and all that it calls make is longer than what came in: it says more and counts as full. Else prove '..UptoSaid'. A law counts once. -/
mutual
def uptoBulk {H : Type} : DataW H → Nat
  | .lit (.string bytes) => bytes.length + 1
  | .lit _ => 1
  | .nil => 1
  | .ptr d => uptoBulk d + 1
  | .slice elems spare => uptoBulkAll elems + uptoBulkAll spare + 1
  | .agg parts => uptoBulkAll parts + 1
  | .iface _ d => uptoBulk d + 1
  | .map entries => uptoBulkEntries entries + 1
  | .held _ => 1
def uptoBulkAll {H : Type} : List (DataW H) → Nat
  | [] => 0
  | d :: r => uptoBulk d + uptoBulkAll r
def uptoBulkEntries {H : Type} : List (Lit × DataW H) → Nat
  | [] => 0
  | x :: r => uptoBulkEntry x + uptoBulkEntries r
def uptoBulkEntry {H : Type} : Lit × DataW H → Nat
  | (.string bytes, d) => bytes.length + uptoBulk d + 1
  | (_, d) => uptoBulk d + 1
 end
def uptoSmall : (H : Type) → List (DataW H) → Bool := fun _ ds => decide (uptoBulkAll ds ≤ 1048576)
def OpenSpec.upto (s : _root_.Go.ChangeSpec) : _root_.Go.OpenSpec := { _root_.Go.OpenSpec.ofChange s with cond := some uptoSmall }

/-- 'tandemlaw10.BusDoes', WHERE WHAT IT READS IS OF BULK AT MOST 1048576: true; the input reads as it did. -/
def busDoesUptoRow : OpenClaim := { program := "ytiabiimoalkmjaa", sum := "141b220312c9b054a69a6a2cbed721133e30c91d108eef4986d0ed9f52cd5228", func := "tandem/tandemlaw10.BusDoes", spec := "busDoes", unfollowed := true, recurses := true, plainKeys := false, apart := false, narrowed := true }
def BusDoesUptoSaid : Prop := busDoesUptoRow.holds Try.pinned (OpenSpec.upto busDoesSpec)

/-- 'tandemlaw10.BusInputs', WHERE WHAT IT READS IS OF BULK AT MOST 1048576: true; the input reads as it did. -/
def busInputsUptoRow : OpenClaim := { program := "ytiabiimoalkmjaa", sum := "141b220312c9b054a69a6a2cbed721133e30c91d108eef4986d0ed9f52cd5228", func := "tandem/tandemlaw10.BusInputs", spec := "busInputs", unfollowed := true, recurses := true, plainKeys := false, apart := false, narrowed := true }
def BusInputsUptoSaid : Prop := busInputsUptoRow.holds Try.pinned (OpenSpec.upto busInputsSpec)

/-- 'tandemlaw10.BusMay', WHERE WHAT IT READS IS OF BULK AT MOST 1048576: true; the input reads as it did. -/
def busMayUptoRow : OpenClaim := { program := "ytiabiimoalkmjaa", sum := "141b220312c9b054a69a6a2cbed721133e30c91d108eef4986d0ed9f52cd5228", func := "tandem/tandemlaw10.BusMay", spec := "busMay", unfollowed := true, recurses := true, plainKeys := false, apart := false, narrowed := true }
def BusMayUptoSaid : Prop := busMayUptoRow.holds Try.pinned (OpenSpec.upto busMaySpec)

/-- 'tandemlaw10.BusTimes', WHERE WHAT IT READS IS OF BULK AT MOST 1048576: true; the input reads as it did. -/
def busTimesUptoRow : OpenClaim := { program := "ytiabiimoalkmjaa", sum := "141b220312c9b054a69a6a2cbed721133e30c91d108eef4986d0ed9f52cd5228", func := "tandem/tandemlaw10.BusTimes", spec := "busTimes", unfollowed := true, recurses := true, plainKeys := false, apart := false, narrowed := true }
def BusTimesUptoSaid : Prop := busTimesUptoRow.holds Try.pinned (OpenSpec.upto busTimesSpec)

end Rows
end Go.Proofs.Ytiabiimoalkmjaa
