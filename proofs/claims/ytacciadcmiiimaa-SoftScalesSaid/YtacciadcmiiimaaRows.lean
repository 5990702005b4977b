/-
  No cell of these rows narrows 'for every input' (looked for: loops, veiled, ifaces, maps, wideKeys, modest, calm, conditions, laid).
  DERIVED. THE GIVEN ROWS OF THIS SEAT. 17 by the template 'for every input the law returns true; each argument reads behind the call as it read before'; 0 by the template 'total and deterministic' (their statements: YtacciadcmiiimaaTotals.lean).
  GIVEN WITH THE SEED: the statements are not yours to turn. If you find one false, say at which input.
  Laid BY PROGRAM, IN A SANDBOX (cutbox-rows.mjs): the forced cells as the released guide's own fill.sh prints them over the translation 61a274a069803191… (all of the seat's roots in one cut). By AI agents, Wed Nov 11 2026. No macro, syntax, notation, axiom, sorry.
-/
import Derived.Test.YtacciadcmiiimaaChecked
import GoSem.Claim
import GoSem.ClaimJoined
import GoSem.ClaimMapViews
import Derived.JoinedTies
import Derived.KernelRfl
namespace Go.Proofs.Ytacciadcmiiimaa
/- THE CELL 'sum', in the pinned program and in every row, IS THE sha256 OF THE DUMP (.gsa) THAT YtacciadcmiiimaaProg.lean LOADS. Nothing in Lean hashes anything: it is a label: what it is worth is what the hold of that sum in a sandbox is worth. -/
noncomputable def Try.pinned : Pinned := { name := "ytacciadcmiiimaa", sum := "61a274a069803191b29da860f293e61263030d5de445b3996eea898eed14a71c", checked := Try.checked }
namespace Rows
def none {H : Type} : Left H := { results := [], args := [] }

/-- 'tandemlaw02.ConvBoxes': WHATEVER THE INPUT: true; the input reads as it did. -/
def convBoxesSpec : ChangeSpec := { name := "convBoxes", fn := fun _ => fun
  | [d] => { results := [.lit (.bool true)], args := [d] }
  | _ => none }
def convBoxesRow : OpenClaim := { program := "ytacciadcmiiimaa", sum := "61a274a069803191b29da860f293e61263030d5de445b3996eea898eed14a71c", func := "tandem/tandemlaw02.ConvBoxes", spec := "convBoxes", unfollowed := true, recurses := true, apart := false }
def ConvBoxesSaid : Prop := convBoxesRow.holds Try.pinned (OpenSpec.ofChange convBoxesSpec)

/-- ITS FALSE NEIGHBOUR: 'it returns false'. Refute it at one input. -/
def convBoxesWrong : ChangeSpec := { name := "convBoxes", fn := fun _ => fun
  | [d] => { results := [.lit (.bool false)], args := [d] }
  | _ => none }
def ConvBoxesWrongFalsely : Prop := convBoxesRow.holds Try.pinned (OpenSpec.ofChange convBoxesWrong)

/-- 'tandemlaw02.ConvInts': WHATEVER THE INPUT: true; the input reads as it did. -/
def convIntsSpec : ChangeSpec := { name := "convInts", fn := fun _ => fun
  | [d1, d2, d3, d4, d5] => { results := [.lit (.bool true)], args := [d1, d2, d3, d4, d5] }
  | _ => none }
def convIntsRow : OpenClaim := { program := "ytacciadcmiiimaa", sum := "61a274a069803191b29da860f293e61263030d5de445b3996eea898eed14a71c", func := "tandem/tandemlaw02.ConvInts", spec := "convInts", unfollowed := true, recurses := true, apart := false }
def ConvIntsSaid : Prop := convIntsRow.holds Try.pinned (OpenSpec.ofChange convIntsSpec)

/-- ITS FALSE NEIGHBOUR: 'it returns false'. Refute it at one input. -/
def convIntsWrong : ChangeSpec := { name := "convInts", fn := fun _ => fun
  | [d1, d2, d3, d4, d5] => { results := [.lit (.bool false)], args := [d1, d2, d3, d4, d5] }
  | _ => none }
def ConvIntsWrongFalsely : Prop := convIntsRow.holds Try.pinned (OpenSpec.ofChange convIntsWrong)

/-- 'tandemlaw02.ConvFloats': WHATEVER THE INPUT: true; the input reads as it did. -/
def convFloatsSpec : ChangeSpec := { name := "convFloats", fn := fun _ => fun
  | [d1, d2, d3] => { results := [.lit (.bool true)], args := [d1, d2, d3] }
  | _ => none }
def convFloatsRow : OpenClaim := { program := "ytacciadcmiiimaa", sum := "61a274a069803191b29da860f293e61263030d5de445b3996eea898eed14a71c", func := "tandem/tandemlaw02.ConvFloats", spec := "convFloats", unfollowed := true, recurses := true, apart := false }
def ConvFloatsSaid : Prop := convFloatsRow.holds Try.pinned (OpenSpec.ofChange convFloatsSpec)

/-- ITS FALSE NEIGHBOUR: 'it returns false'. Refute it at one input. -/
def convFloatsWrong : ChangeSpec := { name := "convFloats", fn := fun _ => fun
  | [d1, d2, d3] => { results := [.lit (.bool false)], args := [d1, d2, d3] }
  | _ => none }
def ConvFloatsWrongFalsely : Prop := convFloatsRow.holds Try.pinned (OpenSpec.ofChange convFloatsWrong)

/-- 'tandemlaw02.ConvSigns': WHATEVER THE INPUT: true; the input reads as it did. -/
def convSignsSpec : ChangeSpec := { name := "convSigns", fn := fun _ => fun
  | [d1, d2, d3, d4] => { results := [.lit (.bool true)], args := [d1, d2, d3, d4] }
  | _ => none }
def convSignsRow : OpenClaim := { program := "ytacciadcmiiimaa", sum := "61a274a069803191b29da860f293e61263030d5de445b3996eea898eed14a71c", func := "tandem/tandemlaw02.ConvSigns", spec := "convSigns", unfollowed := true, recurses := true, apart := false }
def ConvSignsSaid : Prop := convSignsRow.holds Try.pinned (OpenSpec.ofChange convSignsSpec)

/-- ITS FALSE NEIGHBOUR: 'it returns false'. Refute it at one input. -/
def convSignsWrong : ChangeSpec := { name := "convSigns", fn := fun _ => fun
  | [d1, d2, d3, d4] => { results := [.lit (.bool false)], args := [d1, d2, d3, d4] }
  | _ => none }
def ConvSignsWrongFalsely : Prop := convSignsRow.holds Try.pinned (OpenSpec.ofChange convSignsWrong)

/-- 'tandemlaw02.ConvPicks': WHATEVER THE INPUT: true; the input reads as it did. -/
def convPicksSpec : ChangeSpec := { name := "convPicks", fn := fun _ => fun
  | [d1, d2, d3, d4] => { results := [.lit (.bool true)], args := [d1, d2, d3, d4] }
  | _ => none }
def convPicksRow : OpenClaim := { program := "ytacciadcmiiimaa", sum := "61a274a069803191b29da860f293e61263030d5de445b3996eea898eed14a71c", func := "tandem/tandemlaw02.ConvPicks", spec := "convPicks", unfollowed := true, recurses := true, apart := false }
def ConvPicksSaid : Prop := convPicksRow.holds Try.pinned (OpenSpec.ofChange convPicksSpec)

/-- ITS FALSE NEIGHBOUR: 'it returns false'. Refute it at one input. -/
def convPicksWrong : ChangeSpec := { name := "convPicks", fn := fun _ => fun
  | [d1, d2, d3, d4] => { results := [.lit (.bool false)], args := [d1, d2, d3, d4] }
  | _ => none }
def ConvPicksWrongFalsely : Prop := convPicksRow.holds Try.pinned (OpenSpec.ofChange convPicksWrong)

/-- 'tandemlaw02.ConvBack': WHATEVER THE INPUT: true; the input reads as it did. -/
def convBackSpec : ChangeSpec := { name := "convBack", fn := fun _ => fun
  | [d1, d2, d3, d4, d5] => { results := [.lit (.bool true)], args := [d1, d2, d3, d4, d5] }
  | _ => none }
def convBackRow : OpenClaim := { program := "ytacciadcmiiimaa", sum := "61a274a069803191b29da860f293e61263030d5de445b3996eea898eed14a71c", func := "tandem/tandemlaw02.ConvBack", spec := "convBack", unfollowed := true, recurses := true, apart := false }
def ConvBackSaid : Prop := convBackRow.holds Try.pinned (OpenSpec.ofChange convBackSpec)

/-- ITS FALSE NEIGHBOUR: 'it returns false'. Refute it at one input. -/
def convBackWrong : ChangeSpec := { name := "convBack", fn := fun _ => fun
  | [d1, d2, d3, d4, d5] => { results := [.lit (.bool false)], args := [d1, d2, d3, d4, d5] }
  | _ => none }
def ConvBackWrongFalsely : Prop := convBackRow.holds Try.pinned (OpenSpec.ofChange convBackWrong)

/-- 'tandemlaw02.ConvOrders': WHATEVER THE INPUT: true; the input reads as it did. -/
def convOrdersSpec : ChangeSpec := { name := "convOrders", fn := fun _ => fun
  | [d1, d2, d3] => { results := [.lit (.bool true)], args := [d1, d2, d3] }
  | _ => none }
def convOrdersRow : OpenClaim := { program := "ytacciadcmiiimaa", sum := "61a274a069803191b29da860f293e61263030d5de445b3996eea898eed14a71c", func := "tandem/tandemlaw02.ConvOrders", spec := "convOrders", unfollowed := true, recurses := true, apart := false }
def ConvOrdersSaid : Prop := convOrdersRow.holds Try.pinned (OpenSpec.ofChange convOrdersSpec)

/-- ITS FALSE NEIGHBOUR: 'it returns false'. Refute it at one input. -/
def convOrdersWrong : ChangeSpec := { name := "convOrders", fn := fun _ => fun
  | [d1, d2, d3] => { results := [.lit (.bool false)], args := [d1, d2, d3] }
  | _ => none }
def ConvOrdersWrongFalsely : Prop := convOrdersRow.holds Try.pinned (OpenSpec.ofChange convOrdersWrong)

/-- 'tandemlaw01.SoftMuls': WHATEVER THE INPUT: true; the input reads as it did. -/
def softMulsSpec : ChangeSpec := { name := "softMuls", fn := fun _ => fun
  | [d1, d2, d3, d4] => { results := [.lit (.bool true)], args := [d1, d2, d3, d4] }
  | _ => none }
def softMulsRow : OpenClaim := { program := "ytacciadcmiiimaa", sum := "61a274a069803191b29da860f293e61263030d5de445b3996eea898eed14a71c", func := "tandem/tandemlaw01.SoftMuls", spec := "softMuls", inPlace := ["math/bits.Add64", "math/bits.Sub64"], named := ["math/bits.divideError", "math/bits.overflowError"], apart := false }
def SoftMulsSaid : Prop := softMulsRow.holds Try.pinned (OpenSpec.ofChange softMulsSpec)

/-- ITS FALSE NEIGHBOUR: 'it returns false'. Refute it at one input. -/
def softMulsWrong : ChangeSpec := { name := "softMuls", fn := fun _ => fun
  | [d1, d2, d3, d4] => { results := [.lit (.bool false)], args := [d1, d2, d3, d4] }
  | _ => none }
def SoftMulsWrongFalsely : Prop := softMulsRow.holds Try.pinned (OpenSpec.ofChange softMulsWrong)

/-- 'tandemlaw01.SoftDivs': WHATEVER THE INPUT: true; the input reads as it did. -/
def softDivsSpec : ChangeSpec := { name := "softDivs", fn := fun _ => fun
  | [d1, d2, d3, d4] => { results := [.lit (.bool true)], args := [d1, d2, d3, d4] }
  | _ => none }
def softDivsRow : OpenClaim := { program := "ytacciadcmiiimaa", sum := "61a274a069803191b29da860f293e61263030d5de445b3996eea898eed14a71c", func := "tandem/tandemlaw01.SoftDivs", spec := "softDivs", inPlace := ["math/bits.Add64", "math/bits.Sub64"], named := ["math/bits.divideError", "math/bits.overflowError"], apart := false }
def SoftDivsSaid : Prop := softDivsRow.holds Try.pinned (OpenSpec.ofChange softDivsSpec)

/-- ITS FALSE NEIGHBOUR: 'it returns false'. Refute it at one input. -/
def softDivsWrong : ChangeSpec := { name := "softDivs", fn := fun _ => fun
  | [d1, d2, d3, d4] => { results := [.lit (.bool false)], args := [d1, d2, d3, d4] }
  | _ => none }
def SoftDivsWrongFalsely : Prop := softDivsRow.holds Try.pinned (OpenSpec.ofChange softDivsWrong)

/-- 'tandemlaw01.SoftRoots': WHATEVER THE INPUT: true; the input reads as it did. -/
def softRootsSpec : ChangeSpec := { name := "softRoots", fn := fun _ => fun
  | [d1, d2, d3] => { results := [.lit (.bool true)], args := [d1, d2, d3] }
  | _ => none }
def softRootsRow : OpenClaim := { program := "ytacciadcmiiimaa", sum := "61a274a069803191b29da860f293e61263030d5de445b3996eea898eed14a71c", func := "tandem/tandemlaw01.SoftRoots", spec := "softRoots", inPlace := ["math/bits.Add64", "math/bits.Sub64"], named := ["math/bits.divideError", "math/bits.overflowError"], apart := false }
def SoftRootsSaid : Prop := softRootsRow.holds Try.pinned (OpenSpec.ofChange softRootsSpec)

/-- ITS FALSE NEIGHBOUR: 'it returns false'. Refute it at one input. -/
def softRootsWrong : ChangeSpec := { name := "softRoots", fn := fun _ => fun
  | [d1, d2, d3] => { results := [.lit (.bool false)], args := [d1, d2, d3] }
  | _ => none }
def SoftRootsWrongFalsely : Prop := softRootsRow.holds Try.pinned (OpenSpec.ofChange softRootsWrong)

/-- 'tandemlaw01.SoftFmas': WHATEVER THE INPUT: true; the input reads as it did. -/
def softFmasSpec : ChangeSpec := { name := "softFmas", fn := fun _ => fun
  | [d1, d2, d3, d4, d5] => { results := [.lit (.bool true)], args := [d1, d2, d3, d4, d5] }
  | _ => none }
def softFmasRow : OpenClaim := { program := "ytacciadcmiiimaa", sum := "61a274a069803191b29da860f293e61263030d5de445b3996eea898eed14a71c", func := "tandem/tandemlaw01.SoftFmas", spec := "softFmas", inPlace := ["math/bits.Add64", "math/bits.Sub64"], named := ["math/bits.divideError", "math/bits.overflowError"], apart := false }
def SoftFmasSaid : Prop := softFmasRow.holds Try.pinned (OpenSpec.ofChange softFmasSpec)

/-- ITS FALSE NEIGHBOUR: 'it returns false'. Refute it at one input. -/
def softFmasWrong : ChangeSpec := { name := "softFmas", fn := fun _ => fun
  | [d1, d2, d3, d4, d5] => { results := [.lit (.bool false)], args := [d1, d2, d3, d4, d5] }
  | _ => none }
def SoftFmasWrongFalsely : Prop := softFmasRow.holds Try.pinned (OpenSpec.ofChange softFmasWrong)

/-- 'tandemlaw01.SoftModes': WHATEVER THE INPUT: true; the input reads as it did. -/
def softModesSpec : ChangeSpec := { name := "softModes", fn := fun _ => fun
  | [d1, d2, d3, d4, d5] => { results := [.lit (.bool true)], args := [d1, d2, d3, d4, d5] }
  | _ => none }
def softModesRow : OpenClaim := { program := "ytacciadcmiiimaa", sum := "61a274a069803191b29da860f293e61263030d5de445b3996eea898eed14a71c", func := "tandem/tandemlaw01.SoftModes", spec := "softModes", inPlace := ["math/bits.Add64", "math/bits.Sub64"], named := ["math/bits.divideError", "math/bits.overflowError"], apart := false }
def SoftModesSaid : Prop := softModesRow.holds Try.pinned (OpenSpec.ofChange softModesSpec)

/-- ITS FALSE NEIGHBOUR: 'it returns false'. Refute it at one input. -/
def softModesWrong : ChangeSpec := { name := "softModes", fn := fun _ => fun
  | [d1, d2, d3, d4, d5] => { results := [.lit (.bool false)], args := [d1, d2, d3, d4, d5] }
  | _ => none }
def SoftModesWrongFalsely : Prop := softModesRow.holds Try.pinned (OpenSpec.ofChange softModesWrong)

/-- 'tandemlaw01.SoftFits': WHATEVER THE INPUT: true; the input reads as it did. -/
def softFitsSpec : ChangeSpec := { name := "softFits", fn := fun _ => fun
  | [d1, d2, d3, d4] => { results := [.lit (.bool true)], args := [d1, d2, d3, d4] }
  | _ => none }
def softFitsRow : OpenClaim := { program := "ytacciadcmiiimaa", sum := "61a274a069803191b29da860f293e61263030d5de445b3996eea898eed14a71c", func := "tandem/tandemlaw01.SoftFits", spec := "softFits", inPlace := ["math/bits.Add64", "math/bits.Sub64"], named := ["math/bits.divideError", "math/bits.overflowError"], apart := false }
def SoftFitsSaid : Prop := softFitsRow.holds Try.pinned (OpenSpec.ofChange softFitsSpec)

/-- ITS FALSE NEIGHBOUR: 'it returns false'. Refute it at one input. -/
def softFitsWrong : ChangeSpec := { name := "softFits", fn := fun _ => fun
  | [d1, d2, d3, d4] => { results := [.lit (.bool false)], args := [d1, d2, d3, d4] }
  | _ => none }
def SoftFitsWrongFalsely : Prop := softFitsRow.holds Try.pinned (OpenSpec.ofChange softFitsWrong)

/-- 'tandemlaw01.SoftScales': WHATEVER THE INPUT: true; the input reads as it did. -/
def softScalesSpec : ChangeSpec := { name := "softScales", fn := fun _ => fun
  | [d1, d2, d3, d4, d5] => { results := [.lit (.bool true)], args := [d1, d2, d3, d4, d5] }
  | _ => none }
def softScalesRow : OpenClaim := { program := "ytacciadcmiiimaa", sum := "61a274a069803191b29da860f293e61263030d5de445b3996eea898eed14a71c", func := "tandem/tandemlaw01.SoftScales", spec := "softScales", inPlace := ["math/bits.Add64", "math/bits.Sub64"], named := ["math/bits.divideError", "math/bits.overflowError"], apart := false }
def SoftScalesSaid : Prop := softScalesRow.holds Try.pinned (OpenSpec.ofChange softScalesSpec)

/-- ITS FALSE NEIGHBOUR: 'it returns false'. Refute it at one input. -/
def softScalesWrong : ChangeSpec := { name := "softScales", fn := fun _ => fun
  | [d1, d2, d3, d4, d5] => { results := [.lit (.bool false)], args := [d1, d2, d3, d4, d5] }
  | _ => none }
def SoftScalesWrongFalsely : Prop := softScalesRow.holds Try.pinned (OpenSpec.ofChange softScalesWrong)

/-- 'tandemlaw01.SoftAdds': WHATEVER THE INPUT: true; the input reads as it did. -/
def softAddsSpec : ChangeSpec := { name := "softAdds", fn := fun _ => fun
  | [d1, d2, d3, d4] => { results := [.lit (.bool true)], args := [d1, d2, d3, d4] }
  | _ => none }
def softAddsRow : OpenClaim := { program := "ytacciadcmiiimaa", sum := "61a274a069803191b29da860f293e61263030d5de445b3996eea898eed14a71c", func := "tandem/tandemlaw01.SoftAdds", spec := "softAdds", inPlace := ["math/bits.Add64", "math/bits.Sub64"], named := ["math/bits.divideError", "math/bits.overflowError"], apart := false }
def SoftAddsSaid : Prop := softAddsRow.holds Try.pinned (OpenSpec.ofChange softAddsSpec)

/-- ITS FALSE NEIGHBOUR: 'it returns false'. Refute it at one input. -/
def softAddsWrong : ChangeSpec := { name := "softAdds", fn := fun _ => fun
  | [d1, d2, d3, d4] => { results := [.lit (.bool false)], args := [d1, d2, d3, d4] }
  | _ => none }
def SoftAddsWrongFalsely : Prop := softAddsRow.holds Try.pinned (OpenSpec.ofChange softAddsWrong)

/-- 'tandemlaw01.SoftBack': WHATEVER THE INPUT: true; the input reads as it did. -/
def softBackSpec : ChangeSpec := { name := "softBack", fn := fun _ => fun
  | [d1, d2, d3, d4] => { results := [.lit (.bool true)], args := [d1, d2, d3, d4] }
  | _ => none }
def softBackRow : OpenClaim := { program := "ytacciadcmiiimaa", sum := "61a274a069803191b29da860f293e61263030d5de445b3996eea898eed14a71c", func := "tandem/tandemlaw01.SoftBack", spec := "softBack", inPlace := ["math/bits.Add64", "math/bits.Sub64"], named := ["math/bits.divideError", "math/bits.overflowError"], apart := false }
def SoftBackSaid : Prop := softBackRow.holds Try.pinned (OpenSpec.ofChange softBackSpec)

/-- ITS FALSE NEIGHBOUR: 'it returns false'. Refute it at one input. -/
def softBackWrong : ChangeSpec := { name := "softBack", fn := fun _ => fun
  | [d1, d2, d3, d4] => { results := [.lit (.bool false)], args := [d1, d2, d3, d4] }
  | _ => none }
def SoftBackWrongFalsely : Prop := softBackRow.holds Try.pinned (OpenSpec.ofChange softBackWrong)

/-- 'tandemlaw02.ConvSums': WHATEVER THE INPUT: true; the input reads as it did. -/
def convSumsSpec : ChangeSpec := { name := "convSums", fn := fun _ => fun
  | [d1, d2, d3, d4] => { results := [.lit (.bool true)], args := [d1, d2, d3, d4] }
  | _ => none }
def convSumsRow : OpenClaim := { program := "ytacciadcmiiimaa", sum := "61a274a069803191b29da860f293e61263030d5de445b3996eea898eed14a71c", func := "tandem/tandemlaw02.ConvSums", spec := "convSums", inPlace := ["math/bits.Add64", "math/bits.Sub64"], unfollowed := true, recurses := true, apart := false }
def ConvSumsSaid : Prop := convSumsRow.holds Try.pinned (OpenSpec.ofChange convSumsSpec)

/-- ITS FALSE NEIGHBOUR: 'it returns false'. Refute it at one input. -/
def convSumsWrong : ChangeSpec := { name := "convSums", fn := fun _ => fun
  | [d1, d2, d3, d4] => { results := [.lit (.bool false)], args := [d1, d2, d3, d4] }
  | _ => none }
def ConvSumsWrongFalsely : Prop := convSumsRow.holds Try.pinned (OpenSpec.ofChange convSumsWrong)

/- THE SECOND FORM. 'bulk': how many values and letters a reading holds, each counted each time it is reached (what is shared counts as often as it is met; a slice's spare places count too). A statement '..UptoSaid' is the law's where the arguments, and the package variables that the reading takes, are together of bulk at most 1048576: NARROWER than '..Said'. Prove '..Said' where nothing that the law and all that it calls make is longer than what came in: it says more and counts as full. Else prove '..UptoSaid'. A law counts once. -/
mutual
def uptoBulk {H : Type} : DataW H → Nat
  | .lit (.string bytes) => bytes.length + 1
  | .lit _ => 1
  | .nil => 1
  | .ptr d => uptoBulk d + 1
  | .slice elems spare => uptoBulkAll elems + uptoBulkAll spare + 1
  | .agg parts => uptoBulkAll parts + 1
  | .iface _ d => uptoBulk d + 1
  | .map entries => uptoBulkEntries entries + 1
  | .held _ => 1
def uptoBulkAll {H : Type} : List (DataW H) → Nat
  | [] => 0
  | d :: r => uptoBulk d + uptoBulkAll r
def uptoBulkEntries {H : Type} : List (Lit × DataW H) → Nat
  | [] => 0
  | x :: r => uptoBulkEntry x + uptoBulkEntries r
def uptoBulkEntry {H : Type} : Lit × DataW H → Nat
  | (.string bytes, d) => bytes.length + uptoBulk d + 1
  | (_, d) => uptoBulk d + 1
 end
def uptoSmall : (H : Type) → List (DataW H) → Bool := fun _ ds => decide (uptoBulkAll ds ≤ 1048576)
def OpenSpec.upto (s : _root_.Go.ChangeSpec) : _root_.Go.OpenSpec := { _root_.Go.OpenSpec.ofChange s with cond := some uptoSmall }

/-- 'tandemlaw02.ConvBoxes', WHERE WHAT IT READS IS OF BULK AT MOST 1048576: true; the input reads as it did. -/
def convBoxesUptoRow : OpenClaim := { program := "ytacciadcmiiimaa", sum := "61a274a069803191b29da860f293e61263030d5de445b3996eea898eed14a71c", func := "tandem/tandemlaw02.ConvBoxes", spec := "convBoxes", unfollowed := true, recurses := true, apart := false, narrowed := true }
def ConvBoxesUptoSaid : Prop := convBoxesUptoRow.holds Try.pinned (OpenSpec.upto convBoxesSpec)

/-- 'tandemlaw02.ConvInts', WHERE WHAT IT READS IS OF BULK AT MOST 1048576: true; the input reads as it did. -/
def convIntsUptoRow : OpenClaim := { program := "ytacciadcmiiimaa", sum := "61a274a069803191b29da860f293e61263030d5de445b3996eea898eed14a71c", func := "tandem/tandemlaw02.ConvInts", spec := "convInts", unfollowed := true, recurses := true, apart := false, narrowed := true }
def ConvIntsUptoSaid : Prop := convIntsUptoRow.holds Try.pinned (OpenSpec.upto convIntsSpec)

/-- 'tandemlaw02.ConvFloats', WHERE WHAT IT READS IS OF BULK AT MOST 1048576: true; the input reads as it did. -/
def convFloatsUptoRow : OpenClaim := { program := "ytacciadcmiiimaa", sum := "61a274a069803191b29da860f293e61263030d5de445b3996eea898eed14a71c", func := "tandem/tandemlaw02.ConvFloats", spec := "convFloats", unfollowed := true, recurses := true, apart := false, narrowed := true }
def ConvFloatsUptoSaid : Prop := convFloatsUptoRow.holds Try.pinned (OpenSpec.upto convFloatsSpec)

/-- 'tandemlaw02.ConvSigns', WHERE WHAT IT READS IS OF BULK AT MOST 1048576: true; the input reads as it did. -/
def convSignsUptoRow : OpenClaim := { program := "ytacciadcmiiimaa", sum := "61a274a069803191b29da860f293e61263030d5de445b3996eea898eed14a71c", func := "tandem/tandemlaw02.ConvSigns", spec := "convSigns", unfollowed := true, recurses := true, apart := false, narrowed := true }
def ConvSignsUptoSaid : Prop := convSignsUptoRow.holds Try.pinned (OpenSpec.upto convSignsSpec)

/-- 'tandemlaw02.ConvPicks', WHERE WHAT IT READS IS OF BULK AT MOST 1048576: true; the input reads as it did. -/
def convPicksUptoRow : OpenClaim := { program := "ytacciadcmiiimaa", sum := "61a274a069803191b29da860f293e61263030d5de445b3996eea898eed14a71c", func := "tandem/tandemlaw02.ConvPicks", spec := "convPicks", unfollowed := true, recurses := true, apart := false, narrowed := true }
def ConvPicksUptoSaid : Prop := convPicksUptoRow.holds Try.pinned (OpenSpec.upto convPicksSpec)

/-- 'tandemlaw02.ConvBack', WHERE WHAT IT READS IS OF BULK AT MOST 1048576: true; the input reads as it did. -/
def convBackUptoRow : OpenClaim := { program := "ytacciadcmiiimaa", sum := "61a274a069803191b29da860f293e61263030d5de445b3996eea898eed14a71c", func := "tandem/tandemlaw02.ConvBack", spec := "convBack", unfollowed := true, recurses := true, apart := false, narrowed := true }
def ConvBackUptoSaid : Prop := convBackUptoRow.holds Try.pinned (OpenSpec.upto convBackSpec)

/-- 'tandemlaw02.ConvOrders', WHERE WHAT IT READS IS OF BULK AT MOST 1048576: true; the input reads as it did. -/
def convOrdersUptoRow : OpenClaim := { program := "ytacciadcmiiimaa", sum := "61a274a069803191b29da860f293e61263030d5de445b3996eea898eed14a71c", func := "tandem/tandemlaw02.ConvOrders", spec := "convOrders", unfollowed := true, recurses := true, apart := false, narrowed := true }
def ConvOrdersUptoSaid : Prop := convOrdersUptoRow.holds Try.pinned (OpenSpec.upto convOrdersSpec)

/-- 'tandemlaw01.SoftMuls', WHERE WHAT IT READS IS OF BULK AT MOST 1048576: true; the input reads as it did. -/
def softMulsUptoRow : OpenClaim := { program := "ytacciadcmiiimaa", sum := "61a274a069803191b29da860f293e61263030d5de445b3996eea898eed14a71c", func := "tandem/tandemlaw01.SoftMuls", spec := "softMuls", inPlace := ["math/bits.Add64", "math/bits.Sub64"], named := ["math/bits.divideError", "math/bits.overflowError"], apart := false, narrowed := true }
def SoftMulsUptoSaid : Prop := softMulsUptoRow.holds Try.pinned (OpenSpec.upto softMulsSpec)

/-- 'tandemlaw01.SoftDivs', WHERE WHAT IT READS IS OF BULK AT MOST 1048576: true; the input reads as it did. -/
def softDivsUptoRow : OpenClaim := { program := "ytacciadcmiiimaa", sum := "61a274a069803191b29da860f293e61263030d5de445b3996eea898eed14a71c", func := "tandem/tandemlaw01.SoftDivs", spec := "softDivs", inPlace := ["math/bits.Add64", "math/bits.Sub64"], named := ["math/bits.divideError", "math/bits.overflowError"], apart := false, narrowed := true }
def SoftDivsUptoSaid : Prop := softDivsUptoRow.holds Try.pinned (OpenSpec.upto softDivsSpec)

/-- 'tandemlaw01.SoftRoots', WHERE WHAT IT READS IS OF BULK AT MOST 1048576: true; the input reads as it did. -/
def softRootsUptoRow : OpenClaim := { program := "ytacciadcmiiimaa", sum := "61a274a069803191b29da860f293e61263030d5de445b3996eea898eed14a71c", func := "tandem/tandemlaw01.SoftRoots", spec := "softRoots", inPlace := ["math/bits.Add64", "math/bits.Sub64"], named := ["math/bits.divideError", "math/bits.overflowError"], apart := false, narrowed := true }
def SoftRootsUptoSaid : Prop := softRootsUptoRow.holds Try.pinned (OpenSpec.upto softRootsSpec)

/-- 'tandemlaw01.SoftFmas', WHERE WHAT IT READS IS OF BULK AT MOST 1048576: true; the input reads as it did. -/
def softFmasUptoRow : OpenClaim := { program := "ytacciadcmiiimaa", sum := "61a274a069803191b29da860f293e61263030d5de445b3996eea898eed14a71c", func := "tandem/tandemlaw01.SoftFmas", spec := "softFmas", inPlace := ["math/bits.Add64", "math/bits.Sub64"], named := ["math/bits.divideError", "math/bits.overflowError"], apart := false, narrowed := true }
def SoftFmasUptoSaid : Prop := softFmasUptoRow.holds Try.pinned (OpenSpec.upto softFmasSpec)

/-- 'tandemlaw01.SoftModes', WHERE WHAT IT READS IS OF BULK AT MOST 1048576: true; the input reads as it did. -/
def softModesUptoRow : OpenClaim := { program := "ytacciadcmiiimaa", sum := "61a274a069803191b29da860f293e61263030d5de445b3996eea898eed14a71c", func := "tandem/tandemlaw01.SoftModes", spec := "softModes", inPlace := ["math/bits.Add64", "math/bits.Sub64"], named := ["math/bits.divideError", "math/bits.overflowError"], apart := false, narrowed := true }
def SoftModesUptoSaid : Prop := softModesUptoRow.holds Try.pinned (OpenSpec.upto softModesSpec)

/-- 'tandemlaw01.SoftFits', WHERE WHAT IT READS IS OF BULK AT MOST 1048576: true; the input reads as it did. -/
def softFitsUptoRow : OpenClaim := { program := "ytacciadcmiiimaa", sum := "61a274a069803191b29da860f293e61263030d5de445b3996eea898eed14a71c", func := "tandem/tandemlaw01.SoftFits", spec := "softFits", inPlace := ["math/bits.Add64", "math/bits.Sub64"], named := ["math/bits.divideError", "math/bits.overflowError"], apart := false, narrowed := true }
def SoftFitsUptoSaid : Prop := softFitsUptoRow.holds Try.pinned (OpenSpec.upto softFitsSpec)

/-- 'tandemlaw01.SoftScales', WHERE WHAT IT READS IS OF BULK AT MOST 1048576: true; the input reads as it did. -/
def softScalesUptoRow : OpenClaim := { program := "ytacciadcmiiimaa", sum := "61a274a069803191b29da860f293e61263030d5de445b3996eea898eed14a71c", func := "tandem/tandemlaw01.SoftScales", spec := "softScales", inPlace := ["math/bits.Add64", "math/bits.Sub64"], named := ["math/bits.divideError", "math/bits.overflowError"], apart := false, narrowed := true }
def SoftScalesUptoSaid : Prop := softScalesUptoRow.holds Try.pinned (OpenSpec.upto softScalesSpec)

/-- 'tandemlaw01.SoftAdds', WHERE WHAT IT READS IS OF BULK AT MOST 1048576: true; the input reads as it did. -/
def softAddsUptoRow : OpenClaim := { program := "ytacciadcmiiimaa", sum := "61a274a069803191b29da860f293e61263030d5de445b3996eea898eed14a71c", func := "tandem/tandemlaw01.SoftAdds", spec := "softAdds", inPlace := ["math/bits.Add64", "math/bits.Sub64"], named := ["math/bits.divideError", "math/bits.overflowError"], apart := false, narrowed := true }
def SoftAddsUptoSaid : Prop := softAddsUptoRow.holds Try.pinned (OpenSpec.upto softAddsSpec)

/-- 'tandemlaw01.SoftBack', WHERE WHAT IT READS IS OF BULK AT MOST 1048576: true; the input reads as it did. -/
def softBackUptoRow : OpenClaim := { program := "ytacciadcmiiimaa", sum := "61a274a069803191b29da860f293e61263030d5de445b3996eea898eed14a71c", func := "tandem/tandemlaw01.SoftBack", spec := "softBack", inPlace := ["math/bits.Add64", "math/bits.Sub64"], named := ["math/bits.divideError", "math/bits.overflowError"], apart := false, narrowed := true }
def SoftBackUptoSaid : Prop := softBackUptoRow.holds Try.pinned (OpenSpec.upto softBackSpec)

/-- 'tandemlaw02.ConvSums', WHERE WHAT IT READS IS OF BULK AT MOST 1048576: true; the input reads as it did. -/
def convSumsUptoRow : OpenClaim := { program := "ytacciadcmiiimaa", sum := "61a274a069803191b29da860f293e61263030d5de445b3996eea898eed14a71c", func := "tandem/tandemlaw02.ConvSums", spec := "convSums", inPlace := ["math/bits.Add64", "math/bits.Sub64"], unfollowed := true, recurses := true, apart := false, narrowed := true }
def ConvSumsUptoSaid : Prop := convSumsUptoRow.holds Try.pinned (OpenSpec.upto convSumsSpec)

end Rows
end Go.Proofs.Ytacciadcmiiimaa
