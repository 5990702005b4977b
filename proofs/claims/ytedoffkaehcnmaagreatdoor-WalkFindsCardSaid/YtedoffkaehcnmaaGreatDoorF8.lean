/- The listed table (walk). -/
import Derived.Test.YtedoffkaehcnmaaGreatDoorF6
import Derived.Test.YtedoffkaehcnmaaGreatDoorF7
import Derived.Test.YtedoffkaehcnmaaGreatDoorRows
import Derived.Test.YtedoffkaehcnmaaGreatDoorCards
import Derived.Test.YtedoffkaehcnmaaGreatDoorTie
import Derived.LaidMore
import Derived.SevenTiedAt
namespace Go.Proofs.YtedoffkaehcnmaaGreatDoor
open Go Go.Sx Go.RowKit
set_option maxRecDepth 100000
theorem ownL:ownKnob Tryz.prog.godebug=none:=by kernel_rfl
theorem gTab : Tryz.prog.globalNamed "math/bits.deBruijn64tab" = some 0 := by kernel_rfl
theorem uTab:((Tryz.prog.globals[0]?).map (·.type)).bind Tryz.prog.underlying=some (.array 64 5):=by kernel_rfl
def tab0:List Int:=[0,1,56,2,57,49,28,3,61,58,42,50,38,29,17,4,62,47,59,36,45,43,51,22,53,39,33,30,24,18,12,5,63,55,48,27,60,41,37,16,46,35,44,21,52,32,23,11,54,26,40,15,34,20,31,10,25,14,19,9,13,8,7,6]
theorem zym {W : World} (h : laidMetH Tryz.prog [("math/bits.deBruijn64tab", Rows.laid_math_bits_deBruijn64tab)] W) : WI W := by
 rw [MakeChecks.laidMetH_plain _ _ _ (by kernel_rfl)] at h
 obtain ⟨ps,⟨g0,t0,cs0,f0,p0,q0,hg0,ht0,hv0,hd0,_,_⟩,_,_⟩:=h
 obtain rfl:=Option.some.inj (gTab.symm.trans hg0)
 have hu:=uTab
 rw [ht0] at hu
 exact zqm (zs:=tab0) gTab hv0 (zvz (zs:=tab0) (n:=64) (e:=5) (show Tryz.prog.underlying t0=some (.array 64 5) from hu) (by kernel_rfl) (by kernel_rfl) hd0)
theorem zwB (os : Os) (args : Array Value) : laidMetH Tryz.prog [("math/bits.deBruijn64tab", Rows.laid_math_bits_deBruijn64tab)] ((World.doorLaid Tryz.prog 400 os).forCall (fun _ _ => 0) ⟨#[], args, []⟩).memory :=
 laidMetH_of_parts3 (fuel:=8) (laidMet_of_run' 8 (by kernel_rfl) (by kernel_rfl)) (by kernel_rfl) (by kernel_rfl)
end Go.Proofs.YtedoffkaehcnmaaGreatDoor
