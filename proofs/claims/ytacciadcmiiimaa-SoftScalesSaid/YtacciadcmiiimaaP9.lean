/- The contracts of the functions. Written by the generator. -/
import Derived.Test.YtacciadcmiiimaaP8
import Derived.Test.YtacciadcmiiimaaP4
import Derived.ProofKit
import Derived.LaidMore
import Derived.Stop.Joined
import Derived.Test.YtacciadcmiiimaaP7
namespace Go.Proofs.Ytacciadcmiiimaa
open Go Go.Sx
set_option maxRecDepth 100000
set_option maxHeartbeats 4000000
def WI (_ : World) : Prop := True
def gK : Nat := 0
theorem wiStable : Stable WI gK := fun _ _ _ _ h => h


noncomputable def FE : FEnv := fun f => match f with
  | 69 => g69
  | 115 => g115
  | 91 => g91
  | 92 => g92
  | 96 => g96
  | 120 => g120
  | 95 => g95
  | 93 => g93
  | 97 => g97
  | 110202 => g110202
  | 110200 => g110200
  | 102 => g102
  | 121 => g121
  | 106 => g106
  | 123 => g123
  | 127 => g127
  | 122 => g122
  | 98 => g98
  | 108 => g108
  | 109400 => g109400
  | 94 => g94
  | 107 => g107
  | 44 => g44
  | 46 => g46
  | 104800 => g104800
  | 48 => g48
  | 50 => g50
  | 54 => g54
  | 59 => g59
  | 89 => g89
  | 42 => g42
  | 90 => g90
  | 39 => g39
  | 56 => g56
  | 43 => g43
  | 52 => g52
  | 53 => g53
  | 57 => g57
  | 16 => g16
  | 66 => g66
  | 62 => g62
  | 83 => g83
  | 63 => g63
  | 64 => g64
  | 65 => g65
  | 86 => g86
  | 82 => g82
  | 67 => g67
  | 68 => g68
  | 70 => g70
  | 78 => g78
  | 87 => g87
  | 25 => g25
  | 27 => g27
  | 29 => g29
  | 31 => g31
  | 33 => g33
  | 35 => g35
  | 37 => g37
  | 21 => g21
  | 23 => g23
  | 20 => g20
  | 19 => g19
  | _ => fun _ => []



theorem k69 : FnOK Try.prog WI gK 69 s69 g69 :=
  fn_ok (F := FE) wiStable (⟨fun _ _ h => (by cases h), (fun _ _ h => (by cases h))⟩) Try.func69 ev69 (by kernel_rfl) (fun _ h => (by cases h)) fun ds h hp => match ds, h, hp with
    | [d0], _, hp => ⟨(by kernel_rfl : owesB (outEnv FE s69 o69 [d0]) o69.owes = (dget (g69 [d0]) 0).toB).trans (hp rfl), nrms_teq (by kernel_rfl) (by kernel_rfl) (by kernel_rfl)⟩
theorem k115 : FnOK Try.prog WI gK 115 s115 g115 :=
  fn_ok (F := FE) wiStable (⟨(fun f s h => by
    simp only [Sigs.get, S115, assoc] at h
    split at h
    · rename_i hg; obtain rfl := Nat.eq_of_beq_eq_true hg; cases h; exact k69
    cases h), (fun _ _ h => (by cases h))⟩) Try.func115 ev115 (by kernel_rfl) (fun _ h => (by cases h)) fun ds h hp => match ds, h, hp with
    | [d0], _, hp => ⟨(by kernel_rfl : owesB (outEnv FE s115 o115 [d0]) o115.owes = (dget (g115 [d0]) 0).toB).trans (hp rfl), nrms_teq (by kernel_rfl) (by kernel_rfl) (by kernel_rfl)⟩
theorem k91 : FnOK Try.prog WI gK 91 s91 g91 :=
  fn_ok (F := FE) wiStable (⟨fun _ _ h => (by cases h), (fun _ _ h => (by cases h))⟩) Try.func91 ev91 (by kernel_rfl) (fun _ h => (by cases h)) fun ds h hp => match ds, h, hp with
    | [d0, d1], _, _ => ⟨by kernel_rfl, nrms_teq (by kernel_rfl) (by kernel_rfl) (by kernel_rfl)⟩
theorem k92 : FnOK Try.prog WI gK 92 s92 g92 :=
  fn_ok (F := FE) wiStable (⟨fun _ _ h => (by cases h), (fun _ _ h => (by cases h))⟩) Try.func92 ev92 (by kernel_rfl) (fun _ h => (by cases h)) fun ds h hp => match ds, h, hp with
    | [d0], _, _ => ⟨by kernel_rfl, nrms_teq (by kernel_rfl) (by kernel_rfl) (by kernel_rfl)⟩
theorem k96 : FnOK Try.prog WI gK 96 s96 g96 :=
  fn_ok (F := FE) wiStable (⟨fun _ _ h => (by cases h), (fun _ _ h => (by cases h))⟩) Try.func96 ev96 (by kernel_rfl) (fun _ h => (by cases h)) fun ds h hp => match ds, h, hp with
    | [d0, d1, d2], _, hp => ⟨(by kernel_rfl : owesB (outEnv FE s96 o96 [d0, d1, d2]) o96.owes = (dget (g96 [d0, d1, d2]) 0).toB).trans (hp rfl), nrms_teq (by kernel_rfl) (by kernel_rfl) (by kernel_rfl)⟩
theorem k120 : FnOK Try.prog WI gK 120 s120 g120 :=
  fn_ok (F := FE) wiStable (⟨(fun f s h => by
    simp only [Sigs.get, S120, assoc] at h
    split at h
    · rename_i hg; obtain rfl := Nat.eq_of_beq_eq_true hg; cases h; exact k96
    cases h), (fun _ _ h => (by cases h))⟩) Try.func120 ev120 (by kernel_rfl) (fun _ h => (by cases h)) fun ds h hp => match ds, h, hp with
    | [d0, d1, d2], _, hp => ⟨(by kernel_rfl : owesB (outEnv FE s120 o120 [d0, d1, d2]) o120.owes = (dget (g120 [d0, d1, d2]) 0).toB).trans (hp rfl), nrms_teq (by kernel_rfl) (by kernel_rfl) (by kernel_rfl)⟩
theorem k95 : FnOK Try.prog WI gK 95 s95 g95 :=
  fn_ok (F := FE) wiStable (⟨fun _ _ h => (by cases h), (fun _ _ h => (by cases h))⟩) Try.func95 ev95 (by kernel_rfl) (fun _ h => (by cases h)) fun ds h hp => match ds, h, hp with
    | [d0, d1, d2, d3, d4], _, _ => ⟨by kernel_rfl, nrms_teq (by kernel_rfl) (by kernel_rfl) (by kernel_rfl)⟩
theorem k93 : FnOK Try.prog WI gK 93 s93 g93 :=
  fn_ok (F := FE) wiStable (⟨(fun f s h => by
    simp only [Sigs.get, S93, assoc] at h
    split at h
    · rename_i hg; obtain rfl := Nat.eq_of_beq_eq_true hg; cases h; exact k115
    cases h), (fun _ _ h => (by cases h))⟩) Try.func93 ev93 (by kernel_rfl) (fun _ h => (by cases h)) fun ds h hp => match ds, h, hp with
    | [d0, d1, d2, d3], _, hp => ⟨(by kernel_rfl : owesB (outEnv FE s93 o93 [d0, d1, d2, d3]) o93.owes = (dget (g93 [d0, d1, d2, d3]) 0).toB).trans (hp rfl), nrms_teq (by kernel_rfl) (by kernel_rfl) (by kernel_rfl)⟩
theorem k97 : FnOK Try.prog WI gK 97 s97 g97 :=
  fn_ok (F := FE) wiStable (⟨fun _ _ h => (by cases h), (fun _ _ h => (by cases h))⟩) Try.func97 ev97 (by kernel_rfl) (fun _ h => (by cases h)) fun ds h hp => match ds, h, hp with
    | [d0, d1], _, _ => ⟨by kernel_rfl, nrms_teq (by kernel_rfl) (by kernel_rfl) (by kernel_rfl)⟩
theorem hl102_0 : LoopSound FE l102_0 := loop_ok (w := W110200) (c := C110200) (nx := N110200) (out := T110200) [.i, .i, .i, .i, .i] (fun ds => by kernel_rfl) rfl (fun ν xs h => match xs, h with | [x0, x1], _ => by kernel_rfl)
  (fun ν xs h => match xs, h with | [x0, x1], _ => by kernel_rfl)
  (fun ν xs h => match xs, h with | [x0, x1], _ => by kernel_rfl)
  (fun ν xs h => match xs, h with | [x0, x1], _ => by kernel_rfl)
theorem hl102_1 : LoopSound FE l102_1 := loop_ok (w := W110202) (c := C110202) (nx := N110202) (out := T110202) [.i, .i, .i, .i, .i] (fun ds => by kernel_rfl) rfl (fun ν xs h => match xs, h with | [x0, x1], _ => by kernel_rfl)
  (fun ν xs h => match xs, h with | [x0, x1], _ => by kernel_rfl)
  (fun ν xs h => match xs, h with | [x0, x1], _ => by kernel_rfl)
  (fun ν xs h => match xs, h with | [x0, x1], _ => by kernel_rfl)
theorem hl102 : ∀ l ∈ o102.loops, LoopSound FE l := show ∀ l ∈ [l102_0, l102_1], LoopSound FE l from
  List.forall_mem_cons.2 ⟨hl102_0, List.forall_mem_cons.2 ⟨hl102_1, fun _ h => (by cases h)⟩⟩
theorem k102 : FnOK Try.prog WI gK 102 s102 g102 :=
  fn_ok (F := FE) wiStable (⟨(fun f s h => by
    simp only [Sigs.get, S102, assoc] at h
    split at h
    · rename_i hg; obtain rfl := Nat.eq_of_beq_eq_true hg; cases h; exact k115
    cases h), (fun _ _ h => (by cases h))⟩) Try.func102 ev102 (by kernel_rfl) hl102 fun ds h hp => match ds, h, hp with
    | [d0, d1, d2], _, hp => ⟨(by kernel_rfl : owesB (outEnv FE s102 o102 [d0, d1, d2]) o102.owes = (dget (g102 [d0, d1, d2]) 0).toB).trans (hp rfl), nrms_teq (by kernel_rfl) (by kernel_rfl) (by kernel_rfl)⟩
theorem k121 : FnOK Try.prog WI gK 121 s121 g121 :=
  fn_ok (F := FE) wiStable (⟨(fun f s h => by
    simp only [Sigs.get, S121, assoc] at h
    split at h
    · rename_i hg; obtain rfl := Nat.eq_of_beq_eq_true hg; cases h; exact k115
    cases h), (fun _ _ h => (by cases h))⟩) Try.func121 ev121 (by kernel_rfl) (fun _ h => (by cases h)) fun ds h hp => match ds, h, hp with
    | [d0, d1], _, hp => ⟨(by kernel_rfl : owesB (outEnv FE s121 o121 [d0, d1]) o121.owes = (dget (g121 [d0, d1]) 0).toB).trans (hp rfl), nrms_teq (by kernel_rfl) (by kernel_rfl) (by kernel_rfl)⟩
theorem k106 : FnOK Try.prog WI gK 106 s106 g106 :=
  fn_ok (F := FE) wiStable (⟨fun _ _ h => (by cases h), (fun _ _ h => (by cases h))⟩) Try.func106 ev106 (by kernel_rfl) (fun _ h => (by cases h)) fun ds h hp => match ds, h, hp with
    | [d0, d1, d2], _, hp => ⟨(by kernel_rfl : owesB (outEnv FE s106 o106 [d0, d1, d2]) o106.owes = (dget (g106 [d0, d1, d2]) 0).toB).trans (hp rfl), nrms_teq (by kernel_rfl) (by kernel_rfl) (by kernel_rfl)⟩
theorem k123 : FnOK Try.prog WI gK 123 s123 g123 :=
  fn_ok (F := FE) wiStable (⟨fun _ _ h => (by cases h), (fun _ _ h => (by cases h))⟩) Try.func123 ev123 (by kernel_rfl) (fun _ h => (by cases h)) fun ds h hp => match ds, h, hp with
    | [d0, d1, d2], _, hp => ⟨(by kernel_rfl : owesB (outEnv FE s123 o123 [d0, d1, d2]) o123.owes = (dget (g123 [d0, d1, d2]) 0).toB).trans (hp rfl), nrms_teq (by kernel_rfl) (by kernel_rfl) (by kernel_rfl)⟩
theorem k127 : FnOK Try.prog WI gK 127 s127 g127 :=
  fn_ok (F := FE) wiStable (⟨fun _ _ h => (by cases h), (fun _ _ h => (by cases h))⟩) Try.func127 ev127 (by kernel_rfl) (fun _ h => (by cases h)) fun ds h hp => match ds, h, hp with
    | [d0, d1, d2, d3, d4], _, _ => ⟨by kernel_rfl, nrms_teq (by kernel_rfl) (by kernel_rfl) (by kernel_rfl)⟩
theorem k122 : FnOK Try.prog WI gK 122 s122 g122 :=
  fn_ok (F := FE) wiStable (⟨(fun f s h => by
    simp only [Sigs.get, S122, assoc] at h
    split at h
    · rename_i hg; obtain rfl := Nat.eq_of_beq_eq_true hg; cases h; exact k127
    cases h), (fun _ _ h => (by cases h))⟩) Try.func122 ev122 (by kernel_rfl) (fun _ h => (by cases h)) fun ds h hp => match ds, h, hp with
    | [d0, d1, d2, d3], _, hp => ⟨(by kernel_rfl : owesB (outEnv FE s122 o122 [d0, d1, d2, d3]) o122.owes = (dget (g122 [d0, d1, d2, d3]) 0).toB).trans (hp rfl), nrms_teq (by kernel_rfl) (by kernel_rfl) (by kernel_rfl)⟩
theorem k98 : FnOK Try.prog WI gK 98 s98 g98 :=
  fn_ok (F := FE) wiStable (⟨(fun f s h => by
    simp only [Sigs.get, S98, assoc] at h
    split at h
    · rename_i hg; obtain rfl := Nat.eq_of_beq_eq_true hg; cases h; exact k121
    split at h
    · rename_i hg; obtain rfl := Nat.eq_of_beq_eq_true hg; cases h; exact k106
    split at h
    · rename_i hg; obtain rfl := Nat.eq_of_beq_eq_true hg; cases h; exact k122
    split at h
    · rename_i hg; obtain rfl := Nat.eq_of_beq_eq_true hg; cases h; exact k95
    split at h
    · rename_i hg; obtain rfl := Nat.eq_of_beq_eq_true hg; cases h; exact k96
    cases h), (fun _ _ h => (by cases h))⟩) Try.func98 ev98 (by kernel_rfl) (fun _ h => (by cases h)) fun ds h hp => match ds, h, hp with
    | [d0, d1, d2, d3, d4, d5, d6, d7], _, hp => ⟨(by kernel_rfl : owesB (outEnv FE s98 o98 [d0, d1, d2, d3, d4, d5, d6, d7]) o98.owes = (dget (g98 [d0, d1, d2, d3, d4, d5, d6, d7]) 0).toB).trans (hp rfl), nrms_teq (by kernel_rfl) (by kernel_rfl) (by kernel_rfl)⟩
theorem k108 : FnOK Try.prog WI gK 108 s108 g108 :=
  fn_ok (F := FE) wiStable (⟨fun _ _ h => (by cases h), (fun _ _ h => (by cases h))⟩) Try.func108 ev108 (by kernel_rfl) (fun _ h => (by cases h)) fun ds h hp => match ds, h, hp with
    | [d0, d1, d2, d3, d4], _, _ => ⟨by kernel_rfl, nrms_teq (by kernel_rfl) (by kernel_rfl) (by kernel_rfl)⟩
theorem hl94_0 : LoopSound FE l94_0 := loop_ok (w := W109400) (c := C109400) (nx := N109400) (out := T109400) [.i, .l, .b, .b, .i] (fun ds => by kernel_rfl) rfl (fun ν xs h => match xs, h with | [x0, x1, x2], _ => by kernel_rfl)
  (fun ν xs h => match xs, h with | [x0, x1, x2], _ => by kernel_rfl)
  (fun ν xs h => match xs, h with | [x0, x1, x2], _ => by kernel_rfl)
  (fun ν xs h => match xs, h with | [x0, x1, x2], _ => by kernel_rfl)
theorem hl94 : ∀ l ∈ o94.loops, LoopSound FE l := show ∀ l ∈ [l94_0], LoopSound FE l from
  List.forall_mem_cons.2 ⟨hl94_0, fun _ h => (by cases h)⟩
theorem k94 : FnOK Try.prog WI gK 94 s94 g94 :=
  fn_ok (F := FE) wiStable (⟨(fun f s h => by
    simp only [Sigs.get, S94, assoc] at h
    split at h
    · rename_i hg; obtain rfl := Nat.eq_of_beq_eq_true hg; cases h; exact k120
    cases h), (fun _ _ h => (by cases h))⟩) Try.func94 ev94 (by kernel_rfl) hl94 fun ds h hp => match ds, h, hp with
    | [d0, d1, d2, d3, d4], _, hp => ⟨(by kernel_rfl : owesB (outEnv FE s94 o94 [d0, d1, d2, d3, d4]) o94.owes = (dget (g94 [d0, d1, d2, d3, d4]) 0).toB).trans (hp rfl), nrms_teq (by kernel_rfl) (by kernel_rfl) (by kernel_rfl)⟩
theorem k107 : FnOK Try.prog WI gK 107 s107 g107 :=
  fn_ok (F := FE) wiStable (⟨(fun f s h => by
    simp only [Sigs.get, S107, assoc] at h
    split at h
    · rename_i hg; obtain rfl := Nat.eq_of_beq_eq_true hg; cases h; exact k95
    split at h
    · rename_i hg; obtain rfl := Nat.eq_of_beq_eq_true hg; cases h; exact k123
    split at h
    · rename_i hg; obtain rfl := Nat.eq_of_beq_eq_true hg; cases h; exact k98
    cases h), (fun _ _ h => (by cases h))⟩) Try.func107 ev107 (by kernel_rfl) (fun _ h => (by cases h)) fun ds h hp => match ds, h, hp with
    | [d0, d1, d2, d3, d4, d5, d6, d7, d8, d9, d10, d11], _, hp => ⟨(by kernel_rfl : owesB (outEnv FE s107 o107 [d0, d1, d2, d3, d4, d5, d6, d7, d8, d9, d10, d11]) o107.owes = (dget (g107 [d0, d1, d2, d3, d4, d5, d6, d7, d8, d9, d10, d11]) 0).toB).trans (hp rfl), nrms_teq (by kernel_rfl) (by kernel_rfl) (by kernel_rfl)⟩
theorem k44 : FnOK Try.prog WI gK 44 s44 g44 :=
  fn_ok (F := FE) wiStable (⟨(fun f s h => by
    simp only [Sigs.get, S44, assoc] at h
    split at h
    · rename_i hg; obtain rfl := Nat.eq_of_beq_eq_true hg; cases h; exact k91
    split at h
    · rename_i hg; obtain rfl := Nat.eq_of_beq_eq_true hg; cases h; exact k92
    split at h
    · rename_i hg; obtain rfl := Nat.eq_of_beq_eq_true hg; cases h; exact k93
    split at h
    · rename_i hg; obtain rfl := Nat.eq_of_beq_eq_true hg; cases h; exact k94
    split at h
    · rename_i hg; obtain rfl := Nat.eq_of_beq_eq_true hg; cases h; exact k96
    split at h
    · rename_i hg; obtain rfl := Nat.eq_of_beq_eq_true hg; cases h; exact k95
    split at h
    · rename_i hg; obtain rfl := Nat.eq_of_beq_eq_true hg; cases h; exact k97
    split at h
    · rename_i hg; obtain rfl := Nat.eq_of_beq_eq_true hg; cases h; exact k98
    cases h), (fun _ _ h => (by cases h))⟩) Try.func44 ev44 (by kernel_rfl) (fun _ h => (by cases h)) fun ds h hp => match ds, h, hp with
    | [d0, d1, d2, d3], _, hp => ⟨(by kernel_rfl : owesB (outEnv FE s44 o44 [d0, d1, d2, d3]) o44.owes = (dget (g44 [d0, d1, d2, d3]) 0).toB).trans (hp rfl), nrms_teq (by kernel_rfl) (by kernel_rfl) (by kernel_rfl)⟩
theorem k46 : FnOK Try.prog WI gK 46 s46 g46 :=
  fn_ok (F := FE) wiStable (⟨(fun f s h => by
    simp only [Sigs.get, S46, assoc] at h
    split at h
    · rename_i hg; obtain rfl := Nat.eq_of_beq_eq_true hg; cases h; exact k91
    split at h
    · rename_i hg; obtain rfl := Nat.eq_of_beq_eq_true hg; cases h; exact k92
    split at h
    · rename_i hg; obtain rfl := Nat.eq_of_beq_eq_true hg; cases h; exact k93
    split at h
    · rename_i hg; obtain rfl := Nat.eq_of_beq_eq_true hg; cases h; exact k94
    split at h
    · rename_i hg; obtain rfl := Nat.eq_of_beq_eq_true hg; cases h; exact k96
    split at h
    · rename_i hg; obtain rfl := Nat.eq_of_beq_eq_true hg; cases h; exact k95
    split at h
    · rename_i hg; obtain rfl := Nat.eq_of_beq_eq_true hg; cases h; exact k102
    split at h
    · rename_i hg; obtain rfl := Nat.eq_of_beq_eq_true hg; cases h; exact k98
    cases h), (fun _ _ h => (by cases h))⟩) Try.func46 ev46 (by kernel_rfl) (fun _ h => (by cases h)) fun ds h hp => match ds, h, hp with
    | [d0, d1, d2, d3], _, hp => ⟨(by kernel_rfl : owesB (outEnv FE s46 o46 [d0, d1, d2, d3]) o46.owes = (dget (g46 [d0, d1, d2, d3]) 0).toB).trans (hp rfl), nrms_teq (by kernel_rfl) (by kernel_rfl) (by kernel_rfl)⟩
theorem hl48_0 : LoopSound FE l48_0 := loop_ok (w := W104800) (c := C104800) (nx := N104800) (out := T104800) [.i, .i, .i, .i] (fun ds => by kernel_rfl) rfl (fun ν xs h => match xs, h with | [x0, x1], _ => by kernel_rfl)
  (fun ν xs h => match xs, h with | [x0, x1], _ => by kernel_rfl)
  (fun ν xs h => match xs, h with | [x0, x1], _ => by kernel_rfl)
  (fun ν xs h => match xs, h with | [x0, x1], _ => by kernel_rfl)
theorem hl48 : ∀ l ∈ o48.loops, LoopSound FE l := show ∀ l ∈ [l48_0], LoopSound FE l from
  List.forall_mem_cons.2 ⟨hl48_0, fun _ h => (by cases h)⟩
theorem k48 : FnOK Try.prog WI gK 48 s48 g48 :=
  fn_ok (F := FE) wiStable (⟨(fun f s h => by
    simp only [Sigs.get, S48, assoc] at h
    split at h
    · rename_i hg; obtain rfl := Nat.eq_of_beq_eq_true hg; cases h; exact k91
    split at h
    · rename_i hg; obtain rfl := Nat.eq_of_beq_eq_true hg; cases h; exact k92
    split at h
    · rename_i hg; obtain rfl := Nat.eq_of_beq_eq_true hg; cases h; exact k93
    split at h
    · rename_i hg; obtain rfl := Nat.eq_of_beq_eq_true hg; cases h; exact k94
    split at h
    · rename_i hg; obtain rfl := Nat.eq_of_beq_eq_true hg; cases h; exact k97
    split at h
    · rename_i hg; obtain rfl := Nat.eq_of_beq_eq_true hg; cases h; exact k98
    cases h), (fun _ _ h => (by cases h))⟩) Try.func48 ev48 (by kernel_rfl) hl48 fun ds h hp => match ds, h, hp with
    | [d0, d1, d2], _, hp => ⟨(by kernel_rfl : owesB (outEnv FE s48 o48 [d0, d1, d2]) o48.owes = (dget (g48 [d0, d1, d2]) 0).toB).trans (hp rfl), nrms_teq (by kernel_rfl) (by kernel_rfl) (by kernel_rfl)⟩
theorem k50 : FnOK Try.prog WI gK 50 s50 g50 :=
  fn_ok (F := FE) wiStable (⟨(fun f s h => by
    simp only [Sigs.get, S50, assoc] at h
    split at h
    · rename_i hg; obtain rfl := Nat.eq_of_beq_eq_true hg; cases h; exact k91
    split at h
    · rename_i hg; obtain rfl := Nat.eq_of_beq_eq_true hg; cases h; exact k92
    split at h
    · rename_i hg; obtain rfl := Nat.eq_of_beq_eq_true hg; cases h; exact k93
    split at h
    · rename_i hg; obtain rfl := Nat.eq_of_beq_eq_true hg; cases h; exact k94
    split at h
    · rename_i hg; obtain rfl := Nat.eq_of_beq_eq_true hg; cases h; exact k96
    split at h
    · rename_i hg; obtain rfl := Nat.eq_of_beq_eq_true hg; cases h; exact k95
    split at h
    · rename_i hg; obtain rfl := Nat.eq_of_beq_eq_true hg; cases h; exact k97
    split at h
    · rename_i hg; obtain rfl := Nat.eq_of_beq_eq_true hg; cases h; exact k106
    split at h
    · rename_i hg; obtain rfl := Nat.eq_of_beq_eq_true hg; cases h; exact k108
    split at h
    · rename_i hg; obtain rfl := Nat.eq_of_beq_eq_true hg; cases h; exact k107
    cases h), (fun _ _ h => (by cases h))⟩) Try.func50 ev50 (by kernel_rfl) (fun _ h => (by cases h)) fun ds h hp => match ds, h, hp with
    | [d0, d1, d2, d3, d4], _, hp => ⟨(by kernel_rfl : owesB (outEnv FE s50 o50 [d0, d1, d2, d3, d4]) o50.owes = (dget (g50 [d0, d1, d2, d3, d4]) 0).toB).trans (hp rfl), nrms_teq (by kernel_rfl) (by kernel_rfl) (by kernel_rfl)⟩
theorem k54 : FnOK Try.prog WI gK 54 s54 g54 :=
  fn_ok (F := FE) wiStable (⟨(fun f s h => by
    simp only [Sigs.get, S54, assoc] at h
    split at h
    · rename_i hg; obtain rfl := Nat.eq_of_beq_eq_true hg; cases h; exact k91
    split at h
    · rename_i hg; obtain rfl := Nat.eq_of_beq_eq_true hg; cases h; exact k92
    split at h
    · rename_i hg; obtain rfl := Nat.eq_of_beq_eq_true hg; cases h; exact k93
    split at h
    · rename_i hg; obtain rfl := Nat.eq_of_beq_eq_true hg; cases h; exact k94
    split at h
    · rename_i hg; obtain rfl := Nat.eq_of_beq_eq_true hg; cases h; exact k96
    split at h
    · rename_i hg; obtain rfl := Nat.eq_of_beq_eq_true hg; cases h; exact k95
    split at h
    · rename_i hg; obtain rfl := Nat.eq_of_beq_eq_true hg; cases h; exact k108
    split at h
    · rename_i hg; obtain rfl := Nat.eq_of_beq_eq_true hg; cases h; exact k107
    cases h), (fun _ _ h => (by cases h))⟩) Try.func54 ev54 (by kernel_rfl) (fun _ h => (by cases h)) fun ds h hp => match ds, h, hp with
    | [d0, d1, d2, d3], _, hp => ⟨(by kernel_rfl : owesB (outEnv FE s54 o54 [d0, d1, d2, d3]) o54.owes = (dget (g54 [d0, d1, d2, d3]) 0).toB).trans (hp rfl), nrms_teq (by kernel_rfl) (by kernel_rfl) (by kernel_rfl)⟩
theorem k59 : FnOK Try.prog WI gK 59 s59 g59 :=
  fn_ok (F := FE) wiStable (⟨(fun f s h => by
    simp only [Sigs.get, S59, assoc] at h
    split at h
    · rename_i hg; obtain rfl := Nat.eq_of_beq_eq_true hg; cases h; exact k91
    split at h
    · rename_i hg; obtain rfl := Nat.eq_of_beq_eq_true hg; cases h; exact k92
    split at h
    · rename_i hg; obtain rfl := Nat.eq_of_beq_eq_true hg; cases h; exact k54
    cases h), (fun _ _ h => (by cases h))⟩) Try.func59 ev59 (by kernel_rfl) (fun _ h => (by cases h)) fun ds h hp => match ds, h, hp with
    | [d0, d1, d2, d3], _, hp => ⟨(by kernel_rfl : owesB (outEnv FE s59 o59 [d0, d1, d2, d3]) o59.owes = (dget (g59 [d0, d1, d2, d3]) 0).toB).trans (hp rfl), nrms_teq (by kernel_rfl) (by kernel_rfl) (by kernel_rfl)⟩
theorem k89 : FnOK Try.prog WI gK 89 s89 g89 :=
  fn_ok (F := FE) wiStable (⟨fun _ _ h => (by cases h), (fun _ _ h => (by cases h))⟩) Try.func89 ev89 (by kernel_rfl) (fun _ h => (by cases h)) fun ds h hp => match ds, h, hp with
    | [d0], _, _ => ⟨by kernel_rfl, nrms_teq (by kernel_rfl) (by kernel_rfl) (by kernel_rfl)⟩
theorem k42 : FnOK Try.prog WI gK 42 s42 g42 :=
  fn_ok (F := FE) wiStable (⟨fun _ _ h => (by cases h), (fun _ _ h => (by cases h))⟩) Try.func42 ev42 (by kernel_rfl) (fun _ h => (by cases h)) fun ds h hp => match ds, h, hp with
    | [d0, d1], _, _ => ⟨by kernel_rfl, nrms_teq (by kernel_rfl) (by kernel_rfl) (by kernel_rfl)⟩
theorem k90 : FnOK Try.prog WI gK 90 s90 g90 :=
  fn_ok (F := FE) wiStable (⟨(fun f s h => by
    simp only [Sigs.get, S90, assoc] at h
    split at h
    · rename_i hg; obtain rfl := Nat.eq_of_beq_eq_true hg; cases h; exact k89
    split at h
    · rename_i hg; obtain rfl := Nat.eq_of_beq_eq_true hg; cases h; exact k42
    cases h), (fun _ _ h => (by cases h))⟩) Try.func90 ev90 (by kernel_rfl) (fun _ h => (by cases h)) fun ds h hp => match ds, h, hp with
    | [d0, d1], _, hp => ⟨(by kernel_rfl : owesB (outEnv FE s90 o90 [d0, d1]) o90.owes = (dget (g90 [d0, d1]) 0).toB).trans (hp rfl), nrms_teq (by kernel_rfl) (by kernel_rfl) (by kernel_rfl)⟩
theorem k39 : FnOK Try.prog WI gK 39 s39 g39 :=
  fn_ok (F := FE) wiStable (⟨(fun f s h => by
    simp only [Sigs.get, S39, assoc] at h
    split at h
    · rename_i hg; obtain rfl := Nat.eq_of_beq_eq_true hg; cases h; exact k89
    split at h
    · rename_i hg; obtain rfl := Nat.eq_of_beq_eq_true hg; cases h; exact k90
    cases h), (fun _ _ h => (by cases h))⟩) Try.func39 ev39 (by kernel_rfl) (fun _ h => (by cases h)) fun ds h hp => match ds, h, hp with
    | [d0, d1], _, hp => ⟨(by kernel_rfl : owesB (outEnv FE s39 o39 [d0, d1]) o39.owes = (dget (g39 [d0, d1]) 0).toB).trans (hp rfl), nrms_teq (by kernel_rfl) (by kernel_rfl) (by kernel_rfl)⟩
theorem k56 : FnOK Try.prog WI gK 56 s56 g56 :=
  fn_ok (F := FE) wiStable (⟨(fun f s h => by
    simp only [Sigs.get, S56, assoc] at h
    split at h
    · rename_i hg; obtain rfl := Nat.eq_of_beq_eq_true hg; cases h; exact k89
    split at h
    · rename_i hg; obtain rfl := Nat.eq_of_beq_eq_true hg; cases h; exact k90
    cases h), (fun _ _ h => (by cases h))⟩) Try.func56 ev56 (by kernel_rfl) (fun _ h => (by cases h)) fun ds h hp => match ds, h, hp with
    | [d0, d1], _, hp => ⟨(by kernel_rfl : owesB (outEnv FE s56 o56 [d0, d1]) o56.owes = (dget (g56 [d0, d1]) 0).toB).trans (hp rfl), nrms_teq (by kernel_rfl) (by kernel_rfl) (by kernel_rfl)⟩
theorem k43 : FnOK Try.prog WI gK 43 s43 g43 :=
  fn_ok (F := FE) wiStable (⟨(fun f s h => by
    simp only [Sigs.get, S43, assoc] at h
    split at h
    · rename_i hg; obtain rfl := Nat.eq_of_beq_eq_true hg; cases h; exact k54
    split at h
    · rename_i hg; obtain rfl := Nat.eq_of_beq_eq_true hg; cases h; exact k46
    split at h
    · rename_i hg; obtain rfl := Nat.eq_of_beq_eq_true hg; cases h; exact k48
    split at h
    · rename_i hg; obtain rfl := Nat.eq_of_beq_eq_true hg; cases h; exact k50
    split at h
    · rename_i hg; obtain rfl := Nat.eq_of_beq_eq_true hg; cases h; exact k44
    cases h), (fun _ _ h => (by cases h))⟩) Try.func43 ev43 (by kernel_rfl) (fun _ h => (by cases h)) fun ds h hp => match ds, h, hp with
    | [], _, hp => ⟨(by kernel_rfl : owesB (outEnv FE s43 o43 []) o43.owes = (dget (g43 []) 0).toB).trans (hp rfl), nrms_teq (by kernel_rfl) (by kernel_rfl) (by kernel_rfl)⟩
theorem k52 : FnOK Try.prog WI gK 52 s52 g52 :=
  fn_ok (F := FE) wiStable (⟨fun _ _ h => (by cases h), (fun _ _ h => (by cases h))⟩) Try.func52 ev52 (by kernel_rfl) (fun _ h => (by cases h)) fun ds h hp => match ds, h, hp with
    | [d0], _, _ => ⟨by kernel_rfl, nrms_teq (by kernel_rfl) (by kernel_rfl) (by kernel_rfl)⟩
theorem k53 : FnOK Try.prog WI gK 53 s53 g53 :=
  fn_ok (F := FE) wiStable (⟨fun _ _ h => (by cases h), (fun _ _ h => (by cases h))⟩) Try.func53 ev53 (by kernel_rfl) (fun _ h => (by cases h)) fun ds h hp => match ds, h, hp with
    | [d0], _, _ => ⟨by kernel_rfl, nrms_teq (by kernel_rfl) (by kernel_rfl) (by kernel_rfl)⟩
theorem k57 : FnOK Try.prog WI gK 57 s57 g57 :=
  fn_ok (F := FE) wiStable (⟨(fun f s h => by
    simp only [Sigs.get, S57, assoc] at h
    split at h
    · rename_i hg; obtain rfl := Nat.eq_of_beq_eq_true hg; cases h; exact k42
    cases h), (fun _ _ h => (by cases h))⟩) Try.func57 ev57 (by kernel_rfl) (fun _ h => (by cases h)) fun ds h hp => match ds, h, hp with
    | [d0, d1], _, hp => ⟨(by kernel_rfl : owesB (outEnv FE s57 o57 [d0, d1]) o57.owes = (dget (g57 [d0, d1]) 0).toB).trans (hp rfl), nrms_teq (by kernel_rfl) (by kernel_rfl) (by kernel_rfl)⟩
theorem k16 : FnOK Try.prog WI gK 16 s16 g16 :=
  fn_ok (F := FE) wiStable (⟨(fun f s h => by
    simp only [Sigs.get, S16, assoc] at h
    split at h
    · rename_i hg; obtain rfl := Nat.eq_of_beq_eq_true hg; cases h; exact k43
    split at h
    · rename_i hg; obtain rfl := Nat.eq_of_beq_eq_true hg; cases h; exact k52
    split at h
    · rename_i hg; obtain rfl := Nat.eq_of_beq_eq_true hg; cases h; exact k53
    split at h
    · rename_i hg; obtain rfl := Nat.eq_of_beq_eq_true hg; cases h; exact k44
    split at h
    · rename_i hg; obtain rfl := Nat.eq_of_beq_eq_true hg; cases h; exact k39
    split at h
    · rename_i hg; obtain rfl := Nat.eq_of_beq_eq_true hg; cases h; exact k56
    split at h
    · rename_i hg; obtain rfl := Nat.eq_of_beq_eq_true hg; cases h; exact k54
    split at h
    · rename_i hg; obtain rfl := Nat.eq_of_beq_eq_true hg; cases h; exact k57
    cases h), (fun _ _ h => (by cases h))⟩) Try.func16 ev16 (by kernel_rfl) (fun _ h => (by cases h)) fun ds h hp => match ds, h, hp with
    | [d0, d1, d2, d3, d4], _, hp => ⟨(by kernel_rfl : owesB (outEnv FE s16 o16 [d0, d1, d2, d3, d4]) o16.owes = (dget (g16 [d0, d1, d2, d3, d4]) 0).toB).trans (hp rfl), nrms_teq (by kernel_rfl) (by kernel_rfl) (by kernel_rfl)⟩
theorem k66 : FnOK Try.prog WI gK 66 s66 g66 :=
  fn_ok (F := FE) wiStable (⟨fun _ _ h => (by cases h), (fun _ _ h => (by cases h))⟩) Try.func66 ev66 (by kernel_rfl) (fun _ h => (by cases h)) fun ds h hp => match ds, h, hp with
    | [d0, d1, d2], _, _ => ⟨by kernel_rfl, nrms_teq (by kernel_rfl) (by kernel_rfl) (by kernel_rfl)⟩
theorem k62 : FnOK Try.prog WI gK 62 s62 g62 :=
  fn_ok (F := FE) wiStable (⟨fun _ _ h => (by cases h), (fun _ _ h => (by cases h))⟩) Try.func62 ev62 (by kernel_rfl) (fun _ h => (by cases h)) fun ds h hp => match ds, h, hp with
    | [d0], _, _ => ⟨by kernel_rfl, nrms_teq (by kernel_rfl) (by kernel_rfl) (by kernel_rfl)⟩
theorem k83 : FnOK Try.prog WI gK 83 s83 g83 :=
  fn_ok (F := FE) wiStable (⟨fun _ _ h => (by cases h), (fun _ _ h => (by cases h))⟩) Try.func83 ev83 (by kernel_rfl) (fun _ h => (by cases h)) fun ds h hp => match ds, h, hp with
    | [d0, d1, d2], _, hp => ⟨(by kernel_rfl : owesB (outEnv FE s83 o83 [d0, d1, d2]) o83.owes = (dget (g83 [d0, d1, d2]) 0).toB).trans (hp rfl), nrms_teq (by kernel_rfl) (by kernel_rfl) (by kernel_rfl)⟩
theorem k63 : FnOK Try.prog WI gK 63 s63 g63 :=
  fn_ok (F := FE) wiStable (⟨(fun f s h => by
    simp only [Sigs.get, S63, assoc] at h
    split at h
    · rename_i hg; obtain rfl := Nat.eq_of_beq_eq_true hg; cases h; exact k83
    cases h), (fun _ _ h => (by cases h))⟩) Try.func63 ev63 (by kernel_rfl) (fun _ h => (by cases h)) fun ds h hp => match ds, h, hp with
    | [d0, d1, d2], _, hp => ⟨(by kernel_rfl : owesB (outEnv FE s63 o63 [d0, d1, d2]) o63.owes = (dget (g63 [d0, d1, d2]) 0).toB).trans (hp rfl), nrms_teq (by kernel_rfl) (by kernel_rfl) (by kernel_rfl)⟩
theorem k64 : FnOK Try.prog WI gK 64 s64 g64 :=
  fn_ok (F := FE) wiStable (⟨fun _ _ h => (by cases h), (fun _ _ h => (by cases h))⟩) Try.func64 ev64 (by kernel_rfl) (fun _ h => (by cases h)) fun ds h hp => match ds, h, hp with
    | [d0, d1], _, _ => ⟨by kernel_rfl, nrms_teq (by kernel_rfl) (by kernel_rfl) (by kernel_rfl)⟩
theorem k65 : FnOK Try.prog WI gK 65 s65 g65 :=
  fn_ok (F := FE) wiStable (⟨fun _ _ h => (by cases h), (fun _ _ h => (by cases h))⟩) Try.func65 ev65 (by kernel_rfl) (fun _ h => (by cases h)) fun ds h hp => match ds, h, hp with
    | [d0, d1, d2, d3], _, _ => ⟨by kernel_rfl, nrms_teq (by kernel_rfl) (by kernel_rfl) (by kernel_rfl)⟩
theorem k86 : FnOK Try.prog WI gK 86 s86 g86 :=
  fn_ok (F := FE) wiStable (⟨fun _ _ h => (by cases h), (fun _ _ h => (by cases h))⟩) Try.func86 ev86 (by kernel_rfl) (fun _ h => (by cases h)) fun ds h hp => match ds, h, hp with
    | [d0, d1, d2, d3], _, _ => ⟨by kernel_rfl, nrms_teq (by kernel_rfl) (by kernel_rfl) (by kernel_rfl)⟩
theorem k82 : FnOK Try.prog WI gK 82 s82 g82 :=
  fn_ok (F := FE) wiStable (⟨fun _ _ h => (by cases h), (fun _ _ h => (by cases h))⟩) Try.func82 ev82 (by kernel_rfl) (fun _ h => (by cases h)) fun ds h hp => match ds, h, hp with
    | [d0, d1, d2, d3, d4], _, _ => ⟨by kernel_rfl, nrms_teq (by kernel_rfl) (by kernel_rfl) (by kernel_rfl)⟩
theorem k67 : FnOK Try.prog WI gK 67 s67 g67 :=
  fn_ok (F := FE) wiStable (⟨(fun f s h => by
    simp only [Sigs.get, S67, assoc] at h
    split at h
    · rename_i hg; obtain rfl := Nat.eq_of_beq_eq_true hg; cases h; exact k86
    split at h
    · rename_i hg; obtain rfl := Nat.eq_of_beq_eq_true hg; cases h; exact k83
    cases h), (fun _ _ h => (by cases h))⟩) Try.func67 ev67 (by kernel_rfl) (fun _ h => (by cases h)) fun ds h hp => match ds, h, hp with
    | [d0, d1, d2, d3], _, hp => ⟨(by kernel_rfl : owesB (outEnv FE s67 o67 [d0, d1, d2, d3]) o67.owes = (dget (g67 [d0, d1, d2, d3]) 0).toB).trans (hp rfl), nrms_teq (by kernel_rfl) (by kernel_rfl) (by kernel_rfl)⟩
theorem k68 : FnOK Try.prog WI gK 68 s68 g68 :=
  fn_ok (F := FE) wiStable (⟨(fun f s h => by
    simp only [Sigs.get, S68, assoc] at h
    split at h
    · rename_i hg; obtain rfl := Nat.eq_of_beq_eq_true hg; cases h; exact k86
    cases h), (fun _ _ h => (by cases h))⟩) Try.func68 ev68 (by kernel_rfl) (fun _ h => (by cases h)) fun ds h hp => match ds, h, hp with
    | [d0, d1, d2, d3], _, hp => ⟨(by kernel_rfl : owesB (outEnv FE s68 o68 [d0, d1, d2, d3]) o68.owes = (dget (g68 [d0, d1, d2, d3]) 0).toB).trans (hp rfl), nrms_teq (by kernel_rfl) (by kernel_rfl) (by kernel_rfl)⟩
theorem k70 : FnOK Try.prog WI gK 70 s70 g70 :=
  fn_ok (F := FE) wiStable (⟨fun _ _ h => (by cases h), (fun _ _ h => (by cases h))⟩) Try.func70 ev70 (by kernel_rfl) (fun _ h => (by cases h)) fun ds h hp => match ds, h, hp with
    | [d0, d1, d2, d3], _, hp => ⟨(by kernel_rfl : owesB (outEnv FE s70 o70 [d0, d1, d2, d3]) o70.owes = (dget (g70 [d0, d1, d2, d3]) 0).toB).trans (hp rfl), nrms_teq (by kernel_rfl) (by kernel_rfl) (by kernel_rfl)⟩
theorem k78 : FnOK Try.prog WI gK 78 s78 g78 :=
  fn_ok (F := FE) wiStable (⟨(fun f s h => by
    simp only [Sigs.get, S78, assoc] at h
    split at h
    · rename_i hg; obtain rfl := Nat.eq_of_beq_eq_true hg; cases h; exact k115
    split at h
    · rename_i hg; obtain rfl := Nat.eq_of_beq_eq_true hg; cases h; exact k70
    split at h
    · rename_i hg; obtain rfl := Nat.eq_of_beq_eq_true hg; cases h; exact k82
    split at h
    · rename_i hg; obtain rfl := Nat.eq_of_beq_eq_true hg; cases h; exact k83
    cases h), (fun _ _ h => (by cases h))⟩) Try.func78 ev78 (by kernel_rfl) (fun _ h => (by cases h)) fun ds h hp => match ds, h, hp with
    | [d0, d1, d2, d3, d4, d5, d6], _, hp => ⟨(by kernel_rfl : owesB (outEnv FE s78 o78 [d0, d1, d2, d3, d4, d5, d6]) o78.owes = (dget (g78 [d0, d1, d2, d3, d4, d5, d6]) 0).toB).trans (hp rfl), nrms_teq (by kernel_rfl) (by kernel_rfl) (by kernel_rfl)⟩
theorem k87 : FnOK Try.prog WI gK 87 s87 g87 :=
  fn_ok (F := FE) wiStable (⟨(fun f s h => by
    simp only [Sigs.get, S87, assoc] at h
    split at h
    · rename_i hg; obtain rfl := Nat.eq_of_beq_eq_true hg; cases h; exact k65
    split at h
    · rename_i hg; obtain rfl := Nat.eq_of_beq_eq_true hg; cases h; exact k86
    cases h), (fun _ _ h => (by cases h))⟩) Try.func87 ev87 (by kernel_rfl) (fun _ h => (by cases h)) fun ds h hp => match ds, h, hp with
    | [d0, d1, d2, d3], _, _ => ⟨by kernel_rfl, nrms_teq (by kernel_rfl) (by kernel_rfl) (by kernel_rfl)⟩
theorem k25 : FnOK Try.prog WI gK 25 s25 g25 :=
  fn_ok (F := FE) wiStable (⟨(fun f s h => by
    simp only [Sigs.get, S25, assoc] at h
    split at h
    · rename_i hg; obtain rfl := Nat.eq_of_beq_eq_true hg; cases h; exact k64
    split at h
    · rename_i hg; obtain rfl := Nat.eq_of_beq_eq_true hg; cases h; exact k62
    split at h
    · rename_i hg; obtain rfl := Nat.eq_of_beq_eq_true hg; cases h; exact k65
    split at h
    · rename_i hg; obtain rfl := Nat.eq_of_beq_eq_true hg; cases h; exact k67
    split at h
    · rename_i hg; obtain rfl := Nat.eq_of_beq_eq_true hg; cases h; exact k66
    split at h
    · rename_i hg; obtain rfl := Nat.eq_of_beq_eq_true hg; cases h; exact k68
    split at h
    · rename_i hg; obtain rfl := Nat.eq_of_beq_eq_true hg; cases h; exact k69
    split at h
    · rename_i hg; obtain rfl := Nat.eq_of_beq_eq_true hg; cases h; exact k70
    cases h), (fun _ _ h => (by cases h))⟩) Try.func25 ev25 (by kernel_rfl) (fun _ h => (by cases h)) fun ds h hp => match ds, h, hp with
    | [d0, d1, d2, d3, d4], _, hp => ⟨(by kernel_rfl : owesB (outEnv FE s25 o25 [d0, d1, d2, d3, d4]) o25.owes = (dget (g25 [d0, d1, d2, d3, d4]) 0).toB).trans (hp rfl), nrms_teq (by kernel_rfl) (by kernel_rfl) (by kernel_rfl)⟩
theorem k27 : FnOK Try.prog WI gK 27 s27 g27 :=
  fn_ok (F := FE) wiStable (⟨(fun f s h => by
    simp only [Sigs.get, S27, assoc] at h
    split at h
    · rename_i hg; obtain rfl := Nat.eq_of_beq_eq_true hg; cases h; exact k64
    split at h
    · rename_i hg; obtain rfl := Nat.eq_of_beq_eq_true hg; cases h; exact k62
    split at h
    · rename_i hg; obtain rfl := Nat.eq_of_beq_eq_true hg; cases h; exact k78
    cases h), (fun _ _ h => (by cases h))⟩) Try.func27 ev27 (by kernel_rfl) (fun _ h => (by cases h)) fun ds h hp => match ds, h, hp with
    | [d0, d1, d2, d3, d4], _, hp => ⟨(by kernel_rfl : owesB (outEnv FE s27 o27 [d0, d1, d2, d3, d4]) o27.owes = (dget (g27 [d0, d1, d2, d3, d4]) 0).toB).trans (hp rfl), nrms_teq (by kernel_rfl) (by kernel_rfl) (by kernel_rfl)⟩
theorem k29 : FnOK Try.prog WI gK 29 s29 g29 :=
  fn_ok (F := FE) wiStable (⟨(fun f s h => by
    simp only [Sigs.get, S29, assoc] at h
    split at h
    · rename_i hg; obtain rfl := Nat.eq_of_beq_eq_true hg; cases h; exact k64
    split at h
    · rename_i hg; obtain rfl := Nat.eq_of_beq_eq_true hg; cases h; exact k62
    split at h
    · rename_i hg; obtain rfl := Nat.eq_of_beq_eq_true hg; cases h; exact k65
    split at h
    · rename_i hg; obtain rfl := Nat.eq_of_beq_eq_true hg; cases h; exact k67
    split at h
    · rename_i hg; obtain rfl := Nat.eq_of_beq_eq_true hg; cases h; exact k63
    split at h
    · rename_i hg; obtain rfl := Nat.eq_of_beq_eq_true hg; cases h; exact k83
    split at h
    · rename_i hg; obtain rfl := Nat.eq_of_beq_eq_true hg; cases h; exact k82
    split at h
    · rename_i hg; obtain rfl := Nat.eq_of_beq_eq_true hg; cases h; exact k68
    split at h
    · rename_i hg; obtain rfl := Nat.eq_of_beq_eq_true hg; cases h; exact k78
    cases h), (fun _ _ h => (by cases h))⟩) Try.func29 ev29 (by kernel_rfl) (fun _ h => (by cases h)) fun ds h hp => match ds, h, hp with
    | [d0, d1, d2], _, hp => ⟨(by kernel_rfl : owesB (outEnv FE s29 o29 [d0, d1, d2]) o29.owes = (dget (g29 [d0, d1, d2]) 0).toB).trans (hp rfl), nrms_teq (by kernel_rfl) (by kernel_rfl) (by kernel_rfl)⟩
theorem k31 : FnOK Try.prog WI gK 31 s31 g31 :=
  fn_ok (F := FE) wiStable (⟨(fun f s h => by
    simp only [Sigs.get, S31, assoc] at h
    split at h
    · rename_i hg; obtain rfl := Nat.eq_of_beq_eq_true hg; cases h; exact k64
    split at h
    · rename_i hg; obtain rfl := Nat.eq_of_beq_eq_true hg; cases h; exact k62
    split at h
    · rename_i hg; obtain rfl := Nat.eq_of_beq_eq_true hg; cases h; exact k65
    split at h
    · rename_i hg; obtain rfl := Nat.eq_of_beq_eq_true hg; cases h; exact k86
    split at h
    · rename_i hg; obtain rfl := Nat.eq_of_beq_eq_true hg; cases h; exact k82
    cases h), (fun _ _ h => (by cases h))⟩) Try.func31 ev31 (by kernel_rfl) (fun _ h => (by cases h)) fun ds h hp => match ds, h, hp with
    | [d0, d1, d2, d3], _, _ => ⟨by kernel_rfl, nrms_teq (by kernel_rfl) (by kernel_rfl) (by kernel_rfl)⟩
theorem k33 : FnOK Try.prog WI gK 33 s33 g33 :=
  fn_ok (F := FE) wiStable (⟨(fun f s h => by
    simp only [Sigs.get, S33, assoc] at h
    split at h
    · rename_i hg; obtain rfl := Nat.eq_of_beq_eq_true hg; cases h; exact k64
    split at h
    · rename_i hg; obtain rfl := Nat.eq_of_beq_eq_true hg; cases h; exact k62
    split at h
    · rename_i hg; obtain rfl := Nat.eq_of_beq_eq_true hg; cases h; exact k67
    split at h
    · rename_i hg; obtain rfl := Nat.eq_of_beq_eq_true hg; cases h; exact k65
    cases h), (fun _ _ h => (by cases h))⟩) Try.func33 ev33 (by kernel_rfl) (fun _ h => (by cases h)) fun ds h hp => match ds, h, hp with
    | [d0, d1], _, hp => ⟨(by kernel_rfl : owesB (outEnv FE s33 o33 [d0, d1]) o33.owes = (dget (g33 [d0, d1]) 0).toB).trans (hp rfl), nrms_teq (by kernel_rfl) (by kernel_rfl) (by kernel_rfl)⟩
theorem k35 : FnOK Try.prog WI gK 35 s35 g35 :=
  fn_ok (F := FE) wiStable (⟨(fun f s h => by
    simp only [Sigs.get, S35, assoc] at h
    split at h
    · rename_i hg; obtain rfl := Nat.eq_of_beq_eq_true hg; cases h; exact k64
    split at h
    · rename_i hg; obtain rfl := Nat.eq_of_beq_eq_true hg; cases h; exact k62
    split at h
    · rename_i hg; obtain rfl := Nat.eq_of_beq_eq_true hg; cases h; exact k67
    split at h
    · rename_i hg; obtain rfl := Nat.eq_of_beq_eq_true hg; cases h; exact k65
    split at h
    · rename_i hg; obtain rfl := Nat.eq_of_beq_eq_true hg; cases h; exact k86
    split at h
    · rename_i hg; obtain rfl := Nat.eq_of_beq_eq_true hg; cases h; exact k82
    split at h
    · rename_i hg; obtain rfl := Nat.eq_of_beq_eq_true hg; cases h; exact k63
    split at h
    · rename_i hg; obtain rfl := Nat.eq_of_beq_eq_true hg; cases h; exact k87
    cases h), (fun _ _ h => (by cases h))⟩) Try.func35 ev35 (by kernel_rfl) (fun _ h => (by cases h)) fun ds h hp => match ds, h, hp with
    | [d0, d1, d2, d3], _, hp => ⟨(by kernel_rfl : owesB (outEnv FE s35 o35 [d0, d1, d2, d3]) o35.owes = (dget (g35 [d0, d1, d2, d3]) 0).toB).trans (hp rfl), nrms_teq (by kernel_rfl) (by kernel_rfl) (by kernel_rfl)⟩
theorem k37 : FnOK Try.prog WI gK 37 s37 g37 :=
  fn_ok (F := FE) wiStable (⟨(fun f s h => by
    simp only [Sigs.get, S37, assoc] at h
    split at h
    · rename_i hg; obtain rfl := Nat.eq_of_beq_eq_true hg; cases h; exact k64
    split at h
    · rename_i hg; obtain rfl := Nat.eq_of_beq_eq_true hg; cases h; exact k62
    split at h
    · rename_i hg; obtain rfl := Nat.eq_of_beq_eq_true hg; cases h; exact k67
    split at h
    · rename_i hg; obtain rfl := Nat.eq_of_beq_eq_true hg; cases h; exact k87
    cases h), (fun _ _ h => (by cases h))⟩) Try.func37 ev37 (by kernel_rfl) (fun _ h => (by cases h)) fun ds h hp => match ds, h, hp with
    | [d0, d1, d2, d3], _, hp => ⟨(by kernel_rfl : owesB (outEnv FE s37 o37 [d0, d1, d2, d3]) o37.owes = (dget (g37 [d0, d1, d2, d3]) 0).toB).trans (hp rfl), nrms_teq (by kernel_rfl) (by kernel_rfl) (by kernel_rfl)⟩
theorem k21 : FnOK Try.prog WI gK 21 s21 g21 :=
  fn_ok (F := FE) wiStable (⟨fun _ _ h => (by cases h), (fun _ _ h => (by cases h))⟩) Try.func21 ev21 (by kernel_rfl) (fun _ h => (by cases h)) fun ds h hp => match ds, h, hp with
    | [d0], _, _ => ⟨by kernel_rfl, nrms_teq (by kernel_rfl) (by kernel_rfl) (by kernel_rfl)⟩
theorem k23 : FnOK Try.prog WI gK 23 s23 g23 :=
  fn_ok (F := FE) wiStable (⟨(fun f s h => by
    simp only [Sigs.get, S23, assoc] at h
    split at h
    · rename_i hg; obtain rfl := Nat.eq_of_beq_eq_true hg; cases h; exact k62
    split at h
    · rename_i hg; obtain rfl := Nat.eq_of_beq_eq_true hg; cases h; exact k63
    cases h), (fun _ _ h => (by cases h))⟩) Try.func23 ev23 (by kernel_rfl) (fun _ h => (by cases h)) fun ds h hp => match ds, h, hp with
    | [d0], _, hp => ⟨(by kernel_rfl : owesB (outEnv FE s23 o23 [d0]) o23.owes = (dget (g23 [d0]) 0).toB).trans (hp rfl), nrms_teq (by kernel_rfl) (by kernel_rfl) (by kernel_rfl)⟩
theorem k20 : FnOK Try.prog WI gK 20 s20 g20 :=
  fn_ok (F := FE) wiStable (⟨(fun f s h => by
    simp only [Sigs.get, S20, assoc] at h
    split at h
    · rename_i hg; obtain rfl := Nat.eq_of_beq_eq_true hg; cases h; exact k25
    split at h
    · rename_i hg; obtain rfl := Nat.eq_of_beq_eq_true hg; cases h; exact k27
    split at h
    · rename_i hg; obtain rfl := Nat.eq_of_beq_eq_true hg; cases h; exact k29
    split at h
    · rename_i hg; obtain rfl := Nat.eq_of_beq_eq_true hg; cases h; exact k37
    split at h
    · rename_i hg; obtain rfl := Nat.eq_of_beq_eq_true hg; cases h; exact k35
    split at h
    · rename_i hg; obtain rfl := Nat.eq_of_beq_eq_true hg; cases h; exact k21
    split at h
    · rename_i hg; obtain rfl := Nat.eq_of_beq_eq_true hg; cases h; exact k23
    split at h
    · rename_i hg; obtain rfl := Nat.eq_of_beq_eq_true hg; cases h; exact k33
    split at h
    · rename_i hg; obtain rfl := Nat.eq_of_beq_eq_true hg; cases h; exact k31
    cases h), (fun _ _ h => (by cases h))⟩) Try.func20 ev20 (by kernel_rfl) (fun _ h => (by cases h)) fun ds h hp => match ds, h, hp with
    | [], _, hp => ⟨(by kernel_rfl : owesB (outEnv FE s20 o20 []) o20.owes = (dget (g20 []) 0).toB).trans (hp rfl), nrms_teq (by kernel_rfl) (by kernel_rfl) (by kernel_rfl)⟩
theorem k19 : FnOK Try.prog WI gK 19 s19 g19 :=
  fn_ok (F := FE) wiStable (⟨(fun f s h => by
    simp only [Sigs.get, S19, assoc] at h
    split at h
    · rename_i hg; obtain rfl := Nat.eq_of_beq_eq_true hg; cases h; exact k20
    split at h
    · rename_i hg; obtain rfl := Nat.eq_of_beq_eq_true hg; cases h; exact k27
    split at h
    · rename_i hg; obtain rfl := Nat.eq_of_beq_eq_true hg; cases h; exact k54
    split at h
    · rename_i hg; obtain rfl := Nat.eq_of_beq_eq_true hg; cases h; exact k59
    split at h
    · rename_i hg; obtain rfl := Nat.eq_of_beq_eq_true hg; cases h; exact k44
    split at h
    · rename_i hg; obtain rfl := Nat.eq_of_beq_eq_true hg; cases h; exact k25
    split at h
    · rename_i hg; obtain rfl := Nat.eq_of_beq_eq_true hg; cases h; exact k37
    cases h), (fun _ _ h => (by cases h))⟩) Try.func19 ev19 (by kernel_rfl) (fun _ h => (by cases h)) fun ds h hp => match ds, h, hp with
    | [d0, d1, d2, d3], _, hp => ⟨(by kernel_rfl : owesB (outEnv FE s19 o19 [d0, d1, d2, d3]) o19.owes = (dget (g19 [d0, d1, d2, d3]) 0).toB).trans (hp rfl), nrms_teq (by kernel_rfl) (by kernel_rfl) (by kernel_rfl)⟩


end Go.Proofs.Ytacciadcmiiimaa

namespace Go.Sx
open Go Go.ChangeShapes Go.WideShapes Go.RowKit

inductive Sh where
  | one (t : LT)
  | agg (l : List LT)
  deriving Inhabited
def Sh.lts : Sh → List LT
  | .one t => [t]
  | .agg l => l
def nIn (ss : List Sh) : Nat := (ss.map fun s => s.lts.length).sum
def LT.conc (t : LT) (d : DV) : Value :=
  match t with
  | .int k => .int k d.toI
  | .bool => .bool d.toB
  | .vec _ => .bool false
def leafVals (g : Nat → DV) : Nat → List LT → List Value
  | _, [] => []
  | j, t :: ts => t.conc (g j) :: leafVals g (j + 1) ts
def argVals (g : Nat → DV) : Nat → List Sh → List Value
  | _, [] => []
  | j, .one t :: ss => t.conc (g j) :: argVals g (j + 1) ss
  | j, .agg ts :: ss => .agg (leafVals g j ts).toArray :: argVals g (j + ts.length) ss
def LT.pat (j : Nat) : LT → Lf
  | .int k => .i k (.h j)
  | .bool => .b (.h j)
  | .vec _ => .b (.t false)
def patLeaves : Nat → List LT → List Lf
  | _, [] => []
  | j, t :: ts => t.pat j :: patLeaves (j + 1) ts
def patShapes : Nat → List Sh → List V
  | _, [] => []
  | j, .one t :: ss => .s (.one (t.pat j)) :: patShapes (j + 1) ss
  | j, .agg ts :: ss => .s (.agg (patLeaves j ts)) :: patShapes (j + ts.length) ss

theorem idsFrom_getD : ∀ (k n j : Nat), j < k → (idsFrom n k).getD j default = .r (n + j)
  | 0, _, _, h => by omega
  | k + 1, n, 0, _ => rfl
  | k + 1, n, j + 1, h => by
    have := idsFrom_getD k (n + 1) j (by omega)
    simp only [idsFrom, List.getD_cons_succ, this]
    congr 1
    omega
theorem pat_conc {n : Nat} (g : Nat → DV) (ρ : Nat → Loc) {t : LT} {j : Nat} (h : j < n) : ((t.pat j).inst (idsFrom 0 n)).conc g ρ = t.conc (g j) ∧ ((t.pat j).inst (idsFrom 0 n)).good g := by
  have e : (A.h j).inst (idsFrom 0 n) = .r j := by
    have := idsFrom_getD n 0 j h
    simpa [A.inst] using this
  cases t with
  | int k => exact ⟨by simp only [LT.pat, Lf.inst, e]; rfl, trivial⟩
  | bool => exact ⟨by simp only [LT.pat, Lf.inst, e]; rfl, trivial⟩
  | vec ts => exact ⟨rfl, trivial⟩
theorem patLeaves_conc {n : Nat} (g : Nat → DV) (ρ : Nat → Loc) : ∀ (ts : List LT) (j : Nat), j + ts.length ≤ n → ((patLeaves j ts).map (Lf.inst (idsFrom 0 n))).map (Lf.conc g ρ) = leafVals g j ts ∧ ∀ x ∈ (patLeaves j ts).map (Lf.inst (idsFrom 0 n)), Lf.good g x
  | [], j, _ => ⟨rfl, fun x hx => by cases hx⟩
  | t :: ts, j, h => by
    simp only [List.length_cons] at h
    obtain ⟨h1, h2⟩ := patLeaves_conc (n := n) g ρ ts (j + 1) (by omega)
    obtain ⟨h3, h4⟩ := pat_conc g ρ (t := t) (show j < n by omega)
    refine ⟨by simp only [patLeaves, List.map_cons, leafVals, h1, h3], fun x hx => ?_⟩
    simp only [patLeaves, List.map_cons] at hx
    rcases List.mem_cons.1 hx with rfl | hx
    · exact h4
    · exact h2 x hx
theorem nIn_cons (s : Sh) (ss : List Sh) : nIn (s :: ss) = s.lts.length + nIn ss := by simp [nIn]
theorem patShapes_conc {n : Nat} (g : Nat → DV) (ρ : Nat → Loc) : ∀ (ss : List Sh) (j : Nat), j + nIn ss ≤ n → ((patShapes j ss).map (V.inst (idsFrom 0 n))).map (V.conc g ρ) = argVals g j ss ∧ ∀ x ∈ (patShapes j ss).map (V.inst (idsFrom 0 n)), V.good g x
  | [], j, _ => ⟨rfl, fun x hx => by cases hx⟩
  | .one t :: ss, j, h => by
    rw [nIn_cons] at h
    have h : j + (1 + nIn ss) ≤ n := h
    obtain ⟨h1, h2⟩ := patShapes_conc (n := n) g ρ ss (j + 1) (by omega)
    obtain ⟨h3, h4⟩ := pat_conc g ρ (t := t) (show j < n by omega)
    refine ⟨by simp only [patShapes, List.map_cons, argVals, h1, V.inst, V1.inst, V.conc, V1.conc, h3], fun x hx => ?_⟩
    simp only [patShapes, List.map_cons] at hx
    rcases List.mem_cons.1 hx with rfl | hx
    · exact V1.good_one.2 h4
    · exact h2 x hx
  | .agg ts :: ss, j, h => by
    rw [nIn_cons] at h
    have h : j + (ts.length + nIn ss) ≤ n := h
    obtain ⟨h1, h2⟩ := patShapes_conc (n := n) g ρ ss (j + ts.length) (by omega)
    obtain ⟨h3, h4⟩ := patLeaves_conc (n := n) g ρ ts j (show j + ts.length ≤ n by omega)
    refine ⟨by simp only [patShapes, List.map_cons, argVals, h1, V.inst, V1.inst, V.conc, V1.conc, h3], fun x hx => ?_⟩
    simp only [patShapes, List.map_cons] at hx
    rcases List.mem_cons.1 hx with rfl | hx
    · exact V1.good_agg.2 h4
    · exact h2 x hx

def flatFs (P : Program) (rec : TypeId → Option (List LT)) : Nat → List Field → Option (List LT)
  | _, [] => some []
  | o, f :: fs =>
    if Nat.beq f.offset o then
      match rec f.type with
      | none => none
      | some l =>
        if Nat.beq l.length (P.cellsOf f.type) then
          match flatFs P rec (o + l.length) fs with
          | none => none
          | some r => some (l ++ r)
        else none
    else none
def flatT (P : Program) : Nat → TypeId → Option (List LT)
  | 0, _ => none
  | d + 1, t =>
    match P.underlying t with
    | some .bool => some [.bool]
    | some (.int k) => some [.int k]
    | some (.array n e) =>
      match flatT P d e with
      | none => none
      | some l => if Nat.beq l.length (P.cellsOf e) && Nat.beq (P.cellsOf t) (n * l.length) then some (List.replicate n l).flatten else none
    | some (.struct fs) =>
      match flatFs P (flatT P d) 0 fs.toList with
      | none => none
      | some l => if Nat.beq l.length (P.cellsOf t) then some l else none
    | _ => none
def shapeOf (P : Program) (t : TypeId) : Option Sh :=
  match P.underlying t with
  | some .bool => some (.one .bool)
  | some (.int k) => some (.one (.int k))
  | some (.array _ _) => (flatT P 20 t).map .agg
  | some (.struct _) => (flatT P 20 t).map .agg
  | _ => none
def shapesOf (P : Program) : List TypeId → Option (List Sh)
  | [] => some []
  | t :: ts =>
    match shapeOf P t with
    | none => none
    | some s =>
      match shapesOf P ts with
      | none => none
      | some r => some (s :: r)

def LeafOk : LT → Value → Prop
  | .int k, .int k' n => k' = k ∧ (Lit.int k n).wf = true
  | .bool, .bool _ => True
  | _, _ => False
def Leaves : List LT → List Value → Prop
  | [], [] => True
  | t :: ts, v :: vs => LeafOk t v ∧ Leaves ts vs
  | _, _ => False
theorem Leaves.len : ∀ {ts : List LT} {vs : List Value}, Leaves ts vs → vs.length = ts.length
  | [], [], _ => rfl
  | _ :: _, _ :: _, h => by simp [Leaves.len h.2]
  | [], _ :: _, h => h.elim
  | _ :: _, [], h => h.elim
theorem Leaves.append : ∀ {a b : List LT} {c d : List Value}, Leaves a c → Leaves b d → Leaves (a ++ b) (c ++ d)
  | [], _, [], _, _, h => h
  | _ :: _, _, _ :: _, _, h, h' => ⟨h.1, Leaves.append h.2 h'⟩
  | [], _, _ :: _, _, h, _ => h.elim
  | _ :: _, _, [], _, h, _ => h.elim

theorem mapM_carry {α β γ : Type} {f g : α → Option (β × List γ)} : ∀ {l : List α} {xs : List (β × List γ)}, l.mapM f = some xs →
    (∀ a ∈ l, ∀ y, f a = some y → g a = some y ∧ y.2 = []) → l.mapM g = some xs ∧ xs.flatMap (·.2) = [] ∧ ∀ a ∈ l, ∃ y, f a = some y
  | [], xs, h, _ => by
    simp at h
    subst h
    exact ⟨by simp, rfl, fun a ha => by cases ha⟩
  | a :: l, xs, h, hc => by
    simp only [List.mapM_cons, Option.bind_eq_bind, Option.bind_eq_some_iff, Option.pure_def, Option.some.injEq] at h
    obtain ⟨y, hy, ys, hys, rfl⟩ := h
    obtain ⟨h1, h2⟩ := hc a (by simp) y hy
    obtain ⟨h3, h4, h5⟩ := mapM_carry hys (fun b hb => hc b (List.mem_cons_of_mem _ hb))
    refine ⟨by simp [List.mapM_cons, h1, h3], by simp only [List.flatMap_cons, h2, h4, List.nil_append], fun b hb => ?_⟩
    rcases List.mem_cons.1 hb with rfl | hb
    · exact ⟨y, hy⟩
    · exact h5 b hb

theorem leaves_rows {l : List LT} {c : Nat} (hl : l.length = c) : ∀ {n : Nat} {cs : List Value}, cs.length = n * c → (∀ i, i < n → Leaves l ((cs.drop (i * c)).take c)) → Leaves (List.replicate n l).flatten cs
  | 0, cs, h, _ => by
    have : cs = [] := List.eq_nil_of_length_eq_zero (by simpa using h)
    subst this
    trivial
  | n + 1, cs, h, hp => by
    have h0 := hp 0 (by omega)
    simp only [Nat.zero_mul, List.drop_zero] at h0
    have h1 := leaves_rows hl (n := n) (cs := cs.drop c) (by rw [List.length_drop, h, Nat.succ_mul]; omega) (fun i hi => by
      have := hp (i + 1) (by omega)
      rw [List.drop_drop]
      rwa [show c + i * c = (i + 1) * c from by rw [Nat.succ_mul]; omega])
    have := Leaves.append h0 h1
    rw [List.take_append_drop] at this
    simpa [List.replicate_succ] using this

section
variable {H : Type} {enc : TypeId × Value → H} {P : Program}

def TrodOk (enc : TypeId × Value → H) (P : Program) (fuel : Nat) (t : TypeId) (lts : List LT) : Prop :=
  ∀ (w : World) (base : Nat) (sp : Nat → Bool) (held : Bool) (cs : List Value) (x : DataW H) (ps : List MemPlace), DataW.trod enc P w base sp held fuel t cs = some (x, ps) →
    Leaves lts cs ∧ ps = [] ∧ ∀ (w' : World) (base' : Nat) (sp' : Nat → Bool) (held' : Bool), DataW.trod enc P w' base' sp' held' fuel t cs = some (x, [])

theorem leaves_fields {rec : TypeId → Option (List LT)} {cs : List Value} : ∀ {fs : List Field} {o : Nat} {l : List LT}, flatFs P rec o fs = some l → cs.length = o + l.length →
    (∀ f ∈ fs, ∀ r, rec f.type = some r → Leaves r ((cs.drop f.offset).take (P.cellsOf f.type))) → Leaves l (cs.drop o)
  | [], o, l, h, hlen, _ => by
    simp [flatFs] at h
    subst h
    rw [List.drop_of_length_le (by simpa using Nat.le_of_eq hlen)]
    trivial
  | f :: fs, o, l, h, hlen, hp => by
    simp only [flatFs] at h
    split at h
    · rename_i ho
      have ho := Nat.eq_of_beq_eq_true ho
      split at h
      · cases h
      · rename_i r hr
        split at h
        · rename_i hc
          have hc := Nat.eq_of_beq_eq_true hc
          split at h
          · cases h
          · rename_i r' hr'
            cases h
            have h0 := hp f (by simp) r hr
            have h1 := leaves_fields hr' (by simp at hlen; omega) (fun g hg => hp g (List.mem_cons_of_mem _ hg))
            rw [ho, ← hc] at h0
            have h2 := Leaves.append h0 h1
            rw [← List.drop_drop, List.take_append_drop] at h2
            exact h2
        · cases h
    · cases h

theorem trod_flat : ∀ (d : Nat) {t : TypeId} {lts : List LT}, flatT P d t = some lts → ∀ fuel, TrodOk enc P fuel t lts
  | 0, _, _, h, _ => by cases h
  | d + 1, t, lts, h, fuel => by
    intro w base sp held cs x ps hx
    cases fuel with
    | zero => simp [DataW.trod] at hx
    | succ fuel =>
      simp only [flatT] at h
      split at h
      · rename_i hu
        cases h
        obtain ⟨b, rfl, he⟩ := DataW.trod_bool hu hx
        cases he
        exact ⟨⟨trivial, trivial⟩, rfl, fun _ _ _ _ => by simp [DataW.trod, hu]⟩
      · rename_i k hu
        cases h
        obtain ⟨n, rfl, he, hw⟩ := DataW.trod_int hu hx
        cases he
        exact ⟨⟨⟨rfl, hw⟩, trivial⟩, rfl, fun _ _ _ _ => by simp [DataW.trod, hu, hw]⟩
      · rename_i n e hu
        split at h
        · cases h
        · rename_i l hl
          split at h
          · rename_i hc
            cases h
            simp only [Bool.and_eq_true] at hc
            have hc1 := Nat.eq_of_beq_eq_true hc.1
            have hc2 := Nat.eq_of_beq_eq_true hc.2
            simp only [DataW.trod, hu] at hx
            split at hx
            · rename_i hlen
              obtain ⟨xs, hxs, he⟩ := Option.map_eq_some_iff.1 hx
              cases he
              have ih := trod_flat d hl fuel
              have hall := fun w' base' sp' held' => mapM_carry (g := fun i => DataW.trod enc P w' base' sp' held' fuel e ((cs.drop (i * P.cellsOf e)).take (P.cellsOf e))) hxs
                (fun i _ y hy => by
                  have := ih _ _ _ _ _ y.1 y.2 hy
                  exact ⟨by rw [this.2.2 w' base' sp' held', ← this.2.1], this.2.1⟩)
              refine ⟨leaves_rows hc1 (by rw [hlen, hc2, hc1]) (fun i hi => ?_), (hall w base sp held).2.1, fun w' base' sp' held' => ?_⟩
              · obtain ⟨y, hy⟩ := (hall w base sp held).2.2 i (List.mem_range.2 hi)
                exact (ih _ _ _ _ _ y.1 y.2 hy).1
              · obtain ⟨h1, h2, _⟩ := hall w' base' sp' held'
                simp only [DataW.trod, hu]
                rw [if_pos hlen, h1, Option.map_some, h2]
            · cases hx
          · cases h
      · rename_i fs hu
        split at h
        · cases h
        · rename_i l hl
          split at h
          · rename_i hc
            cases h
            have hc1 := Nat.eq_of_beq_eq_true hc
            simp only [DataW.trod, hu] at hx
            split at hx
            · rename_i hlen
              obtain ⟨xs, hxs, he⟩ := Option.map_eq_some_iff.1 hx
              cases he
              -- each field's type has leaves
              have hfl : ∀ {gs : List Field} {o : Nat} {r : List LT}, flatFs P (flatT P d) o gs = some r → ∀ f ∈ gs, ∃ r', flatT P d f.type = some r' := by
                intro gs
                induction gs with
                | nil => intro o r _ f hf; cases hf
                | cons g gs ih =>
                  intro o r hr f hf
                  simp only [flatFs] at hr
                  split at hr
                  · split at hr
                    · cases hr
                    · rename_i r1 hr1
                      split at hr
                      · split at hr
                        · cases hr
                        · rename_i r2 hr2
                          rcases List.mem_cons.1 hf with rfl | hf
                          · exact ⟨r1, hr1⟩
                          · exact ih hr2 f hf
                      · cases hr
                  · cases hr
              have hall := fun w' base' sp' held' => mapM_carry (g := fun f : Field => DataW.trod enc P w' base' sp' held' fuel f.type ((cs.drop f.offset).take (P.cellsOf f.type))) hxs
                (fun f hf y hy => by
                  obtain ⟨r', hr'⟩ := hfl hl f hf
                  have := trod_flat d hr' fuel _ _ _ _ _ y.1 y.2 hy
                  exact ⟨by rw [this.2.2 w' base' sp' held', ← this.2.1], this.2.1⟩)
              refine ⟨?_, (hall w base sp held).2.1, fun w' base' sp' held' => ?_⟩
              · have := leaves_fields (P := P) (cs := cs) hl (by rw [hlen, hc1]; omega) (fun f hf r hr => by
                  obtain ⟨y, hy⟩ := (hall w base sp held).2.2 f hf
                  exact (trod_flat d hr fuel _ _ _ _ _ y.1 y.2 hy).1)
                simpa using this
              · obtain ⟨h1, h2, _⟩ := hall w' base' sp' held'
                simp only [DataW.trod, hu]
                rw [if_pos hlen, h1, Option.map_some, h2]
            · cases hx
          · cases h
      · cases h

def RangeOk : List LT → List DV → Prop
  | [], [] => True
  | .int k :: ts, .i n :: ds => (Lit.int k n).wf = true ∧ RangeOk ts ds
  | .bool :: ts, .b _ :: ds => True ∧ RangeOk ts ds
  | _, _ => False
theorem RangeOk.len : ∀ {ts : List LT} {ds : List DV}, RangeOk ts ds → ds.length = ts.length
  | [], [], _ => rfl
  | .int _ :: _, .i _ :: _, h => by simp [RangeOk.len h.2]
  | .bool :: _, .b _ :: _, h => by simp [RangeOk.len h.2]
  | [], _ :: _, h => h.elim
  | .int _ :: _, [], h => h.elim
  | .bool :: _, [], h => h.elim
  | .int _ :: _, .b _ :: _, h => h.elim
  | .bool :: _, .i _ :: _, h => h.elim
  | .int _ :: _, .l _ :: _, h => h.elim
  | .bool :: _, .l _ :: _, h => h.elim
  | .vec _ :: _, [], h => h.elim
  | .vec _ :: _, _ :: _, h => h.elim
theorem RangeOk.append : ∀ {a b : List LT} {c d : List DV}, RangeOk a c → RangeOk b d → RangeOk (a ++ b) (c ++ d)
  | [], _, [], _, _, h => h
  | .int _ :: _, _, .i _ :: _, _, h, h' => ⟨h.1, RangeOk.append h.2 h'⟩
  | .bool :: _, _, .b _ :: _, _, h, h' => ⟨trivial, RangeOk.append h.2 h'⟩
  | [], _, _ :: _, _, h, _ => h.elim
  | .int _ :: _, _, [], _, h, _ => h.elim
  | .bool :: _, _, [], _, h, _ => h.elim
  | .int _ :: _, _, .b _ :: _, _, h, _ => h.elim
  | .bool :: _, _, .i _ :: _, _, h, _ => h.elim
  | .int _ :: _, _, .l _ :: _, _, h, _ => h.elim
  | .bool :: _, _, .l _ :: _, _, h, _ => h.elim
  | .vec _ :: _, _, [], _, h, _ => h.elim
  | .vec _ :: _, _, _ :: _, _, h, _ => h.elim

theorem RangeOk.int_at : ∀ {ts : List LT} {ds : List DV} {k : IntKind} (i : Nat), RangeOk ts ds → ts[i]? = some (.int k) → (Lit.int k (dget ds i).toI).wf = true
  | .int k :: ts, .i n :: ds, k', 0, h, e => by
    simp at e
    subst e
    exact h.1
  | .int k :: ts, .i n :: ds, k', i + 1, h, e => by
    have := RangeOk.int_at i h.2 (by simpa using e)
    simpa [dget] using this
  | .bool :: ts, .b x :: ds, k', 0, h, e => by simp at e
  | .bool :: ts, .b x :: ds, k', i + 1, h, e => by
    have := RangeOk.int_at i h.2 (by simpa using e)
    simpa [dget] using this
  | [], _, _, _, _, e => by simp at e
  | .int _ :: _, [], _, _, h, _ => h.elim
  | .bool :: _, [], _, _, h, _ => h.elim
  | .int _ :: _, .b _ :: _, _, _, h, _ => h.elim
  | .bool :: _, .i _ :: _, _, _, h, _ => h.elim
  | .int _ :: _, .l _ :: _, _, _, h, _ => h.elim
  | .bool :: _, .l _ :: _, _, _, h, _ => h.elim
  | .vec _ :: _, [], _, _, h, _ => h.elim
  | .vec _ :: _, _ :: _, _, _, h, _ => h.elim

theorem dget_pre (pre : List DV) (d : DV) (post : List DV) : dget (pre ++ d :: post) pre.length = d := by
  simp [dget, List.getD_eq_getElem?_getD]

theorem leaves_vals : ∀ {ts : List LT} {vs : List Value}, Leaves ts vs → ∃ ds, RangeOk ts ds ∧ ∀ pre post : List DV, leafVals (dget (pre ++ ds ++ post)) pre.length ts = vs
  | [], [], _ => ⟨[], trivial, fun _ _ => rfl⟩
  | .int k :: ts, .int k' n :: vs, h => by
    obtain ⟨ds, h1, h2⟩ := leaves_vals h.2
    obtain ⟨⟨rfl, hw⟩, _⟩ := h
    refine ⟨.i n :: ds, ⟨hw, h1⟩, fun pre post => ?_⟩
    have := h2 (pre ++ [.i n]) post
    simp only [leafVals, List.append_assoc, List.cons_append, List.nil_append, List.length_append, List.length_cons, List.length_nil, Nat.zero_add] at this ⊢
    rw [this, dget_pre]
    rfl
  | .bool :: ts, .bool b :: vs, h => by
    obtain ⟨ds, h1, h2⟩ := leaves_vals h.2
    refine ⟨.b b :: ds, ⟨trivial, h1⟩, fun pre post => ?_⟩
    have := h2 (pre ++ [.b b]) post
    simp only [leafVals, List.append_assoc, List.cons_append, List.nil_append, List.length_append, List.length_cons, List.length_nil, Nat.zero_add] at this ⊢
    rw [this, dget_pre]
    rfl
  | [], _ :: _, h => h.elim
  | _ :: _, [], h => h.elim
  | .int _ :: _, .bool _ :: _, h => h.1.elim
  | .bool :: _, .int _ _ :: _, h => h.1.elim
  | .vec _ :: _, _ :: _, h => h.1.elim

theorem open_plain {w : World} {base b0 : Nat} {sp : Nat → Bool} {held : Bool} {r : Reach} {t : TypeId} {v : Value} {d : DataW H} {ps : List MemPlace} {s : Sh} (hs : shapeOf P t = some s)
    (hval : Value.okWide P w r b0 t v) (hd : DataW.Trod enc P w base sp held t v d ps) :
    ∃ ds : List DV, RangeOk s.lts ds ∧ ps = [] ∧ (∀ (pre post : List DV) (ss : List Sh), argVals (dget (pre ++ ds ++ post)) pre.length (s :: ss) = v :: argVals (dget (pre ++ ds ++ post)) (pre.length + ds.length) ss) ∧
      ∀ (w' : World) (base' : Nat) (sp' : Nat → Bool) (held' : Bool), DataW.Trod enc P w' base' sp' held' t v d [] := by
  obtain ⟨fuel, hf⟩ := hd
  unfold shapeOf at hs
  split at hs
  · rename_i hu
    cases hs
    obtain ⟨b, rfl⟩ := okWide_bool hu hval
    have hfl : flatT P 1 t = some [.bool] := by simp [flatT, hu]
    obtain ⟨_, h2, h3⟩ := trod_flat (enc := enc) 1 hfl fuel _ _ _ _ _ _ _ hf
    refine ⟨[.b b], ⟨trivial, trivial⟩, h2, fun pre post ss => ?_, fun w' base' sp' held' => ⟨fuel, h3 w' base' sp' held'⟩⟩
    simp only [argVals, List.append_assoc, List.cons_append, List.nil_append, dget_pre, List.length_cons, List.length_nil]
    rfl
  · rename_i k hu
    cases hs
    obtain ⟨n, rfl⟩ := okWide_int hu hval
    have hfl : flatT P 1 t = some [.int k] := by simp [flatT, hu]
    obtain ⟨h1, h2, h3⟩ := trod_flat (enc := enc) 1 hfl fuel _ _ _ _ _ _ _ hf
    refine ⟨[.i n], ⟨h1.1.2, trivial⟩, h2, fun pre post ss => ?_, fun w' base' sp' held' => ⟨fuel, h3 w' base' sp' held'⟩⟩
    simp only [argVals, List.append_assoc, List.cons_append, List.nil_append, dget_pre, List.length_cons, List.length_nil]
    rfl
  · rename_i n e hu
    obtain ⟨l, hl, rfl⟩ := Option.map_eq_some_iff.1 hs
    simp only [Value.okWide, hu] at hval
    obtain ⟨cs, rfl, _, _⟩ := hval
    obtain ⟨h1, h2, h3⟩ := trod_flat (enc := enc) 20 hl fuel _ _ _ _ _ _ _ hf
    obtain ⟨ds, h4, h5⟩ := leaves_vals h1
    refine ⟨ds, h4, h2, fun pre post ss => ?_, fun w' base' sp' held' => ⟨fuel, h3 w' base' sp' held'⟩⟩
    simp only [argVals, h5 pre post, ← h4.len]
    rfl
  · rename_i fs hu
    obtain ⟨l, hl, rfl⟩ := Option.map_eq_some_iff.1 hs
    simp only [Value.okWide, hu] at hval
    obtain ⟨cs, rfl, _, _⟩ := hval
    obtain ⟨h1, h2, h3⟩ := trod_flat (enc := enc) 20 hl fuel _ _ _ _ _ _ _ hf
    obtain ⟨ds, h4, h5⟩ := leaves_vals h1
    refine ⟨ds, h4, h2, fun pre post ss => ?_, fun w' base' sp' held' => ⟨fuel, h3 w' base' sp' held'⟩⟩
    simp only [argVals, h5 pre post, ← h4.len]
    rfl
  · cases hs

theorem open_all {w : World} {base b0 : Nat} {sp : Nat → Bool} {held : Bool} {r : Reach} : ∀ {ts : List TypeId} {vs : List Value} {ds : List (DataW H)} {ps : List MemPlace} {ss : List Sh}, shapesOf P ts = some ss →
    (∀ (j : Nat) t v, ts[j]? = some t → vs[j]? = some v → Value.okWide P w r b0 t v) → DataW.TrodAll enc P w base sp held ts vs ds ps →
    ∃ xs : List DV, RangeOk (ss.flatMap Sh.lts) xs ∧ ps = [] ∧ (∀ pre : List DV, argVals (dget (pre ++ xs)) pre.length ss = vs) ∧ ds.length = ts.length ∧
      ∀ (w' : World) (base' : Nat) (sp' : Nat → Bool) (held' : Bool), DataW.TrodAll enc P w' base' sp' held' ts vs ds []
  | [], [], [], ps, ss, hs, _, hd => by
    simp [shapesOf] at hs
    subst hs
    exact ⟨[], trivial, hd, fun _ => rfl, rfl, fun _ _ _ _ => rfl⟩
  | t :: ts, v :: vs, d :: ds, ps, ss, hs, hval, hd => by
    simp only [shapesOf] at hs
    split at hs
    · cases hs
    · rename_i s hs1
      split at hs
      · cases hs
      · rename_i r hs2
        cases hs
        obtain ⟨p, q, h1, h2, rfl⟩ := hd
        obtain ⟨xs, a1, rfl, a3, a4⟩ := open_plain hs1 (hval 0 t v rfl rfl) h1
        obtain ⟨ys, b1, rfl, b3, b5, b4⟩ := open_all hs2 (fun j t v ht hv => hval (j + 1) t v (by simpa using ht) (by simpa using hv)) h2
        refine ⟨xs ++ ys, by simpa using RangeOk.append a1 b1, rfl, fun pre => ?_, by simp [b5], fun w' base' sp' held' => ⟨[], [], a4 w' base' sp' held', b4 w' base' sp' held', rfl⟩⟩
        have e1 := a3 pre ys r
        have e2 := b3 (pre ++ xs)
        rw [List.length_append] at e2
        rw [← List.append_assoc, e1, e2]
  | [], _ :: _, _, _, _, _, _, hd => by cases hd
  | [], [], _ :: _, _, _, _, _, hd => by cases hd
  | _ :: _, [], _, _, _, _, _, hd => by cases hd
  | _ :: _, _ :: _, [], _, _, _, _, hd => by cases hd
end

section
variable {C : Checked} {os : Os} {f : FuncId} {fn : Func} {s : ChangeSpec} {H : Type} {enc : TypeId × Value → H} {sg : Sig} {G : List DV → List DV} {I : World → Prop}

theorem post_plain {W W' : World} {args : Array Value} {ds gs : List (DataW H)} {tb : TypeId} (hW : DataW.Whole enc C.prog fn.params.toList s.vars false W args.toList ds gs [])
    (hrt : fn.resultTypes = #[tb]) (htb : C.prog.underlying tb = some .bool) (hvars : s.vars = [])
    (hs : s.fn H (ds ++ gs) = { results := [.lit (.bool true)], args := ds })
    (hargs : ∀ (w' : World) (base' : Nat) (sp' : Nat → Bool) (held' : Bool), DataW.TrodAll enc C.prog w' base' sp' held' fn.params.toList args.toList ds [])
    (hb : Below W.heap.size W W') : s.post enc C.prog fn false true false false W args (.bool true) W' := by
  refine ⟨ds, gs, [], [], [], [], hW, ?_, ?_, ?_, hb.frame _, fun h => by cases h⟩
  · rw [hs, hrt]
    exact trodAll_mk1 (shut_bool htb true)
  · rw [hs]
    exact hargs _ _ _ _
  · rw [hs, hvars]
    rfl

structure LawSig (sg : Sig) (ss : List Sh) : Prop where
  ins : sg.ins = patShapes 0 ss
  hin : sg.hin = []
  nin : sg.nin = nIn ss
  out : sg.out = .s (.one (.b (.h 0)))
  hout : sg.hout = []
  ots : sg.ots = [.b]

theorem law_contract {gK : Nat} {ss : List Sh} (k : FnOK C.prog I gK f sg G) (hsh : shapesOf C.prog fn.params.toList = some ss) (hl : LawSig sg ss) {tb : TypeId} (hrt : fn.resultTypes = #[tb])
    (htb : C.prog.underlying tb = some .bool) (hvars : s.vars = []) (hs : ∀ ds : List (DataW H), ds.length = fn.params.size → s.fn H ds = { results := [.lit (.bool true)], args := ds })
    (hG : ∀ xs, RangeOk (ss.flatMap Sh.lts) xs → (sg.need = true → (dget (G xs) 0).toB = true) ∧ (dget (G xs) (if sg.need then 1 else 0)).toB = true)
    {W : World} {base : Nat} {args : Array Value} {ds gs : List (DataW H)} {before : List MemPlace}
    (hval : ∀ (j : Nat) t v, fn.params[j]? = some t → args[j]? = some v → Value.okWide C.prog W .any base t v)
    (hW : DataW.Whole enc C.prog fn.params.toList s.vars false W args.toList ds gs before) (hI : I W) (hK : gK ≤ W.heap.size) :
    Calls C.prog f args W fun e W' => ∃ v, e = .returned v ∧ s.post enc C.prog fn false true false false W args v W' := by
  have hW0 := hW
  obtain ⟨p, q, hA, hV, rfl, _, _⟩ := hW
  rw [hvars] at hV
  obtain ⟨rfl, rfl⟩ := trodVars_none hV
  obtain ⟨xs, h1, rfl, h2, h3, h4⟩ := open_all hsh (fun j t v ht hv => hval j t v (by simpa using ht) (by simpa using hv)) hA
  have hx : nIn ss = (ss.flatMap Sh.lts).length := by
    unfold nIn
    rw [List.length_flatMap]
  have hg := hG xs h1
  have hhin : sg.hinI = [] := by unfold Sig.hinI; rw [hl.hin]; rfl
  have hempty : ∀ (E : Env) (ν : Nat → DV), HRel E ν (fun _ => default) [] W := fun E ν =>
    ⟨fun j bk hj => (by cases j <;> cases hj), fun j j' bk bk' hj => (by cases j <;> cases hj)⟩
  have hnW : ∀ b, ¬ (callEnv sg.hinI (fun _ => default) W).W b := fun b ⟨j, bk, hj, _⟩ => by rw [hhin] at hj; cases j <;> cases hj
  obtain ⟨c1, c2⟩ := patShapes_conc (n := sg.nin) (dget xs) (fun _ => default) ss 0 (by rw [hl.nin]; omega)
  have hins : sg.insI = (patShapes 0 ss).map (V.inst (idsFrom 0 sg.nin)) := by unfold Sig.insI; rw [hl.ins]
  have hk := k xs (fun _ => default) W hI (by rw [hl.nin, hx]; exact h1.len) hg.1 hK (fun b hb => absurd hb (hnW b)) (by rw [hins]; exact c2)
    (by rw [hhin]; exact hempty _ _)
  have ha : (sg.insI.map (V.conc (dget xs) fun _ => default)).toArray = args := by
    rw [hins, c1]
    apply Array.ext'
    simpa using h2 []
  rw [ha] at hk
  refine hk.mono fun e W' ⟨v, ρ', he, hc⟩ => ⟨.bool true, ?_, post_plain (s := s) hW0 hrt htb hvars ?_ h4 (hc.fr.weaken (W' := fun _ => False) fun b hb => hnW b hb).below⟩
  · rw [he, hc.val]
    have : sg.outI.conc (sg.res (G xs)) ρ' = .bool (dget (G xs) (if sg.need then 1 else 0)).toB := by
      unfold Sig.outI Sig.res
      rw [hl.out, hl.ots]
      show Value.bool (dget (G xs) (0 + _)).toB = _
      rw [Nat.zero_add]
    rw [this, hg.2]
  · rw [List.append_nil]
    exact hs ds (by simpa using h3)

theorem law_lifted {gK : Nat} {ss : List Sh} (k : FnOK C.prog I gK f sg G) (hsh : shapesOf C.prog fn.params.toList = some ss) (hl : LawSig sg ss) {tb : TypeId} (hrt : fn.resultTypes = #[tb])
    (htb : C.prog.underlying tb = some .bool) (hvars : s.vars = []) (hs : ∀ ds : List (DataW H), ds.length = fn.params.size → s.fn H ds = { results := [.lit (.bool true)], args := ds })
    (hG : ∀ xs, RangeOk (ss.flatMap Sh.lts) xs → (sg.need = true → (dget (G xs) 0).toB = true) ∧ (dget (G xs) (if sg.need then 1 else 0)).toB = true)
    (hI : ∀ W, I W) (hK : gK = 0)
    (own : ownKnob C.prog.godebug = none) (started : os.Started) (noInit : C.prog.inits.idxOf? f = none) (hfn : C.prog.funcs[f]? = some fn)
    (witness : ∃ (w : World) (tape : Tape) (i : Input), w.os = os ∧ (w.forCall tape i).Shaped C.prog ∧ i.vars = [] ∧ Input.okWide C.prog (w.forCall tape i) .any w.heap.size f i ∧
      s.pre6 enc C.prog fn [] false (w.forCall tape i).memory i.args ∧ ({} : Assume).holds C.prog (lone (Frame.enter C.prog f i.args .normal) [] (w.forCall tape i))) :
    ReturnsInHanded {} C os f .any (s.pre6 enc C.prog fn [] false) (s.post enc C.prog fn false true false false) :=
  returnsInHanded_of_change (C := C) own started noInit hfn witness
    fun W _ _ _ _ _ hval hW _ _ => law_contract k hsh hl hrt htb hvars hs hG hval hW (hI W) (by rw [hK]; exact Nat.zero_le _)
end
end Go.Sx

namespace Go.Proofs.Ytacciadcmiiimaa
open Go Go.Sx Go.Rnd
set_option maxRecDepth 100000
set_option maxHeartbeats 2000000

def sxN (y : Nat) : Nat := if y % 4294967296 < 2147483648 then y % 4294967296 else y % 4294967296 + 18446744069414584320
def xwN (word uns : Bool) (x : Nat) : Nat := if word then (if uns then x % 4294967296 else sxN x) else x
def fmiN (word uns : Bool) (x : Nat) : Bool := !uns && decide (9223372036854775808 ≤ xwN word uns x)
def fmN (word uns : Bool) (x : Nat) : Nat := if fmiN word uns x then 18446744073709551616 - xwN word uns x else xwN word uns x
def frS (s rm : Int) (word uns : Bool) (x : Nat) : Nat × Nat :=
  if fmN word uns x = 0 then (0, 0) else rndP s rm (fmiN word uns x) (fmN word uns x) 0 false

theorem sx_ok (x : Nat) : IntKind.wrap .u64 (IntKind.wrap .i32 (x : Int)) = (sxN x : Int) := by
  rw [wrap_i32, wrap_u64]
  unfold sxN
  split <;> split <;> omega
theorem xw_lt {word uns : Bool} {x : Nat} (h : x < 18446744073709551616) : xwN word uns x < 18446744073709551616 := by
  unfold xwN sxN; cases word <;> cases uns <;> simp only [if_true, if_false, Bool.false_eq_true] <;> (try split) <;> omega
theorem fm_lt {word uns : Bool} {x : Nat} (h : x < 18446744073709551616) : fmN word uns x < 18446744073709551616 := by
  have h1 := xw_lt (word := word) (uns := uns) h
  unfold fmN fmiN
  split <;> rename_i h2
  · simp only [Bool.and_eq_true, dec] at h2; omega
  · exact h1
theorem neg_ok {m : Nat} (h : m < 18446744073709551616) (h0 : 0 < m) : IntKind.wrap .u64 (0 - (m : Int)) = ((18446744073709551616 - m : Nat) : Int) := by rw [wrap_u64]; omega
theorem min_ok {m : Nat} (h : m < 18446744073709551616) : decide (IntKind.wrap .i64 (m : Int) < 0) = decide (9223372036854775808 ≤ m) := by
  rw [wrap_i64, Bool.eq_iff_iff]; simp only [dec]; split <;> omega

section
variable {s rm : Int} (hs : s = 4 ∨ s = 8) (h0 : 0 ≤ rm) (h1 : rm ≤ 4) {word uns : Bool} {x : Nat} (hx : x < 18446744073709551616)
include hs h0 h1 hx
theorem sfrom_ok : p27 s rm word uns x = true ∧ r27_0 s rm word uns x = ((frS s rm word uns x).1 : Int) ∧ r27_1 s rm word uns x = ((frS s rm word uns x).2 : Int) := by
  obtain ⟨g1, g2, g3⟩ := of62 hs
  have hk : r64_0 s rm = true := (right_ok hs h0 h1).1
  have e14 : (bif word && uns then IntKind.wrap .u64 (IntKind.wrap .u32 (x : Int)) else bif word then IntKind.wrap .u64 (IntKind.wrap .i32 (x : Int)) else (x : Int)) = (xwN word uns x : Int) := by
    rw [sx_ok, wr32, wr64 (by omega)]
    cases word <;> cases uns <;> rfl
  have hxw := xw_lt (word := word) (uns := uns) hx
  have e17 := min_ok hxw
  have hlt := fm_lt (word := word) (uns := uns) hx
  have e20 : (bif (!uns && decide (9223372036854775808 ≤ xwN word uns x)) then IntKind.wrap .u64 (0 - (xwN word uns x : Int)) else (xwN word uns x : Int)) = (fmN word uns x : Int) := by
    unfold fmN fmiN
    by_cases h : (!uns && decide (9223372036854775808 ≤ xwN word uns x)) = true
    · rw [h, if_pos rfl, cond_true, neg_ok hxw (by simp only [Bool.and_eq_true, dec] at h; omega)]
    · rw [if_neg h, Bool.not_eq_true] at *
      rw [h, cond_false]
  have e21 : ((fmN word uns x : Int) == 0) = decide (fmN word uns x = 0) := by
    rw [Bool.eq_iff_iff]; simp only [beq_iff_eq, dec]; omega
  have key : 0 < fmN word uns x → _ := fun h => cround_ok hs (rm := rm) (minus := fmiN word uns x) (e := 0) h hlt (by omega) (by omega)
  have em : (!uns && decide (9223372036854775808 ≤ xwN word uns x)) = fmiN word uns x := rfl
  rw [em] at e20
  unfold frS
  refine ⟨?_, ?_, ?_⟩
  · simp only [p27, hk, e14, e17, em, e20, e21, g1, g2]
    by_cases hz : fmN word uns x = 0
    · rw [decide_eq_true hz]; rfl
    · rw [(key (by omega)).1, decide_eq_false hz]; rfl
  · simp only [r27_0, hk, e14, e17, em, e20, e21, g1, g2, g3]
    by_cases hz : fmN word uns x = 0
    · rw [decide_eq_true hz, if_pos hz]; rfl
    · rw [(key (by omega)).2.1, decide_eq_false hz, if_neg hz]; rfl
  · simp only [r27_1, hk, e14, e17, em, e20, e21, g1, g2]
    by_cases hz : fmN word uns x = 0
    · rw [decide_eq_true hz, if_pos hz]; rfl
    · rw [(key (by omega)).2.2, decide_eq_false hz, if_neg hz]; rfl
end

def loN2 (word uns : Bool) : Nat := if uns then 0 else if word then 2147483648 else 9223372036854775808
def upN2 (word uns : Bool) : Nat := if uns then (if word then 4294967295 else 18446744073709551615) else (if word then 2147483647 else 9223372036854775807)
def tolN (minus : Bool) (n : Nat) (word : Bool) : Nat :=
  if word then sxN (if minus then (18446744073709551616 - n) % 18446744073709551616 else n) else (if minus then (18446744073709551616 - n) % 18446744073709551616 else n)
def whN (s rm : Int) (a : Nat) : Nat × Bool := if infN s a then (0, true) else cutN rm (sgN s a) (fM s a) (-fE s a) false
def toS (s rm : Int) (word uns : Bool) (a : Nat) : Nat × Nat :=
  if nanN s a then (tolN false (upN2 word uns) word, 16)
  else if sgN s a && (infN s a || decide (loN2 word uns < (whN s rm a).1)) then (tolN true (loN2 word uns) word, 16)
  else if !sgN s a && (infN s a || decide (upN2 word uns < (whN s rm a).1)) then (tolN false (upN2 word uns) word, 16)
  else (tolN (sgN s a) (whN s rm a).1 word, if (whN s rm a).2 then 0 else 1)

theorem told_ok (minus : Bool) {n : Nat} (word : Bool) (h : n < 18446744073709551616) : r66_0 minus (n : Int) word = (tolN minus n word : Int) := by
  have e : (bif minus then IntKind.wrap .u64 (0 - (n : Int)) else (n : Int)) = (((if minus then (18446744073709551616 - n) % 18446744073709551616 else n : Nat) : Int)) := by
    cases minus with
    | false => rfl
    | true => rw [if_pos rfl, cond_true, wrap_u64]; omega
  simp only [r66_0, e, sx_ok]
  unfold tolN
  cases word <;> rfl
theorem lo2_lt (word uns : Bool) : loN2 word uns < 18446744073709551616 ∧ upN2 word uns < 18446744073709551616 := by cases word <;> cases uns <;> decide
end Go.Proofs.Ytacciadcmiiimaa

namespace Go.Proofs.Ytacciadcmiiimaa
open Go Go.Sx Go.Rnd
set_option maxRecDepth 100000
set_option maxHeartbeats 2000000

theorem cutN_nought {rm : Int} {minus : Bool} {b : Int} : cutN rm minus 0 b false = (0, true) := by
  unfold cutN
  split
  · rw [Nat.zero_mul]; rfl
  · rename_i h
    have := cutP_exact (rm := rm) (minus := minus) (q := 0) (n := b.toNat) (by omega)
    rw [Nat.zero_mul] at this
    exact this
theorem ccut_all (rm : Int) (minus : Bool) {m : Nat} {b : Int} (hm : m < 18446744073709551616) (hb : 0 ≤ b) : r70_0 rm minus (m : Int) b = ((cutN rm minus m b false).1 : Int) ∧ r70_1 (m : Int) b = (cutN rm minus m b false).2 := by
  by_cases h : 0 < m ∧ 0 < b
  · exact ccut_ok rm minus h.1 hm h.2
  · by_cases hb0 : b = 0
    · subst hb0
      have e : cutN rm minus m 0 false = (m, true) := by
        unfold cutN; rw [if_pos (by decide)]
        show (m * 2 ^ 0, true) = _
        rw [Nat.pow_zero, Nat.mul_one]
      rw [e]
      exact ⟨rfl, rfl⟩
    · have hm0 : m = 0 := by omega
      subst hm0
      have e4 : decide (b ≤ 0) = false := decide_eq_false (by omega)
      rw [cutN_nought]
      refine ⟨?_, ?_⟩
      · simp only [r70_0, e4]; rfl
      · simp only [r70_1, e4]; rfl

section
variable {s rm : Int} (hs : s = 4 ∨ s = 8) (h0 : 0 ≤ rm) (h1 : rm ≤ 4) {word uns : Bool} {a : Nat} (ha : a < 18446744073709551616)
include hs ha
theorem sway_ok : ∃ fr : Bool, (decide (fE s a > 0) && ((fM s a : Int) != 0) && decide (IntKind.wrap .i64 (r69_0 (fM s a : Int) + fE s a) > 64)) = fr ∧
    (fr = true → 18446744073709551616 ≤ (cutN rm (sgN s a) (fM s a) (-fE s a) false).1) ∧
    (fr = false → (bif decide (fE s a > 0) then ishl .u64 (fM s a : Int) (fE s a) else r70_0 rm (sgN s a) (fM s a : Int) (IntKind.wrap .i64 (0 - fE s a))) = ((cutN rm (sgN s a) (fM s a) (-fE s a) false).1 : Int) ∧
      (decide (fE s a > 0) || r70_1 (fM s a : Int) (IntKind.wrap .i64 (0 - fE s a))) = (cutN rm (sgN s a) (fM s a) (-fE s a) false).2 ∧ (cutN rm (sgN s a) (fM s a) (-fE s a) false).1 < 18446744073709551616) := by
  have hE := fE_le hs ha
  have hl := blenM hs ha
  have hM : fM s a < 18446744073709551616 := by have := blen_le.1 hl; omega
  rw [blen64 hM, wrap_i64_of (n := (blen (fM s a) : Int) + fE s a) (by omega) (by omega), wrap_i64_of (n := 0 - fE s a) (by omega) (by omega)]
  generalize fM s a = M at *
  generalize fE s a = E at *
  generalize sgN s a = mi at *
  by_cases hp : 0 < E
  · obtain ⟨n, rfl⟩ : ∃ n : Nat, E = (n : Int) := ⟨E.toNat, by omega⟩
    have ec : cutN rm mi M (-(n : Int)) false = (M * 2 ^ n, true) := by
      unfold cutN; rw [if_pos (by omega)]
      have en : (- -(n : Int)).toNat = n := by omega
      rw [en]; rfl
    rw [ec, decide_eq_true (show (n : Int) > 0 from hp)]
    by_cases hz : M = 0
    · subst hz
      have : ishl .u64 ((0 : Nat) : Int) (n : Int) = 0 := by rw [shl_nat, Nat.zero_mul]; rfl
      refine ⟨false, rfl, by simp, fun _ => ⟨?_, rfl, by rw [Nat.zero_mul]; decide⟩⟩
      rw [this, Nat.zero_mul]; rfl
    · have hnz : ((M : Int) != 0) = true := by rw [bne_iff_ne]; omega
      by_cases hf : 64 < blen M + n
      · refine ⟨true, ?_, ?_, by simp⟩
        · rw [hnz, decide_eq_true (show (blen M : Int) + n > 64 by omega)]; rfl
        · intro _
          have h2 := blen_shift (h := M) (j := n) (l := 0) (by omega) (Nat.two_pow_pos n)
          have h3 : 64 < blen (M * 2 ^ n) := by rw [Nat.add_zero] at h2; omega
          exact lt_blen.1 h3
      · have h2 := blen_shift (h := M) (j := n) (l := 0) (by omega) (Nat.two_pow_pos n)
        have h3 : blen (M * 2 ^ n) ≤ 64 := by rw [Nat.add_zero] at h2; omega
        have h4 : M * 2 ^ n < 18446744073709551616 := blen_le.1 h3
        refine ⟨false, ?_, by simp, fun _ => ⟨?_, rfl, h4⟩⟩
        · rw [hnz, decide_eq_false (show ¬ (blen M : Int) + n > 64 by omega)]; rfl
        · rw [shl_lt h4]; rfl
  · obtain ⟨c1, c2⟩ := ccut_all rm mi (m := M) (b := 0 - E) hM (by omega)
    have e : (0 - E) = -E := by omega
    rw [e] at c1 c2
    refine ⟨false, ?_, by simp, fun _ => ⟨?_, ?_, ?_⟩⟩
    · rw [decide_eq_false (show ¬ E > 0 by omega)]; rfl
    · rw [decide_eq_false (show ¬ E > 0 by omega), e, c1]; rfl
    · rw [decide_eq_false (show ¬ E > 0 by omega), e, c2]; rfl
    · have := cutN_le (rm := rm) (minus := mi) (M := M) (b := -E) (more := false) (k := 53) (by omega)
      omega
include h0 h1
theorem sto_ok : p25 s rm a = true ∧ r25_0 s rm word uns a = ((toS s rm word uns a).1 : Int) ∧ r25_1 s rm word uns a = ((toS s rm word uns a).2 : Int) := by
  obtain ⟨g1, g2, g3⟩ := of62 hs
  have hk : r64_0 s rm = true := (right_ok hs h0 h1).1
  have km := cminus_ok hs ha
  obtain ⟨kp, kc⟩ := cclass_ok hs ha
  obtain ⟨d1, d2, d3⟩ := cfin_ok hs ha
  have hE := fE_le hs ha
  obtain ⟨l1, l2⟩ := lo2_lt word uns
  have e16 : (bif uns then 0 else (bif word then 2147483648 else 9223372036854775808 : Int)) = (loN2 word uns : Int) := by cases word <;> cases uns <;> rfl
  have e17 : (bif uns then IntKind.wrap .u64 (IntKind.wrap .u64 (2 * (bif word then 2147483647 else 9223372036854775807 : Int)) + 1) else (bif word then 2147483647 else 9223372036854775807 : Int)) = (upN2 word uns : Int) := by cases word <;> cases uns <;> decide
  have hx : (if 0 < exf s a then (6 : Int) else 5) = 6 ∨ (if 0 < exf s a then (6 : Int) else 5) = 5 := by split <;> simp
  have c8 : decide (clN s a ≥ 8) = nanN s a := by
    unfold clN
    generalize (if 0 < exf s a then (6 : Int) else 5) = c at *
    cases nanN s a <;> cases loudN s a <;> cases infN s a <;> cases zerN s a <;> rcases hx with rfl | rfl <;> rfl
  have c7 : (clN s a == 7) = (infN s a && !nanN s a) := by
    unfold clN
    generalize (if 0 < exf s a then (6 : Int) else 5) = c at *
    cases nanN s a <;> cases loudN s a <;> cases infN s a <;> cases zerN s a <;> rcases hx with rfl | rfl <;> rfl
  have hin := inf_nan (s := s) (a := a)
  have c7 : (clN s a == 7) = infN s a := by
    rw [c7]; revert hin; cases infN s a <;> cases nanN s a <;> intro hin <;> first | rfl | cases hin rfl
  constructor
  · simp only [p25, hk, g1, g2, g3, kp, kc, d1, d2, d3, p69_ok, ow_t]
    have e36 : decide (fE s a > 0) = true → decide (fE s a ≥ 0) = true := fun h => decide_eq_true (by have := of_decide_eq_true h; omega)
    generalize decide (fE s a ≥ 0) = q at *
    revert e36
    generalize decide (fE s a > 0) = t at *
    intro e36
    simp only [p70_ok, ow_t]
    cases t
    · simp [ow]
    · rw [e36 rfl]; simp [ow]
  · obtain ⟨fr, w1, w2, w3⟩ := sway_ok (rm := rm) hs ha
    have t1 := told_ok true word l1
    have t2 := told_ok false word l2
    have t3 : (cutN rm (sgN s a) (fM s a) (-fE s a) false).1 < 18446744073709551616 → _ := fun h => told_ok (sgN s a) word h
    unfold toS whN
    generalize hcut : cutN rm (sgN s a) (fM s a) (-fE s a) false = C at *
    obtain ⟨C1, C2⟩ := C
    have f1 : fr = true → decide (loN2 word uns < C1) = true := fun h => decide_eq_true (Nat.lt_of_lt_of_le l1 (w2 h))
    have f2 : fr = true → decide (upN2 word uns < C1) = true := fun h => decide_eq_true (Nat.lt_of_lt_of_le l2 (w2 h))
    have n1 : decide ((C1 : Int) > (loN2 word uns : Int)) = decide (loN2 word uns < C1) := by rw [Bool.eq_iff_iff]; simp only [dec]; omega
    have n2 : decide ((C1 : Int) > (upN2 word uns : Int)) = decide (upN2 word uns < C1) := by rw [Bool.eq_iff_iff]; simp only [dec]; omega
    constructor
    · simp only [r25_0, hk, g1, g2, g3, kc, km, d2, d3, e16, e17, c8, c7, w1, t1, t2]
      generalize (bif decide (fE s a > 0) then ishl .u64 (fM s a : Int) (fE s a) else r70_0 rm (sgN s a) (fM s a : Int) (IntKind.wrap .i64 (0 - fE s a))) = V at *
      generalize (decide (fE s a > 0) || r70_1 (fM s a : Int) (IntKind.wrap .i64 (0 - fE s a))) = X at *
      cases fr
      · obtain ⟨e1, e2, e3⟩ := w3 rfl
        have t3 := t3 e3
        have e1 : V = (C1 : Int) := e1
        have e2 : X = C2 := e2
        subst e1 e2
        simp only [cond_false, Bool.false_or]
        revert hin
        cases hi : infN s a
        · intro _
          simp only [t3, n1, n2, cond_false, Bool.false_or, if_false, Bool.false_eq_true]
          cases nanN s a <;> cases sgN s a <;> cases decide (loN2 word uns < C1) <;> cases decide (upN2 word uns < C1) <;> cases X <;> rfl
        · intro hin
          rw [hin rfl]
          cases sgN s a <;> rfl
      · have f1 := f1 rfl
        have f2 := f2 rfl
        revert hin
        cases infN s a <;> intro hin
        · cases nanN s a <;> cases sgN s a <;> simp [f1, f2] 
        · rw [hin rfl]
          cases sgN s a <;> rfl
    · simp only [r25_1, hk, g1, g2, g3, kc, km, d2, d3, e16, e17, c8, c7, w1]
      generalize (bif decide (fE s a > 0) then ishl .u64 (fM s a : Int) (fE s a) else r70_0 rm (sgN s a) (fM s a : Int) (IntKind.wrap .i64 (0 - fE s a))) = V at *
      generalize (decide (fE s a > 0) || r70_1 (fM s a : Int) (IntKind.wrap .i64 (0 - fE s a))) = X at *
      cases fr
      · obtain ⟨e1, e2, e3⟩ := w3 rfl
        have e1 : V = (C1 : Int) := e1
        have e2 : X = C2 := e2
        subst e1 e2
        simp only [cond_false, Bool.false_or]
        revert hin
        cases hi : infN s a
        · intro _
          simp only [n1, n2, cond_false, Bool.false_or, if_false, Bool.false_eq_true]
          cases nanN s a <;> cases sgN s a <;> cases decide (loN2 word uns < C1) <;> cases decide (upN2 word uns < C1) <;> cases X <;> rfl
        · intro hin
          rw [hin rfl]
          cases sgN s a <;> rfl
      · have f1 := f1 rfl
        have f2 := f2 rfl
        revert hin
        cases infN s a <;> intro hin
        · cases nanN s a <;> cases sgN s a <;> simp [f1, f2] 
        · rw [hin rfl]
          cases sgN s a <;> rfl
end
end Go.Proofs.Ytacciadcmiiimaa

namespace Go.Proofs.Ytacciadcmiiimaa
open Go Go.Sx Go.Rnd
set_option maxRecDepth 100000
set_option maxHeartbeats 2000000

def Val (s : Int) (w : Nat) (V : Int) : Prop :=
  w < 18446744073709551616 ∧ mkN s w = w ∧ nanN s w = false ∧ infN s w = false ∧ ((V = 0 ∧ zerN s w = true ∧ fM s w = 0) ∨ (V ≠ 0 ∧ finN s w = true ∧ sgN s w = decide (V < 0) ∧ SameV (fM s w) (fE s w) V.natAbs 0))
section
variable {s rm : Int} (hs : s = 4 ∨ s = 8)
include hs
theorem val_zero (mi : Bool) : Val s (sgB s mi) 0 := by
  have o := one_pos hs
  have hi : 0 < infB s := by rcases hs with rfl | rfl <;> decide
  obtain ⟨w1, w2, w3, w4⟩ := w_parts hs (mi := mi) (v := 0) (by omega)
  obtain ⟨k1, k2, k3⟩ := k_parts hs (a := sgB s mi + 0)
  rw [w2] at k1 k2 k3
  rw [Nat.add_zero] at *
  have hz : zerN s (sgB s mi) = true := by rw [k3]; rfl
  refine ⟨w4, w3, by rw [k1]; exact decide_eq_false (by omega), by rw [k2]; exact decide_eq_false (by omega), .inl ⟨rfl, hz, ?_⟩⟩
  exact zer_M hs w4 hz
theorem rnd_small {mi : Bool} {M : Nat} (h0 : 0 < M) (h1 : M < 16777216) : (rnd (frN s) (biN s) rm mi M 0 false).2 = 0 := by
  obtain ⟨o1, o2, o3, o4, o5, o6⟩ := one_pos hs
  obtain ⟨f1, f2, f3, f4, f5, f6, f7, f8, f9, f10⟩ := size_facts hs
  have hb := blen_pos h0
  have hb2 : blen M ≤ 24 := blen_le.2 h1
  have hl : lastOf (frN s) (biN s) (blen M + 0) = blen M - frN s - 1 := by
    unfold lastOf least; rw [if_neg (by omega)]; omega
  obtain ⟨q1, q2⟩ := q_facts (f := frN s) (b := biN s) (E := 0) h0
  rw [rnd_eq o6 h0]
  have e3 : exOf (frN s) (biN s) M 0 false = true := by unfold exOf exaN; rw [hl, if_pos (by omega)]; rfl
  have e4 : upOf (frN s) (biN s) rm mi M 0 false = false := by unfold upOf; exact upM_exact e3
  have e2 : (nOf (frN s) (biN s) M 0 : Int) = blen M + biN s - 2 := by unfold nOf least; rw [hl]; omega
  rw [e3, e4, if_neg Bool.false_ne_true, Nat.add_zero]
  unfold tolF
  rw [if_neg]
  · rfl
  · unfold infF
    rw [Nat.pow_succ] at q1
    have h3 : (nOf (frN s) (biN s) M 0 + 2) * 2 ^ frN s ≤ (2 * biN s + 1) * 2 ^ frN s := Nat.mul_le_mul_right _ (by omega)
    rw [Nat.add_mul] at h3
    omega
theorem val_round {V : Int} (h0 : V ≠ 0) (h1 : V.natAbs < 16777216) : ∃ w, rndP s rm (decide (V < 0)) V.natAbs 0 false = (w, 0) ∧ Val s w V := by
  have hp : 0 < V.natAbs := by omega
  have hf := rnd_small hs (rm := rm) (mi := decide (V < 0)) hp h1
  obtain ⟨r1, r2, r3, r4⟩ := rnd_back hs hp hf
  obtain ⟨t1, t2, t3, t4, t5⟩ := fin_of hs (mi := decide (V < 0)) r3 r2
  obtain ⟨k1, k2, k3⟩ := kinds_of hs t1
  refine ⟨_, ?_, t4, t5, k1, k2, .inr ⟨h0, t1, t2, r4⟩⟩
  unfold rndP; rw [hf]
theorem val_at {w : Nat} {V : Int} (h : Val s w V) {e : Int} (h1 : e ≤ fE s w) (h2 : e ≤ 0) : zS (sgN s w) (fM s w * 2 ^ upE (fE s w) e) = V * ((2 ^ upE 0 e : Nat) : Int) := by
  have _ := hs
  obtain ⟨_, _, _, _, h⟩ := h
  rcases h with ⟨rfl, _, hm⟩ | ⟨h0, hf, hsg, hsame⟩
  · rw [hm, Nat.zero_mul, Int.zero_mul]; unfold zS; split <;> rfl
  · rw [same_up hsame h1 h2, hsg]
    unfold zS
    by_cases hv : V < 0
    · rw [decide_eq_true hv, if_pos rfl]
      have : (V.natAbs : Int) = -V := by omega
      rw [Int.natCast_mul, this, Int.neg_mul, Int.neg_neg]
    · rw [decide_eq_false hv, if_neg Bool.false_ne_true]
      have : (V.natAbs : Int) = V := by omega
      rw [Int.natCast_mul, this]
theorem val_add {a b : Nat} {X Y : Int} (ha : Val s a X) (hb : Val s b Y) (h : (X + Y).natAbs < 16777216) : ∃ w, addS s rm a b = (w, 0) ∧ Val s w (X + Y) := by
  obtain ⟨e, l1, l2, l3⟩ : ∃ e : Int, e ≤ fE s a ∧ e ≤ fE s b ∧ e ≤ 0 := ⟨minE (minE (fE s a) (fE s b)) 0, by unfold minE; (repeat' split) <;> omega, by unfold minE; (repeat' split) <;> omega, by unfold minE; (repeat' split) <;> omega⟩
  have va := val_at hs ha l1 l3
  have vb := val_at hs hb l2 l3
  rw [add_fin hs ha.2.2.1 ha.2.2.2.1 hb.2.2.1 hb.2.2.2.1, sumS_int l1 l2, va, vb, ← Int.add_mul]
  have hp := Nat.two_pow_pos (upE 0 e)
  by_cases hz : X + Y = 0
  · rw [hz, Int.zero_mul, if_pos rfl]
    exact ⟨_, rfl, val_zero hs _⟩
  · have hne : (X + Y) * ((2 ^ upE 0 e : Nat) : Int) ≠ 0 := Int.mul_ne_zero hz (by omega)
    rw [if_neg hne]
    obtain ⟨w, hw, hv⟩ := val_round hs (rm := rm) hz h
    refine ⟨w, ?_, hv⟩
    rw [← hw]
    have e1 : decide ((X + Y) * ((2 ^ upE 0 e : Nat) : Int) < 0) = decide (X + Y < 0) := by
      rw [decide_eq_decide]
      constructor
      · intro hc
        refine Int.lt_of_not_ge fun h5 => ?_
        have := Int.mul_nonneg h5 (show (0 : Int) ≤ ((2 ^ upE 0 e : Nat) : Int) by omega)
        omega
      · intro hc
        exact Int.mul_neg_of_neg_of_pos hc (by omega)
    have e2 : ((X + Y) * ((2 ^ upE 0 e : Nat) : Int)).natAbs = (X + Y).natAbs * 2 ^ upE 0 e := by rw [Int.natAbs_mul, Int.natAbs_natCast]
    rw [e1, e2]
    unfold rndP
    have hsc := rnd_scale (f := frN s) (b := biN s) (rm := rm) (minus := decide (X + Y < 0)) (M := (X + Y).natAbs) (k := upE 0 e) (E := 0) (by omega)
    have e3 : (0 : Int) - (upE 0 e : Nat) = e := by unfold upE; omega
    rw [e3] at hsc
    rw [hsc]
theorem val_flip {b : Nat} {Y : Int} (hb : Val s b Y) : Val s (b ^^^ topN s) (-Y) := by
  obtain ⟨b1, b2, b3, b4, b5⟩ := hb
  obtain ⟨f1, f2⟩ := flip_parts hs b1 b2
  obtain ⟨g1, g2, g3, g4, g5, g6, g7⟩ := same_mag hs f2
  have hl := flip_lt hs b1
  refine ⟨hl, ?_, g3.trans b3, g4.trans b4, ?_⟩
  · rcases hs with rfl | rfl
    · unfold mkN at b2 ⊢
      rw [if_pos rfl] at b2 ⊢
      refine Nat.mod_eq_of_lt ?_
      exact Nat.xor_lt_two_pow (n := 32) (by omega) (by decide)
    · rfl
  · rcases b5 with ⟨c1, c2, c3⟩ | ⟨c1, c2, c3, c4⟩
    · exact .inl ⟨by omega, g5.trans c2, g1.trans c3⟩
    · refine .inr ⟨by omega, g7.trans c2, ?_, ?_⟩
      · rw [f1, c3]
        by_cases hy : Y < 0
        · rw [decide_eq_true hy, decide_eq_false (by omega)]; rfl
        · rw [decide_eq_false hy, decide_eq_true (by omega)]; rfl
      · rw [g1, g2, Int.natAbs_neg]; exact c4
theorem val_sub {a b : Nat} {X Y : Int} (ha : Val s a X) (hb : Val s b Y) (h : (X - Y).natAbs < 16777216) : ∃ w, subS s rm a b = (w, 0) ∧ Val s w (X - Y) := by
  have := val_add hs (rm := rm) ha (val_flip hs hb) (by rw [← Int.sub_eq_add_neg]; exact h)
  rw [← Int.sub_eq_add_neg] at this
  exact this
theorem val_mul {a b : Nat} {X Y : Int} (ha : Val s a X) (hb : Val s b Y) (h : (X * Y).natAbs < 16777216) : ∃ w, mulS s rm a b = (w, 0) ∧ Val s w (X * Y) := by
  obtain ⟨a1, a2, a3, a4, a5⟩ := ha
  obtain ⟨b1, b2, b3, b4, b5⟩ := hb
  rcases a5 with ⟨c1, c2, c3⟩ | ⟨c1, c2, c3, c4⟩
  · refine ⟨_, mul_zer hs a3 a4 b3 b4 (by rw [c2]; rfl), ?_⟩
    rw [c1, Int.zero_mul]
    exact val_zero hs _
  · rcases b5 with ⟨d1, d2, d3⟩ | ⟨d1, d2, d3, d4⟩
    · refine ⟨_, mul_zer hs a3 a4 b3 b4 (by rw [d2, Bool.or_true]), ?_⟩
      rw [d1, Int.mul_zero]
      exact val_zero hs _
    · have hne : X * Y ≠ 0 := Int.mul_ne_zero c1 d1
      obtain ⟨w, hw, hv⟩ := val_round hs (rm := rm) hne h
      refine ⟨w, ?_, hv⟩
      rw [mul_fin hs c2 d2, ← hw, c3, d3]
      have hsg : (decide (X < 0) != decide (Y < 0)) = decide (X * Y < 0) := by
        by_cases hx : X < 0
        · by_cases hy : Y < 0
          · have := Int.mul_pos_of_neg_of_neg hx hy
            rw [decide_eq_true hx, decide_eq_true hy, decide_eq_false (by omega)]; rfl
          · have := Int.mul_neg_of_neg_of_pos hx (show 0 < Y by omega)
            rw [decide_eq_true hx, decide_eq_false hy, decide_eq_true this]; rfl
        · by_cases hy : Y < 0
          · have := Int.mul_neg_of_pos_of_neg (show 0 < X by omega) hy
            rw [decide_eq_false hx, decide_eq_true hy, decide_eq_true this]; rfl
          · have := Int.mul_pos (show 0 < X by omega) (show 0 < Y by omega)
            rw [decide_eq_false hx, decide_eq_false hy, decide_eq_false (by omega)]; rfl
      have hsame := c4.mul d4
      rw [← Int.natAbs_mul] at hsame
      unfold rndP
      rw [hsg, hsame.rnd (Nat.mul_pos (fin_pos hs c2) (fin_pos hs d2))]
      rfl
theorem val_from {X : Int} (h1 : -2048 ≤ X) (h2 : X < 2048) : ∃ w, frS s rm false false (X % 18446744073709551616).toNat = (w, 0) ∧ Val s w X := by
  have hu : (X % 18446744073709551616).toNat = if X < 0 then 18446744073709551616 - X.natAbs else X.natAbs := by split <;> omega
  have hmi : fmiN false false (X % 18446744073709551616).toNat = decide (X < 0) := by
    unfold fmiN xwN
    rw [hu]
    by_cases hx : X < 0
    · rw [if_pos hx, decide_eq_true hx]
      simp only [Bool.not_false, Bool.true_and, Bool.false_eq_true, if_false]
      exact decide_eq_true (by omega)
    · rw [if_neg hx, decide_eq_false hx]
      simp only [Bool.not_false, Bool.true_and, Bool.false_eq_true, if_false]
      exact decide_eq_false (by omega)
  have hm : fmN false false (X % 18446744073709551616).toNat = X.natAbs := by
    unfold fmN
    rw [hmi]
    unfold xwN
    rw [if_neg Bool.false_ne_true, hu]
    by_cases hx : X < 0
    · rw [decide_eq_true hx, if_pos rfl, if_pos hx]; omega
    · rw [decide_eq_false hx, if_neg Bool.false_ne_true, if_neg hx]
  unfold frS
  rw [hm, hmi]
  by_cases hz : X = 0
  · subst hz
    exact ⟨0, rfl, val_zero hs false⟩
  · rw [if_neg (by omega)]
    exact val_round hs hz (by omega)
theorem tolN_ok {V : Int} {word : Bool} (h : V.natAbs < 16777216) : (tolN (decide (V < 0)) V.natAbs word : Int) = V % 18446744073709551616 := by
  have _ := hs
  unfold tolN
  by_cases hv : V < 0
  · rw [decide_eq_true hv, if_pos rfl]
    cases word
    · rw [if_neg Bool.false_ne_true]; omega
    · rw [if_pos rfl]; unfold sxN; split <;> omega
  · rw [decide_eq_false hv, if_neg Bool.false_ne_true]
    cases word
    · rw [if_neg Bool.false_ne_true]; omega
    · rw [if_pos rfl]; unfold sxN; split <;> omega
theorem val_to {w : Nat} {V : Int} {word : Bool} (hw : Val s w V) (h : V.natAbs < 16777216) : ((toS s rm word false w).1 : Int) = V % 18446744073709551616 ∧ (toS s rm word false w).2 = 0 := by
  obtain ⟨w1, w2, w3, w4, w5⟩ := hw
  have lo : 16777216 ≤ loN2 word false ∧ 16777216 ≤ upN2 word false := by cases word <;> decide
  have hwh : whN s rm w = (V.natAbs, true) := by
    unfold whN
    rw [w4, if_neg Bool.false_ne_true]
    rcases w5 with ⟨c1, c2, c3⟩ | ⟨c1, c2, c3, c4⟩
    · rw [c3, cutN_nought, c1]; rfl
    · by_cases he : 0 ≤ fE s w
      · have h3 := same_up c4 he (Int.le_refl 0)
        have e0 : upE 0 0 = 0 := rfl
        rw [e0, Nat.pow_zero, Nat.mul_one] at h3
        unfold cutN
        rw [if_pos (by omega)]
        have e1 : (- -fE s w).toNat = upE (fE s w) 0 := by unfold upE; omega
        rw [e1, h3]; rfl
      · have h3 := same_up c4 (Int.le_refl (fE s w)) (show fE s w ≤ 0 by omega)
        have e0 : upE (fE s w) (fE s w) = 0 := by unfold upE; omega
        rw [e0, Nat.pow_zero, Nat.mul_one] at h3
        unfold cutN
        rw [if_neg (by omega), h3]
        have e1 : (-fE s w).toNat = upE 0 (fE s w) := by unfold upE; omega
        rw [e1]
        exact cutP_exact (by unfold upE; omega)
  unfold toS
  rw [hwh, w3, w4, if_neg Bool.false_ne_true, Bool.false_or, Bool.false_or]
  rw [decide_eq_false (show ¬ loN2 word false < V.natAbs by omega), decide_eq_false (show ¬ upN2 word false < V.natAbs by omega), Bool.and_false, Bool.and_false, if_neg Bool.false_ne_true, if_neg Bool.false_ne_true]
  refine ⟨?_, rfl⟩
  rcases w5 with ⟨c1, c2, c3⟩ | ⟨c1, c2, c3, c4⟩
  · subst c1
    show (tolN (sgN s w) 0 word : Int) = _
    cases sgN s w <;> cases word <;> rfl
  · rw [c3]
    exact tolN_ok hs h

theorem mag_lt {a b : Nat} (h : magN s a < magN s b) {e : Int} (h1 : e ≤ fE s a) (h2 : e ≤ fE s b) : fM s a * 2 ^ upE (fE s a) e < fM s b * 2 ^ upE (fE s b) e := by
  obtain ⟨na, a1, a2, a3, a4⟩ := f_mag hs (a := a)
  obtain ⟨nb, b1, b2, b3, b4⟩ := f_mag hs (a := b)
  rw [a1, b1] at h
  have hp := Nat.two_pow_pos (frN s)
  rw [Nat.pow_succ] at a3 b3
  obtain ⟨d, hd⟩ : ∃ d : Nat, least (frN s) (biN s) - e + (min na nb : Nat) = d := ⟨(least (frN s) (biN s) - e + (min na nb : Nat)).toNat, by rcases Nat.le_total na nb with h5 | h5 <;> omega⟩
  have hpd := Nat.two_pow_pos d
  rcases Nat.lt_trichotomy na nb with hn | hn | hn
  · have e1 : upE (fE s a) e = d := by unfold upE; omega
    have e2 : upE (fE s b) e = (nb - na) + d := by unfold upE; omega
    rw [e1, e2, Nat.pow_add, ← Nat.mul_assoc]
    refine Nat.mul_lt_mul_of_pos_right ?_ hpd
    have h5 : fM s b * 2 ^ 1 ≤ fM s b * 2 ^ (nb - na) := Nat.mul_le_mul_left _ (Nat.pow_le_pow_right (by decide) (by omega))
    omega
  · subst hn
    have e1 : upE (fE s a) e = upE (fE s b) e := by unfold upE; omega
    rw [e1]
    exact Nat.mul_lt_mul_of_pos_right (by omega) (Nat.two_pow_pos _)
  · exfalso
    have h5 : (nb + 1) * 2 ^ frN s ≤ na * 2 ^ frN s := Nat.mul_le_mul_right _ hn
    rw [Nat.add_mul] at h5
    omega
theorem val_mag {a b : Nat} {X Y : Int} (ha : Val s a X) (hb : Val s b Y) (hx : X ≠ 0) (hy : Y ≠ 0) : magN s a < magN s b ↔ X.natAbs < Y.natAbs := by
  obtain ⟨a1, a2, a3, a4, a5⟩ := ha
  obtain ⟨b1, b2, b3, b4, b5⟩ := hb
  rcases a5 with ⟨c1, _⟩ | ⟨c1, c2, c3, c4⟩
  · exact absurd c1 hx
  rcases b5 with ⟨d1, _⟩ | ⟨d1, d2, d3, d4⟩
  · exact absurd d1 hy
  obtain ⟨e, l1, l2, l3⟩ : ∃ e : Int, e ≤ fE s a ∧ e ≤ fE s b ∧ e ≤ 0 := ⟨minE (minE (fE s a) (fE s b)) 0, by unfold minE; (repeat' split) <;> omega, by unfold minE; (repeat' split) <;> omega, by unfold minE; (repeat' split) <;> omega⟩
  have va := same_up c4 l1 l3
  have vb := same_up d4 l2 l3
  have hp := Nat.two_pow_pos (upE 0 e)
  constructor
  · intro h
    have := mag_lt hs h l1 l2
    rw [va, vb] at this
    exact Nat.lt_of_mul_lt_mul_right this
  · intro h
    rcases Nat.lt_trichotomy (magN s a) (magN s b) with h5 | h5 | h5
    · exact h5
    · exfalso
      obtain ⟨g1, g2, _⟩ := same_mag hs h5
      rw [g1, g2, vb] at va
      have := Nat.eq_of_mul_eq_mul_right hp va
      omega
    · exfalso
      have := mag_lt hs h5 l2 l1
      rw [va, vb] at this
      have := Nat.lt_of_mul_lt_mul_right this
      omega
theorem rank_ok {a : Nat} (ha : a < 18446744073709551616) : r87_0 (topN s) (a : Int) = if sgN s a then -1 - (magN s a : Int) else magN s a := by
  obtain ⟨g1, g2, g3⟩ := of62 hs
  have h1 := g_rank hs (uN ha)
  have h2 := g_minus hs (uN ha)
  rw [g3] at h1 h2
  rw [cminus_ok hs ha] at h2
  rw [h1, ← h2, mag_nat hs]
theorem cls_val {a : Nat} {X : Int} (ha : Val s a X) : decide (clN s a ≥ 8) = false ∧ (clN s a == 4) = decide (X = 0) := by
  have _ := hs
  obtain ⟨a1, a2, a3, a4, a5⟩ := ha
  unfold clN
  rw [a3, a4, if_neg Bool.false_ne_true, if_neg Bool.false_ne_true]
  rcases a5 with ⟨c1, c2, c3⟩ | ⟨c1, c2, c3, c4⟩
  · rw [c2, if_pos rfl, decide_eq_true c1]
    exact ⟨rfl, rfl⟩
  · obtain ⟨_, _, k3⟩ := kinds_of hs c2
    rw [k3, if_neg Bool.false_ne_true, decide_eq_false c1]
    split <;> exact ⟨rfl, rfl⟩
theorem less_val {a b : Nat} {X Y : Int} (ha : Val s a X) (hb : Val s b Y) : p37 70 s a b = true ∧ (r37_0 70 s a b == 1) = decide (X < Y) := by
  obtain ⟨g1, g2, g3⟩ := of62 hs
  have hk : r64_0 s 0 = true := (g_known hs).1
  obtain ⟨ka, ca⟩ := cclass_ok hs ha.1
  obtain ⟨kb, cb⟩ := cclass_ok hs hb.1
  obtain ⟨u1, u2⟩ := cls_val hs ha
  obtain ⟨v1, v2⟩ := cls_val hs hb
  have ra := rank_ok hs ha.1
  have rb := rank_ok hs hb.1
  have n1 : ((70 : Int) != 69) = true := rfl
  have n2 : ((70 : Int) != 70) = false := rfl
  have n3 : ((70 : Int) == 69) = false := rfl
  have n4 : ((70 : Int) == 70) = true := rfl
  have n5 : ((70 : Int) == 71) = false := rfl
  constructor
  · simp only [p37, hk, g1, g2, g3, ka, kb, ow_t]; rfl
  · have hless : r37_0 70 s a b = if (bif decide (X = 0) && decide (Y = 0) then r87_0 (topN s) (b : Int) else r87_0 (topN s) (a : Int)) < r87_0 (topN s) (b : Int) then 1 else 0 := by
      simp only [r37_0, hk, g1, g2, g3, ca, cb, u1, u2, v1, v2, n1, n2, n3, n4, n5, Bool.false_and, Bool.true_and, Bool.false_or, Bool.or_false, Bool.and_false, Bool.not_false, Bool.not_true, cond_true]
      generalize (bif decide (X = 0) && decide (Y = 0) then r87_0 (topN s) (b : Int) else r87_0 (topN s) (a : Int)) = A
      by_cases h : A < r87_0 (topN s) (b : Int)
      · rw [decide_eq_true h, if_pos h]; rfl
      · rw [decide_eq_false h, if_neg h]; rfl
    rw [hless, ra, rb]
    have hmain : ((bif decide (X = 0) && decide (Y = 0) then (if sgN s b then -1 - (magN s b : Int) else magN s b) else (if sgN s a then -1 - (magN s a : Int) else magN s a)) < (if sgN s b then -1 - (magN s b : Int) else magN s b)) ↔ X < Y := by
      have ma : X ≠ 0 → 0 < magN s a ∧ sgN s a = decide (X < 0) := fun hx => by
        obtain ⟨_, _, _, _, a5⟩ := ha
        rcases a5 with ⟨c1, _⟩ | ⟨c1, c2, c3, c4⟩
        · exact absurd c1 hx
        · obtain ⟨_, _, k3⟩ := kinds_of hs c2
          obtain ⟨_, _, q3⟩ := k_parts hs (a := a)
          rw [q3, decide_eq_false_iff_not] at k3
          exact ⟨by omega, c3⟩
      have mb : Y ≠ 0 → 0 < magN s b ∧ sgN s b = decide (Y < 0) := fun hx => by
        obtain ⟨_, _, _, _, a5⟩ := hb
        rcases a5 with ⟨c1, _⟩ | ⟨c1, c2, c3, c4⟩
        · exact absurd c1 hx
        · obtain ⟨_, _, k3⟩ := kinds_of hs c2
          obtain ⟨_, _, q3⟩ := k_parts hs (a := b)
          rw [q3, decide_eq_false_iff_not] at k3
          exact ⟨by omega, c3⟩
      have za : X = 0 → magN s a = 0 := fun hx => by
        obtain ⟨_, _, _, _, a5⟩ := ha
        rcases a5 with ⟨_, c2, _⟩ | ⟨c1, _⟩
        · obtain ⟨_, _, q3⟩ := k_parts hs (a := a)
          rw [q3, decide_eq_true_iff] at c2; exact c2
        · exact absurd hx c1
      have zb : Y = 0 → magN s b = 0 := fun hx => by
        obtain ⟨_, _, _, _, a5⟩ := hb
        rcases a5 with ⟨_, c2, _⟩ | ⟨c1, _⟩
        · obtain ⟨_, _, q3⟩ := k_parts hs (a := b)
          rw [q3, decide_eq_true_iff] at c2; exact c2
        · exact absurd hx c1
      have hab := val_mag hs ha hb
      have hba := val_mag hs hb ha
      generalize magN s a = p at *
      generalize magN s b = q at *
      generalize sgN s a = sa at *
      generalize sgN s b = sb at *
      by_cases hx : X = 0
      · by_cases hy : Y = 0
        · rw [decide_eq_true hx, decide_eq_true hy]
          show (if sb = true then -1 - (q : Int) else q) < (if sb = true then -1 - (q : Int) else q) ↔ X < Y
          omega
        · rw [decide_eq_false hy, Bool.and_false, cond_false, za hx]
          obtain ⟨m1, m2⟩ := mb hy
          by_cases h5 : Y < 0
          · rw [m2, decide_eq_true h5, if_pos rfl]; split <;> omega
          · rw [m2, decide_eq_false h5, if_neg Bool.false_ne_true]; split <;> omega
      · rw [decide_eq_false hx, Bool.false_and, cond_false]
        obtain ⟨m1, m2⟩ := ma hx
        by_cases hy : Y = 0
        · rw [zb hy]
          by_cases h5 : X < 0
          · rw [m2, decide_eq_true h5, if_pos rfl]; split <;> omega
          · rw [m2, decide_eq_false h5, if_neg Bool.false_ne_true]; split <;> omega
        · obtain ⟨m3, m4⟩ := mb hy
          have hab := hab hx hy
          have hba := hba hy hx
          by_cases h5 : X < 0
          · rw [m2, decide_eq_true h5, if_pos rfl]
            by_cases h6 : Y < 0
            · rw [m4, decide_eq_true h6, if_pos rfl]; omega
            · rw [m4, decide_eq_false h6, if_neg Bool.false_ne_true]; omega
          · rw [m2, decide_eq_false h5, if_neg Bool.false_ne_true]
            by_cases h6 : Y < 0
            · rw [m4, decide_eq_true h6, if_pos rfl]; omega
            · rw [m4, decide_eq_false h6, if_neg Bool.false_ne_true]; omega
    by_cases hxy : X < Y
    · rw [if_pos (hmain.2 hxy), decide_eq_true hxy]; rfl
    · rw [if_neg (fun h => hxy (hmain.1 h)), decide_eq_false hxy]; rfl
end
theorem tmod_2048 (x : Int) : -2048 < Int.tmod x 2048 ∧ Int.tmod x 2048 < 2048 := by
  by_cases h : 0 ≤ x
  · rw [Int.tmod_eq_emod_of_nonneg h]; omega
  · have e : x = -(-x) := by omega
    rw [e, Int.neg_tmod, Int.tmod_eq_emod_of_nonneg (by omega)]; omega
theorem small_mul {X Y : Int} (x1 : -2048 < X) (x2 : X < 2048) (y1 : -2048 < Y) (y2 : Y < 2048) : (X * Y).natAbs < 16777216 := by
  rw [Int.natAbs_mul]
  have : X.natAbs * Y.natAbs ≤ 2047 * 2047 := Nat.mul_le_mul (by omega) (by omega)
  omega
theorem law_sums {n m x y : Int} : p19 n m x y = true ∧ r19_0 n m x y = true := by
  obtain ⟨aw1, aw2⟩ := awake_ok
  have hs : IntKind.wrap .i64 (4 + IntKind.wrap .i64 (4 * iland .i64 n 1)) = 4 ∨ IntKind.wrap .i64 (4 + IntKind.wrap .i64 (4 * iland .i64 n 1)) = 8 := size_is n
  have hr : 0 ≤ IntKind.wrap .i64 (Int.tmod (IntKind.wrap .u64 m) 5) ∧ IntKind.wrap .i64 (Int.tmod (IntKind.wrap .u64 m) 5) ≤ 4 := mode_is m
  obtain ⟨h0, h1⟩ := hr
  obtain ⟨x1, x2⟩ := tmod_2048 x
  obtain ⟨y1, y2⟩ := tmod_2048 y
  generalize hS : IntKind.wrap .i64 (4 + IntKind.wrap .i64 (4 * iland .i64 n 1)) = s at *
  generalize hR : IntKind.wrap .i64 (Int.tmod (IntKind.wrap .u64 m) 5) = rm at *
  generalize hX : Int.tmod x 2048 = X at *
  generalize hY : Int.tmod y 2048 = Y at *
  have eX : IntKind.wrap .u64 X = (((X % 18446744073709551616).toNat : Nat) : Int) := by rw [wrap_u64]; omega
  have eY : IntKind.wrap .u64 Y = (((Y % 18446744073709551616).toNat : Nat) : Int) := by rw [wrap_u64]; omega
  obtain ⟨A, fA, vA⟩ := val_from hs (rm := rm) (X := X) (by omega) (by omega)
  obtain ⟨B, fB, vB⟩ := val_from hs (rm := rm) (X := Y) (by omega) (by omega)
  obtain ⟨a0, a1, a2⟩ := sfrom_ok hs h0 h1 (word := false) (uns := false) (x := (X % 18446744073709551616).toNat) (by omega)
  obtain ⟨b0, b1, b2⟩ := sfrom_ok hs h0 h1 (word := false) (uns := false) (x := (Y % 18446744073709551616).toNat) (by omega)
  rw [fA] at a1 a2
  rw [fB] at b1 b2
  have a1 : r27_0 s rm false false (((X % 18446744073709551616).toNat : Nat) : Int) = (A : Int) := a1
  have b1 : r27_0 s rm false false (((Y % 18446744073709551616).toNat : Nat) : Int) = (B : Int) := b1
  obtain ⟨C, fC, vC⟩ := val_add hs (rm := rm) vA vB (by omega)
  obtain ⟨D, fD, vD⟩ := val_sub hs (rm := rm) vA vB (by omega)
  obtain ⟨E, fE', vE⟩ := val_mul hs (rm := rm) vA vB (small_mul x1 x2 y1 y2)
  obtain ⟨c0, c1, c2⟩ := sadd_ok hs h0 h1 vA.1 vB.1
  obtain ⟨d0, d1, d2⟩ := ssub_ok hs h0 h1 vA.1 vB.1
  obtain ⟨e0, e1, e2⟩ := smul_ok hs h0 h1 vA.1 vB.1
  rw [fC] at c1 c2
  rw [fD] at d1 d2
  rw [fE'] at e1 e2
  have c1 : r54_0 s rm (A : Int) (B : Int) = (C : Int) := c1
  have c2 : r54_1 s rm (A : Int) (B : Int) = 0 := c2
  have d1 : r59_0 s rm (A : Int) (B : Int) = (D : Int) := d1
  have d2 : r59_1 s rm (A : Int) (B : Int) = 0 := d2
  have e1 : r44_0 s rm (A : Int) (B : Int) = (E : Int) := e1
  have e2 : r44_1 s rm (A : Int) (B : Int) = 0 := e2
  obtain ⟨t0, t1, t2⟩ := sto_ok hs h0 h1 (word := false) (uns := false) vC.1
  obtain ⟨u0, u1, u2⟩ := sto_ok hs h0 h1 (word := true) (uns := false) vD.1
  obtain ⟨v0, v1, v2⟩ := sto_ok hs h0 h1 (word := false) (uns := false) vE.1
  obtain ⟨t3, t4⟩ := val_to hs (rm := rm) (word := false) vC (by omega)
  obtain ⟨u3, u4⟩ := val_to hs (rm := rm) (word := true) vD (by omega)
  obtain ⟨v3, v4⟩ := val_to hs (rm := rm) (word := false) vE (small_mul x1 x2 y1 y2)
  rw [t3] at t1
  rw [u3] at u1
  rw [v3] at v1
  rw [t4] at t2
  rw [u4] at u2
  rw [v4] at v2
  have t2 : r25_1 s rm false false (C : Int) = 0 := t2
  have u2 : r25_1 s rm true false (D : Int) = 0 := u2
  have v2 : r25_1 s rm false false (E : Int) = 0 := v2
  obtain ⟨l0, l1⟩ := less_val hs vA vB
  have w1 : IntKind.wrap .u64 (IntKind.wrap .i64 (X + Y)) = (X + Y) % 18446744073709551616 := by rw [wrap_i64_of (by omega) (by omega), wrap_u64]
  have w2 : IntKind.wrap .u64 (IntKind.wrap .i64 (X - Y)) = (X - Y) % 18446744073709551616 := by rw [wrap_i64_of (by omega) (by omega), wrap_u64]
  have w3 : IntKind.wrap .u64 (IntKind.wrap .i64 (X * Y)) = (X * Y) % 18446744073709551616 := by
    have := small_mul x1 x2 y1 y2
    rw [wrap_i64_of (by omega) (by omega), wrap_u64]
  have or0 : ilor .i64 0 0 = 0 := by decide +kernel
  constructor
  · simp only [p19, hS, hR, hX, hY, aw1, eX, eY, a0, a1, b0, b1, c0, c1, d0, d1, e0, e1, t0, u0, v0, l0, ow_t]; rfl
  · simp only [r19_0, hS, hR, hX, hY, aw2, eX, eY, a1, b1, c1, c2, d1, d2, e1, e2, t1, t2, u1, u2, v1, v2, l1, w1, w2, w3, or0, beq_self_eq_true]
    rfl
end Go.Proofs.Ytacciadcmiiimaa

