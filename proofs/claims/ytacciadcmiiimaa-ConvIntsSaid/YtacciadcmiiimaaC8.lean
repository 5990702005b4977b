/- The contracts of the functions. Written by the generator. -/
import Derived.Test.YtacciadcmiiimaaC7
import Derived.Test.YtacciadcmiiimaaC4
import Derived.ProofKit
import Derived.LaidMore
import Derived.Stop.Joined
namespace Go.Proofs.Ytacciadcmiiimaa
open Go Go.Sx
set_option maxRecDepth 100000
set_option maxHeartbeats 4000000
def WI (_ : World) : Prop := True
def gK : Nat := 0
theorem wiStable : Stable WI gK := fun _ _ _ _ h => h


noncomputable def FE : FEnv := fun f => match f with
  | 69 => g69
  | 115 => g115
  | 89 => g89
  | 42 => g42
  | 90 => g90
  | 39 => g39
  | 40 => g40
  | 41 => g41
  | 56 => g56
  | 61 => g61
  | 74 => g74
  | 85 => g85
  | 84 => g84
  | 119 => g119
  | 126 => g126
  | 111600 => g111600
  | 116 => g116
  | 80 => g80
  | 111400 => g111400
  | 114 => g114
  | 107700 => g107700
  | 77 => g77
  | 111000 => g111000
  | 110 => g110
  | 110400 => g110400
  | 104 => g104
  | 113 => g113
  | 111700 => g111700
  | 117 => g117
  | 111202 => g111202
  | 111200 => g111200
  | 112 => g112
  | 111100 => g111100
  | 111 => g111
  | 76 => g76
  | 118 => g118
  | 81 => g81
  | 66 => g66
  | 62 => g62
  | 83 => g83
  | 63 => g63
  | 64 => g64
  | 65 => g65
  | 86 => g86
  | 82 => g82
  | 67 => g67
  | 68 => g68
  | 70 => g70
  | 78 => g78
  | 87 => g87
  | 25 => g25
  | 27 => g27
  | 29 => g29
  | 31 => g31
  | 33 => g33
  | 35 => g35
  | 37 => g37
  | 21 => g21
  | 23 => g23
  | 71 => g71
  | 79 => g79
  | 72 => g72
  | 73 => g73
  | 75 => g75
  | 26 => g26
  | 28 => g28
  | 30 => g30
  | 20 => g20
  | 4 => g4
  | 5 => g5
  | _ => fun _ => []



theorem k69 : FnOK Try.prog WI gK 69 s69 g69 :=
  fn_ok (F := FE) wiStable (⟨fun _ _ h => (by cases h), (fun _ _ h => (by cases h))⟩) Try.func69 ev69 (by kernel_rfl) (fun _ h => (by cases h)) fun ds h hp => match ds, h, hp with
    | [d0], _, hp => ⟨(by kernel_rfl : owesB (outEnv FE s69 o69 [d0]) o69.owes = (dget (g69 [d0]) 0).toB).trans (hp rfl), nrms_teq (by kernel_rfl) (by kernel_rfl) (by kernel_rfl)⟩
theorem k115 : FnOK Try.prog WI gK 115 s115 g115 :=
  fn_ok (F := FE) wiStable (⟨(fun f s h => by
    simp only [Sigs.get, S115, assoc] at h
    split at h
    · rename_i hg; obtain rfl := Nat.eq_of_beq_eq_true hg; cases h; exact k69
    cases h), (fun _ _ h => (by cases h))⟩) Try.func115 ev115 (by kernel_rfl) (fun _ h => (by cases h)) fun ds h hp => match ds, h, hp with
    | [d0], _, hp => ⟨(by kernel_rfl : owesB (outEnv FE s115 o115 [d0]) o115.owes = (dget (g115 [d0]) 0).toB).trans (hp rfl), nrms_teq (by kernel_rfl) (by kernel_rfl) (by kernel_rfl)⟩
theorem k89 : FnOK Try.prog WI gK 89 s89 g89 :=
  fn_ok (F := FE) wiStable (⟨fun _ _ h => (by cases h), (fun _ _ h => (by cases h))⟩) Try.func89 ev89 (by kernel_rfl) (fun _ h => (by cases h)) fun ds h hp => match ds, h, hp with
    | [d0], _, _ => ⟨by kernel_rfl, nrms_teq (by kernel_rfl) (by kernel_rfl) (by kernel_rfl)⟩
theorem k42 : FnOK Try.prog WI gK 42 s42 g42 :=
  fn_ok (F := FE) wiStable (⟨fun _ _ h => (by cases h), (fun _ _ h => (by cases h))⟩) Try.func42 ev42 (by kernel_rfl) (fun _ h => (by cases h)) fun ds h hp => match ds, h, hp with
    | [d0, d1], _, _ => ⟨by kernel_rfl, nrms_teq (by kernel_rfl) (by kernel_rfl) (by kernel_rfl)⟩
theorem k90 : FnOK Try.prog WI gK 90 s90 g90 :=
  fn_ok (F := FE) wiStable (⟨(fun f s h => by
    simp only [Sigs.get, S90, assoc] at h
    split at h
    · rename_i hg; obtain rfl := Nat.eq_of_beq_eq_true hg; cases h; exact k89
    split at h
    · rename_i hg; obtain rfl := Nat.eq_of_beq_eq_true hg; cases h; exact k42
    cases h), (fun _ _ h => (by cases h))⟩) Try.func90 ev90 (by kernel_rfl) (fun _ h => (by cases h)) fun ds h hp => match ds, h, hp with
    | [d0, d1], _, hp => ⟨(by kernel_rfl : owesB (outEnv FE s90 o90 [d0, d1]) o90.owes = (dget (g90 [d0, d1]) 0).toB).trans (hp rfl), nrms_teq (by kernel_rfl) (by kernel_rfl) (by kernel_rfl)⟩
theorem k39 : FnOK Try.prog WI gK 39 s39 g39 :=
  fn_ok (F := FE) wiStable (⟨(fun f s h => by
    simp only [Sigs.get, S39, assoc] at h
    split at h
    · rename_i hg; obtain rfl := Nat.eq_of_beq_eq_true hg; cases h; exact k89
    split at h
    · rename_i hg; obtain rfl := Nat.eq_of_beq_eq_true hg; cases h; exact k90
    cases h), (fun _ _ h => (by cases h))⟩) Try.func39 ev39 (by kernel_rfl) (fun _ h => (by cases h)) fun ds h hp => match ds, h, hp with
    | [d0, d1], _, hp => ⟨(by kernel_rfl : owesB (outEnv FE s39 o39 [d0, d1]) o39.owes = (dget (g39 [d0, d1]) 0).toB).trans (hp rfl), nrms_teq (by kernel_rfl) (by kernel_rfl) (by kernel_rfl)⟩
theorem k40 : FnOK Try.prog WI gK 40 s40 g40 :=
  fn_ok (F := FE) wiStable (⟨fun _ _ h => (by cases h), (fun _ _ h => (by cases h))⟩) Try.func40 ev40 (by kernel_rfl) (fun _ h => (by cases h)) fun ds h hp => match ds, h, hp with
    | [d0], _, _ => ⟨by kernel_rfl, nrms_teq (by kernel_rfl) (by kernel_rfl) (by kernel_rfl)⟩
theorem k41 : FnOK Try.prog WI gK 41 s41 g41 :=
  fn_ok (F := FE) wiStable (⟨(fun f s h => by
    simp only [Sigs.get, S41, assoc] at h
    split at h
    · rename_i hg; obtain rfl := Nat.eq_of_beq_eq_true hg; cases h; exact k89
    split at h
    · rename_i hg; obtain rfl := Nat.eq_of_beq_eq_true hg; cases h; exact k90
    split at h
    · rename_i hg; obtain rfl := Nat.eq_of_beq_eq_true hg; cases h; exact k39
    cases h), (fun _ _ h => (by cases h))⟩) Try.func41 ev41 (by kernel_rfl) (fun _ h => (by cases h)) fun ds h hp => match ds, h, hp with
    | [d0, d1], _, hp => ⟨(by kernel_rfl : owesB (outEnv FE s41 o41 [d0, d1]) o41.owes = (dget (g41 [d0, d1]) 0).toB).trans (hp rfl), nrms_teq (by kernel_rfl) (by kernel_rfl) (by kernel_rfl)⟩
theorem k56 : FnOK Try.prog WI gK 56 s56 g56 :=
  fn_ok (F := FE) wiStable (⟨(fun f s h => by
    simp only [Sigs.get, S56, assoc] at h
    split at h
    · rename_i hg; obtain rfl := Nat.eq_of_beq_eq_true hg; cases h; exact k89
    split at h
    · rename_i hg; obtain rfl := Nat.eq_of_beq_eq_true hg; cases h; exact k90
    cases h), (fun _ _ h => (by cases h))⟩) Try.func56 ev56 (by kernel_rfl) (fun _ h => (by cases h)) fun ds h hp => match ds, h, hp with
    | [d0, d1], _, hp => ⟨(by kernel_rfl : owesB (outEnv FE s56 o56 [d0, d1]) o56.owes = (dget (g56 [d0, d1]) 0).toB).trans (hp rfl), nrms_teq (by kernel_rfl) (by kernel_rfl) (by kernel_rfl)⟩
theorem k61 : FnOK Try.prog WI gK 61 s61 g61 :=
  fn_ok (F := FE) wiStable (⟨(fun f s h => by
    simp only [Sigs.get, S61, assoc] at h
    split at h
    · rename_i hg; obtain rfl := Nat.eq_of_beq_eq_true hg; cases h; exact k90
    cases h), (fun _ _ h => (by cases h))⟩) Try.func61 ev61 (by kernel_rfl) (fun _ h => (by cases h)) fun ds h hp => match ds, h, hp with
    | [d0, d1], _, hp => ⟨(by kernel_rfl : owesB (outEnv FE s61 o61 [d0, d1]) o61.owes = (dget (g61 [d0, d1]) 0).toB).trans (hp rfl), nrms_teq (by kernel_rfl) (by kernel_rfl) (by kernel_rfl)⟩
theorem k74 : FnOK Try.prog WI gK 74 s74 g74 :=
  fn_ok (F := FE) wiStable (⟨(fun f s h => by
    simp only [Sigs.get, S74, assoc] at h
    split at h
    · rename_i hg; obtain rfl := Nat.eq_of_beq_eq_true hg; cases h; exact k90
    cases h), (fun _ _ h => (by cases h))⟩) Try.func74 ev74 (by kernel_rfl) (fun _ h => (by cases h)) fun ds h hp => match ds, h, hp with
    | [d0, d1], _, hp => ⟨(by kernel_rfl : owesB (outEnv FE s74 o74 [d0, d1]) o74.owes = (dget (g74 [d0, d1]) 0).toB).trans (hp rfl), nrms_teq (by kernel_rfl) (by kernel_rfl) (by kernel_rfl)⟩
theorem k85 : FnOK Try.prog WI gK 85 s85 g85 :=
  fn_ok (F := FE) wiStable (⟨fun _ _ h => (by cases h), (fun _ _ h => (by cases h))⟩) Try.func85 ev85 (by kernel_rfl) (fun _ h => (by cases h)) fun ds h hp => match ds, h, hp with
    | [d0, d1], _, hp => ⟨(by kernel_rfl : owesB (outEnv FE s85 o85 [d0, d1]) o85.owes = (dget (g85 [d0, d1]) 0).toB).trans (hp rfl), nrms_teq (by kernel_rfl) (by kernel_rfl) (by kernel_rfl)⟩
theorem k84 : FnOK Try.prog WI gK 84 s84 g84 :=
  fn_ok (F := FE) wiStable (⟨(fun f s h => by
    simp only [Sigs.get, S84, assoc] at h
    split at h
    · rename_i hg; obtain rfl := Nat.eq_of_beq_eq_true hg; cases h; exact k89
    split at h
    · rename_i hg; obtain rfl := Nat.eq_of_beq_eq_true hg; cases h; exact k85
    cases h), (fun _ _ h => (by cases h))⟩) Try.func84 ev84 (by kernel_rfl) (fun _ h => (by cases h)) fun ds h hp => match ds, h, hp with
    | [d0, d1], _, hp => ⟨(by kernel_rfl : owesB (outEnv FE s84 o84 [d0, d1]) o84.owes = (dget (g84 [d0, d1]) 0).toB).trans (hp rfl), nrms_teq (by kernel_rfl) (by kernel_rfl) (by kernel_rfl)⟩
theorem k119 : FnOK Try.prog WI gK 119 s119 g119 :=
  fn_ok (F := FE) wiStable (⟨(fun f s h => by
    simp only [Sigs.get, S119, assoc] at h
    split at h
    · rename_i hg; obtain rfl := Nat.eq_of_beq_eq_true hg; cases h; exact k84
    cases h), (fun _ _ h => (by cases h))⟩) Try.func119 ev119 (by kernel_rfl) (fun _ h => (by cases h)) fun ds h hp => match ds, h, hp with
    | [d0, d1], _, hp => ⟨(by kernel_rfl : owesB (outEnv FE s119 o119 [d0, d1]) o119.owes = (dget (g119 [d0, d1]) 0).toB).trans (hp rfl), nrms_teq (by kernel_rfl) (by kernel_rfl) (by kernel_rfl)⟩
theorem k126 : FnOK Try.prog WI gK 126 s126 g126 :=
  fn_ok (F := FE) wiStable (⟨fun _ _ h => (by cases h), (fun _ _ h => (by cases h))⟩) Try.func126 ev126 (by kernel_rfl) (fun _ h => (by cases h)) fun ds h hp => match ds, h, hp with
    | [d0, d1, d2, d3, d4], _, _ => ⟨by kernel_rfl, nrms_teq (by kernel_rfl) (by kernel_rfl) (by kernel_rfl)⟩
theorem hl116_0 : LoopSound FE l116_0 := loop_ok (w := W111600) (c := C111600) (nx := N111600) (out := T111600) [.l, .i] (fun ds => by kernel_rfl) rfl (fun ν xs h => match xs, h with | [x0], _ => by kernel_rfl)
  (fun ν xs h => match xs, h with | [x0], _ => by kernel_rfl)
  (fun ν xs h => match xs, h with | [x0], _ => by kernel_rfl)
  (fun ν xs h => match xs, h with | [x0], _ => by kernel_rfl)
theorem hl116 : ∀ l ∈ o116.loops, LoopSound FE l := show ∀ l ∈ [l116_0], LoopSound FE l from
  List.forall_mem_cons.2 ⟨hl116_0, fun _ h => (by cases h)⟩
theorem k116 : FnOK Try.prog WI gK 116 s116 g116 :=
  fn_ok (F := FE) wiStable (⟨fun _ _ h => (by cases h), (fun _ _ h => (by cases h))⟩) Try.func116 ev116 (by kernel_rfl) hl116 fun ds h hp => match ds, h, hp with
    | [d0], _, hp => ⟨(by kernel_rfl : owesB (outEnv FE s116 o116 [d0]) o116.owes = (dget (g116 [d0]) 0).toB).trans (hp rfl), nrms_teq (by kernel_rfl) (by kernel_rfl) (by kernel_rfl)⟩
theorem k80 : FnOK Try.prog WI gK 80 s80 g80 :=
  fn_ok (F := FE) wiStable (⟨(fun f s h => by
    simp only [Sigs.get, S80, assoc] at h
    split at h
    · rename_i hg; obtain rfl := Nat.eq_of_beq_eq_true hg; cases h; exact k116
    cases h), (fun _ _ h => (by cases h))⟩) Try.func80 ev80 (by kernel_rfl) (fun _ h => (by cases h)) fun ds h hp => match ds, h, hp with
    | [d0], _, hp => ⟨(by kernel_rfl : owesB (outEnv FE s80 o80 [d0]) o80.owes = (dget (g80 [d0]) 0).toB).trans (hp rfl), nrms_teq (by kernel_rfl) (by kernel_rfl) (by kernel_rfl)⟩
theorem hl114_0 : LoopSound FE l114_0 := loop_ok (w := W111400) (c := C111400) (nx := N111400) (out := T111400) [.l, .l, .l, .i, .i, .l] (fun ds => by kernel_rfl) rfl (fun ν xs h => match xs, h with | [x0, x1, x2, x3], _ => by kernel_rfl)
  (fun ν xs h => match xs, h with | [x0, x1, x2, x3], _ => by kernel_rfl)
  (fun ν xs h => match xs, h with | [x0, x1, x2, x3], _ => by kernel_rfl)
  (fun ν xs h => match xs, h with | [x0, x1, x2, x3], _ => by kernel_rfl)
theorem hl114 : ∀ l ∈ o114.loops, LoopSound FE l := show ∀ l ∈ [l114_0], LoopSound FE l from
  List.forall_mem_cons.2 ⟨hl114_0, fun _ h => (by cases h)⟩
theorem k114 : FnOK Try.prog WI gK 114 s114 g114 :=
  fn_ok (F := FE) wiStable (⟨(fun f s h => by
    simp only [Sigs.get, S114, assoc] at h
    split at h
    · rename_i hg; obtain rfl := Nat.eq_of_beq_eq_true hg; cases h; exact k116
    cases h), (fun _ _ h => (by cases h))⟩) Try.func114 ev114 (by kernel_rfl) hl114 fun ds h hp => match ds, h, hp with
    | [d0, d1], _, hp => ⟨(by kernel_rfl : owesB (outEnv FE s114 o114 [d0, d1]) o114.owes = (dget (g114 [d0, d1]) 0).toB).trans (hp rfl), nrms_teq (by kernel_rfl) (by kernel_rfl) (by kernel_rfl)⟩
theorem hl77_0 : LoopSound FE l77_0 := loop_ok (w := W107700) (c := C107700) (nx := N107700) (out := T107700) [.l, .l, .b, .i] (fun ds => by kernel_rfl) rfl (fun ν xs h => match xs, h with | [x0, x1], _ => by kernel_rfl)
  (fun ν xs h => match xs, h with | [x0, x1], _ => by kernel_rfl)
  (fun ν xs h => match xs, h with | [x0, x1], _ => by kernel_rfl)
  (fun ν xs h => match xs, h with | [x0, x1], _ => by kernel_rfl)
theorem hl77 : ∀ l ∈ o77.loops, LoopSound FE l := show ∀ l ∈ [l77_0], LoopSound FE l from
  List.forall_mem_cons.2 ⟨hl77_0, fun _ h => (by cases h)⟩
theorem k77 : FnOK Try.prog WI gK 77 s77 g77 :=
  fn_ok (F := FE) wiStable (⟨fun _ _ h => (by cases h), (fun _ _ h => (by cases h))⟩) Try.func77 ev77 (by kernel_rfl) hl77 fun ds h hp => match ds, h, hp with
    | [d0, d1], _, hp => ⟨(by kernel_rfl : owesB (outEnv FE s77 o77 [d0, d1]) o77.owes = (dget (g77 [d0, d1]) 0).toB).trans (hp rfl), nrms_teq (by kernel_rfl) (by kernel_rfl) (by kernel_rfl)⟩
theorem hl110_0 : LoopSound FE l110_0 := loop_ok (w := W111000) (c := C111000) (nx := N111000) (out := T111000) [.l, .l, .l, .i, .i, .l] (fun ds => by kernel_rfl) rfl (fun ν xs h => match xs, h with | [x0, x1, x2, x3], _ => by kernel_rfl)
  (fun ν xs h => match xs, h with | [x0, x1, x2, x3], _ => by kernel_rfl)
  (fun ν xs h => match xs, h with | [x0, x1, x2, x3], _ => by kernel_rfl)
  (fun ν xs h => match xs, h with | [x0, x1, x2, x3], _ => by kernel_rfl)
theorem hl110 : ∀ l ∈ o110.loops, LoopSound FE l := show ∀ l ∈ [l110_0], LoopSound FE l from
  List.forall_mem_cons.2 ⟨hl110_0, fun _ h => (by cases h)⟩
theorem k110 : FnOK Try.prog WI gK 110 s110 g110 :=
  fn_ok (F := FE) wiStable (⟨(fun f s h => by
    simp only [Sigs.get, S110, assoc] at h
    split at h
    · rename_i hg; obtain rfl := Nat.eq_of_beq_eq_true hg; cases h; exact k116
    cases h), (fun _ _ h => (by cases h))⟩) Try.func110 ev110 (by kernel_rfl) hl110 fun ds h hp => match ds, h, hp with
    | [d0, d1], _, hp => ⟨(by kernel_rfl : owesB (outEnv FE s110 o110 [d0, d1]) o110.owes = (dget (g110 [d0, d1]) 0).toB).trans (hp rfl), nrms_teq (by kernel_rfl) (by kernel_rfl) (by kernel_rfl)⟩
theorem hl104_0 : LoopSound FE l104_0 := loop_ok (w := W110400) (c := C110400) (nx := N110400) (out := T110400) [.i, .l, .l, .i, .i, .l] (fun ds => by kernel_rfl) rfl (fun ν xs h => match xs, h with | [x0, x1, x2, x3], _ => by kernel_rfl)
  (fun ν xs h => match xs, h with | [x0, x1, x2, x3], _ => by kernel_rfl)
  (fun ν xs h => match xs, h with | [x0, x1, x2, x3], _ => by kernel_rfl)
  (fun ν xs h => match xs, h with | [x0, x1, x2, x3], _ => by kernel_rfl)
theorem hl104 : ∀ l ∈ o104.loops, LoopSound FE l := show ∀ l ∈ [l104_0], LoopSound FE l from
  List.forall_mem_cons.2 ⟨hl104_0, fun _ h => (by cases h)⟩
theorem k104 : FnOK Try.prog WI gK 104 s104 g104 :=
  fn_ok (F := FE) wiStable (⟨(fun f s h => by
    simp only [Sigs.get, S104, assoc] at h
    split at h
    · rename_i hg; obtain rfl := Nat.eq_of_beq_eq_true hg; cases h; exact k116
    cases h), (fun _ _ h => (by cases h))⟩) Try.func104 ev104 (by kernel_rfl) hl104 fun ds h hp => match ds, h, hp with
    | [d0, d1], _, hp => ⟨(by kernel_rfl : owesB (outEnv FE s104 o104 [d0, d1]) o104.owes = (dget (g104 [d0, d1]) 0).toB).trans (hp rfl), nrms_teq (by kernel_rfl) (by kernel_rfl) (by kernel_rfl)⟩
theorem k113 : FnOK Try.prog WI gK 113 s113 g113 :=
  fn_ok (F := FE) wiStable (⟨fun _ _ h => (by cases h), (fun _ _ h => (by cases h))⟩) Try.func113 ev113 (by kernel_rfl) (fun _ h => (by cases h)) fun ds h hp => match ds, h, hp with
    | [d0, d1], _, hp => ⟨(by kernel_rfl : owesB (outEnv FE s113 o113 [d0, d1]) o113.owes = (dget (g113 [d0, d1]) 0).toB).trans (hp rfl), nrms_teq (by kernel_rfl) (by kernel_rfl) (by kernel_rfl)⟩
theorem hl117_0 : LoopSound FE l117_0 := loop_ok (w := W111700) (c := C111700) (nx := N111700) (out := T111700) [.l, .i] (fun ds => by kernel_rfl) rfl (fun ν xs h => match xs, h with | [x0], _ => by kernel_rfl)
  (fun ν xs h => match xs, h with | [x0], _ => by kernel_rfl)
  (fun ν xs h => match xs, h with | [x0], _ => by kernel_rfl)
  (fun ν xs h => match xs, h with | [x0], _ => by kernel_rfl)
theorem hl117 : ∀ l ∈ o117.loops, LoopSound FE l := show ∀ l ∈ [l117_0], LoopSound FE l from
  List.forall_mem_cons.2 ⟨hl117_0, fun _ h => (by cases h)⟩
theorem k117 : FnOK Try.prog WI gK 117 s117 g117 :=
  fn_ok (F := FE) wiStable (⟨(fun f s h => by
    simp only [Sigs.get, S117, assoc] at h
    split at h
    · rename_i hg; obtain rfl := Nat.eq_of_beq_eq_true hg; cases h; exact k113
    cases h), (fun _ _ h => (by cases h))⟩) Try.func117 ev117 (by kernel_rfl) hl117 fun ds h hp => match ds, h, hp with
    | [d0], _, hp => ⟨(by kernel_rfl : owesB (outEnv FE s117 o117 [d0]) o117.owes = (dget (g117 [d0]) 0).toB).trans (hp rfl), nrms_teq (by kernel_rfl) (by kernel_rfl) (by kernel_rfl)⟩
theorem hl112_0 : LoopSound FE l112_0 := loop_ok (w := W111200) (c := C111200) (nx := N111200) (out := T111200) [.i, .l, .b, .i] (fun ds => by kernel_rfl) rfl (fun ν xs h => match xs, h with | [x0, x1], _ => by kernel_rfl)
  (fun ν xs h => match xs, h with | [x0, x1], _ => by kernel_rfl)
  (fun ν xs h => match xs, h with | [x0, x1], _ => by kernel_rfl)
  (fun ν xs h => match xs, h with | [x0, x1], _ => by kernel_rfl)
theorem hl112_1 : LoopSound FE l112_1 := loop_ok (w := W111202) (c := C111202) (nx := N111202) (out := T111202) [.i, .l, .l, .i, .l] (fun ds => by kernel_rfl) rfl (fun ν xs h => match xs, h with | [x0, x1, x2], _ => by kernel_rfl)
  (fun ν xs h => match xs, h with | [x0, x1, x2], _ => by kernel_rfl)
  (fun ν xs h => match xs, h with | [x0, x1, x2], _ => by kernel_rfl)
  (fun ν xs h => match xs, h with | [x0, x1, x2], _ => by kernel_rfl)
theorem hl112 : ∀ l ∈ o112.loops, LoopSound FE l := show ∀ l ∈ [l112_0, l112_1], LoopSound FE l from
  List.forall_mem_cons.2 ⟨hl112_0, List.forall_mem_cons.2 ⟨hl112_1, fun _ h => (by cases h)⟩⟩
theorem k112 : FnOK Try.prog WI gK 112 s112 g112 :=
  fn_ok (F := FE) wiStable (⟨(fun f s h => by
    simp only [Sigs.get, S112, assoc] at h
    split at h
    · rename_i hg; obtain rfl := Nat.eq_of_beq_eq_true hg; cases h; exact k116
    split at h
    · rename_i hg; obtain rfl := Nat.eq_of_beq_eq_true hg; cases h; exact k113
    cases h), (fun _ _ h => (by cases h))⟩) Try.func112 ev112 (by kernel_rfl) hl112 fun ds h hp => match ds, h, hp with
    | [d0, d1], _, hp => ⟨(by kernel_rfl : owesB (outEnv FE s112 o112 [d0, d1]) o112.owes = (dget (g112 [d0, d1]) 0).toB).trans (hp rfl), nrms_teq (by kernel_rfl) (by kernel_rfl) (by kernel_rfl)⟩
theorem hl111_0 : LoopSound FE l111_0 := loop_ok (w := W111100) (c := C111100) (nx := N111100) (out := T111100) [.l, .i, .i] (fun ds => by kernel_rfl) rfl (fun ν xs h => match xs, h with | [x0, x1], _ => by kernel_rfl)
  (fun ν xs h => match xs, h with | [x0, x1], _ => by kernel_rfl)
  (fun ν xs h => match xs, h with | [x0, x1], _ => by kernel_rfl)
  (fun ν xs h => match xs, h with | [x0, x1], _ => by kernel_rfl)
theorem hl111 : ∀ l ∈ o111.loops, LoopSound FE l := show ∀ l ∈ [l111_0], LoopSound FE l from
  List.forall_mem_cons.2 ⟨hl111_0, fun _ h => (by cases h)⟩
theorem k111 : FnOK Try.prog WI gK 111 s111 g111 :=
  fn_ok (F := FE) wiStable (⟨fun _ _ h => (by cases h), (fun _ _ h => (by cases h))⟩) Try.func111 ev111 (by kernel_rfl) hl111 fun ds h hp => match ds, h, hp with
    | [d0], _, hp => ⟨(by kernel_rfl : owesB (outEnv FE s111 o111 [d0]) o111.owes = (dget (g111 [d0]) 0).toB).trans (hp rfl), nrms_teq (by kernel_rfl) (by kernel_rfl) (by kernel_rfl)⟩
theorem k76 : FnOK Try.prog WI gK 76 s76 g76 :=
  fn_ok (F := FE) wiStable (⟨(fun f s h => by
    simp only [Sigs.get, S76, assoc] at h
    split at h
    · rename_i hg; obtain rfl := Nat.eq_of_beq_eq_true hg; cases h; exact k89
    split at h
    · rename_i hg; obtain rfl := Nat.eq_of_beq_eq_true hg; cases h; exact k90
    split at h
    · rename_i hg; obtain rfl := Nat.eq_of_beq_eq_true hg; cases h; exact k80
    cases h), (fun _ _ h => (by cases h))⟩) Try.func76 ev76 (by kernel_rfl) (fun _ h => (by cases h)) fun ds h hp => match ds, h, hp with
    | [d0, d1], _, hp => ⟨(by kernel_rfl : owesB (outEnv FE s76 o76 [d0, d1]) o76.owes = (dget (g76 [d0, d1]) 0).toB).trans (hp rfl), nrms_teq (by kernel_rfl) (by kernel_rfl) (by kernel_rfl)⟩
theorem k118 : FnOK Try.prog WI gK 118 s118 g118 :=
  fn_ok (F := FE) wiStable (⟨(fun f s h => by
    simp only [Sigs.get, S118, assoc] at h
    split at h
    · rename_i hg; obtain rfl := Nat.eq_of_beq_eq_true hg; cases h; exact k104
    split at h
    · rename_i hg; obtain rfl := Nat.eq_of_beq_eq_true hg; cases h; exact k112
    split at h
    · rename_i hg; obtain rfl := Nat.eq_of_beq_eq_true hg; cases h; exact k113
    split at h
    · rename_i hg; obtain rfl := Nat.eq_of_beq_eq_true hg; cases h; exact k126
    split at h
    · rename_i hg; obtain rfl := Nat.eq_of_beq_eq_true hg; cases h; exact k114
    cases h), (fun _ _ h => (by cases h))⟩) Try.func118 ev118 (by kernel_rfl) (fun _ h => (by cases h)) fun ds h hp => match ds, h, hp with
    | [d0, d1, d2, d3, d4], _, hp => ⟨(by kernel_rfl : owesB (outEnv FE s118 o118 [d0, d1, d2, d3, d4]) o118.owes = (dget (g118 [d0, d1, d2, d3, d4]) 0).toB).trans (hp rfl), nrms_teq (by kernel_rfl) (by kernel_rfl) (by kernel_rfl)⟩
theorem k81 : FnOK Try.prog WI gK 81 s81 g81 :=
  fn_ok (F := FE) wiStable (⟨(fun f s h => by
    simp only [Sigs.get, S81, assoc] at h
    split at h
    · rename_i hg; obtain rfl := Nat.eq_of_beq_eq_true hg; cases h; exact k89
    split at h
    · rename_i hg; obtain rfl := Nat.eq_of_beq_eq_true hg; cases h; exact k117
    split at h
    · rename_i hg; obtain rfl := Nat.eq_of_beq_eq_true hg; cases h; exact k118
    split at h
    · rename_i hg; obtain rfl := Nat.eq_of_beq_eq_true hg; cases h; exact k112
    split at h
    · rename_i hg; obtain rfl := Nat.eq_of_beq_eq_true hg; cases h; exact k119
    split at h
    · rename_i hg; obtain rfl := Nat.eq_of_beq_eq_true hg; cases h; exact k84
    split at h
    · rename_i hg; obtain rfl := Nat.eq_of_beq_eq_true hg; cases h; exact k111
    split at h
    · rename_i hg; obtain rfl := Nat.eq_of_beq_eq_true hg; cases h; exact k85
    cases h), (fun _ _ h => (by cases h))⟩) Try.func81 ev81 (by kernel_rfl) (fun _ h => (by cases h)) fun ds h hp => match ds, h, hp with
    | [d0, d1, d2, d3, d4, d5], _, hp => ⟨(by kernel_rfl : owesB (outEnv FE s81 o81 [d0, d1, d2, d3, d4, d5]) o81.owes = (dget (g81 [d0, d1, d2, d3, d4, d5]) 0).toB).trans (hp rfl), nrms_teq (by kernel_rfl) (by kernel_rfl) (by kernel_rfl)⟩
theorem k66 : FnOK Try.prog WI gK 66 s66 g66 :=
  fn_ok (F := FE) wiStable (⟨fun _ _ h => (by cases h), (fun _ _ h => (by cases h))⟩) Try.func66 ev66 (by kernel_rfl) (fun _ h => (by cases h)) fun ds h hp => match ds, h, hp with
    | [d0, d1, d2], _, _ => ⟨by kernel_rfl, nrms_teq (by kernel_rfl) (by kernel_rfl) (by kernel_rfl)⟩
theorem k62 : FnOK Try.prog WI gK 62 s62 g62 :=
  fn_ok (F := FE) wiStable (⟨fun _ _ h => (by cases h), (fun _ _ h => (by cases h))⟩) Try.func62 ev62 (by kernel_rfl) (fun _ h => (by cases h)) fun ds h hp => match ds, h, hp with
    | [d0], _, _ => ⟨by kernel_rfl, nrms_teq (by kernel_rfl) (by kernel_rfl) (by kernel_rfl)⟩
theorem k83 : FnOK Try.prog WI gK 83 s83 g83 :=
  fn_ok (F := FE) wiStable (⟨fun _ _ h => (by cases h), (fun _ _ h => (by cases h))⟩) Try.func83 ev83 (by kernel_rfl) (fun _ h => (by cases h)) fun ds h hp => match ds, h, hp with
    | [d0, d1, d2], _, hp => ⟨(by kernel_rfl : owesB (outEnv FE s83 o83 [d0, d1, d2]) o83.owes = (dget (g83 [d0, d1, d2]) 0).toB).trans (hp rfl), nrms_teq (by kernel_rfl) (by kernel_rfl) (by kernel_rfl)⟩
theorem k63 : FnOK Try.prog WI gK 63 s63 g63 :=
  fn_ok (F := FE) wiStable (⟨(fun f s h => by
    simp only [Sigs.get, S63, assoc] at h
    split at h
    · rename_i hg; obtain rfl := Nat.eq_of_beq_eq_true hg; cases h; exact k83
    cases h), (fun _ _ h => (by cases h))⟩) Try.func63 ev63 (by kernel_rfl) (fun _ h => (by cases h)) fun ds h hp => match ds, h, hp with
    | [d0, d1, d2], _, hp => ⟨(by kernel_rfl : owesB (outEnv FE s63 o63 [d0, d1, d2]) o63.owes = (dget (g63 [d0, d1, d2]) 0).toB).trans (hp rfl), nrms_teq (by kernel_rfl) (by kernel_rfl) (by kernel_rfl)⟩
theorem k64 : FnOK Try.prog WI gK 64 s64 g64 :=
  fn_ok (F := FE) wiStable (⟨fun _ _ h => (by cases h), (fun _ _ h => (by cases h))⟩) Try.func64 ev64 (by kernel_rfl) (fun _ h => (by cases h)) fun ds h hp => match ds, h, hp with
    | [d0, d1], _, _ => ⟨by kernel_rfl, nrms_teq (by kernel_rfl) (by kernel_rfl) (by kernel_rfl)⟩
theorem k65 : FnOK Try.prog WI gK 65 s65 g65 :=
  fn_ok (F := FE) wiStable (⟨fun _ _ h => (by cases h), (fun _ _ h => (by cases h))⟩) Try.func65 ev65 (by kernel_rfl) (fun _ h => (by cases h)) fun ds h hp => match ds, h, hp with
    | [d0, d1, d2, d3], _, _ => ⟨by kernel_rfl, nrms_teq (by kernel_rfl) (by kernel_rfl) (by kernel_rfl)⟩
theorem k86 : FnOK Try.prog WI gK 86 s86 g86 :=
  fn_ok (F := FE) wiStable (⟨fun _ _ h => (by cases h), (fun _ _ h => (by cases h))⟩) Try.func86 ev86 (by kernel_rfl) (fun _ h => (by cases h)) fun ds h hp => match ds, h, hp with
    | [d0, d1, d2, d3], _, _ => ⟨by kernel_rfl, nrms_teq (by kernel_rfl) (by kernel_rfl) (by kernel_rfl)⟩
theorem k82 : FnOK Try.prog WI gK 82 s82 g82 :=
  fn_ok (F := FE) wiStable (⟨fun _ _ h => (by cases h), (fun _ _ h => (by cases h))⟩) Try.func82 ev82 (by kernel_rfl) (fun _ h => (by cases h)) fun ds h hp => match ds, h, hp with
    | [d0, d1, d2, d3, d4], _, _ => ⟨by kernel_rfl, nrms_teq (by kernel_rfl) (by kernel_rfl) (by kernel_rfl)⟩
theorem k67 : FnOK Try.prog WI gK 67 s67 g67 :=
  fn_ok (F := FE) wiStable (⟨(fun f s h => by
    simp only [Sigs.get, S67, assoc] at h
    split at h
    · rename_i hg; obtain rfl := Nat.eq_of_beq_eq_true hg; cases h; exact k86
    split at h
    · rename_i hg; obtain rfl := Nat.eq_of_beq_eq_true hg; cases h; exact k83
    cases h), (fun _ _ h => (by cases h))⟩) Try.func67 ev67 (by kernel_rfl) (fun _ h => (by cases h)) fun ds h hp => match ds, h, hp with
    | [d0, d1, d2, d3], _, hp => ⟨(by kernel_rfl : owesB (outEnv FE s67 o67 [d0, d1, d2, d3]) o67.owes = (dget (g67 [d0, d1, d2, d3]) 0).toB).trans (hp rfl), nrms_teq (by kernel_rfl) (by kernel_rfl) (by kernel_rfl)⟩
theorem k68 : FnOK Try.prog WI gK 68 s68 g68 :=
  fn_ok (F := FE) wiStable (⟨(fun f s h => by
    simp only [Sigs.get, S68, assoc] at h
    split at h
    · rename_i hg; obtain rfl := Nat.eq_of_beq_eq_true hg; cases h; exact k86
    cases h), (fun _ _ h => (by cases h))⟩) Try.func68 ev68 (by kernel_rfl) (fun _ h => (by cases h)) fun ds h hp => match ds, h, hp with
    | [d0, d1, d2, d3], _, hp => ⟨(by kernel_rfl : owesB (outEnv FE s68 o68 [d0, d1, d2, d3]) o68.owes = (dget (g68 [d0, d1, d2, d3]) 0).toB).trans (hp rfl), nrms_teq (by kernel_rfl) (by kernel_rfl) (by kernel_rfl)⟩
theorem k70 : FnOK Try.prog WI gK 70 s70 g70 :=
  fn_ok (F := FE) wiStable (⟨fun _ _ h => (by cases h), (fun _ _ h => (by cases h))⟩) Try.func70 ev70 (by kernel_rfl) (fun _ h => (by cases h)) fun ds h hp => match ds, h, hp with
    | [d0, d1, d2, d3], _, hp => ⟨(by kernel_rfl : owesB (outEnv FE s70 o70 [d0, d1, d2, d3]) o70.owes = (dget (g70 [d0, d1, d2, d3]) 0).toB).trans (hp rfl), nrms_teq (by kernel_rfl) (by kernel_rfl) (by kernel_rfl)⟩
theorem k78 : FnOK Try.prog WI gK 78 s78 g78 :=
  fn_ok (F := FE) wiStable (⟨(fun f s h => by
    simp only [Sigs.get, S78, assoc] at h
    split at h
    · rename_i hg; obtain rfl := Nat.eq_of_beq_eq_true hg; cases h; exact k115
    split at h
    · rename_i hg; obtain rfl := Nat.eq_of_beq_eq_true hg; cases h; exact k70
    split at h
    · rename_i hg; obtain rfl := Nat.eq_of_beq_eq_true hg; cases h; exact k82
    split at h
    · rename_i hg; obtain rfl := Nat.eq_of_beq_eq_true hg; cases h; exact k83
    cases h), (fun _ _ h => (by cases h))⟩) Try.func78 ev78 (by kernel_rfl) (fun _ h => (by cases h)) fun ds h hp => match ds, h, hp with
    | [d0, d1, d2, d3, d4, d5, d6], _, hp => ⟨(by kernel_rfl : owesB (outEnv FE s78 o78 [d0, d1, d2, d3, d4, d5, d6]) o78.owes = (dget (g78 [d0, d1, d2, d3, d4, d5, d6]) 0).toB).trans (hp rfl), nrms_teq (by kernel_rfl) (by kernel_rfl) (by kernel_rfl)⟩
theorem k87 : FnOK Try.prog WI gK 87 s87 g87 :=
  fn_ok (F := FE) wiStable (⟨(fun f s h => by
    simp only [Sigs.get, S87, assoc] at h
    split at h
    · rename_i hg; obtain rfl := Nat.eq_of_beq_eq_true hg; cases h; exact k65
    split at h
    · rename_i hg; obtain rfl := Nat.eq_of_beq_eq_true hg; cases h; exact k86
    cases h), (fun _ _ h => (by cases h))⟩) Try.func87 ev87 (by kernel_rfl) (fun _ h => (by cases h)) fun ds h hp => match ds, h, hp with
    | [d0, d1, d2, d3], _, _ => ⟨by kernel_rfl, nrms_teq (by kernel_rfl) (by kernel_rfl) (by kernel_rfl)⟩
theorem k25 : FnOK Try.prog WI gK 25 s25 g25 :=
  fn_ok (F := FE) wiStable (⟨(fun f s h => by
    simp only [Sigs.get, S25, assoc] at h
    split at h
    · rename_i hg; obtain rfl := Nat.eq_of_beq_eq_true hg; cases h; exact k64
    split at h
    · rename_i hg; obtain rfl := Nat.eq_of_beq_eq_true hg; cases h; exact k62
    split at h
    · rename_i hg; obtain rfl := Nat.eq_of_beq_eq_true hg; cases h; exact k65
    split at h
    · rename_i hg; obtain rfl := Nat.eq_of_beq_eq_true hg; cases h; exact k67
    split at h
    · rename_i hg; obtain rfl := Nat.eq_of_beq_eq_true hg; cases h; exact k66
    split at h
    · rename_i hg; obtain rfl := Nat.eq_of_beq_eq_true hg; cases h; exact k68
    split at h
    · rename_i hg; obtain rfl := Nat.eq_of_beq_eq_true hg; cases h; exact k69
    split at h
    · rename_i hg; obtain rfl := Nat.eq_of_beq_eq_true hg; cases h; exact k70
    cases h), (fun _ _ h => (by cases h))⟩) Try.func25 ev25 (by kernel_rfl) (fun _ h => (by cases h)) fun ds h hp => match ds, h, hp with
    | [d0, d1, d2, d3, d4], _, hp => ⟨(by kernel_rfl : owesB (outEnv FE s25 o25 [d0, d1, d2, d3, d4]) o25.owes = (dget (g25 [d0, d1, d2, d3, d4]) 0).toB).trans (hp rfl), nrms_teq (by kernel_rfl) (by kernel_rfl) (by kernel_rfl)⟩
theorem k27 : FnOK Try.prog WI gK 27 s27 g27 :=
  fn_ok (F := FE) wiStable (⟨(fun f s h => by
    simp only [Sigs.get, S27, assoc] at h
    split at h
    · rename_i hg; obtain rfl := Nat.eq_of_beq_eq_true hg; cases h; exact k64
    split at h
    · rename_i hg; obtain rfl := Nat.eq_of_beq_eq_true hg; cases h; exact k62
    split at h
    · rename_i hg; obtain rfl := Nat.eq_of_beq_eq_true hg; cases h; exact k78
    cases h), (fun _ _ h => (by cases h))⟩) Try.func27 ev27 (by kernel_rfl) (fun _ h => (by cases h)) fun ds h hp => match ds, h, hp with
    | [d0, d1, d2, d3, d4], _, hp => ⟨(by kernel_rfl : owesB (outEnv FE s27 o27 [d0, d1, d2, d3, d4]) o27.owes = (dget (g27 [d0, d1, d2, d3, d4]) 0).toB).trans (hp rfl), nrms_teq (by kernel_rfl) (by kernel_rfl) (by kernel_rfl)⟩
theorem k29 : FnOK Try.prog WI gK 29 s29 g29 :=
  fn_ok (F := FE) wiStable (⟨(fun f s h => by
    simp only [Sigs.get, S29, assoc] at h
    split at h
    · rename_i hg; obtain rfl := Nat.eq_of_beq_eq_true hg; cases h; exact k64
    split at h
    · rename_i hg; obtain rfl := Nat.eq_of_beq_eq_true hg; cases h; exact k62
    split at h
    · rename_i hg; obtain rfl := Nat.eq_of_beq_eq_true hg; cases h; exact k65
    split at h
    · rename_i hg; obtain rfl := Nat.eq_of_beq_eq_true hg; cases h; exact k67
    split at h
    · rename_i hg; obtain rfl := Nat.eq_of_beq_eq_true hg; cases h; exact k63
    split at h
    · rename_i hg; obtain rfl := Nat.eq_of_beq_eq_true hg; cases h; exact k83
    split at h
    · rename_i hg; obtain rfl := Nat.eq_of_beq_eq_true hg; cases h; exact k82
    split at h
    · rename_i hg; obtain rfl := Nat.eq_of_beq_eq_true hg; cases h; exact k68
    split at h
    · rename_i hg; obtain rfl := Nat.eq_of_beq_eq_true hg; cases h; exact k78
    cases h), (fun _ _ h => (by cases h))⟩) Try.func29 ev29 (by kernel_rfl) (fun _ h => (by cases h)) fun ds h hp => match ds, h, hp with
    | [d0, d1, d2], _, hp => ⟨(by kernel_rfl : owesB (outEnv FE s29 o29 [d0, d1, d2]) o29.owes = (dget (g29 [d0, d1, d2]) 0).toB).trans (hp rfl), nrms_teq (by kernel_rfl) (by kernel_rfl) (by kernel_rfl)⟩
theorem k31 : FnOK Try.prog WI gK 31 s31 g31 :=
  fn_ok (F := FE) wiStable (⟨(fun f s h => by
    simp only [Sigs.get, S31, assoc] at h
    split at h
    · rename_i hg; obtain rfl := Nat.eq_of_beq_eq_true hg; cases h; exact k64
    split at h
    · rename_i hg; obtain rfl := Nat.eq_of_beq_eq_true hg; cases h; exact k62
    split at h
    · rename_i hg; obtain rfl := Nat.eq_of_beq_eq_true hg; cases h; exact k65
    split at h
    · rename_i hg; obtain rfl := Nat.eq_of_beq_eq_true hg; cases h; exact k86
    split at h
    · rename_i hg; obtain rfl := Nat.eq_of_beq_eq_true hg; cases h; exact k82
    cases h), (fun _ _ h => (by cases h))⟩) Try.func31 ev31 (by kernel_rfl) (fun _ h => (by cases h)) fun ds h hp => match ds, h, hp with
    | [d0, d1, d2, d3], _, _ => ⟨by kernel_rfl, nrms_teq (by kernel_rfl) (by kernel_rfl) (by kernel_rfl)⟩
theorem k33 : FnOK Try.prog WI gK 33 s33 g33 :=
  fn_ok (F := FE) wiStable (⟨(fun f s h => by
    simp only [Sigs.get, S33, assoc] at h
    split at h
    · rename_i hg; obtain rfl := Nat.eq_of_beq_eq_true hg; cases h; exact k64
    split at h
    · rename_i hg; obtain rfl := Nat.eq_of_beq_eq_true hg; cases h; exact k62
    split at h
    · rename_i hg; obtain rfl := Nat.eq_of_beq_eq_true hg; cases h; exact k67
    split at h
    · rename_i hg; obtain rfl := Nat.eq_of_beq_eq_true hg; cases h; exact k65
    cases h), (fun _ _ h => (by cases h))⟩) Try.func33 ev33 (by kernel_rfl) (fun _ h => (by cases h)) fun ds h hp => match ds, h, hp with
    | [d0, d1], _, hp => ⟨(by kernel_rfl : owesB (outEnv FE s33 o33 [d0, d1]) o33.owes = (dget (g33 [d0, d1]) 0).toB).trans (hp rfl), nrms_teq (by kernel_rfl) (by kernel_rfl) (by kernel_rfl)⟩
theorem k35 : FnOK Try.prog WI gK 35 s35 g35 :=
  fn_ok (F := FE) wiStable (⟨(fun f s h => by
    simp only [Sigs.get, S35, assoc] at h
    split at h
    · rename_i hg; obtain rfl := Nat.eq_of_beq_eq_true hg; cases h; exact k64
    split at h
    · rename_i hg; obtain rfl := Nat.eq_of_beq_eq_true hg; cases h; exact k62
    split at h
    · rename_i hg; obtain rfl := Nat.eq_of_beq_eq_true hg; cases h; exact k67
    split at h
    · rename_i hg; obtain rfl := Nat.eq_of_beq_eq_true hg; cases h; exact k65
    split at h
    · rename_i hg; obtain rfl := Nat.eq_of_beq_eq_true hg; cases h; exact k86
    split at h
    · rename_i hg; obtain rfl := Nat.eq_of_beq_eq_true hg; cases h; exact k82
    split at h
    · rename_i hg; obtain rfl := Nat.eq_of_beq_eq_true hg; cases h; exact k63
    split at h
    · rename_i hg; obtain rfl := Nat.eq_of_beq_eq_true hg; cases h; exact k87
    cases h), (fun _ _ h => (by cases h))⟩) Try.func35 ev35 (by kernel_rfl) (fun _ h => (by cases h)) fun ds h hp => match ds, h, hp with
    | [d0, d1, d2, d3], _, hp => ⟨(by kernel_rfl : owesB (outEnv FE s35 o35 [d0, d1, d2, d3]) o35.owes = (dget (g35 [d0, d1, d2, d3]) 0).toB).trans (hp rfl), nrms_teq (by kernel_rfl) (by kernel_rfl) (by kernel_rfl)⟩
theorem k37 : FnOK Try.prog WI gK 37 s37 g37 :=
  fn_ok (F := FE) wiStable (⟨(fun f s h => by
    simp only [Sigs.get, S37, assoc] at h
    split at h
    · rename_i hg; obtain rfl := Nat.eq_of_beq_eq_true hg; cases h; exact k64
    split at h
    · rename_i hg; obtain rfl := Nat.eq_of_beq_eq_true hg; cases h; exact k62
    split at h
    · rename_i hg; obtain rfl := Nat.eq_of_beq_eq_true hg; cases h; exact k67
    split at h
    · rename_i hg; obtain rfl := Nat.eq_of_beq_eq_true hg; cases h; exact k87
    cases h), (fun _ _ h => (by cases h))⟩) Try.func37 ev37 (by kernel_rfl) (fun _ h => (by cases h)) fun ds h hp => match ds, h, hp with
    | [d0, d1, d2, d3], _, hp => ⟨(by kernel_rfl : owesB (outEnv FE s37 o37 [d0, d1, d2, d3]) o37.owes = (dget (g37 [d0, d1, d2, d3]) 0).toB).trans (hp rfl), nrms_teq (by kernel_rfl) (by kernel_rfl) (by kernel_rfl)⟩
theorem k21 : FnOK Try.prog WI gK 21 s21 g21 :=
  fn_ok (F := FE) wiStable (⟨fun _ _ h => (by cases h), (fun _ _ h => (by cases h))⟩) Try.func21 ev21 (by kernel_rfl) (fun _ h => (by cases h)) fun ds h hp => match ds, h, hp with
    | [d0], _, _ => ⟨by kernel_rfl, nrms_teq (by kernel_rfl) (by kernel_rfl) (by kernel_rfl)⟩
theorem k23 : FnOK Try.prog WI gK 23 s23 g23 :=
  fn_ok (F := FE) wiStable (⟨(fun f s h => by
    simp only [Sigs.get, S23, assoc] at h
    split at h
    · rename_i hg; obtain rfl := Nat.eq_of_beq_eq_true hg; cases h; exact k62
    split at h
    · rename_i hg; obtain rfl := Nat.eq_of_beq_eq_true hg; cases h; exact k63
    cases h), (fun _ _ h => (by cases h))⟩) Try.func23 ev23 (by kernel_rfl) (fun _ h => (by cases h)) fun ds h hp => match ds, h, hp with
    | [d0], _, hp => ⟨(by kernel_rfl : owesB (outEnv FE s23 o23 [d0]) o23.owes = (dget (g23 [d0]) 0).toB).trans (hp rfl), nrms_teq (by kernel_rfl) (by kernel_rfl) (by kernel_rfl)⟩
theorem k71 : FnOK Try.prog WI gK 71 s71 g71 :=
  fn_ok (F := FE) wiStable (⟨fun _ _ h => (by cases h), (fun _ _ h => (by cases h))⟩) Try.func71 ev71 (by kernel_rfl) (fun _ h => (by cases h)) fun ds h hp => match ds, h, hp with
    | [d0, d1], _, _ => ⟨by kernel_rfl, nrms_teq (by kernel_rfl) (by kernel_rfl) (by kernel_rfl)⟩
theorem k79 : FnOK Try.prog WI gK 79 s79 g79 :=
  fn_ok (F := FE) wiStable (⟨fun _ _ h => (by cases h), (fun _ _ h => (by cases h))⟩) Try.func79 ev79 (by kernel_rfl) (fun _ h => (by cases h)) fun ds h hp => match ds, h, hp with
    | [d0], _, _ => ⟨by kernel_rfl, nrms_teq (by kernel_rfl) (by kernel_rfl) (by kernel_rfl)⟩
theorem k72 : FnOK Try.prog WI gK 72 s72 g72 :=
  fn_ok (F := FE) wiStable (⟨(fun f s h => by
    simp only [Sigs.get, S72, assoc] at h
    split at h
    · rename_i hg; obtain rfl := Nat.eq_of_beq_eq_true hg; cases h; exact k104
    split at h
    · rename_i hg; obtain rfl := Nat.eq_of_beq_eq_true hg; cases h; exact k110
    cases h), (fun _ _ h => (by cases h))⟩) Try.func72 ev72 (by kernel_rfl) (fun _ h => (by cases h)) fun ds h hp => match ds, h, hp with
    | [d0, d1], _, hp => ⟨(by kernel_rfl : owesB (outEnv FE s72 o72 [d0, d1]) o72.owes = (dget (g72 [d0, d1]) 0).toB).trans (hp rfl), nrms_teq (by kernel_rfl) (by kernel_rfl) (by kernel_rfl)⟩
theorem k73 : FnOK Try.prog WI gK 73 s73 g73 :=
  fn_ok (F := FE) wiStable (⟨(fun f s h => by
    simp only [Sigs.get, S73, assoc] at h
    split at h
    · rename_i hg; obtain rfl := Nat.eq_of_beq_eq_true hg; cases h; exact k111
    split at h
    · rename_i hg; obtain rfl := Nat.eq_of_beq_eq_true hg; cases h; exact k79
    cases h), (fun _ _ h => (by cases h))⟩) Try.func73 ev73 (by kernel_rfl) (fun _ h => (by cases h)) fun ds h hp => match ds, h, hp with
    | [d0, d1, d2], _, hp => ⟨(by kernel_rfl : owesB (outEnv FE s73 o73 [d0, d1, d2]) o73.owes = (dget (g73 [d0, d1, d2]) 0).toB).trans (hp rfl), nrms_teq (by kernel_rfl) (by kernel_rfl) (by kernel_rfl)⟩
theorem k75 : FnOK Try.prog WI gK 75 s75 g75 :=
  fn_ok (F := FE) wiStable (⟨(fun f s h => by
    simp only [Sigs.get, S75, assoc] at h
    split at h
    · rename_i hg; obtain rfl := Nat.eq_of_beq_eq_true hg; cases h; exact k104
    split at h
    · rename_i hg; obtain rfl := Nat.eq_of_beq_eq_true hg; cases h; exact k112
    split at h
    · rename_i hg; obtain rfl := Nat.eq_of_beq_eq_true hg; cases h; exact k113
    split at h
    · rename_i hg; obtain rfl := Nat.eq_of_beq_eq_true hg; cases h; exact k114
    cases h), (fun _ _ h => (by cases h))⟩) Try.func75 ev75 (by kernel_rfl) (fun _ h => (by cases h)) fun ds h hp => match ds, h, hp with
    | [d0, d1, d2, d3], _, hp => ⟨(by kernel_rfl : owesB (outEnv FE s75 o75 [d0, d1, d2, d3]) o75.owes = (dget (g75 [d0, d1, d2, d3]) 0).toB).trans (hp rfl), nrms_teq (by kernel_rfl) (by kernel_rfl) (by kernel_rfl)⟩
theorem k26 : FnOK Try.prog WI gK 26 s26 g26 :=
  fn_ok (F := FE) wiStable (⟨(fun f s h => by
    simp only [Sigs.get, S26, assoc] at h
    split at h
    · rename_i hg; obtain rfl := Nat.eq_of_beq_eq_true hg; cases h; exact k71
    split at h
    · rename_i hg; obtain rfl := Nat.eq_of_beq_eq_true hg; cases h; exact k72
    split at h
    · rename_i hg; obtain rfl := Nat.eq_of_beq_eq_true hg; cases h; exact k39
    split at h
    · rename_i hg; obtain rfl := Nat.eq_of_beq_eq_true hg; cases h; exact k73
    split at h
    · rename_i hg; obtain rfl := Nat.eq_of_beq_eq_true hg; cases h; exact k74
    split at h
    · rename_i hg; obtain rfl := Nat.eq_of_beq_eq_true hg; cases h; exact k56
    split at h
    · rename_i hg; obtain rfl := Nat.eq_of_beq_eq_true hg; cases h; exact k76
    split at h
    · rename_i hg; obtain rfl := Nat.eq_of_beq_eq_true hg; cases h; exact k75
    split at h
    · rename_i hg; obtain rfl := Nat.eq_of_beq_eq_true hg; cases h; exact k77
    cases h), (fun _ _ h => (by cases h))⟩) Try.func26 ev26 (by kernel_rfl) (fun _ h => (by cases h)) fun ds h hp => match ds, h, hp with
    | [d0, d1, d2, d3, d4], _, hp => ⟨(by kernel_rfl : owesB (outEnv FE s26 o26 [d0, d1, d2, d3, d4]) o26.owes = (dget (g26 [d0, d1, d2, d3, d4]) 0).toB).trans (hp rfl), nrms_teq (by kernel_rfl) (by kernel_rfl) (by kernel_rfl)⟩
theorem k28 : FnOK Try.prog WI gK 28 s28 g28 :=
  fn_ok (F := FE) wiStable (⟨(fun f s h => by
    simp only [Sigs.get, S28, assoc] at h
    split at h
    · rename_i hg; obtain rfl := Nat.eq_of_beq_eq_true hg; cases h; exact k71
    split at h
    · rename_i hg; obtain rfl := Nat.eq_of_beq_eq_true hg; cases h; exact k79
    split at h
    · rename_i hg; obtain rfl := Nat.eq_of_beq_eq_true hg; cases h; exact k80
    split at h
    · rename_i hg; obtain rfl := Nat.eq_of_beq_eq_true hg; cases h; exact k81
    cases h), (fun _ _ h => (by cases h))⟩) Try.func28 ev28 (by kernel_rfl) (fun _ h => (by cases h)) fun ds h hp => match ds, h, hp with
    | [d0, d1, d2, d3, d4], _, hp => ⟨(by kernel_rfl : owesB (outEnv FE s28 o28 [d0, d1, d2, d3, d4]) o28.owes = (dget (g28 [d0, d1, d2, d3, d4]) 0).toB).trans (hp rfl), nrms_teq (by kernel_rfl) (by kernel_rfl) (by kernel_rfl)⟩
theorem k30 : FnOK Try.prog WI gK 30 s30 g30 :=
  fn_ok (F := FE) wiStable (⟨(fun f s h => by
    simp only [Sigs.get, S30, assoc] at h
    split at h
    · rename_i hg; obtain rfl := Nat.eq_of_beq_eq_true hg; cases h; exact k71
    split at h
    · rename_i hg; obtain rfl := Nat.eq_of_beq_eq_true hg; cases h; exact k41
    split at h
    · rename_i hg; obtain rfl := Nat.eq_of_beq_eq_true hg; cases h; exact k40
    split at h
    · rename_i hg; obtain rfl := Nat.eq_of_beq_eq_true hg; cases h; exact k39
    split at h
    · rename_i hg; obtain rfl := Nat.eq_of_beq_eq_true hg; cases h; exact k56
    split at h
    · rename_i hg; obtain rfl := Nat.eq_of_beq_eq_true hg; cases h; exact k74
    split at h
    · rename_i hg; obtain rfl := Nat.eq_of_beq_eq_true hg; cases h; exact k84
    split at h
    · rename_i hg; obtain rfl := Nat.eq_of_beq_eq_true hg; cases h; exact k61
    split at h
    · rename_i hg; obtain rfl := Nat.eq_of_beq_eq_true hg; cases h; exact k85
    split at h
    · rename_i hg; obtain rfl := Nat.eq_of_beq_eq_true hg; cases h; exact k76
    split at h
    · rename_i hg; obtain rfl := Nat.eq_of_beq_eq_true hg; cases h; exact k81
    cases h), (fun _ _ h => (by cases h))⟩) Try.func30 ev30 (by kernel_rfl) (fun _ h => (by cases h)) fun ds h hp => match ds, h, hp with
    | [d0, d1, d2], _, hp => ⟨(by kernel_rfl : owesB (outEnv FE s30 o30 [d0, d1, d2]) o30.owes = (dget (g30 [d0, d1, d2]) 0).toB).trans (hp rfl), nrms_teq (by kernel_rfl) (by kernel_rfl) (by kernel_rfl)⟩
theorem k20 : FnOK Try.prog WI gK 20 s20 g20 :=
  fn_ok (F := FE) wiStable (⟨(fun f s h => by
    simp only [Sigs.get, S20, assoc] at h
    split at h
    · rename_i hg; obtain rfl := Nat.eq_of_beq_eq_true hg; cases h; exact k25
    split at h
    · rename_i hg; obtain rfl := Nat.eq_of_beq_eq_true hg; cases h; exact k27
    split at h
    · rename_i hg; obtain rfl := Nat.eq_of_beq_eq_true hg; cases h; exact k29
    split at h
    · rename_i hg; obtain rfl := Nat.eq_of_beq_eq_true hg; cases h; exact k37
    split at h
    · rename_i hg; obtain rfl := Nat.eq_of_beq_eq_true hg; cases h; exact k35
    split at h
    · rename_i hg; obtain rfl := Nat.eq_of_beq_eq_true hg; cases h; exact k21
    split at h
    · rename_i hg; obtain rfl := Nat.eq_of_beq_eq_true hg; cases h; exact k23
    split at h
    · rename_i hg; obtain rfl := Nat.eq_of_beq_eq_true hg; cases h; exact k33
    split at h
    · rename_i hg; obtain rfl := Nat.eq_of_beq_eq_true hg; cases h; exact k31
    cases h), (fun _ _ h => (by cases h))⟩) Try.func20 ev20 (by kernel_rfl) (fun _ h => (by cases h)) fun ds h hp => match ds, h, hp with
    | [], _, hp => ⟨(by kernel_rfl : owesB (outEnv FE s20 o20 []) o20.owes = (dget (g20 []) 0).toB).trans (hp rfl), nrms_teq (by kernel_rfl) (by kernel_rfl) (by kernel_rfl)⟩
theorem k4 : FnOK Try.prog WI gK 4 s4 g4 :=
  fn_ok (F := FE) wiStable (⟨(fun f s h => by
    simp only [Sigs.get, S4, assoc] at h
    split at h
    · rename_i hg; obtain rfl := Nat.eq_of_beq_eq_true hg; cases h; exact k20
    split at h
    · rename_i hg; obtain rfl := Nat.eq_of_beq_eq_true hg; cases h; exact k25
    split at h
    · rename_i hg; obtain rfl := Nat.eq_of_beq_eq_true hg; cases h; exact k26
    split at h
    · rename_i hg; obtain rfl := Nat.eq_of_beq_eq_true hg; cases h; exact k27
    split at h
    · rename_i hg; obtain rfl := Nat.eq_of_beq_eq_true hg; cases h; exact k28
    cases h), (fun _ _ h => (by cases h))⟩) Try.func4 ev4 (by kernel_rfl) (fun _ h => (by cases h)) fun ds h hp => match ds, h, hp with
    | [d0, d1, d2, d3, d4], _, hp => ⟨(by kernel_rfl : owesB (outEnv FE s4 o4 [d0, d1, d2, d3, d4]) o4.owes = (dget (g4 [d0, d1, d2, d3, d4]) 0).toB).trans (hp rfl), nrms_teq (by kernel_rfl) (by kernel_rfl) (by kernel_rfl)⟩
theorem k5 : FnOK Try.prog WI gK 5 s5 g5 :=
  fn_ok (F := FE) wiStable (⟨(fun f s h => by
    simp only [Sigs.get, S5, assoc] at h
    split at h
    · rename_i hg; obtain rfl := Nat.eq_of_beq_eq_true hg; cases h; exact k20
    split at h
    · rename_i hg; obtain rfl := Nat.eq_of_beq_eq_true hg; cases h; exact k29
    split at h
    · rename_i hg; obtain rfl := Nat.eq_of_beq_eq_true hg; cases h; exact k30
    cases h), (fun _ _ h => (by cases h))⟩) Try.func5 ev5 (by kernel_rfl) (fun _ h => (by cases h)) fun ds h hp => match ds, h, hp with
    | [d0, d1, d2], _, hp => ⟨(by kernel_rfl : owesB (outEnv FE s5 o5 [d0, d1, d2]) o5.owes = (dget (g5 [d0, d1, d2]) 0).toB).trans (hp rfl), nrms_teq (by kernel_rfl) (by kernel_rfl) (by kernel_rfl)⟩
end Go.Proofs.Ytacciadcmiiimaa

namespace Go.Sx
open Go Go.ChangeShapes Go.WideShapes Go.RowKit

inductive Sh where
  | one (t : LT)
  | agg (l : List LT)
  deriving Inhabited
def Sh.lts : Sh → List LT
  | .one t => [t]
  | .agg l => l
def nIn (ss : List Sh) : Nat := (ss.map fun s => s.lts.length).sum
def LT.conc (t : LT) (d : DV) : Value :=
  match t with
  | .int k => .int k d.toI
  | .bool => .bool d.toB
  | .vec _ => .bool false
def leafVals (g : Nat → DV) : Nat → List LT → List Value
  | _, [] => []
  | j, t :: ts => t.conc (g j) :: leafVals g (j + 1) ts
def argVals (g : Nat → DV) : Nat → List Sh → List Value
  | _, [] => []
  | j, .one t :: ss => t.conc (g j) :: argVals g (j + 1) ss
  | j, .agg ts :: ss => .agg (leafVals g j ts).toArray :: argVals g (j + ts.length) ss
def LT.pat (j : Nat) : LT → Lf
  | .int k => .i k (.h j)
  | .bool => .b (.h j)
  | .vec _ => .b (.t false)
def patLeaves : Nat → List LT → List Lf
  | _, [] => []
  | j, t :: ts => t.pat j :: patLeaves (j + 1) ts
def patShapes : Nat → List Sh → List V
  | _, [] => []
  | j, .one t :: ss => .s (.one (t.pat j)) :: patShapes (j + 1) ss
  | j, .agg ts :: ss => .s (.agg (patLeaves j ts)) :: patShapes (j + ts.length) ss

theorem idsFrom_getD : ∀ (k n j : Nat), j < k → (idsFrom n k).getD j default = .r (n + j)
  | 0, _, _, h => by omega
  | k + 1, n, 0, _ => rfl
  | k + 1, n, j + 1, h => by
    have := idsFrom_getD k (n + 1) j (by omega)
    simp only [idsFrom, List.getD_cons_succ, this]
    congr 1
    omega
theorem pat_conc {n : Nat} (g : Nat → DV) (ρ : Nat → Loc) {t : LT} {j : Nat} (h : j < n) : ((t.pat j).inst (idsFrom 0 n)).conc g ρ = t.conc (g j) ∧ ((t.pat j).inst (idsFrom 0 n)).good g := by
  have e : (A.h j).inst (idsFrom 0 n) = .r j := by
    have := idsFrom_getD n 0 j h
    simpa [A.inst] using this
  cases t with
  | int k => exact ⟨by simp only [LT.pat, Lf.inst, e]; rfl, trivial⟩
  | bool => exact ⟨by simp only [LT.pat, Lf.inst, e]; rfl, trivial⟩
  | vec ts => exact ⟨rfl, trivial⟩
theorem patLeaves_conc {n : Nat} (g : Nat → DV) (ρ : Nat → Loc) : ∀ (ts : List LT) (j : Nat), j + ts.length ≤ n → ((patLeaves j ts).map (Lf.inst (idsFrom 0 n))).map (Lf.conc g ρ) = leafVals g j ts ∧ ∀ x ∈ (patLeaves j ts).map (Lf.inst (idsFrom 0 n)), Lf.good g x
  | [], j, _ => ⟨rfl, fun x hx => by cases hx⟩
  | t :: ts, j, h => by
    simp only [List.length_cons] at h
    obtain ⟨h1, h2⟩ := patLeaves_conc (n := n) g ρ ts (j + 1) (by omega)
    obtain ⟨h3, h4⟩ := pat_conc g ρ (t := t) (show j < n by omega)
    refine ⟨by simp only [patLeaves, List.map_cons, leafVals, h1, h3], fun x hx => ?_⟩
    simp only [patLeaves, List.map_cons] at hx
    rcases List.mem_cons.1 hx with rfl | hx
    · exact h4
    · exact h2 x hx
theorem nIn_cons (s : Sh) (ss : List Sh) : nIn (s :: ss) = s.lts.length + nIn ss := by simp [nIn]
theorem patShapes_conc {n : Nat} (g : Nat → DV) (ρ : Nat → Loc) : ∀ (ss : List Sh) (j : Nat), j + nIn ss ≤ n → ((patShapes j ss).map (V.inst (idsFrom 0 n))).map (V.conc g ρ) = argVals g j ss ∧ ∀ x ∈ (patShapes j ss).map (V.inst (idsFrom 0 n)), V.good g x
  | [], j, _ => ⟨rfl, fun x hx => by cases hx⟩
  | .one t :: ss, j, h => by
    rw [nIn_cons] at h
    have h : j + (1 + nIn ss) ≤ n := h
    obtain ⟨h1, h2⟩ := patShapes_conc (n := n) g ρ ss (j + 1) (by omega)
    obtain ⟨h3, h4⟩ := pat_conc g ρ (t := t) (show j < n by omega)
    refine ⟨by simp only [patShapes, List.map_cons, argVals, h1, V.inst, V1.inst, V.conc, V1.conc, h3], fun x hx => ?_⟩
    simp only [patShapes, List.map_cons] at hx
    rcases List.mem_cons.1 hx with rfl | hx
    · exact V1.good_one.2 h4
    · exact h2 x hx
  | .agg ts :: ss, j, h => by
    rw [nIn_cons] at h
    have h : j + (ts.length + nIn ss) ≤ n := h
    obtain ⟨h1, h2⟩ := patShapes_conc (n := n) g ρ ss (j + ts.length) (by omega)
    obtain ⟨h3, h4⟩ := patLeaves_conc (n := n) g ρ ts j (show j + ts.length ≤ n by omega)
    refine ⟨by simp only [patShapes, List.map_cons, argVals, h1, V.inst, V1.inst, V.conc, V1.conc, h3], fun x hx => ?_⟩
    simp only [patShapes, List.map_cons] at hx
    rcases List.mem_cons.1 hx with rfl | hx
    · exact V1.good_agg.2 h4
    · exact h2 x hx

def flatFs (P : Program) (rec : TypeId → Option (List LT)) : Nat → List Field → Option (List LT)
  | _, [] => some []
  | o, f :: fs =>
    if Nat.beq f.offset o then
      match rec f.type with
      | none => none
      | some l =>
        if Nat.beq l.length (P.cellsOf f.type) then
          match flatFs P rec (o + l.length) fs with
          | none => none
          | some r => some (l ++ r)
        else none
    else none
def flatT (P : Program) : Nat → TypeId → Option (List LT)
  | 0, _ => none
  | d + 1, t =>
    match P.underlying t with
    | some .bool => some [.bool]
    | some (.int k) => some [.int k]
    | some (.array n e) =>
      match flatT P d e with
      | none => none
      | some l => if Nat.beq l.length (P.cellsOf e) && Nat.beq (P.cellsOf t) (n * l.length) then some (List.replicate n l).flatten else none
    | some (.struct fs) =>
      match flatFs P (flatT P d) 0 fs.toList with
      | none => none
      | some l => if Nat.beq l.length (P.cellsOf t) then some l else none
    | _ => none
def shapeOf (P : Program) (t : TypeId) : Option Sh :=
  match P.underlying t with
  | some .bool => some (.one .bool)
  | some (.int k) => some (.one (.int k))
  | some (.array _ _) => (flatT P 20 t).map .agg
  | some (.struct _) => (flatT P 20 t).map .agg
  | _ => none
def shapesOf (P : Program) : List TypeId → Option (List Sh)
  | [] => some []
  | t :: ts =>
    match shapeOf P t with
    | none => none
    | some s =>
      match shapesOf P ts with
      | none => none
      | some r => some (s :: r)

def LeafOk : LT → Value → Prop
  | .int k, .int k' n => k' = k ∧ (Lit.int k n).wf = true
  | .bool, .bool _ => True
  | _, _ => False
def Leaves : List LT → List Value → Prop
  | [], [] => True
  | t :: ts, v :: vs => LeafOk t v ∧ Leaves ts vs
  | _, _ => False
theorem Leaves.len : ∀ {ts : List LT} {vs : List Value}, Leaves ts vs → vs.length = ts.length
  | [], [], _ => rfl
  | _ :: _, _ :: _, h => by simp [Leaves.len h.2]
  | [], _ :: _, h => h.elim
  | _ :: _, [], h => h.elim
theorem Leaves.append : ∀ {a b : List LT} {c d : List Value}, Leaves a c → Leaves b d → Leaves (a ++ b) (c ++ d)
  | [], _, [], _, _, h => h
  | _ :: _, _, _ :: _, _, h, h' => ⟨h.1, Leaves.append h.2 h'⟩
  | [], _, _ :: _, _, h, _ => h.elim
  | _ :: _, _, [], _, h, _ => h.elim

theorem mapM_carry {α β γ : Type} {f g : α → Option (β × List γ)} : ∀ {l : List α} {xs : List (β × List γ)}, l.mapM f = some xs →
    (∀ a ∈ l, ∀ y, f a = some y → g a = some y ∧ y.2 = []) → l.mapM g = some xs ∧ xs.flatMap (·.2) = [] ∧ ∀ a ∈ l, ∃ y, f a = some y
  | [], xs, h, _ => by
    simp at h
    subst h
    exact ⟨by simp, rfl, fun a ha => by cases ha⟩
  | a :: l, xs, h, hc => by
    simp only [List.mapM_cons, Option.bind_eq_bind, Option.bind_eq_some_iff, Option.pure_def, Option.some.injEq] at h
    obtain ⟨y, hy, ys, hys, rfl⟩ := h
    obtain ⟨h1, h2⟩ := hc a (by simp) y hy
    obtain ⟨h3, h4, h5⟩ := mapM_carry hys (fun b hb => hc b (List.mem_cons_of_mem _ hb))
    refine ⟨by simp [List.mapM_cons, h1, h3], by simp only [List.flatMap_cons, h2, h4, List.nil_append], fun b hb => ?_⟩
    rcases List.mem_cons.1 hb with rfl | hb
    · exact ⟨y, hy⟩
    · exact h5 b hb

theorem leaves_rows {l : List LT} {c : Nat} (hl : l.length = c) : ∀ {n : Nat} {cs : List Value}, cs.length = n * c → (∀ i, i < n → Leaves l ((cs.drop (i * c)).take c)) → Leaves (List.replicate n l).flatten cs
  | 0, cs, h, _ => by
    have : cs = [] := List.eq_nil_of_length_eq_zero (by simpa using h)
    subst this
    trivial
  | n + 1, cs, h, hp => by
    have h0 := hp 0 (by omega)
    simp only [Nat.zero_mul, List.drop_zero] at h0
    have h1 := leaves_rows hl (n := n) (cs := cs.drop c) (by rw [List.length_drop, h, Nat.succ_mul]; omega) (fun i hi => by
      have := hp (i + 1) (by omega)
      rw [List.drop_drop]
      rwa [show c + i * c = (i + 1) * c from by rw [Nat.succ_mul]; omega])
    have := Leaves.append h0 h1
    rw [List.take_append_drop] at this
    simpa [List.replicate_succ] using this

section
variable {H : Type} {enc : TypeId × Value → H} {P : Program}

def TrodOk (enc : TypeId × Value → H) (P : Program) (fuel : Nat) (t : TypeId) (lts : List LT) : Prop :=
  ∀ (w : World) (base : Nat) (sp : Nat → Bool) (held : Bool) (cs : List Value) (x : DataW H) (ps : List MemPlace), DataW.trod enc P w base sp held fuel t cs = some (x, ps) →
    Leaves lts cs ∧ ps = [] ∧ ∀ (w' : World) (base' : Nat) (sp' : Nat → Bool) (held' : Bool), DataW.trod enc P w' base' sp' held' fuel t cs = some (x, [])

theorem leaves_fields {rec : TypeId → Option (List LT)} {cs : List Value} : ∀ {fs : List Field} {o : Nat} {l : List LT}, flatFs P rec o fs = some l → cs.length = o + l.length →
    (∀ f ∈ fs, ∀ r, rec f.type = some r → Leaves r ((cs.drop f.offset).take (P.cellsOf f.type))) → Leaves l (cs.drop o)
  | [], o, l, h, hlen, _ => by
    simp [flatFs] at h
    subst h
    rw [List.drop_of_length_le (by simpa using Nat.le_of_eq hlen)]
    trivial
  | f :: fs, o, l, h, hlen, hp => by
    simp only [flatFs] at h
    split at h
    · rename_i ho
      have ho := Nat.eq_of_beq_eq_true ho
      split at h
      · cases h
      · rename_i r hr
        split at h
        · rename_i hc
          have hc := Nat.eq_of_beq_eq_true hc
          split at h
          · cases h
          · rename_i r' hr'
            cases h
            have h0 := hp f (by simp) r hr
            have h1 := leaves_fields hr' (by simp at hlen; omega) (fun g hg => hp g (List.mem_cons_of_mem _ hg))
            rw [ho, ← hc] at h0
            have h2 := Leaves.append h0 h1
            rw [← List.drop_drop, List.take_append_drop] at h2
            exact h2
        · cases h
    · cases h

theorem trod_flat : ∀ (d : Nat) {t : TypeId} {lts : List LT}, flatT P d t = some lts → ∀ fuel, TrodOk enc P fuel t lts
  | 0, _, _, h, _ => by cases h
  | d + 1, t, lts, h, fuel => by
    intro w base sp held cs x ps hx
    cases fuel with
    | zero => simp [DataW.trod] at hx
    | succ fuel =>
      simp only [flatT] at h
      split at h
      · rename_i hu
        cases h
        obtain ⟨b, rfl, he⟩ := DataW.trod_bool hu hx
        cases he
        exact ⟨⟨trivial, trivial⟩, rfl, fun _ _ _ _ => by simp [DataW.trod, hu]⟩
      · rename_i k hu
        cases h
        obtain ⟨n, rfl, he, hw⟩ := DataW.trod_int hu hx
        cases he
        exact ⟨⟨⟨rfl, hw⟩, trivial⟩, rfl, fun _ _ _ _ => by simp [DataW.trod, hu, hw]⟩
      · rename_i n e hu
        split at h
        · cases h
        · rename_i l hl
          split at h
          · rename_i hc
            cases h
            simp only [Bool.and_eq_true] at hc
            have hc1 := Nat.eq_of_beq_eq_true hc.1
            have hc2 := Nat.eq_of_beq_eq_true hc.2
            simp only [DataW.trod, hu] at hx
            split at hx
            · rename_i hlen
              obtain ⟨xs, hxs, he⟩ := Option.map_eq_some_iff.1 hx
              cases he
              have ih := trod_flat d hl fuel
              have hall := fun w' base' sp' held' => mapM_carry (g := fun i => DataW.trod enc P w' base' sp' held' fuel e ((cs.drop (i * P.cellsOf e)).take (P.cellsOf e))) hxs
                (fun i _ y hy => by
                  have := ih _ _ _ _ _ y.1 y.2 hy
                  exact ⟨by rw [this.2.2 w' base' sp' held', ← this.2.1], this.2.1⟩)
              refine ⟨leaves_rows hc1 (by rw [hlen, hc2, hc1]) (fun i hi => ?_), (hall w base sp held).2.1, fun w' base' sp' held' => ?_⟩
              · obtain ⟨y, hy⟩ := (hall w base sp held).2.2 i (List.mem_range.2 hi)
                exact (ih _ _ _ _ _ y.1 y.2 hy).1
              · obtain ⟨h1, h2, _⟩ := hall w' base' sp' held'
                simp only [DataW.trod, hu]
                rw [if_pos hlen, h1, Option.map_some, h2]
            · cases hx
          · cases h
      · rename_i fs hu
        split at h
        · cases h
        · rename_i l hl
          split at h
          · rename_i hc
            cases h
            have hc1 := Nat.eq_of_beq_eq_true hc
            simp only [DataW.trod, hu] at hx
            split at hx
            · rename_i hlen
              obtain ⟨xs, hxs, he⟩ := Option.map_eq_some_iff.1 hx
              cases he
              -- each field's type has leaves
              have hfl : ∀ {gs : List Field} {o : Nat} {r : List LT}, flatFs P (flatT P d) o gs = some r → ∀ f ∈ gs, ∃ r', flatT P d f.type = some r' := by
                intro gs
                induction gs with
                | nil => intro o r _ f hf; cases hf
                | cons g gs ih =>
                  intro o r hr f hf
                  simp only [flatFs] at hr
                  split at hr
                  · split at hr
                    · cases hr
                    · rename_i r1 hr1
                      split at hr
                      · split at hr
                        · cases hr
                        · rename_i r2 hr2
                          rcases List.mem_cons.1 hf with rfl | hf
                          · exact ⟨r1, hr1⟩
                          · exact ih hr2 f hf
                      · cases hr
                  · cases hr
              have hall := fun w' base' sp' held' => mapM_carry (g := fun f : Field => DataW.trod enc P w' base' sp' held' fuel f.type ((cs.drop f.offset).take (P.cellsOf f.type))) hxs
                (fun f hf y hy => by
                  obtain ⟨r', hr'⟩ := hfl hl f hf
                  have := trod_flat d hr' fuel _ _ _ _ _ y.1 y.2 hy
                  exact ⟨by rw [this.2.2 w' base' sp' held', ← this.2.1], this.2.1⟩)
              refine ⟨?_, (hall w base sp held).2.1, fun w' base' sp' held' => ?_⟩
              · have := leaves_fields (P := P) (cs := cs) hl (by rw [hlen, hc1]; omega) (fun f hf r hr => by
                  obtain ⟨y, hy⟩ := (hall w base sp held).2.2 f hf
                  exact (trod_flat d hr fuel _ _ _ _ _ y.1 y.2 hy).1)
                simpa using this
              · obtain ⟨h1, h2, _⟩ := hall w' base' sp' held'
                simp only [DataW.trod, hu]
                rw [if_pos hlen, h1, Option.map_some, h2]
            · cases hx
          · cases h
      · cases h

def RangeOk : List LT → List DV → Prop
  | [], [] => True
  | .int k :: ts, .i n :: ds => (Lit.int k n).wf = true ∧ RangeOk ts ds
  | .bool :: ts, .b _ :: ds => True ∧ RangeOk ts ds
  | _, _ => False
theorem RangeOk.len : ∀ {ts : List LT} {ds : List DV}, RangeOk ts ds → ds.length = ts.length
  | [], [], _ => rfl
  | .int _ :: _, .i _ :: _, h => by simp [RangeOk.len h.2]
  | .bool :: _, .b _ :: _, h => by simp [RangeOk.len h.2]
  | [], _ :: _, h => h.elim
  | .int _ :: _, [], h => h.elim
  | .bool :: _, [], h => h.elim
  | .int _ :: _, .b _ :: _, h => h.elim
  | .bool :: _, .i _ :: _, h => h.elim
  | .int _ :: _, .l _ :: _, h => h.elim
  | .bool :: _, .l _ :: _, h => h.elim
  | .vec _ :: _, [], h => h.elim
  | .vec _ :: _, _ :: _, h => h.elim
theorem RangeOk.append : ∀ {a b : List LT} {c d : List DV}, RangeOk a c → RangeOk b d → RangeOk (a ++ b) (c ++ d)
  | [], _, [], _, _, h => h
  | .int _ :: _, _, .i _ :: _, _, h, h' => ⟨h.1, RangeOk.append h.2 h'⟩
  | .bool :: _, _, .b _ :: _, _, h, h' => ⟨trivial, RangeOk.append h.2 h'⟩
  | [], _, _ :: _, _, h, _ => h.elim
  | .int _ :: _, _, [], _, h, _ => h.elim
  | .bool :: _, _, [], _, h, _ => h.elim
  | .int _ :: _, _, .b _ :: _, _, h, _ => h.elim
  | .bool :: _, _, .i _ :: _, _, h, _ => h.elim
  | .int _ :: _, _, .l _ :: _, _, h, _ => h.elim
  | .bool :: _, _, .l _ :: _, _, h, _ => h.elim
  | .vec _ :: _, _, [], _, h, _ => h.elim
  | .vec _ :: _, _, _ :: _, _, h, _ => h.elim

theorem RangeOk.int_at : ∀ {ts : List LT} {ds : List DV} {k : IntKind} (i : Nat), RangeOk ts ds → ts[i]? = some (.int k) → (Lit.int k (dget ds i).toI).wf = true
  | .int k :: ts, .i n :: ds, k', 0, h, e => by
    simp at e
    subst e
    exact h.1
  | .int k :: ts, .i n :: ds, k', i + 1, h, e => by
    have := RangeOk.int_at i h.2 (by simpa using e)
    simpa [dget] using this
  | .bool :: ts, .b x :: ds, k', 0, h, e => by simp at e
  | .bool :: ts, .b x :: ds, k', i + 1, h, e => by
    have := RangeOk.int_at i h.2 (by simpa using e)
    simpa [dget] using this
  | [], _, _, _, _, e => by simp at e
  | .int _ :: _, [], _, _, h, _ => h.elim
  | .bool :: _, [], _, _, h, _ => h.elim
  | .int _ :: _, .b _ :: _, _, _, h, _ => h.elim
  | .bool :: _, .i _ :: _, _, _, h, _ => h.elim
  | .int _ :: _, .l _ :: _, _, _, h, _ => h.elim
  | .bool :: _, .l _ :: _, _, _, h, _ => h.elim
  | .vec _ :: _, [], _, _, h, _ => h.elim
  | .vec _ :: _, _ :: _, _, _, h, _ => h.elim

theorem dget_pre (pre : List DV) (d : DV) (post : List DV) : dget (pre ++ d :: post) pre.length = d := by
  simp [dget, List.getD_eq_getElem?_getD]

theorem leaves_vals : ∀ {ts : List LT} {vs : List Value}, Leaves ts vs → ∃ ds, RangeOk ts ds ∧ ∀ pre post : List DV, leafVals (dget (pre ++ ds ++ post)) pre.length ts = vs
  | [], [], _ => ⟨[], trivial, fun _ _ => rfl⟩
  | .int k :: ts, .int k' n :: vs, h => by
    obtain ⟨ds, h1, h2⟩ := leaves_vals h.2
    obtain ⟨⟨rfl, hw⟩, _⟩ := h
    refine ⟨.i n :: ds, ⟨hw, h1⟩, fun pre post => ?_⟩
    have := h2 (pre ++ [.i n]) post
    simp only [leafVals, List.append_assoc, List.cons_append, List.nil_append, List.length_append, List.length_cons, List.length_nil, Nat.zero_add] at this ⊢
    rw [this, dget_pre]
    rfl
  | .bool :: ts, .bool b :: vs, h => by
    obtain ⟨ds, h1, h2⟩ := leaves_vals h.2
    refine ⟨.b b :: ds, ⟨trivial, h1⟩, fun pre post => ?_⟩
    have := h2 (pre ++ [.b b]) post
    simp only [leafVals, List.append_assoc, List.cons_append, List.nil_append, List.length_append, List.length_cons, List.length_nil, Nat.zero_add] at this ⊢
    rw [this, dget_pre]
    rfl
  | [], _ :: _, h => h.elim
  | _ :: _, [], h => h.elim
  | .int _ :: _, .bool _ :: _, h => h.1.elim
  | .bool :: _, .int _ _ :: _, h => h.1.elim
  | .vec _ :: _, _ :: _, h => h.1.elim

theorem open_plain {w : World} {base b0 : Nat} {sp : Nat → Bool} {held : Bool} {r : Reach} {t : TypeId} {v : Value} {d : DataW H} {ps : List MemPlace} {s : Sh} (hs : shapeOf P t = some s)
    (hval : Value.okWide P w r b0 t v) (hd : DataW.Trod enc P w base sp held t v d ps) :
    ∃ ds : List DV, RangeOk s.lts ds ∧ ps = [] ∧ (∀ (pre post : List DV) (ss : List Sh), argVals (dget (pre ++ ds ++ post)) pre.length (s :: ss) = v :: argVals (dget (pre ++ ds ++ post)) (pre.length + ds.length) ss) ∧
      ∀ (w' : World) (base' : Nat) (sp' : Nat → Bool) (held' : Bool), DataW.Trod enc P w' base' sp' held' t v d [] := by
  obtain ⟨fuel, hf⟩ := hd
  unfold shapeOf at hs
  split at hs
  · rename_i hu
    cases hs
    obtain ⟨b, rfl⟩ := okWide_bool hu hval
    have hfl : flatT P 1 t = some [.bool] := by simp [flatT, hu]
    obtain ⟨_, h2, h3⟩ := trod_flat (enc := enc) 1 hfl fuel _ _ _ _ _ _ _ hf
    refine ⟨[.b b], ⟨trivial, trivial⟩, h2, fun pre post ss => ?_, fun w' base' sp' held' => ⟨fuel, h3 w' base' sp' held'⟩⟩
    simp only [argVals, List.append_assoc, List.cons_append, List.nil_append, dget_pre, List.length_cons, List.length_nil]
    rfl
  · rename_i k hu
    cases hs
    obtain ⟨n, rfl⟩ := okWide_int hu hval
    have hfl : flatT P 1 t = some [.int k] := by simp [flatT, hu]
    obtain ⟨h1, h2, h3⟩ := trod_flat (enc := enc) 1 hfl fuel _ _ _ _ _ _ _ hf
    refine ⟨[.i n], ⟨h1.1.2, trivial⟩, h2, fun pre post ss => ?_, fun w' base' sp' held' => ⟨fuel, h3 w' base' sp' held'⟩⟩
    simp only [argVals, List.append_assoc, List.cons_append, List.nil_append, dget_pre, List.length_cons, List.length_nil]
    rfl
  · rename_i n e hu
    obtain ⟨l, hl, rfl⟩ := Option.map_eq_some_iff.1 hs
    simp only [Value.okWide, hu] at hval
    obtain ⟨cs, rfl, _, _⟩ := hval
    obtain ⟨h1, h2, h3⟩ := trod_flat (enc := enc) 20 hl fuel _ _ _ _ _ _ _ hf
    obtain ⟨ds, h4, h5⟩ := leaves_vals h1
    refine ⟨ds, h4, h2, fun pre post ss => ?_, fun w' base' sp' held' => ⟨fuel, h3 w' base' sp' held'⟩⟩
    simp only [argVals, h5 pre post, ← h4.len]
    rfl
  · rename_i fs hu
    obtain ⟨l, hl, rfl⟩ := Option.map_eq_some_iff.1 hs
    simp only [Value.okWide, hu] at hval
    obtain ⟨cs, rfl, _, _⟩ := hval
    obtain ⟨h1, h2, h3⟩ := trod_flat (enc := enc) 20 hl fuel _ _ _ _ _ _ _ hf
    obtain ⟨ds, h4, h5⟩ := leaves_vals h1
    refine ⟨ds, h4, h2, fun pre post ss => ?_, fun w' base' sp' held' => ⟨fuel, h3 w' base' sp' held'⟩⟩
    simp only [argVals, h5 pre post, ← h4.len]
    rfl
  · cases hs

theorem open_all {w : World} {base b0 : Nat} {sp : Nat → Bool} {held : Bool} {r : Reach} : ∀ {ts : List TypeId} {vs : List Value} {ds : List (DataW H)} {ps : List MemPlace} {ss : List Sh}, shapesOf P ts = some ss →
    (∀ (j : Nat) t v, ts[j]? = some t → vs[j]? = some v → Value.okWide P w r b0 t v) → DataW.TrodAll enc P w base sp held ts vs ds ps →
    ∃ xs : List DV, RangeOk (ss.flatMap Sh.lts) xs ∧ ps = [] ∧ (∀ pre : List DV, argVals (dget (pre ++ xs)) pre.length ss = vs) ∧ ds.length = ts.length ∧
      ∀ (w' : World) (base' : Nat) (sp' : Nat → Bool) (held' : Bool), DataW.TrodAll enc P w' base' sp' held' ts vs ds []
  | [], [], [], ps, ss, hs, _, hd => by
    simp [shapesOf] at hs
    subst hs
    exact ⟨[], trivial, hd, fun _ => rfl, rfl, fun _ _ _ _ => rfl⟩
  | t :: ts, v :: vs, d :: ds, ps, ss, hs, hval, hd => by
    simp only [shapesOf] at hs
    split at hs
    · cases hs
    · rename_i s hs1
      split at hs
      · cases hs
      · rename_i r hs2
        cases hs
        obtain ⟨p, q, h1, h2, rfl⟩ := hd
        obtain ⟨xs, a1, rfl, a3, a4⟩ := open_plain hs1 (hval 0 t v rfl rfl) h1
        obtain ⟨ys, b1, rfl, b3, b5, b4⟩ := open_all hs2 (fun j t v ht hv => hval (j + 1) t v (by simpa using ht) (by simpa using hv)) h2
        refine ⟨xs ++ ys, by simpa using RangeOk.append a1 b1, rfl, fun pre => ?_, by simp [b5], fun w' base' sp' held' => ⟨[], [], a4 w' base' sp' held', b4 w' base' sp' held', rfl⟩⟩
        have e1 := a3 pre ys r
        have e2 := b3 (pre ++ xs)
        rw [List.length_append] at e2
        rw [← List.append_assoc, e1, e2]
  | [], _ :: _, _, _, _, _, _, hd => by cases hd
  | [], [], _ :: _, _, _, _, _, hd => by cases hd
  | _ :: _, [], _, _, _, _, _, hd => by cases hd
  | _ :: _, _ :: _, [], _, _, _, _, hd => by cases hd
end

section
variable {C : Checked} {os : Os} {f : FuncId} {fn : Func} {s : ChangeSpec} {H : Type} {enc : TypeId × Value → H} {sg : Sig} {G : List DV → List DV} {I : World → Prop}

theorem post_plain {W W' : World} {args : Array Value} {ds gs : List (DataW H)} {tb : TypeId} (hW : DataW.Whole enc C.prog fn.params.toList s.vars false W args.toList ds gs [])
    (hrt : fn.resultTypes = #[tb]) (htb : C.prog.underlying tb = some .bool) (hvars : s.vars = [])
    (hs : s.fn H (ds ++ gs) = { results := [.lit (.bool true)], args := ds })
    (hargs : ∀ (w' : World) (base' : Nat) (sp' : Nat → Bool) (held' : Bool), DataW.TrodAll enc C.prog w' base' sp' held' fn.params.toList args.toList ds [])
    (hb : Below W.heap.size W W') : s.post enc C.prog fn false true false false W args (.bool true) W' := by
  refine ⟨ds, gs, [], [], [], [], hW, ?_, ?_, ?_, hb.frame _, fun h => by cases h⟩
  · rw [hs, hrt]
    exact trodAll_mk1 (shut_bool htb true)
  · rw [hs]
    exact hargs _ _ _ _
  · rw [hs, hvars]
    rfl

structure LawSig (sg : Sig) (ss : List Sh) : Prop where
  ins : sg.ins = patShapes 0 ss
  hin : sg.hin = []
  nin : sg.nin = nIn ss
  out : sg.out = .s (.one (.b (.h 0)))
  hout : sg.hout = []
  ots : sg.ots = [.b]

theorem law_contract {gK : Nat} {ss : List Sh} (k : FnOK C.prog I gK f sg G) (hsh : shapesOf C.prog fn.params.toList = some ss) (hl : LawSig sg ss) {tb : TypeId} (hrt : fn.resultTypes = #[tb])
    (htb : C.prog.underlying tb = some .bool) (hvars : s.vars = []) (hs : ∀ ds : List (DataW H), ds.length = fn.params.size → s.fn H ds = { results := [.lit (.bool true)], args := ds })
    (hG : ∀ xs, RangeOk (ss.flatMap Sh.lts) xs → (sg.need = true → (dget (G xs) 0).toB = true) ∧ (dget (G xs) (if sg.need then 1 else 0)).toB = true)
    {W : World} {base : Nat} {args : Array Value} {ds gs : List (DataW H)} {before : List MemPlace}
    (hval : ∀ (j : Nat) t v, fn.params[j]? = some t → args[j]? = some v → Value.okWide C.prog W .any base t v)
    (hW : DataW.Whole enc C.prog fn.params.toList s.vars false W args.toList ds gs before) (hI : I W) (hK : gK ≤ W.heap.size) :
    Calls C.prog f args W fun e W' => ∃ v, e = .returned v ∧ s.post enc C.prog fn false true false false W args v W' := by
  have hW0 := hW
  obtain ⟨p, q, hA, hV, rfl, _, _⟩ := hW
  rw [hvars] at hV
  obtain ⟨rfl, rfl⟩ := trodVars_none hV
  obtain ⟨xs, h1, rfl, h2, h3, h4⟩ := open_all hsh (fun j t v ht hv => hval j t v (by simpa using ht) (by simpa using hv)) hA
  have hx : nIn ss = (ss.flatMap Sh.lts).length := by
    unfold nIn
    rw [List.length_flatMap]
  have hg := hG xs h1
  have hhin : sg.hinI = [] := by unfold Sig.hinI; rw [hl.hin]; rfl
  have hempty : ∀ (E : Env) (ν : Nat → DV), HRel E ν (fun _ => default) [] W := fun E ν =>
    ⟨fun j bk hj => (by cases j <;> cases hj), fun j j' bk bk' hj => (by cases j <;> cases hj)⟩
  have hnW : ∀ b, ¬ (callEnv sg.hinI (fun _ => default) W).W b := fun b ⟨j, bk, hj, _⟩ => by rw [hhin] at hj; cases j <;> cases hj
  obtain ⟨c1, c2⟩ := patShapes_conc (n := sg.nin) (dget xs) (fun _ => default) ss 0 (by rw [hl.nin]; omega)
  have hins : sg.insI = (patShapes 0 ss).map (V.inst (idsFrom 0 sg.nin)) := by unfold Sig.insI; rw [hl.ins]
  have hk := k xs (fun _ => default) W hI (by rw [hl.nin, hx]; exact h1.len) hg.1 hK (fun b hb => absurd hb (hnW b)) (by rw [hins]; exact c2)
    (by rw [hhin]; exact hempty _ _)
  have ha : (sg.insI.map (V.conc (dget xs) fun _ => default)).toArray = args := by
    rw [hins, c1]
    apply Array.ext'
    simpa using h2 []
  rw [ha] at hk
  refine hk.mono fun e W' ⟨v, ρ', he, hc⟩ => ⟨.bool true, ?_, post_plain (s := s) hW0 hrt htb hvars ?_ h4 (hc.fr.weaken (W' := fun _ => False) fun b hb => hnW b hb).below⟩
  · rw [he, hc.val]
    have : sg.outI.conc (sg.res (G xs)) ρ' = .bool (dget (G xs) (if sg.need then 1 else 0)).toB := by
      unfold Sig.outI Sig.res
      rw [hl.out, hl.ots]
      show Value.bool (dget (G xs) (0 + _)).toB = _
      rw [Nat.zero_add]
    rw [this, hg.2]
  · rw [List.append_nil]
    exact hs ds (by simpa using h3)

theorem law_lifted {gK : Nat} {ss : List Sh} (k : FnOK C.prog I gK f sg G) (hsh : shapesOf C.prog fn.params.toList = some ss) (hl : LawSig sg ss) {tb : TypeId} (hrt : fn.resultTypes = #[tb])
    (htb : C.prog.underlying tb = some .bool) (hvars : s.vars = []) (hs : ∀ ds : List (DataW H), ds.length = fn.params.size → s.fn H ds = { results := [.lit (.bool true)], args := ds })
    (hG : ∀ xs, RangeOk (ss.flatMap Sh.lts) xs → (sg.need = true → (dget (G xs) 0).toB = true) ∧ (dget (G xs) (if sg.need then 1 else 0)).toB = true)
    (hI : ∀ W, I W) (hK : gK = 0)
    (own : ownKnob C.prog.godebug = none) (started : os.Started) (noInit : C.prog.inits.idxOf? f = none) (hfn : C.prog.funcs[f]? = some fn)
    (witness : ∃ (w : World) (tape : Tape) (i : Input), w.os = os ∧ (w.forCall tape i).Shaped C.prog ∧ i.vars = [] ∧ Input.okWide C.prog (w.forCall tape i) .any w.heap.size f i ∧
      s.pre6 enc C.prog fn [] false (w.forCall tape i).memory i.args ∧ ({} : Assume).holds C.prog (lone (Frame.enter C.prog f i.args .normal) [] (w.forCall tape i))) :
    ReturnsInHanded {} C os f .any (s.pre6 enc C.prog fn [] false) (s.post enc C.prog fn false true false false) :=
  returnsInHanded_of_change (C := C) own started noInit hfn witness
    fun W _ _ _ _ _ hval hW _ _ => law_contract k hsh hl hrt htb hvars hs hG hval hW (hI W) (by rw [hK]; exact Nat.zero_le _)
end
end Go.Sx

namespace Go.Proofs.Ytacciadcmiiimaa
open Go Go.Sx Go.Rnd
set_option maxRecDepth 100000
set_option maxHeartbeats 2000000

def sxN (y : Nat) : Nat := if y % 4294967296 < 2147483648 then y % 4294967296 else y % 4294967296 + 18446744069414584320
def xwN (word uns : Bool) (x : Nat) : Nat := if word then (if uns then x % 4294967296 else sxN x) else x
def fmiN (word uns : Bool) (x : Nat) : Bool := !uns && decide (9223372036854775808 ≤ xwN word uns x)
def fmN (word uns : Bool) (x : Nat) : Nat := if fmiN word uns x then 18446744073709551616 - xwN word uns x else xwN word uns x
def frS (s rm : Int) (word uns : Bool) (x : Nat) : Nat × Nat :=
  if fmN word uns x = 0 then (0, 0) else rndP s rm (fmiN word uns x) (fmN word uns x) 0 false

theorem sx_ok (x : Nat) : IntKind.wrap .u64 (IntKind.wrap .i32 (x : Int)) = (sxN x : Int) := by
  rw [wrap_i32, wrap_u64]
  unfold sxN
  split <;> split <;> omega
theorem ext_ok (x : Nat) : r79_0 (x : Int) = (sxN x : Int) := by
  simp only [r79_0]
  rw [wrap_u32, wrap_i32, wrap_i64, wrap_u64]
  unfold sxN
  split <;> split <;> split <;> omega
theorem low_32 {x : Nat} (h : x < 18446744073709551616) : iland .u64 (x : Int) 4294967295 = ((x % 4294967296 : Nat) : Int) := land_low (n := 32) h (by decide)
theorem sx_low (x : Nat) : sxN (x % 4294967296) = sxN x := by unfold sxN; simp
theorem xw_lt {word uns : Bool} {x : Nat} (h : x < 18446744073709551616) : xwN word uns x < 18446744073709551616 := by
  unfold xwN sxN; cases word <;> cases uns <;> simp only [if_true, if_false, Bool.false_eq_true] <;> (try split) <;> omega
theorem fm_lt {word uns : Bool} {x : Nat} (h : x < 18446744073709551616) : fmN word uns x < 18446744073709551616 := by
  have h1 := xw_lt (word := word) (uns := uns) h
  unfold fmN fmiN
  split <;> rename_i h2
  · simp only [Bool.and_eq_true, dec] at h2; omega
  · exact h1
theorem neg_ok {m : Nat} (h : m < 18446744073709551616) (h0 : 0 < m) : IntKind.wrap .u64 (0 - (m : Int)) = ((18446744073709551616 - m : Nat) : Int) := by rw [wrap_u64]; omega
theorem min_ok {m : Nat} (h : m < 18446744073709551616) : decide (IntKind.wrap .i64 (m : Int) < 0) = decide (9223372036854775808 ≤ m) := by
  rw [wrap_i64, Bool.eq_iff_iff]; simp only [dec]; split <;> omega

section
variable {s rm : Int} (hs : s = 4 ∨ s = 8) (h0 : 0 ≤ rm) (h1 : rm ≤ 4) {word uns : Bool} {x : Nat} (hx : x < 18446744073709551616)
include hs h0 h1 hx
theorem sfrom_ok : p27 s rm word uns x = true ∧ r27_0 s rm word uns x = ((frS s rm word uns x).1 : Int) ∧ r27_1 s rm word uns x = ((frS s rm word uns x).2 : Int) := by
  obtain ⟨g1, g2, g3⟩ := of62 hs
  have hk : r64_0 s rm = true := (right_ok hs h0 h1).1
  have e14 : (bif word && uns then IntKind.wrap .u64 (IntKind.wrap .u32 (x : Int)) else bif word then IntKind.wrap .u64 (IntKind.wrap .i32 (x : Int)) else (x : Int)) = (xwN word uns x : Int) := by
    rw [sx_ok, wr32, wr64 (by omega)]
    cases word <;> cases uns <;> rfl
  have hxw := xw_lt (word := word) (uns := uns) hx
  have e17 := min_ok hxw
  have hlt := fm_lt (word := word) (uns := uns) hx
  have e20 : (bif (!uns && decide (9223372036854775808 ≤ xwN word uns x)) then IntKind.wrap .u64 (0 - (xwN word uns x : Int)) else (xwN word uns x : Int)) = (fmN word uns x : Int) := by
    unfold fmN fmiN
    by_cases h : (!uns && decide (9223372036854775808 ≤ xwN word uns x)) = true
    · rw [h, if_pos rfl, cond_true, neg_ok hxw (by simp only [Bool.and_eq_true, dec] at h; omega)]
    · rw [if_neg h, Bool.not_eq_true] at *
      rw [h, cond_false]
  have e21 : ((fmN word uns x : Int) == 0) = decide (fmN word uns x = 0) := by
    rw [Bool.eq_iff_iff]; simp only [beq_iff_eq, dec]; omega
  have key : 0 < fmN word uns x → _ := fun h => cround_ok hs (rm := rm) (minus := fmiN word uns x) (e := 0) h hlt (by omega) (by omega)
  have em : (!uns && decide (9223372036854775808 ≤ xwN word uns x)) = fmiN word uns x := rfl
  rw [em] at e20
  unfold frS
  refine ⟨?_, ?_, ?_⟩
  · simp only [p27, hk, e14, e17, em, e20, e21, g1, g2]
    by_cases hz : fmN word uns x = 0
    · rw [decide_eq_true hz]; rfl
    · rw [(key (by omega)).1, decide_eq_false hz]; rfl
  · simp only [r27_0, hk, e14, e17, em, e20, e21, g1, g2, g3]
    by_cases hz : fmN word uns x = 0
    · rw [decide_eq_true hz, if_pos hz]; rfl
    · rw [(key (by omega)).2.1, decide_eq_false hz, if_neg hz]; rfl
  · simp only [r27_1, hk, e14, e17, em, e20, e21, g1, g2]
    by_cases hz : fmN word uns x = 0
    · rw [decide_eq_true hz, if_pos hz]; rfl
    · rw [(key (by omega)).2.2, decide_eq_false hz, if_neg hz]; rfl
theorem rfrom_ok : p28 s rm word uns x = true ∧ r28_0 s rm word uns x = ((frS s rm word uns x).1 : Int) ∧ r28_1 s rm word uns x = ((frS s rm word uns x).2 : Int) := by
  have hk : r71_0 s rm = true := (right_ok hs h0 h1).2
  have hxw := xw_lt (word := word) (uns := uns) hx
  have e12 : (bif word then bif !uns then r79_0 (iland .u64 (x : Int) 4294967295) else iland .u64 (x : Int) 4294967295 else (x : Int)) = (xwN word uns x : Int) := by
    rw [low_32 hx, ext_ok, sx_low]
    cases word <;> cases uns <;> rfl
  have e18 := min_ok hxw
  have em : (!uns && decide (9223372036854775808 ≤ xwN word uns x)) = fmiN word uns x := rfl
  have hlt := fm_lt (word := word) (uns := uns) hx
  obtain ⟨o1, o2⟩ := ofInt_ok hxw
  have hn : fmiN word uns x = true → IntKind.wrap .u64 (0 - (xwN word uns x : Int)) = (fmN word uns x : Int) := by
    intro h
    have h2 := h
    unfold fmiN at h2
    simp only [Bool.and_eq_true, dec] at h2
    rw [neg_ok hxw (by omega)]; unfold fmN; rw [if_pos h]
  have e24 : ((xwN word uns x : Int) == 0) = decide (fmN word uns x = 0) := by
    rw [Bool.eq_iff_iff]; simp only [beq_iff_eq, dec]
    unfold fmN
    by_cases h : fmiN word uns x = true
    · rw [if_pos h]
      unfold fmiN at h
      simp only [Bool.and_eq_true, dec] at h
      generalize xwN word uns x = y at *
      constructor <;> intro h3 <;> omega
    · rw [if_neg h]
      generalize xwN word uns x = y at *
      constructor <;> intro h3 <;> omega
  have e23 : (bif fmiN word uns x then r80_0 (IntKind.wrap .u64 (0 - (xwN word uns x : Int))) else big (xwN word uns x)) = big (fmN word uns x) := by
    cases h : fmiN word uns x with
    | true => rw [hn h, (ofInt_ok hlt).2]; rfl
    | false => unfold fmN; rw [h]; rfl
  have e21 : (fmiN word uns x = true → p80 (IntKind.wrap .u64 (0 - (xwN word uns x : Int))) = true) := by
    intro h; rw [hn h]; exact (ofInt_ok hlt).1
  have key := rround_ok hs (rm := rm) (minus := fmiN word uns x) (M := fmN word uns x) (E := 0) (more := false) (by have := blen_le.2 (show fmN word uns x < 2 ^ 64 from hlt); omega) (by omega) (by omega)
  unfold frS
  refine ⟨?_, ?_, ?_⟩
  · simp only [p28, hk, e12, e18, em, o1, o2, e23, e24, key.1, ow_t]
    revert e21
    cases fmiN word uns x <;> intro e21
    · rfl
    · rw [e21 rfl]; rfl
  · simp only [r28_0, hk, e12, e18, em, o2, e23, e24, key.2.1]
    by_cases hz : fmN word uns x = 0
    · rw [decide_eq_true hz, if_pos hz]; rfl
    · rw [decide_eq_false hz, if_neg hz]; rfl
  · simp only [r28_1, hk, e12, e18, em, o2, e23, e24, key.2.2]
    by_cases hz : fmN word uns x = 0
    · rw [decide_eq_true hz, if_pos hz]; rfl
    · rw [decide_eq_false hz, if_neg hz]; rfl
end

def loN2 (word uns : Bool) : Nat := if uns then 0 else if word then 2147483648 else 9223372036854775808
def upN2 (word uns : Bool) : Nat := if uns then (if word then 4294967295 else 18446744073709551615) else (if word then 2147483647 else 9223372036854775807)
def tolN (minus : Bool) (n : Nat) (word : Bool) : Nat :=
  if word then sxN (if minus then (18446744073709551616 - n) % 18446744073709551616 else n) else (if minus then (18446744073709551616 - n) % 18446744073709551616 else n)
def whN (s rm : Int) (a : Nat) : Nat × Bool := if infN s a then (0, true) else cutN rm (sgN s a) (fM s a) (-fE s a) false
def toS (s rm : Int) (word uns : Bool) (a : Nat) : Nat × Nat :=
  if nanN s a then (tolN false (upN2 word uns) word, 16)
  else if sgN s a && (infN s a || decide (loN2 word uns < (whN s rm a).1)) then (tolN true (loN2 word uns) word, 16)
  else if !sgN s a && (infN s a || decide (upN2 word uns < (whN s rm a).1)) then (tolN false (upN2 word uns) word, 16)
  else (tolN (sgN s a) (whN s rm a).1 word, if (whN s rm a).2 then 0 else 1)

theorem told_ok (minus : Bool) {n : Nat} (word : Bool) (h : n < 18446744073709551616) : r66_0 minus (n : Int) word = (tolN minus n word : Int) := by
  have e : (bif minus then IntKind.wrap .u64 (0 - (n : Int)) else (n : Int)) = (((if minus then (18446744073709551616 - n) % 18446744073709551616 else n : Nat) : Int)) := by
    cases minus with
    | false => rfl
    | true => rw [if_pos rfl, cond_true, wrap_u64]; omega
  simp only [r66_0, e, sx_ok]
  unfold tolN
  cases word <;> rfl
theorem num_ok (minus : Bool) {n : Nat} (word : Bool) (h : n < 18446744073709551616) : p73 (big n) = true ∧ r73_0 word minus (big n) = (tolN minus n word : Int) := by
  obtain ⟨l1, l2⟩ := low_ok (a := n)
  rw [Nat.mod_eq_of_lt h] at l2
  have e : (bif minus then IntKind.wrap .u64 (0 - (n : Int)) else (n : Int)) = (((if minus then (18446744073709551616 - n) % 18446744073709551616 else n : Nat) : Int)) := by
    cases minus with
    | false => rfl
    | true => rw [if_pos rfl, cond_true, wrap_u64]; omega
  constructor
  · simp only [p73, l1]; rfl
  · simp only [r73_0, l2, e, ext_ok]
    unfold tolN
    cases word <;> rfl
theorem lo2_lt (word uns : Bool) : loN2 word uns < 18446744073709551616 ∧ upN2 word uns < 18446744073709551616 := by cases word <;> cases uns <;> decide
theorem ends_ok (word uns : Bool) : p72 word uns = true ∧ r72_0 word uns = big (loN2 word uns) ∧ r72_1 word uns = big (upN2 word uns) := by
  have b1 : ([.i 1] : List DV) = big 1 := big_one.symm
  have d1 : dlen 1 ≤ 1048576 := by rw [dlen_one]; decide
  have hu : ∀ n : Nat, n ≤ 64 → p104 (big 1) (n : Int) = true ∧ r104_0 (big 1) (n : Int) = big (2 ^ n) := by
    intro n hn
    have := up_ok (a := 1) (n := n) d1 (by omega)
    rw [Nat.one_mul] at this
    exact this
  have hm : ∀ n : Nat, n ≤ 64 → p110 (big (2 ^ n)) (big 1) = true ∧ r110_0 (big (2 ^ n)) (big 1) = big (2 ^ n - 1) := by
    intro n hn
    exact minus_ok (a := 2 ^ n) (b := 1) (Nat.le_trans (dlen_mono (Nat.pow_le_pow_right (by decide) hn)) (by decide)) (Nat.two_pow_pos n)
  obtain ⟨u1, v1⟩ := hu 31 (by decide)
  obtain ⟨u2, v2⟩ := hu 32 (by decide)
  obtain ⟨u3, v3⟩ := hu 63 (by decide)
  obtain ⟨u4, v4⟩ := hu 64 (by decide)
  obtain ⟨m1, n1⟩ := hm 31 (by decide)
  obtain ⟨m2, n2⟩ := hm 32 (by decide)
  obtain ⟨m3, n3⟩ := hm 63 (by decide)
  obtain ⟨m4, n4⟩ := hm 64 (by decide)
  have z : ([] : List DV) = big 0 := rfl
  have w1 : IntKind.wrap .i64 (32 - 1) = 31 := by decide
  have w2 : IntKind.wrap .i64 (64 - 1) = 63 := by decide
  cases word
  · have u3 : p104 (big 1) 63 = true := u3
    have v3 : r104_0 (big 1) 63 = big (2 ^ 63) := v3
    have u4 : p104 (big 1) 64 = true := u4
    have v4 : r104_0 (big 1) 64 = big (2 ^ 64) := v4
    cases uns
    · refine ⟨?_, ?_, ?_⟩
      · simp only [p72, b1, cond_false, w2, u3, v3, u4, v4, m3, m4, ow_t]; rfl
      · simp only [r72_0, b1, cond_false, w2, v3]; rfl
      · simp only [r72_1, b1, cond_false, w2, v3, n3, v4, n4]; rfl
    · refine ⟨?_, ?_, ?_⟩
      · simp only [p72, b1, cond_false, w2, u3, v3, u4, v4, m3, m4, ow_t]; rfl
      · simp only [r72_0, b1, cond_false, w2, v3]; rfl
      · simp only [r72_1, b1, cond_false, w2, v3, n3, v4, n4]; rfl
  · have u3 : p104 (big 1) 31 = true := u1
    have v3 : r104_0 (big 1) 31 = big (2 ^ 31) := v1
    have u4 : p104 (big 1) 32 = true := u2
    have v4 : r104_0 (big 1) 32 = big (2 ^ 32) := v2
    cases uns
    · refine ⟨?_, ?_, ?_⟩
      · simp only [p72, b1, cond_true, w1, u3, v3, u4, v4, m1, m2, ow_t]; rfl
      · simp only [r72_0, b1, cond_true, w1, v3]; rfl
      · simp only [r72_1, b1, cond_true, w1, v3, n1, v4, n2]; rfl
    · refine ⟨?_, ?_, ?_⟩
      · simp only [p72, b1, cond_true, w1, u3, v3, u4, v4, m1, m2, ow_t]; rfl
      · simp only [r72_0, b1, cond_true, w1, v3]; rfl
      · simp only [r72_1, b1, cond_true, w1, v3, n1, v4, n2]; rfl
theorem rwhole_ok {rm : Int} {minus : Bool} {M : Nat} {E : Int} (hM : blen M ≤ 1000000) (hb : -1000000 ≤ E) (hb2 : E ≤ 1000000) :
    p75 rm minus (big M) E = true ∧ r75_0 (big M) E = (cutN rm minus M (-E) false).2 ∧ r75_1 rm minus (big M) E = big (cutN rm minus M (-E) false).1 := by
  by_cases h : 0 ≤ E
  · obtain ⟨n, rfl⟩ : ∃ n : Nat, E = (n : Int) := ⟨E.toNat, by omega⟩
    obtain ⟨u1, u2⟩ := up_ok (a := M) (n := n) (dlen_blen (by omega)) (by omega)
    have e4 : decide ((n : Int) ≥ 0) = true := decide_eq_true h
    unfold cutN
    rw [if_pos (show -(n : Int) ≤ 0 by omega)]
    have en : (- -(n : Int)).toNat = n := by omega
    rw [en]
    refine ⟨?_, ?_, ?_⟩
    · simp only [p75, e4, u1, ow_t]
      simp [ow]
    · simp only [r75_0, e4]; rfl
    · simp only [r75_1, e4, u2]; rfl
  · obtain ⟨n, hn⟩ : ∃ n : Nat, -E = (n : Int) := ⟨(-E).toNat, by omega⟩
    have e4 : decide (E ≥ 0) = false := decide_eq_false (by omega)
    have e0 : IntKind.wrap .i64 (0 - E) = (n : Int) := by rw [wrap_i64_of (by omega) (by omega)]; omega
    have e1 : IntKind.wrap .i64 ((n : Int) - 1) = ((n - 1 : Nat) : Int) := by rw [wrap_i64_of (by omega) (by omega)]; omega
    obtain ⟨d1, d2, d3⟩ := down_ok (a := M) (n := n) (dlen_blen (by omega)) (by omega)
    obtain ⟨c1, c2, _⟩ := down_ok (a := M) (n := n - 1) (dlen_blen (by omega)) (by omega)
    obtain ⟨b1, b2⟩ := bit_ok (a := M) (n := n - 1) (by omega)
    have b3 := bit_ok (a := M / 2 ^ n) (n := 0) (by omega)
    rw [Nat.pow_zero, Nat.div_one] at b3
    obtain ⟨b3, b4⟩ := b3
    have b3 : p113 (big (M / 2 ^ n)) 0 = true := b3
    have b4 : r113_0 (big (M / 2 ^ n)) 0 = ((M / 2 ^ n % 2 : Nat) : Int) := b4
    obtain ⟨i1, i2⟩ := inc_ok (a := M / 2 ^ n) (Nat.le_trans (dlen_mono (Nat.div_le_self _ _)) (dlen_blen (by omega)))
    have hr : (!(M % 2 ^ (n - 1) == 0)) = (M % 2 ^ (n - 1) != 0) := rfl
    have hup : ∀ (a b : Bool), a = (M % 2 ^ n == 0) → b = (M % 2 ^ (n - 1) != 0) →
        (bif rm == 0 then (M / 2 ^ (n - 1) % 2 == 1) && (b || (M / 2 ^ n % 2 == 1)) else bif rm == 2 then minus && !a else bif rm == 3 then !minus && !a else rm == 4 && (M / 2 ^ (n - 1) % 2 == 1)) =
        upB rm minus (M / 2 ^ n % 2 == 1) (M / 2 ^ (n - 1) % 2 == 1) (b || false) := by
      intro a b ha hb
      have hab : (!a) = ((M / 2 ^ (n - 1) % 2 == 1) || b) := by
        rw [ha, hb]
        obtain ⟨k, rfl⟩ : ∃ k, n = k + 1 := ⟨n - 1, by omega⟩
        rw [Nat.add_sub_cancel, Bool.eq_iff_iff]
        simp only [Bool.not_eq_true', beq_eq_false_iff_ne, Bool.or_eq_true, beq_iff_eq, bne_iff_ne, ne_eq]
        rw [Nat.pow_succ, Nat.mod_mul]
        have hp := Nat.two_pow_pos k
        have h2 : M / 2 ^ k % 2 < 2 := Nat.mod_lt _ (by decide)
        rcases Nat.lt_or_ge 0 (M / 2 ^ k % 2) with h3 | h3
        · have h4 : M / 2 ^ k % 2 = 1 := by omega
          rw [h4, Nat.mul_one]; omega
        · have h4 : M / 2 ^ k % 2 = 0 := by omega
          rw [h4, Nat.mul_zero]; omega
      rw [hab, Bool.or_false]
      unfold upB
      by_cases r0 : rm = 0
      · subst r0; rfl
      · by_cases r2 : rm = 2
        · subst r2; rfl
        · by_cases r3 : rm = 3
          · subst r3; rfl
          · rw [if_neg r0, if_neg r2, if_neg r3, beq_eq_false_iff_ne.2 r0, beq_eq_false_iff_ne.2 r2, beq_eq_false_iff_ne.2 r3]
            by_cases r4 : rm = 4
            · subst r4; simp
            · rw [if_neg r4, beq_eq_false_iff_ne.2 r4]; rfl
    unfold cutN cutP
    rw [hn, if_neg (show ¬ (n : Int) ≤ 0 by omega), Int.toNat_natCast]
    refine ⟨?_, ?_, ?_⟩
    · simp only [p75, e4, e0, e1, d1, d3, c1, b1, b3, i1, ow_t]
      simp [ow]
    · simp only [r75_0, e4, e0, d2]
      simp
    · have := hup _ _ rfl rfl
      simp only [r75_1, e4, e0, e1, d2, d3, c2, b2, b4, i2, ib1, hr, Bool.not_false, cond_true, this]
      cases upB rm minus (M / 2 ^ n % 2 == 1) (M / 2 ^ (n - 1) % 2 == 1) (M % 2 ^ (n - 1) != 0 || false) <;> rfl
end Go.Proofs.Ytacciadcmiiimaa

namespace Go.Proofs.Ytacciadcmiiimaa
open Go Go.Sx Go.Rnd
set_option maxRecDepth 100000
set_option maxHeartbeats 2000000

theorem cutN_nought {rm : Int} {minus : Bool} {b : Int} : cutN rm minus 0 b false = (0, true) := by
  unfold cutN
  split
  · rw [Nat.zero_mul]; rfl
  · rename_i h
    have := cutP_exact (rm := rm) (minus := minus) (q := 0) (n := b.toNat) (by omega)
    rw [Nat.zero_mul] at this
    exact this
theorem ccut_all (rm : Int) (minus : Bool) {m : Nat} {b : Int} (hm : m < 18446744073709551616) (hb : 0 ≤ b) : r70_0 rm minus (m : Int) b = ((cutN rm minus m b false).1 : Int) ∧ r70_1 (m : Int) b = (cutN rm minus m b false).2 := by
  by_cases h : 0 < m ∧ 0 < b
  · exact ccut_ok rm minus h.1 hm h.2
  · by_cases hb0 : b = 0
    · subst hb0
      have e : cutN rm minus m 0 false = (m, true) := by
        unfold cutN; rw [if_pos (by decide)]
        show (m * 2 ^ 0, true) = _
        rw [Nat.pow_zero, Nat.mul_one]
      rw [e]
      exact ⟨rfl, rfl⟩
    · have hm0 : m = 0 := by omega
      subst hm0
      have e4 : decide (b ≤ 0) = false := decide_eq_false (by omega)
      rw [cutN_nought]
      refine ⟨?_, ?_⟩
      · simp only [r70_0, e4]; rfl
      · simp only [r70_1, e4]; rfl

section
variable {s rm : Int} (hs : s = 4 ∨ s = 8) (h0 : 0 ≤ rm) (h1 : rm ≤ 4) {word uns : Bool} {a : Nat} (ha : a < 18446744073709551616)
include hs ha
theorem sway_ok : ∃ fr : Bool, (decide (fE s a > 0) && ((fM s a : Int) != 0) && decide (IntKind.wrap .i64 (r69_0 (fM s a : Int) + fE s a) > 64)) = fr ∧
    (fr = true → 18446744073709551616 ≤ (cutN rm (sgN s a) (fM s a) (-fE s a) false).1) ∧
    (fr = false → (bif decide (fE s a > 0) then ishl .u64 (fM s a : Int) (fE s a) else r70_0 rm (sgN s a) (fM s a : Int) (IntKind.wrap .i64 (0 - fE s a))) = ((cutN rm (sgN s a) (fM s a) (-fE s a) false).1 : Int) ∧
      (decide (fE s a > 0) || r70_1 (fM s a : Int) (IntKind.wrap .i64 (0 - fE s a))) = (cutN rm (sgN s a) (fM s a) (-fE s a) false).2 ∧ (cutN rm (sgN s a) (fM s a) (-fE s a) false).1 < 18446744073709551616) := by
  have hE := fE_le hs ha
  have hl := blenM hs ha
  have hM : fM s a < 18446744073709551616 := by have := blen_le.1 hl; omega
  rw [blen64 hM, wrap_i64_of (n := (blen (fM s a) : Int) + fE s a) (by omega) (by omega), wrap_i64_of (n := 0 - fE s a) (by omega) (by omega)]
  generalize fM s a = M at *
  generalize fE s a = E at *
  generalize sgN s a = mi at *
  by_cases hp : 0 < E
  · obtain ⟨n, rfl⟩ : ∃ n : Nat, E = (n : Int) := ⟨E.toNat, by omega⟩
    have ec : cutN rm mi M (-(n : Int)) false = (M * 2 ^ n, true) := by
      unfold cutN; rw [if_pos (by omega)]
      have en : (- -(n : Int)).toNat = n := by omega
      rw [en]; rfl
    rw [ec, decide_eq_true (show (n : Int) > 0 from hp)]
    by_cases hz : M = 0
    · subst hz
      have : ishl .u64 ((0 : Nat) : Int) (n : Int) = 0 := by rw [shl_nat, Nat.zero_mul]; rfl
      refine ⟨false, rfl, by simp, fun _ => ⟨?_, rfl, by rw [Nat.zero_mul]; decide⟩⟩
      rw [this, Nat.zero_mul]; rfl
    · have hnz : ((M : Int) != 0) = true := by rw [bne_iff_ne]; omega
      by_cases hf : 64 < blen M + n
      · refine ⟨true, ?_, ?_, by simp⟩
        · rw [hnz, decide_eq_true (show (blen M : Int) + n > 64 by omega)]; rfl
        · intro _
          have h2 := blen_shift (h := M) (j := n) (l := 0) (by omega) (Nat.two_pow_pos n)
          have h3 : 64 < blen (M * 2 ^ n) := by rw [Nat.add_zero] at h2; omega
          exact lt_blen.1 h3
      · have h2 := blen_shift (h := M) (j := n) (l := 0) (by omega) (Nat.two_pow_pos n)
        have h3 : blen (M * 2 ^ n) ≤ 64 := by rw [Nat.add_zero] at h2; omega
        have h4 : M * 2 ^ n < 18446744073709551616 := blen_le.1 h3
        refine ⟨false, ?_, by simp, fun _ => ⟨?_, rfl, h4⟩⟩
        · rw [hnz, decide_eq_false (show ¬ (blen M : Int) + n > 64 by omega)]; rfl
        · rw [shl_lt h4]; rfl
  · obtain ⟨c1, c2⟩ := ccut_all rm mi (m := M) (b := 0 - E) hM (by omega)
    have e : (0 - E) = -E := by omega
    rw [e] at c1 c2
    refine ⟨false, ?_, by simp, fun _ => ⟨?_, ?_, ?_⟩⟩
    · rw [decide_eq_false (show ¬ E > 0 by omega)]; rfl
    · rw [decide_eq_false (show ¬ E > 0 by omega), e, c1]; rfl
    · rw [decide_eq_false (show ¬ E > 0 by omega), e, c2]; rfl
    · have := cutN_le (rm := rm) (minus := mi) (M := M) (b := -E) (more := false) (k := 53) (by omega)
      omega
include h0 h1
theorem sto_ok : p25 s rm a = true ∧ r25_0 s rm word uns a = ((toS s rm word uns a).1 : Int) ∧ r25_1 s rm word uns a = ((toS s rm word uns a).2 : Int) := by
  obtain ⟨g1, g2, g3⟩ := of62 hs
  have hk : r64_0 s rm = true := (right_ok hs h0 h1).1
  have km := cminus_ok hs ha
  obtain ⟨kp, kc⟩ := cclass_ok hs ha
  obtain ⟨d1, d2, d3⟩ := cfin_ok hs ha
  have hE := fE_le hs ha
  obtain ⟨l1, l2⟩ := lo2_lt word uns
  have e16 : (bif uns then 0 else (bif word then 2147483648 else 9223372036854775808 : Int)) = (loN2 word uns : Int) := by cases word <;> cases uns <;> rfl
  have e17 : (bif uns then IntKind.wrap .u64 (IntKind.wrap .u64 (2 * (bif word then 2147483647 else 9223372036854775807 : Int)) + 1) else (bif word then 2147483647 else 9223372036854775807 : Int)) = (upN2 word uns : Int) := by cases word <;> cases uns <;> decide
  have hx : (if 0 < exf s a then (6 : Int) else 5) = 6 ∨ (if 0 < exf s a then (6 : Int) else 5) = 5 := by split <;> simp
  have c8 : decide (clN s a ≥ 8) = nanN s a := by
    unfold clN
    generalize (if 0 < exf s a then (6 : Int) else 5) = c at *
    cases nanN s a <;> cases loudN s a <;> cases infN s a <;> cases zerN s a <;> rcases hx with rfl | rfl <;> rfl
  have c7 : (clN s a == 7) = (infN s a && !nanN s a) := by
    unfold clN
    generalize (if 0 < exf s a then (6 : Int) else 5) = c at *
    cases nanN s a <;> cases loudN s a <;> cases infN s a <;> cases zerN s a <;> rcases hx with rfl | rfl <;> rfl
  have hin := inf_nan (s := s) (a := a)
  have c7 : (clN s a == 7) = infN s a := by
    rw [c7]; revert hin; cases infN s a <;> cases nanN s a <;> intro hin <;> first | rfl | cases hin rfl
  constructor
  · simp only [p25, hk, g1, g2, g3, kp, kc, d1, d2, d3, p69_ok, ow_t]
    have e36 : decide (fE s a > 0) = true → decide (fE s a ≥ 0) = true := fun h => decide_eq_true (by have := of_decide_eq_true h; omega)
    generalize decide (fE s a ≥ 0) = q at *
    revert e36
    generalize decide (fE s a > 0) = t at *
    intro e36
    simp only [p70_ok, ow_t]
    cases t
    · simp [ow]
    · rw [e36 rfl]; simp [ow]
  · obtain ⟨fr, w1, w2, w3⟩ := sway_ok (rm := rm) hs ha
    have t1 := told_ok true word l1
    have t2 := told_ok false word l2
    have t3 : (cutN rm (sgN s a) (fM s a) (-fE s a) false).1 < 18446744073709551616 → _ := fun h => told_ok (sgN s a) word h
    unfold toS whN
    generalize hcut : cutN rm (sgN s a) (fM s a) (-fE s a) false = C at *
    obtain ⟨C1, C2⟩ := C
    have f1 : fr = true → decide (loN2 word uns < C1) = true := fun h => decide_eq_true (Nat.lt_of_lt_of_le l1 (w2 h))
    have f2 : fr = true → decide (upN2 word uns < C1) = true := fun h => decide_eq_true (Nat.lt_of_lt_of_le l2 (w2 h))
    have n1 : decide ((C1 : Int) > (loN2 word uns : Int)) = decide (loN2 word uns < C1) := by rw [Bool.eq_iff_iff]; simp only [dec]; omega
    have n2 : decide ((C1 : Int) > (upN2 word uns : Int)) = decide (upN2 word uns < C1) := by rw [Bool.eq_iff_iff]; simp only [dec]; omega
    constructor
    · simp only [r25_0, hk, g1, g2, g3, kc, km, d2, d3, e16, e17, c8, c7, w1, t1, t2]
      generalize (bif decide (fE s a > 0) then ishl .u64 (fM s a : Int) (fE s a) else r70_0 rm (sgN s a) (fM s a : Int) (IntKind.wrap .i64 (0 - fE s a))) = V at *
      generalize (decide (fE s a > 0) || r70_1 (fM s a : Int) (IntKind.wrap .i64 (0 - fE s a))) = X at *
      cases fr
      · obtain ⟨e1, e2, e3⟩ := w3 rfl
        have t3 := t3 e3
        have e1 : V = (C1 : Int) := e1
        have e2 : X = C2 := e2
        subst e1 e2
        simp only [cond_false, Bool.false_or]
        revert hin
        cases hi : infN s a
        · intro _
          simp only [t3, n1, n2, cond_false, Bool.false_or, if_false, Bool.false_eq_true]
          cases nanN s a <;> cases sgN s a <;> cases decide (loN2 word uns < C1) <;> cases decide (upN2 word uns < C1) <;> cases X <;> rfl
        · intro hin
          rw [hin rfl]
          cases sgN s a <;> rfl
      · have f1 := f1 rfl
        have f2 := f2 rfl
        revert hin
        cases infN s a <;> intro hin
        · cases nanN s a <;> cases sgN s a <;> simp [f1, f2] 
        · rw [hin rfl]
          cases sgN s a <;> rfl
    · simp only [r25_1, hk, g1, g2, g3, kc, km, d2, d3, e16, e17, c8, c7, w1]
      generalize (bif decide (fE s a > 0) then ishl .u64 (fM s a : Int) (fE s a) else r70_0 rm (sgN s a) (fM s a : Int) (IntKind.wrap .i64 (0 - fE s a))) = V at *
      generalize (decide (fE s a > 0) || r70_1 (fM s a : Int) (IntKind.wrap .i64 (0 - fE s a))) = X at *
      cases fr
      · obtain ⟨e1, e2, e3⟩ := w3 rfl
        have e1 : V = (C1 : Int) := e1
        have e2 : X = C2 := e2
        subst e1 e2
        simp only [cond_false, Bool.false_or]
        revert hin
        cases hi : infN s a
        · intro _
          simp only [n1, n2, cond_false, Bool.false_or, if_false, Bool.false_eq_true]
          cases nanN s a <;> cases sgN s a <;> cases decide (loN2 word uns < C1) <;> cases decide (upN2 word uns < C1) <;> cases X <;> rfl
        · intro hin
          rw [hin rfl]
          cases sgN s a <;> rfl
      · have f1 := f1 rfl
        have f2 := f2 rfl
        revert hin
        cases infN s a <;> intro hin
        · cases nanN s a <;> cases sgN s a <;> simp [f1, f2] 
        · rw [hin rfl]
          cases sgN s a <;> rfl
theorem rto_ok : p26 s rm word uns a = true ∧ r26_0 s rm word uns a = ((toS s rm word uns a).1 : Int) ∧ r26_1 s rm word uns a = ((toS s rm word uns a).2 : Int) := by
  have hk : r71_0 s rm = true := (right_ok hs h0 h1).2
  obtain ⟨n1, n2⟩ := nan_ok hs ha
  obtain ⟨i1, i2⟩ := inf_ok hs ha
  obtain ⟨m1, m2⟩ := minused_ok hs ha
  obtain ⟨o1, o2, o3, o4⟩ := of_ok hs ha
  obtain ⟨x1, x2, x3⟩ := ends_ok word uns
  have hE := fE_le hs ha
  have hl := blenM hs ha
  obtain ⟨y1, y2, y3⟩ := rwhole_ok (rm := rm) (minus := sgN s a) (M := fM s a) (E := fE s a) (by omega) (by omega) (by omega)
  obtain ⟨l1, l2⟩ := lo2_lt word uns
  obtain ⟨a1, a2⟩ := num_ok false word l2
  obtain ⟨b1, b2⟩ := num_ok true word l1
  have zb : ([] : List DV) = big 0 := rfl
  unfold toS whN
  generalize hcut : cutN rm (sgN s a) (fM s a) (-fE s a) false = C at *
  obtain ⟨C1, C2⟩ := C
  have e29 : (bif !infN s a then big C1 else ([] : List DV)) = big (if infN s a = true then 0 else C1) := by
    cases infN s a
    · rfl
    · rw [if_pos rfl]; rfl
  have e30 : (bif !infN s a then C2 else true) = (if infN s a = true then true else C2) := by
    cases infN s a <;> rfl
  have hd : dlen (loN2 word uns) ≤ 1048576 := dlen_blen (Nat.le_trans ((blen_le (k := 64)).2 l1) (by decide))
  have hd2 : dlen (upN2 word uns) ≤ 1048576 := dlen_blen (Nat.le_trans ((blen_le (k := 64)).2 l2) (by decide))
  obtain ⟨c1, c2⟩ := less_ok (a := loN2 word uns) (b := if infN s a = true then 0 else C1) hd
  obtain ⟨d1, d2⟩ := less_ok (a := upN2 word uns) (b := if infN s a = true then 0 else C1) hd2
  have low : sgN s a = true → decide (loN2 word uns < (if infN s a = true then 0 else C1)) = false → (if infN s a = true then 0 else C1) < 18446744073709551616 := fun _ h => by
    have := of_decide_eq_false h; omega
  have upp : decide (upN2 word uns < (if infN s a = true then 0 else C1)) = false → (if infN s a = true then 0 else C1) < 18446744073709551616 := fun h => by
    have := of_decide_eq_false h; omega
  have y2 : r75_0 (big (fM s a)) (fE s a) = C2 := y2
  have y3 : r75_1 rm (sgN s a) (big (fM s a)) (fE s a) = big C1 := y3
  have eif1 : (if infN s a = true then ((0, true) : Nat × Bool) else (C1, C2)).1 = (if infN s a = true then 0 else C1) := by split <;> rfl
  have eif2 : (if infN s a = true then ((0, true) : Nat × Bool) else (C1, C2)).2 = (if infN s a = true then true else C2) := by split <;> rfl
  rw [eif1, eif2]
  generalize hW : (if infN s a = true then 0 else C1) = W at *
  have num := fun h => num_ok (sgN s a) (n := W) word h
  have p1 : p73 (big W) = true := by
    have := (low_ok (a := W)).1
    simp only [p73, this]; rfl
  refine ⟨?_, ?_, ?_⟩
  · simp only [p26, hk, n1, n2, i1, i2, m1, m2, o1, o2, o3, o4, x1, x2, x3, y1, y3, e29, c1, d1, a1, b1, p1, ow_t]; rfl
  · simp only [r26_0, hk, n2, i2, m2, o2, o3, o4, x2, x3, y3, e29, c2, d2, a2, b2]
    revert num low upp
    cases nanN s a
    · cases sgN s a <;> cases infN s a <;> cases h3 : decide (loN2 word uns < W) <;> cases h4 : decide (upN2 word uns < W) <;> intro low upp num <;> first | rfl | exact (num (low rfl rfl)).2 | exact (num (upp rfl)).2
    · intro _ _ _; rfl
  · simp only [r26_1, hk, n2, i2, m2, o2, o3, o4, x2, x3, y2, y3, e29, e30, c2, d2]
    cases nanN s a
    · cases sgN s a <;> cases infN s a <;> cases h3 : decide (loN2 word uns < W) <;> cases h4 : decide (upN2 word uns < W) <;> cases C2 <;> rfl
    · rfl
end
theorem conv_ints (s rm : Int) (word uns : Bool) {a : Nat} (ha : a < 18446744073709551616) : (p25 s rm a = true ∧ p26 s rm word uns a = true ∧ r25_0 s rm word uns a = r26_0 s rm word uns a ∧ r25_1 s rm word uns a = r26_1 s rm word uns a) ∧
    (p27 s rm word uns a = true ∧ p28 s rm word uns a = true ∧ r27_0 s rm word uns a = r28_0 s rm word uns a ∧ r27_1 s rm word uns a = r28_1 s rm word uns a) := by
  by_cases h : (s = 4 ∨ s = 8) ∧ 0 ≤ rm ∧ rm ≤ 4
  · obtain ⟨hs, h0, h1⟩ := h
    obtain ⟨x0, x1, x2⟩ := sto_ok hs h0 h1 (word := word) (uns := uns) ha
    obtain ⟨y0, y1, y2⟩ := rto_ok hs h0 h1 (word := word) (uns := uns) ha
    obtain ⟨z0, z1, z2⟩ := sfrom_ok hs h0 h1 (word := word) (uns := uns) ha
    obtain ⟨w0, w1, w2⟩ := rfrom_ok hs h0 h1 (word := word) (uns := uns) ha
    exact ⟨⟨x0, y0, x1.trans y1.symm, x2.trans y2.symm⟩, ⟨z0, w0, z1.trans w1.symm, z2.trans w2.symm⟩⟩
  · obtain ⟨k1, k2⟩ := right_not h
    have k1 : r64_0 s rm = false := k1
    have k2 : r71_0 s rm = false := k2
    refine ⟨⟨?_, ?_, ?_, ?_⟩, ⟨?_, ?_, ?_, ?_⟩⟩
    · simp only [p25, k1]; rfl
    · simp only [p26, k2]; rfl
    · simp only [r25_0, r26_0, k1, k2, Bool.not_false, Bool.not_true, cond_false]
    · simp only [r25_1, r26_1, k1, k2, Bool.not_false, Bool.not_true, cond_false]
    · simp only [p27, k1]; rfl
    · simp only [p28, k2]; rfl
    · simp only [r27_0, r28_0, k1, k2, Bool.not_false, Bool.not_true, cond_false]
    · simp only [r27_1, r28_1, k1, k2, Bool.not_false, Bool.not_true, cond_false]
theorem law_ints {s rm a : Int} {word uns : Bool} (h : U a) : p4 s rm word uns a = true ∧ r4_0 s rm word uns a = true := by
  obtain ⟨n, rfl, hn⟩ : ∃ n : Nat, a = n ∧ n < 18446744073709551616 := ⟨a.toNat, by have := h.1; omega, by have := h.1; have := h.2; omega⟩
  obtain ⟨w1, w2⟩ := awake_ok
  obtain ⟨⟨m1, m2, m3, m4⟩, ⟨q1, q2, q3, q4⟩⟩ := conv_ints s rm word uns hn
  constructor
  · simp only [p4, w1, m1, m2, q1, q2, ow_t]; rfl
  · simp only [r4_0, w2, m3, m4, q3, q4, beq_self_eq_true]; rfl
end Go.Proofs.Ytacciadcmiiimaa

