/- The functions of the statements, as lists of plain steps, each tied to the program's own text by the kernel (part 2). Written by the generator. -/
import Derived.Test.YtoebecinndbnoaaDoorPlkA1
namespace Go.Proofs.YtoebecinndbnoaaDoor
open Go Go.Sx
set_option maxRecDepth 100000
def gK : Nat := 1
def WI (w : World) : Prop := GlobIn w 0 c0
theorem gl0 : ∀ w, WI w → GlobIn w 0 c0 := fun _ h => h
theorem wiStable : Stable WI gK := fun w w' hs hb h => ⟨Nat.lt_of_lt_of_le h.1 hs, fun i l hi ν ρ => ⟨(h.2 i l hi ν ρ).1, by
  rw [← (h.2 i l hi ν ρ).2]
  have e := hb 0 (by decide)
  simp only [World.cell?, e]⟩⟩


noncomputable def FE : FEnv := fun f => match f with
  | 17 => g17
  | 18 => g18
  | 8 => g8
  | 21 => g21
  | 11 => g11
  | 13 => g13
  | 15 => g15
  | 10 => g10
  | 100700 => g100700
  | 7 => g7
  | _ => fun _ => []



theorem k17 : FnOK Tryd.prog WI gK 17 s17 g17 :=
  fn_ok (F := FE) wiStable (⟨fun _ _ h => (by cases h), (fun _ _ h => (by cases h))⟩) Tryd.func17 ev17 (by kernel_rfl) (fun _ h => (by cases h)) fun ds h hp => match ds, h, hp with
    | [d0], _, _ => ⟨by kernel_rfl, nrms_teq (by kernel_rfl) (by kernel_rfl) (by kernel_rfl)⟩
theorem k18 : FnOK Tryd.prog WI gK 18 s18 g18 :=
  fn_ok (F := FE) wiStable (⟨fun _ _ h => (by cases h), (fun g cs h => by
    simp only [S18, assoc] at h
    split at h
    · rename_i hg; obtain rfl := Nat.eq_of_beq_eq_true hg; cases h; exact gl0
    cases h)⟩) Tryd.func18 ev18 (by kernel_rfl) (fun _ h => (by cases h)) fun ds h hp => match ds, h, hp with
    | [d0], _, hp => ⟨(by kernel_rfl : owesB (outEnv FE s18 o18 [d0]) o18.owes = (dget (g18 [d0]) 0).toB).trans (hp rfl), nrms_teq (by kernel_rfl) (by kernel_rfl) (by kernel_rfl)⟩
theorem k8 : FnOK Tryd.prog WI gK 8 s8 g8 :=
  fn_ok (F := FE) wiStable (⟨(fun f s h => by
    simp only [Sigs.get, S8, assoc] at h
    split at h
    · rename_i hg; obtain rfl := Nat.eq_of_beq_eq_true hg; cases h; exact k17
    split at h
    · rename_i hg; obtain rfl := Nat.eq_of_beq_eq_true hg; cases h; exact k18
    cases h), (fun _ _ h => (by cases h))⟩) Tryd.func8 ev8 (by kernel_rfl) (fun _ h => (by cases h)) fun ds h hp => match ds, h, hp with
    | [d0, d1, d2, d3, d4, d5, d6, d7, d8, d9, d10, d11, d12, d13, d14, d15, d16], _, hp => ⟨(by kernel_rfl : owesB (outEnv FE s8 o8 [d0, d1, d2, d3, d4, d5, d6, d7, d8, d9, d10, d11, d12, d13, d14, d15, d16]) o8.owes = (dget (g8 [d0, d1, d2, d3, d4, d5, d6, d7, d8, d9, d10, d11, d12, d13, d14, d15, d16]) 0).toB).trans (hp rfl), nrms_teq (by kernel_rfl) (by kernel_rfl) (by kernel_rfl)⟩
theorem k21 : FnOK Tryd.prog WI gK 21 s21 g21 :=
  fn_ok (F := FE) wiStable (⟨fun _ _ h => (by cases h), (fun _ _ h => (by cases h))⟩) Tryd.func21 ev21 (by kernel_rfl) (fun _ h => (by cases h)) fun ds h hp => match ds, h, hp with
    | [d0], _, _ => ⟨by kernel_rfl, nrms_teq (by kernel_rfl) (by kernel_rfl) (by kernel_rfl)⟩
theorem k11 : FnOK Tryd.prog WI gK 11 s11 g11 :=
  fn_ok (F := FE) wiStable (⟨(fun f s h => by
    simp only [Sigs.get, S11, assoc] at h
    split at h
    · rename_i hg; obtain rfl := Nat.eq_of_beq_eq_true hg; cases h; exact k21
    split at h
    · rename_i hg; obtain rfl := Nat.eq_of_beq_eq_true hg; cases h; exact k8
    cases h), (fun _ _ h => (by cases h))⟩) Tryd.func11 ev11 (by kernel_rfl) (fun _ h => (by cases h)) fun ds h hp => match ds, h, hp with
    | [d0, d1, d2, d3, d4, d5, d6, d7, d8, d9, d10, d11, d12, d13, d14, d15, d16, d17, d18, d19], _, hp => ⟨(by kernel_rfl : owesB (outEnv FE s11 o11 [d0, d1, d2, d3, d4, d5, d6, d7, d8, d9, d10, d11, d12, d13, d14, d15, d16, d17, d18, d19]) o11.owes = (dget (g11 [d0, d1, d2, d3, d4, d5, d6, d7, d8, d9, d10, d11, d12, d13, d14, d15, d16, d17, d18, d19]) 0).toB).trans (hp rfl), nrms_teq (by kernel_rfl) (by kernel_rfl) (by kernel_rfl)⟩
theorem k13 : FnOK Tryd.prog WI gK 13 s13 g13 :=
  fn_ok (F := FE) wiStable (⟨fun _ _ h => (by cases h), (fun _ _ h => (by cases h))⟩) Tryd.func13 ev13 (by kernel_rfl) (fun _ h => (by cases h)) fun ds h hp => match ds, h, hp with
    | [d0, d1, d2, d3, d4, d5, d6, d7, d8], _, _ => ⟨by kernel_rfl, nrms_teq (by kernel_rfl) (by kernel_rfl) (by kernel_rfl)⟩
theorem k15 : FnOK Tryd.prog WI gK 15 s15 g15 :=
  fn_ok (F := FE) wiStable (⟨(fun f s h => by
    simp only [Sigs.get, S15, assoc] at h
    split at h
    · rename_i hg; obtain rfl := Nat.eq_of_beq_eq_true hg; cases h; exact k17
    cases h), (fun _ _ h => (by cases h))⟩) Tryd.func15 ev15 (by kernel_rfl) (fun _ h => (by cases h)) fun ds h hp => match ds, h, hp with
    | [d0, d1, d2, d3, d4, d5, d6, d7, d8, d9, d10, d11, d12, d13, d14, d15, d16, d17], _, hp => ⟨(by kernel_rfl : owesB (outEnv FE s15 o15 [d0, d1, d2, d3, d4, d5, d6, d7, d8, d9, d10, d11, d12, d13, d14, d15, d16, d17]) o15.owes = (dget (g15 [d0, d1, d2, d3, d4, d5, d6, d7, d8, d9, d10, d11, d12, d13, d14, d15, d16, d17]) 0).toB).trans (hp rfl), nrms_teq (by kernel_rfl) (by kernel_rfl) (by kernel_rfl)⟩
theorem k10 : FnOK Tryd.prog WI gK 10 s10 g10 :=
  fn_ok (F := FE) wiStable (⟨(fun f s h => by
    simp only [Sigs.get, S10, assoc] at h
    split at h
    · rename_i hg; obtain rfl := Nat.eq_of_beq_eq_true hg; cases h; exact k8
    split at h
    · rename_i hg; obtain rfl := Nat.eq_of_beq_eq_true hg; cases h; exact k13
    split at h
    · rename_i hg; obtain rfl := Nat.eq_of_beq_eq_true hg; cases h; exact k15
    split at h
    · rename_i hg; obtain rfl := Nat.eq_of_beq_eq_true hg; cases h; exact k11
    cases h), (fun _ _ h => (by cases h))⟩) Tryd.func10 ev10 (by kernel_rfl) (fun _ h => (by cases h)) fun ds h hp => match ds, h, hp with
    | [], _, hp => ⟨(by kernel_rfl : owesB (outEnv FE s10 o10 []) o10.owes = (dget (g10 []) 0).toB).trans (hp rfl), nrms_teq (by kernel_rfl) (by kernel_rfl) (by kernel_rfl)⟩
theorem hl7_0 : LoopSound FE l7_0 := loop_ok (w := W100700) (c := C100700) (nx := N100700) (out := T100700) [.l, .i, .i, .i, .i, .i, .i, .i, .i, .i, .i, .i, .i, .i, .i, .i, .i, .i] (fun ds => by kernel_rfl) rfl (fun ν xs h => match xs, h with | [x0, x1, x2, x3, x4, x5, x6, x7, x8, x9, x10, x11, x12, x13, x14, x15, x16], _ => by kernel_rfl)
  (fun ν xs h => match xs, h with | [x0, x1, x2, x3, x4, x5, x6, x7, x8, x9, x10, x11, x12, x13, x14, x15, x16], _ => by kernel_rfl)
  (fun ν xs h => match xs, h with | [x0, x1, x2, x3, x4, x5, x6, x7, x8, x9, x10, x11, x12, x13, x14, x15, x16], _ => by kernel_rfl)
  (fun ν xs h => match xs, h with | [x0, x1, x2, x3, x4, x5, x6, x7, x8, x9, x10, x11, x12, x13, x14, x15, x16], _ => by kernel_rfl)
theorem hl7 : ∀ l ∈ o7.loops, LoopSound FE l := show ∀ l ∈ [l7_0], LoopSound FE l from
  List.forall_mem_cons.2 ⟨hl7_0, fun _ h => (by cases h)⟩
theorem k7 : FnOK Tryd.prog WI gK 7 s7 g7 :=
  fn_ok (F := FE) wiStable (⟨(fun f s h => by
    simp only [Sigs.get, S7, assoc] at h
    split at h
    · rename_i hg; obtain rfl := Nat.eq_of_beq_eq_true hg; cases h; exact k10
    split at h
    · rename_i hg; obtain rfl := Nat.eq_of_beq_eq_true hg; cases h; exact k8
    split at h
    · rename_i hg; obtain rfl := Nat.eq_of_beq_eq_true hg; cases h; exact k11
    split at h
    · rename_i hg; obtain rfl := Nat.eq_of_beq_eq_true hg; cases h; exact k13
    split at h
    · rename_i hg; obtain rfl := Nat.eq_of_beq_eq_true hg; cases h; exact k15
    cases h), (fun _ _ h => (by cases h))⟩) Tryd.func7 ev7 (by kernel_rfl) hl7 fun ds h hp => match ds, h, hp with
    | [d0, d1, d2, d3, d4, d5, d6, d7, d8, d9, d10, d11, d12, d13, d14, d15, d16, d17, d18, d19, d20, d21], _, hp => ⟨(by kernel_rfl : owesB (outEnv FE s7 o7 [d0, d1, d2, d3, d4, d5, d6, d7, d8, d9, d10, d11, d12, d13, d14, d15, d16, d17, d18, d19, d20, d21]) o7.owes = (dget (g7 [d0, d1, d2, d3, d4, d5, d6, d7, d8, d9, d10, d11, d12, d13, d14, d15, d16, d17, d18, d19, d20, d21]) 0).toB).trans (hp rfl), nrms_teq (by kernel_rfl) (by kernel_rfl) (by kernel_rfl)⟩


end Go.Proofs.YtoebecinndbnoaaDoor
