/- The functions of the statements, as lists of plain steps, each tied to the program's own text by the kernel (part 5). Written by the generator. -/
import Derived.Test.YthlbgkhbebffaaaPlA4
namespace Go.Proofs.Ythlbgkhbebffaaa
open Go Go.Sx
set_option maxRecDepth 100000
def WI (_ : World) : Prop := True
def gK : Nat := 0
theorem wiStable : Stable WI gK := fun _ _ _ _ h => h


noncomputable def FE : FEnv := fun f => match f with
  | 12 => g12
  | 13 => g13
  | 14 => g14
  | 10 => g10
  | 9 => g9
  | 8 => g8
  | 7 => g7
  | 6 => g6
  | 11 => g11
  | 5 => g5
  | 3 => g3
  | _ => fun _ => []



theorem k12 : FnOK Try.prog WI gK 12 s12 g12 :=
  fn_ok (F := FE) wiStable (⟨fun _ _ h => (by cases h), (fun _ _ h => (by cases h))⟩) Try.func12 ev12 (by kernel_rfl) (fun _ h => (by cases h)) fun ds h hp => match ds, h, hp with
    | [d0, d1], _, _ => ⟨by kernel_rfl, nrms_teq (by kernel_rfl) (by kernel_rfl) (by kernel_rfl)⟩
theorem k13 : FnOK Try.prog WI gK 13 s13 g13 :=
  fn_ok (F := FE) wiStable (⟨fun _ _ h => (by cases h), (fun _ _ h => (by cases h))⟩) Try.func13 ev13 (by kernel_rfl) (fun _ h => (by cases h)) fun ds h hp => match ds, h, hp with
    | d0 :: d1 :: d2 :: d3 :: d4 :: d5 :: d6 :: d7 :: d8 :: d9 :: d10 :: d11 :: d12 :: d13 :: d14 :: d15 :: d16 :: d17 :: d18 :: d19 :: d20 :: d21 :: d22 :: d23 :: d24 :: d25 :: d26 :: d27 :: d28 :: d29 :: d30 :: d31 :: d32 :: d33 :: d34 :: d35 :: d36 :: d37 :: d38 :: d39 :: d40 :: d41 :: d42 :: d43 :: d44 :: d45 :: d46 :: d47 :: d48 :: d49 :: d50 :: d51 :: d52 :: d53 :: d54 :: d55 :: d56 :: [], _, hp => ⟨(by kernel_rfl : owesB (outEnv FE s13 o13 (d0 :: d1 :: d2 :: d3 :: d4 :: d5 :: d6 :: d7 :: d8 :: d9 :: d10 :: d11 :: d12 :: d13 :: d14 :: d15 :: d16 :: d17 :: d18 :: d19 :: d20 :: d21 :: d22 :: d23 :: d24 :: d25 :: d26 :: d27 :: d28 :: d29 :: d30 :: d31 :: d32 :: d33 :: d34 :: d35 :: d36 :: d37 :: d38 :: d39 :: d40 :: d41 :: d42 :: d43 :: d44 :: d45 :: d46 :: d47 :: d48 :: d49 :: d50 :: d51 :: d52 :: d53 :: d54 :: d55 :: d56 :: [])) o13.owes = (dget (g13 (d0 :: d1 :: d2 :: d3 :: d4 :: d5 :: d6 :: d7 :: d8 :: d9 :: d10 :: d11 :: d12 :: d13 :: d14 :: d15 :: d16 :: d17 :: d18 :: d19 :: d20 :: d21 :: d22 :: d23 :: d24 :: d25 :: d26 :: d27 :: d28 :: d29 :: d30 :: d31 :: d32 :: d33 :: d34 :: d35 :: d36 :: d37 :: d38 :: d39 :: d40 :: d41 :: d42 :: d43 :: d44 :: d45 :: d46 :: d47 :: d48 :: d49 :: d50 :: d51 :: d52 :: d53 :: d54 :: d55 :: d56 :: [])) 0).toB).trans (hp rfl), nrms_teq (by kernel_rfl) (by kernel_rfl) (by kernel_rfl)⟩
theorem k14 : FnOK Try.prog WI gK 14 s14 g14 :=
  fn_ok (F := FE) wiStable (⟨fun _ _ h => (by cases h), (fun _ _ h => (by cases h))⟩) Try.func14 ev14 (by kernel_rfl) (fun _ h => (by cases h)) fun ds h hp => match ds, h, hp with
    | d0 :: d1 :: d2 :: d3 :: d4 :: d5 :: d6 :: d7 :: d8 :: d9 :: d10 :: d11 :: d12 :: d13 :: d14 :: d15 :: d16 :: d17 :: d18 :: d19 :: d20 :: d21 :: d22 :: d23 :: d24 :: d25 :: d26 :: d27 :: d28 :: d29 :: d30 :: d31 :: d32 :: d33 :: d34 :: d35 :: d36 :: d37 :: d38 :: d39 :: d40 :: d41 :: d42 :: d43 :: d44 :: d45 :: d46 :: d47 :: d48 :: d49 :: d50 :: d51 :: d52 :: d53 :: d54 :: d55 :: d56 :: [], _, hp => ⟨(by kernel_rfl : owesB (outEnv FE s14 o14 (d0 :: d1 :: d2 :: d3 :: d4 :: d5 :: d6 :: d7 :: d8 :: d9 :: d10 :: d11 :: d12 :: d13 :: d14 :: d15 :: d16 :: d17 :: d18 :: d19 :: d20 :: d21 :: d22 :: d23 :: d24 :: d25 :: d26 :: d27 :: d28 :: d29 :: d30 :: d31 :: d32 :: d33 :: d34 :: d35 :: d36 :: d37 :: d38 :: d39 :: d40 :: d41 :: d42 :: d43 :: d44 :: d45 :: d46 :: d47 :: d48 :: d49 :: d50 :: d51 :: d52 :: d53 :: d54 :: d55 :: d56 :: [])) o14.owes = (dget (g14 (d0 :: d1 :: d2 :: d3 :: d4 :: d5 :: d6 :: d7 :: d8 :: d9 :: d10 :: d11 :: d12 :: d13 :: d14 :: d15 :: d16 :: d17 :: d18 :: d19 :: d20 :: d21 :: d22 :: d23 :: d24 :: d25 :: d26 :: d27 :: d28 :: d29 :: d30 :: d31 :: d32 :: d33 :: d34 :: d35 :: d36 :: d37 :: d38 :: d39 :: d40 :: d41 :: d42 :: d43 :: d44 :: d45 :: d46 :: d47 :: d48 :: d49 :: d50 :: d51 :: d52 :: d53 :: d54 :: d55 :: d56 :: [])) 0).toB).trans (hp rfl), nrms_teq (by kernel_rfl) (by kernel_rfl) (by kernel_rfl)⟩
theorem k10 : FnOK Try.prog WI gK 10 s10 g10 :=
  fn_ok (F := FE) wiStable (⟨(fun f s h => by
    simp only [Sigs.get, S10, assoc] at h
    split at h
    · rename_i hg; obtain rfl := Nat.eq_of_beq_eq_true hg; cases h; exact k13
    cases h), (fun _ _ h => (by cases h))⟩) Try.func10 ev10 (by kernel_rfl) (fun _ h => (by cases h)) fun ds h hp => match ds, h, hp with
    | d0 :: d1 :: d2 :: d3 :: d4 :: d5 :: d6 :: d7 :: d8 :: d9 :: d10 :: d11 :: d12 :: d13 :: d14 :: d15 :: d16 :: d17 :: d18 :: d19 :: d20 :: d21 :: d22 :: d23 :: d24 :: d25 :: d26 :: d27 :: d28 :: d29 :: d30 :: d31 :: d32 :: d33 :: d34 :: d35 :: d36 :: d37 :: d38 :: d39 :: d40 :: d41 :: d42 :: d43 :: d44 :: d45 :: d46 :: d47 :: d48 :: d49 :: d50 :: d51 :: d52 :: d53 :: d54 :: d55 :: d56 :: d57 :: [], _, hp => ⟨(by kernel_rfl : owesB (outEnv FE s10 o10 (d0 :: d1 :: d2 :: d3 :: d4 :: d5 :: d6 :: d7 :: d8 :: d9 :: d10 :: d11 :: d12 :: d13 :: d14 :: d15 :: d16 :: d17 :: d18 :: d19 :: d20 :: d21 :: d22 :: d23 :: d24 :: d25 :: d26 :: d27 :: d28 :: d29 :: d30 :: d31 :: d32 :: d33 :: d34 :: d35 :: d36 :: d37 :: d38 :: d39 :: d40 :: d41 :: d42 :: d43 :: d44 :: d45 :: d46 :: d47 :: d48 :: d49 :: d50 :: d51 :: d52 :: d53 :: d54 :: d55 :: d56 :: d57 :: [])) o10.owes = (dget (g10 (d0 :: d1 :: d2 :: d3 :: d4 :: d5 :: d6 :: d7 :: d8 :: d9 :: d10 :: d11 :: d12 :: d13 :: d14 :: d15 :: d16 :: d17 :: d18 :: d19 :: d20 :: d21 :: d22 :: d23 :: d24 :: d25 :: d26 :: d27 :: d28 :: d29 :: d30 :: d31 :: d32 :: d33 :: d34 :: d35 :: d36 :: d37 :: d38 :: d39 :: d40 :: d41 :: d42 :: d43 :: d44 :: d45 :: d46 :: d47 :: d48 :: d49 :: d50 :: d51 :: d52 :: d53 :: d54 :: d55 :: d56 :: d57 :: [])) 0).toB).trans (hp rfl), nrms_teq (by kernel_rfl) (by kernel_rfl) (by kernel_rfl)⟩
theorem k9 : FnOK Try.prog WI gK 9 s9 g9 :=
  fn_ok (F := FE) wiStable (⟨(fun f s h => by
    simp only [Sigs.get, S9, assoc] at h
    split at h
    · rename_i hg; obtain rfl := Nat.eq_of_beq_eq_true hg; cases h; exact k14
    cases h), (fun _ _ h => (by cases h))⟩) Try.func9 ev9 (by kernel_rfl) (fun _ h => (by cases h)) fun ds h hp => match ds, h, hp with
    | d0 :: d1 :: d2 :: d3 :: d4 :: d5 :: d6 :: d7 :: d8 :: d9 :: d10 :: d11 :: d12 :: d13 :: d14 :: d15 :: d16 :: d17 :: d18 :: d19 :: d20 :: d21 :: d22 :: d23 :: d24 :: d25 :: d26 :: d27 :: d28 :: d29 :: d30 :: d31 :: d32 :: d33 :: d34 :: d35 :: d36 :: d37 :: d38 :: d39 :: d40 :: d41 :: d42 :: d43 :: d44 :: d45 :: d46 :: d47 :: d48 :: d49 :: d50 :: d51 :: d52 :: d53 :: d54 :: d55 :: [], _, hp => ⟨(by kernel_rfl : owesB (outEnv FE s9 o9 (d0 :: d1 :: d2 :: d3 :: d4 :: d5 :: d6 :: d7 :: d8 :: d9 :: d10 :: d11 :: d12 :: d13 :: d14 :: d15 :: d16 :: d17 :: d18 :: d19 :: d20 :: d21 :: d22 :: d23 :: d24 :: d25 :: d26 :: d27 :: d28 :: d29 :: d30 :: d31 :: d32 :: d33 :: d34 :: d35 :: d36 :: d37 :: d38 :: d39 :: d40 :: d41 :: d42 :: d43 :: d44 :: d45 :: d46 :: d47 :: d48 :: d49 :: d50 :: d51 :: d52 :: d53 :: d54 :: d55 :: [])) o9.owes = (dget (g9 (d0 :: d1 :: d2 :: d3 :: d4 :: d5 :: d6 :: d7 :: d8 :: d9 :: d10 :: d11 :: d12 :: d13 :: d14 :: d15 :: d16 :: d17 :: d18 :: d19 :: d20 :: d21 :: d22 :: d23 :: d24 :: d25 :: d26 :: d27 :: d28 :: d29 :: d30 :: d31 :: d32 :: d33 :: d34 :: d35 :: d36 :: d37 :: d38 :: d39 :: d40 :: d41 :: d42 :: d43 :: d44 :: d45 :: d46 :: d47 :: d48 :: d49 :: d50 :: d51 :: d52 :: d53 :: d54 :: d55 :: [])) 0).toB).trans (hp rfl), nrms_teq (by kernel_rfl) (by kernel_rfl) (by kernel_rfl)⟩
theorem k8 : FnOK Try.prog WI gK 8 s8 g8 :=
  fn_ok (F := FE) wiStable (⟨(fun f s h => by
    simp only [Sigs.get, S8, assoc] at h
    split at h
    · rename_i hg; obtain rfl := Nat.eq_of_beq_eq_true hg; cases h; exact k12
    split at h
    · rename_i hg; obtain rfl := Nat.eq_of_beq_eq_true hg; cases h; exact k14
    cases h), (fun _ _ h => (by cases h))⟩) Try.func8 ev8 (by kernel_rfl) (fun _ h => (by cases h)) fun ds h hp => match ds, h, hp with
    | d0 :: d1 :: d2 :: d3 :: d4 :: d5 :: d6 :: d7 :: d8 :: d9 :: d10 :: d11 :: d12 :: d13 :: d14 :: d15 :: d16 :: d17 :: d18 :: d19 :: d20 :: d21 :: d22 :: d23 :: d24 :: d25 :: d26 :: d27 :: d28 :: d29 :: d30 :: d31 :: d32 :: d33 :: d34 :: d35 :: d36 :: d37 :: d38 :: d39 :: d40 :: d41 :: d42 :: d43 :: d44 :: d45 :: d46 :: d47 :: d48 :: d49 :: d50 :: d51 :: d52 :: d53 :: d54 :: d55 :: d56 :: d57 :: [], _, hp => ⟨(by kernel_rfl : owesB (outEnv FE s8 o8 (d0 :: d1 :: d2 :: d3 :: d4 :: d5 :: d6 :: d7 :: d8 :: d9 :: d10 :: d11 :: d12 :: d13 :: d14 :: d15 :: d16 :: d17 :: d18 :: d19 :: d20 :: d21 :: d22 :: d23 :: d24 :: d25 :: d26 :: d27 :: d28 :: d29 :: d30 :: d31 :: d32 :: d33 :: d34 :: d35 :: d36 :: d37 :: d38 :: d39 :: d40 :: d41 :: d42 :: d43 :: d44 :: d45 :: d46 :: d47 :: d48 :: d49 :: d50 :: d51 :: d52 :: d53 :: d54 :: d55 :: d56 :: d57 :: [])) o8.owes = (dget (g8 (d0 :: d1 :: d2 :: d3 :: d4 :: d5 :: d6 :: d7 :: d8 :: d9 :: d10 :: d11 :: d12 :: d13 :: d14 :: d15 :: d16 :: d17 :: d18 :: d19 :: d20 :: d21 :: d22 :: d23 :: d24 :: d25 :: d26 :: d27 :: d28 :: d29 :: d30 :: d31 :: d32 :: d33 :: d34 :: d35 :: d36 :: d37 :: d38 :: d39 :: d40 :: d41 :: d42 :: d43 :: d44 :: d45 :: d46 :: d47 :: d48 :: d49 :: d50 :: d51 :: d52 :: d53 :: d54 :: d55 :: d56 :: d57 :: [])) 0).toB).trans (hp rfl), nrms_teq (by kernel_rfl) (by kernel_rfl) (by kernel_rfl)⟩
theorem k7 : FnOK Try.prog WI gK 7 s7 g7 :=
  fn_ok (F := FE) wiStable (⟨(fun f s h => by
    simp only [Sigs.get, S7, assoc] at h
    split at h
    · rename_i hg; obtain rfl := Nat.eq_of_beq_eq_true hg; cases h; exact k12
    split at h
    · rename_i hg; obtain rfl := Nat.eq_of_beq_eq_true hg; cases h; exact k13
    cases h), (fun _ _ h => (by cases h))⟩) Try.func7 ev7 (by kernel_rfl) (fun _ h => (by cases h)) fun ds h hp => match ds, h, hp with
    | d0 :: d1 :: d2 :: d3 :: d4 :: d5 :: d6 :: d7 :: d8 :: d9 :: d10 :: d11 :: d12 :: d13 :: d14 :: d15 :: d16 :: d17 :: d18 :: d19 :: d20 :: d21 :: d22 :: d23 :: d24 :: d25 :: d26 :: d27 :: d28 :: d29 :: d30 :: d31 :: d32 :: d33 :: d34 :: d35 :: d36 :: d37 :: d38 :: d39 :: d40 :: d41 :: d42 :: d43 :: d44 :: d45 :: d46 :: d47 :: d48 :: d49 :: d50 :: d51 :: d52 :: d53 :: d54 :: d55 :: d56 :: d57 :: d58 :: [], _, hp => ⟨(by kernel_rfl : owesB (outEnv FE s7 o7 (d0 :: d1 :: d2 :: d3 :: d4 :: d5 :: d6 :: d7 :: d8 :: d9 :: d10 :: d11 :: d12 :: d13 :: d14 :: d15 :: d16 :: d17 :: d18 :: d19 :: d20 :: d21 :: d22 :: d23 :: d24 :: d25 :: d26 :: d27 :: d28 :: d29 :: d30 :: d31 :: d32 :: d33 :: d34 :: d35 :: d36 :: d37 :: d38 :: d39 :: d40 :: d41 :: d42 :: d43 :: d44 :: d45 :: d46 :: d47 :: d48 :: d49 :: d50 :: d51 :: d52 :: d53 :: d54 :: d55 :: d56 :: d57 :: d58 :: [])) o7.owes = (dget (g7 (d0 :: d1 :: d2 :: d3 :: d4 :: d5 :: d6 :: d7 :: d8 :: d9 :: d10 :: d11 :: d12 :: d13 :: d14 :: d15 :: d16 :: d17 :: d18 :: d19 :: d20 :: d21 :: d22 :: d23 :: d24 :: d25 :: d26 :: d27 :: d28 :: d29 :: d30 :: d31 :: d32 :: d33 :: d34 :: d35 :: d36 :: d37 :: d38 :: d39 :: d40 :: d41 :: d42 :: d43 :: d44 :: d45 :: d46 :: d47 :: d48 :: d49 :: d50 :: d51 :: d52 :: d53 :: d54 :: d55 :: d56 :: d57 :: d58 :: [])) 0).toB).trans (hp rfl), nrms_teq (by kernel_rfl) (by kernel_rfl) (by kernel_rfl)⟩
theorem k6 : FnOK Try.prog WI gK 6 s6 g6 :=
  fn_ok (F := FE) wiStable (⟨fun _ _ h => (by cases h), (fun _ _ h => (by cases h))⟩) Try.func6 ev6 (by kernel_rfl) (fun _ h => (by cases h)) fun ds h hp => match ds, h, hp with
    | [], _, _ => ⟨by kernel_rfl, nrms_teq (by kernel_rfl) (by kernel_rfl) (by kernel_rfl)⟩
theorem k11 : FnOK Try.prog WI gK 11 s11 g11 :=
  fn_ok (F := FE) wiStable (⟨fun _ _ h => (by cases h), (fun _ _ h => (by cases h))⟩) Try.func11 ev11 (by kernel_rfl) (fun _ h => (by cases h)) fun ds h hp => match ds, h, hp with
    | d0 :: d1 :: d2 :: d3 :: d4 :: d5 :: d6 :: d7 :: d8 :: d9 :: d10 :: d11 :: d12 :: d13 :: d14 :: d15 :: d16 :: d17 :: d18 :: d19 :: d20 :: d21 :: d22 :: d23 :: d24 :: d25 :: d26 :: d27 :: d28 :: d29 :: d30 :: d31 :: d32 :: d33 :: d34 :: d35 :: d36 :: d37 :: d38 :: d39 :: d40 :: d41 :: d42 :: d43 :: d44 :: d45 :: d46 :: d47 :: d48 :: d49 :: d50 :: d51 :: d52 :: d53 :: d54 :: d55 :: [], _, _ => ⟨by kernel_rfl, nrms_teq (by kernel_rfl) (by kernel_rfl) (by kernel_rfl)⟩
theorem k5 : FnOK Try.prog WI gK 5 s5 g5 :=
  fn_ok (F := FE) wiStable (⟨(fun f s h => by
    simp only [Sigs.get, S5, assoc] at h
    split at h
    · rename_i hg; obtain rfl := Nat.eq_of_beq_eq_true hg; cases h; exact k6
    split at h
    · rename_i hg; obtain rfl := Nat.eq_of_beq_eq_true hg; cases h; exact k7
    split at h
    · rename_i hg; obtain rfl := Nat.eq_of_beq_eq_true hg; cases h; exact k10
    split at h
    · rename_i hg; obtain rfl := Nat.eq_of_beq_eq_true hg; cases h; exact k8
    split at h
    · rename_i hg; obtain rfl := Nat.eq_of_beq_eq_true hg; cases h; exact k9
    split at h
    · rename_i hg; obtain rfl := Nat.eq_of_beq_eq_true hg; cases h; exact k11
    cases h), (fun _ _ h => (by cases h))⟩) Try.func5 ev5 (by kernel_rfl) (fun _ h => (by cases h)) fun ds h hp => match ds, h, hp with
    | [], _, hp => ⟨(by kernel_rfl : owesB (outEnv FE s5 o5 []) o5.owes = (dget (g5 []) 0).toB).trans (hp rfl), nrms_teq (by kernel_rfl) (by kernel_rfl) (by kernel_rfl)⟩
theorem k3 : FnOK Try.prog WI gK 3 s3 g3 :=
  fn_ok (F := FE) wiStable (⟨(fun f s h => by
    simp only [Sigs.get, S3, assoc] at h
    split at h
    · rename_i hg; obtain rfl := Nat.eq_of_beq_eq_true hg; cases h; exact k5
    split at h
    · rename_i hg; obtain rfl := Nat.eq_of_beq_eq_true hg; cases h; exact k6
    split at h
    · rename_i hg; obtain rfl := Nat.eq_of_beq_eq_true hg; cases h; exact k7
    split at h
    · rename_i hg; obtain rfl := Nat.eq_of_beq_eq_true hg; cases h; exact k8
    split at h
    · rename_i hg; obtain rfl := Nat.eq_of_beq_eq_true hg; cases h; exact k9
    cases h), (fun _ _ h => (by cases h))⟩) Try.func3 ev3 (by kernel_rfl) (fun _ h => (by cases h)) fun ds h hp => match ds, h, hp with
    | [d0, d1, d2], _, hp => ⟨(by kernel_rfl : owesB (outEnv FE s3 o3 [d0, d1, d2]) o3.owes = (dget (g3 [d0, d1, d2]) 0).toB).trans (hp rfl), nrms_teq (by kernel_rfl) (by kernel_rfl) (by kernel_rfl)⟩


end Go.Proofs.Ythlbgkhbebffaaa
