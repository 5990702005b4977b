/- PmpWrites: the row's statement, and its card. -/
import Derived.Test.YtoebecinndbnoaaDoorPmB
import Derived.Test.YtoebecinndbnoaaDoorPmC
namespace Go.Proofs.YtoebecinndbnoaaDoor
open Go Go.Sx Go.RowKit
set_option maxRecDepth 100000

theorem R8_of {n : Int} (h : (Lit.int .u8 n).wf = true) : R8 n := by
  simp only [Lit.wf, IntKind.min, IntKind.max, IntKind.signed, IntKind.bits, Bool.and_eq_true] at h
  exact ⟨by simpa using h.1, by have := h.2; simp at this; omega⟩
theorem R64_of {n : Int} (h : (Lit.int .u64 n).wf = true) : R64 n := by
  simp only [Lit.wf, IntKind.min, IntKind.max, IntKind.signed, IntKind.bits, Bool.and_eq_true] at h
  exact ⟨by simpa using h.1, by have := h.2; simp at this; omega⟩

theorem pmpWrites_G (xs : List DV) (h : RangeOk (s5.ps.flatMap Sh.lts) xs) : (s5.need = true → (dget (g5 xs) 0).toB = true) ∧ (dget (g5 xs) (if s5.need then 1 else 0)).toB = true :=
  ⟨fun _ => writes_p (R8_of (h.int_at 0 rfl)) (R8_of (h.int_at 1 rfl)) (R8_of (h.int_at 2 rfl)) (R8_of (h.int_at 3 rfl)) (R8_of (h.int_at 4 rfl)) (R8_of (h.int_at 5 rfl)) (R8_of (h.int_at 6 rfl)) (R8_of (h.int_at 7 rfl)) (R64_of (h.int_at 17 rfl)), writes_ok (R8_of (h.int_at 0 rfl)) (R8_of (h.int_at 1 rfl)) (R8_of (h.int_at 2 rfl)) (R8_of (h.int_at 3 rfl)) (R8_of (h.int_at 4 rfl)) (R8_of (h.int_at 5 rfl)) (R8_of (h.int_at 6 rfl)) (R8_of (h.int_at 7 rfl)) (R64_of (h.int_at 17 rfl))⟩

theorem pmpWrites_lifted (os : Os) (started : os.Started) (H : Type) (enc : TypeId × Value → H) :
    ReturnsInHanded {} Tryd.checked os 5 .any (fun w args => (Rows.pmpWritesSpec.pre enc Tryd.prog Tryd.f5 [] false w args ∧ laidMetH Tryd.prog [("math/bits.deBruijn64tab", Rows.laid_math_bits_deBruijn64tab)] w) ∧ sizedMet enc Tryd.prog Tryd.f5 (OpenSpec.ofChange Rows.pmpWritesSpec) false w args)
      (Rows.pmpWritesSpec.post enc Tryd.prog Tryd.f5 false true false false) :=
  law_lifted_laid (C := Tryd.checked) (sg := s5) (G := g5) (I := WI) (tb := 4) k5 (by kernel_rfl) rfl (by kernel_rfl) (by kernel_rfl) rfl
    (fun ds h => match ds, (h.trans (by kernel_rfl) : ds.length = 4) with | [_, _, _, _], _ => rfl)
    pmpWrites_G (fun W hW => of_laid hW) own started (by kernel_rfl) Tryd.func5
    (ChangeSpec.witness_shaped (enc := enc) (C := Tryd.checked) (os := os) (X := fun w _ => laidMetH Tryd.prog [("math/bits.deBruijn64tab", Rows.laid_math_bits_deBruijn64tab)] w) false (World.doorLaid Tryd.prog 400 os)
      #[.agg #[.int .u8 0, .int .u8 0, .int .u8 0, .int .u8 0, .int .u8 0, .int .u8 0, .int .u8 0, .int .u8 0], .agg #[.int .u64 0, .int .u64 0, .int .u64 0, .int .u64 0, .int .u64 0, .int .u64 0, .int .u64 0, .int .u64 0], .int .i64 0, .int .u64 0]
      8 rfl (World.shaped_of_RefB (by kernel_rfl) (by kernel_rfl)) (by kernel_rfl) (by kernel_rfl) (by kernel_rfl) (door_met os _))

theorem pmpWrites_holds : Rows.PmpWritesSaid :=
  OpenClaim.holds_of_wide 5 Tryd.f5 rfl rfl rfl rfl rfl rfl rfl ⟨rfl, rfl, rfl, rfl, rfl⟩ rfl rfl rfl rfl rfl (by kernel_rfl) Tryd.func5 (by kernel_rfl)
    (of_decide_eq_true (by kernel_rfl)) (by unfold Func.isWrapper; first | (rw [if_pos (by decide +kernel)]; kernel_rfl) | (rw [if_neg (by decide +kernel)]; exact ⟨rfl, rfl⟩))
    (fun os started H enc _ => pmpWrites_lifted os started H enc)

theorem pmpWrites_card : Rows.PmpWritesCardSaid :=
  Claim7.holds_tied_plain_at .later [] [.data] true (true, "ef1f2c6bd80da54ce274b70dd86cfaa167478ceca7d885b26f69ec17e7c61a66") false
    pmpWrites_holds (fun _ h => by cases h) (by kernel_rfl) (fun _ h => by cases h) pmpWrites_row_tie rfl ⟨rfl, rfl⟩ (by kernel_rfl) rfl
    (fun f fn hf hfn => by
      obtain rfl : f = 5 := Option.some.inj ((show Tryd.prog.funcNamed "tandem/tandemlaw11.PmpWrites" = some 5 by kernel_rfl).symm.trans hf) |>.symm
      obtain rfl : fn = Tryd.f5 := (Option.some.inj (Tryd.func5.symm.trans hfn)).symm
      exact ⟨by kernel_rfl, fun j t ht => by
        have hp : Tryd.f5.params = #[22, 24, 3, 23] := by kernel_rfl
        rw [hp] at ht
        have hm : t ∈ [22, 24, 3, 23] := by simpa using Array.mem_of_getElem? ht
        have hall : ([22, 24, 3, 23].all fun u => !Tryd.prog.wantsStandIn u) = true := by kernel_rfl
        exact (show Tryd.prog.wantsStandIn t = false by simpa using List.all_eq_true.1 hall t hm)⟩)
    (by kernel_rfl)
#print axioms pmpWrites_card
end Go.Proofs.YtoebecinndbnoaaDoor
