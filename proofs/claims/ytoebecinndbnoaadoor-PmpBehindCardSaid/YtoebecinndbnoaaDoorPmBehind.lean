/- PmpBehind: the row's statement, and its card. -/
import Derived.Test.YtoebecinndbnoaaDoorPmX
import Derived.Test.YtoebecinndbnoaaDoorPmC
namespace Go.Proofs.YtoebecinndbnoaaDoor
open Go Go.Sx Go.RowKit
set_option maxRecDepth 100000
theorem R8_of {n : Int} (h : (Lit.int .u8 n).wf = true) : R8 n := by
  simp only [Lit.wf, IntKind.min, IntKind.max, IntKind.signed, IntKind.bits, Bool.and_eq_true] at h
  exact ⟨by simpa using h.1, by have := h.2; simp at this; omega⟩
theorem R64_of {n : Int} (h : (Lit.int .u64 n).wf = true) : R64 n := by
  simp only [Lit.wf, IntKind.min, IntKind.max, IntKind.signed, IntKind.bits, Bool.and_eq_true] at h
  exact ⟨by simpa using h.1, by have := h.2; simp at this; omega⟩


theorem pmpBehind_G (xs : List DV) (h : RangeOk (s6.ps.flatMap Sh.lts) xs) : (s6.need = true → (dget (g6 xs) 0).toB = true) ∧ (dget (g6 xs) (if s6.need then 1 else 0)).toB = true :=
  ⟨fun _ => behind_p (R64_of (h.int_at 8 rfl)) (R64_of (h.int_at 9 rfl)) (R64_of (h.int_at 10 rfl)) (R64_of (h.int_at 11 rfl)) (R64_of (h.int_at 12 rfl)) (R64_of (h.int_at 13 rfl)) (R64_of (h.int_at 14 rfl)) (R64_of (h.int_at 15 rfl)) (R64_of (h.int_at 25 rfl)) (R64_of (h.int_at 26 rfl)) (R64_of (h.int_at 27 rfl)) (R64_of (h.int_at 28 rfl)) (R64_of (h.int_at 29 rfl)) (R64_of (h.int_at 30 rfl)) (R64_of (h.int_at 31 rfl)), behind_ok (R64_of (h.int_at 34 rfl)).1⟩

theorem pmpBehind_lifted (os : Os) (started : os.Started) (H : Type) (enc : TypeId × Value → H) :
    ReturnsInHanded {} Tryd.checked os 6 .any (fun w args => (Rows.pmpBehindSpec.pre enc Tryd.prog Tryd.f6 [] false w args ∧ laidMetH Tryd.prog [("math/bits.deBruijn64tab", Rows.laid_math_bits_deBruijn64tab)] w) ∧ sizedMet enc Tryd.prog Tryd.f6 (OpenSpec.ofChange Rows.pmpBehindSpec) false w args)
      (Rows.pmpBehindSpec.post enc Tryd.prog Tryd.f6 false true false false) :=
  law_lifted_laid (C := Tryd.checked) (sg := s6) (G := g6) (I := WI) (tb := 4) k6 (by kernel_rfl) rfl (by kernel_rfl) (by kernel_rfl) rfl
    (fun ds h => match ds, (h.trans (by kernel_rfl) : ds.length = 8) with | [_, _, _, _, _, _, _, _], _ => rfl)
    pmpBehind_G (fun W hW => of_laid hW) own started (by kernel_rfl) Tryd.func6
    (ChangeSpec.witness_shaped (enc := enc) (C := Tryd.checked) (os := os) (X := fun w _ => laidMetH Tryd.prog [("math/bits.deBruijn64tab", Rows.laid_math_bits_deBruijn64tab)] w) false (World.doorLaid Tryd.prog 400 os)
      #[.agg #[.int .u8 0, .int .u8 0, .int .u8 0, .int .u8 0, .int .u8 0, .int .u8 0, .int .u8 0, .int .u8 0], .agg #[.int .u64 0, .int .u64 0, .int .u64 0, .int .u64 0, .int .u64 0, .int .u64 0, .int .u64 0, .int .u64 0], .agg #[.int .u8 0, .int .u8 0, .int .u8 0, .int .u8 0, .int .u8 0, .int .u8 0, .int .u8 0, .int .u8 0], .agg #[.int .u64 0, .int .u64 0, .int .u64 0, .int .u64 0, .int .u64 0, .int .u64 0, .int .u64 0, .int .u64 0], .int .i64 0, .int .i64 0, .int .u64 0, .int .i64 0]
      8 rfl (World.shaped_of_RefB (by kernel_rfl) (by kernel_rfl)) (by kernel_rfl) (by kernel_rfl) (by kernel_rfl) (door_met os _))

theorem pmpBehind_holds : Rows.PmpBehindSaid :=
  OpenClaim.holds_of_wide 6 Tryd.f6 rfl rfl rfl rfl rfl rfl rfl ⟨rfl, rfl, rfl, rfl, rfl⟩ rfl rfl rfl rfl rfl (by kernel_rfl) Tryd.func6 (by kernel_rfl)
    (of_decide_eq_true (by kernel_rfl)) (by unfold Func.isWrapper; first | (rw [if_pos (by decide +kernel)]; kernel_rfl) | (rw [if_neg (by decide +kernel)]; exact ⟨rfl, rfl⟩))
    (fun os started H enc _ => pmpBehind_lifted os started H enc)

theorem pmpBehind_card : Rows.PmpBehindCardSaid :=
  Claim7.holds_tied_plain_at .later [] [.data] true (true, "ef1f2c6bd80da54ce274b70dd86cfaa167478ceca7d885b26f69ec17e7c61a66") false
    pmpBehind_holds (fun _ h => by cases h) (by kernel_rfl) (fun _ h => by cases h) pmpBehind_row_tie rfl ⟨rfl, rfl⟩ (by kernel_rfl) rfl
    (fun f fn hf hfn => by
      obtain rfl : f = 6 := Option.some.inj ((show Tryd.prog.funcNamed Rows.pmpBehindRow.func = some 6 by kernel_rfl).symm.trans hf) |>.symm
      obtain rfl : fn = Tryd.f6 := (Option.some.inj (Tryd.func6.symm.trans hfn)).symm
      exact ⟨by kernel_rfl, fun j t ht => by
        have hp : Tryd.f6.params = #[22, 24, 22, 24, 3, 3, 23, 3] := by kernel_rfl
        rw [hp] at ht
        have hm : t ∈ [22, 24, 22, 24, 3, 3, 23, 3] := by simpa using Array.mem_of_getElem? ht
        have hall : ([22, 24, 22, 24, 3, 3, 23, 3].all fun u => !Tryd.prog.wantsStandIn u) = true := by kernel_rfl
        exact (show Tryd.prog.wantsStandIn t = false by simpa using List.all_eq_true.1 hall t hm)⟩)
    (by kernel_rfl)
#print axioms pmpBehind_card
end Go.Proofs.YtoebecinndbnoaaDoor
