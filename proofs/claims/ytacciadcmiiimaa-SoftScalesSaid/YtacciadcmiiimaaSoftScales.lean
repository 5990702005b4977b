/- SoftScales: whatever the input, the law gives true, and the input reads as it did. No condition. -/
import Derived.Test.YtacciadcmiiimaaP8
import Derived.Test.YtacciadcmiiimaaP9
import Derived.Test.YtacciadcmiiimaaRows
namespace Go.Proofs.Ytacciadcmiiimaa
open Go Go.Sx Go.RowKit
set_option maxRecDepth 100000
theorem own16 : ownKnob Try.prog.godebug = none := by kernel_rfl
noncomputable def sh16 : List Sh := (shapesOf Try.prog Try.f16.params.toList).getD []
theorem softScales_G (xs : List DV) (h : RangeOk (sh16.flatMap Sh.lts) xs) : (s16.need = true → (dget (g16 xs) 0).toB = true) ∧ (dget (g16 xs) (if s16.need then 1 else 0)).toB = true :=
  ⟨fun _ => (law_scales (n := (dget xs 0).toI) (m := (dget xs 1).toI) (by_ := (dget xs 2).toI) (uOf (h.int_at 3 (by kernel_rfl))) (uOf (h.int_at 4 (by kernel_rfl)))).1, (law_scales (n := (dget xs 0).toI) (m := (dget xs 1).toI) (by_ := (dget xs 2).toI) (uOf (h.int_at 3 (by kernel_rfl))) (uOf (h.int_at 4 (by kernel_rfl)))).2⟩

theorem softScales_lifted (os : Os) (started : os.Started) (H : Type) (enc : TypeId × Value → H) :
    ReturnsInHanded {} Try.checked os 16 .any (Rows.softScalesSpec.pre6 enc Try.prog Try.f16 [] false) (Rows.softScalesSpec.post enc Try.prog Try.f16 false true false false) :=
  law_lifted (C := Try.checked) (fn := Try.f16) (sg := s16) (G := g16) (I := WI) (ss := sh16) (tb := (Try.f16.resultTypes.getD 0 0)) k16 (by kernel_rfl) ⟨by kernel_rfl, rfl, by kernel_rfl, rfl, rfl, rfl⟩ (by kernel_rfl) (by kernel_rfl) rfl
    (fun ds h => match ds, (h.trans (by kernel_rfl) : ds.length = 5) with | [_, _, _, _, _], _ => rfl)
    softScales_G (fun _ => trivial) rfl own16 started (by kernel_rfl) Try.func16
    (ChangeSpec.witness6 (enc := enc) (C := Try.checked) false ⟨#[], #[.int .i64 0, .int .i64 0, .int .i64 0, .int .u64 0, .int .u64 0], []⟩ 8 (by kernel_rfl) (by kernel_rfl) (by kernel_rfl) (by kernel_rfl))

theorem softScales_holds : Rows.SoftScalesSaid :=
  OpenClaim.holds_of_wide 16 Try.f16 rfl rfl rfl rfl rfl rfl rfl ⟨rfl, rfl, rfl, rfl, rfl⟩ rfl rfl rfl rfl rfl (by kernel_rfl) Try.func16 (by kernel_rfl)
    (of_decide_eq_true (by kernel_rfl)) (by unfold Func.isWrapper; first | (rw [if_pos (by decide +kernel)]; kernel_rfl) | (rw [if_neg (by decide +kernel)]; exact ⟨rfl, rfl⟩))
    (fun os started H enc _ => softScales_lifted os started H enc)
#print axioms softScales_holds
end Go.Proofs.Ytacciadcmiiimaa

