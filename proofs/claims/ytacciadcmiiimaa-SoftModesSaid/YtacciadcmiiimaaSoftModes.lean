/- SoftModes: whatever the input, the law gives true, and the input reads as it did. No condition. -/
import Derived.Test.YtacciadcmiiimaaN8
import Derived.Test.YtacciadcmiiimaaRows
namespace Go.Proofs.Ytacciadcmiiimaa
open Go Go.Sx Go.RowKit
set_option maxRecDepth 100000
theorem own14 : ownKnob Try.prog.godebug = none := by kernel_rfl
noncomputable def sh14 : List Sh := (shapesOf Try.prog Try.f14.params.toList).getD []
theorem softModes_G (xs : List DV) (h : RangeOk (sh14.flatMap Sh.lts) xs) : (s14.need = true → (dget (g14 xs) 0).toB = true) ∧ (dget (g14 xs) (if s14.need then 1 else 0)).toB = true :=
  ⟨fun _ => (law_modes (n := (dget xs 0).toI) (m := (dget xs 1).toI) (uOf (h.int_at 2 (by kernel_rfl))) (uOf (h.int_at 3 (by kernel_rfl))) (uOf (h.int_at 4 (by kernel_rfl)))).1, (law_modes (n := (dget xs 0).toI) (m := (dget xs 1).toI) (uOf (h.int_at 2 (by kernel_rfl))) (uOf (h.int_at 3 (by kernel_rfl))) (uOf (h.int_at 4 (by kernel_rfl)))).2⟩

theorem softModes_lifted (os : Os) (started : os.Started) (H : Type) (enc : TypeId × Value → H) :
    ReturnsInHanded {} Try.checked os 14 .any (Rows.softModesSpec.pre6 enc Try.prog Try.f14 [] false) (Rows.softModesSpec.post enc Try.prog Try.f14 false true false false) :=
  law_lifted (C := Try.checked) (fn := Try.f14) (sg := s14) (G := g14) (I := WI) (ss := sh14) (tb := (Try.f14.resultTypes.getD 0 0)) k14 (by kernel_rfl) ⟨by kernel_rfl, rfl, by kernel_rfl, rfl, rfl, rfl⟩ (by kernel_rfl) (by kernel_rfl) rfl
    (fun ds h => match ds, (h.trans (by kernel_rfl) : ds.length = 5) with | [_, _, _, _, _], _ => rfl)
    softModes_G (fun _ => trivial) rfl own14 started (by kernel_rfl) Try.func14
    (ChangeSpec.witness6 (enc := enc) (C := Try.checked) false ⟨#[], #[.int .i64 0, .int .i64 0, .int .u64 0, .int .u64 0, .int .u64 0], []⟩ 8 (by kernel_rfl) (by kernel_rfl) (by kernel_rfl) (by kernel_rfl))

theorem softModes_holds : Rows.SoftModesSaid :=
  OpenClaim.holds_of_wide 14 Try.f14 rfl rfl rfl rfl rfl rfl rfl ⟨rfl, rfl, rfl, rfl, rfl⟩ rfl rfl rfl rfl rfl (by kernel_rfl) Try.func14 (by kernel_rfl)
    (of_decide_eq_true (by kernel_rfl)) (by unfold Func.isWrapper; first | (rw [if_pos (by decide +kernel)]; kernel_rfl) | (rw [if_neg (by decide +kernel)]; exact ⟨rfl, rfl⟩))
    (fun os started H enc _ => softModes_lifted os started H enc)
#print axioms softModes_holds
end Go.Proofs.Ytacciadcmiiimaa

