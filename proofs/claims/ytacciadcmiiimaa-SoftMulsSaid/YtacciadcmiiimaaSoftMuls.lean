/- SoftMuls: whatever the input, the law gives true, and the input reads as it did. No condition. -/
import Derived.Test.YtacciadcmiiimaaM10
import Derived.Test.YtacciadcmiiimaaRows
namespace Go.Proofs.Ytacciadcmiiimaa
open Go Go.Sx Go.RowKit
set_option maxRecDepth 100000
theorem own10 : ownKnob Try.prog.godebug = none := by kernel_rfl
noncomputable def sh10 : List Sh := (shapesOf Try.prog Try.f10.params.toList).getD []
theorem softMuls_G (xs : List DV) (h : RangeOk (sh10.flatMap Sh.lts) xs) : (s10.need = true → (dget (g10 xs) 0).toB = true) ∧ (dget (g10 xs) (if s10.need then 1 else 0)).toB = true :=
  ⟨fun _ => (law_muls (s := (dget xs 0).toI) (rm := (dget xs 1).toI) (uOf (h.int_at 2 (by kernel_rfl))) (uOf (h.int_at 3 (by kernel_rfl)))).1, (law_muls (s := (dget xs 0).toI) (rm := (dget xs 1).toI) (uOf (h.int_at 2 (by kernel_rfl))) (uOf (h.int_at 3 (by kernel_rfl)))).2⟩

theorem softMuls_lifted (os : Os) (started : os.Started) (H : Type) (enc : TypeId × Value → H) :
    ReturnsInHanded {} Try.checked os 10 .any (Rows.softMulsSpec.pre6 enc Try.prog Try.f10 [] false) (Rows.softMulsSpec.post enc Try.prog Try.f10 false true false false) :=
  law_lifted (C := Try.checked) (fn := Try.f10) (sg := s10) (G := g10) (I := WI) (ss := sh10) (tb := (Try.f10.resultTypes.getD 0 0)) k10 (by kernel_rfl) ⟨by kernel_rfl, rfl, by kernel_rfl, rfl, rfl, rfl⟩ (by kernel_rfl) (by kernel_rfl) rfl
    (fun ds h => match ds, (h.trans (by kernel_rfl) : ds.length = 4) with | [_, _, _, _], _ => rfl)
    softMuls_G (fun _ => trivial) rfl own10 started (by kernel_rfl) Try.func10
    (ChangeSpec.witness6 (enc := enc) (C := Try.checked) false ⟨#[], #[.int .i64 0, .int .i64 0, .int .u64 0, .int .u64 0], []⟩ 8 (by kernel_rfl) (by kernel_rfl) (by kernel_rfl) (by kernel_rfl))

theorem softMuls_holds : Rows.SoftMulsSaid :=
  OpenClaim.holds_of_wide 10 Try.f10 rfl rfl rfl rfl rfl rfl rfl ⟨rfl, rfl, rfl, rfl, rfl⟩ rfl rfl rfl rfl rfl (by kernel_rfl) Try.func10 (by kernel_rfl)
    (of_decide_eq_true (by kernel_rfl)) (by unfold Func.isWrapper; first | (rw [if_pos (by decide +kernel)]; kernel_rfl) | (rw [if_neg (by decide +kernel)]; exact ⟨rfl, rfl⟩))
    (fun os started H enc _ => softMuls_lifted os started H enc)
#print axioms softMuls_holds
end Go.Proofs.Ytacciadcmiiimaa

