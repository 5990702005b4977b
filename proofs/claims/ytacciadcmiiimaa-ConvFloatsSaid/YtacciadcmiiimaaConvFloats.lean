/- ConvFloats: whatever the input, the law gives true, and the input reads as it did. No condition. -/
import Derived.Test.YtacciadcmiiimaaC7
import Derived.Test.YtacciadcmiiimaaC8
import Derived.Test.YtacciadcmiiimaaRows
namespace Go.Proofs.Ytacciadcmiiimaa
open Go Go.Sx Go.RowKit
set_option maxRecDepth 100000
theorem own5 : ownKnob Try.prog.godebug = none := by kernel_rfl
noncomputable def sh5 : List Sh := (shapesOf Try.prog Try.f5.params.toList).getD []
theorem convFloats_G (xs : List DV) (h : RangeOk (sh5.flatMap Sh.lts) xs) : (s5.need = true → (dget (g5 xs) 0).toB = true) ∧ (dget (g5 xs) (if s5.need then 1 else 0)).toB = true :=
  ⟨fun _ => (law_floats (s := (dget xs 0).toI) (rm := (dget xs 1).toI) (uOfC (h.int_at 2 (by kernel_rfl)))).1, (law_floats (s := (dget xs 0).toI) (rm := (dget xs 1).toI) (uOfC (h.int_at 2 (by kernel_rfl)))).2⟩

theorem convFloats_lifted (os : Os) (started : os.Started) (H : Type) (enc : TypeId × Value → H) :
    ReturnsInHanded {} Try.checked os 5 .any (Rows.convFloatsSpec.pre6 enc Try.prog Try.f5 [] false) (Rows.convFloatsSpec.post enc Try.prog Try.f5 false true false false) :=
  law_lifted (C := Try.checked) (fn := Try.f5) (sg := s5) (G := g5) (I := WI) (ss := sh5) (tb := (Try.f5.resultTypes.getD 0 0)) k5 (by kernel_rfl) ⟨by kernel_rfl, rfl, by kernel_rfl, rfl, rfl, rfl⟩ (by kernel_rfl) (by kernel_rfl) rfl
    (fun ds h => match ds, (h.trans (by kernel_rfl) : ds.length = 3) with | [_, _, _], _ => rfl)
    convFloats_G (fun _ => trivial) rfl own5 started (by kernel_rfl) Try.func5
    (ChangeSpec.witness6 (enc := enc) (C := Try.checked) false ⟨#[], #[.int .i64 0, .int .i64 0, .int .u64 0], []⟩ 8 (by kernel_rfl) (by kernel_rfl) (by kernel_rfl) (by kernel_rfl))

theorem convFloats_holds : Rows.ConvFloatsSaid :=
  OpenClaim.holds_of_wide 5 Try.f5 rfl rfl rfl rfl rfl rfl rfl ⟨rfl, rfl, rfl, rfl, rfl⟩ rfl rfl rfl rfl rfl (by kernel_rfl) Try.func5 (by kernel_rfl)
    (of_decide_eq_true (by kernel_rfl)) (by unfold Func.isWrapper; first | (rw [if_pos (by decide +kernel)]; kernel_rfl) | (rw [if_neg (by decide +kernel)]; exact ⟨rfl, rfl⟩))
    (fun os started H enc _ => convFloats_lifted os started H enc)
#print axioms convFloats_holds
end Go.Proofs.Ytacciadcmiiimaa

