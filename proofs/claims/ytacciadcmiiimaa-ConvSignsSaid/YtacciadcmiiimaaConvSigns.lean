/- ConvSigns: whatever the input, the law gives true, and the input reads as it did. No condition. -/
import Derived.Test.YtacciadcmiiimaaCvC
import Derived.Test.YtacciadcmiiimaaSyRow
import Derived.Test.YtacciadcmiiimaaRows
namespace Go.Proofs.Ytacciadcmiiimaa
open Go Go.Sx Go.RowKit
set_option maxRecDepth 100000
theorem own6 : ownKnob Try.prog.godebug = none := by kernel_rfl
noncomputable def sh6 : List Sh := (shapesOf Try.prog Try.f6.params.toList).getD []
theorem convSigns_G (xs : List DV) (h : RangeOk (sh6.flatMap Sh.lts) xs) : (s6.need = true → (dget (g6 xs) 0).toB = true) ∧ (dget (g6 xs) (if s6.need then 1 else 0)).toB = true :=
  ⟨fun _ => (conv_signs (uOf (h.int_at 2 (by kernel_rfl))) (uOf (h.int_at 3 (by kernel_rfl)))).1, (conv_signs (uOf (h.int_at 2 (by kernel_rfl))) (uOf (h.int_at 3 (by kernel_rfl)))).2⟩

theorem convSigns_lifted (os : Os) (started : os.Started) (H : Type) (enc : TypeId × Value → H) :
    ReturnsInHanded {} Try.checked os 6 .any (Rows.convSignsSpec.pre6 enc Try.prog Try.f6 [] false) (Rows.convSignsSpec.post enc Try.prog Try.f6 false true false false) :=
  law_lifted (C := Try.checked) (fn := Try.f6) (sg := s6) (G := g6) (I := WI) (ss := sh6) (tb := (Try.f6.resultTypes.getD 0 0)) k6 (by kernel_rfl) ⟨by kernel_rfl, rfl, by kernel_rfl, rfl, rfl, rfl⟩ (by kernel_rfl) (by kernel_rfl) rfl
    (fun ds h => match ds, (h.trans (by kernel_rfl) : ds.length = 4) with | [_, _, _, _], _ => rfl)
    convSigns_G (fun _ => trivial) rfl own6 started (by kernel_rfl) Try.func6
    (ChangeSpec.witness6 (enc := enc) (C := Try.checked) false ⟨#[], #[.int .i64 0, .int .i64 0, .int .u64 0, .int .u64 0], []⟩ 8 (by kernel_rfl) (by kernel_rfl) (by kernel_rfl) (by kernel_rfl))

theorem convSigns_holds : Rows.ConvSignsSaid :=
  OpenClaim.holds_of_wide 6 Try.f6 rfl rfl rfl rfl rfl rfl rfl ⟨rfl, rfl, rfl, rfl, rfl⟩ rfl rfl rfl rfl rfl (by kernel_rfl) Try.func6 (by kernel_rfl)
    (of_decide_eq_true (by kernel_rfl)) (by unfold Func.isWrapper; first | (rw [if_pos (by decide +kernel)]; kernel_rfl) | (rw [if_neg (by decide +kernel)]; exact ⟨rfl, rfl⟩))
    (fun os started H enc _ => convSigns_lifted os started H enc)
#print axioms convSigns_holds
end Go.Proofs.Ytacciadcmiiimaa
