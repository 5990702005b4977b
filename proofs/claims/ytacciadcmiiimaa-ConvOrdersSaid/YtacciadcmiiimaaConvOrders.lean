/- ConvOrders: whatever the input, the law gives true, and the input reads as it did. No condition. -/
import Derived.Test.YtacciadcmiiimaaCvD
import Derived.Test.YtacciadcmiiimaaSyRow
import Derived.Test.YtacciadcmiiimaaRows
namespace Go.Proofs.Ytacciadcmiiimaa
open Go Go.Sx Go.RowKit
set_option maxRecDepth 100000
theorem own9 : ownKnob Try.prog.godebug = none := by kernel_rfl
noncomputable def sh9 : List Sh := (shapesOf Try.prog Try.f9.params.toList).getD []
theorem convOrders_G (xs : List DV) (h : RangeOk (sh9.flatMap Sh.lts) xs) : (s9.need = true → (dget (g9 xs) 0).toB = true) ∧ (dget (g9 xs) (if s9.need then 1 else 0)).toB = true :=
  ⟨fun _ => (conv_orders (uOf (h.int_at 1 (by kernel_rfl))) (uOf (h.int_at 2 (by kernel_rfl)))).1, (conv_orders (uOf (h.int_at 1 (by kernel_rfl))) (uOf (h.int_at 2 (by kernel_rfl)))).2⟩

theorem convOrders_lifted (os : Os) (started : os.Started) (H : Type) (enc : TypeId × Value → H) :
    ReturnsInHanded {} Try.checked os 9 .any (Rows.convOrdersSpec.pre6 enc Try.prog Try.f9 [] false) (Rows.convOrdersSpec.post enc Try.prog Try.f9 false true false false) :=
  law_lifted (C := Try.checked) (fn := Try.f9) (sg := s9) (G := g9) (I := WI) (ss := sh9) (tb := (Try.f9.resultTypes.getD 0 0)) k9 (by kernel_rfl) ⟨by kernel_rfl, rfl, by kernel_rfl, rfl, rfl, rfl⟩ (by kernel_rfl) (by kernel_rfl) rfl
    (fun ds h => match ds, (h.trans (by kernel_rfl) : ds.length = 3) with | [_, _, _], _ => rfl)
    convOrders_G (fun _ => trivial) rfl own9 started (by kernel_rfl) Try.func9
    (ChangeSpec.witness6 (enc := enc) (C := Try.checked) false ⟨#[], #[.int .i64 0, .int .u64 0, .int .u64 0], []⟩ 8 (by kernel_rfl) (by kernel_rfl) (by kernel_rfl) (by kernel_rfl))

theorem convOrders_holds : Rows.ConvOrdersSaid :=
  OpenClaim.holds_of_wide 9 Try.f9 rfl rfl rfl rfl rfl rfl rfl ⟨rfl, rfl, rfl, rfl, rfl⟩ rfl rfl rfl rfl rfl (by kernel_rfl) Try.func9 (by kernel_rfl)
    (of_decide_eq_true (by kernel_rfl)) (by unfold Func.isWrapper; first | (rw [if_pos (by decide +kernel)]; kernel_rfl) | (rw [if_neg (by decide +kernel)]; exact ⟨rfl, rfl⟩))
    (fun os started H enc _ => convOrders_lifted os started H enc)
#print axioms convOrders_holds
end Go.Proofs.Ytacciadcmiiimaa
