/- ConvBack: whatever the input, the law gives true, and the input reads as it did. No condition. -/
import Derived.Test.YtacciadcmiiimaaCvG
import Derived.Test.YtacciadcmiiimaaSyRow
import Derived.Test.YtacciadcmiiimaaRows
namespace Go.Proofs.Ytacciadcmiiimaa
open Go Go.Sx Go.RowKit
set_option maxRecDepth 100000
theorem own8 : ownKnob Try.prog.godebug = none := by kernel_rfl
noncomputable def sh8 : List Sh := (shapesOf Try.prog Try.f8.params.toList).getD []
theorem convBack_G (xs : List DV) (h : RangeOk (sh8.flatMap Sh.lts) xs) : (s8.need = true → (dget (g8 xs) 0).toB = true) ∧ (dget (g8 xs) (if s8.need then 1 else 0)).toB = true :=
  ⟨fun _ => (conv_back (x0 := (dget xs 0).toI) (x1 := (dget xs 1).toB) (x2 := (dget xs 2).toB) (uOf (h.int_at 3 (by kernel_rfl))) (uOf (h.int_at 4 (by kernel_rfl)))).1, (conv_back (x0 := (dget xs 0).toI) (x1 := (dget xs 1).toB) (x2 := (dget xs 2).toB) (uOf (h.int_at 3 (by kernel_rfl))) (uOf (h.int_at 4 (by kernel_rfl)))).2⟩

theorem convBack_lifted (os : Os) (started : os.Started) (H : Type) (enc : TypeId × Value → H) :
    ReturnsInHanded {} Try.checked os 8 .any (Rows.convBackSpec.pre6 enc Try.prog Try.f8 [] false) (Rows.convBackSpec.post enc Try.prog Try.f8 false true false false) :=
  law_lifted (C := Try.checked) (fn := Try.f8) (sg := s8) (G := g8) (I := WI) (ss := sh8) (tb := (Try.f8.resultTypes.getD 0 0)) k8 (by kernel_rfl) ⟨by kernel_rfl, rfl, by kernel_rfl, rfl, rfl, rfl⟩ (by kernel_rfl) (by kernel_rfl) rfl
    (fun ds h => match ds, (h.trans (by kernel_rfl) : ds.length = 5) with | [_, _, _, _, _], _ => rfl)
    convBack_G (fun _ => trivial) rfl own8 started (by kernel_rfl) Try.func8
    (ChangeSpec.witness6 (enc := enc) (C := Try.checked) false ⟨#[], #[.int .i64 0, .bool false, .bool false, .int .u64 0, .int .u64 0], []⟩ 8 (by kernel_rfl) (by kernel_rfl) (by kernel_rfl) (by kernel_rfl))

theorem convBack_holds : Rows.ConvBackSaid :=
  OpenClaim.holds_of_wide 8 Try.f8 rfl rfl rfl rfl rfl rfl rfl ⟨rfl, rfl, rfl, rfl, rfl⟩ rfl rfl rfl rfl rfl (by kernel_rfl) Try.func8 (by kernel_rfl)
    (of_decide_eq_true (by kernel_rfl)) (by unfold Func.isWrapper; first | (rw [if_pos (by decide +kernel)]; kernel_rfl) | (rw [if_neg (by decide +kernel)]; exact ⟨rfl, rfl⟩))
    (fun os started H enc _ => convBack_lifted os started H enc)
#print axioms convBack_holds
end Go.Proofs.Ytacciadcmiiimaa
