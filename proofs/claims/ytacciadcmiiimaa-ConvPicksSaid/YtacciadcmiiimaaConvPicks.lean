/- ConvPicks: whatever the input, the law gives true, and the input reads as it did. No condition. -/
import Derived.Test.YtacciadcmiiimaaCvC
import Derived.Test.YtacciadcmiiimaaSyRow
import Derived.Test.YtacciadcmiiimaaRows
namespace Go.Proofs.Ytacciadcmiiimaa
open Go Go.Sx Go.RowKit
set_option maxRecDepth 100000
theorem own7 : ownKnob Try.prog.godebug = none := by kernel_rfl
noncomputable def sh7 : List Sh := (shapesOf Try.prog Try.f7.params.toList).getD []
theorem convPicks_G (xs : List DV) (h : RangeOk (sh7.flatMap Sh.lts) xs) : (s7.need = true → (dget (g7 xs) 0).toB = true) ∧ (dget (g7 xs) (if s7.need then 1 else 0)).toB = true :=
  ⟨fun _ => (conv_picks (uOf (h.int_at 2 (by kernel_rfl))) (uOf (h.int_at 3 (by kernel_rfl)))).1, (conv_picks (uOf (h.int_at 2 (by kernel_rfl))) (uOf (h.int_at 3 (by kernel_rfl)))).2⟩

theorem convPicks_lifted (os : Os) (started : os.Started) (H : Type) (enc : TypeId × Value → H) :
    ReturnsInHanded {} Try.checked os 7 .any (Rows.convPicksSpec.pre6 enc Try.prog Try.f7 [] false) (Rows.convPicksSpec.post enc Try.prog Try.f7 false true false false) :=
  law_lifted (C := Try.checked) (fn := Try.f7) (sg := s7) (G := g7) (I := WI) (ss := sh7) (tb := (Try.f7.resultTypes.getD 0 0)) k7 (by kernel_rfl) ⟨by kernel_rfl, rfl, by kernel_rfl, rfl, rfl, rfl⟩ (by kernel_rfl) (by kernel_rfl) rfl
    (fun ds h => match ds, (h.trans (by kernel_rfl) : ds.length = 4) with | [_, _, _, _], _ => rfl)
    convPicks_G (fun _ => trivial) rfl own7 started (by kernel_rfl) Try.func7
    (ChangeSpec.witness6 (enc := enc) (C := Try.checked) false ⟨#[], #[.int .i64 0, .int .i64 0, .int .u64 0, .int .u64 0], []⟩ 8 (by kernel_rfl) (by kernel_rfl) (by kernel_rfl) (by kernel_rfl))

theorem convPicks_holds : Rows.ConvPicksSaid :=
  OpenClaim.holds_of_wide 7 Try.f7 rfl rfl rfl rfl rfl rfl rfl ⟨rfl, rfl, rfl, rfl, rfl⟩ rfl rfl rfl rfl rfl (by kernel_rfl) Try.func7 (by kernel_rfl)
    (of_decide_eq_true (by kernel_rfl)) (by unfold Func.isWrapper; first | (rw [if_pos (by decide +kernel)]; kernel_rfl) | (rw [if_neg (by decide +kernel)]; exact ⟨rfl, rfl⟩))
    (fun os started H enc _ => convPicks_lifted os started H enc)
#print axioms convPicks_holds
end Go.Proofs.Ytacciadcmiiimaa
