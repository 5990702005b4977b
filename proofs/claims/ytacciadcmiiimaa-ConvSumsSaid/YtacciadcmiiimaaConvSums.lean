/- ConvSums: whatever the input, the law gives true, and the input reads as it did. No condition. -/
import Derived.Test.YtacciadcmiiimaaP9
import Derived.Test.YtacciadcmiiimaaRows
namespace Go.Proofs.Ytacciadcmiiimaa
open Go Go.Sx Go.RowKit
set_option maxRecDepth 100000
theorem own19 : ownKnob Try.prog.godebug = none := by kernel_rfl
noncomputable def sh19 : List Sh := (shapesOf Try.prog Try.f19.params.toList).getD []
theorem convSums_G (xs : List DV) (h : RangeOk (sh19.flatMap Sh.lts) xs) : (s19.need = true → (dget (g19 xs) 0).toB = true) ∧ (dget (g19 xs) (if s19.need then 1 else 0)).toB = true :=
  ⟨fun _ => (law_sums (n := (dget xs 0).toI) (m := (dget xs 1).toI) (x := (dget xs 2).toI) (y := (dget xs 3).toI)).1, (law_sums (n := (dget xs 0).toI) (m := (dget xs 1).toI) (x := (dget xs 2).toI) (y := (dget xs 3).toI)).2⟩

theorem convSums_lifted (os : Os) (started : os.Started) (H : Type) (enc : TypeId × Value → H) :
    ReturnsInHanded {} Try.checked os 19 .any (Rows.convSumsSpec.pre6 enc Try.prog Try.f19 [] false) (Rows.convSumsSpec.post enc Try.prog Try.f19 false true false false) :=
  law_lifted (C := Try.checked) (fn := Try.f19) (sg := s19) (G := g19) (I := WI) (ss := sh19) (tb := (Try.f19.resultTypes.getD 0 0)) k19 (by kernel_rfl) ⟨by kernel_rfl, rfl, by kernel_rfl, rfl, rfl, rfl⟩ (by kernel_rfl) (by kernel_rfl) rfl
    (fun ds h => match ds, (h.trans (by kernel_rfl) : ds.length = 4) with | [_, _, _, _], _ => rfl)
    convSums_G (fun _ => trivial) rfl own19 started (by kernel_rfl) Try.func19
    (ChangeSpec.witness6 (enc := enc) (C := Try.checked) false ⟨#[], #[.int .i64 0, .int .i64 0, .int .i64 0, .int .i64 0], []⟩ 8 (by kernel_rfl) (by kernel_rfl) (by kernel_rfl) (by kernel_rfl))

theorem convSums_holds : Rows.ConvSumsSaid :=
  OpenClaim.holds_of_wide 19 Try.f19 rfl rfl rfl rfl rfl rfl rfl ⟨rfl, rfl, rfl, rfl, rfl⟩ rfl rfl rfl rfl rfl (by kernel_rfl) Try.func19 (by kernel_rfl)
    (of_decide_eq_true (by kernel_rfl)) (by unfold Func.isWrapper; first | (rw [if_pos (by decide +kernel)]; kernel_rfl) | (rw [if_neg (by decide +kernel)]; exact ⟨rfl, rfl⟩))
    (fun os started H enc _ => convSums_lifted os started H enc)
#print axioms convSums_holds
end Go.Proofs.Ytacciadcmiiimaa

