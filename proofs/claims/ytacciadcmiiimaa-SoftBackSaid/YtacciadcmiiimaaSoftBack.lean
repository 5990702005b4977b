/- SoftBack: whatever the input, the law gives true, and the input reads as it did. No condition. -/
import Derived.Test.YtacciadcmiiimaaN8
import Derived.Test.YtacciadcmiiimaaRows
namespace Go.Proofs.Ytacciadcmiiimaa
open Go Go.Sx Go.RowKit
set_option maxRecDepth 100000
theorem own18 : ownKnob Try.prog.godebug = none := by kernel_rfl
noncomputable def sh18 : List Sh := (shapesOf Try.prog Try.f18.params.toList).getD []
theorem softBack_G (xs : List DV) (h : RangeOk (sh18.flatMap Sh.lts) xs) : (s18.need = true → (dget (g18 xs) 0).toB = true) ∧ (dget (g18 xs) (if s18.need then 1 else 0)).toB = true :=
  ⟨fun _ => (law_back (n := (dget xs 0).toI) (m := (dget xs 1).toI) (uOf (h.int_at 2 (by kernel_rfl))) (uOf (h.int_at 3 (by kernel_rfl)))).1, (law_back (n := (dget xs 0).toI) (m := (dget xs 1).toI) (uOf (h.int_at 2 (by kernel_rfl))) (uOf (h.int_at 3 (by kernel_rfl)))).2⟩

theorem softBack_lifted (os : Os) (started : os.Started) (H : Type) (enc : TypeId × Value → H) :
    ReturnsInHanded {} Try.checked os 18 .any (Rows.softBackSpec.pre6 enc Try.prog Try.f18 [] false) (Rows.softBackSpec.post enc Try.prog Try.f18 false true false false) :=
  law_lifted (C := Try.checked) (fn := Try.f18) (sg := s18) (G := g18) (I := WI) (ss := sh18) (tb := (Try.f18.resultTypes.getD 0 0)) k18 (by kernel_rfl) ⟨by kernel_rfl, rfl, by kernel_rfl, rfl, rfl, rfl⟩ (by kernel_rfl) (by kernel_rfl) rfl
    (fun ds h => match ds, (h.trans (by kernel_rfl) : ds.length = 4) with | [_, _, _, _], _ => rfl)
    softBack_G (fun _ => trivial) rfl own18 started (by kernel_rfl) Try.func18
    (ChangeSpec.witness6 (enc := enc) (C := Try.checked) false ⟨#[], #[.int .i64 0, .int .i64 0, .int .u64 0, .int .u64 0], []⟩ 8 (by kernel_rfl) (by kernel_rfl) (by kernel_rfl) (by kernel_rfl))

theorem softBack_holds : Rows.SoftBackSaid :=
  OpenClaim.holds_of_wide 18 Try.f18 rfl rfl rfl rfl rfl rfl rfl ⟨rfl, rfl, rfl, rfl, rfl⟩ rfl rfl rfl rfl rfl (by kernel_rfl) Try.func18 (by kernel_rfl)
    (of_decide_eq_true (by kernel_rfl)) (by unfold Func.isWrapper; first | (rw [if_pos (by decide +kernel)]; kernel_rfl) | (rw [if_neg (by decide +kernel)]; exact ⟨rfl, rfl⟩))
    (fun os started H enc _ => softBack_lifted os started H enc)
#print axioms softBack_holds
end Go.Proofs.Ytacciadcmiiimaa

