/- SoftFits: whatever the input, the law gives true, and the input reads as it did. No condition. -/
import Derived.Test.YtacciadcmiiimaaN8
import Derived.Test.YtacciadcmiiimaaRows
namespace Go.Proofs.Ytacciadcmiiimaa
open Go Go.Sx Go.RowKit
set_option maxRecDepth 100000
theorem own15 : ownKnob Try.prog.godebug = none := by kernel_rfl
noncomputable def sh15 : List Sh := (shapesOf Try.prog Try.f15.params.toList).getD []
theorem softFits_G (xs : List DV) (h : RangeOk (sh15.flatMap Sh.lts) xs) : (s15.need = true → (dget (g15 xs) 0).toB = true) ∧ (dget (g15 xs) (if s15.need then 1 else 0)).toB = true :=
  ⟨fun _ => (law_fits (n := (dget xs 0).toI) (m := (dget xs 1).toI) (uOf (h.int_at 2 (by kernel_rfl))) (uOf (h.int_at 3 (by kernel_rfl)))).1, (law_fits (n := (dget xs 0).toI) (m := (dget xs 1).toI) (uOf (h.int_at 2 (by kernel_rfl))) (uOf (h.int_at 3 (by kernel_rfl)))).2⟩

theorem softFits_lifted (os : Os) (started : os.Started) (H : Type) (enc : TypeId × Value → H) :
    ReturnsInHanded {} Try.checked os 15 .any (Rows.softFitsSpec.pre6 enc Try.prog Try.f15 [] false) (Rows.softFitsSpec.post enc Try.prog Try.f15 false true false false) :=
  law_lifted (C := Try.checked) (fn := Try.f15) (sg := s15) (G := g15) (I := WI) (ss := sh15) (tb := (Try.f15.resultTypes.getD 0 0)) k15 (by kernel_rfl) ⟨by kernel_rfl, rfl, by kernel_rfl, rfl, rfl, rfl⟩ (by kernel_rfl) (by kernel_rfl) rfl
    (fun ds h => match ds, (h.trans (by kernel_rfl) : ds.length = 4) with | [_, _, _, _], _ => rfl)
    softFits_G (fun _ => trivial) rfl own15 started (by kernel_rfl) Try.func15
    (ChangeSpec.witness6 (enc := enc) (C := Try.checked) false ⟨#[], #[.int .i64 0, .int .i64 0, .int .u64 0, .int .u64 0], []⟩ 8 (by kernel_rfl) (by kernel_rfl) (by kernel_rfl) (by kernel_rfl))

theorem softFits_holds : Rows.SoftFitsSaid :=
  OpenClaim.holds_of_wide 15 Try.f15 rfl rfl rfl rfl rfl rfl rfl ⟨rfl, rfl, rfl, rfl, rfl⟩ rfl rfl rfl rfl rfl (by kernel_rfl) Try.func15 (by kernel_rfl)
    (of_decide_eq_true (by kernel_rfl)) (by unfold Func.isWrapper; first | (rw [if_pos (by decide +kernel)]; kernel_rfl) | (rw [if_neg (by decide +kernel)]; exact ⟨rfl, rfl⟩))
    (fun os started H enc _ => softFits_lifted os started H enc)
#print axioms softFits_holds
end Go.Proofs.Ytacciadcmiiimaa

