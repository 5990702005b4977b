/- PlicRanks: whatever the input, the law gives true, and the input reads as it did. No condition. -/
import Derived.Test.YthlbgkhbebffaaaR8
import Derived.Test.YthlbgkhbebffaaaR9
import Derived.Test.YthlbgkhbebffaaaRows
namespace Go.Proofs.Ythlbgkhbebffaaa
open Go Go.Sx Go.RowKit
set_option maxRecDepth 100000
theorem own4 : ownKnob Try.prog.godebug = none := by kernel_rfl
noncomputable def sh4 : List Sh := (shapesOf Try.prog Try.f4.params.toList).getD []
theorem plicRanks_G (xs : List DV) (h : RangeOk (sh4.flatMap Sh.lts) xs) : (s4.need = true → (dget (g4 xs) 0).toB = true) ∧ (dget (g4 xs) (if s4.need then 1 else 0)).toB = true :=
  ⟨fun _ => (law_ranks (ranks := (dget xs 0).toI) (lines := (dget xs 1).toI) (on := (dget xs 2).toI) (bar := (dget xs 3).toI) (uOf (h.int_at 4 (by kernel_rfl)))).1, (law_ranks (ranks := (dget xs 0).toI) (lines := (dget xs 1).toI) (on := (dget xs 2).toI) (bar := (dget xs 3).toI) (uOf (h.int_at 4 (by kernel_rfl)))).2⟩

theorem plicRanks_lifted (os : Os) (started : os.Started) (H : Type) (enc : TypeId × Value → H) :
    ReturnsInHanded {} Try.checked os 4 .any (Rows.plicRanksSpec.pre6 enc Try.prog Try.f4 [] false) (Rows.plicRanksSpec.post enc Try.prog Try.f4 false true false false) :=
  law_lifted (C := Try.checked) (fn := Try.f4) (sg := s4) (G := g4) (I := WI) (ss := sh4) (tb := (Try.f4.resultTypes.getD 0 0)) k4 (by kernel_rfl) ⟨by kernel_rfl, rfl, by kernel_rfl, rfl, rfl, rfl⟩ (by kernel_rfl) (by kernel_rfl) rfl
    (fun ds h => match ds, (h.trans (by kernel_rfl) : ds.length = 5) with | [_, _, _, _, _], _ => rfl)
    plicRanks_G (fun _ => trivial) rfl own4 started (by kernel_rfl) Try.func4
    (ChangeSpec.witness6 (enc := enc) (C := Try.checked) false ⟨#[], #[.int .u64 0, .int .u64 0, .int .u64 0, .int .u64 0, .int .u64 0], []⟩ 8 (by kernel_rfl) (by kernel_rfl) (by kernel_rfl) (by kernel_rfl))

theorem plicRanks_holds : Rows.PlicRanksSaid :=
  OpenClaim.holds_of_wide 4 Try.f4 rfl rfl rfl rfl rfl rfl rfl ⟨rfl, rfl, rfl, rfl, rfl⟩ rfl rfl rfl rfl rfl (by kernel_rfl) Try.func4 (by kernel_rfl)
    (of_decide_eq_true (by kernel_rfl)) (by unfold Func.isWrapper; first | (rw [if_pos (by decide +kernel)]; kernel_rfl) | (rw [if_neg (by decide +kernel)]; exact ⟨rfl, rfl⟩))
    (fun os started H enc _ => plicRanks_lifted os started H enc)
#print axioms plicRanks_holds
end Go.Proofs.Ythlbgkhbebffaaa

