/- SoftFmas: whatever the input, the law gives true, and the input reads as it did. No condition. -/
import Derived.Test.YtacciadcmiiimaaM10
import Derived.Test.YtacciadcmiiimaaRows
namespace Go.Proofs.Ytacciadcmiiimaa
open Go Go.Sx Go.RowKit
set_option maxRecDepth 100000
theorem own13 : ownKnob Try.prog.godebug = none := by kernel_rfl
noncomputable def sh13 : List Sh := (shapesOf Try.prog Try.f13.params.toList).getD []
theorem softFmas_G (xs : List DV) (h : RangeOk (sh13.flatMap Sh.lts) xs) : (s13.need = true → (dget (g13 xs) 0).toB = true) ∧ (dget (g13 xs) (if s13.need then 1 else 0)).toB = true :=
  ⟨fun _ => (law_fmas (s := (dget xs 0).toI) (rm := (dget xs 1).toI) (uOf (h.int_at 2 (by kernel_rfl))) (uOf (h.int_at 3 (by kernel_rfl))) (uOf (h.int_at 4 (by kernel_rfl)))).1, (law_fmas (s := (dget xs 0).toI) (rm := (dget xs 1).toI) (uOf (h.int_at 2 (by kernel_rfl))) (uOf (h.int_at 3 (by kernel_rfl))) (uOf (h.int_at 4 (by kernel_rfl)))).2⟩

theorem softFmas_lifted (os : Os) (started : os.Started) (H : Type) (enc : TypeId × Value → H) :
    ReturnsInHanded {} Try.checked os 13 .any (Rows.softFmasSpec.pre6 enc Try.prog Try.f13 [] false) (Rows.softFmasSpec.post enc Try.prog Try.f13 false true false false) :=
  law_lifted (C := Try.checked) (fn := Try.f13) (sg := s13) (G := g13) (I := WI) (ss := sh13) (tb := (Try.f13.resultTypes.getD 0 0)) k13 (by kernel_rfl) ⟨by kernel_rfl, rfl, by kernel_rfl, rfl, rfl, rfl⟩ (by kernel_rfl) (by kernel_rfl) rfl
    (fun ds h => match ds, (h.trans (by kernel_rfl) : ds.length = 5) with | [_, _, _, _, _], _ => rfl)
    softFmas_G (fun _ => trivial) rfl own13 started (by kernel_rfl) Try.func13
    (ChangeSpec.witness6 (enc := enc) (C := Try.checked) false ⟨#[], #[.int .i64 0, .int .i64 0, .int .u64 0, .int .u64 0, .int .u64 0], []⟩ 8 (by kernel_rfl) (by kernel_rfl) (by kernel_rfl) (by kernel_rfl))

theorem softFmas_holds : Rows.SoftFmasSaid :=
  OpenClaim.holds_of_wide 13 Try.f13 rfl rfl rfl rfl rfl rfl rfl ⟨rfl, rfl, rfl, rfl, rfl⟩ rfl rfl rfl rfl rfl (by kernel_rfl) Try.func13 (by kernel_rfl)
    (of_decide_eq_true (by kernel_rfl)) (by unfold Func.isWrapper; first | (rw [if_pos (by decide +kernel)]; kernel_rfl) | (rw [if_neg (by decide +kernel)]; exact ⟨rfl, rfl⟩))
    (fun os started H enc _ => softFmas_lifted os started H enc)
#print axioms softFmas_holds
end Go.Proofs.Ytacciadcmiiimaa

