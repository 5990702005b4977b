/- SoftRoots: whatever the input, the law gives true, and the input reads as it did. No condition. -/
import Derived.Test.YtacciadcmiiimaaM10
import Derived.Test.YtacciadcmiiimaaRows
namespace Go.Proofs.Ytacciadcmiiimaa
open Go Go.Sx Go.RowKit
set_option maxRecDepth 100000
theorem own12 : ownKnob Try.prog.godebug = none := by kernel_rfl
noncomputable def sh12 : List Sh := (shapesOf Try.prog Try.f12.params.toList).getD []
theorem softRoots_G (xs : List DV) (h : RangeOk (sh12.flatMap Sh.lts) xs) : (s12.need = true → (dget (g12 xs) 0).toB = true) ∧ (dget (g12 xs) (if s12.need then 1 else 0)).toB = true :=
  ⟨fun _ => (law_roots (s := (dget xs 0).toI) (rm := (dget xs 1).toI) (uOf (h.int_at 2 (by kernel_rfl)))).1, (law_roots (s := (dget xs 0).toI) (rm := (dget xs 1).toI) (uOf (h.int_at 2 (by kernel_rfl)))).2⟩

theorem softRoots_lifted (os : Os) (started : os.Started) (H : Type) (enc : TypeId × Value → H) :
    ReturnsInHanded {} Try.checked os 12 .any (Rows.softRootsSpec.pre6 enc Try.prog Try.f12 [] false) (Rows.softRootsSpec.post enc Try.prog Try.f12 false true false false) :=
  law_lifted (C := Try.checked) (fn := Try.f12) (sg := s12) (G := g12) (I := WI) (ss := sh12) (tb := (Try.f12.resultTypes.getD 0 0)) k12 (by kernel_rfl) ⟨by kernel_rfl, rfl, by kernel_rfl, rfl, rfl, rfl⟩ (by kernel_rfl) (by kernel_rfl) rfl
    (fun ds h => match ds, (h.trans (by kernel_rfl) : ds.length = 3) with | [_, _, _], _ => rfl)
    softRoots_G (fun _ => trivial) rfl own12 started (by kernel_rfl) Try.func12
    (ChangeSpec.witness6 (enc := enc) (C := Try.checked) false ⟨#[], #[.int .i64 0, .int .i64 0, .int .u64 0], []⟩ 8 (by kernel_rfl) (by kernel_rfl) (by kernel_rfl) (by kernel_rfl))

theorem softRoots_holds : Rows.SoftRootsSaid :=
  OpenClaim.holds_of_wide 12 Try.f12 rfl rfl rfl rfl rfl rfl rfl ⟨rfl, rfl, rfl, rfl, rfl⟩ rfl rfl rfl rfl rfl (by kernel_rfl) Try.func12 (by kernel_rfl)
    (of_decide_eq_true (by kernel_rfl)) (by unfold Func.isWrapper; first | (rw [if_pos (by decide +kernel)]; kernel_rfl) | (rw [if_neg (by decide +kernel)]; exact ⟨rfl, rfl⟩))
    (fun os started H enc _ => softRoots_lifted os started H enc)
#print axioms softRoots_holds
end Go.Proofs.Ytacciadcmiiimaa

