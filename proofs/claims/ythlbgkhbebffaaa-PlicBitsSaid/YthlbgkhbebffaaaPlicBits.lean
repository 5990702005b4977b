/- PlicBits: whatever the input, the law gives true, and the input reads as it did. No condition. -/
import Derived.Test.YthlbgkhbebffaaaPlB
import Derived.Test.YthlbgkhbebffaaaSyRow
import Derived.Test.YthlbgkhbebffaaaRows
namespace Go.Proofs.Ythlbgkhbebffaaa
open Go Go.Sx Go.RowKit
set_option maxRecDepth 100000
theorem own3 : ownKnob Try.prog.godebug = none := by kernel_rfl
noncomputable def sh3 : List Sh := (shapesOf Try.prog Try.f3.params.toList).getD []
theorem plicBits_G (xs : List DV) (h : RangeOk (sh3.flatMap Sh.lts) xs) : (s3.need = true → (dget (g3 xs) 0).toB = true) ∧ (dget (g3 xs) (if s3.need then 1 else 0)).toB = true :=
  ⟨fun _ => (plic_bits (h.int_at 0 (by kernel_rfl)) (h.int_at 1 (by kernel_rfl)) (h.int_at 2 (by kernel_rfl))).2, (plic_bits (h.int_at 0 (by kernel_rfl)) (h.int_at 1 (by kernel_rfl)) (h.int_at 2 (by kernel_rfl))).1⟩

theorem plicBits_lifted (os : Os) (started : os.Started) (H : Type) (enc : TypeId × Value → H) :
    ReturnsInHanded {} Try.checked os 3 .any (Rows.plicBitsSpec.pre6 enc Try.prog Try.f3 [] false) (Rows.plicBitsSpec.post enc Try.prog Try.f3 false true false false) :=
  law_lifted (C := Try.checked) (fn := Try.f3) (sg := s3) (G := g3) (I := WI) (ss := sh3) (tb := (Try.f3.resultTypes.getD 0 0)) k3 (by kernel_rfl) ⟨by kernel_rfl, rfl, by kernel_rfl, rfl, rfl, rfl⟩ (by kernel_rfl) (by kernel_rfl) rfl
    (fun ds h => match ds, (h.trans (by kernel_rfl) : ds.length = 3) with | [_, _, _], _ => rfl)
    plicBits_G (fun _ => trivial) rfl own3 started (by kernel_rfl) Try.func3
    (ChangeSpec.witness6 (enc := enc) (C := Try.checked) false ⟨#[], #[.int .u64 0, .int .u64 0, .int .u64 0], []⟩ 8 (by kernel_rfl) (by kernel_rfl) (by kernel_rfl) (by kernel_rfl))

theorem plicBits_holds : Rows.PlicBitsSaid :=
  OpenClaim.holds_of_wide 3 Try.f3 rfl rfl rfl rfl rfl rfl rfl ⟨rfl, rfl, rfl, rfl, rfl⟩ rfl rfl rfl rfl rfl (by kernel_rfl) Try.func3 (by kernel_rfl)
    (of_decide_eq_true (by kernel_rfl)) (by unfold Func.isWrapper; first | (rw [if_pos (by decide +kernel)]; kernel_rfl) | (rw [if_neg (by decide +kernel)]; exact ⟨rfl, rfl⟩))
    (fun os started H enc _ => plicBits_lifted os started H enc)
#print axioms plicBits_holds
end Go.Proofs.Ythlbgkhbebffaaa
