/- SoftDivs: whatever the input, the law gives true, and the input reads as it did. No condition. -/
import Derived.Test.YtacciadcmiiimaaM10
import Derived.Test.YtacciadcmiiimaaRows
namespace Go.Proofs.Ytacciadcmiiimaa
open Go Go.Sx Go.RowKit
set_option maxRecDepth 100000
theorem own11 : ownKnob Try.prog.godebug = none := by kernel_rfl
noncomputable def sh11 : List Sh := (shapesOf Try.prog Try.f11.params.toList).getD []
theorem softDivs_G (xs : List DV) (h : RangeOk (sh11.flatMap Sh.lts) xs) : (s11.need = true → (dget (g11 xs) 0).toB = true) ∧ (dget (g11 xs) (if s11.need then 1 else 0)).toB = true :=
  ⟨fun _ => (law_divs (s := (dget xs 0).toI) (rm := (dget xs 1).toI) (uOf (h.int_at 2 (by kernel_rfl))) (uOf (h.int_at 3 (by kernel_rfl)))).1, (law_divs (s := (dget xs 0).toI) (rm := (dget xs 1).toI) (uOf (h.int_at 2 (by kernel_rfl))) (uOf (h.int_at 3 (by kernel_rfl)))).2⟩

theorem softDivs_lifted (os : Os) (started : os.Started) (H : Type) (enc : TypeId × Value → H) :
    ReturnsInHanded {} Try.checked os 11 .any (Rows.softDivsSpec.pre6 enc Try.prog Try.f11 [] false) (Rows.softDivsSpec.post enc Try.prog Try.f11 false true false false) :=
  law_lifted (C := Try.checked) (fn := Try.f11) (sg := s11) (G := g11) (I := WI) (ss := sh11) (tb := (Try.f11.resultTypes.getD 0 0)) k11 (by kernel_rfl) ⟨by kernel_rfl, rfl, by kernel_rfl, rfl, rfl, rfl⟩ (by kernel_rfl) (by kernel_rfl) rfl
    (fun ds h => match ds, (h.trans (by kernel_rfl) : ds.length = 4) with | [_, _, _, _], _ => rfl)
    softDivs_G (fun _ => trivial) rfl own11 started (by kernel_rfl) Try.func11
    (ChangeSpec.witness6 (enc := enc) (C := Try.checked) false ⟨#[], #[.int .i64 0, .int .i64 0, .int .u64 0, .int .u64 0], []⟩ 8 (by kernel_rfl) (by kernel_rfl) (by kernel_rfl) (by kernel_rfl))

theorem softDivs_holds : Rows.SoftDivsSaid :=
  OpenClaim.holds_of_wide 11 Try.f11 rfl rfl rfl rfl rfl rfl rfl ⟨rfl, rfl, rfl, rfl, rfl⟩ rfl rfl rfl rfl rfl (by kernel_rfl) Try.func11 (by kernel_rfl)
    (of_decide_eq_true (by kernel_rfl)) (by unfold Func.isWrapper; first | (rw [if_pos (by decide +kernel)]; kernel_rfl) | (rw [if_neg (by decide +kernel)]; exact ⟨rfl, rfl⟩))
    (fun os started H enc _ => softDivs_lifted os started H enc)
#print axioms softDivs_holds
end Go.Proofs.Ytacciadcmiiimaa

