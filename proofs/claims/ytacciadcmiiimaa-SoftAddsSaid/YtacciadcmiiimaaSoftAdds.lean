/- SoftAdds: whatever the input, the law gives true, and the input reads as it did. No condition. -/
import Derived.Test.YtacciadcmiiimaaM10
import Derived.Test.YtacciadcmiiimaaRows
namespace Go.Proofs.Ytacciadcmiiimaa
open Go Go.Sx Go.RowKit
set_option maxRecDepth 100000
theorem own17 : ownKnob Try.prog.godebug = none := by kernel_rfl
noncomputable def sh17 : List Sh := (shapesOf Try.prog Try.f17.params.toList).getD []
theorem softAdds_G (xs : List DV) (h : RangeOk (sh17.flatMap Sh.lts) xs) : (s17.need = true → (dget (g17 xs) 0).toB = true) ∧ (dget (g17 xs) (if s17.need then 1 else 0)).toB = true :=
  ⟨fun _ => (law_adds (s := (dget xs 0).toI) (rm := (dget xs 1).toI) (uOf (h.int_at 2 (by kernel_rfl))) (uOf (h.int_at 3 (by kernel_rfl)))).1, (law_adds (s := (dget xs 0).toI) (rm := (dget xs 1).toI) (uOf (h.int_at 2 (by kernel_rfl))) (uOf (h.int_at 3 (by kernel_rfl)))).2⟩

theorem softAdds_lifted (os : Os) (started : os.Started) (H : Type) (enc : TypeId × Value → H) :
    ReturnsInHanded {} Try.checked os 17 .any (Rows.softAddsSpec.pre6 enc Try.prog Try.f17 [] false) (Rows.softAddsSpec.post enc Try.prog Try.f17 false true false false) :=
  law_lifted (C := Try.checked) (fn := Try.f17) (sg := s17) (G := g17) (I := WI) (ss := sh17) (tb := (Try.f17.resultTypes.getD 0 0)) k17 (by kernel_rfl) ⟨by kernel_rfl, rfl, by kernel_rfl, rfl, rfl, rfl⟩ (by kernel_rfl) (by kernel_rfl) rfl
    (fun ds h => match ds, (h.trans (by kernel_rfl) : ds.length = 4) with | [_, _, _, _], _ => rfl)
    softAdds_G (fun _ => trivial) rfl own17 started (by kernel_rfl) Try.func17
    (ChangeSpec.witness6 (enc := enc) (C := Try.checked) false ⟨#[], #[.int .i64 0, .int .i64 0, .int .u64 0, .int .u64 0], []⟩ 8 (by kernel_rfl) (by kernel_rfl) (by kernel_rfl) (by kernel_rfl))

theorem softAdds_holds : Rows.SoftAddsSaid :=
  OpenClaim.holds_of_wide 17 Try.f17 rfl rfl rfl rfl rfl rfl rfl ⟨rfl, rfl, rfl, rfl, rfl⟩ rfl rfl rfl rfl rfl (by kernel_rfl) Try.func17 (by kernel_rfl)
    (of_decide_eq_true (by kernel_rfl)) (by unfold Func.isWrapper; first | (rw [if_pos (by decide +kernel)]; kernel_rfl) | (rw [if_neg (by decide +kernel)]; exact ⟨rfl, rfl⟩))
    (fun os started H enc _ => softAdds_lifted os started H enc)
#print axioms softAdds_holds
end Go.Proofs.Ytacciadcmiiimaa

