/- RenameRoom: whatever the input, the law gives true, and the input reads as it did. No condition. -/
import Derived.Test.YtkpbkanbpjfadaaA3
import Derived.Test.YtkpbkanbpjfadaaA4
import Derived.Test.YtkpbkanbpjfadaaRows
namespace Go.Proofs.Ytkpbkanbpjfadaa
open Go Go.Sx Go.RowKit
set_option maxRecDepth 100000
theorem own7 : ownKnob Try.prog.godebug = none := by kernel_rfl
noncomputable def sh7 : List ShV := (shapesV Try.prog Try.f7.params.toList).getD []
theorem rows4 : ∀ (n : Nat) (xs : List DV), xs.length = n * 4 → (∀ i, i < xs.length → RangeOk [LT.int .i64] [xs.getD i default]) → ∃ ws : List Wa, ws.length = n ∧ xs = encW ws
  | 0, xs, h, _ => ⟨[], rfl, List.length_eq_zero_iff.1 (by omega)⟩
  | n + 1, xs, h, hr => by
    match xs, h, hr with
    | [], h, _ => simp at h
    | [_], h, _ => simp at h; omega
    | [_, _], h, _ => simp at h; omega
    | [_, _, _], h, _ => simp at h; omega
    | a :: b :: c :: d :: l, h, hr =>
      have hi : ∀ x : DV, RangeOk [LT.int .i64] [x] → ∃ k, x = .i k := fun x hx => by
        cases x with
        | i k => exact ⟨k, rfl⟩
        | b _ => exact absurd hx (by simp [RangeOk])
        | l _ => exact absurd hx (by simp [RangeOk])
      obtain ⟨a', rfl⟩ := hi a (by simpa using hr 0 (by simp))
      obtain ⟨b', rfl⟩ := hi b (by simpa using hr 1 (by simp))
      obtain ⟨c', rfl⟩ := hi c (by simpa using hr 2 (by simp))
      obtain ⟨d', rfl⟩ := hi d (by simpa using hr 3 (by simp))
      obtain ⟨ws, h1, rfl⟩ := rows4 n l (by simp at h; omega) (fun i hi => by
        have := hr (i + 4) (by simp; omega)
        simpa using this)
      exact ⟨⟨a', b', c', d'⟩ :: ws, by simp [h1], by simp [encW]⟩
theorem renameRoom_G (xs : List DV) (h : RangeV sh7 xs) (hl : xs.length = nInV sh7) : (s7.need = true → (dget (g7 xs) 0).toB = true) ∧ (dget (g7 xs) (if s7.need then 1 else 0)).toB = true := by
  have e : sh7 = [.row [.int .i64, .int .i64, .int .i64, .int .i64]] := by kernel_rfl
  rw [e] at h
  obtain ⟨⟨v, hv, hr⟩, _⟩ := h
  obtain ⟨n, hn, hlen⟩ := hr.len
  obtain ⟨ws, h1, rfl⟩ := rows4 n v (by simpa using hlen) (fun i hi => by
    have := hr.cell i hi
    have e4 : ([LT.int .i64, .int .i64, .int .i64, .int .i64] : List LT).getD (i % 4) .bool = .int .i64 := by
      have : i % 4 < 4 := Nat.mod_lt _ (by decide)
      rcases (by omega : i % 4 = 0 ∨ i % 4 = 1 ∨ i % 4 = 2 ∨ i % 4 = 3) with h | h | h | h <;> rw [h] <;> rfl
    have e5 : ([LT.int .i64, .int .i64, .int .i64, .int .i64] : List LT).length = 4 := rfl
    rw [e5, e4] at this
    exact this)
  have hm : ws.length < 9223372036854775808 := by
    have : maxLen = 9223372036854775807 := rfl
    omega
  obtain ⟨r1, r2⟩ := room hm
  have h0 : (dget xs 0).toL = encW ws := by
    cases xs with
    | nil => cases hv
    | cons x l => simp at hv; subst hv; rfl
  refine ⟨fun _ => ?_, ?_⟩
  · show p7 (dget xs 0).toL = true
    rw [h0]; exact r1
  · show r7_0 (dget xs 0).toL = true
    rw [h0]; exact r2

theorem renameRoom_lifted (os : Os) (started : os.Started) (H : Type) (enc : TypeId × Value → H) :
    ReturnsInHanded {} Try.checked os 7 .any (Rows.renameRoomSpec.pre6 enc Try.prog Try.f7 [] false) (Rows.renameRoomSpec.post enc Try.prog Try.f7 false true false false) :=
  law_liftedV (C := Try.checked) (fn := Try.f7) (sg := s7) (G := g7) (I := WI) (ss := sh7) (tb := (Try.f7.resultTypes.getD 0 0)) k7 (by kernel_rfl) ⟨by kernel_rfl, by kernel_rfl, by kernel_rfl, rfl, rfl, rfl⟩ (by kernel_rfl) (by kernel_rfl) rfl
    (fun ds h => match ds, (h.trans (by kernel_rfl) : ds.length = 1) with | [_], _ => rfl)
    ⟨by kernel_rfl, by kernel_rfl, by kernel_rfl, by kernel_rfl⟩
    renameRoom_G (fun _ => trivial) rfl own7 started (by kernel_rfl) Try.func7
    (ChangeSpec.witness6 (enc := enc) (C := Try.checked) false ⟨#[], #[.slice none 0 0], []⟩ 8 (by kernel_rfl) (by kernel_rfl) (by kernel_rfl) (by kernel_rfl))

theorem renameRoom_holds : Rows.RenameRoomSaid :=
  OpenClaim.holds_of_wide 7 Try.f7 rfl rfl rfl rfl rfl rfl rfl ⟨rfl, rfl, rfl, rfl, rfl⟩ rfl rfl rfl rfl rfl (by kernel_rfl) Try.func7 (by kernel_rfl)
    (of_decide_eq_true (by kernel_rfl)) (by unfold Func.isWrapper; first | (rw [if_pos (by decide +kernel)]; kernel_rfl) | (rw [if_neg (by decide +kernel)]; exact ⟨rfl, rfl⟩))
    (fun os started H enc _ => renameRoom_lifted os started H enc)
#print axioms renameRoom_holds
end Go.Proofs.Ytkpbkanbpjfadaa

