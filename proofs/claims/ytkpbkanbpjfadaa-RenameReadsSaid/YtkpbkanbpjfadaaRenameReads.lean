/- RenameReads: whatever the input, the law gives true, and the input reads as it did. No condition. -/
import Derived.Test.YtkpbkanbpjfadaaF5
import Derived.Test.YtkpbkanbpjfadaaRows
namespace Go.Proofs.Ytkpbkanbpjfadaa
open Go Go.Sx Go.RowKit
set_option maxRecDepth 100000
theorem own5 : ownKnob Try.prog.godebug = none := by kernel_rfl
noncomputable def sh5 : List ShV := (shapesN Try.prog Try.f5.params.toList).getD []
theorem intC {x : DV} (h : RangeC (.int .i64) x) : ∃ k, x = .i k := by cases h; exact ⟨_, rfl⟩
theorem rows4C : ∀ (n : Nat) (xs : List DV), xs.length = n * 4 → (∀ i, i < xs.length → RangeC (.int .i64) (xs.getD i default)) → ∃ ws : List Wa, ws.length = n ∧ xs = encW ws
  | 0, xs, h, _ => ⟨[], rfl, List.length_eq_zero_iff.1 (by omega)⟩
  | n + 1, xs, h, hr => by
    match xs, h, hr with
    | [], h, _ => simp at h
    | [_], h, _ => simp at h; omega
    | [_, _], h, _ => simp at h; omega
    | [_, _, _], h, _ => simp at h; omega
    | a :: b :: c :: d :: l, h, hr =>
      obtain ⟨a', rfl⟩ := intC (by simpa using hr 0 (by simp))
      obtain ⟨b', rfl⟩ := intC (by simpa using hr 1 (by simp))
      obtain ⟨c', rfl⟩ := intC (by simpa using hr 2 (by simp))
      obtain ⟨d', rfl⟩ := intC (by simpa using hr 3 (by simp))
      obtain ⟨ws, h1, rfl⟩ := rows4C n l (by simp at h; omega) (fun i hi => by
        have := hr (i + 4) (by simp; omega)
        simpa using this)
      exact ⟨⟨a', b', c', d'⟩ :: ws, by simp [h1], by simp [encW]⟩
abbrev kW : List LT := [.int .i64, .int .i64, .int .i64, .int .i64]
abbrev kS : List LT := [.int .i64, .int .i64, .vec kW]
theorem wantsC {x : DV} (h : RangeC (.vec kW) x) : ∃ ws : List Wa, x = .l (encW ws) ∧ ws.length < 9223372036854775808 := by
  cases h with
  | vec _ xs n hpos hn hlen hc =>
    obtain ⟨ws, h1, rfl⟩ := rows4C n xs hlen (fun i hi => by
      have := hc i hi
      have e4 : kW.getD (i % 4) .bool = .int .i64 := by
        have : i % 4 < 4 := Nat.mod_lt _ (by decide)
        rcases (by omega : i % 4 = 0 ∨ i % 4 = 1 ∨ i % 4 = 2 ∨ i % 4 = 3) with h | h | h | h <;> rw [h] <;> rfl
      have e5 : kW.length = 4 := rfl
      rw [e5, e4] at this
      exact this)
    have : maxLen = 9223372036854775807 := rfl
    exact ⟨ws, rfl, by omega⟩
theorem stepsC : ∀ (n : Nat) (xs : List DV), xs.length = n * 3 → (∀ i, i < xs.length → RangeC (kS.getD (i % 3) .bool) (xs.getD i default)) → ∃ l : List St, l.length = n ∧ xs = encS l ∧ ∀ s ∈ l, s.ws.length < 9223372036854775808
  | 0, xs, h, _ => ⟨[], rfl, List.length_eq_zero_iff.1 (by omega), fun s hs => by cases hs⟩
  | n + 1, xs, h, hr => by
    match xs, h, hr with
    | [], h, _ => simp at h
    | [_], h, _ => simp at h; omega
    | [_, _], h, _ => simp at h; omega
    | a :: b :: c :: l, h, hr =>
      obtain ⟨a', rfl⟩ := intC (by simpa using hr 0 (by simp))
      obtain ⟨b', rfl⟩ := intC (by simpa using hr 1 (by simp))
      obtain ⟨c', rfl, hc⟩ := wantsC (by simpa using hr 2 (by simp))
      obtain ⟨ws, h1, rfl, h2⟩ := stepsC n l (by simp at h; omega) (fun i hi => by
        have := hr (i + 3) (by simp; omega)
        rw [Nat.add_mod_right] at this
        simpa using this)
      exact ⟨⟨a', b', c'⟩ :: ws, by simp [h1], by simp [encS], fun s hs => by
        rcases List.mem_cons.1 hs with rfl | hs
        · exact hc
        · exact h2 s hs⟩
theorem renameReads_G (xs : List DV) (h : RangeN sh5 xs) (hl : xs.length = nInV sh5) : (s5.need = true → (dget (g5 xs) 0).toB = true) ∧ (dget (g5 xs) (if s5.need then 1 else 0)).toB = true := by
  have e : sh5 = [.row kS] := by kernel_rfl
  rw [e] at h
  obtain ⟨⟨v, hv, hr⟩, _⟩ := h
  obtain ⟨n, hn, hlen⟩ := hr.len
  obtain ⟨l, h1, rfl, h2⟩ := stepsC n v (by simpa using hlen) (fun i hi => hr.cell i hi)
  have hm : l.length < 9223372036854775808 := by
    have : maxLen = 9223372036854775807 := rfl
    omega
  obtain ⟨r1, r2⟩ := reads_law hm h2
  have h0 : (dget xs 0).toL = encS l := by
    cases xs with
    | nil => cases hv
    | cons x l' => simp at hv; subst hv; rfl
  refine ⟨fun _ => ?_, ?_⟩
  · show p5 (dget xs 0).toL = true
    rw [h0]; exact r1
  · show r5_0 (dget xs 0).toL = true
    rw [h0]; exact r2

theorem renameReads_lifted (os : Os) (started : os.Started) (H : Type) (enc : TypeId × Value → H) :
    ReturnsInHanded {} Try.checked os 5 .any (Rows.renameReadsSpec.pre6 enc Try.prog Try.f5 [] false) (Rows.renameReadsSpec.post enc Try.prog Try.f5 false true false false) :=
  law_liftedN (C := Try.checked) (fn := Try.f5) (sg := s5) (G := g5) (I := WI) (ss := sh5) (tb := (Try.f5.resultTypes.getD 0 0)) k5 (by kernel_rfl) ⟨by kernel_rfl, by kernel_rfl, by kernel_rfl, rfl, rfl, rfl⟩ (by kernel_rfl) (by kernel_rfl) (by kernel_rfl) rfl
    (fun ds h => match ds, (h.trans (by kernel_rfl) : ds.length = 1) with | [_], _ => rfl)
    ⟨by kernel_rfl, by kernel_rfl, by kernel_rfl, by kernel_rfl⟩
    renameReads_G (fun _ => trivial) rfl own5 started (by kernel_rfl) Try.func5
    (ChangeSpec.witness6 (enc := enc) (C := Try.checked) false ⟨#[], #[.slice none 0 0], []⟩ 8 (by kernel_rfl) (by kernel_rfl) (by kernel_rfl) (by kernel_rfl))

theorem renameReads_holds : Rows.RenameReadsSaid :=
  OpenClaim.holds_of_wide 5 Try.f5 rfl rfl rfl rfl rfl rfl rfl ⟨rfl, rfl, rfl, rfl, rfl⟩ rfl rfl rfl rfl rfl (by kernel_rfl) Try.func5 (by kernel_rfl)
    (of_decide_eq_true (by kernel_rfl)) (by unfold Func.isWrapper; first | (rw [if_pos (by decide +kernel)]; kernel_rfl) | (rw [if_neg (by decide +kernel)]; exact ⟨rfl, rfl⟩))
    (fun os started H enc _ => renameReads_lifted os started H enc)
#print axioms renameReads_holds
end Go.Proofs.Ytkpbkanbpjfadaa

