/- RenameBack: whatever the input, the law gives true, and the input reads as it did. No condition. -/
import Derived.Test.YtkpbkanbpjfadaaE5
import Derived.Test.YtkpbkanbpjfadaaRows
namespace Go.Proofs.Ytkpbkanbpjfadaa
open Go Go.Sx Go.RowKit
set_option maxRecDepth 100000
theorem own6 : ownKnob Try.prog.godebug = none := by kernel_rfl
noncomputable def sh6 : List ShV := (shapesN Try.prog Try.f6.params.toList).getD []
theorem intC {x : DV} (h : RangeC (.int .i64) x) : ∃ k, x = .i k := by cases h; exact ⟨_, rfl⟩
theorem rows4C : ∀ (n : Nat) (xs : List DV), xs.length = n * 4 → (∀ i, i < xs.length → RangeC (.int .i64) (xs.getD i default)) → ∃ ws : List Wa, ws.length = n ∧ xs = encW ws
  | 0, xs, h, _ => ⟨[], rfl, List.length_eq_zero_iff.1 (by omega)⟩
  | n + 1, xs, h, hr => by
    match xs, h, hr with
    | [], h, _ => simp at h
    | [_], h, _ => simp at h; omega
    | [_, _], h, _ => simp at h; omega
    | [_, _, _], h, _ => simp at h; omega
    | a :: b :: c :: d :: l, h, hr =>
      obtain ⟨a', rfl⟩ := intC (by simpa using hr 0 (by simp))
      obtain ⟨b', rfl⟩ := intC (by simpa using hr 1 (by simp))
      obtain ⟨c', rfl⟩ := intC (by simpa using hr 2 (by simp))
      obtain ⟨d', rfl⟩ := intC (by simpa using hr 3 (by simp))
      obtain ⟨ws, h1, rfl⟩ := rows4C n l (by simp at h; omega) (fun i hi => by
        have := hr (i + 4) (by simp; omega)
        simpa using this)
      exact ⟨⟨a', b', c', d'⟩ :: ws, by simp [h1], by simp [encW]⟩
abbrev kW : List LT := [.int .i64, .int .i64, .int .i64, .int .i64]
abbrev kS : List LT := [.int .i64, .int .i64, .vec kW]
theorem wantsC {x : DV} (h : RangeC (.vec kW) x) : ∃ ws : List Wa, x = .l (encW ws) ∧ ws.length < 9223372036854775808 := by
  cases h with
  | vec _ xs n hpos hn hlen hc =>
    obtain ⟨ws, h1, rfl⟩ := rows4C n xs hlen (fun i hi => by
      have := hc i hi
      have e4 : kW.getD (i % 4) .bool = .int .i64 := by
        have : i % 4 < 4 := Nat.mod_lt _ (by decide)
        rcases (by omega : i % 4 = 0 ∨ i % 4 = 1 ∨ i % 4 = 2 ∨ i % 4 = 3) with h | h | h | h <;> rw [h] <;> rfl
      have e5 : kW.length = 4 := rfl
      rw [e5, e4] at this
      exact this)
    have : maxLen = 9223372036854775807 := rfl
    exact ⟨ws, rfl, by omega⟩
theorem stepsC : ∀ (n : Nat) (xs : List DV), xs.length = n * 3 → (∀ i, i < xs.length → RangeC (kS.getD (i % 3) .bool) (xs.getD i default)) → ∃ l : List St, l.length = n ∧ xs = encS l ∧ ∀ s ∈ l, s.ws.length < 9223372036854775808
  | 0, xs, h, _ => ⟨[], rfl, List.length_eq_zero_iff.1 (by omega), fun s hs => by cases hs⟩
  | n + 1, xs, h, hr => by
    match xs, h, hr with
    | [], h, _ => simp at h
    | [_], h, _ => simp at h; omega
    | [_, _], h, _ => simp at h; omega
    | a :: b :: c :: l, h, hr =>
      obtain ⟨a', rfl⟩ := intC (by simpa using hr 0 (by simp))
      obtain ⟨b', rfl⟩ := intC (by simpa using hr 1 (by simp))
      obtain ⟨c', rfl, hc⟩ := wantsC (by simpa using hr 2 (by simp))
      obtain ⟨ws, h1, rfl, h2⟩ := stepsC n l (by simp at h; omega) (fun i hi => by
        have := hr (i + 3) (by simp; omega)
        rw [Nat.add_mod_right] at this
        simpa using this)
      exact ⟨⟨a', b', c'⟩ :: ws, by simp [h1], by simp [encS], fun s hs => by
        rcases List.mem_cons.1 hs with rfl | hs
        · exact hc
        · exact h2 s hs⟩
theorem renameBack_G (xs : List DV) (h : RangeN sh6 xs) (hl : xs.length = nInV sh6) : (s6.need = true → (dget (g6 xs) 0).toB = true) ∧ (dget (g6 xs) (if s6.need then 1 else 0)).toB = true := by
  have e : sh6 = [.row kS, .row kW] := by kernel_rfl
  rw [e] at h
  obtain ⟨⟨v, hv, hr⟩, ⟨v2, hv2, hr2⟩, _⟩ := h
  obtain ⟨n, hn, hlen⟩ := hr.len
  obtain ⟨l, h1, rfl, h2⟩ := stepsC n v (by simpa using hlen) (fun i hi => hr.cell i hi)
  obtain ⟨n2, hn2, hlen2⟩ := hr2.len
  obtain ⟨ws, h3, rfl⟩ := rows4C n2 v2 (by simpa using hlen2) (fun i hi => by
    have := hr2.cell i hi
    have e4 : kW.getD (i % 4) .bool = .int .i64 := by
      have : i % 4 < 4 := Nat.mod_lt _ (by decide)
      rcases (by omega : i % 4 = 0 ∨ i % 4 = 1 ∨ i % 4 = 2 ∨ i % 4 = 3) with h | h | h | h <;> rw [h] <;> rfl
    have e5 : kW.length = 4 := rfl
    rw [e5, e4] at this
    exact this)
  have hx : maxLen = 9223372036854775807 := rfl
  obtain ⟨r1, r2⟩ := back_law (l := l) (ws := ws) (by omega) h2 (by omega)
  obtain ⟨h0, h4⟩ : (dget xs 0).toL = encS l ∧ (dget xs 1).toL = encW ws := by
    match xs, hl with
    | [a, b], _ =>
      simp at hv hv2
      subst hv hv2
      exact ⟨rfl, rfl⟩
  refine ⟨fun _ => ?_, ?_⟩
  · show p6 (dget xs 0).toL (dget xs 1).toL = true
    rw [h0, h4]; exact r1
  · show r6_0 (dget xs 0).toL (dget xs 1).toL = true
    rw [h0, h4]; exact r2

theorem renameBack_lifted (os : Os) (started : os.Started) (H : Type) (enc : TypeId × Value → H) :
    ReturnsInHanded {} Try.checked os 6 .any (Rows.renameBackSpec.pre6 enc Try.prog Try.f6 [] false) (Rows.renameBackSpec.post enc Try.prog Try.f6 false true false false) :=
  law_liftedN (C := Try.checked) (fn := Try.f6) (sg := s6) (G := g6) (I := WI) (ss := sh6) (tb := (Try.f6.resultTypes.getD 0 0)) k6 (by kernel_rfl) ⟨by kernel_rfl, by kernel_rfl, by kernel_rfl, rfl, rfl, rfl⟩ (by kernel_rfl) (by kernel_rfl) (by kernel_rfl) rfl
    (fun ds h => match ds, (h.trans (by kernel_rfl) : ds.length = 2) with | [_, _], _ => rfl)
    ⟨by kernel_rfl, by kernel_rfl, by kernel_rfl, by kernel_rfl⟩
    renameBack_G (fun _ => trivial) rfl own6 started (by kernel_rfl) Try.func6
    (ChangeSpec.witness6 (enc := enc) (C := Try.checked) false ⟨#[], #[.slice none 0 0, .slice none 0 0], []⟩ 8 (by kernel_rfl) (by kernel_rfl) (by kernel_rfl) (by kernel_rfl))

theorem renameBack_holds : Rows.RenameBackSaid :=
  OpenClaim.holds_of_wide 6 Try.f6 rfl rfl rfl rfl rfl rfl rfl ⟨rfl, rfl, rfl, rfl, rfl⟩ rfl rfl rfl rfl rfl (by kernel_rfl) Try.func6 (by kernel_rfl)
    (of_decide_eq_true (by kernel_rfl)) (by unfold Func.isWrapper; first | (rw [if_pos (by decide +kernel)]; kernel_rfl) | (rw [if_neg (by decide +kernel)]; exact ⟨rfl, rfl⟩))
    (fun os started H enc _ => renameBack_lifted os started H enc)
#print axioms renameBack_holds
end Go.Proofs.Ytkpbkanbpjfadaa

