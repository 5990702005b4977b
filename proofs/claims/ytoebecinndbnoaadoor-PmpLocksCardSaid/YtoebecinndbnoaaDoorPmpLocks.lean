/- PmpLocks: the row's statement, and its card. -/
import Derived.Test.YtoebecinndbnoaaDoorPlkB
import Derived.Test.YtoebecinndbnoaaDoorPlkC
namespace Go.Proofs.YtoebecinndbnoaaDoor
open Go Go.Sx Go.RowKit
set_option maxRecDepth 100000
theorem R8_of {n : Int} (h : (Lit.int .u8 n).wf = true) : R8 n := by
  simp only [Lit.wf, IntKind.min, IntKind.max, IntKind.signed, IntKind.bits, Bool.and_eq_true] at h
  exact ⟨by simpa using h.1, by have := h.2; simp at this; omega⟩
theorem take_get (l : List DV) (i : Nat) (hi : i < 8) : dget (l.take 8) i = dget l i := by
  simp only [dget, List.getD_eq_getElem?_getD, List.getElem?_take, if_pos hi]
theorem drop_get (l : List DV) (i j : Nat) : dget (l.drop i) j = dget l (i + j) := by
  simp only [dget, List.getD_eq_getElem?_getD, List.getElem?_drop]
theorem head_get (l : List DV) (x : DV) (h : l.head? = some x) : dget l 0 = x := by
  cases l <;> simp at h; subst h; rfl

noncomputable def sh7 : List ShV := (shapesV Tryd.prog Tryd.f7.params.toList).getD []
theorem pmpLocks_G (xs : List DV) (h : RangeV sh7 xs) (_ : xs.length = nInV sh7) : (s7.need = true → (dget (g7 xs) 0).toB = true) ∧ (dget (g7 xs) (if s7.need then 1 else 0)).toB = true :=
  by
  have e : sh7 = [.pl (.agg [.int .u8, .int .u8, .int .u8, .int .u8, .int .u8, .int .u8, .int .u8, .int .u8]), .pl (.agg [.int .u64, .int .u64, .int .u64, .int .u64, .int .u64, .int .u64, .int .u64, .int .u64]), .row [.int .u64], .pl (.one (.int .i64)), .pl (.one (.int .i64)), .pl (.one (.int .i64)), .pl (.one (.int .u64)), .pl (.one (.int .i64))] := by kernel_rfl
  rw [e] at h
  obtain ⟨h1, _, ⟨v, hv, hr⟩, _⟩ := h
  have hb : ∀ i, i < 8 → R8 (dget xs i).toI := fun i hi => by
    have e8 : ([.int .u8, .int .u8, .int .u8, .int .u8, .int .u8, .int .u8, .int .u8, .int .u8] : List LT)[i]? = some (.int .u8) := by
      rcases (by omega : i = 0 ∨ i = 1 ∨ i = 2 ∨ i = 3 ∨ i = 4 ∨ i = 5 ∨ i = 6 ∨ i = 7) with rfl | rfl | rfl | rfl | rfl | rfl | rfl | rfl <;> rfl
    have := RangeOk.int_at i h1 e8
    have e9 : dget (xs.take 8) i = dget xs i := take_get xs i hi
    rw [← e9]
    exact R8_of this
  have hx : (dget xs 16).toL = v := by
    have h0 : dget ((xs.drop 8).drop 8) 0 = .l v := head_get _ _ hv
    rw [drop_get, drop_get] at h0
    rw [show dget xs 16 = .l v from h0]
  have hl : (((dget xs 16).toL.length : Nat) : Int) < 9223372036854775808 := by
    rw [hx]
    obtain ⟨n, hn, hn2⟩ := hr.len
    have hn : n ≤ 9223372036854775807 := hn
    simp at hn2
    omega
  exact ⟨fun _ => locks_p hl, locks_ok (hb 0 (by decide)) (hb 1 (by decide)) (hb 2 (by decide)) (hb 3 (by decide)) (hb 4 (by decide)) (hb 5 (by decide)) (hb 6 (by decide)) (hb 7 (by decide)) hl⟩

theorem pmpLocks_lifted (os : Os) (started : os.Started) (H : Type) (enc : TypeId × Value → H) :
    ReturnsInHanded {} Tryd.checked os 7 .any (fun w args => (Rows.pmpLocksSpec.pre enc Tryd.prog Tryd.f7 [] false w args ∧ laidMetH Tryd.prog [("math/bits.deBruijn64tab", Rows.laid_math_bits_deBruijn64tab)] w) ∧ sizedMet enc Tryd.prog Tryd.f7 (OpenSpec.ofChange Rows.pmpLocksSpec) false w args)
      (Rows.pmpLocksSpec.post enc Tryd.prog Tryd.f7 false true false false) :=
  law_lifted_laidV (C := Tryd.checked) (fn := Tryd.f7) (sg := s7) (G := g7) (I := WI) (ss := sh7) (tb := (Tryd.f7.resultTypes.getD 0 0)) k7 (by kernel_rfl) ⟨by kernel_rfl, by kernel_rfl, by kernel_rfl, rfl, rfl, rfl⟩ (by kernel_rfl) (by kernel_rfl) rfl
    (fun ds h => match ds, (h.trans (by kernel_rfl) : ds.length = 8) with | [_, _, _, _, _, _, _, _], _ => rfl)
    ⟨by kernel_rfl, by kernel_rfl, by kernel_rfl, by kernel_rfl⟩
    pmpLocks_G (fun W hW => of_laid hW) (fun W hW => hW.1) ownL started (by kernel_rfl) Tryd.func7
    (ChangeSpec.witness_shaped (enc := enc) (C := Tryd.checked) (os := os) (X := fun w _ => laidMetH Tryd.prog [("math/bits.deBruijn64tab", Rows.laid_math_bits_deBruijn64tab)] w) false (World.doorLaid Tryd.prog 400 os)
      #[.agg #[.int .u8 0, .int .u8 0, .int .u8 0, .int .u8 0, .int .u8 0, .int .u8 0, .int .u8 0, .int .u8 0], .agg #[.int .u64 0, .int .u64 0, .int .u64 0, .int .u64 0, .int .u64 0, .int .u64 0, .int .u64 0, .int .u64 0], .slice .none 0 0, .int .i64 0, .int .i64 0, .int .i64 0, .int .u64 0, .int .i64 0]
      8 rfl (World.shaped_of_RefB (by kernel_rfl) (by kernel_rfl)) (by kernel_rfl) (by kernel_rfl) (by kernel_rfl) (door_met os _))

theorem pmpLocks_holds : Rows.PmpLocksSaid :=
  OpenClaim.holds_of_wide 7 Tryd.f7 rfl rfl rfl rfl rfl rfl rfl ⟨rfl, rfl, rfl, rfl, rfl⟩ rfl rfl rfl rfl rfl (by kernel_rfl) Tryd.func7 (by kernel_rfl)
    (of_decide_eq_true (by kernel_rfl)) (by unfold Func.isWrapper; first | (rw [if_pos (by decide +kernel)]; kernel_rfl) | (rw [if_neg (by decide +kernel)]; exact ⟨rfl, rfl⟩))
    (fun os started H enc _ => pmpLocks_lifted os started H enc)

theorem pmpLocks_card : Rows.PmpLocksCardSaid :=
  Claim7.holds_tied_plain_at .later [] [.data] true (true, "ef1f2c6bd80da54ce274b70dd86cfaa167478ceca7d885b26f69ec17e7c61a66") false
    pmpLocks_holds (fun _ h => by cases h) (by kernel_rfl) (fun _ h => by cases h) pmpLocks_row_tie rfl ⟨rfl, rfl⟩ (by kernel_rfl) rfl
    (fun f fn hf hfn => by
      obtain rfl : f = 7 := Option.some.inj ((show Tryd.prog.funcNamed Rows.pmpLocksRow.func = some 7 by kernel_rfl).symm.trans hf) |>.symm
      obtain rfl : fn = Tryd.f7 := (Option.some.inj (Tryd.func7.symm.trans hfn)).symm
      exact ⟨by kernel_rfl, fun j t ht => by
        have hp : Tryd.f7.params = #[22, 24, 34, 3, 3, 3, 23, 3] := by kernel_rfl
        rw [hp] at ht
        have hm : t ∈ [22, 24, 34, 3, 3, 3, 23, 3] := by simpa using Array.mem_of_getElem? ht
        have hall : ([22, 24, 34, 3, 3, 3, 23, 3].all fun u => !Tryd.prog.wantsStandIn u) = true := by kernel_rfl
        exact (show Tryd.prog.wantsStandIn t = false by simpa using List.all_eq_true.1 hall t hm)⟩)
    (by kernel_rfl)
#print axioms pmpLocks_card
end Go.Proofs.YtoebecinndbnoaaDoor
