/- The plain law of PmpRanges, part one: trailing zeros, and the loop of the document's own range. -/
import Derived.Test.YtoebecinndbnoaaDoorPmB
import Derived.Lib.TrailingZeros
namespace Go.Proofs.YtoebecinndbnoaaDoor
open Go Go.Sx
set_option maxRecDepth 100000

theorem land_nat {a b : Nat} (ha : a < 18446744073709551616) (hb : b < 18446744073709551616) : iland .u64 (a : Int) (b : Int) = ((a &&& b : Nat) : Int) := by
  have e1 : (BitVec.ofInt 64 (a : Int)).toNat = a := by
    rw [BitVec.ofInt_natCast, BitVec.toNat_ofNat]; exact Nat.mod_eq_of_lt (by omega)
  have e2 : (BitVec.ofInt 64 (b : Int)).toNat = b := by
    rw [BitVec.ofInt_natCast, BitVec.toNat_ofNat]; exact Nat.mod_eq_of_lt (by omega)
  show IntKind.wrap .u64 ((BitVec.ofInt 64 (a : Int) &&& BitVec.ofInt 64 (b : Int)).toNat : Int) = _
  rw [BitVec.toNat_and, e1, e2, wrap_u64]
  have : a &&& b ≤ a := Nat.and_le_left
  omega

theorem tab_at : ∀ k : Nat, k < 64 → ([0, 1, 56, 2, 57, 49, 28, 3, 61, 58, 42, 50, 38, 29, 17, 4, 62, 47, 59, 36, 45, 43, 51, 22, 53, 39, 33, 30, 24, 18, 12, 5, 63, 55, 48, 27, 60, 41, 37, 16, 46, 35, 44, 21, 52, 32, 23, 11, 54, 26, 40, 15, 34, 20, 31, 10, 25, 14, 19, 9, 13, 8, 7, 6] : List Int).getD (2 ^ k * 285870213051353865 % 18446744073709551616 / 288230376151711744) 0 = (k : Int) := by decide +kernel

theorem tz_idx {x : Nat} (h0 : x ≠ 0) (hx : x < 18446744073709551616) :
    ishr .u64 (IntKind.wrap .u64 (iland .u64 (x : Int) (IntKind.wrap .u64 (0 - (x : Int))) * 285870213051353865)) 58 = ((2 ^ Lib.ctz 64 x * 285870213051353865 % 18446744073709551616 / 288230376151711744 : Nat) : Int) := by
  obtain ⟨hlow, hk⟩ := Lib.lowest_bit 64 x h0 hx
  have e1 : IntKind.wrap .u64 (0 - (x : Int)) = ((18446744073709551616 - x : Nat) : Int) := by rw [wrap_u64]; omega
  have e2 : x &&& (18446744073709551616 - x) = 2 ^ Lib.ctz 64 x := hlow
  rw [e1, land_nat hx (by omega), e2]
  have e3 : IntKind.wrap .u64 (((2 ^ Lib.ctz 64 x : Nat) : Int) * 285870213051353865) = ((2 ^ Lib.ctz 64 x * 285870213051353865 % 18446744073709551616 : Nat) : Int) := by
    rw [wrap_u64]; omega
  rw [e3, show ishr .u64 ((2 ^ Lib.ctz 64 x * 285870213051353865 % 18446744073709551616 : Nat) : Int) 58 = _ from shr_of 58 (by decide)]
  omega

def tzTab : List Int := [0, 1, 56, 2, 57, 49, 28, 3, 61, 58, 42, 50, 38, 29, 17, 4, 62, 47, 59, 36, 45, 43, 51, 22, 53, 39, 33, 30, 24, 18, 12, 5, 63, 55, 48, 27, 60, 41, 37, 16, 46, 35, 44, 21, 52, 32, 23, 11, 54, 26, 40, 15, 34, 20, 31, 10, 25, 14, 19, 9, 13, 8, 7, 6]
def tzAt (x : Int) : Int := ishr .u64 (IntKind.wrap .u64 (iland .u64 x (IntKind.wrap .u64 (0 - x)) * 285870213051353865)) 58
theorem tz_ex {x : Nat} (h0 : x ≠ 0) (hx : x < 18446744073709551616) : ∃ j k : Nat, j < 64 ∧ k < 64 ∧ k = Lib.ctz 64 x ∧ tzAt (x : Int) = (j : Int) ∧ tzTab.getD j 0 = (k : Int) := by
  obtain ⟨_, hk⟩ := Lib.lowest_bit 64 x h0 hx
  obtain ⟨hi, _⟩ := Lib.deBruijn64_at _ hk
  exact ⟨_, _, hi, hk, rfl, tz_idx h0 hx, tab_at _ hk⟩
theorem p18_eq (x : Int) : p18 x = (ow [(!(x == 0), true)] (decide (tzAt x ≥ 0)) && (ow [(!(x == 0), true)] (decide (tzAt x < 64)) && true)) := rfl
theorem r18_eq (x : Int) : r18_0 x = bif !(x == 0) then IntKind.wrap .i64 (tzTab.getD (Int.toNat (tzAt x)) 0) else 64 := rfl
theorem tz_ok {x : Nat} (h0 : x ≠ 0) (hx : x < 18446744073709551616) : p18 (x : Int) = true ∧ r18_0 (x : Int) = (Lib.ctz 64 x : Int) := by
  obtain ⟨j, k, hj, hk, hkc, h1, h2⟩ := tz_ex h0 hx
  have hx0 : ((x : Int) == 0) = false := by simp; omega
  rw [← hkc, p18_eq, r18_eq, h1, hx0]
  have a1 : decide ((j : Int) ≥ 0) = true := decide_eq_true (by omega)
  have a2 : decide ((j : Int) < 64) = true := decide_eq_true (by omega)
  rw [a1, a2, Int.toNat_natCast, h2]
  refine ⟨rfl, ?_⟩
  rw [Bool.not_false, cond_true, IntKind.wrap_i64]
  omega

/-- a's lowest bit that is nought: t; the loop's rounds. -/
theorem loop_ones : ∀ (t j : Nat) (r : Int), 0 ≤ r → r < 18014398509481984 → j + t ≤ 60 → (∃ m : Int, r = 2 ^ t * (2 * m) + (2 ^ t - 1) ∧ 0 ≤ m) →
    ∃ rest, L100901 (8 * 2 ^ j) r = some [.i 0, .i (8 * 2 ^ (j + t)), .i rest]
  | 0, j, r, h0, h1, hj, ⟨m, hm, hm0⟩ => by
    refine ⟨r, ?_⟩
    have hc : c100901 (8 * 2 ^ j) r = false := by
      show (Int.tmod r 2 == 1) = false
      rw [Int.tmod_eq_emod_of_nonneg h0]
      simp at hm ⊢
      omega
    have := loopG_last (w := W100901) (c := C100901) (nx := N100901) (out := T100901) (s := [.i (8 * 2 ^ j), .i r]) rfl hc
    show loopG W100901 C100901 N100901 T100901 [.i (8 * 2 ^ j), .i r] = _
    rw [this]
    rfl
  | t + 1, j, r, h0, h1, hj, ⟨m, hm, hm0⟩ => by
    have e1 : (2 : Int) ^ (t + 1) = 2 * 2 ^ t := by rw [Int.pow_succ, Int.mul_comm]
    generalize hp : (2 : Int) ^ t = p at e1
    have hp0 : 0 < p := by rw [← hp]; exact Int.pow_pos (by decide)
    have hc : c100901 (8 * 2 ^ j) r = true := by
      show (Int.tmod r 2 == 1) = true
      rw [Int.tmod_eq_emod_of_nonneg h0]
      rw [e1, Int.mul_assoc] at hm
      simp
      omega
    have hn := loopG_next (w := W100901) (c := C100901) (nx := N100901) (out := T100901) (s := [.i (8 * 2 ^ j), .i r]) rfl hc
    have hr : IntKind.wrap .u64 (Int.tdiv r 2) = r / 2 := by
      rw [Int.tdiv_eq_ediv_of_nonneg h0, wrap_u64]
      omega
    have hs : IntKind.wrap .u64 (2 * (8 * 2 ^ j)) = 8 * 2 ^ (j + 1) := by
      rw [wrap_u64, Int.pow_succ]
      have hb : (2 : Int) ^ j ≤ 2 ^ 59 := by
        have : (2 : Nat) ^ j ≤ 2 ^ 59 := Nat.pow_le_pow_right (by decide) (by omega)
        exact_mod_cast this
      have hb0 : (0 : Int) < 2 ^ j := Int.pow_pos (by decide)
      generalize (2 : Int) ^ j = q at hb hb0
      omega
    have he : N100901 [.i (8 * 2 ^ j), .i r] = [.i (8 * 2 ^ (j + 1)), .i (r / 2)] := by
      show [DV.i (IntKind.wrap .u64 (2 * (8 * 2 ^ j))), .i (IntKind.wrap .u64 (Int.tdiv r 2))] = _
      rw [hr, hs]
    rw [he] at hn
    obtain ⟨rest, ih⟩ := loop_ones t (j + 1) (r / 2) (by omega) (by omega) (by omega) ⟨m, by rw [hp]; rw [e1, Int.mul_assoc] at hm; omega, hm0⟩
    refine ⟨rest, ?_⟩
    rw [show j + (t + 1) = j + 1 + t from by omega, ← ih]
    exact hn
end Go.Proofs.YtoebecinndbnoaaDoor
