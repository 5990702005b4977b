/- The plain law of PmpRanges, part two: an entry of naturally aligned bytes. -/
import Derived.Test.YtoebecinndbnoaaDoorPmR
namespace Go.Proofs.YtoebecinndbnoaaDoor
open Go Go.Sx
set_option maxRecDepth 100000

/-- The lowest bit of a that is nought. -/
theorem ones_of {a : Nat} (ha : a < 18014398509481984) : ∃ t m : Nat, t ≤ 54 ∧ Lib.ctz 64 (18446744073709551615 - a) = t ∧ a = 2 ^ t * (2 * m) + (2 ^ t - 1) := by
  have hx0 : 18446744073709551615 - a ≠ 0 := by omega
  obtain ⟨m, hm, hk⟩ := Lib.ctzFrom_spec 64 (18446744073709551615 - a) (by omega) (by omega)
  have hc : Lib.ctz 64 (18446744073709551615 - a) = Lib.ctzFrom 64 (18446744073709551615 - a) := by
    unfold Lib.ctz; rw [if_neg hx0]
  generalize Lib.ctzFrom 64 (18446744073709551615 - a) = t at hm hk hc
  -- 2^64 = 2^t * 2 * 2^(63 - t)
  have e : (18446744073709551616 : Nat) = 2 ^ t * (2 * 2 ^ (63 - t)) := by
    have : (2 : Nat) ^ 64 = 2 ^ t * (2 * 2 ^ (63 - t)) := by
      rw [← Nat.pow_succ', ← Nat.pow_add]
      congr 1
      omega
    simpa using this
  have hp : 0 < 2 ^ t := Nat.pow_pos (by decide)
  have h1 : a + 1 = 2 ^ t * (2 * 2 ^ (63 - t)) - 2 ^ t * (2 * m + 1) := by omega
  rw [← Nat.mul_sub] at h1
  have hlt : 2 * m + 1 < 2 * 2 ^ (63 - t) := by
    apply Nat.lt_of_not_le
    intro hle
    have : 2 * 2 ^ (63 - t) - (2 * m + 1) = 0 := by omega
    rw [this] at h1
    omega
  have h2 : 2 * 2 ^ (63 - t) - (2 * m + 1) = 2 * (2 ^ (63 - t) - m - 1) + 1 := by omega
  rw [h2, Nat.mul_add, Nat.mul_one] at h1
  refine ⟨t, 2 ^ (63 - t) - m - 1, ?_, hc, by omega⟩
  have h3 : 2 ^ t ≤ 2 ^ 54 := by
    have : 2 ^ t ≤ a + 1 := by omega
    simp only [Nat.reducePow]
    omega
  exact (Nat.pow_le_pow_iff_right (by decide)).1 h3

theorem shl_of {v : Int} (k : Nat) (hk : k ≤ 64) : ishl .u64 v k = IntKind.wrap .u64 (v * 2 ^ k) := by
  unfold ishl
  rw [show min (Int.toNat (k : Int)) (IntKind.bits .u64) = k from by simp [IntKind.bits]; omega]

theorem lxor_max {a : Nat} (ha : a < 18446744073709551616) : ilxor .u64 18446744073709551615 (a : Int) = ((18446744073709551615 - a : Nat) : Int) := by
  have e1 : (BitVec.ofInt 64 (a : Int)).toNat = a := by
    rw [BitVec.ofInt_natCast, BitVec.toNat_ofNat]; exact Nat.mod_eq_of_lt (by omega)
  have e2 : BitVec.ofInt 64 (18446744073709551615 : Int) = BitVec.allOnes 64 := by decide +kernel
  show IntKind.wrap .u64 ((BitVec.ofInt 64 (18446744073709551615 : Int) ^^^ BitVec.ofInt 64 (a : Int)).toNat : Int) = _
  rw [e2, BitVec.allOnes_xor, BitVec.toNat_not, e1, wrap_u64]
  omega

/-- From and last, as the program has them. -/
theorem nap_from {a t m : Nat} (ha : a < 18014398509481984) (ht : t ≤ 54) (h : a = 2 ^ t * (2 * m) + (2 ^ t - 1)) :
    IntKind.wrap .u64 (ishl .u64 (ishr .u64 (a : Int) ((t + 1 : Nat) : Int)) ((t + 1 : Nat) : Int) * 4) = ((8 * (m * 2 ^ t) : Nat) : Int) ∧ ishl .u64 1 ((t + 3 : Nat) : Int) = ((8 * 2 ^ t : Nat) : Int) := by
  have hp : 0 < 2 ^ t := Nat.pow_pos (by decide)
  have hp2 : 2 ^ t ≤ 2 ^ 54 := Nat.pow_le_pow_right (by decide) ht
  have e0 : ishr .u64 (a : Int) ((t + 1 : Nat) : Int) = (m : Int) := by
    rw [shr_of (t + 1) (by omega)]
    have : a / 2 ^ (t + 1) = m := by
      rw [Nat.pow_succ, h]
      generalize 2 ^ t = p at hp
      apply Nat.div_eq_of_lt_le
      · have e : m * (p * 2) = p * (2 * m) := by rw [Nat.mul_comm m, Nat.mul_assoc]
        omega
      · have e : (m + 1) * (p * 2) = p * (2 * m) + p * 2 := by rw [Nat.succ_mul, Nat.mul_comm m, Nat.mul_assoc]
        omega
    rw [← this]
    norm_cast
  have e1 : m * 2 ^ t ≤ a := by
    rw [h, Nat.mul_comm (2 ^ t), Nat.mul_comm 2 m, Nat.mul_assoc, Nat.mul_comm 2, ← Nat.mul_assoc]
    omega
  constructor
  · rw [e0, shl_of (t + 1) (by omega)]
    have e2 : (m : Int) * 2 ^ (t + 1) = ((2 * (m * 2 ^ t) : Nat) : Int) := by
      rw [Int.pow_succ]
      push_cast
      rw [← Int.mul_assoc, Int.mul_comm _ 2]
    rw [e2]
    generalize m * 2 ^ t = q at e1
    rw [wrap_u64, wrap_u64]
    omega
  · rw [shl_of (t + 3) (by omega)]
    have e3 : (1 : Int) * 2 ^ (t + 3) = ((8 * 2 ^ t : Nat) : Int) := by
      rw [Int.pow_add]
      push_cast
      omega
    rw [e3, wrap_u64]
    generalize 2 ^ t = p at hp2
    simp only [Nat.reducePow] at hp2
    omega
end Go.Proofs.YtoebecinndbnoaaDoor
