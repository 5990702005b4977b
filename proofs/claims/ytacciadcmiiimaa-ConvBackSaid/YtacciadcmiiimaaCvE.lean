/- Lengths, what is cut off, and rounding of what is exact. -/
import Derived.Test.YtacciadcmiiimaaCvC
namespace Go.Proofs.Ytacciadcmiiimaa
open Go Go.Sx
set_option maxRecDepth 100000
set_option maxHeartbeats 2000000

/-! ### Lengths -/
def tabL : List Int := [0, 1, 2, 2, 3, 3, 3, 3, 4, 4, 4, 4, 4, 4, 4, 4, 5, 5, 5, 5, 5, 5, 5, 5, 5, 5, 5, 5, 5, 5, 5, 5, 6, 6, 6, 6, 6, 6, 6, 6, 6, 6, 6, 6, 6, 6, 6, 6, 6, 6, 6, 6, 6, 6, 6, 6, 6, 6, 6, 6, 6, 6, 6, 6, 7, 7, 7, 7, 7, 7, 7, 7, 7, 7, 7, 7, 7, 7, 7, 7, 7, 7, 7, 7, 7, 7, 7, 7, 7, 7, 7, 7, 7, 7, 7, 7, 7, 7, 7, 7, 7, 7, 7, 7, 7, 7, 7, 7, 7, 7, 7, 7, 7, 7, 7, 7, 7, 7, 7, 7, 7, 7, 7, 7, 7, 7, 7, 7, 8, 8, 8, 8, 8, 8, 8, 8, 8, 8, 8, 8, 8, 8, 8, 8, 8, 8, 8, 8, 8, 8, 8, 8, 8, 8, 8, 8, 8, 8, 8, 8, 8, 8, 8, 8, 8, 8, 8, 8, 8, 8, 8, 8, 8, 8, 8, 8, 8, 8, 8, 8, 8, 8, 8, 8, 8, 8, 8, 8, 8, 8, 8, 8, 8, 8, 8, 8, 8, 8, 8, 8, 8, 8, 8, 8, 8, 8, 8, 8, 8, 8, 8, 8, 8, 8, 8, 8, 8, 8, 8, 8, 8, 8, 8, 8, 8, 8, 8, 8, 8, 8, 8, 8, 8, 8, 8, 8, 8, 8, 8, 8, 8, 8, 8, 8, 8, 8, 8, 8, 8, 8, 8, 8, 8, 8, 8, 8]
/-- The last rounds of a length: what is left, and what was counted. -/
def lenFin (y acc : Int) : Int := IntKind.wrap .i64 (acc + IntKind.wrap .i64 (tabL.getD (Int.toNat (IntKind.wrap .u8 y)) 0))
def lenAt (p s : Int) (f : Int → Int → Int) (y acc : Int) : Int :=
  f (bif decide (y ≥ p) then ishr .u64 y s else y) (bif decide (y ≥ p) then IntKind.wrap .i64 (acc + s) else acc)
theorem r69_eq (x : Int) : r69_0 x = lenFin (bif decide ((bif decide ((bif decide (x ≥ 4294967296) then ishr .u64 x 32 else x) ≥ 65536) then ishr .u64 (bif decide (x ≥ 4294967296) then ishr .u64 x 32 else x) 16 else (bif decide (x ≥ 4294967296) then ishr .u64 x 32 else x)) ≥ 256) then ishr .u64 (bif decide ((bif decide (x ≥ 4294967296) then ishr .u64 x 32 else x) ≥ 65536) then ishr .u64 (bif decide (x ≥ 4294967296) then ishr .u64 x 32 else x) 16 else (bif decide (x ≥ 4294967296) then ishr .u64 x 32 else x)) 8 else (bif decide ((bif decide (x ≥ 4294967296) then ishr .u64 x 32 else x) ≥ 65536) then ishr .u64 (bif decide (x ≥ 4294967296) then ishr .u64 x 32 else x) 16 else (bif decide (x ≥ 4294967296) then ishr .u64 x 32 else x)))
    (bif decide ((bif decide ((bif decide (x ≥ 4294967296) then ishr .u64 x 32 else x) ≥ 65536) then ishr .u64 (bif decide (x ≥ 4294967296) then ishr .u64 x 32 else x) 16 else (bif decide (x ≥ 4294967296) then ishr .u64 x 32 else x)) ≥ 256) then IntKind.wrap .i64 ((bif decide ((bif decide (x ≥ 4294967296) then ishr .u64 x 32 else x) ≥ 65536) then IntKind.wrap .i64 ((bif decide (x ≥ 4294967296) then 32 else 0) + 16) else (bif decide (x ≥ 4294967296) then 32 else 0)) + 8) else (bif decide ((bif decide (x ≥ 4294967296) then ishr .u64 x 32 else x) ≥ 65536) then IntKind.wrap .i64 ((bif decide (x ≥ 4294967296) then 32 else 0) + 16) else (bif decide (x ≥ 4294967296) then 32 else 0))) := rfl

theorem tabL_at : ∀ n : Fin 256, (n.val == 0) || ((List.range 8).any fun j => tabL.getD n.val 0 == (j : Int) + 1 && decide (2 ^ j ≤ n.val) && decide (n.val < 2 * 2 ^ j)) = true := by decide +kernel
theorem lenFin_ok {y : Int} (h0 : 0 < y) (h1 : y < 256) {acc : Int} (ha : 0 ≤ acc) (hb : acc ≤ 56) : ∃ j : Nat, j < 8 ∧ lenFin y acc = acc + j + 1 ∧ ((2 ^ j : Nat) : Int) ≤ y ∧ y < 2 * ((2 ^ j : Nat) : Int) := by
  obtain ⟨n, rfl⟩ := int_nat (a := y) (by omega)
  have := tabL_at ⟨n, by omega⟩
  simp only [Bool.or_eq_true, beq_iff_eq, List.any_eq_true, List.mem_range, Bool.and_eq_true, decide_eq_true_eq] at this
  rcases this with h | ⟨j, hj, ⟨h2, h3⟩, h4⟩
  · omega
  · refine ⟨j, hj, ?_, by exact_mod_cast h3, by exact_mod_cast h4⟩
    unfold lenFin
    rw [show IntKind.wrap .u8 (n : Int) = (n : Int) from by rw [wrap_u8]; omega, Int.toNat_natCast, h2, wrap_i64_of (n := (j : Int) + 1) (by omega) (by omega), wrap_i64_of (by omega) (by omega)]
    omega
theorem shr32 (x : Int) : ishr .u64 x 32 = x / 4294967296 := shr_of 32 (by decide) (by decide)
theorem shr16 (x : Int) : ishr .u64 x 16 = x / 65536 := shr_of 16 (by decide) (by decide)
theorem shr8 (x : Int) : ishr .u64 x 8 = x / 256 := shr_of 8 (by decide) (by decide)
theorem len_fin {x y : Int} {acc : Nat} (hx : y = x / ((2 ^ acc : Nat) : Int)) (h0 : 0 < y) (h1 : y < 256) (hb : acc ≤ 56) : ∃ k : Nat, k < 64 ∧ lenFin y acc = (k : Int) + 1 ∧ ((2 ^ k : Nat) : Int) ≤ x ∧ x < 2 * ((2 ^ k : Nat) : Int) := by
  obtain ⟨j, hj, e, h2, h3⟩ := lenFin_ok h0 h1 (acc := acc) (by omega) (by omega)
  have hp : 0 < 2 ^ acc := Nat.two_pow_pos acc
  refine ⟨acc + j, by omega, by rw [e]; omega, ?_, ?_⟩
  · rw [Nat.pow_add, Nat.mul_comm, Int.natCast_mul]
    rw [hx] at h2
    exact (Int.le_ediv_iff_mul_le (by omega)).1 h2
  · rw [Nat.pow_add, Int.natCast_mul]
    rw [hx] at h3
    have := (Int.ediv_lt_iff_lt_mul (by omega)).1 h3
    rw [Int.mul_comm ((2 ^ acc : Nat) : Int), ← Int.mul_assoc]
    exact this
theorem len_ok {x : Int} (h0 : 0 < x) (h1 : x < 18446744073709551616) : ∃ k : Nat, k < 64 ∧ r69_0 x = (k : Int) + 1 ∧ ((2 ^ k : Nat) : Int) ≤ x ∧ x < 2 * ((2 ^ k : Nat) : Int) := by
  rw [r69_eq]
  simp only [shr32, shr16, shr8]
  by_cases a : x ≥ 4294967296 <;> simp only [a, decide_true, decide_false, cond_true, cond_false]
  · by_cases b : x / 4294967296 ≥ 65536 <;> simp only [b, decide_true, decide_false, cond_true, cond_false]
    · by_cases c : x / 4294967296 / 65536 ≥ 256 <;> simp only [c, decide_true, decide_false, cond_true, cond_false]
      · exact len_fin (acc := 56) (by simp only [Nat.reducePow]; omega) (by omega) (by omega) (by decide)
      · exact len_fin (acc := 48) (by simp only [Nat.reducePow]; omega) (by omega) (by omega) (by decide)
    · by_cases c : x / 4294967296 ≥ 256 <;> simp only [c, decide_true, decide_false, cond_true, cond_false]
      · exact len_fin (acc := 40) (by simp only [Nat.reducePow]; omega) (by omega) (by omega) (by decide)
      · exact len_fin (acc := 32) (by simp only [Nat.reducePow]; omega) (by omega) (by omega) (by decide)
  · by_cases b : x ≥ 65536 <;> simp only [b, decide_true, decide_false, cond_true, cond_false]
    · by_cases c : x / 65536 ≥ 256 <;> simp only [c, decide_true, decide_false, cond_true, cond_false]
      · exact len_fin (acc := 24) (by simp only [Nat.reducePow]; omega) (by omega) (by omega) (by decide)
      · exact len_fin (acc := 16) (by simp only [Nat.reducePow]; omega) (by omega) (by omega) (by decide)
    · by_cases c : x ≥ 256 <;> simp only [c, decide_true, decide_false, cond_true, cond_false]
      · exact len_fin (acc := 8) (by simp only [Nat.reducePow]; omega) (by omega) (by omega) (by decide)
      · exact len_fin (acc := 0) (by simp only [Nat.reducePow]; omega) (by omega) (by omega) (by decide)
theorem len_53 {x : Int} (h0 : 4503599627370496 ≤ x) (h1 : x < 9007199254740992) : r69_0 x = 53 := by
  obtain ⟨k, _, e, h2, h3⟩ := len_ok (x := x) (by omega) (by omega)
  have hk : k = 52 := by
    have e3 : (2 : Nat) ^ 53 = 9007199254740992 := by decide +kernel
    have e2 : (2 : Nat) ^ 52 = 4503599627370496 := by decide +kernel
    have a : k < 53 := (Nat.pow_lt_pow_iff_right (a := 2) (by decide)).1 (by rw [e3]; omega)
    have b : 52 < k + 1 := (Nat.pow_lt_pow_iff_right (a := 2) (by decide)).1 (by rw [e2, Nat.pow_succ]; omega)
    omega
  rw [e, hk]; rfl
theorem lz_ok {x : Int} (h0 : 0 < x) (h1 : x < 18446744073709551616) : ∃ n : Nat, n ≤ 63 ∧ r115_0 x = (n : Int) ∧ 9223372036854775808 ≤ x * ((2 ^ n : Nat) : Int) ∧ x * ((2 ^ n : Nat) : Int) < 18446744073709551616 := by
  obtain ⟨k, hk, e, h2, h3⟩ := len_ok h0 h1
  refine ⟨63 - k, by omega, ?_, ?_, ?_⟩
  · show IntKind.wrap .i64 (64 - r69_0 x) = _
    rw [e, wrap_i64_of (by omega) (by omega)]; omega
  all_goals
    have hp : (2 ^ k : Nat) * 2 ^ (63 - k) = 9223372036854775808 := by
      rw [← Nat.pow_add, show k + (63 - k) = 63 from by omega]
    have hp' : ((2 ^ k : Nat) : Int) * ((2 ^ (63 - k) : Nat) : Int) = 9223372036854775808 := by rw [← Int.natCast_mul, hp]; rfl
    have hq : (0 : Int) < ((2 ^ (63 - k) : Nat) : Int) := by exact_mod_cast Nat.two_pow_pos _
  · have := Int.mul_le_mul_of_nonneg_right h2 (Int.le_of_lt hq)
    omega
  · have := Int.mul_lt_mul_of_pos_right h3 hq
    rw [Int.mul_assoc, hp'] at this
    omega
theorem lz_nn {x : Int} (h : U x) : decide (r115_0 x ≥ 0) = true := by
  apply decide_eq_true
  by_cases h0 : x = 0
  · subst h0; decide +kernel
  · obtain ⟨n, _, e, _⟩ := lz_ok (x := x) (by have := h.1; omega) h.2
    rw [e]; omega
theorem lz_11 {x : Int} (h0 : 4503599627370496 ≤ x) (h1 : x < 9007199254740992) : r115_0 x = 11 := by
  show IntKind.wrap .i64 (64 - r69_0 x) = _
  rw [len_53 h0 h1]; decide
theorem p69_ok (x : Int) : p69 x = true := by
  have a : ∀ y : Int, decide (IntKind.wrap .u8 y ≥ 0) = true := fun y => decide_eq_true (by rw [wrap_u8]; omega)
  have b : ∀ y : Int, decide (IntKind.wrap .u8 y < 256) = true := fun y => decide_eq_true (by rw [wrap_u8]; omega)
  simp only [p69, a, b, ow_t, List.all_cons, List.all_nil, id, Bool.and_true]
theorem p115_ok (x : Int) : p115 x = true := by simp only [p115, p69_ok, ow_t, List.all_cons, List.all_nil, id, Bool.and_true]

/-! ### What is cut off -/
theorem shl_of {v : Int} (k : Nat) (hk : k ≤ 64) : ishl .u64 v k = IntKind.wrap .u64 (v * ((2 ^ k : Nat) : Int)) := by
  unfold ishl
  rw [show min (Int.toNat (k : Int)) (IntKind.bits .u64) = k from by simp [IntKind.bits]; omega]
  simp
theorem pow_le_63 {n : Nat} (hn : n ≤ 63) : ((2 ^ n : Nat) : Int) ≤ 9223372036854775808 ∧ 0 < ((2 ^ n : Nat) : Int) := by
  have a : 2 ^ n ≤ 2 ^ 63 := Nat.pow_le_pow_right (by decide) hn
  have b := Nat.two_pow_pos n
  simp only [Nat.reducePow] at a
  omega
theorem p70_ok (m n : Int) : p70 m n = true := by
  simp only [p70, List.all_cons, List.all_nil, id]
  by_cases h : 0 < n ∧ n < 64
  · have a : decide (n ≥ 0) = true := decide_eq_true (by omega)
    have b : decide (IntKind.wrap .i64 (n - 1) ≥ 0) = true := by rw [wrap_i64_of (by omega) (by omega)]; exact decide_eq_true (by omega)
    simp only [a, b, ow_t, Bool.and_true]
  · by_cases h0 : 0 < n
    · by_cases h1 : n = 64
      · have : (n == 64) = true := by simp [h1]
        simp [this, ow]
      · have : decide (n > 64) = true := decide_eq_true (by omega)
        simp [this, ow]
    · have : decide (n ≤ 0) = true := decide_eq_true (by omega)
      simp [this, ow]
theorem cut_none (rm : Int) (minus : Bool) (m : Int) {n : Int} (hn : n ≤ 0) : r70_0 rm minus m n = m ∧ r70_1 m n = true := by
  have : decide (n ≤ 0) = true := decide_eq_true hn
  constructor
  · simp only [r70_0, this, Bool.not_true, cond_false]
  · simp only [r70_1, this, Bool.not_true, cond_false]
theorem cut_zero (rm : Int) (minus : Bool) (n : Int) : r70_0 rm minus 0 n = 0 ∧ r70_1 0 n = true := by
  constructor
  · simp only [r70_0, beq_self_eq_true, Bool.not_true, cond_false, Bool.cond_self]
  · simp only [r70_1, beq_self_eq_true, Bool.not_true, cond_false, Bool.cond_self]
theorem low_bits {m : Int} {n : Nat} (h1 : n ≤ 63) (hm : 0 ≤ m) (hm2 : m < 18446744073709551616) : iland .u64 m (IntKind.wrap .u64 (ishl .u64 1 n - 1)) = m % ((2 ^ n : Nat) : Int) := by
  obtain ⟨a, b⟩ := pow_le_63 h1
  rw [shl_of n (by omega), Int.one_mul, wrap_u64_of (n := ((2 ^ n : Nat) : Int)) (by omega) (by omega), wrap_u64_of (by omega) (by omega)]
  exact land_mask hm hm2 n (by omega) (by have := Nat.two_pow_pos n; omega) rfl
theorem cut_flag {m : Int} {n : Nat} (h0 : 0 < n) (h1 : n ≤ 63) (hm : 0 < m) (hm2 : m < 18446744073709551616) : r70_1 m n = (m % ((2 ^ n : Nat) : Int) == 0) := by
  have a1 : decide ((n : Int) ≤ 0) = false := decide_eq_false (by omega)
  have a2 : (m == 0) = false := by simp; omega
  have a3 : decide ((n : Int) > 64) = false := decide_eq_false (by omega)
  have a4 : ((n : Int) == 64) = false := by simp; omega
  simp only [r70_1, a1, a2, a3, a4, low_bits h1 (Int.le_of_lt hm) hm2, Bool.not_false, cond_true, cond_false]
theorem cut_ok (rm : Int) (minus : Bool) {m q : Int} {n : Nat} (h0 : 0 < n) (h1 : n ≤ 63) (hq : 0 < q) (hm : m = q * ((2 ^ n : Nat) : Int)) (hm2 : m < 18446744073709551616) : r70_0 rm minus m n = q ∧ r70_1 m n = true := by
  obtain ⟨p1, p2⟩ := pow_le_63 h1
  have hm0 : 0 < m := by rw [hm]; exact Int.mul_pos hq p2
  have hr : m % ((2 ^ n : Nat) : Int) = 0 := by rw [hm]; exact Int.mul_emod_left ..
  have hd : m / ((2 ^ n : Nat) : Int) = q := by rw [hm]; exact Int.mul_ediv_cancel _ (by omega)
  have a1 : decide ((n : Int) ≤ 0) = false := decide_eq_false (by omega)
  have a2 : (m == 0) = false := by simp; omega
  have a3 : decide ((n : Int) > 64) = false := decide_eq_false (by omega)
  have a4 : ((n : Int) == 64) = false := by simp; omega
  have a5 : ishr .u64 m n = q := by rw [shr_of n (by omega) rfl]; exact hd
  have a6 : ishl .u64 1 (IntKind.wrap .i64 ((n : Int) - 1)) = ((2 ^ (n - 1) : Nat) : Int) := by
    rw [wrap_i64_of (by omega) (by omega), show (n : Int) - 1 = ((n - 1 : Nat) : Int) from by omega, shl_of (n - 1) (by omega)]
    have := pow_le_63 (n := n - 1) (by omega)
    rw [wrap_u64]; omega
  have p3 := (pow_le_63 (n := n - 1) (by omega)).2
  generalize ((2 ^ (n - 1) : Nat) : Int) = half at a6 p3
  have b1 : decide ((0 : Int) > half) = false := decide_eq_false (by omega)
  have b2 : ((0 : Int) == half) = false := by simp; omega
  have b3 : decide ((0 : Int) ≥ half) = false := decide_eq_false (by omega)
  refine ⟨?_, by rw [cut_flag h0 h1 hm0 hm2, hr]; rfl⟩
  simp only [r70_0, a1, a2, a3, a4, a5, a6, low_bits h1 (Int.le_of_lt hm0) hm2, hr, b1, b2, b3, Bool.not_false, cond_true, cond_false, Bool.false_and, Bool.and_false, Bool.or_false, bne_self_eq_false, Bool.cond_self]
end Go.Proofs.Ytacciadcmiiimaa
