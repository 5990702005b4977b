/- Rounding of what is exact; floats taken apart. Printed by CvF.py. -/
import Derived.Test.YtacciadcmiiimaaCvE
namespace Go.Proofs.Ytacciadcmiiimaa
open Go Go.Sx
set_option maxRecDepth 100000
set_option maxHeartbeats 2000000

theorem ilor_comm (a b : Int) : ilor .u64 a b = ilor .u64 b a := by
  show IntKind.wrap .u64 ((BitVec.ofInt 64 a ||| BitVec.ofInt 64 b).toNat : Int) = IntKind.wrap .u64 ((BitVec.ofInt 64 b ||| BitVec.ofInt 64 a).toNat : Int)
  rw [BitVec.or_comm]
theorem shl_eq {v : Int} {n : Nat} (hn : n ≤ 63) (h0 : 0 ≤ v) (h1 : v * ((2 ^ n : Nat) : Int) < 18446744073709551616) : ishl .u64 v n = v * ((2 ^ n : Nat) : Int) := by
  have := (pow_le_63 hn).2
  rw [shl_of n (by omega), wrap_u64_of (Int.mul_nonneg h0 (by omega)) h1]

/-- The sign laid on a float's exponent x and fraction. -/
theorem pack_8 {x q : Int} (h1 : 1 ≤ x) (h2 : x ≤ 2046) (h3 : 4503599627370496 ≤ q) (h4 : q < 9007199254740992) :
    ilor .u64 (ishl .u64 (IntKind.wrap .u64 x) 52) (ilandNot .u64 q (ishl .u64 1 52)) = x * 4503599627370496 + (q - 4503599627370496) := by
  have e1 : ishl .u64 (IntKind.wrap .u64 x) 52 = x * 4503599627370496 := by
    rw [wrap_u64_of (by omega) (by omega), show ishl .u64 x 52 = _ from shl_of 52 (by decide), show ((2 ^ 52 : Nat) : Int) = 4503599627370496 from by decide +kernel, wrap_u64_of (by omega) (by omega)]
  have e2 : ilandNot .u64 q (ishl .u64 1 52) = q - 4503599627370496 := by
    rw [show ishl .u64 1 52 = 4503599627370496 from by decide +kernel, landNot_bit (by omega) (by omega) 52 (by decide) (by decide +kernel)]
    omega
  rw [e1, e2, ilor_comm]
  have := lor_high (a := q - 4503599627370496) (by omega) 52 (by rw [show ((2 ^ 52 : Nat) : Int) = 4503599627370496 from by decide +kernel]; omega) x.toNat (m := x * 4503599627370496) (by rw [Int.natCast_mul, show ((2 ^ 52 : Nat) : Int) = 4503599627370496 from by decide +kernel]; omega) (by omega) (by decide)
  rw [this]; omega
theorem round_norm_8 (rm : Int) (minus : Bool) {M e q : Int} {n : Nat} (hn : n ≤ 63) (hz : r115_0 M = n) (h0 : 0 < M) (hM : M * ((2 ^ n : Nat) : Int) < 18446744073709551616) (hM1 : 9223372036854775808 ≤ M * ((2 ^ n : Nat) : Int)) (hq : M * ((2 ^ n : Nat) : Int) = q * 2048)
    (h1 : 1 ≤ e - n + 11 - -1074 + 1) (h2 : e - n + 11 - -1074 + 1 ≤ 2046) :
    r78_0 52 1023 9223372036854775808 rm minus M e = r82_0 9223372036854775808 minus ((e - n + 11 - -1074 + 1) * 4503599627370496 + (q - 4503599627370496)) ∧ r78_1 52 1023 rm minus M e = 0 := by
  have e10 : ishl .u64 M n = q * 2048 := (shl_eq hn (by omega) hM).trans hq
  have e11 : IntKind.wrap .i64 (e - n) = e - n := wrap_i64_of (by omega) (by omega)
  have e12 : IntKind.wrap .i64 (63 - 52) = 11 := by decide
  have e13 : IntKind.wrap .i64 (1 - 1023) = -1022 := by decide
  have e14 : IntKind.wrap .i64 (-1022 - 52) = -1074 := by decide
  have e15 : IntKind.wrap .i64 (e - n + 11) = e - n + 11 := wrap_i64_of (by omega) (by omega)
  have e16 : decide (e - n + 11 < -1074) = false := decide_eq_false (by omega)
  obtain ⟨c0, c1⟩ := cut_ok rm minus (m := q * 2048) (q := q) (n := 11) (by decide) (by decide) (by omega) (by rw [show ((2 ^ 11 : Nat) : Int) = 2048 from by decide +kernel]) (by omega)
  have c0 : r70_0 rm minus (q * 2048) 11 = q := c0
  have c1 : r70_1 (q * 2048) 11 = true := c1
  have e37 : ishl .u64 2 52 = 9007199254740992 := by decide +kernel
  have e38 : (q == 9007199254740992) = false := by simp; omega
  have e44 : ishl .u64 1 52 = 4503599627370496 := by decide +kernel
  have e45 : decide (q < 4503599627370496) = false := decide_eq_false (by omega)
  have e49 : IntKind.wrap .i64 (e - n + 11 - -1074) = e - n + 11 - -1074 := wrap_i64_of (by omega) (by omega)
  have e50 : IntKind.wrap .i64 (e - n + 11 - -1074 + 1) = e - n + 11 - -1074 + 1 := wrap_i64_of (by omega) (by omega)
  have e51 : IntKind.wrap .i64 (2 * 1023) = 2046 := by decide
  have e52 : decide (e - n + 11 - -1074 + 1 > 2046) = false := decide_eq_false (by omega)
  have e76 := pack_8 h1 h2 (q := q) (by omega) (by omega)
  rw [e44] at e76
  constructor
  · simp only [r78_0, hz, e10, e11, e12, e13, e14, e15, e16, cond_false, c0, e37, e38, e44, e45, e49, e50, e51, e52, e76, Bool.not_false, cond_true]
  · simp only [r78_1, hz, e10, e11, e12, e13, e14, e15, e16, cond_false, c0, c1, e37, e38, e44, e45, e49, e50, e51, e52, Bool.not_false, Bool.not_true, cond_true]
theorem fin_8 {a : Int} (h : U a) : r68_0 52 9223372036854775808 a = (if 4503599627370496 ≤ mag 8 a then mag 8 a % 4503599627370496 + 4503599627370496 else mag 8 a) ∧
    r68_1 52 1023 9223372036854775808 a = (if 4503599627370496 ≤ mag 8 a then mag 8 a / 4503599627370496 else 1) - 1023 - 52 := by
  have hm := mag_lt_8 a
  have e1 : ∀ m : Int, ishr .u64 m 52 = m / 4503599627370496 := fun m => shr_of 52 (by decide) (by decide +kernel)
  have e2 : iland .u64 (mag 8 a) (IntKind.wrap .u64 (ishl .u64 1 52 - 1)) = mag 8 a % 4503599627370496 := by
    have := low_bits (m := mag 8 a) (n := 52) (by decide) (by omega) (by omega)
    rw [show ((2 ^ 52 : Nat) : Int) = 4503599627370496 from by decide +kernel] at this
    exact this
  have e3 : ilor .u64 (mag 8 a % 4503599627370496) (ishl .u64 1 52) = mag 8 a % 4503599627370496 + 4503599627370496 := by
    rw [show ishl .u64 1 52 = 4503599627370496 from by decide +kernel]
    exact lor_high (by omega) 52 (by rw [show ((2 ^ 52 : Nat) : Int) = 4503599627370496 from by decide +kernel]; omega) 1 (by decide +kernel) (by decide) (by decide)
  constructor
  · simp only [r68_0, size_8 h, e1, e2, e3]
    by_cases c : 4503599627370496 ≤ mag 8 a
    · rw [if_pos c, show decide (mag 8 a / 4503599627370496 > 0) = true from decide_eq_true (by omega)]; rfl
    · rw [if_neg c, show decide (mag 8 a / 4503599627370496 > 0) = false from decide_eq_false (by omega)]; rfl
  · simp only [r68_1, size_8 h, e1]
    rw [wrap_i64_of (n := mag 8 a / 4503599627370496) (by omega) (by omega)]
    by_cases c : 4503599627370496 ≤ mag 8 a
    · rw [if_pos c, show decide ((1 : Int) > mag 8 a / 4503599627370496) = false from decide_eq_false (by omega), cond_false, wrap_i64_of (n := mag 8 a / 4503599627370496 - 1023) (by omega) (by omega), wrap_i64_of (by omega) (by omega)]
    · rw [if_neg c, show decide ((1 : Int) > mag 8 a / 4503599627370496) = true from decide_eq_true (by omega), cond_true, wrap_i64_of (n := 1 - 1023) (by omega) (by omega), wrap_i64_of (by omega) (by omega)]
theorem p68_8 (a : Int) : p68 52 9223372036854775808 a = true := by
  simp only [p68, show decide ((52 : Int) ≥ 0) = true from by decide, ow_t, List.all_cons, List.all_nil, id, Bool.and_true]
theorem p78_8 (rm : Int) (minus : Bool) {M : Int} (e : Int) (h : U M) : p78 52 1023 rm minus M e = true := by
  have a : decide ((52 : Int) ≥ 0) = true := by decide
  have b : p83 52 = true := by decide
  simp only [p78, p115_ok, lz_nn h, p70_ok, a, b, ow_t, List.all_cons, List.all_nil, id, Bool.and_true]
theorem fin_U_8 {a : Int} (h : U a) : U (r68_0 52 9223372036854775808 a) := by
  have hm := mag_lt_8 a
  rw [(fin_8 h).1]
  split <;> constructor <;> omega
theorem cls_fin_8 (a : Int) : (cls 8 a = 6 ∧ 4503599627370496 ≤ mag 8 a ∧ mag 8 a < 9218868437227405312) ∨ (cls 8 a = 5 ∧ 0 < mag 8 a ∧ mag 8 a < 4503599627370496) ∨ (cls 8 a = 4 ∧ mag 8 a = 0) ∨ (cls 8 a = 7 ∧ mag 8 a = 9218868437227405312) ∨ (cls 8 a = 8 ∧ 9218868437227405312 < mag 8 a ∧ mag 8 a < qui 8) ∨ (cls 8 a = 9 ∧ qui 8 ≤ mag 8 a) := by
  have := cls_cases (s := 8) (by decide) a
  rw [show one 8 = 4503599627370496 from rfl, show inf 8 = 9218868437227405312 from rfl] at this
  omega

/-- The sign laid on a float's exponent x and fraction. -/
theorem pack_4 {x q : Int} (h1 : 1 ≤ x) (h2 : x ≤ 254) (h3 : 8388608 ≤ q) (h4 : q < 16777216) :
    ilor .u64 (ishl .u64 (IntKind.wrap .u64 x) 23) (ilandNot .u64 q (ishl .u64 1 23)) = x * 8388608 + (q - 8388608) := by
  have e1 : ishl .u64 (IntKind.wrap .u64 x) 23 = x * 8388608 := by
    rw [wrap_u64_of (by omega) (by omega), show ishl .u64 x 23 = _ from shl_of 23 (by decide), show ((2 ^ 23 : Nat) : Int) = 8388608 from by decide +kernel, wrap_u64_of (by omega) (by omega)]
  have e2 : ilandNot .u64 q (ishl .u64 1 23) = q - 8388608 := by
    rw [show ishl .u64 1 23 = 8388608 from by decide +kernel, landNot_bit (by omega) (by omega) 23 (by decide) (by decide +kernel)]
    omega
  rw [e1, e2, ilor_comm]
  have := lor_high (a := q - 8388608) (by omega) 23 (by rw [show ((2 ^ 23 : Nat) : Int) = 8388608 from by decide +kernel]; omega) x.toNat (m := x * 8388608) (by rw [Int.natCast_mul, show ((2 ^ 23 : Nat) : Int) = 8388608 from by decide +kernel]; omega) (by omega) (by decide)
  rw [this]; omega
theorem round_norm_4 (rm : Int) (minus : Bool) {M e q : Int} {n : Nat} (hn : n ≤ 63) (hz : r115_0 M = n) (h0 : 0 < M) (hM : M * ((2 ^ n : Nat) : Int) < 18446744073709551616) (hM1 : 9223372036854775808 ≤ M * ((2 ^ n : Nat) : Int)) (hq : M * ((2 ^ n : Nat) : Int) = q * 1099511627776)
    (h1 : 1 ≤ e - n + 40 - -149 + 1) (h2 : e - n + 40 - -149 + 1 ≤ 254) :
    r78_0 23 127 2147483648 rm minus M e = r82_0 2147483648 minus ((e - n + 40 - -149 + 1) * 8388608 + (q - 8388608)) ∧ r78_1 23 127 rm minus M e = 0 := by
  have e10 : ishl .u64 M n = q * 1099511627776 := (shl_eq hn (by omega) hM).trans hq
  have e11 : IntKind.wrap .i64 (e - n) = e - n := wrap_i64_of (by omega) (by omega)
  have e12 : IntKind.wrap .i64 (63 - 23) = 40 := by decide
  have e13 : IntKind.wrap .i64 (1 - 127) = -126 := by decide
  have e14 : IntKind.wrap .i64 (-126 - 23) = -149 := by decide
  have e15 : IntKind.wrap .i64 (e - n + 40) = e - n + 40 := wrap_i64_of (by omega) (by omega)
  have e16 : decide (e - n + 40 < -149) = false := decide_eq_false (by omega)
  obtain ⟨c0, c1⟩ := cut_ok rm minus (m := q * 1099511627776) (q := q) (n := 40) (by decide) (by decide) (by omega) (by rw [show ((2 ^ 40 : Nat) : Int) = 1099511627776 from by decide +kernel]) (by omega)
  have c0 : r70_0 rm minus (q * 1099511627776) 40 = q := c0
  have c1 : r70_1 (q * 1099511627776) 40 = true := c1
  have e37 : ishl .u64 2 23 = 16777216 := by decide +kernel
  have e38 : (q == 16777216) = false := by simp; omega
  have e44 : ishl .u64 1 23 = 8388608 := by decide +kernel
  have e45 : decide (q < 8388608) = false := decide_eq_false (by omega)
  have e49 : IntKind.wrap .i64 (e - n + 40 - -149) = e - n + 40 - -149 := wrap_i64_of (by omega) (by omega)
  have e50 : IntKind.wrap .i64 (e - n + 40 - -149 + 1) = e - n + 40 - -149 + 1 := wrap_i64_of (by omega) (by omega)
  have e51 : IntKind.wrap .i64 (2 * 127) = 254 := by decide
  have e52 : decide (e - n + 40 - -149 + 1 > 254) = false := decide_eq_false (by omega)
  have e76 := pack_4 h1 h2 (q := q) (by omega) (by omega)
  rw [e44] at e76
  constructor
  · simp only [r78_0, hz, e10, e11, e12, e13, e14, e15, e16, cond_false, c0, e37, e38, e44, e45, e49, e50, e51, e52, e76, Bool.not_false, cond_true]
  · simp only [r78_1, hz, e10, e11, e12, e13, e14, e15, e16, cond_false, c0, c1, e37, e38, e44, e45, e49, e50, e51, e52, Bool.not_false, Bool.not_true, cond_true]
theorem fin_4 {a : Int} (h : U a) : r68_0 23 2147483648 a = (if 8388608 ≤ mag 4 a then mag 4 a % 8388608 + 8388608 else mag 4 a) ∧
    r68_1 23 127 2147483648 a = (if 8388608 ≤ mag 4 a then mag 4 a / 8388608 else 1) - 127 - 23 := by
  have hm := mag_lt_4 a
  have e1 : ∀ m : Int, ishr .u64 m 23 = m / 8388608 := fun m => shr_of 23 (by decide) (by decide +kernel)
  have e2 : iland .u64 (mag 4 a) (IntKind.wrap .u64 (ishl .u64 1 23 - 1)) = mag 4 a % 8388608 := by
    have := low_bits (m := mag 4 a) (n := 23) (by decide) (by omega) (by omega)
    rw [show ((2 ^ 23 : Nat) : Int) = 8388608 from by decide +kernel] at this
    exact this
  have e3 : ilor .u64 (mag 4 a % 8388608) (ishl .u64 1 23) = mag 4 a % 8388608 + 8388608 := by
    rw [show ishl .u64 1 23 = 8388608 from by decide +kernel]
    exact lor_high (by omega) 23 (by rw [show ((2 ^ 23 : Nat) : Int) = 8388608 from by decide +kernel]; omega) 1 (by decide +kernel) (by decide) (by decide)
  constructor
  · simp only [r68_0, size_4 h, e1, e2, e3]
    by_cases c : 8388608 ≤ mag 4 a
    · rw [if_pos c, show decide (mag 4 a / 8388608 > 0) = true from decide_eq_true (by omega)]; rfl
    · rw [if_neg c, show decide (mag 4 a / 8388608 > 0) = false from decide_eq_false (by omega)]; rfl
  · simp only [r68_1, size_4 h, e1]
    rw [wrap_i64_of (n := mag 4 a / 8388608) (by omega) (by omega)]
    by_cases c : 8388608 ≤ mag 4 a
    · rw [if_pos c, show decide ((1 : Int) > mag 4 a / 8388608) = false from decide_eq_false (by omega), cond_false, wrap_i64_of (n := mag 4 a / 8388608 - 127) (by omega) (by omega), wrap_i64_of (by omega) (by omega)]
    · rw [if_neg c, show decide ((1 : Int) > mag 4 a / 8388608) = true from decide_eq_true (by omega), cond_true, wrap_i64_of (n := 1 - 127) (by omega) (by omega), wrap_i64_of (by omega) (by omega)]
theorem p68_4 (a : Int) : p68 23 2147483648 a = true := by
  simp only [p68, show decide ((23 : Int) ≥ 0) = true from by decide, ow_t, List.all_cons, List.all_nil, id, Bool.and_true]
theorem p78_4 (rm : Int) (minus : Bool) {M : Int} (e : Int) (h : U M) : p78 23 127 rm minus M e = true := by
  have a : decide ((23 : Int) ≥ 0) = true := by decide
  have b : p83 23 = true := by decide
  simp only [p78, p115_ok, lz_nn h, p70_ok, a, b, ow_t, List.all_cons, List.all_nil, id, Bool.and_true]
theorem fin_U_4 {a : Int} (h : U a) : U (r68_0 23 2147483648 a) := by
  have hm := mag_lt_4 a
  rw [(fin_4 h).1]
  split <;> constructor <;> omega
theorem cls_fin_4 (a : Int) : (cls 4 a = 6 ∧ 8388608 ≤ mag 4 a ∧ mag 4 a < 2139095040) ∨ (cls 4 a = 5 ∧ 0 < mag 4 a ∧ mag 4 a < 8388608) ∨ (cls 4 a = 4 ∧ mag 4 a = 0) ∨ (cls 4 a = 7 ∧ mag 4 a = 2139095040) ∨ (cls 4 a = 8 ∧ 2139095040 < mag 4 a ∧ mag 4 a < qui 4) ∨ (cls 4 a = 9 ∧ qui 4 ≤ mag 4 a) := by
  have := cls_cases (s := 4) (by decide) a
  rw [show one 4 = 8388608 from rfl, show inf 4 = 2139095040 from rfl] at this
  omega

theorem round_sub_4 (rm : Int) (minus : Bool) {M e q : Int} {n dr : Nat} (hn : n ≤ 63) (hz : r115_0 M = n) (h0 : 0 < M) (hM : M * ((2 ^ n : Nat) : Int) < 18446744073709551616) (hdr : e - n + dr = -149) (hd0 : 40 < dr) (hd1 : dr ≤ 63)
    (hq : M * ((2 ^ n : Nat) : Int) = q * ((2 ^ dr : Nat) : Int)) (hq0 : 0 < q) (hq1 : q < 8388608) :
    r78_0 23 127 2147483648 rm minus M e = r82_0 2147483648 minus q ∧ r78_1 23 127 rm minus M e = 0 := by
  have e10 : ishl .u64 M n = q * ((2 ^ dr : Nat) : Int) := (shl_eq hn (by omega) hM).trans hq
  have e11 : IntKind.wrap .i64 (e - n) = e - n := wrap_i64_of (by omega) (by omega)
  have e12 : IntKind.wrap .i64 (63 - 23) = 40 := by decide
  have e13 : IntKind.wrap .i64 (1 - 127) = -126 := by decide
  have e14 : IntKind.wrap .i64 (-126 - 23) = -149 := by decide
  have e15 : IntKind.wrap .i64 (e - n + 40) = e - n + 40 := wrap_i64_of (by omega) (by omega)
  have e16 : decide (e - n + 40 < -149) = true := decide_eq_true (by omega)
  have e27 : IntKind.wrap .i64 (-149 - (e - n)) = dr := by rw [wrap_i64_of (by omega) (by omega)]; omega
  obtain ⟨c0, c1⟩ := cut_ok rm minus (m := q * ((2 ^ dr : Nat) : Int)) (q := q) (n := dr) (by omega) hd1 hq0 rfl (by rw [← hq]; exact hM)
  have e37 : ishl .u64 2 23 = 16777216 := by decide +kernel
  have e38 : (q == 16777216) = false := by simp; omega
  have e44 : ishl .u64 1 23 = 8388608 := by decide +kernel
  have e45 : decide (q < 8388608) = true := decide_eq_true (by omega)
  constructor
  · simp only [r78_0, hz, e10, e11, e12, e13, e14, e15, e16, e27, cond_true, c0, e37, e38, cond_false, e44, e45, Bool.not_true]
  · simp only [r78_1, hz, e10, e11, e12, e13, e14, e15, e16, e27, cond_true, c0, c1, e37, e38, cond_false, e44, e45, Bool.not_true]
/-- Whether a whole number has room. -/
theorem round_flag_8 (rm : Int) (minus : Bool) {M : Int} {n : Nat} (hn : n ≤ 63) (hz : r115_0 M = n) (h0 : 0 < M) (hM : M * ((2 ^ n : Nat) : Int) < 18446744073709551616) :
    r78_1 52 1023 rm minus M 0 = if M * ((2 ^ n : Nat) : Int) % 2048 = 0 then 0 else 1 := by
  have hp := (pow_le_63 hn).2
  have hm0 : 0 < M * ((2 ^ n : Nat) : Int) := Int.mul_pos h0 hp
  have e10 : ishl .u64 M n = M * ((2 ^ n : Nat) : Int) := shl_eq hn (by omega) hM
  generalize M * ((2 ^ n : Nat) : Int) = m at *
  have e11 : IntKind.wrap .i64 (0 - (n : Int)) = 0 - n := wrap_i64_of (by omega) (by omega)
  have e12 : IntKind.wrap .i64 (63 - 52) = 11 := by decide
  have e13 : IntKind.wrap .i64 (1 - 1023) = -1022 := by decide
  have e14 : IntKind.wrap .i64 (-1022 - 52) = -1074 := by decide
  have e15 : IntKind.wrap .i64 (0 - (n : Int) + 11) = 0 - n + 11 := wrap_i64_of (by omega) (by omega)
  have e16 : decide (0 - (n : Int) + 11 < -1074) = false := decide_eq_false (by omega)
  have c1 : r70_1 m 11 = (m % 2048 == 0) := by
    have := cut_flag (m := m) (n := 11) (by decide) (by decide) hm0 hM
    rw [show ((2 ^ 11 : Nat) : Int) = 2048 from by decide +kernel] at this
    exact this
  have e12' : IntKind.wrap .i64 (11 + 1) = 12 := by decide
  have e51 : IntKind.wrap .i64 (2 * 1023) = 2046 := by decide
  have e52 : ∀ b : Bool, decide (IntKind.wrap .i64 (IntKind.wrap .i64 (IntKind.wrap .i64 (0 - (n : Int) + (bif b then 12 else 11)) - -1074) + 1) > 2046) = false := by
    intro b
    apply decide_eq_false
    cases b
    · simp only [cond_false]
      rw [wrap_i64_of (n := 0 - (n : Int) + 11) (by omega) (by omega), wrap_i64_of (n := 0 - (n : Int) + 11 - -1074) (by omega) (by omega), wrap_i64_of (by omega) (by omega)]
      omega
    · simp only [cond_true]
      rw [wrap_i64_of (n := 0 - (n : Int) + 12) (by omega) (by omega), wrap_i64_of (n := 0 - (n : Int) + 12 - -1074) (by omega) (by omega), wrap_i64_of (by omega) (by omega)]
      omega
  simp only [r78_1, hz, e10, e11, e12, e13, e14, e15, e16, cond_false, c1, e12', e51, e52, Bool.false_and, Bool.not_false, cond_true, Bool.cond_self]
  by_cases c : m % 2048 = 0
  · rw [if_pos c, c]; rfl
  · rw [if_neg c, show (m % 2048 == 0) = false from by simpa using c]; rfl

/-! ### A float of 4 bytes there and back -/
theorem known_of {s r : Int} (hs : s = 4 ∨ s = 8) (h0 : 0 ≤ r) (h1 : r ≤ 4) : r64_0 s r = true := by
  have a : decide (r ≥ 0) = true := decide_eq_true h0
  have b : decide (r ≤ 4) = true := decide_eq_true h1
  rcases hs with rfl | rfl <;> simp only [r64_0, a, b] <;> rfl
theorem c12 : IntKind.wrap .i64 (12 - 8) = 4 ∧ IntKind.wrap .i64 (12 - 4) = 8 := by decide
theorem kk4 : r62_0 4 = 23 ∧ r62_1 4 = 127 ∧ r62_2 4 = 2147483648 := by decide
theorem kk8 : r62_0 8 = 52 ∧ r62_1 8 = 1023 ∧ r62_2 8 = 9223372036854775808 := by decide
theorem p29_8 {r a : Int} (h : U a) : p29 8 r a = true := by
  have e := p67_4 a
  have e1 : p63 52 = true := by decide
  have e2 : p83 52 = true := by decide
  simp only [p29, c12, kk4, kk8, e, e1, e2, p68_4, p78_8 _ _ _ (fin_U_4 h), ow_t, List.all_cons, List.all_nil, id, Bool.and_true]
theorem p29_4 {r a : Int} (h : U a) : p29 4 r a = true := by
  have e := p67_8 a
  have e1 : p63 23 = true := by decide
  have e2 : p83 23 = true := by decide
  simp only [p29, c12, kk4, kk8, e, e1, e2, p68_8, p78_4 _ _ _ (fin_U_8 h), ow_t, List.all_cons, List.all_nil, id, Bool.and_true]
/-- What Convert gives, by the class of what it is given. -/
def cvt (c w z n r : Int) : Int := if c = 8 ∨ c = 9 then n else if c = 7 then w else if c = 4 then z else r
theorem cvt_8 {r a : Int} (h : U a) (h0 : 0 ≤ r) (h1 : r ≤ 4) : r29_0 8 r a = cvt (cls 4 a) (r82_0 9223372036854775808 (sgn 4 a) (inf 8)) (r82_0 9223372036854775808 (sgn 4 a) 0) (qui 8) (r78_0 52 1023 9223372036854775808 r (sgn 4 a) (r68_0 23 2147483648 a) (r68_1 23 127 2147483648 a)) ∧
    r29_1 8 r a = cvt (cls 4 a) 0 0 (if cls 4 a = 8 then 16 else 0) (r78_1 52 1023 r (sgn 4 a) (r68_0 23 2147483648 a) (r68_1 23 127 2147483648 a)) := by
  have e3 : r63_0 52 1023 = qui 8 := by decide +kernel
  have e4 : r83_0 52 1023 = inf 8 := by decide +kernel
  simp only [r29_0, r29_1, known_of (s := 8) (.inr rfl) h0 h1, c12, kk4, kk8, class_4 h, minus_4 h, e3, e4]
  rcases cls_fin_4 a with ⟨c, _⟩ | ⟨c, _⟩ | ⟨c, _⟩ | ⟨c, _⟩ | ⟨c, _⟩ | ⟨c, _⟩ <;> rw [c] <;> exact ⟨rfl, rfl⟩
theorem cvt_4 {r a : Int} (h : U a) (h0 : 0 ≤ r) (h1 : r ≤ 4) : r29_0 4 r a = cvt (cls 8 a) (r82_0 2147483648 (sgn 8 a) (inf 4)) (r82_0 2147483648 (sgn 8 a) 0) (qui 4) (r78_0 23 127 2147483648 r (sgn 8 a) (r68_0 52 9223372036854775808 a) (r68_1 52 1023 9223372036854775808 a)) ∧
    r29_1 4 r a = cvt (cls 8 a) 0 0 (if cls 8 a = 8 then 16 else 0) (r78_1 23 127 r (sgn 8 a) (r68_0 52 9223372036854775808 a) (r68_1 52 1023 9223372036854775808 a)) := by
  have e3 : r63_0 23 127 = qui 4 := by decide +kernel
  have e4 : r83_0 23 127 = inf 4 := by decide +kernel
  simp only [r29_0, r29_1, known_of (s := 4) (.inl rfl) h0 h1, c12, kk4, kk8, class_8 h, minus_8 h, e3, e4]
  rcases cls_fin_8 a with ⟨c, _⟩ | ⟨c, _⟩ | ⟨c, _⟩ | ⟨c, _⟩ | ⟨c, _⟩ | ⟨c, _⟩ <;> rw [c] <;> exact ⟨rfl, rfl⟩
theorem sgn_mk_8 {m : Int} (b : Bool) (h0 : 0 ≤ m) (h1 : m < 9223372036854775808) : U (r82_0 9223372036854775808 b m) ∧ sgn 8 (r82_0 9223372036854775808 b m) = b ∧ mag 8 (r82_0 9223372036854775808 b m) = m := by
  rw [signed_8 b h0 h1]
  cases b
  · refine ⟨⟨by simp; omega, by simp; omega⟩, ?_, ?_⟩
    · show decide (_ / 9223372036854775808 % 2 = 1) = false
      apply decide_eq_false; simp; omega
    · show _ % 9223372036854775808 = m
      simp; omega
  · refine ⟨⟨by simp; omega, by simp; omega⟩, ?_, ?_⟩
    · show decide (_ / 9223372036854775808 % 2 = 1) = true
      apply decide_eq_true; simp; omega
    · show _ % 9223372036854775808 = m
      simp; omega
theorem back_4 {a : Int} : r82_0 2147483648 (sgn 4 a) (mag 4 a) = a % 4294967296 := by
  have hm := mag_lt_4 a
  rw [signed_4 _ hm.1 hm.2]
  show (if decide (a / 2147483648 % 2 = 1) = true then a % 2147483648 + 2147483648 else a % 2147483648) = _
  simp only [decide_eq_true_eq]
  split <;> omega
/-- What is finite, and not nought: through 8 bytes, and back. -/
theorem there_back {r a : Int} (h : U a) (h0 : 0 ≤ r) (h1 : r ≤ 4) (hc : cls 4 a = 5 ∨ cls 4 a = 6) : r29_1 8 r a = 0 ∧ U (r29_0 8 r a) ∧ r29_1 4 r (r29_0 8 r a) = 0 ∧ r29_0 4 r (r29_0 8 r a) = a % 4294967296 := by
  obtain ⟨e0, e1⟩ := cvt_8 (r := r) h h0 h1
  obtain ⟨f0, f1⟩ := fin_4 h
  have hm := mag_lt_4 a
  have hcf := cls_fin_4 a
  have hcv : ∀ w z n q : Int, cvt (cls 4 a) w z n q = q := by
    intro w z n q
    unfold cvt
    rw [if_neg (by omega), if_neg (by omega), if_neg (by omega)]
  rw [hcv] at e0 e1
  -- m and e of the float
  have hme : 0 < r68_0 23 2147483648 a ∧ r68_0 23 2147483648 a < 16777216 ∧ -149 ≤ r68_1 23 127 2147483648 a ∧ r68_1 23 127 2147483648 a ≤ 104 ∧
      ((8388608 ≤ r68_0 23 2147483648 a ∧ mag 4 a = (r68_1 23 127 2147483648 a + 150) * 8388608 + (r68_0 23 2147483648 a - 8388608)) ∨ (r68_0 23 2147483648 a < 8388608 ∧ r68_1 23 127 2147483648 a = -149 ∧ mag 4 a = r68_0 23 2147483648 a)) := by
    rw [f0, f1]
    by_cases c : 8388608 ≤ mag 4 a
    · rw [if_pos c, if_pos c]
      refine ⟨by omega, by omega, by omega, by omega, .inl ⟨by omega, by omega⟩⟩
    · rw [if_neg c, if_neg c]
      refine ⟨by omega, by omega, by omega, by omega, .inr ⟨by omega, by omega, rfl⟩⟩
  generalize r68_0 23 2147483648 a = m at e0 e1 hme
  generalize r68_1 23 127 2147483648 a = e at e0 e1 hme
  clear f0 f1
  obtain ⟨m0, m1, el, eu, hcase⟩ := hme
  obtain ⟨n, hn, hz, hM1, hM⟩ := lz_ok (x := m) m0 (by omega)
  have hn40 : 40 ≤ n := by
    apply Nat.le_of_not_lt
    intro hlt
    have : 2 ^ n ≤ 2 ^ 39 := Nat.pow_le_pow_right (by decide) (by omega)
    have e39 : (2 : Nat) ^ 39 = 549755813888 := by decide +kernel
    rw [e39] at this
    have hp := (pow_le_63 hn).2
    have h3 : m * ((2 ^ n : Nat) : Int) ≤ 16777215 * ((2 ^ n : Nat) : Int) := Int.mul_le_mul_of_nonneg_right (by omega) (Int.le_of_lt hp)
    omega
  have hq : m * ((2 ^ n : Nat) : Int) = (m * ((2 ^ (n - 11) : Nat) : Int)) * 2048 := by
    have : 2 ^ n = 2 ^ (n - 11) * 2048 := by rw [show (2048 : Nat) = 2 ^ 11 from by decide, ← Nat.pow_add]; congr 1; omega
    rw [this, Int.natCast_mul, Int.mul_assoc]; rfl
  generalize hQ : m * ((2 ^ (n - 11) : Nat) : Int) = q at hq
  obtain ⟨g0, g1⟩ := round_norm_8 r (sgn 4 a) (M := m) (e := e) (q := q) hn hz m0 hM hM1 hq (by omega) (by omega)
  rw [g0] at e0
  rw [g1] at e1
  obtain ⟨bU, bs, bm⟩ := sgn_mk_8 (m := (e - n + 11 - -1074 + 1) * 4503599627370496 + (q - 4503599627370496)) (sgn 4 a) (by omega) (by omega)
  rw [← e0] at bU bs bm
  generalize r29_0 8 r a = b at *
  obtain ⟨u0, u1⟩ := cvt_4 (r := r) bU h0 h1
  obtain ⟨v0, v1⟩ := fin_8 bU
  have hcf8 := cls_fin_8 b
  rw [show qui 8 = 9221120237041090560 from rfl] at hcf8
  have hcv8 : ∀ w z n q : Int, cvt (cls 8 b) w z n q = q := by
    intro w z n q
    unfold cvt
    rw [if_neg (by omega), if_neg (by omega), if_neg (by omega)]
  rw [hcv8, v0, v1, bs, if_pos (by omega), if_pos (by omega), bm] at u0
  rw [hcv8, v0, v1, bs, if_pos (by omega), if_pos (by omega), bm] at u1
  have w0 : ((e - n + 11 - -1074 + 1) * 4503599627370496 + (q - 4503599627370496)) % 4503599627370496 + 4503599627370496 = q := by omega
  have w1 : ((e - n + 11 - -1074 + 1) * 4503599627370496 + (q - 4503599627370496)) / 4503599627370496 - 1023 - 52 = e - n + 11 := by omega
  rw [w0, w1] at u0 u1
  refine ⟨e1, bU, ?_⟩
  have hz2 := lz_11 (x := q) (by omega) (by omega)
  have P11 : ((2 ^ 11 : Nat) : Int) = 2048 := by decide +kernel
  rcases hcase with ⟨hc1, hc2⟩ | ⟨hc1, hc2, hc3⟩
  · have hn2 : n = 40 := by
      apply Nat.le_antisymm _ hn40
      apply Nat.le_of_not_lt
      intro hlt
      have : 2 ^ 41 ≤ 2 ^ n := Nat.pow_le_pow_right (by decide) (by omega)
      have e41 : (2 : Nat) ^ 41 = 2199023255552 := by decide +kernel
      rw [e41] at this
      have h3 : 8388608 * ((2 ^ n : Nat) : Int) ≤ m * ((2 ^ n : Nat) : Int) := Int.mul_le_mul_of_nonneg_right (by omega) (by omega)
      omega
    subst hn2
    have P40 : ((2 ^ 40 : Nat) : Int) = 1099511627776 := by decide +kernel
    rw [P40] at hq
    obtain ⟨x0, x1⟩ := round_norm_4 r (sgn 4 a) (M := q) (e := e - ((40 : Nat) : Int) + 11) (q := m) (n := 11) (by decide) hz2 (by omega) (by rw [P11]; omega) (by rw [P11]; omega) (by rw [P11]; omega) (by omega) (by omega)
    rw [x0] at u0
    rw [x1] at u1
    refine ⟨u1, ?_⟩
    rw [u0, ← back_4, hc2]
    congr 1
    omega
  · have hn41 : 40 < n := by
      apply Nat.lt_of_not_le
      intro hle
      have : n = 40 := by omega
      subst this
      have P40 : ((2 ^ 40 : Nat) : Int) = 1099511627776 := by decide +kernel
      rw [P40] at hM1
      omega
    obtain ⟨x0, x1⟩ := round_sub_4 r (sgn 4 a) (M := q) (e := e - n + 11) (q := m) (n := 11) (dr := n) (by decide) hz2 (by omega) (by rw [P11]; omega) (by omega) hn41 hn (by rw [P11]; omega) m0 hc1
    rw [x0] at u0
    rw [x1] at u1
    refine ⟨u1, ?_⟩
    rw [u0, ← hc3, back_4]
end Go.Proofs.Ytacciadcmiiimaa
