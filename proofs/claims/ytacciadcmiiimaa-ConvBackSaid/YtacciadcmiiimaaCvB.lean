/- Floats in parts: what the statements' scalar functions come to. Printed by CvB.py. -/
import Derived.Test.YtacciadcmiiimaaCvA2
import Derived.Test.YtacciadcmiiimaaSyBits
namespace Go.Proofs.Ytacciadcmiiimaa
open Go Go.Sx
set_option maxRecDepth 100000

def U (a : Int) : Prop := 0 ≤ a ∧ a < 18446744073709551616

/-! ### By the size -/
/-- The greatest magnitude and one; the first of the exponents' place; infinity; the first quiet one. -/
def top (s : Int) : Int := if s = 4 then 2147483648 else 9223372036854775808
def one (s : Int) : Int := if s = 4 then 8388608 else 4503599627370496
def inf (s : Int) : Int := if s = 4 then 2139095040 else 9218868437227405312
def qui (s : Int) : Int := if s = 4 then 2143289344 else 9221120237041090560
def mag (s a : Int) : Int := a % top s
def sgn (s a : Int) : Bool := decide (a / top s % 2 = 1)
/-- a float's class, without its sign -/
def cls (s a : Int) : Int :=
  if qui s ≤ mag s a then 9 else if inf s < mag s a then 8 else if mag s a = inf s then 7 else if one s ≤ mag s a then 6 else if 0 < mag s a then 5 else 4
theorem ow_t (l : List (Bool × Bool)) : ow l true = true := by simp [ow]

section
variable {a : Int} (h : U a)
include h
omit h in
theorem mag_lt_4 (a : Int) : 0 ≤ mag 4 a ∧ mag 4 a < 2147483648 := by
  show 0 ≤ a % 2147483648 ∧ a % 2147483648 < 2147483648
  omega
theorem size_4 : r86_0 2147483648 a = mag 4 a := by
  show iland .u64 a (IntKind.wrap .u64 (2147483648 - 1)) = a % 2147483648
  exact land_mask h.1 h.2 31 (by decide) (by decide) (by decide)
theorem minus_4 : r65_0 2147483648 a = sgn 4 a := by
  show (iland .u64 a 2147483648 != 0) = decide (a / 2147483648 % 2 = 1)
  rw [land_bit h.1 h.2 31 (by decide) (by decide)]
  rw [Bool.eq_iff_iff]; simp; omega
theorem class_4 : r67_0 23 127 2147483648 a = cls 4 a := by
  have hm := mag_lt_4 a
  have e1 : r83_0 23 127 = 2139095040 := by decide +kernel
  have e2 : ∀ m : Int, ishr .u64 m (IntKind.wrap .i64 (23 - 1)) = m / 4194304 := fun m => by
    rw [show IntKind.wrap .i64 (23 - 1) = ((22 : Nat) : Int) from by decide]
    exact shr_of 22 (by decide) (by decide)
  have e3 : ∀ m : Int, ishr .u64 m 23 = m / 8388608 := fun m => shr_of 23 (by decide) (by decide)
  have e4 : iland .u64 (mag 4 a / 4194304) 1 = mag 4 a / 4194304 % 2 := land_mask (by omega) (by omega) 1 (by decide) (by decide) (by decide)
  simp only [r67_0, size_4 h, e1, e2, e3, e4]
  unfold cls
  rw [show inf 4 = 2139095040 from rfl, show qui 4 = 2143289344 from rfl, show one 4 = 8388608 from rfl]
  generalize mag 4 a = m at *
  (simp only [bl] <;> (repeat' split) <;> omega)
omit h in
theorem signed_4 {m : Int} (b : Bool) (h0 : 0 ≤ m) (h1 : m < 2147483648) : r82_0 2147483648 b m = if b then m + 2147483648 else m := by
  simp only [r82_0]
  rw [lor_bit h0 (by omega) 31 (by decide) (by decide), if_neg (by omega)]
  cases b <;> rfl
theorem rank_4 : r87_0 2147483648 a = if sgn 4 a then -1 - mag 4 a else mag 4 a := by
  have hm := mag_lt_4 a
  simp only [r87_0, size_4 h, minus_4 h]
  rw [wrap_i64_of (by omega) (by omega), lxor_neg1 (by omega) (by omega)]
  cases sgn 4 a <;> rfl
theorem mask_4 : r42_0 4 a = mag 4 a + if sgn 4 a then 2147483648 else 0 := by
  have h' := h.1
  have h'' := h.2
  have e : r42_0 4 a = a % 4294967296 := by
    show iland .u64 a 4294967295 = _
    exact land_mask h.1 h.2 32 (by decide) (by decide) (by decide)
  rw [e]
  show _ = a % 2147483648 + if decide (a / 2147483648 % 2 = 1) = true then 2147483648 else 0
  simp only [decide_eq_true_eq]
  split <;> omega
theorem msplit_4 : r42_0 4 a / 2147483648 = (if sgn 4 a then 1 else 0) ∧ r42_0 4 a % 2147483648 = mag 4 a ∧ 0 ≤ r42_0 4 a ∧ r42_0 4 a < 2 * 2147483648 := by
  have hm := mag_lt_4 a
  rw [mask_4 h]
  cases sgn 4 a <;> simp <;> omega
theorem parts0_4 : r90_0 4 a = sgn 4 a := by
  have hm := msplit_4 h
  simp only [r90_0]
  rw [show IntKind.wrap .i64 (r89_0 4 + r89_1 4) = ((31 : Nat) : Int) from by decide, shr_of 31 (by decide) (p := 2147483648) (by decide), hm.1]
  cases sgn 4 a <;> rfl
theorem parts1_4 : r90_1 4 a = mag 4 a / 8388608 := by
  have hm := msplit_4 h
  have hl := mag_lt_4 a
  simp only [r90_1]
  rw [show r89_0 4 = ((23 : Nat) : Int) from by decide, shr_of 23 (by decide) (p := 8388608) (by decide), show IntKind.wrap .u64 (ishl .u64 1 (r89_1 4) - 1) = 255 from by decide,
    land_mask (by omega) (by omega) 8 (by decide) (p := 255 + 1) (by decide) (by decide), wrap_i64_of (by omega) (by omega)]
  omega
theorem parts2_4 : r90_2 4 a = mag 4 a % 8388608 := by
  have hm := msplit_4 h
  have hl := mag_lt_4 a
  simp only [r90_2]
  rw [show IntKind.wrap .u64 (ishl .u64 1 (r89_0 4) - 1) = 8388608 - 1 from by decide, land_mask (by omega) (by omega) 23 (by decide) (p := 8388608) (by decide) (by decide)]
  omega
theorem nan_4 : r39_0 4 a = decide (inf 4 < mag 4 a) := by
  have hl := mag_lt_4 a
  simp only [r39_0, parts1_4 h, parts2_4 h]
  rw [show IntKind.wrap .i64 (ishl .i64 1 (r89_1 4) - 1) = 255 from by decide, show inf 4 = 2139095040 from rfl, Bool.eq_iff_iff]
  simp only [bl]
  omega
theorem loud_4 : r41_0 4 a = decide (inf 4 < mag 4 a ∧ mag 4 a < qui 4) := by
  have hl := mag_lt_4 a
  simp only [r41_0, parts2_4 h, nan_4 h]
  rw [show IntKind.wrap .i64 (r89_0 4 - 1) = ((22 : Nat) : Int) from by decide, shr_of 22 (by decide) (p := 4194304) (by decide), show inf 4 = 2139095040 from rfl, show qui 4 = 2143289344 from rfl, Bool.eq_iff_iff]
  simp only [bl]
  omega
theorem isinf_4 : r56_0 4 a = decide (mag 4 a = inf 4) := by
  have hl := mag_lt_4 a
  simp only [r56_0, parts1_4 h, parts2_4 h]
  rw [show IntKind.wrap .i64 (ishl .i64 1 (r89_1 4) - 1) = 255 from by decide, show inf 4 = 2139095040 from rfl, Bool.eq_iff_iff]
  simp only [bl]
  omega
theorem zero_4 : r61_0 4 a = decide (mag 4 a = 0) := by
  have hl := mag_lt_4 a
  simp only [r61_0, parts1_4 h, parts2_4 h]
  rw [Bool.eq_iff_iff]
  simp only [bl]
  omega
omit h in
theorem nought_4 (b : Bool) : r85_0 4 b = if b then 2147483648 else 0 := by cases b <;> decide +kernel
theorem off_4 : ilandNot .u64 (r42_0 4 a) 2147483648 = mag 4 a := by
  have hm := msplit_4 h
  rw [landNot_bit (by omega) (by omega) 31 (by decide) (by decide), ← hm.2.1]
  omega
theorem order_4 : r88_0 4 a = if sgn 4 a then -1 - mag 4 a else mag 4 a := by
  have hl := mag_lt_4 a
  simp only [r88_0, r74_0, parts0_4 h, nought_4]
  rw [if_pos trivial, off_4 h, wrap_i64_of (n := mag 4 a) (by omega) (by omega), wrap_i64_of (n := 0 - mag 4 a) (by omega) (by omega), wrap_i64_of (by omega) (by omega)]
  cases sgn 4 a <;> simp <;> omega
omit h in
theorem p67_4 (a : Int) : p67 23 127 2147483648 a = true := by
  have e5 : p83 23 = true := by decide +kernel
  have e6 : decide (IntKind.wrap .i64 (23 - 1) ≥ 0) = true := by decide
  have e7 : decide ((23 : Int) ≥ 0) = true := by decide
  simp only [p67, e5, e6, e7, ow_t, List.all_cons, List.all_nil, id, Bool.and_true]
omit h in
theorem mag_lt_8 (a : Int) : 0 ≤ mag 8 a ∧ mag 8 a < 9223372036854775808 := by
  show 0 ≤ a % 9223372036854775808 ∧ a % 9223372036854775808 < 9223372036854775808
  omega
theorem size_8 : r86_0 9223372036854775808 a = mag 8 a := by
  show iland .u64 a (IntKind.wrap .u64 (9223372036854775808 - 1)) = a % 9223372036854775808
  exact land_mask h.1 h.2 63 (by decide) (by decide) (by decide)
theorem minus_8 : r65_0 9223372036854775808 a = sgn 8 a := by
  show (iland .u64 a 9223372036854775808 != 0) = decide (a / 9223372036854775808 % 2 = 1)
  rw [land_bit h.1 h.2 63 (by decide) (by decide)]
  rw [Bool.eq_iff_iff]; simp; omega
theorem class_8 : r67_0 52 1023 9223372036854775808 a = cls 8 a := by
  have hm := mag_lt_8 a
  have e1 : r83_0 52 1023 = 9218868437227405312 := by decide +kernel
  have e2 : ∀ m : Int, ishr .u64 m (IntKind.wrap .i64 (52 - 1)) = m / 2251799813685248 := fun m => by
    rw [show IntKind.wrap .i64 (52 - 1) = ((51 : Nat) : Int) from by decide]
    exact shr_of 51 (by decide) (by decide)
  have e3 : ∀ m : Int, ishr .u64 m 52 = m / 4503599627370496 := fun m => shr_of 52 (by decide) (by decide)
  have e4 : iland .u64 (mag 8 a / 2251799813685248) 1 = mag 8 a / 2251799813685248 % 2 := land_mask (by omega) (by omega) 1 (by decide) (by decide) (by decide)
  simp only [r67_0, size_8 h, e1, e2, e3, e4]
  unfold cls
  rw [show inf 8 = 9218868437227405312 from rfl, show qui 8 = 9221120237041090560 from rfl, show one 8 = 4503599627370496 from rfl]
  generalize mag 8 a = m at *
  (simp only [bl] <;> (repeat' split) <;> omega)
omit h in
theorem signed_8 {m : Int} (b : Bool) (h0 : 0 ≤ m) (h1 : m < 9223372036854775808) : r82_0 9223372036854775808 b m = if b then m + 9223372036854775808 else m := by
  simp only [r82_0]
  rw [lor_bit h0 (by omega) 63 (by decide) (by decide), if_neg (by omega)]
  cases b <;> rfl
theorem rank_8 : r87_0 9223372036854775808 a = if sgn 8 a then -1 - mag 8 a else mag 8 a := by
  have hm := mag_lt_8 a
  simp only [r87_0, size_8 h, minus_8 h]
  rw [wrap_i64_of (by omega) (by omega), lxor_neg1 (by omega) (by omega)]
  cases sgn 8 a <;> rfl
theorem mask_8 : r42_0 8 a = mag 8 a + if sgn 8 a then 9223372036854775808 else 0 := by
  have h' := h.1
  have h'' := h.2
  have e : r42_0 8 a = a := rfl
  rw [e]
  show _ = a % 9223372036854775808 + if decide (a / 9223372036854775808 % 2 = 1) = true then 9223372036854775808 else 0
  simp only [decide_eq_true_eq]
  split <;> omega
theorem msplit_8 : r42_0 8 a / 9223372036854775808 = (if sgn 8 a then 1 else 0) ∧ r42_0 8 a % 9223372036854775808 = mag 8 a ∧ 0 ≤ r42_0 8 a ∧ r42_0 8 a < 2 * 9223372036854775808 := by
  have hm := mag_lt_8 a
  rw [mask_8 h]
  cases sgn 8 a <;> simp <;> omega
theorem parts0_8 : r90_0 8 a = sgn 8 a := by
  have hm := msplit_8 h
  simp only [r90_0]
  rw [show IntKind.wrap .i64 (r89_0 8 + r89_1 8) = ((63 : Nat) : Int) from by decide, shr_of 63 (by decide) (p := 9223372036854775808) (by decide), hm.1]
  cases sgn 8 a <;> rfl
theorem parts1_8 : r90_1 8 a = mag 8 a / 4503599627370496 := by
  have hm := msplit_8 h
  have hl := mag_lt_8 a
  simp only [r90_1]
  rw [show r89_0 8 = ((52 : Nat) : Int) from by decide, shr_of 52 (by decide) (p := 4503599627370496) (by decide), show IntKind.wrap .u64 (ishl .u64 1 (r89_1 8) - 1) = 2047 from by decide,
    land_mask (by omega) (by omega) 11 (by decide) (p := 2047 + 1) (by decide) (by decide), wrap_i64_of (by omega) (by omega)]
  omega
theorem parts2_8 : r90_2 8 a = mag 8 a % 4503599627370496 := by
  have hm := msplit_8 h
  have hl := mag_lt_8 a
  simp only [r90_2]
  rw [show IntKind.wrap .u64 (ishl .u64 1 (r89_0 8) - 1) = 4503599627370496 - 1 from by decide, land_mask (by omega) (by omega) 52 (by decide) (p := 4503599627370496) (by decide) (by decide)]
  omega
theorem nan_8 : r39_0 8 a = decide (inf 8 < mag 8 a) := by
  have hl := mag_lt_8 a
  simp only [r39_0, parts1_8 h, parts2_8 h]
  rw [show IntKind.wrap .i64 (ishl .i64 1 (r89_1 8) - 1) = 2047 from by decide, show inf 8 = 9218868437227405312 from rfl, Bool.eq_iff_iff]
  simp only [bl]
  omega
theorem loud_8 : r41_0 8 a = decide (inf 8 < mag 8 a ∧ mag 8 a < qui 8) := by
  have hl := mag_lt_8 a
  simp only [r41_0, parts2_8 h, nan_8 h]
  rw [show IntKind.wrap .i64 (r89_0 8 - 1) = ((51 : Nat) : Int) from by decide, shr_of 51 (by decide) (p := 2251799813685248) (by decide), show inf 8 = 9218868437227405312 from rfl, show qui 8 = 9221120237041090560 from rfl, Bool.eq_iff_iff]
  simp only [bl]
  omega
theorem isinf_8 : r56_0 8 a = decide (mag 8 a = inf 8) := by
  have hl := mag_lt_8 a
  simp only [r56_0, parts1_8 h, parts2_8 h]
  rw [show IntKind.wrap .i64 (ishl .i64 1 (r89_1 8) - 1) = 2047 from by decide, show inf 8 = 9218868437227405312 from rfl, Bool.eq_iff_iff]
  simp only [bl]
  omega
theorem zero_8 : r61_0 8 a = decide (mag 8 a = 0) := by
  have hl := mag_lt_8 a
  simp only [r61_0, parts1_8 h, parts2_8 h]
  rw [Bool.eq_iff_iff]
  simp only [bl]
  omega
omit h in
theorem nought_8 (b : Bool) : r85_0 8 b = if b then 9223372036854775808 else 0 := by cases b <;> decide +kernel
theorem off_8 : ilandNot .u64 (r42_0 8 a) 9223372036854775808 = mag 8 a := by
  have hm := msplit_8 h
  rw [landNot_bit (by omega) (by omega) 63 (by decide) (by decide), ← hm.2.1]
  omega
theorem order_8 : r88_0 8 a = if sgn 8 a then -1 - mag 8 a else mag 8 a := by
  have hl := mag_lt_8 a
  simp only [r88_0, r74_0, parts0_8 h, nought_8]
  rw [if_pos trivial, off_8 h, wrap_i64_of (n := mag 8 a) (by omega) (by omega), wrap_i64_of (n := 0 - mag 8 a) (by omega) (by omega), wrap_i64_of (by omega) (by omega)]
  cases sgn 8 a <;> simp <;> omega
omit h in
theorem p67_8 (a : Int) : p67 52 1023 9223372036854775808 a = true := by
  have e5 : p83 52 = true := by decide +kernel
  have e6 : decide (IntKind.wrap .i64 (52 - 1) ≥ 0) = true := by decide
  have e7 : decide ((52 : Int) ≥ 0) = true := by decide
  simp only [p67, e5, e6, e7, ow_t, List.all_cons, List.all_nil, id, Bool.and_true]

end

/-! ### For both sizes -/
section
variable {s : Int} (hs : s = 4 ∨ s = 8) {a : Int} (h : U a)
include hs
theorem g_const : 0 < one s ∧ one s < inf s ∧ inf s < qui s ∧ qui s < top s ∧ top s ≤ 9223372036854775808 := by rcases hs with rfl | rfl <;> decide
theorem g_mag (a : Int) : 0 ≤ mag s a ∧ mag s a < top s := by exact hs.elim (fun e => by subst e; exact mag_lt_4 a) (fun e => by subst e; exact mag_lt_8 a)
include h
theorem g_size : r86_0 (r62_2 s) a = mag s a := by exact hs.elim (fun e => by subst e; exact size_4 h) (fun e => by subst e; exact size_8 h)
theorem g_minus : r65_0 (r62_2 s) a = sgn s a := by exact hs.elim (fun e => by subst e; exact minus_4 h) (fun e => by subst e; exact minus_8 h)
theorem g_class : r67_0 (r62_0 s) (r62_1 s) (r62_2 s) a = cls s a := by exact hs.elim (fun e => by subst e; exact class_4 h) (fun e => by subst e; exact class_8 h)
theorem g_rank : r87_0 (r62_2 s) a = if sgn s a then -1 - mag s a else mag s a := by exact hs.elim (fun e => by subst e; exact rank_4 h) (fun e => by subst e; exact rank_8 h)
theorem g_mask : r42_0 s a = mag s a + if sgn s a then top s else 0 := by exact hs.elim (fun e => by subst e; exact mask_4 h) (fun e => by subst e; exact mask_8 h)
theorem g_parts0 : r90_0 s a = sgn s a := by exact hs.elim (fun e => by subst e; exact parts0_4 h) (fun e => by subst e; exact parts0_8 h)
theorem g_nan : r39_0 s a = decide (inf s < mag s a) := by exact hs.elim (fun e => by subst e; exact nan_4 h) (fun e => by subst e; exact nan_8 h)
theorem g_loud : r41_0 s a = decide (inf s < mag s a ∧ mag s a < qui s) := by exact hs.elim (fun e => by subst e; exact loud_4 h) (fun e => by subst e; exact loud_8 h)
theorem g_isinf : r56_0 s a = decide (mag s a = inf s) := by exact hs.elim (fun e => by subst e; exact isinf_4 h) (fun e => by subst e; exact isinf_8 h)
theorem g_zero : r61_0 s a = decide (mag s a = 0) := by exact hs.elim (fun e => by subst e; exact zero_4 h) (fun e => by subst e; exact zero_8 h)
theorem g_order : r88_0 s a = if sgn s a then -1 - mag s a else mag s a := by exact hs.elim (fun e => by subst e; exact order_4 h) (fun e => by subst e; exact order_8 h)
theorem g_off : ilandNot .u64 (r42_0 s a) (top s) = mag s a := by exact hs.elim (fun e => by subst e; exact off_4 h) (fun e => by subst e; exact off_8 h)
omit h in
theorem g_signed {m : Int} (b : Bool) (h0 : 0 ≤ m) (h1 : m < top s) : r82_0 (r62_2 s) b m = if b then m + top s else m := by exact hs.elim (fun e => by subst e; exact signed_4 b h0 h1) (fun e => by subst e; exact signed_8 b h0 h1)
omit h in
theorem g_nought (b : Bool) : r85_0 s b = if b then top s else 0 := by exact hs.elim (fun e => by subst e; exact nought_4 b) (fun e => by subst e; exact nought_8 b)
omit h in
theorem g_cnan : r63_0 (r62_0 s) (r62_1 s) = qui s := by rcases hs with rfl | rfl <;> decide +kernel
omit h in
theorem g_quiet : r40_0 s = qui s := by rcases hs with rfl | rfl <;> decide +kernel
omit h in
theorem g_p67 (a : Int) : p67 (r62_0 s) (r62_1 s) (r62_2 s) a = true := by exact hs.elim (fun e => by subst e; exact p67_4 a) (fun e => by subst e; exact p67_8 a)
omit h in
theorem g_p63 : p63 (r62_0 s) = true := by rcases hs with rfl | rfl <;> decide +kernel
omit h in
theorem g_p90 : p90 s = true ∧ p39 s = true ∧ p56 s = true ∧ p61 s = true ∧ p74 s = true ∧ p88 s = true := by rcases hs with rfl | rfl <;> refine ⟨?_, ?_, ?_, ?_, ?_, ?_⟩ <;> decide +kernel
omit h in
theorem g_p85 (b : Bool) : p85 s b = true := by rcases hs with rfl | rfl <;> cases b <;> decide +kernel
omit h in
theorem g_p41 (a : Int) : p41 s a = true := by
  have e : decide (IntKind.wrap .i64 (r89_0 s - 1) ≥ 0) = true := by rcases hs with rfl | rfl <;> decide +kernel
  simp only [p41, g_p90 hs, e, ow_t, List.all_cons, List.all_nil, id, Bool.and_true]
omit h in
theorem g_known : r64_0 s 0 = true ∧ r71_0 s 0 = true := by rcases hs with rfl | rfl <;> exact ⟨by decide +kernel, by decide +kernel⟩
end
theorem unknown {s : Int} (hs : ¬ (s = 4 ∨ s = 8)) : r64_0 s 0 = false ∧ r71_0 s 0 = false := by
  constructor <;> (simp only [r64_0, r71_0]; simp only [bl]; omega)
theorem awake_ok : p20 = true ∧ r20_0 = true := ⟨by decide +kernel, by decide +kernel⟩
end Go.Proofs.Ytacciadcmiiimaa
