/- Plain laws of the numbers' operations, for known masks. -/
import Derived.Test.YtacciadcmiiimaaSyDefs
namespace Go.Sx

theorem wrap_u64 (n : Int) : IntKind.wrap .u64 n = n % 18446744073709551616 := by simp [IntKind.wrap, IntKind.signed, IntKind.bits]
theorem wrap_u32 (n : Int) : IntKind.wrap .u32 n = n % 4294967296 := by simp [IntKind.wrap, IntKind.signed, IntKind.bits]
theorem wrap_u8 (n : Int) : IntKind.wrap .u8 n = n % 256 := by simp [IntKind.wrap, IntKind.signed, IntKind.bits]
theorem wrap_i64 (n : Int) : IntKind.wrap .i64 n = if n % 18446744073709551616 ≥ 9223372036854775808 then n % 18446744073709551616 - 18446744073709551616 else n % 18446744073709551616 := by
  simp [IntKind.wrap, IntKind.signed, IntKind.bits]
theorem wrap_i32 (n : Int) : IntKind.wrap .i32 n = if n % 4294967296 ≥ 2147483648 then n % 4294967296 - 4294967296 else n % 4294967296 := by
  simp [IntKind.wrap, IntKind.signed, IntKind.bits]
theorem wrap_i64_of {n : Int} (h0 : -9223372036854775808 ≤ n) (h1 : n < 9223372036854775808) : IntKind.wrap .i64 n = n := by rw [wrap_i64]; split <;> omega
theorem wrap_u64_of {n : Int} (h0 : 0 ≤ n) (h1 : n < 18446744073709551616) : IntKind.wrap .u64 n = n := by rw [wrap_u64]; omega

theorem ofInt_nat {a : Nat} (ha : a < 18446744073709551616) : (BitVec.ofInt 64 (a : Int)).toNat = a := by
  rw [BitVec.ofInt_natCast, BitVec.toNat_ofNat]; exact Nat.mod_eq_of_lt (by omega)
theorem land_nn {a b : Nat} (ha : a < 18446744073709551616) (hb : b < 18446744073709551616) : iland .u64 (a : Int) (b : Int) = ((a &&& b : Nat) : Int) := by
  show IntKind.wrap .u64 ((BitVec.ofInt 64 (a : Int) &&& BitVec.ofInt 64 (b : Int)).toNat : Int) = _
  rw [BitVec.toNat_and, ofInt_nat ha, ofInt_nat hb, wrap_u64]
  have : a &&& b ≤ a := Nat.and_le_left
  omega
theorem lor_nn {a b : Nat} (ha : a < 18446744073709551616) (hb : b < 18446744073709551616) : ilor .u64 (a : Int) (b : Int) = ((a ||| b : Nat) : Int) := by
  show IntKind.wrap .u64 ((BitVec.ofInt 64 (a : Int) ||| BitVec.ofInt 64 (b : Int)).toNat : Int) = _
  rw [BitVec.toNat_or, ofInt_nat ha, ofInt_nat hb, wrap_u64]
  have : a ||| b < 2 ^ 64 := Nat.or_lt_two_pow (by omega) (by omega)
  omega
theorem lxor_nn {a b : Nat} (ha : a < 18446744073709551616) (hb : b < 18446744073709551616) : ilxor .u64 (a : Int) (b : Int) = ((a ^^^ b : Nat) : Int) := by
  show IntKind.wrap .u64 ((BitVec.ofInt 64 (a : Int) ^^^ BitVec.ofInt 64 (b : Int)).toNat : Int) = _
  rw [BitVec.toNat_xor, ofInt_nat ha, ofInt_nat hb, wrap_u64]
  have : a ^^^ b < 2 ^ 64 := Nat.xor_lt_two_pow (by omega) (by omega)
  omega
theorem landNot_nn {a b : Nat} (ha : a < 18446744073709551616) (hb : b < 18446744073709551616) : ilandNot .u64 (a : Int) (b : Int) = ((a &&& (18446744073709551615 - b) : Nat) : Int) := by
  show IntKind.wrap .u64 ((BitVec.ofInt 64 (a : Int) &&& ~~~ BitVec.ofInt 64 (b : Int)).toNat : Int) = _
  rw [BitVec.toNat_and, ofInt_nat ha, BitVec.toNat_not, ofInt_nat hb, wrap_u64]
  have e : 2 ^ 64 - 1 - b = 18446744073709551615 - b := by omega
  rw [e]
  have : a &&& (18446744073709551615 - b) ≤ a := Nat.and_le_left
  omega

theorem int_nat {a : Int} (h0 : 0 ≤ a) : ∃ n : Nat, a = n := ⟨a.toNat, by omega⟩

/-! ### Numbers in two parts -/
theorem testBit_parts {k r : Nat} (hr : r < 2 ^ k) (q j : Nat) : (2 ^ k * q + r).testBit j = if j < k then r.testBit j else q.testBit (j - k) := Nat.testBit_two_pow_mul_add q hr j
theorem and_parts {k r s : Nat} (hr : r < 2 ^ k) (hs : s < 2 ^ k) (q q' : Nat) : (2 ^ k * q + r) &&& (2 ^ k * q' + s) = 2 ^ k * (q &&& q') + (r &&& s) := by
  apply Nat.eq_of_testBit_eq
  intro j
  rw [Nat.testBit_and, testBit_parts hr, testBit_parts hs, testBit_parts (Nat.and_lt_two_pow r hs), Nat.testBit_and, Nat.testBit_and]
  split <;> rfl
theorem or_parts {k r s : Nat} (hr : r < 2 ^ k) (hs : s < 2 ^ k) (q q' : Nat) : (2 ^ k * q + r) ||| (2 ^ k * q' + s) = 2 ^ k * (q ||| q') + (r ||| s) := by
  apply Nat.eq_of_testBit_eq
  intro j
  rw [Nat.testBit_or, testBit_parts hr, testBit_parts hs, testBit_parts (Nat.or_lt_two_pow hr hs), Nat.testBit_or, Nat.testBit_or]
  split <;> rfl
theorem xor_parts {k r s : Nat} (hr : r < 2 ^ k) (hs : s < 2 ^ k) (q q' : Nat) : (2 ^ k * q + r) ^^^ (2 ^ k * q' + s) = 2 ^ k * (q ^^^ q') + (r ^^^ s) := by
  apply Nat.eq_of_testBit_eq
  intro j
  rw [Nat.testBit_xor, testBit_parts hr, testBit_parts hs, testBit_parts (Nat.xor_lt_two_pow hr hs), Nat.testBit_xor, Nat.testBit_xor]
  split <;> rfl
theorem split_at (n k : Nat) : 2 ^ k * (n / 2 ^ k) + n % 2 ^ k = n := Nat.div_add_mod n (2 ^ k)
theorem mod_lt (n k : Nat) : n % 2 ^ k < 2 ^ k := Nat.mod_lt _ (Nat.two_pow_pos k)
theorem one_parts (q : Nat) : q &&& 1 = q % 2 ∧ q ||| 1 = q / 2 * 2 + 1 ∧ q ^^^ 1 = q / 2 * 2 + (1 - q % 2) := by
  have h2 : q % 2 < 2 ^ 1 := by omega
  have e : q = 2 ^ 1 * (q / 2) + q % 2 := by omega
  have h1 : (1 : Nat) = 2 ^ 1 * 0 + 1 := rfl
  refine ⟨Nat.and_one_is_mod q, ?_, ?_⟩
  · conv => lhs; rw [e, h1, or_parts h2 (by decide)]
    rw [Nat.or_zero]
    rcases Nat.mod_two_eq_zero_or_one q with h | h <;> rw [h] <;> simp <;> omega
  · conv => lhs; rw [e, h1, xor_parts h2 (by decide)]
    rw [Nat.xor_zero]
    rcases Nat.mod_two_eq_zero_or_one q with h | h <;> rw [h] <;> simp <;> omega
theorem and_bit (n k : Nat) : n &&& 2 ^ k = 2 ^ k * (n / 2 ^ k % 2) := by
  conv => lhs; rw [← split_at n k, show (2 : Nat) ^ k = 2 ^ k * 1 + 0 from by omega, show 2 ^ k * 1 + 0 = 2 ^ k from by omega]
  have := and_parts (mod_lt n k) (Nat.two_pow_pos k) (n / 2 ^ k) 1
  rw [Nat.mul_one, Nat.add_zero] at this
  rw [this, (one_parts _).1, Nat.and_zero, Nat.add_zero]
theorem or_bit (n k : Nat) : n ||| 2 ^ k = n + 2 ^ k * (1 - n / 2 ^ k % 2) := by
  have := or_parts (mod_lt n k) (Nat.two_pow_pos k) (n / 2 ^ k) 1
  rw [Nat.mul_one, Nat.add_zero, split_at, (one_parts _).2.1, Nat.or_zero] at this
  rw [this]
  have h := split_at n k
  generalize n / 2 ^ k = q at *
  generalize n % 2 ^ k = r at *
  rcases Nat.mod_two_eq_zero_or_one q with hq | hq
  · rw [hq, show q / 2 * 2 + 1 = q + 1 from by omega, Nat.mul_add]; omega
  · rw [hq, show q / 2 * 2 + 1 = q from by omega]; omega
theorem xor_bit (n k : Nat) : n ^^^ 2 ^ k = if n / 2 ^ k % 2 = 1 then n - 2 ^ k else n + 2 ^ k := by
  have := xor_parts (mod_lt n k) (Nat.two_pow_pos k) (n / 2 ^ k) 1
  rw [Nat.mul_one, Nat.add_zero, split_at, (one_parts _).2.2, Nat.xor_zero] at this
  rw [this]
  have h := split_at n k
  generalize n / 2 ^ k = q at *
  generalize n % 2 ^ k = r at *
  rcases Nat.mod_two_eq_zero_or_one q with hq | hq
  · rw [hq, show q / 2 * 2 + (1 - 0) = q + 1 from by omega, Nat.mul_add]; simp; omega
  · rw [hq, show q / 2 * 2 + (1 - 1) = q - 1 from by omega]
    simp
    have : q = (q - 1) + 1 := by omega
    rw [this, Nat.mul_add] at h
    omega
/-- All but one bit. -/
theorem andNot_bit (n k w : Nat) (hn : n < 2 ^ w) (hk : k < w) : n &&& (2 ^ w - 1 - 2 ^ k) = n - 2 ^ k * (n / 2 ^ k % 2) := by
  have hlt : 2 ^ k < 2 ^ w := Nat.pow_lt_pow_right (by decide) hk
  have h1 : 2 ^ w - 1 - 2 ^ k = (2 ^ w - 1) ^^^ 2 ^ k := by
    rw [xor_bit]
    have : (2 ^ w - 1) / 2 ^ k % 2 = 1 := by
      have := Nat.testBit_two_pow_sub_one w k
      rw [Nat.testBit_eq_decide_div_mod_eq] at this
      simpa [hk] using this
    rw [if_pos this]
  have h2 : n &&& ((2 ^ w - 1) ^^^ 2 ^ k) = n ^^^ (n &&& 2 ^ k) := by
    apply Nat.eq_of_testBit_eq
    intro j
    rw [Nat.testBit_and, Nat.testBit_xor, Nat.testBit_xor, Nat.testBit_and, Nat.testBit_two_pow_sub_one]
    by_cases hj : j < w
    · simp [hj]; cases n.testBit j <;> cases (2 ^ k).testBit j <;> rfl
    · have : n.testBit j = false := Nat.testBit_lt_two_pow (Nat.lt_of_lt_of_le hn (Nat.pow_le_pow_right (by decide) (by omega)))
      simp [this]
  rw [h1, h2, and_bit]
  rcases Nat.mod_two_eq_zero_or_one (n / 2 ^ k) with h | h
  · rw [h]; simp
  · rw [h, Nat.mul_one, xor_bit, if_pos h]

section
variable {a m p : Int}
/-- The low k bits. -/
theorem land_mask (h0 : 0 ≤ a) (h1 : a < 18446744073709551616) (k : Nat) (hk : k ≤ 64) (hm : m = ((2 ^ k - 1 : Nat) : Int)) (hp : p = ((2 ^ k : Nat) : Int)) : iland .u64 a m = a % p := by
  obtain ⟨n, rfl⟩ := int_nat h0
  have : 2 ^ k ≤ 2 ^ 64 := Nat.pow_le_pow_right (by decide) hk
  rw [hm, land_nn (by omega) (by omega), Nat.and_two_pow_sub_one_eq_mod, hp]
  omega
/-- One bit. -/
theorem land_bit (h0 : 0 ≤ a) (h1 : a < 18446744073709551616) (k : Nat) (hk : k < 64) (hm : m = ((2 ^ k : Nat) : Int)) : iland .u64 a m = m * (a / m % 2) := by
  obtain ⟨n, rfl⟩ := int_nat h0
  have : 2 ^ k < 2 ^ 64 := Nat.pow_lt_pow_right (by decide) hk
  rw [hm, land_nn (by omega) (by omega), and_bit]
  simp
theorem lor_bit (h0 : 0 ≤ a) (h1 : a < 18446744073709551616) (k : Nat) (hk : k < 64) (hm : m = ((2 ^ k : Nat) : Int)) : ilor .u64 a m = if a / m % 2 = 1 then a else a + m := by
  obtain ⟨n, rfl⟩ := int_nat h0
  have : 2 ^ k < 2 ^ 64 := Nat.pow_lt_pow_right (by decide) hk
  rw [hm, lor_nn (by omega) (by omega), or_bit]
  generalize 2 ^ k = e at *
  split
  · rename_i h
    have : n / e % 2 = 1 := by exact_mod_cast h
    rw [this]; simp
  · rename_i h
    have : n / e % 2 = 0 := by
      rcases Nat.mod_two_eq_zero_or_one (n / e) with h' | h'
      · exact h'
      · exact absurd (by exact_mod_cast h') h
    rw [this]; simp
theorem lxor_bit (h0 : 0 ≤ a) (h1 : a < 18446744073709551616) (k : Nat) (hk : k < 64) (hm : m = ((2 ^ k : Nat) : Int)) : ilxor .u64 a m = if a / m % 2 = 1 then a - m else a + m := by
  obtain ⟨n, rfl⟩ := int_nat h0
  have : 2 ^ k < 2 ^ 64 := Nat.pow_lt_pow_right (by decide) hk
  rw [hm, lxor_nn (by omega) (by omega), xor_bit]
  have hp := Nat.two_pow_pos k
  generalize 2 ^ k = e at *
  split
  · rename_i h
    have h' : (n : Int) / e % 2 = 1 := by exact_mod_cast h
    rw [if_pos h']
    have : e ≤ n := by
      rcases Nat.lt_or_ge n e with hlt | hge
      · rw [Nat.div_eq_of_lt hlt] at h; cases h
      · exact hge
    omega
  · rename_i h
    have h' : ¬ (n : Int) / e % 2 = 1 := fun c => h (by exact_mod_cast c)
    rw [if_neg h']
    omega
theorem landNot_bit (h0 : 0 ≤ a) (h1 : a < 18446744073709551616) (k : Nat) (hk : k < 64) (hm : m = ((2 ^ k : Nat) : Int)) : ilandNot .u64 a m = a - m * (a / m % 2) := by
  obtain ⟨n, rfl⟩ := int_nat h0
  have : 2 ^ k < 2 ^ 64 := Nat.pow_lt_pow_right (by decide) hk
  rw [hm, landNot_nn (by omega) (by omega), show 18446744073709551615 - 2 ^ k = 2 ^ 64 - 1 - 2 ^ k from by omega, andNot_bit n k 64 (by omega) hk]
  have : 2 ^ k * (n / 2 ^ k % 2) ≤ n := by
    have h := split_at n k
    have : 2 ^ k * (n / 2 ^ k % 2) ≤ 2 ^ k * (n / 2 ^ k) := Nat.mul_le_mul_left _ (Nat.mod_le _ _)
    omega
  have e : ((2 ^ k * (n / 2 ^ k % 2) : Nat) : Int) = ((2 ^ k : Nat) : Int) * ((n : Int) / ((2 ^ k : Nat) : Int) % 2) := by simp
  rw [← e]
  omega
/-- Bits ahead of others. -/
theorem lor_high (h0 : 0 ≤ a) (k : Nat) (ha : a < ((2 ^ k : Nat) : Int)) (q : Nat) (hm : m = ((2 ^ k * q : Nat) : Int)) (h1 : m < 18446744073709551616) (hk : k ≤ 64) : ilor .u64 a m = a + m := by
  obtain ⟨n, rfl⟩ := int_nat h0
  have : 2 ^ k ≤ 2 ^ 64 := Nat.pow_le_pow_right (by decide) hk
  have hn : n < 2 ^ k := by omega
  rw [hm, lor_nn (by omega) (by omega), Nat.or_comm, ← Nat.two_pow_add_eq_or_of_lt hn]
  omega
theorem shr_of (k : Nat) (hk : k ≤ 64) (hp : p = ((2 ^ k : Nat) : Int)) : ishr .u64 a (k : Int) = a / p := by
  show Int.fdiv a (2 ^ min (k : Int).toNat 64) = _
  have e : min (k : Int).toNat 64 = k := by simp; omega
  rw [e, hp, Int.fdiv_eq_ediv_of_nonneg _ (by exact Int.le_of_lt (Int.pow_pos (by decide)))]
  simp
theorem lxor_neg1 (h0 : 0 ≤ a) (h1 : a < 9223372036854775808) : ilxor .i64 (-1) a = -1 - a := by
  obtain ⟨n, rfl⟩ := int_nat h0
  show IntKind.wrap .i64 ((BitVec.ofInt 64 (-1) ^^^ BitVec.ofInt 64 (n : Int)).toNat : Int) = _
  rw [show BitVec.ofInt 64 (-1) = BitVec.allOnes 64 from by decide, BitVec.allOnes_xor, BitVec.toNat_not, ofInt_nat (by omega), wrap_i64]
  split <;> omega
end
/-! ### Bools of numbers, as propositions -/
theorem ibeq (x y : Int) : (x == y) = decide (x = y) := by by_cases h : x = y <;> simp [h]
theorem ibne (x y : Int) : (x != y) = !decide (x = y) := by by_cases h : x = y <;> simp [h]
theorem ite_tt (p : Prop) [Decidable p] (a b : Bool) : ((if p then a else b) = true) = ((p ∧ a = true) ∨ (¬ p ∧ b = true)) := by by_cases h : p <;> simp [h]
theorem ite_ff (p : Prop) [Decidable p] (a b : Bool) : ((if p then a else b) = false) = ((p ∧ a = false) ∨ (¬ p ∧ b = false)) := by by_cases h : p <;> simp [h]
/-- All of them, for 'simp only'. -/
theorem bl : (∀ x y : Int, (x == y) = decide (x = y)) ∧ (∀ x y : Int, (x != y) = !decide (x = y)) ∧
    (∀ (c : Bool) (a b : Int), cond c a b = if c = true then a else b) ∧ (∀ (c a b : Bool), cond c a b = if c = true then a else b) ∧
    (∀ a b : Bool, ((a && b) = true) = (a = true ∧ b = true)) ∧ (∀ a b : Bool, ((a || b) = true) = (a = true ∨ b = true)) ∧
    (∀ a b : Bool, ((a && b) = false) = (a = false ∨ b = false)) ∧ (∀ a b : Bool, ((a || b) = false) = (a = false ∧ b = false)) ∧
    (∀ a : Bool, ((!a) = true) = (a = false)) ∧ (∀ a : Bool, ((!a) = false) = (a = true)) ∧
    (∀ (p : Prop) [Decidable p], (decide p = true) = p) ∧ (∀ (p : Prop) [Decidable p], (decide p = false) = ¬ p) ∧
    (∀ (p : Prop) [Decidable p] (a b : Bool), ((if p then a else b) = true) = ((p ∧ a = true) ∨ (¬ p ∧ b = true))) ∧
    (∀ (p : Prop) [Decidable p] (a b : Bool), ((if p then a else b) = false) = ((p ∧ a = false) ∨ (¬ p ∧ b = false))) ∧
    ((false = true) = False) ∧ ((true = false) = False) ∧ ((true = true) = True) ∧ ((false = false) = True) ∧
    (∀ (a b : Int) [Decidable False], (if False then a else b) = b) ∧ (∀ (a b : Int) [Decidable True], (if True then a else b) = a) ∧
    (∀ p : Prop, (p ∧ False) = False) ∧ (∀ p : Prop, (False ∧ p) = False) ∧ (∀ p : Prop, (p ∨ False) = p) ∧ (∀ p : Prop, (False ∨ p) = p) ∧
    (∀ p : Prop, (p ∧ True) = p) ∧ (∀ p : Prop, (True ∧ p) = p) ∧ (∀ p : Prop, (p ∨ True) = True) ∧ (∀ p : Prop, (True ∨ p) = True) ∧
    ((¬ True) = False) ∧ ((¬ False) = True) := by
  refine ⟨ibeq, ibne, ?_, ?_, ?_, ?_, ?_, ?_, ?_, ?_, ?_, ?_, ?_, ?_, ?_, ?_, ?_, ?_, ?_, ?_, ?_, ?_, ?_, ?_, ?_, ?_, ?_, ?_, ?_, ?_⟩
  · intro c a b; cases c <;> rfl
  · intro c a b; cases c <;> rfl
  · intro a b; cases a <;> cases b <;> simp
  · intro a b; cases a <;> cases b <;> simp
  · intro a b; cases a <;> cases b <;> simp
  · intro a b; cases a <;> cases b <;> simp
  · intro a; simp
  · intro a; simp
  · intro p _; simp
  · intro p _; simp
  · intro p _ a b; exact ite_tt p a b
  · intro p _ a b; exact ite_ff p a b
  all_goals simp
end Go.Sx
