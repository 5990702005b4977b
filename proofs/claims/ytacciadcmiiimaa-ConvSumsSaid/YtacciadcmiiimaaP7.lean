/- The programs' cuts and roundings, in plain arithmetic; numbers of two words. -/
import Derived.Test.YtacciadcmiiimaaP6
namespace Go.Proofs.Ytacciadcmiiimaa
open Go Go.Sx Go.Rnd
set_option maxRecDepth 100000
set_option maxHeartbeats 1000000

theorem half_parts (m n : Nat) (hn : 0 < n) : m % 2 ^ n = m / 2 ^ (n - 1) % 2 * 2 ^ (n - 1) + m % 2 ^ (n - 1) := by
  obtain ⟨k, rfl⟩ : ∃ k, n = k + 1 := ⟨n - 1, by omega⟩
  rw [Nat.add_sub_cancel, Nat.pow_succ, Nat.mod_mul, Nat.mul_comm (2 ^ k)]
  omega
theorem up_half (rm : Int) (minus odd : Bool) (m n : Nat) (hn : 0 < n) :
    (rm = 0 → (decide (m % 2 ^ n > 2 ^ (n - 1)) || (decide (m % 2 ^ n = 2 ^ (n - 1)) && odd)) = upB rm minus odd (m / 2 ^ (n - 1) % 2 == 1) (m % 2 ^ (n - 1) != 0)) ∧
    (rm = 2 → (minus && decide (m % 2 ^ n ≠ 0)) = upB rm minus odd (m / 2 ^ (n - 1) % 2 == 1) (m % 2 ^ (n - 1) != 0)) ∧
    (rm = 3 → (!minus && decide (m % 2 ^ n ≠ 0)) = upB rm minus odd (m / 2 ^ (n - 1) % 2 == 1) (m % 2 ^ (n - 1) != 0)) ∧
    (rm = 4 → decide (m % 2 ^ n ≥ 2 ^ (n - 1)) = upB rm minus odd (m / 2 ^ (n - 1) % 2 == 1) (m % 2 ^ (n - 1) != 0)) := by
  have h1 := half_parts m n hn
  have h2 : m % 2 ^ (n - 1) < 2 ^ (n - 1) := Nat.mod_lt _ (Nat.two_pow_pos _)
  have h3 : m / 2 ^ (n - 1) % 2 < 2 := Nat.mod_lt _ (by decide)
  generalize m % 2 ^ n = r at *
  generalize m % 2 ^ (n - 1) = t at *
  generalize m / 2 ^ (n - 1) % 2 = h at *
  generalize 2 ^ (n - 1) = P at *
  have hh : h = 0 ∨ h = 1 := by omega
  refine ⟨?_, ?_, ?_, ?_⟩ <;> rintro rfl <;> unfold upB <;> rcases hh with rfl | rfl
  · have e1 : decide (r > P) = false := decide_eq_false (by omega)
    have e2 : decide (r = P) = false := decide_eq_false (by omega)
    rw [e1, e2]; simp
  · by_cases ht : t = 0
    · have e1 : decide (r > P) = false := decide_eq_false (by omega)
      have e2 : decide (r = P) = true := decide_eq_true (by omega)
      rw [e1, e2, ht]; simp
    · have e1 : decide (r > P) = true := decide_eq_true (by omega)
      have e2 : (t != 0) = true := by simpa using ht
      rw [e1, e2]; simp
  · have : decide (r ≠ 0) = (t != 0) := by rw [Bool.eq_iff_iff]; simp only [dec, bne_iff_ne]; omega
    rw [this]; simp
  · have : decide (r ≠ 0) = true := decide_eq_true (by omega)
    rw [this]; simp
  · have : decide (r ≠ 0) = (t != 0) := by rw [Bool.eq_iff_iff]; simp only [dec, bne_iff_ne]; omega
    rw [this]; simp
  · have : decide (r ≠ 0) = true := decide_eq_true (by omega)
    rw [this]; simp
  · have : decide (r ≥ P) = false := decide_eq_false (by omega)
    rw [this]; simp
  · have : decide (r ≥ P) = true := decide_eq_true (by omega)
    rw [this]; simp
theorem more_ok (rm : Int) (minus odd : Bool) (m n : Nat) (hn : 0 < n) : r127_0 rm minus odd ((m % 2 ^ n : Nat) : Int) ((2 ^ (n - 1) : Nat) : Int) = upB rm minus odd (m / 2 ^ (n - 1) % 2 == 1) (m % 2 ^ (n - 1) != 0) := by
  obtain ⟨u0, u2, u3, u4⟩ := up_half rm minus odd m n hn
  have e1 : decide (((m % 2 ^ n : Nat) : Int) > ((2 ^ (n - 1) : Nat) : Int)) = decide (m % 2 ^ n > 2 ^ (n - 1)) := by rw [decide_eq_decide]; omega
  have e2 : (((m % 2 ^ n : Nat) : Int) == ((2 ^ (n - 1) : Nat) : Int)) = decide (m % 2 ^ n = 2 ^ (n - 1)) := by rw [Bool.eq_iff_iff]; simp only [beq_iff_eq, dec]; omega
  have e3 : (((m % 2 ^ n : Nat) : Int) != 0) = decide (m % 2 ^ n ≠ 0) := by rw [Bool.eq_iff_iff]; simp only [bne_iff_ne, dec]; omega
  have e4 : decide (((m % 2 ^ n : Nat) : Int) ≥ ((2 ^ (n - 1) : Nat) : Int)) = decide (m % 2 ^ n ≥ 2 ^ (n - 1)) := by rw [decide_eq_decide]; omega
  simp only [r127_0, e1, e2, e3, e4]
  by_cases h0 : rm = 0
  · rw [← u0 h0]; subst h0; rfl
  · by_cases h2 : rm = 2
    · rw [← u2 h2]; subst h2; rfl
    · by_cases h3 : rm = 3
      · rw [← u3 h3]; subst h3; rfl
      · by_cases h4 : rm = 4
        · rw [← u4 h4]; subst h4; rfl
        · simp [upB, ibeq, h0, h2, h3, h4]
theorem low_mask {m n : Nat} (hm : m < 18446744073709551616) (hn : n < 64) : iland .u64 (m : Int) (IntKind.wrap .u64 (ishl .u64 1 (n : Int) - 1)) = ((m % 2 ^ n : Nat) : Int) := by
  have hp : 2 ^ n ≤ 2 ^ 63 := Nat.pow_le_pow_right (by decide) (by omega)
  have h1 := shl_lt (x := 1) (s := n) (by omega)
  have h1 : ishl .u64 1 (n : Int) = ((2 ^ n : Nat) : Int) := by rw [Nat.one_mul] at h1; exact h1
  have := Nat.two_pow_pos n
  rw [h1, show ((2 ^ n : Nat) : Int) - 1 = ((2 ^ n - 1 : Nat) : Int) by omega, wr64 (by omega), land_low hm (by omega)]
theorem cutP_far {rm : Int} {minus : Bool} {m n : Nat} (hm0 : 0 < m) (hm : m < 18446744073709551616) (hn : 64 < n) : cutP rm minus m n false = cutP rm minus 1 2 false := by
  have h1 : 18446744073709551616 ≤ 2 ^ (n - 1) := Nat.pow_le_pow_right (n := 2) (by decide) (show 64 ≤ n - 1 by omega)
  have h2 : 2 ^ n = 2 * 2 ^ (n - 1) := by rw [← Nat.pow_succ']; congr 1; omega
  unfold cutP
  rw [Nat.div_eq_of_lt (show m < 2 ^ n by omega), Nat.div_eq_of_lt (show m < 2 ^ (n - 1) by omega), Nat.mod_eq_of_lt (show m < 2 ^ (n - 1) by omega), Nat.mod_eq_of_lt (show m < 2 ^ n by omega)]
  have e1 : (m != 0) = true := by simp; omega
  have e2 : (m == 0) = false := by simp; omega
  rw [e1, e2]
  rfl
theorem shl_one {n : Nat} (hn : n < 64) : ishl .u64 1 (n : Int) = ((2 ^ n : Nat) : Int) := by
  have hp : 2 ^ n ≤ 2 ^ 63 := Nat.pow_le_pow_right (by decide) (by omega)
  have h1 := shl_lt (x := 1) (s := n) (by omega)
  rw [Nat.one_mul] at h1; exact h1
theorem odd_word {x : Nat} (hx : x < 18446744073709551616) : (iland .u64 (x : Int) 1 == 1) = (x % 2 == 1) := by
  have := land_nn hx (show 1 < 18446744073709551616 by decide)
  rw [(one_parts _).1] at this
  rw [show iland .u64 (x : Int) 1 = ((x % 2 : Nat) : Int) from this, ib1]
theorem scut_near (rm : Int) (minus : Bool) {m n : Nat} (hm : m < 18446744073709551616) (hn : 0 < n) (hn2 : n < 64) : r122_0 rm minus (m : Int) (n : Int) = ((cutP rm minus m n false).1 : Int) ∧ r122_1 (m : Int) (n : Int) = (cutP rm minus m n false).2 := by
  have e4 : decide ((n : Int) > 64) = false := decide_eq_false (by omega)
  have e7 : ((n : Int) == 64) = false := by simp; omega
  have e20 : IntKind.wrap .i64 ((n : Int) - 1) = ((n - 1 : Nat) : Int) := by rw [wrap_i64_of (by omega) (by omega)]; omega
  have hd : m / 2 ^ n < 9223372036854775808 := by
    rw [Nat.div_lt_iff_lt_mul (Nat.two_pow_pos n)]
    have : 2 ^ 1 ≤ 2 ^ n := Nat.pow_le_pow_right (by decide) hn
    have : 9223372036854775808 * 2 ≤ 9223372036854775808 * 2 ^ n := Nat.mul_le_mul_left _ this
    omega
  have hr : ∀ b : Bool, (b || false) = b := fun b => by simp
  unfold cutP
  rw [hr]
  constructor
  · simp only [r122_0, e4, e7, cond_false, Bool.not_false, cond_true, low_mask hm hn2, shr_nat hm n, e20, shl_one (show n - 1 < 64 by omega), odd_word (show m / 2 ^ n < 18446744073709551616 by omega), more_ok rm minus _ m n hn]
    cases upB rm minus (m / 2 ^ n % 2 == 1) (m / 2 ^ (n - 1) % 2 == 1) (m % 2 ^ (n - 1) != 0)
    · rfl
    · rw [cond_true, show ((m / 2 ^ n : Nat) : Int) + 1 = ((m / 2 ^ n + 1 : Nat) : Int) by omega, wr64 (by omega)]; rfl
  · simp only [r122_1, e4, e7, cond_false, Bool.not_false, cond_true, low_mask hm hn2]
    rw [Bool.eq_iff_iff]
    simp only [beq_iff_eq, Bool.and_true]
    omega
theorem scut_64 (rm : Int) (minus : Bool) {m : Nat} (hm : m < 18446744073709551616) : r122_0 rm minus (m : Int) 64 = ((cutP rm minus m 64 false).1 : Int) ∧ r122_1 (m : Int) 64 = (cutP rm minus m 64 false).2 := by
  have hr : ∀ b : Bool, (b || false) = b := fun b => by simp
  have h64 : m % 2 ^ 64 = m := Nat.mod_eq_of_lt hm
  have hq : m / 2 ^ 64 = 0 := Nat.div_eq_of_lt hm
  have hmo := more_ok rm minus false m 64 (by decide)
  rw [h64] at hmo
  unfold cutP
  rw [hr, hq, h64]
  constructor
  · have : r122_0 rm minus (m : Int) 64 = bif r127_0 rm minus false (m : Int) 9223372036854775808 then 1 else 0 := rfl
    rw [this]
    have : r127_0 rm minus false (m : Int) 9223372036854775808 = r127_0 rm minus false (m : Int) ((2 ^ (64 - 1) : Nat) : Int) := rfl
    rw [this, hmo]
    show _ = (((0 + if upB rm minus false (m / 2 ^ (64 - 1) % 2 == 1) (m % 2 ^ (64 - 1) != 0) = true then 1 else 0 : Nat)) : Int)
    cases upB rm minus false (m / 2 ^ (64 - 1) % 2 == 1) (m % 2 ^ (64 - 1) != 0) <;> rfl
  · show ((m : Int) == 0) = (m == 0 && !false)
    rw [Bool.eq_iff_iff]
    simp only [beq_iff_eq, Bool.not_false, Bool.and_true]
    omega
theorem scut_ok (rm : Int) (minus : Bool) {m : Nat} {b : Int} (hm0 : 0 < m) (hm : m < 18446744073709551616) (hb : 0 < b) : r122_0 rm minus (m : Int) b = ((cutN rm minus m b false).1 : Int) ∧ r122_1 (m : Int) b = (cutN rm minus m b false).2 := by
  unfold cutN
  rw [if_neg (by omega)]
  obtain ⟨n, rfl⟩ : ∃ n : Nat, b = (n : Int) := ⟨b.toNat, by omega⟩
  rw [Int.toNat_natCast]
  by_cases h : n < 64
  · exact scut_near rm minus hm (by omega) h
  · by_cases h2 : n = 64
    · subst h2; exact scut_64 rm minus hm
    · rw [cutP_far hm0 hm (by omega)]
      have e4 : decide ((n : Int) > 64) = true := decide_eq_true (by omega)
      have hc := scut_near rm minus (m := 1) (n := 2) (by decide) (by decide) (by decide)
      have g1 : r122_0 rm minus (m : Int) (n : Int) = r122_0 rm minus ((1 : Nat) : Int) ((2 : Nat) : Int) := by simp only [r122_0, e4]; rfl
      have g2 : r122_1 (m : Int) (n : Int) = r122_1 ((1 : Nat) : Int) ((2 : Nat) : Int) := by simp only [r122_1, e4]; rfl
      rw [g1, g2]
      exact hc
theorem p122_ok {b : Int} (hb : 0 < b) (hb2 : b < 9223372036854775808) : p122 b = true := by
  simp only [p122]
  by_cases h : b > 64
  · rw [decide_eq_true h]; rfl
  · rw [decide_eq_false h]
    have a : decide ((bif false then (2 : Int) else b) ≥ 0) = true := decide_eq_true (show b ≥ 0 by omega)
    have c : decide (IntKind.wrap .i64 ((bif false then (2 : Int) else b) - 1) ≥ 0) = true := decide_eq_true (show IntKind.wrap .i64 (b - 1) ≥ 0 by rw [wrap_i64_of (by omega) (by omega)]; omega)
    rw [a, c]
    simp only [ow_t]; rfl
theorem ccut_same (rm : Int) (minus : Bool) {m : Nat} {b : Int} (hm0 : 0 < m) (hm : m < 18446744073709551616) (hb : 0 < b) : r70_0 rm minus (m : Int) b = r122_0 rm minus (m : Int) b ∧ r70_1 (m : Int) b = r122_1 (m : Int) b := by
  have e0 : decide (b ≤ 0) = false := decide_eq_false (by omega)
  have em : ((m : Int) == 0) = false := by simp; omega
  have key : ∀ q rest half : Int, (bif (rm == 0) then (decide (rest > half) || ((rest == half) && (iland .u64 q 1 == 1))) else bif (rm == 2) then (minus && (rest != 0)) else bif (rm == 3) then (!minus && (rest != 0)) else ((rm == 4) && decide (rest ≥ half))) = r127_0 rm minus (iland .u64 q 1 == 1) rest half := fun q rest half => by
    simp only [r127_0]
    cases rm == 0 <;> cases rm == 2 <;> cases rm == 3 <;> cases rm == 4 <;> rfl
  by_cases h : b > 64
  · have e1 : decide (b > 64) = true := decide_eq_true h
    have hx : ∀ (o : Bool), r127_0 rm minus (iland .u64 0 1 == 1) 1 2 = r127_0 rm minus (iland .u64 0 1 == 1) 1 2 := fun _ => rfl
    constructor
    · have l : r70_0 rm minus (m : Int) b = bif r127_0 rm minus (iland .u64 0 1 == 1) 1 2 then IntKind.wrap .u64 (0 + 1) else 0 := by
        simp only [r70_0, e0, em, e1, Bool.not_false, cond_true, key]
      have r : r122_0 rm minus (m : Int) b = bif r127_0 rm minus (iland .u64 0 1 == 1) 1 2 then IntKind.wrap .u64 (0 + 1) else 0 := by
        simp only [r122_0, e1, cond_true]; rfl
      rw [l, r]
    · simp only [r70_1, r122_1, e0, em, e1, Bool.not_false, cond_true]; rfl
  · have e1 : decide (b > 64) = false := decide_eq_false h
    by_cases h2 : b = 64
    · subst h2
      constructor
      · have l : r70_0 rm minus (m : Int) 64 = bif r127_0 rm minus (iland .u64 0 1 == 1) (m : Int) 9223372036854775808 then IntKind.wrap .u64 (0 + 1) else 0 := by
          simp only [r70_0, em, key]; rfl
        rw [l]; rfl
      · simp only [r70_1, em]; rfl
    · have e2 : (b == 64) = false := by simpa using h2
      constructor
      · simp only [r70_0, r122_0, e0, em, e1, e2, Bool.not_false, cond_true, cond_false, key]
      · simp only [r70_1, r122_1, e0, em, e1, e2, Bool.not_false, cond_true, cond_false]
theorem ccut_ok (rm : Int) (minus : Bool) {m : Nat} {b : Int} (hm0 : 0 < m) (hm : m < 18446744073709551616) (hb : 0 < b) : r70_0 rm minus (m : Int) b = ((cutN rm minus m b false).1 : Int) ∧ r70_1 (m : Int) b = (cutN rm minus m b false).2 := by
  rw [(ccut_same rm minus hm0 hm hb).1, (ccut_same rm minus hm0 hm hb).2]
  exact scut_ok rm minus hm0 hm hb
theorem p70_ok (m b : Int) : p70 m b = true := by
  simp only [p70, List.all_cons, List.all_nil, id]
  by_cases h : 0 < b ∧ b < 64
  · have a : decide (b ≥ 0) = true := decide_eq_true (by omega)
    have b' : decide (IntKind.wrap .i64 (b - 1) ≥ 0) = true := by rw [wrap_i64_of (by omega) (by omega)]; exact decide_eq_true (by omega)
    simp only [a, b', ow_t, Bool.and_true]
  · by_cases h0 : 0 < b
    · by_cases h1 : b = 64
      · have : (b == 64) = true := by simp [h1]
        simp [this, ow]
      · have : decide (b > 64) = true := decide_eq_true (by omega)
        simp [this, ow]
    · have : decide (b ≤ 0) = true := decide_eq_true (by omega)
      simp [this, ow]

section
variable {s : Int} (hs : s = 4 ∨ s = 8)
include hs
theorem cround_ok {rm : Int} {minus : Bool} {M : Nat} {e : Int} (hM0 : 0 < M) (hM : M < 18446744073709551616) (h1 : -50000 ≤ e) (h2 : e ≤ 50000) :
    p78 (frN s) (biN s) rm minus (M : Int) e = true ∧ r78_0 (frN s) (biN s) (topN s) rm minus (M : Int) e = ((sgB s minus + (rnd (frN s) (biN s) rm minus M e false).1 : Nat) : Int) ∧ r78_1 (frN s) (biN s) rm minus (M : Int) e = ((rnd (frN s) (biN s) rm minus M e false).2 : Int) := by
  obtain ⟨f1, f2, f3, f4, f5, f6, f7, f8, f9, f10⟩ := size_facts hs
  have hb := blen_pos hM0
  have hb2 : blen M ≤ 64 := blen_le.2 hM
  have hlz := lz64 hM
  have hlo := blen_low hM0
  have hup := blen_self (n := M)
  generalize hn : 64 - blen M = n at *
  have hm0 : 9223372036854775808 ≤ M * 2 ^ n := by
    have : 2 ^ (blen M - 1) * 2 ^ n ≤ M * 2 ^ n := Nat.mul_le_mul_right _ hlo
    rw [← Nat.pow_add, show blen M - 1 + n = 63 by omega] at this
    exact this
  have hm : M * 2 ^ n < 18446744073709551616 := by
    have : M * 2 ^ n < 2 ^ blen M * 2 ^ n := Nat.mul_lt_mul_of_pos_right hup (Nat.two_pow_pos n)
    rw [← Nat.pow_add, show blen M + n = 64 by omega] at this
    exact this
  have e10 : ishl .u64 (M : Int) (n : Int) = ((M * 2 ^ n : Nat) : Int) := shl_lt hm
  have e11 : IntKind.wrap .i64 (e - n) = e - n := wrap_i64_of (by omega) (by omega)
  obtain ⟨c0, c1⟩ := core_ok hs (rm := rm) (minus := minus) (m := M * 2 ^ n) (e := e - n) hm0 hm (by omega) (by omega)
  obtain ⟨d1, d2⟩ := dropOf_ok hs (e := e - n) (by omega) (by omega)
  have hsc := rnd_scale (f := frN s) (b := biN s) (rm := rm) (minus := minus) (M := M) (k := n) (E := e) hM0
  rw [hsc] at c0 c1
  have hd : 0 < dropOf (frN s) (biN s) (e - n) := by rw [d1]; omega
  obtain ⟨q1, q2⟩ := ccut_ok rm minus (m := M * 2 ^ n) (b := dropOf (frN s) (biN s) (e - n)) (by omega) hm hd
  obtain ⟨t1, _⟩ := ccut_ok rm minus (m := M * 2 ^ n) (b := 63 - frN s) (by omega) hm (by omega)
  have e12 : IntKind.wrap .i64 (63 - (frN s : Int)) = 63 - frN s := wrap_i64_of (by omega) (by omega)
  refine ⟨?_, ?_, ?_⟩
  · have a : decide ((frN s : Int) ≥ 0) = true := decide_eq_true (by omega)
    have b : p83 (frN s) = true := by simp only [p83, a]; rfl
    have c : decide ((n : Int) ≥ 0) = true := decide_eq_true (by omega)
    simp only [p78, p115_ok, hlz, p70_ok, a, b, c, ow_t, List.all_cons, List.all_nil, id, Bool.and_true]
  · rw [← c0, ← q1, ← e11, ← e10, ← hlz]; rfl
  · rw [← c1, ← q1, ← q2, ← t1, ← e12, ← e11, ← e10, ← hlz]; rfl
end
end Go.Proofs.Ytacciadcmiiimaa

namespace Go.Proofs.Ytacciadcmiiimaa
open Go Go.Sx Go.Rnd
set_option maxRecDepth 100000
set_option maxHeartbeats 1000000

def hiN (P : Nat) : Nat := P / 18446744073709551616
def loN (P : Nat) : Nat := P % 18446744073709551616
def two128 : Nat := 340282366920938463463374607431768211456
theorem hi_lo (P : Nat) : P = hiN P * 18446744073709551616 + loN P := by unfold hiN loN; omega
theorem lo_lt (P : Nat) : loN P < 18446744073709551616 := Nat.mod_lt _ (by decide)
theorem hi_lt {P : Nat} (h : P < two128) : hiN P < 18446744073709551616 := by unfold hiN; unfold two128 at h; omega
theorem hi_of {h l : Nat} (hl : l < 18446744073709551616) : hiN (h * 18446744073709551616 + l) = h := by unfold hiN; omega
theorem lo_of {h l : Nat} (hl : l < 18446744073709551616) : loN (h * 18446744073709551616 + l) = l := by unfold loN; omega
theorem p64 (n : Nat) (hn : n ≤ 64) : 18446744073709551616 = 2 ^ (64 - n) * 2 ^ n := by rw [← Nat.pow_add, show 64 - n + n = 64 by omega]
theorem mulmod (x n : Nat) (hn : n ≤ 64) : x * 2 ^ n % 18446744073709551616 = x % 2 ^ (64 - n) * 2 ^ n := by
  rw [p64 n hn]; exact Nat.mul_mod_mul_right ..
theorem muldiv (x n : Nat) (hn : n ≤ 64) : x * 2 ^ n / 18446744073709551616 = x / 2 ^ (64 - n) := by
  rw [p64 n hn]; exact Nat.mul_div_mul_right _ _ (Nat.two_pow_pos n)

theorem zeros_ok {P : Nat} (hP : P < two128) : p121 (hiN P) (loN P) = true ∧ r121_0 (hiN P) (loN P) = ((128 - blen P : Nat) : Int) := by
  have h1 := hi_lt hP
  have h2 := lo_lt P
  have e := hi_lo P
  have l1 := lz64 h1
  have l2 := lz64 h2
  have b2 : blen (loN P) ≤ 64 := blen_le.2 h2
  have b1 : blen (hiN P) ≤ 64 := blen_le.2 h1
  refine ⟨by simp only [p121, p115_ok, ow_t, List.all_cons, List.all_nil, id, Bool.and_true], ?_⟩
  simp only [r121_0, l1, l2]
  by_cases h : hiN P = 0
  · have : ((hiN P : Int) == 0) = true := by rw [h]; rfl
    rw [this, Bool.not_true, cond_false, wrap_i64_of (by omega) (by omega)]
    have : P = loN P := by rw [h] at e; omega
    rw [← this] at b2 ⊢
    omega
  · have : ((hiN P : Int) == 0) = false := by simpa using h
    rw [this, Bool.not_false, cond_true]
    have := blen_shift (h := hiN P) (j := 64) (l := loN P) (by omega) h2
    have e2 : hiN P * 2 ^ 64 + loN P = P := e.symm
    rw [e2] at this
    rw [this]
    congr 1; omega
theorem up_ok2 {P n : Nat} (hn : n < 128) (h : P * 2 ^ n < two128) : p106 (n : Int) = true ∧ r106_0 (hiN P) (loN P) (n : Int) = (hiN (P * 2 ^ n) : Int) ∧ r106_1 (loN P) (n : Int) = (loN (P * 2 ^ n) : Int) := by
  have h2 := lo_lt P
  have e := hi_lo P
  have hle : P ≤ P * 2 ^ n := Nat.le_mul_of_pos_right _ (Nat.two_pow_pos n)
  have h1 : hiN P < 18446744073709551616 := hi_lt (Nat.lt_of_le_of_lt hle h)
  by_cases c : n ≥ 64
  · have e3 : decide ((n : Int) ≥ 64) = true := decide_eq_true (by omega)
    have e4 : IntKind.wrap .i64 ((n : Int) - 64) = ((n - 64 : Nat) : Int) := by rw [wrap_i64_of (by omega) (by omega)]; omega
    have hp : 2 ^ n = 2 ^ (n - 64) * 18446744073709551616 := by
      have : 2 ^ n = 2 ^ (n - 64) * 2 ^ 64 := by rw [← Nat.pow_add]; congr 1; omega
      rw [this]
    have hP0 : P < 18446744073709551616 := by
      refine Nat.lt_of_not_le fun hc => ?_
      have a := Nat.mul_le_mul_right (2 ^ n) hc
      have b : 18446744073709551616 * 1 ≤ 18446744073709551616 * 2 ^ (n - 64) := Nat.mul_le_mul_left _ (Nat.two_pow_pos _)
      rw [hp, ← Nat.mul_assoc] at a
      have b2 := Nat.mul_le_mul_right 18446744073709551616 b
      unfold two128 at h
      rw [hp] at h
      omega
    have hl : loN P = P := Nat.mod_eq_of_lt hP0
    have hh : P * 2 ^ n = P * 2 ^ (n - 64) * 18446744073709551616 + 0 := by rw [hp, ← Nat.mul_assoc, Nat.add_zero]
    refine ⟨?_, ?_, ?_⟩
    · simp only [p106, e3, e4]
      rw [decide_eq_true (show ((n - 64 : Nat) : Int) ≥ 0 by omega)]
      simp [ow]
    · simp only [r106_0, e3, e4, hl, Bool.not_true, cond_false]
      rw [hh, hi_of (by decide), shl_lt]
      rw [hh] at h; unfold two128 at h; omega
    · simp only [r106_1, e3, Bool.not_true, cond_false]
      rw [hh, lo_of (by decide)]; rfl
  · have e3 : decide ((n : Int) ≥ 64) = false := decide_eq_false (by omega)
    by_cases c0 : n = 0
    · subst c0
      rw [Nat.pow_zero, Nat.mul_one]
      exact ⟨rfl, rfl, rfl⟩
    · have e8 : ((n : Int) == 0) = false := by simp; omega
      have e12 : IntKind.wrap .i64 (64 - (n : Int)) = ((64 - n : Nat) : Int) := by rw [wrap_i64_of (by omega) (by omega)]; omega
      have hx : hiN P * 2 ^ n < 18446744073709551616 := by
        have : hiN P * 18446744073709551616 * 2 ^ n ≤ P * 2 ^ n := Nat.mul_le_mul_right _ (by omega)
        rw [Nat.mul_right_comm] at this
        unfold two128 at h; omega
      have hy : loN P / 2 ^ (64 - n) < 2 ^ n := by
        rw [Nat.div_lt_iff_lt_mul (Nat.two_pow_pos _), Nat.mul_comm, ← p64 n (by omega)]; exact h2
      have ht : P * 2 ^ n = (hiN P * 2 ^ n + loN P / 2 ^ (64 - n)) * 18446744073709551616 + loN P * 2 ^ n % 18446744073709551616 := by
        conv => lhs; rw [e]
        rw [Nat.add_mul, Nat.mul_right_comm, ← muldiv _ n (by omega), Nat.add_mul]
        omega
      refine ⟨?_, ?_, ?_⟩
      · simp only [p106, e3, e8, e12]
        rw [decide_eq_true (show ((64 - n : Nat) : Int) ≥ 0 by omega), decide_eq_true (show (n : Int) ≥ 0 by omega)]
        simp [ow]
      · simp only [r106_0, e3, e8, e12, Bool.not_false, cond_true]
        rw [shl_lt hx, shr_nat h2, lor_nn hx (Nat.lt_of_le_of_lt (Nat.div_le_self _ _) h2), Nat.or_comm, or_high hy, ht, hi_of (Nat.mod_lt _ (by decide)), Nat.add_comm]
      · simp only [r106_1, e3, e8, Bool.not_false, cond_true]
        rw [ht, lo_of (Nat.mod_lt _ (by decide)), shl_nat]

def jamN (P n : Nat) : Nat := if P % 2 ^ n = 0 then P / 2 ^ n else P / 2 ^ n ||| 1
theorem or_one (x : Nat) : x ||| 1 = x / 2 * 2 + 1 := (one_parts x).2.1
theorem hi_or (P : Nat) : hiN (P ||| 1) = hiN P := by rw [or_one]; unfold hiN; omega
theorem lo_or (P : Nat) : loN (P ||| 1) = loN P ||| 1 := by rw [or_one, or_one]; unfold loN; omega
theorem jam_lt {P n : Nat} (h : P < two128) : jamN P n < two128 := by
  have h1 : P / 2 ^ n < two128 := Nat.lt_of_le_of_lt (Nat.div_le_self _ _) h
  unfold jamN
  split
  · exact h1
  · rw [or_one]; unfold two128 at *; omega
theorem jam_ok {P n : Nat} (h : P < two128) (hn : n < 9223372036854775808) : p123 (loN P) (n : Int) = true ∧ r123_0 (hiN P) (loN P) (n : Int) = (hiN (jamN P n) : Int) ∧ r123_1 (hiN P) (loN P) (n : Int) = (loN (jamN P n) : Int) := by
  have h2 := lo_lt P
  have h1 := hi_lt h
  have e := hi_lo P
  by_cases c0 : n = 0
  · subst c0
    have : jamN P 0 = P := by unfold jamN; rw [Nat.pow_zero, Nat.mod_one, if_pos rfl, Nat.div_one]
    rw [this]
    refine ⟨rfl, rfl, rfl⟩
  have e3 : decide ((n : Int) ≤ 0) = false := decide_eq_false (by omega)
  by_cases c1 : n ≥ 128
  · have e4 : decide ((n : Int) ≥ 128) = true := decide_eq_true (by omega)
    have hp : two128 ≤ 2 ^ n := Nat.pow_le_pow_right (n := 2) (by decide) c1
    have hz : (((hiN P : Int) == 0) && ((loN P : Int) == 0)) = decide (P = 0) := by
      rw [Bool.eq_iff_iff]; simp only [Bool.and_eq_true, beq_iff_eq, dec]; omega
    have hj : jamN P n = if P = 0 then 0 else 1 := by
      unfold jamN
      rw [Nat.mod_eq_of_lt (by omega), Nat.div_eq_of_lt (by omega)]
      rfl
    rw [hj]
    refine ⟨?_, ?_, ?_⟩
    · simp only [p123, e3, e4]; rfl
    · simp only [r123_0, e3, e4, hz]
      by_cases hP : P = 0
      · rw [if_pos hP, decide_eq_true hP]
        show (hiN P : Int) = _
        rw [hP]
      · rw [if_neg hP, decide_eq_false hP]; rfl
    · simp only [r123_1, e3, e4, hz]
      by_cases hP : P = 0
      · rw [if_pos hP, decide_eq_true hP]
        show (loN P : Int) = _
        rw [hP]
      · rw [if_neg hP, decide_eq_false hP]; rfl
  have e4 : decide ((n : Int) ≥ 128) = false := decide_eq_false (by omega)
  by_cases c2 : n ≥ 64
  · have e10 : decide ((n : Int) ≥ 64) = true := decide_eq_true (by omega)
    have e11 : IntKind.wrap .i64 ((n : Int) - 64) = ((n - 64 : Nat) : Int) := by rw [wrap_i64_of (by omega) (by omega)]; omega
    have e16 : IntKind.wrap .i64 (128 - (n : Int)) = ((128 - n : Nat) : Int) := by rw [wrap_i64_of (by omega) (by omega)]; omega
    have hp : 2 ^ n = 18446744073709551616 * 2 ^ (n - 64) := by
      have : 2 ^ n = 2 ^ 64 * 2 ^ (n - 64) := by rw [← Nat.pow_add]; congr 1; omega
      rw [this]
    have hd : P / 2 ^ n = hiN P / 2 ^ (n - 64) := by rw [hp, ← Nat.div_div_eq_div_mul]; rfl
    have hm : P % 2 ^ n = loN P + 18446744073709551616 * (hiN P % 2 ^ (n - 64)) := by rw [hp, Nat.mod_mul]; rfl
    have hs : ((ishl .u64 (hiN P : Int) ((128 - n : Nat) : Int)) != 0) = decide (hiN P % 2 ^ (n - 64) ≠ 0) := by
      rw [shl_nat, mulmod _ _ (by omega), show 64 - (128 - n) = n - 64 by omega, Bool.eq_iff_iff]
      simp only [bne_iff_ne, dec]
      have := Nat.two_pow_pos (128 - n)
      have h5 : hiN P % 2 ^ (n - 64) * 2 ^ (128 - n) = 0 ↔ hiN P % 2 ^ (n - 64) = 0 := by rw [Nat.mul_eq_zero]; omega
      omega
    have hb : (((loN P : Int) != 0) || (decide ((n : Int) > 64) && decide (hiN P % 2 ^ (n - 64) ≠ 0))) = decide (P % 2 ^ n ≠ 0) := by
      rw [hm, Bool.eq_iff_iff]
      simp only [Bool.or_eq_true, Bool.and_eq_true, bne_iff_ne, dec]
      have : n = 64 → hiN P % 2 ^ (n - 64) = 0 := fun h => by subst h; exact Nat.mod_one _
      omega
    have hq : hiN P / 2 ^ (n - 64) < 18446744073709551616 := Nat.lt_of_le_of_lt (Nat.div_le_self _ _) h1
    refine ⟨?_, ?_, ?_⟩
    · simp only [p123, e3, e4, e10, e11, e16]
      rw [decide_eq_true (show ((n - 64 : Nat) : Int) ≥ 0 by omega), decide_eq_true (show ((128 - n : Nat) : Int) ≥ 0 by omega)]
      simp [ow]
    · simp only [r123_0, e3, e4, e10]
      have : hiN (jamN P n) = 0 := by
        have : jamN P n < 18446744073709551616 := by
          unfold jamN; rw [hd]; split
          · exact hq
          · rw [or_one]; omega
        unfold hiN; omega
      rw [this]; rfl
    · simp only [r123_1, e3, e4, e10, e11, e16, hs, hb]
      unfold jamN
      by_cases hz : P % 2 ^ n = 0
      · rw [if_pos hz, decide_eq_false (fun h => h hz), hd]
        have : loN (hiN P / 2 ^ (n - 64)) = hiN P / 2 ^ (n - 64) := Nat.mod_eq_of_lt hq
        rw [this]
        exact shr_nat h1 _
      · rw [if_neg hz, decide_eq_true hz, hd, lo_or]
        have : loN (hiN P / 2 ^ (n - 64)) = hiN P / 2 ^ (n - 64) := Nat.mod_eq_of_lt hq
        rw [this]
        have h5 := lor_nn hq (show 1 < 18446744073709551616 by decide)
        rw [← shr_nat h1 (n - 64)] at h5
        exact h5
  · have e10 : decide ((n : Int) ≥ 64) = false := decide_eq_false (by omega)
    have e31 : IntKind.wrap .i64 (64 - (n : Int)) = ((64 - n : Nat) : Int) := by rw [wrap_i64_of (by omega) (by omega)]; omega
    have hx : loN P / 2 ^ n < 2 ^ (64 - n) := by
      rw [Nat.div_lt_iff_lt_mul (Nat.two_pow_pos _), ← p64 n (by omega)]; exact h2
    have hd : P / 2 ^ n = hiN P * 2 ^ (64 - n) + loN P / 2 ^ n := by
      conv => lhs; rw [e]
      rw [p64 n (by omega), ← Nat.mul_assoc, Nat.mul_comm, Nat.mul_add_div (Nat.two_pow_pos n)]
    have hm : P % 2 ^ n = loN P % 2 ^ n := by
      conv => lhs; rw [e]
      rw [p64 n (by omega), ← Nat.mul_assoc, Nat.mul_comm, Nat.mul_add_mod]
    have hdh : hiN (P / 2 ^ n) = hiN P / 2 ^ n := by
      have a := Nat.div_add_mod' (hiN P * 2 ^ (64 - n)) 18446744073709551616
      have b := mulmod (hiN P) (64 - n) (by omega)
      have c := muldiv (hiN P) (64 - n) (by omega)
      rw [show 64 - (64 - n) = n by omega] at b c
      rw [c, b] at a
      rw [hd, ← a, Nat.add_assoc, hi_of]
      have : (hiN P % 2 ^ n + 1) * 2 ^ (64 - n) ≤ 2 ^ n * 2 ^ (64 - n) := Nat.mul_le_mul_right _ (Nat.mod_lt _ (Nat.two_pow_pos n))
      rw [Nat.mul_comm (2 ^ n), ← p64 n (by omega), Nat.add_mul] at this
      omega
    have hdl : loN (P / 2 ^ n) = loN P / 2 ^ n ||| (hiN P * 2 ^ (64 - n) % 18446744073709551616) := by
      have a := Nat.div_add_mod' (hiN P * 2 ^ (64 - n)) 18446744073709551616
      have b := mulmod (hiN P) (64 - n) (by omega)
      rw [show 64 - (64 - n) = n by omega] at b
      rw [b] at a
      rw [b, or_high hx, hd, ← a, Nat.add_assoc, lo_of, Nat.add_comm]
      have : (hiN P % 2 ^ n + 1) * 2 ^ (64 - n) ≤ 2 ^ n * 2 ^ (64 - n) := Nat.mul_le_mul_right _ (Nat.mod_lt _ (Nat.two_pow_pos n))
      rw [Nat.mul_comm (2 ^ n), ← p64 n (by omega), Nat.add_mul] at this
      omega
    have hs : ((ishl .u64 (loN P : Int) ((64 - n : Nat) : Int)) != 0) = decide (P % 2 ^ n ≠ 0) := by
      rw [shl_nat, mulmod _ _ (by omega), show 64 - (64 - n) = n by omega, hm, Bool.eq_iff_iff]
      simp only [bne_iff_ne, dec]
      have := Nat.two_pow_pos (64 - n)
      have h5 : loN P % 2 ^ n * 2 ^ (64 - n) = 0 ↔ loN P % 2 ^ n = 0 := by rw [Nat.mul_eq_zero]; omega
      omega
    have hw1 : loN P / 2 ^ n < 18446744073709551616 := Nat.lt_of_le_of_lt (Nat.div_le_self _ _) h2
    have hl := lor_nn hw1 (Nat.mod_lt (hiN P * 2 ^ (64 - n)) (show 0 < 18446744073709551616 by decide))
    rw [← hdl] at hl
    refine ⟨?_, ?_, ?_⟩
    · simp only [p123, e3, e4, e10, e31]
      rw [decide_eq_true (show ((64 - n : Nat) : Int) ≥ 0 by omega), decide_eq_true (show (n : Int) ≥ 0 by omega)]
      simp [ow]
    · simp only [r123_0, e3, e4, e10]
      have : hiN (jamN P n) = hiN P / 2 ^ n := by
        unfold jamN; split
        · exact hdh
        · rw [hi_or, hdh]
      rw [this]
      exact shr_nat h1 n
    · rw [shl_nat] at hs
      simp only [r123_1, e3, e4, e10, e31, shr_nat h2 n, shl_nat, hs, hl]
      unfold jamN
      by_cases hz : P % 2 ^ n = 0
      · rw [if_pos hz, decide_eq_false (fun h => h hz)]; rfl
      · rw [if_neg hz, decide_eq_true hz, lo_or]
        exact lor_nn (lo_lt _) (show 1 < 18446744073709551616 by decide)

section
variable {s : Int} (hs : s = 4 ∨ s = 8)
include hs
theorem sround_ok {rm : Int} {minus : Bool} {P : Nat} {e : Int} (hP0 : 0 < P) (hP : P < two128) (h1 : -50000 ≤ e) (h2 : e ≤ 50000) :
    p98 (frN s) (biN s) rm minus e (hiN P) (loN P) = true ∧ r98_0 (frN s) (biN s) (topN s) rm minus e (hiN P) (loN P) = ((sgB s minus + (rnd (frN s) (biN s) rm minus P e false).1 : Nat) : Int) ∧
    r98_1 (frN s) (biN s) rm minus e (hiN P) (loN P) = ((rnd (frN s) (biN s) rm minus P e false).2 : Int) := by
  obtain ⟨f1, f2, f3, f4, f5, f6, f7, f8, f9, f10⟩ := size_facts hs
  have hb := blen_pos hP0
  have hb2 : blen P ≤ 128 := blen_le.2 hP
  have hlo := blen_low hP0
  have hup := blen_self (n := P)
  obtain ⟨z1, z2⟩ := zeros_ok hP
  generalize hn : 128 - blen P = n at *
  have hm0 : 170141183460469231731687303715884105728 ≤ P * 2 ^ n := by
    have : 2 ^ (blen P - 1) * 2 ^ n ≤ P * 2 ^ n := Nat.mul_le_mul_right _ hlo
    rw [← Nat.pow_add, show blen P - 1 + n = 127 by omega] at this
    exact this
  have hm : P * 2 ^ n < two128 := by
    have : P * 2 ^ n < 2 ^ blen P * 2 ^ n := Nat.mul_lt_mul_of_pos_right hup (Nat.two_pow_pos n)
    rw [← Nat.pow_add, show blen P + n = 128 by omega] at this
    exact this
  obtain ⟨u0, u1, u2⟩ := up_ok2 (P := P) (n := n) (by omega) hm
  have e13 : IntKind.wrap .i64 (64 - (n : Int)) = 64 - n := wrap_i64_of (by omega) (by omega)
  have e14 : IntKind.wrap .i64 (e + (64 - n)) = e + (64 - n) := wrap_i64_of (by omega) (by omega)
  have hh := hi_lt hm
  have hl := lo_lt (P * 2 ^ n)
  have ee := hi_lo (P * 2 ^ n)
  have hh0 : 9223372036854775808 ≤ hiN (P * 2 ^ n) := by unfold hiN; omega
  have hsc := rnd_scale (f := frN s) (b := biN s) (rm := rm) (minus := minus) (M := P) (k := n) (E := e) hP0
  have hnear := rnd_near (f := frN s) (b := biN s) (rm := rm) (minus := minus) (h := hiN (P * 2 ^ n)) (j := 64) (l := loN (P * 2 ^ n)) (e := e + (64 - n)) (more := false) (by
    have : 2 ^ (frN s + 2) ≤ 2 ^ 63 := Nat.pow_le_pow_right (by decide) (by omega)
    omega) hl
  have ee2 : hiN (P * 2 ^ n) * 2 ^ 64 + loN (P * 2 ^ n) = P * 2 ^ n := ee.symm
  rw [ee2, show e + (64 - (n : Int)) - (64 : Nat) = e - n by omega, hsc] at hnear
  have hmw : (bif ((loN (P * 2 ^ n) : Int) != 0) then ilor .u64 (hiN (P * 2 ^ n) : Int) 1 else (hiN (P * 2 ^ n) : Int)) = ((if loN (P * 2 ^ n) ≠ 0 ∨ false = true then hiN (P * 2 ^ n) ||| 1 else hiN (P * 2 ^ n) : Nat) : Int) := by
    by_cases h : loN (P * 2 ^ n) = 0
    · have : ((loN (P * 2 ^ n) : Int) != 0) = false := by simp [h]
      rw [this, if_neg (by simp [h])]; rfl
    · have : ((loN (P * 2 ^ n) : Int) != 0) = true := by simpa using h
      rw [this, if_pos (.inl h), cond_true]
      exact lor_nn hh (show 1 < 18446744073709551616 by decide)
  have hm1 : 9223372036854775808 ≤ (if loN (P * 2 ^ n) ≠ 0 ∨ false = true then hiN (P * 2 ^ n) ||| 1 else hiN (P * 2 ^ n)) ∧ (if loN (P * 2 ^ n) ≠ 0 ∨ false = true then hiN (P * 2 ^ n) ||| 1 else hiN (P * 2 ^ n)) < 18446744073709551616 := by
    split
    · rw [or_one]; omega
    · exact ⟨hh0, hh⟩
  generalize (if loN (P * 2 ^ n) ≠ 0 ∨ false = true then hiN (P * 2 ^ n) ||| 1 else hiN (P * 2 ^ n)) = m at *
  obtain ⟨m0, m1⟩ := hm1
  obtain ⟨c0, c1⟩ := core_ok hs (rm := rm) (minus := minus) (m := m) (e := e + (64 - n)) m0 m1 (by omega) (by omega)
  obtain ⟨d1, d2⟩ := dropOf_ok hs (e := e + (64 - n)) (by omega) (by omega)
  rw [← hnear] at c0 c1
  have hd : 0 < dropOf (frN s) (biN s) (e + (64 - n)) := by rw [d1]; omega
  have hlst : lastOf (frN s) (biN s) (64 + (e + (64 - n))) ≤ 1000000 := by
    unfold lastOf least; split <;> omega
  have hd2 : dropOf (frN s) (biN s) (e + (64 - n)) < 9223372036854775808 := by rw [d1]; omega
  obtain ⟨q1, q2⟩ := scut_ok rm minus (m := m) (b := dropOf (frN s) (biN s) (e + (64 - n))) (by omega) m1 hd
  obtain ⟨t1, _⟩ := scut_ok rm minus (m := m) (b := 63 - frN s) (by omega) m1 (by omega)
  have e12 : IntKind.wrap .i64 (63 - (frN s : Int)) = 63 - frN s := wrap_i64_of (by omega) (by omega)
  refine ⟨?_, ?_, ?_⟩
  · have a : decide ((frN s : Int) ≥ 0) = true := decide_eq_true (by omega)
    have b : p96 (frN s) = true := by simp only [p96, a]; rfl
    have c : p122 (63 - frN s) = true := p122_ok (by omega) (by omega)
    have d : p122 (bif decide (IntKind.wrap .i64 (e + (64 - n) + (63 - frN s)) < IntKind.wrap .i64 (IntKind.wrap .i64 (1 - (biN s : Int)) - frN s)) then IntKind.wrap .i64 (IntKind.wrap .i64 (IntKind.wrap .i64 (1 - (biN s : Int)) - frN s) - (e + (64 - n))) else 63 - frN s) = true := by
      have := p122_ok hd hd2
      unfold dropOf at this
      rw [e12] at this
      exact this
    simp only [p98, z1, z2, u0, e13, e14, e12, a, b, c, d, ow_t, List.all_cons, List.all_nil, id, Bool.and_true]
  · rw [← c0, ← q1, ← hmw, ← u1, ← u2, ← e14, ← e13, ← z2]; rfl
  · rw [← c1, ← q1, ← q2, ← t1, ← hmw, ← u1, ← u2, ← e12, ← e14, ← e13, ← z2]; rfl
end
end Go.Proofs.Ytacciadcmiiimaa

namespace Go.Proofs.Ytacciadcmiiimaa
open Go Go.Sx Go.Rnd
set_option maxRecDepth 100000
set_option maxHeartbeats 1000000

def finN (s : Int) (a : Nat) : Bool := !nanN s a && !infN s a && !zerN s a
def kdN (s : Int) (a : Nat) : Int := if nanN s a then 3 else if infN s a then 2 else if zerN s a then 0 else 1
def lzN (s : Int) (a : Nat) : Nat := 64 - blen (fM s a)
def teN (s : Int) (a : Nat) : Int := if finN s a then fE s a - lzN s a else 0
def tmN (s : Int) (a : Nat) : Nat := if finN s a then fM s a * 2 ^ lzN s a else 0

section
variable {s : Int} (hs : s = 4 ∨ s = 8) {a : Nat} (ha : a < 18446744073709551616)
include hs
theorem of92 : r92_0 s = (frN s : Int) ∧ r92_1 s = (biN s : Int) ∧ r92_2 s = (topN s : Int) := by rcases hs with rfl | rfl <;> exact ⟨rfl, rfl, rfl⟩
theorem emax_facts : emaxN s = 2 * biN s + 1 ∧ topN s = oneN s * (emaxN s + 1) ∧ 2 ^ (frN s - 1) = oneN s / 2 ∧ 1 ≤ oneN s / 2 := by rcases hs with rfl | rfl <;> decide
include ha
theorem fM_pos (h : finN s a = true) : 0 < fM s a := by
  have h1 := fr_lt hs ha
  unfold finN nanN infN zerN at h
  unfold fM
  simp only [Bool.and_eq_true, Bool.not_eq_true', decide_eq_false_iff_not] at h
  split <;> omega
theorem fE_le : -1074 ≤ fE s a ∧ fE s a ≤ 2000 := by
  have h1 := ex_le hs ha
  obtain ⟨f1, f2, f3, f4, f5, f6, f7, f8, f9, f10⟩ := size_facts hs
  have h2 := (emax_facts hs).1
  have h3 : frN s + biN s ≤ 1075 := by rcases hs with rfl | rfl <;> decide
  unfold fE
  split <;> omega
theorem blenM : blen (fM s a) ≤ 53 := by
  have h1 := fM_lt hs ha
  obtain ⟨f1, f2, f3, f4, f5, f6, f7, f8, f9, f10⟩ := size_facts hs
  exact blen_le.2 (by omega)
theorem tm_facts (h : finN s a = true) : 9223372036854775808 ≤ tmN s a ∧ tmN s a < 18446744073709551616 ∧ tmN s a = fM s a * 2 ^ lzN s a ∧ teN s a = fE s a - lzN s a ∧ 11 ≤ lzN s a ∧ lzN s a ≤ 63 := by
  have hp := fM_pos hs ha h
  have hb := blenM hs ha
  have hb0 := blen_pos hp
  have hlo := blen_low hp
  have hup := blen_self (n := fM s a)
  have e : tmN s a = fM s a * 2 ^ lzN s a := by unfold tmN; rw [if_pos h]
  have e2 : teN s a = fE s a - lzN s a := by unfold teN; rw [if_pos h]
  rw [e, e2]
  unfold lzN
  generalize hn : 64 - blen (fM s a) = n at *
  refine ⟨?_, ?_, rfl, rfl, by omega, by omega⟩
  · have : 2 ^ (blen (fM s a) - 1) * 2 ^ n ≤ fM s a * 2 ^ n := Nat.mul_le_mul_right _ hlo
    rw [← Nat.pow_add, show blen (fM s a) - 1 + n = 63 by omega] at this
    exact this
  · have : fM s a * 2 ^ n < 2 ^ blen (fM s a) * 2 ^ n := Nat.mul_lt_mul_of_pos_right hup (Nat.two_pow_pos n)
    rw [← Nat.pow_add, show blen (fM s a) + n = 64 by omega] at this
    exact this
theorem te_le : -1200 ≤ teN s a ∧ teN s a ≤ 2000 := by
  have h1 := fE_le hs ha
  unfold teN lzN
  split <;> omega
theorem tm_lt : tmN s a < 18446744073709551616 := by
  cases h : finN s a with
  | true => exact (tm_facts hs ha h).2.1
  | false => unfold tmN; rw [if_neg (by rw [h]; decide)]; decide
theorem take_ok : g93 [.i (frN s), .i (biN s), .i (topN s), .i (a : Int)] = [.b true, .b (sgN s a), .b (loudN s a), .i (kdN s a), .i (teN s a), .i (tmN s a)] := by
  obtain ⟨f1, f2, f3, f4, f5, f6, f7, f8, f9, f10⟩ := size_facts hs
  obtain ⟨g1, g2, g3, g4⟩ := emax_facts hs
  have hl := mk_lt hs ha
  have h1 := fr_lt hs ha
  have h2 := ex_le hs ha
  have k6 : iland .u64 (a : Int) (IntKind.wrap .u64 (ishl .u64 (topN s : Int) 1 - 1)) = (mkN s a : Int) := by
    rcases hs with rfl | rfl
    · exact land_low (n := 32) ha (by decide)
    · have : iland .u64 (a : Int) ((2 ^ 64 - 1 : Nat) : Int) = ((a % 2 ^ 64 : Nat) : Int) := land_low ha (by decide)
      rw [Nat.mod_eq_of_lt ha] at this
      exact this
  have k7 : (iland .u64 (mkN s a : Int) (topN s : Int) != 0) = sgN s a := by
    have := land_bit (a := (mkN s a : Int)) (m := (topN s : Int)) (by omega) (by omega) (if s = 4 then 31 else 63) (by split <;> decide) (by rcases hs with rfl | rfl <;> decide)
    rw [this, Bool.eq_iff_iff]
    unfold sgN
    simp only [bne_iff_ne, dec]
    have hq : mkN s a / topN s < 2 := by rw [Nat.div_lt_iff_lt_mul (by rcases hs with rfl | rfl <;> decide)]; exact hl
    have he : (mkN s a : Int) / (topN s : Int) % 2 = ((mkN s a / topN s : Nat) : Int) := by
      rw [← Int.natCast_ediv]
      revert hq
      generalize mkN s a / topN s = q
      intro hq; omega
    rw [he]
    have ht : 0 < topN s := by rcases hs with rfl | rfl <;> decide
    have hz : (topN s : Int) * ((mkN s a / topN s : Nat) : Int) = 0 ↔ mkN s a / topN s = 0 := by
      rw [← Int.natCast_mul, Int.natCast_eq_zero, Nat.mul_eq_zero]; omega
    omega
  have k9 : ilandNot .u64 (mkN s a : Int) (topN s : Int) = ((mkN s a % topN s : Nat) : Int) := by
    have := landNot_bit (a := (mkN s a : Int)) (m := (topN s : Int)) (by omega) (by omega) (if s = 4 then 31 else 63) (by split <;> decide) (by rcases hs with rfl | rfl <;> decide)
    rw [this]
    have hq : mkN s a / topN s < 2 := by rw [Nat.div_lt_iff_lt_mul (by rcases hs with rfl | rfl <;> decide)]; exact hl
    have he : (mkN s a : Int) / (topN s : Int) % 2 = ((mkN s a / topN s : Nat) : Int) := by
      rw [← Int.natCast_ediv]
      revert hq
      generalize mkN s a / topN s = q
      intro hq; omega
    rw [he]
    have hd := Nat.div_add_mod (mkN s a) (topN s)
    rw [← Int.natCast_mul]
    omega
  have k11 : ishr .u64 ((mkN s a % topN s : Nat) : Int) (frN s : Int) = (exf s a : Int) := by
    have : mkN s a % topN s < 18446744073709551616 := Nat.lt_of_le_of_lt (Nat.mod_le _ _) (by omega)
    rw [shr_nat this, f5, g2]
    unfold exf
    rw [Nat.mod_mul_right_div_self]
  have k12 : IntKind.wrap .i64 (exf s a : Int) = (exf s a : Int) := wri (by omega)
  have k16 : iland .u64 (mkN s a : Int) (IntKind.wrap .u64 (ishl .u64 1 (frN s : Int) - 1)) = (frf s a : Int) := by
    rw [low_mask (by omega) (by omega), f5]; rfl
  have k18 : IntKind.wrap .i64 (IntKind.wrap .i64 (2 * (biN s : Int)) + 1) = (emaxN s : Int) := by rcases hs with rfl | rfl <;> decide
  have k22 : IntKind.wrap .i64 ((frN s : Int) - 1) = ((frN s - 1 : Nat) : Int) := by rw [wrap_i64_of (by omega) (by omega)]; omega
  have k24 : (ishr .u64 (frf s a : Int) ((frN s - 1 : Nat) : Int) == 0) = decide (frf s a < oneN s / 2) := by
    rw [shr_nat (by omega), g3, Bool.eq_iff_iff]
    simp only [beq_iff_eq, dec]
    rw [Int.natCast_eq_zero, Nat.div_eq_zero_iff]; omega
  have k19 : ((exf s a : Int) == (emaxN s : Int)) = decide (exf s a = emaxN s) := by rw [Bool.eq_iff_iff]; simp only [beq_iff_eq, dec]; omega
  have k20 : ((frf s a : Int) != 0) = decide (frf s a ≠ 0) := by rw [Bool.eq_iff_iff]; simp only [bne_iff_ne, dec]; omega
  have k29 : ((exf s a : Int) == 0) = decide (exf s a = 0) := by rw [Bool.eq_iff_iff]; simp only [beq_iff_eq, dec]; omega
  have k30 : ((frf s a : Int) == 0) = decide (frf s a = 0) := by rw [Bool.eq_iff_iff]; simp only [beq_iff_eq, dec]; omega
  have k34 : ishl .u64 1 (frN s : Int) = (oneN s : Int) := by rcases hs with rfl | rfl <;> decide
  have k17 : iland .u64 (mkN s a : Int) (IntKind.wrap .u64 ((oneN s : Int) - 1)) = (frf s a : Int) := by rw [← k34]; exact k16
  have k40 : (bif decide (exf s a = 0) then (frf s a : Int) else ilor .u64 (frf s a : Int) (oneN s : Int)) = (fM s a : Int) := by
    unfold fM
    by_cases h : exf s a = 0
    · rw [decide_eq_true h, if_neg (by omega)]; rfl
    · rw [decide_eq_false h, if_pos (by omega), cond_false, lor_nn (by omega) (by omega)]
      have : oneN s = 1 * 2 ^ frN s := by rw [Nat.one_mul, f5]
      rw [this, or_high (by rw [f5]; exact h1)]
  have hM := blenM hs ha
  have hM2 := fM_lt hs ha
  have k42 : r115_0 (fM s a : Int) = (lzN s a : Int) := lz64 (by omega)
  have k39 : (bif decide (exf s a = 0) then (1 : Int) else (exf s a : Int)) = (if 0 < exf s a then (exf s a : Int) else 1) := by
    by_cases h : exf s a = 0
    · rw [decide_eq_true h, if_neg (by omega)]; rfl
    · rw [decide_eq_false h, if_pos (by omega)]; rfl
  have kE : IntKind.wrap .i64 (IntKind.wrap .i64 (IntKind.wrap .i64 ((if 0 < exf s a then (exf s a : Int) else 1) - biN s) - frN s) - lzN s a) = fE s a - lzN s a := by
    have h5 := fE_le hs ha
    have h6 : lzN s a ≤ 64 := by unfold lzN; omega
    have h7 : (1 : Int) ≤ (if 0 < exf s a then (exf s a : Int) else 1) ∧ (if 0 < exf s a then (exf s a : Int) else 1) ≤ 2048 := by split <;> omega
    have h8 : fE s a = (if 0 < exf s a then (exf s a : Int) else 1) - biN s - frN s := rfl
    rw [h8]
    generalize (if 0 < exf s a then (exf s a : Int) else 1) = z at *
    rw [wrap_i64_of (n := z - biN s) (by omega) (by omega), wrap_i64_of (n := z - biN s - frN s) (by omega) (by omega), wrap_i64_of (by omega) (by omega)]
  have c1 : nanN s a = (decide (exf s a = emaxN s) && decide (frf s a ≠ 0)) := by unfold nanN; rw [Bool.decide_and]
  have c2 : infN s a = (decide (exf s a = emaxN s) && decide (frf s a = 0)) := by unfold infN; rw [Bool.decide_and]
  have c3 : zerN s a = (decide (exf s a = 0) && decide (frf s a = 0)) := by unfold zerN; rw [Bool.decide_and]
  have c4 : loudN s a = (decide (exf s a = emaxN s) && decide (frf s a ≠ 0) && decide (frf s a < oneN s / 2)) := by unfold loudN; rw [Bool.decide_and, Bool.decide_and, Bool.and_assoc]
  have hfin : (bif decide (exf s a = emaxN s) && decide (frf s a ≠ 0) then false else bif decide (exf s a = emaxN s) then false else !(decide (exf s a = 0) && decide (frf s a = 0))) = finN s a := by
    unfold finN
    rw [c1, c2, c3]
    have : decide (frf s a ≠ 0) = !decide (frf s a = 0) := by rw [Bool.eq_iff_iff]; simp
    rw [this]
    cases decide (exf s a = emaxN s) <;> cases decide (frf s a = 0) <;> cases decide (exf s a = 0) <;> rfl
  have a1 : decide ((frN s : Int) ≥ 0) = true := decide_eq_true (by omega)
  have a2 : decide (((frN s - 1 : Nat) : Int) ≥ 0) = true := decide_eq_true (by omega)
  have a3 : decide ((lzN s a : Int) ≥ 0) = true := decide_eq_true (by omega)
  have e0 : p93 (frN s) (biN s) (topN s) (a : Int) = true := by
    simp only [p93, k6, k9, k11, k12, k17, k18, k19, k20, k22, k29, k30, k34, k40, k42, a1, a2, a3, p115_ok, ow_t, List.all_cons, List.all_nil, id, Bool.and_true]
  have e1 : r93_0 (topN s) (a : Int) = sgN s a := by simp only [r93_0, k6, k7]
  have e2 : r93_1 (frN s) (biN s) (topN s) (a : Int) = loudN s a := by
    simp only [r93_1, k6, k9, k11, k12, k16, k18, k19, k20, k22, k24, k29, k30, hfin]
    rw [c4]
    unfold finN
    rw [c1]
    cases decide (exf s a = emaxN s) <;> cases decide (frf s a ≠ 0) <;> simp
  have e3 : r93_2 (frN s) (biN s) (topN s) (a : Int) = kdN s a := by
    simp only [r93_2, k6, k9, k11, k12, k16, k18, k19, k20, k29, k30, hfin]
    unfold finN kdN
    rw [c1, c2, c3]
    have : decide (frf s a ≠ 0) = !decide (frf s a = 0) := by rw [Bool.eq_iff_iff]; simp
    rw [this]
    by_cases h5 : exf s a = emaxN s
    · have h6 : exf s a ≠ 0 := by rw [h5, g1]; omega
      rw [decide_eq_true h5, decide_eq_false h6]
      cases decide (frf s a = 0) <;> rfl
    · rw [decide_eq_false h5]
      cases decide (exf s a = 0) <;> cases decide (frf s a = 0) <;> rfl
  have e4 : r93_3 (frN s) (biN s) (topN s) (a : Int) = teN s a := by
    simp only [r93_3, k6, k9, k11, k12, k17, k18, k19, k20, k29, k30, hfin, k34, k40, k42, k39, kE]
    unfold teN
    cases finN s a <;> rfl
  have e5 : r93_4 (frN s) (biN s) (topN s) (a : Int) = (tmN s a : Int) := by
    simp only [r93_4, k6, k9, k11, k12, k17, k18, k19, k20, k29, k30, hfin, k34, k40, k42]
    unfold tmN
    cases h : finN s a with
    | false => rfl
    | true =>
      obtain ⟨t1, t2, t3, _⟩ := tm_facts hs ha h
      rw [t3] at t2
      rw [if_pos rfl]
      exact shl_lt t2
  show [DV.b (p93 (frN s) (biN s) (topN s) (a : Int)), .b (r93_0 (topN s) (a : Int)), .b (r93_1 (frN s) (biN s) (topN s) (a : Int)), .i (r93_2 (frN s) (biN s) (topN s) (a : Int)), .i (r93_3 (frN s) (biN s) (topN s) (a : Int)), .i (r93_4 (frN s) (biN s) (topN s) (a : Int))] = _
  rw [e0, e1, e2, e3, e4, e5]
theorem term_ok : r108_0 (sgN s a) = sgN s a ∧ r108_1 (kdN s a) (teN s a) = (if zerN s a then 0 else teN s a - 63) ∧ r108_2 (kdN s a) (tmN s a) = (if zerN s a then 0 else (hiN (tmN s a * 9223372036854775808) : Int)) ∧ r108_3 (kdN s a) (tmN s a) = (if zerN s a then 0 else (loN (tmN s a * 9223372036854775808) : Int)) := by
  have ht := te_le hs ha
  have hm := tm_lt hs ha
  have hk : (kdN s a == 0) = zerN s a := by
    unfold kdN
    have h1 : nanN s a = true → zerN s a = false := fun h => by
      unfold nanN at h; unfold zerN
      have := (emax_facts hs).1
      simp only [dec, decide_eq_false_iff_not] at h ⊢; omega
    have h2 : infN s a = true → zerN s a = false := fun h => by
      unfold infN at h; unfold zerN
      have := (emax_facts hs).1
      simp only [dec, decide_eq_false_iff_not] at h ⊢; omega
    cases h3 : nanN s a <;> cases h4 : infN s a <;> cases h5 : zerN s a <;> simp_all
  have w : IntKind.wrap .i64 (teN s a - 63) = teN s a - 63 := wrap_i64_of (by omega) (by omega)
  have hh : hiN (tmN s a * 9223372036854775808) = tmN s a / 2 ^ 1 := by unfold hiN; omega
  have hl : loN (tmN s a * 9223372036854775808) = tmN s a * 2 ^ 63 % 18446744073709551616 := by unfold loN; rfl
  have e1 : ishr .u64 (tmN s a : Int) 1 = ((tmN s a / 2 ^ 1 : Nat) : Int) := shr_nat hm 1
  have e2 : ishl .u64 (tmN s a : Int) 63 = ((tmN s a * 2 ^ 63 % 18446744073709551616 : Nat) : Int) := shl_nat (tmN s a) 63
  refine ⟨rfl, ?_, ?_, ?_⟩
  · simp only [r108_1, hk, w]; cases zerN s a <;> rfl
  · simp only [r108_2, hk, e1, hh]; cases zerN s a <;> rfl
  · simp only [r108_3, hk, e2, hl]; cases zerN s a <;> rfl
end

theorem quiet_s {s : Int} (hs : s = 4 ∨ s = 8) : p120 (frN s) = true ∧ r120_0 (frN s) (biN s) = (quiB s : Int) := by rcases hs with rfl | rfl <;> decide
def bad1 (b : Bool) (k : Int) (l : Bool) : Bool := bif k == 3 then b || l else b
theorem nans_of {s : Int} (hs : s = 4 ∨ s = 8) {inv B I : Bool} {fs : List DV} {r3 : DV} (h : L109400 ((fs.length / 5 : Nat) : Int) fs inv inv 0 = some [.i 0, .b B, .b I, r3]) :
    p94 (frN s) inv fs = true ∧ r94_0 (frN s) (biN s) inv fs = (quiB s : Int) ∧ r94_1 inv fs = (if B then 16 else 0) ∧ r94_2 inv fs = (B || I) := by
  obtain ⟨q1, q2⟩ := quiet_s hs
  have hg : g109400 [.i ((fs.length / 5 : Nat) : Int), .l fs, .b inv, .b inv, .i 0] = [.b true, .i 0, .b B, .b I, .i r3.toI] := by
    show [DV.b (p109400 ((fs.length / 5 : Nat) : Int) fs inv inv 0), .i (r109400_0 ((fs.length / 5 : Nat) : Int) fs inv inv 0), .b (r109400_1 ((fs.length / 5 : Nat) : Int) fs inv inv 0), .b (r109400_2 ((fs.length / 5 : Nat) : Int) fs inv inv 0), .i (r109400_3 ((fs.length / 5 : Nat) : Int) fs inv inv 0)] = _
    simp only [p109400, r109400_0, r109400_1, r109400_2, r109400_3, h]
    rfl
  refine ⟨?_, ?_, ?_, ?_⟩
  · simp only [p94, hg, q1]
    show [ow [] true, ow [(B, true)] true, ow [(!B, true)] true].all id = true
    cases B <;> rfl
  · simp only [r94_0, hg, q2]
    show (bif !B then _ else _) = _
    cases B <;> rfl
  · simp only [r94_1, hg]
    show (bif !B then (0 : Int) else 16) = _
    cases B <;> rfl
  · simp only [r94_2, hg]
    show (bif !B then I else true) = _
    cases B <;> simp
theorem nans_step {fs : List DV} {n : Nat} {x y l : Bool} {k : Int} {i : Nat} (hi : i < n) (hn : fs.length = 5 * n) (hx : i < 9223372036854775807) (h1 : fs.getD (i * 5 + 1) default = .b l) (h2 : fs.getD (i * 5 + 2) default = .i k) :
    loopG W109400 C109400 N109400 T109400 [.i (n : Int), .l fs, .b x, .b y, .i (i : Int)] = loopG W109400 C109400 N109400 T109400 [.i (n : Int), .l fs, .b (bad1 x k l), .b ((k == 3) || y), .i ((i + 1 : Nat) : Int)] := by
  have hw : W109400 [.i (n : Int), .l fs, .b x, .b y, .i (i : Int)] = true := by
    show w109400 (n : Int) fs x y (i : Int) = true
    simp only [w109400, hn]
    rw [decide_eq_true (show (i : Int) ≥ 0 by omega), decide_eq_true (show (i : Int) < ((5 * n / 5 : Nat) : Int) by omega)]
    simp [ow_t]
  have hc : C109400 [.i (n : Int), .l fs, .b x, .b y, .i (i : Int)] = true := decide_eq_true (show (i : Int) < (n : Int) by omega)
  rw [loopG_next hw hc]
  congr 1
  have e1 : (fs.getD (Int.toNat (i : Int) * 5 + 1) default).toB = l := by rw [Int.toNat_natCast, h1]
  have e2 : (fs.getD (Int.toNat (i : Int) * 5 + 2) default).toI = k := by rw [Int.toNat_natCast, h2]
  show [DV.i (n : Int), .l fs, .b (n109400_0 (n : Int) fs x y (i : Int)), .b (n109400_1 (n : Int) fs x y (i : Int)), .i (IntKind.wrap .i64 ((i : Int) + 1))] = _
  rw [wri1 (by omega)]
  simp only [n109400_0, n109400_1, e1, e2]
  rfl
theorem nans_end {fs : List DV} {n : Nat} {x y : Bool} : loopG W109400 C109400 N109400 T109400 [.i (n : Int), .l fs, .b x, .b y, .i (n : Int)] = some [.i 0, .b x, .b y, .i (n : Int)] := by
  have hc : C109400 [.i (n : Int), .l fs, .b x, .b y, .i (n : Int)] = false := decide_eq_false (show ¬ (n : Int) < (n : Int) by omega)
  have hw : W109400 [.i (n : Int), .l fs, .b x, .b y, .i (n : Int)] = true := by
    show w109400 (n : Int) fs x y (n : Int) = true
    simp only [w109400]
    rw [decide_eq_false (show ¬ (n : Int) < (n : Int) by omega)]
    simp [ow]
  exact loopG_last hw hc
theorem nans1 {inv s1 l1 : Bool} {k1 e1 m1 : Int} : L109400 1 [.b s1, .b l1, .i k1, .i e1, .i m1] inv inv 0 = some [.i 0, .b (bad1 inv k1 l1), .b ((k1 == 3) || inv), .i 1] :=
  (nans_step (n := 1) (i := 0) (by decide) rfl (by decide) rfl rfl).trans (nans_end (n := 1))
theorem nans2 {inv s1 l1 s2 l2 : Bool} {k1 e1 m1 k2 e2 m2 : Int} : L109400 2 [.b s1, .b l1, .i k1, .i e1, .i m1, .b s2, .b l2, .i k2, .i e2, .i m2] inv inv 0 =
    some [.i 0, .b (bad1 (bad1 inv k1 l1) k2 l2), .b ((k2 == 3) || ((k1 == 3) || inv)), .i 2] :=
  (nans_step (n := 2) (i := 0) (by decide) rfl (by decide) rfl rfl).trans ((nans_step (n := 2) (i := 1) (by decide) rfl (by decide) rfl rfl).trans (nans_end (n := 2)))
theorem nans3 {inv s1 l1 s2 l2 s3 l3 : Bool} {k1 e1 m1 k2 e2 m2 k3 e3 m3 : Int} : L109400 3 [.b s1, .b l1, .i k1, .i e1, .i m1, .b s2, .b l2, .i k2, .i e2, .i m2, .b s3, .b l3, .i k3, .i e3, .i m3] inv inv 0 =
    some [.i 0, .b (bad1 (bad1 (bad1 inv k1 l1) k2 l2) k3 l3), .b ((k3 == 3) || ((k2 == 3) || ((k1 == 3) || inv))), .i 3] :=
  (nans_step (n := 3) (i := 0) (by decide) rfl (by decide) rfl rfl).trans ((nans_step (n := 3) (i := 1) (by decide) rfl (by decide) rfl rfl).trans ((nans_step (n := 3) (i := 2) (by decide) rfl (by decide) rfl rfl).trans (nans_end (n := 3))))
theorem bad_kd {s : Int} {a : Nat} (b : Bool) : bad1 b (kdN s a) (loudN s a) = (b || loudN s a) := by
  unfold bad1 kdN
  have h : loudN s a = true → nanN s a = true := by
    unfold loudN nanN; simp only [dec]; omega
  cases h1 : nanN s a <;> cases h2 : infN s a <;> cases h3 : zerN s a <;> cases h4 : loudN s a <;> simp_all
theorem kd3 {s : Int} {a : Nat} : (kdN s a == 3) = nanN s a := by
  unfold kdN; cases nanN s a <;> cases infN s a <;> cases zerN s a <;> rfl
theorem kd2 {s : Int} (_hs : s = 4 ∨ s = 8) {a : Nat} : (kdN s a == 2) = infN s a := by
  have h : infN s a = true → nanN s a = false := by
    unfold infN nanN; simp only [dec, decide_eq_false_iff_not]; omega
  unfold kdN; cases h1 : nanN s a <;> cases h2 : infN s a <;> cases zerN s a <;> simp_all
theorem kd0 {s : Int} (hs : s = 4 ∨ s = 8) {a : Nat} : (kdN s a == 0) = zerN s a := by
  have hz := (emax_facts hs).1
  have h1 : nanN s a = true → zerN s a = false := by unfold nanN zerN; simp only [dec, decide_eq_false_iff_not]; omega
  have h2 : infN s a = true → zerN s a = false := by unfold infN zerN; simp only [dec, decide_eq_false_iff_not]; omega
  unfold kdN; cases h3 : nanN s a <;> cases h4 : infN s a <;> cases h5 : zerN s a <;> simp_all
theorem kd1 {s : Int} {a : Nat} : (kdN s a == 1) = finN s a := by
  unfold kdN finN; cases nanN s a <;> cases infN s a <;> cases zerN s a <;> rfl
section
variable {s : Int} (hs : s = 4 ∨ s = 8) {a b c : Nat} (ha : a < 18446744073709551616) (hb : b < 18446744073709551616) (hc : c < 18446744073709551616)
include hs ha
include hb
include hc
end
end Go.Proofs.Ytacciadcmiiimaa

namespace Go.Proofs.Ytacciadcmiiimaa
open Go Go.Sx Go.Rnd
set_option maxRecDepth 100000
set_option maxHeartbeats 1000000

theorem mul64_ok {x y : Nat} (hx : x < 18446744073709551616) (hy : y < 18446744073709551616) : r97_0 (x : Int) (y : Int) = (hiN (x * y) : Int) ∧ r97_1 (x : Int) (y : Int) = (loN (x * y) : Int) := by
  constructor
  · have lo : ∀ z : Nat, z < 18446744073709551616 → iland .u64 (z : Int) 4294967295 = ((z % 4294967296 : Nat) : Int) := fun z hz => land_low (n := 32) hz (by decide)
    have w : ∀ z : Nat, z < 18446744073709551616 → IntKind.wrap .u64 (z : Int) = (z : Int) := fun z hz => wr64 hz
    simp only [r97_0]
    rw [lo x hx, lo y hy, shr32, shr32]
    have hx0 : x % 4294967296 < 4294967296 := Nat.mod_lt _ (by decide)
    have hy0 : y % 4294967296 < 4294967296 := Nat.mod_lt _ (by decide)
    have hx1 : x / 4294967296 < 4294967296 := by omega
    have hy1 : y / 4294967296 < 4294967296 := by omega
    have ex : x = x / 4294967296 * 4294967296 + x % 4294967296 := by omega
    have ey : y = y / 4294967296 * 4294967296 + y % 4294967296 := by omega
    have he : x * y = (x / 4294967296 * (y / 4294967296)) * 18446744073709551616 + (x / 4294967296 * (y % 4294967296) + x % 4294967296 * (y / 4294967296)) * 4294967296 + x % 4294967296 * (y % 4294967296) := by
      conv => lhs; rw [ex, ey]
      rw [Nat.add_mul, Nat.mul_add, Nat.mul_add, Nat.add_mul]
      have e1 : x / 4294967296 * 4294967296 * (y / 4294967296 * 4294967296) = x / 4294967296 * (y / 4294967296) * 18446744073709551616 := by
        rw [Nat.mul_mul_mul_comm]
      have e2 : x / 4294967296 * 4294967296 * (y % 4294967296) = x / 4294967296 * (y % 4294967296) * 4294967296 := Nat.mul_right_comm ..
      have e3 : x % 4294967296 * (y / 4294967296 * 4294967296) = x % 4294967296 * (y / 4294967296) * 4294967296 := (Nat.mul_assoc ..).symm
      omega
    generalize x % 4294967296 = a0 at *
    generalize x / 4294967296 = a1 at *
    generalize y % 4294967296 = b0 at *
    generalize y / 4294967296 = b1 at *
    have m : ∀ p q : Nat, p < 4294967296 → q < 4294967296 → p * q ≤ 18446744065119617025 := fun p q hp hq => Nat.mul_le_mul (show p ≤ 4294967295 by omega) (show q ≤ 4294967295 by omega)
    have m00 := m a0 b0 hx0 hy0
    have m10 := m a1 b0 hx1 hy0
    have m01 := m a0 b1 hx0 hy1
    have m11 := m a1 b1 hx1 hy1
    rw [he]
    rw [← Int.natCast_mul, ← Int.natCast_mul, ← Int.natCast_mul, ← Int.natCast_mul]
    generalize a0 * b0 = p00 at *
    generalize a1 * b0 = p10 at *
    generalize a0 * b1 = p01 at *
    generalize a1 * b1 = p11 at *
    rw [w p00 (by omega), w p10 (by omega), w p01 (by omega), w p11 (by omega), shr32, ← Int.natCast_add, w (p10 + p00 / 4294967296) (by omega), lo _ (by omega), shr32, ← Int.natCast_add ((p10 + p00 / 4294967296) % 4294967296) p01,
      w ((p10 + p00 / 4294967296) % 4294967296 + p01) (by omega), shr32, ← Int.natCast_add p11]
    unfold hiN
    have hf : p11 + (p10 + p00 / 4294967296) / 4294967296 + ((p10 + p00 / 4294967296) % 4294967296 + p01) / 4294967296 = (p11 * 18446744073709551616 + (p10 + p01) * 4294967296 + p00) / 18446744073709551616 := by omega
    have hlt : (p11 * 18446744073709551616 + (p10 + p01) * 4294967296 + p00) / 18446744073709551616 < 18446744073709551616 := by
      rw [← he]
      rw [Nat.div_lt_iff_lt_mul (by decide)]
      exact Nat.mul_lt_mul_of_lt_of_le hx (Nat.le_of_lt hy) (by decide)
    rw [← hf] at hlt
    rw [w _ (by omega), ← Int.natCast_add, w _ hlt, hf]
  · simp only [r97_1]
    rw [← Int.natCast_mul, wrap_u64]; rfl

def oddP (s : Int) (inv loud : Bool) : Nat × Nat := (quiB s, if inv || loud then 16 else 0)
def rndP (s rm : Int) (mi : Bool) (M : Nat) (E : Int) (more : Bool) : Nat × Nat := (sgB s mi + (rnd (frN s) (biN s) rm mi M E more).1, (rnd (frN s) (biN s) rm mi M E more).2)
def mulS (s rm : Int) (a b : Nat) : Nat × Nat :=
  if (infN s a && zerN s b || zerN s a && infN s b) || nanN s a || nanN s b then oddP s (infN s a && zerN s b || zerN s a && infN s b) (loudN s a || loudN s b)
  else if infN s a || infN s b then (sgB s (sgN s a != sgN s b) + infB s, 0)
  else if zerN s a || zerN s b then (sgB s (sgN s a != sgN s b), 0)
  else rndP s rm (sgN s a != sgN s b) (fM s a * fM s b) (fE s a + fE s b) false

theorem right_ok {s rm : Int} (hs : s = 4 ∨ s = 8) (h0 : 0 ≤ rm) (h1 : rm ≤ 4) : r91_0 s rm = true ∧ r99_0 s rm = true := by
  have e1 : decide (rm ≥ 0) = true := decide_eq_true h0
  have e2 : decide (rm ≤ 4) = true := decide_eq_true h1
  rcases hs with rfl | rfl <;> (constructor <;> (first | simp only [r91_0, e1, e2] | simp only [r99_0, e1, e2]) <;> rfl)
theorem loud_nan {s : Int} {a : Nat} (h : nanN s a = false) : loudN s a = false := by
  unfold nanN at h; unfold loudN
  simp only [decide_eq_false_iff_not] at h ⊢; omega
theorem inf_nan {s : Int} {a : Nat} (h : infN s a = true) : nanN s a = false := by
  unfold infN at h; unfold nanN
  simp only [dec, decide_eq_false_iff_not] at h ⊢; omega
theorem zer_inf {s : Int} (hs : s = 4 ∨ s = 8) {a : Nat} (h : zerN s a = true) : infN s a = false ∧ nanN s a = false := by
  have := (emax_facts hs).1
  unfold zerN at h; unfold infN nanN
  simp only [dec, decide_eq_false_iff_not] at h ⊢; omega
theorem nans_at {s : Int} (hs : s = 4 ∨ s = 8) {inv B I : Bool} {fs : List DV} {r3 : DV} {n : Nat} (hn : fs.length = 5 * n) (h : L109400 (n : Int) fs inv inv 0 = some [.i 0, .b B, .b I, r3]) :
    p94 (frN s) inv fs = true ∧ r94_0 (frN s) (biN s) inv fs = (quiB s : Int) ∧ r94_1 inv fs = (if B then 16 else 0) ∧ r94_2 inv fs = (B || I) := by
  refine nans_of hs (r3 := r3) ?_
  rw [hn, Nat.mul_div_cancel_left _ (by decide)]
  exact h

section
variable {s rm : Int} (hs : s = 4 ∨ s = 8) (h0 : 0 ≤ rm) (h1 : rm ≤ 4) {a b : Nat} (ha : a < 18446744073709551616) (hb : b < 18446744073709551616)
include hs ha hb
theorem nans_2 (inv : Bool) : p94 (frN s) inv [.b (sgN s a), .b (loudN s a), .i (kdN s a), .i (teN s a), .i (tmN s a), .b (sgN s b), .b (loudN s b), .i (kdN s b), .i (teN s b), .i (tmN s b)] = true ∧
    r94_0 (frN s) (biN s) inv [.b (sgN s a), .b (loudN s a), .i (kdN s a), .i (teN s a), .i (tmN s a), .b (sgN s b), .b (loudN s b), .i (kdN s b), .i (teN s b), .i (tmN s b)] = (quiB s : Int) ∧
    r94_1 inv [.b (sgN s a), .b (loudN s a), .i (kdN s a), .i (teN s a), .i (tmN s a), .b (sgN s b), .b (loudN s b), .i (kdN s b), .i (teN s b), .i (tmN s b)] = (if inv || (loudN s a || loudN s b) then 16 else 0) ∧
    r94_2 inv [.b (sgN s a), .b (loudN s a), .i (kdN s a), .i (teN s a), .i (tmN s a), .b (sgN s b), .b (loudN s b), .i (kdN s b), .i (teN s b), .i (tmN s b)] = (inv || nanN s a || nanN s b) := by
  have _ := ha; have _ := hb
  have h := nans_at hs (n := 2) rfl (nans2 (inv := inv) (s1 := sgN s a) (l1 := loudN s a) (k1 := kdN s a) (e1 := teN s a) (m1 := tmN s a) (s2 := sgN s b) (l2 := loudN s b) (k2 := kdN s b) (e2 := teN s b) (m2 := tmN s b))
  rw [bad_kd, bad_kd, kd3, kd3] at h
  have h2 := loud_nan (s := s) (a := a)
  have h3 := loud_nan (s := s) (a := b)
  refine ⟨h.1, h.2.1, h.2.2.1.trans ?_, h.2.2.2.trans ?_⟩
  · rw [Bool.or_assoc]
  · revert h2 h3
    cases inv <;> cases nanN s a <;> cases nanN s b <;> cases loudN s a <;> cases loudN s b <;> simp
include h0 h1
theorem smul_ok : p44 s rm a b = true ∧ r44_0 s rm a b = ((mulS s rm a b).1 : Int) ∧ r44_1 s rm a b = ((mulS s rm a b).2 : Int) := by
  obtain ⟨g1, g2, g3⟩ := of92 hs
  obtain ⟨f1, f2, f3, f4, f5, f6, f7, f8, f9, f10⟩ := size_facts hs
  have hk := (right_ok hs h0 h1).1
  have ta := take_ok hs ha
  have tb := take_ok hs hb
  obtain ⟨n0, n1, n2, n3⟩ := nans_2 hs ha hb (infN s a && zerN s b || zerN s a && infN s b)
  obtain ⟨v1, v2⟩ := mul64_ok (tm_lt hs ha) (tm_lt hs hb)
  have ea := te_le hs ha
  have eb := te_le hs hb
  have w : IntKind.wrap .i64 (teN s a + teN s b) = teN s a + teN s b := wrap_i64_of (by omega) (by omega)
  have hi96 := inf96 hs
  have p96 : p96 (frN s) = true := by simp only [p96]; rw [decide_eq_true (by omega)]; rfl
  have s1 := signed_ok hs (sgN s a != sgN s b) (x := infB s) (by rcases hs with rfl | rfl <;> decide)
  have s2 := signed_ok hs (sgN s a != sgN s b) (x := 0) (by rcases hs with rfl | rfl <;> decide)
  have s2 : r95_0 (topN s) (sgN s a != sgN s b) 0 = (sgB s (sgN s a != sgN s b) : Int) := s2
  have key : finN s a = true → finN s b = true → p98 (frN s) (biN s) rm (sgN s a != sgN s b) (teN s a + teN s b) (hiN (tmN s a * tmN s b)) (loN (tmN s a * tmN s b)) = true ∧
      r98_0 (frN s) (biN s) (topN s) rm (sgN s a != sgN s b) (teN s a + teN s b) (hiN (tmN s a * tmN s b)) (loN (tmN s a * tmN s b)) = ((rndP s rm (sgN s a != sgN s b) (fM s a * fM s b) (fE s a + fE s b) false).1 : Int) ∧
      r98_1 (frN s) (biN s) rm (sgN s a != sgN s b) (teN s a + teN s b) (hiN (tmN s a * tmN s b)) (loN (tmN s a * tmN s b)) = ((rndP s rm (sgN s a != sgN s b) (fM s a * fM s b) (fE s a + fE s b) false).2 : Int) := by
    intro fa fb
    obtain ⟨a1, a2, a3, a4, _⟩ := tm_facts hs ha fa
    obtain ⟨b1, b2, b3, b4, _⟩ := tm_facts hs hb fb
    have hp : 0 < tmN s a * tmN s b := Nat.mul_pos (by omega) (by omega)
    have hlt : tmN s a * tmN s b < two128 := Nat.mul_lt_mul_of_lt_of_le a2 (Nat.le_of_lt b2) (by decide)
    have hM : 0 < fM s a * fM s b := Nat.mul_pos (fM_pos hs ha fa) (fM_pos hs hb fb)
    have := sround_ok hs (rm := rm) (minus := (sgN s a != sgN s b)) hp hlt (e := teN s a + teN s b) (by omega) (by omega)
    have hsc := rnd_scale (f := frN s) (b := biN s) (rm := rm) (minus := (sgN s a != sgN s b)) (M := fM s a * fM s b) (k := lzN s a + lzN s b) (E := fE s a + fE s b) hM
    have e1 : tmN s a * tmN s b = fM s a * fM s b * 2 ^ (lzN s a + lzN s b) := by rw [a3, b3, Nat.pow_add, Nat.mul_mul_mul_comm]
    have e2 : teN s a + teN s b = fE s a + fE s b - ((lzN s a + lzN s b : Nat) : Int) := by rw [a4, b4]; omega
    rw [← e1, ← e2] at hsc
    rw [hsc] at this
    exact this
  have fin : finN s a = (!nanN s a && !infN s a && !zerN s a) := rfl
  have finb : finN s b = (!nanN s b && !infN s b && !zerN s b) := rfl
  rw [fin, finb] at key
  have ka2 := kd2 hs (a := a)
  have kb2 := kd2 hs (a := b)
  have ka0 := kd0 hs (a := a)
  have kb0 := kd0 hs (a := b)
  unfold mulS oddP
  refine ⟨?_, ?_, ?_⟩
  · simp only [p44, hk, g1, g2, g3, ta, tb, dget, List.getD_cons_succ, List.getD_cons_zero, DV.toB, DV.toI, ka2, kb2, ka0, kb0, n0, n3, p96, v1, v2, w]
    generalize p98 (frN s) (biN s) rm (sgN s a != sgN s b) (teN s a + teN s b) (hiN (tmN s a * tmN s b)) (loN (tmN s a * tmN s b)) = q at *
    revert key
    cases nanN s a <;> cases nanN s b <;> cases infN s a <;> cases infN s b <;> cases zerN s a <;> cases zerN s b <;> intro key <;> first | rfl | (rw [(key rfl rfl).1]; rfl)
  · simp only [r44_0, hk, g1, g2, g3, ta, tb, dget, List.getD_cons_succ, List.getD_cons_zero, DV.toB, DV.toI, ka2, kb2, ka0, kb0, n1, n3, v1, v2, w, hi96, s1, s2]
    generalize r98_0 (frN s) (biN s) (topN s) rm (sgN s a != sgN s b) (teN s a + teN s b) (hiN (tmN s a * tmN s b)) (loN (tmN s a * tmN s b)) = q at *
    revert key
    cases nanN s a <;> cases nanN s b <;> cases infN s a <;> cases infN s b <;> cases zerN s a <;> cases zerN s b <;> intro key <;> first | rfl | exact (key rfl rfl).2.1
  · simp only [r44_1, hk, g1, g2, g3, ta, tb, dget, List.getD_cons_succ, List.getD_cons_zero, DV.toB, DV.toI, ka2, kb2, ka0, kb0, n2, n3, v1, v2, w]
    generalize r98_1 (frN s) (biN s) rm (sgN s a != sgN s b) (teN s a + teN s b) (hiN (tmN s a * tmN s b)) (loN (tmN s a * tmN s b)) = q at *
    have l1 := loud_nan (s := s) (a := a)
    have l2 := loud_nan (s := s) (a := b)
    revert key l1 l2
    cases nanN s a <;> cases nanN s b <;> cases infN s a <;> cases infN s b <;> cases zerN s a <;> cases zerN s b <;> intro key l1 l2 <;>
      first | exact (key rfl rfl).2.2 | rfl | (cases loudN s a <;> cases loudN s b <;> first | rfl | cases l1 rfl | cases l2 rfl)
end
end Go.Proofs.Ytacciadcmiiimaa

namespace Go.Rnd
set_option maxRecDepth 100000
set_option maxHeartbeats 1000000

def truN (M : Nat) (b : Int) : Nat := if b ≤ 0 then M * 2 ^ (-b).toNat else M / 2 ^ b.toNat
def exaN (M : Nat) (b : Int) (more : Bool) : Bool := if b ≤ 0 then !more else M % 2 ^ b.toNat == 0 && !more
def upM (rm : Int) (minus : Bool) (M : Nat) (b : Int) (more : Bool) : Bool :=
  if b ≤ 0 then false else upB rm minus (M / 2 ^ b.toNat % 2 == 1) (M / 2 ^ (b.toNat - 1) % 2 == 1) (M % 2 ^ (b.toNat - 1) != 0 || more)
theorem cutN_parts (rm : Int) (minus : Bool) (M : Nat) (b : Int) (more : Bool) : cutN rm minus M b more = (truN M b + (if upM rm minus M b more then 1 else 0), exaN M b more) := by
  unfold cutN truN upM exaN
  by_cases h : b ≤ 0
  · rw [if_pos h, if_pos h, if_pos h, if_pos h]; rfl
  · rw [if_neg h, if_neg h, if_neg h, if_neg h]; rfl
theorem half_of {M n : Nat} (hn : 0 < n) : (M % 2 ^ n = 0) ↔ (M / 2 ^ (n - 1) % 2 = 0 ∧ M % 2 ^ (n - 1) = 0) := by
  obtain ⟨k, rfl⟩ : ∃ k, n = k + 1 := ⟨n - 1, by omega⟩
  rw [Nat.add_sub_cancel, Nat.pow_succ, Nat.mod_mul]
  have hp := Nat.two_pow_pos k
  have h2 : M / 2 ^ k % 2 < 2 := Nat.mod_lt _ (by decide)
  rcases Nat.lt_or_ge 0 (M / 2 ^ k % 2) with h3 | h3
  · have h4 : M / 2 ^ k % 2 = 1 := by omega
    rw [h4, Nat.mul_one]; omega
  · have h4 : M / 2 ^ k % 2 = 0 := by omega
    rw [h4, Nat.mul_zero]; omega
theorem upM_exact {rm : Int} {minus : Bool} {M : Nat} {b : Int} {more : Bool} (h : exaN M b more = true) : upM rm minus M b more = false := by
  unfold exaN at h; unfold upM
  by_cases hb : b ≤ 0
  · rw [if_pos hb]
  · rw [if_neg hb] at h ⊢
    simp only [Bool.and_eq_true, beq_iff_eq, Bool.not_eq_true'] at h
    obtain ⟨h1, h2⟩ := (half_of (show 0 < b.toNat by omega)).1 h.1
    rw [h1, h2, h.2]
    exact upB_none rm minus _
def infF (f b : Nat) : Nat := (2 * b + 1) * 2 ^ f
def dnB (rm : Int) (minus : Bool) : Nat := if rm = 1 ∨ (rm = 2 ∧ minus = false) ∨ (rm = 3 ∧ minus = true) then 1 else 0
def tolF (f b : Nat) (rm : Int) (minus : Bool) (v : Nat) (ex tiny : Bool) : Nat × Nat :=
  if infF f b ≤ v then (infF f b - dnB rm minus, 5) else (v, if ex then 0 else if tiny then 3 else 1)
theorem told_eq {f b : Nat} {rm : Int} {minus : Bool} {n q : Nat} {ex tiny : Bool} (hb : 1 ≤ b) (hq : q ≤ 2 ^ (f + 1)) (hn : n = 0 ∨ 2 ^ f ≤ q) :
    told f b rm minus (least f b + n) (q, ex) tiny = tolF f b rm minus (q + n * 2 ^ f) ex tiny := by
  have hp := Nat.two_pow_pos f
  have e2 : 2 ^ (f + 1) = 2 * 2 ^ f := by rw [Nat.pow_succ]; omega
  have hinf : infF f b = 2 * (b * 2 ^ f) + 2 ^ f := by unfold infF; rw [Nat.add_mul, Nat.mul_assoc, Nat.one_mul]
  unfold told tolF
  show (let m := if blen q > f + 1 then q / 2 else q; let la := if blen q > f + 1 then least f b + n + 1 else least f b + n; _) = _
  by_cases h1 : blen q > f + 1
  · have h2 : 2 ^ (f + 1) ≤ q := lt_blen.1 h1
    have h3 : q = 2 * 2 ^ f := by omega
    have h4 : blen (q / 2) = f + 1 := by
      rw [h3, Nat.mul_div_cancel_left _ (by decide)]; exact blen_two_pow f
    simp only [if_pos h1, h4]
    have h5 : (least f b + n + 1 + f > b) ↔ infF f b ≤ q + n * 2 ^ f := by
      rw [hinf, h3]
      have : 2 * (b * 2 ^ f) + 2 ^ f = (2 * b + 1) * 2 ^ f := by rw [Nat.add_mul, Nat.mul_assoc, Nat.one_mul]
      rw [this, ← Nat.add_mul, Nat.mul_le_mul_right_iff hp]
      unfold least; omega
    by_cases h6 : infF f b ≤ q + n * 2 ^ f
    · rw [if_pos ⟨h5.2 h6, trivial⟩, if_pos h6]; rfl
    · rw [if_neg (fun h => h6 (h5.1 h.1)), if_neg h6, if_pos trivial]
      have h7 : (least f b + n + 1 - least f b + 1).toNat = n + 2 := by omega
      rw [h7, h3, Nat.mul_div_cancel_left _ (by decide), Nat.add_mul]
      congr 1; omega
  · have h2 : q < 2 ^ (f + 1) := blen_le.1 (by omega)
    simp only [if_neg h1]
    by_cases h4 : blen q = f + 1
    · have h3 : 2 ^ f ≤ q := lt_blen.1 (by omega)
      have h5 : (least f b + n + f > b) ↔ infF f b ≤ q + n * 2 ^ f := by
        have e : (2 * b + 1) * 2 ^ f ≤ q + n * 2 ^ f ↔ 2 * b ≤ n := by
          constructor
          · intro h
            refine Nat.le_of_not_lt fun hc => ?_
            have : (n + 2) * 2 ^ f ≤ (2 * b + 1) * 2 ^ f := Nat.mul_le_mul_right _ (by omega)
            rw [Nat.add_mul n] at this; omega
          · intro h
            have : (2 * b + 1) * 2 ^ f ≤ (n + 1) * 2 ^ f := Nat.mul_le_mul_right _ (by omega)
            rw [Nat.add_mul n] at this; omega
        unfold infF; rw [e]; unfold least; omega
      by_cases h6 : infF f b ≤ q + n * 2 ^ f
      · rw [if_pos ⟨h5.2 h6, h4⟩, if_pos h6]; rfl
      · rw [if_neg (fun h => h6 (h5.1 h.1)), if_neg h6, if_pos h4]
        have h7 : (least f b + n - least f b + 1).toNat = n + 1 := by omega
        rw [h7, Nat.add_mul]
        congr 1; omega
    · have h3 : q < 2 ^ f := blen_le.1 (by omega)
      have h0 : n = 0 := by omega
      subst h0
      have h5 : ¬ infF f b ≤ q + 0 := by
        rw [hinf]
        have : 2 ^ f ≤ b * 2 ^ f := Nat.le_mul_of_pos_left _ (by omega)
        omega
      rw [if_neg (fun h => h4 h.2), if_neg (show ¬ blen q = f + 1 from h4), Nat.zero_mul, if_neg h5]
      rfl

def nOf (f b : Nat) (M : Nat) (E : Int) : Nat := (lastOf f b (blen M + E) - least f b).toNat
def qOf (f b : Nat) (M : Nat) (E : Int) : Nat := truN M (lastOf f b (blen M + E) - E)
def exOf (f b : Nat) (M : Nat) (E : Int) (more : Bool) : Bool := exaN M (lastOf f b (blen M + E) - E) more
def upOf (f b : Nat) (rm : Int) (minus : Bool) (M : Nat) (E : Int) (more : Bool) : Bool := upM rm minus M (lastOf f b (blen M + E) - E) more
def tiOf (f b : Nat) (rm : Int) (minus : Bool) (M : Nat) (E : Int) (more : Bool) : Bool := tinyOf f b (blen M + E) (cutN rm minus M (blen M + E - f - 1 - E) more).1
theorem last_of {f b : Nat} {M : Nat} {E : Int} : lastOf f b (blen M + E) = least f b + nOf f b M E := by
  unfold nOf lastOf; split <;> omega
theorem tru_blen {M : Nat} {b : Int} (hM : 0 < M) (h : b < blen M) : (blen (truN M b) : Int) = blen M - b := by
  unfold truN
  by_cases hb : b ≤ 0
  · rw [if_pos hb]
    have := blen_shift (h := M) (j := (-b).toNat) (l := 0) hM (Nat.two_pow_pos _)
    rw [Nat.add_zero] at this
    rw [this]; omega
  · rw [if_neg hb]
    obtain ⟨n, rfl⟩ : ∃ n : Nat, b = (n : Int) := ⟨b.toNat, by omega⟩
    rw [Int.toNat_natCast]
    obtain ⟨k, hk⟩ : ∃ k : Nat, blen M = n + k + 1 := ⟨blen M - n - 1, by omega⟩
    have h1 := blen_low hM
    have h2 := blen_self (n := M)
    rw [hk] at h1 h2
    have h3 : 2 ^ k ≤ M / 2 ^ n := by
      rw [Nat.le_div_iff_mul_le (Nat.two_pow_pos _), ← Nat.pow_add]
      exact Nat.le_trans (Nat.pow_le_pow_right (by decide) (by omega)) h1
    have h4 : M / 2 ^ n < 2 ^ (k + 1) := by
      rw [Nat.div_lt_iff_lt_mul (Nat.two_pow_pos _), ← Nat.pow_add]
      exact Nat.lt_of_lt_of_le h2 (Nat.pow_le_pow_right (by decide) (by omega))
    rw [blen_eq h3 h4, hk]; omega
theorem q_facts {f b : Nat} {M : Nat} {E : Int} (hM : 0 < M) : qOf f b M E < 2 ^ (f + 1) ∧ (nOf f b M E = 0 ∨ 2 ^ f ≤ qOf f b M E) := by
  unfold qOf
  have hl := last_of (f := f) (b := b) (M := M) (E := E)
  by_cases h : (blen M : Int) + E - f - 1 < least f b
  · have e : lastOf f b (blen M + E) = least f b := by unfold lastOf; rw [if_pos h]
    have hn : nOf f b M E = 0 := by unfold nOf; rw [e]; omega
    refine ⟨?_, .inl hn⟩
    rw [e]
    by_cases h2 : least f b - E < blen M
    · have := tru_blen (b := least f b - E) hM h2
      exact blen_le.1 (by omega)
    · unfold truN
      have h0 := blen_pos hM
      rw [if_neg (by omega)]
      have : M / 2 ^ (least f b - E).toNat = 0 := Nat.div_eq_of_lt (blen_le.1 (by omega))
      rw [this]; exact Nat.two_pow_pos _
  · have e : lastOf f b (blen M + E) = blen M + E - f - 1 := by unfold lastOf; rw [if_neg h]
    rw [e]
    have := tru_blen (b := (blen M : Int) + E - f - 1 - E) hM (by omega)
    have h3 : blen (truN M ((blen M : Int) + E - f - 1 - E)) = f + 1 := by omega
    exact ⟨blen_le.1 (by omega), .inr (lt_blen.1 (by omega))⟩
theorem rnd_eq {f b : Nat} {rm : Int} {minus : Bool} {M : Nat} {E : Int} {more : Bool} (hb : 1 ≤ b) (hM : 0 < M) :
    rnd f b rm minus M E more = tolF f b rm minus (qOf f b M E + nOf f b M E * 2 ^ f + (if upOf f b rm minus M E more then 1 else 0)) (exOf f b M E more) (tiOf f b rm minus M E more) := by
  obtain ⟨h1, h2⟩ := q_facts (f := f) (b := b) (E := E) hM
  unfold rnd
  rw [cutN_parts, last_of]
  have e : (least f b + nOf f b M E - E) = lastOf f b (blen M + E) - E := by rw [last_of]
  rw [e]
  show told f b rm minus _ (qOf f b M E + (if upOf f b rm minus M E more then 1 else 0), exOf f b M E more) (tiOf f b rm minus M E more) = _
  rw [told_eq hb (by split <;> omega) (by rcases h2 with h2 | h2; exact .inl h2; exact .inr (by omega))]
  congr 1; omega

def SameV (M : Nat) (E : Int) (M' : Nat) (E' : Int) : Prop := ∃ k k' : Nat, M * 2 ^ k = M' * 2 ^ k' ∧ E - k = E' - k'
theorem SameV.symm {M M' : Nat} {E E' : Int} : SameV M E M' E' → SameV M' E' M E := fun ⟨k, k', h, g⟩ => ⟨k', k, h.symm, g.symm⟩
theorem SameV.pos {M M' : Nat} {E E' : Int} (h : SameV M E M' E') : 0 < M ↔ 0 < M' := by
  obtain ⟨k, k', h, _⟩ := h
  have h1 := Nat.two_pow_pos k
  have h2 := Nat.two_pow_pos k'
  constructor
  · intro hm
    refine Nat.pos_of_ne_zero fun hc => ?_
    rw [hc, Nat.zero_mul, Nat.mul_eq_zero] at h; omega
  · intro hm
    refine Nat.pos_of_ne_zero fun hc => ?_
    rw [hc, Nat.zero_mul] at h
    have := Nat.mul_eq_zero.1 h.symm; omega
theorem SameV.trans {M M' M'' : Nat} {E E' E'' : Int} (h : SameV M E M' E') (g : SameV M' E' M'' E'') : SameV M E M'' E'' := by
  obtain ⟨k, k', h1, h2⟩ := h
  obtain ⟨l, l', g1, g2⟩ := g
  refine ⟨k + l, l' + k', ?_, by omega⟩
  rw [Nat.pow_add, ← Nat.mul_assoc, h1, Nat.mul_right_comm, g1, Nat.pow_add, Nat.mul_assoc]
theorem SameV.up (M : Nat) (E : Int) (k : Nat) : SameV (M * 2 ^ k) (E - k) M E := ⟨0, k, by rw [Nat.pow_zero, Nat.mul_one], by omega⟩
theorem SameV.mul {M M' P P' : Nat} {E E' F F' : Int} (h : SameV M E M' E') (g : SameV P F P' F') : SameV (M * P) (E + F) (M' * P') (E' + F') := by
  obtain ⟨k, k', h1, h2⟩ := h
  obtain ⟨l, l', g1, g2⟩ := g
  refine ⟨k + l, k' + l', ?_, by omega⟩
  rw [Nat.pow_add, Nat.pow_add, Nat.mul_mul_mul_comm, h1, g1, Nat.mul_mul_mul_comm]
theorem SameV.rnd {f b : Nat} {rm : Int} {minus : Bool} {M M' : Nat} {E E' : Int} (h : SameV M E M' E') (hM : 0 < M) : rnd f b rm minus M E false = rnd f b rm minus M' E' false := by
  have hM' := h.pos.1 hM
  obtain ⟨k, k', h1, h2⟩ := h
  rw [← rnd_scale (k := k) hM, h1, h2, rnd_scale hM']
theorem exa_same {M : Nat} {b : Int} (h : exaN M b false = true) (E : Int) : SameV (truN M b) (E + b) M E := by
  unfold exaN at h; unfold truN
  by_cases hb : b ≤ 0
  · rw [if_pos hb]
    have := SameV.up M E (-b).toNat
    have e : E - ((-b).toNat : Nat) = E + b := by omega
    rw [e] at this; exact this
  · rw [if_neg hb] at h ⊢
    simp only [Bool.not_false, Bool.and_true, beq_iff_eq] at h
    obtain ⟨n, rfl⟩ : ∃ n : Nat, b = (n : Int) := ⟨b.toNat, by omega⟩
    rw [Int.toNat_natCast] at *
    exact ⟨n, 0, by rw [Nat.pow_zero, Nat.mul_one, Nat.mul_comm, Nat.mul_div_cancel' (Nat.dvd_of_mod_eq_zero h)], by omega⟩
end Go.Rnd

namespace Go.Proofs.Ytacciadcmiiimaa
open Go Go.Sx Go.Rnd
set_option maxRecDepth 100000

def U (a : Int) : Prop := 0 ≤ a ∧ a < 18446744073709551616

def top (s : Int) : Int := if s = 4 then 2147483648 else 9223372036854775808
def one (s : Int) : Int := if s = 4 then 8388608 else 4503599627370496
def inf (s : Int) : Int := if s = 4 then 2139095040 else 9218868437227405312
def qui (s : Int) : Int := if s = 4 then 2143289344 else 9221120237041090560
def mag (s a : Int) : Int := a % top s
def sgn (s a : Int) : Bool := decide (a / top s % 2 = 1)
def cls (s a : Int) : Int :=
  if qui s ≤ mag s a then 9 else if inf s < mag s a then 8 else if mag s a = inf s then 7 else if one s ≤ mag s a then 6 else if 0 < mag s a then 5 else 4

section
variable {a : Int} (h : U a)
include h
omit h in
theorem mag_lt_4 (a : Int) : 0 ≤ mag 4 a ∧ mag 4 a < 2147483648 := by
  show 0 ≤ a % 2147483648 ∧ a % 2147483648 < 2147483648
  omega
theorem size_4 : r86_0 2147483648 a = mag 4 a := by
  show iland .u64 a (IntKind.wrap .u64 (2147483648 - 1)) = a % 2147483648
  exact land_mask h.1 h.2 31 (by decide) (by decide) (by decide)
theorem minus_4 : r65_0 2147483648 a = sgn 4 a := by
  show (iland .u64 a 2147483648 != 0) = decide (a / 2147483648 % 2 = 1)
  rw [land_bit h.1 h.2 31 (by decide) (by decide)]
  rw [Bool.eq_iff_iff]; simp; omega
theorem class_4 : r67_0 23 127 2147483648 a = cls 4 a := by
  have hm := mag_lt_4 a
  have e1 : r83_0 23 127 = 2139095040 := by decide +kernel
  have e2 : ∀ m : Int, ishr .u64 m (IntKind.wrap .i64 (23 - 1)) = m / 4194304 := fun m => by
    rw [show IntKind.wrap .i64 (23 - 1) = ((22 : Nat) : Int) from by decide]
    exact shr_of 22 (by decide) (by decide)
  have e3 : ∀ m : Int, ishr .u64 m 23 = m / 8388608 := fun m => shr_of 23 (by decide) (by decide)
  have e4 : iland .u64 (mag 4 a / 4194304) 1 = mag 4 a / 4194304 % 2 := land_mask (by omega) (by omega) 1 (by decide) (by decide) (by decide)
  simp only [r67_0, size_4 h, e1, e2, e3, e4]
  unfold cls
  rw [show inf 4 = 2139095040 from rfl, show qui 4 = 2143289344 from rfl, show one 4 = 8388608 from rfl]
  generalize mag 4 a = m at *
  (simp only [bl] <;> (repeat' split) <;> omega)
theorem rank_4 : r87_0 2147483648 a = if sgn 4 a then -1 - mag 4 a else mag 4 a := by
  have hm := mag_lt_4 a
  simp only [r87_0, size_4 h, minus_4 h]
  rw [wrap_i64_of (by omega) (by omega), lxor_neg1 (by omega) (by omega)]
  cases sgn 4 a <;> rfl
theorem mask_4 : r42_0 4 a = mag 4 a + if sgn 4 a then 2147483648 else 0 := by
  have h' := h.1
  have h'' := h.2
  have e : r42_0 4 a = a % 4294967296 := by
    show iland .u64 a 4294967295 = _
    exact land_mask h.1 h.2 32 (by decide) (by decide) (by decide)
  rw [e]
  show _ = a % 2147483648 + if decide (a / 2147483648 % 2 = 1) = true then 2147483648 else 0
  simp only [decide_eq_true_eq]
  split <;> omega
theorem msplit_4 : r42_0 4 a / 2147483648 = (if sgn 4 a then 1 else 0) ∧ r42_0 4 a % 2147483648 = mag 4 a ∧ 0 ≤ r42_0 4 a ∧ r42_0 4 a < 2 * 2147483648 := by
  have hm := mag_lt_4 a
  rw [mask_4 h]
  cases sgn 4 a <;> simp <;> omega
theorem parts0_4 : r90_0 4 a = sgn 4 a := by
  have hm := msplit_4 h
  simp only [r90_0]
  rw [show IntKind.wrap .i64 (r89_0 4 + r89_1 4) = ((31 : Nat) : Int) from by decide, shr_of 31 (by decide) (p := 2147483648) (by decide), hm.1]
  cases sgn 4 a <;> rfl
theorem parts1_4 : r90_1 4 a = mag 4 a / 8388608 := by
  have hm := msplit_4 h
  have hl := mag_lt_4 a
  simp only [r90_1]
  rw [show r89_0 4 = ((23 : Nat) : Int) from by decide, shr_of 23 (by decide) (p := 8388608) (by decide), show IntKind.wrap .u64 (ishl .u64 1 (r89_1 4) - 1) = 255 from by decide,
    land_mask (by omega) (by omega) 8 (by decide) (p := 255 + 1) (by decide) (by decide), wrap_i64_of (by omega) (by omega)]
  omega
theorem parts2_4 : r90_2 4 a = mag 4 a % 8388608 := by
  have hm := msplit_4 h
  have hl := mag_lt_4 a
  simp only [r90_2]
  rw [show IntKind.wrap .u64 (ishl .u64 1 (r89_0 4) - 1) = 8388608 - 1 from by decide, land_mask (by omega) (by omega) 23 (by decide) (p := 8388608) (by decide) (by decide)]
  omega
theorem nan_4 : r39_0 4 a = decide (inf 4 < mag 4 a) := by
  have hl := mag_lt_4 a
  simp only [r39_0, parts1_4 h, parts2_4 h]
  rw [show IntKind.wrap .i64 (ishl .i64 1 (r89_1 4) - 1) = 255 from by decide, show inf 4 = 2139095040 from rfl, Bool.eq_iff_iff]
  simp only [bl]
  omega
theorem loud_4 : r41_0 4 a = decide (inf 4 < mag 4 a ∧ mag 4 a < qui 4) := by
  have hl := mag_lt_4 a
  simp only [r41_0, parts2_4 h, nan_4 h]
  rw [show IntKind.wrap .i64 (r89_0 4 - 1) = ((22 : Nat) : Int) from by decide, shr_of 22 (by decide) (p := 4194304) (by decide), show inf 4 = 2139095040 from rfl, show qui 4 = 2143289344 from rfl, Bool.eq_iff_iff]
  simp only [bl]
  omega
theorem isinf_4 : r56_0 4 a = decide (mag 4 a = inf 4) := by
  have hl := mag_lt_4 a
  simp only [r56_0, parts1_4 h, parts2_4 h]
  rw [show IntKind.wrap .i64 (ishl .i64 1 (r89_1 4) - 1) = 255 from by decide, show inf 4 = 2139095040 from rfl, Bool.eq_iff_iff]
  simp only [bl]
  omega
theorem zero_4 : r61_0 4 a = decide (mag 4 a = 0) := by
  have hl := mag_lt_4 a
  simp only [r61_0, parts1_4 h, parts2_4 h]
  rw [Bool.eq_iff_iff]
  simp only [bl]
  omega
omit h in
theorem p67_4 (a : Int) : p67 23 127 2147483648 a = true := by
  have e5 : p83 23 = true := by decide +kernel
  have e6 : decide (IntKind.wrap .i64 (23 - 1) ≥ 0) = true := by decide
  have e7 : decide ((23 : Int) ≥ 0) = true := by decide
  simp only [p67, e5, e6, e7, ow_t, List.all_cons, List.all_nil, id, Bool.and_true]
omit h in
theorem mag_lt_8 (a : Int) : 0 ≤ mag 8 a ∧ mag 8 a < 9223372036854775808 := by
  show 0 ≤ a % 9223372036854775808 ∧ a % 9223372036854775808 < 9223372036854775808
  omega
theorem size_8 : r86_0 9223372036854775808 a = mag 8 a := by
  show iland .u64 a (IntKind.wrap .u64 (9223372036854775808 - 1)) = a % 9223372036854775808
  exact land_mask h.1 h.2 63 (by decide) (by decide) (by decide)
theorem minus_8 : r65_0 9223372036854775808 a = sgn 8 a := by
  show (iland .u64 a 9223372036854775808 != 0) = decide (a / 9223372036854775808 % 2 = 1)
  rw [land_bit h.1 h.2 63 (by decide) (by decide)]
  rw [Bool.eq_iff_iff]; simp; omega
theorem class_8 : r67_0 52 1023 9223372036854775808 a = cls 8 a := by
  have hm := mag_lt_8 a
  have e1 : r83_0 52 1023 = 9218868437227405312 := by decide +kernel
  have e2 : ∀ m : Int, ishr .u64 m (IntKind.wrap .i64 (52 - 1)) = m / 2251799813685248 := fun m => by
    rw [show IntKind.wrap .i64 (52 - 1) = ((51 : Nat) : Int) from by decide]
    exact shr_of 51 (by decide) (by decide)
  have e3 : ∀ m : Int, ishr .u64 m 52 = m / 4503599627370496 := fun m => shr_of 52 (by decide) (by decide)
  have e4 : iland .u64 (mag 8 a / 2251799813685248) 1 = mag 8 a / 2251799813685248 % 2 := land_mask (by omega) (by omega) 1 (by decide) (by decide) (by decide)
  simp only [r67_0, size_8 h, e1, e2, e3, e4]
  unfold cls
  rw [show inf 8 = 9218868437227405312 from rfl, show qui 8 = 9221120237041090560 from rfl, show one 8 = 4503599627370496 from rfl]
  generalize mag 8 a = m at *
  (simp only [bl] <;> (repeat' split) <;> omega)
theorem rank_8 : r87_0 9223372036854775808 a = if sgn 8 a then -1 - mag 8 a else mag 8 a := by
  have hm := mag_lt_8 a
  simp only [r87_0, size_8 h, minus_8 h]
  rw [wrap_i64_of (by omega) (by omega), lxor_neg1 (by omega) (by omega)]
  cases sgn 8 a <;> rfl
theorem mask_8 : r42_0 8 a = mag 8 a + if sgn 8 a then 9223372036854775808 else 0 := by
  have h' := h.1
  have h'' := h.2
  have e : r42_0 8 a = a := rfl
  rw [e]
  show _ = a % 9223372036854775808 + if decide (a / 9223372036854775808 % 2 = 1) = true then 9223372036854775808 else 0
  simp only [decide_eq_true_eq]
  split <;> omega
theorem msplit_8 : r42_0 8 a / 9223372036854775808 = (if sgn 8 a then 1 else 0) ∧ r42_0 8 a % 9223372036854775808 = mag 8 a ∧ 0 ≤ r42_0 8 a ∧ r42_0 8 a < 2 * 9223372036854775808 := by
  have hm := mag_lt_8 a
  rw [mask_8 h]
  cases sgn 8 a <;> simp <;> omega
theorem parts0_8 : r90_0 8 a = sgn 8 a := by
  have hm := msplit_8 h
  simp only [r90_0]
  rw [show IntKind.wrap .i64 (r89_0 8 + r89_1 8) = ((63 : Nat) : Int) from by decide, shr_of 63 (by decide) (p := 9223372036854775808) (by decide), hm.1]
  cases sgn 8 a <;> rfl
theorem parts1_8 : r90_1 8 a = mag 8 a / 4503599627370496 := by
  have hm := msplit_8 h
  have hl := mag_lt_8 a
  simp only [r90_1]
  rw [show r89_0 8 = ((52 : Nat) : Int) from by decide, shr_of 52 (by decide) (p := 4503599627370496) (by decide), show IntKind.wrap .u64 (ishl .u64 1 (r89_1 8) - 1) = 2047 from by decide,
    land_mask (by omega) (by omega) 11 (by decide) (p := 2047 + 1) (by decide) (by decide), wrap_i64_of (by omega) (by omega)]
  omega
theorem parts2_8 : r90_2 8 a = mag 8 a % 4503599627370496 := by
  have hm := msplit_8 h
  have hl := mag_lt_8 a
  simp only [r90_2]
  rw [show IntKind.wrap .u64 (ishl .u64 1 (r89_0 8) - 1) = 4503599627370496 - 1 from by decide, land_mask (by omega) (by omega) 52 (by decide) (p := 4503599627370496) (by decide) (by decide)]
  omega
theorem nan_8 : r39_0 8 a = decide (inf 8 < mag 8 a) := by
  have hl := mag_lt_8 a
  simp only [r39_0, parts1_8 h, parts2_8 h]
  rw [show IntKind.wrap .i64 (ishl .i64 1 (r89_1 8) - 1) = 2047 from by decide, show inf 8 = 9218868437227405312 from rfl, Bool.eq_iff_iff]
  simp only [bl]
  omega
theorem loud_8 : r41_0 8 a = decide (inf 8 < mag 8 a ∧ mag 8 a < qui 8) := by
  have hl := mag_lt_8 a
  simp only [r41_0, parts2_8 h, nan_8 h]
  rw [show IntKind.wrap .i64 (r89_0 8 - 1) = ((51 : Nat) : Int) from by decide, shr_of 51 (by decide) (p := 2251799813685248) (by decide), show inf 8 = 9218868437227405312 from rfl, show qui 8 = 9221120237041090560 from rfl, Bool.eq_iff_iff]
  simp only [bl]
  omega
theorem isinf_8 : r56_0 8 a = decide (mag 8 a = inf 8) := by
  have hl := mag_lt_8 a
  simp only [r56_0, parts1_8 h, parts2_8 h]
  rw [show IntKind.wrap .i64 (ishl .i64 1 (r89_1 8) - 1) = 2047 from by decide, show inf 8 = 9218868437227405312 from rfl, Bool.eq_iff_iff]
  simp only [bl]
  omega
theorem zero_8 : r61_0 8 a = decide (mag 8 a = 0) := by
  have hl := mag_lt_8 a
  simp only [r61_0, parts1_8 h, parts2_8 h]
  rw [Bool.eq_iff_iff]
  simp only [bl]
  omega
omit h in
theorem p67_8 (a : Int) : p67 52 1023 9223372036854775808 a = true := by
  have e5 : p83 52 = true := by decide +kernel
  have e6 : decide (IntKind.wrap .i64 (52 - 1) ≥ 0) = true := by decide
  have e7 : decide ((52 : Int) ≥ 0) = true := by decide
  simp only [p67, e5, e6, e7, ow_t, List.all_cons, List.all_nil, id, Bool.and_true]

end

section
variable {s : Int} (hs : s = 4 ∨ s = 8) {a : Int} (h : U a)
include hs
theorem g_const : 0 < one s ∧ one s < inf s ∧ inf s < qui s ∧ qui s < top s ∧ top s ≤ 9223372036854775808 := by rcases hs with rfl | rfl <;> decide
theorem g_mag (a : Int) : 0 ≤ mag s a ∧ mag s a < top s := by exact hs.elim (fun e => by subst e; exact mag_lt_4 a) (fun e => by subst e; exact mag_lt_8 a)
include h
theorem g_size : r86_0 (r62_2 s) a = mag s a := by exact hs.elim (fun e => by subst e; exact size_4 h) (fun e => by subst e; exact size_8 h)
theorem g_minus : r65_0 (r62_2 s) a = sgn s a := by exact hs.elim (fun e => by subst e; exact minus_4 h) (fun e => by subst e; exact minus_8 h)
theorem g_class : r67_0 (r62_0 s) (r62_1 s) (r62_2 s) a = cls s a := by exact hs.elim (fun e => by subst e; exact class_4 h) (fun e => by subst e; exact class_8 h)
theorem g_rank : r87_0 (r62_2 s) a = if sgn s a then -1 - mag s a else mag s a := by exact hs.elim (fun e => by subst e; exact rank_4 h) (fun e => by subst e; exact rank_8 h)
theorem g_parts0 : r90_0 s a = sgn s a := by exact hs.elim (fun e => by subst e; exact parts0_4 h) (fun e => by subst e; exact parts0_8 h)
theorem g_nan : r39_0 s a = decide (inf s < mag s a) := by exact hs.elim (fun e => by subst e; exact nan_4 h) (fun e => by subst e; exact nan_8 h)
theorem g_loud : r41_0 s a = decide (inf s < mag s a ∧ mag s a < qui s) := by exact hs.elim (fun e => by subst e; exact loud_4 h) (fun e => by subst e; exact loud_8 h)
theorem g_isinf : r56_0 s a = decide (mag s a = inf s) := by exact hs.elim (fun e => by subst e; exact isinf_4 h) (fun e => by subst e; exact isinf_8 h)
theorem g_zero : r61_0 s a = decide (mag s a = 0) := by exact hs.elim (fun e => by subst e; exact zero_4 h) (fun e => by subst e; exact zero_8 h)
omit h in
theorem g_p67 (a : Int) : p67 (r62_0 s) (r62_1 s) (r62_2 s) a = true := by exact hs.elim (fun e => by subst e; exact p67_4 a) (fun e => by subst e; exact p67_8 a)
omit h in
theorem g_known : r64_0 s 0 = true ∧ r71_0 s 0 = true := by rcases hs with rfl | rfl <;> exact ⟨by decide +kernel, by decide +kernel⟩
end
theorem awake_ok : p20 = true ∧ r20_0 = true := ⟨by decide +kernel, by decide +kernel⟩
end Go.Proofs.Ytacciadcmiiimaa

namespace Go.Proofs.Ytacciadcmiiimaa
open Go Go.Sx Go.Rnd
set_option maxRecDepth 100000
set_option maxHeartbeats 2000000

def magN (s : Int) (a : Nat) : Nat := a % topN s
def clN (s : Int) (a : Nat) : Int := if nanN s a then (if loudN s a then 8 else 9) else if infN s a then 7 else if zerN s a then 4 else if 0 < exf s a then 6 else 5
theorem uN {a : Nat} (h : a < 18446744073709551616) : U (a : Int) := ⟨by omega, by omega⟩

section
variable {s rm : Int} (hs : s = 4 ∨ s = 8) {a : Nat} (ha : a < 18446744073709551616)
include hs
theorem of62 : r62_0 s = (frN s : Int) ∧ r62_1 s = (biN s : Int) ∧ r62_2 s = (topN s : Int) := of92 hs
theorem mag_nat (a : Nat) : mag s (a : Int) = (magN s a : Int) := by
  rcases hs with rfl | rfl
  · show (a : Int) % 2147483648 = ((a % 2147483648 : Nat) : Int); omega
  · show (a : Int) % 9223372036854775808 = ((a % 9223372036854775808 : Nat) : Int); omega
theorem mag_parts (a : Nat) : exf s a = magN s a / oneN s ∧ frf s a = magN s a % oneN s ∧ magN s a < topN s := by
  unfold exf frf magN mkN
  rcases hs with rfl | rfl
  · have e1 : oneN 4 = 8388608 := rfl
    have e2 : topN 4 = 2147483648 := rfl
    have e3 : emaxN 4 = 255 := rfl
    rw [e1, e2, e3, if_pos rfl]; omega
  · have e1 : oneN 8 = 4503599627370496 := rfl
    have e2 : topN 8 = 9223372036854775808 := rfl
    have e3 : emaxN 8 = 2047 := rfl
    rw [e1, e2, e3, if_neg (by decide)]; omega
include ha
theorem cminus_ok : r65_0 (topN s) (a : Int) = sgN s a := by
  obtain ⟨g1, g2, g3⟩ := of62 hs
  have h1 := g_minus hs (uN ha)
  have h2 := g_parts0 hs (uN ha)
  have h3 := (parts_ok hs ha).2.1
  rw [← g3, h1, ← h2, h3]
theorem csize_ok : r86_0 (topN s) (a : Int) = (magN s a : Int) := by
  obtain ⟨g1, g2, g3⟩ := of62 hs
  rw [← g3, g_size hs (uN ha), mag_nat hs]
theorem cclass_ok : p67 (frN s) (biN s) (topN s) (a : Int) = true ∧ r67_0 (frN s) (biN s) (topN s) (a : Int) = clN s a := by
  obtain ⟨g1, g2, g3⟩ := of62 hs
  have h1 := g_class hs (uN ha)
  have hp := g_p67 hs (a : Int)
  have n1 := (g_nan hs (uN ha)).symm.trans (nan_ok hs ha).2
  have n2 := (g_loud hs (uN ha)).symm.trans (loud_ok hs ha).2
  have n3 := (g_isinf hs (uN ha)).symm.trans (inf_ok hs ha).2
  have n4 := (g_zero hs (uN ha)).symm.trans (zero_ok hs ha).2
  have n5 := (mag_parts hs a).1
  have n6 := mag_nat hs a
  obtain ⟨c1, c2, c3, c4, c5⟩ := g_const hs
  have c6 : one s = (oneN s : Int) := by rcases hs with rfl | rfl <;> rfl
  rw [g1, g2, g3] at h1 hp
  refine ⟨hp, h1.trans ?_⟩
  unfold cls clN
  rw [← n1, ← n2, ← n3, ← n4]
  have hm := g_mag hs (a : Int)
  have n7 : (0 < exf s a) = (one s ≤ mag s (a : Int)) := by
    rw [n5, n6, c6]
    have ho : 0 < oneN s := by omega
    have : oneN s ≤ magN s a ↔ 0 < magN s a / oneN s := ⟨fun h => Nat.div_pos h ho, fun h => by
      refine Nat.le_of_not_lt fun hc => ?_
      rw [Nat.div_eq_of_lt hc] at h; omega⟩
    simp only [eq_iff_iff]; omega
  simp only [n7, dec]
  generalize mag s (a : Int) = m at *
  (repeat' split) <;> omega
theorem cfin_ok : p68 (frN s) (topN s) (a : Int) = true ∧ r68_0 (frN s) (topN s) (a : Int) = (fM s a : Int) ∧ r68_1 (frN s) (biN s) (topN s) (a : Int) = fE s a := by
  obtain ⟨f1, f2, f3, f4, f5, f6, f7, f8, f9, f10⟩ := size_facts hs
  obtain ⟨n1, n2, n3⟩ := mag_parts hs a
  have k := csize_ok hs ha
  have hx := ex_le hs ha
  have hf := fr_lt hs ha
  have e1 : ishr .u64 (magN s a : Int) (frN s : Int) = (exf s a : Int) := by rw [shr_nat (by omega), f5, n1]
  have e2 : iland .u64 (magN s a : Int) (IntKind.wrap .u64 (ishl .u64 1 (frN s : Int) - 1)) = (frf s a : Int) := by rw [low_mask (by omega) (by omega), f5, n2]
  have e3 : ilor .u64 (frf s a : Int) (ishl .u64 1 (frN s : Int)) = ((frf s a + oneN s : Nat) : Int) := by
    rw [shl_one (by omega), lor_nn (by omega) (by omega)]
    have := or_high (c := frf s a) (x := 1) (s := frN s) (by omega)
    rw [Nat.one_mul] at this
    rw [this, f5]
  have w1 : IntKind.wrap .i64 (exf s a : Int) = exf s a := wri (by have := (emax_facts hs).1; omega)
  have a1 : decide ((frN s : Int) ≥ 0) = true := decide_eq_true (by omega)
  refine ⟨?_, ?_, ?_⟩
  · simp only [p68, a1, ow_t]; rfl
  · simp only [r68_0, k, e1, e2, e3]
    unfold fM
    by_cases h : 0 < exf s a
    · rw [if_pos h, decide_eq_true (show (exf s a : Int) > 0 by omega)]; rfl
    · rw [if_neg h, decide_eq_false (show ¬ (exf s a : Int) > 0 by omega)]
      show (magN s a : Int) = _
      rw [n2]
      have : magN s a < oneN s := by
        refine Nat.lt_of_not_le fun hc => h ?_
        rw [n1]; exact Nat.div_pos hc (by omega)
      rw [Nat.mod_eq_of_lt this]
  · simp only [r68_1, k, e1, w1]
    unfold fE
    have hm := (emax_facts hs).1
    by_cases h : 0 < exf s a
    · rw [if_pos h, decide_eq_false (show ¬ (1 : Int) > exf s a by omega), cond_false, wrap_i64_of (n := (exf s a : Int) - biN s) (by omega) (by omega), wrap_i64_of (by omega) (by omega)]
    · rw [if_neg h, decide_eq_true (show (1 : Int) > exf s a by omega), cond_true, wrap_i64_of (n := 1 - (biN s : Int)) (by omega) (by omega), wrap_i64_of (by omega) (by omega)]
end

section
variable {s rm : Int} (hs : s = 4 ∨ s = 8) (h0 : 0 ≤ rm) (h1 : rm ≤ 4) {a : Nat} (ha : a < 18446744073709551616)
include hs ha h0 h1
end
end Go.Proofs.Ytacciadcmiiimaa

namespace Go.Proofs.Ytacciadcmiiimaa
open Go Go.Sx Go.Rnd
set_option maxRecDepth 100000
set_option maxHeartbeats 1000000

section
variable {y1 y0 u d : Nat} (hy1 : 2147483648 ≤ y1) (hy2 : y1 < 4294967296) (hy0 : y0 < 4294967296) (hd : d < 4294967296) (hu : u < y1 * 4294967296 + y0)
include hy1 hy2 hy0 hd hu
theorem guess_test {q r : Nat} (hq : q * y1 + r = u) : (q * (y1 * 4294967296 + y0) ≤ u * 4294967296 + d) ↔ q * y0 ≤ r * 4294967296 + d := by
  have _ := hy1; have _ := hy2; have _ := hy0; have _ := hd; have _ := hu
  have e : q * (y1 * 4294967296 + y0) = q * y1 * 4294967296 + q * y0 := by rw [Nat.mul_add, Nat.mul_assoc]
  rw [e, ← hq, Nat.add_mul]
  omega
theorem quo_lt : (u * 4294967296 + d) / (y1 * 4294967296 + y0) < 4294967296 := by
  have _ := hy1; have _ := hy2; have _ := hy0
  rw [Nat.div_lt_iff_lt_mul (by omega)]
  have : (u + 1) * 4294967296 ≤ (y1 * 4294967296 + y0) * 4294967296 := Nat.mul_le_mul_right _ hu
  rw [Nat.mul_comm 4294967296 (y1 * 4294967296 + y0)]
  omega
theorem guess_ge : (u * 4294967296 + d) / (y1 * 4294967296 + y0) ≤ u / y1 := by
  have _ := hy0; have _ := hu
  rw [Nat.le_div_iff_mul_le (by omega)]
  have h := Nat.div_mul_le_self (u * 4294967296 + d) (y1 * 4294967296 + y0)
  generalize (u * 4294967296 + d) / (y1 * 4294967296 + y0) = Q at *
  have e : Q * (y1 * 4294967296 + y0) = Q * y1 * 4294967296 + Q * y0 := by rw [Nat.mul_add, Nat.mul_assoc]
  omega
theorem guess_le : u / y1 ≤ 4294967297 := by
  have _ := hd
  have : u / y1 < 4294967298 := by
    rw [Nat.div_lt_iff_lt_mul (by omega)]
    omega
  omega
theorem guess_cond {q r : Nat} (hq : q * y1 + r = u) (hr : r < 4294967296) (hq2 : q ≤ 4294967297) :
    (decide ((q : Int) ≥ 4294967296) || decide (IntKind.wrap .u64 ((q : Int) * (y0 : Int)) > IntKind.wrap .u64 (IntKind.wrap .u64 (4294967296 * (r : Int)) + (d : Int)))) = decide ((u * 4294967296 + d) / (y1 * 4294967296 + y0) < q) := by
  have hQ := quo_lt hy1 hy2 hy0 hd hu
  by_cases h : q ≥ 4294967296
  · rw [decide_eq_true (show (q : Int) ≥ 4294967296 by omega), decide_eq_true (show (u * 4294967296 + d) / (y1 * 4294967296 + y0) < q by omega)]; rfl
  · rw [decide_eq_false (show ¬ (q : Int) ≥ 4294967296 by omega), Bool.false_or]
    have e1 : IntKind.wrap .u64 ((q : Int) * (y0 : Int)) = ((q * y0 : Nat) : Int) := by
      rw [← Int.natCast_mul]
      exact wr64 (Nat.lt_of_le_of_lt (Nat.mul_le_mul (show q ≤ 4294967295 by omega) (show y0 ≤ 4294967295 by omega)) (by decide))
    have e2 : IntKind.wrap .u64 (IntKind.wrap .u64 (4294967296 * (r : Int)) + (d : Int)) = ((r * 4294967296 + d : Nat) : Int) := by
      rw [wrap_u64_of (n := 4294967296 * (r : Int)) (by omega) (by omega), wrap_u64_of (by omega) (by omega)]; omega
    rw [e1, e2, decide_eq_decide]
    have ht := guess_test hy1 hy2 hy0 hd hu hq
    have : (u * 4294967296 + d) / (y1 * 4294967296 + y0) < q ↔ ¬ q * (y1 * 4294967296 + y0) ≤ u * 4294967296 + d := by
      rw [← Nat.le_div_iff_mul_le (by omega)]; omega
    rw [this, ht]; omega
theorem guess_far {q r : Nat} (hq : (q + 1) * y1 + r = u) (hr2 : 4294967296 ≤ r + y1) (hq2 : q ≤ 4294967296) : q ≤ (u * 4294967296 + d) / (y1 * 4294967296 + y0) := by
  rw [Nat.le_div_iff_mul_le (by omega), guess_test hy1 hy2 hy0 hd hu (q := q) (r := r + y1) (by rw [Nat.add_mul, Nat.one_mul] at hq; omega)]
  have h1 : q * y0 ≤ 4294967296 * y0 := Nat.mul_le_mul_right _ hq2
  have h2 : 4294967296 * 4294967296 ≤ (r + y1) * 4294967296 := Nat.mul_le_mul_right _ hr2
  omega
theorem dloop1 : ∀ (k q r : Nat), q = (u * 4294967296 + d) / (y1 * 4294967296 + y0) + k → q * y1 + r = u → r < 4294967296 → q ≤ 4294967297 →
    ∃ r2, L110200 (y0 : Int) (d : Int) (y1 : Int) (q : Int) (r : Int) = some [.i 0, .i (((u * 4294967296 + d) / (y1 * 4294967296 + y0) : Nat) : Int), r2]
  | 0, q, r, hk, hq, hr, hq2 => by
    have hc0 := guess_cond hy1 hy2 hy0 hd hu hq hr hq2
    rw [decide_eq_false (show ¬ (u * 4294967296 + d) / (y1 * 4294967296 + y0) < q by omega)] at hc0
    have hc : C110200 [.i (y0 : Int), .i (d : Int), .i (y1 : Int), .i (q : Int), .i (r : Int)] = false := by
      show c110200 (y0 : Int) (d : Int) (y1 : Int) (q : Int) (r : Int) = false
      simp only [c110200, hc0, Bool.false_and]
    refine ⟨.i (t110200_2 (y0 : Int) (d : Int) (y1 : Int) (q : Int) (r : Int)), (loopG_last (w := W110200) rfl hc).trans ?_⟩
    show some [DV.i 0, .i (t110200_1 (y0 : Int) (d : Int) (y1 : Int) (q : Int) (r : Int)), .i (t110200_2 (y0 : Int) (d : Int) (y1 : Int) (q : Int) (r : Int))] = _
    have : t110200_1 (y0 : Int) (d : Int) (y1 : Int) (q : Int) (r : Int) = (q : Int) := by simp only [t110200_1, hc0, cond_false]
    rw [this, hk, Nat.add_zero]
  | k + 1, q, r, hk, hq, hr, hq2 => by
    have hc0 := guess_cond hy1 hy2 hy0 hd hu hq hr hq2
    rw [decide_eq_true (show (u * 4294967296 + d) / (y1 * 4294967296 + y0) < q by omega)] at hc0
    obtain ⟨q', rfl⟩ : ∃ q', q = q' + 1 := ⟨(u * 4294967296 + d) / (y1 * 4294967296 + y0) + k, hk⟩
    have e43 : IntKind.wrap .u64 ((r : Int) + (y1 : Int)) = ((r + y1 : Nat) : Int) := by rw [← Int.natCast_add]; exact wr64 (by omega)
    have e42 : IntKind.wrap .u64 (((q' + 1 : Nat) : Int) - 1) = (q' : Int) := by rw [show ((q' + 1 : Nat) : Int) - 1 = (q' : Int) by omega]; exact wr64 (by omega)
    by_cases hb : r + y1 < 4294967296
    · have hc : C110200 [.i (y0 : Int), .i (d : Int), .i (y1 : Int), .i ((q' + 1 : Nat) : Int), .i (r : Int)] = true := by
        show c110200 (y0 : Int) (d : Int) (y1 : Int) ((q' + 1 : Nat) : Int) (r : Int) = true
        simp only [c110200, hc0, e43]
        rw [decide_eq_false (show ¬ ((r + y1 : Nat) : Int) ≥ 4294967296 by omega)]; rfl
      have hN : N110200 [.i (y0 : Int), .i (d : Int), .i (y1 : Int), .i ((q' + 1 : Nat) : Int), .i (r : Int)] = [.i (y0 : Int), .i (d : Int), .i (y1 : Int), .i (q' : Int), .i ((r + y1 : Nat) : Int)] := by
        show [DV.i (y0 : Int), .i (d : Int), .i (y1 : Int), .i (IntKind.wrap .u64 (((q' + 1 : Nat) : Int) - 1)), .i (IntKind.wrap .u64 ((r : Int) + (y1 : Int)))] = _
        rw [e42, e43]
      obtain ⟨r2, h⟩ := dloop1 k q' (r + y1) (by omega) (by rw [Nat.add_mul, Nat.one_mul] at hq; omega) hb (by omega)
      refine ⟨r2, (loopG_next (w := W110200) (out := T110200) rfl hc).trans ?_⟩
      rw [hN]; exact h
    · have hc : C110200 [.i (y0 : Int), .i (d : Int), .i (y1 : Int), .i ((q' + 1 : Nat) : Int), .i (r : Int)] = false := by
        show c110200 (y0 : Int) (d : Int) (y1 : Int) ((q' + 1 : Nat) : Int) (r : Int) = false
        simp only [c110200, hc0, e43]
        rw [decide_eq_true (show ((r + y1 : Nat) : Int) ≥ 4294967296 by omega)]; rfl
      have hq' := guess_far hy1 hy2 hy0 hd hu hq (by omega) (by omega)
      refine ⟨.i (t110200_2 (y0 : Int) (d : Int) (y1 : Int) ((q' + 1 : Nat) : Int) (r : Int)), (loopG_last (w := W110200) rfl hc).trans ?_⟩
      show some [DV.i 0, .i (t110200_1 (y0 : Int) (d : Int) (y1 : Int) ((q' + 1 : Nat) : Int) (r : Int)), .i (t110200_2 (y0 : Int) (d : Int) (y1 : Int) ((q' + 1 : Nat) : Int) (r : Int))] = _
      have : t110200_1 (y0 : Int) (d : Int) (y1 : Int) ((q' + 1 : Nat) : Int) (r : Int) = (q' : Int) := by simp only [t110200_1, hc0, cond_true, e42]
      rw [this, show q' = (u * 4294967296 + d) / (y1 * 4294967296 + y0) by omega]
theorem dloop2 : ∀ (k q r : Nat), q = (u * 4294967296 + d) / (y1 * 4294967296 + y0) + k → q * y1 + r = u → r < 4294967296 → q ≤ 4294967297 →
    ∃ r2, L110202 (y0 : Int) (d : Int) (y1 : Int) (r : Int) (q : Int) = some [.i 0, r2, .i (((u * 4294967296 + d) / (y1 * 4294967296 + y0) : Nat) : Int)]
  | 0, q, r, hk, hq, hr, hq2 => by
    have hc0 := guess_cond hy1 hy2 hy0 hd hu hq hr hq2
    rw [decide_eq_false (show ¬ (u * 4294967296 + d) / (y1 * 4294967296 + y0) < q by omega)] at hc0
    have hc : C110202 [.i (y0 : Int), .i (d : Int), .i (y1 : Int), .i (r : Int), .i (q : Int)] = false := by
      show c110202 (y0 : Int) (d : Int) (y1 : Int) (r : Int) (q : Int) = false
      simp only [c110202, hc0, Bool.false_and]
    refine ⟨.i (t110202_1 (y0 : Int) (d : Int) (y1 : Int) (r : Int) (q : Int)), (loopG_last (w := W110202) rfl hc).trans ?_⟩
    show some [DV.i 0, .i (t110202_1 (y0 : Int) (d : Int) (y1 : Int) (r : Int) (q : Int)), .i (t110202_2 (y0 : Int) (d : Int) (y1 : Int) (r : Int) (q : Int))] = _
    have : t110202_2 (y0 : Int) (d : Int) (y1 : Int) (r : Int) (q : Int) = (q : Int) := by simp only [t110202_2, hc0, cond_false]
    rw [this, hk, Nat.add_zero]
  | k + 1, q, r, hk, hq, hr, hq2 => by
    have hc0 := guess_cond hy1 hy2 hy0 hd hu hq hr hq2
    rw [decide_eq_true (show (u * 4294967296 + d) / (y1 * 4294967296 + y0) < q by omega)] at hc0
    obtain ⟨q', rfl⟩ : ∃ q', q = q' + 1 := ⟨(u * 4294967296 + d) / (y1 * 4294967296 + y0) + k, hk⟩
    have e43 : IntKind.wrap .u64 ((r : Int) + (y1 : Int)) = ((r + y1 : Nat) : Int) := by rw [← Int.natCast_add]; exact wr64 (by omega)
    have e42 : IntKind.wrap .u64 (((q' + 1 : Nat) : Int) - 1) = (q' : Int) := by rw [show ((q' + 1 : Nat) : Int) - 1 = (q' : Int) by omega]; exact wr64 (by omega)
    by_cases hb : r + y1 < 4294967296
    · have hc : C110202 [.i (y0 : Int), .i (d : Int), .i (y1 : Int), .i (r : Int), .i ((q' + 1 : Nat) : Int)] = true := by
        show c110202 (y0 : Int) (d : Int) (y1 : Int) (r : Int) ((q' + 1 : Nat) : Int) = true
        simp only [c110202, hc0, e43]
        rw [decide_eq_false (show ¬ ((r + y1 : Nat) : Int) ≥ 4294967296 by omega)]; rfl
      have hN : N110202 [.i (y0 : Int), .i (d : Int), .i (y1 : Int), .i (r : Int), .i ((q' + 1 : Nat) : Int)] = [.i (y0 : Int), .i (d : Int), .i (y1 : Int), .i ((r + y1 : Nat) : Int), .i (q' : Int)] := by
        show [DV.i (y0 : Int), .i (d : Int), .i (y1 : Int), .i (IntKind.wrap .u64 ((r : Int) + (y1 : Int))), .i (IntKind.wrap .u64 (((q' + 1 : Nat) : Int) - 1))] = _
        rw [e42, e43]
      obtain ⟨r2, h⟩ := dloop2 k q' (r + y1) (by omega) (by rw [Nat.add_mul, Nat.one_mul] at hq; omega) hb (by omega)
      refine ⟨r2, (loopG_next (w := W110202) (out := T110202) rfl hc).trans ?_⟩
      rw [hN]; exact h
    · have hc : C110202 [.i (y0 : Int), .i (d : Int), .i (y1 : Int), .i (r : Int), .i ((q' + 1 : Nat) : Int)] = false := by
        show c110202 (y0 : Int) (d : Int) (y1 : Int) (r : Int) ((q' + 1 : Nat) : Int) = false
        simp only [c110202, hc0, e43]
        rw [decide_eq_true (show ((r + y1 : Nat) : Int) ≥ 4294967296 by omega)]; rfl
      have hq' := guess_far hy1 hy2 hy0 hd hu hq (by omega) (by omega)
      refine ⟨.i (t110202_1 (y0 : Int) (d : Int) (y1 : Int) (r : Int) ((q' + 1 : Nat) : Int)), (loopG_last (w := W110202) rfl hc).trans ?_⟩
      show some [DV.i 0, .i (t110202_1 (y0 : Int) (d : Int) (y1 : Int) (r : Int) ((q' + 1 : Nat) : Int)), .i (t110202_2 (y0 : Int) (d : Int) (y1 : Int) (r : Int) ((q' + 1 : Nat) : Int))] = _
      have : t110202_2 (y0 : Int) (d : Int) (y1 : Int) (r : Int) ((q' + 1 : Nat) : Int) = (q' : Int) := by simp only [t110202_2, hc0, cond_true, e42]
      rw [this, show q' = (u * 4294967296 + d) / (y1 * 4294967296 + y0) by omega]
end
theorem digit_left {u d y Q : Nat} (hQ : Q = (u * 4294967296 + d) / y) (hy : y < 18446744073709551616) (hy0 : 0 < y) : IntKind.wrap .u64 (IntKind.wrap .u64 (IntKind.wrap .u64 ((u : Int) * 4294967296) + (d : Int)) - IntKind.wrap .u64 ((Q : Int) * (y : Int))) = (((u * 4294967296 + d) % y : Nat) : Int) := by
  have h1 := Nat.div_add_mod (u * 4294967296 + d) y
  have h2 := Nat.mod_lt (u * 4294967296 + d) hy0
  rw [← hQ] at h1
  generalize (u * 4294967296 + d) % y = r at *
  rw [← Int.natCast_mul, Nat.mul_comm Q y]
  generalize y * Q = p at *
  rw [wrap_u64, wrap_u64, wrap_u64, wrap_u64]
  omega
theorem two_lin {u l la lb R1 R2 : Nat} (el : la * 4294967296 + lb = l) (p1 p2 : Nat) (a : u * 4294967296 + la = p1 + R1) (b : R1 * 4294967296 + lb = p2 + R2) : u * 18446744073709551616 + l = p1 * 4294967296 + p2 + R2 := by
  have e : (4294967296 : Nat) * 4294967296 = 18446744073709551616 := by decide
  rw [← el, ← e, ← Nat.mul_assoc, ← Nat.add_assoc, ← Nat.add_mul, a, Nat.add_mul, Nat.add_assoc, b, Nat.add_assoc]
theorem two_digits {u l la lb y Q1 R1 Q2 R2 : Nat} (h1 : u * 4294967296 + la = y * Q1 + R1) (h2 : R1 * 4294967296 + lb = y * Q2 + R2) (el : la * 4294967296 + lb = l) : u * 18446744073709551616 + l = y * (Q1 * 4294967296 + Q2) + R2 := by
  rw [Nat.mul_add, ← Nat.mul_assoc]
  exact two_lin el _ _ h1 h2
theorem div64_ok {N y : Nat} (hy1 : 9223372036854775808 ≤ y) (hy2 : y < 18446744073709551616) (hN0 : 0 < hiN N) (hN : hiN N < y) : p102 (hiN N) (loN N) (y : Int) = true ∧ r102_0 (hiN N) (loN N) (y : Int) = ((N / y : Nat) : Int) ∧ r102_1 (hiN N) (loN N) (y : Int) = ((N % y : Nat) : Int) := by
  have hl := lo_lt N
  have e := hi_lo N
  generalize hiN N = u at *
  generalize loN N = l at *
  subst e
  have hlz : r115_0 (y : Int) = 0 := by
    rw [lz64 hy2, blen_eq (k := 63) hy1 hy2]; rfl
  have k15 : IntKind.wrap .u64 0 = 0 := by decide
  have k17 : ∀ z : Nat, z < 18446744073709551616 → ishl .u64 (z : Int) 0 = (z : Int) := fun z hz => by
    have := shl_lt (x := z) (s := 0) (by rw [Nat.pow_zero, Nat.mul_one]; exact hz)
    rw [Nat.pow_zero, Nat.mul_one] at this; exact this
  have k22 : IntKind.wrap .u64 (64 - 0) = 64 := by decide
  have k24 : ishr .u64 (l : Int) 64 = 0 := by
    have := shr_nat hl 64
    rw [Nat.div_eq_of_lt hl] at this; exact this
  have k25 : ilor .u64 (u : Int) 0 = (u : Int) := by
    have := lor_nn (a := u) (b := 0) (by omega) (by decide)
    rw [Nat.or_zero] at this; exact this
  have k57 : ∀ z : Nat, z < 18446744073709551616 → ishr .u64 (z : Int) 0 = (z : Int) := fun z hz => by
    have := shr_nat hz 0
    rw [Nat.pow_zero, Nat.div_one] at this; exact this
  have lo : ∀ z : Nat, z < 18446744073709551616 → iland .u64 (z : Int) 4294967295 = ((z % 4294967296 : Nat) : Int) := fun z hz => land_low (n := 32) hz (by decide)
  have ey : y / 4294967296 * 4294967296 + y % 4294967296 = y := Nat.div_add_mod' y 4294967296
  have el : l / 4294967296 * 4294967296 + l % 4294967296 = l := Nat.div_add_mod' l 4294967296
  have hy0 : y % 4294967296 < 4294967296 := Nat.mod_lt _ (by decide)
  have hya : 2147483648 ≤ y / 4294967296 := by omega
  have hyb : y / 4294967296 < 4294967296 := by omega
  have hl0 : l % 4294967296 < 4294967296 := Nat.mod_lt _ (by decide)
  have hl1 : l / 4294967296 < 4294967296 := by omega
  have sly := shr32 y
  have sll := shr32 l
  have loy := lo y hy2
  have lol := lo l hl
  generalize hyA : y / 4294967296 = ya at *
  generalize hyB : y % 4294967296 = yb at *
  generalize hlA : l / 4294967296 = la at *
  generalize hlB : l % 4294967296 = lb at *
  have td : ∀ z : Nat, Int.tdiv (z : Int) (ya : Int) = ((z / ya : Nat) : Int) := fun z => by rw [Int.tdiv_eq_ediv_of_nonneg (by omega)]; exact (Int.natCast_ediv _ _).symm
  have first : ∀ w dd : Nat, dd < 4294967296 → w < y → IntKind.wrap .u64 (Int.tdiv (w : Int) (ya : Int)) = ((w / ya : Nat) : Int) ∧ IntKind.wrap .u64 ((w : Int) - IntKind.wrap .u64 (((w / ya : Nat) : Int) * (ya : Int))) = ((w % ya : Nat) : Int) ∧
      ∃ Q R : Nat, w * 4294967296 + dd = y * Q + R ∧ R < y ∧ Q < 4294967296 ∧ (∃ r2, L110200 (yb : Int) (dd : Int) (ya : Int) ((w / ya : Nat) : Int) ((w % ya : Nat) : Int) = some [.i 0, .i (Q : Int), r2]) ∧
        (∃ r2, L110202 (yb : Int) (dd : Int) (ya : Int) ((w % ya : Nat) : Int) ((w / ya : Nat) : Int) = some [.i 0, r2, .i (Q : Int)]) ∧ IntKind.wrap .u64 (IntKind.wrap .u64 (IntKind.wrap .u64 ((w : Int) * 4294967296) + (dd : Int)) - IntKind.wrap .u64 ((Q : Int) * (y : Int))) = (R : Int) := fun w dd hdd hw => by
    have hw' : w < ya * 4294967296 + yb := by rw [ey]; exact hw
    have g1 := guess_le hya hyb hy0 hdd hw'
    have g2 := guess_ge hya hyb hy0 hdd hw'
    have g3 := quo_lt hya hyb hy0 hdd hw'
    have g4 := Nat.div_add_mod' w ya
    have g5 : w % ya < ya := Nat.mod_lt _ (by omega)
    obtain ⟨k, hk⟩ : ∃ k, w / ya = (w * 4294967296 + dd) / (ya * 4294967296 + yb) + k := ⟨w / ya - (w * 4294967296 + dd) / (ya * 4294967296 + yb), (Nat.add_sub_cancel' g2).symm⟩
    have l1 := dloop1 hya hyb hy0 hdd hw' k (w / ya) (w % ya) hk g4 (by omega) g1
    have l2 := dloop2 hya hyb hy0 hdd hw' k (w / ya) (w % ya) hk g4 (by omega) g1
    rw [ey] at l1 l2 g3
    refine ⟨by rw [td]; exact wr64 (Nat.lt_of_le_of_lt g1 (by decide)), ?_, (w * 4294967296 + dd) / y, (w * 4294967296 + dd) % y, (Nat.div_add_mod _ _).symm, Nat.mod_lt _ (by omega), g3, l1, l2, digit_left rfl hy2 (by omega)⟩
    rw [← Int.natCast_mul]
    generalize w / ya * ya = p at *
    generalize w % ya = z at *
    rw [wr64 (by omega), show (w : Int) - (p : Int) = (z : Int) by omega, wr64 (by omega)]
  obtain ⟨a1, a2, Q1, R1, hdm1, hr1, a7, ⟨r2, hL1⟩, _, c1⟩ := first u la hl1 hN
  obtain ⟨b1, b2, Q2, R2, hdm2, hr2, b7, _, ⟨s2, hL2⟩, c2⟩ := first R1 lb hl0 hr1
  have hu0 : ((u : Int) == 0) = false := by simp; omega
  have hya0 : ((ya : Int) != 0) = true := by simp; omega
  have hyz : ((y : Int) == 0) = false := by simp; omega
  have h36 : r110200_1 (yb : Int) (la : Int) (ya : Int) ((u / ya : Nat) : Int) ((u % ya : Nat) : Int) = (Q1 : Int) := by unfold r110200_1; rw [hL1]; rfl
  have h34 : p110200 (yb : Int) (la : Int) (ya : Int) ((u / ya : Nat) : Int) ((u % ya : Nat) : Int) = true := by unfold p110200; rw [hL1]; rfl
  have h49 : r110202_2 (yb : Int) (lb : Int) (ya : Int) ((R1 % ya : Nat) : Int) ((R1 / ya : Nat) : Int) = (Q2 : Int) := by unfold r110202_2; rw [hL2]; rfl
  have h46 : p110202 (yb : Int) (lb : Int) (ya : Int) ((R1 % ya : Nat) : Int) ((R1 / ya : Nat) : Int) = true := by unfold p110202; rw [hL2]; rfl
  have hNe : u * 18446744073709551616 + l = y * (Q1 * 4294967296 + Q2) + R2 := two_digits hdm1 hdm2 el
  have hquo : (u * 18446744073709551616 + l) / y = Q1 * 4294967296 + Q2 := by rw [hNe, Nat.mul_add_div (by omega), Nat.div_eq_of_lt hr2, Nat.add_zero]
  have hrem : (u * 18446744073709551616 + l) % y = R2 := by rw [hNe, Nat.mul_add_mod, Nat.mod_eq_of_lt hr2]
  refine ⟨?_, ?_, ?_⟩
  · simp only [p102, hlz, k15, k17 y hy2, k17 u (by omega), k17 l hl, k22, k24, k25, sly, sll, loy, lol, a1, a2, h34, h36, c1, b1, b2, h46, hu0, hya0, hyz, p115_ok]
    rw [decide_eq_false (show ¬ (y : Int) ≤ (u : Int) by omega)]
    rfl
  · simp only [r102_0, hlz, k15, k17 y hy2, k17 u (by omega), k17 l hl, k22, k24, k25, sly, sll, loy, lol, a1, a2, h36, c1, b1, b2, h49, hu0, Bool.not_false, cond_true]
    rw [hquo, wrap_u64_of (n := (Q1 : Int) * 4294967296) (by omega) (by omega), wrap_u64_of (by omega) (by omega)]; omega
  · simp only [r102_1, hlz, k15, k17 y hy2, k17 u (by omega), k17 l hl, k22, k24, k25, sly, sll, loy, lol, a1, a2, h36, c1, b1, b2, h49, hu0, Bool.not_false, cond_true, c2]
    rw [hrem, k57 _ (by omega)]

def divS (s rm : Int) (a b : Nat) : Nat × Nat :=
  if (infN s a && infN s b || zerN s a && zerN s b) || nanN s a || nanN s b then oddP s (infN s a && infN s b || zerN s a && zerN s b) (loudN s a || loudN s b)
  else if infN s a then (sgB s (sgN s a != sgN s b) + infB s, 0)
  else if infN s b || zerN s a then (sgB s (sgN s a != sgN s b), 0)
  else if zerN s b then (sgB s (sgN s a != sgN s b) + infB s, 8)
  else rndP s rm (sgN s a != sgN s b) (fM s a * 2 ^ 130 / fM s b) (fE s a - fE s b - 130) (decide (0 < fM s a * 2 ^ 130 % fM s b))
theorem kd_both {s : Int} (hs : s = 4 ∨ s = 8) {a b : Nat} : ((kdN s a == kdN s b) && (infN s a || zerN s a)) = (infN s a && infN s b || zerN s a && zerN s b) := by
  have hz := (emax_facts hs).1
  have h1 : ∀ a, nanN s a = true → zerN s a = false := fun a => by unfold nanN zerN; simp only [dec, decide_eq_false_iff_not]; omega
  have h2 : ∀ a, infN s a = true → zerN s a = false := fun a => by unfold infN zerN; simp only [dec, decide_eq_false_iff_not]; omega
  have h3 : ∀ a, infN s a = true → nanN s a = false := fun a => inf_nan
  have a1 := h1 a; have a2 := h2 a; have a3 := h3 a
  have b1 := h1 b; have b2 := h2 b; have b3 := h3 b
  unfold kdN
  revert a1 a2 a3 b1 b2 b3
  cases nanN s a <;> cases nanN s b <;> cases infN s a <;> cases infN s b <;> cases zerN s a <;> cases zerN s b <;> simp
theorem quo_near {f b : Nat} {rm : Int} {mi : Bool} {A B t : Nat} {E : Int} (hB : 0 < B) (ht : t ≤ 130) (hq : 2 ^ (f + 2) ≤ A * 2 ^ t / B) :
    rnd f b rm mi (A * 2 ^ 130 / B) (E - ((130 - t : Nat) : Int)) (decide (0 < A * 2 ^ 130 % B)) = rnd f b rm mi (A * 2 ^ t / B * 18446744073709551616 + (if A * 2 ^ t % B = 0 then 0 else 1)) (E - 64) false := by
  have e130 : 2 ^ 130 = 2 ^ t * 2 ^ (130 - t) := by rw [← Nat.pow_add]; congr 1; omega
  have hM : A * 2 ^ 130 / B / 2 ^ (130 - t) = A * 2 ^ t / B := by
    rw [e130, ← Nat.mul_assoc, Nat.div_div_eq_div_mul, Nat.mul_div_mul_right _ _ (Nat.two_pow_pos _)]
  have d1 := Nat.div_add_mod' (A * 2 ^ 130 / B) (2 ^ (130 - t))
  rw [hM] at d1
  have hl := Nat.mod_lt (A * 2 ^ 130 / B) (Nat.two_pow_pos (130 - t))
  have n1 := rnd_near (f := f) (b := b) (rm := rm) (minus := mi) (h := A * 2 ^ t / B) (j := 130 - t) (l := A * 2 ^ 130 / B % 2 ^ (130 - t)) (e := E) (more := decide (0 < A * 2 ^ 130 % B)) hq hl
  rw [d1] at n1
  have n2 := rnd_near (f := f) (b := b) (rm := rm) (minus := mi) (h := A * 2 ^ t / B) (j := 64) (l := if A * 2 ^ t % B = 0 then 0 else 1) (e := E) (more := false) hq (by split <;> decide)
  rw [n1]
  have n2' : rnd f b rm mi (A * 2 ^ t / B * 18446744073709551616 + (if A * 2 ^ t % B = 0 then 0 else 1)) (E - 64) false = _ := n2
  rw [n2']
  have hz : (A * 2 ^ 130 / B % 2 ^ (130 - t) ≠ 0 ∨ decide (0 < A * 2 ^ 130 % B) = true) ↔ ((if A * 2 ^ t % B = 0 then 0 else 1) ≠ 0 ∨ false = true) := by
    have d2 := Nat.div_add_mod' (A * 2 ^ 130) B
    have d3 := Nat.div_add_mod' (A * 2 ^ t) B
    have hp := Nat.two_pow_pos (130 - t)
    rw [dec]
    generalize A * 2 ^ 130 / B % 2 ^ (130 - t) = l at *
    generalize A * 2 ^ 130 / B = M at *
    generalize A * 2 ^ 130 % B = rest at *
    generalize A * 2 ^ t / B = q at *
    generalize hr0 : A * 2 ^ t % B = r0 at *
    have key : l * B + rest = r0 * 2 ^ (130 - t) := by
      have e1 : (q * B + r0) * 2 ^ (130 - t) = M * B + rest := by rw [d3, d2, e130, Nat.mul_assoc]
      rw [← d1, Nat.add_mul, Nat.add_mul] at e1
      have e2 : q * B * 2 ^ (130 - t) = q * 2 ^ (130 - t) * B := Nat.mul_right_comm ..
      omega
    have h1 : l * B = 0 ↔ l = 0 := by rw [Nat.mul_eq_zero]; omega
    have h2 : r0 * 2 ^ (130 - t) = 0 ↔ r0 = 0 := by rw [Nat.mul_eq_zero]; omega
    by_cases h : r0 = 0
    · rw [if_pos h]; simp; omega
    · rw [if_neg h]; simp; omega
  by_cases h : A * 2 ^ 130 / B % 2 ^ (130 - t) ≠ 0 ∨ decide (0 < A * 2 ^ 130 % B) = true
  · rw [if_pos h, if_pos (hz.1 h)]
  · rw [if_neg h, if_neg (fun h2 => h (hz.2 h2))]

section
variable {s rm : Int} (hs : s = 4 ∨ s = 8) (h0 : 0 ≤ rm) (h1 : rm ≤ 4) {a b : Nat} (ha : a < 18446744073709551616) (hb : b < 18446744073709551616)
include hs ha hb h0 h1
theorem sdiv_ok : p46 s rm a b = true ∧ r46_0 s rm a b = ((divS s rm a b).1 : Int) ∧ r46_1 s rm a b = ((divS s rm a b).2 : Int) := by
  obtain ⟨g1, g2, g3⟩ := of92 hs
  obtain ⟨f1, f2, f3, f4, f5, f6, f7, f8, f9, f10⟩ := size_facts hs
  have hk := (right_ok hs h0 h1).1
  have ta := take_ok hs ha
  have tb := take_ok hs hb
  obtain ⟨n0, n1, n2, n3⟩ := nans_2 hs ha hb (infN s a && infN s b || zerN s a && zerN s b)
  have ea := te_le hs ha
  have eb := te_le hs hb
  have hta := tm_lt hs ha
  have w : IntKind.wrap .i64 (IntKind.wrap .i64 (IntKind.wrap .i64 (teN s a - teN s b) - 63) - 64) = teN s a - teN s b - 63 - 64 := by
    rw [wrap_i64_of (n := teN s a - teN s b) (by omega) (by omega), wrap_i64_of (n := teN s a - teN s b - 63) (by omega) (by omega), wrap_i64_of (by omega) (by omega)]
  have hi96 := inf96 hs
  have p96 : p96 (frN s) = true := by simp only [p96]; rw [decide_eq_true (by omega)]; rfl
  have s1 := signed_ok hs (sgN s a != sgN s b) (x := infB s) (by rcases hs with rfl | rfl <;> decide)
  have s2 := signed_ok hs (sgN s a != sgN s b) (x := 0) (by rcases hs with rfl | rfl <;> decide)
  have s2 : r95_0 (topN s) (sgN s a != sgN s b) 0 = (sgB s (sgN s a != sgN s b) : Int) := s2
  have e49 : ishr .u64 (tmN s a : Int) 1 = (hiN (tmN s a * 9223372036854775808) : Int) := by
    have := shr_nat hta 1
    rw [show ishr .u64 (tmN s a : Int) 1 = ((tmN s a / 2 ^ 1 : Nat) : Int) from this]
    congr 1; unfold hiN; omega
  have e50 : ishl .u64 (tmN s a : Int) 63 = (loN (tmN s a * 9223372036854775808) : Int) := shl_nat (tmN s a) 63
  have key : finN s a = true → finN s b = true → (p102 (hiN (tmN s a * 9223372036854775808)) (loN (tmN s a * 9223372036854775808)) (tmN s b) = true ∧
      p98 (frN s) (biN s) rm (sgN s a != sgN s b) (teN s a - teN s b - 63 - 64) (r102_0 (hiN (tmN s a * 9223372036854775808)) (loN (tmN s a * 9223372036854775808)) (tmN s b)) (bif r102_1 (hiN (tmN s a * 9223372036854775808)) (loN (tmN s a * 9223372036854775808)) (tmN s b) != 0 then 1 else 0) = true) ∧
      r98_0 (frN s) (biN s) (topN s) rm (sgN s a != sgN s b) (teN s a - teN s b - 63 - 64) (r102_0 (hiN (tmN s a * 9223372036854775808)) (loN (tmN s a * 9223372036854775808)) (tmN s b)) (bif r102_1 (hiN (tmN s a * 9223372036854775808)) (loN (tmN s a * 9223372036854775808)) (tmN s b) != 0 then 1 else 0) =
        ((rndP s rm (sgN s a != sgN s b) (fM s a * 2 ^ 130 / fM s b) (fE s a - fE s b - 130) (decide (0 < fM s a * 2 ^ 130 % fM s b))).1 : Int) ∧
      r98_1 (frN s) (biN s) rm (sgN s a != sgN s b) (teN s a - teN s b - 63 - 64) (r102_0 (hiN (tmN s a * 9223372036854775808)) (loN (tmN s a * 9223372036854775808)) (tmN s b)) (bif r102_1 (hiN (tmN s a * 9223372036854775808)) (loN (tmN s a * 9223372036854775808)) (tmN s b) != 0 then 1 else 0) =
        ((rndP s rm (sgN s a != sgN s b) (fM s a * 2 ^ 130 / fM s b) (fE s a - fE s b - 130) (decide (0 < fM s a * 2 ^ 130 % fM s b))).2 : Int) := by
    intro fa fb
    obtain ⟨a1, a2, a3, a4, a5, a6⟩ := tm_facts hs ha fa
    obtain ⟨b1, b2, b3, b4, b5, b6⟩ := tm_facts hs hb fb
    have hhi : hiN (tmN s a * 9223372036854775808) = tmN s a / 2 := by unfold hiN; omega
    obtain ⟨d1, d2, d3⟩ := div64_ok (N := tmN s a * 9223372036854775808) (y := tmN s b) b1 b2 (by omega) (by omega)
    have hMb := fM_pos hs hb fb
    have ht : 63 + lzN s a - lzN s b + lzN s b = 63 + lzN s a := by omega
    have hN : tmN s a * 9223372036854775808 = fM s a * 2 ^ (63 + lzN s a - lzN s b) * 2 ^ lzN s b := by
      rw [Nat.mul_assoc, ← Nat.pow_add, ht, a3, Nat.mul_assoc, show (9223372036854775808 : Nat) = 2 ^ 63 from rfl, ← Nat.pow_add, Nat.add_comm]
    have hq : tmN s a * 9223372036854775808 / tmN s b = fM s a * 2 ^ (63 + lzN s a - lzN s b) / fM s b := by rw [hN, b3, Nat.mul_div_mul_right _ _ (Nat.two_pow_pos _)]
    have hr : tmN s a * 9223372036854775808 % tmN s b = fM s a * 2 ^ (63 + lzN s a - lzN s b) % fM s b * 2 ^ lzN s b := by rw [hN, b3, Nat.mul_mod_mul_right]
    have hq0 : 2 ^ 62 ≤ tmN s a * 9223372036854775808 / tmN s b := by
      rw [Nat.le_div_iff_mul_le (by omega)]
      have x1 : 2 ^ 62 * tmN s b ≤ 2 ^ 62 * 18446744073709551616 := Nat.mul_le_mul_left _ (by omega)
      have x2 : 9223372036854775808 * 9223372036854775808 ≤ tmN s a * 9223372036854775808 := Nat.mul_le_mul_right _ a1
      exact Nat.le_trans x1 x2
    have hq1 : tmN s a * 9223372036854775808 / tmN s b < 18446744073709551616 := by
      rw [Nat.div_lt_iff_lt_mul (by omega)]
      have : 18446744073709551616 * 9223372036854775808 ≤ 18446744073709551616 * tmN s b := Nat.mul_le_mul_left _ b1
      omega
    have hq2 : 2 ^ (frN s + 2) ≤ fM s a * 2 ^ (63 + lzN s a - lzN s b) / fM s b := by
      rw [← hq]
      exact Nat.le_trans (Nat.pow_le_pow_right (by decide) (by omega)) hq0
    have hqn := quo_near (f := frN s) (b := biN s) (rm := rm) (mi := (sgN s a != sgN s b)) (A := fM s a) (B := fM s b) (t := 63 + lzN s a - lzN s b) (E := teN s a - teN s b - 63 - 64 + 64) hMb (by omega) hq2
    rw [show teN s a - teN s b - 63 - 64 + 64 - ((130 - (63 + lzN s a - lzN s b) : Nat) : Int) = fE s a - fE s b - 130 by omega, show teN s a - teN s b - 63 - 64 + 64 - 64 = teN s a - teN s b - 63 - 64 by omega] at hqn
    unfold rndP
    rw [hqn, d2, d3, hr, hq]
    rw [hq] at hq0 hq1
    have hs0 : (bif ((fM s a * 2 ^ (63 + lzN s a - lzN s b) % fM s b * 2 ^ lzN s b : Nat) : Int) != 0 then (1 : Int) else 0) = ((if fM s a * 2 ^ (63 + lzN s a - lzN s b) % fM s b = 0 then 0 else 1 : Nat) : Int) := by
      have hp := Nat.two_pow_pos (lzN s b)
      have hz : fM s a * 2 ^ (63 + lzN s a - lzN s b) % fM s b * 2 ^ lzN s b = 0 ↔ fM s a * 2 ^ (63 + lzN s a - lzN s b) % fM s b = 0 := by rw [Nat.mul_eq_zero]; omega
      by_cases h : fM s a * 2 ^ (63 + lzN s a - lzN s b) % fM s b = 0
      · rw [if_pos h, hz.2 h]; rfl
      · have : (((fM s a * 2 ^ (63 + lzN s a - lzN s b) % fM s b * 2 ^ lzN s b : Nat) : Int) != 0) = true := by
          rw [bne_iff_ne]; intro h2; exact h (hz.1 (Int.natCast_eq_zero.1 h2))
        rw [if_neg h, this]; rfl
    rw [hs0]
    generalize fM s a * 2 ^ (63 + lzN s a - lzN s b) / fM s b = q at *
    have hl1 : (if fM s a * 2 ^ (63 + lzN s a - lzN s b) % fM s b = 0 then 0 else 1 : Nat) < 18446744073709551616 := by split <;> decide
    generalize (if fM s a * 2 ^ (63 + lzN s a - lzN s b) % fM s b = 0 then 0 else 1 : Nat) = l at *
    have := sround_ok hs (rm := rm) (minus := (sgN s a != sgN s b)) (P := q * 18446744073709551616 + l) (e := teN s a - teN s b - 63 - 64) (by omega) (by unfold two128; omega) (by omega) (by omega)
    rw [hi_of hl1, lo_of hl1] at this
    exact ⟨⟨d1, this.1⟩, this.2⟩
  have fin : finN s a = (!nanN s a && !infN s a && !zerN s a) := rfl
  have finb : finN s b = (!nanN s b && !infN s b && !zerN s b) := rfl
  rw [fin, finb] at key
  have ka2 := kd2 hs (a := a)
  have kb2 := kd2 hs (a := b)
  have ka0 := kd0 hs (a := a)
  have kb0 := kd0 hs (a := b)
  have kb := kd_both hs (a := a) (b := b)
  unfold divS oddP
  refine ⟨?_, ?_, ?_⟩
  · simp only [p46, hk, g1, g2, g3, ta, tb, dget, List.getD_cons_succ, List.getD_cons_zero, DV.toB, DV.toI, ka2, kb2, ka0, kb0, kb, n0, n3, p96, e49, e50, w]
    generalize p98 (frN s) (biN s) rm (sgN s a != sgN s b) (teN s a - teN s b - 63 - 64) (r102_0 (hiN (tmN s a * 9223372036854775808)) (loN (tmN s a * 9223372036854775808)) (tmN s b)) (bif r102_1 (hiN (tmN s a * 9223372036854775808)) (loN (tmN s a * 9223372036854775808)) (tmN s b) != 0 then 1 else 0) = q at *
    generalize p102 (hiN (tmN s a * 9223372036854775808)) (loN (tmN s a * 9223372036854775808)) (tmN s b) = q2 at *
    revert key
    cases nanN s a <;> cases nanN s b <;> cases infN s a <;> cases infN s b <;> cases zerN s a <;> cases zerN s b <;> intro key <;> first | rfl | (rw [(key rfl rfl).1.1, (key rfl rfl).1.2]; rfl)
  · simp only [r46_0, hk, g1, g2, g3, ta, tb, dget, List.getD_cons_succ, List.getD_cons_zero, DV.toB, DV.toI, ka2, kb2, ka0, kb0, kb, n1, n3, e49, e50, w, hi96, s1, s2]
    generalize r98_0 (frN s) (biN s) (topN s) rm (sgN s a != sgN s b) (teN s a - teN s b - 63 - 64) (r102_0 (hiN (tmN s a * 9223372036854775808)) (loN (tmN s a * 9223372036854775808)) (tmN s b)) (bif r102_1 (hiN (tmN s a * 9223372036854775808)) (loN (tmN s a * 9223372036854775808)) (tmN s b) != 0 then 1 else 0) = q at *
    revert key
    cases nanN s a <;> cases nanN s b <;> cases infN s a <;> cases infN s b <;> cases zerN s a <;> cases zerN s b <;> intro key <;> first | rfl | exact (key rfl rfl).2.1
  · simp only [r46_1, hk, g1, g2, g3, ta, tb, dget, List.getD_cons_succ, List.getD_cons_zero, DV.toB, DV.toI, ka2, kb2, ka0, kb0, kb, n2, n3, e49, e50, w]
    generalize r98_1 (frN s) (biN s) rm (sgN s a != sgN s b) (teN s a - teN s b - 63 - 64) (r102_0 (hiN (tmN s a * 9223372036854775808)) (loN (tmN s a * 9223372036854775808)) (tmN s b)) (bif r102_1 (hiN (tmN s a * 9223372036854775808)) (loN (tmN s a * 9223372036854775808)) (tmN s b) != 0 then 1 else 0) = q at *
    have l1 := loud_nan (s := s) (a := a)
    have l2 := loud_nan (s := s) (a := b)
    revert key l1 l2
    cases nanN s a <;> cases nanN s b <;> cases infN s a <;> cases infN s b <;> cases zerN s a <;> cases zerN s b <;> intro key l1 l2 <;>
      first | exact (key rfl rfl).2.2 | rfl | (cases loudN s a <;> cases loudN s b <;> first | rfl | cases l1 rfl | cases l2 rfl)
end
end Go.Proofs.Ytacciadcmiiimaa

namespace Go.Proofs.Ytacciadcmiiimaa
open Go Go.Sx Go.Rnd
set_option maxRecDepth 100000
set_option maxHeartbeats 1000000

def isqB : Nat → Nat → Nat → Nat
  | 0, _, q => q
  | i + 1, A, q => isqB i A (if (q + 2 ^ i) * (q + 2 ^ i) ≤ A then q + 2 ^ i else q)
def isq (A : Nat) : Nat := isqB (blen A) A 0
theorem isqB_ok {A : Nat} : ∀ (i q : Nat), q * q ≤ A → A < (q + 2 ^ i) * (q + 2 ^ i) → isqB i A q * isqB i A q ≤ A ∧ A < (isqB i A q + 1) * (isqB i A q + 1)
  | 0, _, h1, h2 => ⟨h1, h2⟩
  | i + 1, q, h1, h2 => by
    unfold isqB
    refine isqB_ok i _ ?_ ?_
    · split
      · assumption
      · exact h1
    · rw [Nat.pow_succ] at h2
      split
      · rw [show q + 2 ^ i + 2 ^ i = q + 2 ^ i * 2 by omega]; exact h2
      · omega
theorem isq_ok (A : Nat) : isq A * isq A ≤ A ∧ A < (isq A + 1) * (isq A + 1) :=
  isqB_ok _ 0 (by omega) (by
    rw [Nat.zero_add]
    have := blen_self (n := A)
    exact Nat.lt_of_lt_of_le this (Nat.le_mul_of_pos_left _ (Nat.two_pow_pos _)))
theorem sq_lt {a b : Nat} (h : a * a < b * b) : a < b := Nat.lt_of_not_le fun hc => by have := Nat.mul_le_mul hc hc; omega
theorem isq_one {A q : Nat} (h1 : q * q ≤ A) (h2 : A < (q + 1) * (q + 1)) : q = isq A := by
  obtain ⟨h3, h4⟩ := isq_ok A
  have a := sq_lt (a := q) (b := isq A + 1) (by omega)
  have b := sq_lt (a := isq A) (b := q + 1) (by omega)
  omega
theorem sq_two (x J : Nat) : x * 2 ^ J * (x * 2 ^ J) = x * x * 2 ^ (2 * J) := by
  rw [Nat.mul_mul_mul_comm, ← Nat.pow_add, show J + J = 2 * J by omega]
theorem isq_shift (N J : Nat) : isq (N * 2 ^ (2 * J)) / 2 ^ J = isq N ∧ ((isq (N * 2 ^ (2 * J)) % 2 ^ J ≠ 0 ∨ isq (N * 2 ^ (2 * J)) * isq (N * 2 ^ (2 * J)) < N * 2 ^ (2 * J)) ↔ isq N * isq N ≠ N) := by
  obtain ⟨a1, a2⟩ := isq_ok N
  obtain ⟨b1, b2⟩ := isq_ok (N * 2 ^ (2 * J))
  have hp := Nat.two_pow_pos J
  have hp2 := Nat.two_pow_pos (2 * J)
  have lo : isq N * 2 ^ J ≤ isq (N * 2 ^ (2 * J)) := by
    have : isq N * 2 ^ J * (isq N * 2 ^ J) ≤ N * 2 ^ (2 * J) := by rw [sq_two]; exact Nat.mul_le_mul_right _ a1
    have := sq_lt (a := isq N * 2 ^ J) (b := isq (N * 2 ^ (2 * J)) + 1) (by omega)
    omega
  have hi : isq (N * 2 ^ (2 * J)) < (isq N + 1) * 2 ^ J := by
    apply sq_lt
    rw [sq_two]
    exact Nat.lt_of_le_of_lt b1 (Nat.mul_lt_mul_of_pos_right a2 hp2)
  have hd : isq (N * 2 ^ (2 * J)) / 2 ^ J = isq N := Nat.div_eq_of_lt_le (by rw [Nat.mul_comm] at lo; rw [Nat.mul_comm]; exact lo) (by rw [Nat.mul_comm] at hi; rw [Nat.mul_comm]; exact hi)
  refine ⟨hd, ?_⟩
  have hdm := Nat.div_add_mod' (isq (N * 2 ^ (2 * J))) (2 ^ J)
  rw [hd] at hdm
  constructor
  · intro h he
    have h3 : isq N * 2 ^ J * (isq N * 2 ^ J) = N * 2 ^ (2 * J) := by rw [sq_two, he]
    have h4 : isq N * 2 ^ J = isq (N * 2 ^ (2 * J)) := isq_one (by omega) (by rw [← h3]; exact Nat.mul_lt_mul_of_lt_of_le (by omega) (by omega) (by omega))
    rw [h4] at h3
    rcases h with h | h
    · omega
    · omega
  · intro h
    by_cases hz : isq (N * 2 ^ (2 * J)) % 2 ^ J = 0
    · right
      have h4 : isq (N * 2 ^ (2 * J)) = isq N * 2 ^ J := by omega
      rw [h4, sq_two]
      exact Nat.mul_lt_mul_of_pos_right (by omega) hp2
    · exact .inl hz

theorem le_words {x N : Nat} : (decide ((hiN x : Int) < (hiN N : Int)) || (((hiN x : Int) == (hiN N : Int)) && decide ((loN x : Int) ≤ (loN N : Int)))) = decide (x ≤ N) := by
  have a := hi_lo x
  have b := hi_lo N
  have c := lo_lt x
  have d := lo_lt N
  rw [Bool.eq_iff_iff]
  simp only [Bool.or_eq_true, Bool.and_eq_true, dec, beq_iff_eq]
  omega
theorem sq_step {N q i : Nat} (hi : i ≤ 63) (hm : q % 2 ^ (i + 1) = 0) (hq : q + 2 ^ (i + 1) ≤ 18446744073709551616) :
    W104800 [.i (hiN N), .i (loN N), .i (q : Int), .i (i : Int)] = true ∧ C104800 [.i (hiN N), .i (loN N), .i (q : Int), .i (i : Int)] = true ∧
    N104800 [.i (hiN N), .i (loN N), .i (q : Int), .i (i : Int)] = [.i (hiN N), .i (loN N), .i ((if (q + 2 ^ i) * (q + 2 ^ i) ≤ N then q + 2 ^ i else q : Nat) : Int), .i ((i : Int) - 1)] := by
  have hp := Nat.two_pow_pos i
  have e1 := shl_one (n := i) (by omega)
  have e2 : ilor .u64 (q : Int) ((2 ^ i : Nat) : Int) = ((q + 2 ^ i : Nat) : Int) := by
    rw [Nat.pow_succ] at hm hq
    rw [lor_nn (by omega) (by omega), Nat.or_comm]
    have : q = q / (2 ^ i * 2) * (2 ^ i * 2) := by have := Nat.div_add_mod' q (2 ^ i * 2); omega
    have h2 : q = q / (2 ^ i * 2) * 2 ^ (i + 1) := by rw [Nat.pow_succ]; exact this
    rw [h2, or_high (by rw [Nat.pow_succ]; omega), Nat.add_comm]
  rw [Nat.pow_succ] at hq
  obtain ⟨m1, m2⟩ := mul64_ok (x := q + 2 ^ i) (y := q + 2 ^ i) (by omega) (by omega)
  refine ⟨?_, decide_eq_true (show (i : Int) ≥ 0 by omega), ?_⟩
  · show w104800 (hiN N) (loN N) (q : Int) (i : Int) = true
    simp only [w104800]
    rw [decide_eq_true (show (i : Int) ≥ 0 by omega)]
    rfl
  · show [DV.i (hiN N), .i (loN N), .i (n104800_0 (hiN N) (loN N) (q : Int) (i : Int)), .i (IntKind.wrap .i64 ((i : Int) - 1))] = _
    rw [wrap_i64_of (n := (i : Int) - 1) (by omega) (by omega)]
    have : n104800_0 (hiN N) (loN N) (q : Int) (i : Int) = ((if (q + 2 ^ i) * (q + 2 ^ i) ≤ N then q + 2 ^ i else q : Nat) : Int) := by
      simp only [n104800_0, e1, e2, m1, m2, le_words]
      by_cases h : (q + 2 ^ i) * (q + 2 ^ i) ≤ N
      · rw [if_pos h, decide_eq_true h]; rfl
      · rw [if_neg h, decide_eq_false h]; rfl
    rw [this]
theorem sq_loop {N : Nat} : ∀ i q : Nat, i ≤ 64 → q % 2 ^ i = 0 → q + 2 ^ i ≤ 18446744073709551616 → ∃ r2, L104800 (hiN N) (loN N) (q : Int) ((i : Int) - 1) = some [.i 0, .i (isqB i N q : Int), r2]
  | 0, q, _, _, _ => by
    refine ⟨.i (((0 : Nat) : Int) - 1), ?_⟩
    exact loopG_last (w := W104800) (c := C104800) (nx := N104800) (out := T104800) (s := [.i (hiN N), .i (loN N), .i (q : Int), .i (((0 : Nat) : Int) - 1)]) rfl rfl
  | i + 1, q, hi, hm, hq => by
    obtain ⟨hw, hc, hN⟩ := sq_step (N := N) (q := q) (i := i) (by omega) hm hq
    have e0 : (((i + 1 : Nat) : Int) - 1) = (i : Int) := by omega
    rw [e0]
    have hp := Nat.two_pow_pos i
    rw [Nat.pow_succ] at hm hq
    have hd := Nat.div_add_mod' q (2 ^ i * 2)
    rw [hm, Nat.add_zero] at hd
    obtain ⟨r2, h⟩ := sq_loop (N := N) i (if (q + 2 ^ i) * (q + 2 ^ i) ≤ N then q + 2 ^ i else q) (by omega) (by
      have h0 : q % 2 ^ i = 0 := by rw [← hd, ← Nat.mul_assoc, Nat.mul_right_comm]; exact Nat.mul_mod_left _ _
      split
      · rw [Nat.add_mod_right]; exact h0
      · exact h0) (by split <;> omega)
    refine ⟨r2, (loopG_next hw hc).trans ?_⟩
    rw [hN]
    exact h
theorem isqB_same {N : Nat} (h : N < two128) : isqB 64 N 0 = isq N := by
  obtain ⟨a, b⟩ := isqB_ok (A := N) 64 0 (by omega) (by unfold two128 at h; exact h)
  exact isq_one a b

theorem tmod2 (x : Int) : Int.tmod x 2 = 0 ↔ x % 2 = 0 := by
  rw [← Int.dvd_iff_tmod_eq_zero, Int.dvd_iff_emod_eq_zero]
theorem tdiv2 {x : Int} (h : x % 2 = 0) : Int.tdiv x 2 = x / 2 := by
  obtain ⟨y, rfl⟩ : ∃ y, x = 2 * y := ⟨x / 2, by omega⟩
  rw [Int.mul_tdiv_cancel_left _ (by decide), Int.mul_ediv_cancel_left _ (by decide)]
def sqN (s : Int) (a : Nat) : Nat := if fE s a % 2 ≠ 0 then 161 else 160
def sqrtS (s rm : Int) (a : Nat) : Nat × Nat :=
  if (!nanN s a && sgN s a && !zerN s a) || nanN s a then oddP s (!nanN s a && sgN s a && !zerN s a) (loudN s a)
  else if infN s a || zerN s a then (mkN s a, 0)
  else rndP s rm false (isq (fM s a * 2 ^ sqN s a)) ((fE s a - sqN s a) / 2) (decide (isq (fM s a * 2 ^ sqN s a) * isq (fM s a * 2 ^ sqN s a) < fM s a * 2 ^ sqN s a))
section
variable {s rm : Int} (hs : s = 4 ∨ s = 8) (h0 : 0 ≤ rm) (h1 : rm ≤ 4) {a : Nat} (ha : a < 18446744073709551616)
include hs ha
theorem nans_1 (inv : Bool) : p94 (frN s) inv [.b (sgN s a), .b (loudN s a), .i (kdN s a), .i (teN s a), .i (tmN s a)] = true ∧
    r94_0 (frN s) (biN s) inv [.b (sgN s a), .b (loudN s a), .i (kdN s a), .i (teN s a), .i (tmN s a)] = (quiB s : Int) ∧
    r94_1 inv [.b (sgN s a), .b (loudN s a), .i (kdN s a), .i (teN s a), .i (tmN s a)] = (if inv || loudN s a then 16 else 0) ∧
    r94_2 inv [.b (sgN s a), .b (loudN s a), .i (kdN s a), .i (teN s a), .i (tmN s a)] = (inv || nanN s a) := by
  have _ := ha
  have h := nans_at hs (n := 1) rfl (nans1 (inv := inv) (s1 := sgN s a) (l1 := loudN s a) (k1 := kdN s a) (e1 := teN s a) (m1 := tmN s a))
  rw [bad_kd, kd3] at h
  have h2 := loud_nan (s := s) (a := a)
  refine ⟨h.1, h.2.1, h.2.2.1, h.2.2.2.trans ?_⟩
  revert h2
  cases inv <;> cases nanN s a <;> cases loudN s a <;> simp
include h0 h1
theorem ssqrt_ok : p48 s rm a = true ∧ r48_0 s rm a = ((sqrtS s rm a).1 : Int) ∧ r48_1 s rm a = ((sqrtS s rm a).2 : Int) := by
  obtain ⟨g1, g2, g3⟩ := of92 hs
  obtain ⟨f1, f2, f3, f4, f5, f6, f7, f8, f9, f10⟩ := size_facts hs
  have hk := (right_ok hs h0 h1).1
  have ta := take_ok hs ha
  have hta := tm_lt hs ha
  have ea := te_le hs ha
  have ka2 := kd2 hs (a := a)
  have ka1 := kd1 (s := s) (a := a)
  have hinv : (sgN s a && (finN s a || infN s a)) = (!nanN s a && sgN s a && !zerN s a) := by
    have h2 := fun h => (zer_inf hs (a := a) h).1
    have h3 := inf_nan (s := s) (a := a)
    unfold finN
    revert h2 h3
    cases sgN s a <;> cases nanN s a <;> cases infN s a <;> cases zerN s a <;> simp
  obtain ⟨n0, n1, n2, n3⟩ := nans_1 hs ha (!nanN s a && sgN s a && !zerN s a)
  have e30 : ishr .u64 (tmN s a : Int) 1 = (hiN (tmN s a * 9223372036854775808) : Int) := by
    have := shr_nat hta 1
    rw [show ishr .u64 (tmN s a : Int) 1 = ((tmN s a / 2 ^ 1 : Nat) : Int) from this]
    congr 1; unfold hiN; omega
  have e31 : ishl .u64 (tmN s a : Int) 63 = (loN (tmN s a * 9223372036854775808) : Int) := shl_nat (tmN s a) 63
  have e32 : IntKind.wrap .i64 (teN s a - 63) = teN s a - 63 := wrap_i64_of (by omega) (by omega)
  have e35 : IntKind.wrap .i64 (teN s a - 63 - 1) = teN s a - 63 - 1 := wrap_i64_of (by omega) (by omega)
  have k6 : iland .u64 (a : Int) (IntKind.wrap .u64 (ishl .u64 (topN s : Int) 1 - 1)) = (mkN s a : Int) := by
    rcases hs with rfl | rfl
    · exact land_low (n := 32) ha (by decide)
    · have : iland .u64 (a : Int) ((2 ^ 64 - 1 : Nat) : Int) = ((a % 2 ^ 64 : Nat) : Int) := land_low ha (by decide)
      rw [Nat.mod_eq_of_lt ha] at this
      exact this
  -- the number whose root is taken
  obtain ⟨odd, hodd⟩ : ∃ o : Bool, o = decide ((teN s a - 63) % 2 ≠ 0) := ⟨_, rfl⟩
  have k34 : (Int.tmod (teN s a - 63) 2 != 0) = odd := by
    rw [hodd, Bool.eq_iff_iff, bne_iff_ne, dec, ne_eq, tmod2]
  obtain ⟨N, hNd⟩ : ∃ N, N = (if odd then tmN s a * 18446744073709551616 else tmN s a * 9223372036854775808) := ⟨_, rfl⟩
  obtain ⟨e, hed⟩ : ∃ e : Int, e = (if odd then teN s a - 63 - 1 else teN s a - 63) := ⟨_, rfl⟩
  have k36 : (bif odd then teN s a - 63 - 1 else teN s a - 63) = e := by rw [hed]; cases odd <;> rfl
  have k37 : (bif odd then (tmN s a : Int) else (hiN (tmN s a * 9223372036854775808) : Int)) = (hiN N : Int) := by
    rw [hNd]
    cases odd
    · rfl
    · show (tmN s a : Int) = (hiN (tmN s a * 18446744073709551616) : Int)
      congr 1; unfold hiN; omega
  have k38 : (bif odd then 0 else (loN (tmN s a * 9223372036854775808) : Int)) = (loN N : Int) := by
    rw [hNd]
    cases odd
    · rfl
    · show (0 : Int) = (loN (tmN s a * 18446744073709551616) : Int)
      have : loN (tmN s a * 18446744073709551616) = 0 := by unfold loN; omega
      rw [this]; rfl
  have hN128 : N < two128 := by rw [hNd]; unfold two128; split <;> omega
  obtain ⟨r2, hL⟩ := sq_loop (N := N) 64 0 (by decide) (Nat.zero_mod _) (by decide)
  rw [isqB_same hN128] at hL
  have hL : L104800 (hiN N) (loN N) 0 63 = some [.i 0, .i (isq N : Int), r2] := hL
  obtain ⟨i1, i2⟩ := isq_ok N
  have hR : isq N < 18446744073709551616 := sq_lt (Nat.lt_of_le_of_lt i1 (by unfold two128 at hN128; exact hN128))
  have k39 : p104800 (hiN N) (loN N) 0 63 = true := by unfold p104800; rw [hL]; rfl
  have k41 : r104800_1 (hiN N) (loN N) 0 63 = (isq N : Int) := by unfold r104800_1; rw [hL]; rfl
  obtain ⟨m1, m2⟩ := mul64_ok hR hR
  have k47 : (((hiN (isq N * isq N) : Int) == (hiN N : Int)) && ((loN (isq N * isq N) : Int) == (loN N : Int))) = decide (isq N * isq N = N) := by
    have x1 := hi_lo (isq N * isq N)
    have x2 := hi_lo N
    have x3 := lo_lt (isq N * isq N)
    have x4 := lo_lt N
    rw [Bool.eq_iff_iff]; simp only [Bool.and_eq_true, beq_iff_eq, dec]
    constructor
    · rintro ⟨a, b⟩; omega
    · intro h; rw [h]; exact ⟨rfl, rfl⟩
  have k49 : (bif !decide (isq N * isq N = N) then (1 : Int) else 0) = ((if isq N * isq N = N then 0 else 1 : Nat) : Int) := by
    by_cases h : isq N * isq N = N
    · rw [if_pos h, decide_eq_true h]; rfl
    · rw [if_neg h, decide_eq_false h]; rfl
  have he2 : e % 2 = 0 := by
    rw [hed]
    cases odd
    · have : ¬ ((teN s a - 63) % 2 ≠ 0) := of_decide_eq_false hodd.symm
      show (teN s a - 63) % 2 = 0
      omega
    · have : ((teN s a - 63) % 2 ≠ 0) := of_decide_eq_true hodd.symm
      show (teN s a - 63 - 1) % 2 = 0
      omega
  have hel : -1300 ≤ e ∧ e ≤ 2000 := by rw [hed]; split <;> omega
  have w : IntKind.wrap .i64 (IntKind.wrap .i64 (Int.tdiv e 2) - 64) = e / 2 - 64 := by
    have : Int.tdiv e 2 = e / 2 := tdiv2 he2
    rw [this, wrap_i64_of (n := e / 2) (by omega) (by omega), wrap_i64_of (by omega) (by omega)]
  have key : finN s a = true → p98 (frN s) (biN s) rm false (e / 2 - 64) (isq N : Int) ((if isq N * isq N = N then 0 else 1 : Nat) : Int) = true ∧
      r98_0 (frN s) (biN s) (topN s) rm false (e / 2 - 64) (isq N : Int) ((if isq N * isq N = N then 0 else 1 : Nat) : Int) =
        ((rndP s rm false (isq (fM s a * 2 ^ sqN s a)) ((fE s a - sqN s a) / 2) (decide (isq (fM s a * 2 ^ sqN s a) * isq (fM s a * 2 ^ sqN s a) < fM s a * 2 ^ sqN s a))).1 : Int) ∧
      r98_1 (frN s) (biN s) rm false (e / 2 - 64) (isq N : Int) ((if isq N * isq N = N then 0 else 1 : Nat) : Int) =
        ((rndP s rm false (isq (fM s a * 2 ^ sqN s a)) ((fE s a - sqN s a) / 2) (decide (isq (fM s a * 2 ^ sqN s a) * isq (fM s a * 2 ^ sqN s a) < fM s a * 2 ^ sqN s a))).2 : Int) := by
    intro fa
    obtain ⟨a1, a2, a3, a4, a5, a6⟩ := tm_facts hs ha fa
    -- the reference's number is this one, times a power of 4
    obtain ⟨J, hJ⟩ : ∃ J : Nat, sqN s a = lzN s a + 63 + (if odd then 1 else 0) + 2 * J := by
      refine ⟨(sqN s a - (lzN s a + 63 + (if odd then 1 else 0))) / 2, ?_⟩
      unfold sqN
      cases odd
      · have : ¬ ((teN s a - 63) % 2 ≠ 0) := of_decide_eq_false hodd.symm
        simp only [Bool.false_eq_true, if_false]
        split <;> omega
      · have : ((teN s a - 63) % 2 ≠ 0) := of_decide_eq_true hodd.symm
        simp only [if_true]
        split <;> omega
    have hA : fM s a * 2 ^ sqN s a = N * 2 ^ (2 * J) := by
      rw [hNd, hJ, a3]
      cases odd
      · simp only [Bool.false_eq_true, if_false, Nat.add_zero]
        rw [show (9223372036854775808 : Nat) = 2 ^ 63 from rfl, Nat.mul_assoc, Nat.mul_assoc, ← Nat.pow_add, ← Nat.pow_add, ← Nat.add_assoc]
      · simp only [if_true]
        rw [show (18446744073709551616 : Nat) = 2 ^ 64 from rfl, Nat.mul_assoc, Nat.mul_assoc, ← Nat.pow_add, ← Nat.pow_add]
        congr 2; omega
    have hE : (fE s a - sqN s a) / 2 = e / 2 - J := by
      rw [hed]
      cases odd
      · simp only [Bool.false_eq_true, if_false] at hJ ⊢
        omega
      · simp only [if_true] at hJ ⊢
        omega
    obtain ⟨s1, s2⟩ := isq_shift N J
    rw [hA, hE]
    unfold rndP
    have hN0 : 85070591730234615865843651857942052864 ≤ N := by rw [hNd]; split <;> omega
    have hR0 : 9223372036854775808 ≤ isq N := by
      have := sq_lt (a := 9223372036854775808) (b := isq N + 1) (by omega)
      omega
    have hR1 : 2 ^ (frN s + 2) ≤ isq N := by
      have : 2 ^ (frN s + 2) ≤ 2 ^ 63 := Nat.pow_le_pow_right (by decide) (by omega)
      omega
    have hdm := Nat.div_add_mod' (isq (N * 2 ^ (2 * J))) (2 ^ J)
    rw [s1] at hdm
    have n1 := rnd_near (f := frN s) (b := biN s) (rm := rm) (minus := false) (h := isq N) (j := J) (l := isq (N * 2 ^ (2 * J)) % 2 ^ J) (e := e / 2) (more := decide (isq (N * 2 ^ (2 * J)) * isq (N * 2 ^ (2 * J)) < N * 2 ^ (2 * J))) hR1 (Nat.mod_lt _ (Nat.two_pow_pos J))
    rw [hdm] at n1
    have n2 := rnd_near (f := frN s) (b := biN s) (rm := rm) (minus := false) (h := isq N) (j := 64) (l := if isq N * isq N = N then 0 else 1) (e := e / 2) (more := false) hR1 (by split <;> decide)
    have n2' : rnd (frN s) (biN s) rm false (isq N * 18446744073709551616 + (if isq N * isq N = N then 0 else 1)) (e / 2 - 64) false = _ := n2
    have hz : (isq (N * 2 ^ (2 * J)) % 2 ^ J ≠ 0 ∨ decide (isq (N * 2 ^ (2 * J)) * isq (N * 2 ^ (2 * J)) < N * 2 ^ (2 * J)) = true) ↔ ((if isq N * isq N = N then 0 else 1) ≠ 0 ∨ false = true) := by
      rw [dec, s2]
      by_cases h : isq N * isq N = N
      · rw [if_pos h]; simp [h]
      · rw [if_neg h]; simp [h]
    have n3 : rnd (frN s) (biN s) rm false (isq (N * 2 ^ (2 * J))) (e / 2 - J) (decide (isq (N * 2 ^ (2 * J)) * isq (N * 2 ^ (2 * J)) < N * 2 ^ (2 * J))) = rnd (frN s) (biN s) rm false (isq N * 18446744073709551616 + (if isq N * isq N = N then 0 else 1)) (e / 2 - 64) false := by
      rw [n1, n2']
      by_cases h : (if isq N * isq N = N then 0 else 1) ≠ 0 ∨ false = true
      · rw [if_pos h, if_pos (hz.2 h)]
      · rw [if_neg h, if_neg (fun h2 => h (hz.1 h2))]
    rw [n3]
    have hl1 : (if isq N * isq N = N then 0 else 1 : Nat) < 18446744073709551616 := by split <;> decide
    generalize (if isq N * isq N = N then 0 else 1 : Nat) = l at *
    have := sround_ok hs (rm := rm) (minus := false) (P := isq N * 18446744073709551616 + l) (e := e / 2 - 64) (by omega) (by unfold two128; omega) (by omega) (by omega)
    rw [hi_of hl1, lo_of hl1] at this
    exact this
  have fin : finN s a = (!nanN s a && !infN s a && !zerN s a) := rfl
  have kne : (kdN s a != 1) = !finN s a := by rw [← ka1]; rfl
  unfold sqrtS oddP
  refine ⟨?_, ?_, ?_⟩
  · simp only [p48, hk, g1, g2, g3, ta, dget, List.getD_cons_succ, List.getD_cons_zero, DV.toB, DV.toI, ka1, ka2, kne, hinv, n0, n3, e30, e31, e32, e35, k34, k36, k37, k38, k39, k41, m1, m2, k47, k49, w]
    rw [fin] at key ⊢
    generalize p98 (frN s) (biN s) rm false (e / 2 - 64) (isq N : Int) ((if isq N * isq N = N then 0 else 1 : Nat) : Int) = q at *
    revert key
    cases nanN s a <;> cases sgN s a <;> cases infN s a <;> cases zerN s a <;> intro key <;> first | rfl | (rw [(key rfl).1]; rfl)
  · simp only [r48_0, hk, g1, g2, g3, ta, dget, List.getD_cons_succ, List.getD_cons_zero, DV.toB, DV.toI, ka1, ka2, kne, hinv, n1, n3, e30, e31, e32, e35, k34, k36, k37, k38, k41, m1, m2, k47, k49, w, k6]
    rw [fin] at key ⊢
    generalize r98_0 (frN s) (biN s) (topN s) rm false (e / 2 - 64) (isq N : Int) ((if isq N * isq N = N then 0 else 1 : Nat) : Int) = q at *
    revert key
    cases nanN s a <;> cases sgN s a <;> cases infN s a <;> cases zerN s a <;> intro key <;> first | rfl | exact (key rfl).2.1
  · simp only [r48_1, hk, g1, g2, g3, ta, dget, List.getD_cons_succ, List.getD_cons_zero, DV.toB, DV.toI, ka1, ka2, kne, hinv, n2, n3, e30, e31, e32, e35, k34, k36, k37, k38, k41, m1, m2, k47, k49, w]
    rw [fin] at key ⊢
    generalize r98_1 (frN s) (biN s) rm false (e / 2 - 64) (isq N : Int) ((if isq N * isq N = N then 0 else 1 : Nat) : Int) = q at *
    have l1 := loud_nan (s := s) (a := a)
    revert key l1
    cases nanN s a <;> cases sgN s a <;> cases infN s a <;> cases zerN s a <;> intro key l1 <;> first | exact (key rfl).2.2 | rfl | (cases loudN s a <;> first | rfl | cases l1 rfl)
end
end Go.Proofs.Ytacciadcmiiimaa

