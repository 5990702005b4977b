/- The plain law of PmpLocks. Printed by PlkB.py. -/
import Derived.Test.YtoebecinndbnoaaDoorPlkA2
import Derived.Test.YtoebecinndbnoaaDoorSyBits
import Derived.Lib.TrailingZeros
namespace Go.Proofs.YtoebecinndbnoaaDoor
open Go Go.Sx
set_option maxRecDepth 100000
set_option maxHeartbeats 2000000

def R8 (x : Int) : Prop := 0 ≤ x ∧ x < 256
theorem byte_all {P : Int → Bool} (h : ∀ n : Fin 256, P (n.val : Int) = true) {x : Int} (hx : R8 x) : P x = true := by
  have := h ⟨x.toNat, by have := hx.1; have := hx.2; omega⟩
  rwa [show (((⟨x.toNat, by have := hx.1; have := hx.2; omega⟩ : Fin 256).val : Nat) : Int) = x from by show ((x.toNat : Nat) : Int) = x; have := hx.1; omega] at this
theorem ow_t (l : List (Bool × Bool)) : ow l true = true := by simp [ow]

/-! ### Nothing is owed -/
theorem land54 (v : Int) : ∃ a : Nat, a < 18014398509481984 ∧ iland .u64 v 18014398509481983 = (a : Int) := by
  have e2 : (BitVec.ofInt 64 (18014398509481983 : Int)).toNat = 2 ^ 54 - 1 := by decide +kernel
  refine ⟨(BitVec.ofInt 64 v).toNat % 18014398509481984, by omega, ?_⟩
  show IntKind.wrap .u64 ((BitVec.ofInt 64 v &&& BitVec.ofInt 64 (18014398509481983 : Int)).toNat : Int) = _
  rw [BitVec.toNat_and, e2, Nat.and_two_pow_sub_one_eq_mod, wrap_u64]
  omega

theorem tab_at : ∀ k : Nat, k < 64 → ([0, 1, 56, 2, 57, 49, 28, 3, 61, 58, 42, 50, 38, 29, 17, 4, 62, 47, 59, 36, 45, 43, 51, 22, 53, 39, 33, 30, 24, 18, 12, 5, 63, 55, 48, 27, 60, 41, 37, 16, 46, 35, 44, 21, 52, 32, 23, 11, 54, 26, 40, 15, 34, 20, 31, 10, 25, 14, 19, 9, 13, 8, 7, 6] : List Int).getD (2 ^ k * 285870213051353865 % 18446744073709551616 / 288230376151711744) 0 = (k : Int) := by decide +kernel
theorem tz_idx {x : Nat} (h0 : x ≠ 0) (hx : x < 18446744073709551616) :
    ishr .u64 (IntKind.wrap .u64 (iland .u64 (x : Int) (IntKind.wrap .u64 (0 - (x : Int))) * 285870213051353865)) 58 = ((2 ^ Lib.ctz 64 x * 285870213051353865 % 18446744073709551616 / 288230376151711744 : Nat) : Int) := by
  obtain ⟨hlow, hk⟩ := Lib.lowest_bit 64 x h0 hx
  have e1 : IntKind.wrap .u64 (0 - (x : Int)) = ((18446744073709551616 - x : Nat) : Int) := by rw [wrap_u64]; omega
  have e2 : x &&& (18446744073709551616 - x) = 2 ^ Lib.ctz 64 x := hlow
  rw [e1, land_nn hx (by omega), e2]
  have e3 : IntKind.wrap .u64 (((2 ^ Lib.ctz 64 x : Nat) : Int) * 285870213051353865) = ((2 ^ Lib.ctz 64 x * 285870213051353865 % 18446744073709551616 : Nat) : Int) := by
    rw [wrap_u64]; omega
  rw [e3, show ishr .u64 ((2 ^ Lib.ctz 64 x * 285870213051353865 % 18446744073709551616 : Nat) : Int) 58 = _ from shr_of 58 (by decide) (p := 288230376151711744) (by decide)]
  omega
def tzTab : List Int := [0, 1, 56, 2, 57, 49, 28, 3, 61, 58, 42, 50, 38, 29, 17, 4, 62, 47, 59, 36, 45, 43, 51, 22, 53, 39, 33, 30, 24, 18, 12, 5, 63, 55, 48, 27, 60, 41, 37, 16, 46, 35, 44, 21, 52, 32, 23, 11, 54, 26, 40, 15, 34, 20, 31, 10, 25, 14, 19, 9, 13, 8, 7, 6]
def tzAt (x : Int) : Int := ishr .u64 (IntKind.wrap .u64 (iland .u64 x (IntKind.wrap .u64 (0 - x)) * 285870213051353865)) 58
theorem tz_ex {x : Nat} (h0 : x ≠ 0) (hx : x < 18446744073709551616) : ∃ j k : Nat, j < 64 ∧ k < 64 ∧ tzAt (x : Int) = (j : Int) ∧ tzTab.getD j 0 = (k : Int) := by
  obtain ⟨_, hk⟩ := Lib.lowest_bit 64 x h0 hx
  obtain ⟨hi, _⟩ := Lib.deBruijn64_at _ hk
  exact ⟨_, _, hi, hk, tz_idx h0 hx, tab_at _ hk⟩
theorem p18_eq (x : Int) : p18 x = (ow [(!(x == 0), true)] (decide (tzAt x ≥ 0)) && (ow [(!(x == 0), true)] (decide (tzAt x < 64)) && true)) := rfl
theorem r18_eq (x : Int) : r18_0 x = bif !(x == 0) then IntKind.wrap .i64 (tzTab.getD (Int.toNat (tzAt x)) 0) else 64 := rfl
theorem tz_ok {x : Nat} (h0 : x ≠ 0) (hx : x < 18446744073709551616) : p18 (x : Int) = true ∧ ∃ k : Nat, k < 64 ∧ r18_0 (x : Int) = (k : Int) := by
  obtain ⟨j, k, hj, hk, h1, h2⟩ := tz_ex h0 hx
  have hx0 : ((x : Int) == 0) = false := by simp; omega
  rw [p18_eq, r18_eq, h1, hx0]
  have a1 : decide ((j : Int) ≥ 0) = true := decide_eq_true (by omega)
  have a2 : decide ((j : Int) < 64) = true := decide_eq_true (by omega)
  rw [a1, a2, Int.toNat_natCast, h2]
  refine ⟨rfl, k, hk, ?_⟩
  rw [Bool.not_false, cond_true, wrap_i64_of (by omega) (by omega)]
theorem lxor_max {a : Nat} (ha : a < 18446744073709551616) : ilxor .u64 18446744073709551615 (a : Int) = ((18446744073709551615 - a : Nat) : Int) := by
  have e1 : (BitVec.ofInt 64 (a : Int)).toNat = a := ofInt_nat ha
  have e2 : BitVec.ofInt 64 (18446744073709551615 : Int) = BitVec.allOnes 64 := by decide +kernel
  show IntKind.wrap .u64 ((BitVec.ofInt 64 (18446744073709551615 : Int) ^^^ BitVec.ofInt 64 (a : Int)).toNat : Int) = _
  rw [e2, BitVec.allOnes_xor, BitVec.toNat_not, e1, wrap_u64]
  omega
theorem one_up {k : Nat} (hk : k < 64) (j : Nat) (hj : j < 8) : decide (IntKind.wrap .i64 ((k : Int) + (j : Int)) ≥ 0) = true := by
  rw [wrap_i64_of (by omega) (by omega)]
  exact decide_eq_true (by omega)

theorem p8_ok (c0 c1 c2 c3 c4 c5 c6 c7 a0 a1 a2 a3 a4 a5 a6 a7 n : Int) : p8 c0 c1 c2 c3 c4 c5 c6 c7 a0 a1 a2 a3 a4 a5 a6 a7 n = true := by
  obtain ⟨a, ha, hl8⟩ := land54 ([a0, a1, a2, a3, a4, a5, a6, a7].getD (Int.toNat n) 0)
  obtain ⟨h18, k, hk, hr⟩ := tz_ok (x := 18446744073709551615 - a) (by omega) (by omega)
  rw [← lxor_max (by omega)] at h18 hr
  have i1 : decide (IntKind.wrap .i64 (r18_0 (ilxor .u64 18446744073709551615 (a : Int)) + 1) ≥ 0) = true := by rw [hr]; exact one_up hk 1 (by decide)
  have i3 : decide (IntKind.wrap .i64 (r18_0 (ilxor .u64 18446744073709551615 (a : Int)) + 3) ≥ 0) = true := by rw [hr]; exact one_up hk 3 (by decide)
  by_cases hn : 0 ≤ n ∧ n < 8
  · have a1 : decide (n ≥ 0) = true := decide_eq_true hn.1
    have a2 : decide (n < 8) = true := decide_eq_true hn.2
    have e : IntKind.wrap .i64 (n - 1) = n - 1 := wrap_i64_of (by omega) (by omega)
    have a4 : decide (IntKind.wrap .i64 (n - 1) < 8) = true := by rw [e]; exact decide_eq_true (by omega)
    have a3 : decide (IntKind.wrap .i64 (n - 1) ≥ 0) = decide (n > 0) := by rw [e]; simp; omega
    simp only [p8, List.all_cons, List.all_nil, id, hl8, a1, a2, a3, a4, h18, i1, i3, ow_t, Bool.true_and, Bool.and_true]
    cases decide (n > 0) <;> simp [ow]
  · have b1 : (decide (n < 0) || decide (n ≥ 8)) = true := by simp; omega
    simp only [p8, b1]; simp [ow]
theorem p11_ok (c0 c1 c2 c3 c4 c5 c6 c7 a0 a1 a2 a3 a4 a5 a6 a7 k at0 sz : Int) : p11 c0 c1 c2 c3 c4 c5 c6 c7 a0 a1 a2 a3 a4 a5 a6 a7 k at0 sz = true := by
  simp only [p11, p8_ok, ow_t, List.all_cons, List.all_nil, id, Bool.and_self]
theorem p15_ok (c0 c1 c2 c3 c4 c5 c6 c7 n : Int) : p15 c0 c1 c2 c3 c4 c5 c6 c7 n = true := by
  simp only [p15, List.all_cons, List.all_nil, id]
  by_cases hn : 0 ≤ n ∧ n < 8
  · have e : IntKind.wrap .i64 (n + 1) = n + 1 := wrap_i64_of (by omega) (by omega)
    have a1 : decide (n ≥ 0) = true := decide_eq_true hn.1
    have a2 : decide (n < 8) = true := decide_eq_true hn.2
    have a3 : decide (IntKind.wrap .i64 (n + 1) ≥ 0) = true := by rw [e]; exact decide_eq_true (by omega)
    rw [a1, a2, a3]
    simp only [ow_t, Bool.true_and, Bool.and_true]
    cases hd : decide (IntKind.wrap .i64 (n + 1) < 8) <;> simp [ow]
  · have a1 : (decide (n < 0) || decide (n ≥ 8)) = true := by simp; omega
    rw [a1]
    simp [ow]
theorem p10_ok : p10 = true := by kernel_rfl
theorem r10_ok : r10_0 = true := by kernel_rfl

/-! ### What is locked is kept -/
def lkd (c : Int) : Prop := (iland .u8 c 128 == 0) = false
theorem lkd_or {x : Int} (h : R8 x) : lkd (ilor .u8 x 128) := by
  have := byte_all (P := fun x => !(iland .u8 (ilor .u8 x 128) 128 == 0)) (by decide +kernel) h
  simpa [lkd] using this
theorem keep2 {A B : Bool} {w x : Int} (h : A = false) : (bif A && B then w else x) = x := by subst h; rfl
theorem keep3 {A B e : Bool} {w x : Int} (h : e = true → (A && B) = false) : (bif A then (bif B then (bif e then w else x) else x) else x) = x := by
  cases e <;> cases A <;> cases B <;> simp at h ⊢
theorem keep1 {m : Bool} {w x : Int} (h : w = x) : (bif m then w else x) = x := by subst h; cases m <;> rfl
theorem keep1' {m : Bool} {w x : Int} (h : w = x) : (bif m then x else w) = x := by subst h; cases m <;> rfl
theorem out_lk {A : Bool} {c : Int} (h : lkd c) (B : Bool) : (!(A || (iland .u8 c 128 != 0)) && B) = false := by
  rw [bne, h]; cases A <;> rfl
theorem next_lk {A d w : Bool} {c : Int} (h : lkd c) (hd : d = true) (hw : w = true) : (A && !((d && (iland .u8 c 128 != 0)) && w)) = false := by
  rw [bne, h, hd, hw]; cases A <;> rfl

theorem c13_0 {x v : Int} (h : lkd x) : r13_0 x v = x := by
  unfold r13_0
  exact keep2 h
theorem a15_0 {c0 c1 c2 c3 c4 c5 c6 c7 a n v : Int} (h : lkd c0) : r15_0 c0 c1 c2 c3 c4 c5 c6 c7 a n v = a := by
  unfold r15_0
  refine keep3 fun e => ?_
  obtain rfl : n = 0 := eq_of_beq e
  exact out_lk h _
theorem b15_0 {c0 c1 c2 c3 c4 c5 c6 c7 a n v : Int} (h : lkd c1) (hw : (r17_0 c1 == 1) = true) : r15_0 c0 c1 c2 c3 c4 c5 c6 c7 a n v = a := by
  unfold r15_0
  refine keep3 fun e => ?_
  obtain rfl : n = 0 := eq_of_beq e
  exact next_lk (c := c1) (d := decide (IntKind.wrap .i64 (0 + 1) < 8)) h (by decide) hw
theorem c13_1 {x v : Int} (h : lkd x) : r13_1 x v = x := by
  unfold r13_1
  exact keep2 h
theorem a15_1 {c0 c1 c2 c3 c4 c5 c6 c7 a n v : Int} (h : lkd c1) : r15_1 c0 c1 c2 c3 c4 c5 c6 c7 a n v = a := by
  unfold r15_1
  refine keep3 fun e => ?_
  obtain rfl : n = 1 := eq_of_beq e
  exact out_lk h _
theorem b15_1 {c0 c1 c2 c3 c4 c5 c6 c7 a n v : Int} (h : lkd c2) (hw : (r17_0 c2 == 1) = true) : r15_1 c0 c1 c2 c3 c4 c5 c6 c7 a n v = a := by
  unfold r15_1
  refine keep3 fun e => ?_
  obtain rfl : n = 1 := eq_of_beq e
  exact next_lk (c := c2) (d := decide (IntKind.wrap .i64 (1 + 1) < 8)) h (by decide) hw
theorem c13_2 {x v : Int} (h : lkd x) : r13_2 x v = x := by
  unfold r13_2
  exact keep2 h
theorem a15_2 {c0 c1 c2 c3 c4 c5 c6 c7 a n v : Int} (h : lkd c2) : r15_2 c0 c1 c2 c3 c4 c5 c6 c7 a n v = a := by
  unfold r15_2
  refine keep3 fun e => ?_
  obtain rfl : n = 2 := eq_of_beq e
  exact out_lk h _
theorem b15_2 {c0 c1 c2 c3 c4 c5 c6 c7 a n v : Int} (h : lkd c3) (hw : (r17_0 c3 == 1) = true) : r15_2 c0 c1 c2 c3 c4 c5 c6 c7 a n v = a := by
  unfold r15_2
  refine keep3 fun e => ?_
  obtain rfl : n = 2 := eq_of_beq e
  exact next_lk (c := c3) (d := decide (IntKind.wrap .i64 (2 + 1) < 8)) h (by decide) hw
theorem c13_3 {x v : Int} (h : lkd x) : r13_3 x v = x := by
  unfold r13_3
  exact keep2 h
theorem a15_3 {c0 c1 c2 c3 c4 c5 c6 c7 a n v : Int} (h : lkd c3) : r15_3 c0 c1 c2 c3 c4 c5 c6 c7 a n v = a := by
  unfold r15_3
  refine keep3 fun e => ?_
  obtain rfl : n = 3 := eq_of_beq e
  exact out_lk h _
theorem b15_3 {c0 c1 c2 c3 c4 c5 c6 c7 a n v : Int} (h : lkd c4) (hw : (r17_0 c4 == 1) = true) : r15_3 c0 c1 c2 c3 c4 c5 c6 c7 a n v = a := by
  unfold r15_3
  refine keep3 fun e => ?_
  obtain rfl : n = 3 := eq_of_beq e
  exact next_lk (c := c4) (d := decide (IntKind.wrap .i64 (3 + 1) < 8)) h (by decide) hw
theorem c13_4 {x v : Int} (h : lkd x) : r13_4 x v = x := by
  unfold r13_4
  exact keep2 h
theorem a15_4 {c0 c1 c2 c3 c4 c5 c6 c7 a n v : Int} (h : lkd c4) : r15_4 c0 c1 c2 c3 c4 c5 c6 c7 a n v = a := by
  unfold r15_4
  refine keep3 fun e => ?_
  obtain rfl : n = 4 := eq_of_beq e
  exact out_lk h _
theorem b15_4 {c0 c1 c2 c3 c4 c5 c6 c7 a n v : Int} (h : lkd c5) (hw : (r17_0 c5 == 1) = true) : r15_4 c0 c1 c2 c3 c4 c5 c6 c7 a n v = a := by
  unfold r15_4
  refine keep3 fun e => ?_
  obtain rfl : n = 4 := eq_of_beq e
  exact next_lk (c := c5) (d := decide (IntKind.wrap .i64 (4 + 1) < 8)) h (by decide) hw
theorem c13_5 {x v : Int} (h : lkd x) : r13_5 x v = x := by
  unfold r13_5
  exact keep2 h
theorem a15_5 {c0 c1 c2 c3 c4 c5 c6 c7 a n v : Int} (h : lkd c5) : r15_5 c0 c1 c2 c3 c4 c5 c6 c7 a n v = a := by
  unfold r15_5
  refine keep3 fun e => ?_
  obtain rfl : n = 5 := eq_of_beq e
  exact out_lk h _
theorem b15_5 {c0 c1 c2 c3 c4 c5 c6 c7 a n v : Int} (h : lkd c6) (hw : (r17_0 c6 == 1) = true) : r15_5 c0 c1 c2 c3 c4 c5 c6 c7 a n v = a := by
  unfold r15_5
  refine keep3 fun e => ?_
  obtain rfl : n = 5 := eq_of_beq e
  exact next_lk (c := c6) (d := decide (IntKind.wrap .i64 (5 + 1) < 8)) h (by decide) hw
theorem c13_6 {x v : Int} (h : lkd x) : r13_6 x v = x := by
  unfold r13_6
  exact keep2 h
theorem a15_6 {c0 c1 c2 c3 c4 c5 c6 c7 a n v : Int} (h : lkd c6) : r15_6 c0 c1 c2 c3 c4 c5 c6 c7 a n v = a := by
  unfold r15_6
  refine keep3 fun e => ?_
  obtain rfl : n = 6 := eq_of_beq e
  exact out_lk h _
theorem b15_6 {c0 c1 c2 c3 c4 c5 c6 c7 a n v : Int} (h : lkd c7) (hw : (r17_0 c7 == 1) = true) : r15_6 c0 c1 c2 c3 c4 c5 c6 c7 a n v = a := by
  unfold r15_6
  refine keep3 fun e => ?_
  obtain rfl : n = 6 := eq_of_beq e
  exact next_lk (c := c7) (d := decide (IntKind.wrap .i64 (6 + 1) < 8)) h (by decide) hw
theorem c13_7 {x v : Int} (h : lkd x) : r13_7 x v = x := by
  unfold r13_7
  exact keep2 h
theorem a15_7 {c0 c1 c2 c3 c4 c5 c6 c7 a n v : Int} (h : lkd c7) : r15_7 c0 c1 c2 c3 c4 c5 c6 c7 a n v = a := by
  unfold r15_7
  refine keep3 fun e => ?_
  obtain rfl : n = 7 := eq_of_beq e
  exact out_lk h _

/-! ### The writes -/
theorem w_abs (d m g p : Bool) (hg : g = true) (hp : p = true) : ([ow [(d, true), (m, true)] g, ow [(d, true), (m, true)] d, ow [(d, true), (m, false)] g, ow [(d, true), (m, false)] d, ow [(d, true), (m, false)] g, ow [(d, true), (m, false)] d, ow [(d, true), (m, false)] p].all id) = true := by
  subst hg; subst hp; cases d <;> cases m <;> rfl
theorem w_ok {v : List DV} {i c0 c1 c2 c3 c4 c5 c6 c7 a0 a1 a2 a3 a4 a5 a6 a7 : Int} (h : 0 ≤ i) : w100700 v i c0 c1 c2 c3 c4 c5 c6 c7 a0 a1 a2 a3 a4 a5 a6 a7 = true :=
  w_abs _ _ _ _ (decide_eq_true h) (p15_ok c0 c1 c2 c3 c4 c5 c6 c7 _)
abbrev st (v : List DV) (i c0 c1 c2 c3 c4 c5 c6 c7 a0 a1 a2 a3 a4 a5 a6 a7 : Int) : List DV := [.l v, .i i, .i c0, .i c1, .i c2, .i c3, .i c4, .i c5, .i c6, .i c7, .i a0, .i a1, .i a2, .i a3, .i a4, .i a5, .i a6, .i a7]

theorem loop_k (v : List DV) (hl : (v.length : Int) < 9223372036854775808) : ∀ (m : Nat) (i c0 c1 c2 c3 c4 c5 c6 c7 a0 a1 a2 a3 a4 a5 a6 a7 : Int), 0 ≤ i → i + (m : Int) = v.length →
    ∃ i' d0 d1 d2 d3 d4 d5 d6 d7 b0 b1 b2 b3 b4 b5 b6 b7 : Int, L100700 v i c0 c1 c2 c3 c4 c5 c6 c7 a0 a1 a2 a3 a4 a5 a6 a7 = some (T100700 (st v i' d0 d1 d2 d3 d4 d5 d6 d7 b0 b1 b2 b3 b4 b5 b6 b7)) ∧
      (lkd c0 → d0 = c0 ∧ b0 = a0) ∧
      (lkd c1 → d1 = c1 ∧ b1 = a1 ∧ ((r17_0 c1 == 1) = true → b0 = a0)) ∧
      (lkd c2 → d2 = c2 ∧ b2 = a2 ∧ ((r17_0 c2 == 1) = true → b1 = a1)) ∧
      (lkd c3 → d3 = c3 ∧ b3 = a3 ∧ ((r17_0 c3 == 1) = true → b2 = a2)) ∧
      (lkd c4 → d4 = c4 ∧ b4 = a4 ∧ ((r17_0 c4 == 1) = true → b3 = a3)) ∧
      (lkd c5 → d5 = c5 ∧ b5 = a5 ∧ ((r17_0 c5 == 1) = true → b4 = a4)) ∧
      (lkd c6 → d6 = c6 ∧ b6 = a6 ∧ ((r17_0 c6 == 1) = true → b5 = a5)) ∧
      (lkd c7 → d7 = c7 ∧ b7 = a7 ∧ ((r17_0 c7 == 1) = true → b6 = a6))
  | 0, i, c0, c1, c2, c3, c4, c5, c6, c7, a0, a1, a2, a3, a4, a5, a6, a7, h0, hm => by
    have hc : c100700 v i c0 c1 c2 c3 c4 c5 c6 c7 a0 a1 a2 a3 a4 a5 a6 a7 = false := decide_eq_false (by rw [Nat.div_one]; omega)
    exact ⟨i, c0, c1, c2, c3, c4, c5, c6, c7, a0, a1, a2, a3, a4, a5, a6, a7, loopG_last (w := W100700) (c := C100700) (nx := N100700) (out := T100700) (s := st v i c0 c1 c2 c3 c4 c5 c6 c7 a0 a1 a2 a3 a4 a5 a6 a7) (w_ok h0) hc,
      fun _ => ⟨rfl, rfl⟩, fun _ => ⟨rfl, rfl, fun _ => rfl⟩, fun _ => ⟨rfl, rfl, fun _ => rfl⟩, fun _ => ⟨rfl, rfl, fun _ => rfl⟩, fun _ => ⟨rfl, rfl, fun _ => rfl⟩, fun _ => ⟨rfl, rfl, fun _ => rfl⟩, fun _ => ⟨rfl, rfl, fun _ => rfl⟩, fun _ => ⟨rfl, rfl, fun _ => rfl⟩⟩
  | m + 1, i, c0, c1, c2, c3, c4, c5, c6, c7, a0, a1, a2, a3, a4, a5, a6, a7, h0, hm => by
    have hc : c100700 v i c0 c1 c2 c3 c4 c5 c6 c7 a0 a1 a2 a3 a4 a5 a6 a7 = true := decide_eq_true (by rw [Nat.div_one]; omega)
    have hn := loopG_next (w := W100700) (c := C100700) (nx := N100700) (out := T100700) (s := st v i c0 c1 c2 c3 c4 c5 c6 c7 a0 a1 a2 a3 a4 a5 a6 a7) (w_ok h0) hc
    have e0 : n100700_0 v i c0 c1 c2 c3 c4 c5 c6 c7 a0 a1 a2 a3 a4 a5 a6 a7 = i + 1 := wrap_i64_of (by omega) (by omega)
    obtain ⟨i', d0, d1, d2, d3, d4, d5, d6, d7, b0, b1, b2, b3, b4, b5, b6, b7, h1, q0, q1, q2, q3, q4, q5, q6, q7⟩ := loop_k v hl m (n100700_0 v i c0 c1 c2 c3 c4 c5 c6 c7 a0 a1 a2 a3 a4 a5 a6 a7) (n100700_1 v i c0 c1 c2 c3 c4 c5 c6 c7 a0 a1 a2 a3 a4 a5 a6 a7) (n100700_2 v i c0 c1 c2 c3 c4 c5 c6 c7 a0 a1 a2 a3 a4 a5 a6 a7) (n100700_3 v i c0 c1 c2 c3 c4 c5 c6 c7 a0 a1 a2 a3 a4 a5 a6 a7) (n100700_4 v i c0 c1 c2 c3 c4 c5 c6 c7 a0 a1 a2 a3 a4 a5 a6 a7) (n100700_5 v i c0 c1 c2 c3 c4 c5 c6 c7 a0 a1 a2 a3 a4 a5 a6 a7) (n100700_6 v i c0 c1 c2 c3 c4 c5 c6 c7 a0 a1 a2 a3 a4 a5 a6 a7) (n100700_7 v i c0 c1 c2 c3 c4 c5 c6 c7 a0 a1 a2 a3 a4 a5 a6 a7) (n100700_8 v i c0 c1 c2 c3 c4 c5 c6 c7 a0 a1 a2 a3 a4 a5 a6 a7) (n100700_9 v i c0 c1 c2 c3 c4 c5 c6 c7 a0 a1 a2 a3 a4 a5 a6 a7) (n100700_10 v i c0 c1 c2 c3 c4 c5 c6 c7 a0 a1 a2 a3 a4 a5 a6 a7) (n100700_11 v i c0 c1 c2 c3 c4 c5 c6 c7 a0 a1 a2 a3 a4 a5 a6 a7) (n100700_12 v i c0 c1 c2 c3 c4 c5 c6 c7 a0 a1 a2 a3 a4 a5 a6 a7) (n100700_13 v i c0 c1 c2 c3 c4 c5 c6 c7 a0 a1 a2 a3 a4 a5 a6 a7) (n100700_14 v i c0 c1 c2 c3 c4 c5 c6 c7 a0 a1 a2 a3 a4 a5 a6 a7) (n100700_15 v i c0 c1 c2 c3 c4 c5 c6 c7 a0 a1 a2 a3 a4 a5 a6 a7) (n100700_16 v i c0 c1 c2 c3 c4 c5 c6 c7 a0 a1 a2 a3 a4 a5 a6 a7) (by omega) (by omega)
    have e1 : lkd c0 → n100700_1 v i c0 c1 c2 c3 c4 c5 c6 c7 a0 a1 a2 a3 a4 a5 a6 a7 = c0 := fun h => keep1 (c13_0 h)
    have f0 : lkd c0 → n100700_9 v i c0 c1 c2 c3 c4 c5 c6 c7 a0 a1 a2 a3 a4 a5 a6 a7 = a0 := fun h => keep1' (a15_0 h)
    have e2 : lkd c1 → n100700_2 v i c0 c1 c2 c3 c4 c5 c6 c7 a0 a1 a2 a3 a4 a5 a6 a7 = c1 := fun h => keep1 (c13_1 h)
    have f1 : lkd c1 → n100700_10 v i c0 c1 c2 c3 c4 c5 c6 c7 a0 a1 a2 a3 a4 a5 a6 a7 = a1 := fun h => keep1' (a15_1 h)
    have g1 : lkd c1 → (r17_0 c1 == 1) = true → n100700_9 v i c0 c1 c2 c3 c4 c5 c6 c7 a0 a1 a2 a3 a4 a5 a6 a7 = a0 := fun h hw => keep1' (b15_0 h hw)
    have e3 : lkd c2 → n100700_3 v i c0 c1 c2 c3 c4 c5 c6 c7 a0 a1 a2 a3 a4 a5 a6 a7 = c2 := fun h => keep1 (c13_2 h)
    have f2 : lkd c2 → n100700_11 v i c0 c1 c2 c3 c4 c5 c6 c7 a0 a1 a2 a3 a4 a5 a6 a7 = a2 := fun h => keep1' (a15_2 h)
    have g2 : lkd c2 → (r17_0 c2 == 1) = true → n100700_10 v i c0 c1 c2 c3 c4 c5 c6 c7 a0 a1 a2 a3 a4 a5 a6 a7 = a1 := fun h hw => keep1' (b15_1 h hw)
    have e4 : lkd c3 → n100700_4 v i c0 c1 c2 c3 c4 c5 c6 c7 a0 a1 a2 a3 a4 a5 a6 a7 = c3 := fun h => keep1 (c13_3 h)
    have f3 : lkd c3 → n100700_12 v i c0 c1 c2 c3 c4 c5 c6 c7 a0 a1 a2 a3 a4 a5 a6 a7 = a3 := fun h => keep1' (a15_3 h)
    have g3 : lkd c3 → (r17_0 c3 == 1) = true → n100700_11 v i c0 c1 c2 c3 c4 c5 c6 c7 a0 a1 a2 a3 a4 a5 a6 a7 = a2 := fun h hw => keep1' (b15_2 h hw)
    have e5 : lkd c4 → n100700_5 v i c0 c1 c2 c3 c4 c5 c6 c7 a0 a1 a2 a3 a4 a5 a6 a7 = c4 := fun h => keep1 (c13_4 h)
    have f4 : lkd c4 → n100700_13 v i c0 c1 c2 c3 c4 c5 c6 c7 a0 a1 a2 a3 a4 a5 a6 a7 = a4 := fun h => keep1' (a15_4 h)
    have g4 : lkd c4 → (r17_0 c4 == 1) = true → n100700_12 v i c0 c1 c2 c3 c4 c5 c6 c7 a0 a1 a2 a3 a4 a5 a6 a7 = a3 := fun h hw => keep1' (b15_3 h hw)
    have e6 : lkd c5 → n100700_6 v i c0 c1 c2 c3 c4 c5 c6 c7 a0 a1 a2 a3 a4 a5 a6 a7 = c5 := fun h => keep1 (c13_5 h)
    have f5 : lkd c5 → n100700_14 v i c0 c1 c2 c3 c4 c5 c6 c7 a0 a1 a2 a3 a4 a5 a6 a7 = a5 := fun h => keep1' (a15_5 h)
    have g5 : lkd c5 → (r17_0 c5 == 1) = true → n100700_13 v i c0 c1 c2 c3 c4 c5 c6 c7 a0 a1 a2 a3 a4 a5 a6 a7 = a4 := fun h hw => keep1' (b15_4 h hw)
    have e7 : lkd c6 → n100700_7 v i c0 c1 c2 c3 c4 c5 c6 c7 a0 a1 a2 a3 a4 a5 a6 a7 = c6 := fun h => keep1 (c13_6 h)
    have f6 : lkd c6 → n100700_15 v i c0 c1 c2 c3 c4 c5 c6 c7 a0 a1 a2 a3 a4 a5 a6 a7 = a6 := fun h => keep1' (a15_6 h)
    have g6 : lkd c6 → (r17_0 c6 == 1) = true → n100700_14 v i c0 c1 c2 c3 c4 c5 c6 c7 a0 a1 a2 a3 a4 a5 a6 a7 = a5 := fun h hw => keep1' (b15_5 h hw)
    have e8 : lkd c7 → n100700_8 v i c0 c1 c2 c3 c4 c5 c6 c7 a0 a1 a2 a3 a4 a5 a6 a7 = c7 := fun h => keep1 (c13_7 h)
    have f7 : lkd c7 → n100700_16 v i c0 c1 c2 c3 c4 c5 c6 c7 a0 a1 a2 a3 a4 a5 a6 a7 = a7 := fun h => keep1' (a15_7 h)
    have g7 : lkd c7 → (r17_0 c7 == 1) = true → n100700_15 v i c0 c1 c2 c3 c4 c5 c6 c7 a0 a1 a2 a3 a4 a5 a6 a7 = a6 := fun h hw => keep1' (b15_6 h hw)
    exact ⟨i', d0, d1, d2, d3, d4, d5, d6, d7, b0, b1, b2, b3, b4, b5, b6, b7, hn.trans h1,
      fun h => by
        obtain ⟨z1, z2⟩ := q0 (by rw [e1 h]; exact h)
        exact ⟨z1.trans (e1 h), z2.trans (f0 h)⟩,
      fun h => by
        obtain ⟨z1, z2, z3⟩ := q1 (by rw [e2 h]; exact h)
        exact ⟨z1.trans (e2 h), z2.trans (f1 h), fun hw => (z3 (by rw [e2 h]; exact hw)).trans (g1 h hw)⟩,
      fun h => by
        obtain ⟨z1, z2, z3⟩ := q2 (by rw [e3 h]; exact h)
        exact ⟨z1.trans (e3 h), z2.trans (f2 h), fun hw => (z3 (by rw [e3 h]; exact hw)).trans (g2 h hw)⟩,
      fun h => by
        obtain ⟨z1, z2, z3⟩ := q3 (by rw [e4 h]; exact h)
        exact ⟨z1.trans (e4 h), z2.trans (f3 h), fun hw => (z3 (by rw [e4 h]; exact hw)).trans (g3 h hw)⟩,
      fun h => by
        obtain ⟨z1, z2, z3⟩ := q4 (by rw [e5 h]; exact h)
        exact ⟨z1.trans (e5 h), z2.trans (f4 h), fun hw => (z3 (by rw [e5 h]; exact hw)).trans (g4 h hw)⟩,
      fun h => by
        obtain ⟨z1, z2, z3⟩ := q5 (by rw [e6 h]; exact h)
        exact ⟨z1.trans (e6 h), z2.trans (f5 h), fun hw => (z3 (by rw [e6 h]; exact hw)).trans (g5 h hw)⟩,
      fun h => by
        obtain ⟨z1, z2, z3⟩ := q6 (by rw [e7 h]; exact h)
        exact ⟨z1.trans (e7 h), z2.trans (f6 h), fun hw => (z3 (by rw [e7 h]; exact hw)).trans (g6 h hw)⟩,
      fun h => by
        obtain ⟨z1, z2, z3⟩ := q7 (by rw [e8 h]; exact h)
        exact ⟨z1.trans (e8 h), z2.trans (f7 h), fun hw => (z3 (by rw [e8 h]; exact hw)).trans (g7 h hw)⟩⟩

noncomputable def gof (o : Option (List DV)) : List DV := .b o.isSome :: [.i (dget (o.getD []) 0).toI, .i (dget (o.getD []) 1).toI, .i (dget (o.getD []) 2).toI, .i (dget (o.getD []) 3).toI, .i (dget (o.getD []) 4).toI, .i (dget (o.getD []) 5).toI, .i (dget (o.getD []) 6).toI, .i (dget (o.getD []) 7).toI, .i (dget (o.getD []) 8).toI, .i (dget (o.getD []) 9).toI, .i (dget (o.getD []) 10).toI, .i (dget (o.getD []) 11).toI, .i (dget (o.getD []) 12).toI, .i (dget (o.getD []) 13).toI, .i (dget (o.getD []) 14).toI, .i (dget (o.getD []) 15).toI, .i (dget (o.getD []) 16).toI, .i (dget (o.getD []) 17).toI]
theorem g_eq (v : List DV) (i c0 c1 c2 c3 c4 c5 c6 c7 a0 a1 a2 a3 a4 a5 a6 a7 : Int) : g100700 (st v i c0 c1 c2 c3 c4 c5 c6 c7 a0 a1 a2 a3 a4 a5 a6 a7) = gof (L100700 v i c0 c1 c2 c3 c4 c5 c6 c7 a0 a1 a2 a3 a4 a5 a6 a7) := rfl
theorem g_ok (v : List DV) (hl : (v.length : Int) < 9223372036854775808) (c0 c1 c2 c3 c4 c5 c6 c7 a0 a1 a2 a3 a4 a5 a6 a7 : Int) : ∃ i' d0 d1 d2 d3 d4 d5 d6 d7 b0 b1 b2 b3 b4 b5 b6 b7 : Int, g100700 (st v 0 c0 c1 c2 c3 c4 c5 c6 c7 a0 a1 a2 a3 a4 a5 a6 a7) = .b true :: .i 0 :: .i i' :: [.i d0, .i d1, .i d2, .i d3, .i d4, .i d5, .i d6, .i d7, .i b0, .i b1, .i b2, .i b3, .i b4, .i b5, .i b6, .i b7] ∧
      (lkd c0 → d0 = c0 ∧ b0 = a0) ∧
      (lkd c1 → d1 = c1 ∧ b1 = a1 ∧ ((r17_0 c1 == 1) = true → b0 = a0)) ∧
      (lkd c2 → d2 = c2 ∧ b2 = a2 ∧ ((r17_0 c2 == 1) = true → b1 = a1)) ∧
      (lkd c3 → d3 = c3 ∧ b3 = a3 ∧ ((r17_0 c3 == 1) = true → b2 = a2)) ∧
      (lkd c4 → d4 = c4 ∧ b4 = a4 ∧ ((r17_0 c4 == 1) = true → b3 = a3)) ∧
      (lkd c5 → d5 = c5 ∧ b5 = a5 ∧ ((r17_0 c5 == 1) = true → b4 = a4)) ∧
      (lkd c6 → d6 = c6 ∧ b6 = a6 ∧ ((r17_0 c6 == 1) = true → b5 = a5)) ∧
      (lkd c7 → d7 = c7 ∧ b7 = a7 ∧ ((r17_0 c7 == 1) = true → b6 = a6)) := by
  obtain ⟨i', d0, d1, d2, d3, d4, d5, d6, d7, b0, b1, b2, b3, b4, b5, b6, b7, h1, hq⟩ := loop_k v hl v.length 0 c0 c1 c2 c3 c4 c5 c6 c7 a0 a1 a2 a3 a4 a5 a6 a7 (by decide) (by omega)
  refine ⟨i', d0, d1, d2, d3, d4, d5, d6, d7, b0, b1, b2, b3, b4, b5, b6, b7, ?_, hq⟩
  rw [g_eq, h1]
  rfl

/-! ### Ranges and accesses -/
noncomputable def from8 (a : Int) : Int := IntKind.wrap .u64 (ishl .u64 (ishr .u64 a (IntKind.wrap .i64 (r18_0 (ilxor .u64 18446744073709551615 a) + 1))) (IntKind.wrap .i64 (r18_0 (ilxor .u64 18446744073709551615 a) + 1)) * 4)
noncomputable def size8 (a : Int) : Int := ishl .u64 1 (IntKind.wrap .i64 (r18_0 (ilxor .u64 18446744073709551615 a) + 3))
noncomputable def none8 (b1 b2 b3 : Bool) : Bool := bif b1 then false else bif b2 then false else !b3
noncomputable def lo8 (q b1 b2 b3 g : Bool) (a e : Int) : Int :=
  bif q then (bif none8 b1 b2 b3 then 0 else bif b1 then (bif !(decide ((bif g then IntKind.wrap .u64 (e * 4) else 0) ≥ IntKind.wrap .u64 (a * 4))) then (bif g then IntKind.wrap .u64 (e * 4) else 0) else 0) else bif b2 then IntKind.wrap .u64 (a * 4) else from8 a) else 0
noncomputable def hi8 (q b1 b2 b3 g : Bool) (a e : Int) : Int :=
  bif q then (bif none8 b1 b2 b3 then 0 else bif b1 then (bif !(decide ((bif g then IntKind.wrap .u64 (e * 4) else 0) ≥ IntKind.wrap .u64 (a * 4))) then IntKind.wrap .u64 (IntKind.wrap .u64 (a * 4) - 1) else 0) else bif b2 then IntKind.wrap .u64 (IntKind.wrap .u64 (a * 4) + 3) else IntKind.wrap .u64 (IntKind.wrap .u64 (from8 a + size8 a) - 1)) else 0
noncomputable def ok8 (q b1 b2 b3 g : Bool) (a e : Int) : Bool :=
  q && (bif none8 b1 b2 b3 then false else bif b1 then !(decide ((bif g then IntKind.wrap .u64 (e * 4) else 0) ≥ IntKind.wrap .u64 (a * 4))) else true)
theorem rng_congr {q b1 b2 b3 g : Bool} {a e e' : Int} (h : b1 = true → e = e') : lo8 q b1 b2 b3 g a e = lo8 q b1 b2 b3 g a e' ∧ hi8 q b1 b2 b3 g a e = hi8 q b1 b2 b3 g a e' ∧ ok8 q b1 b2 b3 g a e = ok8 q b1 b2 b3 g a e' := by
  cases b1
  · exact ⟨rfl, rfl, rfl⟩
  · rw [h rfl]; exact ⟨rfl, rfl, rfl⟩
abbrev sel (l : List Int) (n : Int) : Int := l.getD (Int.toNat n) 0
section
variable (c0 c1 c2 c3 c4 c5 c6 c7 a0 a1 a2 a3 a4 a5 a6 a7 n : Int)
noncomputable abbrev inr8 : Bool := !(decide (n < 0) || decide (n ≥ 8))
theorem r8_0_eq : r8_0 c0 c1 c2 c3 c4 c5 c6 c7 a0 a1 a2 a3 a4 a5 a6 a7 n =
    lo8 (inr8 n) (r17_0 (sel [c0, c1, c2, c3, c4, c5, c6, c7] n) == 1) (r17_0 (sel [c0, c1, c2, c3, c4, c5, c6, c7] n) == 2) (r17_0 (sel [c0, c1, c2, c3, c4, c5, c6, c7] n) == 3) (decide (n > 0))
      (iland .u64 (sel [a0, a1, a2, a3, a4, a5, a6, a7] n) 18014398509481983) (iland .u64 (sel [a0, a1, a2, a3, a4, a5, a6, a7] (IntKind.wrap .i64 (n - 1))) 18014398509481983) := rfl
theorem r8_1_eq : r8_1 c0 c1 c2 c3 c4 c5 c6 c7 a0 a1 a2 a3 a4 a5 a6 a7 n =
    hi8 (inr8 n) (r17_0 (sel [c0, c1, c2, c3, c4, c5, c6, c7] n) == 1) (r17_0 (sel [c0, c1, c2, c3, c4, c5, c6, c7] n) == 2) (r17_0 (sel [c0, c1, c2, c3, c4, c5, c6, c7] n) == 3) (decide (n > 0))
      (iland .u64 (sel [a0, a1, a2, a3, a4, a5, a6, a7] n) 18014398509481983) (iland .u64 (sel [a0, a1, a2, a3, a4, a5, a6, a7] (IntKind.wrap .i64 (n - 1))) 18014398509481983) := rfl
theorem r8_2_eq : r8_2 c0 c1 c2 c3 c4 c5 c6 c7 a0 a1 a2 a3 a4 a5 a6 a7 n =
    ok8 (inr8 n) (r17_0 (sel [c0, c1, c2, c3, c4, c5, c6, c7] n) == 1) (r17_0 (sel [c0, c1, c2, c3, c4, c5, c6, c7] n) == 2) (r17_0 (sel [c0, c1, c2, c3, c4, c5, c6, c7] n) == 3) (decide (n > 0))
      (iland .u64 (sel [a0, a1, a2, a3, a4, a5, a6, a7] n) 18014398509481983) (iland .u64 (sel [a0, a1, a2, a3, a4, a5, a6, a7] (IntKind.wrap .i64 (n - 1))) 18014398509481983) := rfl
end
theorem rng_0 {c0 c1 c2 c3 c4 c5 c6 c7 a0 a1 a2 a3 a4 a5 a6 a7 d0 d1 d2 d3 d4 d5 d6 d7 b0 b1 b2 b3 b4 b5 b6 b7 : Int} (h1 : d0 = c0) (h2 : b0 = a0) : r8_0 d0 d1 d2 d3 d4 d5 d6 d7 b0 b1 b2 b3 b4 b5 b6 b7 0 = r8_0 c0 c1 c2 c3 c4 c5 c6 c7 a0 a1 a2 a3 a4 a5 a6 a7 0 ∧ r8_1 d0 d1 d2 d3 d4 d5 d6 d7 b0 b1 b2 b3 b4 b5 b6 b7 0 = r8_1 c0 c1 c2 c3 c4 c5 c6 c7 a0 a1 a2 a3 a4 a5 a6 a7 0 ∧ r8_2 d0 d1 d2 d3 d4 d5 d6 d7 b0 b1 b2 b3 b4 b5 b6 b7 0 = r8_2 c0 c1 c2 c3 c4 c5 c6 c7 a0 a1 a2 a3 a4 a5 a6 a7 0 := by
  rw [r8_0_eq, r8_1_eq, r8_2_eq, r8_0_eq, r8_1_eq, r8_2_eq]
  subst h1 h2
  exact rng_congr (q := inr8 0) (g := decide ((0 : Int) > 0)) fun hw => rfl
theorem rng_1 {c0 c1 c2 c3 c4 c5 c6 c7 a0 a1 a2 a3 a4 a5 a6 a7 d0 d1 d2 d3 d4 d5 d6 d7 b0 b1 b2 b3 b4 b5 b6 b7 : Int} (h1 : d1 = c1) (h2 : b1 = a1) (h3 : (r17_0 c1 == 1) = true → b0 = a0) : r8_0 d0 d1 d2 d3 d4 d5 d6 d7 b0 b1 b2 b3 b4 b5 b6 b7 1 = r8_0 c0 c1 c2 c3 c4 c5 c6 c7 a0 a1 a2 a3 a4 a5 a6 a7 1 ∧ r8_1 d0 d1 d2 d3 d4 d5 d6 d7 b0 b1 b2 b3 b4 b5 b6 b7 1 = r8_1 c0 c1 c2 c3 c4 c5 c6 c7 a0 a1 a2 a3 a4 a5 a6 a7 1 ∧ r8_2 d0 d1 d2 d3 d4 d5 d6 d7 b0 b1 b2 b3 b4 b5 b6 b7 1 = r8_2 c0 c1 c2 c3 c4 c5 c6 c7 a0 a1 a2 a3 a4 a5 a6 a7 1 := by
  rw [r8_0_eq, r8_1_eq, r8_2_eq, r8_0_eq, r8_1_eq, r8_2_eq]
  subst h1 h2
  exact rng_congr (q := inr8 1) (g := decide ((1 : Int) > 0)) fun hw => congrArg (fun z => iland .u64 z 18014398509481983) (h3 hw)
theorem rng_2 {c0 c1 c2 c3 c4 c5 c6 c7 a0 a1 a2 a3 a4 a5 a6 a7 d0 d1 d2 d3 d4 d5 d6 d7 b0 b1 b2 b3 b4 b5 b6 b7 : Int} (h1 : d2 = c2) (h2 : b2 = a2) (h3 : (r17_0 c2 == 1) = true → b1 = a1) : r8_0 d0 d1 d2 d3 d4 d5 d6 d7 b0 b1 b2 b3 b4 b5 b6 b7 2 = r8_0 c0 c1 c2 c3 c4 c5 c6 c7 a0 a1 a2 a3 a4 a5 a6 a7 2 ∧ r8_1 d0 d1 d2 d3 d4 d5 d6 d7 b0 b1 b2 b3 b4 b5 b6 b7 2 = r8_1 c0 c1 c2 c3 c4 c5 c6 c7 a0 a1 a2 a3 a4 a5 a6 a7 2 ∧ r8_2 d0 d1 d2 d3 d4 d5 d6 d7 b0 b1 b2 b3 b4 b5 b6 b7 2 = r8_2 c0 c1 c2 c3 c4 c5 c6 c7 a0 a1 a2 a3 a4 a5 a6 a7 2 := by
  rw [r8_0_eq, r8_1_eq, r8_2_eq, r8_0_eq, r8_1_eq, r8_2_eq]
  subst h1 h2
  exact rng_congr (q := inr8 2) (g := decide ((2 : Int) > 0)) fun hw => congrArg (fun z => iland .u64 z 18014398509481983) (h3 hw)
theorem rng_3 {c0 c1 c2 c3 c4 c5 c6 c7 a0 a1 a2 a3 a4 a5 a6 a7 d0 d1 d2 d3 d4 d5 d6 d7 b0 b1 b2 b3 b4 b5 b6 b7 : Int} (h1 : d3 = c3) (h2 : b3 = a3) (h3 : (r17_0 c3 == 1) = true → b2 = a2) : r8_0 d0 d1 d2 d3 d4 d5 d6 d7 b0 b1 b2 b3 b4 b5 b6 b7 3 = r8_0 c0 c1 c2 c3 c4 c5 c6 c7 a0 a1 a2 a3 a4 a5 a6 a7 3 ∧ r8_1 d0 d1 d2 d3 d4 d5 d6 d7 b0 b1 b2 b3 b4 b5 b6 b7 3 = r8_1 c0 c1 c2 c3 c4 c5 c6 c7 a0 a1 a2 a3 a4 a5 a6 a7 3 ∧ r8_2 d0 d1 d2 d3 d4 d5 d6 d7 b0 b1 b2 b3 b4 b5 b6 b7 3 = r8_2 c0 c1 c2 c3 c4 c5 c6 c7 a0 a1 a2 a3 a4 a5 a6 a7 3 := by
  rw [r8_0_eq, r8_1_eq, r8_2_eq, r8_0_eq, r8_1_eq, r8_2_eq]
  subst h1 h2
  exact rng_congr (q := inr8 3) (g := decide ((3 : Int) > 0)) fun hw => congrArg (fun z => iland .u64 z 18014398509481983) (h3 hw)
theorem rng_4 {c0 c1 c2 c3 c4 c5 c6 c7 a0 a1 a2 a3 a4 a5 a6 a7 d0 d1 d2 d3 d4 d5 d6 d7 b0 b1 b2 b3 b4 b5 b6 b7 : Int} (h1 : d4 = c4) (h2 : b4 = a4) (h3 : (r17_0 c4 == 1) = true → b3 = a3) : r8_0 d0 d1 d2 d3 d4 d5 d6 d7 b0 b1 b2 b3 b4 b5 b6 b7 4 = r8_0 c0 c1 c2 c3 c4 c5 c6 c7 a0 a1 a2 a3 a4 a5 a6 a7 4 ∧ r8_1 d0 d1 d2 d3 d4 d5 d6 d7 b0 b1 b2 b3 b4 b5 b6 b7 4 = r8_1 c0 c1 c2 c3 c4 c5 c6 c7 a0 a1 a2 a3 a4 a5 a6 a7 4 ∧ r8_2 d0 d1 d2 d3 d4 d5 d6 d7 b0 b1 b2 b3 b4 b5 b6 b7 4 = r8_2 c0 c1 c2 c3 c4 c5 c6 c7 a0 a1 a2 a3 a4 a5 a6 a7 4 := by
  rw [r8_0_eq, r8_1_eq, r8_2_eq, r8_0_eq, r8_1_eq, r8_2_eq]
  subst h1 h2
  exact rng_congr (q := inr8 4) (g := decide ((4 : Int) > 0)) fun hw => congrArg (fun z => iland .u64 z 18014398509481983) (h3 hw)
theorem rng_5 {c0 c1 c2 c3 c4 c5 c6 c7 a0 a1 a2 a3 a4 a5 a6 a7 d0 d1 d2 d3 d4 d5 d6 d7 b0 b1 b2 b3 b4 b5 b6 b7 : Int} (h1 : d5 = c5) (h2 : b5 = a5) (h3 : (r17_0 c5 == 1) = true → b4 = a4) : r8_0 d0 d1 d2 d3 d4 d5 d6 d7 b0 b1 b2 b3 b4 b5 b6 b7 5 = r8_0 c0 c1 c2 c3 c4 c5 c6 c7 a0 a1 a2 a3 a4 a5 a6 a7 5 ∧ r8_1 d0 d1 d2 d3 d4 d5 d6 d7 b0 b1 b2 b3 b4 b5 b6 b7 5 = r8_1 c0 c1 c2 c3 c4 c5 c6 c7 a0 a1 a2 a3 a4 a5 a6 a7 5 ∧ r8_2 d0 d1 d2 d3 d4 d5 d6 d7 b0 b1 b2 b3 b4 b5 b6 b7 5 = r8_2 c0 c1 c2 c3 c4 c5 c6 c7 a0 a1 a2 a3 a4 a5 a6 a7 5 := by
  rw [r8_0_eq, r8_1_eq, r8_2_eq, r8_0_eq, r8_1_eq, r8_2_eq]
  subst h1 h2
  exact rng_congr (q := inr8 5) (g := decide ((5 : Int) > 0)) fun hw => congrArg (fun z => iland .u64 z 18014398509481983) (h3 hw)
theorem rng_6 {c0 c1 c2 c3 c4 c5 c6 c7 a0 a1 a2 a3 a4 a5 a6 a7 d0 d1 d2 d3 d4 d5 d6 d7 b0 b1 b2 b3 b4 b5 b6 b7 : Int} (h1 : d6 = c6) (h2 : b6 = a6) (h3 : (r17_0 c6 == 1) = true → b5 = a5) : r8_0 d0 d1 d2 d3 d4 d5 d6 d7 b0 b1 b2 b3 b4 b5 b6 b7 6 = r8_0 c0 c1 c2 c3 c4 c5 c6 c7 a0 a1 a2 a3 a4 a5 a6 a7 6 ∧ r8_1 d0 d1 d2 d3 d4 d5 d6 d7 b0 b1 b2 b3 b4 b5 b6 b7 6 = r8_1 c0 c1 c2 c3 c4 c5 c6 c7 a0 a1 a2 a3 a4 a5 a6 a7 6 ∧ r8_2 d0 d1 d2 d3 d4 d5 d6 d7 b0 b1 b2 b3 b4 b5 b6 b7 6 = r8_2 c0 c1 c2 c3 c4 c5 c6 c7 a0 a1 a2 a3 a4 a5 a6 a7 6 := by
  rw [r8_0_eq, r8_1_eq, r8_2_eq, r8_0_eq, r8_1_eq, r8_2_eq]
  subst h1 h2
  exact rng_congr (q := inr8 6) (g := decide ((6 : Int) > 0)) fun hw => congrArg (fun z => iland .u64 z 18014398509481983) (h3 hw)
theorem rng_7 {c0 c1 c2 c3 c4 c5 c6 c7 a0 a1 a2 a3 a4 a5 a6 a7 d0 d1 d2 d3 d4 d5 d6 d7 b0 b1 b2 b3 b4 b5 b6 b7 : Int} (h1 : d7 = c7) (h2 : b7 = a7) (h3 : (r17_0 c7 == 1) = true → b6 = a6) : r8_0 d0 d1 d2 d3 d4 d5 d6 d7 b0 b1 b2 b3 b4 b5 b6 b7 7 = r8_0 c0 c1 c2 c3 c4 c5 c6 c7 a0 a1 a2 a3 a4 a5 a6 a7 7 ∧ r8_1 d0 d1 d2 d3 d4 d5 d6 d7 b0 b1 b2 b3 b4 b5 b6 b7 7 = r8_1 c0 c1 c2 c3 c4 c5 c6 c7 a0 a1 a2 a3 a4 a5 a6 a7 7 ∧ r8_2 d0 d1 d2 d3 d4 d5 d6 d7 b0 b1 b2 b3 b4 b5 b6 b7 7 = r8_2 c0 c1 c2 c3 c4 c5 c6 c7 a0 a1 a2 a3 a4 a5 a6 a7 7 := by
  rw [r8_0_eq, r8_1_eq, r8_2_eq, r8_0_eq, r8_1_eq, r8_2_eq]
  subst h1 h2
  exact rng_congr (q := inr8 7) (g := decide ((7 : Int) > 0)) fun hw => congrArg (fun z => iland .u64 z 18014398509481983) (h3 hw)

def dec8 (m h0 h1 h2 h3 h4 h5 h6 h7 v0 v1 v2 v3 v4 v5 v6 v7 : Bool) : Bool :=
  bif !h0 && (!h1 && (!h2 && (!h3 && (!h4 && (!h5 && (!h6 && !h7)))))) then m else bif !h0 then bif !h1 then bif !h2 then bif !h3 then bif !h4 then bif !h5 then bif !h6 then v7 else v6 else v5 else v4 else v3 else v2 else v1 else v0
theorem dec8_0 {m h0 h1 h2 h3 h4 h5 h6 h7 v0 v1 v2 v3 v4 v5 v6 v7 : Bool} (h : h0 = true) : dec8 m h0 h1 h2 h3 h4 h5 h6 h7 v0 v1 v2 v3 v4 v5 v6 v7 = v0 := by subst h; rfl
def hit8 (lo hi : Int) (ok : Bool) (at0 last : Int) : Bool := !((!ok || decide (last < lo)) || decide (at0 > hi))
noncomputable def say8 (lo hi : Int) (at0 last : Int) (m3 : Bool) (c need : Int) : Bool := !(decide (at0 < lo) || decide (last > hi)) && ((m3 && (iland .u8 c 128 == 0)) || (iland .u8 c need == need))
noncomputable def last8 (at0 sz : Int) : Int := IntKind.wrap .u64 (IntKind.wrap .u64 (at0 + IntKind.wrap .u64 sz) - 1)
noncomputable def may8 (kind at0 sz : Int) : Bool := !((r21_0 kind == 0) || decide (last8 at0 sz < at0))
def size_ok (sz : Int) : Bool := bif sz == 1 then sz == 1 else bif sz == 2 then sz == 2 else bif sz == 4 then sz == 4 else sz == 8

theorem r11_eq (c0 c1 c2 c3 c4 c5 c6 c7 a0 a1 a2 a3 a4 a5 a6 a7 mode kind at0 sz : Int) : r11_0 c0 c1 c2 c3 c4 c5 c6 c7 a0 a1 a2 a3 a4 a5 a6 a7 mode kind at0 sz = (size_ok sz && (may8 kind at0 sz && dec8 (mode == 3) (hit8 (r8_0 c0 c1 c2 c3 c4 c5 c6 c7 a0 a1 a2 a3 a4 a5 a6 a7 0) (r8_1 c0 c1 c2 c3 c4 c5 c6 c7 a0 a1 a2 a3 a4 a5 a6 a7 0) (r8_2 c0 c1 c2 c3 c4 c5 c6 c7 a0 a1 a2 a3 a4 a5 a6 a7 0) at0 (last8 at0 sz)) (hit8 (r8_0 c0 c1 c2 c3 c4 c5 c6 c7 a0 a1 a2 a3 a4 a5 a6 a7 1) (r8_1 c0 c1 c2 c3 c4 c5 c6 c7 a0 a1 a2 a3 a4 a5 a6 a7 1) (r8_2 c0 c1 c2 c3 c4 c5 c6 c7 a0 a1 a2 a3 a4 a5 a6 a7 1) at0 (last8 at0 sz)) (hit8 (r8_0 c0 c1 c2 c3 c4 c5 c6 c7 a0 a1 a2 a3 a4 a5 a6 a7 2) (r8_1 c0 c1 c2 c3 c4 c5 c6 c7 a0 a1 a2 a3 a4 a5 a6 a7 2) (r8_2 c0 c1 c2 c3 c4 c5 c6 c7 a0 a1 a2 a3 a4 a5 a6 a7 2) at0 (last8 at0 sz)) (hit8 (r8_0 c0 c1 c2 c3 c4 c5 c6 c7 a0 a1 a2 a3 a4 a5 a6 a7 3) (r8_1 c0 c1 c2 c3 c4 c5 c6 c7 a0 a1 a2 a3 a4 a5 a6 a7 3) (r8_2 c0 c1 c2 c3 c4 c5 c6 c7 a0 a1 a2 a3 a4 a5 a6 a7 3) at0 (last8 at0 sz)) (hit8 (r8_0 c0 c1 c2 c3 c4 c5 c6 c7 a0 a1 a2 a3 a4 a5 a6 a7 4) (r8_1 c0 c1 c2 c3 c4 c5 c6 c7 a0 a1 a2 a3 a4 a5 a6 a7 4) (r8_2 c0 c1 c2 c3 c4 c5 c6 c7 a0 a1 a2 a3 a4 a5 a6 a7 4) at0 (last8 at0 sz)) (hit8 (r8_0 c0 c1 c2 c3 c4 c5 c6 c7 a0 a1 a2 a3 a4 a5 a6 a7 5) (r8_1 c0 c1 c2 c3 c4 c5 c6 c7 a0 a1 a2 a3 a4 a5 a6 a7 5) (r8_2 c0 c1 c2 c3 c4 c5 c6 c7 a0 a1 a2 a3 a4 a5 a6 a7 5) at0 (last8 at0 sz)) (hit8 (r8_0 c0 c1 c2 c3 c4 c5 c6 c7 a0 a1 a2 a3 a4 a5 a6 a7 6) (r8_1 c0 c1 c2 c3 c4 c5 c6 c7 a0 a1 a2 a3 a4 a5 a6 a7 6) (r8_2 c0 c1 c2 c3 c4 c5 c6 c7 a0 a1 a2 a3 a4 a5 a6 a7 6) at0 (last8 at0 sz)) (hit8 (r8_0 c0 c1 c2 c3 c4 c5 c6 c7 a0 a1 a2 a3 a4 a5 a6 a7 7) (r8_1 c0 c1 c2 c3 c4 c5 c6 c7 a0 a1 a2 a3 a4 a5 a6 a7 7) (r8_2 c0 c1 c2 c3 c4 c5 c6 c7 a0 a1 a2 a3 a4 a5 a6 a7 7) at0 (last8 at0 sz)) (say8 (r8_0 c0 c1 c2 c3 c4 c5 c6 c7 a0 a1 a2 a3 a4 a5 a6 a7 0) (r8_1 c0 c1 c2 c3 c4 c5 c6 c7 a0 a1 a2 a3 a4 a5 a6 a7 0) at0 (last8 at0 sz) (mode == 3) c0 (r21_0 kind)) (say8 (r8_0 c0 c1 c2 c3 c4 c5 c6 c7 a0 a1 a2 a3 a4 a5 a6 a7 1) (r8_1 c0 c1 c2 c3 c4 c5 c6 c7 a0 a1 a2 a3 a4 a5 a6 a7 1) at0 (last8 at0 sz) (mode == 3) c1 (r21_0 kind)) (say8 (r8_0 c0 c1 c2 c3 c4 c5 c6 c7 a0 a1 a2 a3 a4 a5 a6 a7 2) (r8_1 c0 c1 c2 c3 c4 c5 c6 c7 a0 a1 a2 a3 a4 a5 a6 a7 2) at0 (last8 at0 sz) (mode == 3) c2 (r21_0 kind)) (say8 (r8_0 c0 c1 c2 c3 c4 c5 c6 c7 a0 a1 a2 a3 a4 a5 a6 a7 3) (r8_1 c0 c1 c2 c3 c4 c5 c6 c7 a0 a1 a2 a3 a4 a5 a6 a7 3) at0 (last8 at0 sz) (mode == 3) c3 (r21_0 kind)) (say8 (r8_0 c0 c1 c2 c3 c4 c5 c6 c7 a0 a1 a2 a3 a4 a5 a6 a7 4) (r8_1 c0 c1 c2 c3 c4 c5 c6 c7 a0 a1 a2 a3 a4 a5 a6 a7 4) at0 (last8 at0 sz) (mode == 3) c4 (r21_0 kind)) (say8 (r8_0 c0 c1 c2 c3 c4 c5 c6 c7 a0 a1 a2 a3 a4 a5 a6 a7 5) (r8_1 c0 c1 c2 c3 c4 c5 c6 c7 a0 a1 a2 a3 a4 a5 a6 a7 5) at0 (last8 at0 sz) (mode == 3) c5 (r21_0 kind)) (say8 (r8_0 c0 c1 c2 c3 c4 c5 c6 c7 a0 a1 a2 a3 a4 a5 a6 a7 6) (r8_1 c0 c1 c2 c3 c4 c5 c6 c7 a0 a1 a2 a3 a4 a5 a6 a7 6) at0 (last8 at0 sz) (mode == 3) c6 (r21_0 kind)) (say8 (r8_0 c0 c1 c2 c3 c4 c5 c6 c7 a0 a1 a2 a3 a4 a5 a6 a7 7) (r8_1 c0 c1 c2 c3 c4 c5 c6 c7 a0 a1 a2 a3 a4 a5 a6 a7 7) at0 (last8 at0 sz) (mode == 3) c7 (r21_0 kind)))) := rfl
/-- The first entry decides, where it has the access's first byte. -/
theorem chk_0 {c0 c1 c2 c3 c4 c5 c6 c7 a0 a1 a2 a3 a4 a5 a6 a7 mode kind at0 sz : Int} (ho : r8_2 c0 c1 c2 c3 c4 c5 c6 c7 a0 a1 a2 a3 a4 a5 a6 a7 0 = true) (h1 : r8_0 c0 c1 c2 c3 c4 c5 c6 c7 a0 a1 a2 a3 a4 a5 a6 a7 0 ≤ at0) (h2 : at0 ≤ r8_1 c0 c1 c2 c3 c4 c5 c6 c7 a0 a1 a2 a3 a4 a5 a6 a7 0) :
    r11_0 c0 c1 c2 c3 c4 c5 c6 c7 a0 a1 a2 a3 a4 a5 a6 a7 mode kind at0 sz = (size_ok sz && (may8 kind at0 sz && say8 (r8_0 c0 c1 c2 c3 c4 c5 c6 c7 a0 a1 a2 a3 a4 a5 a6 a7 0) (r8_1 c0 c1 c2 c3 c4 c5 c6 c7 a0 a1 a2 a3 a4 a5 a6 a7 0) at0 (last8 at0 sz) (mode == 3) c0 (r21_0 kind))) := by
  rw [r11_eq]
  cases hm : may8 kind at0 sz
  · rfl
  · rw [dec8_0]
    have hm' : ¬ (last8 at0 sz < at0) := by
      intro h
      have : decide (last8 at0 sz < at0) = true := decide_eq_true h
      simp [may8, this] at hm
    unfold hit8
    rw [ho]
    simp
    omega

/-! ### The law -/
def fin7 (fx : Bool) (n at0 sz lo hi : Int) (ok : Bool) (x y : Int) (is : Bool) (cn kn : Int) (ch ch' : Bool) : Bool :=
  !(!fx) && (!(((cn != kn || x != lo) || y != hi) || is != ok) && (bif !(((((decide (n > 0) || !ok) || decide (sz < 1)) || decide (sz > 8)) || decide (at0 < lo)) || decide (at0 > hi)) then ch == ch' else true))
theorem fin7_ok {fx : Bool} {n at0 sz lo hi : Int} {ok : Bool} {x y : Int} {is : Bool} {cn kn : Int} {ch ch' : Bool} (hf : fx = true) (h1 : cn = kn) (h2 : x = lo) (h3 : y = hi) (h4 : is = ok)
    (h5 : ¬ (n > 0) → ok = true → lo ≤ at0 → at0 ≤ hi → ch = ch') : fin7 fx n at0 sz lo hi ok x y is cn kn ch ch' = true := by
  subst hf h1 h2 h3 h4
  unfold fin7
  cases hc : (((((decide (n > 0) || !is) || decide (sz < 1)) || decide (sz > 8)) || decide (at0 < x)) || decide (at0 > y))
  · simp at hc
    have := h5 (by omega) hc.1.1.1.1.2 (by omega) (by omega)
    subst this
    simp
  · simp
def nn (n : Int) : Int := bif decide (n < 0) || decide (n ≥ 8) then 0 else n
def lw (l : List Int) (n : Int) : Int := ilor .u8 (l.getD (Int.toNat (nn n)) 0) 128
def lk (j x w n : Int) : Int := bif nn n == j then w else x

noncomputable def body7 (c0 c1 c2 c3 c4 c5 c6 c7 a0 a1 a2 a3 a4 a5 a6 a7 : Int) (v : List DV) (n mode kind at0 sz : Int) : Bool :=
  fin7 r10_0 n at0 sz (r8_0 c0 c1 c2 c3 c4 c5 c6 c7 a0 a1 a2 a3 a4 a5 a6 a7 n) (r8_1 c0 c1 c2 c3 c4 c5 c6 c7 a0 a1 a2 a3 a4 a5 a6 a7 n) (r8_2 c0 c1 c2 c3 c4 c5 c6 c7 a0 a1 a2 a3 a4 a5 a6 a7 n)
    (r8_0 (dget (g100700 (st v 0 c0 c1 c2 c3 c4 c5 c6 c7 a0 a1 a2 a3 a4 a5 a6 a7)) 3).toI (dget (g100700 (st v 0 c0 c1 c2 c3 c4 c5 c6 c7 a0 a1 a2 a3 a4 a5 a6 a7)) 4).toI (dget (g100700 (st v 0 c0 c1 c2 c3 c4 c5 c6 c7 a0 a1 a2 a3 a4 a5 a6 a7)) 5).toI (dget (g100700 (st v 0 c0 c1 c2 c3 c4 c5 c6 c7 a0 a1 a2 a3 a4 a5 a6 a7)) 6).toI (dget (g100700 (st v 0 c0 c1 c2 c3 c4 c5 c6 c7 a0 a1 a2 a3 a4 a5 a6 a7)) 7).toI (dget (g100700 (st v 0 c0 c1 c2 c3 c4 c5 c6 c7 a0 a1 a2 a3 a4 a5 a6 a7)) 8).toI (dget (g100700 (st v 0 c0 c1 c2 c3 c4 c5 c6 c7 a0 a1 a2 a3 a4 a5 a6 a7)) 9).toI (dget (g100700 (st v 0 c0 c1 c2 c3 c4 c5 c6 c7 a0 a1 a2 a3 a4 a5 a6 a7)) 10).toI (dget (g100700 (st v 0 c0 c1 c2 c3 c4 c5 c6 c7 a0 a1 a2 a3 a4 a5 a6 a7)) 11).toI (dget (g100700 (st v 0 c0 c1 c2 c3 c4 c5 c6 c7 a0 a1 a2 a3 a4 a5 a6 a7)) 12).toI (dget (g100700 (st v 0 c0 c1 c2 c3 c4 c5 c6 c7 a0 a1 a2 a3 a4 a5 a6 a7)) 13).toI (dget (g100700 (st v 0 c0 c1 c2 c3 c4 c5 c6 c7 a0 a1 a2 a3 a4 a5 a6 a7)) 14).toI (dget (g100700 (st v 0 c0 c1 c2 c3 c4 c5 c6 c7 a0 a1 a2 a3 a4 a5 a6 a7)) 15).toI (dget (g100700 (st v 0 c0 c1 c2 c3 c4 c5 c6 c7 a0 a1 a2 a3 a4 a5 a6 a7)) 16).toI (dget (g100700 (st v 0 c0 c1 c2 c3 c4 c5 c6 c7 a0 a1 a2 a3 a4 a5 a6 a7)) 17).toI (dget (g100700 (st v 0 c0 c1 c2 c3 c4 c5 c6 c7 a0 a1 a2 a3 a4 a5 a6 a7)) 18).toI n) (r8_1 (dget (g100700 (st v 0 c0 c1 c2 c3 c4 c5 c6 c7 a0 a1 a2 a3 a4 a5 a6 a7)) 3).toI (dget (g100700 (st v 0 c0 c1 c2 c3 c4 c5 c6 c7 a0 a1 a2 a3 a4 a5 a6 a7)) 4).toI (dget (g100700 (st v 0 c0 c1 c2 c3 c4 c5 c6 c7 a0 a1 a2 a3 a4 a5 a6 a7)) 5).toI (dget (g100700 (st v 0 c0 c1 c2 c3 c4 c5 c6 c7 a0 a1 a2 a3 a4 a5 a6 a7)) 6).toI (dget (g100700 (st v 0 c0 c1 c2 c3 c4 c5 c6 c7 a0 a1 a2 a3 a4 a5 a6 a7)) 7).toI (dget (g100700 (st v 0 c0 c1 c2 c3 c4 c5 c6 c7 a0 a1 a2 a3 a4 a5 a6 a7)) 8).toI (dget (g100700 (st v 0 c0 c1 c2 c3 c4 c5 c6 c7 a0 a1 a2 a3 a4 a5 a6 a7)) 9).toI (dget (g100700 (st v 0 c0 c1 c2 c3 c4 c5 c6 c7 a0 a1 a2 a3 a4 a5 a6 a7)) 10).toI (dget (g100700 (st v 0 c0 c1 c2 c3 c4 c5 c6 c7 a0 a1 a2 a3 a4 a5 a6 a7)) 11).toI (dget (g100700 (st v 0 c0 c1 c2 c3 c4 c5 c6 c7 a0 a1 a2 a3 a4 a5 a6 a7)) 12).toI (dget (g100700 (st v 0 c0 c1 c2 c3 c4 c5 c6 c7 a0 a1 a2 a3 a4 a5 a6 a7)) 13).toI (dget (g100700 (st v 0 c0 c1 c2 c3 c4 c5 c6 c7 a0 a1 a2 a3 a4 a5 a6 a7)) 14).toI (dget (g100700 (st v 0 c0 c1 c2 c3 c4 c5 c6 c7 a0 a1 a2 a3 a4 a5 a6 a7)) 15).toI (dget (g100700 (st v 0 c0 c1 c2 c3 c4 c5 c6 c7 a0 a1 a2 a3 a4 a5 a6 a7)) 16).toI (dget (g100700 (st v 0 c0 c1 c2 c3 c4 c5 c6 c7 a0 a1 a2 a3 a4 a5 a6 a7)) 17).toI (dget (g100700 (st v 0 c0 c1 c2 c3 c4 c5 c6 c7 a0 a1 a2 a3 a4 a5 a6 a7)) 18).toI n) (r8_2 (dget (g100700 (st v 0 c0 c1 c2 c3 c4 c5 c6 c7 a0 a1 a2 a3 a4 a5 a6 a7)) 3).toI (dget (g100700 (st v 0 c0 c1 c2 c3 c4 c5 c6 c7 a0 a1 a2 a3 a4 a5 a6 a7)) 4).toI (dget (g100700 (st v 0 c0 c1 c2 c3 c4 c5 c6 c7 a0 a1 a2 a3 a4 a5 a6 a7)) 5).toI (dget (g100700 (st v 0 c0 c1 c2 c3 c4 c5 c6 c7 a0 a1 a2 a3 a4 a5 a6 a7)) 6).toI (dget (g100700 (st v 0 c0 c1 c2 c3 c4 c5 c6 c7 a0 a1 a2 a3 a4 a5 a6 a7)) 7).toI (dget (g100700 (st v 0 c0 c1 c2 c3 c4 c5 c6 c7 a0 a1 a2 a3 a4 a5 a6 a7)) 8).toI (dget (g100700 (st v 0 c0 c1 c2 c3 c4 c5 c6 c7 a0 a1 a2 a3 a4 a5 a6 a7)) 9).toI (dget (g100700 (st v 0 c0 c1 c2 c3 c4 c5 c6 c7 a0 a1 a2 a3 a4 a5 a6 a7)) 10).toI (dget (g100700 (st v 0 c0 c1 c2 c3 c4 c5 c6 c7 a0 a1 a2 a3 a4 a5 a6 a7)) 11).toI (dget (g100700 (st v 0 c0 c1 c2 c3 c4 c5 c6 c7 a0 a1 a2 a3 a4 a5 a6 a7)) 12).toI (dget (g100700 (st v 0 c0 c1 c2 c3 c4 c5 c6 c7 a0 a1 a2 a3 a4 a5 a6 a7)) 13).toI (dget (g100700 (st v 0 c0 c1 c2 c3 c4 c5 c6 c7 a0 a1 a2 a3 a4 a5 a6 a7)) 14).toI (dget (g100700 (st v 0 c0 c1 c2 c3 c4 c5 c6 c7 a0 a1 a2 a3 a4 a5 a6 a7)) 15).toI (dget (g100700 (st v 0 c0 c1 c2 c3 c4 c5 c6 c7 a0 a1 a2 a3 a4 a5 a6 a7)) 16).toI (dget (g100700 (st v 0 c0 c1 c2 c3 c4 c5 c6 c7 a0 a1 a2 a3 a4 a5 a6 a7)) 17).toI (dget (g100700 (st v 0 c0 c1 c2 c3 c4 c5 c6 c7 a0 a1 a2 a3 a4 a5 a6 a7)) 18).toI n)
    ([(dget (g100700 (st v 0 c0 c1 c2 c3 c4 c5 c6 c7 a0 a1 a2 a3 a4 a5 a6 a7)) 3).toI, (dget (g100700 (st v 0 c0 c1 c2 c3 c4 c5 c6 c7 a0 a1 a2 a3 a4 a5 a6 a7)) 4).toI, (dget (g100700 (st v 0 c0 c1 c2 c3 c4 c5 c6 c7 a0 a1 a2 a3 a4 a5 a6 a7)) 5).toI, (dget (g100700 (st v 0 c0 c1 c2 c3 c4 c5 c6 c7 a0 a1 a2 a3 a4 a5 a6 a7)) 6).toI, (dget (g100700 (st v 0 c0 c1 c2 c3 c4 c5 c6 c7 a0 a1 a2 a3 a4 a5 a6 a7)) 7).toI, (dget (g100700 (st v 0 c0 c1 c2 c3 c4 c5 c6 c7 a0 a1 a2 a3 a4 a5 a6 a7)) 8).toI, (dget (g100700 (st v 0 c0 c1 c2 c3 c4 c5 c6 c7 a0 a1 a2 a3 a4 a5 a6 a7)) 9).toI, (dget (g100700 (st v 0 c0 c1 c2 c3 c4 c5 c6 c7 a0 a1 a2 a3 a4 a5 a6 a7)) 10).toI].getD (Int.toNat n) 0) ([c0, c1, c2, c3, c4, c5, c6, c7].getD (Int.toNat n) 0)
    (r11_0 (dget (g100700 (st v 0 c0 c1 c2 c3 c4 c5 c6 c7 a0 a1 a2 a3 a4 a5 a6 a7)) 3).toI (dget (g100700 (st v 0 c0 c1 c2 c3 c4 c5 c6 c7 a0 a1 a2 a3 a4 a5 a6 a7)) 4).toI (dget (g100700 (st v 0 c0 c1 c2 c3 c4 c5 c6 c7 a0 a1 a2 a3 a4 a5 a6 a7)) 5).toI (dget (g100700 (st v 0 c0 c1 c2 c3 c4 c5 c6 c7 a0 a1 a2 a3 a4 a5 a6 a7)) 6).toI (dget (g100700 (st v 0 c0 c1 c2 c3 c4 c5 c6 c7 a0 a1 a2 a3 a4 a5 a6 a7)) 7).toI (dget (g100700 (st v 0 c0 c1 c2 c3 c4 c5 c6 c7 a0 a1 a2 a3 a4 a5 a6 a7)) 8).toI (dget (g100700 (st v 0 c0 c1 c2 c3 c4 c5 c6 c7 a0 a1 a2 a3 a4 a5 a6 a7)) 9).toI (dget (g100700 (st v 0 c0 c1 c2 c3 c4 c5 c6 c7 a0 a1 a2 a3 a4 a5 a6 a7)) 10).toI (dget (g100700 (st v 0 c0 c1 c2 c3 c4 c5 c6 c7 a0 a1 a2 a3 a4 a5 a6 a7)) 11).toI (dget (g100700 (st v 0 c0 c1 c2 c3 c4 c5 c6 c7 a0 a1 a2 a3 a4 a5 a6 a7)) 12).toI (dget (g100700 (st v 0 c0 c1 c2 c3 c4 c5 c6 c7 a0 a1 a2 a3 a4 a5 a6 a7)) 13).toI (dget (g100700 (st v 0 c0 c1 c2 c3 c4 c5 c6 c7 a0 a1 a2 a3 a4 a5 a6 a7)) 14).toI (dget (g100700 (st v 0 c0 c1 c2 c3 c4 c5 c6 c7 a0 a1 a2 a3 a4 a5 a6 a7)) 15).toI (dget (g100700 (st v 0 c0 c1 c2 c3 c4 c5 c6 c7 a0 a1 a2 a3 a4 a5 a6 a7)) 16).toI (dget (g100700 (st v 0 c0 c1 c2 c3 c4 c5 c6 c7 a0 a1 a2 a3 a4 a5 a6 a7)) 17).toI (dget (g100700 (st v 0 c0 c1 c2 c3 c4 c5 c6 c7 a0 a1 a2 a3 a4 a5 a6 a7)) 18).toI mode kind at0 sz) (r11_0 c0 c1 c2 c3 c4 c5 c6 c7 a0 a1 a2 a3 a4 a5 a6 a7 mode kind at0 sz)
theorem r7_eq (x0 x1 x2 x3 x4 x5 x6 x7 x8 x9 x10 x11 x12 x13 x14 x15 : Int) (x16 : List DV) (x17 x18 x19 x20 x21 : Int) : r7_0 x0 x1 x2 x3 x4 x5 x6 x7 x8 x9 x10 x11 x12 x13 x14 x15 x16 x17 x18 x19 x20 x21 = body7 (lk 0 x0 (lw [x0, x1, x2, x3, x4, x5, x6, x7] x17) x17) (lk 1 x1 (lw [x0, x1, x2, x3, x4, x5, x6, x7] x17) x17) (lk 2 x2 (lw [x0, x1, x2, x3, x4, x5, x6, x7] x17) x17) (lk 3 x3 (lw [x0, x1, x2, x3, x4, x5, x6, x7] x17) x17) (lk 4 x4 (lw [x0, x1, x2, x3, x4, x5, x6, x7] x17) x17) (lk 5 x5 (lw [x0, x1, x2, x3, x4, x5, x6, x7] x17) x17) (lk 6 x6 (lw [x0, x1, x2, x3, x4, x5, x6, x7] x17) x17) (lk 7 x7 (lw [x0, x1, x2, x3, x4, x5, x6, x7] x17) x17) x8 x9 x10 x11 x12 x13 x14 x15 x16 (nn x17) x18 x19 x20 x21 := rfl

theorem body_0 {c0 c1 c2 c3 c4 c5 c6 c7 a0 a1 a2 a3 a4 a5 a6 a7 : Int} {v : List DV} (mode kind at0 sz : Int) (hl : (v.length : Int) < 9223372036854775808) (h : lkd c0) : body7 c0 c1 c2 c3 c4 c5 c6 c7 a0 a1 a2 a3 a4 a5 a6 a7 v 0 mode kind at0 sz = true := by
  obtain ⟨i', d0, d1, d2, d3, d4, d5, d6, d7, b0, b1, b2, b3, b4, b5, b6, b7, hg, q0, _, _, _, _, _, _, _⟩ := g_ok v hl c0 c1 c2 c3 c4 c5 c6 c7 a0 a1 a2 a3 a4 a5 a6 a7
  obtain ⟨z1, z2⟩ := q0 h
  obtain ⟨e1, e2, e3⟩ := rng_0 (c0 := c0) (a0 := a0) (d0 := d0) (b0 := b0) (c1 := c1) (a1 := a1) (d1 := d1) (b1 := b1) (c2 := c2) (a2 := a2) (d2 := d2) (b2 := b2) (c3 := c3) (a3 := a3) (d3 := d3) (b3 := b3) (c4 := c4) (a4 := a4) (d4 := d4) (b4 := b4) (c5 := c5) (a5 := a5) (d5 := d5) (b5 := b5) (c6 := c6) (a6 := a6) (d6 := d6) (b6 := b6) (c7 := c7) (a7 := a7) (d7 := d7) (b7 := b7) z1 z2
  unfold body7
  rw [hg]
  show fin7 r10_0 0 at0 sz (r8_0 c0 c1 c2 c3 c4 c5 c6 c7 a0 a1 a2 a3 a4 a5 a6 a7 0) (r8_1 c0 c1 c2 c3 c4 c5 c6 c7 a0 a1 a2 a3 a4 a5 a6 a7 0) (r8_2 c0 c1 c2 c3 c4 c5 c6 c7 a0 a1 a2 a3 a4 a5 a6 a7 0) (r8_0 d0 d1 d2 d3 d4 d5 d6 d7 b0 b1 b2 b3 b4 b5 b6 b7 0) (r8_1 d0 d1 d2 d3 d4 d5 d6 d7 b0 b1 b2 b3 b4 b5 b6 b7 0) (r8_2 d0 d1 d2 d3 d4 d5 d6 d7 b0 b1 b2 b3 b4 b5 b6 b7 0) d0 c0 (r11_0 d0 d1 d2 d3 d4 d5 d6 d7 b0 b1 b2 b3 b4 b5 b6 b7 mode kind at0 sz) (r11_0 c0 c1 c2 c3 c4 c5 c6 c7 a0 a1 a2 a3 a4 a5 a6 a7 mode kind at0 sz) = true
  exact fin7_ok r10_ok z1 e1 e2 e3 (fun _ ho h1 h2 => by
      rw [chk_0 (by rw [e3]; exact ho) (by rw [e1]; exact h1) (by rw [e2]; exact h2), chk_0 ho h1 h2, e1, e2, z1])
theorem body_1 {c0 c1 c2 c3 c4 c5 c6 c7 a0 a1 a2 a3 a4 a5 a6 a7 : Int} {v : List DV} (mode kind at0 sz : Int) (hl : (v.length : Int) < 9223372036854775808) (h : lkd c1) : body7 c0 c1 c2 c3 c4 c5 c6 c7 a0 a1 a2 a3 a4 a5 a6 a7 v 1 mode kind at0 sz = true := by
  obtain ⟨i', d0, d1, d2, d3, d4, d5, d6, d7, b0, b1, b2, b3, b4, b5, b6, b7, hg, _, q1, _, _, _, _, _, _⟩ := g_ok v hl c0 c1 c2 c3 c4 c5 c6 c7 a0 a1 a2 a3 a4 a5 a6 a7
  obtain ⟨z1, z2, z3⟩ := q1 h
  obtain ⟨e1, e2, e3⟩ := rng_1 (c0 := c0) (a0 := a0) (d0 := d0) (b0 := b0) (c1 := c1) (a1 := a1) (d1 := d1) (b1 := b1) (c2 := c2) (a2 := a2) (d2 := d2) (b2 := b2) (c3 := c3) (a3 := a3) (d3 := d3) (b3 := b3) (c4 := c4) (a4 := a4) (d4 := d4) (b4 := b4) (c5 := c5) (a5 := a5) (d5 := d5) (b5 := b5) (c6 := c6) (a6 := a6) (d6 := d6) (b6 := b6) (c7 := c7) (a7 := a7) (d7 := d7) (b7 := b7) z1 z2 z3
  unfold body7
  rw [hg]
  show fin7 r10_0 1 at0 sz (r8_0 c0 c1 c2 c3 c4 c5 c6 c7 a0 a1 a2 a3 a4 a5 a6 a7 1) (r8_1 c0 c1 c2 c3 c4 c5 c6 c7 a0 a1 a2 a3 a4 a5 a6 a7 1) (r8_2 c0 c1 c2 c3 c4 c5 c6 c7 a0 a1 a2 a3 a4 a5 a6 a7 1) (r8_0 d0 d1 d2 d3 d4 d5 d6 d7 b0 b1 b2 b3 b4 b5 b6 b7 1) (r8_1 d0 d1 d2 d3 d4 d5 d6 d7 b0 b1 b2 b3 b4 b5 b6 b7 1) (r8_2 d0 d1 d2 d3 d4 d5 d6 d7 b0 b1 b2 b3 b4 b5 b6 b7 1) d1 c1 (r11_0 d0 d1 d2 d3 d4 d5 d6 d7 b0 b1 b2 b3 b4 b5 b6 b7 mode kind at0 sz) (r11_0 c0 c1 c2 c3 c4 c5 c6 c7 a0 a1 a2 a3 a4 a5 a6 a7 mode kind at0 sz) = true
  exact fin7_ok r10_ok z1 e1 e2 e3 (fun h => absurd (by decide) h)
theorem body_2 {c0 c1 c2 c3 c4 c5 c6 c7 a0 a1 a2 a3 a4 a5 a6 a7 : Int} {v : List DV} (mode kind at0 sz : Int) (hl : (v.length : Int) < 9223372036854775808) (h : lkd c2) : body7 c0 c1 c2 c3 c4 c5 c6 c7 a0 a1 a2 a3 a4 a5 a6 a7 v 2 mode kind at0 sz = true := by
  obtain ⟨i', d0, d1, d2, d3, d4, d5, d6, d7, b0, b1, b2, b3, b4, b5, b6, b7, hg, _, _, q2, _, _, _, _, _⟩ := g_ok v hl c0 c1 c2 c3 c4 c5 c6 c7 a0 a1 a2 a3 a4 a5 a6 a7
  obtain ⟨z1, z2, z3⟩ := q2 h
  obtain ⟨e1, e2, e3⟩ := rng_2 (c0 := c0) (a0 := a0) (d0 := d0) (b0 := b0) (c1 := c1) (a1 := a1) (d1 := d1) (b1 := b1) (c2 := c2) (a2 := a2) (d2 := d2) (b2 := b2) (c3 := c3) (a3 := a3) (d3 := d3) (b3 := b3) (c4 := c4) (a4 := a4) (d4 := d4) (b4 := b4) (c5 := c5) (a5 := a5) (d5 := d5) (b5 := b5) (c6 := c6) (a6 := a6) (d6 := d6) (b6 := b6) (c7 := c7) (a7 := a7) (d7 := d7) (b7 := b7) z1 z2 z3
  unfold body7
  rw [hg]
  show fin7 r10_0 2 at0 sz (r8_0 c0 c1 c2 c3 c4 c5 c6 c7 a0 a1 a2 a3 a4 a5 a6 a7 2) (r8_1 c0 c1 c2 c3 c4 c5 c6 c7 a0 a1 a2 a3 a4 a5 a6 a7 2) (r8_2 c0 c1 c2 c3 c4 c5 c6 c7 a0 a1 a2 a3 a4 a5 a6 a7 2) (r8_0 d0 d1 d2 d3 d4 d5 d6 d7 b0 b1 b2 b3 b4 b5 b6 b7 2) (r8_1 d0 d1 d2 d3 d4 d5 d6 d7 b0 b1 b2 b3 b4 b5 b6 b7 2) (r8_2 d0 d1 d2 d3 d4 d5 d6 d7 b0 b1 b2 b3 b4 b5 b6 b7 2) d2 c2 (r11_0 d0 d1 d2 d3 d4 d5 d6 d7 b0 b1 b2 b3 b4 b5 b6 b7 mode kind at0 sz) (r11_0 c0 c1 c2 c3 c4 c5 c6 c7 a0 a1 a2 a3 a4 a5 a6 a7 mode kind at0 sz) = true
  exact fin7_ok r10_ok z1 e1 e2 e3 (fun h => absurd (by decide) h)
theorem body_3 {c0 c1 c2 c3 c4 c5 c6 c7 a0 a1 a2 a3 a4 a5 a6 a7 : Int} {v : List DV} (mode kind at0 sz : Int) (hl : (v.length : Int) < 9223372036854775808) (h : lkd c3) : body7 c0 c1 c2 c3 c4 c5 c6 c7 a0 a1 a2 a3 a4 a5 a6 a7 v 3 mode kind at0 sz = true := by
  obtain ⟨i', d0, d1, d2, d3, d4, d5, d6, d7, b0, b1, b2, b3, b4, b5, b6, b7, hg, _, _, _, q3, _, _, _, _⟩ := g_ok v hl c0 c1 c2 c3 c4 c5 c6 c7 a0 a1 a2 a3 a4 a5 a6 a7
  obtain ⟨z1, z2, z3⟩ := q3 h
  obtain ⟨e1, e2, e3⟩ := rng_3 (c0 := c0) (a0 := a0) (d0 := d0) (b0 := b0) (c1 := c1) (a1 := a1) (d1 := d1) (b1 := b1) (c2 := c2) (a2 := a2) (d2 := d2) (b2 := b2) (c3 := c3) (a3 := a3) (d3 := d3) (b3 := b3) (c4 := c4) (a4 := a4) (d4 := d4) (b4 := b4) (c5 := c5) (a5 := a5) (d5 := d5) (b5 := b5) (c6 := c6) (a6 := a6) (d6 := d6) (b6 := b6) (c7 := c7) (a7 := a7) (d7 := d7) (b7 := b7) z1 z2 z3
  unfold body7
  rw [hg]
  show fin7 r10_0 3 at0 sz (r8_0 c0 c1 c2 c3 c4 c5 c6 c7 a0 a1 a2 a3 a4 a5 a6 a7 3) (r8_1 c0 c1 c2 c3 c4 c5 c6 c7 a0 a1 a2 a3 a4 a5 a6 a7 3) (r8_2 c0 c1 c2 c3 c4 c5 c6 c7 a0 a1 a2 a3 a4 a5 a6 a7 3) (r8_0 d0 d1 d2 d3 d4 d5 d6 d7 b0 b1 b2 b3 b4 b5 b6 b7 3) (r8_1 d0 d1 d2 d3 d4 d5 d6 d7 b0 b1 b2 b3 b4 b5 b6 b7 3) (r8_2 d0 d1 d2 d3 d4 d5 d6 d7 b0 b1 b2 b3 b4 b5 b6 b7 3) d3 c3 (r11_0 d0 d1 d2 d3 d4 d5 d6 d7 b0 b1 b2 b3 b4 b5 b6 b7 mode kind at0 sz) (r11_0 c0 c1 c2 c3 c4 c5 c6 c7 a0 a1 a2 a3 a4 a5 a6 a7 mode kind at0 sz) = true
  exact fin7_ok r10_ok z1 e1 e2 e3 (fun h => absurd (by decide) h)
theorem body_4 {c0 c1 c2 c3 c4 c5 c6 c7 a0 a1 a2 a3 a4 a5 a6 a7 : Int} {v : List DV} (mode kind at0 sz : Int) (hl : (v.length : Int) < 9223372036854775808) (h : lkd c4) : body7 c0 c1 c2 c3 c4 c5 c6 c7 a0 a1 a2 a3 a4 a5 a6 a7 v 4 mode kind at0 sz = true := by
  obtain ⟨i', d0, d1, d2, d3, d4, d5, d6, d7, b0, b1, b2, b3, b4, b5, b6, b7, hg, _, _, _, _, q4, _, _, _⟩ := g_ok v hl c0 c1 c2 c3 c4 c5 c6 c7 a0 a1 a2 a3 a4 a5 a6 a7
  obtain ⟨z1, z2, z3⟩ := q4 h
  obtain ⟨e1, e2, e3⟩ := rng_4 (c0 := c0) (a0 := a0) (d0 := d0) (b0 := b0) (c1 := c1) (a1 := a1) (d1 := d1) (b1 := b1) (c2 := c2) (a2 := a2) (d2 := d2) (b2 := b2) (c3 := c3) (a3 := a3) (d3 := d3) (b3 := b3) (c4 := c4) (a4 := a4) (d4 := d4) (b4 := b4) (c5 := c5) (a5 := a5) (d5 := d5) (b5 := b5) (c6 := c6) (a6 := a6) (d6 := d6) (b6 := b6) (c7 := c7) (a7 := a7) (d7 := d7) (b7 := b7) z1 z2 z3
  unfold body7
  rw [hg]
  show fin7 r10_0 4 at0 sz (r8_0 c0 c1 c2 c3 c4 c5 c6 c7 a0 a1 a2 a3 a4 a5 a6 a7 4) (r8_1 c0 c1 c2 c3 c4 c5 c6 c7 a0 a1 a2 a3 a4 a5 a6 a7 4) (r8_2 c0 c1 c2 c3 c4 c5 c6 c7 a0 a1 a2 a3 a4 a5 a6 a7 4) (r8_0 d0 d1 d2 d3 d4 d5 d6 d7 b0 b1 b2 b3 b4 b5 b6 b7 4) (r8_1 d0 d1 d2 d3 d4 d5 d6 d7 b0 b1 b2 b3 b4 b5 b6 b7 4) (r8_2 d0 d1 d2 d3 d4 d5 d6 d7 b0 b1 b2 b3 b4 b5 b6 b7 4) d4 c4 (r11_0 d0 d1 d2 d3 d4 d5 d6 d7 b0 b1 b2 b3 b4 b5 b6 b7 mode kind at0 sz) (r11_0 c0 c1 c2 c3 c4 c5 c6 c7 a0 a1 a2 a3 a4 a5 a6 a7 mode kind at0 sz) = true
  exact fin7_ok r10_ok z1 e1 e2 e3 (fun h => absurd (by decide) h)
theorem body_5 {c0 c1 c2 c3 c4 c5 c6 c7 a0 a1 a2 a3 a4 a5 a6 a7 : Int} {v : List DV} (mode kind at0 sz : Int) (hl : (v.length : Int) < 9223372036854775808) (h : lkd c5) : body7 c0 c1 c2 c3 c4 c5 c6 c7 a0 a1 a2 a3 a4 a5 a6 a7 v 5 mode kind at0 sz = true := by
  obtain ⟨i', d0, d1, d2, d3, d4, d5, d6, d7, b0, b1, b2, b3, b4, b5, b6, b7, hg, _, _, _, _, _, q5, _, _⟩ := g_ok v hl c0 c1 c2 c3 c4 c5 c6 c7 a0 a1 a2 a3 a4 a5 a6 a7
  obtain ⟨z1, z2, z3⟩ := q5 h
  obtain ⟨e1, e2, e3⟩ := rng_5 (c0 := c0) (a0 := a0) (d0 := d0) (b0 := b0) (c1 := c1) (a1 := a1) (d1 := d1) (b1 := b1) (c2 := c2) (a2 := a2) (d2 := d2) (b2 := b2) (c3 := c3) (a3 := a3) (d3 := d3) (b3 := b3) (c4 := c4) (a4 := a4) (d4 := d4) (b4 := b4) (c5 := c5) (a5 := a5) (d5 := d5) (b5 := b5) (c6 := c6) (a6 := a6) (d6 := d6) (b6 := b6) (c7 := c7) (a7 := a7) (d7 := d7) (b7 := b7) z1 z2 z3
  unfold body7
  rw [hg]
  show fin7 r10_0 5 at0 sz (r8_0 c0 c1 c2 c3 c4 c5 c6 c7 a0 a1 a2 a3 a4 a5 a6 a7 5) (r8_1 c0 c1 c2 c3 c4 c5 c6 c7 a0 a1 a2 a3 a4 a5 a6 a7 5) (r8_2 c0 c1 c2 c3 c4 c5 c6 c7 a0 a1 a2 a3 a4 a5 a6 a7 5) (r8_0 d0 d1 d2 d3 d4 d5 d6 d7 b0 b1 b2 b3 b4 b5 b6 b7 5) (r8_1 d0 d1 d2 d3 d4 d5 d6 d7 b0 b1 b2 b3 b4 b5 b6 b7 5) (r8_2 d0 d1 d2 d3 d4 d5 d6 d7 b0 b1 b2 b3 b4 b5 b6 b7 5) d5 c5 (r11_0 d0 d1 d2 d3 d4 d5 d6 d7 b0 b1 b2 b3 b4 b5 b6 b7 mode kind at0 sz) (r11_0 c0 c1 c2 c3 c4 c5 c6 c7 a0 a1 a2 a3 a4 a5 a6 a7 mode kind at0 sz) = true
  exact fin7_ok r10_ok z1 e1 e2 e3 (fun h => absurd (by decide) h)
theorem body_6 {c0 c1 c2 c3 c4 c5 c6 c7 a0 a1 a2 a3 a4 a5 a6 a7 : Int} {v : List DV} (mode kind at0 sz : Int) (hl : (v.length : Int) < 9223372036854775808) (h : lkd c6) : body7 c0 c1 c2 c3 c4 c5 c6 c7 a0 a1 a2 a3 a4 a5 a6 a7 v 6 mode kind at0 sz = true := by
  obtain ⟨i', d0, d1, d2, d3, d4, d5, d6, d7, b0, b1, b2, b3, b4, b5, b6, b7, hg, _, _, _, _, _, _, q6, _⟩ := g_ok v hl c0 c1 c2 c3 c4 c5 c6 c7 a0 a1 a2 a3 a4 a5 a6 a7
  obtain ⟨z1, z2, z3⟩ := q6 h
  obtain ⟨e1, e2, e3⟩ := rng_6 (c0 := c0) (a0 := a0) (d0 := d0) (b0 := b0) (c1 := c1) (a1 := a1) (d1 := d1) (b1 := b1) (c2 := c2) (a2 := a2) (d2 := d2) (b2 := b2) (c3 := c3) (a3 := a3) (d3 := d3) (b3 := b3) (c4 := c4) (a4 := a4) (d4 := d4) (b4 := b4) (c5 := c5) (a5 := a5) (d5 := d5) (b5 := b5) (c6 := c6) (a6 := a6) (d6 := d6) (b6 := b6) (c7 := c7) (a7 := a7) (d7 := d7) (b7 := b7) z1 z2 z3
  unfold body7
  rw [hg]
  show fin7 r10_0 6 at0 sz (r8_0 c0 c1 c2 c3 c4 c5 c6 c7 a0 a1 a2 a3 a4 a5 a6 a7 6) (r8_1 c0 c1 c2 c3 c4 c5 c6 c7 a0 a1 a2 a3 a4 a5 a6 a7 6) (r8_2 c0 c1 c2 c3 c4 c5 c6 c7 a0 a1 a2 a3 a4 a5 a6 a7 6) (r8_0 d0 d1 d2 d3 d4 d5 d6 d7 b0 b1 b2 b3 b4 b5 b6 b7 6) (r8_1 d0 d1 d2 d3 d4 d5 d6 d7 b0 b1 b2 b3 b4 b5 b6 b7 6) (r8_2 d0 d1 d2 d3 d4 d5 d6 d7 b0 b1 b2 b3 b4 b5 b6 b7 6) d6 c6 (r11_0 d0 d1 d2 d3 d4 d5 d6 d7 b0 b1 b2 b3 b4 b5 b6 b7 mode kind at0 sz) (r11_0 c0 c1 c2 c3 c4 c5 c6 c7 a0 a1 a2 a3 a4 a5 a6 a7 mode kind at0 sz) = true
  exact fin7_ok r10_ok z1 e1 e2 e3 (fun h => absurd (by decide) h)
theorem body_7 {c0 c1 c2 c3 c4 c5 c6 c7 a0 a1 a2 a3 a4 a5 a6 a7 : Int} {v : List DV} (mode kind at0 sz : Int) (hl : (v.length : Int) < 9223372036854775808) (h : lkd c7) : body7 c0 c1 c2 c3 c4 c5 c6 c7 a0 a1 a2 a3 a4 a5 a6 a7 v 7 mode kind at0 sz = true := by
  obtain ⟨i', d0, d1, d2, d3, d4, d5, d6, d7, b0, b1, b2, b3, b4, b5, b6, b7, hg, _, _, _, _, _, _, _, q7⟩ := g_ok v hl c0 c1 c2 c3 c4 c5 c6 c7 a0 a1 a2 a3 a4 a5 a6 a7
  obtain ⟨z1, z2, z3⟩ := q7 h
  obtain ⟨e1, e2, e3⟩ := rng_7 (c0 := c0) (a0 := a0) (d0 := d0) (b0 := b0) (c1 := c1) (a1 := a1) (d1 := d1) (b1 := b1) (c2 := c2) (a2 := a2) (d2 := d2) (b2 := b2) (c3 := c3) (a3 := a3) (d3 := d3) (b3 := b3) (c4 := c4) (a4 := a4) (d4 := d4) (b4 := b4) (c5 := c5) (a5 := a5) (d5 := d5) (b5 := b5) (c6 := c6) (a6 := a6) (d6 := d6) (b6 := b6) (c7 := c7) (a7 := a7) (d7 := d7) (b7 := b7) z1 z2 z3
  unfold body7
  rw [hg]
  show fin7 r10_0 7 at0 sz (r8_0 c0 c1 c2 c3 c4 c5 c6 c7 a0 a1 a2 a3 a4 a5 a6 a7 7) (r8_1 c0 c1 c2 c3 c4 c5 c6 c7 a0 a1 a2 a3 a4 a5 a6 a7 7) (r8_2 c0 c1 c2 c3 c4 c5 c6 c7 a0 a1 a2 a3 a4 a5 a6 a7 7) (r8_0 d0 d1 d2 d3 d4 d5 d6 d7 b0 b1 b2 b3 b4 b5 b6 b7 7) (r8_1 d0 d1 d2 d3 d4 d5 d6 d7 b0 b1 b2 b3 b4 b5 b6 b7 7) (r8_2 d0 d1 d2 d3 d4 d5 d6 d7 b0 b1 b2 b3 b4 b5 b6 b7 7) d7 c7 (r11_0 d0 d1 d2 d3 d4 d5 d6 d7 b0 b1 b2 b3 b4 b5 b6 b7 mode kind at0 sz) (r11_0 c0 c1 c2 c3 c4 c5 c6 c7 a0 a1 a2 a3 a4 a5 a6 a7 mode kind at0 sz) = true
  exact fin7_ok r10_ok z1 e1 e2 e3 (fun h => absurd (by decide) h)
theorem nn_R (n : Int) : nn n = 0 ∨ nn n = 1 ∨ nn n = 2 ∨ nn n = 3 ∨ nn n = 4 ∨ nn n = 5 ∨ nn n = 6 ∨ nn n = 7 := by
  unfold nn
  cases h : decide (n < 0) || decide (n ≥ 8)
  · simp at h ⊢; omega
  · simp
theorem nn_0 (n : Int) : decide (nn n ≥ 0) = true ∧ decide (nn n < 8) = true := by
  have := nn_R n
  exact ⟨decide_eq_true (by omega), decide_eq_true (by omega)⟩
theorem locks_ok {x0 x1 x2 x3 x4 x5 x6 x7 x8 x9 x10 x11 x12 x13 x14 x15 : Int} {x16 : List DV} {x17 x18 x19 x20 x21 : Int} (h0 : R8 x0) (h1 : R8 x1) (h2 : R8 x2) (h3 : R8 x3) (h4 : R8 x4) (h5 : R8 x5) (h6 : R8 x6) (h7 : R8 x7) (hl : (x16.length : Int) < 9223372036854775808) : r7_0 x0 x1 x2 x3 x4 x5 x6 x7 x8 x9 x10 x11 x12 x13 x14 x15 x16 x17 x18 x19 x20 x21 = true := by
  rw [r7_eq]
  have key : ∀ n, nn x17 = n → body7 (lk 0 x0 (lw [x0, x1, x2, x3, x4, x5, x6, x7] x17) x17) (lk 1 x1 (lw [x0, x1, x2, x3, x4, x5, x6, x7] x17) x17) (lk 2 x2 (lw [x0, x1, x2, x3, x4, x5, x6, x7] x17) x17) (lk 3 x3 (lw [x0, x1, x2, x3, x4, x5, x6, x7] x17) x17) (lk 4 x4 (lw [x0, x1, x2, x3, x4, x5, x6, x7] x17) x17) (lk 5 x5 (lw [x0, x1, x2, x3, x4, x5, x6, x7] x17) x17) (lk 6 x6 (lw [x0, x1, x2, x3, x4, x5, x6, x7] x17) x17) (lk 7 x7 (lw [x0, x1, x2, x3, x4, x5, x6, x7] x17) x17) x8 x9 x10 x11 x12 x13 x14 x15 x16 n x18 x19 x20 x21 = true := by
    intro n hn
    rcases nn_R x17 with e | e | e | e | e | e | e | e <;> rw [e] at hn <;> subst hn
    · refine body_0 _ _ _ _ hl ?_
      unfold lk lw
      rw [e]
      exact lkd_or h0
    · refine body_1 _ _ _ _ hl ?_
      unfold lk lw
      rw [e]
      exact lkd_or h1
    · refine body_2 _ _ _ _ hl ?_
      unfold lk lw
      rw [e]
      exact lkd_or h2
    · refine body_3 _ _ _ _ hl ?_
      unfold lk lw
      rw [e]
      exact lkd_or h3
    · refine body_4 _ _ _ _ hl ?_
      unfold lk lw
      rw [e]
      exact lkd_or h4
    · refine body_5 _ _ _ _ hl ?_
      unfold lk lw
      rw [e]
      exact lkd_or h5
    · refine body_6 _ _ _ _ hl ?_
      unfold lk lw
      rw [e]
      exact lkd_or h6
    · refine body_7 _ _ _ _ hl ?_
      unfold lk lw
      rw [e]
      exact lkd_or h7
  exact key _ rfl
theorem p_abs {c1 c2 c3 a1 a2 a3 a4 a5 a6 a7 a8 a9 a10 a11 a12 a13 a14 : Bool} (h1 : a1 = true) (h2 : a2 = true) (h3 : a3 = true) (h4 : a4 = true) (h5 : a5 = true) (h6 : a6 = true) (h7 : a7 = true) (h8 : a8 = true) (h9 : a9 = true) (h10 : a10 = true) (h11 : a11 = true) (h12 : a12 = true) (h13 : a13 = true) (h14 : a14 = true) :
    ([ow [] a1, ow [(c1, true)] a2, ow [(c1, true)] a3, ow [(c1, true)] a4, ow [(c1, true)] a5, ow [(c1, true)] a6, ow [(c1, true)] a7, ow [(c1, true)] a8, ow [(c1, true)] a9, ow [(c1, true)] a10, ow [(c1, true)] a11, ow [(c1, true)] a12, ow [(c1, true), (c2, true), (c3, true)] a13, ow [(c1, true), (c2, true), (c3, true)] a14].all id) = true := by
  subst h1 h2 h3 h4 h5 h6 h7 h8 h9 h10 h11 h12 h13 h14
  simp only [ow_t, List.all_cons, List.all_nil, id, Bool.and_self]
theorem locks_p {x0 x1 x2 x3 x4 x5 x6 x7 x8 x9 x10 x11 x12 x13 x14 x15 : Int} {x16 : List DV} {x17 x19 x20 x21 : Int} (hl : (x16.length : Int) < 9223372036854775808) : p7 x0 x1 x2 x3 x4 x5 x6 x7 x8 x9 x10 x11 x12 x13 x14 x15 x16 x17 x19 x20 x21 = true := by
  have hb : (dget (g100700 (st x16 0 (lk 0 x0 (lw [x0, x1, x2, x3, x4, x5, x6, x7] x17) x17) (lk 1 x1 (lw [x0, x1, x2, x3, x4, x5, x6, x7] x17) x17) (lk 2 x2 (lw [x0, x1, x2, x3, x4, x5, x6, x7] x17) x17) (lk 3 x3 (lw [x0, x1, x2, x3, x4, x5, x6, x7] x17) x17) (lk 4 x4 (lw [x0, x1, x2, x3, x4, x5, x6, x7] x17) x17) (lk 5 x5 (lw [x0, x1, x2, x3, x4, x5, x6, x7] x17) x17) (lk 6 x6 (lw [x0, x1, x2, x3, x4, x5, x6, x7] x17) x17) (lk 7 x7 (lw [x0, x1, x2, x3, x4, x5, x6, x7] x17) x17) x8 x9 x10 x11 x12 x13 x14 x15)) 0).toB = true := by
    obtain ⟨i', d0, d1, d2, d3, d4, d5, d6, d7, b0, b1, b2, b3, b4, b5, b6, b7, hg, _⟩ := g_ok x16 hl (lk 0 x0 (lw [x0, x1, x2, x3, x4, x5, x6, x7] x17) x17) (lk 1 x1 (lw [x0, x1, x2, x3, x4, x5, x6, x7] x17) x17) (lk 2 x2 (lw [x0, x1, x2, x3, x4, x5, x6, x7] x17) x17) (lk 3 x3 (lw [x0, x1, x2, x3, x4, x5, x6, x7] x17) x17) (lk 4 x4 (lw [x0, x1, x2, x3, x4, x5, x6, x7] x17) x17) (lk 5 x5 (lw [x0, x1, x2, x3, x4, x5, x6, x7] x17) x17) (lk 6 x6 (lw [x0, x1, x2, x3, x4, x5, x6, x7] x17) x17) (lk 7 x7 (lw [x0, x1, x2, x3, x4, x5, x6, x7] x17) x17) x8 x9 x10 x11 x12 x13 x14 x15
    rw [hg]; rfl
  obtain ⟨n0, n8⟩ := nn_0 x17
  exact p_abs p10_ok n0 n8 n0 n8 (p8_ok ..) hb (p8_ok ..) n0 n8 n0 n8 (p11_ok ..) (p11_ok ..)
end Go.Proofs.YtoebecinndbnoaaDoor
