/- The plain law of ConvBack. -/
import Derived.Test.YtacciadcmiiimaaCvF
namespace Go.Proofs.Ytacciadcmiiimaa
open Go Go.Sx
set_option maxRecDepth 100000
set_option maxHeartbeats 2000000

/-! ### Whole numbers there and back -/
def vv (word uns : Bool) (x : Int) : Int := bif word && uns then IntKind.wrap .u64 (IntKind.wrap .u32 x) else bif word then IntKind.wrap .u64 (IntKind.wrap .i32 x) else x
def mi (word uns : Bool) (x : Int) : Bool := !uns && decide (IntKind.wrap .i64 (vv word uns x) < 0)
def mg (word uns : Bool) (x : Int) : Int := bif mi word uns x then IntKind.wrap .u64 (0 - vv word uns x) else vv word uns x
def lowB (word uns : Bool) : Int := bif uns then 0 else bif word then 2147483648 else 9223372036854775808
def upB (word uns : Bool) : Int := bif uns then IntKind.wrap .u64 (IntKind.wrap .u64 (2 * (bif word then 2147483647 else 9223372036854775807)) + 1) else bif word then 2147483647 else 9223372036854775807
def want (word : Bool) (x : Int) : Int := bif word then IntKind.wrap .u64 (IntKind.wrap .i64 (IntKind.wrap .i32 (IntKind.wrap .u32 x))) else x
theorem from_eq {r : Int} (h0 : 0 ≤ r) (h1 : r ≤ 4) (word uns : Bool) (x : Int) : r27_0 8 r word uns x = (bif !(mg word uns x == 0) then r78_0 52 1023 9223372036854775808 r (mi word uns x) (mg word uns x) 0 else 0) ∧
    r27_1 8 r word uns x = (bif !(mg word uns x == 0) then r78_1 52 1023 r (mi word uns x) (mg word uns x) 0 else 0) := by
  have hk := known_of (s := 8) (.inr rfl) h0 h1
  constructor
  · simp only [r27_0, hk, kk8]; rfl
  · simp only [r27_1, hk, kk8]; rfl
theorem mg_facts (word uns : Bool) {x : Int} (h : U x) : U (mg word uns x) ∧ (word = true → mg word uns x < 4294967296) ∧ (mi word uns x = true → mg word uns x ≤ lowB word uns) ∧ (mi word uns x = false → mg word uns x ≤ upB word uns) ∧ r66_0 (mi word uns x) (mg word uns x) word = want word x := by
  obtain ⟨h0, h1⟩ := h
  have v : vv word uns x = if word = true then (if uns = true then x % 4294967296 else (if x % 4294967296 ≥ 2147483648 then x % 4294967296 + 18446744069414584320 else x % 4294967296)) else x := by
    unfold vv
    cases word <;> cases uns <;> simp only [wrap_u64, wrap_u32, wrap_i32, Bool.and_true, Bool.and_false, cond_true, cond_false, if_true] <;> (repeat' split) <;> (try omega) <;> simp_all
  have r66 : ∀ (s : Bool) (n : Int), r66_0 s n word = bif !word then (bif s then IntKind.wrap .u64 (0 - n) else n) else IntKind.wrap .u64 (IntKind.wrap .i32 (bif s then IntKind.wrap .u64 (0 - n) else n)) := fun s n => rfl
  rw [r66]
  unfold mg mi
  rw [v]
  unfold want
  cases word <;> cases uns <;> simp only [lowB, upB, U, Bool.not_true, Bool.not_false, Bool.true_and, Bool.false_and, cond_true, cond_false, if_true, Bool.false_eq_true, if_false, wrap_u64, wrap_u32, wrap_i32, wrap_i64, reduceCtorEq, false_implies, true_and]
  · by_cases c : x ≥ 9223372036854775808
    · have d : decide ((if x % 18446744073709551616 ≥ 9223372036854775808 then x % 18446744073709551616 - 18446744073709551616 else x % 18446744073709551616) < 0) = true := decide_eq_true (by rw [if_pos (by omega)]; omega)
      simp only [d, cond_true, true_implies, reduceCtorEq, false_implies]
      simp only [true_and, and_true]
      omega
    · have d : decide ((if x % 18446744073709551616 ≥ 9223372036854775808 then x % 18446744073709551616 - 18446744073709551616 else x % 18446744073709551616) < 0) = false := decide_eq_false (by rw [if_neg (by omega)]; omega)
      simp only [d, cond_false, true_implies, reduceCtorEq, false_implies, true_and, and_true]
      omega
  · simp
    omega
  · by_cases c : x % 4294967296 ≥ 2147483648
    · simp only [if_pos c]
      have d : decide ((if (x % 4294967296 + 18446744069414584320) % 18446744073709551616 ≥ 9223372036854775808 then (x % 4294967296 + 18446744069414584320) % 18446744073709551616 - 18446744073709551616 else (x % 4294967296 + 18446744069414584320) % 18446744073709551616) < 0) = true := decide_eq_true (by rw [if_pos (by omega)]; omega)
      simp only [d, cond_true, true_implies, reduceCtorEq, false_implies]
      refine ⟨by omega, by omega, by omega, trivial, ?_⟩
      repeat' split
      all_goals omega
    · simp only [if_neg c]
      have d : decide ((if x % 4294967296 % 18446744073709551616 ≥ 9223372036854775808 then x % 4294967296 % 18446744073709551616 - 18446744073709551616 else x % 4294967296 % 18446744073709551616) < 0) = false := decide_eq_false (by rw [if_neg (by omega)]; omega)
      simp only [d, cond_false, true_implies, reduceCtorEq, false_implies]
      refine ⟨by omega, by omega, trivial, by omega, ?_⟩
      repeat' split
      all_goals omega
  · simp only [true_implies]
    refine ⟨by omega, by omega, by omega, ?_⟩
    repeat' split
    all_goals omega

/-- A whole number out of a float's parts. -/
theorem to_at {r b M m e c : Int} {word uns s : Bool} (hb : U b) (h0 : 0 ≤ r) (h1 : r ≤ 4) (hc : cls 8 b = c) (hc1 : c < 7) (hm : r68_0 52 9223372036854775808 b = m) (he : r68_1 52 1023 9223372036854775808 b = e) (hs : sgn 8 b = s)
    (h : (0 < e ∧ ((m != 0) && decide (IntKind.wrap .i64 (r69_0 m + e) > 64)) = false ∧ ishl .u64 m e = M) ∨ (e ≤ 0 ∧ r70_0 r s m (IntKind.wrap .i64 (0 - e)) = M ∧ r70_1 m (IntKind.wrap .i64 (0 - e)) = true))
    (hl : s = true → M ≤ lowB word uns) (hu : s = false → M ≤ upB word uns) : r25_0 8 r word uns b = r66_0 s M word ∧ r25_1 8 r word uns b = 0 := by
  have hk := known_of (s := 8) (.inr rfl) h0 h1
  have c8 : decide (c ≥ 8) = false := decide_eq_false (by omega)
  have c7 : (c == 7) = false := by simp; omega
  have l : s = true → decide (M > lowB word uns) = false := fun hh => decide_eq_false (by have := hl hh; omega)
  have u : s = false → decide (M > upB word uns) = false := fun hh => decide_eq_false (by have := hu hh; omega)
  unfold lowB at l
  unfold upB at u
  rcases h with ⟨a1, a2, a3⟩ | ⟨a1, a2, a3⟩
  · have d : decide (e > 0) = true := decide_eq_true a1
    cases s
    · have u := u rfl
      constructor
      · simp only [r25_0, hk, kk8, class_8 hb, minus_8 hb, hc, hm, he, hs, c8, c7, d, a2, a3, Bool.true_and, Bool.not_true, Bool.not_false, cond_true, cond_false, Bool.true_or, Bool.or_true, Bool.false_or, Bool.or_false, Bool.false_and, u]
      · simp only [r25_1, hk, kk8, class_8 hb, minus_8 hb, hc, hm, he, hs, c8, c7, d, a2, a3, Bool.true_and, Bool.not_true, Bool.not_false, cond_true, cond_false, Bool.true_or, Bool.or_true, Bool.false_or, Bool.or_false, Bool.false_and, u]
    · have l := l rfl
      constructor
      · simp only [r25_0, hk, kk8, class_8 hb, minus_8 hb, hc, hm, he, hs, c8, c7, d, a2, a3, Bool.true_and, Bool.not_true, Bool.not_false, cond_true, cond_false, Bool.true_or, Bool.or_true, Bool.false_or, Bool.or_false, Bool.false_and, l]
      · simp only [r25_1, hk, kk8, class_8 hb, minus_8 hb, hc, hm, he, hs, c8, c7, d, a2, a3, Bool.true_and, Bool.not_true, Bool.not_false, cond_true, cond_false, Bool.true_or, Bool.or_true, Bool.false_or, Bool.or_false, Bool.false_and, l]
  · have d : decide (e > 0) = false := decide_eq_false (by omega)
    cases s
    · have u := u rfl
      constructor
      · simp only [r25_0, hk, kk8, class_8 hb, minus_8 hb, hc, hm, he, hs, c8, c7, d, a2, a3, Bool.true_and, Bool.not_true, Bool.not_false, cond_true, cond_false, Bool.true_or, Bool.or_true, Bool.false_or, Bool.or_false, Bool.false_and, u]
      · simp only [r25_1, hk, kk8, class_8 hb, minus_8 hb, hc, hm, he, hs, c8, c7, d, a2, a3, Bool.true_and, Bool.not_true, Bool.not_false, cond_true, cond_false, Bool.true_or, Bool.or_true, Bool.false_or, Bool.or_false, Bool.false_and, u]
    · have l := l rfl
      constructor
      · simp only [r25_0, hk, kk8, class_8 hb, minus_8 hb, hc, hm, he, hs, c8, c7, d, a2, a3, Bool.true_and, Bool.not_true, Bool.not_false, cond_true, cond_false, Bool.true_or, Bool.or_true, Bool.false_or, Bool.or_false, Bool.false_and, l]
      · simp only [r25_1, hk, kk8, class_8 hb, minus_8 hb, hc, hm, he, hs, c8, c7, d, a2, a3, Bool.true_and, Bool.not_true, Bool.not_false, cond_true, cond_false, Bool.true_or, Bool.or_true, Bool.false_or, Bool.or_false, Bool.false_and, l]

theorem ints_back {r x : Int} (word uns : Bool) (h : U x) (h0 : 0 ≤ r) (h1 : r ≤ 4) :
    (word = true → r27_1 8 r word uns x = 0) ∧ (r27_1 8 r word uns x = 0 → r25_1 8 r word uns (r27_0 8 r word uns x) = 0 ∧ r25_0 8 r word uns (r27_0 8 r word uns x) = want word x) := by
  obtain ⟨⟨u0, u1⟩, hw, hl, hu, ht⟩ := mg_facts word uns h
  obtain ⟨e0, e1⟩ := from_eq h0 h1 word uns x
  rw [e0, e1]
  generalize mg word uns x = M at *
  generalize mi word uns x = s at *
  by_cases hM : M = 0
  · subst hM
    simp only [beq_self_eq_true, Bool.not_true, cond_false]
    refine ⟨fun _ => by trivial, fun _ => ?_⟩
    have hs : want word x = r66_0 false 0 word := by
      rw [← ht]
      cases s
      · rfl
      · cases word <;> rfl
    rw [hs]
    have hb : U 0 := ⟨by decide, by decide⟩
    have := to_at (r := r) (b := 0) (M := 0) (m := 0) (e := -1074) (c := 4) (word := word) (uns := uns) (s := false) hb h0 h1 (by decide +kernel) (by decide) (by decide +kernel) (by decide +kernel) (by decide +kernel)
      (.inr ⟨by decide, (cut_zero _ _ _).1, (cut_zero r false _).2⟩) (fun h => by cases h) (fun _ => by cases word <;> cases uns <;> decide)
    exact ⟨this.2, this.1⟩
  · have hne : (!(M == 0)) = true := by simpa using hM
    simp only [hne, cond_true]
    obtain ⟨n, hn, hz, hM1, hM2⟩ := lz_ok (x := M) (by omega) u1
    have hfl := round_flag_8 r s hn hz (by omega) hM2
    have hp := pow_le_63 hn
    have P11 : ((2 ^ 11 : Nat) : Int) = 2048 := by decide +kernel
    refine ⟨fun hword => ?_, fun hf => ?_⟩
    · have hlt := hw hword
      have hn31 : 31 ≤ n := by
        apply Nat.le_of_not_lt
        intro hlt2
        have : 2 ^ n ≤ 2 ^ 30 := Nat.pow_le_pow_right (by decide) (by omega)
        have e30 : (2 : Nat) ^ 30 = 1073741824 := by decide +kernel
        rw [e30] at this
        have h3 : M * ((2 ^ n : Nat) : Int) ≤ 4294967295 * ((2 ^ n : Nat) : Int) := Int.mul_le_mul_of_nonneg_right (by omega) (by omega)
        omega
      have hq : M * ((2 ^ n : Nat) : Int) = (M * ((2 ^ (n - 11) : Nat) : Int)) * 2048 := by
        have : 2 ^ n = 2 ^ (n - 11) * 2048 := by rw [show (2048 : Nat) = 2 ^ 11 from by decide, ← Nat.pow_add]; congr 1; omega
        rw [this, Int.natCast_mul, Int.mul_assoc]; rfl
      rw [hfl, if_pos (by rw [hq]; omega)]
    · rw [hfl] at hf
      have hmod : M * ((2 ^ n : Nat) : Int) % 2048 = 0 := by
        apply Decidable.byContradiction
        intro hc
        rw [if_neg hc] at hf
        cases hf
      have hq : M * ((2 ^ n : Nat) : Int) = (M * ((2 ^ n : Nat) : Int) / 2048) * 2048 := by omega
      generalize M * ((2 ^ n : Nat) : Int) / 2048 = q at hq
      obtain ⟨g0, _⟩ := round_norm_8 r s (M := M) (e := 0) (q := q) hn hz (by omega) hM2 hM1 hq (by omega) (by omega)
      rw [g0]
      obtain ⟨bU, bs, bm⟩ := sgn_mk_8 (m := (0 - n + 11 - -1074 + 1) * 4503599627370496 + (q - 4503599627370496)) s (by omega) (by omega)
      generalize r82_0 9223372036854775808 s ((0 - n + 11 - -1074 + 1) * 4503599627370496 + (q - 4503599627370496)) = b at *
      obtain ⟨v0, v1⟩ := fin_8 bU
      have hcf8 := cls_fin_8 b
      rw [show qui 8 = 9221120237041090560 from rfl] at hcf8
      rw [if_pos (by omega), bm] at v0 v1
      have w0 : ((0 - (n : Int) + 11 - -1074 + 1) * 4503599627370496 + (q - 4503599627370496)) % 4503599627370496 + 4503599627370496 = q := by omega
      have w1 : ((0 - (n : Int) + 11 - -1074 + 1) * 4503599627370496 + (q - 4503599627370496)) / 4503599627370496 - 1023 - 52 = 11 - n := by omega
      rw [w0] at v0
      rw [w1] at v1
      rw [← ht]
      have key : (0 < 11 - (n : Int) ∧ ((q != 0) && decide (IntKind.wrap .i64 (r69_0 q + (11 - (n : Int))) > 64)) = false ∧ ishl .u64 q (11 - (n : Int)) = M) ∨ (11 - (n : Int) ≤ 0 ∧ r70_0 r s q (IntKind.wrap .i64 (0 - (11 - (n : Int)))) = M ∧ r70_1 q (IntKind.wrap .i64 (0 - (11 - (n : Int)))) = true) := by
        by_cases hn11 : n < 11
        · have hpw : ((2 ^ 11 : Nat) : Int) = ((2 ^ (11 - n) : Nat) : Int) * ((2 ^ n : Nat) : Int) := by
            rw [← Int.natCast_mul, ← Nat.pow_add]; congr 2; omega
          rw [P11] at hpw
          have hMq : M = q * ((2 ^ (11 - n) : Nat) : Int) := by
            have : M * ((2 ^ n : Nat) : Int) = (q * ((2 ^ (11 - n) : Nat) : Int)) * ((2 ^ n : Nat) : Int) := by rw [hq, Int.mul_assoc, ← hpw]
            exact Int.eq_of_mul_eq_mul_right (by omega) this
          refine .inl ⟨by omega, ?_, ?_⟩
          · rw [len_53 (by omega) (by omega), wrap_i64_of (by omega) (by omega), show decide ((53 : Int) + (11 - (n : Int)) > 64) = false from decide_eq_false (by omega), Bool.and_false]
          · rw [show (11 : Int) - (n : Int) = ((11 - n : Nat) : Int) from by omega, shl_eq (by omega) (by omega) (by rw [← hMq]; exact u1), ← hMq]
        · refine .inr ⟨by omega, ?_⟩
          have hpw : ((2 ^ n : Nat) : Int) = ((2 ^ (n - 11) : Nat) : Int) * 2048 := by
            have : 2 ^ n = 2 ^ (n - 11) * 2048 := by rw [show (2048 : Nat) = 2 ^ 11 from by decide, ← Nat.pow_add]; congr 1; omega
            rw [this, Int.natCast_mul]; rfl
          have hMq : q = M * ((2 ^ (n - 11) : Nat) : Int) := by
            rw [hpw, ← Int.mul_assoc] at hq
            omega
          rw [wrap_i64_of (by omega) (by omega), show (0 : Int) - (11 - (n : Int)) = ((n - 11 : Nat) : Int) from by omega]
          by_cases hn12 : n = 11
          · subst hn12
            have := cut_none r s q (n := ((11 - 11 : Nat) : Int)) (by decide)
            rw [this.1, this.2, hMq]
            simp
          · exact cut_ok r s (m := q) (q := M) (n := n - 11) (by omega) (by omega) (by omega) hMq (by omega)
      have := to_at (r := r) (b := b) (M := M) (m := q) (e := 11 - (n : Int)) (c := cls 8 b) (word := word) (uns := uns) (s := s) bU h0 h1 rfl (by omega) v0 v1 bs key hl hu
      exact ⟨this.2, this.1⟩

/-! ### Floats of 4 bytes -/
theorem floats_back {r a : Int} (h : U a) (h0 : 0 ≤ r) (h1 : r ≤ 4) : U (r29_0 8 r a) ∧
    ((inf 4 < mag 4 a ∧ r29_0 8 r a = qui 8 ∧ r29_0 4 r (r29_0 8 r a) = qui 4 ∧ r29_1 4 r (r29_0 8 r a) = 0 ∧ (r29_1 8 r a == 16) = decide (inf 4 < mag 4 a ∧ mag 4 a < qui 4)) ∨
     (¬ inf 4 < mag 4 a ∧ r29_1 8 r a = 0 ∧ r29_1 4 r (r29_0 8 r a) = 0 ∧ r29_0 4 r (r29_0 8 r a) = a % 4294967296)) := by
  have hcf := cls_fin_4 a
  have hi : inf 4 = 2139095040 := rfl
  have hq4 : qui 4 = 2143289344 := rfl
  have hq8 : qui 8 = 9221120237041090560 := rfl
  obtain ⟨e0, e1⟩ := cvt_8 (r := r) h h0 h1
  have nan : ∀ c, cls 4 a = c → (c = 8 ∨ c = 9) → r29_0 8 r a = qui 8 ∧ r29_1 8 r a = (if cls 4 a = 8 then 16 else 0) := by
    intro c hc h89
    rw [e0, e1, hc]
    rcases h89 with rfl | rfl <;> exact ⟨rfl, rfl⟩
  have q8 : U (qui 8) := ⟨by decide, by decide⟩
  obtain ⟨q0, q1⟩ := cvt_4 (r := r) q8 h0 h1
  have q9 : cls 8 (qui 8) = 9 := by decide +kernel
  rw [q9] at q0 q1
  have q0 : r29_0 4 r (qui 8) = qui 4 := q0
  have q1 : r29_1 4 r (qui 8) = 0 := q1
  have few : ∀ (m w : Int), 0 ≤ m → m ≤ inf 8 → r29_0 8 r a = r82_0 9223372036854775808 (sgn 4 a) m → r29_1 8 r a = 0 → mag 4 a ≤ inf 4 →
      (∀ b : Int, mag 8 b = m → U b → r29_0 4 r b = r82_0 2147483648 (sgn 8 b) (mag 4 a) ∧ r29_1 4 r b = 0) → U (r29_0 8 r a) ∧ (¬ inf 4 < mag 4 a ∧ r29_1 8 r a = 0 ∧ r29_1 4 r (r29_0 8 r a) = 0 ∧ r29_0 4 r (r29_0 8 r a) = a % 4294967296) := by
    intro m w m0 m1 hb hf hle hback
    have i8 : inf 8 = 9218868437227405312 := rfl
    obtain ⟨bU, bs, bm⟩ := sgn_mk_8 (m := m) (sgn 4 a) m0 (by omega)
    rw [← hb] at bU bs bm
    obtain ⟨z0, z1⟩ := hback _ bm bU
    refine ⟨bU, by omega, hf, z1, ?_⟩
    rw [z0, bs, back_4]
  rcases hcf with ⟨c, _⟩ | ⟨c, _⟩ | ⟨c, c2⟩ | ⟨c, c2⟩ | ⟨c, c2, c3⟩ | ⟨c, c2⟩
  · obtain ⟨t0, t1, t2, t3⟩ := there_back (r := r) h h0 h1 (.inr c)
    exact ⟨t1, .inr ⟨by omega, t0, t2, t3⟩⟩
  · obtain ⟨t0, t1, t2, t3⟩ := there_back (r := r) h h0 h1 (.inl c)
    exact ⟨t1, .inr ⟨by omega, t0, t2, t3⟩⟩
  · rw [c] at e0 e1
    have := few 0 0 (by decide) (by decide) e0 e1 (by omega) (fun b hb hU => by
      obtain ⟨u0, u1⟩ := cvt_4 (r := r) hU h0 h1
      have hcf8 := cls_fin_8 b
      have cb : cls 8 b = 4 := by omega
      rw [cb] at u0 u1
      rw [c2]
      exact ⟨u0, u1⟩)
    exact ⟨this.1, .inr this.2⟩
  · rw [c] at e0 e1
    have i8 : inf 8 = 9218868437227405312 := rfl
    have := few (inf 8) 0 (by decide) (by decide) e0 e1 (by omega) (fun b hb hU => by
      obtain ⟨u0, u1⟩ := cvt_4 (r := r) hU h0 h1
      have hcf8 := cls_fin_8 b
      have cb : cls 8 b = 7 := by omega
      rw [cb] at u0 u1
      rw [c2, ← hi]
      exact ⟨u0, u1⟩)
    exact ⟨this.1, .inr this.2⟩
  · obtain ⟨n0, n1⟩ := nan _ c (.inl rfl)
    rw [n0, n1, c]
    refine ⟨q8, .inl ⟨by omega, rfl, q0, q1, ?_⟩⟩
    rw [decide_eq_true (by omega)]; rfl
  · obtain ⟨n0, n1⟩ := nan _ c (.inr rfl)
    rw [n0, n1, c]
    refine ⟨q8, .inl ⟨by omega, rfl, q0, q1, ?_⟩⟩
    rw [decide_eq_false (by omega)]; rfl

/-! ### The law -/
def rmOf (x : Int) : Int := IntKind.wrap .i64 (Int.tmod (IntKind.wrap .u64 x) 5)
theorem rm_ok (x : Int) : 0 ≤ rmOf x ∧ rmOf x ≤ 4 := by
  unfold rmOf
  rw [wrap_u64, Int.tmod_eq_emod_of_nonneg (by omega), wrap_i64_of (by omega) (by omega)]
  omega
def fin8 (aw word : Bool) (n f y g w b h c i q8 q4 ma : Int) (nan loud : Bool) : Bool :=
  !(!aw) && (!((word && (f != 0)) || ((f == 0) && ((g != 0) || (y != w)))) && (bif !nan then ((h == 0) && (i == 0)) && (c == ma) else (((b == q8) && (c == q4)) && (i == 0)) && ((h == 16) == loud)))
theorem r8_eq (x0 : Int) (x1 x2 : Bool) (x3 x4 : Int) : r8_0 x0 x1 x2 x3 x4 = fin8 r20_0 x1 (r27_0 8 (rmOf x0) x1 x2 x3) (r27_1 8 (rmOf x0) x1 x2 x3) (r25_0 8 (rmOf x0) x1 x2 (r27_0 8 (rmOf x0) x1 x2 x3)) (r25_1 8 (rmOf x0) x1 x2 (r27_0 8 (rmOf x0) x1 x2 x3)) (want x1 x3)
    (r29_0 8 (rmOf x0) x4) (r29_1 8 (rmOf x0) x4) (r29_0 4 (rmOf x0) (r29_0 8 (rmOf x0) x4)) (r29_1 4 (rmOf x0) (r29_0 8 (rmOf x0) x4)) (r40_0 8) (r40_0 4) (iland .u64 x4 4294967295) (r39_0 4 x4) (r41_0 4 x4) := rfl
theorem p27_ok {r x : Int} {word uns : Bool} (h : U x) : p27 8 r word uns x = true := by
  have := p78_8 r (mi word uns x) 0 (mg_facts word uns h).1
  have e : p27 8 r word uns x = [ow [(!(!r64_0 8 r), true), (!(mg word uns x == 0), true)] (p78 52 1023 r (mi word uns x) (mg word uns x) 0)].all id := rfl
  rw [e, this]
  simp only [ow_t, List.all_cons, List.all_nil, id, Bool.and_true]
theorem ow_gt (l : List (Bool × Bool)) (e : Int) (hl : (decide (e > 0), true) ∈ l) : ow l (decide (e ≥ 0)) = true := by
  by_cases h : e > 0
  · rw [decide_eq_true (show e ≥ 0 by omega), ow_t]
  · have : decide (e > 0) = false := decide_eq_false h
    rw [this] at hl
    simp only [ow, Bool.or_eq_true, Bool.not_eq_true', List.all_eq_false]
    exact .inl ⟨_, hl, by decide⟩
theorem p25_ok (r b : Int) : p25 8 r b = true := by
  have a1 := p67_8 b
  simp only [p25, kk8, a1, p68_8, p69_ok, p70_ok, ow_t, List.all_cons, List.all_nil, id, Bool.and_true, Bool.true_and]
  exact ow_gt _ _ (by simp)
theorem conv_back {x0 x3 x4 : Int} {x1 x2 : Bool} (hx : U x3) (ha : U x4) : p8 x0 x1 x2 x3 x4 = true ∧ r8_0 x0 x1 x2 x3 x4 = true := by
  obtain ⟨m0, m1⟩ := rm_ok x0
  obtain ⟨i0, i1⟩ := ints_back (r := rmOf x0) x1 x2 hx m0 m1
  obtain ⟨bU, hf⟩ := floats_back (r := rmOf x0) ha m0 m1
  constructor
  · have h1 := p27_ok (r := rmOf x0) (word := x1) (uns := x2) hx
    have h2 := p25_ok (rmOf x0) (r27_0 8 (rmOf x0) x1 x2 x3)
    have h3 := p29_8 (r := rmOf x0) ha
    have h4 := p29_4 (r := rmOf x0) bU
    have h5 := g_p90 (s := 4) (.inl rfl)
    have h6 := g_p41 (s := 4) (.inl rfl) x4
    unfold rmOf at h1 h2 h3 h4
    simp only [p8, awake_ok, h1, h2, h3, h4, h5, h6, ow_t, List.all_cons, List.all_nil, id, Bool.and_true]
  · rw [r8_eq, awake_ok.2, nan_4 ha, loud_4 ha, g_quiet (.inr rfl), g_quiet (.inl rfl), land_mask ha.1 ha.2 32 (by decide) (p := 4294967296) (by decide) (by decide)]
    unfold fin8
    have hA : ((x1 && (r27_1 8 (rmOf x0) x1 x2 x3 != 0)) || ((r27_1 8 (rmOf x0) x1 x2 x3 == 0) && ((r25_1 8 (rmOf x0) x1 x2 (r27_0 8 (rmOf x0) x1 x2 x3) != 0) || (r25_0 8 (rmOf x0) x1 x2 (r27_0 8 (rmOf x0) x1 x2 x3) != want x1 x3)))) = false := by
      by_cases hz : r27_1 8 (rmOf x0) x1 x2 x3 = 0
      · obtain ⟨j0, j1⟩ := i1 hz
        rw [hz, j0, j1]
        simp
      · have hx1 : x1 = false := by
          cases x1
          · rfl
          · exact absurd (i0 rfl) hz
        rw [show (r27_1 8 (rmOf x0) x1 x2 x3 == 0) = false from by simpa using hz, hx1]
        rfl
    rw [hA]
    rcases hf with ⟨n, b1, b2, b3, b4⟩ | ⟨n, b1, b2, b3⟩
    · rw [decide_eq_true n, b2, b3, b1, b4]
      simp
    · rw [decide_eq_false n, b1, b2, b3]
      simp
end Go.Proofs.Ytacciadcmiiimaa
