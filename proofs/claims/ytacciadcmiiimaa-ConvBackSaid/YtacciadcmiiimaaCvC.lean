/- The plain laws of ConvBoxes, ConvSigns, ConvPicks. -/
import Derived.Test.YtacciadcmiiimaaCvB
namespace Go.Proofs.Ytacciadcmiiimaa
open Go Go.Sx
set_option maxRecDepth 100000

/-! ### ConvBoxes -/
theorem box_c {a : Int} (h : U a) : r21_0 a = a % 4294967296 + 18446744069414584320 := by
  have h1 := h.1
  have h2 := h.2
  simp only [r21_0]
  rw [wrap_u32, wrap_u64_of (by omega) (by omega)]
  exact lor_high (by omega) 32 (by show _ < (4294967296 : Int); omega) 4294967295 (by decide) (by decide) (by decide)
theorem box_r {a : Int} (h : U a) : r22_0 a = a % 4294967296 + 18446744069414584320 := by
  have h1 := h.1
  have h2 := h.2
  simp only [r22_0]
  rw [land_mask h.1 h.2 32 (by decide) (p := 4294967296) (by decide) (by decide)]
  exact lor_high (by omega) 32 (by show _ < (4294967296 : Int); omega) 4294967295 (by decide) (by decide) (by decide)
theorem unbox_c {a : Int} (h : U a) : r23_0 a = if a / 4294967296 = 4294967295 then a % 4294967296 else qui 4 := by
  have h1 := h.1
  have h2 := h.2
  simp only [r23_0]
  rw [show ishr .u64 a 32 = a / 4294967296 from shr_of 32 (by decide) (by decide), g_cnan (.inl rfl), wrap_u32, wrap_u64_of (by omega) (by omega)]
  (simp only [bl] <;> (repeat' split) <;> omega)
theorem unbox_r {a : Int} (h : U a) : r24_0 a = if a / 4294967296 = 4294967295 then a % 4294967296 else qui 4 := by
  simp only [r24_0]
  rw [show ishr .u64 a 32 = a / 4294967296 from shr_of 32 (by decide) (by decide), g_quiet (.inl rfl), land_mask h.1 h.2 32 (by decide) (p := 4294967296) (by decide) (by decide)]
  (simp only [bl] <;> (repeat' split) <;> omega)
theorem p23_ok (a : Int) : p23 a = true := by
  simp only [p23, g_p63 (.inl rfl), ow_t, List.all_cons, List.all_nil, id, Bool.and_true]
theorem conv_boxes {a : Int} (h : U a) : p3 a = true ∧ r3_0 a = true := by
  have h1 := h.1
  have h2 := h.2
  refine ⟨by simp only [p3, awake_ok, p23_ok, ow_t, List.all_cons, List.all_nil, id, Bool.and_true], ?_⟩
  have e : U (a % 4294967296 + 18446744069414584320) := ⟨by omega, by omega⟩
  have e2 : r23_0 (r21_0 a) = a % 4294967296 := by rw [box_c h, unbox_c e, if_pos (by omega)]; omega
  simp only [r3_0, awake_ok]
  rw [e2, unbox_c h, unbox_r h, box_c h, box_r h, land_mask h.1 h.2 32 (by decide) (p := 4294967296) (by decide) (by decide)]
  simp

/-! ### Classes -/
section
variable {s : Int} (hs : s = 4 ∨ s = 8) {a b : Int} (h : U a) (hb : U b)
include hs
theorem cls_cases (a : Int) : (cls s a = 9 ∧ qui s ≤ mag s a) ∨ (cls s a = 8 ∧ inf s < mag s a ∧ mag s a < qui s) ∨ (cls s a = 7 ∧ mag s a = inf s) ∨
    (cls s a = 6 ∧ one s ≤ mag s a ∧ mag s a < inf s) ∨ (cls s a = 5 ∧ 0 < mag s a ∧ mag s a < one s) ∨ (cls s a = 4 ∧ mag s a = 0) := by
  have hc := g_const hs
  have hm := g_mag hs a
  unfold cls
  repeat' split
  all_goals omega
theorem cls_nan (a : Int) : decide (cls s a ≥ 8) = decide (inf s < mag s a) := by
  have hc := g_const hs
  have := cls_cases hs a
  rw [decide_eq_decide]; omega
theorem cls_loud (a : Int) : (cls s a == 8) = decide (inf s < mag s a ∧ mag s a < qui s) := by
  have hc := g_const hs
  have := cls_cases hs a
  rw [ibeq, decide_eq_decide]; omega
theorem cls_zero (a : Int) : (cls s a == 4) = decide (mag s a = 0) := by
  have hc := g_const hs
  have := cls_cases hs a
  rw [ibeq, decide_eq_decide]; omega
theorem or_sign {m : Int} (c : Bool) (h0 : 0 ≤ m) (h1 : m < top s) : ilor .u64 m (if c then top s else 0) = if c then m + top s else m := by
  cases c with
  | false =>
    obtain ⟨n, rfl⟩ := int_nat h0
    have := g_const hs
    have := lor_nn (a := n) (b := 0) (by omega) (by decide)
    simpa using this
  | true =>
    show ilor .u64 m (top s) = m + top s
    rcases hs with rfl | rfl
    · exact lor_high h0 31 h1 1 (by decide) (by decide) (by decide)
    · exact lor_high h0 63 h1 1 (by decide) (by decide) (by decide)
theorem shr_one {m : Int} : ishr .u64 m (bif s == 8 then 52 else 23) = m / one s := by
  rcases hs with rfl | rfl
  · exact shr_of 23 (by decide) (by decide)
  · exact shr_of 52 (by decide) (by decide)
theorem p52 : decide ((bif s == 8 then (52 : Int) else 23) ≥ 0) = true := by rcases hs with rfl | rfl <;> decide
include h
theorem class_c : r33_0 s a = ishl .u64 1 (if cls s a ≤ 7 ∧ sgn s a = true then 7 - cls s a else cls s a) := by
  have := cls_cases hs a
  simp only [r33_0, g_known hs, g_class hs h, g_minus hs h]
  rw [wrap_i64_of (by omega) (by omega)]
  simp only [Bool.not_true, Bool.not_false, cond_true]
  congr 1
  simp only [bl]
theorem class_r : r34_0 s a = ishl .u64 1 (if cls s a ≤ 7 ∧ sgn s a = true then 7 - cls s a else cls s a) := by
  have hc := g_const hs
  have hm := g_mag hs a
  have hl := cls_cases hs a
  simp only [r34_0, g_known hs, g_loud hs h, g_nan hs h, g_isinf hs h, g_zero hs h, g_parts0 hs h, r74_0, g_nought hs, if_pos, g_off hs h, shr_one hs]
  have e8 : (256 : Int) = ishl .u64 1 8 := by decide
  have e9 : (512 : Int) = ishl .u64 1 9 := by decide
  have hone : (mag s a / one s == 0) = decide (mag s a < one s) := by
    rw [ibeq, decide_eq_decide]
    rcases hs with rfl | rfl
    · rw [show one 4 = 8388608 from rfl]; omega
    · rw [show one 8 = 4503599627370496 from rfl]; omega
  rw [hone]
  rcases hl with ⟨c, d⟩ | ⟨c, d⟩ | ⟨c, d⟩ | ⟨c, d⟩ | ⟨c, d⟩ | ⟨c, d⟩
  · rw [c, decide_eq_false (by omega : ¬ (inf s < mag s a ∧ mag s a < qui s)), decide_eq_true (by omega : inf s < mag s a)]; rw [if_neg (by omega)]; exact e9
  · rw [c, decide_eq_true (by omega : inf s < mag s a ∧ mag s a < qui s)]; rw [if_neg (by omega)]; exact e8
  · rw [c, decide_eq_false (by omega : ¬ (inf s < mag s a ∧ mag s a < qui s)), decide_eq_false (by omega : ¬ (inf s < mag s a)), decide_eq_true (by omega : mag s a = inf s)]
    generalize decide (mag s a = 0) = u; generalize decide (mag s a < one s) = v; cases sgn s a <;> cases u <;> cases v <;> decide
  · rw [c, decide_eq_false (by omega : ¬ (inf s < mag s a ∧ mag s a < qui s)), decide_eq_false (by omega : ¬ (inf s < mag s a)), decide_eq_false (by omega : ¬ (mag s a = inf s)), decide_eq_false (by omega : ¬ (mag s a = 0)), decide_eq_false (by omega : ¬ (mag s a < one s))]; cases sgn s a <;> decide
  · rw [c, decide_eq_false (by omega : ¬ (inf s < mag s a ∧ mag s a < qui s)), decide_eq_false (by omega : ¬ (inf s < mag s a)), decide_eq_false (by omega : ¬ (mag s a = inf s)), decide_eq_false (by omega : ¬ (mag s a = 0)), decide_eq_true (by omega : mag s a < one s)]; cases sgn s a <;> decide
  · rw [c, decide_eq_false (by omega : ¬ (inf s < mag s a ∧ mag s a < qui s)), decide_eq_false (by omega : ¬ (inf s < mag s a)), decide_eq_false (by omega : ¬ (mag s a = inf s)), decide_eq_true (by omega : mag s a = 0)]
    generalize decide (mag s a < one s) = v; cases sgn s a <;> cases v <;> decide
theorem class_p : p33 s a = true ∧ p34 s a = true := by
  have hl := cls_cases hs a
  constructor
  · simp only [p33, g_known hs, g_p67 hs, g_class hs h, g_minus hs h]
    rw [wrap_i64_of (by omega) (by omega), show decide ((bif decide (cls s a ≤ 7) && sgn s a then 7 - cls s a else cls s a) ≥ 0) = true from by
      rw [decide_eq_true_eq]; (simp only [bl] <;> (repeat' split) <;> omega)]
    simp only [ow_t, List.all_cons, List.all_nil, id, Bool.and_true]
  · simp only [p34, g_known hs, g_p41 hs, g_p90 hs, g_p85 hs, p52 hs, ow_t]
    have e : ∀ x y z u : Bool, decide ((bif x then IntKind.wrap .i64 (7 - bif y then 7 else bif z then 4 else bif u then 5 else 6) else bif y then 7 else bif z then 4 else bif u then 5 else 6) ≥ 0) = true := by decide
    rw [e]
    simp only [ow_t, List.all_cons, List.all_nil, id, Bool.and_true]
include hb
/-- The signs' statement, of a known size. -/
theorem sign_known (k : Int) : r31_0 k s a b = r32_0 k s a b ∧ p32 k s a b = true := by
  have hm := g_mag hs a
  have hc := g_const hs
  constructor
  · simp only [r31_0, r32_0, g_known hs, g_minus hs h, g_minus hs hb, g_size hs h, r74_0, g_parts0 hs h, g_parts0 hs hb, g_nought hs (b := true), if_true, g_off hs h]
    rw [g_nought hs, or_sign hs _ hm.1 hm.2]
    simp only [g_signed hs _ hm.1 hm.2]
    generalize mag s a = m at *
    by_cases k64 : k = 64
    · subst k64
      cases sgn s a <;> cases sgn s b <;> rfl
    · by_cases k65 : k = 65
      · subst k65
        cases sgn s a <;> cases sgn s b <;> rfl
      · by_cases k66 : k = 66
        · subst k66
          cases sgn s a <;> cases sgn s b <;> rfl
        · have e1 : (k == 64) = false := by rw [ibeq]; simpa using k64
          have e2 : (k == 65) = false := by rw [ibeq]; simpa using k65
          have e3 : (k == 66) = false := by rw [ibeq]; simpa using k66
          have e4 : (decide (k < 64) || decide (k > 66)) = true := by simp; omega
          rw [e1, e2, e3]
          simp [e4]
  · simp only [p32, g_p90 hs, g_p85 hs, ow_t, List.all_cons, List.all_nil, id, Bool.and_true]
end
theorem ow_f (b : Bool) (l : List (Bool × Bool)) : ow ((false, true) :: l) b = true := by simp [ow]
theorem conv_signs {k s a b : Int} (h : U a) (hb : U b) : p6 k s a b = true ∧ r6_0 k s a b = true := by
  by_cases hs : s = 4 ∨ s = 8
  · obtain ⟨e1, e2⟩ := sign_known hs h hb k
    obtain ⟨e3, e4⟩ := class_p hs h
    refine ⟨by simp only [p6, awake_ok, e2, e3, e4, ow_t, List.all_cons, List.all_nil, id, Bool.and_true], ?_⟩
    simp only [r6_0, awake_ok, e1, class_c hs h, class_r hs h]
    simp
  · obtain ⟨u1, u2⟩ := unknown hs
    have e1 : r31_0 k s a b = 0 := by simp only [r31_0, u1]; rfl
    have e2 : r32_0 k s a b = 0 := by simp only [r32_0, u2]; rfl
    have e3 : r33_0 s a = 0 := by simp only [r33_0, u1]; rfl
    have e4 : r34_0 s a = 0 := by simp only [r34_0, u2]; rfl
    have e5 : p32 k s a b = true := by simp only [p32, u2, Bool.not_false, Bool.true_or, Bool.not_true, ow_f, List.all_cons, List.all_nil, id, Bool.and_true]
    have e6 : p33 s a = true := by simp only [p33, u1, Bool.not_false, Bool.not_true, ow_f, List.all_cons, List.all_nil, id, Bool.and_true]
    have e7 : p34 s a = true := by simp only [p34, u2, Bool.not_false, Bool.not_true, ow_f, List.all_cons, List.all_nil, id, Bool.and_true]
    refine ⟨by simp only [p6, awake_ok, e5, e6, e7, ow_t, List.all_cons, List.all_nil, id, Bool.and_true], ?_⟩
    simp only [r6_0, awake_ok, e1, e2, e3, e4]
    rfl

/-! ### Picks and comparisons -/
/-- a float's bits -/
def bits (s a : Int) : Int := mag s a + if sgn s a then top s else 0
def rnk (s a : Int) : Int := if sgn s a then -1 - mag s a else mag s a
section
variable {s : Int} (hs : s = 4 ∨ s = 8) {a b : Int} (h : U a) (hb : U b)
include hs
theorem bits_parts (a : Int) : U (bits s a) ∧ mag s (bits s a) = mag s a ∧ sgn s (bits s a) = sgn s a := by
  have hm := g_mag hs a
  have hc := g_const hs
  unfold bits
  generalize mag s a = m at *
  refine ⟨by unfold U; split <;> omega, ?_, ?_⟩
  · unfold mag
    split
    · rw [Int.add_emod_right]; exact Int.emod_eq_of_lt hm.1 hm.2
    · rw [Int.add_zero]; exact Int.emod_eq_of_lt hm.1 hm.2
  · cases hsg : sgn s a with
    | true =>
      unfold sgn
      rw [if_pos rfl, show (m + top s) / top s = 1 from by
        rw [Int.add_ediv_of_dvd_right (Int.dvd_refl _), Int.ediv_eq_zero_of_lt hm.1 hm.2, Int.ediv_self (by omega)]; rfl]
      rfl
    | false =>
      unfold sgn
      rw [if_neg (by decide), Int.add_zero, Int.ediv_eq_zero_of_lt hm.1 hm.2]
      rfl
theorem signed_bits (a : Int) : r82_0 (r62_2 s) (sgn s a) (mag s a) = bits s a := by
  have hm := g_mag hs a
  rw [g_signed hs _ hm.1 hm.2]
  unfold bits
  split <;> omega
theorem rank_bits (a : Int) : r87_0 (r62_2 s) (bits s a) = rnk s a := by
  obtain ⟨h1, h2, h3⟩ := bits_parts hs a
  rw [g_rank hs h1, h2, h3]; rfl
theorem bits_inj (a b : Int) : decide (bits s a = bits s b) = decide (rnk s a = rnk s b) := by
  have hm := g_mag hs a
  have hn := g_mag hs b
  rw [decide_eq_decide]
  unfold bits rnk
  cases sgn s a <;> cases sgn s b <;> simp <;> omega
include h hb
theorem pick_known (k : Int) : r35_0 k s a b = r36_0 k s a b ∧ r35_1 k s a b = r36_1 k s a b ∧ p35 k s a b = true ∧ p36 k s a b = true := by
  have ea : r42_0 s a = bits s a := g_mask hs h
  have eb : r42_0 s b = bits s b := g_mask hs hb
  have fa : r88_0 s a = rnk s a := g_order hs h
  have fb : r88_0 s b = rnk s b := g_order hs hb
  refine ⟨?_, ?_, ?_, ?_⟩
  · simp only [r35_0, r36_0, g_known hs, g_class hs h, g_class hs hb, g_minus hs h, g_minus hs hb, g_size hs h, g_size hs hb, signed_bits hs, rank_bits hs, cls_nan hs, g_cnan hs,
      g_nan hs h, g_nan hs hb, g_quiet hs, ea, eb, fa, fb]
    generalize decide (inf s < mag s a) = na
    generalize decide (inf s < mag s b) = nb
    generalize decide (rnk s a < rnk s b) = lt
    generalize (k == 67) = k67
    generalize (k != 67 && k != 68) = kk
    cases na <;> cases nb <;> cases lt <;> cases k67 <;> cases kk <;> rfl
  · simp only [r35_1, r36_1, g_known hs, g_class hs h, g_class hs hb, cls_loud hs, g_loud hs h, g_loud hs hb]
  · simp only [p35, g_p67 hs, g_p63 hs, ow_t, List.all_cons, List.all_nil, id, Bool.and_true]
  · simp only [p36, g_p41 hs, g_p90 hs, ow_t, List.all_cons, List.all_nil, id, Bool.and_true]
theorem compare_known (k : Int) : r37_0 k s a b = r38_0 k s a b ∧ r37_1 k s a b = r38_1 k s a b ∧ p37 k s a b = true ∧ p38 k s a b = true := by
  have ea : r42_0 s a = bits s a := g_mask hs h
  have eb : r42_0 s b = bits s b := g_mask hs hb
  have fa : r88_0 s a = rnk s a := g_order hs h
  have fb : r88_0 s b = rnk s b := g_order hs hb
  have ga : r87_0 (r62_2 s) a = rnk s a := g_rank hs h
  have gb : r87_0 (r62_2 s) b = rnk s b := g_rank hs hb
  have kk : ((!true || decide (k < 69)) || decide (k > 71)) = (!true || ((k != 69 && k != 70) && k != 71)) := by
    rw [Bool.eq_iff_iff]; simp only [bl]; omega
  refine ⟨?_, ?_, ?_, ?_⟩
  · simp only [r37_0, r38_0, g_known hs, g_class hs h, g_class hs hb, cls_nan hs, cls_zero hs, g_nan hs h, g_nan hs hb, g_zero hs h, g_zero hs hb, ea, eb, fa, fb, ga, gb, kk, ibeq (bits s a), bits_inj hs]
    generalize decide (inf s < mag s a) = na
    generalize decide (inf s < mag s b) = nb
    generalize decide (mag s a = 0) = za
    generalize decide (mag s b = 0) = zb
    generalize rnk s a = x
    generalize rnk s b = y
    by_cases hk : ((k != 69 && k != 70) && k != 71) = true
    · rw [hk]; rfl
    · rw [Bool.not_eq_true] at hk
      rw [hk]
      have h3 : k = 69 ∨ k = 70 ∨ k = 71 := by
        revert hk; simp only [bl]; omega
      rcases Int.lt_trichotomy x y with c | c | c
      · have c1 : (x == y) = false := by rw [ibeq]; simp; omega
        have c2 : decide (x = y) = false := by simp; omega
        have c3 : decide (x < y) = true := by simp; omega
        have c4 : decide (x ≤ y) = true := by simp; omega
        have c5 : decide (y < y) = false := by simp
        have c6 : (y == y) = true := by simp
        have c7 : decide (y ≤ y) = true := by simp
        rcases h3 with rfl | rfl | rfl <;> cases na <;> cases nb <;> cases za <;> cases zb <;> simp [c1, c2, c3, c4]
      · subst c
        rcases h3 with rfl | rfl | rfl <;> cases na <;> cases nb <;> cases za <;> cases zb <;> simp
      · have c1 : (x == y) = false := by rw [ibeq]; simp; omega
        have c2 : decide (x = y) = false := by simp; omega
        have c3 : decide (x < y) = false := by simp; omega
        have c4 : decide (x ≤ y) = false := by simp; omega
        rcases h3 with rfl | rfl | rfl <;> cases na <;> cases nb <;> cases za <;> cases zb <;> simp [c1, c2, c3, c4]
  · simp only [r37_1, r38_1, g_known hs, g_class hs h, g_class hs hb, cls_nan hs, cls_loud hs, g_nan hs h, g_nan hs hb, g_loud hs h, g_loud hs hb, kk]
  · simp only [p37, g_p67 hs, ow_t, List.all_cons, List.all_nil, id, Bool.and_true]
  · simp only [p38, g_p41 hs, g_p90 hs, ow_t, List.all_cons, List.all_nil, id, Bool.and_true]
end
theorem conv_picks {k s a b : Int} (h : U a) (hb : U b) : p7 k s a b = true ∧ r7_0 k s a b = true := by
  by_cases hs : s = 4 ∨ s = 8
  · obtain ⟨e1, e2, e3, e4⟩ := pick_known hs h hb k
    obtain ⟨f1, f2, f3, f4⟩ := compare_known hs h hb k
    refine ⟨by simp only [p7, awake_ok, e3, e4, f3, f4, ow_t, List.all_cons, List.all_nil, id, Bool.and_true], ?_⟩
    simp only [r7_0, awake_ok, e1, e2, f1, f2]
    simp
  · obtain ⟨u1, u2⟩ := unknown hs
    have e1 : r35_0 k s a b = 0 ∧ r35_1 k s a b = 0 ∧ r37_0 k s a b = 0 ∧ r37_1 k s a b = 0 := by
      refine ⟨?_, ?_, ?_, ?_⟩
      · simp only [r35_0, u1]; rfl
      · simp only [r35_1, u1]; rfl
      · simp only [r37_0, u1]; rfl
      · simp only [r37_1, u1]; rfl
    have e2 : r36_0 k s a b = 0 ∧ r36_1 k s a b = 0 ∧ r38_0 k s a b = 0 ∧ r38_1 k s a b = 0 := by
      refine ⟨?_, ?_, ?_, ?_⟩
      · simp only [r36_0, u2]; rfl
      · simp only [r36_1, u2]; rfl
      · simp only [r38_0, u2]; rfl
      · simp only [r38_1, u2]; rfl
    have e3 : p35 k s a b = true ∧ p36 k s a b = true ∧ p37 k s a b = true ∧ p38 k s a b = true := by
      refine ⟨?_, ?_, ?_, ?_⟩
      · simp only [p35, u1, Bool.not_false, Bool.true_or, Bool.not_true, ow_f, List.all_cons, List.all_nil, id, Bool.and_true]
      · simp only [p36, u2, Bool.not_false, Bool.true_or, Bool.not_true, ow_f, List.all_cons, List.all_nil, id, Bool.and_true]
      · simp only [p37, u1, Bool.not_false, Bool.true_or, Bool.not_true, ow_f, List.all_cons, List.all_nil, id, Bool.and_true]
      · simp only [p38, u2, Bool.not_false, Bool.true_or, Bool.not_true, ow_f, List.all_cons, List.all_nil, id, Bool.and_true]
    refine ⟨by simp only [p7, awake_ok, e3, ow_t, List.all_cons, List.all_nil, id, Bool.and_true], ?_⟩
    simp only [r7_0, awake_ok, e1, e2]
    rfl
theorem uOf {a : Int} (h : (Lit.int .u64 a).wf = true) : U a := by
  simp [Lit.wf, IntKind.min, IntKind.max, IntKind.signed, IntKind.bits] at h
  exact ⟨by omega, by omega⟩
end Go.Proofs.Ytacciadcmiiimaa
