/- The plain law of ConvOrders. -/
import Derived.Test.YtacciadcmiiimaaCvC
namespace Go.Proofs.Ytacciadcmiiimaa
open Go Go.Sx
set_option maxRecDepth 100000

/-- the value of a float, in units of the least one -/
def val (s a : Int) : Int := if sgn s a then -(mag s a) else mag s a
def isNan (s a : Int) : Bool := decide (inf s < mag s a)
def isLoud (s a : Int) : Bool := decide (inf s < mag s a ∧ mag s a < qui s)
section
variable {s : Int} (hs : s = 4 ∨ s = 8) {a b : Int} (h : U a) (hb : U b)
include hs
theorem bits_u (a : Int) : U (bits s a) := (bits_parts hs a).1
theorem bits_mag (a : Int) : mag s (bits s a) = mag s a := (bits_parts hs a).2.1
theorem bits_sgn (a : Int) : sgn s (bits s a) = sgn s a := (bits_parts hs a).2.2
theorem bits_bits (a : Int) : bits s (bits s a) = bits s a := by unfold bits; rw [show mag s (mag s a + if sgn s a then top s else 0) = mag s a from bits_mag hs a, show sgn s (mag s a + if sgn s a then top s else 0) = sgn s a from bits_sgn hs a]
/-- a number's order and its value -/
theorem rnk_val (a b : Int) : (rnk s a < rnk s b → val s a ≤ val s b) ∧ (¬ rnk s a < rnk s b → val s b ≤ val s a) ∧
    (¬ (mag s a = 0 ∧ mag s b = 0) → (rnk s a < rnk s b ↔ val s a < val s b) ∧ (rnk s a = rnk s b ↔ val s a = val s b)) ∧ ((mag s a = 0 ∧ mag s b = 0) → val s a = val s b) := by
  have hm := g_mag hs a
  have hn := g_mag hs b
  unfold rnk val
  cases sgn s a <;> cases sgn s b <;> simp <;> omega
include h hb
theorem cmp_at (k : Int) (hk : k = 69 ∨ k = 70 ∨ k = 71) : r37_0 k s a b = if (isNan s a || isNan s b) = true then 0 else
    if (k = 69 ∧ val s a = val s b) ∨ (k = 70 ∧ val s a < val s b) ∨ (k = 71 ∧ val s a ≤ val s b) then 1 else 0 := by
  obtain ⟨_, _, h3, h4⟩ := rnk_val hs a b
  have ga : r87_0 (r62_2 s) a = rnk s a := g_rank hs h
  have gb : r87_0 (r62_2 s) b = rnk s b := g_rank hs hb
  have kk : ((k != 69 && k != 70) && k != 71) = false := by rw [← Bool.not_eq_true]; simp only [bl]; omega
  simp only [r37_0, g_known hs, g_class hs h, g_class hs hb, cls_nan hs, cls_zero hs, ga, gb, kk]
  change (bif !(!true || false) then bif !(isNan s a || isNan s b) then _ else 0 else 0) = _
  cases isNan s a || isNan s b with
  | true => rfl
  | false =>
    rw [if_neg (by decide)]
    change (bif !_ then (0 : Int) else 1) = _
    by_cases hz : mag s a = 0 ∧ mag s b = 0
    · have hv := h4 hz
      simp only [bl, hz, hv]
      (repeat' split) <;> omega
    · obtain ⟨h5, h6⟩ := h3 hz
      simp only [bl]
      rw [if_neg hz]
      (repeat' split) <;> omega
theorem cmp_flags : r37_1 69 s a b = if (isNan s a || isNan s b) = true then (if (isLoud s a || isLoud s b) = true then 16 else 0) else 0 := by
  simp only [r37_1, g_known hs, g_class hs h, g_class hs hb, cls_nan hs, cls_loud hs]
  change (bif !(!true || false) then bif !(isNan s a || isNan s b) then 0 else bif !((false || isLoud s a) || isLoud s b) then 0 else 16 else 0) = _
  cases isNan s a <;> cases isNan s b <;> cases isLoud s a <;> cases isLoud s b <;> rfl
theorem pick_at (k : Int) (hk : k = 67 ∨ k = 68) : r35_0 k s a b = if (isNan s a && isNan s b) = true then qui s else if isNan s a = true then bits s b else if isNan s b = true then bits s a else
    if (decide (rnk s a < rnk s b) == (k == 67)) = true then bits s a else bits s b := by
  have kk : (k != 67 && k != 68) = false := by rw [← Bool.not_eq_true]; simp only [bl]; omega
  simp only [r35_0, g_known hs, g_class hs h, g_class hs hb, g_minus hs h, g_minus hs hb, g_size hs h, g_size hs hb, signed_bits hs, rank_bits hs, cls_nan hs, g_cnan hs, kk]
  change (bif !(!true || false) then _ else 0) = _
  unfold isNan
  generalize decide (inf s < mag s a) = na
  generalize decide (inf s < mag s b) = nb
  generalize (decide (rnk s a < rnk s b) == (k == 67)) = lt
  cases na <;> cases nb <;> cases lt <;> rfl
theorem pick_flags (k : Int) (hk : k = 67 ∨ k = 68) : r35_1 k s a b = if (isLoud s a || isLoud s b) = true then 16 else 0 := by
  have kk : (k != 67 && k != 68) = false := by rw [← Bool.not_eq_true]; simp only [bl]; omega
  simp only [r35_1, g_known hs, g_class hs h, g_class hs hb, cls_loud hs, kk]
  change (bif !(!true || false) then (bif isLoud s a || isLoud s b then 16 else 0) else 0) = _
  cases isLoud s a <;> cases isLoud s b <;> rfl
omit hb in
theorem class_at : ∃ e : Nat, e < 10 ∧ r33_0 s a = ishl .u64 1 e ∧ (e ≥ 8 ↔ isNan s a = true) ∧ (e = 8 ↔ isLoud s a = true) := by
  have hl := cls_cases hs a
  have hc := g_const hs
  rw [class_c hs h]
  generalize hE : (if cls s a ≤ 7 ∧ sgn s a = true then 7 - cls s a else cls s a) = E
  have hr : 0 ≤ E ∧ E < 10 := by rw [← hE]; split <;> omega
  refine ⟨E.toNat, by omega, by rw [Int.toNat_of_nonneg hr.1], ?_, ?_⟩
  · unfold isNan
    rw [decide_eq_true_eq]
    rw [← hE] at hr ⊢
    split <;> omega
  · unfold isLoud
    rw [decide_eq_true_eq]
    rw [← hE] at hr ⊢
    split <;> omega
omit h hb in
/-- the other sign -/
theorem turned (a : Int) : U (ilxor .u64 (bits s a) (top s)) ∧ mag s (ilxor .u64 (bits s a) (top s)) = mag s a ∧ sgn s (ilxor .u64 (bits s a) (top s)) = !(sgn s a) := by
  have hm := g_mag hs a
  have hc := g_const hs
  have hu := bits_u hs a
  have hx : ilxor .u64 (bits s a) (top s) = mag s a + if sgn s a then 0 else top s := by
    have hs1 := bits_sgn hs a
    have : ilxor .u64 (bits s a) (top s) = if (bits s a) / top s % 2 = 1 then bits s a - top s else bits s a + top s := by
      rcases hs with rfl | rfl
      · exact lxor_bit hu.1 hu.2 31 (by decide) (by decide)
      · exact lxor_bit hu.1 hu.2 63 (by decide) (by decide)
    rw [this]
    unfold sgn at hs1
    cases hsg : sgn s a with
    | true =>
      unfold sgn at hsg
      rw [hsg, decide_eq_true_eq] at hs1
      rw [if_pos hs1]
      unfold bits sgn
      rw [hsg]; simp
    | false =>
      unfold sgn at hsg
      rw [hsg, decide_eq_false_iff_not] at hs1
      rw [if_neg hs1]
      unfold bits sgn
      rw [hsg]; simp
  rw [hx]
  cases hsg : sgn s a with
  | true =>
    simp only [if_true, Int.add_zero, Bool.not_true]
    refine ⟨⟨hm.1, by omega⟩, Int.emod_eq_of_lt hm.1 hm.2, ?_⟩
    unfold sgn
    rw [Int.ediv_eq_zero_of_lt hm.1 hm.2]; rfl
  | false =>
    simp only [Bool.false_eq_true, if_false, Bool.not_false]
    refine ⟨⟨by omega, by omega⟩, by unfold mag; rw [Int.add_emod_right]; exact Int.emod_eq_of_lt hm.1 hm.2, ?_⟩
    unfold sgn
    rw [show (mag s a + top s) / top s = 1 from by
        rw [Int.add_ediv_of_dvd_right (Int.dvd_refl _), Int.ediv_eq_zero_of_lt hm.1 hm.2, Int.ediv_self (by omega)]; rfl]
    rfl
end
theorem lxor_comm (a b : Int) : ilxor .u64 a b = ilxor .u64 b a := by unfold ilxor; rw [BitVec.xor_comm]
theorem land1 (n : Int) : iland .i64 n 1 = 0 ∨ iland .i64 n 1 = 1 := by
  have h : (BitVec.ofInt 64 n &&& BitVec.ofInt 64 1).toNat ≤ 1 := by
    rw [BitVec.toNat_and]
    exact Nat.le_trans Nat.and_le_right (by decide)
  have : iland .i64 n 1 = IntKind.wrap .i64 ((BitVec.ofInt 64 n &&& BitVec.ofInt 64 1).toNat : Int) := rfl
  rw [this, wrap_i64_of (by omega) (by omega)]
  omega
theorem or_classes : ∀ e f : Fin 10, (decide (ilor .u64 (ishl .u64 1 (e.val : Nat)) (ishl .u64 1 (f.val : Nat)) ≥ 256) = (decide (e.val ≥ 8) || decide (f.val ≥ 8))) ∧
    ((iland .u64 (ilor .u64 (ishl .u64 1 (e.val : Nat)) (ishl .u64 1 (f.val : Nat))) 256 != 0) = (decide (e.val = 8) || decide (f.val = 8))) := by decide +kernel
section
variable {s : Int} (hs : s = 4 ∨ s = 8) {a b : Int} (h : U a) (hb : U b)
include hs h hb
theorem or_at : decide (ilor .u64 (r33_0 s a) (r33_0 s b) ≥ 256) = (isNan s a || isNan s b) ∧ (iland .u64 (ilor .u64 (r33_0 s a) (r33_0 s b)) 256 != 0) = (isLoud s a || isLoud s b) := by
  obtain ⟨e, he, e1, e2, e3⟩ := class_at hs h
  obtain ⟨f, hf, f1, f2, f3⟩ := class_at hs hb
  have := or_classes ⟨e, he⟩ ⟨f, hf⟩
  rw [e1, f1, this.1, this.2]
  refine ⟨?_, ?_⟩
  · rw [Bool.eq_iff_iff]; simp only [bl]; rw [e2, f2]
  · rw [Bool.eq_iff_iff]; simp only [bl]; rw [e3, f3]
/-- The law, of a size and floats of it. -/
theorem orders_core (hA : bits s a = a) (hB : bits s b = b) :
    (bif !decide (ilor .u64 (r33_0 s a) (r33_0 s b) ≥ 256) then
        !(IntKind.wrap .u64 (IntKind.wrap .u64 (r37_0 70 s a b + r37_0 70 s b a) + r37_0 69 s a b) != 1 || r37_0 71 s a b != IntKind.wrap .u64 (r37_0 70 s a b + r37_0 69 s a b) ||
              r37_0 70 s (ilxor .u64 b (top s)) (ilxor .u64 a (top s)) != r37_0 70 s a b || r37_1 69 s a b != 0 || r35_1 67 s a b != 0 || r35_1 68 s a b != 0) &&
          (!(r35_0 67 s a b != a && r35_0 67 s a b != b || r35_0 68 s a b != a && r35_0 68 s a b != b || ilxor .u64 (r35_0 67 s a b) (r35_0 68 s a b) != ilxor .u64 a b) &&
            r37_0 70 s (r35_0 68 s a b) (r35_0 67 s a b) == 0)
      else
        IntKind.wrap .u64 (IntKind.wrap .u64 (IntKind.wrap .u64 (r37_0 70 s a b + r37_0 70 s b a) + r37_0 69 s a b) + r37_0 71 s a b) == 0 &&
                (r37_1 69 s a b == 16) == (iland .u64 (ilor .u64 (r33_0 s a) (r33_0 s b)) 256 != 0) &&
              (r35_1 67 s a b == 16) == (iland .u64 (ilor .u64 (r33_0 s a) (r33_0 s b)) 256 != 0) &&
            r35_1 67 s a b == r35_1 68 s a b && r35_0 67 s a b == r35_0 68 s a b) = true := by
  obtain ⟨o1, o2⟩ := or_at hs h hb
  have ta := turned hs a
  have tb := turned hs b
  rw [hA] at ta
  rw [hB] at tb
  have tv : isNan s (ilxor .u64 a (top s)) = isNan s a ∧ isNan s (ilxor .u64 b (top s)) = isNan s b ∧ val s (ilxor .u64 a (top s)) = - val s a ∧ val s (ilxor .u64 b (top s)) = - val s b := by
    refine ⟨by unfold isNan; rw [ta.2.1], by unfold isNan; rw [tb.2.1], ?_, ?_⟩
    · unfold val; rw [ta.2.1, ta.2.2]; cases sgn s a <;> simp
    · unfold val; rw [tb.2.1, tb.2.2]; cases sgn s b <;> simp
  have hr := rnk_val hs a b
  rw [o1, o2, cmp_at hs h hb 70 (by omega), cmp_at hs hb h 70 (by omega), cmp_at hs h hb 69 (by omega), cmp_at hs h hb 71 (by omega), cmp_at hs tb.1 ta.1 70 (by omega), tv.1, tv.2.1, tv.2.2.1, tv.2.2.2,
    cmp_flags hs h hb, pick_flags hs h hb 67 (by omega), pick_flags hs h hb 68 (by omega)]
  have hla : isLoud s a = true → isNan s a = true := by unfold isLoud isNan; simp; omega
  have hlb : isLoud s b = true → isNan s b = true := by unfold isLoud isNan; simp; omega
  cases hna : isNan s a with
  | true =>
    rw [pick_at hs h hb 67 (by omega), pick_at hs h hb 68 (by omega), hna, hA, hB]
    cases hnb : isNan s b <;> cases isLoud s a <;> cases isLoud s b <;> simp [wrap_u64]
  | false =>
    cases hnb : isNan s b with
    | true =>
      rw [pick_at hs h hb 67 (by omega), pick_at hs h hb 68 (by omega), hna, hnb, hA, hB]
      cases isLoud s a <;> cases isLoud s b <;> simp [wrap_u64]
    | false =>
      have hla' : isLoud s a = false := by rw [← Bool.not_eq_true]; intro hc; rw [hla hc] at hna; cases hna
      have hlb' : isLoud s b = false := by rw [← Bool.not_eq_true]; intro hc; rw [hlb hc] at hnb; cases hnb
      have p67 : r35_0 67 s a b = if rnk s a < rnk s b then a else b := by
        rw [pick_at hs h hb 67 (by omega), hna, hnb, hA, hB]
        by_cases c : rnk s a < rnk s b <;> simp [c]
      have p68 : r35_0 68 s a b = if rnk s a < rnk s b then b else a := by
        rw [pick_at hs h hb 68 (by omega), hna, hnb, hA, hB]
        by_cases c : rnk s a < rnk s b <;> simp [c]
      rw [hla', hlb', p67, p68]
      by_cases hlt : rnk s a < rnk s b
      · have hle := hr.1 hlt
        rw [if_pos hlt, if_pos hlt, cmp_at hs hb h 70 (by omega), hna, hnb]
        rcases Int.lt_trichotomy (val s a) (val s b) with c | c | c
        · have c1 : ¬ val s b < val s a := by omega
          have c2 : ¬ val s a = val s b := by omega
          have c3 : val s a ≤ val s b := by omega
          have c4 : - val s b < - val s a := by omega
          simp [c, c1, c2, c3, c4, wrap_u64]
        · have c1 : ¬ val s b < val s a := by omega
          have c2 : ¬ val s a < val s b := by omega
          have c3 : val s a ≤ val s b := by omega
          have c4 : ¬ - val s b < - val s a := by omega
          simp [c, wrap_u64]
        · omega
      · have hle := hr.2.1 hlt
        rw [if_neg hlt, if_neg hlt, cmp_at hs h hb 70 (by omega), hna, hnb, lxor_comm b a]
        rcases Int.lt_trichotomy (val s a) (val s b) with c | c | c
        · omega
        · simp [c, wrap_u64]
        · have c1 : ¬ val s a < val s b := by omega
          have c2 : ¬ val s a = val s b := by omega
          have c3 : ¬ val s a ≤ val s b := by omega
          have c4 : ¬ - val s b < - val s a := by omega
          simp [c, c1, c2, c3, c4, wrap_u64]
end
theorem conv_orders {n a b : Int} (h : U a) (hb : U b) : p9 n a b = true ∧ r9_0 n a b = true := by
  obtain ⟨s, hs, e9, e13, e12⟩ : ∃ s : Int, (s = 4 ∨ s = 8) ∧ IntKind.wrap .i64 (4 + IntKind.wrap .i64 (4 * iland .i64 n 1)) = s ∧ ishl .u64 1 (IntKind.wrap .i64 (IntKind.wrap .i64 (8 * s) - 1)) = top s ∧ decide (IntKind.wrap .i64 (IntKind.wrap .i64 (8 * s) - 1) ≥ 0) = true := by
    rcases land1 n with e | e <;> rw [e]
    · exact ⟨4, .inl rfl, by decide, by decide, by decide⟩
    · exact ⟨8, .inr rfl, by decide, by decide, by decide⟩
  have ea : r42_0 s a = bits s a := g_mask hs h
  have eb : r42_0 s b = bits s b := g_mask hs hb
  have ua := bits_u hs a
  have ub := bits_u hs b
  have core := orders_core hs ua ub (bits_bits hs a) (bits_bits hs b)
  constructor
  · have q37 : ∀ {k a b : Int}, U a → U b → p37 k s a b = true := fun h h' => (compare_known hs h h' _).2.2.1
    have q35 : ∀ {k a b : Int}, U a → U b → p35 k s a b = true := fun h h' => (pick_known hs h h' _).2.2.1
    have q33 : ∀ {a : Int}, U a → p33 s a = true := fun h => (class_p hs h).1
    have ta := (turned hs a).1
    have tb := (turned hs b).1
    have up : ∀ k, (k = 67 ∨ k = 68) → U (r35_0 k s (bits s a) (bits s b)) := fun k hk => by
      rw [pick_at hs ua ub k hk, bits_bits hs, bits_bits hs]
      have hc := g_const hs
      have : U (qui s) := ⟨by omega, by omega⟩
      repeat' split
      all_goals assumption
    simp only [p9, e9, e13, e12, ea, eb, awake_ok, q37 ua ub, q37 ub ua, q35 ua ub, q33 ua, q33 ub, q37 tb ta, q37 (up 68 (by omega)) (up 67 (by omega)), ow_t, List.all_cons, List.all_nil, id, Bool.and_true]
  · simp only [r9_0, e9, e13, ea, eb, awake_ok]
    rw [show (!!true) = true from rfl, Bool.true_and]
    exact core
end Go.Proofs.Ytacciadcmiiimaa
