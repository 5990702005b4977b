/- The plain law of PmpRanges, part three: both ranges are one. -/
import Derived.Test.YtoebecinndbnoaaDoorPmS
namespace Go.Proofs.YtoebecinndbnoaaDoor
open Go Go.Sx
set_option maxRecDepth 100000

/-- An entry's first byte, last byte and whether it has any, as the program has them: q: the number is in range; b1, b2, b3: the way; g: not the first entry; a: the entry's address, e: the one ahead. -/
noncomputable def from8 (a : Int) : Int := IntKind.wrap .u64 (ishl .u64 (ishr .u64 a (IntKind.wrap .i64 (r18_0 (ilxor .u64 18446744073709551615 a) + 1))) (IntKind.wrap .i64 (r18_0 (ilxor .u64 18446744073709551615 a) + 1)) * 4)
noncomputable def size8 (a : Int) : Int := ishl .u64 1 (IntKind.wrap .i64 (r18_0 (ilxor .u64 18446744073709551615 a) + 3))
noncomputable def none8 (b1 b2 b3 : Bool) : Bool := bif b1 then false else bif b2 then false else !b3
noncomputable def lo8 (q b1 b2 b3 g : Bool) (a e : Int) : Int :=
  bif q then (bif none8 b1 b2 b3 then 0 else bif b1 then (bif !(decide ((bif g then IntKind.wrap .u64 (e * 4) else 0) ≥ IntKind.wrap .u64 (a * 4))) then (bif g then IntKind.wrap .u64 (e * 4) else 0) else 0) else bif b2 then IntKind.wrap .u64 (a * 4) else from8 a) else 0
noncomputable def hi8 (q b1 b2 b3 g : Bool) (a e : Int) : Int :=
  bif q then (bif none8 b1 b2 b3 then 0 else bif b1 then (bif !(decide ((bif g then IntKind.wrap .u64 (e * 4) else 0) ≥ IntKind.wrap .u64 (a * 4))) then IntKind.wrap .u64 (IntKind.wrap .u64 (a * 4) - 1) else 0) else bif b2 then IntKind.wrap .u64 (IntKind.wrap .u64 (a * 4) + 3) else IntKind.wrap .u64 (IntKind.wrap .u64 (from8 a + size8 a) - 1)) else 0
noncomputable def ok8 (q b1 b2 b3 g : Bool) (a e : Int) : Bool :=
  q && (bif none8 b1 b2 b3 then false else bif b1 then !(decide ((bif g then IntKind.wrap .u64 (e * 4) else 0) ≥ IntKind.wrap .u64 (a * 4))) else true)
section
variable (x0 x1 x2 x3 x4 x5 x6 x7 x8 x9 x10 x11 x12 x13 x14 x15 n : Int)
noncomputable abbrev inr8 : Bool := !(decide (n < 0) || decide (n ≥ 8))
theorem r8_0_eq : r8_0 x0 x1 x2 x3 x4 x5 x6 x7 x8 x9 x10 x11 x12 x13 x14 x15 n =
    lo8 (inr8 n) (r17_0 (sel [x0, x1, x2, x3, x4, x5, x6, x7] n) == 1) (r17_0 (sel [x0, x1, x2, x3, x4, x5, x6, x7] n) == 2) (r17_0 (sel [x0, x1, x2, x3, x4, x5, x6, x7] n) == 3) (decide (n > 0))
      (iland .u64 (sel [x8, x9, x10, x11, x12, x13, x14, x15] n) 18014398509481983) (iland .u64 (sel [x8, x9, x10, x11, x12, x13, x14, x15] (IntKind.wrap .i64 (n - 1))) 18014398509481983) := rfl
theorem r8_1_eq : r8_1 x0 x1 x2 x3 x4 x5 x6 x7 x8 x9 x10 x11 x12 x13 x14 x15 n =
    hi8 (inr8 n) (r17_0 (sel [x0, x1, x2, x3, x4, x5, x6, x7] n) == 1) (r17_0 (sel [x0, x1, x2, x3, x4, x5, x6, x7] n) == 2) (r17_0 (sel [x0, x1, x2, x3, x4, x5, x6, x7] n) == 3) (decide (n > 0))
      (iland .u64 (sel [x8, x9, x10, x11, x12, x13, x14, x15] n) 18014398509481983) (iland .u64 (sel [x8, x9, x10, x11, x12, x13, x14, x15] (IntKind.wrap .i64 (n - 1))) 18014398509481983) := rfl
theorem r8_2_eq : r8_2 x0 x1 x2 x3 x4 x5 x6 x7 x8 x9 x10 x11 x12 x13 x14 x15 n =
    ok8 (inr8 n) (r17_0 (sel [x0, x1, x2, x3, x4, x5, x6, x7] n) == 1) (r17_0 (sel [x0, x1, x2, x3, x4, x5, x6, x7] n) == 2) (r17_0 (sel [x0, x1, x2, x3, x4, x5, x6, x7] n) == 3) (decide (n > 0))
      (iland .u64 (sel [x8, x9, x10, x11, x12, x13, x14, x15] n) 18014398509481983) (iland .u64 (sel [x8, x9, x10, x11, x12, x13, x14, x15] (IntKind.wrap .i64 (n - 1))) 18014398509481983) := rfl
end

/-- The same as the document has them. -/
noncomputable def size9 (a : Int) : Int := r100901_1 8 a
noncomputable def from9 (a : Int) : Int := IntKind.wrap .u64 (IntKind.wrap .u64 (Int.tdiv (IntKind.wrap .u64 (4 * a)) (size9 a)) * size9 a)
noncomputable def l9 (b1 b2 b3 g : Bool) (a e : Int) : Int := bif b1 then (bif g then IntKind.wrap .u64 (4 * e) else 0) else bif b2 then IntKind.wrap .u64 (4 * a) else bif b3 then from9 a else 0
noncomputable def h9 (b1 b2 b3 : Bool) (a : Int) : Int := bif b1 then IntKind.wrap .u64 (4 * a) else bif b2 then IntKind.wrap .u64 (IntKind.wrap .u64 (4 * a) + 4) else bif b3 then IntKind.wrap .u64 (from9 a + size9 a) else 0
noncomputable def lo9 (q b1 b2 b3 g : Bool) (a e : Int) : Int := bif q then (bif !(decide (l9 b1 b2 b3 g a e ≥ h9 b1 b2 b3 a)) then l9 b1 b2 b3 g a e else 0) else 0
noncomputable def hi9 (q b1 b2 b3 g : Bool) (a e : Int) : Int := bif q then (bif !(decide (l9 b1 b2 b3 g a e ≥ h9 b1 b2 b3 a)) then IntKind.wrap .u64 (h9 b1 b2 b3 a - 1) else 0) else 0
noncomputable def ok9 (q b1 b2 b3 g : Bool) (a e : Int) : Bool := q && !(decide (l9 b1 b2 b3 g a e ≥ h9 b1 b2 b3 a))
section
variable (x0 x1 x2 x3 x4 x5 x6 x7 x8 x9 x10 x11 x12 x13 x14 x15 n : Int)
noncomputable abbrev inr9 : Bool := !(decide (n < 0) || decide (n > 7))
theorem r9_0_eq : r9_0 x0 x1 x2 x3 x4 x5 x6 x7 x8 x9 x10 x11 x12 x13 x14 x15 n =
    lo9 (inr9 n) (r20_0 (sel [x0, x1, x2, x3, x4, x5, x6, x7] n) == 1) (r20_0 (sel [x0, x1, x2, x3, x4, x5, x6, x7] n) == 2) (r20_0 (sel [x0, x1, x2, x3, x4, x5, x6, x7] n) == 3) (decide (n > 0))
      (r19_0 (sel [x8, x9, x10, x11, x12, x13, x14, x15] n)) (r19_0 (sel [x8, x9, x10, x11, x12, x13, x14, x15] (IntKind.wrap .i64 (n - 1)))) := rfl
theorem r9_1_eq : r9_1 x0 x1 x2 x3 x4 x5 x6 x7 x8 x9 x10 x11 x12 x13 x14 x15 n =
    hi9 (inr9 n) (r20_0 (sel [x0, x1, x2, x3, x4, x5, x6, x7] n) == 1) (r20_0 (sel [x0, x1, x2, x3, x4, x5, x6, x7] n) == 2) (r20_0 (sel [x0, x1, x2, x3, x4, x5, x6, x7] n) == 3) (decide (n > 0))
      (r19_0 (sel [x8, x9, x10, x11, x12, x13, x14, x15] n)) (r19_0 (sel [x8, x9, x10, x11, x12, x13, x14, x15] (IntKind.wrap .i64 (n - 1)))) := rfl
theorem r9_2_eq : r9_2 x0 x1 x2 x3 x4 x5 x6 x7 x8 x9 x10 x11 x12 x13 x14 x15 n =
    ok9 (inr9 n) (r20_0 (sel [x0, x1, x2, x3, x4, x5, x6, x7] n) == 1) (r20_0 (sel [x0, x1, x2, x3, x4, x5, x6, x7] n) == 2) (r20_0 (sel [x0, x1, x2, x3, x4, x5, x6, x7] n) == 3) (decide (n > 0))
      (r19_0 (sel [x8, x9, x10, x11, x12, x13, x14, x15] n)) (r19_0 (sel [x8, x9, x10, x11, x12, x13, x14, x15] (IntKind.wrap .i64 (n - 1)))) := rfl
end

/-- Naturally aligned bytes: the same on both sides. -/
theorem nap {a : Nat} (ha : a < 18014398509481984) : ∃ p q : Nat, 0 < p ∧ q + p ≤ 18014398509481984 ∧ from8 (a : Int) = ((8 * q : Nat) : Int) ∧ size8 (a : Int) = ((8 * p : Nat) : Int) ∧
    from9 (a : Int) = ((8 * q : Nat) : Int) ∧ size9 (a : Int) = ((8 * p : Nat) : Int) ∧ p100901 8 (a : Int) = true ∧ p18 (ilxor .u64 18446744073709551615 (a : Int)) = true ∧
    0 ≤ r18_0 (ilxor .u64 18446744073709551615 (a : Int)) ∧ r18_0 (ilxor .u64 18446744073709551615 (a : Int)) ≤ 54 := by
  obtain ⟨t, m, ht, hc, h⟩ := ones_of ha
  have hx := lxor_max (a := a) (by omega)
  obtain ⟨hp18, hr18⟩ := tz_ok (x := 18446744073709551615 - a) (by omega) (by omega)
  rw [← hx] at hp18 hr18
  rw [hc] at hr18
  obtain ⟨hf, hs⟩ := nap_from ha ht h
  have i1 : IntKind.wrap .i64 ((t : Int) + 1) = ((t + 1 : Nat) : Int) := by rw [IntKind.wrap_i64]; omega
  have i3 : IntKind.wrap .i64 ((t : Int) + 3) = ((t + 3 : Nat) : Int) := by rw [IntKind.wrap_i64]; omega
  obtain ⟨rest, hl⟩ := loop_ones t 0 (a : Int) (by omega) (by omega) (by omega) ⟨(m : Int), by rw [h]; have : 1 ≤ 2 ^ t := Nat.pow_pos (by decide); push_cast [Int.ofNat_sub this]; rfl, by omega⟩
  rw [Nat.zero_add] at hl
  have hl' : L100901 8 (a : Int) = some [.i 0, .i (8 * 2 ^ t), .i rest] := by
    have : (8 * 2 ^ 0 : Int) = 8 := by decide
    rw [this] at hl
    exact hl
  have hsz : size9 (a : Int) = ((8 * 2 ^ t : Nat) : Int) := by
    show (dget ((L100901 8 (a : Int)).getD []) 1).toI = _
    rw [hl']
    show (8 * 2 ^ t : Int) = _
    push_cast
    rfl
  have hpp : p100901 8 (a : Int) = true := by
    show (L100901 8 (a : Int)).isSome = true
    rw [hl']; rfl
  have hp : 0 < 2 ^ t := Nat.pow_pos (by decide)
  have hp2 : 2 ^ t ≤ 2 ^ 54 := Nat.pow_le_pow_right (by decide) ht
  have hq : 2 ^ t * (2 * m) = 2 * (m * 2 ^ t) := by rw [Nat.mul_comm (2 ^ t), Nat.mul_assoc]
  have hf8 : from8 (a : Int) = ((8 * (m * 2 ^ t) : Nat) : Int) := by
    unfold from8
    rw [hr18, i1]
    exact hf
  have hs8 : size8 (a : Int) = ((8 * 2 ^ t : Nat) : Int) := by
    unfold size8
    rw [hr18, i3]
    exact hs
  have hf9 : from9 (a : Int) = ((8 * (m * 2 ^ t) : Nat) : Int) := by
    unfold from9
    rw [hsz]
    have h4 : IntKind.wrap .u64 (4 * (a : Int)) = ((4 * a : Nat) : Int) := by rw [wrap_u64]; omega
    rw [h4]
    have hdiv : 4 * a / (8 * 2 ^ t) = m := by
      rw [h, hq]
      generalize 2 ^ t = p at hp
      apply Nat.div_eq_of_lt_le
      · have e : m * (8 * p) = 8 * (m * p) := by rw [← Nat.mul_assoc, Nat.mul_comm m 8, Nat.mul_assoc]
        omega
      · have e : (m + 1) * (8 * p) = 8 * (m * p) + 8 * p := by rw [Nat.succ_mul, ← Nat.mul_assoc, Nat.mul_comm m 8, Nat.mul_assoc]
        omega
    have h5 : Int.tdiv ((4 * a : Nat) : Int) ((8 * 2 ^ t : Nat) : Int) = (m : Int) := by
      rw [Int.tdiv_eq_ediv_of_nonneg (by omega), ← hdiv]
      norm_cast
    have hm : m ≤ a := by
      have : m * 1 ≤ m * 2 ^ t := Nat.mul_le_mul_left _ hp
      omega
    have h6 : IntKind.wrap .u64 (m : Int) = (m : Int) := by rw [wrap_u64]; omega
    rw [h5, h6]
    have e : (m : Int) * ((8 * 2 ^ t : Nat) : Int) = ((8 * (m * 2 ^ t) : Nat) : Int) := by
      have : m * (8 * 2 ^ t) = 8 * (m * 2 ^ t) := by rw [← Nat.mul_assoc, Nat.mul_comm m 8, Nat.mul_assoc]
      rw [← this]
      norm_cast
    rw [e, wrap_u64]
    generalize m * 2 ^ t = q at hq
    generalize 2 ^ t * (2 * m) = r at hq h
    omega
  refine ⟨2 ^ t, m * 2 ^ t, hp, ?_, hf8, hs8, hf9, hsz, hpp, hp18, by rw [hr18]; omega, by rw [hr18]; omega⟩
  generalize m * 2 ^ t = q at hq
  generalize 2 ^ t * (2 * m) = r at hq h
  generalize 2 ^ t = p at h hp hp2
  simp only [Nat.reducePow] at hp2
  omega
end Go.Proofs.YtoebecinndbnoaaDoor
