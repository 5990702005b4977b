/- The plain law of PmpRanges, part four: the ranges are one; nothing is owed. -/
import Derived.Test.YtoebecinndbnoaaDoorPmT
namespace Go.Proofs.YtoebecinndbnoaaDoor
open Go Go.Sx
set_option maxRecDepth 100000

theorem alike (q b1 b2 b3 g : Bool) {a e : Nat} (ha : a < 18014398509481984) (he : e < 18014398509481984) :
    lo8 q b1 b2 b3 g (a : Int) (e : Int) = lo9 q b1 b2 b3 g (a : Int) (e : Int) ∧ hi8 q b1 b2 b3 g (a : Int) (e : Int) = hi9 q b1 b2 b3 g (a : Int) (e : Int) ∧ ok8 q b1 b2 b3 g (a : Int) (e : Int) = ok9 q b1 b2 b3 g (a : Int) (e : Int) := by
  obtain ⟨p, r, hp, hpr, f8, s8, f9, s9, _, _, _, _⟩ := nap ha
  have w1 : IntKind.wrap .u64 ((a : Int) * 4) = 4 * a := by rw [wrap_u64]; omega
  have w2 : IntKind.wrap .u64 (4 * (a : Int)) = 4 * a := by rw [wrap_u64]; omega
  have w3 : IntKind.wrap .u64 ((e : Int) * 4) = 4 * e := by rw [wrap_u64]; omega
  have w4 : IntKind.wrap .u64 (4 * (e : Int)) = 4 * e := by rw [wrap_u64]; omega
  unfold lo8 lo9 hi8 hi9 ok8 ok9 l9 h9 none8
  rw [f8, s8, f9, s9, w1, w2, w3, w4]
  have v1 : IntKind.wrap .u64 (4 * (a : Int) + 3) = 4 * a + 3 := by rw [wrap_u64]; omega
  have v2 : IntKind.wrap .u64 (4 * (a : Int) + 4) = 4 * a + 4 := by rw [wrap_u64]; omega
  have v3 : IntKind.wrap .u64 (4 * (a : Int) + 4 - 1) = 4 * a + 3 := by rw [wrap_u64]; omega
  have v4 : IntKind.wrap .u64 (((8 * r : Nat) : Int) + ((8 * p : Nat) : Int)) = 8 * r + 8 * p := by rw [wrap_u64]; omega
  rw [v1, v2, v4]
  cases q
  · exact ⟨rfl, rfl, rfl⟩
  · cases b1
    · cases b2
      · cases b3
        · exact ⟨rfl, rfl, rfl⟩
        · have d : decide (((8 * r : Nat) : Int) ≥ 8 * (r : Int) + 8 * (p : Int)) = false := decide_eq_false (by omega)
          simp only [cond_true, cond_false, Bool.not_true, d, Bool.not_false, Bool.true_and]
          exact ⟨trivial, trivial, trivial⟩
      · have d : decide (4 * (a : Int) ≥ 4 * a + 4) = false := decide_eq_false (by omega)
        simp only [cond_true, cond_false, d, Bool.not_false, Bool.true_and, v3]
        exact ⟨trivial, trivial, trivial⟩
    · simp only [cond_true, cond_false, Bool.true_and]
      exact ⟨trivial, trivial, trivial⟩

theorem b_way2 {c : Int} (h : R8 c) : (r17_0 c == 2) = (r20_0 c == 2) := by
  have := byte_all (P := fun c => (r17_0 c == 2) == (r20_0 c == 2)) (by decide +kernel) h
  exact eq_of_beq this
theorem b_way3 {c : Int} (h : R8 c) : (r17_0 c == 3) = (r20_0 c == 3) := by
  have := byte_all (P := fun c => (r17_0 c == 3) == (r20_0 c == 3)) (by decide +kernel) h
  exact eq_of_beq this
theorem r19_nat {v : Int} (h : R64 v) : ∃ a : Nat, a < 18014398509481984 ∧ r19_0 v = a := by
  have : r19_0 v = v % 18014398509481984 := by
    show Int.tmod v 18014398509481984 = _
    rw [Int.tmod_eq_emod_of_nonneg h.1]
  exact ⟨(r19_0 v).toNat, by rw [this]; omega, by rw [this]; omega⟩
theorem getD_R64 {x8 x9 x10 x11 x12 x13 x14 x15 : Int} (h8 : R64 x8) (h9 : R64 x9) (h10 : R64 x10) (h11 : R64 x11) (h12 : R64 x12) (h13 : R64 x13) (h14 : R64 x14) (h15 : R64 x15) (n : Nat) : R64 ([x8, x9, x10, x11, x12, x13, x14, x15].getD n 0) := by
  have key : ∀ l : List Int, (∀ x ∈ l, R64 x) → R64 (l.getD n 0) := by
    intro l hl
    rw [List.getD_eq_getElem?_getD]
    cases h : l[n]? with
    | none => exact ⟨by decide, by decide⟩
    | some x => exact hl x (List.mem_of_getElem? h)
  refine key _ ?_
  simp only [List.mem_cons, List.not_mem_nil, or_false]
  rintro x (rfl|rfl|rfl|rfl|rfl|rfl|rfl|rfl) <;> assumption

theorem range_eq {x0 x1 x2 x3 x4 x5 x6 x7 x8 x9 x10 x11 x12 x13 x14 x15 n : Int} (h0 : R8 x0) (h1 : R8 x1) (h2 : R8 x2) (h3 : R8 x3) (h4 : R8 x4) (h5 : R8 x5) (h6 : R8 x6) (h7 : R8 x7) (h8 : R64 x8) (h9 : R64 x9) (h10 : R64 x10) (h11 : R64 x11) (h12 : R64 x12) (h13 : R64 x13) (h14 : R64 x14) (h15 : R64 x15) :
    r8_0 x0 x1 x2 x3 x4 x5 x6 x7 x8 x9 x10 x11 x12 x13 x14 x15 n = r9_0 x0 x1 x2 x3 x4 x5 x6 x7 x8 x9 x10 x11 x12 x13 x14 x15 n ∧ r8_1 x0 x1 x2 x3 x4 x5 x6 x7 x8 x9 x10 x11 x12 x13 x14 x15 n = r9_1 x0 x1 x2 x3 x4 x5 x6 x7 x8 x9 x10 x11 x12 x13 x14 x15 n ∧ r8_2 x0 x1 x2 x3 x4 x5 x6 x7 x8 x9 x10 x11 x12 x13 x14 x15 n = r9_2 x0 x1 x2 x3 x4 x5 x6 x7 x8 x9 x10 x11 x12 x13 x14 x15 n := by
  have hc := getD_R h0 h1 h2 h3 h4 h5 h6 h7 (Int.toNat n)
  have ha := getD_R64 h8 h9 h10 h11 h12 h13 h14 h15 (Int.toNat n)
  have he := getD_R64 h8 h9 h10 h11 h12 h13 h14 h15 (Int.toNat (IntKind.wrap .i64 (n - 1)))
  have hq : inr8 n = inr9 n := by
    have : decide (n ≥ 8) = decide (n > 7) := by simp; omega
    show (!(decide (n < 0) || decide (n ≥ 8))) = _
    rw [this]
  rw [r8_0_eq, r8_1_eq, r8_2_eq, r9_0_eq, r9_1_eq, r9_2_eq, hq, b_way hc, b_way2 hc, b_way3 hc, land54 ha, land54 he]
  obtain ⟨a, ha1, ha2⟩ := r19_nat ha
  obtain ⟨e, he1, he2⟩ := r19_nat he
  show lo8 _ _ _ _ _ (r19_0 ([x8, x9, x10, x11, x12, x13, x14, x15].getD (Int.toNat n) 0)) (r19_0 ([x8, x9, x10, x11, x12, x13, x14, x15].getD (Int.toNat (IntKind.wrap .i64 (n - 1))) 0)) = _ ∧ _
  rw [ha2, he2]
  exact alike _ _ _ _ _ ha1 he1

theorem range_p {x0 x1 x2 x3 x4 x5 x6 x7 x8 x9 x10 x11 x12 x13 x14 x15 n : Int} (h8 : R64 x8) (h9 : R64 x9) (h10 : R64 x10) (h11 : R64 x11) (h12 : R64 x12) (h13 : R64 x13) (h14 : R64 x14) (h15 : R64 x15) : p8 x0 x1 x2 x3 x4 x5 x6 x7 x8 x9 x10 x11 x12 x13 x14 x15 n = true ∧ p9 x0 x1 x2 x3 x4 x5 x6 x7 x8 x9 x10 x11 x12 x13 x14 x15 n = true := by
  have ha := getD_R64 h8 h9 h10 h11 h12 h13 h14 h15 (Int.toNat n)
  obtain ⟨a, ha1, ha2⟩ := r19_nat ha
  obtain ⟨p, r, hp, hpr, f8, s8, f9, s9, hl, h18, hr0, hr1⟩ := nap ha1
  have hl8 : iland .u64 ([x8, x9, x10, x11, x12, x13, x14, x15].getD (Int.toNat n) 0) 18014398509481983 = (a : Int) := (land54 ha).trans ha2
  have hs9 : (r100901_1 8 (a : Int) != 0) = true := by
    have : r100901_1 8 (a : Int) = ((8 * p : Nat) : Int) := s9
    rw [this]; simp; omega
  have i1 : decide (IntKind.wrap .i64 (r18_0 (ilxor .u64 18446744073709551615 (a : Int)) + 1) ≥ 0) = true := by rw [IntKind.wrap_i64]; exact decide_eq_true (by omega)
  have i3 : decide (IntKind.wrap .i64 (r18_0 (ilxor .u64 18446744073709551615 (a : Int)) + 3) ≥ 0) = true := by rw [IntKind.wrap_i64]; exact decide_eq_true (by omega)
  by_cases hn : 0 ≤ n ∧ n < 8
  · have a1 : decide (n ≥ 0) = true := decide_eq_true hn.1
    have a2 : decide (n < 8) = true := decide_eq_true hn.2
    have e : IntKind.wrap .i64 (n - 1) = n - 1 := by rw [IntKind.wrap_i64]; omega
    have a4 : decide (IntKind.wrap .i64 (n - 1) < 8) = true := by rw [e]; exact decide_eq_true (by omega)
    have a3 : decide (IntKind.wrap .i64 (n - 1) ≥ 0) = decide (n > 0) := by rw [e]; simp; omega
    constructor
    · simp only [p8, List.all_cons, List.all_nil, id, hl8, a1, a2, a3, a4, h18, i1, i3, ow_t, Bool.true_and, Bool.and_true]
      cases decide (n > 0) <;> simp [ow]
    · simp only [p9, List.all_cons, List.all_nil, id, ha2, a1, a2, a3, a4, p20_ok, hl, hs9, ow_t, Bool.true_and, Bool.and_true]
      cases decide (n > 0) <;> simp [ow]
  · have b1 : (decide (n < 0) || decide (n ≥ 8)) = true := by simp; omega
    have b2 : (decide (n < 0) || decide (n > 7)) = true := by simp; omega
    constructor
    · simp only [p8, b1]; simp [ow]
    · simp only [p9, b2]; simp [ow]

theorem ranges_p {x0 x1 x2 x3 x4 x5 x6 x7 x8 x9 x10 x11 x12 x13 x14 x15 n : Int} (h8 : R64 x8) (h9 : R64 x9) (h10 : R64 x10) (h11 : R64 x11) (h12 : R64 x12) (h13 : R64 x13) (h14 : R64 x14) (h15 : R64 x15) : p3 x0 x1 x2 x3 x4 x5 x6 x7 x8 x9 x10 x11 x12 x13 x14 x15 n = true := by
  obtain ⟨e1, e2⟩ := range_p (x0 := x0) (x1 := x1) (x2 := x2) (x3 := x3) (x4 := x4) (x5 := x5) (x6 := x6) (x7 := x7) (n := n) h8 h9 h10 h11 h12 h13 h14 h15
  simp only [p3, e1, e2, p10_ok, ow_t, List.all_cons, List.all_nil, id, Bool.and_self]
theorem ranges_ok {x0 x1 x2 x3 x4 x5 x6 x7 x8 x9 x10 x11 x12 x13 x14 x15 n : Int} (h0 : R8 x0) (h1 : R8 x1) (h2 : R8 x2) (h3 : R8 x3) (h4 : R8 x4) (h5 : R8 x5) (h6 : R8 x6) (h7 : R8 x7) (h8 : R64 x8) (h9 : R64 x9) (h10 : R64 x10) (h11 : R64 x11) (h12 : R64 x12) (h13 : R64 x13) (h14 : R64 x14) (h15 : R64 x15) : r3_0 x0 x1 x2 x3 x4 x5 x6 x7 x8 x9 x10 x11 x12 x13 x14 x15 n = true := by
  obtain ⟨e1, e2, e3⟩ := range_eq (n := n) h0 h1 h2 h3 h4 h5 h6 h7 h8 h9 h10 h11 h12 h13 h14 h15
  simp only [r3_0, e1, e2, e3, r10_ok, beq_self_eq_true, Bool.and_self]
end Go.Proofs.YtoebecinndbnoaaDoor
