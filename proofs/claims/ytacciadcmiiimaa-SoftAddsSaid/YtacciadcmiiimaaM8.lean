/- What the reference's functions of numbers without end come to (part 2): comparing, differences, shifts up. -/
import Derived.Test.YtacciadcmiiimaaM7
namespace Go.Proofs.Ytacciadcmiiimaa
open Go Go.Sx Go.Rnd
set_option maxRecDepth 100000
set_option maxHeartbeats 1000000

theorem lt_of_dig {a b i : Nat} (h : a / 4294967296 ^ (i + 1) = b / 4294967296 ^ (i + 1)) (hd : a / 4294967296 ^ i % 4294967296 < b / 4294967296 ^ i % 4294967296) : a < b := by
  have e : ∀ n : Nat, n / 4294967296 ^ i = n / 4294967296 ^ (i + 1) * 4294967296 + n / 4294967296 ^ i % 4294967296 := fun n => by
    rw [Nat.pow_succ, ← Nat.div_div_eq_div_mul]; omega
  have h1 : a / 4294967296 ^ i < b / 4294967296 ^ i := by rw [e a, e b, h]; omega
  exact Nat.lt_of_not_le fun hle => by have := Nat.div_le_div_right (c := 4294967296 ^ i) hle; omega
theorem eq_of_dig {a b i : Nat} (h : a / 4294967296 ^ (i + 1) = b / 4294967296 ^ (i + 1)) (hd : a / 4294967296 ^ i % 4294967296 = b / 4294967296 ^ i % 4294967296) : a / 4294967296 ^ i = b / 4294967296 ^ i := by
  have e : ∀ n : Nat, n / 4294967296 ^ i = n / 4294967296 ^ (i + 1) * 4294967296 + n / 4294967296 ^ i % 4294967296 := fun n => by
    rw [Nat.pow_succ, ← Nat.div_div_eq_div_mul]; omega
  rw [e a, e b, h, hd]
theorem less_loop {a b K : Nat} (hk : K ≤ 1048576) (ha : dlen a = K) (hb : dlen b = K) : ∀ i : Nat, i ≤ K → a / 4294967296 ^ i = b / 4294967296 ^ i →
    ∃ fl v r2, L107700 (big a) (big b) false ((i : Int) - 1) = some [.i fl, .b v, r2] ∧ (bif !(fl == 0) then false else v) = decide (a < b)
  | 0, _, he => by
    have he : a = b := by simpa using he
    subst he
    refine ⟨1, false, .i (((0 : Nat) : Int) - 1), ?_, by simp⟩
    exact loopG_last (w := W107700) (c := C107700) (nx := N107700) (out := T107700) (s := [.l (big a), .l (big a), .b false, .i (((0 : Nat) : Int) - 1)]) rfl rfl
  | i + 1, hi, he => by
    have e0 : (((i + 1 : Nat) : Int) - 1) = (i : Int) := by omega
    rw [e0]
    have hw : W107700 [.l (big a), .l (big b), .b false, .i (i : Int)] = true := by
      show w107700 (big a) (big b) false (i : Int) = true
      simp only [w107700, List.all_cons, List.all_nil, id, Bool.and_true, Bool.and_eq_true, ow_2, ow_1, dec, Nat.div_one, big_len]
      refine ⟨?_, ?_, ?_, ?_, ?_, ?_, ?_, ?_⟩ <;> (intros; omega)
    have hc : C107700 [.l (big a), .l (big b), .b false, .i (i : Int)] = decide (a / 4294967296 ^ i % 4294967296 = b / 4294967296 ^ i % 4294967296) := by
      show c107700 (big a) (big b) false (i : Int) = _
      simp only [c107700, big_at]
      rw [decide_eq_true (show (i : Int) ≥ 0 by omega), Bool.true_and, Bool.eq_iff_iff]
      simp only [Bool.not_eq_true', bne_eq_false_iff_eq, dec]
      omega
    by_cases hd : a / 4294967296 ^ i % 4294967296 = b / 4294967296 ^ i % 4294967296
    · have hn2 := loopG_next (out := T107700) (nx := N107700) (c := C107700) hw (by rw [hc, decide_eq_true hd])
      have hN : N107700 [.l (big a), .l (big b), .b false, .i (i : Int)] = [.l (big a), .l (big b), .b false, .i ((i : Int) - 1)] := by
        show [DV.l (big a), .l (big b), .b false, .i (IntKind.wrap .i64 ((i : Int) - 1))] = _
        rw [wrap_i64_of (by omega) (by omega)]
      rw [hN] at hn2
      obtain ⟨fl, v, r2, h1, h2⟩ := less_loop hk ha hb i (by omega) (eq_of_dig he hd)
      exact ⟨fl, v, r2, hn2.trans h1, h2⟩
    · refine ⟨0, decide (a < b), .i (i : Int), ?_, rfl⟩
      refine (loopG_last (out := T107700) (nx := N107700) (c := C107700) hw (by rw [hc, decide_eq_false hd])).trans ?_
      show some [DV.i (bif decide ((i : Int) ≥ 0) then 0 else 1), .b (bif decide ((i : Int) ≥ 0) then ilt _ _ else false), .i (i : Int)] = _
      rw [decide_eq_true (show (i : Int) ≥ 0 by omega), cond_true, cond_true]
      congr 3
      show DV.b (ilt ((big a).getD (Int.toNat (i : Int) * 1 + 0) default).toI ((big b).getD (Int.toNat (i : Int) * 1 + 0) default).toI) = _
      rw [big_at, big_at]
      congr 1
      rw [Bool.eq_iff_iff]
      simp only [ilt, dec]
      constructor
      · intro h; exact lt_of_dig he (by omega)
      · intro h
        rcases Nat.lt_or_gt_of_ne hd with h5 | h5
        · omega
        · have := lt_of_dig he.symm h5; omega
theorem less_ok {a b : Nat} (ha : dlen a ≤ 1048576) : p77 (big a) (big b) = true ∧ r77_0 (big a) (big b) = decide (a < b) := by
  by_cases hl : dlen a = dlen b
  · obtain ⟨fl, v, r2, h1, h2⟩ := less_loop (a := a) (b := b) ha rfl hl.symm (dlen a) (Nat.le_refl _) (by
      rw [Nat.div_eq_of_lt (dlen_self a), Nat.div_eq_of_lt (by rw [hl]; exact dlen_self b)])
    have e1 : IntKind.wrap .i64 ((((big a).length / 1 : Nat) : Int) - 1) = (dlen a : Int) - 1 := by
      rw [Nat.div_one, big_len, wrap_i64_of (by omega) (by omega)]
    constructor
    · simp only [p77, e1]
      have : p107700 (big a) (big b) false ((dlen a : Int) - 1) = true := by unfold p107700; rw [h1]; rfl
      rw [this]; simp [ow_t]
    · simp only [r77_0, e1]
      have hr0 : r107700_0 (big a) (big b) false ((dlen a : Int) - 1) = fl := by unfold r107700_0; rw [h1]; rfl
      have hr1 : r107700_1 (big a) (big b) false ((dlen a : Int) - 1) = v := by unfold r107700_1; rw [h1]; rfl
      rw [hr0, hr1, h2]
      have : ((((big a).length / 1 : Nat) : Int) != (((big b).length / 1 : Nat) : Int)) = false := by
        rw [Nat.div_one, Nat.div_one, big_len, big_len, hl]; simp
      rw [this]; rfl
  · have : ((((big a).length / 1 : Nat) : Int) != (((big b).length / 1 : Nat) : Int)) = true := by
      rw [Nat.div_one, Nat.div_one, big_len, big_len]; simp; omega
    constructor
    · simp only [p77, this]; simp [ow]
    · have this2 : (((dlen a : Nat) : Int) != ((dlen b : Nat) : Int)) = true := by rw [Nat.div_one, Nat.div_one, big_len, big_len] at this; exact this
      simp only [r77_0, Nat.div_one, big_len, this2, Bool.not_true, cond_false]
      rw [Bool.eq_iff_iff]
      simp only [dec]
      constructor
      · intro h
        have h1 := dlen_self a
        have h2 := lt_dlen.1 (show dlen a < dlen b by omega)
        omega
      · intro h
        have := dlen_mono (Nat.le_of_lt h)
        omega

section
variable {a b : Nat} (ha : dlen a ≤ 1048576) (hab : b ≤ a)
def minusS (a b i o c : Nat) : List DV := [.l (big b), .l (big a), .l (dg i o), .i (c : Int), .i (i : Int), .l (big a)]
include ha hab
theorem minus_step {i o c : Nat} (hi : i < dlen a) (hc : c ≤ 1) (ho : o < 4294967296 ^ i) :
    W111000 (minusS a b i o c) = true ∧
    N111000 (minusS a b i o c) = minusS a b (i + 1) (o + (a / 4294967296 ^ i % 4294967296 + 4294967296 - c - b / 4294967296 ^ i % 4294967296) % 4294967296 * 4294967296 ^ i)
      (if a / 4294967296 ^ i % 4294967296 < c + b / 4294967296 ^ i % 4294967296 then 1 else 0) := by
  have da := dig_lt a i
  have db := dig_lt b i
  have zb : ¬ i < dlen b → b / 4294967296 ^ i % 4294967296 = 0 := fun h => dig_zero (by omega)
  have hb := dlen_mono hab
  have eA := big_at a i
  have eB := big_at b i
  generalize a / 4294967296 ^ i % 4294967296 = x at *
  generalize b / 4294967296 ^ i % 4294967296 = y at *
  have g2 : (bif decide ((i : Int) < ((big b).length / 1 : Nat)) then IntKind.wrap .i64 (IntKind.wrap .i64 (IntKind.wrap .i64 (x : Int) - (c : Int)) - IntKind.wrap .i64 (y : Int)) else IntKind.wrap .i64 (IntKind.wrap .i64 (x : Int) - (c : Int))) = (x : Int) - c - y := by
    rw [Nat.div_one, big_len, wri (n := x) (by omega), wrap_i64_of (n := (x : Int) - c) (by omega) (by omega)]
    by_cases h : i < dlen b
    · rw [decide_eq_true (by omega), cond_true, wri (n := y) (by omega), wrap_i64_of (by omega) (by omega)]
    · rw [decide_eq_false (by omega), cond_false, zb h]; simp
  have g3 : IntKind.wrap .u32 (bif decide ((x : Int) - c - y < 0) then IntKind.wrap .i64 ((x : Int) - c - y + 4294967296) else (x : Int) - c - y) = (((x + 4294967296 - c - y) % 4294967296 : Nat) : Int) := by
    by_cases h : (x : Int) - c - y < 0
    · rw [decide_eq_true h, cond_true, wrap_i64_of (by omega) (by omega), wrap_u32]; omega
    · rw [decide_eq_false h, cond_false, wrap_u32]; omega
  refine ⟨?_, ?_⟩
  · show w111000 (big b) (big a) (dg i o) (c : Int) (i : Int) (big a) = true
    simp only [w111000, List.all_cons, List.all_nil, id, Bool.and_true, Bool.and_eq_true, ow_2, ow_1, dec, Nat.div_one, List.length_append, dg_len, big_len, List.length_cons, List.length_nil]
    refine ⟨?_, ?_, ?_, ?_, ?_⟩ <;> (intros; omega)
  · show [DV.l (big b), .l (big a), .l (n111000_0 (big b) (big a) (dg i o) (c : Int) (i : Int) (big a)), .i (n111000_1 (big b) (big a) (dg i o) (c : Int) (i : Int) (big a)), .i (n111000_2 (big b) (big a) (dg i o) (c : Int) (i : Int) (big a)), .l (big a)] = _
    have q0 : n111000_0 (big b) (big a) (dg i o) (c : Int) (i : Int) (big a) = dg (i + 1) (o + (x + 4294967296 - c - y) % 4294967296 * 4294967296 ^ i) := by
      simp only [n111000_0]
      rw [eA, eB, g2, g3, dg_snoc ho (Nat.mod_lt _ (by decide))]
    have q1 : n111000_1 (big b) (big a) (dg i o) (c : Int) (i : Int) (big a) = (((if x < c + y then 1 else 0) : Nat) : Int) := by
      simp only [n111000_1]
      rw [eA, eB, g2]
      by_cases h : x < c + y
      · rw [if_pos h, decide_eq_true (by omega)]; rfl
      · rw [if_neg h, decide_eq_false (by omega)]; rfl
    have q2 : n111000_2 (big b) (big a) (dg i o) (c : Int) (i : Int) (big a) = ((i + 1 : Nat) : Int) := by
      simp only [n111000_2]
      rw [wri1 (by omega)]
    rw [q0, q1, q2]; rfl
theorem minus_loop : ∀ (t i o c : Nat), i + t = dlen a → c ≤ 1 → o < 4294967296 ^ i → a % 4294967296 ^ i + c * 4294967296 ^ i = o + b % 4294967296 ^ i →
    ∃ r2 r3 r4, loopG W111000 C111000 N111000 T111000 (minusS a b i o c) = some [.i 0, .l (dg (dlen a) (a - b)), r2, r3, r4] := by
  intro t
  induction t with
  | zero =>
    intro i o c h1 hc ho he
    have hl := dlen_self a
    have hb := dlen_mono hab
    obtain rfl : i = dlen a := by omega
    rw [mod_self (Nat.le_refl _), mod_self hb] at he
    have hc0 : c = 0 := by
      rcases Nat.eq_zero_or_pos c with h | h
      · exact h
      · have : c = 1 := by omega
        subst this; omega
    subst hc0
    refine ⟨.i ((0 : Nat) : Int), .i (dlen a : Int), .l (big a), ?_⟩
    have hw : W111000 (minusS a b (dlen a) o 0) = true := by
      show w111000 (big b) (big a) (dg (dlen a) o) ((0 : Nat) : Int) (dlen a : Int) (big a) = true
      simp only [w111000, List.all_cons, List.all_nil, id, Bool.and_true, Bool.and_eq_true, ow_2, ow_1, dec, Nat.div_one, List.length_append, dg_len, big_len, List.length_cons, List.length_nil]
      refine ⟨?_, ?_, ?_, ?_, ?_⟩ <;> (intros; omega)
    have hcc : C111000 (minusS a b (dlen a) o 0) = false := by
      show c111000 (big b) (big a) (dg (dlen a) o) ((0 : Nat) : Int) (dlen a : Int) (big a) = false
      simp only [c111000, Nat.div_one, big_len]
      exact decide_eq_false (by omega)
    rw [loopG_last hw hcc]
    have : a - b = o := by omega
    rw [this]; rfl
  | succ t ih =>
    intro i o c h1 hc ho he
    obtain ⟨hw, hn⟩ := minus_step ha hab (i := i) (o := o) (c := c) (by omega) hc ho
    have hcc : C111000 (minusS a b i o c) = true := by
      show c111000 (big b) (big a) (dg i o) (c : Int) (i : Int) (big a) = true
      simp only [c111000, Nat.div_one, big_len]
      exact decide_eq_true (by omega)
    rw [loopG_next hw hcc, hn]
    have da := dig_lt a i
    have db := dig_lt b i
    refine ih (i + 1) _ _ (by omega) (by split <;> omega) (snoc_lt ho (Nat.mod_lt _ (by decide))) ?_
    rw [mod_succ, mod_succ]
    generalize a / 4294967296 ^ i % 4294967296 = x at *
    generalize b / 4294967296 ^ i % 4294967296 = y at *
    rw [Nat.pow_succ]
    generalize 4294967296 ^ i = P at *
    have e1 : x + (if x < c + y then 1 else 0) * 4294967296 = (x + 4294967296 - c - y) % 4294967296 + c + y := by split <;> omega
    have e2 := congrArg (· * P) e1
    simp only [Nat.add_mul] at e2
    rw [Nat.mul_assoc, Nat.mul_comm 4294967296 P] at e2
    omega
theorem minus_ok : p110 (big a) (big b) = true ∧ r110_0 (big a) (big b) = big (a - b) := by
  obtain ⟨r2, r3, r4, hL⟩ := minus_loop ha hab (dlen a) 0 0 0 (by omega) (by omega) (by decide) (by simp [Nat.mod_one])
  have hg : g111000 [.l (big b), .l (big a), .l [], .i 0, .i 0, .l (big a)] = [.b true, .i 0, .l (dg (dlen a) (a - b)), .i (r2.toI), .i (r3.toI), .l r4.toL] := by
    have hL' : L111000 (big b) (big a) [] 0 0 (big a) = some [.i 0, .l (dg (dlen a) (a - b)), r2, r3, r4] := hL
    show [DV.b (p111000 (big b) (big a) [] 0 0 (big a)), .i (r111000_0 (big b) (big a) [] 0 0 (big a)), .l (r111000_1 (big b) (big a) [] 0 0 (big a)), .i (r111000_2 (big b) (big a) [] 0 0 (big a)), .i (r111000_3 (big b) (big a) [] 0 0 (big a)), .l (r111000_4 (big b) (big a) [] 0 0 (big a))] = _
    simp only [p111000, r111000_0, r111000_1, r111000_2, r111000_3, r111000_4, hL']
    rfl
  have ht := trim_ok (K := dlen a) (n := a - b) (by omega) (Nat.lt_of_le_of_lt (Nat.sub_le _ _) (dlen_self a))
  constructor
  · simp only [p110, hg]
    show [ow [] true, ow [] (p116 (dg (dlen a) (a - b)))].all id = true
    rw [ht.1]; rfl
  · simp only [r110_0, hg]
    exact ht.2
end

section
variable {a n : Nat} (ha : dlen a ≤ 1048576) (hn : n ≤ 33554432)
def upS (a n i o c : Nat) : List DV := [.i (n : Int), .l (big a), .l (dg (n / 32 + i) o), .i (c : Int), .i (i : Int), .l (big a)]
include ha hn
theorem up_step {i o c : Nat} (hi : i ≤ 1048576) (hc : c < 2 ^ (n % 32)) (ho : o < 4294967296 ^ (n / 32 + i)) :
    W110400 (upS a n i o c) = true ∧ C110400 (upS a n i o c) = decide (i < dlen a) ∧
    N110400 (upS a n i o c) = upS a n (i + 1) (o + (c + a / 4294967296 ^ i % 4294967296 * 2 ^ (n % 32)) % 4294967296 * 4294967296 ^ (n / 32 + i)) ((c + a / 4294967296 ^ i % 4294967296 * 2 ^ (n % 32)) / 4294967296) := by
  have da := dig_lt a i
  have eA := big_at a i
  generalize a / 4294967296 ^ i % 4294967296 = x at *
  have hs : n % 32 < 32 := Nat.mod_lt _ (by decide)
  have hp : 2 ^ (n % 32) ≤ 2 ^ 31 := Nat.pow_le_pow_right (by decide) (by omega)
  have g1 : ilor .u64 (c : Int) (ishl .u64 (IntKind.wrap .u64 (x : Int)) (Int.tmod (n : Int) 32)) = ((c + x * 2 ^ (n % 32) : Nat) : Int) := by
    rw [wr64 (by omega), tmod32]
    have hx : x * 2 ^ (n % 32) < 18446744073709551616 := by
      have : x * 2 ^ (n % 32) ≤ 4294967295 * 2 ^ 31 := Nat.mul_le_mul (by omega) hp
      omega
    rw [shl_lt hx, lor_nn (by omega) hx, or_high hc]
  refine ⟨?_, ?_, ?_⟩
  · show w110400 (n : Int) (big a) (dg (n / 32 + i) o) (c : Int) (i : Int) (big a) = true
    simp only [w110400, List.all_cons, List.all_nil, id, Bool.and_true, Bool.and_eq_true, ow_1, dec, Nat.div_one, List.length_append, dg_len, big_len, List.length_cons, List.length_nil, tmod32]
    refine ⟨?_, ?_, ?_, ?_⟩ <;> (intros; omega)
  · show c110400 (n : Int) (big a) (dg (n / 32 + i) o) (c : Int) (i : Int) (big a) = _
    simp only [c110400, Nat.div_one, big_len]
    rw [Bool.eq_iff_iff]
    simp only [dec]
    omega
  · show [DV.i (n : Int), .l (big a), .l (n110400_0 (n : Int) (big a) (dg (n / 32 + i) o) (c : Int) (i : Int) (big a)), .i (n110400_1 (n : Int) (big a) (dg (n / 32 + i) o) (c : Int) (i : Int) (big a)), .i (n110400_2 (n : Int) (big a) (dg (n / 32 + i) o) (c : Int) (i : Int) (big a)), .l (big a)] = _
    have q0 : n110400_0 (n : Int) (big a) (dg (n / 32 + i) o) (c : Int) (i : Int) (big a) = dg (n / 32 + i + 1) (o + (c + x * 2 ^ (n % 32)) % 4294967296 * 4294967296 ^ (n / 32 + i)) := by
      simp only [n110400_0]
      rw [eA, g1, wr32, dg_snoc ho (Nat.mod_lt _ (by decide))]
    have q1 : n110400_1 (n : Int) (big a) (dg (n / 32 + i) o) (c : Int) (i : Int) (big a) = (((c + x * 2 ^ (n % 32)) / 4294967296 : Nat) : Int) := by
      simp only [n110400_1]
      rw [eA, g1, shr32]
    have q2 : n110400_2 (n : Int) (big a) (dg (n / 32 + i) o) (c : Int) (i : Int) (big a) = ((i + 1 : Nat) : Int) := by
      simp only [n110400_2]
      rw [wri1 (by omega)]
    rw [q0, q1, q2]; rfl
theorem up_loop : ∀ (t i o c : Nat), i + t = dlen a → c < 2 ^ (n % 32) → o < 4294967296 ^ (n / 32 + i) → a % 4294967296 ^ i * 2 ^ n = o + c * 4294967296 ^ (n / 32 + i) →
    ∃ o' c' r3 r4, c' < 2 ^ (n % 32) ∧ o' < 4294967296 ^ (n / 32 + dlen a) ∧ a * 2 ^ n = o' + c' * 4294967296 ^ (n / 32 + dlen a) ∧ loopG W110400 C110400 N110400 T110400 (upS a n i o c) = some [.i 0, .l (dg (n / 32 + dlen a) o'), .i (c' : Int), r3, r4] := by
  intro t
  induction t with
  | zero =>
    intro i o c h1 hc ho he
    obtain rfl : i = dlen a := by omega
    obtain ⟨hw, hcc, _⟩ := up_step ha hn (i := dlen a) (o := o) (c := c) ha hc ho
    rw [decide_eq_false (by omega)] at hcc
    rw [mod_self (Nat.le_refl _)] at he
    exact ⟨o, c, .i (dlen a : Int), .l (big a), hc, ho, he, by rw [loopG_last hw hcc]; rfl⟩
  | succ t ih =>
    intro i o c h1 hc ho he
    obtain ⟨hw, hcc, hN⟩ := up_step ha hn (i := i) (o := o) (c := c) (by omega) hc ho
    rw [decide_eq_true (by omega)] at hcc
    rw [loopG_next hw hcc, hN]
    have da := dig_lt a i
    have hp := Nat.two_pow_pos (n % 32)
    refine ih (i + 1) _ _ (by omega) ?_ (snoc_lt ho (Nat.mod_lt _ (by decide))) ?_
    · rw [Nat.div_lt_iff_lt_mul (by decide)]
      have : (a / 4294967296 ^ i % 4294967296 + 1) * 2 ^ (n % 32) ≤ 4294967296 * 2 ^ (n % 32) := Nat.mul_le_mul_right _ da
      rw [Nat.add_mul] at this
      omega
    · rw [mod_succ]
      generalize a / 4294967296 ^ i % 4294967296 = x at *
      have e2 : 2 ^ n = 2 ^ (n % 32) * 4294967296 ^ (n / 32) := by rw [pow32, ← Nat.pow_add]; congr 1; omega
      have e3 : x * 4294967296 ^ i * 2 ^ n = x * 2 ^ (n % 32) * 4294967296 ^ (n / 32 + i) := by
        rw [e2, Nat.pow_add, Nat.mul_assoc, Nat.mul_assoc]
        congr 1
        rw [Nat.mul_left_comm, Nat.mul_comm (4294967296 ^ i)]
      rw [Nat.add_mul, he, e3]
      have e4 : n / 32 + (i + 1) = n / 32 + i + 1 := by omega
      rw [e4, Nat.pow_succ]
      generalize 4294967296 ^ (n / 32 + i) = P at *
      generalize x * 2 ^ (n % 32) = y at *
      have e1 : (c + y) * P = ((c + y) % 4294967296 + (c + y) / 4294967296 * 4294967296) * P := by rw [Nat.mod_add_div']
      rw [Nat.add_mul, Nat.add_mul, Nat.mul_assoc ((c + y) / 4294967296), Nat.mul_comm 4294967296 P] at e1
      omega
theorem up_ok : p104 (big a) (n : Int) = true ∧ r104_0 (big a) (n : Int) = big (a * 2 ^ n) := by
  by_cases h0 : a = 0
  · subst h0
    have e : ((((big 0).length / 1 : Nat) : Int) == 0) = true := rfl
    constructor
    · simp only [p104, e]; simp [ow]
    · simp only [r104_0, e]; rw [Nat.zero_mul]; rfl
  have h1 : 0 < dlen a := dlen_pos (by omega)
  have e : ((((big a).length / 1 : Nat) : Int) == 0) = false := by rw [Nat.div_one, big_len]; simp; omega
  have e1 : IntKind.wrap .i64 (Int.tdiv (n : Int) 32) = ((n / 32 : Nat) : Int) := by rw [tdiv32, wri (by omega)]
  obtain ⟨o, c, r3, r4, hc, ho, he, hL⟩ := up_loop ha hn (dlen a) 0 0 0 (by omega) (Nat.two_pow_pos _) (pw_pos _) (by simp [Nat.mod_one])
  have hz : (List.replicate (n / 32) ([.i 0] : List DV)).flatten = dg (n / 32) 0 := dg_zeros _
  have hg : g110400 [.i (n : Int), .l (big a), .l (dg (n / 32) 0), .i 0, .i 0, .l (big a)] = [.b true, .i 0, .l (dg (n / 32 + dlen a) o), .i (c : Int), .i (r3.toI), .l r4.toL] := by
    have hL' : L110400 (n : Int) (big a) (dg (n / 32) 0) 0 0 (big a) = some [.i 0, .l (dg (n / 32 + dlen a) o), .i (c : Int), r3, r4] := hL
    show [DV.b (p110400 (n : Int) (big a) (dg (n / 32) 0) 0 0 (big a)), .i (r110400_0 (n : Int) (big a) (dg (n / 32) 0) 0 0 (big a)), .l (r110400_1 (n : Int) (big a) (dg (n / 32) 0) 0 0 (big a)), .i (r110400_2 (n : Int) (big a) (dg (n / 32) 0) 0 0 (big a)), .i (r110400_3 (n : Int) (big a) (dg (n / 32) 0) 0 0 (big a)), .l (r110400_4 (n : Int) (big a) (dg (n / 32) 0) 0 0 (big a))] = _
    simp only [p110400, r110400_0, r110400_1, r110400_2, r110400_3, r110400_4, hL']
    rfl
  have hp : 2 ^ (n % 32) ≤ 2 ^ 31 := Nat.pow_le_pow_right (by decide) (by have := Nat.mod_lt n (show 0 < 32 by decide); omega)
  have hx : dg (n / 32 + dlen a) o ++ [DV.i (IntKind.wrap .u32 (c : Int))] = dg (n / 32 + dlen a + 1) (a * 2 ^ n) := by
    rw [wr32, Nat.mod_eq_of_lt (by omega), dg_snoc ho (by omega), he]
  have hlt : a * 2 ^ n < 4294967296 ^ (n / 32 + dlen a + 1) := by rw [he]; exact snoc_lt ho (by omega)
  have ht := trim_ok (K := n / 32 + dlen a + 1) (n := a * 2 ^ n) (by omega) hlt
  constructor
  · simp only [p104, e, e1, Int.toNat_natCast, hz, hg, dget, List.getD_cons_succ, List.getD_cons_zero, DV.toB, DV.toL, DV.toI]
    rw [hx, ht.1, dg_len, Nat.div_one]
    rw [decide_eq_true (show ((n / 32 : Nat) : Int) ≥ 0 by omega), decide_eq_true (show ((n / 32 : Nat) : Int) ≤ ((n / 32 : Nat) : Int) by omega), decide_eq_true (show ((n / 32 : Nat) : Int) ≤ 14073748835532 by omega), decide_eq_true (show ((n / 32 + dlen a + 1 : Nat) : Int) ≤ 14073748835532 by omega)]
    rfl
  · simp only [r104_0, e, e1, Int.toNat_natCast, hz, hg]
    show r116_0 (dg (n / 32 + dlen a) o ++ [DV.i (IntKind.wrap .u32 (c : Int))]) = _
    rw [hx, ht.2]
end
end Go.Proofs.Ytacciadcmiiimaa

namespace Go.Proofs.Ytacciadcmiiimaa
open Go Go.Sx Go.Rnd
set_option maxRecDepth 100000
set_option maxHeartbeats 1000000

theorem bit_of_dig {a n : Nat} : (a / 4294967296 ^ (n / 32) % 4294967296) / 2 ^ (n % 32) % 2 = a / 2 ^ n % 2 := by
  have hs : n % 32 < 32 := Nat.mod_lt _ (by decide)
  have e1 : 4294967296 = 2 ^ (n % 32) * 2 ^ (32 - n % 32) := by
    rw [← Nat.pow_add, show n % 32 + (32 - n % 32) = 32 by omega]
  have e2 : a / 2 ^ n = a / 4294967296 ^ (n / 32) / 2 ^ (n % 32) := by
    rw [Nat.div_div_eq_div_mul, pow32, ← Nat.pow_add]
    congr 2; omega
  rw [e2]
  generalize a / 4294967296 ^ (n / 32) = x
  have e3 : x % 4294967296 / 2 ^ (n % 32) = x / 2 ^ (n % 32) % 2 ^ (32 - n % 32) := by
    conv => lhs; rw [e1]
    exact Nat.mod_mul_right_div_self _ _ _
  rw [e3]
  apply Nat.mod_mod_of_dvd
  exact ⟨2 ^ (32 - n % 32 - 1), by rw [← Nat.pow_succ']; congr 1; omega⟩
theorem bit_ok {a n : Nat} (hn : n < 9223372036854775808) : p113 (big a) (n : Int) = true ∧ r113_0 (big a) (n : Int) = ((a / 2 ^ n % 2 : Nat) : Int) := by
  have e1 : IntKind.wrap .i64 (Int.tdiv (n : Int) 32) = ((n / 32 : Nat) : Int) := by rw [tdiv32, wri (by omega)]
  have e0 : decide ((n : Int) < 0) = false := decide_eq_false (by omega)
  constructor
  · simp only [p113, e1, e0, tmod32, Nat.div_one, big_len]
    simp only [List.all_cons, List.all_nil, id, Bool.and_true, Bool.and_eq_true, ow_1, dec, Bool.false_or, Bool.not_eq_true', decide_eq_false_iff_not]
    refine ⟨?_, ?_, ?_⟩ <;> (intros; omega)
  · simp only [r113_0, e1, e0, tmod32, Nat.div_one, big_len, big_at, Bool.false_or]
    have da := dig_lt a (n / 32)
    rw [shr32_nat da, show (1 : Int) = ((1 : Nat) : Int) from rfl, land32_nn (Nat.lt_of_le_of_lt (Nat.div_le_self _ _) da) (by decide), (one_parts _).1, wri (by omega), bit_of_dig]
    by_cases h : ((n / 32 : Nat) : Int) ≥ (dlen a : Int)
    · rw [decide_eq_true h]
      have : a < 2 ^ n := by
        have h1 := dlen_self a
        rw [pow32] at h1
        exact Nat.lt_of_lt_of_le h1 (Nat.pow_le_pow_right (by decide) (by omega))
      rw [Nat.div_eq_of_lt this]; rfl
    · rw [decide_eq_false h]; rfl
theorem len_loop {a : Nat} : ∀ k : Nat, k ≤ 33554432 → a < 2 ^ k → L111700 (big a) (k : Int) = some [.i 0, .i (blen a : Int)]
  | 0, _, hn => by
    have h0 : a = 0 := by simpa using hn
    subst h0
    exact loopG_last (w := W111700) (c := C111700) (nx := N111700) (out := T111700) (s := [.l (big 0), .i ((0 : Nat) : Int)]) rfl rfl
  | k + 1, hk, hn => by
    have e1 : IntKind.wrap .i64 (((k + 1 : Nat) : Int) - 1) = (k : Int) := by rw [wrap_i64_of (by omega) (by omega)]; omega
    obtain ⟨b1, b2⟩ := bit_ok (a := a) (n := k) (by omega)
    have hw : W111700 [.l (big a), .i ((k + 1 : Nat) : Int)] = true := by
      show w111700 (big a) ((k + 1 : Nat) : Int) = true
      simp only [w111700, e1, b1, ow_t]; rfl
    have hd : a / 2 ^ k < 2 := by rw [Nat.div_lt_iff_lt_mul (Nat.two_pow_pos k), Nat.mul_comm, ← Nat.pow_succ]; exact hn
    have hc : C111700 [.l (big a), .i ((k + 1 : Nat) : Int)] = decide (a / 2 ^ k = 0) := by
      show c111700 (big a) ((k + 1 : Nat) : Int) = _
      simp only [c111700, e1, b2]
      rw [decide_eq_true (by omega), Nat.mod_eq_of_lt hd, Bool.true_and, Bool.eq_iff_iff]
      simp only [beq_iff_eq, dec]
      exact Int.natCast_eq_zero
    by_cases hz : a < 2 ^ k
    · rw [Nat.div_eq_of_lt hz] at hc
      have hn2 := loopG_next (out := T111700) (nx := N111700) (c := C111700) hw (by rw [hc]; rfl)
      have hN : N111700 [.l (big a), .i ((k + 1 : Nat) : Int)] = [.l (big a), .i (k : Int)] := by
        show [DV.l (big a), .i (IntKind.wrap .i64 (((k + 1 : Nat) : Int) - 1))] = _
        rw [e1]
      rw [hN] at hn2
      exact hn2.trans (len_loop k (by omega) hz)
    · have hge : 2 ^ k ≤ a := Nat.le_of_not_lt hz
      have h1 : a / 2 ^ k ≠ 0 := by rw [Nat.ne_zero_iff_zero_lt]; exact Nat.div_pos hge (Nat.two_pow_pos k)
      rw [blen_eq hge hn]
      exact loopG_last (out := T111700) (nx := N111700) (c := C111700) hw (by rw [hc]; exact decide_eq_false h1)
theorem len_ok {a : Nat} (ha : dlen a ≤ 1048576) : p117 (big a) = true ∧ r117_0 (big a) = (blen a : Int) := by
  have h := len_loop (a := a) (32 * dlen a) (by omega) (by rw [← pow32]; exact dlen_self a)
  have e : IntKind.wrap .i64 (32 * (((big a).length / 1 : Nat) : Int)) = ((32 * dlen a : Nat) : Int) := by
    rw [Nat.div_one, big_len, wrap_i64_of (by omega) (by omega)]; omega
  constructor
  · simp only [p117, e, p111700, h]; rfl
  · simp only [r117_0, e, r111700_1, h]; rfl

section
variable {a n : Nat} (ha : dlen a ≤ 1048576) (hn : n ≤ 33554432)
include ha hn
theorem down_zero : ∀ (t i : Nat), i + t = min n (32 * dlen a) → ∃ r2, L111200 (n : Int) (big a) (a % 2 ^ i == 0) (i : Int) = some [.i 0, .b (a % 2 ^ n == 0), r2] := by
  have eL : IntKind.wrap .i64 (32 * (((big a).length / 1 : Nat) : Int)) = ((32 * dlen a : Nat) : Int) := by
    rw [Nat.div_one, big_len, wrap_i64_of (by omega) (by omega)]; omega
  have hW : ∀ (z : Bool) (i : Nat), i ≤ 33554432 → W111200 [.i (n : Int), .l (big a), .b z, .i (i : Int)] = true := fun z i hi => by
    show w111200 (n : Int) (big a) z (i : Int) = true
    simp only [w111200, (bit_ok (a := a) (n := i) (by omega)).1, ow_t]; rfl
  have hC : ∀ (z : Bool) (i : Nat), C111200 [.i (n : Int), .l (big a), .b z, .i (i : Int)] = decide (i < min n (32 * dlen a)) := fun z i => by
    show c111200 (n : Int) (big a) z (i : Int) = _
    simp only [c111200, eL]
    rw [Bool.eq_iff_iff]
    simp only [Bool.and_eq_true, dec]
    omega
  intro t
  induction t with
  | zero =>
    intro i hi
    refine ⟨.i (i : Int), ?_⟩
    have := loopG_last (out := T111200) (nx := N111200) (c := C111200) (hW (a % 2 ^ i == 0) i (by omega)) (by rw [hC]; exact decide_eq_false (by omega))
    refine this.trans ?_
    have e : (a % 2 ^ i == 0) = (a % 2 ^ n == 0) := by
      rcases Nat.le_total n (32 * dlen a) with h | h
      · have : i = n := by omega
        rw [this]
      · have h1 := dlen_self a
        rw [pow32] at h1
        have h2 : i = 32 * dlen a := by omega
        rw [h2, Nat.mod_eq_of_lt h1, Nat.mod_eq_of_lt (Nat.lt_of_lt_of_le h1 (Nat.pow_le_pow_right (by decide) h))]
    rw [e]; rfl
  | succ t ih =>
    intro i hi
    obtain ⟨r2, h⟩ := ih (i + 1) (by omega)
    refine ⟨r2, ?_⟩
    have := loopG_next (out := T111200) (nx := N111200) (c := C111200) (hW (a % 2 ^ i == 0) i (by omega)) (by rw [hC]; exact decide_eq_true (by omega))
    refine this.trans ?_
    have hN : N111200 [.i (n : Int), .l (big a), .b (a % 2 ^ i == 0), .i (i : Int)] = [.i (n : Int), .l (big a), .b (a % 2 ^ (i + 1) == 0), .i ((i + 1 : Nat) : Int)] := by
      show [DV.i (n : Int), .l (big a), .b ((a % 2 ^ i == 0) && (r113_0 (big a) (i : Int) == 0)), .i (IntKind.wrap .i64 ((i : Int) + 1))] = _
      rw [wri1 (by omega), (bit_ok (a := a) (n := i) (by omega)).2]
      congr 4
      rw [Bool.eq_iff_iff]
      simp only [Bool.and_eq_true, beq_iff_eq]
      rw [Nat.pow_succ, Nat.mod_mul]
      have := Nat.two_pow_pos i
      constructor
      · rintro ⟨h1, h2⟩
        have h2 : a / 2 ^ i % 2 = 0 := by omega
        rw [h1, h2]; simp
      · intro h1
        have h3 : a % 2 ^ i = 0 ∧ 2 ^ i * (a / 2 ^ i % 2) = 0 := by omega
        refine ⟨h3.1, ?_⟩
        rcases Nat.mul_eq_zero.1 h3.2 with h4 | h4 <;> omega
    rw [hN]
    exact h
theorem down_step {j : Nat} (hj : n + j < 32 * dlen a) :
    W111202 [.i (n : Int), .l (big a), .l (dg ((j + 31) / 32) (a / 2 ^ n % 2 ^ j)), .i ((n + j : Nat) : Int), .l (big a)] = true ∧
    N111202 [.i (n : Int), .l (big a), .l (dg ((j + 31) / 32) (a / 2 ^ n % 2 ^ j)), .i ((n + j : Nat) : Int), .l (big a)] = [.i (n : Int), .l (big a), .l (dg ((j + 1 + 31) / 32) (a / 2 ^ n % 2 ^ (j + 1))), .i ((n + (j + 1) : Nat) : Int), .l (big a)] := by
  have e1 : IntKind.wrap .i64 (((n + j : Nat) : Int) - (n : Int)) = (j : Int) := by rw [wrap_i64_of (by omega) (by omega)]; omega
  obtain ⟨b1, b2⟩ := bit_ok (a := a) (n := n + j) (by omega)
  have hb : a / 2 ^ (n + j) % 2 = a / 2 ^ n / 2 ^ j % 2 := by rw [Nat.pow_add, Nat.div_div_eq_div_mul]
  rw [hb] at b2
  generalize a / 2 ^ n = m at *
  have hm : m % 2 ^ j < 2 ^ j := Nat.mod_lt _ (Nat.two_pow_pos j)
  have hx : (bif ((((j % 32 : Nat) : Int)) == 0) then dg ((j + 31) / 32) (m % 2 ^ j) ++ [.i 0] else dg ((j + 31) / 32) (m % 2 ^ j)) = dg (j / 32 + 1) (m % 2 ^ j) := by
    by_cases h : j % 32 = 0
    · have e : (((j % 32 : Nat) : Int) == 0) = true := by rw [h]; rfl
      have e2 : (j + 31) / 32 = j / 32 := by omega
      rw [e, cond_true, e2]
      have h2 : m % 2 ^ j < 4294967296 ^ (j / 32) := by rw [pow32]; refine Nat.lt_of_lt_of_le hm (Nat.pow_le_pow_right (by decide) (by omega))
      have := dg_snoc (d := 0) h2 (by decide)
      rw [Nat.zero_mul, Nat.add_zero] at this
      exact this
    · have e : (((j % 32 : Nat) : Int) == 0) = false := by simp; omega
      have e2 : (j + 31) / 32 = j / 32 + 1 := by omega
      rw [e, cond_false, e2]
  have hl : IntKind.wrap .i64 (((j / 32 + 1 : Nat) : Int) - 1) = ((j / 32 : Nat) : Int) := by rw [wrap_i64_of (by omega) (by omega)]; omega
  have ho : m % 2 ^ j < 4294967296 ^ (j / 32 + 1) := by rw [pow32]; refine Nat.lt_of_lt_of_le hm (Nat.pow_le_pow_right (by decide) (by omega))
  constructor
  · show w111202 (n : Int) (big a) (dg ((j + 31) / 32) (m % 2 ^ j)) ((n + j : Nat) : Int) (big a) = true
    simp only [w111202, e1, tmod32, hx, dg_len, Nat.div_one, hl, b1, ow_t]
    simp only [List.all_cons, List.all_nil, id, Bool.and_true, Bool.and_eq_true, ow_1, ow_2, dec, List.length_append, dg_len, List.length_cons, List.length_nil]
    refine ⟨?_, ?_, ?_, ?_, ?_, ?_⟩ <;> (intros; first | exact True.intro | rfl | omega)
  · show [DV.i (n : Int), .l (big a), .l (n111202_0 (n : Int) (big a) (dg ((j + 31) / 32) (m % 2 ^ j)) ((n + j : Nat) : Int) (big a)), .i (n111202_1 (n : Int) (big a) (dg ((j + 31) / 32) (m % 2 ^ j)) ((n + j : Nat) : Int) (big a)), .l (big a)] = _
    have q1 : n111202_1 (n : Int) (big a) (dg ((j + 31) / 32) (m % 2 ^ j)) ((n + j : Nat) : Int) (big a) = ((n + (j + 1) : Nat) : Int) := by
      simp only [n111202_1]
      rw [wri1 (by omega)]; rfl
    have q0 : n111202_0 (n : Int) (big a) (dg ((j + 31) / 32) (m % 2 ^ j)) ((n + j : Nat) : Int) (big a) = dg ((j + 1 + 31) / 32) (m % 2 ^ (j + 1)) := by
      simp only [n111202_0, e1, tmod32, hx, dg_len, Nat.div_one, hl]
      have e5 : ∀ k : Nat, Int.toNat ((k : Nat) : Int) * 1 + 0 = k := fun k => by omega
      rw [e5, dg_get ho, b2, wr32, shl32_nat]
      have hs : j % 32 < 32 := Nat.mod_lt _ (by decide)
      have hy : m / 2 ^ j % 2 < 2 := Nat.mod_lt _ (by decide)
      have hx0 : m % 2 ^ j / 4294967296 ^ (j / 32) < 2 ^ (j % 32) := by
        rw [Nat.div_lt_iff_lt_mul (pw_pos _), pow32, ← Nat.pow_add, show j % 32 + 32 * (j / 32) = j by omega]; exact hm
      have hxl := dig_lt (m % 2 ^ j) (j / 32)
      have hxe : m % 2 ^ j / 4294967296 ^ (j / 32) % 4294967296 = m % 2 ^ j / 4294967296 ^ (j / 32) := Nat.mod_eq_of_lt (by
        have : 2 ^ (j % 32) ≤ 2 ^ 31 := Nat.pow_le_pow_right (by decide) (by omega)
        omega)
      rw [← hxe] at hx0
      have hp : 2 ^ (j % 32) ≤ 2 ^ 31 := Nat.pow_le_pow_right (by decide) (by omega)
      have hyx : m / 2 ^ j % 2 * 2 ^ (j % 32) ≤ 2 ^ (j % 32) := by
        have : m / 2 ^ j % 2 * 2 ^ (j % 32) ≤ 1 * 2 ^ (j % 32) := Nat.mul_le_mul_right _ (by omega)
        omega
      rw [Nat.mod_eq_of_lt (show m / 2 ^ j % 2 < 4294967296 by omega), Nat.mod_eq_of_lt (show m / 2 ^ j % 2 * 2 ^ (j % 32) < 4294967296 by omega)]
      show (dg (j / 32 + 1) (m % 2 ^ j)).set (j / 32) (.i (ilor .u32 ((m % 2 ^ j / 4294967296 ^ (j / 32) % 4294967296 : Nat) : Int) ((m / 2 ^ j % 2 * 2 ^ (j % 32) : Nat) : Int))) = _
      rw [lor32_nn hxl (by omega), or_high hx0]
      have e6 : (j + 1 + 31) / 32 = j / 32 + 1 := by omega
      rw [e6]
      refine (dg_set (by omega) ho (by omega) ?_).1
      rw [Nat.pow_succ 2 j, Nat.mod_mul, Nat.add_mul, Nat.mul_assoc (m / 2 ^ j % 2), pow32 (j / 32), ← Nat.pow_add, show j % 32 + 32 * (j / 32) = j by omega, Nat.mul_comm (2 ^ j)]
      omega
    rw [q0, q1]
theorem down_rest : ∀ (t j : Nat), n + j + t = 32 * dlen a → ∃ r2 r3, L111202 (n : Int) (big a) (dg ((j + 31) / 32) (a / 2 ^ n % 2 ^ j)) ((n + j : Nat) : Int) (big a) = some [.i 0, .l (dg ((32 * dlen a - n + 31) / 32) (a / 2 ^ n)), r2, r3] := by
  have eL : IntKind.wrap .i64 (32 * (((big a).length / 1 : Nat) : Int)) = ((32 * dlen a : Nat) : Int) := by
    rw [Nat.div_one, big_len, wrap_i64_of (by omega) (by omega)]; omega
  have hC : ∀ (o : List DV) (j : Nat), C111202 [.i (n : Int), .l (big a), .l o, .i ((n + j : Nat) : Int), .l (big a)] = decide (n + j < 32 * dlen a) := fun o j => by
    show c111202 (n : Int) (big a) o ((n + j : Nat) : Int) (big a) = _
    simp only [c111202, eL]
    rw [Bool.eq_iff_iff]
    simp only [dec]
    omega
  intro t
  induction t with
  | zero =>
    intro j hj
    refine ⟨.i ((n + j : Nat) : Int), .l (big a), ?_⟩
    have hw : W111202 [.i (n : Int), .l (big a), .l (dg ((j + 31) / 32) (a / 2 ^ n % 2 ^ j)), .i ((n + j : Nat) : Int), .l (big a)] = true := by
      show w111202 (n : Int) (big a) (dg ((j + 31) / 32) (a / 2 ^ n % 2 ^ j)) ((n + j : Nat) : Int) (big a) = true
      simp only [w111202, eL]
      rw [decide_eq_false (show ¬ ((n + j : Nat) : Int) < ((32 * dlen a : Nat) : Int) by omega)]
      simp [ow]
    refine (loopG_last (out := T111202) (nx := N111202) (c := C111202) hw (by rw [hC]; exact decide_eq_false (by omega))).trans ?_
    have h1 := dlen_self a
    rw [pow32] at h1
    have h2 : a / 2 ^ n < 2 ^ j := by
      rw [Nat.div_lt_iff_lt_mul (Nat.two_pow_pos n), ← Nat.pow_add]
      exact Nat.lt_of_lt_of_le h1 (Nat.pow_le_pow_right (by decide) (by omega))
    rw [Nat.mod_eq_of_lt h2, show 32 * dlen a - n = j by omega]
    rfl
  | succ t ih =>
    intro j hj
    obtain ⟨hw, hN⟩ := down_step ha hn (j := j) (by omega)
    obtain ⟨r2, r3, h⟩ := ih (j + 1) (by omega)
    refine ⟨r2, r3, ?_⟩
    refine (loopG_next (out := T111202) (nx := N111202) (c := C111202) hw (by rw [hC]; exact decide_eq_true (by omega))).trans ?_
    rw [hN]
    exact h
theorem down_ok : p112 (big a) (n : Int) = true ∧ r112_0 (big a) (n : Int) = (a % 2 ^ n == 0) ∧ r112_1 (big a) (n : Int) = big (a / 2 ^ n) := by
  obtain ⟨q2, hz⟩ := down_zero ha hn (min n (32 * dlen a)) 0 (by omega)
  have hz : L111200 (n : Int) (big a) true 0 = some [.i 0, .b (a % 2 ^ n == 0), q2] := by
    have : (a % 2 ^ 0 == 0) = true := by simp [Nat.mod_one]
    rw [this] at hz; exact hz
  have hr : ∃ k r2 r3, a / 2 ^ n < 4294967296 ^ k ∧ k ≤ 1048577 ∧ L111202 (n : Int) (big a) [] (n : Int) (big a) = some [.i 0, .l (dg k (a / 2 ^ n)), r2, r3] := by
    by_cases h : n ≤ 32 * dlen a
    · obtain ⟨r2, r3, h2⟩ := down_rest ha hn (32 * dlen a - n) 0 (by omega)
      refine ⟨_, r2, r3, ?_, ?_, h2⟩
      · have h1 := dlen_self a
        rw [pow32] at h1
        rw [Nat.div_lt_iff_lt_mul (Nat.two_pow_pos n), pow32, ← Nat.pow_add]
        exact Nat.lt_of_lt_of_le h1 (Nat.pow_le_pow_right (by decide) (by omega))
      · omega
    · refine ⟨0, .i (n : Int), .l (big a), ?_, by omega, ?_⟩
      · have h1 := dlen_self a
        rw [pow32] at h1
        rw [Nat.div_eq_of_lt (Nat.lt_of_lt_of_le h1 (Nat.pow_le_pow_right (by decide) (by omega)))]
        decide
      · have eL : IntKind.wrap .i64 (32 * (((big a).length / 1 : Nat) : Int)) = ((32 * dlen a : Nat) : Int) := by
          rw [Nat.div_one, big_len, wrap_i64_of (by omega) (by omega)]; omega
        have ed : decide ((n : Int) < ((32 * dlen a : Nat) : Int)) = false := decide_eq_false (by omega)
        have hw : W111202 [.i (n : Int), .l (big a), .l [], .i (n : Int), .l (big a)] = true := by
          show w111202 (n : Int) (big a) [] (n : Int) (big a) = true
          simp only [w111202, eL, ed]
          simp [ow]
        have hc : C111202 [.i (n : Int), .l (big a), .l [], .i (n : Int), .l (big a)] = false := by
          show c111202 (n : Int) (big a) [] (n : Int) (big a) = false
          simp only [c111202, eL, ed]
        exact loopG_last (out := T111202) (nx := N111202) (c := C111202) hw hc
  obtain ⟨k, r2, r3, hlt, hk, hL⟩ := hr
  have hg : g111202 [.i (n : Int), .l (big a), .l [], .i (n : Int), .l (big a)] = [.b true, .i 0, .l (dg k (a / 2 ^ n)), .i (r2.toI), .l r3.toL] := by
    show [DV.b (p111202 (n : Int) (big a) [] (n : Int) (big a)), .i (r111202_0 (n : Int) (big a) [] (n : Int) (big a)), .l (r111202_1 (n : Int) (big a) [] (n : Int) (big a)), .i (r111202_2 (n : Int) (big a) [] (n : Int) (big a)), .l (r111202_3 (n : Int) (big a) [] (n : Int) (big a))] = _
    simp only [p111202, r111202_0, r111202_1, r111202_2, r111202_3, hL]
    rfl
  have ht := trim_ok (K := k) (n := a / 2 ^ n) (by omega) hlt
  refine ⟨?_, ?_, ?_⟩
  · have : p111200 (n : Int) (big a) true 0 = true := by unfold p111200; rw [hz]; rfl
    simp only [p112, hg, this]
    show [ow [] true, ow [] true, ow [] (p116 (dg k (a / 2 ^ n)))].all id = true
    rw [ht.1]; rfl
  · simp only [r112_0, r111200_1, hz]; rfl
  · simp only [r112_1, hg]
    exact ht.2
end

theorem low_ok {a : Nat} : p111 (big a) = true ∧ r111_0 (big a) = ((a % 18446744073709551616 : Nat) : Int) := by
  have hC : ∀ (x : Int) (i : Nat), C111100 [.l (big a), .i x, .i (i : Int)] = decide (i < dlen a ∧ i < 2) := fun x i => by
    show c111100 (big a) x (i : Int) = _
    simp only [c111100, Nat.div_one, big_len]
    rw [Bool.eq_iff_iff]
    simp only [Bool.and_eq_true, dec]
    omega
  have hW : ∀ (x : Int) (i : Nat), i ≤ 2 → W111100 [.l (big a), .i x, .i (i : Int)] = true := fun x i hi => by
    show w111100 (big a) x (i : Int) = true
    have : IntKind.wrap .i64 (32 * (i : Int)) = 32 * i := wrap_i64_of (by omega) (by omega)
    simp only [w111100, this, Nat.div_one, big_len]
    simp only [List.all_cons, List.all_nil, id, Bool.and_true, Bool.and_eq_true, ow_1, dec]
    refine ⟨?_, ?_, ?_⟩ <;> (intros; omega)
  have hl : ∀ (t i : Nat), i + t = 2 → ∃ r2, L111100 (big a) ((a % 4294967296 ^ i : Nat) : Int) (i : Int) = some [.i 0, .i ((a % 18446744073709551616 : Nat) : Int), r2] := by
    have last : ∀ i : Nat, i ≤ 2 → dlen a ≤ i ∨ i = 2 → ∃ r2, L111100 (big a) ((a % 4294967296 ^ i : Nat) : Int) (i : Int) = some [.i 0, .i ((a % 18446744073709551616 : Nat) : Int), r2] := fun i hi h => by
      refine ⟨.i (i : Int), (loopG_last (out := T111100) (nx := N111100) (c := C111100) (hW _ i hi) (by rw [hC]; exact decide_eq_false (by omega))).trans ?_⟩
      have e : a % 4294967296 ^ i = a % 18446744073709551616 := by
        rcases h with h | h
        · rw [mod_self h, Nat.mod_eq_of_lt]
          have h5 : 4294967296 ^ dlen a ≤ 4294967296 ^ 2 := Nat.pow_le_pow_right (by decide) (by omega)
          exact Nat.lt_of_lt_of_le (dlen_self a) h5
        · subst h; rfl
      rw [← e]; rfl
    intro t
    induction t with
    | zero => intro i hi; exact last i (by omega) (Or.inr (by omega))
    | succ t ih =>
      intro i hi
      by_cases h : dlen a ≤ i
      · exact last i (by omega) (Or.inl h)
      · obtain ⟨r2, h2⟩ := ih (i + 1) (by omega)
        refine ⟨r2, (loopG_next (out := T111100) (nx := N111100) (c := C111100) (hW _ i (by omega)) (by rw [hC]; exact decide_eq_true (by omega))).trans ?_⟩
        have hN : N111100 [.l (big a), .i ((a % 4294967296 ^ i : Nat) : Int), .i (i : Int)] = [.l (big a), .i ((a % 4294967296 ^ (i + 1) : Nat) : Int), .i ((i + 1 : Nat) : Int)] := by
          show [DV.l (big a), .i (n111100_0 (big a) ((a % 4294967296 ^ i : Nat) : Int) (i : Int)), .i (IntKind.wrap .i64 ((i : Int) + 1))] = _
          rw [wri1 (by omega)]
          have da := dig_lt a i
          have e3 : IntKind.wrap .i64 (32 * (i : Int)) = ((32 * i : Nat) : Int) := by rw [wrap_i64_of (by omega) (by omega)]; omega
          have hm : a % 4294967296 ^ i < 2 ^ (32 * i) := by rw [← pow32]; exact Nat.mod_lt _ (pw_pos i)
          have hp : 2 ^ (32 * i) ≤ 2 ^ 32 := Nat.pow_le_pow_right (by decide) (by omega)
          have hx : a / 4294967296 ^ i % 4294967296 * 2 ^ (32 * i) < 18446744073709551616 := by
            have : a / 4294967296 ^ i % 4294967296 * 2 ^ (32 * i) ≤ 4294967295 * 2 ^ 32 := Nat.mul_le_mul (by omega) hp
            omega
          have q0 : n111100_0 (big a) ((a % 4294967296 ^ i : Nat) : Int) (i : Int) = ((a % 4294967296 ^ (i + 1) : Nat) : Int) := by
            simp only [n111100_0, big_at, e3]
            rw [wr64 (by omega), shl_lt hx, lor_nn (by omega) hx, or_high hm, mod_succ, pow32]
          rw [q0]
        rw [hN]
        exact h2
  obtain ⟨r2, h⟩ := hl 2 0 (by omega)
  have h : L111100 (big a) 0 0 = some [.i 0, .i ((a % 18446744073709551616 : Nat) : Int), r2] := by simpa [Nat.mod_one] using h
  constructor
  · simp only [p111, p111100, h]; rfl
  · simp only [r111_0, r111100_1, h]; rfl

section
variable {a b : Nat} (ha : dlen a ≤ 1048576) (hb : dlen b ≤ 1048576)
def timesS (a b i o c k : Nat) : List DV := [.l (big a), .l (big b), .i (i : Int), .i (c : Int), .i (k : Int), .l (dg (dlen a + dlen b) o)]
include ha hb
theorem times_step {i o c k : Nat} (hi : i < dlen a) (hk : k ≤ 1048577) (hc : c < 4294967296) (ho : o < 4294967296 ^ (dlen a + dlen b)) (hg : k < dlen b ∨ 0 < c → i + k < dlen a + dlen b) :
    W110102 (timesS a b i o c k) = true ∧ C110102 (timesS a b i o c k) = decide (k < dlen b ∨ 0 < c) ∧
    ((k < dlen b ∨ 0 < c) → ∃ o' c', N110102 (timesS a b i o c k) = timesS a b i o' c' (k + 1) ∧ c' < 4294967296 ∧ o' < 4294967296 ^ (dlen a + dlen b) ∧
      o' + c' * 4294967296 ^ (i + k + 1) = o + c * 4294967296 ^ (i + k) + a / 4294967296 ^ i % 4294967296 * (b / 4294967296 ^ k % 4294967296) * 4294967296 ^ (i + k)) := by
  have _ := hb
  have eI : IntKind.wrap .i64 ((i : Int) + (k : Int)) = ((i + k : Nat) : Int) := by rw [wrap_i64_of (by omega) (by omega)]; rfl
  refine ⟨?_, ?_, ?_⟩
  · show w110102 (big a) (big b) (i : Int) (c : Int) (k : Int) (dg (dlen a + dlen b) o) = true
    simp only [w110102, eI]
    simp only [List.all_cons, List.all_nil, id, Bool.and_true, Bool.and_eq_true, ow_2, ow_1, Bool.or_eq_true, dec, Nat.div_one, dg_len, big_len]
    refine ⟨?_, ?_, ?_, ?_, ?_, ?_, ?_, ?_⟩ <;> (intros; omega)
  · show c110102 (big a) (big b) (i : Int) (c : Int) (k : Int) (dg (dlen a + dlen b) o) = _
    simp only [c110102, Nat.div_one, big_len]
    rw [Bool.eq_iff_iff]
    simp only [Bool.or_eq_true, dec]
    omega
  · intro hgo
    have hik := hg hgo
    have da := dig_lt a i
    have db := dig_lt b k
    have dd := dig_lt o (i + k)
    have zb : ¬ k < dlen b → b / 4294967296 ^ k % 4294967296 = 0 := fun h => dig_zero (by omega)
    have eA := big_at a i
    have eB := big_at b k
    have eO : ((dg (dlen a + dlen b) o).getD (Int.toNat ((i + k : Nat) : Int) * 1 + 0) default).toI = ((o / 4294967296 ^ (i + k) % 4294967296 : Nat) : Int) := by
      rw [Int.toNat_natCast, Nat.mul_one, Nat.add_zero, dg_get ho]
    generalize hx : a / 4294967296 ^ i % 4294967296 = x at *
    generalize hy : b / 4294967296 ^ k % 4294967296 = y at *
    have hxy : x * y ≤ 4294967295 * 4294967295 := Nat.mul_le_mul (by omega) (by omega)
    generalize hd : o / 4294967296 ^ (i + k) % 4294967296 = d at *
    have g1 : (bif decide ((k : Int) < (((big b).length / 1 : Nat) : Int)) then IntKind.wrap .u64 (IntKind.wrap .u64 (IntKind.wrap .u64 (d : Int) + (c : Int)) + IntKind.wrap .u64 (IntKind.wrap .u64 (x : Int) * IntKind.wrap .u64 (y : Int))) else IntKind.wrap .u64 (IntKind.wrap .u64 (d : Int) + (c : Int))) = ((d + c + x * y : Nat) : Int) := by
      have e1 : IntKind.wrap .u64 (IntKind.wrap .u64 (d : Int) + (c : Int)) = ((d + c : Nat) : Int) := by
        rw [wr64 (n := d) (by omega), ← Int.natCast_add, wr64 (by omega)]
      have e2 : IntKind.wrap .u64 (IntKind.wrap .u64 (x : Int) * IntKind.wrap .u64 (y : Int)) = ((x * y : Nat) : Int) := by
        rw [wr64 (n := x) (by omega), wr64 (n := y) (by omega), ← Int.natCast_mul, wr64 (by omega)]
      rw [e1, e2, Nat.div_one, big_len]
      by_cases h : k < dlen b
      · rw [decide_eq_true (by omega), cond_true, ← Int.natCast_add, wr64 (by omega)]
      · rw [decide_eq_false (by omega), cond_false, zb h]; rfl
    have hset := dg_set (K := dlen a + dlen b) (p := i + k) (o := o) (o' := o - d * 4294967296 ^ (i + k) + (d + c + x * y) % 4294967296 * 4294967296 ^ (i + k)) (d := (d + c + x * y) % 4294967296) hik ho (Nat.mod_lt _ (by decide)) (by
      rw [hd]
      have : d * 4294967296 ^ (i + k) ≤ o := by
        rw [← hd]
        exact Nat.le_trans (Nat.mul_le_mul_right _ (Nat.mod_le _ _)) (Nat.div_mul_le_self _ _)
      omega)
    refine ⟨o - d * 4294967296 ^ (i + k) + (d + c + x * y) % 4294967296 * 4294967296 ^ (i + k), (d + c + x * y) / 4294967296, ?_, ?_, hset.2, ?_⟩
    · show [DV.l (big a), .l (big b), .i (i : Int), .i (n110102_0 (big a) (big b) (i : Int) (c : Int) (k : Int) (dg (dlen a + dlen b) o)), .i (n110102_1 (big a) (big b) (i : Int) (c : Int) (k : Int) (dg (dlen a + dlen b) o)), .l (n110102_2 (big a) (big b) (i : Int) (c : Int) (k : Int) (dg (dlen a + dlen b) o))] = _
      have q0 : n110102_0 (big a) (big b) (i : Int) (c : Int) (k : Int) (dg (dlen a + dlen b) o) = (((d + c + x * y) / 4294967296 : Nat) : Int) := by
        simp only [n110102_0, eI]
        rw [eA, eB, eO, g1, shr32]
      have q1 : n110102_1 (big a) (big b) (i : Int) (c : Int) (k : Int) (dg (dlen a + dlen b) o) = ((k + 1 : Nat) : Int) := by
        simp only [n110102_1]
        rw [wri1 (by omega)]
      have q2 : n110102_2 (big a) (big b) (i : Int) (c : Int) (k : Int) (dg (dlen a + dlen b) o) = dg (dlen a + dlen b) (o - d * 4294967296 ^ (i + k) + (d + c + x * y) % 4294967296 * 4294967296 ^ (i + k)) := by
        simp only [n110102_2, eI]
        rw [eA, eB, eO, g1, wr32, Int.toNat_natCast, Nat.mul_one, Nat.add_zero]
        exact hset.1
      rw [q0, q1, q2]; rfl
    · rw [Nat.div_lt_iff_lt_mul (by decide)]; omega
    · have : d * 4294967296 ^ (i + k) ≤ o := by
        rw [← hd]
        exact Nat.le_trans (Nat.mul_le_mul_right _ (Nat.mod_le _ _)) (Nat.div_mul_le_self _ _)
      rw [Nat.pow_succ]
      generalize 4294967296 ^ (i + k) = P at *
      generalize x * y = z at *
      have e1 : (d + c + z) * P = ((d + c + z) % 4294967296 + (d + c + z) / 4294967296 * 4294967296) * P := by rw [Nat.mod_add_div']
      rw [Nat.add_mul, Nat.add_mul, Nat.add_mul, Nat.mul_assoc ((d + c + z) / 4294967296), Nat.mul_comm 4294967296 P] at e1
      omega
theorem times_in {i : Nat} (hi : i < dlen a) {o0 : Nat} (h0 : o0 + a / 4294967296 ^ i % 4294967296 * b * 4294967296 ^ i < 4294967296 ^ (i + 1 + dlen b)) : ∀ (t k o c : Nat), k + t = dlen b + 1 → c < 4294967296 → o < 4294967296 ^ (dlen a + dlen b) →
    o + c * 4294967296 ^ (i + k) = o0 + a / 4294967296 ^ i % 4294967296 * (b % 4294967296 ^ k) * 4294967296 ^ i →
    ∃ r1 r2, loopG W110102 C110102 N110102 T110102 (timesS a b i o c k) = some [.i 0, r1, r2, .l (dg (dlen a + dlen b) (o0 + a / 4294967296 ^ i % 4294967296 * b * 4294967296 ^ i))] := by
  have hcz : ∀ k o c : Nat, dlen b < k → o + c * 4294967296 ^ (i + k) = o0 + a / 4294967296 ^ i % 4294967296 * (b % 4294967296 ^ k) * 4294967296 ^ i → c = 0 := fun k o c hk he => by
    rcases Nat.eq_zero_or_pos c with h | h
    · exact h
    · exfalso
      rw [mod_self (by omega)] at he
      have h1 : 4294967296 ^ (i + 1 + dlen b) ≤ 4294967296 ^ (i + k) := Nat.pow_le_pow_right (by decide) (by omega)
      have h2 : 1 * 4294967296 ^ (i + k) ≤ c * 4294967296 ^ (i + k) := Nat.mul_le_mul_right _ h
      omega
  have last : ∀ k o : Nat, k ≤ dlen b + 1 → o < 4294967296 ^ (dlen a + dlen b) → ¬ k < dlen b → o + 0 * 4294967296 ^ (i + k) = o0 + a / 4294967296 ^ i % 4294967296 * (b % 4294967296 ^ k) * 4294967296 ^ i →
      ∃ r1 r2, loopG W110102 C110102 N110102 T110102 (timesS a b i o 0 k) = some [.i 0, r1, r2, .l (dg (dlen a + dlen b) (o0 + a / 4294967296 ^ i % 4294967296 * b * 4294967296 ^ i))] := fun k o hk ho hg he => by
    obtain ⟨hw, hc, _⟩ := times_step ha hb (i := i) (o := o) (c := 0) (k := k) hi (by omega) (by decide) ho (fun h => by omega)
    rw [decide_eq_false (by omega)] at hc
    rw [mod_self (by omega), Nat.zero_mul, Nat.add_zero] at he
    refine ⟨.i ((0 : Nat) : Int), .i (k : Int), ?_⟩
    rw [loopG_last hw hc, ← he]; rfl
  intro t
  induction t with
  | zero =>
    intro k o c hk hc ho he
    have hc0 := hcz k o c (by omega) he
    subst hc0
    exact last k o (by omega) ho (by omega) he
  | succ t ih =>
    intro k o c hk hc ho he
    by_cases hgo : k < dlen b ∨ 0 < c
    · obtain ⟨hw, hcc, hN⟩ := times_step ha hb (i := i) (o := o) (c := c) (k := k) hi (by omega) hc ho (fun _ => by omega)
      rw [decide_eq_true hgo] at hcc
      obtain ⟨o', c', hN, hc', ho', he'⟩ := hN hgo
      rw [loopG_next hw hcc, hN]
      refine ih (k + 1) o' c' (by omega) hc' ho' ?_
      rw [← Nat.add_assoc, he', he, mod_succ b k, Nat.mul_add, Nat.add_mul, Nat.add_assoc, Nat.mul_assoc _ (b / _ % _), Nat.mul_assoc _ (b / _ % _ * _), Nat.mul_assoc (b / _ % _) _ (4294967296 ^ i), ← Nat.pow_add, Nat.add_comm k i]
    · have hc0 : c = 0 := by omega
      subst hc0
      exact last k o (by omega) ho (by omega) he
theorem times_loop : ∀ (t i : Nat), i + t = dlen a → ∃ r1, L110100 (big a) (big b) (i : Int) (dg (dlen a + dlen b) (a % 4294967296 ^ i * b)) = some [.i 0, r1, .l (dg (dlen a + dlen b) (a * b))] := by
  have hlt : ∀ i : Nat, a % 4294967296 ^ i * b < 4294967296 ^ (i + dlen b) := fun i => by
    rw [Nat.pow_add]
    exact Nat.mul_lt_mul_of_lt_of_le (Nat.mod_lt _ (pw_pos i)) (Nat.le_of_lt (dlen_self b)) (pw_pos _)
  have hle : ∀ i j : Nat, i ≤ j → 4294967296 ^ i ≤ 4294967296 ^ j := fun i j h => Nat.pow_le_pow_right (by decide) h
  intro t
  induction t with
  | zero =>
    intro i hi
    obtain rfl : i = dlen a := by omega
    rw [mod_self (Nat.le_refl _)]
    refine ⟨.i (dlen a : Int), ?_⟩
    have hw : W110100 [.l (big a), .l (big b), .i (dlen a : Int), .l (dg (dlen a + dlen b) (a * b))] = true := by
      show w110100 (big a) (big b) (dlen a : Int) (dg (dlen a + dlen b) (a * b)) = true
      simp only [w110100, Nat.div_one, big_len]
      rw [decide_eq_false (by omega)]
      simp [ow]
    have hc : C110100 [.l (big a), .l (big b), .i (dlen a : Int), .l (dg (dlen a + dlen b) (a * b))] = false := by
      show c110100 (big a) (big b) (dlen a : Int) (dg (dlen a + dlen b) (a * b)) = false
      simp only [c110100, Nat.div_one, big_len]
      exact decide_eq_false (by omega)
    exact loopG_last (out := T110100) (nx := N110100) (c := C110100) hw hc
  | succ t ih =>
    intro i hi
    obtain ⟨r1, h⟩ := ih (i + 1) (by omega)
    refine ⟨r1, ?_⟩
    have e0 : a % 4294967296 ^ i * b + a / 4294967296 ^ i % 4294967296 * b * 4294967296 ^ i = a % 4294967296 ^ (i + 1) * b := by
      rw [mod_succ, Nat.add_mul, Nat.mul_right_comm]
    obtain ⟨s1, s2, hin⟩ := times_in ha hb (i := i) (by omega) (o0 := a % 4294967296 ^ i * b) (by rw [e0]; exact hlt (i + 1)) (dlen b + 1) 0 (a % 4294967296 ^ i * b) 0 (by omega) (by decide) (Nat.lt_of_lt_of_le (hlt i) (hle _ _ (by omega))) (by simp [Nat.mod_one])
    rw [e0] at hin
    have hg : g110102 [.l (big a), .l (big b), .i (i : Int), .i 0, .i 0, .l (dg (dlen a + dlen b) (a % 4294967296 ^ i * b))] = [.b true, .i 0, .i s1.toI, .i s2.toI, .l (dg (dlen a + dlen b) (a % 4294967296 ^ (i + 1) * b))] := by
      have hL : L110102 (big a) (big b) (i : Int) 0 0 (dg (dlen a + dlen b) (a % 4294967296 ^ i * b)) = some [.i 0, s1, s2, .l (dg (dlen a + dlen b) (a % 4294967296 ^ (i + 1) * b))] := hin
      show [DV.b (p110102 (big a) (big b) (i : Int) 0 0 (dg (dlen a + dlen b) (a % 4294967296 ^ i * b))), .i (r110102_0 (big a) (big b) (i : Int) 0 0 (dg (dlen a + dlen b) (a % 4294967296 ^ i * b))), .i (r110102_1 (big a) (big b) (i : Int) 0 0 (dg (dlen a + dlen b) (a % 4294967296 ^ i * b))), .i (r110102_2 (big a) (big b) (i : Int) 0 0 (dg (dlen a + dlen b) (a % 4294967296 ^ i * b))), .l (r110102_3 (big a) (big b) (i : Int) 0 0 (dg (dlen a + dlen b) (a % 4294967296 ^ i * b)))] = _
      simp only [p110102, r110102_0, r110102_1, r110102_2, r110102_3, hL]
      rfl
    have hw : W110100 [.l (big a), .l (big b), .i (i : Int), .l (dg (dlen a + dlen b) (a % 4294967296 ^ i * b))] = true := by
      show w110100 (big a) (big b) (i : Int) (dg (dlen a + dlen b) (a % 4294967296 ^ i * b)) = true
      simp only [w110100, hg]
      exact Bool.and_eq_true_iff.2 ⟨ow_t _, rfl⟩
    have hc : C110100 [.l (big a), .l (big b), .i (i : Int), .l (dg (dlen a + dlen b) (a % 4294967296 ^ i * b))] = true := by
      show c110100 (big a) (big b) (i : Int) (dg (dlen a + dlen b) (a % 4294967296 ^ i * b)) = true
      simp only [c110100, Nat.div_one, big_len]
      exact decide_eq_true (by omega)
    refine (loopG_next (out := T110100) (nx := N110100) (c := C110100) hw hc).trans ?_
    have hN : N110100 [.l (big a), .l (big b), .i (i : Int), .l (dg (dlen a + dlen b) (a % 4294967296 ^ i * b))] = [.l (big a), .l (big b), .i ((i + 1 : Nat) : Int), .l (dg (dlen a + dlen b) (a % 4294967296 ^ (i + 1) * b))] := by
      show [DV.l (big a), .l (big b), .i (IntKind.wrap .i64 ((i : Int) + 1)), .l (n110100_1 (big a) (big b) (i : Int) (dg (dlen a + dlen b) (a % 4294967296 ^ i * b)))] = _
      rw [wri1 (by omega)]
      congr 4
      simp only [n110100_1, hg]
      rfl
    rw [hN]
    exact h
theorem times_ok : p101 (big a) (big b) = true ∧ r101_0 (big a) (big b) = big (a * b) := by
  have e : IntKind.wrap .i64 ((((big a).length / 1 : Nat) : Int) + (((big b).length / 1 : Nat) : Int)) = ((dlen a + dlen b : Nat) : Int) := by
    rw [Nat.div_one, Nat.div_one, big_len, big_len, wrap_i64_of (by omega) (by omega)]; rfl
  have hz : (List.replicate (dlen a + dlen b) ([.i 0] : List DV)).flatten = dg (dlen a + dlen b) 0 := dg_zeros _
  obtain ⟨r1, hL⟩ := times_loop ha hb (dlen a) 0 (by omega)
  rw [Nat.pow_zero, Nat.mod_one, Nat.zero_mul] at hL
  have hL : L110100 (big a) (big b) 0 (dg (dlen a + dlen b) 0) = some [.i 0, r1, .l (dg (dlen a + dlen b) (a * b))] := hL
  have hlt : a * b < 4294967296 ^ (dlen a + dlen b) := by
    rw [Nat.pow_add]
    exact Nat.mul_lt_mul_of_lt_of_le (dlen_self a) (Nat.le_of_lt (dlen_self b)) (pw_pos _)
  have ht := trim_ok (K := dlen a + dlen b) (n := a * b) (by omega) hlt
  constructor
  · simp only [p101, e, Int.toNat_natCast, hz, p110100, r110100_2, hL]
    show [ow [] (decide (((dlen a + dlen b : Nat) : Int) ≥ 0)), ow [] (decide (((dlen a + dlen b : Nat) : Int) ≤ ((dlen a + dlen b : Nat) : Int))), ow [] (decide (((dlen a + dlen b : Nat) : Int) ≤ 14073748835532)), ow [] true, ow [] (p116 (dg (dlen a + dlen b) (a * b)))].all id = true
    rw [ht.1, decide_eq_true (by omega), decide_eq_true (by omega), decide_eq_true (by omega)]; rfl
  · simp only [r101_0, e, Int.toNat_natCast, hz, r110100_2, hL]
    exact ht.2
end
end Go.Proofs.Ytacciadcmiiimaa

namespace Go.Proofs.Ytacciadcmiiimaa
open Go Go.Sx Go.Rnd
set_option maxRecDepth 100000
set_option maxHeartbeats 1000000

theorem blen_mono {a b : Nat} (h : a ≤ b) : blen a ≤ blen b := blen_le.2 (Nat.lt_of_le_of_lt h blen_self)
theorem up1_ok {a : Nat} (ha : dlen a ≤ 1048576) : p104 (big a) 1 = true ∧ r104_0 (big a) 1 = big (2 * a) := by
  have := up_ok (a := a) (n := 1) ha (by decide)
  rw [Nat.pow_one, Nat.mul_comm] at this
  exact this
theorem inc_ok {a : Nat} (ha : dlen a ≤ 1048576) : p114 (big a) [.i 1] = true ∧ r114_0 (big a) [.i 1] = big (a + 1) := by
  have := plus_ok (a := a) (b := 1) ha (by rw [dlen_one]; decide)
  rw [big_one] at this
  exact this

section
variable {a b : Nat} (ha : blen a ≤ 1000000) (hb0 : 0 < b) (hb : blen b ≤ 1000000)
def overS (a b q r : Nat) (i : Int) : List DV := [.l (big b), .l (big a), .l (big q), .l (big r), .i i, .l (big a), .l (big a)]
include ha hb0 hb
theorem over_step {i : Nat} (hi : i < blen a) :
    W110300 (overS a b (a / 2 ^ (i + 1) / b) (a / 2 ^ (i + 1) % b) (i : Int)) = true ∧
    N110300 (overS a b (a / 2 ^ (i + 1) / b) (a / 2 ^ (i + 1) % b) (i : Int)) = overS a b (a / 2 ^ i / b) (a / 2 ^ i % b) ((i : Int) - 1) := by
  have hm : a / 2 ^ i = 2 * (a / 2 ^ (i + 1)) + a / 2 ^ i % 2 := by
    rw [Nat.pow_succ, ← Nat.div_div_eq_div_mul]; omega
  have hq : a / 2 ^ (i + 1) / b ≤ a := Nat.le_trans (Nat.div_le_self _ _) (Nat.div_le_self _ _)
  have hbit : a / 2 ^ i % 2 < 2 := Nat.mod_lt _ (by decide)
  obtain ⟨b1, b2⟩ := bit_ok (a := a) (n := i) (by omega)
  have hr : a / 2 ^ (i + 1) % b < b := Nat.mod_lt _ hb0
  have hdm := Nat.div_add_mod (a / 2 ^ (i + 1)) b
  generalize a / 2 ^ (i + 1) / b = q at *
  generalize a / 2 ^ (i + 1) % b = r at *
  generalize a / 2 ^ i % 2 = t at *
  rw [hm]
  generalize a / 2 ^ (i + 1) = m at *
  have hbb := blen_self (n := b)
  obtain ⟨K, hK⟩ : ∃ K : Nat, K = 1000000 := ⟨_, rfl⟩
  have hbp : 2 ^ blen b ≤ 2 ^ K := Nat.pow_le_pow_right (by decide) (by omega)
  have haa := blen_self (n := a)
  have hap : 2 ^ blen a ≤ 2 ^ K := Nat.pow_le_pow_right (by decide) (by omega)
  have hd : ∀ x : Nat, x < 4 * 2 ^ K → dlen x ≤ 1048576 := fun x hx => dlen_of (k := K + 2) (by rw [Nat.pow_add, Nat.mul_comm]; exact hx) (by omega)
  generalize 2 ^ K = P at *
  obtain ⟨u1, u2⟩ := up1_ok (a := r) (hd _ (by omega))
  obtain ⟨v1, v2⟩ := up1_ok (a := q) (hd _ (by omega))
  obtain ⟨w1, w2⟩ := inc_ok (a := 2 * r) (hd _ (by omega))
  obtain ⟨y1, y2⟩ := inc_ok (a := 2 * q) (hd _ (by omega))
  have hx : (bif (((t : Nat) : Int) == 1) then big (2 * r + 1) else big (2 * r)) = big (2 * r + t) := by
    by_cases h : t = 1
    · subst h; rfl
    · have h : t = 0 := by omega
      subst h; rfl
  obtain ⟨l1, l2⟩ := less_ok (a := 2 * r + t) (b := b) (hd _ (by omega))
  have wr : IntKind.wrap .i64 ((i : Int) - 1) = (i : Int) - 1 := wrap_i64_of (by omega) (by omega)
  have hsub : ¬ 2 * r + t < b → p110 (big (2 * r + t)) (big b) = true ∧ r110_0 (big (2 * r + t)) (big b) = big (2 * r + t - b) := fun h => minus_ok (hd _ (by omega)) (by omega)
  have hdiv : (2 * m + t) / b = (if 2 * r + t < b then 2 * q else 2 * q + 1) ∧ (2 * m + t) % b = (if 2 * r + t < b then 2 * r + t else 2 * r + t - b) := by
    have e5 : 2 * m + t = b * (2 * q) + (2 * r + t) := by rw [← hdm, Nat.mul_add, Nat.mul_left_comm]; omega
    by_cases h : 2 * r + t < b
    · rw [if_pos h, if_pos h, e5, Nat.mul_add_div hb0, Nat.mul_add_mod, Nat.div_eq_of_lt h, Nat.mod_eq_of_lt h]
      exact ⟨rfl, rfl⟩
    · rw [if_neg h, if_neg h]
      have e6 : 2 * m + t = b * (2 * q + 1) + (2 * r + t - b) := by rw [e5, Nat.mul_add, Nat.mul_one]; omega
      rw [e6, Nat.mul_add_div hb0, Nat.mul_add_mod, Nat.div_eq_of_lt (by omega), Nat.mod_eq_of_lt (by omega)]
      exact ⟨rfl, rfl⟩
  rw [hdiv.1, hdiv.2]
  constructor
  · show w110300 (big b) (big a) (big q) (big r) (i : Int) (big a) (big a) = true
    simp only [w110300, u1, u2, v1, v2, w1, w2, y1, b1, b2, hx, l1, l2, ow_t]
    by_cases h : 2 * r + t < b
    · rw [decide_eq_true h]; simp [ow]
    · rw [(hsub h).1]; simp [ow_t]
  · show [DV.l (big b), .l (big a), .l (n110300_0 (big b) (big a) (big q) (big r) (i : Int) (big a) (big a)), .l (n110300_1 (big b) (big a) (big q) (big r) (i : Int) (big a) (big a)), .i (IntKind.wrap .i64 ((i : Int) - 1)), .l (big a), .l (big a)] = _
    rw [wr]
    have q0 : n110300_0 (big b) (big a) (big q) (big r) (i : Int) (big a) (big a) = big (if 2 * r + t < b then 2 * q else 2 * q + 1) := by
      simp only [n110300_0, u2, v2, w2, y2, b2, hx, l2]
      by_cases h : 2 * r + t < b
      · rw [if_pos h, decide_eq_true h]; rfl
      · rw [if_neg h, decide_eq_false h]; rfl
    have q1 : n110300_1 (big b) (big a) (big q) (big r) (i : Int) (big a) (big a) = big (if 2 * r + t < b then 2 * r + t else 2 * r + t - b) := by
      simp only [n110300_1, u2, w2, b2, hx, l2]
      by_cases h : 2 * r + t < b
      · rw [if_pos h, decide_eq_true h]; rfl
      · rw [if_neg h, decide_eq_false h, (hsub h).2]; rfl
    rw [q0, q1]; rfl
theorem over_loop : ∀ i : Nat, i ≤ blen a → ∃ r3 r4 r5, loopG W110300 C110300 N110300 T110300 (overS a b (a / 2 ^ i / b) (a / 2 ^ i % b) ((i : Int) - 1)) = some [.i 0, .l (big (a / b)), .l (big (a % b)), r3, r4, r5]
  | 0, _ => by
    refine ⟨.i (((0 : Nat) : Int) - 1), .l (big a), .l (big a), ?_⟩
    rw [Nat.pow_zero, Nat.div_one]
    have hw : W110300 (overS a b (a / b) (a % b) (((0 : Nat) : Int) - 1)) = true := by
      show w110300 (big b) (big a) (big (a / b)) (big (a % b)) (((0 : Nat) : Int) - 1) (big a) (big a) = true
      have e : decide ((((0 : Nat) : Int) - 1) ≥ 0) = false := rfl
      simp only [w110300, e]
      simp [ow]
    exact loopG_last hw rfl
  | i + 1, hi => by
    obtain ⟨hw, hN⟩ := over_step ha hb0 hb (i := i) (by omega)
    have e0 : (((i + 1 : Nat) : Int) - 1) = (i : Int) := by omega
    rw [e0]
    have hc : C110300 (overS a b (a / 2 ^ (i + 1) / b) (a / 2 ^ (i + 1) % b) (i : Int)) = true := decide_eq_true (show (i : Int) ≥ 0 by omega)
    rw [loopG_next hw hc, hN]
    exact over_loop i (by omega)
theorem over_ok : p103 (big a) (big b) = true ∧ r103_0 (big a) (big b) = decide (0 < a % b) ∧ r103_1 (big a) (big b) = big (a / b) := by
  obtain ⟨r3, r4, r5, hL⟩ := over_loop ha hb0 hb (blen a) (Nat.le_refl _)
  rw [Nat.div_eq_of_lt (blen_self (n := a)), Nat.zero_div, Nat.zero_mod] at hL
  obtain ⟨l1, l2⟩ := len_ok (a := a) (dlen_blen (by omega))
  have wr : IntKind.wrap .i64 ((blen a : Int) - 1) = (blen a : Int) - 1 := wrap_i64_of (by omega) (by omega)
  have hg : g110300 [.l (big b), .l (big a), .l [], .l [], .i ((blen a : Int) - 1), .l (big a), .l (big a)] = [.b true, .i 0, .l (big (a / b)), .l (big (a % b)), .i r3.toI, .l r4.toL, .l r5.toL] := by
    have hL' : L110300 (big b) (big a) [] [] ((blen a : Int) - 1) (big a) (big a) = some [.i 0, .l (big (a / b)), .l (big (a % b)), r3, r4, r5] := hL
    show [DV.b (p110300 (big b) (big a) [] [] ((blen a : Int) - 1) (big a) (big a)), .i (r110300_0 (big b) (big a) [] [] ((blen a : Int) - 1) (big a) (big a)), .l (r110300_1 (big b) (big a) [] [] ((blen a : Int) - 1) (big a) (big a)), .l (r110300_2 (big b) (big a) [] [] ((blen a : Int) - 1) (big a) (big a)), .i (r110300_3 (big b) (big a) [] [] ((blen a : Int) - 1) (big a) (big a)), .l (r110300_4 (big b) (big a) [] [] ((blen a : Int) - 1) (big a) (big a)), .l (r110300_5 (big b) (big a) [] [] ((blen a : Int) - 1) (big a) (big a))] = _
    simp only [p110300, r110300_0, r110300_1, r110300_2, r110300_3, r110300_4, r110300_5, hL']
    rfl
  refine ⟨?_, ?_, ?_⟩
  · simp only [p103, l1, l2, wr, hg]; rfl
  · simp only [r103_0, l2, wr, hg]
    show decide ((((big (a % b)).length / 1 : Nat) : Int) > 0) = _
    rw [Nat.div_one, big_len, decide_eq_decide]
    have := dlen_zero_iff (n := a % b)
    omega
  · simp only [r103_1, l2, wr, hg]; rfl
end

section
variable {a : Nat} (ha : blen a ≤ 1000000)
def rootS (a q : Nat) (i : Int) : List DV := [.l (big a), .l (big q), .i i, .l (big a)]
include ha
theorem root_step {q i : Nat} (hi : i ≤ blen a + 2) (hq : q ≤ a) :
    W110500 (rootS a q (i : Int)) = true ∧ N110500 (rootS a q (i : Int)) = rootS a (if a < (q + 2 ^ i) * (q + 2 ^ i) then q else q + 2 ^ i) ((i : Int) - 1) := by
  have e1 : ([.i 1] : List DV) = big 1 := big_one.symm
  obtain ⟨u1, u2⟩ := up_ok (a := 1) (n := i) (by rw [dlen_one]; decide) (by omega)
  rw [Nat.one_mul] at u2
  obtain ⟨K, hK⟩ : ∃ K : Nat, K = 1000002 := ⟨_, rfl⟩
  have hpi : 2 ^ i ≤ 2 ^ K := Nat.pow_le_pow_right (by decide) (by omega)
  have haa := blen_self (n := a)
  have hap : 2 ^ blen a ≤ 2 ^ K := Nat.pow_le_pow_right (by decide) (by omega)
  have hd : ∀ x : Nat, x < 2 * 2 ^ K → dlen x ≤ 1048576 := fun x hx => dlen_of (k := K + 1) (by rw [Nat.pow_succ, Nat.mul_comm]; exact hx) (by omega)
  obtain ⟨v1, v2⟩ := plus_ok (a := q) (b := 2 ^ i) (hd _ (by omega)) (hd _ (by omega))
  obtain ⟨w1, w2⟩ := times_ok (a := q + 2 ^ i) (b := q + 2 ^ i) (hd _ (by omega)) (hd _ (by omega))
  obtain ⟨l1, l2⟩ := less_ok (a := a) (b := (q + 2 ^ i) * (q + 2 ^ i)) (dlen_blen (by omega))
  have wr : IntKind.wrap .i64 ((i : Int) - 1) = (i : Int) - 1 := wrap_i64_of (by omega) (by omega)
  constructor
  · show w110500 (big a) (big q) (i : Int) (big a) = true
    simp only [w110500, e1, u1, u2, v1, v2, w1, w2, l1, ow_t]; rfl
  · show [DV.l (big a), .l (n110500_0 (big a) (big q) (i : Int) (big a)), .i (IntKind.wrap .i64 ((i : Int) - 1)), .l (big a)] = _
    rw [wr]
    have q0 : n110500_0 (big a) (big q) (i : Int) (big a) = big (if a < (q + 2 ^ i) * (q + 2 ^ i) then q else q + 2 ^ i) := by
      simp only [n110500_0, e1, u2, v2, w2, l2]
      by_cases h : a < (q + 2 ^ i) * (q + 2 ^ i)
      · rw [if_pos h, decide_eq_true h]; rfl
      · rw [if_neg h, decide_eq_false h]; rfl
    rw [q0]; rfl
theorem root_loop : ∀ i q : Nat, i ≤ blen a + 2 → q * q ≤ a → a < (q + 2 ^ i) * (q + 2 ^ i) →
    ∃ Q r2 r3, Q * Q ≤ a ∧ a < (Q + 1) * (Q + 1) ∧ loopG W110500 C110500 N110500 T110500 (rootS a q ((i : Int) - 1)) = some [.i 0, .l (big Q), r2, r3]
  | 0, q, _, h1, h2 => by
    refine ⟨q, .i (((0 : Nat) : Int) - 1), .l (big a), h1, h2, ?_⟩
    have hw : W110500 (rootS a q (((0 : Nat) : Int) - 1)) = true := by
      show w110500 (big a) (big q) (((0 : Nat) : Int) - 1) (big a) = true
      have e : decide ((((0 : Nat) : Int) - 1) ≥ 0) = false := rfl
      simp only [w110500, e]
      simp [ow]
    exact loopG_last hw rfl
  | i + 1, q, hi, h1, h2 => by
    obtain ⟨hw, hN⟩ := root_step ha (q := q) (i := i) (by omega) (Nat.le_trans (Nat.le_mul_self q) h1)
    have e0 : (((i + 1 : Nat) : Int) - 1) = (i : Int) := by omega
    rw [e0]
    have hc : C110500 (rootS a q (i : Int)) = true := decide_eq_true (show (i : Int) ≥ 0 by omega)
    rw [loopG_next hw hc, hN]
    refine root_loop i _ (by omega) ?_ ?_
    · split
      · exact h1
      · omega
    · split
      · rename_i h; exact h
      · rw [Nat.pow_succ] at h2
        rw [show q + 2 ^ i + 2 ^ i = q + 2 ^ i * 2 by omega]; exact h2
theorem root_ok : p105 (big a) = true ∧ ∃ Q, Q * Q ≤ a ∧ a < (Q + 1) * (Q + 1) ∧ r105_0 (big a) = decide (Q * Q < a) ∧ r105_1 (big a) = big Q := by
  obtain ⟨l1, l2⟩ := len_ok (a := a) (dlen_blen (by omega))
  obtain ⟨Q, r2, r3, h1, h2, hL⟩ := root_loop ha (blen a / 2 + 2) 0 (by omega) (by omega) (by
    rw [Nat.zero_add, ← Nat.pow_add]
    exact Nat.lt_of_lt_of_le (blen_self (n := a)) (Nat.pow_le_pow_right (by decide) (by omega)))
  have e4 : IntKind.wrap .i64 (IntKind.wrap .i64 (Int.tdiv (blen a : Int) 2) + 1) = ((blen a / 2 + 2 : Nat) : Int) - 1 := by
    rw [Int.tdiv_eq_ediv_of_nonneg (by omega), wrap_i64_of (n := (blen a : Int) / 2) (by omega) (by omega), wrap_i64_of (by omega) (by omega)]
    omega
  have hQ : dlen Q ≤ 1048576 := by
    have : Q ≤ a := Nat.le_trans (Nat.le_mul_self Q) h1
    exact Nat.le_trans (dlen_mono this) (dlen_blen (by omega))
  obtain ⟨t1, t2⟩ := times_ok hQ hQ
  have hQQ : dlen (Q * Q) ≤ 1048576 := Nat.le_trans (dlen_mono h1) (dlen_blen (by omega))
  obtain ⟨s1, s2⟩ := less_ok (a := Q * Q) (b := a) hQQ
  have hg : g110500 [.l (big a), .l [], .i (((blen a / 2 + 2 : Nat) : Int) - 1), .l (big a)] = [.b true, .i 0, .l (big Q), .i r2.toI, .l r3.toL] := by
    have hL' : L110500 (big a) [] (((blen a / 2 + 2 : Nat) : Int) - 1) (big a) = some [.i 0, .l (big Q), r2, r3] := hL
    show [DV.b (p110500 (big a) [] (((blen a / 2 + 2 : Nat) : Int) - 1) (big a)), .i (r110500_0 (big a) [] (((blen a / 2 + 2 : Nat) : Int) - 1) (big a)), .l (r110500_1 (big a) [] (((blen a / 2 + 2 : Nat) : Int) - 1) (big a)), .i (r110500_2 (big a) [] (((blen a / 2 + 2 : Nat) : Int) - 1) (big a)), .l (r110500_3 (big a) [] (((blen a / 2 + 2 : Nat) : Int) - 1) (big a))] = _
    simp only [p110500, r110500_0, r110500_1, r110500_2, r110500_3, hL']
    rfl
  refine ⟨?_, Q, h1, h2, ?_, ?_⟩
  · simp only [p105, l1, l2, e4, hg]
    show [ow [] true, ow [] true, ow [] (p101 (big Q) (big Q)), ow [] (p77 (r101_0 (big Q) (big Q)) (big a))].all id = true
    rw [t1, t2, s1]; rfl
  · simp only [r105_0, l2, e4, hg]
    show r77_0 (r101_0 (big Q) (big Q)) (big a) = _
    rw [t2, s2]
  · simp only [r105_1, l2, e4, hg]; rfl
end
end Go.Proofs.Ytacciadcmiiimaa

namespace Go.Proofs.Ytacciadcmiiimaa
open Go Go.Sx Go.Rnd
set_option maxRecDepth 100000
set_option maxHeartbeats 1000000

def frN (s : Int) : Nat := if s = 4 then 23 else 52
def exN (s : Int) : Nat := if s = 4 then 8 else 11
def biN (s : Int) : Nat := if s = 4 then 127 else 1023
def topN (s : Int) : Nat := if s = 4 then 2147483648 else 9223372036854775808
def oneN (s : Int) : Nat := if s = 4 then 8388608 else 4503599627370496
def infB (s : Int) : Nat := if s = 4 then 2139095040 else 9218868437227405312
def quiB (s : Int) : Nat := if s = 4 then 2143289344 else 9221120237041090560
def emaxN (s : Int) : Nat := if s = 4 then 255 else 2047
def mkN (s : Int) (a : Nat) : Nat := if s = 4 then a % 4294967296 else a
def sgN (s : Int) (a : Nat) : Bool := decide (mkN s a / topN s = 1)
def exf (s : Int) (a : Nat) : Nat := mkN s a / oneN s % (emaxN s + 1)
def frf (s : Int) (a : Nat) : Nat := mkN s a % oneN s
def nanN (s : Int) (a : Nat) : Bool := decide (exf s a = emaxN s ∧ frf s a ≠ 0)
def loudN (s : Int) (a : Nat) : Bool := decide (exf s a = emaxN s ∧ frf s a ≠ 0 ∧ frf s a < oneN s / 2)
def infN (s : Int) (a : Nat) : Bool := decide (exf s a = emaxN s ∧ frf s a = 0)
def zerN (s : Int) (a : Nat) : Bool := decide (exf s a = 0 ∧ frf s a = 0)
def fM (s : Int) (a : Nat) : Nat := if 0 < exf s a then frf s a + oneN s else frf s a
def fE (s : Int) (a : Nat) : Int := (if 0 < exf s a then (exf s a : Int) else 1) - biN s - frN s
def sgB (s : Int) (b : Bool) : Nat := if b then topN s else 0

theorem land_low {x n : Nat} (hx : x < 18446744073709551616) (hn : n ≤ 64) : iland .u64 (x : Int) ((2 ^ n - 1 : Nat) : Int) = ((x % 2 ^ n : Nat) : Int) := by
  have h1 := Nat.two_pow_pos n
  have h2 : 2 ^ n ≤ 2 ^ 64 := Nat.pow_le_pow_right (by decide) hn
  rw [land_nn hx (by omega), Nat.and_two_pow_sub_one_eq_mod]

section
variable {s : Int} (hs : s = 4 ∨ s = 8) {a : Nat} (ha : a < 18446744073709551616)
include hs
theorem mk_lt (ha : a < 18446744073709551616) : mkN s a < 2 * topN s := by
  rcases hs with rfl | rfl
  · show a % 4294967296 < 2 * 2147483648; omega
  · show a < 2 * 9223372036854775808; omega
theorem shape_ok : r89_0 s = (frN s : Int) ∧ r89_1 s = (exN s : Int) := by rcases hs with rfl | rfl <;> exact ⟨rfl, rfl⟩
include ha
theorem mask_ok : r42_0 s (a : Int) = (mkN s a : Int) := by
  rcases hs with rfl | rfl
  · simp only [r42_0]
    exact land_low (n := 32) ha (by decide)
  · rfl
theorem parts_ok : p90 s = true ∧ r90_0 s (a : Int) = sgN s a ∧ r90_1 s (a : Int) = (exf s a : Int) ∧ r90_2 s (a : Int) = (frf s a : Int) := by
  have hm := mask_ok hs ha
  have hl := mk_lt hs ha
  rcases hs with rfl | rfl
  · have hv : mkN 4 a < 4294967296 := hl
    have k0 : IntKind.wrap .i64 (r89_0 4 + r89_1 4) = ((31 : Nat) : Int) := by decide
    have k1 : r89_0 4 = ((23 : Nat) : Int) := rfl
    have k2 : IntKind.wrap .u64 (ishl .u64 1 (r89_1 4) - 1) = ((2 ^ 8 - 1 : Nat) : Int) := by decide
    have k3 : IntKind.wrap .u64 (ishl .u64 1 ((23 : Nat) : Int) - 1) = ((2 ^ 23 - 1 : Nat) : Int) := by decide
    unfold sgN exf frf
    rw [show topN 4 = 2 ^ 31 from by decide, show oneN 4 = 2 ^ 23 from by decide, show emaxN 4 + 1 = 2 ^ 8 from by decide]
    generalize mkN 4 a = v at *
    refine ⟨by decide, ?_, ?_, ?_⟩
    · simp only [r90_0, hm, k0]
      rw [shr_nat (by omega), Bool.eq_iff_iff]
      simp only [beq_iff_eq, dec]
      exact ⟨fun h => Int.ofNat.inj h, fun h => congrArg Int.ofNat h⟩
    · simp only [r90_1, hm, k1, k2]
      have h1 : v / 2 ^ 23 < 18446744073709551616 := Nat.lt_of_le_of_lt (Nat.div_le_self _ _) (by omega)
      have h2 : v / 2 ^ 23 % 2 ^ 8 < 2 ^ 8 := Nat.mod_lt _ (by decide)
      rw [shr_nat (by omega), land_low h1 (by decide), wri (Nat.lt_trans h2 (by decide))]
    · simp only [r90_2, hm, k1, k3]
      rw [land_low (by omega) (by decide)]
  · have hv : mkN 8 a < 18446744073709551616 := hl
    have k0 : IntKind.wrap .i64 (r89_0 8 + r89_1 8) = ((63 : Nat) : Int) := by decide
    have k1 : r89_0 8 = ((52 : Nat) : Int) := rfl
    have k2 : IntKind.wrap .u64 (ishl .u64 1 (r89_1 8) - 1) = ((2 ^ 11 - 1 : Nat) : Int) := by decide
    have k3 : IntKind.wrap .u64 (ishl .u64 1 ((52 : Nat) : Int) - 1) = ((2 ^ 52 - 1 : Nat) : Int) := by decide
    unfold sgN exf frf
    rw [show topN 8 = 2 ^ 63 from by decide, show oneN 8 = 2 ^ 52 from by decide, show emaxN 8 + 1 = 2 ^ 11 from by decide]
    generalize mkN 8 a = v at *
    refine ⟨by decide, ?_, ?_, ?_⟩
    · simp only [r90_0, hm, k0]
      rw [shr_nat (by omega), Bool.eq_iff_iff]
      simp only [beq_iff_eq, dec]
      exact ⟨fun h => Int.ofNat.inj h, fun h => congrArg Int.ofNat h⟩
    · simp only [r90_1, hm, k1, k2]
      have h1 : v / 2 ^ 52 < 18446744073709551616 := Nat.lt_of_le_of_lt (Nat.div_le_self _ _) (by omega)
      have h2 : v / 2 ^ 52 % 2 ^ 11 < 2 ^ 11 := Nat.mod_lt _ (by decide)
      rw [shr_nat (by omega), land_low h1 (by decide), wri (Nat.lt_trans h2 (by decide))]
    · simp only [r90_2, hm, k1, k3]
      rw [land_low (by omega) (by decide)]
theorem ex_le : exf s a ≤ emaxN s := by have _ := hs; have _ := ha; unfold exf; have := Nat.mod_lt (mkN s a / oneN s) (show 0 < emaxN s + 1 by omega); omega
theorem fr_lt : frf s a < oneN s := by
  have _ := ha
  unfold frf
  exact Nat.mod_lt _ (by rcases hs with rfl | rfl <;> decide)
theorem nan_ok : p39 s = true ∧ r39_0 s (a : Int) = nanN s a := by
  obtain ⟨h0, _, h2, h3⟩ := parts_ok hs ha
  constructor
  · rcases hs with rfl | rfl <;> decide
  · simp only [r39_0, h2, h3]
    have : IntKind.wrap .i64 (ishl .i64 1 (r89_1 s) - 1) = (emaxN s : Int) := by rcases hs with rfl | rfl <;> decide
    rw [this, Bool.eq_iff_iff]
    unfold nanN
    simp only [Bool.and_eq_true, beq_iff_eq, bne_iff_ne, dec]
    omega
theorem loud_ok : p41 s (a : Int) = true ∧ r41_0 s (a : Int) = loudN s a := by
  obtain ⟨h0, _, h2, h3⟩ := parts_ok hs ha
  obtain ⟨h4, h5⟩ := nan_ok hs ha
  constructor
  · simp only [p41, h0, h4]
    have : decide (IntKind.wrap .i64 (r89_0 s - 1) ≥ 0) = true := by rcases hs with rfl | rfl <;> decide
    rw [this]; simp [ow_t]
  · simp only [r41_0, h5, h3]
    have h6 := fr_lt hs ha
    have e : IntKind.wrap .i64 (r89_0 s - 1) = ((frN s - 1 : Nat) : Int) := by rcases hs with rfl | rfl <;> decide
    have ho : oneN s ≤ 4503599627370496 := by rcases hs with rfl | rfl <;> decide
    rw [e, shr_nat (by omega), Bool.eq_iff_iff]
    unfold nanN loudN
    simp only [Bool.and_eq_true, beq_iff_eq, dec]
    have : 2 ^ (frN s - 1) = oneN s / 2 := by rcases hs with rfl | rfl <;> decide
    rw [this, and_assoc]
    have h7 : ((frf s a / (oneN s / 2) : Nat) : Int) = 0 ↔ frf s a < oneN s / 2 := by
      have : 0 < oneN s / 2 := by rcases hs with rfl | rfl <;> decide
      rw [show (((frf s a / (oneN s / 2) : Nat) : Int) = 0) = (frf s a / (oneN s / 2) = 0) from by rw [eq_iff_iff]; omega, Nat.div_eq_zero_iff]
      omega
    rw [h7]
theorem inf_ok : p56 s = true ∧ r56_0 s (a : Int) = infN s a := by
  obtain ⟨h0, _, h2, h3⟩ := parts_ok hs ha
  constructor
  · rcases hs with rfl | rfl <;> decide
  · simp only [r56_0, h2, h3]
    have : IntKind.wrap .i64 (ishl .i64 1 (r89_1 s) - 1) = (emaxN s : Int) := by rcases hs with rfl | rfl <;> decide
    rw [this, Bool.eq_iff_iff]
    unfold infN
    simp only [Bool.and_eq_true, beq_iff_eq, dec]
    omega
theorem zero_ok : p61 s = true ∧ r61_0 s (a : Int) = zerN s a := by
  obtain ⟨h0, _, h2, h3⟩ := parts_ok hs ha
  constructor
  · simp only [p61, h0]; rfl
  · simp only [r61_0, h2, h3]
    rw [Bool.eq_iff_iff]
    unfold zerN
    simp only [Bool.and_eq_true, beq_iff_eq, dec]
    omega
theorem minused_ok : p74 s = true ∧ r74_0 s (a : Int) = sgN s a := by
  obtain ⟨h0, h1, _, _⟩ := parts_ok hs ha
  constructor
  · simp only [p74, h0]; rfl
  · simp only [r74_0, h1]
omit ha
theorem quiet_ok : r40_0 s = (quiB s : Int) := by rcases hs with rfl | rfl <;> rfl
theorem nought_ok (b : Bool) : p85 s b = true ∧ r85_0 s b = (sgB s b : Int) := by
  rcases hs with rfl | rfl <;> cases b <;> decide
theorem infinity_ok (b : Bool) : p84 s b = true ∧ r84_0 s b = ((sgB s b + infB s : Nat) : Int) := by
  rcases hs with rfl | rfl <;> cases b <;> decide
theorem greatest_ok (b : Bool) : p119 s b = true ∧ r119_0 s b = ((sgB s b + infB s - 1 : Nat) : Int) := by
  rcases hs with rfl | rfl <;> cases b <;> decide
include ha
theorem fM_lt : fM s a < 2 * oneN s := by
  have := fr_lt hs ha
  unfold fM; split <;> omega
theorem of_ok : p76 s (a : Int) = true ∧ r76_0 s (a : Int) = sgN s a ∧ r76_1 s (a : Int) = fE s a ∧ r76_2 s (a : Int) = big (fM s a) := by
  obtain ⟨h0, h1, h2, h3⟩ := parts_ok hs ha
  have h6 := fr_lt hs ha
  have h7 := ex_le hs ha
  have hM := fM_lt hs ha
  have ho : oneN s ≤ 4503599627370496 := by rcases hs with rfl | rfl <;> decide
  have hM2 : fM s a < 18446744073709551616 := by omega
  have hm : (bif decide ((exf s a : Int) > 0) then ilor .u64 (frf s a : Int) (ishl .u64 1 (r89_0 s)) else (frf s a : Int)) = (fM s a : Int) := by
    unfold fM
    by_cases h : 0 < exf s a
    · rw [if_pos h, decide_eq_true (by omega), cond_true]
      have e : ishl .u64 1 (r89_0 s) = ((1 * 2 ^ frN s : Nat) : Int) := by rcases hs with rfl | rfl <;> decide
      have e2 : 1 * 2 ^ frN s = oneN s := by rcases hs with rfl | rfl <;> decide
      have e3 : 2 ^ frN s = oneN s := by rw [← e2, Nat.one_mul]
      rw [e, lor_nn (by omega) (by rw [e2]; omega), or_high (by omega), e2]
    · rw [if_neg h, decide_eq_false (by omega), cond_false]
  obtain ⟨o1, o2⟩ := ofInt_ok (n := fM s a) hM2
  refine ⟨?_, ?_, ?_, ?_⟩
  · simp only [p76, h0, h2, h3, hm, o1]
    have e1 : decide (r89_0 s ≥ 0) = true := by rcases hs with rfl | rfl <;> decide
    have e2 : decide (IntKind.wrap .i64 (r89_1 s - 1) ≥ 0) = true := by rcases hs with rfl | rfl <;> decide
    rw [e1, e2]; simp [ow_t]
  · simp only [r76_0, h1]
  · simp only [r76_1, h2]
    unfold fE
    have e1 : IntKind.wrap .i64 (ishl .i64 1 (IntKind.wrap .i64 (r89_1 s - 1)) - 1) = (biN s : Int) := by rcases hs with rfl | rfl <;> decide
    have e2 : (biN s : Int) ≤ 1023 ∧ (frN s : Int) ≤ 52 ∧ emaxN s ≤ 2047 := by rcases hs with rfl | rfl <;> decide
    rw [e1, (shape_ok hs).1]
    by_cases h : 0 < exf s a
    · rw [if_pos h, decide_eq_true (by omega), cond_true, wrap_i64_of (n := (exf s a : Int) - biN s) (by omega) (by omega), wrap_i64_of (by omega) (by omega)]
    · rw [if_neg h, decide_eq_false (by omega), cond_false, wrap_i64_of (n := (1 : Int) - biN s) (by omega) (by omega), wrap_i64_of (by omega) (by omega)]
  · simp only [r76_2, h2, h3, hm, o2]
end
end Go.Proofs.Ytacciadcmiiimaa

namespace Go.Proofs.Ytacciadcmiiimaa
open Go Go.Sx Go.Rnd
set_option maxRecDepth 100000
set_option maxHeartbeats 1000000

theorem up_is (rm : Int) (minus odd half rest : Bool) : r126_0 rm minus odd half rest = upB rm minus odd half rest := by
  simp only [r126_0, upB, ibeq]
  by_cases h0 : rm = 0
  · subst h0; rfl
  · by_cases h2 : rm = 2
    · subst h2; rfl
    · by_cases h3 : rm = 3
      · subst h3; rfl
      · by_cases h4 : rm = 4
        · subst h4; rfl
        · simp [h0, h2, h3, h4]
theorem ib1 (k : Nat) : (((k : Nat) : Int) == 1) = (k == 1) := by
  rw [Bool.eq_iff_iff]
  simp only [beq_iff_eq]
  exact ⟨fun h => Int.ofNat.inj h, fun h => congrArg Int.ofNat h⟩
theorem cutN_le {rm : Int} {minus : Bool} {M : Nat} {b : Int} {more : Bool} {k : Nat} (h : (blen M : Int) - b ≤ k) : (cutN rm minus M b more).1 ≤ 2 ^ k := by
  have hM := blen_self (n := M)
  unfold cutN
  by_cases hb : b ≤ 0
  · rw [if_pos hb]
    show M * 2 ^ (-b).toNat ≤ 2 ^ k
    have h1 : M * 2 ^ (-b).toNat ≤ 2 ^ blen M * 2 ^ (-b).toNat := Nat.mul_le_mul_right _ (Nat.le_of_lt hM)
    rw [← Nat.pow_add] at h1
    exact Nat.le_trans h1 (Nat.pow_le_pow_right (by decide) (by omega))
  · rw [if_neg hb]
    unfold cutP
    have h1 : M / 2 ^ b.toNat < 2 ^ k := by
      rw [Nat.div_lt_iff_lt_mul (Nat.two_pow_pos _), ← Nat.pow_add]
      exact Nat.lt_of_lt_of_le hM (Nat.pow_le_pow_right (by decide) (by omega))
    show M / 2 ^ b.toNat + _ ≤ 2 ^ k
    split <;> omega
theorem blen_of_le {n k : Nat} (h : n ≤ 2 ^ k) : blen n ≤ k + 1 := blen_le.2 (Nat.lt_of_le_of_lt h (by rw [Nat.pow_succ]; have := Nat.two_pow_pos k; omega))

section
variable {rm : Int} {minus : Bool} {M : Nat} {b : Int} {more : Bool} (hM : blen M ≤ 1000000) (hb : -1000000 ≤ b) (hb2 : b ≤ 1000000)
include hM hb hb2
theorem rcut_ok : p118 rm minus (big M) b more = true ∧ r118_0 (big M) b more = (cutN rm minus M b more).2 ∧ r118_1 rm minus (big M) b more = big (cutN rm minus M b more).1 := by
  by_cases h : b ≤ 0
  · have e0 : IntKind.wrap .i64 (0 - b) = (((-b).toNat : Nat) : Int) := by rw [wrap_i64_of (by omega) (by omega)]; omega
    obtain ⟨u1, u2⟩ := up_ok (a := M) (n := (-b).toNat) (dlen_blen (by omega)) (by omega)
    unfold cutN
    rw [if_pos h]
    refine ⟨?_, ?_, ?_⟩
    · simp only [p118, decide_eq_true h, e0, u1]
      simp [ow]
    · simp only [r118_0, decide_eq_true h]; rfl
    · simp only [r118_1, decide_eq_true h, e0, u2]; rfl
  · obtain ⟨n, rfl⟩ : ∃ n : Nat, b = (n : Int) := ⟨b.toNat, by omega⟩
    have e1 : IntKind.wrap .i64 ((n : Int) - 1) = ((n - 1 : Nat) : Int) := by rw [wrap_i64_of (by omega) (by omega)]; omega
    obtain ⟨d1, d2, d3⟩ := down_ok (a := M) (n := n) (dlen_blen (by omega)) (by omega)
    obtain ⟨c1, c2, _⟩ := down_ok (a := M) (n := n - 1) (dlen_blen (by omega)) (by omega)
    obtain ⟨b1, b2⟩ := bit_ok (a := M) (n := n - 1) (by omega)
    have b3 := bit_ok (a := M / 2 ^ n) (n := 0) (by omega)
    rw [Nat.pow_zero, Nat.div_one] at b3
    obtain ⟨b3, b4⟩ := b3
    have b3 : p113 (big (M / 2 ^ n)) 0 = true := b3
    have b4 : r113_0 (big (M / 2 ^ n)) 0 = ((M / 2 ^ n % 2 : Nat) : Int) := b4
    obtain ⟨i1, i2⟩ := inc_ok (a := M / 2 ^ n) (Nat.le_trans (dlen_mono (Nat.div_le_self _ _)) (dlen_blen (by omega)))
    have hr : (!(M % 2 ^ (n - 1) == 0) || more) = (M % 2 ^ (n - 1) != 0 || more) := rfl
    unfold cutN cutP
    rw [if_neg h, Int.toNat_natCast]
    refine ⟨?_, ?_, ?_⟩
    · simp only [p118, decide_eq_false h, e1, d1, d3, c1, b1, b3, i1, ow_t]
      simp [ow]
    · simp only [r118_0, decide_eq_false h, d2]; rfl
    · simp only [r118_1, decide_eq_false h, e1, d3, c2, b2, b4, i2, up_is, ib1, hr, Bool.not_false, cond_true]
      cases upB rm minus (M / 2 ^ n % 2 == 1) (M / 2 ^ (n - 1) % 2 == 1) (M % 2 ^ (n - 1) != 0 || more) <;> rfl
end

section
variable {s : Int} (hs : s = 4 ∨ s = 8) {rm : Int} {minus : Bool} {M : Nat} {E : Int} {more : Bool} (hM : blen M ≤ 100000) (hE : -100000 ≤ E) (hE2 : E ≤ 100000)
include hs
theorem size_facts : frN s ≤ 52 ∧ 23 ≤ frN s ∧ biN s ≤ 1023 ∧ 127 ≤ biN s ∧ 2 ^ frN s = oneN s ∧ infB s = (2 * biN s + 1) * oneN s ∧ topN s = (2 * biN s + 2) * oneN s ∧ oneN s ≤ 4503599627370496 ∧ 8388608 ≤ oneN s ∧ topN s ≤ 9223372036854775808 := by
  rcases hs with rfl | rfl <;> decide
include hM hE hE2
theorem rround_ok : p81 s rm minus (big M) E more = true ∧ r81_0 s rm minus (big M) E more = ((sgB s minus + (rnd (frN s) (biN s) rm minus M E more).1 : Nat) : Int) ∧ r81_1 s rm minus (big M) E more = ((rnd (frN s) (biN s) rm minus M E more).2 : Int) := by
  obtain ⟨f1, f2, f3, f4, f5, f6, f7, f8, f9, f10⟩ := size_facts hs
  have hsh := shape_ok hs
  have kb : IntKind.wrap .i64 (ishl .i64 1 (IntKind.wrap .i64 (r89_1 s - 1)) - 1) = (biN s : Int) := by rcases hs with rfl | rfl <;> decide
  have k2 : IntKind.wrap .i64 (IntKind.wrap .i64 (2 - ishl .i64 1 (IntKind.wrap .i64 (r89_1 s - 1))) - r89_0 s) = least (frN s) (biN s) := by rcases hs with rfl | rfl <;> decide
  have k9 : decide (IntKind.wrap .i64 (r89_1 s - 1) ≥ 0) = true := by rcases hs with rfl | rfl <;> decide
  have k10 : decide (r89_0 s ≥ 0) = true := by rcases hs with rfl | rfl <;> decide
  have k11 : ishl .u64 1 (r89_0 s) = (oneN s : Int) := by rcases hs with rfl | rfl <;> decide
  have k7 : IntKind.wrap .i64 (r89_0 s + 1) = ((frN s + 1 : Nat) : Int) := by rcases hs with rfl | rfl <;> decide
  rw [hsh.1] at k2 k10 k11 k7
  have k12 : ∀ x : Nat, x * oneN s < 18446744073709551616 → ishl .u64 (x : Int) (frN s : Int) = ((x * oneN s : Nat) : Int) := fun x hx => by rw [shl_lt (by rw [f5]; exact hx), f5]
  obtain ⟨lm1, lm2⟩ := len_ok (a := M) (dlen_blen (by omega))
  unfold rnd
  generalize hf : frN s = f at *
  generalize hbb : biN s = b at *
  generalize htop : (blen M : Int) + E = top at *
  have k3 : IntKind.wrap .i64 ((blen M : Int) + E) = top := by rw [htop]; exact wrap_i64_of (by omega) (by omega)
  have hL : least f b = 1 - b - f := rfl
  generalize least f b = lst at *
  have k4 : IntKind.wrap .i64 (IntKind.wrap .i64 (top - f) - 1) = top - f - 1 := by rw [wrap_i64_of (n := top - f) (by omega) (by omega), wrap_i64_of (by omega) (by omega)]
  have k5 : (bif decide (lst > top - f - 1) then lst else top - f - 1) = lastOf f b top := by
    unfold lastOf
    rw [show least f b = lst by rw [hL]; rfl]
    by_cases h : top - f - 1 < lst
    · rw [if_pos h, decide_eq_true h]; rfl
    · rw [if_neg h, decide_eq_false h]; rfl
  have hlast : lst ≤ lastOf f b top ∧ top - f - 1 ≤ lastOf f b top ∧ (lastOf f b top = lst ∨ lastOf f b top = top - f - 1) := by
    unfold lastOf
    rw [show least f b = lst by rw [hL]; rfl]
    split <;> omega
  generalize lastOf f b top = last at *
  have k6 : IntKind.wrap .i64 (last - E) = last - E := wrap_i64_of (by omega) (by omega)
  obtain ⟨c1, c2, c3⟩ := rcut_ok (rm := rm) (minus := minus) (M := M) (b := last - E) (more := more) (by omega) (by omega) (by omega)
  have k13 : IntKind.wrap .i64 (top - f - 1 - E) = top - f - 1 - E := wrap_i64_of (by omega) (by omega)
  obtain ⟨t1, t2, t3⟩ := rcut_ok (rm := rm) (minus := minus) (M := M) (b := top - f - 1 - E) (more := more) (by omega) (by omega) (by omega)
  have hC : (cutN rm minus M (last - E) more).1 ≤ 2 ^ (f + 1) := cutN_le (by omega)
  have hT : (cutN rm minus M (top - f - 1 - E) more).1 ≤ 2 ^ (f + 1) := cutN_le (by omega)
  generalize cutN rm minus M (top - f - 1 - E) more = T at *
  generalize cutN rm minus M (last - E) more = C at *
  obtain ⟨T1, T2⟩ := T
  obtain ⟨C1, C2⟩ := C
  simp only at *
  have hC2 := blen_of_le hC
  have hT2 := blen_of_le hT
  obtain ⟨lc1, lc2⟩ := len_ok (a := C1) (dlen_blen (by omega))
  obtain ⟨lt1, lt2⟩ := len_ok (a := T1) (dlen_blen (by omega))
  obtain ⟨d1, _, d3⟩ := down_ok (a := C1) (n := 1) (dlen_blen (by omega)) (by decide)
  have d1 : p112 (big C1) 1 = true := d1
  have d3 : r112_1 (big C1) 1 = big (C1 / 2) := d3
  have q1 : decide ((blen C1 : Int) > ((f + 1 : Nat) : Int)) = decide (blen C1 > f + 1) := by rw [decide_eq_decide]; omega
  have q2 : (bif decide (blen C1 > f + 1) then big (C1 / 2) else big C1) = big (if blen C1 > f + 1 then C1 / 2 else C1) := by
    by_cases h : blen C1 > f + 1
    · rw [if_pos h, decide_eq_true h]; rfl
    · rw [if_neg h, decide_eq_false h]; rfl
  have q3 : (bif decide (blen C1 > f + 1) then IntKind.wrap .i64 (last + 1) else last) = (if blen C1 > f + 1 then last + 1 else last) := by
    by_cases h : blen C1 > f + 1
    · rw [if_pos h, decide_eq_true h, cond_true, wrap_i64_of (by omega) (by omega)]
    · rw [if_neg h, decide_eq_false h]; rfl
  have hm : (if blen C1 > f + 1 then C1 / 2 else C1) < 2 ^ (f + 1) := by
    split
    · have := Nat.two_pow_pos f
      rw [Nat.pow_succ] at hC ⊢; omega
    · rename_i h; exact blen_le.1 (by omega)
  have hla : (if blen C1 > f + 1 then last + 1 else last) ≥ lst ∧ (if blen C1 > f + 1 then last + 1 else last) ≤ last + 1 := by split <;> omega
  have hkeep : told f b rm minus last (C1, C2) (tinyOf f b top T1) = told f b rm minus last (C1, C2) (tinyOf f b top T1) := rfl
  unfold told at hkeep ⊢
  clear hkeep
  simp only
  generalize (if blen C1 > f + 1 then C1 / 2 else C1) = m at *
  generalize (if blen C1 > f + 1 then last + 1 else last) = la at *
  obtain ⟨m1, m2⟩ := len_ok (a := m) (dlen_blen (by have := blen_le.2 hm; omega))
  obtain ⟨w1, w2⟩ := low_ok (a := m)
  have hone : 2 ^ f = oneN s := f5
  have hm2 : m < 2 * oneN s := by rw [Nat.pow_succ, hone] at hm; omega
  rw [Nat.mod_eq_of_lt (by omega)] at w2
  have q4 : IntKind.wrap .i64 (la + f) = la + f := wrap_i64_of (by omega) (by omega)
  have q5 : (decide (la + f > b) && decide (blen m = f + 1)) = decide (la + f > b ∧ blen m = f + 1) := by
    rw [Bool.eq_iff_iff]; simp only [Bool.and_eq_true, dec]
  have q6 : (((rm == 1) || ((rm == 2) && !minus)) || ((rm == 3) && minus)) = decide (rm = 1 ∨ (rm = 2 ∧ minus = false) ∨ (rm = 3 ∧ minus = true)) := by
    rw [Bool.eq_iff_iff]; simp only [Bool.or_eq_true, Bool.and_eq_true, beq_iff_eq, dec, Bool.not_eq_true']
    exact or_assoc
  have q7 : ((blen m : Int) == ((f + 1 : Nat) : Int)) = decide (blen m = f + 1) := by
    rw [Bool.eq_iff_iff]; simp only [beq_iff_eq, dec]; omega
  have hlen : blen m = f + 1 → oneN s ≤ m := fun h => by rw [← hone]; exact lt_blen.1 (by omega)
  have q8 : IntKind.wrap .i64 (IntKind.wrap .i64 (la - lst) + 1) = la - lst + 1 := by rw [wrap_i64_of (n := la - lst) (by omega) (by omega), wrap_i64_of (by omega) (by omega)]
  have hsB : sgB s minus = (if minus then 1 else 0) * topN s := by unfold sgB; cases minus <;> simp
  have htp : topN s = 2 ^ (if s = 4 then 31 else 63) := by rcases hs with rfl | rfl <;> decide
  have hor : ∀ x : Nat, x < topN s → ilor .u64 (sgB s minus : Int) (x : Int) = ((sgB s minus + x : Nat) : Int) := fun x hx => by
    have h1 : sgB s minus ≤ topN s := by rw [hsB]; cases minus <;> simp
    rw [lor_nn (by omega) (by omega), hsB, Nat.or_comm, htp, or_high (by rw [← htp]; exact hx), Nat.add_comm]
  have q9 : (bif decide (blen m = f + 1) then IntKind.wrap .u64 (IntKind.wrap .u64 ((m : Int) - (oneN s : Int)) + ishl .u64 (IntKind.wrap .u64 (la - lst + 1)) (f : Int)) else (m : Int)) =
      ((if blen m = f + 1 then m - 2 ^ f + (la - lst + 1).toNat * 2 ^ f else m : Nat) : Int) ∨ (la + f > b ∧ blen m = f + 1) := by
    by_cases h : blen m = f + 1
    · by_cases h2 : la + f > b
      · exact .inr ⟨h2, h⟩
      · left
        have h3 := hlen h
        have h4 : (la - lst + 1).toNat ≤ 2 * b := by omega
        have h5 : (la - lst + 1).toNat * oneN s ≤ 2 * b * oneN s := Nat.mul_le_mul_right _ h4
        have h6 : (2 * b + 2) * oneN s = 2 * b * oneN s + 2 * oneN s := Nat.add_mul _ _ _
        rw [decide_eq_true h, if_pos h, cond_true, hone, wrap_u64_of (n := la - lst + 1) (by omega) (by omega), show la - lst + 1 = (((la - lst + 1).toNat : Nat) : Int) by omega, k12 _ (by omega), Int.toNat_natCast,
          show (m : Int) - (oneN s : Int) = ((m - oneN s : Nat) : Int) by omega, wr64 (n := m - oneN s) (by omega), ← Int.natCast_add, wr64 (by omega)]
    · left; rw [decide_eq_false h, if_neg h]; rfl
  have hbit : ¬ (la + f > b ∧ blen m = f + 1) → (if blen m = f + 1 then m - 2 ^ f + (la - lst + 1).toNat * 2 ^ f else m) < topN s := fun hn => by
    have h6 : (2 * b + 2) * oneN s = 2 * b * oneN s + 2 * oneN s := Nat.add_mul _ _ _
    split
    · rename_i h
      have h3 := hlen h
      have h4 : (la - lst + 1).toNat ≤ 2 * b := by omega
      have h5 : (la - lst + 1).toNat * oneN s ≤ 2 * b * oneN s := Nat.mul_le_mul_right _ h4
      rw [hone]; omega
    · have : 2 * oneN s ≤ (2 * b + 2) * oneN s := Nat.mul_le_mul_right _ (by omega)
      omega
  have hlb : least f b = lst := hL.symm ▸ rfl
  rw [hlb]
  have g1 := (greatest_ok hs minus)
  have g2 := (infinity_ok hs minus)
  have g3 := (nought_ok hs minus)
  refine ⟨?_, ?_, ?_⟩
  · simp only [p81, hsh.1, k9, k10, lm1, lm2, k3, k4, k2, k5, k6, c1, c2, c3, lc1, lc2, k7, q1, d1, d3, q2, k13, t1, t3, lt1, m1, w1, g1.1, g2.1, g3.1, ow_t]
    rfl
  · simp only [r81_0, hsh.1, lm2, k3, k4, k2, k5, k6, c3, lc2, k7, q1, d3, q2, q3, kb, q4, m2, q5, q6, q7, g1.2, g2.2, g3.2, w2, k11, q8]
    by_cases ho : la + f > b ∧ blen m = f + 1
    · rw [if_pos ho, decide_eq_true ho]
      dsimp only
      simp only [Bool.not_true, cond_false]
      have : infB s = (2 * b + 1) * 2 ^ f := by rw [hone]; exact f6
      rw [this]
      have : 0 < (2 * b + 1) * 2 ^ f := Nat.mul_pos (by omega) (Nat.two_pow_pos f)
      by_cases h : rm = 1 ∨ (rm = 2 ∧ minus = false) ∨ (rm = 3 ∧ minus = true)
      · rw [decide_eq_true h, if_pos h]
        simp only [Bool.not_true, cond_false]
        congr 1; omega
      · rw [decide_eq_false h, if_neg h]; rfl
    · rw [if_neg ho, decide_eq_false ho]
      dsimp only
      simp only [Bool.not_false, cond_true]
      rw [q9.resolve_right ho, hor _ (hbit ho)]
  · simp only [r81_1, hsh.1, lm2, k3, k4, k2, k5, k6, c2, c3, lc2, k7, q1, d3, q2, q3, k13, t3, lt2, kb, q4, m2, q7, q5]
    by_cases ho : la + f > b ∧ blen m = f + 1
    · rw [if_pos ho, decide_eq_true ho]; rfl
    · rw [if_neg ho, decide_eq_false ho]
      dsimp only
      simp only [Bool.not_false, cond_true]
      have z1 : IntKind.wrap .i64 (IntKind.wrap .i64 (IntKind.wrap .i64 ((blen T1 : Int) + top) - f) - 1) = (blen T1 : Int) + top - f - 1 := by
        rw [wrap_i64_of (n := (blen T1 : Int) + top) (by omega) (by omega), wrap_i64_of (n := (blen T1 : Int) + top - f) (by omega) (by omega), wrap_i64_of (by omega) (by omega)]
      have z2 : IntKind.wrap .i64 (IntKind.wrap .i64 (lst + f) + 1) = lst + f + 1 := by rw [wrap_i64_of (n := lst + f) (by omega) (by omega), wrap_i64_of (by omega) (by omega)]
      have z3 : ilor .i64 1 2 = 3 := by decide
      have hc : tinyOf f b top T1 = (decide (top - f - 1 < lst) && decide ((blen T1 : Int) + top - f - 1 < lst + f + 1)) := by unfold tinyOf; rw [hlb]
      rw [hc, z1, z2]
      cases C2 <;> cases decide (top - f - 1 < lst) <;> cases decide ((blen T1 : Int) + top - f - 1 < lst + f + 1) <;> first | rfl | exact z3
end
end Go.Proofs.Ytacciadcmiiimaa

namespace Go.Proofs.Ytacciadcmiiimaa
open Go Go.Sx Go.Rnd
set_option maxRecDepth 100000
set_option maxHeartbeats 1000000

def tabL : List Int := [0, 1, 2, 2, 3, 3, 3, 3, 4, 4, 4, 4, 4, 4, 4, 4, 5, 5, 5, 5, 5, 5, 5, 5, 5, 5, 5, 5, 5, 5, 5, 5, 6, 6, 6, 6, 6, 6, 6, 6, 6, 6, 6, 6, 6, 6, 6, 6, 6, 6, 6, 6, 6, 6, 6, 6, 6, 6, 6, 6, 6, 6, 6, 6, 7, 7, 7, 7, 7, 7, 7, 7, 7, 7, 7, 7, 7, 7, 7, 7, 7, 7, 7, 7, 7, 7, 7, 7, 7, 7, 7, 7, 7, 7, 7, 7, 7, 7, 7, 7, 7, 7, 7, 7, 7, 7, 7, 7, 7, 7, 7, 7, 7, 7, 7, 7, 7, 7, 7, 7, 7, 7, 7, 7, 7, 7, 7, 7, 8, 8, 8, 8, 8, 8, 8, 8, 8, 8, 8, 8, 8, 8, 8, 8, 8, 8, 8, 8, 8, 8, 8, 8, 8, 8, 8, 8, 8, 8, 8, 8, 8, 8, 8, 8, 8, 8, 8, 8, 8, 8, 8, 8, 8, 8, 8, 8, 8, 8, 8, 8, 8, 8, 8, 8, 8, 8, 8, 8, 8, 8, 8, 8, 8, 8, 8, 8, 8, 8, 8, 8, 8, 8, 8, 8, 8, 8, 8, 8, 8, 8, 8, 8, 8, 8, 8, 8, 8, 8, 8, 8, 8, 8, 8, 8, 8, 8, 8, 8, 8, 8, 8, 8, 8, 8, 8, 8, 8, 8, 8, 8, 8, 8, 8, 8, 8, 8, 8, 8, 8, 8, 8, 8, 8, 8, 8, 8]
def lenFin (y acc : Int) : Int := IntKind.wrap .i64 (acc + IntKind.wrap .i64 (tabL.getD (Int.toNat (IntKind.wrap .u8 y)) 0))
theorem r69_eq (x : Int) : r69_0 x = lenFin (bif decide ((bif decide ((bif decide (x ≥ 4294967296) then ishr .u64 x 32 else x) ≥ 65536) then ishr .u64 (bif decide (x ≥ 4294967296) then ishr .u64 x 32 else x) 16 else (bif decide (x ≥ 4294967296) then ishr .u64 x 32 else x)) ≥ 256) then ishr .u64 (bif decide ((bif decide (x ≥ 4294967296) then ishr .u64 x 32 else x) ≥ 65536) then ishr .u64 (bif decide (x ≥ 4294967296) then ishr .u64 x 32 else x) 16 else (bif decide (x ≥ 4294967296) then ishr .u64 x 32 else x)) 8 else (bif decide ((bif decide (x ≥ 4294967296) then ishr .u64 x 32 else x) ≥ 65536) then ishr .u64 (bif decide (x ≥ 4294967296) then ishr .u64 x 32 else x) 16 else (bif decide (x ≥ 4294967296) then ishr .u64 x 32 else x)))
    (bif decide ((bif decide ((bif decide (x ≥ 4294967296) then ishr .u64 x 32 else x) ≥ 65536) then ishr .u64 (bif decide (x ≥ 4294967296) then ishr .u64 x 32 else x) 16 else (bif decide (x ≥ 4294967296) then ishr .u64 x 32 else x)) ≥ 256) then IntKind.wrap .i64 ((bif decide ((bif decide (x ≥ 4294967296) then ishr .u64 x 32 else x) ≥ 65536) then IntKind.wrap .i64 ((bif decide (x ≥ 4294967296) then 32 else 0) + 16) else (bif decide (x ≥ 4294967296) then 32 else 0)) + 8) else (bif decide ((bif decide (x ≥ 4294967296) then ishr .u64 x 32 else x) ≥ 65536) then IntKind.wrap .i64 ((bif decide (x ≥ 4294967296) then 32 else 0) + 16) else (bif decide (x ≥ 4294967296) then 32 else 0))) := rfl

theorem tabL_at : ∀ n : Fin 256, (n.val == 0) || ((List.range 8).any fun j => tabL.getD n.val 0 == (j : Int) + 1 && decide (2 ^ j ≤ n.val) && decide (n.val < 2 * 2 ^ j)) = true := by decide +kernel
theorem lenFin_ok {y : Int} (h0 : 0 < y) (h1 : y < 256) {acc : Int} (ha : 0 ≤ acc) (hb : acc ≤ 56) : ∃ j : Nat, j < 8 ∧ lenFin y acc = acc + j + 1 ∧ ((2 ^ j : Nat) : Int) ≤ y ∧ y < 2 * ((2 ^ j : Nat) : Int) := by
  obtain ⟨n, rfl⟩ := int_nat (a := y) (by omega)
  have := tabL_at ⟨n, by omega⟩
  simp only [Bool.or_eq_true, beq_iff_eq, List.any_eq_true, List.mem_range, Bool.and_eq_true, decide_eq_true_eq] at this
  rcases this with h | ⟨j, hj, ⟨h2, h3⟩, h4⟩
  · omega
  · refine ⟨j, hj, ?_, by exact_mod_cast h3, by exact_mod_cast h4⟩
    unfold lenFin
    rw [show IntKind.wrap .u8 (n : Int) = (n : Int) from by rw [wrap_u8]; omega, Int.toNat_natCast, h2, wrap_i64_of (n := (j : Int) + 1) (by omega) (by omega), wrap_i64_of (by omega) (by omega)]
    omega
theorem shr_32 (x : Int) : ishr .u64 x 32 = x / 4294967296 := shr_of 32 (by decide) (by decide)
theorem shr16 (x : Int) : ishr .u64 x 16 = x / 65536 := shr_of 16 (by decide) (by decide)
theorem shr8 (x : Int) : ishr .u64 x 8 = x / 256 := shr_of 8 (by decide) (by decide)
theorem len_fin {x y : Int} {acc : Nat} (hx : y = x / ((2 ^ acc : Nat) : Int)) (h0 : 0 < y) (h1 : y < 256) (hb : acc ≤ 56) : ∃ k : Nat, k < 64 ∧ lenFin y acc = (k : Int) + 1 ∧ ((2 ^ k : Nat) : Int) ≤ x ∧ x < 2 * ((2 ^ k : Nat) : Int) := by
  obtain ⟨j, hj, e, h2, h3⟩ := lenFin_ok h0 h1 (acc := acc) (by omega) (by omega)
  have hp : 0 < 2 ^ acc := Nat.two_pow_pos acc
  refine ⟨acc + j, by omega, by rw [e]; omega, ?_, ?_⟩
  · rw [Nat.pow_add, Nat.mul_comm, Int.natCast_mul]
    rw [hx] at h2
    exact (Int.le_ediv_iff_mul_le (by omega)).1 h2
  · rw [Nat.pow_add, Int.natCast_mul]
    rw [hx] at h3
    have := (Int.ediv_lt_iff_lt_mul (by omega)).1 h3
    rw [Int.mul_comm ((2 ^ acc : Nat) : Int), ← Int.mul_assoc]
    exact this
theorem bitlen_ok {x : Int} (h0 : 0 < x) (h1 : x < 18446744073709551616) : ∃ k : Nat, k < 64 ∧ r69_0 x = (k : Int) + 1 ∧ ((2 ^ k : Nat) : Int) ≤ x ∧ x < 2 * ((2 ^ k : Nat) : Int) := by
  rw [r69_eq]
  simp only [shr_32, shr16, shr8]
  by_cases a : x ≥ 4294967296 <;> simp only [a, decide_true, decide_false, cond_true, cond_false]
  · by_cases b : x / 4294967296 ≥ 65536 <;> simp only [b, decide_true, decide_false, cond_true, cond_false]
    · by_cases c : x / 4294967296 / 65536 ≥ 256 <;> simp only [c, decide_true, decide_false, cond_true, cond_false]
      · exact len_fin (acc := 56) (by simp only [Nat.reducePow]; omega) (by omega) (by omega) (by decide)
      · exact len_fin (acc := 48) (by simp only [Nat.reducePow]; omega) (by omega) (by omega) (by decide)
    · by_cases c : x / 4294967296 ≥ 256 <;> simp only [c, decide_true, decide_false, cond_true, cond_false]
      · exact len_fin (acc := 40) (by simp only [Nat.reducePow]; omega) (by omega) (by omega) (by decide)
      · exact len_fin (acc := 32) (by simp only [Nat.reducePow]; omega) (by omega) (by omega) (by decide)
  · by_cases b : x ≥ 65536 <;> simp only [b, decide_true, decide_false, cond_true, cond_false]
    · by_cases c : x / 65536 ≥ 256 <;> simp only [c, decide_true, decide_false, cond_true, cond_false]
      · exact len_fin (acc := 24) (by simp only [Nat.reducePow]; omega) (by omega) (by omega) (by decide)
      · exact len_fin (acc := 16) (by simp only [Nat.reducePow]; omega) (by omega) (by omega) (by decide)
    · by_cases c : x ≥ 256 <;> simp only [c, decide_true, decide_false, cond_true, cond_false]
      · exact len_fin (acc := 8) (by simp only [Nat.reducePow]; omega) (by omega) (by omega) (by decide)
      · exact len_fin (acc := 0) (by simp only [Nat.reducePow]; omega) (by omega) (by omega) (by decide)

theorem blen64 {x : Nat} (hx : x < 18446744073709551616) : r69_0 (x : Int) = (blen x : Int) := by
  rcases Nat.eq_zero_or_pos x with h | h
  · subst h; decide +kernel
  · obtain ⟨k, hk, e, h2, h3⟩ := bitlen_ok (x := (x : Int)) (by omega) (by omega)
    rw [e, blen_eq (k := k) (by omega) (by rw [Nat.pow_succ]; omega)]; rfl
theorem lz64 {x : Nat} (hx : x < 18446744073709551616) : r115_0 (x : Int) = ((64 - blen x : Nat) : Int) := by
  have h := blen64 hx
  have h2 : blen x ≤ 64 := blen_le.2 hx
  show IntKind.wrap .i64 (64 - r69_0 (x : Int)) = _
  rw [h, wrap_i64_of (by omega) (by omega)]; omega
theorem p69_ok (x : Int) : p69 x = true := by
  have a : ∀ y : Int, decide (IntKind.wrap .u8 y ≥ 0) = true := fun y => decide_eq_true (by rw [wrap_u8]; omega)
  have b : ∀ y : Int, decide (IntKind.wrap .u8 y < 256) = true := fun y => decide_eq_true (by rw [wrap_u8]; omega)
  simp only [p69, a, b, ow_t, List.all_cons, List.all_nil, id, Bool.and_true]
theorem p115_ok (x : Int) : p115 x = true := by simp only [p115, p69_ok, ow_t, List.all_cons, List.all_nil, id, Bool.and_true]

noncomputable def dropOf (f b e : Int) : Int := bif decide (IntKind.wrap .i64 (e + IntKind.wrap .i64 (63 - f)) < IntKind.wrap .i64 (IntKind.wrap .i64 (1 - b) - f)) then IntKind.wrap .i64 (IntKind.wrap .i64 (IntKind.wrap .i64 (1 - b) - f) - e) else IntKind.wrap .i64 (63 - f)
noncomputable def core0 (f b top rm : Int) (minus : Bool) (e q : Int) : Int :=
  let x20 := IntKind.wrap .i64 (IntKind.wrap .i64 (1 - b) - f)
  let x34 := dropOf f b e
  let x44 := q == ishl .u64 2 f
  let x47 := bif x44 then IntKind.wrap .i64 (x34 + 1) else x34
  let x48 := bif x44 then ishr .u64 q 1 else q
  let x56 := IntKind.wrap .i64 (IntKind.wrap .i64 (IntKind.wrap .i64 (e + x47) - x20) + 1)
  let x66 := ((rm == 1) || ((rm == 2) && !minus)) || ((rm == 3) && minus)
  bif !(decide (x48 < ishl .u64 1 f)) then
    (bif !(decide (x56 > IntKind.wrap .i64 (2 * b))) then r95_0 top minus (ilor .u64 (ishl .u64 (IntKind.wrap .u64 x56) f) (ilandNot .u64 x48 (ishl .u64 1 f)))
     else bif !x66 then r95_0 top minus (r96_0 f b) else r95_0 top minus (IntKind.wrap .u64 (r96_0 f b - 1)))
  else r95_0 top minus x48
noncomputable def core1 (f b e q24 q : Int) (ex : Bool) : Int :=
  let x20 := IntKind.wrap .i64 (IntKind.wrap .i64 (1 - b) - f)
  let x18 := IntKind.wrap .i64 (63 - f)
  let x22 := decide (IntKind.wrap .i64 (e + x18) < x20)
  let x32 := decide (IntKind.wrap .i64 (e + x18) < IntKind.wrap .i64 (x20 - 1)) || decide (q24 < ishl .u64 2 f)
  let x34 := dropOf f b e
  let x40 : Int := bif x22 && x32 then 3 else 1
  let x41 := bif !ex then x40 else 0
  let x44 := q == ishl .u64 2 f
  let x47 := bif x44 then IntKind.wrap .i64 (x34 + 1) else x34
  let x48 := bif x44 then ishr .u64 q 1 else q
  let x56 := IntKind.wrap .i64 (IntKind.wrap .i64 (IntKind.wrap .i64 (e + x47) - x20) + 1)
  bif !(decide (x48 < ishl .u64 1 f)) then (bif !(decide (x56 > IntKind.wrap .i64 (2 * b))) then x41 else 5) else x41

section
variable {s : Int} (hs : s = 4 ∨ s = 8)
include hs
theorem signed_ok (minus : Bool) {x : Nat} (hx : x < topN s) : r95_0 (topN s : Int) minus (x : Int) = ((sgB s minus + x : Nat) : Int) := by
  have htp : topN s = 2 ^ (if s = 4 then 31 else 63) := by rcases hs with rfl | rfl <;> decide
  obtain ⟨_, _, _, _, _, _, _, _, _, f10⟩ := size_facts hs
  simp only [r95_0]
  unfold sgB
  cases minus
  · simp
  · simp only [Bool.not_true, cond_false, if_true]
    rw [lor_nn (by omega) (by omega)]
    have : topN s = 1 * 2 ^ (if s = 4 then 31 else 63) := by rw [Nat.one_mul]; exact htp
    rw [this, or_high (by rw [← htp]; exact hx)]
    congr 1; omega
theorem inf96 : r96_0 (frN s : Int) (biN s : Int) = (infB s : Int) := by rcases hs with rfl | rfl <;> decide
theorem dropOf_ok {e : Int} (h1 : -100000 ≤ e) (h2 : e ≤ 100000) : dropOf (frN s) (biN s) e = lastOf (frN s) (biN s) (64 + e) - e ∧ 63 - frN s ≤ lastOf (frN s) (biN s) (64 + e) - e := by
  obtain ⟨f1, f2, f3, f4, _⟩ := size_facts hs
  have e1 : IntKind.wrap .i64 (63 - (frN s : Int)) = 63 - frN s := wrap_i64_of (by omega) (by omega)
  have e2 : IntKind.wrap .i64 (IntKind.wrap .i64 (1 - (biN s : Int)) - frN s) = least (frN s) (biN s) := by
    unfold least
    rw [wrap_i64_of (n := 1 - (biN s : Int)) (by omega) (by omega), wrap_i64_of (by omega) (by omega)]
  have hL : least (frN s) (biN s) = 1 - biN s - frN s := rfl
  unfold dropOf lastOf
  rw [e1, e2, wrap_i64_of (n := e + (63 - (frN s : Int))) (by omega) (by omega), wrap_i64_of (n := least (frN s) (biN s) - e) (by omega) (by omega)]
  by_cases h : 64 + e - frN s - 1 < least (frN s) (biN s)
  · rw [if_pos h, decide_eq_true (by omega)]
    exact ⟨rfl, by omega⟩
  · rw [if_neg h, decide_eq_false (by omega)]
    show 63 - (frN s : Int) = _ ∧ _
    omega
theorem core_ok {rm : Int} {minus : Bool} {m : Nat} {e : Int} (hm0 : 9223372036854775808 ≤ m) (hm : m < 18446744073709551616) (h1 : -100000 ≤ e) (h2 : e ≤ 100000) :
    core0 (frN s) (biN s) (topN s) rm minus e ((cutN rm minus m (dropOf (frN s) (biN s) e) false).1 : Int) = ((sgB s minus + (rnd (frN s) (biN s) rm minus m e false).1 : Nat) : Int) ∧
    core1 (frN s) (biN s) e ((cutN rm minus m (63 - frN s : Int) false).1 : Int) ((cutN rm minus m (dropOf (frN s) (biN s) e) false).1 : Int) (cutN rm minus m (dropOf (frN s) (biN s) e) false).2 = ((rnd (frN s) (biN s) rm minus m e false).2 : Int) := by
  obtain ⟨f1, f2, f3, f4, f5, f6, f7, f8, f9, f10⟩ := size_facts hs
  obtain ⟨d1, d2⟩ := dropOf_ok hs h1 h2
  have hbl : blen m = 64 := blen_eq (k := 63) hm0 hm
  have hsg : ∀ x : Nat, x < topN s → r95_0 (topN s : Int) minus (x : Int) = ((sgB s minus + x : Nat) : Int) := fun x hx => signed_ok hs minus hx
  have hin := inf96 hs
  have k1 : ishl .u64 1 (frN s : Int) = (oneN s : Int) := by rcases hs with rfl | rfl <;> decide
  have k2 : ishl .u64 2 (frN s : Int) = ((2 * oneN s : Nat) : Int) := by rcases hs with rfl | rfl <;> decide
  have kx : ∀ x : Nat, x * oneN s < 18446744073709551616 → ishl .u64 (x : Int) (frN s : Int) = ((x * oneN s : Nat) : Int) := fun x hx => by rw [shl_lt (by rw [f5]; exact hx), f5]
  have e1 : IntKind.wrap .i64 (63 - (frN s : Int)) = 63 - frN s := wrap_i64_of (by omega) (by omega)
  have e2 : IntKind.wrap .i64 (IntKind.wrap .i64 (1 - (biN s : Int)) - frN s) = least (frN s) (biN s) := by
    unfold least
    rw [wrap_i64_of (n := 1 - (biN s : Int)) (by omega) (by omega), wrap_i64_of (by omega) (by omega)]
  have e3 : IntKind.wrap .i64 (2 * (biN s : Int)) = 2 * biN s := wrap_i64_of (by omega) (by omega)
  have kn : ∀ q : Nat, oneN s ≤ q → q < 2 * oneN s → ilandNot .u64 (q : Int) (oneN s : Int) = ((q - oneN s : Nat) : Int) := fun q h1 h2 => by
    have := landNot_bit (a := (q : Int)) (m := (oneN s : Int)) (by omega) (by omega) (frN s) (by omega) (by rw [f5])
    rw [this]
    have : (q : Int) / oneN s = 1 := by
      have : q / oneN s = 1 := Nat.div_eq_of_lt_le (by omega) (by omega)
      omega
    rw [this]; omega
  rw [d1]
  unfold rnd
  rw [hbl]
  have hC : (cutN rm minus m (lastOf (frN s) (biN s) (64 + e) - e) false).1 ≤ 2 ^ (frN s + 1) := cutN_le (by rw [hbl]; omega)
  have hT : (cutN rm minus m (63 - frN s : Int) false).1 ≤ 2 ^ (frN s + 1) := cutN_le (by rw [hbl]; omega)
  have hT0 : 2 ^ frN s ≤ (cutN rm minus m (63 - frN s : Int) false).1 := by
    unfold cutN cutP
    rw [if_neg (by omega)]
    show 2 ^ frN s ≤ m / 2 ^ (63 - (frN s : Int)).toNat + _
    have : 2 ^ frN s ≤ m / 2 ^ (63 - (frN s : Int)).toNat := by
      rw [Nat.le_div_iff_mul_le (Nat.two_pow_pos _), ← Nat.pow_add, show frN s + (63 - (frN s : Int)).toNat = 63 by omega]
      exact hm0
    omega
  have et : ((64 : Nat) : Int) + e - frN s - 1 - e = 63 - frN s := by omega
  rw [et]
  have hlast : least (frN s) (biN s) ≤ lastOf (frN s) (biN s) (64 + e) ∧ lastOf (frN s) (biN s) (64 + e) ≤ 200000 := by
    have hL : least (frN s) (biN s) = 1 - biN s - frN s := rfl
    unfold lastOf; split <;> omega
  have h64 : ((64 : Nat) : Int) + e = 64 + e := rfl
  rw [h64]
  have hL : least (frN s) (biN s) = 1 - biN s - frN s := rfl
  unfold core0 core1
  dsimp only
  rw [d1]
  generalize cutN rm minus m (63 - frN s : Int) false = T at *
  generalize lastOf (frN s) (biN s) (64 + e) = last at *
  generalize cutN rm minus m (last - e) false = C at *
  obtain ⟨T1, T2⟩ := T
  obtain ⟨C1, C2⟩ := C
  dsimp only at *
  generalize hf : frN s = f at *
  generalize hbb : biN s = b at *
  generalize least f b = lst at *
  have hp1 : 2 ^ (f + 1) = 2 * oneN s := by rw [Nat.pow_succ, f5]; omega
  rw [hp1] at hC hT
  rw [f5] at hT0
  have b1 : ∀ n : Nat, n ≤ 2 * oneN s → (blen n > f + 1 ↔ n = 2 * oneN s) := fun n hn => by
    have := lt_blen (n := n) (k := f + 1)
    rw [hp1] at this
    omega
  have b2 : ∀ n : Nat, n < 2 * oneN s → (blen n = f + 1 ↔ oneN s ≤ n) := fun n hn => by
    have h1 := lt_blen (n := n) (k := f)
    have h2 := blen_le (n := n) (k := f + 1)
    rw [hp1] at h2
    rw [f5] at h1
    omega
  have q1 : ((C1 : Int) == ((2 * oneN s : Nat) : Int)) = decide (blen C1 > f + 1) := by
    rw [Bool.eq_iff_iff]; simp only [beq_iff_eq, dec]; have := b1 C1 hC; omega
  have q2 : (bif decide (blen C1 > f + 1) then ishr .u64 (C1 : Int) 1 else (C1 : Int)) = ((if blen C1 > f + 1 then C1 / 2 else C1 : Nat) : Int) := by
    by_cases h : blen C1 > f + 1
    · rw [if_pos h, decide_eq_true h, cond_true]
      have := shr_nat (x := C1) (by omega) 1
      rw [Nat.pow_one] at this; exact this
    · rw [if_neg h, decide_eq_false h]; rfl
  have q3 : (bif decide (blen C1 > f + 1) then IntKind.wrap .i64 (last - e + 1) else last - e) = (if blen C1 > f + 1 then last + 1 else last) - e := by
    by_cases h : blen C1 > f + 1
    · rw [if_pos h, decide_eq_true h, cond_true, wrap_i64_of (by omega) (by omega)]; omega
    · rw [if_neg h, decide_eq_false h]; rfl
  have hm' : (if blen C1 > f + 1 then C1 / 2 else C1) < 2 * oneN s := by
    split
    · omega
    · rename_i h; have := (b1 C1 hC); omega
  have hla : (if blen C1 > f + 1 then last + 1 else last) ≥ lst ∧ (if blen C1 > f + 1 then last + 1 else last) ≤ last + 1 := by split <;> omega
  have hll : least f b = lst := by rw [hL]; rfl
  unfold told
  dsimp only
  rw [k1, k2, q1, q2, q3, e1, e2, e3, hll]
  generalize (if blen C1 > f + 1 then C1 / 2 else C1) = q at *
  generalize (if blen C1 > f + 1 then last + 1 else last) = la at *
  have q4 : IntKind.wrap .i64 (IntKind.wrap .i64 (IntKind.wrap .i64 (e + (la - e)) - lst) + 1) = la - lst + 1 := by
    rw [wrap_i64_of (n := e + (la - e)) (by omega) (by omega), wrap_i64_of (n := e + (la - e) - lst) (by omega) (by omega), wrap_i64_of (by omega) (by omega)]; omega
  rw [q4]
  have q5 : (!decide ((q : Int) < (oneN s : Int))) = decide (blen q = f + 1) := by
    rw [Bool.eq_iff_iff]; simp only [Bool.not_eq_true', decide_eq_false_iff_not, dec]; have := b2 q hm'; omega
  have q6 : (!decide (la - lst + 1 > 2 * (b : Int))) = decide (¬ la + f > b) := by
    rw [Bool.eq_iff_iff]; simp only [Bool.not_eq_true', decide_eq_false_iff_not, dec]; omega
  have q7 : (((rm == 1) || ((rm == 2) && !minus)) || ((rm == 3) && minus)) = decide (rm = 1 ∨ (rm = 2 ∧ minus = false) ∨ (rm = 3 ∧ minus = true)) := by
    rw [Bool.eq_iff_iff]; simp only [Bool.or_eq_true, Bool.and_eq_true, beq_iff_eq, dec, Bool.not_eq_true']
    exact or_assoc
  rw [q5, q6, q7]
  have h6 : (2 * b + 2) * oneN s = 2 * b * oneN s + 2 * oneN s := Nat.add_mul _ _ _
  have h7 : (2 * b + 1) * oneN s = 2 * b * oneN s + oneN s := by rw [Nat.add_mul, Nat.one_mul]
  have hpos : 0 < 2 * b * oneN s := Nat.mul_pos (by omega) (by omega)
  constructor
  · by_cases hn : blen q = f + 1
    · have hq := (b2 q hm').1 hn
      rw [decide_eq_true hn, cond_true]
      by_cases ho : la + f > b
      · rw [decide_eq_false (fun h => h ho), cond_false, if_pos ⟨ho, hn⟩, hin, f5]
        by_cases hr : rm = 1 ∨ (rm = 2 ∧ minus = false) ∨ (rm = 3 ∧ minus = true)
        · rw [decide_eq_true hr, if_pos hr]
          simp only [Bool.not_true, cond_false]
          rw [show (infB s : Int) - 1 = ((infB s - 1 : Nat) : Int) by omega, wr64 (by omega), hsg _ (by omega), f6]
        · rw [decide_eq_false hr, if_neg hr]
          simp only [Bool.not_false, cond_true]
          rw [hsg _ (by omega), f6]; rfl
      · have h4 : (la - lst + 1).toNat ≤ 2 * b := by omega
        have h5 : (la - lst + 1).toNat * oneN s ≤ 2 * b * oneN s := Nat.mul_le_mul_right _ h4
        rw [decide_eq_true ho, cond_true, if_neg (fun h => ho h.1), if_pos hn, wrap_u64_of (n := la - lst + 1) (by omega) (by omega), show la - lst + 1 = (((la - lst + 1).toNat : Nat) : Int) by omega, kx _ (by omega), kn _ hq hm', Int.toNat_natCast,
          lor_nn (by omega) (by omega), Nat.or_comm, ← f5, or_high (by rw [f5]; omega), hsg _ (by rw [f5]; omega)]
    · have hq : q < oneN s := by have := b2 q hm'; omega
      rw [decide_eq_false hn, cond_false, if_neg (fun h => hn h.2), if_neg hn, hsg _ (by omega)]
  · have hc : tinyOf f b (64 + e) T1 = (decide (e + (63 - (f : Int)) < lst) && (decide (e + (63 - (f : Int)) < lst - 1) || decide (T1 < 2 * oneN s))) := by
      unfold tinyOf
      have hb1 := b1 T1 hT
      have hb2 : T1 < 2 * oneN s → blen T1 = f + 1 := fun h => (b2 T1 h).2 hT0
      have hb3 : T1 = 2 * oneN s → blen T1 = f + 2 := fun h => by
        have h5 := blen_of_le (n := T1) (k := f + 1) (by rw [hp1]; omega)
        have := hb1.2 h
        omega
      rw [hll, Bool.eq_iff_iff]
      simp only [Bool.and_eq_true, Bool.or_eq_true, dec]
      have : T1 < 2 * oneN s ∨ T1 = 2 * oneN s := by omega
      rcases this with h | h
      · have := hb2 h; omega
      · have := hb3 h; omega
    have z1 : IntKind.wrap .i64 (e + (63 - (f : Int))) = e + (63 - f) := wrap_i64_of (by omega) (by omega)
    have z2 : IntKind.wrap .i64 (lst - 1) = lst - 1 := wrap_i64_of (by omega) (by omega)
    have z3 : decide ((T1 : Int) < ((2 * oneN s : Nat) : Int)) = decide (T1 < 2 * oneN s) := by rw [decide_eq_decide]; omega
    rw [z1, z2, z3, ← hc]
    by_cases hn : blen q = f + 1
    · rw [decide_eq_true hn, cond_true]
      by_cases ho : la + f > b
      · rw [decide_eq_false (fun h => h ho), cond_false, if_pos ⟨ho, hn⟩]; rfl
      · rw [decide_eq_true ho, cond_true, if_neg (fun h => ho h.1)]
        cases C2 <;> cases tinyOf f b (64 + e) T1 <;> rfl
    · rw [decide_eq_false hn, cond_false, if_neg (fun h => hn h.2)]
      cases C2 <;> cases tinyOf f b (64 + e) T1 <;> rfl
end
end Go.Proofs.Ytacciadcmiiimaa

namespace Go.Proofs.Ytacciadcmiiimaa
open Go Go.Sx Go.Rnd
set_option maxRecDepth 100000
set_option maxHeartbeats 1000000

theorem half_parts (m n : Nat) (hn : 0 < n) : m % 2 ^ n = m / 2 ^ (n - 1) % 2 * 2 ^ (n - 1) + m % 2 ^ (n - 1) := by
  obtain ⟨k, rfl⟩ : ∃ k, n = k + 1 := ⟨n - 1, by omega⟩
  rw [Nat.add_sub_cancel, Nat.pow_succ, Nat.mod_mul, Nat.mul_comm (2 ^ k)]
  omega
theorem up_half (rm : Int) (minus odd : Bool) (m n : Nat) (hn : 0 < n) :
    (rm = 0 → (decide (m % 2 ^ n > 2 ^ (n - 1)) || (decide (m % 2 ^ n = 2 ^ (n - 1)) && odd)) = upB rm minus odd (m / 2 ^ (n - 1) % 2 == 1) (m % 2 ^ (n - 1) != 0)) ∧
    (rm = 2 → (minus && decide (m % 2 ^ n ≠ 0)) = upB rm minus odd (m / 2 ^ (n - 1) % 2 == 1) (m % 2 ^ (n - 1) != 0)) ∧
    (rm = 3 → (!minus && decide (m % 2 ^ n ≠ 0)) = upB rm minus odd (m / 2 ^ (n - 1) % 2 == 1) (m % 2 ^ (n - 1) != 0)) ∧
    (rm = 4 → decide (m % 2 ^ n ≥ 2 ^ (n - 1)) = upB rm minus odd (m / 2 ^ (n - 1) % 2 == 1) (m % 2 ^ (n - 1) != 0)) := by
  have h1 := half_parts m n hn
  have h2 : m % 2 ^ (n - 1) < 2 ^ (n - 1) := Nat.mod_lt _ (Nat.two_pow_pos _)
  have h3 : m / 2 ^ (n - 1) % 2 < 2 := Nat.mod_lt _ (by decide)
  generalize m % 2 ^ n = r at *
  generalize m % 2 ^ (n - 1) = t at *
  generalize m / 2 ^ (n - 1) % 2 = h at *
  generalize 2 ^ (n - 1) = P at *
  have hh : h = 0 ∨ h = 1 := by omega
  refine ⟨?_, ?_, ?_, ?_⟩ <;> rintro rfl <;> unfold upB <;> rcases hh with rfl | rfl
  · have e1 : decide (r > P) = false := decide_eq_false (by omega)
    have e2 : decide (r = P) = false := decide_eq_false (by omega)
    rw [e1, e2]; simp
  · by_cases ht : t = 0
    · have e1 : decide (r > P) = false := decide_eq_false (by omega)
      have e2 : decide (r = P) = true := decide_eq_true (by omega)
      rw [e1, e2, ht]; simp
    · have e1 : decide (r > P) = true := decide_eq_true (by omega)
      have e2 : (t != 0) = true := by simpa using ht
      rw [e1, e2]; simp
  · have : decide (r ≠ 0) = (t != 0) := by rw [Bool.eq_iff_iff]; simp only [dec, bne_iff_ne]; omega
    rw [this]; simp
  · have : decide (r ≠ 0) = true := decide_eq_true (by omega)
    rw [this]; simp
  · have : decide (r ≠ 0) = (t != 0) := by rw [Bool.eq_iff_iff]; simp only [dec, bne_iff_ne]; omega
    rw [this]; simp
  · have : decide (r ≠ 0) = true := decide_eq_true (by omega)
    rw [this]; simp
  · have : decide (r ≥ P) = false := decide_eq_false (by omega)
    rw [this]; simp
  · have : decide (r ≥ P) = true := decide_eq_true (by omega)
    rw [this]; simp
theorem more_ok (rm : Int) (minus odd : Bool) (m n : Nat) (hn : 0 < n) : r127_0 rm minus odd ((m % 2 ^ n : Nat) : Int) ((2 ^ (n - 1) : Nat) : Int) = upB rm minus odd (m / 2 ^ (n - 1) % 2 == 1) (m % 2 ^ (n - 1) != 0) := by
  obtain ⟨u0, u2, u3, u4⟩ := up_half rm minus odd m n hn
  have e1 : decide (((m % 2 ^ n : Nat) : Int) > ((2 ^ (n - 1) : Nat) : Int)) = decide (m % 2 ^ n > 2 ^ (n - 1)) := by rw [decide_eq_decide]; omega
  have e2 : (((m % 2 ^ n : Nat) : Int) == ((2 ^ (n - 1) : Nat) : Int)) = decide (m % 2 ^ n = 2 ^ (n - 1)) := by rw [Bool.eq_iff_iff]; simp only [beq_iff_eq, dec]; omega
  have e3 : (((m % 2 ^ n : Nat) : Int) != 0) = decide (m % 2 ^ n ≠ 0) := by rw [Bool.eq_iff_iff]; simp only [bne_iff_ne, dec]; omega
  have e4 : decide (((m % 2 ^ n : Nat) : Int) ≥ ((2 ^ (n - 1) : Nat) : Int)) = decide (m % 2 ^ n ≥ 2 ^ (n - 1)) := by rw [decide_eq_decide]; omega
  simp only [r127_0, e1, e2, e3, e4]
  by_cases h0 : rm = 0
  · rw [← u0 h0]; subst h0; rfl
  · by_cases h2 : rm = 2
    · rw [← u2 h2]; subst h2; rfl
    · by_cases h3 : rm = 3
      · rw [← u3 h3]; subst h3; rfl
      · by_cases h4 : rm = 4
        · rw [← u4 h4]; subst h4; rfl
        · simp [upB, ibeq, h0, h2, h3, h4]
theorem low_mask {m n : Nat} (hm : m < 18446744073709551616) (hn : n < 64) : iland .u64 (m : Int) (IntKind.wrap .u64 (ishl .u64 1 (n : Int) - 1)) = ((m % 2 ^ n : Nat) : Int) := by
  have hp : 2 ^ n ≤ 2 ^ 63 := Nat.pow_le_pow_right (by decide) (by omega)
  have h1 := shl_lt (x := 1) (s := n) (by omega)
  have h1 : ishl .u64 1 (n : Int) = ((2 ^ n : Nat) : Int) := by rw [Nat.one_mul] at h1; exact h1
  have := Nat.two_pow_pos n
  rw [h1, show ((2 ^ n : Nat) : Int) - 1 = ((2 ^ n - 1 : Nat) : Int) by omega, wr64 (by omega), land_low hm (by omega)]
theorem cutP_far {rm : Int} {minus : Bool} {m n : Nat} (hm0 : 0 < m) (hm : m < 18446744073709551616) (hn : 64 < n) : cutP rm minus m n false = cutP rm minus 1 2 false := by
  have h1 : 18446744073709551616 ≤ 2 ^ (n - 1) := Nat.pow_le_pow_right (n := 2) (by decide) (show 64 ≤ n - 1 by omega)
  have h2 : 2 ^ n = 2 * 2 ^ (n - 1) := by rw [← Nat.pow_succ']; congr 1; omega
  unfold cutP
  rw [Nat.div_eq_of_lt (show m < 2 ^ n by omega), Nat.div_eq_of_lt (show m < 2 ^ (n - 1) by omega), Nat.mod_eq_of_lt (show m < 2 ^ (n - 1) by omega), Nat.mod_eq_of_lt (show m < 2 ^ n by omega)]
  have e1 : (m != 0) = true := by simp; omega
  have e2 : (m == 0) = false := by simp; omega
  rw [e1, e2]
  rfl
theorem shl_one {n : Nat} (hn : n < 64) : ishl .u64 1 (n : Int) = ((2 ^ n : Nat) : Int) := by
  have hp : 2 ^ n ≤ 2 ^ 63 := Nat.pow_le_pow_right (by decide) (by omega)
  have h1 := shl_lt (x := 1) (s := n) (by omega)
  rw [Nat.one_mul] at h1; exact h1
theorem odd_word {x : Nat} (hx : x < 18446744073709551616) : (iland .u64 (x : Int) 1 == 1) = (x % 2 == 1) := by
  have := land_nn hx (show 1 < 18446744073709551616 by decide)
  rw [(one_parts _).1] at this
  rw [show iland .u64 (x : Int) 1 = ((x % 2 : Nat) : Int) from this, ib1]
theorem scut_near (rm : Int) (minus : Bool) {m n : Nat} (hm : m < 18446744073709551616) (hn : 0 < n) (hn2 : n < 64) : r122_0 rm minus (m : Int) (n : Int) = ((cutP rm minus m n false).1 : Int) ∧ r122_1 (m : Int) (n : Int) = (cutP rm minus m n false).2 := by
  have e4 : decide ((n : Int) > 64) = false := decide_eq_false (by omega)
  have e7 : ((n : Int) == 64) = false := by simp; omega
  have e20 : IntKind.wrap .i64 ((n : Int) - 1) = ((n - 1 : Nat) : Int) := by rw [wrap_i64_of (by omega) (by omega)]; omega
  have hd : m / 2 ^ n < 9223372036854775808 := by
    rw [Nat.div_lt_iff_lt_mul (Nat.two_pow_pos n)]
    have : 2 ^ 1 ≤ 2 ^ n := Nat.pow_le_pow_right (by decide) hn
    have : 9223372036854775808 * 2 ≤ 9223372036854775808 * 2 ^ n := Nat.mul_le_mul_left _ this
    omega
  have hr : ∀ b : Bool, (b || false) = b := fun b => by simp
  unfold cutP
  rw [hr]
  constructor
  · simp only [r122_0, e4, e7, cond_false, Bool.not_false, cond_true, low_mask hm hn2, shr_nat hm n, e20, shl_one (show n - 1 < 64 by omega), odd_word (show m / 2 ^ n < 18446744073709551616 by omega), more_ok rm minus _ m n hn]
    cases upB rm minus (m / 2 ^ n % 2 == 1) (m / 2 ^ (n - 1) % 2 == 1) (m % 2 ^ (n - 1) != 0)
    · rfl
    · rw [cond_true, show ((m / 2 ^ n : Nat) : Int) + 1 = ((m / 2 ^ n + 1 : Nat) : Int) by omega, wr64 (by omega)]; rfl
  · simp only [r122_1, e4, e7, cond_false, Bool.not_false, cond_true, low_mask hm hn2]
    rw [Bool.eq_iff_iff]
    simp only [beq_iff_eq, Bool.and_true]
    omega
theorem scut_64 (rm : Int) (minus : Bool) {m : Nat} (hm : m < 18446744073709551616) : r122_0 rm minus (m : Int) 64 = ((cutP rm minus m 64 false).1 : Int) ∧ r122_1 (m : Int) 64 = (cutP rm minus m 64 false).2 := by
  have hr : ∀ b : Bool, (b || false) = b := fun b => by simp
  have h64 : m % 2 ^ 64 = m := Nat.mod_eq_of_lt hm
  have hq : m / 2 ^ 64 = 0 := Nat.div_eq_of_lt hm
  have hmo := more_ok rm minus false m 64 (by decide)
  rw [h64] at hmo
  unfold cutP
  rw [hr, hq, h64]
  constructor
  · have : r122_0 rm minus (m : Int) 64 = bif r127_0 rm minus false (m : Int) 9223372036854775808 then 1 else 0 := rfl
    rw [this]
    have : r127_0 rm minus false (m : Int) 9223372036854775808 = r127_0 rm minus false (m : Int) ((2 ^ (64 - 1) : Nat) : Int) := rfl
    rw [this, hmo]
    show _ = (((0 + if upB rm minus false (m / 2 ^ (64 - 1) % 2 == 1) (m % 2 ^ (64 - 1) != 0) = true then 1 else 0 : Nat)) : Int)
    cases upB rm minus false (m / 2 ^ (64 - 1) % 2 == 1) (m % 2 ^ (64 - 1) != 0) <;> rfl
  · show ((m : Int) == 0) = (m == 0 && !false)
    rw [Bool.eq_iff_iff]
    simp only [beq_iff_eq, Bool.not_false, Bool.and_true]
    omega
theorem scut_ok (rm : Int) (minus : Bool) {m : Nat} {b : Int} (hm0 : 0 < m) (hm : m < 18446744073709551616) (hb : 0 < b) : r122_0 rm minus (m : Int) b = ((cutN rm minus m b false).1 : Int) ∧ r122_1 (m : Int) b = (cutN rm minus m b false).2 := by
  unfold cutN
  rw [if_neg (by omega)]
  obtain ⟨n, rfl⟩ : ∃ n : Nat, b = (n : Int) := ⟨b.toNat, by omega⟩
  rw [Int.toNat_natCast]
  by_cases h : n < 64
  · exact scut_near rm minus hm (by omega) h
  · by_cases h2 : n = 64
    · subst h2; exact scut_64 rm minus hm
    · rw [cutP_far hm0 hm (by omega)]
      have e4 : decide ((n : Int) > 64) = true := decide_eq_true (by omega)
      have hc := scut_near rm minus (m := 1) (n := 2) (by decide) (by decide) (by decide)
      have g1 : r122_0 rm minus (m : Int) (n : Int) = r122_0 rm minus ((1 : Nat) : Int) ((2 : Nat) : Int) := by simp only [r122_0, e4]; rfl
      have g2 : r122_1 (m : Int) (n : Int) = r122_1 ((1 : Nat) : Int) ((2 : Nat) : Int) := by simp only [r122_1, e4]; rfl
      rw [g1, g2]
      exact hc
theorem p122_ok {b : Int} (hb : 0 < b) (hb2 : b < 9223372036854775808) : p122 b = true := by
  simp only [p122]
  by_cases h : b > 64
  · rw [decide_eq_true h]; rfl
  · rw [decide_eq_false h]
    have a : decide ((bif false then (2 : Int) else b) ≥ 0) = true := decide_eq_true (show b ≥ 0 by omega)
    have c : decide (IntKind.wrap .i64 ((bif false then (2 : Int) else b) - 1) ≥ 0) = true := decide_eq_true (show IntKind.wrap .i64 (b - 1) ≥ 0 by rw [wrap_i64_of (by omega) (by omega)]; omega)
    rw [a, c]
    simp only [ow_t]; rfl
section
variable {s : Int} (hs : s = 4 ∨ s = 8)
include hs
end
end Go.Proofs.Ytacciadcmiiimaa

namespace Go.Proofs.Ytacciadcmiiimaa
open Go Go.Sx Go.Rnd
set_option maxRecDepth 100000
set_option maxHeartbeats 1000000

def hiN (P : Nat) : Nat := P / 18446744073709551616
def loN (P : Nat) : Nat := P % 18446744073709551616
def two128 : Nat := 340282366920938463463374607431768211456
theorem hi_lo (P : Nat) : P = hiN P * 18446744073709551616 + loN P := by unfold hiN loN; omega
theorem lo_lt (P : Nat) : loN P < 18446744073709551616 := Nat.mod_lt _ (by decide)
theorem hi_lt {P : Nat} (h : P < two128) : hiN P < 18446744073709551616 := by unfold hiN; unfold two128 at h; omega
theorem hi_of {h l : Nat} (hl : l < 18446744073709551616) : hiN (h * 18446744073709551616 + l) = h := by unfold hiN; omega
theorem lo_of {h l : Nat} (hl : l < 18446744073709551616) : loN (h * 18446744073709551616 + l) = l := by unfold loN; omega
theorem p64 (n : Nat) (hn : n ≤ 64) : 18446744073709551616 = 2 ^ (64 - n) * 2 ^ n := by rw [← Nat.pow_add, show 64 - n + n = 64 by omega]
theorem mulmod (x n : Nat) (hn : n ≤ 64) : x * 2 ^ n % 18446744073709551616 = x % 2 ^ (64 - n) * 2 ^ n := by
  rw [p64 n hn]; exact Nat.mul_mod_mul_right ..
theorem muldiv (x n : Nat) (hn : n ≤ 64) : x * 2 ^ n / 18446744073709551616 = x / 2 ^ (64 - n) := by
  rw [p64 n hn]; exact Nat.mul_div_mul_right _ _ (Nat.two_pow_pos n)

theorem zeros_ok {P : Nat} (hP : P < two128) : p121 (hiN P) (loN P) = true ∧ r121_0 (hiN P) (loN P) = ((128 - blen P : Nat) : Int) := by
  have h1 := hi_lt hP
  have h2 := lo_lt P
  have e := hi_lo P
  have l1 := lz64 h1
  have l2 := lz64 h2
  have b2 : blen (loN P) ≤ 64 := blen_le.2 h2
  have b1 : blen (hiN P) ≤ 64 := blen_le.2 h1
  refine ⟨by simp only [p121, p115_ok, ow_t, List.all_cons, List.all_nil, id, Bool.and_true], ?_⟩
  simp only [r121_0, l1, l2]
  by_cases h : hiN P = 0
  · have : ((hiN P : Int) == 0) = true := by rw [h]; rfl
    rw [this, Bool.not_true, cond_false, wrap_i64_of (by omega) (by omega)]
    have : P = loN P := by rw [h] at e; omega
    rw [← this] at b2 ⊢
    omega
  · have : ((hiN P : Int) == 0) = false := by simpa using h
    rw [this, Bool.not_false, cond_true]
    have := blen_shift (h := hiN P) (j := 64) (l := loN P) (by omega) h2
    have e2 : hiN P * 2 ^ 64 + loN P = P := e.symm
    rw [e2] at this
    rw [this]
    congr 1; omega
theorem up_ok2 {P n : Nat} (hn : n < 128) (h : P * 2 ^ n < two128) : p106 (n : Int) = true ∧ r106_0 (hiN P) (loN P) (n : Int) = (hiN (P * 2 ^ n) : Int) ∧ r106_1 (loN P) (n : Int) = (loN (P * 2 ^ n) : Int) := by
  have h2 := lo_lt P
  have e := hi_lo P
  have hle : P ≤ P * 2 ^ n := Nat.le_mul_of_pos_right _ (Nat.two_pow_pos n)
  have h1 : hiN P < 18446744073709551616 := hi_lt (Nat.lt_of_le_of_lt hle h)
  by_cases c : n ≥ 64
  · have e3 : decide ((n : Int) ≥ 64) = true := decide_eq_true (by omega)
    have e4 : IntKind.wrap .i64 ((n : Int) - 64) = ((n - 64 : Nat) : Int) := by rw [wrap_i64_of (by omega) (by omega)]; omega
    have hp : 2 ^ n = 2 ^ (n - 64) * 18446744073709551616 := by
      have : 2 ^ n = 2 ^ (n - 64) * 2 ^ 64 := by rw [← Nat.pow_add]; congr 1; omega
      rw [this]
    have hP0 : P < 18446744073709551616 := by
      refine Nat.lt_of_not_le fun hc => ?_
      have a := Nat.mul_le_mul_right (2 ^ n) hc
      have b : 18446744073709551616 * 1 ≤ 18446744073709551616 * 2 ^ (n - 64) := Nat.mul_le_mul_left _ (Nat.two_pow_pos _)
      rw [hp, ← Nat.mul_assoc] at a
      have b2 := Nat.mul_le_mul_right 18446744073709551616 b
      unfold two128 at h
      rw [hp] at h
      omega
    have hl : loN P = P := Nat.mod_eq_of_lt hP0
    have hh : P * 2 ^ n = P * 2 ^ (n - 64) * 18446744073709551616 + 0 := by rw [hp, ← Nat.mul_assoc, Nat.add_zero]
    refine ⟨?_, ?_, ?_⟩
    · simp only [p106, e3, e4]
      rw [decide_eq_true (show ((n - 64 : Nat) : Int) ≥ 0 by omega)]
      simp [ow]
    · simp only [r106_0, e3, e4, hl, Bool.not_true, cond_false]
      rw [hh, hi_of (by decide), shl_lt]
      rw [hh] at h; unfold two128 at h; omega
    · simp only [r106_1, e3, Bool.not_true, cond_false]
      rw [hh, lo_of (by decide)]; rfl
  · have e3 : decide ((n : Int) ≥ 64) = false := decide_eq_false (by omega)
    by_cases c0 : n = 0
    · subst c0
      rw [Nat.pow_zero, Nat.mul_one]
      exact ⟨rfl, rfl, rfl⟩
    · have e8 : ((n : Int) == 0) = false := by simp; omega
      have e12 : IntKind.wrap .i64 (64 - (n : Int)) = ((64 - n : Nat) : Int) := by rw [wrap_i64_of (by omega) (by omega)]; omega
      have hx : hiN P * 2 ^ n < 18446744073709551616 := by
        have : hiN P * 18446744073709551616 * 2 ^ n ≤ P * 2 ^ n := Nat.mul_le_mul_right _ (by omega)
        rw [Nat.mul_right_comm] at this
        unfold two128 at h; omega
      have hy : loN P / 2 ^ (64 - n) < 2 ^ n := by
        rw [Nat.div_lt_iff_lt_mul (Nat.two_pow_pos _), Nat.mul_comm, ← p64 n (by omega)]; exact h2
      have ht : P * 2 ^ n = (hiN P * 2 ^ n + loN P / 2 ^ (64 - n)) * 18446744073709551616 + loN P * 2 ^ n % 18446744073709551616 := by
        conv => lhs; rw [e]
        rw [Nat.add_mul, Nat.mul_right_comm, ← muldiv _ n (by omega), Nat.add_mul]
        omega
      refine ⟨?_, ?_, ?_⟩
      · simp only [p106, e3, e8, e12]
        rw [decide_eq_true (show ((64 - n : Nat) : Int) ≥ 0 by omega), decide_eq_true (show (n : Int) ≥ 0 by omega)]
        simp [ow]
      · simp only [r106_0, e3, e8, e12, Bool.not_false, cond_true]
        rw [shl_lt hx, shr_nat h2, lor_nn hx (Nat.lt_of_le_of_lt (Nat.div_le_self _ _) h2), Nat.or_comm, or_high hy, ht, hi_of (Nat.mod_lt _ (by decide)), Nat.add_comm]
      · simp only [r106_1, e3, e8, Bool.not_false, cond_true]
        rw [ht, lo_of (Nat.mod_lt _ (by decide)), shl_nat]

def jamN (P n : Nat) : Nat := if P % 2 ^ n = 0 then P / 2 ^ n else P / 2 ^ n ||| 1
theorem or_one (x : Nat) : x ||| 1 = x / 2 * 2 + 1 := (one_parts x).2.1
theorem hi_or (P : Nat) : hiN (P ||| 1) = hiN P := by rw [or_one]; unfold hiN; omega
theorem lo_or (P : Nat) : loN (P ||| 1) = loN P ||| 1 := by rw [or_one, or_one]; unfold loN; omega
theorem jam_lt {P n : Nat} (h : P < two128) : jamN P n < two128 := by
  have h1 : P / 2 ^ n < two128 := Nat.lt_of_le_of_lt (Nat.div_le_self _ _) h
  unfold jamN
  split
  · exact h1
  · rw [or_one]; unfold two128 at *; omega
theorem jam_ok {P n : Nat} (h : P < two128) (hn : n < 9223372036854775808) : p123 (loN P) (n : Int) = true ∧ r123_0 (hiN P) (loN P) (n : Int) = (hiN (jamN P n) : Int) ∧ r123_1 (hiN P) (loN P) (n : Int) = (loN (jamN P n) : Int) := by
  have h2 := lo_lt P
  have h1 := hi_lt h
  have e := hi_lo P
  by_cases c0 : n = 0
  · subst c0
    have : jamN P 0 = P := by unfold jamN; rw [Nat.pow_zero, Nat.mod_one, if_pos rfl, Nat.div_one]
    rw [this]
    refine ⟨rfl, rfl, rfl⟩
  have e3 : decide ((n : Int) ≤ 0) = false := decide_eq_false (by omega)
  by_cases c1 : n ≥ 128
  · have e4 : decide ((n : Int) ≥ 128) = true := decide_eq_true (by omega)
    have hp : two128 ≤ 2 ^ n := Nat.pow_le_pow_right (n := 2) (by decide) c1
    have hz : (((hiN P : Int) == 0) && ((loN P : Int) == 0)) = decide (P = 0) := by
      rw [Bool.eq_iff_iff]; simp only [Bool.and_eq_true, beq_iff_eq, dec]; omega
    have hj : jamN P n = if P = 0 then 0 else 1 := by
      unfold jamN
      rw [Nat.mod_eq_of_lt (by omega), Nat.div_eq_of_lt (by omega)]
      rfl
    rw [hj]
    refine ⟨?_, ?_, ?_⟩
    · simp only [p123, e3, e4]; rfl
    · simp only [r123_0, e3, e4, hz]
      by_cases hP : P = 0
      · rw [if_pos hP, decide_eq_true hP]
        show (hiN P : Int) = _
        rw [hP]
      · rw [if_neg hP, decide_eq_false hP]; rfl
    · simp only [r123_1, e3, e4, hz]
      by_cases hP : P = 0
      · rw [if_pos hP, decide_eq_true hP]
        show (loN P : Int) = _
        rw [hP]
      · rw [if_neg hP, decide_eq_false hP]; rfl
  have e4 : decide ((n : Int) ≥ 128) = false := decide_eq_false (by omega)
  by_cases c2 : n ≥ 64
  · have e10 : decide ((n : Int) ≥ 64) = true := decide_eq_true (by omega)
    have e11 : IntKind.wrap .i64 ((n : Int) - 64) = ((n - 64 : Nat) : Int) := by rw [wrap_i64_of (by omega) (by omega)]; omega
    have e16 : IntKind.wrap .i64 (128 - (n : Int)) = ((128 - n : Nat) : Int) := by rw [wrap_i64_of (by omega) (by omega)]; omega
    have hp : 2 ^ n = 18446744073709551616 * 2 ^ (n - 64) := by
      have : 2 ^ n = 2 ^ 64 * 2 ^ (n - 64) := by rw [← Nat.pow_add]; congr 1; omega
      rw [this]
    have hd : P / 2 ^ n = hiN P / 2 ^ (n - 64) := by rw [hp, ← Nat.div_div_eq_div_mul]; rfl
    have hm : P % 2 ^ n = loN P + 18446744073709551616 * (hiN P % 2 ^ (n - 64)) := by rw [hp, Nat.mod_mul]; rfl
    have hs : ((ishl .u64 (hiN P : Int) ((128 - n : Nat) : Int)) != 0) = decide (hiN P % 2 ^ (n - 64) ≠ 0) := by
      rw [shl_nat, mulmod _ _ (by omega), show 64 - (128 - n) = n - 64 by omega, Bool.eq_iff_iff]
      simp only [bne_iff_ne, dec]
      have := Nat.two_pow_pos (128 - n)
      have h5 : hiN P % 2 ^ (n - 64) * 2 ^ (128 - n) = 0 ↔ hiN P % 2 ^ (n - 64) = 0 := by rw [Nat.mul_eq_zero]; omega
      omega
    have hb : (((loN P : Int) != 0) || (decide ((n : Int) > 64) && decide (hiN P % 2 ^ (n - 64) ≠ 0))) = decide (P % 2 ^ n ≠ 0) := by
      rw [hm, Bool.eq_iff_iff]
      simp only [Bool.or_eq_true, Bool.and_eq_true, bne_iff_ne, dec]
      have : n = 64 → hiN P % 2 ^ (n - 64) = 0 := fun h => by subst h; exact Nat.mod_one _
      omega
    have hq : hiN P / 2 ^ (n - 64) < 18446744073709551616 := Nat.lt_of_le_of_lt (Nat.div_le_self _ _) h1
    refine ⟨?_, ?_, ?_⟩
    · simp only [p123, e3, e4, e10, e11, e16]
      rw [decide_eq_true (show ((n - 64 : Nat) : Int) ≥ 0 by omega), decide_eq_true (show ((128 - n : Nat) : Int) ≥ 0 by omega)]
      simp [ow]
    · simp only [r123_0, e3, e4, e10]
      have : hiN (jamN P n) = 0 := by
        have : jamN P n < 18446744073709551616 := by
          unfold jamN; rw [hd]; split
          · exact hq
          · rw [or_one]; omega
        unfold hiN; omega
      rw [this]; rfl
    · simp only [r123_1, e3, e4, e10, e11, e16, hs, hb]
      unfold jamN
      by_cases hz : P % 2 ^ n = 0
      · rw [if_pos hz, decide_eq_false (fun h => h hz), hd]
        have : loN (hiN P / 2 ^ (n - 64)) = hiN P / 2 ^ (n - 64) := Nat.mod_eq_of_lt hq
        rw [this]
        exact shr_nat h1 _
      · rw [if_neg hz, decide_eq_true hz, hd, lo_or]
        have : loN (hiN P / 2 ^ (n - 64)) = hiN P / 2 ^ (n - 64) := Nat.mod_eq_of_lt hq
        rw [this]
        have h5 := lor_nn hq (show 1 < 18446744073709551616 by decide)
        rw [← shr_nat h1 (n - 64)] at h5
        exact h5
  · have e10 : decide ((n : Int) ≥ 64) = false := decide_eq_false (by omega)
    have e31 : IntKind.wrap .i64 (64 - (n : Int)) = ((64 - n : Nat) : Int) := by rw [wrap_i64_of (by omega) (by omega)]; omega
    have hx : loN P / 2 ^ n < 2 ^ (64 - n) := by
      rw [Nat.div_lt_iff_lt_mul (Nat.two_pow_pos _), ← p64 n (by omega)]; exact h2
    have hd : P / 2 ^ n = hiN P * 2 ^ (64 - n) + loN P / 2 ^ n := by
      conv => lhs; rw [e]
      rw [p64 n (by omega), ← Nat.mul_assoc, Nat.mul_comm, Nat.mul_add_div (Nat.two_pow_pos n)]
    have hm : P % 2 ^ n = loN P % 2 ^ n := by
      conv => lhs; rw [e]
      rw [p64 n (by omega), ← Nat.mul_assoc, Nat.mul_comm, Nat.mul_add_mod]
    have hdh : hiN (P / 2 ^ n) = hiN P / 2 ^ n := by
      have a := Nat.div_add_mod' (hiN P * 2 ^ (64 - n)) 18446744073709551616
      have b := mulmod (hiN P) (64 - n) (by omega)
      have c := muldiv (hiN P) (64 - n) (by omega)
      rw [show 64 - (64 - n) = n by omega] at b c
      rw [c, b] at a
      rw [hd, ← a, Nat.add_assoc, hi_of]
      have : (hiN P % 2 ^ n + 1) * 2 ^ (64 - n) ≤ 2 ^ n * 2 ^ (64 - n) := Nat.mul_le_mul_right _ (Nat.mod_lt _ (Nat.two_pow_pos n))
      rw [Nat.mul_comm (2 ^ n), ← p64 n (by omega), Nat.add_mul] at this
      omega
    have hdl : loN (P / 2 ^ n) = loN P / 2 ^ n ||| (hiN P * 2 ^ (64 - n) % 18446744073709551616) := by
      have a := Nat.div_add_mod' (hiN P * 2 ^ (64 - n)) 18446744073709551616
      have b := mulmod (hiN P) (64 - n) (by omega)
      rw [show 64 - (64 - n) = n by omega] at b
      rw [b] at a
      rw [b, or_high hx, hd, ← a, Nat.add_assoc, lo_of, Nat.add_comm]
      have : (hiN P % 2 ^ n + 1) * 2 ^ (64 - n) ≤ 2 ^ n * 2 ^ (64 - n) := Nat.mul_le_mul_right _ (Nat.mod_lt _ (Nat.two_pow_pos n))
      rw [Nat.mul_comm (2 ^ n), ← p64 n (by omega), Nat.add_mul] at this
      omega
    have hs : ((ishl .u64 (loN P : Int) ((64 - n : Nat) : Int)) != 0) = decide (P % 2 ^ n ≠ 0) := by
      rw [shl_nat, mulmod _ _ (by omega), show 64 - (64 - n) = n by omega, hm, Bool.eq_iff_iff]
      simp only [bne_iff_ne, dec]
      have := Nat.two_pow_pos (64 - n)
      have h5 : loN P % 2 ^ n * 2 ^ (64 - n) = 0 ↔ loN P % 2 ^ n = 0 := by rw [Nat.mul_eq_zero]; omega
      omega
    have hw1 : loN P / 2 ^ n < 18446744073709551616 := Nat.lt_of_le_of_lt (Nat.div_le_self _ _) h2
    have hl := lor_nn hw1 (Nat.mod_lt (hiN P * 2 ^ (64 - n)) (show 0 < 18446744073709551616 by decide))
    rw [← hdl] at hl
    refine ⟨?_, ?_, ?_⟩
    · simp only [p123, e3, e4, e10, e31]
      rw [decide_eq_true (show ((64 - n : Nat) : Int) ≥ 0 by omega), decide_eq_true (show (n : Int) ≥ 0 by omega)]
      simp [ow]
    · simp only [r123_0, e3, e4, e10]
      have : hiN (jamN P n) = hiN P / 2 ^ n := by
        unfold jamN; split
        · exact hdh
        · rw [hi_or, hdh]
      rw [this]
      exact shr_nat h1 n
    · rw [shl_nat] at hs
      simp only [r123_1, e3, e4, e10, e31, shr_nat h2 n, shl_nat, hs, hl]
      unfold jamN
      by_cases hz : P % 2 ^ n = 0
      · rw [if_pos hz, decide_eq_false (fun h => h hz)]; rfl
      · rw [if_neg hz, decide_eq_true hz, lo_or]
        exact lor_nn (lo_lt _) (show 1 < 18446744073709551616 by decide)

section
variable {s : Int} (hs : s = 4 ∨ s = 8)
include hs
theorem sround_ok {rm : Int} {minus : Bool} {P : Nat} {e : Int} (hP0 : 0 < P) (hP : P < two128) (h1 : -50000 ≤ e) (h2 : e ≤ 50000) :
    p98 (frN s) (biN s) rm minus e (hiN P) (loN P) = true ∧ r98_0 (frN s) (biN s) (topN s) rm minus e (hiN P) (loN P) = ((sgB s minus + (rnd (frN s) (biN s) rm minus P e false).1 : Nat) : Int) ∧
    r98_1 (frN s) (biN s) rm minus e (hiN P) (loN P) = ((rnd (frN s) (biN s) rm minus P e false).2 : Int) := by
  obtain ⟨f1, f2, f3, f4, f5, f6, f7, f8, f9, f10⟩ := size_facts hs
  have hb := blen_pos hP0
  have hb2 : blen P ≤ 128 := blen_le.2 hP
  have hlo := blen_low hP0
  have hup := blen_self (n := P)
  obtain ⟨z1, z2⟩ := zeros_ok hP
  generalize hn : 128 - blen P = n at *
  have hm0 : 170141183460469231731687303715884105728 ≤ P * 2 ^ n := by
    have : 2 ^ (blen P - 1) * 2 ^ n ≤ P * 2 ^ n := Nat.mul_le_mul_right _ hlo
    rw [← Nat.pow_add, show blen P - 1 + n = 127 by omega] at this
    exact this
  have hm : P * 2 ^ n < two128 := by
    have : P * 2 ^ n < 2 ^ blen P * 2 ^ n := Nat.mul_lt_mul_of_pos_right hup (Nat.two_pow_pos n)
    rw [← Nat.pow_add, show blen P + n = 128 by omega] at this
    exact this
  obtain ⟨u0, u1, u2⟩ := up_ok2 (P := P) (n := n) (by omega) hm
  have e13 : IntKind.wrap .i64 (64 - (n : Int)) = 64 - n := wrap_i64_of (by omega) (by omega)
  have e14 : IntKind.wrap .i64 (e + (64 - n)) = e + (64 - n) := wrap_i64_of (by omega) (by omega)
  have hh := hi_lt hm
  have hl := lo_lt (P * 2 ^ n)
  have ee := hi_lo (P * 2 ^ n)
  have hh0 : 9223372036854775808 ≤ hiN (P * 2 ^ n) := by unfold hiN; omega
  have hsc := rnd_scale (f := frN s) (b := biN s) (rm := rm) (minus := minus) (M := P) (k := n) (E := e) hP0
  have hnear := rnd_near (f := frN s) (b := biN s) (rm := rm) (minus := minus) (h := hiN (P * 2 ^ n)) (j := 64) (l := loN (P * 2 ^ n)) (e := e + (64 - n)) (more := false) (by
    have : 2 ^ (frN s + 2) ≤ 2 ^ 63 := Nat.pow_le_pow_right (by decide) (by omega)
    omega) hl
  have ee2 : hiN (P * 2 ^ n) * 2 ^ 64 + loN (P * 2 ^ n) = P * 2 ^ n := ee.symm
  rw [ee2, show e + (64 - (n : Int)) - (64 : Nat) = e - n by omega, hsc] at hnear
  have hmw : (bif ((loN (P * 2 ^ n) : Int) != 0) then ilor .u64 (hiN (P * 2 ^ n) : Int) 1 else (hiN (P * 2 ^ n) : Int)) = ((if loN (P * 2 ^ n) ≠ 0 ∨ false = true then hiN (P * 2 ^ n) ||| 1 else hiN (P * 2 ^ n) : Nat) : Int) := by
    by_cases h : loN (P * 2 ^ n) = 0
    · have : ((loN (P * 2 ^ n) : Int) != 0) = false := by simp [h]
      rw [this, if_neg (by simp [h])]; rfl
    · have : ((loN (P * 2 ^ n) : Int) != 0) = true := by simpa using h
      rw [this, if_pos (.inl h), cond_true]
      exact lor_nn hh (show 1 < 18446744073709551616 by decide)
  have hm1 : 9223372036854775808 ≤ (if loN (P * 2 ^ n) ≠ 0 ∨ false = true then hiN (P * 2 ^ n) ||| 1 else hiN (P * 2 ^ n)) ∧ (if loN (P * 2 ^ n) ≠ 0 ∨ false = true then hiN (P * 2 ^ n) ||| 1 else hiN (P * 2 ^ n)) < 18446744073709551616 := by
    split
    · rw [or_one]; omega
    · exact ⟨hh0, hh⟩
  generalize (if loN (P * 2 ^ n) ≠ 0 ∨ false = true then hiN (P * 2 ^ n) ||| 1 else hiN (P * 2 ^ n)) = m at *
  obtain ⟨m0, m1⟩ := hm1
  obtain ⟨c0, c1⟩ := core_ok hs (rm := rm) (minus := minus) (m := m) (e := e + (64 - n)) m0 m1 (by omega) (by omega)
  obtain ⟨d1, d2⟩ := dropOf_ok hs (e := e + (64 - n)) (by omega) (by omega)
  rw [← hnear] at c0 c1
  have hd : 0 < dropOf (frN s) (biN s) (e + (64 - n)) := by rw [d1]; omega
  have hlst : lastOf (frN s) (biN s) (64 + (e + (64 - n))) ≤ 1000000 := by
    unfold lastOf least; split <;> omega
  have hd2 : dropOf (frN s) (biN s) (e + (64 - n)) < 9223372036854775808 := by rw [d1]; omega
  obtain ⟨q1, q2⟩ := scut_ok rm minus (m := m) (b := dropOf (frN s) (biN s) (e + (64 - n))) (by omega) m1 hd
  obtain ⟨t1, _⟩ := scut_ok rm minus (m := m) (b := 63 - frN s) (by omega) m1 (by omega)
  have e12 : IntKind.wrap .i64 (63 - (frN s : Int)) = 63 - frN s := wrap_i64_of (by omega) (by omega)
  refine ⟨?_, ?_, ?_⟩
  · have a : decide ((frN s : Int) ≥ 0) = true := decide_eq_true (by omega)
    have b : p96 (frN s) = true := by simp only [p96, a]; rfl
    have c : p122 (63 - frN s) = true := p122_ok (by omega) (by omega)
    have d : p122 (bif decide (IntKind.wrap .i64 (e + (64 - n) + (63 - frN s)) < IntKind.wrap .i64 (IntKind.wrap .i64 (1 - (biN s : Int)) - frN s)) then IntKind.wrap .i64 (IntKind.wrap .i64 (IntKind.wrap .i64 (1 - (biN s : Int)) - frN s) - (e + (64 - n))) else 63 - frN s) = true := by
      have := p122_ok hd hd2
      unfold dropOf at this
      rw [e12] at this
      exact this
    simp only [p98, z1, z2, u0, e13, e14, e12, a, b, c, d, ow_t, List.all_cons, List.all_nil, id, Bool.and_true]
  · rw [← c0, ← q1, ← hmw, ← u1, ← u2, ← e14, ← e13, ← z2]; rfl
  · rw [← c1, ← q1, ← q2, ← t1, ← hmw, ← u1, ← u2, ← e12, ← e14, ← e13, ← z2]; rfl
end
end Go.Proofs.Ytacciadcmiiimaa

