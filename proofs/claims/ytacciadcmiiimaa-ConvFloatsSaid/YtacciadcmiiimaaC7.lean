/- What the reference's functions of numbers without end come to (part 2): comparing, differences, shifts up. -/
import Derived.Test.YtacciadcmiiimaaC6
namespace Go.Proofs.Ytacciadcmiiimaa
open Go Go.Sx Go.Rnd
set_option maxRecDepth 100000
set_option maxHeartbeats 1000000

theorem lt_of_dig {a b i : Nat} (h : a / 4294967296 ^ (i + 1) = b / 4294967296 ^ (i + 1)) (hd : a / 4294967296 ^ i % 4294967296 < b / 4294967296 ^ i % 4294967296) : a < b := by
  have e : ∀ n : Nat, n / 4294967296 ^ i = n / 4294967296 ^ (i + 1) * 4294967296 + n / 4294967296 ^ i % 4294967296 := fun n => by
    rw [Nat.pow_succ, ← Nat.div_div_eq_div_mul]; omega
  have h1 : a / 4294967296 ^ i < b / 4294967296 ^ i := by rw [e a, e b, h]; omega
  exact Nat.lt_of_not_le fun hle => by have := Nat.div_le_div_right (c := 4294967296 ^ i) hle; omega
theorem eq_of_dig {a b i : Nat} (h : a / 4294967296 ^ (i + 1) = b / 4294967296 ^ (i + 1)) (hd : a / 4294967296 ^ i % 4294967296 = b / 4294967296 ^ i % 4294967296) : a / 4294967296 ^ i = b / 4294967296 ^ i := by
  have e : ∀ n : Nat, n / 4294967296 ^ i = n / 4294967296 ^ (i + 1) * 4294967296 + n / 4294967296 ^ i % 4294967296 := fun n => by
    rw [Nat.pow_succ, ← Nat.div_div_eq_div_mul]; omega
  rw [e a, e b, h, hd]
theorem less_loop {a b K : Nat} (hk : K ≤ 1048576) (ha : dlen a = K) (hb : dlen b = K) : ∀ i : Nat, i ≤ K → a / 4294967296 ^ i = b / 4294967296 ^ i →
    ∃ fl v r2, L107700 (big a) (big b) false ((i : Int) - 1) = some [.i fl, .b v, r2] ∧ (bif !(fl == 0) then false else v) = decide (a < b)
  | 0, _, he => by
    have he : a = b := by simpa using he
    subst he
    refine ⟨1, false, .i (((0 : Nat) : Int) - 1), ?_, by simp⟩
    exact loopG_last (w := W107700) (c := C107700) (nx := N107700) (out := T107700) (s := [.l (big a), .l (big a), .b false, .i (((0 : Nat) : Int) - 1)]) rfl rfl
  | i + 1, hi, he => by
    have e0 : (((i + 1 : Nat) : Int) - 1) = (i : Int) := by omega
    rw [e0]
    have hw : W107700 [.l (big a), .l (big b), .b false, .i (i : Int)] = true := by
      show w107700 (big a) (big b) false (i : Int) = true
      simp only [w107700, List.all_cons, List.all_nil, id, Bool.and_true, Bool.and_eq_true, ow_2, ow_1, dec, Nat.div_one, big_len]
      refine ⟨?_, ?_, ?_, ?_, ?_, ?_, ?_, ?_⟩ <;> (intros; omega)
    have hc : C107700 [.l (big a), .l (big b), .b false, .i (i : Int)] = decide (a / 4294967296 ^ i % 4294967296 = b / 4294967296 ^ i % 4294967296) := by
      show c107700 (big a) (big b) false (i : Int) = _
      simp only [c107700, big_at]
      rw [decide_eq_true (show (i : Int) ≥ 0 by omega), Bool.true_and, Bool.eq_iff_iff]
      simp only [Bool.not_eq_true', bne_eq_false_iff_eq, dec]
      omega
    by_cases hd : a / 4294967296 ^ i % 4294967296 = b / 4294967296 ^ i % 4294967296
    · have hn2 := loopG_next (out := T107700) (nx := N107700) (c := C107700) hw (by rw [hc, decide_eq_true hd])
      have hN : N107700 [.l (big a), .l (big b), .b false, .i (i : Int)] = [.l (big a), .l (big b), .b false, .i ((i : Int) - 1)] := by
        show [DV.l (big a), .l (big b), .b false, .i (IntKind.wrap .i64 ((i : Int) - 1))] = _
        rw [wrap_i64_of (by omega) (by omega)]
      rw [hN] at hn2
      obtain ⟨fl, v, r2, h1, h2⟩ := less_loop hk ha hb i (by omega) (eq_of_dig he hd)
      exact ⟨fl, v, r2, hn2.trans h1, h2⟩
    · refine ⟨0, decide (a < b), .i (i : Int), ?_, rfl⟩
      refine (loopG_last (out := T107700) (nx := N107700) (c := C107700) hw (by rw [hc, decide_eq_false hd])).trans ?_
      show some [DV.i (bif decide ((i : Int) ≥ 0) then 0 else 1), .b (bif decide ((i : Int) ≥ 0) then ilt _ _ else false), .i (i : Int)] = _
      rw [decide_eq_true (show (i : Int) ≥ 0 by omega), cond_true, cond_true]
      congr 3
      show DV.b (ilt ((big a).getD (Int.toNat (i : Int) * 1 + 0) default).toI ((big b).getD (Int.toNat (i : Int) * 1 + 0) default).toI) = _
      rw [big_at, big_at]
      congr 1
      rw [Bool.eq_iff_iff]
      simp only [ilt, dec]
      constructor
      · intro h; exact lt_of_dig he (by omega)
      · intro h
        rcases Nat.lt_or_gt_of_ne hd with h5 | h5
        · omega
        · have := lt_of_dig he.symm h5; omega
theorem less_ok {a b : Nat} (ha : dlen a ≤ 1048576) : p77 (big a) (big b) = true ∧ r77_0 (big a) (big b) = decide (a < b) := by
  by_cases hl : dlen a = dlen b
  · obtain ⟨fl, v, r2, h1, h2⟩ := less_loop (a := a) (b := b) ha rfl hl.symm (dlen a) (Nat.le_refl _) (by
      rw [Nat.div_eq_of_lt (dlen_self a), Nat.div_eq_of_lt (by rw [hl]; exact dlen_self b)])
    have e1 : IntKind.wrap .i64 ((((big a).length / 1 : Nat) : Int) - 1) = (dlen a : Int) - 1 := by
      rw [Nat.div_one, big_len, wrap_i64_of (by omega) (by omega)]
    constructor
    · simp only [p77, e1]
      have : p107700 (big a) (big b) false ((dlen a : Int) - 1) = true := by unfold p107700; rw [h1]; rfl
      rw [this]; simp [ow_t]
    · simp only [r77_0, e1]
      have hr0 : r107700_0 (big a) (big b) false ((dlen a : Int) - 1) = fl := by unfold r107700_0; rw [h1]; rfl
      have hr1 : r107700_1 (big a) (big b) false ((dlen a : Int) - 1) = v := by unfold r107700_1; rw [h1]; rfl
      rw [hr0, hr1, h2]
      have : ((((big a).length / 1 : Nat) : Int) != (((big b).length / 1 : Nat) : Int)) = false := by
        rw [Nat.div_one, Nat.div_one, big_len, big_len, hl]; simp
      rw [this]; rfl
  · have : ((((big a).length / 1 : Nat) : Int) != (((big b).length / 1 : Nat) : Int)) = true := by
      rw [Nat.div_one, Nat.div_one, big_len, big_len]; simp; omega
    constructor
    · simp only [p77, this]; simp [ow]
    · have this2 : (((dlen a : Nat) : Int) != ((dlen b : Nat) : Int)) = true := by rw [Nat.div_one, Nat.div_one, big_len, big_len] at this; exact this
      simp only [r77_0, Nat.div_one, big_len, this2, Bool.not_true, cond_false]
      rw [Bool.eq_iff_iff]
      simp only [dec]
      constructor
      · intro h
        have h1 := dlen_self a
        have h2 := lt_dlen.1 (show dlen a < dlen b by omega)
        omega
      · intro h
        have := dlen_mono (Nat.le_of_lt h)
        omega

section
variable {a b : Nat} (ha : dlen a ≤ 1048576) (hab : b ≤ a)
def minusS (a b i o c : Nat) : List DV := [.l (big b), .l (big a), .l (dg i o), .i (c : Int), .i (i : Int), .l (big a)]
include ha hab
theorem minus_step {i o c : Nat} (hi : i < dlen a) (hc : c ≤ 1) (ho : o < 4294967296 ^ i) :
    W111000 (minusS a b i o c) = true ∧
    N111000 (minusS a b i o c) = minusS a b (i + 1) (o + (a / 4294967296 ^ i % 4294967296 + 4294967296 - c - b / 4294967296 ^ i % 4294967296) % 4294967296 * 4294967296 ^ i)
      (if a / 4294967296 ^ i % 4294967296 < c + b / 4294967296 ^ i % 4294967296 then 1 else 0) := by
  have da := dig_lt a i
  have db := dig_lt b i
  have zb : ¬ i < dlen b → b / 4294967296 ^ i % 4294967296 = 0 := fun h => dig_zero (by omega)
  have hb := dlen_mono hab
  have eA := big_at a i
  have eB := big_at b i
  generalize a / 4294967296 ^ i % 4294967296 = x at *
  generalize b / 4294967296 ^ i % 4294967296 = y at *
  have g2 : (bif decide ((i : Int) < ((big b).length / 1 : Nat)) then IntKind.wrap .i64 (IntKind.wrap .i64 (IntKind.wrap .i64 (x : Int) - (c : Int)) - IntKind.wrap .i64 (y : Int)) else IntKind.wrap .i64 (IntKind.wrap .i64 (x : Int) - (c : Int))) = (x : Int) - c - y := by
    rw [Nat.div_one, big_len, wri (n := x) (by omega), wrap_i64_of (n := (x : Int) - c) (by omega) (by omega)]
    by_cases h : i < dlen b
    · rw [decide_eq_true (by omega), cond_true, wri (n := y) (by omega), wrap_i64_of (by omega) (by omega)]
    · rw [decide_eq_false (by omega), cond_false, zb h]; simp
  have g3 : IntKind.wrap .u32 (bif decide ((x : Int) - c - y < 0) then IntKind.wrap .i64 ((x : Int) - c - y + 4294967296) else (x : Int) - c - y) = (((x + 4294967296 - c - y) % 4294967296 : Nat) : Int) := by
    by_cases h : (x : Int) - c - y < 0
    · rw [decide_eq_true h, cond_true, wrap_i64_of (by omega) (by omega), wrap_u32]; omega
    · rw [decide_eq_false h, cond_false, wrap_u32]; omega
  refine ⟨?_, ?_⟩
  · show w111000 (big b) (big a) (dg i o) (c : Int) (i : Int) (big a) = true
    simp only [w111000, List.all_cons, List.all_nil, id, Bool.and_true, Bool.and_eq_true, ow_2, ow_1, dec, Nat.div_one, List.length_append, dg_len, big_len, List.length_cons, List.length_nil]
    refine ⟨?_, ?_, ?_, ?_, ?_⟩ <;> (intros; omega)
  · show [DV.l (big b), .l (big a), .l (n111000_0 (big b) (big a) (dg i o) (c : Int) (i : Int) (big a)), .i (n111000_1 (big b) (big a) (dg i o) (c : Int) (i : Int) (big a)), .i (n111000_2 (big b) (big a) (dg i o) (c : Int) (i : Int) (big a)), .l (big a)] = _
    have q0 : n111000_0 (big b) (big a) (dg i o) (c : Int) (i : Int) (big a) = dg (i + 1) (o + (x + 4294967296 - c - y) % 4294967296 * 4294967296 ^ i) := by
      simp only [n111000_0]
      rw [eA, eB, g2, g3, dg_snoc ho (Nat.mod_lt _ (by decide))]
    have q1 : n111000_1 (big b) (big a) (dg i o) (c : Int) (i : Int) (big a) = (((if x < c + y then 1 else 0) : Nat) : Int) := by
      simp only [n111000_1]
      rw [eA, eB, g2]
      by_cases h : x < c + y
      · rw [if_pos h, decide_eq_true (by omega)]; rfl
      · rw [if_neg h, decide_eq_false (by omega)]; rfl
    have q2 : n111000_2 (big b) (big a) (dg i o) (c : Int) (i : Int) (big a) = ((i + 1 : Nat) : Int) := by
      simp only [n111000_2]
      rw [wri1 (by omega)]
    rw [q0, q1, q2]; rfl
theorem minus_loop : ∀ (t i o c : Nat), i + t = dlen a → c ≤ 1 → o < 4294967296 ^ i → a % 4294967296 ^ i + c * 4294967296 ^ i = o + b % 4294967296 ^ i →
    ∃ r2 r3 r4, loopG W111000 C111000 N111000 T111000 (minusS a b i o c) = some [.i 0, .l (dg (dlen a) (a - b)), r2, r3, r4] := by
  intro t
  induction t with
  | zero =>
    intro i o c h1 hc ho he
    have hl := dlen_self a
    have hb := dlen_mono hab
    obtain rfl : i = dlen a := by omega
    rw [mod_self (Nat.le_refl _), mod_self hb] at he
    have hc0 : c = 0 := by
      rcases Nat.eq_zero_or_pos c with h | h
      · exact h
      · have : c = 1 := by omega
        subst this; omega
    subst hc0
    refine ⟨.i ((0 : Nat) : Int), .i (dlen a : Int), .l (big a), ?_⟩
    have hw : W111000 (minusS a b (dlen a) o 0) = true := by
      show w111000 (big b) (big a) (dg (dlen a) o) ((0 : Nat) : Int) (dlen a : Int) (big a) = true
      simp only [w111000, List.all_cons, List.all_nil, id, Bool.and_true, Bool.and_eq_true, ow_2, ow_1, dec, Nat.div_one, List.length_append, dg_len, big_len, List.length_cons, List.length_nil]
      refine ⟨?_, ?_, ?_, ?_, ?_⟩ <;> (intros; omega)
    have hcc : C111000 (minusS a b (dlen a) o 0) = false := by
      show c111000 (big b) (big a) (dg (dlen a) o) ((0 : Nat) : Int) (dlen a : Int) (big a) = false
      simp only [c111000, Nat.div_one, big_len]
      exact decide_eq_false (by omega)
    rw [loopG_last hw hcc]
    have : a - b = o := by omega
    rw [this]; rfl
  | succ t ih =>
    intro i o c h1 hc ho he
    obtain ⟨hw, hn⟩ := minus_step ha hab (i := i) (o := o) (c := c) (by omega) hc ho
    have hcc : C111000 (minusS a b i o c) = true := by
      show c111000 (big b) (big a) (dg i o) (c : Int) (i : Int) (big a) = true
      simp only [c111000, Nat.div_one, big_len]
      exact decide_eq_true (by omega)
    rw [loopG_next hw hcc, hn]
    have da := dig_lt a i
    have db := dig_lt b i
    refine ih (i + 1) _ _ (by omega) (by split <;> omega) (snoc_lt ho (Nat.mod_lt _ (by decide))) ?_
    rw [mod_succ, mod_succ]
    generalize a / 4294967296 ^ i % 4294967296 = x at *
    generalize b / 4294967296 ^ i % 4294967296 = y at *
    rw [Nat.pow_succ]
    generalize 4294967296 ^ i = P at *
    have e1 : x + (if x < c + y then 1 else 0) * 4294967296 = (x + 4294967296 - c - y) % 4294967296 + c + y := by split <;> omega
    have e2 := congrArg (· * P) e1
    simp only [Nat.add_mul] at e2
    rw [Nat.mul_assoc, Nat.mul_comm 4294967296 P] at e2
    omega
theorem minus_ok : p110 (big a) (big b) = true ∧ r110_0 (big a) (big b) = big (a - b) := by
  obtain ⟨r2, r3, r4, hL⟩ := minus_loop ha hab (dlen a) 0 0 0 (by omega) (by omega) (by decide) (by simp [Nat.mod_one])
  have hg : g111000 [.l (big b), .l (big a), .l [], .i 0, .i 0, .l (big a)] = [.b true, .i 0, .l (dg (dlen a) (a - b)), .i (r2.toI), .i (r3.toI), .l r4.toL] := by
    have hL' : L111000 (big b) (big a) [] 0 0 (big a) = some [.i 0, .l (dg (dlen a) (a - b)), r2, r3, r4] := hL
    show [DV.b (p111000 (big b) (big a) [] 0 0 (big a)), .i (r111000_0 (big b) (big a) [] 0 0 (big a)), .l (r111000_1 (big b) (big a) [] 0 0 (big a)), .i (r111000_2 (big b) (big a) [] 0 0 (big a)), .i (r111000_3 (big b) (big a) [] 0 0 (big a)), .l (r111000_4 (big b) (big a) [] 0 0 (big a))] = _
    simp only [p111000, r111000_0, r111000_1, r111000_2, r111000_3, r111000_4, hL']
    rfl
  have ht := trim_ok (K := dlen a) (n := a - b) (by omega) (Nat.lt_of_le_of_lt (Nat.sub_le _ _) (dlen_self a))
  constructor
  · simp only [p110, hg]
    show [ow [] true, ow [] (p116 (dg (dlen a) (a - b)))].all id = true
    rw [ht.1]; rfl
  · simp only [r110_0, hg]
    exact ht.2
end

section
variable {a n : Nat} (ha : dlen a ≤ 1048576) (hn : n ≤ 33554432)
def upS (a n i o c : Nat) : List DV := [.i (n : Int), .l (big a), .l (dg (n / 32 + i) o), .i (c : Int), .i (i : Int), .l (big a)]
include ha hn
theorem up_step {i o c : Nat} (hi : i ≤ 1048576) (hc : c < 2 ^ (n % 32)) (ho : o < 4294967296 ^ (n / 32 + i)) :
    W110400 (upS a n i o c) = true ∧ C110400 (upS a n i o c) = decide (i < dlen a) ∧
    N110400 (upS a n i o c) = upS a n (i + 1) (o + (c + a / 4294967296 ^ i % 4294967296 * 2 ^ (n % 32)) % 4294967296 * 4294967296 ^ (n / 32 + i)) ((c + a / 4294967296 ^ i % 4294967296 * 2 ^ (n % 32)) / 4294967296) := by
  have da := dig_lt a i
  have eA := big_at a i
  generalize a / 4294967296 ^ i % 4294967296 = x at *
  have hs : n % 32 < 32 := Nat.mod_lt _ (by decide)
  have hp : 2 ^ (n % 32) ≤ 2 ^ 31 := Nat.pow_le_pow_right (by decide) (by omega)
  have g1 : ilor .u64 (c : Int) (ishl .u64 (IntKind.wrap .u64 (x : Int)) (Int.tmod (n : Int) 32)) = ((c + x * 2 ^ (n % 32) : Nat) : Int) := by
    rw [wr64 (by omega), tmod32]
    have hx : x * 2 ^ (n % 32) < 18446744073709551616 := by
      have : x * 2 ^ (n % 32) ≤ 4294967295 * 2 ^ 31 := Nat.mul_le_mul (by omega) hp
      omega
    rw [shl_lt hx, lor_nn (by omega) hx, or_high hc]
  refine ⟨?_, ?_, ?_⟩
  · show w110400 (n : Int) (big a) (dg (n / 32 + i) o) (c : Int) (i : Int) (big a) = true
    simp only [w110400, List.all_cons, List.all_nil, id, Bool.and_true, Bool.and_eq_true, ow_1, dec, Nat.div_one, List.length_append, dg_len, big_len, List.length_cons, List.length_nil, tmod32]
    refine ⟨?_, ?_, ?_, ?_⟩ <;> (intros; omega)
  · show c110400 (n : Int) (big a) (dg (n / 32 + i) o) (c : Int) (i : Int) (big a) = _
    simp only [c110400, Nat.div_one, big_len]
    rw [Bool.eq_iff_iff]
    simp only [dec]
    omega
  · show [DV.i (n : Int), .l (big a), .l (n110400_0 (n : Int) (big a) (dg (n / 32 + i) o) (c : Int) (i : Int) (big a)), .i (n110400_1 (n : Int) (big a) (dg (n / 32 + i) o) (c : Int) (i : Int) (big a)), .i (n110400_2 (n : Int) (big a) (dg (n / 32 + i) o) (c : Int) (i : Int) (big a)), .l (big a)] = _
    have q0 : n110400_0 (n : Int) (big a) (dg (n / 32 + i) o) (c : Int) (i : Int) (big a) = dg (n / 32 + i + 1) (o + (c + x * 2 ^ (n % 32)) % 4294967296 * 4294967296 ^ (n / 32 + i)) := by
      simp only [n110400_0]
      rw [eA, g1, wr32, dg_snoc ho (Nat.mod_lt _ (by decide))]
    have q1 : n110400_1 (n : Int) (big a) (dg (n / 32 + i) o) (c : Int) (i : Int) (big a) = (((c + x * 2 ^ (n % 32)) / 4294967296 : Nat) : Int) := by
      simp only [n110400_1]
      rw [eA, g1, shr32]
    have q2 : n110400_2 (n : Int) (big a) (dg (n / 32 + i) o) (c : Int) (i : Int) (big a) = ((i + 1 : Nat) : Int) := by
      simp only [n110400_2]
      rw [wri1 (by omega)]
    rw [q0, q1, q2]; rfl
theorem up_loop : ∀ (t i o c : Nat), i + t = dlen a → c < 2 ^ (n % 32) → o < 4294967296 ^ (n / 32 + i) → a % 4294967296 ^ i * 2 ^ n = o + c * 4294967296 ^ (n / 32 + i) →
    ∃ o' c' r3 r4, c' < 2 ^ (n % 32) ∧ o' < 4294967296 ^ (n / 32 + dlen a) ∧ a * 2 ^ n = o' + c' * 4294967296 ^ (n / 32 + dlen a) ∧ loopG W110400 C110400 N110400 T110400 (upS a n i o c) = some [.i 0, .l (dg (n / 32 + dlen a) o'), .i (c' : Int), r3, r4] := by
  intro t
  induction t with
  | zero =>
    intro i o c h1 hc ho he
    obtain rfl : i = dlen a := by omega
    obtain ⟨hw, hcc, _⟩ := up_step ha hn (i := dlen a) (o := o) (c := c) ha hc ho
    rw [decide_eq_false (by omega)] at hcc
    rw [mod_self (Nat.le_refl _)] at he
    exact ⟨o, c, .i (dlen a : Int), .l (big a), hc, ho, he, by rw [loopG_last hw hcc]; rfl⟩
  | succ t ih =>
    intro i o c h1 hc ho he
    obtain ⟨hw, hcc, hN⟩ := up_step ha hn (i := i) (o := o) (c := c) (by omega) hc ho
    rw [decide_eq_true (by omega)] at hcc
    rw [loopG_next hw hcc, hN]
    have da := dig_lt a i
    have hp := Nat.two_pow_pos (n % 32)
    refine ih (i + 1) _ _ (by omega) ?_ (snoc_lt ho (Nat.mod_lt _ (by decide))) ?_
    · rw [Nat.div_lt_iff_lt_mul (by decide)]
      have : (a / 4294967296 ^ i % 4294967296 + 1) * 2 ^ (n % 32) ≤ 4294967296 * 2 ^ (n % 32) := Nat.mul_le_mul_right _ da
      rw [Nat.add_mul] at this
      omega
    · rw [mod_succ]
      generalize a / 4294967296 ^ i % 4294967296 = x at *
      have e2 : 2 ^ n = 2 ^ (n % 32) * 4294967296 ^ (n / 32) := by rw [pow32, ← Nat.pow_add]; congr 1; omega
      have e3 : x * 4294967296 ^ i * 2 ^ n = x * 2 ^ (n % 32) * 4294967296 ^ (n / 32 + i) := by
        rw [e2, Nat.pow_add, Nat.mul_assoc, Nat.mul_assoc]
        congr 1
        rw [Nat.mul_left_comm, Nat.mul_comm (4294967296 ^ i)]
      rw [Nat.add_mul, he, e3]
      have e4 : n / 32 + (i + 1) = n / 32 + i + 1 := by omega
      rw [e4, Nat.pow_succ]
      generalize 4294967296 ^ (n / 32 + i) = P at *
      generalize x * 2 ^ (n % 32) = y at *
      have e1 : (c + y) * P = ((c + y) % 4294967296 + (c + y) / 4294967296 * 4294967296) * P := by rw [Nat.mod_add_div']
      rw [Nat.add_mul, Nat.add_mul, Nat.mul_assoc ((c + y) / 4294967296), Nat.mul_comm 4294967296 P] at e1
      omega
theorem up_ok : p104 (big a) (n : Int) = true ∧ r104_0 (big a) (n : Int) = big (a * 2 ^ n) := by
  by_cases h0 : a = 0
  · subst h0
    have e : ((((big 0).length / 1 : Nat) : Int) == 0) = true := rfl
    constructor
    · simp only [p104, e]; simp [ow]
    · simp only [r104_0, e]; rw [Nat.zero_mul]; rfl
  have h1 : 0 < dlen a := dlen_pos (by omega)
  have e : ((((big a).length / 1 : Nat) : Int) == 0) = false := by rw [Nat.div_one, big_len]; simp; omega
  have e1 : IntKind.wrap .i64 (Int.tdiv (n : Int) 32) = ((n / 32 : Nat) : Int) := by rw [tdiv32, wri (by omega)]
  obtain ⟨o, c, r3, r4, hc, ho, he, hL⟩ := up_loop ha hn (dlen a) 0 0 0 (by omega) (Nat.two_pow_pos _) (pw_pos _) (by simp [Nat.mod_one])
  have hz : (List.replicate (n / 32) ([.i 0] : List DV)).flatten = dg (n / 32) 0 := dg_zeros _
  have hg : g110400 [.i (n : Int), .l (big a), .l (dg (n / 32) 0), .i 0, .i 0, .l (big a)] = [.b true, .i 0, .l (dg (n / 32 + dlen a) o), .i (c : Int), .i (r3.toI), .l r4.toL] := by
    have hL' : L110400 (n : Int) (big a) (dg (n / 32) 0) 0 0 (big a) = some [.i 0, .l (dg (n / 32 + dlen a) o), .i (c : Int), r3, r4] := hL
    show [DV.b (p110400 (n : Int) (big a) (dg (n / 32) 0) 0 0 (big a)), .i (r110400_0 (n : Int) (big a) (dg (n / 32) 0) 0 0 (big a)), .l (r110400_1 (n : Int) (big a) (dg (n / 32) 0) 0 0 (big a)), .i (r110400_2 (n : Int) (big a) (dg (n / 32) 0) 0 0 (big a)), .i (r110400_3 (n : Int) (big a) (dg (n / 32) 0) 0 0 (big a)), .l (r110400_4 (n : Int) (big a) (dg (n / 32) 0) 0 0 (big a))] = _
    simp only [p110400, r110400_0, r110400_1, r110400_2, r110400_3, r110400_4, hL']
    rfl
  have hp : 2 ^ (n % 32) ≤ 2 ^ 31 := Nat.pow_le_pow_right (by decide) (by have := Nat.mod_lt n (show 0 < 32 by decide); omega)
  have hx : dg (n / 32 + dlen a) o ++ [DV.i (IntKind.wrap .u32 (c : Int))] = dg (n / 32 + dlen a + 1) (a * 2 ^ n) := by
    rw [wr32, Nat.mod_eq_of_lt (by omega), dg_snoc ho (by omega), he]
  have hlt : a * 2 ^ n < 4294967296 ^ (n / 32 + dlen a + 1) := by rw [he]; exact snoc_lt ho (by omega)
  have ht := trim_ok (K := n / 32 + dlen a + 1) (n := a * 2 ^ n) (by omega) hlt
  constructor
  · simp only [p104, e, e1, Int.toNat_natCast, hz, hg, dget, List.getD_cons_succ, List.getD_cons_zero, DV.toB, DV.toL, DV.toI]
    rw [hx, ht.1, dg_len, Nat.div_one]
    rw [decide_eq_true (show ((n / 32 : Nat) : Int) ≥ 0 by omega), decide_eq_true (show ((n / 32 : Nat) : Int) ≤ ((n / 32 : Nat) : Int) by omega), decide_eq_true (show ((n / 32 : Nat) : Int) ≤ 14073748835532 by omega), decide_eq_true (show ((n / 32 + dlen a + 1 : Nat) : Int) ≤ 14073748835532 by omega)]
    rfl
  · simp only [r104_0, e, e1, Int.toNat_natCast, hz, hg]
    show r116_0 (dg (n / 32 + dlen a) o ++ [DV.i (IntKind.wrap .u32 (c : Int))]) = _
    rw [hx, ht.2]
end
end Go.Proofs.Ytacciadcmiiimaa

namespace Go.Proofs.Ytacciadcmiiimaa
open Go Go.Sx Go.Rnd
set_option maxRecDepth 100000
set_option maxHeartbeats 1000000

theorem bit_of_dig {a n : Nat} : (a / 4294967296 ^ (n / 32) % 4294967296) / 2 ^ (n % 32) % 2 = a / 2 ^ n % 2 := by
  have hs : n % 32 < 32 := Nat.mod_lt _ (by decide)
  have e1 : 4294967296 = 2 ^ (n % 32) * 2 ^ (32 - n % 32) := by
    rw [← Nat.pow_add, show n % 32 + (32 - n % 32) = 32 by omega]
  have e2 : a / 2 ^ n = a / 4294967296 ^ (n / 32) / 2 ^ (n % 32) := by
    rw [Nat.div_div_eq_div_mul, pow32, ← Nat.pow_add]
    congr 2; omega
  rw [e2]
  generalize a / 4294967296 ^ (n / 32) = x
  have e3 : x % 4294967296 / 2 ^ (n % 32) = x / 2 ^ (n % 32) % 2 ^ (32 - n % 32) := by
    conv => lhs; rw [e1]
    exact Nat.mod_mul_right_div_self _ _ _
  rw [e3]
  apply Nat.mod_mod_of_dvd
  exact ⟨2 ^ (32 - n % 32 - 1), by rw [← Nat.pow_succ']; congr 1; omega⟩
theorem bit_ok {a n : Nat} (hn : n < 9223372036854775808) : p113 (big a) (n : Int) = true ∧ r113_0 (big a) (n : Int) = ((a / 2 ^ n % 2 : Nat) : Int) := by
  have e1 : IntKind.wrap .i64 (Int.tdiv (n : Int) 32) = ((n / 32 : Nat) : Int) := by rw [tdiv32, wri (by omega)]
  have e0 : decide ((n : Int) < 0) = false := decide_eq_false (by omega)
  constructor
  · simp only [p113, e1, e0, tmod32, Nat.div_one, big_len]
    simp only [List.all_cons, List.all_nil, id, Bool.and_true, Bool.and_eq_true, ow_1, dec, Bool.false_or, Bool.not_eq_true', decide_eq_false_iff_not]
    refine ⟨?_, ?_, ?_⟩ <;> (intros; omega)
  · simp only [r113_0, e1, e0, tmod32, Nat.div_one, big_len, big_at, Bool.false_or]
    have da := dig_lt a (n / 32)
    rw [shr32_nat da, show (1 : Int) = ((1 : Nat) : Int) from rfl, land32_nn (Nat.lt_of_le_of_lt (Nat.div_le_self _ _) da) (by decide), (one_parts _).1, wri (by omega), bit_of_dig]
    by_cases h : ((n / 32 : Nat) : Int) ≥ (dlen a : Int)
    · rw [decide_eq_true h]
      have : a < 2 ^ n := by
        have h1 := dlen_self a
        rw [pow32] at h1
        exact Nat.lt_of_lt_of_le h1 (Nat.pow_le_pow_right (by decide) (by omega))
      rw [Nat.div_eq_of_lt this]; rfl
    · rw [decide_eq_false h]; rfl
theorem len_loop {a : Nat} : ∀ k : Nat, k ≤ 33554432 → a < 2 ^ k → L111700 (big a) (k : Int) = some [.i 0, .i (blen a : Int)]
  | 0, _, hn => by
    have h0 : a = 0 := by simpa using hn
    subst h0
    exact loopG_last (w := W111700) (c := C111700) (nx := N111700) (out := T111700) (s := [.l (big 0), .i ((0 : Nat) : Int)]) rfl rfl
  | k + 1, hk, hn => by
    have e1 : IntKind.wrap .i64 (((k + 1 : Nat) : Int) - 1) = (k : Int) := by rw [wrap_i64_of (by omega) (by omega)]; omega
    obtain ⟨b1, b2⟩ := bit_ok (a := a) (n := k) (by omega)
    have hw : W111700 [.l (big a), .i ((k + 1 : Nat) : Int)] = true := by
      show w111700 (big a) ((k + 1 : Nat) : Int) = true
      simp only [w111700, e1, b1, ow_t]; rfl
    have hd : a / 2 ^ k < 2 := by rw [Nat.div_lt_iff_lt_mul (Nat.two_pow_pos k), Nat.mul_comm, ← Nat.pow_succ]; exact hn
    have hc : C111700 [.l (big a), .i ((k + 1 : Nat) : Int)] = decide (a / 2 ^ k = 0) := by
      show c111700 (big a) ((k + 1 : Nat) : Int) = _
      simp only [c111700, e1, b2]
      rw [decide_eq_true (by omega), Nat.mod_eq_of_lt hd, Bool.true_and, Bool.eq_iff_iff]
      simp only [beq_iff_eq, dec]
      exact Int.natCast_eq_zero
    by_cases hz : a < 2 ^ k
    · rw [Nat.div_eq_of_lt hz] at hc
      have hn2 := loopG_next (out := T111700) (nx := N111700) (c := C111700) hw (by rw [hc]; rfl)
      have hN : N111700 [.l (big a), .i ((k + 1 : Nat) : Int)] = [.l (big a), .i (k : Int)] := by
        show [DV.l (big a), .i (IntKind.wrap .i64 (((k + 1 : Nat) : Int) - 1))] = _
        rw [e1]
      rw [hN] at hn2
      exact hn2.trans (len_loop k (by omega) hz)
    · have hge : 2 ^ k ≤ a := Nat.le_of_not_lt hz
      have h1 : a / 2 ^ k ≠ 0 := by rw [Nat.ne_zero_iff_zero_lt]; exact Nat.div_pos hge (Nat.two_pow_pos k)
      rw [blen_eq hge hn]
      exact loopG_last (out := T111700) (nx := N111700) (c := C111700) hw (by rw [hc]; exact decide_eq_false h1)
theorem len_ok {a : Nat} (ha : dlen a ≤ 1048576) : p117 (big a) = true ∧ r117_0 (big a) = (blen a : Int) := by
  have h := len_loop (a := a) (32 * dlen a) (by omega) (by rw [← pow32]; exact dlen_self a)
  have e : IntKind.wrap .i64 (32 * (((big a).length / 1 : Nat) : Int)) = ((32 * dlen a : Nat) : Int) := by
    rw [Nat.div_one, big_len, wrap_i64_of (by omega) (by omega)]; omega
  constructor
  · simp only [p117, e, p111700, h]; rfl
  · simp only [r117_0, e, r111700_1, h]; rfl

section
variable {a n : Nat} (ha : dlen a ≤ 1048576) (hn : n ≤ 33554432)
include ha hn
theorem down_zero : ∀ (t i : Nat), i + t = min n (32 * dlen a) → ∃ r2, L111200 (n : Int) (big a) (a % 2 ^ i == 0) (i : Int) = some [.i 0, .b (a % 2 ^ n == 0), r2] := by
  have eL : IntKind.wrap .i64 (32 * (((big a).length / 1 : Nat) : Int)) = ((32 * dlen a : Nat) : Int) := by
    rw [Nat.div_one, big_len, wrap_i64_of (by omega) (by omega)]; omega
  have hW : ∀ (z : Bool) (i : Nat), i ≤ 33554432 → W111200 [.i (n : Int), .l (big a), .b z, .i (i : Int)] = true := fun z i hi => by
    show w111200 (n : Int) (big a) z (i : Int) = true
    simp only [w111200, (bit_ok (a := a) (n := i) (by omega)).1, ow_t]; rfl
  have hC : ∀ (z : Bool) (i : Nat), C111200 [.i (n : Int), .l (big a), .b z, .i (i : Int)] = decide (i < min n (32 * dlen a)) := fun z i => by
    show c111200 (n : Int) (big a) z (i : Int) = _
    simp only [c111200, eL]
    rw [Bool.eq_iff_iff]
    simp only [Bool.and_eq_true, dec]
    omega
  intro t
  induction t with
  | zero =>
    intro i hi
    refine ⟨.i (i : Int), ?_⟩
    have := loopG_last (out := T111200) (nx := N111200) (c := C111200) (hW (a % 2 ^ i == 0) i (by omega)) (by rw [hC]; exact decide_eq_false (by omega))
    refine this.trans ?_
    have e : (a % 2 ^ i == 0) = (a % 2 ^ n == 0) := by
      rcases Nat.le_total n (32 * dlen a) with h | h
      · have : i = n := by omega
        rw [this]
      · have h1 := dlen_self a
        rw [pow32] at h1
        have h2 : i = 32 * dlen a := by omega
        rw [h2, Nat.mod_eq_of_lt h1, Nat.mod_eq_of_lt (Nat.lt_of_lt_of_le h1 (Nat.pow_le_pow_right (by decide) h))]
    rw [e]; rfl
  | succ t ih =>
    intro i hi
    obtain ⟨r2, h⟩ := ih (i + 1) (by omega)
    refine ⟨r2, ?_⟩
    have := loopG_next (out := T111200) (nx := N111200) (c := C111200) (hW (a % 2 ^ i == 0) i (by omega)) (by rw [hC]; exact decide_eq_true (by omega))
    refine this.trans ?_
    have hN : N111200 [.i (n : Int), .l (big a), .b (a % 2 ^ i == 0), .i (i : Int)] = [.i (n : Int), .l (big a), .b (a % 2 ^ (i + 1) == 0), .i ((i + 1 : Nat) : Int)] := by
      show [DV.i (n : Int), .l (big a), .b ((a % 2 ^ i == 0) && (r113_0 (big a) (i : Int) == 0)), .i (IntKind.wrap .i64 ((i : Int) + 1))] = _
      rw [wri1 (by omega), (bit_ok (a := a) (n := i) (by omega)).2]
      congr 4
      rw [Bool.eq_iff_iff]
      simp only [Bool.and_eq_true, beq_iff_eq]
      rw [Nat.pow_succ, Nat.mod_mul]
      have := Nat.two_pow_pos i
      constructor
      · rintro ⟨h1, h2⟩
        have h2 : a / 2 ^ i % 2 = 0 := by omega
        rw [h1, h2]; simp
      · intro h1
        have h3 : a % 2 ^ i = 0 ∧ 2 ^ i * (a / 2 ^ i % 2) = 0 := by omega
        refine ⟨h3.1, ?_⟩
        rcases Nat.mul_eq_zero.1 h3.2 with h4 | h4 <;> omega
    rw [hN]
    exact h
theorem down_step {j : Nat} (hj : n + j < 32 * dlen a) :
    W111202 [.i (n : Int), .l (big a), .l (dg ((j + 31) / 32) (a / 2 ^ n % 2 ^ j)), .i ((n + j : Nat) : Int), .l (big a)] = true ∧
    N111202 [.i (n : Int), .l (big a), .l (dg ((j + 31) / 32) (a / 2 ^ n % 2 ^ j)), .i ((n + j : Nat) : Int), .l (big a)] = [.i (n : Int), .l (big a), .l (dg ((j + 1 + 31) / 32) (a / 2 ^ n % 2 ^ (j + 1))), .i ((n + (j + 1) : Nat) : Int), .l (big a)] := by
  have e1 : IntKind.wrap .i64 (((n + j : Nat) : Int) - (n : Int)) = (j : Int) := by rw [wrap_i64_of (by omega) (by omega)]; omega
  obtain ⟨b1, b2⟩ := bit_ok (a := a) (n := n + j) (by omega)
  have hb : a / 2 ^ (n + j) % 2 = a / 2 ^ n / 2 ^ j % 2 := by rw [Nat.pow_add, Nat.div_div_eq_div_mul]
  rw [hb] at b2
  generalize a / 2 ^ n = m at *
  have hm : m % 2 ^ j < 2 ^ j := Nat.mod_lt _ (Nat.two_pow_pos j)
  have hx : (bif ((((j % 32 : Nat) : Int)) == 0) then dg ((j + 31) / 32) (m % 2 ^ j) ++ [.i 0] else dg ((j + 31) / 32) (m % 2 ^ j)) = dg (j / 32 + 1) (m % 2 ^ j) := by
    by_cases h : j % 32 = 0
    · have e : (((j % 32 : Nat) : Int) == 0) = true := by rw [h]; rfl
      have e2 : (j + 31) / 32 = j / 32 := by omega
      rw [e, cond_true, e2]
      have h2 : m % 2 ^ j < 4294967296 ^ (j / 32) := by rw [pow32]; refine Nat.lt_of_lt_of_le hm (Nat.pow_le_pow_right (by decide) (by omega))
      have := dg_snoc (d := 0) h2 (by decide)
      rw [Nat.zero_mul, Nat.add_zero] at this
      exact this
    · have e : (((j % 32 : Nat) : Int) == 0) = false := by simp; omega
      have e2 : (j + 31) / 32 = j / 32 + 1 := by omega
      rw [e, cond_false, e2]
  have hl : IntKind.wrap .i64 (((j / 32 + 1 : Nat) : Int) - 1) = ((j / 32 : Nat) : Int) := by rw [wrap_i64_of (by omega) (by omega)]; omega
  have ho : m % 2 ^ j < 4294967296 ^ (j / 32 + 1) := by rw [pow32]; refine Nat.lt_of_lt_of_le hm (Nat.pow_le_pow_right (by decide) (by omega))
  constructor
  · show w111202 (n : Int) (big a) (dg ((j + 31) / 32) (m % 2 ^ j)) ((n + j : Nat) : Int) (big a) = true
    simp only [w111202, e1, tmod32, hx, dg_len, Nat.div_one, hl, b1, ow_t]
    simp only [List.all_cons, List.all_nil, id, Bool.and_true, Bool.and_eq_true, ow_1, ow_2, dec, List.length_append, dg_len, List.length_cons, List.length_nil]
    refine ⟨?_, ?_, ?_, ?_, ?_, ?_⟩ <;> (intros; first | exact True.intro | rfl | omega)
  · show [DV.i (n : Int), .l (big a), .l (n111202_0 (n : Int) (big a) (dg ((j + 31) / 32) (m % 2 ^ j)) ((n + j : Nat) : Int) (big a)), .i (n111202_1 (n : Int) (big a) (dg ((j + 31) / 32) (m % 2 ^ j)) ((n + j : Nat) : Int) (big a)), .l (big a)] = _
    have q1 : n111202_1 (n : Int) (big a) (dg ((j + 31) / 32) (m % 2 ^ j)) ((n + j : Nat) : Int) (big a) = ((n + (j + 1) : Nat) : Int) := by
      simp only [n111202_1]
      rw [wri1 (by omega)]; rfl
    have q0 : n111202_0 (n : Int) (big a) (dg ((j + 31) / 32) (m % 2 ^ j)) ((n + j : Nat) : Int) (big a) = dg ((j + 1 + 31) / 32) (m % 2 ^ (j + 1)) := by
      simp only [n111202_0, e1, tmod32, hx, dg_len, Nat.div_one, hl]
      have e5 : ∀ k : Nat, Int.toNat ((k : Nat) : Int) * 1 + 0 = k := fun k => by omega
      rw [e5, dg_get ho, b2, wr32, shl32_nat]
      have hs : j % 32 < 32 := Nat.mod_lt _ (by decide)
      have hy : m / 2 ^ j % 2 < 2 := Nat.mod_lt _ (by decide)
      have hx0 : m % 2 ^ j / 4294967296 ^ (j / 32) < 2 ^ (j % 32) := by
        rw [Nat.div_lt_iff_lt_mul (pw_pos _), pow32, ← Nat.pow_add, show j % 32 + 32 * (j / 32) = j by omega]; exact hm
      have hxl := dig_lt (m % 2 ^ j) (j / 32)
      have hxe : m % 2 ^ j / 4294967296 ^ (j / 32) % 4294967296 = m % 2 ^ j / 4294967296 ^ (j / 32) := Nat.mod_eq_of_lt (by
        have : 2 ^ (j % 32) ≤ 2 ^ 31 := Nat.pow_le_pow_right (by decide) (by omega)
        omega)
      rw [← hxe] at hx0
      have hp : 2 ^ (j % 32) ≤ 2 ^ 31 := Nat.pow_le_pow_right (by decide) (by omega)
      have hyx : m / 2 ^ j % 2 * 2 ^ (j % 32) ≤ 2 ^ (j % 32) := by
        have : m / 2 ^ j % 2 * 2 ^ (j % 32) ≤ 1 * 2 ^ (j % 32) := Nat.mul_le_mul_right _ (by omega)
        omega
      rw [Nat.mod_eq_of_lt (show m / 2 ^ j % 2 < 4294967296 by omega), Nat.mod_eq_of_lt (show m / 2 ^ j % 2 * 2 ^ (j % 32) < 4294967296 by omega)]
      show (dg (j / 32 + 1) (m % 2 ^ j)).set (j / 32) (.i (ilor .u32 ((m % 2 ^ j / 4294967296 ^ (j / 32) % 4294967296 : Nat) : Int) ((m / 2 ^ j % 2 * 2 ^ (j % 32) : Nat) : Int))) = _
      rw [lor32_nn hxl (by omega), or_high hx0]
      have e6 : (j + 1 + 31) / 32 = j / 32 + 1 := by omega
      rw [e6]
      refine (dg_set (by omega) ho (by omega) ?_).1
      rw [Nat.pow_succ 2 j, Nat.mod_mul, Nat.add_mul, Nat.mul_assoc (m / 2 ^ j % 2), pow32 (j / 32), ← Nat.pow_add, show j % 32 + 32 * (j / 32) = j by omega, Nat.mul_comm (2 ^ j)]
      omega
    rw [q0, q1]
theorem down_rest : ∀ (t j : Nat), n + j + t = 32 * dlen a → ∃ r2 r3, L111202 (n : Int) (big a) (dg ((j + 31) / 32) (a / 2 ^ n % 2 ^ j)) ((n + j : Nat) : Int) (big a) = some [.i 0, .l (dg ((32 * dlen a - n + 31) / 32) (a / 2 ^ n)), r2, r3] := by
  have eL : IntKind.wrap .i64 (32 * (((big a).length / 1 : Nat) : Int)) = ((32 * dlen a : Nat) : Int) := by
    rw [Nat.div_one, big_len, wrap_i64_of (by omega) (by omega)]; omega
  have hC : ∀ (o : List DV) (j : Nat), C111202 [.i (n : Int), .l (big a), .l o, .i ((n + j : Nat) : Int), .l (big a)] = decide (n + j < 32 * dlen a) := fun o j => by
    show c111202 (n : Int) (big a) o ((n + j : Nat) : Int) (big a) = _
    simp only [c111202, eL]
    rw [Bool.eq_iff_iff]
    simp only [dec]
    omega
  intro t
  induction t with
  | zero =>
    intro j hj
    refine ⟨.i ((n + j : Nat) : Int), .l (big a), ?_⟩
    have hw : W111202 [.i (n : Int), .l (big a), .l (dg ((j + 31) / 32) (a / 2 ^ n % 2 ^ j)), .i ((n + j : Nat) : Int), .l (big a)] = true := by
      show w111202 (n : Int) (big a) (dg ((j + 31) / 32) (a / 2 ^ n % 2 ^ j)) ((n + j : Nat) : Int) (big a) = true
      simp only [w111202, eL]
      rw [decide_eq_false (show ¬ ((n + j : Nat) : Int) < ((32 * dlen a : Nat) : Int) by omega)]
      simp [ow]
    refine (loopG_last (out := T111202) (nx := N111202) (c := C111202) hw (by rw [hC]; exact decide_eq_false (by omega))).trans ?_
    have h1 := dlen_self a
    rw [pow32] at h1
    have h2 : a / 2 ^ n < 2 ^ j := by
      rw [Nat.div_lt_iff_lt_mul (Nat.two_pow_pos n), ← Nat.pow_add]
      exact Nat.lt_of_lt_of_le h1 (Nat.pow_le_pow_right (by decide) (by omega))
    rw [Nat.mod_eq_of_lt h2, show 32 * dlen a - n = j by omega]
    rfl
  | succ t ih =>
    intro j hj
    obtain ⟨hw, hN⟩ := down_step ha hn (j := j) (by omega)
    obtain ⟨r2, r3, h⟩ := ih (j + 1) (by omega)
    refine ⟨r2, r3, ?_⟩
    refine (loopG_next (out := T111202) (nx := N111202) (c := C111202) hw (by rw [hC]; exact decide_eq_true (by omega))).trans ?_
    rw [hN]
    exact h
theorem down_ok : p112 (big a) (n : Int) = true ∧ r112_0 (big a) (n : Int) = (a % 2 ^ n == 0) ∧ r112_1 (big a) (n : Int) = big (a / 2 ^ n) := by
  obtain ⟨q2, hz⟩ := down_zero ha hn (min n (32 * dlen a)) 0 (by omega)
  have hz : L111200 (n : Int) (big a) true 0 = some [.i 0, .b (a % 2 ^ n == 0), q2] := by
    have : (a % 2 ^ 0 == 0) = true := by simp [Nat.mod_one]
    rw [this] at hz; exact hz
  have hr : ∃ k r2 r3, a / 2 ^ n < 4294967296 ^ k ∧ k ≤ 1048577 ∧ L111202 (n : Int) (big a) [] (n : Int) (big a) = some [.i 0, .l (dg k (a / 2 ^ n)), r2, r3] := by
    by_cases h : n ≤ 32 * dlen a
    · obtain ⟨r2, r3, h2⟩ := down_rest ha hn (32 * dlen a - n) 0 (by omega)
      refine ⟨_, r2, r3, ?_, ?_, h2⟩
      · have h1 := dlen_self a
        rw [pow32] at h1
        rw [Nat.div_lt_iff_lt_mul (Nat.two_pow_pos n), pow32, ← Nat.pow_add]
        exact Nat.lt_of_lt_of_le h1 (Nat.pow_le_pow_right (by decide) (by omega))
      · omega
    · refine ⟨0, .i (n : Int), .l (big a), ?_, by omega, ?_⟩
      · have h1 := dlen_self a
        rw [pow32] at h1
        rw [Nat.div_eq_of_lt (Nat.lt_of_lt_of_le h1 (Nat.pow_le_pow_right (by decide) (by omega)))]
        decide
      · have eL : IntKind.wrap .i64 (32 * (((big a).length / 1 : Nat) : Int)) = ((32 * dlen a : Nat) : Int) := by
          rw [Nat.div_one, big_len, wrap_i64_of (by omega) (by omega)]; omega
        have ed : decide ((n : Int) < ((32 * dlen a : Nat) : Int)) = false := decide_eq_false (by omega)
        have hw : W111202 [.i (n : Int), .l (big a), .l [], .i (n : Int), .l (big a)] = true := by
          show w111202 (n : Int) (big a) [] (n : Int) (big a) = true
          simp only [w111202, eL, ed]
          simp [ow]
        have hc : C111202 [.i (n : Int), .l (big a), .l [], .i (n : Int), .l (big a)] = false := by
          show c111202 (n : Int) (big a) [] (n : Int) (big a) = false
          simp only [c111202, eL, ed]
        exact loopG_last (out := T111202) (nx := N111202) (c := C111202) hw hc
  obtain ⟨k, r2, r3, hlt, hk, hL⟩ := hr
  have hg : g111202 [.i (n : Int), .l (big a), .l [], .i (n : Int), .l (big a)] = [.b true, .i 0, .l (dg k (a / 2 ^ n)), .i (r2.toI), .l r3.toL] := by
    show [DV.b (p111202 (n : Int) (big a) [] (n : Int) (big a)), .i (r111202_0 (n : Int) (big a) [] (n : Int) (big a)), .l (r111202_1 (n : Int) (big a) [] (n : Int) (big a)), .i (r111202_2 (n : Int) (big a) [] (n : Int) (big a)), .l (r111202_3 (n : Int) (big a) [] (n : Int) (big a))] = _
    simp only [p111202, r111202_0, r111202_1, r111202_2, r111202_3, hL]
    rfl
  have ht := trim_ok (K := k) (n := a / 2 ^ n) (by omega) hlt
  refine ⟨?_, ?_, ?_⟩
  · have : p111200 (n : Int) (big a) true 0 = true := by unfold p111200; rw [hz]; rfl
    simp only [p112, hg, this]
    show [ow [] true, ow [] true, ow [] (p116 (dg k (a / 2 ^ n)))].all id = true
    rw [ht.1]; rfl
  · simp only [r112_0, r111200_1, hz]; rfl
  · simp only [r112_1, hg]
    exact ht.2
end

theorem low_ok {a : Nat} : p111 (big a) = true ∧ r111_0 (big a) = ((a % 18446744073709551616 : Nat) : Int) := by
  have hC : ∀ (x : Int) (i : Nat), C111100 [.l (big a), .i x, .i (i : Int)] = decide (i < dlen a ∧ i < 2) := fun x i => by
    show c111100 (big a) x (i : Int) = _
    simp only [c111100, Nat.div_one, big_len]
    rw [Bool.eq_iff_iff]
    simp only [Bool.and_eq_true, dec]
    omega
  have hW : ∀ (x : Int) (i : Nat), i ≤ 2 → W111100 [.l (big a), .i x, .i (i : Int)] = true := fun x i hi => by
    show w111100 (big a) x (i : Int) = true
    have : IntKind.wrap .i64 (32 * (i : Int)) = 32 * i := wrap_i64_of (by omega) (by omega)
    simp only [w111100, this, Nat.div_one, big_len]
    simp only [List.all_cons, List.all_nil, id, Bool.and_true, Bool.and_eq_true, ow_1, dec]
    refine ⟨?_, ?_, ?_⟩ <;> (intros; omega)
  have hl : ∀ (t i : Nat), i + t = 2 → ∃ r2, L111100 (big a) ((a % 4294967296 ^ i : Nat) : Int) (i : Int) = some [.i 0, .i ((a % 18446744073709551616 : Nat) : Int), r2] := by
    have last : ∀ i : Nat, i ≤ 2 → dlen a ≤ i ∨ i = 2 → ∃ r2, L111100 (big a) ((a % 4294967296 ^ i : Nat) : Int) (i : Int) = some [.i 0, .i ((a % 18446744073709551616 : Nat) : Int), r2] := fun i hi h => by
      refine ⟨.i (i : Int), (loopG_last (out := T111100) (nx := N111100) (c := C111100) (hW _ i hi) (by rw [hC]; exact decide_eq_false (by omega))).trans ?_⟩
      have e : a % 4294967296 ^ i = a % 18446744073709551616 := by
        rcases h with h | h
        · rw [mod_self h, Nat.mod_eq_of_lt]
          have h5 : 4294967296 ^ dlen a ≤ 4294967296 ^ 2 := Nat.pow_le_pow_right (by decide) (by omega)
          exact Nat.lt_of_lt_of_le (dlen_self a) h5
        · subst h; rfl
      rw [← e]; rfl
    intro t
    induction t with
    | zero => intro i hi; exact last i (by omega) (Or.inr (by omega))
    | succ t ih =>
      intro i hi
      by_cases h : dlen a ≤ i
      · exact last i (by omega) (Or.inl h)
      · obtain ⟨r2, h2⟩ := ih (i + 1) (by omega)
        refine ⟨r2, (loopG_next (out := T111100) (nx := N111100) (c := C111100) (hW _ i (by omega)) (by rw [hC]; exact decide_eq_true (by omega))).trans ?_⟩
        have hN : N111100 [.l (big a), .i ((a % 4294967296 ^ i : Nat) : Int), .i (i : Int)] = [.l (big a), .i ((a % 4294967296 ^ (i + 1) : Nat) : Int), .i ((i + 1 : Nat) : Int)] := by
          show [DV.l (big a), .i (n111100_0 (big a) ((a % 4294967296 ^ i : Nat) : Int) (i : Int)), .i (IntKind.wrap .i64 ((i : Int) + 1))] = _
          rw [wri1 (by omega)]
          have da := dig_lt a i
          have e3 : IntKind.wrap .i64 (32 * (i : Int)) = ((32 * i : Nat) : Int) := by rw [wrap_i64_of (by omega) (by omega)]; omega
          have hm : a % 4294967296 ^ i < 2 ^ (32 * i) := by rw [← pow32]; exact Nat.mod_lt _ (pw_pos i)
          have hp : 2 ^ (32 * i) ≤ 2 ^ 32 := Nat.pow_le_pow_right (by decide) (by omega)
          have hx : a / 4294967296 ^ i % 4294967296 * 2 ^ (32 * i) < 18446744073709551616 := by
            have : a / 4294967296 ^ i % 4294967296 * 2 ^ (32 * i) ≤ 4294967295 * 2 ^ 32 := Nat.mul_le_mul (by omega) hp
            omega
          have q0 : n111100_0 (big a) ((a % 4294967296 ^ i : Nat) : Int) (i : Int) = ((a % 4294967296 ^ (i + 1) : Nat) : Int) := by
            simp only [n111100_0, big_at, e3]
            rw [wr64 (by omega), shl_lt hx, lor_nn (by omega) hx, or_high hm, mod_succ, pow32]
          rw [q0]
        rw [hN]
        exact h2
  obtain ⟨r2, h⟩ := hl 2 0 (by omega)
  have h : L111100 (big a) 0 0 = some [.i 0, .i ((a % 18446744073709551616 : Nat) : Int), r2] := by simpa [Nat.mod_one] using h
  constructor
  · simp only [p111, p111100, h]; rfl
  · simp only [r111_0, r111100_1, h]; rfl

section
variable {a b : Nat} (ha : dlen a ≤ 1048576) (hb : dlen b ≤ 1048576)
include ha hb
end
end Go.Proofs.Ytacciadcmiiimaa

namespace Go.Proofs.Ytacciadcmiiimaa
open Go Go.Sx Go.Rnd
set_option maxRecDepth 100000
set_option maxHeartbeats 1000000

theorem inc_ok {a : Nat} (ha : dlen a ≤ 1048576) : p114 (big a) [.i 1] = true ∧ r114_0 (big a) [.i 1] = big (a + 1) := by
  have := plus_ok (a := a) (b := 1) ha (by rw [dlen_one]; decide)
  rw [big_one] at this
  exact this

section
variable {a b : Nat} (ha : blen a ≤ 1000000) (hb0 : 0 < b) (hb : blen b ≤ 1000000)
include ha hb0 hb
end

section
variable {a : Nat} (ha : blen a ≤ 1000000)
include ha
end
end Go.Proofs.Ytacciadcmiiimaa

namespace Go.Proofs.Ytacciadcmiiimaa
open Go Go.Sx Go.Rnd
set_option maxRecDepth 100000
set_option maxHeartbeats 1000000

def frN (s : Int) : Nat := if s = 4 then 23 else 52
def exN (s : Int) : Nat := if s = 4 then 8 else 11
def biN (s : Int) : Nat := if s = 4 then 127 else 1023
def topN (s : Int) : Nat := if s = 4 then 2147483648 else 9223372036854775808
def oneN (s : Int) : Nat := if s = 4 then 8388608 else 4503599627370496
def infB (s : Int) : Nat := if s = 4 then 2139095040 else 9218868437227405312
def quiB (s : Int) : Nat := if s = 4 then 2143289344 else 9221120237041090560
def emaxN (s : Int) : Nat := if s = 4 then 255 else 2047
def mkN (s : Int) (a : Nat) : Nat := if s = 4 then a % 4294967296 else a
def sgN (s : Int) (a : Nat) : Bool := decide (mkN s a / topN s = 1)
def exf (s : Int) (a : Nat) : Nat := mkN s a / oneN s % (emaxN s + 1)
def frf (s : Int) (a : Nat) : Nat := mkN s a % oneN s
def nanN (s : Int) (a : Nat) : Bool := decide (exf s a = emaxN s ∧ frf s a ≠ 0)
def loudN (s : Int) (a : Nat) : Bool := decide (exf s a = emaxN s ∧ frf s a ≠ 0 ∧ frf s a < oneN s / 2)
def infN (s : Int) (a : Nat) : Bool := decide (exf s a = emaxN s ∧ frf s a = 0)
def zerN (s : Int) (a : Nat) : Bool := decide (exf s a = 0 ∧ frf s a = 0)
def fM (s : Int) (a : Nat) : Nat := if 0 < exf s a then frf s a + oneN s else frf s a
def fE (s : Int) (a : Nat) : Int := (if 0 < exf s a then (exf s a : Int) else 1) - biN s - frN s
def sgB (s : Int) (b : Bool) : Nat := if b then topN s else 0

theorem land_low {x n : Nat} (hx : x < 18446744073709551616) (hn : n ≤ 64) : iland .u64 (x : Int) ((2 ^ n - 1 : Nat) : Int) = ((x % 2 ^ n : Nat) : Int) := by
  have h1 := Nat.two_pow_pos n
  have h2 : 2 ^ n ≤ 2 ^ 64 := Nat.pow_le_pow_right (by decide) hn
  rw [land_nn hx (by omega), Nat.and_two_pow_sub_one_eq_mod]

section
variable {s : Int} (hs : s = 4 ∨ s = 8) {a : Nat} (ha : a < 18446744073709551616)
include hs
theorem mk_lt (ha : a < 18446744073709551616) : mkN s a < 2 * topN s := by
  rcases hs with rfl | rfl
  · show a % 4294967296 < 2 * 2147483648; omega
  · show a < 2 * 9223372036854775808; omega
theorem shape_ok : r89_0 s = (frN s : Int) ∧ r89_1 s = (exN s : Int) := by rcases hs with rfl | rfl <;> exact ⟨rfl, rfl⟩
include ha
theorem mask_ok : r42_0 s (a : Int) = (mkN s a : Int) := by
  rcases hs with rfl | rfl
  · simp only [r42_0]
    exact land_low (n := 32) ha (by decide)
  · rfl
theorem parts_ok : p90 s = true ∧ r90_0 s (a : Int) = sgN s a ∧ r90_1 s (a : Int) = (exf s a : Int) ∧ r90_2 s (a : Int) = (frf s a : Int) := by
  have hm := mask_ok hs ha
  have hl := mk_lt hs ha
  rcases hs with rfl | rfl
  · have hv : mkN 4 a < 4294967296 := hl
    have k0 : IntKind.wrap .i64 (r89_0 4 + r89_1 4) = ((31 : Nat) : Int) := by decide
    have k1 : r89_0 4 = ((23 : Nat) : Int) := rfl
    have k2 : IntKind.wrap .u64 (ishl .u64 1 (r89_1 4) - 1) = ((2 ^ 8 - 1 : Nat) : Int) := by decide
    have k3 : IntKind.wrap .u64 (ishl .u64 1 ((23 : Nat) : Int) - 1) = ((2 ^ 23 - 1 : Nat) : Int) := by decide
    unfold sgN exf frf
    rw [show topN 4 = 2 ^ 31 from by decide, show oneN 4 = 2 ^ 23 from by decide, show emaxN 4 + 1 = 2 ^ 8 from by decide]
    generalize mkN 4 a = v at *
    refine ⟨by decide, ?_, ?_, ?_⟩
    · simp only [r90_0, hm, k0]
      rw [shr_nat (by omega), Bool.eq_iff_iff]
      simp only [beq_iff_eq, dec]
      exact ⟨fun h => Int.ofNat.inj h, fun h => congrArg Int.ofNat h⟩
    · simp only [r90_1, hm, k1, k2]
      have h1 : v / 2 ^ 23 < 18446744073709551616 := Nat.lt_of_le_of_lt (Nat.div_le_self _ _) (by omega)
      have h2 : v / 2 ^ 23 % 2 ^ 8 < 2 ^ 8 := Nat.mod_lt _ (by decide)
      rw [shr_nat (by omega), land_low h1 (by decide), wri (Nat.lt_trans h2 (by decide))]
    · simp only [r90_2, hm, k1, k3]
      rw [land_low (by omega) (by decide)]
  · have hv : mkN 8 a < 18446744073709551616 := hl
    have k0 : IntKind.wrap .i64 (r89_0 8 + r89_1 8) = ((63 : Nat) : Int) := by decide
    have k1 : r89_0 8 = ((52 : Nat) : Int) := rfl
    have k2 : IntKind.wrap .u64 (ishl .u64 1 (r89_1 8) - 1) = ((2 ^ 11 - 1 : Nat) : Int) := by decide
    have k3 : IntKind.wrap .u64 (ishl .u64 1 ((52 : Nat) : Int) - 1) = ((2 ^ 52 - 1 : Nat) : Int) := by decide
    unfold sgN exf frf
    rw [show topN 8 = 2 ^ 63 from by decide, show oneN 8 = 2 ^ 52 from by decide, show emaxN 8 + 1 = 2 ^ 11 from by decide]
    generalize mkN 8 a = v at *
    refine ⟨by decide, ?_, ?_, ?_⟩
    · simp only [r90_0, hm, k0]
      rw [shr_nat (by omega), Bool.eq_iff_iff]
      simp only [beq_iff_eq, dec]
      exact ⟨fun h => Int.ofNat.inj h, fun h => congrArg Int.ofNat h⟩
    · simp only [r90_1, hm, k1, k2]
      have h1 : v / 2 ^ 52 < 18446744073709551616 := Nat.lt_of_le_of_lt (Nat.div_le_self _ _) (by omega)
      have h2 : v / 2 ^ 52 % 2 ^ 11 < 2 ^ 11 := Nat.mod_lt _ (by decide)
      rw [shr_nat (by omega), land_low h1 (by decide), wri (Nat.lt_trans h2 (by decide))]
    · simp only [r90_2, hm, k1, k3]
      rw [land_low (by omega) (by decide)]
theorem ex_le : exf s a ≤ emaxN s := by have _ := hs; have _ := ha; unfold exf; have := Nat.mod_lt (mkN s a / oneN s) (show 0 < emaxN s + 1 by omega); omega
theorem fr_lt : frf s a < oneN s := by
  have _ := ha
  unfold frf
  exact Nat.mod_lt _ (by rcases hs with rfl | rfl <;> decide)
theorem nan_ok : p39 s = true ∧ r39_0 s (a : Int) = nanN s a := by
  obtain ⟨h0, _, h2, h3⟩ := parts_ok hs ha
  constructor
  · rcases hs with rfl | rfl <;> decide
  · simp only [r39_0, h2, h3]
    have : IntKind.wrap .i64 (ishl .i64 1 (r89_1 s) - 1) = (emaxN s : Int) := by rcases hs with rfl | rfl <;> decide
    rw [this, Bool.eq_iff_iff]
    unfold nanN
    simp only [Bool.and_eq_true, beq_iff_eq, bne_iff_ne, dec]
    omega
theorem loud_ok : p41 s (a : Int) = true ∧ r41_0 s (a : Int) = loudN s a := by
  obtain ⟨h0, _, h2, h3⟩ := parts_ok hs ha
  obtain ⟨h4, h5⟩ := nan_ok hs ha
  constructor
  · simp only [p41, h0, h4]
    have : decide (IntKind.wrap .i64 (r89_0 s - 1) ≥ 0) = true := by rcases hs with rfl | rfl <;> decide
    rw [this]; simp [ow_t]
  · simp only [r41_0, h5, h3]
    have h6 := fr_lt hs ha
    have e : IntKind.wrap .i64 (r89_0 s - 1) = ((frN s - 1 : Nat) : Int) := by rcases hs with rfl | rfl <;> decide
    have ho : oneN s ≤ 4503599627370496 := by rcases hs with rfl | rfl <;> decide
    rw [e, shr_nat (by omega), Bool.eq_iff_iff]
    unfold nanN loudN
    simp only [Bool.and_eq_true, beq_iff_eq, dec]
    have : 2 ^ (frN s - 1) = oneN s / 2 := by rcases hs with rfl | rfl <;> decide
    rw [this, and_assoc]
    have h7 : ((frf s a / (oneN s / 2) : Nat) : Int) = 0 ↔ frf s a < oneN s / 2 := by
      have : 0 < oneN s / 2 := by rcases hs with rfl | rfl <;> decide
      rw [show (((frf s a / (oneN s / 2) : Nat) : Int) = 0) = (frf s a / (oneN s / 2) = 0) from by rw [eq_iff_iff]; omega, Nat.div_eq_zero_iff]
      omega
    rw [h7]
theorem inf_ok : p56 s = true ∧ r56_0 s (a : Int) = infN s a := by
  obtain ⟨h0, _, h2, h3⟩ := parts_ok hs ha
  constructor
  · rcases hs with rfl | rfl <;> decide
  · simp only [r56_0, h2, h3]
    have : IntKind.wrap .i64 (ishl .i64 1 (r89_1 s) - 1) = (emaxN s : Int) := by rcases hs with rfl | rfl <;> decide
    rw [this, Bool.eq_iff_iff]
    unfold infN
    simp only [Bool.and_eq_true, beq_iff_eq, dec]
    omega
theorem zero_ok : p61 s = true ∧ r61_0 s (a : Int) = zerN s a := by
  obtain ⟨h0, _, h2, h3⟩ := parts_ok hs ha
  constructor
  · simp only [p61, h0]; rfl
  · simp only [r61_0, h2, h3]
    rw [Bool.eq_iff_iff]
    unfold zerN
    simp only [Bool.and_eq_true, beq_iff_eq, dec]
    omega
theorem minused_ok : p74 s = true ∧ r74_0 s (a : Int) = sgN s a := by
  obtain ⟨h0, h1, _, _⟩ := parts_ok hs ha
  constructor
  · simp only [p74, h0]; rfl
  · simp only [r74_0, h1]
omit ha
theorem quiet_ok : r40_0 s = (quiB s : Int) := by rcases hs with rfl | rfl <;> rfl
theorem nought_ok (b : Bool) : p85 s b = true ∧ r85_0 s b = (sgB s b : Int) := by
  rcases hs with rfl | rfl <;> cases b <;> decide
theorem infinity_ok (b : Bool) : p84 s b = true ∧ r84_0 s b = ((sgB s b + infB s : Nat) : Int) := by
  rcases hs with rfl | rfl <;> cases b <;> decide
theorem greatest_ok (b : Bool) : p119 s b = true ∧ r119_0 s b = ((sgB s b + infB s - 1 : Nat) : Int) := by
  rcases hs with rfl | rfl <;> cases b <;> decide
include ha
theorem fM_lt : fM s a < 2 * oneN s := by
  have := fr_lt hs ha
  unfold fM; split <;> omega
theorem of_ok : p76 s (a : Int) = true ∧ r76_0 s (a : Int) = sgN s a ∧ r76_1 s (a : Int) = fE s a ∧ r76_2 s (a : Int) = big (fM s a) := by
  obtain ⟨h0, h1, h2, h3⟩ := parts_ok hs ha
  have h6 := fr_lt hs ha
  have h7 := ex_le hs ha
  have hM := fM_lt hs ha
  have ho : oneN s ≤ 4503599627370496 := by rcases hs with rfl | rfl <;> decide
  have hM2 : fM s a < 18446744073709551616 := by omega
  have hm : (bif decide ((exf s a : Int) > 0) then ilor .u64 (frf s a : Int) (ishl .u64 1 (r89_0 s)) else (frf s a : Int)) = (fM s a : Int) := by
    unfold fM
    by_cases h : 0 < exf s a
    · rw [if_pos h, decide_eq_true (by omega), cond_true]
      have e : ishl .u64 1 (r89_0 s) = ((1 * 2 ^ frN s : Nat) : Int) := by rcases hs with rfl | rfl <;> decide
      have e2 : 1 * 2 ^ frN s = oneN s := by rcases hs with rfl | rfl <;> decide
      have e3 : 2 ^ frN s = oneN s := by rw [← e2, Nat.one_mul]
      rw [e, lor_nn (by omega) (by rw [e2]; omega), or_high (by omega), e2]
    · rw [if_neg h, decide_eq_false (by omega), cond_false]
  obtain ⟨o1, o2⟩ := ofInt_ok (n := fM s a) hM2
  refine ⟨?_, ?_, ?_, ?_⟩
  · simp only [p76, h0, h2, h3, hm, o1]
    have e1 : decide (r89_0 s ≥ 0) = true := by rcases hs with rfl | rfl <;> decide
    have e2 : decide (IntKind.wrap .i64 (r89_1 s - 1) ≥ 0) = true := by rcases hs with rfl | rfl <;> decide
    rw [e1, e2]; simp [ow_t]
  · simp only [r76_0, h1]
  · simp only [r76_1, h2]
    unfold fE
    have e1 : IntKind.wrap .i64 (ishl .i64 1 (IntKind.wrap .i64 (r89_1 s - 1)) - 1) = (biN s : Int) := by rcases hs with rfl | rfl <;> decide
    have e2 : (biN s : Int) ≤ 1023 ∧ (frN s : Int) ≤ 52 ∧ emaxN s ≤ 2047 := by rcases hs with rfl | rfl <;> decide
    rw [e1, (shape_ok hs).1]
    by_cases h : 0 < exf s a
    · rw [if_pos h, decide_eq_true (by omega), cond_true, wrap_i64_of (n := (exf s a : Int) - biN s) (by omega) (by omega), wrap_i64_of (by omega) (by omega)]
    · rw [if_neg h, decide_eq_false (by omega), cond_false, wrap_i64_of (n := (1 : Int) - biN s) (by omega) (by omega), wrap_i64_of (by omega) (by omega)]
  · simp only [r76_2, h2, h3, hm, o2]
end
end Go.Proofs.Ytacciadcmiiimaa

namespace Go.Proofs.Ytacciadcmiiimaa
open Go Go.Sx Go.Rnd
set_option maxRecDepth 100000
set_option maxHeartbeats 1000000

theorem up_is (rm : Int) (minus odd half rest : Bool) : r126_0 rm minus odd half rest = upB rm minus odd half rest := by
  simp only [r126_0, upB, ibeq]
  by_cases h0 : rm = 0
  · subst h0; rfl
  · by_cases h2 : rm = 2
    · subst h2; rfl
    · by_cases h3 : rm = 3
      · subst h3; rfl
      · by_cases h4 : rm = 4
        · subst h4; rfl
        · simp [h0, h2, h3, h4]
theorem ib1 (k : Nat) : (((k : Nat) : Int) == 1) = (k == 1) := by
  rw [Bool.eq_iff_iff]
  simp only [beq_iff_eq]
  exact ⟨fun h => Int.ofNat.inj h, fun h => congrArg Int.ofNat h⟩
theorem cutN_le {rm : Int} {minus : Bool} {M : Nat} {b : Int} {more : Bool} {k : Nat} (h : (blen M : Int) - b ≤ k) : (cutN rm minus M b more).1 ≤ 2 ^ k := by
  have hM := blen_self (n := M)
  unfold cutN
  by_cases hb : b ≤ 0
  · rw [if_pos hb]
    show M * 2 ^ (-b).toNat ≤ 2 ^ k
    have h1 : M * 2 ^ (-b).toNat ≤ 2 ^ blen M * 2 ^ (-b).toNat := Nat.mul_le_mul_right _ (Nat.le_of_lt hM)
    rw [← Nat.pow_add] at h1
    exact Nat.le_trans h1 (Nat.pow_le_pow_right (by decide) (by omega))
  · rw [if_neg hb]
    unfold cutP
    have h1 : M / 2 ^ b.toNat < 2 ^ k := by
      rw [Nat.div_lt_iff_lt_mul (Nat.two_pow_pos _), ← Nat.pow_add]
      exact Nat.lt_of_lt_of_le hM (Nat.pow_le_pow_right (by decide) (by omega))
    show M / 2 ^ b.toNat + _ ≤ 2 ^ k
    split <;> omega
theorem blen_of_le {n k : Nat} (h : n ≤ 2 ^ k) : blen n ≤ k + 1 := blen_le.2 (Nat.lt_of_le_of_lt h (by rw [Nat.pow_succ]; have := Nat.two_pow_pos k; omega))

section
variable {rm : Int} {minus : Bool} {M : Nat} {b : Int} {more : Bool} (hM : blen M ≤ 1000000) (hb : -1000000 ≤ b) (hb2 : b ≤ 1000000)
include hM hb hb2
theorem rcut_ok : p118 rm minus (big M) b more = true ∧ r118_0 (big M) b more = (cutN rm minus M b more).2 ∧ r118_1 rm minus (big M) b more = big (cutN rm minus M b more).1 := by
  by_cases h : b ≤ 0
  · have e0 : IntKind.wrap .i64 (0 - b) = (((-b).toNat : Nat) : Int) := by rw [wrap_i64_of (by omega) (by omega)]; omega
    obtain ⟨u1, u2⟩ := up_ok (a := M) (n := (-b).toNat) (dlen_blen (by omega)) (by omega)
    unfold cutN
    rw [if_pos h]
    refine ⟨?_, ?_, ?_⟩
    · simp only [p118, decide_eq_true h, e0, u1]
      simp [ow]
    · simp only [r118_0, decide_eq_true h]; rfl
    · simp only [r118_1, decide_eq_true h, e0, u2]; rfl
  · obtain ⟨n, rfl⟩ : ∃ n : Nat, b = (n : Int) := ⟨b.toNat, by omega⟩
    have e1 : IntKind.wrap .i64 ((n : Int) - 1) = ((n - 1 : Nat) : Int) := by rw [wrap_i64_of (by omega) (by omega)]; omega
    obtain ⟨d1, d2, d3⟩ := down_ok (a := M) (n := n) (dlen_blen (by omega)) (by omega)
    obtain ⟨c1, c2, _⟩ := down_ok (a := M) (n := n - 1) (dlen_blen (by omega)) (by omega)
    obtain ⟨b1, b2⟩ := bit_ok (a := M) (n := n - 1) (by omega)
    have b3 := bit_ok (a := M / 2 ^ n) (n := 0) (by omega)
    rw [Nat.pow_zero, Nat.div_one] at b3
    obtain ⟨b3, b4⟩ := b3
    have b3 : p113 (big (M / 2 ^ n)) 0 = true := b3
    have b4 : r113_0 (big (M / 2 ^ n)) 0 = ((M / 2 ^ n % 2 : Nat) : Int) := b4
    obtain ⟨i1, i2⟩ := inc_ok (a := M / 2 ^ n) (Nat.le_trans (dlen_mono (Nat.div_le_self _ _)) (dlen_blen (by omega)))
    have hr : (!(M % 2 ^ (n - 1) == 0) || more) = (M % 2 ^ (n - 1) != 0 || more) := rfl
    unfold cutN cutP
    rw [if_neg h, Int.toNat_natCast]
    refine ⟨?_, ?_, ?_⟩
    · simp only [p118, decide_eq_false h, e1, d1, d3, c1, b1, b3, i1, ow_t]
      simp [ow]
    · simp only [r118_0, decide_eq_false h, d2]; rfl
    · simp only [r118_1, decide_eq_false h, e1, d3, c2, b2, b4, i2, up_is, ib1, hr, Bool.not_false, cond_true]
      cases upB rm minus (M / 2 ^ n % 2 == 1) (M / 2 ^ (n - 1) % 2 == 1) (M % 2 ^ (n - 1) != 0 || more) <;> rfl
end

section
variable {s : Int} (hs : s = 4 ∨ s = 8) {rm : Int} {minus : Bool} {M : Nat} {E : Int} {more : Bool} (hM : blen M ≤ 100000) (hE : -100000 ≤ E) (hE2 : E ≤ 100000)
include hs
theorem size_facts : frN s ≤ 52 ∧ 23 ≤ frN s ∧ biN s ≤ 1023 ∧ 127 ≤ biN s ∧ 2 ^ frN s = oneN s ∧ infB s = (2 * biN s + 1) * oneN s ∧ topN s = (2 * biN s + 2) * oneN s ∧ oneN s ≤ 4503599627370496 ∧ 8388608 ≤ oneN s ∧ topN s ≤ 9223372036854775808 := by
  rcases hs with rfl | rfl <;> decide
include hM hE hE2
theorem rround_ok : p81 s rm minus (big M) E more = true ∧ r81_0 s rm minus (big M) E more = ((sgB s minus + (rnd (frN s) (biN s) rm minus M E more).1 : Nat) : Int) ∧ r81_1 s rm minus (big M) E more = ((rnd (frN s) (biN s) rm minus M E more).2 : Int) := by
  obtain ⟨f1, f2, f3, f4, f5, f6, f7, f8, f9, f10⟩ := size_facts hs
  have hsh := shape_ok hs
  have kb : IntKind.wrap .i64 (ishl .i64 1 (IntKind.wrap .i64 (r89_1 s - 1)) - 1) = (biN s : Int) := by rcases hs with rfl | rfl <;> decide
  have k2 : IntKind.wrap .i64 (IntKind.wrap .i64 (2 - ishl .i64 1 (IntKind.wrap .i64 (r89_1 s - 1))) - r89_0 s) = least (frN s) (biN s) := by rcases hs with rfl | rfl <;> decide
  have k9 : decide (IntKind.wrap .i64 (r89_1 s - 1) ≥ 0) = true := by rcases hs with rfl | rfl <;> decide
  have k10 : decide (r89_0 s ≥ 0) = true := by rcases hs with rfl | rfl <;> decide
  have k11 : ishl .u64 1 (r89_0 s) = (oneN s : Int) := by rcases hs with rfl | rfl <;> decide
  have k7 : IntKind.wrap .i64 (r89_0 s + 1) = ((frN s + 1 : Nat) : Int) := by rcases hs with rfl | rfl <;> decide
  rw [hsh.1] at k2 k10 k11 k7
  have k12 : ∀ x : Nat, x * oneN s < 18446744073709551616 → ishl .u64 (x : Int) (frN s : Int) = ((x * oneN s : Nat) : Int) := fun x hx => by rw [shl_lt (by rw [f5]; exact hx), f5]
  obtain ⟨lm1, lm2⟩ := len_ok (a := M) (dlen_blen (by omega))
  unfold rnd
  generalize hf : frN s = f at *
  generalize hbb : biN s = b at *
  generalize htop : (blen M : Int) + E = top at *
  have k3 : IntKind.wrap .i64 ((blen M : Int) + E) = top := by rw [htop]; exact wrap_i64_of (by omega) (by omega)
  have hL : least f b = 1 - b - f := rfl
  generalize least f b = lst at *
  have k4 : IntKind.wrap .i64 (IntKind.wrap .i64 (top - f) - 1) = top - f - 1 := by rw [wrap_i64_of (n := top - f) (by omega) (by omega), wrap_i64_of (by omega) (by omega)]
  have k5 : (bif decide (lst > top - f - 1) then lst else top - f - 1) = lastOf f b top := by
    unfold lastOf
    rw [show least f b = lst by rw [hL]; rfl]
    by_cases h : top - f - 1 < lst
    · rw [if_pos h, decide_eq_true h]; rfl
    · rw [if_neg h, decide_eq_false h]; rfl
  have hlast : lst ≤ lastOf f b top ∧ top - f - 1 ≤ lastOf f b top ∧ (lastOf f b top = lst ∨ lastOf f b top = top - f - 1) := by
    unfold lastOf
    rw [show least f b = lst by rw [hL]; rfl]
    split <;> omega
  generalize lastOf f b top = last at *
  have k6 : IntKind.wrap .i64 (last - E) = last - E := wrap_i64_of (by omega) (by omega)
  obtain ⟨c1, c2, c3⟩ := rcut_ok (rm := rm) (minus := minus) (M := M) (b := last - E) (more := more) (by omega) (by omega) (by omega)
  have k13 : IntKind.wrap .i64 (top - f - 1 - E) = top - f - 1 - E := wrap_i64_of (by omega) (by omega)
  obtain ⟨t1, t2, t3⟩ := rcut_ok (rm := rm) (minus := minus) (M := M) (b := top - f - 1 - E) (more := more) (by omega) (by omega) (by omega)
  have hC : (cutN rm minus M (last - E) more).1 ≤ 2 ^ (f + 1) := cutN_le (by omega)
  have hT : (cutN rm minus M (top - f - 1 - E) more).1 ≤ 2 ^ (f + 1) := cutN_le (by omega)
  generalize cutN rm minus M (top - f - 1 - E) more = T at *
  generalize cutN rm minus M (last - E) more = C at *
  obtain ⟨T1, T2⟩ := T
  obtain ⟨C1, C2⟩ := C
  simp only at *
  have hC2 := blen_of_le hC
  have hT2 := blen_of_le hT
  obtain ⟨lc1, lc2⟩ := len_ok (a := C1) (dlen_blen (by omega))
  obtain ⟨lt1, lt2⟩ := len_ok (a := T1) (dlen_blen (by omega))
  obtain ⟨d1, _, d3⟩ := down_ok (a := C1) (n := 1) (dlen_blen (by omega)) (by decide)
  have d1 : p112 (big C1) 1 = true := d1
  have d3 : r112_1 (big C1) 1 = big (C1 / 2) := d3
  have q1 : decide ((blen C1 : Int) > ((f + 1 : Nat) : Int)) = decide (blen C1 > f + 1) := by rw [decide_eq_decide]; omega
  have q2 : (bif decide (blen C1 > f + 1) then big (C1 / 2) else big C1) = big (if blen C1 > f + 1 then C1 / 2 else C1) := by
    by_cases h : blen C1 > f + 1
    · rw [if_pos h, decide_eq_true h]; rfl
    · rw [if_neg h, decide_eq_false h]; rfl
  have q3 : (bif decide (blen C1 > f + 1) then IntKind.wrap .i64 (last + 1) else last) = (if blen C1 > f + 1 then last + 1 else last) := by
    by_cases h : blen C1 > f + 1
    · rw [if_pos h, decide_eq_true h, cond_true, wrap_i64_of (by omega) (by omega)]
    · rw [if_neg h, decide_eq_false h]; rfl
  have hm : (if blen C1 > f + 1 then C1 / 2 else C1) < 2 ^ (f + 1) := by
    split
    · have := Nat.two_pow_pos f
      rw [Nat.pow_succ] at hC ⊢; omega
    · rename_i h; exact blen_le.1 (by omega)
  have hla : (if blen C1 > f + 1 then last + 1 else last) ≥ lst ∧ (if blen C1 > f + 1 then last + 1 else last) ≤ last + 1 := by split <;> omega
  have hkeep : told f b rm minus last (C1, C2) (tinyOf f b top T1) = told f b rm minus last (C1, C2) (tinyOf f b top T1) := rfl
  unfold told at hkeep ⊢
  clear hkeep
  simp only
  generalize (if blen C1 > f + 1 then C1 / 2 else C1) = m at *
  generalize (if blen C1 > f + 1 then last + 1 else last) = la at *
  obtain ⟨m1, m2⟩ := len_ok (a := m) (dlen_blen (by have := blen_le.2 hm; omega))
  obtain ⟨w1, w2⟩ := low_ok (a := m)
  have hone : 2 ^ f = oneN s := f5
  have hm2 : m < 2 * oneN s := by rw [Nat.pow_succ, hone] at hm; omega
  rw [Nat.mod_eq_of_lt (by omega)] at w2
  have q4 : IntKind.wrap .i64 (la + f) = la + f := wrap_i64_of (by omega) (by omega)
  have q5 : (decide (la + f > b) && decide (blen m = f + 1)) = decide (la + f > b ∧ blen m = f + 1) := by
    rw [Bool.eq_iff_iff]; simp only [Bool.and_eq_true, dec]
  have q6 : (((rm == 1) || ((rm == 2) && !minus)) || ((rm == 3) && minus)) = decide (rm = 1 ∨ (rm = 2 ∧ minus = false) ∨ (rm = 3 ∧ minus = true)) := by
    rw [Bool.eq_iff_iff]; simp only [Bool.or_eq_true, Bool.and_eq_true, beq_iff_eq, dec, Bool.not_eq_true']
    exact or_assoc
  have q7 : ((blen m : Int) == ((f + 1 : Nat) : Int)) = decide (blen m = f + 1) := by
    rw [Bool.eq_iff_iff]; simp only [beq_iff_eq, dec]; omega
  have hlen : blen m = f + 1 → oneN s ≤ m := fun h => by rw [← hone]; exact lt_blen.1 (by omega)
  have q8 : IntKind.wrap .i64 (IntKind.wrap .i64 (la - lst) + 1) = la - lst + 1 := by rw [wrap_i64_of (n := la - lst) (by omega) (by omega), wrap_i64_of (by omega) (by omega)]
  have hsB : sgB s minus = (if minus then 1 else 0) * topN s := by unfold sgB; cases minus <;> simp
  have htp : topN s = 2 ^ (if s = 4 then 31 else 63) := by rcases hs with rfl | rfl <;> decide
  have hor : ∀ x : Nat, x < topN s → ilor .u64 (sgB s minus : Int) (x : Int) = ((sgB s minus + x : Nat) : Int) := fun x hx => by
    have h1 : sgB s minus ≤ topN s := by rw [hsB]; cases minus <;> simp
    rw [lor_nn (by omega) (by omega), hsB, Nat.or_comm, htp, or_high (by rw [← htp]; exact hx), Nat.add_comm]
  have q9 : (bif decide (blen m = f + 1) then IntKind.wrap .u64 (IntKind.wrap .u64 ((m : Int) - (oneN s : Int)) + ishl .u64 (IntKind.wrap .u64 (la - lst + 1)) (f : Int)) else (m : Int)) =
      ((if blen m = f + 1 then m - 2 ^ f + (la - lst + 1).toNat * 2 ^ f else m : Nat) : Int) ∨ (la + f > b ∧ blen m = f + 1) := by
    by_cases h : blen m = f + 1
    · by_cases h2 : la + f > b
      · exact .inr ⟨h2, h⟩
      · left
        have h3 := hlen h
        have h4 : (la - lst + 1).toNat ≤ 2 * b := by omega
        have h5 : (la - lst + 1).toNat * oneN s ≤ 2 * b * oneN s := Nat.mul_le_mul_right _ h4
        have h6 : (2 * b + 2) * oneN s = 2 * b * oneN s + 2 * oneN s := Nat.add_mul _ _ _
        rw [decide_eq_true h, if_pos h, cond_true, hone, wrap_u64_of (n := la - lst + 1) (by omega) (by omega), show la - lst + 1 = (((la - lst + 1).toNat : Nat) : Int) by omega, k12 _ (by omega), Int.toNat_natCast,
          show (m : Int) - (oneN s : Int) = ((m - oneN s : Nat) : Int) by omega, wr64 (n := m - oneN s) (by omega), ← Int.natCast_add, wr64 (by omega)]
    · left; rw [decide_eq_false h, if_neg h]; rfl
  have hbit : ¬ (la + f > b ∧ blen m = f + 1) → (if blen m = f + 1 then m - 2 ^ f + (la - lst + 1).toNat * 2 ^ f else m) < topN s := fun hn => by
    have h6 : (2 * b + 2) * oneN s = 2 * b * oneN s + 2 * oneN s := Nat.add_mul _ _ _
    split
    · rename_i h
      have h3 := hlen h
      have h4 : (la - lst + 1).toNat ≤ 2 * b := by omega
      have h5 : (la - lst + 1).toNat * oneN s ≤ 2 * b * oneN s := Nat.mul_le_mul_right _ h4
      rw [hone]; omega
    · have : 2 * oneN s ≤ (2 * b + 2) * oneN s := Nat.mul_le_mul_right _ (by omega)
      omega
  have hlb : least f b = lst := hL.symm ▸ rfl
  rw [hlb]
  have g1 := (greatest_ok hs minus)
  have g2 := (infinity_ok hs minus)
  have g3 := (nought_ok hs minus)
  refine ⟨?_, ?_, ?_⟩
  · simp only [p81, hsh.1, k9, k10, lm1, lm2, k3, k4, k2, k5, k6, c1, c2, c3, lc1, lc2, k7, q1, d1, d3, q2, k13, t1, t3, lt1, m1, w1, g1.1, g2.1, g3.1, ow_t]
    rfl
  · simp only [r81_0, hsh.1, lm2, k3, k4, k2, k5, k6, c3, lc2, k7, q1, d3, q2, q3, kb, q4, m2, q5, q6, q7, g1.2, g2.2, g3.2, w2, k11, q8]
    by_cases ho : la + f > b ∧ blen m = f + 1
    · rw [if_pos ho, decide_eq_true ho]
      dsimp only
      simp only [Bool.not_true, cond_false]
      have : infB s = (2 * b + 1) * 2 ^ f := by rw [hone]; exact f6
      rw [this]
      have : 0 < (2 * b + 1) * 2 ^ f := Nat.mul_pos (by omega) (Nat.two_pow_pos f)
      by_cases h : rm = 1 ∨ (rm = 2 ∧ minus = false) ∨ (rm = 3 ∧ minus = true)
      · rw [decide_eq_true h, if_pos h]
        simp only [Bool.not_true, cond_false]
        congr 1; omega
      · rw [decide_eq_false h, if_neg h]; rfl
    · rw [if_neg ho, decide_eq_false ho]
      dsimp only
      simp only [Bool.not_false, cond_true]
      rw [q9.resolve_right ho, hor _ (hbit ho)]
  · simp only [r81_1, hsh.1, lm2, k3, k4, k2, k5, k6, c2, c3, lc2, k7, q1, d3, q2, q3, k13, t3, lt2, kb, q4, m2, q7, q5]
    by_cases ho : la + f > b ∧ blen m = f + 1
    · rw [if_pos ho, decide_eq_true ho]; rfl
    · rw [if_neg ho, decide_eq_false ho]
      dsimp only
      simp only [Bool.not_false, cond_true]
      have z1 : IntKind.wrap .i64 (IntKind.wrap .i64 (IntKind.wrap .i64 ((blen T1 : Int) + top) - f) - 1) = (blen T1 : Int) + top - f - 1 := by
        rw [wrap_i64_of (n := (blen T1 : Int) + top) (by omega) (by omega), wrap_i64_of (n := (blen T1 : Int) + top - f) (by omega) (by omega), wrap_i64_of (by omega) (by omega)]
      have z2 : IntKind.wrap .i64 (IntKind.wrap .i64 (lst + f) + 1) = lst + f + 1 := by rw [wrap_i64_of (n := lst + f) (by omega) (by omega), wrap_i64_of (by omega) (by omega)]
      have z3 : ilor .i64 1 2 = 3 := by decide
      have hc : tinyOf f b top T1 = (decide (top - f - 1 < lst) && decide ((blen T1 : Int) + top - f - 1 < lst + f + 1)) := by unfold tinyOf; rw [hlb]
      rw [hc, z1, z2]
      cases C2 <;> cases decide (top - f - 1 < lst) <;> cases decide ((blen T1 : Int) + top - f - 1 < lst + f + 1) <;> first | rfl | exact z3
end
end Go.Proofs.Ytacciadcmiiimaa

namespace Go.Proofs.Ytacciadcmiiimaa
open Go Go.Sx Go.Rnd
set_option maxRecDepth 100000
set_option maxHeartbeats 1000000

def tabL : List Int := [0, 1, 2, 2, 3, 3, 3, 3, 4, 4, 4, 4, 4, 4, 4, 4, 5, 5, 5, 5, 5, 5, 5, 5, 5, 5, 5, 5, 5, 5, 5, 5, 6, 6, 6, 6, 6, 6, 6, 6, 6, 6, 6, 6, 6, 6, 6, 6, 6, 6, 6, 6, 6, 6, 6, 6, 6, 6, 6, 6, 6, 6, 6, 6, 7, 7, 7, 7, 7, 7, 7, 7, 7, 7, 7, 7, 7, 7, 7, 7, 7, 7, 7, 7, 7, 7, 7, 7, 7, 7, 7, 7, 7, 7, 7, 7, 7, 7, 7, 7, 7, 7, 7, 7, 7, 7, 7, 7, 7, 7, 7, 7, 7, 7, 7, 7, 7, 7, 7, 7, 7, 7, 7, 7, 7, 7, 7, 7, 8, 8, 8, 8, 8, 8, 8, 8, 8, 8, 8, 8, 8, 8, 8, 8, 8, 8, 8, 8, 8, 8, 8, 8, 8, 8, 8, 8, 8, 8, 8, 8, 8, 8, 8, 8, 8, 8, 8, 8, 8, 8, 8, 8, 8, 8, 8, 8, 8, 8, 8, 8, 8, 8, 8, 8, 8, 8, 8, 8, 8, 8, 8, 8, 8, 8, 8, 8, 8, 8, 8, 8, 8, 8, 8, 8, 8, 8, 8, 8, 8, 8, 8, 8, 8, 8, 8, 8, 8, 8, 8, 8, 8, 8, 8, 8, 8, 8, 8, 8, 8, 8, 8, 8, 8, 8, 8, 8, 8, 8, 8, 8, 8, 8, 8, 8, 8, 8, 8, 8, 8, 8, 8, 8, 8, 8, 8, 8]
def lenFin (y acc : Int) : Int := IntKind.wrap .i64 (acc + IntKind.wrap .i64 (tabL.getD (Int.toNat (IntKind.wrap .u8 y)) 0))
theorem r69_eq (x : Int) : r69_0 x = lenFin (bif decide ((bif decide ((bif decide (x ≥ 4294967296) then ishr .u64 x 32 else x) ≥ 65536) then ishr .u64 (bif decide (x ≥ 4294967296) then ishr .u64 x 32 else x) 16 else (bif decide (x ≥ 4294967296) then ishr .u64 x 32 else x)) ≥ 256) then ishr .u64 (bif decide ((bif decide (x ≥ 4294967296) then ishr .u64 x 32 else x) ≥ 65536) then ishr .u64 (bif decide (x ≥ 4294967296) then ishr .u64 x 32 else x) 16 else (bif decide (x ≥ 4294967296) then ishr .u64 x 32 else x)) 8 else (bif decide ((bif decide (x ≥ 4294967296) then ishr .u64 x 32 else x) ≥ 65536) then ishr .u64 (bif decide (x ≥ 4294967296) then ishr .u64 x 32 else x) 16 else (bif decide (x ≥ 4294967296) then ishr .u64 x 32 else x)))
    (bif decide ((bif decide ((bif decide (x ≥ 4294967296) then ishr .u64 x 32 else x) ≥ 65536) then ishr .u64 (bif decide (x ≥ 4294967296) then ishr .u64 x 32 else x) 16 else (bif decide (x ≥ 4294967296) then ishr .u64 x 32 else x)) ≥ 256) then IntKind.wrap .i64 ((bif decide ((bif decide (x ≥ 4294967296) then ishr .u64 x 32 else x) ≥ 65536) then IntKind.wrap .i64 ((bif decide (x ≥ 4294967296) then 32 else 0) + 16) else (bif decide (x ≥ 4294967296) then 32 else 0)) + 8) else (bif decide ((bif decide (x ≥ 4294967296) then ishr .u64 x 32 else x) ≥ 65536) then IntKind.wrap .i64 ((bif decide (x ≥ 4294967296) then 32 else 0) + 16) else (bif decide (x ≥ 4294967296) then 32 else 0))) := rfl

theorem tabL_at : ∀ n : Fin 256, (n.val == 0) || ((List.range 8).any fun j => tabL.getD n.val 0 == (j : Int) + 1 && decide (2 ^ j ≤ n.val) && decide (n.val < 2 * 2 ^ j)) = true := by decide +kernel
theorem lenFin_ok {y : Int} (h0 : 0 < y) (h1 : y < 256) {acc : Int} (ha : 0 ≤ acc) (hb : acc ≤ 56) : ∃ j : Nat, j < 8 ∧ lenFin y acc = acc + j + 1 ∧ ((2 ^ j : Nat) : Int) ≤ y ∧ y < 2 * ((2 ^ j : Nat) : Int) := by
  obtain ⟨n, rfl⟩ := int_nat (a := y) (by omega)
  have := tabL_at ⟨n, by omega⟩
  simp only [Bool.or_eq_true, beq_iff_eq, List.any_eq_true, List.mem_range, Bool.and_eq_true, decide_eq_true_eq] at this
  rcases this with h | ⟨j, hj, ⟨h2, h3⟩, h4⟩
  · omega
  · refine ⟨j, hj, ?_, by exact_mod_cast h3, by exact_mod_cast h4⟩
    unfold lenFin
    rw [show IntKind.wrap .u8 (n : Int) = (n : Int) from by rw [wrap_u8]; omega, Int.toNat_natCast, h2, wrap_i64_of (n := (j : Int) + 1) (by omega) (by omega), wrap_i64_of (by omega) (by omega)]
    omega
theorem shr_32 (x : Int) : ishr .u64 x 32 = x / 4294967296 := shr_of 32 (by decide) (by decide)
theorem shr16 (x : Int) : ishr .u64 x 16 = x / 65536 := shr_of 16 (by decide) (by decide)
theorem shr8 (x : Int) : ishr .u64 x 8 = x / 256 := shr_of 8 (by decide) (by decide)
theorem len_fin {x y : Int} {acc : Nat} (hx : y = x / ((2 ^ acc : Nat) : Int)) (h0 : 0 < y) (h1 : y < 256) (hb : acc ≤ 56) : ∃ k : Nat, k < 64 ∧ lenFin y acc = (k : Int) + 1 ∧ ((2 ^ k : Nat) : Int) ≤ x ∧ x < 2 * ((2 ^ k : Nat) : Int) := by
  obtain ⟨j, hj, e, h2, h3⟩ := lenFin_ok h0 h1 (acc := acc) (by omega) (by omega)
  have hp : 0 < 2 ^ acc := Nat.two_pow_pos acc
  refine ⟨acc + j, by omega, by rw [e]; omega, ?_, ?_⟩
  · rw [Nat.pow_add, Nat.mul_comm, Int.natCast_mul]
    rw [hx] at h2
    exact (Int.le_ediv_iff_mul_le (by omega)).1 h2
  · rw [Nat.pow_add, Int.natCast_mul]
    rw [hx] at h3
    have := (Int.ediv_lt_iff_lt_mul (by omega)).1 h3
    rw [Int.mul_comm ((2 ^ acc : Nat) : Int), ← Int.mul_assoc]
    exact this
theorem bitlen_ok {x : Int} (h0 : 0 < x) (h1 : x < 18446744073709551616) : ∃ k : Nat, k < 64 ∧ r69_0 x = (k : Int) + 1 ∧ ((2 ^ k : Nat) : Int) ≤ x ∧ x < 2 * ((2 ^ k : Nat) : Int) := by
  rw [r69_eq]
  simp only [shr_32, shr16, shr8]
  by_cases a : x ≥ 4294967296 <;> simp only [a, decide_true, decide_false, cond_true, cond_false]
  · by_cases b : x / 4294967296 ≥ 65536 <;> simp only [b, decide_true, decide_false, cond_true, cond_false]
    · by_cases c : x / 4294967296 / 65536 ≥ 256 <;> simp only [c, decide_true, decide_false, cond_true, cond_false]
      · exact len_fin (acc := 56) (by simp only [Nat.reducePow]; omega) (by omega) (by omega) (by decide)
      · exact len_fin (acc := 48) (by simp only [Nat.reducePow]; omega) (by omega) (by omega) (by decide)
    · by_cases c : x / 4294967296 ≥ 256 <;> simp only [c, decide_true, decide_false, cond_true, cond_false]
      · exact len_fin (acc := 40) (by simp only [Nat.reducePow]; omega) (by omega) (by omega) (by decide)
      · exact len_fin (acc := 32) (by simp only [Nat.reducePow]; omega) (by omega) (by omega) (by decide)
  · by_cases b : x ≥ 65536 <;> simp only [b, decide_true, decide_false, cond_true, cond_false]
    · by_cases c : x / 65536 ≥ 256 <;> simp only [c, decide_true, decide_false, cond_true, cond_false]
      · exact len_fin (acc := 24) (by simp only [Nat.reducePow]; omega) (by omega) (by omega) (by decide)
      · exact len_fin (acc := 16) (by simp only [Nat.reducePow]; omega) (by omega) (by omega) (by decide)
    · by_cases c : x ≥ 256 <;> simp only [c, decide_true, decide_false, cond_true, cond_false]
      · exact len_fin (acc := 8) (by simp only [Nat.reducePow]; omega) (by omega) (by omega) (by decide)
      · exact len_fin (acc := 0) (by simp only [Nat.reducePow]; omega) (by omega) (by omega) (by decide)

theorem blen64 {x : Nat} (hx : x < 18446744073709551616) : r69_0 (x : Int) = (blen x : Int) := by
  rcases Nat.eq_zero_or_pos x with h | h
  · subst h; decide +kernel
  · obtain ⟨k, hk, e, h2, h3⟩ := bitlen_ok (x := (x : Int)) (by omega) (by omega)
    rw [e, blen_eq (k := k) (by omega) (by rw [Nat.pow_succ]; omega)]; rfl
theorem lz64 {x : Nat} (hx : x < 18446744073709551616) : r115_0 (x : Int) = ((64 - blen x : Nat) : Int) := by
  have h := blen64 hx
  have h2 : blen x ≤ 64 := blen_le.2 hx
  show IntKind.wrap .i64 (64 - r69_0 (x : Int)) = _
  rw [h, wrap_i64_of (by omega) (by omega)]; omega
theorem p69_ok (x : Int) : p69 x = true := by
  have a : ∀ y : Int, decide (IntKind.wrap .u8 y ≥ 0) = true := fun y => decide_eq_true (by rw [wrap_u8]; omega)
  have b : ∀ y : Int, decide (IntKind.wrap .u8 y < 256) = true := fun y => decide_eq_true (by rw [wrap_u8]; omega)
  simp only [p69, a, b, ow_t, List.all_cons, List.all_nil, id, Bool.and_true]
theorem p115_ok (x : Int) : p115 x = true := by simp only [p115, p69_ok, ow_t, List.all_cons, List.all_nil, id, Bool.and_true]

noncomputable def dropOf (f b e : Int) : Int := bif decide (IntKind.wrap .i64 (e + IntKind.wrap .i64 (63 - f)) < IntKind.wrap .i64 (IntKind.wrap .i64 (1 - b) - f)) then IntKind.wrap .i64 (IntKind.wrap .i64 (IntKind.wrap .i64 (1 - b) - f) - e) else IntKind.wrap .i64 (63 - f)
noncomputable def core0 (f b top rm : Int) (minus : Bool) (e q : Int) : Int :=
  let x20 := IntKind.wrap .i64 (IntKind.wrap .i64 (1 - b) - f)
  let x34 := dropOf f b e
  let x44 := q == ishl .u64 2 f
  let x47 := bif x44 then IntKind.wrap .i64 (x34 + 1) else x34
  let x48 := bif x44 then ishr .u64 q 1 else q
  let x56 := IntKind.wrap .i64 (IntKind.wrap .i64 (IntKind.wrap .i64 (e + x47) - x20) + 1)
  let x66 := ((rm == 1) || ((rm == 2) && !minus)) || ((rm == 3) && minus)
  bif !(decide (x48 < ishl .u64 1 f)) then
    (bif !(decide (x56 > IntKind.wrap .i64 (2 * b))) then r95_0 top minus (ilor .u64 (ishl .u64 (IntKind.wrap .u64 x56) f) (ilandNot .u64 x48 (ishl .u64 1 f)))
     else bif !x66 then r95_0 top minus (r96_0 f b) else r95_0 top minus (IntKind.wrap .u64 (r96_0 f b - 1)))
  else r95_0 top minus x48
noncomputable def core1 (f b e q24 q : Int) (ex : Bool) : Int :=
  let x20 := IntKind.wrap .i64 (IntKind.wrap .i64 (1 - b) - f)
  let x18 := IntKind.wrap .i64 (63 - f)
  let x22 := decide (IntKind.wrap .i64 (e + x18) < x20)
  let x32 := decide (IntKind.wrap .i64 (e + x18) < IntKind.wrap .i64 (x20 - 1)) || decide (q24 < ishl .u64 2 f)
  let x34 := dropOf f b e
  let x40 : Int := bif x22 && x32 then 3 else 1
  let x41 := bif !ex then x40 else 0
  let x44 := q == ishl .u64 2 f
  let x47 := bif x44 then IntKind.wrap .i64 (x34 + 1) else x34
  let x48 := bif x44 then ishr .u64 q 1 else q
  let x56 := IntKind.wrap .i64 (IntKind.wrap .i64 (IntKind.wrap .i64 (e + x47) - x20) + 1)
  bif !(decide (x48 < ishl .u64 1 f)) then (bif !(decide (x56 > IntKind.wrap .i64 (2 * b))) then x41 else 5) else x41

section
variable {s : Int} (hs : s = 4 ∨ s = 8)
include hs
theorem signed_ok (minus : Bool) {x : Nat} (hx : x < topN s) : r95_0 (topN s : Int) minus (x : Int) = ((sgB s minus + x : Nat) : Int) := by
  have htp : topN s = 2 ^ (if s = 4 then 31 else 63) := by rcases hs with rfl | rfl <;> decide
  obtain ⟨_, _, _, _, _, _, _, _, _, f10⟩ := size_facts hs
  simp only [r95_0]
  unfold sgB
  cases minus
  · simp
  · simp only [Bool.not_true, cond_false, if_true]
    rw [lor_nn (by omega) (by omega)]
    have : topN s = 1 * 2 ^ (if s = 4 then 31 else 63) := by rw [Nat.one_mul]; exact htp
    rw [this, or_high (by rw [← htp]; exact hx)]
    congr 1; omega
theorem inf96 : r96_0 (frN s : Int) (biN s : Int) = (infB s : Int) := by rcases hs with rfl | rfl <;> decide
theorem dropOf_ok {e : Int} (h1 : -100000 ≤ e) (h2 : e ≤ 100000) : dropOf (frN s) (biN s) e = lastOf (frN s) (biN s) (64 + e) - e ∧ 63 - frN s ≤ lastOf (frN s) (biN s) (64 + e) - e := by
  obtain ⟨f1, f2, f3, f4, _⟩ := size_facts hs
  have e1 : IntKind.wrap .i64 (63 - (frN s : Int)) = 63 - frN s := wrap_i64_of (by omega) (by omega)
  have e2 : IntKind.wrap .i64 (IntKind.wrap .i64 (1 - (biN s : Int)) - frN s) = least (frN s) (biN s) := by
    unfold least
    rw [wrap_i64_of (n := 1 - (biN s : Int)) (by omega) (by omega), wrap_i64_of (by omega) (by omega)]
  have hL : least (frN s) (biN s) = 1 - biN s - frN s := rfl
  unfold dropOf lastOf
  rw [e1, e2, wrap_i64_of (n := e + (63 - (frN s : Int))) (by omega) (by omega), wrap_i64_of (n := least (frN s) (biN s) - e) (by omega) (by omega)]
  by_cases h : 64 + e - frN s - 1 < least (frN s) (biN s)
  · rw [if_pos h, decide_eq_true (by omega)]
    exact ⟨rfl, by omega⟩
  · rw [if_neg h, decide_eq_false (by omega)]
    show 63 - (frN s : Int) = _ ∧ _
    omega
theorem core_ok {rm : Int} {minus : Bool} {m : Nat} {e : Int} (hm0 : 9223372036854775808 ≤ m) (hm : m < 18446744073709551616) (h1 : -100000 ≤ e) (h2 : e ≤ 100000) :
    core0 (frN s) (biN s) (topN s) rm minus e ((cutN rm minus m (dropOf (frN s) (biN s) e) false).1 : Int) = ((sgB s minus + (rnd (frN s) (biN s) rm minus m e false).1 : Nat) : Int) ∧
    core1 (frN s) (biN s) e ((cutN rm minus m (63 - frN s : Int) false).1 : Int) ((cutN rm minus m (dropOf (frN s) (biN s) e) false).1 : Int) (cutN rm minus m (dropOf (frN s) (biN s) e) false).2 = ((rnd (frN s) (biN s) rm minus m e false).2 : Int) := by
  obtain ⟨f1, f2, f3, f4, f5, f6, f7, f8, f9, f10⟩ := size_facts hs
  obtain ⟨d1, d2⟩ := dropOf_ok hs h1 h2
  have hbl : blen m = 64 := blen_eq (k := 63) hm0 hm
  have hsg : ∀ x : Nat, x < topN s → r95_0 (topN s : Int) minus (x : Int) = ((sgB s minus + x : Nat) : Int) := fun x hx => signed_ok hs minus hx
  have hin := inf96 hs
  have k1 : ishl .u64 1 (frN s : Int) = (oneN s : Int) := by rcases hs with rfl | rfl <;> decide
  have k2 : ishl .u64 2 (frN s : Int) = ((2 * oneN s : Nat) : Int) := by rcases hs with rfl | rfl <;> decide
  have kx : ∀ x : Nat, x * oneN s < 18446744073709551616 → ishl .u64 (x : Int) (frN s : Int) = ((x * oneN s : Nat) : Int) := fun x hx => by rw [shl_lt (by rw [f5]; exact hx), f5]
  have e1 : IntKind.wrap .i64 (63 - (frN s : Int)) = 63 - frN s := wrap_i64_of (by omega) (by omega)
  have e2 : IntKind.wrap .i64 (IntKind.wrap .i64 (1 - (biN s : Int)) - frN s) = least (frN s) (biN s) := by
    unfold least
    rw [wrap_i64_of (n := 1 - (biN s : Int)) (by omega) (by omega), wrap_i64_of (by omega) (by omega)]
  have e3 : IntKind.wrap .i64 (2 * (biN s : Int)) = 2 * biN s := wrap_i64_of (by omega) (by omega)
  have kn : ∀ q : Nat, oneN s ≤ q → q < 2 * oneN s → ilandNot .u64 (q : Int) (oneN s : Int) = ((q - oneN s : Nat) : Int) := fun q h1 h2 => by
    have := landNot_bit (a := (q : Int)) (m := (oneN s : Int)) (by omega) (by omega) (frN s) (by omega) (by rw [f5])
    rw [this]
    have : (q : Int) / oneN s = 1 := by
      have : q / oneN s = 1 := Nat.div_eq_of_lt_le (by omega) (by omega)
      omega
    rw [this]; omega
  rw [d1]
  unfold rnd
  rw [hbl]
  have hC : (cutN rm minus m (lastOf (frN s) (biN s) (64 + e) - e) false).1 ≤ 2 ^ (frN s + 1) := cutN_le (by rw [hbl]; omega)
  have hT : (cutN rm minus m (63 - frN s : Int) false).1 ≤ 2 ^ (frN s + 1) := cutN_le (by rw [hbl]; omega)
  have hT0 : 2 ^ frN s ≤ (cutN rm minus m (63 - frN s : Int) false).1 := by
    unfold cutN cutP
    rw [if_neg (by omega)]
    show 2 ^ frN s ≤ m / 2 ^ (63 - (frN s : Int)).toNat + _
    have : 2 ^ frN s ≤ m / 2 ^ (63 - (frN s : Int)).toNat := by
      rw [Nat.le_div_iff_mul_le (Nat.two_pow_pos _), ← Nat.pow_add, show frN s + (63 - (frN s : Int)).toNat = 63 by omega]
      exact hm0
    omega
  have et : ((64 : Nat) : Int) + e - frN s - 1 - e = 63 - frN s := by omega
  rw [et]
  have hlast : least (frN s) (biN s) ≤ lastOf (frN s) (biN s) (64 + e) ∧ lastOf (frN s) (biN s) (64 + e) ≤ 200000 := by
    have hL : least (frN s) (biN s) = 1 - biN s - frN s := rfl
    unfold lastOf; split <;> omega
  have h64 : ((64 : Nat) : Int) + e = 64 + e := rfl
  rw [h64]
  have hL : least (frN s) (biN s) = 1 - biN s - frN s := rfl
  unfold core0 core1
  dsimp only
  rw [d1]
  generalize cutN rm minus m (63 - frN s : Int) false = T at *
  generalize lastOf (frN s) (biN s) (64 + e) = last at *
  generalize cutN rm minus m (last - e) false = C at *
  obtain ⟨T1, T2⟩ := T
  obtain ⟨C1, C2⟩ := C
  dsimp only at *
  generalize hf : frN s = f at *
  generalize hbb : biN s = b at *
  generalize least f b = lst at *
  have hp1 : 2 ^ (f + 1) = 2 * oneN s := by rw [Nat.pow_succ, f5]; omega
  rw [hp1] at hC hT
  rw [f5] at hT0
  have b1 : ∀ n : Nat, n ≤ 2 * oneN s → (blen n > f + 1 ↔ n = 2 * oneN s) := fun n hn => by
    have := lt_blen (n := n) (k := f + 1)
    rw [hp1] at this
    omega
  have b2 : ∀ n : Nat, n < 2 * oneN s → (blen n = f + 1 ↔ oneN s ≤ n) := fun n hn => by
    have h1 := lt_blen (n := n) (k := f)
    have h2 := blen_le (n := n) (k := f + 1)
    rw [hp1] at h2
    rw [f5] at h1
    omega
  have q1 : ((C1 : Int) == ((2 * oneN s : Nat) : Int)) = decide (blen C1 > f + 1) := by
    rw [Bool.eq_iff_iff]; simp only [beq_iff_eq, dec]; have := b1 C1 hC; omega
  have q2 : (bif decide (blen C1 > f + 1) then ishr .u64 (C1 : Int) 1 else (C1 : Int)) = ((if blen C1 > f + 1 then C1 / 2 else C1 : Nat) : Int) := by
    by_cases h : blen C1 > f + 1
    · rw [if_pos h, decide_eq_true h, cond_true]
      have := shr_nat (x := C1) (by omega) 1
      rw [Nat.pow_one] at this; exact this
    · rw [if_neg h, decide_eq_false h]; rfl
  have q3 : (bif decide (blen C1 > f + 1) then IntKind.wrap .i64 (last - e + 1) else last - e) = (if blen C1 > f + 1 then last + 1 else last) - e := by
    by_cases h : blen C1 > f + 1
    · rw [if_pos h, decide_eq_true h, cond_true, wrap_i64_of (by omega) (by omega)]; omega
    · rw [if_neg h, decide_eq_false h]; rfl
  have hm' : (if blen C1 > f + 1 then C1 / 2 else C1) < 2 * oneN s := by
    split
    · omega
    · rename_i h; have := (b1 C1 hC); omega
  have hla : (if blen C1 > f + 1 then last + 1 else last) ≥ lst ∧ (if blen C1 > f + 1 then last + 1 else last) ≤ last + 1 := by split <;> omega
  have hll : least f b = lst := by rw [hL]; rfl
  unfold told
  dsimp only
  rw [k1, k2, q1, q2, q3, e1, e2, e3, hll]
  generalize (if blen C1 > f + 1 then C1 / 2 else C1) = q at *
  generalize (if blen C1 > f + 1 then last + 1 else last) = la at *
  have q4 : IntKind.wrap .i64 (IntKind.wrap .i64 (IntKind.wrap .i64 (e + (la - e)) - lst) + 1) = la - lst + 1 := by
    rw [wrap_i64_of (n := e + (la - e)) (by omega) (by omega), wrap_i64_of (n := e + (la - e) - lst) (by omega) (by omega), wrap_i64_of (by omega) (by omega)]; omega
  rw [q4]
  have q5 : (!decide ((q : Int) < (oneN s : Int))) = decide (blen q = f + 1) := by
    rw [Bool.eq_iff_iff]; simp only [Bool.not_eq_true', decide_eq_false_iff_not, dec]; have := b2 q hm'; omega
  have q6 : (!decide (la - lst + 1 > 2 * (b : Int))) = decide (¬ la + f > b) := by
    rw [Bool.eq_iff_iff]; simp only [Bool.not_eq_true', decide_eq_false_iff_not, dec]; omega
  have q7 : (((rm == 1) || ((rm == 2) && !minus)) || ((rm == 3) && minus)) = decide (rm = 1 ∨ (rm = 2 ∧ minus = false) ∨ (rm = 3 ∧ minus = true)) := by
    rw [Bool.eq_iff_iff]; simp only [Bool.or_eq_true, Bool.and_eq_true, beq_iff_eq, dec, Bool.not_eq_true']
    exact or_assoc
  rw [q5, q6, q7]
  have h6 : (2 * b + 2) * oneN s = 2 * b * oneN s + 2 * oneN s := Nat.add_mul _ _ _
  have h7 : (2 * b + 1) * oneN s = 2 * b * oneN s + oneN s := by rw [Nat.add_mul, Nat.one_mul]
  have hpos : 0 < 2 * b * oneN s := Nat.mul_pos (by omega) (by omega)
  constructor
  · by_cases hn : blen q = f + 1
    · have hq := (b2 q hm').1 hn
      rw [decide_eq_true hn, cond_true]
      by_cases ho : la + f > b
      · rw [decide_eq_false (fun h => h ho), cond_false, if_pos ⟨ho, hn⟩, hin, f5]
        by_cases hr : rm = 1 ∨ (rm = 2 ∧ minus = false) ∨ (rm = 3 ∧ minus = true)
        · rw [decide_eq_true hr, if_pos hr]
          simp only [Bool.not_true, cond_false]
          rw [show (infB s : Int) - 1 = ((infB s - 1 : Nat) : Int) by omega, wr64 (by omega), hsg _ (by omega), f6]
        · rw [decide_eq_false hr, if_neg hr]
          simp only [Bool.not_false, cond_true]
          rw [hsg _ (by omega), f6]; rfl
      · have h4 : (la - lst + 1).toNat ≤ 2 * b := by omega
        have h5 : (la - lst + 1).toNat * oneN s ≤ 2 * b * oneN s := Nat.mul_le_mul_right _ h4
        rw [decide_eq_true ho, cond_true, if_neg (fun h => ho h.1), if_pos hn, wrap_u64_of (n := la - lst + 1) (by omega) (by omega), show la - lst + 1 = (((la - lst + 1).toNat : Nat) : Int) by omega, kx _ (by omega), kn _ hq hm', Int.toNat_natCast,
          lor_nn (by omega) (by omega), Nat.or_comm, ← f5, or_high (by rw [f5]; omega), hsg _ (by rw [f5]; omega)]
    · have hq : q < oneN s := by have := b2 q hm'; omega
      rw [decide_eq_false hn, cond_false, if_neg (fun h => hn h.2), if_neg hn, hsg _ (by omega)]
  · have hc : tinyOf f b (64 + e) T1 = (decide (e + (63 - (f : Int)) < lst) && (decide (e + (63 - (f : Int)) < lst - 1) || decide (T1 < 2 * oneN s))) := by
      unfold tinyOf
      have hb1 := b1 T1 hT
      have hb2 : T1 < 2 * oneN s → blen T1 = f + 1 := fun h => (b2 T1 h).2 hT0
      have hb3 : T1 = 2 * oneN s → blen T1 = f + 2 := fun h => by
        have h5 := blen_of_le (n := T1) (k := f + 1) (by rw [hp1]; omega)
        have := hb1.2 h
        omega
      rw [hll, Bool.eq_iff_iff]
      simp only [Bool.and_eq_true, Bool.or_eq_true, dec]
      have : T1 < 2 * oneN s ∨ T1 = 2 * oneN s := by omega
      rcases this with h | h
      · have := hb2 h; omega
      · have := hb3 h; omega
    have z1 : IntKind.wrap .i64 (e + (63 - (f : Int))) = e + (63 - f) := wrap_i64_of (by omega) (by omega)
    have z2 : IntKind.wrap .i64 (lst - 1) = lst - 1 := wrap_i64_of (by omega) (by omega)
    have z3 : decide ((T1 : Int) < ((2 * oneN s : Nat) : Int)) = decide (T1 < 2 * oneN s) := by rw [decide_eq_decide]; omega
    rw [z1, z2, z3, ← hc]
    by_cases hn : blen q = f + 1
    · rw [decide_eq_true hn, cond_true]
      by_cases ho : la + f > b
      · rw [decide_eq_false (fun h => h ho), cond_false, if_pos ⟨ho, hn⟩]; rfl
      · rw [decide_eq_true ho, cond_true, if_neg (fun h => ho h.1)]
        cases C2 <;> cases tinyOf f b (64 + e) T1 <;> rfl
    · rw [decide_eq_false hn, cond_false, if_neg (fun h => hn h.2)]
      cases C2 <;> cases tinyOf f b (64 + e) T1 <;> rfl
end
end Go.Proofs.Ytacciadcmiiimaa

namespace Go.Proofs.Ytacciadcmiiimaa
open Go Go.Sx Go.Rnd
set_option maxRecDepth 100000
set_option maxHeartbeats 1000000

theorem half_parts (m n : Nat) (hn : 0 < n) : m % 2 ^ n = m / 2 ^ (n - 1) % 2 * 2 ^ (n - 1) + m % 2 ^ (n - 1) := by
  obtain ⟨k, rfl⟩ : ∃ k, n = k + 1 := ⟨n - 1, by omega⟩
  rw [Nat.add_sub_cancel, Nat.pow_succ, Nat.mod_mul, Nat.mul_comm (2 ^ k)]
  omega
theorem up_half (rm : Int) (minus odd : Bool) (m n : Nat) (hn : 0 < n) :
    (rm = 0 → (decide (m % 2 ^ n > 2 ^ (n - 1)) || (decide (m % 2 ^ n = 2 ^ (n - 1)) && odd)) = upB rm minus odd (m / 2 ^ (n - 1) % 2 == 1) (m % 2 ^ (n - 1) != 0)) ∧
    (rm = 2 → (minus && decide (m % 2 ^ n ≠ 0)) = upB rm minus odd (m / 2 ^ (n - 1) % 2 == 1) (m % 2 ^ (n - 1) != 0)) ∧
    (rm = 3 → (!minus && decide (m % 2 ^ n ≠ 0)) = upB rm minus odd (m / 2 ^ (n - 1) % 2 == 1) (m % 2 ^ (n - 1) != 0)) ∧
    (rm = 4 → decide (m % 2 ^ n ≥ 2 ^ (n - 1)) = upB rm minus odd (m / 2 ^ (n - 1) % 2 == 1) (m % 2 ^ (n - 1) != 0)) := by
  have h1 := half_parts m n hn
  have h2 : m % 2 ^ (n - 1) < 2 ^ (n - 1) := Nat.mod_lt _ (Nat.two_pow_pos _)
  have h3 : m / 2 ^ (n - 1) % 2 < 2 := Nat.mod_lt _ (by decide)
  generalize m % 2 ^ n = r at *
  generalize m % 2 ^ (n - 1) = t at *
  generalize m / 2 ^ (n - 1) % 2 = h at *
  generalize 2 ^ (n - 1) = P at *
  have hh : h = 0 ∨ h = 1 := by omega
  refine ⟨?_, ?_, ?_, ?_⟩ <;> rintro rfl <;> unfold upB <;> rcases hh with rfl | rfl
  · have e1 : decide (r > P) = false := decide_eq_false (by omega)
    have e2 : decide (r = P) = false := decide_eq_false (by omega)
    rw [e1, e2]; simp
  · by_cases ht : t = 0
    · have e1 : decide (r > P) = false := decide_eq_false (by omega)
      have e2 : decide (r = P) = true := decide_eq_true (by omega)
      rw [e1, e2, ht]; simp
    · have e1 : decide (r > P) = true := decide_eq_true (by omega)
      have e2 : (t != 0) = true := by simpa using ht
      rw [e1, e2]; simp
  · have : decide (r ≠ 0) = (t != 0) := by rw [Bool.eq_iff_iff]; simp only [dec, bne_iff_ne]; omega
    rw [this]; simp
  · have : decide (r ≠ 0) = true := decide_eq_true (by omega)
    rw [this]; simp
  · have : decide (r ≠ 0) = (t != 0) := by rw [Bool.eq_iff_iff]; simp only [dec, bne_iff_ne]; omega
    rw [this]; simp
  · have : decide (r ≠ 0) = true := decide_eq_true (by omega)
    rw [this]; simp
  · have : decide (r ≥ P) = false := decide_eq_false (by omega)
    rw [this]; simp
  · have : decide (r ≥ P) = true := decide_eq_true (by omega)
    rw [this]; simp
theorem more_ok (rm : Int) (minus odd : Bool) (m n : Nat) (hn : 0 < n) : r127_0 rm minus odd ((m % 2 ^ n : Nat) : Int) ((2 ^ (n - 1) : Nat) : Int) = upB rm minus odd (m / 2 ^ (n - 1) % 2 == 1) (m % 2 ^ (n - 1) != 0) := by
  obtain ⟨u0, u2, u3, u4⟩ := up_half rm minus odd m n hn
  have e1 : decide (((m % 2 ^ n : Nat) : Int) > ((2 ^ (n - 1) : Nat) : Int)) = decide (m % 2 ^ n > 2 ^ (n - 1)) := by rw [decide_eq_decide]; omega
  have e2 : (((m % 2 ^ n : Nat) : Int) == ((2 ^ (n - 1) : Nat) : Int)) = decide (m % 2 ^ n = 2 ^ (n - 1)) := by rw [Bool.eq_iff_iff]; simp only [beq_iff_eq, dec]; omega
  have e3 : (((m % 2 ^ n : Nat) : Int) != 0) = decide (m % 2 ^ n ≠ 0) := by rw [Bool.eq_iff_iff]; simp only [bne_iff_ne, dec]; omega
  have e4 : decide (((m % 2 ^ n : Nat) : Int) ≥ ((2 ^ (n - 1) : Nat) : Int)) = decide (m % 2 ^ n ≥ 2 ^ (n - 1)) := by rw [decide_eq_decide]; omega
  simp only [r127_0, e1, e2, e3, e4]
  by_cases h0 : rm = 0
  · rw [← u0 h0]; subst h0; rfl
  · by_cases h2 : rm = 2
    · rw [← u2 h2]; subst h2; rfl
    · by_cases h3 : rm = 3
      · rw [← u3 h3]; subst h3; rfl
      · by_cases h4 : rm = 4
        · rw [← u4 h4]; subst h4; rfl
        · simp [upB, ibeq, h0, h2, h3, h4]
theorem low_mask {m n : Nat} (hm : m < 18446744073709551616) (hn : n < 64) : iland .u64 (m : Int) (IntKind.wrap .u64 (ishl .u64 1 (n : Int) - 1)) = ((m % 2 ^ n : Nat) : Int) := by
  have hp : 2 ^ n ≤ 2 ^ 63 := Nat.pow_le_pow_right (by decide) (by omega)
  have h1 := shl_lt (x := 1) (s := n) (by omega)
  have h1 : ishl .u64 1 (n : Int) = ((2 ^ n : Nat) : Int) := by rw [Nat.one_mul] at h1; exact h1
  have := Nat.two_pow_pos n
  rw [h1, show ((2 ^ n : Nat) : Int) - 1 = ((2 ^ n - 1 : Nat) : Int) by omega, wr64 (by omega), land_low hm (by omega)]
theorem cutP_far {rm : Int} {minus : Bool} {m n : Nat} (hm0 : 0 < m) (hm : m < 18446744073709551616) (hn : 64 < n) : cutP rm minus m n false = cutP rm minus 1 2 false := by
  have h1 : 18446744073709551616 ≤ 2 ^ (n - 1) := Nat.pow_le_pow_right (n := 2) (by decide) (show 64 ≤ n - 1 by omega)
  have h2 : 2 ^ n = 2 * 2 ^ (n - 1) := by rw [← Nat.pow_succ']; congr 1; omega
  unfold cutP
  rw [Nat.div_eq_of_lt (show m < 2 ^ n by omega), Nat.div_eq_of_lt (show m < 2 ^ (n - 1) by omega), Nat.mod_eq_of_lt (show m < 2 ^ (n - 1) by omega), Nat.mod_eq_of_lt (show m < 2 ^ n by omega)]
  have e1 : (m != 0) = true := by simp; omega
  have e2 : (m == 0) = false := by simp; omega
  rw [e1, e2]
  rfl
theorem shl_one {n : Nat} (hn : n < 64) : ishl .u64 1 (n : Int) = ((2 ^ n : Nat) : Int) := by
  have hp : 2 ^ n ≤ 2 ^ 63 := Nat.pow_le_pow_right (by decide) (by omega)
  have h1 := shl_lt (x := 1) (s := n) (by omega)
  rw [Nat.one_mul] at h1; exact h1
theorem odd_word {x : Nat} (hx : x < 18446744073709551616) : (iland .u64 (x : Int) 1 == 1) = (x % 2 == 1) := by
  have := land_nn hx (show 1 < 18446744073709551616 by decide)
  rw [(one_parts _).1] at this
  rw [show iland .u64 (x : Int) 1 = ((x % 2 : Nat) : Int) from this, ib1]
theorem scut_near (rm : Int) (minus : Bool) {m n : Nat} (hm : m < 18446744073709551616) (hn : 0 < n) (hn2 : n < 64) : r122_0 rm minus (m : Int) (n : Int) = ((cutP rm minus m n false).1 : Int) ∧ r122_1 (m : Int) (n : Int) = (cutP rm minus m n false).2 := by
  have e4 : decide ((n : Int) > 64) = false := decide_eq_false (by omega)
  have e7 : ((n : Int) == 64) = false := by simp; omega
  have e20 : IntKind.wrap .i64 ((n : Int) - 1) = ((n - 1 : Nat) : Int) := by rw [wrap_i64_of (by omega) (by omega)]; omega
  have hd : m / 2 ^ n < 9223372036854775808 := by
    rw [Nat.div_lt_iff_lt_mul (Nat.two_pow_pos n)]
    have : 2 ^ 1 ≤ 2 ^ n := Nat.pow_le_pow_right (by decide) hn
    have : 9223372036854775808 * 2 ≤ 9223372036854775808 * 2 ^ n := Nat.mul_le_mul_left _ this
    omega
  have hr : ∀ b : Bool, (b || false) = b := fun b => by simp
  unfold cutP
  rw [hr]
  constructor
  · simp only [r122_0, e4, e7, cond_false, Bool.not_false, cond_true, low_mask hm hn2, shr_nat hm n, e20, shl_one (show n - 1 < 64 by omega), odd_word (show m / 2 ^ n < 18446744073709551616 by omega), more_ok rm minus _ m n hn]
    cases upB rm minus (m / 2 ^ n % 2 == 1) (m / 2 ^ (n - 1) % 2 == 1) (m % 2 ^ (n - 1) != 0)
    · rfl
    · rw [cond_true, show ((m / 2 ^ n : Nat) : Int) + 1 = ((m / 2 ^ n + 1 : Nat) : Int) by omega, wr64 (by omega)]; rfl
  · simp only [r122_1, e4, e7, cond_false, Bool.not_false, cond_true, low_mask hm hn2]
    rw [Bool.eq_iff_iff]
    simp only [beq_iff_eq, Bool.and_true]
    omega
theorem scut_64 (rm : Int) (minus : Bool) {m : Nat} (hm : m < 18446744073709551616) : r122_0 rm minus (m : Int) 64 = ((cutP rm minus m 64 false).1 : Int) ∧ r122_1 (m : Int) 64 = (cutP rm minus m 64 false).2 := by
  have hr : ∀ b : Bool, (b || false) = b := fun b => by simp
  have h64 : m % 2 ^ 64 = m := Nat.mod_eq_of_lt hm
  have hq : m / 2 ^ 64 = 0 := Nat.div_eq_of_lt hm
  have hmo := more_ok rm minus false m 64 (by decide)
  rw [h64] at hmo
  unfold cutP
  rw [hr, hq, h64]
  constructor
  · have : r122_0 rm minus (m : Int) 64 = bif r127_0 rm minus false (m : Int) 9223372036854775808 then 1 else 0 := rfl
    rw [this]
    have : r127_0 rm minus false (m : Int) 9223372036854775808 = r127_0 rm minus false (m : Int) ((2 ^ (64 - 1) : Nat) : Int) := rfl
    rw [this, hmo]
    show _ = (((0 + if upB rm minus false (m / 2 ^ (64 - 1) % 2 == 1) (m % 2 ^ (64 - 1) != 0) = true then 1 else 0 : Nat)) : Int)
    cases upB rm minus false (m / 2 ^ (64 - 1) % 2 == 1) (m % 2 ^ (64 - 1) != 0) <;> rfl
  · show ((m : Int) == 0) = (m == 0 && !false)
    rw [Bool.eq_iff_iff]
    simp only [beq_iff_eq, Bool.not_false, Bool.and_true]
    omega
theorem scut_ok (rm : Int) (minus : Bool) {m : Nat} {b : Int} (hm0 : 0 < m) (hm : m < 18446744073709551616) (hb : 0 < b) : r122_0 rm minus (m : Int) b = ((cutN rm minus m b false).1 : Int) ∧ r122_1 (m : Int) b = (cutN rm minus m b false).2 := by
  unfold cutN
  rw [if_neg (by omega)]
  obtain ⟨n, rfl⟩ : ∃ n : Nat, b = (n : Int) := ⟨b.toNat, by omega⟩
  rw [Int.toNat_natCast]
  by_cases h : n < 64
  · exact scut_near rm minus hm (by omega) h
  · by_cases h2 : n = 64
    · subst h2; exact scut_64 rm minus hm
    · rw [cutP_far hm0 hm (by omega)]
      have e4 : decide ((n : Int) > 64) = true := decide_eq_true (by omega)
      have hc := scut_near rm minus (m := 1) (n := 2) (by decide) (by decide) (by decide)
      have g1 : r122_0 rm minus (m : Int) (n : Int) = r122_0 rm minus ((1 : Nat) : Int) ((2 : Nat) : Int) := by simp only [r122_0, e4]; rfl
      have g2 : r122_1 (m : Int) (n : Int) = r122_1 ((1 : Nat) : Int) ((2 : Nat) : Int) := by simp only [r122_1, e4]; rfl
      rw [g1, g2]
      exact hc
theorem ccut_same (rm : Int) (minus : Bool) {m : Nat} {b : Int} (hm0 : 0 < m) (hm : m < 18446744073709551616) (hb : 0 < b) : r70_0 rm minus (m : Int) b = r122_0 rm minus (m : Int) b ∧ r70_1 (m : Int) b = r122_1 (m : Int) b := by
  have e0 : decide (b ≤ 0) = false := decide_eq_false (by omega)
  have em : ((m : Int) == 0) = false := by simp; omega
  have key : ∀ q rest half : Int, (bif (rm == 0) then (decide (rest > half) || ((rest == half) && (iland .u64 q 1 == 1))) else bif (rm == 2) then (minus && (rest != 0)) else bif (rm == 3) then (!minus && (rest != 0)) else ((rm == 4) && decide (rest ≥ half))) = r127_0 rm minus (iland .u64 q 1 == 1) rest half := fun q rest half => by
    simp only [r127_0]
    cases rm == 0 <;> cases rm == 2 <;> cases rm == 3 <;> cases rm == 4 <;> rfl
  by_cases h : b > 64
  · have e1 : decide (b > 64) = true := decide_eq_true h
    have hx : ∀ (o : Bool), r127_0 rm minus (iland .u64 0 1 == 1) 1 2 = r127_0 rm minus (iland .u64 0 1 == 1) 1 2 := fun _ => rfl
    constructor
    · have l : r70_0 rm minus (m : Int) b = bif r127_0 rm minus (iland .u64 0 1 == 1) 1 2 then IntKind.wrap .u64 (0 + 1) else 0 := by
        simp only [r70_0, e0, em, e1, Bool.not_false, cond_true, key]
      have r : r122_0 rm minus (m : Int) b = bif r127_0 rm minus (iland .u64 0 1 == 1) 1 2 then IntKind.wrap .u64 (0 + 1) else 0 := by
        simp only [r122_0, e1, cond_true]; rfl
      rw [l, r]
    · simp only [r70_1, r122_1, e0, em, e1, Bool.not_false, cond_true]; rfl
  · have e1 : decide (b > 64) = false := decide_eq_false h
    by_cases h2 : b = 64
    · subst h2
      constructor
      · have l : r70_0 rm minus (m : Int) 64 = bif r127_0 rm minus (iland .u64 0 1 == 1) (m : Int) 9223372036854775808 then IntKind.wrap .u64 (0 + 1) else 0 := by
          simp only [r70_0, em, key]; rfl
        rw [l]; rfl
      · simp only [r70_1, em]; rfl
    · have e2 : (b == 64) = false := by simpa using h2
      constructor
      · simp only [r70_0, r122_0, e0, em, e1, e2, Bool.not_false, cond_true, cond_false, key]
      · simp only [r70_1, r122_1, e0, em, e1, e2, Bool.not_false, cond_true, cond_false]
theorem ccut_ok (rm : Int) (minus : Bool) {m : Nat} {b : Int} (hm0 : 0 < m) (hm : m < 18446744073709551616) (hb : 0 < b) : r70_0 rm minus (m : Int) b = ((cutN rm minus m b false).1 : Int) ∧ r70_1 (m : Int) b = (cutN rm minus m b false).2 := by
  rw [(ccut_same rm minus hm0 hm hb).1, (ccut_same rm minus hm0 hm hb).2]
  exact scut_ok rm minus hm0 hm hb
theorem p70_ok (m b : Int) : p70 m b = true := by
  simp only [p70, List.all_cons, List.all_nil, id]
  by_cases h : 0 < b ∧ b < 64
  · have a : decide (b ≥ 0) = true := decide_eq_true (by omega)
    have b' : decide (IntKind.wrap .i64 (b - 1) ≥ 0) = true := by rw [wrap_i64_of (by omega) (by omega)]; exact decide_eq_true (by omega)
    simp only [a, b', ow_t, Bool.and_true]
  · by_cases h0 : 0 < b
    · by_cases h1 : b = 64
      · have : (b == 64) = true := by simp [h1]
        simp [this, ow]
      · have : decide (b > 64) = true := decide_eq_true (by omega)
        simp [this, ow]
    · have : decide (b ≤ 0) = true := decide_eq_true (by omega)
      simp [this, ow]

section
variable {s : Int} (hs : s = 4 ∨ s = 8)
include hs
theorem cround_ok {rm : Int} {minus : Bool} {M : Nat} {e : Int} (hM0 : 0 < M) (hM : M < 18446744073709551616) (h1 : -50000 ≤ e) (h2 : e ≤ 50000) :
    p78 (frN s) (biN s) rm minus (M : Int) e = true ∧ r78_0 (frN s) (biN s) (topN s) rm minus (M : Int) e = ((sgB s minus + (rnd (frN s) (biN s) rm minus M e false).1 : Nat) : Int) ∧ r78_1 (frN s) (biN s) rm minus (M : Int) e = ((rnd (frN s) (biN s) rm minus M e false).2 : Int) := by
  obtain ⟨f1, f2, f3, f4, f5, f6, f7, f8, f9, f10⟩ := size_facts hs
  have hb := blen_pos hM0
  have hb2 : blen M ≤ 64 := blen_le.2 hM
  have hlz := lz64 hM
  have hlo := blen_low hM0
  have hup := blen_self (n := M)
  generalize hn : 64 - blen M = n at *
  have hm0 : 9223372036854775808 ≤ M * 2 ^ n := by
    have : 2 ^ (blen M - 1) * 2 ^ n ≤ M * 2 ^ n := Nat.mul_le_mul_right _ hlo
    rw [← Nat.pow_add, show blen M - 1 + n = 63 by omega] at this
    exact this
  have hm : M * 2 ^ n < 18446744073709551616 := by
    have : M * 2 ^ n < 2 ^ blen M * 2 ^ n := Nat.mul_lt_mul_of_pos_right hup (Nat.two_pow_pos n)
    rw [← Nat.pow_add, show blen M + n = 64 by omega] at this
    exact this
  have e10 : ishl .u64 (M : Int) (n : Int) = ((M * 2 ^ n : Nat) : Int) := shl_lt hm
  have e11 : IntKind.wrap .i64 (e - n) = e - n := wrap_i64_of (by omega) (by omega)
  obtain ⟨c0, c1⟩ := core_ok hs (rm := rm) (minus := minus) (m := M * 2 ^ n) (e := e - n) hm0 hm (by omega) (by omega)
  obtain ⟨d1, d2⟩ := dropOf_ok hs (e := e - n) (by omega) (by omega)
  have hsc := rnd_scale (f := frN s) (b := biN s) (rm := rm) (minus := minus) (M := M) (k := n) (E := e) hM0
  rw [hsc] at c0 c1
  have hd : 0 < dropOf (frN s) (biN s) (e - n) := by rw [d1]; omega
  obtain ⟨q1, q2⟩ := ccut_ok rm minus (m := M * 2 ^ n) (b := dropOf (frN s) (biN s) (e - n)) (by omega) hm hd
  obtain ⟨t1, _⟩ := ccut_ok rm minus (m := M * 2 ^ n) (b := 63 - frN s) (by omega) hm (by omega)
  have e12 : IntKind.wrap .i64 (63 - (frN s : Int)) = 63 - frN s := wrap_i64_of (by omega) (by omega)
  refine ⟨?_, ?_, ?_⟩
  · have a : decide ((frN s : Int) ≥ 0) = true := decide_eq_true (by omega)
    have b : p83 (frN s) = true := by simp only [p83, a]; rfl
    have c : decide ((n : Int) ≥ 0) = true := decide_eq_true (by omega)
    simp only [p78, p115_ok, hlz, p70_ok, a, b, c, ow_t, List.all_cons, List.all_nil, id, Bool.and_true]
  · rw [← c0, ← q1, ← e11, ← e10, ← hlz]; rfl
  · rw [← c1, ← q1, ← q2, ← t1, ← e12, ← e11, ← e10, ← hlz]; rfl
end
end Go.Proofs.Ytacciadcmiiimaa

namespace Go.Proofs.Ytacciadcmiiimaa
open Go Go.Sx Go.Rnd
set_option maxRecDepth 100000

def U (a : Int) : Prop := 0 ≤ a ∧ a < 18446744073709551616

def top (s : Int) : Int := if s = 4 then 2147483648 else 9223372036854775808
def one (s : Int) : Int := if s = 4 then 8388608 else 4503599627370496
def inf (s : Int) : Int := if s = 4 then 2139095040 else 9218868437227405312
def qui (s : Int) : Int := if s = 4 then 2143289344 else 9221120237041090560
def mag (s a : Int) : Int := a % top s
def sgn (s a : Int) : Bool := decide (a / top s % 2 = 1)
def cls (s a : Int) : Int :=
  if qui s ≤ mag s a then 9 else if inf s < mag s a then 8 else if mag s a = inf s then 7 else if one s ≤ mag s a then 6 else if 0 < mag s a then 5 else 4

section
variable {a : Int} (h : U a)
include h
omit h in
theorem mag_lt_4 (a : Int) : 0 ≤ mag 4 a ∧ mag 4 a < 2147483648 := by
  show 0 ≤ a % 2147483648 ∧ a % 2147483648 < 2147483648
  omega
theorem size_4 : r86_0 2147483648 a = mag 4 a := by
  show iland .u64 a (IntKind.wrap .u64 (2147483648 - 1)) = a % 2147483648
  exact land_mask h.1 h.2 31 (by decide) (by decide) (by decide)
theorem minus_4 : r65_0 2147483648 a = sgn 4 a := by
  show (iland .u64 a 2147483648 != 0) = decide (a / 2147483648 % 2 = 1)
  rw [land_bit h.1 h.2 31 (by decide) (by decide)]
  rw [Bool.eq_iff_iff]; simp; omega
theorem class_4 : r67_0 23 127 2147483648 a = cls 4 a := by
  have hm := mag_lt_4 a
  have e1 : r83_0 23 127 = 2139095040 := by decide +kernel
  have e2 : ∀ m : Int, ishr .u64 m (IntKind.wrap .i64 (23 - 1)) = m / 4194304 := fun m => by
    rw [show IntKind.wrap .i64 (23 - 1) = ((22 : Nat) : Int) from by decide]
    exact shr_of 22 (by decide) (by decide)
  have e3 : ∀ m : Int, ishr .u64 m 23 = m / 8388608 := fun m => shr_of 23 (by decide) (by decide)
  have e4 : iland .u64 (mag 4 a / 4194304) 1 = mag 4 a / 4194304 % 2 := land_mask (by omega) (by omega) 1 (by decide) (by decide) (by decide)
  simp only [r67_0, size_4 h, e1, e2, e3, e4]
  unfold cls
  rw [show inf 4 = 2139095040 from rfl, show qui 4 = 2143289344 from rfl, show one 4 = 8388608 from rfl]
  generalize mag 4 a = m at *
  (simp only [bl] <;> (repeat' split) <;> omega)
theorem mask_4 : r42_0 4 a = mag 4 a + if sgn 4 a then 2147483648 else 0 := by
  have h' := h.1
  have h'' := h.2
  have e : r42_0 4 a = a % 4294967296 := by
    show iland .u64 a 4294967295 = _
    exact land_mask h.1 h.2 32 (by decide) (by decide) (by decide)
  rw [e]
  show _ = a % 2147483648 + if decide (a / 2147483648 % 2 = 1) = true then 2147483648 else 0
  simp only [decide_eq_true_eq]
  split <;> omega
theorem msplit_4 : r42_0 4 a / 2147483648 = (if sgn 4 a then 1 else 0) ∧ r42_0 4 a % 2147483648 = mag 4 a ∧ 0 ≤ r42_0 4 a ∧ r42_0 4 a < 2 * 2147483648 := by
  have hm := mag_lt_4 a
  rw [mask_4 h]
  cases sgn 4 a <;> simp <;> omega
theorem parts0_4 : r90_0 4 a = sgn 4 a := by
  have hm := msplit_4 h
  simp only [r90_0]
  rw [show IntKind.wrap .i64 (r89_0 4 + r89_1 4) = ((31 : Nat) : Int) from by decide, shr_of 31 (by decide) (p := 2147483648) (by decide), hm.1]
  cases sgn 4 a <;> rfl
theorem parts1_4 : r90_1 4 a = mag 4 a / 8388608 := by
  have hm := msplit_4 h
  have hl := mag_lt_4 a
  simp only [r90_1]
  rw [show r89_0 4 = ((23 : Nat) : Int) from by decide, shr_of 23 (by decide) (p := 8388608) (by decide), show IntKind.wrap .u64 (ishl .u64 1 (r89_1 4) - 1) = 255 from by decide,
    land_mask (by omega) (by omega) 8 (by decide) (p := 255 + 1) (by decide) (by decide), wrap_i64_of (by omega) (by omega)]
  omega
theorem parts2_4 : r90_2 4 a = mag 4 a % 8388608 := by
  have hm := msplit_4 h
  have hl := mag_lt_4 a
  simp only [r90_2]
  rw [show IntKind.wrap .u64 (ishl .u64 1 (r89_0 4) - 1) = 8388608 - 1 from by decide, land_mask (by omega) (by omega) 23 (by decide) (p := 8388608) (by decide) (by decide)]
  omega
theorem nan_4 : r39_0 4 a = decide (inf 4 < mag 4 a) := by
  have hl := mag_lt_4 a
  simp only [r39_0, parts1_4 h, parts2_4 h]
  rw [show IntKind.wrap .i64 (ishl .i64 1 (r89_1 4) - 1) = 255 from by decide, show inf 4 = 2139095040 from rfl, Bool.eq_iff_iff]
  simp only [bl]
  omega
theorem loud_4 : r41_0 4 a = decide (inf 4 < mag 4 a ∧ mag 4 a < qui 4) := by
  have hl := mag_lt_4 a
  simp only [r41_0, parts2_4 h, nan_4 h]
  rw [show IntKind.wrap .i64 (r89_0 4 - 1) = ((22 : Nat) : Int) from by decide, shr_of 22 (by decide) (p := 4194304) (by decide), show inf 4 = 2139095040 from rfl, show qui 4 = 2143289344 from rfl, Bool.eq_iff_iff]
  simp only [bl]
  omega
theorem isinf_4 : r56_0 4 a = decide (mag 4 a = inf 4) := by
  have hl := mag_lt_4 a
  simp only [r56_0, parts1_4 h, parts2_4 h]
  rw [show IntKind.wrap .i64 (ishl .i64 1 (r89_1 4) - 1) = 255 from by decide, show inf 4 = 2139095040 from rfl, Bool.eq_iff_iff]
  simp only [bl]
  omega
theorem zero_4 : r61_0 4 a = decide (mag 4 a = 0) := by
  have hl := mag_lt_4 a
  simp only [r61_0, parts1_4 h, parts2_4 h]
  rw [Bool.eq_iff_iff]
  simp only [bl]
  omega
omit h in
theorem p67_4 (a : Int) : p67 23 127 2147483648 a = true := by
  have e5 : p83 23 = true := by decide +kernel
  have e6 : decide (IntKind.wrap .i64 (23 - 1) ≥ 0) = true := by decide
  have e7 : decide ((23 : Int) ≥ 0) = true := by decide
  simp only [p67, e5, e6, e7, ow_t, List.all_cons, List.all_nil, id, Bool.and_true]
omit h in
theorem mag_lt_8 (a : Int) : 0 ≤ mag 8 a ∧ mag 8 a < 9223372036854775808 := by
  show 0 ≤ a % 9223372036854775808 ∧ a % 9223372036854775808 < 9223372036854775808
  omega
theorem size_8 : r86_0 9223372036854775808 a = mag 8 a := by
  show iland .u64 a (IntKind.wrap .u64 (9223372036854775808 - 1)) = a % 9223372036854775808
  exact land_mask h.1 h.2 63 (by decide) (by decide) (by decide)
theorem minus_8 : r65_0 9223372036854775808 a = sgn 8 a := by
  show (iland .u64 a 9223372036854775808 != 0) = decide (a / 9223372036854775808 % 2 = 1)
  rw [land_bit h.1 h.2 63 (by decide) (by decide)]
  rw [Bool.eq_iff_iff]; simp; omega
theorem class_8 : r67_0 52 1023 9223372036854775808 a = cls 8 a := by
  have hm := mag_lt_8 a
  have e1 : r83_0 52 1023 = 9218868437227405312 := by decide +kernel
  have e2 : ∀ m : Int, ishr .u64 m (IntKind.wrap .i64 (52 - 1)) = m / 2251799813685248 := fun m => by
    rw [show IntKind.wrap .i64 (52 - 1) = ((51 : Nat) : Int) from by decide]
    exact shr_of 51 (by decide) (by decide)
  have e3 : ∀ m : Int, ishr .u64 m 52 = m / 4503599627370496 := fun m => shr_of 52 (by decide) (by decide)
  have e4 : iland .u64 (mag 8 a / 2251799813685248) 1 = mag 8 a / 2251799813685248 % 2 := land_mask (by omega) (by omega) 1 (by decide) (by decide) (by decide)
  simp only [r67_0, size_8 h, e1, e2, e3, e4]
  unfold cls
  rw [show inf 8 = 9218868437227405312 from rfl, show qui 8 = 9221120237041090560 from rfl, show one 8 = 4503599627370496 from rfl]
  generalize mag 8 a = m at *
  (simp only [bl] <;> (repeat' split) <;> omega)
theorem mask_8 : r42_0 8 a = mag 8 a + if sgn 8 a then 9223372036854775808 else 0 := by
  have h' := h.1
  have h'' := h.2
  have e : r42_0 8 a = a := rfl
  rw [e]
  show _ = a % 9223372036854775808 + if decide (a / 9223372036854775808 % 2 = 1) = true then 9223372036854775808 else 0
  simp only [decide_eq_true_eq]
  split <;> omega
theorem msplit_8 : r42_0 8 a / 9223372036854775808 = (if sgn 8 a then 1 else 0) ∧ r42_0 8 a % 9223372036854775808 = mag 8 a ∧ 0 ≤ r42_0 8 a ∧ r42_0 8 a < 2 * 9223372036854775808 := by
  have hm := mag_lt_8 a
  rw [mask_8 h]
  cases sgn 8 a <;> simp <;> omega
theorem parts0_8 : r90_0 8 a = sgn 8 a := by
  have hm := msplit_8 h
  simp only [r90_0]
  rw [show IntKind.wrap .i64 (r89_0 8 + r89_1 8) = ((63 : Nat) : Int) from by decide, shr_of 63 (by decide) (p := 9223372036854775808) (by decide), hm.1]
  cases sgn 8 a <;> rfl
theorem parts1_8 : r90_1 8 a = mag 8 a / 4503599627370496 := by
  have hm := msplit_8 h
  have hl := mag_lt_8 a
  simp only [r90_1]
  rw [show r89_0 8 = ((52 : Nat) : Int) from by decide, shr_of 52 (by decide) (p := 4503599627370496) (by decide), show IntKind.wrap .u64 (ishl .u64 1 (r89_1 8) - 1) = 2047 from by decide,
    land_mask (by omega) (by omega) 11 (by decide) (p := 2047 + 1) (by decide) (by decide), wrap_i64_of (by omega) (by omega)]
  omega
theorem parts2_8 : r90_2 8 a = mag 8 a % 4503599627370496 := by
  have hm := msplit_8 h
  have hl := mag_lt_8 a
  simp only [r90_2]
  rw [show IntKind.wrap .u64 (ishl .u64 1 (r89_0 8) - 1) = 4503599627370496 - 1 from by decide, land_mask (by omega) (by omega) 52 (by decide) (p := 4503599627370496) (by decide) (by decide)]
  omega
theorem nan_8 : r39_0 8 a = decide (inf 8 < mag 8 a) := by
  have hl := mag_lt_8 a
  simp only [r39_0, parts1_8 h, parts2_8 h]
  rw [show IntKind.wrap .i64 (ishl .i64 1 (r89_1 8) - 1) = 2047 from by decide, show inf 8 = 9218868437227405312 from rfl, Bool.eq_iff_iff]
  simp only [bl]
  omega
theorem loud_8 : r41_0 8 a = decide (inf 8 < mag 8 a ∧ mag 8 a < qui 8) := by
  have hl := mag_lt_8 a
  simp only [r41_0, parts2_8 h, nan_8 h]
  rw [show IntKind.wrap .i64 (r89_0 8 - 1) = ((51 : Nat) : Int) from by decide, shr_of 51 (by decide) (p := 2251799813685248) (by decide), show inf 8 = 9218868437227405312 from rfl, show qui 8 = 9221120237041090560 from rfl, Bool.eq_iff_iff]
  simp only [bl]
  omega
theorem isinf_8 : r56_0 8 a = decide (mag 8 a = inf 8) := by
  have hl := mag_lt_8 a
  simp only [r56_0, parts1_8 h, parts2_8 h]
  rw [show IntKind.wrap .i64 (ishl .i64 1 (r89_1 8) - 1) = 2047 from by decide, show inf 8 = 9218868437227405312 from rfl, Bool.eq_iff_iff]
  simp only [bl]
  omega
theorem zero_8 : r61_0 8 a = decide (mag 8 a = 0) := by
  have hl := mag_lt_8 a
  simp only [r61_0, parts1_8 h, parts2_8 h]
  rw [Bool.eq_iff_iff]
  simp only [bl]
  omega
omit h in
theorem p67_8 (a : Int) : p67 52 1023 9223372036854775808 a = true := by
  have e5 : p83 52 = true := by decide +kernel
  have e6 : decide (IntKind.wrap .i64 (52 - 1) ≥ 0) = true := by decide
  have e7 : decide ((52 : Int) ≥ 0) = true := by decide
  simp only [p67, e5, e6, e7, ow_t, List.all_cons, List.all_nil, id, Bool.and_true]

end

section
variable {s : Int} (hs : s = 4 ∨ s = 8) {a : Int} (h : U a)
include hs
theorem g_const : 0 < one s ∧ one s < inf s ∧ inf s < qui s ∧ qui s < top s ∧ top s ≤ 9223372036854775808 := by rcases hs with rfl | rfl <;> decide
theorem g_mag (a : Int) : 0 ≤ mag s a ∧ mag s a < top s := by exact hs.elim (fun e => by subst e; exact mag_lt_4 a) (fun e => by subst e; exact mag_lt_8 a)
include h
theorem g_size : r86_0 (r62_2 s) a = mag s a := by exact hs.elim (fun e => by subst e; exact size_4 h) (fun e => by subst e; exact size_8 h)
theorem g_minus : r65_0 (r62_2 s) a = sgn s a := by exact hs.elim (fun e => by subst e; exact minus_4 h) (fun e => by subst e; exact minus_8 h)
theorem g_class : r67_0 (r62_0 s) (r62_1 s) (r62_2 s) a = cls s a := by exact hs.elim (fun e => by subst e; exact class_4 h) (fun e => by subst e; exact class_8 h)
theorem g_parts0 : r90_0 s a = sgn s a := by exact hs.elim (fun e => by subst e; exact parts0_4 h) (fun e => by subst e; exact parts0_8 h)
theorem g_nan : r39_0 s a = decide (inf s < mag s a) := by exact hs.elim (fun e => by subst e; exact nan_4 h) (fun e => by subst e; exact nan_8 h)
theorem g_loud : r41_0 s a = decide (inf s < mag s a ∧ mag s a < qui s) := by exact hs.elim (fun e => by subst e; exact loud_4 h) (fun e => by subst e; exact loud_8 h)
theorem g_isinf : r56_0 s a = decide (mag s a = inf s) := by exact hs.elim (fun e => by subst e; exact isinf_4 h) (fun e => by subst e; exact isinf_8 h)
theorem g_zero : r61_0 s a = decide (mag s a = 0) := by exact hs.elim (fun e => by subst e; exact zero_4 h) (fun e => by subst e; exact zero_8 h)
omit h in
theorem g_p67 (a : Int) : p67 (r62_0 s) (r62_1 s) (r62_2 s) a = true := by exact hs.elim (fun e => by subst e; exact p67_4 a) (fun e => by subst e; exact p67_8 a)
end
theorem awake_ok : p20 = true ∧ r20_0 = true := ⟨by decide +kernel, by decide +kernel⟩
end Go.Proofs.Ytacciadcmiiimaa

namespace Go.Proofs.Ytacciadcmiiimaa
open Go Go.Sx Go.Rnd
set_option maxRecDepth 100000
set_option maxHeartbeats 1000000

section
variable {s : Int} (hs : s = 4 ∨ s = 8)
include hs
end
end Go.Proofs.Ytacciadcmiiimaa

namespace Go.Proofs.Ytacciadcmiiimaa
open Go Go.Sx Go.Rnd
set_option maxRecDepth 100000
set_option maxHeartbeats 1000000

def finN (s : Int) (a : Nat) : Bool := !nanN s a && !infN s a && !zerN s a
section
variable {s : Int} (hs : s = 4 ∨ s = 8) {a : Nat} (ha : a < 18446744073709551616)
include hs
theorem of92 : r92_0 s = (frN s : Int) ∧ r92_1 s = (biN s : Int) ∧ r92_2 s = (topN s : Int) := by rcases hs with rfl | rfl <;> exact ⟨rfl, rfl, rfl⟩
theorem emax_facts : emaxN s = 2 * biN s + 1 ∧ topN s = oneN s * (emaxN s + 1) ∧ 2 ^ (frN s - 1) = oneN s / 2 ∧ 1 ≤ oneN s / 2 := by rcases hs with rfl | rfl <;> decide
include ha
theorem fM_pos (h : finN s a = true) : 0 < fM s a := by
  have h1 := fr_lt hs ha
  unfold finN nanN infN zerN at h
  unfold fM
  simp only [Bool.and_eq_true, Bool.not_eq_true', decide_eq_false_iff_not] at h
  split <;> omega
theorem fE_le : -1074 ≤ fE s a ∧ fE s a ≤ 2000 := by
  have h1 := ex_le hs ha
  obtain ⟨f1, f2, f3, f4, f5, f6, f7, f8, f9, f10⟩ := size_facts hs
  have h2 := (emax_facts hs).1
  have h3 : frN s + biN s ≤ 1075 := by rcases hs with rfl | rfl <;> decide
  unfold fE
  split <;> omega
theorem blenM : blen (fM s a) ≤ 53 := by
  have h1 := fM_lt hs ha
  obtain ⟨f1, f2, f3, f4, f5, f6, f7, f8, f9, f10⟩ := size_facts hs
  exact blen_le.2 (by omega)
end

section
variable {s : Int} (hs : s = 4 ∨ s = 8) {a b c : Nat} (ha : a < 18446744073709551616) (hb : b < 18446744073709551616) (hc : c < 18446744073709551616)
include hs ha
include hb
include hc
end
end Go.Proofs.Ytacciadcmiiimaa

namespace Go.Proofs.Ytacciadcmiiimaa
open Go Go.Sx Go.Rnd
set_option maxRecDepth 100000
set_option maxHeartbeats 1000000

def rndP (s rm : Int) (mi : Bool) (M : Nat) (E : Int) (more : Bool) : Nat × Nat := (sgB s mi + (rnd (frN s) (biN s) rm mi M E more).1, (rnd (frN s) (biN s) rm mi M E more).2)
theorem right_ok {s rm : Int} (hs : s = 4 ∨ s = 8) (h0 : 0 ≤ rm) (h1 : rm ≤ 4) : r91_0 s rm = true ∧ r99_0 s rm = true := by
  have e1 : decide (rm ≥ 0) = true := decide_eq_true h0
  have e2 : decide (rm ≤ 4) = true := decide_eq_true h1
  rcases hs with rfl | rfl <;> (constructor <;> (first | simp only [r91_0, e1, e2] | simp only [r99_0, e1, e2]) <;> rfl)
theorem right_not {s rm : Int} (h : ¬ ((s = 4 ∨ s = 8) ∧ 0 ≤ rm ∧ rm ≤ 4)) : r91_0 s rm = false ∧ r99_0 s rm = false := by
  have : r91_0 s rm = false := by
    rw [← Bool.not_eq_true]
    intro h2
    apply h
    simp only [r91_0, Bool.and_eq_true, Bool.or_eq_true, beq_iff_eq, dec] at h2
    exact ⟨h2.1.1, h2.1.2, h2.2⟩
  exact ⟨this, this⟩
theorem loud_nan {s : Int} {a : Nat} (h : nanN s a = false) : loudN s a = false := by
  unfold nanN at h; unfold loudN
  simp only [decide_eq_false_iff_not] at h ⊢; omega
theorem inf_nan {s : Int} {a : Nat} (h : infN s a = true) : nanN s a = false := by
  unfold infN at h; unfold nanN
  simp only [dec, decide_eq_false_iff_not] at h ⊢; omega
section
variable {s rm : Int} (hs : s = 4 ∨ s = 8) (h0 : 0 ≤ rm) (h1 : rm ≤ 4) {a b : Nat} (ha : a < 18446744073709551616) (hb : b < 18446744073709551616)
include hs ha hb
include h0 h1
end
end Go.Proofs.Ytacciadcmiiimaa

namespace Go.Proofs.Ytacciadcmiiimaa
open Go Go.Sx Go.Rnd
set_option maxRecDepth 100000
set_option maxHeartbeats 2000000

def magN (s : Int) (a : Nat) : Nat := a % topN s
def clN (s : Int) (a : Nat) : Int := if nanN s a then (if loudN s a then 8 else 9) else if infN s a then 7 else if zerN s a then 4 else if 0 < exf s a then 6 else 5
theorem uN {a : Nat} (h : a < 18446744073709551616) : U (a : Int) := ⟨by omega, by omega⟩

section
variable {s rm : Int} (hs : s = 4 ∨ s = 8) {a : Nat} (ha : a < 18446744073709551616)
include hs
theorem of62 : r62_0 s = (frN s : Int) ∧ r62_1 s = (biN s : Int) ∧ r62_2 s = (topN s : Int) := of92 hs
theorem mag_nat (a : Nat) : mag s (a : Int) = (magN s a : Int) := by
  rcases hs with rfl | rfl
  · show (a : Int) % 2147483648 = ((a % 2147483648 : Nat) : Int); omega
  · show (a : Int) % 9223372036854775808 = ((a % 9223372036854775808 : Nat) : Int); omega
theorem mag_parts (a : Nat) : exf s a = magN s a / oneN s ∧ frf s a = magN s a % oneN s ∧ magN s a < topN s := by
  unfold exf frf magN mkN
  rcases hs with rfl | rfl
  · have e1 : oneN 4 = 8388608 := rfl
    have e2 : topN 4 = 2147483648 := rfl
    have e3 : emaxN 4 = 255 := rfl
    rw [e1, e2, e3, if_pos rfl]; omega
  · have e1 : oneN 8 = 4503599627370496 := rfl
    have e2 : topN 8 = 9223372036854775808 := rfl
    have e3 : emaxN 8 = 2047 := rfl
    rw [e1, e2, e3, if_neg (by decide)]; omega
include ha
theorem cminus_ok : r65_0 (topN s) (a : Int) = sgN s a := by
  obtain ⟨g1, g2, g3⟩ := of62 hs
  have h1 := g_minus hs (uN ha)
  have h2 := g_parts0 hs (uN ha)
  have h3 := (parts_ok hs ha).2.1
  rw [← g3, h1, ← h2, h3]
theorem csize_ok : r86_0 (topN s) (a : Int) = (magN s a : Int) := by
  obtain ⟨g1, g2, g3⟩ := of62 hs
  rw [← g3, g_size hs (uN ha), mag_nat hs]
theorem cclass_ok : p67 (frN s) (biN s) (topN s) (a : Int) = true ∧ r67_0 (frN s) (biN s) (topN s) (a : Int) = clN s a := by
  obtain ⟨g1, g2, g3⟩ := of62 hs
  have h1 := g_class hs (uN ha)
  have hp := g_p67 hs (a : Int)
  have n1 := (g_nan hs (uN ha)).symm.trans (nan_ok hs ha).2
  have n2 := (g_loud hs (uN ha)).symm.trans (loud_ok hs ha).2
  have n3 := (g_isinf hs (uN ha)).symm.trans (inf_ok hs ha).2
  have n4 := (g_zero hs (uN ha)).symm.trans (zero_ok hs ha).2
  have n5 := (mag_parts hs a).1
  have n6 := mag_nat hs a
  obtain ⟨c1, c2, c3, c4, c5⟩ := g_const hs
  have c6 : one s = (oneN s : Int) := by rcases hs with rfl | rfl <;> rfl
  rw [g1, g2, g3] at h1 hp
  refine ⟨hp, h1.trans ?_⟩
  unfold cls clN
  rw [← n1, ← n2, ← n3, ← n4]
  have hm := g_mag hs (a : Int)
  have n7 : (0 < exf s a) = (one s ≤ mag s (a : Int)) := by
    rw [n5, n6, c6]
    have ho : 0 < oneN s := by omega
    have : oneN s ≤ magN s a ↔ 0 < magN s a / oneN s := ⟨fun h => Nat.div_pos h ho, fun h => by
      refine Nat.le_of_not_lt fun hc => ?_
      rw [Nat.div_eq_of_lt hc] at h; omega⟩
    simp only [eq_iff_iff]; omega
  simp only [n7, dec]
  generalize mag s (a : Int) = m at *
  (repeat' split) <;> omega
theorem cfin_ok : p68 (frN s) (topN s) (a : Int) = true ∧ r68_0 (frN s) (topN s) (a : Int) = (fM s a : Int) ∧ r68_1 (frN s) (biN s) (topN s) (a : Int) = fE s a := by
  obtain ⟨f1, f2, f3, f4, f5, f6, f7, f8, f9, f10⟩ := size_facts hs
  obtain ⟨n1, n2, n3⟩ := mag_parts hs a
  have k := csize_ok hs ha
  have hx := ex_le hs ha
  have hf := fr_lt hs ha
  have e1 : ishr .u64 (magN s a : Int) (frN s : Int) = (exf s a : Int) := by rw [shr_nat (by omega), f5, n1]
  have e2 : iland .u64 (magN s a : Int) (IntKind.wrap .u64 (ishl .u64 1 (frN s : Int) - 1)) = (frf s a : Int) := by rw [low_mask (by omega) (by omega), f5, n2]
  have e3 : ilor .u64 (frf s a : Int) (ishl .u64 1 (frN s : Int)) = ((frf s a + oneN s : Nat) : Int) := by
    rw [shl_one (by omega), lor_nn (by omega) (by omega)]
    have := or_high (c := frf s a) (x := 1) (s := frN s) (by omega)
    rw [Nat.one_mul] at this
    rw [this, f5]
  have w1 : IntKind.wrap .i64 (exf s a : Int) = exf s a := wri (by have := (emax_facts hs).1; omega)
  have a1 : decide ((frN s : Int) ≥ 0) = true := decide_eq_true (by omega)
  refine ⟨?_, ?_, ?_⟩
  · simp only [p68, a1, ow_t]; rfl
  · simp only [r68_0, k, e1, e2, e3]
    unfold fM
    by_cases h : 0 < exf s a
    · rw [if_pos h, decide_eq_true (show (exf s a : Int) > 0 by omega)]; rfl
    · rw [if_neg h, decide_eq_false (show ¬ (exf s a : Int) > 0 by omega)]
      show (magN s a : Int) = _
      rw [n2]
      have : magN s a < oneN s := by
        refine Nat.lt_of_not_le fun hc => h ?_
        rw [n1]; exact Nat.div_pos hc (by omega)
      rw [Nat.mod_eq_of_lt this]
  · simp only [r68_1, k, e1, w1]
    unfold fE
    have hm := (emax_facts hs).1
    by_cases h : 0 < exf s a
    · rw [if_pos h, decide_eq_false (show ¬ (1 : Int) > exf s a by omega), cond_false, wrap_i64_of (n := (exf s a : Int) - biN s) (by omega) (by omega), wrap_i64_of (by omega) (by omega)]
    · rw [if_neg h, decide_eq_true (show (1 : Int) > exf s a by omega), cond_true, wrap_i64_of (n := 1 - (biN s : Int)) (by omega) (by omega), wrap_i64_of (by omega) (by omega)]
omit ha in
theorem cnan_ok : p63 (frN s) = true ∧ r63_0 (frN s) (biN s) = (quiB s : Int) ∧ p83 (frN s) = true ∧ r83_0 (frN s) (biN s) = (infB s : Int) := by rcases hs with rfl | rfl <;> decide
omit ha in
theorem csigned_ok (m : Bool) {x : Nat} (hx : x < topN s) : r82_0 (topN s : Int) m (x : Int) = ((sgB s m + x : Nat) : Int) := signed_ok hs m hx
end

def oth (s : Int) : Int := if s = 4 then 8 else 4
theorem oth_ok {s : Int} (hs : s = 4 ∨ s = 8) : (oth s = 4 ∨ oth s = 8) ∧ IntKind.wrap .i64 (12 - s) = oth s := by rcases hs with rfl | rfl <;> decide
def cvtS (s rm : Int) (a : Nat) : Nat × Nat :=
  if nanN (oth s) a then (quiB s, if loudN (oth s) a then 16 else 0)
  else if infN (oth s) a then (sgB s (sgN (oth s) a) + infB s, 0)
  else if zerN (oth s) a then (sgB s (sgN (oth s) a), 0)
  else rndP s rm (sgN (oth s) a) (fM (oth s) a) (fE (oth s) a) false
section
variable {s rm : Int} (hs : s = 4 ∨ s = 8) (h0 : 0 ≤ rm) (h1 : rm ≤ 4) {a : Nat} (ha : a < 18446744073709551616)
include hs ha h0 h1
theorem scvt_ok : p29 s rm a = true ∧ r29_0 s rm a = ((cvtS s rm a).1 : Int) ∧ r29_1 s rm a = ((cvtS s rm a).2 : Int) := by
  obtain ⟨ho, hw⟩ := oth_ok hs
  obtain ⟨g1, g2, g3⟩ := of62 hs
  obtain ⟨t1, t2, t3⟩ := of62 ho
  have hk : r64_0 s rm = true := (right_ok hs h0 h1).1
  have km := cminus_ok ho ha
  obtain ⟨kp, kc⟩ := cclass_ok ho ha
  obtain ⟨d1, d2, d3⟩ := cfin_ok ho ha
  obtain ⟨n1, n2, n3, n4⟩ := cnan_ok hs
  have hE := fE_le ho ha
  have hl := blenM ho ha
  have s1 := csigned_ok hs (sgN (oth s) a) (x := infB s) (by rcases hs with rfl | rfl <;> decide)
  have s2 := csigned_ok hs (sgN (oth s) a) (x := 0) (by rcases hs with rfl | rfl <;> decide)
  have s2 : r82_0 (topN s) (sgN (oth s) a) 0 = (sgB s (sgN (oth s) a) : Int) := s2
  have hM : fM (oth s) a < 18446744073709551616 := by have := blen_le.1 hl; omega
  have key : finN (oth s) a = true → p78 (frN s) (biN s) rm (sgN (oth s) a) (fM (oth s) a) (fE (oth s) a) = true ∧ r78_0 (frN s) (biN s) (topN s) rm (sgN (oth s) a) (fM (oth s) a) (fE (oth s) a) = ((rndP s rm (sgN (oth s) a) (fM (oth s) a) (fE (oth s) a) false).1 : Int) ∧
      r78_1 (frN s) (biN s) rm (sgN (oth s) a) (fM (oth s) a) (fE (oth s) a) = ((rndP s rm (sgN (oth s) a) (fM (oth s) a) (fE (oth s) a) false).2 : Int) :=
    fun h => cround_ok hs (fM_pos ho ha h) hM (by omega) (by omega)
  have fin : finN (oth s) a = (!nanN (oth s) a && !infN (oth s) a && !zerN (oth s) a) := rfl
  rw [fin] at key
  have hx : (if 0 < exf (oth s) a then (6 : Int) else 5) = 6 ∨ (if 0 < exf (oth s) a then (6 : Int) else 5) = 5 := by split <;> simp
  unfold cvtS
  unfold clN at kc
  generalize (if 0 < exf (oth s) a then (6 : Int) else 5) = c at *
  refine ⟨?_, ?_, ?_⟩
  · simp only [p29, hk, hw, g1, g2, t1, t2, t3, kp, kc, km, n1, n3, d1, d2, d3]
    generalize p78 (frN s) (biN s) rm (sgN (oth s) a) (fM (oth s) a) (fE (oth s) a) = q at *
    revert key
    cases nanN (oth s) a <;> cases loudN (oth s) a <;> cases infN (oth s) a <;> cases zerN (oth s) a <;> intro key <;> rcases hx with rfl | rfl <;> first | rfl | (rw [(key rfl).1]; rfl)
  · simp only [r29_0, hk, hw, g1, g2, g3, t1, t2, t3, kc, km, n2, n4, d2, d3, s1, s2]
    generalize r78_0 (frN s) (biN s) (topN s) rm (sgN (oth s) a) (fM (oth s) a) (fE (oth s) a) = q at *
    revert key
    cases nanN (oth s) a <;> cases loudN (oth s) a <;> cases infN (oth s) a <;> cases zerN (oth s) a <;> intro key <;> rcases hx with rfl | rfl <;> first | rfl | exact (key rfl).2.1
  · simp only [r29_1, hk, hw, g1, g2, t1, t2, t3, kc, km, d2, d3]
    generalize r78_1 (frN s) (biN s) rm (sgN (oth s) a) (fM (oth s) a) (fE (oth s) a) = q at *
    revert key
    cases nanN (oth s) a <;> cases loudN (oth s) a <;> cases infN (oth s) a <;> cases zerN (oth s) a <;> intro key <;> rcases hx with rfl | rfl <;> first | rfl | exact (key rfl).2.2
theorem rcvt_ok : p30 s rm a = true ∧ r30_0 s rm a = ((cvtS s rm a).1 : Int) ∧ r30_1 s rm a = ((cvtS s rm a).2 : Int) := by
  obtain ⟨ho, hw⟩ := oth_ok hs
  have hk : r71_0 s rm = true := (right_ok hs h0 h1).2
  obtain ⟨l1, l2⟩ := loud_ok ho ha
  obtain ⟨n1, n2⟩ := nan_ok ho ha
  obtain ⟨i1, i2⟩ := inf_ok ho ha
  obtain ⟨z1, z2⟩ := zero_ok ho ha
  obtain ⟨m1, m2⟩ := minused_ok ho ha
  obtain ⟨o1, o2, o3, o4⟩ := of_ok ho ha
  obtain ⟨y1, y2⟩ := infinity_ok hs (sgN (oth s) a)
  obtain ⟨x1, x2⟩ := nought_ok hs (sgN (oth s) a)
  have q := quiet_ok hs
  have hE := fE_le ho ha
  have hl := blenM ho ha
  have key := rround_ok hs (rm := rm) (minus := sgN (oth s) a) (M := fM (oth s) a) (E := fE (oth s) a) (more := false) (by omega) (by omega) (by omega)
  have ln := loud_nan (s := oth s) (a := a)
  unfold cvtS
  refine ⟨?_, ?_, ?_⟩
  · simp only [p30, hk, hw, l1, n1, i1, m1, z1, o1, m2, y1, x1, o2, o3, o4, key.1, ow_t]; rfl
  · simp only [r30_0, hk, hw, l2, n2, i2, m2, z2, o2, o3, o4, q, y2, x2, key.2.1]
    revert ln
    cases nanN (oth s) a <;> cases loudN (oth s) a <;> cases infN (oth s) a <;> cases zerN (oth s) a <;> intro ln <;> first | rfl | cases ln rfl
  · simp only [r30_1, hk, hw, l2, n2, i2, z2, o2, o3, o4, key.2.2]
    revert ln
    cases nanN (oth s) a <;> cases loudN (oth s) a <;> cases infN (oth s) a <;> cases zerN (oth s) a <;> intro ln <;> first | rfl | cases ln rfl
end
theorem conv_floats (s rm : Int) {a : Nat} (ha : a < 18446744073709551616) : p29 s rm a = true ∧ p30 s rm a = true ∧ r29_0 s rm a = r30_0 s rm a ∧ r29_1 s rm a = r30_1 s rm a := by
  by_cases h : (s = 4 ∨ s = 8) ∧ 0 ≤ rm ∧ rm ≤ 4
  · obtain ⟨hs, h0, h1⟩ := h
    obtain ⟨x0, x1, x2⟩ := scvt_ok hs h0 h1 ha
    obtain ⟨y0, y1, y2⟩ := rcvt_ok hs h0 h1 ha
    exact ⟨x0, y0, x1.trans y1.symm, x2.trans y2.symm⟩
  · obtain ⟨k1, k2⟩ := right_not h
    have k1 : r64_0 s rm = false := k1
    have k2 : r71_0 s rm = false := k2
    refine ⟨?_, ?_, ?_, ?_⟩
    · simp only [p29, k1]; rfl
    · simp only [p30, k2]; rfl
    · simp only [r29_0, r30_0, k1, k2]; rfl
    · simp only [r29_1, r30_1, k1, k2]; rfl
theorem law_floats {s rm a : Int} (h : U a) : p5 s rm a = true ∧ r5_0 s rm a = true := by
  obtain ⟨n, rfl, hn⟩ : ∃ n : Nat, a = n ∧ n < 18446744073709551616 := ⟨a.toNat, by have := h.1; omega, by have := h.1; have := h.2; omega⟩
  obtain ⟨w1, w2⟩ := awake_ok
  obtain ⟨m1, m2, m3, m4⟩ := conv_floats s rm hn
  constructor
  · simp only [p5, w1, m1, m2, ow_t]; rfl
  · simp only [r5_0, w2, m3, m4, beq_self_eq_true]; rfl
theorem uOfC {a : Int} (h : (Lit.int .u64 a).wf = true) : U a := by
  simp [Lit.wf, IntKind.min, IntKind.max, IntKind.signed, IntKind.bits] at h
  exact ⟨by omega, by omega⟩
end Go.Proofs.Ytacciadcmiiimaa

namespace Go.Proofs.Ytacciadcmiiimaa
open Go Go.Sx
set_option maxRecDepth 100000
set_option maxHeartbeats 4000000
theorem ev35 : evFn Try.prog S35 2000 Try.f35 s35 = some o35 := by kernel_rfl
theorem ev116 : evFn Try.prog S116 2000 Try.f116 s116 = some o116 := by kernel_rfl
theorem ev68 : evFn Try.prog S68 2000 Try.f68 s68 = some o68 := by kernel_rfl
theorem ev39 : evFn Try.prog S39 2000 Try.f39 s39 = some o39 := by kernel_rfl
theorem ev87 : evFn Try.prog S87 2000 Try.f87 s87 = some o87 := by kernel_rfl
theorem ev83 : evFn Try.prog S83 2000 Try.f83 s83 = some o83 := by kernel_rfl
theorem ev115 : evFn Try.prog S115 2000 Try.f115 s115 = some o115 := by kernel_rfl
end Go.Proofs.Ytacciadcmiiimaa

namespace Go.Proofs.Ytacciadcmiiimaa
open Go Go.Sx
set_option maxRecDepth 100000
set_option maxHeartbeats 4000000
theorem ev104 : evFn Try.prog S104 2000 Try.f104 s104 = some o104 := by kernel_rfl
theorem ev78 : evFn Try.prog S78 2000 Try.f78 s78 = some o78 := by kernel_rfl
theorem ev26 : evFn Try.prog S26 2000 Try.f26 s26 = some o26 := by kernel_rfl
theorem ev30 : evFn Try.prog S30 2000 Try.f30 s30 = some o30 := by kernel_rfl
theorem ev37 : evFn Try.prog S37 2000 Try.f37 s37 = some o37 := by kernel_rfl
theorem ev118 : evFn Try.prog S118 2000 Try.f118 s118 = some o118 := by kernel_rfl
theorem ev72 : evFn Try.prog S72 2000 Try.f72 s72 = some o72 := by kernel_rfl
theorem ev84 : evFn Try.prog S84 2000 Try.f84 s84 = some o84 := by kernel_rfl
theorem ev63 : evFn Try.prog S63 2000 Try.f63 s63 = some o63 := by kernel_rfl
theorem ev71 : evFn Try.prog S71 2000 Try.f71 s71 = some o71 := by kernel_rfl
theorem ev82 : evFn Try.prog S82 2000 Try.f82 s82 = some o82 := by kernel_rfl
theorem ev40 : evFn Try.prog S40 2000 Try.f40 s40 = some o40 := by kernel_rfl
end Go.Proofs.Ytacciadcmiiimaa

namespace Go.Proofs.Ytacciadcmiiimaa
open Go Go.Sx
set_option maxRecDepth 100000
set_option maxHeartbeats 4000000
theorem ev114 : evFn Try.prog S114 2000 Try.f114 s114 = some o114 := by kernel_rfl
theorem ev20 : evFn Try.prog S20 2000 Try.f20 s20 = some o20 := by kernel_rfl
theorem ev70 : evFn Try.prog S70 2000 Try.f70 s70 = some o70 := by kernel_rfl
theorem ev28 : evFn Try.prog S28 2000 Try.f28 s28 = some o28 := by kernel_rfl
theorem ev117 : evFn Try.prog S117 2000 Try.f117 s117 = some o117 := by kernel_rfl
theorem ev4 : evFn Try.prog S4 2000 Try.f4 s4 = some o4 := by kernel_rfl
theorem ev33 : evFn Try.prog S33 2000 Try.f33 s33 = some o33 := by kernel_rfl
theorem ev23 : evFn Try.prog S23 2000 Try.f23 s23 = some o23 := by kernel_rfl
theorem ev42 : evFn Try.prog S42 2000 Try.f42 s42 = some o42 := by kernel_rfl
end Go.Proofs.Ytacciadcmiiimaa

namespace Go.Proofs.Ytacciadcmiiimaa
open Go Go.Sx
set_option maxRecDepth 100000
set_option maxHeartbeats 4000000
theorem ev25 : evFn Try.prog S25 2000 Try.f25 s25 = some o25 := by kernel_rfl
theorem ev77 : evFn Try.prog S77 2000 Try.f77 s77 = some o77 := by kernel_rfl
theorem ev75 : evFn Try.prog S75 2000 Try.f75 s75 = some o75 := by kernel_rfl
theorem ev69 : evFn Try.prog S69 2000 Try.f69 s69 = some o69 := by kernel_rfl
theorem ev76 : evFn Try.prog S76 2000 Try.f76 s76 = some o76 := by kernel_rfl
theorem ev90 : evFn Try.prog S90 2000 Try.f90 s90 = some o90 := by kernel_rfl
theorem ev126 : evFn Try.prog S126 2000 Try.f126 s126 = some o126 := by kernel_rfl
theorem ev41 : evFn Try.prog S41 2000 Try.f41 s41 = some o41 := by kernel_rfl
theorem ev56 : evFn Try.prog S56 2000 Try.f56 s56 = some o56 := by kernel_rfl
theorem ev80 : evFn Try.prog S80 2000 Try.f80 s80 = some o80 := by kernel_rfl
theorem ev61 : evFn Try.prog S61 2000 Try.f61 s61 = some o61 := by kernel_rfl
theorem ev64 : evFn Try.prog S64 2000 Try.f64 s64 = some o64 := by kernel_rfl
theorem ev74 : evFn Try.prog S74 2000 Try.f74 s74 = some o74 := by kernel_rfl
theorem ev65 : evFn Try.prog S65 2000 Try.f65 s65 = some o65 := by kernel_rfl
end Go.Proofs.Ytacciadcmiiimaa

namespace Go.Proofs.Ytacciadcmiiimaa
open Go Go.Sx
set_option maxRecDepth 100000
set_option maxHeartbeats 4000000
theorem ev81 : evFn Try.prog S81 2000 Try.f81 s81 = some o81 := by kernel_rfl
theorem ev29 : evFn Try.prog S29 2000 Try.f29 s29 = some o29 := by kernel_rfl
theorem ev27 : evFn Try.prog S27 2000 Try.f27 s27 = some o27 := by kernel_rfl
theorem ev113 : evFn Try.prog S113 2000 Try.f113 s113 = some o113 := by kernel_rfl
theorem ev5 : evFn Try.prog S5 2000 Try.f5 s5 = some o5 := by kernel_rfl
theorem ev73 : evFn Try.prog S73 2000 Try.f73 s73 = some o73 := by kernel_rfl
theorem ev85 : evFn Try.prog S85 2000 Try.f85 s85 = some o85 := by kernel_rfl
theorem ev66 : evFn Try.prog S66 2000 Try.f66 s66 = some o66 := by kernel_rfl
theorem ev119 : evFn Try.prog S119 2000 Try.f119 s119 = some o119 := by kernel_rfl
theorem ev86 : evFn Try.prog S86 2000 Try.f86 s86 = some o86 := by kernel_rfl
theorem ev21 : evFn Try.prog S21 2000 Try.f21 s21 = some o21 := by kernel_rfl
end Go.Proofs.Ytacciadcmiiimaa

namespace Go.Proofs.Ytacciadcmiiimaa
open Go Go.Sx
set_option maxRecDepth 100000
set_option maxHeartbeats 4000000
theorem ev112 : evFn Try.prog S112 2000 Try.f112 s112 = some o112 := by kernel_rfl
theorem ev110 : evFn Try.prog S110 2000 Try.f110 s110 = some o110 := by kernel_rfl
theorem ev111 : evFn Try.prog S111 2000 Try.f111 s111 = some o111 := by kernel_rfl
theorem ev67 : evFn Try.prog S67 2000 Try.f67 s67 = some o67 := by kernel_rfl
theorem ev31 : evFn Try.prog S31 2000 Try.f31 s31 = some o31 := by kernel_rfl
theorem ev62 : evFn Try.prog S62 2000 Try.f62 s62 = some o62 := by kernel_rfl
theorem ev89 : evFn Try.prog S89 2000 Try.f89 s89 = some o89 := by kernel_rfl
theorem ev79 : evFn Try.prog S79 2000 Try.f79 s79 = some o79 := by kernel_rfl
end Go.Proofs.Ytacciadcmiiimaa

