/- Products. -/
import Derived.Test.YtacciadcmiiimaaN6
namespace Go.Proofs.Ytacciadcmiiimaa
open Go Go.Sx Go.Rnd
set_option maxRecDepth 100000
set_option maxHeartbeats 1000000

theorem mul64_ok {x y : Nat} (hx : x < 18446744073709551616) (hy : y < 18446744073709551616) : r97_0 (x : Int) (y : Int) = (hiN (x * y) : Int) ∧ r97_1 (x : Int) (y : Int) = (loN (x * y) : Int) := by
  constructor
  · have lo : ∀ z : Nat, z < 18446744073709551616 → iland .u64 (z : Int) 4294967295 = ((z % 4294967296 : Nat) : Int) := fun z hz => land_low (n := 32) hz (by decide)
    have w : ∀ z : Nat, z < 18446744073709551616 → IntKind.wrap .u64 (z : Int) = (z : Int) := fun z hz => wr64 hz
    simp only [r97_0]
    rw [lo x hx, lo y hy, shr32, shr32]
    have hx0 : x % 4294967296 < 4294967296 := Nat.mod_lt _ (by decide)
    have hy0 : y % 4294967296 < 4294967296 := Nat.mod_lt _ (by decide)
    have hx1 : x / 4294967296 < 4294967296 := by omega
    have hy1 : y / 4294967296 < 4294967296 := by omega
    have ex : x = x / 4294967296 * 4294967296 + x % 4294967296 := by omega
    have ey : y = y / 4294967296 * 4294967296 + y % 4294967296 := by omega
    have he : x * y = (x / 4294967296 * (y / 4294967296)) * 18446744073709551616 + (x / 4294967296 * (y % 4294967296) + x % 4294967296 * (y / 4294967296)) * 4294967296 + x % 4294967296 * (y % 4294967296) := by
      conv => lhs; rw [ex, ey]
      rw [Nat.add_mul, Nat.mul_add, Nat.mul_add, Nat.add_mul]
      have e1 : x / 4294967296 * 4294967296 * (y / 4294967296 * 4294967296) = x / 4294967296 * (y / 4294967296) * 18446744073709551616 := by
        rw [Nat.mul_mul_mul_comm]
      have e2 : x / 4294967296 * 4294967296 * (y % 4294967296) = x / 4294967296 * (y % 4294967296) * 4294967296 := Nat.mul_right_comm ..
      have e3 : x % 4294967296 * (y / 4294967296 * 4294967296) = x % 4294967296 * (y / 4294967296) * 4294967296 := (Nat.mul_assoc ..).symm
      omega
    generalize x % 4294967296 = a0 at *
    generalize x / 4294967296 = a1 at *
    generalize y % 4294967296 = b0 at *
    generalize y / 4294967296 = b1 at *
    have m : ∀ p q : Nat, p < 4294967296 → q < 4294967296 → p * q ≤ 18446744065119617025 := fun p q hp hq => Nat.mul_le_mul (show p ≤ 4294967295 by omega) (show q ≤ 4294967295 by omega)
    have m00 := m a0 b0 hx0 hy0
    have m10 := m a1 b0 hx1 hy0
    have m01 := m a0 b1 hx0 hy1
    have m11 := m a1 b1 hx1 hy1
    rw [he]
    rw [← Int.natCast_mul, ← Int.natCast_mul, ← Int.natCast_mul, ← Int.natCast_mul]
    generalize a0 * b0 = p00 at *
    generalize a1 * b0 = p10 at *
    generalize a0 * b1 = p01 at *
    generalize a1 * b1 = p11 at *
    rw [w p00 (by omega), w p10 (by omega), w p01 (by omega), w p11 (by omega), shr32, ← Int.natCast_add, w (p10 + p00 / 4294967296) (by omega), lo _ (by omega), shr32, ← Int.natCast_add ((p10 + p00 / 4294967296) % 4294967296) p01,
      w ((p10 + p00 / 4294967296) % 4294967296 + p01) (by omega), shr32, ← Int.natCast_add p11]
    unfold hiN
    have hf : p11 + (p10 + p00 / 4294967296) / 4294967296 + ((p10 + p00 / 4294967296) % 4294967296 + p01) / 4294967296 = (p11 * 18446744073709551616 + (p10 + p01) * 4294967296 + p00) / 18446744073709551616 := by omega
    have hlt : (p11 * 18446744073709551616 + (p10 + p01) * 4294967296 + p00) / 18446744073709551616 < 18446744073709551616 := by
      rw [← he]
      rw [Nat.div_lt_iff_lt_mul (by decide)]
      exact Nat.mul_lt_mul_of_lt_of_le hx (Nat.le_of_lt hy) (by decide)
    rw [← hf] at hlt
    rw [w _ (by omega), ← Int.natCast_add, w _ hlt, hf]
  · simp only [r97_1]
    rw [← Int.natCast_mul, wrap_u64]; rfl

def oddP (s : Int) (inv loud : Bool) : Nat × Nat := (quiB s, if inv || loud then 16 else 0)
def rndP (s rm : Int) (mi : Bool) (M : Nat) (E : Int) (more : Bool) : Nat × Nat := (sgB s mi + (rnd (frN s) (biN s) rm mi M E more).1, (rnd (frN s) (biN s) rm mi M E more).2)
def mulS (s rm : Int) (a b : Nat) : Nat × Nat :=
  if (infN s a && zerN s b || zerN s a && infN s b) || nanN s a || nanN s b then oddP s (infN s a && zerN s b || zerN s a && infN s b) (loudN s a || loudN s b)
  else if infN s a || infN s b then (sgB s (sgN s a != sgN s b) + infB s, 0)
  else if zerN s a || zerN s b then (sgB s (sgN s a != sgN s b), 0)
  else rndP s rm (sgN s a != sgN s b) (fM s a * fM s b) (fE s a + fE s b) false

theorem right_ok {s rm : Int} (hs : s = 4 ∨ s = 8) (h0 : 0 ≤ rm) (h1 : rm ≤ 4) : r91_0 s rm = true ∧ r99_0 s rm = true := by
  have e1 : decide (rm ≥ 0) = true := decide_eq_true h0
  have e2 : decide (rm ≤ 4) = true := decide_eq_true h1
  rcases hs with rfl | rfl <;> (constructor <;> (first | simp only [r91_0, e1, e2] | simp only [r99_0, e1, e2]) <;> rfl)
theorem loud_nan {s : Int} {a : Nat} (h : nanN s a = false) : loudN s a = false := by
  unfold nanN at h; unfold loudN
  simp only [decide_eq_false_iff_not] at h ⊢; omega
theorem inf_nan {s : Int} {a : Nat} (h : infN s a = true) : nanN s a = false := by
  unfold infN at h; unfold nanN
  simp only [dec, decide_eq_false_iff_not] at h ⊢; omega
theorem zer_inf {s : Int} (hs : s = 4 ∨ s = 8) {a : Nat} (h : zerN s a = true) : infN s a = false ∧ nanN s a = false := by
  have := (emax_facts hs).1
  unfold zerN at h; unfold infN nanN
  simp only [dec, decide_eq_false_iff_not] at h ⊢; omega
theorem nans_at {s : Int} (hs : s = 4 ∨ s = 8) {inv B I : Bool} {fs : List DV} {r3 : DV} {n : Nat} (hn : fs.length = 5 * n) (h : L109400 (n : Int) fs inv inv 0 = some [.i 0, .b B, .b I, r3]) :
    p94 (frN s) inv fs = true ∧ r94_0 (frN s) (biN s) inv fs = (quiB s : Int) ∧ r94_1 inv fs = (if B then 16 else 0) ∧ r94_2 inv fs = (B || I) := by
  refine nans_of hs (r3 := r3) ?_
  rw [hn, Nat.mul_div_cancel_left _ (by decide)]
  exact h

section
variable {s rm : Int} (hs : s = 4 ∨ s = 8) (h0 : 0 ≤ rm) (h1 : rm ≤ 4) {a b : Nat} (ha : a < 18446744073709551616) (hb : b < 18446744073709551616)
include hs ha hb
theorem nans_2 (inv : Bool) : p94 (frN s) inv [.b (sgN s a), .b (loudN s a), .i (kdN s a), .i (teN s a), .i (tmN s a), .b (sgN s b), .b (loudN s b), .i (kdN s b), .i (teN s b), .i (tmN s b)] = true ∧
    r94_0 (frN s) (biN s) inv [.b (sgN s a), .b (loudN s a), .i (kdN s a), .i (teN s a), .i (tmN s a), .b (sgN s b), .b (loudN s b), .i (kdN s b), .i (teN s b), .i (tmN s b)] = (quiB s : Int) ∧
    r94_1 inv [.b (sgN s a), .b (loudN s a), .i (kdN s a), .i (teN s a), .i (tmN s a), .b (sgN s b), .b (loudN s b), .i (kdN s b), .i (teN s b), .i (tmN s b)] = (if inv || (loudN s a || loudN s b) then 16 else 0) ∧
    r94_2 inv [.b (sgN s a), .b (loudN s a), .i (kdN s a), .i (teN s a), .i (tmN s a), .b (sgN s b), .b (loudN s b), .i (kdN s b), .i (teN s b), .i (tmN s b)] = (inv || nanN s a || nanN s b) := by
  have _ := ha; have _ := hb
  have h := nans_at hs (n := 2) rfl (nans2 (inv := inv) (s1 := sgN s a) (l1 := loudN s a) (k1 := kdN s a) (e1 := teN s a) (m1 := tmN s a) (s2 := sgN s b) (l2 := loudN s b) (k2 := kdN s b) (e2 := teN s b) (m2 := tmN s b))
  rw [bad_kd, bad_kd, kd3, kd3] at h
  have h2 := loud_nan (s := s) (a := a)
  have h3 := loud_nan (s := s) (a := b)
  refine ⟨h.1, h.2.1, h.2.2.1.trans ?_, h.2.2.2.trans ?_⟩
  · rw [Bool.or_assoc]
  · revert h2 h3
    cases inv <;> cases nanN s a <;> cases nanN s b <;> cases loudN s a <;> cases loudN s b <;> simp
include h0 h1
theorem smul_ok : p44 s rm a b = true ∧ r44_0 s rm a b = ((mulS s rm a b).1 : Int) ∧ r44_1 s rm a b = ((mulS s rm a b).2 : Int) := by
  obtain ⟨g1, g2, g3⟩ := of92 hs
  obtain ⟨f1, f2, f3, f4, f5, f6, f7, f8, f9, f10⟩ := size_facts hs
  have hk := (right_ok hs h0 h1).1
  have ta := take_ok hs ha
  have tb := take_ok hs hb
  obtain ⟨n0, n1, n2, n3⟩ := nans_2 hs ha hb (infN s a && zerN s b || zerN s a && infN s b)
  obtain ⟨v1, v2⟩ := mul64_ok (tm_lt hs ha) (tm_lt hs hb)
  have ea := te_le hs ha
  have eb := te_le hs hb
  have w : IntKind.wrap .i64 (teN s a + teN s b) = teN s a + teN s b := wrap_i64_of (by omega) (by omega)
  have hi96 := inf96 hs
  have p96 : p96 (frN s) = true := by simp only [p96]; rw [decide_eq_true (by omega)]; rfl
  have s1 := signed_ok hs (sgN s a != sgN s b) (x := infB s) (by rcases hs with rfl | rfl <;> decide)
  have s2 := signed_ok hs (sgN s a != sgN s b) (x := 0) (by rcases hs with rfl | rfl <;> decide)
  have s2 : r95_0 (topN s) (sgN s a != sgN s b) 0 = (sgB s (sgN s a != sgN s b) : Int) := s2
  have key : finN s a = true → finN s b = true → p98 (frN s) (biN s) rm (sgN s a != sgN s b) (teN s a + teN s b) (hiN (tmN s a * tmN s b)) (loN (tmN s a * tmN s b)) = true ∧
      r98_0 (frN s) (biN s) (topN s) rm (sgN s a != sgN s b) (teN s a + teN s b) (hiN (tmN s a * tmN s b)) (loN (tmN s a * tmN s b)) = ((rndP s rm (sgN s a != sgN s b) (fM s a * fM s b) (fE s a + fE s b) false).1 : Int) ∧
      r98_1 (frN s) (biN s) rm (sgN s a != sgN s b) (teN s a + teN s b) (hiN (tmN s a * tmN s b)) (loN (tmN s a * tmN s b)) = ((rndP s rm (sgN s a != sgN s b) (fM s a * fM s b) (fE s a + fE s b) false).2 : Int) := by
    intro fa fb
    obtain ⟨a1, a2, a3, a4, _⟩ := tm_facts hs ha fa
    obtain ⟨b1, b2, b3, b4, _⟩ := tm_facts hs hb fb
    have hp : 0 < tmN s a * tmN s b := Nat.mul_pos (by omega) (by omega)
    have hlt : tmN s a * tmN s b < two128 := Nat.mul_lt_mul_of_lt_of_le a2 (Nat.le_of_lt b2) (by decide)
    have hM : 0 < fM s a * fM s b := Nat.mul_pos (fM_pos hs ha fa) (fM_pos hs hb fb)
    have := sround_ok hs (rm := rm) (minus := (sgN s a != sgN s b)) hp hlt (e := teN s a + teN s b) (by omega) (by omega)
    have hsc := rnd_scale (f := frN s) (b := biN s) (rm := rm) (minus := (sgN s a != sgN s b)) (M := fM s a * fM s b) (k := lzN s a + lzN s b) (E := fE s a + fE s b) hM
    have e1 : tmN s a * tmN s b = fM s a * fM s b * 2 ^ (lzN s a + lzN s b) := by rw [a3, b3, Nat.pow_add, Nat.mul_mul_mul_comm]
    have e2 : teN s a + teN s b = fE s a + fE s b - ((lzN s a + lzN s b : Nat) : Int) := by rw [a4, b4]; omega
    rw [← e1, ← e2] at hsc
    rw [hsc] at this
    exact this
  have fin : finN s a = (!nanN s a && !infN s a && !zerN s a) := rfl
  have finb : finN s b = (!nanN s b && !infN s b && !zerN s b) := rfl
  rw [fin, finb] at key
  have ka2 := kd2 hs (a := a)
  have kb2 := kd2 hs (a := b)
  have ka0 := kd0 hs (a := a)
  have kb0 := kd0 hs (a := b)
  unfold mulS oddP
  refine ⟨?_, ?_, ?_⟩
  · simp only [p44, hk, g1, g2, g3, ta, tb, dget, List.getD_cons_succ, List.getD_cons_zero, DV.toB, DV.toI, ka2, kb2, ka0, kb0, n0, n3, p96, v1, v2, w]
    generalize p98 (frN s) (biN s) rm (sgN s a != sgN s b) (teN s a + teN s b) (hiN (tmN s a * tmN s b)) (loN (tmN s a * tmN s b)) = q at *
    revert key
    cases nanN s a <;> cases nanN s b <;> cases infN s a <;> cases infN s b <;> cases zerN s a <;> cases zerN s b <;> intro key <;> first | rfl | (rw [(key rfl rfl).1]; rfl)
  · simp only [r44_0, hk, g1, g2, g3, ta, tb, dget, List.getD_cons_succ, List.getD_cons_zero, DV.toB, DV.toI, ka2, kb2, ka0, kb0, n1, n3, v1, v2, w, hi96, s1, s2]
    generalize r98_0 (frN s) (biN s) (topN s) rm (sgN s a != sgN s b) (teN s a + teN s b) (hiN (tmN s a * tmN s b)) (loN (tmN s a * tmN s b)) = q at *
    revert key
    cases nanN s a <;> cases nanN s b <;> cases infN s a <;> cases infN s b <;> cases zerN s a <;> cases zerN s b <;> intro key <;> first | rfl | exact (key rfl rfl).2.1
  · simp only [r44_1, hk, g1, g2, g3, ta, tb, dget, List.getD_cons_succ, List.getD_cons_zero, DV.toB, DV.toI, ka2, kb2, ka0, kb0, n2, n3, v1, v2, w]
    generalize r98_1 (frN s) (biN s) rm (sgN s a != sgN s b) (teN s a + teN s b) (hiN (tmN s a * tmN s b)) (loN (tmN s a * tmN s b)) = q at *
    have l1 := loud_nan (s := s) (a := a)
    have l2 := loud_nan (s := s) (a := b)
    revert key l1 l2
    cases nanN s a <;> cases nanN s b <;> cases infN s a <;> cases infN s b <;> cases zerN s a <;> cases zerN s b <;> intro key l1 l2 <;>
      first | exact (key rfl rfl).2.2 | rfl | (cases loudN s a <;> cases loudN s b <;> first | rfl | cases l1 rfl | cases l2 rfl)
end
end Go.Proofs.Ytacciadcmiiimaa

namespace Go.Rnd
set_option maxRecDepth 100000
set_option maxHeartbeats 1000000

def truN (M : Nat) (b : Int) : Nat := if b ≤ 0 then M * 2 ^ (-b).toNat else M / 2 ^ b.toNat
def exaN (M : Nat) (b : Int) (more : Bool) : Bool := if b ≤ 0 then !more else M % 2 ^ b.toNat == 0 && !more
def upM (rm : Int) (minus : Bool) (M : Nat) (b : Int) (more : Bool) : Bool :=
  if b ≤ 0 then false else upB rm minus (M / 2 ^ b.toNat % 2 == 1) (M / 2 ^ (b.toNat - 1) % 2 == 1) (M % 2 ^ (b.toNat - 1) != 0 || more)
theorem cutN_parts (rm : Int) (minus : Bool) (M : Nat) (b : Int) (more : Bool) : cutN rm minus M b more = (truN M b + (if upM rm minus M b more then 1 else 0), exaN M b more) := by
  unfold cutN truN upM exaN
  by_cases h : b ≤ 0
  · rw [if_pos h, if_pos h, if_pos h, if_pos h]; rfl
  · rw [if_neg h, if_neg h, if_neg h, if_neg h]; rfl
theorem half_of {M n : Nat} (hn : 0 < n) : (M % 2 ^ n = 0) ↔ (M / 2 ^ (n - 1) % 2 = 0 ∧ M % 2 ^ (n - 1) = 0) := by
  obtain ⟨k, rfl⟩ : ∃ k, n = k + 1 := ⟨n - 1, by omega⟩
  rw [Nat.add_sub_cancel, Nat.pow_succ, Nat.mod_mul]
  have hp := Nat.two_pow_pos k
  have h2 : M / 2 ^ k % 2 < 2 := Nat.mod_lt _ (by decide)
  rcases Nat.lt_or_ge 0 (M / 2 ^ k % 2) with h3 | h3
  · have h4 : M / 2 ^ k % 2 = 1 := by omega
    rw [h4, Nat.mul_one]; omega
  · have h4 : M / 2 ^ k % 2 = 0 := by omega
    rw [h4, Nat.mul_zero]; omega
theorem upM_exact {rm : Int} {minus : Bool} {M : Nat} {b : Int} {more : Bool} (h : exaN M b more = true) : upM rm minus M b more = false := by
  unfold exaN at h; unfold upM
  by_cases hb : b ≤ 0
  · rw [if_pos hb]
  · rw [if_neg hb] at h ⊢
    simp only [Bool.and_eq_true, beq_iff_eq, Bool.not_eq_true'] at h
    obtain ⟨h1, h2⟩ := (half_of (show 0 < b.toNat by omega)).1 h.1
    rw [h1, h2, h.2]
    exact upB_none rm minus _
theorem upM_modes {minus : Bool} {M : Nat} {b : Int} {more : Bool} (h : exaN M b more = false) (hb : 0 < b) :
    upM 1 minus M b more = false ∧ upM 2 minus M b more = minus ∧ upM 3 minus M b more = !minus := by
  have key : (M / 2 ^ (b.toNat - 1) % 2 == 1 || (M % 2 ^ (b.toNat - 1) != 0 || more)) = true := by
    unfold exaN at h
    rw [if_neg (by omega)] at h
    have h2 := half_of (M := M) (show 0 < b.toNat by omega)
    have h3 : M / 2 ^ (b.toNat - 1) % 2 < 2 := Nat.mod_lt _ (by decide)
    cases more
    · simp only [Bool.not_false, Bool.and_true, beq_eq_false_iff_ne, ne_eq] at h
      rw [h2] at h
      simp only [Bool.or_false, Bool.or_eq_true, beq_iff_eq, bne_iff_ne, ne_eq]
      generalize M / 2 ^ (b.toNat - 1) % 2 = x at *
      generalize M % 2 ^ (b.toNat - 1) = y at *
      omega
    · simp
  unfold upM
  rw [if_neg (by omega), if_neg (by omega), if_neg (by omega)]
  unfold upB
  rw [key]
  exact ⟨rfl, by cases minus <;> rfl, by cases minus <;> rfl⟩

def infF (f b : Nat) : Nat := (2 * b + 1) * 2 ^ f
def dnB (rm : Int) (minus : Bool) : Nat := if rm = 1 ∨ (rm = 2 ∧ minus = false) ∨ (rm = 3 ∧ minus = true) then 1 else 0
def tolF (f b : Nat) (rm : Int) (minus : Bool) (v : Nat) (ex tiny : Bool) : Nat × Nat :=
  if infF f b ≤ v then (infF f b - dnB rm minus, 5) else (v, if ex then 0 else if tiny then 3 else 1)
theorem told_eq {f b : Nat} {rm : Int} {minus : Bool} {n q : Nat} {ex tiny : Bool} (hb : 1 ≤ b) (hq : q ≤ 2 ^ (f + 1)) (hn : n = 0 ∨ 2 ^ f ≤ q) :
    told f b rm minus (least f b + n) (q, ex) tiny = tolF f b rm minus (q + n * 2 ^ f) ex tiny := by
  have hp := Nat.two_pow_pos f
  have e2 : 2 ^ (f + 1) = 2 * 2 ^ f := by rw [Nat.pow_succ]; omega
  have hinf : infF f b = 2 * (b * 2 ^ f) + 2 ^ f := by unfold infF; rw [Nat.add_mul, Nat.mul_assoc, Nat.one_mul]
  unfold told tolF
  show (let m := if blen q > f + 1 then q / 2 else q; let la := if blen q > f + 1 then least f b + n + 1 else least f b + n; _) = _
  by_cases h1 : blen q > f + 1
  · have h2 : 2 ^ (f + 1) ≤ q := lt_blen.1 h1
    have h3 : q = 2 * 2 ^ f := by omega
    have h4 : blen (q / 2) = f + 1 := by
      rw [h3, Nat.mul_div_cancel_left _ (by decide)]; exact blen_two_pow f
    simp only [if_pos h1, h4]
    have h5 : (least f b + n + 1 + f > b) ↔ infF f b ≤ q + n * 2 ^ f := by
      rw [hinf, h3]
      have : 2 * (b * 2 ^ f) + 2 ^ f = (2 * b + 1) * 2 ^ f := by rw [Nat.add_mul, Nat.mul_assoc, Nat.one_mul]
      rw [this, ← Nat.add_mul, Nat.mul_le_mul_right_iff hp]
      unfold least; omega
    by_cases h6 : infF f b ≤ q + n * 2 ^ f
    · rw [if_pos ⟨h5.2 h6, trivial⟩, if_pos h6]; rfl
    · rw [if_neg (fun h => h6 (h5.1 h.1)), if_neg h6, if_pos trivial]
      have h7 : (least f b + n + 1 - least f b + 1).toNat = n + 2 := by omega
      rw [h7, h3, Nat.mul_div_cancel_left _ (by decide), Nat.add_mul]
      congr 1; omega
  · have h2 : q < 2 ^ (f + 1) := blen_le.1 (by omega)
    simp only [if_neg h1]
    by_cases h4 : blen q = f + 1
    · have h3 : 2 ^ f ≤ q := lt_blen.1 (by omega)
      have h5 : (least f b + n + f > b) ↔ infF f b ≤ q + n * 2 ^ f := by
        have e : (2 * b + 1) * 2 ^ f ≤ q + n * 2 ^ f ↔ 2 * b ≤ n := by
          constructor
          · intro h
            refine Nat.le_of_not_lt fun hc => ?_
            have : (n + 2) * 2 ^ f ≤ (2 * b + 1) * 2 ^ f := Nat.mul_le_mul_right _ (by omega)
            rw [Nat.add_mul n] at this; omega
          · intro h
            have : (2 * b + 1) * 2 ^ f ≤ (n + 1) * 2 ^ f := Nat.mul_le_mul_right _ (by omega)
            rw [Nat.add_mul n] at this; omega
        unfold infF; rw [e]; unfold least; omega
      by_cases h6 : infF f b ≤ q + n * 2 ^ f
      · rw [if_pos ⟨h5.2 h6, h4⟩, if_pos h6]; rfl
      · rw [if_neg (fun h => h6 (h5.1 h.1)), if_neg h6, if_pos h4]
        have h7 : (least f b + n - least f b + 1).toNat = n + 1 := by omega
        rw [h7, Nat.add_mul]
        congr 1; omega
    · have h3 : q < 2 ^ f := blen_le.1 (by omega)
      have h0 : n = 0 := by omega
      subst h0
      have h5 : ¬ infF f b ≤ q + 0 := by
        rw [hinf]
        have : 2 ^ f ≤ b * 2 ^ f := Nat.le_mul_of_pos_left _ (by omega)
        omega
      rw [if_neg (fun h => h4 h.2), if_neg (show ¬ blen q = f + 1 from h4), Nat.zero_mul, if_neg h5]
      rfl

def nOf (f b : Nat) (M : Nat) (E : Int) : Nat := (lastOf f b (blen M + E) - least f b).toNat
def qOf (f b : Nat) (M : Nat) (E : Int) : Nat := truN M (lastOf f b (blen M + E) - E)
def exOf (f b : Nat) (M : Nat) (E : Int) (more : Bool) : Bool := exaN M (lastOf f b (blen M + E) - E) more
def upOf (f b : Nat) (rm : Int) (minus : Bool) (M : Nat) (E : Int) (more : Bool) : Bool := upM rm minus M (lastOf f b (blen M + E) - E) more
def tiOf (f b : Nat) (rm : Int) (minus : Bool) (M : Nat) (E : Int) (more : Bool) : Bool := tinyOf f b (blen M + E) (cutN rm minus M (blen M + E - f - 1 - E) more).1
theorem last_of {f b : Nat} {M : Nat} {E : Int} : lastOf f b (blen M + E) = least f b + nOf f b M E := by
  unfold nOf lastOf; split <;> omega
theorem tru_blen {M : Nat} {b : Int} (hM : 0 < M) (h : b < blen M) : (blen (truN M b) : Int) = blen M - b := by
  unfold truN
  by_cases hb : b ≤ 0
  · rw [if_pos hb]
    have := blen_shift (h := M) (j := (-b).toNat) (l := 0) hM (Nat.two_pow_pos _)
    rw [Nat.add_zero] at this
    rw [this]; omega
  · rw [if_neg hb]
    obtain ⟨n, rfl⟩ : ∃ n : Nat, b = (n : Int) := ⟨b.toNat, by omega⟩
    rw [Int.toNat_natCast]
    obtain ⟨k, hk⟩ : ∃ k : Nat, blen M = n + k + 1 := ⟨blen M - n - 1, by omega⟩
    have h1 := blen_low hM
    have h2 := blen_self (n := M)
    rw [hk] at h1 h2
    have h3 : 2 ^ k ≤ M / 2 ^ n := by
      rw [Nat.le_div_iff_mul_le (Nat.two_pow_pos _), ← Nat.pow_add]
      exact Nat.le_trans (Nat.pow_le_pow_right (by decide) (by omega)) h1
    have h4 : M / 2 ^ n < 2 ^ (k + 1) := by
      rw [Nat.div_lt_iff_lt_mul (Nat.two_pow_pos _), ← Nat.pow_add]
      exact Nat.lt_of_lt_of_le h2 (Nat.pow_le_pow_right (by decide) (by omega))
    rw [blen_eq h3 h4, hk]; omega
theorem q_facts {f b : Nat} {M : Nat} {E : Int} (hM : 0 < M) : qOf f b M E < 2 ^ (f + 1) ∧ (nOf f b M E = 0 ∨ 2 ^ f ≤ qOf f b M E) := by
  unfold qOf
  have hl := last_of (f := f) (b := b) (M := M) (E := E)
  by_cases h : (blen M : Int) + E - f - 1 < least f b
  · have e : lastOf f b (blen M + E) = least f b := by unfold lastOf; rw [if_pos h]
    have hn : nOf f b M E = 0 := by unfold nOf; rw [e]; omega
    refine ⟨?_, .inl hn⟩
    rw [e]
    by_cases h2 : least f b - E < blen M
    · have := tru_blen (b := least f b - E) hM h2
      exact blen_le.1 (by omega)
    · unfold truN
      have h0 := blen_pos hM
      rw [if_neg (by omega)]
      have : M / 2 ^ (least f b - E).toNat = 0 := Nat.div_eq_of_lt (blen_le.1 (by omega))
      rw [this]; exact Nat.two_pow_pos _
  · have e : lastOf f b (blen M + E) = blen M + E - f - 1 := by unfold lastOf; rw [if_neg h]
    rw [e]
    have := tru_blen (b := (blen M : Int) + E - f - 1 - E) hM (by omega)
    have h3 : blen (truN M ((blen M : Int) + E - f - 1 - E)) = f + 1 := by omega
    exact ⟨blen_le.1 (by omega), .inr (lt_blen.1 (by omega))⟩
theorem rnd_eq {f b : Nat} {rm : Int} {minus : Bool} {M : Nat} {E : Int} {more : Bool} (hb : 1 ≤ b) (hM : 0 < M) :
    rnd f b rm minus M E more = tolF f b rm minus (qOf f b M E + nOf f b M E * 2 ^ f + (if upOf f b rm minus M E more then 1 else 0)) (exOf f b M E more) (tiOf f b rm minus M E more) := by
  obtain ⟨h1, h2⟩ := q_facts (f := f) (b := b) (E := E) hM
  unfold rnd
  rw [cutN_parts, last_of]
  have e : (least f b + nOf f b M E - E) = lastOf f b (blen M + E) - E := by rw [last_of]
  rw [e]
  show told f b rm minus _ (qOf f b M E + (if upOf f b rm minus M E more then 1 else 0), exOf f b M E more) (tiOf f b rm minus M E more) = _
  rw [told_eq hb (by split <;> omega) (by rcases h2 with h2 | h2; exact .inl h2; exact .inr (by omega))]
  congr 1; omega

def SameV (M : Nat) (E : Int) (M' : Nat) (E' : Int) : Prop := ∃ k k' : Nat, M * 2 ^ k = M' * 2 ^ k' ∧ E - k = E' - k'
theorem SameV.symm {M M' : Nat} {E E' : Int} : SameV M E M' E' → SameV M' E' M E := fun ⟨k, k', h, g⟩ => ⟨k', k, h.symm, g.symm⟩
theorem SameV.refl (M : Nat) (E : Int) : SameV M E M E := ⟨0, 0, rfl, rfl⟩
theorem SameV.pos {M M' : Nat} {E E' : Int} (h : SameV M E M' E') : 0 < M ↔ 0 < M' := by
  obtain ⟨k, k', h, _⟩ := h
  have h1 := Nat.two_pow_pos k
  have h2 := Nat.two_pow_pos k'
  constructor
  · intro hm
    refine Nat.pos_of_ne_zero fun hc => ?_
    rw [hc, Nat.zero_mul, Nat.mul_eq_zero] at h; omega
  · intro hm
    refine Nat.pos_of_ne_zero fun hc => ?_
    rw [hc, Nat.zero_mul] at h
    have := Nat.mul_eq_zero.1 h.symm; omega
theorem SameV.trans {M M' M'' : Nat} {E E' E'' : Int} (h : SameV M E M' E') (g : SameV M' E' M'' E'') : SameV M E M'' E'' := by
  obtain ⟨k, k', h1, h2⟩ := h
  obtain ⟨l, l', g1, g2⟩ := g
  refine ⟨k + l, l' + k', ?_, by omega⟩
  rw [Nat.pow_add, ← Nat.mul_assoc, h1, Nat.mul_right_comm, g1, Nat.pow_add, Nat.mul_assoc]
theorem SameV.up (M : Nat) (E : Int) (k : Nat) : SameV (M * 2 ^ k) (E - k) M E := ⟨0, k, by rw [Nat.pow_zero, Nat.mul_one], by omega⟩
theorem SameV.mul {M M' P P' : Nat} {E E' F F' : Int} (h : SameV M E M' E') (g : SameV P F P' F') : SameV (M * P) (E + F) (M' * P') (E' + F') := by
  obtain ⟨k, k', h1, h2⟩ := h
  obtain ⟨l, l', g1, g2⟩ := g
  refine ⟨k + l, k' + l', ?_, by omega⟩
  rw [Nat.pow_add, Nat.pow_add, Nat.mul_mul_mul_comm, h1, g1, Nat.mul_mul_mul_comm]
theorem SameV.rnd {f b : Nat} {rm : Int} {minus : Bool} {M M' : Nat} {E E' : Int} (h : SameV M E M' E') (hM : 0 < M) : rnd f b rm minus M E false = rnd f b rm minus M' E' false := by
  have hM' := h.pos.1 hM
  obtain ⟨k, k', h1, h2⟩ := h
  rw [← rnd_scale (k := k) hM, h1, h2, rnd_scale hM']
theorem exa_same {M : Nat} {b : Int} (h : exaN M b false = true) (E : Int) : SameV (truN M b) (E + b) M E := by
  unfold exaN at h; unfold truN
  by_cases hb : b ≤ 0
  · rw [if_pos hb]
    have := SameV.up M E (-b).toNat
    have e : E - ((-b).toNat : Nat) = E + b := by omega
    rw [e] at this; exact this
  · rw [if_neg hb] at h ⊢
    simp only [Bool.not_false, Bool.and_true, beq_iff_eq] at h
    obtain ⟨n, rfl⟩ : ∃ n : Nat, b = (n : Int) := ⟨b.toNat, by omega⟩
    rw [Int.toNat_natCast] at *
    exact ⟨n, 0, by rw [Nat.pow_zero, Nat.mul_one, Nat.mul_comm, Nat.mul_div_cancel' (Nat.dvd_of_mod_eq_zero h)], by omega⟩
end Go.Rnd

namespace Go.Proofs.Ytacciadcmiiimaa
open Go Go.Sx Go.Rnd
set_option maxRecDepth 100000

def U (a : Int) : Prop := 0 ≤ a ∧ a < 18446744073709551616

def top (s : Int) : Int := if s = 4 then 2147483648 else 9223372036854775808
def mag (s a : Int) : Int := a % top s
def sgn (s a : Int) : Bool := decide (a / top s % 2 = 1)
section
variable {a : Int} (h : U a)
include h
omit h in
theorem mag_lt_4 (a : Int) : 0 ≤ mag 4 a ∧ mag 4 a < 2147483648 := by
  show 0 ≤ a % 2147483648 ∧ a % 2147483648 < 2147483648
  omega
theorem mask_4 : r42_0 4 a = mag 4 a + if sgn 4 a then 2147483648 else 0 := by
  have h' := h.1
  have h'' := h.2
  have e : r42_0 4 a = a % 4294967296 := by
    show iland .u64 a 4294967295 = _
    exact land_mask h.1 h.2 32 (by decide) (by decide) (by decide)
  rw [e]
  show _ = a % 2147483648 + if decide (a / 2147483648 % 2 = 1) = true then 2147483648 else 0
  simp only [decide_eq_true_eq]
  split <;> omega
theorem msplit_4 : r42_0 4 a / 2147483648 = (if sgn 4 a then 1 else 0) ∧ r42_0 4 a % 2147483648 = mag 4 a ∧ 0 ≤ r42_0 4 a ∧ r42_0 4 a < 2 * 2147483648 := by
  have hm := mag_lt_4 a
  rw [mask_4 h]
  cases sgn 4 a <;> simp <;> omega
theorem off_4 : ilandNot .u64 (r42_0 4 a) 2147483648 = mag 4 a := by
  have hm := msplit_4 h
  rw [landNot_bit (by omega) (by omega) 31 (by decide) (by decide), ← hm.2.1]
  omega
omit h in
theorem mag_lt_8 (a : Int) : 0 ≤ mag 8 a ∧ mag 8 a < 9223372036854775808 := by
  show 0 ≤ a % 9223372036854775808 ∧ a % 9223372036854775808 < 9223372036854775808
  omega
theorem mask_8 : r42_0 8 a = mag 8 a + if sgn 8 a then 9223372036854775808 else 0 := by
  have h' := h.1
  have h'' := h.2
  have e : r42_0 8 a = a := rfl
  rw [e]
  show _ = a % 9223372036854775808 + if decide (a / 9223372036854775808 % 2 = 1) = true then 9223372036854775808 else 0
  simp only [decide_eq_true_eq]
  split <;> omega
theorem msplit_8 : r42_0 8 a / 9223372036854775808 = (if sgn 8 a then 1 else 0) ∧ r42_0 8 a % 9223372036854775808 = mag 8 a ∧ 0 ≤ r42_0 8 a ∧ r42_0 8 a < 2 * 9223372036854775808 := by
  have hm := mag_lt_8 a
  rw [mask_8 h]
  cases sgn 8 a <;> simp <;> omega
theorem off_8 : ilandNot .u64 (r42_0 8 a) 9223372036854775808 = mag 8 a := by
  have hm := msplit_8 h
  rw [landNot_bit (by omega) (by omega) 63 (by decide) (by decide), ← hm.2.1]
  omega
end

section
variable {s : Int} (hs : s = 4 ∨ s = 8) {a : Int} (h : U a)
include hs
include h
theorem g_off : ilandNot .u64 (r42_0 s a) (top s) = mag s a := by exact hs.elim (fun e => by subst e; exact off_4 h) (fun e => by subst e; exact off_8 h)
end
end Go.Proofs.Ytacciadcmiiimaa

namespace Go.Proofs.Ytacciadcmiiimaa
open Go Go.Sx Go.Rnd
set_option maxRecDepth 100000
set_option maxHeartbeats 2000000

def magN (s : Int) (a : Nat) : Nat := a % topN s
theorem uN {a : Nat} (h : a < 18446744073709551616) : U (a : Int) := ⟨by omega, by omega⟩

section
variable {s rm : Int} (hs : s = 4 ∨ s = 8) {a : Nat} (ha : a < 18446744073709551616)
include hs
theorem mag_nat (a : Nat) : mag s (a : Int) = (magN s a : Int) := by
  rcases hs with rfl | rfl
  · show (a : Int) % 2147483648 = ((a % 2147483648 : Nat) : Int); omega
  · show (a : Int) % 9223372036854775808 = ((a % 9223372036854775808 : Nat) : Int); omega
theorem mag_parts (a : Nat) : exf s a = magN s a / oneN s ∧ frf s a = magN s a % oneN s ∧ magN s a < topN s := by
  unfold exf frf magN mkN
  rcases hs with rfl | rfl
  · have e1 : oneN 4 = 8388608 := rfl
    have e2 : topN 4 = 2147483648 := rfl
    have e3 : emaxN 4 = 255 := rfl
    rw [e1, e2, e3, if_pos rfl]; omega
  · have e1 : oneN 8 = 4503599627370496 := rfl
    have e2 : topN 8 = 9223372036854775808 := rfl
    have e3 : emaxN 8 = 2047 := rfl
    rw [e1, e2, e3, if_neg (by decide)]; omega
include ha
end

section
variable {s rm : Int} (hs : s = 4 ∨ s = 8) (h0 : 0 ≤ rm) (h1 : rm ≤ 4) {a : Nat} (ha : a < 18446744073709551616)
include hs ha h0 h1
end
end Go.Proofs.Ytacciadcmiiimaa

namespace Go.Proofs.Ytacciadcmiiimaa
open Go Go.Sx Go.Rnd
set_option maxRecDepth 100000
set_option maxHeartbeats 1000000

section
variable {y1 y0 u d : Nat} (hy1 : 2147483648 ≤ y1) (hy2 : y1 < 4294967296) (hy0 : y0 < 4294967296) (hd : d < 4294967296) (hu : u < y1 * 4294967296 + y0)
include hy1 hy2 hy0 hd hu
theorem guess_test {q r : Nat} (hq : q * y1 + r = u) : (q * (y1 * 4294967296 + y0) ≤ u * 4294967296 + d) ↔ q * y0 ≤ r * 4294967296 + d := by
  have _ := hy1; have _ := hy2; have _ := hy0; have _ := hd; have _ := hu
  have e : q * (y1 * 4294967296 + y0) = q * y1 * 4294967296 + q * y0 := by rw [Nat.mul_add, Nat.mul_assoc]
  rw [e, ← hq, Nat.add_mul]
  omega
theorem quo_lt : (u * 4294967296 + d) / (y1 * 4294967296 + y0) < 4294967296 := by
  have _ := hy1; have _ := hy2; have _ := hy0
  rw [Nat.div_lt_iff_lt_mul (by omega)]
  have : (u + 1) * 4294967296 ≤ (y1 * 4294967296 + y0) * 4294967296 := Nat.mul_le_mul_right _ hu
  rw [Nat.mul_comm 4294967296 (y1 * 4294967296 + y0)]
  omega
theorem guess_ge : (u * 4294967296 + d) / (y1 * 4294967296 + y0) ≤ u / y1 := by
  have _ := hy0; have _ := hu
  rw [Nat.le_div_iff_mul_le (by omega)]
  have h := Nat.div_mul_le_self (u * 4294967296 + d) (y1 * 4294967296 + y0)
  generalize (u * 4294967296 + d) / (y1 * 4294967296 + y0) = Q at *
  have e : Q * (y1 * 4294967296 + y0) = Q * y1 * 4294967296 + Q * y0 := by rw [Nat.mul_add, Nat.mul_assoc]
  omega
theorem guess_le : u / y1 ≤ 4294967297 := by
  have _ := hd
  have : u / y1 < 4294967298 := by
    rw [Nat.div_lt_iff_lt_mul (by omega)]
    omega
  omega
theorem guess_cond {q r : Nat} (hq : q * y1 + r = u) (hr : r < 4294967296) (hq2 : q ≤ 4294967297) :
    (decide ((q : Int) ≥ 4294967296) || decide (IntKind.wrap .u64 ((q : Int) * (y0 : Int)) > IntKind.wrap .u64 (IntKind.wrap .u64 (4294967296 * (r : Int)) + (d : Int)))) = decide ((u * 4294967296 + d) / (y1 * 4294967296 + y0) < q) := by
  have hQ := quo_lt hy1 hy2 hy0 hd hu
  by_cases h : q ≥ 4294967296
  · rw [decide_eq_true (show (q : Int) ≥ 4294967296 by omega), decide_eq_true (show (u * 4294967296 + d) / (y1 * 4294967296 + y0) < q by omega)]; rfl
  · rw [decide_eq_false (show ¬ (q : Int) ≥ 4294967296 by omega), Bool.false_or]
    have e1 : IntKind.wrap .u64 ((q : Int) * (y0 : Int)) = ((q * y0 : Nat) : Int) := by
      rw [← Int.natCast_mul]
      exact wr64 (Nat.lt_of_le_of_lt (Nat.mul_le_mul (show q ≤ 4294967295 by omega) (show y0 ≤ 4294967295 by omega)) (by decide))
    have e2 : IntKind.wrap .u64 (IntKind.wrap .u64 (4294967296 * (r : Int)) + (d : Int)) = ((r * 4294967296 + d : Nat) : Int) := by
      rw [wrap_u64_of (n := 4294967296 * (r : Int)) (by omega) (by omega), wrap_u64_of (by omega) (by omega)]; omega
    rw [e1, e2, decide_eq_decide]
    have ht := guess_test hy1 hy2 hy0 hd hu hq
    have : (u * 4294967296 + d) / (y1 * 4294967296 + y0) < q ↔ ¬ q * (y1 * 4294967296 + y0) ≤ u * 4294967296 + d := by
      rw [← Nat.le_div_iff_mul_le (by omega)]; omega
    rw [this, ht]; omega
theorem guess_far {q r : Nat} (hq : (q + 1) * y1 + r = u) (hr2 : 4294967296 ≤ r + y1) (hq2 : q ≤ 4294967296) : q ≤ (u * 4294967296 + d) / (y1 * 4294967296 + y0) := by
  rw [Nat.le_div_iff_mul_le (by omega), guess_test hy1 hy2 hy0 hd hu (q := q) (r := r + y1) (by rw [Nat.add_mul, Nat.one_mul] at hq; omega)]
  have h1 : q * y0 ≤ 4294967296 * y0 := Nat.mul_le_mul_right _ hq2
  have h2 : 4294967296 * 4294967296 ≤ (r + y1) * 4294967296 := Nat.mul_le_mul_right _ hr2
  omega
theorem dloop1 : ∀ (k q r : Nat), q = (u * 4294967296 + d) / (y1 * 4294967296 + y0) + k → q * y1 + r = u → r < 4294967296 → q ≤ 4294967297 →
    ∃ r2, L110200 (y0 : Int) (d : Int) (y1 : Int) (q : Int) (r : Int) = some [.i 0, .i (((u * 4294967296 + d) / (y1 * 4294967296 + y0) : Nat) : Int), r2]
  | 0, q, r, hk, hq, hr, hq2 => by
    have hc0 := guess_cond hy1 hy2 hy0 hd hu hq hr hq2
    rw [decide_eq_false (show ¬ (u * 4294967296 + d) / (y1 * 4294967296 + y0) < q by omega)] at hc0
    have hc : C110200 [.i (y0 : Int), .i (d : Int), .i (y1 : Int), .i (q : Int), .i (r : Int)] = false := by
      show c110200 (y0 : Int) (d : Int) (y1 : Int) (q : Int) (r : Int) = false
      simp only [c110200, hc0, Bool.false_and]
    refine ⟨.i (t110200_2 (y0 : Int) (d : Int) (y1 : Int) (q : Int) (r : Int)), (loopG_last (w := W110200) rfl hc).trans ?_⟩
    show some [DV.i 0, .i (t110200_1 (y0 : Int) (d : Int) (y1 : Int) (q : Int) (r : Int)), .i (t110200_2 (y0 : Int) (d : Int) (y1 : Int) (q : Int) (r : Int))] = _
    have : t110200_1 (y0 : Int) (d : Int) (y1 : Int) (q : Int) (r : Int) = (q : Int) := by simp only [t110200_1, hc0, cond_false]
    rw [this, hk, Nat.add_zero]
  | k + 1, q, r, hk, hq, hr, hq2 => by
    have hc0 := guess_cond hy1 hy2 hy0 hd hu hq hr hq2
    rw [decide_eq_true (show (u * 4294967296 + d) / (y1 * 4294967296 + y0) < q by omega)] at hc0
    obtain ⟨q', rfl⟩ : ∃ q', q = q' + 1 := ⟨(u * 4294967296 + d) / (y1 * 4294967296 + y0) + k, hk⟩
    have e43 : IntKind.wrap .u64 ((r : Int) + (y1 : Int)) = ((r + y1 : Nat) : Int) := by rw [← Int.natCast_add]; exact wr64 (by omega)
    have e42 : IntKind.wrap .u64 (((q' + 1 : Nat) : Int) - 1) = (q' : Int) := by rw [show ((q' + 1 : Nat) : Int) - 1 = (q' : Int) by omega]; exact wr64 (by omega)
    by_cases hb : r + y1 < 4294967296
    · have hc : C110200 [.i (y0 : Int), .i (d : Int), .i (y1 : Int), .i ((q' + 1 : Nat) : Int), .i (r : Int)] = true := by
        show c110200 (y0 : Int) (d : Int) (y1 : Int) ((q' + 1 : Nat) : Int) (r : Int) = true
        simp only [c110200, hc0, e43]
        rw [decide_eq_false (show ¬ ((r + y1 : Nat) : Int) ≥ 4294967296 by omega)]; rfl
      have hN : N110200 [.i (y0 : Int), .i (d : Int), .i (y1 : Int), .i ((q' + 1 : Nat) : Int), .i (r : Int)] = [.i (y0 : Int), .i (d : Int), .i (y1 : Int), .i (q' : Int), .i ((r + y1 : Nat) : Int)] := by
        show [DV.i (y0 : Int), .i (d : Int), .i (y1 : Int), .i (IntKind.wrap .u64 (((q' + 1 : Nat) : Int) - 1)), .i (IntKind.wrap .u64 ((r : Int) + (y1 : Int)))] = _
        rw [e42, e43]
      obtain ⟨r2, h⟩ := dloop1 k q' (r + y1) (by omega) (by rw [Nat.add_mul, Nat.one_mul] at hq; omega) hb (by omega)
      refine ⟨r2, (loopG_next (w := W110200) (out := T110200) rfl hc).trans ?_⟩
      rw [hN]; exact h
    · have hc : C110200 [.i (y0 : Int), .i (d : Int), .i (y1 : Int), .i ((q' + 1 : Nat) : Int), .i (r : Int)] = false := by
        show c110200 (y0 : Int) (d : Int) (y1 : Int) ((q' + 1 : Nat) : Int) (r : Int) = false
        simp only [c110200, hc0, e43]
        rw [decide_eq_true (show ((r + y1 : Nat) : Int) ≥ 4294967296 by omega)]; rfl
      have hq' := guess_far hy1 hy2 hy0 hd hu hq (by omega) (by omega)
      refine ⟨.i (t110200_2 (y0 : Int) (d : Int) (y1 : Int) ((q' + 1 : Nat) : Int) (r : Int)), (loopG_last (w := W110200) rfl hc).trans ?_⟩
      show some [DV.i 0, .i (t110200_1 (y0 : Int) (d : Int) (y1 : Int) ((q' + 1 : Nat) : Int) (r : Int)), .i (t110200_2 (y0 : Int) (d : Int) (y1 : Int) ((q' + 1 : Nat) : Int) (r : Int))] = _
      have : t110200_1 (y0 : Int) (d : Int) (y1 : Int) ((q' + 1 : Nat) : Int) (r : Int) = (q' : Int) := by simp only [t110200_1, hc0, cond_true, e42]
      rw [this, show q' = (u * 4294967296 + d) / (y1 * 4294967296 + y0) by omega]
theorem dloop2 : ∀ (k q r : Nat), q = (u * 4294967296 + d) / (y1 * 4294967296 + y0) + k → q * y1 + r = u → r < 4294967296 → q ≤ 4294967297 →
    ∃ r2, L110202 (y0 : Int) (d : Int) (y1 : Int) (r : Int) (q : Int) = some [.i 0, r2, .i (((u * 4294967296 + d) / (y1 * 4294967296 + y0) : Nat) : Int)]
  | 0, q, r, hk, hq, hr, hq2 => by
    have hc0 := guess_cond hy1 hy2 hy0 hd hu hq hr hq2
    rw [decide_eq_false (show ¬ (u * 4294967296 + d) / (y1 * 4294967296 + y0) < q by omega)] at hc0
    have hc : C110202 [.i (y0 : Int), .i (d : Int), .i (y1 : Int), .i (r : Int), .i (q : Int)] = false := by
      show c110202 (y0 : Int) (d : Int) (y1 : Int) (r : Int) (q : Int) = false
      simp only [c110202, hc0, Bool.false_and]
    refine ⟨.i (t110202_1 (y0 : Int) (d : Int) (y1 : Int) (r : Int) (q : Int)), (loopG_last (w := W110202) rfl hc).trans ?_⟩
    show some [DV.i 0, .i (t110202_1 (y0 : Int) (d : Int) (y1 : Int) (r : Int) (q : Int)), .i (t110202_2 (y0 : Int) (d : Int) (y1 : Int) (r : Int) (q : Int))] = _
    have : t110202_2 (y0 : Int) (d : Int) (y1 : Int) (r : Int) (q : Int) = (q : Int) := by simp only [t110202_2, hc0, cond_false]
    rw [this, hk, Nat.add_zero]
  | k + 1, q, r, hk, hq, hr, hq2 => by
    have hc0 := guess_cond hy1 hy2 hy0 hd hu hq hr hq2
    rw [decide_eq_true (show (u * 4294967296 + d) / (y1 * 4294967296 + y0) < q by omega)] at hc0
    obtain ⟨q', rfl⟩ : ∃ q', q = q' + 1 := ⟨(u * 4294967296 + d) / (y1 * 4294967296 + y0) + k, hk⟩
    have e43 : IntKind.wrap .u64 ((r : Int) + (y1 : Int)) = ((r + y1 : Nat) : Int) := by rw [← Int.natCast_add]; exact wr64 (by omega)
    have e42 : IntKind.wrap .u64 (((q' + 1 : Nat) : Int) - 1) = (q' : Int) := by rw [show ((q' + 1 : Nat) : Int) - 1 = (q' : Int) by omega]; exact wr64 (by omega)
    by_cases hb : r + y1 < 4294967296
    · have hc : C110202 [.i (y0 : Int), .i (d : Int), .i (y1 : Int), .i (r : Int), .i ((q' + 1 : Nat) : Int)] = true := by
        show c110202 (y0 : Int) (d : Int) (y1 : Int) (r : Int) ((q' + 1 : Nat) : Int) = true
        simp only [c110202, hc0, e43]
        rw [decide_eq_false (show ¬ ((r + y1 : Nat) : Int) ≥ 4294967296 by omega)]; rfl
      have hN : N110202 [.i (y0 : Int), .i (d : Int), .i (y1 : Int), .i (r : Int), .i ((q' + 1 : Nat) : Int)] = [.i (y0 : Int), .i (d : Int), .i (y1 : Int), .i ((r + y1 : Nat) : Int), .i (q' : Int)] := by
        show [DV.i (y0 : Int), .i (d : Int), .i (y1 : Int), .i (IntKind.wrap .u64 ((r : Int) + (y1 : Int))), .i (IntKind.wrap .u64 (((q' + 1 : Nat) : Int) - 1))] = _
        rw [e42, e43]
      obtain ⟨r2, h⟩ := dloop2 k q' (r + y1) (by omega) (by rw [Nat.add_mul, Nat.one_mul] at hq; omega) hb (by omega)
      refine ⟨r2, (loopG_next (w := W110202) (out := T110202) rfl hc).trans ?_⟩
      rw [hN]; exact h
    · have hc : C110202 [.i (y0 : Int), .i (d : Int), .i (y1 : Int), .i (r : Int), .i ((q' + 1 : Nat) : Int)] = false := by
        show c110202 (y0 : Int) (d : Int) (y1 : Int) (r : Int) ((q' + 1 : Nat) : Int) = false
        simp only [c110202, hc0, e43]
        rw [decide_eq_true (show ((r + y1 : Nat) : Int) ≥ 4294967296 by omega)]; rfl
      have hq' := guess_far hy1 hy2 hy0 hd hu hq (by omega) (by omega)
      refine ⟨.i (t110202_1 (y0 : Int) (d : Int) (y1 : Int) (r : Int) ((q' + 1 : Nat) : Int)), (loopG_last (w := W110202) rfl hc).trans ?_⟩
      show some [DV.i 0, .i (t110202_1 (y0 : Int) (d : Int) (y1 : Int) (r : Int) ((q' + 1 : Nat) : Int)), .i (t110202_2 (y0 : Int) (d : Int) (y1 : Int) (r : Int) ((q' + 1 : Nat) : Int))] = _
      have : t110202_2 (y0 : Int) (d : Int) (y1 : Int) (r : Int) ((q' + 1 : Nat) : Int) = (q' : Int) := by simp only [t110202_2, hc0, cond_true, e42]
      rw [this, show q' = (u * 4294967296 + d) / (y1 * 4294967296 + y0) by omega]
end
theorem digit_left {u d y Q : Nat} (hQ : Q = (u * 4294967296 + d) / y) (hy : y < 18446744073709551616) (hy0 : 0 < y) : IntKind.wrap .u64 (IntKind.wrap .u64 (IntKind.wrap .u64 ((u : Int) * 4294967296) + (d : Int)) - IntKind.wrap .u64 ((Q : Int) * (y : Int))) = (((u * 4294967296 + d) % y : Nat) : Int) := by
  have h1 := Nat.div_add_mod (u * 4294967296 + d) y
  have h2 := Nat.mod_lt (u * 4294967296 + d) hy0
  rw [← hQ] at h1
  generalize (u * 4294967296 + d) % y = r at *
  rw [← Int.natCast_mul, Nat.mul_comm Q y]
  generalize y * Q = p at *
  rw [wrap_u64, wrap_u64, wrap_u64, wrap_u64]
  omega
theorem two_lin {u l la lb R1 R2 : Nat} (el : la * 4294967296 + lb = l) (p1 p2 : Nat) (a : u * 4294967296 + la = p1 + R1) (b : R1 * 4294967296 + lb = p2 + R2) : u * 18446744073709551616 + l = p1 * 4294967296 + p2 + R2 := by
  have e : (4294967296 : Nat) * 4294967296 = 18446744073709551616 := by decide
  rw [← el, ← e, ← Nat.mul_assoc, ← Nat.add_assoc, ← Nat.add_mul, a, Nat.add_mul, Nat.add_assoc, b, Nat.add_assoc]
theorem two_digits {u l la lb y Q1 R1 Q2 R2 : Nat} (h1 : u * 4294967296 + la = y * Q1 + R1) (h2 : R1 * 4294967296 + lb = y * Q2 + R2) (el : la * 4294967296 + lb = l) : u * 18446744073709551616 + l = y * (Q1 * 4294967296 + Q2) + R2 := by
  rw [Nat.mul_add, ← Nat.mul_assoc]
  exact two_lin el _ _ h1 h2
theorem div64_ok {N y : Nat} (hy1 : 9223372036854775808 ≤ y) (hy2 : y < 18446744073709551616) (hN0 : 0 < hiN N) (hN : hiN N < y) : p102 (hiN N) (loN N) (y : Int) = true ∧ r102_0 (hiN N) (loN N) (y : Int) = ((N / y : Nat) : Int) ∧ r102_1 (hiN N) (loN N) (y : Int) = ((N % y : Nat) : Int) := by
  have hl := lo_lt N
  have e := hi_lo N
  generalize hiN N = u at *
  generalize loN N = l at *
  subst e
  have hlz : r115_0 (y : Int) = 0 := by
    rw [lz64 hy2, blen_eq (k := 63) hy1 hy2]; rfl
  have k15 : IntKind.wrap .u64 0 = 0 := by decide
  have k17 : ∀ z : Nat, z < 18446744073709551616 → ishl .u64 (z : Int) 0 = (z : Int) := fun z hz => by
    have := shl_lt (x := z) (s := 0) (by rw [Nat.pow_zero, Nat.mul_one]; exact hz)
    rw [Nat.pow_zero, Nat.mul_one] at this; exact this
  have k22 : IntKind.wrap .u64 (64 - 0) = 64 := by decide
  have k24 : ishr .u64 (l : Int) 64 = 0 := by
    have := shr_nat hl 64
    rw [Nat.div_eq_of_lt hl] at this; exact this
  have k25 : ilor .u64 (u : Int) 0 = (u : Int) := by
    have := lor_nn (a := u) (b := 0) (by omega) (by decide)
    rw [Nat.or_zero] at this; exact this
  have k57 : ∀ z : Nat, z < 18446744073709551616 → ishr .u64 (z : Int) 0 = (z : Int) := fun z hz => by
    have := shr_nat hz 0
    rw [Nat.pow_zero, Nat.div_one] at this; exact this
  have lo : ∀ z : Nat, z < 18446744073709551616 → iland .u64 (z : Int) 4294967295 = ((z % 4294967296 : Nat) : Int) := fun z hz => land_low (n := 32) hz (by decide)
  have ey : y / 4294967296 * 4294967296 + y % 4294967296 = y := Nat.div_add_mod' y 4294967296
  have el : l / 4294967296 * 4294967296 + l % 4294967296 = l := Nat.div_add_mod' l 4294967296
  have hy0 : y % 4294967296 < 4294967296 := Nat.mod_lt _ (by decide)
  have hya : 2147483648 ≤ y / 4294967296 := by omega
  have hyb : y / 4294967296 < 4294967296 := by omega
  have hl0 : l % 4294967296 < 4294967296 := Nat.mod_lt _ (by decide)
  have hl1 : l / 4294967296 < 4294967296 := by omega
  have sly := shr32 y
  have sll := shr32 l
  have loy := lo y hy2
  have lol := lo l hl
  generalize hyA : y / 4294967296 = ya at *
  generalize hyB : y % 4294967296 = yb at *
  generalize hlA : l / 4294967296 = la at *
  generalize hlB : l % 4294967296 = lb at *
  have td : ∀ z : Nat, Int.tdiv (z : Int) (ya : Int) = ((z / ya : Nat) : Int) := fun z => by rw [Int.tdiv_eq_ediv_of_nonneg (by omega)]; exact (Int.natCast_ediv _ _).symm
  have first : ∀ w dd : Nat, dd < 4294967296 → w < y → IntKind.wrap .u64 (Int.tdiv (w : Int) (ya : Int)) = ((w / ya : Nat) : Int) ∧ IntKind.wrap .u64 ((w : Int) - IntKind.wrap .u64 (((w / ya : Nat) : Int) * (ya : Int))) = ((w % ya : Nat) : Int) ∧
      ∃ Q R : Nat, w * 4294967296 + dd = y * Q + R ∧ R < y ∧ Q < 4294967296 ∧ (∃ r2, L110200 (yb : Int) (dd : Int) (ya : Int) ((w / ya : Nat) : Int) ((w % ya : Nat) : Int) = some [.i 0, .i (Q : Int), r2]) ∧
        (∃ r2, L110202 (yb : Int) (dd : Int) (ya : Int) ((w % ya : Nat) : Int) ((w / ya : Nat) : Int) = some [.i 0, r2, .i (Q : Int)]) ∧ IntKind.wrap .u64 (IntKind.wrap .u64 (IntKind.wrap .u64 ((w : Int) * 4294967296) + (dd : Int)) - IntKind.wrap .u64 ((Q : Int) * (y : Int))) = (R : Int) := fun w dd hdd hw => by
    have hw' : w < ya * 4294967296 + yb := by rw [ey]; exact hw
    have g1 := guess_le hya hyb hy0 hdd hw'
    have g2 := guess_ge hya hyb hy0 hdd hw'
    have g3 := quo_lt hya hyb hy0 hdd hw'
    have g4 := Nat.div_add_mod' w ya
    have g5 : w % ya < ya := Nat.mod_lt _ (by omega)
    obtain ⟨k, hk⟩ : ∃ k, w / ya = (w * 4294967296 + dd) / (ya * 4294967296 + yb) + k := ⟨w / ya - (w * 4294967296 + dd) / (ya * 4294967296 + yb), (Nat.add_sub_cancel' g2).symm⟩
    have l1 := dloop1 hya hyb hy0 hdd hw' k (w / ya) (w % ya) hk g4 (by omega) g1
    have l2 := dloop2 hya hyb hy0 hdd hw' k (w / ya) (w % ya) hk g4 (by omega) g1
    rw [ey] at l1 l2 g3
    refine ⟨by rw [td]; exact wr64 (Nat.lt_of_le_of_lt g1 (by decide)), ?_, (w * 4294967296 + dd) / y, (w * 4294967296 + dd) % y, (Nat.div_add_mod _ _).symm, Nat.mod_lt _ (by omega), g3, l1, l2, digit_left rfl hy2 (by omega)⟩
    rw [← Int.natCast_mul]
    generalize w / ya * ya = p at *
    generalize w % ya = z at *
    rw [wr64 (by omega), show (w : Int) - (p : Int) = (z : Int) by omega, wr64 (by omega)]
  obtain ⟨a1, a2, Q1, R1, hdm1, hr1, a7, ⟨r2, hL1⟩, _, c1⟩ := first u la hl1 hN
  obtain ⟨b1, b2, Q2, R2, hdm2, hr2, b7, _, ⟨s2, hL2⟩, c2⟩ := first R1 lb hl0 hr1
  have hu0 : ((u : Int) == 0) = false := by simp; omega
  have hya0 : ((ya : Int) != 0) = true := by simp; omega
  have hyz : ((y : Int) == 0) = false := by simp; omega
  have h36 : r110200_1 (yb : Int) (la : Int) (ya : Int) ((u / ya : Nat) : Int) ((u % ya : Nat) : Int) = (Q1 : Int) := by unfold r110200_1; rw [hL1]; rfl
  have h34 : p110200 (yb : Int) (la : Int) (ya : Int) ((u / ya : Nat) : Int) ((u % ya : Nat) : Int) = true := by unfold p110200; rw [hL1]; rfl
  have h49 : r110202_2 (yb : Int) (lb : Int) (ya : Int) ((R1 % ya : Nat) : Int) ((R1 / ya : Nat) : Int) = (Q2 : Int) := by unfold r110202_2; rw [hL2]; rfl
  have h46 : p110202 (yb : Int) (lb : Int) (ya : Int) ((R1 % ya : Nat) : Int) ((R1 / ya : Nat) : Int) = true := by unfold p110202; rw [hL2]; rfl
  have hNe : u * 18446744073709551616 + l = y * (Q1 * 4294967296 + Q2) + R2 := two_digits hdm1 hdm2 el
  have hquo : (u * 18446744073709551616 + l) / y = Q1 * 4294967296 + Q2 := by rw [hNe, Nat.mul_add_div (by omega), Nat.div_eq_of_lt hr2, Nat.add_zero]
  have hrem : (u * 18446744073709551616 + l) % y = R2 := by rw [hNe, Nat.mul_add_mod, Nat.mod_eq_of_lt hr2]
  refine ⟨?_, ?_, ?_⟩
  · simp only [p102, hlz, k15, k17 y hy2, k17 u (by omega), k17 l hl, k22, k24, k25, sly, sll, loy, lol, a1, a2, h34, h36, c1, b1, b2, h46, hu0, hya0, hyz, p115_ok]
    rw [decide_eq_false (show ¬ (y : Int) ≤ (u : Int) by omega)]
    rfl
  · simp only [r102_0, hlz, k15, k17 y hy2, k17 u (by omega), k17 l hl, k22, k24, k25, sly, sll, loy, lol, a1, a2, h36, c1, b1, b2, h49, hu0, Bool.not_false, cond_true]
    rw [hquo, wrap_u64_of (n := (Q1 : Int) * 4294967296) (by omega) (by omega), wrap_u64_of (by omega) (by omega)]; omega
  · simp only [r102_1, hlz, k15, k17 y hy2, k17 u (by omega), k17 l hl, k22, k24, k25, sly, sll, loy, lol, a1, a2, h36, c1, b1, b2, h49, hu0, Bool.not_false, cond_true, c2]
    rw [hrem, k57 _ (by omega)]

def divS (s rm : Int) (a b : Nat) : Nat × Nat :=
  if (infN s a && infN s b || zerN s a && zerN s b) || nanN s a || nanN s b then oddP s (infN s a && infN s b || zerN s a && zerN s b) (loudN s a || loudN s b)
  else if infN s a then (sgB s (sgN s a != sgN s b) + infB s, 0)
  else if infN s b || zerN s a then (sgB s (sgN s a != sgN s b), 0)
  else if zerN s b then (sgB s (sgN s a != sgN s b) + infB s, 8)
  else rndP s rm (sgN s a != sgN s b) (fM s a * 2 ^ 130 / fM s b) (fE s a - fE s b - 130) (decide (0 < fM s a * 2 ^ 130 % fM s b))
theorem kd_both {s : Int} (hs : s = 4 ∨ s = 8) {a b : Nat} : ((kdN s a == kdN s b) && (infN s a || zerN s a)) = (infN s a && infN s b || zerN s a && zerN s b) := by
  have hz := (emax_facts hs).1
  have h1 : ∀ a, nanN s a = true → zerN s a = false := fun a => by unfold nanN zerN; simp only [dec, decide_eq_false_iff_not]; omega
  have h2 : ∀ a, infN s a = true → zerN s a = false := fun a => by unfold infN zerN; simp only [dec, decide_eq_false_iff_not]; omega
  have h3 : ∀ a, infN s a = true → nanN s a = false := fun a => inf_nan
  have a1 := h1 a; have a2 := h2 a; have a3 := h3 a
  have b1 := h1 b; have b2 := h2 b; have b3 := h3 b
  unfold kdN
  revert a1 a2 a3 b1 b2 b3
  cases nanN s a <;> cases nanN s b <;> cases infN s a <;> cases infN s b <;> cases zerN s a <;> cases zerN s b <;> simp
theorem quo_near {f b : Nat} {rm : Int} {mi : Bool} {A B t : Nat} {E : Int} (hB : 0 < B) (ht : t ≤ 130) (hq : 2 ^ (f + 2) ≤ A * 2 ^ t / B) :
    rnd f b rm mi (A * 2 ^ 130 / B) (E - ((130 - t : Nat) : Int)) (decide (0 < A * 2 ^ 130 % B)) = rnd f b rm mi (A * 2 ^ t / B * 18446744073709551616 + (if A * 2 ^ t % B = 0 then 0 else 1)) (E - 64) false := by
  have e130 : 2 ^ 130 = 2 ^ t * 2 ^ (130 - t) := by rw [← Nat.pow_add]; congr 1; omega
  have hM : A * 2 ^ 130 / B / 2 ^ (130 - t) = A * 2 ^ t / B := by
    rw [e130, ← Nat.mul_assoc, Nat.div_div_eq_div_mul, Nat.mul_div_mul_right _ _ (Nat.two_pow_pos _)]
  have d1 := Nat.div_add_mod' (A * 2 ^ 130 / B) (2 ^ (130 - t))
  rw [hM] at d1
  have hl := Nat.mod_lt (A * 2 ^ 130 / B) (Nat.two_pow_pos (130 - t))
  have n1 := rnd_near (f := f) (b := b) (rm := rm) (minus := mi) (h := A * 2 ^ t / B) (j := 130 - t) (l := A * 2 ^ 130 / B % 2 ^ (130 - t)) (e := E) (more := decide (0 < A * 2 ^ 130 % B)) hq hl
  rw [d1] at n1
  have n2 := rnd_near (f := f) (b := b) (rm := rm) (minus := mi) (h := A * 2 ^ t / B) (j := 64) (l := if A * 2 ^ t % B = 0 then 0 else 1) (e := E) (more := false) hq (by split <;> decide)
  rw [n1]
  have n2' : rnd f b rm mi (A * 2 ^ t / B * 18446744073709551616 + (if A * 2 ^ t % B = 0 then 0 else 1)) (E - 64) false = _ := n2
  rw [n2']
  have hz : (A * 2 ^ 130 / B % 2 ^ (130 - t) ≠ 0 ∨ decide (0 < A * 2 ^ 130 % B) = true) ↔ ((if A * 2 ^ t % B = 0 then 0 else 1) ≠ 0 ∨ false = true) := by
    have d2 := Nat.div_add_mod' (A * 2 ^ 130) B
    have d3 := Nat.div_add_mod' (A * 2 ^ t) B
    have hp := Nat.two_pow_pos (130 - t)
    rw [dec]
    generalize A * 2 ^ 130 / B % 2 ^ (130 - t) = l at *
    generalize A * 2 ^ 130 / B = M at *
    generalize A * 2 ^ 130 % B = rest at *
    generalize A * 2 ^ t / B = q at *
    generalize hr0 : A * 2 ^ t % B = r0 at *
    have key : l * B + rest = r0 * 2 ^ (130 - t) := by
      have e1 : (q * B + r0) * 2 ^ (130 - t) = M * B + rest := by rw [d3, d2, e130, Nat.mul_assoc]
      rw [← d1, Nat.add_mul, Nat.add_mul] at e1
      have e2 : q * B * 2 ^ (130 - t) = q * 2 ^ (130 - t) * B := Nat.mul_right_comm ..
      omega
    have h1 : l * B = 0 ↔ l = 0 := by rw [Nat.mul_eq_zero]; omega
    have h2 : r0 * 2 ^ (130 - t) = 0 ↔ r0 = 0 := by rw [Nat.mul_eq_zero]; omega
    by_cases h : r0 = 0
    · rw [if_pos h]; simp; omega
    · rw [if_neg h]; simp; omega
  by_cases h : A * 2 ^ 130 / B % 2 ^ (130 - t) ≠ 0 ∨ decide (0 < A * 2 ^ 130 % B) = true
  · rw [if_pos h, if_pos (hz.1 h)]
  · rw [if_neg h, if_neg (fun h2 => h (hz.2 h2))]

section
variable {s rm : Int} (hs : s = 4 ∨ s = 8) (h0 : 0 ≤ rm) (h1 : rm ≤ 4) {a b : Nat} (ha : a < 18446744073709551616) (hb : b < 18446744073709551616)
include hs ha hb h0 h1
theorem sdiv_ok : p46 s rm a b = true ∧ r46_0 s rm a b = ((divS s rm a b).1 : Int) ∧ r46_1 s rm a b = ((divS s rm a b).2 : Int) := by
  obtain ⟨g1, g2, g3⟩ := of92 hs
  obtain ⟨f1, f2, f3, f4, f5, f6, f7, f8, f9, f10⟩ := size_facts hs
  have hk := (right_ok hs h0 h1).1
  have ta := take_ok hs ha
  have tb := take_ok hs hb
  obtain ⟨n0, n1, n2, n3⟩ := nans_2 hs ha hb (infN s a && infN s b || zerN s a && zerN s b)
  have ea := te_le hs ha
  have eb := te_le hs hb
  have hta := tm_lt hs ha
  have w : IntKind.wrap .i64 (IntKind.wrap .i64 (IntKind.wrap .i64 (teN s a - teN s b) - 63) - 64) = teN s a - teN s b - 63 - 64 := by
    rw [wrap_i64_of (n := teN s a - teN s b) (by omega) (by omega), wrap_i64_of (n := teN s a - teN s b - 63) (by omega) (by omega), wrap_i64_of (by omega) (by omega)]
  have hi96 := inf96 hs
  have p96 : p96 (frN s) = true := by simp only [p96]; rw [decide_eq_true (by omega)]; rfl
  have s1 := signed_ok hs (sgN s a != sgN s b) (x := infB s) (by rcases hs with rfl | rfl <;> decide)
  have s2 := signed_ok hs (sgN s a != sgN s b) (x := 0) (by rcases hs with rfl | rfl <;> decide)
  have s2 : r95_0 (topN s) (sgN s a != sgN s b) 0 = (sgB s (sgN s a != sgN s b) : Int) := s2
  have e49 : ishr .u64 (tmN s a : Int) 1 = (hiN (tmN s a * 9223372036854775808) : Int) := by
    have := shr_nat hta 1
    rw [show ishr .u64 (tmN s a : Int) 1 = ((tmN s a / 2 ^ 1 : Nat) : Int) from this]
    congr 1; unfold hiN; omega
  have e50 : ishl .u64 (tmN s a : Int) 63 = (loN (tmN s a * 9223372036854775808) : Int) := shl_nat (tmN s a) 63
  have key : finN s a = true → finN s b = true → (p102 (hiN (tmN s a * 9223372036854775808)) (loN (tmN s a * 9223372036854775808)) (tmN s b) = true ∧
      p98 (frN s) (biN s) rm (sgN s a != sgN s b) (teN s a - teN s b - 63 - 64) (r102_0 (hiN (tmN s a * 9223372036854775808)) (loN (tmN s a * 9223372036854775808)) (tmN s b)) (bif r102_1 (hiN (tmN s a * 9223372036854775808)) (loN (tmN s a * 9223372036854775808)) (tmN s b) != 0 then 1 else 0) = true) ∧
      r98_0 (frN s) (biN s) (topN s) rm (sgN s a != sgN s b) (teN s a - teN s b - 63 - 64) (r102_0 (hiN (tmN s a * 9223372036854775808)) (loN (tmN s a * 9223372036854775808)) (tmN s b)) (bif r102_1 (hiN (tmN s a * 9223372036854775808)) (loN (tmN s a * 9223372036854775808)) (tmN s b) != 0 then 1 else 0) =
        ((rndP s rm (sgN s a != sgN s b) (fM s a * 2 ^ 130 / fM s b) (fE s a - fE s b - 130) (decide (0 < fM s a * 2 ^ 130 % fM s b))).1 : Int) ∧
      r98_1 (frN s) (biN s) rm (sgN s a != sgN s b) (teN s a - teN s b - 63 - 64) (r102_0 (hiN (tmN s a * 9223372036854775808)) (loN (tmN s a * 9223372036854775808)) (tmN s b)) (bif r102_1 (hiN (tmN s a * 9223372036854775808)) (loN (tmN s a * 9223372036854775808)) (tmN s b) != 0 then 1 else 0) =
        ((rndP s rm (sgN s a != sgN s b) (fM s a * 2 ^ 130 / fM s b) (fE s a - fE s b - 130) (decide (0 < fM s a * 2 ^ 130 % fM s b))).2 : Int) := by
    intro fa fb
    obtain ⟨a1, a2, a3, a4, a5, a6⟩ := tm_facts hs ha fa
    obtain ⟨b1, b2, b3, b4, b5, b6⟩ := tm_facts hs hb fb
    have hhi : hiN (tmN s a * 9223372036854775808) = tmN s a / 2 := by unfold hiN; omega
    obtain ⟨d1, d2, d3⟩ := div64_ok (N := tmN s a * 9223372036854775808) (y := tmN s b) b1 b2 (by omega) (by omega)
    have hMb := fM_pos hs hb fb
    have ht : 63 + lzN s a - lzN s b + lzN s b = 63 + lzN s a := by omega
    have hN : tmN s a * 9223372036854775808 = fM s a * 2 ^ (63 + lzN s a - lzN s b) * 2 ^ lzN s b := by
      rw [Nat.mul_assoc, ← Nat.pow_add, ht, a3, Nat.mul_assoc, show (9223372036854775808 : Nat) = 2 ^ 63 from rfl, ← Nat.pow_add, Nat.add_comm]
    have hq : tmN s a * 9223372036854775808 / tmN s b = fM s a * 2 ^ (63 + lzN s a - lzN s b) / fM s b := by rw [hN, b3, Nat.mul_div_mul_right _ _ (Nat.two_pow_pos _)]
    have hr : tmN s a * 9223372036854775808 % tmN s b = fM s a * 2 ^ (63 + lzN s a - lzN s b) % fM s b * 2 ^ lzN s b := by rw [hN, b3, Nat.mul_mod_mul_right]
    have hq0 : 2 ^ 62 ≤ tmN s a * 9223372036854775808 / tmN s b := by
      rw [Nat.le_div_iff_mul_le (by omega)]
      have x1 : 2 ^ 62 * tmN s b ≤ 2 ^ 62 * 18446744073709551616 := Nat.mul_le_mul_left _ (by omega)
      have x2 : 9223372036854775808 * 9223372036854775808 ≤ tmN s a * 9223372036854775808 := Nat.mul_le_mul_right _ a1
      exact Nat.le_trans x1 x2
    have hq1 : tmN s a * 9223372036854775808 / tmN s b < 18446744073709551616 := by
      rw [Nat.div_lt_iff_lt_mul (by omega)]
      have : 18446744073709551616 * 9223372036854775808 ≤ 18446744073709551616 * tmN s b := Nat.mul_le_mul_left _ b1
      omega
    have hq2 : 2 ^ (frN s + 2) ≤ fM s a * 2 ^ (63 + lzN s a - lzN s b) / fM s b := by
      rw [← hq]
      exact Nat.le_trans (Nat.pow_le_pow_right (by decide) (by omega)) hq0
    have hqn := quo_near (f := frN s) (b := biN s) (rm := rm) (mi := (sgN s a != sgN s b)) (A := fM s a) (B := fM s b) (t := 63 + lzN s a - lzN s b) (E := teN s a - teN s b - 63 - 64 + 64) hMb (by omega) hq2
    rw [show teN s a - teN s b - 63 - 64 + 64 - ((130 - (63 + lzN s a - lzN s b) : Nat) : Int) = fE s a - fE s b - 130 by omega, show teN s a - teN s b - 63 - 64 + 64 - 64 = teN s a - teN s b - 63 - 64 by omega] at hqn
    unfold rndP
    rw [hqn, d2, d3, hr, hq]
    rw [hq] at hq0 hq1
    have hs0 : (bif ((fM s a * 2 ^ (63 + lzN s a - lzN s b) % fM s b * 2 ^ lzN s b : Nat) : Int) != 0 then (1 : Int) else 0) = ((if fM s a * 2 ^ (63 + lzN s a - lzN s b) % fM s b = 0 then 0 else 1 : Nat) : Int) := by
      have hp := Nat.two_pow_pos (lzN s b)
      have hz : fM s a * 2 ^ (63 + lzN s a - lzN s b) % fM s b * 2 ^ lzN s b = 0 ↔ fM s a * 2 ^ (63 + lzN s a - lzN s b) % fM s b = 0 := by rw [Nat.mul_eq_zero]; omega
      by_cases h : fM s a * 2 ^ (63 + lzN s a - lzN s b) % fM s b = 0
      · rw [if_pos h, hz.2 h]; rfl
      · have : (((fM s a * 2 ^ (63 + lzN s a - lzN s b) % fM s b * 2 ^ lzN s b : Nat) : Int) != 0) = true := by
          rw [bne_iff_ne]; intro h2; exact h (hz.1 (Int.natCast_eq_zero.1 h2))
        rw [if_neg h, this]; rfl
    rw [hs0]
    generalize fM s a * 2 ^ (63 + lzN s a - lzN s b) / fM s b = q at *
    have hl1 : (if fM s a * 2 ^ (63 + lzN s a - lzN s b) % fM s b = 0 then 0 else 1 : Nat) < 18446744073709551616 := by split <;> decide
    generalize (if fM s a * 2 ^ (63 + lzN s a - lzN s b) % fM s b = 0 then 0 else 1 : Nat) = l at *
    have := sround_ok hs (rm := rm) (minus := (sgN s a != sgN s b)) (P := q * 18446744073709551616 + l) (e := teN s a - teN s b - 63 - 64) (by omega) (by unfold two128; omega) (by omega) (by omega)
    rw [hi_of hl1, lo_of hl1] at this
    exact ⟨⟨d1, this.1⟩, this.2⟩
  have fin : finN s a = (!nanN s a && !infN s a && !zerN s a) := rfl
  have finb : finN s b = (!nanN s b && !infN s b && !zerN s b) := rfl
  rw [fin, finb] at key
  have ka2 := kd2 hs (a := a)
  have kb2 := kd2 hs (a := b)
  have ka0 := kd0 hs (a := a)
  have kb0 := kd0 hs (a := b)
  have kb := kd_both hs (a := a) (b := b)
  unfold divS oddP
  refine ⟨?_, ?_, ?_⟩
  · simp only [p46, hk, g1, g2, g3, ta, tb, dget, List.getD_cons_succ, List.getD_cons_zero, DV.toB, DV.toI, ka2, kb2, ka0, kb0, kb, n0, n3, p96, e49, e50, w]
    generalize p98 (frN s) (biN s) rm (sgN s a != sgN s b) (teN s a - teN s b - 63 - 64) (r102_0 (hiN (tmN s a * 9223372036854775808)) (loN (tmN s a * 9223372036854775808)) (tmN s b)) (bif r102_1 (hiN (tmN s a * 9223372036854775808)) (loN (tmN s a * 9223372036854775808)) (tmN s b) != 0 then 1 else 0) = q at *
    generalize p102 (hiN (tmN s a * 9223372036854775808)) (loN (tmN s a * 9223372036854775808)) (tmN s b) = q2 at *
    revert key
    cases nanN s a <;> cases nanN s b <;> cases infN s a <;> cases infN s b <;> cases zerN s a <;> cases zerN s b <;> intro key <;> first | rfl | (rw [(key rfl rfl).1.1, (key rfl rfl).1.2]; rfl)
  · simp only [r46_0, hk, g1, g2, g3, ta, tb, dget, List.getD_cons_succ, List.getD_cons_zero, DV.toB, DV.toI, ka2, kb2, ka0, kb0, kb, n1, n3, e49, e50, w, hi96, s1, s2]
    generalize r98_0 (frN s) (biN s) (topN s) rm (sgN s a != sgN s b) (teN s a - teN s b - 63 - 64) (r102_0 (hiN (tmN s a * 9223372036854775808)) (loN (tmN s a * 9223372036854775808)) (tmN s b)) (bif r102_1 (hiN (tmN s a * 9223372036854775808)) (loN (tmN s a * 9223372036854775808)) (tmN s b) != 0 then 1 else 0) = q at *
    revert key
    cases nanN s a <;> cases nanN s b <;> cases infN s a <;> cases infN s b <;> cases zerN s a <;> cases zerN s b <;> intro key <;> first | rfl | exact (key rfl rfl).2.1
  · simp only [r46_1, hk, g1, g2, g3, ta, tb, dget, List.getD_cons_succ, List.getD_cons_zero, DV.toB, DV.toI, ka2, kb2, ka0, kb0, kb, n2, n3, e49, e50, w]
    generalize r98_1 (frN s) (biN s) rm (sgN s a != sgN s b) (teN s a - teN s b - 63 - 64) (r102_0 (hiN (tmN s a * 9223372036854775808)) (loN (tmN s a * 9223372036854775808)) (tmN s b)) (bif r102_1 (hiN (tmN s a * 9223372036854775808)) (loN (tmN s a * 9223372036854775808)) (tmN s b) != 0 then 1 else 0) = q at *
    have l1 := loud_nan (s := s) (a := a)
    have l2 := loud_nan (s := s) (a := b)
    revert key l1 l2
    cases nanN s a <;> cases nanN s b <;> cases infN s a <;> cases infN s b <;> cases zerN s a <;> cases zerN s b <;> intro key l1 l2 <;>
      first | exact (key rfl rfl).2.2 | rfl | (cases loudN s a <;> cases loudN s b <;> first | rfl | cases l1 rfl | cases l2 rfl)
end
end Go.Proofs.Ytacciadcmiiimaa

namespace Go.Proofs.Ytacciadcmiiimaa
open Go Go.Sx Go.Rnd
set_option maxRecDepth 100000
set_option maxHeartbeats 1000000

def isqB : Nat → Nat → Nat → Nat
  | 0, _, q => q
  | i + 1, A, q => isqB i A (if (q + 2 ^ i) * (q + 2 ^ i) ≤ A then q + 2 ^ i else q)
def isq (A : Nat) : Nat := isqB (blen A) A 0
theorem isqB_ok {A : Nat} : ∀ (i q : Nat), q * q ≤ A → A < (q + 2 ^ i) * (q + 2 ^ i) → isqB i A q * isqB i A q ≤ A ∧ A < (isqB i A q + 1) * (isqB i A q + 1)
  | 0, _, h1, h2 => ⟨h1, h2⟩
  | i + 1, q, h1, h2 => by
    unfold isqB
    refine isqB_ok i _ ?_ ?_
    · split
      · assumption
      · exact h1
    · rw [Nat.pow_succ] at h2
      split
      · rw [show q + 2 ^ i + 2 ^ i = q + 2 ^ i * 2 by omega]; exact h2
      · omega
theorem isq_ok (A : Nat) : isq A * isq A ≤ A ∧ A < (isq A + 1) * (isq A + 1) :=
  isqB_ok _ 0 (by omega) (by
    rw [Nat.zero_add]
    have := blen_self (n := A)
    exact Nat.lt_of_lt_of_le this (Nat.le_mul_of_pos_left _ (Nat.two_pow_pos _)))
theorem sq_lt {a b : Nat} (h : a * a < b * b) : a < b := Nat.lt_of_not_le fun hc => by have := Nat.mul_le_mul hc hc; omega
theorem isq_one {A q : Nat} (h1 : q * q ≤ A) (h2 : A < (q + 1) * (q + 1)) : q = isq A := by
  obtain ⟨h3, h4⟩ := isq_ok A
  have a := sq_lt (a := q) (b := isq A + 1) (by omega)
  have b := sq_lt (a := isq A) (b := q + 1) (by omega)
  omega
theorem sq_two (x J : Nat) : x * 2 ^ J * (x * 2 ^ J) = x * x * 2 ^ (2 * J) := by
  rw [Nat.mul_mul_mul_comm, ← Nat.pow_add, show J + J = 2 * J by omega]
theorem isq_shift (N J : Nat) : isq (N * 2 ^ (2 * J)) / 2 ^ J = isq N ∧ ((isq (N * 2 ^ (2 * J)) % 2 ^ J ≠ 0 ∨ isq (N * 2 ^ (2 * J)) * isq (N * 2 ^ (2 * J)) < N * 2 ^ (2 * J)) ↔ isq N * isq N ≠ N) := by
  obtain ⟨a1, a2⟩ := isq_ok N
  obtain ⟨b1, b2⟩ := isq_ok (N * 2 ^ (2 * J))
  have hp := Nat.two_pow_pos J
  have hp2 := Nat.two_pow_pos (2 * J)
  have lo : isq N * 2 ^ J ≤ isq (N * 2 ^ (2 * J)) := by
    have : isq N * 2 ^ J * (isq N * 2 ^ J) ≤ N * 2 ^ (2 * J) := by rw [sq_two]; exact Nat.mul_le_mul_right _ a1
    have := sq_lt (a := isq N * 2 ^ J) (b := isq (N * 2 ^ (2 * J)) + 1) (by omega)
    omega
  have hi : isq (N * 2 ^ (2 * J)) < (isq N + 1) * 2 ^ J := by
    apply sq_lt
    rw [sq_two]
    exact Nat.lt_of_le_of_lt b1 (Nat.mul_lt_mul_of_pos_right a2 hp2)
  have hd : isq (N * 2 ^ (2 * J)) / 2 ^ J = isq N := Nat.div_eq_of_lt_le (by rw [Nat.mul_comm] at lo; rw [Nat.mul_comm]; exact lo) (by rw [Nat.mul_comm] at hi; rw [Nat.mul_comm]; exact hi)
  refine ⟨hd, ?_⟩
  have hdm := Nat.div_add_mod' (isq (N * 2 ^ (2 * J))) (2 ^ J)
  rw [hd] at hdm
  constructor
  · intro h he
    have h3 : isq N * 2 ^ J * (isq N * 2 ^ J) = N * 2 ^ (2 * J) := by rw [sq_two, he]
    have h4 : isq N * 2 ^ J = isq (N * 2 ^ (2 * J)) := isq_one (by omega) (by rw [← h3]; exact Nat.mul_lt_mul_of_lt_of_le (by omega) (by omega) (by omega))
    rw [h4] at h3
    rcases h with h | h
    · omega
    · omega
  · intro h
    by_cases hz : isq (N * 2 ^ (2 * J)) % 2 ^ J = 0
    · right
      have h4 : isq (N * 2 ^ (2 * J)) = isq N * 2 ^ J := by omega
      rw [h4, sq_two]
      exact Nat.mul_lt_mul_of_pos_right (by omega) hp2
    · exact .inl hz

theorem le_words {x N : Nat} : (decide ((hiN x : Int) < (hiN N : Int)) || (((hiN x : Int) == (hiN N : Int)) && decide ((loN x : Int) ≤ (loN N : Int)))) = decide (x ≤ N) := by
  have a := hi_lo x
  have b := hi_lo N
  have c := lo_lt x
  have d := lo_lt N
  rw [Bool.eq_iff_iff]
  simp only [Bool.or_eq_true, Bool.and_eq_true, dec, beq_iff_eq]
  omega
theorem sq_step {N q i : Nat} (hi : i ≤ 63) (hm : q % 2 ^ (i + 1) = 0) (hq : q + 2 ^ (i + 1) ≤ 18446744073709551616) :
    W104800 [.i (hiN N), .i (loN N), .i (q : Int), .i (i : Int)] = true ∧ C104800 [.i (hiN N), .i (loN N), .i (q : Int), .i (i : Int)] = true ∧
    N104800 [.i (hiN N), .i (loN N), .i (q : Int), .i (i : Int)] = [.i (hiN N), .i (loN N), .i ((if (q + 2 ^ i) * (q + 2 ^ i) ≤ N then q + 2 ^ i else q : Nat) : Int), .i ((i : Int) - 1)] := by
  have hp := Nat.two_pow_pos i
  have e1 := shl_one (n := i) (by omega)
  have e2 : ilor .u64 (q : Int) ((2 ^ i : Nat) : Int) = ((q + 2 ^ i : Nat) : Int) := by
    rw [Nat.pow_succ] at hm hq
    rw [lor_nn (by omega) (by omega), Nat.or_comm]
    have : q = q / (2 ^ i * 2) * (2 ^ i * 2) := by have := Nat.div_add_mod' q (2 ^ i * 2); omega
    have h2 : q = q / (2 ^ i * 2) * 2 ^ (i + 1) := by rw [Nat.pow_succ]; exact this
    rw [h2, or_high (by rw [Nat.pow_succ]; omega), Nat.add_comm]
  rw [Nat.pow_succ] at hq
  obtain ⟨m1, m2⟩ := mul64_ok (x := q + 2 ^ i) (y := q + 2 ^ i) (by omega) (by omega)
  refine ⟨?_, decide_eq_true (show (i : Int) ≥ 0 by omega), ?_⟩
  · show w104800 (hiN N) (loN N) (q : Int) (i : Int) = true
    simp only [w104800]
    rw [decide_eq_true (show (i : Int) ≥ 0 by omega)]
    rfl
  · show [DV.i (hiN N), .i (loN N), .i (n104800_0 (hiN N) (loN N) (q : Int) (i : Int)), .i (IntKind.wrap .i64 ((i : Int) - 1))] = _
    rw [wrap_i64_of (n := (i : Int) - 1) (by omega) (by omega)]
    have : n104800_0 (hiN N) (loN N) (q : Int) (i : Int) = ((if (q + 2 ^ i) * (q + 2 ^ i) ≤ N then q + 2 ^ i else q : Nat) : Int) := by
      simp only [n104800_0, e1, e2, m1, m2, le_words]
      by_cases h : (q + 2 ^ i) * (q + 2 ^ i) ≤ N
      · rw [if_pos h, decide_eq_true h]; rfl
      · rw [if_neg h, decide_eq_false h]; rfl
    rw [this]
theorem sq_loop {N : Nat} : ∀ i q : Nat, i ≤ 64 → q % 2 ^ i = 0 → q + 2 ^ i ≤ 18446744073709551616 → ∃ r2, L104800 (hiN N) (loN N) (q : Int) ((i : Int) - 1) = some [.i 0, .i (isqB i N q : Int), r2]
  | 0, q, _, _, _ => by
    refine ⟨.i (((0 : Nat) : Int) - 1), ?_⟩
    exact loopG_last (w := W104800) (c := C104800) (nx := N104800) (out := T104800) (s := [.i (hiN N), .i (loN N), .i (q : Int), .i (((0 : Nat) : Int) - 1)]) rfl rfl
  | i + 1, q, hi, hm, hq => by
    obtain ⟨hw, hc, hN⟩ := sq_step (N := N) (q := q) (i := i) (by omega) hm hq
    have e0 : (((i + 1 : Nat) : Int) - 1) = (i : Int) := by omega
    rw [e0]
    have hp := Nat.two_pow_pos i
    rw [Nat.pow_succ] at hm hq
    have hd := Nat.div_add_mod' q (2 ^ i * 2)
    rw [hm, Nat.add_zero] at hd
    obtain ⟨r2, h⟩ := sq_loop (N := N) i (if (q + 2 ^ i) * (q + 2 ^ i) ≤ N then q + 2 ^ i else q) (by omega) (by
      have h0 : q % 2 ^ i = 0 := by rw [← hd, ← Nat.mul_assoc, Nat.mul_right_comm]; exact Nat.mul_mod_left _ _
      split
      · rw [Nat.add_mod_right]; exact h0
      · exact h0) (by split <;> omega)
    refine ⟨r2, (loopG_next hw hc).trans ?_⟩
    rw [hN]
    exact h
theorem isqB_same {N : Nat} (h : N < two128) : isqB 64 N 0 = isq N := by
  obtain ⟨a, b⟩ := isqB_ok (A := N) 64 0 (by omega) (by unfold two128 at h; exact h)
  exact isq_one a b

theorem tmod2 (x : Int) : Int.tmod x 2 = 0 ↔ x % 2 = 0 := by
  rw [← Int.dvd_iff_tmod_eq_zero, Int.dvd_iff_emod_eq_zero]
theorem tdiv2 {x : Int} (h : x % 2 = 0) : Int.tdiv x 2 = x / 2 := by
  obtain ⟨y, rfl⟩ : ∃ y, x = 2 * y := ⟨x / 2, by omega⟩
  rw [Int.mul_tdiv_cancel_left _ (by decide), Int.mul_ediv_cancel_left _ (by decide)]
def sqN (s : Int) (a : Nat) : Nat := if fE s a % 2 ≠ 0 then 161 else 160
def sqrtS (s rm : Int) (a : Nat) : Nat × Nat :=
  if (!nanN s a && sgN s a && !zerN s a) || nanN s a then oddP s (!nanN s a && sgN s a && !zerN s a) (loudN s a)
  else if infN s a || zerN s a then (mkN s a, 0)
  else rndP s rm false (isq (fM s a * 2 ^ sqN s a)) ((fE s a - sqN s a) / 2) (decide (isq (fM s a * 2 ^ sqN s a) * isq (fM s a * 2 ^ sqN s a) < fM s a * 2 ^ sqN s a))
section
variable {s rm : Int} (hs : s = 4 ∨ s = 8) (h0 : 0 ≤ rm) (h1 : rm ≤ 4) {a : Nat} (ha : a < 18446744073709551616)
include hs ha
theorem nans_1 (inv : Bool) : p94 (frN s) inv [.b (sgN s a), .b (loudN s a), .i (kdN s a), .i (teN s a), .i (tmN s a)] = true ∧
    r94_0 (frN s) (biN s) inv [.b (sgN s a), .b (loudN s a), .i (kdN s a), .i (teN s a), .i (tmN s a)] = (quiB s : Int) ∧
    r94_1 inv [.b (sgN s a), .b (loudN s a), .i (kdN s a), .i (teN s a), .i (tmN s a)] = (if inv || loudN s a then 16 else 0) ∧
    r94_2 inv [.b (sgN s a), .b (loudN s a), .i (kdN s a), .i (teN s a), .i (tmN s a)] = (inv || nanN s a) := by
  have _ := ha
  have h := nans_at hs (n := 1) rfl (nans1 (inv := inv) (s1 := sgN s a) (l1 := loudN s a) (k1 := kdN s a) (e1 := teN s a) (m1 := tmN s a))
  rw [bad_kd, kd3] at h
  have h2 := loud_nan (s := s) (a := a)
  refine ⟨h.1, h.2.1, h.2.2.1, h.2.2.2.trans ?_⟩
  revert h2
  cases inv <;> cases nanN s a <;> cases loudN s a <;> simp
include h0 h1
theorem ssqrt_ok : p48 s rm a = true ∧ r48_0 s rm a = ((sqrtS s rm a).1 : Int) ∧ r48_1 s rm a = ((sqrtS s rm a).2 : Int) := by
  obtain ⟨g1, g2, g3⟩ := of92 hs
  obtain ⟨f1, f2, f3, f4, f5, f6, f7, f8, f9, f10⟩ := size_facts hs
  have hk := (right_ok hs h0 h1).1
  have ta := take_ok hs ha
  have hta := tm_lt hs ha
  have ea := te_le hs ha
  have ka2 := kd2 hs (a := a)
  have ka1 := kd1 (s := s) (a := a)
  have hinv : (sgN s a && (finN s a || infN s a)) = (!nanN s a && sgN s a && !zerN s a) := by
    have h2 := fun h => (zer_inf hs (a := a) h).1
    have h3 := inf_nan (s := s) (a := a)
    unfold finN
    revert h2 h3
    cases sgN s a <;> cases nanN s a <;> cases infN s a <;> cases zerN s a <;> simp
  obtain ⟨n0, n1, n2, n3⟩ := nans_1 hs ha (!nanN s a && sgN s a && !zerN s a)
  have e30 : ishr .u64 (tmN s a : Int) 1 = (hiN (tmN s a * 9223372036854775808) : Int) := by
    have := shr_nat hta 1
    rw [show ishr .u64 (tmN s a : Int) 1 = ((tmN s a / 2 ^ 1 : Nat) : Int) from this]
    congr 1; unfold hiN; omega
  have e31 : ishl .u64 (tmN s a : Int) 63 = (loN (tmN s a * 9223372036854775808) : Int) := shl_nat (tmN s a) 63
  have e32 : IntKind.wrap .i64 (teN s a - 63) = teN s a - 63 := wrap_i64_of (by omega) (by omega)
  have e35 : IntKind.wrap .i64 (teN s a - 63 - 1) = teN s a - 63 - 1 := wrap_i64_of (by omega) (by omega)
  have k6 : iland .u64 (a : Int) (IntKind.wrap .u64 (ishl .u64 (topN s : Int) 1 - 1)) = (mkN s a : Int) := by
    rcases hs with rfl | rfl
    · exact land_low (n := 32) ha (by decide)
    · have : iland .u64 (a : Int) ((2 ^ 64 - 1 : Nat) : Int) = ((a % 2 ^ 64 : Nat) : Int) := land_low ha (by decide)
      rw [Nat.mod_eq_of_lt ha] at this
      exact this
  -- the number whose root is taken
  obtain ⟨odd, hodd⟩ : ∃ o : Bool, o = decide ((teN s a - 63) % 2 ≠ 0) := ⟨_, rfl⟩
  have k34 : (Int.tmod (teN s a - 63) 2 != 0) = odd := by
    rw [hodd, Bool.eq_iff_iff, bne_iff_ne, dec, ne_eq, tmod2]
  obtain ⟨N, hNd⟩ : ∃ N, N = (if odd then tmN s a * 18446744073709551616 else tmN s a * 9223372036854775808) := ⟨_, rfl⟩
  obtain ⟨e, hed⟩ : ∃ e : Int, e = (if odd then teN s a - 63 - 1 else teN s a - 63) := ⟨_, rfl⟩
  have k36 : (bif odd then teN s a - 63 - 1 else teN s a - 63) = e := by rw [hed]; cases odd <;> rfl
  have k37 : (bif odd then (tmN s a : Int) else (hiN (tmN s a * 9223372036854775808) : Int)) = (hiN N : Int) := by
    rw [hNd]
    cases odd
    · rfl
    · show (tmN s a : Int) = (hiN (tmN s a * 18446744073709551616) : Int)
      congr 1; unfold hiN; omega
  have k38 : (bif odd then 0 else (loN (tmN s a * 9223372036854775808) : Int)) = (loN N : Int) := by
    rw [hNd]
    cases odd
    · rfl
    · show (0 : Int) = (loN (tmN s a * 18446744073709551616) : Int)
      have : loN (tmN s a * 18446744073709551616) = 0 := by unfold loN; omega
      rw [this]; rfl
  have hN128 : N < two128 := by rw [hNd]; unfold two128; split <;> omega
  obtain ⟨r2, hL⟩ := sq_loop (N := N) 64 0 (by decide) (Nat.zero_mod _) (by decide)
  rw [isqB_same hN128] at hL
  have hL : L104800 (hiN N) (loN N) 0 63 = some [.i 0, .i (isq N : Int), r2] := hL
  obtain ⟨i1, i2⟩ := isq_ok N
  have hR : isq N < 18446744073709551616 := sq_lt (Nat.lt_of_le_of_lt i1 (by unfold two128 at hN128; exact hN128))
  have k39 : p104800 (hiN N) (loN N) 0 63 = true := by unfold p104800; rw [hL]; rfl
  have k41 : r104800_1 (hiN N) (loN N) 0 63 = (isq N : Int) := by unfold r104800_1; rw [hL]; rfl
  obtain ⟨m1, m2⟩ := mul64_ok hR hR
  have k47 : (((hiN (isq N * isq N) : Int) == (hiN N : Int)) && ((loN (isq N * isq N) : Int) == (loN N : Int))) = decide (isq N * isq N = N) := by
    have x1 := hi_lo (isq N * isq N)
    have x2 := hi_lo N
    have x3 := lo_lt (isq N * isq N)
    have x4 := lo_lt N
    rw [Bool.eq_iff_iff]; simp only [Bool.and_eq_true, beq_iff_eq, dec]
    constructor
    · rintro ⟨a, b⟩; omega
    · intro h; rw [h]; exact ⟨rfl, rfl⟩
  have k49 : (bif !decide (isq N * isq N = N) then (1 : Int) else 0) = ((if isq N * isq N = N then 0 else 1 : Nat) : Int) := by
    by_cases h : isq N * isq N = N
    · rw [if_pos h, decide_eq_true h]; rfl
    · rw [if_neg h, decide_eq_false h]; rfl
  have he2 : e % 2 = 0 := by
    rw [hed]
    cases odd
    · have : ¬ ((teN s a - 63) % 2 ≠ 0) := of_decide_eq_false hodd.symm
      show (teN s a - 63) % 2 = 0
      omega
    · have : ((teN s a - 63) % 2 ≠ 0) := of_decide_eq_true hodd.symm
      show (teN s a - 63 - 1) % 2 = 0
      omega
  have hel : -1300 ≤ e ∧ e ≤ 2000 := by rw [hed]; split <;> omega
  have w : IntKind.wrap .i64 (IntKind.wrap .i64 (Int.tdiv e 2) - 64) = e / 2 - 64 := by
    have : Int.tdiv e 2 = e / 2 := tdiv2 he2
    rw [this, wrap_i64_of (n := e / 2) (by omega) (by omega), wrap_i64_of (by omega) (by omega)]
  have key : finN s a = true → p98 (frN s) (biN s) rm false (e / 2 - 64) (isq N : Int) ((if isq N * isq N = N then 0 else 1 : Nat) : Int) = true ∧
      r98_0 (frN s) (biN s) (topN s) rm false (e / 2 - 64) (isq N : Int) ((if isq N * isq N = N then 0 else 1 : Nat) : Int) =
        ((rndP s rm false (isq (fM s a * 2 ^ sqN s a)) ((fE s a - sqN s a) / 2) (decide (isq (fM s a * 2 ^ sqN s a) * isq (fM s a * 2 ^ sqN s a) < fM s a * 2 ^ sqN s a))).1 : Int) ∧
      r98_1 (frN s) (biN s) rm false (e / 2 - 64) (isq N : Int) ((if isq N * isq N = N then 0 else 1 : Nat) : Int) =
        ((rndP s rm false (isq (fM s a * 2 ^ sqN s a)) ((fE s a - sqN s a) / 2) (decide (isq (fM s a * 2 ^ sqN s a) * isq (fM s a * 2 ^ sqN s a) < fM s a * 2 ^ sqN s a))).2 : Int) := by
    intro fa
    obtain ⟨a1, a2, a3, a4, a5, a6⟩ := tm_facts hs ha fa
    -- the reference's number is this one, times a power of 4
    obtain ⟨J, hJ⟩ : ∃ J : Nat, sqN s a = lzN s a + 63 + (if odd then 1 else 0) + 2 * J := by
      refine ⟨(sqN s a - (lzN s a + 63 + (if odd then 1 else 0))) / 2, ?_⟩
      unfold sqN
      cases odd
      · have : ¬ ((teN s a - 63) % 2 ≠ 0) := of_decide_eq_false hodd.symm
        simp only [Bool.false_eq_true, if_false]
        split <;> omega
      · have : ((teN s a - 63) % 2 ≠ 0) := of_decide_eq_true hodd.symm
        simp only [if_true]
        split <;> omega
    have hA : fM s a * 2 ^ sqN s a = N * 2 ^ (2 * J) := by
      rw [hNd, hJ, a3]
      cases odd
      · simp only [Bool.false_eq_true, if_false, Nat.add_zero]
        rw [show (9223372036854775808 : Nat) = 2 ^ 63 from rfl, Nat.mul_assoc, Nat.mul_assoc, ← Nat.pow_add, ← Nat.pow_add, ← Nat.add_assoc]
      · simp only [if_true]
        rw [show (18446744073709551616 : Nat) = 2 ^ 64 from rfl, Nat.mul_assoc, Nat.mul_assoc, ← Nat.pow_add, ← Nat.pow_add]
        congr 2; omega
    have hE : (fE s a - sqN s a) / 2 = e / 2 - J := by
      rw [hed]
      cases odd
      · simp only [Bool.false_eq_true, if_false] at hJ ⊢
        omega
      · simp only [if_true] at hJ ⊢
        omega
    obtain ⟨s1, s2⟩ := isq_shift N J
    rw [hA, hE]
    unfold rndP
    have hN0 : 85070591730234615865843651857942052864 ≤ N := by rw [hNd]; split <;> omega
    have hR0 : 9223372036854775808 ≤ isq N := by
      have := sq_lt (a := 9223372036854775808) (b := isq N + 1) (by omega)
      omega
    have hR1 : 2 ^ (frN s + 2) ≤ isq N := by
      have : 2 ^ (frN s + 2) ≤ 2 ^ 63 := Nat.pow_le_pow_right (by decide) (by omega)
      omega
    have hdm := Nat.div_add_mod' (isq (N * 2 ^ (2 * J))) (2 ^ J)
    rw [s1] at hdm
    have n1 := rnd_near (f := frN s) (b := biN s) (rm := rm) (minus := false) (h := isq N) (j := J) (l := isq (N * 2 ^ (2 * J)) % 2 ^ J) (e := e / 2) (more := decide (isq (N * 2 ^ (2 * J)) * isq (N * 2 ^ (2 * J)) < N * 2 ^ (2 * J))) hR1 (Nat.mod_lt _ (Nat.two_pow_pos J))
    rw [hdm] at n1
    have n2 := rnd_near (f := frN s) (b := biN s) (rm := rm) (minus := false) (h := isq N) (j := 64) (l := if isq N * isq N = N then 0 else 1) (e := e / 2) (more := false) hR1 (by split <;> decide)
    have n2' : rnd (frN s) (biN s) rm false (isq N * 18446744073709551616 + (if isq N * isq N = N then 0 else 1)) (e / 2 - 64) false = _ := n2
    have hz : (isq (N * 2 ^ (2 * J)) % 2 ^ J ≠ 0 ∨ decide (isq (N * 2 ^ (2 * J)) * isq (N * 2 ^ (2 * J)) < N * 2 ^ (2 * J)) = true) ↔ ((if isq N * isq N = N then 0 else 1) ≠ 0 ∨ false = true) := by
      rw [dec, s2]
      by_cases h : isq N * isq N = N
      · rw [if_pos h]; simp [h]
      · rw [if_neg h]; simp [h]
    have n3 : rnd (frN s) (biN s) rm false (isq (N * 2 ^ (2 * J))) (e / 2 - J) (decide (isq (N * 2 ^ (2 * J)) * isq (N * 2 ^ (2 * J)) < N * 2 ^ (2 * J))) = rnd (frN s) (biN s) rm false (isq N * 18446744073709551616 + (if isq N * isq N = N then 0 else 1)) (e / 2 - 64) false := by
      rw [n1, n2']
      by_cases h : (if isq N * isq N = N then 0 else 1) ≠ 0 ∨ false = true
      · rw [if_pos h, if_pos (hz.2 h)]
      · rw [if_neg h, if_neg (fun h2 => h (hz.1 h2))]
    rw [n3]
    have hl1 : (if isq N * isq N = N then 0 else 1 : Nat) < 18446744073709551616 := by split <;> decide
    generalize (if isq N * isq N = N then 0 else 1 : Nat) = l at *
    have := sround_ok hs (rm := rm) (minus := false) (P := isq N * 18446744073709551616 + l) (e := e / 2 - 64) (by omega) (by unfold two128; omega) (by omega) (by omega)
    rw [hi_of hl1, lo_of hl1] at this
    exact this
  have fin : finN s a = (!nanN s a && !infN s a && !zerN s a) := rfl
  have kne : (kdN s a != 1) = !finN s a := by rw [← ka1]; rfl
  unfold sqrtS oddP
  refine ⟨?_, ?_, ?_⟩
  · simp only [p48, hk, g1, g2, g3, ta, dget, List.getD_cons_succ, List.getD_cons_zero, DV.toB, DV.toI, ka1, ka2, kne, hinv, n0, n3, e30, e31, e32, e35, k34, k36, k37, k38, k39, k41, m1, m2, k47, k49, w]
    rw [fin] at key ⊢
    generalize p98 (frN s) (biN s) rm false (e / 2 - 64) (isq N : Int) ((if isq N * isq N = N then 0 else 1 : Nat) : Int) = q at *
    revert key
    cases nanN s a <;> cases sgN s a <;> cases infN s a <;> cases zerN s a <;> intro key <;> first | rfl | (rw [(key rfl).1]; rfl)
  · simp only [r48_0, hk, g1, g2, g3, ta, dget, List.getD_cons_succ, List.getD_cons_zero, DV.toB, DV.toI, ka1, ka2, kne, hinv, n1, n3, e30, e31, e32, e35, k34, k36, k37, k38, k41, m1, m2, k47, k49, w, k6]
    rw [fin] at key ⊢
    generalize r98_0 (frN s) (biN s) (topN s) rm false (e / 2 - 64) (isq N : Int) ((if isq N * isq N = N then 0 else 1 : Nat) : Int) = q at *
    revert key
    cases nanN s a <;> cases sgN s a <;> cases infN s a <;> cases zerN s a <;> intro key <;> first | rfl | exact (key rfl).2.1
  · simp only [r48_1, hk, g1, g2, g3, ta, dget, List.getD_cons_succ, List.getD_cons_zero, DV.toB, DV.toI, ka1, ka2, kne, hinv, n2, n3, e30, e31, e32, e35, k34, k36, k37, k38, k41, m1, m2, k47, k49, w]
    rw [fin] at key ⊢
    generalize r98_1 (frN s) (biN s) rm false (e / 2 - 64) (isq N : Int) ((if isq N * isq N = N then 0 else 1 : Nat) : Int) = q at *
    have l1 := loud_nan (s := s) (a := a)
    revert key l1
    cases nanN s a <;> cases sgN s a <;> cases infN s a <;> cases zerN s a <;> intro key l1 <;> first | exact (key rfl).2.2 | rfl | (cases loudN s a <;> first | rfl | cases l1 rfl)
end
end Go.Proofs.Ytacciadcmiiimaa

namespace Go.Rnd
theorem rnd_of_near {f b : Nat} {rm : Int} {mi : Bool} {H j L : Nat} {e : Int} (hH : 2 ^ (f + 2) ≤ H) (hL : L < 2 ^ j) (h0 : L ≠ 0) : rnd f b rm mi (H * 2 ^ j + L) (e - j) false = rnd f b rm mi (H ||| 1) e false := by
  rw [rnd_near hH hL, if_pos (.inl h0)]
end Go.Rnd
namespace Go.Proofs.Ytacciadcmiiimaa
open Go Go.Sx Go.Rnd
set_option maxRecDepth 100000
set_option maxHeartbeats 1000000

theorem jam_add {f b : Nat} {rm : Int} {mi : Bool} {X Y n : Nat} {e : Int} (hX0 : 0 < X) (hX : 2 ^ (f + 2) ≤ X) (hX2 : X % 2 = 0) : rnd f b rm mi (X + jamN Y n) e false = rnd f b rm mi (X * 2 ^ n + Y) (e - n) false := by
  have hd := Nat.div_add_mod' Y (2 ^ n)
  have hl := Nat.mod_lt Y (Nat.two_pow_pos n)
  unfold jamN
  generalize Y / 2 ^ n = z at *
  generalize Y % 2 ^ n = l at *
  subst hd
  by_cases h : l = 0
  · rw [if_pos h]
    have : X * 2 ^ n + (z * 2 ^ n + l) = (X + z) * 2 ^ n := by rw [Nat.add_mul]; omega
    rw [this, rnd_scale (by omega)]
  · rw [if_neg h]
    have e1 : X * 2 ^ n + (z * 2 ^ n + l) = (X + z) * 2 ^ n + l := by rw [Nat.add_mul]; omega
    rw [e1, rnd_of_near (by omega) hl h]
    congr 1
    rw [or_one, or_one]; omega
theorem jam_sub {f b : Nat} {rm : Int} {mi : Bool} {X Y n : Nat} {e : Int} (hX2 : X % 2 = 0) (hlt : jamN Y n < X) (hbig : Y % 2 ^ n ≠ 0 → 2 ^ (f + 2) + 1 + Y / 2 ^ n ≤ X) : rnd f b rm mi (X - jamN Y n) e false = rnd f b rm mi (X * 2 ^ n - Y) (e - n) false ∧ Y < X * 2 ^ n := by
  have hd := Nat.div_add_mod' Y (2 ^ n)
  have hp := Nat.two_pow_pos n
  have hl := Nat.mod_lt Y hp
  unfold jamN at hlt ⊢
  generalize Y / 2 ^ n = z at *
  generalize Y % 2 ^ n = l at *
  subst hd
  by_cases h : l = 0
  · rw [if_pos h] at hlt ⊢
    have e1 : X * 2 ^ n - (z * 2 ^ n + l) = (X - z) * 2 ^ n := by rw [Nat.sub_mul]; omega
    have e2 : z * 2 ^ n < X * 2 ^ n := Nat.mul_lt_mul_of_pos_right hlt hp
    exact ⟨by rw [e1, rnd_scale (by omega)], by omega⟩
  · have hb := hbig h
    have hp2 := Nat.two_pow_pos (f + 2)
    rw [if_neg h]
    have e2 : (X - z - 1) * 2 ^ n + 2 ^ n + z * 2 ^ n = X * 2 ^ n := by
      have : (X - z - 1 + 1 + z) * 2 ^ n = X * 2 ^ n := by congr 1; omega
      rw [Nat.add_mul, Nat.add_mul, Nat.one_mul] at this
      exact this
    have e1 : X * 2 ^ n - (z * 2 ^ n + l) = (X - z - 1) * 2 ^ n + (2 ^ n - l) := by omega
    refine ⟨?_, by omega⟩
    rw [e1, rnd_of_near (by omega) (by omega) (by omega)]
    congr 1
    rw [or_one, or_one]; omega

theorem scale_back {f b : Nat} {rm : Int} {mi : Bool} {S V : Nat} {e0 e1 : Int} (hV : 0 < V) (h : (∃ t : Nat, S = V * 2 ^ t ∧ e1 = e0 - t) ∨ (∃ t : Nat, S * 2 ^ t = V ∧ e1 = e0 + t)) : rnd f b rm mi S e1 false = rnd f b rm mi V e0 false := by
  rcases h with ⟨t, rfl, rfl⟩ | ⟨t, rfl, rfl⟩
  · exact rnd_scale hV
  · have hS : 0 < S := by
      rcases Nat.eq_zero_or_pos S with h | h
      · subst h; omega
      · exact h
    have := rnd_scale (f := f) (b := b) (rm := rm) (minus := mi) (M := S) (k := t) (E := e0 + t) hS
    rw [show e0 + (t : Int) - t = e0 by omega] at this
    exact this.symm

theorem addw {X Q : Nat} (h : X + Q < two128) : IntKind.wrap .u64 (IntKind.wrap .u64 ((loN X : Int) + loN Q) + 0) = (loN (X + Q) : Int) ∧
    IntKind.wrap .u64 (IntKind.wrap .u64 ((hiN X : Int) + hiN Q) + (bif decide ((loN (X + Q) : Int) < loN X) then 1 else 0)) = (hiN (X + Q) : Int) := by
  have a := hi_lo X
  have b := hi_lo Q
  have c := lo_lt X
  have d := lo_lt Q
  have a' := hi_lo (X + Q)
  have c' := lo_lt (X + Q)
  have hh := hi_lt h
  constructor
  · rw [wrap_u64, wrap_u64]; omega
  · by_cases hc : (loN (X + Q) : Int) < loN X
    · rw [decide_eq_true hc, cond_true, wrap_u64, wrap_u64]; omega
    · rw [decide_eq_false hc, cond_false, wrap_u64, wrap_u64]; omega
theorem subw {X Q : Nat} (hX : X < two128) (h : Q ≤ X) : IntKind.wrap .u64 (IntKind.wrap .u64 ((loN X : Int) - loN Q) - 0) = (loN (X - Q) : Int) ∧
    IntKind.wrap .u64 (IntKind.wrap .u64 ((hiN X : Int) - hiN Q) - (bif decide ((loN X : Int) < loN Q) then 1 else 0)) = (hiN (X - Q) : Int) := by
  have a := hi_lo X
  have b := hi_lo Q
  have c := lo_lt X
  have d := lo_lt Q
  have a' := hi_lo (X - Q)
  have c' := lo_lt (X - Q)
  have hh := hi_lt hX
  constructor
  · rw [wrap_u64, wrap_u64]; omega
  · by_cases hc : (loN X : Int) < loN Q
    · rw [decide_eq_true hc, cond_true, wrap_u64, wrap_u64]; omega
    · rw [decide_eq_false hc, cond_false, wrap_u64, wrap_u64]; omega
theorem borrow {X Q : Nat} : (decide ((hiN X : Int) < hiN Q) || (((bif decide ((loN X : Int) < loN Q) then (1 : Int) else 0) == 1) && ((hiN X : Int) == hiN Q))) = decide (X < Q) := by
  have a := hi_lo X
  have b := hi_lo Q
  have c := lo_lt X
  have d := lo_lt Q
  have e : ((bif decide ((loN X : Int) < loN Q) then (1 : Int) else 0) == 1) = decide ((loN X : Int) < loN Q) := by cases decide ((loN X : Int) < loN Q) <;> rfl
  rw [e, Bool.eq_iff_iff]
  simp only [Bool.or_eq_true, Bool.and_eq_true, dec, beq_iff_eq]
  omega
theorem or_zero {D : Nat} (h : D < two128) : (ilor .u64 (hiN D : Int) (loN D : Int) == 0) = decide (D = 0) := by
  have a := hi_lo D
  rw [lor_nn (hi_lt h) (lo_lt D), Bool.eq_iff_iff]
  simp only [beq_iff_eq, dec, Int.natCast_eq_zero, Nat.or_eq_zero_iff]
  omega
theorem jam_any {Y : Nat} {x : Int} (hY : Y < two128) (hx : x < 9223372036854775808) : p123 (loN Y) x = true ∧ r123_0 (hiN Y) (loN Y) x = (hiN (jamN Y x.toNat) : Int) ∧ r123_1 (hiN Y) (loN Y) x = (loN (jamN Y x.toNat) : Int) := by
  by_cases h : 0 ≤ x
  · obtain ⟨n, rfl⟩ : ∃ n : Nat, x = n := ⟨x.toNat, by omega⟩
    exact jam_ok hY (by omega)
  · have e3 : decide (x ≤ 0) = true := decide_eq_true (by omega)
    have : x.toNat = 0 := by omega
    rw [this]
    have : jamN Y 0 = Y := by unfold jamN; rw [Nat.pow_zero, Nat.mod_one, if_pos rfl, Nat.div_one]
    rw [this]
    refine ⟨?_, ?_, ?_⟩
    · have e4 : decide (x ≥ 64) = false := decide_eq_false (by omega)
      simp only [p123, e3]; simp [ow]
    · simp only [r123_0, e3]; rfl
    · simp only [r123_1, e3]; rfl

noncomputable def sumQ (m35 : Bool) (e36 h37 l38 : Int) (m39 : Bool) (e40 h41 l42 : Int) : Int × Int × Int × Int × Bool × Int × Int :=
  let x43 := IntKind.wrap .i64 (e36 - e40)
  let x45 := r123_0 h41 l42 x43
  let x46 := r123_1 h41 l42 x43
  let x55 := IntKind.wrap .u64 (l38 + x46)
  let x56 := IntKind.wrap .u64 (x55 + 0)
  let x61 : Int := bif decide (x56 < l38) || (((0 : Nat) == 1) && (x56 == l38)) then 1 else 0
  let x70 := IntKind.wrap .u64 (IntKind.wrap .u64 (h37 + x45) + x61)
  let x88 := IntKind.wrap .u64 (IntKind.wrap .u64 (l38 - x46) - 0)
  let x93 : Int := bif decide (l38 < x46) || (((0 : Nat) == 1) && (l38 == x46)) then 1 else 0
  let x102 := IntKind.wrap .u64 (IntKind.wrap .u64 (h37 - x45) - x93)
  let x107 : Int := bif decide (h37 < x45) || ((x93 == 1) && (h37 == x45)) then 1 else 0
  let x108 := x107 == 1
  let x117 := IntKind.wrap .u64 (IntKind.wrap .u64 (x46 - l38) - 0)
  let x122 : Int := bif decide (x46 < l38) || (((0 : Nat) == 1) && (x46 == l38)) then 1 else 0
  let x131 := IntKind.wrap .u64 (IntKind.wrap .u64 (x45 - h37) - x122)
  (x70, x56, bif x108 then x131 else x102, bif x108 then x117 else x88, bif x108 then m39 else m35, x45, x46)
theorem sumQ_ok {mX mY : Bool} {eX eY : Int} {X Y : Nat} (hX : X < 170141183460469231731687303715884105728) (hY : Y < 170141183460469231731687303715884105728) (h1 : -40000 ≤ eX) (h2 : eX ≤ 40000) (h3 : -40000 ≤ eY) (h4 : eY ≤ 40000) :
    sumQ mX eX (hiN X) (loN X) mY eY (hiN Y) (loN Y) = ((hiN (X + jamN Y (eX - eY).toNat) : Int), (loN (X + jamN Y (eX - eY).toNat) : Int),
      (hiN (if X < jamN Y (eX - eY).toNat then jamN Y (eX - eY).toNat - X else X - jamN Y (eX - eY).toNat) : Int), (loN (if X < jamN Y (eX - eY).toNat then jamN Y (eX - eY).toNat - X else X - jamN Y (eX - eY).toNat) : Int), (if X < jamN Y (eX - eY).toNat then mY else mX),
      (hiN (jamN Y (eX - eY).toNat) : Int), (loN (jamN Y (eX - eY).toNat) : Int)) ∧ X + jamN Y (eX - eY).toNat < two128 := by
  have w : IntKind.wrap .i64 (eX - eY) = eX - eY := wrap_i64_of (by omega) (by omega)
  have hY2 : Y < two128 := by unfold two128; omega
  obtain ⟨_, j1, j2⟩ := jam_any (Y := Y) (x := eX - eY) hY2 (by omega)
  have hj : jamN Y (eX - eY).toNat ≤ 170141183460469231731687303715884105728 := by
    unfold jamN
    have := Nat.div_le_self Y (2 ^ (eX - eY).toNat)
    split
    · omega
    · rw [or_one]; omega
  generalize jamN Y (eX - eY).toNat = Q at *
  have hlt : X + Q < two128 := by unfold two128; omega
  obtain ⟨a1, a2⟩ := addw hlt
  have hX2 : X < two128 := by unfold two128; omega
  have hQ2 : Q < two128 := by unfold two128; omega
  have z : ((0 : Nat) == 1) = false := rfl
  refine ⟨?_, hlt⟩
  unfold sumQ
  dsimp only
  rw [w, j1, j2]
  simp only [z, Bool.false_and, Bool.or_false, a1, a2, borrow]
  have e1 : ((bif decide (X < Q) then (1 : Int) else 0) == 1) = decide (X < Q) := by cases decide (X < Q) <;> rfl
  rw [e1]
  by_cases hc : X < Q
  · obtain ⟨b1, b2⟩ := subw hQ2 (Nat.le_of_lt hc)
    rw [decide_eq_true hc, if_pos hc, if_pos hc, b1, b2]; rfl
  · obtain ⟨b1, b2⟩ := subw hX2 (Nat.le_of_not_lt hc)
    rw [decide_eq_false hc, if_neg hc, if_neg hc, b1, b2]; rfl

noncomputable def sumR0 (f b top rm : Int) (m35 : Bool) (e36 h37 l38 : Int) (m39 : Bool) (e40 h41 l42 : Int) : Int :=
  let q := sumQ m35 e36 h37 l38 m39 e40 h41 l42
  bif !(m35 == m39) then (bif !(ilor .u64 q.2.2.1 q.2.2.2.1 == 0) then r98_0 f b top rm q.2.2.2.2.1 e36 q.2.2.1 q.2.2.2.1 else r95_0 top (rm == 2) 0) else r98_0 f b top rm m35 e36 q.1 q.2.1
noncomputable def sumR1 (f b rm : Int) (m35 : Bool) (e36 h37 l38 : Int) (m39 : Bool) (e40 h41 l42 : Int) : Int :=
  let q := sumQ m35 e36 h37 l38 m39 e40 h41 l42
  bif !(m35 == m39) then (bif !(ilor .u64 q.2.2.1 q.2.2.2.1 == 0) then r98_1 f b rm q.2.2.2.2.1 e36 q.2.2.1 q.2.2.2.1 else 0) else r98_1 f b rm m35 e36 q.1 q.2.1
noncomputable def sumP (f b rm : Int) (m35 : Bool) (e36 h37 l38 : Int) (m39 : Bool) (e40 h41 l42 : Int) : Bool :=
  let q := sumQ m35 e36 h37 l38 m39 e40 h41 l42
  bif !(m35 == m39) then (bif !(ilor .u64 q.2.2.1 q.2.2.2.1 == 0) then p98 f b rm q.2.2.2.2.1 e36 q.2.2.1 q.2.2.2.1 else true) else p98 f b rm m35 e36 q.1 q.2.1

def minE (a b : Int) : Int := if b < a then b else a
def sumS (s rm : Int) (mx : Bool) (Mx : Nat) (Ex : Int) (my : Bool) (My : Nat) (Ey : Int) : Nat × Nat :=
  if mx = my then (if Mx * 2 ^ (Ex - minE Ex Ey).toNat + My * 2 ^ (Ey - minE Ex Ey).toNat = 0 then (sgB s mx, 0) else rndP s rm mx (Mx * 2 ^ (Ex - minE Ex Ey).toNat + My * 2 ^ (Ey - minE Ex Ey).toNat) (minE Ex Ey) false)
  else if Mx * 2 ^ (Ex - minE Ex Ey).toNat = My * 2 ^ (Ey - minE Ex Ey).toNat then (sgB s (rm == 2), 0)
  else if Mx * 2 ^ (Ex - minE Ex Ey).toNat < My * 2 ^ (Ey - minE Ex Ey).toNat then rndP s rm my (My * 2 ^ (Ey - minE Ex Ey).toNat - Mx * 2 ^ (Ex - minE Ex Ey).toNat) (minE Ex Ey) false
  else rndP s rm mx (Mx * 2 ^ (Ex - minE Ex Ey).toNat - My * 2 ^ (Ey - minE Ex Ey).toNat) (minE Ex Ey) false
theorem minE_comm (a b : Int) : minE a b = minE b a := by unfold minE; split <;> split <;> omega
theorem sumS_comm (s rm : Int) (mx : Bool) (Mx : Nat) (Ex : Int) (my : Bool) (My : Nat) (Ey : Int) : sumS s rm mx Mx Ex my My Ey = sumS s rm my My Ey mx Mx Ex := by
  unfold sumS
  rw [minE_comm Ey Ex]
  generalize Mx * 2 ^ (Ex - minE Ex Ey).toNat = A
  generalize My * 2 ^ (Ey - minE Ex Ey).toNat = B
  by_cases h : mx = my
  · subst h
    rw [if_pos rfl, if_pos rfl, Nat.add_comm A B]
  · rw [if_neg h, if_neg (show ¬ my = mx from fun h2 => h h2.symm)]
    by_cases h1 : A = B
    · rw [if_pos h1, if_pos (show B = A from h1.symm)]
    · rw [if_neg h1, if_neg (show ¬ B = A from fun h2 => h1 h2.symm)]
      by_cases h2 : A < B
      · rw [if_pos h2, if_neg (show ¬ B < A by omega)]
      · rw [if_neg h2, if_pos (show B < A by omega)]
def Tm (P : Nat) (e : Int) (M : Nat) (E : Int) : Prop :=
  -20000 ≤ e ∧ e ≤ 20000 ∧ -20000 ≤ E ∧ E ≤ 20000 ∧ ((M = 0 ∧ P = 0) ∨ (0 < M ∧ ∃ k : Nat, P = M * 2 ^ k ∧ e = E - k ∧ 85070591730234615865843651857942052864 ≤ P ∧ P < 170141183460469231731687303715884105728 ∧ P % 2097152 = 0))
section
variable {s rm : Int} (hs : s = 4 ∨ s = 8)
include hs
theorem sumC_end {mX mY : Bool} {X Y Mx My A B n : Nat} {eX eY Ex Ey : Int}
    (hq : sumQ mX eX (hiN X) (loN X) mY eY (hiN Y) (loN Y) = ((hiN (X + jamN Y (eX - eY).toNat) : Int), (loN (X + jamN Y (eX - eY).toNat) : Int),
      (hiN (if X < jamN Y (eX - eY).toNat then jamN Y (eX - eY).toNat - X else X - jamN Y (eX - eY).toNat) : Int), (loN (if X < jamN Y (eX - eY).toNat then jamN Y (eX - eY).toNat - X else X - jamN Y (eX - eY).toNat) : Int), (if X < jamN Y (eX - eY).toNat then mY else mX),
      (hiN (jamN Y (eX - eY).toNat) : Int), (loN (jamN Y (eX - eY).toNat) : Int)))
    (hj : jamN Y (eX - eY).toNat = jamN Y n) (hlt : X + jamN Y (eX - eY).toNat < two128) (s2 : r95_0 (topN s) (rm == 2) 0 = (sgB s (rm == 2) : Int)) (x1 : -20000 ≤ eX) (x2 : eX ≤ 20000) (hX0 : 0 < X) (hA0 : 0 < A)
    (hplus : rnd (frN s) (biN s) rm mX (X + jamN Y n) eX false = rnd (frN s) (biN s) rm mX (A + B) (minE Ex Ey) false)
    (hdiff : (X < jamN Y n ↔ A < B) ∧ (X = jamN Y n ↔ A = B) ∧ (jamN Y n < X → rnd (frN s) (biN s) rm mX (X - jamN Y n) eX false = rnd (frN s) (biN s) rm mX (A - B) (minE Ex Ey) false) ∧
        (X < jamN Y n → rnd (frN s) (biN s) rm mY (jamN Y n - X) eX false = rnd (frN s) (biN s) rm mY (B - A) (minE Ex Ey) false))
    (hA : Mx * 2 ^ (Ex - minE Ex Ey).toNat = A) (hB : My * 2 ^ (Ey - minE Ex Ey).toNat = B) :
    sumP (frN s) (biN s) rm mX eX (hiN X) (loN X) mY eY (hiN Y) (loN Y) = true ∧
    sumR0 (frN s) (biN s) (topN s) rm mX eX (hiN X) (loN X) mY eY (hiN Y) (loN Y) = ((sumS s rm mX Mx Ex mY My Ey).1 : Int) ∧
    sumR1 (frN s) (biN s) rm mX eX (hiN X) (loN X) mY eY (hiN Y) (loN Y) = ((sumS s rm mX Mx Ex mY My Ey).2 : Int) := by
  unfold sumP sumR0 sumR1 sumS
  rw [hq, hj, hA, hB]
  rw [hj] at hlt
  dsimp only
  generalize jamN Y n = Q at *
  obtain ⟨d1, d2, d3, d4⟩ := hdiff
  by_cases hm : mX = mY
  · have e : (mX == mY) = true := by rw [hm]; simp
    rw [e, if_pos hm, if_neg (show ¬ A + B = 0 by omega)]
    simp only [Bool.not_true, cond_false]
    have := sround_ok hs (rm := rm) (minus := mX) (P := X + Q) (e := eX) (by omega) hlt (by omega) (by omega)
    rw [hplus] at this
    exact this
  · have e : (mX == mY) = false := by rw [beq_eq_false_iff_ne]; exact hm
    rw [e, if_neg hm]
    simp only [Bool.not_false, cond_true]
    have hD : (if X < Q then Q - X else X - Q) < two128 := by split <;> omega
    rw [or_zero hD]
    by_cases hz : X = Q
    · have : (if X < Q then Q - X else X - Q) = 0 := by split <;> omega
      rw [this, if_pos (d2.1 hz)]
      exact ⟨rfl, s2, rfl⟩
    · have : ¬ (if X < Q then Q - X else X - Q) = 0 := by split <;> omega
      rw [decide_eq_false this, if_neg (fun h => hz (d2.2 h))]
      simp only [Bool.not_false, cond_true]
      by_cases hl : X < Q
      · rw [if_pos hl, if_pos hl, if_pos (d1.1 hl)]
        have := sround_ok hs (rm := rm) (minus := mY) (P := Q - X) (e := eX) (by omega) (by omega) (by omega) (by omega)
        rw [d4 hl] at this
        exact this
      · rw [if_neg hl, if_neg hl, if_neg (fun h => hl (d1.2 h))]
        have := sround_ok hs (rm := rm) (minus := mX) (P := X - Q) (e := eX) (by omega) (by omega) (by omega) (by omega)
        rw [d3 (by omega)] at this
        exact this
theorem sumC_ok {mX mY : Bool} {X Y Mx My : Nat} {eX eY Ex Ey : Int} (hx : Tm X eX Mx Ex) (hy : Tm Y eY My Ey) (hx0 : 0 < Mx) (hle : 0 < My → eY ≤ eX) :
    sumP (frN s) (biN s) rm mX eX (hiN X) (loN X) mY eY (hiN Y) (loN Y) = true ∧
    sumR0 (frN s) (biN s) (topN s) rm mX eX (hiN X) (loN X) mY eY (hiN Y) (loN Y) = ((sumS s rm mX Mx Ex mY My Ey).1 : Int) ∧
    sumR1 (frN s) (biN s) rm mX eX (hiN X) (loN X) mY eY (hiN Y) (loN Y) = ((sumS s rm mX Mx Ex mY My Ey).2 : Int) := by
  obtain ⟨f1, f2, f3, f4, f5, f6, f7, f8, f9, f10⟩ := size_facts hs
  obtain ⟨x1, x2, x3, x4, hX⟩ := hx
  obtain ⟨y1, y2, y3, y4, hY⟩ := hy
  rcases hX with ⟨h, _⟩ | ⟨_, kx, xP, xe, xl, xu, xm⟩
  · omega
  have hYu : Y < 170141183460469231731687303715884105728 := by rcases hY with ⟨_, h⟩ | ⟨_, k, _, _, _, h, _⟩ <;> omega
  have hYm : Y % 2097152 = 0 := by rcases hY with ⟨_, h⟩ | ⟨_, k, _, _, _, _, h⟩ <;> omega
  have hY0 : Y = 0 ↔ My = 0 := by rcases hY with ⟨h, h'⟩ | ⟨h, k, _, _, h', _, _⟩ <;> omega
  obtain ⟨hq, hlt⟩ := sumQ_ok (mX := mX) (mY := mY) (eX := eX) (eY := eY) xu hYu (by omega) (by omega) (by omega) (by omega)
  have s2 := signed_ok hs (rm == 2) (x := 0) (by rcases hs with rfl | rfl <;> decide)
  have s2 : r95_0 (topN s) (rm == 2) 0 = (sgB s (rm == 2) : Int) := s2
  have hf : 2 ^ (frN s + 2) ≤ 2 ^ 54 := Nat.pow_le_pow_right (by decide) (by omega)
  -- the two numbers, at one exponent
  obtain ⟨n, hn⟩ : ∃ n : Nat, n = (if 0 < My then (eX - eY).toNat else 0) := ⟨_, rfl⟩
  have hj : jamN Y (eX - eY).toNat = jamN Y n := by
    by_cases h : 0 < My
    · rw [hn, if_pos h]
    · have : Y = 0 := hY0.2 (by omega)
      rw [this]
      have z : ∀ k, jamN 0 k = 0 := fun k => by unfold jamN; rw [Nat.zero_mod, if_pos rfl, Nat.zero_div]
      rw [z, z]
  obtain ⟨t, ⟨ht1, ht2, ht3⟩ | ⟨hM, ht1, ht3⟩⟩ : ∃ t : Nat, X * 2 ^ n = Mx * 2 ^ (Ex - minE Ex Ey).toNat * 2 ^ t ∧ Y = My * 2 ^ (Ey - minE Ex Ey).toNat * 2 ^ t ∧ eX - n = minE Ex Ey - t ∨ (My = 0 ∧ X * 2 ^ n * 2 ^ t = Mx * 2 ^ (Ex - minE Ex Ey).toNat ∧ eX - n = minE Ex Ey + t) := by
    rcases hY with ⟨h, h'⟩ | ⟨h, ky, yP, ye, _, _, _⟩
    · subst h h'
      have hn0 : n = 0 := by rw [hn, if_neg (by omega)]
      subst hn0
      by_cases hc : eX ≤ minE Ex Ey
      · refine ⟨(minE Ex Ey - eX).toNat, .inl ⟨?_, by simp, by omega⟩⟩
        rw [xP, Nat.pow_zero, Nat.mul_one, Nat.mul_assoc, ← Nat.pow_add]
        congr 2
        have : minE Ex Ey ≤ Ex := by unfold minE; split <;> omega
        omega
      · refine ⟨(eX - minE Ex Ey).toNat, .inr ⟨rfl, ?_, by omega⟩⟩
        rw [xP, Nat.pow_zero, Nat.mul_one, Nat.mul_assoc, ← Nat.pow_add]
        congr 2
        omega
    · have := hle h
      have hn1 : n = (eX - eY).toNat := by rw [hn, if_pos h]
      have hm : eY ≤ minE Ex Ey ∧ minE Ex Ey ≤ Ex ∧ minE Ex Ey ≤ Ey := by unfold minE; split <;> omega
      refine ⟨(minE Ex Ey - eY).toNat, .inl ⟨?_, ?_, by omega⟩⟩
      · rw [xP, Nat.mul_assoc, Nat.mul_assoc, ← Nat.pow_add, ← Nat.pow_add]
        congr 2; omega
      · rw [yP, Nat.mul_assoc, ← Nat.pow_add]
        congr 2; omega
  · -- Y and X at the exponent of Y
    generalize hA : Mx * 2 ^ (Ex - minE Ex Ey).toNat = A at *
    generalize hB : My * 2 ^ (Ey - minE Ex Ey).toNat = B at *
    have hpt := Nat.two_pow_pos t
    have hpn := Nat.two_pow_pos n
    have hA0 : 0 < A := by rw [← hA]; exact Nat.mul_pos hx0 (Nat.two_pow_pos _)
    have qle : jamN Y n ≤ 170141183460469231731687303715884105728 := by
      unfold jamN
      have := Nat.div_le_self Y (2 ^ n)
      split
      · omega
      · rw [or_one]; omega
    have hplus : rnd (frN s) (biN s) rm mX (X + jamN Y n) eX false = rnd (frN s) (biN s) rm mX (A + B) (minE Ex Ey) false := by
      rw [jam_add (by omega) (by omega) (by omega)]
      exact scale_back (by omega) (.inl ⟨t, by rw [ht1, ht2, Nat.add_mul], ht3⟩)
    have cmp : (X * 2 ^ n < Y ↔ A < B) ∧ (X * 2 ^ n = Y ↔ A = B) := by
      rw [ht1, ht2]
      exact ⟨Nat.mul_lt_mul_right hpt, ⟨fun h => Nat.eq_of_mul_eq_mul_right hpt h, fun h => by rw [h]⟩⟩
    have hdiff : (X < jamN Y n ↔ A < B) ∧ (X = jamN Y n ↔ A = B) ∧ (jamN Y n < X → rnd (frN s) (biN s) rm mX (X - jamN Y n) eX false = rnd (frN s) (biN s) rm mX (A - B) (minE Ex Ey) false) ∧
        (X < jamN Y n → rnd (frN s) (biN s) rm mY (jamN Y n - X) eX false = rnd (frN s) (biN s) rm mY (B - A) (minE Ex Ey) false) := by
      by_cases hz : Y % 2 ^ n = 0
      · have hq2 : jamN Y n * 2 ^ n = Y := by
          unfold jamN; rw [if_pos hz]
          have := Nat.div_add_mod' Y (2 ^ n); omega
        have c1 : X < jamN Y n ↔ X * 2 ^ n < Y := by
          conv => rhs; rw [← hq2]
          exact (Nat.mul_lt_mul_right hpn).symm
        have c2 : X = jamN Y n ↔ X * 2 ^ n = Y := by
          conv => rhs; rw [← hq2]
          exact ⟨fun h => by rw [← h], fun h => Nat.eq_of_mul_eq_mul_right hpn h⟩
        refine ⟨c1.trans cmp.1, c2.trans cmp.2, fun h => ?_, fun h => ?_⟩
        · have hBA : B < A := by
            have := cmp.1; have := cmp.2
            have n1 : ¬ X < jamN Y n := by omega
            have n2 : ¬ X = jamN Y n := by omega
            rw [c1] at n1; rw [c2] at n2
            omega
          rw [← rnd_scale (k := n) (by omega : 0 < X - jamN Y n), Nat.sub_mul, hq2]
          exact scale_back (by omega) (.inl ⟨t, by rw [ht1, ht2, Nat.sub_mul], ht3⟩)
        · have hAB : A < B := cmp.1.1 (c1.1 h)
          rw [← rnd_scale (k := n) (by omega : 0 < jamN Y n - X), Nat.sub_mul, hq2]
          exact scale_back (by omega) (.inl ⟨t, by rw [ht1, ht2, Nat.sub_mul], ht3⟩)
      · have hn22 : 22 ≤ n := by
          refine Nat.le_of_not_lt fun hc => hz ?_
          have h5 : 2097152 = 2 ^ n * 2 ^ (21 - n) := by rw [← Nat.pow_add, show n + (21 - n) = 21 by omega]
          have h6 : 2 ^ n ∣ Y := Nat.dvd_trans ⟨2 ^ (21 - n), h5⟩ (Nat.dvd_of_mod_eq_zero hYm)
          exact Nat.mod_eq_zero_of_dvd h6
        have hz2 : Y / 2 ^ n ≤ 40564819207303340847894502572032 := by
          have h5 : 2 ^ 22 ≤ 2 ^ n := Nat.pow_le_pow_right (by decide) hn22
          have h6 : Y / 2 ^ n ≤ Y / 2 ^ 22 := Nat.div_le_div_left h5 (by decide)
          omega
        have hql : jamN Y n ≤ 40564819207303340847894502572033 := by
          unfold jamN; rw [if_neg hz, or_one]; omega
        obtain ⟨j1, j2⟩ := jam_sub (f := frN s) (b := biN s) (rm := rm) (mi := mX) (X := X) (Y := Y) (n := n) (e := eX) (by omega) (by omega) (fun _ => by omega)
        have hBA : B < A := by have := cmp.1; have := cmp.2; omega
        refine ⟨⟨fun h => by omega, fun h => by omega⟩, ⟨fun h => by omega, fun h => by omega⟩, fun h => ?_, fun h => by omega⟩
        rw [j1]
        exact scale_back (by omega) (.inl ⟨t, by rw [ht1, ht2, Nat.sub_mul], ht3⟩)
    exact sumC_end hs hq hj hlt s2 x1 x2 (by omega) hA0 hplus hdiff hA hB
  · have hYz : Y = 0 := hY0.2 hM
    subst hM hYz
    have hjz : jamN 0 n = 0 := by unfold jamN; rw [Nat.zero_mod, if_pos rfl, Nat.zero_div]
    generalize hA : Mx * 2 ^ (Ex - minE Ex Ey).toNat = A at *
    have hB : 0 * 2 ^ (Ey - minE Ex Ey).toNat = 0 := Nat.zero_mul _
    have hn0 : n = 0 := by rw [hn, if_neg (by omega)]
    subst hn0
    rw [Nat.pow_zero, Nat.mul_one] at ht1
    have hA0 : 0 < A := by rw [← hA]; exact Nat.mul_pos hx0 (Nat.two_pow_pos _)
    have hr : ∀ mi : Bool, rnd (frN s) (biN s) rm mi X eX false = rnd (frN s) (biN s) rm mi A (minE Ex Ey) false := fun mi => scale_back hA0 (.inr ⟨t, ht1, by omega⟩)
    refine sumC_end hs hq hj hlt s2 x1 x2 (by omega) hA0 ?_ ?_ hA hB
    · rw [hjz]; exact hr mX
    · rw [hjz]
      refine ⟨⟨fun h => by omega, fun h => by omega⟩, ⟨fun h => by omega, fun h => by omega⟩, fun _ => hr mX, fun h => by omega⟩
end
end Go.Proofs.Ytacciadcmiiimaa

namespace Go.Proofs.Ytacciadcmiiimaa
open Go Go.Sx Go.Rnd
set_option maxRecDepth 100000
set_option maxHeartbeats 2000000

noncomputable def sumB0 (x0 x1 x2 x3 : Int) (x20 x23 : Int) (x21 : Bool) (x24 : Bool) (x35 : Bool) (x36 x37 x38 : Int) (x39 : Bool) (x40 x41 x42 : Int) : Int :=
  let x43 := IntKind.wrap .i64 (x36 - x40)
  let x45 := r123_0 x41 x42 x43
  let x46 := r123_1 x41 x42 x43
  let x47 := x35 == x39
  let x54 := 0 == 1
  let x55 := IntKind.wrap .u64 (x38 + x46)
  let x56 := IntKind.wrap .u64 (x55 + 0)
  let x57 := decide (x56 < x38)
  let x58 := x56 == x38
  let x59 := x54 && x58
  let x60 := x57 || x59
  let x61 : Int := bif x60 then 1 else 0
  let x69 := IntKind.wrap .u64 (x37 + x45)
  let x70 := IntKind.wrap .u64 (x69 + x61)
  let x77 := r98_0 x0 x1 x2 x3 x35 x36 x70 x56
  let x79 := !x47
  let x86 := 0 == 1
  let x87 := IntKind.wrap .u64 (x38 - x46)
  let x88 := IntKind.wrap .u64 (x87 - 0)
  let x89 := decide (x38 < x46)
  let x90 := x38 == x46
  let x91 := x86 && x90
  let x92 := x89 || x91
  let x93 : Int := bif x92 then 1 else 0
  let x100 := x93 == 1
  let x101 := IntKind.wrap .u64 (x37 - x45)
  let x102 := IntKind.wrap .u64 (x101 - x93)
  let x103 := decide (x37 < x45)
  let x104 := x37 == x45
  let x105 := x100 && x104
  let x106 := x103 || x105
  let x107 : Int := bif x106 then 1 else 0
  let x108 := x107 == 1
  let x115 := 0 == 1
  let x116 := IntKind.wrap .u64 (x46 - x38)
  let x117 := IntKind.wrap .u64 (x116 - 0)
  let x118 := decide (x46 < x38)
  let x119 := x46 == x38
  let x120 := x115 && x119
  let x121 := x118 || x120
  let x122 : Int := bif x121 then 1 else 0
  let x130 := IntKind.wrap .u64 (x45 - x37)
  let x131 := IntKind.wrap .u64 (x130 - x122)
  let x137 := bif x108 then x117 else x88
  let x139 := bif x108 then x131 else x102
  let x140 := bif x108 then x39 else x35
  let x141 := ilor .u64 x139 x137
  let x142 := x141 == 0
  let x143 := x3 == 2
  let x144 := r95_0 x2 x143 0
  let x145 := !x142
  let x147 := r98_0 x0 x1 x2 x3 x140 x36 x139 x137
  let x149 := bif x145 then x147 else x144
  let x151 := bif x79 then x149 else x77
  let x153 := bif x21 then x23 else x20
  let x154 := bif x24 then x151 else x153
  x154
noncomputable def sumB1 (x0 x1 x3 : Int) (x24 : Bool) (x35 : Bool) (x36 x37 x38 : Int) (x39 : Bool) (x40 x41 x42 : Int) : Int :=
  let x43 := IntKind.wrap .i64 (x36 - x40)
  let x45 := r123_0 x41 x42 x43
  let x46 := r123_1 x41 x42 x43
  let x47 := x35 == x39
  let x54 := 0 == 1
  let x55 := IntKind.wrap .u64 (x38 + x46)
  let x56 := IntKind.wrap .u64 (x55 + 0)
  let x57 := decide (x56 < x38)
  let x58 := x56 == x38
  let x59 := x54 && x58
  let x60 := x57 || x59
  let x61 : Int := bif x60 then 1 else 0
  let x69 := IntKind.wrap .u64 (x37 + x45)
  let x70 := IntKind.wrap .u64 (x69 + x61)
  let x78 := r98_1 x0 x1 x3 x35 x36 x70 x56
  let x79 := !x47
  let x86 := 0 == 1
  let x87 := IntKind.wrap .u64 (x38 - x46)
  let x88 := IntKind.wrap .u64 (x87 - 0)
  let x89 := decide (x38 < x46)
  let x90 := x38 == x46
  let x91 := x86 && x90
  let x92 := x89 || x91
  let x93 : Int := bif x92 then 1 else 0
  let x100 := x93 == 1
  let x101 := IntKind.wrap .u64 (x37 - x45)
  let x102 := IntKind.wrap .u64 (x101 - x93)
  let x103 := decide (x37 < x45)
  let x104 := x37 == x45
  let x105 := x100 && x104
  let x106 := x103 || x105
  let x107 : Int := bif x106 then 1 else 0
  let x108 := x107 == 1
  let x115 := 0 == 1
  let x116 := IntKind.wrap .u64 (x46 - x38)
  let x117 := IntKind.wrap .u64 (x116 - 0)
  let x118 := decide (x46 < x38)
  let x119 := x46 == x38
  let x120 := x115 && x119
  let x121 := x118 || x120
  let x122 : Int := bif x121 then 1 else 0
  let x130 := IntKind.wrap .u64 (x45 - x37)
  let x131 := IntKind.wrap .u64 (x130 - x122)
  let x137 := bif x108 then x117 else x88
  let x139 := bif x108 then x131 else x102
  let x140 := bif x108 then x39 else x35
  let x141 := ilor .u64 x139 x137
  let x142 := x141 == 0
  let x145 := !x142
  let x148 := r98_1 x0 x1 x3 x140 x36 x139 x137
  let x150 := bif x145 then x148 else 0
  let x152 := bif x79 then x150 else x78
  let x155 := bif x24 then x152 else 0
  x155
abbrev swapped (ex hx lx ey hy ly : Int) : Bool := ((hx == 0) && (lx == 0)) || (!((hy == 0) && (ly == 0)) && decide (ey > ex))
theorem r107_0_eq (f b top rm : Int) (mx : Bool) (ex hx lx : Int) (my : Bool) (ey hy ly : Int) : r107_0 f b top rm mx ex hx lx my ey hy ly =
    sumB0 f b top rm (r95_0 top mx 0) (r95_0 top (rm == 2) 0) (!(mx == my)) (!(((hx == 0) && (lx == 0)) && ((hy == 0) && (ly == 0)))) (bif swapped ex hx lx ey hy ly then my else mx) (bif swapped ex hx lx ey hy ly then ey else ex)
        (bif swapped ex hx lx ey hy ly then hy else hx) (bif swapped ex hx lx ey hy ly then ly else lx)
        (bif swapped ex hx lx ey hy ly then mx else my) (bif swapped ex hx lx ey hy ly then ex else ey)
        (bif swapped ex hx lx ey hy ly then hx else hy) (bif swapped ex hx lx ey hy ly then lx else ly) := rfl
theorem r107_1_eq (f b rm : Int) (mx : Bool) (ex hx lx : Int) (my : Bool) (ey hy ly : Int) : r107_1 f b rm mx ex hx lx my ey hy ly =
    sumB1 f b rm (!(((hx == 0) && (lx == 0)) && ((hy == 0) && (ly == 0)))) (bif swapped ex hx lx ey hy ly then my else mx) (bif swapped ex hx lx ey hy ly then ey else ex)
        (bif swapped ex hx lx ey hy ly then hy else hx) (bif swapped ex hx lx ey hy ly then ly else lx)
        (bif swapped ex hx lx ey hy ly then mx else my) (bif swapped ex hx lx ey hy ly then ex else ey)
        (bif swapped ex hx lx ey hy ly then hx else hy) (bif swapped ex hx lx ey hy ly then lx else ly) := rfl
theorem sumB0_eq (x0 x1 x2 x3 : Int) (x20 x23 : Int) (x21 : Bool) (x24 : Bool) (x35 : Bool) (x36 x37 x38 : Int) (x39 : Bool) (x40 x41 x42 : Int) (h : x23 = r95_0 x2 (x3 == 2) 0) :
    sumB0 x0 x1 x2 x3 x20 x23 x21 x24 x35 x36 x37 x38 x39 x40 x41 x42 = bif x24 then sumR0 x0 x1 x2 x3 x35 x36 x37 x38 x39 x40 x41 x42 else bif x21 then x23 else x20 := by
  subst h
  unfold sumB0 sumR0 sumQ
  dsimp only
theorem sumB1_eq (x0 x1 x3 : Int) (x24 : Bool) (x35 : Bool) (x36 x37 x38 : Int) (x39 : Bool) (x40 x41 x42 : Int) :
    sumB1 x0 x1 x3 x24 x35 x36 x37 x38 x39 x40 x41 x42 = bif x24 then sumR1 x0 x1 x3 x35 x36 x37 x38 x39 x40 x41 x42 else 0 := by
  unfold sumB1 sumR1 sumQ
  dsimp only
theorem zero_words {P : Nat} : (((hiN P : Int) == 0) && ((loN P : Int) == 0)) = decide (P = 0) := by
  have := hi_lo P
  rw [Bool.eq_iff_iff]; simp only [Bool.and_eq_true, beq_iff_eq, dec]; omega
theorem Tm.zero {P M : Nat} {e E : Int} (h : Tm P e M E) : P = 0 ↔ M = 0 := by
  obtain ⟨_, _, _, _, h⟩ := h
  rcases h with ⟨h1, h2⟩ | ⟨h1, k, _, _, h2, _⟩ <;> omega
theorem Tm.lt {P M : Nat} {e E : Int} (h : Tm P e M E) : P < 170141183460469231731687303715884105728 := by
  obtain ⟨_, _, _, _, h⟩ := h
  rcases h with ⟨h1, h2⟩ | ⟨h1, k, _, _, h2, _⟩ <;> omega
theorem range_hi {P : Nat} (h : P < two128) : decide ((hiN P : Int) ≥ 0) = true ∧ decide ((hiN P : Int) < 18446744073709551616) = true := by
  have := hi_lt h
  exact ⟨decide_eq_true (by omega), decide_eq_true (by omega)⟩
theorem range_lo {P : Nat} : decide ((loN P : Int) ≥ 0) = true ∧ decide ((loN P : Int) < 18446744073709551616) = true := by
  have := lo_lt P
  exact ⟨decide_eq_true (by omega), decide_eq_true (by omega)⟩
theorem range_c (c : Bool) : decide ((bif c then (1 : Int) else 0) ≥ 0) = true ∧ decide ((bif c then (1 : Int) else 0) < 2) = true := by cases c <;> decide
theorem ow2 {c m x : Bool} (h : c = true → m = true → x = true) : ow [(c, true), (m, true)] x = true := by
  cases c <;> cases m <;> simp_all [ow]
theorem ow3 {c m z x : Bool} (h : c = true → m = true → z = true → x = true) : ow [(c, true), (m, true), (z, true)] x = true := by
  cases c <;> cases m <;> cases z <;> simp_all [ow]
noncomputable def sumB (x0 x1 x3 : Int) (x24 : Bool) (x35 : Bool) (x36 x37 x38 : Int) (x39 : Bool) (x40 x41 x42 : Int) : Bool :=
  let x43 := IntKind.wrap .i64 (x36 - x40)
  let x44 := p123 x42 x43
  let x45 := r123_0 x41 x42 x43
  let x46 := r123_1 x41 x42 x43
  let x47 := x35 == x39
  let x48 := decide (x38 ≥ 0)
  let x49 := decide (x38 < 18446744073709551616)
  let x50 := decide (x46 ≥ 0)
  let x51 := decide (x46 < 18446744073709551616)
  let x52 := decide (0 ≥ 0)
  let x53 := decide (0 < 2)
  let x54 := 0 == 1
  let x55 := IntKind.wrap .u64 (x38 + x46)
  let x56 := IntKind.wrap .u64 (x55 + 0)
  let x57 := decide (x56 < x38)
  let x58 := x56 == x38
  let x59 := x54 && x58
  let x60 := x57 || x59
  let x61 : Int := bif x60 then 1 else 0
  let x62 := decide (x37 ≥ 0)
  let x63 := decide (x37 < 18446744073709551616)
  let x64 := decide (x45 ≥ 0)
  let x65 := decide (x45 < 18446744073709551616)
  let x66 := decide (x61 ≥ 0)
  let x67 := decide (x61 < 2)
  let x69 := IntKind.wrap .u64 (x37 + x45)
  let x70 := IntKind.wrap .u64 (x69 + x61)
  let x76 := p98 x0 x1 x3 x35 x36 x70 x56
  let x79 := !x47
  let x80 := decide (x38 ≥ 0)
  let x81 := decide (x38 < 18446744073709551616)
  let x82 := decide (x46 ≥ 0)
  let x83 := decide (x46 < 18446744073709551616)
  let x84 := decide (0 ≥ 0)
  let x85 := decide (0 < 2)
  let x86 := 0 == 1
  let x87 := IntKind.wrap .u64 (x38 - x46)
  let x88 := IntKind.wrap .u64 (x87 - 0)
  let x89 := decide (x38 < x46)
  let x90 := x38 == x46
  let x91 := x86 && x90
  let x92 := x89 || x91
  let x93 : Int := bif x92 then 1 else 0
  let x94 := decide (x37 ≥ 0)
  let x95 := decide (x37 < 18446744073709551616)
  let x96 := decide (x45 ≥ 0)
  let x97 := decide (x45 < 18446744073709551616)
  let x98 := decide (x93 ≥ 0)
  let x99 := decide (x93 < 2)
  let x100 := x93 == 1
  let x101 := IntKind.wrap .u64 (x37 - x45)
  let x102 := IntKind.wrap .u64 (x101 - x93)
  let x103 := decide (x37 < x45)
  let x104 := x37 == x45
  let x105 := x100 && x104
  let x106 := x103 || x105
  let x107 : Int := bif x106 then 1 else 0
  let x108 := x107 == 1
  let x109 := decide (x46 ≥ 0)
  let x110 := decide (x46 < 18446744073709551616)
  let x111 := decide (x38 ≥ 0)
  let x112 := decide (x38 < 18446744073709551616)
  let x113 := decide (0 ≥ 0)
  let x114 := decide (0 < 2)
  let x115 := 0 == 1
  let x116 := IntKind.wrap .u64 (x46 - x38)
  let x117 := IntKind.wrap .u64 (x116 - 0)
  let x118 := decide (x46 < x38)
  let x119 := x46 == x38
  let x120 := x115 && x119
  let x121 := x118 || x120
  let x122 : Int := bif x121 then 1 else 0
  let x123 := decide (x45 ≥ 0)
  let x124 := decide (x45 < 18446744073709551616)
  let x125 := decide (x37 ≥ 0)
  let x126 := decide (x37 < 18446744073709551616)
  let x127 := decide (x122 ≥ 0)
  let x128 := decide (x122 < 2)
  let x130 := IntKind.wrap .u64 (x45 - x37)
  let x131 := IntKind.wrap .u64 (x130 - x122)
  let x137 := bif x108 then x117 else x88
  let x139 := bif x108 then x131 else x102
  let x140 := bif x108 then x39 else x35
  let x141 := ilor .u64 x139 x137
  let x142 := x141 == 0
  let x145 := !x142
  let x146 := p98 x0 x1 x3 x140 x36 x139 x137
  [ow [(x24, true)] x44, ow [(x24, true), (x47, true)] x48, ow [(x24, true), (x47, true)] x49, ow [(x24, true), (x47, true)] x50, ow [(x24, true), (x47, true)] x51, ow [(x24, true), (x47, true)] x52, ow [(x24, true), (x47, true)] x53, ow [(x24, true), (x47, true)] x62, ow [(x24, true), (x47, true)] x63, ow [(x24, true), (x47, true)] x64, ow [(x24, true), (x47, true)] x65, ow [(x24, true), (x47, true)] x66, ow [(x24, true), (x47, true)] x67, ow [(x24, true), (x47, true)] x76, ow [(x24, true), (x79, true)] x80, ow [(x24, true), (x79, true)] x81, ow [(x24, true), (x79, true)] x82, ow [(x24, true), (x79, true)] x83, ow [(x24, true), (x79, true)] x84, ow [(x24, true), (x79, true)] x85, ow [(x24, true), (x79, true)] x94, ow [(x24, true), (x79, true)] x95, ow [(x24, true), (x79, true)] x96, ow [(x24, true), (x79, true)] x97, ow [(x24, true), (x79, true)] x98, ow [(x24, true), (x79, true)] x99, ow [(x24, true), (x79, true), (x108, true)] x109, ow [(x24, true), (x79, true), (x108, true)] x110, ow [(x24, true), (x79, true), (x108, true)] x111, ow [(x24, true), (x79, true), (x108, true)] x112, ow [(x24, true), (x79, true), (x108, true)] x113, ow [(x24, true), (x79, true), (x108, true)] x114, ow [(x24, true), (x79, true), (x108, true)] x123, ow [(x24, true), (x79, true), (x108, true)] x124, ow [(x24, true), (x79, true), (x108, true)] x125, ow [(x24, true), (x79, true), (x108, true)] x126, ow [(x24, true), (x79, true), (x108, true)] x127, ow [(x24, true), (x79, true), (x108, true)] x128, ow [(x24, true), (x79, true), (x145, true)] x146].all id
theorem p107_eq (f b rm : Int) (mx : Bool) (ex hx lx : Int) (my : Bool) (ey hy ly : Int) : p107 f b rm mx ex hx lx my ey hy ly =
    sumB f b rm (!(((hx == 0) && (lx == 0)) && ((hy == 0) && (ly == 0)))) (bif swapped ex hx lx ey hy ly then my else mx) (bif swapped ex hx lx ey hy ly then ey else ex)
        (bif swapped ex hx lx ey hy ly then hy else hx) (bif swapped ex hx lx ey hy ly then ly else lx)
        (bif swapped ex hx lx ey hy ly then mx else my) (bif swapped ex hx lx ey hy ly then ex else ey)
        (bif swapped ex hx lx ey hy ly then hx else hy) (bif swapped ex hx lx ey hy ly then lx else ly) := rfl
theorem sumB_ok {f b rm : Int} {c : Bool} {mX mY : Bool} {eX eY : Int} {X Y : Nat} (hX : X < two128) (hY : Y < two128) (he : eX - eY < 1000000) (he2 : -1000000 < eX - eY)
    (hp : c = true → sumP f b rm mX eX (hiN X) (loN X) mY eY (hiN Y) (loN Y) = true) : sumB f b rm c mX eX (hiN X) (loN X) mY eY (hiN Y) (loN Y) = true := by
  have w : IntKind.wrap .i64 (eX - eY) = eX - eY := wrap_i64_of (by omega) (by omega)
  obtain ⟨j0, j1, j2⟩ := jam_any (Y := Y) (x := eX - eY) hY (by omega)
  have hj := jam_lt (n := (eX - eY).toNat) hY
  unfold sumP sumQ at hp
  dsimp only at hp
  rw [w, j1, j2] at hp
  have a0 : decide ((0 : Nat) ≥ 0) = true := by decide
  have a1 : decide ((0 : Nat) < 2) = true := by decide
  simp only [sumB, w, j0, j1, j2, (range_hi hX).1, (range_hi hX).2, (range_hi hj).1, (range_hi hj).2, (range_lo (P := X)).1, (range_lo (P := X)).2, (range_lo (P := jamN Y (eX - eY).toNat)).1,
    (range_lo (P := jamN Y (eX - eY).toNat)).2, (range_c _).1, (range_c _).2, a0, a1, ow_t, List.all_cons, List.all_nil, id, Bool.true_and, Bool.and_true, Bool.and_eq_true]
  refine ⟨ow2 fun h1 h2 => ?_, ow3 fun h1 h2 h3 => ?_⟩
  · have := hp h1
    rw [h2] at this
    exact this
  · have := hp h1
    have h2' : (mX == mY) = false := by rw [← Bool.not_eq_true', h2]
    rw [h2', h3] at this
    exact this

theorem swapped_eq {X Y : Nat} {ex ey : Int} : swapped ex (hiN X) (loN X) ey (hiN Y) (loN Y) = (decide (X = 0) || (!decide (Y = 0) && decide (ey > ex))) := by
  unfold swapped; rw [zero_words, zero_words]
section
variable {s rm : Int} (hs : s = 4 ∨ s = 8)
include hs
theorem ssum_ok {mx my : Bool} {X Y Mx My : Nat} {ex ey Ex Ey : Int} (hx : Tm X ex Mx Ex) (hy : Tm Y ey My Ey) :
    p107 (frN s) (biN s) rm mx ex (hiN X) (loN X) my ey (hiN Y) (loN Y) = true ∧
    r107_0 (frN s) (biN s) (topN s) rm mx ex (hiN X) (loN X) my ey (hiN Y) (loN Y) = ((sumS s rm mx Mx Ex my My Ey).1 : Int) ∧
    r107_1 (frN s) (biN s) rm mx ex (hiN X) (loN X) my ey (hiN Y) (loN Y) = ((sumS s rm mx Mx Ex my My Ey).2 : Int) := by
  have X1 := hx.lt
  have Y1 := hy.lt
  have X2 : X < two128 := by unfold two128; omega
  have Y2 : Y < two128 := by unfold two128; omega
  have x1 := hx.1
  have x2 := hx.2.1
  have y1 := hy.1
  have y2 := hy.2.1
  have zx := hx.zero
  have zy := hy.zero
  rw [p107_eq, r107_0_eq, r107_1_eq, sumB0_eq _ _ _ _ _ _ _ _ _ _ _ _ _ _ _ _ rfl, sumB1_eq, swapped_eq, zero_words, zero_words]
  by_cases hz : X = 0 ∧ Y = 0
  · have c : (!(decide (X = 0) && decide (Y = 0))) = false := by rw [decide_eq_true hz.1, decide_eq_true hz.2]; rfl
    have m1 := zx.1 hz.1
    have m2 := zy.1 hz.2
    subst m1 m2
    have s2 : ∀ b : Bool, r95_0 (topN s) b 0 = (sgB s b : Int) := fun b => signed_ok hs b (x := 0) (by rcases hs with rfl | rfl <;> decide)
    unfold sumS
    rw [Nat.zero_mul, Nat.zero_mul, s2, s2, c]
    refine ⟨?_, ?_, ?_⟩
    · have d : (decide (X = 0) || (!decide (Y = 0) && decide (ey > ex))) = true := by rw [decide_eq_true hz.1]; rfl
      rw [d]
      simp only [cond_true]
      exact sumB_ok Y2 X2 (by omega) (by omega) fun h => absurd h (by decide)
    · cases mx <;> cases my <;> rfl
    · cases mx <;> cases my <;> rfl
  · have c : (!(decide (X = 0) && decide (Y = 0))) = true := by
      rw [Bool.not_eq_true', Bool.and_eq_false_iff, decide_eq_false_iff_not, decide_eq_false_iff_not]; omega
    rw [c]
    by_cases hc : X = 0 ∨ (Y ≠ 0 ∧ ey > ex)
    · have d : (decide (X = 0) || (!decide (Y = 0) && decide (ey > ex))) = true := by
        simp only [Bool.or_eq_true, Bool.and_eq_true, dec, Bool.not_eq_true', decide_eq_false_iff_not]
        omega
      rw [d, sumS_comm]
      simp only [cond_true]
      obtain ⟨a1, a2, a3⟩ := sumC_ok hs (rm := rm) (mX := my) (mY := mx) hy hx (by omega) (fun h => by omega)
      exact ⟨sumB_ok Y2 X2 (by omega) (by omega) fun _ => a1, a2, a3⟩
    · have d : (decide (X = 0) || (!decide (Y = 0) && decide (ey > ex))) = false := by
        rw [← Bool.not_eq_true]
        simp only [Bool.or_eq_true, Bool.and_eq_true, dec, Bool.not_eq_true', decide_eq_false_iff_not]
        omega
      rw [d]
      simp only [cond_false, cond_true]
      obtain ⟨a1, a2, a3⟩ := sumC_ok hs (rm := rm) (mX := mx) (mY := my) hx hy (by omega) (fun h => by omega)
      exact ⟨sumB_ok X2 Y2 (by omega) (by omega) fun _ => a1, a2, a3⟩

end
end Go.Proofs.Ytacciadcmiiimaa

namespace Go.Proofs.Ytacciadcmiiimaa
open Go Go.Sx Go.Rnd
set_option maxRecDepth 100000
set_option maxHeartbeats 4000000

def addS (s rm : Int) (a b : Nat) : Nat × Nat :=
  if (infN s a && infN s b && (sgN s a != sgN s b)) || nanN s a || nanN s b then oddP s (infN s a && infN s b && (sgN s a != sgN s b)) (loudN s a || loudN s b)
  else if infN s a then (mkN s a, 0)
  else if infN s b then (mkN s b, 0)
  else sumS s rm (sgN s a) (fM s a) (fE s a) (sgN s b) (fM s b) (fE s b)
def farN (s : Int) (a b : Nat) : Bool := (infN s a || infN s b) && !nanN s a && !nanN s b
def noneN (s : Int) (a b : Nat) : Bool := infN s a && zerN s b || zerN s a && infN s b
def invF (s : Int) (a b c : Nat) : Bool := noneN s a b || (farN s a b && infN s c && (sgN s c != (sgN s a != sgN s b)))
def fmaS (s rm : Int) (a b c : Nat) : Nat × Nat :=
  if invF s a b c || nanN s a || nanN s b || nanN s c then oddP s (invF s a b c) (loudN s a || loudN s b || loudN s c)
  else if farN s a b then (sgB s (sgN s a != sgN s b) + infB s, 0)
  else if infN s c then (mkN s c, 0)
  else sumS s rm (sgN s a != sgN s b) (fM s a * fM s b) (fE s a + fE s b) (sgN s c) (fM s c) (fE s c)

def tmP (s : Int) (a : Nat) : Nat := if zerN s a then 0 else tmN s a * 9223372036854775808
def teP (s : Int) (a : Nat) : Int := if zerN s a then 0 else teN s a - 63

section
variable {s rm : Int} (hs : s = 4 ∨ s = 8) (h0 : 0 ≤ rm) (h1 : rm ≤ 4) {a b c : Nat} (ha : a < 18446744073709551616) (hb : b < 18446744073709551616) (hc : c < 18446744073709551616)
include hs ha
theorem inf_mk (h : infN s a = true) : mkN s a = sgB s (sgN s a) + infB s := by
  have hl := mk_lt hs ha
  unfold infN exf frf at h
  unfold sgB sgN
  simp only [dec] at h ⊢
  rcases hs with rfl | rfl
  · have e1 : oneN 4 = 8388608 := rfl
    have e2 : topN 4 = 2147483648 := rfl
    have e3 : emaxN 4 = 255 := rfl
    have e4 : infB 4 = 2139095040 := rfl
    rw [e1, e3] at h
    rw [e2] at hl ⊢
    rw [e4]
    split <;> omega
  · have e1 : oneN 8 = 4503599627370496 := rfl
    have e2 : topN 8 = 9223372036854775808 := rfl
    have e3 : emaxN 8 = 2047 := rfl
    have e4 : infB 8 = 9218868437227405312 := rfl
    rw [e1, e3] at h
    rw [e2] at hl ⊢
    rw [e4]
    split <;> omega
theorem zer_M (h : zerN s a = true) : fM s a = 0 := by
  have _ := hs; have _ := ha
  unfold zerN at h
  simp only [dec] at h
  unfold fM
  rw [if_neg (by omega), h.2]
theorem tm_fl (hn : nanN s a = false) (hi : infN s a = false) : Tm (tmP s a) (teP s a) (fM s a) (fE s a) := by
  have hE := fE_le hs ha
  unfold tmP teP
  cases hz : zerN s a with
  | true =>
    rw [if_pos rfl, if_pos rfl]
    exact ⟨by decide, by decide, by omega, by omega, .inl ⟨zer_M hs ha hz, rfl⟩⟩
  | false =>
    have hf : finN s a = true := by unfold finN; rw [hn, hi, hz]; rfl
    obtain ⟨t1, t2, t3, t4, t5, t6⟩ := tm_facts hs ha hf
    have hp := fM_pos hs ha hf
    have e1 : (if false = true then 0 else tmN s a * 9223372036854775808) = tmN s a * 9223372036854775808 := rfl
    have e2 : (if false = true then 0 else teN s a - 63) = teN s a - 63 := rfl
    rw [e1, e2]
    refine ⟨by omega, by omega, by omega, by omega, .inr ⟨hp, lzN s a + 63, ?_, by omega, by omega, by omega, by omega⟩⟩
    rw [Nat.pow_add, ← Nat.mul_assoc, ← t3]
theorem term_fl : g108 (segD [.b true, .b (sgN s a), .b (loudN s a), .i (kdN s a), .i (teN s a), .i (tmN s a)] 1 5) = [.b (sgN s a), .i (teP s a), .i (hiN (tmP s a)), .i (loN (tmP s a))] := by
  obtain ⟨t1, t2, t3, t4⟩ := term_ok hs ha
  show [DV.b (r108_0 (sgN s a)), .i (r108_1 (kdN s a) (teN s a)), .i (r108_2 (kdN s a) (tmN s a)), .i (r108_3 (kdN s a) (tmN s a))] = _
  rw [t1, t2, t3, t4]
  unfold tmP teP
  cases zerN s a
  · rfl
  · simp [hiN, loN]
include hb
include h0 h1
theorem sadd_ok : p54 s rm a b = true ∧ r54_0 s rm a b = ((addS s rm a b).1 : Int) ∧ r54_1 s rm a b = ((addS s rm a b).2 : Int) := by
  obtain ⟨g1, g2, g3⟩ := of92 hs
  have hk := (right_ok hs h0 h1).1
  have ta := take_ok hs ha
  have tb := take_ok hs hb
  have ua := term_fl hs ha
  have ub := term_fl hs hb
  obtain ⟨n0, n1, n2, n3⟩ := nans_2 hs ha hb (infN s a && infN s b && (sgN s a != sgN s b))
  obtain ⟨f1, _⟩ := size_facts hs
  have hi96 := inf96 hs
  have p96 : p96 (frN s) = true := by simp only [p96]; rw [decide_eq_true (by omega)]; rfl
  have s1 : ∀ m : Bool, r95_0 (topN s) m (infB s) = ((sgB s m + infB s : Nat) : Int) := fun m => signed_ok hs m (x := infB s) (by rcases hs with rfl | rfl <;> decide)
  have key : nanN s a = false → infN s a = false → nanN s b = false → infN s b = false → _ := fun x1 x2 x3 x4 => ssum_ok hs (rm := rm) (mx := sgN s a) (my := sgN s b) (tm_fl hs ha x1 x2) (tm_fl hs hb x3 x4)
  have ka2 := kd2 hs (a := a)
  have kb2 := kd2 hs (a := b)
  unfold addS oddP
  refine ⟨?_, ?_, ?_⟩
  · simp only [p54, hk, g1, g2, g3, ta, tb, ua, ub, dget, List.getD_cons_succ, List.getD_cons_zero, DV.toB, DV.toI, ka2, kb2, n0, n3, p96]
    generalize p107 (frN s) (biN s) rm (sgN s a) (teP s a) (hiN (tmP s a)) (loN (tmP s a)) (sgN s b) (teP s b) (hiN (tmP s b)) (loN (tmP s b)) = q at *
    revert key
    cases nanN s a <;> cases nanN s b <;> cases infN s a <;> cases infN s b <;> cases (sgN s a != sgN s b) <;> intro key <;> first | rfl | (rw [(key rfl rfl rfl rfl).1]; rfl)
  · simp only [r54_0, hk, g1, g2, g3, ta, tb, ua, ub, dget, List.getD_cons_succ, List.getD_cons_zero, DV.toB, DV.toI, ka2, kb2, n1, n3, hi96, s1]
    generalize r107_0 (frN s) (biN s) (topN s) rm (sgN s a) (teP s a) (hiN (tmP s a)) (loN (tmP s a)) (sgN s b) (teP s b) (hiN (tmP s b)) (loN (tmP s b)) = q at *
    generalize sumS s rm (sgN s a) (fM s a) (fE s a) (sgN s b) (fM s b) (fE s b) = r at *
    have ia := inf_mk hs ha
    have ib := inf_mk hs hb
    have la := inf_nan (s := s) (a := a)
    have lb := inf_nan (s := s) (a := b)
    revert key ia ib la lb
    cases nanN s a <;> cases nanN s b <;> cases infN s a <;> cases infN s b <;> intro key ia ib la lb <;>
      first | exact (key rfl rfl rfl rfl).2.1 | exact absurd (la rfl) (by decide) | exact absurd (lb rfl) (by decide) |
        (first | rw [ia rfl] | skip) <;> (first | rw [ib rfl] | skip) <;> cases sgN s a <;> cases sgN s b <;> rfl
  · simp only [r54_1, hk, g1, g2, g3, ta, tb, ua, ub, dget, List.getD_cons_succ, List.getD_cons_zero, DV.toB, DV.toI, ka2, kb2, n2, n3]
    generalize r107_1 (frN s) (biN s) rm (sgN s a) (teP s a) (hiN (tmP s a)) (loN (tmP s a)) (sgN s b) (teP s b) (hiN (tmP s b)) (loN (tmP s b)) = q at *
    generalize sumS s rm (sgN s a) (fM s a) (fE s a) (sgN s b) (fM s b) (fE s b) = r at *
    have l1 := loud_nan (s := s) (a := a)
    have l2 := loud_nan (s := s) (a := b)
    revert key l1 l2
    cases nanN s a <;> cases nanN s b <;> cases infN s a <;> cases infN s b <;> cases (sgN s a != sgN s b) <;> intro key l1 l2 <;>
      first | exact (key rfl rfl rfl rfl).2.2 | rfl | (cases loudN s a <;> cases loudN s b <;> first | rfl | cases l1 rfl | cases l2 rfl)
omit ha h0 h1 in
theorem flip_lt : b ^^^ topN s < 18446744073709551616 := by
  have := (size_facts hs).2.2.2.2.2.2.2.2.2
  exact Nat.xor_lt_two_pow (n := 64) hb (by omega)
omit ha h0 h1 in
theorem flip_ok : ilxor .u64 (b : Int) (topN s : Int) = ((b ^^^ topN s : Nat) : Int) := by
  have := (size_facts hs).2.2.2.2.2.2.2.2.2
  exact lxor_nn hb (by omega)
def subS (s rm : Int) (a b : Nat) : Nat × Nat := addS s rm a (b ^^^ topN s)
theorem ssub_ok : p59 s rm a b = true ∧ r59_0 s rm a b = ((subS s rm a b).1 : Int) ∧ r59_1 s rm a b = ((subS s rm a b).2 : Int) := by
  obtain ⟨g1, g2, g3⟩ := of92 hs
  have hk := (right_ok hs h0 h1).1
  obtain ⟨q0, q1, q2⟩ := sadd_ok hs h0 h1 ha (flip_lt hs hb)
  have e := flip_ok hs hb
  unfold subS
  refine ⟨?_, ?_, ?_⟩
  · simp only [p59, hk, g3, e, q0, ow_t]; rfl
  · simp only [r59_0, hk, g3, e, q1]; rfl
  · simp only [r59_1, hk, g3, e, q2]; rfl
end
end Go.Proofs.Ytacciadcmiiimaa

namespace Go.Proofs.Ytacciadcmiiimaa
open Go Go.Sx Go.Rnd
set_option maxRecDepth 100000
set_option maxHeartbeats 8000000

def prP (P : Nat) : Nat := if P < 170141183460469231731687303715884105728 then P else P / 2
def prE (P : Nat) (e : Int) : Int := if P < 170141183460469231731687303715884105728 then e else e + 1
theorem half_words (Q : Nat) (hQ : Q < two128) : ishr .u64 (hiN Q : Int) 1 = (hiN (Q / 2) : Int) ∧ ilor .u64 (ishr .u64 (loN Q : Int) 1) (ishl .u64 (hiN Q : Int) 63) = (loN (Q / 2) : Int) := by
  have a := hi_lt hQ
  have b := lo_lt Q
  have c := hi_lo Q
  have e1 : ishr .u64 (hiN Q : Int) 1 = ((hiN Q / 2 ^ 1 : Nat) : Int) := shr_nat a 1
  have e2 : ishr .u64 (loN Q : Int) 1 = ((loN Q / 2 ^ 1 : Nat) : Int) := shr_nat b 1
  have e3 : ishl .u64 (hiN Q : Int) 63 = ((hiN Q * 2 ^ 63 % 18446744073709551616 : Nat) : Int) := shl_nat (hiN Q) 63
  have e4 : hiN Q * 2 ^ 63 % 18446744073709551616 = hiN Q % 2 * 2 ^ 63 := by omega
  rw [e1, e2, e3, e4]
  refine ⟨?_, ?_⟩
  · have : hiN (Q / 2) = hiN Q / 2 ^ 1 := by unfold hiN; omega
    rw [this]
  · rw [lor_nn (by omega) (by omega), or_high (by omega)]
    have : loN (Q / 2) = loN Q / 2 ^ 1 + hiN Q % 2 * 2 ^ 63 := by unfold loN hiN; omega
    rw [this]
theorem pr_words {P : Nat} {e : Int} (hP : P < two128) (he : -20000 ≤ e) (he2 : e ≤ 20000) :
    let c : Bool := ishr .u64 (hiN P : Int) 63 == 0
    let h : Int := bif c then r106_0 (hiN P) (loN P) 1 else (hiN P : Int)
    let l : Int := bif c then r106_1 (loN P) 1 else (loN P : Int)
    IntKind.wrap .i64 ((bif c then IntKind.wrap .i64 (e - 1) else e) + 1) = prE P e ∧ ishr .u64 h 1 = (hiN (prP P) : Int) ∧ ilor .u64 (ishr .u64 l 1) (ishl .u64 h 63) = (loN (prP P) : Int) := by
  intro c h l
  have a := hi_lt hP
  have b := lo_lt P
  have d := hi_lo P
  have e1 : ishr .u64 (hiN P : Int) 63 = ((hiN P / 2 ^ 63 : Nat) : Int) := shr_nat a 63
  have e2 : c = decide (P < 170141183460469231731687303715884105728) := by
    show (ishr .u64 (hiN P : Int) 63 == 0) = _
    rw [e1, Bool.eq_iff_iff]
    simp only [beq_iff_eq, dec]
    omega
  have w1 : IntKind.wrap .i64 (e - 1) = e - 1 := wrap_i64_of (by omega) (by omega)
  by_cases hlt : P < 170141183460469231731687303715884105728
  · rw [decide_eq_true hlt] at e2
    obtain ⟨u1, u2, u3⟩ := up_ok2 (P := P) (n := 1) (by decide) (by unfold two128; omega)
    have u2' : r106_0 (hiN P) (loN P) 1 = (hiN (P * 2 ^ 1) : Int) := u2
    have u3' : r106_1 (loN P) 1 = (loN (P * 2 ^ 1) : Int) := u3
    have hh : h = (hiN (P * 2 ^ 1) : Int) := by show (bif c then _ else _) = _; rw [e2, u2']; rfl
    have hl : l = (loN (P * 2 ^ 1) : Int) := by show (bif c then _ else _) = _; rw [e2, u3']; rfl
    obtain ⟨v1, v2⟩ := half_words (P * 2 ^ 1) (by unfold two128; omega)
    have : P * 2 ^ 1 / 2 = P := by omega
    rw [this] at v1 v2
    rw [hh, hl, e2, w1]
    unfold prP prE
    rw [if_pos hlt, if_pos hlt]
    refine ⟨?_, v1, v2⟩
    show IntKind.wrap .i64 (e - 1 + 1) = e
    rw [wrap_i64_of (by omega) (by omega)]; omega
  · rw [decide_eq_false hlt] at e2
    have hh : h = (hiN P : Int) := by show (bif c then _ else _) = _; rw [e2]; rfl
    have hl : l = (loN P : Int) := by show (bif c then _ else _) = _; rw [e2]; rfl
    obtain ⟨v1, v2⟩ := half_words P hP
    rw [hh, hl, e2]
    unfold prP prE
    rw [if_neg hlt, if_neg hlt]
    refine ⟨?_, v1, v2⟩
    show IntKind.wrap .i64 (e + 1) = e + 1
    exact wrap_i64_of (by omega) (by omega)

section
variable {s rm : Int} (hs : s = 4 ∨ s = 8) (h0 : 0 ≤ rm) (h1 : rm ≤ 4) {a b c : Nat} (ha : a < 18446744073709551616) (hb : b < 18446744073709551616) (hc : c < 18446744073709551616)
include hs ha hb
theorem tm_pr (x1 : nanN s a = false) (x2 : infN s a = false) (x3 : nanN s b = false) (x4 : infN s b = false) :
    Tm (if finN s a && finN s b then prP (tmN s a * tmN s b) else 0) (if finN s a && finN s b then prE (tmN s a * tmN s b) (teN s a + teN s b) else 0) (fM s a * fM s b) (fE s a + fE s b) := by
  have hE := fE_le hs ha
  have hF := fE_le hs hb
  have fin : finN s a = (!nanN s a && !infN s a && !zerN s a) := rfl
  have finb : finN s b = (!nanN s b && !infN s b && !zerN s b) := rfl
  rw [x1, x2] at fin
  rw [x3, x4] at finb
  cases hz : zerN s a with
  | true =>
    rw [hz] at fin
    have fin : finN s a = false := fin
    rw [fin, zer_M hs ha hz, Nat.zero_mul, Bool.false_and, if_neg (by decide), if_neg (by decide)]
    exact ⟨by decide, by decide, by omega, by omega, .inl ⟨rfl, rfl⟩⟩
  | false =>
    cases hy : zerN s b with
    | true =>
      rw [hy] at finb
      have finb : finN s b = false := finb
      rw [finb, zer_M hs hb hy, Nat.mul_zero, Bool.and_false, if_neg (by decide), if_neg (by decide)]
      exact ⟨by decide, by decide, by omega, by omega, .inl ⟨rfl, rfl⟩⟩
    | false =>
      rw [hz] at fin
      rw [hy] at finb
      obtain ⟨t1, t2, t3, t4, t5, t6⟩ := tm_facts hs ha fin
      obtain ⟨v1, v2, v3, v4, v5, v6⟩ := tm_facts hs hb finb
      have hp := fM_pos hs ha fin
      have hq := fM_pos hs hb finb
      have fin : finN s a = true := fin
      have finb : finN s b = true := finb
      rw [fin, finb, if_pos (show (true && true) = true from rfl), if_pos (show (true && true) = true from rfl)]
      have hM : 0 < fM s a * fM s b := Nat.mul_pos hp hq
      have e1 : tmN s a * tmN s b = fM s a * fM s b * 2 ^ (lzN s a + lzN s b) := by rw [t3, v3, Nat.pow_add, Nat.mul_mul_mul_comm]
      have hlo : 85070591730234615865843651857942052864 ≤ tmN s a * tmN s b := Nat.mul_le_mul t1 v1
      have hhi : tmN s a * tmN s b < 340282366920938463463374607431768211456 := Nat.mul_lt_mul_of_lt_of_le t2 (Nat.le_of_lt v2) (by decide)
      obtain ⟨k, hk⟩ : ∃ k : Nat, lzN s a + lzN s b = k + 22 := ⟨lzN s a + lzN s b - 22, by omega⟩
      rw [hk] at e1
      have e2 : fM s a * fM s b * 2 ^ (k + 22) = fM s a * fM s b * 2 ^ k * 4194304 := by rw [Nat.pow_add, ← Nat.mul_assoc]
      have e3 : fM s a * fM s b * 2 ^ (k + 21) = fM s a * fM s b * 2 ^ k * 2097152 := by rw [Nat.pow_add, ← Nat.mul_assoc]
      unfold prP prE
      rw [e1] at hlo hhi ⊢
      by_cases hlt : fM s a * fM s b * 2 ^ (k + 22) < 170141183460469231731687303715884105728
      · rw [if_pos hlt, if_pos hlt]
        refine ⟨by omega, by omega, by omega, by omega, .inr ⟨hM, k + 22, rfl, by omega, hlo, hlt, by omega⟩⟩
      · rw [if_neg hlt, if_neg hlt]
        refine ⟨by omega, by omega, by omega, by omega, .inr ⟨hM, k + 21, by omega, by omega, by omega, by omega, by omega⟩⟩
include hc
theorem nans_3 (inv : Bool) : p94 (frN s) inv [.b (sgN s a), .b (loudN s a), .i (kdN s a), .i (teN s a), .i (tmN s a), .b (sgN s b), .b (loudN s b), .i (kdN s b), .i (teN s b), .i (tmN s b), .b (sgN s c), .b (loudN s c), .i (kdN s c), .i (teN s c), .i (tmN s c)] = true ∧
    r94_0 (frN s) (biN s) inv [.b (sgN s a), .b (loudN s a), .i (kdN s a), .i (teN s a), .i (tmN s a), .b (sgN s b), .b (loudN s b), .i (kdN s b), .i (teN s b), .i (tmN s b), .b (sgN s c), .b (loudN s c), .i (kdN s c), .i (teN s c), .i (tmN s c)] = (quiB s : Int) ∧
    r94_1 inv [.b (sgN s a), .b (loudN s a), .i (kdN s a), .i (teN s a), .i (tmN s a), .b (sgN s b), .b (loudN s b), .i (kdN s b), .i (teN s b), .i (tmN s b), .b (sgN s c), .b (loudN s c), .i (kdN s c), .i (teN s c), .i (tmN s c)] = (if inv || (loudN s a || loudN s b || loudN s c) then 16 else 0) ∧
    r94_2 inv [.b (sgN s a), .b (loudN s a), .i (kdN s a), .i (teN s a), .i (tmN s a), .b (sgN s b), .b (loudN s b), .i (kdN s b), .i (teN s b), .i (tmN s b), .b (sgN s c), .b (loudN s c), .i (kdN s c), .i (teN s c), .i (tmN s c)] = (inv || nanN s a || nanN s b || nanN s c) := by
  have _ := ha; have _ := hb; have _ := hc
  have h := nans_at hs (n := 3) rfl (nans3 (inv := inv) (s1 := sgN s a) (l1 := loudN s a) (k1 := kdN s a) (e1 := teN s a) (m1 := tmN s a) (s2 := sgN s b) (l2 := loudN s b) (k2 := kdN s b) (e2 := teN s b) (m2 := tmN s b)
    (s3 := sgN s c) (l3 := loudN s c) (k3 := kdN s c) (e3 := teN s c) (m3 := tmN s c))
  rw [bad_kd, bad_kd, bad_kd, kd3, kd3, kd3] at h
  have h2 := loud_nan (s := s) (a := a)
  have h3 := loud_nan (s := s) (a := b)
  have h4 := loud_nan (s := s) (a := c)
  refine ⟨h.1, h.2.1, h.2.2.1.trans ?_, h.2.2.2.trans ?_⟩
  · rw [Bool.or_assoc, Bool.or_assoc, Bool.or_assoc]
  · revert h2 h3 h4
    cases inv <;> cases nanN s a <;> cases nanN s b <;> cases nanN s c <;> cases loudN s a <;> cases loudN s b <;> cases loudN s c <;> simp
omit ha hb hc in
theorem kn3 {a : Nat} : (kdN s a != 3) = !nanN s a := by have _ := hs; rw [← kd3]; rfl
include h0 h1
theorem sfma_ok : p50 s rm a b c = true ∧ r50_0 s rm a b c = ((fmaS s rm a b c).1 : Int) ∧ r50_1 s rm a b c = ((fmaS s rm a b c).2 : Int) := by
  obtain ⟨g1, g2, g3⟩ := of92 hs
  have hk := (right_ok hs h0 h1).1
  have ta := take_ok hs ha
  have tb := take_ok hs hb
  have tc := take_ok hs hc
  have uc := term_fl hs hc
  have ei : (infN s a && zerN s b || zerN s a && infN s b || (!(infN s a && zerN s b || zerN s a && infN s b) && (infN s a || infN s b) && !nanN s a && !nanN s b && infN s c && (sgN s c != (sgN s a != sgN s b)))) = invF s a b c := by
    unfold invF farN noneN
    cases infN s a <;> cases infN s b <;> cases zerN s a <;> cases zerN s b <;> cases nanN s a <;> cases nanN s b <;> rfl
  obtain ⟨n0, n1, n2, n3⟩ := nans_3 hs ha hb hc (invF s a b c)
  obtain ⟨f1, _⟩ := size_facts hs
  have hi96 := inf96 hs
  have p96 : p96 (frN s) = true := by simp only [p96]; rw [decide_eq_true (by omega)]; rfl
  have s1 : ∀ m : Bool, r95_0 (topN s) m (infB s) = ((sgB s m + infB s : Nat) : Int) := fun m => signed_ok hs m (x := infB s) (by rcases hs with rfl | rfl <;> decide)
  have p106 : p106 1 = true := (up_ok2 (P := 0) (n := 1) (by decide) (by decide)).1
  obtain ⟨v1, v2⟩ := mul64_ok (tm_lt hs ha) (tm_lt hs hb)
  have hlt : tmN s a * tmN s b < two128 := Nat.mul_lt_mul_of_lt_of_le (tm_lt hs ha) (Nat.le_of_lt (tm_lt hs hb)) (by decide)
  have ea := te_le hs ha
  have eb := te_le hs hb
  have w : IntKind.wrap .i64 (teN s a + teN s b) = teN s a + teN s b := wrap_i64_of (by omega) (by omega)
  obtain ⟨pw1, pw2, pw3⟩ := pr_words (P := tmN s a * tmN s b) (e := teN s a + teN s b) hlt (by omega) (by omega)
  have key : nanN s a = false → infN s a = false → nanN s b = false → infN s b = false → nanN s c = false → infN s c = false → _ := fun x1 x2 x3 x4 x5 x6 => ssum_ok hs (rm := rm) (mx := sgN s a != sgN s b) (my := sgN s c) (tm_pr hs ha hb x1 x2 x3 x4) (tm_fl hs hc x5 x6)
  have b1 : (bif finN s a && finN s b then prE (tmN s a * tmN s b) (teN s a + teN s b) else 0) = (if finN s a && finN s b then prE (tmN s a * tmN s b) (teN s a + teN s b) else 0) := by cases (finN s a && finN s b) <;> rfl
  have b2 : (bif finN s a && finN s b then (hiN (prP (tmN s a * tmN s b)) : Int) else 0) = (hiN (if finN s a && finN s b then prP (tmN s a * tmN s b) else 0) : Int) := by cases (finN s a && finN s b) <;> simp [hiN]
  have b3 : (bif finN s a && finN s b then (loN (prP (tmN s a * tmN s b)) : Int) else 0) = (loN (if finN s a && finN s b then prP (tmN s a * tmN s b) else 0) : Int) := by cases (finN s a && finN s b) <;> simp [loN]
  have ka2 := kd2 hs (a := a)
  have kb2 := kd2 hs (a := b)
  have kc2 := kd2 hs (a := c)
  have ka0 := kd0 hs (a := a)
  have kb0 := kd0 hs (a := b)
  have ka1 := kd1 (s := s) (a := a)
  have kb1 := kd1 (s := s) (a := b)
  have ka3 := kn3 hs (a := a)
  have kb3 := kn3 hs (a := b)
  generalize hq1 : (if finN s a && finN s b then prP (tmN s a * tmN s b) else 0) = Q at *
  generalize hq2 : (if finN s a && finN s b then prE (tmN s a * tmN s b) (teN s a + teN s b) else 0) = eQ at *
  unfold fmaS oddP
  refine ⟨?_, ?_, ?_⟩
  · simp only [p50, hk, g1, g2, g3, ta, tb, tc, uc, dget, List.getD_cons_succ, List.getD_cons_zero, DV.toB, DV.toI, ka2, kb2, kc2, ka0, kb0, ka1, kb1, ka3, kb3, ei, n0, n3, p96, p106, v1, v2, w, pw1, pw2, pw3, b1, b2, b3, ow_t]
    unfold invF farN noneN
    generalize p107 (frN s) (biN s) rm (sgN s a != sgN s b) eQ (hiN Q) (loN Q) (sgN s c) (teP s c) (hiN (tmP s c)) (loN (tmP s c)) = q at *
    revert key
    cases nanN s a <;> cases nanN s b <;> cases nanN s c <;> cases infN s a <;> cases infN s b <;> cases infN s c <;> cases zerN s a <;> cases zerN s b <;> intro key <;> first | rfl | (rw [(key rfl rfl rfl rfl rfl rfl).1]; rfl) | (cases (sgN s c != (sgN s a != sgN s b)) <;> rfl)
  · simp only [r50_0, hk, g1, g2, g3, ta, tb, tc, uc, dget, List.getD_cons_succ, List.getD_cons_zero, DV.toB, DV.toI, ka2, kb2, kc2, ka0, kb0, ka1, kb1, ka3, kb3, ei, n1, n3, hi96, s1, v1, v2, w, pw1, pw2, pw3, b1, b2, b3]
    have ff : (!(infN s a && zerN s b || zerN s a && infN s b) && (infN s a || infN s b) && !nanN s a && !nanN s b) = (!(infN s a && zerN s b || zerN s a && infN s b) && farN s a b) := by
      unfold farN; cases (infN s a && zerN s b || zerN s a && infN s b) <;> cases (infN s a || infN s b) <;> cases nanN s a <;> cases nanN s b <;> rfl
    rw [ff]
    generalize r107_0 (frN s) (biN s) (topN s) rm (sgN s a != sgN s b) eQ (hiN Q) (loN Q) (sgN s c) (teP s c) (hiN (tmP s c)) (loN (tmP s c)) = q at *
    generalize sumS s rm (sgN s a != sgN s b) (fM s a * fM s b) (fE s a + fE s b) (sgN s c) (fM s c) (fE s c) = r at *
    unfold invF farN noneN
    have ic := inf_mk hs hc
    revert key ic
    cases nanN s a <;> cases nanN s b <;> cases nanN s c <;> cases infN s a <;> cases infN s b <;> cases infN s c <;> cases zerN s a <;> cases zerN s b <;> intro key ic <;>
      first | rfl | exact (key rfl rfl rfl rfl rfl rfl).2.1 | (rw [ic rfl]; first | rfl | (cases (sgN s c != (sgN s a != sgN s b)) <;> rfl)) | (cases (sgN s c != (sgN s a != sgN s b)) <;> rfl)
  · simp only [r50_1, hk, g1, g2, g3, ta, tb, tc, uc, dget, List.getD_cons_succ, List.getD_cons_zero, DV.toB, DV.toI, ka2, kb2, kc2, ka0, kb0, ka1, kb1, ka3, kb3, ei, n2, n3, v1, v2, w, pw1, pw2, pw3, b1, b2, b3]
    have ff : (!(infN s a && zerN s b || zerN s a && infN s b) && (infN s a || infN s b) && !nanN s a && !nanN s b) = (!(infN s a && zerN s b || zerN s a && infN s b) && farN s a b) := by
      unfold farN; cases (infN s a && zerN s b || zerN s a && infN s b) <;> cases (infN s a || infN s b) <;> cases nanN s a <;> cases nanN s b <;> rfl
    rw [ff]
    generalize r107_1 (frN s) (biN s) rm (sgN s a != sgN s b) eQ (hiN Q) (loN Q) (sgN s c) (teP s c) (hiN (tmP s c)) (loN (tmP s c)) = q at *
    generalize sumS s rm (sgN s a != sgN s b) (fM s a * fM s b) (fE s a + fE s b) (sgN s c) (fM s c) (fE s c) = r at *
    have l1 := loud_nan (s := s) (a := a)
    have l2 := loud_nan (s := s) (a := b)
    have l3 := loud_nan (s := s) (a := c)
    generalize hL : (loudN s a || loudN s b || loudN s c) = L at *
    have l4 : nanN s a = false → nanN s b = false → nanN s c = false → L = false := fun x1 x2 x3 => by rw [← hL, l1 x1, l2 x2, l3 x3]; rfl
    clear hL l1 l2 l3
    unfold invF farN noneN
    revert key l4
    cases nanN s a <;> cases nanN s b <;> cases nanN s c <;> cases infN s a <;> cases infN s b <;> cases infN s c <;> cases zerN s a <;> cases zerN s b <;> intro key l4 <;>
      first | rfl | exact (key rfl rfl rfl rfl rfl rfl).2.2 | (cases L <;> rfl) | (cases (sgN s c != (sgN s a != sgN s b)) <;> first | rfl | (cases L <;> first | rfl | cases l4 rfl rfl rfl))
end
end Go.Proofs.Ytacciadcmiiimaa

namespace Go.Proofs.Ytacciadcmiiimaa
open Go Go.Sx Go.Rnd
set_option maxRecDepth 100000
set_option maxHeartbeats 1000000

theorem u64_nat {x : Int} (h : 0 ≤ x ∧ x < 18446744073709551616) : ∃ n : Nat, x = n ∧ n < 18446744073709551616 := ⟨x.toNat, by omega, by omega⟩
theorem uOf {a : Int} (h : (Lit.int .u64 a).wf = true) : 0 ≤ a ∧ a < 18446744073709551616 := by
  simp [Lit.wf, IntKind.min, IntKind.max, IntKind.signed, IntKind.bits] at h
  omega
theorem soft_awake : p43 = true ∧ r43_0 = true := by
  obtain ⟨a0, a1, a2⟩ := sadd_ok (s := 4) (rm := 0) (.inl rfl) (by decide) (by decide) (a := 1065353216) (b := 1065353216) (by decide) (by decide)
  obtain ⟨b0, b1, b2⟩ := sdiv_ok (s := 4) (rm := 0) (.inl rfl) (by decide) (by decide) (a := 1065353216) (b := 1077936128) (by decide) (by decide)
  obtain ⟨c0, c1, c2⟩ := ssqrt_ok (s := 4) (rm := 0) (.inl rfl) (by decide) (by decide) (a := 3212836864) (by decide)
  obtain ⟨d0, d1, d2⟩ := sfma_ok (s := 4) (rm := 0) (.inl rfl) (by decide) (by decide) (a := 1065353217) (b := 1065353217) (c := 3212836866) (by decide) (by decide) (by decide)
  obtain ⟨e0, e1, e2⟩ := smul_ok (s := 4) (rm := 3) (.inl rfl) (by decide) (by decide) (a := 1) (b := 1056964608) (by decide) (by decide)
  have ka : addS 4 0 1065353216 1065353216 = (1073741824, 0) := by decide +kernel
  have kb : divS 4 0 1065353216 1077936128 = (1051372203, 1) := by decide +kernel
  have kc : sqrtS 4 0 3212836864 = (2143289344, 16) := by decide +kernel
  have kd : fmaS 4 0 1065353217 1065353217 3212836866 = (679477248, 0) := by decide +kernel
  have ke : mulS 4 3 1 1056964608 = (1, 3) := by decide +kernel
  rw [ka] at a1 a2
  rw [kb] at b1 b2
  rw [kc] at c1 c2
  rw [kd] at d1 d2
  rw [ke] at e1 e2
  have a0' : p54 4 0 1065353216 1065353216 = true := a0
  have b0' : p46 4 0 1065353216 1077936128 = true := b0
  have c0' : p48 4 0 3212836864 = true := c0
  have d0' : p50 4 0 1065353217 1065353217 3212836866 = true := d0
  have e0' : p44 4 3 1 1056964608 = true := e0
  have a1' : r54_0 4 0 1065353216 1065353216 = 1073741824 := a1
  have b1' : r46_0 4 0 1065353216 1077936128 = 1051372203 := b1
  have c1' : r48_0 4 0 3212836864 = 2143289344 := c1
  have d1' : r50_0 4 0 1065353217 1065353217 3212836866 = 679477248 := d1
  have e1' : r44_0 4 3 1 1056964608 = 1 := e1
  have a2' : r54_1 4 0 1065353216 1065353216 = 0 := a2
  have b2' : r46_1 4 0 1065353216 1077936128 = 1 := b2
  have c2' : r48_1 4 0 3212836864 = 16 := c2
  have d2' : r50_1 4 0 1065353217 1065353217 3212836866 = 0 := d2
  have e2' : r44_1 4 3 1 1056964608 = 3 := e2
  constructor
  · simp only [p43, a0', b0', c0', d0', e0', ow_t]; rfl
  · simp only [r43_0, a1', b1', c1', d1', e1', a2', b2', c2', d2', e2']; rfl
end Go.Proofs.Ytacciadcmiiimaa

