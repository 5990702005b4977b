/- Sums, differences, sums of products. -/
import Derived.Test.YtacciadcmiiimaaM9
import Derived.Test.YtacciadcmiiimaaM7
import Derived.Test.YtacciadcmiiimaaM4
import Derived.ProofKit
import Derived.LaidMore
import Derived.Stop.Joined
namespace Go.Proofs.Ytacciadcmiiimaa
open Go Go.Sx Go.Rnd
set_option maxRecDepth 100000
set_option maxHeartbeats 4000000

def addS (s rm : Int) (a b : Nat) : Nat × Nat :=
  if (infN s a && infN s b && (sgN s a != sgN s b)) || nanN s a || nanN s b then oddP s (infN s a && infN s b && (sgN s a != sgN s b)) (loudN s a || loudN s b)
  else if infN s a then (mkN s a, 0)
  else if infN s b then (mkN s b, 0)
  else sumS s rm (sgN s a) (fM s a) (fE s a) (sgN s b) (fM s b) (fE s b)
def farN (s : Int) (a b : Nat) : Bool := (infN s a || infN s b) && !nanN s a && !nanN s b
def noneN (s : Int) (a b : Nat) : Bool := infN s a && zerN s b || zerN s a && infN s b
def invF (s : Int) (a b c : Nat) : Bool := noneN s a b || (farN s a b && infN s c && (sgN s c != (sgN s a != sgN s b)))
def fmaS (s rm : Int) (a b c : Nat) : Nat × Nat :=
  if invF s a b c || nanN s a || nanN s b || nanN s c then oddP s (invF s a b c) (loudN s a || loudN s b || loudN s c)
  else if farN s a b then (sgB s (sgN s a != sgN s b) + infB s, 0)
  else if infN s c then (mkN s c, 0)
  else sumS s rm (sgN s a != sgN s b) (fM s a * fM s b) (fE s a + fE s b) (sgN s c) (fM s c) (fE s c)

def tmP (s : Int) (a : Nat) : Nat := if zerN s a then 0 else tmN s a * 9223372036854775808
def teP (s : Int) (a : Nat) : Int := if zerN s a then 0 else teN s a - 63

section
variable {s rm : Int} (hs : s = 4 ∨ s = 8) (h0 : 0 ≤ rm) (h1 : rm ≤ 4) {a b c : Nat} (ha : a < 18446744073709551616) (hb : b < 18446744073709551616) (hc : c < 18446744073709551616)
include hs ha
theorem inf_mk (h : infN s a = true) : mkN s a = sgB s (sgN s a) + infB s := by
  have hl := mk_lt hs ha
  unfold infN exf frf at h
  unfold sgB sgN
  simp only [dec] at h ⊢
  rcases hs with rfl | rfl
  · have e1 : oneN 4 = 8388608 := rfl
    have e2 : topN 4 = 2147483648 := rfl
    have e3 : emaxN 4 = 255 := rfl
    have e4 : infB 4 = 2139095040 := rfl
    rw [e1, e3] at h
    rw [e2] at hl ⊢
    rw [e4]
    split <;> omega
  · have e1 : oneN 8 = 4503599627370496 := rfl
    have e2 : topN 8 = 9223372036854775808 := rfl
    have e3 : emaxN 8 = 2047 := rfl
    have e4 : infB 8 = 9218868437227405312 := rfl
    rw [e1, e3] at h
    rw [e2] at hl ⊢
    rw [e4]
    split <;> omega
theorem zer_M (h : zerN s a = true) : fM s a = 0 := by
  have _ := hs; have _ := ha
  unfold zerN at h
  simp only [dec] at h
  unfold fM
  rw [if_neg (by omega), h.2]
theorem tm_fl (hn : nanN s a = false) (hi : infN s a = false) : Tm (tmP s a) (teP s a) (fM s a) (fE s a) := by
  have hE := fE_le hs ha
  unfold tmP teP
  cases hz : zerN s a with
  | true =>
    rw [if_pos rfl, if_pos rfl]
    exact ⟨by decide, by decide, by omega, by omega, .inl ⟨zer_M hs ha hz, rfl⟩⟩
  | false =>
    have hf : finN s a = true := by unfold finN; rw [hn, hi, hz]; rfl
    obtain ⟨t1, t2, t3, t4, t5, t6⟩ := tm_facts hs ha hf
    have hp := fM_pos hs ha hf
    have e1 : (if false = true then 0 else tmN s a * 9223372036854775808) = tmN s a * 9223372036854775808 := rfl
    have e2 : (if false = true then 0 else teN s a - 63) = teN s a - 63 := rfl
    rw [e1, e2]
    refine ⟨by omega, by omega, by omega, by omega, .inr ⟨hp, lzN s a + 63, ?_, by omega, by omega, by omega, by omega⟩⟩
    rw [Nat.pow_add, ← Nat.mul_assoc, ← t3]
theorem term_fl : g108 (segD [.b true, .b (sgN s a), .b (loudN s a), .i (kdN s a), .i (teN s a), .i (tmN s a)] 1 5) = [.b (sgN s a), .i (teP s a), .i (hiN (tmP s a)), .i (loN (tmP s a))] := by
  obtain ⟨t1, t2, t3, t4⟩ := term_ok hs ha
  show [DV.b (r108_0 (sgN s a)), .i (r108_1 (kdN s a) (teN s a)), .i (r108_2 (kdN s a) (tmN s a)), .i (r108_3 (kdN s a) (tmN s a))] = _
  rw [t1, t2, t3, t4]
  unfold tmP teP
  cases zerN s a
  · rfl
  · simp [hiN, loN]
include hb
include h0 h1
theorem sadd_ok : p54 s rm a b = true ∧ r54_0 s rm a b = ((addS s rm a b).1 : Int) ∧ r54_1 s rm a b = ((addS s rm a b).2 : Int) := by
  obtain ⟨g1, g2, g3⟩ := of92 hs
  have hk := (right_ok hs h0 h1).1
  have ta := take_ok hs ha
  have tb := take_ok hs hb
  have ua := term_fl hs ha
  have ub := term_fl hs hb
  obtain ⟨n0, n1, n2, n3⟩ := nans_2 hs ha hb (infN s a && infN s b && (sgN s a != sgN s b))
  obtain ⟨f1, _⟩ := size_facts hs
  have hi96 := inf96 hs
  have p96 : p96 (frN s) = true := by simp only [p96]; rw [decide_eq_true (by omega)]; rfl
  have s1 : ∀ m : Bool, r95_0 (topN s) m (infB s) = ((sgB s m + infB s : Nat) : Int) := fun m => signed_ok hs m (x := infB s) (by rcases hs with rfl | rfl <;> decide)
  have key : nanN s a = false → infN s a = false → nanN s b = false → infN s b = false → _ := fun x1 x2 x3 x4 => ssum_ok hs (rm := rm) (mx := sgN s a) (my := sgN s b) (tm_fl hs ha x1 x2) (tm_fl hs hb x3 x4)
  have ka2 := kd2 hs (a := a)
  have kb2 := kd2 hs (a := b)
  unfold addS oddP
  refine ⟨?_, ?_, ?_⟩
  · simp only [p54, hk, g1, g2, g3, ta, tb, ua, ub, dget, List.getD_cons_succ, List.getD_cons_zero, DV.toB, DV.toI, ka2, kb2, n0, n3, p96]
    generalize p107 (frN s) (biN s) rm (sgN s a) (teP s a) (hiN (tmP s a)) (loN (tmP s a)) (sgN s b) (teP s b) (hiN (tmP s b)) (loN (tmP s b)) = q at *
    revert key
    cases nanN s a <;> cases nanN s b <;> cases infN s a <;> cases infN s b <;> cases (sgN s a != sgN s b) <;> intro key <;> first | rfl | (rw [(key rfl rfl rfl rfl).1]; rfl)
  · simp only [r54_0, hk, g1, g2, g3, ta, tb, ua, ub, dget, List.getD_cons_succ, List.getD_cons_zero, DV.toB, DV.toI, ka2, kb2, n1, n3, hi96, s1]
    generalize r107_0 (frN s) (biN s) (topN s) rm (sgN s a) (teP s a) (hiN (tmP s a)) (loN (tmP s a)) (sgN s b) (teP s b) (hiN (tmP s b)) (loN (tmP s b)) = q at *
    generalize sumS s rm (sgN s a) (fM s a) (fE s a) (sgN s b) (fM s b) (fE s b) = r at *
    have ia := inf_mk hs ha
    have ib := inf_mk hs hb
    have la := inf_nan (s := s) (a := a)
    have lb := inf_nan (s := s) (a := b)
    revert key ia ib la lb
    cases nanN s a <;> cases nanN s b <;> cases infN s a <;> cases infN s b <;> intro key ia ib la lb <;>
      first | exact (key rfl rfl rfl rfl).2.1 | exact absurd (la rfl) (by decide) | exact absurd (lb rfl) (by decide) |
        (first | rw [ia rfl] | skip) <;> (first | rw [ib rfl] | skip) <;> cases sgN s a <;> cases sgN s b <;> rfl
  · simp only [r54_1, hk, g1, g2, g3, ta, tb, ua, ub, dget, List.getD_cons_succ, List.getD_cons_zero, DV.toB, DV.toI, ka2, kb2, n2, n3]
    generalize r107_1 (frN s) (biN s) rm (sgN s a) (teP s a) (hiN (tmP s a)) (loN (tmP s a)) (sgN s b) (teP s b) (hiN (tmP s b)) (loN (tmP s b)) = q at *
    generalize sumS s rm (sgN s a) (fM s a) (fE s a) (sgN s b) (fM s b) (fE s b) = r at *
    have l1 := loud_nan (s := s) (a := a)
    have l2 := loud_nan (s := s) (a := b)
    revert key l1 l2
    cases nanN s a <;> cases nanN s b <;> cases infN s a <;> cases infN s b <;> cases (sgN s a != sgN s b) <;> intro key l1 l2 <;>
      first | exact (key rfl rfl rfl rfl).2.2 | rfl | (cases loudN s a <;> cases loudN s b <;> first | rfl | cases l1 rfl | cases l2 rfl)
theorem radd_ok : p58 s rm a b = true ∧ r58_0 s rm a b = ((addS s rm a b).1 : Int) ∧ r58_1 s rm a b = ((addS s rm a b).2 : Int) := by
  have hk := (right_ok hs h0 h1).2
  obtain ⟨n0, n1, n2, n3⟩ := odd_2 hs ha hb (infN s a && infN s b && (sgN s a != sgN s b))
  obtain ⟨ma1, ma2⟩ := minused_ok hs ha
  obtain ⟨mb1, mb2⟩ := minused_ok hs hb
  obtain ⟨ia1, ia2⟩ := inf_ok hs ha
  obtain ⟨ib1, ib2⟩ := inf_ok hs hb
  obtain ⟨oa1, oa2, oa3, oa4⟩ := of_ok hs ha
  obtain ⟨ob1, ob2, ob3, ob4⟩ := of_ok hs hb
  have ka := mask_ok hs ha
  have kb := mask_ok hs hb
  have ea := fE_le hs ha
  have eb := fE_le hs hb
  have la := blenM hs ha
  have lb := blenM hs hb
  obtain ⟨s0, s1, s2⟩ := rsum_ok hs (rm := rm) (mx := sgN s a) (my := sgN s b) (Mx := fM s a) (My := fM s b) (Ex := fE s a) (Ey := fE s b) (by omega) (by omega) (by omega) (by omega) (by omega) (by omega)
  unfold addS oddP
  refine ⟨?_, ?_, ?_⟩
  · simp only [p58, hk, ma1, ma2, mb2, ia1, ia2, ib2, oa1, oa2, oa3, oa4, ob1, ob2, ob3, ob4, n0, n3, s0, ow_t]
    rfl
  · simp only [r58_0, hk, ma2, mb2, ia2, ib2, oa2, oa3, oa4, ob2, ob3, ob4, n1, n3, s1, ka, kb]
    generalize sumS s rm (sgN s a) (fM s a) (fE s a) (sgN s b) (fM s b) (fE s b) = r
    cases nanN s a <;> cases nanN s b <;> cases infN s a <;> cases infN s b <;> cases (sgN s a != sgN s b) <;> rfl
  · simp only [r58_1, hk, ma2, mb2, ia2, ib2, oa2, oa3, oa4, ob2, ob3, ob4, n2, n3, s2]
    have l1 := loud_nan (s := s) (a := a)
    have l2 := loud_nan (s := s) (a := b)
    generalize sumS s rm (sgN s a) (fM s a) (fE s a) (sgN s b) (fM s b) (fE s b) = r
    revert l1 l2
    cases nanN s a <;> cases nanN s b <;> cases infN s a <;> cases infN s b <;> cases (sgN s a != sgN s b) <;> intro l1 l2 <;>
      first | rfl | (cases loudN s a <;> cases loudN s b <;> first | rfl | cases l1 rfl | cases l2 rfl)

omit ha h0 h1 in
theorem flip_lt : b ^^^ topN s < 18446744073709551616 := by
  have := (size_facts hs).2.2.2.2.2.2.2.2.2
  exact Nat.xor_lt_two_pow (n := 64) hb (by omega)
omit ha h0 h1 in
theorem flip_ok : ilxor .u64 (b : Int) (topN s : Int) = ((b ^^^ topN s : Nat) : Int) := by
  have := (size_facts hs).2.2.2.2.2.2.2.2.2
  exact lxor_nn hb (by omega)
def subS (s rm : Int) (a b : Nat) : Nat × Nat := addS s rm a (b ^^^ topN s)
theorem ssub_ok : p59 s rm a b = true ∧ r59_0 s rm a b = ((subS s rm a b).1 : Int) ∧ r59_1 s rm a b = ((subS s rm a b).2 : Int) := by
  obtain ⟨g1, g2, g3⟩ := of92 hs
  have hk := (right_ok hs h0 h1).1
  obtain ⟨q0, q1, q2⟩ := sadd_ok hs h0 h1 ha (flip_lt hs hb)
  have e := flip_ok hs hb
  unfold subS
  refine ⟨?_, ?_, ?_⟩
  · simp only [p59, hk, g3, e, q0, ow_t]; rfl
  · simp only [r59_0, hk, g3, e, q1]; rfl
  · simp only [r59_1, hk, g3, e, q2]; rfl
theorem rsub_ok : p60 s rm a b = true ∧ r60_0 s rm a b = ((subS s rm a b).1 : Int) ∧ r60_1 s rm a b = ((subS s rm a b).2 : Int) := by
  have hk := (right_ok hs h0 h1).2
  obtain ⟨q0, q1, q2⟩ := radd_ok hs h0 h1 ha (flip_lt hs hb)
  have e := flip_ok hs hb
  obtain ⟨n1, n2⟩ := nought_ok hs true
  have n3 : sgB s true = topN s := rfl
  rw [n3] at n2
  unfold subS
  refine ⟨?_, ?_, ?_⟩
  · simp only [p60, hk, n1, n2, e, q0, ow_t]; rfl
  · simp only [r60_0, hk, n2, e, q1]; rfl
  · simp only [r60_1, hk, n2, e, q2]; rfl
end
theorem soft_adds (s rm : Int) {a b : Nat} (ha : a < 18446744073709551616) (hb : b < 18446744073709551616) :
    (p54 s rm a b = true ∧ p58 s rm a b = true ∧ r54_0 s rm a b = r58_0 s rm a b ∧ r54_1 s rm a b = r58_1 s rm a b) ∧
    (p59 s rm a b = true ∧ p60 s rm a b = true ∧ r59_0 s rm a b = r60_0 s rm a b ∧ r59_1 s rm a b = r60_1 s rm a b) := by
  by_cases h : (s = 4 ∨ s = 8) ∧ 0 ≤ rm ∧ rm ≤ 4
  · obtain ⟨hs, h0, h1⟩ := h
    obtain ⟨x0, x1, x2⟩ := sadd_ok hs h0 h1 ha hb
    obtain ⟨y0, y1, y2⟩ := radd_ok hs h0 h1 ha hb
    obtain ⟨v0, v1, v2⟩ := ssub_ok hs h0 h1 ha hb
    obtain ⟨w0, w1, w2⟩ := rsub_ok hs h0 h1 ha hb
    exact ⟨⟨x0, y0, x1.trans y1.symm, x2.trans y2.symm⟩, v0, w0, v1.trans w1.symm, v2.trans w2.symm⟩
  · obtain ⟨k1, k2⟩ := right_not h
    refine ⟨⟨?_, ?_, ?_, ?_⟩, ?_, ?_, ?_, ?_⟩
    · simp only [p54, k1]; rfl
    · simp only [p58, k2]; rfl
    · simp only [r54_0, r58_0, k1, k2]; rfl
    · simp only [r54_1, r58_1, k1, k2]; rfl
    · simp only [p59, k1]; rfl
    · simp only [p60, k2]; rfl
    · simp only [r59_0, r60_0, k1, k2]; rfl
    · simp only [r59_1, r60_1, k1, k2]; rfl
end Go.Proofs.Ytacciadcmiiimaa

namespace Go.Proofs.Ytacciadcmiiimaa
open Go Go.Sx Go.Rnd
set_option maxRecDepth 100000
set_option maxHeartbeats 8000000

def prP (P : Nat) : Nat := if P < 170141183460469231731687303715884105728 then P else P / 2
def prE (P : Nat) (e : Int) : Int := if P < 170141183460469231731687303715884105728 then e else e + 1
theorem half_words (Q : Nat) (hQ : Q < two128) : ishr .u64 (hiN Q : Int) 1 = (hiN (Q / 2) : Int) ∧ ilor .u64 (ishr .u64 (loN Q : Int) 1) (ishl .u64 (hiN Q : Int) 63) = (loN (Q / 2) : Int) := by
  have a := hi_lt hQ
  have b := lo_lt Q
  have c := hi_lo Q
  have e1 : ishr .u64 (hiN Q : Int) 1 = ((hiN Q / 2 ^ 1 : Nat) : Int) := shr_nat a 1
  have e2 : ishr .u64 (loN Q : Int) 1 = ((loN Q / 2 ^ 1 : Nat) : Int) := shr_nat b 1
  have e3 : ishl .u64 (hiN Q : Int) 63 = ((hiN Q * 2 ^ 63 % 18446744073709551616 : Nat) : Int) := shl_nat (hiN Q) 63
  have e4 : hiN Q * 2 ^ 63 % 18446744073709551616 = hiN Q % 2 * 2 ^ 63 := by omega
  rw [e1, e2, e3, e4]
  refine ⟨?_, ?_⟩
  · have : hiN (Q / 2) = hiN Q / 2 ^ 1 := by unfold hiN; omega
    rw [this]
  · rw [lor_nn (by omega) (by omega), or_high (by omega)]
    have : loN (Q / 2) = loN Q / 2 ^ 1 + hiN Q % 2 * 2 ^ 63 := by unfold loN hiN; omega
    rw [this]
theorem pr_words {P : Nat} {e : Int} (hP : P < two128) (he : -20000 ≤ e) (he2 : e ≤ 20000) :
    let c : Bool := ishr .u64 (hiN P : Int) 63 == 0
    let h : Int := bif c then r106_0 (hiN P) (loN P) 1 else (hiN P : Int)
    let l : Int := bif c then r106_1 (loN P) 1 else (loN P : Int)
    IntKind.wrap .i64 ((bif c then IntKind.wrap .i64 (e - 1) else e) + 1) = prE P e ∧ ishr .u64 h 1 = (hiN (prP P) : Int) ∧ ilor .u64 (ishr .u64 l 1) (ishl .u64 h 63) = (loN (prP P) : Int) := by
  intro c h l
  have a := hi_lt hP
  have b := lo_lt P
  have d := hi_lo P
  have e1 : ishr .u64 (hiN P : Int) 63 = ((hiN P / 2 ^ 63 : Nat) : Int) := shr_nat a 63
  have e2 : c = decide (P < 170141183460469231731687303715884105728) := by
    show (ishr .u64 (hiN P : Int) 63 == 0) = _
    rw [e1, Bool.eq_iff_iff]
    simp only [beq_iff_eq, dec]
    omega
  have w1 : IntKind.wrap .i64 (e - 1) = e - 1 := wrap_i64_of (by omega) (by omega)
  by_cases hlt : P < 170141183460469231731687303715884105728
  · rw [decide_eq_true hlt] at e2
    obtain ⟨u1, u2, u3⟩ := up_ok2 (P := P) (n := 1) (by decide) (by unfold two128; omega)
    have u2' : r106_0 (hiN P) (loN P) 1 = (hiN (P * 2 ^ 1) : Int) := u2
    have u3' : r106_1 (loN P) 1 = (loN (P * 2 ^ 1) : Int) := u3
    have hh : h = (hiN (P * 2 ^ 1) : Int) := by show (bif c then _ else _) = _; rw [e2, u2']; rfl
    have hl : l = (loN (P * 2 ^ 1) : Int) := by show (bif c then _ else _) = _; rw [e2, u3']; rfl
    obtain ⟨v1, v2⟩ := half_words (P * 2 ^ 1) (by unfold two128; omega)
    have : P * 2 ^ 1 / 2 = P := by omega
    rw [this] at v1 v2
    rw [hh, hl, e2, w1]
    unfold prP prE
    rw [if_pos hlt, if_pos hlt]
    refine ⟨?_, v1, v2⟩
    show IntKind.wrap .i64 (e - 1 + 1) = e
    rw [wrap_i64_of (by omega) (by omega)]; omega
  · rw [decide_eq_false hlt] at e2
    have hh : h = (hiN P : Int) := by show (bif c then _ else _) = _; rw [e2]; rfl
    have hl : l = (loN P : Int) := by show (bif c then _ else _) = _; rw [e2]; rfl
    obtain ⟨v1, v2⟩ := half_words P hP
    rw [hh, hl, e2]
    unfold prP prE
    rw [if_neg hlt, if_neg hlt]
    refine ⟨?_, v1, v2⟩
    show IntKind.wrap .i64 (e + 1) = e + 1
    exact wrap_i64_of (by omega) (by omega)

section
variable {s rm : Int} (hs : s = 4 ∨ s = 8) (h0 : 0 ≤ rm) (h1 : rm ≤ 4) {a b c : Nat} (ha : a < 18446744073709551616) (hb : b < 18446744073709551616) (hc : c < 18446744073709551616)
include hs ha hb
theorem tm_pr (x1 : nanN s a = false) (x2 : infN s a = false) (x3 : nanN s b = false) (x4 : infN s b = false) :
    Tm (if finN s a && finN s b then prP (tmN s a * tmN s b) else 0) (if finN s a && finN s b then prE (tmN s a * tmN s b) (teN s a + teN s b) else 0) (fM s a * fM s b) (fE s a + fE s b) := by
  have hE := fE_le hs ha
  have hF := fE_le hs hb
  have fin : finN s a = (!nanN s a && !infN s a && !zerN s a) := rfl
  have finb : finN s b = (!nanN s b && !infN s b && !zerN s b) := rfl
  rw [x1, x2] at fin
  rw [x3, x4] at finb
  cases hz : zerN s a with
  | true =>
    rw [hz] at fin
    have fin : finN s a = false := fin
    rw [fin, zer_M hs ha hz, Nat.zero_mul, Bool.false_and, if_neg (by decide), if_neg (by decide)]
    exact ⟨by decide, by decide, by omega, by omega, .inl ⟨rfl, rfl⟩⟩
  | false =>
    cases hy : zerN s b with
    | true =>
      rw [hy] at finb
      have finb : finN s b = false := finb
      rw [finb, zer_M hs hb hy, Nat.mul_zero, Bool.and_false, if_neg (by decide), if_neg (by decide)]
      exact ⟨by decide, by decide, by omega, by omega, .inl ⟨rfl, rfl⟩⟩
    | false =>
      rw [hz] at fin
      rw [hy] at finb
      obtain ⟨t1, t2, t3, t4, t5, t6⟩ := tm_facts hs ha fin
      obtain ⟨v1, v2, v3, v4, v5, v6⟩ := tm_facts hs hb finb
      have hp := fM_pos hs ha fin
      have hq := fM_pos hs hb finb
      have fin : finN s a = true := fin
      have finb : finN s b = true := finb
      rw [fin, finb, if_pos (show (true && true) = true from rfl), if_pos (show (true && true) = true from rfl)]
      have hM : 0 < fM s a * fM s b := Nat.mul_pos hp hq
      have e1 : tmN s a * tmN s b = fM s a * fM s b * 2 ^ (lzN s a + lzN s b) := by rw [t3, v3, Nat.pow_add, Nat.mul_mul_mul_comm]
      have hlo : 85070591730234615865843651857942052864 ≤ tmN s a * tmN s b := Nat.mul_le_mul t1 v1
      have hhi : tmN s a * tmN s b < 340282366920938463463374607431768211456 := Nat.mul_lt_mul_of_lt_of_le t2 (Nat.le_of_lt v2) (by decide)
      obtain ⟨k, hk⟩ : ∃ k : Nat, lzN s a + lzN s b = k + 22 := ⟨lzN s a + lzN s b - 22, by omega⟩
      rw [hk] at e1
      have e2 : fM s a * fM s b * 2 ^ (k + 22) = fM s a * fM s b * 2 ^ k * 4194304 := by rw [Nat.pow_add, ← Nat.mul_assoc]
      have e3 : fM s a * fM s b * 2 ^ (k + 21) = fM s a * fM s b * 2 ^ k * 2097152 := by rw [Nat.pow_add, ← Nat.mul_assoc]
      unfold prP prE
      rw [e1] at hlo hhi ⊢
      by_cases hlt : fM s a * fM s b * 2 ^ (k + 22) < 170141183460469231731687303715884105728
      · rw [if_pos hlt, if_pos hlt]
        refine ⟨by omega, by omega, by omega, by omega, .inr ⟨hM, k + 22, rfl, by omega, hlo, hlt, by omega⟩⟩
      · rw [if_neg hlt, if_neg hlt]
        refine ⟨by omega, by omega, by omega, by omega, .inr ⟨hM, k + 21, by omega, by omega, by omega, by omega, by omega⟩⟩
include hc
theorem nans_3 (inv : Bool) : p94 (frN s) inv [.b (sgN s a), .b (loudN s a), .i (kdN s a), .i (teN s a), .i (tmN s a), .b (sgN s b), .b (loudN s b), .i (kdN s b), .i (teN s b), .i (tmN s b), .b (sgN s c), .b (loudN s c), .i (kdN s c), .i (teN s c), .i (tmN s c)] = true ∧
    r94_0 (frN s) (biN s) inv [.b (sgN s a), .b (loudN s a), .i (kdN s a), .i (teN s a), .i (tmN s a), .b (sgN s b), .b (loudN s b), .i (kdN s b), .i (teN s b), .i (tmN s b), .b (sgN s c), .b (loudN s c), .i (kdN s c), .i (teN s c), .i (tmN s c)] = (quiB s : Int) ∧
    r94_1 inv [.b (sgN s a), .b (loudN s a), .i (kdN s a), .i (teN s a), .i (tmN s a), .b (sgN s b), .b (loudN s b), .i (kdN s b), .i (teN s b), .i (tmN s b), .b (sgN s c), .b (loudN s c), .i (kdN s c), .i (teN s c), .i (tmN s c)] = (if inv || (loudN s a || loudN s b || loudN s c) then 16 else 0) ∧
    r94_2 inv [.b (sgN s a), .b (loudN s a), .i (kdN s a), .i (teN s a), .i (tmN s a), .b (sgN s b), .b (loudN s b), .i (kdN s b), .i (teN s b), .i (tmN s b), .b (sgN s c), .b (loudN s c), .i (kdN s c), .i (teN s c), .i (tmN s c)] = (inv || nanN s a || nanN s b || nanN s c) := by
  have _ := ha; have _ := hb; have _ := hc
  have h := nans_at hs (n := 3) rfl (nans3 (inv := inv) (s1 := sgN s a) (l1 := loudN s a) (k1 := kdN s a) (e1 := teN s a) (m1 := tmN s a) (s2 := sgN s b) (l2 := loudN s b) (k2 := kdN s b) (e2 := teN s b) (m2 := tmN s b)
    (s3 := sgN s c) (l3 := loudN s c) (k3 := kdN s c) (e3 := teN s c) (m3 := tmN s c))
  rw [bad_kd, bad_kd, bad_kd, kd3, kd3, kd3] at h
  have h2 := loud_nan (s := s) (a := a)
  have h3 := loud_nan (s := s) (a := b)
  have h4 := loud_nan (s := s) (a := c)
  refine ⟨h.1, h.2.1, h.2.2.1.trans ?_, h.2.2.2.trans ?_⟩
  · rw [Bool.or_assoc, Bool.or_assoc, Bool.or_assoc]
  · revert h2 h3 h4
    cases inv <;> cases nanN s a <;> cases nanN s b <;> cases nanN s c <;> cases loudN s a <;> cases loudN s b <;> cases loudN s c <;> simp
theorem odd_3 (inv : Bool) : p100 s [.i (a : Int), .i (b : Int), .i (c : Int)] inv = true ∧ r100_0 s [.i (a : Int), .i (b : Int), .i (c : Int)] inv = (quiB s : Int) ∧ r100_1 s [.i (a : Int), .i (b : Int), .i (c : Int)] inv = (if inv || (loudN s a || loudN s b || loudN s c) then 16 else 0) ∧
    r100_2 s [.i (a : Int), .i (b : Int), .i (c : Int)] inv = (inv || nanN s a || nanN s b || nanN s c) := by
  have h := odd_of hs (odd3 hs ha hb hc (inv := inv))
  have h2 := loud_nan (s := s) (a := a)
  have h3 := loud_nan (s := s) (a := b)
  have h4 := loud_nan (s := s) (a := c)
  refine ⟨h.1, h.2.1, h.2.2.1.trans ?_, h.2.2.2.trans ?_⟩
  · rw [Bool.or_assoc, Bool.or_assoc, Bool.or_assoc]
  · revert h2 h3 h4
    cases inv <;> cases nanN s a <;> cases nanN s b <;> cases nanN s c <;> cases loudN s a <;> cases loudN s b <;> cases loudN s c <;> simp
omit ha hb hc in
theorem kn3 {a : Nat} : (kdN s a != 3) = !nanN s a := by have _ := hs; rw [← kd3]; rfl
include h0 h1
theorem sfma_ok : p50 s rm a b c = true ∧ r50_0 s rm a b c = ((fmaS s rm a b c).1 : Int) ∧ r50_1 s rm a b c = ((fmaS s rm a b c).2 : Int) := by
  obtain ⟨g1, g2, g3⟩ := of92 hs
  have hk := (right_ok hs h0 h1).1
  have ta := take_ok hs ha
  have tb := take_ok hs hb
  have tc := take_ok hs hc
  have uc := term_fl hs hc
  have ei : (infN s a && zerN s b || zerN s a && infN s b || (!(infN s a && zerN s b || zerN s a && infN s b) && (infN s a || infN s b) && !nanN s a && !nanN s b && infN s c && (sgN s c != (sgN s a != sgN s b)))) = invF s a b c := by
    unfold invF farN noneN
    cases infN s a <;> cases infN s b <;> cases zerN s a <;> cases zerN s b <;> cases nanN s a <;> cases nanN s b <;> rfl
  obtain ⟨n0, n1, n2, n3⟩ := nans_3 hs ha hb hc (invF s a b c)
  obtain ⟨f1, _⟩ := size_facts hs
  have hi96 := inf96 hs
  have p96 : p96 (frN s) = true := by simp only [p96]; rw [decide_eq_true (by omega)]; rfl
  have s1 : ∀ m : Bool, r95_0 (topN s) m (infB s) = ((sgB s m + infB s : Nat) : Int) := fun m => signed_ok hs m (x := infB s) (by rcases hs with rfl | rfl <;> decide)
  have p106 : p106 1 = true := (up_ok2 (P := 0) (n := 1) (by decide) (by decide)).1
  obtain ⟨v1, v2⟩ := mul64_ok (tm_lt hs ha) (tm_lt hs hb)
  have hlt : tmN s a * tmN s b < two128 := Nat.mul_lt_mul_of_lt_of_le (tm_lt hs ha) (Nat.le_of_lt (tm_lt hs hb)) (by decide)
  have ea := te_le hs ha
  have eb := te_le hs hb
  have w : IntKind.wrap .i64 (teN s a + teN s b) = teN s a + teN s b := wrap_i64_of (by omega) (by omega)
  obtain ⟨pw1, pw2, pw3⟩ := pr_words (P := tmN s a * tmN s b) (e := teN s a + teN s b) hlt (by omega) (by omega)
  have key : nanN s a = false → infN s a = false → nanN s b = false → infN s b = false → nanN s c = false → infN s c = false → _ := fun x1 x2 x3 x4 x5 x6 => ssum_ok hs (rm := rm) (mx := sgN s a != sgN s b) (my := sgN s c) (tm_pr hs ha hb x1 x2 x3 x4) (tm_fl hs hc x5 x6)
  have b1 : (bif finN s a && finN s b then prE (tmN s a * tmN s b) (teN s a + teN s b) else 0) = (if finN s a && finN s b then prE (tmN s a * tmN s b) (teN s a + teN s b) else 0) := by cases (finN s a && finN s b) <;> rfl
  have b2 : (bif finN s a && finN s b then (hiN (prP (tmN s a * tmN s b)) : Int) else 0) = (hiN (if finN s a && finN s b then prP (tmN s a * tmN s b) else 0) : Int) := by cases (finN s a && finN s b) <;> simp [hiN]
  have b3 : (bif finN s a && finN s b then (loN (prP (tmN s a * tmN s b)) : Int) else 0) = (loN (if finN s a && finN s b then prP (tmN s a * tmN s b) else 0) : Int) := by cases (finN s a && finN s b) <;> simp [loN]
  have ka2 := kd2 hs (a := a)
  have kb2 := kd2 hs (a := b)
  have kc2 := kd2 hs (a := c)
  have ka0 := kd0 hs (a := a)
  have kb0 := kd0 hs (a := b)
  have ka1 := kd1 (s := s) (a := a)
  have kb1 := kd1 (s := s) (a := b)
  have ka3 := kn3 hs (a := a)
  have kb3 := kn3 hs (a := b)
  generalize hq1 : (if finN s a && finN s b then prP (tmN s a * tmN s b) else 0) = Q at *
  generalize hq2 : (if finN s a && finN s b then prE (tmN s a * tmN s b) (teN s a + teN s b) else 0) = eQ at *
  unfold fmaS oddP
  refine ⟨?_, ?_, ?_⟩
  · simp only [p50, hk, g1, g2, g3, ta, tb, tc, uc, dget, List.getD_cons_succ, List.getD_cons_zero, DV.toB, DV.toI, ka2, kb2, kc2, ka0, kb0, ka1, kb1, ka3, kb3, ei, n0, n3, p96, p106, v1, v2, w, pw1, pw2, pw3, b1, b2, b3, ow_t]
    unfold invF farN noneN
    generalize p107 (frN s) (biN s) rm (sgN s a != sgN s b) eQ (hiN Q) (loN Q) (sgN s c) (teP s c) (hiN (tmP s c)) (loN (tmP s c)) = q at *
    revert key
    cases nanN s a <;> cases nanN s b <;> cases nanN s c <;> cases infN s a <;> cases infN s b <;> cases infN s c <;> cases zerN s a <;> cases zerN s b <;> intro key <;> first | rfl | (rw [(key rfl rfl rfl rfl rfl rfl).1]; rfl) | (cases (sgN s c != (sgN s a != sgN s b)) <;> rfl)
  · simp only [r50_0, hk, g1, g2, g3, ta, tb, tc, uc, dget, List.getD_cons_succ, List.getD_cons_zero, DV.toB, DV.toI, ka2, kb2, kc2, ka0, kb0, ka1, kb1, ka3, kb3, ei, n1, n3, hi96, s1, v1, v2, w, pw1, pw2, pw3, b1, b2, b3]
    have ff : (!(infN s a && zerN s b || zerN s a && infN s b) && (infN s a || infN s b) && !nanN s a && !nanN s b) = (!(infN s a && zerN s b || zerN s a && infN s b) && farN s a b) := by
      unfold farN; cases (infN s a && zerN s b || zerN s a && infN s b) <;> cases (infN s a || infN s b) <;> cases nanN s a <;> cases nanN s b <;> rfl
    rw [ff]
    generalize r107_0 (frN s) (biN s) (topN s) rm (sgN s a != sgN s b) eQ (hiN Q) (loN Q) (sgN s c) (teP s c) (hiN (tmP s c)) (loN (tmP s c)) = q at *
    generalize sumS s rm (sgN s a != sgN s b) (fM s a * fM s b) (fE s a + fE s b) (sgN s c) (fM s c) (fE s c) = r at *
    unfold invF farN noneN
    have ic := inf_mk hs hc
    revert key ic
    cases nanN s a <;> cases nanN s b <;> cases nanN s c <;> cases infN s a <;> cases infN s b <;> cases infN s c <;> cases zerN s a <;> cases zerN s b <;> intro key ic <;>
      first | rfl | exact (key rfl rfl rfl rfl rfl rfl).2.1 | (rw [ic rfl]; first | rfl | (cases (sgN s c != (sgN s a != sgN s b)) <;> rfl)) | (cases (sgN s c != (sgN s a != sgN s b)) <;> rfl)
  · simp only [r50_1, hk, g1, g2, g3, ta, tb, tc, uc, dget, List.getD_cons_succ, List.getD_cons_zero, DV.toB, DV.toI, ka2, kb2, kc2, ka0, kb0, ka1, kb1, ka3, kb3, ei, n2, n3, v1, v2, w, pw1, pw2, pw3, b1, b2, b3]
    have ff : (!(infN s a && zerN s b || zerN s a && infN s b) && (infN s a || infN s b) && !nanN s a && !nanN s b) = (!(infN s a && zerN s b || zerN s a && infN s b) && farN s a b) := by
      unfold farN; cases (infN s a && zerN s b || zerN s a && infN s b) <;> cases (infN s a || infN s b) <;> cases nanN s a <;> cases nanN s b <;> rfl
    rw [ff]
    generalize r107_1 (frN s) (biN s) rm (sgN s a != sgN s b) eQ (hiN Q) (loN Q) (sgN s c) (teP s c) (hiN (tmP s c)) (loN (tmP s c)) = q at *
    generalize sumS s rm (sgN s a != sgN s b) (fM s a * fM s b) (fE s a + fE s b) (sgN s c) (fM s c) (fE s c) = r at *
    have l1 := loud_nan (s := s) (a := a)
    have l2 := loud_nan (s := s) (a := b)
    have l3 := loud_nan (s := s) (a := c)
    generalize hL : (loudN s a || loudN s b || loudN s c) = L at *
    have l4 : nanN s a = false → nanN s b = false → nanN s c = false → L = false := fun x1 x2 x3 => by rw [← hL, l1 x1, l2 x2, l3 x3]; rfl
    clear hL l1 l2 l3
    unfold invF farN noneN
    revert key l4
    cases nanN s a <;> cases nanN s b <;> cases nanN s c <;> cases infN s a <;> cases infN s b <;> cases infN s c <;> cases zerN s a <;> cases zerN s b <;> intro key l4 <;>
      first | rfl | exact (key rfl rfl rfl rfl rfl rfl).2.2 | (cases L <;> rfl) | (cases (sgN s c != (sgN s a != sgN s b)) <;> first | rfl | (cases L <;> first | rfl | cases l4 rfl rfl rfl))
theorem rfma_ok : p51 s rm a b c = true ∧ r51_0 s rm a b c = ((fmaS s rm a b c).1 : Int) ∧ r51_1 s rm a b c = ((fmaS s rm a b c).2 : Int) := by
  have hk := (right_ok hs h0 h1).2
  obtain ⟨n0, n1, n2, n3⟩ := odd_3 hs ha hb hc (invF s a b c)
  obtain ⟨ma1, ma2⟩ := minused_ok hs ha
  obtain ⟨mb1, mb2⟩ := minused_ok hs hb
  obtain ⟨mc1, mc2⟩ := minused_ok hs hc
  obtain ⟨ia1, ia2⟩ := inf_ok hs ha
  obtain ⟨ib1, ib2⟩ := inf_ok hs hb
  obtain ⟨ic1, ic2⟩ := inf_ok hs hc
  obtain ⟨za1, za2⟩ := zero_ok hs ha
  obtain ⟨zb1, zb2⟩ := zero_ok hs hb
  obtain ⟨na1, na2⟩ := nan_ok hs ha
  obtain ⟨nb1, nb2⟩ := nan_ok hs hb
  obtain ⟨oa1, oa2, oa3, oa4⟩ := of_ok hs ha
  obtain ⟨ob1, ob2, ob3, ob4⟩ := of_ok hs hb
  obtain ⟨oc1, oc2, oc3, oc4⟩ := of_ok hs hc
  obtain ⟨y1, y2⟩ := infinity_ok hs (sgN s a != sgN s b)
  have kc := mask_ok hs hc
  have ea := fE_le hs ha
  have eb := fE_le hs hb
  have ec := fE_le hs hc
  have la := blenM hs ha
  have lb := blenM hs hb
  have lc := blenM hs hc
  have w : IntKind.wrap .i64 (fE s a + fE s b) = fE s a + fE s b := wrap_i64_of (by omega) (by omega)
  obtain ⟨t1, t2⟩ := times_ok (a := fM s a) (b := fM s b) (dlen_blen (by omega)) (dlen_blen (by omega))
  have hl : blen (fM s a * fM s b) ≤ 106 := by
    refine blen_le.2 ?_
    have h1 : fM s a < 2 ^ 53 := blen_le.1 la
    have h2 : fM s b < 2 ^ 53 := blen_le.1 lb
    have h3 := Nat.mul_lt_mul_of_lt_of_le h1 (Nat.le_of_lt h2) (Nat.two_pow_pos 53)
    rw [← Nat.pow_add] at h3
    exact h3
  obtain ⟨s0, s1, s2⟩ := rsum_ok hs (rm := rm) (mx := sgN s a != sgN s b) (my := sgN s c) (Mx := fM s a * fM s b) (My := fM s c) (Ex := fE s a + fE s b) (Ey := fE s c) (by omega) (by omega) (by omega) (by omega) (by omega) (by omega)
  have ei : (infN s a && zerN s b || zerN s a && infN s b || ((infN s a || infN s b) && !nanN s a && !nanN s b && infN s c && (sgN s c != (sgN s a != sgN s b)))) = invF s a b c := by
    unfold invF farN noneN
    rfl
  have ff : ((infN s a || infN s b) && !nanN s a && !nanN s b) = farN s a b := rfl
  unfold fmaS oddP
  refine ⟨?_, ?_, ?_⟩
  · simp only [p51, hk, ma1, ma2, mb2, mc2, ia1, ia2, ib2, ic2, za1, za2, zb2, na1, na2, nb2, oa1, oa3, oa4, ob1, ob3, ob4, oc1, oc2, oc3, oc4, ei, n0, n3, y1, t1, t2, w, s0, ow_t]
    rfl
  · simp only [r51_0, hk, ma2, mb2, mc2, ia2, ib2, ic2, za2, zb2, na2, nb2, oa3, oa4, ob3, ob4, oc2, oc3, oc4, ei, n1, n3, y2, t2, w, s1, kc]
    rw [ff]
    generalize sumS s rm (sgN s a != sgN s b) (fM s a * fM s b) (fE s a + fE s b) (sgN s c) (fM s c) (fE s c) = r
    cases (invF s a b c) <;> cases nanN s a <;> cases nanN s b <;> cases nanN s c <;> cases farN s a b <;> cases infN s c <;> rfl
  · simp only [r51_1, hk, ma2, mb2, mc2, ia2, ib2, ic2, za2, zb2, na2, nb2, oa3, oa4, ob3, ob4, oc2, oc3, oc4, ei, n2, n3, t2, w, s2]
    rw [ff]
    have l1 := loud_nan (s := s) (a := a)
    have l2 := loud_nan (s := s) (a := b)
    have l3 := loud_nan (s := s) (a := c)
    generalize hL : (loudN s a || loudN s b || loudN s c) = L at *
    have l4 : nanN s a = false → nanN s b = false → nanN s c = false → L = false := fun x1 x2 x3 => by rw [← hL, l1 x1, l2 x2, l3 x3]; rfl
    clear hL l1 l2 l3
    generalize sumS s rm (sgN s a != sgN s b) (fM s a * fM s b) (fE s a + fE s b) (sgN s c) (fM s c) (fE s c) = r
    revert l4
    cases (invF s a b c) <;> cases nanN s a <;> cases nanN s b <;> cases nanN s c <;> cases farN s a b <;> cases infN s c <;> intro l4 <;> first | rfl | (cases L <;> first | rfl | cases l4 rfl rfl rfl)
end
theorem soft_fmas (s rm : Int) {a b c : Nat} (ha : a < 18446744073709551616) (hb : b < 18446744073709551616) (hc : c < 18446744073709551616) :
    p50 s rm a b c = true ∧ p51 s rm a b c = true ∧ r50_0 s rm a b c = r51_0 s rm a b c ∧ r50_1 s rm a b c = r51_1 s rm a b c := by
  by_cases h : (s = 4 ∨ s = 8) ∧ 0 ≤ rm ∧ rm ≤ 4
  · obtain ⟨hs, h0, h1⟩ := h
    obtain ⟨x0, x1, x2⟩ := sfma_ok hs h0 h1 ha hb hc
    obtain ⟨y0, y1, y2⟩ := rfma_ok hs h0 h1 ha hb hc
    exact ⟨x0, y0, x1.trans y1.symm, x2.trans y2.symm⟩
  · obtain ⟨k1, k2⟩ := right_not h
    refine ⟨?_, ?_, ?_, ?_⟩
    · simp only [p50, k1]; rfl
    · simp only [p51, k2]; rfl
    · simp only [r50_0, r51_0, k1, k2]; rfl
    · simp only [r50_1, r51_1, k1, k2]; rfl
end Go.Proofs.Ytacciadcmiiimaa

namespace Go.Proofs.Ytacciadcmiiimaa
open Go Go.Sx Go.Rnd
set_option maxRecDepth 100000
set_option maxHeartbeats 1000000

theorem u64_nat {x : Int} (h : 0 ≤ x ∧ x < 18446744073709551616) : ∃ n : Nat, x = n ∧ n < 18446744073709551616 := ⟨x.toNat, by omega, by omega⟩
theorem uOf {a : Int} (h : (Lit.int .u64 a).wf = true) : 0 ≤ a ∧ a < 18446744073709551616 := by
  simp [Lit.wf, IntKind.min, IntKind.max, IntKind.signed, IntKind.bits] at h
  omega
theorem soft_awake : p43 = true ∧ r43_0 = true := by
  obtain ⟨a0, a1, a2⟩ := sadd_ok (s := 4) (rm := 0) (.inl rfl) (by decide) (by decide) (a := 1065353216) (b := 1065353216) (by decide) (by decide)
  obtain ⟨b0, b1, b2⟩ := sdiv_ok (s := 4) (rm := 0) (.inl rfl) (by decide) (by decide) (a := 1065353216) (b := 1077936128) (by decide) (by decide)
  obtain ⟨c0, c1, c2⟩ := ssqrt_ok (s := 4) (rm := 0) (.inl rfl) (by decide) (by decide) (a := 3212836864) (by decide)
  obtain ⟨d0, d1, d2⟩ := sfma_ok (s := 4) (rm := 0) (.inl rfl) (by decide) (by decide) (a := 1065353217) (b := 1065353217) (c := 3212836866) (by decide) (by decide) (by decide)
  obtain ⟨e0, e1, e2⟩ := smul_ok (s := 4) (rm := 3) (.inl rfl) (by decide) (by decide) (a := 1) (b := 1056964608) (by decide) (by decide)
  have ka : addS 4 0 1065353216 1065353216 = (1073741824, 0) := by decide +kernel
  have kb : divS 4 0 1065353216 1077936128 = (1051372203, 1) := by decide +kernel
  have kc : sqrtS 4 0 3212836864 = (2143289344, 16) := by decide +kernel
  have kd : fmaS 4 0 1065353217 1065353217 3212836866 = (679477248, 0) := by decide +kernel
  have ke : mulS 4 3 1 1056964608 = (1, 3) := by decide +kernel
  rw [ka] at a1 a2
  rw [kb] at b1 b2
  rw [kc] at c1 c2
  rw [kd] at d1 d2
  rw [ke] at e1 e2
  have a0' : p54 4 0 1065353216 1065353216 = true := a0
  have b0' : p46 4 0 1065353216 1077936128 = true := b0
  have c0' : p48 4 0 3212836864 = true := c0
  have d0' : p50 4 0 1065353217 1065353217 3212836866 = true := d0
  have e0' : p44 4 3 1 1056964608 = true := e0
  have a1' : r54_0 4 0 1065353216 1065353216 = 1073741824 := a1
  have b1' : r46_0 4 0 1065353216 1077936128 = 1051372203 := b1
  have c1' : r48_0 4 0 3212836864 = 2143289344 := c1
  have d1' : r50_0 4 0 1065353217 1065353217 3212836866 = 679477248 := d1
  have e1' : r44_0 4 3 1 1056964608 = 1 := e1
  have a2' : r54_1 4 0 1065353216 1065353216 = 0 := a2
  have b2' : r46_1 4 0 1065353216 1077936128 = 1 := b2
  have c2' : r48_1 4 0 3212836864 = 16 := c2
  have d2' : r50_1 4 0 1065353217 1065353217 3212836866 = 0 := d2
  have e2' : r44_1 4 3 1 1056964608 = 3 := e2
  constructor
  · simp only [p43, a0', b0', c0', d0', e0', ow_t]; rfl
  · simp only [r43_0, a1', b1', c1', d1', e1', a2', b2', c2', d2', e2']; rfl
theorem law_muls {s rm a b : Int} (ha : 0 ≤ a ∧ a < 18446744073709551616) (hb : 0 ≤ b ∧ b < 18446744073709551616) : p10 s rm a b = true ∧ r10_0 s rm a b = true := by
  obtain ⟨a, rfl, ka⟩ := u64_nat ha
  obtain ⟨b, rfl, kb⟩ := u64_nat hb
  obtain ⟨w1, w2⟩ := soft_awake
  obtain ⟨m1, m2, m3, m4⟩ := soft_muls (s := s) (rm := rm) ka kb
  constructor
  · simp only [p10, w1, m1, m2, ow_t]; rfl
  · simp only [r10_0, w2, m3, m4, beq_self_eq_true]; rfl
theorem law_divs {s rm a b : Int} (ha : 0 ≤ a ∧ a < 18446744073709551616) (hb : 0 ≤ b ∧ b < 18446744073709551616) : p11 s rm a b = true ∧ r11_0 s rm a b = true := by
  obtain ⟨a, rfl, ka⟩ := u64_nat ha
  obtain ⟨b, rfl, kb⟩ := u64_nat hb
  obtain ⟨w1, w2⟩ := soft_awake
  obtain ⟨m1, m2, m3, m4⟩ := soft_divs (s := s) (rm := rm) ka kb
  constructor
  · simp only [p11, w1, m1, m2, ow_t]; rfl
  · simp only [r11_0, w2, m3, m4, beq_self_eq_true]; rfl
theorem law_roots {s rm a : Int} (ha : 0 ≤ a ∧ a < 18446744073709551616) : p12 s rm a = true ∧ r12_0 s rm a = true := by
  obtain ⟨a, rfl, ka⟩ := u64_nat ha
  obtain ⟨w1, w2⟩ := soft_awake
  obtain ⟨m1, m2, m3, m4⟩ := soft_roots (s := s) (rm := rm) ka
  constructor
  · simp only [p12, w1, m1, m2, ow_t]; rfl
  · simp only [r12_0, w2, m3, m4, beq_self_eq_true]; rfl
theorem law_fmas {s rm a b c : Int} (ha : 0 ≤ a ∧ a < 18446744073709551616) (hb : 0 ≤ b ∧ b < 18446744073709551616) (hc : 0 ≤ c ∧ c < 18446744073709551616) : p13 s rm a b c = true ∧ r13_0 s rm a b c = true := by
  obtain ⟨a, rfl, ka⟩ := u64_nat ha
  obtain ⟨b, rfl, kb⟩ := u64_nat hb
  obtain ⟨c, rfl, kc⟩ := u64_nat hc
  obtain ⟨w1, w2⟩ := soft_awake
  obtain ⟨m1, m2, m3, m4⟩ := soft_fmas s rm ka kb kc
  constructor
  · simp only [p13, w1, m1, m2, ow_t]; rfl
  · simp only [r13_0, w2, m3, m4, beq_self_eq_true]; rfl
theorem law_adds {s rm a b : Int} (ha : 0 ≤ a ∧ a < 18446744073709551616) (hb : 0 ≤ b ∧ b < 18446744073709551616) : p17 s rm a b = true ∧ r17_0 s rm a b = true := by
  obtain ⟨a, rfl, ka⟩ := u64_nat ha
  obtain ⟨b, rfl, kb⟩ := u64_nat hb
  obtain ⟨w1, w2⟩ := soft_awake
  obtain ⟨⟨m1, m2, m3, m4⟩, n1, n2, n3, n4⟩ := soft_adds s rm ka kb
  constructor
  · simp only [p17, w1, m1, m2, n1, n2, ow_t]; rfl
  · simp only [r17_0, w2, m3, m4, n3, n4, beq_self_eq_true]; rfl
end Go.Proofs.Ytacciadcmiiimaa

namespace Go.Proofs.Ytacciadcmiiimaa
open Go Go.Sx
set_option maxRecDepth 100000
set_option maxHeartbeats 4000000
theorem ev98 : evFn Try.prog S98 2000 Try.f98 s98 = some o98 := by kernel_rfl
theorem ev93 : evFn Try.prog S93 2000 Try.f93 s93 = some o93 := by kernel_rfl
theorem ev44 : evFn Try.prog S44 2000 Try.f44 s44 = some o44 := by kernel_rfl
theorem ev58 : evFn Try.prog S58 2000 Try.f58 s58 = some o58 := by kernel_rfl
theorem ev116 : evFn Try.prog S116 2000 Try.f116 s116 = some o116 := by kernel_rfl
theorem ev60 : evFn Try.prog S60 2000 Try.f60 s60 = some o60 := by kernel_rfl
theorem ev97 : evFn Try.prog S97 2000 Try.f97 s97 = some o97 := by kernel_rfl
theorem ev39 : evFn Try.prog S39 2000 Try.f39 s39 = some o39 := by kernel_rfl
theorem ev95 : evFn Try.prog S95 2000 Try.f95 s95 = some o95 := by kernel_rfl
theorem ev115 : evFn Try.prog S115 2000 Try.f115 s115 = some o115 := by kernel_rfl
end Go.Proofs.Ytacciadcmiiimaa

namespace Go.Proofs.Ytacciadcmiiimaa
open Go Go.Sx
set_option maxRecDepth 100000
set_option maxHeartbeats 4000000
theorem ev107 : evFn Try.prog S107 2000 Try.f107 s107 = some o107 := by kernel_rfl
theorem ev104 : evFn Try.prog S104 2000 Try.f104 s104 = some o104 := by kernel_rfl
theorem ev100 : evFn Try.prog S100 2000 Try.f100 s100 = some o100 := by kernel_rfl
theorem ev118 : evFn Try.prog S118 2000 Try.f118 s118 = some o118 := by kernel_rfl
theorem ev17 : evFn Try.prog S17 2000 Try.f17 s17 = some o17 := by kernel_rfl
theorem ev11 : evFn Try.prog S11 2000 Try.f11 s11 = some o11 := by kernel_rfl
theorem ev84 : evFn Try.prog S84 2000 Try.f84 s84 = some o84 := by kernel_rfl
theorem ev92 : evFn Try.prog S92 2000 Try.f92 s92 = some o92 := by kernel_rfl
theorem ev40 : evFn Try.prog S40 2000 Try.f40 s40 = some o40 := by kernel_rfl
end Go.Proofs.Ytacciadcmiiimaa

namespace Go.Proofs.Ytacciadcmiiimaa
open Go Go.Sx
set_option maxRecDepth 100000
set_option maxHeartbeats 4000000
theorem ev102 : evFn Try.prog S102 2000 Try.f102 s102 = some o102 := by kernel_rfl
theorem ev114 : evFn Try.prog S114 2000 Try.f114 s114 = some o114 := by kernel_rfl
theorem ev46 : evFn Try.prog S46 2000 Try.f46 s46 = some o46 := by kernel_rfl
theorem ev45 : evFn Try.prog S45 2000 Try.f45 s45 = some o45 := by kernel_rfl
theorem ev105 : evFn Try.prog S105 2000 Try.f105 s105 = some o105 := by kernel_rfl
theorem ev117 : evFn Try.prog S117 2000 Try.f117 s117 = some o117 := by kernel_rfl
theorem ev59 : evFn Try.prog S59 2000 Try.f59 s59 = some o59 := by kernel_rfl
theorem ev108 : evFn Try.prog S108 2000 Try.f108 s108 = some o108 := by kernel_rfl
theorem ev120 : evFn Try.prog S120 2000 Try.f120 s120 = some o120 := by kernel_rfl
theorem ev99 : evFn Try.prog S99 2000 Try.f99 s99 = some o99 := by kernel_rfl
theorem ev91 : evFn Try.prog S91 2000 Try.f91 s91 = some o91 := by kernel_rfl
theorem ev42 : evFn Try.prog S42 2000 Try.f42 s42 = some o42 := by kernel_rfl
end Go.Proofs.Ytacciadcmiiimaa

namespace Go.Proofs.Ytacciadcmiiimaa
open Go Go.Sx
set_option maxRecDepth 100000
set_option maxHeartbeats 4000000
theorem ev101 : evFn Try.prog S101 2000 Try.f101 s101 = some o101 := by kernel_rfl
theorem ev48 : evFn Try.prog S48 2000 Try.f48 s48 = some o48 := by kernel_rfl
theorem ev77 : evFn Try.prog S77 2000 Try.f77 s77 = some o77 := by kernel_rfl
theorem ev69 : evFn Try.prog S69 2000 Try.f69 s69 = some o69 := by kernel_rfl
theorem ev43 : evFn Try.prog S43 2000 Try.f43 s43 = some o43 := by kernel_rfl
theorem ev76 : evFn Try.prog S76 2000 Try.f76 s76 = some o76 := by kernel_rfl
theorem ev90 : evFn Try.prog S90 2000 Try.f90 s90 = some o90 := by kernel_rfl
theorem ev126 : evFn Try.prog S126 2000 Try.f126 s126 = some o126 := by kernel_rfl
theorem ev41 : evFn Try.prog S41 2000 Try.f41 s41 = some o41 := by kernel_rfl
theorem ev56 : evFn Try.prog S56 2000 Try.f56 s56 = some o56 := by kernel_rfl
theorem ev80 : evFn Try.prog S80 2000 Try.f80 s80 = some o80 := by kernel_rfl
theorem ev61 : evFn Try.prog S61 2000 Try.f61 s61 = some o61 := by kernel_rfl
theorem ev74 : evFn Try.prog S74 2000 Try.f74 s74 = some o74 := by kernel_rfl
end Go.Proofs.Ytacciadcmiiimaa

namespace Go.Proofs.Ytacciadcmiiimaa
open Go Go.Sx
set_option maxRecDepth 100000
set_option maxHeartbeats 4000000
theorem ev50 : evFn Try.prog S50 2000 Try.f50 s50 = some o50 := by kernel_rfl
theorem ev81 : evFn Try.prog S81 2000 Try.f81 s81 = some o81 := by kernel_rfl
theorem ev51 : evFn Try.prog S51 2000 Try.f51 s51 = some o51 := by kernel_rfl
theorem ev54 : evFn Try.prog S54 2000 Try.f54 s54 = some o54 := by kernel_rfl
theorem ev94 : evFn Try.prog S94 2000 Try.f94 s94 = some o94 := by kernel_rfl
theorem ev109 : evFn Try.prog S109 2000 Try.f109 s109 = some o109 := by kernel_rfl
theorem ev122 : evFn Try.prog S122 2000 Try.f122 s122 = some o122 := by kernel_rfl
theorem ev106 : evFn Try.prog S106 2000 Try.f106 s106 = some o106 := by kernel_rfl
theorem ev113 : evFn Try.prog S113 2000 Try.f113 s113 = some o113 := by kernel_rfl
theorem ev10 : evFn Try.prog S10 2000 Try.f10 s10 = some o10 := by kernel_rfl
theorem ev85 : evFn Try.prog S85 2000 Try.f85 s85 = some o85 := by kernel_rfl
theorem ev119 : evFn Try.prog S119 2000 Try.f119 s119 = some o119 := by kernel_rfl
end Go.Proofs.Ytacciadcmiiimaa

namespace Go.Proofs.Ytacciadcmiiimaa
open Go Go.Sx
set_option maxRecDepth 100000
set_option maxHeartbeats 4000000
theorem ev112 : evFn Try.prog S112 2000 Try.f112 s112 = some o112 := by kernel_rfl
theorem ev103 : evFn Try.prog S103 2000 Try.f103 s103 = some o103 := by kernel_rfl
theorem ev110 : evFn Try.prog S110 2000 Try.f110 s110 = some o110 := by kernel_rfl
theorem ev47 : evFn Try.prog S47 2000 Try.f47 s47 = some o47 := by kernel_rfl
theorem ev49 : evFn Try.prog S49 2000 Try.f49 s49 = some o49 := by kernel_rfl
theorem ev123 : evFn Try.prog S123 2000 Try.f123 s123 = some o123 := by kernel_rfl
theorem ev111 : evFn Try.prog S111 2000 Try.f111 s111 = some o111 := by kernel_rfl
theorem ev127 : evFn Try.prog S127 2000 Try.f127 s127 = some o127 := by kernel_rfl
theorem ev13 : evFn Try.prog S13 2000 Try.f13 s13 = some o13 := by kernel_rfl
theorem ev12 : evFn Try.prog S12 2000 Try.f12 s12 = some o12 := by kernel_rfl
theorem ev121 : evFn Try.prog S121 2000 Try.f121 s121 = some o121 := by kernel_rfl
theorem ev96 : evFn Try.prog S96 2000 Try.f96 s96 = some o96 := by kernel_rfl
theorem ev89 : evFn Try.prog S89 2000 Try.f89 s89 = some o89 := by kernel_rfl
end Go.Proofs.Ytacciadcmiiimaa

namespace Go.Proofs.Ytacciadcmiiimaa
open Go Go.Sx
set_option maxRecDepth 100000
set_option maxHeartbeats 4000000
def WI (_ : World) : Prop := True
def gK : Nat := 0
theorem wiStable : Stable WI gK := fun _ _ _ _ h => h


noncomputable def FE : FEnv := fun f => match f with
  | 69 => g69
  | 115 => g115
  | 91 => g91
  | 92 => g92
  | 96 => g96
  | 120 => g120
  | 95 => g95
  | 93 => g93
  | 97 => g97
  | 110202 => g110202
  | 110200 => g110200
  | 102 => g102
  | 121 => g121
  | 106 => g106
  | 123 => g123
  | 127 => g127
  | 122 => g122
  | 98 => g98
  | 108 => g108
  | 109400 => g109400
  | 94 => g94
  | 107 => g107
  | 44 => g44
  | 46 => g46
  | 104800 => g104800
  | 48 => g48
  | 50 => g50
  | 54 => g54
  | 59 => g59
  | 89 => g89
  | 42 => g42
  | 90 => g90
  | 39 => g39
  | 40 => g40
  | 41 => g41
  | 56 => g56
  | 61 => g61
  | 74 => g74
  | 85 => g85
  | 84 => g84
  | 119 => g119
  | 126 => g126
  | 111600 => g111600
  | 116 => g116
  | 80 => g80
  | 111400 => g111400
  | 114 => g114
  | 107700 => g107700
  | 77 => g77
  | 111000 => g111000
  | 110 => g110
  | 110400 => g110400
  | 104 => g104
  | 113 => g113
  | 111700 => g111700
  | 117 => g117
  | 111202 => g111202
  | 111200 => g111200
  | 112 => g112
  | 111100 => g111100
  | 111 => g111
  | 76 => g76
  | 118 => g118
  | 81 => g81
  | 99 => g99
  | 110000 => g110000
  | 100 => g100
  | 110100 => g110100
  | 110102 => g110102
  | 101 => g101
  | 110300 => g110300
  | 103 => g103
  | 110500 => g110500
  | 105 => g105
  | 109 => g109
  | 45 => g45
  | 47 => g47
  | 49 => g49
  | 51 => g51
  | 58 => g58
  | 60 => g60
  | 43 => g43
  | 10 => g10
  | 11 => g11
  | 12 => g12
  | 13 => g13
  | 17 => g17
  | _ => fun _ => []



theorem k69 : FnOK Try.prog WI gK 69 s69 g69 :=
  fn_ok (F := FE) wiStable (⟨fun _ _ h => (by cases h), (fun _ _ h => (by cases h))⟩) Try.func69 ev69 (by kernel_rfl) (fun _ h => (by cases h)) fun ds h hp => match ds, h, hp with
    | [d0], _, hp => ⟨(by kernel_rfl : owesB (outEnv FE s69 o69 [d0]) o69.owes = (dget (g69 [d0]) 0).toB).trans (hp rfl), nrms_teq (by kernel_rfl) (by kernel_rfl) (by kernel_rfl)⟩
theorem k115 : FnOK Try.prog WI gK 115 s115 g115 :=
  fn_ok (F := FE) wiStable (⟨(fun f s h => by
    simp only [Sigs.get, S115, assoc] at h
    split at h
    · rename_i hg; obtain rfl := Nat.eq_of_beq_eq_true hg; cases h; exact k69
    cases h), (fun _ _ h => (by cases h))⟩) Try.func115 ev115 (by kernel_rfl) (fun _ h => (by cases h)) fun ds h hp => match ds, h, hp with
    | [d0], _, hp => ⟨(by kernel_rfl : owesB (outEnv FE s115 o115 [d0]) o115.owes = (dget (g115 [d0]) 0).toB).trans (hp rfl), nrms_teq (by kernel_rfl) (by kernel_rfl) (by kernel_rfl)⟩
theorem k91 : FnOK Try.prog WI gK 91 s91 g91 :=
  fn_ok (F := FE) wiStable (⟨fun _ _ h => (by cases h), (fun _ _ h => (by cases h))⟩) Try.func91 ev91 (by kernel_rfl) (fun _ h => (by cases h)) fun ds h hp => match ds, h, hp with
    | [d0, d1], _, _ => ⟨by kernel_rfl, nrms_teq (by kernel_rfl) (by kernel_rfl) (by kernel_rfl)⟩
theorem k92 : FnOK Try.prog WI gK 92 s92 g92 :=
  fn_ok (F := FE) wiStable (⟨fun _ _ h => (by cases h), (fun _ _ h => (by cases h))⟩) Try.func92 ev92 (by kernel_rfl) (fun _ h => (by cases h)) fun ds h hp => match ds, h, hp with
    | [d0], _, _ => ⟨by kernel_rfl, nrms_teq (by kernel_rfl) (by kernel_rfl) (by kernel_rfl)⟩
theorem k96 : FnOK Try.prog WI gK 96 s96 g96 :=
  fn_ok (F := FE) wiStable (⟨fun _ _ h => (by cases h), (fun _ _ h => (by cases h))⟩) Try.func96 ev96 (by kernel_rfl) (fun _ h => (by cases h)) fun ds h hp => match ds, h, hp with
    | [d0, d1, d2], _, hp => ⟨(by kernel_rfl : owesB (outEnv FE s96 o96 [d0, d1, d2]) o96.owes = (dget (g96 [d0, d1, d2]) 0).toB).trans (hp rfl), nrms_teq (by kernel_rfl) (by kernel_rfl) (by kernel_rfl)⟩
theorem k120 : FnOK Try.prog WI gK 120 s120 g120 :=
  fn_ok (F := FE) wiStable (⟨(fun f s h => by
    simp only [Sigs.get, S120, assoc] at h
    split at h
    · rename_i hg; obtain rfl := Nat.eq_of_beq_eq_true hg; cases h; exact k96
    cases h), (fun _ _ h => (by cases h))⟩) Try.func120 ev120 (by kernel_rfl) (fun _ h => (by cases h)) fun ds h hp => match ds, h, hp with
    | [d0, d1, d2], _, hp => ⟨(by kernel_rfl : owesB (outEnv FE s120 o120 [d0, d1, d2]) o120.owes = (dget (g120 [d0, d1, d2]) 0).toB).trans (hp rfl), nrms_teq (by kernel_rfl) (by kernel_rfl) (by kernel_rfl)⟩
theorem k95 : FnOK Try.prog WI gK 95 s95 g95 :=
  fn_ok (F := FE) wiStable (⟨fun _ _ h => (by cases h), (fun _ _ h => (by cases h))⟩) Try.func95 ev95 (by kernel_rfl) (fun _ h => (by cases h)) fun ds h hp => match ds, h, hp with
    | [d0, d1, d2, d3, d4], _, _ => ⟨by kernel_rfl, nrms_teq (by kernel_rfl) (by kernel_rfl) (by kernel_rfl)⟩
theorem k93 : FnOK Try.prog WI gK 93 s93 g93 :=
  fn_ok (F := FE) wiStable (⟨(fun f s h => by
    simp only [Sigs.get, S93, assoc] at h
    split at h
    · rename_i hg; obtain rfl := Nat.eq_of_beq_eq_true hg; cases h; exact k115
    cases h), (fun _ _ h => (by cases h))⟩) Try.func93 ev93 (by kernel_rfl) (fun _ h => (by cases h)) fun ds h hp => match ds, h, hp with
    | [d0, d1, d2, d3], _, hp => ⟨(by kernel_rfl : owesB (outEnv FE s93 o93 [d0, d1, d2, d3]) o93.owes = (dget (g93 [d0, d1, d2, d3]) 0).toB).trans (hp rfl), nrms_teq (by kernel_rfl) (by kernel_rfl) (by kernel_rfl)⟩
theorem k97 : FnOK Try.prog WI gK 97 s97 g97 :=
  fn_ok (F := FE) wiStable (⟨fun _ _ h => (by cases h), (fun _ _ h => (by cases h))⟩) Try.func97 ev97 (by kernel_rfl) (fun _ h => (by cases h)) fun ds h hp => match ds, h, hp with
    | [d0, d1], _, _ => ⟨by kernel_rfl, nrms_teq (by kernel_rfl) (by kernel_rfl) (by kernel_rfl)⟩
theorem hl102_0 : LoopSound FE l102_0 := loop_ok (w := W110200) (c := C110200) (nx := N110200) (out := T110200) [.i, .i, .i, .i, .i] (fun ds => by kernel_rfl) rfl (fun ν xs h => match xs, h with | [x0, x1], _ => by kernel_rfl)
  (fun ν xs h => match xs, h with | [x0, x1], _ => by kernel_rfl)
  (fun ν xs h => match xs, h with | [x0, x1], _ => by kernel_rfl)
  (fun ν xs h => match xs, h with | [x0, x1], _ => by kernel_rfl)
theorem hl102_1 : LoopSound FE l102_1 := loop_ok (w := W110202) (c := C110202) (nx := N110202) (out := T110202) [.i, .i, .i, .i, .i] (fun ds => by kernel_rfl) rfl (fun ν xs h => match xs, h with | [x0, x1], _ => by kernel_rfl)
  (fun ν xs h => match xs, h with | [x0, x1], _ => by kernel_rfl)
  (fun ν xs h => match xs, h with | [x0, x1], _ => by kernel_rfl)
  (fun ν xs h => match xs, h with | [x0, x1], _ => by kernel_rfl)
theorem hl102 : ∀ l ∈ o102.loops, LoopSound FE l := show ∀ l ∈ [l102_0, l102_1], LoopSound FE l from
  List.forall_mem_cons.2 ⟨hl102_0, List.forall_mem_cons.2 ⟨hl102_1, fun _ h => (by cases h)⟩⟩
theorem k102 : FnOK Try.prog WI gK 102 s102 g102 :=
  fn_ok (F := FE) wiStable (⟨(fun f s h => by
    simp only [Sigs.get, S102, assoc] at h
    split at h
    · rename_i hg; obtain rfl := Nat.eq_of_beq_eq_true hg; cases h; exact k115
    cases h), (fun _ _ h => (by cases h))⟩) Try.func102 ev102 (by kernel_rfl) hl102 fun ds h hp => match ds, h, hp with
    | [d0, d1, d2], _, hp => ⟨(by kernel_rfl : owesB (outEnv FE s102 o102 [d0, d1, d2]) o102.owes = (dget (g102 [d0, d1, d2]) 0).toB).trans (hp rfl), nrms_teq (by kernel_rfl) (by kernel_rfl) (by kernel_rfl)⟩
theorem k121 : FnOK Try.prog WI gK 121 s121 g121 :=
  fn_ok (F := FE) wiStable (⟨(fun f s h => by
    simp only [Sigs.get, S121, assoc] at h
    split at h
    · rename_i hg; obtain rfl := Nat.eq_of_beq_eq_true hg; cases h; exact k115
    cases h), (fun _ _ h => (by cases h))⟩) Try.func121 ev121 (by kernel_rfl) (fun _ h => (by cases h)) fun ds h hp => match ds, h, hp with
    | [d0, d1], _, hp => ⟨(by kernel_rfl : owesB (outEnv FE s121 o121 [d0, d1]) o121.owes = (dget (g121 [d0, d1]) 0).toB).trans (hp rfl), nrms_teq (by kernel_rfl) (by kernel_rfl) (by kernel_rfl)⟩
theorem k106 : FnOK Try.prog WI gK 106 s106 g106 :=
  fn_ok (F := FE) wiStable (⟨fun _ _ h => (by cases h), (fun _ _ h => (by cases h))⟩) Try.func106 ev106 (by kernel_rfl) (fun _ h => (by cases h)) fun ds h hp => match ds, h, hp with
    | [d0, d1, d2], _, hp => ⟨(by kernel_rfl : owesB (outEnv FE s106 o106 [d0, d1, d2]) o106.owes = (dget (g106 [d0, d1, d2]) 0).toB).trans (hp rfl), nrms_teq (by kernel_rfl) (by kernel_rfl) (by kernel_rfl)⟩
theorem k123 : FnOK Try.prog WI gK 123 s123 g123 :=
  fn_ok (F := FE) wiStable (⟨fun _ _ h => (by cases h), (fun _ _ h => (by cases h))⟩) Try.func123 ev123 (by kernel_rfl) (fun _ h => (by cases h)) fun ds h hp => match ds, h, hp with
    | [d0, d1, d2], _, hp => ⟨(by kernel_rfl : owesB (outEnv FE s123 o123 [d0, d1, d2]) o123.owes = (dget (g123 [d0, d1, d2]) 0).toB).trans (hp rfl), nrms_teq (by kernel_rfl) (by kernel_rfl) (by kernel_rfl)⟩
theorem k127 : FnOK Try.prog WI gK 127 s127 g127 :=
  fn_ok (F := FE) wiStable (⟨fun _ _ h => (by cases h), (fun _ _ h => (by cases h))⟩) Try.func127 ev127 (by kernel_rfl) (fun _ h => (by cases h)) fun ds h hp => match ds, h, hp with
    | [d0, d1, d2, d3, d4], _, _ => ⟨by kernel_rfl, nrms_teq (by kernel_rfl) (by kernel_rfl) (by kernel_rfl)⟩
theorem k122 : FnOK Try.prog WI gK 122 s122 g122 :=
  fn_ok (F := FE) wiStable (⟨(fun f s h => by
    simp only [Sigs.get, S122, assoc] at h
    split at h
    · rename_i hg; obtain rfl := Nat.eq_of_beq_eq_true hg; cases h; exact k127
    cases h), (fun _ _ h => (by cases h))⟩) Try.func122 ev122 (by kernel_rfl) (fun _ h => (by cases h)) fun ds h hp => match ds, h, hp with
    | [d0, d1, d2, d3], _, hp => ⟨(by kernel_rfl : owesB (outEnv FE s122 o122 [d0, d1, d2, d3]) o122.owes = (dget (g122 [d0, d1, d2, d3]) 0).toB).trans (hp rfl), nrms_teq (by kernel_rfl) (by kernel_rfl) (by kernel_rfl)⟩
theorem k98 : FnOK Try.prog WI gK 98 s98 g98 :=
  fn_ok (F := FE) wiStable (⟨(fun f s h => by
    simp only [Sigs.get, S98, assoc] at h
    split at h
    · rename_i hg; obtain rfl := Nat.eq_of_beq_eq_true hg; cases h; exact k121
    split at h
    · rename_i hg; obtain rfl := Nat.eq_of_beq_eq_true hg; cases h; exact k106
    split at h
    · rename_i hg; obtain rfl := Nat.eq_of_beq_eq_true hg; cases h; exact k122
    split at h
    · rename_i hg; obtain rfl := Nat.eq_of_beq_eq_true hg; cases h; exact k95
    split at h
    · rename_i hg; obtain rfl := Nat.eq_of_beq_eq_true hg; cases h; exact k96
    cases h), (fun _ _ h => (by cases h))⟩) Try.func98 ev98 (by kernel_rfl) (fun _ h => (by cases h)) fun ds h hp => match ds, h, hp with
    | [d0, d1, d2, d3, d4, d5, d6, d7], _, hp => ⟨(by kernel_rfl : owesB (outEnv FE s98 o98 [d0, d1, d2, d3, d4, d5, d6, d7]) o98.owes = (dget (g98 [d0, d1, d2, d3, d4, d5, d6, d7]) 0).toB).trans (hp rfl), nrms_teq (by kernel_rfl) (by kernel_rfl) (by kernel_rfl)⟩
theorem k108 : FnOK Try.prog WI gK 108 s108 g108 :=
  fn_ok (F := FE) wiStable (⟨fun _ _ h => (by cases h), (fun _ _ h => (by cases h))⟩) Try.func108 ev108 (by kernel_rfl) (fun _ h => (by cases h)) fun ds h hp => match ds, h, hp with
    | [d0, d1, d2, d3, d4], _, _ => ⟨by kernel_rfl, nrms_teq (by kernel_rfl) (by kernel_rfl) (by kernel_rfl)⟩
theorem hl94_0 : LoopSound FE l94_0 := loop_ok (w := W109400) (c := C109400) (nx := N109400) (out := T109400) [.i, .l, .b, .b, .i] (fun ds => by kernel_rfl) rfl (fun ν xs h => match xs, h with | [x0, x1, x2], _ => by kernel_rfl)
  (fun ν xs h => match xs, h with | [x0, x1, x2], _ => by kernel_rfl)
  (fun ν xs h => match xs, h with | [x0, x1, x2], _ => by kernel_rfl)
  (fun ν xs h => match xs, h with | [x0, x1, x2], _ => by kernel_rfl)
theorem hl94 : ∀ l ∈ o94.loops, LoopSound FE l := show ∀ l ∈ [l94_0], LoopSound FE l from
  List.forall_mem_cons.2 ⟨hl94_0, fun _ h => (by cases h)⟩
theorem k94 : FnOK Try.prog WI gK 94 s94 g94 :=
  fn_ok (F := FE) wiStable (⟨(fun f s h => by
    simp only [Sigs.get, S94, assoc] at h
    split at h
    · rename_i hg; obtain rfl := Nat.eq_of_beq_eq_true hg; cases h; exact k120
    cases h), (fun _ _ h => (by cases h))⟩) Try.func94 ev94 (by kernel_rfl) hl94 fun ds h hp => match ds, h, hp with
    | [d0, d1, d2, d3, d4], _, hp => ⟨(by kernel_rfl : owesB (outEnv FE s94 o94 [d0, d1, d2, d3, d4]) o94.owes = (dget (g94 [d0, d1, d2, d3, d4]) 0).toB).trans (hp rfl), nrms_teq (by kernel_rfl) (by kernel_rfl) (by kernel_rfl)⟩
theorem k107 : FnOK Try.prog WI gK 107 s107 g107 :=
  fn_ok (F := FE) wiStable (⟨(fun f s h => by
    simp only [Sigs.get, S107, assoc] at h
    split at h
    · rename_i hg; obtain rfl := Nat.eq_of_beq_eq_true hg; cases h; exact k95
    split at h
    · rename_i hg; obtain rfl := Nat.eq_of_beq_eq_true hg; cases h; exact k123
    split at h
    · rename_i hg; obtain rfl := Nat.eq_of_beq_eq_true hg; cases h; exact k98
    cases h), (fun _ _ h => (by cases h))⟩) Try.func107 ev107 (by kernel_rfl) (fun _ h => (by cases h)) fun ds h hp => match ds, h, hp with
    | [d0, d1, d2, d3, d4, d5, d6, d7, d8, d9, d10, d11], _, hp => ⟨(by kernel_rfl : owesB (outEnv FE s107 o107 [d0, d1, d2, d3, d4, d5, d6, d7, d8, d9, d10, d11]) o107.owes = (dget (g107 [d0, d1, d2, d3, d4, d5, d6, d7, d8, d9, d10, d11]) 0).toB).trans (hp rfl), nrms_teq (by kernel_rfl) (by kernel_rfl) (by kernel_rfl)⟩
theorem k44 : FnOK Try.prog WI gK 44 s44 g44 :=
  fn_ok (F := FE) wiStable (⟨(fun f s h => by
    simp only [Sigs.get, S44, assoc] at h
    split at h
    · rename_i hg; obtain rfl := Nat.eq_of_beq_eq_true hg; cases h; exact k91
    split at h
    · rename_i hg; obtain rfl := Nat.eq_of_beq_eq_true hg; cases h; exact k92
    split at h
    · rename_i hg; obtain rfl := Nat.eq_of_beq_eq_true hg; cases h; exact k93
    split at h
    · rename_i hg; obtain rfl := Nat.eq_of_beq_eq_true hg; cases h; exact k94
    split at h
    · rename_i hg; obtain rfl := Nat.eq_of_beq_eq_true hg; cases h; exact k96
    split at h
    · rename_i hg; obtain rfl := Nat.eq_of_beq_eq_true hg; cases h; exact k95
    split at h
    · rename_i hg; obtain rfl := Nat.eq_of_beq_eq_true hg; cases h; exact k97
    split at h
    · rename_i hg; obtain rfl := Nat.eq_of_beq_eq_true hg; cases h; exact k98
    cases h), (fun _ _ h => (by cases h))⟩) Try.func44 ev44 (by kernel_rfl) (fun _ h => (by cases h)) fun ds h hp => match ds, h, hp with
    | [d0, d1, d2, d3], _, hp => ⟨(by kernel_rfl : owesB (outEnv FE s44 o44 [d0, d1, d2, d3]) o44.owes = (dget (g44 [d0, d1, d2, d3]) 0).toB).trans (hp rfl), nrms_teq (by kernel_rfl) (by kernel_rfl) (by kernel_rfl)⟩
theorem k46 : FnOK Try.prog WI gK 46 s46 g46 :=
  fn_ok (F := FE) wiStable (⟨(fun f s h => by
    simp only [Sigs.get, S46, assoc] at h
    split at h
    · rename_i hg; obtain rfl := Nat.eq_of_beq_eq_true hg; cases h; exact k91
    split at h
    · rename_i hg; obtain rfl := Nat.eq_of_beq_eq_true hg; cases h; exact k92
    split at h
    · rename_i hg; obtain rfl := Nat.eq_of_beq_eq_true hg; cases h; exact k93
    split at h
    · rename_i hg; obtain rfl := Nat.eq_of_beq_eq_true hg; cases h; exact k94
    split at h
    · rename_i hg; obtain rfl := Nat.eq_of_beq_eq_true hg; cases h; exact k96
    split at h
    · rename_i hg; obtain rfl := Nat.eq_of_beq_eq_true hg; cases h; exact k95
    split at h
    · rename_i hg; obtain rfl := Nat.eq_of_beq_eq_true hg; cases h; exact k102
    split at h
    · rename_i hg; obtain rfl := Nat.eq_of_beq_eq_true hg; cases h; exact k98
    cases h), (fun _ _ h => (by cases h))⟩) Try.func46 ev46 (by kernel_rfl) (fun _ h => (by cases h)) fun ds h hp => match ds, h, hp with
    | [d0, d1, d2, d3], _, hp => ⟨(by kernel_rfl : owesB (outEnv FE s46 o46 [d0, d1, d2, d3]) o46.owes = (dget (g46 [d0, d1, d2, d3]) 0).toB).trans (hp rfl), nrms_teq (by kernel_rfl) (by kernel_rfl) (by kernel_rfl)⟩
theorem hl48_0 : LoopSound FE l48_0 := loop_ok (w := W104800) (c := C104800) (nx := N104800) (out := T104800) [.i, .i, .i, .i] (fun ds => by kernel_rfl) rfl (fun ν xs h => match xs, h with | [x0, x1], _ => by kernel_rfl)
  (fun ν xs h => match xs, h with | [x0, x1], _ => by kernel_rfl)
  (fun ν xs h => match xs, h with | [x0, x1], _ => by kernel_rfl)
  (fun ν xs h => match xs, h with | [x0, x1], _ => by kernel_rfl)
theorem hl48 : ∀ l ∈ o48.loops, LoopSound FE l := show ∀ l ∈ [l48_0], LoopSound FE l from
  List.forall_mem_cons.2 ⟨hl48_0, fun _ h => (by cases h)⟩
theorem k48 : FnOK Try.prog WI gK 48 s48 g48 :=
  fn_ok (F := FE) wiStable (⟨(fun f s h => by
    simp only [Sigs.get, S48, assoc] at h
    split at h
    · rename_i hg; obtain rfl := Nat.eq_of_beq_eq_true hg; cases h; exact k91
    split at h
    · rename_i hg; obtain rfl := Nat.eq_of_beq_eq_true hg; cases h; exact k92
    split at h
    · rename_i hg; obtain rfl := Nat.eq_of_beq_eq_true hg; cases h; exact k93
    split at h
    · rename_i hg; obtain rfl := Nat.eq_of_beq_eq_true hg; cases h; exact k94
    split at h
    · rename_i hg; obtain rfl := Nat.eq_of_beq_eq_true hg; cases h; exact k97
    split at h
    · rename_i hg; obtain rfl := Nat.eq_of_beq_eq_true hg; cases h; exact k98
    cases h), (fun _ _ h => (by cases h))⟩) Try.func48 ev48 (by kernel_rfl) hl48 fun ds h hp => match ds, h, hp with
    | [d0, d1, d2], _, hp => ⟨(by kernel_rfl : owesB (outEnv FE s48 o48 [d0, d1, d2]) o48.owes = (dget (g48 [d0, d1, d2]) 0).toB).trans (hp rfl), nrms_teq (by kernel_rfl) (by kernel_rfl) (by kernel_rfl)⟩
theorem k50 : FnOK Try.prog WI gK 50 s50 g50 :=
  fn_ok (F := FE) wiStable (⟨(fun f s h => by
    simp only [Sigs.get, S50, assoc] at h
    split at h
    · rename_i hg; obtain rfl := Nat.eq_of_beq_eq_true hg; cases h; exact k91
    split at h
    · rename_i hg; obtain rfl := Nat.eq_of_beq_eq_true hg; cases h; exact k92
    split at h
    · rename_i hg; obtain rfl := Nat.eq_of_beq_eq_true hg; cases h; exact k93
    split at h
    · rename_i hg; obtain rfl := Nat.eq_of_beq_eq_true hg; cases h; exact k94
    split at h
    · rename_i hg; obtain rfl := Nat.eq_of_beq_eq_true hg; cases h; exact k96
    split at h
    · rename_i hg; obtain rfl := Nat.eq_of_beq_eq_true hg; cases h; exact k95
    split at h
    · rename_i hg; obtain rfl := Nat.eq_of_beq_eq_true hg; cases h; exact k97
    split at h
    · rename_i hg; obtain rfl := Nat.eq_of_beq_eq_true hg; cases h; exact k106
    split at h
    · rename_i hg; obtain rfl := Nat.eq_of_beq_eq_true hg; cases h; exact k108
    split at h
    · rename_i hg; obtain rfl := Nat.eq_of_beq_eq_true hg; cases h; exact k107
    cases h), (fun _ _ h => (by cases h))⟩) Try.func50 ev50 (by kernel_rfl) (fun _ h => (by cases h)) fun ds h hp => match ds, h, hp with
    | [d0, d1, d2, d3, d4], _, hp => ⟨(by kernel_rfl : owesB (outEnv FE s50 o50 [d0, d1, d2, d3, d4]) o50.owes = (dget (g50 [d0, d1, d2, d3, d4]) 0).toB).trans (hp rfl), nrms_teq (by kernel_rfl) (by kernel_rfl) (by kernel_rfl)⟩
theorem k54 : FnOK Try.prog WI gK 54 s54 g54 :=
  fn_ok (F := FE) wiStable (⟨(fun f s h => by
    simp only [Sigs.get, S54, assoc] at h
    split at h
    · rename_i hg; obtain rfl := Nat.eq_of_beq_eq_true hg; cases h; exact k91
    split at h
    · rename_i hg; obtain rfl := Nat.eq_of_beq_eq_true hg; cases h; exact k92
    split at h
    · rename_i hg; obtain rfl := Nat.eq_of_beq_eq_true hg; cases h; exact k93
    split at h
    · rename_i hg; obtain rfl := Nat.eq_of_beq_eq_true hg; cases h; exact k94
    split at h
    · rename_i hg; obtain rfl := Nat.eq_of_beq_eq_true hg; cases h; exact k96
    split at h
    · rename_i hg; obtain rfl := Nat.eq_of_beq_eq_true hg; cases h; exact k95
    split at h
    · rename_i hg; obtain rfl := Nat.eq_of_beq_eq_true hg; cases h; exact k108
    split at h
    · rename_i hg; obtain rfl := Nat.eq_of_beq_eq_true hg; cases h; exact k107
    cases h), (fun _ _ h => (by cases h))⟩) Try.func54 ev54 (by kernel_rfl) (fun _ h => (by cases h)) fun ds h hp => match ds, h, hp with
    | [d0, d1, d2, d3], _, hp => ⟨(by kernel_rfl : owesB (outEnv FE s54 o54 [d0, d1, d2, d3]) o54.owes = (dget (g54 [d0, d1, d2, d3]) 0).toB).trans (hp rfl), nrms_teq (by kernel_rfl) (by kernel_rfl) (by kernel_rfl)⟩
theorem k59 : FnOK Try.prog WI gK 59 s59 g59 :=
  fn_ok (F := FE) wiStable (⟨(fun f s h => by
    simp only [Sigs.get, S59, assoc] at h
    split at h
    · rename_i hg; obtain rfl := Nat.eq_of_beq_eq_true hg; cases h; exact k91
    split at h
    · rename_i hg; obtain rfl := Nat.eq_of_beq_eq_true hg; cases h; exact k92
    split at h
    · rename_i hg; obtain rfl := Nat.eq_of_beq_eq_true hg; cases h; exact k54
    cases h), (fun _ _ h => (by cases h))⟩) Try.func59 ev59 (by kernel_rfl) (fun _ h => (by cases h)) fun ds h hp => match ds, h, hp with
    | [d0, d1, d2, d3], _, hp => ⟨(by kernel_rfl : owesB (outEnv FE s59 o59 [d0, d1, d2, d3]) o59.owes = (dget (g59 [d0, d1, d2, d3]) 0).toB).trans (hp rfl), nrms_teq (by kernel_rfl) (by kernel_rfl) (by kernel_rfl)⟩
theorem k89 : FnOK Try.prog WI gK 89 s89 g89 :=
  fn_ok (F := FE) wiStable (⟨fun _ _ h => (by cases h), (fun _ _ h => (by cases h))⟩) Try.func89 ev89 (by kernel_rfl) (fun _ h => (by cases h)) fun ds h hp => match ds, h, hp with
    | [d0], _, _ => ⟨by kernel_rfl, nrms_teq (by kernel_rfl) (by kernel_rfl) (by kernel_rfl)⟩
theorem k42 : FnOK Try.prog WI gK 42 s42 g42 :=
  fn_ok (F := FE) wiStable (⟨fun _ _ h => (by cases h), (fun _ _ h => (by cases h))⟩) Try.func42 ev42 (by kernel_rfl) (fun _ h => (by cases h)) fun ds h hp => match ds, h, hp with
    | [d0, d1], _, _ => ⟨by kernel_rfl, nrms_teq (by kernel_rfl) (by kernel_rfl) (by kernel_rfl)⟩
theorem k90 : FnOK Try.prog WI gK 90 s90 g90 :=
  fn_ok (F := FE) wiStable (⟨(fun f s h => by
    simp only [Sigs.get, S90, assoc] at h
    split at h
    · rename_i hg; obtain rfl := Nat.eq_of_beq_eq_true hg; cases h; exact k89
    split at h
    · rename_i hg; obtain rfl := Nat.eq_of_beq_eq_true hg; cases h; exact k42
    cases h), (fun _ _ h => (by cases h))⟩) Try.func90 ev90 (by kernel_rfl) (fun _ h => (by cases h)) fun ds h hp => match ds, h, hp with
    | [d0, d1], _, hp => ⟨(by kernel_rfl : owesB (outEnv FE s90 o90 [d0, d1]) o90.owes = (dget (g90 [d0, d1]) 0).toB).trans (hp rfl), nrms_teq (by kernel_rfl) (by kernel_rfl) (by kernel_rfl)⟩
theorem k39 : FnOK Try.prog WI gK 39 s39 g39 :=
  fn_ok (F := FE) wiStable (⟨(fun f s h => by
    simp only [Sigs.get, S39, assoc] at h
    split at h
    · rename_i hg; obtain rfl := Nat.eq_of_beq_eq_true hg; cases h; exact k89
    split at h
    · rename_i hg; obtain rfl := Nat.eq_of_beq_eq_true hg; cases h; exact k90
    cases h), (fun _ _ h => (by cases h))⟩) Try.func39 ev39 (by kernel_rfl) (fun _ h => (by cases h)) fun ds h hp => match ds, h, hp with
    | [d0, d1], _, hp => ⟨(by kernel_rfl : owesB (outEnv FE s39 o39 [d0, d1]) o39.owes = (dget (g39 [d0, d1]) 0).toB).trans (hp rfl), nrms_teq (by kernel_rfl) (by kernel_rfl) (by kernel_rfl)⟩
theorem k40 : FnOK Try.prog WI gK 40 s40 g40 :=
  fn_ok (F := FE) wiStable (⟨fun _ _ h => (by cases h), (fun _ _ h => (by cases h))⟩) Try.func40 ev40 (by kernel_rfl) (fun _ h => (by cases h)) fun ds h hp => match ds, h, hp with
    | [d0], _, _ => ⟨by kernel_rfl, nrms_teq (by kernel_rfl) (by kernel_rfl) (by kernel_rfl)⟩
theorem k41 : FnOK Try.prog WI gK 41 s41 g41 :=
  fn_ok (F := FE) wiStable (⟨(fun f s h => by
    simp only [Sigs.get, S41, assoc] at h
    split at h
    · rename_i hg; obtain rfl := Nat.eq_of_beq_eq_true hg; cases h; exact k89
    split at h
    · rename_i hg; obtain rfl := Nat.eq_of_beq_eq_true hg; cases h; exact k90
    split at h
    · rename_i hg; obtain rfl := Nat.eq_of_beq_eq_true hg; cases h; exact k39
    cases h), (fun _ _ h => (by cases h))⟩) Try.func41 ev41 (by kernel_rfl) (fun _ h => (by cases h)) fun ds h hp => match ds, h, hp with
    | [d0, d1], _, hp => ⟨(by kernel_rfl : owesB (outEnv FE s41 o41 [d0, d1]) o41.owes = (dget (g41 [d0, d1]) 0).toB).trans (hp rfl), nrms_teq (by kernel_rfl) (by kernel_rfl) (by kernel_rfl)⟩
theorem k56 : FnOK Try.prog WI gK 56 s56 g56 :=
  fn_ok (F := FE) wiStable (⟨(fun f s h => by
    simp only [Sigs.get, S56, assoc] at h
    split at h
    · rename_i hg; obtain rfl := Nat.eq_of_beq_eq_true hg; cases h; exact k89
    split at h
    · rename_i hg; obtain rfl := Nat.eq_of_beq_eq_true hg; cases h; exact k90
    cases h), (fun _ _ h => (by cases h))⟩) Try.func56 ev56 (by kernel_rfl) (fun _ h => (by cases h)) fun ds h hp => match ds, h, hp with
    | [d0, d1], _, hp => ⟨(by kernel_rfl : owesB (outEnv FE s56 o56 [d0, d1]) o56.owes = (dget (g56 [d0, d1]) 0).toB).trans (hp rfl), nrms_teq (by kernel_rfl) (by kernel_rfl) (by kernel_rfl)⟩
theorem k61 : FnOK Try.prog WI gK 61 s61 g61 :=
  fn_ok (F := FE) wiStable (⟨(fun f s h => by
    simp only [Sigs.get, S61, assoc] at h
    split at h
    · rename_i hg; obtain rfl := Nat.eq_of_beq_eq_true hg; cases h; exact k90
    cases h), (fun _ _ h => (by cases h))⟩) Try.func61 ev61 (by kernel_rfl) (fun _ h => (by cases h)) fun ds h hp => match ds, h, hp with
    | [d0, d1], _, hp => ⟨(by kernel_rfl : owesB (outEnv FE s61 o61 [d0, d1]) o61.owes = (dget (g61 [d0, d1]) 0).toB).trans (hp rfl), nrms_teq (by kernel_rfl) (by kernel_rfl) (by kernel_rfl)⟩
theorem k74 : FnOK Try.prog WI gK 74 s74 g74 :=
  fn_ok (F := FE) wiStable (⟨(fun f s h => by
    simp only [Sigs.get, S74, assoc] at h
    split at h
    · rename_i hg; obtain rfl := Nat.eq_of_beq_eq_true hg; cases h; exact k90
    cases h), (fun _ _ h => (by cases h))⟩) Try.func74 ev74 (by kernel_rfl) (fun _ h => (by cases h)) fun ds h hp => match ds, h, hp with
    | [d0, d1], _, hp => ⟨(by kernel_rfl : owesB (outEnv FE s74 o74 [d0, d1]) o74.owes = (dget (g74 [d0, d1]) 0).toB).trans (hp rfl), nrms_teq (by kernel_rfl) (by kernel_rfl) (by kernel_rfl)⟩
theorem k85 : FnOK Try.prog WI gK 85 s85 g85 :=
  fn_ok (F := FE) wiStable (⟨fun _ _ h => (by cases h), (fun _ _ h => (by cases h))⟩) Try.func85 ev85 (by kernel_rfl) (fun _ h => (by cases h)) fun ds h hp => match ds, h, hp with
    | [d0, d1], _, hp => ⟨(by kernel_rfl : owesB (outEnv FE s85 o85 [d0, d1]) o85.owes = (dget (g85 [d0, d1]) 0).toB).trans (hp rfl), nrms_teq (by kernel_rfl) (by kernel_rfl) (by kernel_rfl)⟩
theorem k84 : FnOK Try.prog WI gK 84 s84 g84 :=
  fn_ok (F := FE) wiStable (⟨(fun f s h => by
    simp only [Sigs.get, S84, assoc] at h
    split at h
    · rename_i hg; obtain rfl := Nat.eq_of_beq_eq_true hg; cases h; exact k89
    split at h
    · rename_i hg; obtain rfl := Nat.eq_of_beq_eq_true hg; cases h; exact k85
    cases h), (fun _ _ h => (by cases h))⟩) Try.func84 ev84 (by kernel_rfl) (fun _ h => (by cases h)) fun ds h hp => match ds, h, hp with
    | [d0, d1], _, hp => ⟨(by kernel_rfl : owesB (outEnv FE s84 o84 [d0, d1]) o84.owes = (dget (g84 [d0, d1]) 0).toB).trans (hp rfl), nrms_teq (by kernel_rfl) (by kernel_rfl) (by kernel_rfl)⟩
theorem k119 : FnOK Try.prog WI gK 119 s119 g119 :=
  fn_ok (F := FE) wiStable (⟨(fun f s h => by
    simp only [Sigs.get, S119, assoc] at h
    split at h
    · rename_i hg; obtain rfl := Nat.eq_of_beq_eq_true hg; cases h; exact k84
    cases h), (fun _ _ h => (by cases h))⟩) Try.func119 ev119 (by kernel_rfl) (fun _ h => (by cases h)) fun ds h hp => match ds, h, hp with
    | [d0, d1], _, hp => ⟨(by kernel_rfl : owesB (outEnv FE s119 o119 [d0, d1]) o119.owes = (dget (g119 [d0, d1]) 0).toB).trans (hp rfl), nrms_teq (by kernel_rfl) (by kernel_rfl) (by kernel_rfl)⟩
theorem k126 : FnOK Try.prog WI gK 126 s126 g126 :=
  fn_ok (F := FE) wiStable (⟨fun _ _ h => (by cases h), (fun _ _ h => (by cases h))⟩) Try.func126 ev126 (by kernel_rfl) (fun _ h => (by cases h)) fun ds h hp => match ds, h, hp with
    | [d0, d1, d2, d3, d4], _, _ => ⟨by kernel_rfl, nrms_teq (by kernel_rfl) (by kernel_rfl) (by kernel_rfl)⟩
theorem hl116_0 : LoopSound FE l116_0 := loop_ok (w := W111600) (c := C111600) (nx := N111600) (out := T111600) [.l, .i] (fun ds => by kernel_rfl) rfl (fun ν xs h => match xs, h with | [x0], _ => by kernel_rfl)
  (fun ν xs h => match xs, h with | [x0], _ => by kernel_rfl)
  (fun ν xs h => match xs, h with | [x0], _ => by kernel_rfl)
  (fun ν xs h => match xs, h with | [x0], _ => by kernel_rfl)
theorem hl116 : ∀ l ∈ o116.loops, LoopSound FE l := show ∀ l ∈ [l116_0], LoopSound FE l from
  List.forall_mem_cons.2 ⟨hl116_0, fun _ h => (by cases h)⟩
theorem k116 : FnOK Try.prog WI gK 116 s116 g116 :=
  fn_ok (F := FE) wiStable (⟨fun _ _ h => (by cases h), (fun _ _ h => (by cases h))⟩) Try.func116 ev116 (by kernel_rfl) hl116 fun ds h hp => match ds, h, hp with
    | [d0], _, hp => ⟨(by kernel_rfl : owesB (outEnv FE s116 o116 [d0]) o116.owes = (dget (g116 [d0]) 0).toB).trans (hp rfl), nrms_teq (by kernel_rfl) (by kernel_rfl) (by kernel_rfl)⟩
theorem k80 : FnOK Try.prog WI gK 80 s80 g80 :=
  fn_ok (F := FE) wiStable (⟨(fun f s h => by
    simp only [Sigs.get, S80, assoc] at h
    split at h
    · rename_i hg; obtain rfl := Nat.eq_of_beq_eq_true hg; cases h; exact k116
    cases h), (fun _ _ h => (by cases h))⟩) Try.func80 ev80 (by kernel_rfl) (fun _ h => (by cases h)) fun ds h hp => match ds, h, hp with
    | [d0], _, hp => ⟨(by kernel_rfl : owesB (outEnv FE s80 o80 [d0]) o80.owes = (dget (g80 [d0]) 0).toB).trans (hp rfl), nrms_teq (by kernel_rfl) (by kernel_rfl) (by kernel_rfl)⟩
theorem hl114_0 : LoopSound FE l114_0 := loop_ok (w := W111400) (c := C111400) (nx := N111400) (out := T111400) [.l, .l, .l, .i, .i, .l] (fun ds => by kernel_rfl) rfl (fun ν xs h => match xs, h with | [x0, x1, x2, x3], _ => by kernel_rfl)
  (fun ν xs h => match xs, h with | [x0, x1, x2, x3], _ => by kernel_rfl)
  (fun ν xs h => match xs, h with | [x0, x1, x2, x3], _ => by kernel_rfl)
  (fun ν xs h => match xs, h with | [x0, x1, x2, x3], _ => by kernel_rfl)
theorem hl114 : ∀ l ∈ o114.loops, LoopSound FE l := show ∀ l ∈ [l114_0], LoopSound FE l from
  List.forall_mem_cons.2 ⟨hl114_0, fun _ h => (by cases h)⟩
theorem k114 : FnOK Try.prog WI gK 114 s114 g114 :=
  fn_ok (F := FE) wiStable (⟨(fun f s h => by
    simp only [Sigs.get, S114, assoc] at h
    split at h
    · rename_i hg; obtain rfl := Nat.eq_of_beq_eq_true hg; cases h; exact k116
    cases h), (fun _ _ h => (by cases h))⟩) Try.func114 ev114 (by kernel_rfl) hl114 fun ds h hp => match ds, h, hp with
    | [d0, d1], _, hp => ⟨(by kernel_rfl : owesB (outEnv FE s114 o114 [d0, d1]) o114.owes = (dget (g114 [d0, d1]) 0).toB).trans (hp rfl), nrms_teq (by kernel_rfl) (by kernel_rfl) (by kernel_rfl)⟩
theorem hl77_0 : LoopSound FE l77_0 := loop_ok (w := W107700) (c := C107700) (nx := N107700) (out := T107700) [.l, .l, .b, .i] (fun ds => by kernel_rfl) rfl (fun ν xs h => match xs, h with | [x0, x1], _ => by kernel_rfl)
  (fun ν xs h => match xs, h with | [x0, x1], _ => by kernel_rfl)
  (fun ν xs h => match xs, h with | [x0, x1], _ => by kernel_rfl)
  (fun ν xs h => match xs, h with | [x0, x1], _ => by kernel_rfl)
theorem hl77 : ∀ l ∈ o77.loops, LoopSound FE l := show ∀ l ∈ [l77_0], LoopSound FE l from
  List.forall_mem_cons.2 ⟨hl77_0, fun _ h => (by cases h)⟩
theorem k77 : FnOK Try.prog WI gK 77 s77 g77 :=
  fn_ok (F := FE) wiStable (⟨fun _ _ h => (by cases h), (fun _ _ h => (by cases h))⟩) Try.func77 ev77 (by kernel_rfl) hl77 fun ds h hp => match ds, h, hp with
    | [d0, d1], _, hp => ⟨(by kernel_rfl : owesB (outEnv FE s77 o77 [d0, d1]) o77.owes = (dget (g77 [d0, d1]) 0).toB).trans (hp rfl), nrms_teq (by kernel_rfl) (by kernel_rfl) (by kernel_rfl)⟩
theorem hl110_0 : LoopSound FE l110_0 := loop_ok (w := W111000) (c := C111000) (nx := N111000) (out := T111000) [.l, .l, .l, .i, .i, .l] (fun ds => by kernel_rfl) rfl (fun ν xs h => match xs, h with | [x0, x1, x2, x3], _ => by kernel_rfl)
  (fun ν xs h => match xs, h with | [x0, x1, x2, x3], _ => by kernel_rfl)
  (fun ν xs h => match xs, h with | [x0, x1, x2, x3], _ => by kernel_rfl)
  (fun ν xs h => match xs, h with | [x0, x1, x2, x3], _ => by kernel_rfl)
theorem hl110 : ∀ l ∈ o110.loops, LoopSound FE l := show ∀ l ∈ [l110_0], LoopSound FE l from
  List.forall_mem_cons.2 ⟨hl110_0, fun _ h => (by cases h)⟩
theorem k110 : FnOK Try.prog WI gK 110 s110 g110 :=
  fn_ok (F := FE) wiStable (⟨(fun f s h => by
    simp only [Sigs.get, S110, assoc] at h
    split at h
    · rename_i hg; obtain rfl := Nat.eq_of_beq_eq_true hg; cases h; exact k116
    cases h), (fun _ _ h => (by cases h))⟩) Try.func110 ev110 (by kernel_rfl) hl110 fun ds h hp => match ds, h, hp with
    | [d0, d1], _, hp => ⟨(by kernel_rfl : owesB (outEnv FE s110 o110 [d0, d1]) o110.owes = (dget (g110 [d0, d1]) 0).toB).trans (hp rfl), nrms_teq (by kernel_rfl) (by kernel_rfl) (by kernel_rfl)⟩
theorem hl104_0 : LoopSound FE l104_0 := loop_ok (w := W110400) (c := C110400) (nx := N110400) (out := T110400) [.i, .l, .l, .i, .i, .l] (fun ds => by kernel_rfl) rfl (fun ν xs h => match xs, h with | [x0, x1, x2, x3], _ => by kernel_rfl)
  (fun ν xs h => match xs, h with | [x0, x1, x2, x3], _ => by kernel_rfl)
  (fun ν xs h => match xs, h with | [x0, x1, x2, x3], _ => by kernel_rfl)
  (fun ν xs h => match xs, h with | [x0, x1, x2, x3], _ => by kernel_rfl)
theorem hl104 : ∀ l ∈ o104.loops, LoopSound FE l := show ∀ l ∈ [l104_0], LoopSound FE l from
  List.forall_mem_cons.2 ⟨hl104_0, fun _ h => (by cases h)⟩
theorem k104 : FnOK Try.prog WI gK 104 s104 g104 :=
  fn_ok (F := FE) wiStable (⟨(fun f s h => by
    simp only [Sigs.get, S104, assoc] at h
    split at h
    · rename_i hg; obtain rfl := Nat.eq_of_beq_eq_true hg; cases h; exact k116
    cases h), (fun _ _ h => (by cases h))⟩) Try.func104 ev104 (by kernel_rfl) hl104 fun ds h hp => match ds, h, hp with
    | [d0, d1], _, hp => ⟨(by kernel_rfl : owesB (outEnv FE s104 o104 [d0, d1]) o104.owes = (dget (g104 [d0, d1]) 0).toB).trans (hp rfl), nrms_teq (by kernel_rfl) (by kernel_rfl) (by kernel_rfl)⟩
theorem k113 : FnOK Try.prog WI gK 113 s113 g113 :=
  fn_ok (F := FE) wiStable (⟨fun _ _ h => (by cases h), (fun _ _ h => (by cases h))⟩) Try.func113 ev113 (by kernel_rfl) (fun _ h => (by cases h)) fun ds h hp => match ds, h, hp with
    | [d0, d1], _, hp => ⟨(by kernel_rfl : owesB (outEnv FE s113 o113 [d0, d1]) o113.owes = (dget (g113 [d0, d1]) 0).toB).trans (hp rfl), nrms_teq (by kernel_rfl) (by kernel_rfl) (by kernel_rfl)⟩
theorem hl117_0 : LoopSound FE l117_0 := loop_ok (w := W111700) (c := C111700) (nx := N111700) (out := T111700) [.l, .i] (fun ds => by kernel_rfl) rfl (fun ν xs h => match xs, h with | [x0], _ => by kernel_rfl)
  (fun ν xs h => match xs, h with | [x0], _ => by kernel_rfl)
  (fun ν xs h => match xs, h with | [x0], _ => by kernel_rfl)
  (fun ν xs h => match xs, h with | [x0], _ => by kernel_rfl)
theorem hl117 : ∀ l ∈ o117.loops, LoopSound FE l := show ∀ l ∈ [l117_0], LoopSound FE l from
  List.forall_mem_cons.2 ⟨hl117_0, fun _ h => (by cases h)⟩
theorem k117 : FnOK Try.prog WI gK 117 s117 g117 :=
  fn_ok (F := FE) wiStable (⟨(fun f s h => by
    simp only [Sigs.get, S117, assoc] at h
    split at h
    · rename_i hg; obtain rfl := Nat.eq_of_beq_eq_true hg; cases h; exact k113
    cases h), (fun _ _ h => (by cases h))⟩) Try.func117 ev117 (by kernel_rfl) hl117 fun ds h hp => match ds, h, hp with
    | [d0], _, hp => ⟨(by kernel_rfl : owesB (outEnv FE s117 o117 [d0]) o117.owes = (dget (g117 [d0]) 0).toB).trans (hp rfl), nrms_teq (by kernel_rfl) (by kernel_rfl) (by kernel_rfl)⟩
theorem hl112_0 : LoopSound FE l112_0 := loop_ok (w := W111200) (c := C111200) (nx := N111200) (out := T111200) [.i, .l, .b, .i] (fun ds => by kernel_rfl) rfl (fun ν xs h => match xs, h with | [x0, x1], _ => by kernel_rfl)
  (fun ν xs h => match xs, h with | [x0, x1], _ => by kernel_rfl)
  (fun ν xs h => match xs, h with | [x0, x1], _ => by kernel_rfl)
  (fun ν xs h => match xs, h with | [x0, x1], _ => by kernel_rfl)
theorem hl112_1 : LoopSound FE l112_1 := loop_ok (w := W111202) (c := C111202) (nx := N111202) (out := T111202) [.i, .l, .l, .i, .l] (fun ds => by kernel_rfl) rfl (fun ν xs h => match xs, h with | [x0, x1, x2], _ => by kernel_rfl)
  (fun ν xs h => match xs, h with | [x0, x1, x2], _ => by kernel_rfl)
  (fun ν xs h => match xs, h with | [x0, x1, x2], _ => by kernel_rfl)
  (fun ν xs h => match xs, h with | [x0, x1, x2], _ => by kernel_rfl)
theorem hl112 : ∀ l ∈ o112.loops, LoopSound FE l := show ∀ l ∈ [l112_0, l112_1], LoopSound FE l from
  List.forall_mem_cons.2 ⟨hl112_0, List.forall_mem_cons.2 ⟨hl112_1, fun _ h => (by cases h)⟩⟩
theorem k112 : FnOK Try.prog WI gK 112 s112 g112 :=
  fn_ok (F := FE) wiStable (⟨(fun f s h => by
    simp only [Sigs.get, S112, assoc] at h
    split at h
    · rename_i hg; obtain rfl := Nat.eq_of_beq_eq_true hg; cases h; exact k116
    split at h
    · rename_i hg; obtain rfl := Nat.eq_of_beq_eq_true hg; cases h; exact k113
    cases h), (fun _ _ h => (by cases h))⟩) Try.func112 ev112 (by kernel_rfl) hl112 fun ds h hp => match ds, h, hp with
    | [d0, d1], _, hp => ⟨(by kernel_rfl : owesB (outEnv FE s112 o112 [d0, d1]) o112.owes = (dget (g112 [d0, d1]) 0).toB).trans (hp rfl), nrms_teq (by kernel_rfl) (by kernel_rfl) (by kernel_rfl)⟩
theorem hl111_0 : LoopSound FE l111_0 := loop_ok (w := W111100) (c := C111100) (nx := N111100) (out := T111100) [.l, .i, .i] (fun ds => by kernel_rfl) rfl (fun ν xs h => match xs, h with | [x0, x1], _ => by kernel_rfl)
  (fun ν xs h => match xs, h with | [x0, x1], _ => by kernel_rfl)
  (fun ν xs h => match xs, h with | [x0, x1], _ => by kernel_rfl)
  (fun ν xs h => match xs, h with | [x0, x1], _ => by kernel_rfl)
theorem hl111 : ∀ l ∈ o111.loops, LoopSound FE l := show ∀ l ∈ [l111_0], LoopSound FE l from
  List.forall_mem_cons.2 ⟨hl111_0, fun _ h => (by cases h)⟩
theorem k111 : FnOK Try.prog WI gK 111 s111 g111 :=
  fn_ok (F := FE) wiStable (⟨fun _ _ h => (by cases h), (fun _ _ h => (by cases h))⟩) Try.func111 ev111 (by kernel_rfl) hl111 fun ds h hp => match ds, h, hp with
    | [d0], _, hp => ⟨(by kernel_rfl : owesB (outEnv FE s111 o111 [d0]) o111.owes = (dget (g111 [d0]) 0).toB).trans (hp rfl), nrms_teq (by kernel_rfl) (by kernel_rfl) (by kernel_rfl)⟩
theorem k76 : FnOK Try.prog WI gK 76 s76 g76 :=
  fn_ok (F := FE) wiStable (⟨(fun f s h => by
    simp only [Sigs.get, S76, assoc] at h
    split at h
    · rename_i hg; obtain rfl := Nat.eq_of_beq_eq_true hg; cases h; exact k89
    split at h
    · rename_i hg; obtain rfl := Nat.eq_of_beq_eq_true hg; cases h; exact k90
    split at h
    · rename_i hg; obtain rfl := Nat.eq_of_beq_eq_true hg; cases h; exact k80
    cases h), (fun _ _ h => (by cases h))⟩) Try.func76 ev76 (by kernel_rfl) (fun _ h => (by cases h)) fun ds h hp => match ds, h, hp with
    | [d0, d1], _, hp => ⟨(by kernel_rfl : owesB (outEnv FE s76 o76 [d0, d1]) o76.owes = (dget (g76 [d0, d1]) 0).toB).trans (hp rfl), nrms_teq (by kernel_rfl) (by kernel_rfl) (by kernel_rfl)⟩
theorem k118 : FnOK Try.prog WI gK 118 s118 g118 :=
  fn_ok (F := FE) wiStable (⟨(fun f s h => by
    simp only [Sigs.get, S118, assoc] at h
    split at h
    · rename_i hg; obtain rfl := Nat.eq_of_beq_eq_true hg; cases h; exact k104
    split at h
    · rename_i hg; obtain rfl := Nat.eq_of_beq_eq_true hg; cases h; exact k112
    split at h
    · rename_i hg; obtain rfl := Nat.eq_of_beq_eq_true hg; cases h; exact k113
    split at h
    · rename_i hg; obtain rfl := Nat.eq_of_beq_eq_true hg; cases h; exact k126
    split at h
    · rename_i hg; obtain rfl := Nat.eq_of_beq_eq_true hg; cases h; exact k114
    cases h), (fun _ _ h => (by cases h))⟩) Try.func118 ev118 (by kernel_rfl) (fun _ h => (by cases h)) fun ds h hp => match ds, h, hp with
    | [d0, d1, d2, d3, d4], _, hp => ⟨(by kernel_rfl : owesB (outEnv FE s118 o118 [d0, d1, d2, d3, d4]) o118.owes = (dget (g118 [d0, d1, d2, d3, d4]) 0).toB).trans (hp rfl), nrms_teq (by kernel_rfl) (by kernel_rfl) (by kernel_rfl)⟩
theorem k81 : FnOK Try.prog WI gK 81 s81 g81 :=
  fn_ok (F := FE) wiStable (⟨(fun f s h => by
    simp only [Sigs.get, S81, assoc] at h
    split at h
    · rename_i hg; obtain rfl := Nat.eq_of_beq_eq_true hg; cases h; exact k89
    split at h
    · rename_i hg; obtain rfl := Nat.eq_of_beq_eq_true hg; cases h; exact k117
    split at h
    · rename_i hg; obtain rfl := Nat.eq_of_beq_eq_true hg; cases h; exact k118
    split at h
    · rename_i hg; obtain rfl := Nat.eq_of_beq_eq_true hg; cases h; exact k112
    split at h
    · rename_i hg; obtain rfl := Nat.eq_of_beq_eq_true hg; cases h; exact k119
    split at h
    · rename_i hg; obtain rfl := Nat.eq_of_beq_eq_true hg; cases h; exact k84
    split at h
    · rename_i hg; obtain rfl := Nat.eq_of_beq_eq_true hg; cases h; exact k111
    split at h
    · rename_i hg; obtain rfl := Nat.eq_of_beq_eq_true hg; cases h; exact k85
    cases h), (fun _ _ h => (by cases h))⟩) Try.func81 ev81 (by kernel_rfl) (fun _ h => (by cases h)) fun ds h hp => match ds, h, hp with
    | [d0, d1, d2, d3, d4, d5], _, hp => ⟨(by kernel_rfl : owesB (outEnv FE s81 o81 [d0, d1, d2, d3, d4, d5]) o81.owes = (dget (g81 [d0, d1, d2, d3, d4, d5]) 0).toB).trans (hp rfl), nrms_teq (by kernel_rfl) (by kernel_rfl) (by kernel_rfl)⟩
theorem k99 : FnOK Try.prog WI gK 99 s99 g99 :=
  fn_ok (F := FE) wiStable (⟨fun _ _ h => (by cases h), (fun _ _ h => (by cases h))⟩) Try.func99 ev99 (by kernel_rfl) (fun _ h => (by cases h)) fun ds h hp => match ds, h, hp with
    | [d0, d1], _, _ => ⟨by kernel_rfl, nrms_teq (by kernel_rfl) (by kernel_rfl) (by kernel_rfl)⟩
theorem hl100_0 : LoopSound FE l100_0 := loop_ok (w := W110000) (c := C110000) (nx := N110000) (out := T110000) [.l, .i, .b, .b, .i] (fun ds => by kernel_rfl) rfl (fun ν xs h => match xs, h with | [x0, x1, x2], _ => by kernel_rfl)
  (fun ν xs h => match xs, h with | [x0, x1, x2], _ => by kernel_rfl)
  (fun ν xs h => match xs, h with | [x0, x1, x2], _ => by kernel_rfl)
  (fun ν xs h => match xs, h with | [x0, x1, x2], _ => by kernel_rfl)
theorem hl100 : ∀ l ∈ o100.loops, LoopSound FE l := show ∀ l ∈ [l100_0], LoopSound FE l from
  List.forall_mem_cons.2 ⟨hl100_0, fun _ h => (by cases h)⟩
theorem k100 : FnOK Try.prog WI gK 100 s100 g100 :=
  fn_ok (F := FE) wiStable (⟨(fun f s h => by
    simp only [Sigs.get, S100, assoc] at h
    split at h
    · rename_i hg; obtain rfl := Nat.eq_of_beq_eq_true hg; cases h; exact k40
    split at h
    · rename_i hg; obtain rfl := Nat.eq_of_beq_eq_true hg; cases h; exact k39
    split at h
    · rename_i hg; obtain rfl := Nat.eq_of_beq_eq_true hg; cases h; exact k41
    cases h), (fun _ _ h => (by cases h))⟩) Try.func100 ev100 (by kernel_rfl) hl100 fun ds h hp => match ds, h, hp with
    | [d0, d1, d2], _, hp => ⟨(by kernel_rfl : owesB (outEnv FE s100 o100 [d0, d1, d2]) o100.owes = (dget (g100 [d0, d1, d2]) 0).toB).trans (hp rfl), nrms_teq (by kernel_rfl) (by kernel_rfl) (by kernel_rfl)⟩
theorem hl101_0 : LoopSound FE l101_0 := loop_ok (w := W110102) (c := C110102) (nx := N110102) (out := T110102) [.l, .l, .i, .i, .i, .l] (fun ds => by kernel_rfl) rfl (fun ν xs h => match xs, h with | [x0, x1, x2], _ => by kernel_rfl)
  (fun ν xs h => match xs, h with | [x0, x1, x2], _ => by kernel_rfl)
  (fun ν xs h => match xs, h with | [x0, x1, x2], _ => by kernel_rfl)
  (fun ν xs h => match xs, h with | [x0, x1, x2], _ => by kernel_rfl)
theorem hl101_1 : LoopSound FE l101_1 := loop_ok (w := W110100) (c := C110100) (nx := N110100) (out := T110100) [.l, .l, .i, .l] (fun ds => by kernel_rfl) rfl (fun ν xs h => match xs, h with | [x0, x1], _ => by kernel_rfl)
  (fun ν xs h => match xs, h with | [x0, x1], _ => by kernel_rfl)
  (fun ν xs h => match xs, h with | [x0, x1], _ => by kernel_rfl)
  (fun ν xs h => match xs, h with | [x0, x1], _ => by kernel_rfl)
theorem hl101 : ∀ l ∈ o101.loops, LoopSound FE l := show ∀ l ∈ [l101_0, l101_1], LoopSound FE l from
  List.forall_mem_cons.2 ⟨hl101_0, List.forall_mem_cons.2 ⟨hl101_1, fun _ h => (by cases h)⟩⟩
theorem k101 : FnOK Try.prog WI gK 101 s101 g101 :=
  fn_ok (F := FE) wiStable (⟨(fun f s h => by
    simp only [Sigs.get, S101, assoc] at h
    split at h
    · rename_i hg; obtain rfl := Nat.eq_of_beq_eq_true hg; cases h; exact k116
    cases h), (fun _ _ h => (by cases h))⟩) Try.func101 ev101 (by kernel_rfl) hl101 fun ds h hp => match ds, h, hp with
    | [d0, d1], _, hp => ⟨(by kernel_rfl : owesB (outEnv FE s101 o101 [d0, d1]) o101.owes = (dget (g101 [d0, d1]) 0).toB).trans (hp rfl), nrms_teq (by kernel_rfl) (by kernel_rfl) (by kernel_rfl)⟩
theorem hl103_0 : LoopSound FE l103_0 := loop_ok (w := W110300) (c := C110300) (nx := N110300) (out := T110300) [.l, .l, .l, .l, .i, .l, .l] (fun ds => by kernel_rfl) rfl (fun ν xs h => match xs, h with | [x0, x1, x2, x3, x4], _ => by kernel_rfl)
  (fun ν xs h => match xs, h with | [x0, x1, x2, x3, x4], _ => by kernel_rfl)
  (fun ν xs h => match xs, h with | [x0, x1, x2, x3, x4], _ => by kernel_rfl)
  (fun ν xs h => match xs, h with | [x0, x1, x2, x3, x4], _ => by kernel_rfl)
theorem hl103 : ∀ l ∈ o103.loops, LoopSound FE l := show ∀ l ∈ [l103_0], LoopSound FE l from
  List.forall_mem_cons.2 ⟨hl103_0, fun _ h => (by cases h)⟩
theorem k103 : FnOK Try.prog WI gK 103 s103 g103 :=
  fn_ok (F := FE) wiStable (⟨(fun f s h => by
    simp only [Sigs.get, S103, assoc] at h
    split at h
    · rename_i hg; obtain rfl := Nat.eq_of_beq_eq_true hg; cases h; exact k117
    split at h
    · rename_i hg; obtain rfl := Nat.eq_of_beq_eq_true hg; cases h; exact k104
    split at h
    · rename_i hg; obtain rfl := Nat.eq_of_beq_eq_true hg; cases h; exact k113
    split at h
    · rename_i hg; obtain rfl := Nat.eq_of_beq_eq_true hg; cases h; exact k114
    split at h
    · rename_i hg; obtain rfl := Nat.eq_of_beq_eq_true hg; cases h; exact k77
    split at h
    · rename_i hg; obtain rfl := Nat.eq_of_beq_eq_true hg; cases h; exact k110
    cases h), (fun _ _ h => (by cases h))⟩) Try.func103 ev103 (by kernel_rfl) hl103 fun ds h hp => match ds, h, hp with
    | [d0, d1], _, hp => ⟨(by kernel_rfl : owesB (outEnv FE s103 o103 [d0, d1]) o103.owes = (dget (g103 [d0, d1]) 0).toB).trans (hp rfl), nrms_teq (by kernel_rfl) (by kernel_rfl) (by kernel_rfl)⟩
theorem hl105_0 : LoopSound FE l105_0 := loop_ok (w := W110500) (c := C110500) (nx := N110500) (out := T110500) [.l, .l, .i, .l] (fun ds => by kernel_rfl) rfl (fun ν xs h => match xs, h with | [x0, x1, x2], _ => by kernel_rfl)
  (fun ν xs h => match xs, h with | [x0, x1, x2], _ => by kernel_rfl)
  (fun ν xs h => match xs, h with | [x0, x1, x2], _ => by kernel_rfl)
  (fun ν xs h => match xs, h with | [x0, x1, x2], _ => by kernel_rfl)
theorem hl105 : ∀ l ∈ o105.loops, LoopSound FE l := show ∀ l ∈ [l105_0], LoopSound FE l from
  List.forall_mem_cons.2 ⟨hl105_0, fun _ h => (by cases h)⟩
theorem k105 : FnOK Try.prog WI gK 105 s105 g105 :=
  fn_ok (F := FE) wiStable (⟨(fun f s h => by
    simp only [Sigs.get, S105, assoc] at h
    split at h
    · rename_i hg; obtain rfl := Nat.eq_of_beq_eq_true hg; cases h; exact k117
    split at h
    · rename_i hg; obtain rfl := Nat.eq_of_beq_eq_true hg; cases h; exact k101
    split at h
    · rename_i hg; obtain rfl := Nat.eq_of_beq_eq_true hg; cases h; exact k77
    split at h
    · rename_i hg; obtain rfl := Nat.eq_of_beq_eq_true hg; cases h; exact k104
    split at h
    · rename_i hg; obtain rfl := Nat.eq_of_beq_eq_true hg; cases h; exact k114
    cases h), (fun _ _ h => (by cases h))⟩) Try.func105 ev105 (by kernel_rfl) hl105 fun ds h hp => match ds, h, hp with
    | [d0], _, hp => ⟨(by kernel_rfl : owesB (outEnv FE s105 o105 [d0]) o105.owes = (dget (g105 [d0]) 0).toB).trans (hp rfl), nrms_teq (by kernel_rfl) (by kernel_rfl) (by kernel_rfl)⟩
theorem k109 : FnOK Try.prog WI gK 109 s109 g109 :=
  fn_ok (F := FE) wiStable (⟨(fun f s h => by
    simp only [Sigs.get, S109, assoc] at h
    split at h
    · rename_i hg; obtain rfl := Nat.eq_of_beq_eq_true hg; cases h; exact k104
    split at h
    · rename_i hg; obtain rfl := Nat.eq_of_beq_eq_true hg; cases h; exact k114
    split at h
    · rename_i hg; obtain rfl := Nat.eq_of_beq_eq_true hg; cases h; exact k77
    split at h
    · rename_i hg; obtain rfl := Nat.eq_of_beq_eq_true hg; cases h; exact k110
    split at h
    · rename_i hg; obtain rfl := Nat.eq_of_beq_eq_true hg; cases h; exact k85
    split at h
    · rename_i hg; obtain rfl := Nat.eq_of_beq_eq_true hg; cases h; exact k81
    cases h), (fun _ _ h => (by cases h))⟩) Try.func109 ev109 (by kernel_rfl) (fun _ h => (by cases h)) fun ds h hp => match ds, h, hp with
    | [d0, d1, d2, d3, d4, d5, d6, d7], _, hp => ⟨(by kernel_rfl : owesB (outEnv FE s109 o109 [d0, d1, d2, d3, d4, d5, d6, d7]) o109.owes = (dget (g109 [d0, d1, d2, d3, d4, d5, d6, d7]) 0).toB).trans (hp rfl), nrms_teq (by kernel_rfl) (by kernel_rfl) (by kernel_rfl)⟩
theorem k45 : FnOK Try.prog WI gK 45 s45 g45 :=
  fn_ok (F := FE) wiStable (⟨(fun f s h => by
    simp only [Sigs.get, S45, assoc] at h
    split at h
    · rename_i hg; obtain rfl := Nat.eq_of_beq_eq_true hg; cases h; exact k99
    split at h
    · rename_i hg; obtain rfl := Nat.eq_of_beq_eq_true hg; cases h; exact k74
    split at h
    · rename_i hg; obtain rfl := Nat.eq_of_beq_eq_true hg; cases h; exact k56
    split at h
    · rename_i hg; obtain rfl := Nat.eq_of_beq_eq_true hg; cases h; exact k61
    split at h
    · rename_i hg; obtain rfl := Nat.eq_of_beq_eq_true hg; cases h; exact k100
    split at h
    · rename_i hg; obtain rfl := Nat.eq_of_beq_eq_true hg; cases h; exact k84
    split at h
    · rename_i hg; obtain rfl := Nat.eq_of_beq_eq_true hg; cases h; exact k85
    split at h
    · rename_i hg; obtain rfl := Nat.eq_of_beq_eq_true hg; cases h; exact k76
    split at h
    · rename_i hg; obtain rfl := Nat.eq_of_beq_eq_true hg; cases h; exact k101
    split at h
    · rename_i hg; obtain rfl := Nat.eq_of_beq_eq_true hg; cases h; exact k81
    cases h), (fun _ _ h => (by cases h))⟩) Try.func45 ev45 (by kernel_rfl) (fun _ h => (by cases h)) fun ds h hp => match ds, h, hp with
    | [d0, d1, d2, d3], _, hp => ⟨(by kernel_rfl : owesB (outEnv FE s45 o45 [d0, d1, d2, d3]) o45.owes = (dget (g45 [d0, d1, d2, d3]) 0).toB).trans (hp rfl), nrms_teq (by kernel_rfl) (by kernel_rfl) (by kernel_rfl)⟩
theorem k47 : FnOK Try.prog WI gK 47 s47 g47 :=
  fn_ok (F := FE) wiStable (⟨(fun f s h => by
    simp only [Sigs.get, S47, assoc] at h
    split at h
    · rename_i hg; obtain rfl := Nat.eq_of_beq_eq_true hg; cases h; exact k99
    split at h
    · rename_i hg; obtain rfl := Nat.eq_of_beq_eq_true hg; cases h; exact k74
    split at h
    · rename_i hg; obtain rfl := Nat.eq_of_beq_eq_true hg; cases h; exact k56
    split at h
    · rename_i hg; obtain rfl := Nat.eq_of_beq_eq_true hg; cases h; exact k61
    split at h
    · rename_i hg; obtain rfl := Nat.eq_of_beq_eq_true hg; cases h; exact k100
    split at h
    · rename_i hg; obtain rfl := Nat.eq_of_beq_eq_true hg; cases h; exact k84
    split at h
    · rename_i hg; obtain rfl := Nat.eq_of_beq_eq_true hg; cases h; exact k85
    split at h
    · rename_i hg; obtain rfl := Nat.eq_of_beq_eq_true hg; cases h; exact k76
    split at h
    · rename_i hg; obtain rfl := Nat.eq_of_beq_eq_true hg; cases h; exact k104
    split at h
    · rename_i hg; obtain rfl := Nat.eq_of_beq_eq_true hg; cases h; exact k103
    split at h
    · rename_i hg; obtain rfl := Nat.eq_of_beq_eq_true hg; cases h; exact k81
    cases h), (fun _ _ h => (by cases h))⟩) Try.func47 ev47 (by kernel_rfl) (fun _ h => (by cases h)) fun ds h hp => match ds, h, hp with
    | [d0, d1, d2, d3], _, hp => ⟨(by kernel_rfl : owesB (outEnv FE s47 o47 [d0, d1, d2, d3]) o47.owes = (dget (g47 [d0, d1, d2, d3]) 0).toB).trans (hp rfl), nrms_teq (by kernel_rfl) (by kernel_rfl) (by kernel_rfl)⟩
theorem k49 : FnOK Try.prog WI gK 49 s49 g49 :=
  fn_ok (F := FE) wiStable (⟨(fun f s h => by
    simp only [Sigs.get, S49, assoc] at h
    split at h
    · rename_i hg; obtain rfl := Nat.eq_of_beq_eq_true hg; cases h; exact k99
    split at h
    · rename_i hg; obtain rfl := Nat.eq_of_beq_eq_true hg; cases h; exact k39
    split at h
    · rename_i hg; obtain rfl := Nat.eq_of_beq_eq_true hg; cases h; exact k74
    split at h
    · rename_i hg; obtain rfl := Nat.eq_of_beq_eq_true hg; cases h; exact k61
    split at h
    · rename_i hg; obtain rfl := Nat.eq_of_beq_eq_true hg; cases h; exact k100
    split at h
    · rename_i hg; obtain rfl := Nat.eq_of_beq_eq_true hg; cases h; exact k56
    split at h
    · rename_i hg; obtain rfl := Nat.eq_of_beq_eq_true hg; cases h; exact k42
    split at h
    · rename_i hg; obtain rfl := Nat.eq_of_beq_eq_true hg; cases h; exact k76
    split at h
    · rename_i hg; obtain rfl := Nat.eq_of_beq_eq_true hg; cases h; exact k104
    split at h
    · rename_i hg; obtain rfl := Nat.eq_of_beq_eq_true hg; cases h; exact k105
    split at h
    · rename_i hg; obtain rfl := Nat.eq_of_beq_eq_true hg; cases h; exact k81
    cases h), (fun _ _ h => (by cases h))⟩) Try.func49 ev49 (by kernel_rfl) (fun _ h => (by cases h)) fun ds h hp => match ds, h, hp with
    | [d0, d1, d2], _, hp => ⟨(by kernel_rfl : owesB (outEnv FE s49 o49 [d0, d1, d2]) o49.owes = (dget (g49 [d0, d1, d2]) 0).toB).trans (hp rfl), nrms_teq (by kernel_rfl) (by kernel_rfl) (by kernel_rfl)⟩
theorem k51 : FnOK Try.prog WI gK 51 s51 g51 :=
  fn_ok (F := FE) wiStable (⟨(fun f s h => by
    simp only [Sigs.get, S51, assoc] at h
    split at h
    · rename_i hg; obtain rfl := Nat.eq_of_beq_eq_true hg; cases h; exact k99
    split at h
    · rename_i hg; obtain rfl := Nat.eq_of_beq_eq_true hg; cases h; exact k74
    split at h
    · rename_i hg; obtain rfl := Nat.eq_of_beq_eq_true hg; cases h; exact k56
    split at h
    · rename_i hg; obtain rfl := Nat.eq_of_beq_eq_true hg; cases h; exact k61
    split at h
    · rename_i hg; obtain rfl := Nat.eq_of_beq_eq_true hg; cases h; exact k39
    split at h
    · rename_i hg; obtain rfl := Nat.eq_of_beq_eq_true hg; cases h; exact k100
    split at h
    · rename_i hg; obtain rfl := Nat.eq_of_beq_eq_true hg; cases h; exact k84
    split at h
    · rename_i hg; obtain rfl := Nat.eq_of_beq_eq_true hg; cases h; exact k42
    split at h
    · rename_i hg; obtain rfl := Nat.eq_of_beq_eq_true hg; cases h; exact k76
    split at h
    · rename_i hg; obtain rfl := Nat.eq_of_beq_eq_true hg; cases h; exact k101
    split at h
    · rename_i hg; obtain rfl := Nat.eq_of_beq_eq_true hg; cases h; exact k109
    cases h), (fun _ _ h => (by cases h))⟩) Try.func51 ev51 (by kernel_rfl) (fun _ h => (by cases h)) fun ds h hp => match ds, h, hp with
    | [d0, d1, d2, d3, d4], _, hp => ⟨(by kernel_rfl : owesB (outEnv FE s51 o51 [d0, d1, d2, d3, d4]) o51.owes = (dget (g51 [d0, d1, d2, d3, d4]) 0).toB).trans (hp rfl), nrms_teq (by kernel_rfl) (by kernel_rfl) (by kernel_rfl)⟩
theorem k58 : FnOK Try.prog WI gK 58 s58 g58 :=
  fn_ok (F := FE) wiStable (⟨(fun f s h => by
    simp only [Sigs.get, S58, assoc] at h
    split at h
    · rename_i hg; obtain rfl := Nat.eq_of_beq_eq_true hg; cases h; exact k99
    split at h
    · rename_i hg; obtain rfl := Nat.eq_of_beq_eq_true hg; cases h; exact k56
    split at h
    · rename_i hg; obtain rfl := Nat.eq_of_beq_eq_true hg; cases h; exact k74
    split at h
    · rename_i hg; obtain rfl := Nat.eq_of_beq_eq_true hg; cases h; exact k100
    split at h
    · rename_i hg; obtain rfl := Nat.eq_of_beq_eq_true hg; cases h; exact k42
    split at h
    · rename_i hg; obtain rfl := Nat.eq_of_beq_eq_true hg; cases h; exact k76
    split at h
    · rename_i hg; obtain rfl := Nat.eq_of_beq_eq_true hg; cases h; exact k109
    cases h), (fun _ _ h => (by cases h))⟩) Try.func58 ev58 (by kernel_rfl) (fun _ h => (by cases h)) fun ds h hp => match ds, h, hp with
    | [d0, d1, d2, d3], _, hp => ⟨(by kernel_rfl : owesB (outEnv FE s58 o58 [d0, d1, d2, d3]) o58.owes = (dget (g58 [d0, d1, d2, d3]) 0).toB).trans (hp rfl), nrms_teq (by kernel_rfl) (by kernel_rfl) (by kernel_rfl)⟩
theorem k60 : FnOK Try.prog WI gK 60 s60 g60 :=
  fn_ok (F := FE) wiStable (⟨(fun f s h => by
    simp only [Sigs.get, S60, assoc] at h
    split at h
    · rename_i hg; obtain rfl := Nat.eq_of_beq_eq_true hg; cases h; exact k99
    split at h
    · rename_i hg; obtain rfl := Nat.eq_of_beq_eq_true hg; cases h; exact k85
    split at h
    · rename_i hg; obtain rfl := Nat.eq_of_beq_eq_true hg; cases h; exact k58
    cases h), (fun _ _ h => (by cases h))⟩) Try.func60 ev60 (by kernel_rfl) (fun _ h => (by cases h)) fun ds h hp => match ds, h, hp with
    | [d0, d1, d2, d3], _, hp => ⟨(by kernel_rfl : owesB (outEnv FE s60 o60 [d0, d1, d2, d3]) o60.owes = (dget (g60 [d0, d1, d2, d3]) 0).toB).trans (hp rfl), nrms_teq (by kernel_rfl) (by kernel_rfl) (by kernel_rfl)⟩
theorem k43 : FnOK Try.prog WI gK 43 s43 g43 :=
  fn_ok (F := FE) wiStable (⟨(fun f s h => by
    simp only [Sigs.get, S43, assoc] at h
    split at h
    · rename_i hg; obtain rfl := Nat.eq_of_beq_eq_true hg; cases h; exact k54
    split at h
    · rename_i hg; obtain rfl := Nat.eq_of_beq_eq_true hg; cases h; exact k46
    split at h
    · rename_i hg; obtain rfl := Nat.eq_of_beq_eq_true hg; cases h; exact k48
    split at h
    · rename_i hg; obtain rfl := Nat.eq_of_beq_eq_true hg; cases h; exact k50
    split at h
    · rename_i hg; obtain rfl := Nat.eq_of_beq_eq_true hg; cases h; exact k44
    cases h), (fun _ _ h => (by cases h))⟩) Try.func43 ev43 (by kernel_rfl) (fun _ h => (by cases h)) fun ds h hp => match ds, h, hp with
    | [], _, hp => ⟨(by kernel_rfl : owesB (outEnv FE s43 o43 []) o43.owes = (dget (g43 []) 0).toB).trans (hp rfl), nrms_teq (by kernel_rfl) (by kernel_rfl) (by kernel_rfl)⟩
theorem k10 : FnOK Try.prog WI gK 10 s10 g10 :=
  fn_ok (F := FE) wiStable (⟨(fun f s h => by
    simp only [Sigs.get, S10, assoc] at h
    split at h
    · rename_i hg; obtain rfl := Nat.eq_of_beq_eq_true hg; cases h; exact k43
    split at h
    · rename_i hg; obtain rfl := Nat.eq_of_beq_eq_true hg; cases h; exact k44
    split at h
    · rename_i hg; obtain rfl := Nat.eq_of_beq_eq_true hg; cases h; exact k45
    cases h), (fun _ _ h => (by cases h))⟩) Try.func10 ev10 (by kernel_rfl) (fun _ h => (by cases h)) fun ds h hp => match ds, h, hp with
    | [d0, d1, d2, d3], _, hp => ⟨(by kernel_rfl : owesB (outEnv FE s10 o10 [d0, d1, d2, d3]) o10.owes = (dget (g10 [d0, d1, d2, d3]) 0).toB).trans (hp rfl), nrms_teq (by kernel_rfl) (by kernel_rfl) (by kernel_rfl)⟩
theorem k11 : FnOK Try.prog WI gK 11 s11 g11 :=
  fn_ok (F := FE) wiStable (⟨(fun f s h => by
    simp only [Sigs.get, S11, assoc] at h
    split at h
    · rename_i hg; obtain rfl := Nat.eq_of_beq_eq_true hg; cases h; exact k43
    split at h
    · rename_i hg; obtain rfl := Nat.eq_of_beq_eq_true hg; cases h; exact k46
    split at h
    · rename_i hg; obtain rfl := Nat.eq_of_beq_eq_true hg; cases h; exact k47
    cases h), (fun _ _ h => (by cases h))⟩) Try.func11 ev11 (by kernel_rfl) (fun _ h => (by cases h)) fun ds h hp => match ds, h, hp with
    | [d0, d1, d2, d3], _, hp => ⟨(by kernel_rfl : owesB (outEnv FE s11 o11 [d0, d1, d2, d3]) o11.owes = (dget (g11 [d0, d1, d2, d3]) 0).toB).trans (hp rfl), nrms_teq (by kernel_rfl) (by kernel_rfl) (by kernel_rfl)⟩
theorem k12 : FnOK Try.prog WI gK 12 s12 g12 :=
  fn_ok (F := FE) wiStable (⟨(fun f s h => by
    simp only [Sigs.get, S12, assoc] at h
    split at h
    · rename_i hg; obtain rfl := Nat.eq_of_beq_eq_true hg; cases h; exact k43
    split at h
    · rename_i hg; obtain rfl := Nat.eq_of_beq_eq_true hg; cases h; exact k48
    split at h
    · rename_i hg; obtain rfl := Nat.eq_of_beq_eq_true hg; cases h; exact k49
    cases h), (fun _ _ h => (by cases h))⟩) Try.func12 ev12 (by kernel_rfl) (fun _ h => (by cases h)) fun ds h hp => match ds, h, hp with
    | [d0, d1, d2], _, hp => ⟨(by kernel_rfl : owesB (outEnv FE s12 o12 [d0, d1, d2]) o12.owes = (dget (g12 [d0, d1, d2]) 0).toB).trans (hp rfl), nrms_teq (by kernel_rfl) (by kernel_rfl) (by kernel_rfl)⟩
theorem k13 : FnOK Try.prog WI gK 13 s13 g13 :=
  fn_ok (F := FE) wiStable (⟨(fun f s h => by
    simp only [Sigs.get, S13, assoc] at h
    split at h
    · rename_i hg; obtain rfl := Nat.eq_of_beq_eq_true hg; cases h; exact k43
    split at h
    · rename_i hg; obtain rfl := Nat.eq_of_beq_eq_true hg; cases h; exact k50
    split at h
    · rename_i hg; obtain rfl := Nat.eq_of_beq_eq_true hg; cases h; exact k51
    cases h), (fun _ _ h => (by cases h))⟩) Try.func13 ev13 (by kernel_rfl) (fun _ h => (by cases h)) fun ds h hp => match ds, h, hp with
    | [d0, d1, d2, d3, d4], _, hp => ⟨(by kernel_rfl : owesB (outEnv FE s13 o13 [d0, d1, d2, d3, d4]) o13.owes = (dget (g13 [d0, d1, d2, d3, d4]) 0).toB).trans (hp rfl), nrms_teq (by kernel_rfl) (by kernel_rfl) (by kernel_rfl)⟩
theorem k17 : FnOK Try.prog WI gK 17 s17 g17 :=
  fn_ok (F := FE) wiStable (⟨(fun f s h => by
    simp only [Sigs.get, S17, assoc] at h
    split at h
    · rename_i hg; obtain rfl := Nat.eq_of_beq_eq_true hg; cases h; exact k43
    split at h
    · rename_i hg; obtain rfl := Nat.eq_of_beq_eq_true hg; cases h; exact k54
    split at h
    · rename_i hg; obtain rfl := Nat.eq_of_beq_eq_true hg; cases h; exact k58
    split at h
    · rename_i hg; obtain rfl := Nat.eq_of_beq_eq_true hg; cases h; exact k59
    split at h
    · rename_i hg; obtain rfl := Nat.eq_of_beq_eq_true hg; cases h; exact k60
    cases h), (fun _ _ h => (by cases h))⟩) Try.func17 ev17 (by kernel_rfl) (fun _ h => (by cases h)) fun ds h hp => match ds, h, hp with
    | [d0, d1, d2, d3], _, hp => ⟨(by kernel_rfl : owesB (outEnv FE s17 o17 [d0, d1, d2, d3]) o17.owes = (dget (g17 [d0, d1, d2, d3]) 0).toB).trans (hp rfl), nrms_teq (by kernel_rfl) (by kernel_rfl) (by kernel_rfl)⟩
end Go.Proofs.Ytacciadcmiiimaa

namespace Go.Sx
open Go Go.ChangeShapes Go.WideShapes Go.RowKit

inductive Sh where
  | one (t : LT)
  | agg (l : List LT)
  deriving Inhabited
def Sh.lts : Sh → List LT
  | .one t => [t]
  | .agg l => l
def nIn (ss : List Sh) : Nat := (ss.map fun s => s.lts.length).sum
def LT.conc (t : LT) (d : DV) : Value :=
  match t with
  | .int k => .int k d.toI
  | .bool => .bool d.toB
  | .vec _ => .bool false
def leafVals (g : Nat → DV) : Nat → List LT → List Value
  | _, [] => []
  | j, t :: ts => t.conc (g j) :: leafVals g (j + 1) ts
def argVals (g : Nat → DV) : Nat → List Sh → List Value
  | _, [] => []
  | j, .one t :: ss => t.conc (g j) :: argVals g (j + 1) ss
  | j, .agg ts :: ss => .agg (leafVals g j ts).toArray :: argVals g (j + ts.length) ss
def LT.pat (j : Nat) : LT → Lf
  | .int k => .i k (.h j)
  | .bool => .b (.h j)
  | .vec _ => .b (.t false)
def patLeaves : Nat → List LT → List Lf
  | _, [] => []
  | j, t :: ts => t.pat j :: patLeaves (j + 1) ts
def patShapes : Nat → List Sh → List V
  | _, [] => []
  | j, .one t :: ss => .s (.one (t.pat j)) :: patShapes (j + 1) ss
  | j, .agg ts :: ss => .s (.agg (patLeaves j ts)) :: patShapes (j + ts.length) ss

theorem idsFrom_getD : ∀ (k n j : Nat), j < k → (idsFrom n k).getD j default = .r (n + j)
  | 0, _, _, h => by omega
  | k + 1, n, 0, _ => rfl
  | k + 1, n, j + 1, h => by
    have := idsFrom_getD k (n + 1) j (by omega)
    simp only [idsFrom, List.getD_cons_succ, this]
    congr 1
    omega
theorem pat_conc {n : Nat} (g : Nat → DV) (ρ : Nat → Loc) {t : LT} {j : Nat} (h : j < n) : ((t.pat j).inst (idsFrom 0 n)).conc g ρ = t.conc (g j) ∧ ((t.pat j).inst (idsFrom 0 n)).good g := by
  have e : (A.h j).inst (idsFrom 0 n) = .r j := by
    have := idsFrom_getD n 0 j h
    simpa [A.inst] using this
  cases t with
  | int k => exact ⟨by simp only [LT.pat, Lf.inst, e]; rfl, trivial⟩
  | bool => exact ⟨by simp only [LT.pat, Lf.inst, e]; rfl, trivial⟩
  | vec ts => exact ⟨rfl, trivial⟩
theorem patLeaves_conc {n : Nat} (g : Nat → DV) (ρ : Nat → Loc) : ∀ (ts : List LT) (j : Nat), j + ts.length ≤ n → ((patLeaves j ts).map (Lf.inst (idsFrom 0 n))).map (Lf.conc g ρ) = leafVals g j ts ∧ ∀ x ∈ (patLeaves j ts).map (Lf.inst (idsFrom 0 n)), Lf.good g x
  | [], j, _ => ⟨rfl, fun x hx => by cases hx⟩
  | t :: ts, j, h => by
    simp only [List.length_cons] at h
    obtain ⟨h1, h2⟩ := patLeaves_conc (n := n) g ρ ts (j + 1) (by omega)
    obtain ⟨h3, h4⟩ := pat_conc g ρ (t := t) (show j < n by omega)
    refine ⟨by simp only [patLeaves, List.map_cons, leafVals, h1, h3], fun x hx => ?_⟩
    simp only [patLeaves, List.map_cons] at hx
    rcases List.mem_cons.1 hx with rfl | hx
    · exact h4
    · exact h2 x hx
theorem nIn_cons (s : Sh) (ss : List Sh) : nIn (s :: ss) = s.lts.length + nIn ss := by simp [nIn]
theorem patShapes_conc {n : Nat} (g : Nat → DV) (ρ : Nat → Loc) : ∀ (ss : List Sh) (j : Nat), j + nIn ss ≤ n → ((patShapes j ss).map (V.inst (idsFrom 0 n))).map (V.conc g ρ) = argVals g j ss ∧ ∀ x ∈ (patShapes j ss).map (V.inst (idsFrom 0 n)), V.good g x
  | [], j, _ => ⟨rfl, fun x hx => by cases hx⟩
  | .one t :: ss, j, h => by
    rw [nIn_cons] at h
    have h : j + (1 + nIn ss) ≤ n := h
    obtain ⟨h1, h2⟩ := patShapes_conc (n := n) g ρ ss (j + 1) (by omega)
    obtain ⟨h3, h4⟩ := pat_conc g ρ (t := t) (show j < n by omega)
    refine ⟨by simp only [patShapes, List.map_cons, argVals, h1, V.inst, V1.inst, V.conc, V1.conc, h3], fun x hx => ?_⟩
    simp only [patShapes, List.map_cons] at hx
    rcases List.mem_cons.1 hx with rfl | hx
    · exact V1.good_one.2 h4
    · exact h2 x hx
  | .agg ts :: ss, j, h => by
    rw [nIn_cons] at h
    have h : j + (ts.length + nIn ss) ≤ n := h
    obtain ⟨h1, h2⟩ := patShapes_conc (n := n) g ρ ss (j + ts.length) (by omega)
    obtain ⟨h3, h4⟩ := patLeaves_conc (n := n) g ρ ts j (show j + ts.length ≤ n by omega)
    refine ⟨by simp only [patShapes, List.map_cons, argVals, h1, V.inst, V1.inst, V.conc, V1.conc, h3], fun x hx => ?_⟩
    simp only [patShapes, List.map_cons] at hx
    rcases List.mem_cons.1 hx with rfl | hx
    · exact V1.good_agg.2 h4
    · exact h2 x hx

def flatFs (P : Program) (rec : TypeId → Option (List LT)) : Nat → List Field → Option (List LT)
  | _, [] => some []
  | o, f :: fs =>
    if Nat.beq f.offset o then
      match rec f.type with
      | none => none
      | some l =>
        if Nat.beq l.length (P.cellsOf f.type) then
          match flatFs P rec (o + l.length) fs with
          | none => none
          | some r => some (l ++ r)
        else none
    else none
def flatT (P : Program) : Nat → TypeId → Option (List LT)
  | 0, _ => none
  | d + 1, t =>
    match P.underlying t with
    | some .bool => some [.bool]
    | some (.int k) => some [.int k]
    | some (.array n e) =>
      match flatT P d e with
      | none => none
      | some l => if Nat.beq l.length (P.cellsOf e) && Nat.beq (P.cellsOf t) (n * l.length) then some (List.replicate n l).flatten else none
    | some (.struct fs) =>
      match flatFs P (flatT P d) 0 fs.toList with
      | none => none
      | some l => if Nat.beq l.length (P.cellsOf t) then some l else none
    | _ => none
def shapeOf (P : Program) (t : TypeId) : Option Sh :=
  match P.underlying t with
  | some .bool => some (.one .bool)
  | some (.int k) => some (.one (.int k))
  | some (.array _ _) => (flatT P 20 t).map .agg
  | some (.struct _) => (flatT P 20 t).map .agg
  | _ => none
def shapesOf (P : Program) : List TypeId → Option (List Sh)
  | [] => some []
  | t :: ts =>
    match shapeOf P t with
    | none => none
    | some s =>
      match shapesOf P ts with
      | none => none
      | some r => some (s :: r)

def LeafOk : LT → Value → Prop
  | .int k, .int k' n => k' = k ∧ (Lit.int k n).wf = true
  | .bool, .bool _ => True
  | _, _ => False
def Leaves : List LT → List Value → Prop
  | [], [] => True
  | t :: ts, v :: vs => LeafOk t v ∧ Leaves ts vs
  | _, _ => False
theorem Leaves.len : ∀ {ts : List LT} {vs : List Value}, Leaves ts vs → vs.length = ts.length
  | [], [], _ => rfl
  | _ :: _, _ :: _, h => by simp [Leaves.len h.2]
  | [], _ :: _, h => h.elim
  | _ :: _, [], h => h.elim
theorem Leaves.append : ∀ {a b : List LT} {c d : List Value}, Leaves a c → Leaves b d → Leaves (a ++ b) (c ++ d)
  | [], _, [], _, _, h => h
  | _ :: _, _, _ :: _, _, h, h' => ⟨h.1, Leaves.append h.2 h'⟩
  | [], _, _ :: _, _, h, _ => h.elim
  | _ :: _, _, [], _, h, _ => h.elim

theorem mapM_carry {α β γ : Type} {f g : α → Option (β × List γ)} : ∀ {l : List α} {xs : List (β × List γ)}, l.mapM f = some xs →
    (∀ a ∈ l, ∀ y, f a = some y → g a = some y ∧ y.2 = []) → l.mapM g = some xs ∧ xs.flatMap (·.2) = [] ∧ ∀ a ∈ l, ∃ y, f a = some y
  | [], xs, h, _ => by
    simp at h
    subst h
    exact ⟨by simp, rfl, fun a ha => by cases ha⟩
  | a :: l, xs, h, hc => by
    simp only [List.mapM_cons, Option.bind_eq_bind, Option.bind_eq_some_iff, Option.pure_def, Option.some.injEq] at h
    obtain ⟨y, hy, ys, hys, rfl⟩ := h
    obtain ⟨h1, h2⟩ := hc a (by simp) y hy
    obtain ⟨h3, h4, h5⟩ := mapM_carry hys (fun b hb => hc b (List.mem_cons_of_mem _ hb))
    refine ⟨by simp [List.mapM_cons, h1, h3], by simp only [List.flatMap_cons, h2, h4, List.nil_append], fun b hb => ?_⟩
    rcases List.mem_cons.1 hb with rfl | hb
    · exact ⟨y, hy⟩
    · exact h5 b hb

theorem leaves_rows {l : List LT} {c : Nat} (hl : l.length = c) : ∀ {n : Nat} {cs : List Value}, cs.length = n * c → (∀ i, i < n → Leaves l ((cs.drop (i * c)).take c)) → Leaves (List.replicate n l).flatten cs
  | 0, cs, h, _ => by
    have : cs = [] := List.eq_nil_of_length_eq_zero (by simpa using h)
    subst this
    trivial
  | n + 1, cs, h, hp => by
    have h0 := hp 0 (by omega)
    simp only [Nat.zero_mul, List.drop_zero] at h0
    have h1 := leaves_rows hl (n := n) (cs := cs.drop c) (by rw [List.length_drop, h, Nat.succ_mul]; omega) (fun i hi => by
      have := hp (i + 1) (by omega)
      rw [List.drop_drop]
      rwa [show c + i * c = (i + 1) * c from by rw [Nat.succ_mul]; omega])
    have := Leaves.append h0 h1
    rw [List.take_append_drop] at this
    simpa [List.replicate_succ] using this

section
variable {H : Type} {enc : TypeId × Value → H} {P : Program}

def TrodOk (enc : TypeId × Value → H) (P : Program) (fuel : Nat) (t : TypeId) (lts : List LT) : Prop :=
  ∀ (w : World) (base : Nat) (sp : Nat → Bool) (held : Bool) (cs : List Value) (x : DataW H) (ps : List MemPlace), DataW.trod enc P w base sp held fuel t cs = some (x, ps) →
    Leaves lts cs ∧ ps = [] ∧ ∀ (w' : World) (base' : Nat) (sp' : Nat → Bool) (held' : Bool), DataW.trod enc P w' base' sp' held' fuel t cs = some (x, [])

theorem leaves_fields {rec : TypeId → Option (List LT)} {cs : List Value} : ∀ {fs : List Field} {o : Nat} {l : List LT}, flatFs P rec o fs = some l → cs.length = o + l.length →
    (∀ f ∈ fs, ∀ r, rec f.type = some r → Leaves r ((cs.drop f.offset).take (P.cellsOf f.type))) → Leaves l (cs.drop o)
  | [], o, l, h, hlen, _ => by
    simp [flatFs] at h
    subst h
    rw [List.drop_of_length_le (by simpa using Nat.le_of_eq hlen)]
    trivial
  | f :: fs, o, l, h, hlen, hp => by
    simp only [flatFs] at h
    split at h
    · rename_i ho
      have ho := Nat.eq_of_beq_eq_true ho
      split at h
      · cases h
      · rename_i r hr
        split at h
        · rename_i hc
          have hc := Nat.eq_of_beq_eq_true hc
          split at h
          · cases h
          · rename_i r' hr'
            cases h
            have h0 := hp f (by simp) r hr
            have h1 := leaves_fields hr' (by simp at hlen; omega) (fun g hg => hp g (List.mem_cons_of_mem _ hg))
            rw [ho, ← hc] at h0
            have h2 := Leaves.append h0 h1
            rw [← List.drop_drop, List.take_append_drop] at h2
            exact h2
        · cases h
    · cases h

theorem trod_flat : ∀ (d : Nat) {t : TypeId} {lts : List LT}, flatT P d t = some lts → ∀ fuel, TrodOk enc P fuel t lts
  | 0, _, _, h, _ => by cases h
  | d + 1, t, lts, h, fuel => by
    intro w base sp held cs x ps hx
    cases fuel with
    | zero => simp [DataW.trod] at hx
    | succ fuel =>
      simp only [flatT] at h
      split at h
      · rename_i hu
        cases h
        obtain ⟨b, rfl, he⟩ := DataW.trod_bool hu hx
        cases he
        exact ⟨⟨trivial, trivial⟩, rfl, fun _ _ _ _ => by simp [DataW.trod, hu]⟩
      · rename_i k hu
        cases h
        obtain ⟨n, rfl, he, hw⟩ := DataW.trod_int hu hx
        cases he
        exact ⟨⟨⟨rfl, hw⟩, trivial⟩, rfl, fun _ _ _ _ => by simp [DataW.trod, hu, hw]⟩
      · rename_i n e hu
        split at h
        · cases h
        · rename_i l hl
          split at h
          · rename_i hc
            cases h
            simp only [Bool.and_eq_true] at hc
            have hc1 := Nat.eq_of_beq_eq_true hc.1
            have hc2 := Nat.eq_of_beq_eq_true hc.2
            simp only [DataW.trod, hu] at hx
            split at hx
            · rename_i hlen
              obtain ⟨xs, hxs, he⟩ := Option.map_eq_some_iff.1 hx
              cases he
              have ih := trod_flat d hl fuel
              have hall := fun w' base' sp' held' => mapM_carry (g := fun i => DataW.trod enc P w' base' sp' held' fuel e ((cs.drop (i * P.cellsOf e)).take (P.cellsOf e))) hxs
                (fun i _ y hy => by
                  have := ih _ _ _ _ _ y.1 y.2 hy
                  exact ⟨by rw [this.2.2 w' base' sp' held', ← this.2.1], this.2.1⟩)
              refine ⟨leaves_rows hc1 (by rw [hlen, hc2, hc1]) (fun i hi => ?_), (hall w base sp held).2.1, fun w' base' sp' held' => ?_⟩
              · obtain ⟨y, hy⟩ := (hall w base sp held).2.2 i (List.mem_range.2 hi)
                exact (ih _ _ _ _ _ y.1 y.2 hy).1
              · obtain ⟨h1, h2, _⟩ := hall w' base' sp' held'
                simp only [DataW.trod, hu]
                rw [if_pos hlen, h1, Option.map_some, h2]
            · cases hx
          · cases h
      · rename_i fs hu
        split at h
        · cases h
        · rename_i l hl
          split at h
          · rename_i hc
            cases h
            have hc1 := Nat.eq_of_beq_eq_true hc
            simp only [DataW.trod, hu] at hx
            split at hx
            · rename_i hlen
              obtain ⟨xs, hxs, he⟩ := Option.map_eq_some_iff.1 hx
              cases he
              -- each field's type has leaves
              have hfl : ∀ {gs : List Field} {o : Nat} {r : List LT}, flatFs P (flatT P d) o gs = some r → ∀ f ∈ gs, ∃ r', flatT P d f.type = some r' := by
                intro gs
                induction gs with
                | nil => intro o r _ f hf; cases hf
                | cons g gs ih =>
                  intro o r hr f hf
                  simp only [flatFs] at hr
                  split at hr
                  · split at hr
                    · cases hr
                    · rename_i r1 hr1
                      split at hr
                      · split at hr
                        · cases hr
                        · rename_i r2 hr2
                          rcases List.mem_cons.1 hf with rfl | hf
                          · exact ⟨r1, hr1⟩
                          · exact ih hr2 f hf
                      · cases hr
                  · cases hr
              have hall := fun w' base' sp' held' => mapM_carry (g := fun f : Field => DataW.trod enc P w' base' sp' held' fuel f.type ((cs.drop f.offset).take (P.cellsOf f.type))) hxs
                (fun f hf y hy => by
                  obtain ⟨r', hr'⟩ := hfl hl f hf
                  have := trod_flat d hr' fuel _ _ _ _ _ y.1 y.2 hy
                  exact ⟨by rw [this.2.2 w' base' sp' held', ← this.2.1], this.2.1⟩)
              refine ⟨?_, (hall w base sp held).2.1, fun w' base' sp' held' => ?_⟩
              · have := leaves_fields (P := P) (cs := cs) hl (by rw [hlen, hc1]; omega) (fun f hf r hr => by
                  obtain ⟨y, hy⟩ := (hall w base sp held).2.2 f hf
                  exact (trod_flat d hr fuel _ _ _ _ _ y.1 y.2 hy).1)
                simpa using this
              · obtain ⟨h1, h2, _⟩ := hall w' base' sp' held'
                simp only [DataW.trod, hu]
                rw [if_pos hlen, h1, Option.map_some, h2]
            · cases hx
          · cases h
      · cases h

def RangeOk : List LT → List DV → Prop
  | [], [] => True
  | .int k :: ts, .i n :: ds => (Lit.int k n).wf = true ∧ RangeOk ts ds
  | .bool :: ts, .b _ :: ds => True ∧ RangeOk ts ds
  | _, _ => False
theorem RangeOk.len : ∀ {ts : List LT} {ds : List DV}, RangeOk ts ds → ds.length = ts.length
  | [], [], _ => rfl
  | .int _ :: _, .i _ :: _, h => by simp [RangeOk.len h.2]
  | .bool :: _, .b _ :: _, h => by simp [RangeOk.len h.2]
  | [], _ :: _, h => h.elim
  | .int _ :: _, [], h => h.elim
  | .bool :: _, [], h => h.elim
  | .int _ :: _, .b _ :: _, h => h.elim
  | .bool :: _, .i _ :: _, h => h.elim
  | .int _ :: _, .l _ :: _, h => h.elim
  | .bool :: _, .l _ :: _, h => h.elim
  | .vec _ :: _, [], h => h.elim
  | .vec _ :: _, _ :: _, h => h.elim
theorem RangeOk.append : ∀ {a b : List LT} {c d : List DV}, RangeOk a c → RangeOk b d → RangeOk (a ++ b) (c ++ d)
  | [], _, [], _, _, h => h
  | .int _ :: _, _, .i _ :: _, _, h, h' => ⟨h.1, RangeOk.append h.2 h'⟩
  | .bool :: _, _, .b _ :: _, _, h, h' => ⟨trivial, RangeOk.append h.2 h'⟩
  | [], _, _ :: _, _, h, _ => h.elim
  | .int _ :: _, _, [], _, h, _ => h.elim
  | .bool :: _, _, [], _, h, _ => h.elim
  | .int _ :: _, _, .b _ :: _, _, h, _ => h.elim
  | .bool :: _, _, .i _ :: _, _, h, _ => h.elim
  | .int _ :: _, _, .l _ :: _, _, h, _ => h.elim
  | .bool :: _, _, .l _ :: _, _, h, _ => h.elim
  | .vec _ :: _, _, [], _, h, _ => h.elim
  | .vec _ :: _, _, _ :: _, _, h, _ => h.elim

theorem RangeOk.int_at : ∀ {ts : List LT} {ds : List DV} {k : IntKind} (i : Nat), RangeOk ts ds → ts[i]? = some (.int k) → (Lit.int k (dget ds i).toI).wf = true
  | .int k :: ts, .i n :: ds, k', 0, h, e => by
    simp at e
    subst e
    exact h.1
  | .int k :: ts, .i n :: ds, k', i + 1, h, e => by
    have := RangeOk.int_at i h.2 (by simpa using e)
    simpa [dget] using this
  | .bool :: ts, .b x :: ds, k', 0, h, e => by simp at e
  | .bool :: ts, .b x :: ds, k', i + 1, h, e => by
    have := RangeOk.int_at i h.2 (by simpa using e)
    simpa [dget] using this
  | [], _, _, _, _, e => by simp at e
  | .int _ :: _, [], _, _, h, _ => h.elim
  | .bool :: _, [], _, _, h, _ => h.elim
  | .int _ :: _, .b _ :: _, _, _, h, _ => h.elim
  | .bool :: _, .i _ :: _, _, _, h, _ => h.elim
  | .int _ :: _, .l _ :: _, _, _, h, _ => h.elim
  | .bool :: _, .l _ :: _, _, _, h, _ => h.elim
  | .vec _ :: _, [], _, _, h, _ => h.elim
  | .vec _ :: _, _ :: _, _, _, h, _ => h.elim

theorem dget_pre (pre : List DV) (d : DV) (post : List DV) : dget (pre ++ d :: post) pre.length = d := by
  simp [dget, List.getD_eq_getElem?_getD]

theorem leaves_vals : ∀ {ts : List LT} {vs : List Value}, Leaves ts vs → ∃ ds, RangeOk ts ds ∧ ∀ pre post : List DV, leafVals (dget (pre ++ ds ++ post)) pre.length ts = vs
  | [], [], _ => ⟨[], trivial, fun _ _ => rfl⟩
  | .int k :: ts, .int k' n :: vs, h => by
    obtain ⟨ds, h1, h2⟩ := leaves_vals h.2
    obtain ⟨⟨rfl, hw⟩, _⟩ := h
    refine ⟨.i n :: ds, ⟨hw, h1⟩, fun pre post => ?_⟩
    have := h2 (pre ++ [.i n]) post
    simp only [leafVals, List.append_assoc, List.cons_append, List.nil_append, List.length_append, List.length_cons, List.length_nil, Nat.zero_add] at this ⊢
    rw [this, dget_pre]
    rfl
  | .bool :: ts, .bool b :: vs, h => by
    obtain ⟨ds, h1, h2⟩ := leaves_vals h.2
    refine ⟨.b b :: ds, ⟨trivial, h1⟩, fun pre post => ?_⟩
    have := h2 (pre ++ [.b b]) post
    simp only [leafVals, List.append_assoc, List.cons_append, List.nil_append, List.length_append, List.length_cons, List.length_nil, Nat.zero_add] at this ⊢
    rw [this, dget_pre]
    rfl
  | [], _ :: _, h => h.elim
  | _ :: _, [], h => h.elim
  | .int _ :: _, .bool _ :: _, h => h.1.elim
  | .bool :: _, .int _ _ :: _, h => h.1.elim
  | .vec _ :: _, _ :: _, h => h.1.elim

theorem open_plain {w : World} {base b0 : Nat} {sp : Nat → Bool} {held : Bool} {r : Reach} {t : TypeId} {v : Value} {d : DataW H} {ps : List MemPlace} {s : Sh} (hs : shapeOf P t = some s)
    (hval : Value.okWide P w r b0 t v) (hd : DataW.Trod enc P w base sp held t v d ps) :
    ∃ ds : List DV, RangeOk s.lts ds ∧ ps = [] ∧ (∀ (pre post : List DV) (ss : List Sh), argVals (dget (pre ++ ds ++ post)) pre.length (s :: ss) = v :: argVals (dget (pre ++ ds ++ post)) (pre.length + ds.length) ss) ∧
      ∀ (w' : World) (base' : Nat) (sp' : Nat → Bool) (held' : Bool), DataW.Trod enc P w' base' sp' held' t v d [] := by
  obtain ⟨fuel, hf⟩ := hd
  unfold shapeOf at hs
  split at hs
  · rename_i hu
    cases hs
    obtain ⟨b, rfl⟩ := okWide_bool hu hval
    have hfl : flatT P 1 t = some [.bool] := by simp [flatT, hu]
    obtain ⟨_, h2, h3⟩ := trod_flat (enc := enc) 1 hfl fuel _ _ _ _ _ _ _ hf
    refine ⟨[.b b], ⟨trivial, trivial⟩, h2, fun pre post ss => ?_, fun w' base' sp' held' => ⟨fuel, h3 w' base' sp' held'⟩⟩
    simp only [argVals, List.append_assoc, List.cons_append, List.nil_append, dget_pre, List.length_cons, List.length_nil]
    rfl
  · rename_i k hu
    cases hs
    obtain ⟨n, rfl⟩ := okWide_int hu hval
    have hfl : flatT P 1 t = some [.int k] := by simp [flatT, hu]
    obtain ⟨h1, h2, h3⟩ := trod_flat (enc := enc) 1 hfl fuel _ _ _ _ _ _ _ hf
    refine ⟨[.i n], ⟨h1.1.2, trivial⟩, h2, fun pre post ss => ?_, fun w' base' sp' held' => ⟨fuel, h3 w' base' sp' held'⟩⟩
    simp only [argVals, List.append_assoc, List.cons_append, List.nil_append, dget_pre, List.length_cons, List.length_nil]
    rfl
  · rename_i n e hu
    obtain ⟨l, hl, rfl⟩ := Option.map_eq_some_iff.1 hs
    simp only [Value.okWide, hu] at hval
    obtain ⟨cs, rfl, _, _⟩ := hval
    obtain ⟨h1, h2, h3⟩ := trod_flat (enc := enc) 20 hl fuel _ _ _ _ _ _ _ hf
    obtain ⟨ds, h4, h5⟩ := leaves_vals h1
    refine ⟨ds, h4, h2, fun pre post ss => ?_, fun w' base' sp' held' => ⟨fuel, h3 w' base' sp' held'⟩⟩
    simp only [argVals, h5 pre post, ← h4.len]
    rfl
  · rename_i fs hu
    obtain ⟨l, hl, rfl⟩ := Option.map_eq_some_iff.1 hs
    simp only [Value.okWide, hu] at hval
    obtain ⟨cs, rfl, _, _⟩ := hval
    obtain ⟨h1, h2, h3⟩ := trod_flat (enc := enc) 20 hl fuel _ _ _ _ _ _ _ hf
    obtain ⟨ds, h4, h5⟩ := leaves_vals h1
    refine ⟨ds, h4, h2, fun pre post ss => ?_, fun w' base' sp' held' => ⟨fuel, h3 w' base' sp' held'⟩⟩
    simp only [argVals, h5 pre post, ← h4.len]
    rfl
  · cases hs

theorem open_all {w : World} {base b0 : Nat} {sp : Nat → Bool} {held : Bool} {r : Reach} : ∀ {ts : List TypeId} {vs : List Value} {ds : List (DataW H)} {ps : List MemPlace} {ss : List Sh}, shapesOf P ts = some ss →
    (∀ (j : Nat) t v, ts[j]? = some t → vs[j]? = some v → Value.okWide P w r b0 t v) → DataW.TrodAll enc P w base sp held ts vs ds ps →
    ∃ xs : List DV, RangeOk (ss.flatMap Sh.lts) xs ∧ ps = [] ∧ (∀ pre : List DV, argVals (dget (pre ++ xs)) pre.length ss = vs) ∧ ds.length = ts.length ∧
      ∀ (w' : World) (base' : Nat) (sp' : Nat → Bool) (held' : Bool), DataW.TrodAll enc P w' base' sp' held' ts vs ds []
  | [], [], [], ps, ss, hs, _, hd => by
    simp [shapesOf] at hs
    subst hs
    exact ⟨[], trivial, hd, fun _ => rfl, rfl, fun _ _ _ _ => rfl⟩
  | t :: ts, v :: vs, d :: ds, ps, ss, hs, hval, hd => by
    simp only [shapesOf] at hs
    split at hs
    · cases hs
    · rename_i s hs1
      split at hs
      · cases hs
      · rename_i r hs2
        cases hs
        obtain ⟨p, q, h1, h2, rfl⟩ := hd
        obtain ⟨xs, a1, rfl, a3, a4⟩ := open_plain hs1 (hval 0 t v rfl rfl) h1
        obtain ⟨ys, b1, rfl, b3, b5, b4⟩ := open_all hs2 (fun j t v ht hv => hval (j + 1) t v (by simpa using ht) (by simpa using hv)) h2
        refine ⟨xs ++ ys, by simpa using RangeOk.append a1 b1, rfl, fun pre => ?_, by simp [b5], fun w' base' sp' held' => ⟨[], [], a4 w' base' sp' held', b4 w' base' sp' held', rfl⟩⟩
        have e1 := a3 pre ys r
        have e2 := b3 (pre ++ xs)
        rw [List.length_append] at e2
        rw [← List.append_assoc, e1, e2]
  | [], _ :: _, _, _, _, _, _, hd => by cases hd
  | [], [], _ :: _, _, _, _, _, hd => by cases hd
  | _ :: _, [], _, _, _, _, _, hd => by cases hd
  | _ :: _, _ :: _, [], _, _, _, _, hd => by cases hd
end

section
variable {C : Checked} {os : Os} {f : FuncId} {fn : Func} {s : ChangeSpec} {H : Type} {enc : TypeId × Value → H} {sg : Sig} {G : List DV → List DV} {I : World → Prop}

theorem post_plain {W W' : World} {args : Array Value} {ds gs : List (DataW H)} {tb : TypeId} (hW : DataW.Whole enc C.prog fn.params.toList s.vars false W args.toList ds gs [])
    (hrt : fn.resultTypes = #[tb]) (htb : C.prog.underlying tb = some .bool) (hvars : s.vars = [])
    (hs : s.fn H (ds ++ gs) = { results := [.lit (.bool true)], args := ds })
    (hargs : ∀ (w' : World) (base' : Nat) (sp' : Nat → Bool) (held' : Bool), DataW.TrodAll enc C.prog w' base' sp' held' fn.params.toList args.toList ds [])
    (hb : Below W.heap.size W W') : s.post enc C.prog fn false true false false W args (.bool true) W' := by
  refine ⟨ds, gs, [], [], [], [], hW, ?_, ?_, ?_, hb.frame _, fun h => by cases h⟩
  · rw [hs, hrt]
    exact trodAll_mk1 (shut_bool htb true)
  · rw [hs]
    exact hargs _ _ _ _
  · rw [hs, hvars]
    rfl

structure LawSig (sg : Sig) (ss : List Sh) : Prop where
  ins : sg.ins = patShapes 0 ss
  hin : sg.hin = []
  nin : sg.nin = nIn ss
  out : sg.out = .s (.one (.b (.h 0)))
  hout : sg.hout = []
  ots : sg.ots = [.b]

theorem law_contract {gK : Nat} {ss : List Sh} (k : FnOK C.prog I gK f sg G) (hsh : shapesOf C.prog fn.params.toList = some ss) (hl : LawSig sg ss) {tb : TypeId} (hrt : fn.resultTypes = #[tb])
    (htb : C.prog.underlying tb = some .bool) (hvars : s.vars = []) (hs : ∀ ds : List (DataW H), ds.length = fn.params.size → s.fn H ds = { results := [.lit (.bool true)], args := ds })
    (hG : ∀ xs, RangeOk (ss.flatMap Sh.lts) xs → (sg.need = true → (dget (G xs) 0).toB = true) ∧ (dget (G xs) (if sg.need then 1 else 0)).toB = true)
    {W : World} {base : Nat} {args : Array Value} {ds gs : List (DataW H)} {before : List MemPlace}
    (hval : ∀ (j : Nat) t v, fn.params[j]? = some t → args[j]? = some v → Value.okWide C.prog W .any base t v)
    (hW : DataW.Whole enc C.prog fn.params.toList s.vars false W args.toList ds gs before) (hI : I W) (hK : gK ≤ W.heap.size) :
    Calls C.prog f args W fun e W' => ∃ v, e = .returned v ∧ s.post enc C.prog fn false true false false W args v W' := by
  have hW0 := hW
  obtain ⟨p, q, hA, hV, rfl, _, _⟩ := hW
  rw [hvars] at hV
  obtain ⟨rfl, rfl⟩ := trodVars_none hV
  obtain ⟨xs, h1, rfl, h2, h3, h4⟩ := open_all hsh (fun j t v ht hv => hval j t v (by simpa using ht) (by simpa using hv)) hA
  have hx : nIn ss = (ss.flatMap Sh.lts).length := by
    unfold nIn
    rw [List.length_flatMap]
  have hg := hG xs h1
  have hhin : sg.hinI = [] := by unfold Sig.hinI; rw [hl.hin]; rfl
  have hempty : ∀ (E : Env) (ν : Nat → DV), HRel E ν (fun _ => default) [] W := fun E ν =>
    ⟨fun j bk hj => (by cases j <;> cases hj), fun j j' bk bk' hj => (by cases j <;> cases hj)⟩
  have hnW : ∀ b, ¬ (callEnv sg.hinI (fun _ => default) W).W b := fun b ⟨j, bk, hj, _⟩ => by rw [hhin] at hj; cases j <;> cases hj
  obtain ⟨c1, c2⟩ := patShapes_conc (n := sg.nin) (dget xs) (fun _ => default) ss 0 (by rw [hl.nin]; omega)
  have hins : sg.insI = (patShapes 0 ss).map (V.inst (idsFrom 0 sg.nin)) := by unfold Sig.insI; rw [hl.ins]
  have hk := k xs (fun _ => default) W hI (by rw [hl.nin, hx]; exact h1.len) hg.1 hK (fun b hb => absurd hb (hnW b)) (by rw [hins]; exact c2)
    (by rw [hhin]; exact hempty _ _)
  have ha : (sg.insI.map (V.conc (dget xs) fun _ => default)).toArray = args := by
    rw [hins, c1]
    apply Array.ext'
    simpa using h2 []
  rw [ha] at hk
  refine hk.mono fun e W' ⟨v, ρ', he, hc⟩ => ⟨.bool true, ?_, post_plain (s := s) hW0 hrt htb hvars ?_ h4 (hc.fr.weaken (W' := fun _ => False) fun b hb => hnW b hb).below⟩
  · rw [he, hc.val]
    have : sg.outI.conc (sg.res (G xs)) ρ' = .bool (dget (G xs) (if sg.need then 1 else 0)).toB := by
      unfold Sig.outI Sig.res
      rw [hl.out, hl.ots]
      show Value.bool (dget (G xs) (0 + _)).toB = _
      rw [Nat.zero_add]
    rw [this, hg.2]
  · rw [List.append_nil]
    exact hs ds (by simpa using h3)

theorem law_lifted {gK : Nat} {ss : List Sh} (k : FnOK C.prog I gK f sg G) (hsh : shapesOf C.prog fn.params.toList = some ss) (hl : LawSig sg ss) {tb : TypeId} (hrt : fn.resultTypes = #[tb])
    (htb : C.prog.underlying tb = some .bool) (hvars : s.vars = []) (hs : ∀ ds : List (DataW H), ds.length = fn.params.size → s.fn H ds = { results := [.lit (.bool true)], args := ds })
    (hG : ∀ xs, RangeOk (ss.flatMap Sh.lts) xs → (sg.need = true → (dget (G xs) 0).toB = true) ∧ (dget (G xs) (if sg.need then 1 else 0)).toB = true)
    (hI : ∀ W, I W) (hK : gK = 0)
    (own : ownKnob C.prog.godebug = none) (started : os.Started) (noInit : C.prog.inits.idxOf? f = none) (hfn : C.prog.funcs[f]? = some fn)
    (witness : ∃ (w : World) (tape : Tape) (i : Input), w.os = os ∧ (w.forCall tape i).Shaped C.prog ∧ i.vars = [] ∧ Input.okWide C.prog (w.forCall tape i) .any w.heap.size f i ∧
      s.pre6 enc C.prog fn [] false (w.forCall tape i).memory i.args ∧ ({} : Assume).holds C.prog (lone (Frame.enter C.prog f i.args .normal) [] (w.forCall tape i))) :
    ReturnsInHanded {} C os f .any (s.pre6 enc C.prog fn [] false) (s.post enc C.prog fn false true false false) :=
  returnsInHanded_of_change (C := C) own started noInit hfn witness
    fun W _ _ _ _ _ hval hW _ _ => law_contract k hsh hl hrt htb hvars hs hG hval hW (hI W) (by rw [hK]; exact Nat.zero_le _)
end
end Go.Sx

