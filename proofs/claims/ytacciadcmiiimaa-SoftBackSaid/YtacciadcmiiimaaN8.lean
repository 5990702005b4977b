/- Floats of a sign and a size; what is exact comes back; sums do not depend on how a number is written. -/
import Derived.Test.YtacciadcmiiimaaN7
import Derived.Test.YtacciadcmiiimaaN6
import Derived.Test.YtacciadcmiiimaaN4
import Derived.ProofKit
import Derived.LaidMore
import Derived.Stop.Joined
namespace Go.Proofs.Ytacciadcmiiimaa
open Go Go.Sx Go.Rnd
set_option maxRecDepth 100000
set_option maxHeartbeats 1000000

theorem land1 (n : Int) : iland .i64 n 1 = 0 ∨ iland .i64 n 1 = 1 := by
  have h : (BitVec.ofInt 64 n &&& BitVec.ofInt 64 1).toNat ≤ 1 := by
    rw [BitVec.toNat_and]
    exact Nat.le_trans Nat.and_le_right (by decide)
  have : iland .i64 n 1 = IntKind.wrap .i64 ((BitVec.ofInt 64 n &&& BitVec.ofInt 64 1).toNat : Int) := rfl
  rw [this, wrap_i64_of (by omega) (by omega)]
  omega
theorem size_is (n : Int) : r52_0 n = 4 ∨ r52_0 n = 8 := by
  unfold r52_0
  rcases land1 n with h | h <;> rw [h]
  · exact .inl (by decide)
  · exact .inr (by decide)
theorem mode_is (x : Int) : 0 ≤ r53_0 x ∧ r53_0 x ≤ 4 := by
  unfold r53_0
  show 0 ≤ IntKind.wrap .i64 (Int.tmod (IntKind.wrap .u64 x) 5) ∧ IntKind.wrap .i64 (Int.tmod (IntKind.wrap .u64 x) 5) ≤ 4
  rw [wrap_u64, Int.tmod_eq_emod_of_nonneg (by omega), wrap_i64_of (by omega) (by omega)]
  omega

theorem tolF_le {f b v : Nat} {rm : Int} {mi ex ti : Bool} : (tolF f b rm mi v ex ti).1 ≤ infF f b := by
  unfold tolF
  split
  · exact Nat.sub_le _ _
  · rename_i h; exact Nat.le_of_not_le h
section
variable {s rm : Int} (hs : s = 4 ∨ s = 8) {mi : Bool} {v a : Nat}
include hs
theorem w_parts (hv : v < topN s) : sgN s (sgB s mi + v) = mi ∧ magN s (sgB s mi + v) = v ∧ mkN s (sgB s mi + v) = sgB s mi + v ∧ sgB s mi + v < 18446744073709551616 := by
  unfold sgN magN mkN sgB
  rcases hs with rfl | rfl
  · have e2 : topN 4 = 2147483648 := rfl
    rw [e2] at hv ⊢
    rw [if_pos rfl]
    refine ⟨?_, ?_, ?_, ?_⟩
    · cases mi
      · rw [decide_eq_false_iff_not]; simp only [Bool.false_eq_true, if_false]; omega
      · rw [decide_eq_true_iff]; simp only [if_true]; omega
    · split <;> omega
    · split <;> omega
    · split <;> omega
  · have e2 : topN 8 = 9223372036854775808 := rfl
    rw [e2] at hv ⊢
    rw [if_neg (by decide)]
    refine ⟨?_, ?_, rfl, ?_⟩
    · cases mi
      · rw [decide_eq_false_iff_not]; simp only [Bool.false_eq_true, if_false]; omega
      · rw [decide_eq_true_iff]; simp only [if_true]; omega
    · split <;> omega
    · split <;> omega
theorem k_parts : nanN s a = decide (infB s < magN s a) ∧ infN s a = decide (magN s a = infB s) ∧ zerN s a = decide (magN s a = 0) := by
  obtain ⟨p1, p2, p3⟩ := mag_parts hs a
  unfold nanN infN zerN
  rw [p1, p2]
  generalize magN s a = m at *
  rcases hs with rfl | rfl
  · have e1 : oneN 4 = 8388608 := rfl
    have e2 : topN 4 = 2147483648 := rfl
    have e3 : emaxN 4 = 255 := rfl
    have e4 : infB 4 = 2139095040 := rfl
    rw [e2] at p3
    rw [e1, e3, e4]
    refine ⟨?_, ?_, ?_⟩ <;> (rw [decide_eq_decide]; omega)
  · have e1 : oneN 8 = 4503599627370496 := rfl
    have e2 : topN 8 = 9223372036854775808 := rfl
    have e3 : emaxN 8 = 2047 := rfl
    have e4 : infB 8 = 9218868437227405312 := rfl
    rw [e2] at p3
    rw [e1, e3, e4]
    refine ⟨?_, ?_, ?_⟩ <;> (rw [decide_eq_decide]; omega)
theorem one_pos : 0 < oneN s ∧ infB s < topN s ∧ quiB s < topN s ∧ infB s < quiB s ∧ infB s = infF (frN s) (biN s) ∧ 1 ≤ biN s := by rcases hs with rfl | rfl <;> decide
theorem f_parts {q n : Nat} (hm : magN s a = q + n * 2 ^ frN s) (hq : q < 2 ^ (frN s + 1)) (hn : n = 0 ∨ 2 ^ frN s ≤ q) : fM s a = q ∧ fE s a = least (frN s) (biN s) + n := by
  obtain ⟨p1, p2, p3⟩ := mag_parts hs a
  obtain ⟨f1, f2, f3, f4, f5, f6, f7, f8, f9, f10⟩ := size_facts hs
  have hp := Nat.two_pow_pos (frN s)
  rw [Nat.pow_succ] at hq
  unfold fM fE least
  rw [p1, p2, hm, ← f5]
  by_cases h : 2 ^ frN s ≤ q
  · have e1 : (q + n * 2 ^ frN s) / 2 ^ frN s = n + 1 := by
      rw [Nat.add_mul_div_right _ _ hp, Nat.div_eq_of_lt_le (k := 1) (by omega) (by omega)]; omega
    have e2 : (q + n * 2 ^ frN s) % 2 ^ frN s = q - 2 ^ frN s := by
      rw [Nat.add_mul_mod_self_right, Nat.mod_eq_sub_mod h, Nat.mod_eq_of_lt (by omega)]
    rw [e1, e2, if_pos (by omega), if_pos (by omega)]
    constructor <;> omega
  · have h0 : n = 0 := by omega
    subst h0
    have e1 : (q + 0 * 2 ^ frN s) / 2 ^ frN s = 0 := by rw [Nat.zero_mul, Nat.add_zero]; exact Nat.div_eq_of_lt (by omega)
    have e2 : (q + 0 * 2 ^ frN s) % 2 ^ frN s = q := by rw [Nat.zero_mul, Nat.add_zero]; exact Nat.mod_eq_of_lt (by omega)
    rw [e1, e2, if_neg (by omega), if_neg (by omega)]
    constructor <;> omega
theorem f_mag : ∃ n : Nat, magN s a = fM s a + n * 2 ^ frN s ∧ fE s a = least (frN s) (biN s) + n ∧ fM s a < 2 ^ (frN s + 1) ∧ (n = 0 ∨ 2 ^ frN s ≤ fM s a) := by
  obtain ⟨p1, p2, p3⟩ := mag_parts hs a
  obtain ⟨f1, f2, f3, f4, f5, f6, f7, f8, f9, f10⟩ := size_facts hs
  have hp := Nat.two_pow_pos (frN s)
  have hd := Nat.div_add_mod (magN s a) (2 ^ frN s)
  have hm := Nat.mod_lt (magN s a) hp
  rw [Nat.pow_succ]
  unfold fM fE least
  rw [p1, p2, ← f5]
  by_cases h : 0 < magN s a / 2 ^ frN s
  · refine ⟨magN s a / 2 ^ frN s - 1, ?_, ?_, ?_, ?_⟩
    · rw [if_pos h]
      have : (magN s a / 2 ^ frN s - 1) * 2 ^ frN s = 2 ^ frN s * (magN s a / 2 ^ frN s) - 2 ^ frN s := by rw [Nat.mul_comm, Nat.mul_sub, Nat.mul_one]
      have h2 : 2 ^ frN s ≤ 2 ^ frN s * (magN s a / 2 ^ frN s) := Nat.le_mul_of_pos_right _ h
      omega
    · rw [if_pos h]; omega
    · rw [if_pos h]; omega
    · rw [if_pos h]; exact .inr (by omega)
  · refine ⟨0, ?_, ?_, ?_, .inl rfl⟩
    · rw [if_neg h]
      have : magN s a / 2 ^ frN s = 0 := Nat.eq_zero_of_not_pos h
      rw [this, Nat.mul_zero] at hd; omega
    · rw [if_neg h]; omega
    · rw [if_neg h]; omega
theorem rnd_self (hf : finN s a = true) : rnd (frN s) (biN s) rm mi (fM s a) (fE s a) false = (magN s a, 0) := by
  obtain ⟨n, m1, m2, m3, m4⟩ := f_mag hs (a := a)
  obtain ⟨k1, k2, k3⟩ := k_parts hs (a := a)
  obtain ⟨o1, o2, o3, o4, o5, o6⟩ := one_pos hs
  unfold finN at hf
  rw [k1, k2, k3] at hf
  simp only [Bool.and_eq_true, Bool.not_eq_true', decide_eq_false_iff_not] at hf
  have hM : 0 < fM s a := by
    refine Nat.pos_of_ne_zero fun hc => ?_
    rw [hc] at m4 m1
    have := Nat.two_pow_pos (frN s)
    have h0 : n = 0 := by omega
    rw [h0] at m1; omega
  have hb := blen_le.2 m3
  have hlast : lastOf (frN s) (biN s) (blen (fM s a) + fE s a) = fE s a := by
    unfold lastOf
    rcases m4 with h0 | h0
    · subst h0
      split <;> omega
    · have := lt_blen.2 h0
      rw [if_neg (by omega)]; omega
  rw [rnd_eq o6 hM]
  have e1 : qOf (frN s) (biN s) (fM s a) (fE s a) = fM s a := by
    unfold qOf truN; rw [hlast, Int.sub_self, if_pos (by decide)]
    show fM s a * 2 ^ 0 = _
    rw [Nat.pow_zero, Nat.mul_one]
  have e2 : nOf (frN s) (biN s) (fM s a) (fE s a) = n := by unfold nOf; rw [hlast, m2]; omega
  have e3 : exOf (frN s) (biN s) (fM s a) (fE s a) false = true := by unfold exOf exaN; rw [hlast, Int.sub_self, if_pos (by decide)]; rfl
  have e4 : upOf (frN s) (biN s) rm mi (fM s a) (fE s a) false = false := by unfold upOf; exact upM_exact e3
  rw [e1, e2, e3, e4, ← m1, if_neg Bool.false_ne_true, Nat.add_zero]
  unfold tolF
  rw [if_neg (by rw [← o5]; omega)]
  rfl
theorem rnd_back {M : Nat} {E : Int} {more : Bool} (hM : 0 < M) (h : (rnd (frN s) (biN s) rm mi M E more).2 = 0) :
    more = false ∧ (rnd (frN s) (biN s) rm mi M E more).1 < infB s ∧ 0 < (rnd (frN s) (biN s) rm mi M E more).1 ∧
    SameV (fM s (sgB s mi + (rnd (frN s) (biN s) rm mi M E more).1)) (fE s (sgB s mi + (rnd (frN s) (biN s) rm mi M E more).1)) M E := by
  obtain ⟨o1, o2, o3, o4, o5, o6⟩ := one_pos hs
  obtain ⟨q1, q2⟩ := q_facts (f := frN s) (b := biN s) (E := E) hM
  rw [rnd_eq o6 hM] at h ⊢
  unfold tolF at h ⊢
  by_cases h1 : infF (frN s) (biN s) ≤ qOf (frN s) (biN s) M E + nOf (frN s) (biN s) M E * 2 ^ frN s + (if upOf (frN s) (biN s) rm mi M E more = true then 1 else 0)
  · rw [if_pos h1] at h; cases h
  · rw [if_neg h1] at h ⊢
    have hex : exOf (frN s) (biN s) M E more = true := by
      cases he : exOf (frN s) (biN s) M E more
      · rw [he] at h
        simp only [Bool.false_eq_true, if_false] at h
        split at h <;> cases h
      · rfl
    have hup : upOf (frN s) (biN s) rm mi M E more = false := upM_exact hex
    have hmore : more = false := by
      unfold exOf exaN at hex
      cases more
      · rfl
      · split at hex <;> simp at hex
    subst hmore
    rw [hup] at h1 ⊢
    simp only [Bool.false_eq_true, if_false, Nat.add_zero] at h1 ⊢
    rw [← o5] at h1
    obtain ⟨w1, w2, w3, w4⟩ := w_parts hs (mi := mi) (v := qOf (frN s) (biN s) M E + nOf (frN s) (biN s) M E * 2 ^ frN s) (by omega)
    obtain ⟨x1, x2⟩ := f_parts hs w2 q1 q2
    have hsame : SameV (qOf (frN s) (biN s) M E) (least (frN s) (biN s) + nOf (frN s) (biN s) M E) M E := by
      have := exa_same hex E
      have e : E + (lastOf (frN s) (biN s) (blen M + E) - E) = least (frN s) (biN s) + nOf (frN s) (biN s) M E := by rw [← last_of]; omega
      rw [e] at this
      exact this
    refine ⟨by trivial, by omega, ?_, ?_⟩
    · have := hsame.pos.2 hM
      omega
    · rw [x1, x2]; exact hsame
theorem rnd_le {M : Nat} {E : Int} {more : Bool} (hM : 0 < M) : (rnd (frN s) (biN s) rm mi M E more).1 ≤ infB s := by
  obtain ⟨o1, o2, o3, o4, o5, o6⟩ := one_pos hs
  rw [rnd_eq o6 hM, o5]
  exact tolF_le
theorem word_is (ha : a < 18446744073709551616) : mkN s a = sgB s (sgN s a) + magN s a := by
  unfold mkN sgB sgN magN mkN
  rcases hs with rfl | rfl
  · have e2 : topN 4 = 2147483648 := rfl
    rw [e2, if_pos rfl]
    simp only [dec]
    split <;> omega
  · have e2 : topN 8 = 9223372036854775808 := rfl
    rw [e2, if_neg (by decide)]
    simp only [dec]
    split <;> omega
end

def upE (E e : Int) : Nat := (E - e).toNat
theorem sumS_at {s rm : Int} {mx my : Bool} {Mx My : Nat} {Ex Ey e : Int} (h1 : e ≤ Ex) (h2 : e ≤ Ey) : sumS s rm mx Mx Ex my My Ey =
    if mx = my then (if Mx * 2 ^ upE Ex e + My * 2 ^ upE Ey e = 0 then (sgB s mx, 0) else rndP s rm mx (Mx * 2 ^ upE Ex e + My * 2 ^ upE Ey e) e false)
    else if Mx * 2 ^ upE Ex e = My * 2 ^ upE Ey e then (sgB s (rm == 2), 0)
    else if Mx * 2 ^ upE Ex e < My * 2 ^ upE Ey e then rndP s rm my (My * 2 ^ upE Ey e - Mx * 2 ^ upE Ex e) e false
    else rndP s rm mx (Mx * 2 ^ upE Ex e - My * 2 ^ upE Ey e) e false := by
  unfold sumS upE
  have l1 : minE Ex Ey ≤ Ex := by unfold minE; split <;> omega
  have l2 : minE Ex Ey ≤ Ey := by unfold minE; split <;> omega
  have l3 : e ≤ minE Ex Ey := by unfold minE; split <;> omega
  generalize minE Ex Ey = m at *
  obtain ⟨k, hk⟩ : ∃ k : Nat, e = m - k := ⟨(m - e).toNat, by omega⟩
  have e1 : (Ex - e).toNat = (Ex - m).toNat + k := by omega
  have e2 : (Ey - e).toNat = (Ey - m).toNat + k := by omega
  rw [e1, e2, Nat.pow_add, Nat.pow_add, ← Nat.mul_assoc, ← Nat.mul_assoc, ← Nat.add_mul, ← Nat.sub_mul, ← Nat.sub_mul]
  generalize Mx * 2 ^ (Ex - m).toNat = A
  generalize My * 2 ^ (Ey - m).toNat = B
  have hp := Nat.two_pow_pos k
  have z1 : (A + B) * 2 ^ k = 0 ↔ A + B = 0 := by rw [Nat.mul_eq_zero]; omega
  have z2 : A * 2 ^ k = B * 2 ^ k ↔ A = B := ⟨fun h => Nat.eq_of_mul_eq_mul_right hp h, fun h => by rw [h]⟩
  have z3 : A * 2 ^ k < B * 2 ^ k ↔ A < B := Nat.mul_lt_mul_right hp
  have sc : ∀ (mi : Bool) (V : Nat), 0 < V → rndP s rm mi (V * 2 ^ k) (m - k) false = rndP s rm mi V m false := fun mi V hV => by
    unfold rndP; rw [rnd_scale hV]
  simp only [z1, z2, z3, hk]
  by_cases h3 : mx = my
  · rw [if_pos h3, if_pos h3]
    by_cases h4 : A + B = 0
    · rw [if_pos h4, if_pos h4]
    · rw [if_neg h4, if_neg h4, sc _ _ (by omega)]
  · rw [if_neg h3, if_neg h3]
    by_cases h4 : A = B
    · rw [if_pos h4, if_pos h4]
    · rw [if_neg h4, if_neg h4]
      by_cases h5 : A < B
      · rw [if_pos h5, if_pos h5, sc _ _ (by omega)]
      · rw [if_neg h5, if_neg h5, sc _ _ (by omega)]
theorem same_up {M M' : Nat} {E E' e : Int} (h : SameV M E M' E') (h1 : e ≤ E) (h2 : e ≤ E') : M * 2 ^ upE E e = M' * 2 ^ upE E' e := by
  obtain ⟨k, k', g1, g2⟩ := h
  unfold upE
  obtain ⟨x, hx⟩ : ∃ x : Nat, E - e = x := ⟨(E - e).toNat, by omega⟩
  obtain ⟨y, hy⟩ : ∃ y : Nat, E' - e = y := ⟨(E' - e).toNat, by omega⟩
  rw [hx, hy, Int.toNat_natCast, Int.toNat_natCast]
  by_cases h : k ≤ x
  · obtain ⟨d, rfl⟩ : ∃ d, x = k + d := ⟨x - k, by omega⟩
    have : y = k' + d := by omega
    rw [this, Nat.pow_add, Nat.pow_add, ← Nat.mul_assoc, ← Nat.mul_assoc, g1]
  · obtain ⟨d, rfl⟩ : ∃ d, k = x + d := ⟨k - x, by omega⟩
    have : k' = y + d := by omega
    rw [this, Nat.pow_add, Nat.pow_add, ← Nat.mul_assoc, ← Nat.mul_assoc] at g1
    exact Nat.eq_of_mul_eq_mul_right (Nat.two_pow_pos d) g1
theorem sumS_same {s rm : Int} {mx my : Bool} {Mx My Mx' My' : Nat} {Ex Ey Ex' Ey' : Int} (hx : SameV Mx Ex Mx' Ex') (hy : SameV My Ey My' Ey') : sumS s rm mx Mx Ex my My Ey = sumS s rm mx Mx' Ex' my My' Ey' := by
  obtain ⟨e, h1, h2, h3, h4⟩ : ∃ e : Int, e ≤ Ex ∧ e ≤ Ey ∧ e ≤ Ex' ∧ e ≤ Ey' := ⟨minE (minE Ex Ey) (minE Ex' Ey'), by unfold minE; (repeat' split) <;> omega, by unfold minE; (repeat' split) <;> omega, by unfold minE; (repeat' split) <;> omega, by unfold minE; (repeat' split) <;> omega⟩
  rw [sumS_at h1 h2, sumS_at h3 h4, same_up hx h1 h3, same_up hy h2 h4]
end Go.Proofs.Ytacciadcmiiimaa

namespace Go.Proofs.Ytacciadcmiiimaa
open Go Go.Sx Go.Rnd
set_option maxRecDepth 100000
set_option maxHeartbeats 1000000

theorem sumS_right {s rm : Int} {mx : Bool} {Mx : Nat} {Ex Ey : Int} : sumS s rm mx Mx Ex mx 0 Ey = if Mx = 0 then (sgB s mx, 0) else rndP s rm mx Mx Ex false := by
  have l1 : minE Ex Ey ≤ Ex := by unfold minE; split <;> omega
  have l2 : minE Ex Ey ≤ Ey := by unfold minE; split <;> omega
  rw [sumS_at l1 l2, if_pos rfl, Nat.zero_mul, Nat.add_zero]
  have hp := Nat.two_pow_pos (upE Ex (minE Ex Ey))
  by_cases h : Mx = 0
  · rw [if_pos h, h, Nat.zero_mul, if_pos rfl]
  · rw [if_neg h, if_neg (by rw [Nat.mul_eq_zero]; omega)]
    unfold rndP
    have := rnd_scale (f := frN s) (b := biN s) (rm := rm) (minus := mx) (M := Mx) (k := upE Ex (minE Ex Ey)) (E := Ex) (by omega)
    have e : Ex - (upE Ex (minE Ex Ey) : Nat) = minE Ex Ey := by unfold upE; omega
    rw [e] at this
    rw [this]

def oneW (s : Int) : Nat := if s = 8 then 4607182418800017408 else 1065353216
section
variable {s rm : Int} (hs : s = 4 ∨ s = 8) {a b c : Nat} (ha : a < 18446744073709551616) (hb : b < 18446744073709551616) (hc : c < 18446744073709551616)
include hs
theorem one_facts : oneW s < 18446744073709551616 ∧ nanN s (oneW s) = false ∧ infN s (oneW s) = false ∧ zerN s (oneW s) = false ∧ sgN s (oneW s) = false ∧ fM s (oneW s) = 2 ^ frN s ∧ fE s (oneW s) = -(frN s : Int) := by
  rcases hs with rfl | rfl <;> decide
theorem top_is : ishl .u64 1 (IntKind.wrap .i64 (IntKind.wrap .i64 (8 * s) - 1)) = (topN s : Int) ∧ decide (IntKind.wrap .i64 (IntKind.wrap .i64 (8 * s) - 1) ≥ 0) = true := by rcases hs with rfl | rfl <;> decide
theorem top_bit {mi : Bool} {v : Nat} (hv : v < topN s) : iland .u64 ((sgB s mi + v : Nat) : Int) (topN s : Int) = (sgB s mi : Int) := by
  obtain ⟨w1, w2, w3, w4⟩ := w_parts hs (mi := mi) hv
  obtain ⟨k, hk, ht⟩ : ∃ k : Nat, k < 64 ∧ topN s = 2 ^ k := by rcases hs with rfl | rfl; exact ⟨31, by decide, rfl⟩; exact ⟨63, by decide, rfl⟩
  rw [land_bit (by omega) (by omega) k hk (by rw [ht])]
  have hp := Nat.two_pow_pos k
  rw [ht] at hv
  have h2 : ((sgB s mi + v : Nat) : Int) / (topN s : Int) % 2 = ((((sgB s mi + v) / topN s % 2 : Nat)) : Int) := by omega
  rw [h2, ← Int.natCast_mul, ht]
  congr 1
  unfold sgB
  cases mi
  · rw [if_neg Bool.false_ne_true, Nat.zero_add, Nat.div_eq_of_lt hv]; rfl
  · rw [if_pos rfl, ht, Nat.add_div_left _ hp, Nat.div_eq_of_lt hv]; exact Nat.mul_one _
include ha
theorem fma_one : fmaS s rm a (oneW s) b = addS s rm a b := by
  obtain ⟨o1, o2, o3, o4, o5, o6, o7⟩ := one_facts hs
  have hl := loud_nan o2
  have hin := inf_nan (s := s) (a := a)
  have e1 : (sgN s a != sgN s (oneW s)) = sgN s a := by rw [o5]; cases sgN s a <;> rfl
  have e2 : noneN s a (oneW s) = false := by unfold noneN; rw [o3, o4]; cases infN s a <;> cases zerN s a <;> rfl
  have e3 : farN s a (oneW s) = infN s a := by
    unfold farN; rw [o2, o3]; revert hin; cases infN s a <;> cases nanN s a <;> intro hin <;> first | rfl | cases hin rfl
  have e4 : invF s a (oneW s) b = (infN s a && infN s b && (sgN s a != sgN s b)) := by
    unfold invF; rw [e1, e2, e3]
    cases infN s a <;> cases infN s b <;> cases sgN s a <;> cases sgN s b <;> rfl
  unfold fmaS addS
  rw [e1, e3, e4, o2, hl, o6, o7]
  simp only [Bool.or_false]
  by_cases hi : infN s a = true
  · simp only [hi]
    have := inf_mk hs ha hi
    rw [this]
    rfl
  · rw [Bool.not_eq_true] at hi
    simp only [hi]
    have : sumS s rm (sgN s a) (fM s a * 2 ^ frN s) (fE s a + -(frN s : Int)) (sgN s b) (fM s b) (fE s b) = sumS s rm (sgN s a) (fM s a) (fE s a) (sgN s b) (fM s b) (fE s b) := by
      refine sumS_same ?_ (SameV.refl _ _)
      have := SameV.up (fM s a) (fE s a) (frN s)
      exact this
    rw [this, if_neg Bool.false_ne_true, if_neg Bool.false_ne_true]
include hb
theorem fma_zero (hi : infN s c = false) (hn : nanN s c = false) (hm : fM s c = 0)
    (hsg : (((infN s a && zerN s b || zerN s a && infN s b) || nanN s a) || nanN s b) = false → sgN s c = (sgN s a != sgN s b)) : fmaS s rm a b c = mulS s rm a b := by
  have hl := loud_nan hn
  have e4 : invF s a b c = (infN s a && zerN s b || zerN s a && infN s b) := by
    unfold invF noneN; rw [hi]; simp
  unfold fmaS mulS
  rw [e4, hl, hn, hi, hm]
  simp only [Bool.or_false]
  cases hN : (((infN s a && zerN s b || zerN s a && infN s b) || nanN s a) || nanN s b)
  · rw [hN] at hsg
    rw [hsg rfl, sumS_right]
    simp only [Bool.or_eq_false_iff] at hN
    have e3 : farN s a b = (infN s a || infN s b) := by unfold farN; rw [hN.1.2, hN.2]; simp
    rw [e3]
    simp only [Bool.false_eq_true, if_false]
    cases hI : (infN s a || infN s b)
    · simp only [Bool.false_eq_true, if_false]
      simp only [Bool.or_eq_false_iff] at hI
      cases hZ : (zerN s a || zerN s b)
      · simp only [Bool.or_eq_false_iff] at hZ
        have fa : finN s a = true := by unfold finN; rw [hN.1.2, hI.1, hZ.1]; rfl
        have fb : finN s b = true := by unfold finN; rw [hN.2, hI.2, hZ.2]; rfl
        have pa := fM_pos hs ha fa
        have pb := fM_pos hs hb fb
        rw [if_neg (by have := Nat.mul_pos pa pb; omega)]
        rfl
      · have h0 : fM s a * fM s b = 0 := by
          simp only [Bool.or_eq_true] at hZ
          rcases hZ with hZ | hZ
          · rw [zer_M hs ha hZ, Nat.zero_mul]
          · rw [zer_M hs hb hZ, Nat.mul_zero]
        rw [if_pos h0]
        rfl
    · rfl
  · rfl
theorem mul_shape : ((((infN s a && zerN s b || zerN s a && infN s b) || nanN s a) || nanN s b) = true ∧ (mulS s rm a b).1 = quiB s) ∨
    ((((infN s a && zerN s b || zerN s a && infN s b) || nanN s a) || nanN s b) = false ∧ ∃ v : Nat, v ≤ infB s ∧ (mulS s rm a b).1 = sgB s (sgN s a != sgN s b) + v) := by
  unfold mulS
  cases hN : (((infN s a && zerN s b || zerN s a && infN s b) || nanN s a) || nanN s b)
  · refine .inr ⟨rfl, ?_⟩
    simp only [Bool.false_eq_true, if_false]
    simp only [Bool.or_eq_false_iff] at hN
    cases hI : (infN s a || infN s b)
    · simp only [Bool.false_eq_true, if_false]
      simp only [Bool.or_eq_false_iff] at hI
      cases hZ : (zerN s a || zerN s b)
      · simp only [Bool.or_eq_false_iff] at hZ
        have fa : finN s a = true := by unfold finN; rw [hN.1.2, hI.1, hZ.1]; rfl
        have fb : finN s b = true := by unfold finN; rw [hN.2, hI.2, hZ.2]; rfl
        exact ⟨_, rnd_le hs (Nat.mul_pos (fM_pos hs ha fa) (fM_pos hs hb fb)), rfl⟩
      · exact ⟨0, Nat.zero_le _, rfl⟩
    · exact ⟨infB s, Nat.le_refl _, rfl⟩
  · exact .inl ⟨rfl, rfl⟩
theorem zero_word (mi : Bool) : infN s (sgB s mi) = false ∧ nanN s (sgB s mi) = false ∧ fM s (sgB s mi) = 0 ∧ sgN s (sgB s mi) = mi ∧ sgB s mi < 18446744073709551616 := by
  have _ := ha; have _ := hb
  rcases hs with rfl | rfl <;> cases mi <;> decide
end
theorem law_fits {n m a b : Int} (ha : 0 ≤ a ∧ a < 18446744073709551616) (hb : 0 ≤ b ∧ b < 18446744073709551616) : p15 n m a b = true ∧ r15_0 n m a b = true := by
  obtain ⟨a, rfl, ka⟩ := u64_nat ha
  obtain ⟨b, rfl, kb⟩ := u64_nat hb
  obtain ⟨aw1, aw2⟩ := soft_awake
  have hs := size_is n
  obtain ⟨h0, h1⟩ := mode_is m
  generalize hS : r52_0 n = s at *
  generalize hR : r53_0 m = rm at *
  obtain ⟨t1, t2⟩ := top_is hs
  obtain ⟨o1, _⟩ := one_facts hs
  have e15 : (bif s == 8 then 4607182418800017408 else 1065353216 : Int) = (oneW s : Int) := by rcases hs with rfl | rfl <;> rfl
  obtain ⟨x0, x1, x2⟩ := sfma_ok hs h0 h1 ka o1 kb
  obtain ⟨y0, y1, y2⟩ := sadd_ok hs h0 h1 ka kb
  obtain ⟨z0, z1, z2⟩ := smul_ok hs h0 h1 ka kb
  rw [fma_one hs ka] at x1 x2
  obtain ⟨q1, q2, q3, q4, q5, q6⟩ := one_pos hs
  obtain ⟨c, hc, hcl, hw⟩ : ∃ c : Nat, (bif r39_0 s ((mulS s rm a b).1 : Int) then 0 else iland .u64 ((mulS s rm a b).1 : Int) (topN s : Int)) = (c : Int) ∧ c < 18446744073709551616 ∧ fmaS s rm a b c = mulS s rm a b := by
    rcases mul_shape hs ka kb (rm := rm) with ⟨g1, g2⟩ | ⟨g1, v, g2, g3⟩
    · refine ⟨0, ?_, by decide, ?_⟩
      · rw [g2]
        have : r39_0 s (quiB s : Int) = true := by rcases hs with rfl | rfl <;> decide +kernel
        rw [this]; rfl
      · obtain ⟨u1, u2, u3, u4, u5⟩ := zero_word hs ka kb false
        have u0 : sgB s false = 0 := rfl
        rw [u0] at u1 u2 u3 u4
        exact fma_zero hs ka kb u1 u2 u3 (fun h => by rw [g1] at h; cases h)
    · obtain ⟨w1, w2, w3, w4⟩ := w_parts hs (mi := (sgN s a != sgN s b)) (v := v) (by omega)
      obtain ⟨u1, u2, u3, u4, u5⟩ := zero_word hs ka kb (sgN s a != sgN s b)
      refine ⟨sgB s (sgN s a != sgN s b), ?_, u5, ?_⟩
      · rw [g3]
        obtain ⟨k1, _⟩ := k_parts hs (a := sgB s (sgN s a != sgN s b) + v)
        have : r39_0 s ((sgB s (sgN s a != sgN s b) + v : Nat) : Int) = false := by
          rw [(nan_ok hs w4).2, k1, w2]
          exact decide_eq_false (by omega)
        rw [this, cond_false, top_bit hs (by omega)]
      · exact fma_zero hs ka kb u1 u2 u3 (fun _ => u4)
  obtain ⟨v0, v1, v2⟩ := sfma_ok hs h0 h1 ka kb hcl
  rw [hw] at v1 v2
  have n0 : p39 s = true := by rcases hs with rfl | rfl <;> decide
  constructor
  · simp only [p15, hS, hR, aw1, t1, t2, e15, x0, x1, x2, y0, y1, y2, z0, z1, n0, hc, v0, ow_t]; rfl
  · simp only [r15_0, hS, hR, aw2, t1, e15, x1, x2, y1, y2, z1, z2, hc, v1, v2, bne_self_eq_false, beq_self_eq_true]; rfl
end Go.Proofs.Ytacciadcmiiimaa

namespace Go.Proofs.Ytacciadcmiiimaa
open Go Go.Sx
set_option maxRecDepth 100000
set_option maxHeartbeats 4000000
theorem ev14 : evFn Try.prog S14 2000 Try.f14 s14 = some o14 := by kernel_rfl
theorem ev98 : evFn Try.prog S98 2000 Try.f98 s98 = some o98 := by kernel_rfl
theorem ev93 : evFn Try.prog S93 2000 Try.f93 s93 = some o93 := by kernel_rfl
theorem ev44 : evFn Try.prog S44 2000 Try.f44 s44 = some o44 := by kernel_rfl
theorem ev15 : evFn Try.prog S15 2000 Try.f15 s15 = some o15 := by kernel_rfl
theorem ev97 : evFn Try.prog S97 2000 Try.f97 s97 = some o97 := by kernel_rfl
theorem ev55 : evFn Try.prog S55 2000 Try.f55 s55 = some o55 := by kernel_rfl
theorem ev39 : evFn Try.prog S39 2000 Try.f39 s39 = some o39 := by kernel_rfl
theorem ev95 : evFn Try.prog S95 2000 Try.f95 s95 = some o95 := by kernel_rfl
theorem ev115 : evFn Try.prog S115 2000 Try.f115 s115 = some o115 := by kernel_rfl
theorem ev52 : evFn Try.prog S52 2000 Try.f52 s52 = some o52 := by kernel_rfl
end Go.Proofs.Ytacciadcmiiimaa

namespace Go.Proofs.Ytacciadcmiiimaa
open Go Go.Sx
set_option maxRecDepth 100000
set_option maxHeartbeats 4000000
theorem ev107 : evFn Try.prog S107 2000 Try.f107 s107 = some o107 := by kernel_rfl
theorem ev92 : evFn Try.prog S92 2000 Try.f92 s92 = some o92 := by kernel_rfl
end Go.Proofs.Ytacciadcmiiimaa

namespace Go.Proofs.Ytacciadcmiiimaa
open Go Go.Sx
set_option maxRecDepth 100000
set_option maxHeartbeats 4000000
theorem ev102 : evFn Try.prog S102 2000 Try.f102 s102 = some o102 := by kernel_rfl
theorem ev46 : evFn Try.prog S46 2000 Try.f46 s46 = some o46 := by kernel_rfl
theorem ev59 : evFn Try.prog S59 2000 Try.f59 s59 = some o59 := by kernel_rfl
theorem ev108 : evFn Try.prog S108 2000 Try.f108 s108 = some o108 := by kernel_rfl
theorem ev120 : evFn Try.prog S120 2000 Try.f120 s120 = some o120 := by kernel_rfl
theorem ev91 : evFn Try.prog S91 2000 Try.f91 s91 = some o91 := by kernel_rfl
theorem ev42 : evFn Try.prog S42 2000 Try.f42 s42 = some o42 := by kernel_rfl
theorem ev53 : evFn Try.prog S53 2000 Try.f53 s53 = some o53 := by kernel_rfl
end Go.Proofs.Ytacciadcmiiimaa

namespace Go.Proofs.Ytacciadcmiiimaa
open Go Go.Sx
set_option maxRecDepth 100000
set_option maxHeartbeats 4000000
theorem ev48 : evFn Try.prog S48 2000 Try.f48 s48 = some o48 := by kernel_rfl
theorem ev18 : evFn Try.prog S18 2000 Try.f18 s18 = some o18 := by kernel_rfl
theorem ev69 : evFn Try.prog S69 2000 Try.f69 s69 = some o69 := by kernel_rfl
theorem ev43 : evFn Try.prog S43 2000 Try.f43 s43 = some o43 := by kernel_rfl
theorem ev90 : evFn Try.prog S90 2000 Try.f90 s90 = some o90 := by kernel_rfl
theorem ev56 : evFn Try.prog S56 2000 Try.f56 s56 = some o56 := by kernel_rfl
theorem ev61 : evFn Try.prog S61 2000 Try.f61 s61 = some o61 := by kernel_rfl
end Go.Proofs.Ytacciadcmiiimaa

namespace Go.Proofs.Ytacciadcmiiimaa
open Go Go.Sx
set_option maxRecDepth 100000
set_option maxHeartbeats 4000000
theorem ev50 : evFn Try.prog S50 2000 Try.f50 s50 = some o50 := by kernel_rfl
theorem ev54 : evFn Try.prog S54 2000 Try.f54 s54 = some o54 := by kernel_rfl
theorem ev94 : evFn Try.prog S94 2000 Try.f94 s94 = some o94 := by kernel_rfl
theorem ev122 : evFn Try.prog S122 2000 Try.f122 s122 = some o122 := by kernel_rfl
theorem ev106 : evFn Try.prog S106 2000 Try.f106 s106 = some o106 := by kernel_rfl
end Go.Proofs.Ytacciadcmiiimaa

namespace Go.Proofs.Ytacciadcmiiimaa
open Go Go.Sx
set_option maxRecDepth 100000
set_option maxHeartbeats 4000000
theorem ev123 : evFn Try.prog S123 2000 Try.f123 s123 = some o123 := by kernel_rfl
theorem ev127 : evFn Try.prog S127 2000 Try.f127 s127 = some o127 := by kernel_rfl
theorem ev121 : evFn Try.prog S121 2000 Try.f121 s121 = some o121 := by kernel_rfl
theorem ev96 : evFn Try.prog S96 2000 Try.f96 s96 = some o96 := by kernel_rfl
theorem ev89 : evFn Try.prog S89 2000 Try.f89 s89 = some o89 := by kernel_rfl
end Go.Proofs.Ytacciadcmiiimaa

namespace Go.Proofs.Ytacciadcmiiimaa
open Go Go.Sx
set_option maxRecDepth 100000
set_option maxHeartbeats 4000000
def WI (_ : World) : Prop := True
def gK : Nat := 0
theorem wiStable : Stable WI gK := fun _ _ _ _ h => h


noncomputable def FE : FEnv := fun f => match f with
  | 69 => g69
  | 115 => g115
  | 91 => g91
  | 92 => g92
  | 96 => g96
  | 120 => g120
  | 95 => g95
  | 93 => g93
  | 97 => g97
  | 110202 => g110202
  | 110200 => g110200
  | 102 => g102
  | 121 => g121
  | 106 => g106
  | 123 => g123
  | 127 => g127
  | 122 => g122
  | 98 => g98
  | 108 => g108
  | 109400 => g109400
  | 94 => g94
  | 107 => g107
  | 44 => g44
  | 46 => g46
  | 104800 => g104800
  | 48 => g48
  | 50 => g50
  | 54 => g54
  | 59 => g59
  | 89 => g89
  | 42 => g42
  | 90 => g90
  | 39 => g39
  | 56 => g56
  | 61 => g61
  | 43 => g43
  | 52 => g52
  | 53 => g53
  | 55 => g55
  | 15 => g15
  | 18 => g18
  | 14 => g14
  | _ => fun _ => []



theorem k69 : FnOK Try.prog WI gK 69 s69 g69 :=
  fn_ok (F := FE) wiStable (⟨fun _ _ h => (by cases h), (fun _ _ h => (by cases h))⟩) Try.func69 ev69 (by kernel_rfl) (fun _ h => (by cases h)) fun ds h hp => match ds, h, hp with
    | [d0], _, hp => ⟨(by kernel_rfl : owesB (outEnv FE s69 o69 [d0]) o69.owes = (dget (g69 [d0]) 0).toB).trans (hp rfl), nrms_teq (by kernel_rfl) (by kernel_rfl) (by kernel_rfl)⟩
theorem k115 : FnOK Try.prog WI gK 115 s115 g115 :=
  fn_ok (F := FE) wiStable (⟨(fun f s h => by
    simp only [Sigs.get, S115, assoc] at h
    split at h
    · rename_i hg; obtain rfl := Nat.eq_of_beq_eq_true hg; cases h; exact k69
    cases h), (fun _ _ h => (by cases h))⟩) Try.func115 ev115 (by kernel_rfl) (fun _ h => (by cases h)) fun ds h hp => match ds, h, hp with
    | [d0], _, hp => ⟨(by kernel_rfl : owesB (outEnv FE s115 o115 [d0]) o115.owes = (dget (g115 [d0]) 0).toB).trans (hp rfl), nrms_teq (by kernel_rfl) (by kernel_rfl) (by kernel_rfl)⟩
theorem k91 : FnOK Try.prog WI gK 91 s91 g91 :=
  fn_ok (F := FE) wiStable (⟨fun _ _ h => (by cases h), (fun _ _ h => (by cases h))⟩) Try.func91 ev91 (by kernel_rfl) (fun _ h => (by cases h)) fun ds h hp => match ds, h, hp with
    | [d0, d1], _, _ => ⟨by kernel_rfl, nrms_teq (by kernel_rfl) (by kernel_rfl) (by kernel_rfl)⟩
theorem k92 : FnOK Try.prog WI gK 92 s92 g92 :=
  fn_ok (F := FE) wiStable (⟨fun _ _ h => (by cases h), (fun _ _ h => (by cases h))⟩) Try.func92 ev92 (by kernel_rfl) (fun _ h => (by cases h)) fun ds h hp => match ds, h, hp with
    | [d0], _, _ => ⟨by kernel_rfl, nrms_teq (by kernel_rfl) (by kernel_rfl) (by kernel_rfl)⟩
theorem k96 : FnOK Try.prog WI gK 96 s96 g96 :=
  fn_ok (F := FE) wiStable (⟨fun _ _ h => (by cases h), (fun _ _ h => (by cases h))⟩) Try.func96 ev96 (by kernel_rfl) (fun _ h => (by cases h)) fun ds h hp => match ds, h, hp with
    | [d0, d1, d2], _, hp => ⟨(by kernel_rfl : owesB (outEnv FE s96 o96 [d0, d1, d2]) o96.owes = (dget (g96 [d0, d1, d2]) 0).toB).trans (hp rfl), nrms_teq (by kernel_rfl) (by kernel_rfl) (by kernel_rfl)⟩
theorem k120 : FnOK Try.prog WI gK 120 s120 g120 :=
  fn_ok (F := FE) wiStable (⟨(fun f s h => by
    simp only [Sigs.get, S120, assoc] at h
    split at h
    · rename_i hg; obtain rfl := Nat.eq_of_beq_eq_true hg; cases h; exact k96
    cases h), (fun _ _ h => (by cases h))⟩) Try.func120 ev120 (by kernel_rfl) (fun _ h => (by cases h)) fun ds h hp => match ds, h, hp with
    | [d0, d1, d2], _, hp => ⟨(by kernel_rfl : owesB (outEnv FE s120 o120 [d0, d1, d2]) o120.owes = (dget (g120 [d0, d1, d2]) 0).toB).trans (hp rfl), nrms_teq (by kernel_rfl) (by kernel_rfl) (by kernel_rfl)⟩
theorem k95 : FnOK Try.prog WI gK 95 s95 g95 :=
  fn_ok (F := FE) wiStable (⟨fun _ _ h => (by cases h), (fun _ _ h => (by cases h))⟩) Try.func95 ev95 (by kernel_rfl) (fun _ h => (by cases h)) fun ds h hp => match ds, h, hp with
    | [d0, d1, d2, d3, d4], _, _ => ⟨by kernel_rfl, nrms_teq (by kernel_rfl) (by kernel_rfl) (by kernel_rfl)⟩
theorem k93 : FnOK Try.prog WI gK 93 s93 g93 :=
  fn_ok (F := FE) wiStable (⟨(fun f s h => by
    simp only [Sigs.get, S93, assoc] at h
    split at h
    · rename_i hg; obtain rfl := Nat.eq_of_beq_eq_true hg; cases h; exact k115
    cases h), (fun _ _ h => (by cases h))⟩) Try.func93 ev93 (by kernel_rfl) (fun _ h => (by cases h)) fun ds h hp => match ds, h, hp with
    | [d0, d1, d2, d3], _, hp => ⟨(by kernel_rfl : owesB (outEnv FE s93 o93 [d0, d1, d2, d3]) o93.owes = (dget (g93 [d0, d1, d2, d3]) 0).toB).trans (hp rfl), nrms_teq (by kernel_rfl) (by kernel_rfl) (by kernel_rfl)⟩
theorem k97 : FnOK Try.prog WI gK 97 s97 g97 :=
  fn_ok (F := FE) wiStable (⟨fun _ _ h => (by cases h), (fun _ _ h => (by cases h))⟩) Try.func97 ev97 (by kernel_rfl) (fun _ h => (by cases h)) fun ds h hp => match ds, h, hp with
    | [d0, d1], _, _ => ⟨by kernel_rfl, nrms_teq (by kernel_rfl) (by kernel_rfl) (by kernel_rfl)⟩
theorem hl102_0 : LoopSound FE l102_0 := loop_ok (w := W110200) (c := C110200) (nx := N110200) (out := T110200) [.i, .i, .i, .i, .i] (fun ds => by kernel_rfl) rfl (fun ν xs h => match xs, h with | [x0, x1], _ => by kernel_rfl)
  (fun ν xs h => match xs, h with | [x0, x1], _ => by kernel_rfl)
  (fun ν xs h => match xs, h with | [x0, x1], _ => by kernel_rfl)
  (fun ν xs h => match xs, h with | [x0, x1], _ => by kernel_rfl)
theorem hl102_1 : LoopSound FE l102_1 := loop_ok (w := W110202) (c := C110202) (nx := N110202) (out := T110202) [.i, .i, .i, .i, .i] (fun ds => by kernel_rfl) rfl (fun ν xs h => match xs, h with | [x0, x1], _ => by kernel_rfl)
  (fun ν xs h => match xs, h with | [x0, x1], _ => by kernel_rfl)
  (fun ν xs h => match xs, h with | [x0, x1], _ => by kernel_rfl)
  (fun ν xs h => match xs, h with | [x0, x1], _ => by kernel_rfl)
theorem hl102 : ∀ l ∈ o102.loops, LoopSound FE l := show ∀ l ∈ [l102_0, l102_1], LoopSound FE l from
  List.forall_mem_cons.2 ⟨hl102_0, List.forall_mem_cons.2 ⟨hl102_1, fun _ h => (by cases h)⟩⟩
theorem k102 : FnOK Try.prog WI gK 102 s102 g102 :=
  fn_ok (F := FE) wiStable (⟨(fun f s h => by
    simp only [Sigs.get, S102, assoc] at h
    split at h
    · rename_i hg; obtain rfl := Nat.eq_of_beq_eq_true hg; cases h; exact k115
    cases h), (fun _ _ h => (by cases h))⟩) Try.func102 ev102 (by kernel_rfl) hl102 fun ds h hp => match ds, h, hp with
    | [d0, d1, d2], _, hp => ⟨(by kernel_rfl : owesB (outEnv FE s102 o102 [d0, d1, d2]) o102.owes = (dget (g102 [d0, d1, d2]) 0).toB).trans (hp rfl), nrms_teq (by kernel_rfl) (by kernel_rfl) (by kernel_rfl)⟩
theorem k121 : FnOK Try.prog WI gK 121 s121 g121 :=
  fn_ok (F := FE) wiStable (⟨(fun f s h => by
    simp only [Sigs.get, S121, assoc] at h
    split at h
    · rename_i hg; obtain rfl := Nat.eq_of_beq_eq_true hg; cases h; exact k115
    cases h), (fun _ _ h => (by cases h))⟩) Try.func121 ev121 (by kernel_rfl) (fun _ h => (by cases h)) fun ds h hp => match ds, h, hp with
    | [d0, d1], _, hp => ⟨(by kernel_rfl : owesB (outEnv FE s121 o121 [d0, d1]) o121.owes = (dget (g121 [d0, d1]) 0).toB).trans (hp rfl), nrms_teq (by kernel_rfl) (by kernel_rfl) (by kernel_rfl)⟩
theorem k106 : FnOK Try.prog WI gK 106 s106 g106 :=
  fn_ok (F := FE) wiStable (⟨fun _ _ h => (by cases h), (fun _ _ h => (by cases h))⟩) Try.func106 ev106 (by kernel_rfl) (fun _ h => (by cases h)) fun ds h hp => match ds, h, hp with
    | [d0, d1, d2], _, hp => ⟨(by kernel_rfl : owesB (outEnv FE s106 o106 [d0, d1, d2]) o106.owes = (dget (g106 [d0, d1, d2]) 0).toB).trans (hp rfl), nrms_teq (by kernel_rfl) (by kernel_rfl) (by kernel_rfl)⟩
theorem k123 : FnOK Try.prog WI gK 123 s123 g123 :=
  fn_ok (F := FE) wiStable (⟨fun _ _ h => (by cases h), (fun _ _ h => (by cases h))⟩) Try.func123 ev123 (by kernel_rfl) (fun _ h => (by cases h)) fun ds h hp => match ds, h, hp with
    | [d0, d1, d2], _, hp => ⟨(by kernel_rfl : owesB (outEnv FE s123 o123 [d0, d1, d2]) o123.owes = (dget (g123 [d0, d1, d2]) 0).toB).trans (hp rfl), nrms_teq (by kernel_rfl) (by kernel_rfl) (by kernel_rfl)⟩
theorem k127 : FnOK Try.prog WI gK 127 s127 g127 :=
  fn_ok (F := FE) wiStable (⟨fun _ _ h => (by cases h), (fun _ _ h => (by cases h))⟩) Try.func127 ev127 (by kernel_rfl) (fun _ h => (by cases h)) fun ds h hp => match ds, h, hp with
    | [d0, d1, d2, d3, d4], _, _ => ⟨by kernel_rfl, nrms_teq (by kernel_rfl) (by kernel_rfl) (by kernel_rfl)⟩
theorem k122 : FnOK Try.prog WI gK 122 s122 g122 :=
  fn_ok (F := FE) wiStable (⟨(fun f s h => by
    simp only [Sigs.get, S122, assoc] at h
    split at h
    · rename_i hg; obtain rfl := Nat.eq_of_beq_eq_true hg; cases h; exact k127
    cases h), (fun _ _ h => (by cases h))⟩) Try.func122 ev122 (by kernel_rfl) (fun _ h => (by cases h)) fun ds h hp => match ds, h, hp with
    | [d0, d1, d2, d3], _, hp => ⟨(by kernel_rfl : owesB (outEnv FE s122 o122 [d0, d1, d2, d3]) o122.owes = (dget (g122 [d0, d1, d2, d3]) 0).toB).trans (hp rfl), nrms_teq (by kernel_rfl) (by kernel_rfl) (by kernel_rfl)⟩
theorem k98 : FnOK Try.prog WI gK 98 s98 g98 :=
  fn_ok (F := FE) wiStable (⟨(fun f s h => by
    simp only [Sigs.get, S98, assoc] at h
    split at h
    · rename_i hg; obtain rfl := Nat.eq_of_beq_eq_true hg; cases h; exact k121
    split at h
    · rename_i hg; obtain rfl := Nat.eq_of_beq_eq_true hg; cases h; exact k106
    split at h
    · rename_i hg; obtain rfl := Nat.eq_of_beq_eq_true hg; cases h; exact k122
    split at h
    · rename_i hg; obtain rfl := Nat.eq_of_beq_eq_true hg; cases h; exact k95
    split at h
    · rename_i hg; obtain rfl := Nat.eq_of_beq_eq_true hg; cases h; exact k96
    cases h), (fun _ _ h => (by cases h))⟩) Try.func98 ev98 (by kernel_rfl) (fun _ h => (by cases h)) fun ds h hp => match ds, h, hp with
    | [d0, d1, d2, d3, d4, d5, d6, d7], _, hp => ⟨(by kernel_rfl : owesB (outEnv FE s98 o98 [d0, d1, d2, d3, d4, d5, d6, d7]) o98.owes = (dget (g98 [d0, d1, d2, d3, d4, d5, d6, d7]) 0).toB).trans (hp rfl), nrms_teq (by kernel_rfl) (by kernel_rfl) (by kernel_rfl)⟩
theorem k108 : FnOK Try.prog WI gK 108 s108 g108 :=
  fn_ok (F := FE) wiStable (⟨fun _ _ h => (by cases h), (fun _ _ h => (by cases h))⟩) Try.func108 ev108 (by kernel_rfl) (fun _ h => (by cases h)) fun ds h hp => match ds, h, hp with
    | [d0, d1, d2, d3, d4], _, _ => ⟨by kernel_rfl, nrms_teq (by kernel_rfl) (by kernel_rfl) (by kernel_rfl)⟩
theorem hl94_0 : LoopSound FE l94_0 := loop_ok (w := W109400) (c := C109400) (nx := N109400) (out := T109400) [.i, .l, .b, .b, .i] (fun ds => by kernel_rfl) rfl (fun ν xs h => match xs, h with | [x0, x1, x2], _ => by kernel_rfl)
  (fun ν xs h => match xs, h with | [x0, x1, x2], _ => by kernel_rfl)
  (fun ν xs h => match xs, h with | [x0, x1, x2], _ => by kernel_rfl)
  (fun ν xs h => match xs, h with | [x0, x1, x2], _ => by kernel_rfl)
theorem hl94 : ∀ l ∈ o94.loops, LoopSound FE l := show ∀ l ∈ [l94_0], LoopSound FE l from
  List.forall_mem_cons.2 ⟨hl94_0, fun _ h => (by cases h)⟩
theorem k94 : FnOK Try.prog WI gK 94 s94 g94 :=
  fn_ok (F := FE) wiStable (⟨(fun f s h => by
    simp only [Sigs.get, S94, assoc] at h
    split at h
    · rename_i hg; obtain rfl := Nat.eq_of_beq_eq_true hg; cases h; exact k120
    cases h), (fun _ _ h => (by cases h))⟩) Try.func94 ev94 (by kernel_rfl) hl94 fun ds h hp => match ds, h, hp with
    | [d0, d1, d2, d3, d4], _, hp => ⟨(by kernel_rfl : owesB (outEnv FE s94 o94 [d0, d1, d2, d3, d4]) o94.owes = (dget (g94 [d0, d1, d2, d3, d4]) 0).toB).trans (hp rfl), nrms_teq (by kernel_rfl) (by kernel_rfl) (by kernel_rfl)⟩
theorem k107 : FnOK Try.prog WI gK 107 s107 g107 :=
  fn_ok (F := FE) wiStable (⟨(fun f s h => by
    simp only [Sigs.get, S107, assoc] at h
    split at h
    · rename_i hg; obtain rfl := Nat.eq_of_beq_eq_true hg; cases h; exact k95
    split at h
    · rename_i hg; obtain rfl := Nat.eq_of_beq_eq_true hg; cases h; exact k123
    split at h
    · rename_i hg; obtain rfl := Nat.eq_of_beq_eq_true hg; cases h; exact k98
    cases h), (fun _ _ h => (by cases h))⟩) Try.func107 ev107 (by kernel_rfl) (fun _ h => (by cases h)) fun ds h hp => match ds, h, hp with
    | [d0, d1, d2, d3, d4, d5, d6, d7, d8, d9, d10, d11], _, hp => ⟨(by kernel_rfl : owesB (outEnv FE s107 o107 [d0, d1, d2, d3, d4, d5, d6, d7, d8, d9, d10, d11]) o107.owes = (dget (g107 [d0, d1, d2, d3, d4, d5, d6, d7, d8, d9, d10, d11]) 0).toB).trans (hp rfl), nrms_teq (by kernel_rfl) (by kernel_rfl) (by kernel_rfl)⟩
theorem k44 : FnOK Try.prog WI gK 44 s44 g44 :=
  fn_ok (F := FE) wiStable (⟨(fun f s h => by
    simp only [Sigs.get, S44, assoc] at h
    split at h
    · rename_i hg; obtain rfl := Nat.eq_of_beq_eq_true hg; cases h; exact k91
    split at h
    · rename_i hg; obtain rfl := Nat.eq_of_beq_eq_true hg; cases h; exact k92
    split at h
    · rename_i hg; obtain rfl := Nat.eq_of_beq_eq_true hg; cases h; exact k93
    split at h
    · rename_i hg; obtain rfl := Nat.eq_of_beq_eq_true hg; cases h; exact k94
    split at h
    · rename_i hg; obtain rfl := Nat.eq_of_beq_eq_true hg; cases h; exact k96
    split at h
    · rename_i hg; obtain rfl := Nat.eq_of_beq_eq_true hg; cases h; exact k95
    split at h
    · rename_i hg; obtain rfl := Nat.eq_of_beq_eq_true hg; cases h; exact k97
    split at h
    · rename_i hg; obtain rfl := Nat.eq_of_beq_eq_true hg; cases h; exact k98
    cases h), (fun _ _ h => (by cases h))⟩) Try.func44 ev44 (by kernel_rfl) (fun _ h => (by cases h)) fun ds h hp => match ds, h, hp with
    | [d0, d1, d2, d3], _, hp => ⟨(by kernel_rfl : owesB (outEnv FE s44 o44 [d0, d1, d2, d3]) o44.owes = (dget (g44 [d0, d1, d2, d3]) 0).toB).trans (hp rfl), nrms_teq (by kernel_rfl) (by kernel_rfl) (by kernel_rfl)⟩
theorem k46 : FnOK Try.prog WI gK 46 s46 g46 :=
  fn_ok (F := FE) wiStable (⟨(fun f s h => by
    simp only [Sigs.get, S46, assoc] at h
    split at h
    · rename_i hg; obtain rfl := Nat.eq_of_beq_eq_true hg; cases h; exact k91
    split at h
    · rename_i hg; obtain rfl := Nat.eq_of_beq_eq_true hg; cases h; exact k92
    split at h
    · rename_i hg; obtain rfl := Nat.eq_of_beq_eq_true hg; cases h; exact k93
    split at h
    · rename_i hg; obtain rfl := Nat.eq_of_beq_eq_true hg; cases h; exact k94
    split at h
    · rename_i hg; obtain rfl := Nat.eq_of_beq_eq_true hg; cases h; exact k96
    split at h
    · rename_i hg; obtain rfl := Nat.eq_of_beq_eq_true hg; cases h; exact k95
    split at h
    · rename_i hg; obtain rfl := Nat.eq_of_beq_eq_true hg; cases h; exact k102
    split at h
    · rename_i hg; obtain rfl := Nat.eq_of_beq_eq_true hg; cases h; exact k98
    cases h), (fun _ _ h => (by cases h))⟩) Try.func46 ev46 (by kernel_rfl) (fun _ h => (by cases h)) fun ds h hp => match ds, h, hp with
    | [d0, d1, d2, d3], _, hp => ⟨(by kernel_rfl : owesB (outEnv FE s46 o46 [d0, d1, d2, d3]) o46.owes = (dget (g46 [d0, d1, d2, d3]) 0).toB).trans (hp rfl), nrms_teq (by kernel_rfl) (by kernel_rfl) (by kernel_rfl)⟩
theorem hl48_0 : LoopSound FE l48_0 := loop_ok (w := W104800) (c := C104800) (nx := N104800) (out := T104800) [.i, .i, .i, .i] (fun ds => by kernel_rfl) rfl (fun ν xs h => match xs, h with | [x0, x1], _ => by kernel_rfl)
  (fun ν xs h => match xs, h with | [x0, x1], _ => by kernel_rfl)
  (fun ν xs h => match xs, h with | [x0, x1], _ => by kernel_rfl)
  (fun ν xs h => match xs, h with | [x0, x1], _ => by kernel_rfl)
theorem hl48 : ∀ l ∈ o48.loops, LoopSound FE l := show ∀ l ∈ [l48_0], LoopSound FE l from
  List.forall_mem_cons.2 ⟨hl48_0, fun _ h => (by cases h)⟩
theorem k48 : FnOK Try.prog WI gK 48 s48 g48 :=
  fn_ok (F := FE) wiStable (⟨(fun f s h => by
    simp only [Sigs.get, S48, assoc] at h
    split at h
    · rename_i hg; obtain rfl := Nat.eq_of_beq_eq_true hg; cases h; exact k91
    split at h
    · rename_i hg; obtain rfl := Nat.eq_of_beq_eq_true hg; cases h; exact k92
    split at h
    · rename_i hg; obtain rfl := Nat.eq_of_beq_eq_true hg; cases h; exact k93
    split at h
    · rename_i hg; obtain rfl := Nat.eq_of_beq_eq_true hg; cases h; exact k94
    split at h
    · rename_i hg; obtain rfl := Nat.eq_of_beq_eq_true hg; cases h; exact k97
    split at h
    · rename_i hg; obtain rfl := Nat.eq_of_beq_eq_true hg; cases h; exact k98
    cases h), (fun _ _ h => (by cases h))⟩) Try.func48 ev48 (by kernel_rfl) hl48 fun ds h hp => match ds, h, hp with
    | [d0, d1, d2], _, hp => ⟨(by kernel_rfl : owesB (outEnv FE s48 o48 [d0, d1, d2]) o48.owes = (dget (g48 [d0, d1, d2]) 0).toB).trans (hp rfl), nrms_teq (by kernel_rfl) (by kernel_rfl) (by kernel_rfl)⟩
theorem k50 : FnOK Try.prog WI gK 50 s50 g50 :=
  fn_ok (F := FE) wiStable (⟨(fun f s h => by
    simp only [Sigs.get, S50, assoc] at h
    split at h
    · rename_i hg; obtain rfl := Nat.eq_of_beq_eq_true hg; cases h; exact k91
    split at h
    · rename_i hg; obtain rfl := Nat.eq_of_beq_eq_true hg; cases h; exact k92
    split at h
    · rename_i hg; obtain rfl := Nat.eq_of_beq_eq_true hg; cases h; exact k93
    split at h
    · rename_i hg; obtain rfl := Nat.eq_of_beq_eq_true hg; cases h; exact k94
    split at h
    · rename_i hg; obtain rfl := Nat.eq_of_beq_eq_true hg; cases h; exact k96
    split at h
    · rename_i hg; obtain rfl := Nat.eq_of_beq_eq_true hg; cases h; exact k95
    split at h
    · rename_i hg; obtain rfl := Nat.eq_of_beq_eq_true hg; cases h; exact k97
    split at h
    · rename_i hg; obtain rfl := Nat.eq_of_beq_eq_true hg; cases h; exact k106
    split at h
    · rename_i hg; obtain rfl := Nat.eq_of_beq_eq_true hg; cases h; exact k108
    split at h
    · rename_i hg; obtain rfl := Nat.eq_of_beq_eq_true hg; cases h; exact k107
    cases h), (fun _ _ h => (by cases h))⟩) Try.func50 ev50 (by kernel_rfl) (fun _ h => (by cases h)) fun ds h hp => match ds, h, hp with
    | [d0, d1, d2, d3, d4], _, hp => ⟨(by kernel_rfl : owesB (outEnv FE s50 o50 [d0, d1, d2, d3, d4]) o50.owes = (dget (g50 [d0, d1, d2, d3, d4]) 0).toB).trans (hp rfl), nrms_teq (by kernel_rfl) (by kernel_rfl) (by kernel_rfl)⟩
theorem k54 : FnOK Try.prog WI gK 54 s54 g54 :=
  fn_ok (F := FE) wiStable (⟨(fun f s h => by
    simp only [Sigs.get, S54, assoc] at h
    split at h
    · rename_i hg; obtain rfl := Nat.eq_of_beq_eq_true hg; cases h; exact k91
    split at h
    · rename_i hg; obtain rfl := Nat.eq_of_beq_eq_true hg; cases h; exact k92
    split at h
    · rename_i hg; obtain rfl := Nat.eq_of_beq_eq_true hg; cases h; exact k93
    split at h
    · rename_i hg; obtain rfl := Nat.eq_of_beq_eq_true hg; cases h; exact k94
    split at h
    · rename_i hg; obtain rfl := Nat.eq_of_beq_eq_true hg; cases h; exact k96
    split at h
    · rename_i hg; obtain rfl := Nat.eq_of_beq_eq_true hg; cases h; exact k95
    split at h
    · rename_i hg; obtain rfl := Nat.eq_of_beq_eq_true hg; cases h; exact k108
    split at h
    · rename_i hg; obtain rfl := Nat.eq_of_beq_eq_true hg; cases h; exact k107
    cases h), (fun _ _ h => (by cases h))⟩) Try.func54 ev54 (by kernel_rfl) (fun _ h => (by cases h)) fun ds h hp => match ds, h, hp with
    | [d0, d1, d2, d3], _, hp => ⟨(by kernel_rfl : owesB (outEnv FE s54 o54 [d0, d1, d2, d3]) o54.owes = (dget (g54 [d0, d1, d2, d3]) 0).toB).trans (hp rfl), nrms_teq (by kernel_rfl) (by kernel_rfl) (by kernel_rfl)⟩
theorem k59 : FnOK Try.prog WI gK 59 s59 g59 :=
  fn_ok (F := FE) wiStable (⟨(fun f s h => by
    simp only [Sigs.get, S59, assoc] at h
    split at h
    · rename_i hg; obtain rfl := Nat.eq_of_beq_eq_true hg; cases h; exact k91
    split at h
    · rename_i hg; obtain rfl := Nat.eq_of_beq_eq_true hg; cases h; exact k92
    split at h
    · rename_i hg; obtain rfl := Nat.eq_of_beq_eq_true hg; cases h; exact k54
    cases h), (fun _ _ h => (by cases h))⟩) Try.func59 ev59 (by kernel_rfl) (fun _ h => (by cases h)) fun ds h hp => match ds, h, hp with
    | [d0, d1, d2, d3], _, hp => ⟨(by kernel_rfl : owesB (outEnv FE s59 o59 [d0, d1, d2, d3]) o59.owes = (dget (g59 [d0, d1, d2, d3]) 0).toB).trans (hp rfl), nrms_teq (by kernel_rfl) (by kernel_rfl) (by kernel_rfl)⟩
theorem k89 : FnOK Try.prog WI gK 89 s89 g89 :=
  fn_ok (F := FE) wiStable (⟨fun _ _ h => (by cases h), (fun _ _ h => (by cases h))⟩) Try.func89 ev89 (by kernel_rfl) (fun _ h => (by cases h)) fun ds h hp => match ds, h, hp with
    | [d0], _, _ => ⟨by kernel_rfl, nrms_teq (by kernel_rfl) (by kernel_rfl) (by kernel_rfl)⟩
theorem k42 : FnOK Try.prog WI gK 42 s42 g42 :=
  fn_ok (F := FE) wiStable (⟨fun _ _ h => (by cases h), (fun _ _ h => (by cases h))⟩) Try.func42 ev42 (by kernel_rfl) (fun _ h => (by cases h)) fun ds h hp => match ds, h, hp with
    | [d0, d1], _, _ => ⟨by kernel_rfl, nrms_teq (by kernel_rfl) (by kernel_rfl) (by kernel_rfl)⟩
theorem k90 : FnOK Try.prog WI gK 90 s90 g90 :=
  fn_ok (F := FE) wiStable (⟨(fun f s h => by
    simp only [Sigs.get, S90, assoc] at h
    split at h
    · rename_i hg; obtain rfl := Nat.eq_of_beq_eq_true hg; cases h; exact k89
    split at h
    · rename_i hg; obtain rfl := Nat.eq_of_beq_eq_true hg; cases h; exact k42
    cases h), (fun _ _ h => (by cases h))⟩) Try.func90 ev90 (by kernel_rfl) (fun _ h => (by cases h)) fun ds h hp => match ds, h, hp with
    | [d0, d1], _, hp => ⟨(by kernel_rfl : owesB (outEnv FE s90 o90 [d0, d1]) o90.owes = (dget (g90 [d0, d1]) 0).toB).trans (hp rfl), nrms_teq (by kernel_rfl) (by kernel_rfl) (by kernel_rfl)⟩
theorem k39 : FnOK Try.prog WI gK 39 s39 g39 :=
  fn_ok (F := FE) wiStable (⟨(fun f s h => by
    simp only [Sigs.get, S39, assoc] at h
    split at h
    · rename_i hg; obtain rfl := Nat.eq_of_beq_eq_true hg; cases h; exact k89
    split at h
    · rename_i hg; obtain rfl := Nat.eq_of_beq_eq_true hg; cases h; exact k90
    cases h), (fun _ _ h => (by cases h))⟩) Try.func39 ev39 (by kernel_rfl) (fun _ h => (by cases h)) fun ds h hp => match ds, h, hp with
    | [d0, d1], _, hp => ⟨(by kernel_rfl : owesB (outEnv FE s39 o39 [d0, d1]) o39.owes = (dget (g39 [d0, d1]) 0).toB).trans (hp rfl), nrms_teq (by kernel_rfl) (by kernel_rfl) (by kernel_rfl)⟩
theorem k56 : FnOK Try.prog WI gK 56 s56 g56 :=
  fn_ok (F := FE) wiStable (⟨(fun f s h => by
    simp only [Sigs.get, S56, assoc] at h
    split at h
    · rename_i hg; obtain rfl := Nat.eq_of_beq_eq_true hg; cases h; exact k89
    split at h
    · rename_i hg; obtain rfl := Nat.eq_of_beq_eq_true hg; cases h; exact k90
    cases h), (fun _ _ h => (by cases h))⟩) Try.func56 ev56 (by kernel_rfl) (fun _ h => (by cases h)) fun ds h hp => match ds, h, hp with
    | [d0, d1], _, hp => ⟨(by kernel_rfl : owesB (outEnv FE s56 o56 [d0, d1]) o56.owes = (dget (g56 [d0, d1]) 0).toB).trans (hp rfl), nrms_teq (by kernel_rfl) (by kernel_rfl) (by kernel_rfl)⟩
theorem k61 : FnOK Try.prog WI gK 61 s61 g61 :=
  fn_ok (F := FE) wiStable (⟨(fun f s h => by
    simp only [Sigs.get, S61, assoc] at h
    split at h
    · rename_i hg; obtain rfl := Nat.eq_of_beq_eq_true hg; cases h; exact k90
    cases h), (fun _ _ h => (by cases h))⟩) Try.func61 ev61 (by kernel_rfl) (fun _ h => (by cases h)) fun ds h hp => match ds, h, hp with
    | [d0, d1], _, hp => ⟨(by kernel_rfl : owesB (outEnv FE s61 o61 [d0, d1]) o61.owes = (dget (g61 [d0, d1]) 0).toB).trans (hp rfl), nrms_teq (by kernel_rfl) (by kernel_rfl) (by kernel_rfl)⟩
theorem k43 : FnOK Try.prog WI gK 43 s43 g43 :=
  fn_ok (F := FE) wiStable (⟨(fun f s h => by
    simp only [Sigs.get, S43, assoc] at h
    split at h
    · rename_i hg; obtain rfl := Nat.eq_of_beq_eq_true hg; cases h; exact k54
    split at h
    · rename_i hg; obtain rfl := Nat.eq_of_beq_eq_true hg; cases h; exact k46
    split at h
    · rename_i hg; obtain rfl := Nat.eq_of_beq_eq_true hg; cases h; exact k48
    split at h
    · rename_i hg; obtain rfl := Nat.eq_of_beq_eq_true hg; cases h; exact k50
    split at h
    · rename_i hg; obtain rfl := Nat.eq_of_beq_eq_true hg; cases h; exact k44
    cases h), (fun _ _ h => (by cases h))⟩) Try.func43 ev43 (by kernel_rfl) (fun _ h => (by cases h)) fun ds h hp => match ds, h, hp with
    | [], _, hp => ⟨(by kernel_rfl : owesB (outEnv FE s43 o43 []) o43.owes = (dget (g43 []) 0).toB).trans (hp rfl), nrms_teq (by kernel_rfl) (by kernel_rfl) (by kernel_rfl)⟩
theorem k52 : FnOK Try.prog WI gK 52 s52 g52 :=
  fn_ok (F := FE) wiStable (⟨fun _ _ h => (by cases h), (fun _ _ h => (by cases h))⟩) Try.func52 ev52 (by kernel_rfl) (fun _ h => (by cases h)) fun ds h hp => match ds, h, hp with
    | [d0], _, _ => ⟨by kernel_rfl, nrms_teq (by kernel_rfl) (by kernel_rfl) (by kernel_rfl)⟩
theorem k53 : FnOK Try.prog WI gK 53 s53 g53 :=
  fn_ok (F := FE) wiStable (⟨fun _ _ h => (by cases h), (fun _ _ h => (by cases h))⟩) Try.func53 ev53 (by kernel_rfl) (fun _ h => (by cases h)) fun ds h hp => match ds, h, hp with
    | [d0], _, _ => ⟨by kernel_rfl, nrms_teq (by kernel_rfl) (by kernel_rfl) (by kernel_rfl)⟩
theorem k55 : FnOK Try.prog WI gK 55 s55 g55 :=
  fn_ok (F := FE) wiStable (⟨(fun f s h => by
    simp only [Sigs.get, S55, assoc] at h
    split at h
    · rename_i hg; obtain rfl := Nat.eq_of_beq_eq_true hg; cases h; exact k42
    cases h), (fun _ _ h => (by cases h))⟩) Try.func55 ev55 (by kernel_rfl) (fun _ h => (by cases h)) fun ds h hp => match ds, h, hp with
    | [d0, d1], _, hp => ⟨(by kernel_rfl : owesB (outEnv FE s55 o55 [d0, d1]) o55.owes = (dget (g55 [d0, d1]) 0).toB).trans (hp rfl), nrms_teq (by kernel_rfl) (by kernel_rfl) (by kernel_rfl)⟩
theorem k15 : FnOK Try.prog WI gK 15 s15 g15 :=
  fn_ok (F := FE) wiStable (⟨(fun f s h => by
    simp only [Sigs.get, S15, assoc] at h
    split at h
    · rename_i hg; obtain rfl := Nat.eq_of_beq_eq_true hg; cases h; exact k43
    split at h
    · rename_i hg; obtain rfl := Nat.eq_of_beq_eq_true hg; cases h; exact k52
    split at h
    · rename_i hg; obtain rfl := Nat.eq_of_beq_eq_true hg; cases h; exact k53
    split at h
    · rename_i hg; obtain rfl := Nat.eq_of_beq_eq_true hg; cases h; exact k50
    split at h
    · rename_i hg; obtain rfl := Nat.eq_of_beq_eq_true hg; cases h; exact k54
    split at h
    · rename_i hg; obtain rfl := Nat.eq_of_beq_eq_true hg; cases h; exact k44
    split at h
    · rename_i hg; obtain rfl := Nat.eq_of_beq_eq_true hg; cases h; exact k39
    cases h), (fun _ _ h => (by cases h))⟩) Try.func15 ev15 (by kernel_rfl) (fun _ h => (by cases h)) fun ds h hp => match ds, h, hp with
    | [d0, d1, d2, d3], _, hp => ⟨(by kernel_rfl : owesB (outEnv FE s15 o15 [d0, d1, d2, d3]) o15.owes = (dget (g15 [d0, d1, d2, d3]) 0).toB).trans (hp rfl), nrms_teq (by kernel_rfl) (by kernel_rfl) (by kernel_rfl)⟩
theorem k18 : FnOK Try.prog WI gK 18 s18 g18 :=
  fn_ok (F := FE) wiStable (⟨(fun f s h => by
    simp only [Sigs.get, S18, assoc] at h
    split at h
    · rename_i hg; obtain rfl := Nat.eq_of_beq_eq_true hg; cases h; exact k43
    split at h
    · rename_i hg; obtain rfl := Nat.eq_of_beq_eq_true hg; cases h; exact k52
    split at h
    · rename_i hg; obtain rfl := Nat.eq_of_beq_eq_true hg; cases h; exact k53
    split at h
    · rename_i hg; obtain rfl := Nat.eq_of_beq_eq_true hg; cases h; exact k42
    split at h
    · rename_i hg; obtain rfl := Nat.eq_of_beq_eq_true hg; cases h; exact k39
    split at h
    · rename_i hg; obtain rfl := Nat.eq_of_beq_eq_true hg; cases h; exact k56
    split at h
    · rename_i hg; obtain rfl := Nat.eq_of_beq_eq_true hg; cases h; exact k54
    split at h
    · rename_i hg; obtain rfl := Nat.eq_of_beq_eq_true hg; cases h; exact k61
    split at h
    · rename_i hg; obtain rfl := Nat.eq_of_beq_eq_true hg; cases h; exact k59
    split at h
    · rename_i hg; obtain rfl := Nat.eq_of_beq_eq_true hg; cases h; exact k44
    split at h
    · rename_i hg; obtain rfl := Nat.eq_of_beq_eq_true hg; cases h; exact k48
    split at h
    · rename_i hg; obtain rfl := Nat.eq_of_beq_eq_true hg; cases h; exact k46
    cases h), (fun _ _ h => (by cases h))⟩) Try.func18 ev18 (by kernel_rfl) (fun _ h => (by cases h)) fun ds h hp => match ds, h, hp with
    | [d0, d1, d2, d3], _, hp => ⟨(by kernel_rfl : owesB (outEnv FE s18 o18 [d0, d1, d2, d3]) o18.owes = (dget (g18 [d0, d1, d2, d3]) 0).toB).trans (hp rfl), nrms_teq (by kernel_rfl) (by kernel_rfl) (by kernel_rfl)⟩
theorem k14 : FnOK Try.prog WI gK 14 s14 g14 :=
  fn_ok (F := FE) wiStable (⟨(fun f s h => by
    simp only [Sigs.get, S14, assoc] at h
    split at h
    · rename_i hg; obtain rfl := Nat.eq_of_beq_eq_true hg; cases h; exact k43
    split at h
    · rename_i hg; obtain rfl := Nat.eq_of_beq_eq_true hg; cases h; exact k52
    split at h
    · rename_i hg; obtain rfl := Nat.eq_of_beq_eq_true hg; cases h; exact k53
    split at h
    · rename_i hg; obtain rfl := Nat.eq_of_beq_eq_true hg; cases h; exact k54
    split at h
    · rename_i hg; obtain rfl := Nat.eq_of_beq_eq_true hg; cases h; exact k44
    split at h
    · rename_i hg; obtain rfl := Nat.eq_of_beq_eq_true hg; cases h; exact k46
    split at h
    · rename_i hg; obtain rfl := Nat.eq_of_beq_eq_true hg; cases h; exact k48
    split at h
    · rename_i hg; obtain rfl := Nat.eq_of_beq_eq_true hg; cases h; exact k50
    split at h
    · rename_i hg; obtain rfl := Nat.eq_of_beq_eq_true hg; cases h; exact k39
    split at h
    · rename_i hg; obtain rfl := Nat.eq_of_beq_eq_true hg; cases h; exact k55
    cases h), (fun _ _ h => (by cases h))⟩) Try.func14 ev14 (by kernel_rfl) (fun _ h => (by cases h)) fun ds h hp => match ds, h, hp with
    | [d0, d1, d2, d3, d4], _, hp => ⟨(by kernel_rfl : owesB (outEnv FE s14 o14 [d0, d1, d2, d3, d4]) o14.owes = (dget (g14 [d0, d1, d2, d3, d4]) 0).toB).trans (hp rfl), nrms_teq (by kernel_rfl) (by kernel_rfl) (by kernel_rfl)⟩
end Go.Proofs.Ytacciadcmiiimaa

namespace Go.Sx
open Go Go.ChangeShapes Go.WideShapes Go.RowKit

inductive Sh where
  | one (t : LT)
  | agg (l : List LT)
  deriving Inhabited
def Sh.lts : Sh → List LT
  | .one t => [t]
  | .agg l => l
def nIn (ss : List Sh) : Nat := (ss.map fun s => s.lts.length).sum
def LT.conc (t : LT) (d : DV) : Value :=
  match t with
  | .int k => .int k d.toI
  | .bool => .bool d.toB
  | .vec _ => .bool false
def leafVals (g : Nat → DV) : Nat → List LT → List Value
  | _, [] => []
  | j, t :: ts => t.conc (g j) :: leafVals g (j + 1) ts
def argVals (g : Nat → DV) : Nat → List Sh → List Value
  | _, [] => []
  | j, .one t :: ss => t.conc (g j) :: argVals g (j + 1) ss
  | j, .agg ts :: ss => .agg (leafVals g j ts).toArray :: argVals g (j + ts.length) ss
def LT.pat (j : Nat) : LT → Lf
  | .int k => .i k (.h j)
  | .bool => .b (.h j)
  | .vec _ => .b (.t false)
def patLeaves : Nat → List LT → List Lf
  | _, [] => []
  | j, t :: ts => t.pat j :: patLeaves (j + 1) ts
def patShapes : Nat → List Sh → List V
  | _, [] => []
  | j, .one t :: ss => .s (.one (t.pat j)) :: patShapes (j + 1) ss
  | j, .agg ts :: ss => .s (.agg (patLeaves j ts)) :: patShapes (j + ts.length) ss

theorem idsFrom_getD : ∀ (k n j : Nat), j < k → (idsFrom n k).getD j default = .r (n + j)
  | 0, _, _, h => by omega
  | k + 1, n, 0, _ => rfl
  | k + 1, n, j + 1, h => by
    have := idsFrom_getD k (n + 1) j (by omega)
    simp only [idsFrom, List.getD_cons_succ, this]
    congr 1
    omega
theorem pat_conc {n : Nat} (g : Nat → DV) (ρ : Nat → Loc) {t : LT} {j : Nat} (h : j < n) : ((t.pat j).inst (idsFrom 0 n)).conc g ρ = t.conc (g j) ∧ ((t.pat j).inst (idsFrom 0 n)).good g := by
  have e : (A.h j).inst (idsFrom 0 n) = .r j := by
    have := idsFrom_getD n 0 j h
    simpa [A.inst] using this
  cases t with
  | int k => exact ⟨by simp only [LT.pat, Lf.inst, e]; rfl, trivial⟩
  | bool => exact ⟨by simp only [LT.pat, Lf.inst, e]; rfl, trivial⟩
  | vec ts => exact ⟨rfl, trivial⟩
theorem patLeaves_conc {n : Nat} (g : Nat → DV) (ρ : Nat → Loc) : ∀ (ts : List LT) (j : Nat), j + ts.length ≤ n → ((patLeaves j ts).map (Lf.inst (idsFrom 0 n))).map (Lf.conc g ρ) = leafVals g j ts ∧ ∀ x ∈ (patLeaves j ts).map (Lf.inst (idsFrom 0 n)), Lf.good g x
  | [], j, _ => ⟨rfl, fun x hx => by cases hx⟩
  | t :: ts, j, h => by
    simp only [List.length_cons] at h
    obtain ⟨h1, h2⟩ := patLeaves_conc (n := n) g ρ ts (j + 1) (by omega)
    obtain ⟨h3, h4⟩ := pat_conc g ρ (t := t) (show j < n by omega)
    refine ⟨by simp only [patLeaves, List.map_cons, leafVals, h1, h3], fun x hx => ?_⟩
    simp only [patLeaves, List.map_cons] at hx
    rcases List.mem_cons.1 hx with rfl | hx
    · exact h4
    · exact h2 x hx
theorem nIn_cons (s : Sh) (ss : List Sh) : nIn (s :: ss) = s.lts.length + nIn ss := by simp [nIn]
theorem patShapes_conc {n : Nat} (g : Nat → DV) (ρ : Nat → Loc) : ∀ (ss : List Sh) (j : Nat), j + nIn ss ≤ n → ((patShapes j ss).map (V.inst (idsFrom 0 n))).map (V.conc g ρ) = argVals g j ss ∧ ∀ x ∈ (patShapes j ss).map (V.inst (idsFrom 0 n)), V.good g x
  | [], j, _ => ⟨rfl, fun x hx => by cases hx⟩
  | .one t :: ss, j, h => by
    rw [nIn_cons] at h
    have h : j + (1 + nIn ss) ≤ n := h
    obtain ⟨h1, h2⟩ := patShapes_conc (n := n) g ρ ss (j + 1) (by omega)
    obtain ⟨h3, h4⟩ := pat_conc g ρ (t := t) (show j < n by omega)
    refine ⟨by simp only [patShapes, List.map_cons, argVals, h1, V.inst, V1.inst, V.conc, V1.conc, h3], fun x hx => ?_⟩
    simp only [patShapes, List.map_cons] at hx
    rcases List.mem_cons.1 hx with rfl | hx
    · exact V1.good_one.2 h4
    · exact h2 x hx
  | .agg ts :: ss, j, h => by
    rw [nIn_cons] at h
    have h : j + (ts.length + nIn ss) ≤ n := h
    obtain ⟨h1, h2⟩ := patShapes_conc (n := n) g ρ ss (j + ts.length) (by omega)
    obtain ⟨h3, h4⟩ := patLeaves_conc (n := n) g ρ ts j (show j + ts.length ≤ n by omega)
    refine ⟨by simp only [patShapes, List.map_cons, argVals, h1, V.inst, V1.inst, V.conc, V1.conc, h3], fun x hx => ?_⟩
    simp only [patShapes, List.map_cons] at hx
    rcases List.mem_cons.1 hx with rfl | hx
    · exact V1.good_agg.2 h4
    · exact h2 x hx

def flatFs (P : Program) (rec : TypeId → Option (List LT)) : Nat → List Field → Option (List LT)
  | _, [] => some []
  | o, f :: fs =>
    if Nat.beq f.offset o then
      match rec f.type with
      | none => none
      | some l =>
        if Nat.beq l.length (P.cellsOf f.type) then
          match flatFs P rec (o + l.length) fs with
          | none => none
          | some r => some (l ++ r)
        else none
    else none
def flatT (P : Program) : Nat → TypeId → Option (List LT)
  | 0, _ => none
  | d + 1, t =>
    match P.underlying t with
    | some .bool => some [.bool]
    | some (.int k) => some [.int k]
    | some (.array n e) =>
      match flatT P d e with
      | none => none
      | some l => if Nat.beq l.length (P.cellsOf e) && Nat.beq (P.cellsOf t) (n * l.length) then some (List.replicate n l).flatten else none
    | some (.struct fs) =>
      match flatFs P (flatT P d) 0 fs.toList with
      | none => none
      | some l => if Nat.beq l.length (P.cellsOf t) then some l else none
    | _ => none
def shapeOf (P : Program) (t : TypeId) : Option Sh :=
  match P.underlying t with
  | some .bool => some (.one .bool)
  | some (.int k) => some (.one (.int k))
  | some (.array _ _) => (flatT P 20 t).map .agg
  | some (.struct _) => (flatT P 20 t).map .agg
  | _ => none
def shapesOf (P : Program) : List TypeId → Option (List Sh)
  | [] => some []
  | t :: ts =>
    match shapeOf P t with
    | none => none
    | some s =>
      match shapesOf P ts with
      | none => none
      | some r => some (s :: r)

def LeafOk : LT → Value → Prop
  | .int k, .int k' n => k' = k ∧ (Lit.int k n).wf = true
  | .bool, .bool _ => True
  | _, _ => False
def Leaves : List LT → List Value → Prop
  | [], [] => True
  | t :: ts, v :: vs => LeafOk t v ∧ Leaves ts vs
  | _, _ => False
theorem Leaves.len : ∀ {ts : List LT} {vs : List Value}, Leaves ts vs → vs.length = ts.length
  | [], [], _ => rfl
  | _ :: _, _ :: _, h => by simp [Leaves.len h.2]
  | [], _ :: _, h => h.elim
  | _ :: _, [], h => h.elim
theorem Leaves.append : ∀ {a b : List LT} {c d : List Value}, Leaves a c → Leaves b d → Leaves (a ++ b) (c ++ d)
  | [], _, [], _, _, h => h
  | _ :: _, _, _ :: _, _, h, h' => ⟨h.1, Leaves.append h.2 h'⟩
  | [], _, _ :: _, _, h, _ => h.elim
  | _ :: _, _, [], _, h, _ => h.elim

theorem mapM_carry {α β γ : Type} {f g : α → Option (β × List γ)} : ∀ {l : List α} {xs : List (β × List γ)}, l.mapM f = some xs →
    (∀ a ∈ l, ∀ y, f a = some y → g a = some y ∧ y.2 = []) → l.mapM g = some xs ∧ xs.flatMap (·.2) = [] ∧ ∀ a ∈ l, ∃ y, f a = some y
  | [], xs, h, _ => by
    simp at h
    subst h
    exact ⟨by simp, rfl, fun a ha => by cases ha⟩
  | a :: l, xs, h, hc => by
    simp only [List.mapM_cons, Option.bind_eq_bind, Option.bind_eq_some_iff, Option.pure_def, Option.some.injEq] at h
    obtain ⟨y, hy, ys, hys, rfl⟩ := h
    obtain ⟨h1, h2⟩ := hc a (by simp) y hy
    obtain ⟨h3, h4, h5⟩ := mapM_carry hys (fun b hb => hc b (List.mem_cons_of_mem _ hb))
    refine ⟨by simp [List.mapM_cons, h1, h3], by simp only [List.flatMap_cons, h2, h4, List.nil_append], fun b hb => ?_⟩
    rcases List.mem_cons.1 hb with rfl | hb
    · exact ⟨y, hy⟩
    · exact h5 b hb

theorem leaves_rows {l : List LT} {c : Nat} (hl : l.length = c) : ∀ {n : Nat} {cs : List Value}, cs.length = n * c → (∀ i, i < n → Leaves l ((cs.drop (i * c)).take c)) → Leaves (List.replicate n l).flatten cs
  | 0, cs, h, _ => by
    have : cs = [] := List.eq_nil_of_length_eq_zero (by simpa using h)
    subst this
    trivial
  | n + 1, cs, h, hp => by
    have h0 := hp 0 (by omega)
    simp only [Nat.zero_mul, List.drop_zero] at h0
    have h1 := leaves_rows hl (n := n) (cs := cs.drop c) (by rw [List.length_drop, h, Nat.succ_mul]; omega) (fun i hi => by
      have := hp (i + 1) (by omega)
      rw [List.drop_drop]
      rwa [show c + i * c = (i + 1) * c from by rw [Nat.succ_mul]; omega])
    have := Leaves.append h0 h1
    rw [List.take_append_drop] at this
    simpa [List.replicate_succ] using this

section
variable {H : Type} {enc : TypeId × Value → H} {P : Program}

def TrodOk (enc : TypeId × Value → H) (P : Program) (fuel : Nat) (t : TypeId) (lts : List LT) : Prop :=
  ∀ (w : World) (base : Nat) (sp : Nat → Bool) (held : Bool) (cs : List Value) (x : DataW H) (ps : List MemPlace), DataW.trod enc P w base sp held fuel t cs = some (x, ps) →
    Leaves lts cs ∧ ps = [] ∧ ∀ (w' : World) (base' : Nat) (sp' : Nat → Bool) (held' : Bool), DataW.trod enc P w' base' sp' held' fuel t cs = some (x, [])

theorem leaves_fields {rec : TypeId → Option (List LT)} {cs : List Value} : ∀ {fs : List Field} {o : Nat} {l : List LT}, flatFs P rec o fs = some l → cs.length = o + l.length →
    (∀ f ∈ fs, ∀ r, rec f.type = some r → Leaves r ((cs.drop f.offset).take (P.cellsOf f.type))) → Leaves l (cs.drop o)
  | [], o, l, h, hlen, _ => by
    simp [flatFs] at h
    subst h
    rw [List.drop_of_length_le (by simpa using Nat.le_of_eq hlen)]
    trivial
  | f :: fs, o, l, h, hlen, hp => by
    simp only [flatFs] at h
    split at h
    · rename_i ho
      have ho := Nat.eq_of_beq_eq_true ho
      split at h
      · cases h
      · rename_i r hr
        split at h
        · rename_i hc
          have hc := Nat.eq_of_beq_eq_true hc
          split at h
          · cases h
          · rename_i r' hr'
            cases h
            have h0 := hp f (by simp) r hr
            have h1 := leaves_fields hr' (by simp at hlen; omega) (fun g hg => hp g (List.mem_cons_of_mem _ hg))
            rw [ho, ← hc] at h0
            have h2 := Leaves.append h0 h1
            rw [← List.drop_drop, List.take_append_drop] at h2
            exact h2
        · cases h
    · cases h

theorem trod_flat : ∀ (d : Nat) {t : TypeId} {lts : List LT}, flatT P d t = some lts → ∀ fuel, TrodOk enc P fuel t lts
  | 0, _, _, h, _ => by cases h
  | d + 1, t, lts, h, fuel => by
    intro w base sp held cs x ps hx
    cases fuel with
    | zero => simp [DataW.trod] at hx
    | succ fuel =>
      simp only [flatT] at h
      split at h
      · rename_i hu
        cases h
        obtain ⟨b, rfl, he⟩ := DataW.trod_bool hu hx
        cases he
        exact ⟨⟨trivial, trivial⟩, rfl, fun _ _ _ _ => by simp [DataW.trod, hu]⟩
      · rename_i k hu
        cases h
        obtain ⟨n, rfl, he, hw⟩ := DataW.trod_int hu hx
        cases he
        exact ⟨⟨⟨rfl, hw⟩, trivial⟩, rfl, fun _ _ _ _ => by simp [DataW.trod, hu, hw]⟩
      · rename_i n e hu
        split at h
        · cases h
        · rename_i l hl
          split at h
          · rename_i hc
            cases h
            simp only [Bool.and_eq_true] at hc
            have hc1 := Nat.eq_of_beq_eq_true hc.1
            have hc2 := Nat.eq_of_beq_eq_true hc.2
            simp only [DataW.trod, hu] at hx
            split at hx
            · rename_i hlen
              obtain ⟨xs, hxs, he⟩ := Option.map_eq_some_iff.1 hx
              cases he
              have ih := trod_flat d hl fuel
              have hall := fun w' base' sp' held' => mapM_carry (g := fun i => DataW.trod enc P w' base' sp' held' fuel e ((cs.drop (i * P.cellsOf e)).take (P.cellsOf e))) hxs
                (fun i _ y hy => by
                  have := ih _ _ _ _ _ y.1 y.2 hy
                  exact ⟨by rw [this.2.2 w' base' sp' held', ← this.2.1], this.2.1⟩)
              refine ⟨leaves_rows hc1 (by rw [hlen, hc2, hc1]) (fun i hi => ?_), (hall w base sp held).2.1, fun w' base' sp' held' => ?_⟩
              · obtain ⟨y, hy⟩ := (hall w base sp held).2.2 i (List.mem_range.2 hi)
                exact (ih _ _ _ _ _ y.1 y.2 hy).1
              · obtain ⟨h1, h2, _⟩ := hall w' base' sp' held'
                simp only [DataW.trod, hu]
                rw [if_pos hlen, h1, Option.map_some, h2]
            · cases hx
          · cases h
      · rename_i fs hu
        split at h
        · cases h
        · rename_i l hl
          split at h
          · rename_i hc
            cases h
            have hc1 := Nat.eq_of_beq_eq_true hc
            simp only [DataW.trod, hu] at hx
            split at hx
            · rename_i hlen
              obtain ⟨xs, hxs, he⟩ := Option.map_eq_some_iff.1 hx
              cases he
              -- each field's type has leaves
              have hfl : ∀ {gs : List Field} {o : Nat} {r : List LT}, flatFs P (flatT P d) o gs = some r → ∀ f ∈ gs, ∃ r', flatT P d f.type = some r' := by
                intro gs
                induction gs with
                | nil => intro o r _ f hf; cases hf
                | cons g gs ih =>
                  intro o r hr f hf
                  simp only [flatFs] at hr
                  split at hr
                  · split at hr
                    · cases hr
                    · rename_i r1 hr1
                      split at hr
                      · split at hr
                        · cases hr
                        · rename_i r2 hr2
                          rcases List.mem_cons.1 hf with rfl | hf
                          · exact ⟨r1, hr1⟩
                          · exact ih hr2 f hf
                      · cases hr
                  · cases hr
              have hall := fun w' base' sp' held' => mapM_carry (g := fun f : Field => DataW.trod enc P w' base' sp' held' fuel f.type ((cs.drop f.offset).take (P.cellsOf f.type))) hxs
                (fun f hf y hy => by
                  obtain ⟨r', hr'⟩ := hfl hl f hf
                  have := trod_flat d hr' fuel _ _ _ _ _ y.1 y.2 hy
                  exact ⟨by rw [this.2.2 w' base' sp' held', ← this.2.1], this.2.1⟩)
              refine ⟨?_, (hall w base sp held).2.1, fun w' base' sp' held' => ?_⟩
              · have := leaves_fields (P := P) (cs := cs) hl (by rw [hlen, hc1]; omega) (fun f hf r hr => by
                  obtain ⟨y, hy⟩ := (hall w base sp held).2.2 f hf
                  exact (trod_flat d hr fuel _ _ _ _ _ y.1 y.2 hy).1)
                simpa using this
              · obtain ⟨h1, h2, _⟩ := hall w' base' sp' held'
                simp only [DataW.trod, hu]
                rw [if_pos hlen, h1, Option.map_some, h2]
            · cases hx
          · cases h
      · cases h

def RangeOk : List LT → List DV → Prop
  | [], [] => True
  | .int k :: ts, .i n :: ds => (Lit.int k n).wf = true ∧ RangeOk ts ds
  | .bool :: ts, .b _ :: ds => True ∧ RangeOk ts ds
  | _, _ => False
theorem RangeOk.len : ∀ {ts : List LT} {ds : List DV}, RangeOk ts ds → ds.length = ts.length
  | [], [], _ => rfl
  | .int _ :: _, .i _ :: _, h => by simp [RangeOk.len h.2]
  | .bool :: _, .b _ :: _, h => by simp [RangeOk.len h.2]
  | [], _ :: _, h => h.elim
  | .int _ :: _, [], h => h.elim
  | .bool :: _, [], h => h.elim
  | .int _ :: _, .b _ :: _, h => h.elim
  | .bool :: _, .i _ :: _, h => h.elim
  | .int _ :: _, .l _ :: _, h => h.elim
  | .bool :: _, .l _ :: _, h => h.elim
  | .vec _ :: _, [], h => h.elim
  | .vec _ :: _, _ :: _, h => h.elim
theorem RangeOk.append : ∀ {a b : List LT} {c d : List DV}, RangeOk a c → RangeOk b d → RangeOk (a ++ b) (c ++ d)
  | [], _, [], _, _, h => h
  | .int _ :: _, _, .i _ :: _, _, h, h' => ⟨h.1, RangeOk.append h.2 h'⟩
  | .bool :: _, _, .b _ :: _, _, h, h' => ⟨trivial, RangeOk.append h.2 h'⟩
  | [], _, _ :: _, _, h, _ => h.elim
  | .int _ :: _, _, [], _, h, _ => h.elim
  | .bool :: _, _, [], _, h, _ => h.elim
  | .int _ :: _, _, .b _ :: _, _, h, _ => h.elim
  | .bool :: _, _, .i _ :: _, _, h, _ => h.elim
  | .int _ :: _, _, .l _ :: _, _, h, _ => h.elim
  | .bool :: _, _, .l _ :: _, _, h, _ => h.elim
  | .vec _ :: _, _, [], _, h, _ => h.elim
  | .vec _ :: _, _, _ :: _, _, h, _ => h.elim

theorem RangeOk.int_at : ∀ {ts : List LT} {ds : List DV} {k : IntKind} (i : Nat), RangeOk ts ds → ts[i]? = some (.int k) → (Lit.int k (dget ds i).toI).wf = true
  | .int k :: ts, .i n :: ds, k', 0, h, e => by
    simp at e
    subst e
    exact h.1
  | .int k :: ts, .i n :: ds, k', i + 1, h, e => by
    have := RangeOk.int_at i h.2 (by simpa using e)
    simpa [dget] using this
  | .bool :: ts, .b x :: ds, k', 0, h, e => by simp at e
  | .bool :: ts, .b x :: ds, k', i + 1, h, e => by
    have := RangeOk.int_at i h.2 (by simpa using e)
    simpa [dget] using this
  | [], _, _, _, _, e => by simp at e
  | .int _ :: _, [], _, _, h, _ => h.elim
  | .bool :: _, [], _, _, h, _ => h.elim
  | .int _ :: _, .b _ :: _, _, _, h, _ => h.elim
  | .bool :: _, .i _ :: _, _, _, h, _ => h.elim
  | .int _ :: _, .l _ :: _, _, _, h, _ => h.elim
  | .bool :: _, .l _ :: _, _, _, h, _ => h.elim
  | .vec _ :: _, [], _, _, h, _ => h.elim
  | .vec _ :: _, _ :: _, _, _, h, _ => h.elim

theorem dget_pre (pre : List DV) (d : DV) (post : List DV) : dget (pre ++ d :: post) pre.length = d := by
  simp [dget, List.getD_eq_getElem?_getD]

theorem leaves_vals : ∀ {ts : List LT} {vs : List Value}, Leaves ts vs → ∃ ds, RangeOk ts ds ∧ ∀ pre post : List DV, leafVals (dget (pre ++ ds ++ post)) pre.length ts = vs
  | [], [], _ => ⟨[], trivial, fun _ _ => rfl⟩
  | .int k :: ts, .int k' n :: vs, h => by
    obtain ⟨ds, h1, h2⟩ := leaves_vals h.2
    obtain ⟨⟨rfl, hw⟩, _⟩ := h
    refine ⟨.i n :: ds, ⟨hw, h1⟩, fun pre post => ?_⟩
    have := h2 (pre ++ [.i n]) post
    simp only [leafVals, List.append_assoc, List.cons_append, List.nil_append, List.length_append, List.length_cons, List.length_nil, Nat.zero_add] at this ⊢
    rw [this, dget_pre]
    rfl
  | .bool :: ts, .bool b :: vs, h => by
    obtain ⟨ds, h1, h2⟩ := leaves_vals h.2
    refine ⟨.b b :: ds, ⟨trivial, h1⟩, fun pre post => ?_⟩
    have := h2 (pre ++ [.b b]) post
    simp only [leafVals, List.append_assoc, List.cons_append, List.nil_append, List.length_append, List.length_cons, List.length_nil, Nat.zero_add] at this ⊢
    rw [this, dget_pre]
    rfl
  | [], _ :: _, h => h.elim
  | _ :: _, [], h => h.elim
  | .int _ :: _, .bool _ :: _, h => h.1.elim
  | .bool :: _, .int _ _ :: _, h => h.1.elim
  | .vec _ :: _, _ :: _, h => h.1.elim

theorem open_plain {w : World} {base b0 : Nat} {sp : Nat → Bool} {held : Bool} {r : Reach} {t : TypeId} {v : Value} {d : DataW H} {ps : List MemPlace} {s : Sh} (hs : shapeOf P t = some s)
    (hval : Value.okWide P w r b0 t v) (hd : DataW.Trod enc P w base sp held t v d ps) :
    ∃ ds : List DV, RangeOk s.lts ds ∧ ps = [] ∧ (∀ (pre post : List DV) (ss : List Sh), argVals (dget (pre ++ ds ++ post)) pre.length (s :: ss) = v :: argVals (dget (pre ++ ds ++ post)) (pre.length + ds.length) ss) ∧
      ∀ (w' : World) (base' : Nat) (sp' : Nat → Bool) (held' : Bool), DataW.Trod enc P w' base' sp' held' t v d [] := by
  obtain ⟨fuel, hf⟩ := hd
  unfold shapeOf at hs
  split at hs
  · rename_i hu
    cases hs
    obtain ⟨b, rfl⟩ := okWide_bool hu hval
    have hfl : flatT P 1 t = some [.bool] := by simp [flatT, hu]
    obtain ⟨_, h2, h3⟩ := trod_flat (enc := enc) 1 hfl fuel _ _ _ _ _ _ _ hf
    refine ⟨[.b b], ⟨trivial, trivial⟩, h2, fun pre post ss => ?_, fun w' base' sp' held' => ⟨fuel, h3 w' base' sp' held'⟩⟩
    simp only [argVals, List.append_assoc, List.cons_append, List.nil_append, dget_pre, List.length_cons, List.length_nil]
    rfl
  · rename_i k hu
    cases hs
    obtain ⟨n, rfl⟩ := okWide_int hu hval
    have hfl : flatT P 1 t = some [.int k] := by simp [flatT, hu]
    obtain ⟨h1, h2, h3⟩ := trod_flat (enc := enc) 1 hfl fuel _ _ _ _ _ _ _ hf
    refine ⟨[.i n], ⟨h1.1.2, trivial⟩, h2, fun pre post ss => ?_, fun w' base' sp' held' => ⟨fuel, h3 w' base' sp' held'⟩⟩
    simp only [argVals, List.append_assoc, List.cons_append, List.nil_append, dget_pre, List.length_cons, List.length_nil]
    rfl
  · rename_i n e hu
    obtain ⟨l, hl, rfl⟩ := Option.map_eq_some_iff.1 hs
    simp only [Value.okWide, hu] at hval
    obtain ⟨cs, rfl, _, _⟩ := hval
    obtain ⟨h1, h2, h3⟩ := trod_flat (enc := enc) 20 hl fuel _ _ _ _ _ _ _ hf
    obtain ⟨ds, h4, h5⟩ := leaves_vals h1
    refine ⟨ds, h4, h2, fun pre post ss => ?_, fun w' base' sp' held' => ⟨fuel, h3 w' base' sp' held'⟩⟩
    simp only [argVals, h5 pre post, ← h4.len]
    rfl
  · rename_i fs hu
    obtain ⟨l, hl, rfl⟩ := Option.map_eq_some_iff.1 hs
    simp only [Value.okWide, hu] at hval
    obtain ⟨cs, rfl, _, _⟩ := hval
    obtain ⟨h1, h2, h3⟩ := trod_flat (enc := enc) 20 hl fuel _ _ _ _ _ _ _ hf
    obtain ⟨ds, h4, h5⟩ := leaves_vals h1
    refine ⟨ds, h4, h2, fun pre post ss => ?_, fun w' base' sp' held' => ⟨fuel, h3 w' base' sp' held'⟩⟩
    simp only [argVals, h5 pre post, ← h4.len]
    rfl
  · cases hs

theorem open_all {w : World} {base b0 : Nat} {sp : Nat → Bool} {held : Bool} {r : Reach} : ∀ {ts : List TypeId} {vs : List Value} {ds : List (DataW H)} {ps : List MemPlace} {ss : List Sh}, shapesOf P ts = some ss →
    (∀ (j : Nat) t v, ts[j]? = some t → vs[j]? = some v → Value.okWide P w r b0 t v) → DataW.TrodAll enc P w base sp held ts vs ds ps →
    ∃ xs : List DV, RangeOk (ss.flatMap Sh.lts) xs ∧ ps = [] ∧ (∀ pre : List DV, argVals (dget (pre ++ xs)) pre.length ss = vs) ∧ ds.length = ts.length ∧
      ∀ (w' : World) (base' : Nat) (sp' : Nat → Bool) (held' : Bool), DataW.TrodAll enc P w' base' sp' held' ts vs ds []
  | [], [], [], ps, ss, hs, _, hd => by
    simp [shapesOf] at hs
    subst hs
    exact ⟨[], trivial, hd, fun _ => rfl, rfl, fun _ _ _ _ => rfl⟩
  | t :: ts, v :: vs, d :: ds, ps, ss, hs, hval, hd => by
    simp only [shapesOf] at hs
    split at hs
    · cases hs
    · rename_i s hs1
      split at hs
      · cases hs
      · rename_i r hs2
        cases hs
        obtain ⟨p, q, h1, h2, rfl⟩ := hd
        obtain ⟨xs, a1, rfl, a3, a4⟩ := open_plain hs1 (hval 0 t v rfl rfl) h1
        obtain ⟨ys, b1, rfl, b3, b5, b4⟩ := open_all hs2 (fun j t v ht hv => hval (j + 1) t v (by simpa using ht) (by simpa using hv)) h2
        refine ⟨xs ++ ys, by simpa using RangeOk.append a1 b1, rfl, fun pre => ?_, by simp [b5], fun w' base' sp' held' => ⟨[], [], a4 w' base' sp' held', b4 w' base' sp' held', rfl⟩⟩
        have e1 := a3 pre ys r
        have e2 := b3 (pre ++ xs)
        rw [List.length_append] at e2
        rw [← List.append_assoc, e1, e2]
  | [], _ :: _, _, _, _, _, _, hd => by cases hd
  | [], [], _ :: _, _, _, _, _, hd => by cases hd
  | _ :: _, [], _, _, _, _, _, hd => by cases hd
  | _ :: _, _ :: _, [], _, _, _, _, hd => by cases hd
end

section
variable {C : Checked} {os : Os} {f : FuncId} {fn : Func} {s : ChangeSpec} {H : Type} {enc : TypeId × Value → H} {sg : Sig} {G : List DV → List DV} {I : World → Prop}

theorem post_plain {W W' : World} {args : Array Value} {ds gs : List (DataW H)} {tb : TypeId} (hW : DataW.Whole enc C.prog fn.params.toList s.vars false W args.toList ds gs [])
    (hrt : fn.resultTypes = #[tb]) (htb : C.prog.underlying tb = some .bool) (hvars : s.vars = [])
    (hs : s.fn H (ds ++ gs) = { results := [.lit (.bool true)], args := ds })
    (hargs : ∀ (w' : World) (base' : Nat) (sp' : Nat → Bool) (held' : Bool), DataW.TrodAll enc C.prog w' base' sp' held' fn.params.toList args.toList ds [])
    (hb : Below W.heap.size W W') : s.post enc C.prog fn false true false false W args (.bool true) W' := by
  refine ⟨ds, gs, [], [], [], [], hW, ?_, ?_, ?_, hb.frame _, fun h => by cases h⟩
  · rw [hs, hrt]
    exact trodAll_mk1 (shut_bool htb true)
  · rw [hs]
    exact hargs _ _ _ _
  · rw [hs, hvars]
    rfl

structure LawSig (sg : Sig) (ss : List Sh) : Prop where
  ins : sg.ins = patShapes 0 ss
  hin : sg.hin = []
  nin : sg.nin = nIn ss
  out : sg.out = .s (.one (.b (.h 0)))
  hout : sg.hout = []
  ots : sg.ots = [.b]

theorem law_contract {gK : Nat} {ss : List Sh} (k : FnOK C.prog I gK f sg G) (hsh : shapesOf C.prog fn.params.toList = some ss) (hl : LawSig sg ss) {tb : TypeId} (hrt : fn.resultTypes = #[tb])
    (htb : C.prog.underlying tb = some .bool) (hvars : s.vars = []) (hs : ∀ ds : List (DataW H), ds.length = fn.params.size → s.fn H ds = { results := [.lit (.bool true)], args := ds })
    (hG : ∀ xs, RangeOk (ss.flatMap Sh.lts) xs → (sg.need = true → (dget (G xs) 0).toB = true) ∧ (dget (G xs) (if sg.need then 1 else 0)).toB = true)
    {W : World} {base : Nat} {args : Array Value} {ds gs : List (DataW H)} {before : List MemPlace}
    (hval : ∀ (j : Nat) t v, fn.params[j]? = some t → args[j]? = some v → Value.okWide C.prog W .any base t v)
    (hW : DataW.Whole enc C.prog fn.params.toList s.vars false W args.toList ds gs before) (hI : I W) (hK : gK ≤ W.heap.size) :
    Calls C.prog f args W fun e W' => ∃ v, e = .returned v ∧ s.post enc C.prog fn false true false false W args v W' := by
  have hW0 := hW
  obtain ⟨p, q, hA, hV, rfl, _, _⟩ := hW
  rw [hvars] at hV
  obtain ⟨rfl, rfl⟩ := trodVars_none hV
  obtain ⟨xs, h1, rfl, h2, h3, h4⟩ := open_all hsh (fun j t v ht hv => hval j t v (by simpa using ht) (by simpa using hv)) hA
  have hx : nIn ss = (ss.flatMap Sh.lts).length := by
    unfold nIn
    rw [List.length_flatMap]
  have hg := hG xs h1
  have hhin : sg.hinI = [] := by unfold Sig.hinI; rw [hl.hin]; rfl
  have hempty : ∀ (E : Env) (ν : Nat → DV), HRel E ν (fun _ => default) [] W := fun E ν =>
    ⟨fun j bk hj => (by cases j <;> cases hj), fun j j' bk bk' hj => (by cases j <;> cases hj)⟩
  have hnW : ∀ b, ¬ (callEnv sg.hinI (fun _ => default) W).W b := fun b ⟨j, bk, hj, _⟩ => by rw [hhin] at hj; cases j <;> cases hj
  obtain ⟨c1, c2⟩ := patShapes_conc (n := sg.nin) (dget xs) (fun _ => default) ss 0 (by rw [hl.nin]; omega)
  have hins : sg.insI = (patShapes 0 ss).map (V.inst (idsFrom 0 sg.nin)) := by unfold Sig.insI; rw [hl.ins]
  have hk := k xs (fun _ => default) W hI (by rw [hl.nin, hx]; exact h1.len) hg.1 hK (fun b hb => absurd hb (hnW b)) (by rw [hins]; exact c2)
    (by rw [hhin]; exact hempty _ _)
  have ha : (sg.insI.map (V.conc (dget xs) fun _ => default)).toArray = args := by
    rw [hins, c1]
    apply Array.ext'
    simpa using h2 []
  rw [ha] at hk
  refine hk.mono fun e W' ⟨v, ρ', he, hc⟩ => ⟨.bool true, ?_, post_plain (s := s) hW0 hrt htb hvars ?_ h4 (hc.fr.weaken (W' := fun _ => False) fun b hb => hnW b hb).below⟩
  · rw [he, hc.val]
    have : sg.outI.conc (sg.res (G xs)) ρ' = .bool (dget (G xs) (if sg.need then 1 else 0)).toB := by
      unfold Sig.outI Sig.res
      rw [hl.out, hl.ots]
      show Value.bool (dget (G xs) (0 + _)).toB = _
      rw [Nat.zero_add]
    rw [this, hg.2]
  · rw [List.append_nil]
    exact hs ds (by simpa using h3)

theorem law_lifted {gK : Nat} {ss : List Sh} (k : FnOK C.prog I gK f sg G) (hsh : shapesOf C.prog fn.params.toList = some ss) (hl : LawSig sg ss) {tb : TypeId} (hrt : fn.resultTypes = #[tb])
    (htb : C.prog.underlying tb = some .bool) (hvars : s.vars = []) (hs : ∀ ds : List (DataW H), ds.length = fn.params.size → s.fn H ds = { results := [.lit (.bool true)], args := ds })
    (hG : ∀ xs, RangeOk (ss.flatMap Sh.lts) xs → (sg.need = true → (dget (G xs) 0).toB = true) ∧ (dget (G xs) (if sg.need then 1 else 0)).toB = true)
    (hI : ∀ W, I W) (hK : gK = 0)
    (own : ownKnob C.prog.godebug = none) (started : os.Started) (noInit : C.prog.inits.idxOf? f = none) (hfn : C.prog.funcs[f]? = some fn)
    (witness : ∃ (w : World) (tape : Tape) (i : Input), w.os = os ∧ (w.forCall tape i).Shaped C.prog ∧ i.vars = [] ∧ Input.okWide C.prog (w.forCall tape i) .any w.heap.size f i ∧
      s.pre6 enc C.prog fn [] false (w.forCall tape i).memory i.args ∧ ({} : Assume).holds C.prog (lone (Frame.enter C.prog f i.args .normal) [] (w.forCall tape i))) :
    ReturnsInHanded {} C os f .any (s.pre6 enc C.prog fn [] false) (s.post enc C.prog fn false true false false) :=
  returnsInHanded_of_change (C := C) own started noInit hfn witness
    fun W _ _ _ _ _ hval hW _ _ => law_contract k hsh hl hrt htb hvars hs hG hval hW (hI W) (by rw [hK]; exact Nat.zero_le _)
end
end Go.Sx

namespace Go.Rnd
theorem rnd_modes {f b : Nat} {mi : Bool} {M : Nat} {E : Int} {more : Bool} (hb : 1 ≤ b) (hM : 0 < M) (hmore : more = true → f + 2 ≤ blen M) :
    (∃ L : Nat, L < infF f b ∧ ∀ rm : Int, rnd f b rm mi M E more = (L, 0)) ∨
    (∃ L : Nat, L < infF f b ∧ (∀ rm : Int, ((rnd f b rm mi M E more).2 = 1 ∨ (rnd f b rm mi M E more).2 = 3 ∨ (rnd f b rm mi M E more).2 = 5) ∧ ((rnd f b rm mi M E more).1 = L ∨ (rnd f b rm mi M E more).1 = L + 1)) ∧
      (rnd f b 1 mi M E more).1 = L ∧ (rnd f b 2 mi M E more).1 = (if mi then L + 1 else L) ∧ (rnd f b 3 mi M E more).1 = (if mi then L else L + 1)) := by
  have hi : 0 < infF f b := Nat.mul_pos (by omega) (Nat.two_pow_pos f)
  have e := fun rm => rnd_eq (f := f) (b := b) (rm := rm) (minus := mi) (E := E) (more := more) hb hM
  generalize hV : qOf f b M E + nOf f b M E * 2 ^ f = V at *
  by_cases hov : infF f b ≤ V
  · refine .inr ⟨infF f b - 1, by omega, ?_, ?_, ?_, ?_⟩
    · intro rm
      rw [e rm]; unfold tolF
      rw [if_pos (by omega)]
      refine ⟨.inr (.inr rfl), ?_⟩
      show infF f b - dnB rm mi = _ ∨ infF f b - dnB rm mi = _
      unfold dnB; split <;> omega
    · rw [e 1]; unfold tolF; rw [if_pos (by omega)]; rfl
    · rw [e 2]; unfold tolF; rw [if_pos (by omega)]
      show infF f b - dnB 2 mi = _
      cases mi
      · rfl
      · show infF f b - 0 = infF f b - 1 + 1
        omega
    · rw [e 3]; unfold tolF; rw [if_pos (by omega)]
      show infF f b - dnB 3 mi = _
      cases mi
      · show infF f b - 0 = infF f b - 1 + 1
        omega
      · rfl
  · cases hex : exOf f b M E more
    · refine .inr ⟨V, by omega, ?_, ?_, ?_, ?_⟩
      all_goals (have hup : 0 < lastOf f b (blen M + E) - E := by
                  unfold exOf exaN at hex
                  by_cases h0 : lastOf f b (blen M + E) - E ≤ 0
                  · rw [if_pos h0] at hex
                    have := hmore (by cases more; cases hex; rfl)
                    unfold lastOf at h0 ⊢
                    split at h0 <;> omega
                  · omega)
      all_goals (obtain ⟨u1, u2, u3⟩ := upM_modes (minus := mi) hex hup)
      · intro rm
        rw [e rm]; unfold tolF; rw [hex]
        by_cases h1 : infF f b ≤ V + (if upOf f b rm mi M E more = true then 1 else 0)
        · rw [if_pos h1]
          refine ⟨.inr (.inr rfl), ?_⟩
          have h2 : infF f b = V + 1 := by split at h1 <;> omega
          show infF f b - dnB rm mi = _ ∨ infF f b - dnB rm mi = _
          unfold dnB; split <;> omega
        · rw [if_neg h1]
          refine ⟨?_, ?_⟩
          · show (if false = true then 0 else if _ then 3 else 1) = _ ∨ _
            simp only [Bool.false_eq_true, if_false]
            split
            · exact .inr (.inl rfl)
            · exact .inl rfl
          · show V + (if upOf f b rm mi M E more = true then 1 else 0) = _ ∨ _
            split
            · exact .inr rfl
            · exact .inl rfl
      · rw [e 1]; unfold tolF
        have : upOf f b 1 mi M E more = false := u1
        rw [this, if_neg Bool.false_ne_true, Nat.add_zero, if_neg hov]
      · rw [e 2]; unfold tolF
        have : upOf f b 2 mi M E more = mi := u2
        rw [this]
        cases mi
        · rw [if_neg Bool.false_ne_true, Nat.add_zero, if_neg hov]; rfl
        · rw [if_pos rfl]
          by_cases h1 : infF f b ≤ V + 1
          · rw [if_pos h1]; show infF f b - 0 = V + 1; omega
          · rw [if_neg h1]; rfl
      · rw [e 3]; unfold tolF
        have : upOf f b 3 mi M E more = !mi := u3
        rw [this]
        cases mi
        · rw [Bool.not_false, if_pos rfl]
          by_cases h1 : infF f b ≤ V + 1
          · rw [if_pos h1]; show infF f b - 0 = V + 1; omega
          · rw [if_neg h1]; rfl
        · rw [Bool.not_true, if_neg Bool.false_ne_true, Nat.add_zero, if_neg hov]; rfl
    · refine .inl ⟨V, by omega, fun rm => ?_⟩
      rw [e rm]
      have : upOf f b rm mi M E more = false := upM_exact hex
      unfold tolF
      rw [this, if_neg Bool.false_ne_true, Nat.add_zero, if_neg hov, hex]; rfl
end Go.Rnd
namespace Go.Proofs.Ytacciadcmiiimaa
open Go Go.Sx Go.Rnd
set_option maxRecDepth 100000
set_option maxHeartbeats 2000000

def Shape (s : Int) (F : Int → Nat × Nat) : Prop :=
  (∃ w fl : Nat, w < 18446744073709551616 ∧ (fl = 0 ∨ fl = 8 ∨ fl = 16) ∧ ∀ rm, F rm = (w, fl)) ∨ (∀ rm, F rm = (sgB s (rm == 2), 0)) ∨
  (∃ (mi : Bool) (M : Nat) (E : Int) (more : Bool), 0 < M ∧ (more = true → frN s + 2 ≤ blen M) ∧ ∀ rm, F rm = rndP s rm mi M E more)
def opS (o s rm : Int) (a b c : Nat) : Nat × Nat := if o = 0 then addS s rm a b else if o = 1 then mulS s rm a b else if o = 2 then divS s rm a b else if o = 3 then sqrtS s rm a else fmaS s rm a b c
section
variable {s : Int} (hs : s = 4 ∨ s = 8) {a b c : Nat} (ha : a < 18446744073709551616) (hb : b < 18446744073709551616) (hc : c < 18446744073709551616)
include hs
theorem w_lt : quiB s < 18446744073709551616 ∧ ∀ mi, sgB s mi + infB s < 18446744073709551616 ∧ sgB s mi < 18446744073709551616 := by
  refine ⟨?_, fun mi => ?_⟩
  · rcases hs with rfl | rfl <;> decide
  · rcases hs with rfl | rfl <;> cases mi <;> decide
theorem mk_word (ha : a < 18446744073709551616) : mkN s a < 18446744073709551616 := by
  have h1 := mk_lt hs ha
  obtain ⟨f1, f2, f3, f4, f5, f6, f7, f8, f9, f10⟩ := size_facts hs
  omega
theorem odd_shape (inv loud : Bool) : ∃ w fl : Nat, w < 18446744073709551616 ∧ (fl = 0 ∨ fl = 8 ∨ fl = 16) ∧ oddP s inv loud = (w, fl) :=
  ⟨quiB s, _, (w_lt hs).1, by split; exact .inr (.inr rfl); exact .inl rfl, rfl⟩
theorem sum_shape {mx my : Bool} {Mx My : Nat} {Ex Ey : Int} : Shape s (fun rm => sumS s rm mx Mx Ex my My Ey) := by
  unfold sumS
  by_cases h : mx = my
  · by_cases h2 : Mx * 2 ^ (Ex - minE Ex Ey).toNat + My * 2 ^ (Ey - minE Ex Ey).toNat = 0
    · refine .inl ⟨sgB s mx, 0, ((w_lt hs).2 mx).2, .inl rfl, fun rm => ?_⟩
      show (if mx = my then _ else _) = _
      rw [if_pos h, if_pos h2]
    · refine .inr (.inr ⟨mx, Mx * 2 ^ (Ex - minE Ex Ey).toNat + My * 2 ^ (Ey - minE Ex Ey).toNat, minE Ex Ey, false, by omega, by simp, fun rm => ?_⟩)
      show (if mx = my then _ else _) = _
      rw [if_pos h, if_neg h2]
  · by_cases h2 : Mx * 2 ^ (Ex - minE Ex Ey).toNat = My * 2 ^ (Ey - minE Ex Ey).toNat
    · refine .inr (.inl fun rm => ?_)
      show (if mx = my then _ else _) = _
      rw [if_neg h, if_pos h2]
    · by_cases h3 : Mx * 2 ^ (Ex - minE Ex Ey).toNat < My * 2 ^ (Ey - minE Ex Ey).toNat
      · refine .inr (.inr ⟨my, My * 2 ^ (Ey - minE Ex Ey).toNat - Mx * 2 ^ (Ex - minE Ex Ey).toNat, minE Ex Ey, false, by omega, by simp, fun rm => ?_⟩)
        show (if mx = my then _ else _) = _
        rw [if_neg h, if_neg h2, if_pos h3]
      · refine .inr (.inr ⟨mx, Mx * 2 ^ (Ex - minE Ex Ey).toNat - My * 2 ^ (Ey - minE Ex Ey).toNat, minE Ex Ey, false, by omega, by simp, fun rm => ?_⟩)
        show (if mx = my then _ else _) = _
        rw [if_neg h, if_neg h2, if_neg h3]
theorem shape_if {c : Bool} {w fl : Nat} {G : Int → Nat × Nat} (hw : w < 18446744073709551616) (hf : fl = 0 ∨ fl = 8 ∨ fl = 16) (h : c = false → Shape s G) : Shape s (fun rm => if c = true then (w, fl) else G rm) := by
  have _ := hs
  cases c
  · exact h rfl
  · exact .inl ⟨w, fl, hw, hf, fun _ => rfl⟩
theorem shape_odd {c inv loud : Bool} {G : Int → Nat × Nat} (h : c = false → Shape s G) : Shape s (fun rm => if c = true then oddP s inv loud else G rm) := by
  obtain ⟨w, fl, h1, h2, h3⟩ := odd_shape hs inv loud
  rw [h3]
  exact shape_if hs h1 h2 h
include ha hb hc
theorem op_shape (o : Int) : Shape s (fun rm => opS o s rm a b c) := by
  obtain ⟨l1, l2⟩ := w_lt hs
  have la := mk_word hs ha
  have lb := mk_word hs hb
  have lc := mk_word hs hc
  unfold opS
  by_cases h0 : o = 0
  · simp only [if_pos h0]
    unfold addS
    exact shape_odd hs fun _ => shape_if hs la (.inl rfl) fun _ => shape_if hs lb (.inl rfl) fun _ => sum_shape hs
  simp only [if_neg h0]
  by_cases h1 : o = 1
  · simp only [if_pos h1]
    unfold mulS
    refine shape_odd hs fun hN => shape_if hs (l2 _).1 (.inl rfl) fun hI => shape_if hs (l2 _).2 (.inl rfl) fun hZ => ?_
    simp only [Bool.or_eq_false_iff] at hN hI hZ
    have fa : finN s a = true := by unfold finN; rw [hN.1.2, hI.1, hZ.1]; rfl
    have fb : finN s b = true := by unfold finN; rw [hN.2, hI.2, hZ.2]; rfl
    exact .inr (.inr ⟨_, _, _, _, Nat.mul_pos (fM_pos hs ha fa) (fM_pos hs hb fb), by simp, fun _ => rfl⟩)
  simp only [if_neg h1]
  by_cases h2 : o = 2
  · simp only [if_pos h2]
    unfold divS
    refine shape_odd hs fun hN => shape_if hs (l2 _).1 (.inl rfl) fun hI => shape_if hs (l2 _).2 (.inl rfl) fun hZ => shape_if hs (l2 _).1 (.inr (.inl rfl)) fun hY => ?_
    simp only [Bool.or_eq_false_iff] at hN hZ
    have fa : finN s a = true := by unfold finN; rw [hN.1.2, hI, hZ.2]; rfl
    have fb : finN s b = true := by unfold finN; rw [hN.2, hZ.1, hY]; rfl
    have pa := fM_pos hs ha fa
    have pb := fM_pos hs hb fb
    have bb := blenM hs hb
    obtain ⟨f1, _⟩ := size_facts hs
    have hbig : 2 ^ 77 ≤ fM s a * 2 ^ 130 / fM s b := by
      rw [Nat.le_div_iff_mul_le pb]
      have h5 : fM s b < 2 ^ 53 := blen_le.1 bb
      have h6 : 2 ^ 77 * fM s b ≤ 2 ^ 77 * 2 ^ 53 := Nat.mul_le_mul_left _ (Nat.le_of_lt h5)
      rw [← Nat.pow_add] at h6
      exact Nat.le_trans h6 (Nat.le_mul_of_pos_left _ pa)
    refine .inr (.inr ⟨_, _, _, _, Nat.lt_of_lt_of_le (by decide) hbig, fun _ => ?_, fun _ => rfl⟩)
    have := lt_blen.2 hbig
    omega
  simp only [if_neg h2]
  by_cases h3 : o = 3
  · simp only [if_pos h3]
    unfold sqrtS
    refine shape_odd hs fun hN => shape_if hs la (.inl rfl) fun hZ => ?_
    simp only [Bool.or_eq_false_iff] at hN hZ
    have fa : finN s a = true := by unfold finN; rw [hN.2, hZ.1, hZ.2]; rfl
    have pa := fM_pos hs ha fa
    obtain ⟨f1, _⟩ := size_facts hs
    obtain ⟨i1, i2⟩ := isq_ok (fM s a * 2 ^ sqN s a)
    have hbig : 2 ^ 79 ≤ isq (fM s a * 2 ^ sqN s a) := by
      refine Nat.le_of_not_lt fun hc2 => ?_
      have h5 : (isq (fM s a * 2 ^ sqN s a) + 1) * (isq (fM s a * 2 ^ sqN s a) + 1) ≤ 2 ^ 79 * 2 ^ 79 := Nat.mul_le_mul hc2 hc2
      rw [← Nat.pow_add] at h5
      have h6 : 2 ^ 160 ≤ fM s a * 2 ^ sqN s a := by
        refine Nat.le_trans ?_ (Nat.le_mul_of_pos_left _ pa)
        exact Nat.pow_le_pow_right (by decide) (by unfold sqN; split <;> decide)
      have h7 : (2:Nat) ^ (79 + 79) ≤ 2 ^ 160 := Nat.pow_le_pow_right (by decide) (by decide)
      omega
    refine .inr (.inr ⟨_, _, _, _, Nat.lt_of_lt_of_le (by decide) hbig, fun _ => ?_, fun _ => rfl⟩)
    have := lt_blen.2 hbig
    omega
  simp only [if_neg h3]
  unfold fmaS
  exact shape_odd hs fun _ => shape_if hs (l2 _).1 (.inl rfl) fun _ => shape_if hs lc (.inl rfl) fun _ => sum_shape hs
end
end Go.Proofs.Ytacciadcmiiimaa

namespace Go.Proofs.Ytacciadcmiiimaa
open Go Go.Sx Go.Rnd
set_option maxRecDepth 100000
set_option maxHeartbeats 2000000

def keyN (s : Int) (w : Nat) : Int := if sgN s w then -(magN s w : Int) else (magN s w : Int)
section
variable {s : Int} (hs : s = 4 ∨ s = 8) {a b c : Nat} (ha : a < 18446744073709551616) (hb : b < 18446744073709551616) (hc : c < 18446744073709551616)
include hs ha
theorem key_ok : p55 s = true ∧ r55_0 s (a : Int) = keyN s a := by
  obtain ⟨t1, t2⟩ := top_is hs
  have hm := mask_ok hs ha
  have hw := word_is hs ha
  obtain ⟨p1, p2, p3⟩ := mag_parts hs a
  obtain ⟨f1, f2, f3, f4, f5, f6, f7, f8, f9, f10⟩ := size_facts hs
  have hb := top_bit hs (mi := sgN s a) p3
  have ho := g_off hs (uN ha)
  have ht : top s = (topN s : Int) := by rcases hs with rfl | rfl <;> rfl
  rw [ht, hm, mag_nat hs] at ho
  have x8 : ((sgB s (sgN s a) : Int) != 0) = sgN s a := by
    unfold sgB
    rcases hs with rfl | rfl <;> cases sgN _ a <;> decide
  constructor
  · simp only [p55, t2, ow_t]; rfl
  · simp only [r55_0, t1, hm, ho]
    rw [← hw] at hb
    rw [hb, x8, wrap_i64_of (n := (magN s a : Int)) (by omega) (by omega), wrap_i64_of (n := 0 - (magN s a : Int)) (by omega) (by omega)]
    unfold keyN
    cases hsg : sgN s a
    · have : mkN s a = magN s a := by rw [hw, hsg]; exact Nat.zero_add _
      rw [this, wrap_i64_of (by omega) (by omega)]; rfl
    · simp only [Bool.not_true, cond_false, if_true]; omega
include hb hc
theorem sel_ok (o : Int) {rm : Int} (h0 : 0 ≤ rm) (h1 : rm ≤ 4) :
    ((bif o == 0 then r54_0 s rm a b else bif o == 1 then r44_0 s rm a b else bif o == 2 then r46_0 s rm a b else bif o == 3 then r48_0 s rm a else r50_0 s rm a b c) = ((opS o s rm a b c).1 : Int) ∧
    (bif o == 0 then r54_1 s rm a b else bif o == 1 then r44_1 s rm a b else bif o == 2 then r46_1 s rm a b else bif o == 3 then r48_1 s rm a else r50_1 s rm a b c) = ((opS o s rm a b c).2 : Int)) ∧
    (p54 s rm a b = true ∧ p44 s rm a b = true ∧ p46 s rm a b = true ∧ p48 s rm a = true ∧ p50 s rm a b c = true) := by
  obtain ⟨a0, a1, a2⟩ := sadd_ok hs h0 h1 ha hb
  obtain ⟨b0, b1, b2⟩ := smul_ok hs h0 h1 ha hb
  obtain ⟨c0, c1, c2⟩ := sdiv_ok hs h0 h1 ha hb
  obtain ⟨d0, d1, d2⟩ := ssqrt_ok hs h0 h1 ha
  obtain ⟨e0, e1, e2⟩ := sfma_ok hs h0 h1 ha hb hc
  refine ⟨?_, a0, b0, c0, d0, e0⟩
  unfold opS
  by_cases k0 : o = 0
  · subst k0; exact ⟨a1, a2⟩
  · rw [if_neg k0, beq_eq_false_iff_ne.2 k0]
    by_cases k1 : o = 1
    · subst k1; exact ⟨b1, b2⟩
    · rw [if_neg k1, beq_eq_false_iff_ne.2 k1]
      by_cases k2 : o = 2
      · subst k2; exact ⟨c1, c2⟩
      · rw [if_neg k2, beq_eq_false_iff_ne.2 k2]
        by_cases k3 : o = 3
        · subst k3; exact ⟨d1, d2⟩
        · rw [if_neg k3, beq_eq_false_iff_ne.2 k3]
          exact ⟨e1, e2⟩
end
theorem fl_one {f : Nat} (h : f = 1 ∨ f = 3 ∨ f = 5) : iland .i64 (f : Int) 1 = 1 := by rcases h with rfl | rfl | rfl <;> decide +kernel
theorem fl_none {f : Nat} (h : f = 0 ∨ f = 8 ∨ f = 16) : iland .i64 (f : Int) 1 = 0 := by rcases h with rfl | rfl | rfl <;> decide +kernel
def midK (k0 k1 k2 k3 k4 : Int) : Bool :=
  ((((k3 == IntKind.wrap .i64 (k2 + 1)) && ((k0 == k2) || (k0 == k3))) && ((k4 == k2) || (k4 == k3))) &&
    (k1 == (bif decide (k2 ≥ 0) then k2 else bif (decide (k2 < 0) || decide (k3 ≤ 0)) then k3 else k2)))
theorem midK_ok {L : Int} (h0 : 0 ≤ L) (h1 : L < 9223372036854775807) (mi : Bool) {m0 m1 m2 m3 m4 : Int} (e0 : m0 = L ∨ m0 = L + 1) (e1 : m1 = L) (e2 : m2 = if mi then L + 1 else L) (e3 : m3 = if mi then L else L + 1) (e4 : m4 = L ∨ m4 = L + 1) :
    midK (if mi then -m0 else m0) (if mi then -m1 else m1) (if mi then -m2 else m2) (if mi then -m3 else m3) (if mi then -m4 else m4) = true := by
  unfold midK
  subst e1 e2 e3
  cases mi
  · simp only [Bool.false_eq_true, if_false]
    rw [wrap_i64_of (by omega) (by omega), decide_eq_true (show m1 ≥ 0 from h0)]
    simp only [cond_true, Bool.and_eq_true, Bool.or_eq_true, beq_iff_eq]
    exact ⟨⟨⟨trivial, e0⟩, e4⟩, trivial⟩
  · simp only [if_true]
    rw [wrap_i64_of (by omega) (by omega), decide_eq_false (show ¬ -(m1 + 1) ≥ 0 by omega), decide_eq_true (show -(m1 + 1) < 0 by omega)]
    simp only [cond_true, cond_false, Bool.true_or, Bool.and_eq_true, Bool.or_eq_true, beq_iff_eq]
    refine ⟨⟨⟨?_, ?_⟩, ?_⟩, ?_⟩ <;> first | trivial | omega
def end14 (n0 n1 n2 n3 n4 : Bool) (v0 v1 v2 v3 v4 f0 f1 f2 f3 f4 k0 k1 k2 k3 k4 : Int) : Bool :=
  bif !n0 then
    ((!((iland .i64 f0 1 != iland .i64 f0 1) || n0)) && ((!((iland .i64 f1 1 != iland .i64 f0 1) || n1)) && ((!((iland .i64 f2 1 != iland .i64 f0 1) || n2)) && ((!((iland .i64 f3 1 != iland .i64 f0 1) || n3)) && (!((iland .i64 f4 1 != iland .i64 f0 1) || n4)))))) &&
    (bif !(iland .i64 f0 1 == 0) then midK k0 k1 k2 k3 k4 else ((((k1 == k0) && (k2 == k0)) && (k3 == k0)) && (k4 == k0)))
  else (((((((((v1 == v0) && (v2 == v0)) && (v3 == v0)) && (v4 == v0)) && (f1 == f0)) && (f2 == f0)) && (f3 == f0)) && (f4 == f0)))
theorem law_modes {n m a b c : Int} (ha : 0 ≤ a ∧ a < 18446744073709551616) (hb : 0 ≤ b ∧ b < 18446744073709551616) (hc : 0 ≤ c ∧ c < 18446744073709551616) : p14 n m a b c = true ∧ r14_0 n m a b c = true := by
  obtain ⟨a, rfl, ka⟩ := u64_nat ha
  obtain ⟨b, rfl, kb⟩ := u64_nat hb
  obtain ⟨c, rfl, kc⟩ := u64_nat hc
  obtain ⟨aw1, aw2⟩ := soft_awake
  have hs := size_is n
  generalize hS : r52_0 n = s at *
  generalize hO : r53_0 m = o at *
  obtain ⟨⟨a0, b0⟩, g01, g02, g03, g04, g05⟩ := sel_ok hs ka kb kc o (rm := 0) (by decide) (by decide)
  obtain ⟨⟨a1, b1⟩, g11, g12, g13, g14, g15⟩ := sel_ok hs ka kb kc o (rm := 1) (by decide) (by decide)
  obtain ⟨⟨a2, b2⟩, g21, g22, g23, g24, g25⟩ := sel_ok hs ka kb kc o (rm := 2) (by decide) (by decide)
  obtain ⟨⟨a3, b3⟩, g31, g32, g33, g34, g35⟩ := sel_ok hs ka kb kc o (rm := 3) (by decide) (by decide)
  obtain ⟨⟨a4, b4⟩, g41, g42, g43, g44, g45⟩ := sel_ok hs ka kb kc o (rm := 4) (by decide) (by decide)
  have n0 : p39 s = true := by rcases hs with rfl | rfl <;> decide
  have k0 : p55 s = true := (key_ok hs ka).1
  constructor
  · simp only [p14, hS, hO, aw1, g01, g02, g03, g04, g05, g11, g12, g13, g14, g15, g21, g22, g23, g24, g25, g31, g32, g33, g34, g35, g41, g42, g43, g44, g45, n0, k0, ow_t]; rfl
  · have hend : r14_0 n m a b c = (r43_0 && end14 (r39_0 s ((opS o s 0 a b c).1 : Int)) (r39_0 s ((opS o s 1 a b c).1 : Int)) (r39_0 s ((opS o s 2 a b c).1 : Int)) (r39_0 s ((opS o s 3 a b c).1 : Int)) (r39_0 s ((opS o s 4 a b c).1 : Int))
        ((opS o s 0 a b c).1 : Int) ((opS o s 1 a b c).1 : Int) ((opS o s 2 a b c).1 : Int) ((opS o s 3 a b c).1 : Int) ((opS o s 4 a b c).1 : Int)
        ((opS o s 0 a b c).2 : Int) ((opS o s 1 a b c).2 : Int) ((opS o s 2 a b c).2 : Int) ((opS o s 3 a b c).2 : Int) ((opS o s 4 a b c).2 : Int)
        (r55_0 s ((opS o s 0 a b c).1 : Int)) (r55_0 s ((opS o s 1 a b c).1 : Int)) (r55_0 s ((opS o s 2 a b c).1 : Int)) (r55_0 s ((opS o s 3 a b c).1 : Int)) (r55_0 s ((opS o s 4 a b c).1 : Int))) := by
      simp only [r14_0, hS, hO, a0, a1, a2, a3, a4, b0, b1, b2, b3, b4, Bool.not_not]
      rfl
    rw [hend, aw2, Bool.true_and]
    have nk : ∀ w : Nat, w < 18446744073709551616 → r39_0 s (w : Int) = nanN s w ∧ r55_0 s (w : Int) = keyN s w := fun w hw => ⟨(nan_ok hs hw).2, (key_ok hs hw).2⟩
    rcases op_shape hs ka kb kc o with ⟨w, fl, hw, hf, e⟩ | e | ⟨mi, M, E, more, hM, hmore, e⟩
    · have e : ∀ rm, opS o s rm a b c = (w, fl) := e
      rw [e 0, e 1, e 2, e 3, e 4]
      show end14 (r39_0 s (w : Int)) (r39_0 s (w : Int)) (r39_0 s (w : Int)) (r39_0 s (w : Int)) (r39_0 s (w : Int)) w w w w w fl fl fl fl fl (r55_0 s (w : Int)) (r55_0 s (w : Int)) (r55_0 s (w : Int)) (r55_0 s (w : Int)) (r55_0 s (w : Int)) = true
      rw [(nk w hw).1, (nk w hw).2]
      unfold end14
      rw [fl_none hf]
      simp only [beq_self_eq_true, bne_self_eq_false]
      cases nanN s w <;> rfl
    · have e : ∀ rm, opS o s rm a b c = (sgB s (rm == 2), 0) := e
      rw [e 0, e 1, e 2, e 3, e 4]
      have z : ∀ x : Bool, r39_0 s ((sgB s x : Nat) : Int) = false ∧ r55_0 s ((sgB s x : Nat) : Int) = 0 := fun x => by
        obtain ⟨u1, u2, u3, u4, u5⟩ := zero_word hs ka kb x
        obtain ⟨q1, q2⟩ := nk _ u5
        refine ⟨q1.trans u2, q2.trans ?_⟩
        obtain ⟨w1, w2, w3, w4⟩ := w_parts hs (mi := x) (v := 0) (by have := one_pos hs; omega)
        rw [Nat.add_zero] at w2
        unfold keyN; rw [w2]; split <;> rfl
      show end14 (r39_0 s ((sgB s (0 == (2 : Int)) : Nat) : Int)) (r39_0 s ((sgB s (1 == (2 : Int)) : Nat) : Int)) (r39_0 s ((sgB s (2 == (2 : Int)) : Nat) : Int)) (r39_0 s ((sgB s (3 == (2 : Int)) : Nat) : Int)) (r39_0 s ((sgB s (4 == (2 : Int)) : Nat) : Int)) _ _ _ _ _ ((0 : Nat) : Int) ((0 : Nat) : Int) ((0 : Nat) : Int) ((0 : Nat) : Int) ((0 : Nat) : Int)
        (r55_0 s ((sgB s (0 == (2 : Int)) : Nat) : Int)) (r55_0 s ((sgB s (1 == (2 : Int)) : Nat) : Int)) (r55_0 s ((sgB s (2 == (2 : Int)) : Nat) : Int)) (r55_0 s ((sgB s (3 == (2 : Int)) : Nat) : Int)) (r55_0 s ((sgB s (4 == (2 : Int)) : Nat) : Int)) = true
      rw [(z _).1, (z _).1, (z _).1, (z _).1, (z _).1, (z _).2, (z _).2, (z _).2, (z _).2, (z _).2]
      unfold end14
      rw [fl_none (.inl rfl)]
      rfl
    · have e : ∀ rm, opS o s rm a b c = rndP s rm mi M E more := e
      obtain ⟨o1, o2, o3, o4, o5, o6⟩ := one_pos hs
      obtain ⟨z1, z2, z3, z4, z5, z6, z7, z8, z9, z10⟩ := size_facts hs
      have wk : ∀ v : Nat, v ≤ infB s → r39_0 s ((sgB s mi + v : Nat) : Int) = false ∧ r55_0 s ((sgB s mi + v : Nat) : Int) = (if mi then -(v : Int) else v) := fun v hv => by
        obtain ⟨w1, w2, w3, w4⟩ := w_parts hs (mi := mi) (v := v) (by omega)
        obtain ⟨q1, q2⟩ := nk _ w4
        refine ⟨q1.trans ?_, q2.trans ?_⟩
        · rw [(k_parts hs).1, w2]; exact decide_eq_false (by omega)
        · unfold keyN; rw [w1, w2]
      have hle := fun rm => rnd_le hs (rm := rm) (mi := mi) (E := E) (more := more) hM
      rw [e 0, e 1, e 2, e 3, e 4]
      show end14 (r39_0 s ((sgB s mi + _ : Nat) : Int)) (r39_0 s ((sgB s mi + _ : Nat) : Int)) (r39_0 s ((sgB s mi + _ : Nat) : Int)) (r39_0 s ((sgB s mi + _ : Nat) : Int)) (r39_0 s ((sgB s mi + _ : Nat) : Int)) _ _ _ _ _ (((rnd _ _ 0 mi M E more).2 : Nat) : Int) (((rnd _ _ 1 mi M E more).2 : Nat) : Int) (((rnd _ _ 2 mi M E more).2 : Nat) : Int) (((rnd _ _ 3 mi M E more).2 : Nat) : Int) (((rnd _ _ 4 mi M E more).2 : Nat) : Int)
        (r55_0 s ((sgB s mi + _ : Nat) : Int)) (r55_0 s ((sgB s mi + _ : Nat) : Int)) (r55_0 s ((sgB s mi + _ : Nat) : Int)) (r55_0 s ((sgB s mi + _ : Nat) : Int)) (r55_0 s ((sgB s mi + _ : Nat) : Int)) = true
      rw [(wk _ (hle 0)).1, (wk _ (hle 1)).1, (wk _ (hle 2)).1, (wk _ (hle 3)).1, (wk _ (hle 4)).1, (wk _ (hle 0)).2, (wk _ (hle 1)).2, (wk _ (hle 2)).2, (wk _ (hle 3)).2, (wk _ (hle 4)).2]
      unfold end14
      rcases rnd_modes (f := frN s) (b := biN s) (mi := mi) (E := E) o6 hM hmore with ⟨L, hL, q⟩ | ⟨L, hL, q, q1, q2, q3⟩
      · rw [q 0, q 1, q 2, q 3, q 4]
        rw [fl_none (.inl rfl)]
        simp only [beq_self_eq_true]
        rfl
      · rw [fl_one (q 0).1, fl_one (q 1).1, fl_one (q 2).1, fl_one (q 3).1, fl_one (q 4).1]
        have hlt : (L : Int) < 9223372036854775807 := by rw [← o5] at hL; omega
        have := midK_ok (L := (L : Int)) (by omega) hlt mi (m0 := ((rnd (frN s) (biN s) 0 mi M E more).1 : Int)) (m1 := ((rnd (frN s) (biN s) 1 mi M E more).1 : Int)) (m2 := ((rnd (frN s) (biN s) 2 mi M E more).1 : Int)) (m3 := ((rnd (frN s) (biN s) 3 mi M E more).1 : Int)) (m4 := ((rnd (frN s) (biN s) 4 mi M E more).1 : Int))
          (by have := (q 0).2; omega) (by omega) (by rw [q2]; cases mi <;> simp) (by rw [q3]; cases mi <;> simp) (by have := (q 4).2; omega)
        rw [this]
        rfl
end Go.Proofs.Ytacciadcmiiimaa

namespace Go.Proofs.Ytacciadcmiiimaa
open Go Go.Sx Go.Rnd
set_option maxRecDepth 100000
set_option maxHeartbeats 1000000

def zS (mi : Bool) (M : Nat) : Int := if mi then -(M : Int) else (M : Int)
theorem zS_abs (mi : Bool) (M : Nat) : (zS mi M).natAbs = M := by unfold zS; cases mi <;> simp
theorem zS_neg {mi : Bool} {M : Nat} (h : 0 < M) : decide (zS mi M < 0) = mi := by unfold zS; cases mi <;> simp <;> omega
theorem zS_not (mi : Bool) (M : Nat) : zS (!mi) M = -zS mi M := by unfold zS; cases mi <;> simp
theorem zS_of (S : Int) : zS (decide (S < 0)) S.natAbs = S := by
  unfold zS
  by_cases h : S < 0
  · rw [decide_eq_true h, if_pos rfl]; omega
  · rw [decide_eq_false h, if_neg Bool.false_ne_true]; omega
theorem sumS_int {s rm : Int} {mx my : Bool} {Mx My : Nat} {Ex Ey e : Int} (h1 : e ≤ Ex) (h2 : e ≤ Ey) : sumS s rm mx Mx Ex my My Ey =
    if zS mx (Mx * 2 ^ upE Ex e) + zS my (My * 2 ^ upE Ey e) = 0 then (sgB s (if mx = my then mx else rm == 2), 0)
    else rndP s rm (decide (zS mx (Mx * 2 ^ upE Ex e) + zS my (My * 2 ^ upE Ey e) < 0)) (zS mx (Mx * 2 ^ upE Ex e) + zS my (My * 2 ^ upE Ey e)).natAbs e false := by
  rw [sumS_at h1 h2]
  generalize Mx * 2 ^ upE Ex e = A
  generalize My * 2 ^ upE Ey e = B
  by_cases h : mx = my
  · subst h
    rw [if_pos rfl]
    have hz : zS mx A + zS mx B = 0 ↔ A + B = 0 := by unfold zS; cases mx <;> simp <;> omega
    by_cases h3 : A + B = 0
    · rw [if_pos h3, if_pos (hz.2 h3), if_pos rfl]
    · rw [if_neg h3, if_neg (fun h => h3 (hz.1 h))]
      have e1 : zS mx A + zS mx B = zS mx (A + B) := by unfold zS; cases mx <;> simp <;> omega
      rw [e1, zS_abs, zS_neg (by omega)]
  · rw [if_neg h]
    have hm : my = !mx := by revert h; cases mx <;> cases my <;> simp
    subst hm
    rw [zS_not]
    by_cases h3 : A = B
    · rw [if_pos h3, h3, if_pos (by omega), if_neg h]
    · have hz : ¬ zS mx A + -zS mx B = 0 := by unfold zS; cases mx <;> simp <;> omega
      rw [if_neg h3, if_neg hz]
      by_cases h4 : A < B
      · rw [if_pos h4]
        have e1 : zS mx A + -zS mx B = zS (!mx) (B - A) := by unfold zS; cases mx <;> simp <;> omega
        rw [e1, zS_abs, zS_neg (by omega)]
      · rw [if_neg h4]
        have e1 : zS mx A + -zS mx B = zS mx (A - B) := by unfold zS; cases mx <;> simp <;> omega
        rw [e1, zS_abs, zS_neg (by omega)]

section
variable {s rm : Int} (hs : s = 4 ∨ s = 8)
include hs
theorem same_mag {a b : Nat} (h : magN s a = magN s b) : fM s a = fM s b ∧ fE s a = fE s b ∧ nanN s a = nanN s b ∧ infN s a = infN s b ∧ zerN s a = zerN s b ∧ loudN s a = loudN s b ∧ finN s a = finN s b := by
  obtain ⟨p1, p2, p3⟩ := mag_parts hs a
  obtain ⟨q1, q2, q3⟩ := mag_parts hs b
  have e1 : exf s a = exf s b := by rw [p1, q1, h]
  have e2 : frf s a = frf s b := by rw [p2, q2, h]
  unfold finN fM fE nanN infN zerN loudN
  rw [e1, e2]
  exact ⟨rfl, rfl, rfl, rfl, rfl, rfl, rfl⟩
theorem flip_parts {b : Nat} (hb : b < 18446744073709551616) (hm : mkN s b = b) : sgN s (b ^^^ topN s) = !sgN s b ∧ magN s (b ^^^ topN s) = magN s b := by
  obtain ⟨p1, p2, p3⟩ := mag_parts hs b
  have hw := word_is hs hb
  rw [hm] at hw
  have hx : b ^^^ topN s = sgB s (!sgN s b) + magN s b := by
    obtain ⟨k, ht⟩ : ∃ k : Nat, topN s = 2 ^ k := by rcases hs with rfl | rfl; exact ⟨31, rfl⟩; exact ⟨63, rfl⟩
    have hlt : magN s b < 2 ^ k := by rw [← ht]; exact p3
    have key : (magN s b) ^^^ 2 ^ k = 2 ^ k + magN s b := by
      have h1 : 2 ^ k + magN s b = 2 ^ k ||| magN s b := by
        have := Nat.two_pow_add_eq_or_of_lt hlt 1
        rw [Nat.mul_one] at this; exact this
      rw [h1]
      refine Nat.eq_of_testBit_eq fun i => ?_
      rw [Nat.testBit_xor, Nat.testBit_or, Nat.testBit_two_pow]
      by_cases hi : k = i
      · subst hi
        rw [Nat.testBit_lt_two_pow hlt]; simp
      · rw [decide_eq_false hi]; simp
    conv => lhs; rw [hw]
    unfold sgB
    rw [ht]
    cases sgN s b
    · rw [if_neg Bool.false_ne_true, Nat.zero_add, Bool.not_false, if_pos rfl, key]
    · rw [if_pos rfl, Bool.not_true, if_neg Bool.false_ne_true, Nat.zero_add, ← key, Nat.xor_assoc, Nat.xor_self, Nat.xor_zero]
  obtain ⟨w1, w2, w3, w4⟩ := w_parts hs (mi := !sgN s b) p3
  rw [hx]
  exact ⟨w1, w2⟩
theorem fin_pos {a : Nat} (h : finN s a = true) : 0 < fM s a := by
  obtain ⟨n, m1, m2, m3, m4⟩ := f_mag hs (a := a)
  obtain ⟨k1, k2, k3⟩ := k_parts hs (a := a)
  unfold finN at h
  rw [k1, k2, k3] at h
  simp only [Bool.and_eq_true, Bool.not_eq_true', decide_eq_false_iff_not] at h
  refine Nat.pos_of_ne_zero fun hc => ?_
  rw [hc] at m4 m1
  have := Nat.two_pow_pos (frN s)
  have h0 : n = 0 := by omega
  rw [h0] at m1; omega
theorem fin_of {mi : Bool} {v : Nat} (h0 : 0 < v) (h1 : v < infB s) : finN s (sgB s mi + v) = true ∧ sgN s (sgB s mi + v) = mi ∧ magN s (sgB s mi + v) = v ∧ sgB s mi + v < 18446744073709551616 ∧ mkN s (sgB s mi + v) = sgB s mi + v := by
  obtain ⟨o1, o2, o3, o4, o5, o6⟩ := one_pos hs
  obtain ⟨w1, w2, w3, w4⟩ := w_parts hs (mi := mi) (v := v) (by omega)
  obtain ⟨k1, k2, k3⟩ := k_parts hs (a := sgB s mi + v)
  refine ⟨?_, w1, w2, w4, w3⟩
  unfold finN
  rw [k1, k2, k3, w2, decide_eq_false (show ¬ infB s < v by omega), decide_eq_false (show ¬ v = infB s by omega), decide_eq_false (show ¬ v = 0 by omega)]
  rfl
theorem rndP_self {a M : Nat} {E : Int} (ha : a < 18446744073709551616) (hf : finN s a = true) (h : SameV M E (fM s a) (fE s a)) : rndP s rm (sgN s a) M E false = (mkN s a, 0) := by
  have hM := h.pos.2 (fin_pos hs hf)
  unfold rndP
  rw [h.rnd hM, rnd_self hs hf, word_is hs ha]
theorem kinds_of {a : Nat} (h : finN s a = true) : nanN s a = false ∧ infN s a = false ∧ zerN s a = false := by
  have _ := hs
  unfold finN at h
  simpa [Bool.and_assoc, and_assoc] using h
theorem fin_or {a : Nat} (h1 : nanN s a = false) (h2 : infN s a = false) : zerN s a = true ∨ finN s a = true := by
  have _ := hs
  unfold finN; rw [h1, h2]
  cases zerN s a
  · exact .inr rfl
  · exact .inl rfl
theorem add_fin {a b : Nat} (a1 : nanN s a = false) (a2 : infN s a = false) (b1 : nanN s b = false) (b2 : infN s b = false) : addS s rm a b = sumS s rm (sgN s a) (fM s a) (fE s a) (sgN s b) (fM s b) (fE s b) := by
  have _ := hs
  unfold addS
  rw [a1, a2, b1, b2]
  rfl
theorem back_add {a b : Nat} (ha : a < 18446744073709551616) (hb : b < 18446744073709551616) (ma : mkN s a = a) (mb : mkN s b = b) (fa : finN s a = true) (b1 : nanN s b = false) (b2 : infN s b = false)
    (h : (addS s rm a b).2 = 0) : subS s rm (addS s rm a b).1 b = (a, 0) := by
  obtain ⟨a1, a2, a3⟩ := kinds_of hs fa
  obtain ⟨o1, o2, o3, o4, o5, o6⟩ := one_pos hs
  have e0 := add_fin hs (rm := rm) a1 a2 b1 b2
  obtain ⟨fl1, fl2⟩ := flip_parts hs hb mb
  obtain ⟨g1, g2, g3, g4, g5, g6, g7⟩ := same_mag hs fl2
  generalize hx : (addS s rm a b).1 = x at *
  obtain ⟨e, le1, le2, le3⟩ : ∃ e : Int, e ≤ fE s a ∧ e ≤ fE s b ∧ e ≤ fE s x := ⟨minE (fE s a) (minE (fE s b) (fE s x)), by unfold minE; (repeat' split) <;> omega, by unfold minE; (repeat' split) <;> omega, by unfold minE; (repeat' split) <;> omega⟩
  rw [sumS_int le1 le2] at e0
  have hIA : zS (sgN s a) (fM s a * 2 ^ upE (fE s a) e) ≠ 0 := by
    have := Nat.mul_pos (fin_pos hs fa) (Nat.two_pow_pos (upE (fE s a) e))
    unfold zS; split <;> omega
  have hend : ∀ S : Int, S = zS (sgN s a) (fM s a * 2 ^ upE (fE s a) e) → rndP s rm (decide (S < 0)) S.natAbs e false = (a, 0) := by
    intro S hS
    have hp := Nat.mul_pos (fin_pos hs fa) (Nat.two_pow_pos (upE (fE s a) e))
    rw [hS, zS_abs, zS_neg hp]
    have := rndP_self hs (rm := rm) (M := fM s a * 2 ^ upE (fE s a) e) (E := e) ha fa (by
      have := SameV.up (fM s a) (fE s a) (upE (fE s a) e)
      have e1 : fE s a - (upE (fE s a) e : Nat) = e := by unfold upE; omega
      rw [e1] at this; exact this)
    rw [this, ma]
  have hx1 : nanN s x = false ∧ infN s x = false ∧ zS (sgN s x) (fM s x * 2 ^ upE (fE s x) e) = zS (sgN s a) (fM s a * 2 ^ upE (fE s a) e) + zS (sgN s b) (fM s b * 2 ^ upE (fE s b) e) := by
    by_cases hz : zS (sgN s a) (fM s a * 2 ^ upE (fE s a) e) + zS (sgN s b) (fM s b * 2 ^ upE (fE s b) e) = 0
    · rw [if_pos hz] at e0
      rw [e0] at hx
      obtain ⟨u1, u2, u3, u4, u5⟩ := zero_word hs ha hb (if sgN s a = sgN s b then sgN s a else rm == 2)
      have hx : sgB s (if sgN s a = sgN s b then sgN s a else rm == 2) = x := hx
      rw [hx] at u1 u2 u3
      refine ⟨u2, u1, ?_⟩
      rw [hz, u3, Nat.zero_mul]
      unfold zS; split <;> rfl
    · rw [if_neg hz] at e0
      rw [e0] at h hx
      have hp : 0 < (zS (sgN s a) (fM s a * 2 ^ upE (fE s a) e) + zS (sgN s b) (fM s b * 2 ^ upE (fE s b) e)).natAbs := by omega
      obtain ⟨r1, r2, r3, r4⟩ := rnd_back hs hp h
      obtain ⟨t1, t2, t3, t4, t5⟩ := fin_of hs (mi := decide (zS (sgN s a) (fM s a * 2 ^ upE (fE s a) e) + zS (sgN s b) (fM s b * 2 ^ upE (fE s b) e) < 0)) r3 r2
      have hx : sgB s (decide (zS (sgN s a) (fM s a * 2 ^ upE (fE s a) e) + zS (sgN s b) (fM s b * 2 ^ upE (fE s b) e) < 0)) + (rnd (frN s) (biN s) rm (decide (zS (sgN s a) (fM s a * 2 ^ upE (fE s a) e) + zS (sgN s b) (fM s b * 2 ^ upE (fE s b) e) < 0)) (zS (sgN s a) (fM s a * 2 ^ upE (fE s a) e) + zS (sgN s b) (fM s b * 2 ^ upE (fE s b) e)).natAbs e false).1 = x := hx
      rw [hx] at r4 t1 t2
      obtain ⟨k1, k2, k3⟩ := kinds_of hs t1
      refine ⟨k1, k2, ?_⟩
      have := same_up r4 le3 (Int.le_refl e)
      have e1 : upE e e = 0 := by unfold upE; omega
      rw [e1, Nat.pow_zero, Nat.mul_one] at this
      rw [this, t2, zS_of]
  obtain ⟨x1, x2, x3⟩ := hx1
  unfold subS
  rw [add_fin hs x1 x2 (g3.trans b1) (g4.trans b2), g1, g2, fl1, sumS_int le3 le2, zS_not, x3]
  generalize zS (sgN s a) (fM s a * 2 ^ upE (fE s a) e) = IA at *
  generalize zS (sgN s b) (fM s b * 2 ^ upE (fE s b) e) = IB at *
  have e3 : IA + IB + -IB = IA := by omega
  rw [e3, if_neg hIA]
  exact hend IA rfl
theorem mul_fin {a b : Nat} (fa : finN s a = true) (fb : finN s b = true) : mulS s rm a b = rndP s rm (sgN s a != sgN s b) (fM s a * fM s b) (fE s a + fE s b) false := by
  obtain ⟨a1, a2, a3⟩ := kinds_of hs fa
  obtain ⟨b1, b2, b3⟩ := kinds_of hs fb
  unfold mulS
  rw [a1, a2, a3, b1, b2, b3]
  rfl
theorem mul_zer {a b : Nat} (a1 : nanN s a = false) (a2 : infN s a = false) (b1 : nanN s b = false) (b2 : infN s b = false) (h : (zerN s a || zerN s b) = true) : mulS s rm a b = (sgB s (sgN s a != sgN s b), 0) := by
  have _ := hs
  unfold mulS
  rw [a1, a2, b1, b2, h]
  simp
theorem back_mul {a : Nat} (ha : a < 18446744073709551616) (fa : finN s a = true) (h : (mulS s rm a a).2 = 0) : sqrtS s rm (mulS s rm a a).1 = (magN s a, 0) := by
  obtain ⟨a1, a2, a3⟩ := kinds_of hs fa
  have e0 := mul_fin hs (rm := rm) fa fa
  have e1 : (sgN s a != sgN s a) = false := by cases sgN s a <;> rfl
  rw [e1] at e0
  have pa := fin_pos hs fa
  rw [e0] at h ⊢
  obtain ⟨r1, r2, r3, r4⟩ := rnd_back hs (Nat.mul_pos pa pa) h
  obtain ⟨t1, t2, t3, t4, t5⟩ := fin_of hs (mi := false) r3 r2
  show sqrtS s rm (sgB s false + (rnd (frN s) (biN s) rm false (fM s a * fM s a) (fE s a + fE s a) false).1) = _
  generalize sgB s false + (rnd (frN s) (biN s) rm false (fM s a * fM s a) (fE s a + fE s a) false).1 = q at *
  obtain ⟨q1, q2, q3⟩ := kinds_of hs t1
  have pq := fin_pos hs t1
  unfold sqrtS
  rw [q1, q2, q3, t2]
  simp only [Bool.not_false, Bool.not_true, Bool.and_false, Bool.or_false, Bool.false_eq_true, if_false, Bool.true_and, Bool.false_and]
  have hev : ∃ hh : Int, fE s q - sqN s q = 2 * hh := by
    unfold sqN
    split
    · exact ⟨(fE s q - 161) / 2, by omega⟩
    · exact ⟨(fE s q - 160) / 2, by omega⟩
  obtain ⟨hh, hev⟩ := hev
  have hsq : 160 ≤ sqN s q := by unfold sqN; split <;> decide
  have hle : 2 * hh ≤ fE s a + fE s a := by
    refine Int.le_of_not_gt fun hc => ?_
    have := same_up r4 (e := fE s a + fE s a) (by omega) (Int.le_refl _)
    have e1 : upE (fE s a + fE s a) (fE s a + fE s a) = 0 := by unfold upE; omega
    rw [e1, Nat.pow_zero, Nat.mul_one] at this
    have h1 : fM s a < 2 ^ 53 := by
      have := blen_le.1 (blenM hs ha); exact this
    have h2 : fM s a * fM s a ≤ 2 ^ 53 * 2 ^ 53 := Nat.mul_le_mul (Nat.le_of_lt h1) (Nat.le_of_lt h1)
    have h3 : 2 ^ 107 ≤ fM s q * 2 ^ upE (fE s q) (fE s a + fE s a) := by
      refine Nat.le_trans ?_ (Nat.le_mul_of_pos_left _ pq)
      exact Nat.pow_le_pow_right (by decide) (by unfold upE; omega)
    rw [this, ← Nat.pow_add] at *
    have h4 : (2:Nat) ^ (53 + 53) < 2 ^ 107 := Nat.pow_lt_pow_right (by decide) (by decide)
    omega
  obtain ⟨d, hd⟩ : ∃ d : Nat, fE s a - hh = d := ⟨(fE s a - hh).toNat, by omega⟩
  have hN : fM s q * 2 ^ sqN s q = (fM s a * 2 ^ d) * (fM s a * 2 ^ d) := by
    have := same_up r4 (e := 2 * hh) (by omega) hle
    have e1 : upE (fE s q) (2 * hh) = sqN s q := by unfold upE; omega
    have e2 : upE (fE s a + fE s a) (2 * hh) = d + d := by unfold upE; omega
    rw [e1, e2, Nat.pow_add] at this
    rw [this, Nat.mul_mul_mul_comm]
  have hi : isq (fM s q * 2 ^ sqN s q) = fM s a * 2 ^ d := by
    refine (isq_one (by rw [hN]; exact Nat.le_refl _) ?_).symm
    rw [hN]
    exact Nat.mul_lt_mul_of_lt_of_le (Nat.lt_succ_self _) (Nat.le_succ _) (Nat.succ_pos _)
  have e2 : (fE s q - sqN s q) / 2 = hh := by rw [hev]; omega
  rw [hi, hN, decide_eq_false (Nat.lt_irrefl _), e2]
  unfold rndP
  have hsame : SameV (fM s a * 2 ^ d) hh (fM s a) (fE s a) := by
    have := SameV.up (fM s a) (fE s a) d
    have e3 : fE s a - (d : Int) = hh := by omega
    rw [e3] at this; exact this
  rw [hsame.rnd (Nat.mul_pos pa (Nat.two_pow_pos d)), rnd_self hs fa]
  show (0 + magN s a, 0) = _
  rw [Nat.zero_add]
theorem back_div {a b : Nat} (ha : a < 18446744073709551616) (hb : b < 18446744073709551616) (a1 : nanN s a = false) (a2 : infN s a = false) (b1 : nanN s b = false) (b2 : infN s b = false)
    (h : (divS s rm a b).2 = 0) : (divS s rm a b).1 < 18446744073709551616 ∧ (mulS s rm (divS s rm a b).1 b).2 = 0 ∧ ((finN s a = true ∧ (mulS s rm (divS s rm a b).1 b).1 = mkN s a) ∨ (zerN s a = true ∧ ∃ mi, (mulS s rm (divS s rm a b).1 b).1 = sgB s mi)) := by
  have e0 : divS s rm a b = if zerN s a && zerN s b then oddP s (zerN s a && zerN s b) (loudN s a || loudN s b) else if zerN s a then (sgB s (sgN s a != sgN s b), 0) else if zerN s b then (sgB s (sgN s a != sgN s b) + infB s, 8)
      else rndP s rm (sgN s a != sgN s b) (fM s a * 2 ^ 130 / fM s b) (fE s a - fE s b - 130) (decide (0 < fM s a * 2 ^ 130 % fM s b)) := by
    unfold divS
    rw [a1, a2, b1, b2]
    simp
  rcases fin_or hs b1 b2 with zb | fb
  · rw [zb, Bool.and_true] at e0
    cases za : zerN s a
    · rw [za] at e0
      simp only [Bool.false_eq_true, if_false, if_true] at e0
      rw [e0] at h; cases h
    · rw [za] at e0
      simp only [if_true] at e0
      rw [e0] at h; cases h
  · obtain ⟨_, _, b3⟩ := kinds_of hs fb
    rw [b3, Bool.and_false] at e0
    simp only [Bool.false_eq_true, if_false] at e0
    rcases fin_or hs a1 a2 with za | fa
    · rw [za, if_pos rfl] at e0
      obtain ⟨u1, u2, u3, u4, u5⟩ := zero_word hs ha hb (sgN s a != sgN s b)
      rw [e0]
      have hz : zerN s (sgB s (sgN s a != sgN s b)) = true := by
        have := w_parts hs (mi := (sgN s a != sgN s b)) (v := 0) (by have := one_pos hs; omega)
        obtain ⟨_, _, k3⟩ := k_parts hs (a := sgB s (sgN s a != sgN s b) + 0)
        rw [this.2.1] at k3
        exact k3
      have hm := mul_zer hs (rm := rm) (a := sgB s (sgN s a != sgN s b)) (b := b) u2 u1 b1 b2 (by rw [hz]; rfl)
      exact ⟨u5, by show (mulS s rm (sgB s (sgN s a != sgN s b)) b).2 = 0; rw [hm], .inr ⟨za, _, congrArg Prod.fst hm⟩⟩
    · obtain ⟨_, _, a3⟩ := kinds_of hs fa
      rw [a3, if_neg Bool.false_ne_true] at e0
      have pa := fin_pos hs fa
      have pb := fin_pos hs fb
      rw [e0] at h ⊢
      have hQ : 0 < fM s a * 2 ^ 130 / fM s b := by
        refine Nat.div_pos ?_ pb
        have h5 : fM s b < 2 ^ 53 := blen_le.1 (blenM hs hb)
        refine Nat.le_trans (Nat.le_of_lt h5) (Nat.le_trans (Nat.pow_le_pow_right (by decide) (by decide)) (Nat.le_mul_of_pos_left _ pa))
      obtain ⟨r1, r2, r3, r4⟩ := rnd_back hs hQ h
      have hrem : fM s a * 2 ^ 130 % fM s b = 0 := by
        have := of_decide_eq_false r1; omega
      obtain ⟨t1, t2, t3, t4, t5⟩ := fin_of hs (mi := (sgN s a != sgN s b)) r3 r2
      show (sgB s (sgN s a != sgN s b) + (rnd (frN s) (biN s) rm (sgN s a != sgN s b) (fM s a * 2 ^ 130 / fM s b) (fE s a - fE s b - 130) (decide (0 < fM s a * 2 ^ 130 % fM s b))).1) < 18446744073709551616 ∧
        (mulS s rm (sgB s (sgN s a != sgN s b) + (rnd (frN s) (biN s) rm (sgN s a != sgN s b) (fM s a * 2 ^ 130 / fM s b) (fE s a - fE s b - 130) (decide (0 < fM s a * 2 ^ 130 % fM s b))).1) b).2 = 0 ∧
        ((finN s a = true ∧ (mulS s rm (sgB s (sgN s a != sgN s b) + (rnd (frN s) (biN s) rm (sgN s a != sgN s b) (fM s a * 2 ^ 130 / fM s b) (fE s a - fE s b - 130) (decide (0 < fM s a * 2 ^ 130 % fM s b))).1) b).1 = mkN s a) ∨ _)
      generalize sgB s (sgN s a != sgN s b) + (rnd (frN s) (biN s) rm (sgN s a != sgN s b) (fM s a * 2 ^ 130 / fM s b) (fE s a - fE s b - 130) (decide (0 < fM s a * 2 ^ 130 % fM s b))).1 = d at *
      have hm := mul_fin hs (rm := rm) t1 fb
      have hsg : (sgN s d != sgN s b) = sgN s a := by rw [t2]; cases sgN s a <;> cases sgN s b <;> rfl
      have hsame : SameV (fM s d * fM s b) (fE s d + fE s b) (fM s a) (fE s a) := by
        have h1 := r4.mul (SameV.refl (fM s b) (fE s b))
        rw [Nat.div_mul_cancel (Nat.dvd_of_mod_eq_zero hrem)] at h1
        have h2 := SameV.up (fM s a) (fE s a) 130
        have e2 : fE s a - fE s b - 130 + fE s b = fE s a - ((130 : Nat) : Int) := by omega
        rw [e2] at h1
        exact h1.trans h2
      rw [hsg, rndP_self hs ha fa hsame] at hm
      exact ⟨t4, by rw [hm], .inl ⟨fa, by rw [hm]⟩⟩
end
theorem mask_mask {s : Int} {a : Nat} : mkN s (mkN s a) = mkN s a := by
  unfold mkN; split <;> omega
def end18 (na nb ia ib za : Bool) (fx gy : Int) (y a : Int) (fq fr : Int) (r ab : Int) (fd fe e : Int) (ze : Bool) : Bool :=
  bif !(((na || nb) || ia) || ib) then
    (bif (fx == 0) && !za then !((gy != 0) || (y != a)) else true) &&
    ((bif fq == 0 then !(((fr != 0) || ((r != ab) && !za)) || (za && (r != 0))) else true) && (!(fd == 0) || ((fe == 0) && ((e == a) || (za && ze)))))
  else true
theorem law_back {n m a b : Int} (ha : 0 ≤ a ∧ a < 18446744073709551616) (hb : 0 ≤ b ∧ b < 18446744073709551616) : p18 n m a b = true ∧ r18_0 n m a b = true := by
  obtain ⟨a, rfl, ka⟩ := u64_nat ha
  obtain ⟨b, rfl, kb⟩ := u64_nat hb
  obtain ⟨aw1, aw2⟩ := soft_awake
  have hs := size_is n
  obtain ⟨h0, h1⟩ := mode_is m
  generalize hS : r52_0 n = s at *
  generalize hR : r53_0 m = rm at *
  obtain ⟨t1, t2⟩ := top_is hs
  have ma := mask_ok hs ka
  have mb := mask_ok hs kb
  have mma := mask_mask (s := s) (a := a)
  have mmb := mask_mask (s := s) (a := b)
  have wl : ∀ x : Nat, x < 18446744073709551616 → mkN s x < 18446744073709551616 := fun x hx => by
    have h1 := mk_lt hs hx
    have := (size_facts hs).2.2.2.2.2.2.2.2.2
    omega
  replace ka := wl a ka
  replace kb := wl b kb
  generalize mkN s a = A at *
  generalize mkN s b = B at *
  obtain ⟨n1, n2⟩ := nan_ok hs ka
  obtain ⟨_, n3⟩ := nan_ok hs kb
  obtain ⟨i1, i2⟩ := inf_ok hs ka
  obtain ⟨_, i3⟩ := inf_ok hs kb
  obtain ⟨z1, z2⟩ := zero_ok hs ka
  have ho := g_off hs (uN ka)
  have ht : top s = (topN s : Int) := by rcases hs with rfl | rfl <;> rfl
  rw [ht, mask_ok hs ka, mma, mag_nat hs] at ho
  obtain ⟨x0, x1, x2⟩ := sadd_ok hs h0 h1 ka kb
  obtain ⟨q0, q1, q2⟩ := smul_ok hs h0 h1 ka ka
  obtain ⟨d0, d1, d2⟩ := sdiv_ok hs h0 h1 ka kb
  have lt1 : ∀ F : Int → Nat × Nat, Shape s F → (F rm).1 < 18446744073709551616 := fun F hF => by
    obtain ⟨l1, l2⟩ := w_lt hs
    rcases hF with ⟨w, fl, hw, hf, e⟩ | e | ⟨mi, M, E, more, hM, hmore, e⟩
    · rw [e rm]; exact hw
    · rw [e rm]; exact (l2 _).2
    · rw [e rm]
      have := rnd_le hs (rm := rm) (mi := mi) (E := E) (more := more) hM
      have := (l2 mi).1
      show sgB s mi + _ < _
      omega
  have kx : (addS s rm A B).1 < 18446744073709551616 := lt1 _ (op_shape hs ka kb kb 0)
  have kq : (mulS s rm A A).1 < 18446744073709551616 := lt1 _ (op_shape hs ka ka ka 1)
  have kd : (divS s rm A B).1 < 18446744073709551616 := lt1 _ (op_shape hs ka kb kb 2)
  have ke : (mulS s rm (divS s rm A B).1 B).1 < 18446744073709551616 := lt1 _ (op_shape hs kd kb kb 1)
  obtain ⟨y0, y1, y2⟩ := ssub_ok hs h0 h1 kx kb
  obtain ⟨r0, r1, r2⟩ := ssqrt_ok hs h0 h1 kq
  obtain ⟨e0, e1, e2⟩ := smul_ok hs h0 h1 kd kb
  obtain ⟨_, z3⟩ := zero_ok hs ke
  constructor
  · simp only [p18, hS, hR, aw1, t1, t2, ma, mb, n1, i1, z1, x0, x1, q0, q1, d0, d1, y0, r0, e0, e1, ow_t]; rfl
  · have hend : r18_0 n m a b = (r43_0 && end18 (nanN s A) (nanN s B) (infN s A) (infN s B) (zerN s A) ((addS s rm A B).2 : Int) ((subS s rm (addS s rm A B).1 B).2 : Int) ((subS s rm (addS s rm A B).1 B).1 : Int) (A : Int)
        ((mulS s rm A A).2 : Int) ((sqrtS s rm (mulS s rm A A).1).2 : Int) ((sqrtS s rm (mulS s rm A A).1).1 : Int) (magN s A : Int) ((divS s rm A B).2 : Int) ((mulS s rm (divS s rm A B).1 B).2 : Int) ((mulS s rm (divS s rm A B).1 B).1 : Int) (zerN s (mulS s rm (divS s rm A B).1 B).1)) := by
      simp only [r18_0, hS, hR, t1, ma, mb, n2, n3, i2, i3, z2, ho, x1, x2, q1, q2, d1, d2, y1, y2, r1, r2, e1, e2, z3, Bool.not_not]
      rfl
    rw [hend, aw2, Bool.true_and]
    have nz : ∀ k : Nat, ((k : Int) == 0) = decide (k = 0) := fun k => by rw [Bool.eq_iff_iff]; simp only [beq_iff_eq, dec]; omega
    unfold end18
    cases hn : (((nanN s A || nanN s B) || infN s A) || infN s B)
    · rw [Bool.not_false, cond_true]
      simp only [Bool.or_eq_false_iff] at hn
      obtain ⟨⟨⟨a1, b1⟩, a2⟩, b2⟩ := hn
      have c1 : (bif ((addS s rm A B).2 : Int) == 0 && !zerN s A then !(((subS s rm (addS s rm A B).1 B).2 : Int) != 0 || ((subS s rm (addS s rm A B).1 B).1 : Int) != (A : Int)) else true) = true := by
        rcases fin_or hs a1 a2 with za | fa
        · rw [za]; simp
        · rw [nz]
          by_cases hx : (addS s rm A B).2 = 0
          · rw [back_add hs ka kb mma mmb fa b1 b2 hx]; simp
          · rw [decide_eq_false hx]; rfl
      have c2 : (bif ((mulS s rm A A).2 : Int) == 0 then !((((sqrtS s rm (mulS s rm A A).1).2 : Int) != 0 || (((sqrtS s rm (mulS s rm A A).1).1 : Int) != (magN s A : Int) && !zerN s A)) || (zerN s A && ((sqrtS s rm (mulS s rm A A).1).1 : Int) != 0)) else true) = true := by
        rcases fin_or hs a1 a2 with za | fa
        · have hm := mul_zer hs (rm := rm) a1 a2 a1 a2 (by rw [za]; rfl)
          have e3 : (sgN s A != sgN s A) = false := by cases sgN s A <;> rfl
          rw [e3] at hm
          have hm : mulS s rm A A = (0, 0) := hm
          rw [hm]
          have : sqrtS s rm 0 = (0, 0) := by
            rcases hs with rfl | rfl <;> rfl
          show (bif ((0 : Nat) : Int) == 0 then !((((sqrtS s rm 0).2 : Int) != 0 || (((sqrtS s rm 0).1 : Int) != (magN s A : Int) && !zerN s A)) || (zerN s A && ((sqrtS s rm 0).1 : Int) != 0)) else true) = true
          rw [this, za]; simp
        · rw [nz]
          by_cases hx : (mulS s rm A A).2 = 0
          · obtain ⟨_, _, a3⟩ := kinds_of hs fa
            rw [back_mul hs ka fa hx, a3]; simp
          · rw [decide_eq_false hx]; rfl
      have c3 : (!(((divS s rm A B).2 : Int) == 0) || (((mulS s rm (divS s rm A B).1 B).2 : Int) == 0 && (((mulS s rm (divS s rm A B).1 B).1 : Int) == (A : Int) || (zerN s A && zerN s (mulS s rm (divS s rm A B).1 B).1)))) = true := by
        rw [nz]
        by_cases hx : (divS s rm A B).2 = 0
        · obtain ⟨_, k1, k2⟩ := back_div hs ka kb a1 a2 b1 b2 hx
          rw [k1]
          rcases k2 with ⟨_, k2⟩ | ⟨za, mi, k2⟩
          · rw [k2, mma]; simp
          · have hz : zerN s (sgB s mi) = true := by
              have := w_parts hs (mi := mi) (v := 0) (by have := one_pos hs; omega)
              obtain ⟨_, _, k3⟩ := k_parts hs (a := sgB s mi + 0)
              rw [this.2.1] at k3
              exact k3
            rw [k2, hz, za]; simp
        · rw [decide_eq_false hx]; rfl
      rw [c1, c2, c3]; rfl
    · rfl
end Go.Proofs.Ytacciadcmiiimaa

