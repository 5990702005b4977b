/- The plain law of PlicBits. -/
import Derived.Test.YthlbgkhbebffaaaPlA5
namespace Go.Proofs.Ythlbgkhbebffaaa
open Go Go.Sx
set_option maxRecDepth 100000

theorem wrap_u64 (n : Int) : IntKind.wrap .u64 n = n % 18446744073709551616 := by simp [IntKind.wrap, IntKind.signed, IntKind.bits]
theorem land_nat {a b : Nat} (ha : a < 18446744073709551616) (hb : b < 18446744073709551616) : iland .u64 (a : Int) (b : Int) = ((a &&& b : Nat) : Int) := by
  have e1 : (BitVec.ofInt 64 (a : Int)).toNat = a := by
    rw [BitVec.ofInt_natCast, BitVec.toNat_ofNat]; exact Nat.mod_eq_of_lt (by omega)
  have e2 : (BitVec.ofInt 64 (b : Int)).toNat = b := by
    rw [BitVec.ofInt_natCast, BitVec.toNat_ofNat]; exact Nat.mod_eq_of_lt (by omega)
  show IntKind.wrap .u64 ((BitVec.ofInt 64 (a : Int) &&& BitVec.ofInt 64 (b : Int)).toNat : Int) = _
  rw [BitVec.toNat_and, e1, e2, wrap_u64]
  have : a &&& b ≤ a := Nat.and_le_left
  omega
theorem shr_nat (a k : Nat) (hk : k ≤ 64) : ishr .u64 (a : Int) (k : Int) = ((a / 2 ^ k : Nat) : Int) := by
  show Int.fdiv (a : Int) (2 ^ min (k : Int).toNat 64) = _
  have e : min (k : Int).toNat 64 = k := by simp; omega
  rw [e, Int.fdiv_eq_ediv_of_nonneg _ (by exact Int.le_of_lt (Int.pow_pos (by decide)))]
  simp

/-- Bit k of v. -/
noncomputable def bitv (v : Int) (k : Int) : Bool := iland .u64 (ishr .u64 v k) 1 == 1
/-- The enabled sources, from their bits. -/
noncomputable def onN (b1 b2 b3 b4 b5 b6 b7 b8 : Bool) : Int :=
  let y1 := bif b1 then 2 else 0
  let y2 := bif b2 then ilor .u64 y1 4 else y1
  let y3 := bif b3 then ilor .u64 y2 8 else y2
  let y4 := bif b4 then ilor .u64 y3 16 else y3
  let y5 := bif b5 then ilor .u64 y4 32 else y4
  let y6 := bif b6 then ilor .u64 y5 64 else y5
  let y7 := bif b7 then ilor .u64 y6 128 else y6
  bif b8 then ilor .u64 y7 256 else y7
noncomputable def onv (v : Int) : Int := onN (bitv v 1) (bitv v 2) (bitv v 3) (bitv v 4) (bitv v 5) (bitv v 6) (bitv v 7) (bitv v 8)
noncomputable def rankv (v : Int) : Int := IntKind.wrap .i64 (iland .u64 v 7)
noncomputable def preN (v : Int) : Bool := ((((IntKind.wrap .u64 (rankv v) == iland .u64 v 7) && (onv v == iland .u64 v 510)) && true) && (IntKind.wrap .u64 (rankv v) == iland .u64 v 7)) && true
noncomputable def lawN (v o : Int) : Bool := (preN v && true) && ((bif decide (0 > rankv v) then o else 0) == 0)
noncomputable def pre0 (v : Int) : Bool := ((onv v == iland .u64 v 510) && true) && (IntKind.wrap .u64 (rankv v) == iland .u64 v 7)
noncomputable def law0 (v o : Int) : Bool := ((pre0 v && true) && true) && ((bif decide (0 > rankv v) then o else 0) == 0)

theorem bitv_nat (a k : Nat) (ha : a < 18446744073709551616) (hk : k ≤ 64) : bitv (a : Int) (k : Int) = (a / 2 ^ k % 2 == 1) := by
  unfold bitv
  have hd : a / 2 ^ k < 18446744073709551616 := Nat.lt_of_le_of_lt (Nat.div_le_self _ _) ha
  rw [shr_nat a k hk, show (1 : Int) = ((1 : Nat) : Int) from rfl, land_nat hd (by decide), Nat.and_one_is_mod]
  rw [Bool.eq_iff_iff]
  simp only [beq_iff_eq]
  omega
theorem bit_mod (a k : Nat) (hk : k < 9) : a / 2 ^ k % 2 = a % 512 / 2 ^ k % 2 := by
  obtain rfl | rfl | rfl | rfl | rfl | rfl | rfl | rfl | rfl : k = 0 ∨ k = 1 ∨ k = 2 ∨ k = 3 ∨ k = 4 ∨ k = 5 ∨ k = 6 ∨ k = 7 ∨ k = 8 := by omega
  all_goals omega
theorem on_all : ∀ m : Fin 512, onN (m.val / 2 ^ 1 % 2 == 1) (m.val / 2 ^ 2 % 2 == 1) (m.val / 2 ^ 3 % 2 == 1) (m.val / 2 ^ 4 % 2 == 1) (m.val / 2 ^ 5 % 2 == 1) (m.val / 2 ^ 6 % 2 == 1) (m.val / 2 ^ 7 % 2 == 1) (m.val / 2 ^ 8 % 2 == 1) = ((m.val &&& 510 : Nat) : Int) := by decide +kernel
theorem onv_eq (a : Nat) (ha : a < 18446744073709551616) : onv (a : Int) = iland .u64 (a : Int) 510 := by
  have h := on_all ⟨a % 512, by omega⟩
  simp only [← bit_mod a _ (show 1 < 9 by decide), ← bit_mod a _ (show 2 < 9 by decide), ← bit_mod a _ (show 3 < 9 by decide), ← bit_mod a _ (show 4 < 9 by decide), ← bit_mod a _ (show 5 < 9 by decide), ← bit_mod a _ (show 6 < 9 by decide), ← bit_mod a _ (show 7 < 9 by decide), ← bit_mod a _ (show 8 < 9 by decide)] at h
  have e : a % 512 &&& 510 = a &&& 510 := by
    have h1 : a &&& 511 = a % 512 := Nat.and_two_pow_sub_one_eq_mod a 9
    rw [← h1, Nat.and_assoc]
    exact congrArg _ (by decide)
  rw [e] at h
  rw [show (510 : Int) = ((510 : Nat) : Int) from rfl, land_nat ha (by decide), ← h]
  unfold onv
  rw [show (1 : Int) = ((1 : Nat) : Int) from rfl, show (2 : Int) = ((2 : Nat) : Int) from rfl, show (3 : Int) = ((3 : Nat) : Int) from rfl, show (4 : Int) = ((4 : Nat) : Int) from rfl, show (5 : Int) = ((5 : Nat) : Int) from rfl, show (6 : Int) = ((6 : Nat) : Int) from rfl, show (7 : Int) = ((7 : Nat) : Int) from rfl, show (8 : Int) = ((8 : Nat) : Int) from rfl]
  rw [bitv_nat a 1 ha (by decide), bitv_nat a 2 ha (by decide), bitv_nat a 3 ha (by decide), bitv_nat a 4 ha (by decide), bitv_nat a 5 ha (by decide), bitv_nat a 6 ha (by decide), bitv_nat a 7 ha (by decide), bitv_nat a 8 ha (by decide)]
theorem rank_eq (a : Nat) (ha : a < 18446744073709551616) : 0 ≤ rankv (a : Int) ∧ IntKind.wrap .u64 (rankv (a : Int)) = iland .u64 (a : Int) 7 := by
  have h : iland .u64 (a : Int) 7 = ((a % 8 : Nat) : Int) := by
    rw [show (7 : Int) = ((7 : Nat) : Int) from rfl, land_nat ha (by decide)]
    exact congrArg _ (Nat.and_two_pow_sub_one_eq_mod a 3)
  unfold rankv
  rw [h, IntKind.wrap_i64, wrap_u64]
  omega
theorem ow_and (l : List (Bool × Bool)) : (ow l true && true) = true := by simp [ow]
theorem law_true (a : Nat) (ha : a < 18446744073709551616) (o : Int) : lawN (a : Int) o = true ∧ law0 (a : Int) o = true := by
  obtain ⟨h1, h2⟩ := rank_eq a ha
  have h3 : decide (0 > rankv (a : Int)) = false := decide_eq_false (by omega)
  unfold lawN law0 preN pre0
  rw [h2, h3, onv_eq a ha]
  simp

theorem at_0_0 (v : Int) : r3_0 0 0 v = law0 v 2048 := by kernel_rfl
theorem pt_0_0 (v : Int) : p3 0 0 v = (ow [((pre0 v && true) && true, true)] true && true) := by kernel_rfl
theorem at_0_1 (v : Int) : r3_0 0 1 v = law0 v 512 := by kernel_rfl
theorem pt_0_1 (v : Int) : p3 0 1 v = (ow [((pre0 v && true) && true, true)] true && true) := by kernel_rfl
theorem at_1_0 (v : Int) : r3_0 1 0 v = lawN v 2048 := by kernel_rfl
theorem pt_1_0 (v : Int) : p3 1 0 v = (ow [(preN v && true, true)] true && true) := by kernel_rfl
theorem at_1_1 (v : Int) : r3_0 1 1 v = lawN v 512 := by kernel_rfl
theorem pt_1_1 (v : Int) : p3 1 1 v = (ow [(preN v && true, true)] true && true) := by kernel_rfl
theorem at_2_0 (v : Int) : r3_0 2 0 v = lawN v 2048 := by kernel_rfl
theorem pt_2_0 (v : Int) : p3 2 0 v = (ow [(preN v && true, true)] true && true) := by kernel_rfl
theorem at_2_1 (v : Int) : r3_0 2 1 v = lawN v 512 := by kernel_rfl
theorem pt_2_1 (v : Int) : p3 2 1 v = (ow [(preN v && true, true)] true && true) := by kernel_rfl
theorem at_3_0 (v : Int) : r3_0 3 0 v = lawN v 2048 := by kernel_rfl
theorem pt_3_0 (v : Int) : p3 3 0 v = (ow [(preN v && true, true)] true && true) := by kernel_rfl
theorem at_3_1 (v : Int) : r3_0 3 1 v = lawN v 512 := by kernel_rfl
theorem pt_3_1 (v : Int) : p3 3 1 v = (ow [(preN v && true, true)] true && true) := by kernel_rfl
theorem at_4_0 (v : Int) : r3_0 4 0 v = lawN v 2048 := by kernel_rfl
theorem pt_4_0 (v : Int) : p3 4 0 v = (ow [(preN v && true, true)] true && true) := by kernel_rfl
theorem at_4_1 (v : Int) : r3_0 4 1 v = lawN v 512 := by kernel_rfl
theorem pt_4_1 (v : Int) : p3 4 1 v = (ow [(preN v && true, true)] true && true) := by kernel_rfl
theorem at_5_0 (v : Int) : r3_0 5 0 v = lawN v 2048 := by kernel_rfl
theorem pt_5_0 (v : Int) : p3 5 0 v = (ow [(preN v && true, true)] true && true) := by kernel_rfl
theorem at_5_1 (v : Int) : r3_0 5 1 v = lawN v 512 := by kernel_rfl
theorem pt_5_1 (v : Int) : p3 5 1 v = (ow [(preN v && true, true)] true && true) := by kernel_rfl
theorem at_6_0 (v : Int) : r3_0 6 0 v = lawN v 2048 := by kernel_rfl
theorem pt_6_0 (v : Int) : p3 6 0 v = (ow [(preN v && true, true)] true && true) := by kernel_rfl
theorem at_6_1 (v : Int) : r3_0 6 1 v = lawN v 512 := by kernel_rfl
theorem pt_6_1 (v : Int) : p3 6 1 v = (ow [(preN v && true, true)] true && true) := by kernel_rfl
theorem at_7_0 (v : Int) : r3_0 7 0 v = lawN v 2048 := by kernel_rfl
theorem pt_7_0 (v : Int) : p3 7 0 v = (ow [(preN v && true, true)] true && true) := by kernel_rfl
theorem at_7_1 (v : Int) : r3_0 7 1 v = lawN v 512 := by kernel_rfl
theorem pt_7_1 (v : Int) : p3 7 1 v = (ow [(preN v && true, true)] true && true) := by kernel_rfl
theorem at_8_0 (v : Int) : r3_0 8 0 v = lawN v 2048 := by kernel_rfl
theorem pt_8_0 (v : Int) : p3 8 0 v = (ow [(preN v && true, true)] true && true) := by kernel_rfl
theorem at_8_1 (v : Int) : r3_0 8 1 v = lawN v 512 := by kernel_rfl
theorem pt_8_1 (v : Int) : p3 8 1 v = (ow [(preN v && true, true)] true && true) := by kernel_rfl

theorem r3_mod {n n' c c' : Int} (v : Int) (hn : Int.tmod n 9 = Int.tmod n' 9) (hc : Int.tmod c 2 = Int.tmod c' 2) : r3_0 n c v = r3_0 n' c' v := by
  unfold r3_0
  rw [hn, hc]
theorem p3_mod {n n' c c' : Int} (v : Int) (hn : Int.tmod n 9 = Int.tmod n' 9) (hc : Int.tmod c 2 = Int.tmod c' 2) : p3 n c v = p3 n' c' v := by
  unfold p3
  rw [hn, hc]
theorem bits_all (n c : Nat) (hn : n < 9) (hc : c < 2) (a : Nat) (ha : a < 18446744073709551616) : r3_0 n c a = true ∧ p3 n c a = true := by
  obtain rfl | rfl : c = 0 ∨ c = 1 := by omega
  all_goals obtain rfl | rfl | rfl | rfl | rfl | rfl | rfl | rfl | rfl : n = 0 ∨ n = 1 ∨ n = 2 ∨ n = 3 ∨ n = 4 ∨ n = 5 ∨ n = 6 ∨ n = 7 ∨ n = 8 := by omega
  · exact ⟨(at_0_0 a).trans (law_true a ha _).2, (pt_0_0 a).trans (ow_and _)⟩
  · exact ⟨(at_1_0 a).trans (law_true a ha _).1, (pt_1_0 a).trans (ow_and _)⟩
  · exact ⟨(at_2_0 a).trans (law_true a ha _).1, (pt_2_0 a).trans (ow_and _)⟩
  · exact ⟨(at_3_0 a).trans (law_true a ha _).1, (pt_3_0 a).trans (ow_and _)⟩
  · exact ⟨(at_4_0 a).trans (law_true a ha _).1, (pt_4_0 a).trans (ow_and _)⟩
  · exact ⟨(at_5_0 a).trans (law_true a ha _).1, (pt_5_0 a).trans (ow_and _)⟩
  · exact ⟨(at_6_0 a).trans (law_true a ha _).1, (pt_6_0 a).trans (ow_and _)⟩
  · exact ⟨(at_7_0 a).trans (law_true a ha _).1, (pt_7_0 a).trans (ow_and _)⟩
  · exact ⟨(at_8_0 a).trans (law_true a ha _).1, (pt_8_0 a).trans (ow_and _)⟩
  · exact ⟨(at_0_1 a).trans (law_true a ha _).2, (pt_0_1 a).trans (ow_and _)⟩
  · exact ⟨(at_1_1 a).trans (law_true a ha _).1, (pt_1_1 a).trans (ow_and _)⟩
  · exact ⟨(at_2_1 a).trans (law_true a ha _).1, (pt_2_1 a).trans (ow_and _)⟩
  · exact ⟨(at_3_1 a).trans (law_true a ha _).1, (pt_3_1 a).trans (ow_and _)⟩
  · exact ⟨(at_4_1 a).trans (law_true a ha _).1, (pt_4_1 a).trans (ow_and _)⟩
  · exact ⟨(at_5_1 a).trans (law_true a ha _).1, (pt_5_1 a).trans (ow_and _)⟩
  · exact ⟨(at_6_1 a).trans (law_true a ha _).1, (pt_6_1 a).trans (ow_and _)⟩
  · exact ⟨(at_7_1 a).trans (law_true a ha _).1, (pt_7_1 a).trans (ow_and _)⟩
  · exact ⟨(at_8_1 a).trans (law_true a ha _).1, (pt_8_1 a).trans (ow_and _)⟩

theorem plic_bits {n c v : Int} (hn : (Lit.int .u64 n).wf = true) (hc : (Lit.int .u64 c).wf = true) (hv : (Lit.int .u64 v).wf = true) : r3_0 n c v = true ∧ p3 n c v = true := by
  simp only [Lit.wf, IntKind.min, IntKind.max, IntKind.signed, IntKind.bits, Bool.and_eq_true] at hn hc hv
  have n0 : 0 ≤ n := by simpa using hn.1
  have c0 : 0 ≤ c := by simpa using hc.1
  have v0 : 0 ≤ v := by simpa using hv.1
  have v1 : v < 18446744073709551616 := by have := hv.2; simp at this; omega
  have h := bits_all (n % 9).toNat (c % 2).toNat (by omega) (by omega) v.toNat (by omega)
  rw [show ((v.toNat : Nat) : Int) = v by omega] at h
  have e1 : Int.tmod n 9 = Int.tmod (((n % 9).toNat : Nat) : Int) 9 := by
    rw [Int.tmod_eq_emod_of_nonneg n0, Int.tmod_eq_emod_of_nonneg (by omega)]
    omega
  have e2 : Int.tmod c 2 = Int.tmod (((c % 2).toNat : Nat) : Int) 2 := by
    rw [Int.tmod_eq_emod_of_nonneg c0, Int.tmod_eq_emod_of_nonneg (by omega)]
    omega
  rw [r3_mod v e1 e2, p3_mod v e1 e2]
  exact h
end Go.Proofs.Ythlbgkhbebffaaa
