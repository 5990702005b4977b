/- Sums of two terms. -/
import Derived.Test.YtacciadcmiiimaaP7
import Derived.Test.YtacciadcmiiimaaP6
namespace Go.Rnd
theorem rnd_of_near {f b : Nat} {rm : Int} {mi : Bool} {H j L : Nat} {e : Int} (hH : 2 ^ (f + 2) ≤ H) (hL : L < 2 ^ j) (h0 : L ≠ 0) : rnd f b rm mi (H * 2 ^ j + L) (e - j) false = rnd f b rm mi (H ||| 1) e false := by
  rw [rnd_near hH hL, if_pos (.inl h0)]
end Go.Rnd
namespace Go.Proofs.Ytacciadcmiiimaa
open Go Go.Sx Go.Rnd
set_option maxRecDepth 100000
set_option maxHeartbeats 1000000

theorem jam_add {f b : Nat} {rm : Int} {mi : Bool} {X Y n : Nat} {e : Int} (hX0 : 0 < X) (hX : 2 ^ (f + 2) ≤ X) (hX2 : X % 2 = 0) : rnd f b rm mi (X + jamN Y n) e false = rnd f b rm mi (X * 2 ^ n + Y) (e - n) false := by
  have hd := Nat.div_add_mod' Y (2 ^ n)
  have hl := Nat.mod_lt Y (Nat.two_pow_pos n)
  unfold jamN
  generalize Y / 2 ^ n = z at *
  generalize Y % 2 ^ n = l at *
  subst hd
  by_cases h : l = 0
  · rw [if_pos h]
    have : X * 2 ^ n + (z * 2 ^ n + l) = (X + z) * 2 ^ n := by rw [Nat.add_mul]; omega
    rw [this, rnd_scale (by omega)]
  · rw [if_neg h]
    have e1 : X * 2 ^ n + (z * 2 ^ n + l) = (X + z) * 2 ^ n + l := by rw [Nat.add_mul]; omega
    rw [e1, rnd_of_near (by omega) hl h]
    congr 1
    rw [or_one, or_one]; omega
theorem jam_sub {f b : Nat} {rm : Int} {mi : Bool} {X Y n : Nat} {e : Int} (hX2 : X % 2 = 0) (hlt : jamN Y n < X) (hbig : Y % 2 ^ n ≠ 0 → 2 ^ (f + 2) + 1 + Y / 2 ^ n ≤ X) : rnd f b rm mi (X - jamN Y n) e false = rnd f b rm mi (X * 2 ^ n - Y) (e - n) false ∧ Y < X * 2 ^ n := by
  have hd := Nat.div_add_mod' Y (2 ^ n)
  have hp := Nat.two_pow_pos n
  have hl := Nat.mod_lt Y hp
  unfold jamN at hlt ⊢
  generalize Y / 2 ^ n = z at *
  generalize Y % 2 ^ n = l at *
  subst hd
  by_cases h : l = 0
  · rw [if_pos h] at hlt ⊢
    have e1 : X * 2 ^ n - (z * 2 ^ n + l) = (X - z) * 2 ^ n := by rw [Nat.sub_mul]; omega
    have e2 : z * 2 ^ n < X * 2 ^ n := Nat.mul_lt_mul_of_pos_right hlt hp
    exact ⟨by rw [e1, rnd_scale (by omega)], by omega⟩
  · have hb := hbig h
    have hp2 := Nat.two_pow_pos (f + 2)
    rw [if_neg h]
    have e2 : (X - z - 1) * 2 ^ n + 2 ^ n + z * 2 ^ n = X * 2 ^ n := by
      have : (X - z - 1 + 1 + z) * 2 ^ n = X * 2 ^ n := by congr 1; omega
      rw [Nat.add_mul, Nat.add_mul, Nat.one_mul] at this
      exact this
    have e1 : X * 2 ^ n - (z * 2 ^ n + l) = (X - z - 1) * 2 ^ n + (2 ^ n - l) := by omega
    refine ⟨?_, by omega⟩
    rw [e1, rnd_of_near (by omega) (by omega) (by omega)]
    congr 1
    rw [or_one, or_one]; omega

theorem scale_back {f b : Nat} {rm : Int} {mi : Bool} {S V : Nat} {e0 e1 : Int} (hV : 0 < V) (h : (∃ t : Nat, S = V * 2 ^ t ∧ e1 = e0 - t) ∨ (∃ t : Nat, S * 2 ^ t = V ∧ e1 = e0 + t)) : rnd f b rm mi S e1 false = rnd f b rm mi V e0 false := by
  rcases h with ⟨t, rfl, rfl⟩ | ⟨t, rfl, rfl⟩
  · exact rnd_scale hV
  · have hS : 0 < S := by
      rcases Nat.eq_zero_or_pos S with h | h
      · subst h; omega
      · exact h
    have := rnd_scale (f := f) (b := b) (rm := rm) (minus := mi) (M := S) (k := t) (E := e0 + t) hS
    rw [show e0 + (t : Int) - t = e0 by omega] at this
    exact this.symm

theorem addw {X Q : Nat} (h : X + Q < two128) : IntKind.wrap .u64 (IntKind.wrap .u64 ((loN X : Int) + loN Q) + 0) = (loN (X + Q) : Int) ∧
    IntKind.wrap .u64 (IntKind.wrap .u64 ((hiN X : Int) + hiN Q) + (bif decide ((loN (X + Q) : Int) < loN X) then 1 else 0)) = (hiN (X + Q) : Int) := by
  have a := hi_lo X
  have b := hi_lo Q
  have c := lo_lt X
  have d := lo_lt Q
  have a' := hi_lo (X + Q)
  have c' := lo_lt (X + Q)
  have hh := hi_lt h
  constructor
  · rw [wrap_u64, wrap_u64]; omega
  · by_cases hc : (loN (X + Q) : Int) < loN X
    · rw [decide_eq_true hc, cond_true, wrap_u64, wrap_u64]; omega
    · rw [decide_eq_false hc, cond_false, wrap_u64, wrap_u64]; omega
theorem subw {X Q : Nat} (hX : X < two128) (h : Q ≤ X) : IntKind.wrap .u64 (IntKind.wrap .u64 ((loN X : Int) - loN Q) - 0) = (loN (X - Q) : Int) ∧
    IntKind.wrap .u64 (IntKind.wrap .u64 ((hiN X : Int) - hiN Q) - (bif decide ((loN X : Int) < loN Q) then 1 else 0)) = (hiN (X - Q) : Int) := by
  have a := hi_lo X
  have b := hi_lo Q
  have c := lo_lt X
  have d := lo_lt Q
  have a' := hi_lo (X - Q)
  have c' := lo_lt (X - Q)
  have hh := hi_lt hX
  constructor
  · rw [wrap_u64, wrap_u64]; omega
  · by_cases hc : (loN X : Int) < loN Q
    · rw [decide_eq_true hc, cond_true, wrap_u64, wrap_u64]; omega
    · rw [decide_eq_false hc, cond_false, wrap_u64, wrap_u64]; omega
theorem borrow {X Q : Nat} : (decide ((hiN X : Int) < hiN Q) || (((bif decide ((loN X : Int) < loN Q) then (1 : Int) else 0) == 1) && ((hiN X : Int) == hiN Q))) = decide (X < Q) := by
  have a := hi_lo X
  have b := hi_lo Q
  have c := lo_lt X
  have d := lo_lt Q
  have e : ((bif decide ((loN X : Int) < loN Q) then (1 : Int) else 0) == 1) = decide ((loN X : Int) < loN Q) := by cases decide ((loN X : Int) < loN Q) <;> rfl
  rw [e, Bool.eq_iff_iff]
  simp only [Bool.or_eq_true, Bool.and_eq_true, dec, beq_iff_eq]
  omega
theorem or_zero {D : Nat} (h : D < two128) : (ilor .u64 (hiN D : Int) (loN D : Int) == 0) = decide (D = 0) := by
  have a := hi_lo D
  rw [lor_nn (hi_lt h) (lo_lt D), Bool.eq_iff_iff]
  simp only [beq_iff_eq, dec, Int.natCast_eq_zero, Nat.or_eq_zero_iff]
  omega
theorem jam_any {Y : Nat} {x : Int} (hY : Y < two128) (hx : x < 9223372036854775808) : p123 (loN Y) x = true ∧ r123_0 (hiN Y) (loN Y) x = (hiN (jamN Y x.toNat) : Int) ∧ r123_1 (hiN Y) (loN Y) x = (loN (jamN Y x.toNat) : Int) := by
  by_cases h : 0 ≤ x
  · obtain ⟨n, rfl⟩ : ∃ n : Nat, x = n := ⟨x.toNat, by omega⟩
    exact jam_ok hY (by omega)
  · have e3 : decide (x ≤ 0) = true := decide_eq_true (by omega)
    have : x.toNat = 0 := by omega
    rw [this]
    have : jamN Y 0 = Y := by unfold jamN; rw [Nat.pow_zero, Nat.mod_one, if_pos rfl, Nat.div_one]
    rw [this]
    refine ⟨?_, ?_, ?_⟩
    · have e4 : decide (x ≥ 64) = false := decide_eq_false (by omega)
      simp only [p123, e3]; simp [ow]
    · simp only [r123_0, e3]; rfl
    · simp only [r123_1, e3]; rfl

noncomputable def sumQ (m35 : Bool) (e36 h37 l38 : Int) (m39 : Bool) (e40 h41 l42 : Int) : Int × Int × Int × Int × Bool × Int × Int :=
  let x43 := IntKind.wrap .i64 (e36 - e40)
  let x45 := r123_0 h41 l42 x43
  let x46 := r123_1 h41 l42 x43
  let x55 := IntKind.wrap .u64 (l38 + x46)
  let x56 := IntKind.wrap .u64 (x55 + 0)
  let x61 : Int := bif decide (x56 < l38) || (((0 : Nat) == 1) && (x56 == l38)) then 1 else 0
  let x70 := IntKind.wrap .u64 (IntKind.wrap .u64 (h37 + x45) + x61)
  let x88 := IntKind.wrap .u64 (IntKind.wrap .u64 (l38 - x46) - 0)
  let x93 : Int := bif decide (l38 < x46) || (((0 : Nat) == 1) && (l38 == x46)) then 1 else 0
  let x102 := IntKind.wrap .u64 (IntKind.wrap .u64 (h37 - x45) - x93)
  let x107 : Int := bif decide (h37 < x45) || ((x93 == 1) && (h37 == x45)) then 1 else 0
  let x108 := x107 == 1
  let x117 := IntKind.wrap .u64 (IntKind.wrap .u64 (x46 - l38) - 0)
  let x122 : Int := bif decide (x46 < l38) || (((0 : Nat) == 1) && (x46 == l38)) then 1 else 0
  let x131 := IntKind.wrap .u64 (IntKind.wrap .u64 (x45 - h37) - x122)
  (x70, x56, bif x108 then x131 else x102, bif x108 then x117 else x88, bif x108 then m39 else m35, x45, x46)
theorem sumQ_ok {mX mY : Bool} {eX eY : Int} {X Y : Nat} (hX : X < 170141183460469231731687303715884105728) (hY : Y < 170141183460469231731687303715884105728) (h1 : -40000 ≤ eX) (h2 : eX ≤ 40000) (h3 : -40000 ≤ eY) (h4 : eY ≤ 40000) :
    sumQ mX eX (hiN X) (loN X) mY eY (hiN Y) (loN Y) = ((hiN (X + jamN Y (eX - eY).toNat) : Int), (loN (X + jamN Y (eX - eY).toNat) : Int),
      (hiN (if X < jamN Y (eX - eY).toNat then jamN Y (eX - eY).toNat - X else X - jamN Y (eX - eY).toNat) : Int), (loN (if X < jamN Y (eX - eY).toNat then jamN Y (eX - eY).toNat - X else X - jamN Y (eX - eY).toNat) : Int), (if X < jamN Y (eX - eY).toNat then mY else mX),
      (hiN (jamN Y (eX - eY).toNat) : Int), (loN (jamN Y (eX - eY).toNat) : Int)) ∧ X + jamN Y (eX - eY).toNat < two128 := by
  have w : IntKind.wrap .i64 (eX - eY) = eX - eY := wrap_i64_of (by omega) (by omega)
  have hY2 : Y < two128 := by unfold two128; omega
  obtain ⟨_, j1, j2⟩ := jam_any (Y := Y) (x := eX - eY) hY2 (by omega)
  have hj : jamN Y (eX - eY).toNat ≤ 170141183460469231731687303715884105728 := by
    unfold jamN
    have := Nat.div_le_self Y (2 ^ (eX - eY).toNat)
    split
    · omega
    · rw [or_one]; omega
  generalize jamN Y (eX - eY).toNat = Q at *
  have hlt : X + Q < two128 := by unfold two128; omega
  obtain ⟨a1, a2⟩ := addw hlt
  have hX2 : X < two128 := by unfold two128; omega
  have hQ2 : Q < two128 := by unfold two128; omega
  have z : ((0 : Nat) == 1) = false := rfl
  refine ⟨?_, hlt⟩
  unfold sumQ
  dsimp only
  rw [w, j1, j2]
  simp only [z, Bool.false_and, Bool.or_false, a1, a2, borrow]
  have e1 : ((bif decide (X < Q) then (1 : Int) else 0) == 1) = decide (X < Q) := by cases decide (X < Q) <;> rfl
  rw [e1]
  by_cases hc : X < Q
  · obtain ⟨b1, b2⟩ := subw hQ2 (Nat.le_of_lt hc)
    rw [decide_eq_true hc, if_pos hc, if_pos hc, b1, b2]; rfl
  · obtain ⟨b1, b2⟩ := subw hX2 (Nat.le_of_not_lt hc)
    rw [decide_eq_false hc, if_neg hc, if_neg hc, b1, b2]; rfl

noncomputable def sumR0 (f b top rm : Int) (m35 : Bool) (e36 h37 l38 : Int) (m39 : Bool) (e40 h41 l42 : Int) : Int :=
  let q := sumQ m35 e36 h37 l38 m39 e40 h41 l42
  bif !(m35 == m39) then (bif !(ilor .u64 q.2.2.1 q.2.2.2.1 == 0) then r98_0 f b top rm q.2.2.2.2.1 e36 q.2.2.1 q.2.2.2.1 else r95_0 top (rm == 2) 0) else r98_0 f b top rm m35 e36 q.1 q.2.1
noncomputable def sumR1 (f b rm : Int) (m35 : Bool) (e36 h37 l38 : Int) (m39 : Bool) (e40 h41 l42 : Int) : Int :=
  let q := sumQ m35 e36 h37 l38 m39 e40 h41 l42
  bif !(m35 == m39) then (bif !(ilor .u64 q.2.2.1 q.2.2.2.1 == 0) then r98_1 f b rm q.2.2.2.2.1 e36 q.2.2.1 q.2.2.2.1 else 0) else r98_1 f b rm m35 e36 q.1 q.2.1
noncomputable def sumP (f b rm : Int) (m35 : Bool) (e36 h37 l38 : Int) (m39 : Bool) (e40 h41 l42 : Int) : Bool :=
  let q := sumQ m35 e36 h37 l38 m39 e40 h41 l42
  bif !(m35 == m39) then (bif !(ilor .u64 q.2.2.1 q.2.2.2.1 == 0) then p98 f b rm q.2.2.2.2.1 e36 q.2.2.1 q.2.2.2.1 else true) else p98 f b rm m35 e36 q.1 q.2.1

def minE (a b : Int) : Int := if b < a then b else a
def sumS (s rm : Int) (mx : Bool) (Mx : Nat) (Ex : Int) (my : Bool) (My : Nat) (Ey : Int) : Nat × Nat :=
  if mx = my then (if Mx * 2 ^ (Ex - minE Ex Ey).toNat + My * 2 ^ (Ey - minE Ex Ey).toNat = 0 then (sgB s mx, 0) else rndP s rm mx (Mx * 2 ^ (Ex - minE Ex Ey).toNat + My * 2 ^ (Ey - minE Ex Ey).toNat) (minE Ex Ey) false)
  else if Mx * 2 ^ (Ex - minE Ex Ey).toNat = My * 2 ^ (Ey - minE Ex Ey).toNat then (sgB s (rm == 2), 0)
  else if Mx * 2 ^ (Ex - minE Ex Ey).toNat < My * 2 ^ (Ey - minE Ex Ey).toNat then rndP s rm my (My * 2 ^ (Ey - minE Ex Ey).toNat - Mx * 2 ^ (Ex - minE Ex Ey).toNat) (minE Ex Ey) false
  else rndP s rm mx (Mx * 2 ^ (Ex - minE Ex Ey).toNat - My * 2 ^ (Ey - minE Ex Ey).toNat) (minE Ex Ey) false
theorem minE_comm (a b : Int) : minE a b = minE b a := by unfold minE; split <;> split <;> omega
theorem sumS_comm (s rm : Int) (mx : Bool) (Mx : Nat) (Ex : Int) (my : Bool) (My : Nat) (Ey : Int) : sumS s rm mx Mx Ex my My Ey = sumS s rm my My Ey mx Mx Ex := by
  unfold sumS
  rw [minE_comm Ey Ex]
  generalize Mx * 2 ^ (Ex - minE Ex Ey).toNat = A
  generalize My * 2 ^ (Ey - minE Ex Ey).toNat = B
  by_cases h : mx = my
  · subst h
    rw [if_pos rfl, if_pos rfl, Nat.add_comm A B]
  · rw [if_neg h, if_neg (show ¬ my = mx from fun h2 => h h2.symm)]
    by_cases h1 : A = B
    · rw [if_pos h1, if_pos (show B = A from h1.symm)]
    · rw [if_neg h1, if_neg (show ¬ B = A from fun h2 => h1 h2.symm)]
      by_cases h2 : A < B
      · rw [if_pos h2, if_neg (show ¬ B < A by omega)]
      · rw [if_neg h2, if_pos (show B < A by omega)]
def Tm (P : Nat) (e : Int) (M : Nat) (E : Int) : Prop :=
  -20000 ≤ e ∧ e ≤ 20000 ∧ -20000 ≤ E ∧ E ≤ 20000 ∧ ((M = 0 ∧ P = 0) ∨ (0 < M ∧ ∃ k : Nat, P = M * 2 ^ k ∧ e = E - k ∧ 85070591730234615865843651857942052864 ≤ P ∧ P < 170141183460469231731687303715884105728 ∧ P % 2097152 = 0))
section
variable {s rm : Int} (hs : s = 4 ∨ s = 8)
include hs
theorem sumC_end {mX mY : Bool} {X Y Mx My A B n : Nat} {eX eY Ex Ey : Int}
    (hq : sumQ mX eX (hiN X) (loN X) mY eY (hiN Y) (loN Y) = ((hiN (X + jamN Y (eX - eY).toNat) : Int), (loN (X + jamN Y (eX - eY).toNat) : Int),
      (hiN (if X < jamN Y (eX - eY).toNat then jamN Y (eX - eY).toNat - X else X - jamN Y (eX - eY).toNat) : Int), (loN (if X < jamN Y (eX - eY).toNat then jamN Y (eX - eY).toNat - X else X - jamN Y (eX - eY).toNat) : Int), (if X < jamN Y (eX - eY).toNat then mY else mX),
      (hiN (jamN Y (eX - eY).toNat) : Int), (loN (jamN Y (eX - eY).toNat) : Int)))
    (hj : jamN Y (eX - eY).toNat = jamN Y n) (hlt : X + jamN Y (eX - eY).toNat < two128) (s2 : r95_0 (topN s) (rm == 2) 0 = (sgB s (rm == 2) : Int)) (x1 : -20000 ≤ eX) (x2 : eX ≤ 20000) (hX0 : 0 < X) (hA0 : 0 < A)
    (hplus : rnd (frN s) (biN s) rm mX (X + jamN Y n) eX false = rnd (frN s) (biN s) rm mX (A + B) (minE Ex Ey) false)
    (hdiff : (X < jamN Y n ↔ A < B) ∧ (X = jamN Y n ↔ A = B) ∧ (jamN Y n < X → rnd (frN s) (biN s) rm mX (X - jamN Y n) eX false = rnd (frN s) (biN s) rm mX (A - B) (minE Ex Ey) false) ∧
        (X < jamN Y n → rnd (frN s) (biN s) rm mY (jamN Y n - X) eX false = rnd (frN s) (biN s) rm mY (B - A) (minE Ex Ey) false))
    (hA : Mx * 2 ^ (Ex - minE Ex Ey).toNat = A) (hB : My * 2 ^ (Ey - minE Ex Ey).toNat = B) :
    sumP (frN s) (biN s) rm mX eX (hiN X) (loN X) mY eY (hiN Y) (loN Y) = true ∧
    sumR0 (frN s) (biN s) (topN s) rm mX eX (hiN X) (loN X) mY eY (hiN Y) (loN Y) = ((sumS s rm mX Mx Ex mY My Ey).1 : Int) ∧
    sumR1 (frN s) (biN s) rm mX eX (hiN X) (loN X) mY eY (hiN Y) (loN Y) = ((sumS s rm mX Mx Ex mY My Ey).2 : Int) := by
  unfold sumP sumR0 sumR1 sumS
  rw [hq, hj, hA, hB]
  rw [hj] at hlt
  dsimp only
  generalize jamN Y n = Q at *
  obtain ⟨d1, d2, d3, d4⟩ := hdiff
  by_cases hm : mX = mY
  · have e : (mX == mY) = true := by rw [hm]; simp
    rw [e, if_pos hm, if_neg (show ¬ A + B = 0 by omega)]
    simp only [Bool.not_true, cond_false]
    have := sround_ok hs (rm := rm) (minus := mX) (P := X + Q) (e := eX) (by omega) hlt (by omega) (by omega)
    rw [hplus] at this
    exact this
  · have e : (mX == mY) = false := by rw [beq_eq_false_iff_ne]; exact hm
    rw [e, if_neg hm]
    simp only [Bool.not_false, cond_true]
    have hD : (if X < Q then Q - X else X - Q) < two128 := by split <;> omega
    rw [or_zero hD]
    by_cases hz : X = Q
    · have : (if X < Q then Q - X else X - Q) = 0 := by split <;> omega
      rw [this, if_pos (d2.1 hz)]
      exact ⟨rfl, s2, rfl⟩
    · have : ¬ (if X < Q then Q - X else X - Q) = 0 := by split <;> omega
      rw [decide_eq_false this, if_neg (fun h => hz (d2.2 h))]
      simp only [Bool.not_false, cond_true]
      by_cases hl : X < Q
      · rw [if_pos hl, if_pos hl, if_pos (d1.1 hl)]
        have := sround_ok hs (rm := rm) (minus := mY) (P := Q - X) (e := eX) (by omega) (by omega) (by omega) (by omega)
        rw [d4 hl] at this
        exact this
      · rw [if_neg hl, if_neg hl, if_neg (fun h => hl (d1.2 h))]
        have := sround_ok hs (rm := rm) (minus := mX) (P := X - Q) (e := eX) (by omega) (by omega) (by omega) (by omega)
        rw [d3 (by omega)] at this
        exact this
theorem sumC_ok {mX mY : Bool} {X Y Mx My : Nat} {eX eY Ex Ey : Int} (hx : Tm X eX Mx Ex) (hy : Tm Y eY My Ey) (hx0 : 0 < Mx) (hle : 0 < My → eY ≤ eX) :
    sumP (frN s) (biN s) rm mX eX (hiN X) (loN X) mY eY (hiN Y) (loN Y) = true ∧
    sumR0 (frN s) (biN s) (topN s) rm mX eX (hiN X) (loN X) mY eY (hiN Y) (loN Y) = ((sumS s rm mX Mx Ex mY My Ey).1 : Int) ∧
    sumR1 (frN s) (biN s) rm mX eX (hiN X) (loN X) mY eY (hiN Y) (loN Y) = ((sumS s rm mX Mx Ex mY My Ey).2 : Int) := by
  obtain ⟨f1, f2, f3, f4, f5, f6, f7, f8, f9, f10⟩ := size_facts hs
  obtain ⟨x1, x2, x3, x4, hX⟩ := hx
  obtain ⟨y1, y2, y3, y4, hY⟩ := hy
  rcases hX with ⟨h, _⟩ | ⟨_, kx, xP, xe, xl, xu, xm⟩
  · omega
  have hYu : Y < 170141183460469231731687303715884105728 := by rcases hY with ⟨_, h⟩ | ⟨_, k, _, _, _, h, _⟩ <;> omega
  have hYm : Y % 2097152 = 0 := by rcases hY with ⟨_, h⟩ | ⟨_, k, _, _, _, _, h⟩ <;> omega
  have hY0 : Y = 0 ↔ My = 0 := by rcases hY with ⟨h, h'⟩ | ⟨h, k, _, _, h', _, _⟩ <;> omega
  obtain ⟨hq, hlt⟩ := sumQ_ok (mX := mX) (mY := mY) (eX := eX) (eY := eY) xu hYu (by omega) (by omega) (by omega) (by omega)
  have s2 := signed_ok hs (rm == 2) (x := 0) (by rcases hs with rfl | rfl <;> decide)
  have s2 : r95_0 (topN s) (rm == 2) 0 = (sgB s (rm == 2) : Int) := s2
  have hf : 2 ^ (frN s + 2) ≤ 2 ^ 54 := Nat.pow_le_pow_right (by decide) (by omega)
  -- the two numbers, at one exponent
  obtain ⟨n, hn⟩ : ∃ n : Nat, n = (if 0 < My then (eX - eY).toNat else 0) := ⟨_, rfl⟩
  have hj : jamN Y (eX - eY).toNat = jamN Y n := by
    by_cases h : 0 < My
    · rw [hn, if_pos h]
    · have : Y = 0 := hY0.2 (by omega)
      rw [this]
      have z : ∀ k, jamN 0 k = 0 := fun k => by unfold jamN; rw [Nat.zero_mod, if_pos rfl, Nat.zero_div]
      rw [z, z]
  obtain ⟨t, ⟨ht1, ht2, ht3⟩ | ⟨hM, ht1, ht3⟩⟩ : ∃ t : Nat, X * 2 ^ n = Mx * 2 ^ (Ex - minE Ex Ey).toNat * 2 ^ t ∧ Y = My * 2 ^ (Ey - minE Ex Ey).toNat * 2 ^ t ∧ eX - n = minE Ex Ey - t ∨ (My = 0 ∧ X * 2 ^ n * 2 ^ t = Mx * 2 ^ (Ex - minE Ex Ey).toNat ∧ eX - n = minE Ex Ey + t) := by
    rcases hY with ⟨h, h'⟩ | ⟨h, ky, yP, ye, _, _, _⟩
    · subst h h'
      have hn0 : n = 0 := by rw [hn, if_neg (by omega)]
      subst hn0
      by_cases hc : eX ≤ minE Ex Ey
      · refine ⟨(minE Ex Ey - eX).toNat, .inl ⟨?_, by simp, by omega⟩⟩
        rw [xP, Nat.pow_zero, Nat.mul_one, Nat.mul_assoc, ← Nat.pow_add]
        congr 2
        have : minE Ex Ey ≤ Ex := by unfold minE; split <;> omega
        omega
      · refine ⟨(eX - minE Ex Ey).toNat, .inr ⟨rfl, ?_, by omega⟩⟩
        rw [xP, Nat.pow_zero, Nat.mul_one, Nat.mul_assoc, ← Nat.pow_add]
        congr 2
        omega
    · have := hle h
      have hn1 : n = (eX - eY).toNat := by rw [hn, if_pos h]
      have hm : eY ≤ minE Ex Ey ∧ minE Ex Ey ≤ Ex ∧ minE Ex Ey ≤ Ey := by unfold minE; split <;> omega
      refine ⟨(minE Ex Ey - eY).toNat, .inl ⟨?_, ?_, by omega⟩⟩
      · rw [xP, Nat.mul_assoc, Nat.mul_assoc, ← Nat.pow_add, ← Nat.pow_add]
        congr 2; omega
      · rw [yP, Nat.mul_assoc, ← Nat.pow_add]
        congr 2; omega
  · -- Y and X at the exponent of Y
    generalize hA : Mx * 2 ^ (Ex - minE Ex Ey).toNat = A at *
    generalize hB : My * 2 ^ (Ey - minE Ex Ey).toNat = B at *
    have hpt := Nat.two_pow_pos t
    have hpn := Nat.two_pow_pos n
    have hA0 : 0 < A := by rw [← hA]; exact Nat.mul_pos hx0 (Nat.two_pow_pos _)
    have qle : jamN Y n ≤ 170141183460469231731687303715884105728 := by
      unfold jamN
      have := Nat.div_le_self Y (2 ^ n)
      split
      · omega
      · rw [or_one]; omega
    have hplus : rnd (frN s) (biN s) rm mX (X + jamN Y n) eX false = rnd (frN s) (biN s) rm mX (A + B) (minE Ex Ey) false := by
      rw [jam_add (by omega) (by omega) (by omega)]
      exact scale_back (by omega) (.inl ⟨t, by rw [ht1, ht2, Nat.add_mul], ht3⟩)
    have cmp : (X * 2 ^ n < Y ↔ A < B) ∧ (X * 2 ^ n = Y ↔ A = B) := by
      rw [ht1, ht2]
      exact ⟨Nat.mul_lt_mul_right hpt, ⟨fun h => Nat.eq_of_mul_eq_mul_right hpt h, fun h => by rw [h]⟩⟩
    have hdiff : (X < jamN Y n ↔ A < B) ∧ (X = jamN Y n ↔ A = B) ∧ (jamN Y n < X → rnd (frN s) (biN s) rm mX (X - jamN Y n) eX false = rnd (frN s) (biN s) rm mX (A - B) (minE Ex Ey) false) ∧
        (X < jamN Y n → rnd (frN s) (biN s) rm mY (jamN Y n - X) eX false = rnd (frN s) (biN s) rm mY (B - A) (minE Ex Ey) false) := by
      by_cases hz : Y % 2 ^ n = 0
      · have hq2 : jamN Y n * 2 ^ n = Y := by
          unfold jamN; rw [if_pos hz]
          have := Nat.div_add_mod' Y (2 ^ n); omega
        have c1 : X < jamN Y n ↔ X * 2 ^ n < Y := by
          conv => rhs; rw [← hq2]
          exact (Nat.mul_lt_mul_right hpn).symm
        have c2 : X = jamN Y n ↔ X * 2 ^ n = Y := by
          conv => rhs; rw [← hq2]
          exact ⟨fun h => by rw [← h], fun h => Nat.eq_of_mul_eq_mul_right hpn h⟩
        refine ⟨c1.trans cmp.1, c2.trans cmp.2, fun h => ?_, fun h => ?_⟩
        · have hBA : B < A := by
            have := cmp.1; have := cmp.2
            have n1 : ¬ X < jamN Y n := by omega
            have n2 : ¬ X = jamN Y n := by omega
            rw [c1] at n1; rw [c2] at n2
            omega
          rw [← rnd_scale (k := n) (by omega : 0 < X - jamN Y n), Nat.sub_mul, hq2]
          exact scale_back (by omega) (.inl ⟨t, by rw [ht1, ht2, Nat.sub_mul], ht3⟩)
        · have hAB : A < B := cmp.1.1 (c1.1 h)
          rw [← rnd_scale (k := n) (by omega : 0 < jamN Y n - X), Nat.sub_mul, hq2]
          exact scale_back (by omega) (.inl ⟨t, by rw [ht1, ht2, Nat.sub_mul], ht3⟩)
      · have hn22 : 22 ≤ n := by
          refine Nat.le_of_not_lt fun hc => hz ?_
          have h5 : 2097152 = 2 ^ n * 2 ^ (21 - n) := by rw [← Nat.pow_add, show n + (21 - n) = 21 by omega]
          have h6 : 2 ^ n ∣ Y := Nat.dvd_trans ⟨2 ^ (21 - n), h5⟩ (Nat.dvd_of_mod_eq_zero hYm)
          exact Nat.mod_eq_zero_of_dvd h6
        have hz2 : Y / 2 ^ n ≤ 40564819207303340847894502572032 := by
          have h5 : 2 ^ 22 ≤ 2 ^ n := Nat.pow_le_pow_right (by decide) hn22
          have h6 : Y / 2 ^ n ≤ Y / 2 ^ 22 := Nat.div_le_div_left h5 (by decide)
          omega
        have hql : jamN Y n ≤ 40564819207303340847894502572033 := by
          unfold jamN; rw [if_neg hz, or_one]; omega
        obtain ⟨j1, j2⟩ := jam_sub (f := frN s) (b := biN s) (rm := rm) (mi := mX) (X := X) (Y := Y) (n := n) (e := eX) (by omega) (by omega) (fun _ => by omega)
        have hBA : B < A := by have := cmp.1; have := cmp.2; omega
        refine ⟨⟨fun h => by omega, fun h => by omega⟩, ⟨fun h => by omega, fun h => by omega⟩, fun h => ?_, fun h => by omega⟩
        rw [j1]
        exact scale_back (by omega) (.inl ⟨t, by rw [ht1, ht2, Nat.sub_mul], ht3⟩)
    exact sumC_end hs hq hj hlt s2 x1 x2 (by omega) hA0 hplus hdiff hA hB
  · have hYz : Y = 0 := hY0.2 hM
    subst hM hYz
    have hjz : jamN 0 n = 0 := by unfold jamN; rw [Nat.zero_mod, if_pos rfl, Nat.zero_div]
    generalize hA : Mx * 2 ^ (Ex - minE Ex Ey).toNat = A at *
    have hB : 0 * 2 ^ (Ey - minE Ex Ey).toNat = 0 := Nat.zero_mul _
    have hn0 : n = 0 := by rw [hn, if_neg (by omega)]
    subst hn0
    rw [Nat.pow_zero, Nat.mul_one] at ht1
    have hA0 : 0 < A := by rw [← hA]; exact Nat.mul_pos hx0 (Nat.two_pow_pos _)
    have hr : ∀ mi : Bool, rnd (frN s) (biN s) rm mi X eX false = rnd (frN s) (biN s) rm mi A (minE Ex Ey) false := fun mi => scale_back hA0 (.inr ⟨t, ht1, by omega⟩)
    refine sumC_end hs hq hj hlt s2 x1 x2 (by omega) hA0 ?_ ?_ hA hB
    · rw [hjz]; exact hr mX
    · rw [hjz]
      refine ⟨⟨fun h => by omega, fun h => by omega⟩, ⟨fun h => by omega, fun h => by omega⟩, fun _ => hr mX, fun h => by omega⟩
end
end Go.Proofs.Ytacciadcmiiimaa

namespace Go.Proofs.Ytacciadcmiiimaa
open Go Go.Sx Go.Rnd
set_option maxRecDepth 100000
set_option maxHeartbeats 2000000

noncomputable def sumB0 (x0 x1 x2 x3 : Int) (x20 x23 : Int) (x21 : Bool) (x24 : Bool) (x35 : Bool) (x36 x37 x38 : Int) (x39 : Bool) (x40 x41 x42 : Int) : Int :=
  let x43 := IntKind.wrap .i64 (x36 - x40)
  let x45 := r123_0 x41 x42 x43
  let x46 := r123_1 x41 x42 x43
  let x47 := x35 == x39
  let x54 := 0 == 1
  let x55 := IntKind.wrap .u64 (x38 + x46)
  let x56 := IntKind.wrap .u64 (x55 + 0)
  let x57 := decide (x56 < x38)
  let x58 := x56 == x38
  let x59 := x54 && x58
  let x60 := x57 || x59
  let x61 : Int := bif x60 then 1 else 0
  let x69 := IntKind.wrap .u64 (x37 + x45)
  let x70 := IntKind.wrap .u64 (x69 + x61)
  let x77 := r98_0 x0 x1 x2 x3 x35 x36 x70 x56
  let x79 := !x47
  let x86 := 0 == 1
  let x87 := IntKind.wrap .u64 (x38 - x46)
  let x88 := IntKind.wrap .u64 (x87 - 0)
  let x89 := decide (x38 < x46)
  let x90 := x38 == x46
  let x91 := x86 && x90
  let x92 := x89 || x91
  let x93 : Int := bif x92 then 1 else 0
  let x100 := x93 == 1
  let x101 := IntKind.wrap .u64 (x37 - x45)
  let x102 := IntKind.wrap .u64 (x101 - x93)
  let x103 := decide (x37 < x45)
  let x104 := x37 == x45
  let x105 := x100 && x104
  let x106 := x103 || x105
  let x107 : Int := bif x106 then 1 else 0
  let x108 := x107 == 1
  let x115 := 0 == 1
  let x116 := IntKind.wrap .u64 (x46 - x38)
  let x117 := IntKind.wrap .u64 (x116 - 0)
  let x118 := decide (x46 < x38)
  let x119 := x46 == x38
  let x120 := x115 && x119
  let x121 := x118 || x120
  let x122 : Int := bif x121 then 1 else 0
  let x130 := IntKind.wrap .u64 (x45 - x37)
  let x131 := IntKind.wrap .u64 (x130 - x122)
  let x137 := bif x108 then x117 else x88
  let x139 := bif x108 then x131 else x102
  let x140 := bif x108 then x39 else x35
  let x141 := ilor .u64 x139 x137
  let x142 := x141 == 0
  let x143 := x3 == 2
  let x144 := r95_0 x2 x143 0
  let x145 := !x142
  let x147 := r98_0 x0 x1 x2 x3 x140 x36 x139 x137
  let x149 := bif x145 then x147 else x144
  let x151 := bif x79 then x149 else x77
  let x153 := bif x21 then x23 else x20
  let x154 := bif x24 then x151 else x153
  x154
noncomputable def sumB1 (x0 x1 x3 : Int) (x24 : Bool) (x35 : Bool) (x36 x37 x38 : Int) (x39 : Bool) (x40 x41 x42 : Int) : Int :=
  let x43 := IntKind.wrap .i64 (x36 - x40)
  let x45 := r123_0 x41 x42 x43
  let x46 := r123_1 x41 x42 x43
  let x47 := x35 == x39
  let x54 := 0 == 1
  let x55 := IntKind.wrap .u64 (x38 + x46)
  let x56 := IntKind.wrap .u64 (x55 + 0)
  let x57 := decide (x56 < x38)
  let x58 := x56 == x38
  let x59 := x54 && x58
  let x60 := x57 || x59
  let x61 : Int := bif x60 then 1 else 0
  let x69 := IntKind.wrap .u64 (x37 + x45)
  let x70 := IntKind.wrap .u64 (x69 + x61)
  let x78 := r98_1 x0 x1 x3 x35 x36 x70 x56
  let x79 := !x47
  let x86 := 0 == 1
  let x87 := IntKind.wrap .u64 (x38 - x46)
  let x88 := IntKind.wrap .u64 (x87 - 0)
  let x89 := decide (x38 < x46)
  let x90 := x38 == x46
  let x91 := x86 && x90
  let x92 := x89 || x91
  let x93 : Int := bif x92 then 1 else 0
  let x100 := x93 == 1
  let x101 := IntKind.wrap .u64 (x37 - x45)
  let x102 := IntKind.wrap .u64 (x101 - x93)
  let x103 := decide (x37 < x45)
  let x104 := x37 == x45
  let x105 := x100 && x104
  let x106 := x103 || x105
  let x107 : Int := bif x106 then 1 else 0
  let x108 := x107 == 1
  let x115 := 0 == 1
  let x116 := IntKind.wrap .u64 (x46 - x38)
  let x117 := IntKind.wrap .u64 (x116 - 0)
  let x118 := decide (x46 < x38)
  let x119 := x46 == x38
  let x120 := x115 && x119
  let x121 := x118 || x120
  let x122 : Int := bif x121 then 1 else 0
  let x130 := IntKind.wrap .u64 (x45 - x37)
  let x131 := IntKind.wrap .u64 (x130 - x122)
  let x137 := bif x108 then x117 else x88
  let x139 := bif x108 then x131 else x102
  let x140 := bif x108 then x39 else x35
  let x141 := ilor .u64 x139 x137
  let x142 := x141 == 0
  let x145 := !x142
  let x148 := r98_1 x0 x1 x3 x140 x36 x139 x137
  let x150 := bif x145 then x148 else 0
  let x152 := bif x79 then x150 else x78
  let x155 := bif x24 then x152 else 0
  x155
abbrev swapped (ex hx lx ey hy ly : Int) : Bool := ((hx == 0) && (lx == 0)) || (!((hy == 0) && (ly == 0)) && decide (ey > ex))
theorem r107_0_eq (f b top rm : Int) (mx : Bool) (ex hx lx : Int) (my : Bool) (ey hy ly : Int) : r107_0 f b top rm mx ex hx lx my ey hy ly =
    sumB0 f b top rm (r95_0 top mx 0) (r95_0 top (rm == 2) 0) (!(mx == my)) (!(((hx == 0) && (lx == 0)) && ((hy == 0) && (ly == 0)))) (bif swapped ex hx lx ey hy ly then my else mx) (bif swapped ex hx lx ey hy ly then ey else ex)
        (bif swapped ex hx lx ey hy ly then hy else hx) (bif swapped ex hx lx ey hy ly then ly else lx)
        (bif swapped ex hx lx ey hy ly then mx else my) (bif swapped ex hx lx ey hy ly then ex else ey)
        (bif swapped ex hx lx ey hy ly then hx else hy) (bif swapped ex hx lx ey hy ly then lx else ly) := rfl
theorem r107_1_eq (f b rm : Int) (mx : Bool) (ex hx lx : Int) (my : Bool) (ey hy ly : Int) : r107_1 f b rm mx ex hx lx my ey hy ly =
    sumB1 f b rm (!(((hx == 0) && (lx == 0)) && ((hy == 0) && (ly == 0)))) (bif swapped ex hx lx ey hy ly then my else mx) (bif swapped ex hx lx ey hy ly then ey else ex)
        (bif swapped ex hx lx ey hy ly then hy else hx) (bif swapped ex hx lx ey hy ly then ly else lx)
        (bif swapped ex hx lx ey hy ly then mx else my) (bif swapped ex hx lx ey hy ly then ex else ey)
        (bif swapped ex hx lx ey hy ly then hx else hy) (bif swapped ex hx lx ey hy ly then lx else ly) := rfl
theorem sumB0_eq (x0 x1 x2 x3 : Int) (x20 x23 : Int) (x21 : Bool) (x24 : Bool) (x35 : Bool) (x36 x37 x38 : Int) (x39 : Bool) (x40 x41 x42 : Int) (h : x23 = r95_0 x2 (x3 == 2) 0) :
    sumB0 x0 x1 x2 x3 x20 x23 x21 x24 x35 x36 x37 x38 x39 x40 x41 x42 = bif x24 then sumR0 x0 x1 x2 x3 x35 x36 x37 x38 x39 x40 x41 x42 else bif x21 then x23 else x20 := by
  subst h
  unfold sumB0 sumR0 sumQ
  dsimp only
theorem sumB1_eq (x0 x1 x3 : Int) (x24 : Bool) (x35 : Bool) (x36 x37 x38 : Int) (x39 : Bool) (x40 x41 x42 : Int) :
    sumB1 x0 x1 x3 x24 x35 x36 x37 x38 x39 x40 x41 x42 = bif x24 then sumR1 x0 x1 x3 x35 x36 x37 x38 x39 x40 x41 x42 else 0 := by
  unfold sumB1 sumR1 sumQ
  dsimp only
theorem zero_words {P : Nat} : (((hiN P : Int) == 0) && ((loN P : Int) == 0)) = decide (P = 0) := by
  have := hi_lo P
  rw [Bool.eq_iff_iff]; simp only [Bool.and_eq_true, beq_iff_eq, dec]; omega
theorem Tm.zero {P M : Nat} {e E : Int} (h : Tm P e M E) : P = 0 ↔ M = 0 := by
  obtain ⟨_, _, _, _, h⟩ := h
  rcases h with ⟨h1, h2⟩ | ⟨h1, k, _, _, h2, _⟩ <;> omega
theorem Tm.lt {P M : Nat} {e E : Int} (h : Tm P e M E) : P < 170141183460469231731687303715884105728 := by
  obtain ⟨_, _, _, _, h⟩ := h
  rcases h with ⟨h1, h2⟩ | ⟨h1, k, _, _, h2, _⟩ <;> omega
theorem range_hi {P : Nat} (h : P < two128) : decide ((hiN P : Int) ≥ 0) = true ∧ decide ((hiN P : Int) < 18446744073709551616) = true := by
  have := hi_lt h
  exact ⟨decide_eq_true (by omega), decide_eq_true (by omega)⟩
theorem range_lo {P : Nat} : decide ((loN P : Int) ≥ 0) = true ∧ decide ((loN P : Int) < 18446744073709551616) = true := by
  have := lo_lt P
  exact ⟨decide_eq_true (by omega), decide_eq_true (by omega)⟩
theorem range_c (c : Bool) : decide ((bif c then (1 : Int) else 0) ≥ 0) = true ∧ decide ((bif c then (1 : Int) else 0) < 2) = true := by cases c <;> decide
theorem ow2 {c m x : Bool} (h : c = true → m = true → x = true) : ow [(c, true), (m, true)] x = true := by
  cases c <;> cases m <;> simp_all [ow]
theorem ow3 {c m z x : Bool} (h : c = true → m = true → z = true → x = true) : ow [(c, true), (m, true), (z, true)] x = true := by
  cases c <;> cases m <;> cases z <;> simp_all [ow]
noncomputable def sumB (x0 x1 x3 : Int) (x24 : Bool) (x35 : Bool) (x36 x37 x38 : Int) (x39 : Bool) (x40 x41 x42 : Int) : Bool :=
  let x43 := IntKind.wrap .i64 (x36 - x40)
  let x44 := p123 x42 x43
  let x45 := r123_0 x41 x42 x43
  let x46 := r123_1 x41 x42 x43
  let x47 := x35 == x39
  let x48 := decide (x38 ≥ 0)
  let x49 := decide (x38 < 18446744073709551616)
  let x50 := decide (x46 ≥ 0)
  let x51 := decide (x46 < 18446744073709551616)
  let x52 := decide (0 ≥ 0)
  let x53 := decide (0 < 2)
  let x54 := 0 == 1
  let x55 := IntKind.wrap .u64 (x38 + x46)
  let x56 := IntKind.wrap .u64 (x55 + 0)
  let x57 := decide (x56 < x38)
  let x58 := x56 == x38
  let x59 := x54 && x58
  let x60 := x57 || x59
  let x61 : Int := bif x60 then 1 else 0
  let x62 := decide (x37 ≥ 0)
  let x63 := decide (x37 < 18446744073709551616)
  let x64 := decide (x45 ≥ 0)
  let x65 := decide (x45 < 18446744073709551616)
  let x66 := decide (x61 ≥ 0)
  let x67 := decide (x61 < 2)
  let x69 := IntKind.wrap .u64 (x37 + x45)
  let x70 := IntKind.wrap .u64 (x69 + x61)
  let x76 := p98 x0 x1 x3 x35 x36 x70 x56
  let x79 := !x47
  let x80 := decide (x38 ≥ 0)
  let x81 := decide (x38 < 18446744073709551616)
  let x82 := decide (x46 ≥ 0)
  let x83 := decide (x46 < 18446744073709551616)
  let x84 := decide (0 ≥ 0)
  let x85 := decide (0 < 2)
  let x86 := 0 == 1
  let x87 := IntKind.wrap .u64 (x38 - x46)
  let x88 := IntKind.wrap .u64 (x87 - 0)
  let x89 := decide (x38 < x46)
  let x90 := x38 == x46
  let x91 := x86 && x90
  let x92 := x89 || x91
  let x93 : Int := bif x92 then 1 else 0
  let x94 := decide (x37 ≥ 0)
  let x95 := decide (x37 < 18446744073709551616)
  let x96 := decide (x45 ≥ 0)
  let x97 := decide (x45 < 18446744073709551616)
  let x98 := decide (x93 ≥ 0)
  let x99 := decide (x93 < 2)
  let x100 := x93 == 1
  let x101 := IntKind.wrap .u64 (x37 - x45)
  let x102 := IntKind.wrap .u64 (x101 - x93)
  let x103 := decide (x37 < x45)
  let x104 := x37 == x45
  let x105 := x100 && x104
  let x106 := x103 || x105
  let x107 : Int := bif x106 then 1 else 0
  let x108 := x107 == 1
  let x109 := decide (x46 ≥ 0)
  let x110 := decide (x46 < 18446744073709551616)
  let x111 := decide (x38 ≥ 0)
  let x112 := decide (x38 < 18446744073709551616)
  let x113 := decide (0 ≥ 0)
  let x114 := decide (0 < 2)
  let x115 := 0 == 1
  let x116 := IntKind.wrap .u64 (x46 - x38)
  let x117 := IntKind.wrap .u64 (x116 - 0)
  let x118 := decide (x46 < x38)
  let x119 := x46 == x38
  let x120 := x115 && x119
  let x121 := x118 || x120
  let x122 : Int := bif x121 then 1 else 0
  let x123 := decide (x45 ≥ 0)
  let x124 := decide (x45 < 18446744073709551616)
  let x125 := decide (x37 ≥ 0)
  let x126 := decide (x37 < 18446744073709551616)
  let x127 := decide (x122 ≥ 0)
  let x128 := decide (x122 < 2)
  let x130 := IntKind.wrap .u64 (x45 - x37)
  let x131 := IntKind.wrap .u64 (x130 - x122)
  let x137 := bif x108 then x117 else x88
  let x139 := bif x108 then x131 else x102
  let x140 := bif x108 then x39 else x35
  let x141 := ilor .u64 x139 x137
  let x142 := x141 == 0
  let x145 := !x142
  let x146 := p98 x0 x1 x3 x140 x36 x139 x137
  [ow [(x24, true)] x44, ow [(x24, true), (x47, true)] x48, ow [(x24, true), (x47, true)] x49, ow [(x24, true), (x47, true)] x50, ow [(x24, true), (x47, true)] x51, ow [(x24, true), (x47, true)] x52, ow [(x24, true), (x47, true)] x53, ow [(x24, true), (x47, true)] x62, ow [(x24, true), (x47, true)] x63, ow [(x24, true), (x47, true)] x64, ow [(x24, true), (x47, true)] x65, ow [(x24, true), (x47, true)] x66, ow [(x24, true), (x47, true)] x67, ow [(x24, true), (x47, true)] x76, ow [(x24, true), (x79, true)] x80, ow [(x24, true), (x79, true)] x81, ow [(x24, true), (x79, true)] x82, ow [(x24, true), (x79, true)] x83, ow [(x24, true), (x79, true)] x84, ow [(x24, true), (x79, true)] x85, ow [(x24, true), (x79, true)] x94, ow [(x24, true), (x79, true)] x95, ow [(x24, true), (x79, true)] x96, ow [(x24, true), (x79, true)] x97, ow [(x24, true), (x79, true)] x98, ow [(x24, true), (x79, true)] x99, ow [(x24, true), (x79, true), (x108, true)] x109, ow [(x24, true), (x79, true), (x108, true)] x110, ow [(x24, true), (x79, true), (x108, true)] x111, ow [(x24, true), (x79, true), (x108, true)] x112, ow [(x24, true), (x79, true), (x108, true)] x113, ow [(x24, true), (x79, true), (x108, true)] x114, ow [(x24, true), (x79, true), (x108, true)] x123, ow [(x24, true), (x79, true), (x108, true)] x124, ow [(x24, true), (x79, true), (x108, true)] x125, ow [(x24, true), (x79, true), (x108, true)] x126, ow [(x24, true), (x79, true), (x108, true)] x127, ow [(x24, true), (x79, true), (x108, true)] x128, ow [(x24, true), (x79, true), (x145, true)] x146].all id
theorem p107_eq (f b rm : Int) (mx : Bool) (ex hx lx : Int) (my : Bool) (ey hy ly : Int) : p107 f b rm mx ex hx lx my ey hy ly =
    sumB f b rm (!(((hx == 0) && (lx == 0)) && ((hy == 0) && (ly == 0)))) (bif swapped ex hx lx ey hy ly then my else mx) (bif swapped ex hx lx ey hy ly then ey else ex)
        (bif swapped ex hx lx ey hy ly then hy else hx) (bif swapped ex hx lx ey hy ly then ly else lx)
        (bif swapped ex hx lx ey hy ly then mx else my) (bif swapped ex hx lx ey hy ly then ex else ey)
        (bif swapped ex hx lx ey hy ly then hx else hy) (bif swapped ex hx lx ey hy ly then lx else ly) := rfl
theorem sumB_ok {f b rm : Int} {c : Bool} {mX mY : Bool} {eX eY : Int} {X Y : Nat} (hX : X < two128) (hY : Y < two128) (he : eX - eY < 1000000) (he2 : -1000000 < eX - eY)
    (hp : c = true → sumP f b rm mX eX (hiN X) (loN X) mY eY (hiN Y) (loN Y) = true) : sumB f b rm c mX eX (hiN X) (loN X) mY eY (hiN Y) (loN Y) = true := by
  have w : IntKind.wrap .i64 (eX - eY) = eX - eY := wrap_i64_of (by omega) (by omega)
  obtain ⟨j0, j1, j2⟩ := jam_any (Y := Y) (x := eX - eY) hY (by omega)
  have hj := jam_lt (n := (eX - eY).toNat) hY
  unfold sumP sumQ at hp
  dsimp only at hp
  rw [w, j1, j2] at hp
  have a0 : decide ((0 : Nat) ≥ 0) = true := by decide
  have a1 : decide ((0 : Nat) < 2) = true := by decide
  simp only [sumB, w, j0, j1, j2, (range_hi hX).1, (range_hi hX).2, (range_hi hj).1, (range_hi hj).2, (range_lo (P := X)).1, (range_lo (P := X)).2, (range_lo (P := jamN Y (eX - eY).toNat)).1,
    (range_lo (P := jamN Y (eX - eY).toNat)).2, (range_c _).1, (range_c _).2, a0, a1, ow_t, List.all_cons, List.all_nil, id, Bool.true_and, Bool.and_true, Bool.and_eq_true]
  refine ⟨ow2 fun h1 h2 => ?_, ow3 fun h1 h2 h3 => ?_⟩
  · have := hp h1
    rw [h2] at this
    exact this
  · have := hp h1
    have h2' : (mX == mY) = false := by rw [← Bool.not_eq_true', h2]
    rw [h2', h3] at this
    exact this

theorem swapped_eq {X Y : Nat} {ex ey : Int} : swapped ex (hiN X) (loN X) ey (hiN Y) (loN Y) = (decide (X = 0) || (!decide (Y = 0) && decide (ey > ex))) := by
  unfold swapped; rw [zero_words, zero_words]
section
variable {s rm : Int} (hs : s = 4 ∨ s = 8)
include hs
theorem ssum_ok {mx my : Bool} {X Y Mx My : Nat} {ex ey Ex Ey : Int} (hx : Tm X ex Mx Ex) (hy : Tm Y ey My Ey) :
    p107 (frN s) (biN s) rm mx ex (hiN X) (loN X) my ey (hiN Y) (loN Y) = true ∧
    r107_0 (frN s) (biN s) (topN s) rm mx ex (hiN X) (loN X) my ey (hiN Y) (loN Y) = ((sumS s rm mx Mx Ex my My Ey).1 : Int) ∧
    r107_1 (frN s) (biN s) rm mx ex (hiN X) (loN X) my ey (hiN Y) (loN Y) = ((sumS s rm mx Mx Ex my My Ey).2 : Int) := by
  have X1 := hx.lt
  have Y1 := hy.lt
  have X2 : X < two128 := by unfold two128; omega
  have Y2 : Y < two128 := by unfold two128; omega
  have x1 := hx.1
  have x2 := hx.2.1
  have y1 := hy.1
  have y2 := hy.2.1
  have zx := hx.zero
  have zy := hy.zero
  rw [p107_eq, r107_0_eq, r107_1_eq, sumB0_eq _ _ _ _ _ _ _ _ _ _ _ _ _ _ _ _ rfl, sumB1_eq, swapped_eq, zero_words, zero_words]
  by_cases hz : X = 0 ∧ Y = 0
  · have c : (!(decide (X = 0) && decide (Y = 0))) = false := by rw [decide_eq_true hz.1, decide_eq_true hz.2]; rfl
    have m1 := zx.1 hz.1
    have m2 := zy.1 hz.2
    subst m1 m2
    have s2 : ∀ b : Bool, r95_0 (topN s) b 0 = (sgB s b : Int) := fun b => signed_ok hs b (x := 0) (by rcases hs with rfl | rfl <;> decide)
    unfold sumS
    rw [Nat.zero_mul, Nat.zero_mul, s2, s2, c]
    refine ⟨?_, ?_, ?_⟩
    · have d : (decide (X = 0) || (!decide (Y = 0) && decide (ey > ex))) = true := by rw [decide_eq_true hz.1]; rfl
      rw [d]
      simp only [cond_true]
      exact sumB_ok Y2 X2 (by omega) (by omega) fun h => absurd h (by decide)
    · cases mx <;> cases my <;> rfl
    · cases mx <;> cases my <;> rfl
  · have c : (!(decide (X = 0) && decide (Y = 0))) = true := by
      rw [Bool.not_eq_true', Bool.and_eq_false_iff, decide_eq_false_iff_not, decide_eq_false_iff_not]; omega
    rw [c]
    by_cases hc : X = 0 ∨ (Y ≠ 0 ∧ ey > ex)
    · have d : (decide (X = 0) || (!decide (Y = 0) && decide (ey > ex))) = true := by
        simp only [Bool.or_eq_true, Bool.and_eq_true, dec, Bool.not_eq_true', decide_eq_false_iff_not]
        omega
      rw [d, sumS_comm]
      simp only [cond_true]
      obtain ⟨a1, a2, a3⟩ := sumC_ok hs (rm := rm) (mX := my) (mY := mx) hy hx (by omega) (fun h => by omega)
      exact ⟨sumB_ok Y2 X2 (by omega) (by omega) fun _ => a1, a2, a3⟩
    · have d : (decide (X = 0) || (!decide (Y = 0) && decide (ey > ex))) = false := by
        rw [← Bool.not_eq_true]
        simp only [Bool.or_eq_true, Bool.and_eq_true, dec, Bool.not_eq_true', decide_eq_false_iff_not]
        omega
      rw [d]
      simp only [cond_false, cond_true]
      obtain ⟨a1, a2, a3⟩ := sumC_ok hs (rm := rm) (mX := mx) (mY := my) hx hy (by omega) (fun h => by omega)
      exact ⟨sumB_ok X2 Y2 (by omega) (by omega) fun _ => a1, a2, a3⟩

end
end Go.Proofs.Ytacciadcmiiimaa

namespace Go.Proofs.Ytacciadcmiiimaa
open Go Go.Sx Go.Rnd
set_option maxRecDepth 100000
set_option maxHeartbeats 4000000

def addS (s rm : Int) (a b : Nat) : Nat × Nat :=
  if (infN s a && infN s b && (sgN s a != sgN s b)) || nanN s a || nanN s b then oddP s (infN s a && infN s b && (sgN s a != sgN s b)) (loudN s a || loudN s b)
  else if infN s a then (mkN s a, 0)
  else if infN s b then (mkN s b, 0)
  else sumS s rm (sgN s a) (fM s a) (fE s a) (sgN s b) (fM s b) (fE s b)
def farN (s : Int) (a b : Nat) : Bool := (infN s a || infN s b) && !nanN s a && !nanN s b
def noneN (s : Int) (a b : Nat) : Bool := infN s a && zerN s b || zerN s a && infN s b
def invF (s : Int) (a b c : Nat) : Bool := noneN s a b || (farN s a b && infN s c && (sgN s c != (sgN s a != sgN s b)))
def fmaS (s rm : Int) (a b c : Nat) : Nat × Nat :=
  if invF s a b c || nanN s a || nanN s b || nanN s c then oddP s (invF s a b c) (loudN s a || loudN s b || loudN s c)
  else if farN s a b then (sgB s (sgN s a != sgN s b) + infB s, 0)
  else if infN s c then (mkN s c, 0)
  else sumS s rm (sgN s a != sgN s b) (fM s a * fM s b) (fE s a + fE s b) (sgN s c) (fM s c) (fE s c)

def tmP (s : Int) (a : Nat) : Nat := if zerN s a then 0 else tmN s a * 9223372036854775808
def teP (s : Int) (a : Nat) : Int := if zerN s a then 0 else teN s a - 63

section
variable {s rm : Int} (hs : s = 4 ∨ s = 8) (h0 : 0 ≤ rm) (h1 : rm ≤ 4) {a b c : Nat} (ha : a < 18446744073709551616) (hb : b < 18446744073709551616) (hc : c < 18446744073709551616)
include hs ha
theorem inf_mk (h : infN s a = true) : mkN s a = sgB s (sgN s a) + infB s := by
  have hl := mk_lt hs ha
  unfold infN exf frf at h
  unfold sgB sgN
  simp only [dec] at h ⊢
  rcases hs with rfl | rfl
  · have e1 : oneN 4 = 8388608 := rfl
    have e2 : topN 4 = 2147483648 := rfl
    have e3 : emaxN 4 = 255 := rfl
    have e4 : infB 4 = 2139095040 := rfl
    rw [e1, e3] at h
    rw [e2] at hl ⊢
    rw [e4]
    split <;> omega
  · have e1 : oneN 8 = 4503599627370496 := rfl
    have e2 : topN 8 = 9223372036854775808 := rfl
    have e3 : emaxN 8 = 2047 := rfl
    have e4 : infB 8 = 9218868437227405312 := rfl
    rw [e1, e3] at h
    rw [e2] at hl ⊢
    rw [e4]
    split <;> omega
theorem zer_M (h : zerN s a = true) : fM s a = 0 := by
  have _ := hs; have _ := ha
  unfold zerN at h
  simp only [dec] at h
  unfold fM
  rw [if_neg (by omega), h.2]
theorem tm_fl (hn : nanN s a = false) (hi : infN s a = false) : Tm (tmP s a) (teP s a) (fM s a) (fE s a) := by
  have hE := fE_le hs ha
  unfold tmP teP
  cases hz : zerN s a with
  | true =>
    rw [if_pos rfl, if_pos rfl]
    exact ⟨by decide, by decide, by omega, by omega, .inl ⟨zer_M hs ha hz, rfl⟩⟩
  | false =>
    have hf : finN s a = true := by unfold finN; rw [hn, hi, hz]; rfl
    obtain ⟨t1, t2, t3, t4, t5, t6⟩ := tm_facts hs ha hf
    have hp := fM_pos hs ha hf
    have e1 : (if false = true then 0 else tmN s a * 9223372036854775808) = tmN s a * 9223372036854775808 := rfl
    have e2 : (if false = true then 0 else teN s a - 63) = teN s a - 63 := rfl
    rw [e1, e2]
    refine ⟨by omega, by omega, by omega, by omega, .inr ⟨hp, lzN s a + 63, ?_, by omega, by omega, by omega, by omega⟩⟩
    rw [Nat.pow_add, ← Nat.mul_assoc, ← t3]
theorem term_fl : g108 (segD [.b true, .b (sgN s a), .b (loudN s a), .i (kdN s a), .i (teN s a), .i (tmN s a)] 1 5) = [.b (sgN s a), .i (teP s a), .i (hiN (tmP s a)), .i (loN (tmP s a))] := by
  obtain ⟨t1, t2, t3, t4⟩ := term_ok hs ha
  show [DV.b (r108_0 (sgN s a)), .i (r108_1 (kdN s a) (teN s a)), .i (r108_2 (kdN s a) (tmN s a)), .i (r108_3 (kdN s a) (tmN s a))] = _
  rw [t1, t2, t3, t4]
  unfold tmP teP
  cases zerN s a
  · rfl
  · simp [hiN, loN]
include hb
include h0 h1
theorem sadd_ok : p54 s rm a b = true ∧ r54_0 s rm a b = ((addS s rm a b).1 : Int) ∧ r54_1 s rm a b = ((addS s rm a b).2 : Int) := by
  obtain ⟨g1, g2, g3⟩ := of92 hs
  have hk := (right_ok hs h0 h1).1
  have ta := take_ok hs ha
  have tb := take_ok hs hb
  have ua := term_fl hs ha
  have ub := term_fl hs hb
  obtain ⟨n0, n1, n2, n3⟩ := nans_2 hs ha hb (infN s a && infN s b && (sgN s a != sgN s b))
  obtain ⟨f1, _⟩ := size_facts hs
  have hi96 := inf96 hs
  have p96 : p96 (frN s) = true := by simp only [p96]; rw [decide_eq_true (by omega)]; rfl
  have s1 : ∀ m : Bool, r95_0 (topN s) m (infB s) = ((sgB s m + infB s : Nat) : Int) := fun m => signed_ok hs m (x := infB s) (by rcases hs with rfl | rfl <;> decide)
  have key : nanN s a = false → infN s a = false → nanN s b = false → infN s b = false → _ := fun x1 x2 x3 x4 => ssum_ok hs (rm := rm) (mx := sgN s a) (my := sgN s b) (tm_fl hs ha x1 x2) (tm_fl hs hb x3 x4)
  have ka2 := kd2 hs (a := a)
  have kb2 := kd2 hs (a := b)
  unfold addS oddP
  refine ⟨?_, ?_, ?_⟩
  · simp only [p54, hk, g1, g2, g3, ta, tb, ua, ub, dget, List.getD_cons_succ, List.getD_cons_zero, DV.toB, DV.toI, ka2, kb2, n0, n3, p96]
    generalize p107 (frN s) (biN s) rm (sgN s a) (teP s a) (hiN (tmP s a)) (loN (tmP s a)) (sgN s b) (teP s b) (hiN (tmP s b)) (loN (tmP s b)) = q at *
    revert key
    cases nanN s a <;> cases nanN s b <;> cases infN s a <;> cases infN s b <;> cases (sgN s a != sgN s b) <;> intro key <;> first | rfl | (rw [(key rfl rfl rfl rfl).1]; rfl)
  · simp only [r54_0, hk, g1, g2, g3, ta, tb, ua, ub, dget, List.getD_cons_succ, List.getD_cons_zero, DV.toB, DV.toI, ka2, kb2, n1, n3, hi96, s1]
    generalize r107_0 (frN s) (biN s) (topN s) rm (sgN s a) (teP s a) (hiN (tmP s a)) (loN (tmP s a)) (sgN s b) (teP s b) (hiN (tmP s b)) (loN (tmP s b)) = q at *
    generalize sumS s rm (sgN s a) (fM s a) (fE s a) (sgN s b) (fM s b) (fE s b) = r at *
    have ia := inf_mk hs ha
    have ib := inf_mk hs hb
    have la := inf_nan (s := s) (a := a)
    have lb := inf_nan (s := s) (a := b)
    revert key ia ib la lb
    cases nanN s a <;> cases nanN s b <;> cases infN s a <;> cases infN s b <;> intro key ia ib la lb <;>
      first | exact (key rfl rfl rfl rfl).2.1 | exact absurd (la rfl) (by decide) | exact absurd (lb rfl) (by decide) |
        (first | rw [ia rfl] | skip) <;> (first | rw [ib rfl] | skip) <;> cases sgN s a <;> cases sgN s b <;> rfl
  · simp only [r54_1, hk, g1, g2, g3, ta, tb, ua, ub, dget, List.getD_cons_succ, List.getD_cons_zero, DV.toB, DV.toI, ka2, kb2, n2, n3]
    generalize r107_1 (frN s) (biN s) rm (sgN s a) (teP s a) (hiN (tmP s a)) (loN (tmP s a)) (sgN s b) (teP s b) (hiN (tmP s b)) (loN (tmP s b)) = q at *
    generalize sumS s rm (sgN s a) (fM s a) (fE s a) (sgN s b) (fM s b) (fE s b) = r at *
    have l1 := loud_nan (s := s) (a := a)
    have l2 := loud_nan (s := s) (a := b)
    revert key l1 l2
    cases nanN s a <;> cases nanN s b <;> cases infN s a <;> cases infN s b <;> cases (sgN s a != sgN s b) <;> intro key l1 l2 <;>
      first | exact (key rfl rfl rfl rfl).2.2 | rfl | (cases loudN s a <;> cases loudN s b <;> first | rfl | cases l1 rfl | cases l2 rfl)
omit ha h0 h1 in
theorem flip_lt : b ^^^ topN s < 18446744073709551616 := by
  have := (size_facts hs).2.2.2.2.2.2.2.2.2
  exact Nat.xor_lt_two_pow (n := 64) hb (by omega)
omit ha h0 h1 in
theorem flip_ok : ilxor .u64 (b : Int) (topN s : Int) = ((b ^^^ topN s : Nat) : Int) := by
  have := (size_facts hs).2.2.2.2.2.2.2.2.2
  exact lxor_nn hb (by omega)
def subS (s rm : Int) (a b : Nat) : Nat × Nat := addS s rm a (b ^^^ topN s)
theorem ssub_ok : p59 s rm a b = true ∧ r59_0 s rm a b = ((subS s rm a b).1 : Int) ∧ r59_1 s rm a b = ((subS s rm a b).2 : Int) := by
  obtain ⟨g1, g2, g3⟩ := of92 hs
  have hk := (right_ok hs h0 h1).1
  obtain ⟨q0, q1, q2⟩ := sadd_ok hs h0 h1 ha (flip_lt hs hb)
  have e := flip_ok hs hb
  unfold subS
  refine ⟨?_, ?_, ?_⟩
  · simp only [p59, hk, g3, e, q0, ow_t]; rfl
  · simp only [r59_0, hk, g3, e, q1]; rfl
  · simp only [r59_1, hk, g3, e, q2]; rfl
end
end Go.Proofs.Ytacciadcmiiimaa

namespace Go.Proofs.Ytacciadcmiiimaa
open Go Go.Sx Go.Rnd
set_option maxRecDepth 100000
set_option maxHeartbeats 8000000

def prP (P : Nat) : Nat := if P < 170141183460469231731687303715884105728 then P else P / 2
def prE (P : Nat) (e : Int) : Int := if P < 170141183460469231731687303715884105728 then e else e + 1
theorem half_words (Q : Nat) (hQ : Q < two128) : ishr .u64 (hiN Q : Int) 1 = (hiN (Q / 2) : Int) ∧ ilor .u64 (ishr .u64 (loN Q : Int) 1) (ishl .u64 (hiN Q : Int) 63) = (loN (Q / 2) : Int) := by
  have a := hi_lt hQ
  have b := lo_lt Q
  have c := hi_lo Q
  have e1 : ishr .u64 (hiN Q : Int) 1 = ((hiN Q / 2 ^ 1 : Nat) : Int) := shr_nat a 1
  have e2 : ishr .u64 (loN Q : Int) 1 = ((loN Q / 2 ^ 1 : Nat) : Int) := shr_nat b 1
  have e3 : ishl .u64 (hiN Q : Int) 63 = ((hiN Q * 2 ^ 63 % 18446744073709551616 : Nat) : Int) := shl_nat (hiN Q) 63
  have e4 : hiN Q * 2 ^ 63 % 18446744073709551616 = hiN Q % 2 * 2 ^ 63 := by omega
  rw [e1, e2, e3, e4]
  refine ⟨?_, ?_⟩
  · have : hiN (Q / 2) = hiN Q / 2 ^ 1 := by unfold hiN; omega
    rw [this]
  · rw [lor_nn (by omega) (by omega), or_high (by omega)]
    have : loN (Q / 2) = loN Q / 2 ^ 1 + hiN Q % 2 * 2 ^ 63 := by unfold loN hiN; omega
    rw [this]
theorem pr_words {P : Nat} {e : Int} (hP : P < two128) (he : -20000 ≤ e) (he2 : e ≤ 20000) :
    let c : Bool := ishr .u64 (hiN P : Int) 63 == 0
    let h : Int := bif c then r106_0 (hiN P) (loN P) 1 else (hiN P : Int)
    let l : Int := bif c then r106_1 (loN P) 1 else (loN P : Int)
    IntKind.wrap .i64 ((bif c then IntKind.wrap .i64 (e - 1) else e) + 1) = prE P e ∧ ishr .u64 h 1 = (hiN (prP P) : Int) ∧ ilor .u64 (ishr .u64 l 1) (ishl .u64 h 63) = (loN (prP P) : Int) := by
  intro c h l
  have a := hi_lt hP
  have b := lo_lt P
  have d := hi_lo P
  have e1 : ishr .u64 (hiN P : Int) 63 = ((hiN P / 2 ^ 63 : Nat) : Int) := shr_nat a 63
  have e2 : c = decide (P < 170141183460469231731687303715884105728) := by
    show (ishr .u64 (hiN P : Int) 63 == 0) = _
    rw [e1, Bool.eq_iff_iff]
    simp only [beq_iff_eq, dec]
    omega
  have w1 : IntKind.wrap .i64 (e - 1) = e - 1 := wrap_i64_of (by omega) (by omega)
  by_cases hlt : P < 170141183460469231731687303715884105728
  · rw [decide_eq_true hlt] at e2
    obtain ⟨u1, u2, u3⟩ := up_ok2 (P := P) (n := 1) (by decide) (by unfold two128; omega)
    have u2' : r106_0 (hiN P) (loN P) 1 = (hiN (P * 2 ^ 1) : Int) := u2
    have u3' : r106_1 (loN P) 1 = (loN (P * 2 ^ 1) : Int) := u3
    have hh : h = (hiN (P * 2 ^ 1) : Int) := by show (bif c then _ else _) = _; rw [e2, u2']; rfl
    have hl : l = (loN (P * 2 ^ 1) : Int) := by show (bif c then _ else _) = _; rw [e2, u3']; rfl
    obtain ⟨v1, v2⟩ := half_words (P * 2 ^ 1) (by unfold two128; omega)
    have : P * 2 ^ 1 / 2 = P := by omega
    rw [this] at v1 v2
    rw [hh, hl, e2, w1]
    unfold prP prE
    rw [if_pos hlt, if_pos hlt]
    refine ⟨?_, v1, v2⟩
    show IntKind.wrap .i64 (e - 1 + 1) = e
    rw [wrap_i64_of (by omega) (by omega)]; omega
  · rw [decide_eq_false hlt] at e2
    have hh : h = (hiN P : Int) := by show (bif c then _ else _) = _; rw [e2]; rfl
    have hl : l = (loN P : Int) := by show (bif c then _ else _) = _; rw [e2]; rfl
    obtain ⟨v1, v2⟩ := half_words P hP
    rw [hh, hl, e2]
    unfold prP prE
    rw [if_neg hlt, if_neg hlt]
    refine ⟨?_, v1, v2⟩
    show IntKind.wrap .i64 (e + 1) = e + 1
    exact wrap_i64_of (by omega) (by omega)

section
variable {s rm : Int} (hs : s = 4 ∨ s = 8) (h0 : 0 ≤ rm) (h1 : rm ≤ 4) {a b c : Nat} (ha : a < 18446744073709551616) (hb : b < 18446744073709551616) (hc : c < 18446744073709551616)
include hs ha hb
theorem tm_pr (x1 : nanN s a = false) (x2 : infN s a = false) (x3 : nanN s b = false) (x4 : infN s b = false) :
    Tm (if finN s a && finN s b then prP (tmN s a * tmN s b) else 0) (if finN s a && finN s b then prE (tmN s a * tmN s b) (teN s a + teN s b) else 0) (fM s a * fM s b) (fE s a + fE s b) := by
  have hE := fE_le hs ha
  have hF := fE_le hs hb
  have fin : finN s a = (!nanN s a && !infN s a && !zerN s a) := rfl
  have finb : finN s b = (!nanN s b && !infN s b && !zerN s b) := rfl
  rw [x1, x2] at fin
  rw [x3, x4] at finb
  cases hz : zerN s a with
  | true =>
    rw [hz] at fin
    have fin : finN s a = false := fin
    rw [fin, zer_M hs ha hz, Nat.zero_mul, Bool.false_and, if_neg (by decide), if_neg (by decide)]
    exact ⟨by decide, by decide, by omega, by omega, .inl ⟨rfl, rfl⟩⟩
  | false =>
    cases hy : zerN s b with
    | true =>
      rw [hy] at finb
      have finb : finN s b = false := finb
      rw [finb, zer_M hs hb hy, Nat.mul_zero, Bool.and_false, if_neg (by decide), if_neg (by decide)]
      exact ⟨by decide, by decide, by omega, by omega, .inl ⟨rfl, rfl⟩⟩
    | false =>
      rw [hz] at fin
      rw [hy] at finb
      obtain ⟨t1, t2, t3, t4, t5, t6⟩ := tm_facts hs ha fin
      obtain ⟨v1, v2, v3, v4, v5, v6⟩ := tm_facts hs hb finb
      have hp := fM_pos hs ha fin
      have hq := fM_pos hs hb finb
      have fin : finN s a = true := fin
      have finb : finN s b = true := finb
      rw [fin, finb, if_pos (show (true && true) = true from rfl), if_pos (show (true && true) = true from rfl)]
      have hM : 0 < fM s a * fM s b := Nat.mul_pos hp hq
      have e1 : tmN s a * tmN s b = fM s a * fM s b * 2 ^ (lzN s a + lzN s b) := by rw [t3, v3, Nat.pow_add, Nat.mul_mul_mul_comm]
      have hlo : 85070591730234615865843651857942052864 ≤ tmN s a * tmN s b := Nat.mul_le_mul t1 v1
      have hhi : tmN s a * tmN s b < 340282366920938463463374607431768211456 := Nat.mul_lt_mul_of_lt_of_le t2 (Nat.le_of_lt v2) (by decide)
      obtain ⟨k, hk⟩ : ∃ k : Nat, lzN s a + lzN s b = k + 22 := ⟨lzN s a + lzN s b - 22, by omega⟩
      rw [hk] at e1
      have e2 : fM s a * fM s b * 2 ^ (k + 22) = fM s a * fM s b * 2 ^ k * 4194304 := by rw [Nat.pow_add, ← Nat.mul_assoc]
      have e3 : fM s a * fM s b * 2 ^ (k + 21) = fM s a * fM s b * 2 ^ k * 2097152 := by rw [Nat.pow_add, ← Nat.mul_assoc]
      unfold prP prE
      rw [e1] at hlo hhi ⊢
      by_cases hlt : fM s a * fM s b * 2 ^ (k + 22) < 170141183460469231731687303715884105728
      · rw [if_pos hlt, if_pos hlt]
        refine ⟨by omega, by omega, by omega, by omega, .inr ⟨hM, k + 22, rfl, by omega, hlo, hlt, by omega⟩⟩
      · rw [if_neg hlt, if_neg hlt]
        refine ⟨by omega, by omega, by omega, by omega, .inr ⟨hM, k + 21, by omega, by omega, by omega, by omega, by omega⟩⟩
include hc
theorem nans_3 (inv : Bool) : p94 (frN s) inv [.b (sgN s a), .b (loudN s a), .i (kdN s a), .i (teN s a), .i (tmN s a), .b (sgN s b), .b (loudN s b), .i (kdN s b), .i (teN s b), .i (tmN s b), .b (sgN s c), .b (loudN s c), .i (kdN s c), .i (teN s c), .i (tmN s c)] = true ∧
    r94_0 (frN s) (biN s) inv [.b (sgN s a), .b (loudN s a), .i (kdN s a), .i (teN s a), .i (tmN s a), .b (sgN s b), .b (loudN s b), .i (kdN s b), .i (teN s b), .i (tmN s b), .b (sgN s c), .b (loudN s c), .i (kdN s c), .i (teN s c), .i (tmN s c)] = (quiB s : Int) ∧
    r94_1 inv [.b (sgN s a), .b (loudN s a), .i (kdN s a), .i (teN s a), .i (tmN s a), .b (sgN s b), .b (loudN s b), .i (kdN s b), .i (teN s b), .i (tmN s b), .b (sgN s c), .b (loudN s c), .i (kdN s c), .i (teN s c), .i (tmN s c)] = (if inv || (loudN s a || loudN s b || loudN s c) then 16 else 0) ∧
    r94_2 inv [.b (sgN s a), .b (loudN s a), .i (kdN s a), .i (teN s a), .i (tmN s a), .b (sgN s b), .b (loudN s b), .i (kdN s b), .i (teN s b), .i (tmN s b), .b (sgN s c), .b (loudN s c), .i (kdN s c), .i (teN s c), .i (tmN s c)] = (inv || nanN s a || nanN s b || nanN s c) := by
  have _ := ha; have _ := hb; have _ := hc
  have h := nans_at hs (n := 3) rfl (nans3 (inv := inv) (s1 := sgN s a) (l1 := loudN s a) (k1 := kdN s a) (e1 := teN s a) (m1 := tmN s a) (s2 := sgN s b) (l2 := loudN s b) (k2 := kdN s b) (e2 := teN s b) (m2 := tmN s b)
    (s3 := sgN s c) (l3 := loudN s c) (k3 := kdN s c) (e3 := teN s c) (m3 := tmN s c))
  rw [bad_kd, bad_kd, bad_kd, kd3, kd3, kd3] at h
  have h2 := loud_nan (s := s) (a := a)
  have h3 := loud_nan (s := s) (a := b)
  have h4 := loud_nan (s := s) (a := c)
  refine ⟨h.1, h.2.1, h.2.2.1.trans ?_, h.2.2.2.trans ?_⟩
  · rw [Bool.or_assoc, Bool.or_assoc, Bool.or_assoc]
  · revert h2 h3 h4
    cases inv <;> cases nanN s a <;> cases nanN s b <;> cases nanN s c <;> cases loudN s a <;> cases loudN s b <;> cases loudN s c <;> simp
omit ha hb hc in
theorem kn3 {a : Nat} : (kdN s a != 3) = !nanN s a := by have _ := hs; rw [← kd3]; rfl
include h0 h1
theorem sfma_ok : p50 s rm a b c = true ∧ r50_0 s rm a b c = ((fmaS s rm a b c).1 : Int) ∧ r50_1 s rm a b c = ((fmaS s rm a b c).2 : Int) := by
  obtain ⟨g1, g2, g3⟩ := of92 hs
  have hk := (right_ok hs h0 h1).1
  have ta := take_ok hs ha
  have tb := take_ok hs hb
  have tc := take_ok hs hc
  have uc := term_fl hs hc
  have ei : (infN s a && zerN s b || zerN s a && infN s b || (!(infN s a && zerN s b || zerN s a && infN s b) && (infN s a || infN s b) && !nanN s a && !nanN s b && infN s c && (sgN s c != (sgN s a != sgN s b)))) = invF s a b c := by
    unfold invF farN noneN
    cases infN s a <;> cases infN s b <;> cases zerN s a <;> cases zerN s b <;> cases nanN s a <;> cases nanN s b <;> rfl
  obtain ⟨n0, n1, n2, n3⟩ := nans_3 hs ha hb hc (invF s a b c)
  obtain ⟨f1, _⟩ := size_facts hs
  have hi96 := inf96 hs
  have p96 : p96 (frN s) = true := by simp only [p96]; rw [decide_eq_true (by omega)]; rfl
  have s1 : ∀ m : Bool, r95_0 (topN s) m (infB s) = ((sgB s m + infB s : Nat) : Int) := fun m => signed_ok hs m (x := infB s) (by rcases hs with rfl | rfl <;> decide)
  have p106 : p106 1 = true := (up_ok2 (P := 0) (n := 1) (by decide) (by decide)).1
  obtain ⟨v1, v2⟩ := mul64_ok (tm_lt hs ha) (tm_lt hs hb)
  have hlt : tmN s a * tmN s b < two128 := Nat.mul_lt_mul_of_lt_of_le (tm_lt hs ha) (Nat.le_of_lt (tm_lt hs hb)) (by decide)
  have ea := te_le hs ha
  have eb := te_le hs hb
  have w : IntKind.wrap .i64 (teN s a + teN s b) = teN s a + teN s b := wrap_i64_of (by omega) (by omega)
  obtain ⟨pw1, pw2, pw3⟩ := pr_words (P := tmN s a * tmN s b) (e := teN s a + teN s b) hlt (by omega) (by omega)
  have key : nanN s a = false → infN s a = false → nanN s b = false → infN s b = false → nanN s c = false → infN s c = false → _ := fun x1 x2 x3 x4 x5 x6 => ssum_ok hs (rm := rm) (mx := sgN s a != sgN s b) (my := sgN s c) (tm_pr hs ha hb x1 x2 x3 x4) (tm_fl hs hc x5 x6)
  have b1 : (bif finN s a && finN s b then prE (tmN s a * tmN s b) (teN s a + teN s b) else 0) = (if finN s a && finN s b then prE (tmN s a * tmN s b) (teN s a + teN s b) else 0) := by cases (finN s a && finN s b) <;> rfl
  have b2 : (bif finN s a && finN s b then (hiN (prP (tmN s a * tmN s b)) : Int) else 0) = (hiN (if finN s a && finN s b then prP (tmN s a * tmN s b) else 0) : Int) := by cases (finN s a && finN s b) <;> simp [hiN]
  have b3 : (bif finN s a && finN s b then (loN (prP (tmN s a * tmN s b)) : Int) else 0) = (loN (if finN s a && finN s b then prP (tmN s a * tmN s b) else 0) : Int) := by cases (finN s a && finN s b) <;> simp [loN]
  have ka2 := kd2 hs (a := a)
  have kb2 := kd2 hs (a := b)
  have kc2 := kd2 hs (a := c)
  have ka0 := kd0 hs (a := a)
  have kb0 := kd0 hs (a := b)
  have ka1 := kd1 (s := s) (a := a)
  have kb1 := kd1 (s := s) (a := b)
  have ka3 := kn3 hs (a := a)
  have kb3 := kn3 hs (a := b)
  generalize hq1 : (if finN s a && finN s b then prP (tmN s a * tmN s b) else 0) = Q at *
  generalize hq2 : (if finN s a && finN s b then prE (tmN s a * tmN s b) (teN s a + teN s b) else 0) = eQ at *
  unfold fmaS oddP
  refine ⟨?_, ?_, ?_⟩
  · simp only [p50, hk, g1, g2, g3, ta, tb, tc, uc, dget, List.getD_cons_succ, List.getD_cons_zero, DV.toB, DV.toI, ka2, kb2, kc2, ka0, kb0, ka1, kb1, ka3, kb3, ei, n0, n3, p96, p106, v1, v2, w, pw1, pw2, pw3, b1, b2, b3, ow_t]
    unfold invF farN noneN
    generalize p107 (frN s) (biN s) rm (sgN s a != sgN s b) eQ (hiN Q) (loN Q) (sgN s c) (teP s c) (hiN (tmP s c)) (loN (tmP s c)) = q at *
    revert key
    cases nanN s a <;> cases nanN s b <;> cases nanN s c <;> cases infN s a <;> cases infN s b <;> cases infN s c <;> cases zerN s a <;> cases zerN s b <;> intro key <;> first | rfl | (rw [(key rfl rfl rfl rfl rfl rfl).1]; rfl) | (cases (sgN s c != (sgN s a != sgN s b)) <;> rfl)
  · simp only [r50_0, hk, g1, g2, g3, ta, tb, tc, uc, dget, List.getD_cons_succ, List.getD_cons_zero, DV.toB, DV.toI, ka2, kb2, kc2, ka0, kb0, ka1, kb1, ka3, kb3, ei, n1, n3, hi96, s1, v1, v2, w, pw1, pw2, pw3, b1, b2, b3]
    have ff : (!(infN s a && zerN s b || zerN s a && infN s b) && (infN s a || infN s b) && !nanN s a && !nanN s b) = (!(infN s a && zerN s b || zerN s a && infN s b) && farN s a b) := by
      unfold farN; cases (infN s a && zerN s b || zerN s a && infN s b) <;> cases (infN s a || infN s b) <;> cases nanN s a <;> cases nanN s b <;> rfl
    rw [ff]
    generalize r107_0 (frN s) (biN s) (topN s) rm (sgN s a != sgN s b) eQ (hiN Q) (loN Q) (sgN s c) (teP s c) (hiN (tmP s c)) (loN (tmP s c)) = q at *
    generalize sumS s rm (sgN s a != sgN s b) (fM s a * fM s b) (fE s a + fE s b) (sgN s c) (fM s c) (fE s c) = r at *
    unfold invF farN noneN
    have ic := inf_mk hs hc
    revert key ic
    cases nanN s a <;> cases nanN s b <;> cases nanN s c <;> cases infN s a <;> cases infN s b <;> cases infN s c <;> cases zerN s a <;> cases zerN s b <;> intro key ic <;>
      first | rfl | exact (key rfl rfl rfl rfl rfl rfl).2.1 | (rw [ic rfl]; first | rfl | (cases (sgN s c != (sgN s a != sgN s b)) <;> rfl)) | (cases (sgN s c != (sgN s a != sgN s b)) <;> rfl)
  · simp only [r50_1, hk, g1, g2, g3, ta, tb, tc, uc, dget, List.getD_cons_succ, List.getD_cons_zero, DV.toB, DV.toI, ka2, kb2, kc2, ka0, kb0, ka1, kb1, ka3, kb3, ei, n2, n3, v1, v2, w, pw1, pw2, pw3, b1, b2, b3]
    have ff : (!(infN s a && zerN s b || zerN s a && infN s b) && (infN s a || infN s b) && !nanN s a && !nanN s b) = (!(infN s a && zerN s b || zerN s a && infN s b) && farN s a b) := by
      unfold farN; cases (infN s a && zerN s b || zerN s a && infN s b) <;> cases (infN s a || infN s b) <;> cases nanN s a <;> cases nanN s b <;> rfl
    rw [ff]
    generalize r107_1 (frN s) (biN s) rm (sgN s a != sgN s b) eQ (hiN Q) (loN Q) (sgN s c) (teP s c) (hiN (tmP s c)) (loN (tmP s c)) = q at *
    generalize sumS s rm (sgN s a != sgN s b) (fM s a * fM s b) (fE s a + fE s b) (sgN s c) (fM s c) (fE s c) = r at *
    have l1 := loud_nan (s := s) (a := a)
    have l2 := loud_nan (s := s) (a := b)
    have l3 := loud_nan (s := s) (a := c)
    generalize hL : (loudN s a || loudN s b || loudN s c) = L at *
    have l4 : nanN s a = false → nanN s b = false → nanN s c = false → L = false := fun x1 x2 x3 => by rw [← hL, l1 x1, l2 x2, l3 x3]; rfl
    clear hL l1 l2 l3
    unfold invF farN noneN
    revert key l4
    cases nanN s a <;> cases nanN s b <;> cases nanN s c <;> cases infN s a <;> cases infN s b <;> cases infN s c <;> cases zerN s a <;> cases zerN s b <;> intro key l4 <;>
      first | rfl | exact (key rfl rfl rfl rfl rfl rfl).2.2 | (cases L <;> rfl) | (cases (sgN s c != (sgN s a != sgN s b)) <;> first | rfl | (cases L <;> first | rfl | cases l4 rfl rfl rfl))
end
end Go.Proofs.Ytacciadcmiiimaa

namespace Go.Proofs.Ytacciadcmiiimaa
open Go Go.Sx Go.Rnd
set_option maxRecDepth 100000
set_option maxHeartbeats 1000000

theorem u64_nat {x : Int} (h : 0 ≤ x ∧ x < 18446744073709551616) : ∃ n : Nat, x = n ∧ n < 18446744073709551616 := ⟨x.toNat, by omega, by omega⟩
theorem uOf {a : Int} (h : (Lit.int .u64 a).wf = true) : 0 ≤ a ∧ a < 18446744073709551616 := by
  simp [Lit.wf, IntKind.min, IntKind.max, IntKind.signed, IntKind.bits] at h
  omega
theorem soft_awake : p43 = true ∧ r43_0 = true := by
  obtain ⟨a0, a1, a2⟩ := sadd_ok (s := 4) (rm := 0) (.inl rfl) (by decide) (by decide) (a := 1065353216) (b := 1065353216) (by decide) (by decide)
  obtain ⟨b0, b1, b2⟩ := sdiv_ok (s := 4) (rm := 0) (.inl rfl) (by decide) (by decide) (a := 1065353216) (b := 1077936128) (by decide) (by decide)
  obtain ⟨c0, c1, c2⟩ := ssqrt_ok (s := 4) (rm := 0) (.inl rfl) (by decide) (by decide) (a := 3212836864) (by decide)
  obtain ⟨d0, d1, d2⟩ := sfma_ok (s := 4) (rm := 0) (.inl rfl) (by decide) (by decide) (a := 1065353217) (b := 1065353217) (c := 3212836866) (by decide) (by decide) (by decide)
  obtain ⟨e0, e1, e2⟩ := smul_ok (s := 4) (rm := 3) (.inl rfl) (by decide) (by decide) (a := 1) (b := 1056964608) (by decide) (by decide)
  have ka : addS 4 0 1065353216 1065353216 = (1073741824, 0) := by decide +kernel
  have kb : divS 4 0 1065353216 1077936128 = (1051372203, 1) := by decide +kernel
  have kc : sqrtS 4 0 3212836864 = (2143289344, 16) := by decide +kernel
  have kd : fmaS 4 0 1065353217 1065353217 3212836866 = (679477248, 0) := by decide +kernel
  have ke : mulS 4 3 1 1056964608 = (1, 3) := by decide +kernel
  rw [ka] at a1 a2
  rw [kb] at b1 b2
  rw [kc] at c1 c2
  rw [kd] at d1 d2
  rw [ke] at e1 e2
  have a0' : p54 4 0 1065353216 1065353216 = true := a0
  have b0' : p46 4 0 1065353216 1077936128 = true := b0
  have c0' : p48 4 0 3212836864 = true := c0
  have d0' : p50 4 0 1065353217 1065353217 3212836866 = true := d0
  have e0' : p44 4 3 1 1056964608 = true := e0
  have a1' : r54_0 4 0 1065353216 1065353216 = 1073741824 := a1
  have b1' : r46_0 4 0 1065353216 1077936128 = 1051372203 := b1
  have c1' : r48_0 4 0 3212836864 = 2143289344 := c1
  have d1' : r50_0 4 0 1065353217 1065353217 3212836866 = 679477248 := d1
  have e1' : r44_0 4 3 1 1056964608 = 1 := e1
  have a2' : r54_1 4 0 1065353216 1065353216 = 0 := a2
  have b2' : r46_1 4 0 1065353216 1077936128 = 1 := b2
  have c2' : r48_1 4 0 3212836864 = 16 := c2
  have d2' : r50_1 4 0 1065353217 1065353217 3212836866 = 0 := d2
  have e2' : r44_1 4 3 1 1056964608 = 3 := e2
  constructor
  · simp only [p43, a0', b0', c0', d0', e0', ow_t]; rfl
  · simp only [r43_0, a1', b1', c1', d1', e1', a2', b2', c2', d2', e2']; rfl
end Go.Proofs.Ytacciadcmiiimaa

namespace Go.Proofs.Ytacciadcmiiimaa
open Go Go.Sx Go.Rnd
set_option maxRecDepth 100000
set_option maxHeartbeats 1000000

theorem land1 (n : Int) : iland .i64 n 1 = 0 ∨ iland .i64 n 1 = 1 := by
  have h : (BitVec.ofInt 64 n &&& BitVec.ofInt 64 1).toNat ≤ 1 := by
    rw [BitVec.toNat_and]
    exact Nat.le_trans Nat.and_le_right (by decide)
  have : iland .i64 n 1 = IntKind.wrap .i64 ((BitVec.ofInt 64 n &&& BitVec.ofInt 64 1).toNat : Int) := rfl
  rw [this, wrap_i64_of (by omega) (by omega)]
  omega
theorem size_is (n : Int) : r52_0 n = 4 ∨ r52_0 n = 8 := by
  unfold r52_0
  rcases land1 n with h | h <;> rw [h]
  · exact .inl (by decide)
  · exact .inr (by decide)
theorem mode_is (x : Int) : 0 ≤ r53_0 x ∧ r53_0 x ≤ 4 := by
  unfold r53_0
  show 0 ≤ IntKind.wrap .i64 (Int.tmod (IntKind.wrap .u64 x) 5) ∧ IntKind.wrap .i64 (Int.tmod (IntKind.wrap .u64 x) 5) ≤ 4
  rw [wrap_u64, Int.tmod_eq_emod_of_nonneg (by omega), wrap_i64_of (by omega) (by omega)]
  omega

theorem tolF_le {f b v : Nat} {rm : Int} {mi ex ti : Bool} : (tolF f b rm mi v ex ti).1 ≤ infF f b := by
  unfold tolF
  split
  · exact Nat.sub_le _ _
  · rename_i h; exact Nat.le_of_not_le h
section
variable {s rm : Int} (hs : s = 4 ∨ s = 8) {mi : Bool} {v a : Nat}
include hs
theorem w_parts (hv : v < topN s) : sgN s (sgB s mi + v) = mi ∧ magN s (sgB s mi + v) = v ∧ mkN s (sgB s mi + v) = sgB s mi + v ∧ sgB s mi + v < 18446744073709551616 := by
  unfold sgN magN mkN sgB
  rcases hs with rfl | rfl
  · have e2 : topN 4 = 2147483648 := rfl
    rw [e2] at hv ⊢
    rw [if_pos rfl]
    refine ⟨?_, ?_, ?_, ?_⟩
    · cases mi
      · rw [decide_eq_false_iff_not]; simp only [Bool.false_eq_true, if_false]; omega
      · rw [decide_eq_true_iff]; simp only [if_true]; omega
    · split <;> omega
    · split <;> omega
    · split <;> omega
  · have e2 : topN 8 = 9223372036854775808 := rfl
    rw [e2] at hv ⊢
    rw [if_neg (by decide)]
    refine ⟨?_, ?_, rfl, ?_⟩
    · cases mi
      · rw [decide_eq_false_iff_not]; simp only [Bool.false_eq_true, if_false]; omega
      · rw [decide_eq_true_iff]; simp only [if_true]; omega
    · split <;> omega
    · split <;> omega
theorem k_parts : nanN s a = decide (infB s < magN s a) ∧ infN s a = decide (magN s a = infB s) ∧ zerN s a = decide (magN s a = 0) := by
  obtain ⟨p1, p2, p3⟩ := mag_parts hs a
  unfold nanN infN zerN
  rw [p1, p2]
  generalize magN s a = m at *
  rcases hs with rfl | rfl
  · have e1 : oneN 4 = 8388608 := rfl
    have e2 : topN 4 = 2147483648 := rfl
    have e3 : emaxN 4 = 255 := rfl
    have e4 : infB 4 = 2139095040 := rfl
    rw [e2] at p3
    rw [e1, e3, e4]
    refine ⟨?_, ?_, ?_⟩ <;> (rw [decide_eq_decide]; omega)
  · have e1 : oneN 8 = 4503599627370496 := rfl
    have e2 : topN 8 = 9223372036854775808 := rfl
    have e3 : emaxN 8 = 2047 := rfl
    have e4 : infB 8 = 9218868437227405312 := rfl
    rw [e2] at p3
    rw [e1, e3, e4]
    refine ⟨?_, ?_, ?_⟩ <;> (rw [decide_eq_decide]; omega)
theorem one_pos : 0 < oneN s ∧ infB s < topN s ∧ quiB s < topN s ∧ infB s < quiB s ∧ infB s = infF (frN s) (biN s) ∧ 1 ≤ biN s := by rcases hs with rfl | rfl <;> decide
theorem f_parts {q n : Nat} (hm : magN s a = q + n * 2 ^ frN s) (hq : q < 2 ^ (frN s + 1)) (hn : n = 0 ∨ 2 ^ frN s ≤ q) : fM s a = q ∧ fE s a = least (frN s) (biN s) + n := by
  obtain ⟨p1, p2, p3⟩ := mag_parts hs a
  obtain ⟨f1, f2, f3, f4, f5, f6, f7, f8, f9, f10⟩ := size_facts hs
  have hp := Nat.two_pow_pos (frN s)
  rw [Nat.pow_succ] at hq
  unfold fM fE least
  rw [p1, p2, hm, ← f5]
  by_cases h : 2 ^ frN s ≤ q
  · have e1 : (q + n * 2 ^ frN s) / 2 ^ frN s = n + 1 := by
      rw [Nat.add_mul_div_right _ _ hp, Nat.div_eq_of_lt_le (k := 1) (by omega) (by omega)]; omega
    have e2 : (q + n * 2 ^ frN s) % 2 ^ frN s = q - 2 ^ frN s := by
      rw [Nat.add_mul_mod_self_right, Nat.mod_eq_sub_mod h, Nat.mod_eq_of_lt (by omega)]
    rw [e1, e2, if_pos (by omega), if_pos (by omega)]
    constructor <;> omega
  · have h0 : n = 0 := by omega
    subst h0
    have e1 : (q + 0 * 2 ^ frN s) / 2 ^ frN s = 0 := by rw [Nat.zero_mul, Nat.add_zero]; exact Nat.div_eq_of_lt (by omega)
    have e2 : (q + 0 * 2 ^ frN s) % 2 ^ frN s = q := by rw [Nat.zero_mul, Nat.add_zero]; exact Nat.mod_eq_of_lt (by omega)
    rw [e1, e2, if_neg (by omega), if_neg (by omega)]
    constructor <;> omega
theorem f_mag : ∃ n : Nat, magN s a = fM s a + n * 2 ^ frN s ∧ fE s a = least (frN s) (biN s) + n ∧ fM s a < 2 ^ (frN s + 1) ∧ (n = 0 ∨ 2 ^ frN s ≤ fM s a) := by
  obtain ⟨p1, p2, p3⟩ := mag_parts hs a
  obtain ⟨f1, f2, f3, f4, f5, f6, f7, f8, f9, f10⟩ := size_facts hs
  have hp := Nat.two_pow_pos (frN s)
  have hd := Nat.div_add_mod (magN s a) (2 ^ frN s)
  have hm := Nat.mod_lt (magN s a) hp
  rw [Nat.pow_succ]
  unfold fM fE least
  rw [p1, p2, ← f5]
  by_cases h : 0 < magN s a / 2 ^ frN s
  · refine ⟨magN s a / 2 ^ frN s - 1, ?_, ?_, ?_, ?_⟩
    · rw [if_pos h]
      have : (magN s a / 2 ^ frN s - 1) * 2 ^ frN s = 2 ^ frN s * (magN s a / 2 ^ frN s) - 2 ^ frN s := by rw [Nat.mul_comm, Nat.mul_sub, Nat.mul_one]
      have h2 : 2 ^ frN s ≤ 2 ^ frN s * (magN s a / 2 ^ frN s) := Nat.le_mul_of_pos_right _ h
      omega
    · rw [if_pos h]; omega
    · rw [if_pos h]; omega
    · rw [if_pos h]; exact .inr (by omega)
  · refine ⟨0, ?_, ?_, ?_, .inl rfl⟩
    · rw [if_neg h]
      have : magN s a / 2 ^ frN s = 0 := Nat.eq_zero_of_not_pos h
      rw [this, Nat.mul_zero] at hd; omega
    · rw [if_neg h]; omega
    · rw [if_neg h]; omega
theorem rnd_self (hf : finN s a = true) : rnd (frN s) (biN s) rm mi (fM s a) (fE s a) false = (magN s a, 0) := by
  obtain ⟨n, m1, m2, m3, m4⟩ := f_mag hs (a := a)
  obtain ⟨k1, k2, k3⟩ := k_parts hs (a := a)
  obtain ⟨o1, o2, o3, o4, o5, o6⟩ := one_pos hs
  unfold finN at hf
  rw [k1, k2, k3] at hf
  simp only [Bool.and_eq_true, Bool.not_eq_true', decide_eq_false_iff_not] at hf
  have hM : 0 < fM s a := by
    refine Nat.pos_of_ne_zero fun hc => ?_
    rw [hc] at m4 m1
    have := Nat.two_pow_pos (frN s)
    have h0 : n = 0 := by omega
    rw [h0] at m1; omega
  have hb := blen_le.2 m3
  have hlast : lastOf (frN s) (biN s) (blen (fM s a) + fE s a) = fE s a := by
    unfold lastOf
    rcases m4 with h0 | h0
    · subst h0
      split <;> omega
    · have := lt_blen.2 h0
      rw [if_neg (by omega)]; omega
  rw [rnd_eq o6 hM]
  have e1 : qOf (frN s) (biN s) (fM s a) (fE s a) = fM s a := by
    unfold qOf truN; rw [hlast, Int.sub_self, if_pos (by decide)]
    show fM s a * 2 ^ 0 = _
    rw [Nat.pow_zero, Nat.mul_one]
  have e2 : nOf (frN s) (biN s) (fM s a) (fE s a) = n := by unfold nOf; rw [hlast, m2]; omega
  have e3 : exOf (frN s) (biN s) (fM s a) (fE s a) false = true := by unfold exOf exaN; rw [hlast, Int.sub_self, if_pos (by decide)]; rfl
  have e4 : upOf (frN s) (biN s) rm mi (fM s a) (fE s a) false = false := by unfold upOf; exact upM_exact e3
  rw [e1, e2, e3, e4, ← m1, if_neg Bool.false_ne_true, Nat.add_zero]
  unfold tolF
  rw [if_neg (by rw [← o5]; omega)]
  rfl
theorem rnd_back {M : Nat} {E : Int} {more : Bool} (hM : 0 < M) (h : (rnd (frN s) (biN s) rm mi M E more).2 = 0) :
    more = false ∧ (rnd (frN s) (biN s) rm mi M E more).1 < infB s ∧ 0 < (rnd (frN s) (biN s) rm mi M E more).1 ∧
    SameV (fM s (sgB s mi + (rnd (frN s) (biN s) rm mi M E more).1)) (fE s (sgB s mi + (rnd (frN s) (biN s) rm mi M E more).1)) M E := by
  obtain ⟨o1, o2, o3, o4, o5, o6⟩ := one_pos hs
  obtain ⟨q1, q2⟩ := q_facts (f := frN s) (b := biN s) (E := E) hM
  rw [rnd_eq o6 hM] at h ⊢
  unfold tolF at h ⊢
  by_cases h1 : infF (frN s) (biN s) ≤ qOf (frN s) (biN s) M E + nOf (frN s) (biN s) M E * 2 ^ frN s + (if upOf (frN s) (biN s) rm mi M E more = true then 1 else 0)
  · rw [if_pos h1] at h; cases h
  · rw [if_neg h1] at h ⊢
    have hex : exOf (frN s) (biN s) M E more = true := by
      cases he : exOf (frN s) (biN s) M E more
      · rw [he] at h
        simp only [Bool.false_eq_true, if_false] at h
        split at h <;> cases h
      · rfl
    have hup : upOf (frN s) (biN s) rm mi M E more = false := upM_exact hex
    have hmore : more = false := by
      unfold exOf exaN at hex
      cases more
      · rfl
      · split at hex <;> simp at hex
    subst hmore
    rw [hup] at h1 ⊢
    simp only [Bool.false_eq_true, if_false, Nat.add_zero] at h1 ⊢
    rw [← o5] at h1
    obtain ⟨w1, w2, w3, w4⟩ := w_parts hs (mi := mi) (v := qOf (frN s) (biN s) M E + nOf (frN s) (biN s) M E * 2 ^ frN s) (by omega)
    obtain ⟨x1, x2⟩ := f_parts hs w2 q1 q2
    have hsame : SameV (qOf (frN s) (biN s) M E) (least (frN s) (biN s) + nOf (frN s) (biN s) M E) M E := by
      have := exa_same hex E
      have e : E + (lastOf (frN s) (biN s) (blen M + E) - E) = least (frN s) (biN s) + nOf (frN s) (biN s) M E := by rw [← last_of]; omega
      rw [e] at this
      exact this
    refine ⟨by trivial, by omega, ?_, ?_⟩
    · have := hsame.pos.2 hM
      omega
    · rw [x1, x2]; exact hsame
theorem rnd_le {M : Nat} {E : Int} {more : Bool} (hM : 0 < M) : (rnd (frN s) (biN s) rm mi M E more).1 ≤ infB s := by
  obtain ⟨o1, o2, o3, o4, o5, o6⟩ := one_pos hs
  rw [rnd_eq o6 hM, o5]
  exact tolF_le
theorem word_is (ha : a < 18446744073709551616) : mkN s a = sgB s (sgN s a) + magN s a := by
  unfold mkN sgB sgN magN mkN
  rcases hs with rfl | rfl
  · have e2 : topN 4 = 2147483648 := rfl
    rw [e2, if_pos rfl]
    simp only [dec]
    split <;> omega
  · have e2 : topN 8 = 9223372036854775808 := rfl
    rw [e2, if_neg (by decide)]
    simp only [dec]
    split <;> omega
end

def upE (E e : Int) : Nat := (E - e).toNat
theorem sumS_at {s rm : Int} {mx my : Bool} {Mx My : Nat} {Ex Ey e : Int} (h1 : e ≤ Ex) (h2 : e ≤ Ey) : sumS s rm mx Mx Ex my My Ey =
    if mx = my then (if Mx * 2 ^ upE Ex e + My * 2 ^ upE Ey e = 0 then (sgB s mx, 0) else rndP s rm mx (Mx * 2 ^ upE Ex e + My * 2 ^ upE Ey e) e false)
    else if Mx * 2 ^ upE Ex e = My * 2 ^ upE Ey e then (sgB s (rm == 2), 0)
    else if Mx * 2 ^ upE Ex e < My * 2 ^ upE Ey e then rndP s rm my (My * 2 ^ upE Ey e - Mx * 2 ^ upE Ex e) e false
    else rndP s rm mx (Mx * 2 ^ upE Ex e - My * 2 ^ upE Ey e) e false := by
  unfold sumS upE
  have l1 : minE Ex Ey ≤ Ex := by unfold minE; split <;> omega
  have l2 : minE Ex Ey ≤ Ey := by unfold minE; split <;> omega
  have l3 : e ≤ minE Ex Ey := by unfold minE; split <;> omega
  generalize minE Ex Ey = m at *
  obtain ⟨k, hk⟩ : ∃ k : Nat, e = m - k := ⟨(m - e).toNat, by omega⟩
  have e1 : (Ex - e).toNat = (Ex - m).toNat + k := by omega
  have e2 : (Ey - e).toNat = (Ey - m).toNat + k := by omega
  rw [e1, e2, Nat.pow_add, Nat.pow_add, ← Nat.mul_assoc, ← Nat.mul_assoc, ← Nat.add_mul, ← Nat.sub_mul, ← Nat.sub_mul]
  generalize Mx * 2 ^ (Ex - m).toNat = A
  generalize My * 2 ^ (Ey - m).toNat = B
  have hp := Nat.two_pow_pos k
  have z1 : (A + B) * 2 ^ k = 0 ↔ A + B = 0 := by rw [Nat.mul_eq_zero]; omega
  have z2 : A * 2 ^ k = B * 2 ^ k ↔ A = B := ⟨fun h => Nat.eq_of_mul_eq_mul_right hp h, fun h => by rw [h]⟩
  have z3 : A * 2 ^ k < B * 2 ^ k ↔ A < B := Nat.mul_lt_mul_right hp
  have sc : ∀ (mi : Bool) (V : Nat), 0 < V → rndP s rm mi (V * 2 ^ k) (m - k) false = rndP s rm mi V m false := fun mi V hV => by
    unfold rndP; rw [rnd_scale hV]
  simp only [z1, z2, z3, hk]
  by_cases h3 : mx = my
  · rw [if_pos h3, if_pos h3]
    by_cases h4 : A + B = 0
    · rw [if_pos h4, if_pos h4]
    · rw [if_neg h4, if_neg h4, sc _ _ (by omega)]
  · rw [if_neg h3, if_neg h3]
    by_cases h4 : A = B
    · rw [if_pos h4, if_pos h4]
    · rw [if_neg h4, if_neg h4]
      by_cases h5 : A < B
      · rw [if_pos h5, if_pos h5, sc _ _ (by omega)]
      · rw [if_neg h5, if_neg h5, sc _ _ (by omega)]
theorem same_up {M M' : Nat} {E E' e : Int} (h : SameV M E M' E') (h1 : e ≤ E) (h2 : e ≤ E') : M * 2 ^ upE E e = M' * 2 ^ upE E' e := by
  obtain ⟨k, k', g1, g2⟩ := h
  unfold upE
  obtain ⟨x, hx⟩ : ∃ x : Nat, E - e = x := ⟨(E - e).toNat, by omega⟩
  obtain ⟨y, hy⟩ : ∃ y : Nat, E' - e = y := ⟨(E' - e).toNat, by omega⟩
  rw [hx, hy, Int.toNat_natCast, Int.toNat_natCast]
  by_cases h : k ≤ x
  · obtain ⟨d, rfl⟩ : ∃ d, x = k + d := ⟨x - k, by omega⟩
    have : y = k' + d := by omega
    rw [this, Nat.pow_add, Nat.pow_add, ← Nat.mul_assoc, ← Nat.mul_assoc, g1]
  · obtain ⟨d, rfl⟩ : ∃ d, k = x + d := ⟨k - x, by omega⟩
    have : k' = y + d := by omega
    rw [this, Nat.pow_add, Nat.pow_add, ← Nat.mul_assoc, ← Nat.mul_assoc] at g1
    exact Nat.eq_of_mul_eq_mul_right (Nat.two_pow_pos d) g1
end Go.Proofs.Ytacciadcmiiimaa

namespace Go.Proofs.Ytacciadcmiiimaa
open Go Go.Sx Go.Rnd
set_option maxRecDepth 100000
set_option maxHeartbeats 1000000

section
variable {s rm : Int} (hs : s = 4 ∨ s = 8) {a b c : Nat} (ha : a < 18446744073709551616) (hb : b < 18446744073709551616) (hc : c < 18446744073709551616)
include hs
include ha
include hb
theorem zero_word (mi : Bool) : infN s (sgB s mi) = false ∧ nanN s (sgB s mi) = false ∧ fM s (sgB s mi) = 0 ∧ sgN s (sgB s mi) = mi ∧ sgB s mi < 18446744073709551616 := by
  have _ := ha; have _ := hb
  rcases hs with rfl | rfl <;> cases mi <;> decide
end
end Go.Proofs.Ytacciadcmiiimaa

namespace Go.Rnd
end Go.Rnd
namespace Go.Proofs.Ytacciadcmiiimaa
open Go Go.Sx Go.Rnd
set_option maxRecDepth 100000
set_option maxHeartbeats 2000000

def Shape (s : Int) (F : Int → Nat × Nat) : Prop :=
  (∃ w fl : Nat, w < 18446744073709551616 ∧ (fl = 0 ∨ fl = 8 ∨ fl = 16) ∧ ∀ rm, F rm = (w, fl)) ∨ (∀ rm, F rm = (sgB s (rm == 2), 0)) ∨
  (∃ (mi : Bool) (M : Nat) (E : Int) (more : Bool), 0 < M ∧ (more = true → frN s + 2 ≤ blen M) ∧ ∀ rm, F rm = rndP s rm mi M E more)
def opS (o s rm : Int) (a b c : Nat) : Nat × Nat := if o = 0 then addS s rm a b else if o = 1 then mulS s rm a b else if o = 2 then divS s rm a b else if o = 3 then sqrtS s rm a else fmaS s rm a b c
section
variable {s : Int} (hs : s = 4 ∨ s = 8) {a b c : Nat} (ha : a < 18446744073709551616) (hb : b < 18446744073709551616) (hc : c < 18446744073709551616)
include hs
theorem w_lt : quiB s < 18446744073709551616 ∧ ∀ mi, sgB s mi + infB s < 18446744073709551616 ∧ sgB s mi < 18446744073709551616 := by
  refine ⟨?_, fun mi => ?_⟩
  · rcases hs with rfl | rfl <;> decide
  · rcases hs with rfl | rfl <;> cases mi <;> decide
theorem mk_word (ha : a < 18446744073709551616) : mkN s a < 18446744073709551616 := by
  have h1 := mk_lt hs ha
  obtain ⟨f1, f2, f3, f4, f5, f6, f7, f8, f9, f10⟩ := size_facts hs
  omega
theorem odd_shape (inv loud : Bool) : ∃ w fl : Nat, w < 18446744073709551616 ∧ (fl = 0 ∨ fl = 8 ∨ fl = 16) ∧ oddP s inv loud = (w, fl) :=
  ⟨quiB s, _, (w_lt hs).1, by split; exact .inr (.inr rfl); exact .inl rfl, rfl⟩
theorem sum_shape {mx my : Bool} {Mx My : Nat} {Ex Ey : Int} : Shape s (fun rm => sumS s rm mx Mx Ex my My Ey) := by
  unfold sumS
  by_cases h : mx = my
  · by_cases h2 : Mx * 2 ^ (Ex - minE Ex Ey).toNat + My * 2 ^ (Ey - minE Ex Ey).toNat = 0
    · refine .inl ⟨sgB s mx, 0, ((w_lt hs).2 mx).2, .inl rfl, fun rm => ?_⟩
      show (if mx = my then _ else _) = _
      rw [if_pos h, if_pos h2]
    · refine .inr (.inr ⟨mx, Mx * 2 ^ (Ex - minE Ex Ey).toNat + My * 2 ^ (Ey - minE Ex Ey).toNat, minE Ex Ey, false, by omega, by simp, fun rm => ?_⟩)
      show (if mx = my then _ else _) = _
      rw [if_pos h, if_neg h2]
  · by_cases h2 : Mx * 2 ^ (Ex - minE Ex Ey).toNat = My * 2 ^ (Ey - minE Ex Ey).toNat
    · refine .inr (.inl fun rm => ?_)
      show (if mx = my then _ else _) = _
      rw [if_neg h, if_pos h2]
    · by_cases h3 : Mx * 2 ^ (Ex - minE Ex Ey).toNat < My * 2 ^ (Ey - minE Ex Ey).toNat
      · refine .inr (.inr ⟨my, My * 2 ^ (Ey - minE Ex Ey).toNat - Mx * 2 ^ (Ex - minE Ex Ey).toNat, minE Ex Ey, false, by omega, by simp, fun rm => ?_⟩)
        show (if mx = my then _ else _) = _
        rw [if_neg h, if_neg h2, if_pos h3]
      · refine .inr (.inr ⟨mx, Mx * 2 ^ (Ex - minE Ex Ey).toNat - My * 2 ^ (Ey - minE Ex Ey).toNat, minE Ex Ey, false, by omega, by simp, fun rm => ?_⟩)
        show (if mx = my then _ else _) = _
        rw [if_neg h, if_neg h2, if_neg h3]
theorem shape_if {c : Bool} {w fl : Nat} {G : Int → Nat × Nat} (hw : w < 18446744073709551616) (hf : fl = 0 ∨ fl = 8 ∨ fl = 16) (h : c = false → Shape s G) : Shape s (fun rm => if c = true then (w, fl) else G rm) := by
  have _ := hs
  cases c
  · exact h rfl
  · exact .inl ⟨w, fl, hw, hf, fun _ => rfl⟩
theorem shape_odd {c inv loud : Bool} {G : Int → Nat × Nat} (h : c = false → Shape s G) : Shape s (fun rm => if c = true then oddP s inv loud else G rm) := by
  obtain ⟨w, fl, h1, h2, h3⟩ := odd_shape hs inv loud
  rw [h3]
  exact shape_if hs h1 h2 h
include ha hb hc
theorem op_shape (o : Int) : Shape s (fun rm => opS o s rm a b c) := by
  obtain ⟨l1, l2⟩ := w_lt hs
  have la := mk_word hs ha
  have lb := mk_word hs hb
  have lc := mk_word hs hc
  unfold opS
  by_cases h0 : o = 0
  · simp only [if_pos h0]
    unfold addS
    exact shape_odd hs fun _ => shape_if hs la (.inl rfl) fun _ => shape_if hs lb (.inl rfl) fun _ => sum_shape hs
  simp only [if_neg h0]
  by_cases h1 : o = 1
  · simp only [if_pos h1]
    unfold mulS
    refine shape_odd hs fun hN => shape_if hs (l2 _).1 (.inl rfl) fun hI => shape_if hs (l2 _).2 (.inl rfl) fun hZ => ?_
    simp only [Bool.or_eq_false_iff] at hN hI hZ
    have fa : finN s a = true := by unfold finN; rw [hN.1.2, hI.1, hZ.1]; rfl
    have fb : finN s b = true := by unfold finN; rw [hN.2, hI.2, hZ.2]; rfl
    exact .inr (.inr ⟨_, _, _, _, Nat.mul_pos (fM_pos hs ha fa) (fM_pos hs hb fb), by simp, fun _ => rfl⟩)
  simp only [if_neg h1]
  by_cases h2 : o = 2
  · simp only [if_pos h2]
    unfold divS
    refine shape_odd hs fun hN => shape_if hs (l2 _).1 (.inl rfl) fun hI => shape_if hs (l2 _).2 (.inl rfl) fun hZ => shape_if hs (l2 _).1 (.inr (.inl rfl)) fun hY => ?_
    simp only [Bool.or_eq_false_iff] at hN hZ
    have fa : finN s a = true := by unfold finN; rw [hN.1.2, hI, hZ.2]; rfl
    have fb : finN s b = true := by unfold finN; rw [hN.2, hZ.1, hY]; rfl
    have pa := fM_pos hs ha fa
    have pb := fM_pos hs hb fb
    have bb := blenM hs hb
    obtain ⟨f1, _⟩ := size_facts hs
    have hbig : 2 ^ 77 ≤ fM s a * 2 ^ 130 / fM s b := by
      rw [Nat.le_div_iff_mul_le pb]
      have h5 : fM s b < 2 ^ 53 := blen_le.1 bb
      have h6 : 2 ^ 77 * fM s b ≤ 2 ^ 77 * 2 ^ 53 := Nat.mul_le_mul_left _ (Nat.le_of_lt h5)
      rw [← Nat.pow_add] at h6
      exact Nat.le_trans h6 (Nat.le_mul_of_pos_left _ pa)
    refine .inr (.inr ⟨_, _, _, _, Nat.lt_of_lt_of_le (by decide) hbig, fun _ => ?_, fun _ => rfl⟩)
    have := lt_blen.2 hbig
    omega
  simp only [if_neg h2]
  by_cases h3 : o = 3
  · simp only [if_pos h3]
    unfold sqrtS
    refine shape_odd hs fun hN => shape_if hs la (.inl rfl) fun hZ => ?_
    simp only [Bool.or_eq_false_iff] at hN hZ
    have fa : finN s a = true := by unfold finN; rw [hN.2, hZ.1, hZ.2]; rfl
    have pa := fM_pos hs ha fa
    obtain ⟨f1, _⟩ := size_facts hs
    obtain ⟨i1, i2⟩ := isq_ok (fM s a * 2 ^ sqN s a)
    have hbig : 2 ^ 79 ≤ isq (fM s a * 2 ^ sqN s a) := by
      refine Nat.le_of_not_lt fun hc2 => ?_
      have h5 : (isq (fM s a * 2 ^ sqN s a) + 1) * (isq (fM s a * 2 ^ sqN s a) + 1) ≤ 2 ^ 79 * 2 ^ 79 := Nat.mul_le_mul hc2 hc2
      rw [← Nat.pow_add] at h5
      have h6 : 2 ^ 160 ≤ fM s a * 2 ^ sqN s a := by
        refine Nat.le_trans ?_ (Nat.le_mul_of_pos_left _ pa)
        exact Nat.pow_le_pow_right (by decide) (by unfold sqN; split <;> decide)
      have h7 : (2:Nat) ^ (79 + 79) ≤ 2 ^ 160 := Nat.pow_le_pow_right (by decide) (by decide)
      omega
    refine .inr (.inr ⟨_, _, _, _, Nat.lt_of_lt_of_le (by decide) hbig, fun _ => ?_, fun _ => rfl⟩)
    have := lt_blen.2 hbig
    omega
  simp only [if_neg h3]
  unfold fmaS
  exact shape_odd hs fun _ => shape_if hs (l2 _).1 (.inl rfl) fun _ => shape_if hs lc (.inl rfl) fun _ => sum_shape hs
end
end Go.Proofs.Ytacciadcmiiimaa

namespace Go.Proofs.Ytacciadcmiiimaa
open Go Go.Sx Go.Rnd
set_option maxRecDepth 100000
set_option maxHeartbeats 1000000

def zS (mi : Bool) (M : Nat) : Int := if mi then -(M : Int) else (M : Int)
theorem zS_abs (mi : Bool) (M : Nat) : (zS mi M).natAbs = M := by unfold zS; cases mi <;> simp
theorem zS_neg {mi : Bool} {M : Nat} (h : 0 < M) : decide (zS mi M < 0) = mi := by unfold zS; cases mi <;> simp <;> omega
theorem zS_not (mi : Bool) (M : Nat) : zS (!mi) M = -zS mi M := by unfold zS; cases mi <;> simp
theorem sumS_int {s rm : Int} {mx my : Bool} {Mx My : Nat} {Ex Ey e : Int} (h1 : e ≤ Ex) (h2 : e ≤ Ey) : sumS s rm mx Mx Ex my My Ey =
    if zS mx (Mx * 2 ^ upE Ex e) + zS my (My * 2 ^ upE Ey e) = 0 then (sgB s (if mx = my then mx else rm == 2), 0)
    else rndP s rm (decide (zS mx (Mx * 2 ^ upE Ex e) + zS my (My * 2 ^ upE Ey e) < 0)) (zS mx (Mx * 2 ^ upE Ex e) + zS my (My * 2 ^ upE Ey e)).natAbs e false := by
  rw [sumS_at h1 h2]
  generalize Mx * 2 ^ upE Ex e = A
  generalize My * 2 ^ upE Ey e = B
  by_cases h : mx = my
  · subst h
    rw [if_pos rfl]
    have hz : zS mx A + zS mx B = 0 ↔ A + B = 0 := by unfold zS; cases mx <;> simp <;> omega
    by_cases h3 : A + B = 0
    · rw [if_pos h3, if_pos (hz.2 h3), if_pos rfl]
    · rw [if_neg h3, if_neg (fun h => h3 (hz.1 h))]
      have e1 : zS mx A + zS mx B = zS mx (A + B) := by unfold zS; cases mx <;> simp <;> omega
      rw [e1, zS_abs, zS_neg (by omega)]
  · rw [if_neg h]
    have hm : my = !mx := by revert h; cases mx <;> cases my <;> simp
    subst hm
    rw [zS_not]
    by_cases h3 : A = B
    · rw [if_pos h3, h3, if_pos (by omega), if_neg h]
    · have hz : ¬ zS mx A + -zS mx B = 0 := by unfold zS; cases mx <;> simp <;> omega
      rw [if_neg h3, if_neg hz]
      by_cases h4 : A < B
      · rw [if_pos h4]
        have e1 : zS mx A + -zS mx B = zS (!mx) (B - A) := by unfold zS; cases mx <;> simp <;> omega
        rw [e1, zS_abs, zS_neg (by omega)]
      · rw [if_neg h4]
        have e1 : zS mx A + -zS mx B = zS mx (A - B) := by unfold zS; cases mx <;> simp <;> omega
        rw [e1, zS_abs, zS_neg (by omega)]

section
variable {s rm : Int} (hs : s = 4 ∨ s = 8)
include hs
theorem same_mag {a b : Nat} (h : magN s a = magN s b) : fM s a = fM s b ∧ fE s a = fE s b ∧ nanN s a = nanN s b ∧ infN s a = infN s b ∧ zerN s a = zerN s b ∧ loudN s a = loudN s b ∧ finN s a = finN s b := by
  obtain ⟨p1, p2, p3⟩ := mag_parts hs a
  obtain ⟨q1, q2, q3⟩ := mag_parts hs b
  have e1 : exf s a = exf s b := by rw [p1, q1, h]
  have e2 : frf s a = frf s b := by rw [p2, q2, h]
  unfold finN fM fE nanN infN zerN loudN
  rw [e1, e2]
  exact ⟨rfl, rfl, rfl, rfl, rfl, rfl, rfl⟩
theorem flip_parts {b : Nat} (hb : b < 18446744073709551616) (hm : mkN s b = b) : sgN s (b ^^^ topN s) = !sgN s b ∧ magN s (b ^^^ topN s) = magN s b := by
  obtain ⟨p1, p2, p3⟩ := mag_parts hs b
  have hw := word_is hs hb
  rw [hm] at hw
  have hx : b ^^^ topN s = sgB s (!sgN s b) + magN s b := by
    obtain ⟨k, ht⟩ : ∃ k : Nat, topN s = 2 ^ k := by rcases hs with rfl | rfl; exact ⟨31, rfl⟩; exact ⟨63, rfl⟩
    have hlt : magN s b < 2 ^ k := by rw [← ht]; exact p3
    have key : (magN s b) ^^^ 2 ^ k = 2 ^ k + magN s b := by
      have h1 : 2 ^ k + magN s b = 2 ^ k ||| magN s b := by
        have := Nat.two_pow_add_eq_or_of_lt hlt 1
        rw [Nat.mul_one] at this; exact this
      rw [h1]
      refine Nat.eq_of_testBit_eq fun i => ?_
      rw [Nat.testBit_xor, Nat.testBit_or, Nat.testBit_two_pow]
      by_cases hi : k = i
      · subst hi
        rw [Nat.testBit_lt_two_pow hlt]; simp
      · rw [decide_eq_false hi]; simp
    conv => lhs; rw [hw]
    unfold sgB
    rw [ht]
    cases sgN s b
    · rw [if_neg Bool.false_ne_true, Nat.zero_add, Bool.not_false, if_pos rfl, key]
    · rw [if_pos rfl, Bool.not_true, if_neg Bool.false_ne_true, Nat.zero_add, ← key, Nat.xor_assoc, Nat.xor_self, Nat.xor_zero]
  obtain ⟨w1, w2, w3, w4⟩ := w_parts hs (mi := !sgN s b) p3
  rw [hx]
  exact ⟨w1, w2⟩
theorem fin_pos {a : Nat} (h : finN s a = true) : 0 < fM s a := by
  obtain ⟨n, m1, m2, m3, m4⟩ := f_mag hs (a := a)
  obtain ⟨k1, k2, k3⟩ := k_parts hs (a := a)
  unfold finN at h
  rw [k1, k2, k3] at h
  simp only [Bool.and_eq_true, Bool.not_eq_true', decide_eq_false_iff_not] at h
  refine Nat.pos_of_ne_zero fun hc => ?_
  rw [hc] at m4 m1
  have := Nat.two_pow_pos (frN s)
  have h0 : n = 0 := by omega
  rw [h0] at m1; omega
theorem fin_of {mi : Bool} {v : Nat} (h0 : 0 < v) (h1 : v < infB s) : finN s (sgB s mi + v) = true ∧ sgN s (sgB s mi + v) = mi ∧ magN s (sgB s mi + v) = v ∧ sgB s mi + v < 18446744073709551616 ∧ mkN s (sgB s mi + v) = sgB s mi + v := by
  obtain ⟨o1, o2, o3, o4, o5, o6⟩ := one_pos hs
  obtain ⟨w1, w2, w3, w4⟩ := w_parts hs (mi := mi) (v := v) (by omega)
  obtain ⟨k1, k2, k3⟩ := k_parts hs (a := sgB s mi + v)
  refine ⟨?_, w1, w2, w4, w3⟩
  unfold finN
  rw [k1, k2, k3, w2, decide_eq_false (show ¬ infB s < v by omega), decide_eq_false (show ¬ v = infB s by omega), decide_eq_false (show ¬ v = 0 by omega)]
  rfl
theorem rndP_self {a M : Nat} {E : Int} (ha : a < 18446744073709551616) (hf : finN s a = true) (h : SameV M E (fM s a) (fE s a)) : rndP s rm (sgN s a) M E false = (mkN s a, 0) := by
  have hM := h.pos.2 (fin_pos hs hf)
  unfold rndP
  rw [h.rnd hM, rnd_self hs hf, word_is hs ha]
theorem kinds_of {a : Nat} (h : finN s a = true) : nanN s a = false ∧ infN s a = false ∧ zerN s a = false := by
  have _ := hs
  unfold finN at h
  simpa [Bool.and_assoc, and_assoc] using h
theorem fin_or {a : Nat} (h1 : nanN s a = false) (h2 : infN s a = false) : zerN s a = true ∨ finN s a = true := by
  have _ := hs
  unfold finN; rw [h1, h2]
  cases zerN s a
  · exact .inr rfl
  · exact .inl rfl
theorem add_fin {a b : Nat} (a1 : nanN s a = false) (a2 : infN s a = false) (b1 : nanN s b = false) (b2 : infN s b = false) : addS s rm a b = sumS s rm (sgN s a) (fM s a) (fE s a) (sgN s b) (fM s b) (fE s b) := by
  have _ := hs
  unfold addS
  rw [a1, a2, b1, b2]
  rfl
theorem mul_fin {a b : Nat} (fa : finN s a = true) (fb : finN s b = true) : mulS s rm a b = rndP s rm (sgN s a != sgN s b) (fM s a * fM s b) (fE s a + fE s b) false := by
  obtain ⟨a1, a2, a3⟩ := kinds_of hs fa
  obtain ⟨b1, b2, b3⟩ := kinds_of hs fb
  unfold mulS
  rw [a1, a2, a3, b1, b2, b3]
  rfl
theorem mul_zer {a b : Nat} (a1 : nanN s a = false) (a2 : infN s a = false) (b1 : nanN s b = false) (b2 : infN s b = false) (h : (zerN s a || zerN s b) = true) : mulS s rm a b = (sgB s (sgN s a != sgN s b), 0) := by
  have _ := hs
  unfold mulS
  rw [a1, a2, b1, b2, h]
  simp
end
end Go.Proofs.Ytacciadcmiiimaa

namespace Go.Rnd
set_option maxRecDepth 100000
set_option maxHeartbeats 1000000
theorem rnd_norm {f b : Nat} {rm : Int} {mi : Bool} {M : Nat} {E : Int} (hb : 1 ≤ b) (hM : 0 < M) (h1 : 2 ^ f ≤ (rnd f b rm mi M E false).1) (h2 : (rnd f b rm mi M E false).2 = 0 ∨ (rnd f b rm mi M E false).2 = 1) :
    ∃ (q n : Nat) (d : Int), (q, d) = (if (cutN rm mi M (blen M - f - 1) false).1 = 2 ^ (f + 1) then (2 ^ f, 1) else ((cutN rm mi M (blen M - f - 1) false).1, 0)) ∧ (n : Int) = blen M + E - f - 1 + d - least f b ∧ q < 2 ^ (f + 1) ∧ 2 ^ f ≤ q ∧
      (rnd f b rm mi M E false).1 = q + n * 2 ^ f ∧ (rnd f b rm mi M E false).2 = (if (cutN rm mi M (blen M - f - 1) false).2 then 0 else 1) ∧ (rnd f b rm mi M E false).1 < infF f b := by
  have hp := Nat.two_pow_pos f
  have e2 : 2 ^ (f + 1) = 2 * 2 ^ f := by rw [Nat.pow_succ]; omega
  have hbl := blen_pos hM
  rw [rnd_eq hb hM] at h1 h2 ⊢
  unfold tolF at h1 h2 ⊢
  by_cases hov : infF f b ≤ qOf f b M E + nOf f b M E * 2 ^ f + (if upOf f b rm mi M E false = true then 1 else 0)
  · rw [if_pos hov] at h2; simp at h2
  rw [if_neg hov] at h1 h2 ⊢
  have hcp := cutN_parts rm mi M (blen M - f - 1) false
  by_cases ht : (blen M : Int) + E - f - 1 < least f b
  · have hl : lastOf f b (blen M + E) = least f b := by unfold lastOf; rw [if_pos ht]
    have hn : nOf f b M E = 0 := by unfold nOf; rw [hl]; omega
    rw [hn, Nat.zero_mul, Nat.add_zero] at h1 h2 hov ⊢
    have hQ : qOf f b M E < 2 ^ f := by
      unfold qOf; rw [hl]
      by_cases h3 : least f b - E < blen M
      · have := tru_blen (b := least f b - E) hM h3
        exact blen_le.1 (by omega)
      · unfold truN
        rw [if_neg (by omega), Nat.div_eq_of_lt (blen_le.1 (by omega))]; exact hp
    have hup : upOf f b rm mi M E false = true := by
      refine Bool.not_eq_false _ ▸ fun hc => ?_
      rw [hc] at h1
      simp at h1
      omega
    rw [hup, if_pos rfl] at h1 hov ⊢
    have h1 : 2 ^ f ≤ qOf f b M E + 1 := h1
    have hQ2 : qOf f b M E + 1 = 2 ^ f := by omega
    have hbb : 0 < least f b - E := by
      unfold upOf upM at hup
      rw [hl] at hup
      refine Int.lt_of_not_ge fun hc => ?_
      rw [if_pos hc] at hup; cases hup
    have hex : exOf f b M E false = false := by
      cases he : exOf f b M E false
      · rfl
      · have : upOf f b rm mi M E false = false := upM_exact he
        rw [this] at hup; cases hup
    rw [hex] at h2 ⊢
    simp only [Bool.false_eq_true, if_false] at h2 ⊢
    have hti : tiOf f b rm mi M E false = false := by
      cases hc : tiOf f b rm mi M E false
      · rfl
      · rw [hc] at h2; simp at h2
    rw [hti]
    simp only [Bool.false_eq_true, if_false]
    -- the finer cut
    have hcut : cutN rm mi M (blen M + E - f - 1 - E) false = cutN rm mi M (blen M - f - 1) false := by congr 1; omega
    have hti2 := hti
    unfold tiOf tinyOf at hti2
    rw [hcut, decide_eq_true ht, Bool.true_and, decide_eq_false_iff_not] at hti2
    have hle : (cutN rm mi M (blen M - f - 1) false).1 ≤ 2 ^ (f + 1) := by
      rw [hcp]
      have : truN M (blen M - f - 1) < 2 ^ (f + 1) := by
        have := tru_blen (b := (blen M : Int) - f - 1) hM (by omega)
        exact blen_le.1 (by omega)
      show truN M _ + _ ≤ _
      split <;> omega
    have hQb : 0 < qOf f b M E ∨ f = 0 := by
      rcases Nat.eq_zero_or_pos f with h0 | h0
      · exact .inr h0
      · refine .inl ?_
        have : 2 ^ 1 ≤ 2 ^ f := Nat.pow_le_pow_right (by decide) h0
        omega
    have hteq : (blen M : Int) + E - f - 1 = least f b - 1 := by
      have hb1 : blen (cutN rm mi M (blen M - f - 1) false).1 ≤ f + 2 := blen_le.2 (Nat.lt_of_le_of_lt hle (Nat.pow_lt_pow_right (by decide) (by omega)))
      omega
    have hc : (cutN rm mi M (blen M - f - 1) false).1 = 2 ^ (f + 1) := by
      have : 2 ^ (f + 1) ≤ (cutN rm mi M (blen M - f - 1) false).1 := lt_blen.1 (by omega)
      omega
    have hex2 : (cutN rm mi M (blen M - f - 1) false).2 = false := by
      cases he : (cutN rm mi M (blen M - f - 1) false).2
      · rfl
      · rw [hcp] at he hc
        have h3 := upM_exact (rm := rm) (minus := mi) he
        have hc : truN M (blen M - f - 1) + (if upM rm mi M (blen M - f - 1) false then 1 else 0) = 2 ^ (f + 1) := hc
        rw [h3] at hc
        have : truN M (blen M - f - 1) < 2 ^ (f + 1) := by
          have := tru_blen (b := (blen M : Int) - f - 1) hM (by omega)
          exact blen_le.1 (by omega)
        simp at hc
        omega
    refine ⟨2 ^ f, 0, 1, by rw [if_pos hc], by omega, by omega, Nat.le_refl _, ?_, ?_, by omega⟩
    · show qOf f b M E + 1 = _
      rw [hQ2]; omega
    · rw [hex2]; rfl
  · have hl : lastOf f b (blen M + E) = blen M + E - f - 1 := by unfold lastOf; rw [if_neg ht]
    have hn : (nOf f b M E : Int) = blen M + E - f - 1 - least f b := by unfold nOf; rw [hl]; omega
    have hbeq : lastOf f b (blen M + E) - E = blen M - f - 1 := by rw [hl]; omega
    have hq : qOf f b M E = truN M (blen M - f - 1) := by unfold qOf; rw [hbeq]
    have hx : exOf f b M E false = exaN M (blen M - f - 1) false := by unfold exOf; rw [hbeq]
    have hu : upOf f b rm mi M E false = upM rm mi M (blen M - f - 1) false := by unfold upOf; rw [hbeq]
    have hti : tiOf f b rm mi M E false = false := by unfold tiOf tinyOf; rw [decide_eq_false ht, Bool.false_and]
    have hbt := tru_blen (b := (blen M : Int) - f - 1) hM (by omega)
    have hc1 : (cutN rm mi M (blen M - f - 1) false).1 = qOf f b M E + (if upOf f b rm mi M E false = true then 1 else 0) := by rw [hcp, hq, hu]
    have hc2 : (cutN rm mi M (blen M - f - 1) false).2 = exOf f b M E false := by rw [hcp, hx]
    have hQ1 : qOf f b M E < 2 ^ (f + 1) := by rw [hq]; exact blen_le.1 (by omega)
    have hQ2 : 2 ^ f ≤ qOf f b M E := by rw [hq]; exact lt_blen.1 (by omega)
    rw [hti]
    rw [hti] at h2
    rw [hc1, hc2]
    by_cases hcc : qOf f b M E + (if upOf f b rm mi M E false = true then 1 else 0) = 2 ^ (f + 1)
    · rw [if_pos hcc]
      refine ⟨2 ^ f, nOf f b M E + 1, 1, rfl, by omega, by omega, Nat.le_refl _, ?_, ?_, by omega⟩
      · rw [Nat.add_mul]
        show qOf f b M E + nOf f b M E * 2 ^ f + (if upOf f b rm mi M E false = true then 1 else 0) = _
        omega
      · show (if exOf f b M E false = true then 0 else if false = true then 3 else 1) = _
        rfl
    · rw [if_neg hcc]
      refine ⟨qOf f b M E + (if upOf f b rm mi M E false = true then 1 else 0), nOf f b M E, 0, rfl, by omega, ?_, by omega, ?_, ?_, by omega⟩
      · have : (if upOf f b rm mi M E false = true then 1 else 0) ≤ 1 := by split <;> omega
        omega
      · show qOf f b M E + nOf f b M E * 2 ^ f + (if upOf f b rm mi M E false = true then 1 else 0) = _
        omega
      · rfl
end Go.Rnd
namespace Go.Proofs.Ytacciadcmiiimaa
open Go Go.Sx Go.Rnd
set_option maxRecDepth 100000
set_option maxHeartbeats 2000000

theorem tolF_fl {f b v : Nat} {rm : Int} {mi ex ti : Bool} : (tolF f b rm mi v ex ti).2 = 0 ∨ (tolF f b rm mi v ex ti).2 = 1 ∨ (tolF f b rm mi v ex ti).2 = 3 ∨ (tolF f b rm mi v ex ti).2 = 5 := by
  unfold tolF
  split
  · exact .inr (.inr (.inr rfl))
  · cases ex
    · cases ti
      · exact .inr (.inl rfl)
      · exact .inr (.inr (.inl rfl))
    · exact .inl rfl
def twN (s : Int) (k : Nat) : Nat := (biN s + k - 18) * oneN s
theorem tw_facts : ∀ k : Fin 39, (twN 4 k.val < 18446744073709551616 ∧ nanN 4 (twN 4 k.val) = false ∧ infN 4 (twN 4 k.val) = false ∧ zerN 4 (twN 4 k.val) = false ∧ sgN 4 (twN 4 k.val) = false ∧ loudN 4 (twN 4 k.val) = false ∧ fM 4 (twN 4 k.val) = 2 ^ frN 4 ∧ fE 4 (twN 4 k.val) = (k.val : Int) - 18 - frN 4) ∧
    (twN 8 k.val < 18446744073709551616 ∧ nanN 8 (twN 8 k.val) = false ∧ infN 8 (twN 8 k.val) = false ∧ zerN 8 (twN 8 k.val) = false ∧ sgN 8 (twN 8 k.val) = false ∧ loudN 8 (twN 8 k.val) = false ∧ fM 8 (twN 8 k.val) = 2 ^ frN 8 ∧ fE 8 (twN 8 k.val) = (k.val : Int) - 18 - frN 8) := by decide +kernel
theorem tmod_20 (x : Int) : ∃ k : Nat, k ≤ 38 ∧ Int.tmod x 20 = (k : Int) - 19 := by
  by_cases h : 0 ≤ x
  · rw [Int.tmod_eq_emod_of_nonneg h]
    exact ⟨(x % 20 + 19).toNat, by omega, by omega⟩
  · have e : x = -(-x) := by omega
    rw [e, Int.neg_tmod, Int.tmod_eq_emod_of_nonneg (by omega)]
    exact ⟨(19 - (-x) % 20).toNat, by omega, by omega⟩
section
variable {s rm : Int} (hs : s = 4 ∨ s = 8)
include hs
theorem tw_at {k : Nat} (hk : k ≤ 38) : twN s k < 18446744073709551616 ∧ nanN s (twN s k) = false ∧ infN s (twN s k) = false ∧ zerN s (twN s k) = false ∧ sgN s (twN s k) = false ∧ loudN s (twN s k) = false ∧ fM s (twN s k) = 2 ^ frN s ∧ fE s (twN s k) = (k : Int) - 18 - frN s := by
  have := tw_facts ⟨k, by omega⟩
  rcases hs with rfl | rfl
  · exact this.1
  · exact this.2
theorem small_ok {a : Nat} (ha : a < 18446744073709551616) : p57 s = true ∧ r57_0 s (a : Int) = decide (magN s a < 2 ^ frN s) := by
  have hm := mask_ok hs ha
  have hw := word_is hs ha
  obtain ⟨p1, p2, p3⟩ := mag_parts hs a
  have hz : ∀ x : Nat, (((x : Nat) : Int) == 0) = decide (x = 0) := fun x => by rw [Bool.eq_iff_iff]; simp only [beq_iff_eq, dec]; omega
  have hlt := mk_lt hs ha
  generalize hA : mkN s a = A at *
  generalize hB : magN s a = B at *
  rcases hs with rfl | rfl
  · have e2 : topN 4 = 2147483648 := rfl
    have k1 : IntKind.wrap .i64 (64 - IntKind.wrap .i64 (8 * 4)) = ((32 : Nat) : Int) := by decide
    have k2 : decide (IntKind.wrap .i64 (64 - IntKind.wrap .i64 (8 * 4)) ≥ 0) = true := by decide
    have k3 : (bif ((4 : Int) == 8) then (52 : Int) else 23) = ((23 : Nat) : Int) := rfl
    have k4 : decide ((bif ((4 : Int) == 8) then (52 : Int) else 23) ≥ 0) = true := rfl
    refine ⟨by simp only [p57, k2, k4, ow_t]; rfl, ?_⟩
    have hsg : A = (if sgN 4 a then 2147483648 else 0) + B := hw
    have s1 : ishl .u64 (A : Int) ((32 : Nat) : Int) = ((A * 4294967296 % 18446744073709551616 : Nat) : Int) := shl_nat A 32
    have s2 : ishl .u64 ((A * 4294967296 % 18446744073709551616 : Nat) : Int) 1 = ((A * 4294967296 % 18446744073709551616 * 2 % 18446744073709551616 : Nat) : Int) := shl_nat _ 1
    have s3 : ∀ y : Nat, ishr .u64 ((y : Nat) : Int) ((32 : Nat) : Int) = ((y / 4294967296 : Nat) : Int) := fun y => (shr_of 32 (by decide) (by decide) : ishr .u64 (y : Int) 32 = (y : Int) / 4294967296)
    have s4 : ∀ y : Nat, ishr .u64 ((y : Nat) : Int) 1 = ((y / 2 : Nat) : Int) := fun y => (shr_of 1 (by decide) (by decide) : ishr .u64 (y : Int) 1 = (y : Int) / 2)
    have s5 : ∀ y : Nat, ishr .u64 ((y : Nat) : Int) ((23 : Nat) : Int) = ((y / 8388608 : Nat) : Int) := fun y => (shr_of 23 (by decide) (by decide) : ishr .u64 (y : Int) 23 = (y : Int) / 8388608)
    simp only [r57_0, hm, k1, k3, s1, s2, s3, s4, s5, hz]
    rw [decide_eq_decide]
    have e5 : frN 4 = 23 := rfl
    rw [e5, Nat.div_eq_zero_iff_lt (by decide)]
    rw [e2] at p3
    have : A * 4294967296 % 18446744073709551616 * 2 % 18446744073709551616 / 4294967296 / 2 = B := by
      rw [hsg]; split <;> omega
    rw [this]
  · have e2 : topN 8 = 9223372036854775808 := rfl
    have k1 : IntKind.wrap .i64 (64 - IntKind.wrap .i64 (8 * 8)) = ((0 : Nat) : Int) := by decide
    have k2 : decide (IntKind.wrap .i64 (64 - IntKind.wrap .i64 (8 * 8)) ≥ 0) = true := by decide
    have k3 : (bif ((8 : Int) == 8) then (52 : Int) else 23) = ((52 : Nat) : Int) := rfl
    have k4 : decide ((bif ((8 : Int) == 8) then (52 : Int) else 23) ≥ 0) = true := rfl
    refine ⟨by simp only [p57, k2, k4, ow_t]; rfl, ?_⟩
    have hsg : A = (if sgN 8 a then 9223372036854775808 else 0) + B := hw
    have s1 : ishl .u64 (A : Int) ((0 : Nat) : Int) = ((A * 1 % 18446744073709551616 : Nat) : Int) := shl_nat A 0
    have s2 : ∀ y : Nat, ishl .u64 ((y : Nat) : Int) 1 = ((y * 2 % 18446744073709551616 : Nat) : Int) := fun y => shl_nat _ 1
    have s3 : ∀ y : Nat, ishr .u64 ((y : Nat) : Int) ((0 : Nat) : Int) = ((y / 1 : Nat) : Int) := fun y => (shr_of 0 (by decide) (by decide) : ishr .u64 (y : Int) 0 = (y : Int) / 1)
    have s4 : ∀ y : Nat, ishr .u64 ((y : Nat) : Int) 1 = ((y / 2 : Nat) : Int) := fun y => (shr_of 1 (by decide) (by decide) : ishr .u64 (y : Int) 1 = (y : Int) / 2)
    have s5 : ∀ y : Nat, ishr .u64 ((y : Nat) : Int) ((52 : Nat) : Int) = ((y / 4503599627370496 : Nat) : Int) := fun y => (shr_of 52 (by decide) (by decide) : ishr .u64 (y : Int) 52 = (y : Int) / 4503599627370496)
    simp only [r57_0, hm, k1, k3, s1, s2, s3, s4, s5, hz]
    rw [decide_eq_decide]
    have e5 : frN 8 = 52 := rfl
    rw [e5, Nat.div_eq_zero_iff_lt (by decide)]
    rw [e2] at p3
    have : A * 1 % 18446744073709551616 * 2 % 18446744073709551616 / 1 / 2 = B := by
      rw [hsg]; split <;> omega
    rw [this]
theorem mul_two {a k : Nat} (ha : a < 18446744073709551616) (hk : k ≤ 38) (hg : (mulS s rm a (twN s k)).2 = 0) (hn : nanN s (mulS s rm a (twN s k)).1 = false) (hi : infN s (mulS s rm a (twN s k)).1 = false) :
    nanN s a = false ∧ infN s a = false ∧ sgN s (mulS s rm a (twN s k)).1 = sgN s a ∧
    ∀ e : Int, e ≤ fE s a → e + ((k : Int) - 18) ≤ fE s (mulS s rm a (twN s k)).1 → fM s (mulS s rm a (twN s k)).1 * 2 ^ upE (fE s (mulS s rm a (twN s k)).1) (e + ((k : Int) - 18)) = fM s a * 2 ^ upE (fE s a) e := by
  obtain ⟨w1, w2, w3, w4, w5, w6, w7, w8⟩ := tw_at hs hk
  have e5 : (sgN s a != sgN s (twN s k)) = sgN s a := by rw [w5]; cases sgN s a <;> rfl
  have e0 : mulS s rm a (twN s k) = if nanN s a then oddP s false (loudN s a) else if infN s a then (sgB s (sgN s a) + infB s, 0) else if zerN s a then (sgB s (sgN s a), 0) else rndP s rm (sgN s a) (fM s a * 2 ^ frN s) (fE s a + ((k : Int) - 18 - frN s)) false := by
    unfold mulS
    rw [e5, w2, w3, w4, w6, w7, w8]
    simp
  obtain ⟨o1, o2, o3, o4, o5, o6⟩ := one_pos hs
  cases a1 : nanN s a
  · rw [a1, if_neg Bool.false_ne_true] at e0
    cases a2 : infN s a
    · rw [a2, if_neg Bool.false_ne_true] at e0
      refine ⟨rfl, rfl, ?_⟩
      rcases fin_or hs a1 a2 with za | fa
      · rw [za, if_pos rfl] at e0
        obtain ⟨u1, u2, u3, u4, u5⟩ := zero_word hs ha ha (sgN s a)
        rw [e0]
        refine ⟨u4, fun e _ _ => ?_⟩
        show fM s (sgB s (sgN s a)) * _ = _
        rw [u3, zer_M hs ha za, Nat.zero_mul, Nat.zero_mul]
      · obtain ⟨_, _, a3⟩ := kinds_of hs fa
        rw [a3, if_neg Bool.false_ne_true] at e0
        rw [e0] at hg ⊢
        obtain ⟨r1, r2, r3, r4⟩ := rnd_back hs (Nat.mul_pos (fin_pos hs fa) (Nat.two_pow_pos _)) hg
        obtain ⟨t1, t2, t3, t4, t5⟩ := fin_of hs (mi := sgN s a) r3 r2
        have hx : (rndP s rm (sgN s a) (fM s a * 2 ^ frN s) (fE s a + ((k : Int) - 18 - frN s)) false).1 = sgB s (sgN s a) + (rnd (frN s) (biN s) rm (sgN s a) (fM s a * 2 ^ frN s) (fE s a + ((k : Int) - 18 - frN s)) false).1 := rfl
        rw [hx]
        clear hx
        generalize sgB s (sgN s a) + (rnd (frN s) (biN s) rm (sgN s a) (fM s a * 2 ^ frN s) (fE s a + ((k : Int) - 18 - frN s)) false).1 = x at *
        refine ⟨t2, fun e h1 h2 => ?_⟩
        have hsame : SameV (fM s x) (fE s x) (fM s a) (fE s a + ((k : Int) - 18)) := by
          have h3 := SameV.up (fM s a) (fE s a + ((k : Int) - 18)) (frN s)
          have e3 : fE s a + ((k : Int) - 18) - (frN s : Int) = fE s a + ((k : Int) - 18 - frN s) := by omega
          rw [e3] at h3
          exact r4.trans h3
        rw [same_up hsame h2 (by omega)]
        have e4 : upE (fE s a + ((k : Int) - 18)) (e + ((k : Int) - 18)) = upE (fE s a) e := by unfold upE; omega
        rw [e4]
    · exfalso
      rw [a2, if_pos rfl] at e0
      rw [e0] at hi
      have hi : infN s (sgB s (sgN s a) + infB s) = false := hi
      rw [(k_parts hs).2.1, (w_parts hs (mi := sgN s a) o2).2.1] at hi
      simp at hi
  · exfalso
    rw [a1, if_pos rfl] at e0
    rw [e0] at hn
    have hn : nanN s (quiB s) = false := hn
    have : nanN s (quiB s) = true := by rcases hs with rfl | rfl <;> decide +kernel
    rw [this] at hn; cases hn
theorem scales {a b k : Nat} (ha : a < 18446744073709551616) (hb : b < 18446744073709551616) (hk : k ≤ 38)
    (g1 : (mulS s rm a (twN s k)).2 = 0) (g2 : nanN s (mulS s rm a (twN s k)).1 = false) (g3 : infN s (mulS s rm a (twN s k)).1 = false)
    (q1 : (mulS s rm b (twN s k)).2 = 0) (q2 : nanN s (mulS s rm b (twN s k)).1 = false) (q3 : infN s (mulS s rm b (twN s k)).1 = false)
    (hi : (addS s rm a b).2 = 0 ∨ (addS s rm a b).2 = 1) (hj : (addS s rm (mulS s rm a (twN s k)).1 (mulS s rm b (twN s k)).1).2 = 0 ∨ (addS s rm (mulS s rm a (twN s k)).1 (mulS s rm b (twN s k)).1).2 = 1)
    (hv : 2 ^ frN s ≤ magN s (addS s rm a b).1) (hw : 2 ^ frN s ≤ magN s (addS s rm (mulS s rm a (twN s k)).1 (mulS s rm b (twN s k)).1).1) :
    (mulS s rm (addS s rm a b).1 (twN s k)).1 = (addS s rm (mulS s rm a (twN s k)).1 (mulS s rm b (twN s k)).1).1 ∧ (addS s rm a b).2 = (addS s rm (mulS s rm a (twN s k)).1 (mulS s rm b (twN s k)).1).2 := by
  obtain ⟨o1, o2, o3, o4, o5, o6⟩ := one_pos hs
  obtain ⟨w1, w2, w3, w4, w5, w6, w7, w8⟩ := tw_at hs hk
  obtain ⟨a1, a2, sx, ax⟩ := mul_two hs ha hk g1 g2 g3
  obtain ⟨b1, b2, sy, by_⟩ := mul_two hs hb hk q1 q2 q3
  generalize (mulS s rm a (twN s k)).1 = x at *
  generalize (mulS s rm b (twN s k)).1 = y at *
  rw [add_fin hs a1 a2 b1 b2] at hi hv ⊢
  rw [add_fin hs g2 g3 q2 q3] at hj hw ⊢
  obtain ⟨e, l1, l2, l3, l4⟩ : ∃ e : Int, e ≤ fE s a ∧ e ≤ fE s b ∧ e + ((k : Int) - 18) ≤ fE s x ∧ e + ((k : Int) - 18) ≤ fE s y :=
    ⟨minE (minE (fE s a) (fE s b)) (minE (fE s x - ((k : Int) - 18)) (fE s y - ((k : Int) - 18))), by unfold minE; (repeat' split) <;> omega, by unfold minE; (repeat' split) <;> omega, by unfold minE; (repeat' split) <;> omega, by unfold minE; (repeat' split) <;> omega⟩
  rw [sumS_int l1 l2] at hi hv ⊢
  rw [sumS_int l3 l4, sx, sy, ax e l1 l3, by_ e l2 l4] at hj hw ⊢
  generalize zS (sgN s a) (fM s a * 2 ^ upE (fE s a) e) + zS (sgN s b) (fM s b * 2 ^ upE (fE s b) e) = S at *
  by_cases hS : S = 0
  · exfalso
    rw [if_pos hS] at hv
    have hv : 2 ^ frN s ≤ magN s (sgB s (if sgN s a = sgN s b then sgN s a else rm == 2) + 0) := hv
    rw [(w_parts hs (by omega)).2.1] at hv
    have := Nat.two_pow_pos (frN s)
    omega
  · rw [if_neg hS] at hi hv hj hw
    rw [if_neg hS, if_neg hS]
    have hM : 0 < S.natAbs := by omega
    generalize decide (S < 0) = mi at *
    generalize S.natAbs = M at *
    have hv : 2 ^ frN s ≤ magN s (sgB s mi + (rnd (frN s) (biN s) rm mi M e false).1) := hv
    have hw : 2 ^ frN s ≤ magN s (sgB s mi + (rnd (frN s) (biN s) rm mi M (e + ((k : Int) - 18)) false).1) := hw
    rw [(w_parts hs (Nat.lt_of_le_of_lt (rnd_le hs hM) o2)).2.1] at hv hw
    obtain ⟨qv, nv, dv, c1, c2, c3, c4, c5, c6, c7⟩ := rnd_norm o6 hM hv hi
    obtain ⟨qw, nw, dw, d1, d2, d3, d4, d5, d6, d7⟩ := rnd_norm o6 hM hw hj
    rw [← c1] at d1
    injection d1 with d1 d1'
    subst d1 d1'
    refine ⟨?_, c6.trans d6.symm⟩
    show (mulS s rm (sgB s mi + (rnd (frN s) (biN s) rm mi M e false).1) (twN s k)).1 = sgB s mi + (rnd (frN s) (biN s) rm mi M (e + ((k : Int) - 18)) false).1
    rw [← o5] at c7 d7
    have hp := Nat.two_pow_pos (frN s)
    obtain ⟨t1, t2, t3, t4, t5⟩ := fin_of hs (mi := mi) (v := (rnd (frN s) (biN s) rm mi M e false).1) (by omega) c7
    obtain ⟨u1, u2, u3, u4, u5⟩ := fin_of hs (mi := mi) (v := (rnd (frN s) (biN s) rm mi M (e + ((k : Int) - 18)) false).1) (by omega) d7
    obtain ⟨f1, f2⟩ := f_parts hs (t3.trans c5) c3 (.inr c4)
    obtain ⟨f3, f4⟩ := f_parts hs (u3.trans d5) d3 (.inr d4)
    generalize sgB s mi + (rnd (frN s) (biN s) rm mi M e false).1 = v at *
    generalize sgB s mi + (rnd (frN s) (biN s) rm mi M (e + ((k : Int) - 18)) false).1 = w at *
    have ft : finN s (twN s k) = true := by unfold finN; rw [w2, w3, w4]; rfl
    have hsg : (sgN s v != sgN s (twN s k)) = sgN s w := by rw [w5, t2, u2]; cases mi <;> rfl
    rw [mul_fin hs t1 ft, hsg, w7, w8]
    have hsame : SameV (fM s v * 2 ^ frN s) (fE s v + ((k : Int) - 18 - frN s)) (fM s w) (fE s w) := by
      have h3 := SameV.up (fM s w) (fE s w) (frN s)
      have e3 : fE s w - (frN s : Int) = fE s v + ((k : Int) - 18 - frN s) := by omega
      rw [e3, f3, ← f1] at h3
      rw [f3, ← f1]
      exact h3
    rw [rndP_self hs u4 u1 hsame]
    exact u5
theorem sum_fl {mx my : Bool} {Mx My : Nat} {Ex Ey : Int} : (sumS s rm mx Mx Ex my My Ey).2 = 0 ∨ (sumS s rm mx Mx Ex my My Ey).2 = 1 ∨ (sumS s rm mx Mx Ex my My Ey).2 = 3 ∨ (sumS s rm mx Mx Ex my My Ey).2 = 5 := by
  have o6 := (one_pos hs).2.2.2.2.2
  rcases sum_shape hs (mx := mx) (my := my) (Mx := Mx) (My := My) (Ex := Ex) (Ey := Ey) with ⟨w, fl, hw, hf, e⟩ | e | ⟨mi, M, E, more, hM, hmore, e⟩
  · have e := e rm
    have h2 : (sumS s rm mx Mx Ex my My Ey).2 = 0 ∨ (sumS s rm mx Mx Ex my My Ey).2 = 1 ∨ (sumS s rm mx Mx Ex my My Ey).2 = 3 ∨ (sumS s rm mx Mx Ex my My Ey).2 = 5 := by
      unfold sumS
      have key : ∀ (mi : Bool) (M : Nat) (E : Int), 0 < M → (rndP s rm mi M E false).2 = 0 ∨ (rndP s rm mi M E false).2 = 1 ∨ (rndP s rm mi M E false).2 = 3 ∨ (rndP s rm mi M E false).2 = 5 := fun mi M E hM => by
        show (rnd _ _ rm mi M E false).2 = 0 ∨ (rnd _ _ rm mi M E false).2 = 1 ∨ (rnd _ _ rm mi M E false).2 = 3 ∨ (rnd _ _ rm mi M E false).2 = 5
        rw [rnd_eq o6 hM]; exact tolF_fl
      split
      · split
        · exact .inl rfl
        · exact key _ _ _ (by omega)
      · split
        · exact .inl rfl
        · split
          · exact key _ _ _ (by omega)
          · exact key _ _ _ (by omega)
    exact h2
  · exact .inl (congrArg Prod.snd (e rm))
  · have e : sumS s rm mx Mx Ex my My Ey = rndP s rm mi M E more := e rm
    rw [e]
    show (rnd _ _ rm mi M E more).2 = 0 ∨ (rnd _ _ rm mi M E more).2 = 1 ∨ (rnd _ _ rm mi M E more).2 = 3 ∨ (rnd _ _ rm mi M E more).2 = 5
    rw [rnd_eq o6 hM]; exact tolF_fl
end
end Go.Proofs.Ytacciadcmiiimaa

namespace Go.Proofs.Ytacciadcmiiimaa
open Go Go.Sx Go.Rnd
set_option maxRecDepth 100000
set_option maxHeartbeats 2000000
def end16 (nx ny ix iy : Bool) (g h i j l : Int) (sv sw : Bool) (z w : Int) : Bool :=
  bif !(((((nx || ny) || ix) || iy) || (g != 0)) || (h != 0)) then
    (bif !(((ilandNot .i64 i 1 != 0) || (ilandNot .i64 j 1 != 0)) || (l != 0)) then ((sv || sw) || ((z == w) && (i == j))) else true) else true
theorem low_fl {f : Nat} (h : f = 0 ∨ f = 1 ∨ f = 3 ∨ f = 5) : (ilandNot .i64 (f : Int) 1 != 0) = !decide (f = 0 ∨ f = 1) := by rcases h with rfl | rfl | rfl | rfl <;> decide +kernel
theorem w4 {k : Nat} (hk : k ≤ 38) : IntKind.wrap .u64 (IntKind.wrap .i64 (IntKind.wrap .i64 (127 + IntKind.wrap .i64 ((k : Int) - 19 + 20)) - 19)) = ((127 + k - 18 : Nat) : Int) := by
  rw [wrap_i64_of (n := (k : Int) - 19 + 20) (by omega) (by omega), wrap_i64_of (n := 127 + ((k : Int) - 19 + 20)) (by omega) (by omega), wrap_i64_of (n := 127 + ((k : Int) - 19 + 20) - 19) (by omega) (by omega), wrap_u64_of (n := 127 + ((k : Int) - 19 + 20) - 19) (by omega) (by omega)]
  omega
theorem w8 {k : Nat} (hk : k ≤ 38) : IntKind.wrap .u64 (IntKind.wrap .i64 (IntKind.wrap .i64 (1023 + IntKind.wrap .i64 ((k : Int) - 19 + 20)) - 19)) = ((1023 + k - 18 : Nat) : Int) := by
  rw [wrap_i64_of (n := (k : Int) - 19 + 20) (by omega) (by omega), wrap_i64_of (n := 1023 + ((k : Int) - 19 + 20)) (by omega) (by omega), wrap_i64_of (n := 1023 + ((k : Int) - 19 + 20) - 19) (by omega) (by omega), wrap_u64_of (n := 1023 + ((k : Int) - 19 + 20) - 19) (by omega) (by omega)]
  omega
theorem mul_pow23 {x : Nat} (h : x ≤ 165) : x * 2 ^ 23 < 18446744073709551616 := by
  have : x * 2 ^ 23 ≤ 165 * 2 ^ 23 := Nat.mul_le_mul_right _ h
  exact Nat.lt_of_le_of_lt this (by decide)
theorem mul_pow52 {x : Nat} (h : x ≤ 1061) : x * 2 ^ 52 < 18446744073709551616 := by
  have : x * 2 ^ 52 ≤ 1061 * 2 ^ 52 := Nat.mul_le_mul_right _ h
  exact Nat.lt_of_le_of_lt this (by decide)
theorem tw_word {s : Int} (hs : s = 4 ∨ s = 8) {k : Nat} (hk : k ≤ 38) : ishl .u64 (IntKind.wrap .u64 (IntKind.wrap .i64 (IntKind.wrap .i64 ((bif s == 8 then 1023 else 127 : Int) + IntKind.wrap .i64 ((k : Int) - 19 + 20)) - 19))) (bif s == 8 then 52 else 23 : Int) = (twN s k : Int) := by
  unfold twN
  rcases hs with rfl | rfl
  · have c1 : (bif ((4 : Int) == 8) then (1023 : Int) else 127) = 127 := rfl
    have c2 : (bif ((4 : Int) == 8) then (52 : Int) else 23) = ((23 : Nat) : Int) := rfl
    have c3 : biN 4 = 127 := rfl
    have c4 : oneN 4 = 2 ^ 23 := by decide
    rewrite [c1, c2, c3, c4, w4 hk]
    exact shl_lt (x := 127 + k - 18) (s := 23) (mul_pow23 (by omega))
  · have c1 : (bif ((8 : Int) == 8) then (1023 : Int) else 127) = 1023 := rfl
    have c2 : (bif ((8 : Int) == 8) then (52 : Int) else 23) = ((52 : Nat) : Int) := rfl
    have c3 : biN 8 = 1023 := rfl
    have c4 : oneN 8 = 2 ^ 52 := by decide
    rewrite [c1, c2, c3, c4, w8 hk]
    exact shl_lt (x := 1023 + k - 18) (s := 52) (mul_pow52 (by omega))
theorem law_scales {n m by_ a b : Int} (ha : 0 ≤ a ∧ a < 18446744073709551616) (hb : 0 ≤ b ∧ b < 18446744073709551616) : p16 n m by_ a b = true ∧ r16_0 n m by_ a b = true := by
  obtain ⟨a, rfl, ka⟩ := u64_nat ha
  obtain ⟨b, rfl, kb⟩ := u64_nat hb
  obtain ⟨aw1, aw2⟩ := soft_awake
  have hs := size_is n
  obtain ⟨h0, h1⟩ := mode_is m
  generalize hS : r52_0 n = s at *
  generalize hR : r53_0 m = rm at *
  obtain ⟨k, hk, ek⟩ := tmod_20 by_
  obtain ⟨w1, w2, w3, w4, w5, w6, w7, w8⟩ := tw_at hs hk
  have e20 := tw_word hs hk
  have e19 : decide ((bif s == 8 then 52 else 23 : Int) ≥ 0) = true := by rcases hs with rfl | rfl <;> rfl
  obtain ⟨x0, x1, x2⟩ := smul_ok hs h0 h1 ka w1
  obtain ⟨y0, y1, y2⟩ := smul_ok hs h0 h1 kb w1
  obtain ⟨v0, v1, v2⟩ := sadd_ok hs h0 h1 ka kb
  have lt1 : ∀ F : Int → Nat × Nat, Shape s F → (F rm).1 < 18446744073709551616 := fun F hF => by
    obtain ⟨l1, l2⟩ := w_lt hs
    rcases hF with ⟨w, fl, hw, hf, e⟩ | e | ⟨mi, M, E, more, hM, hmore, e⟩
    · rw [e rm]; exact hw
    · rw [e rm]; exact (l2 _).2
    · rw [e rm]
      have := rnd_le hs (rm := rm) (mi := mi) (E := E) (more := more) hM
      have := (l2 mi).1
      show sgB s mi + _ < _
      omega
  have kx : (mulS s rm a (twN s k)).1 < 18446744073709551616 := lt1 _ (op_shape hs ka w1 w1 1)
  have ky : (mulS s rm b (twN s k)).1 < 18446744073709551616 := lt1 _ (op_shape hs kb w1 w1 1)
  have kv : (addS s rm a b).1 < 18446744073709551616 := lt1 _ (op_shape hs ka kb kb 0)
  have kw : (addS s rm (mulS s rm a (twN s k)).1 (mulS s rm b (twN s k)).1).1 < 18446744073709551616 := lt1 _ (op_shape hs kx ky ky 0)
  obtain ⟨u0, u1, u2⟩ := sadd_ok hs h0 h1 kx ky
  obtain ⟨z0, z1, z2⟩ := smul_ok hs h0 h1 kv w1
  obtain ⟨n1, n2⟩ := nan_ok hs kx
  obtain ⟨_, n3⟩ := nan_ok hs ky
  obtain ⟨i1, i2⟩ := inf_ok hs kx
  obtain ⟨_, i3⟩ := inf_ok hs ky
  obtain ⟨s1, s2⟩ := small_ok hs kv
  obtain ⟨_, s3⟩ := small_ok hs kw
  constructor
  · simp only [p16, hS, hR, ek, aw1, e19, e20, x0, x1, y0, y1, v0, v1, u0, z0, n1, i1, s1, ow_t]; rfl
  · have hend : r16_0 n m by_ a b = (r43_0 && end16 (nanN s (mulS s rm a (twN s k)).1) (nanN s (mulS s rm b (twN s k)).1) (infN s (mulS s rm a (twN s k)).1) (infN s (mulS s rm b (twN s k)).1) ((mulS s rm a (twN s k)).2 : Int) ((mulS s rm b (twN s k)).2 : Int)
        ((addS s rm a b).2 : Int) ((addS s rm (mulS s rm a (twN s k)).1 (mulS s rm b (twN s k)).1).2 : Int) ((mulS s rm (addS s rm a b).1 (twN s k)).2 : Int) (decide (magN s (addS s rm a b).1 < 2 ^ frN s)) (decide (magN s (addS s rm (mulS s rm a (twN s k)).1 (mulS s rm b (twN s k)).1).1 < 2 ^ frN s))
        ((mulS s rm (addS s rm a b).1 (twN s k)).1 : Int) ((addS s rm (mulS s rm a (twN s k)).1 (mulS s rm b (twN s k)).1).1 : Int)) := by
      simp only [r16_0, hS, hR, ek, e20, x1, x2, y1, y2, v1, v2, u1, u2, z1, z2, n2, n3, i2, i3, s2, s3, Bool.not_not]
      rfl
    rw [hend, aw2, Bool.true_and]
    have nz : ∀ k : Nat, ((k : Int) != 0) = !decide (k = 0) := fun k => by rw [Bool.eq_iff_iff]; simp only [bne_iff_ne, ne_eq, Bool.not_eq_true', decide_eq_false_iff_not]; omega
    unfold end16
    cases c1 : nanN s (mulS s rm a (twN s k)).1
    case true => rfl
    cases c2 : nanN s (mulS s rm b (twN s k)).1
    case true => rfl
    cases c3 : infN s (mulS s rm a (twN s k)).1
    case true => rfl
    cases c4 : infN s (mulS s rm b (twN s k)).1
    case true => rfl
    rw [nz, nz]
    by_cases c5 : (mulS s rm a (twN s k)).2 = 0
    case neg => rw [decide_eq_false c5]; rfl
    by_cases c6 : (mulS s rm b (twN s k)).2 = 0
    case neg => rw [decide_eq_true c5, decide_eq_false c6]; rfl
    rw [decide_eq_true c5, decide_eq_true c6]
    obtain ⟨a1, a2, _⟩ := mul_two hs ka hk c5 c1 c3
    obtain ⟨b1, b2, _⟩ := mul_two hs kb hk c6 c2 c4
    have fi : (addS s rm a b).2 = 0 ∨ (addS s rm a b).2 = 1 ∨ (addS s rm a b).2 = 3 ∨ (addS s rm a b).2 = 5 := by rw [add_fin hs a1 a2 b1 b2]; exact sum_fl hs
    have fj : (addS s rm (mulS s rm a (twN s k)).1 (mulS s rm b (twN s k)).1).2 = 0 ∨ (addS s rm (mulS s rm a (twN s k)).1 (mulS s rm b (twN s k)).1).2 = 1 ∨ (addS s rm (mulS s rm a (twN s k)).1 (mulS s rm b (twN s k)).1).2 = 3 ∨ (addS s rm (mulS s rm a (twN s k)).1 (mulS s rm b (twN s k)).1).2 = 5 := by rw [add_fin hs c1 c3 c2 c4]; exact sum_fl hs
    rw [low_fl fi, low_fl fj]
    by_cases c7 : (addS s rm a b).2 = 0 ∨ (addS s rm a b).2 = 1
    case neg => rw [decide_eq_false c7]; rfl
    by_cases c8 : (addS s rm (mulS s rm a (twN s k)).1 (mulS s rm b (twN s k)).1).2 = 0 ∨ (addS s rm (mulS s rm a (twN s k)).1 (mulS s rm b (twN s k)).1).2 = 1
    case neg => rw [decide_eq_true c7, decide_eq_false c8]; rfl
    rw [decide_eq_true c7, decide_eq_true c8]
    by_cases c9 : magN s (addS s rm a b).1 < 2 ^ frN s
    · rw [decide_eq_true c9]; simp
    · by_cases d1 : magN s (addS s rm (mulS s rm a (twN s k)).1 (mulS s rm b (twN s k)).1).1 < 2 ^ frN s
      · rw [decide_eq_true d1]; simp
      · obtain ⟨m1, m2⟩ := scales hs ka kb hk c5 c1 c3 c6 c2 c4 c7 c8 (by omega) (by omega)
        rw [m1, m2]; simp
end Go.Proofs.Ytacciadcmiiimaa

namespace Go.Proofs.Ytacciadcmiiimaa
open Go Go.Sx
set_option maxRecDepth 100000
set_option maxHeartbeats 4000000
theorem ev98 : evFn Try.prog S98 2000 Try.f98 s98 = some o98 := by kernel_rfl
theorem ev93 : evFn Try.prog S93 2000 Try.f93 s93 = some o93 := by kernel_rfl
theorem ev44 : evFn Try.prog S44 2000 Try.f44 s44 = some o44 := by kernel_rfl
theorem ev35 : evFn Try.prog S35 2000 Try.f35 s35 = some o35 := by kernel_rfl
theorem ev68 : evFn Try.prog S68 2000 Try.f68 s68 = some o68 := by kernel_rfl
theorem ev97 : evFn Try.prog S97 2000 Try.f97 s97 = some o97 := by kernel_rfl
theorem ev39 : evFn Try.prog S39 2000 Try.f39 s39 = some o39 := by kernel_rfl
theorem ev87 : evFn Try.prog S87 2000 Try.f87 s87 = some o87 := by kernel_rfl
theorem ev83 : evFn Try.prog S83 2000 Try.f83 s83 = some o83 := by kernel_rfl
theorem ev95 : evFn Try.prog S95 2000 Try.f95 s95 = some o95 := by kernel_rfl
theorem ev115 : evFn Try.prog S115 2000 Try.f115 s115 = some o115 := by kernel_rfl
theorem ev52 : evFn Try.prog S52 2000 Try.f52 s52 = some o52 := by kernel_rfl
end Go.Proofs.Ytacciadcmiiimaa

namespace Go.Proofs.Ytacciadcmiiimaa
open Go Go.Sx
set_option maxRecDepth 100000
set_option maxHeartbeats 4000000
theorem ev107 : evFn Try.prog S107 2000 Try.f107 s107 = some o107 := by kernel_rfl
theorem ev78 : evFn Try.prog S78 2000 Try.f78 s78 = some o78 := by kernel_rfl
theorem ev37 : evFn Try.prog S37 2000 Try.f37 s37 = some o37 := by kernel_rfl
theorem ev57 : evFn Try.prog S57 2000 Try.f57 s57 = some o57 := by kernel_rfl
theorem ev92 : evFn Try.prog S92 2000 Try.f92 s92 = some o92 := by kernel_rfl
theorem ev63 : evFn Try.prog S63 2000 Try.f63 s63 = some o63 := by kernel_rfl
theorem ev82 : evFn Try.prog S82 2000 Try.f82 s82 = some o82 := by kernel_rfl
end Go.Proofs.Ytacciadcmiiimaa

namespace Go.Proofs.Ytacciadcmiiimaa
open Go Go.Sx
set_option maxRecDepth 100000
set_option maxHeartbeats 4000000
theorem ev102 : evFn Try.prog S102 2000 Try.f102 s102 = some o102 := by kernel_rfl
theorem ev46 : evFn Try.prog S46 2000 Try.f46 s46 = some o46 := by kernel_rfl
theorem ev20 : evFn Try.prog S20 2000 Try.f20 s20 = some o20 := by kernel_rfl
theorem ev70 : evFn Try.prog S70 2000 Try.f70 s70 = some o70 := by kernel_rfl
theorem ev33 : evFn Try.prog S33 2000 Try.f33 s33 = some o33 := by kernel_rfl
theorem ev59 : evFn Try.prog S59 2000 Try.f59 s59 = some o59 := by kernel_rfl
theorem ev108 : evFn Try.prog S108 2000 Try.f108 s108 = some o108 := by kernel_rfl
theorem ev23 : evFn Try.prog S23 2000 Try.f23 s23 = some o23 := by kernel_rfl
theorem ev120 : evFn Try.prog S120 2000 Try.f120 s120 = some o120 := by kernel_rfl
theorem ev91 : evFn Try.prog S91 2000 Try.f91 s91 = some o91 := by kernel_rfl
theorem ev42 : evFn Try.prog S42 2000 Try.f42 s42 = some o42 := by kernel_rfl
theorem ev53 : evFn Try.prog S53 2000 Try.f53 s53 = some o53 := by kernel_rfl
end Go.Proofs.Ytacciadcmiiimaa

namespace Go.Proofs.Ytacciadcmiiimaa
open Go Go.Sx
set_option maxRecDepth 100000
set_option maxHeartbeats 4000000
theorem ev48 : evFn Try.prog S48 2000 Try.f48 s48 = some o48 := by kernel_rfl
theorem ev25 : evFn Try.prog S25 2000 Try.f25 s25 = some o25 := by kernel_rfl
theorem ev19 : evFn Try.prog S19 2000 Try.f19 s19 = some o19 := by kernel_rfl
theorem ev69 : evFn Try.prog S69 2000 Try.f69 s69 = some o69 := by kernel_rfl
theorem ev43 : evFn Try.prog S43 2000 Try.f43 s43 = some o43 := by kernel_rfl
theorem ev90 : evFn Try.prog S90 2000 Try.f90 s90 = some o90 := by kernel_rfl
theorem ev56 : evFn Try.prog S56 2000 Try.f56 s56 = some o56 := by kernel_rfl
theorem ev64 : evFn Try.prog S64 2000 Try.f64 s64 = some o64 := by kernel_rfl
theorem ev65 : evFn Try.prog S65 2000 Try.f65 s65 = some o65 := by kernel_rfl
end Go.Proofs.Ytacciadcmiiimaa

namespace Go.Proofs.Ytacciadcmiiimaa
open Go Go.Sx
set_option maxRecDepth 100000
set_option maxHeartbeats 4000000
theorem ev50 : evFn Try.prog S50 2000 Try.f50 s50 = some o50 := by kernel_rfl
theorem ev54 : evFn Try.prog S54 2000 Try.f54 s54 = some o54 := by kernel_rfl
theorem ev94 : evFn Try.prog S94 2000 Try.f94 s94 = some o94 := by kernel_rfl
theorem ev29 : evFn Try.prog S29 2000 Try.f29 s29 = some o29 := by kernel_rfl
theorem ev27 : evFn Try.prog S27 2000 Try.f27 s27 = some o27 := by kernel_rfl
theorem ev122 : evFn Try.prog S122 2000 Try.f122 s122 = some o122 := by kernel_rfl
theorem ev106 : evFn Try.prog S106 2000 Try.f106 s106 = some o106 := by kernel_rfl
theorem ev66 : evFn Try.prog S66 2000 Try.f66 s66 = some o66 := by kernel_rfl
theorem ev86 : evFn Try.prog S86 2000 Try.f86 s86 = some o86 := by kernel_rfl
theorem ev21 : evFn Try.prog S21 2000 Try.f21 s21 = some o21 := by kernel_rfl
end Go.Proofs.Ytacciadcmiiimaa

namespace Go.Proofs.Ytacciadcmiiimaa
open Go Go.Sx
set_option maxRecDepth 100000
set_option maxHeartbeats 4000000
theorem ev16 : evFn Try.prog S16 2000 Try.f16 s16 = some o16 := by kernel_rfl
theorem ev123 : evFn Try.prog S123 2000 Try.f123 s123 = some o123 := by kernel_rfl
theorem ev67 : evFn Try.prog S67 2000 Try.f67 s67 = some o67 := by kernel_rfl
theorem ev31 : evFn Try.prog S31 2000 Try.f31 s31 = some o31 := by kernel_rfl
theorem ev127 : evFn Try.prog S127 2000 Try.f127 s127 = some o127 := by kernel_rfl
theorem ev121 : evFn Try.prog S121 2000 Try.f121 s121 = some o121 := by kernel_rfl
theorem ev62 : evFn Try.prog S62 2000 Try.f62 s62 = some o62 := by kernel_rfl
theorem ev96 : evFn Try.prog S96 2000 Try.f96 s96 = some o96 := by kernel_rfl
theorem ev89 : evFn Try.prog S89 2000 Try.f89 s89 = some o89 := by kernel_rfl
end Go.Proofs.Ytacciadcmiiimaa

