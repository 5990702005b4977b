/- The plain law of PmpBehind: behind the entry that decides nothing counts. -/
import Derived.Test.YtoebecinndbnoaaDoorPmV
namespace Go.Proofs.YtoebecinndbnoaaDoor
open Go Go.Sx
set_option maxRecDepth 100000

/-- An entry by its own setting c, its address a and the one ahead of it e: g: it is not the first. -/
noncomputable def loE (g : Bool) (c a e : Int) : Int := lo8 true (r17_0 c == 1) (r17_0 c == 2) (r17_0 c == 3) g (iland .u64 a 18014398509481983) (iland .u64 e 18014398509481983)
noncomputable def hiE (g : Bool) (c a e : Int) : Int := hi8 true (r17_0 c == 1) (r17_0 c == 2) (r17_0 c == 3) g (iland .u64 a 18014398509481983) (iland .u64 e 18014398509481983)
noncomputable def okE (g : Bool) (c a e : Int) : Bool := ok8 true (r17_0 c == 1) (r17_0 c == 2) (r17_0 c == 3) g (iland .u64 a 18014398509481983) (iland .u64 e 18014398509481983)
noncomputable def hitE (g : Bool) (c a e at0 last : Int) : Bool := hit8 (loE g c a e) (hiE g c a e) (okE g c a e) at0 last
noncomputable def sayE (g : Bool) (c a e at0 last : Int) (m3 : Bool) (need : Int) : Bool := say8 (loE g c a e) (hiE g c a e) at0 last m3 c need
/-- What PmpBehind asks of an entry that is hit: Cm: the answer with others behind it; C: the answer; CM: the answer in mode M. -/
noncomputable def bE (lo hi at0 last : Int) (Cm C CM : Bool) (c sz : Int) : Bool :=
  bif (decide (at0 ≥ lo) && decide (last ≤ hi)) && !(decide (at0 < lo) || decide (last > hi)) then !(Cm != C) && !((((iland .u8 c 128 == 0) && sz != 3) && decide (sz < 5)) && !CM) else true
def behind (h0 h1 h2 h3 h4 h5 h6 h7 b0 b1 b2 b3 b4 b5 b6 b7 : Bool) : Bool :=
  bif !h0 then bif !h1 then bif !h2 then bif !h3 then bif !h4 then bif !h5 then bif !h6 then !h7 || b7 else b6 else b5 else b4 else b3 else b2 else b1 else b0
def pre6 (kind at0 sz : Int) : Bool := (((decide (sz < 1) || decide (sz > 8)) || decide (at0 > 9223372036854775808)) || decide (kind < 0)) || decide (kind > 3)

theorem r11_ent (x0 x1 x2 x3 x4 x5 x6 x7 x8 x9 x10 x11 x12 x13 x14 x15 mode kind at0 sz : Int) : r11_0 x0 x1 x2 x3 x4 x5 x6 x7 x8 x9 x10 x11 x12 x13 x14 x15 mode kind at0 sz = (size_ok sz && (may8 kind at0 sz && dec8 (mode == 3) (hitE false x0 x8 x8 at0 (last8 at0 sz)) (hitE true x1 x9 x8 at0 (last8 at0 sz)) (hitE true x2 x10 x9 at0 (last8 at0 sz)) (hitE true x3 x11 x10 at0 (last8 at0 sz)) (hitE true x4 x12 x11 at0 (last8 at0 sz)) (hitE true x5 x13 x12 at0 (last8 at0 sz)) (hitE true x6 x14 x13 at0 (last8 at0 sz)) (hitE true x7 x15 x14 at0 (last8 at0 sz)) (sayE false x0 x8 x8 at0 (last8 at0 sz) (mode == 3) (r21_0 kind)) (sayE true x1 x9 x8 at0 (last8 at0 sz) (mode == 3) (r21_0 kind)) (sayE true x2 x10 x9 at0 (last8 at0 sz) (mode == 3) (r21_0 kind)) (sayE true x3 x11 x10 at0 (last8 at0 sz) (mode == 3) (r21_0 kind)) (sayE true x4 x12 x11 at0 (last8 at0 sz) (mode == 3) (r21_0 kind)) (sayE true x5 x13 x12 at0 (last8 at0 sz) (mode == 3) (r21_0 kind)) (sayE true x6 x14 x13 at0 (last8 at0 sz) (mode == 3) (r21_0 kind)) (sayE true x7 x15 x14 at0 (last8 at0 sz) (mode == 3) (r21_0 kind)))) := by
  rw [r11_eq]; rfl
theorem r6_ent (x0 x1 x2 x3 x4 x5 x6 x7 x8 x9 x10 x11 x12 x13 x14 x15 x16 x17 x18 x19 x20 x21 x22 x23 x24 x25 x26 x27 x28 x29 x30 x31 x32 x33 x34 x35 : Int) : r6_0 x0 x1 x2 x3 x4 x5 x6 x7 x8 x9 x10 x11 x12 x13 x14 x15 x16 x17 x18 x19 x20 x21 x22 x23 x24 x25 x26 x27 x28 x29 x30 x31 x32 x33 x34 x35 = (!(!r10_0) && (bif !(pre6 x33 x34 x35) then behind (hitE false x0 x8 x8 x34 (last8 x34 x35)) (hitE true x1 x9 x8 x34 (last8 x34 x35)) (hitE true x2 x10 x9 x34 (last8 x34 x35)) (hitE true x3 x11 x10 x34 (last8 x34 x35)) (hitE true x4 x12 x11 x34 (last8 x34 x35)) (hitE true x5 x13 x12 x34 (last8 x34 x35)) (hitE true x6 x14 x13 x34 (last8 x34 x35)) (hitE true x7 x15 x14 x34 (last8 x34 x35)) (bE (loE false x0 x8 x8) (hiE false x0 x8 x8) x34 (last8 x34 x35) (r11_0 x0 x17 x18 x19 x20 x21 x22 x23 x8 x25 x26 x27 x28 x29 x30 x31 x32 x33 x34 x35) (r11_0 x0 x1 x2 x3 x4 x5 x6 x7 x8 x9 x10 x11 x12 x13 x14 x15 x32 x33 x34 x35) (r11_0 x0 x1 x2 x3 x4 x5 x6 x7 x8 x9 x10 x11 x12 x13 x14 x15 3 x33 x34 x35) x0 x35) (bE (loE true x1 x9 x8) (hiE true x1 x9 x8) x34 (last8 x34 x35) (r11_0 x0 x1 x18 x19 x20 x21 x22 x23 x8 x9 x26 x27 x28 x29 x30 x31 x32 x33 x34 x35) (r11_0 x0 x1 x2 x3 x4 x5 x6 x7 x8 x9 x10 x11 x12 x13 x14 x15 x32 x33 x34 x35) (r11_0 x0 x1 x2 x3 x4 x5 x6 x7 x8 x9 x10 x11 x12 x13 x14 x15 3 x33 x34 x35) x1 x35) (bE (loE true x2 x10 x9) (hiE true x2 x10 x9) x34 (last8 x34 x35) (r11_0 x0 x1 x2 x19 x20 x21 x22 x23 x8 x9 x10 x27 x28 x29 x30 x31 x32 x33 x34 x35) (r11_0 x0 x1 x2 x3 x4 x5 x6 x7 x8 x9 x10 x11 x12 x13 x14 x15 x32 x33 x34 x35) (r11_0 x0 x1 x2 x3 x4 x5 x6 x7 x8 x9 x10 x11 x12 x13 x14 x15 3 x33 x34 x35) x2 x35) (bE (loE true x3 x11 x10) (hiE true x3 x11 x10) x34 (last8 x34 x35) (r11_0 x0 x1 x2 x3 x20 x21 x22 x23 x8 x9 x10 x11 x28 x29 x30 x31 x32 x33 x34 x35) (r11_0 x0 x1 x2 x3 x4 x5 x6 x7 x8 x9 x10 x11 x12 x13 x14 x15 x32 x33 x34 x35) (r11_0 x0 x1 x2 x3 x4 x5 x6 x7 x8 x9 x10 x11 x12 x13 x14 x15 3 x33 x34 x35) x3 x35) (bE (loE true x4 x12 x11) (hiE true x4 x12 x11) x34 (last8 x34 x35) (r11_0 x0 x1 x2 x3 x4 x21 x22 x23 x8 x9 x10 x11 x12 x29 x30 x31 x32 x33 x34 x35) (r11_0 x0 x1 x2 x3 x4 x5 x6 x7 x8 x9 x10 x11 x12 x13 x14 x15 x32 x33 x34 x35) (r11_0 x0 x1 x2 x3 x4 x5 x6 x7 x8 x9 x10 x11 x12 x13 x14 x15 3 x33 x34 x35) x4 x35) (bE (loE true x5 x13 x12) (hiE true x5 x13 x12) x34 (last8 x34 x35) (r11_0 x0 x1 x2 x3 x4 x5 x22 x23 x8 x9 x10 x11 x12 x13 x30 x31 x32 x33 x34 x35) (r11_0 x0 x1 x2 x3 x4 x5 x6 x7 x8 x9 x10 x11 x12 x13 x14 x15 x32 x33 x34 x35) (r11_0 x0 x1 x2 x3 x4 x5 x6 x7 x8 x9 x10 x11 x12 x13 x14 x15 3 x33 x34 x35) x5 x35) (bE (loE true x6 x14 x13) (hiE true x6 x14 x13) x34 (last8 x34 x35) (r11_0 x0 x1 x2 x3 x4 x5 x6 x23 x8 x9 x10 x11 x12 x13 x14 x31 x32 x33 x34 x35) (r11_0 x0 x1 x2 x3 x4 x5 x6 x7 x8 x9 x10 x11 x12 x13 x14 x15 x32 x33 x34 x35) (r11_0 x0 x1 x2 x3 x4 x5 x6 x7 x8 x9 x10 x11 x12 x13 x14 x15 3 x33 x34 x35) x6 x35) (bE (loE true x7 x15 x14) (hiE true x7 x15 x14) x34 (last8 x34 x35) (r11_0 x0 x1 x2 x3 x4 x5 x6 x7 x8 x9 x10 x11 x12 x13 x14 x15 x32 x33 x34 x35) (r11_0 x0 x1 x2 x3 x4 x5 x6 x7 x8 x9 x10 x11 x12 x13 x14 x15 x32 x33 x34 x35) (r11_0 x0 x1 x2 x3 x4 x5 x6 x7 x8 x9 x10 x11 x12 x13 x14 x15 3 x33 x34 x35) x7 x35) else true)) := rfl

theorem bE_ok {kind lo hi at0 sz c : Int} {S m3 ok Cm C CM : Bool} (hat : 0 ≤ at0) (hp : pre6 kind at0 sz = false) (_hh : hit8 lo hi ok at0 (last8 at0 sz) = true) (hS : S = (size_ok sz && may8 kind at0 sz))
    (h1 : Cm = (S && say8 lo hi at0 (last8 at0 sz) m3 c (r21_0 kind))) (h2 : C = (S && say8 lo hi at0 (last8 at0 sz) m3 c (r21_0 kind))) (h3 : CM = (S && say8 lo hi at0 (last8 at0 sz) true c (r21_0 kind))) :
    bE lo hi at0 (last8 at0 sz) Cm C CM c sz = true := by
  rw [bE, h1, h2, h3]
  cases hi' : ((decide (at0 ≥ lo) && decide (last8 at0 sz ≤ hi)) && !(decide (at0 < lo) || decide (last8 at0 sz > hi))) with
  | false => rfl
  | true =>
    rw [cond_true, bne_self_eq_false, Bool.not_false, Bool.true_and]
    cases hl : (((iland .u8 c 128 == 0) && sz != 3) && decide (sz < 5)) with
    | false => rfl
    | true =>
      simp only [Bool.and_eq_true] at hl hi'
      obtain ⟨⟨hl0, hl1⟩, hl2⟩ := hl
      have hs : S = true := by
        rw [hS]
        simp only [pre6, Bool.or_eq_false_iff, decide_eq_false_iff_not] at hp
        have hz : sz = 1 ∨ sz = 2 ∨ sz = 4 := by
          have : sz ≠ 3 := by simpa using hl1
          have : sz < 5 := by simpa using hl2
          omega
        have e1 : size_ok sz = true := by obtain rfl | rfl | rfl := hz <;> rfl
        have e2 : last8 at0 sz = at0 + (sz - 1) := by
          unfold last8
          rw [wrap_u64 sz, wrap_u64, wrap_u64]
          omega
        rw [e1, may8, e2, need_0]
        simp
        omega
      rw [hs, say8, hi'.2, hl0]
      rfl

theorem behind_ok {x0 x1 x2 x3 x4 x5 x6 x7 x8 x9 x10 x11 x12 x13 x14 x15 x16 x17 x18 x19 x20 x21 x22 x23 x24 x25 x26 x27 x28 x29 x30 x31 x32 x33 x34 x35 : Int} (hat : 0 ≤ x34) : r6_0 x0 x1 x2 x3 x4 x5 x6 x7 x8 x9 x10 x11 x12 x13 x14 x15 x16 x17 x18 x19 x20 x21 x22 x23 x24 x25 x26 x27 x28 x29 x30 x31 x32 x33 x34 x35 = true := by
  rw [r6_ent, r10_ok]
  cases hp : pre6 x33 x34 x35
  · rw [Bool.not_true, Bool.not_false, Bool.true_and, cond_true, behind]
    cases H0 : hitE false x0 x8 x8 x34 (last8 x34 x35)
    rotate_left
    · exact bE_ok (m3 := x32 == 3) hat hp H0 rfl ((r11_ent x0 x17 x18 x19 x20 x21 x22 x23 x8 x25 x26 x27 x28 x29 x30 x31 x32 x33 x34 x35).trans (by rw [H0, ← Bool.and_assoc]; rfl)) ((r11_ent x0 x1 x2 x3 x4 x5 x6 x7 x8 x9 x10 x11 x12 x13 x14 x15 x32 x33 x34 x35).trans (by rw [H0, ← Bool.and_assoc]; rfl)) ((r11_ent x0 x1 x2 x3 x4 x5 x6 x7 x8 x9 x10 x11 x12 x13 x14 x15 3 x33 x34 x35).trans (by rw [H0, ← Bool.and_assoc]; rfl))
    cases H1 : hitE true x1 x9 x8 x34 (last8 x34 x35)
    rotate_left
    · exact bE_ok (m3 := x32 == 3) hat hp H1 rfl ((r11_ent x0 x1 x18 x19 x20 x21 x22 x23 x8 x9 x26 x27 x28 x29 x30 x31 x32 x33 x34 x35).trans (by rw [H0, H1, ← Bool.and_assoc]; rfl)) ((r11_ent x0 x1 x2 x3 x4 x5 x6 x7 x8 x9 x10 x11 x12 x13 x14 x15 x32 x33 x34 x35).trans (by rw [H0, H1, ← Bool.and_assoc]; rfl)) ((r11_ent x0 x1 x2 x3 x4 x5 x6 x7 x8 x9 x10 x11 x12 x13 x14 x15 3 x33 x34 x35).trans (by rw [H0, H1, ← Bool.and_assoc]; rfl))
    cases H2 : hitE true x2 x10 x9 x34 (last8 x34 x35)
    rotate_left
    · exact bE_ok (m3 := x32 == 3) hat hp H2 rfl ((r11_ent x0 x1 x2 x19 x20 x21 x22 x23 x8 x9 x10 x27 x28 x29 x30 x31 x32 x33 x34 x35).trans (by rw [H0, H1, H2, ← Bool.and_assoc]; rfl)) ((r11_ent x0 x1 x2 x3 x4 x5 x6 x7 x8 x9 x10 x11 x12 x13 x14 x15 x32 x33 x34 x35).trans (by rw [H0, H1, H2, ← Bool.and_assoc]; rfl)) ((r11_ent x0 x1 x2 x3 x4 x5 x6 x7 x8 x9 x10 x11 x12 x13 x14 x15 3 x33 x34 x35).trans (by rw [H0, H1, H2, ← Bool.and_assoc]; rfl))
    cases H3 : hitE true x3 x11 x10 x34 (last8 x34 x35)
    rotate_left
    · exact bE_ok (m3 := x32 == 3) hat hp H3 rfl ((r11_ent x0 x1 x2 x3 x20 x21 x22 x23 x8 x9 x10 x11 x28 x29 x30 x31 x32 x33 x34 x35).trans (by rw [H0, H1, H2, H3, ← Bool.and_assoc]; rfl)) ((r11_ent x0 x1 x2 x3 x4 x5 x6 x7 x8 x9 x10 x11 x12 x13 x14 x15 x32 x33 x34 x35).trans (by rw [H0, H1, H2, H3, ← Bool.and_assoc]; rfl)) ((r11_ent x0 x1 x2 x3 x4 x5 x6 x7 x8 x9 x10 x11 x12 x13 x14 x15 3 x33 x34 x35).trans (by rw [H0, H1, H2, H3, ← Bool.and_assoc]; rfl))
    cases H4 : hitE true x4 x12 x11 x34 (last8 x34 x35)
    rotate_left
    · exact bE_ok (m3 := x32 == 3) hat hp H4 rfl ((r11_ent x0 x1 x2 x3 x4 x21 x22 x23 x8 x9 x10 x11 x12 x29 x30 x31 x32 x33 x34 x35).trans (by rw [H0, H1, H2, H3, H4, ← Bool.and_assoc]; rfl)) ((r11_ent x0 x1 x2 x3 x4 x5 x6 x7 x8 x9 x10 x11 x12 x13 x14 x15 x32 x33 x34 x35).trans (by rw [H0, H1, H2, H3, H4, ← Bool.and_assoc]; rfl)) ((r11_ent x0 x1 x2 x3 x4 x5 x6 x7 x8 x9 x10 x11 x12 x13 x14 x15 3 x33 x34 x35).trans (by rw [H0, H1, H2, H3, H4, ← Bool.and_assoc]; rfl))
    cases H5 : hitE true x5 x13 x12 x34 (last8 x34 x35)
    rotate_left
    · exact bE_ok (m3 := x32 == 3) hat hp H5 rfl ((r11_ent x0 x1 x2 x3 x4 x5 x22 x23 x8 x9 x10 x11 x12 x13 x30 x31 x32 x33 x34 x35).trans (by rw [H0, H1, H2, H3, H4, H5, ← Bool.and_assoc]; rfl)) ((r11_ent x0 x1 x2 x3 x4 x5 x6 x7 x8 x9 x10 x11 x12 x13 x14 x15 x32 x33 x34 x35).trans (by rw [H0, H1, H2, H3, H4, H5, ← Bool.and_assoc]; rfl)) ((r11_ent x0 x1 x2 x3 x4 x5 x6 x7 x8 x9 x10 x11 x12 x13 x14 x15 3 x33 x34 x35).trans (by rw [H0, H1, H2, H3, H4, H5, ← Bool.and_assoc]; rfl))
    cases H6 : hitE true x6 x14 x13 x34 (last8 x34 x35)
    rotate_left
    · exact bE_ok (m3 := x32 == 3) hat hp H6 rfl ((r11_ent x0 x1 x2 x3 x4 x5 x6 x23 x8 x9 x10 x11 x12 x13 x14 x31 x32 x33 x34 x35).trans (by rw [H0, H1, H2, H3, H4, H5, H6, ← Bool.and_assoc]; rfl)) ((r11_ent x0 x1 x2 x3 x4 x5 x6 x7 x8 x9 x10 x11 x12 x13 x14 x15 x32 x33 x34 x35).trans (by rw [H0, H1, H2, H3, H4, H5, H6, ← Bool.and_assoc]; rfl)) ((r11_ent x0 x1 x2 x3 x4 x5 x6 x7 x8 x9 x10 x11 x12 x13 x14 x15 3 x33 x34 x35).trans (by rw [H0, H1, H2, H3, H4, H5, H6, ← Bool.and_assoc]; rfl))
    cases H7 : hitE true x7 x15 x14 x34 (last8 x34 x35)
    rotate_left
    · exact bE_ok (m3 := x32 == 3) hat hp H7 rfl ((r11_ent x0 x1 x2 x3 x4 x5 x6 x7 x8 x9 x10 x11 x12 x13 x14 x15 x32 x33 x34 x35).trans (by rw [H0, H1, H2, H3, H4, H5, H6, H7, ← Bool.and_assoc]; rfl)) ((r11_ent x0 x1 x2 x3 x4 x5 x6 x7 x8 x9 x10 x11 x12 x13 x14 x15 x32 x33 x34 x35).trans (by rw [H0, H1, H2, H3, H4, H5, H6, H7, ← Bool.and_assoc]; rfl)) ((r11_ent x0 x1 x2 x3 x4 x5 x6 x7 x8 x9 x10 x11 x12 x13 x14 x15 3 x33 x34 x35).trans (by rw [H0, H1, H2, H3, H4, H5, H6, H7, ← Bool.and_assoc]; rfl))
    rfl
  · rfl
theorem behind_p {x0 x1 x2 x3 x4 x5 x6 x7 x8 x9 x10 x11 x12 x13 x14 x15 x16 x17 x18 x19 x20 x21 x22 x23 x24 x25 x26 x27 x28 x29 x30 x31 x32 x33 x34 x35 : Int} (h8 : R64 x8) (h9 : R64 x9) (h10 : R64 x10) (h11 : R64 x11) (h12 : R64 x12) (h13 : R64 x13) (h14 : R64 x14) (h15 : R64 x15) (h25 : R64 x25) (h26 : R64 x26) (h27 : R64 x27) (h28 : R64 x28) (h29 : R64 x29) (h30 : R64 x30) (h31 : R64 x31) : p6 x0 x1 x2 x3 x4 x5 x6 x7 x8 x9 x10 x11 x12 x13 x14 x15 x16 x17 x18 x19 x20 x21 x22 x23 x24 x25 x26 x27 x28 x29 x30 x31 x32 x33 x34 x35 = true := by
  have e : ∀ n : Int, p8 x0 x1 x2 x3 x4 x5 x6 x7 x8 x9 x10 x11 x12 x13 x14 x15 n = true := fun n => (range_p h8 h9 h10 h11 h12 h13 h14 h15).1
  have b : ∀ m k at0 sz : Int, p11 x0 x1 x2 x3 x4 x5 x6 x7 x8 x9 x10 x11 x12 x13 x14 x15 m k at0 sz = true := fun m k at0 sz => p11_ok h8 h9 h10 h11 h12 h13 h14 h15
  have b0 : ∀ m k at0 sz : Int, p11 x0 x17 x18 x19 x20 x21 x22 x23 x8 x25 x26 x27 x28 x29 x30 x31 m k at0 sz = true := fun m k at0 sz => p11_ok h8 h25 h26 h27 h28 h29 h30 h31
  have b1 : ∀ m k at0 sz : Int, p11 x0 x1 x18 x19 x20 x21 x22 x23 x8 x9 x26 x27 x28 x29 x30 x31 m k at0 sz = true := fun m k at0 sz => p11_ok h8 h9 h26 h27 h28 h29 h30 h31
  have b2 : ∀ m k at0 sz : Int, p11 x0 x1 x2 x19 x20 x21 x22 x23 x8 x9 x10 x27 x28 x29 x30 x31 m k at0 sz = true := fun m k at0 sz => p11_ok h8 h9 h10 h27 h28 h29 h30 h31
  have b3 : ∀ m k at0 sz : Int, p11 x0 x1 x2 x3 x20 x21 x22 x23 x8 x9 x10 x11 x28 x29 x30 x31 m k at0 sz = true := fun m k at0 sz => p11_ok h8 h9 h10 h11 h28 h29 h30 h31
  have b4 : ∀ m k at0 sz : Int, p11 x0 x1 x2 x3 x4 x21 x22 x23 x8 x9 x10 x11 x12 x29 x30 x31 m k at0 sz = true := fun m k at0 sz => p11_ok h8 h9 h10 h11 h12 h29 h30 h31
  have b5 : ∀ m k at0 sz : Int, p11 x0 x1 x2 x3 x4 x5 x22 x23 x8 x9 x10 x11 x12 x13 x30 x31 m k at0 sz = true := fun m k at0 sz => p11_ok h8 h9 h10 h11 h12 h13 h30 h31
  have b6 : ∀ m k at0 sz : Int, p11 x0 x1 x2 x3 x4 x5 x6 x23 x8 x9 x10 x11 x12 x13 x14 x31 m k at0 sz = true := fun m k at0 sz => p11_ok h8 h9 h10 h11 h12 h13 h14 h31
  simp only [p6, p10_ok, e, b, b0, b1, b2, b3, b4, b5, b6, ow_t, List.all_cons, List.all_nil, id, Bool.and_self]
end Go.Proofs.YtoebecinndbnoaaDoor
