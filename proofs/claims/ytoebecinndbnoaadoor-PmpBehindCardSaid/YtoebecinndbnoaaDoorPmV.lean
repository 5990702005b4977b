/- The plain law of PmpChecks: the first entry that is hit decides, on both sides. -/
import Derived.Test.YtoebecinndbnoaaDoorPmU
namespace Go.Proofs.YtoebecinndbnoaaDoor
open Go Go.Sx
set_option maxRecDepth 100000

/-- Eight entries: which are hit, and what each says; m: what is said where none is. -/
def dec8 (m h0 h1 h2 h3 h4 h5 h6 h7 v0 v1 v2 v3 v4 v5 v6 v7 : Bool) : Bool :=
  bif !h0 && (!h1 && (!h2 && (!h3 && (!h4 && (!h5 && (!h6 && !h7)))))) then m else bif !h0 then bif !h1 then bif !h2 then bif !h3 then bif !h4 then bif !h5 then bif !h6 then v7 else v6 else v5 else v4 else v3 else v2 else v1 else v0
theorem dec8_congr {m h0 h1 h2 h3 h4 h5 h6 h7 v0 v1 v2 v3 v4 v5 v6 v7 w0 w1 w2 w3 w4 w5 w6 w7 : Bool}
    (e0 : h0 = true → v0 = w0) (e1 : h1 = true → v1 = w1) (e2 : h2 = true → v2 = w2) (e3 : h3 = true → v3 = w3) (e4 : h4 = true → v4 = w4) (e5 : h5 = true → v5 = w5) (e6 : h6 = true → v6 = w6) (e7 : h7 = true → v7 = w7) :
    dec8 m h0 h1 h2 h3 h4 h5 h6 h7 v0 v1 v2 v3 v4 v5 v6 v7 = dec8 m h0 h1 h2 h3 h4 h5 h6 h7 w0 w1 w2 w3 w4 w5 w6 w7 := by
  unfold dec8
  cases h0
  · cases h1
    · cases h2
      · cases h3
        · cases h4
          · cases h5
            · cases h6
              · cases h7
                · rfl
                · rw [e7 rfl]; rfl
              · rw [e6 rfl]; rfl
            · rw [e5 rfl]; rfl
          · rw [e4 rfl]; rfl
        · rw [e3 rfl]; rfl
      · rw [e2 rfl]; rfl
    · rw [e1 rfl]; rfl
  · rw [e0 rfl]; rfl

/-- Is an entry hit, and what does it say: as the program has them. -/
def hit8 (lo hi : Int) (ok : Bool) (at0 last : Int) : Bool := !((!ok || decide (last < lo)) || decide (at0 > hi))
noncomputable def say8 (lo hi : Int) (at0 last : Int) (m3 : Bool) (c need : Int) : Bool := !(decide (at0 < lo) || decide (last > hi)) && ((m3 && (iland .u8 c 128 == 0)) || (iland .u8 c need == need))
/-- The same as the document has them. -/
noncomputable def hit9 (sz lo : Int) (ok : Bool) (at0 hi : Int) : Bool := !(!(r101202_1 sz lo ok at0 hi false true 0))
noncomputable def say9 (sz lo : Int) (ok : Bool) (at0 hi : Int) (m3 : Bool) (c kind : Int) : Bool := r101202_2 sz lo ok at0 hi false true 0 && ((m3 && !(r22_0 c 7)) || r23_0 c kind)
noncomputable def last8 (at0 sz : Int) : Int := IntKind.wrap .u64 (IntKind.wrap .u64 (at0 + IntKind.wrap .u64 sz) - 1)
noncomputable def may8 (kind at0 sz : Int) : Bool := !((r21_0 kind == 0) || decide (last8 at0 sz < at0))
def size_ok (sz : Int) : Bool := bif sz == 1 then sz == 1 else bif sz == 2 then sz == 2 else bif sz == 4 then sz == 4 else sz == 8
noncomputable def may9 (kind at0 sz : Int) : Bool := !(((decide (kind < 0) || decide (kind > 3)) || (((sz != 1 && sz != 2) && sz != 4) && sz != 8)) || decide (at0 > IntKind.wrap .u64 (18446744073709551615 - IntKind.wrap .u64 (IntKind.wrap .i64 (sz - 1)))))
section
variable (x0 x1 x2 x3 x4 x5 x6 x7 x8 x9 x10 x11 x12 x13 x14 x15 mode kind at0 sz : Int)
theorem r11_eq : r11_0 x0 x1 x2 x3 x4 x5 x6 x7 x8 x9 x10 x11 x12 x13 x14 x15 mode kind at0 sz = (size_ok sz && (may8 kind at0 sz && dec8 (mode == 3) (hit8 (r8_0 x0 x1 x2 x3 x4 x5 x6 x7 x8 x9 x10 x11 x12 x13 x14 x15 0) (r8_1 x0 x1 x2 x3 x4 x5 x6 x7 x8 x9 x10 x11 x12 x13 x14 x15 0) (r8_2 x0 x1 x2 x3 x4 x5 x6 x7 x8 x9 x10 x11 x12 x13 x14 x15 0) at0 (last8 at0 sz)) (hit8 (r8_0 x0 x1 x2 x3 x4 x5 x6 x7 x8 x9 x10 x11 x12 x13 x14 x15 1) (r8_1 x0 x1 x2 x3 x4 x5 x6 x7 x8 x9 x10 x11 x12 x13 x14 x15 1) (r8_2 x0 x1 x2 x3 x4 x5 x6 x7 x8 x9 x10 x11 x12 x13 x14 x15 1) at0 (last8 at0 sz)) (hit8 (r8_0 x0 x1 x2 x3 x4 x5 x6 x7 x8 x9 x10 x11 x12 x13 x14 x15 2) (r8_1 x0 x1 x2 x3 x4 x5 x6 x7 x8 x9 x10 x11 x12 x13 x14 x15 2) (r8_2 x0 x1 x2 x3 x4 x5 x6 x7 x8 x9 x10 x11 x12 x13 x14 x15 2) at0 (last8 at0 sz)) (hit8 (r8_0 x0 x1 x2 x3 x4 x5 x6 x7 x8 x9 x10 x11 x12 x13 x14 x15 3) (r8_1 x0 x1 x2 x3 x4 x5 x6 x7 x8 x9 x10 x11 x12 x13 x14 x15 3) (r8_2 x0 x1 x2 x3 x4 x5 x6 x7 x8 x9 x10 x11 x12 x13 x14 x15 3) at0 (last8 at0 sz)) (hit8 (r8_0 x0 x1 x2 x3 x4 x5 x6 x7 x8 x9 x10 x11 x12 x13 x14 x15 4) (r8_1 x0 x1 x2 x3 x4 x5 x6 x7 x8 x9 x10 x11 x12 x13 x14 x15 4) (r8_2 x0 x1 x2 x3 x4 x5 x6 x7 x8 x9 x10 x11 x12 x13 x14 x15 4) at0 (last8 at0 sz)) (hit8 (r8_0 x0 x1 x2 x3 x4 x5 x6 x7 x8 x9 x10 x11 x12 x13 x14 x15 5) (r8_1 x0 x1 x2 x3 x4 x5 x6 x7 x8 x9 x10 x11 x12 x13 x14 x15 5) (r8_2 x0 x1 x2 x3 x4 x5 x6 x7 x8 x9 x10 x11 x12 x13 x14 x15 5) at0 (last8 at0 sz)) (hit8 (r8_0 x0 x1 x2 x3 x4 x5 x6 x7 x8 x9 x10 x11 x12 x13 x14 x15 6) (r8_1 x0 x1 x2 x3 x4 x5 x6 x7 x8 x9 x10 x11 x12 x13 x14 x15 6) (r8_2 x0 x1 x2 x3 x4 x5 x6 x7 x8 x9 x10 x11 x12 x13 x14 x15 6) at0 (last8 at0 sz)) (hit8 (r8_0 x0 x1 x2 x3 x4 x5 x6 x7 x8 x9 x10 x11 x12 x13 x14 x15 7) (r8_1 x0 x1 x2 x3 x4 x5 x6 x7 x8 x9 x10 x11 x12 x13 x14 x15 7) (r8_2 x0 x1 x2 x3 x4 x5 x6 x7 x8 x9 x10 x11 x12 x13 x14 x15 7) at0 (last8 at0 sz)) (say8 (r8_0 x0 x1 x2 x3 x4 x5 x6 x7 x8 x9 x10 x11 x12 x13 x14 x15 0) (r8_1 x0 x1 x2 x3 x4 x5 x6 x7 x8 x9 x10 x11 x12 x13 x14 x15 0) at0 (last8 at0 sz) (mode == 3) x0 (r21_0 kind)) (say8 (r8_0 x0 x1 x2 x3 x4 x5 x6 x7 x8 x9 x10 x11 x12 x13 x14 x15 1) (r8_1 x0 x1 x2 x3 x4 x5 x6 x7 x8 x9 x10 x11 x12 x13 x14 x15 1) at0 (last8 at0 sz) (mode == 3) x1 (r21_0 kind)) (say8 (r8_0 x0 x1 x2 x3 x4 x5 x6 x7 x8 x9 x10 x11 x12 x13 x14 x15 2) (r8_1 x0 x1 x2 x3 x4 x5 x6 x7 x8 x9 x10 x11 x12 x13 x14 x15 2) at0 (last8 at0 sz) (mode == 3) x2 (r21_0 kind)) (say8 (r8_0 x0 x1 x2 x3 x4 x5 x6 x7 x8 x9 x10 x11 x12 x13 x14 x15 3) (r8_1 x0 x1 x2 x3 x4 x5 x6 x7 x8 x9 x10 x11 x12 x13 x14 x15 3) at0 (last8 at0 sz) (mode == 3) x3 (r21_0 kind)) (say8 (r8_0 x0 x1 x2 x3 x4 x5 x6 x7 x8 x9 x10 x11 x12 x13 x14 x15 4) (r8_1 x0 x1 x2 x3 x4 x5 x6 x7 x8 x9 x10 x11 x12 x13 x14 x15 4) at0 (last8 at0 sz) (mode == 3) x4 (r21_0 kind)) (say8 (r8_0 x0 x1 x2 x3 x4 x5 x6 x7 x8 x9 x10 x11 x12 x13 x14 x15 5) (r8_1 x0 x1 x2 x3 x4 x5 x6 x7 x8 x9 x10 x11 x12 x13 x14 x15 5) at0 (last8 at0 sz) (mode == 3) x5 (r21_0 kind)) (say8 (r8_0 x0 x1 x2 x3 x4 x5 x6 x7 x8 x9 x10 x11 x12 x13 x14 x15 6) (r8_1 x0 x1 x2 x3 x4 x5 x6 x7 x8 x9 x10 x11 x12 x13 x14 x15 6) at0 (last8 at0 sz) (mode == 3) x6 (r21_0 kind)) (say8 (r8_0 x0 x1 x2 x3 x4 x5 x6 x7 x8 x9 x10 x11 x12 x13 x14 x15 7) (r8_1 x0 x1 x2 x3 x4 x5 x6 x7 x8 x9 x10 x11 x12 x13 x14 x15 7) at0 (last8 at0 sz) (mode == 3) x7 (r21_0 kind)))) := rfl
theorem r12_eq : r12_0 x0 x1 x2 x3 x4 x5 x6 x7 x8 x9 x10 x11 x12 x13 x14 x15 mode kind at0 sz = (may9 kind at0 sz && dec8 (mode == 3) (hit9 sz (r9_0 x0 x1 x2 x3 x4 x5 x6 x7 x8 x9 x10 x11 x12 x13 x14 x15 0) (r9_2 x0 x1 x2 x3 x4 x5 x6 x7 x8 x9 x10 x11 x12 x13 x14 x15 0) at0 (r9_1 x0 x1 x2 x3 x4 x5 x6 x7 x8 x9 x10 x11 x12 x13 x14 x15 0)) (hit9 sz (r9_0 x0 x1 x2 x3 x4 x5 x6 x7 x8 x9 x10 x11 x12 x13 x14 x15 1) (r9_2 x0 x1 x2 x3 x4 x5 x6 x7 x8 x9 x10 x11 x12 x13 x14 x15 1) at0 (r9_1 x0 x1 x2 x3 x4 x5 x6 x7 x8 x9 x10 x11 x12 x13 x14 x15 1)) (hit9 sz (r9_0 x0 x1 x2 x3 x4 x5 x6 x7 x8 x9 x10 x11 x12 x13 x14 x15 2) (r9_2 x0 x1 x2 x3 x4 x5 x6 x7 x8 x9 x10 x11 x12 x13 x14 x15 2) at0 (r9_1 x0 x1 x2 x3 x4 x5 x6 x7 x8 x9 x10 x11 x12 x13 x14 x15 2)) (hit9 sz (r9_0 x0 x1 x2 x3 x4 x5 x6 x7 x8 x9 x10 x11 x12 x13 x14 x15 3) (r9_2 x0 x1 x2 x3 x4 x5 x6 x7 x8 x9 x10 x11 x12 x13 x14 x15 3) at0 (r9_1 x0 x1 x2 x3 x4 x5 x6 x7 x8 x9 x10 x11 x12 x13 x14 x15 3)) (hit9 sz (r9_0 x0 x1 x2 x3 x4 x5 x6 x7 x8 x9 x10 x11 x12 x13 x14 x15 4) (r9_2 x0 x1 x2 x3 x4 x5 x6 x7 x8 x9 x10 x11 x12 x13 x14 x15 4) at0 (r9_1 x0 x1 x2 x3 x4 x5 x6 x7 x8 x9 x10 x11 x12 x13 x14 x15 4)) (hit9 sz (r9_0 x0 x1 x2 x3 x4 x5 x6 x7 x8 x9 x10 x11 x12 x13 x14 x15 5) (r9_2 x0 x1 x2 x3 x4 x5 x6 x7 x8 x9 x10 x11 x12 x13 x14 x15 5) at0 (r9_1 x0 x1 x2 x3 x4 x5 x6 x7 x8 x9 x10 x11 x12 x13 x14 x15 5)) (hit9 sz (r9_0 x0 x1 x2 x3 x4 x5 x6 x7 x8 x9 x10 x11 x12 x13 x14 x15 6) (r9_2 x0 x1 x2 x3 x4 x5 x6 x7 x8 x9 x10 x11 x12 x13 x14 x15 6) at0 (r9_1 x0 x1 x2 x3 x4 x5 x6 x7 x8 x9 x10 x11 x12 x13 x14 x15 6)) (hit9 sz (r9_0 x0 x1 x2 x3 x4 x5 x6 x7 x8 x9 x10 x11 x12 x13 x14 x15 7) (r9_2 x0 x1 x2 x3 x4 x5 x6 x7 x8 x9 x10 x11 x12 x13 x14 x15 7) at0 (r9_1 x0 x1 x2 x3 x4 x5 x6 x7 x8 x9 x10 x11 x12 x13 x14 x15 7)) (say9 sz (r9_0 x0 x1 x2 x3 x4 x5 x6 x7 x8 x9 x10 x11 x12 x13 x14 x15 0) (r9_2 x0 x1 x2 x3 x4 x5 x6 x7 x8 x9 x10 x11 x12 x13 x14 x15 0) at0 (r9_1 x0 x1 x2 x3 x4 x5 x6 x7 x8 x9 x10 x11 x12 x13 x14 x15 0) (mode == 3) x0 kind) (say9 sz (r9_0 x0 x1 x2 x3 x4 x5 x6 x7 x8 x9 x10 x11 x12 x13 x14 x15 1) (r9_2 x0 x1 x2 x3 x4 x5 x6 x7 x8 x9 x10 x11 x12 x13 x14 x15 1) at0 (r9_1 x0 x1 x2 x3 x4 x5 x6 x7 x8 x9 x10 x11 x12 x13 x14 x15 1) (mode == 3) x1 kind) (say9 sz (r9_0 x0 x1 x2 x3 x4 x5 x6 x7 x8 x9 x10 x11 x12 x13 x14 x15 2) (r9_2 x0 x1 x2 x3 x4 x5 x6 x7 x8 x9 x10 x11 x12 x13 x14 x15 2) at0 (r9_1 x0 x1 x2 x3 x4 x5 x6 x7 x8 x9 x10 x11 x12 x13 x14 x15 2) (mode == 3) x2 kind) (say9 sz (r9_0 x0 x1 x2 x3 x4 x5 x6 x7 x8 x9 x10 x11 x12 x13 x14 x15 3) (r9_2 x0 x1 x2 x3 x4 x5 x6 x7 x8 x9 x10 x11 x12 x13 x14 x15 3) at0 (r9_1 x0 x1 x2 x3 x4 x5 x6 x7 x8 x9 x10 x11 x12 x13 x14 x15 3) (mode == 3) x3 kind) (say9 sz (r9_0 x0 x1 x2 x3 x4 x5 x6 x7 x8 x9 x10 x11 x12 x13 x14 x15 4) (r9_2 x0 x1 x2 x3 x4 x5 x6 x7 x8 x9 x10 x11 x12 x13 x14 x15 4) at0 (r9_1 x0 x1 x2 x3 x4 x5 x6 x7 x8 x9 x10 x11 x12 x13 x14 x15 4) (mode == 3) x4 kind) (say9 sz (r9_0 x0 x1 x2 x3 x4 x5 x6 x7 x8 x9 x10 x11 x12 x13 x14 x15 5) (r9_2 x0 x1 x2 x3 x4 x5 x6 x7 x8 x9 x10 x11 x12 x13 x14 x15 5) at0 (r9_1 x0 x1 x2 x3 x4 x5 x6 x7 x8 x9 x10 x11 x12 x13 x14 x15 5) (mode == 3) x5 kind) (say9 sz (r9_0 x0 x1 x2 x3 x4 x5 x6 x7 x8 x9 x10 x11 x12 x13 x14 x15 6) (r9_2 x0 x1 x2 x3 x4 x5 x6 x7 x8 x9 x10 x11 x12 x13 x14 x15 6) at0 (r9_1 x0 x1 x2 x3 x4 x5 x6 x7 x8 x9 x10 x11 x12 x13 x14 x15 6) (mode == 3) x6 kind) (say9 sz (r9_0 x0 x1 x2 x3 x4 x5 x6 x7 x8 x9 x10 x11 x12 x13 x14 x15 7) (r9_2 x0 x1 x2 x3 x4 x5 x6 x7 x8 x9 x10 x11 x12 x13 x14 x15 7) at0 (r9_1 x0 x1 x2 x3 x4 x5 x6 x7 x8 x9 x10 x11 x12 x13 x14 x15 7) (mode == 3) x7 kind)) := rfl
end

/-- The bytes of an access: is one in, are all in. -/
def byteIn (lo hi : Int) (ok : Bool) (at0 : Int) (i : Int) : Bool := (ok && decide (at0 + i ≥ lo)) && decide (at0 + i ≤ hi)
theorem loop_bytes {sz lo hi at0 : Int} {ok : Bool} (h0 : 0 ≤ at0) (hs : sz ≤ 8) (ha : at0 + sz ≤ 18446744073709551616) : ∀ (k : Nat) (i : Int) (some_ all_ : Bool), 0 ≤ i → i + k = sz →
    L101202 sz lo ok at0 hi some_ all_ i = some [.i 0, .b (some_ || ((List.range k).any fun j => byteIn lo hi ok at0 (i + j))), .b (all_ && ((List.range k).all fun j => byteIn lo hi ok at0 (i + j))), .i sz]
  | 0, i, some_, all_, hi0, hi1 => by
    have hc : c101202 sz lo ok at0 hi some_ all_ i = false := decide_eq_false (by omega)
    have := loopG_last (w := W101202) (c := C101202) (nx := N101202) (out := T101202) (s := [.i sz, .i lo, .b ok, .i at0, .i hi, .b some_, .b all_, .i i]) rfl hc
    show loopG W101202 C101202 N101202 T101202 [.i sz, .i lo, .b ok, .i at0, .i hi, .b some_, .b all_, .i i] = _
    rw [this]
    obtain rfl : i = sz := by omega
    simp [T101202, t101202_0, t101202_1, t101202_2, t101202_3, dget, DV.toI, DV.toB]
  | k + 1, i, some_, all_, hi0, hi1 => by
    have hc : c101202 sz lo ok at0 hi some_ all_ i = true := decide_eq_true (by omega)
    have hn := loopG_next (w := W101202) (c := C101202) (nx := N101202) (out := T101202) (s := [.i sz, .i lo, .b ok, .i at0, .i hi, .b some_, .b all_, .i i]) rfl hc
    have e1 : IntKind.wrap .u64 i = i := by rw [wrap_u64]; omega
    have e2 : IntKind.wrap .u64 (at0 + i) = at0 + i := by rw [wrap_u64]; omega
    have e3 : IntKind.wrap .i64 (i + 1) = i + 1 := by rw [IntKind.wrap_i64]; omega
    have he : N101202 [.i sz, .i lo, .b ok, .i at0, .i hi, .b some_, .b all_, .i i] = [.i sz, .i lo, .b ok, .i at0, .i hi, .b (some_ || byteIn lo hi ok at0 i), .b (all_ && byteIn lo hi ok at0 i), .i (i + 1)] := by
      show [DV.i sz, .i lo, .b ok, .i at0, .i hi, .b (some_ || ((ok && decide (IntKind.wrap .u64 (at0 + IntKind.wrap .u64 i) ≥ lo)) && decide (IntKind.wrap .u64 (at0 + IntKind.wrap .u64 i) ≤ hi))), .b (all_ && ((ok && decide (IntKind.wrap .u64 (at0 + IntKind.wrap .u64 i) ≥ lo)) && decide (IntKind.wrap .u64 (at0 + IntKind.wrap .u64 i) ≤ hi))), .i (IntKind.wrap .i64 (i + 1))] = _
      rw [e1, e2, e3]; rfl
    rw [he] at hn
    have ih := loop_bytes (lo := lo) (hi := hi) (ok := ok) h0 hs ha k (i + 1) (some_ || byteIn lo hi ok at0 i) (all_ && byteIn lo hi ok at0 i) (by omega) (by omega)
    show loopG W101202 C101202 N101202 T101202 [.i sz, .i lo, .b ok, .i at0, .i hi, .b some_, .b all_, .i i] = _
    rw [hn]
    refine Eq.trans ih ?_
    have hf : (fun j : Nat => byteIn lo hi ok at0 (i + 1 + j)) = (fun j : Nat => byteIn lo hi ok at0 (i + ((j + 1 : Nat) : Int))) := funext fun j => by congr 1; omega
    rw [List.range_succ_eq_map, List.any_cons, List.all_cons, List.any_map, List.all_map, hf, Bool.or_assoc, Bool.and_assoc]
    simp only [Function.comp_def, Nat.succ_eq_add_one]
    simp

theorem any_bytes {lo hi at0 : Int} {ok : Bool} (hl : ok = true → lo ≤ hi) : ∀ k : Nat, ((List.range (k + 1)).any fun j => byteIn lo hi ok at0 ((0 : Int) + j)) = hit8 lo hi ok at0 (at0 + k)
  | 0 => by
    cases ok
    · simp [byteIn, hit8]
    · have := hl rfl
      rw [Bool.eq_iff_iff]
      simp [byteIn, hit8]
  | k + 1 => by
    rw [List.range_succ, List.any_append, any_bytes hl k]
    cases ok
    · simp [byteIn, hit8]
    · have := hl rfl
      rw [Bool.eq_iff_iff]
      simp [byteIn, hit8]
      omega
theorem all_bytes {lo hi at0 : Int} : ∀ k : Nat, ((List.range (k + 1)).all fun j => byteIn lo hi true at0 ((0 : Int) + j)) = !(decide (at0 < lo) || decide (at0 + k > hi))
  | 0 => by
    rw [Bool.eq_iff_iff]
    simp [byteIn]
  | k + 1 => by
    rw [List.range_succ, List.all_append, all_bytes k]
    rw [Bool.eq_iff_iff]
    simp [byteIn]
    omega

theorem b_need {c kind : Int} (h : R8 c) (h0 : 0 ≤ kind) (h3 : kind ≤ 3) : (iland .u8 c (r21_0 kind) == r21_0 kind) = r23_0 c kind := by
  obtain rfl | rfl | rfl | rfl : kind = 0 ∨ kind = 1 ∨ kind = 2 ∨ kind = 3 := by omega
  · have := byte_all (P := fun c => (iland .u8 c (r21_0 0) == r21_0 0) == r23_0 c 0) (by decide +kernel) h
    exact eq_of_beq this
  · have := byte_all (P := fun c => (iland .u8 c (r21_0 1) == r21_0 1) == r23_0 c 1) (by decide +kernel) h
    exact eq_of_beq this
  · have := byte_all (P := fun c => (iland .u8 c (r21_0 2) == r21_0 2) == r23_0 c 2) (by decide +kernel) h
    exact eq_of_beq this
  · have := byte_all (P := fun c => (iland .u8 c (r21_0 3) == r21_0 3) == r23_0 c 3) (by decide +kernel) h
    exact eq_of_beq this
theorem need_0 (kind : Int) : (r21_0 kind == 0) = !(decide (0 ≤ kind) && decide (kind ≤ 3)) := by
  by_cases h : 0 ≤ kind ∧ kind ≤ 3
  · obtain rfl | rfl | rfl | rfl : kind = 0 ∨ kind = 1 ∨ kind = 2 ∨ kind = 3 := by omega
    all_goals rfl
  · have e : r21_0 kind = 0 := by
      have a0 : (kind == 0) = false := by simp; omega
      have a1 : (kind == 1) = false := by simp; omega
      have a2 : (kind == 2) = false := by simp; omega
      have a3 : (kind == 3) = false := by simp; omega
      simp [r21_0, a0, a1, a2, a3]
    rw [e]
    have : (decide (0 ≤ kind) && decide (kind ≤ 3)) = false := by simp; omega
    rw [this]; rfl

/-- May an access be at all: the same on both sides. -/
theorem may_eq {kind at0 sz : Int} (ha : R64 at0) : (size_ok sz && may8 kind at0 sz) = may9 kind at0 sz := by
  obtain ⟨h0, h1⟩ := ha
  by_cases hs : sz = 1 ∨ sz = 2 ∨ sz = 4 ∨ sz = 8
  · have key : ∀ k : Int, 1 ≤ k → k ≤ 8 → size_ok k = true → (((k != 1 && k != 2) && k != 4) && k != 8) = false → (size_ok k && may8 kind at0 k) = may9 kind at0 k := by
      intro k k1 k8 e1 e2
      have w1 : IntKind.wrap .u64 k = k := by rw [wrap_u64]; omega
      have w2 : IntKind.wrap .i64 (k - 1) = k - 1 := by rw [IntKind.wrap_i64]; omega
      have w3 : IntKind.wrap .u64 (k - 1) = k - 1 := by rw [wrap_u64]; omega
      have w4 : IntKind.wrap .u64 (18446744073709551615 - (k - 1)) = 18446744073709551616 - k := by rw [wrap_u64]; omega
      unfold may8 may9 last8
      rw [e1, e2, need_0, w1, w2, w3, w4, wrap_u64, wrap_u64, Bool.eq_iff_iff]
      simp
      omega
    obtain rfl | rfl | rfl | rfl := hs
    · exact key 1 (by decide) (by decide) rfl rfl
    · exact key 2 (by decide) (by decide) rfl rfl
    · exact key 4 (by decide) (by decide) rfl rfl
    · exact key 8 (by decide) (by decide) rfl rfl
  · have a1 : (sz == 1) = false := by simp; omega
    have a2 : (sz == 2) = false := by simp; omega
    have a3 : (sz == 4) = false := by simp; omega
    have a4 : (sz == 8) = false := by simp; omega
    have e1 : size_ok sz = false := by simp [size_ok, a1, a2, a3, a4]
    have e2 : (((sz != 1 && sz != 2) && sz != 4) && sz != 8) = true := by simp [bne, a1, a2, a3, a4]
    unfold may9
    rw [e1, e2]
    simp

theorem may_what {kind at0 sz : Int} (ha : R64 at0) (h : may9 kind at0 sz = true) : 0 ≤ kind ∧ kind ≤ 3 ∧ (∃ k : Nat, k < 8 ∧ sz = k + 1) ∧ at0 + sz ≤ 18446744073709551616 ∧ last8 at0 sz = at0 + (sz - 1) := by
  obtain ⟨h0, h1⟩ := ha
  simp only [may9, Bool.not_eq_true', Bool.or_eq_false_iff, decide_eq_false_iff_not] at h
  obtain ⟨⟨⟨k0, k3⟩, hs⟩, hl⟩ := h
  have hs' : sz = 1 ∨ sz = 2 ∨ sz = 4 ∨ sz = 8 := by
    simp at hs
    omega
  have w2 : IntKind.wrap .i64 (sz - 1) = sz - 1 := by rw [IntKind.wrap_i64]; omega
  have w3 : IntKind.wrap .u64 (sz - 1) = sz - 1 := by rw [wrap_u64]; omega
  have w4 : IntKind.wrap .u64 (18446744073709551615 - (sz - 1)) = 18446744073709551616 - sz := by rw [wrap_u64]; omega
  rw [w2, w3, w4] at hl
  refine ⟨by omega, by omega, ⟨(sz - 1).toNat, by omega, by omega⟩, by omega, ?_⟩
  unfold last8
  rw [wrap_u64 sz, wrap_u64, wrap_u64]
  omega

theorem range_le {q b1 b2 b3 g : Bool} {a e : Int} (h : ok9 q b1 b2 b3 g a e = true) : lo9 q b1 b2 b3 g a e ≤ hi9 q b1 b2 b3 g a e := by
  have hw : ∀ n : Int, 0 ≤ IntKind.wrap .u64 n ∧ IntKind.wrap .u64 n < 18446744073709551616 := fun n => by rw [wrap_u64]; omega
  unfold ok9 at h
  rw [Bool.and_eq_true] at h
  obtain ⟨hq, hd⟩ := h
  have hd' : l9 b1 b2 b3 g a e < h9 b1 b2 b3 a := by
    have := hd
    simp at this
    omega
  unfold lo9 hi9
  rw [hd, hq]
  simp only [cond_true]
  have hl : 0 ≤ l9 b1 b2 b3 g a e := by
    unfold l9
    cases b1
    · cases b2
      · cases b3
        · exact Int.le_refl 0
        · exact (hw _).1
      · exact (hw _).1
    · cases g
      · exact Int.le_refl 0
      · exact (hw _).1
  have hh : h9 b1 b2 b3 a < 18446744073709551616 := by
    unfold h9
    cases b1
    · cases b2
      · cases b3
        · show (0 : Int) < _
          decide
        · exact (hw _).2
      · exact (hw _).2
    · exact (hw _).2
  rw [wrap_u64]
  omega

theorem loop_says {sz lo hi at0 : Int} {ok : Bool} {k : Nat} (h0 : 0 ≤ at0) (hk : sz = k + 1) (hs : sz ≤ 8) (ha : at0 + sz ≤ 18446744073709551616) (hl : ok = true → lo ≤ hi) :
    p101202 sz lo ok at0 hi false true 0 = true ∧ r101202_1 sz lo ok at0 hi false true 0 = hit8 lo hi ok at0 (at0 + (sz - 1)) ∧ (ok = true → r101202_2 sz lo ok at0 hi false true 0 = !(decide (at0 < lo) || decide (at0 + (sz - 1) > hi))) := by
  have h := loop_bytes (lo := lo) (hi := hi) (ok := ok) h0 hs ha (k + 1) 0 false true (Int.le_refl 0) (by omega)
  have e : sz - 1 = k := by omega
  refine ⟨by unfold p101202; rw [h]; rfl, ?_, fun hok => ?_⟩
  · unfold r101202_1
    rw [h, any_bytes hl k, e]
    rfl
  · subst hok
    unfold r101202_2
    rw [h, all_bytes k, e]
    exact Bool.true_and _

theorem one_entry {sz lo hi at0 c kind lo' hi' : Int} {ok ok' m3 : Bool} (hat : R64 at0) (hm : may9 kind at0 sz = true) (hc : R8 c) (e0 : lo = lo') (e1 : hi = hi') (e2 : ok = ok') (hl : ok' = true → lo' ≤ hi') :
    hit9 sz lo' ok' at0 hi' = hit8 lo hi ok at0 (last8 at0 sz) ∧ (hit8 lo hi ok at0 (last8 at0 sz) = true → say8 lo hi at0 (last8 at0 sz) m3 c (r21_0 kind) = say9 sz lo' ok' at0 hi' m3 c kind) ∧ p101202 sz lo' ok' at0 hi' false true 0 = true := by
  subst e0 e1 e2
  obtain ⟨k0, k3, ⟨k, hk8, hk⟩, hat1, hlast⟩ := may_what hat hm
  obtain ⟨hp, hr1, hr2⟩ := loop_says (lo := lo) (hi := hi) (ok := ok) hat.1 hk (by omega) hat1 hl
  refine ⟨?_, fun hh => ?_, hp⟩
  · unfold hit9
    rw [hr1, hlast, Bool.not_not]
  · have hok : ok = true := by
      cases ok
      · simp [hit8] at hh
      · rfl
    unfold say8 say9
    rw [hr2 hok, hlast, b_lock hc, b_need hc k0 k3]

theorem r9_le {x0 x1 x2 x3 x4 x5 x6 x7 x8 x9 x10 x11 x12 x13 x14 x15 n : Int} (h : r9_2 x0 x1 x2 x3 x4 x5 x6 x7 x8 x9 x10 x11 x12 x13 x14 x15 n = true) : r9_0 x0 x1 x2 x3 x4 x5 x6 x7 x8 x9 x10 x11 x12 x13 x14 x15 n ≤ r9_1 x0 x1 x2 x3 x4 x5 x6 x7 x8 x9 x10 x11 x12 x13 x14 x15 n := by
  rw [r9_2_eq] at h
  rw [r9_0_eq, r9_1_eq]
  exact range_le h
theorem check_eq {x0 x1 x2 x3 x4 x5 x6 x7 x8 x9 x10 x11 x12 x13 x14 x15 mode kind at0 sz : Int} (h0 : R8 x0) (h1 : R8 x1) (h2 : R8 x2) (h3 : R8 x3) (h4 : R8 x4) (h5 : R8 x5) (h6 : R8 x6) (h7 : R8 x7) (h8 : R64 x8) (h9 : R64 x9) (h10 : R64 x10) (h11 : R64 x11) (h12 : R64 x12) (h13 : R64 x13) (h14 : R64 x14) (h15 : R64 x15) (hat : R64 at0) : r11_0 x0 x1 x2 x3 x4 x5 x6 x7 x8 x9 x10 x11 x12 x13 x14 x15 mode kind at0 sz = r12_0 x0 x1 x2 x3 x4 x5 x6 x7 x8 x9 x10 x11 x12 x13 x14 x15 mode kind at0 sz := by
  rw [r11_eq, r12_eq, ← Bool.and_assoc, may_eq hat]
  cases hm : may9 kind at0 sz
  · rw [Bool.false_and, Bool.false_and]
  · rw [Bool.true_and, Bool.true_and]
    obtain ⟨a0, b0, c0⟩ := range_eq (n := 0) h0 h1 h2 h3 h4 h5 h6 h7 h8 h9 h10 h11 h12 h13 h14 h15
    obtain ⟨d0, g0, _⟩ := one_entry (m3 := mode == 3) hat hm h0 a0 b0 c0 (r9_le (n := 0))
    obtain ⟨a1, b1, c1⟩ := range_eq (n := 1) h0 h1 h2 h3 h4 h5 h6 h7 h8 h9 h10 h11 h12 h13 h14 h15
    obtain ⟨d1, g1, _⟩ := one_entry (m3 := mode == 3) hat hm h1 a1 b1 c1 (r9_le (n := 1))
    obtain ⟨a2, b2, c2⟩ := range_eq (n := 2) h0 h1 h2 h3 h4 h5 h6 h7 h8 h9 h10 h11 h12 h13 h14 h15
    obtain ⟨d2, g2, _⟩ := one_entry (m3 := mode == 3) hat hm h2 a2 b2 c2 (r9_le (n := 2))
    obtain ⟨a3, b3, c3⟩ := range_eq (n := 3) h0 h1 h2 h3 h4 h5 h6 h7 h8 h9 h10 h11 h12 h13 h14 h15
    obtain ⟨d3, g3, _⟩ := one_entry (m3 := mode == 3) hat hm h3 a3 b3 c3 (r9_le (n := 3))
    obtain ⟨a4, b4, c4⟩ := range_eq (n := 4) h0 h1 h2 h3 h4 h5 h6 h7 h8 h9 h10 h11 h12 h13 h14 h15
    obtain ⟨d4, g4, _⟩ := one_entry (m3 := mode == 3) hat hm h4 a4 b4 c4 (r9_le (n := 4))
    obtain ⟨a5, b5, c5⟩ := range_eq (n := 5) h0 h1 h2 h3 h4 h5 h6 h7 h8 h9 h10 h11 h12 h13 h14 h15
    obtain ⟨d5, g5, _⟩ := one_entry (m3 := mode == 3) hat hm h5 a5 b5 c5 (r9_le (n := 5))
    obtain ⟨a6, b6, c6⟩ := range_eq (n := 6) h0 h1 h2 h3 h4 h5 h6 h7 h8 h9 h10 h11 h12 h13 h14 h15
    obtain ⟨d6, g6, _⟩ := one_entry (m3 := mode == 3) hat hm h6 a6 b6 c6 (r9_le (n := 6))
    obtain ⟨a7, b7, c7⟩ := range_eq (n := 7) h0 h1 h2 h3 h4 h5 h6 h7 h8 h9 h10 h11 h12 h13 h14 h15
    obtain ⟨d7, g7, _⟩ := one_entry (m3 := mode == 3) hat hm h7 a7 b7 c7 (r9_le (n := 7))
    rw [d0, d1, d2, d3, d4, d5, d6, d7]
    exact dec8_congr g0 g1 g2 g3 g4 g5 g6 g7
theorem p11_ok {x0 x1 x2 x3 x4 x5 x6 x7 x8 x9 x10 x11 x12 x13 x14 x15 mode kind at0 sz : Int} (h8 : R64 x8) (h9 : R64 x9) (h10 : R64 x10) (h11 : R64 x11) (h12 : R64 x12) (h13 : R64 x13) (h14 : R64 x14) (h15 : R64 x15) : p11 x0 x1 x2 x3 x4 x5 x6 x7 x8 x9 x10 x11 x12 x13 x14 x15 mode kind at0 sz = true := by
  have e : ∀ n : Int, p8 x0 x1 x2 x3 x4 x5 x6 x7 x8 x9 x10 x11 x12 x13 x14 x15 n = true := fun n => (range_p h8 h9 h10 h11 h12 h13 h14 h15).1
  simp only [p11, e, ow_t, List.all_cons, List.all_nil, id, Bool.and_self]
theorem p23_ok (c k : Int) : p23 c k = true := by simp [p23, p22, ow]
theorem p22_7 (c : Int) : p22 c 7 = true := p22_ok c 7
theorem ow_f {b : Bool} (l : List (Bool × Bool)) (h : b = false) (x : Bool) : ow ((b, true) :: l) x = true := by subst h; simp [ow]
theorem p12_ok {x0 x1 x2 x3 x4 x5 x6 x7 x8 x9 x10 x11 x12 x13 x14 x15 mode kind at0 sz : Int} (h8 : R64 x8) (h9 : R64 x9) (h10 : R64 x10) (h11 : R64 x11) (h12 : R64 x12) (h13 : R64 x13) (h14 : R64 x14) (h15 : R64 x15) (hat : R64 at0) : p12 x0 x1 x2 x3 x4 x5 x6 x7 x8 x9 x10 x11 x12 x13 x14 x15 mode kind at0 sz = true := by
  have e : ∀ n : Int, p9 x0 x1 x2 x3 x4 x5 x6 x7 x8 x9 x10 x11 x12 x13 x14 x15 n = true := fun n => (range_p h8 h9 h10 h11 h12 h13 h14 h15).2
  cases hm : may9 kind at0 sz
  · simp only [p12, show (!(((decide (kind < 0) || decide (kind > 3)) || (((sz != 1 && sz != 2) && sz != 4) && sz != 8)) || decide (at0 > IntKind.wrap .u64 (18446744073709551615 - IntKind.wrap .u64 (IntKind.wrap .i64 (sz - 1)))))) = false from hm, ow_f _ rfl, List.all_cons, List.all_nil, id, Bool.and_self]
  · obtain ⟨k0, k3, ⟨k, hk8, hk⟩, hat1, hlast⟩ := may_what hat hm
    have f : ∀ n : Int, p101202 sz (r9_0 x0 x1 x2 x3 x4 x5 x6 x7 x8 x9 x10 x11 x12 x13 x14 x15 n) (r9_2 x0 x1 x2 x3 x4 x5 x6 x7 x8 x9 x10 x11 x12 x13 x14 x15 n) at0 (r9_1 x0 x1 x2 x3 x4 x5 x6 x7 x8 x9 x10 x11 x12 x13 x14 x15 n) false true 0 = true := fun n => (loop_says hat.1 hk (by omega) hat1 r9_le).1
    simp only [p12, e, f, p22_7, p23_ok, ow_t, List.all_cons, List.all_nil, id, Bool.and_self]
theorem checks_p {x0 x1 x2 x3 x4 x5 x6 x7 x8 x9 x10 x11 x12 x13 x14 x15 mode kind at0 sz : Int} (h8 : R64 x8) (h9 : R64 x9) (h10 : R64 x10) (h11 : R64 x11) (h12 : R64 x12) (h13 : R64 x13) (h14 : R64 x14) (h15 : R64 x15) (hat : R64 at0) : p4 x0 x1 x2 x3 x4 x5 x6 x7 x8 x9 x10 x11 x12 x13 x14 x15 mode kind at0 sz = true := by
  simp only [p4, p10_ok, p11_ok h8 h9 h10 h11 h12 h13 h14 h15, p12_ok h8 h9 h10 h11 h12 h13 h14 h15 hat, ow_t, List.all_cons, List.all_nil, id, Bool.and_self]
theorem checks_ok {x0 x1 x2 x3 x4 x5 x6 x7 x8 x9 x10 x11 x12 x13 x14 x15 mode kind at0 sz : Int} (h0 : R8 x0) (h1 : R8 x1) (h2 : R8 x2) (h3 : R8 x3) (h4 : R8 x4) (h5 : R8 x5) (h6 : R8 x6) (h7 : R8 x7) (h8 : R64 x8) (h9 : R64 x9) (h10 : R64 x10) (h11 : R64 x11) (h12 : R64 x12) (h13 : R64 x13) (h14 : R64 x14) (h15 : R64 x15) (hat : R64 at0) : r4_0 x0 x1 x2 x3 x4 x5 x6 x7 x8 x9 x10 x11 x12 x13 x14 x15 mode kind at0 sz = true := by
  simp only [r4_0, check_eq h0 h1 h2 h3 h4 h5 h6 h7 h8 h9 h10 h11 h12 h13 h14 h15 hat, r10_ok, beq_self_eq_true, Bool.and_self]
end Go.Proofs.YtoebecinndbnoaaDoor
