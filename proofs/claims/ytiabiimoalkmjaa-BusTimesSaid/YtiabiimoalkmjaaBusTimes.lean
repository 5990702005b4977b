/- BusTimes: whatever the input, the law gives true, and the input reads as it did. No condition. -/
import Derived.Test.YtiabiimoalkmjaaC6
import Derived.Test.YtiabiimoalkmjaaRows
namespace Go.Proofs.Ytiabiimoalkmjaa
open Go Go.Sx Go.RowKit
set_option maxRecDepth 100000
theorem own6 : ownKnob Try.prog.godebug = none := by kernel_rfl
noncomputable def sh6 : List ShV := (zdg Try.prog Try.f6.params.toList).getD []
theorem zd5 {k : IntKind} {d : DV} (h : RangeOk [LT.int k] [d]) : ∃ n, d = .i n ∧ (Lit.int k n).wf = true := by
 cases d with
 | i n => exact ⟨n, rfl, h.1⟩
 | b _ => exact absurd h (by simp [RangeOk])
 | l _ => exact absurd h (by simp [RangeOk])
theorem zth : ∀ (n : Nat) (xs : List DV), xs.length = n * 4 → (∀ i, i < xs.length → RangeOk [([LT.int .i64, .int .i64, .int .i64, .int .u64] : List LT).getD (i % 4) .bool] [xs.getD i default]) →
  ∃ l : List Ev, l.length = n ∧ xs = encE l ∧ ∀ e ∈ l, (Lit.int .i64 e.c).wf = true ∧ (Lit.int .i64 e.k).wf = true ∧ (Lit.int .i64 e.n).wf = true ∧ (Lit.int .u64 e.v).wf = true
 | 0, xs, h, _ => ⟨[], rfl, by have : xs = [] := List.eq_nil_of_length_eq_zero (by omega); rw [this]; rfl, fun e he => by cases he⟩
 | n + 1, xs, h, hc => by
  match xs, h, hc with
  | a :: b :: c :: d :: r, h, hc =>
   have h0 := hc 0 (by simp)
   have h1 := hc 1 (by simp)
   have h2 := hc 2 (by simp)
   have h3 := hc 3 (by simp)
   obtain ⟨a, rfl, w0⟩ := zd5 (k := .i64) (d := a) h0
   obtain ⟨b, rfl, w1⟩ := zd5 (k := .i64) (d := b) h1
   obtain ⟨c, rfl, w2⟩ := zd5 (k := .i64) (d := c) h2
   obtain ⟨d, rfl, w3⟩ := zd5 (k := .u64) (d := d) h3
   obtain ⟨l, hl, hr, hw⟩ := zth n r (by simp at h; omega) (fun i hi => by
    have := hc (i + 4) (by simp; omega)
    rwa [show (i + 4) % 4 = i % 4 from by omega] at this)
   refine ⟨⟨a, b, c, d⟩ :: l, by simp [hl], by rw [hr]; rfl, fun e he => ?_⟩
   rcases List.mem_cons.1 he with rfl | he
   ·exact ⟨w0, w1, w2, w3⟩
   ·exact hw e he
  | [], h, _ => simp at h
  | [_], h, _ => simp at h; omega
  | [_, _], h, _ => simp at h; omega
  | [_, _, _], h, _ => simp at h; omega
theorem zwE {xs : List DV} (h : RowIn [.int .i64, .int .i64, .int .i64, .int .u64] xs) : ∃ l : List Ev, xs = encE l ∧ l.length ≤ maxLen ∧ ∀ e ∈ l, (Lit.int .i64 e.c).wf = true ∧ (Lit.int .i64 e.k).wf = true ∧ (Lit.int .i64 e.n).wf = true ∧ (Lit.int .u64 e.v).wf = true := by
 obtain ⟨n, hn, hlen⟩ := h.len
 obtain ⟨l, h1, h2, h3⟩ := zth n xs hlen h.cell
 exact ⟨l, h2, by omega, h3⟩
theorem zti : ∀ (n : Nat) (xs : List DV), xs.length = n * 4 → (∀ i, i < xs.length → RangeOk [([LT.int .i64, .int .u64, .int .i64, .int .u64] : List LT).getD (i % 4) .bool] [xs.getD i default]) →
  ∃ l : List Ev, l.length = n ∧ xs = encE l ∧ ∀ e ∈ l, (Lit.int .u64 e.k).wf = true ∧ (Lit.int .i64 e.n).wf = true
 | 0, xs, h, _ => ⟨[], rfl, by have : xs = [] := List.eq_nil_of_length_eq_zero (by omega); rw [this]; rfl, fun e he => by cases he⟩
 | n + 1, xs, h, hc => by
  match xs, h, hc with
  | a :: b :: c :: d :: r, h, hc =>
   have h0 := hc 0 (by simp)
   have h1 := hc 1 (by simp)
   have h2 := hc 2 (by simp)
   have h3 := hc 3 (by simp)
   obtain ⟨a, rfl, w0⟩ := zd5 (k := .i64) (d := a) h0
   obtain ⟨b, rfl, w1⟩ := zd5 (k := .u64) (d := b) h1
   obtain ⟨c, rfl, w2⟩ := zd5 (k := .i64) (d := c) h2
   obtain ⟨d, rfl, w3⟩ := zd5 (k := .u64) (d := d) h3
   obtain ⟨l, hl, hr, hw⟩ := zti n r (by simp at h; omega) (fun i hi => by
    have := hc (i + 4) (by simp; omega)
    rwa [show (i + 4) % 4 = i % 4 from by omega] at this)
   refine ⟨⟨a, b, c, d⟩ :: l, by simp [hl], by rw [hr]; rfl, fun e he => ?_⟩
   rcases List.mem_cons.1 he with rfl | he
   ·exact ⟨w1, w2⟩
   ·exact hw e he
  | [], h, _ => simp at h
  | [_], h, _ => simp at h; omega
  | [_, _], h, _ => simp at h; omega
  | [_, _, _], h, _ => simp at h; omega
theorem zwF {xs : List DV} (h : RowIn [.int .i64, .int .u64, .int .i64, .int .u64] xs) : ∃ l : List Ev, xs = encE l ∧ ∀ e ∈ l, (Lit.int .u64 e.k).wf = true ∧ (Lit.int .i64 e.n).wf = true := by
 obtain ⟨n, hn, hlen⟩ := h.len
 obtain ⟨l, h1, h2, h3⟩ := zti n xs hlen h.cell
 exact ⟨l, h2, h3⟩
theorem zwG {xs : List DV} (h : RowIn [.int .u8] xs) : ∀ i, i < xs.length → 0 ≤ (xs.getD i default).toI ∧ (xs.getD i default).toI < 256 := fun i hi => by
 have := h.cell i hi
 rw [show i % ([LT.int .u8] : List LT).length = 0 from Nat.mod_one i] at this
 obtain ⟨n, hn, hw⟩ := zd5 (k := .u8) (d := xs.getD i default) this
 rw [hn]
 have hb : 0 ≤ n ∧ n ≤ 255 := by simpa [Lit.wf, IntKind.min, IntKind.max, IntKind.bits, IntKind.signed] using hw
 show 0 ≤ n ∧ n < 256
 omega
def zfk (xs : List DV) : Prop := (xs.getD 2 default).toL.length ≤ 17592186044416
theorem zus : sh6 = [.row [.int .u8], .row [.int .i64, .int .i64, .int .i64, .int .u64], .row [.int .i64, .int .u64, .int .i64, .int .u64]] := by kernel_rfl
theorem zpa {H : Type} (xs : List DV) (ds : List (DataW H)) (h : zo9 sh6 xs ds) (hz : (DataW.weightsEach Try.checked.prog Try.f6.params.toList ds).all (· ≤ reachBytes) = true) : zfk xs := by
 rw [zus] at h
 unfold zfk
 match xs, ds, h with
 | a :: b :: c :: _, d0 :: d1 :: d2 :: _, ⟨_, _, h, _⟩ =>
  have h : c.toL.length = lenW d2 * 4 := h
  show c.toL.length ≤ _
  rw [h]
  cases d2 with
  | slice elems spare =>
   have hs := sized_slice (e := 40) hz (j := 2) (t := 24) (elems := elems) (spare := spare) (by kernel_rfl) rfl (by kernel_rfl)
   rw [show Try.checked.prog.bytesOf 40 = 32 from by kernel_rfl] at hs
   unfold reachBytes at hs
   show elems.length * 4 ≤ _
   omega
  | _ => simp [lenW]
 | [], _, _ => exact Nat.zero_le _
 | [_], _, _ => exact Nat.zero_le _
 | [_, _], _, _ => exact Nat.zero_le _
 | _ :: _ :: c :: _, [], h => exact h.elim
 | _ :: _ :: c :: _, [_], h => exact h.2.elim
 | _ :: _ :: c :: _, [_, _], h => exact h.2.2.elim
theorem zqU (xs : List DV) (h : zlf sh6 xs) (_hlen : xs.length = nInV sh6) (hsz : zfk xs) : (s6.need = true → (dget (g6 xs) 0).toB = true) ∧ (dget (g6 xs) (if s6.need then 1 else 0)).toB = true := by
 rw [zus] at h
 obtain ⟨⟨v0, hv0, hr0⟩, ⟨v1, hv1, hr1⟩, ⟨v2, hv2, hr2⟩, _⟩ := h
 have hu := zwG hr0
 obtain ⟨l, rfl, _, _⟩ := zwE hr1
 obtain ⟨s, rfl, hw⟩ := zwF hr2
 match xs, hv0, hv1, hv2, _hlen, hsz with
 | [y0, y1, y2], hv0, hv1, hv2, _, hsz =>
  have hv0 : some y0 = some (.l v0) := hv0
  have hv1 : some y1 = some (.l (encE l)) := hv1
  have hv2 : some y2 = some (.l (encE s)) := hv2
  cases hv0
  cases hv1
  cases hv2
  have hs : (encE s).length ≤ 17592186044416 := hsz
  rw [zpY] at hs
  obtain ⟨r1, r2⟩ := ztd v0 l s hu (by omega) (fun e he => by
   obtain ⟨a, b⟩ := hw e he
   have ha : 0 ≤ e.k ∧ e.k ≤ 18446744073709551615 := by simpa [Lit.wf, IntKind.min, IntKind.max, IntKind.bits, IntKind.signed] using a
   have hb : -9223372036854775808 ≤ e.n ∧ e.n ≤ 9223372036854775807 := by simpa [Lit.wf, IntKind.min, IntKind.max, IntKind.bits, IntKind.signed] using b
   exact ⟨by unfold zhy; rw [Bool.and_eq_true, decide_eq_true_eq, decide_eq_true_eq]; omega, by omega, by omega⟩)
  exact ⟨fun _ => r1, r2⟩
theorem zkh (os : Os) (started : os.Started) (H : Type) (enc : TypeId × Value → H) :
  ReturnsInHanded {} Try.checked os 6 .any (Rows.busTimesSpec.pre6 enc Try.prog Try.f6 [] false) (Rows.busTimesSpec.post enc Try.prog Try.f6 false true false false) :=
 znM (C := Try.checked) (fn := Try.f6) (sg := s6) (G := g6) (I := WI) (ss := sh6) (tb := (Try.f6.resultTypes.getD 0 0)) k6 (by kernel_rfl) ⟨by kernel_rfl, by kernel_rfl, by kernel_rfl, rfl, rfl, rfl⟩ (by kernel_rfl) (by kernel_rfl) rfl
  (fun ds h => match ds, (h.trans (by kernel_rfl) : ds.length = 3) with | [_, _, _], _ => rfl)
  ⟨by kernel_rfl, by kernel_rfl, by kernel_rfl, by kernel_rfl⟩
  (X := zfk) zqU zpa (fun _ => trivial) rfl own6 started (by kernel_rfl) Try.func6
  (ChangeSpec.witness6 (enc := enc) (C := Try.checked) false ⟨#[], #[.slice none 0 0, .slice none 0 0, .slice none 0 0], []⟩ 8 (by kernel_rfl) (by kernel_rfl) (by kernel_rfl) (by kernel_rfl))
theorem busTimes_holds : Rows.BusTimesSaid :=
 OpenClaim.holds_of_wide 6 Try.f6 rfl rfl rfl rfl rfl rfl rfl ⟨rfl, rfl, rfl, rfl, rfl⟩ rfl rfl rfl rfl rfl (by kernel_rfl) Try.func6 (by kernel_rfl)
  (of_decide_eq_true (by kernel_rfl)) (by unfold Func.isWrapper; first | (rw [if_pos (by decide +kernel)]; kernel_rfl) | (rw [if_neg (by decide +kernel)]; exact ⟨rfl, rfl⟩))
  (fun os started H enc _ => zkh os started H enc)
#print axioms busTimes_holds
end Go.Proofs.Ytiabiimoalkmjaa
