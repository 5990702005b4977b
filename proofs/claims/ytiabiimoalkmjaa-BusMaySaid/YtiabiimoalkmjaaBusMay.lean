/- BusMay: whatever the input, the law gives true, and the input reads as it did. No condition. -/
import Derived.Test.YtiabiimoalkmjaaB6
import Derived.Test.YtiabiimoalkmjaaRows
namespace Go.Proofs.Ytiabiimoalkmjaa
open Go Go.Sx Go.RowKit
set_option maxRecDepth 100000
theorem own5 : ownKnob Try.prog.godebug = none := by kernel_rfl
noncomputable def sh5 : List ShV := (zdb Try.prog Try.f5.params.toList).getD []
theorem zfU {k : IntKind} {d : DV} (h : RangeOk [LT.int k] [d]) : ∃ n, d = .i n ∧ (Lit.int k n).wf = true := by
 cases d with
 | i n => exact ⟨n, rfl, h.1⟩
 | b _ => exact absurd h (by simp [RangeOk])
 | l _ => exact absurd h (by simp [RangeOk])
theorem ztf : ∀ (n : Nat) (xs : List DV), xs.length = n * 4 → (∀ i, i < xs.length → RangeOk [([LT.int .i64, .int .i64, .int .i64, .int .u64] : List LT).getD (i % 4) .bool] [xs.getD i default]) →
  ∃ l : List Ev, l.length = n ∧ xs = encE l ∧ ∀ e ∈ l, (Lit.int .i64 e.c).wf = true ∧ (Lit.int .i64 e.k).wf = true ∧ (Lit.int .i64 e.n).wf = true ∧ (Lit.int .u64 e.v).wf = true
 | 0, xs, h, _ => ⟨[], rfl, by have : xs = [] := List.eq_nil_of_length_eq_zero (by omega); rw [this]; rfl, fun e he => by cases he⟩
 | n + 1, xs, h, hc => by
  match xs, h, hc with
  | a :: b :: c :: d :: r, h, hc =>
   have h0 := hc 0 (by simp)
   have h1 := hc 1 (by simp)
   have h2 := hc 2 (by simp)
   have h3 := hc 3 (by simp)
   obtain ⟨a, rfl, w0⟩ := zfU (k := .i64) (d := a) h0
   obtain ⟨b, rfl, w1⟩ := zfU (k := .i64) (d := b) h1
   obtain ⟨c, rfl, w2⟩ := zfU (k := .i64) (d := c) h2
   obtain ⟨d, rfl, w3⟩ := zfU (k := .u64) (d := d) h3
   obtain ⟨l, hl, hr, hw⟩ := ztf n r (by simp at h; omega) (fun i hi => by
    have := hc (i + 4) (by simp; omega)
    rwa [show (i + 4) % 4 = i % 4 from by omega] at this)
   refine ⟨⟨a, b, c, d⟩ :: l, by simp [hl], by rw [hr]; rfl, fun e he => ?_⟩
   rcases List.mem_cons.1 he with rfl | he
   ·exact ⟨w0, w1, w2, w3⟩
   ·exact hw e he
  | [], h, _ => simp at h
  | [_], h, _ => simp at h; omega
  | [_, _], h, _ => simp at h; omega
  | [_, _, _], h, _ => simp at h; omega
theorem zwC {xs : List DV} (h : RowIn [.int .i64, .int .i64, .int .i64, .int .u64] xs) : ∃ l : List Ev, xs = encE l ∧ l.length ≤ maxLen ∧ ∀ e ∈ l, (Lit.int .i64 e.c).wf = true ∧ (Lit.int .i64 e.k).wf = true ∧ (Lit.int .i64 e.n).wf = true ∧ (Lit.int .u64 e.v).wf = true := by
 obtain ⟨n, hn, hlen⟩ := h.len
 obtain ⟨l, h1, h2, h3⟩ := ztf n xs hlen h.cell
 exact ⟨l, h2, by omega, h3⟩
theorem ztX (xs : List DV) (h : zkX sh5 xs) (_hlen : xs.length = nInV sh5) : (s5.need = true → (dget (g5 xs) 0).toB = true) ∧ (dget (g5 xs) (if s5.need then 1 else 0)).toB = true := by
 have e : sh5 = [.row [.int .i64, .int .i64, .int .i64, .int .u64], .pl (.one (.int .i64)), .pl (.one (.int .u64)), .pl (.one (.int .i64))] := by kernel_rfl
 rw [e] at h
 obtain ⟨⟨v, hv, hr⟩, h1, h2, h3, h4⟩ := h
 obtain ⟨l, rfl, _, _⟩ := zwC hr
 match xs, hv, h1, h2, h3, _hlen with
 | [y, x1, x2, x3], hv, h1, h2, h3, _ =>
  have hv : some y = some (.l (encE l)) := hv
  cases hv
  obtain ⟨n1, rfl, _⟩ := zfU (k := .i64) (d := x1) h1
  obtain ⟨n2, rfl, _⟩ := zfU (k := .u64) (d := x2) h2
  obtain ⟨n3, rfl, w3⟩ := zfU (k := .i64) (d := x3) h3
  have hb : -9223372036854775808 ≤ n3 ∧ n3 ≤ 9223372036854775807 := by simpa [Lit.wf, IntKind.min, IntKind.max, IntKind.bits, IntKind.signed] using w3
  obtain ⟨r1, r2⟩ := zvx l n1 n2 n3 (by unfold zhg; rw [Bool.and_eq_true, decide_eq_true_eq, decide_eq_true_eq]; omega)
  exact ⟨fun _ => r1, r2⟩
theorem zmp (os : Os) (started : os.Started) (H : Type) (enc : TypeId × Value → H) :
  ReturnsInHanded {} Try.checked os 5 .any (Rows.busMaySpec.pre6 enc Try.prog Try.f5 [] false) (Rows.busMaySpec.post enc Try.prog Try.f5 false true false false) :=
 zo5 (C := Try.checked) (fn := Try.f5) (sg := s5) (G := g5) (I := WI) (ss := sh5) (tb := (Try.f5.resultTypes.getD 0 0)) k5 (by kernel_rfl) ⟨by kernel_rfl, by kernel_rfl, by kernel_rfl, rfl, rfl, rfl⟩ (by kernel_rfl) (by kernel_rfl) rfl
  (fun ds h => match ds, (h.trans (by kernel_rfl) : ds.length = 4) with | [_, _, _, _], _ => rfl)
  ⟨by kernel_rfl, by kernel_rfl, by kernel_rfl, by kernel_rfl⟩
  ztX (fun _ => trivial) rfl own5 started (by kernel_rfl) Try.func5
  (ChangeSpec.witness6 (enc := enc) (C := Try.checked) false ⟨#[], #[.slice none 0 0, .int .i64 0, .int .u64 0, .int .i64 0], []⟩ 8 (by kernel_rfl) (by kernel_rfl) (by kernel_rfl) (by kernel_rfl))
theorem busMay_holds : Rows.BusMaySaid :=
 OpenClaim.holds_of_wide 5 Try.f5 rfl rfl rfl rfl rfl rfl rfl ⟨rfl, rfl, rfl, rfl, rfl⟩ rfl rfl rfl rfl rfl (by kernel_rfl) Try.func5 (by kernel_rfl)
  (of_decide_eq_true (by kernel_rfl)) (by unfold Func.isWrapper; first | (rw [if_pos (by decide +kernel)]; kernel_rfl) | (rw [if_neg (by decide +kernel)]; exact ⟨rfl, rfl⟩))
  (fun os started H enc _ => zmp os started H enc)
#print axioms busMay_holds
end Go.Proofs.Ytiabiimoalkmjaa
