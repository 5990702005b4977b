/- BusInputs: whatever the input, the law gives true, and the input reads as it did. No condition. -/
import Derived.Test.YtiabiimoalkmjaaA5
import Derived.Test.YtiabiimoalkmjaaA6
import Derived.Test.YtiabiimoalkmjaaRows
namespace Go.Proofs.Ytiabiimoalkmjaa
open Go Go.Sx Go.RowKit
set_option maxRecDepth 100000
theorem own4 : ownKnob Try.prog.godebug = none := by kernel_rfl
noncomputable def sh4 : List ShV := (zc4 Try.prog Try.f4.params.toList).getD []
theorem zjC {k : IntKind} {d : DV} (h : RangeOk [LT.int k] [d]) : ∃ n, d = .i n ∧ (Lit.int k n).wf = true := by
 cases d with
 | i n => exact ⟨n, rfl, h.1⟩
 | b _ => exact absurd h (by simp [RangeOk])
 | l _ => exact absurd h (by simp [RangeOk])
theorem zr5 : ∀ (n : Nat) (xs : List DV), xs.length = n * 4 → (∀ i, i < xs.length → RangeOk [([LT.int .i64, .int .i64, .int .i64, .int .u64] : List LT).getD (i % 4) .bool] [xs.getD i default]) →
  ∃ l : List Ev, l.length = n ∧ xs = encE l ∧ ∀ e ∈ l, (Lit.int .i64 e.c).wf = true ∧ (Lit.int .i64 e.k).wf = true ∧ (Lit.int .i64 e.n).wf = true ∧ (Lit.int .u64 e.v).wf = true
 | 0, xs, h, _ => ⟨[], rfl, by have : xs = [] := List.eq_nil_of_length_eq_zero (by omega); rw [this]; rfl, fun e he => by cases he⟩
 | n + 1, xs, h, hc => by
  match xs, h, hc with
  | a :: b :: c :: d :: r, h, hc =>
   have h0 := hc 0 (by simp)
   have h1 := hc 1 (by simp)
   have h2 := hc 2 (by simp)
   have h3 := hc 3 (by simp)
   obtain ⟨a, rfl, w0⟩ := zjC (k := .i64) (d := a) h0
   obtain ⟨b, rfl, w1⟩ := zjC (k := .i64) (d := b) h1
   obtain ⟨c, rfl, w2⟩ := zjC (k := .i64) (d := c) h2
   obtain ⟨d, rfl, w3⟩ := zjC (k := .u64) (d := d) h3
   obtain ⟨l, hl, hr, hw⟩ := zr5 n r (by simp at h; omega) (fun i hi => by
    have := hc (i + 4) (by simp; omega)
    rwa [show (i + 4) % 4 = i % 4 from by omega] at this)
   refine ⟨⟨a, b, c, d⟩ :: l, by simp [hl], by rw [hr]; rfl, fun e he => ?_⟩
   rcases List.mem_cons.1 he with rfl | he
   ·exact ⟨w0, w1, w2, w3⟩
   ·exact hw e he
  | [], h, _ => simp at h
  | [_], h, _ => simp at h; omega
  | [_, _], h, _ => simp at h; omega
  | [_, _, _], h, _ => simp at h; omega
theorem zuR {xs : List DV} (h : RowIn [.int .i64, .int .i64, .int .i64, .int .u64] xs) : ∃ l : List Ev, xs = encE l ∧ l.length ≤ maxLen ∧ ∀ e ∈ l, (Lit.int .i64 e.c).wf = true ∧ (Lit.int .i64 e.k).wf = true ∧ (Lit.int .i64 e.n).wf = true ∧ (Lit.int .u64 e.v).wf = true := by
 obtain ⟨n, hn, hlen⟩ := h.len
 obtain ⟨l, h1, h2, h3⟩ := zr5 n xs hlen h.cell
 exact ⟨l, h2, by omega, h3⟩
theorem zoq (xs : List DV) (h : zkx sh4 xs) (_hlen : xs.length = nInV sh4) : (s4.need = true → (dget (g4 xs) 0).toB = true) ∧ (dget (g4 xs) (if s4.need then 1 else 0)).toB = true := by
 have e : sh4 = [.pl (.one (.int .i64)), .row [.int .i64, .int .i64, .int .i64, .int .u64]] := by kernel_rfl
 rw [e] at h
 obtain ⟨h0, ⟨v, hv, hr⟩, h2⟩ := h
 obtain ⟨l, rfl, _, _⟩ := zuR hr
 match xs, h0, hv, h2 with
 | [x, y], h0, hv, _ =>
  have hv : some y = some (.l (encE l)) := hv
  cases hv
  obtain ⟨n, rfl, w0⟩ := zjC (k := .i64) (d := x) h0
  have hb : -9223372036854775808 ≤ n ∧ n ≤ 9223372036854775807 := by simpa [Lit.wf, IntKind.min, IntKind.max, IntKind.bits, IntKind.signed] using w0
  obtain ⟨r1, r2⟩ := zp1 n l hb
  exact ⟨fun _ => r1, r2⟩
theorem zhG (os : Os) (started : os.Started) (H : Type) (enc : TypeId × Value → H) :
  ReturnsInHanded {} Try.checked os 4 .any (Rows.busInputsSpec.pre6 enc Try.prog Try.f4 [] false) (Rows.busInputsSpec.post enc Try.prog Try.f4 false true false false) :=
 zop (C := Try.checked) (fn := Try.f4) (sg := s4) (G := g4) (I := WI) (ss := sh4) (tb := (Try.f4.resultTypes.getD 0 0)) k4 (by kernel_rfl) ⟨by kernel_rfl, by kernel_rfl, by kernel_rfl, rfl, rfl, rfl⟩ (by kernel_rfl) (by kernel_rfl) rfl
  (fun ds h => match ds, (h.trans (by kernel_rfl) : ds.length = 2) with | [_, _], _ => rfl)
  ⟨by kernel_rfl, by kernel_rfl, by kernel_rfl, by kernel_rfl⟩
  zoq (fun _ => trivial) rfl own4 started (by kernel_rfl) Try.func4
  (ChangeSpec.witness6 (enc := enc) (C := Try.checked) false ⟨#[], #[.int .i64 0, .slice none 0 0], []⟩ 8 (by kernel_rfl) (by kernel_rfl) (by kernel_rfl) (by kernel_rfl))
theorem busInputs_holds : Rows.BusInputsSaid :=
 OpenClaim.holds_of_wide 4 Try.f4 rfl rfl rfl rfl rfl rfl rfl ⟨rfl, rfl, rfl, rfl, rfl⟩ rfl rfl rfl rfl rfl (by kernel_rfl) Try.func4 (by kernel_rfl)
  (of_decide_eq_true (by kernel_rfl)) (by unfold Func.isWrapper; first | (rw [if_pos (by decide +kernel)]; kernel_rfl) | (rw [if_neg (by decide +kernel)]; exact ⟨rfl, rfl⟩))
  (fun os started H enc _ => zhG os started H enc)
#print axioms busInputs_holds
end Go.Proofs.Ytiabiimoalkmjaa
