/- The plain law of PmpWrites: what is written is what the document says. -/
import Derived.Test.YtoebecinndbnoaaDoorPmA
namespace Go.Proofs.YtoebecinndbnoaaDoor
open Go Go.Sx
set_option maxRecDepth 100000
set_option maxHeartbeats 2000000

def R8 (x : Int) : Prop := 0 ≤ x ∧ x < 256
def R64 (x : Int) : Prop := 0 ≤ x ∧ x < 18446744073709551616
theorem R8.nat {x : Int} (h : R8 x) : ∃ n : Nat, n < 256 ∧ x = n := ⟨x.toNat, by have := h.1; have := h.2; omega, by have := h.1; omega⟩
theorem R64.nat {x : Int} (h : R64 x) : ∃ n : Nat, n < 18446744073709551616 ∧ x = n := ⟨x.toNat, by have := h.1; have := h.2; omega, by have := h.1; omega⟩
theorem byte_all {P : Int → Bool} (h : ∀ n : Fin 256, P (n.val : Int) = true) {x : Int} (hx : R8 x) : P x = true := by
  obtain ⟨n, hn, rfl⟩ := hx.nat
  exact h ⟨n, hn⟩

theorem b_lock {c : Int} (h : R8 c) : (iland .u8 c 128 == 0) = !(r22_0 c 7) := by
  have := byte_all (P := fun c => (iland .u8 c 128 == 0) == !(r22_0 c 7)) (by decide +kernel) h
  simpa using this
theorem b_lock' {c : Int} (h : R8 c) : (iland .u8 c 128 != 0) = r22_0 c 7 := by
  have := byte_all (P := fun c => (iland .u8 c 128 != 0) == r22_0 c 7) (by decide +kernel) h
  exact eq_of_beq this
theorem b_odd {c : Int} (h : R8 c) : (iland .u8 c 3 != 2) = !(r22_0 c 1 && !(r22_0 c 0)) := by
  have := byte_all (P := fun c => (iland .u8 c 3 != 2) == !(r22_0 c 1 && !(r22_0 c 0))) (by decide +kernel) h
  exact eq_of_beq this
theorem b_clear {c : Int} (h : R8 c) : ilandNot .u8 c 96 = iland .u8 c 159 := by
  have := byte_all (P := fun c => ilandNot .u8 c 96 == iland .u8 c 159) (by decide +kernel) h
  exact eq_of_beq this
theorem b_way {c : Int} (h : R8 c) : (r17_0 c == 1) = (r20_0 c == 1) := by
  have := byte_all (P := fun c => (r17_0 c == 1) == (r20_0 c == 1)) (by decide +kernel) h
  exact eq_of_beq this

theorem wrap_u8 (n : Int) : IntKind.wrap .u8 n = n % 256 := by simp [IntKind.wrap, IntKind.signed, IntKind.bits]
theorem wrap_u64 (n : Int) : IntKind.wrap .u64 n = n % 18446744073709551616 := by simp [IntKind.wrap, IntKind.signed, IntKind.bits]
theorem wrap_u8_R (n : Int) : R8 (IntKind.wrap .u8 n) := by rw [wrap_u8]; constructor <;> omega
theorem tdiv_256 {v : Int} (h : R64 v) : IntKind.wrap .u64 (Int.tdiv v 256) = v / 256 ∧ R64 (v / 256) := by
  have h1 := h.1; have h2 := h.2
  rw [Int.tdiv_eq_ediv_of_nonneg h1, wrap_u64]
  refine ⟨?_, ?_, ?_⟩ <;> omega
theorem shr_of {v : Int} (k : Nat) (hk : k ≤ 64) : ishr .u64 v k = v / (2 ^ k : Int) := by
  unfold ishr
  rw [show min (Int.toNat (k : Int)) (IntKind.bits .u64) = k from by simp [IntKind.bits]; omega]
  exact Int.fdiv_eq_ediv_of_nonneg _ (by exact Int.le_of_lt (Int.pow_pos (by decide)))

/-- One byte's new setting. -/
theorem cfg_byte {c b b' : Int} (hc : R8 c) (hb : R8 b') (h : b = b') :
    (bif (iland .u8 c 128 == 0) && (iland .u8 b 3 != 2) then ilandNot .u8 b 96 else c) = (bif !(r22_0 c 7) && !(r22_0 b' 1 && !(r22_0 b' 0)) then iland .u8 b' 159 else c) := by
  subst h
  rw [b_lock hc, b_odd hb, b_clear hb]

theorem byte_0 {v : Int} (h : R64 v) : IntKind.wrap .u8 (ishr .u64 v 0) = IntKind.wrap .u8 v := by
  have e : ishr .u64 v 0 = v / (2 ^ 0 : Int) := shr_of (v := v) 0 (by decide)
  rw [e]; simp
theorem byte_1 {v : Int} (h : R64 v) : IntKind.wrap .u8 (ishr .u64 v 8) = IntKind.wrap .u8 (IntKind.wrap .u64 (Int.tdiv v 256)) := by
  have e : ishr .u64 v 8 = v / (2 ^ 8 : Int) := shr_of (v := v) 8 (by decide)
  have t1 := tdiv_256 h
  rw [e, t1.1, wrap_u8, wrap_u8]
  have h1 := h.1; have h2 := h.2
  omega
theorem byte_2 {v : Int} (h : R64 v) : IntKind.wrap .u8 (ishr .u64 v 16) = IntKind.wrap .u8 (IntKind.wrap .u64 (Int.tdiv (IntKind.wrap .u64 (Int.tdiv v 256)) 256)) := by
  have e : ishr .u64 v 16 = v / (2 ^ 16 : Int) := shr_of (v := v) 16 (by decide)
  have t1 := tdiv_256 h
  have t2 := tdiv_256 t1.2
  rw [e, t1.1, t2.1, wrap_u8, wrap_u8]
  have h1 := h.1; have h2 := h.2
  omega
theorem byte_3 {v : Int} (h : R64 v) : IntKind.wrap .u8 (ishr .u64 v 24) = IntKind.wrap .u8 (IntKind.wrap .u64 (Int.tdiv (IntKind.wrap .u64 (Int.tdiv (IntKind.wrap .u64 (Int.tdiv v 256)) 256)) 256)) := by
  have e : ishr .u64 v 24 = v / (2 ^ 24 : Int) := shr_of (v := v) 24 (by decide)
  have t1 := tdiv_256 h
  have t2 := tdiv_256 t1.2
  have t3 := tdiv_256 t2.2
  rw [e, t1.1, t2.1, t3.1, wrap_u8, wrap_u8]
  have h1 := h.1; have h2 := h.2
  omega
theorem byte_4 {v : Int} (h : R64 v) : IntKind.wrap .u8 (ishr .u64 v 32) = IntKind.wrap .u8 (IntKind.wrap .u64 (Int.tdiv (IntKind.wrap .u64 (Int.tdiv (IntKind.wrap .u64 (Int.tdiv (IntKind.wrap .u64 (Int.tdiv v 256)) 256)) 256)) 256)) := by
  have e : ishr .u64 v 32 = v / (2 ^ 32 : Int) := shr_of (v := v) 32 (by decide)
  have t1 := tdiv_256 h
  have t2 := tdiv_256 t1.2
  have t3 := tdiv_256 t2.2
  have t4 := tdiv_256 t3.2
  rw [e, t1.1, t2.1, t3.1, t4.1, wrap_u8, wrap_u8]
  have h1 := h.1; have h2 := h.2
  omega
theorem byte_5 {v : Int} (h : R64 v) : IntKind.wrap .u8 (ishr .u64 v 40) = IntKind.wrap .u8 (IntKind.wrap .u64 (Int.tdiv (IntKind.wrap .u64 (Int.tdiv (IntKind.wrap .u64 (Int.tdiv (IntKind.wrap .u64 (Int.tdiv (IntKind.wrap .u64 (Int.tdiv v 256)) 256)) 256)) 256)) 256)) := by
  have e : ishr .u64 v 40 = v / (2 ^ 40 : Int) := shr_of (v := v) 40 (by decide)
  have t1 := tdiv_256 h
  have t2 := tdiv_256 t1.2
  have t3 := tdiv_256 t2.2
  have t4 := tdiv_256 t3.2
  have t5 := tdiv_256 t4.2
  rw [e, t1.1, t2.1, t3.1, t4.1, t5.1, wrap_u8, wrap_u8]
  have h1 := h.1; have h2 := h.2
  omega
theorem byte_6 {v : Int} (h : R64 v) : IntKind.wrap .u8 (ishr .u64 v 48) = IntKind.wrap .u8 (IntKind.wrap .u64 (Int.tdiv (IntKind.wrap .u64 (Int.tdiv (IntKind.wrap .u64 (Int.tdiv (IntKind.wrap .u64 (Int.tdiv (IntKind.wrap .u64 (Int.tdiv (IntKind.wrap .u64 (Int.tdiv v 256)) 256)) 256)) 256)) 256)) 256)) := by
  have e : ishr .u64 v 48 = v / (2 ^ 48 : Int) := shr_of (v := v) 48 (by decide)
  have t1 := tdiv_256 h
  have t2 := tdiv_256 t1.2
  have t3 := tdiv_256 t2.2
  have t4 := tdiv_256 t3.2
  have t5 := tdiv_256 t4.2
  have t6 := tdiv_256 t5.2
  rw [e, t1.1, t2.1, t3.1, t4.1, t5.1, t6.1, wrap_u8, wrap_u8]
  have h1 := h.1; have h2 := h.2
  omega
theorem byte_7 {v : Int} (h : R64 v) : IntKind.wrap .u8 (ishr .u64 v 56) = IntKind.wrap .u8 (IntKind.wrap .u64 (Int.tdiv (IntKind.wrap .u64 (Int.tdiv (IntKind.wrap .u64 (Int.tdiv (IntKind.wrap .u64 (Int.tdiv (IntKind.wrap .u64 (Int.tdiv (IntKind.wrap .u64 (Int.tdiv (IntKind.wrap .u64 (Int.tdiv v 256)) 256)) 256)) 256)) 256)) 256)) 256)) := by
  have e : ishr .u64 v 56 = v / (2 ^ 56 : Int) := shr_of (v := v) 56 (by decide)
  have t1 := tdiv_256 h
  have t2 := tdiv_256 t1.2
  have t3 := tdiv_256 t2.2
  have t4 := tdiv_256 t3.2
  have t5 := tdiv_256 t4.2
  have t6 := tdiv_256 t5.2
  have t7 := tdiv_256 t6.2
  rw [e, t1.1, t2.1, t3.1, t4.1, t5.1, t6.1, t7.1, wrap_u8, wrap_u8]
  have h1 := h.1; have h2 := h.2
  omega
theorem cfg_0 {x0 x1 x2 x3 x4 x5 x6 x7 v : Int} (h : R8 x0) (hv : R64 v) : r13_0 x0 x1 x2 x3 x4 x5 x6 x7 v = r14_0 x0 x1 x2 x3 x4 x5 x6 x7 v :=
  cfg_byte h (wrap_u8_R _) (byte_0 hv)
theorem cfg_1 {x0 x1 x2 x3 x4 x5 x6 x7 v : Int} (h : R8 x1) (hv : R64 v) : r13_1 x0 x1 x2 x3 x4 x5 x6 x7 v = r14_1 x0 x1 x2 x3 x4 x5 x6 x7 v :=
  cfg_byte h (wrap_u8_R _) (byte_1 hv)
theorem cfg_2 {x0 x1 x2 x3 x4 x5 x6 x7 v : Int} (h : R8 x2) (hv : R64 v) : r13_2 x0 x1 x2 x3 x4 x5 x6 x7 v = r14_2 x0 x1 x2 x3 x4 x5 x6 x7 v :=
  cfg_byte h (wrap_u8_R _) (byte_2 hv)
theorem cfg_3 {x0 x1 x2 x3 x4 x5 x6 x7 v : Int} (h : R8 x3) (hv : R64 v) : r13_3 x0 x1 x2 x3 x4 x5 x6 x7 v = r14_3 x0 x1 x2 x3 x4 x5 x6 x7 v :=
  cfg_byte h (wrap_u8_R _) (byte_3 hv)
theorem cfg_4 {x0 x1 x2 x3 x4 x5 x6 x7 v : Int} (h : R8 x4) (hv : R64 v) : r13_4 x0 x1 x2 x3 x4 x5 x6 x7 v = r14_4 x0 x1 x2 x3 x4 x5 x6 x7 v :=
  cfg_byte h (wrap_u8_R _) (byte_4 hv)
theorem cfg_5 {x0 x1 x2 x3 x4 x5 x6 x7 v : Int} (h : R8 x5) (hv : R64 v) : r13_5 x0 x1 x2 x3 x4 x5 x6 x7 v = r14_5 x0 x1 x2 x3 x4 x5 x6 x7 v :=
  cfg_byte h (wrap_u8_R _) (byte_5 hv)
theorem cfg_6 {x0 x1 x2 x3 x4 x5 x6 x7 v : Int} (h : R8 x6) (hv : R64 v) : r13_6 x0 x1 x2 x3 x4 x5 x6 x7 v = r14_6 x0 x1 x2 x3 x4 x5 x6 x7 v :=
  cfg_byte h (wrap_u8_R _) (byte_6 hv)
theorem cfg_7 {x0 x1 x2 x3 x4 x5 x6 x7 v : Int} (h : R8 x7) (hv : R64 v) : r13_7 x0 x1 x2 x3 x4 x5 x6 x7 v = r14_7 x0 x1 x2 x3 x4 x5 x6 x7 v :=
  cfg_byte h (wrap_u8_R _) (byte_7 hv)

theorem p22_ok (c : Int) (k : Nat) : p22 c k = true := by simp [p22, ow]
theorem ow_t (l : List (Bool × Bool)) : ow l true = true := by simp [ow]
theorem p14_ok {x0 x1 x2 x3 x4 x5 x6 x7 v : Int} : p14 x0 x1 x2 x3 x4 x5 x6 x7 v = true := by
  have h7 : ∀ c, p22 c 7 = true := fun c => p22_ok c 7
  have h1 : ∀ c, p22 c 1 = true := fun c => p22_ok c 1
  have h0 : ∀ c, p22 c 0 = true := fun c => p22_ok c 0
  simp only [p14, h7, h1, h0, ow_t, List.all_cons, List.all_nil, id, Bool.and_self]

theorem getD_R {x0 x1 x2 x3 x4 x5 x6 x7 : Int} (h0 : R8 x0) (h1 : R8 x1) (h2 : R8 x2) (h3 : R8 x3) (h4 : R8 x4) (h5 : R8 x5) (h6 : R8 x6) (h7 : R8 x7) (n : Nat) : R8 ([x0, x1, x2, x3, x4, x5, x6, x7].getD n 0) := by
  have key : ∀ l : List Int, (∀ x ∈ l, R8 x) → R8 (l.getD n 0) := by
    intro l hl
    rw [List.getD_eq_getElem?_getD]
    cases h : l[n]? with
    | none => exact ⟨by decide, by decide⟩
    | some x => exact hl x (List.mem_of_getElem? h)
  refine key _ ?_
  simp only [List.mem_cons, List.not_mem_nil, or_false]
  rintro x (rfl|rfl|rfl|rfl|rfl|rfl|rfl|rfl) <;> assumption

theorem land54 {v : Int} (h : R64 v) : iland .u64 v 18014398509481983 = r19_0 v := by
  obtain ⟨n, hn, rfl⟩ := h.nat
  have e1 : (BitVec.ofInt 64 (n : Int)).toNat = n := by
    rw [BitVec.ofInt_natCast, BitVec.toNat_ofNat]; exact Nat.mod_eq_of_lt (by omega)
  have e2 : (BitVec.ofInt 64 (18014398509481983 : Int)).toNat = 18014398509481983 := by decide +kernel
  have e3 : n &&& 18014398509481983 = n % 18014398509481984 := by
    have := Nat.and_two_pow_sub_one_eq_mod n 54
    simpa using this
  show IntKind.wrap .u64 ((BitVec.ofInt 64 (n : Int) &&& BitVec.ofInt 64 (18014398509481983 : Int)).toNat : Int) = Int.tmod (n : Int) 18014398509481984
  rw [BitVec.toNat_and, e1, e2, e3, wrap_u64, Int.tmod_eq_emod_of_nonneg (by omega)]
  omega

theorem W15 {A A' B B' e : Bool} {w w' x : Int} (h1 : A = A') (h2 : A = true → B = B') (h3 : w = w') :
    (bif A then (bif B then (bif e then w else x) else x) else x) = (bif A' then (bif B' then (bif e then w' else x) else x) else x) := by
  subst h1; subst h3
  cases A
  · rfl
  · rw [h2 rfl]

/-- The first test and the second, of the program's and of the document's. -/
def out15 (n : Int) : Bool := decide (n < 0) || decide (n ≥ 8)
theorem i64_next {n : Int} (h0 : 0 ≤ n) (h8 : n < 8) : IntKind.wrap .i64 (n + 1) = n + 1 := by
  rw [IntKind.wrap_i64]; omega


section
variable {x0 x1 x2 x3 x4 x5 x6 x7 n : Int}
abbrev sel (l : List Int) (n : Int) : Int := l.getD (Int.toNat n) 0
theorem may_A (h0 : R8 x0) (h1 : R8 x1) (h2 : R8 x2) (h3 : R8 x3) (h4 : R8 x4) (h5 : R8 x5) (h6 : R8 x6) (h7 : R8 x7) :
    (!((decide (n < 0) || decide (n ≥ 8)) || (iland .u8 (sel [x0, x1, x2, x3, x4, x5, x6, x7] n) 128 != 0))) = ((!(decide (n < 0) || decide (n > 7))) && !(r22_0 (sel [x0, x1, x2, x3, x4, x5, x6, x7] n) 7)) := by
  rw [b_lock' (getD_R h0 h1 h2 h3 h4 h5 h6 h7 _)]
  have : decide (n ≥ 8) = decide (n > 7) := by simp; omega
  rw [this]
  simp
end

theorem W16 {Q L M N S e : Bool} {w x : Int} :
    (bif (Q && !L) then (bif !(N && M && S) then (bif e then w else x) else x) else x) = (bif Q then (bif !(bif N then (L || (M && S)) else L) then (bif e then w else x) else x) else x) := by
  cases Q <;> cases L <;> cases M <;> cases N <;> cases S <;> rfl

theorem addr_0 {x0 x1 x2 x3 x4 x5 x6 x7 x8 x9 x10 x11 x12 x13 x14 x15 n v : Int} (h0 : R8 x0) (h1 : R8 x1) (h2 : R8 x2) (h3 : R8 x3) (h4 : R8 x4) (h5 : R8 x5) (h6 : R8 x6) (h7 : R8 x7) (hv : R64 v) : r15_0 x0 x1 x2 x3 x4 x5 x6 x7 x8 x9 x10 x11 x12 x13 x14 x15 n v = r16_0 x0 x1 x2 x3 x4 x5 x6 x7 x8 x9 x10 x11 x12 x13 x14 x15 n v := by
  have hs := getD_R h0 h1 h2 h3 h4 h5 h6 h7 (Int.toNat (IntKind.wrap .i64 (n + 1)))
  refine (W15 (may_A (n := n) h0 h1 h2 h3 h4 h5 h6 h7) (B' := !(decide (n < 7) && (r22_0 (sel [x0, x1, x2, x3, x4, x5, x6, x7] (IntKind.wrap .i64 (n + 1))) 7) && (r20_0 (sel [x0, x1, x2, x3, x4, x5, x6, x7] (IntKind.wrap .i64 (n + 1))) == 1))) (fun hA => ?_) (land54 hv)).trans ?_
  · have hn : 0 ≤ n ∧ n < 8 := by
      simp only [Bool.not_eq_true', Bool.or_eq_false_iff, decide_eq_false_iff_not] at hA
      omega
    have hd : decide (IntKind.wrap .i64 (n + 1) < 8) = decide (n < 7) := by rw [i64_next hn.1 hn.2]; simp; omega
    show (!((decide (IntKind.wrap .i64 (n + 1) < 8) && (iland .u8 (sel [x0, x1, x2, x3, x4, x5, x6, x7] (IntKind.wrap .i64 (n + 1))) 128 != 0)) && (r17_0 (sel [x0, x1, x2, x3, x4, x5, x6, x7] (IntKind.wrap .i64 (n + 1))) == 1))) = _
    rw [hd, b_lock' hs, b_way hs]
  · exact W16
theorem addr_1 {x0 x1 x2 x3 x4 x5 x6 x7 x8 x9 x10 x11 x12 x13 x14 x15 n v : Int} (h0 : R8 x0) (h1 : R8 x1) (h2 : R8 x2) (h3 : R8 x3) (h4 : R8 x4) (h5 : R8 x5) (h6 : R8 x6) (h7 : R8 x7) (hv : R64 v) : r15_1 x0 x1 x2 x3 x4 x5 x6 x7 x8 x9 x10 x11 x12 x13 x14 x15 n v = r16_1 x0 x1 x2 x3 x4 x5 x6 x7 x8 x9 x10 x11 x12 x13 x14 x15 n v := by
  have hs := getD_R h0 h1 h2 h3 h4 h5 h6 h7 (Int.toNat (IntKind.wrap .i64 (n + 1)))
  refine (W15 (may_A (n := n) h0 h1 h2 h3 h4 h5 h6 h7) (B' := !(decide (n < 7) && (r22_0 (sel [x0, x1, x2, x3, x4, x5, x6, x7] (IntKind.wrap .i64 (n + 1))) 7) && (r20_0 (sel [x0, x1, x2, x3, x4, x5, x6, x7] (IntKind.wrap .i64 (n + 1))) == 1))) (fun hA => ?_) (land54 hv)).trans ?_
  · have hn : 0 ≤ n ∧ n < 8 := by
      simp only [Bool.not_eq_true', Bool.or_eq_false_iff, decide_eq_false_iff_not] at hA
      omega
    have hd : decide (IntKind.wrap .i64 (n + 1) < 8) = decide (n < 7) := by rw [i64_next hn.1 hn.2]; simp; omega
    show (!((decide (IntKind.wrap .i64 (n + 1) < 8) && (iland .u8 (sel [x0, x1, x2, x3, x4, x5, x6, x7] (IntKind.wrap .i64 (n + 1))) 128 != 0)) && (r17_0 (sel [x0, x1, x2, x3, x4, x5, x6, x7] (IntKind.wrap .i64 (n + 1))) == 1))) = _
    rw [hd, b_lock' hs, b_way hs]
  · exact W16
theorem addr_2 {x0 x1 x2 x3 x4 x5 x6 x7 x8 x9 x10 x11 x12 x13 x14 x15 n v : Int} (h0 : R8 x0) (h1 : R8 x1) (h2 : R8 x2) (h3 : R8 x3) (h4 : R8 x4) (h5 : R8 x5) (h6 : R8 x6) (h7 : R8 x7) (hv : R64 v) : r15_2 x0 x1 x2 x3 x4 x5 x6 x7 x8 x9 x10 x11 x12 x13 x14 x15 n v = r16_2 x0 x1 x2 x3 x4 x5 x6 x7 x8 x9 x10 x11 x12 x13 x14 x15 n v := by
  have hs := getD_R h0 h1 h2 h3 h4 h5 h6 h7 (Int.toNat (IntKind.wrap .i64 (n + 1)))
  refine (W15 (may_A (n := n) h0 h1 h2 h3 h4 h5 h6 h7) (B' := !(decide (n < 7) && (r22_0 (sel [x0, x1, x2, x3, x4, x5, x6, x7] (IntKind.wrap .i64 (n + 1))) 7) && (r20_0 (sel [x0, x1, x2, x3, x4, x5, x6, x7] (IntKind.wrap .i64 (n + 1))) == 1))) (fun hA => ?_) (land54 hv)).trans ?_
  · have hn : 0 ≤ n ∧ n < 8 := by
      simp only [Bool.not_eq_true', Bool.or_eq_false_iff, decide_eq_false_iff_not] at hA
      omega
    have hd : decide (IntKind.wrap .i64 (n + 1) < 8) = decide (n < 7) := by rw [i64_next hn.1 hn.2]; simp; omega
    show (!((decide (IntKind.wrap .i64 (n + 1) < 8) && (iland .u8 (sel [x0, x1, x2, x3, x4, x5, x6, x7] (IntKind.wrap .i64 (n + 1))) 128 != 0)) && (r17_0 (sel [x0, x1, x2, x3, x4, x5, x6, x7] (IntKind.wrap .i64 (n + 1))) == 1))) = _
    rw [hd, b_lock' hs, b_way hs]
  · exact W16
theorem addr_3 {x0 x1 x2 x3 x4 x5 x6 x7 x8 x9 x10 x11 x12 x13 x14 x15 n v : Int} (h0 : R8 x0) (h1 : R8 x1) (h2 : R8 x2) (h3 : R8 x3) (h4 : R8 x4) (h5 : R8 x5) (h6 : R8 x6) (h7 : R8 x7) (hv : R64 v) : r15_3 x0 x1 x2 x3 x4 x5 x6 x7 x8 x9 x10 x11 x12 x13 x14 x15 n v = r16_3 x0 x1 x2 x3 x4 x5 x6 x7 x8 x9 x10 x11 x12 x13 x14 x15 n v := by
  have hs := getD_R h0 h1 h2 h3 h4 h5 h6 h7 (Int.toNat (IntKind.wrap .i64 (n + 1)))
  refine (W15 (may_A (n := n) h0 h1 h2 h3 h4 h5 h6 h7) (B' := !(decide (n < 7) && (r22_0 (sel [x0, x1, x2, x3, x4, x5, x6, x7] (IntKind.wrap .i64 (n + 1))) 7) && (r20_0 (sel [x0, x1, x2, x3, x4, x5, x6, x7] (IntKind.wrap .i64 (n + 1))) == 1))) (fun hA => ?_) (land54 hv)).trans ?_
  · have hn : 0 ≤ n ∧ n < 8 := by
      simp only [Bool.not_eq_true', Bool.or_eq_false_iff, decide_eq_false_iff_not] at hA
      omega
    have hd : decide (IntKind.wrap .i64 (n + 1) < 8) = decide (n < 7) := by rw [i64_next hn.1 hn.2]; simp; omega
    show (!((decide (IntKind.wrap .i64 (n + 1) < 8) && (iland .u8 (sel [x0, x1, x2, x3, x4, x5, x6, x7] (IntKind.wrap .i64 (n + 1))) 128 != 0)) && (r17_0 (sel [x0, x1, x2, x3, x4, x5, x6, x7] (IntKind.wrap .i64 (n + 1))) == 1))) = _
    rw [hd, b_lock' hs, b_way hs]
  · exact W16
theorem addr_4 {x0 x1 x2 x3 x4 x5 x6 x7 x8 x9 x10 x11 x12 x13 x14 x15 n v : Int} (h0 : R8 x0) (h1 : R8 x1) (h2 : R8 x2) (h3 : R8 x3) (h4 : R8 x4) (h5 : R8 x5) (h6 : R8 x6) (h7 : R8 x7) (hv : R64 v) : r15_4 x0 x1 x2 x3 x4 x5 x6 x7 x8 x9 x10 x11 x12 x13 x14 x15 n v = r16_4 x0 x1 x2 x3 x4 x5 x6 x7 x8 x9 x10 x11 x12 x13 x14 x15 n v := by
  have hs := getD_R h0 h1 h2 h3 h4 h5 h6 h7 (Int.toNat (IntKind.wrap .i64 (n + 1)))
  refine (W15 (may_A (n := n) h0 h1 h2 h3 h4 h5 h6 h7) (B' := !(decide (n < 7) && (r22_0 (sel [x0, x1, x2, x3, x4, x5, x6, x7] (IntKind.wrap .i64 (n + 1))) 7) && (r20_0 (sel [x0, x1, x2, x3, x4, x5, x6, x7] (IntKind.wrap .i64 (n + 1))) == 1))) (fun hA => ?_) (land54 hv)).trans ?_
  · have hn : 0 ≤ n ∧ n < 8 := by
      simp only [Bool.not_eq_true', Bool.or_eq_false_iff, decide_eq_false_iff_not] at hA
      omega
    have hd : decide (IntKind.wrap .i64 (n + 1) < 8) = decide (n < 7) := by rw [i64_next hn.1 hn.2]; simp; omega
    show (!((decide (IntKind.wrap .i64 (n + 1) < 8) && (iland .u8 (sel [x0, x1, x2, x3, x4, x5, x6, x7] (IntKind.wrap .i64 (n + 1))) 128 != 0)) && (r17_0 (sel [x0, x1, x2, x3, x4, x5, x6, x7] (IntKind.wrap .i64 (n + 1))) == 1))) = _
    rw [hd, b_lock' hs, b_way hs]
  · exact W16
theorem addr_5 {x0 x1 x2 x3 x4 x5 x6 x7 x8 x9 x10 x11 x12 x13 x14 x15 n v : Int} (h0 : R8 x0) (h1 : R8 x1) (h2 : R8 x2) (h3 : R8 x3) (h4 : R8 x4) (h5 : R8 x5) (h6 : R8 x6) (h7 : R8 x7) (hv : R64 v) : r15_5 x0 x1 x2 x3 x4 x5 x6 x7 x8 x9 x10 x11 x12 x13 x14 x15 n v = r16_5 x0 x1 x2 x3 x4 x5 x6 x7 x8 x9 x10 x11 x12 x13 x14 x15 n v := by
  have hs := getD_R h0 h1 h2 h3 h4 h5 h6 h7 (Int.toNat (IntKind.wrap .i64 (n + 1)))
  refine (W15 (may_A (n := n) h0 h1 h2 h3 h4 h5 h6 h7) (B' := !(decide (n < 7) && (r22_0 (sel [x0, x1, x2, x3, x4, x5, x6, x7] (IntKind.wrap .i64 (n + 1))) 7) && (r20_0 (sel [x0, x1, x2, x3, x4, x5, x6, x7] (IntKind.wrap .i64 (n + 1))) == 1))) (fun hA => ?_) (land54 hv)).trans ?_
  · have hn : 0 ≤ n ∧ n < 8 := by
      simp only [Bool.not_eq_true', Bool.or_eq_false_iff, decide_eq_false_iff_not] at hA
      omega
    have hd : decide (IntKind.wrap .i64 (n + 1) < 8) = decide (n < 7) := by rw [i64_next hn.1 hn.2]; simp; omega
    show (!((decide (IntKind.wrap .i64 (n + 1) < 8) && (iland .u8 (sel [x0, x1, x2, x3, x4, x5, x6, x7] (IntKind.wrap .i64 (n + 1))) 128 != 0)) && (r17_0 (sel [x0, x1, x2, x3, x4, x5, x6, x7] (IntKind.wrap .i64 (n + 1))) == 1))) = _
    rw [hd, b_lock' hs, b_way hs]
  · exact W16
theorem addr_6 {x0 x1 x2 x3 x4 x5 x6 x7 x8 x9 x10 x11 x12 x13 x14 x15 n v : Int} (h0 : R8 x0) (h1 : R8 x1) (h2 : R8 x2) (h3 : R8 x3) (h4 : R8 x4) (h5 : R8 x5) (h6 : R8 x6) (h7 : R8 x7) (hv : R64 v) : r15_6 x0 x1 x2 x3 x4 x5 x6 x7 x8 x9 x10 x11 x12 x13 x14 x15 n v = r16_6 x0 x1 x2 x3 x4 x5 x6 x7 x8 x9 x10 x11 x12 x13 x14 x15 n v := by
  have hs := getD_R h0 h1 h2 h3 h4 h5 h6 h7 (Int.toNat (IntKind.wrap .i64 (n + 1)))
  refine (W15 (may_A (n := n) h0 h1 h2 h3 h4 h5 h6 h7) (B' := !(decide (n < 7) && (r22_0 (sel [x0, x1, x2, x3, x4, x5, x6, x7] (IntKind.wrap .i64 (n + 1))) 7) && (r20_0 (sel [x0, x1, x2, x3, x4, x5, x6, x7] (IntKind.wrap .i64 (n + 1))) == 1))) (fun hA => ?_) (land54 hv)).trans ?_
  · have hn : 0 ≤ n ∧ n < 8 := by
      simp only [Bool.not_eq_true', Bool.or_eq_false_iff, decide_eq_false_iff_not] at hA
      omega
    have hd : decide (IntKind.wrap .i64 (n + 1) < 8) = decide (n < 7) := by rw [i64_next hn.1 hn.2]; simp; omega
    show (!((decide (IntKind.wrap .i64 (n + 1) < 8) && (iland .u8 (sel [x0, x1, x2, x3, x4, x5, x6, x7] (IntKind.wrap .i64 (n + 1))) 128 != 0)) && (r17_0 (sel [x0, x1, x2, x3, x4, x5, x6, x7] (IntKind.wrap .i64 (n + 1))) == 1))) = _
    rw [hd, b_lock' hs, b_way hs]
  · exact W16
theorem addr_7 {x0 x1 x2 x3 x4 x5 x6 x7 x8 x9 x10 x11 x12 x13 x14 x15 n v : Int} (h0 : R8 x0) (h1 : R8 x1) (h2 : R8 x2) (h3 : R8 x3) (h4 : R8 x4) (h5 : R8 x5) (h6 : R8 x6) (h7 : R8 x7) (hv : R64 v) : r15_7 x0 x1 x2 x3 x4 x5 x6 x7 x8 x9 x10 x11 x12 x13 x14 x15 n v = r16_7 x0 x1 x2 x3 x4 x5 x6 x7 x8 x9 x10 x11 x12 x13 x14 x15 n v := by
  have hs := getD_R h0 h1 h2 h3 h4 h5 h6 h7 (Int.toNat (IntKind.wrap .i64 (n + 1)))
  refine (W15 (may_A (n := n) h0 h1 h2 h3 h4 h5 h6 h7) (B' := !(decide (n < 7) && (r22_0 (sel [x0, x1, x2, x3, x4, x5, x6, x7] (IntKind.wrap .i64 (n + 1))) 7) && (r20_0 (sel [x0, x1, x2, x3, x4, x5, x6, x7] (IntKind.wrap .i64 (n + 1))) == 1))) (fun hA => ?_) (land54 hv)).trans ?_
  · have hn : 0 ≤ n ∧ n < 8 := by
      simp only [Bool.not_eq_true', Bool.or_eq_false_iff, decide_eq_false_iff_not] at hA
      omega
    have hd : decide (IntKind.wrap .i64 (n + 1) < 8) = decide (n < 7) := by rw [i64_next hn.1 hn.2]; simp; omega
    show (!((decide (IntKind.wrap .i64 (n + 1) < 8) && (iland .u8 (sel [x0, x1, x2, x3, x4, x5, x6, x7] (IntKind.wrap .i64 (n + 1))) 128 != 0)) && (r17_0 (sel [x0, x1, x2, x3, x4, x5, x6, x7] (IntKind.wrap .i64 (n + 1))) == 1))) = _
    rw [hd, b_lock' hs, b_way hs]
  · exact W16

theorem p20_ok (c : Int) : p20 c = true := by
  have h3 : ∀ c, p22 c 3 = true := fun c => p22_ok c 3
  have h4 : ∀ c, p22 c 4 = true := fun c => p22_ok c 4
  simp only [p20, h3, h4, ow_t, List.all_cons, List.all_nil, id, Bool.and_self]
theorem p15_ok {x0 x1 x2 x3 x4 x5 x6 x7 x8 x9 x10 x11 x12 x13 x14 x15 n v : Int} : p15 x0 x1 x2 x3 x4 x5 x6 x7 x8 x9 x10 x11 x12 x13 x14 x15 n v = true := by
  simp only [p15, List.all_cons, List.all_nil, id]
  by_cases hn : 0 ≤ n ∧ n < 8
  · have e := i64_next hn.1 hn.2
    have a1 : decide (n ≥ 0) = true := decide_eq_true hn.1
    have a2 : decide (n < 8) = true := decide_eq_true hn.2
    have a3 : decide (IntKind.wrap .i64 (n + 1) ≥ 0) = true := by rw [e]; exact decide_eq_true (by omega)
    rw [a1, a2, a3]
    simp only [ow_t, Bool.true_and, Bool.and_true]
    cases hd : decide (IntKind.wrap .i64 (n + 1) < 8) <;> simp [ow]
  · have a1 : (decide (n < 0) || decide (n ≥ 8)) = true := by simp; omega
    rw [a1]
    simp [ow]
theorem p16_ok {x0 x1 x2 x3 x4 x5 x6 x7 x8 x9 x10 x11 x12 x13 x14 x15 n v : Int} : p16 x0 x1 x2 x3 x4 x5 x6 x7 x8 x9 x10 x11 x12 x13 x14 x15 n v = true := by
  have h7 : ∀ c, p22 c 7 = true := fun c => p22_ok c 7
  simp only [p16, List.all_cons, List.all_nil, id, h7, p20_ok]
  by_cases hn : 0 ≤ n ∧ n < 8
  · have e := i64_next hn.1 hn.2
    have a1 : decide (n ≥ 0) = true := decide_eq_true hn.1
    have a2 : decide (n < 8) = true := decide_eq_true hn.2
    have a3 : decide (IntKind.wrap .i64 (n + 1) ≥ 0) = true := by rw [e]; exact decide_eq_true (by omega)
    have a4 : decide (IntKind.wrap .i64 (n + 1) < 8) = decide (n < 7) := by rw [e]; simp; omega
    rw [a1, a2, a3, a4]
    simp only [ow_t, Bool.true_and, Bool.and_true]
    cases hd : decide (n < 7) <;> simp [ow]
  · have a1 : (decide (n < 0) || decide (n > 7)) = true := by simp; omega
    rw [a1]
    simp [ow]

theorem p10_ok : p10 = true := by kernel_rfl
theorem r10_ok : r10_0 = true := by kernel_rfl

theorem writes_p {x0 x1 x2 x3 x4 x5 x6 x7 x8 x9 x10 x11 x12 x13 x14 x15 n v : Int} (h0 : R8 x0) (h1 : R8 x1) (h2 : R8 x2) (h3 : R8 x3) (h4 : R8 x4) (h5 : R8 x5) (h6 : R8 x6) (h7 : R8 x7) (hv : R64 v) : p5 x0 x1 x2 x3 x4 x5 x6 x7 x8 x9 x10 x11 x12 x13 x14 x15 n v = true := by
  simp only [p5, p10_ok, p14_ok, p15_ok, p16_ok, ow_t, List.all_cons, List.all_nil, id, Bool.and_self]
theorem writes_ok {x0 x1 x2 x3 x4 x5 x6 x7 x8 x9 x10 x11 x12 x13 x14 x15 n v : Int} (h0 : R8 x0) (h1 : R8 x1) (h2 : R8 x2) (h3 : R8 x3) (h4 : R8 x4) (h5 : R8 x5) (h6 : R8 x6) (h7 : R8 x7) (hv : R64 v) : r5_0 x0 x1 x2 x3 x4 x5 x6 x7 x8 x9 x10 x11 x12 x13 x14 x15 n v = true := by
  simp only [r5_0, r10_ok, cfg_0 (x0 := x0) (x1 := x1) (x2 := x2) (x3 := x3) (x4 := x4) (x5 := x5) (x6 := x6) (x7 := x7) h0 hv, cfg_1 (x0 := x0) (x1 := x1) (x2 := x2) (x3 := x3) (x4 := x4) (x5 := x5) (x6 := x6) (x7 := x7) h1 hv, cfg_2 (x0 := x0) (x1 := x1) (x2 := x2) (x3 := x3) (x4 := x4) (x5 := x5) (x6 := x6) (x7 := x7) h2 hv, cfg_3 (x0 := x0) (x1 := x1) (x2 := x2) (x3 := x3) (x4 := x4) (x5 := x5) (x6 := x6) (x7 := x7) h3 hv, cfg_4 (x0 := x0) (x1 := x1) (x2 := x2) (x3 := x3) (x4 := x4) (x5 := x5) (x6 := x6) (x7 := x7) h4 hv, cfg_5 (x0 := x0) (x1 := x1) (x2 := x2) (x3 := x3) (x4 := x4) (x5 := x5) (x6 := x6) (x7 := x7) h5 hv, cfg_6 (x0 := x0) (x1 := x1) (x2 := x2) (x3 := x3) (x4 := x4) (x5 := x5) (x6 := x6) (x7 := x7) h6 hv, cfg_7 (x0 := x0) (x1 := x1) (x2 := x2) (x3 := x3) (x4 := x4) (x5 := x5) (x6 := x6) (x7 := x7) h7 hv, addr_0 (x8 := x8) (x9 := x9) (x10 := x10) (x11 := x11) (x12 := x12) (x13 := x13) (x14 := x14) (x15 := x15) (n := n) h0 h1 h2 h3 h4 h5 h6 h7 hv, addr_1 (x8 := x8) (x9 := x9) (x10 := x10) (x11 := x11) (x12 := x12) (x13 := x13) (x14 := x14) (x15 := x15) (n := n) h0 h1 h2 h3 h4 h5 h6 h7 hv, addr_2 (x8 := x8) (x9 := x9) (x10 := x10) (x11 := x11) (x12 := x12) (x13 := x13) (x14 := x14) (x15 := x15) (n := n) h0 h1 h2 h3 h4 h5 h6 h7 hv, addr_3 (x8 := x8) (x9 := x9) (x10 := x10) (x11 := x11) (x12 := x12) (x13 := x13) (x14 := x14) (x15 := x15) (n := n) h0 h1 h2 h3 h4 h5 h6 h7 hv, addr_4 (x8 := x8) (x9 := x9) (x10 := x10) (x11 := x11) (x12 := x12) (x13 := x13) (x14 := x14) (x15 := x15) (n := n) h0 h1 h2 h3 h4 h5 h6 h7 hv, addr_5 (x8 := x8) (x9 := x9) (x10 := x10) (x11 := x11) (x12 := x12) (x13 := x13) (x14 := x14) (x15 := x15) (n := n) h0 h1 h2 h3 h4 h5 h6 h7 hv, addr_6 (x8 := x8) (x9 := x9) (x10 := x10) (x11 := x11) (x12 := x12) (x13 := x13) (x14 := x14) (x15 := x15) (n := n) h0 h1 h2 h3 h4 h5 h6 h7 hv, addr_7 (x8 := x8) (x9 := x9) (x10 := x10) (x11 := x11) (x12 := x12) (x13 := x13) (x14 := x14) (x15 := x15) (n := n) h0 h1 h2 h3 h4 h5 h6 h7 hv, beq_self_eq_true, Bool.and_self]
end Go.Proofs.YtoebecinndbnoaaDoor
