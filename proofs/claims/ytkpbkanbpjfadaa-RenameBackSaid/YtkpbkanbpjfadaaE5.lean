/- RenameBack: what is taken back leaves all as it was; the loop; the law. -/
import Derived.Test.YtkpbkanbpjfadaaE4
import Derived.Shelf.Slices.Clone
import Derived.Shelf.Spec.SlicesInsertGrow
import Derived.Test.YtkpbkanbpjfadaaProg
import Derived.Test.YtkpbkanbpjfadaaE3
import Derived.ProofKit
import Derived.LaidMore
import Derived.Stop.Joined
import Derived.ReadAgain
namespace Go.Proofs.Ytkpbkanbpjfadaa
open Go Go.Sx

def back : List Int × List Int → List En → List Int × List Int
  | s, [] => s
  | s, e :: l => back (bif decide (e.d ≥ 0) then (s.1.set e.d.toNat e.o, e.n :: s.2) else s) l
theorem back_append : ∀ (l m : List En) (s : List Int × List Int), back s (l ++ m) = back (back s l) m
  | [], _, _ => rfl
  | _ :: l, m, _ => back_append l m _
theorem squashN_back : ∀ (k : Nat) {u : U}, k ≤ u.ma → ((u.squashN k).na, (u.squashN k).fr) = back (u.na, u.fr) (u.under.reverse.take k)
  | 0, u, _ => by simp [U.squashN, back]
  | k + 1, u, h => by
    have hun := under_squash1 (u := u) (by omega)
    have ih := squashN_back k (u := u.squash1) (by show k ≤ u.ma - 1; omega)
    rw [hun, List.reverse_append]
    show ((u.squash1.squashN k).na, (u.squash1.squashN k).fr) = back _ (List.take k u.squash1.under.reverse)
    rw [ih]
    congr 1
    show ((bif decide (u.last.d ≥ 0) then u.na.set u.last.d.toNat u.last.o else u.na : List Int), (bif decide (u.last.d ≥ 0) then u.last.n :: u.fr else u.fr : List Int)) = _
    cases decide (u.last.d ≥ 0) <;> rfl
theorem alloc1_back {u u' : U} {w : Wa} {n : Na} (h : u.Ok) (ha : u.alloc1 w = some (u', n)) : ∃ e, u'.under = u.under ++ [e] ∧ back (u'.na, u'.fr) [e] = (u.na, u.fr) := by
  refine ⟨_, under_alloc1 h.wf ha, ?_⟩
  obtain ⟨_, _, _, hm⟩ := h.wf.alloc1 ha
  have hs : stops u w = false := by
    cases hh : stops u w with
    | false => rfl
    | true => rw [alloc1_stops hh] at ha; cases ha
  rw [alloc1_goes hs] at ha
  simp only [Option.some.injEq, Prod.mk.injEq] at ha
  obtain ⟨e1, _⟩ := ha
  rw [← e1]
  cases hw : w.wr with
  | false => rfl
  | true =>
    obtain ⟨d0, d1, hfr, _, _⟩ := h.wr hm hw
    have hlt : w.d.toNat < u.na.length := by rw [h.wf.na]; omega
    have hd : decide (w.d ≥ 0) = true := by simp; omega
    show back (u.na.set w.d.toNat (u.fr.getD 0 0), u.fr.drop 1) [⟨w.d, u.fr.getD 0 0, u.na.getD w.d.toNat 0, false⟩] = _
    simp only [back, hd, cond_true, set_back _ _ _ hlt]
    cases hf : u.fr with
    | nil => exact absurd hf hfr
    | cons a b => rfl
theorem alloc_back : ∀ (ws : List Wa) {u : U}, u.Ok → ∃ es : List En, (u.alloc ws).1.under = u.under ++ es ∧ es.length = (u.alloc ws).2.length ∧ back ((u.alloc ws).1.na, (u.alloc ws).1.fr) es.reverse = (u.na, u.fr)
  | [], u, _ => ⟨[], by simp [U.alloc], rfl, rfl⟩
  | w :: ws, u, h => by
    unfold U.alloc
    cases ha : u.alloc1 w with
    | none => exact ⟨[], by simp, rfl, rfl⟩
    | some r =>
      obtain ⟨e, h1, h2⟩ := alloc1_back h (u' := r.1) (n := r.2) ha
      obtain ⟨es, h3, h4, h5⟩ := alloc_back ws (h.alloc1 (u' := r.1) (n := r.2) ha)
      refine ⟨e :: es, ?_, by simp [h4], ?_⟩
      · show (r.1.alloc ws).1.under = _
        rw [h3, h1, List.append_assoc]; rfl
      · show back ((r.1.alloc ws).1.na, (r.1.alloc ws).1.fr) _ = _
        rw [List.reverse_cons, back_append, h5, h2]
theorem alloc_squash {u : U} (h : u.Ok) (ws : List Wa) : ((u.alloc ws).1.squashN (u.alloc ws).2.length).na = u.na ∧ ((u.alloc ws).1.squashN (u.alloc ws).2.length).fr = u.fr ∧ ((u.alloc ws).1.squashN (u.alloc ws).2.length).ma = u.ma := by
  obtain ⟨es, h1, h2, h3⟩ := alloc_back ws h
  have hm := (h.wf.alloc ws).2.2.1
  have hb := squashN_back (u.alloc ws).2.length (u := (u.alloc ws).1) (by omega)
  rw [h1, List.reverse_append, ← h2, List.take_left' (by simp), h3] at hb
  have h4 := (squashN_rob (u.alloc ws).2.length (u.alloc ws).1).2.2
  rw [h2] at hb
  exact ⟨congrArg Prod.fst hb, congrArg Prod.snd hb, by omega⟩

structure Bk (u : U) (last : Int) : Prop where
  ok : u.Ok2
  la : 0 < u.ma → last = (((u.fi + (u.ma - 1)) % 16 : Nat) : Int)
def bStep (u : U) (s : St) : U :=
  bif s.kind == 0 then (u.alloc s.ws).1 else bif s.kind == 1 then (u.finish s.n).1 else bif s.kind == 2 then (u.commit s.n.toNat).1 else bif s.kind == 3 then (u.squash (-1)).1 else u
def lastR (l : List Na) (x : Int) : Int := bif decide ((l.length : Int) > 0) then ((l.getD (l.length - 1) ⟨0, 0, 0, 0, 0, 0⟩).r) else x
def laStep (u : U) (last : Int) (s : St) : Int :=
  bif s.kind == 0 then lastR (u.alloc s.ws).2 last else bif s.kind == 1 then last else bif s.kind == 2 then last else bif s.kind == 3 then (bif igt (u.squash (-1)).2 0 then -1 else last) else last
theorem commit_fi : ∀ (n : Nat) {u : U}, u.WF → (u.commit n).1.ma ≤ u.ma ∧ (u.commit n).1.fi = (u.fi + (u.ma - (u.commit n).1.ma)) % 16
  | 0, u, h => ⟨Nat.le_refl _, by have := h.fi; simp [U.commit]; omega⟩
  | n + 1, u, h => by
    simp only [U.commit]
    cases hr : u.ready with
    | false => exact ⟨Nat.le_refl _, by have := h.fi; simp; omega⟩
    | true =>
      have hm : 0 < u.ma := by
        simp only [U.ready, Bool.and_eq_true, decide_eq_true_eq] at hr
        exact hr.1
      have hw2 := h.w2.commit1 hr
      have key : ∀ (n : Nat) {v : U}, v.fi < 16 → (v.commit n).1.ma ≤ v.ma ∧ (v.commit n).1.fi = (v.fi + (v.ma - (v.commit n).1.ma)) % 16 := by
        intro n
        induction n with
        | zero => intro v hv; exact ⟨Nat.le_refl _, by simp [U.commit]; omega⟩
        | succ n ih =>
          intro v hv
          simp only [U.commit]
          cases hr : v.ready with
          | false => exact ⟨Nat.le_refl _, by simp; omega⟩
          | true =>
            have hm : 0 < v.ma := by
              simp only [U.ready, Bool.and_eq_true, decide_eq_true_eq] at hr
              exact hr.1
            obtain ⟨k1, k2⟩ := ih (v := v.commit1) (Nat.mod_lt _ (by decide))
            have e1 : v.commit1.ma = v.ma - 1 := rfl
            have e2 : v.commit1.fi = (v.fi + 1) % 16 := rfl
            rw [e1] at k1 k2
            rw [e2] at k2
            simp only [cond_true]
            exact ⟨by omega, by omega⟩
      have := key (n + 1) h.fi
      simp only [U.commit, hr, cond_true] at this
      exact this
theorem Bk.step {u : U} {last : Int} (h : Bk u last) (s : St) : Bk (bStep u s) (laStep u last s) := by
  have hu := h.ok.ok.wf
  have hfi := hu.fi
  unfold bStep laStep
  cases s.kind == 0 with
  | true =>
    refine ⟨h.ok.alloc s.ws, fun hm => ?_⟩
    show lastR (u.alloc s.ws).2 last = _
    have hm : 0 < (u.alloc s.ws).1.ma := hm
    obtain ⟨_, _, es, k1, k2, _, k6⟩ := h.ok.ok.alloc s.ws
    obtain ⟨_, a2, a3, _⟩ := hu.alloc s.ws
    unfold lastR
    simp only [cond_true]
    rw [a2, a3]
    cases hc : decide (((u.alloc s.ws).2.length : Int) > 0) with
    | false =>
      have hc : ¬ ((u.alloc s.ws).2.length : Int) > 0 := by simpa using hc
      have : (u.alloc s.ws).2.length = 0 := by omega
      rw [cond_false, this]
      exact h.la (by omega)
    | true =>
      have hc : ((u.alloc s.ws).2.length : Int) > 0 := by simpa using hc
      obtain ⟨n, q1, q2⟩ := k6 ((u.alloc s.ws).2.length - 1) (by omega)
      rw [cond_true, List.getD_eq_getElem?_getD, q1]
      show n.r = _
      rw [q2]
      congr 2
      omega
  | false =>
    cases s.kind == 1 with
    | true =>
      refine ⟨h.ok.finish s.n, fun hm => ?_⟩
      have f2 : (u.finish s.n).1.fi = u.fi ∧ (u.finish s.n).1.ma = u.ma := by
        unfold U.finish
        cases (decide (u.number s.n < 0) || (u.at s.n.toNat).f) <;> exact ⟨rfl, rfl⟩
      have hm : 0 < (u.finish s.n).1.ma := hm
      show last = ((((u.finish s.n).1.fi + ((u.finish s.n).1.ma - 1)) % 16 : Nat) : Int)
      rw [f2.1, f2.2]
      exact h.la (by omega)
    | false =>
      cases s.kind == 2 with
      | true =>
        refine ⟨h.ok.commit s.n.toNat, fun hm => ?_⟩
        have hm : 0 < (u.commit s.n.toNat).1.ma := hm
        obtain ⟨c1, c2⟩ := commit_fi s.n.toNat hu
        show last = ((((u.commit s.n.toNat).1.fi + ((u.commit s.n.toNat).1.ma - 1)) % 16 : Nat) : Int)
        rw [c2, h.la (by omega)]
        congr 1
        omega
      | false =>
        cases s.kind == 3 with
        | true =>
          refine ⟨h.ok.squash (-1), fun hm => ?_⟩
          exfalso
          have hm : 0 < (u.squash (-1)).1.ma := hm
          have hn : u.number (-1) = -1 := by unfold U.number; rw [if_neg (by omega)]
          unfold U.squash at hm
          rw [hn] at hm
          have e : (decide ((-1 : Int) < 0) && ((-1 : Int) != -1)) = false := by decide
          rw [e] at hm
          simp only [cond_false, (squashN_rob _ u).2.2] at hm
          omega
        | false => exact h

theorem len6 (l : List Na) : (((encN l).length / 6 : Nat) : Int) = (l.length : Int) := by rw [encN_len]; congr 1; omega
abbrev BS (l : List St) (last : Int) (k : Nat) (u : U) : List DV :=
  [.l (encS l), .i last, .i k, .l (encI u.na), .l (encI u.fr), .l (encE u.rob), .i u.fi, .i u.ma, .l (encS l)]
section
variable {l : List St} {k : Nat} {u : U} {s : St} {last : Int}
structure Fb (l : List St) (k : Nat) (u : U) (s : St) : Prop where
  el : (((encS l).length / 3 : Nat) : Int) = (l.length : Int)
  c1 : decide ((k : Int) < (l.length : Int)) = true
  c2 : decide ((k : Int) ≥ 0) = true
  s0 : ((encS l).getD (Int.toNat (k : Int) * (3 : Nat) + (0 : Nat)) default).toI = s.kind
  s1 : ((encS l).getD (Int.toNat (k : Int) * (3 : Nat) + (1 : Nat)) default).toI = s.n
  s2 : ((encS l).getD (Int.toNat (k : Int) * (3 : Nat) + (2 : Nat)) default).toL = encW s.ws
  wk : IntKind.wrap .i64 ((k : Int) + 1) = ((k + 1 : Nat) : Int)
  f1 : (u.alloc s.ws).1.fi = u.fi
  f2 : (u.finish s.n).1.fi = u.fi ∧ (u.finish s.n).1.ma = u.ma
  f3 : (u.squash (-1)).1.fi = u.fi
theorem fb (hk : l[k]? = some s) (hu : u.WF) (hl : l.length < 9223372036854775808) : Fb l k u s := by
  have hlt : k < l.length := (List.getElem?_eq_some_iff.1 hk).1
  refine ⟨by rw [encS_len]; congr 1; omega, by simpa using hlt, by simp, by rw [encS_get hk 0 (by decide)]; rfl, by rw [encS_get hk 1 (by decide)]; rfl, by rw [encS_get hk 2 (by decide)]; rfl,
    by rw [wrap_i64_of (by omega) (by omega)]; omega, (hu.alloc s.ws).2.1, ?_, ?_⟩
  · unfold U.finish
    cases (decide (u.number s.n < 0) || (u.at s.n.toNat).f) <;> exact ⟨rfl, rfl⟩
  · unfold U.squash
    cases (decide (u.number (-1) < 0) && ((-1 : Int) != -1)) with
    | true => rfl
    | false => exact (squashN_rob _ u).2.1
theorem backW (hk : l[k]? = some s) (h : Bk u last) (hb : s.ws.length < 9223372036854775808) (hl : l.length < 9223372036854775808) : W100600 (BS l last k u) = true := by
  have hu := h.ok.ok.wf
  have f := fb (u := u) hk hu hl
  have hal : (u.alloc s.ws).2.length ≤ 16 := by have := (h.ok.ok.alloc s.ws).2.1; omega
  show w100600 (encS l) last k (encI u.na) (encI u.fr) (encE u.rob) u.fi u.ma (encS l) = true
  unfold w100600
  simp only [dget, List.getD_cons_zero, List.getD_cons_succ, toI_i, toB_b, toL_l, f.el, f.c1, f.c2, f.s0, f.s1, f.s2, g11_eq hb hu, g14_eq hu, g16_eq hu, g19_eq hu, len6, ow_true]
  cases hc : decide (((u.alloc s.ws).2.length : Int) > 0) with
  | false => simp [ow]
  | true =>
    have hc : ((u.alloc s.ws).2.length : Int) > 0 := by simpa using hc
    have w1 : IntKind.wrap .i64 (((u.alloc s.ws).2.length : Int) - 1) = ((u.alloc s.ws).2.length : Int) - 1 := wrap_i64_of (by omega) (by omega)
    have d1 : decide (((u.alloc s.ws).2.length : Int) - 1 ≥ 0) = true := by simp; omega
    have d2 : decide (((u.alloc s.ws).2.length : Int) - 1 < ((u.alloc s.ws).2.length : Int)) = true := by simp; omega
    rw [w1, d1, d2]
    simp only [ow_true]
    rfl
theorem backN (hk : l[k]? = some s) (h : Bk u last) (hb : s.ws.length < 9223372036854775808) (hl : l.length < 9223372036854775808) : N100600 (BS l last k u) = BS l (laStep u last s) (k + 1) (bStep u s) := by
  have hu := h.ok.ok.wf
  have f := fb (u := u) hk hu hl
  have hs := commit_rob s.n.toNat u
  have hal : (u.alloc s.ws).2.length ≤ 16 := by have := (h.ok.ok.alloc s.ws).2.1; omega
  have e0 : n100600_0 (encS l) last k (encI u.na) (encI u.fr) (encE u.rob) u.fi u.ma (encS l) = laStep u last s := by
    unfold n100600_0 laStep lastR
    simp only [dget, List.getD_cons_zero, List.getD_cons_succ, toI_i, toL_l, f.s0, f.s2, g11_eq hb hu, g19_eq hu, len6]
    have e : decide (((u.alloc s.ws).2.length : Int) > 0) = true → ((encN (u.alloc s.ws).2).getD (Int.toNat (IntKind.wrap .i64 (((u.alloc s.ws).2.length : Int) - 1)) * (6 : Nat) + (5 : Nat)) default).toI = ((u.alloc s.ws).2.getD ((u.alloc s.ws).2.length - 1) ⟨0, 0, 0, 0, 0, 0⟩).r := fun hc => by
      have hc : ((u.alloc s.ws).2.length : Int) > 0 := by simpa using hc
      have hlt : (u.alloc s.ws).2.length - 1 < (u.alloc s.ws).2.length := by omega
      rw [wrap_i64_of (by omega) (by omega), show ((u.alloc s.ws).2.length : Int) - 1 = (((u.alloc s.ws).2.length - 1 : Nat) : Int) from by omega, encN_get (List.getElem?_eq_getElem hlt) 5 (by decide), List.getD_eq_getElem?_getD (l := (u.alloc s.ws).2), List.getElem?_eq_getElem hlt]
      rfl
    cases hc : decide (((u.alloc s.ws).2.length : Int) > 0) with
    | true => simp only [cond_true, e hc]
    | false => simp only [cond_false]
  have e1 : n100600_1 (encS l) last k (encI u.na) (encI u.fr) (encE u.rob) u.fi u.ma (encS l) = ((k + 1 : Nat) : Int) := f.wk
  show [DV.l (encS l), .i (n100600_0 (encS l) last k (encI u.na) (encI u.fr) (encE u.rob) u.fi u.ma (encS l)), .i (n100600_1 (encS l) last k (encI u.na) (encI u.fr) (encE u.rob) u.fi u.ma (encS l)), .l (n100600_2 (encS l) last k (encI u.na) (encI u.fr) (encE u.rob) u.fi u.ma (encS l)), .l (n100600_3 (encS l) last k (encI u.na) (encI u.fr) (encE u.rob) u.fi u.ma (encS l)), .l (n100600_4 (encS l) last k (encI u.na) (encI u.fr) (encE u.rob) u.fi u.ma (encS l)), .i (n100600_5 (encS l) last k (encI u.na) (encI u.fr) (encE u.rob) u.fi u.ma (encS l)), .i (n100600_6 (encS l) last k (encI u.na) (encI u.fr) (encE u.rob) u.fi u.ma (encS l)), .l (encS l)] = _
  rw [e0, e1]
  unfold n100600_2 n100600_3 n100600_4 n100600_5 n100600_6 bStep BS
  simp only [dget, List.getD_cons_zero, List.getD_cons_succ, toI_i, toL_l, f.s0, f.s1, f.s2, g11_eq hb hu, g14_eq hu, g16_eq hu, g19_eq hu]
  cases s.kind == 0 with
  | true => simp only [cond_true, f.f1, toI_i, toL_l]
  | false =>
    cases s.kind == 1 with
    | true => simp only [cond_true, cond_false, f.f2.1, f.f2.2, toI_i, toL_l]
    | false =>
      cases s.kind == 2 with
      | true => simp only [cond_true, cond_false, hs.1, hs.2, toI_i, toL_l]
      | false =>
        cases s.kind == 3 with
        | true => simp only [cond_true, cond_false, f.f3, toI_i, toL_l]
        | false => simp only [cond_false]
theorem backLoop (hl : l.length < 9223372036854775808) (hb : ∀ s ∈ l, s.ws.length < 9223372036854775808) : ∀ (n k : Nat) (u : U) (last : Int), l.length - k = n → k ≤ l.length → Bk u last → ∃ (u' : U) (last' : Int), Bk u' last' ∧ loopG W100600 C100600 N100600 T100600 (BS l last k u) =
    some [.i 0, .i last', .i l.length, .l (encI u'.na), .l (encI u'.fr), .l (encE u'.rob), .i u'.fi, .i u'.ma, .l (encS l)]
  | 0, k, u, last, hn, hk, hu => by
    obtain rfl : k = l.length := by omega
    have el : (((encS l).length / 3 : Nat) : Int) = (l.length : Int) := by rw [encS_len]; congr 1; omega
    have c1 : decide ((l.length : Int) < (l.length : Int)) = false := by simp
    have h1 : W100600 (BS l last l.length u) = true := by
      show w100600 (encS l) last l.length (encI u.na) (encI u.fr) (encE u.rob) u.fi u.ma (encS l) = true
      unfold w100600
      simp only [el, c1]
      simp [ow]
    have h2 : C100600 (BS l last l.length u) = false := by
      show c100600 (encS l) last l.length (encI u.na) (encI u.fr) (encE u.rob) u.fi u.ma (encS l) = false
      unfold c100600
      simp only [el, c1]
    exact ⟨u, last, hu, by rw [loopG_last h1 h2]; rfl⟩
  | n + 1, k, u, last, hn, hk, hu => by
    obtain ⟨s, hks⟩ : ∃ s, l[k]? = some s := ⟨l[k]'(by omega), List.getElem?_eq_getElem _⟩
    have hs := hb s (List.mem_of_getElem? hks)
    have f := fb (u := u) hks hu.ok.ok.wf hl
    have hC : C100600 (BS l last k u) = true := by
      show c100600 (encS l) last k (encI u.na) (encI u.fr) (encE u.rob) u.fi u.ma (encS l) = true
      unfold c100600
      simp only [f.el, f.c1]
    obtain ⟨u', last', h1, h2⟩ := backLoop hl hb n (k + 1) (bStep u s) (laStep u last s) (by omega) (by omega) (hu.step s)
    exact ⟨u', last', h1, by rw [loopG_next (backW hks hu hs hl) hC, backN hks hu hs hl, h2]⟩
end
theorem last_number {u : U} (h : u.Ok2) {last : Int} (hb : Bk u last) (ws : List Wa) : (u.alloc ws).1.squash (bif (u.ma : Int) == 0 then -1 else last) = ((u.alloc ws).1.squashN (u.alloc ws).2.length, ((u.alloc ws).2.length : Int)) := by
  have hu := h.ok.wf
  obtain ⟨k1, a2, a3, _⟩ := hu.alloc ws
  cases hc : (u.ma : Int) == 0 with
  | true =>
    have hc : u.ma = 0 := by have : (u.ma : Int) = 0 := by simpa using hc
                             omega
    rw [cond_true]
    have hn : (u.alloc ws).1.number (-1) = -1 := by unfold U.number; rw [if_neg (by omega)]
    unfold U.squash
    rw [hn]
    have e : (decide ((-1 : Int) < 0) && ((-1 : Int) != -1)) = false := by decide
    rw [e, cond_false, a3, hc]
    have e2 : (((0 + (u.alloc ws).2.length : Nat) : Int) - 1 - -1) = ((u.alloc ws).2.length : Int) := by omega
    rw [e2, Int.toNat_natCast]
  | false =>
    have hc : u.ma ≠ 0 := by
      intro e
      rw [e] at hc
      cases hc
    rw [cond_false, hb.la (by omega)]
    have hn := number_at (u := (u.alloc ws).1) k1 (k := u.ma - 1) (by omega)
    rw [a2] at hn
    unfold U.squash
    rw [hn]
    have e : (decide (((u.ma - 1 : Nat) : Int) < 0) && ((((u.fi + (u.ma - 1)) % 16 : Nat) : Int) != -1)) = false := by
      have : decide (((u.ma - 1 : Nat) : Int) < 0) = false := by simp
      rw [this, Bool.false_and]
    rw [e, cond_false, a3]
    have e2 : ((u.ma + (u.alloc ws).2.length : Nat) : Int) - 1 - ((u.ma - 1 : Nat) : Int) = ((u.alloc ws).2.length : Int) := by omega
    rw [e2, Int.toNat_natCast]
theorem back_law {l : List St} {ws : List Wa} (hl : l.length < 9223372036854775808) (hb : ∀ s ∈ l, s.ws.length < 9223372036854775808) (hw : ws.length < 9223372036854775808) : p6 (encS l) (encW ws) = true ∧ r6_0 (encS l) (encW ws) = true := by
  obtain ⟨u, last, hk, h2⟩ := backLoop hl hb l.length 0 u0 (-1) (by omega) (by omega) ⟨u0_ok2, fun h => absurd h (by decide)⟩
  have G : g100600 [.l (encS l), .i (-1), .i 0, .l (encI u0.na), .l (encI u0.fr), .l (encE u0.rob), .i u0.fi, .i u0.ma, .l (encS l)] =
      [.b true, .i 0, .i last, .i l.length, .l (encI u.na), .l (encI u.fr), .l (encE u.rob), .i u.fi, .i u.ma, .l (encS l)] := by
    have e : ∀ (o : Option (List DV)) (a b c d f g h i j : DV), o = some [.i a.toI, .i b.toI, .i c.toI, .l d.toL, .l f.toL, .l g.toL, .i h.toI, .i i.toI, .l j.toL] →
        [DV.b o.isSome, .i (dget (o.getD []) 0).toI, .i (dget (o.getD []) 1).toI, .i (dget (o.getD []) 2).toI, .l (dget (o.getD []) 3).toL, .l (dget (o.getD []) 4).toL, .l (dget (o.getD []) 5).toL, .i (dget (o.getD []) 6).toI, .i (dget (o.getD []) 7).toI, .l (dget (o.getD []) 8).toL] =
          [.b true, .i a.toI, .i b.toI, .i c.toI, .l d.toL, .l f.toL, .l g.toL, .i h.toI, .i i.toI, .l j.toL] := fun o a b c d f g h i j ho => by rw [ho]; rfl
    exact e _ (.i 0) (.i last) (.i l.length) (.l (encI u.na)) (.l (encI u.fr)) (.l (encE u.rob)) (.i u.fi) (.i u.ma) (.l (encS l)) h2
  have hu := hk.ok.ok.wf
  have b6 : ∀ x, r21_0 (encI x) = encI x := fun _ => rfl
  have b8 : ∀ x, r23_0 (encI x) = encI x := fun _ => rfl
  have b9 : ∀ x : Int, r25_0 x = x := fun _ => rfl
  have hfr : u.fr.length ≤ 32 := by have := hk.ok.ok.len; omega
  have b4 : ∀ x : List Int, x.length ≤ 32 → p21 (encI x) = true := fun x hx => by unfold p21 p31; rw [encI_len]; simp [ow]; omega
  obtain ⟨k1, a2, a3, _⟩ := hu.alloc ws
  have hal : (u.alloc ws).2.length ≤ 16 := by have := (hk.ok.ok.alloc ws).2.1; omega
  have hma := hu.ma
  have hsq := last_number hk.ok hk ws
  obtain ⟨q1, q2, q3⟩ := alloc_squash hk.ok.ok ws
  have hst := g19_eq (u := (u.alloc ws).1) k1 (bif (u.ma : Int) == 0 then -1 else last)
  rw [hsq] at hst
  simp only [q1, q2, q3] at hst
  have w1 : IntKind.wrap .i64 ((u.ma : Int) + ((u.alloc ws).2.length : Int)) = (((u.alloc ws).1.ma : Nat) : Int) := by rw [wrap_i64_of (by omega) (by omega)]; omega
  have hg11 := g11_eq (u := u) hw hu
  have hseg : segD [DV.b true, .i 0, .i last, .i l.length, .l (encI u.na), .l (encI u.fr), .l (encE u.rob), .i u.fi, .i u.ma, .l (encS l)] 4 5 ++ [.l (encW ws)] = [.l (encI u.na), .l (encI u.fr), .l (encE u.rob), .i u.fi, .i u.ma, .l (encW ws)] := rfl
  obtain ⟨s1, s2⟩ := same18 (encI u.fr) (by rw [encI_len]; omega)
  have hfi : (u.alloc ws).1.fi = u.fi := a2
  rw [hfi] at hst
  refine ⟨?_, ?_⟩
  · unfold p6
    simp only [g9_eq, dget, List.getD_cons_zero, List.getD_cons_succ, toI_i, toB_b, toL_l, p8_eq, r8_eq, G, hseg, hg11, hst, len6, b6, b8, b9, b4 _ hfr, w1, s1, beq_self_eq_true, bne_self_eq_false, Bool.not_false, Bool.and_self, cond_true, ow_true]
    rfl
  · unfold r6_0
    simp only [g9_eq, dget, List.getD_cons_zero, List.getD_cons_succ, toI_i, toB_b, toL_l, r8_eq, G, hseg, hg11, hst, len6, b6, b8, b9, w1, s2, beq_self_eq_true, bne_self_eq_false, Bool.not_false, Bool.not_true, Bool.and_self, cond_true]
end Go.Proofs.Ytkpbkanbpjfadaa

namespace Go.Proofs.Ytkpbkanbpjfadaa
open Go Go.Sx
set_option maxRecDepth 100000
set_option maxHeartbeats 4000000

end Go.Proofs.Ytkpbkanbpjfadaa

namespace Go.Proofs.Ytkpbkanbpjfadaa
open Go Go.Sx
set_option maxRecDepth 100000
set_option maxHeartbeats 4000000
theorem ev8 : evFn Try.prog S8 2000 Try.f8 s8 = some o8 := by kernel_rfl
theorem ev18 : evFn Try.prog S18 2000 Try.f18 s18 = some o18 := by kernel_rfl
theorem ev23 : evFn Try.prog S23 2000 Try.f23 s23 = some o23 := by kernel_rfl
theorem ev26 : evFn Try.prog S26 2000 Try.f26 s26 = some o26 := by kernel_rfl
end Go.Proofs.Ytkpbkanbpjfadaa

namespace Go.Proofs.Ytkpbkanbpjfadaa
open Go Go.Sx
set_option maxRecDepth 100000
set_option maxHeartbeats 4000000
theorem ev16 : evFn Try.prog S16 2000 Try.f16 s16 = some o16 := by kernel_rfl
theorem ev14 : evFn Try.prog S14 2000 Try.f14 s14 = some o14 := by kernel_rfl
theorem ev28 : evFn Try.prog S28 2000 Try.f28 s28 = some o28 := by kernel_rfl
theorem ev25 : evFn Try.prog S25 2000 Try.f25 s25 = some o25 := by kernel_rfl
end Go.Proofs.Ytkpbkanbpjfadaa

namespace Go.Proofs.Ytkpbkanbpjfadaa
open Go Go.Sx
set_option maxRecDepth 100000
set_option maxHeartbeats 4000000
theorem ev6 : evFn Try.prog S6 2000 Try.f6 s6 = some o6 := by kernel_rfl
end Go.Proofs.Ytkpbkanbpjfadaa

namespace Go.Proofs.Ytkpbkanbpjfadaa
open Go Go.Sx
set_option maxRecDepth 100000
set_option maxHeartbeats 4000000
theorem ev11 : evFn Try.prog S11 2000 Try.f11 s11 = some o11 := by kernel_rfl
theorem ev9 : evFn Try.prog S9 2000 Try.f9 s9 = some o9 := by kernel_rfl
theorem ev19 : evFn Try.prog S19 2000 Try.f19 s19 = some o19 := by kernel_rfl
theorem ev21 : evFn Try.prog S21 2000 Try.f21 s21 = some o21 := by kernel_rfl
end Go.Proofs.Ytkpbkanbpjfadaa

namespace Go.Proofs.Ytkpbkanbpjfadaa
open Go Go.Shelf
def cloneRen : Go.Shelf.Ren := ⟨fun | 15 => 31 | n => n, fun | 22 => 35 | 3 => 3 | 4 => 4 | n => n, fun | n => n⟩
theorem laysClone : Go.Proofs.Lays2.n15 Try.prog cloneRen := {
  mixed := by kernel_rfl
  f15 := Try.func31.trans (congrArg some (by kernel_rfl))
  t3 := Try.underlying3
  a3 := Try.isAgg3
  z3 := Try.sizeOf3
  v3 := Try.zeroValue3
  t4 := Try.underlying4
  a4 := Try.isAgg4
  z4 := Try.sizeOf4
  v4 := Try.zeroValue4
  t22 := Try.underlying35
  a22 := Try.isAgg35
  z22 := Try.sizeOf35
  v22 := Try.zeroValue35
  i3 := by kernel_rfl }
def insRen : Go.Shelf.Ren := ⟨fun | 21 => 30 | 27 => 32 | 28 => 33 | 35 => 34 | 39 => 35 | n => n, fun | 22 => 35 | 3 => 3 | 4 => 4 | 0 => 0 | n => n, fun | n => n⟩
theorem laysIns : Go.Proofs.Lays2.n21 Try.prog insRen := {
  mixed := by kernel_rfl
  f21 := Try.func30.trans (congrArg some (by kernel_rfl))
  f27 := Try.func32.trans (congrArg some (by kernel_rfl))
  f28 := Try.func33.trans (congrArg some (by kernel_rfl))
  f35 := Try.func34.trans (congrArg some (by kernel_rfl))
  f39 := Try.func35.trans (congrArg some (by kernel_rfl))
  t0 := Try.underlying0
  a0 := Try.isAgg0
  z0 := Try.sizeOf0
  v0 := Try.zeroValue0
  t3 := Try.underlying3
  a3 := Try.isAgg3
  z3 := Try.sizeOf3
  v3 := Try.zeroValue3
  t4 := Try.underlying4
  a4 := Try.isAgg4
  z4 := Try.sizeOf4
  v4 := Try.zeroValue4
  t22 := Try.underlying35
  a22 := Try.isAgg35
  z22 := Try.sizeOf35
  v22 := Try.zeroValue35
  i3 := by kernel_rfl }
end Go.Proofs.Ytkpbkanbpjfadaa

namespace Go.Proofs.Ytkpbkanbpjfadaa
open Go Go.Sx Go.RowKit

abbrev iv (d : DV) : Value := .int .i64 d.toI
theorem cell_of {w : World} {g : Nat} {cur : Array Value} {e : TypeId} {z : Nat × Nat} (h : w.heap[g]? = some (.cells cur e z)) (i : Nat) : w.cell? ⟨g, i, none⟩ = cur[i]? := by
  simp [World.cell?, h]
theorem own_row {E : Env} {w' : World} {base n : Nat} {v' : Value} {xs : List DV} (h : w'.ownsRow base 3 1 v' n (xs.map iv)) : ∃ r : Sx.Loc, v' = r.slice ∧ VRel E w' r true [.int .i64] xs ∧ (r.nil = true ∨ base ≤ r.blk) := by
  obtain ⟨hl, h⟩ := h
  rw [List.length_map, Nat.mul_one] at hl
  rcases h with ⟨rfl, h0⟩ | ⟨g, cap, cur, rfl, hb, hg, hn, hm, hs, ht⟩
  · refine ⟨⟨0, 0, true, 0, 0, none⟩, rfl, ⟨fun _ => ⟨rfl, rfl⟩, fun e => (by cases e), (by decide), (by show xs.length = 0 * 1; omega), Nat.le_refl _, fun i hi => by omega, fun _ e => (by cases e), fun _ e => (by cases e)⟩, .inl rfl⟩
  · have hlt : g < w'.heap.size := by
      rcases Nat.lt_or_ge g w'.heap.size with h | h
      · exact h
      · rw [Array.getElem?_eq_none h] at hg; cases hg
    refine ⟨⟨g, 0, false, n, cap, none⟩, rfl, ⟨fun e => (by cases e), fun _ => hlt, (by decide), (by show xs.length = n * 1; omega), hn, fun i hi => ?_, fun _ _ i hi => ?_, fun _ _ => ⟨hm, fun o => by simp [World.frozen?, hg]⟩⟩, .inr hb⟩
    · refine ⟨iv (xs.getD i default), ?_, ?_⟩
      · rw [cell_of hg, Nat.zero_add]
        have h1 : (cur.toList.take (n * 1))[i]? = cur[i]? := by rw [List.getElem?_take, if_pos (by omega)]; simp
        rw [← h1, ht, List.getElem?_map, List.getElem?_eq_getElem hi]
        simp [List.getD_eq_getElem?_getD, List.getElem?_eq_getElem hi]
      · have : i % [LT.int .i64].length = 0 := Nat.mod_one i
        rw [this]
        exact .int .i64 _
    · have hi : i < cap * 1 := hi
      refine ⟨?_, by simp [World.frozen?, hg]⟩
      rw [cell_of hg, Nat.zero_add, Array.getElem?_eq_getElem (by omega)]
      rfl
theorem row_cells {E : Env} {w : World} {r : Sx.Loc} {o : Bool} {xs : List DV} (h : VRel E w r o [.int .i64] xs) : xs.length = r.len ∧ ∀ i, i < xs.length → w.cell? ⟨r.blk, r.off + i, none⟩ = some (iv (xs.getD i default)) := by
  refine ⟨by have := h.len; simpa using this, fun i hi => ?_⟩
  obtain ⟨v, h1, h2⟩ := h.cell i hi
  have : i % [LT.int .i64].length = 0 := Nat.mod_one i
  rw [this] at h2
  rw [h1]
  cases h2
  rfl

theorem k31 : FnOK Try.prog (fun _ => True) 0 31 s31 g31 := by
  intro ds ρ w _ hlen hneed _ _ _ hrel
  have hv : VRel (callEnv s31.hinI ρ w) w (ρ 0) false [.int .i64] (dget ds 0).toL := hrel.blk 0 _ rfl
  have hlim : (dget ds 0).toL.length ≤ 17592186044416 := of_decide_eq_true (hneed rfl)
  show Calls Try.prog 31 #[(ρ 0).slice] w _
  generalize hxs : (dget ds 0).toL = xs at *
  obtain ⟨hl, hc⟩ := row_cells hv
  have out : ∀ (v' : Value) (w' : World), w'.ownsRow w.heap.size 3 1 v' xs.length (xs.map iv) → Below w.heap.size w w' → ∃ v ρ', Ending.returned v' = .returned v ∧ CallOut s31 (g31 ds) ρ w v ρ' w' := by
    intro v' w' ho hb
    obtain ⟨r, hr, hvr, hbl⟩ := own_row (E := callEnv s31.hinI ρ w) ho
    refine ⟨v', fun j => if j = 1 then r else ρ j, rfl, ?_, V.good_s.2 (V1.good_one.2 (show True from trivial)), ⟨fun j bk hj => ?_, fun j j' bk bk' hj _ hj' hne _ _ => ?_⟩, fun j bk hj => ?_, (Fr.of_below hb), fun j hj _ => ?_⟩
    · rw [hr]; rfl
    · match j, hj with
      | 0, hj => cases hj
      | 1, hj =>
        cases hj
        show VRel _ w' r true [.int .i64] (r31_0 (dget ds 0).toL)
        rw [hxs]
        exact hvr
      | j + 2, hj => cases j <;> cases hj
    · match j, j', hj, hj' with
      | 0, _, hj, _ => cases hj
      | 1, 0, _, hj => cases hj
      | 1, 1, _, _ => exact absurd rfl hne
      | 1, j + 2, _, hj => cases j <;> cases hj
      | j + 2, _, hj, _ => cases j <;> cases hj
    · match j, hj with
      | 0, hj => cases hj
      | 1, hj =>
        rcases hbl with h | h
        · exact .inl h
        · exact .inr (.inl h)
      | j + 2, hj => cases j <;> cases hj
    · match j, hj with
      | 0, hj => cases hj
      | j + 1, hj => cases j <;> cases hj
  cases hn : (ρ 0).nil with
  | true =>
    have h0 := hv.nil hn
    have hx0 : xs = [] := List.eq_nil_of_length_eq_zero (by omega)
    cases hraw : (ρ 0).raw with
    | none =>
      have hs : (ρ 0).slice = .slice none 0 0 := by unfold Loc.slice; rw [hn, h0.1, h0.2, hraw]; rfl
      rw [hs]
      refine (Any.slices_Clone_int_nil laysClone 0 0 w).mono fun e w' ⟨he, hw⟩ => ?_
      subst he; subst hw
      refine out _ _ ⟨by simp, .inl ⟨rfl, by rw [hx0]; rfl⟩⟩ (Below.refl _ _)
    | some a =>
      have hs : (ρ 0).slice = .slice (some a) 0 0 := by unfold Loc.slice; rw [hn, h0.1, h0.2, hraw]; rfl
      rw [hs]
      refine (Any.slices_Clone_int_zero laysClone a 0 w).mono fun e w' ⟨v', he, ho, _, hb⟩ => ?_
      subst he
      refine out _ _ ?_ hb
      rw [hx0]; exact ho
  | false =>
    have hs : (ρ 0).slice = .slice (some ⟨(ρ 0).blk, (ρ 0).off, none⟩) (ρ 0).len (ρ 0).cap := by unfold Loc.slice; rw [hn]; rfl
    rw [hs]
    cases h0 : (ρ 0).len with
    | zero =>
      refine (Any.slices_Clone_int_zero laysClone ⟨(ρ 0).blk, (ρ 0).off, none⟩ (ρ 0).cap w).mono fun e w' ⟨v', he, ho, _, hb⟩ => ?_
      subst he
      have hx0 : xs = [] := List.eq_nil_of_length_eq_zero (by omega)
      refine out _ _ ?_ hb
      rw [hx0]; exact ho
    | succ n =>
      have hzl : (xs.map DV.toI).length = n + 1 := by rw [List.length_map, hl, h0]
      refine (Any.slices_Clone_int laysClone (ρ 0).blk (ρ 0).off (n + 1) (ρ 0).cap (xs.map DV.toI) w (by omega) (by omega) (fun j hj => ?_)).mono fun e w' ⟨v', he, ho, _, hb⟩ => ?_
      · rw [hc j (by simpa using hj)]
        have hj' : j < xs.length := by simpa using hj
        simp [List.getD_eq_getElem?_getD, List.getElem?_eq_getElem hj']
      · subst he
        refine out _ _ ?_ hb
        have e1 : ((xs.map DV.toI).take (n + 1)).map (Value.int .i64) = xs.map iv := by
          rw [List.take_of_length_le (by omega), List.map_map]; rfl
        rw [e1] at ho
        rw [show xs.length = n + 1 from by omega]
        exact ho
end Go.Proofs.Ytkpbkanbpjfadaa

namespace Go.Proofs.Ytkpbkanbpjfadaa
open Go Go.Sx Go.RowKit

theorem shape_of {w : World} {b o : Nat} (h : (w.cell? ⟨b, o, none⟩).isSome = true) : ∃ e k, w.shape? b = some (e, k) ∧ o < k := by
  unfold World.cell? at h
  cases hb : w.heap[b]? with
  | none => simp [hb] at h
  | some x =>
    cases x with
    | cells c e z =>
      refine ⟨e, c.size, by simp [World.shape?, hb], ?_⟩
      simp [hb] at h
      exact h
    | _ => simp [hb] at h

theorem mk_row {E : Env} {w' : World} {b o c : Nat} {y : DV} {xs : List DV} (hlt : b < w'.heap.size) (h0 : w'.cell? ⟨b, o, none⟩ = some (iv y)) (h1 : ∀ k, k < xs.length → w'.cell? ⟨b, o + 1 + k, none⟩ = some (iv (xs.getD k default)))
    (hc : xs.length + 1 ≤ c) (hm : c ≤ 9223372036854775807) (hr : ∀ i, i < c → (w'.cell? ⟨b, o + i, none⟩).isSome = true) (hf : ∀ i, w'.frozen? ⟨b, i, none⟩ = false) :
    VRel E w' ⟨b, o, false, xs.length + 1, c, none⟩ true [.int .i64] ([y] ++ xs) := by
  refine ⟨fun e => (by cases e), fun _ => hlt, by decide, by show ([y] ++ xs).length = (xs.length + 1) * 1; simp, hc, fun i hi => ?_, fun _ _ i hi => ⟨hr i (by simpa using hi), hf _⟩, fun _ _ => ⟨hm, hf⟩⟩
  have hmod : i % [LT.int .i64].length = 0 := Nat.mod_one i
  rw [hmod]
  refine ⟨iv (([y] ++ xs).getD i default), ?_, .int .i64 _⟩
  cases i with
  | zero => exact h0
  | succ k =>
    have hk : k < xs.length := by simpa using hi
    show w'.cell? ⟨b, o + (k + 1), none⟩ = _
    rw [show o + (k + 1) = o + 1 + k from by omega, h1 k hk]
    rfl

theorem fr_set {W : Nat → Prop} {w : World} {b o : Nat} {vs : List Value} (hb : W b) : Fr W w (w.setCells b o vs) :=
  ⟨(setCells_os b vs o w).1, (setCells_os b vs o w).2.1, (setCells_os b vs o w).2.2, by rw [setCells_size]; exact Nat.le_refl _, fun k _ hW => setCells_block b vs o w k fun e => hW (e ▸ hb)⟩
theorem fr_drew {W : Nat → Prop} {w : World} : Fr W w w.drew := ⟨rfl, rfl, rfl, Nat.le_refl _, fun _ _ _ => rfl⟩

theorem k30 : FnOK Try.prog (fun _ => True) 0 30 s30 g30 := by
  intro ds ρ w _ hlen hneed _ _ _ hrel
  have hv : VRel (callEnv s30.hinI ρ w) w (ρ 0) true [.int .i64] (dget ds 0).toL := hrel.blk 0 _ rfl
  have hu : VRel (callEnv s30.hinI ρ w) w (ρ 1) true [.int .i64] (dget ds 2).toL := hrel.blk 1 _ rfl
  have hp : p30 (dget ds 0).toL (dget ds 1).toI (dget ds 2).toL = true := hneed rfl
  unfold p30 at hp
  simp only [Bool.and_eq_true, decide_eq_true_eq] at hp
  obtain ⟨⟨hlim, hx1⟩, hy1⟩ := hp
  show Calls Try.prog 30 #[(ρ 0).slice, .int .i64 (dget ds 1).toI, (ρ 1).slice] w _
  rw [hx1]
  have hres : (g30 ds) = [.b true, .l ((dget ds 2).toL ++ (dget ds 0).toL)] := by
    show [DV.b (p30 (dget ds 0).toL (dget ds 1).toI (dget ds 2).toL), DV.l (r30_0 (dget ds 0).toL (dget ds 1).toI (dget ds 2).toL)] = _
    rw [show p30 (dget ds 0).toL (dget ds 1).toI (dget ds 2).toL = true from hneed rfl]
    rfl
  rw [hres]
  generalize hxs : (dget ds 0).toL = xs at *
  generalize hys : (dget ds 2).toL = ys at *
  obtain ⟨y, rfl⟩ : ∃ y, ys = [y] := by
    match ys, hy1 with
    | [y], _ => exact ⟨y, rfl⟩
  obtain ⟨hl, hc⟩ := row_cells hv
  obtain ⟨hl1, hc1⟩ := row_cells hu
  have hn1 : (ρ 1).nil = false := by
    cases h : (ρ 1).nil with
    | false => rfl
    | true => have := (hu.nil h).1; rw [this] at hl1; simp at hl1
  have hs1 : (ρ 1).slice = .slice (some ⟨(ρ 1).blk, (ρ 1).off, none⟩) 1 (ρ 1).cap := by
    unfold Loc.slice
    have : (ρ 1).len = 1 := by simpa using hl1.symm
    rw [hn1, this]; rfl
  have hW0 : (ρ 0).nil = false → (callEnv s30.hinI ρ w).W (ρ 0).blk := fun h => ⟨0, .v true [.int .i64] (.r 0), rfl, rfl, h, rfl⟩
  have out : ∀ (r : Sx.Loc) (w' : World), VRel (callEnv s30.hinI ρ w) w' r true [.int .i64] ([y] ++ xs) → (w.heap.size ≤ r.blk ∨ (callEnv s30.hinI ρ w).W r.blk) → Fr (callEnv s30.hinI ρ w).W w w' →
      ∃ v ρ', Ending.returned r.slice = .returned v ∧ CallOut s30 [.b true, .l ([y] ++ xs)] ρ w v ρ' w' := by
    intro r w' hvr hbl hfr
    refine ⟨r.slice, fun j => if j = 2 then r else ρ j, rfl, rfl, V.good_s.2 (V1.good_one.2 (show True from trivial)), ⟨fun j bk hj => ?_, fun j j' bk bk' hj _ hj' hne _ _ => ?_⟩, fun j bk hj => ?_, hfr, fun j hj _ => ?_⟩
    · match j, hj with
      | 0, hj => cases hj
      | 1, hj => cases hj
      | 2, hj => cases hj; exact hvr
      | j + 3, hj => cases j <;> cases hj
    · match j, j', hj, hj' with
      | 0, _, hj, _ => cases hj
      | 1, _, hj, _ => cases hj
      | 2, 0, _, hj => cases hj
      | 2, 1, _, hj => cases hj
      | 2, 2, _, _ => exact absurd rfl hne
      | 2, j + 3, _, hj => cases j <;> cases hj
      | j + 3, _, hj, _ => cases j <;> cases hj
    · match j, hj with
      | 0, hj => cases hj
      | 1, hj => cases hj
      | 2, hj =>
        rcases hbl with h | h
        · exact .inr (.inl h)
        · exact .inr (.inr (.inl h))
      | j + 3, hj => cases j <;> cases hj
    · match j, hj with
      | 0, hj => cases hj
      | 1, hj => cases hj
      | j + 2, hj => cases j <;> cases hj
  have hvs : ∀ (j : Nat) (v : Value), [iv y][j]? = some v → w.cell? ⟨(ρ 1).blk, (ρ 1).off + j, none⟩ = some v := fun j v hj => by
    cases j with
    | zero =>
      simp at hj
      subst hj
      exact hc1 0 (by simp)
    | succ j => simp at hj
  have h1v : ∀ v ∈ [iv y], v.oneCell' = true := fun v hv => by simp at hv; subst hv; rfl
  have hcs : ∀ (j : Nat) (v : Value), (xs.map iv)[j]? = some v → w.cell? ⟨(ρ 0).blk, (ρ 0).off + j, none⟩ = some v := fun j v hj => by
    rw [List.getElem?_map] at hj
    obtain ⟨d, hd, rfl⟩ := Option.map_eq_some_iff.1 hj
    have hjl := (List.getElem?_eq_some_iff.1 hd).1
    rw [hc j hjl]
    simp [List.getD_eq_getElem?_getD, hd]
  have h1c : ∀ v ∈ xs.map iv, v.oneCell' = true := fun v hv => by
    obtain ⟨d, _, rfl⟩ := List.mem_map.1 hv
    rfl
  have hgrow : ∀ (G : Nat) (tl : Array Value) (w' : World), xs.length + 1 ≤ G → G ≤ 9223372036854775807 → tl.size + xs.length + 1 = G → w'.heap[w.heap.size]? = some (.cells (([iv y] ++ xs.map iv).toArray ++ tl) 3 (0, 0)) → Fr (fun _ => False) w w' →
      ∃ v ρ', Ending.returned (Value.slice (some ⟨w.heap.size, 0, none⟩) (xs.length + 1) G) = .returned v ∧ CallOut s30 [.b true, .l ([y] ++ xs)] ρ w v ρ' w' := by
    intro G tl w' h1 h2 h3 h4 h5
    have hlt : w.heap.size < w'.heap.size := by
      rcases Nat.lt_or_ge w.heap.size w'.heap.size with h | h
      · exact h
      · rw [Array.getElem?_eq_none h] at h4; cases h4
    have hcell : ∀ i, w'.cell? ⟨w.heap.size, i, none⟩ = (([iv y] ++ xs.map iv).toArray ++ tl)[i]? := cell_of h4
    refine out ⟨w.heap.size, 0, false, xs.length + 1, G, none⟩ w' (mk_row hlt ?_ (fun k hk => ?_) h1 h2 (fun i hi => ?_) (fun i => by simp [World.frozen?, h4])) (.inl (Nat.le_refl _)) (h5.weaken fun b hb => hb.elim)
    · rw [hcell, Array.getElem?_append_left (by simp)]; simp
    · rw [hcell, Array.getElem?_append_left (by simp; omega)]
      simp [Nat.add_comm 1 k, List.getD_eq_getElem?_getD, hk]
    · rw [hcell, Array.getElem?_eq_getElem (by simp; omega)]
      rfl
  have hcl : (xs.map iv).length = (ρ 0).len := by rw [List.length_map, hl]
  by_cases hroom : (ρ 0).len + 1 ≤ (ρ 0).cap
  · have hn0 : (ρ 0).nil = false := by
      cases h : (ρ 0).nil with
      | false => rfl
      | true => have := hv.nil h; omega
    have hs0 : (ρ 0).slice = .slice (some ⟨(ρ 0).blk, (ρ 0).off, none⟩) (ρ 0).len (ρ 0).cap := by unfold Loc.slice; rw [hn0]; rfl
    rw [hs0, hs1]
    have hown : ∀ i, i < (ρ 0).cap → (w.cell? ⟨(ρ 0).blk, (ρ 0).off + i, none⟩).isSome = true ∧ w.frozen? ⟨(ρ 0).blk, (ρ 0).off + i, none⟩ = false := fun i hi => hv.own rfl hn0 i (by simpa using hi)
    obtain ⟨hm, hfz⟩ := hv.fz rfl hn0
    have hlt := hv.lt hn0
    by_cases h0 : (ρ 0).len = 0
    · have hx0 : xs = [] := List.eq_nil_of_length_eq_zero (by omega)
      have hrun := Any2.slices_Insert_int_end_room laysIns (ρ 0).blk (ρ 0).off (ρ 0).len (ρ 0).cap (ρ 1).blk (ρ 1).off 1 (ρ 1).cap [iv y] w (by decide) hroom hm rfl
        (fun j hj => by have := (hown ((ρ 0).len + j) (by omega)).1; rwa [← Nat.add_assoc] at this) (fun j hj => hfz _) hvs h1v
      have hz : ((ρ 0).len : Int) = 0 := by omega
      rw [hz] at hrun
      refine hrun.mono fun e w' ⟨he, hw⟩ => ?_
      subst he; subst hw
      have hsl : Value.slice (some ⟨(ρ 0).blk, (ρ 0).off, none⟩) ((ρ 0).len + 1) (ρ 0).cap = Sx.Loc.slice ⟨(ρ 0).blk, (ρ 0).off, false, xs.length + 1, (ρ 0).cap, none⟩ := by rw [hl]; rfl
      rw [hsl, h0, Nat.add_zero]
      have hin := World.cell?_setCells_in (ρ 0).blk [iv y] (ρ 0).off w (fun j hj => (hown j (by simp at hj; omega)).1) 0 (by simp)
      refine out _ _ (mk_row (by rw [setCells_size]; exact hlt) (by simpa using hin) (fun k hk => by rw [hx0] at hk; simp at hk) (by omega) hm (fun i hi => ?_) (fun i => by rw [World.frozen?_setCells]; exact hfz _)) (.inr (hW0 hn0)) (fr_set (hW0 hn0))
      exact isSome_setCells _ _ _ _ (fun t ht => (hown t (by simp at ht; omega)).1) _ (hown i hi).1
    · obtain ⟨tB, kB, hsb, hkb⟩ := shape_of (hown 0 (by omega)).1
      have hc10 := hc1 0 (by simp)
      obtain ⟨tA, kA, hsa, _⟩ := shape_of (w := w) (b := (ρ 1).blk) (o := (ρ 1).off + 0) (by rw [hc10]; rfl)
      have hap : (ρ 1).blk ≠ (ρ 0).blk := hrel.apart 1 0 (.v true [.int .i64] (.r 2)) (.v true [.int .i64] (.r 0)) rfl rfl rfl (by decide) hn1 hn0
      have hfz1 := (hu.fz rfl hn1).2
      have hrun := Any2.slices_Insert_int_shift laysIns (ρ 0).blk (ρ 0).off (ρ 0).len (ρ 0).cap 0 (ρ 1).blk (ρ 1).off 1 (ρ 1).cap (xs.map iv) [iv y] w (by omega) (by decide) hroom hm hap hcl rfl hcs
        (fun j hj => (hown j (by omega)).1) (fun j hj => hfz _) hvs h1c h1v tA tB kA kB hsa hsb (by omega) (hfz1 _) (hfz1 _)
      refine hrun.mono fun e w' ⟨he, hw⟩ => ?_
      subst he; subst hw
      have hsl : Value.slice (some ⟨(ρ 0).blk, (ρ 0).off, none⟩) ((ρ 0).len + 1) (ρ 0).cap = Sx.Loc.slice ⟨(ρ 0).blk, (ρ 0).off, false, xs.length + 1, (ρ 0).cap, none⟩ := by rw [hl]; rfl
      rw [hsl, List.drop_zero, Nat.add_zero, show (ρ 0).off + (0 + 1) = (ρ 0).off + 1 from rfl]
      have hex1 : ∀ j, j < (xs.map iv).length → (w.drew.cell? ⟨(ρ 0).blk, (ρ 0).off + 1 + j, none⟩).isSome = true := fun j hj => by
        have := (hown (1 + j) (by omega)).1
        rw [← Nat.add_assoc] at this
        exact this
      have hsome1 : ∀ i, i < (ρ 0).cap → ((w.drew.setCells (ρ 0).blk ((ρ 0).off + 1) (xs.map iv)).cell? ⟨(ρ 0).blk, (ρ 0).off + i, none⟩).isSome = true := fun i hi =>
        isSome_setCells _ _ _ _ hex1 _ (hown i hi).1
      have hin1 := World.cell?_setCells_in (ρ 0).blk (xs.map iv) ((ρ 0).off + 1) w.drew hex1
      have hin2 := World.cell?_setCells_in (ρ 0).blk [iv y] (ρ 0).off (w.drew.setCells (ρ 0).blk ((ρ 0).off + 1) (xs.map iv)) (fun j hj => hsome1 j (by simp at hj; omega)) 0 (by simp)
      refine out _ _ (mk_row (by rw [setCells_size, setCells_size]; exact hlt) (by simpa using hin2) (fun k hk => ?_) (by omega) hm (fun i hi => ?_) (fun i => by rw [World.frozen?_setCells, World.frozen?_setCells]; exact hfz _)) (.inr (hW0 hn0)) ((fr_drew.trans (fr_set (hW0 hn0))).trans (fr_set (hW0 hn0)))
      · rw [World.cell?_setCells_out _ _ _ _ _ (fun _ _ => .inr (by simp)), hin1 k (by simpa using hk)]
        simp [List.getD_eq_getElem?_getD, hk]
      · exact isSome_setCells _ _ _ _ (fun t ht => hsome1 t (by simp at ht; omega)) _ (hsome1 i hi)
  · have hcap : (ρ 0).len ≤ (ρ 0).cap := hv.cap
    have hge := grownCap_ge w ((ρ 0).len + 1) (ρ 0).cap 3
    have hle := grownCap_le_maxLen w ((ρ 0).len + 1) (ρ 0).cap 3 (by unfold maxLen; omega)
    unfold maxLen at hle
    by_cases h0 : (ρ 0).len = 0
    · have hx0 : xs = [] := List.eq_nil_of_length_eq_zero (by omega)
      have hs0 : (ρ 0).slice = .slice (if (ρ 0).nil then (ρ 0).raw else some ⟨(ρ 0).blk, (ρ 0).off, none⟩) (ρ 0).len (ρ 0).cap := by
        unfold Loc.slice
        cases (ρ 0).nil <;> rfl
      rw [hs0, hs1]
      have hrun := Any2.slices_Insert_int_end_grow laysIns (if (ρ 0).nil then (ρ 0).raw else some ⟨(ρ 0).blk, (ρ 0).off, none⟩) (ρ 0).len (ρ 0).cap (ρ 1).blk (ρ 1).off 1 (ρ 1).cap [] [iv y] w (by decide) hcap (by omega) (by omega) h0.symm rfl (fun _ => h0)
        (fun a _ j v hj => by simp at hj) hvs h1v
      have hz : ((ρ 0).len : Int) = 0 := by omega
      rw [hz] at hrun
      refine hrun.mono fun e w' ⟨he, hw⟩ => ?_
      subst he; subst hw
      rw [show insRen.t 3 = 3 from rfl]
      have hll : (ρ 0).len + 1 = xs.length + 1 := by omega
      rw [hll] at hge hle ⊢
      generalize hG : grownCap w (xs.length + 1) (ρ 0).cap 3 = G at *
      refine hgrow G (Builtin.zeroCells (Value.int .i64 0).cells (G - (xs.length + 1))) _ hge hle (by rw [size_zeroCells]; show (G - (xs.length + 1)) * 1 + xs.length + 1 = G; omega) ?_ ⟨rfl, rfl, rfl, by simp, fun k hk _ => Below.heap_alloc w.drew _ _ hk⟩
      rw [hx0]
      show (w.heap.push _)[w.heap.size]? = _
      simp
    · have hn0 : (ρ 0).nil = false := by
        cases h : (ρ 0).nil with
        | false => rfl
        | true => have := hv.nil h; omega
      have hs0 : (ρ 0).slice = .slice (some ⟨(ρ 0).blk, (ρ 0).off, none⟩) (ρ 0).len (ρ 0).cap := by unfold Loc.slice; rw [hn0]; rfl
      rw [hs0, hs1]
      have hrun := Any2.slices_Insert_int_grow laysIns (ρ 0).blk (ρ 0).off (ρ 0).len (ρ 0).cap 0 (ρ 1).blk (ρ 1).off 1 (ρ 1).cap (xs.map iv) [iv y] w (by omega) (by decide) hcap (by omega) (by omega) hcl rfl hcs hvs h1c h1v
      refine hrun.mono fun e w' ⟨he, hw⟩ => ?_
      subst he; subst hw
      rw [show insRen.t 3 = 3 from rfl]
      have hll : (ρ 0).len + 1 = xs.length + 1 := by omega
      rw [hll] at hge hle ⊢
      generalize hG : grownCap w (xs.length + 1) (ρ 0).cap 3 = G at *
      rw [List.drop_zero]
      generalize hROW : (((xs.map iv).take 0).toArray ++ Builtin.zeroCells (Value.int .i64 0).cells (xs.length + 1 - 0) ++ Builtin.zeroCells (Value.int .i64 0).cells (G - (xs.length + 1))) = ROW
      have hRs : ROW.size = G := by
        rw [← hROW, Array.size_append, Array.size_append, size_zeroCells, size_zeroCells]
        show 0 + (xs.length + 1 - 0) * 1 + (G - (xs.length + 1)) * 1 = G
        omega
      have hex0 : ∀ i, i < G → ((w.alloc (.cells ROW 3)).drew.cell? ⟨w.heap.size, i, none⟩).isSome = true := fun i hi => by
        show ((w.alloc (.cells ROW 3)).cell? ⟨w.heap.size, i, none⟩).isSome = true
        rw [World.cell?_alloc_new, Array.getElem?_eq_getElem (by omega)]
        rfl
      have hin1 := World.cell?_setCells_in w.heap.size [iv y] 0 (w.alloc (.cells ROW 3)).drew (fun j hj => by rw [Nat.zero_add]; exact hex0 j (by simp at hj; omega)) 0 (by simp)
      have hex1 : ∀ i, i < G → (((w.alloc (.cells ROW 3)).drew.setCells w.heap.size 0 [iv y]).drew.cell? ⟨w.heap.size, i, none⟩).isSome = true := fun i hi =>
        isSome_setCells w.heap.size [iv y] 0 (w.alloc (.cells ROW 3)).drew (fun t ht => by rw [Nat.zero_add]; exact hex0 t (by simp at ht; omega)) i (hex0 i hi)
      have hexs : ∀ j, j < (xs.map iv).length → (((w.alloc (.cells ROW 3)).drew.setCells w.heap.size 0 [iv y]).drew.cell? ⟨w.heap.size, 0 + 1 + j, none⟩).isSome = true := fun j hj => hex1 _ (by simp at hj; omega)
      have hin2 := World.cell?_setCells_in w.heap.size (xs.map iv) (0 + 1) ((w.alloc (.cells ROW 3)).drew.setCells w.heap.size 0 [iv y]).drew hexs
      have hfr : Fr (fun b => b = w.heap.size) w ((((w.alloc (.cells ROW 3)).drew.setCells w.heap.size 0 [iv y]).drew).setCells w.heap.size (0 + 1) (xs.map iv)) := by
        refine Fr.trans (Fr.trans (Fr.trans (Fr.trans (b := w.alloc (.cells ROW 3)) ?_ fr_drew) (fr_set rfl)) fr_drew) (fr_set rfl)
        exact ⟨rfl, rfl, rfl, by simp, fun k hk _ => Below.heap_alloc w _ _ hk⟩
      refine out ⟨w.heap.size, 0, false, xs.length + 1, G, none⟩ _ (mk_row ?_ ?_ (fun k hk => ?_) hge hle (fun i hi => ?_) (fun i => ?_)) (.inl (Nat.le_refl _)) ⟨hfr.os, hfr.tape, hfr.output, hfr.size, fun b hb _ => hfr.block b hb (by omega)⟩
      · rw [setCells_size]
        show w.heap.size < ((w.alloc (.cells ROW 3)).drew.setCells w.heap.size 0 [iv y]).heap.size
        rw [setCells_size]
        show w.heap.size < (w.alloc (.cells ROW 3)).heap.size
        simp
      · rw [World.cell?_setCells_out _ _ _ _ _ (fun _ _ => .inl (by simp))]
        simpa using hin1
      · rw [hin2 k (by simpa using hk)]
        simp [List.getD_eq_getElem?_getD, hk]
      · exact isSome_setCells _ _ _ _ hexs _ (hex1 (0 + i) (by omega))
      · rw [World.frozen?_setCells]
        show ((w.alloc (.cells ROW 3)).drew.setCells w.heap.size 0 [iv y]).frozen? _ = false
        rw [World.frozen?_setCells]
        exact World.frozen?_alloc_new w _ _ _
end Go.Proofs.Ytkpbkanbpjfadaa

namespace Go.Proofs.Ytkpbkanbpjfadaa
open Go Go.Sx
set_option maxRecDepth 100000
set_option maxHeartbeats 4000000
def WI (_ : World) : Prop := True
def gK : Nat := 0
theorem wiStable : Stable WI gK := fun _ _ _ _ h => h


noncomputable def FE : FEnv := fun f => match f with
  | 26 => g26
  | 28 => g28
  | 25 => g25
  | 23 => g23
  | 9 => g9
  | 14 => g14
  | 101600 => g101600
  | 16 => g16
  | 101100 => g101100
  | 101102 => g101102
  | 11 => g11
  | 31 => g31
  | 30 => g30
  | 21 => g21
  | 101900 => g101900
  | 19 => g19
  | 8 => g8
  | 101800 => g101800
  | 18 => g18
  | 100600 => g100600
  | 6 => g6
  | _ => fun _ => []



theorem k26 : FnOK Try.prog WI gK 26 s26 g26 :=
  fn_ok (F := FE) wiStable (⟨fun _ _ h => (by cases h), (fun _ _ h => (by cases h))⟩) Try.func26 ev26 (by kernel_rfl) (fun _ h => (by cases h)) fun ds h hp => match ds, h, hp with
    | [d0, d1, d2, d3, d4, d5], _, _ => ⟨by kernel_rfl, nrms_teq (by kernel_rfl) (by kernel_rfl) (by kernel_rfl)⟩
theorem k28 : FnOK Try.prog WI gK 28 s28 g28 :=
  fn_ok (F := FE) wiStable (⟨fun _ _ h => (by cases h), (fun _ _ h => (by cases h))⟩) Try.func28 ev28 (by kernel_rfl) (fun _ h => (by cases h)) fun ds h hp => match ds, h, hp with
    | [d0, d1, d2, d3, d4, d5], _, _ => ⟨by kernel_rfl, nrms_teq (by kernel_rfl) (by kernel_rfl) (by kernel_rfl)⟩
theorem k25 : FnOK Try.prog WI gK 25 s25 g25 :=
  fn_ok (F := FE) wiStable (⟨fun _ _ h => (by cases h), (fun _ _ h => (by cases h))⟩) Try.func25 ev25 (by kernel_rfl) (fun _ h => (by cases h)) fun ds h hp => match ds, h, hp with
    | [d0, d1, d2, d3, d4], _, _ => ⟨by kernel_rfl, nrms_teq (by kernel_rfl) (by kernel_rfl) (by kernel_rfl)⟩
theorem k23 : FnOK Try.prog WI gK 23 s23 g23 :=
  fn_ok (F := FE) wiStable (⟨fun _ _ h => (by cases h), (fun _ _ h => (by cases h))⟩) Try.func23 ev23 (by kernel_rfl) (fun _ h => (by cases h)) fun ds h hp => match ds, h, hp with
    | [d0, d1, d2, d3, d4], _, _ => ⟨by kernel_rfl, nrms_teq (by kernel_rfl) (by kernel_rfl) (by kernel_rfl)⟩
theorem k9 : FnOK Try.prog WI gK 9 s9 g9 :=
  fn_ok (F := FE) wiStable (⟨fun _ _ h => (by cases h), (fun _ _ h => (by cases h))⟩) Try.func9 ev9 (by kernel_rfl) (fun _ h => (by cases h)) fun ds h hp => match ds, h, hp with
    | [], _, hp => ⟨(by kernel_rfl : owesB (outEnv FE s9 o9 []) o9.owes = (dget (g9 []) 0).toB).trans (hp rfl), nrms_teq (by kernel_rfl) (by kernel_rfl) (by kernel_rfl)⟩
theorem k14 : FnOK Try.prog WI gK 14 s14 g14 :=
  fn_ok (F := FE) wiStable (⟨(fun f s h => assoc_all (Q := fun f s => FnOK Try.prog WI gK f s (FE f)) (l := S14.fs)
    (show ∀ p ∈ [(28, s28)], FnOK Try.prog WI gK p.1 p.2 (FE p.1) from
    List.forall_mem_cons.2 ⟨k28, fun _ h => (by cases h)⟩) h), (fun _ _ h => (by cases h))⟩) Try.func14 ev14 (by kernel_rfl) (fun _ h => (by cases h)) fun ds h hp => match ds, h, hp with
    | [d0, d1, d2, d3, d4, d5], _, hp => ⟨(by kernel_rfl : owesB (outEnv FE s14 o14 [d0, d1, d2, d3, d4, d5]) o14.owes = (dget (g14 [d0, d1, d2, d3, d4, d5]) 0).toB).trans (hp rfl), nrms_teq (by kernel_rfl) (by kernel_rfl) (by kernel_rfl)⟩
theorem hl16_0 : LoopSound FE l16_0 := loop_ok (w := W101600) (c := C101600) (nx := N101600) (out := T101600) [.i, .l, .l, .l, .l, .l, .i, .i, .l] (fun ds => by kernel_rfl) rfl (fun ν xs h => match xs, h with | [x0, x1, x2, x3, x4, x5], _ => by kernel_rfl)
  (fun ν xs h => match xs, h with | [x0, x1, x2, x3, x4, x5], _ => by kernel_rfl)
  (fun ν xs h => match xs, h with | [x0, x1, x2, x3, x4, x5], _ => by kernel_rfl)
  (fun ν xs h => match xs, h with | [x0, x1, x2, x3, x4, x5], _ => by kernel_rfl)
theorem hl16 : ∀ l ∈ o16.loops, LoopSound FE l := show ∀ l ∈ [l16_0], LoopSound FE l from
  List.forall_mem_cons.2 ⟨hl16_0, fun _ h => (by cases h)⟩
theorem k16 : FnOK Try.prog WI gK 16 s16 g16 :=
  fn_ok (F := FE) wiStable (⟨(fun f s h => assoc_all (Q := fun f s => FnOK Try.prog WI gK f s (FE f)) (l := S16.fs)
    (show ∀ p ∈ [(26, s26)], FnOK Try.prog WI gK p.1 p.2 (FE p.1) from
    List.forall_mem_cons.2 ⟨k26, fun _ h => (by cases h)⟩) h), (fun _ _ h => (by cases h))⟩) Try.func16 ev16 (by kernel_rfl) hl16 fun ds h hp => match ds, h, hp with
    | [d0, d1, d2, d3, d4, d5], _, hp => ⟨(by kernel_rfl : owesB (outEnv FE s16 o16 [d0, d1, d2, d3, d4, d5]) o16.owes = (dget (g16 [d0, d1, d2, d3, d4, d5]) 0).toB).trans (hp rfl), nrms_teq (by kernel_rfl) (by kernel_rfl) (by kernel_rfl)⟩
theorem hl11_0 : LoopSound FE l11_0 := loop_ok (w := W101102) (c := C101102) (nx := N101102) (out := T101102) [.i, .i, .i, .l, .i, .i, .i, .i] (fun ds => by kernel_rfl) rfl (fun ν xs h => match xs, h with | [x0, x1, x2, x3], _ => by kernel_rfl)
  (fun ν xs h => match xs, h with | [x0, x1, x2, x3], _ => by kernel_rfl)
  (fun ν xs h => match xs, h with | [x0, x1, x2, x3], _ => by kernel_rfl)
  (fun ν xs h => match xs, h with | [x0, x1, x2, x3], _ => by kernel_rfl)
theorem hl11_1 : LoopSound FE l11_1 := loop_ok (w := W101100) (c := C101100) (nx := N101100) (out := T101100) [.i, .l, .i, .l, .l, .i, .l, .l, .l, .l, .i, .l] (fun ds => by kernel_rfl) rfl (fun ν xs h => match xs, h with | [x0, x1, x2, x3, x4, x5, x6, x7], _ => by kernel_rfl)
  (fun ν xs h => match xs, h with | [x0, x1, x2, x3, x4, x5, x6, x7], _ => by kernel_rfl)
  (fun ν xs h => match xs, h with | [x0, x1, x2, x3, x4, x5, x6, x7], _ => by kernel_rfl)
  (fun ν xs h => match xs, h with | [x0, x1, x2, x3, x4, x5, x6, x7], _ => by kernel_rfl)
theorem hl11 : ∀ l ∈ o11.loops, LoopSound FE l := show ∀ l ∈ [l11_0, l11_1], LoopSound FE l from
  List.forall_mem_cons.2 ⟨hl11_0, List.forall_mem_cons.2 ⟨hl11_1, fun _ h => (by cases h)⟩⟩
theorem k11 : FnOK Try.prog WI gK 11 s11 g11 :=
  fn_ok (F := FE) wiStable (⟨(fun f s h => assoc_all (Q := fun f s => FnOK Try.prog WI gK f s (FE f)) (l := S11.fs)
    (show ∀ p ∈ [(26, s26)], FnOK Try.prog WI gK p.1 p.2 (FE p.1) from
    List.forall_mem_cons.2 ⟨k26, fun _ h => (by cases h)⟩) h), (fun _ _ h => (by cases h))⟩) Try.func11 ev11 (by kernel_rfl) hl11 fun ds h hp => match ds, h, hp with
    | [d0, d1, d2, d3, d4, d5], _, hp => ⟨(by kernel_rfl : owesB (outEnv FE s11 o11 [d0, d1, d2, d3, d4, d5]) o11.owes = (dget (g11 [d0, d1, d2, d3, d4, d5]) 0).toB).trans (hp rfl), nrms_teq (by kernel_rfl) (by kernel_rfl) (by kernel_rfl)⟩
theorem k21 : FnOK Try.prog WI gK 21 s21 g21 :=
  fn_ok (F := FE) wiStable (⟨(fun f s h => assoc_all (Q := fun f s => FnOK Try.prog WI gK f s (FE f)) (l := S21.fs)
    (show ∀ p ∈ [(31, s31)], FnOK Try.prog WI gK p.1 p.2 (FE p.1) from
    List.forall_mem_cons.2 ⟨k31, fun _ h => (by cases h)⟩) h), (fun _ _ h => (by cases h))⟩) Try.func21 ev21 (by kernel_rfl) (fun _ h => (by cases h)) fun ds h hp => match ds, h, hp with
    | [d0, d1, d2, d3, d4], _, hp => ⟨(by kernel_rfl : owesB (outEnv FE s21 o21 [d0, d1, d2, d3, d4]) o21.owes = (dget (g21 [d0, d1, d2, d3, d4]) 0).toB).trans (hp rfl), nrms_teq (by kernel_rfl) (by kernel_rfl) (by kernel_rfl)⟩
theorem hl19_0 : LoopSound FE l19_0 := loop_ok (w := W101900) (c := C101900) (nx := N101900) (out := T101900) [.i, .i, .l, .l, .i, .l, .l, .l, .i] (fun ds => by kernel_rfl) rfl (fun ν xs h => match xs, h with | [x0, x1, x2, x3, x4], _ => by kernel_rfl)
  (fun ν xs h => match xs, h with | [x0, x1, x2, x3, x4], _ => by kernel_rfl)
  (fun ν xs h => match xs, h with | [x0, x1, x2, x3, x4], _ => by kernel_rfl)
  (fun ν xs h => match xs, h with | [x0, x1, x2, x3, x4], _ => by kernel_rfl)
theorem hl19 : ∀ l ∈ o19.loops, LoopSound FE l := show ∀ l ∈ [l19_0], LoopSound FE l from
  List.forall_mem_cons.2 ⟨hl19_0, fun _ h => (by cases h)⟩
theorem k19 : FnOK Try.prog WI gK 19 s19 g19 :=
  fn_ok (F := FE) wiStable (⟨(fun f s h => assoc_all (Q := fun f s => FnOK Try.prog WI gK f s (FE f)) (l := S19.fs)
    (show ∀ p ∈ [(28, s28), (26, s26), (31, s31), (30, s30)], FnOK Try.prog WI gK p.1 p.2 (FE p.1) from
    List.forall_mem_cons.2 ⟨k28, List.forall_mem_cons.2 ⟨k26, List.forall_mem_cons.2 ⟨k31, List.forall_mem_cons.2 ⟨k30, fun _ h => (by cases h)⟩⟩⟩⟩) h), (fun _ _ h => (by cases h))⟩) Try.func19 ev19 (by kernel_rfl) hl19 fun ds h hp => match ds, h, hp with
    | [d0, d1, d2, d3, d4, d5], _, hp => ⟨(by kernel_rfl : owesB (outEnv FE s19 o19 [d0, d1, d2, d3, d4, d5]) o19.owes = (dget (g19 [d0, d1, d2, d3, d4, d5]) 0).toB).trans (hp rfl), nrms_teq (by kernel_rfl) (by kernel_rfl) (by kernel_rfl)⟩
theorem k8 : FnOK Try.prog WI gK 8 s8 g8 :=
  fn_ok (F := FE) wiStable (⟨(fun f s h => assoc_all (Q := fun f s => FnOK Try.prog WI gK f s (FE f)) (l := S8.fs)
    (show ∀ p ∈ [(9, s9), (11, s11), (23, s23), (14, s14), (16, s16), (21, s21), (19, s19), (25, s25)], FnOK Try.prog WI gK p.1 p.2 (FE p.1) from
    List.forall_mem_cons.2 ⟨k9, List.forall_mem_cons.2 ⟨k11, List.forall_mem_cons.2 ⟨k23, List.forall_mem_cons.2 ⟨k14, List.forall_mem_cons.2 ⟨k16, List.forall_mem_cons.2 ⟨k21, List.forall_mem_cons.2 ⟨k19, List.forall_mem_cons.2 ⟨k25, fun _ h => (by cases h)⟩⟩⟩⟩⟩⟩⟩⟩) h), (fun _ _ h => (by cases h))⟩) Try.func8 ev8 (by kernel_rfl) (fun _ h => (by cases h)) fun ds h hp => match ds, h, hp with
    | [], _, hp => ⟨(by kernel_rfl : owesB (outEnv FE s8 o8 []) o8.owes = (dget (g8 []) 0).toB).trans (hp rfl), nrms_teq (by kernel_rfl) (by kernel_rfl) (by kernel_rfl)⟩
theorem hl18_0 : LoopSound FE l18_0 := loop_ok (w := W101800) (c := C101800) (nx := N101800) (out := T101800) [.l, .l, .b, .i] (fun ds => by kernel_rfl) rfl (fun ν xs h => match xs, h with | [x0, x1], _ => by kernel_rfl)
  (fun ν xs h => match xs, h with | [x0, x1], _ => by kernel_rfl)
  (fun ν xs h => match xs, h with | [x0, x1], _ => by kernel_rfl)
  (fun ν xs h => match xs, h with | [x0, x1], _ => by kernel_rfl)
theorem hl18 : ∀ l ∈ o18.loops, LoopSound FE l := show ∀ l ∈ [l18_0], LoopSound FE l from
  List.forall_mem_cons.2 ⟨hl18_0, fun _ h => (by cases h)⟩
theorem k18 : FnOK Try.prog WI gK 18 s18 g18 :=
  fn_ok (F := FE) wiStable (⟨fun _ _ h => (by cases h), (fun _ _ h => (by cases h))⟩) Try.func18 ev18 (by kernel_rfl) hl18 fun ds h hp => match ds, h, hp with
    | [d0, d1], _, hp => ⟨(by kernel_rfl : owesB (outEnv FE s18 o18 [d0, d1]) o18.owes = (dget (g18 [d0, d1]) 0).toB).trans (hp rfl), nrms_teq (by kernel_rfl) (by kernel_rfl) (by kernel_rfl)⟩
theorem hl6_0 : LoopSound FE l6_0 := loop_ok (w := W100600) (c := C100600) (nx := N100600) (out := T100600) [.l, .i, .i, .l, .l, .l, .i, .i, .l] (fun ds => by kernel_rfl) rfl (fun ν xs h => match xs, h with | [x0, x1, x2, x3, x4, x5, x6, x7], _ => by kernel_rfl)
  (fun ν xs h => match xs, h with | [x0, x1, x2, x3, x4, x5, x6, x7], _ => by kernel_rfl)
  (fun ν xs h => match xs, h with | [x0, x1, x2, x3, x4, x5, x6, x7], _ => by kernel_rfl)
  (fun ν xs h => match xs, h with | [x0, x1, x2, x3, x4, x5, x6, x7], _ => by kernel_rfl)
theorem hl6 : ∀ l ∈ o6.loops, LoopSound FE l := show ∀ l ∈ [l6_0], LoopSound FE l from
  List.forall_mem_cons.2 ⟨hl6_0, fun _ h => (by cases h)⟩
theorem k6 : FnOK Try.prog WI gK 6 s6 g6 :=
  fn_ok (F := FE) wiStable (⟨(fun f s h => assoc_all (Q := fun f s => FnOK Try.prog WI gK f s (FE f)) (l := S6.fs)
    (show ∀ p ∈ [(8, s8), (9, s9), (23, s23), (21, s21), (25, s25), (11, s11), (19, s19), (18, s18), (14, s14), (16, s16)], FnOK Try.prog WI gK p.1 p.2 (FE p.1) from
    List.forall_mem_cons.2 ⟨k8, List.forall_mem_cons.2 ⟨k9, List.forall_mem_cons.2 ⟨k23, List.forall_mem_cons.2 ⟨k21, List.forall_mem_cons.2 ⟨k25, List.forall_mem_cons.2 ⟨k11, List.forall_mem_cons.2 ⟨k19, List.forall_mem_cons.2 ⟨k18, List.forall_mem_cons.2 ⟨k14, List.forall_mem_cons.2 ⟨k16, fun _ h => (by cases h)⟩⟩⟩⟩⟩⟩⟩⟩⟩⟩) h), (fun _ _ h => (by cases h))⟩) Try.func6 ev6 (by kernel_rfl) hl6 fun ds h hp => match ds, h, hp with
    | [d0, d1], _, hp => ⟨(by kernel_rfl : owesB (outEnv FE s6 o6 [d0, d1]) o6.owes = (dget (g6 [d0, d1]) 0).toB).trans (hp rfl), nrms_teq (by kernel_rfl) (by kernel_rfl) (by kernel_rfl)⟩
end Go.Proofs.Ytkpbkanbpjfadaa

namespace Go.Sx
open Go Go.ChangeShapes Go.WideShapes Go.RowKit

inductive Sh where
  | one (t : LT)
  | agg (l : List LT)
  deriving Inhabited
def Sh.lts : Sh → List LT
  | .one t => [t]
  | .agg l => l
def nIn (ss : List Sh) : Nat := (ss.map fun s => s.lts.length).sum
def LT.conc (t : LT) (d : DV) : Value :=
  match t with
  | .int k => .int k d.toI
  | .bool => .bool d.toB
  | .vec _ => .bool false
def leafVals (g : Nat → DV) : Nat → List LT → List Value
  | _, [] => []
  | j, t :: ts => t.conc (g j) :: leafVals g (j + 1) ts
def argVals (g : Nat → DV) : Nat → List Sh → List Value
  | _, [] => []
  | j, .one t :: ss => t.conc (g j) :: argVals g (j + 1) ss
  | j, .agg ts :: ss => .agg (leafVals g j ts).toArray :: argVals g (j + ts.length) ss
def LT.pat (j : Nat) : LT → Lf
  | .int k => .i k (.h j)
  | .bool => .b (.h j)
  | .vec _ => .b (.t false)
def patLeaves : Nat → List LT → List Lf
  | _, [] => []
  | j, t :: ts => t.pat j :: patLeaves (j + 1) ts
def patShapes : Nat → List Sh → List V
  | _, [] => []
  | j, .one t :: ss => .s (.one (t.pat j)) :: patShapes (j + 1) ss
  | j, .agg ts :: ss => .s (.agg (patLeaves j ts)) :: patShapes (j + ts.length) ss

theorem idsFrom_getD : ∀ (k n j : Nat), j < k → (idsFrom n k).getD j default = .r (n + j)
  | 0, _, _, h => by omega
  | k + 1, n, 0, _ => rfl
  | k + 1, n, j + 1, h => by
    have := idsFrom_getD k (n + 1) j (by omega)
    simp only [idsFrom, List.getD_cons_succ, this]
    congr 1
    omega
theorem pat_conc {n : Nat} (g : Nat → DV) (ρ : Nat → Loc) {t : LT} {j : Nat} (h : j < n) : ((t.pat j).inst (idsFrom 0 n)).conc g ρ = t.conc (g j) ∧ ((t.pat j).inst (idsFrom 0 n)).good g := by
  have e : (A.h j).inst (idsFrom 0 n) = .r j := by
    have := idsFrom_getD n 0 j h
    simpa [A.inst] using this
  cases t with
  | int k => exact ⟨by simp only [LT.pat, Lf.inst, e]; rfl, trivial⟩
  | bool => exact ⟨by simp only [LT.pat, Lf.inst, e]; rfl, trivial⟩
  | vec ts => exact ⟨rfl, trivial⟩
theorem patLeaves_conc {n : Nat} (g : Nat → DV) (ρ : Nat → Loc) : ∀ (ts : List LT) (j : Nat), j + ts.length ≤ n → ((patLeaves j ts).map (Lf.inst (idsFrom 0 n))).map (Lf.conc g ρ) = leafVals g j ts ∧ ∀ x ∈ (patLeaves j ts).map (Lf.inst (idsFrom 0 n)), Lf.good g x
  | [], j, _ => ⟨rfl, fun x hx => by cases hx⟩
  | t :: ts, j, h => by
    simp only [List.length_cons] at h
    obtain ⟨h1, h2⟩ := patLeaves_conc (n := n) g ρ ts (j + 1) (by omega)
    obtain ⟨h3, h4⟩ := pat_conc g ρ (t := t) (show j < n by omega)
    refine ⟨by simp only [patLeaves, List.map_cons, leafVals, h1, h3], fun x hx => ?_⟩
    simp only [patLeaves, List.map_cons] at hx
    rcases List.mem_cons.1 hx with rfl | hx
    · exact h4
    · exact h2 x hx
def flatFs (P : Program) (rec : TypeId → Option (List LT)) : Nat → List Field → Option (List LT)
  | _, [] => some []
  | o, f :: fs =>
    if Nat.beq f.offset o then
      match rec f.type with
      | none => none
      | some l =>
        if Nat.beq l.length (P.cellsOf f.type) then
          match flatFs P rec (o + l.length) fs with
          | none => none
          | some r => some (l ++ r)
        else none
    else none
def flatT (P : Program) : Nat → TypeId → Option (List LT)
  | 0, _ => none
  | d + 1, t =>
    match P.underlying t with
    | some .bool => some [.bool]
    | some (.int k) => some [.int k]
    | some (.array n e) =>
      match flatT P d e with
      | none => none
      | some l => if Nat.beq l.length (P.cellsOf e) && Nat.beq (P.cellsOf t) (n * l.length) then some (List.replicate n l).flatten else none
    | some (.struct fs) =>
      match flatFs P (flatT P d) 0 fs.toList with
      | none => none
      | some l => if Nat.beq l.length (P.cellsOf t) then some l else none
    | _ => none
def shapeOf (P : Program) (t : TypeId) : Option Sh :=
  match P.underlying t with
  | some .bool => some (.one .bool)
  | some (.int k) => some (.one (.int k))
  | some (.array _ _) => (flatT P 20 t).map .agg
  | some (.struct _) => (flatT P 20 t).map .agg
  | _ => none
def LeafOk : LT → Value → Prop
  | .int k, .int k' n => k' = k ∧ (Lit.int k n).wf = true
  | .bool, .bool _ => True
  | _, _ => False
def Leaves : List LT → List Value → Prop
  | [], [] => True
  | t :: ts, v :: vs => LeafOk t v ∧ Leaves ts vs
  | _, _ => False
theorem Leaves.len : ∀ {ts : List LT} {vs : List Value}, Leaves ts vs → vs.length = ts.length
  | [], [], _ => rfl
  | _ :: _, _ :: _, h => by simp [Leaves.len h.2]
  | [], _ :: _, h => h.elim
  | _ :: _, [], h => h.elim
theorem Leaves.append : ∀ {a b : List LT} {c d : List Value}, Leaves a c → Leaves b d → Leaves (a ++ b) (c ++ d)
  | [], _, [], _, _, h => h
  | _ :: _, _, _ :: _, _, h, h' => ⟨h.1, Leaves.append h.2 h'⟩
  | [], _, _ :: _, _, h, _ => h.elim
  | _ :: _, _, [], _, h, _ => h.elim

theorem mapM_carry {α β γ : Type} {f g : α → Option (β × List γ)} : ∀ {l : List α} {xs : List (β × List γ)}, l.mapM f = some xs →
    (∀ a ∈ l, ∀ y, f a = some y → g a = some y ∧ y.2 = []) → l.mapM g = some xs ∧ xs.flatMap (·.2) = [] ∧ ∀ a ∈ l, ∃ y, f a = some y
  | [], xs, h, _ => by
    simp at h
    subst h
    exact ⟨by simp, rfl, fun a ha => by cases ha⟩
  | a :: l, xs, h, hc => by
    simp only [List.mapM_cons, Option.bind_eq_bind, Option.bind_eq_some_iff, Option.pure_def, Option.some.injEq] at h
    obtain ⟨y, hy, ys, hys, rfl⟩ := h
    obtain ⟨h1, h2⟩ := hc a (by simp) y hy
    obtain ⟨h3, h4, h5⟩ := mapM_carry hys (fun b hb => hc b (List.mem_cons_of_mem _ hb))
    refine ⟨by simp [List.mapM_cons, h1, h3], by simp only [List.flatMap_cons, h2, h4, List.nil_append], fun b hb => ?_⟩
    rcases List.mem_cons.1 hb with rfl | hb
    · exact ⟨y, hy⟩
    · exact h5 b hb

theorem leaves_rows {l : List LT} {c : Nat} (hl : l.length = c) : ∀ {n : Nat} {cs : List Value}, cs.length = n * c → (∀ i, i < n → Leaves l ((cs.drop (i * c)).take c)) → Leaves (List.replicate n l).flatten cs
  | 0, cs, h, _ => by
    have : cs = [] := List.eq_nil_of_length_eq_zero (by simpa using h)
    subst this
    trivial
  | n + 1, cs, h, hp => by
    have h0 := hp 0 (by omega)
    simp only [Nat.zero_mul, List.drop_zero] at h0
    have h1 := leaves_rows hl (n := n) (cs := cs.drop c) (by rw [List.length_drop, h, Nat.succ_mul]; omega) (fun i hi => by
      have := hp (i + 1) (by omega)
      rw [List.drop_drop]
      rwa [show c + i * c = (i + 1) * c from by rw [Nat.succ_mul]; omega])
    have := Leaves.append h0 h1
    rw [List.take_append_drop] at this
    simpa [List.replicate_succ] using this

section
variable {H : Type} {enc : TypeId × Value → H} {P : Program}

def TrodOk (enc : TypeId × Value → H) (P : Program) (fuel : Nat) (t : TypeId) (lts : List LT) : Prop :=
  ∀ (w : World) (base : Nat) (sp : Nat → Bool) (held : Bool) (cs : List Value) (x : DataW H) (ps : List MemPlace), DataW.trod enc P w base sp held fuel t cs = some (x, ps) →
    Leaves lts cs ∧ ps = [] ∧ ∀ (w' : World) (base' : Nat) (sp' : Nat → Bool) (held' : Bool), DataW.trod enc P w' base' sp' held' fuel t cs = some (x, [])

theorem leaves_fields {rec : TypeId → Option (List LT)} {cs : List Value} : ∀ {fs : List Field} {o : Nat} {l : List LT}, flatFs P rec o fs = some l → cs.length = o + l.length →
    (∀ f ∈ fs, ∀ r, rec f.type = some r → Leaves r ((cs.drop f.offset).take (P.cellsOf f.type))) → Leaves l (cs.drop o)
  | [], o, l, h, hlen, _ => by
    simp [flatFs] at h
    subst h
    rw [List.drop_of_length_le (by simpa using Nat.le_of_eq hlen)]
    trivial
  | f :: fs, o, l, h, hlen, hp => by
    simp only [flatFs] at h
    split at h
    · rename_i ho
      have ho := Nat.eq_of_beq_eq_true ho
      split at h
      · cases h
      · rename_i r hr
        split at h
        · rename_i hc
          have hc := Nat.eq_of_beq_eq_true hc
          split at h
          · cases h
          · rename_i r' hr'
            cases h
            have h0 := hp f (by simp) r hr
            have h1 := leaves_fields hr' (by simp at hlen; omega) (fun g hg => hp g (List.mem_cons_of_mem _ hg))
            rw [ho, ← hc] at h0
            have h2 := Leaves.append h0 h1
            rw [← List.drop_drop, List.take_append_drop] at h2
            exact h2
        · cases h
    · cases h

theorem trod_flat : ∀ (d : Nat) {t : TypeId} {lts : List LT}, flatT P d t = some lts → ∀ fuel, TrodOk enc P fuel t lts
  | 0, _, _, h, _ => by cases h
  | d + 1, t, lts, h, fuel => by
    intro w base sp held cs x ps hx
    cases fuel with
    | zero => simp [DataW.trod] at hx
    | succ fuel =>
      simp only [flatT] at h
      split at h
      · rename_i hu
        cases h
        obtain ⟨b, rfl, he⟩ := DataW.trod_bool hu hx
        cases he
        exact ⟨⟨trivial, trivial⟩, rfl, fun _ _ _ _ => by simp [DataW.trod, hu]⟩
      · rename_i k hu
        cases h
        obtain ⟨n, rfl, he, hw⟩ := DataW.trod_int hu hx
        cases he
        exact ⟨⟨⟨rfl, hw⟩, trivial⟩, rfl, fun _ _ _ _ => by simp [DataW.trod, hu, hw]⟩
      · rename_i n e hu
        split at h
        · cases h
        · rename_i l hl
          split at h
          · rename_i hc
            cases h
            simp only [Bool.and_eq_true] at hc
            have hc1 := Nat.eq_of_beq_eq_true hc.1
            have hc2 := Nat.eq_of_beq_eq_true hc.2
            simp only [DataW.trod, hu] at hx
            split at hx
            · rename_i hlen
              obtain ⟨xs, hxs, he⟩ := Option.map_eq_some_iff.1 hx
              cases he
              have ih := trod_flat d hl fuel
              have hall := fun w' base' sp' held' => mapM_carry (g := fun i => DataW.trod enc P w' base' sp' held' fuel e ((cs.drop (i * P.cellsOf e)).take (P.cellsOf e))) hxs
                (fun i _ y hy => by
                  have := ih _ _ _ _ _ y.1 y.2 hy
                  exact ⟨by rw [this.2.2 w' base' sp' held', ← this.2.1], this.2.1⟩)
              refine ⟨leaves_rows hc1 (by rw [hlen, hc2, hc1]) (fun i hi => ?_), (hall w base sp held).2.1, fun w' base' sp' held' => ?_⟩
              · obtain ⟨y, hy⟩ := (hall w base sp held).2.2 i (List.mem_range.2 hi)
                exact (ih _ _ _ _ _ y.1 y.2 hy).1
              · obtain ⟨h1, h2, _⟩ := hall w' base' sp' held'
                simp only [DataW.trod, hu]
                rw [if_pos hlen, h1, Option.map_some, h2]
            · cases hx
          · cases h
      · rename_i fs hu
        split at h
        · cases h
        · rename_i l hl
          split at h
          · rename_i hc
            cases h
            have hc1 := Nat.eq_of_beq_eq_true hc
            simp only [DataW.trod, hu] at hx
            split at hx
            · rename_i hlen
              obtain ⟨xs, hxs, he⟩ := Option.map_eq_some_iff.1 hx
              cases he
              -- each field's type has leaves
              have hfl : ∀ {gs : List Field} {o : Nat} {r : List LT}, flatFs P (flatT P d) o gs = some r → ∀ f ∈ gs, ∃ r', flatT P d f.type = some r' := by
                intro gs
                induction gs with
                | nil => intro o r _ f hf; cases hf
                | cons g gs ih =>
                  intro o r hr f hf
                  simp only [flatFs] at hr
                  split at hr
                  · split at hr
                    · cases hr
                    · rename_i r1 hr1
                      split at hr
                      · split at hr
                        · cases hr
                        · rename_i r2 hr2
                          rcases List.mem_cons.1 hf with rfl | hf
                          · exact ⟨r1, hr1⟩
                          · exact ih hr2 f hf
                      · cases hr
                  · cases hr
              have hall := fun w' base' sp' held' => mapM_carry (g := fun f : Field => DataW.trod enc P w' base' sp' held' fuel f.type ((cs.drop f.offset).take (P.cellsOf f.type))) hxs
                (fun f hf y hy => by
                  obtain ⟨r', hr'⟩ := hfl hl f hf
                  have := trod_flat d hr' fuel _ _ _ _ _ y.1 y.2 hy
                  exact ⟨by rw [this.2.2 w' base' sp' held', ← this.2.1], this.2.1⟩)
              refine ⟨?_, (hall w base sp held).2.1, fun w' base' sp' held' => ?_⟩
              · have := leaves_fields (P := P) (cs := cs) hl (by rw [hlen, hc1]; omega) (fun f hf r hr => by
                  obtain ⟨y, hy⟩ := (hall w base sp held).2.2 f hf
                  exact (trod_flat d hr fuel _ _ _ _ _ y.1 y.2 hy).1)
                simpa using this
              · obtain ⟨h1, h2, _⟩ := hall w' base' sp' held'
                simp only [DataW.trod, hu]
                rw [if_pos hlen, h1, Option.map_some, h2]
            · cases hx
          · cases h
      · cases h

def RangeOk : List LT → List DV → Prop
  | [], [] => True
  | .int k :: ts, .i n :: ds => (Lit.int k n).wf = true ∧ RangeOk ts ds
  | .bool :: ts, .b _ :: ds => True ∧ RangeOk ts ds
  | _, _ => False
theorem RangeOk.len : ∀ {ts : List LT} {ds : List DV}, RangeOk ts ds → ds.length = ts.length
  | [], [], _ => rfl
  | .int _ :: _, .i _ :: _, h => by simp [RangeOk.len h.2]
  | .bool :: _, .b _ :: _, h => by simp [RangeOk.len h.2]
  | [], _ :: _, h => h.elim
  | .int _ :: _, [], h => h.elim
  | .bool :: _, [], h => h.elim
  | .int _ :: _, .b _ :: _, h => h.elim
  | .bool :: _, .i _ :: _, h => h.elim
  | .int _ :: _, .l _ :: _, h => h.elim
  | .bool :: _, .l _ :: _, h => h.elim
  | .vec _ :: _, [], h => h.elim
  | .vec _ :: _, _ :: _, h => h.elim
theorem RangeOk.append : ∀ {a b : List LT} {c d : List DV}, RangeOk a c → RangeOk b d → RangeOk (a ++ b) (c ++ d)
  | [], _, [], _, _, h => h
  | .int _ :: _, _, .i _ :: _, _, h, h' => ⟨h.1, RangeOk.append h.2 h'⟩
  | .bool :: _, _, .b _ :: _, _, h, h' => ⟨trivial, RangeOk.append h.2 h'⟩
  | [], _, _ :: _, _, h, _ => h.elim
  | .int _ :: _, _, [], _, h, _ => h.elim
  | .bool :: _, _, [], _, h, _ => h.elim
  | .int _ :: _, _, .b _ :: _, _, h, _ => h.elim
  | .bool :: _, _, .i _ :: _, _, h, _ => h.elim
  | .int _ :: _, _, .l _ :: _, _, h, _ => h.elim
  | .bool :: _, _, .l _ :: _, _, h, _ => h.elim
  | .vec _ :: _, _, [], _, h, _ => h.elim
  | .vec _ :: _, _, _ :: _, _, h, _ => h.elim

theorem dget_pre (pre : List DV) (d : DV) (post : List DV) : dget (pre ++ d :: post) pre.length = d := by
  simp [dget, List.getD_eq_getElem?_getD]

theorem leaves_vals : ∀ {ts : List LT} {vs : List Value}, Leaves ts vs → ∃ ds, RangeOk ts ds ∧ ∀ pre post : List DV, leafVals (dget (pre ++ ds ++ post)) pre.length ts = vs
  | [], [], _ => ⟨[], trivial, fun _ _ => rfl⟩
  | .int k :: ts, .int k' n :: vs, h => by
    obtain ⟨ds, h1, h2⟩ := leaves_vals h.2
    obtain ⟨⟨rfl, hw⟩, _⟩ := h
    refine ⟨.i n :: ds, ⟨hw, h1⟩, fun pre post => ?_⟩
    have := h2 (pre ++ [.i n]) post
    simp only [leafVals, List.append_assoc, List.cons_append, List.nil_append, List.length_append, List.length_cons, List.length_nil, Nat.zero_add] at this ⊢
    rw [this, dget_pre]
    rfl
  | .bool :: ts, .bool b :: vs, h => by
    obtain ⟨ds, h1, h2⟩ := leaves_vals h.2
    refine ⟨.b b :: ds, ⟨trivial, h1⟩, fun pre post => ?_⟩
    have := h2 (pre ++ [.b b]) post
    simp only [leafVals, List.append_assoc, List.cons_append, List.nil_append, List.length_append, List.length_cons, List.length_nil, Nat.zero_add] at this ⊢
    rw [this, dget_pre]
    rfl
  | [], _ :: _, h => h.elim
  | _ :: _, [], h => h.elim
  | .int _ :: _, .bool _ :: _, h => h.1.elim
  | .bool :: _, .int _ _ :: _, h => h.1.elim
  | .vec _ :: _, _ :: _, h => h.1.elim

theorem open_plain {w : World} {base b0 : Nat} {sp : Nat → Bool} {held : Bool} {r : Reach} {t : TypeId} {v : Value} {d : DataW H} {ps : List MemPlace} {s : Sh} (hs : shapeOf P t = some s)
    (hval : Value.okWide P w r b0 t v) (hd : DataW.Trod enc P w base sp held t v d ps) :
    ∃ ds : List DV, RangeOk s.lts ds ∧ ps = [] ∧ (∀ (pre post : List DV) (ss : List Sh), argVals (dget (pre ++ ds ++ post)) pre.length (s :: ss) = v :: argVals (dget (pre ++ ds ++ post)) (pre.length + ds.length) ss) ∧
      ∀ (w' : World) (base' : Nat) (sp' : Nat → Bool) (held' : Bool), DataW.Trod enc P w' base' sp' held' t v d [] := by
  obtain ⟨fuel, hf⟩ := hd
  unfold shapeOf at hs
  split at hs
  · rename_i hu
    cases hs
    obtain ⟨b, rfl⟩ := okWide_bool hu hval
    have hfl : flatT P 1 t = some [.bool] := by simp [flatT, hu]
    obtain ⟨_, h2, h3⟩ := trod_flat (enc := enc) 1 hfl fuel _ _ _ _ _ _ _ hf
    refine ⟨[.b b], ⟨trivial, trivial⟩, h2, fun pre post ss => ?_, fun w' base' sp' held' => ⟨fuel, h3 w' base' sp' held'⟩⟩
    simp only [argVals, List.append_assoc, List.cons_append, List.nil_append, dget_pre, List.length_cons, List.length_nil]
    rfl
  · rename_i k hu
    cases hs
    obtain ⟨n, rfl⟩ := okWide_int hu hval
    have hfl : flatT P 1 t = some [.int k] := by simp [flatT, hu]
    obtain ⟨h1, h2, h3⟩ := trod_flat (enc := enc) 1 hfl fuel _ _ _ _ _ _ _ hf
    refine ⟨[.i n], ⟨h1.1.2, trivial⟩, h2, fun pre post ss => ?_, fun w' base' sp' held' => ⟨fuel, h3 w' base' sp' held'⟩⟩
    simp only [argVals, List.append_assoc, List.cons_append, List.nil_append, dget_pre, List.length_cons, List.length_nil]
    rfl
  · rename_i n e hu
    obtain ⟨l, hl, rfl⟩ := Option.map_eq_some_iff.1 hs
    simp only [Value.okWide, hu] at hval
    obtain ⟨cs, rfl, _, _⟩ := hval
    obtain ⟨h1, h2, h3⟩ := trod_flat (enc := enc) 20 hl fuel _ _ _ _ _ _ _ hf
    obtain ⟨ds, h4, h5⟩ := leaves_vals h1
    refine ⟨ds, h4, h2, fun pre post ss => ?_, fun w' base' sp' held' => ⟨fuel, h3 w' base' sp' held'⟩⟩
    simp only [argVals, h5 pre post, ← h4.len]
    rfl
  · rename_i fs hu
    obtain ⟨l, hl, rfl⟩ := Option.map_eq_some_iff.1 hs
    simp only [Value.okWide, hu] at hval
    obtain ⟨cs, rfl, _, _⟩ := hval
    obtain ⟨h1, h2, h3⟩ := trod_flat (enc := enc) 20 hl fuel _ _ _ _ _ _ _ hf
    obtain ⟨ds, h4, h5⟩ := leaves_vals h1
    refine ⟨ds, h4, h2, fun pre post ss => ?_, fun w' base' sp' held' => ⟨fuel, h3 w' base' sp' held'⟩⟩
    simp only [argVals, h5 pre post, ← h4.len]
    rfl
  · cases hs

end

theorem mapM_get {α β : Type} {f : α → Option β} : ∀ {l : List α} {xs : List β}, l.mapM f = some xs → ∀ (i : Nat) (a : α), l[i]? = some a → ∃ y, xs[i]? = some y ∧ f a = some y
  | [], xs, _, i, a, ha => by simp at ha
  | b :: l, xs, h, i, a, ha => by
    simp only [List.mapM_cons, Option.bind_eq_bind, Option.bind_eq_some_iff, Option.pure_def, Option.some.injEq] at h
    obtain ⟨y, hy, ys, hys, rfl⟩ := h
    cases i with
    | zero => simp at ha; subst ha; exact ⟨y, rfl, hy⟩
    | succ i => obtain ⟨z, h1, h2⟩ := mapM_get hys i a (by simpa using ha); exact ⟨z, by simpa using h1, h2⟩

section
variable {C : Checked} {os : Os} {f : FuncId} {fn : Func} {s : ChangeSpec} {H : Type} {enc : TypeId × Value → H} {sg : Sig} {G : List DV → List DV} {I : World → Prop}

structure LawSig (sg : Sig) (ss : List Sh) : Prop where
  ins : sg.ins = patShapes 0 ss
  hin : sg.hin = []
  nin : sg.nin = nIn ss
  out : sg.out = .s (.one (.b (.h 0)))
  hout : sg.hout = []
  ots : sg.ots = [.b]

end
end Go.Sx

namespace Go.Sx
open Go Go.ChangeShapes Go.WideShapes Go.RowKit

inductive ShV where
  | pl (s : Sh)
  | row (ts : List LT)
  deriving Inhabited
def ShV.wd : ShV → Nat
  | .pl s => s.lts.length
  | .row _ => 1
def nInV : List ShV → Nat
  | [] => 0
  | s :: ss => s.wd + nInV ss
def patV : Nat → Nat → List ShV → List V
  | _, _, [] => []
  | j, b, .pl (.one t) :: ss => .s (.one (t.pat j)) :: patV (j + 1) b ss
  | j, b, .pl (.agg ts) :: ss => .s (.agg (patLeaves j ts)) :: patV (j + ts.length) b ss
  | j, b, .row _ :: ss => .s (.one (.vec b)) :: patV (j + 1) (b + 1) ss
def blksV : Nat → List ShV → List (Option Blk)
  | _, [] => []
  | j, .pl s :: ss => blksV (j + s.lts.length) ss
  | j, .row ts :: ss => some (.v false ts (.h j)) :: blksV (j + 1) ss
def argV (g : Nat → DV) (ρ : Nat → Loc) : Nat → Nat → List ShV → List Value
  | _, _, [] => []
  | j, b, .pl (.one t) :: ss => t.conc (g j) :: argV g ρ (j + 1) b ss
  | j, b, .pl (.agg ts) :: ss => .agg (leafVals g j ts).toArray :: argV g ρ (j + ts.length) b ss
  | j, b, .row _ :: ss => (ρ b).slice :: argV g ρ (j + 1) (b + 1) ss

theorem patV_conc {n : Nat} (g : Nat → DV) (ρ : Nat → Loc) : ∀ (ss : List ShV) (j b : Nat), j + nInV ss ≤ n → ((patV j b ss).map (V.inst (idsFrom 0 n))).map (V.conc g ρ) = argV g ρ j b ss ∧ ∀ x ∈ (patV j b ss).map (V.inst (idsFrom 0 n)), V.good g x
  | [], j, b, _ => ⟨rfl, fun x hx => by cases hx⟩
  | .pl (.one t) :: ss, j, b, h => by
    have h : j + (1 + nInV ss) ≤ n := h
    obtain ⟨h1, h2⟩ := patV_conc (n := n) g ρ ss (j + 1) b (by omega)
    obtain ⟨h3, h4⟩ := pat_conc g ρ (t := t) (show j < n by omega)
    refine ⟨by simp only [patV, List.map_cons, argV, h1, V.inst, V1.inst, V.conc, V1.conc, h3], fun x hx => ?_⟩
    simp only [patV, List.map_cons] at hx
    rcases List.mem_cons.1 hx with rfl | hx
    · exact V1.good_one.2 h4
    · exact h2 x hx
  | .pl (.agg ts) :: ss, j, b, h => by
    have h : j + (ts.length + nInV ss) ≤ n := h
    obtain ⟨h1, h2⟩ := patV_conc (n := n) g ρ ss (j + ts.length) b (by omega)
    obtain ⟨h3, h4⟩ := patLeaves_conc (n := n) g ρ ts j (show j + ts.length ≤ n by omega)
    refine ⟨by simp only [patV, List.map_cons, argV, h1, V.inst, V1.inst, V.conc, V1.conc, h3], fun x hx => ?_⟩
    simp only [patV, List.map_cons] at hx
    rcases List.mem_cons.1 hx with rfl | hx
    · exact V1.good_agg.2 h4
    · exact h2 x hx
  | .row ts :: ss, j, b, h => by
    have h : j + (1 + nInV ss) ≤ n := h
    obtain ⟨h1, h2⟩ := patV_conc (n := n) g ρ ss (j + 1) (b + 1) (by omega)
    refine ⟨by simp only [patV, List.map_cons, argV, h1, V.inst, V1.inst, V.conc, V1.conc, Lf.inst, Lf.conc], fun x hx => ?_⟩
    simp only [patV, List.map_cons] at hx
    rcases List.mem_cons.1 hx with rfl | hx
    · exact V1.good_one.2 trivial
    · exact h2 x hx

structure RowIn (ts : List LT) (xs : List DV) : Prop where
  pos : 0 < ts.length
  len : ∃ n, n ≤ maxLen ∧ xs.length = n * ts.length
  cell : ∀ i, i < xs.length → RangeOk [ts.getD (i % ts.length) .bool] [xs.getD i default]
def RowsRel (E : Env) (W : World) : List ShV → List DV → List Loc → Prop
  | [], _, _ => True
  | .pl s :: ss, ds, ls => RowsRel E W ss (ds.drop s.lts.length) ls
  | .row ts :: ss, ds, ls => VRel E W (ls.headD default) false ts (ds.headD default).toL ∧ RowsRel E W ss ds.tail ls.tail

theorem cells_at {w : World} {base : Nat} {a : Addr} {n : Nat} {cs : List Value} (h : w.cells? base a n = some cs) : ∀ i, i < n → ∀ v, cs[i]? = some v → w.cell? (a.add i) = some v := by
  unfold World.cells? at h
  split at h
  · intro i hi v hv
    obtain ⟨y, h1, h2⟩ := mapM_get h i i (List.getElem?_range hi)
    rw [h1] at hv
    cases hv
    exact h2
  · cases h

section
variable {H : Type} {enc : TypeId × Value → H} {P : Program}

end

theorem blksV_own : ∀ (ss : List ShV) (j i : Nat) (b : Blk), nth (blksV j ss) i = some b → b.own = false
  | [], _, i, b, h => by cases i <;> cases h
  | .pl s :: ss, j, i, b, h => blksV_own ss _ i b h
  | .row ts :: ss, j, 0, b, h => by cases h; rfl
  | .row ts :: ss, j, i + 1, b, h => blksV_own ss _ i b h
theorem rows_rel {E : Env} {W : World} {n : Nat} (xs : List DV) (ls0 : List Loc) (hn : xs.length = n) : ∀ (ss : List ShV) (j b : Nat), j + nInV ss ≤ n → RowsRel E W ss (xs.drop j) (ls0.drop b) →
    ∀ i bk, nth ((blksV j ss).map (Option.map (Blk.inst (idsFrom 0 n)))) i = some bk → BlkRel E (dget xs) (fun i => ls0.getD i default) W (ls0.getD (b + i) default) bk
  | [], j, b, _, _, i, bk, h => by cases i <;> cases h
  | .pl s :: ss, j, b, hj, hr, i, bk, h => by
    have hj : j + (s.lts.length + nInV ss) ≤ n := hj
    refine rows_rel xs ls0 hn ss (j + s.lts.length) b (by omega) ?_ i bk h
    have hr : RowsRel E W ss ((xs.drop j).drop s.lts.length) (ls0.drop b) := hr
    rwa [List.drop_drop] at hr
  | .row ts :: ss, j, b, hj, hr, 0, bk, h => by
    have hj : j + (1 + nInV ss) ≤ n := hj
    cases h
    have hid : (A.h j).inst (idsFrom 0 n) = .r j := by
      have := idsFrom_getD n 0 j (by omega)
      simpa [A.inst] using this
    have h1 := hr.1
    show VRel E W (ls0.getD (b + 0) default) false ts (((A.h j).inst (idsFrom 0 n)).cells (dget xs))
    rw [hid]
    have e1 : (ls0.drop b).headD default = ls0.getD (b + 0) default := by
      rw [List.headD_eq_head?_getD, List.head?_drop, List.getD_eq_getElem?_getD, Nat.add_zero]
    have e2 : (xs.drop j).headD default = dget xs j := by
      rw [List.headD_eq_head?_getD, List.head?_drop, dget, List.getD_eq_getElem?_getD]
    rw [e1, e2] at h1
    exact h1
  | .row ts :: ss, j, b, hj, hr, i + 1, bk, h => by
    have hj : j + (1 + nInV ss) ≤ n := hj
    have h2 : RowsRel E W ss ((xs.drop j).tail) ((ls0.drop b).tail) := hr.2
    rw [List.tail_drop, List.tail_drop] at h2
    have := rows_rel xs ls0 hn ss (j + 1) (b + 1) (by omega) h2 i bk h
    rwa [show b + 1 + i = b + (i + 1) from by omega] at this

section
variable {C : Checked} {os : Os} {f : FuncId} {fn : Func} {s : ChangeSpec} {H : Type} {enc : TypeId × Value → H} {sg : Sig} {G : List DV → List DV} {I : World → Prop}

structure LawSigV (sg : Sig) (ss : List ShV) : Prop where
  ins : sg.ins = patV 0 0 ss
  hin : sg.hin = blksV 0 ss
  nin : sg.nin = nInV ss
  out : sg.out = .s (.one (.b (.h 0)))
  hout : sg.hout = []
  ots : sg.ots = [.b]

structure LaidOk (P : Program) (ts : List TypeId) : Prop where
  rows : laidOutB P = true
  maps : mapsRowed P = true
  full : ((List.range P.types.size).all fun t => match P.underlying t with | some (.slice e) => decide (0 < P.cellsOf e) | _ => true) = true
  lt : ts.all (fun t => decide (t < P.types.size)) = true

end
end Go.Sx

namespace Go.Sx
open Go Go.ChangeShapes Go.WideShapes Go.RowKit

def Lv (p : LT → Value → Prop) : List LT → List Value → Prop
  | [], [] => True
  | t :: ts, v :: vs => p t v ∧ Lv p ts vs
  | _, _ => False
theorem Lv.len {p : LT → Value → Prop} : ∀ {a : List LT} {c : List Value}, Lv p a c → c.length = a.length
  | [], [], _ => rfl
  | _ :: _, _ :: _, h => by simp [Lv.len h.2]
  | [], _ :: _, h => h.elim
  | _ :: _, [], h => h.elim
theorem Lv.append {p : LT → Value → Prop} : ∀ {a b : List LT} {c d : List Value}, Lv p a c → Lv p b d → Lv p (a ++ b) (c ++ d)
  | [], _, [], _, _, h => h
  | _ :: _, _, _ :: _, _, h, h' => ⟨h.1, Lv.append h.2 h'⟩
  | [], _, _ :: _, _, h, _ => h.elim
  | _ :: _, _, [], _, h, _ => h.elim
theorem Lv.at {p : LT → Value → Prop} : ∀ {ts : List LT} {vs : List Value}, Lv p ts vs → ∀ i, i < ts.length → ∃ v, vs[i]? = some v ∧ p (ts.getD i .bool) v
  | t :: ts, v :: vs, h, 0, _ => ⟨v, rfl, h.1⟩
  | t :: ts, v :: vs, h, i + 1, hi => by
    obtain ⟨u, h1, h2⟩ := Lv.at h.2 i (by simpa using hi)
    exact ⟨u, by simpa using h1, by simpa using h2⟩
  | [], _, _, i, hi => by simp at hi
  | _ :: _, [], h, _, _ => h.elim
theorem lv_rows {p : LT → Value → Prop} {l : List LT} {c : Nat} (hl : l.length = c) : ∀ {n : Nat} {cs : List Value}, cs.length = n * c → (∀ i, i < n → Lv p l ((cs.drop (i * c)).take c)) → Lv p (List.replicate n l).flatten cs
  | 0, cs, h, _ => by
    have : cs = [] := List.eq_nil_of_length_eq_zero (by simpa using h)
    subst this
    trivial
  | n + 1, cs, h, hp => by
    have h0 := hp 0 (by omega)
    simp only [Nat.zero_mul, List.drop_zero] at h0
    have h1 := lv_rows (p := p) hl (n := n) (cs := cs.drop c) (by rw [List.length_drop, h, Nat.succ_mul]; omega) (fun i hi => by
      have := hp (i + 1) (by omega)
      rw [List.drop_drop]
      rwa [show c + i * c = (i + 1) * c from by rw [Nat.succ_mul]; omega])
    have := Lv.append h0 h1
    rw [List.take_append_drop] at this
    simpa [List.replicate_succ] using this

inductive RangeC : LT → DV → Prop
  | int (k : IntKind) (n : Int) (h : (Lit.int k n).wf = true) : RangeC (.int k) (.i n)
  | bool (b : Bool) : RangeC .bool (.b b)
  | vec (ts : List LT) (xs : List DV) (n : Nat) (hpos : 0 < ts.length) (hn : n ≤ maxLen) (hlen : xs.length = n * ts.length) (hc : ∀ i, i < xs.length → RangeC (ts.getD (i % ts.length) .bool) (xs.getD i default)) : RangeC (.vec ts) (.l xs)
structure RowInN (ts : List LT) (xs : List DV) : Prop where
  pos : 0 < ts.length
  len : ∃ n, n ≤ maxLen ∧ xs.length = n * ts.length
  cell : ∀ i, i < xs.length → RangeC (ts.getD (i % ts.length) .bool) (xs.getD i default)
theorem RangeC.row {ts : List LT} {xs : List DV} (h : RangeC (.vec ts) (.l xs)) : RowInN ts xs := by
  cases h with
  | vec _ _ n hpos hn hlen hc => exact ⟨hpos, ⟨n, hn, hlen⟩, hc⟩
def CellN (E : Env) (t : LT) (v : Value) : Prop := ∃ d, CRel E t d v ∧ RangeC t d
theorem exists_list {α : Type} {Q : Nat → α → Prop} (d : α) : ∀ n : Nat, (∀ i, i < n → ∃ a, Q i a) → ∃ l : List α, l.length = n ∧ ∀ i, i < n → Q i (l.getD i d)
  | 0, _ => ⟨[], rfl, fun i hi => by omega⟩
  | n + 1, h => by
    obtain ⟨l, h1, h2⟩ := exists_list d n (fun i hi => h i (by omega))
    obtain ⟨a, ha⟩ := h n (by omega)
    refine ⟨l ++ [a], by simp [h1], fun i hi => ?_⟩
    rcases Nat.lt_or_ge i n with hlt | hge
    · rw [List.getD_eq_getElem?_getD, List.getElem?_append_left (by omega), ← List.getD_eq_getElem?_getD]
      exact h2 i hlt
    · have : i = n := by omega
      subst this
      rw [List.getD_eq_getElem?_getD, List.getElem?_append_right (by omega), h1]
      simpa using ha
theorem CRel.mono {E E' : Env} (hw : E'.w0 = E.w0) (hW : ∀ b, E.V b → ¬ E.W b → ¬ E'.W b) (hV : ∀ b, E.V b → ¬ E.W b → E'.V b) {t : LT} {d : DV} {v : Value} (h : CRel E t d v) : CRel E' t d v := by
  induction h with
  | int k d => exact .int k d
  | bool d => exact .bool d
  | vec ts d r vs hnil hlt hpos hlen hcap hv hc ih =>
    exact .vec ts d r vs hnil (fun hn => ⟨by rw [hw]; exact (hlt hn).1, hW _ (hlt hn).2.2 (hlt hn).2.1, hV _ (hlt hn).2.2 (hlt hn).2.1⟩) hpos hlen hcap (fun i hi => by rw [hw]; exact hv i hi) ih

def flatN (P : Program) : Nat → TypeId → Option (List LT)
  | 0, _ => none
  | d + 1, t =>
    match P.underlying t with
    | some .bool => some [.bool]
    | some (.int k) => some [.int k]
    | some (.slice e) =>
      match flatN P d e with
      | none => none
      | some l => if Nat.beq l.length (P.cellsOf e) && Nat.blt 0 l.length then some [.vec l] else none
    | some (.array n e) =>
      match flatN P d e with
      | none => none
      | some l => if Nat.beq l.length (P.cellsOf e) && Nat.beq (P.cellsOf t) (n * l.length) then some (List.replicate n l).flatten else none
    | some (.struct fs) =>
      match flatFs P (flatN P d) 0 fs.toList with
      | none => none
      | some l => if Nat.beq l.length (P.cellsOf t) then some l else none
    | _ => none
theorem lv_fields {P : Program} {p : LT → Value → Prop} {rec : TypeId → Option (List LT)} {cs : List Value} : ∀ {fs : List Field} {o : Nat} {l : List LT}, flatFs P rec o fs = some l → cs.length = o + l.length →
    (∀ f ∈ fs, ∀ r, rec f.type = some r → Lv p r ((cs.drop f.offset).take (P.cellsOf f.type))) → Lv p l (cs.drop o)
  | [], o, l, h, hlen, _ => by
    simp [flatFs] at h
    subst h
    rw [List.drop_of_length_le (by simpa using Nat.le_of_eq hlen)]
    trivial
  | f :: fs, o, l, h, hlen, hp => by
    simp only [flatFs] at h
    split at h
    · rename_i ho
      have ho := Nat.eq_of_beq_eq_true ho
      split at h
      · cases h
      · rename_i r hr
        split at h
        · rename_i hc
          have hc := Nat.eq_of_beq_eq_true hc
          split at h
          · cases h
          · rename_i r' hr'
            cases h
            have h0 := hp f (by simp) r hr
            have h1 := lv_fields (p := p) hr' (by simp at hlen; omega) (fun g hg => hp g (List.mem_cons_of_mem _ hg))
            rw [ho, ← hc] at h0
            have h2 := Lv.append h0 h1
            rw [← List.drop_drop, List.take_append_drop] at h2
            exact h2
        · cases h
    · cases h
theorem mapM_some {α β : Type} {f : α → Option β} : ∀ {l : List α} {xs : List β}, l.mapM f = some xs → ∀ a ∈ l, ∃ y, f a = some y
  | [], _, _, a, ha => by cases ha
  | b :: l, xs, h, a, ha => by
    simp only [List.mapM_cons, Option.bind_eq_bind, Option.bind_eq_some_iff, Option.pure_def, Option.some.injEq] at h
    obtain ⟨y, hy, ys, hys, rfl⟩ := h
    rcases List.mem_cons.1 ha with rfl | ha
    · exact ⟨y, hy⟩
    · exact mapM_some hys a ha

section
variable {H : Type} {enc : TypeId × Value → H} {P : Program}
theorem cell_met {β : Type} {w : World} {base : Nat} {a : Addr} {k n : Nat} {f : List Value → Option β} {x : β} (h : (w.cells? base (a.add k) n).bind f = some x) (hk : k = 0) (hn : 0 < n) : a.spot = none ∧ a.block < w.heap.size := by
  obtain ⟨cs, hcs, _⟩ := Option.bind_eq_some_iff.1 h
  unfold World.cells? at hcs
  split at hcs
  · obtain ⟨v, hv⟩ := mapM_some hcs 0 (List.mem_range.2 hn)
    unfold World.cell? at hv
    have e1 : (a.add k).add 0 = a := by subst hk; rfl
    rw [e1] at hv
    split at hv
    · rename_i c el z hb
      refine ⟨?_, ?_⟩
      · cases hs : a.spot with
        | none => rfl
        | some s => rw [hs] at hv; simp at hv
      · rcases Nat.lt_or_ge a.block w.heap.size with h | h
        · exact h
        · rw [Array.getElem?_eq_none h] at hb; cases hb
    · cases hv
  · cases hcs
theorem slice_met {w : World} {base fuel : Nat} {held : Bool} {t e : TypeId} {cs : List Value} {x : DataW H × List MemPlace} {ts : List LT} {E : Env} (_hw0 : E.w0 = w) (_hW : ∀ b, ¬ E.W b) (_hV : ∀ b, b < w.heap.size → E.V b) (hu : P.underlying t = some (.slice e)) (hc : ts.length = P.cellsOf e) (hpos : 0 < ts.length)
    (hrec : ∀ n cs x, DataW.trod enc P w base (fun _ => true) held n e cs = some x → Lv (CellN E) ts cs) (hd : DataW.trod enc P w base (fun _ => true) held fuel t cs = some x) :
    ∃ (r : Loc) (xs : List DV) (vs : Nat → Value), cs = [r.slice] ∧ (r.nil = true → r.len = 0 ∧ r.cap = 0) ∧ (r.nil = false → r.blk < w.heap.size) ∧ xs.length = r.len * ts.length ∧ r.len ≤ r.cap ∧ RowInN ts xs ∧
      ∀ i, i < xs.length → w.cell? ⟨r.blk, r.off + i, none⟩ = some (vs i) ∧ CRel E (ts.getD (i % ts.length) .bool) (xs.getD i default) (vs i) := by
  rcases DataW.trod_slice hu hd with ⟨rfl, _⟩ | ⟨a, len, cap, elems, rest, n, _, rfl, _, _, hlc, hcm, hel, helem, hsp, _⟩
  · exact ⟨⟨0, 0, true, 0, 0, none⟩, [], fun _ => undef, rfl, fun _ => ⟨rfl, rfl⟩, fun e => (by cases e), by simp, Nat.le_refl _, ⟨hpos, ⟨0, Nat.zero_le _, by simp⟩, fun i hi => by simp at hi⟩, fun i hi => by simp at hi⟩
  · rcases Nat.eq_zero_or_pos cap with hc0 | hc0
    · have hl0 : len = 0 := by omega
      subst hc0; subst hl0
      exact ⟨⟨0, 0, true, 0, 0, some a⟩, [], fun _ => undef, rfl, fun _ => ⟨rfl, rfl⟩, fun e => (by cases e), by simp, Nat.le_refl _, ⟨hpos, ⟨0, Nat.zero_le _, by simp⟩, fun i hi => by simp at hi⟩, fun i hi => by simp at hi⟩
    · have hcell : a.spot = none ∧ a.block < w.heap.size := by
        rcases Nat.eq_zero_or_pos len with hl0 | hl0
        · obtain ⟨hr1, hr2⟩ := hsp rfl
          have := hr2 0 (by omega)
          rw [List.getElem?_eq_getElem (by omega)] at this
          exact cell_met this (by rw [hl0]; simp) (by omega)
        · have := helem 0 hl0
          rw [List.getElem?_eq_getElem (by omega)] at this
          exact cell_met this (by simp) (by omega)
      obtain ⟨hspot, hblk⟩ := hcell
      have ha : a = ⟨a.block, a.off, none⟩ := by cases a; simp_all
      have hadd : ∀ i, a.add i = ⟨a.block, a.off + i, none⟩ := fun i => by rw [ha]; exact addr_add _ _ _
      have hkey : ∀ j, j < len * ts.length → ∃ d : DV, ∃ v, w.cell? ⟨a.block, a.off + j, none⟩ = some v ∧ CRel E (ts.getD (j % ts.length) .bool) d v ∧ RangeC (ts.getD (j % ts.length) .bool) d := fun j hj => by
        have hq : j / ts.length < len := (Nat.div_lt_iff_lt_mul hpos).2 hj
        have hr : j % ts.length < ts.length := Nat.mod_lt _ hpos
        have he := helem (j / ts.length) hq
        rw [List.getElem?_eq_getElem (by rw [hel]; exact hq)] at he
        obtain ⟨cs, hcs, htr⟩ := Option.bind_eq_some_iff.1 he
        have hlv := hrec n cs _ htr
        obtain ⟨v, hv1, d, hv2, hv3⟩ := hlv.at (j % ts.length) hr
        refine ⟨d, v, ?_, hv2, hv3⟩
        have := cells_at hcs (j % ts.length) (by rw [← hc]; exact hr) v hv1
        rw [hadd, addr_add, ← hc] at this
        rw [← this]
        congr 2
        have := Nat.div_add_mod j ts.length
        rw [Nat.mul_comm] at this
        omega
      obtain ⟨xs, hx1, hx2⟩ := exists_list default _ hkey
      refine ⟨⟨a.block, a.off, false, len, cap, none⟩, xs, fun i => (w.cell? ⟨a.block, a.off + i, none⟩).getD undef, ?_, fun e => (by cases e), fun _ => hblk, hx1, hlc, ⟨hpos, ⟨len, Nat.le_trans hlc hcm, hx1⟩, fun i hi => ?_⟩, fun i hi => ?_⟩
      · unfold Loc.slice
        rw [ha]
        rfl
      · obtain ⟨v, _, _, h3⟩ := hx2 i (by omega)
        exact h3
      · obtain ⟨v, h1, h2, _⟩ := hx2 i (by omega)
        refine ⟨by simp [h1], ?_⟩
        simp only [h1, Option.getD_some]
        exact h2
theorem trodN {w : World} {base : Nat} {held : Bool} {E : Env} (hw0 : E.w0 = w) (hW : ∀ b, ¬ E.W b) (hV : ∀ b, b < w.heap.size → E.V b) : ∀ (d : Nat) {t : TypeId} {lts : List LT}, flatN P d t = some lts → ∀ fuel cs x, DataW.trod enc P w base (fun _ => true) held fuel t cs = some x → Lv (CellN E) lts cs
  | 0, _, _, h, _ => by cases h
  | d + 1, t, lts, h, fuel => by
    intro cs x hx
    cases fuel with
    | zero => simp [DataW.trod] at hx
    | succ fuel =>
      simp only [flatN] at h
      split at h
      · rename_i hu
        cases h
        obtain ⟨b, rfl, he⟩ := DataW.trod_bool hu hx
        exact ⟨⟨.b b, .bool (.b b), .bool b⟩, trivial⟩
      · rename_i k hu
        cases h
        obtain ⟨n, rfl, he, hw⟩ := DataW.trod_int hu hx
        exact ⟨⟨.i n, .int k (.i n), .int k n hw⟩, trivial⟩
      · rename_i e hu
        split at h
        · cases h
        · rename_i l hl
          split at h
          · rename_i hc
            cases h
            simp only [Bool.and_eq_true] at hc
            obtain ⟨r, xs, vs, rfl, h1, h2, h3, h4, h5, h6⟩ := slice_met hw0 hW hV hu (Nat.eq_of_beq_eq_true hc.1) (Nat.le_of_ble_eq_true hc.2) (fun n cs x hx => trodN hw0 hW hV d hl n cs x hx) hx
            obtain ⟨n, hn1, hn2⟩ := h5.len
            refine ⟨⟨.l xs, .vec l (.l xs) r vs h1 (fun hn => ⟨by rw [hw0]; exact h2 hn, hW _, hV _ (h2 hn)⟩) h5.pos h3 h4 (fun i hi => by rw [hw0]; exact (h6 i hi).1) (fun i hi => (h6 i hi).2), .vec l xs n h5.pos hn1 hn2 h5.cell⟩, trivial⟩
          · cases h
      · rename_i n e hu
        split at h
        · cases h
        · rename_i l hl
          split at h
          · rename_i hc
            cases h
            simp only [Bool.and_eq_true] at hc
            have hc1 := Nat.eq_of_beq_eq_true hc.1
            have hc2 := Nat.eq_of_beq_eq_true hc.2
            simp only [DataW.trod, hu] at hx
            split at hx
            · rename_i hlen
              obtain ⟨xs, hxs, he⟩ := Option.map_eq_some_iff.1 hx
              refine lv_rows hc1 (by rw [hlen, hc2, hc1]) (fun i hi => ?_)
              obtain ⟨y, hy⟩ := mapM_some hxs i (List.mem_range.2 hi)
              exact trodN hw0 hW hV d hl fuel _ y hy
            · cases hx
          · cases h
      · rename_i fs hu
        split at h
        · cases h
        · rename_i l hl
          split at h
          · rename_i hc
            cases h
            have hc1 := Nat.eq_of_beq_eq_true hc
            simp only [DataW.trod, hu] at hx
            split at hx
            · rename_i hlen
              obtain ⟨xs, hxs, he⟩ := Option.map_eq_some_iff.1 hx
              have := lv_fields (P := P) (p := CellN E) (cs := cs) hl (by rw [hlen, hc1]; omega) (fun f hf r hr => by
                obtain ⟨y, hy⟩ := mapM_some hxs f hf
                exact trodN hw0 hW hV d hr fuel _ y hy)
              simpa using this
            · cases hx
          · cases h
      · cases h
end

def RangeN : List ShV → List DV → Prop
  | [], ds => ds = []
  | .pl s :: ss, ds => RangeOk s.lts (ds.take s.lts.length) ∧ RangeN ss (ds.drop s.lts.length)
  | .row ts :: ss, ds => (∃ xs, ds.head? = some (.l xs) ∧ RowInN ts xs) ∧ RangeN ss ds.tail
def shapeN (P : Program) (t : TypeId) : Option ShV :=
  match P.underlying t with
  | some (.slice e) =>
    match flatN P 20 e with
    | some l => if Nat.beq l.length (P.cellsOf e) && Nat.blt 0 l.length then some (.row l) else none
    | none => none
  | _ => (shapeOf P t).map .pl
def shapesN (P : Program) : List TypeId → Option (List ShV)
  | [] => some []
  | t :: ts =>
    match shapeN P t, shapesN P ts with
    | some s, some r => some (s :: r)
    | _, _ => none
section
variable {H : Type} {enc : TypeId × Value → H} {P : Program}
theorem open_rowN {w : World} {base b0 : Nat} {held : Bool} {r : Reach} {E : Env} (hw0 : E.w0 = w) (hW : ∀ b, ¬ E.W b) (hV : ∀ b, b < w.heap.size → E.V b) {t e : TypeId} {v : Value} {d : DataW H} {ps : List MemPlace} {ts : List LT} (hu : P.underlying t = some (.slice e)) (hf : flatN P 20 e = some ts) (hc : ts.length = P.cellsOf e) (hpos : 0 < ts.length)
    (hval : Value.okWide P w r b0 t v) (hd : DataW.Trod enc P w base (fun _ => true) held t v d ps) : ∃ (xs : List DV) (l : Loc), RowInN ts xs ∧ v = l.slice ∧ VRel E w l false ts xs := by
  obtain ⟨fuel, hd⟩ := hd
  obtain ⟨a, len, cap, rfl⟩ := okWide_slice hu hval
  have hcell : (Value.slice a len cap).cells.toList = [Value.slice a len cap] := rfl
  rw [hcell] at hd
  obtain ⟨r, xs, vs, h0, h1, h2, h3, h4, h5, h6⟩ := slice_met hw0 hW hV hu hc hpos (fun n cs x hx => trodN hw0 hW hV 20 hf n cs x hx) hd
  exact ⟨xs, r, h5, (List.cons.inj h0).1, ⟨h1, h2, hpos, h3, h4, fun i hi => ⟨vs i, (h6 i hi).1, (h6 i hi).2⟩, fun e => (by cases e), fun e => (by cases e)⟩⟩

theorem open_allN {w : World} {base b0 : Nat} {held : Bool} {r : Reach} {E : Env} (hw0 : E.w0 = w) (hW : ∀ b, ¬ E.W b) (hV : ∀ b, b < w.heap.size → E.V b) : ∀ {ts : List TypeId} {vs : List Value} {ds : List (DataW H)} {ps : List MemPlace} {ss : List ShV}, shapesN P ts = some ss →
    (∀ (j : Nat) t v, ts[j]? = some t → vs[j]? = some v → Value.okWide P w r b0 t v) → DataW.TrodAll enc P w base (fun _ => true) held ts vs ds ps →
    ∃ (xs : List DV) (ls : List Loc), RangeN ss xs ∧ xs.length = nInV ss ∧ RowsRel E w ss xs ls ∧ (∀ (pre : List DV) (prel : List Loc), argV (dget (pre ++ xs)) (fun i => (prel ++ ls).getD i default) pre.length prel.length ss = vs)
  | [], [], [], ps, ss, hs, _, hd => by
    simp [shapesN] at hs
    subst hs
    exact ⟨[], [], rfl, rfl, trivial, fun _ _ => rfl⟩
  | t :: ts, v :: vs, d :: ds, ps, ss, hs, hval, hd => by
    simp only [shapesN] at hs
    split at hs
    · rename_i s rr hs1 hs2
      cases hs
      obtain ⟨p, q, h1, h2, rfl⟩ := hd
      obtain ⟨ys, ls, b1, b2, b3, b4⟩ := open_allN hw0 hW hV hs2 (fun j t v ht hv => hval (j + 1) t v (by simpa using ht) (by simpa using hv)) h2
      unfold shapeN at hs1
      split at hs1
      · rename_i e hu
        split at hs1
        · rename_i l hl
          split at hs1
          · rename_i hc
            cases hs1
            simp only [Bool.and_eq_true] at hc
            have hc1 := Nat.eq_of_beq_eq_true hc.1
            have hc2 : 0 < l.length := Nat.le_of_ble_eq_true hc.2
            obtain ⟨xs, lo, c1, rfl, c3⟩ := open_rowN hw0 hW hV hu hl hc1 hc2 (hval 0 t v rfl rfl) h1
            refine ⟨.l xs :: ys, lo :: ls, ⟨⟨xs, rfl, c1⟩, b1⟩, by simp [nInV, ShV.wd, b2]; omega, ⟨c3, b3⟩, fun pre prel => ?_⟩
            have := b4 (pre ++ [.l xs]) (prel ++ [lo])
            simp only [List.append_assoc, List.cons_append, List.nil_append, List.length_append, List.length_cons, List.length_nil, Nat.zero_add] at this
            simp only [argV, this]
            congr 1
            simp [List.getD_eq_getElem?_getD]
          · cases hs1
        · cases hs1
      · obtain ⟨s', hs', rfl⟩ := Option.map_eq_some_iff.1 hs1
        obtain ⟨xs, a1, _, a3, _⟩ := open_plain hs' (hval 0 t v rfl rfl) h1
        refine ⟨xs ++ ys, ls, ⟨?_, ?_⟩, by simp [nInV, ShV.wd, b2, a1.len], ?_, fun pre prel => ?_⟩
        · rw [← a1.len, List.take_left]; exact a1
        · rw [← a1.len, List.drop_left]; exact b1
        · show RowsRel E w rr ((xs ++ ys).drop s'.lts.length) ls
          rw [← a1.len, List.drop_left]; exact b3
        · have e1 := a3 pre ys []
          have e2 := b4 (pre ++ xs) prel
          rw [List.append_assoc, List.length_append] at e2
          rw [List.append_assoc] at e1
          cases s' with
          | one t' =>
            have hl1 : xs.length = 1 := a1.len
            simp only [argVals, List.cons.injEq] at e1
            simp only [argV, e1.1]
            rw [hl1] at e2
            rw [e2]
          | agg l =>
            have hl1 : xs.length = l.length := a1.len
            simp only [argVals, List.cons.injEq] at e1
            simp only [argV, e1.1]
            rw [hl1] at e2
            rw [e2]
    · cases hs
  | [], _ :: _, _, _, _, _, _, hd => by cases hd
  | [], [], _ :: _, _, _, _, _, hd => by cases hd
  | _ :: _, [], _, _, _, _, _, hd => by cases hd
  | _ :: _, _ :: _, [], _, _, _, _, hd => by cases hd
end


section
variable {C : Checked} {os : Os} {f : FuncId} {fn : Func} {s : ChangeSpec} {H : Type} {enc : TypeId × Value → H} {sg : Sig} {G : List DV → List DV} {I : World → Prop}
theorem law_contractN {gK : Nat} {ss : List ShV} (k : FnOK C.prog I gK f sg G) (hsh : shapesN C.prog fn.params.toList = some ss) (hl : LawSigV sg ss) (hnf : sg.hinI.all (optAll Blk.flat) = false) {tb : TypeId} (hrt : fn.resultTypes = #[tb])
    (htb : C.prog.underlying tb = some .bool) (hvars : s.vars = []) (hs : ∀ ds : List (DataW H), ds.length = fn.params.size → s.fn H ds = { results := [.lit (.bool true)], args := ds }) (hlo : LaidOk C.prog fn.params.toList)
    (hG : ∀ xs, RangeN ss xs → xs.length = nInV ss → (sg.need = true → (dget (G xs) 0).toB = true) ∧ (dget (G xs) (if sg.need then 1 else 0)).toB = true)
    {W : World} {base : Nat} {args : Array Value} {ds gs : List (DataW H)} {before : List MemPlace}
    (hval : ∀ (j : Nat) t v, fn.params[j]? = some t → args[j]? = some v → Value.okWide C.prog W .any base t v)
    (hW : DataW.Whole enc C.prog fn.params.toList s.vars false W args.toList ds gs before) (hI : I W) (hK : gK ≤ W.heap.size) :
    Calls C.prog f args W fun e W' => ∃ v, e = .returned v ∧ s.post enc C.prog fn false true false false W args v W' := by
  have hW0 := hW
  obtain ⟨p, q, hA, hV, rfl, hfz, _⟩ := hW
  rw [hvars] at hV
  obtain ⟨rfl, rfl⟩ := trodVars_none hV
  have hlen : ∀ {ts : List TypeId} {vs : List Value} {ds : List (DataW H)} {ps : List MemPlace}, DataW.TrodAll enc C.prog W 0 (fun _ => true) true ts vs ds ps → ds.length = ts.length := by
    intro ts
    induction ts with
    | nil => intro vs ds ps h; cases vs <;> cases ds <;> first | rfl | cases h
    | cons t ts ih =>
      intro vs ds ps h
      cases vs with
      | nil => cases h
      | cons v vs =>
        cases ds with
        | nil => cases h
        | cons d ds =>
          obtain ⟨p, q, _, h2, _⟩ := h
          simp [ih h2]
  let E1 : Env := ⟨fun _ => False, fun b => b < W.heap.size, W, 0, fun _ => default⟩
  obtain ⟨xs, ls, h1, hx, h3, h2⟩ := open_allN (E := E1) rfl (fun _ h => h) (fun _ h => h) hsh (fun j t v ht hv => hval j t v (by simpa using ht) (by simpa using hv)) hA
  have hg := hG xs h1 hx
  have hhin : sg.hinI = (blksV 0 ss).map (Option.map (Blk.inst (idsFrom 0 sg.nin))) := by unfold Sig.hinI; rw [hl.hin]
  have hown : ∀ j b, nth sg.hinI j = some b → b.own = false := fun j b hj => by
    rw [hhin, nth_map] at hj
    obtain ⟨y, hy, rfl⟩ := Option.map_eq_some_iff.1 hj
    rw [Blk.inst_own]
    exact blksV_own ss 0 j y hy
  have hnW : ∀ (ρ : Nat → Loc) b, ¬ (callEnv sg.hinI ρ W).W b := fun ρ b ⟨j, bk, hj, ho, _⟩ => by rw [hown j bk hj] at ho; cases ho
  obtain ⟨c1, c2⟩ := patV_conc (n := sg.nin) (dget xs) (fun i => ls.getD i default) ss 0 0 (by rw [hl.nin]; omega)
  have hins : sg.insI = (patV 0 0 ss).map (V.inst (idsFrom 0 sg.nin)) := by unfold Sig.insI; rw [hl.ins]
  have hmono : ∀ {ss : List ShV} {ds : List DV} {ls' : List Loc}, RowsRel E1 W ss ds ls' → RowsRel (callEnv sg.hinI (fun i => ls.getD i default) W) W ss ds ls' := by
    intro ss
    induction ss with
    | nil => intro ds ls' _; trivial
    | cons t ss ih =>
      intro ds ls' h
      cases t with
      | pl s => exact ih (ds := ds.drop s.lts.length) h
      | row ts =>
        refine ⟨?_, ih h.2⟩
        have h := h.1
        refine ⟨h.nil, h.lt, h.pos, h.len, h.cap, fun i hi => ?_, h.own, h.fz⟩
        obtain ⟨v, h1, h2⟩ := h.cell i hi
        refine ⟨v, h1, CRel.mono (E := E1) (E' := callEnv sg.hinI (fun i => ls.getD i default) W) rfl (fun b _ _ => hnW _ b) (fun b hb _ => .inr ⟨hnf, hb, fun ⟨j, bk, hj, ho, _⟩ => ?_⟩) h2⟩
        rw [hown j bk hj] at ho; cases ho
  have hk := k xs (fun i => ls.getD i default) W hI (by rw [hl.nin]; exact hx) hg.1 hK (fun b hb => absurd hb (hnW _ b)) (by rw [hins]; exact c2)
    ⟨fun j bk hj => by
      have h3' := hmono h3
      have := rows_rel xs ls (n := sg.nin) (by rw [hl.nin]; exact hx) ss 0 0 (by rw [hl.nin]; omega) (by simpa using h3') j bk (by rw [← hhin]; exact hj)
      rwa [Nat.zero_add] at this,
     fun j j' bk bk' hj ho => by rw [hown j bk hj] at ho; cases ho⟩
  have ha : (sg.insI.map (V.conc (dget xs) fun i => ls.getD i default)).toArray = args := by
    rw [hins, c1]
    apply Array.ext'
    simpa using h2 [] []
  rw [ha] at hk
  refine hk.mono fun e W' ⟨v, ρ', he, hc⟩ => ⟨.bool true, ?_, ?_⟩
  · rw [he, hc.val]
    have : sg.outI.conc (sg.res (G xs)) ρ' = .bool (dget (G xs) (if sg.need then 1 else 0)).toB := by
      unfold Sig.outI Sig.res
      rw [hl.out, hl.ots]
      show Value.bool (dget (G xs) (0 + _)).toB = _
      rw [Nat.zero_add]
    rw [this, hg.2]
  · have hb : Below W.heap.size W W' := (hc.fr.weaken (W' := fun _ => False) fun b hb => hnW _ b hb).below
    have hsf := hs ds (by have := hlen hA; simpa using this)
    have hkids := kids_rows hlo.rows hlo.maps
    have hT : ∀ t ∈ fn.params.toList, t < C.prog.types.size := fun t ht => by simpa using List.all_eq_true.1 hlo.lt t ht
    have hre := DataW.TrodAll.respare (spare' := fun b => decide (b < W.heap.size)) hkids (slices_full_of C.prog hlo.full) hT hA (fun x hx => by simpa using hA.lt x hx)
    have hcarry : ∀ {ts : List TypeId} {vs : List Value} {ds : List (DataW H)} {ps : List MemPlace}, DataW.TrodAll enc C.prog W 0 (fun b => decide (b < W.heap.size)) true ts vs ds ps → (∀ p ∈ ps, W.sameAt W' p) → DataW.TrodAll enc C.prog W' 0 (fun b => decide (b < W.heap.size)) true ts vs ds ps := by
      intro ts
      induction ts with
      | nil => intro vs ds ps h _; cases vs <;> cases ds <;> first | exact h | cases h
      | cons t ts ih =>
        intro vs ds ps h hsame
        cases vs with
        | nil => cases h
        | cons v vs =>
        cases ds with
        | nil => cases h
        | cons d ds =>
        obtain ⟨p, q, ⟨fu, h1⟩, h2, rfl⟩ := h
        exact ⟨p, q, ⟨fu, DataW.trod_carry fu _ _ _ h1 (fun x hx => hsame x (List.mem_append_left _ hx))⟩, ih h2 (fun x hx => hsame x (List.mem_append_right _ hx)), rfl⟩
    have hre2 := hcarry hre (fun x hx => hb.same (hA.lt x hx))
    refine ⟨ds, [], p ++ [], [], p, [], ⟨p, [], hA, by rw [hvars]; exact rfl, rfl, hfz, fun h => by cases h⟩, ?_, ?_, ?_, hb.frame _, fun h => by cases h⟩
    · rw [List.append_nil, hsf, hrt]
      exact trodAll_mk1 (shut_bool htb true)
    · rw [List.append_nil, hsf]
      exact hre2
    · rw [List.append_nil, hsf, hvars]
      rfl

theorem law_liftedN {gK : Nat} {ss : List ShV} (k : FnOK C.prog I gK f sg G) (hsh : shapesN C.prog fn.params.toList = some ss) (hl : LawSigV sg ss) (hnf : sg.hinI.all (optAll Blk.flat) = false) {tb : TypeId} (hrt : fn.resultTypes = #[tb])
    (htb : C.prog.underlying tb = some .bool) (hvars : s.vars = []) (hs : ∀ ds : List (DataW H), ds.length = fn.params.size → s.fn H ds = { results := [.lit (.bool true)], args := ds }) (hlo : LaidOk C.prog fn.params.toList)
    (hG : ∀ xs, RangeN ss xs → xs.length = nInV ss → (sg.need = true → (dget (G xs) 0).toB = true) ∧ (dget (G xs) (if sg.need then 1 else 0)).toB = true)
    (hI : ∀ W, I W) (hK : gK = 0)
    (own : ownKnob C.prog.godebug = none) (started : os.Started) (noInit : C.prog.inits.idxOf? f = none) (hfn : C.prog.funcs[f]? = some fn)
    (witness : ∃ (w : World) (tape : Tape) (i : Input), w.os = os ∧ (w.forCall tape i).Shaped C.prog ∧ i.vars = [] ∧ Input.okWide C.prog (w.forCall tape i) .any w.heap.size f i ∧
      s.pre6 enc C.prog fn [] false (w.forCall tape i).memory i.args ∧ ({} : Assume).holds C.prog (lone (Frame.enter C.prog f i.args .normal) [] (w.forCall tape i))) :
    ReturnsInHanded {} C os f .any (s.pre6 enc C.prog fn [] false) (s.post enc C.prog fn false true false false) :=
  returnsInHanded_of_change (C := C) own started noInit hfn witness
    fun W _ _ _ _ _ hval hW _ _ => law_contractN k hsh hl hnf hrt htb hvars hs hlo hG hval hW (hI W) (by rw [hK]; exact Nat.zero_le _)
end
end Go.Sx

