/- Regions whose order is drawn, with calls and new blocks: the region. -/
import Derived.Test.YthlbgkhbebffaaaR3
namespace Go.Sx
open Go.RowKit

structure Alike (o1 o2 : Oper) : Prop where
  dst : o1.dst = o2.dst
  guard : o1.guard = o2.guard
  after : o1.after = o2.after
  op : o1.op = o2.op ∨ ∃ x y, o1.op = .move (.const x) ∧ o2.op = .move (.const y)
theorem lexB_congr {l1 l2 : List Oper} (hlen : l1.length = l2.length) (h : ∀ (j : Nat) o1 o2, l1[j]? = some o1 → l2[j]? = some o2 → Alike o1 o2) : Region.lexB .any l1.toArray = Region.lexB .any l2.toArray := by
  have hat : ∀ (l : List Oper) (j : Nat), (l.toArray)[j]? = l[j]? := fun l j => by simp
  have hcase : ∀ j : Nat, (l1[j]? = none ∧ l2[j]? = none) ∨ ∃ o1 o2, l1[j]? = some o1 ∧ l2[j]? = some o2 ∧ Alike o1 o2 := fun j => by
    rcases Nat.lt_or_ge j l1.length with hj | hj
    · right
      have e1 := List.getElem?_eq_getElem hj
      have e2 := List.getElem?_eq_getElem (l := l2) (i := j) (by omega)
      exact ⟨_, _, e1, e2, h j _ _ e1 e2⟩
    · exact .inl ⟨List.getElem?_eq_none hj, List.getElem?_eq_none (by omega)⟩
  have hd : ∀ j : Nat, ((l1.toArray)[j]?).bind (·.dst) = ((l2.toArray)[j]?).bind (·.dst) := fun j => by
    rw [hat, hat]
    rcases hcase j with ⟨h1, h2⟩ | ⟨o1, o2, h1, h2, h3⟩
    · rw [h1, h2]
    · rw [h1, h2]; exact h3.dst
  have hsz : l1.toArray.size = l2.toArray.size := by simpa using hlen
  have hready : ∀ listed, Region.ready .any l1.toArray listed = Region.ready .any l2.toArray listed := fun listed => by
    unfold Region.ready
    rw [hsz]
    refine List.filter_congr fun j _ => ?_
    rw [hat, hat]
    rcases hcase j with ⟨h1, h2⟩ | ⟨o1, o2, h1, h2, h3⟩
    · rw [h1, h2]
    · rw [h1, h2]
      have e := h3.after
      cases o1; cases o2
      simp only at e
      subst e
      rfl
  have hlook : ∀ o1 o2, Alike o1 o2 → o1.looksAt l1.toArray = o2.looksAt l2.toArray := fun o1 o2 h3 => by
    unfold Oper.looksAt
    rw [h3.guard]
    congr 1
    · rcases h3.op with h | ⟨x, y, h, h'⟩
      · rw [h]
      · rw [h, h']; rfl
    · cases o2.guard with
      | none => rfl
      | some p => exact congrArg Option.toList (hd p.1)
  have hapart : ∀ o1 o2 p1 p2, Alike o1 o2 → Alike p1 p2 → o1.apart l1.toArray p1 = o2.apart l2.toArray p2 := fun o1 o2 p1 p2 h3 h4 => by
    unfold Oper.apart
    rw [h3.dst, h4.dst, hlook _ _ h3, hlook _ _ h4]
  have hfree : ∀ listed i, Region.free .any l1.toArray listed i = Region.free .any l2.toArray listed i := fun listed i => by
    unfold Region.free
    rw [hat, hat]
    rcases hcase i with ⟨h1, h2⟩ | ⟨o1, o2, h1, h2, h3⟩
    · rw [h1, h2]
    · rw [h1, h2]
      simp only
      rw [hsz]
      congr 1
      funext j
      rw [hat, hat]
      rcases hcase j with ⟨g1, g2⟩ | ⟨p1, p2, g1, g2, g3⟩
      · rw [g1, g2]
      · rw [g1, g2]; simp only [g3.after, hapart _ _ _ _ h3 g3]
  have hlex : ∀ (fuel k : Nat) (listed : Array Bool), Region.lexFrom .any l1.toArray fuel k listed = Region.lexFrom .any l2.toArray fuel k listed := by
    intro fuel
    induction fuel with
    | zero => intro k listed; simp only [Region.lexFrom, hready]
    | succ fuel ih => intro k listed; simp only [Region.lexFrom, hready, hfree, ih]
  unfold Region.lexB
  rw [hlex, hsz]
  congr 1
  unfold Region.noSelect
  rw [Bool.eq_iff_iff, Array.all_eq_true, Array.all_eq_true]
  have key : ∀ o1 o2, Alike o1 o2 → ∀ f : Op → Bool, (∀ x y, f (.move x) = f (.move y)) → f o1.op = f o2.op := fun o1 o2 h3 f hf => by
    rcases h3.op with h | ⟨x, y, h, h'⟩
    · rw [h]
    · rw [h, h', hf]
  constructor
  · intro hh j hj
    rcases hcase j with ⟨h1, h2⟩ | ⟨o1, o2, h1, h2, h3⟩
    · rw [List.getElem?_eq_none_iff] at h2
      simp at hj; omega
    · have := hh j (by rw [hsz]; exact hj)
      have e1 : l1.toArray[j]'(by rw [hsz]; exact hj) = o1 := by
        have := hat l1 j; rw [h1, Array.getElem?_eq_getElem (by rw [hsz]; exact hj)] at this; exact Option.some.inj this
      have e2 : l2.toArray[j] = o2 := by
        have := hat l2 j; rw [h2, Array.getElem?_eq_getElem hj] at this; exact Option.some.inj this
      rw [e1] at this
      rw [e2]
      rcases h3.op with h | ⟨x, y, h, h'⟩
      · rw [← h]; exact this
      · rw [h']
  · intro hh j hj
    rcases hcase j with ⟨h1, h2⟩ | ⟨o1, o2, h1, h2, h3⟩
    · rw [List.getElem?_eq_none_iff] at h1
      simp at hj; omega
    · have := hh j (by rw [← hsz]; exact hj)
      have e1 : l1.toArray[j] = o1 := by
        have := hat l1 j; rw [h1, Array.getElem?_eq_getElem hj] at this; exact Option.some.inj this
      have e2 : l2.toArray[j]'(by rw [← hsz]; exact hj) = o2 := by
        have := hat l2 j; rw [h2, Array.getElem?_eq_getElem (by rw [← hsz]; exact hj)] at this; exact Option.some.inj this
      rw [e2] at this
      rw [e1]
      rcases h3.op with h | ⟨x, y, h, h'⟩
      · rw [h]; exact this
      · rw [h]

open Classical in
noncomputable def blankL (L : Nat → Prop) (H : List (Option Blk)) : List (Option Blk) := (List.range H.length).map fun q => if L q then nth H q else none
theorem nth_eq {α : Type} : ∀ (l : List (Option α)) (q : Nat), nth l q = (l[q]?).join
  | [], q => by cases q <;> rfl
  | x :: l, 0 => rfl
  | x :: l, q + 1 => by simp only [nth, List.getElem?_cons_succ, nth_eq l q]
theorem nth_blank {L : Nat → Prop} {H : List (Option Blk)} {q : Nat} {bk : Blk} : nth (blankL L H) q = some bk ↔ L q ∧ nth H q = some bk := by
  unfold blankL
  rw [nth_eq, List.getElem?_map]
  rcases Nat.lt_or_ge q H.length with h | h
  · rw [List.getElem?_range h]
    simp only [Option.map_some, Option.join_some]
    split
    · rename_i hl; simp [hl]
    · rename_i hl; simp [hl]
  · rw [List.getElem?_eq_none (by simpa using h)]
    constructor
    · intro h; cases h
    · rintro ⟨_, h2⟩
      have := nth_lt h2
      omega
theorem blank_len (L : Nat → Prop) (H : List (Option Blk)) : (blankL L H).length = H.length := by simp [blankL]

theorem acnt_zero (l : List Oper) : acnt l 0 = 0 := by simp [acnt]
theorem acnt_mono : ∀ (l : List Oper) {i j : Nat}, i ≤ j → acnt l i ≤ acnt l j
  | [], i, j, _ => by simp [acnt]
  | o :: l, 0, j, _ => by rw [acnt_zero]; omega
  | o :: l, i + 1, 0, h => by omega
  | o :: l, i + 1, j + 1, h => by
    rw [acnt_cons, acnt_cons]
    have := acnt_mono l (i := i) (j := j) (by omega)
    omega
theorem acnt_at : ∀ (l : List Oper) {i : Nat} {o : Oper}, l[i]? = some o → allocOp o.op = true → acnt l (i + 1) = acnt l i + 1
  | [], i, o, h, _ => by simp at h
  | x :: l, 0, o, h, ha => by
    simp at h; subst h
    rw [acnt_cons, acnt_zero, acnt_zero, if_pos ha]
  | x :: l, i + 1, o, h, ha => by
    rw [acnt_cons, acnt_cons, acnt_at l (i := i) (by simpa using h) ha]
    omega
theorem acnt_surj : ∀ (l : List Oper) {k : Nat}, k < acnt l l.length → ∃ i o, l[i]? = some o ∧ allocOp o.op = true ∧ acnt l i = k
  | [], k, h => by simp [acnt] at h
  | x :: l, k, h => by
    rw [List.length_cons, acnt_cons] at h
    by_cases ha : allocOp x.op = true
    · rw [if_pos ha] at h
      cases k with
      | zero => exact ⟨0, x, rfl, ha, acnt_zero _⟩
      | succ k =>
        obtain ⟨i, o, h1, h2, h3⟩ := acnt_surj l (k := k) (by omega)
        exact ⟨i + 1, o, by simpa using h1, h2, by rw [acnt_cons, if_pos ha, h3]; omega⟩
    · rw [if_neg ha] at h
      obtain ⟨i, o, h1, h2, h3⟩ := acnt_surj l (k := k) (by omega)
      exact ⟨i + 1, o, by simpa using h1, h2, by rw [acnt_cons, if_neg ha, h3]; omega⟩
theorem acnt_inj {l : List Oper} {i j : Nat} {o o' : Oper} (hi : l[i]? = some o) (ha : allocOp o.op = true) (hj : l[j]? = some o') (ha' : allocOp o'.op = true) (h : acnt l i = acnt l j) : i = j := by
  rcases Nat.lt_trichotomy i j with hlt | heq | hgt
  · have := acnt_at l hi ha
    have := acnt_mono l (i := i + 1) (j := j) (by omega)
    omega
  · exact heq
  · have := acnt_at l hj ha'
    have := acnt_mono l (i := j + 1) (j := i) (by omega)
    omega
theorem allocZs_spec {P : Program} : ∀ {l : List Oper} {zs : List (List Lf)}, allocZs P l = some zs → zs.length = acnt l l.length ∧ ∀ (i : Nat) o t, l[i]? = some o → o.op = .alloc t → ∃ z, zs[acnt l i]? = some z ∧ zeroCells P t = some z
  | [], zs, h => by
    simp [allocZs] at h; subst h
    exact ⟨by simp [acnt], fun i o t h => by simp at h⟩
  | x :: l, zs, h => by
    unfold allocZs at h
    split at h
    · rename_i t hop
      split at h
      · rename_i z zs' hz hzs
        cases h
        obtain ⟨h1, h2⟩ := allocZs_spec hzs
        have ha : allocOp x.op = true := by rw [hop]; rfl
        refine ⟨by rw [List.length_cons, List.length_cons, acnt_cons, if_pos ha, h1]; omega, fun i o t' ho hop' => ?_⟩
        cases i with
        | zero =>
          simp at ho; subst ho
          rw [hop] at hop'; cases hop'
          exact ⟨z, by rw [acnt_zero]; rfl, hz⟩
        | succ i =>
          obtain ⟨z', h3, h4⟩ := h2 i o t' (by simpa using ho) hop'
          exact ⟨z', by rw [acnt_cons, if_pos ha, Nat.add_comm, List.getElem?_cons_succ]; exact h3, h4⟩
      · cases h
    · rename_i hno
      obtain ⟨h1, h2⟩ := allocZs_spec h
      have ha : ¬ allocOp x.op = true := fun ha => by
        cases hop : x.op <;> rw [hop] at ha <;> simp [allocOp] at ha
        exact hno _ hop
      refine ⟨by rw [List.length_cons, acnt_cons, if_neg ha, h1]; omega, fun i o t' ho hop' => ?_⟩
      cases i with
      | zero =>
        simp at ho; subst ho
        exact absurd hop' (hno t')
      | succ i =>
        obtain ⟨z', h3, h4⟩ := h2 i o t' (by simpa using ho) hop'
        exact ⟨z', by rw [acnt_cons, if_neg ha, Nat.zero_add]; exact h3, h4⟩
theorem seg_at {s : Nat → Nat} : ∀ {n p : Nat}, (∀ i, i < n → s i ≤ s (i + 1)) → s 0 = 0 → p < s n → ∃ i, i < n ∧ s i ≤ p ∧ p < s (i + 1)
  | 0, p, _, h0, h => by omega
  | n + 1, p, hm, h0, h => by
    rcases Nat.lt_or_ge p (s n) with hlt | hge
    · obtain ⟨i, h1, h2, h3⟩ := seg_at (n := n) (fun i hi => hm i (by omega)) h0 hlt
      exact ⟨i, by omega, h2, h3⟩
    · exact ⟨n, by omega, hge, h⟩
theorem seg_le {s : Nat → Nat} {n : Nat} (hm : ∀ i, i < n → s i ≤ s (i + 1)) : ∀ {i j : Nat}, i ≤ j → j ≤ n → s i ≤ s j := by
  intro i j hij
  induction hij with
  | refl => intro _; exact Nat.le_refl _
  | step h ih => intro hj; exact Nat.le_trans (ih (by omega)) (hm _ (by omega))
theorem V.eqB_good {ν : Nat → DV} {a b : V} (h : a.eqB b = true) : b.good ν := by
  have key : ∀ a b : Lf, a.eqB b = true → b.good ν := fun a b h => by
    unfold Lf.eqB at h
    split at h <;> first | trivial | cases h
  have keys : ∀ a b : List Lf, lfsEqB a b = true → ∀ x ∈ b, x.good ν := fun a => by
    induction a with
    | nil => intro b h x hx; cases b with
      | nil => cases hx
      | cons y l => cases h
    | cons a l ih =>
      intro b h x hx
      cases b with
      | nil => cases hx
      | cons y l' =>
        simp only [lfsEqB, Bool.and_eq_true] at h
        rcases List.mem_cons.1 hx with rfl | hx
        · exact key _ _ h.1
        · exact ih l' h.2 x hx
  unfold V.eqB at h
  split at h
  · exact V.good_s.2 (V1.good_one.2 (key _ _ h))
  · exact V.good_s.2 (V1.good_agg.2 (keys _ _ h))
  · cases h
theorem vsEqB_good {ν : Nat → DV} : ∀ {a b : List V}, vsEqB a b = true → ∀ v ∈ b, v.good ν
  | [], [], _, v, hv => by cases hv
  | a :: l, b :: l', h, v, hv => by
    simp only [vsEqB, Bool.and_eq_true] at h
    rcases List.mem_cons.1 hv with rfl | hv
    · exact V.eqB_good h.1
    · exact vsEqB_good h.2 v hv
  | [], _ :: _, h, _, _ => by cases h
  | _ :: _, [], h, _, _ => by cases h
theorem argsB_at {r : RS} : ∀ {l : List Oper} {es : List (Nat × List V × V)}, argsB r l es = true → ∀ (i : Nat) o x args f vs v, l[i]? = some o → calleeOf o.op = some (x, args) → es[i]? = some (f, vs, v) →
    fnOf (rd r [] x) = some (f, []) ∧ ∃ vs', rdAll r [] args = some vs' ∧ vsEqB vs' vs = true
  | [], _, _, i, o, x, args, f, vs, v, ho, _, _ => by simp at ho
  | y :: l, [], h, i, o, x, args, f, vs, v, ho, _, he => by simp at he
  | y :: l, e :: es, h, i, o, x, args, f, vs, v, ho, hc, he => by
    simp only [argsB, Bool.and_eq_true] at h
    cases i with
    | zero =>
      simp at ho he
      subst ho; subst he
      have h := h.1
      rw [hc] at h
      simp only at h
      split at h
      · rename_i f' vs' h1 h2
        simp only [Bool.and_eq_true] at h
        have := Nat.eq_of_beq_eq_true h.1
        subst this
        exact ⟨h1, vs', h2, h.2⟩
      · cases h
    | succ i => exact argsB_at h.2 i o x args f vs v (by simpa using ho) hc (by simpa using he)
end Go.Sx

namespace Go.Sx
open Go.RowKit
section
variable {P : Program} {I : World → Prop} {S : Sigs} {F : FEnv} {E : Env} {gK : Nat} {ν : Nat → DV}

theorem evOpers_list (hS : SigsOK P I gK S F) (hE : E.Ok gK) (hn0 : S.n0 = E.n0) (hI : ∀ w, Fr E.W E.w0 w → I w) {ops : Array Oper} : ∀ (l : List Oper) (r : RS), M.sat F ν (evOpers P S false ops.toList l r) (fun r' => ∀ ρ a w, RR ν E ρ r a w →
    ∀ Q : Exit → Act → World → Prop, (∀ ρ' a' w', RR ν E ρ' r' a' w' → Q .normal a' w') → wpList P ops Q l a w)
  | [], r => sat_pure fun ρ a w h Q hQ => hQ ρ a w h
  | o :: l, r => by
    unfold evOpers
    refine sat_bind (evOper_sat (E := E) hS hE hn0 hI false) fun r1 h1 => sat_mono (evOpers_list hS hE hn0 hI l r1) fun r' h2 ρ a w hrr Q hQ => ?_
    have := h1.1 rfl ρ a w hrr (wpList P ops Q l) Q (fun ρ' a' w' h' => h2 ρ' a' w' h' Q hQ)
    simp only [wpList]
    split
    · rename_i hw; rw [if_pos hw] at this; exact .inl this
    · rename_i hw; rw [if_neg hw] at this; exact this

theorem RR.drop {ρ : Nat → Loc} {r : RS} {a : Act} {w : World} (h : RR ν E ρ r a w) : RR ν E ρ ⟨r.st, []⟩ a w :=
  ⟨⟨h.act.defers, h.act.size, h.act.slot, fun e he => by cases he⟩, h.hs⟩


theorem evMany_sat (hS : SigsOK P I gK S F) (hE : E.Ok gK) (hn0 : S.n0 = E.n0) (hI : ∀ w, Fr E.W E.w0 w → I w) {ops : Array Oper} {n : Nat} {s : St} (hnl : n ≤ ops.toList.length) (hm : manyB ops.toList n = true) :
    M.sat F ν (evMany P S ops.toList n s) (fun s' => ∀ ρ a w, RR ν E ρ ⟨s, []⟩ a w → ∀ Q : Exit → Act → World → Prop, (∀ ρ' a' w', RR ν E ρ' ⟨s', []⟩ a' w' → Q .normal a' w') →
      wpAny P .any ops Q ops.size (Array.replicate ops.size false) a w) := by
  unfold manyB at hm
  generalize hpre : ops.toList.take n = pre at hm
  simp only [Bool.and_eq_true] at hm
  obtain ⟨⟨⟨⟨hheads, heffs⟩, htail⟩, hlex⟩, hback⟩ := hm
  have hbk : BackOk .any ops := by have := backB_ok' hback; simpa using this
  have hprel : pre.length = n := by rw [← hpre, List.length_take]; omega
  unfold evMany
  refine sat_ite (fun hchk => ?_) (fun _ => sat_fail)
  simp only [Bool.and_eq_true] at hchk
  rw [hpre]
  refine sat_bind (sat_lift (Q := fun zs => allocZs P pre = some zs) fun a h => h) fun zs hzs => ?_
  have hmany := manyOps_sat (E := E) (F := F) (ν := ν) hS hE hn0 hI (ops := pre.toArray) (b0 := s.hp.length) (hc := (s.hp ++ zs.map fun _ => none).map frz) pre s.hp.length ⟨s, []⟩ [] (fun o ho => List.all_eq_true.1 hheads o ho)
  simp only at hmany
  refine sat_bind hmany fun z ⟨sg, hz⟩ => sat_ite (fun hc2 => ?_) (fun _ => sat_fail)
  simp only [Bool.and_eq_true] at hc2
  obtain ⟨⟨hzlt, hnlt⟩, hargs⟩ := hc2
  obtain ⟨rf, hn', es⟩ := z
  simp only at hz hnlt hargs ⊢
  refine sat_bind (evOpers_list (E := E) hS hE hn0 hI (ops := ops) (ops.toList.drop n) ⟨⟨rf.st.sl, s.hp ++ zs.map (fun z => some (.c true (z.map some))) ++ hn'⟩, rf.gl⟩) fun r2 hr2 => sat_pure fun ρ a w hrr Q hQ => ?_
  obtain ⟨hzl, hza⟩ := allocZs_spec hzs
  have hchk2 : hpLt s.hp = true := hchk.2
  generalize hbase : s.hp.length = base at *
  -- the whole heap
  generalize hH : s.hp ++ zs.map (fun z => some (Blk.c true (z.map some))) ++ hn' = H at *
  have hHl : H.length = base + zs.length + hn'.length := by rw [← hH]; simp [hbase]; omega
  have hHs : ∀ q, q < base → nth H q = nth s.hp q := fun q hq => by
    rw [← hH, List.append_assoc, nth_append, if_pos (by omega)]
  have hHz : ∀ k z, zs[k]? = some z → nth H (base + k) = some (.c true (z.map some)) := fun k z hk => by
    have hkl : k < zs.length := by
      rcases Nat.lt_or_ge k zs.length with h | h
      · exact h
      · rw [List.getElem?_eq_none h] at hk; cases hk
    rw [← hH, nth_append, if_pos (by simp [hbase]; omega), nth_append, if_neg (by omega), hbase, Nat.add_sub_cancel_left, nth_eq, List.getElem?_map, hk]
    rfl
  have hHn : ∀ p, nth H (base + zs.length + p) = nth hn' p := fun p => by
    rw [← hH, nth_append, if_neg (by simp [hbase]), List.length_append, List.length_map, hbase, Nat.add_sub_cancel_left]
  have hHlt : ∀ q bk, nth H q = some bk → bk.lt base = true := fun q bk hq => by
    rcases Nat.lt_or_ge q base with h | h
    · rw [hHs q h] at hq
      have := all_nth_of hchk.2 hq
      rwa [hbase] at this
    · rcases Nat.lt_or_ge q (base + zs.length) with h2 | h2
      · have hk := List.getElem?_eq_getElem (l := zs) (i := q - base) (by omega)
        have := hHz _ _ hk
        rw [show base + (q - base) = q from by omega, hq] at this
        cases this
        have := List.all_eq_true.1 hzlt _ (List.mem_of_getElem? hk)
        simp only [Bool.and_eq_true] at this
        have h3 := this.2
        simp only [Blk.lt, List.all_map]
        exact h3
      · have := hHn (q - (base + zs.length))
        rw [show base + zs.length + (q - (base + zs.length)) = q from by omega, hq] at this
        have := all_nth_of hnlt this.symm
        simp only [Bool.and_eq_true] at this
        exact this.2
  have hn'flat : ∀ p bk, nth hn' p = some bk → bk.flat = true := fun p bk hp => by
    have := all_nth_of hnlt hp
    simp only [Bool.and_eq_true] at this
    exact this.1
  -- who made which block
  have hs0 : sg 0 = 0 := hz.s0
  have hsm : ∀ {i j : Nat}, i ≤ j → j ≤ pre.length → sg i ≤ sg j := fun h1 h2 => seg_le hz.mono h1 h2
  have hsn : ∀ {i : Nat}, i ≤ pre.length → sg i ≤ hn'.length := fun h => by rw [← hz.sn]; exact hsm h (Nat.le_refl _)
  let made : Nat → Nat → Prop := fun i q => (∃ o, pre[i]? = some o ∧ allocOp o.op = true ∧ q = base + acnt pre i) ∨ (base + zs.length + sg i ≤ q ∧ q < base + zs.length + sg (i + 1))
  let live : Array Bool → Nat → Prop := fun listed q => q < base ∨ ∃ i, i < pre.length ∧ listed.getD i false = true ∧ made i q
  have hacl : ∀ {i : Nat} {o : Oper}, pre[i]? = some o → allocOp o.op = true → acnt pre i < zs.length := fun {i o} h1 h2 => by
    have hil : i < pre.length := by
      rcases Nat.lt_or_ge i pre.length with h | h
      · exact h
      · rw [List.getElem?_eq_none h] at h1; cases h1
    have := acnt_at pre h1 h2
    have := acnt_mono pre (i := i + 1) (j := pre.length) hil
    omega
  have hmade : ∀ {i j q : Nat}, i < pre.length → j < pre.length → made i q → made j q → i = j := by
    intro i j q hi hj h1 h2
    rcases h1 with ⟨o, a1, a2, a3⟩ | ⟨a1, a2⟩ <;> rcases h2 with ⟨o', b1, b2, b3⟩ | ⟨b1, b2⟩
    · exact acnt_inj a1 a2 b1 b2 (by omega)
    · have := hacl a1 a2; omega
    · have := hacl b1 b2; omega
    · rcases Nat.lt_trichotomy i j with h | h | h
      · have := hsm (i := i + 1) (j := j) h (by omega); omega
      · exact h
      · have := hsm (i := j + 1) (j := i) h (by omega); omega
  have hmadeb : ∀ {i q : Nat}, made i q → base ≤ q := by
    intro i q h
    rcases h with ⟨o, _, _, h⟩ | ⟨h, _⟩ <;> omega
  have hlive : ∀ {listed : Array Bool} {i q : Nat}, live listed q → live (listed.setIfInBounds i true) q := by
    intro listed i q h
    rcases h with h | ⟨j, h1, h2, h3⟩
    · exact .inl h
    · exact .inr ⟨j, h1, getD_set_true h2, h3⟩
  have hnew : ∀ {listed : Array Bool} {i q : Nat}, live (listed.setIfInBounds i true) q → live listed q ∨ (i < pre.length ∧ made i q) := by
    intro listed i q h
    rcases h with h | ⟨j, h1, h2, h3⟩
    · exact .inl (.inl h)
    · rcases getD_set_of h2 with rfl | h2
      · exact .inr ⟨h1, h3⟩
      · exact .inl (.inr ⟨j, h1, h2, h3⟩)
  have hfresh : ∀ {listed : Array Bool} {i q : Nat}, i < pre.length → listed.getD i false = false → made i q → ¬ live listed q := by
    intro listed i q hi hl hq h
    rcases h with h | ⟨j, h1, h2, h3⟩
    · have := hmadeb hq; omega
    · have := hmade hi h1 hq h3
      subst this
      rw [hl] at h2; cases h2
  have hlenH : E.n0 ≤ H.length := by have := hrr.hs.len; rw [hHl]; simp only at this; omega
  have hn0b : E.n0 ≤ base := by have := hrr.hs.len; simp only at this; omega
  -- more or fewer known
  have hsub : ∀ {L L' : Nat → Prop} {θ θ' : Nat → Loc} {w1 : World}, HS E ν θ (blankL L H) w1 → (∀ q, L' q → L q ∧ θ' q = θ q) → (∀ q, q < base → θ' q = θ q) → HS E ν θ' (blankL L' H) w1 := fun {L L' θ θ' w1} h h1 h2 =>
    h.grow (N := fun _ => False) (Below.refl _ _) hn0b (by rw [blank_len]; exact hlenH) h2 (fun q bk hq => by
      obtain ⟨g1, g2⟩ := nth_blank.1 hq
      obtain ⟨g3, g4⟩ := h1 q g1
      exact .inl ⟨nth_blank.2 ⟨g3, g2⟩, g4, hHlt q bk g2⟩) (fun _ _ _ _ h => h.elim)
  have hstart : ∀ {listed : Array Bool} {θ : Nat → Loc} {w1 : World}, HS E ν θ (blankL (live listed) H) w1 → HS E ν θ s.hp w1 := fun {listed θ w1} h =>
    h.grow (N := fun _ => False) (base := base) (Below.refl _ _) hn0b (by rw [hbase]; exact hn0b) (fun _ _ => rfl) (fun q bk hq => by
      have hql := nth_lt hq
      have e := hHs q (by omega)
      rw [hq] at e
      exact .inl ⟨nth_blank.2 ⟨.inl (by omega), e⟩, rfl, hHlt q bk e⟩) (fun _ _ _ _ h => h.elim)
  have hes : ∀ i, i < pre.length → ∃ e, es[i]? = some e := fun i hi => ⟨_, List.getElem?_eq_getElem (by rw [hz.len]; exact hi)⟩
  have hat : ∀ j : Nat, pre.toArray[j]? = pre[j]? := fun j => by simp
  have hlt_of : ∀ {i : Nat} {o : Oper}, pre[i]? = some o → i < pre.length := fun {i o} h => by
    rcases Nat.lt_or_ge i pre.length with h1 | h1
    · exact h1
    · rw [List.getElem?_eq_none h1] at h; cases h
  have hops' : ∀ (θ : Nat → Loc) (j : Nat), ((List.zipWith (fun o e => nopW (e.2.2.conc ν θ) o) pre es).toArray)[j]? = (match pre[j]?, es[j]? with | some o, some e => some (nopW (e.2.2.conc ν θ) o) | _, _ => none) := fun θ j => by
    simp [List.getElem?_zipWith]
    cases pre[j]? <;> cases es[j]? <;> rfl
  have hnopWd : ∀ (v : Value) (o : Oper), (nopW v o).dst = o.dst ∧ (nopW v o).guard = o.guard ∧ (nopW v o).after = o.after := fun v o => by
    unfold nopW; split <;> exact ⟨rfl, rfl, rfl⟩
  have hsz : ∀ θ : Nat → Loc, (List.zipWith (fun o e => nopW (e.2.2.conc ν θ) o) pre es).toArray.size = pre.toArray.size := fun θ => by simp [hz.len]
  have hkind : ∀ {i : Nat} {o : Oper}, pre[i]? = some o → (effOp o.op = false → pureOp o.op = true) ∧ (effOp o.op = true → o.guard = none) := fun {i o} h => by
    have := List.all_eq_true.1 hheads o (List.mem_of_getElem? h)
    unfold headOp at this
    cases he : effOp o.op <;> rw [he] at this <;> simp at this <;> simp [this]
  have heffmem : ∀ i, i ∈ effAt pre ↔ ∃ o, pre[i]? = some o ∧ effOp o.op = true := fun i => by
    unfold effAt
    rw [List.mem_map]
    constructor
    · rintro ⟨⟨o, j⟩, h, rfl⟩
      obtain ⟨h1, h2⟩ := List.mem_filter.1 h
      exact ⟨o, List.mem_zipIdx_iff_getElem?.1 h1, h2⟩
    · rintro ⟨o, h1, h2⟩
      exact ⟨(o, i), List.mem_filter.2 ⟨List.mem_zipIdx_iff_getElem?.2 h1, h2⟩, rfl⟩
  have hmanyAt : ∀ {i : Nat} {o : Oper}, pre[i]? = some o → effOp o.op = true → ((calleeOf o.op).isSome = true → ∀ j, j < i → (∃ o', pre[j]? = some o' ∧ (calleeOf o'.op).isSome = true) → j ∈ reachFrom pre i (depsOf o)) ∧
      (∀ t ∈ callTmps o.op, ∀ (j : Nat) o', pre[j]? = some o' → o'.dst = some t → j ∈ reachFrom pre i (depsOf o)) := fun {i o} h he => by
    have := List.all_eq_true.1 heffs i ((heffmem i).2 ⟨o, h, he⟩)
    unfold manyAt at this
    rw [h] at this
    simp only [Bool.and_eq_true, Bool.or_eq_true, Bool.not_eq_true'] at this
    obtain ⟨h1, h2⟩ := this
    refine ⟨fun hc j hj ⟨o', g1, g2⟩ => ?_, fun t ht j o' ho' hd => ?_⟩
    · rcases h1 with h1 | h1
      · rw [hc] at h1; cases h1
      · refine sub1_spec h1 j (List.mem_filter.2 ⟨?_, by simpa [Nat.blt_eq] using hj⟩)
        unfold callAt
        exact List.mem_map.2 ⟨(o', j), List.mem_filter.2 ⟨List.mem_zipIdx_iff_getElem?.2 g1, g2⟩, rfl⟩
    · have := List.all_eq_true.1 h2 (o', j) (List.mem_zipIdx_iff_getElem?.2 ho')
      simp only [dstOk, hd, Bool.or_eq_true, Bool.not_eq_true'] at this
      rcases this with h | h
      · rw [mem_memN ht] at h; cases h
      · exact memN_mem h
  refine wpAny_tails2 hbk (ops.toList.drop n) pre.toArray (by rw [← hpre]; simp) (fun i hi o ho j hj => ?_) a w ?_
  · have hi' : n ≤ i := by simpa [hprel] using hi
    have hmm : (o, i) ∈ ops.toList.zipIdx.drop n := by
      rw [List.mem_iff_getElem?]
      refine ⟨i - n, ?_⟩
      rw [List.getElem?_drop, show n + (i - n) = i from by omega, List.getElem?_zipIdx]
      have : ops.toList[i]? = some o := by simpa using ho
      rw [this]
      simp
    have := List.all_eq_true.1 htail _ hmm
    exact memN_mem (List.all_eq_true.1 this j (List.mem_range.2 hj))

  have hready : ∀ (θ : Nat → Loc) listed, Region.ready .any (List.zipWith (fun o e => nopW (e.2.2.conc ν θ) o) pre es).toArray listed = Region.ready .any pre.toArray listed := fun θ listed => by
    unfold Region.ready
    rw [hsz θ]
    refine List.filter_congr fun j _ => ?_
    rw [hops' θ j, hat j]
    cases ho : pre[j]? with
    | none => rfl
    | some o =>
      obtain ⟨e, he⟩ := hes j (hlt_of ho)
      rw [he]
      have e1 := (hnopWd (e.2.2.conc ν θ) o).2.2
      dsimp only
      generalize nopW (e.2.2.conc ν θ) o = o1 at e1 ⊢
      cases o1; cases o
      simp only at e1
      subst e1
      rfl
  have hdst : ∀ (θ : Nat → Loc) (j : Nat), (((List.zipWith (fun o e => nopW (e.2.2.conc ν θ) o) pre es).toArray)[j]?).bind (·.dst) = ((pre.toArray)[j]?).bind (·.dst) := fun θ j => by
    rw [hops' θ j, hat j]
    cases ho : pre[j]? with
    | none => rfl
    | some o =>
      obtain ⟨e, he⟩ := hes j (hlt_of ho)
      rw [he]
      exact (hnopWd _ o).1
  have hbkp : BackOk .any pre.toArray := fun i o ho => hbk i o (by
    rw [hat] at ho
    have : ops.toList[i]? = some o := by
      rw [← hpre, List.getElem?_take] at ho
      split at ho
      · exact ho
      · cases ho
    simpa using this)
  refine wpAny_many (P := P) (Θ := Nat → Loc) (ops := pre.toArray) (ops' := fun θ => (List.zipWith (fun o e => nopW (e.2.2.conc ν θ) o) pre es).toArray) (st := effAt pre) (val := fun i θ => (es.getD i default).2.2.conc ν θ)
    (C := fun θ w => HS E ν θ s.hp w) (D := fun listed θ w => HS E ν θ (blankL (live listed) H) w) (Sm := fun listed θ θ' => ∀ q, live listed q → θ' q = θ q) (Qf := fun θ a' => ARel ν θ rf a')
    (tm := fun i => match pre[i]? with | some o => callTmps o.op | none => []) hbkp hready hdst (fun θ i hi => ?_) (fun i hi => ?_) (fun listed θ θ' w1 hd hsm1 => ?_) (fun listed θ w1 hd => hstart hd) (fun _ _ _ _ => rfl)
    (fun listed i θ θ' θ'' h1 h2 q hq => (h2 q (hlive hq)).trans (h1 q hq)) (fun listed i θ θ' hi hs hsm1 => ?_) (fun i o hi ho a1 w1 f args w2 => ?_) (fun listed i θ w1 hi hd => ?_) (fun i o hi ho listed hcl hrd t ht j o' ho' hd' => ?_)
    (fun i o hi ho listed hs hcl' hrd θ w1 hd a1 a2 ha2 htm => ?_) (fun θ a1 w1 listed hall ha1 hd => ?_) pre.toArray.size (Array.replicate pre.toArray.size false) a w ρ (by simp) (closed_none _ _) ?_ (fun θ' hsm1 => ?_)
  · -- what is neither
    show ((List.zipWith (fun o e => nopW (e.2.2.conc ν θ) o) pre es).toArray)[i]? = _
    rw [hops' θ i, hat i]
    cases ho : pre[i]? with
    | none => rfl
    | some o =>
      obtain ⟨e, he⟩ := hes i (hlt_of ho)
      rw [he]
      have : effOp o.op = false := by
        cases h : effOp o.op with
        | false => rfl
        | true => exact absurd ((heffmem i).2 ⟨o, ho, h⟩) hi
      simp only [nopW_not this]
  · obtain ⟨o, h1, h2⟩ := (heffmem i).1 hi
    obtain ⟨e, he⟩ := hes i (hlt_of h1)
    refine ⟨o, by rw [hat]; exact h1, (hkind h1).2 h2, fun θ => ⟨nopW (e.2.2.conc ν θ) o, ?_, by rw [(hnopWd _ o).2.1]; exact (hkind h1).2 h2, (hnopWd _ o).1, fun a1 w1 => ?_⟩⟩
    · show ((List.zipWith (fun o e => nopW (e.2.2.conc ν θ) o) pre es).toArray)[i]? = _
      rw [hops' θ i, h1, he]
    · rw [nopW_eff h2, List.getD_eq_getElem?_getD, he]
      simp [execOp, Act.eval]
  · exact hsub hd (fun q hq => ⟨hq, hsm1 q hq⟩) (fun q hq => hsm1 q (.inl hq))
  · -- the values of what is listed
    obtain ⟨o, h1, h2⟩ := (heffmem i).1 hi
    have hil := hlt_of h1
    have hli : (listed.setIfInBounds i true).getD i false = true := by
      have : i < listed.size := by rw [hs]; simpa using hil
      rw [Array.getD_eq_getD_getElem?, Array.getElem?_setIfInBounds_self_of_lt this]
      rfl
    have hmk : ∀ q, made i q → θ' q = θ q := fun q hq => hsm1 q (.inr ⟨i, hil, hli, hq⟩)
    cases hal : allocOp o.op with
    | true =>
      obtain ⟨e, he, hev⟩ := hz.alloc i o h1 hal
      simp only [List.getD_eq_getElem?_getD, he, Option.getD_some, hev, V.conc, V1.conc, Lf.conc]
      rw [hmk _ (.inl ⟨o, h1, hal, rfl⟩)]
    | false =>
      obtain ⟨⟨x, args⟩, hc⟩ := Option.isSome_iff_exists.1 (show (calleeOf o.op).isSome = true by
        unfold effOp at h2; rw [hal] at h2; simpa using h2)
      obtain ⟨f, vs, v, he, hin, _, _⟩ := hz.call i o x args h1 hc
      simp only [List.getD_eq_getElem?_getD, he, Option.getD_some]
      refine V.inB_conc hin fun q hq => ?_
      simp only [Bool.or_eq_true, Bool.and_eq_true] at hq
      rcases hq with hq | ⟨hq1, hq2⟩
      · exact hsm1 q (.inl (by simpa [Nat.blt_eq] using hq))
      · refine hmk q (.inr ⟨?_, ?_⟩)
        · have := Nat.le_of_ble_eq_true hq1; simp [hbase] at this; omega
        · simp [Nat.blt_eq, hbase] at hq2; omega
  · rw [hat] at ho
    have : effOp o.op = false := by
      cases h : effOp o.op with
      | false => rfl
      | true => exact absurd ((heffmem i).2 ⟨o, ho, h⟩) hi
    exact pure_noEnter ((hkind ho).1 this) a1 w1 f args w2
  · refine hsub hd (fun q hq => ⟨?_, rfl⟩) (fun _ _ => rfl)
    rcases hnew hq with h | ⟨hil, h⟩
    · exact h
    · exfalso
      have hio := List.getElem?_eq_getElem hil
      have hne : effOp pre[i].op = false := by
        cases h : effOp pre[i].op with
        | false => rfl
        | true => exact absurd ((heffmem i).2 ⟨_, hio, h⟩) hi
      unfold effOp at hne
      rw [Bool.or_eq_false_iff] at hne
      rcases h with ⟨o, h1, h2, _⟩ | ⟨h1, h2⟩
      · rw [hio] at h1; cases h1
        rw [hne.1] at h2; cases h2
      · rw [hz.still i _ hio hne.2] at h2
        omega
  · rw [hat] at ho ho'
    obtain ⟨o2, h1, h2⟩ := (heffmem i).1 hi
    rw [ho] at h1; cases h1
    rw [ho] at ht
    have := (hmanyAt ho h2).2 t ht j o' ho' hd'
    exact anc_listed hcl (by rw [hat]; exact ho) hrd j this
  · -- a new block, or a call
    rw [hat] at ho
    obtain ⟨o2, h1, h2⟩ := (heffmem i).1 hi
    rw [ho] at h1; cases h1
    rw [ho] at htm
    have hil := hlt_of ho
    have hnl : listed.getD i false = false := by
      obtain ⟨h4, _⟩ := mem_ready.1 hrd
      rw [← getD_true_false (by rw [hs]; simpa using hil)]
      exact h4
    have hstl := hstart hd
    cases hal : allocOp o.op with
    | true =>
      obtain ⟨t, hop⟩ : ∃ t, o.op = .alloc t := by
        cases hop : o.op <;> rw [hop] at hal <;> simp [allocOp] at hal
        exact ⟨_, rfl⟩
      obtain ⟨z, hzk, hzc⟩ := hza i o t ho hop
      obtain ⟨inf, zv, hinf, hzv, hzg, hzcc⟩ := zeroCells_spec (ν := ν) hzc
      have hzlt2 : z.all (Lf.lt s.hp.length) = true := by
        have := List.all_eq_true.1 hzlt z (List.mem_of_getElem? hzk)
        simp only [Bool.and_eq_true] at this
        rw [hbase]; exact this.2
      have hnewb := hstl.new hchk2 hzlt2 hzg t
      rw [← hzcc θ] at hnewb
      have hb0 : base ≤ base + acnt pre i := by omega
      refine .inl ⟨.pointer (some ⟨w1.heap.size, 0, none⟩), w1.alloc (.cells zv.cells t), ?_, fun q => if q = base + acnt pre i then ⟨w1.heap.size, 0, false, 0, 0⟩ else θ q, fun q hq => ?_, ?_, ?_⟩
      · simp [execOp, hop, Instr.alloc, zeroValue, typeInfo, hinf, hzv, newVar, newRow]
      · exact if_neg fun e => hfresh hil hnl (.inl ⟨o, ho, hal, e⟩) hq
      · obtain ⟨e, he, hev⟩ := hz.alloc i o ho hal
        simp only [List.getD_eq_getElem?_getD, he, Option.getD_some, hev, V.conc, V1.conc, Lf.conc, if_pos, Off.val]
      · refine hd.grow (N := fun q => q = base + acnt pre i) (base := base) ⟨rfl, rfl, rfl, by simp, fun k hk => Below.heap_alloc _ _ _ hk⟩ hn0b (by rw [blank_len]; exact hlenH) (fun q hq => if_neg (by omega)) (fun q bk hq => ?_) (fun q q' _ _ h h' _ _ _ hne => absurd (h.trans h'.symm) hne)
        obtain ⟨g1, g2⟩ := nth_blank.1 hq
        rcases hnew g1 with h | ⟨_, h⟩
        · exact .inl ⟨nth_blank.2 ⟨h, g2⟩, if_neg fun e => hfresh hil hnl (.inl ⟨o, ho, hal, e⟩) h, hHlt q bk g2⟩
        · have hqe : q = base + acnt pre i := by
            rcases h with ⟨o', k1, k2, k3⟩ | ⟨k1, k2⟩
            · exact k3
            · have hno : (calleeOf o.op).isSome = false := by rw [hop]; rfl
              rw [hz.still i o ho hno] at k2
              omega
          subst hqe
          rw [hHz _ _ hzk] at g2
          cases g2
          refine .inr ⟨?_, .inr (.inl (by simp)), rfl⟩
          have hb1 := hnewb.heap.blk s.hp.length (.c true (z.map some)) (by rw [nth_append, if_neg (by omega), Nat.sub_self]; rfl)
          rw [ext_same] at hb1
          have hk := hb1.keep (n := base) (ρ' := fun q => if q = base + acnt pre i then ⟨w1.heap.size, 0, false, 0, 0⟩ else θ q) (fun k hk => by
            rw [if_neg (by omega), ext_lt (by omega)]) (hHlt _ _ (hHz _ _ hzk))
          simp only [if_pos]
          exact hk
    | false =>
      obtain ⟨⟨x, args⟩, hc⟩ := Option.isSome_iff_exists.1 (show (calleeOf o.op).isSome = true by
        unfold effOp at h2; rw [hal] at h2; simpa using h2)
      obtain ⟨f, vs, v, he, hin, _, hfact⟩ := hz.call i o x args ho hc
      obtain ⟨hf, vs', hvs', heq⟩ := argsB_at hargs i o x args f vs v ho hc he
      have hcs : (calleeOf o.op).isSome = true := by rw [hc]; rfl
      have hsi1 := hsn (i := i) (by omega)
      have hsi2 := hsn (i := i + 1) (by omega)
      have hsi3 := hz.mono i hil
      generalize hcl : (s.hp ++ zs.map fun _ => none).map frz ++ (hn'.take (sg i)).map frz = hcall at hfact
      have hcll : hcall.length = base + zs.length + sg i := by rw [← hcl]; simp [hbase]; omega
      have hcin : ∀ j bk, nth hcall j = some bk → nth (blankL (live listed) H) j = some bk ∧ bk.flat = true ∧ bk.own = false := by
        intro j bk hj
        rw [← hcl, nth_append] at hj
        split at hj
        · rename_i hjl
          obtain ⟨k1, k2, k3⟩ := nth_frz hj
          rw [nth_append] at k1
          split at k1
          · rename_i hjb
            rw [hbase] at hjb
            exact ⟨nth_blank.2 ⟨.inl hjb, by rw [hHs j hjb]; exact k1⟩, k2, k3⟩
          · exfalso
            rw [nth_eq, List.getElem?_map] at k1
            cases h : zs[j - s.hp.length]? <;> rw [h] at k1 <;> cases k1
        · rename_i hjl
          have hjl2 : base + zs.length ≤ j := by simp [hbase] at hjl; omega
          have hlen3 : ((s.hp ++ zs.map fun _ => (none : Option Blk)).map frz).length = base + zs.length := by simp [hbase]
          rw [hlen3] at hj
          obtain ⟨k1, k2, k3⟩ := nth_frz hj
          have hp1 : j - (base + zs.length) < sg i := by
            have := nth_lt k1
            rw [List.length_take] at this
            omega
          have k4 : nth hn' (j - (base + zs.length)) = some bk := by
            rw [nth_eq, List.getElem?_take, if_pos hp1, ← nth_eq] at k1
            exact k1
          obtain ⟨i', m1, m2, m3⟩ := seg_at (fun k hk => hz.mono k (by omega)) hs0 hp1
          have hio := List.getElem?_eq_getElem (l := pre) (i := i') (by omega)
          have hcs' : (calleeOf pre[i'].op).isSome = true := by
            cases h : (calleeOf pre[i'].op).isSome with
            | true => rfl
            | false =>
              rw [hz.still i' _ hio h] at m3
              omega
          have hanc := (hmanyAt ho h2).1 hcs i' m1 ⟨_, hio, hcs'⟩
          have hli := anc_listed hcl' (by rw [hat]; exact ho) hrd i' hanc
          refine ⟨nth_blank.2 ⟨.inr ⟨i', by omega, hli, .inr ⟨by omega, by omega⟩⟩, ?_⟩, k2, k3⟩
          have := hHn (j - (base + zs.length))
          rw [show base + zs.length + (j - (base + zs.length)) = j from by omega] at this
          rw [this]; exact k4
      have hread := hd.read hcin
      have hgood := vsEqB_good (ν := ν) heq
      have hargc : vs'.map (V.conc ν θ) = vs.map (V.conc ν θ) := vsEqB_conc θ heq
      obtain ⟨hen, hcalls⟩ := hfact _ (readEnv_ok (Nat.le_trans hE.1 hd.fr.size)) θ w1 hgood hread (hI w1 hd.fr)
      refine .inr ⟨f, (vs.map (V.conc ν θ)).toArray, w1, ?_, hcalls.mono fun e w' ⟨ρ2, hp1, k1, k2, k3, k4⟩ => ⟨v.conc ν ρ2, k4, fun q => if base + zs.length + sg i ≤ q ∧ q < base + zs.length + sg (i + 1) then ρ2 q else θ q, fun q hq => ?_, ?_, ?_⟩⟩
      · rw [callee_eval hcs htm, ← hargc]
        rw [← hargc] at hen
        exact callee_run hc hf hvs' ha2 w1 hen
      · exact if_neg fun hh => hfresh hil hnl (.inr hh) hq
      · simp only [List.getD_eq_getElem?_getD, he, Option.getD_some]
        refine V.inB_conc hin fun q hq => ?_
        simp only [Bool.or_eq_true, Bool.and_eq_true] at hq
        rcases hq with hq | ⟨hq1, hq2⟩
        · have hqb : q < base := by simpa [Nat.blt_eq] using hq
          rw [if_neg (by omega), k1 q (by omega)]
        · have e1 := Nat.le_of_ble_eq_true hq1
          simp [hbase] at e1
          simp [Nat.blt_eq, hbase] at hq2
          exact if_pos ⟨by omega, by omega⟩
      · have hbel : Below w1.heap.size w1 w' := k2.fr.below
        have hent : ∀ q bk, base + zs.length + sg i ≤ q → q < base + zs.length + sg (i + 1) → nth H q = some bk → nth hp1 q = some bk := by
          intro q bk hq1 hq2 hq
          have e1 := hHn (q - (base + zs.length))
          rw [show base + zs.length + (q - (base + zs.length)) = q from by omega, hq] at e1
          have e2 : nth ((hn'.take (sg (i + 1))).drop (sg i)) (q - (base + zs.length) - sg i) = some bk := by
            rw [drop_nth, show sg i + (q - (base + zs.length) - sg i) = q - (base + zs.length) from by omega, nth_eq, List.getElem?_take, if_pos (by omega), ← nth_eq, ← e1]
          have e3 := k3 (q - (base + zs.length) - sg i) (by rw [e2]; simp)
          rw [e2, hcll, show base + zs.length + sg i + (q - (base + zs.length) - sg i) = q from by omega] at e3
          exact e3
        refine hd.grow (N := fun q => base + zs.length + sg i ≤ q ∧ q < base + zs.length + sg (i + 1)) (base := base) hbel hn0b (by rw [blank_len]; exact hlenH) (fun q hq => if_neg (by omega)) (fun q bk hq => ?_) (fun q q' bk bk' h h' hq ho1 hq' hne hn1 hn2 => ?_)
        · obtain ⟨g1, g2⟩ := nth_blank.1 hq
          rcases hnew g1 with h | ⟨_, h⟩
          · exact .inl ⟨nth_blank.2 ⟨h, g2⟩, if_neg fun hh => hfresh hil hnl (.inr hh) h, hHlt q bk g2⟩
          · rcases h with ⟨o', m1, m2, m3⟩ | hr
            · rw [ho] at m1; cases m1
              rw [hal] at m2; cases m2
            · have e1 := hent q bk hr.1 hr.2 g2
              have hflat : bk.flat = true := by
                have := hHn (q - (base + zs.length))
                rw [show base + zs.length + (q - (base + zs.length)) = q from by omega, g2] at this
                exact hn'flat _ _ this.symm
              refine .inr ⟨?_, ?_, hr⟩
              · rw [if_pos hr]
                exact ((k2.heap.blk q bk e1).flat hflat).keep (n := base) (fun k hk => by rw [if_neg (by omega)]; exact (k1 k (by omega)).symm) (hHlt q bk g2)
              · rw [if_pos hr]
                rcases k2.old q bk e1 with h | h | h | ⟨h, j, bj, n1, n2, n3⟩
                · exact .inl h
                · exact .inr (.inl h)
                · exact h.elim
                · exact .inr (.inr ⟨h, j, bj, (hcin j bj n1).1, (hcin j bj n1).2.2, n2, n3.symm⟩)
        · have g2 := (nth_blank.1 hq).2
          have g2' := (nth_blank.1 hq').2
          simp only [if_pos h] at hn1 ⊢
          simp only [if_pos h'] at hn2 ⊢
          exact k2.heap.apart q q' bk bk' (hent q bk h.1 h.2 g2) ho1 (hent q' bk' h'.1 h'.2 g2') hne hn1 hn2
  · -- all is listed
    show wpList P ops Q (ops.toList.drop n) a1 w1
    refine hr2 θ a1 w1 ⟨⟨ha1.defers, ha1.size, ha1.slot, ha1.gl⟩, ?_⟩ Q fun ρ' a' w' h' => hQ ρ' a' w' h'.drop
    refine hd.grow (N := fun _ => False) (base := base) (Below.refl _ _) hn0b hlenH (fun _ _ => rfl) (fun q bk hq => .inl ⟨nth_blank.2 ⟨?_, hq⟩, rfl, hHlt q bk hq⟩) (fun _ _ _ _ h => h.elim)
    rcases Nat.lt_or_ge q base with h | h
    · exact .inl h
    · have hql : q < base + zs.length + hn'.length := by rw [← hHl]; exact nth_lt hq
      rcases Nat.lt_or_ge q (base + zs.length) with h2 | h2
      · obtain ⟨i, o, k1, k2, k3⟩ := acnt_surj pre (k := q - base) (by omega)
        exact .inr ⟨i, hlt_of k1, hall i (by simpa using hlt_of k1), .inl ⟨o, k1, k2, by omega⟩⟩
      · obtain ⟨i, k1, k2, k3⟩ := seg_at (s := sg) (n := pre.length) (p := q - (base + zs.length)) hz.mono hs0 (by rw [hz.sn]; omega)
        exact .inr ⟨i, k1, hall i (by simpa using k1), .inr ⟨by omega, by omega⟩⟩
  · refine hrr.hs.grow (N := fun _ => False) (base := base) (Below.refl _ _) hn0b (by rw [blank_len]; exact hlenH) (fun _ _ => rfl) (fun q bk hq => ?_) (fun _ _ _ _ h => h.elim)
    obtain ⟨g1, g2⟩ := nth_blank.1 hq
    rcases g1 with g1 | ⟨j, _, hj, _⟩
    · exact .inl ⟨by rw [hHs q g1] at g2; exact g2, rfl, hHlt q bk g2⟩
    · exfalso
      rw [Array.getD_eq_getD_getElem?, Array.getElem?_replicate] at hj
      split at hj <;> simp at hj
  · have hρ : ∀ q, q < base → θ' q = ρ q := fun q hq => hsm1 q (.inl hq)
    have ha1 : ARel ν θ' ⟨s, []⟩ a := hrr.act.ext (fun j hj => hρ j (by omega)) hchk.1 (by simp) s.hp
    have hs1 : HS E ν θ' s.hp w := hrr.hs.reloc hchk2 (fun j hj => hρ j (by rw [← hbase]; exact hj))
    have hwq := hz.quiet θ' a ha1 ⟨w, hs1⟩ _ rfl (List.zipWith (fun o e => nopW (e.2.2.conc ν θ') o) pre es).toArray (hdst θ') (fun a' => ARel ν θ' rf a') (fun _ h => h)
    have hB : Region.lexB .any (List.zipWith (fun o e => nopW (e.2.2.conc ν θ') o) pre es).toArray = true := by
      rw [← hlex]
      refine lexB_congr (by simp [hz.len]) fun j o1 o2 h1 h2 => ?_
      rw [List.getElem?_map] at h2
      obtain ⟨o, g1, rfl⟩ := Option.map_eq_some_iff.1 h2
      obtain ⟨e, he⟩ := hes j (hlt_of g1)
      rw [List.getElem?_zipWith, g1, he] at h1
      simp only [Option.some.injEq] at h1
      subst h1
      refine ⟨by rw [(hnopWd _ o).1, (hnopWd _ o).1], by rw [(hnopWd _ o).2.1, (hnopWd _ o).2.1], by rw [(hnopWd _ o).2.2, (hnopWd _ o).2.2], ?_⟩
      unfold nopW
      split
      · exact .inr ⟨_, _, rfl, rfl⟩
      · exact .inl rfl
    simp only [Region.lexB, Bool.and_eq_true] at hB
    have := wpAnyQ_lex (P := P) (C := fun w => HS E ν θ' s.hp w) (md := .any) hB.1 (List.zipWith (fun o e => nopW (e.2.2.conc ν θ') o) pre es) 0 (Array.replicate (List.zipWith (fun o e => nopW (e.2.2.conc ν θ') o) pre es).toArray.size false) a (by simp) (by simpa using hB.2) hwq
    rw [hsz θ'] at this
    simpa [hz.len] using this
end
end Go.Sx

namespace Go.Sx
open Go.RowKit

section
variable {P : Program}

theorem end_of_any {ops : Array Oper} {Q : Exit → Act → World → Prop} (hQ : ∀ e a w, Q e a w → e = .normal) : ∀ (fuel : Nat) (listed : Array Bool) (a : Act) (w : World), wpAny P .any ops Q fuel listed a w →
    ∃ a' w', Q .normal a' w' ∧ ∀ t, (∀ (j : Nat) (o : Oper), ops[j]? = some o → o.dst = some t → listed.getD j true = true) → a'.tmps[t]? = a.tmps[t]?
  | 0, listed, a, w, h => ⟨a, w, h.2, fun _ _ => rfl⟩
  | fuel + 1, listed, a, w, h => by
    have hlo : ¬ LetsOut Q := fun ⟨a, w, h⟩ => by cases hQ _ _ _ h
    cases hr : Region.ready .any ops listed with
    | nil => exact ⟨a, w, h.1 hr, fun _ _ => rfl⟩
    | cons i l =>
      have hi : i ∈ Region.ready .any ops listed := by rw [hr]; simp
      obtain ⟨hnl, oi, hoi, _⟩ := mem_ready.1 hi
      have hq := h.2 i hi
      have step : ∀ (a1 : Act) (w1 : World), (∀ t, oi.dst ≠ some t → a1.tmps[t]? = a.tmps[t]?) → wpAny P .any ops Q fuel (listed.setIfInBounds i true) a1 w1 →
          ∃ a' w', Q .normal a' w' ∧ ∀ t, (∀ (j : Nat) (o : Oper), ops[j]? = some o → o.dst = some t → listed.getD j true = true) → a'.tmps[t]? = a.tmps[t]? := by
        intro a1 w1 h1 hv
        obtain ⟨a', w', h2, h3⟩ := end_of_any hQ fuel _ _ _ hv
        refine ⟨a', w', h2, fun t ht => ?_⟩
        have hne : oi.dst ≠ some t := fun e => by have := ht i oi hoi e; rw [hnl] at this; cases this
        rw [h3 t (fun j o ho hd => ?_), h1 t hne]
        have h4 := ht j o ho hd
        by_cases hij : i = j
        · subst hij; rw [hnl] at h4; cases h4
        · rw [Array.getD_eq_getD_getElem?, Array.getElem?_setIfInBounds_ne hij, ← Array.getD_eq_getD_getElem?]
          exact h4
      unfold wpOp at hq
      rw [hoi] at hq
      simp only at hq
      split at hq
      · rcases hq with hq | hq
        · unfold Oper.wp at hq
          generalize (execOp a.eval oi).run P w = r at hq
          cases r with
          | ok n w' =>
            cases n <;> simp only [Oper.upon] at hq
            case value v => exact step _ _ (fun t ht => put_tmps_ne ht) hq
            case skip => exact step _ _ (fun t ht => put_tmps_ne ht) hq
            case defer d => exact step _ _ (fun t ht => put_tmps_ne (a := { a with defers := d :: a.defers }) ht) hq
            case enter f args =>
              obtain ⟨e, w'', fr, hR, _⟩ := hq []
              cases e with
              | returned v => exact step _ _ (fun t ht => put_tmps_ne ht) hR
              | panicked c => cases hQ _ _ _ hR
              | outgrown => exact absurd hR hlo
            case row r args =>
              obtain ⟨v, w'', hR, _⟩ := hq default []
              exact step _ _ (fun t ht => put_tmps_ne ht) hR
          | halt x w' =>
            cases x <;> simp only [Oper.upon] at hq
            cases hQ _ _ _ hq
        · exact absurd hq.2 hlo
      · exact step _ _ (fun t ht => put_tmps_ne ht) hq

theorem wpOp_after {ops ops' : Array Oper} {Q : Exit → Act → World → Prop} {i : Nat} {o o' : Oper} (ho : ops[i]? = some o) (ho' : ops'[i]? = some o') (he : o' = { o with after := o'.after })
    (hy : ∀ j : Nat, (ops'[j]?).bind (·.dst) = (ops[j]?).bind (·.dst)) {K K' : Act → World → Prop} (hk : ∀ a w, K a w → K' a w) {a : Act} {w : World} (h : wpOp P ops' Q i K a w) : wpOp P ops Q i K' a w := by
  have h := wpOp_mono hk h
  unfold wpOp at h ⊢
  rw [ho'] at h
  rw [ho]
  simp only at h ⊢
  have e1 : execOp a.eval o' = execOp a.eval o := by rw [he]; rfl
  have e2 : o'.dst = o.dst := by rw [he]
  have e3 : Region.wanted o' (yielded ops' a.tmps) = Region.wanted o (yielded ops a.tmps) := by
    rw [yielded_congr hy]
    have : o'.guard = o.guard := by rw [he]
    unfold Region.wanted
    rw [this]
  rw [e3] at h
  have e4 : ∀ r : Result Next, o'.upon P a K' Q r = o.upon P a K' Q r := fun r => by rw [he]; cases r with
    | ok n w => cases n <;> rfl
    | halt x w => cases x <;> rfl
  unfold Oper.wp Oper.asks at *
  rw [e1, e2, e4] at h
  exact h

theorem wpAny_float {ops ops' : Array Oper} {Q : Exit → Act → World → Prop} (hQ : ∀ e a w, Q e a w → e = .normal) {f : Nat} {of : Oper} (hof : ops[f]? = some of) (hof' : ops'[f]? = some of) (hgf : of.guard = none)
    {txs : List Nat} {R : (Nat → Option Value) → Prop} (hR : ∀ g g' : Nat → Option Value, (∀ t ∈ txs, g t = g' t) → R g → R g')
    (hsame : ∀ (j : Nat) (o' : Oper), ops'[j]? = some o' → ∃ o, ops[j]? = some o ∧ o' = { o with after := o'.after } ∧ (∀ e ∈ o.after, Region.binds .any e = true → e ∈ o'.after) ∧
      (∀ e ∈ o'.after, Region.binds .any e = true → e ∈ o.after ∨ (e.on = f ∧ ∀ x ∈ depsOf of, x ∈ reachFrom ops.toList j (depsOf o))))
    (hsz : ops'.size = ops.size) (hend : ∀ a w, Q .normal a w → R fun t => a.tmps[t]?)
    (hy : ∀ a : Act, (R fun t => a.tmps[t]?) → ∃ v, ∀ w, (execOp a.eval of).run P w = .ok (.value v) w)
    (hwr : ∀ (j : Nat) (o : Oper), ops[j]? = some o → ∀ t ∈ txs, o.dst = some t → j ∈ depsOf of)
    (hfree : ∀ (j : Nat) (oj : Oper), ops[j]? = some oj → j ≠ f → j ∈ depsOf of ∨ f ∈ depsOf oj ∨ of.apart ops oj = true) (hns : Region.noSelect ops = true) :
    ∀ (fuel : Nat) (listed : Array Bool) (a : Act) (w : World), listed.size = ops.size → Closed ops listed → wpAny P .any ops' Q fuel listed a w → wpAny P .any ops Q fuel listed a w := by
  have hsame2 : ∀ (j : Nat) (o : Oper), ops[j]? = some o → ∃ o', ops'[j]? = some o' := fun j o ho => by
    have : j < ops'.size := by
      rw [hsz]
      rcases Nat.lt_or_ge j ops.size with h | h
      · exact h
      · rw [Array.getElem?_eq_none h] at ho; cases ho
    exact ⟨_, Array.getElem?_eq_getElem this⟩
  have hdst : ∀ j : Nat, (ops'[j]?).bind (·.dst) = (ops[j]?).bind (·.dst) := fun j => by
    cases h : ops'[j]? with
    | none =>
      cases h2 : ops[j]? with
      | none => rfl
      | some o => obtain ⟨o', h3⟩ := hsame2 j o h2; rw [h] at h3; cases h3
    | some o' =>
      obtain ⟨o, h2, h3, _⟩ := hsame j o' h
      rw [h2, h3]; rfl
  have hdep : ∀ {o : Oper} {e : Edge}, e ∈ o.after → Region.binds .any e = true → e.on ∈ depsOf o := fun {o e} he hb => by
    unfold depsOf
    exact List.mem_map.2 ⟨e, List.mem_filter.2 ⟨by simpa using he, hb⟩, rfl⟩
  -- what is ready there is ready here
  have down : ∀ listed : Array Bool, ∀ j, j ∈ Region.ready .any ops' listed → j ∈ Region.ready .any ops listed := fun listed j hj => by
    obtain ⟨h1, o', h2, h3⟩ := mem_ready.1 hj
    obtain ⟨o, h4, h5, h6, _⟩ := hsame j o' h2
    exact mem_ready.2 ⟨h1, o, h4, fun e he hb => h3 e (h6 e he hb) hb⟩
  -- and the other way round, where the operation is not waited for
  have up : ∀ listed : Array Bool, listed.size = ops.size → Closed ops listed → (f ∈ Region.ready .any ops listed → False) → ∀ j, j ∈ Region.ready .any ops listed → j ∈ Region.ready .any ops' listed := fun listed hszl hc hnf j hj => by
    obtain ⟨h1, o, h2, h3⟩ := mem_ready.1 hj
    obtain ⟨o', h4⟩ := hsame2 j o h2
    obtain ⟨o1, h5, h6, h7, h8⟩ := hsame j o' h4
    rw [h2] at h5; cases h5
    refine mem_ready.2 ⟨h1, o', h4, fun e he hb => ?_⟩
    rcases h8 e he hb with h9 | ⟨h9, h10⟩
    · exact h3 e h9 hb
    · rw [h9]
      cases h : listed.getD f false with
      | true => rfl
      | false =>
        exfalso
        have hf : f < listed.size := by
          rw [hszl]
          rcases Nat.lt_or_ge f ops.size with h | h
          · exact h
          · rw [Array.getElem?_eq_none h] at hof; cases hof
        exact hnf (mem_ready.2 ⟨by rw [getD_true_false hf]; exact h, of, hof, fun e' he' hb' => anc_listed hc h2 hj _ (h10 _ (hdep he' hb'))⟩)
  have upf : ∀ listed : Array Bool, f ∈ Region.ready .any ops listed → f ∈ Region.ready .any ops' listed := fun listed hj => by
    obtain ⟨h1, o, h2, h3⟩ := mem_ready.1 hj
    rw [hof] at h2; cases h2
    exact mem_ready.2 ⟨h1, of, hof', h3⟩
  have hlo : ¬ LetsOut Q := fun ⟨a, w, h⟩ => by cases hQ _ _ _ h
  intro fuel
  induction fuel with
  | zero =>
    intro listed a w hs hc h
    refine ⟨?_, h.2⟩
    apply List.eq_nil_iff_forall_not_mem.2
    intro j hj
    by_cases hf : f ∈ Region.ready .any ops listed
    · have := upf listed hf
      rw [h.1] at this; cases this
    · have := up listed hs hc (fun h => hf h) j hj
      rw [h.1] at this; cases this
  | succ fuel ih =>
    intro listed a w hs hc h
    by_cases hf : f ∈ Region.ready .any ops listed
    · have hf' := upf listed hf
      have hdl : ∀ j ∈ depsOf of, listed.getD j true = true := fun j hj => by
        obtain ⟨e, he, hb, rfl⟩ := depsOf_mem hj
        obtain ⟨_, o, h2, h3⟩ := mem_ready.1 hf
        rw [hof] at h2; cases h2
        have := h3 e he hb
        have hlt : e.on < listed.size := by
          rcases Nat.lt_or_ge e.on listed.size with h | h
          · exact h
          · rw [Array.getD_eq_getD_getElem?, Array.getElem?_eq_none h] at this; cases this
        rw [getD_true_false hlt]; exact this
      obtain ⟨a', w', h1, h2⟩ := end_of_any hQ _ _ _ _ h
      obtain ⟨v0, hv0⟩ := hy a (hR _ _ (fun t ht => h2 t (fun j o' ho' hd => by
        obtain ⟨o, h5, h6, _⟩ := hsame j o' ho'
        exact hdl j (hwr j o h5 t ht (by rw [h6] at hd; exact hd)))) (hend a' w' h1))
      have hwt : ∀ ops : Array Oper, Region.wanted of (yielded ops a.tmps) = true := fun _ => by simp [Region.wanted, hgf]
      have hq := h.2 f hf'
      unfold wpOp at hq
      rw [hof'] at hq
      simp only at hq
      rw [if_pos (hwt ops')] at hq
      rcases hq with hq | hq
      · unfold Oper.wp at hq
        rw [hv0 w] at hq
        refine wpAny_first hof (fun j o cs b ho => Region.noSelect_spec hns j o cs b ho) (fun c a w h => by cases hQ _ _ _ h) fuel listed a w (fun j oj hoj hj hl hne => ?_) hf (.inl ⟨hwt ops, hv0⟩) (ih _ _ _ (by simpa using hs) (hc.set hf) hq)
        rcases hfree j oj hoj hj with h | h | h
        · rw [hdl j h] at hl; cases hl
        · obtain ⟨e, he, hb, h7⟩ := depsOf_mem h
          exact absurd h7 (hne e he hb)
        · exact h
      · exact absurd hq.2 hlo
    · refine ⟨fun h0 => h.1 ?_, fun i hi => ?_⟩
      · apply List.eq_nil_iff_forall_not_mem.2
        intro j hj
        have := down listed j hj
        rw [h0] at this; cases this
      · have hi' := up listed hs hc (fun h => hf h) i hi
        obtain ⟨_, o, h2, _⟩ := mem_ready.1 hi
        obtain ⟨o', h4⟩ := hsame2 i o h2
        obtain ⟨o1, h5, h6, _⟩ := hsame i o' h4
        rw [h2] at h5; cases h5
        exact wpOp_after h2 h4 h6 hdst (fun a w h => ih _ a w (by simpa using hs) (hc.set hi) h) (h.2 i hi')
end
end Go.Sx

namespace Go.Sx
open Go.RowKit
section
variable {P : Program} {I : World → Prop} {S : Sigs} {F : FEnv} {E : Env} {gK : Nat} {ν : Nat → DV}

theorem evOpers_quiet (hS : SigsOK P I gK S F) (hE : E.Ok gK) (hn0 : S.n0 = E.n0) (hI : ∀ w, Fr E.W E.w0 w → I w) {ops : Array Oper} : ∀ (l : List Oper) (r : RS), M.sat F ν (evOpers P S true ops.toList l r) (fun r' => r'.st.hp = r.st.hp ∧
    ∀ ρ a, ARel ν ρ r a → (∃ w, HS E ν ρ r.st.hp w) → ∀ C : World → Prop, C = (fun w => HS E ν ρ r.st.hp w) →
    ∀ Q : Act → Prop, (∀ a', ARel ν ρ r' a' → Q a') → wpQuiet P ops C Q l a)
  | [], r => sat_pure ⟨rfl, fun ρ a h _ C _ Q hQ => hQ a h⟩
  | o :: l, r => by
    unfold evOpers
    refine sat_bind (evOper_sat (E := E) hS hE hn0 hI true) fun r1 h1 => sat_mono (evOpers_quiet hS hE hn0 hI l r1) fun r' h2 => ?_
    have h1 := h1.2 rfl
    refine ⟨h2.1.trans h1.1, fun ρ a ha hex C hC Q hQ => ?_⟩
    have := h1.2 ρ a ha hex C hC
    simp only [wpQuiet]
    split
    · rename_i hw
      rw [if_pos hw] at this
      obtain ⟨v, h3, h4⟩ := this
      exact ⟨v, h3, h2.2 ρ _ h4 (by rw [h1.1]; exact hex) C (by rw [h1.1]; exact hC) Q hQ⟩
    · rename_i hw
      rw [if_neg hw] at this
      exact h2.2 ρ _ this (by rw [h1.1]; exact hex) C (by rw [h1.1]; exact hC) Q hQ

theorem HS.drawn {ρ : Nat → Loc} {hp : List (Option Blk)} {w : World} (h : HS E ν ρ hp w) : HS E ν ρ hp { w with drawn := w.drawn + 1 } :=
  h.of_below ⟨rfl, rfl, rfl, Nat.le_refl _, fun _ _ => rfl⟩

theorem backB_ok {ops : List Oper} (h : backB ops = true) : BackOk .any ops.toArray := backB_ok' h

theorem tailB_ok {ops : List Oper} {n : Nat} (h : tailB ops n = true) : ∀ i, n ≤ i → ∀ o, ops[i]? = some o → ∀ j, j < i → ∃ e ∈ o.after, Region.binds .any e = true ∧ e.on = j := by
  intro i hi o ho j hj
  have hm : (o, i) ∈ ops.zipIdx.drop n := by
    rw [List.mem_iff_getElem?]
    refine ⟨i - n, ?_⟩
    rw [List.getElem?_drop, show n + (i - n) = i from by omega, List.getElem?_zipIdx, ho]
    simp
  have := List.all_eq_true.1 h _ hm
  have := List.all_eq_true.1 this j (List.mem_range.2 hj)
  obtain ⟨e, he, h2⟩ := Array.any_eq_true'.1 this
  simp only [Bool.and_eq_true] at h2
  exact ⟨e, he, h2.1, Nat.eq_of_beq_eq_true h2.2⟩

theorem sat_orElse {α : Type} {x y : M α} {Q : α → Prop} (hx : M.sat F ν x Q) (hy : M.sat F ν y Q) : M.sat F ν (x.orElse' y) Q := by
  intro n a n' e d h1 h2 h3
  unfold M.orElse' at h1
  cases h : x n with
  | some r => rw [h] at h1; exact hx n a n' e d (by rw [h]; exact h1) h2 h3
  | none => rw [h] at h1; exact hy n a n' e d h1 h2 h3

theorem evRegionB_sat (hS : SigsOK P I gK S F) (hE : E.Ok gK) (hn0 : S.n0 = E.n0) (hI : ∀ w, Fr E.W E.w0 w → I w) {ops : Array Oper} {s : St} : M.sat F ν (evRegionB P S ops s) (fun s' => P.follows .mixedOrders = true ∧ ∀ ρ a w, RR ν E ρ ⟨s, []⟩ a w →
    ∀ Q : Exit → Act → World → Prop, (∀ ρ' a' w', RR ν E ρ' ⟨s', []⟩ a' w' → Q .normal a' w') → wpAny P .any ops Q ops.size (Array.replicate ops.size false) a w) := by
  unfold evRegionB
  refine sat_ite (fun hc => ?_) (fun _ => sat_fail)
  simp only [Bool.and_eq_true] at hc
  refine sat_mono (evMany_sat (E := E) hS hE hn0 hI (List.takeWhile_prefix _).length_le hc.1) fun s' hs' => ⟨hc.2, fun ρ a w hrr Q hQ => hs' ρ a w hrr Q hQ⟩

theorem evRegionA_sat (hS : SigsOK P I gK S F) (hE : E.Ok gK) (hn0 : S.n0 = E.n0) (hI : ∀ w, Fr E.W E.w0 w → I w) {ops : Array Oper} {s : St} : M.sat F ν (evRegionA P S ops s) (fun s' => P.follows .mixedOrders = true ∧ ∀ ρ a w, RR ν E ρ ⟨s, []⟩ a w →
    ∀ Q : Exit → Act → World → Prop, (∀ ρ' a' w', RR ν E ρ' ⟨s', []⟩ a' w' → Q .normal a' w') → wpAny P .any ops Q ops.size (Array.replicate ops.size false) a w) := by
  unfold evRegionA
  dsimp only
  generalize hn : (ops.toList.takeWhile fun o => quietOp o.op).length = n
  refine sat_ite (fun hc => ?_) (fun _ => sat_ite (fun hmx => ?_) (fun _ => sat_fail))
  rotate_left
  · simp only [Bool.and_eq_true] at hmx
    obtain ⟨⟨⟨hmx, hm⟩, hB⟩, hback⟩ := hmx
    refine sat_mono (evMixed_sat (E := E) hS hE hI hmx hB hback) fun s' hs' => ⟨hm, fun ρ a w hrr Q hQ => hs' ρ a w hrr Q hQ⟩
  simp only [Bool.and_eq_true] at hc
  obtain ⟨hB, htail⟩ := hc
  refine sat_ite (fun hc => ?_) (fun _ => sat_fail)
  simp only [Bool.and_eq_true] at hc
  obtain ⟨hm, hback⟩ := hc
  have hq := evOpers_quiet (E := E) (ν := ν) hS hE hn0 hI (ops := (ops.toList.take n).toArray) (ops.toList.take n) ⟨s, []⟩
  simp only at hq
  refine sat_bind hq fun r hr => ?_
  refine sat_bind (evOpers_list (E := E) hS hE hn0 hI (ops.toList.drop n) r) fun r2 hr2 => sat_pure ⟨hm, fun ρ a w hrr Q hQ => ?_⟩
  have hbk : BackOk .any ops := by have := backB_ok hback; simpa using this
  refine wpAny_tails hbk (ops.toList.drop n) (ops.toList.take n).toArray (by simp) (fun i hi o ho j hj => ?_) a w ?_
  · have hlen : (ops.toList.take n).toArray.size = n := by
      have : n ≤ ops.toList.length := by
        rw [← hn]
        exact (List.takeWhile_prefix _).length_le
      simp at this ⊢
      omega
    exact tailB_ok htail i (by omega) o (by simpa using ho) j hj
  · have hhp : r.st.hp = s.hp := hr.1
    simp only [Region.lexB, Bool.and_eq_true] at hB
    refine wpAny_of_quiet (C := fun w => HS E ν ρ s.hp w) (Q := fun a' => ∀ w', (HS E ν ρ s.hp w') → wpList P ops Q (ops.toList.drop n) a' w') (fun _ w' hw' h => h w' hw') _ _ _ _ hrr.hs ?_
    have hqq := hr.2 ρ a hrr.act ⟨w, hrr.hs⟩ _ rfl (fun a' => ∀ w', (HS E ν ρ s.hp w') → wpList P ops Q (ops.toList.drop n) a' w') (fun a' ha' w' hw' =>
      hr2 ρ a' w' ⟨ha', by rw [hhp]; exact hw'⟩ Q fun ρ' a'' w'' h' => hQ ρ' a'' w'' h'.drop)
    have := wpAnyQ_lex (P := P) (C := fun w => HS E ν ρ s.hp w) (md := .any) hB.1 (ops.toList.take n) 0 (Array.replicate (ops.toList.take n).toArray.size false) a (by simp) (by simpa using hB.2) hqq
    simpa using this


theorem waitFor_get {ops : List Oper} {f : Nat} {df : List Nat} {j : Nat} {o' : Oper} (h : (waitFor ops f df)[j]? = some o') : ∃ o, ops[j]? = some o ∧ o' = (if waitsToo ops f df (o, j) then { o with after := o.after.push ⟨f, .chain⟩ } else o) := by
  unfold waitFor at h
  rw [List.getElem?_map, List.getElem?_zipIdx] at h
  cases ho : ops[j]? with
  | none => rw [ho] at h; cases h
  | some o =>
    rw [ho] at h
    simp only [Option.map_some, Nat.zero_add, Option.some.injEq] at h
    exact ⟨o, rfl, h.symm⟩
theorem sub1_mem {l m : List Nat} (h : sub1 l m = true) : ∀ x ∈ l, x ∈ m := fun x hx => memN_mem (List.all_eq_true.1 h x hx)
theorem kindOf_tmp {ρ : Nat → Loc} {r : RS} {a : Act} (h : ARel ν ρ r a) {t : Nat} {k : IntKind} (hk : kindOf r.st.sl (.tmp t) = some k) : ∃ n, a.tmps[t]? = some (.int k n) := by
  unfold kindOf at hk
  simp only at hk
  split at hk
  · rename_i k' l hn
    cases hk
    exact ⟨_, (h.slot t _ hn).2⟩
  · cases hk
theorem kindOf_eval {sl : List (Option V)} {a : Act} {x : Operand} {k : IntKind} (hk : kindOf sl x = some k) (ht : ∀ t, x = .tmp t → ∃ n, a.tmps[t]? = some (.int k n)) : ∃ n, a.eval x = .int k n := by
  cases x with
  | tmp t =>
    obtain ⟨n, h⟩ := ht t rfl
    exact ⟨n, by show a.tmps.getD t undef = _; rw [Array.getD_eq_getD_getElem?, h]; rfl⟩
  | const v =>
    unfold kindOf at hk
    cases v with
    | int k' n => cases hk; exact ⟨n, rfl⟩
    | _ => cases hk
  | _ => cases hk
theorem floatRun {o : Oper} {ts : List Nat} (hf : floatOp o = some ts) {a : Act} {k : IntKind} (hx : ∀ op t x y u, o.op = .binOp op t x y u → (∃ n, a.eval x = .int k n) ∧ ∃ n, a.eval y = .int k n) : ∃ v, ∀ w, (execOp a.eval o).run P w = .ok (.value v) w := by
  obtain ⟨dst, op, ty, pos, after, guard⟩ := o
  unfold floatOp at hf
  split at hf
  · rename_i op' t x y u hg ho
    simp only at hg ho
    subst hg ho
    obtain ⟨⟨n, h1⟩, ⟨m, h2⟩⟩ := hx op' t x y u rfl
    split at hf
    · exact ⟨.int k (k.wrap (n + m)), fun w => by simp [execOp, h1, h2, eqGuard, binOp, Op.intArith]⟩
    · exact ⟨.int k (k.wrap (n - m)), fun w => by simp [execOp, h1, h2, eqGuard, binOp, Op.intArith]⟩
    · exact ⟨.int k (k.wrap (n * m)), fun w => by simp [execOp, h1, h2, eqGuard, binOp, Op.intArith]⟩
    · cases hf
  · cases hf
theorem evRegionC_sat (hS : SigsOK P I gK S F) (hE : E.Ok gK) (hn0 : S.n0 = E.n0) (hI : ∀ w, Fr E.W E.w0 w → I w) {s : St} : ∀ (n : Nat) (ops : List Oper), M.sat F ν (evRegionC P S n ops s) (fun s' => P.follows .mixedOrders = true ∧ ∀ ρ a w, RR ν E ρ ⟨s, []⟩ a w →
    ∀ Q : Exit → Act → World → Prop, (∀ ρ' a' w', RR ν E ρ' ⟨s', []⟩ a' w' → Q .normal a' w') → wpAny P .any ops.toArray Q ops.toArray.size (Array.replicate ops.toArray.size false) a w)
  | 0, ops => sat_orElse (evRegionA_sat hS hE hn0 hI) (evRegionB_sat hS hE hn0 hI)
  | n + 1, ops => by
    unfold evRegionC
    refine sat_orElse (sat_orElse (evRegionA_sat hS hE hn0 hI) (evRegionB_sat hS hE hn0 hI)) ?_
    split
    · exact sat_fail
    · rename_i o f rest hfl
      split
      · rename_i ts hts
        refine sat_ite (fun hc => ?_) (fun _ => sat_fail)
        simp only [Bool.and_eq_true] at hc
        obtain ⟨⟨hok, hns⟩, hback⟩ := hc
        refine sat_bind (evRegionC_sat hS hE hn0 hI n (waitFor ops f (depsOf o))) fun s' hs' => sat_ite (fun hk => sat_pure ⟨hs'.1, fun ρ a w hrr Q hQ => ?_⟩) (fun _ => sat_fail)
        have hmem : (o, f) ∈ ops.zipIdx := by
          have : (o, f) ∈ floats ops := by rw [hfl]; simp
          exact (List.mem_filter.1 this).1
        have hof : ops[f]? = some o := by
          have := List.mem_zipIdx_iff_getElem?.1 hmem
          simpa using this
        have hsz : (waitFor ops f (depsOf o)).toArray.size = ops.toArray.size := by simp [waitFor]
        have hw := hs'.2 ρ a w hrr (fun e a' w' => e = .normal ∧ Q .normal a' w' ∧ ∃ ρ', RR ν E ρ' ⟨s', []⟩ a' w') (fun ρ' a' w' h => ⟨rfl, hQ ρ' a' w' h, ρ', h⟩)
        have hgn : o.guard = none := by
          unfold floatOp at hts
          split at hts
          · assumption
          · cases hts
        have hall : ∀ (j : Nat) (oj : Oper), ops[j]? = some oj → (dstIn ts oj = true → j ∈ depsOf o) ∧ (j ≠ f → j ∈ depsOf o ∨ f ∈ depsOf oj ∨ o.apart ops.toArray oj = true) := fun j oj hj => by
          have hm : (oj, j) ∈ ops.zipIdx := List.mem_zipIdx_iff_getElem?.2 (by simpa using hj)
          have := List.all_eq_true.1 hok _ hm
          simp only [Bool.and_eq_true, Bool.or_eq_true, Bool.not_eq_true'] at this
          refine ⟨fun hd => ?_, fun hne => ?_⟩
          · rcases this.1 with h | h
            · rw [hd] at h; cases h
            · exact memN_mem h
          · rcases this.2 with ((h | h) | h) | h
            · exact absurd (Nat.eq_of_beq_eq_true h) hne
            · exact .inl (memN_mem h)
            · exact .inr (.inl (memN_mem h))
            · exact .inr (.inr h)
        have hin : ∀ t ∈ ts, memN t ts = true := fun t ht => by
          clear hts hall hok
          induction ts with
          | nil => cases ht
          | cons x l ih =>
            simp only [memN, Bool.or_eq_true]
            rcases List.mem_cons.1 ht with rfl | h
            · exact .inl (Nat.beq_refl _)
            · exact .inr (ih h)
        rw [hsz] at hw
        refine wpAny_mono (Q := fun e a' w' => e = .normal ∧ Q .normal a' w' ∧ ∃ ρ', RR ν E ρ' ⟨s', []⟩ a' w') (fun e a' w' h => by rw [h.1]; exact h.2.1) _ _ _ _ ?_
        unfold floatKinds at hk
        split at hk
        · rename_i op t x y u hop
          split at hk
          · rename_i k k' hx hy
            have hkk : k = k' := kEq_eq hk
            subst hkk
            have hts2 : ∀ t', (x = .tmp t' ∨ y = .tmp t') → t' ∈ ts := fun t' h => by
              unfold floatOp at hts
              rw [hop, hgn] at hts
              simp only at hts
              split at hts
              case h_4 => cases hts
              all_goals
                split at hts
                · rename_i l m h1 h2
                  cases hts
                  rcases h with rfl | rfl
                  · unfold intOf at h1; cases h1; simp
                  · unfold intOf at h2; cases h2; simp
                · cases hts
            refine wpAny_float (fun e a w h => h.1) (f := f) (of := o) (by simpa using hof) ?_ hgn (txs := ts) (R := fun g => (∀ t, x = .tmp t → ∃ n, g t = some (.int k n)) ∧ ∀ t, y = .tmp t → ∃ n, g t = some (.int k n)) ?_ ?_ hsz ?_ ?_ ?_ ?_ hns _ _ a w (by simp) (closed_none _ _) hw
            · have : (waitFor ops f (depsOf o))[f]? = some o := by
                unfold waitFor
                rw [List.getElem?_map, List.getElem?_zipIdx, hof]
                have : Nat.blt f f = false := by rw [← Bool.not_eq_true, Nat.blt_eq]; omega
                simp [waitsToo]
              simpa using this
            · rintro g g' hg ⟨h1, h2⟩
              exact ⟨fun t ht => by rw [← hg t (hts2 t (.inl ht))]; exact h1 t ht, fun t ht => by rw [← hg t (hts2 t (.inr ht))]; exact h2 t ht⟩
            · intro j o' ho'
              obtain ⟨oj, h1, h2⟩ := waitFor_get (ops := ops) (f := f) (df := depsOf o) (j := j) (by simpa using ho')
              refine ⟨oj, by simpa using h1, ?_, ?_, ?_⟩
              · rw [h2]; split <;> rfl
              · intro e he _
                rw [h2]; split
                · simp [he]
                · exact he
              · intro e he _
                rw [h2] at he
                split at he
                · rename_i hw2
                  simp only [Array.mem_push] at he
                  rcases he with he | he
                  · exact .inl he
                  · refine .inr ⟨by rw [he], fun z hz => ?_⟩
                    unfold waitsToo at hw2
                    simp only [Bool.and_eq_true] at hw2
                    exact sub1_mem hw2.2 z hz
                · exact .inl he
            · rintro a' w' ⟨_, _, ρ', hr'⟩
              exact ⟨fun t ht => kindOf_tmp hr'.act (by rw [← ht]; exact hx), fun t ht => kindOf_tmp hr'.act (by rw [← ht]; exact hy)⟩
            · rintro a' ⟨h1, h2⟩
              exact floatRun hts (k := k) fun op' t' x' y' u' he => by
                rw [hop] at he
                cases he
                exact ⟨kindOf_eval hx h1, kindOf_eval hy h2⟩
            · intro j oj hj t ht hd
              exact (hall j oj (by simpa using hj)).1 (by unfold dstIn; rw [hd]; exact hin t ht)
            · intro j oj hj hne
              exact (hall j oj (by simpa using hj)).2 hne
          · cases hk
        · cases hk
      · exact sat_fail

theorem evRegion_sat (hS : SigsOK P I gK S F) (hE : E.Ok gK) (hn0 : S.n0 = E.n0) (hI : ∀ w, Fr E.W E.w0 w → I w) {ops : Array Oper} {draw : Bool} {s : St} {id : Nat} : M.sat F ν (evRegion P S ops draw s) (fun s' => ∀ ρ a w, RR ν E ρ ⟨s, []⟩ a w →
    ∀ Q : Exit → Act → World → Prop, (∀ ρ' a' w', RR ν E ρ' ⟨s', []⟩ a' w' → Q .normal a' w') → (Code.region id ops draw).wp P Q a w) := by
  unfold evRegion
  cases draw
  · simp only [Bool.false_eq_true, if_false]
    refine sat_bind (evOpers_list (E := E) hS hE hn0 hI ops.toList ⟨s, []⟩) fun r hr => sat_pure fun ρ a w hrr Q hQ => ?_
    exact wp_region_list (hr ρ a w hrr Q fun ρ' a' w' h' => hQ ρ' a' w' h'.drop)
  · simp only [if_true]
    refine sat_mono (evRegionC_sat hS hE hn0 hI ops.toList.length ops.toList) fun s' hs' ρ a w hrr Q hQ => ?_
    have := hs'.2 ρ a _ ⟨hrr.act, hrr.hs.drawn⟩ Q hQ
    exact wp_region_any hs'.1 (by simpa using this)

def K.is : K → Exit → Prop
  | .normal, .normal => True
  | .ret, .ret => True
  | .exit i, .exit j => i = j
  | .goto i, .goto j => i = j
  | _, _ => False

def X.sel (ν : Nat → DV) : X → K × St
  | .done k s => (k, s)
  | .br c x y => if c.bool ν then x.sel ν else y.sel ν

def XPost (ν : Nat → DV) (E : Env) (x : X) : Exit → Act → World → Prop := fun e a w => (x.sel ν).1.is e ∧ ∃ ρ, RR ν E ρ ⟨(x.sel ν).2, []⟩ a w

theorem nCond_sat : ∀ (x : X), M.sat F ν x.nCond (fun c => c.bool ν = (x.sel ν).1.isNormal)
  | .done k s => sat_pure rfl
  | .br c x y => by
    unfold X.nCond
    refine sat_bind (nCond_sat x) fun a ha => sat_bind (nCond_sat y) fun b hb => sat_mono mkIteB_sat fun r hr => ?_
    rw [hr, ha, hb]
    simp only [X.sel]
    cases c.bool ν <;> simp

theorem mergeSt_sat {c : A} {x y : St} : M.sat F ν (mergeSt E.n0 c x y) (fun s => ∀ ρ a w, (c.bool ν = true → RR ν E ρ ⟨x, []⟩ a w → ∃ ρ', RR ν E ρ' ⟨s, []⟩ a w) ∧
    (c.bool ν = false → RR ν E ρ ⟨y, []⟩ a w → ∃ ρ', RR ν E ρ' ⟨s, []⟩ a w)) :=
  sat_mono (mergeSt_sat2 (Nat.le_refl _)) fun _ h ρ a w => ⟨fun hc hr => let ⟨ρ', _, h2⟩ := (h ρ a w).1 hc hr; ⟨ρ', h2⟩, fun hc hr => let ⟨ρ', _, h2⟩ := (h ρ a w).2 hc hr; ⟨ρ', h2⟩⟩

def LoopRun (P : Program) (c : Code) (Q : Exit → Act → World → Prop) (a : Act) (w : World) : Prop :=
  ∀ (b : Frame) (k : List Item) (cs : List Frame), ∃ e a' w', Q e a' w' ∧ Arrives P (lone (b.at a (.code c :: .inLoop c :: k)) cs w) b k cs e a' w'

theorem LoopRun.step {P : Program} {c : Code} {Q : Exit → Act → World → Prop} {a : Act} {w : World} (h : c.wp P (Exit.then (LoopRun P c Q) Q) a w) : LoopRun P c Q a w := by
  intro b k cs
  obtain ⟨e, a₁, w₁, hq, harr⟩ := h b (.inLoop c :: k) cs
  cases e with
  | normal =>
    obtain ⟨e₂, a₂, w₂, hq₂, harr₂⟩ := hq b k cs
    exact ⟨e₂, a₂, w₂, hq₂, .of_steps (Steps.trans harr (.one step_inLoop)) harr₂⟩
  | exit id => exact ⟨_, a₁, w₁, hq, .pass (x := .inLoop c) rfl (fun _ _ => .inl (by simp)) harr⟩
  | goto l => exact ⟨_, a₁, w₁, hq, .pass (x := .inLoop c) rfl (fun _ _ => .inl (by simp)) harr⟩
  | ret => exact ⟨_, a₁, w₁, hq, .pass (x := .inLoop c) rfl (fun _ _ => .inl (by simp)) harr⟩
  | panic ch => exact ⟨_, a₁, w₁, hq, .pass (x := .inLoop c) rfl (fun _ _ => .inl (by simp)) harr⟩
  | outgrown => exact ⟨_, a₁, w₁, hq, .pass (x := .inLoop c) rfl (fun _ _ => .inl (by simp)) harr⟩
theorem LoopRun.wp {P : Program} {c : Code} {Q : Exit → Act → World → Prop} {a : Act} {w : World} (h : LoopRun P c Q a w) : (Code.loop c).wp P Q a w := by
  intro b k cs
  obtain ⟨e, a', w', hq, harr⟩ := h b k cs
  exact ⟨e, a', w', hq, .of_steps (.one step_loop) harr⟩
theorem LoopRun.mono {P : Program} {c : Code} {Q Q' : Exit → Act → World → Prop} {a : Act} {w : World} (hq : ∀ e a w, Q e a w → Q' e a w) (h : LoopRun P c Q a w) : LoopRun P c Q' a w :=
  fun b k cs => let ⟨e, a', w', q, r⟩ := h b k cs; ⟨e, a', w', hq _ _ _ q, r⟩

theorem nSt_sat : ∀ (x : X), M.sat F ν (x.nSt E.n0) (fun o => (x.sel ν).1.isNormal = true → ∃ s, o = some s ∧ ∀ ρ a w, RR ν E ρ ⟨(x.sel ν).2, []⟩ a w → ∃ ρ', RR ν E ρ' ⟨s, []⟩ a w)
  | .done k s => by
    refine sat_pure fun h => ?_
    simp only [X.sel] at h ⊢
    exact ⟨s, by simp [h], fun ρ a w h => ⟨ρ, h⟩⟩
  | .br c x y => by
    unfold X.nSt
    refine sat_bind (nSt_sat x) fun ox hx => sat_bind (nSt_sat y) fun oy hy => ?_
    split
    · rename_i a b
      refine sat_bind (mergeSt_sat (E := E)) fun s hs => sat_pure fun h => ⟨s, rfl, fun ρ act w hr => ?_⟩
      simp only [X.sel] at h hr
      by_cases hc : c.bool ν = true
      · simp only [hc, if_true] at h hr
        obtain ⟨s', hs', h2⟩ := hx h
        cases hs'
        obtain ⟨ρ', h3⟩ := h2 ρ act w hr
        exact (hs ρ' act w).1 hc h3
      · simp only [hc] at h hr
        obtain ⟨s', hs', h2⟩ := hy h
        cases hs'
        obtain ⟨ρ', h3⟩ := h2 ρ act w hr
        exact (hs ρ' act w).2 (by simpa using hc) h3
    · rename_i a
      refine sat_pure fun h => ?_
      simp only [X.sel] at h ⊢
      by_cases hc : c.bool ν = true
      · simp only [hc, if_true] at h ⊢
        exact hx h
      · simp only [hc] at h ⊢
        obtain ⟨s', hs', _⟩ := hy h
        cases hs'
    · rename_i b
      refine sat_pure fun h => ?_
      simp only [X.sel] at h ⊢
      by_cases hc : c.bool ν = true
      · simp only [hc, if_true] at h ⊢
        obtain ⟨s', hs', _⟩ := hx h
        cases hs'
      · simp only [hc] at h ⊢
        exact hy h
    · refine sat_pure fun h => ?_
      simp only [X.sel] at h
      by_cases hc : c.bool ν = true
      · simp only [hc, if_true] at h
        obtain ⟨s', hs', _⟩ := hx h
        cases hs'
      · simp only [hc] at h
        obtain ⟨s', hs', _⟩ := hy h
        cases hs'

theorem kill_spec : ∀ (x : X), (x.sel ν).1.isNormal = false → ∃ z, x.kill = some z ∧ z.sel ν = x.sel ν
  | .done k s, h => by
    simp only [X.sel] at h
    exact ⟨.done k s, by simp [X.kill, h], rfl⟩
  | .br c x y, h => by
    simp only [X.sel] at h
    by_cases hc : c.bool ν = true
    · simp only [hc, if_true] at h
      obtain ⟨z, h1, h2⟩ := kill_spec x h
      cases hy : y.kill with
      | none => exact ⟨z, by simp [X.kill, h1, hy], by simp [X.sel, hc, h2]⟩
      | some z' => exact ⟨.br c z z', by simp [X.kill, h1, hy], by simp [X.sel, hc, h2]⟩
    · simp only [hc] at h
      obtain ⟨z, h1, h2⟩ := kill_spec y h
      cases hx : x.kill with
      | none => exact ⟨z, by simp [X.kill, h1, hx], by simp [X.sel, hc, h2]⟩
      | some z' => exact ⟨.br c z' z, by simp [X.kill, h1, hx], by simp [X.sel, hc, h2]⟩

theorem K.is_normal {k : K} {e : Exit} (h : k.is e) (hn : k.isNormal = true) : e = .normal := by
  cases k <;> cases e <;> simp [K.is, K.isNormal] at h hn ⊢
theorem K.is_not {k : K} {e : Exit} (h : k.is e) (hn : k.isNormal = false) : e ≠ .normal := by
  cases k <;> cases e <;> simp [K.is, K.isNormal] at h hn ⊢

theorem andThen_sat {x : X} {f : St → M X} {_G : X → Prop} {N : (Exit → Act → World → Prop) → Act → World → Prop}
    (hf : ∀ s, M.sat F ν (f s) (fun y => ∀ ρ a w, RR ν E ρ ⟨s, []⟩ a w → N (XPost ν E y) a w))
    (hN : ∀ (Q Q' : Exit → Act → World → Prop) a w, (∀ e a w, Q e a w → Q' e a w) → N Q a w → N Q' a w) :
    M.sat F ν (x.andThen E.n0 f) (fun z => ∀ e a w, XPost ν E x e a w → Exit.then (N (XPost ν E z)) (XPost ν E z) e a w) := by
  unfold X.andThen
  refine sat_bind (nCond_sat x) fun c hc => sat_bind (nSt_sat (E := E) x) fun o ho => ?_
  split
  · refine sat_pure fun e a w hp => ?_
    obtain ⟨hk, ρ, hr⟩ := hp
    cases hn : (x.sel ν).1.isNormal with
    | true => obtain ⟨s, hs, _⟩ := ho hn; cases hs
    | false =>
      have := K.is_not hk hn
      cases e <;> first | exact absurd rfl this | exact ⟨hk, ρ, hr⟩
  · rename_i s
    have hnorm : ∀ e a w, XPost ν E x e a w → (x.sel ν).1.isNormal = true → e = .normal ∧ ∃ ρ, RR ν E ρ ⟨s, []⟩ a w := fun e a w hp hn => by
      obtain ⟨hk, ρ, hr⟩ := hp
      obtain ⟨s', hs', h2⟩ := ho hn
      cases hs'
      exact ⟨K.is_normal hk hn, h2 ρ a w hr⟩
    split
    · rename_i hkill
      refine sat_mono (hf s) fun y hy e a w hp => ?_
      have hn : (x.sel ν).1.isNormal = true := by
        cases hn : (x.sel ν).1.isNormal with
        | true => rfl
        | false => obtain ⟨z, hz, _⟩ := kill_spec x hn; rw [hkill] at hz; cases hz
      obtain ⟨rfl, ρ, hr⟩ := hnorm e a w hp hn
      exact hy ρ a w hr
    · rename_i z hz
      split
      · refine sat_mono (hf s) fun y hy e a w hp => ?_
        have hn : (x.sel ν).1.isNormal = true := by rw [← hc]
        obtain ⟨rfl, ρ, hr⟩ := hnorm e a w hp hn
        exact hy ρ a w hr
      · refine sat_bind (sat_under (hf s)) fun y hy => sat_pure fun e a w hp => ?_
        cases hn : (x.sel ν).1.isNormal with
        | true =>
          obtain ⟨rfl, ρ, hr⟩ := hnorm e a w hp hn
          have hct : c.bool ν = true := by rw [hc, hn]
          refine hN (XPost ν E y) _ a w (fun e a w h => ?_) (hy hct ρ a w hr)
          unfold XPost at h ⊢
          simp only [X.sel, hct, if_true]
          exact h
        | false =>
          obtain ⟨hk, ρ, hr⟩ := hp
          have hne := K.is_not hk hn
          have hcf : c.bool ν = false := by rw [hc, hn]
          obtain ⟨z', hz', hsel⟩ := kill_spec x hn
          rw [hz] at hz'
          cases hz'
          have hpost : XPost ν E (.br c y z) e a w := by
            unfold XPost
            simp only [X.sel, hcf, Bool.false_eq_true, if_false, hsel]
            exact ⟨hk, ρ, hr⟩
          cases e <;> first | exact absurd rfl hne | exact hpost

theorem inBlock_sel (id : Nat) : ∀ (x : X), (x.inBlock id).sel ν = ((x.sel ν).1.inBlock id, (x.sel ν).2)
  | .done k s => rfl
  | .br c x y => by
    simp only [X.inBlock, X.sel, inBlock_sel id x, inBlock_sel id y]
    split <;> rfl

theorem noGoto_sel : ∀ (x : X), x.noGoto = true → ∀ l, (x.sel ν).1 ≠ .goto l
  | .done k s, h, l => by
    simp only [X.sel]
    intro e
    subst e
    simp [X.noGoto] at h
  | .br c x y, h, l => by
    simp only [X.noGoto, Bool.and_eq_true] at h
    simp only [X.sel]
    split
    · exact noGoto_sel x h.1 l
    · exact noGoto_sel y h.2 l

end
end Go.Sx

namespace Go.Sx
open Go.RowKit

theorem blt_lt {a b : Nat} (h : Nat.blt a b = true) : a < b := by simpa [Nat.blt_eq] using h
theorem blt_true {a b : Nat} (h : a < b) : Nat.blt a b = true := by simpa [Nat.blt_eq] using h

theorem look_base {base : Nat → DV} {n0 n i : Nat} {vs : List DV} (h : i < n0) : look base n0 vs n i = base i := by
  unfold look; rw [blt_true h]; rfl
theorem look_list {base : Nat → DV} {n0 n i : Nat} {vs : List DV} (h : n0 ≤ i) : look base n0 vs n i = vs.getD (n - 1 - i) default := by
  unfold look
  have : Nat.blt i n0 = false := by
    cases hb : Nat.blt i n0 with
    | false => rfl
    | true => have := blt_lt hb; omega
  rw [this]; rfl
theorem look_cons_old {base : Nat → DV} {n0 n i : Nat} {vs : List DV} (hi : i < n) (d : DV) : look base n0 (d :: vs) (n + 1) i = look base n0 vs n i := by
  rcases Nat.lt_or_ge i n0 with h | h
  · rw [look_base h, look_base h]
  · rw [look_list h, look_list h, show n + 1 - 1 - i = (n - 1 - i) + 1 from by omega]; rfl
theorem look_cons_new {base : Nat → DV} {n0 n : Nat} {vs : List DV} (hn : n0 ≤ n) (d : DV) : look base n0 (d :: vs) (n + 1) n = d := by
  rw [look_list hn, show n + 1 - 1 - n = 0 from by omega]; rfl

theorem A.den_congr {ν ν' : Nat → DV} {n : Nat} (h : ∀ i, i < n → ν i = ν' i) {a : A} (ha : a.below n = true) : a.den ν = a.den ν' := by
  cases a with
  | r i => exact h i (blt_lt ha)
  | _ => rfl
theorem A.int_congr {ν ν' : Nat → DV} {n : Nat} (h : ∀ i, i < n → ν i = ν' i) {a : A} (ha : a.below n = true) : a.int ν = a.int ν' := by simp [A.int, A.den_congr h ha]
theorem A.cells_congr {ν ν' : Nat → DV} {n : Nat} (h : ∀ i, i < n → ν i = ν' i) {a : A} (ha : a.below n = true) : a.cells ν = a.cells ν' := by simp [A.cells, A.den_congr h ha]
theorem A.bool_congr {ν ν' : Nat → DV} {n : Nat} (h : ∀ i, i < n → ν i = ν' i) {a : A} (ha : a.below n = true) : a.bool ν = a.bool ν' := by simp [A.bool, A.den_congr h ha]

theorem map_congr_all {α β : Type} {p : α → Bool} {f g : α → β} {l : List α} (hl : l.all p = true) (h : ∀ a, p a = true → f a = g a) : l.map f = l.map g :=
  List.map_congr_left fun a ha => h a (List.all_eq_true.1 hl a ha)

theorem denNode_congr {F : FEnv} {ν ν' : Nat → DV} {n : Nat} (h : ∀ i, i < n → ν i = ν' i) {x : Node} (hx : x.refs n = true) : denNode F ν x = denNode F ν' x := by
  cases x <;> simp only [Node.refs, Node.ops, List.all_cons, List.all_nil, Bool.and_true, Bool.and_eq_true] at hx <;> simp only [denNode] <;>
    first
      | rw [A.int_congr h hx.1, A.int_congr h hx.2]
      | rw [A.bool_congr h hx.1, A.bool_congr h hx.2]
      | rw [A.bool_congr h hx]
      | rw [A.int_congr h hx]
      | rw [A.bool_congr h hx.1, A.int_congr h hx.2.1, A.int_congr h hx.2.2]
      | rw [A.bool_congr h hx.1, A.bool_congr h hx.2.1, A.bool_congr h hx.2.2]
      | rw [map_congr_all hx.2 (fun a ha => A.int_congr h ha), A.int_congr h hx.1]
      | rw [map_congr_all hx.2 (fun a ha => A.bool_congr h ha), A.int_congr h hx.1]
      | rw [map_congr_all hx (fun a ha => A.den_congr h ha)]
      | rw [A.cells_congr h hx]
      | rw [A.cells_congr h hx.1, A.int_congr h hx.2.1, A.den_congr h hx.2.2]
      | rw [A.cells_congr h hx.1, A.int_congr h hx.2]
      | rw [A.cells_congr h hx.1, A.cells_congr h hx.2]
      | rw [map_congr_all hx.2 (fun a ha => A.den_congr h ha), A.int_congr h hx.1]
      | rw [A.bool_congr h hx.1, A.cells_congr h hx.2.1, A.cells_congr h hx.2.2]

theorem evalNodes_spec {F : FEnv} {base : Nat → DV} {n0 : Nat} : ∀ {nodes : Em} {vs : List DV} {n : Nat}, n0 ≤ n → wfNodes n nodes = true →
    (∀ i, i < n → look base n0 (evalNodes F base n0 nodes vs n) (n + nodes.length) i = look base n0 vs n i) ∧
    Sat F (look base n0 (evalNodes F base n0 nodes vs n) (n + nodes.length)) nodes
  | [], vs, n, _, _ => ⟨fun i _ => rfl, fun p hp => by cases hp⟩
  | (k, x) :: r, vs, n, hn, hw => by
    simp only [wfNodes, Bool.and_eq_true] at hw
    obtain ⟨⟨h1, h2⟩, h3⟩ := hw
    have hk := Nat.eq_of_beq_eq_true h1
    subst hk
    obtain ⟨e2, e3⟩ := evalNodes_spec (F := F) (base := base) (n0 := n0) (nodes := r) (vs := denNode F (look base n0 vs k) x :: vs) (n := k + 1) (by omega) h3
    have hlen : k + ((k, x) :: r).length = k + 1 + r.length := by simp; omega
    simp only [evalNodes]
    rw [hlen]
    have old : ∀ i, i < k → look base n0 (evalNodes F base n0 r (denNode F (look base n0 vs k) x :: vs) (k + 1)) (k + 1 + r.length) i = look base n0 vs k i := fun i hi => by
      rw [e2 i (by omega), look_cons_old hi]
    refine ⟨old, fun p hp => ?_⟩
    rcases List.mem_cons.1 hp with rfl | hp
    · simp only
      rw [e2 k (by omega), look_cons_new hn]
      exact (denNode_congr (fun i hi => old i hi) h2).symm
    · exact e3 p hp

section
variable {P : Program} {I : World → Prop} {S : Sigs} {F : FEnv} {E : Env} {gK : Nat}

theorem LR.env_spec {l : LR} (ν : Nat → DV) {xs : List DV} (hx : xs.length = l.k) (hw : wfNodes (l.n + l.k) l.nodes = true) :
    (∀ i, i < l.n → l.env F ν xs i = ν i) ∧ (∀ j, j < l.k → l.env F ν xs (l.n + j) = xs.getD j default) ∧ Sat F (l.env F ν xs) l.nodes := by
  obtain ⟨h1, h2⟩ := evalNodes_spec (F := F) (base := ν) (n0 := l.n) (vs := xs.reverse) (n := l.n + l.k) (by omega) hw
  refine ⟨fun i hi => ?_, fun j hj => ?_, h2⟩
  · unfold LR.env; rw [look_base hi]
  · unfold LR.env
    rw [h1 (l.n + j) (by omega), look_list (by omega)]
    simp only [List.getD_eq_getElem?_getD]
    rw [List.getElem?_reverse (by omega), hx]
    congr 2
    omega

theorem K.beq_eq {a b : K} (h : a.beq b = true) : a = b := by
  cases a <;> cases b <;> simp [K.beq] at h <;> first | rfl | (subst h; rfl)

theorem kindIx_spec {k : K} : ∀ {l : List K} {i : Nat}, kindIx k l = some i → l[i]? = some k
  | [], _, h => by simp [kindIx] at h
  | x :: l, i, h => by
    simp only [kindIx] at h
    split at h
    · rename_i hx; cases h; have := K.beq_eq hx; subst this; rfl
    · obtain ⟨j, hj, rfl⟩ := Option.map_eq_some_iff.1 h
      simpa using kindIx_spec hj


theorem PEq.refl {ν : Nat → DV} : ∀ {ts : List Ty} {as : List A}, as.length = ts.length → PEq ν ν ts as as
  | [], [], _ => trivial
  | t :: ts, a :: as, h => ⟨t.eqAt_refl _, PEq.refl (by simpa using h)⟩
theorem PEq.trans {ν1 ν2 ν3 : Nat → DV} : ∀ {ts : List Ty} {as t bs : List A}, PEq ν1 ν2 ts as t → PEq ν2 ν3 ts t bs → PEq ν1 ν3 ts as bs
  | [], [], [], [], _, _ => trivial
  | _ :: _, _ :: _, _ :: _, _ :: _, h, k => ⟨Ty.eqAt_trans h.1 k.1, PEq.trans h.2 k.2⟩
  | [], _ :: _, _, _, h, _ => h.elim
  | [], [], _ :: _, _, h, _ => h.elim
  | [], [], [], _ :: _, _, e => e.elim
  | _ :: _, [], _, _, h, _ => h.elim
  | _ :: _, _ :: _, [], _, h, _ => h.elim
  | _ :: _, _ :: _, _ :: _, [], _, e => e.elim
theorem PEq.of_teq {ν1 ν2 : Nat → DV} : ∀ {ts : List Ty} {as bs : List A}, TEq ts (bs.map (A.den ν2)) (as.map (A.den ν1)) → PEq ν1 ν2 ts as bs
  | [], [], [], _ => trivial
  | _ :: _, _ :: _, _ :: _, e => by
    simp only [List.map_cons, TEq] at e
    exact ⟨Ty.eqAt_symm e.1, PEq.of_teq e.2⟩
  | [], [], _ :: _, e => e.elim
  | [], _ :: _, [], e => e.elim
  | [], _ :: _, _ :: _, e => e.elim
  | _ :: _, [], [], e => e.elim
  | _ :: _, [], _ :: _, e => e.elim
  | _ :: _, _ :: _, [], e => e.elim
theorem TEq.len : ∀ {ts : List Ty} {as bs : List DV}, TEq ts as bs → as.length = bs.length
  | [], [], [], _ => rfl
  | _ :: _, _ :: _, _ :: _, h => by simp [TEq.len h.2]
  | [], _ :: _, _, h => h.elim
  | [], [], _ :: _, h => h.elim
  | _ :: _, [], _, h => h.elim
  | _ :: _, _ :: _, [], h => h.elim

def FitsTo (ν : Nat → DV) (E : Env) (p : Pat) (s : St) (as : List A) : Prop := ∀ ρ a w, RR ν E ρ ⟨s, []⟩ a w → ∃ ρ', RR ν E ρ' ⟨p.st.inst as, []⟩ a w

theorem fits_of {ν : Nat → DV} {p : Pat} {s : St} {g : List A × List Nat} (h1 : (p.st.inst g.1).sub g.2 s = true) (h2 : keeps g.2 E.n0 = true) (h3 : E.n0 ≤ p.st.hp.length) : FitsTo ν E p s g.1 :=
  fun _ _ _ h => ⟨_, h.sub h1 h2 (by simpa [St.inst] using h3)⟩

theorem couts_sat {ν : Nat → DV} {p : Pat} {ks : List K} (hl : E.n0 ≤ p.st.hp.length) : ∀ (x : X), M.sat F ν (x.couts E.n0 p ks) (fun r => ∃ i as, kindIx (x.sel ν).1 ks = some i ∧ FitsTo ν E p (x.sel ν).2 as ∧
    PEq ν ν (.i :: p.tys) (.z i :: as) r)
  | .done k s => by
    unfold X.couts
    refine sat_bind (sat_lift (Q := fun i => kindIx k ks = some i) fun a h => h) fun i hi => ?_
    dsimp only
    generalize hg : guess p.tys.length p.st s = g
    have hgl : g.1.length = p.tys.length := by rw [← hg]; exact guess_len _ _ _
    refine sat_ite (fun hc => ?_) (fun _ => sat_fail)
    simp only [Bool.and_eq_true] at hc
    exact sat_pure ⟨i, g.1, hi, fits_of hc.1 hc.2 hl, Ty.eqAt_refl _ _, PEq.refl hgl⟩
  | .br c x y => by
    unfold X.couts
    refine sat_bind (couts_sat hl x) fun a ha => sat_bind (couts_sat hl y) fun b hb => sat_mono (mergeAs_sat _ _ _) fun r hr => ?_
    simp only [X.sel]
    by_cases hc : c.bool ν = true
    · simp only [hc, if_true]
      obtain ⟨i, as, e1, e2, e3⟩ := ha
      exact ⟨i, as, e1, e2, e3.trans (hr.1 hc)⟩
    · have hc' : c.bool ν = false := by simpa using hc
      simp only [hc', Bool.false_eq_true, if_false]
      obtain ⟨i, as, e1, e2, e3⟩ := hb
      exact ⟨i, as, e1, e2, e3.trans (hr.2 hc')⟩

structure RoundOK (P : Program) (ν : Nat → DV) (E : Env) (b : Code) (p : Pat) (sx : St) (r : Round) : Prop where
  run : ∀ ρ a w, RR ν E ρ ⟨sx, []⟩ a w → b.wp P (XPost ν E r.x) a w
  cond : r.c.bool ν = (r.x.sel ν).1.isNormal
  next : (r.x.sel ν).1.isNormal = true → FitsTo ν E p (r.x.sel ν).2 r.nx
  out : (r.x.sel ν).1.isNormal = false → ∃ (i : Nat) (as : List A), r.ks[i]? = some (r.x.sel ν).1 ∧ FitsTo ν E p (r.x.sel ν).2 as ∧ PEq ν ν (.i :: p.tys) (.z i :: as) r.outs

theorem evRound_sat {ν : Nat → DV} {ev : St → M X} {b : Code} {p : Pat} {sx : St} (hl : E.n0 ≤ p.st.hp.length) (hev : M.sat F ν (ev sx) (fun x => ∀ ρ a w, RR ν E ρ ⟨sx, []⟩ a w → b.wp P (XPost ν E x) a w)) :
    M.sat F ν (evRound E.n0 ev p sx) (RoundOK P ν E b p sx) := by
  unfold evRound
  refine sat_bind hev fun x hx => sat_bind (nCond_sat x) fun c hc => sat_bind (nSt_sat (E := E) x) fun o ho => ?_
  have hnx : M.sat F ν (fitNx E.n0 p o) (fun nx => (x.sel ν).1.isNormal = true → FitsTo ν E p (x.sel ν).2 nx) := by
    cases o with
    | none => exact sat_pure fun hn => by obtain ⟨s, hs, _⟩ := ho hn; cases hs
    | some so =>
      unfold fitNx
      dsimp only
      refine sat_ite (fun hc => ?_) (fun _ => sat_fail)
      simp only [Bool.and_eq_true] at hc
      refine sat_pure fun hn ρ a w h => ?_
      obtain ⟨s, hs, h2⟩ := ho hn
      cases hs
      obtain ⟨ρ', h3⟩ := h2 ρ a w h
      exact fits_of hc.1 hc.2 hl ρ' a w h3
  refine sat_bind hnx fun nx hnx => ?_
  cases hz : x.kill with
  | none => exact sat_fail
  | some z =>
    unfold roundOut
    refine sat_bind (couts_sat (ks := z.kinds) hl z) fun outs houts => sat_pure ⟨hx, hc, hnx, fun hn => ?_⟩
    obtain ⟨z', hz', hsel⟩ := kill_spec x hn
    rw [hz] at hz'
    cases hz'
    obtain ⟨i, as, e1, e2, e3⟩ := houts
    simp only
    rw [← hsel]
    exact ⟨i, as, kindIx_spec e1, e2, e3⟩

theorem toX_sat {ν : Nat → DV} {ka : A} {s : St} : ∀ (ks : List K) (i : Nat), M.sat F ν (K.toX ka s i ks) (fun x => ∀ j k, ks[j]? = some k → ka.int ν = ((i + j : Nat) : Int) → x.sel ν = (k, s))
  | [], i => sat_fail
  | [k], i => sat_pure fun j k' hk _ => by
    cases j with
    | zero => simp at hk; subst hk; rfl
    | succ j => simp at hk
  | k :: k2 :: l, i => by
    unfold K.toX
    refine sat_bind (sat_emit (Q := fun r => r.bool ν = (ka.int ν == (i : Int))) fun r h => A.bool_of_den h) fun e he => sat_bind (toX_sat (k2 :: l) (i + 1)) fun r hr => sat_pure fun j k' hk hka => ?_
    simp only [X.sel, he]
    cases j with
    | zero =>
      simp at hk; subst hk
      have : (ka.int ν == (i : Int)) = true := by simpa using hka
      simp [this]
    | succ j =>
      have hne : (ka.int ν == (i : Int)) = false := by rw [hka]; simp; omega
      simp only [hne, Bool.false_eq_true, if_false]
      exact hr j k' (by simpa using hk) (by rw [hka]; congr 1; omega)
theorem obLp_sat {ν : Nat → DV} {l : LR} : M.sat F ν (obLp l) (fun _ => LoopSound F l) := by
  intro n u n' e d h _ hd
  unfold obLp at h
  simp only [Option.some.injEq, Prod.mk.injEq] at h
  obtain ⟨_, _, _, rfl⟩ := h
  exact hd (.lp l) (by simp)
theorem obLps_sat {ν : Nat → DV} : ∀ (ls : List LR), M.sat F ν (obLps ls) (fun _ => ∀ l ∈ ls, LoopSound F l)
  | [] => sat_pure fun l hl => by cases hl
  | l :: r => by
    unfold obLps
    refine sat_bind obLp_sat fun _ h1 => sat_mono (obLps_sat r) fun _ h2 x hx => ?_
    rcases List.mem_cons.1 hx with rfl | hx
    · exact h1
    · exact h2 x hx


structure AtOK (F : FEnv) (ν : Nat → DV) (p : Pat) (l : LR) (args : List A) (ks : List K) (x : X) : Prop where
  pre : ((F l.fid (args.map (A.den ν))).getD 0 default).toB = true
  out : ∃ (os : List A) (ka : A), (∀ (j : Nat) (k : K), ks[j]? = some k → ka.int ν = (j : Int) → x.sel ν = (k, p.st.inst os)) ∧
    (∀ vs : List DV, vs.length = l.outs.length → (F l.fid (args.map (A.den ν))).drop 1 = vs → (ka :: os).map (A.den ν) = vs)

theorem evLoopAt_sat {ν : Nat → DV} {p : Pat} {ins : List A} {l : LR} {ks : List K} :
    M.sat F ν (evLoopAt l.fid p ins l ks) (AtOK F ν p l (l.inv.map A.r ++ ins) ks) := by
  unfold evLoopAt
  dsimp only
  refine sat_bind (sat_emit (Q := fun r => r.den ν = (F l.fid ((l.inv.map A.r ++ ins).map (A.den ν))).getD 0 default) fun r h => h) fun q hq => ?_
  refine sat_bind (sat_owe (Q := fun _ => q.bool ν = true) fun h => h) fun _ hpre => ?_
  refine sat_bind (callOuts_sat l.outs.length 1) fun os hos => ?_
  refine sat_ite (fun _ => sat_fail) (fun hne => ?_)
  have hout : l.outs ≠ [] := fun h => hne (by rw [h]; rfl)
  refine sat_mono (toX_sat ks 0) fun x hx => ⟨by rw [← hq]; exact hpre, os.tail, os.headD default, fun j k hk hka => hx j k hk (by simpa using hka), fun vs hvl hvs => ?_⟩
  have hall : os.map (A.den ν) = vs := by
    apply List.ext_getElem?
    intro i
    by_cases hi : i < os.length
    · rw [List.getElem?_map, List.getElem?_eq_getElem hi]
      simp only [Option.map_some]
      rw [hos.2 i _ (List.getElem?_eq_getElem hi), ← hvs, List.getElem?_drop]
      have hlen : 1 + i < (F l.fid ((l.inv.map A.r ++ ins).map (A.den ν))).length := by
        have := congrArg List.length hvs
        simp only [List.length_drop] at this
        have := hos.1
        omega
      rw [List.getD_eq_getElem?_getD, List.getElem?_eq_getElem hlen]
      rfl
    · rw [List.getElem?_eq_none (by simpa using hi), List.getElem?_eq_none (by have := hos.1; omega)]
  cases os with
  | nil => exact absurd (List.eq_nil_of_length_eq_zero (by simpa using hos.1.symm)) hout
  | cons o os => exact hall

theorem evSymWith_ok {ν : Nat → DV} {ev : St → M X} {b : Code} {fid : Nat} {p : Pat} {s : St}
    (hev : ∀ (ν' : Nat → DV) (s' : St), M.sat F ν' (ev s') (fun x => ∀ ρ a w, RR ν' E ρ ⟨s', []⟩ a w → b.wp P (XPost ν' E x) a w)) :
    M.sat F ν (evSymWith E.n0 ev fid p s) (fun z => ∀ ρ a w, RR ν E ρ ⟨s, []⟩ a w → LoopRun P b (XPost ν E z) a w) := by
  intro n z n' e' d' h hsat hob
  unfold evSymWith at h
  dsimp only at h
  generalize hk0 : p.tys.length = k at h
  generalize hg : guess k p.st s = g at h
  have hgl : g.1.length = k := by rw [← hg]; exact guess_len _ _ _
  split at h
  · cases h
  rename_i r _ e d hround
  generalize hl : lrOf fid n k e d r p.tys = l at h
  have l1 : l.fid = fid := by subst hl; rfl
  have l2 : l.n = n := by subst hl; rfl
  have l3 : l.k = k := by subst hl; rfl
  have l4 : l.nodes = e := by subst hl; rfl
  have l5 : l.owes = ndsOf d := by subst hl; rfl
  have l6 : l.c = r.c := by subst hl; rfl
  have l7 : l.nx = r.nx := by subst hl; rfl
  have l8 : l.outs = r.outs := by subst hl; rfl
  have l9 : l.ts = p.tys := by subst hl; rfl
  clear hl
  split at h
  rotate_left
  · cases h
  rename_i hchk
  simp only [Bool.and_eq_true] at hchk
  obtain ⟨⟨⟨⟨⟨hsub, hkeep⟩, hn0⟩, hty⟩, hwf⟩, hnxlen⟩ := hchk
  have hnxlen := Nat.eq_of_beq_eq_true hnxlen
  have hn0 := Nat.le_of_ble_eq_true hn0
  -- what a round says, whatever goes round
  have hrnd : ∀ xs : List DV, xs.length = k → (∀ q ∈ l.owes, Nd.holds (l.env F ν xs) q) → (∀ q ∈ lpsOf d, LoopSound F q) → RoundOK P (l.env F ν xs) E b p (p.st.inst (idsFrom n k)) r := by
    intro xs hx ho hlp
    obtain ⟨_, _, hS⟩ := LR.env_spec (F := F) (l := l) ν (xs := xs) (by rw [l3]; exact hx) (by rw [l2, l3, l4]; exact hwf)
    refine evRound_sat hn0 (hev (l.env F ν xs) (p.st.inst (idsFrom n k))) (n + k) r _ e d hround (by rw [← l4]; exact hS) ?_
    have key : ∀ (d : List Ob), (∀ q ∈ ndsOf d, Nd.holds (l.env F ν xs) q) → (∀ q ∈ lpsOf d, LoopSound F q) → ∀ q ∈ d, Ob.holds F (l.env F ν xs) q := by
      intro d
      induction d with
      | nil => intro _ _ q hq; cases hq
      | cons o d ih =>
        intro h1 h2 q hq
        cases o with
        | nd o =>
          rcases List.mem_cons.1 hq with rfl | hq
          · exact h1 o (by simp [ndsOf])
          · exact ih (fun q hq => h1 q (by simp [ndsOf, hq])) h2 q hq
        | lp o =>
          rcases List.mem_cons.1 hq with rfl | hq
          · exact h2 o (by simp [lpsOf])
          · exact ih h1 (fun q hq => h2 q (by simp [lpsOf, hq])) q hq
    exact key d (by rw [← l5]; exact ho) hlp
  have hmain : M.sat F ν (lrGo fid p g.1 d l r.ks) (fun x => (∀ q ∈ lpsOf d, LoopSound F q) ∧ LoopSound F l ∧ AtOK F ν p l (l.inv.map A.r ++ g.1) r.ks x) := by
    unfold lrGo
    refine sat_bind (obLps_sat (lpsOf d)) fun _ h1 => sat_bind obLp_sat fun _ h2 => ?_
    rw [← l1]
    exact sat_mono evLoopAt_sat fun x hx => ⟨h1, h2, hx⟩
  obtain ⟨hlps, ⟨μ, hμ⟩, hA⟩ := hmain n z n' e' d' h hsat hob
  intro ρ a w hrr
  have hids : ∀ xs : List DV, xs.length = k → (idsFrom n k).map (A.den (l.env F ν xs)) = xs := by
    intro xs hx
    obtain ⟨_, h2, _⟩ := LR.env_spec (F := F) (l := l) ν (xs := xs) (by rw [l3]; exact hx) (by rw [l2, l3, l4]; exact hwf)
    rw [idsFrom_den (fun i => xs.getD i default) k n 0 (fun i hi => by rw [← l2, h2 i (by rw [l3]; exact hi)]; simp)]
    exact range_getD xs k hx
  have hold : ∀ xs : List DV, xs.length = k → ∀ i, i < n → l.env F ν xs i = ν i := by
    intro xs hx
    obtain ⟨h1, _, _⟩ := LR.env_spec (F := F) (l := l) ν (xs := xs) (by rw [l3]; exact hx) (by rw [l2, l3, l4]; exact hwf)
    intro i hi; exact h1 i (by rw [l2]; exact hi)
  -- the loop, from a round's head
  have main : ∀ (m : Nat) (xs : List DV), xs.length = k → μ (l.inv.map ν ++ xs) < m → ((F l.fid (l.inv.map ν ++ xs)).getD 0 default).toB = true →
      F l.fid (l.inv.map ν ++ xs) = F l.fid ((l.inv.map A.r ++ g.1).map (A.den ν)) →
      ∀ ρ a w, RR (l.env F ν xs) E ρ ⟨p.st.inst (idsFrom n k), []⟩ a w → LoopRun P b (XPost ν E z) a w := by
    intro m
    induction m with
    | zero => intro xs _ h; omega
    | succ m ih =>
      intro xs hx hm hpre hF ρ a w hrr
      obtain ⟨g1, g2, g3⟩ := hμ ν xs (by rw [l3]; exact hx) hpre
      have hr := hrnd xs hx g1 hlps
      refine LoopRun.step (wp_mono (hr.run ρ a w hrr) fun e a' w' hp => ?_)
      obtain ⟨hk', ρ', hr'⟩ := hp
      cases hn : (r.x.sel (l.env F ν xs)).1.isNormal with
      | true =>
        have he := K.is_normal hk' hn
        subst he
        have hc : l.c.bool (l.env F ν xs) = true := by rw [l6, hr.cond, hn]
        obtain ⟨h1, h2, h3⟩ := g2 hc
        have hxs' : (l.nx.map (A.den (l.env F ν xs))).length = k := by rw [l7]; simpa using hnxlen
        obtain ⟨ρ2, hr2⟩ := hr.next hn ρ' a' w' hr'
        refine ih _ hxs' (by omega) h1 (h2.trans hF) ρ2 a' w' ?_
        refine RR.inst (p := A.below n) (fun x hx2 => A.den_congr (n := n) (fun i hi => by rw [hold xs hx i hi, hold _ hxs' i hi]) hx2) (PEq.of_den (by rw [hk0]; exact hnxlen) ?_) hty hr2
        rw [hids _ hxs', l7]
      | false =>
        have hne := K.is_not hk' hn
        have hc : l.c.bool (l.env F ν xs) = false := by rw [l6, hr.cond, hn]
        have hF2 := g3 hc
        obtain ⟨i, as, h1, h2, h3⟩ := hr.out hn
        obtain ⟨os, ka, f4, f5⟩ := hA.out
        rw [hF] at hF2
        have f6 := f5 _ (by simpa using hF2.len) rfl
        rw [← f6, l9, l8] at hF2
        have h4 : PEq (l.env F ν xs) ν (.i :: p.tys) r.outs (ka :: os) := PEq.of_teq hF2
        have h5 := h3.trans h4
        have hka : ka.int ν = (i : Int) := h5.1.symm
        have hsel := f4 i _ h1 hka
        have hpost : XPost ν E z e a' w' := by
          unfold XPost
          rw [hsel]
          obtain ⟨ρ2, hr2⟩ := h2 ρ' a' w' hr'
          exact ⟨hk', ρ2, RR.inst (p := A.below n) (fun x hx2 => A.den_congr (n := n) (fun i hi => hold xs hx i hi) hx2) h5.2 hty hr2⟩
        cases e <;> first | exact absurd rfl hne | exact hpost
  have hx0 : (g.1.map (A.den ν)).length = k := by simpa using hgl
  have harg : (l.inv.map A.r ++ g.1).map (A.den ν) = l.inv.map ν ++ g.1.map (A.den ν) := by
    rw [List.map_append, List.map_map]
    rfl
  obtain ⟨ρ2, hr2⟩ := fits_of (ν := ν) (E := E) (p := p) hsub hkeep hn0 ρ a w hrr
  refine main (μ (l.inv.map ν ++ g.1.map (A.den ν)) + 1) (g.1.map (A.den ν)) hx0 (by omega) (by rw [← harg]; exact hA.pre) (by rw [harg]) ρ2 a w ?_
  refine RR.inst (p := A.below n) (fun x hx2 => A.den_congr (n := n) (fun i hi => (hold _ hx0 i hi).symm) hx2) (PEq.of_den (by rw [hk0]; exact hgl) ?_) hty hr2
  rw [hids _ hx0]

theorem evSym_ok {ν : Nat → DV} {ev : St → M X} {b : Code} {fid : Nat} {D : List Nat} {s : St}
    (hev : ∀ (ν' : Nat → DV) (s' : St), M.sat F ν' (ev s') (fun x => ∀ ρ a w, RR ν' E ρ ⟨s', []⟩ a w → b.wp P (XPost ν' E x) a w)) :
    M.sat F ν (evSym E.n0 ev fid D s) (fun z => ∀ ρ a w, RR ν E ρ ⟨s, []⟩ a w → LoopRun P b (XPost ν E z) a w) := by
  intro n z n' e' d' h hsat hob
  unfold evSym at h
  exact evSymWith_ok hev n z n' e' d' h hsat hob
end
end Go.Sx

namespace Go.Sx
open Go.RowKit
section
variable {P : Program} {I : World → Prop} {S : Sigs} {F : FEnv} {E : Env} {gK : Nat}

def CodeOK (P : Program) (ν : Nat → DV) (E : Env) (c : Code) (s : St) (x : X) : Prop :=
  ∀ ρ a w, RR ν E ρ ⟨s, []⟩ a w → c.wp P (XPost ν E x) a w ∧ ∀ b, c = .loop b → LoopRun P b (XPost ν E x) a w

theorem CodeOK.plain {ν : Nat → DV} {c : Code} {s : St} {x : X} (hc : ∀ b, c ≠ .loop b) (h : ∀ ρ a w, RR ν E ρ ⟨s, []⟩ a w → c.wp P (XPost ν E x) a w) : CodeOK P ν E c s x :=
  fun ρ a w hr => ⟨h ρ a w hr, fun b hb => absurd hb (hc b)⟩

theorem evCode_ok (hS : SigsOK P I gK S F) (hE : E.Ok gK) (hn0 : S.n0 = E.n0) (hI : ∀ w, Fr E.W E.w0 w → I w) : ∀ (n : Nat) (ν : Nat → DV) (c : Code) (s : St), M.sat F ν (evCode P S n c s) (CodeOK P ν E c s)
  | 0, _, _, _ => sat_fail
  | n + 1, ν, c, s => by
    have evCode_sat : ∀ (hS : SigsOK P I gK S F) (n' : Nat) (hn : n' = n) (c : Code) (s : St), M.sat F ν (evCode P S n' c s) (fun x => ∀ ρ a w, RR ν E ρ ⟨s, []⟩ a w → c.wp P (XPost ν E x) a w) :=
      fun hS n' hn c s => by subst hn; exact sat_mono (evCode_ok hS hE hn0 hI n' ν c s) fun x hx ρ a w h => (hx ρ a w h).1
    have plain : ∀ {x : M X} {Q : X → Prop}, (∀ b, c ≠ .loop b) → M.sat F ν x (fun z => ∀ ρ a w, RR ν E ρ ⟨s, []⟩ a w → c.wp P (XPost ν E z) a w) → M.sat F ν x (CodeOK P ν E c s) :=
      fun hc h => sat_mono h fun z hz => CodeOK.plain hc hz
    cases c <;> simp only [evCode, hn0]
    case loop c =>
      refine sat_bind (evCode_sat hS n rfl c s) fun u hu => ?_
      refine sat_mono (andThen_sat (_G := fun _ => True) (N := fun Q a w => LoopRun P c Q a w) (fun s' => sat_mono (evCode_ok hS hE hn0 hI n ν (.loop c) s') fun x hx ρ a w h => (hx ρ a w h).2 c rfl) (fun Q Q' a w h hw => LoopRun.mono h hw)) fun z hz ρ a w h => ?_
      have := LoopRun.step (wp_mono (hu ρ a w h) hz)
      exact ⟨this.wp, fun b hb => by cases hb; exact this⟩
    all_goals refine plain (Q := fun _ => True) (fun b => by simp) ?_
    case skip => exact sat_pure fun ρ a w h => wp_skip ⟨trivial, ρ, h⟩
    case label l => exact sat_pure fun ρ a w h => wp_label ⟨trivial, ρ, h⟩
    case region id ops draw =>
      refine sat_bind (evRegion_sat (E := E) (id := id) hS hE hn0 hI) fun s' hs' => sat_pure fun ρ a w h => ?_
      exact hs' ρ a w h _ fun ρ' a' w' h' => ⟨trivial, ρ', h'⟩
    case seq x y =>
      refine sat_bind (evCode_sat hS n rfl x s) fun u hu => ?_
      refine sat_mono (andThen_sat (_G := fun _ => True) (N := fun Q a w => y.wp P Q a w) (fun s' => evCode_sat hS n rfl y s') (fun Q Q' a w h hw => wp_mono hw h)) fun z hz ρ a w h => ?_
      exact wp_seq (wp_mono (hu ρ a w h) hz)
    case cond c x y =>
      refine sat_bind (sat_lift (Q := fun v => rd ⟨s, []⟩ [] c = some v) fun a h => h) fun v hv => ?_
      split
      · rename_i b
        have hread : ∀ ρ a w, RR ν E ρ ⟨s, []⟩ a w → a.eval c = .bool (b.bool ν) := fun ρ a w h => (rd_spec h.act (fun p hp => by simp at hp) hv).2
        split
        · exact sat_mono (evCode_sat hS n rfl x s) fun u hu ρ a w h => wp_cond_true (hread ρ a w h) (hu ρ a w h)
        · exact sat_mono (evCode_sat hS n rfl y s) fun u hu ρ a w h => wp_cond_false (hread ρ a w h) (hu ρ a w h)
        · refine sat_ite (fun _ => ?_) (fun _ => sat_ite (fun _ => ?_) (fun _ => ?_))
          · refine sat_bind mkNot_sat fun q hq => sat_bind (sat_owe (Q := fun _ => b.bool ν = false) fun h => by rw [hq] at h; simpa using h) fun _ hb => ?_
            exact sat_mono (evCode_sat hS n rfl y s) fun u hu ρ a w h => wp_cond_false (by rw [hread ρ a w h, hb]) (hu ρ a w h)
          · refine sat_bind (sat_owe (Q := fun _ => b.bool ν = true) fun h => h) fun _ hb => ?_
            exact sat_mono (evCode_sat hS n rfl x s) fun u hu ρ a w h => wp_cond_true (by rw [hread ρ a w h, hb]) (hu ρ a w h)
          refine sat_bind (sat_under (evCode_sat hS n rfl x s)) fun u hu => sat_bind (sat_under (evCode_sat hS n rfl y s)) fun v hv => sat_pure fun ρ a w h => ?_
          refine wp_cond_split (hread ρ a w h) (fun hb => wp_mono (hu hb ρ a w h) fun e a w hp => ?_) (fun hb => wp_mono (hv hb ρ a w h) fun e a w hp => ?_)
          · unfold XPost at hp ⊢
            simp only [X.sel, hb, if_true]; exact hp
          · unfold XPost at hp ⊢
            simp only [X.sel, hb]; exact hp
      · exact sat_fail
    case block id c =>
      have hblk : ∀ {x : M X}, M.sat F ν x (fun u => ∀ ρ a w, RR ν E ρ ⟨s, []⟩ a w → c.wp P (XPost ν E u) a w) →
          M.sat F ν (do pure ((← x).inBlock id) : M X) (fun z => ∀ ρ a w, RR ν E ρ ⟨s, []⟩ a w → (Code.block id c).wp P (XPost ν E z) a w) := by
        intro x hx
        refine sat_bind hx fun u hu => sat_pure fun ρ a w h => wp_block (wp_mono (hu ρ a w h) fun e a w hp => ?_)
        obtain ⟨hk, ρ', hr⟩ := hp
        have hpost : ∀ e', ((u.sel ν).1.inBlock id).is e' → XPost ν E (u.inBlock id) e' a w := fun e' he' => by
          unfold XPost
          rw [inBlock_sel]
          exact ⟨he', ρ', hr⟩
        generalize hkk : (u.sel ν).1 = k at *
        cases k <;> cases e <;> simp only [K.is] at hk <;> first | exact hk.elim | skip
        · exact hpost .normal trivial
        · exact hpost .ret trivial
        · rename_i i j
          subst hk
          simp only [Exit.inBlock]
          by_cases hij : i = id
          · rw [if_pos hij]; exact hpost .normal (by subst hij; simp [K.inBlock, K.is])
          · rw [if_neg hij]; exact hpost (.exit i) (by simp [K.inBlock, K.is, hij])
        · subst hk; exact hpost _ rfl
      split
      · split
        · rename_i fid _ b
          refine hblk (sat_mono (evSym_ok (E := E) (b := b) fun ν' s' => sat_mono (evCode_ok hS hE hn0 hI n ν' b s') fun x hx ρ a w h => (hx ρ a w h).1) fun z hz ρ a w h => (hz ρ a w h).wp)
        · exact hblk (evCode_sat hS n rfl c s)
      · exact hblk (evCode_sat hS n rfl c s)
    case exit id => exact sat_pure fun ρ a w h => wp_exit ⟨rfl, ρ, h⟩
    case goto l => exact sat_pure fun ρ a w h => wp_goto ⟨rfl, ρ, h⟩
    case scope c =>
      refine sat_bind (evCode_sat hS n rfl c s) fun u hu => sat_ite (fun hg => sat_pure fun ρ a w h => wp_scope_straight (wp_mono (hu ρ a w h) fun e a w hp => ?_)) (fun _ => sat_fail)
      cases e <;> first | exact hp | skip
      rename_i l
      have := hp.1
      have hng := noGoto_sel (ν := ν) u hg l
      generalize (u.sel ν).1 = k at *
      cases k <;> simp only [K.is] at this
      subst this
      exact absurd rfl hng
    case ret => exact sat_pure fun ρ a w h => wp_ret ⟨trivial, ρ, h⟩
    all_goals exact sat_fail
end
end Go.Sx

namespace Go.Sx
open Go.RowKit

section
variable {P : Program} {I : World → Prop} {S : Sigs} {F : FEnv} {E : Env} {gK : Nat} {ν : Nat → DV}

def wrapVals : List Value → Value
  | [v] => v
  | l => .tuple l.toArray
theorem wrapResults_conc (l : List V1) (ρ : Nat → Loc) : (wrapResults l).conc ν ρ = wrapVals (l.map (V1.conc ν ρ)) ∧ ((∀ x ∈ l, V1.good ν x) → (wrapResults l).good ν) := by
  unfold wrapResults wrapVals
  match l with
  | [] => exact ⟨rfl, fun _ => by simp [V.good]⟩
  | [v] => exact ⟨rfl, fun h => h v (by simp)⟩
  | v :: u :: r => exact ⟨rfl, fun h => h⟩

def resM (tmps : Array Value) : ResultVar → Sem Value
  | .tmp t => pure (tmps.getD t undef)
  | .cell p t => do loadVar t (← asAddr (tmps.getD p undef))
theorem results_resM (fn : Func) (tmps : Array Value) : results fn tmps = (do let vs ← fn.results.mapM (resM tmps); pure (if h : vs.size = 1 then vs[0] else .tuple vs)) := by
  unfold results
  congr 2

theorem resOf_sat {s : St} : ∀ (l : List ResultVar), M.sat F ν (resOf P s l) (fun vs => ∀ ρ a w, ARel ν ρ ⟨s, []⟩ a → HRel E ν ρ s.hp w →
    (∀ v ∈ vs, V1.good ν v) ∧ (l.mapM (resM a.tmps)).run P w = .ok (vs.map (V1.conc ν ρ)) w)
  | [] => sat_pure fun ρ a w _ _ => ⟨by simp, rfl⟩
  | .tmp t :: l => by
    unfold resOf
    refine sat_bind (sat_lift (Q := fun v => nth s.sl t = some v) fun a h => h) fun v hv => ?_
    split
    · rename_i v1
      refine sat_bind (resOf_sat l) fun vs hvs => sat_pure fun ρ a w ha hh => ?_
      obtain ⟨h1, h2⟩ := hvs ρ a w ha hh
      obtain ⟨g1, g2⟩ := ha.slot t _ hv
      refine ⟨fun x hx => ?_, ?_⟩
      · rcases List.mem_cons.1 hx with rfl | hx
        · exact g1
        · exact h1 x hx
      · have e : a.tmps.getD t undef = v1.conc ν ρ := by simp [g2, V.conc]
        rw [List.mapM_cons]
        simp only [Sem.run_bind, resM, Sem.run_pure, Result.andThen_ok, e, h2, List.map_cons]
    · exact sat_fail
  | .cell t ty :: l => by
    unfold resOf
    refine sat_bind (sat_lift (Q := fun v => nth s.sl t = some v) fun a h => h) fun v hv => ?_
    split
    · rename_i b off
      refine sat_bind (sat_lift (Q := fun k => tk P ty = some k) fun a h => h) fun k hk => ?_
      refine sat_bind (sat_lift (Q := fun k => tsize P ty = some k) fun a h => h) fun sz hs => ?_
      refine sat_bind (sat_lift (Q := fun bk => nth s.hp b = some bk) fun a h => h) fun bk hbk => ?_
      split
      · rename_i o cs
        by_cases hg : off.good ν
        · refine sat_bind (loadCells_sat (own := o) hk hs hg) fun u hu => sat_bind (resOf_sat l) fun vs hvs => sat_pure fun ρ a w ha hh => ?_
          obtain ⟨h1, h2⟩ := hvs ρ a w ha hh
          obtain ⟨g1, g2⟩ := ha.slot t _ hv
          obtain ⟨u1, u2⟩ := hu ρ w (ρ b) (hh.blk b _ hbk)
          refine ⟨fun x hx => ?_, ?_⟩
          · rcases List.mem_cons.1 hx with rfl | hx
            · exact u1
            · exact h1 x hx
          · have e : a.tmps.getD t undef = .pointer (some ⟨(ρ b).blk, (ρ b).off + off.val ν, none⟩) := by simp [g2, V.conc, V1.conc, Lf.conc]
            have er : (resM a.tmps (.cell t ty)).run P w = .ok (u.conc ν ρ) w := by
              simp only [resM, Sem.run_bind, e, asAddr, Sem.run_pure, Result.andThen_ok, u2]
            rw [List.mapM_cons]
            simp only [Sem.run_bind, er, Sem.run_pure, Result.andThen_ok, h2, List.map_cons]
        · refine sat_bind sat_true fun u _ => sat_bind sat_true fun vs _ => sat_pure fun ρ a w ha hh => ?_
          exact absurd ((ha.slot t _ hv).1 (.p b off) (by simp [V1.cells])) hg
      · exact sat_fail
    · exact sat_fail

theorem results_of {fn : Func} {tmps : Array Value} {w : World} {vals : List Value}
    (h : (fn.results.toList.mapM (resM tmps)).run P w = .ok vals w) :
    (results fn tmps).run P w = .ok (wrapVals vals) w := by
  have hm : ∀ (f : ResultVar → Sem Value), (fn.results.mapM f).run P w = ((fn.results.toList.mapM f).run P w).andThen fun l w' => .ok l.toArray w' := by
    intro f
    rw [Array.mapM_eq_mapM_toList]
    simp
  rw [results_resM, Sem.run_bind, hm, h]
  simp only [Result.andThen_ok, Sem.run_pure]
  match vals with
  | [] => rfl
  | [v] => rfl
  | v :: u :: r => rfl


def oneAct (v : Value) : Act := { tmps := #[v], defers := [] }

theorem res_sat {rs : List ResultVar} {keep : Bool} (hk0 : keep = false → E.n0 = 0) : ∀ (x : X), M.sat F ν (x.res P rs keep) (fun y => (x.sel ν).1.ends = true ∧ (y.sel ν).1.isNormal = true ∧ ∀ ρ a w, RR ν E ρ ⟨(x.sel ν).2, []⟩ a w →
    ∃ v vals, (rs.mapM (resM a.tmps)).run P w = .ok vals w ∧ wrapVals vals = v ∧ RR ν E ρ ⟨(y.sel ν).2, []⟩ (oneAct v) w)
  | .done k s => by
    unfold X.res
    refine sat_ite (fun hk => ?_) (fun _ => sat_fail)
    refine sat_bind (resOf_sat (E := E) rs) fun vs hvs => sat_pure ⟨hk, rfl, fun ρ a w h => ?_⟩
    obtain ⟨h1, h2⟩ := hvs ρ a w h.act h.hs.heap
    refine ⟨_, _, h2, rfl, ⟨rfl, rfl, fun t v ht => ?_, fun e he => by cases he⟩, ?_⟩
    · cases t with
      | zero =>
        cases ht
        exact ⟨(wrapResults_conc vs ρ).2 h1, by rw [(wrapResults_conc vs ρ).1]; rfl⟩
      | succ t => cases t <;> cases ht
    · simp only [X.sel]
      cases keep with
      | true => exact h.hs
      | false =>
        have hno : ∀ j bk, nth ([] : List (Option Blk)) j = some bk → False := fun j bk hj => by cases j <;> cases hj
        exact ⟨⟨fun j bk hj => (hno j bk hj).elim, fun j j' bk bk' hj => (hno j bk hj).elim⟩, fun j bk hj => (hno j bk hj).elim, h.hs.fr, by rw [hk0 rfl]; exact Nat.zero_le _, fun j hj => by rw [hk0 rfl] at hj; omega⟩
  | .br c x y => by
    unfold X.res
    refine sat_bind (sat_under (res_sat hk0 x)) fun u hu => sat_bind (sat_under (res_sat hk0 y)) fun v hv => sat_pure ?_
    simp only [X.sel]
    by_cases hc : c.bool ν = true
    · simp only [hc, if_true]
      exact hu hc
    · simp only [hc]
      exact hv (by simpa using hc)

def ow (path : List (Bool × Bool)) (a : Bool) : Bool := !(path.all fun c => c.1 == c.2) || a
def owesB (ν : Nat → DV) (l : List Nd) : Bool := (l.map fun q => ow (q.path.map fun c => (c.1.bool ν, c.2)) (q.a.bool ν)).all id
theorem owesB_holds {l : List Nd} (h : owesB ν l = true) : ∀ q ∈ l, Nd.holds ν q := by
  intro q hq hp
  have := List.all_eq_true.1 h _ (List.mem_map.2 ⟨q, hq, rfl⟩)
  simp only [ow, id, Bool.or_eq_true, Bool.not_eq_true', List.all_map] at this
  rcases this with h' | h'
  · have : (q.path.all ((fun c : Bool × Bool => c.1 == c.2) ∘ fun c => (c.1.bool ν, c.2))) = true := List.all_eq_true.2 fun c hc => by simp [hp c hc]
    rw [this] at h'; cases h'
  · exact h'

theorem nth_replicate_none {α : Type} (n i : Nat) : nth (List.replicate n (none : Option α)) i = none := by
  induction n generalizing i with
  | zero => cases i <;> rfl
  | succ n ih => cases i with
    | zero => rfl
    | succ i => exact ih i


def Stable (I : World → Prop) (gK : Nat) : Prop := ∀ w w', w.heap.size ≤ w'.heap.size → (∀ b, b < gK → w'.heap[b]? = w.heap[b]?) → I w → I w'

def outEnv (F : FEnv) (sg : Sig) (out : Out) (ds : List DV) : Nat → DV :=
  look (fun _ => default) 0 (evalNodes F (fun _ => default) 0 out.nodes ds.reverse sg.nin) (sg.nin + out.nodes.length)

theorem obs_split {F : FEnv} {ν : Nat → DV} : ∀ (d : List Ob), (∀ q ∈ ndsOf d, Nd.holds ν q) → (∀ q ∈ lpsOf d, LoopSound F q) → ∀ q ∈ d, Ob.holds F ν q
  | [], _, _, q, hq => by cases hq
  | .nd o :: d, h1, h2, q, hq => by
    rcases List.mem_cons.1 hq with rfl | hq
    · exact h1 o (by simp [ndsOf])
    · exact obs_split d (fun q hq => h1 q (by simp [ndsOf, hq])) h2 q hq
  | .lp o :: d, h1, h2, q, hq => by
    rcases List.mem_cons.1 hq with rfl | hq
    · exact h2 o (by simp [lpsOf])
    · exact obs_split d h1 (fun q hq => h2 q (by simp [lpsOf, hq])) q hq


theorem keepsC_spec {hin : List (Option Blk)} {m : List Nat} : ∀ {l : List (Option Blk)} {j : Nat}, keepsC hin m j l = true → ∀ i, i < l.length → stays hin (j + i) = true → rnm m (j + i) = j + i
  | [], _, _, i, hi, _ => by simp at hi
  | _ :: l, j, h, 0, _, hs => by
    simp only [keepsC, Bool.and_eq_true, Bool.or_eq_true, Bool.not_eq_true'] at h
    rw [Nat.add_zero] at hs ⊢
    rcases h.1 with h1 | h1
    · rw [hs] at h1; cases h1
    · exact Nat.eq_of_beq_eq_true h1
  | _ :: l, j, h, i + 1, hi, hs => by
    simp only [keepsC, Bool.and_eq_true] at h
    have := keepsC_spec h.2 i (by simpa using hi) (by rwa [show j + 1 + i = j + (i + 1) from by omega])
    rwa [show j + 1 + i = j + (i + 1) from by omega] at this

theorem body_sat (hS : SigsOK P I gK S F) (hE : E.Ok gK) (hn0 : S.n0 = E.n0) (hI : ∀ w, Fr E.W E.w0 w → I w) {fuel : Nat} {c : Code} {rs : List ResultVar} {keep : Bool} (hk0 : keep = false → E.n0 = 0) {s0 : St} :
    M.sat F ν (evBody P S fuel c rs keep s0) (fun z => ∀ ρ a w, RR ν E ρ ⟨s0, []⟩ a w → c.wp P (fun e a' w' => (e = .normal ∨ e = .ret) ∧ a'.defers = [] ∧
      ∃ v vals ρ', (rs.mapM (resM a'.tmps)).run P w' = .ok vals w' ∧ wrapVals vals = v ∧ RR ν E ρ' ⟨z, []⟩ (oneAct v) w') a w) := by
  unfold evBody
  rw [hn0]
  refine sat_bind (evCode_ok hS hE hn0 hI fuel ν c s0) fun x hx => sat_bind (res_sat hk0 x) fun y hy => sat_bind (nSt_sat (E := E) y) fun o ho => ?_
  obtain ⟨z, hz, hz2⟩ := ho hy.2.1
  subst hz
  refine sat_pure fun ρ a w h => wp_mono (hx ρ a w h).1 fun e a' w' hp => ?_
  obtain ⟨hk, ρ1, hr⟩ := hp
  obtain ⟨v, vals, h1, h2, h3⟩ := hy.2.2 ρ1 a' w' hr
  obtain ⟨ρ2, h4⟩ := hz2 ρ1 _ w' h3
  refine ⟨?_, hr.act.defers, v, vals, ρ2, h1, h2, h4⟩
  have hend := hy.1
  generalize (X.sel ν x).1 = k at *
  cases k <;> cases e <;> simp [K.is, K.ends] at hk hend ⊢

theorem fn_okE {fuel : Nat} {f : FuncId} {fn : Func} {sg : Sig} {out : Out} {G : List DV → List DV} (hst : Stable I gK) (hS : SigsOK P I gK S F) (hf : P.funcs[f]? = some fn)
    (hev : evFn P S fuel fn sg = some out) (hlp : ∀ l ∈ out.loops, LoopSound F l)
    (hG : ∀ ds : List DV, ds.length = sg.nin → (sg.need = true → (dget (G ds) 0).toB = true) → ∃ ν : Nat → DV, Sat F ν out.nodes ∧ (∀ i, i < sg.nin → ν i = dget ds i) ∧
      owesB ν out.owes = true ∧ TEq sg.ots ((G ds).drop (if sg.need then 1 else 0)) (out.outs.map (A.den ν))) :
    FnOK P I gK f sg G := by
  intro ds ρ0 w hIw hlen hneed hKw hKW hgood hheap
  obtain ⟨ν, hsat, hin, howes, houts⟩ := hG ds hlen hneed
  generalize hE0 : callEnv sg.hinI ρ0 w = E at *
  have hEn : E.n0 = sg.hin.length := by rw [← hE0]; simp [callEnv, Sig.hinI]
  have hEw : E.w0 = w := by rw [← hE0]; rfl
  have hEρ : E.ρ0 = ρ0 := by rw [← hE0]; rfl
  have hEok : E.Ok gK := ⟨by rw [hEw]; exact hKw, hKW⟩
  have hI : ∀ w', Fr E.W E.w0 w' → I w' := fun w' h => by
    rw [hEw] at h
    exact hst w w' h.size (fun b hb => h.block b (by omega) (fun hW => by have := hKW b hW; omega)) hIw
  unfold evFn at hev
  cases hbody : fn.body with
  | none => simp [hbody] at hev
  | some c =>
    simp only [hbody] at hev
    split at hev
    rotate_left
    · cases hev
    rename_i hn0
    have hn0 : S.n0 = E.n0 := by rw [hEn]; exact Nat.eq_of_beq_eq_true hn0
    generalize hkp : (!(sg.hin.isEmpty && sg.hout.isEmpty)) = keep at hev
    have hk0 : keep = false → E.n0 = 0 := fun h => by
      rw [h] at hkp
      rw [hEn]
      cases hh : sg.hin with
      | nil => rfl
      | cons x l => rw [hh] at hkp; simp at hkp
    cases hrun : evBody P S fuel c fn.results.toList keep (sg.st0 fn.ntmps) sg.nin with
    | none => simp [hrun] at hev
    | some r =>
      obtain ⟨z, n', e, d⟩ := r
      simp only [hrun] at hev
      unfold outOf at hev
      dsimp only at hev
      generalize hg : guess sg.ots.length ⟨[some sg.out], sg.hout⟩ z = g at hev
      have hgl : g.1.length = sg.ots.length := by rw [← hg]; exact guess_len _ _ _
      split at hev
      rotate_left
      · cases hev
      rename_i hchk
      simp only [Option.some.injEq] at hev
      subst hev
      simp only at hsat howes houts hlp
      simp only [Bool.and_eq_true, St.inst, St.sub, Sig.ok] at hchk
      obtain ⟨⟨⟨⟨hs1, hs2⟩, hs3⟩, ⟨⟨⟨⟨⟨⟨⟨k1, k2⟩, k3⟩, k4⟩, _⟩, _⟩, _⟩, k8⟩⟩, hkc⟩ := hchk
      have key := body_sat (E := E) hS hEok hn0 hI hk0 sg.nin z n' e d hrun hsat (obs_split d (owesB_holds howes) hlp)
      -- where the results' values come from
      have hres : PEq ν (sg.res (G ds)) sg.ots g.1 (idsFrom 0 sg.ots.length) := by
        have hl : ((G ds).drop (if sg.need then 1 else 0)).length = sg.ots.length := by rw [houts.len]; simpa using hgl
        have hsame : (idsFrom 0 sg.ots.length).map (A.den (sg.res (G ds))) = (G ds).drop (if sg.need then 1 else 0) := by
          rw [idsFrom_den (sg.res (G ds)) sg.ots.length 0 0 (fun _ _ => rfl)]
          apply List.ext_getElem?
          intro i
          by_cases hi : i < sg.ots.length
          · rw [List.getElem?_map, List.getElem?_range' (by omega), List.getElem?_eq_getElem (l := (G ds).drop _) (by omega)]
            simp only [Option.map_some, Option.some.injEq, Sig.res, dget]
            rw [List.getElem_drop, List.getD_eq_getElem?_getD, List.getElem?_eq_getElem (by simp only [List.length_drop] at hl; omega)]
            simp only [Option.getD_some]
            congr 1
            omega
          · rw [List.getElem?_eq_none (by simpa using hi), List.getElem?_eq_none (by omega)]
        exact PEq.of_teq (by rw [hsame]; exact houts)
      -- the state the call begins in
      have hvals : sg.insI.map (V.conc ν ρ0) = sg.insI.map (V.conc (dget ds) ρ0) ∧ (∀ v ∈ sg.insI, V.good ν v) ∧ HRel E ν ρ0 sg.hinI w := by
        have hpi : PEq (dget ds) ν sg.its (idsFrom 0 sg.nin) (idsFrom 0 sg.nin) := by
          refine PEq.of_den (idsFrom_len _ _) ?_
          rw [idsFrom_den (dget ds) sg.nin 0 0 (fun _ _ => rfl), idsFrom_den (dget ds) sg.nin 0 0 (fun i hi => by rw [Nat.zero_add]; exact hin i hi)]
        obtain ⟨e1, e2⟩ := Vs.inst_to const_den hpi k1
        exact ⟨e1 ρ0, e2 hgood, HRel.inst const_den hpi k2 hheap⟩
      obtain ⟨hv1, hv2, hv3⟩ := hvals
      have hst0 : RR ν E ρ0 ⟨sg.st0 fn.ntmps, []⟩ { tmps := (sg.insI.map (V.conc (dget ds) ρ0)).toArray ++ Array.replicate (fn.ntmps - (sg.insI.map (V.conc (dget ds) ρ0)).toArray.size) undef, defers := [] } w := by
        refine ⟨⟨rfl, ?_, fun t v ht => ?_, fun e he => by cases he⟩, ⟨hv3, fun j bk hj => ?_, ?_, ?_, fun j _ => by rw [hEρ]⟩⟩
        · simp [Sig.st0, Sig.insI]
        · change nth ((sg.insI).map some ++ List.replicate (fn.ntmps - sg.insI.length) none) t = some v at ht
          rw [nth_append] at ht
          split at ht
          · rename_i hlt
            rw [nth_map_some] at ht
            refine ⟨hv2 v (List.mem_of_getElem? ht), ?_⟩
            have h1 : (sg.insI.map (V.conc (dget ds) ρ0))[t]? = some (v.conc ν ρ0) := by rw [← hv1]; simp [ht]
            simp only
            rw [Array.getElem?_append_left (by simp at hlt; simp; omega)]
            simpa using h1
          · rw [nth_replicate_none] at ht; cases ht
        · change nth sg.hinI j = some bk at hj
          cases hn : (ρ0 j).nil with
          | true => exact .inl rfl
          | false =>
            cases ho : bk.own with
            | true => exact .inr (.inr (.inl (by rw [← hE0]; exact ⟨j, bk, hj, ho, hn, rfl⟩)))
            | false => exact .inr (.inr (.inr ⟨rfl, by rw [← hE0]; exact ⟨j, bk, hj, ho, hn, rfl⟩⟩))
        · rw [hEw]; exact Fr.refl _ _
        · rw [hEn]; simp [Sig.st0]
      refine calls_of_wp hf hbody ?_
      refine wp_mono (key ρ0 _ w hst0) ?_
      intro e a' w' ⟨he, hd, v, vals, ρ', h1, h2, h3⟩
      have hout : ∃ v ρ', (results fn a'.tmps).run P w' = .ok v w' ∧ CallOut sg (G ds) ρ0 w v ρ' w' := by
        obtain ⟨_, q2⟩ := slotsSub_spec hs1
        obtain ⟨u, q3, q4⟩ := q2 0 (sg.out.inst g.1) rfl
        obtain ⟨q5, q6⟩ := V.sub_spec (ν := ν) q4
        obtain ⟨q7, q8⟩ := h3.act.slot 0 u q3
        have q9 : v = u.conc ν ρ' := by
          have : (oneAct v).tmps[0]? = some v := rfl
          rw [this] at q8
          exact Option.some.inj q8
        obtain ⟨c1, c2⟩ := V.inst_to const_den hres k3
        have hh1 : HRel E ν (fun j => ρ' (rnm g.2 j)) (sg.hout.map (Option.map (Blk.inst g.1))) w' := h3.hs.heap.sub hs2 hs3
        refine ⟨v, fun j => ρ' (rnm g.2 j), by rw [results_of h1, h2], ?_, c2 (q6 q7), ?_, ?_, ?_, fun j hj hjl => ?_⟩
        · unfold Sig.outI
          rw [c1, q5 ρ']
          exact q9
        · rw [hE0]
          exact HRel.inst const_den hres k4 hh1
        · rw [hE0]
          have := OldF.inst (bs := idsFrom 0 sg.ots.length) (h3.hs.old.sub hs2)
          rw [hEw] at this
          exact this
        · rw [hE0]
          have := h3.hs.fr
          rw [hEw] at this
          exact this
        · have e1 := keepsC_spec hkc j hjl (by rwa [Nat.zero_add])
          rw [Nat.zero_add] at e1
          obtain ⟨x, hx⟩ := stays_lt hj
          have := h3.hs.keep j (by rw [hEn]; exact nth_lt hx)
          simp only [e1]
          rw [this, hEρ]
      obtain ⟨v2, ρ2, h4, h5⟩ := hout
      rcases he with rfl | rfl
      · exact ⟨hd, v2, h4, v2, ρ2, rfl, h5⟩
      · exact ⟨hd, v2, h4, v2, ρ2, rfl, h5⟩
theorem fn_ok {fuel : Nat} {f : FuncId} {fn : Func} {sg : Sig} {out : Out} {G : List DV → List DV} (hst : Stable I gK) (hS : SigsOK P I gK S F) (hf : P.funcs[f]? = some fn)
    (hev : evFn P S fuel fn sg = some out) (hwf : wfNodes sg.nin out.nodes = true) (hlp : ∀ l ∈ out.loops, LoopSound F l)
    (hG : ∀ ds : List DV, ds.length = sg.nin → (sg.need = true → (dget (G ds) 0).toB = true) →
      owesB (outEnv F sg out ds) out.owes = true ∧
      TEq sg.ots ((G ds).drop (if sg.need then 1 else 0)) (out.outs.map (A.den (outEnv F sg out ds)))) :
    FnOK P I gK f sg G :=
  fn_okE hst hS hf hev hlp fun ds hlen hneed => by
    obtain ⟨howes, houts⟩ := hG ds hlen hneed
    obtain ⟨hl2, hsat⟩ := evalNodes_spec (F := F) (base := fun _ => default) (n0 := 0) (vs := ds.reverse) (n := sg.nin) (by omega) hwf
    change Sat F (outEnv F sg out ds) out.nodes at hsat
    have hl2' : ∀ i, i < sg.nin → outEnv F sg out ds i = look (fun _ => default) 0 ds.reverse sg.nin i := hl2
    refine ⟨outEnv F sg out ds, hsat, fun i hi => ?_, howes, houts⟩
    rw [hl2' i hi, look_list (by omega)]
    unfold dget
    simp only [List.getD_eq_getElem?_getD]
    rw [List.getElem?_reverse (by omega), hlen]
    congr 2
    omega
end

def segD (y : List DV) (j k : Nat) : List DV := (List.range' j k).map (dget y)
def callsAt (i f : Nat) (args : List A) (j : Nat) : Nat → Em
  | 0 => []
  | k + 1 => (i, .call f args j) :: callsAt (i + 1) f args (j + 1) k
end Go.Sx

namespace Go.Sx

section
variable (w c : List DV → Bool) (nx out : List DV → List DV)

def liter : Nat → List DV → Option (List DV)
  | 0, _ => none
  | n + 1, s => if w s then (if c s then liter n (nx s) else some (out s)) else none
def lcnt : Nat → List DV → Nat
  | 0, _ => 0
  | n + 1, s => if c s then lcnt n (nx s) + 1 else 0

open Classical in
noncomputable def lfuel (s : List DV) : Nat := if h : ∃ n r, liter w c nx out n s = some r then Classical.choose h else 0
noncomputable def loopG (s : List DV) : Option (List DV) := liter w c nx out (lfuel w c nx out s) s

variable {w c : List DV → Bool} {nx out : List DV → List DV}

theorem liter_more : ∀ {n : Nat} {s r : List DV}, liter w c nx out n s = some r → liter w c nx out (n + 1) s = some r
  | 0, _, _, h => by cases h
  | n + 1, s, r, h => by
    simp only [liter] at h
    rw [liter]
    split at h
    · rename_i h1
      rw [if_pos h1]
      split at h
      · rename_i h2
        rw [if_pos h2]
        exact liter_more h
      · rename_i h2
        rw [if_neg h2]
        exact h
    · cases h
theorem liter_le {n m : Nat} {s r : List DV} (hl : n ≤ m) (h : liter w c nx out n s = some r) : liter w c nx out m s = some r := by
  induction hl with
  | refl => exact h
  | step _ ih => exact liter_more ih
theorem liter_one {n m : Nat} {s r r' : List DV} (h : liter w c nx out n s = some r) (h' : liter w c nx out m s = some r') : r = r' := by
  have h1 := liter_le (Nat.le_max_left n m) h
  have h2 := liter_le (Nat.le_max_right n m) h'
  exact Option.some.inj (h1.symm.trans h2)
theorem lcnt_one : ∀ {n m : Nat} {s r r' : List DV}, liter w c nx out n s = some r → liter w c nx out m s = some r' → lcnt c nx n s = lcnt c nx m s
  | 0, _, _, _, _, h, _ => by cases h
  | _ + 1, 0, _, _, _, _, h => by cases h
  | n + 1, m + 1, s, r, r', h, h' => by
    simp only [liter] at h h'
    simp only [lcnt]
    split at h
    · rename_i h1
      rw [if_pos h1] at h'
      split at h
      · rename_i h2
        rw [if_pos h2] at h'
        rw [if_pos h2, if_pos h2, lcnt_one h h']
      · rename_i h2
        rw [if_neg h2, if_neg h2]
    · cases h

theorem loopG_of {n : Nat} {s r : List DV} (h : liter w c nx out n s = some r) : loopG w c nx out s = some r := by
  have he : ∃ n r, liter w c nx out n s = some r := ⟨n, r, h⟩
  unfold loopG lfuel
  rw [dif_pos he]
  obtain ⟨r', hr'⟩ := Classical.choose_spec he
  rw [hr', liter_one hr' h]
theorem loopG_next {s : List DV} (h1 : w s = true) (h2 : c s = true) : loopG w c nx out s = loopG w c nx out (nx s) := by
  cases h : loopG w c nx out (nx s) with
  | some r => exact loopG_of (n := lfuel w c nx out (nx s) + 1) (by simp only [liter, h1, h2, if_true]; exact h)
  | none =>
    cases h' : loopG w c nx out s with
    | none => rfl
    | some r =>
      unfold loopG at h'
      cases hn : lfuel w c nx out s with
      | zero => rw [hn] at h'; cases h'
      | succ n =>
        rw [hn] at h'
        simp only [liter, h1, h2, if_true] at h'
        rw [loopG_of h'] at h
        cases h
theorem loopG_last {s : List DV} (h1 : w s = true) (h2 : c s = false) : loopG w c nx out s = some (out s) := loopG_of (n := 1) (by simp [liter, h1, h2])
theorem loopG_w {s r : List DV} (h : loopG w c nx out s = some r) : w s = true := by
  unfold loopG at h
  cases hn : lfuel w c nx out s with
  | zero => rw [hn] at h; cases h
  | succ n =>
    rw [hn] at h
    simp only [liter] at h
    split at h
    · assumption
    · cases h
noncomputable def lmu (w c : List DV → Bool) (nx out : List DV → List DV) (s : List DV) : Nat := lcnt c nx (lfuel w c nx out s) s
theorem lmu_next {s r : List DV} (h : loopG w c nx out s = some r) (h2 : c s = true) : lmu w c nx out (nx s) < lmu w c nx out s := by
  have h1 := loopG_w h
  have h3 : loopG w c nx out (nx s) = some r := (loopG_next h1 h2).symm.trans h
  unfold lmu
  unfold loopG at h h3
  cases hn : lfuel w c nx out s with
  | zero => rw [hn] at h; cases h
  | succ n =>
    rw [hn] at h
    simp only [liter, h1, h2, if_true] at h
    simp only [lcnt, h2, if_true]
    rw [lcnt_one h3 h]
    omega
end

def nrmsAt : Nat → List Ty → List DV → List DV
  | _, [], _ => []
  | i, t :: ts, ds => nrm t (ds.getD i default) :: nrmsAt (i + 1) ts ds
def nrms (ts : List Ty) (ds : List DV) : List DV := nrmsAt 0 ts ds

theorem nrmsAt_get : ∀ (i : Nat) (ts : List Ty) (ds : List DV) (j : Nat), (nrmsAt i ts ds)[j]? = ts[j]?.map fun t => nrm t (ds.getD (i + j) default)
  | _, [], _, j => by simp [nrmsAt]
  | i, t :: ts, ds, 0 => by simp [nrmsAt]
  | i, t :: ts, ds, j + 1 => by
    simp only [nrmsAt, List.getElem?_cons_succ]
    rw [nrmsAt_get (i + 1) ts ds j, show i + 1 + j = i + (j + 1) from by omega]
theorem nrms_get (ts : List Ty) (ds : List DV) (j : Nat) : (nrms ts ds)[j]? = ts[j]?.map fun t => nrm t (ds.getD j default) := by
  unfold nrms
  rw [nrmsAt_get, Nat.zero_add]
theorem nrm_nrm (t : Ty) (d : DV) : nrm t (nrm t d) = nrm t d := by cases t <;> rfl
theorem nrm_eq {t : Ty} {d e : DV} (h : nrm t d = nrm t e) : t.eqAt d e := by
  cases t <;> simpa [nrm, Ty.eqAt] using h
theorem nrms_len (ts : List Ty) (ds : List DV) : (nrms ts ds).length = ts.length := by
  have key : ∀ (i : Nat) (ts : List Ty), (nrmsAt i ts ds).length = ts.length := fun i ts => by
    induction ts generalizing i with
    | nil => rfl
    | cons t ts ih => simp [nrmsAt, ih]
  exact key 0 ts
theorem nrms_nrms (ts : List Ty) (ds : List DV) : nrms ts (nrms ts ds) = nrms ts ds := by
  apply List.ext_getElem?
  intro j
  rw [nrms_get, nrms_get]
  cases h : ts[j]? with
  | none => rfl
  | some t =>
    simp only [Option.map_some, Option.some.injEq]
    rw [List.getD_eq_getElem?_getD, nrms_get, h]
    simp [nrm_nrm]
theorem teq_of_get : ∀ {ts : List Ty} {as bs : List DV}, as.length = ts.length → bs.length = ts.length →
    (∀ (j : Nat) (t : Ty), ts[j]? = some t → nrm t (as.getD j default) = nrm t (bs.getD j default)) → TEq ts as bs
  | [], [], [], _, _, _ => trivial
  | t :: ts, a :: as, b :: bs, h1, h2, h => by
    refine ⟨nrm_eq (by simpa using h 0 t rfl), teq_of_get (by simpa using h1) (by simpa using h2) fun j t' ht => ?_⟩
    have := h (j + 1) t' (by simpa using ht)
    simpa using this
  | [], _ :: _, _, h, _, _ => by simp at h
  | [], [], _ :: _, _, h, _ => by simp at h
  | _ :: _, [], _, h, _, _ => by simp at h
  | _ :: _, _ :: _, [], _, h, _ => by simp at h
theorem nrms_teq {ts : List Ty} {as bs : List DV} (h : nrms ts as = nrms ts bs) (h1 : as.length = ts.length) (h2 : bs.length = ts.length) : TEq ts as bs :=
  teq_of_get h1 h2 fun j t ht => by
    have := congrArg (fun l => l[j]?) h
    simp only [nrms_get, ht, Option.map_some, Option.some.injEq] at this
    exact this

noncomputable def wrapG (ots : List Ty) (o : Option (List DV)) : List DV := .b o.isSome :: nrms ots (o.getD [])

theorem loop_ok {F : FEnv} {l : LR} {w c : List DV → Bool} {nx out : List DV → List DV} (tys : List Ty)
    (hF : ∀ ds, F l.fid ds = wrapG (.i :: l.ts) (loopG w c nx out (nrms tys ds)))
    (hlen : l.outs.length = l.ts.length + 1)
    (hw : ∀ ν xs, xs.length = l.k → owesB (l.env F ν xs) l.owes = w (nrms tys (l.inv.map ν ++ xs)))
    (hc : ∀ ν xs, xs.length = l.k → l.c.bool (l.env F ν xs) = c (nrms tys (l.inv.map ν ++ xs)))
    (hn : ∀ ν xs, xs.length = l.k → nrms tys (l.inv.map ν ++ l.nx.map (A.den (l.env F ν xs))) = nx (nrms tys (l.inv.map ν ++ xs)))
    (ho : ∀ ν xs, xs.length = l.k → nrms (.i :: l.ts) (l.outs.map (A.den (l.env F ν xs))) = out (nrms tys (l.inv.map ν ++ xs))) : LoopSound F l := by
  refine ⟨fun raw => lmu w c nx out (nrms tys raw), fun ν xs hx hp => ?_⟩
  rw [hF] at hp
  generalize hs : nrms tys (l.inv.map ν ++ xs) = s at *
  cases hl : loopG w c nx out s with
  | none => rw [hl] at hp; cases hp
  | some r =>
    have h1 := loopG_w hl
    refine ⟨owesB_holds (by rw [hw ν xs hx, hs]; exact h1), fun h2 => ?_, fun h2 => ?_⟩
    · rw [hc ν xs hx, hs] at h2
      have h3 := hn ν xs hx
      rw [hs] at h3
      rw [hF, hF, h3, hs, ← loopG_next h1 h2, hl]
      exact ⟨rfl, rfl, by show lmu w c nx out (nrms tys _) < lmu w c nx out (nrms tys _); rw [h3, hs]; exact lmu_next hl h2⟩
    · rw [hc ν xs hx, hs] at h2
      rw [hF, hs, loopG_last h1 h2]
      show TEq _ (nrms (.i :: l.ts) (out s)) _
      refine nrms_teq ?_ (by simp [nrms_len]) (by simpa using hlen)
      rw [nrms_nrms, ho ν xs hx, hs]
      have h4 := ho ν xs hx
      rw [hs] at h4
      rw [← h4, nrms_nrms]
end Go.Sx

