/- Regions whose order is drawn, with stores among operations that look at no memory. -/
import Derived.Test.YtacciadcmiiimaaSyTail
namespace Go.Sx
open Go.RowKit

/-! ### What is listed -/
/-- What is listed waits for nothing that is not. -/
def Closed (ops : Array Oper) (listed : Array Bool) : Prop := ∀ (i : Nat) (o : Oper), ops[i]? = some o → listed.getD i false = true → ∀ e ∈ o.after, Region.binds .any e = true → listed.getD e.on false = true

theorem getD_set_true {l : Array Bool} {i j : Nat} (h : l.getD j false = true) : (l.setIfInBounds i true).getD j false = true := by
  by_cases hij : i = j
  · subst hij
    have : i < l.size := by
      rcases Nat.lt_or_ge i l.size with h1 | h1
      · exact h1
      · rw [Array.getD_eq_getD_getElem?, Array.getElem?_eq_none h1] at h; cases h
    rw [Array.getD_eq_getD_getElem?, Array.getElem?_setIfInBounds_self_of_lt this]
    rfl
  · rw [Array.getD_eq_getD_getElem?, Array.getElem?_setIfInBounds_ne hij, ← Array.getD_eq_getD_getElem?]
    exact h
theorem getD_set_of {l : Array Bool} {i j : Nat} (h : (l.setIfInBounds i true).getD j false = true) : j = i ∨ l.getD j false = true := by
  by_cases hij : i = j
  · exact .inl hij.symm
  · rw [Array.getD_eq_getD_getElem?, Array.getElem?_setIfInBounds_ne hij, ← Array.getD_eq_getD_getElem?] at h
    exact .inr h

theorem Closed.set {ops : Array Oper} {listed : Array Bool} (h : Closed ops listed) {i : Nat} (hi : i ∈ Region.ready .any ops listed) : Closed ops (listed.setIfInBounds i true) := by
  intro j o ho hj e he hb
  obtain ⟨_, oi, h2, h3⟩ := mem_ready.1 hi
  rcases getD_set_of hj with rfl | hj
  · rw [h2] at ho; cases ho
    exact getD_set_true (h3 e he hb)
  · exact getD_set_true (h j o ho hj e he hb)

theorem memN_mem {n : Nat} : ∀ {l : List Nat}, memN n l = true → n ∈ l
  | [], h => by cases h
  | x :: l, h => by
    simp only [memN, Bool.or_eq_true] at h
    rcases h with h | h
    · rw [Nat.eq_of_beq_eq_true h]; simp
    · exact List.mem_cons_of_mem _ (memN_mem h)

theorem depsOf_mem {o : Oper} {x : Nat} (h : x ∈ depsOf o) : ∃ e ∈ o.after, Region.binds .any e = true ∧ e.on = x := by
  unfold depsOf at h
  obtain ⟨e, he, rfl⟩ := List.mem_map.1 h
  obtain ⟨h1, h2⟩ := List.mem_filter.1 he
  exact ⟨e, by simpa using h1, h2, rfl⟩

theorem reach_listed {ops : Array Oper} {listed : Array Bool} (hc : Closed ops listed) : ∀ (n : Nat) (l : List Nat), (∀ x ∈ l, listed.getD x false = true) → ∀ x ∈ reachFrom ops.toList n l, listed.getD x false = true
  | 0, l, h, x, hx => h x hx
  | n + 1, l, h, x, hx => by
    simp only [reachFrom] at hx
    split at hx
    · rename_i hm
      refine reach_listed hc n _ (fun y hy => ?_) x hx
      rcases List.mem_append.1 hy with hy | hy
      · cases ho : ops.toList[n]? with
        | none => rw [ho] at hy; cases hy
        | some o =>
          rw [ho] at hy
          obtain ⟨e, he, hb, rfl⟩ := depsOf_mem hy
          exact hc n o (by simpa using ho) (h n (memN_mem hm)) e he hb
      · exact h y hy
    · exact reach_listed hc n l h x hx

/-- What an operation that is ready waits for, all along, is listed. -/
theorem anc_listed {ops : Array Oper} {listed : Array Bool} (hc : Closed ops listed) {i : Nat} {o : Oper} (ho : ops[i]? = some o) (hi : i ∈ Region.ready .any ops listed) : ∀ x ∈ reachFrom ops.toList i (depsOf o), listed.getD x false = true := by
  refine reach_listed hc i _ fun x hx => ?_
  obtain ⟨e, he, hb, rfl⟩ := depsOf_mem hx
  obtain ⟨_, oi, h2, h3⟩ := mem_ready.1 hi
  rw [ho] at h2; cases h2
  exact h3 e he hb

/-! ### A way on to the end -/
section
variable {P : Program}

theorem put_tmps_ne {a : Act} {d : Option Tmp} {v : Value} {t : Nat} (h : d ≠ some t) : (a.put d v).tmps[t]? = a.tmps[t]? := by
  cases d with
  | none => rfl
  | some d =>
    show (a.tmps.setIfInBounds d v)[t]? = _
    rw [Array.getElem?_setIfInBounds_ne (fun e => h (by rw [e]))]

theorem end_of_quiet {ops : Array Oper} {C : World → Prop} {Q : Act → Prop} : ∀ (fuel : Nat) (listed : Array Bool) (a : Act), wpAnyQ P .any ops C Q fuel listed a →
    ∃ a', Q a' ∧ ∀ t, (∀ (j : Nat) (o : Oper), ops[j]? = some o → o.dst = some t → listed.getD j true = true) → a'.tmps[t]? = a.tmps[t]?
  | 0, listed, a, h => ⟨a, h.2, fun _ _ => rfl⟩
  | fuel + 1, listed, a, h => by
    cases hr : Region.ready .any ops listed with
    | nil => exact ⟨a, h.1 hr, fun _ _ => rfl⟩
    | cons i l =>
      have hi : i ∈ Region.ready .any ops listed := by rw [hr]; simp
      obtain ⟨hnl, oi, hoi, _⟩ := mem_ready.1 hi
      have hq := h.2 i hi
      unfold qOp at hq
      rw [hoi] at hq
      simp only at hq
      have step : ∀ v : Value, wpAnyQ P .any ops C Q fuel (listed.setIfInBounds i true) (a.put oi.dst v) → ∃ a', Q a' ∧ ∀ t, (∀ (j : Nat) (o : Oper), ops[j]? = some o → o.dst = some t → listed.getD j true = true) → a'.tmps[t]? = a.tmps[t]? := by
        intro v hv
        obtain ⟨a', h1, h2⟩ := end_of_quiet fuel _ _ hv
        refine ⟨a', h1, fun t ht => ?_⟩
        have hne : oi.dst ≠ some t := fun e => by have := ht i oi hoi e; rw [hnl] at this; cases this
        rw [h2 t (fun j o ho hd => ?_), put_tmps_ne hne]
        have h3 := ht j o ho hd
        by_cases hij : i = j
        · subst hij; rw [hnl] at h3; cases h3
        · rw [Array.getD_eq_getD_getElem?, Array.getElem?_setIfInBounds_ne hij, ← Array.getD_eq_getD_getElem?]
          exact h3
      split at hq
      · obtain ⟨v, _, h2⟩ := hq
        exact step v h2
      · exact step _ hq

/-! ### Stores among them -/
theorem act_put_none (a : Act) (v : Value) : a.put none v = a := rfl

theorem yielded_congr {ops ops' : Array Oper} (h : ∀ j : Nat, (ops'[j]?).bind (·.dst) = (ops[j]?).bind (·.dst)) (tmps : Array Value) : yielded ops' tmps = yielded ops tmps := by
  funext j
  unfold yielded
  rw [h j]

theorem wpAny_mixed {ops ops' : Array Oper} {st : List Nat} {C : World → Prop} {D : Nat → World → Prop} {Qf : Act → Prop} {Q' : Exit → Act → World → Prop} (hb : BackOk .any ops)
    (hready : ∀ listed, Region.ready .any ops' listed = Region.ready .any ops listed) (hdst : ∀ j : Nat, (ops'[j]?).bind (·.dst) = (ops[j]?).bind (·.dst))
    (hns : ∀ i : Nat, i ∉ st → ops'[i]? = ops[i]?) (hst : ∀ i ∈ st, ∃ o o' : Oper, ops[i]? = some o ∧ ops'[i]? = some o' ∧ o.guard = none ∧ o'.dst = o.dst ∧ o'.guard = none)
    (hCD : ∀ k w, k ≤ st.length → D k w → C w)
    (hpure : ∀ (i : Nat) (o : Oper), i ∉ st → ops[i]? = some o → ∀ (a : Act) (w : World) f args w', (execOp a.eval o).run P w ≠ .ok (.enter f args) w')
    (hprev : ∀ (p q : Nat) (i j : Nat), p < q → st[p]? = some i → st[q]? = some j → ∀ listed, Closed ops listed → j ∈ Region.ready .any ops listed → listed.getD i false = true)
    (hop : ∀ (i : Nat) (o : Oper), i ∈ st → ops[i]? = some o → ∀ listed, Closed ops listed → i ∈ Region.ready .any ops listed → ∀ t ∈ storeTmps o.op, ∀ (j : Nat) (o' : Oper), ops[j]? = some o' → o'.dst = some t → listed.getD j false = true)
    (hstep : ∀ (k i : Nat) (o o' : Oper), st[k]? = some i → ops[i]? = some o → ops'[i]? = some o' →
      (o.dst = none ∧ ∀ a a' : Act, Qf a' → (∀ t ∈ storeTmps o.op, a'.tmps[t]? = a.tmps[t]?) → ∀ w, D k w → ∃ w', (execOp a.eval o).run P w = .ok .skip w' ∧ D (k + 1) w') ∨
      (∃ v, (∀ (a : Act) (w : World), (execOp a.eval o').run P w = .ok (.value v) w) ∧ ∀ (a : Act) w, D k w → ∃ w', (execOp a.eval o).run P w = .ok (.value v) w' ∧ D (k + 1) w'))
    (hQ : ∀ a w, Qf a → D st.length w → Q' .normal a w) :
    ∀ (fuel : Nat) (listed : Array Bool) (a : Act) (w : World) (k : Nat), listed.size = ops.size → Closed ops listed → k ≤ st.length → (∀ p i, p < k → st[p]? = some i → listed.getD i false = true) → (∀ p i, k ≤ p → st[p]? = some i → listed.getD i false = false) →
      D k w → wpAnyQ P .any ops' C Qf fuel listed a → wpAny P .any ops Q' fuel listed a w := by
  have hfin : ∀ (listed : Array Bool) (k : Nat), listed.size = ops.size → k ≤ st.length → (∀ p i, k ≤ p → st[p]? = some i → listed.getD i false = false) → Region.ready .any ops listed = [] → k = st.length := by
    intro listed k hs hk h2 h0
    rcases Nat.lt_or_ge k st.length with h | h
    · have hi := List.getElem?_eq_getElem h
      have h3 := h2 k _ (Nat.le_refl _) hi
      obtain ⟨o, _, ho, _⟩ := hst _ (List.mem_of_getElem? hi)
      have hlt : st[k] < ops.size := by
        rcases Nat.lt_or_ge st[k] ops.size with h | h
        · exact h
        · rw [Array.getElem?_eq_none h] at ho; cases ho
      rw [all_listed hs hb h0 _ hlt] at h3
      cases h3
    · omega
  intro fuel
  induction fuel with
  | zero =>
    intro listed a w k hs hcl hk h1 h2 hd h
    have h0 := h.1
    rw [hready] at h0
    have := hfin listed k hs hk h2 h0
    subst this
    exact ⟨h0, hQ a w h.2 hd⟩
  | succ fuel ih =>
    intro listed a w k hs hcl hk h1 h2 hd h
    refine ⟨fun h0 => ?_, fun i hi => ?_⟩
    · have := hfin listed k hs hk h2 h0
      subst this
      exact hQ a w (h.1 (by rw [hready]; exact h0)) hd
    · have hq := h.2 i (by rw [hready]; exact hi)
      have hs' : (listed.setIfInBounds i true).size = ops.size := by simpa using hs
      have hcl' := hcl.set hi
      obtain ⟨hnl, oi, hoi, _⟩ := mem_ready.1 hi
      have hil : i < ops.size := by
        rcases Nat.lt_or_ge i ops.size with h | h
        · exact h
        · rw [Array.getElem?_eq_none h] at hoi; cases hoi
      by_cases him : i ∈ st
      · obtain ⟨p, hp, hpi⟩ := List.mem_iff_getElem.1 him
        have hpi' : st[p]? = some i := by rw [List.getElem?_eq_getElem hp, hpi]
        have hnl' : listed.getD i false = false := by rw [← getD_true_false (by omega)]; exact hnl
        have hkp : k = p := by
          rcases Nat.lt_trichotomy k p with hlt | heq | hgt
          · have hq2 := List.getElem?_eq_getElem (show k < st.length by omega)
            have e1 := hprev k p _ i hlt hq2 hpi' listed hcl hi
            rw [h2 k _ (Nat.le_refl _) hq2] at e1
            cases e1
          · exact heq
          · rw [h1 p i hgt hpi'] at hnl'
            cases hnl'
        subst hkp
        obtain ⟨o, o', e1, e2, e4, e5, e6⟩ := hst i him
        rw [hoi] at e1; cases e1
        have hwd : Region.wanted oi (yielded ops a.tmps) = true := by simp [Region.wanted, e4]
        have hwd' : Region.wanted o' (yielded ops' a.tmps) = true := by simp [Region.wanted, e6]
        -- all that goes on behind
        have behind : ∀ a1 w', D (k + 1) w' → wpAnyQ P .any ops' C Qf fuel (listed.setIfInBounds i true) a1 → wpAny P .any ops Q' fuel (listed.setIfInBounds i true) a1 w' := fun a1 w' hd' hnext => by
          refine ih _ a1 w' (k + 1) hs' hcl' (by omega) (fun q j hq1 hq2 => ?_) (fun q j hq1 hq2 => ?_) hd' hnext
          · rcases Nat.lt_or_ge q k with hqk | hqk
            · exact getD_set_true (h1 q j hqk hq2)
            · have : q = k := by omega
              subst this
              rw [hpi'] at hq2; cases hq2
              rw [Array.getD_eq_getD_getElem?, Array.getElem?_setIfInBounds_self_of_lt (by omega)]
              rfl
          · cases hj : (listed.setIfInBounds i true).getD j false with
            | false => rfl
            | true =>
              rcases getD_set_of hj with rfl | hj
              · have e7 := hprev k q j j (by omega) hpi' hq2 listed hcl hi
                rw [hnl'] at e7; cases e7
              · rw [h2 q j (by omega) hq2] at hj; cases hj
        unfold qOp at hq
        rw [e2] at hq
        simp only at hq
        rw [if_pos hwd'] at hq
        obtain ⟨v, hv, h4⟩ := hq
        rw [e5] at h4
        unfold wpOp
        rw [hoi]
        simp only
        rw [if_pos hwd]
        refine .inl ?_
        unfold Oper.wp
        rcases hstep k i oi o' hpi' hoi e2 with ⟨e3, hstep⟩ | ⟨u, hu, hstep⟩
        · rw [e3] at h4
          have hnext : wpAnyQ P .any ops' C Qf fuel (listed.setIfInBounds i true) a := h4
          obtain ⟨a', ha', htm⟩ := end_of_quiet fuel _ _ hnext
          obtain ⟨w', hrun, hd'⟩ := hstep a a' ha' (fun t ht => htm t fun j o'' ho'' hd'' => by
            have hjd : (ops[j]?).bind (·.dst) = some t := by rw [← hdst j, ho'']; exact hd''
            cases hoj : ops[j]? with
            | none => rw [hoj] at hjd; cases hjd
            | some oj =>
              rw [hoj] at hjd
              have hjl : j < listed.size := by
                rcases Nat.lt_or_ge j ops.size with h | h
                · omega
                · rw [Array.getElem?_eq_none h] at hoj; cases hoj
              have := getD_set_true (i := i) (hop i oi him hoi listed hcl hi t ht j oj hoj hjd)
              rw [getD_true_false (by simpa using hjl)]
              exact this) w hd
          rw [hrun]
          show wpAny P .any ops Q' fuel (listed.setIfInBounds i true) (a.put oi.dst undef) w'
          rw [e3]
          exact behind a w' hd' hnext
        · obtain ⟨w', hrun, hd'⟩ := hstep a w hd
          have hvu : u = v := by
            have h3 := hv w (hCD k w hk hd)
            unfold Oper.quietAt at h3
            rw [hu a w] at h3
            exact h3.2
          subst hvu
          rw [hrun]
          show wpAny P .any ops Q' fuel (listed.setIfInBounds i true) (a.put oi.dst u) w'
          exact behind _ w' hd' h4
      · have hin : ∀ q j, st[q]? = some j → j ≠ i := fun q j hj e => him (e ▸ List.mem_of_getElem? hj)
        have fin : ∀ a', wpAnyQ P .any ops' C Qf fuel (listed.setIfInBounds i true) a' → wpAny P .any ops Q' fuel (listed.setIfInBounds i true) a' w := fun a' h' =>
          ih _ a' w k hs' hcl' hk (fun q j hq1 hq2 => getD_set_true (h1 q j hq1 hq2)) (fun q j hq1 hq2 => by
            cases hj : (listed.setIfInBounds i true).getD j false with
            | false => rfl
            | true =>
              rcases getD_set_of hj with e | hj
              · exact absurd e (hin q j hq2)
              · rw [h2 q j hq1 hq2] at hj; cases hj) hd h'
        unfold qOp at hq
        rw [hns i him, hoi] at hq
        simp only [yielded_congr hdst] at hq
        unfold wpOp
        rw [hoi]
        simp only
        split
        · rename_i hwt
          rw [if_pos hwt] at hq
          obtain ⟨v, hv1, hv2⟩ := hq
          refine .inl ?_
          have h3 := hv1 w (hCD k w hk hd)
          have hne := hpure i oi him hoi a w
          unfold Oper.quietAt at h3
          unfold Oper.wp
          generalize (execOp a.eval oi).run P w = r at *
          cases r with
          | ok n w' =>
            cases n <;> simp only [Oper.quietUpon] at h3 <;> simp only [Oper.upon]
            case value u =>
              obtain ⟨e1, e2⟩ := h3
              rw [e1, e2]
              exact fin _ hv2
            case skip =>
              obtain ⟨e1, e2⟩ := h3
              rw [e1, ← e2]
              exact fin _ hv2
            case enter f args => exact absurd rfl (hne f args w')
          | halt x w' => simp only [Oper.quietUpon] at h3
        · rename_i hwt
          rw [if_neg hwt] at hq
          exact fin _ hq
end
end Go.Sx
