/- A region whose order is drawn and that ends in operations that wait for all others: the order of the others alone is open. -/
import Derived.Test.YtacciadcmiiimaaSyCode
namespace Go.Sx
open Go.RowKit
section
variable {P : Program} {md : Region.Mode}

theorem upon_mono {o : Oper} {a : Act} {K K' : Act → World → Prop} {Q Q' : Exit → Act → World → Prop} {r : Result Next} (hk : ∀ a w, K a w → K' a w) (hq : ∀ e a w, e ≠ .normal → Q e a w → Q' e a w)
    (h : o.upon P a K Q r) : o.upon P a K' Q' r := by
  have hl : LetsOut Q → LetsOut Q' := fun ⟨a, w, h⟩ => ⟨a, w, hq _ a w (by simp) h⟩
  cases r with
  | ok n w' =>
    cases n <;> simp only [Oper.upon] at h ⊢ <;>
      first
        | exact hk _ _ h
        | exact Calls.mono h (fun e w'' he => by cases e <;> first | exact hk _ _ he | exact hq _ _ _ (by simp) he | exact hl he)
        | exact Rows.mono h (fun _ _ he => hk _ _ he)
  | halt x w' => cases x <;> simp only [Oper.upon] at h ⊢ <;> first | exact hq _ _ _ (by simp) h | exact h

theorem operWp_mono {o : Oper} {a : Act} {w : World} {K K' : Act → World → Prop} {Q Q' : Exit → Act → World → Prop} (hk : ∀ a w, K a w → K' a w) (hq : ∀ e a w, e ≠ .normal → Q e a w → Q' e a w)
    (h : o.wp P a w K Q ∨ (o.asks P a w ∧ LetsOut Q)) : o.wp P a w K' Q' ∨ (o.asks P a w ∧ LetsOut Q') := by
  rcases h with h | ⟨h1, a', w', h2⟩
  · exact .inl (upon_mono hk hq h)
  · exact .inr ⟨h1, a', w', hq _ _ _ (by simp) h2⟩

theorem wpOp_change {ops ops' : Array Oper} {i : Nat} {a : Act} {w : World} {K K' : Act → World → Prop} {Q Q' : Exit → Act → World → Prop} (ho : ops'[i]? = ops[i]?)
    (hg : ∀ o, ops[i]? = some o → Region.wanted o (yielded ops' a.tmps) = Region.wanted o (yielded ops a.tmps)) (hk : ∀ a w, K a w → K' a w) (hq : ∀ e a w, e ≠ .normal → Q e a w → Q' e a w)
    (h : wpOp P ops Q i K a w) : wpOp P ops' Q' i K' a w := by
  unfold wpOp at h ⊢
  rw [ho]
  cases hop : ops[i]? with
  | none => simp only [hop] at h ⊢; exact hk _ _ h
  | some o =>
    simp only [hop] at h ⊢
    rw [hg o hop]
    split
    · rename_i hw; simp only [hw, if_true] at h; exact operWp_mono hk hq h
    · rename_i hw; simp only [hw] at h; exact hk _ _ h

theorem wpAny_mono {ops : Array Oper} {Q Q' : Exit → Act → World → Prop} (hq : ∀ e a w, Q e a w → Q' e a w) : ∀ (fuel : Nat) (listed : Array Bool) (a : Act) (w : World), wpAny P md ops Q fuel listed a w → wpAny P md ops Q' fuel listed a w
  | 0, _, _, _, h => ⟨h.1, hq _ _ _ h.2⟩
  | fuel + 1, _, _, _, h => ⟨fun h0 => hq _ _ _ (h.1 h0), fun i hi => wpOp_change rfl (fun _ _ => rfl) (wpAny_mono hq fuel _) (fun e a w _ => hq e a w) (h.2 i hi)⟩

theorem getD_push_false (l : Array Bool) (j : Nat) : (l.push false).getD j false = l.getD j false := by
  rw [Array.getD_eq_getD_getElem?, Array.getD_eq_getD_getElem?, Array.getElem?_push]
  split
  · rename_i h; subst h; simp
  · rfl
theorem getD_push_ne (l : Array Bool) {j : Nat} (h : j ≠ l.size) (d : Bool) : (l.push false).getD j d = l.getD j d := by
  rw [Array.getD_eq_getD_getElem?, Array.getD_eq_getD_getElem?, Array.getElem?_push, if_neg h]
theorem getD_push_true {l : Array Bool} {j : Nat} (h : j < l.size) : (l.push false).getD j true = l.getD j true := getD_push_ne l (by omega) true
theorem getD_push_at {l : Array Bool} {n : Nat} (h : l.size = n) (d : Bool) : (l.push false).getD n d = false := by
  rw [Array.getD_eq_getD_getElem?, Array.getElem?_push, if_pos h.symm]; rfl
theorem getD_true_false {l : Array Bool} {j : Nat} (h : j < l.size) : l.getD j true = l.getD j false := by simp [h]

/-- All edges and guards look back. -/
def BackOk (md : Region.Mode) (ops : Array Oper) : Prop := ∀ (i : Nat) (o : Oper), ops[i]? = some o → (∀ e ∈ o.after, Region.binds md e = true → e.on < i) ∧ ∀ j b, o.guard = some (j, b) → j < i

theorem all_listed {ops : Array Oper} {listed : Array Bool} (hs : listed.size = ops.size) (hb : BackOk md ops) (h : Region.ready md ops listed = []) : ∀ i, i < ops.size → listed.getD i false = true := by
  intro i
  induction i using Nat.strongRecOn with
  | _ i ih =>
    intro hi
    cases hl : listed.getD i false with
    | true => rfl
    | false =>
      exfalso
      have hmem : i ∈ Region.ready md ops listed := mem_ready.2 ⟨by rw [getD_true_false (by omega)]; exact hl, ops[i], by simp [hi], fun e he hbd => by
        have := (hb i ops[i] (by simp [hi])).1 e he hbd
        exact ih e.on this (by omega)⟩
      rw [h] at hmem
      cases hmem

theorem wanted_push {head : Array Oper} {last : Oper} {o : Oper} {i : Nat} {tmps : Array Value} (hi : i ≤ head.size) (hg : ∀ j b, o.guard = some (j, b) → j < i) :
    Region.wanted o (yielded (head.push last) tmps) = Region.wanted o (yielded head tmps) := by
  unfold Region.wanted
  cases hgd : o.guard with
  | none => rfl
  | some p =>
    obtain ⟨j, b⟩ := p
    have := hg j b hgd
    have : (head.push last)[j]? = head[j]? := by rw [Array.getElem?_push, if_neg (by omega)]
    simp only [yielded, this]

theorem wpAny_push {head : Array Oper} {last : Oper} {Q Qh : Exit → Act → World → Prop} (hb : BackOk md (head.push last)) (hw : ∀ i, i < head.size → ∃ e ∈ last.after, Region.binds md e = true ∧ e.on = i)
    (hq : ∀ e a w, e ≠ .normal → Qh e a w → Q e a w) (hl : ∀ a w, Qh .normal a w → wpOp P (head.push last) Q head.size (Q .normal) a w) :
    ∀ (fuel : Nat) (listed : Array Bool) (a : Act) (w : World), listed.size = head.size → wpAny P md head Qh fuel listed a w → wpAny P md (head.push last) Q (fuel + 1) (listed.push false) a w := by
  have hbh : BackOk md head := fun i o ho => hb i o (by
    have hi : i < head.size := by
      rcases Nat.lt_or_ge i head.size with h | h
      · exact h
      · rw [Array.getElem?_eq_none h] at ho; cases ho
    rw [Array.getElem?_push, if_neg (by omega)]; exact ho)
  have hlast : (head.push last)[head.size]? = some last := by simp
  have hbl := hb head.size last hlast
  -- what is ready
  have r1 : ∀ listed : Array Bool, listed.size = head.size → ∀ i, i ∈ Region.ready md (head.push last) (listed.push false) → i = head.size ∨ (i < head.size ∧ i ∈ Region.ready md head listed) := by
    intro listed hs i hi
    obtain ⟨h1, oi, h2, h3⟩ := mem_ready.1 hi
    rcases Nat.lt_trichotomy i head.size with h | h | h
    · right
      refine ⟨h, mem_ready.2 ⟨by rw [← getD_push_true (by omega)]; exact h1, oi, by rw [Array.getElem?_push, if_neg (by omega)] at h2; exact h2, fun e he hbd => by rw [← getD_push_false]; exact h3 e he hbd⟩⟩
    · exact .inl h
    · rw [Array.getElem?_eq_none (by simp; omega)] at h2; cases h2
  have r2 : ∀ listed : Array Bool, listed.size = head.size → head.size ∈ Region.ready md (head.push last) (listed.push false) → Region.ready md head listed = [] := by
    intro listed hs hi
    obtain ⟨_, oi, h2, h3⟩ := mem_ready.1 hi
    rw [hlast] at h2
    cases h2
    apply List.eq_nil_iff_forall_not_mem.2
    intro j hj
    obtain ⟨h4, oj, h5, _⟩ := mem_ready.1 hj
    have hjl : j < head.size := by
      rcases Nat.lt_or_ge j head.size with h | h
      · exact h
      · rw [Array.getElem?_eq_none h] at h5; cases h5
    obtain ⟨e, he, hbd, hon⟩ := hw j hjl
    have := h3 e he hbd
    rw [getD_push_false, hon, ← getD_true_false (by omega), h4] at this
    cases this
  have r3 : ∀ listed : Array Bool, listed.size = head.size → Region.ready md head listed = [] → head.size ∈ Region.ready md (head.push last) (listed.push false) := by
    intro listed hs h0
    refine mem_ready.2 ⟨getD_push_at hs true, last, hlast, fun e he hbd => ?_⟩
    rw [getD_push_false]
    exact all_listed hs hbh h0 e.on (hbl.1 e he hbd)
  have rend : ∀ listed : Array Bool, listed.size = head.size → Region.ready md head listed = [] → Region.ready md (head.push last) ((listed.push false).setIfInBounds head.size true) = [] := by
    intro listed hs h0
    apply List.eq_nil_iff_forall_not_mem.2
    intro j hj
    obtain ⟨h4, oj, h5, _⟩ := mem_ready.1 hj
    have hjl : j < head.size + 1 := by
      rcases Nat.lt_or_ge j (head.size + 1) with h | h
      · exact h
      · rw [Array.getElem?_eq_none (by simp; omega)] at h5; cases h5
    by_cases hjn : j = head.size
    · subst hjn
      rw [Array.getD_eq_getD_getElem?, Array.getElem?_setIfInBounds_self_of_lt (by simp [hs])] at h4
      cases h4
    · have := all_listed hs hbh h0 j (by omega)
      rw [getD_set_ne true (Ne.symm hjn), getD_push_true (by omega), getD_true_false (by omega), this] at h4
      cases h4
  have fin : ∀ (fuel : Nat) (listed : Array Bool) (a : Act) (w : World), listed.size = head.size → Region.ready md head listed = [] → Q .normal a w →
      wpAny P md (head.push last) Q fuel ((listed.push false).setIfInBounds head.size true) a w := by
    intro fuel listed a w hs h0 hn
    have he := rend listed hs h0
    cases fuel with
    | zero => exact ⟨he, hn⟩
    | succ f => exact ⟨fun _ => hn, fun i hi => by rw [he] at hi; cases hi⟩
  intro fuel
  induction fuel with
  | zero =>
    intro listed a w hs h
    refine ⟨fun h0 => ?_, fun i hi => ?_⟩
    · have := r3 listed hs h.1
      rw [h0] at this; cases this
    · rcases r1 listed hs i hi with rfl | ⟨_, hi'⟩
      · exact wpOp_mono (fun a' w' hn => fin 0 listed a' w' hs h.1 hn) (hl a w h.2)
      · rw [h.1] at hi'; cases hi'
  | succ fuel ih =>
    intro listed a w hs h
    refine ⟨fun h0 => ?_, fun i hi => ?_⟩
    · exfalso
      have hz : Region.ready md head listed = [] := by
        apply List.eq_nil_iff_forall_not_mem.2
        intro j hj
        obtain ⟨h4, oj, h5, h6⟩ := mem_ready.1 hj
        have hjl : j < head.size := by
          rcases Nat.lt_or_ge j head.size with h | h
          · exact h
          · rw [Array.getElem?_eq_none h] at h5; cases h5
        have : j ∈ Region.ready md (head.push last) (listed.push false) := mem_ready.2 ⟨by rw [getD_push_true (by omega)]; exact h4, oj, by rw [Array.getElem?_push, if_neg (by omega)]; exact h5, fun e he hbd => by rw [getD_push_false]; exact h6 e he hbd⟩
        rw [h0] at this; cases this
      have := r3 listed hs hz
      rw [h0] at this; cases this
    · rcases r1 listed hs i hi with rfl | ⟨hil, hi'⟩
      · have hz := r2 listed hs hi
        exact wpOp_mono (fun a' w' hn => fin (fuel + 1) listed a' w' hs hz hn) (hl a w (h.1 hz))
      · have h2 := h.2 i hi'
        have hset : (listed.push false).setIfInBounds i true = (listed.setIfInBounds i true).push false := by
          apply Array.ext'
          simp only [Array.toList_setIfInBounds, Array.toList_push]
          rw [List.set_append_left _ _ (by simpa using (show i < listed.size from by omega))]
        rw [hset]
        refine wpOp_change (by rw [Array.getElem?_push, if_neg (by omega)]) (fun o ho => ?_) (fun a' w' h' => ih _ a' w' (by simpa using hs) h') hq h2
        exact wanted_push (i := i) (by omega) (hbh i o ho).2

theorem wpAny_tails {ops : Array Oper} {Q : Exit → Act → World → Prop} (hb : BackOk md ops) : ∀ (rest : List Oper) (head : Array Oper), ops.toList = head.toList ++ rest →
    (∀ i, head.size ≤ i → ∀ o, ops[i]? = some o → ∀ j, j < i → ∃ e ∈ o.after, Region.binds md e = true ∧ e.on = j) →
    ∀ a w, wpAny P md head (fun e a w => match e with | .normal => wpList P ops Q rest a w | e => Q e a w) head.size (Array.replicate head.size false) a w →
    wpAny P md ops Q ops.size (Array.replicate ops.size false) a w
  | [], head, ho, _, a, w, h => by
    have : head = ops := by apply Array.ext'; simpa using ho.symm
    subst this
    refine wpAny_mono (fun e a w hh => ?_) _ _ _ _ h
    cases e <;> exact hh
  | o :: rest, head, ho, hw, a, w, h => by
    have hpre : ∀ i, i < head.size + 1 → (head.push o)[i]? = ops[i]? := fun i hi => by
      have h1 : ops[i]? = ops.toList[i]? := by simp
      rw [h1, ho]
      by_cases hih : i < head.size
      · rw [List.getElem?_append_left (by simpa using hih), Array.getElem?_push, if_neg (by omega)]; simp
      · have : i = head.size := by omega
        subst this
        simp
    have hbp : BackOk md (head.push o) := fun i x hx => hb i x (by
      rw [← hpre i (by
        rcases Nat.lt_or_ge i (head.size + 1) with h | h
        · exact h
        · rw [Array.getElem?_eq_none (by simp; omega)] at hx; cases hx)]
      exact hx)
    have ho' : ops[head.size]? = some o := by rw [← hpre _ (by omega)]; simp
    refine wpAny_tails hb rest (head.push o) (by simp [ho]) (fun i hi x hx j hj => hw i (by simp at hi; omega) x hx j hj) a w ?_
    have := wpAny_push (P := P) (md := md) (head := head) (last := o) (Q := fun e a w => match e with | .normal => wpList P ops Q rest a w | e => Q e a w) hbp
      (fun i hi => hw head.size (Nat.le_refl _) o ho' i hi) (Qh := fun e a w => match e with | .normal => wpList P ops Q (o :: rest) a w | e => Q e a w)
      (fun e a w hne hh => by cases e <;> first | exact absurd rfl hne | exact hh)
      (fun a w hh => by
        simp only [wpList] at hh
        unfold wpOp
        have e1 : (head.push o)[head.size]? = some o := by simp
        simp only [e1]
        have hwd : Region.wanted o (yielded (head.push o) a.tmps) = Region.wanted o (yielded ops a.tmps) := by
          unfold Region.wanted
          cases hgd : o.guard with
          | none => rfl
          | some p =>
            obtain ⟨j, b⟩ := p
            have := (hb head.size o ho').2 j b hgd
            simp only [yielded, hpre j (by omega)]
        rw [hwd]
        split
        · rename_i hwt
          simp only [hwt, if_true] at hh
          exact operWp_mono (fun a w h => h) (fun e a w hne h => by cases e <;> first | exact absurd rfl hne | exact h) hh
        · rename_i hwt
          simp only [hwt] at hh
          exact hh)
      head.size (Array.replicate head.size false) a w (by simp) h
    have hrep : (Array.replicate head.size false).push false = Array.replicate (head.push o).size false := by
      simp [Array.replicate_succ]
    rw [hrep] at this
    simpa using this
end
end Go.Sx
