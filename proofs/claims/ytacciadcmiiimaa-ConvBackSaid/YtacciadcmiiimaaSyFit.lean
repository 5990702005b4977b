/- Patterns: what says no more holds as well; holes with equal values say the same. -/
import Derived.Test.YtacciadcmiiimaaSyRel
namespace Go.Sx
open Go.RowKit
section
variable {P : Program} {I : World → Prop} {S : Sigs} {F : FEnv} {E : Env} {ν : Nat → DV}

/-! ### Saying no more -/
theorem vBeq_spec {x y : Value} (h : vBeq x y = true) : x = y := by
  unfold vBeq at h
  split at h
  · simp only [Bool.and_eq_true] at h
    obtain ⟨⟨⟨⟨h1, h2⟩, h3⟩, h4⟩, h5⟩ := h
    have := Nat.eq_of_beq_eq_true h1; subst this
    rw [Array.eq_empty_of_size_eq_zero (Nat.eq_of_beq_eq_true h2), Array.eq_empty_of_size_eq_zero (Nat.eq_of_beq_eq_true h3), Array.eq_empty_of_size_eq_zero (Nat.eq_of_beq_eq_true h4), Array.eq_empty_of_size_eq_zero (Nat.eq_of_beq_eq_true h5)]
  · rfl
  · rfl
  · rfl
  · cases h

/-- x says what y says, with its blocks renamed. -/
def SubL (ν : Nat → DV) (m : List Nat) (x y : Lf) : Prop := (∀ ρ : Nat → Loc, x.conc ν (fun j => ρ (rnm m j)) = y.conc ν ρ) ∧ (y.good ν → x.good ν)

theorem Lf.sub_spec {m : List Nat} {x y : Lf} (h : x.sub m y = true) : SubL ν m x y := by
  cases x <;> cases y <;> simp [Lf.sub] at h
  · obtain ⟨h1, h2⟩ := h
    have := kEq_eq h1; subst this
    exact ⟨fun ρ => by simp [Lf.conc, A.int, A.beq_den h2 ν], fun _ => trivial⟩
  · exact ⟨fun ρ => by simp [Lf.conc, A.bool, A.beq_den h ν], fun _ => trivial⟩
  · obtain ⟨rfl, h2⟩ := h
    obtain ⟨h3, h4⟩ := Off.beq_spec (ν := ν) h2
    exact ⟨fun ρ => by simp [Lf.conc, h3], h4⟩
  · obtain ⟨rfl, h2⟩ := h
    obtain ⟨h3, h4⟩ := Off.beq_spec (ν := ν) h2
    exact ⟨fun ρ => by simp [Lf.conc, h3], h4⟩
  · exact ⟨fun ρ => rfl, id⟩
  · subst h
    exact ⟨fun ρ => rfl, fun _ => trivial⟩
  · obtain ⟨rfl, h2⟩ := h
    rw [← natsEq_eq h2]
    exact ⟨fun ρ => by simp only [Lf.conc]; rw [capsConc_map], fun _ => trivial⟩
  · have := vBeq_spec h; subst this
    exact ⟨fun ρ => rfl, id⟩

theorem Lfs.sub_spec {m : List Nat} : ∀ {x y : List Lf}, Lfs.sub m x y = true → (∀ ρ : Nat → Loc, x.map (Lf.conc ν (fun j => ρ (rnm m j))) = y.map (Lf.conc ν ρ)) ∧ ((∀ l ∈ y, Lf.good ν l) → ∀ l ∈ x, Lf.good ν l)
  | [], [], _ => ⟨fun _ => rfl, fun h => h⟩
  | x :: l, y :: l', h => by
    simp only [Lfs.sub, Bool.and_eq_true] at h
    obtain ⟨h1, h2⟩ := Lf.sub_spec (ν := ν) h.1
    obtain ⟨h3, h4⟩ := Lfs.sub_spec h.2
    refine ⟨fun ρ => by simp only [List.map_cons, h1 ρ, h3 ρ], fun hg z hz => ?_⟩
    rcases List.mem_cons.1 hz with rfl | hz
    · exact h2 (hg y (by simp))
    · exact h4 (fun u hu => hg u (List.mem_cons_of_mem _ hu)) z hz
  | [], _ :: _, h => by simp [Lfs.sub] at h
  | _ :: _, [], h => by simp [Lfs.sub] at h

theorem V1.sub_spec {m : List Nat} {x y : V1} (h : x.sub m y = true) : (∀ ρ : Nat → Loc, x.conc ν (fun j => ρ (rnm m j)) = y.conc ν ρ) ∧ (y.good ν → x.good ν) := by
  cases x <;> cases y <;> simp only [V1.sub] at h <;> first | cases h | skip
  · obtain ⟨h1, h2⟩ := Lf.sub_spec (ν := ν) h
    exact ⟨fun ρ => h1 ρ, fun g => V1.good_one.2 (h2 (V1.good_one.1 g))⟩
  · obtain ⟨h1, h2⟩ := Lfs.sub_spec (ν := ν) h
    exact ⟨fun ρ => by simp only [V1.conc, h1 ρ], fun g => V1.good_agg.2 (h2 (V1.good_agg.1 g))⟩
theorem V1s.sub_spec {m : List Nat} : ∀ {x y : List V1}, V1s.sub m x y = true → (∀ ρ : Nat → Loc, x.map (V1.conc ν (fun j => ρ (rnm m j))) = y.map (V1.conc ν ρ)) ∧ ((∀ l ∈ y, V1.good ν l) → ∀ l ∈ x, V1.good ν l)
  | [], [], _ => ⟨fun _ => rfl, fun h => h⟩
  | x :: l, y :: l', h => by
    simp only [V1s.sub, Bool.and_eq_true] at h
    obtain ⟨h1, h2⟩ := V1.sub_spec (ν := ν) h.1
    obtain ⟨h3, h4⟩ := V1s.sub_spec h.2
    refine ⟨fun ρ => by simp only [List.map_cons, h1 ρ, h3 ρ], fun hg z hz => ?_⟩
    rcases List.mem_cons.1 hz with rfl | hz
    · exact h2 (hg y (by simp))
    · exact h4 (fun u hu => hg u (List.mem_cons_of_mem _ hu)) z hz
  | [], _ :: _, h => by simp [V1s.sub] at h
  | _ :: _, [], h => by simp [V1s.sub] at h
theorem V.sub_spec {m : List Nat} {x y : V} (h : x.sub m y = true) : (∀ ρ : Nat → Loc, x.conc ν (fun j => ρ (rnm m j)) = y.conc ν ρ) ∧ (y.good ν → x.good ν) := by
  cases x <;> cases y <;> simp only [V.sub] at h <;> first | cases h | skip
  · exact V1.sub_spec h
  · obtain ⟨h1, h2⟩ := V1s.sub_spec (ν := ν) h
    exact ⟨fun ρ => by simp only [V.conc, h1 ρ], fun g => h2 g⟩

theorem slotsSub_spec {m : List Nat} : ∀ {x y : List (Option V)}, slotsSub m x y = true → x.length = y.length ∧ ∀ t v, nth x t = some v → ∃ u, nth y t = some u ∧ v.sub m u = true
  | [], [], _ => ⟨rfl, fun t v h => by cases t <;> cases h⟩
  | none :: l, y :: l', h => by
    simp only [slotsSub] at h
    obtain ⟨h1, h2⟩ := slotsSub_spec h
    refine ⟨by simp [h1], fun t v ht => ?_⟩
    cases t with
    | zero => cases ht
    | succ t => exact h2 t v ht
  | some x :: l, some y :: l', h => by
    simp only [slotsSub, Bool.and_eq_true] at h
    obtain ⟨h1, h2⟩ := slotsSub_spec h.2
    refine ⟨by simp [h1], fun t v ht => ?_⟩
    cases t with
    | zero => cases ht; exact ⟨y, rfl, h.1⟩
    | succ t => exact h2 t v ht
  | [], _ :: _, h => by simp [slotsSub] at h
  | none :: _, [], h => by simp [slotsSub] at h
  | some _ :: _, [], h => by simp [slotsSub] at h
  | some _ :: _, none :: _, h => by simp [slotsSub] at h

theorem cellsSub_spec {m : List Nat} : ∀ {x y : List (Option Lf)}, cellsSub m x y = true → ∀ t v, nth x t = some v → ∃ u, nth y t = some u ∧ v.sub m u = true
  | [], _, _, t, v, ht => by cases t <;> cases ht
  | none :: l, y, h, t, v, ht => by
    simp only [cellsSub] at h
    cases t with
    | zero => cases ht
    | succ t =>
      obtain ⟨u, h1, h2⟩ := cellsSub_spec h t v ht
      refine ⟨u, ?_, h2⟩
      cases y with
      | nil => cases t <;> cases h1
      | cons y l' => exact h1
  | some x :: l, some y :: l', h, t, v, ht => by
    simp only [cellsSub, Bool.and_eq_true] at h
    cases t with
    | zero => cases ht; exact ⟨y, rfl, h.1⟩
    | succ t => exact cellsSub_spec h.2 t v ht
  | some _ :: _, [], h, _, _, _ => by simp [cellsSub] at h
  | some _ :: _, none :: _, h, _, _, _ => by simp [cellsSub] at h

theorem LT.beq_eq : ∀ {t u : LT}, t.beq u = true → t = u
  | .int k, .int k', h => by simp only [LT.beq] at h; rw [kEq_eq h]
  | .bool, .bool, _ => rfl
  | .vec [t], .vec [u], h => by simp only [LT.beq] at h; rw [LT.beq_eq h]
  | .vec [t, t2], .vec [u, u2], h => by simp only [LT.beq, Bool.and_eq_true] at h; rw [LT.beq_eq h.1, LT.beq_eq h.2]
  | .int _, .bool, h => by simp [LT.beq] at h
  | .int _, .vec _, h => by simp [LT.beq] at h
  | .bool, .int _, h => by simp [LT.beq] at h
  | .bool, .vec _, h => by simp [LT.beq] at h
  | .vec _, .int _, h => by simp [LT.beq] at h
  | .vec _, .bool, h => by simp [LT.beq] at h
  | .vec [], .vec _, h => by simp [LT.beq] at h
  | .vec [_], .vec [], h => by simp [LT.beq] at h
  | .vec [_], .vec (_ :: _ :: _), h => by simp [LT.beq] at h
  | .vec [_, _], .vec [], h => by simp [LT.beq] at h
  | .vec [_, _], .vec [_], h => by simp [LT.beq] at h
  | .vec [_, _], .vec (_ :: _ :: _ :: _), h => by simp [LT.beq] at h
  | .vec (_ :: _ :: _ :: _), .vec _, h => by simp [LT.beq] at h
theorem LTs.beq_eq : ∀ {t u : List LT}, LTs.beq t u = true → t = u
  | [], [], _ => rfl
  | t :: l, u :: l', h => by simp only [LTs.beq, Bool.and_eq_true] at h; rw [LT.beq_eq h.1, LTs.beq_eq h.2]
  | [], _ :: _, h => by simp [LTs.beq] at h
  | _ :: _, [], h => by simp [LTs.beq] at h

theorem Blk.sub_spec {m : List Nat} {x y : Blk} (h : x.sub m y = true) : (x.own = true → y.own = true) ∧
    ∀ (ρ : Nat → Loc) (w : World) (r : Loc), BlkRel E ν ρ w r y → BlkRel E ν (fun j => ρ (rnm m j)) w r x := by
  cases x with
  | c o cs =>
    cases y with
    | v => simp [Blk.sub] at h
    | c o' cs' =>
      simp only [Blk.sub, Bool.and_eq_true, Bool.or_eq_true, Bool.not_eq_true'] at h
      obtain ⟨h1, h2⟩ := h
      refine ⟨fun ho => ?_, fun ρ w r hb => ?_⟩
      · rcases h1 with h1 | h1
        · change o = true at ho; rw [h1] at ho; cases ho
        · exact h1.1
      · have hb : CBlk ν ρ w r o' cs' := hb
        refine ⟨hb.nil, hb.lt, fun i l hl => ?_, fun ho i hi => ?_⟩
        · obtain ⟨u, e1, e2⟩ := cellsSub_spec h2 i l hl
          obtain ⟨s1, s2⟩ := Lf.sub_spec (ν := ν) e2
          obtain ⟨g1, g2⟩ := hb.cell i u e1
          exact ⟨s2 g1, by rw [s1 ρ]; exact g2⟩
        · rcases h1 with h1 | h1
          · rw [h1] at ho; cases ho
          · have := Nat.eq_of_beq_eq_true h1.2
            exact hb.own h1.1 i (by omega)
  | v o ts a =>
    cases y with
    | c => simp [Blk.sub] at h
    | v o' ts' a' =>
      simp only [Blk.sub, Bool.and_eq_true, Bool.or_eq_true, Bool.not_eq_true'] at h
      obtain ⟨⟨h1, h2⟩, h3⟩ := h
      have := LTs.beq_eq h2; subst this
      have ha : a.cells ν = a'.cells ν := by simp [A.cells, A.beq_den h3 ν]
      refine ⟨fun ho => ?_, fun ρ w r hb => ?_⟩
      · rcases h1 with h1 | h1
        · change o = true at ho; rw [h1] at ho; cases ho
        · exact h1
      · have hb : VRel E w r o' ts (a'.cells ν) := hb
        show VRel E w r o ts (a.cells ν)
        rw [ha]
        refine ⟨hb.nil, hb.lt, hb.pos, hb.len, hb.cap, hb.cell, fun ho => ?_⟩
        rcases h1 with h1 | h1
        · rw [h1] at ho; cases ho
        · exact hb.own h1

theorem heapSub_spec {m : List Nat} {hp : List (Option Blk)} : ∀ {x : List (Option Blk)} {j : Nat}, heapSub m hp j x = true → ∀ i bk, nth x i = some bk → ∃ bk', nth hp (rnm m (j + i)) = some bk' ∧ bk.sub m bk' = true
  | [], j, _, i, bk, h => by cases i <;> cases h
  | none :: l, j, hs, i, bk, h => by
    simp only [heapSub] at hs
    cases i with
    | zero => cases h
    | succ i =>
      have := heapSub_spec hs i bk h
      rwa [show j + 1 + i = j + (i + 1) from by omega] at this
  | some x :: l, j, hs, i, bk, h => by
    simp only [heapSub, Bool.and_eq_true] at hs
    cases i with
    | zero =>
      cases h
      cases hn : nth hp (rnm m j) with
      | none => rw [hn] at hs; cases hs.1
      | some y =>
        rw [hn] at hs
        exact ⟨y, rfl, hs.1⟩
    | succ i =>
      have := heapSub_spec hs.2 i bk h
      rwa [show j + 1 + i = j + (i + 1) from by omega] at this

theorem onlyAt_spec {m : List Nat} {i b : Nat} : ∀ {x : List (Option Blk)} {j : Nat}, onlyAt m i b j x = true → ∀ k bk, nth x k = some bk → j + k ≠ i → rnm m (j + k) ≠ b
  | [], j, _, k, bk, h, _ => by cases k <;> cases h
  | none :: l, j, hs, k, bk, h, hne => by
    simp only [onlyAt] at hs
    cases k with
    | zero => cases h
    | succ k =>
      have := onlyAt_spec hs k bk h (by omega)
      rwa [show j + 1 + k = j + (k + 1) from by omega] at this
  | some x :: l, j, hs, k, bk, h, hne => by
    simp only [onlyAt, Bool.and_eq_true, Bool.or_eq_true, Bool.not_eq_true'] at hs
    cases k with
    | zero =>
      rcases hs.1 with h1 | h1
      · exact absurd (Nat.eq_of_beq_eq_true h1) hne
      · intro e
        rw [Nat.add_zero] at e
        rw [e, Nat.beq_refl] at h1
        cases h1
    | succ k =>
      have := onlyAt_spec hs.2 k bk h (by omega)
      rwa [show j + 1 + k = j + (k + 1) from by omega] at this

theorem apartB_spec {m : List Nat} {all : List (Option Blk)} : ∀ {x : List (Option Blk)} {j : Nat}, apartB m all j x = true → ∀ i bk, nth x i = some bk → bk.own = true → onlyAt m (j + i) (rnm m (j + i)) 0 all = true
  | [], j, _, i, bk, h, _ => by cases i <;> cases h
  | none :: l, j, hs, i, bk, h, ho => by
    simp only [apartB] at hs
    cases i with
    | zero => cases h
    | succ i =>
      have := apartB_spec hs i bk h ho
      rwa [show j + 1 + i = j + (i + 1) from by omega] at this
  | some x :: l, j, hs, i, bk, h, ho => by
    simp only [apartB, Bool.and_eq_true, Bool.or_eq_true, Bool.not_eq_true'] at hs
    cases i with
    | zero =>
      cases h
      rcases hs.1 with h1 | h1
      · rw [ho] at h1; cases h1
      · exact h1
    | succ i =>
      have := apartB_spec hs.2 i bk h ho
      rwa [show j + 1 + i = j + (i + 1) from by omega] at this

theorem keeps_spec {m : List Nat} : ∀ {n : Nat}, keeps m n = true → ∀ j, j < n → rnm m j = j
  | 0, _, j, h => by omega
  | n + 1, hk, j, h => by
    simp only [keeps, Bool.and_eq_true] at hk
    rcases Nat.lt_or_ge j n with h1 | h1
    · exact keeps_spec hk.1 j h1
    · have : j = n := by omega
      subst this
      exact Nat.eq_of_beq_eq_true hk.2

/-- The heap's part. -/
theorem HRel.sub {ρ : Nat → Loc} {m : List Nat} {x y : List (Option Blk)} {w : World} (h : HRel E ν ρ y w) (h1 : heapSub m y 0 x = true) (h2 : apartB m x 0 x = true) : HRel E ν (fun j => ρ (rnm m j)) x w := by
  refine ⟨fun j bk hj => ?_, fun j j' bk bk' hj ho hj' hne => ?_⟩
  · obtain ⟨bk', e1, e2⟩ := heapSub_spec h1 j bk hj
    rw [Nat.zero_add] at e1
    exact (Blk.sub_spec e2).2 ρ w _ (h.blk _ _ e1)
  · obtain ⟨b1, e1, e2⟩ := heapSub_spec h1 j bk hj
    obtain ⟨b2, e3, e4⟩ := heapSub_spec h1 j' bk' hj'
    rw [Nat.zero_add] at e1 e3
    have h3 := apartB_spec h2 j bk hj ho
    have h4 := onlyAt_spec h3 j' bk' hj' (by omega)
    rw [Nat.zero_add, Nat.zero_add] at h4
    exact h.apart _ _ _ _ e1 ((Blk.sub_spec (E := E) (ν := ν) e2).1 ho) e3 (Ne.symm h4)
theorem OldF.sub {W V : Nat → Prop} {w0 : World} {ρ : Nat → Loc} {m : List Nat} {x y : List (Option Blk)} (h : OldF W V w0 ρ y) (h1 : heapSub m y 0 x = true) : OldF W V w0 (fun j => ρ (rnm m j)) x := by
  intro j bk hj
  obtain ⟨b1, e1, e2⟩ := heapSub_spec h1 j bk hj
  rw [Nat.zero_add] at e1
  rcases h _ _ e1 with h | h | h | h
  · exact .inl h
  · exact .inr (.inl h)
  · exact .inr (.inr (.inl h))
  · refine .inr (.inr (.inr ⟨?_, h.2⟩))
    cases ho : bk.own with
    | false => rfl
    | true =>
      have := (Blk.sub_spec (E := ⟨W, V, w0, 0, ρ⟩) (ν := fun _ => default) e2).1 ho
      rw [h.1] at this; cases this

theorem RR.sub {ρ : Nat → Loc} {m : List Nat} {x y : St} {a : Act} {w : World} (h : RR ν E ρ ⟨y, []⟩ a w) (hs : x.sub m y = true) (hk : keeps m E.n0 = true) (hl : E.n0 ≤ x.hp.length) :
    RR ν E (fun j => ρ (rnm m j)) ⟨x, []⟩ a w := by
  simp only [St.sub, Bool.and_eq_true] at hs
  obtain ⟨⟨h1, h2⟩, h3⟩ := hs
  obtain ⟨s1, s2⟩ := slotsSub_spec h1
  refine ⟨⟨h.act.defers, by rw [h.act.size]; exact s1.symm, fun t v ht => ?_, fun e he => by cases he⟩, h.hs.heap.sub h2 h3, h.hs.old.sub h2, h.hs.fr, hl, fun j hj => ?_⟩
  · obtain ⟨u, e1, e2⟩ := s2 t v ht
    obtain ⟨c1, c2⟩ := V.sub_spec (ν := ν) e2
    obtain ⟨g1, g2⟩ := h.act.slot t u e1
    exact ⟨c2 g1, by rw [c1 ρ]; exact g2⟩
  · rw [keeps_spec hk j hj]; exact h.hs.keep j hj
end
end Go.Sx
