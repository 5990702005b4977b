/- A call: the evaluator agrees with the model. -/
import Derived.Test.YtacciadcmiiimaaSyCall
namespace Go.Sx
open Go.RowKit
section
variable {P : Program} {I : World → Prop} {S : Sigs} {F : FEnv} {E : Env} {ν : Nat → DV}

theorem heapSub_lt {m : List Nat} {hp x : List (Option Blk)} (h : heapSub m hp 0 x = true) {j : Nat} {b : Blk} (hj : nth x j = some b) : ∃ b', nth hp (rnm m j) = some b' ∧ rnm m j < hp.length ∧ b.sub m b' = true := by
  obtain ⟨b', h1, h2⟩ := heapSub_spec h j b hj
  rw [Nat.zero_add] at h1
  exact ⟨b', h1, nth_lt h1, h2⟩

theorem nth_inst (ops : List A) (l : List (Option Blk)) (j : Nat) : nth (l.map (Option.map (Blk.inst ops))) j = (nth l j).map (Blk.inst ops) := nth_map _ l j
theorem stays_inst (ops : List A) (hin : List (Option Blk)) (j : Nat) : stays (hin.map (Option.map (Blk.inst ops))) j = stays hin j := by
  unfold stays
  rw [nth_map]
  cases nth hin j with
  | none => rfl
  | some b => cases b <;> rfl
theorem all_inst {q : Blk → Bool} (hq : ∀ ops b, q (Blk.inst ops b) = q b) (ops : List A) (l : List (Option Blk)) : (l.map (Option.map (Blk.inst ops))).all (optAll q) = l.all (optAll q) := by
  induction l with
  | nil => rfl
  | cons x l ih =>
    simp only [List.map_cons, List.all_cons, ih]
    cases x with
    | none => rfl
    | some b => simp [optAll, hq]
theorem Lf.inst_lt (n : Nat) (ops : List A) (l : Lf) : (l.inst ops).lt n = l.lt n := by cases l <;> rfl
theorem V1.inst_lt (n : Nat) (ops : List A) (v : V1) : (v.inst ops).lt n = v.lt n := by
  cases v with
  | one l => simp [V1.inst, V1.lt, V1.cells, Lf.inst_lt]
  | agg l =>
    simp only [V1.inst, V1.lt, V1.cells, List.all_map]
    congr 1
    funext x
    exact Lf.inst_lt n ops x
theorem V.inst_lt (n : Nat) (ops : List A) (v : V) : (v.inst ops).lt n = v.lt n := by
  cases v with
  | s v => exact V1.inst_lt n ops v
  | t l =>
    simp only [V.inst, V.lt, List.all_map]
    congr 1
    funext x
    exact V1.inst_lt n ops x
theorem Blk.inst_lt (n : Nat) (ops : List A) (b : Blk) : (b.inst ops).lt n = b.lt n := by
  cases b with
  | v o ts a => rfl
  | c o cs =>
    simp only [Blk.inst, Blk.lt, List.all_map]
    congr 1
    funext x
    cases x with
    | none => rfl
    | some l => exact Lf.inst_lt n ops l
theorem Blk.inst_flat (ops : List A) (b : Blk) : (b.inst ops).flat = b.flat := by cases b <;> rfl

/-- The blocks behind a call: all that is known of them. -/
theorem HS.back {ρ ρ' : Nat → Loc} {hp hin ho : List (Option Blk)} {m : List Nat} {w w' : World} (h : HS E ν ρ hp w) (hs1 : heapSub m hp 0 hin = true)
    (hlt : hp.all (optAll (Blk.lt hp.length)) = true) (holt : ho.all (optAll (Blk.lt ho.length)) = true) (hofl : ho.all (optAll Blk.flat) = true)
    (hb : HRel (callEnv hin (fun j => ρ (rnm m j)) w) ν ρ' ho w') (hold : OldF (callEnv hin (fun j => ρ (rnm m j)) w).W (callEnv hin (fun j => ρ (rnm m j)) w).V w ρ' ho)
    (hfr : Fr (callEnv hin (fun j => ρ (rnm m j)) w).W w w') (hk : ∀ j, stays hin j = true → j < ho.length → ρ' j = ρ (rnm m j)) :
    (∀ k, k < ho.length → (fun i => if i < hp.length then ρ i else ρ' (i - hp.length)) (rnm (backMap hin m hp.length ho.length) k) = ρ' k) ∧
    HS E ν (fun i => if i < hp.length then ρ i else ρ' (i - hp.length))
      (putBack hin ho m (backMap hin m hp.length ho.length) (anyFrozen hin 0 ho) hin.length 0 hp ++ newBack hin (backMap hin m hp.length ho.length) 0 ho) w' := by
  generalize hm1 : backMap hin m hp.length ho.length = m1
  generalize hρn : (fun i => if i < hp.length then ρ i else ρ' (i - hp.length)) = ρn
  have hN : ∀ i, i < hp.length → ρn i = ρ i := fun i hi => by rw [← hρn]; simp [hi]
  have hN2 : ∀ k, ρn (hp.length + k) = ρ' k := fun k => by rw [← hρn]; simp; intro hc; omega
  have hmap : ∀ k, k < ho.length → ρn (rnm m1 k) = ρ' k := by
    intro k hk1
    rw [← hm1, backMap_at hk1]
    split
    · rename_i hst
      obtain ⟨x, hx⟩ := stays_lt hst
      obtain ⟨_, _, h3, _⟩ := heapSub_lt hs1 hx
      rw [hN _ h3, hk k hst hk1]
    · exact hN2 k
  refine ⟨hmap, ?_⟩
  obtain ⟨pl, pb⟩ := putBack_spec (hin := hin) (hout := ho) (m := m) (m1 := m1) (dem := anyFrozen hin 0 ho) hin.length 0 hp
  generalize hA : putBack hin ho m m1 (anyFrozen hin 0 ho) hin.length 0 hp = A0 at *
  -- what went in that may be written
  have hown : ∀ j x, nth hin j = some x → x.own = true → ∃ b', nth hp (rnm m j) = some b' ∧ b'.own = true ∧ rnm m j < hp.length := fun j x hx hxo => by
    obtain ⟨b', h1, h2, h3⟩ := heapSub_lt hs1 hx
    exact ⟨b', h1, (Blk.sub_spec (E := E) (ν := ν) h3).1 hxo, h2⟩
  -- which block stands at a place
  have hcase : ∀ i bk, nth (A0 ++ newBack hin m1 0 ho) i = some bk →
      (∃ j x y, nth hin j = some x ∧ x.own = true ∧ i = rnm m j ∧ i < hp.length ∧ stays hin j = true ∧ nth ho j = some y ∧ Wk bk (y.ren m1)) ∨
      (∃ b0, nth hp i = some b0 ∧ i < hp.length ∧ Wk bk b0 ∧ (∀ j x, nth hin j = some x → x.own = true → i ≠ rnm m j) ∧ (anyFrozen hin 0 ho = true → bk.own = true → ∀ j x, nth hin j = some x → i ≠ rnm m j)) ∨
      (∃ j y, i = hp.length + j ∧ nth ho j = some y ∧ stays hin j = false ∧ bk = y.ren m1) := by
    intro i bk hi
    rw [nth_append, pl] at hi
    split at hi
    · rename_i hil
      rcases pb i bk hi with ⟨j, x, y, _, _, h1, h2, h3, h4, h5, h6⟩ | ⟨b0, h1, h2, h3, h4⟩
      · exact .inl ⟨j, x, y, h1, h2, h3, hil, h4, h5, h6⟩
      · exact .inr (.inl ⟨b0, h1, hil, h2, fun j x hx => h3 j x (Nat.zero_le _) (by have := nth_lt hx; omega) hx, fun hd hbo j x hx => h4 hd hbo j x (Nat.zero_le _) (by have := nth_lt hx; omega) hx⟩)
    · rename_i hil
      obtain ⟨y, h1, h2, h3⟩ := newBack_spec hi
      rw [Nat.zero_add] at h2
      exact .inr (.inr ⟨i - hp.length, y, by omega, h1, h2, h3⟩)
  -- blocks that none may write stand as they stood
  have hsame : ∀ i b0, nth hp i = some b0 → (∀ j x, nth hin j = some x → x.own = true → i ≠ rnm m j) → (ρ i).nil = false → w'.heap[(ρ i).blk]? = w.heap[(ρ i).blk]? := by
    intro i b0 h0 hne hnil
    refine hfr.block _ ((h.heap.blk i b0 h0).lt hnil) ?_
    rintro ⟨j, x, hx, hxo, hxn, he⟩
    obtain ⟨b', e1, e2, _⟩ := hown j x hx hxo
    exact h.heap.apart (rnm m j) i b' b0 e1 e2 h0 (Ne.symm (hne j x hx hxo)) hxn hnil he
  have hrel1 : ∀ j y, nth ho j = some y → ∀ bk, Wk bk (y.ren m1) → BlkRel E ν ρn w' (ρ' j) bk := fun j y hy bk hwk =>
    hwk.rel (((hb.blk j y hy).flat (all_nth_of hofl hy)).ren hmap (all_nth_of holt hy))
  have holdp : ∀ j x, nth hin j = some x → x.own = true → (ρ (rnm m j)).nil = true ∨ E.w0.heap.size ≤ (ρ (rnm m j)).blk ∨ E.W (ρ (rnm m j)).blk := fun j x hx hxo => by
    obtain ⟨b', e1, e2, _⟩ := hown j x hx hxo
    rcases h.old _ _ e1 with h | h | h | h
    · exact .inl h
    · exact .inr (.inl h)
    · exact .inr (.inr h)
    · rw [e2] at h; cases h.1
  -- a block that stayed as it was, and one that came back, of which one may be written
  have hmix : ∀ i b0 bk, nth hp i = some b0 → i < hp.length → Wk bk b0 → (∀ j x, nth hin j = some x → x.own = true → i ≠ rnm m j) →
      (anyFrozen hin 0 ho = true → bk.own = true → ∀ j x, nth hin j = some x → i ≠ rnm m j) → ∀ j y, nth ho j = some y → stays hin j = false → (bk.own = true ∨ y.own = true) →
      (ρ i).nil = false → (ρ' j).nil = false → (ρ i).blk ≠ (ρ' j).blk := by
    intro i b0 bk h0 hil hwk hne hdem j y hy hst howns hn1 hn2 he
    have hlt1 := (h.heap.blk i b0 h0).lt hn1
    rcases hold j y hy with h1 | h1 | h1 | ⟨h1, h2⟩
    · rw [hn2] at h1; cases h1
    · omega
    · obtain ⟨j0, x, hx, hxo, hxn, hxe⟩ := h1
      obtain ⟨b', e1, e2, _⟩ := hown j0 x hx hxo
      exact h.heap.apart (rnm m j0) i b' b0 e1 e2 h0 (Ne.symm (hne j0 x hx hxo)) hxn hn1 (by rw [hxe, he])
    · obtain ⟨j0, x, hx, hxo, hxn, hxe⟩ := h2
      rcases howns with ho1 | ho1
      · have hd : anyFrozen hin 0 ho = true := anyFrozen_spec (j := 0) hy h1 (by rwa [Nat.zero_add])
        obtain ⟨b', e1, _, _⟩ := heapSub_lt hs1 hx
        exact h.heap.apart i (rnm m j0) b0 b' h0 (hwk.own ho1).1 e1 (hdem hd ho1 j0 x hx) hn1 hxn (by rw [he, hxe])
      · rw [h1] at ho1; cases ho1
  refine ⟨⟨fun i bk hi => ?_, fun i i' bk bk' hi hbo hi' hne hn1 hn2 => ?_⟩, fun i bk hi => ?_, ?_, ?_, ?_⟩
  · rcases hcase i bk hi with ⟨j, x, y, h1, h2, h3, h4, h5, h6, h7⟩ | ⟨b0, h1, h2, h3, h4, h5⟩ | ⟨j, y, h1, h2, h3, h4⟩
    · rw [hN i h4, h3, ← hk j h5 (nth_lt h6)]
      exact hrel1 j y h6 bk h7
    · rw [hN i h2]
      refine h3.rel (((h.heap.blk i b0 h1).of_block hfr.size (hsame i b0 h1 h4)).keep (fun k hk => hN k hk) (all_nth_of hlt h1))
    · rw [h1, hN2 j]
      exact hrel1 j y h2 bk (.inl h4)
  · rcases hcase i bk hi with ⟨j, x, y, a1, a2, a3, a4, a5, a6, a7⟩ | ⟨b0, a1, a2, a3, a4, a5⟩ | ⟨j, y, a1, a2, a3, a4⟩
    · have hyo : y.own = true := by have := (a7.own hbo).1; rwa [Blk.ren_own] at this
      have e1 : ρn i = ρ' j := by rw [hN i a4, a3, hk j a5 (nth_lt a6)]
      rcases hcase i' bk' hi' with ⟨j', x', y', b1, b2, b3, b4, b5, b6, b7⟩ | ⟨b0', b1, b2, b3, b4, b5⟩ | ⟨j', y', b1, b2, b3, b4⟩
      · have e2 : ρn i' = ρ' j' := by rw [hN i' b4, b3, hk j' b5 (nth_lt b6)]
        rw [e1] at hn1 ⊢
        rw [e2] at hn2 ⊢
        exact hb.apart j j' y y' a6 hyo b6 (fun e => hne (by rw [a3, b3, e])) hn1 hn2
      · rw [hN i a4] at hn1 ⊢
        rw [hN i' b2] at hn2 ⊢
        obtain ⟨b', e3, e4, _⟩ := hown j x a1 a2
        rw [a3] at hn1 ⊢
        exact h.heap.apart (rnm m j) i' b' b0' e3 e4 b1 (Ne.symm (b4 j x a1 a2)) hn1 hn2
      · rw [e1] at hn1 ⊢
        rw [b1, hN2 j'] at hn2 ⊢
        exact hb.apart j j' y y' a6 hyo b2 (fun e => by rw [← e, a5] at b3; cases b3) hn1 hn2
    · rw [hN i a2] at hn1 ⊢
      rcases hcase i' bk' hi' with ⟨j', x', y', b1, b2, b3, b4, b5, b6, b7⟩ | ⟨b0', b1, b2, b3, b4, b5⟩ | ⟨j', y', b1, b2, b3, b4⟩
      · rw [hN i' b4] at hn2 ⊢
        obtain ⟨b', e3, e4, _⟩ := hown j' x' b1 b2
        rw [b3] at hn2 ⊢
        exact h.heap.apart i (rnm m j') b0 b' a1 (a3.own hbo).1 e3 (a4 j' x' b1 b2) hn1 hn2
      · rw [hN i' b2] at hn2 ⊢
        exact h.heap.apart i i' b0 b0' a1 (a3.own hbo).1 b1 hne hn1 hn2
      · rw [b1, hN2 j'] at hn2 ⊢
        exact hmix i b0 bk a1 a2 a3 a4 a5 j' y' b2 b3 (.inl hbo) hn1 hn2
    · have hyo : y.own = true := by rw [a4, Blk.ren_own] at hbo; exact hbo
      rw [a1, hN2 j] at hn1 ⊢
      rcases hcase i' bk' hi' with ⟨j', x', y', b1, b2, b3, b4, b5, b6, b7⟩ | ⟨b0', b1, b2, b3, b4, b5⟩ | ⟨j', y', b1, b2, b3, b4⟩
      · have e2 : ρn i' = ρ' j' := by rw [hN i' b4, b3, hk j' b5 (nth_lt b6)]
        rw [e2] at hn2 ⊢
        exact hb.apart j j' y y' a2 hyo b6 (fun e => by rw [e, b5] at a3; cases a3) hn1 hn2
      · rw [hN i' b2] at hn2 ⊢
        exact (hmix i' b0' bk' b1 b2 b3 b4 b5 j y a2 a3 (.inr hyo) hn2 hn1).symm
      · rw [b1, hN2 j'] at hn2 ⊢
        exact hb.apart j j' y y' a2 hyo b2 (fun e => hne (by rw [a1, b1, e])) hn1 hn2
  · rcases hcase i bk hi with ⟨j, x, y, a1, a2, a3, a4, a5, a6, a7⟩ | ⟨b0, a1, a2, a3, a4, a5⟩ | ⟨j, y, a1, a2, a3, a4⟩
    · rw [hN i a4, a3]
      rcases holdp j x a1 a2 with h | h | h
      · exact .inl h
      · exact .inr (.inl h)
      · exact .inr (.inr (.inl h))
    · rw [hN i a2]
      rcases h.old i b0 a1 with h | h | h | h
      · exact .inl h
      · exact .inr (.inl h)
      · exact .inr (.inr (.inl h))
      · refine .inr (.inr (.inr ⟨?_, h.2⟩))
        cases ho : bk.own with
        | false => rfl
        | true => rw [(a3.own ho).1] at h; cases h.1
    · rw [a1, hN2 j]
      rcases hold j y a2 with h1 | h1 | h1 | ⟨h1, h2⟩
      · exact .inl h1
      · exact .inr (.inl (Nat.le_trans h.fr.size h1))
      · obtain ⟨j0, x, hx, hxo, hxn, hxe⟩ := h1
        rcases holdp j0 x hx hxo with h | h | h
        · change (ρ (rnm m j0)).nil = false at hxn
          rw [hxn] at h; cases h
        · exact .inr (.inl (by rw [← hxe]; exact h))
        · exact .inr (.inr (.inl (by rw [← hxe]; exact h)))
      · obtain ⟨j0, x, hx, hxo, hxn, hxe⟩ := h2
        obtain ⟨b', e1, _, _⟩ := heapSub_lt hs1 hx
        rcases h.old _ _ e1 with h | h | h | h
        · change (ρ (rnm m j0)).nil = false at hxn
          rw [hxn] at h; cases h
        · exact .inr (.inl (by rw [← hxe]; exact h))
        · exact .inr (.inr (.inl (by rw [← hxe]; exact h)))
        · exact .inr (.inr (.inr ⟨by rw [a4, Blk.ren_own]; exact h1, by rw [← hxe]; exact h.2⟩))
  · refine ⟨hfr.os.trans h.fr.os, hfr.tape.trans h.fr.tape, hfr.output.trans h.fr.output, Nat.le_trans h.fr.size hfr.size, fun b hbl hnW => ?_⟩
    rw [hfr.block b (Nat.lt_of_lt_of_le hbl h.fr.size) ?_, h.fr.block b hbl hnW]
    rintro ⟨j, x, hx, hxo, hxn, hxe⟩
    change (ρ (rnm m j)).blk = b at hxe
    rcases holdp j x hx hxo with h1 | h1 | h1
    · change (ρ (rnm m j)).nil = false at hxn
      rw [hxn] at h1; cases h1
    · omega
    · exact hnW (by rw [← hxe]; exact h1)
  · rw [List.length_append, pl]
    have := h.len
    omega
  · intro j hj
    rw [hN j (by have := h.len; omega)]
    exact h.keep j hj
end
end Go.Sx
