/- A call: what comes back. -/
import Derived.Test.YtacciadcmiiimaaSyInst
namespace Go.Sx
open Go.RowKit
section
variable {P : Program} {I : World → Prop} {S : Sigs} {F : FEnv} {E : Env} {ν : Nat → DV}

theorem callOuts_sat {ν : Nat → DV} {fid : Nat} {args : List A} : ∀ (n j : Nat), M.sat F ν (callOuts fid args j n) (fun l => l.length = n ∧ ∀ i a, l[i]? = some a → a.den ν = (F fid (args.map (A.den ν))).getD (j + i) default)
  | 0, j => sat_pure ⟨rfl, fun i a h => by simp at h⟩
  | n + 1, j => by
    unfold callOuts
    refine sat_bind (sat_emit (Q := fun r => r.den ν = (F fid (args.map (A.den ν))).getD j default) fun r h => h) fun a ha => ?_
    refine sat_bind (callOuts_sat n (j + 1)) fun l hl => sat_pure ⟨by simp [hl.1], fun i b hb => ?_⟩
    cases i with
    | zero => simp at hb; subst hb; exact ha
    | succ i =>
      have := hl.2 i b (by simpa using hb)
      rw [this, show j + 1 + i = j + (i + 1) from by omega]

theorem idsFrom_den {ν : Nat → DV} (g : Nat → DV) : ∀ (k n j : Nat), (∀ i, i < k → ν (n + i) = g (j + i)) → (idsFrom n k).map (A.den ν) = (List.range' j k).map g
  | 0, _, _, _ => rfl
  | k + 1, n, j, h => by
    rw [List.range'_succ]
    simp only [idsFrom, List.map_cons]
    rw [idsFrom_den g k (n + 1) (j + 1) (fun i hi => by have := h (i + 1) (by omega); rwa [show n + (i + 1) = n + 1 + i from by omega, show j + (i + 1) = j + 1 + i from by omega] at this)]
    have := h 0 (by omega)
    simp only [Nat.add_zero] at this
    rw [show A.den ν (.r n) = ν n from rfl, this]
theorem range_getD (xs : List DV) (k : Nat) (h : xs.length = k) : (List.range' 0 k).map (fun i => xs.getD i default) = xs := by
  apply List.ext_getElem?
  intro i
  by_cases hi : i < k
  · rw [List.getElem?_map, List.getElem?_range' (by omega)]
    simp [List.getElem?_eq_getElem (show i < xs.length from by omega)]
  · rw [List.getElem?_eq_none (by simpa using hi), List.getElem?_eq_none (by omega)]
theorem ids_dget (xs : List DV) : (idsFrom 0 xs.length).map (A.den (dget xs)) = xs := by
  rw [idsFrom_den (dget xs) xs.length 0 0 (fun _ _ => rfl)]
  exact range_getD xs _ rfl
theorem idsFrom_len : ∀ (n k : Nat), (idsFrom n k).length = k
  | _, 0 => rfl
  | n, k + 1 => by simp [idsFrom, idsFrom_len (n + 1) k]
theorem const_den {ν1 ν2 : Nat → DV} (a : A) (h : a.const = true) : a.den ν1 = a.den ν2 := by cases a <;> simp [A.const] at h <;> rfl
theorem guess_len (n : Nat) (p s : St) : (guess n p s).1.length = n := by simp [guess, holesOf]

/-! ### Blocks renamed -/
theorem Lf.ren_spec {m : List Nat} {n : Nat} {ρ ρ' : Nat → Loc} (h : ∀ k, k < n → ρ' (rnm m k) = ρ k) {l : Lf} (hl : l.lt n = true) : (l.ren m).conc ν ρ' = l.conc ν ρ ∧ (l.good ν → (l.ren m).good ν) := by
  cases l <;> simp only [Lf.lt, decide_eq_true_eq] at hl <;> simp only [Lf.ren] <;> first | exact ⟨rfl, id⟩ | skip
  · exact ⟨by simp only [Lf.conc, h _ hl], id⟩
  · exact ⟨by simp only [Lf.conc, h _ hl], id⟩
  · rename_i f bs
    refine ⟨?_, fun _ => trivial⟩
    simp only [Lf.conc]
    rw [← capsConc_map, capsConc_lt hl h]
theorem V1.ren_spec {m : List Nat} {n : Nat} {ρ ρ' : Nat → Loc} (h : ∀ k, k < n → ρ' (rnm m k) = ρ k) {v : V1} (hl : v.lt n = true) : (v.ren m).conc ν ρ' = v.conc ν ρ ∧ (v.good ν → (v.ren m).good ν) := by
  cases v with
  | one l =>
    obtain ⟨h1, h2⟩ := Lf.ren_spec (ν := ν) h (l := l) (by simpa [V1.lt, V1.cells] using hl)
    exact ⟨h1, fun g => V1.good_one.2 (h2 (V1.good_one.1 g))⟩
  | agg l =>
    have hall : l.all (Lf.lt n) = true := hl
    refine ⟨?_, fun g => V1.good_agg.2 fun x hx => ?_⟩
    · simp only [V1.ren, V1.conc, List.map_map]
      congr 2
      exact List.map_congr_left fun x hx => (Lf.ren_spec h (List.all_eq_true.1 hall x hx)).1
    · obtain ⟨y, hy, rfl⟩ := List.mem_map.1 hx
      exact (Lf.ren_spec h (List.all_eq_true.1 hall y hy)).2 (V1.good_agg.1 g y hy)
theorem V.ren_spec {m : List Nat} {n : Nat} {ρ ρ' : Nat → Loc} (h : ∀ k, k < n → ρ' (rnm m k) = ρ k) {v : V} (hl : v.lt n = true) : (v.ren m).conc ν ρ' = v.conc ν ρ ∧ (v.good ν → (v.ren m).good ν) := by
  cases v with
  | s v => exact V1.ren_spec h (v := v) hl
  | t l =>
    have hall : l.all (V1.lt n) = true := hl
    refine ⟨?_, fun g x hx => ?_⟩
    · simp only [V.ren, V.conc, List.map_map]
      congr 2
      exact List.map_congr_left fun x hx => (V1.ren_spec h (List.all_eq_true.1 hall x hx)).1
    · obtain ⟨y, hy, rfl⟩ := List.mem_map.1 hx
      exact (V1.ren_spec h (List.all_eq_true.1 hall y hy)).2 (g y hy)
theorem Blk.ren_own (m : List Nat) (b : Blk) : (b.ren m).own = b.own := by cases b <;> rfl
theorem CRel.flat {E E' : Env} {t : LT} {d : DV} {v : Value} (ht : t.flat = true) (h : CRel E t d v) : CRel E' t d v := by
  cases h with
  | int k => exact .int k d
  | bool => exact .bool d
  | vec => cases ht
theorem getD_flat {ts : List LT} (h : ts.all LT.flat = true) (i : Nat) : (ts.getD i .bool).flat = true := by
  rw [List.getD_eq_getElem?_getD]
  cases hi : ts[i]? with
  | none => rfl
  | some t => exact List.all_eq_true.1 h t (List.mem_of_getElem? hi)
theorem BlkRel.flat {E E' : Env} {ρ : Nat → Loc} {w : World} {r : Loc} {b : Blk} (hf : b.flat = true) (h : BlkRel E ν ρ w r b) : BlkRel E' ν ρ w r b := by
  cases b with
  | c o cs => exact h
  | v o ts a =>
    have h : VRel E w r o ts (a.cells ν) := h
    exact ⟨h.nil, h.lt, h.pos, h.len, h.cap, fun i hi => let ⟨v, h1, h2⟩ := h.cell i hi; ⟨v, h1, h2.flat (getD_flat hf _)⟩, h.own⟩
theorem BlkRel.ren {ρ ρ' : Nat → Loc} {m : List Nat} {n : Nat} (hρ : ∀ k, k < n → ρ' (rnm m k) = ρ k) {w : World} {r : Loc} {b : Blk} (hl : b.lt n = true) (h : BlkRel E ν ρ w r b) : BlkRel E ν ρ' w r (b.ren m) := by
  cases b with
  | v o ts a => exact h
  | c o cs =>
    have h : CBlk ν ρ w r o cs := h
    refine (⟨h.nil, h.lt, fun i l hi => ?_, fun ho i hi => h.own ho i (by simpa using hi)⟩ : CBlk ν ρ' w r o (cs.map (Option.map (Lf.ren m))))
    rw [nth_map] at hi
    obtain ⟨x, hx, rfl⟩ := Option.map_eq_some_iff.1 hi
    obtain ⟨g1, g2⟩ := h.cell i x hx
    have hall : cs.all (optAll (Lf.lt n)) = true := hl
    obtain ⟨e1, e2⟩ := Lf.ren_spec (ν := ν) hρ (all_nth_of hall hx)
    exact ⟨e2 g1, by rw [e1]; exact g2⟩
theorem BlkRel.keep {ρ ρ' : Nat → Loc} {n : Nat} (hρ : ∀ k, k < n → ρ' k = ρ k) {w : World} {r : Loc} {b : Blk} (hl : b.lt n = true) (h : BlkRel E ν ρ w r b) : BlkRel E ν ρ' w r b := by
  cases b with
  | v o ts a => exact h
  | c o cs =>
    have h : CBlk ν ρ w r o cs := h
    refine (⟨h.nil, h.lt, fun i l hi => ?_, h.own⟩ : CBlk ν ρ' w r o cs)
    obtain ⟨g1, g2⟩ := h.cell i l hi
    refine ⟨g1, ?_⟩
    have hall : cs.all (optAll (Lf.lt n)) = true := hl
    have hll := all_nth_of hall hi
    rw [g2]
    congr 1
    cases l <;> simp only [Lf.lt, decide_eq_true_eq] at hll <;> simp only [Lf.conc] <;> first | rw [hρ _ hll] | rw [capsConc_lt hll hρ]
theorem BlkRel.froze {ρ : Nat → Loc} {w : World} {r : Loc} {b : Blk} (h : BlkRel E ν ρ w r b) : BlkRel E ν ρ w r b.froze := by
  cases b with
  | c o cs =>
    have h : CBlk ν ρ w r o cs := h
    exact ⟨h.nil, h.lt, h.cell, fun h => by cases h⟩
  | v o ts a =>
    have h : VRel E w r o ts (a.cells ν) := h
    exact ⟨h.nil, h.lt, h.pos, h.len, h.cap, h.cell, fun h => by cases h⟩
theorem Blk.froze_own (b : Blk) : b.froze.own = false := by cases b <;> rfl

/-- bk is b, or b that may not be written. -/
def Wk (bk b : Blk) : Prop := bk = b ∨ bk = b.froze
theorem Blk.froze_froze (b : Blk) : b.froze.froze = b.froze := by cases b <;> rfl
theorem Wk.trans_froze {bk b : Blk} (h : Wk bk b.froze) : bk = b.froze := by
  rcases h with h | h
  · exact h
  · rw [h, Blk.froze_froze]
theorem Wk.own {bk b : Blk} (h : Wk bk b) (ho : bk.own = true) : b.own = true ∧ bk = b := by
  rcases h with rfl | rfl
  · exact ⟨ho, rfl⟩
  · rw [Blk.froze_own] at ho; cases ho
theorem Wk.rel {ρ : Nat → Loc} {w : World} {r : Loc} {bk b : Blk} (h : Wk bk b) (hb : BlkRel E ν ρ w r b) : BlkRel E ν ρ w r bk := by
  rcases h with rfl | rfl
  · exact hb
  · exact hb.froze

/-! ### The blocks behind a call -/
theorem putBack_spec {hin hout : List (Option Blk)} {m m1 : List Nat} {dem : Bool} : ∀ (k j : Nat) (hp : List (Option Blk)),
    (putBack hin hout m m1 dem k j hp).length = hp.length ∧ ∀ i bk, nth (putBack hin hout m m1 dem k j hp) i = some bk →
      (∃ j' x y, j ≤ j' ∧ j' < j + k ∧ nth hin j' = some x ∧ x.own = true ∧ i = rnm m j' ∧ stays hin j' = true ∧ nth hout j' = some y ∧ Wk bk (y.ren m1)) ∨
      (∃ b0, nth hp i = some b0 ∧ Wk bk b0 ∧ (∀ j' x, j ≤ j' → j' < j + k → nth hin j' = some x → x.own = true → i ≠ rnm m j') ∧
        (dem = true → bk.own = true → ∀ j' x, j ≤ j' → j' < j + k → nth hin j' = some x → i ≠ rnm m j'))
  | 0, j, hp => ⟨rfl, fun i bk h => .inr ⟨bk, h, .inl rfl, fun j' x h1 h2 => by omega, fun _ _ j' x h1 h2 => by omega⟩⟩
  | k + 1, j, hp => by
    have close : ∀ (hp1 : List (Option Blk)), hp1.length = hp.length → (∀ i b1, nth hp1 i = some b1 →
        (∃ x y, nth hin j = some x ∧ x.own = true ∧ i = rnm m j ∧ stays hin j = true ∧ nth hout j = some y ∧ Wk b1 (y.ren m1)) ∨
        (∃ b0, nth hp i = some b0 ∧ Wk b1 b0 ∧ (∀ x, nth hin j = some x → x.own = true → i ≠ rnm m j) ∧ (dem = true → b1.own = true → ∀ x, nth hin j = some x → i ≠ rnm m j))) →
        (putBack hin hout m m1 dem k (j + 1) hp1).length = hp.length ∧ ∀ i bk, nth (putBack hin hout m m1 dem k (j + 1) hp1) i = some bk →
      (∃ j' x y, j ≤ j' ∧ j' < j + (k + 1) ∧ nth hin j' = some x ∧ x.own = true ∧ i = rnm m j' ∧ stays hin j' = true ∧ nth hout j' = some y ∧ Wk bk (y.ren m1)) ∨
      (∃ b0, nth hp i = some b0 ∧ Wk bk b0 ∧ (∀ j' x, j ≤ j' → j' < j + (k + 1) → nth hin j' = some x → x.own = true → i ≠ rnm m j') ∧
        (dem = true → bk.own = true → ∀ j' x, j ≤ j' → j' < j + (k + 1) → nth hin j' = some x → i ≠ rnm m j')) := by
      intro hp1 hl h1
      obtain ⟨e1, e2⟩ := putBack_spec k (j + 1) hp1
      refine ⟨e1.trans hl, fun i bk hb => ?_⟩
      have wkt : ∀ {a b c : Blk}, Wk a b → Wk b c → Wk a c := fun {a b c} h k => by
        rcases k with rfl | rfl
        · exact h
        · exact .inr h.trans_froze
      rcases e2 i bk hb with ⟨j', x, y, a1, a2, a3⟩ | ⟨b1, c1, c2, c3, c4⟩
      · exact .inl ⟨j', x, y, by omega, by omega, a3⟩
      · rcases h1 i b1 c1 with ⟨x, y, d1, d2, d3, d4, d5, d6⟩ | ⟨b0, d1, d2, d3, d4⟩
        · exact .inl ⟨j, x, y, Nat.le_refl _, by omega, d1, d2, d3, d4, d5, wkt c2 d6⟩
        · refine .inr ⟨b0, d1, wkt c2 d2, fun j' x l1 l2 hx ho => ?_, fun hd ho j' x l1 l2 hx => ?_⟩
          · rcases Nat.eq_or_lt_of_le l1 with rfl | l1
            · exact d3 x hx ho
            · exact c3 j' x l1 (by omega) hx ho
          · rcases Nat.eq_or_lt_of_le l1 with rfl | l1
            · exact d4 hd (c2.own ho).1 x hx
            · exact c4 hd ho j' x l1 (by omega) hx
    unfold putBack
    cases hx : nth hin j with
    | none => exact close hp rfl fun i b1 hb => .inr ⟨b1, hb, .inl rfl, (fun x h => by rw [hx] at h; cases h), (fun _ _ x h => by rw [hx] at h; cases h)⟩
    | some x =>
      simp only
      split
      · rename_i ho
        refine close _ (setNth_length _ _ _) fun i b1 hb => ?_
        by_cases hi : rnm m j = i
        · subst hi
          rw [nth_setNth_same] at hb
          split at hb
          · split at hb
            · rename_i hst
              obtain ⟨y, hy, rfl⟩ := Option.map_eq_some_iff.1 hb
              exact .inl ⟨x, y, hx, ho, rfl, hst, hy, .inl rfl⟩
            · cases hb
          · cases hb
        · rw [nth_setNth_ne _ _ _ _ hi] at hb
          exact .inr ⟨b1, hb, .inl rfl, fun _ _ _ e => hi e.symm, fun _ _ _ _ e => hi e.symm⟩
      · rename_i ho
        split
        · refine close _ (setNth_length _ _ _) fun i b1 hb => ?_
          by_cases hi : rnm m j = i
          · subst hi
            rw [nth_setNth_same] at hb
            split at hb
            · obtain ⟨y, hy, rfl⟩ := Option.map_eq_some_iff.1 hb
              refine .inr ⟨y, hy, .inr rfl, fun x' h' ho' => ?_, fun _ ho' => ?_⟩
              · rw [hx] at h'; cases h'; exact absurd ho' ho
              · rw [Blk.froze_own] at ho'; cases ho'
            · cases hb
          · rw [nth_setNth_ne _ _ _ _ hi] at hb
            exact .inr ⟨b1, hb, .inl rfl, fun _ _ _ e => hi e.symm, fun _ _ _ _ e => hi e.symm⟩
        · rename_i hd
          refine close _ rfl fun i b1 hb => .inr ⟨b1, hb, .inl rfl, fun x' h' ho' => ?_, fun hd' => absurd hd' hd⟩
          rw [hx] at h'; cases h'; exact absurd ho' ho

theorem newBack_spec {hin : List (Option Blk)} {m1 : List Nat} : ∀ {l : List (Option Blk)} {j i : Nat} {bk : Blk}, nth (newBack hin m1 j l) i = some bk → ∃ y, nth l i = some y ∧ stays hin (j + i) = false ∧ bk = y.ren m1
  | [], j, i, bk, h => by cases i <;> cases h
  | x :: l, j, 0, bk, h => by
    change (if stays hin j then none else x.map (Blk.ren m1)) = some bk at h
    split at h
    · cases h
    · rename_i hs
      obtain ⟨y, rfl, rfl⟩ := Option.map_eq_some_iff.1 h
      exact ⟨y, rfl, by simpa using hs, rfl⟩
  | x :: l, j, i + 1, bk, h => by
    obtain ⟨y, h1, h2, h3⟩ := newBack_spec (l := l) (j := j + 1) (i := i) h
    exact ⟨y, h1, by rwa [show j + (i + 1) = j + 1 + i from by omega], h3⟩

theorem anyFrozen_spec {hin : List (Option Blk)} : ∀ {l : List (Option Blk)} {j i : Nat} {y : Blk}, nth l i = some y → y.own = false → stays hin (j + i) = false → anyFrozen hin j l = true
  | [], j, i, y, h, _, _ => by cases i <;> cases h
  | x :: l, j, 0, y, h, h1, h2 => by
    cases h
    simp only [anyFrozen]
    rw [Nat.add_zero] at h2
    simp [h1, h2]
  | x :: l, j, i + 1, y, h, h1, h2 => by
    simp only [anyFrozen, Bool.or_eq_true]
    exact .inr (anyFrozen_spec (l := l) (j := j + 1) (i := i) h h1 (by rwa [show j + 1 + i = j + (i + 1) from by omega]))

theorem backMap_at {hin : List (Option Blk)} {m : List Nat} {n k j : Nat} (h : j < k) : rnm (backMap hin m n k) j = if stays hin j then rnm m j else n + j := by
  unfold rnm backMap
  rw [List.getD_eq_getElem?_getD, List.getElem?_map, List.getElem?_range h]
  rfl

theorem stays_lt {hin : List (Option Blk)} {j : Nat} (h : stays hin j = true) : ∃ x, nth hin j = some x := by
  unfold stays at h
  cases hn : nth hin j with
  | none => rw [hn] at h; cases h
  | some x => exact ⟨x, rfl⟩

/-- What held of rows where the call began holds for the called function. -/
theorem CRel.enter {E E' : Env} (h0 : ∀ b, b < E.w0.heap.size → ¬ E.W b → b < E'.w0.heap.size ∧ ¬ E'.W b ∧ E'.w0.heap[b]? = E.w0.heap[b]?) {t : LT} {d : DV} {v : Value} (h : CRel E t d v) : CRel E' t d v := by
  induction h with
  | int k d => exact .int k d
  | bool d => exact .bool d
  | vec ts d r vs hnil hlt hpos hlen hcap hv hc ih =>
    refine .vec ts d r vs hnil (fun e => ?_) hpos hlen hcap (fun i hi => ?_) ih
    · obtain ⟨a, b⟩ := hlt e
      obtain ⟨c1, c2, _⟩ := h0 _ a b
      exact ⟨c1, c2⟩
    · cases hn : r.nil with
      | true =>
        have := (hnil hn).1
        rw [hlen, this, Nat.zero_mul] at hi
        omega
      | false =>
        obtain ⟨a, b⟩ := hlt hn
        obtain ⟨_, _, c3⟩ := h0 _ a b
        rw [World.cell?_of_block (w := E.w0) c3]
        exact hv i hi
theorem BlkRel.enter {E E' : Env} (h0 : ∀ b, b < E.w0.heap.size → ¬ E.W b → b < E'.w0.heap.size ∧ ¬ E'.W b ∧ E'.w0.heap[b]? = E.w0.heap[b]?) {ρ : Nat → Loc} {w : World} {r : Loc} {b : Blk} (h : BlkRel E ν ρ w r b) : BlkRel E' ν ρ w r b := by
  cases b with
  | c o cs => exact h
  | v o ts a =>
    have h : VRel E w r o ts (a.cells ν) := h
    exact ⟨h.nil, h.lt, h.pos, h.len, h.cap, fun i hi => let ⟨v, h1, h2⟩ := h.cell i hi; ⟨v, h1, h2.enter h0⟩, h.own⟩
end
end Go.Sx
