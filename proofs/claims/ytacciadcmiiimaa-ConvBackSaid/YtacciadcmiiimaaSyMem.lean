/- Values, parts, equality, and blocks: the evaluator agrees with the model. -/
import Derived.Test.YtacciadcmiiimaaSyArith
import Derived.Laws.IdiomCopy
namespace Go.Sx

/-! ### Lists -/
theorem cellAt_eq (l : List (Option Lf)) (n : Nat) : cellAt l n = nth l n := by
  induction l generalizing n with
  | nil => cases n <;> rfl
  | cons x l ih => cases n with
    | zero => rfl
    | succ n => exact ih n

theorem nth_lt {α : Type} {l : List (Option α)} {n : Nat} {x : α} (h : nth l n = some x) : n < l.length := by
  induction l generalizing n with
  | nil => cases n <;> simp [nth] at h
  | cons y l ih => cases n with
    | zero => simp
    | succ n => simp only [nth] at h; have := ih h; simp; exact this

theorem nth_map_some {α : Type} (l : List α) (n : Nat) : nth (l.map some) n = l[n]? := by
  induction l generalizing n with
  | nil => cases n <;> rfl
  | cons y l ih => cases n with
    | zero => rfl
    | succ n => simpa [nth] using ih n

theorem nth_append {α : Type} (l l' : List (Option α)) (n : Nat) : nth (l ++ l') n = if n < l.length then nth l n else nth l' (n - l.length) := by
  induction l generalizing n with
  | nil => simp
  | cons y l ih => cases n with
    | zero => simp [nth]
    | succ n =>
      simp only [List.cons_append, nth, ih, List.length_cons]
      by_cases h : n < l.length
      · simp [h]
      · simp [h]

theorem setNth_length {α : Type} (v : α) (l : List α) (n : Nat) : (setNth v l n).length = l.length := by
  induction l generalizing n with
  | nil => cases n <;> rfl
  | cons y l ih => cases n with
    | zero => rfl
    | succ n => simp [setNth, ih]

theorem nth_setNth_same {α : Type} (v : Option α) (l : List (Option α)) (n : Nat) : nth (setNth v l n) n = if n < l.length then v else none := by
  induction l generalizing n with
  | nil => cases n <;> simp [setNth, nth]
  | cons y l ih => cases n with
    | zero => simp [setNth, nth]
    | succ n => simp [setNth, nth, ih]

theorem nth_setNth_ne {α : Type} (v : Option α) (l : List (Option α)) (n m : Nat) (h : n ≠ m) : nth (setNth v l n) m = nth l m := by
  induction l generalizing n m with
  | nil => cases n <;> rfl
  | cons y l ih => cases n with
    | zero => cases m with
      | zero => exact absurd rfl h
      | succ m => rfl
    | succ n => cases m with
      | zero => rfl
      | succ m => exact ih n m (fun e => h (by rw [e]))

theorem takeCells_spec {l : List (Option Lf)} {o n : Nat} {xs : List Lf} (h : takeCells l o n = some xs) : xs.length = n ∧ ∀ j, j < n → nth l (o + j) = xs[j]? := by
  induction l generalizing o n xs with
  | nil => cases n with
    | zero => simp [takeCells] at h; subst h; exact ⟨rfl, fun j hj => absurd hj (by omega)⟩
    | succ n => cases o <;> simp [takeCells] at h
  | cons c l ih => cases n with
    | zero => cases o <;> simp [takeCells] at h <;> (subst h; exact ⟨rfl, fun j hj => absurd hj (by omega)⟩)
    | succ n => cases o with
      | succ o =>
        simp only [takeCells] at h
        obtain ⟨h1, h2⟩ := ih h
        refine ⟨h1, fun j hj => ?_⟩
        rw [show o + 1 + j = (o + j) + 1 from by omega]
        exact h2 j hj
      | zero =>
        simp only [takeCells] at h
        cases c with
        | none => simp at h
        | some x =>
          simp only at h
          cases hr : takeCells l 0 n with
          | none => simp [hr] at h
          | some r =>
            simp only [hr, Option.some.injEq] at h
            subst h
            obtain ⟨h1, h2⟩ := ih hr
            refine ⟨by simp [h1], fun j hj => ?_⟩
            cases j with
            | zero => rfl
            | succ j =>
              rw [show 0 + (j + 1) = (0 + j) + 1 from by omega]
              exact h2 j (by omega)

theorem rowCells_spec {l : List (Option Lf)} {sz : Nat} : ∀ {n base : Nat} {xs : List Lf}, rowCells l base sz n = some xs → xs.length = n ∧ ∀ j, j < n → nth l (base + j * sz) = xs[j]?
  | 0, base, xs, h => by simp [rowCells] at h; subst h; exact ⟨rfl, fun j hj => absurd hj (by omega)⟩
  | n + 1, base, xs, h => by
    simp only [rowCells, cellAt_eq] at h
    cases hc : nth l base with
    | none => simp [hc] at h
    | some x =>
      simp only [hc] at h
      cases hr : rowCells l (base + sz) sz n with
      | none => simp [hr] at h
      | some r =>
        simp only [hr, Option.some.injEq] at h
        subst h
        obtain ⟨h1, h2⟩ := rowCells_spec hr
        refine ⟨by simp [h1], fun j hj => ?_⟩
        cases j with
        | zero => simp [hc]
        | succ j =>
          have := h2 j (by omega)
          rw [show base + (j + 1) * sz = base + sz + j * sz from by rw [Nat.add_mul]; omega]
          simpa using this

theorem asInts_spec {k : IntKind} : ∀ {l : List Lf} {xs : List A}, asInts k l = some xs → l = xs.map (Lf.i k)
  | [], xs, h => by simp [asInts] at h; subst h; rfl
  | .i k' a :: l, xs, h => by
    simp only [asInts] at h
    split at h
    · rename_i hk
      have := kEq_eq hk; subst this
      cases hr : asInts k l with
      | none => simp [hr] at h
      | some r => simp only [hr, Option.some.injEq] at h; subst h; rw [asInts_spec hr]; rfl
    · simp at h
  | .b _ :: _, xs, h => by simp [asInts] at h
  | .p _ _ :: _, xs, h => by simp [asInts] at h
  | .gp _ _ :: _, xs, h => by simp [asInts] at h
  | .nilp :: _, xs, h => by simp [asInts] at h
  | .vec _ :: _, xs, h => by simp [asInts] at h
  | .fnp _ _ :: _, xs, h => by simp [asInts] at h
  | .v _ :: _, xs, h => by simp [asInts] at h
theorem asBools_spec : ∀ {l : List Lf} {xs : List A}, asBools l = some xs → l = xs.map Lf.b
  | [], xs, h => by simp [asBools] at h; subst h; rfl
  | .b a :: l, xs, h => by
    simp only [asBools] at h
    cases hr : asBools l with
    | none => simp [hr] at h
    | some r => simp only [hr, Option.some.injEq] at h; subst h; rw [asBools_spec hr]; rfl
  | .i _ _ :: _, xs, h => by simp [asBools] at h
  | .p _ _ :: _, xs, h => by simp [asBools] at h
  | .gp _ _ :: _, xs, h => by simp [asBools] at h
  | .nilp :: _, xs, h => by simp [asBools] at h
  | .vec _ :: _, xs, h => by simp [asBools] at h
  | .fnp _ _ :: _, xs, h => by simp [asBools] at h
  | .v _ :: _, xs, h => by simp [asBools] at h

section
variable {P : Program} {F : FEnv} {ν : Nat → DV} {ρ : Nat → Loc} {w : World}

theorem tsize_spec {t : TypeId} {n : Nat} (h : tsize P t = some n) : ∃ i, P.info? t = some i ∧ i.size = n := by
  unfold tsize at h
  cases hi : P.info? t with
  | none => simp [hi] at h
  | some i => simp [hi] at h; exact ⟨i, rfl, h⟩
theorem run_size {t : TypeId} {n : Nat} (h : tsize P t = some n) (w : World) : (sizeOf t).run P w = .ok n w := by
  obtain ⟨i, hi, hn⟩ := tsize_spec h
  simp [sizeOf, typeInfo, hi, hn]
theorem run_isAgg {t : TypeId} {k : TK} (h : tk P t = some k) (w : World) : (isAgg t).run P w = .ok (isAggT k) w := by
  obtain ⟨d, hd, hk⟩ := tk_spec h
  unfold isAgg
  rw [Sem.run_bind, run_underlying hd w]
  subst hk
  cases d <;> simp [tkOf, isAggT]

/-- A leaf chosen from a row. -/
theorem selLeaf_sat {l : List Lf} {ix : A} {len : Nat} (hl : l.length = len) (h0 : 0 ≤ ix.int ν) (h1 : ix.int ν < len) :
    M.sat F ν (selLeaf l ix) (fun x => x.good ν ∧ ∀ ρ, ∃ y, l[(ix.int ν).toNat]? = some y ∧ x.conc ν ρ = y.conc ν ρ) := by
  have hlt : (ix.int ν).toNat < l.length := by omega
  unfold selLeaf
  split
  · rename_i k a tl
    generalize hL : Lf.i k a :: tl = L at *
    refine sat_bind (sat_lift (Q := fun xs => L = xs.map (Lf.i k)) fun xs h => asInts_spec h) fun xs hxs => ?_
    refine sat_bind (sat_emit (Q := fun r => r.int ν = _) fun r h => A.int_of_den h) fun r hr => sat_pure ⟨trivial, fun ρ => ?_⟩
    rw [hxs] at hlt ⊢
    simp at hlt
    refine ⟨_, List.getElem?_eq_getElem (by simpa using hlt), ?_⟩
    simp [Lf.conc, hr, List.getD, hlt]
  · rename_i a tl
    generalize hL : Lf.b a :: tl = L at *
    refine sat_bind (sat_lift (Q := fun xs => L = xs.map Lf.b) fun xs h => asBools_spec h) fun xs hxs => ?_
    refine sat_bind (sat_emit (Q := fun r => r.bool ν = _) fun r h => A.bool_of_den h) fun r hr => sat_pure ⟨trivial, fun ρ => ?_⟩
    rw [hxs] at hlt ⊢
    simp at hlt
    refine ⟨_, List.getElem?_eq_getElem (by simpa using hlt), ?_⟩
    simp [Lf.conc, hr, List.getD, hlt]
  · exact sat_fail

theorem selAgg_sat {l : List (Option Lf)} {sz len : Nat} {ix : A} (h0 : 0 ≤ ix.int ν) (h1 : ix.int ν < len) : ∀ (n base : Nat),
    M.sat F ν (selAgg l base sz len ix n) (fun xs => xs.length = n ∧ (∀ x ∈ xs, x.good ν) ∧ ∀ ρ j, j < n → ∃ x y, xs[j]? = some x ∧ nth l (base + j + (ix.int ν).toNat * sz) = some y ∧ x.conc ν ρ = y.conc ν ρ)
  | 0, base => sat_pure ⟨rfl, by simp, fun ρ j hj => absurd hj (by omega)⟩
  | n + 1, base => by
    unfold selAgg
    refine sat_bind (sat_lift (Q := fun row => rowCells l base sz len = some row) fun a h => h) fun row hrow => ?_
    obtain ⟨hlen, hget⟩ := rowCells_spec hrow
    refine sat_bind (selLeaf_sat hlen h0 h1) fun x hx => ?_
    refine sat_bind (selAgg_sat h0 h1 n (base + 1)) fun r hr => sat_pure ?_
    obtain ⟨hr1, hr2, hr3⟩ := hr
    refine ⟨by simp [hr1], ?_, fun ρ j hj => ?_⟩
    · intro y hy
      rcases List.mem_cons.1 hy with rfl | h
      · exact hx.1
      · exact hr2 y h
    · cases j with
      | zero =>
        obtain ⟨y, hy, he⟩ := hx.2 ρ
        refine ⟨x, y, rfl, ?_, he⟩
        rw [Nat.add_zero, hget _ (by omega)]
        exact hy
      | succ j =>
        obtain ⟨x', y', h1', h2', h3'⟩ := hr3 ρ j (by omega)
        refine ⟨x', y', by simpa using h1', ?_, h3'⟩
        rw [show base + (j + 1) = base + 1 + j from by omega]
        exact h2'

/-! ### Parts of aggregates -/
theorem extract_take {l : List Lf} {off sz : Nat} {xs : List Lf} (h : takeCells (l.map some) off sz = some xs) (f : Lf → Value) :
    (l.map f).toArray.extract off (off + sz) = (xs.map f).toArray := by
  obtain ⟨h1, h2⟩ := takeCells_spec h
  have hle : off + sz ≤ l.length ∨ sz = 0 := by
    cases sz with
    | zero => exact .inr rfl
    | succ n =>
      left
      have hx := h2 n (by omega)
      have hxs : xs[n]? = some xs[n] := List.getElem?_eq_getElem (by omega)
      rw [hxs] at hx
      have := nth_lt hx
      simp at this
      omega
  apply Array.ext'
  rw [Array.toList_extract, List.extract_eq_take_drop]
  apply List.ext_getElem?
  intro j
  rw [List.getElem?_take]
  by_cases hj : j < sz
  · have hx := h2 j hj
    rw [nth_map_some] at hx
    rw [if_pos (by omega), List.getElem?_drop]
    simp [hx]
  · rw [if_neg (by omega)]
    simp only [List.getElem?_map]
    rw [List.getElem?_eq_none (by omega)]
    rfl

theorem mem_of_take {l : List Lf} {off sz : Nat} {xs : List Lf} (h : takeCells (l.map some) off sz = some xs) {x : Lf} (hx : x ∈ xs) : x ∈ l := by
  obtain ⟨h1, h2⟩ := takeCells_spec h
  obtain ⟨j, hj, rfl⟩ := List.mem_iff_getElem.1 hx
  have := h2 j (by omega)
  rw [nth_map_some, List.getElem?_eq_getElem hj] at this
  exact List.mem_of_getElem? this

theorem partOf_sat {t : TypeId} {cs : List Lf} {off : Nat} (hg : ∀ x ∈ cs, Lf.good ν x) :
    M.sat F ν (partOf P t cs off) (fun v => v.good ν ∧ ∀ ρ w, (part t (cs.map (Lf.conc ν ρ)).toArray off).run P w = .ok (v.conc ν ρ) w) := by
  unfold partOf
  refine sat_bind (sat_lift (Q := fun k => tk P t = some k) fun a h => h) fun k hk => ?_
  refine sat_bind (sat_lift (Q := fun k => tsize P t = some k) fun a h => h) fun sz hs => ?_
  refine sat_ite (fun ha => ?_) (fun ha => ?_)
  · refine sat_bind (sat_lift (Q := fun xs => takeCells (cs.map some) off sz = some xs) fun a h => h) fun xs hxs => sat_pure ⟨?_, fun ρ w => ?_⟩
    · exact V1.good_agg.2 fun x hx => hg x (mem_of_take hxs hx)
    · have hex := extract_take hxs (Lf.conc ν ρ)
      simp only [part, Sem.run_bind, run_isAgg hk, ha, Result.andThen_ok, if_true, run_size hs, Sem.run_pure, V1.conc, hex]
  · refine sat_bind (sat_lift (Q := fun x => cellAt (cs.map some) off = some x) fun a h => h) fun x hx => ?_
    rw [cellAt_eq, nth_map_some] at hx
    refine sat_pure ⟨V1.good_one.2 (hg x (List.mem_of_getElem? hx)), fun ρ w => ?_⟩
    simp [part, run_isAgg hk, ha, hx, V1.conc]

/-! ### '==' -/
theorem mkAnd_run {a b : A} : M.sat F ν (mkAnd a b) (fun r => r.bool ν = (a.bool ν && b.bool ν)) := mkAnd_sat

def EqRel (P : Program) (ν : Nat → DV) (d : Nat) (eq : TypeId → V1 → V1 → M A) (F : FEnv) : Prop :=
  ∀ t x y, x.good ν → y.good ν → M.sat F ν (eq t x y) (fun a => ∀ ρ m w, (Op.equalIn (m + d) t (x.conc ν ρ) (y.conc ν ρ)).run P w = .ok (a.bool ν) w)

theorem evEqRow_sat {d : Nat} {eq : TypeId → V1 → V1 → M A} (heq : EqRel P ν d eq F) {elem : TypeId} {sz : Nat} {xs ys : List Lf} (hx : ∀ x ∈ xs, Lf.good ν x) (hy : ∀ x ∈ ys, Lf.good ν x) :
    ∀ (n i : Nat), M.sat F ν (evEqRow P eq elem sz xs ys i n) (fun a => ∀ ρ m w, (Op.eqItems (m + d) elem sz (xs.map (Lf.conc ν ρ)).toArray (ys.map (Lf.conc ν ρ)).toArray (List.range' i n)).run P w = .ok (a.bool ν) w)
  | 0, i => sat_pure (by intro ρ m w; simp [Op.eqItems])
  | n + 1, i => by
    unfold evEqRow
    refine sat_bind (partOf_sat hx) fun a ha => ?_
    refine sat_bind (partOf_sat hy) fun b hb => ?_
    refine sat_bind (heq elem a b ha.1 hb.1) fun e he => ?_
    refine sat_bind (evEqRow_sat heq hx hy n (i + 1)) fun r hr => ?_
    refine sat_mono mkAnd_sat fun q hq ρ m w => ?_
    rw [List.range'_succ]
    simp only [Op.eqItems, Sem.run_bind, ha.2 ρ w, hb.2 ρ w, Result.andThen_ok, he ρ m w, hq]
    cases h : e.bool ν
    · simp
    · simpa using hr ρ m w

theorem evEqFields_sat {d : Nat} {eq : TypeId → V1 → V1 → M A} (heq : EqRel P ν d eq F) {xs ys : List Lf} (hx : ∀ x ∈ xs, Lf.good ν x) (hy : ∀ x ∈ ys, Lf.good ν x) :
    ∀ (fs : List Field), (∀ f ∈ fs, f.name ≠ "_") → M.sat F ν (evEqFields P eq xs ys (fs.map fun f => (f.offset, f.type))) (fun a => ∀ ρ m w, (Op.eqFields (m + d) (xs.map (Lf.conc ν ρ)).toArray (ys.map (Lf.conc ν ρ)).toArray fs).run P w = .ok (a.bool ν) w)
  | [], _ => sat_pure (by intro ρ m w; simp [Op.eqFields])
  | f :: fs, hn => by
    simp only [List.map_cons]
    unfold evEqFields
    refine sat_bind (partOf_sat hx) fun a ha => ?_
    refine sat_bind (partOf_sat hy) fun b hb => ?_
    refine sat_bind (heq f.type a b ha.1 hb.1) fun e he => ?_
    refine sat_bind (evEqFields_sat heq hx hy fs (fun g hg => hn g (List.mem_cons_of_mem _ hg))) fun r hr => ?_
    refine sat_mono mkAnd_sat fun q hq ρ m w => ?_
    have hne : f.name ≠ "_" := hn f (by simp)
    simp only [Op.eqFields, hne, ne_eq, not_false_eq_true, if_true, Sem.run_bind, ha.2 ρ w, hb.2 ρ w, Result.andThen_ok, he ρ m w, hq]
    cases h : e.bool ν
    · simp
    · simpa using hr ρ m w

theorem evEq_sat : ∀ (d : Nat), EqRel P ν d (evEq P d) F
  | 0 => fun t x y _ _ => sat_fail
  | d + 1 => fun t x y hgx hgy => by
    unfold evEq
    refine sat_bind (sat_lift (Q := fun k => tk P t = some k) fun a h => h) fun k hk => ?_
    split
    · rename_i ki ka a kb b
      refine sat_ite (fun hkk => ?_) (fun _ => sat_fail)
      have := kEq_eq hkk; subst this
      have hu := tk_int hk
      split
      · exact sat_pure fun ρ m w => by simp [V1.conc, Lf.conc, ← Nat.add_assoc, run_equalIn_int w _ t _ _ _ _ hu]
      · exact sat_emit fun r h ρ m w => by rw [A.bool_of_den h]; simp [V1.conc, Lf.conc, ← Nat.add_assoc, run_equalIn_int w _ t _ _ _ _ hu]
    · have hu := tk_bool hk
      split
      · exact sat_pure fun ρ m w => by simp [V1.conc, Lf.conc, ← Nat.add_assoc, run_equalIn_bool' w _ t _ _ hu]
      · exact sat_emit fun r h ρ m w => by rw [A.bool_of_den h]; simp [V1.conc, Lf.conc, ← Nat.add_assoc, run_equalIn_bool' w _ t _ _ hu]
    · rename_i len elem xs ys
      have hu := tk_arr hk
      refine sat_bind (sat_lift (Q := fun k => tsize P elem = some k) fun a h => h) fun sz hs => ?_
      obtain ⟨i, hi, hn⟩ := tsize_spec hs
      refine sat_mono (evEqRow_sat (evEq_sat d) (V1.good_agg.1 hgx) (V1.good_agg.1 hgy) len 0) fun a ha ρ m w => ?_
      have hc : P.cellsOf elem = sz := by simp [Program.cellsOf, hi, hn]
      simp only [V1.conc]
      rw [← Nat.add_assoc, run_equalIn_array w (m + d) _ _ hu hi, hc, List.range_eq_range']
      exact ha ρ m w
    · rename_i fs xs ys
      obtain ⟨fl, hu, hfs⟩ := tk_struct hk
      have hfo : P.fieldsOf t = fl := by simp [Program.fieldsOf, hu]
      refine sat_ite (fun _ => sat_fail) (fun hst => ?_)
      refine sat_ite (fun hnm => ?_) (fun _ => sat_fail)
      subst hfs
      rw [hfo] at hnm
      refine sat_mono (evEqFields_sat (evEq_sat d) (V1.good_agg.1 hgx) (V1.good_agg.1 hgy) fl.toList (by
        intro f hf
        have := List.all_eq_true.1 hnm f hf
        simpa using this)) fun a ha ρ m w => ?_
      simp only [V1.conc]
      rw [← Nat.add_assoc, run_equalIn_struct w (m + d) t _ _ (by rw [hfo]; exact hu) (by simpa using hst), hfo]
      exact ha ρ m w
    · exact sat_fail

end
end Go.Sx
