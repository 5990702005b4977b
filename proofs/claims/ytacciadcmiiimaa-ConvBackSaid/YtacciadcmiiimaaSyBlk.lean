/- Blocks of memory: what is known of them; loads. -/
import Derived.Test.YtacciadcmiiimaaSyMem
namespace Go.Sx
open Go.RowKit

/-- Whence a code began: what it may write, what it may read alone, the world there; the blocks that came in, and where. -/
structure Env where
  W : Nat → Prop
  V : Nat → Prop
  w0 : World
  n0 : Nat
  ρ0 : Nat → Loc

/-- What a cell of a row holds. A row within a row lies where nothing is written. -/
inductive CRel (E : Env) : LT → DV → Value → Prop
  | int (k : IntKind) (d : DV) : CRel E (.int k) d (.int k d.toI)
  | bool (d : DV) : CRel E .bool d (.bool d.toB)
  | vec (ts : List LT) (d : DV) (r : Loc) (vs : Nat → Value) (hnil : r.nil = true → r.len = 0 ∧ r.cap = 0) (hlt : r.nil = false → r.blk < E.w0.heap.size ∧ ¬ E.W r.blk) (hpos : 0 < ts.length)
      (hlen : d.toL.length = r.len * ts.length) (hcap : r.len ≤ r.cap) (hv : ∀ i, i < d.toL.length → E.w0.cell? ⟨r.blk, r.off + i, none⟩ = some (vs i))
      (hc : ∀ i, i < d.toL.length → CRel E (ts.getD (i % ts.length) .bool) (d.toL.getD i default) (vs i)) : CRel E (.vec ts) d r.slice

/-- A row: its cells. -/
structure VRel (E : Env) (w : World) (r : Loc) (own : Bool) (ts : List LT) (xs : List DV) : Prop where
  nil : r.nil = true → r.len = 0 ∧ r.cap = 0
  lt : r.nil = false → r.blk < w.heap.size
  pos : 0 < ts.length
  len : xs.length = r.len * ts.length
  cap : r.len ≤ r.cap
  cell : ∀ i, i < xs.length → ∃ v, w.cell? ⟨r.blk, r.off + i, none⟩ = some v ∧ CRel E (ts.getD (i % ts.length) .bool) (xs.getD i default) v
  own : own = true → r.nil = false → ∀ i, i < r.cap * ts.length → (w.cell? ⟨r.blk, r.off + i, none⟩).isSome = true ∧ w.frozen? ⟨r.blk, r.off + i, none⟩ = false

/-- What the world holds of cells that the evaluator knows. -/
structure CBlk (ν : Nat → DV) (ρ : Nat → Loc) (w : World) (r : Loc) (own : Bool) (cs : List (Option Lf)) : Prop where
  nil : r.nil = false
  lt : r.blk < w.heap.size
  cell : ∀ i l, nth cs i = some l → l.good ν ∧ w.cell? ⟨r.blk, r.off + i, none⟩ = some (l.conc ν ρ)
  own : own = true → ∀ i, i < cs.length → (w.cell? ⟨r.blk, r.off + i, none⟩).isSome = true ∧ w.frozen? ⟨r.blk, r.off + i, none⟩ = false

def BlkRel (E : Env) (ν : Nat → DV) (ρ : Nat → Loc) (w : World) (r : Loc) : Blk → Prop
  | .c own cs => CBlk ν ρ w r own cs
  | .v own ts a => VRel E w r own ts (a.cells ν)

structure HRel (E : Env) (ν : Nat → DV) (ρ : Nat → Loc) (hp : List (Option Blk)) (w : World) : Prop where
  blk : ∀ j bk, nth hp j = some bk → BlkRel E ν ρ w (ρ j) bk
  apart : ∀ j j' bk bk', nth hp j = some bk → bk.own = true → nth hp j' = some bk' → j ≠ j' → (ρ j).nil = false → (ρ j').nil = false → (ρ j).blk ≠ (ρ j').blk

/-- Nothing that stood before has turned, but in the blocks of W. -/
structure Fr (W : Nat → Prop) (w0 w : World) : Prop where
  os : w.os = w0.os
  tape : w.tape = w0.tape
  output : w.output = w0.output
  size : w0.heap.size ≤ w.heap.size
  block : ∀ b, b < w0.heap.size → ¬ W b → w.heap[b]? = w0.heap[b]?

theorem Fr.refl (W : Nat → Prop) (w : World) : Fr W w w := ⟨rfl, rfl, rfl, Nat.le_refl _, fun _ _ _ => rfl⟩
theorem Fr.trans {W : Nat → Prop} {a b c : World} (h : Fr W a b) (k : Fr W b c) : Fr W a c :=
  ⟨k.os.trans h.os, k.tape.trans h.tape, k.output.trans h.output, Nat.le_trans h.size k.size,
   fun i hi hw => (k.block i (Nat.lt_of_lt_of_le hi h.size) hw).trans (h.block i hi hw)⟩
theorem Fr.of_below {W : Nat → Prop} {w w' : World} (h : Below w.heap.size w w') : Fr W w w' :=
  ⟨h.os, h.tape, h.output, h.size, fun b hb _ => h.block b hb⟩
theorem Fr.below {w w' : World} (h : Fr (fun _ => False) w w') : Below w.heap.size w w' :=
  ⟨h.os, h.tape, h.output, h.size, fun b hb => h.block b hb (fun f => f)⟩
theorem Fr.weaken {W W' : Nat → Prop} {w w' : World} (h : Fr W w w') (hw : ∀ b, W b → W' b) : Fr W' w w' :=
  ⟨h.os, h.tape, h.output, h.size, fun b hb hn => h.block b hb (fun x => hn (hw b x))⟩

/-- The known blocks are new, or came in. -/
def OldF (W V : Nat → Prop) (w0 : World) (ρ : Nat → Loc) (hp : List (Option Blk)) : Prop :=
  ∀ j bk, nth hp j = some bk → (ρ j).nil = true ∨ w0.heap.size ≤ (ρ j).blk ∨ W (ρ j).blk ∨ (bk.own = false ∧ V (ρ j).blk)

section
variable {P : Program} {F : FEnv} {E : Env} {ν : Nat → DV} {ρ : Nat → Loc} {w : World}

theorem BlkRel.lt {r : Loc} {bk : Blk} (h : BlkRel E ν ρ w r bk) (hn : r.nil = false) : r.blk < w.heap.size := by
  cases bk with
  | c o cs => exact CBlk.lt h
  | v o ts a => exact VRel.lt h hn

/-- Blocks of which the heap holds the same read the same. -/
theorem BlkRel.of_block {w w' : World} {r : Loc} {bk : Blk} (h : BlkRel E ν ρ w r bk) (hs : w.heap.size ≤ w'.heap.size) (hb : r.nil = false → w'.heap[r.blk]? = w.heap[r.blk]?) : BlkRel E ν ρ w' r bk := by
  cases bk with
  | c o cs =>
    have h : CBlk ν ρ w r o cs := h
    have hb := hb h.nil
    have hc : ∀ i, w'.cell? ⟨r.blk, i, none⟩ = w.cell? ⟨r.blk, i, none⟩ := fun i => World.cell?_of_block (w := w) hb
    have hf : ∀ i, w'.frozen? ⟨r.blk, i, none⟩ = w.frozen? ⟨r.blk, i, none⟩ := fun i => World.frozen?_of_block (w := w) hb
    exact ⟨h.nil, Nat.lt_of_lt_of_le h.lt hs, fun i l hl => by rw [hc]; exact h.cell i l hl, fun ho i hi => by rw [hc, hf]; exact h.own ho i hi⟩
  | v o ts a =>
    have h : VRel E w r o ts (a.cells ν) := h
    cases hn : r.nil with
    | true =>
      have h0 := h.nil hn
      have hx : (a.cells ν).length = 0 := by rw [h.len, h0.1, Nat.zero_mul]
      exact ⟨h.nil, fun e => absurd (hn.symm.trans e) (by decide), h.pos, h.len, h.cap, fun i hi => by omega, fun _ e => absurd (hn.symm.trans e) (by decide)⟩
    | false =>
      have hb := hb hn
      have hc : ∀ i, w'.cell? ⟨r.blk, i, none⟩ = w.cell? ⟨r.blk, i, none⟩ := fun i => World.cell?_of_block (w := w) hb
      have hf : ∀ i, w'.frozen? ⟨r.blk, i, none⟩ = w.frozen? ⟨r.blk, i, none⟩ := fun i => World.frozen?_of_block (w := w) hb
      exact ⟨h.nil, fun e => Nat.lt_of_lt_of_le (h.lt e) hs, h.pos, h.len, h.cap, fun i hi => by rw [hc]; exact h.cell i hi, fun ho e i hi => by rw [hc, hf]; exact h.own ho e i hi⟩

theorem HRel.of_below {hp : List (Option Blk)} {w w' : World} (h : HRel E ν ρ hp w) (hb : Below w.heap.size w w') : HRel E ν ρ hp w' :=
  ⟨fun j bk hj => (h.blk j bk hj).of_block hb.size (fun hn => hb.block _ ((h.blk j bk hj).lt hn)), h.apart⟩

theorem addr_add (b o k : Nat) : (⟨b, o, none⟩ : Addr).add k = ⟨b, o + k, none⟩ := by
  unfold Addr.add
  split
  · rename_i h; subst h; rfl
  · rfl

theorem run_loadVar_agg {t : TypeId} {k : TK} {sz : Nat} (hk : tk P t = some k) (ha : isAggT k = true) (hs : tsize P t = some sz) {b o : Nat} {vs : List Value} (hlen : vs.length = sz)
    (hc : ∀ j v, vs[j]? = some v → w.cell? ⟨b, o + j, none⟩ = some v) : (loadVar t ⟨b, o, none⟩).run P w = .ok (.agg vs.toArray) w := by
  have hl := run_loadCells_list (P := P) w ⟨b, o, none⟩ vs (fun j v hv => by rw [addr_add]; exact hc j v hv)
  rw [hlen] at hl
  simp only [loadVar, Sem.run_bind, run_isAgg hk, ha, Result.andThen_ok, if_true, run_size hs, hl, Sem.run_pure]

theorem run_loadVar_one {t : TypeId} {k : TK} (hk : tk P t = some k) (ha : ¬ isAggT k = true) {b o : Nat} {v : Value}
    (hc : w.cell? ⟨b, o, none⟩ = some v) : (loadVar t ⟨b, o, none⟩).run P w = .ok v w := by
  simp only [loadVar, Sem.run_bind, run_isAgg hk, ha, Result.andThen_ok, if_false, Bool.false_eq_true, run_load, hc]

theorem selRows_sat {l : List (Option Lf)} {sz len sz2 : Nat} {ix : A} (h0 : 0 ≤ ix.int ν) (h1 : ix.int ν < len) : ∀ (n base : Nat),
    M.sat F ν (selRows l base sz len ix sz2 n) (fun xs => xs.length = n ∧ ∀ j x, xs[j]? = some x → ∀ ρ, ∃ y, nth l (base + j * sz2 + (ix.int ν).toNat * sz) = some y ∧ x.conc ν ρ = y.conc ν ρ)
  | 0, base => sat_pure ⟨rfl, fun j x h => by simp at h⟩
  | n + 1, base => by
    unfold selRows
    refine sat_bind (sat_lift (Q := fun row => rowCells l base sz len = some row) fun a h => h) fun row hrow => ?_
    obtain ⟨r1, r2⟩ := rowCells_spec hrow
    refine sat_bind (selLeaf_sat r1 h0 h1) fun x hx => sat_bind (selRows_sat h0 h1 n (base + sz2)) fun r hr => sat_pure ⟨by simp [hr.1], fun j x' hj ρ => ?_⟩
    cases j with
    | zero =>
      simp at hj; subst hj
      obtain ⟨y, hy, he⟩ := hx.2 ρ
      refine ⟨y, ?_, he⟩
      rw [← r2 _ (by omega)] at hy
      simpa using hy
    | succ j =>
      obtain ⟨y, hy, he⟩ := hr.2 j x' (by simpa using hj) ρ
      refine ⟨y, ?_, he⟩
      rw [← hy]
      congr 1
      rw [Nat.add_mul]
      omega

theorem loadCells_sat {t : TypeId} {k : TK} {sz : Nat} {own : Bool} {cs : List (Option Lf)} {off : Off} (hk : tk P t = some k) (hs : tsize P t = some sz) (hg : off.good ν) :
    M.sat F ν (loadCells cs off (isAggT k) sz) (fun v => ∀ ρ w r, CBlk ν ρ w r own cs → v.good ν ∧ (loadVar t ⟨r.blk, r.off + off.val ν, none⟩).run P w = .ok (v.conc ν ρ) w) := by
  unfold loadCells
  split
  · rename_i o ha
    refine sat_bind (sat_lift (Q := fun xs => takeCells cs o sz = some xs) fun a h => h) fun xs hxs => sat_pure fun ρ w r hb => ?_
    obtain ⟨h1, h2⟩ := takeCells_spec hxs
    have hcell : ∀ i l, xs[i]? = some l → nth cs (o + i) = some l := fun i l hl => by
      rw [h2 i (by have := (List.getElem?_eq_some_iff.1 hl).1; omega)]; exact hl
    refine ⟨V1.good_agg.2 fun x hx => ?_, ?_⟩
    · obtain ⟨i, hi, rfl⟩ := List.mem_iff_getElem.1 hx
      exact (hb.cell (o + i) _ (hcell i _ (List.getElem?_eq_getElem hi))).1
    · refine run_loadVar_agg hk ha hs (by simpa using h1) fun i v hv => ?_
      rw [List.getElem?_map] at hv
      obtain ⟨l, hl, rfl⟩ := Option.map_eq_some_iff.1 hv
      have := (hb.cell (o + i) l (hcell i l hl)).2
      simpa [Off.val, Nat.add_assoc] using this
  · rename_i o ha
    refine sat_bind (sat_lift (Q := fun x => cellAt cs o = some x) fun a h => h) fun x hx => sat_pure fun ρ w r hb => ?_
    rw [cellAt_eq] at hx
    have := hb.cell o x hx
    exact ⟨V1.good_one.2 this.1, run_loadVar_one hk (by simp [ha]) this.2⟩
  · rename_i base ix sz' len ha
    refine sat_bind (selAgg_sat hg.1 hg.2 sz base) fun xs hxs => sat_pure fun ρ w r hb => ?_
    obtain ⟨h1, h2, h3⟩ := hxs
    refine ⟨V1.good_agg.2 h2, ?_⟩
    refine run_loadVar_agg hk ha hs (by simpa using h1) fun i v hv => ?_
    rw [List.getElem?_map] at hv
    obtain ⟨l, hl, rfl⟩ := Option.map_eq_some_iff.1 hv
    obtain ⟨x, y, e1, e2, e3⟩ := h3 ρ i (by have := (List.getElem?_eq_some_iff.1 hl).1; omega)
    rw [e1] at hl
    cases hl
    have := (hb.cell _ y e2).2
    rw [e3, ← this]
    simp only [Off.val]
    congr 2
    omega
  · rename_i base ix sz' len ha
    refine sat_bind (sat_lift (Q := fun row => rowCells cs base sz' len = some row) fun a h => h) fun row hrow => ?_
    obtain ⟨h1, h2⟩ := rowCells_spec hrow
    refine sat_bind (selLeaf_sat h1 hg.1 hg.2) fun x hx => sat_pure fun ρ w r hb => ?_
    obtain ⟨y, hy, he⟩ := hx.2 ρ
    refine ⟨V1.good_one.2 hx.1, run_loadVar_one hk (by simp [ha]) ?_⟩
    rw [← h2 _ (by have := hg.1; have := hg.2; omega)] at hy
    have := (hb.cell _ y hy).2
    rw [V1.conc, he, ← this]
    simp only [Off.val]
  · rename_i base ix sz' len ix2 sz2 len2 ha
    refine sat_bind (selRows_sat hg.1.1 hg.1.2 len2 base) fun row hrow => ?_
    refine sat_bind (selLeaf_sat hrow.1 hg.2.1 hg.2.2) fun x hx => sat_pure fun ρ w r hb => ?_
    obtain ⟨y, hy, he⟩ := hx.2 ρ
    obtain ⟨z, hz, hz2⟩ := hrow.2 _ _ hy ρ
    refine ⟨V1.good_one.2 hx.1, run_loadVar_one hk (by simp [ha]) ?_⟩
    have := (hb.cell _ z hz).2
    rw [V1.conc, he, hz2, ← this]
    simp only [Off.val]
    congr 2
    omega
  · exact sat_fail

/-! ### Where ways meet -/
theorem Off.beq_spec {a b : Off} (h : a.beq b = true) : a.val ν = b.val ν ∧ (b.good ν → a.good ν) := by
  cases a <;> cases b <;> simp [Off.beq] at h
  · subst h; exact ⟨rfl, id⟩
  · rename_i x1 x2 x3 x4 y1 y2 y3 y4
    obtain ⟨⟨⟨rfl, h2⟩, rfl⟩, rfl⟩ := h
    have := A.beq_den h2 ν
    have e : A.int ν x2 = A.int ν y2 := by simp [A.int, this]
    exact ⟨by simp [Off.val, e], by simp [Off.good, e]⟩
  · rename_i x1 x2 x3 x4 y1 y2 y3 y4
    obtain ⟨⟨⟨rfl, h2⟩, rfl⟩, h4⟩ := h
    have := A.beq_den h2 ν
    have e : A.int ν x2 = A.int ν y2 := by simp [A.int, this]
    have e4 : A.cells ν x4 = A.cells ν y4 := by simp [A.cells, A.beq_den h4 ν]
    exact ⟨by simp [Off.val, e], by simp [Off.good, e, e4]⟩
  · rename_i x1 x2 x3 x4 x5 x6 x7 y1 y2 y3 y4 y5 y6 y7
    obtain ⟨⟨⟨⟨⟨⟨rfl, h2⟩, rfl⟩, rfl⟩, h5⟩, rfl⟩, rfl⟩ := h
    have e : A.int ν x2 = A.int ν y2 := by simp [A.int, A.beq_den h2 ν]
    have e5 : A.int ν x5 = A.int ν y5 := by simp [A.int, A.beq_den h5 ν]
    exact ⟨by simp [Off.val, e, e5], by simp only [Off.good, e, e5]; exact id⟩

theorem Lf.beq_spec {a b : Lf} (h : a.beq b = true) : (∀ ρ, a.conc ν ρ = b.conc ν ρ) ∧ (b.good ν → a.good ν) := by
  cases a <;> cases b <;> simp [Lf.beq] at h
  · obtain ⟨h1, h2⟩ := h
    have := kEq_eq h1; subst this
    have := A.beq_den h2 ν
    exact ⟨fun ρ => by simp [Lf.conc, A.int, this], fun _ => trivial⟩
  · have := A.beq_den h ν
    exact ⟨fun ρ => by simp [Lf.conc, A.bool, this], fun _ => trivial⟩
  · obtain ⟨rfl, h2⟩ := h
    obtain ⟨h3, h4⟩ := Off.beq_spec (ν := ν) h2
    exact ⟨fun ρ => by simp [Lf.conc, h3], h4⟩
  · obtain ⟨rfl, h2⟩ := h
    obtain ⟨h3, h4⟩ := Off.beq_spec (ν := ν) h2
    exact ⟨fun ρ => by simp [Lf.conc, h3], h4⟩
  · exact ⟨fun ρ => rfl, id⟩
  · subst h; exact ⟨fun ρ => rfl, id⟩
  · obtain ⟨rfl, h2⟩ := h
    rw [natsEq_eq h2]; exact ⟨fun ρ => rfl, id⟩

theorem Off.good_of_beq {a b : Off} (h : a.beq b = true) (hg : a.good ν) : b.good ν := by
  cases a <;> cases b <;> simp [Off.beq] at h
  · trivial
  · rename_i x1 x2 x3 x4 y1 y2 y3 y4
    obtain ⟨⟨⟨rfl, h2⟩, rfl⟩, rfl⟩ := h
    have := A.beq_den h2 ν
    have e : A.int ν x2 = A.int ν y2 := by simp [A.int, this]
    simpa [Off.good, e] using hg
  · rename_i x1 x2 x3 x4 y1 y2 y3 y4
    obtain ⟨⟨⟨rfl, h2⟩, rfl⟩, h4⟩ := h
    have := A.beq_den h2 ν
    have e : A.int ν x2 = A.int ν y2 := by simp [A.int, this]
    have e4 : A.cells ν x4 = A.cells ν y4 := by simp [A.cells, A.beq_den h4 ν]
    simpa [Off.good, e, e4] using hg
  · rename_i x1 x2 x3 x4 x5 x6 x7 y1 y2 y3 y4 y5 y6 y7
    obtain ⟨⟨⟨⟨⟨⟨rfl, h2⟩, rfl⟩, rfl⟩, h5⟩, rfl⟩, rfl⟩ := h
    have e : A.int ν x2 = A.int ν y2 := by simp [A.int, A.beq_den h2 ν]
    have e5 : A.int ν x5 = A.int ν y5 := by simp [A.int, A.beq_den h5 ν]
    simpa only [Off.good, e, e5] using hg
theorem Lf.good_of_beq {a b : Lf} (h : a.beq b = true) (hg : a.good ν) : b.good ν := by
  cases a <;> cases b <;> simp [Lf.beq] at h <;> first | trivial | exact Off.good_of_beq h.2 hg

/-- m is x where c holds, and y where it doesn't. -/
def MLf (ν : Nat → DV) (c : A) (x y m : Lf) : Prop :=
  (c.bool ν = true → (∀ ρ, m.conc ν ρ = x.conc ν ρ) ∧ (x.good ν → m.good ν)) ∧
  (c.bool ν = false → (∀ ρ, m.conc ν ρ = y.conc ν ρ) ∧ (y.good ν → m.good ν))

theorem mergeLf_sat {c : A} {x y : Lf} : M.sat F ν (mergeLf c x y) (fun o => ∀ m, o = some m → MLf ν c x y m) := by
  unfold mergeLf
  refine sat_ite (fun h => sat_pure fun m hm => ?_) (fun _ => ?_)
  · cases hm
    exact ⟨fun _ => ⟨fun _ => rfl, id⟩, fun _ => Lf.beq_spec h⟩
  · split
    · refine sat_ite (fun hk => ?_) (fun _ => sat_pure fun m hm => by cases hm)
      have := kEq_eq hk; subst this
      refine sat_bind mkIteI_sat fun r hr => sat_pure fun m hm => ?_
      cases hm
      exact ⟨fun h => ⟨fun ρ => by simp [Lf.conc, hr, h], fun _ => trivial⟩, fun h => ⟨fun ρ => by simp [Lf.conc, hr, h], fun _ => trivial⟩⟩
    · refine sat_bind mkIteB_sat fun r hr => sat_pure fun m hm => ?_
      cases hm
      exact ⟨fun h => ⟨fun ρ => by simp [Lf.conc, hr, h], fun _ => trivial⟩, fun h => ⟨fun ρ => by simp [Lf.conc, hr, h], fun _ => trivial⟩⟩
    · exact sat_pure fun m hm => by cases hm

def MLfs (ν : Nat → DV) (c : A) : List Lf → List Lf → List Lf → Prop
  | [], [], [] => True
  | x :: l, y :: l', m :: r => MLf ν c x y m ∧ MLfs ν c l l' r
  | _, _, _ => False

theorem mergeLfs_sat {c : A} : ∀ (l l' : List Lf), M.sat F ν (mergeLfs c l l') (fun o => ∀ m, o = some m → MLfs ν c l l' m)
  | [], [] => sat_pure fun m hm => by cases hm; trivial
  | x :: l, y :: l' => by
    unfold mergeLfs
    refine sat_bind mergeLf_sat fun a ha => sat_bind (mergeLfs_sat l l') fun b hb => sat_pure fun m hm => ?_
    split at hm
    · cases hm; exact ⟨ha _ rfl, hb _ rfl⟩
    · cases hm
  | [], _ :: _ => sat_pure fun m hm => by cases hm
  | _ :: _, [] => sat_pure fun m hm => by cases hm

theorem MLfs.left {c : A} (h : c.bool ν = true) : ∀ {l l' m : List Lf}, MLfs ν c l l' m → (∀ ρ, m.map (Lf.conc ν ρ) = l.map (Lf.conc ν ρ)) ∧ ((∀ x ∈ l, x.good ν) → ∀ x ∈ m, x.good ν)
  | [], [], [], _ => ⟨fun _ => rfl, fun h => h⟩
  | x :: l, y :: l', m :: r, hm => by
    obtain ⟨h1, h2⟩ := hm.2.left h
    obtain ⟨h3, h4⟩ := hm.1.1 h
    refine ⟨fun ρ => by simp [h3 ρ, h1 ρ], fun hg z hz => ?_⟩
    rcases List.mem_cons.1 hz with rfl | hz
    · exact h4 (hg x (by simp))
    · exact h2 (fun u hu => hg u (List.mem_cons_of_mem _ hu)) z hz
theorem MLfs.right {c : A} (h : c.bool ν = false) : ∀ {l l' m : List Lf}, MLfs ν c l l' m → (∀ ρ, m.map (Lf.conc ν ρ) = l'.map (Lf.conc ν ρ)) ∧ ((∀ x ∈ l', x.good ν) → ∀ x ∈ m, x.good ν)
  | [], [], [], _ => ⟨fun _ => rfl, fun h => h⟩
  | x :: l, y :: l', m :: r, hm => by
    obtain ⟨h1, h2⟩ := hm.2.right h
    obtain ⟨h3, h4⟩ := hm.1.2 h
    refine ⟨fun ρ => by simp [h3 ρ, h1 ρ], fun hg z hz => ?_⟩
    rcases List.mem_cons.1 hz with rfl | hz
    · exact h4 (hg y (by simp))
    · exact h2 (fun u hu => hg u (List.mem_cons_of_mem _ hu)) z hz

def MV1 (ν : Nat → DV) (c : A) (x y m : V1) : Prop :=
  (c.bool ν = true → (∀ ρ, m.conc ν ρ = x.conc ν ρ) ∧ (x.good ν → m.good ν)) ∧
  (c.bool ν = false → (∀ ρ, m.conc ν ρ = y.conc ν ρ) ∧ (y.good ν → m.good ν))

theorem mergeV1_sat {c : A} {x y : V1} : M.sat F ν (mergeV1 c x y) (fun o => ∀ m, o = some m → MV1 ν c x y m) := by
  unfold mergeV1
  split
  · refine sat_bind mergeLf_sat fun a ha => sat_pure fun m hm => ?_
    obtain ⟨l, hl, rfl⟩ := Option.map_eq_some_iff.1 hm
    have := ha l hl
    exact ⟨fun h => ⟨fun ρ => (this.1 h).1 ρ, fun hg => V1.good_one.2 ((this.1 h).2 (V1.good_one.1 hg))⟩, fun h => ⟨fun ρ => (this.2 h).1 ρ, fun hg => V1.good_one.2 ((this.2 h).2 (V1.good_one.1 hg))⟩⟩
  · refine sat_bind (mergeLfs_sat _ _) fun a ha => sat_pure fun m hm => ?_
    obtain ⟨l, hl, rfl⟩ := Option.map_eq_some_iff.1 hm
    have := ha l hl
    exact ⟨fun h => ⟨fun ρ => by simp only [V1.conc, (this.left h).1 ρ], fun hg => V1.good_agg.2 ((this.left h).2 (V1.good_agg.1 hg))⟩,
      fun h => ⟨fun ρ => by simp only [V1.conc, (this.right h).1 ρ], fun hg => V1.good_agg.2 ((this.right h).2 (V1.good_agg.1 hg))⟩⟩
  · exact sat_pure fun m hm => by cases hm

def MV1s (ν : Nat → DV) (c : A) : List V1 → List V1 → List V1 → Prop
  | [], [], [] => True
  | x :: l, y :: l', m :: r => MV1 ν c x y m ∧ MV1s ν c l l' r
  | _, _, _ => False
theorem mergeV1s_sat {c : A} : ∀ (l l' : List V1), M.sat F ν (mergeV1s c l l') (fun o => ∀ m, o = some m → MV1s ν c l l' m)
  | [], [] => sat_pure fun m hm => by cases hm; trivial
  | x :: l, y :: l' => by
    unfold mergeV1s
    refine sat_bind mergeV1_sat fun a ha => sat_bind (mergeV1s_sat l l') fun b hb => sat_pure fun m hm => ?_
    split at hm
    · cases hm; exact ⟨ha _ rfl, hb _ rfl⟩
    · cases hm
  | [], _ :: _ => sat_pure fun m hm => by cases hm
  | _ :: _, [] => sat_pure fun m hm => by cases hm
theorem MV1s.left {c : A} (h : c.bool ν = true) : ∀ {l l' m : List V1}, MV1s ν c l l' m → (∀ ρ, m.map (V1.conc ν ρ) = l.map (V1.conc ν ρ)) ∧ ((∀ x ∈ l, V1.good ν x) → ∀ x ∈ m, V1.good ν x)
  | [], [], [], _ => ⟨fun _ => rfl, fun h => h⟩
  | x :: l, y :: l', m :: r, hm => by
    obtain ⟨h1, h2⟩ := hm.2.left h
    obtain ⟨h3, h4⟩ := hm.1.1 h
    refine ⟨fun ρ => by simp [h3 ρ, h1 ρ], fun hg z hz => ?_⟩
    rcases List.mem_cons.1 hz with rfl | hz
    · exact h4 (hg x (by simp))
    · exact h2 (fun u hu => hg u (List.mem_cons_of_mem _ hu)) z hz
theorem MV1s.right {c : A} (h : c.bool ν = false) : ∀ {l l' m : List V1}, MV1s ν c l l' m → (∀ ρ, m.map (V1.conc ν ρ) = l'.map (V1.conc ν ρ)) ∧ ((∀ x ∈ l', V1.good ν x) → ∀ x ∈ m, V1.good ν x)
  | [], [], [], _ => ⟨fun _ => rfl, fun h => h⟩
  | x :: l, y :: l', m :: r, hm => by
    obtain ⟨h1, h2⟩ := hm.2.right h
    obtain ⟨h3, h4⟩ := hm.1.2 h
    refine ⟨fun ρ => by simp [h3 ρ, h1 ρ], fun hg z hz => ?_⟩
    rcases List.mem_cons.1 hz with rfl | hz
    · exact h4 (hg y (by simp))
    · exact h2 (fun u hu => hg u (List.mem_cons_of_mem _ hu)) z hz

def MV (ν : Nat → DV) (c : A) (x y m : V) : Prop :=
  (c.bool ν = true → (∀ ρ, m.conc ν ρ = x.conc ν ρ) ∧ (x.good ν → m.good ν)) ∧
  (c.bool ν = false → (∀ ρ, m.conc ν ρ = y.conc ν ρ) ∧ (y.good ν → m.good ν))
theorem mergeV_sat {c : A} {x y : V} : M.sat F ν (mergeV c x y) (fun o => ∀ m, o = some m → MV ν c x y m) := by
  unfold mergeV
  split
  · refine sat_bind mergeV1_sat fun a ha => sat_pure fun m hm => ?_
    obtain ⟨l, hl, rfl⟩ := Option.map_eq_some_iff.1 hm
    exact ha l hl
  · refine sat_bind (mergeV1s_sat _ _) fun a ha => sat_pure fun m hm => ?_
    obtain ⟨l, hl, rfl⟩ := Option.map_eq_some_iff.1 hm
    have := ha l hl
    exact ⟨fun h => ⟨fun ρ => by simp only [V.conc, (this.left h).1 ρ], fun hg => (this.left h).2 hg⟩,
      fun h => ⟨fun ρ => by simp only [V.conc, (this.right h).1 ρ], fun hg => (this.right h).2 hg⟩⟩
  · exact sat_pure fun m hm => by cases hm

theorem mergeOrFail_sat {c : A} {x y : V} : M.sat F ν (mergeOrFail c x y) (fun m => MV ν c x y m) := by
  unfold mergeOrFail
  refine sat_bind mergeV_sat fun o ho => ?_
  split
  · exact sat_pure (ho _ rfl)
  · exact sat_fail

end
end Go.Sx
