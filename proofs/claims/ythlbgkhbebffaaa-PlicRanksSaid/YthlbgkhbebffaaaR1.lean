/- Blocks of memory: what is known of them; loads. -/
import Derived.Test.YthlbgkhbebffaaaR0
namespace Go.Sx
open Go.RowKit

structure Env where
  W : Nat → Prop
  V : Nat → Prop
  w0 : World
  n0 : Nat
  ρ0 : Nat → Loc

inductive CRel (E : Env) : LT → DV → Value → Prop
  | int (k : IntKind) (d : DV) : CRel E (.int k) d (.int k d.toI)
  | bool (d : DV) : CRel E .bool d (.bool d.toB)
  | vec (ts : List LT) (d : DV) (r : Loc) (vs : Nat → Value) (hnil : r.nil = true → r.len = 0 ∧ r.cap = 0) (hlt : r.nil = false → r.blk < E.w0.heap.size ∧ ¬ E.W r.blk) (hpos : 0 < ts.length)
      (hlen : d.toL.length = r.len * ts.length) (hcap : r.len ≤ r.cap) (hv : ∀ i, i < d.toL.length → E.w0.cell? ⟨r.blk, r.off + i, none⟩ = some (vs i))
      (hc : ∀ i, i < d.toL.length → CRel E (ts.getD (i % ts.length) .bool) (d.toL.getD i default) (vs i)) : CRel E (.vec ts) d r.slice

structure VRel (E : Env) (w : World) (r : Loc) (own : Bool) (ts : List LT) (xs : List DV) : Prop where
  nil : r.nil = true → r.len = 0 ∧ r.cap = 0
  lt : r.nil = false → r.blk < w.heap.size
  pos : 0 < ts.length
  len : xs.length = r.len * ts.length
  cap : r.len ≤ r.cap
  cell : ∀ i, i < xs.length → ∃ v, w.cell? ⟨r.blk, r.off + i, none⟩ = some v ∧ CRel E (ts.getD (i % ts.length) .bool) (xs.getD i default) v
  own : own = true → r.nil = false → ∀ i, i < r.cap * ts.length → (w.cell? ⟨r.blk, r.off + i, none⟩).isSome = true ∧ w.frozen? ⟨r.blk, r.off + i, none⟩ = false

structure CBlk (ν : Nat → DV) (ρ : Nat → Loc) (w : World) (r : Loc) (own : Bool) (cs : List (Option Lf)) : Prop where
  nil : r.nil = false
  lt : r.blk < w.heap.size
  cell : ∀ i l, nth cs i = some l → l.good ν ∧ w.cell? ⟨r.blk, r.off + i, none⟩ = some (l.conc ν ρ)
  own : own = true → ∀ i, i < cs.length → (w.cell? ⟨r.blk, r.off + i, none⟩).isSome = true ∧ w.frozen? ⟨r.blk, r.off + i, none⟩ = false

def BlkRel (E : Env) (ν : Nat → DV) (ρ : Nat → Loc) (w : World) (r : Loc) : Blk → Prop
  | .c own cs => CBlk ν ρ w r own cs
  | .v own ts a => VRel E w r own ts (a.cells ν)

structure HRel (E : Env) (ν : Nat → DV) (ρ : Nat → Loc) (hp : List (Option Blk)) (w : World) : Prop where
  blk : ∀ j bk, nth hp j = some bk → BlkRel E ν ρ w (ρ j) bk
  apart : ∀ j j' bk bk', nth hp j = some bk → bk.own = true → nth hp j' = some bk' → j ≠ j' → (ρ j).nil = false → (ρ j').nil = false → (ρ j).blk ≠ (ρ j').blk

structure Fr (W : Nat → Prop) (w0 w : World) : Prop where
  os : w.os = w0.os
  tape : w.tape = w0.tape
  output : w.output = w0.output
  size : w0.heap.size ≤ w.heap.size
  block : ∀ b, b < w0.heap.size → ¬ W b → w.heap[b]? = w0.heap[b]?

theorem Fr.refl (W : Nat → Prop) (w : World) : Fr W w w := ⟨rfl, rfl, rfl, Nat.le_refl _, fun _ _ _ => rfl⟩
theorem Fr.trans {W : Nat → Prop} {a b c : World} (h : Fr W a b) (k : Fr W b c) : Fr W a c :=
  ⟨k.os.trans h.os, k.tape.trans h.tape, k.output.trans h.output, Nat.le_trans h.size k.size,
   fun i hi hw => (k.block i (Nat.lt_of_lt_of_le hi h.size) hw).trans (h.block i hi hw)⟩
theorem Fr.of_below {W : Nat → Prop} {w w' : World} (h : Below w.heap.size w w') : Fr W w w' :=
  ⟨h.os, h.tape, h.output, h.size, fun b hb _ => h.block b hb⟩
theorem Fr.below {w w' : World} (h : Fr (fun _ => False) w w') : Below w.heap.size w w' :=
  ⟨h.os, h.tape, h.output, h.size, fun b hb => h.block b hb (fun f => f)⟩
theorem Fr.weaken {W W' : Nat → Prop} {w w' : World} (h : Fr W w w') (hw : ∀ b, W b → W' b) : Fr W' w w' :=
  ⟨h.os, h.tape, h.output, h.size, fun b hb hn => h.block b hb (fun x => hn (hw b x))⟩

def OldF (W V : Nat → Prop) (w0 : World) (ρ : Nat → Loc) (hp : List (Option Blk)) : Prop :=
  ∀ j bk, nth hp j = some bk → (ρ j).nil = true ∨ w0.heap.size ≤ (ρ j).blk ∨ W (ρ j).blk ∨ (bk.own = false ∧ V (ρ j).blk)

section
variable {P : Program} {F : FEnv} {E : Env} {ν : Nat → DV} {ρ : Nat → Loc} {w : World}

theorem BlkRel.lt {r : Loc} {bk : Blk} (h : BlkRel E ν ρ w r bk) (hn : r.nil = false) : r.blk < w.heap.size := by
  cases bk with
  | c o cs => exact CBlk.lt h
  | v o ts a => exact VRel.lt h hn

theorem BlkRel.of_block {w w' : World} {r : Loc} {bk : Blk} (h : BlkRel E ν ρ w r bk) (hs : w.heap.size ≤ w'.heap.size) (hb : r.nil = false → w'.heap[r.blk]? = w.heap[r.blk]?) : BlkRel E ν ρ w' r bk := by
  cases bk with
  | c o cs =>
    have h : CBlk ν ρ w r o cs := h
    have hb := hb h.nil
    have hc : ∀ i, w'.cell? ⟨r.blk, i, none⟩ = w.cell? ⟨r.blk, i, none⟩ := fun i => World.cell?_of_block (w := w) hb
    have hf : ∀ i, w'.frozen? ⟨r.blk, i, none⟩ = w.frozen? ⟨r.blk, i, none⟩ := fun i => World.frozen?_of_block (w := w) hb
    exact ⟨h.nil, Nat.lt_of_lt_of_le h.lt hs, fun i l hl => by rw [hc]; exact h.cell i l hl, fun ho i hi => by rw [hc, hf]; exact h.own ho i hi⟩
  | v o ts a =>
    have h : VRel E w r o ts (a.cells ν) := h
    cases hn : r.nil with
    | true =>
      have h0 := h.nil hn
      have hx : (a.cells ν).length = 0 := by rw [h.len, h0.1, Nat.zero_mul]
      exact ⟨h.nil, fun e => absurd (hn.symm.trans e) (by decide), h.pos, h.len, h.cap, fun i hi => by omega, fun _ e => absurd (hn.symm.trans e) (by decide)⟩
    | false =>
      have hb := hb hn
      have hc : ∀ i, w'.cell? ⟨r.blk, i, none⟩ = w.cell? ⟨r.blk, i, none⟩ := fun i => World.cell?_of_block (w := w) hb
      have hf : ∀ i, w'.frozen? ⟨r.blk, i, none⟩ = w.frozen? ⟨r.blk, i, none⟩ := fun i => World.frozen?_of_block (w := w) hb
      exact ⟨h.nil, fun e => Nat.lt_of_lt_of_le (h.lt e) hs, h.pos, h.len, h.cap, fun i hi => by rw [hc]; exact h.cell i hi, fun ho e i hi => by rw [hc, hf]; exact h.own ho e i hi⟩

theorem HRel.of_below {hp : List (Option Blk)} {w w' : World} (h : HRel E ν ρ hp w) (hb : Below w.heap.size w w') : HRel E ν ρ hp w' :=
  ⟨fun j bk hj => (h.blk j bk hj).of_block hb.size (fun hn => hb.block _ ((h.blk j bk hj).lt hn)), h.apart⟩

theorem addr_add (b o k : Nat) : (⟨b, o, none⟩ : Addr).add k = ⟨b, o + k, none⟩ := by
  unfold Addr.add
  split
  · rename_i h; subst h; rfl
  · rfl

theorem run_loadVar_agg {t : TypeId} {k : TK} {sz : Nat} (hk : tk P t = some k) (ha : isAggT k = true) (hs : tsize P t = some sz) {b o : Nat} {vs : List Value} (hlen : vs.length = sz)
    (hc : ∀ j v, vs[j]? = some v → w.cell? ⟨b, o + j, none⟩ = some v) : (loadVar t ⟨b, o, none⟩).run P w = .ok (.agg vs.toArray) w := by
  have hl := run_loadCells_list (P := P) w ⟨b, o, none⟩ vs (fun j v hv => by rw [addr_add]; exact hc j v hv)
  rw [hlen] at hl
  simp only [loadVar, Sem.run_bind, run_isAgg hk, ha, Result.andThen_ok, if_true, run_size hs, hl, Sem.run_pure]

theorem run_loadVar_one {t : TypeId} {k : TK} (hk : tk P t = some k) (ha : ¬ isAggT k = true) {b o : Nat} {v : Value}
    (hc : w.cell? ⟨b, o, none⟩ = some v) : (loadVar t ⟨b, o, none⟩).run P w = .ok v w := by
  simp only [loadVar, Sem.run_bind, run_isAgg hk, ha, Result.andThen_ok, if_false, Bool.false_eq_true, run_load, hc]

theorem selRows_sat {l : List (Option Lf)} {sz len sz2 : Nat} {ix : A} (h0 : 0 ≤ ix.int ν) (h1 : ix.int ν < len) : ∀ (n base : Nat),
    M.sat F ν (selRows l base sz len ix sz2 n) (fun xs => xs.length = n ∧ ∀ j x, xs[j]? = some x → ∀ ρ, ∃ y, nth l (base + j * sz2 + (ix.int ν).toNat * sz) = some y ∧ x.conc ν ρ = y.conc ν ρ)
  | 0, base => sat_pure ⟨rfl, fun j x h => by simp at h⟩
  | n + 1, base => by
    unfold selRows
    refine sat_bind (sat_lift (Q := fun row => rowCells l base sz len = some row) fun a h => h) fun row hrow => ?_
    obtain ⟨r1, r2⟩ := rowCells_spec hrow
    refine sat_bind (selLeaf_sat r1 h0 h1) fun x hx => sat_bind (selRows_sat h0 h1 n (base + sz2)) fun r hr => sat_pure ⟨by simp [hr.1], fun j x' hj ρ => ?_⟩
    cases j with
    | zero =>
      simp at hj; subst hj
      obtain ⟨y, hy, he⟩ := hx.2 ρ
      refine ⟨y, ?_, he⟩
      rw [← r2 _ (by omega)] at hy
      simpa using hy
    | succ j =>
      obtain ⟨y, hy, he⟩ := hr.2 j x' (by simpa using hj) ρ
      refine ⟨y, ?_, he⟩
      rw [← hy]
      congr 1
      rw [Nat.add_mul]
      omega

theorem loadCells_sat {t : TypeId} {k : TK} {sz : Nat} {own : Bool} {cs : List (Option Lf)} {off : Off} (hk : tk P t = some k) (hs : tsize P t = some sz) (hg : off.good ν) :
    M.sat F ν (loadCells cs off (isAggT k) sz) (fun v => ∀ ρ w r, CBlk ν ρ w r own cs → v.good ν ∧ (loadVar t ⟨r.blk, r.off + off.val ν, none⟩).run P w = .ok (v.conc ν ρ) w) := by
  unfold loadCells
  split
  · rename_i o ha
    refine sat_bind (sat_lift (Q := fun xs => takeCells cs o sz = some xs) fun a h => h) fun xs hxs => sat_pure fun ρ w r hb => ?_
    obtain ⟨h1, h2⟩ := takeCells_spec hxs
    have hcell : ∀ i l, xs[i]? = some l → nth cs (o + i) = some l := fun i l hl => by
      rw [h2 i (by have := (List.getElem?_eq_some_iff.1 hl).1; omega)]; exact hl
    refine ⟨V1.good_agg.2 fun x hx => ?_, ?_⟩
    · obtain ⟨i, hi, rfl⟩ := List.mem_iff_getElem.1 hx
      exact (hb.cell (o + i) _ (hcell i _ (List.getElem?_eq_getElem hi))).1
    · refine run_loadVar_agg hk ha hs (by simpa using h1) fun i v hv => ?_
      rw [List.getElem?_map] at hv
      obtain ⟨l, hl, rfl⟩ := Option.map_eq_some_iff.1 hv
      have := (hb.cell (o + i) l (hcell i l hl)).2
      simpa [Off.val, Nat.add_assoc] using this
  · rename_i o ha
    refine sat_bind (sat_lift (Q := fun x => cellAt cs o = some x) fun a h => h) fun x hx => sat_pure fun ρ w r hb => ?_
    rw [cellAt_eq] at hx
    have := hb.cell o x hx
    exact ⟨V1.good_one.2 this.1, run_loadVar_one hk (by simp [ha]) this.2⟩
  · rename_i base ix sz' len ha
    refine sat_bind (selAgg_sat hg.1 hg.2 sz base) fun xs hxs => sat_pure fun ρ w r hb => ?_
    obtain ⟨h1, h2, h3⟩ := hxs
    refine ⟨V1.good_agg.2 h2, ?_⟩
    refine run_loadVar_agg hk ha hs (by simpa using h1) fun i v hv => ?_
    rw [List.getElem?_map] at hv
    obtain ⟨l, hl, rfl⟩ := Option.map_eq_some_iff.1 hv
    obtain ⟨x, y, e1, e2, e3⟩ := h3 ρ i (by have := (List.getElem?_eq_some_iff.1 hl).1; omega)
    rw [e1] at hl
    cases hl
    have := (hb.cell _ y e2).2
    rw [e3, ← this]
    simp only [Off.val]
    congr 2
    omega
  · rename_i base ix sz' len ha
    refine sat_bind (sat_lift (Q := fun row => rowCells cs base sz' len = some row) fun a h => h) fun row hrow => ?_
    obtain ⟨h1, h2⟩ := rowCells_spec hrow
    refine sat_bind (selLeaf_sat h1 hg.1 hg.2) fun x hx => sat_pure fun ρ w r hb => ?_
    obtain ⟨y, hy, he⟩ := hx.2 ρ
    refine ⟨V1.good_one.2 hx.1, run_loadVar_one hk (by simp [ha]) ?_⟩
    rw [← h2 _ (by have := hg.1; have := hg.2; omega)] at hy
    have := (hb.cell _ y hy).2
    rw [V1.conc, he, ← this]
    simp only [Off.val]
  · rename_i base ix sz' len ix2 sz2 len2 ha
    refine sat_bind (selRows_sat hg.1.1 hg.1.2 len2 base) fun row hrow => ?_
    refine sat_bind (selLeaf_sat hrow.1 hg.2.1 hg.2.2) fun x hx => sat_pure fun ρ w r hb => ?_
    obtain ⟨y, hy, he⟩ := hx.2 ρ
    obtain ⟨z, hz, hz2⟩ := hrow.2 _ _ hy ρ
    refine ⟨V1.good_one.2 hx.1, run_loadVar_one hk (by simp [ha]) ?_⟩
    have := (hb.cell _ z hz).2
    rw [V1.conc, he, hz2, ← this]
    simp only [Off.val]
    congr 2
    omega
  · exact sat_fail

theorem Off.beq_spec {a b : Off} (h : a.beq b = true) : a.val ν = b.val ν ∧ (b.good ν → a.good ν) := by
  cases a <;> cases b <;> simp [Off.beq] at h
  · subst h; exact ⟨rfl, id⟩
  · rename_i x1 x2 x3 x4 y1 y2 y3 y4
    obtain ⟨⟨⟨rfl, h2⟩, rfl⟩, rfl⟩ := h
    have := A.beq_den h2 ν
    have e : A.int ν x2 = A.int ν y2 := by simp [A.int, this]
    exact ⟨by simp [Off.val, e], by simp [Off.good, e]⟩
  · rename_i x1 x2 x3 x4 y1 y2 y3 y4
    obtain ⟨⟨⟨rfl, h2⟩, rfl⟩, h4⟩ := h
    have := A.beq_den h2 ν
    have e : A.int ν x2 = A.int ν y2 := by simp [A.int, this]
    have e4 : A.cells ν x4 = A.cells ν y4 := by simp [A.cells, A.beq_den h4 ν]
    exact ⟨by simp [Off.val, e], by simp [Off.good, e, e4]⟩
  · rename_i x1 x2 x3 x4 x5 x6 x7 y1 y2 y3 y4 y5 y6 y7
    obtain ⟨⟨⟨⟨⟨⟨rfl, h2⟩, rfl⟩, rfl⟩, h5⟩, rfl⟩, rfl⟩ := h
    have e : A.int ν x2 = A.int ν y2 := by simp [A.int, A.beq_den h2 ν]
    have e5 : A.int ν x5 = A.int ν y5 := by simp [A.int, A.beq_den h5 ν]
    exact ⟨by simp [Off.val, e, e5], by simp only [Off.good, e, e5]; exact id⟩

theorem Lf.beq_spec {a b : Lf} (h : a.beq b = true) : (∀ ρ, a.conc ν ρ = b.conc ν ρ) ∧ (b.good ν → a.good ν) := by
  cases a <;> cases b <;> simp [Lf.beq] at h
  · obtain ⟨h1, h2⟩ := h
    have := kEq_eq h1; subst this
    have := A.beq_den h2 ν
    exact ⟨fun ρ => by simp [Lf.conc, A.int, this], fun _ => trivial⟩
  · have := A.beq_den h ν
    exact ⟨fun ρ => by simp [Lf.conc, A.bool, this], fun _ => trivial⟩
  · obtain ⟨rfl, h2⟩ := h
    obtain ⟨h3, h4⟩ := Off.beq_spec (ν := ν) h2
    exact ⟨fun ρ => by simp [Lf.conc, h3], h4⟩
  · obtain ⟨rfl, h2⟩ := h
    obtain ⟨h3, h4⟩ := Off.beq_spec (ν := ν) h2
    exact ⟨fun ρ => by simp [Lf.conc, h3], h4⟩
  · exact ⟨fun ρ => rfl, id⟩
  · subst h; exact ⟨fun ρ => rfl, id⟩
  · obtain ⟨rfl, h2⟩ := h
    rw [natsEq_eq h2]; exact ⟨fun ρ => rfl, id⟩

def MLf (ν : Nat → DV) (c : A) (x y m : Lf) : Prop :=
  (c.bool ν = true → (∀ ρ, m.conc ν ρ = x.conc ν ρ) ∧ (x.good ν → m.good ν)) ∧
  (c.bool ν = false → (∀ ρ, m.conc ν ρ = y.conc ν ρ) ∧ (y.good ν → m.good ν))

theorem mergeLf_sat {c : A} {x y : Lf} : M.sat F ν (mergeLf c x y) (fun o => ∀ m, o = some m → MLf ν c x y m) := by
  unfold mergeLf
  refine sat_ite (fun h => sat_pure fun m hm => ?_) (fun _ => ?_)
  · cases hm
    exact ⟨fun _ => ⟨fun _ => rfl, id⟩, fun _ => Lf.beq_spec h⟩
  · split
    · refine sat_ite (fun hk => ?_) (fun _ => sat_pure fun m hm => by cases hm)
      have := kEq_eq hk; subst this
      refine sat_bind mkIteI_sat fun r hr => sat_pure fun m hm => ?_
      cases hm
      exact ⟨fun h => ⟨fun ρ => by simp [Lf.conc, hr, h], fun _ => trivial⟩, fun h => ⟨fun ρ => by simp [Lf.conc, hr, h], fun _ => trivial⟩⟩
    · refine sat_bind mkIteB_sat fun r hr => sat_pure fun m hm => ?_
      cases hm
      exact ⟨fun h => ⟨fun ρ => by simp [Lf.conc, hr, h], fun _ => trivial⟩, fun h => ⟨fun ρ => by simp [Lf.conc, hr, h], fun _ => trivial⟩⟩
    · exact sat_pure fun m hm => by cases hm

def MLfs (ν : Nat → DV) (c : A) : List Lf → List Lf → List Lf → Prop
  | [], [], [] => True
  | x :: l, y :: l', m :: r => MLf ν c x y m ∧ MLfs ν c l l' r
  | _, _, _ => False

theorem mergeLfs_sat {c : A} : ∀ (l l' : List Lf), M.sat F ν (mergeLfs c l l') (fun o => ∀ m, o = some m → MLfs ν c l l' m)
  | [], [] => sat_pure fun m hm => by cases hm; trivial
  | x :: l, y :: l' => by
    unfold mergeLfs
    refine sat_bind mergeLf_sat fun a ha => sat_bind (mergeLfs_sat l l') fun b hb => sat_pure fun m hm => ?_
    split at hm
    · cases hm; exact ⟨ha _ rfl, hb _ rfl⟩
    · cases hm
  | [], _ :: _ => sat_pure fun m hm => by cases hm
  | _ :: _, [] => sat_pure fun m hm => by cases hm

theorem MLfs.left {c : A} (h : c.bool ν = true) : ∀ {l l' m : List Lf}, MLfs ν c l l' m → (∀ ρ, m.map (Lf.conc ν ρ) = l.map (Lf.conc ν ρ)) ∧ ((∀ x ∈ l, x.good ν) → ∀ x ∈ m, x.good ν)
  | [], [], [], _ => ⟨fun _ => rfl, fun h => h⟩
  | x :: l, y :: l', m :: r, hm => by
    obtain ⟨h1, h2⟩ := hm.2.left h
    obtain ⟨h3, h4⟩ := hm.1.1 h
    refine ⟨fun ρ => by simp [h3 ρ, h1 ρ], fun hg z hz => ?_⟩
    rcases List.mem_cons.1 hz with rfl | hz
    · exact h4 (hg x (by simp))
    · exact h2 (fun u hu => hg u (List.mem_cons_of_mem _ hu)) z hz
theorem MLfs.right {c : A} (h : c.bool ν = false) : ∀ {l l' m : List Lf}, MLfs ν c l l' m → (∀ ρ, m.map (Lf.conc ν ρ) = l'.map (Lf.conc ν ρ)) ∧ ((∀ x ∈ l', x.good ν) → ∀ x ∈ m, x.good ν)
  | [], [], [], _ => ⟨fun _ => rfl, fun h => h⟩
  | x :: l, y :: l', m :: r, hm => by
    obtain ⟨h1, h2⟩ := hm.2.right h
    obtain ⟨h3, h4⟩ := hm.1.2 h
    refine ⟨fun ρ => by simp [h3 ρ, h1 ρ], fun hg z hz => ?_⟩
    rcases List.mem_cons.1 hz with rfl | hz
    · exact h4 (hg y (by simp))
    · exact h2 (fun u hu => hg u (List.mem_cons_of_mem _ hu)) z hz

def MV1 (ν : Nat → DV) (c : A) (x y m : V1) : Prop :=
  (c.bool ν = true → (∀ ρ, m.conc ν ρ = x.conc ν ρ) ∧ (x.good ν → m.good ν)) ∧
  (c.bool ν = false → (∀ ρ, m.conc ν ρ = y.conc ν ρ) ∧ (y.good ν → m.good ν))

theorem mergeV1_sat {c : A} {x y : V1} : M.sat F ν (mergeV1 c x y) (fun o => ∀ m, o = some m → MV1 ν c x y m) := by
  unfold mergeV1
  split
  · refine sat_bind mergeLf_sat fun a ha => sat_pure fun m hm => ?_
    obtain ⟨l, hl, rfl⟩ := Option.map_eq_some_iff.1 hm
    have := ha l hl
    exact ⟨fun h => ⟨fun ρ => (this.1 h).1 ρ, fun hg => V1.good_one.2 ((this.1 h).2 (V1.good_one.1 hg))⟩, fun h => ⟨fun ρ => (this.2 h).1 ρ, fun hg => V1.good_one.2 ((this.2 h).2 (V1.good_one.1 hg))⟩⟩
  · refine sat_bind (mergeLfs_sat _ _) fun a ha => sat_pure fun m hm => ?_
    obtain ⟨l, hl, rfl⟩ := Option.map_eq_some_iff.1 hm
    have := ha l hl
    exact ⟨fun h => ⟨fun ρ => by simp only [V1.conc, (this.left h).1 ρ], fun hg => V1.good_agg.2 ((this.left h).2 (V1.good_agg.1 hg))⟩,
      fun h => ⟨fun ρ => by simp only [V1.conc, (this.right h).1 ρ], fun hg => V1.good_agg.2 ((this.right h).2 (V1.good_agg.1 hg))⟩⟩
  · exact sat_pure fun m hm => by cases hm

def MV1s (ν : Nat → DV) (c : A) : List V1 → List V1 → List V1 → Prop
  | [], [], [] => True
  | x :: l, y :: l', m :: r => MV1 ν c x y m ∧ MV1s ν c l l' r
  | _, _, _ => False
theorem mergeV1s_sat {c : A} : ∀ (l l' : List V1), M.sat F ν (mergeV1s c l l') (fun o => ∀ m, o = some m → MV1s ν c l l' m)
  | [], [] => sat_pure fun m hm => by cases hm; trivial
  | x :: l, y :: l' => by
    unfold mergeV1s
    refine sat_bind mergeV1_sat fun a ha => sat_bind (mergeV1s_sat l l') fun b hb => sat_pure fun m hm => ?_
    split at hm
    · cases hm; exact ⟨ha _ rfl, hb _ rfl⟩
    · cases hm
  | [], _ :: _ => sat_pure fun m hm => by cases hm
  | _ :: _, [] => sat_pure fun m hm => by cases hm
theorem MV1s.left {c : A} (h : c.bool ν = true) : ∀ {l l' m : List V1}, MV1s ν c l l' m → (∀ ρ, m.map (V1.conc ν ρ) = l.map (V1.conc ν ρ)) ∧ ((∀ x ∈ l, V1.good ν x) → ∀ x ∈ m, V1.good ν x)
  | [], [], [], _ => ⟨fun _ => rfl, fun h => h⟩
  | x :: l, y :: l', m :: r, hm => by
    obtain ⟨h1, h2⟩ := hm.2.left h
    obtain ⟨h3, h4⟩ := hm.1.1 h
    refine ⟨fun ρ => by simp [h3 ρ, h1 ρ], fun hg z hz => ?_⟩
    rcases List.mem_cons.1 hz with rfl | hz
    · exact h4 (hg x (by simp))
    · exact h2 (fun u hu => hg u (List.mem_cons_of_mem _ hu)) z hz
theorem MV1s.right {c : A} (h : c.bool ν = false) : ∀ {l l' m : List V1}, MV1s ν c l l' m → (∀ ρ, m.map (V1.conc ν ρ) = l'.map (V1.conc ν ρ)) ∧ ((∀ x ∈ l', V1.good ν x) → ∀ x ∈ m, V1.good ν x)
  | [], [], [], _ => ⟨fun _ => rfl, fun h => h⟩
  | x :: l, y :: l', m :: r, hm => by
    obtain ⟨h1, h2⟩ := hm.2.right h
    obtain ⟨h3, h4⟩ := hm.1.2 h
    refine ⟨fun ρ => by simp [h3 ρ, h1 ρ], fun hg z hz => ?_⟩
    rcases List.mem_cons.1 hz with rfl | hz
    · exact h4 (hg y (by simp))
    · exact h2 (fun u hu => hg u (List.mem_cons_of_mem _ hu)) z hz

def MV (ν : Nat → DV) (c : A) (x y m : V) : Prop :=
  (c.bool ν = true → (∀ ρ, m.conc ν ρ = x.conc ν ρ) ∧ (x.good ν → m.good ν)) ∧
  (c.bool ν = false → (∀ ρ, m.conc ν ρ = y.conc ν ρ) ∧ (y.good ν → m.good ν))
theorem mergeV_sat {c : A} {x y : V} : M.sat F ν (mergeV c x y) (fun o => ∀ m, o = some m → MV ν c x y m) := by
  unfold mergeV
  split
  · refine sat_bind mergeV1_sat fun a ha => sat_pure fun m hm => ?_
    obtain ⟨l, hl, rfl⟩ := Option.map_eq_some_iff.1 hm
    exact ha l hl
  · refine sat_bind (mergeV1s_sat _ _) fun a ha => sat_pure fun m hm => ?_
    obtain ⟨l, hl, rfl⟩ := Option.map_eq_some_iff.1 hm
    have := ha l hl
    exact ⟨fun h => ⟨fun ρ => by simp only [V.conc, (this.left h).1 ρ], fun hg => (this.left h).2 hg⟩,
      fun h => ⟨fun ρ => by simp only [V.conc, (this.right h).1 ρ], fun hg => (this.right h).2 hg⟩⟩
  · exact sat_pure fun m hm => by cases hm

theorem mergeOrFail_sat {c : A} {x y : V} : M.sat F ν (mergeOrFail c x y) (fun m => MV ν c x y m) := by
  unfold mergeOrFail
  refine sat_bind mergeV_sat fun o ho => ?_
  split
  · exact sat_pure (ho _ rfl)
  · exact sat_fail

end
end Go.Sx

namespace Go.Sx
open Go.RowKit
section
variable {P : Program} {F : FEnv} {ν : Nat → DV} {ρ : Nat → Loc} {w : World}

def Like (ν : Nat → DV) (v x : Lf) : Prop := (∀ ρ, v.conc ν ρ = x.conc ν ρ) ∧ (x.good ν → v.good ν)
theorem Like.refl (v : Lf) : Like ν v v := ⟨fun _ => rfl, id⟩
theorem Like.trans {a b c : Lf} (h : Like ν a b) (k : Like ν b c) : Like ν a c := ⟨fun ρ => (h.1 ρ).trans (k.1 ρ), fun g => h.2 (k.2 g)⟩

structure Desc (ν : Nat → DV) (l l' : List (Option Lf)) (p : Nat) (xs : List Lf) : Prop where
  len : l'.length = l.length
  room : xs ≠ [] → p + xs.length ≤ l.length
  inn : ∀ i v, nth l' i = some v → ∀ k x, xs[k]? = some x → i = p + k → Like ν v x
  out : ∀ i v, nth l' i = some v → (i < p ∨ p + xs.length ≤ i) → ∃ old, nth l i = some old ∧ Like ν v old

theorem Desc.nil (l : List (Option Lf)) (p : Nat) : Desc ν l l p [] :=
  ⟨rfl, fun h => absurd rfl h, fun i v _ k x hx => by simp at hx, fun i v hv _ => ⟨v, hv, Like.refl v⟩⟩

theorem Desc.cons {l l1 l2 : List (Option Lf)} {p : Nat} {x : Lf} {xs : List Lf} (h : Desc ν l l1 p [x]) (k : Desc ν l1 l2 (p + 1) xs) : Desc ν l l2 p (x :: xs) := by
  refine ⟨k.len.trans h.len, fun _ => ?_, fun i v hv j y hy hi => ?_, fun i v hv hi => ?_⟩
  · have := h.room (by simp)
    cases xs with
    | nil => simpa using this
    | cons z zs => have := k.room (by simp); rw [h.len] at this; simp at this ⊢; omega
  · cases j with
    | zero =>
      simp at hy; subst hy
      obtain ⟨old, ho, hl⟩ := k.out i v hv (.inl (by omega))
      exact hl.trans (h.inn i old ho 0 _ rfl (by omega))
    | succ j => exact k.inn i v hv j y (by simpa using hy) (by omega)
  · obtain ⟨old, ho, hl⟩ := k.out i v hv (by simp at hi; omega)
    obtain ⟨old2, ho2, hl2⟩ := h.out i old ho (by simp at hi ⊢; omega)
    exact ⟨old2, ho2, hl.trans hl2⟩

theorem putCells_desc : ∀ {l l' : List (Option Lf)} {o : Nat} {xs : List Lf}, putCells l o xs = some l' → Desc ν l l' o xs
  | l, l', o, [], h => by
    have : l' = l := by cases l <;> cases o <;> simp [putCells] at h <;> first | exact h.symm | (subst h; rfl)
    subst this; exact Desc.nil _ _
  | [], l', o, x :: xs, h => by cases o <;> simp [putCells] at h
  | c :: l, l', o + 1, x :: xs, h => by
    simp only [putCells] at h
    obtain ⟨r, hr, rfl⟩ := Option.map_eq_some_iff.1 h
    have ih := putCells_desc hr
    refine ⟨by simp [ih.len], fun _ => by have := ih.room (by simp); simp at this ⊢; omega, fun i v hv k y hy hi => ?_, fun i v hv hi => ?_⟩
    · cases i with
      | zero => omega
      | succ i => exact ih.inn i v hv k y hy (by omega)
    · cases i with
      | zero => exact ⟨v, hv, Like.refl v⟩
      | succ i => exact ih.out i v hv (by simp at hi ⊢; omega)
  | c :: l, l', 0, x :: xs, h => by
    simp only [putCells] at h
    obtain ⟨r, hr, rfl⟩ := Option.map_eq_some_iff.1 h
    have ih := putCells_desc hr
    refine ⟨by simp [ih.len], fun _ => ?_, fun i v hv k y hy hi => ?_, fun i v hv hi => ?_⟩
    · cases xs with
      | nil => simp
      | cons z zs => have := ih.room (by simp); simp at this ⊢; omega
    · cases i with
      | zero =>
        have : k = 0 := by omega
        subst this
        simp at hy; subst hy
        cases hv; exact Like.refl _
      | succ i =>
        cases k with
        | zero => omega
        | succ k => exact ih.inn i v hv k y (by simpa using hy) (by omega)
    · cases i with
      | zero => simp at hi
      | succ i => exact ih.out i v hv (.inr (by simp at hi; omega))

theorem putRow_sat {ix : A} {x : Lf} {sz : Nat} (hsz : 0 < sz) : ∀ (l : List (Option Lf)) (base len j : Nat),
    M.sat F ν (putRow ix x l base sz len j) (fun l' => l'.length = l.length ∧ (∀ k, k < len → base + k * sz < l.length) ∧
      ∀ i v, nth l' i = some v →
        (∃ k, k < len ∧ i = base + k * sz ∧ ∃ old, nth l i = some old ∧ (ix.int ν = ((j + k : Nat) : Int) → Like ν v x) ∧ (ix.int ν ≠ ((j + k : Nat) : Int) → Like ν v old)) ∨
        ((∀ k, k < len → i ≠ base + k * sz) ∧ nth l i = some v))
  | l, base, 0, j => by
    have e : putRow ix x l base sz 0 j = pure l := by cases l <;> cases base <;> rfl
    rw [e]
    exact sat_pure ⟨rfl, fun k hk => absurd hk (by omega), fun i v hv => .inr ⟨fun k hk => absurd hk (by omega), hv⟩⟩
  | [], base, len + 1, j => by
    have e : putRow ix x [] base sz (len + 1) j = M.fail := by cases base <;> rfl
    rw [e]; exact sat_fail
  | c :: l, base + 1, len + 1, j => by
    have e : putRow ix x (c :: l) (base + 1) sz (len + 1) j = (do pure (c :: (← putRow ix x l base sz (len + 1) j))) := rfl
    rw [e]
    refine sat_bind (putRow_sat hsz l base (len + 1) j) fun r hr => sat_pure ?_
    obtain ⟨h1, h2, h3⟩ := hr
    refine ⟨by simp [h1], fun k hk => by have := h2 k hk; simp; omega, fun i v hv => ?_⟩
    cases i with
    | zero => exact .inr ⟨fun k hk => by omega, hv⟩
    | succ i =>
      rcases h3 i v hv with ⟨k, hk, hi, old, ho, ha⟩ | ⟨hn, ho⟩
      · exact .inl ⟨k, hk, by omega, old, ho, ha⟩
      · exact .inr ⟨fun k hk => by have := hn k hk; omega, ho⟩
  | c :: l, 0, len + 1, j => by
    cases c with
    | none =>
      have e : putRow ix x (none :: l) 0 sz (len + 1) j = M.fail := rfl
      rw [e]; exact sat_fail
    | some old =>
      have e : putRow ix x (some old :: l) 0 sz (len + 1) j = (do
        let e ← emit (.eql ix (.z j))
        match ← mergeLf e x old with
        | none => M.fail
        | some y => do pure (some y :: (← putRow ix x l (sz - 1) sz len (j + 1)))) := rfl
      rw [e]
      refine sat_bind (sat_emit (Q := fun r => r.bool ν = (ix.int ν == (j : Int))) fun r h => A.bool_of_den h) fun e he => ?_
      refine sat_bind mergeLf_sat fun o ho => ?_
      split
      · exact sat_fail
      · rename_i y
        have hm := ho y rfl
        refine sat_bind (putRow_sat hsz l (sz - 1) len (j + 1)) fun r hr => sat_pure ?_
        obtain ⟨h1, h2, h3⟩ := hr
        refine ⟨by simp [h1], fun k hk => ?_, fun i v hv => ?_⟩
        · cases k with
          | zero => simp
          | succ k => have := h2 k (by omega); simp [Nat.add_mul]; omega
        · cases i with
          | zero =>
            cases hv
            refine .inl ⟨0, by omega, by omega, old, rfl, fun hj => ?_, fun hj => ?_⟩
            · exact hm.1 (by rw [he]; simpa using hj)
            · exact hm.2 (by rw [he]; simpa using hj)
          | succ i =>
            rcases h3 i v hv with ⟨k, hk, hi, old2, ho2, ha⟩ | ⟨hn, ho2⟩
            · refine .inl ⟨k + 1, by omega, by simp [Nat.add_mul]; omega, old2, ho2, ?_⟩
              have ej : ((j + (k + 1) : Nat) : Int) = ((j + 1 + k : Nat) : Int) := by omega
              rw [ej]; exact ha
            · refine .inr ⟨fun k hk => ?_, ho2⟩
              cases k with
              | zero => omega
              | succ k => have := hn k (by omega); simp [Nat.add_mul]; omega

theorem putRow_desc {ix : A} {x : Lf} {sz base len : Nat} (hsz : 0 < sz) (h0 : 0 ≤ ix.int ν) (h1 : ix.int ν < len) (l : List (Option Lf)) :
    M.sat F ν (putRow ix x l base sz len 0) (fun l' => Desc ν l l' (base + (ix.int ν).toNat * sz) [x]) := by
  refine sat_mono (putRow_sat hsz l base len 0) fun l' ⟨ha, hb, hc⟩ => ?_
  have hix : ix.int ν = (((ix.int ν).toNat : Nat) : Int) := by omega
  have hinj : ∀ k, base + k * sz = base + (ix.int ν).toNat * sz → k = (ix.int ν).toNat := fun k h => Nat.eq_of_mul_eq_mul_right hsz (by omega)
  refine ⟨ha, fun _ => by have := hb (ix.int ν).toNat (by omega); simp; omega, fun i v hv k y hy hi => ?_, fun i v hv hi => ?_⟩
  · have : k = 0 := by have := (List.getElem?_eq_some_iff.1 hy).1; simp at this; omega
    subst this
    simp at hy; subst hy
    rcases hc i v hv with ⟨k, hk, hi', old, ho, h2, h3⟩ | ⟨hn, ho⟩
    · have := hinj k (by omega)
      exact h2 (by omega)
    · exact absurd (by omega) (hn (ix.int ν).toNat (by omega))
  · rcases hc i v hv with ⟨k, hk, hi', old, ho, h2, h3⟩ | ⟨hn, ho⟩
    · refine ⟨old, ho, h3 fun he => ?_⟩
      have : k = (ix.int ν).toNat := by omega
      subst this
      simp at hi; omega
    · exact ⟨v, ho, Like.refl v⟩

theorem putRows_desc {ix : A} {sz len : Nat} (hsz : 0 < sz) (h0 : 0 ≤ ix.int ν) (h1 : ix.int ν < len) : ∀ (xs : List Lf) (l : List (Option Lf)) (base : Nat),
    M.sat F ν (putRows ix xs l base sz len) (fun l' => Desc ν l l' (base + (ix.int ν).toNat * sz) xs)
  | [], l, base => sat_pure (Desc.nil _ _)
  | x :: xs, l, base => by
    unfold putRows
    refine sat_bind (putRow_desc hsz h0 h1 l) fun l1 hl1 => sat_mono (putRows_desc hsz h0 h1 xs l1 (base + 1)) fun l2 hl2 => ?_
    exact Desc.cons hl1 (by rwa [show base + (ix.int ν).toNat * sz + 1 = base + 1 + (ix.int ν).toNat * sz from by omega])

theorem storeCellsAt_desc {cs : List (Option Lf)} {off : Off} {xs : List Lf} (hg : off.good ν) :
    M.sat F ν (storeCellsAt cs off xs) (fun l' => Desc ν cs l' (off.val ν) xs) := by
  unfold storeCellsAt
  split
  · exact sat_lift fun l' h => putCells_desc h
  · exact sat_ite (fun h => putRows_desc (by simpa using h) hg.1 hg.2 _ _ _) (fun _ => sat_fail)
  · exact sat_fail

theorem setCells_size (b : Nat) : ∀ (vs : List Value) (o : Nat) (w : World), (w.setCells b o vs).heap.size = w.heap.size
  | [], _, _ => rfl
  | v :: r, o, w => by rw [World.setCells, setCells_size b r, World.size_setCell]
theorem setCells_block (b : Nat) : ∀ (vs : List Value) (o : Nat) (w : World) (k : Nat), k ≠ b → (w.setCells b o vs).heap[k]? = w.heap[k]?
  | [], _, _, _, _ => rfl
  | v :: r, o, w, k, h => by rw [World.setCells, setCells_block b r _ _ k h]; exact Below.heap_setCell w ⟨b, o, none⟩ v k h
theorem setCells_os (b : Nat) : ∀ (vs : List Value) (o : Nat) (w : World), (w.setCells b o vs).os = w.os ∧ (w.setCells b o vs).tape = w.tape ∧ (w.setCells b o vs).output = w.output
  | [], _, _ => ⟨rfl, rfl, rfl⟩
  | v :: r, o, w => by
    rw [World.setCells]
    exact setCells_os b r (o + 1) _

theorem Lf.ok_conc {l : Lf} (h : l.ok = true) (ρ : Nat → Loc) : (l.conc ν ρ).oneCell' = true := by
  cases l <;> first | rfl | exact h

theorem CBlk.store {r : Loc} {cs cs' : List (Option Lf)} {p : Nat} {xs : List Lf} (h : CBlk ν ρ w r true cs) (hd : Desc ν cs cs' p xs) (hg : ∀ x ∈ xs, x.good ν) (hok : ∀ x ∈ xs, x.ok = true) :
    (storeCells ⟨r.blk, r.off + p, none⟩ (xs.map (Lf.conc ν ρ))).run P w = .ok () (w.setCells r.blk (r.off + p) (xs.map (Lf.conc ν ρ))) ∧
    CBlk ν ρ (w.setCells r.blk (r.off + p) (xs.map (Lf.conc ν ρ))) r true cs' := by
  have hroom : ∀ k, k < xs.length → p + k < cs.length := fun k hk => by
    have := hd.room (by intro e; subst e; simp at hk)
    omega
  have hex : ∀ k, k < xs.length → (w.cell? ⟨r.blk, r.off + p + k, none⟩).isSome = true ∧ w.frozen? ⟨r.blk, r.off + p + k, none⟩ = false := fun k hk => by
    have := h.own rfl (p + k) (hroom k hk)
    rwa [← Nat.add_assoc] at this
  refine ⟨?_, h.nil, ?_, ?_, ?_⟩
  · have := run_storeCells_cells (P := P) r.blk (r.off + p) (xs.map (Lf.conc ν ρ)) 0 w (by simpa using fun k hk => (hex k hk).1) (by simpa using fun k hk => (hex k hk).2)
      (fun v hv => by obtain ⟨l, hl, rfl⟩ := List.mem_map.1 hv; exact Lf.ok_conc (hok l hl) ρ)
    simpa using this
  · rw [setCells_size]; exact h.lt
  · intro i l hl
    by_cases hi : p ≤ i ∧ i < p + xs.length
    · obtain ⟨k, hk⟩ : ∃ k, i = p + k := ⟨i - p, by omega⟩
      have hkl : k < xs.length := by omega
      have hlike := hd.inn i l hl k xs[k] (List.getElem?_eq_getElem hkl) hk
      refine ⟨hlike.2 (hg _ (List.getElem_mem hkl)), ?_⟩
      have := World.cell?_setCells_in r.blk (xs.map (Lf.conc ν ρ)) (r.off + p) w (by simpa using fun k hk => (hex k hk).1) k (by simpa using hkl)
      rw [hk, ← Nat.add_assoc, this, hlike.1 ρ]
      simp
    · obtain ⟨old, ho, hlike⟩ := hd.out i l hl (by omega)
      have := h.cell i old ho
      refine ⟨hlike.2 this.1, ?_⟩
      rw [World.cell?_setCells_out _ _ _ _ _ (fun _ _ => by simp; omega), this.2, hlike.1 ρ]
  · intro _ i hi
    rw [World.frozen?_setCells]
    have hi' : i < cs.length := by have := hd.len; omega
    have := h.own rfl i hi'
    refine ⟨?_, this.2⟩
    by_cases hi2 : p ≤ i ∧ i < p + xs.length
    · obtain ⟨k, hk⟩ : ∃ k, i = p + k := ⟨i - p, by omega⟩
      have hkl : k < xs.length := by omega
      have := World.cell?_setCells_in r.blk (xs.map (Lf.conc ν ρ)) (r.off + p) w (by simpa using fun k hk => (hex k hk).1) k (by simpa using hkl)
      rw [hk, ← Nat.add_assoc, this]
      rfl
    · rw [World.cell?_setCells_out _ _ _ _ _ (fun _ _ => by simp; omega)]
      exact this.1
end
end Go.Sx

namespace Go.Sx
open Go.RowKit

abbrev dget (l : List DV) (i : Nat) : DV := l.getD i default

def GlobIn (w : World) (g : Nat) (cs : List Lf) : Prop :=
  g < w.heap.size ∧ ∀ i l, cs[i]? = some l → ∀ ν ρ, l.good ν ∧ w.cell? ⟨g, i, none⟩ = some (l.conc ν ρ)

theorem GlobIn.below {w w' : World} {g : Nat} {cs : List Lf} (hb : Below w.heap.size w w') (h : GlobIn w g cs) : GlobIn w' g cs :=
  ⟨Nat.lt_of_lt_of_le h.1 hb.size, fun i l hi ν ρ => ⟨(h.2 i l hi ν ρ).1, by rw [← (h.2 i l hi ν ρ).2]; exact hb.cell h.1⟩⟩

structure HS (E : Env) (ν : Nat → DV) (ρ : Nat → Loc) (hp : List (Option Blk)) (w : World) : Prop where
  heap : HRel E ν ρ hp w
  old : OldF E.W E.V E.w0 ρ hp
  fr : Fr E.W E.w0 w
  len : E.n0 ≤ hp.length
  keep : ∀ j, j < E.n0 → ρ j = E.ρ0 j

def callEnv (hin : List (Option Blk)) (ρ : Nat → Loc) (w : World) : Env :=
  ⟨fun b => ∃ j bk, nth hin j = some bk ∧ bk.own = true ∧ (ρ j).nil = false ∧ (ρ j).blk = b,
   fun b => ∃ j bk, nth hin j = some bk ∧ bk.own = false ∧ (ρ j).nil = false ∧ (ρ j).blk = b, w, hin.length, ρ⟩

def Sig.hinI (sg : Sig) : List (Option Blk) := sg.hin.map (Option.map (Blk.inst (idsFrom 0 sg.nin)))
def Sig.insI (sg : Sig) : List V := sg.ins.map (V.inst (idsFrom 0 sg.nin))
def Sig.houtI (sg : Sig) : List (Option Blk) := sg.hout.map (Option.map (Blk.inst (idsFrom 0 sg.ots.length)))
def Sig.outI (sg : Sig) : V := sg.out.inst (idsFrom 0 sg.ots.length)
def Sig.res (sg : Sig) (ds : List DV) : Nat → DV := fun j => dget ds (j + if sg.need then 1 else 0)

structure CallOut (sg : Sig) (ds : List DV) (ρ : Nat → Loc) (w : World) (v : Value) (ρ' : Nat → Loc) (w' : World) : Prop where
  val : v = sg.outI.conc (sg.res ds) ρ'
  good : sg.outI.good (sg.res ds)
  heap : HRel (callEnv sg.hinI ρ w) (sg.res ds) ρ' sg.houtI w'
  old : OldF (callEnv sg.hinI ρ w).W (callEnv sg.hinI ρ w).V w ρ' sg.houtI
  fr : Fr (callEnv sg.hinI ρ w).W w w'
  keep : ∀ j, stays sg.hin j = true → j < sg.hout.length → ρ' j = ρ j

def FnOK (P : Program) (I : World → Prop) (K : Nat) (f : FuncId) (sg : Sig) (G : List DV → List DV) : Prop :=
  ∀ (ds : List DV) (ρ : Nat → Loc) (w : World), I w → ds.length = sg.nin → (sg.need = true → (dget (G ds) 0).toB = true) →
    K ≤ w.heap.size → (∀ b, (callEnv sg.hinI ρ w).W b → K ≤ b) → (∀ v ∈ sg.insI, V.good (dget ds) v) → HRel (callEnv sg.hinI ρ w) (dget ds) ρ sg.hinI w →
    Calls P f (sg.insI.map (V.conc (dget ds) ρ)).toArray w (fun e w' => ∃ v ρ', e = .returned v ∧ CallOut sg (G ds) ρ w v ρ' w')

structure SigsOK (P : Program) (I : World → Prop) (K : Nat) (S : Sigs) (F : FEnv) : Prop where
  fns : ∀ f sg, S.get f = some sg → FnOK P I K f sg (F f)
  globs : ∀ g cs, assoc S.gs g = some cs → ∀ w, I w → GlobIn w g cs

def Env.Ok (E : Env) (K : Nat) : Prop := K ≤ E.w0.heap.size ∧ ∀ b, E.W b → K ≤ b

section
variable {P : Program} {I : World → Prop} {S : Sigs} {F : FEnv} {E : Env} {ν : Nat → DV}

structure ARel (ν : Nat → DV) (ρ : Nat → Loc) (r : RS) (a : Act) : Prop where
  defers : a.defers = []
  size : a.tmps.size = r.st.sl.length
  slot : ∀ t v, nth r.st.sl t = some v → v.good ν ∧ a.tmps[t]? = some (v.conc ν ρ)
  gl : ∀ e ∈ r.gl, (a.tmps[e.d]? = some (.bool e.want) → e.v.good ν ∧ a.tmps[e.t]? = some (e.v.conc ν ρ)) ∧ (a.tmps[e.d]? ≠ some (.bool e.want) → a.tmps[e.t]? = some undef)

def CtxOk (ctx : Ctx) (a : Act) : Prop := ∀ p ∈ ctx, a.tmps[p.1]? = some (.bool p.2)

theorem Ctx.has_spec : ∀ {ctx : Ctx} {d : Nat} {w : Bool}, ctx.has d w = true → (d, w) ∈ ctx
  | [], _, _, h => by simp [Ctx.has] at h
  | (d, w) :: r, d', w', h => by
    simp only [Ctx.has, Bool.or_eq_true, Bool.and_eq_true] at h
    rcases h with ⟨h1, h2⟩ | h
    · have := Nat.eq_of_beq_eq_true h1; subst this
      have := beqB_eq h2; subst this
      simp
    · exact List.mem_cons_of_mem _ (Ctx.has_spec h)

theorem glFind_spec {ctx : Ctx} {t : Nat} : ∀ {l : List GE} {v : V}, glFind ctx t l = some v → ∃ e ∈ l, e.t = t ∧ e.v = v ∧ (e.d, e.want) ∈ ctx
  | [], v, h => by simp [glFind] at h
  | e :: r, v, h => by
    simp only [glFind] at h
    split at h
    · rename_i hc
      simp only [Bool.and_eq_true] at hc
      cases h
      exact ⟨e, by simp, Nat.eq_of_beq_eq_true hc.1, rfl, Ctx.has_spec hc.2⟩
    · obtain ⟨e', h1, h2⟩ := glFind_spec h
      exact ⟨e', List.mem_cons_of_mem _ h1, h2⟩

theorem slot_spec {ρ : Nat → Loc} {r : RS} {a : Act} {ctx : Ctx} (h : ARel ν ρ r a) (hc : CtxOk ctx a) {t : Nat} {v : V} (hv : r.slot ctx t = some v) : v.good ν ∧ a.tmps[t]? = some (v.conc ν ρ) := by
  unfold RS.slot at hv
  split at hv
  · cases hv; exact h.slot t _ ‹_›
  · obtain ⟨e, he, rfl, rfl, hctx⟩ := glFind_spec hv
    exact (h.gl e he).1 (hc (e.d, e.want) hctx)

theorem ofLeaf_spec {x : Value} {l : Lf} (h : ofLeaf x = some l) : l.good ν ∧ ∀ ρ, l.conc ν ρ = x := by
  unfold ofLeaf at h
  split at h <;> first | (cases h; exact ⟨trivial, fun _ => rfl⟩) | cases h

theorem allSome_spec {α β : Type} {f : α → Option β} : ∀ {l : List α} {r : List β}, allSome f l = some r → r.length = l.length ∧ ∀ (i : Nat) b, r[i]? = some b → ∃ a, l[i]? = some a ∧ f a = some b
  | [], r, h => by simp [allSome] at h; subst h; exact ⟨rfl, fun i b hb => by simp at hb⟩
  | a :: l, r, h => by
    simp only [allSome] at h
    cases hf : f a with
    | none => simp [hf] at h
    | some b =>
      simp only [hf] at h
      cases hr : allSome f l with
      | none => simp [hr] at h
      | some r' =>
        simp only [hr, Option.some.injEq] at h
        subst h
        obtain ⟨h1, h2⟩ := allSome_spec hr
        refine ⟨by simp [h1], fun i b' hb => ?_⟩
        cases i with
        | zero => simp at hb; subst hb; exact ⟨a, rfl, hf⟩
        | succ i => exact h2 i b' (by simpa using hb)

theorem ofLeaves_spec {l : List Value} {r : List Lf} (h : allSome ofLeaf l = some r) : (∀ x ∈ r, x.good ν) ∧ ∀ ρ, r.map (Lf.conc ν ρ) = l := by
  obtain ⟨h1, h2⟩ := allSome_spec h
  refine ⟨fun x hx => ?_, fun ρ => ?_⟩
  · obtain ⟨i, hi, rfl⟩ := List.mem_iff_getElem.1 hx
    obtain ⟨a, _, ha⟩ := h2 i _ (List.getElem?_eq_getElem hi)
    exact (ofLeaf_spec ha).1
  · apply List.ext_getElem?
    intro i
    by_cases hi : i < r.length
    · obtain ⟨a, ha1, ha2⟩ := h2 i _ (List.getElem?_eq_getElem hi)
      simp [List.getElem?_eq_getElem hi, ha1, (ofLeaf_spec (ν := ν) ha2).2 ρ]
    · rw [List.getElem?_eq_none (by simpa using hi), List.getElem?_eq_none (by omega)]

theorem ofConst_spec {x : Value} {v : V1} (h : ofConst x = some v) : v.good ν ∧ ∀ ρ, v.conc ν ρ = x := by
  unfold ofConst at h
  split at h
  · obtain ⟨r, hr, rfl⟩ := Option.map_eq_some_iff.1 h
    have := ofLeaves_spec (ν := ν) hr
    exact ⟨V1.good_agg.2 this.1, fun ρ => by simp [V1.conc, this.2 ρ]⟩
  · obtain ⟨r, hr, rfl⟩ := Option.map_eq_some_iff.1 h
    have := ofLeaf_spec (ν := ν) hr
    exact ⟨V1.good_one.2 this.1, fun ρ => this.2 ρ⟩

theorem rd_spec {ρ : Nat → Loc} {r : RS} {a : Act} {ctx : Ctx} (h : ARel ν ρ r a) (hc : CtxOk ctx a) {x : Operand} {v : V} (hv : rd r ctx x = some v) : v.good ν ∧ a.eval x = v.conc ν ρ := by
  cases x with
  | tmp t =>
    have := slot_spec h hc (show r.slot ctx t = some v from hv)
    exact ⟨this.1, by simp [Act.eval, this.2]⟩
  | const c =>
    simp only [rd] at hv
    obtain ⟨u, hu, rfl⟩ := Option.map_eq_some_iff.1 hv
    have := ofConst_spec (ν := ν) hu
    exact ⟨this.1, (this.2 ρ).symm⟩
  | func f =>
    simp only [rd, Option.some.injEq] at hv
    subst hv
    exact ⟨V.good_s.2 (V1.good_one.2 (show True from trivial)), rfl⟩
  | global g =>
    simp only [rd, Option.some.injEq] at hv
    subst hv
    exact ⟨V.good_s.2 (V1.good_one.2 trivial), by simp [V.conc, V1.conc, Lf.conc, Off.val, Act.eval]⟩


structure RR (ν : Nat → DV) (E : Env) (ρ : Nat → Loc) (r : RS) (a : Act) (w : World) : Prop where
  act : ARel ν ρ r a
  hs : HS E ν ρ r.st.hp w

theorem HS.of_below {ρ : Nat → Loc} {hp : List (Option Blk)} {w w' : World} (h : HS E ν ρ hp w) (hb : Below w.heap.size w w') : HS E ν ρ hp w' :=
  ⟨h.heap.of_below hb, h.old, h.fr.trans (Fr.of_below hb), h.len, h.keep⟩
theorem RR.below {ρ : Nat → Loc} {r : RS} {a : Act} {w w' : World} (h : RR ν E ρ r a w) (hb : Below w.heap.size w w') : RR ν E ρ r a w' := ⟨h.act, h.hs.of_below hb⟩

def RunsVal (P : Program) (x : Sem Next) (w : World) (v : Value) : Prop :=
  x.run P w = .ok (.value v) w ∨ ∃ f args, x.run P w = .ok (.enter f args) w ∧ Calls P f args w (fun e w' => e = .returned v ∧ Below w.heap.size w w')
def RunsTo (P : Program) (x : Sem Next) (w : World) (K : Option Value → World → Prop) : Prop :=
  (∃ v w', x.run P w = .ok (.value v) w' ∧ K (some v) w') ∨ (∃ w', x.run P w = .ok .skip w' ∧ K none w') ∨
  ∃ f args, x.run P w = .ok (.enter f args) w ∧ Calls P f args w (fun e w' => ∃ v, e = .returned v ∧ K (some v) w')

def ORok (P : Program) (I : World → Prop) (E : Env) (ν : Nat → DV) (ρ : Nat → Loc) (hp : List (Option Blk)) (x : Sem Next) : OR → Prop
  | .val v => ∀ w, HS E ν ρ hp w → I w → v.good ν ∧ RunsVal P x w (v.conc ν ρ)
  | .hp v hp' => ∀ w, HS E ν ρ hp w → I w → RunsTo P x w fun nv w' => ∃ ρ' : Nat → Loc, (∀ j, j < hp.length → ρ' j = ρ j) ∧ HS E ν ρ' hp' w' ∧ ∀ u, v = some u → u.good ν ∧ nv = some (u.conc ν ρ')

theorem ORok.now {ρ : Nat → Loc} {hp : List (Option Blk)} {x : Sem Next} {v : V} (hg : v.good ν) (h : ∀ w, HS E ν ρ hp w → x.run P w = .ok (.value (v.conc ν ρ)) w) : ORok P I E ν ρ hp x (.val v) :=
  fun w hw _ => ⟨hg, .inl (h w hw)⟩

theorem cells_one {v : Value} (h : v.oneCell' = true) : v.cells = #[v] := by
  cases v <;> first | rfl | simp [Value.oneCell'] at h
end
end Go.Sx

namespace Go.Sx
open Go.RowKit
section
variable {P : Program} {I : World → Prop} {S : Sigs} {F : FEnv} {E : Env} {ν : Nat → DV}

theorem vBeq_spec {x y : Value} (h : vBeq x y = true) : x = y := by
  unfold vBeq at h
  split at h
  · simp only [Bool.and_eq_true] at h
    obtain ⟨⟨⟨⟨h1, h2⟩, h3⟩, h4⟩, h5⟩ := h
    have := Nat.eq_of_beq_eq_true h1; subst this
    rw [Array.eq_empty_of_size_eq_zero (Nat.eq_of_beq_eq_true h2), Array.eq_empty_of_size_eq_zero (Nat.eq_of_beq_eq_true h3), Array.eq_empty_of_size_eq_zero (Nat.eq_of_beq_eq_true h4), Array.eq_empty_of_size_eq_zero (Nat.eq_of_beq_eq_true h5)]
  · rfl
  · rfl
  · rfl
  · cases h

def SubL (ν : Nat → DV) (m : List Nat) (x y : Lf) : Prop := (∀ ρ : Nat → Loc, x.conc ν (fun j => ρ (rnm m j)) = y.conc ν ρ) ∧ (y.good ν → x.good ν)

theorem Lf.sub_spec {m : List Nat} {x y : Lf} (h : x.sub m y = true) : SubL ν m x y := by
  cases x <;> cases y <;> simp [Lf.sub] at h
  · obtain ⟨h1, h2⟩ := h
    have := kEq_eq h1; subst this
    exact ⟨fun ρ => by simp [Lf.conc, A.int, A.beq_den h2 ν], fun _ => trivial⟩
  · exact ⟨fun ρ => by simp [Lf.conc, A.bool, A.beq_den h ν], fun _ => trivial⟩
  · obtain ⟨rfl, h2⟩ := h
    obtain ⟨h3, h4⟩ := Off.beq_spec (ν := ν) h2
    exact ⟨fun ρ => by simp [Lf.conc, h3], h4⟩
  · obtain ⟨rfl, h2⟩ := h
    obtain ⟨h3, h4⟩ := Off.beq_spec (ν := ν) h2
    exact ⟨fun ρ => by simp [Lf.conc, h3], h4⟩
  · exact ⟨fun ρ => rfl, id⟩
  · subst h
    exact ⟨fun ρ => rfl, fun _ => trivial⟩
  · obtain ⟨rfl, h2⟩ := h
    rw [← natsEq_eq h2]
    exact ⟨fun ρ => by simp only [Lf.conc]; rw [capsConc_map], fun _ => trivial⟩
  · have := vBeq_spec h; subst this
    exact ⟨fun ρ => rfl, id⟩

theorem Lfs.sub_spec {m : List Nat} : ∀ {x y : List Lf}, Lfs.sub m x y = true → (∀ ρ : Nat → Loc, x.map (Lf.conc ν (fun j => ρ (rnm m j))) = y.map (Lf.conc ν ρ)) ∧ ((∀ l ∈ y, Lf.good ν l) → ∀ l ∈ x, Lf.good ν l)
  | [], [], _ => ⟨fun _ => rfl, fun h => h⟩
  | x :: l, y :: l', h => by
    simp only [Lfs.sub, Bool.and_eq_true] at h
    obtain ⟨h1, h2⟩ := Lf.sub_spec (ν := ν) h.1
    obtain ⟨h3, h4⟩ := Lfs.sub_spec h.2
    refine ⟨fun ρ => by simp only [List.map_cons, h1 ρ, h3 ρ], fun hg z hz => ?_⟩
    rcases List.mem_cons.1 hz with rfl | hz
    · exact h2 (hg y (by simp))
    · exact h4 (fun u hu => hg u (List.mem_cons_of_mem _ hu)) z hz
  | [], _ :: _, h => by simp [Lfs.sub] at h
  | _ :: _, [], h => by simp [Lfs.sub] at h

theorem V1.sub_spec {m : List Nat} {x y : V1} (h : x.sub m y = true) : (∀ ρ : Nat → Loc, x.conc ν (fun j => ρ (rnm m j)) = y.conc ν ρ) ∧ (y.good ν → x.good ν) := by
  cases x <;> cases y <;> simp only [V1.sub] at h <;> first | cases h | skip
  · obtain ⟨h1, h2⟩ := Lf.sub_spec (ν := ν) h
    exact ⟨fun ρ => h1 ρ, fun g => V1.good_one.2 (h2 (V1.good_one.1 g))⟩
  · obtain ⟨h1, h2⟩ := Lfs.sub_spec (ν := ν) h
    exact ⟨fun ρ => by simp only [V1.conc, h1 ρ], fun g => V1.good_agg.2 (h2 (V1.good_agg.1 g))⟩
theorem V1s.sub_spec {m : List Nat} : ∀ {x y : List V1}, V1s.sub m x y = true → (∀ ρ : Nat → Loc, x.map (V1.conc ν (fun j => ρ (rnm m j))) = y.map (V1.conc ν ρ)) ∧ ((∀ l ∈ y, V1.good ν l) → ∀ l ∈ x, V1.good ν l)
  | [], [], _ => ⟨fun _ => rfl, fun h => h⟩
  | x :: l, y :: l', h => by
    simp only [V1s.sub, Bool.and_eq_true] at h
    obtain ⟨h1, h2⟩ := V1.sub_spec (ν := ν) h.1
    obtain ⟨h3, h4⟩ := V1s.sub_spec h.2
    refine ⟨fun ρ => by simp only [List.map_cons, h1 ρ, h3 ρ], fun hg z hz => ?_⟩
    rcases List.mem_cons.1 hz with rfl | hz
    · exact h2 (hg y (by simp))
    · exact h4 (fun u hu => hg u (List.mem_cons_of_mem _ hu)) z hz
  | [], _ :: _, h => by simp [V1s.sub] at h
  | _ :: _, [], h => by simp [V1s.sub] at h
theorem V.sub_spec {m : List Nat} {x y : V} (h : x.sub m y = true) : (∀ ρ : Nat → Loc, x.conc ν (fun j => ρ (rnm m j)) = y.conc ν ρ) ∧ (y.good ν → x.good ν) := by
  cases x <;> cases y <;> simp only [V.sub] at h <;> first | cases h | skip
  · exact V1.sub_spec h
  · obtain ⟨h1, h2⟩ := V1s.sub_spec (ν := ν) h
    exact ⟨fun ρ => by simp only [V.conc, h1 ρ], fun g => h2 g⟩

theorem slotsSub_spec {m : List Nat} : ∀ {x y : List (Option V)}, slotsSub m x y = true → x.length = y.length ∧ ∀ t v, nth x t = some v → ∃ u, nth y t = some u ∧ v.sub m u = true
  | [], [], _ => ⟨rfl, fun t v h => by cases t <;> cases h⟩
  | none :: l, y :: l', h => by
    simp only [slotsSub] at h
    obtain ⟨h1, h2⟩ := slotsSub_spec h
    refine ⟨by simp [h1], fun t v ht => ?_⟩
    cases t with
    | zero => cases ht
    | succ t => exact h2 t v ht
  | some x :: l, some y :: l', h => by
    simp only [slotsSub, Bool.and_eq_true] at h
    obtain ⟨h1, h2⟩ := slotsSub_spec h.2
    refine ⟨by simp [h1], fun t v ht => ?_⟩
    cases t with
    | zero => cases ht; exact ⟨y, rfl, h.1⟩
    | succ t => exact h2 t v ht
  | [], _ :: _, h => by simp [slotsSub] at h
  | none :: _, [], h => by simp [slotsSub] at h
  | some _ :: _, [], h => by simp [slotsSub] at h
  | some _ :: _, none :: _, h => by simp [slotsSub] at h

theorem cellsSub_spec {m : List Nat} : ∀ {x y : List (Option Lf)}, cellsSub m x y = true → ∀ t v, nth x t = some v → ∃ u, nth y t = some u ∧ v.sub m u = true
  | [], _, _, t, v, ht => by cases t <;> cases ht
  | none :: l, y, h, t, v, ht => by
    simp only [cellsSub] at h
    cases t with
    | zero => cases ht
    | succ t =>
      obtain ⟨u, h1, h2⟩ := cellsSub_spec h t v ht
      refine ⟨u, ?_, h2⟩
      cases y with
      | nil => cases t <;> cases h1
      | cons y l' => exact h1
  | some x :: l, some y :: l', h, t, v, ht => by
    simp only [cellsSub, Bool.and_eq_true] at h
    cases t with
    | zero => cases ht; exact ⟨y, rfl, h.1⟩
    | succ t => exact cellsSub_spec h.2 t v ht
  | some _ :: _, [], h, _, _, _ => by simp [cellsSub] at h
  | some _ :: _, none :: _, h, _, _, _ => by simp [cellsSub] at h

theorem LT.beq_eq : ∀ {t u : LT}, t.beq u = true → t = u
  | .int k, .int k', h => by simp only [LT.beq] at h; rw [kEq_eq h]
  | .bool, .bool, _ => rfl
  | .vec [t], .vec [u], h => by simp only [LT.beq] at h; rw [LT.beq_eq h]
  | .vec [t, t2], .vec [u, u2], h => by simp only [LT.beq, Bool.and_eq_true] at h; rw [LT.beq_eq h.1, LT.beq_eq h.2]
  | .int _, .bool, h => by simp [LT.beq] at h
  | .int _, .vec _, h => by simp [LT.beq] at h
  | .bool, .int _, h => by simp [LT.beq] at h
  | .bool, .vec _, h => by simp [LT.beq] at h
  | .vec _, .int _, h => by simp [LT.beq] at h
  | .vec _, .bool, h => by simp [LT.beq] at h
  | .vec [], .vec _, h => by simp [LT.beq] at h
  | .vec [_], .vec [], h => by simp [LT.beq] at h
  | .vec [_], .vec (_ :: _ :: _), h => by simp [LT.beq] at h
  | .vec [_, _], .vec [], h => by simp [LT.beq] at h
  | .vec [_, _], .vec [_], h => by simp [LT.beq] at h
  | .vec [_, _], .vec (_ :: _ :: _ :: _), h => by simp [LT.beq] at h
  | .vec (_ :: _ :: _ :: _), .vec _, h => by simp [LT.beq] at h
theorem LTs.beq_eq : ∀ {t u : List LT}, LTs.beq t u = true → t = u
  | [], [], _ => rfl
  | t :: l, u :: l', h => by simp only [LTs.beq, Bool.and_eq_true] at h; rw [LT.beq_eq h.1, LTs.beq_eq h.2]
  | [], _ :: _, h => by simp [LTs.beq] at h
  | _ :: _, [], h => by simp [LTs.beq] at h

theorem Blk.sub_spec {m : List Nat} {x y : Blk} (h : x.sub m y = true) : (x.own = true → y.own = true) ∧
    ∀ (ρ : Nat → Loc) (w : World) (r : Loc), BlkRel E ν ρ w r y → BlkRel E ν (fun j => ρ (rnm m j)) w r x := by
  cases x with
  | c o cs =>
    cases y with
    | v => simp [Blk.sub] at h
    | c o' cs' =>
      simp only [Blk.sub, Bool.and_eq_true, Bool.or_eq_true, Bool.not_eq_true'] at h
      obtain ⟨h1, h2⟩ := h
      refine ⟨fun ho => ?_, fun ρ w r hb => ?_⟩
      · rcases h1 with h1 | h1
        · change o = true at ho; rw [h1] at ho; cases ho
        · exact h1.1
      · have hb : CBlk ν ρ w r o' cs' := hb
        refine ⟨hb.nil, hb.lt, fun i l hl => ?_, fun ho i hi => ?_⟩
        · obtain ⟨u, e1, e2⟩ := cellsSub_spec h2 i l hl
          obtain ⟨s1, s2⟩ := Lf.sub_spec (ν := ν) e2
          obtain ⟨g1, g2⟩ := hb.cell i u e1
          exact ⟨s2 g1, by rw [s1 ρ]; exact g2⟩
        · rcases h1 with h1 | h1
          · rw [h1] at ho; cases ho
          · have := Nat.eq_of_beq_eq_true h1.2
            exact hb.own h1.1 i (by omega)
  | v o ts a =>
    cases y with
    | c => simp [Blk.sub] at h
    | v o' ts' a' =>
      simp only [Blk.sub, Bool.and_eq_true, Bool.or_eq_true, Bool.not_eq_true'] at h
      obtain ⟨⟨h1, h2⟩, h3⟩ := h
      have := LTs.beq_eq h2; subst this
      have ha : a.cells ν = a'.cells ν := by simp [A.cells, A.beq_den h3 ν]
      refine ⟨fun ho => ?_, fun ρ w r hb => ?_⟩
      · rcases h1 with h1 | h1
        · change o = true at ho; rw [h1] at ho; cases ho
        · exact h1
      · have hb : VRel E w r o' ts (a'.cells ν) := hb
        show VRel E w r o ts (a.cells ν)
        rw [ha]
        refine ⟨hb.nil, hb.lt, hb.pos, hb.len, hb.cap, hb.cell, fun ho => ?_⟩
        rcases h1 with h1 | h1
        · rw [h1] at ho; cases ho
        · exact hb.own h1

theorem heapSub_spec {m : List Nat} {hp : List (Option Blk)} : ∀ {x : List (Option Blk)} {j : Nat}, heapSub m hp j x = true → ∀ i bk, nth x i = some bk → ∃ bk', nth hp (rnm m (j + i)) = some bk' ∧ bk.sub m bk' = true
  | [], j, _, i, bk, h => by cases i <;> cases h
  | none :: l, j, hs, i, bk, h => by
    simp only [heapSub] at hs
    cases i with
    | zero => cases h
    | succ i =>
      have := heapSub_spec hs i bk h
      rwa [show j + 1 + i = j + (i + 1) from by omega] at this
  | some x :: l, j, hs, i, bk, h => by
    simp only [heapSub, Bool.and_eq_true] at hs
    cases i with
    | zero =>
      cases h
      cases hn : nth hp (rnm m j) with
      | none => rw [hn] at hs; cases hs.1
      | some y =>
        rw [hn] at hs
        exact ⟨y, rfl, hs.1⟩
    | succ i =>
      have := heapSub_spec hs.2 i bk h
      rwa [show j + 1 + i = j + (i + 1) from by omega] at this

theorem onlyAt_spec {m : List Nat} {i b : Nat} : ∀ {x : List (Option Blk)} {j : Nat}, onlyAt m i b j x = true → ∀ k bk, nth x k = some bk → j + k ≠ i → rnm m (j + k) ≠ b
  | [], j, _, k, bk, h, _ => by cases k <;> cases h
  | none :: l, j, hs, k, bk, h, hne => by
    simp only [onlyAt] at hs
    cases k with
    | zero => cases h
    | succ k =>
      have := onlyAt_spec hs k bk h (by omega)
      rwa [show j + 1 + k = j + (k + 1) from by omega] at this
  | some x :: l, j, hs, k, bk, h, hne => by
    simp only [onlyAt, Bool.and_eq_true, Bool.or_eq_true, Bool.not_eq_true'] at hs
    cases k with
    | zero =>
      rcases hs.1 with h1 | h1
      · exact absurd (Nat.eq_of_beq_eq_true h1) hne
      · intro e
        rw [Nat.add_zero] at e
        rw [e, Nat.beq_refl] at h1
        cases h1
    | succ k =>
      have := onlyAt_spec hs.2 k bk h (by omega)
      rwa [show j + 1 + k = j + (k + 1) from by omega] at this

theorem apartB_spec {m : List Nat} {all : List (Option Blk)} : ∀ {x : List (Option Blk)} {j : Nat}, apartB m all j x = true → ∀ i bk, nth x i = some bk → bk.own = true → onlyAt m (j + i) (rnm m (j + i)) 0 all = true
  | [], j, _, i, bk, h, _ => by cases i <;> cases h
  | none :: l, j, hs, i, bk, h, ho => by
    simp only [apartB] at hs
    cases i with
    | zero => cases h
    | succ i =>
      have := apartB_spec hs i bk h ho
      rwa [show j + 1 + i = j + (i + 1) from by omega] at this
  | some x :: l, j, hs, i, bk, h, ho => by
    simp only [apartB, Bool.and_eq_true, Bool.or_eq_true, Bool.not_eq_true'] at hs
    cases i with
    | zero =>
      cases h
      rcases hs.1 with h1 | h1
      · rw [ho] at h1; cases h1
      · exact h1
    | succ i =>
      have := apartB_spec hs.2 i bk h ho
      rwa [show j + 1 + i = j + (i + 1) from by omega] at this

theorem keeps_spec {m : List Nat} : ∀ {n : Nat}, keeps m n = true → ∀ j, j < n → rnm m j = j
  | 0, _, j, h => by omega
  | n + 1, hk, j, h => by
    simp only [keeps, Bool.and_eq_true] at hk
    rcases Nat.lt_or_ge j n with h1 | h1
    · exact keeps_spec hk.1 j h1
    · have : j = n := by omega
      subst this
      exact Nat.eq_of_beq_eq_true hk.2

theorem HRel.sub {ρ : Nat → Loc} {m : List Nat} {x y : List (Option Blk)} {w : World} (h : HRel E ν ρ y w) (h1 : heapSub m y 0 x = true) (h2 : apartB m x 0 x = true) : HRel E ν (fun j => ρ (rnm m j)) x w := by
  refine ⟨fun j bk hj => ?_, fun j j' bk bk' hj ho hj' hne => ?_⟩
  · obtain ⟨bk', e1, e2⟩ := heapSub_spec h1 j bk hj
    rw [Nat.zero_add] at e1
    exact (Blk.sub_spec e2).2 ρ w _ (h.blk _ _ e1)
  · obtain ⟨b1, e1, e2⟩ := heapSub_spec h1 j bk hj
    obtain ⟨b2, e3, e4⟩ := heapSub_spec h1 j' bk' hj'
    rw [Nat.zero_add] at e1 e3
    have h3 := apartB_spec h2 j bk hj ho
    have h4 := onlyAt_spec h3 j' bk' hj' (by omega)
    rw [Nat.zero_add, Nat.zero_add] at h4
    exact h.apart _ _ _ _ e1 ((Blk.sub_spec (E := E) (ν := ν) e2).1 ho) e3 (Ne.symm h4)
theorem OldF.sub {W V : Nat → Prop} {w0 : World} {ρ : Nat → Loc} {m : List Nat} {x y : List (Option Blk)} (h : OldF W V w0 ρ y) (h1 : heapSub m y 0 x = true) : OldF W V w0 (fun j => ρ (rnm m j)) x := by
  intro j bk hj
  obtain ⟨b1, e1, e2⟩ := heapSub_spec h1 j bk hj
  rw [Nat.zero_add] at e1
  rcases h _ _ e1 with h | h | h | h
  · exact .inl h
  · exact .inr (.inl h)
  · exact .inr (.inr (.inl h))
  · refine .inr (.inr (.inr ⟨?_, h.2⟩))
    cases ho : bk.own with
    | false => rfl
    | true =>
      have := (Blk.sub_spec (E := ⟨W, V, w0, 0, ρ⟩) (ν := fun _ => default) e2).1 ho
      rw [h.1] at this; cases this

theorem RR.sub {ρ : Nat → Loc} {m : List Nat} {x y : St} {a : Act} {w : World} (h : RR ν E ρ ⟨y, []⟩ a w) (hs : x.sub m y = true) (hk : keeps m E.n0 = true) (hl : E.n0 ≤ x.hp.length) :
    RR ν E (fun j => ρ (rnm m j)) ⟨x, []⟩ a w := by
  simp only [St.sub, Bool.and_eq_true] at hs
  obtain ⟨⟨h1, h2⟩, h3⟩ := hs
  obtain ⟨s1, s2⟩ := slotsSub_spec h1
  refine ⟨⟨h.act.defers, by rw [h.act.size]; exact s1.symm, fun t v ht => ?_, fun e he => by cases he⟩, h.hs.heap.sub h2 h3, h.hs.old.sub h2, h.hs.fr, hl, fun j hj => ?_⟩
  · obtain ⟨u, e1, e2⟩ := s2 t v ht
    obtain ⟨c1, c2⟩ := V.sub_spec (ν := ν) e2
    obtain ⟨g1, g2⟩ := h.act.slot t u e1
    exact ⟨c2 g1, by rw [c1 ρ]; exact g2⟩
  · rw [keeps_spec hk j hj]; exact h.hs.keep j hj
end
end Go.Sx

namespace Go.Sx
open Go.RowKit
section
variable {P : Program} {I : World → Prop} {S : Sigs} {F : FEnv} {E : Env} {ν ν1 ν2 : Nat → DV}

theorem nth_map {α β : Type} (f : α → β) : ∀ (l : List (Option α)) (j : Nat), nth (l.map (Option.map f)) j = (nth l j).map f
  | [], j => by cases j <;> rfl
  | x :: l, 0 => by simp [nth]
  | x :: l, j + 1 => by simp only [List.map_cons, nth]; exact nth_map f l j

theorem all_nth_of {α : Type} {q : α → Bool} : ∀ {l : List (Option α)} {i : Nat} {x : α}, l.all (optAll q) = true → nth l i = some x → q x = true
  | [], i, x, _, h => by cases i <;> cases h
  | c :: l, 0, x, h, hx => by
    simp only [List.all_cons, Bool.and_eq_true] at h
    cases hx
    exact h.1
  | c :: l, i + 1, x, h, hx => by
    simp only [List.all_cons, Bool.and_eq_true] at h
    exact all_nth_of h.2 hx

theorem Ty.beq_eq {t u : Ty} (h : t.beq u = true) : t = u := by cases t <;> cases u <;> simp [Ty.beq] at h <;> rfl
theorem Ty.eqAt_refl (t : Ty) (d : DV) : t.eqAt d d := by cases t <;> rfl
theorem Ty.eqAt_of {t : Ty} {d e : DV} (h : d = e) : t.eqAt d e := h ▸ t.eqAt_refl d
theorem Ty.eqAt_trans {t : Ty} {d e f : DV} (h : t.eqAt d e) (k : t.eqAt e f) : t.eqAt d f := by cases t <;> exact Eq.trans h k
theorem Ty.eqAt_symm {t : Ty} {d e : DV} (h : t.eqAt d e) : t.eqAt e d := by cases t <;> exact Eq.symm h

def PEq (ν1 ν2 : Nat → DV) : List Ty → List A → List A → Prop
  | t :: ts, a :: as, b :: bs => t.eqAt (a.den ν1) (b.den ν2) ∧ PEq ν1 ν2 ts as bs
  | [], [], [] => True
  | _, _, _ => False

theorem PEq.at : ∀ {ts : List Ty} {as bs : List A} {j : Nat} {t : Ty}, PEq ν1 ν2 ts as bs → ts[j]? = some t → t.eqAt ((as.getD j default).den ν1) ((bs.getD j default).den ν2)
  | _ :: _, _ :: _, _ :: _, 0, t, h, e => by simp at e; subst e; exact h.1
  | _ :: ts, _ :: as, _ :: bs, j + 1, t, h, e => by
    have := PEq.at (j := j) h.2 (by simpa using e)
    simpa using this
  | [], _, _, j, t, _, e => by simp at e
  | _ :: _, [], _, _, _, h, _ => by exact h.elim
  | _ :: _, _ :: _, [], _, _, h, _ => by exact h.elim
theorem PEq.of_den : ∀ {ts : List Ty} {as bs : List A}, as.length = ts.length → as.map (A.den ν1) = bs.map (A.den ν2) → PEq ν1 ν2 ts as bs
  | [], [], [], _, _ => trivial
  | t :: ts, a :: as, b :: bs, hl, h => by
    simp only [List.map_cons, List.cons.injEq] at h
    exact ⟨Ty.eqAt_of h.1, PEq.of_den (by simpa using hl) h.2⟩
  | [], [], _ :: _, _, h => by simp at h
  | _ :: _, _ :: _, [], _, h => by simp at h
  | [], _ :: _, _, h, _ => by simp at h
  | _ :: _, [], _, h, _ => by simp at h

section
variable {p : A → Bool} {tys : List Ty} {as bs : List A} (hp : ∀ a, p a = true → a.den ν1 = a.den ν2) (h : PEq ν1 ν2 tys as bs)
include hp h

theorem A.inst_to {t : Ty} {a : A} (ha : a.tyOk p tys t = true) : t.eqAt ((a.inst as).den ν1) ((a.inst bs).den ν2) := by
  cases a with
  | h j =>
    simp only [A.tyOk, Bool.and_eq_true, decide_eq_true_eq] at ha
    obtain ⟨h1, h2⟩ := ha
    rw [List.getElem?_eq_getElem h2] at h1
    have := Ty.beq_eq (show t.beq tys[j] = true from h1)
    exact h.at (by rw [this]; exact List.getElem?_eq_getElem h2)
  | r i => exact Ty.eqAt_of (hp _ ha)
  | z n => exact Ty.eqAt_of (hp _ ha)
  | t b => exact Ty.eqAt_of (hp _ ha)
theorem A.inst_int {a : A} (ha : a.tyOk p tys .i = true) : (a.inst bs).int ν2 = (a.inst as).int ν1 := (A.inst_to hp h ha).symm
theorem A.inst_bool {a : A} (ha : a.tyOk p tys .b = true) : (a.inst bs).bool ν2 = (a.inst as).bool ν1 := (A.inst_to hp h ha).symm
theorem A.inst_cells {a : A} (ha : a.tyOk p tys .l = true) : (a.inst bs).cells ν2 = (a.inst as).cells ν1 := (A.inst_to hp h ha).symm

theorem Off.inst_to {o : Off} (ho : o.tyOk p tys = true) : (o.inst bs).val ν2 = (o.inst as).val ν1 ∧ ((o.inst as).good ν1 → (o.inst bs).good ν2) := by
  cases o with
  | c n => exact ⟨rfl, id⟩
  | s b ix sz len =>
    have e := A.inst_int hp h (show ix.tyOk p tys .i = true from ho)
    exact ⟨by simp only [Off.inst, Off.val, e], by simp only [Off.inst, Off.good, e]; exact id⟩
  | v b ix sz a =>
    simp only [Off.tyOk, Bool.and_eq_true] at ho
    have e := A.inst_int hp h ho.1
    have e2 := A.inst_cells hp h ho.2
    exact ⟨by simp only [Off.inst, Off.val, e], by simp only [Off.inst, Off.good, e, e2]; exact id⟩
  | d b ix sz len ix2 sz2 len2 =>
    simp only [Off.tyOk, Bool.and_eq_true] at ho
    have e := A.inst_int hp h ho.1
    have e2 := A.inst_int hp h ho.2
    exact ⟨by simp only [Off.inst, Off.val, e, e2], by simp only [Off.inst, Off.good, e, e2]; exact id⟩

theorem Lf.inst_to {l : Lf} (hl : l.tyOk p tys = true) : (∀ ρ, (l.inst bs).conc ν2 ρ = (l.inst as).conc ν1 ρ) ∧ ((l.inst as).good ν1 → (l.inst bs).good ν2) := by
  cases l with
  | i k a => exact ⟨fun ρ => by simp only [Lf.inst, Lf.conc, A.inst_int hp h (show a.tyOk p tys .i = true from hl)], fun _ => trivial⟩
  | b a => exact ⟨fun ρ => by simp only [Lf.inst, Lf.conc, A.inst_bool hp h (show a.tyOk p tys .b = true from hl)], fun _ => trivial⟩
  | p blk off =>
    obtain ⟨e1, e2⟩ := Off.inst_to hp h (show off.tyOk p tys = true from hl)
    exact ⟨fun ρ => by simp only [Lf.inst, Lf.conc, e1], e2⟩
  | gp g off =>
    obtain ⟨e1, e2⟩ := Off.inst_to hp h (show off.tyOk p tys = true from hl)
    exact ⟨fun ρ => by simp only [Lf.inst, Lf.conc, e1], e2⟩
  | nilp => exact ⟨fun _ => rfl, id⟩
  | vec b => exact ⟨fun _ => rfl, id⟩
  | fnp f bs => exact ⟨fun _ => rfl, id⟩
  | v x => exact ⟨fun _ => rfl, id⟩

theorem Lfs.inst_to : ∀ {l : List Lf}, l.all (Lf.tyOk p tys) = true → (∀ ρ, (l.map (Lf.inst bs)).map (Lf.conc ν2 ρ) = (l.map (Lf.inst as)).map (Lf.conc ν1 ρ)) ∧ ((∀ x ∈ l.map (Lf.inst as), Lf.good ν1 x) → ∀ x ∈ l.map (Lf.inst bs), Lf.good ν2 x)
  | [], _ => ⟨fun _ => rfl, fun _ x hx => by cases hx⟩
  | x :: l, hl => by
    simp only [List.all_cons, Bool.and_eq_true] at hl
    obtain ⟨h1, h2⟩ := Lf.inst_to hp h hl.1
    obtain ⟨h3, h4⟩ := Lfs.inst_to hl.2
    refine ⟨fun ρ => by simp only [List.map_cons, h1 ρ, h3 ρ], fun hg z hz => ?_⟩
    simp only [List.map_cons] at hg hz
    rcases List.mem_cons.1 hz with rfl | hz
    · exact h2 (hg _ (by simp))
    · exact h4 (fun u hu => hg u (List.mem_cons_of_mem _ hu)) z hz

theorem V1.inst_to {v : V1} (hv : v.tyOk p tys = true) : (∀ ρ, (v.inst bs).conc ν2 ρ = (v.inst as).conc ν1 ρ) ∧ ((v.inst as).good ν1 → (v.inst bs).good ν2) := by
  cases v with
  | one l =>
    obtain ⟨h1, h2⟩ := Lf.inst_to hp h (l := l) (by simpa [V1.tyOk, V1.cells] using hv)
    exact ⟨fun ρ => h1 ρ, fun g => V1.good_one.2 (h2 (V1.good_one.1 g))⟩
  | agg l =>
    obtain ⟨h1, h2⟩ := Lfs.inst_to hp h (l := l) hv
    exact ⟨fun ρ => by simp only [V1.inst, V1.conc, h1 ρ], fun g => V1.good_agg.2 (h2 (V1.good_agg.1 g))⟩
theorem V1s.inst_to : ∀ {l : List V1}, l.all (V1.tyOk p tys) = true → (∀ ρ, (l.map (V1.inst bs)).map (V1.conc ν2 ρ) = (l.map (V1.inst as)).map (V1.conc ν1 ρ)) ∧ ((∀ x ∈ l.map (V1.inst as), V1.good ν1 x) → ∀ x ∈ l.map (V1.inst bs), V1.good ν2 x)
  | [], _ => ⟨fun _ => rfl, fun _ x hx => by cases hx⟩
  | x :: l, hl => by
    simp only [List.all_cons, Bool.and_eq_true] at hl
    obtain ⟨h1, h2⟩ := V1.inst_to hp h hl.1
    obtain ⟨h3, h4⟩ := V1s.inst_to hl.2
    refine ⟨fun ρ => by simp only [List.map_cons, h1 ρ, h3 ρ], fun hg z hz => ?_⟩
    simp only [List.map_cons] at hg hz
    rcases List.mem_cons.1 hz with rfl | hz
    · exact h2 (hg _ (by simp))
    · exact h4 (fun u hu => hg u (List.mem_cons_of_mem _ hu)) z hz
theorem V.inst_to {v : V} (hv : v.tyOk p tys = true) : (∀ ρ, (v.inst bs).conc ν2 ρ = (v.inst as).conc ν1 ρ) ∧ ((v.inst as).good ν1 → (v.inst bs).good ν2) := by
  cases v with
  | s v => exact V1.inst_to hp h (v := v) hv
  | t l =>
    obtain ⟨h1, h2⟩ := V1s.inst_to hp h (l := l) hv
    exact ⟨fun ρ => by simp only [V.inst, V.conc, h1 ρ], fun g => h2 g⟩

theorem Blk.inst_to {bk : Blk} (hb : bk.tyOk p tys = true) {ρ : Nat → Loc} {w : World} {r : Loc} (hr : BlkRel E ν1 ρ w r (bk.inst as)) : BlkRel E ν2 ρ w r (bk.inst bs) := by
  cases bk with
  | c o cs =>
    have hr : CBlk ν1 ρ w r o (cs.map (Option.map (Lf.inst as))) := hr
    refine (⟨hr.nil, hr.lt, fun i l hl => ?_, fun ho i hi => hr.own ho i (by simpa using hi)⟩ : CBlk ν2 ρ w r o (cs.map (Option.map (Lf.inst bs))))
    rw [nth_map] at hl
    obtain ⟨x, hx, rfl⟩ := Option.map_eq_some_iff.1 hl
    have hall : cs.all (optAll (Lf.tyOk p tys)) = true := hb
    have hx2 : x.tyOk p tys = true := all_nth_of hall hx
    obtain ⟨h1, h2⟩ := Lf.inst_to hp h hx2
    obtain ⟨g1, g2⟩ := hr.cell i (x.inst as) (by rw [nth_map, hx]; rfl)
    exact ⟨h2 g1, by rw [h1 ρ]; exact g2⟩
  | v o ts a =>
    have hr : VRel E w r o ts ((a.inst as).cells ν1) := hr
    show VRel E w r o ts ((a.inst bs).cells ν2)
    rw [A.inst_cells hp h (show a.tyOk p tys .l = true from hb)]
    exact hr
end

theorem Blk.inst_own (ops : List A) (bk : Blk) : (bk.inst ops).own = bk.own := by cases bk <;> rfl
section
variable {p : A → Bool} {tys : List Ty} {as bs : List A} (hp : ∀ a, p a = true → a.den ν1 = a.den ν2) (h : PEq ν1 ν2 tys as bs)
include hp h
theorem HRel.inst {ρ : Nat → Loc} {hp0 : List (Option Blk)} {w : World} (ht : hp0.all (optAll (Blk.tyOk p tys)) = true) (hr : HRel E ν1 ρ (hp0.map (Option.map (Blk.inst as))) w) :
    HRel E ν2 ρ (hp0.map (Option.map (Blk.inst bs))) w := by
  refine ⟨fun j bk hj => ?_, fun j j' bk bk' hj ho hj' => ?_⟩
  · rw [nth_map] at hj
    obtain ⟨x, hx, rfl⟩ := Option.map_eq_some_iff.1 hj
    exact Blk.inst_to hp h (all_nth_of ht hx) (hr.blk j (x.inst as) (by rw [nth_map, hx]; rfl))
  · rw [nth_map] at hj hj'
    obtain ⟨x, hx, rfl⟩ := Option.map_eq_some_iff.1 hj
    obtain ⟨y, hy, rfl⟩ := Option.map_eq_some_iff.1 hj'
    exact hr.apart j j' (x.inst as) (y.inst as) (by rw [nth_map, hx]; rfl) (by rw [Blk.inst_own] at ho ⊢; exact ho) (by rw [nth_map, hy]; rfl)
omit hp h in
theorem OldF.inst {W V : Nat → Prop} {w0 : World} {ρ : Nat → Loc} {hp0 : List (Option Blk)} (ho : OldF W V w0 ρ (hp0.map (Option.map (Blk.inst as)))) : OldF W V w0 ρ (hp0.map (Option.map (Blk.inst bs))) := by
  intro j bk hj
  rw [nth_map] at hj
  obtain ⟨x, hx, rfl⟩ := Option.map_eq_some_iff.1 hj
  have := ho j (x.inst as) (by rw [nth_map, hx]; rfl)
  rw [Blk.inst_own] at this ⊢
  exact this

theorem RR.inst {ρ : Nat → Loc} {s : St} {a : Act} {w : World} (ht : s.tyOk p tys = true) (hr : RR ν1 E ρ ⟨s.inst as, []⟩ a w) : RR ν2 E ρ ⟨s.inst bs, []⟩ a w := by
  simp only [St.tyOk, Bool.and_eq_true] at ht
  refine ⟨⟨hr.act.defers, by rw [hr.act.size]; simp [St.inst], fun t v ht1 => ?_, fun e he => by cases he⟩, hr.hs.heap.inst hp h ht.2, OldF.inst hr.hs.old, hr.hs.fr, by simpa [St.inst] using hr.hs.len, hr.hs.keep⟩
  simp only [St.inst] at ht1
  rw [nth_map] at ht1
  obtain ⟨x, hx, rfl⟩ := Option.map_eq_some_iff.1 ht1
  obtain ⟨h1, h2⟩ := V.inst_to hp h (all_nth_of ht.1 hx)
  obtain ⟨g1, g2⟩ := hr.act.slot t (x.inst as) (by simp only [St.inst]; rw [nth_map, hx]; rfl)
  exact ⟨h2 g1, by rw [h1 ρ]; exact g2⟩
end
end
end Go.Sx

namespace Go.Sx
open Go.RowKit
section
variable {P : Program} {I : World → Prop} {S : Sigs} {F : FEnv} {E : Env} {ν : Nat → DV}

theorem callOuts_sat {ν : Nat → DV} {fid : Nat} {args : List A} : ∀ (n j : Nat), M.sat F ν (callOuts fid args j n) (fun l => l.length = n ∧ ∀ i a, l[i]? = some a → a.den ν = (F fid (args.map (A.den ν))).getD (j + i) default)
  | 0, j => sat_pure ⟨rfl, fun i a h => by simp at h⟩
  | n + 1, j => by
    unfold callOuts
    refine sat_bind (sat_emit (Q := fun r => r.den ν = (F fid (args.map (A.den ν))).getD j default) fun r h => h) fun a ha => ?_
    refine sat_bind (callOuts_sat n (j + 1)) fun l hl => sat_pure ⟨by simp [hl.1], fun i b hb => ?_⟩
    cases i with
    | zero => simp at hb; subst hb; exact ha
    | succ i =>
      have := hl.2 i b (by simpa using hb)
      rw [this, show j + 1 + i = j + (i + 1) from by omega]

theorem idsFrom_den {ν : Nat → DV} (g : Nat → DV) : ∀ (k n j : Nat), (∀ i, i < k → ν (n + i) = g (j + i)) → (idsFrom n k).map (A.den ν) = (List.range' j k).map g
  | 0, _, _, _ => rfl
  | k + 1, n, j, h => by
    rw [List.range'_succ]
    simp only [idsFrom, List.map_cons]
    rw [idsFrom_den g k (n + 1) (j + 1) (fun i hi => by have := h (i + 1) (by omega); rwa [show n + (i + 1) = n + 1 + i from by omega, show j + (i + 1) = j + 1 + i from by omega] at this)]
    have := h 0 (by omega)
    simp only [Nat.add_zero] at this
    rw [show A.den ν (.r n) = ν n from rfl, this]
theorem range_getD (xs : List DV) (k : Nat) (h : xs.length = k) : (List.range' 0 k).map (fun i => xs.getD i default) = xs := by
  apply List.ext_getElem?
  intro i
  by_cases hi : i < k
  · rw [List.getElem?_map, List.getElem?_range' (by omega)]
    simp [List.getElem?_eq_getElem (show i < xs.length from by omega)]
  · rw [List.getElem?_eq_none (by simpa using hi), List.getElem?_eq_none (by omega)]
theorem ids_dget (xs : List DV) : (idsFrom 0 xs.length).map (A.den (dget xs)) = xs := by
  rw [idsFrom_den (dget xs) xs.length 0 0 (fun _ _ => rfl)]
  exact range_getD xs _ rfl
theorem idsFrom_len : ∀ (n k : Nat), (idsFrom n k).length = k
  | _, 0 => rfl
  | n, k + 1 => by simp [idsFrom, idsFrom_len (n + 1) k]
theorem const_den {ν1 ν2 : Nat → DV} (a : A) (h : a.const = true) : a.den ν1 = a.den ν2 := by cases a <;> simp [A.const] at h <;> rfl
theorem guess_len (n : Nat) (p s : St) : (guess n p s).1.length = n := by simp [guess, holesOf]

theorem Lf.ren_spec {m : List Nat} {n : Nat} {ρ ρ' : Nat → Loc} (h : ∀ k, k < n → ρ' (rnm m k) = ρ k) {l : Lf} (hl : l.lt n = true) : (l.ren m).conc ν ρ' = l.conc ν ρ ∧ (l.good ν → (l.ren m).good ν) := by
  cases l <;> simp only [Lf.lt, decide_eq_true_eq] at hl <;> simp only [Lf.ren] <;> first | exact ⟨rfl, id⟩ | skip
  · exact ⟨by simp only [Lf.conc, h _ hl], id⟩
  · exact ⟨by simp only [Lf.conc, h _ hl], id⟩
  · rename_i f bs
    refine ⟨?_, fun _ => trivial⟩
    simp only [Lf.conc]
    rw [← capsConc_map, capsConc_lt hl h]
theorem V1.ren_spec {m : List Nat} {n : Nat} {ρ ρ' : Nat → Loc} (h : ∀ k, k < n → ρ' (rnm m k) = ρ k) {v : V1} (hl : v.lt n = true) : (v.ren m).conc ν ρ' = v.conc ν ρ ∧ (v.good ν → (v.ren m).good ν) := by
  cases v with
  | one l =>
    obtain ⟨h1, h2⟩ := Lf.ren_spec (ν := ν) h (l := l) (by simpa [V1.lt, V1.cells] using hl)
    exact ⟨h1, fun g => V1.good_one.2 (h2 (V1.good_one.1 g))⟩
  | agg l =>
    have hall : l.all (Lf.lt n) = true := hl
    refine ⟨?_, fun g => V1.good_agg.2 fun x hx => ?_⟩
    · simp only [V1.ren, V1.conc, List.map_map]
      congr 2
      exact List.map_congr_left fun x hx => (Lf.ren_spec h (List.all_eq_true.1 hall x hx)).1
    · obtain ⟨y, hy, rfl⟩ := List.mem_map.1 hx
      exact (Lf.ren_spec h (List.all_eq_true.1 hall y hy)).2 (V1.good_agg.1 g y hy)
theorem V.ren_spec {m : List Nat} {n : Nat} {ρ ρ' : Nat → Loc} (h : ∀ k, k < n → ρ' (rnm m k) = ρ k) {v : V} (hl : v.lt n = true) : (v.ren m).conc ν ρ' = v.conc ν ρ ∧ (v.good ν → (v.ren m).good ν) := by
  cases v with
  | s v => exact V1.ren_spec h (v := v) hl
  | t l =>
    have hall : l.all (V1.lt n) = true := hl
    refine ⟨?_, fun g x hx => ?_⟩
    · simp only [V.ren, V.conc, List.map_map]
      congr 2
      exact List.map_congr_left fun x hx => (V1.ren_spec h (List.all_eq_true.1 hall x hx)).1
    · obtain ⟨y, hy, rfl⟩ := List.mem_map.1 hx
      exact (V1.ren_spec h (List.all_eq_true.1 hall y hy)).2 (g y hy)
theorem Blk.ren_own (m : List Nat) (b : Blk) : (b.ren m).own = b.own := by cases b <;> rfl
theorem CRel.flat {E E' : Env} {t : LT} {d : DV} {v : Value} (ht : t.flat = true) (h : CRel E t d v) : CRel E' t d v := by
  cases h with
  | int k => exact .int k d
  | bool => exact .bool d
  | vec => cases ht
theorem getD_flat {ts : List LT} (h : ts.all LT.flat = true) (i : Nat) : (ts.getD i .bool).flat = true := by
  rw [List.getD_eq_getElem?_getD]
  cases hi : ts[i]? with
  | none => rfl
  | some t => exact List.all_eq_true.1 h t (List.mem_of_getElem? hi)
theorem BlkRel.flat {E E' : Env} {ρ : Nat → Loc} {w : World} {r : Loc} {b : Blk} (hf : b.flat = true) (h : BlkRel E ν ρ w r b) : BlkRel E' ν ρ w r b := by
  cases b with
  | c o cs => exact h
  | v o ts a =>
    have h : VRel E w r o ts (a.cells ν) := h
    exact ⟨h.nil, h.lt, h.pos, h.len, h.cap, fun i hi => let ⟨v, h1, h2⟩ := h.cell i hi; ⟨v, h1, h2.flat (getD_flat hf _)⟩, h.own⟩
theorem BlkRel.ren {ρ ρ' : Nat → Loc} {m : List Nat} {n : Nat} (hρ : ∀ k, k < n → ρ' (rnm m k) = ρ k) {w : World} {r : Loc} {b : Blk} (hl : b.lt n = true) (h : BlkRel E ν ρ w r b) : BlkRel E ν ρ' w r (b.ren m) := by
  cases b with
  | v o ts a => exact h
  | c o cs =>
    have h : CBlk ν ρ w r o cs := h
    refine (⟨h.nil, h.lt, fun i l hi => ?_, fun ho i hi => h.own ho i (by simpa using hi)⟩ : CBlk ν ρ' w r o (cs.map (Option.map (Lf.ren m))))
    rw [nth_map] at hi
    obtain ⟨x, hx, rfl⟩ := Option.map_eq_some_iff.1 hi
    obtain ⟨g1, g2⟩ := h.cell i x hx
    have hall : cs.all (optAll (Lf.lt n)) = true := hl
    obtain ⟨e1, e2⟩ := Lf.ren_spec (ν := ν) hρ (all_nth_of hall hx)
    exact ⟨e2 g1, by rw [e1]; exact g2⟩
theorem BlkRel.keep {ρ ρ' : Nat → Loc} {n : Nat} (hρ : ∀ k, k < n → ρ' k = ρ k) {w : World} {r : Loc} {b : Blk} (hl : b.lt n = true) (h : BlkRel E ν ρ w r b) : BlkRel E ν ρ' w r b := by
  cases b with
  | v o ts a => exact h
  | c o cs =>
    have h : CBlk ν ρ w r o cs := h
    refine (⟨h.nil, h.lt, fun i l hi => ?_, h.own⟩ : CBlk ν ρ' w r o cs)
    obtain ⟨g1, g2⟩ := h.cell i l hi
    refine ⟨g1, ?_⟩
    have hall : cs.all (optAll (Lf.lt n)) = true := hl
    have hll := all_nth_of hall hi
    rw [g2]
    congr 1
    cases l <;> simp only [Lf.lt, decide_eq_true_eq] at hll <;> simp only [Lf.conc] <;> first | rw [hρ _ hll] | rw [capsConc_lt hll hρ]
theorem BlkRel.froze {ρ : Nat → Loc} {w : World} {r : Loc} {b : Blk} (h : BlkRel E ν ρ w r b) : BlkRel E ν ρ w r b.froze := by
  cases b with
  | c o cs =>
    have h : CBlk ν ρ w r o cs := h
    exact ⟨h.nil, h.lt, h.cell, fun h => by cases h⟩
  | v o ts a =>
    have h : VRel E w r o ts (a.cells ν) := h
    exact ⟨h.nil, h.lt, h.pos, h.len, h.cap, h.cell, fun h => by cases h⟩
theorem Blk.froze_own (b : Blk) : b.froze.own = false := by cases b <;> rfl

def Wk (bk b : Blk) : Prop := bk = b ∨ bk = b.froze
theorem Blk.froze_froze (b : Blk) : b.froze.froze = b.froze := by cases b <;> rfl
theorem Wk.trans_froze {bk b : Blk} (h : Wk bk b.froze) : bk = b.froze := by
  rcases h with h | h
  · exact h
  · rw [h, Blk.froze_froze]
theorem Wk.own {bk b : Blk} (h : Wk bk b) (ho : bk.own = true) : b.own = true ∧ bk = b := by
  rcases h with rfl | rfl
  · exact ⟨ho, rfl⟩
  · rw [Blk.froze_own] at ho; cases ho
theorem Wk.rel {ρ : Nat → Loc} {w : World} {r : Loc} {bk b : Blk} (h : Wk bk b) (hb : BlkRel E ν ρ w r b) : BlkRel E ν ρ w r bk := by
  rcases h with rfl | rfl
  · exact hb
  · exact hb.froze

theorem putBack_spec {hin hout : List (Option Blk)} {m m1 : List Nat} {dem : Bool} : ∀ (k j : Nat) (hp : List (Option Blk)),
    (putBack hin hout m m1 dem k j hp).length = hp.length ∧ ∀ i bk, nth (putBack hin hout m m1 dem k j hp) i = some bk →
      (∃ j' x y, j ≤ j' ∧ j' < j + k ∧ nth hin j' = some x ∧ x.own = true ∧ i = rnm m j' ∧ stays hin j' = true ∧ nth hout j' = some y ∧ Wk bk (y.ren m1)) ∨
      (∃ b0, nth hp i = some b0 ∧ Wk bk b0 ∧ (∀ j' x, j ≤ j' → j' < j + k → nth hin j' = some x → x.own = true → i ≠ rnm m j') ∧
        (dem = true → bk.own = true → ∀ j' x, j ≤ j' → j' < j + k → nth hin j' = some x → i ≠ rnm m j'))
  | 0, j, hp => ⟨rfl, fun i bk h => .inr ⟨bk, h, .inl rfl, fun j' x h1 h2 => by omega, fun _ _ j' x h1 h2 => by omega⟩⟩
  | k + 1, j, hp => by
    have close : ∀ (hp1 : List (Option Blk)), hp1.length = hp.length → (∀ i b1, nth hp1 i = some b1 →
        (∃ x y, nth hin j = some x ∧ x.own = true ∧ i = rnm m j ∧ stays hin j = true ∧ nth hout j = some y ∧ Wk b1 (y.ren m1)) ∨
        (∃ b0, nth hp i = some b0 ∧ Wk b1 b0 ∧ (∀ x, nth hin j = some x → x.own = true → i ≠ rnm m j) ∧ (dem = true → b1.own = true → ∀ x, nth hin j = some x → i ≠ rnm m j))) →
        (putBack hin hout m m1 dem k (j + 1) hp1).length = hp.length ∧ ∀ i bk, nth (putBack hin hout m m1 dem k (j + 1) hp1) i = some bk →
      (∃ j' x y, j ≤ j' ∧ j' < j + (k + 1) ∧ nth hin j' = some x ∧ x.own = true ∧ i = rnm m j' ∧ stays hin j' = true ∧ nth hout j' = some y ∧ Wk bk (y.ren m1)) ∨
      (∃ b0, nth hp i = some b0 ∧ Wk bk b0 ∧ (∀ j' x, j ≤ j' → j' < j + (k + 1) → nth hin j' = some x → x.own = true → i ≠ rnm m j') ∧
        (dem = true → bk.own = true → ∀ j' x, j ≤ j' → j' < j + (k + 1) → nth hin j' = some x → i ≠ rnm m j')) := by
      intro hp1 hl h1
      obtain ⟨e1, e2⟩ := putBack_spec k (j + 1) hp1
      refine ⟨e1.trans hl, fun i bk hb => ?_⟩
      have wkt : ∀ {a b c : Blk}, Wk a b → Wk b c → Wk a c := fun {a b c} h k => by
        rcases k with rfl | rfl
        · exact h
        · exact .inr h.trans_froze
      rcases e2 i bk hb with ⟨j', x, y, a1, a2, a3⟩ | ⟨b1, c1, c2, c3, c4⟩
      · exact .inl ⟨j', x, y, by omega, by omega, a3⟩
      · rcases h1 i b1 c1 with ⟨x, y, d1, d2, d3, d4, d5, d6⟩ | ⟨b0, d1, d2, d3, d4⟩
        · exact .inl ⟨j, x, y, Nat.le_refl _, by omega, d1, d2, d3, d4, d5, wkt c2 d6⟩
        · refine .inr ⟨b0, d1, wkt c2 d2, fun j' x l1 l2 hx ho => ?_, fun hd ho j' x l1 l2 hx => ?_⟩
          · rcases Nat.eq_or_lt_of_le l1 with rfl | l1
            · exact d3 x hx ho
            · exact c3 j' x l1 (by omega) hx ho
          · rcases Nat.eq_or_lt_of_le l1 with rfl | l1
            · exact d4 hd (c2.own ho).1 x hx
            · exact c4 hd ho j' x l1 (by omega) hx
    unfold putBack
    cases hx : nth hin j with
    | none => exact close hp rfl fun i b1 hb => .inr ⟨b1, hb, .inl rfl, (fun x h => by rw [hx] at h; cases h), (fun _ _ x h => by rw [hx] at h; cases h)⟩
    | some x =>
      simp only
      split
      · rename_i ho
        refine close _ (setNth_length _ _ _) fun i b1 hb => ?_
        by_cases hi : rnm m j = i
        · subst hi
          rw [nth_setNth_same] at hb
          split at hb
          · split at hb
            · rename_i hst
              obtain ⟨y, hy, rfl⟩ := Option.map_eq_some_iff.1 hb
              exact .inl ⟨x, y, hx, ho, rfl, hst, hy, .inl rfl⟩
            · cases hb
          · cases hb
        · rw [nth_setNth_ne _ _ _ _ hi] at hb
          exact .inr ⟨b1, hb, .inl rfl, fun _ _ _ e => hi e.symm, fun _ _ _ _ e => hi e.symm⟩
      · rename_i ho
        split
        · refine close _ (setNth_length _ _ _) fun i b1 hb => ?_
          by_cases hi : rnm m j = i
          · subst hi
            rw [nth_setNth_same] at hb
            split at hb
            · obtain ⟨y, hy, rfl⟩ := Option.map_eq_some_iff.1 hb
              refine .inr ⟨y, hy, .inr rfl, fun x' h' ho' => ?_, fun _ ho' => ?_⟩
              · rw [hx] at h'; cases h'; exact absurd ho' ho
              · rw [Blk.froze_own] at ho'; cases ho'
            · cases hb
          · rw [nth_setNth_ne _ _ _ _ hi] at hb
            exact .inr ⟨b1, hb, .inl rfl, fun _ _ _ e => hi e.symm, fun _ _ _ _ e => hi e.symm⟩
        · rename_i hd
          refine close _ rfl fun i b1 hb => .inr ⟨b1, hb, .inl rfl, fun x' h' ho' => ?_, fun hd' => absurd hd' hd⟩
          rw [hx] at h'; cases h'; exact absurd ho' ho

theorem newBack_spec {hin : List (Option Blk)} {m1 : List Nat} : ∀ {l : List (Option Blk)} {j i : Nat} {bk : Blk}, nth (newBack hin m1 j l) i = some bk → ∃ y, nth l i = some y ∧ stays hin (j + i) = false ∧ bk = y.ren m1
  | [], j, i, bk, h => by cases i <;> cases h
  | x :: l, j, 0, bk, h => by
    change (if stays hin j then none else x.map (Blk.ren m1)) = some bk at h
    split at h
    · cases h
    · rename_i hs
      obtain ⟨y, rfl, rfl⟩ := Option.map_eq_some_iff.1 h
      exact ⟨y, rfl, by simpa using hs, rfl⟩
  | x :: l, j, i + 1, bk, h => by
    obtain ⟨y, h1, h2, h3⟩ := newBack_spec (l := l) (j := j + 1) (i := i) h
    exact ⟨y, h1, by rwa [show j + (i + 1) = j + 1 + i from by omega], h3⟩

theorem anyFrozen_spec {hin : List (Option Blk)} : ∀ {l : List (Option Blk)} {j i : Nat} {y : Blk}, nth l i = some y → y.own = false → stays hin (j + i) = false → anyFrozen hin j l = true
  | [], j, i, y, h, _, _ => by cases i <;> cases h
  | x :: l, j, 0, y, h, h1, h2 => by
    cases h
    simp only [anyFrozen]
    rw [Nat.add_zero] at h2
    simp [h1, h2]
  | x :: l, j, i + 1, y, h, h1, h2 => by
    simp only [anyFrozen, Bool.or_eq_true]
    exact .inr (anyFrozen_spec (l := l) (j := j + 1) (i := i) h h1 (by rwa [show j + 1 + i = j + (i + 1) from by omega]))

theorem backMap_at {hin : List (Option Blk)} {m : List Nat} {n k j : Nat} (h : j < k) : rnm (backMap hin m n k) j = if stays hin j then rnm m j else n + j := by
  unfold rnm backMap
  rw [List.getD_eq_getElem?_getD, List.getElem?_map, List.getElem?_range h]
  rfl

theorem stays_lt {hin : List (Option Blk)} {j : Nat} (h : stays hin j = true) : ∃ x, nth hin j = some x := by
  unfold stays at h
  cases hn : nth hin j with
  | none => rw [hn] at h; cases h
  | some x => exact ⟨x, rfl⟩

theorem CRel.enter {E E' : Env} (h0 : ∀ b, b < E.w0.heap.size → ¬ E.W b → b < E'.w0.heap.size ∧ ¬ E'.W b ∧ E'.w0.heap[b]? = E.w0.heap[b]?) {t : LT} {d : DV} {v : Value} (h : CRel E t d v) : CRel E' t d v := by
  induction h with
  | int k d => exact .int k d
  | bool d => exact .bool d
  | vec ts d r vs hnil hlt hpos hlen hcap hv hc ih =>
    refine .vec ts d r vs hnil (fun e => ?_) hpos hlen hcap (fun i hi => ?_) ih
    · obtain ⟨a, b⟩ := hlt e
      obtain ⟨c1, c2, _⟩ := h0 _ a b
      exact ⟨c1, c2⟩
    · cases hn : r.nil with
      | true =>
        have := (hnil hn).1
        rw [hlen, this, Nat.zero_mul] at hi
        omega
      | false =>
        obtain ⟨a, b⟩ := hlt hn
        obtain ⟨_, _, c3⟩ := h0 _ a b
        rw [World.cell?_of_block (w := E.w0) c3]
        exact hv i hi
theorem BlkRel.enter {E E' : Env} (h0 : ∀ b, b < E.w0.heap.size → ¬ E.W b → b < E'.w0.heap.size ∧ ¬ E'.W b ∧ E'.w0.heap[b]? = E.w0.heap[b]?) {ρ : Nat → Loc} {w : World} {r : Loc} {b : Blk} (h : BlkRel E ν ρ w r b) : BlkRel E' ν ρ w r b := by
  cases b with
  | c o cs => exact h
  | v o ts a =>
    have h : VRel E w r o ts (a.cells ν) := h
    exact ⟨h.nil, h.lt, h.pos, h.len, h.cap, fun i hi => let ⟨v, h1, h2⟩ := h.cell i hi; ⟨v, h1, h2.enter h0⟩, h.own⟩
end
end Go.Sx

namespace Go.Sx
open Go.RowKit
section
variable {P : Program} {I : World → Prop} {S : Sigs} {F : FEnv} {E : Env} {ν : Nat → DV}

theorem heapSub_lt {m : List Nat} {hp x : List (Option Blk)} (h : heapSub m hp 0 x = true) {j : Nat} {b : Blk} (hj : nth x j = some b) : ∃ b', nth hp (rnm m j) = some b' ∧ rnm m j < hp.length ∧ b.sub m b' = true := by
  obtain ⟨b', h1, h2⟩ := heapSub_spec h j b hj
  rw [Nat.zero_add] at h1
  exact ⟨b', h1, nth_lt h1, h2⟩

theorem stays_inst (ops : List A) (hin : List (Option Blk)) (j : Nat) : stays (hin.map (Option.map (Blk.inst ops))) j = stays hin j := by
  unfold stays
  rw [nth_map]
  cases nth hin j with
  | none => rfl
  | some b => cases b <;> rfl
theorem all_inst {q : Blk → Bool} (hq : ∀ ops b, q (Blk.inst ops b) = q b) (ops : List A) (l : List (Option Blk)) : (l.map (Option.map (Blk.inst ops))).all (optAll q) = l.all (optAll q) := by
  induction l with
  | nil => rfl
  | cons x l ih =>
    simp only [List.map_cons, List.all_cons, ih]
    cases x with
    | none => rfl
    | some b => simp [optAll, hq]
theorem Lf.inst_lt (n : Nat) (ops : List A) (l : Lf) : (l.inst ops).lt n = l.lt n := by cases l <;> rfl
theorem V1.inst_lt (n : Nat) (ops : List A) (v : V1) : (v.inst ops).lt n = v.lt n := by
  cases v with
  | one l => simp [V1.inst, V1.lt, V1.cells, Lf.inst_lt]
  | agg l =>
    simp only [V1.inst, V1.lt, V1.cells, List.all_map]
    congr 1
    funext x
    exact Lf.inst_lt n ops x
theorem V.inst_lt (n : Nat) (ops : List A) (v : V) : (v.inst ops).lt n = v.lt n := by
  cases v with
  | s v => exact V1.inst_lt n ops v
  | t l =>
    simp only [V.inst, V.lt, List.all_map]
    congr 1
    funext x
    exact V1.inst_lt n ops x
theorem Blk.inst_lt (n : Nat) (ops : List A) (b : Blk) : (b.inst ops).lt n = b.lt n := by
  cases b with
  | v o ts a => rfl
  | c o cs =>
    simp only [Blk.inst, Blk.lt, List.all_map]
    congr 1
    funext x
    cases x with
    | none => rfl
    | some l => exact Lf.inst_lt n ops l
theorem Blk.inst_flat (ops : List A) (b : Blk) : (b.inst ops).flat = b.flat := by cases b <;> rfl

theorem HS.back {ρ ρ' : Nat → Loc} {hp hin ho : List (Option Blk)} {m : List Nat} {w w' : World} (h : HS E ν ρ hp w) (hs1 : heapSub m hp 0 hin = true)
    (hlt : hp.all (optAll (Blk.lt hp.length)) = true) (holt : ho.all (optAll (Blk.lt ho.length)) = true) (hofl : ho.all (optAll Blk.flat) = true)
    (hb : HRel (callEnv hin (fun j => ρ (rnm m j)) w) ν ρ' ho w') (hold : OldF (callEnv hin (fun j => ρ (rnm m j)) w).W (callEnv hin (fun j => ρ (rnm m j)) w).V w ρ' ho)
    (hfr : Fr (callEnv hin (fun j => ρ (rnm m j)) w).W w w') (hk : ∀ j, stays hin j = true → j < ho.length → ρ' j = ρ (rnm m j)) :
    (∀ k, k < ho.length → (fun i => if i < hp.length then ρ i else ρ' (i - hp.length)) (rnm (backMap hin m hp.length ho.length) k) = ρ' k) ∧
    HS E ν (fun i => if i < hp.length then ρ i else ρ' (i - hp.length))
      (putBack hin ho m (backMap hin m hp.length ho.length) (anyFrozen hin 0 ho) hin.length 0 hp ++ newBack hin (backMap hin m hp.length ho.length) 0 ho) w' := by
  generalize hm1 : backMap hin m hp.length ho.length = m1
  generalize hρn : (fun i => if i < hp.length then ρ i else ρ' (i - hp.length)) = ρn
  have hN : ∀ i, i < hp.length → ρn i = ρ i := fun i hi => by rw [← hρn]; simp [hi]
  have hN2 : ∀ k, ρn (hp.length + k) = ρ' k := fun k => by rw [← hρn]; simp; intro hc; omega
  have hmap : ∀ k, k < ho.length → ρn (rnm m1 k) = ρ' k := by
    intro k hk1
    rw [← hm1, backMap_at hk1]
    split
    · rename_i hst
      obtain ⟨x, hx⟩ := stays_lt hst
      obtain ⟨_, _, h3, _⟩ := heapSub_lt hs1 hx
      rw [hN _ h3, hk k hst hk1]
    · exact hN2 k
  refine ⟨hmap, ?_⟩
  obtain ⟨pl, pb⟩ := putBack_spec (hin := hin) (hout := ho) (m := m) (m1 := m1) (dem := anyFrozen hin 0 ho) hin.length 0 hp
  generalize hA : putBack hin ho m m1 (anyFrozen hin 0 ho) hin.length 0 hp = A0 at *
  -- what went in that may be written
  have hown : ∀ j x, nth hin j = some x → x.own = true → ∃ b', nth hp (rnm m j) = some b' ∧ b'.own = true ∧ rnm m j < hp.length := fun j x hx hxo => by
    obtain ⟨b', h1, h2, h3⟩ := heapSub_lt hs1 hx
    exact ⟨b', h1, (Blk.sub_spec (E := E) (ν := ν) h3).1 hxo, h2⟩
  -- which block stands at a place
  have hcase : ∀ i bk, nth (A0 ++ newBack hin m1 0 ho) i = some bk →
      (∃ j x y, nth hin j = some x ∧ x.own = true ∧ i = rnm m j ∧ i < hp.length ∧ stays hin j = true ∧ nth ho j = some y ∧ Wk bk (y.ren m1)) ∨
      (∃ b0, nth hp i = some b0 ∧ i < hp.length ∧ Wk bk b0 ∧ (∀ j x, nth hin j = some x → x.own = true → i ≠ rnm m j) ∧ (anyFrozen hin 0 ho = true → bk.own = true → ∀ j x, nth hin j = some x → i ≠ rnm m j)) ∨
      (∃ j y, i = hp.length + j ∧ nth ho j = some y ∧ stays hin j = false ∧ bk = y.ren m1) := by
    intro i bk hi
    rw [nth_append, pl] at hi
    split at hi
    · rename_i hil
      rcases pb i bk hi with ⟨j, x, y, _, _, h1, h2, h3, h4, h5, h6⟩ | ⟨b0, h1, h2, h3, h4⟩
      · exact .inl ⟨j, x, y, h1, h2, h3, hil, h4, h5, h6⟩
      · exact .inr (.inl ⟨b0, h1, hil, h2, fun j x hx => h3 j x (Nat.zero_le _) (by have := nth_lt hx; omega) hx, fun hd hbo j x hx => h4 hd hbo j x (Nat.zero_le _) (by have := nth_lt hx; omega) hx⟩)
    · rename_i hil
      obtain ⟨y, h1, h2, h3⟩ := newBack_spec hi
      rw [Nat.zero_add] at h2
      exact .inr (.inr ⟨i - hp.length, y, by omega, h1, h2, h3⟩)
  -- blocks that none may write stand as they stood
  have hsame : ∀ i b0, nth hp i = some b0 → (∀ j x, nth hin j = some x → x.own = true → i ≠ rnm m j) → (ρ i).nil = false → w'.heap[(ρ i).blk]? = w.heap[(ρ i).blk]? := by
    intro i b0 h0 hne hnil
    refine hfr.block _ ((h.heap.blk i b0 h0).lt hnil) ?_
    rintro ⟨j, x, hx, hxo, hxn, he⟩
    obtain ⟨b', e1, e2, _⟩ := hown j x hx hxo
    exact h.heap.apart (rnm m j) i b' b0 e1 e2 h0 (Ne.symm (hne j x hx hxo)) hxn hnil he
  have hrel1 : ∀ j y, nth ho j = some y → ∀ bk, Wk bk (y.ren m1) → BlkRel E ν ρn w' (ρ' j) bk := fun j y hy bk hwk =>
    hwk.rel (((hb.blk j y hy).flat (all_nth_of hofl hy)).ren hmap (all_nth_of holt hy))
  have holdp : ∀ j x, nth hin j = some x → x.own = true → (ρ (rnm m j)).nil = true ∨ E.w0.heap.size ≤ (ρ (rnm m j)).blk ∨ E.W (ρ (rnm m j)).blk := fun j x hx hxo => by
    obtain ⟨b', e1, e2, _⟩ := hown j x hx hxo
    rcases h.old _ _ e1 with h | h | h | h
    · exact .inl h
    · exact .inr (.inl h)
    · exact .inr (.inr h)
    · rw [e2] at h; cases h.1
  -- a block that stayed as it was, and one that came back, of which one may be written
  have hmix : ∀ i b0 bk, nth hp i = some b0 → i < hp.length → Wk bk b0 → (∀ j x, nth hin j = some x → x.own = true → i ≠ rnm m j) →
      (anyFrozen hin 0 ho = true → bk.own = true → ∀ j x, nth hin j = some x → i ≠ rnm m j) → ∀ j y, nth ho j = some y → stays hin j = false → (bk.own = true ∨ y.own = true) →
      (ρ i).nil = false → (ρ' j).nil = false → (ρ i).blk ≠ (ρ' j).blk := by
    intro i b0 bk h0 hil hwk hne hdem j y hy hst howns hn1 hn2 he
    have hlt1 := (h.heap.blk i b0 h0).lt hn1
    rcases hold j y hy with h1 | h1 | h1 | ⟨h1, h2⟩
    · rw [hn2] at h1; cases h1
    · omega
    · obtain ⟨j0, x, hx, hxo, hxn, hxe⟩ := h1
      obtain ⟨b', e1, e2, _⟩ := hown j0 x hx hxo
      exact h.heap.apart (rnm m j0) i b' b0 e1 e2 h0 (Ne.symm (hne j0 x hx hxo)) hxn hn1 (by rw [hxe, he])
    · obtain ⟨j0, x, hx, hxo, hxn, hxe⟩ := h2
      rcases howns with ho1 | ho1
      · have hd : anyFrozen hin 0 ho = true := anyFrozen_spec (j := 0) hy h1 (by rwa [Nat.zero_add])
        obtain ⟨b', e1, _, _⟩ := heapSub_lt hs1 hx
        exact h.heap.apart i (rnm m j0) b0 b' h0 (hwk.own ho1).1 e1 (hdem hd ho1 j0 x hx) hn1 hxn (by rw [he, hxe])
      · rw [h1] at ho1; cases ho1
  refine ⟨⟨fun i bk hi => ?_, fun i i' bk bk' hi hbo hi' hne hn1 hn2 => ?_⟩, fun i bk hi => ?_, ?_, ?_, ?_⟩
  · rcases hcase i bk hi with ⟨j, x, y, h1, h2, h3, h4, h5, h6, h7⟩ | ⟨b0, h1, h2, h3, h4, h5⟩ | ⟨j, y, h1, h2, h3, h4⟩
    · rw [hN i h4, h3, ← hk j h5 (nth_lt h6)]
      exact hrel1 j y h6 bk h7
    · rw [hN i h2]
      refine h3.rel (((h.heap.blk i b0 h1).of_block hfr.size (hsame i b0 h1 h4)).keep (fun k hk => hN k hk) (all_nth_of hlt h1))
    · rw [h1, hN2 j]
      exact hrel1 j y h2 bk (.inl h4)
  · rcases hcase i bk hi with ⟨j, x, y, a1, a2, a3, a4, a5, a6, a7⟩ | ⟨b0, a1, a2, a3, a4, a5⟩ | ⟨j, y, a1, a2, a3, a4⟩
    · have hyo : y.own = true := by have := (a7.own hbo).1; rwa [Blk.ren_own] at this
      have e1 : ρn i = ρ' j := by rw [hN i a4, a3, hk j a5 (nth_lt a6)]
      rcases hcase i' bk' hi' with ⟨j', x', y', b1, b2, b3, b4, b5, b6, b7⟩ | ⟨b0', b1, b2, b3, b4, b5⟩ | ⟨j', y', b1, b2, b3, b4⟩
      · have e2 : ρn i' = ρ' j' := by rw [hN i' b4, b3, hk j' b5 (nth_lt b6)]
        rw [e1] at hn1 ⊢
        rw [e2] at hn2 ⊢
        exact hb.apart j j' y y' a6 hyo b6 (fun e => hne (by rw [a3, b3, e])) hn1 hn2
      · rw [hN i a4] at hn1 ⊢
        rw [hN i' b2] at hn2 ⊢
        obtain ⟨b', e3, e4, _⟩ := hown j x a1 a2
        rw [a3] at hn1 ⊢
        exact h.heap.apart (rnm m j) i' b' b0' e3 e4 b1 (Ne.symm (b4 j x a1 a2)) hn1 hn2
      · rw [e1] at hn1 ⊢
        rw [b1, hN2 j'] at hn2 ⊢
        exact hb.apart j j' y y' a6 hyo b2 (fun e => by rw [← e, a5] at b3; cases b3) hn1 hn2
    · rw [hN i a2] at hn1 ⊢
      rcases hcase i' bk' hi' with ⟨j', x', y', b1, b2, b3, b4, b5, b6, b7⟩ | ⟨b0', b1, b2, b3, b4, b5⟩ | ⟨j', y', b1, b2, b3, b4⟩
      · rw [hN i' b4] at hn2 ⊢
        obtain ⟨b', e3, e4, _⟩ := hown j' x' b1 b2
        rw [b3] at hn2 ⊢
        exact h.heap.apart i (rnm m j') b0 b' a1 (a3.own hbo).1 e3 (a4 j' x' b1 b2) hn1 hn2
      · rw [hN i' b2] at hn2 ⊢
        exact h.heap.apart i i' b0 b0' a1 (a3.own hbo).1 b1 hne hn1 hn2
      · rw [b1, hN2 j'] at hn2 ⊢
        exact hmix i b0 bk a1 a2 a3 a4 a5 j' y' b2 b3 (.inl hbo) hn1 hn2
    · have hyo : y.own = true := by rw [a4, Blk.ren_own] at hbo; exact hbo
      rw [a1, hN2 j] at hn1 ⊢
      rcases hcase i' bk' hi' with ⟨j', x', y', b1, b2, b3, b4, b5, b6, b7⟩ | ⟨b0', b1, b2, b3, b4, b5⟩ | ⟨j', y', b1, b2, b3, b4⟩
      · have e2 : ρn i' = ρ' j' := by rw [hN i' b4, b3, hk j' b5 (nth_lt b6)]
        rw [e2] at hn2 ⊢
        exact hb.apart j j' y y' a2 hyo b6 (fun e => by rw [e, b5] at a3; cases a3) hn1 hn2
      · rw [hN i' b2] at hn2 ⊢
        exact (hmix i' b0' bk' b1 b2 b3 b4 b5 j y a2 a3 (.inr hyo) hn2 hn1).symm
      · rw [b1, hN2 j'] at hn2 ⊢
        exact hb.apart j j' y y' a2 hyo b2 (fun e => hne (by rw [a1, b1, e])) hn1 hn2
  · rcases hcase i bk hi with ⟨j, x, y, a1, a2, a3, a4, a5, a6, a7⟩ | ⟨b0, a1, a2, a3, a4, a5⟩ | ⟨j, y, a1, a2, a3, a4⟩
    · rw [hN i a4, a3]
      rcases holdp j x a1 a2 with h | h | h
      · exact .inl h
      · exact .inr (.inl h)
      · exact .inr (.inr (.inl h))
    · rw [hN i a2]
      rcases h.old i b0 a1 with h | h | h | h
      · exact .inl h
      · exact .inr (.inl h)
      · exact .inr (.inr (.inl h))
      · refine .inr (.inr (.inr ⟨?_, h.2⟩))
        cases ho : bk.own with
        | false => rfl
        | true => rw [(a3.own ho).1] at h; cases h.1
    · rw [a1, hN2 j]
      rcases hold j y a2 with h1 | h1 | h1 | ⟨h1, h2⟩
      · exact .inl h1
      · exact .inr (.inl (Nat.le_trans h.fr.size h1))
      · obtain ⟨j0, x, hx, hxo, hxn, hxe⟩ := h1
        rcases holdp j0 x hx hxo with h | h | h
        · change (ρ (rnm m j0)).nil = false at hxn
          rw [hxn] at h; cases h
        · exact .inr (.inl (by rw [← hxe]; exact h))
        · exact .inr (.inr (.inl (by rw [← hxe]; exact h)))
      · obtain ⟨j0, x, hx, hxo, hxn, hxe⟩ := h2
        obtain ⟨b', e1, _, _⟩ := heapSub_lt hs1 hx
        rcases h.old _ _ e1 with h | h | h | h
        · change (ρ (rnm m j0)).nil = false at hxn
          rw [hxn] at h; cases h
        · exact .inr (.inl (by rw [← hxe]; exact h))
        · exact .inr (.inr (.inl (by rw [← hxe]; exact h)))
        · exact .inr (.inr (.inr ⟨by rw [a4, Blk.ren_own]; exact h1, by rw [← hxe]; exact h.2⟩))
  · refine ⟨hfr.os.trans h.fr.os, hfr.tape.trans h.fr.tape, hfr.output.trans h.fr.output, Nat.le_trans h.fr.size hfr.size, fun b hbl hnW => ?_⟩
    rw [hfr.block b (Nat.lt_of_lt_of_le hbl h.fr.size) ?_, h.fr.block b hbl hnW]
    rintro ⟨j, x, hx, hxo, hxn, hxe⟩
    change (ρ (rnm m j)).blk = b at hxe
    rcases holdp j x hx hxo with h1 | h1 | h1
    · change (ρ (rnm m j)).nil = false at hxn
      rw [hxn] at h1; cases h1
    · omega
    · exact hnW (by rw [← hxe]; exact h1)
  · rw [List.length_append, pl]
    have := h.len
    omega
  · intro j hj
    rw [hN j (by have := h.len; omega)]
    exact h.keep j hj
end
end Go.Sx

namespace Go.Sx
open Go.RowKit
section
variable {P : Program} {I : World → Prop} {S : Sigs} {F : FEnv} {E : Env} {ν : Nat → DV}

theorem V.easy_good {v : V} (h : v.easy = true) : v.good ν := by
  have h1 : ∀ l : Lf, l.easy = true → l.good ν := fun l hl => by
    cases l with
    | p b off => cases off <;> first | trivial | cases hl
    | gp b off => cases off <;> first | trivial | cases hl
    | _ => trivial
  have h2 : ∀ v : V1, v.cells.all Lf.easy = true → v.good ν := fun v hv l hl => h1 l (List.all_eq_true.1 hv l hl)
  cases v with
  | s v => exact h2 v h
  | t l => exact fun v hv => h2 v (List.all_eq_true.1 h v hv)
theorem Lf.inst_easy (ops : List A) (l : Lf) : (l.inst ops).easy = l.easy := by
  cases l with
  | p b off => cases off <;> rfl
  | gp b off => cases off <;> rfl
  | _ => rfl
theorem V1.inst_easy (ops : List A) (v : V1) : (v.inst ops).cells.all Lf.easy = v.cells.all Lf.easy := by
  cases v with
  | one l => simp [V1.inst, V1.cells, Lf.inst_easy]
  | agg l =>
    simp only [V1.inst, V1.cells, List.all_map]
    congr 1
    funext x
    exact Lf.inst_easy ops x
theorem V.inst_easy (ops : List A) (v : V) : (v.inst ops).easy = v.easy := by
  cases v with
  | s v => exact V1.inst_easy ops v
  | t l =>
    simp only [V.inst, V.easy, List.all_map]
    congr 1
    funext x
    exact V1.inst_easy ops x
theorem callEnv_inst {hin : List (Option Blk)} (as bs : List A) (ρ : Nat → Loc) (w : World) : callEnv (hin.map (Option.map (Blk.inst as))) ρ w = callEnv (hin.map (Option.map (Blk.inst bs))) ρ w := by
  have key : ∀ (o : Bool) (as bs : List A) (b : Nat), (∃ j bk, nth (hin.map (Option.map (Blk.inst as))) j = some bk ∧ bk.own = o ∧ (ρ j).nil = false ∧ (ρ j).blk = b) →
      ∃ j bk, nth (hin.map (Option.map (Blk.inst bs))) j = some bk ∧ bk.own = o ∧ (ρ j).nil = false ∧ (ρ j).blk = b := by
    rintro o as bs b ⟨j, bk, h1, h2, h3, h4⟩
    rw [nth_map] at h1
    obtain ⟨y, hy, rfl⟩ := Option.map_eq_some_iff.1 h1
    exact ⟨j, y.inst bs, by rw [nth_map, hy]; rfl, by rw [Blk.inst_own] at h2 ⊢; exact h2, h3, h4⟩
  unfold callEnv
  congr 1
  · funext b
    exact propext ⟨key _ _ _ b, key _ _ _ b⟩
  · funext b
    exact propext ⟨key _ _ _ b, key _ _ _ b⟩
  · simp

theorem V.conc_lt0 {v : V} (h : v.lt 0 = true) (ρ ρ' : Nat → Loc) : v.conc ν ρ = v.conc ν ρ' := by
  have h1 : ∀ l : Lf, l.lt 0 = true → l.conc ν ρ = l.conc ν ρ' := fun l hl => by
    cases l <;> simp only [Lf.lt, decide_eq_true_eq] at hl <;> first | rfl | omega | (simp only [Lf.conc]; rw [capsConc_lt hl (fun k hk => by omega)])
  have h2 : ∀ v : V1, v.lt 0 = true → v.conc ν ρ = v.conc ν ρ' := fun v hv => by
    cases v with
    | one l => exact h1 l (by simpa [V1.lt, V1.cells] using hv)
    | agg l =>
      simp only [V1.conc]
      congr 2
      exact List.map_congr_left fun x hx => h1 x (List.all_eq_true.1 hv x hx)
  cases v with
  | s v => exact h2 v h
  | t l =>
    simp only [V.conc]
    congr 2
    exact List.map_congr_left fun x hx => h2 x (List.all_eq_true.1 h x hx)

theorem slotsSub_somes {m : List Nat} : ∀ {x y : List V}, slotsSub m (x.map some) (y.map some) = true → (∀ ρ : Nat → Loc, x.map (V.conc ν (fun j => ρ (rnm m j))) = y.map (V.conc ν ρ)) ∧ ((∀ v ∈ y, V.good ν v) → ∀ v ∈ x, V.good ν v)
  | [], [], _ => ⟨fun _ => rfl, fun h => h⟩
  | x :: l, y :: l', h => by
    simp only [List.map_cons, slotsSub, Bool.and_eq_true] at h
    obtain ⟨h1, h2⟩ := V.sub_spec (ν := ν) h.1
    obtain ⟨h3, h4⟩ := slotsSub_somes h.2
    refine ⟨fun ρ => by simp only [List.map_cons, h1 ρ, h3 ρ], fun hg z hz => ?_⟩
    rcases List.mem_cons.1 hz with rfl | hz
    · exact h2 (hg y (by simp))
    · exact h4 (fun u hu => hg u (List.mem_cons_of_mem _ hu)) z hz
  | [], _ :: _, h => by simp [slotsSub] at h
  | _ :: _, [], h => by simp [slotsSub] at h

theorem Vs.inst_to {ν1 ν2 : Nat → DV} {p : A → Bool} {tys : List Ty} {as bs : List A} (hp : ∀ a, p a = true → a.den ν1 = a.den ν2) (h : PEq ν1 ν2 tys as bs) : ∀ {l : List V}, l.all (V.tyOk p tys) = true →
    (∀ ρ, (l.map (V.inst bs)).map (V.conc ν2 ρ) = (l.map (V.inst as)).map (V.conc ν1 ρ)) ∧ ((∀ x ∈ l.map (V.inst as), V.good ν1 x) → ∀ x ∈ l.map (V.inst bs), V.good ν2 x)
  | [], _ => ⟨fun _ => rfl, fun _ x hx => by cases hx⟩
  | x :: l, hl => by
    simp only [List.all_cons, Bool.and_eq_true] at hl
    obtain ⟨h1, h2⟩ := V.inst_to hp h hl.1
    obtain ⟨h3, h4⟩ := Vs.inst_to hp h hl.2
    refine ⟨fun ρ => by simp only [List.map_cons, h1 ρ, h3 ρ], fun hg z hz => ?_⟩
    simp only [List.map_cons] at hg hz
    rcases List.mem_cons.1 hz with rfl | hz
    · exact h2 (hg _ (by simp))
    · exact h4 (fun u hu => hg u (List.mem_cons_of_mem _ hu)) z hz

def CallTo (P : Program) (E : Env) (ν : Nat → DV) (f : FuncId) (vs : List V) (hp : List (Option Blk)) (ρ : Nat → Loc) (w : World) : OR → Prop
  | .val v => v.good ν ∧ Calls P f (vs.map (V.conc ν ρ)).toArray w (fun e w' => e = .returned (v.conc ν ρ) ∧ Below w.heap.size w w')
  | .hp v hp' => Calls P f (vs.map (V.conc ν ρ)).toArray w (fun e w' => ∃ x, e = .returned x ∧ ∃ ρ' : Nat → Loc, (∀ j, j < hp.length → ρ' j = ρ j) ∧ HS E ν ρ' hp' w' ∧ ∀ u, v = some u → u.good ν ∧ x = u.conc ν ρ')

theorem evCall_sat {K : Nat} (hS : SigsOK P I K S F) (hE : E.Ok K) {f : FuncId} {vs : List V} {hp : List (Option Blk)} : M.sat F ν (evCall P S f vs hp) (fun res => ∀ ρ w, (∀ v ∈ vs, V.good ν v) → HS E ν ρ hp w → I w →
    (callFunc f (vs.map (V.conc ν ρ)).toArray).run P w = .ok (.enter f (vs.map (V.conc ν ρ)).toArray) w ∧ CallTo P E ν f vs hp ρ w res) := by
  unfold evCall
  refine sat_bind (sat_lift (Q := fun sg => S.get f = some sg) fun a h => h) fun sg hsg => ?_
  have hfn := hS.fns f sg hsg
  dsimp only
  generalize hg : guess sg.nin ⟨sg.ins.map some, sg.hin⟩ ⟨vs.map some, hp⟩ = g
  have hgl : g.1.length = sg.its.length := by rw [← hg]; exact guess_len _ _ _
  refine sat_ite (fun hok => ?_) (fun _ => sat_fail)
  simp only [Bool.and_eq_true] at hok
  obtain ⟨⟨⟨hcal, hsub⟩, hsgok⟩, hplt⟩ := hok
  simp only [St.sub, Bool.and_eq_true, St.inst] at hsub
  obtain ⟨⟨hs1, hs2⟩, hs3⟩ := hsub
  simp only [Sig.ok, Bool.and_eq_true] at hsgok
  obtain ⟨⟨⟨⟨⟨⟨⟨k1, k2⟩, k3⟩, k4⟩, k5⟩, k6⟩, k7⟩, k8⟩ := hsgok
  have hs1' : slotsSub g.2 ((sg.ins.map (V.inst g.1)).map some) (vs.map some) = true := by
    have : (sg.ins.map some).map (Option.map (V.inst g.1)) = (sg.ins.map (V.inst g.1)).map some := by simp [List.map_map, Function.comp_def]
    rw [← this]; exact hs1
  obtain ⟨hargs, hgood⟩ := slotsSub_somes (ν := ν) hs1'
  have henter : ∀ (args : Array Value) (w : World), (callFunc f args).run P w = .ok (.enter f args) w := fun args w => by
    unfold calleeOk at hcal
    cases hf : P.funcs[f]? with
    | none => simp [hf] at hcal
    | some fn =>
      simp only [hf, Bool.and_eq_true, Bool.not_eq_true', beq_eq_false_iff_ne] at hcal
      obtain ⟨h1, h2⟩ := hcal
      obtain ⟨bd, hb⟩ := Option.isSome_iff_exists.1 h2
      simp [callFunc, hf, h1, hb]
  -- the values that go in
  generalize hds : g.1.map (A.den ν) = ds
  have hdl : ds.length = sg.its.length := by rw [← hds]; simpa using hgl
  have hpe : PEq ν (dget ds) sg.its g.1 (idsFrom 0 sg.nin) := by
    refine PEq.of_den hgl ?_
    rw [hds]
    have := ids_dget ds
    rw [hdl] at this
    exact this.symm
  obtain ⟨hva, hvg⟩ := Vs.inst_to const_den hpe k1
  refine sat_bind (R := fun j0 => j0 = (if sg.need then 1 else 0) ∧ (sg.need = true → (dget (F f ds) 0).toB = true)) ?_ fun j0 hj0 => ?_
  · refine sat_ite (fun hn => ?_) (fun hn => sat_pure ⟨by simp [hn], fun h => absurd h hn⟩)
    refine sat_bind (sat_emit (Q := fun r => r.den ν = (F f (g.1.map (A.den ν))).getD 0 default) fun r h => h) fun r hr => ?_
    refine sat_bind (sat_owe (Q := fun _ => r.bool ν = true) fun h => h) fun _ hr2 => sat_pure ⟨by simp [hn], fun _ => ?_⟩
    rw [dget, ← hds, ← hr]; exact hr2
  obtain ⟨rfl, hneed⟩ := hj0
  refine sat_bind (callOuts_sat sg.ots.length _) fun os hos => ?_
  rw [hds] at hos
  have hpo : PEq (sg.res (F f ds)) ν sg.ots (idsFrom 0 sg.ots.length) os := by
    refine PEq.of_den (idsFrom_len _ _) ?_
    rw [idsFrom_den (sg.res (F f ds)) sg.ots.length 0 0 (fun _ _ => rfl)]
    apply List.ext_getElem?
    intro i
    by_cases hi : i < sg.ots.length
    · rw [List.getElem?_map, List.getElem?_range' (by omega), List.getElem?_map, List.getElem?_eq_getElem (by rw [hos.1]; exact hi)]
      simp only [Option.map_some, Option.some.injEq]
      rw [hos.2 i _ (List.getElem?_eq_getElem (by rw [hos.1]; exact hi))]
      simp only [Sig.res, dget]
      congr 1
      omega
    · rw [List.getElem?_eq_none (by simpa using hi), List.getElem?_eq_none (by rw [List.length_map, hos.1]; omega)]
  obtain ⟨hoc, hog⟩ := V.inst_to const_den hpo k3
  -- the call
  have hcall : ∀ ρ w, (∀ v ∈ vs, V.good ν v) → HS E ν ρ hp w → I w → Calls P f (vs.map (V.conc ν ρ)).toArray w (fun e w' => ∃ x ρ', e = .returned x ∧ CallOut sg (F f ds) (fun j => ρ (rnm g.2 j)) w x ρ' w') := by
    intro ρ w hvs hh hI
    have h1 : HRel E ν (fun j => ρ (rnm g.2 j)) (sg.hin.map (Option.map (Blk.inst g.1))) w := hh.heap.sub hs2 hs3
    have h2 : HRel E (dget ds) (fun j => ρ (rnm g.2 j)) sg.hinI w := HRel.inst const_den hpe k2 h1
    have h0 : ∀ b, b < E.w0.heap.size → ¬ E.W b → b < w.heap.size ∧ ¬ (callEnv sg.hinI (fun j => ρ (rnm g.2 j)) w).W b ∧ w.heap[b]? = E.w0.heap[b]? := fun b hb hnW => by
      refine ⟨Nat.lt_of_lt_of_le hb hh.fr.size, ?_, hh.fr.block b hb hnW⟩
      rintro ⟨j, x, hx, hxo, hxn, hxe⟩
      change (ρ (rnm g.2 j)).blk = b at hxe
      change (ρ (rnm g.2 j)).nil = false at hxn
      unfold Sig.hinI at hx
      rw [nth_map] at hx
      obtain ⟨y, hy, rfl⟩ := Option.map_eq_some_iff.1 hx
      obtain ⟨b', e1, e2, e3⟩ := heapSub_lt hs2 (j := j) (b := y.inst g.1) (by rw [nth_map, hy]; rfl)
      have ho : b'.own = true := (Blk.sub_spec (E := E) (ν := ν) e3).1 (by rw [Blk.inst_own] at hxo ⊢; exact hxo)
      rcases hh.old _ _ e1 with h | h | h | h
      · rw [hxn] at h; cases h
      · omega
      · exact hnW (by rw [← hxe]; exact h)
      · rw [ho] at h; cases h.1
    have h3 : HRel (callEnv sg.hinI (fun j => ρ (rnm g.2 j)) w) (dget ds) (fun j => ρ (rnm g.2 j)) sg.hinI w :=
      ⟨fun j bk hj => (h2.blk j bk hj).enter h0, h2.apart⟩
    have hKW : ∀ b, (callEnv sg.hinI (fun j => ρ (rnm g.2 j)) w).W b → K ≤ b := fun b hb => by
      rcases Nat.lt_or_ge b E.w0.heap.size with hlt | hge
      · by_cases hEW : E.W b
        · exact hE.2 b hEW
        · exact absurd hb (h0 b hlt hEW).2.1
      · exact Nat.le_trans hE.1 hge
    have := hfn ds (fun j => ρ (rnm g.2 j)) w hI hdl hneed (Nat.le_trans hE.1 hh.fr.size) hKW (hvg (hgood hvs)) h3
    have hargs2 : (sg.insI.map (V.conc (dget ds) fun j => ρ (rnm g.2 j))) = vs.map (V.conc ν ρ) := by
      unfold Sig.insI
      rw [hva, hargs ρ]
    rw [hargs2] at this
    exact this
  refine sat_ite (fun hemp => ?_) (fun hemp => ?_)
  · refine sat_pure fun ρ w hvs hh hI => ⟨henter _ w, ?_⟩
    simp only [Bool.and_eq_true, List.isEmpty_iff] at hemp
    have hlt0 : (sg.out.inst os).lt 0 = true := by rw [V.inst_lt]; rw [hemp.2] at k5; exact k5
    refine ⟨V.easy_good (by rw [V.inst_easy]; exact k8), (hcall ρ w hvs hh hI).mono fun e w' ⟨x, ρ', he, hc⟩ => ⟨?_, ?_⟩⟩
    · rw [he, hc.val]
      unfold Sig.outI
      rw [← hoc ρ', V.conc_lt0 hlt0 ρ' ρ]
    · have := hc.fr.weaken (W' := fun _ => False) (fun b hb => by
        obtain ⟨j, bk, h1, h2, _⟩ := hb
        unfold Sig.hinI at h1
        rw [nth_map] at h1
        obtain ⟨y, hy, rfl⟩ := Option.map_eq_some_iff.1 h1
        have := all_nth_of hemp.1 hy
        rw [Blk.inst_own] at h2
        rw [h2] at this
        cases this)
      exact this.below
  · refine sat_pure fun ρ w hvs hh hI => ⟨henter _ w, (hcall ρ w hvs hh hI).mono fun e w' ⟨x, ρ', he, hc⟩ => ⟨x, he, ?_⟩⟩
    obtain ⟨hc1, _, hc3, hc4, hc5, hc6⟩ := hc
    have hcw : callEnv sg.hinI (fun j => ρ (rnm g.2 j)) w = callEnv (sg.hin.map (Option.map (Blk.inst g.1))) (fun j => ρ (rnm g.2 j)) w := callEnv_inst _ _ _ _
    rw [hcw] at hc3 hc4 hc5
    have hb := HRel.inst const_den hpo k4 hc3
    have hback := HS.back (ho := sg.hout.map (Option.map (Blk.inst os))) hh hs2 hplt (by rw [List.length_map, all_inst (fun ops b => Blk.inst_lt _ ops b)]; exact k6) (by rw [all_inst (fun ops b => Blk.inst_flat ops b)]; exact k7) hb (OldF.inst hc4) hc5
      (fun j hj hl => hc6 j (by rw [stays_inst] at hj; exact hj) (by simpa using hl))
    have e1 : ∀ k n, backMap (sg.hin.map (Option.map (Blk.inst g.1))) g.2 n k = backMap sg.hin g.2 n k := fun k n => by
      unfold backMap
      exact List.map_congr_left fun j _ => by rw [stays_inst]
    have e2 : ∀ (l : List (Option Blk)) (j : Nat), anyFrozen (sg.hin.map (Option.map (Blk.inst g.1))) j (l.map (Option.map (Blk.inst os))) = anyFrozen sg.hin j l := fun l => by
      induction l with
      | nil => intro j; rfl
      | cons x l ih =>
        intro j
        simp only [List.map_cons, anyFrozen, ih, stays_inst]
        cases x with
        | none => rfl
        | some y => simp [Blk.inst_own]
    have e3 : ∀ (l : List (Option Blk)) (m1 : List Nat) (j : Nat), newBack (sg.hin.map (Option.map (Blk.inst g.1))) m1 j l = newBack sg.hin m1 j l := fun l m1 => by
      induction l with
      | nil => intro j; rfl
      | cons x l ih => intro j; simp only [newBack, ih, stays_inst]
    have e4 : ∀ (ho : List (Option Blk)) (m1 : List Nat) (dem : Bool) (k j : Nat) (hp : List (Option Blk)), putBack (sg.hin.map (Option.map (Blk.inst g.1))) ho g.2 m1 dem k j hp = putBack sg.hin ho g.2 m1 dem k j hp := fun ho m1 dem k => by
      induction k with
      | zero => intro j hp; rfl
      | succ k ih =>
        intro j hp
        unfold putBack
        rw [nth_map]
        cases nth sg.hin j with
        | none => exact ih _ _
        | some y => simp only [Option.map_some, Blk.inst_own, stays_inst, ih]
    rw [e1, e2, e3, e4, List.length_map, List.length_map] at hback
    refine ⟨_, fun j hj => by simp [hj], hback.2, fun u hu => ?_⟩
    cases hu
    have hren := V.ren_spec (ν := ν) (m := backMap sg.hin g.2 hp.length sg.hout.length) (ρ := ρ') (ρ' := fun i => if i < hp.length then ρ i else ρ' (i - hp.length)) (v := sg.out.inst os) hback.1 (by rw [V.inst_lt]; exact k5)
    refine ⟨hren.2 (V.easy_good (by rw [V.inst_easy]; exact k8)), ?_⟩
    rw [hren.1, hoc ρ']
    exact hc1

theorem tk_ptr {t : TypeId} {e : Nat} (h : tk P t = some (.ptr e)) : P.underlying t = some (.pointer e) := by
  obtain ⟨d, hd, hk⟩ := tk_spec h
  cases d <;> simp [tkOf] at hk
  exact hk ▸ hd
theorem run_equalIn_ptr (w : World) (d : Nat) (t : TypeId) (p : Option Addr) {e : Nat} (h : P.underlying t = some (.pointer e)) :
    (Op.equalIn (d + 1) t (.pointer p) (.pointer none)).run P w = .ok p.isNone w := by
  cases p <;> simp [Op.equalIn, run_underlying h]
theorem evBinV_sat {op : BinOp} {t : TypeId} {x y : V} (hx : x.good ν) (hy : y.good ν) : M.sat F ν (evBinV P op t x y) (fun v => v.good ν ∧ ∀ (ρ : Nat → Loc) (w : World), ∀ (xo yo : Operand),
    (eqGuard op t xo yo (x.conc ν ρ) (y.conc ν ρ)).run P w = .ok () w ∧ (binOp op t (x.conc ν ρ) (y.conc ν ρ)).run P w = .ok (v.conc ν ρ) w) := by
  have hgi : ∀ (op : BinOp) (xo yo : Operand) (k k' : IntKind) (a b : Int) (w : World), (eqGuard op t xo yo (.int k a) (.int k' b)).run P w = .ok () w := by
    intro op xo yo k k' a b w; cases op <;> simp [eqGuard]
  have hgp : ∀ (op : BinOp) (xo yo : Operand) (a b : Option Addr) (w : World), (eqGuard op t xo yo (.pointer a) (.pointer b)).run P w = .ok () w := by
    intro op xo yo a b w; cases op <;> simp [eqGuard]
  have hgb : ∀ (op : BinOp) (xo yo : Operand) (a b : Bool) (w : World), (eqGuard op t xo yo (.bool a) (.bool b)).run P w = .ok () w := by
    intro op xo yo a b w; cases op <;> simp [eqGuard]
  unfold evBinV
  split
  · exact sat_bind (sat_pull fun ρ w => evShift_sat (ρ := ρ) (w := w) t) fun l hl => sat_pure ⟨V1.good_one.2 hl.1, fun ρ w xo yo => ⟨hgi _ _ _ _ _ _ _ w, hl.2 ρ w⟩⟩
  · exact sat_bind (sat_pull fun ρ w => evShift_sat (ρ := ρ) (w := w) t) fun l hl => sat_pure ⟨V1.good_one.2 hl.1, fun ρ w xo yo => ⟨hgi _ _ _ _ _ _ _ w, hl.2 ρ w⟩⟩
  · rename_i k a k' b hne1 hne2
    refine sat_ite (fun hk => ?_) (fun _ => sat_fail)
    have := kEq_eq hk; subst this
    have e1 : op ≠ .shl := fun h => hne1 h
    have e2 : op ≠ .shr := fun h => hne2 h
    exact sat_bind (sat_pull fun ρ w => evBin_sat (ρ := ρ) (w := w) e1 e2 t) fun l hl => sat_pure ⟨V1.good_one.2 hl.1, fun ρ w xo yo => ⟨hgi _ _ _ _ _ _ _ w, hl.2 ρ w⟩⟩
  · rename_i a b
    refine sat_bind (sat_lift (Q := fun k => tk P t = some k) fun a h => h) fun k hk => ?_
    split
    · exact sat_bind (sat_pull fun ρ w => evBoolOp_sat (ρ := ρ) (w := w) t (tk_bool hk)) fun l hl => sat_pure ⟨V1.good_one.2 hl.1, fun ρ w xo yo => ⟨hgb _ _ _ _ _ w, hl.2 ρ w⟩⟩
    · exact sat_fail
  · rename_i a b
    refine sat_bind (sat_lift (Q := fun k => tk P t = some k) fun a h => h) fun k hk => ?_
    split
    · exact sat_bind (sat_pull fun ρ w => evBoolOp_sat (ρ := ρ) (w := w) t (tk_bool hk)) fun l hl => sat_pure ⟨V1.good_one.2 hl.1, fun ρ w xo yo => ⟨hgb _ _ _ _ _ w, hl.2 ρ w⟩⟩
    · exact sat_fail
  · refine sat_bind (sat_lift (Q := fun k => tk P t = some k) fun a h => h) fun k hk => ?_
    split
    · exact sat_pure ⟨V1.good_one.2 trivial, fun ρ w xo yo => ⟨hgp _ _ _ _ _ w, by simp [binOp, Op.equal, Op.maxDepth, V.conc, V1.conc, Lf.conc, run_equalIn_ptr w 9999 t _ (tk_ptr hk)]⟩⟩
    · exact sat_fail
  · refine sat_bind (sat_lift (Q := fun k => tk P t = some k) fun a h => h) fun k hk => ?_
    split
    · exact sat_pure ⟨V1.good_one.2 trivial, fun ρ w xo yo => ⟨hgp _ _ _ _ _ w, by simp [binOp, Op.equal, Op.maxDepth, V.conc, V1.conc, Lf.conc, run_equalIn_ptr w 9999 t _ (tk_ptr hk)]⟩⟩
    · exact sat_fail
  · refine sat_bind (sat_lift (Q := fun k => tk P t = some k) fun a h => h) fun k hk => ?_
    split
    · exact sat_pure ⟨V1.good_one.2 trivial, fun ρ w xo yo => ⟨hgp _ _ _ _ _ w, by simp [binOp, Op.equal, Op.maxDepth, V.conc, V1.conc, Lf.conc, run_equalIn_ptr w 9999 t _ (tk_ptr hk)]⟩⟩
    · exact sat_fail
  · refine sat_bind (sat_lift (Q := fun k => tk P t = some k) fun a h => h) fun k hk => ?_
    split
    · exact sat_pure ⟨V1.good_one.2 trivial, fun ρ w xo yo => ⟨hgp _ _ _ _ _ w, by simp [binOp, Op.equal, Op.maxDepth, V.conc, V1.conc, Lf.conc, run_equalIn_ptr w 9999 t _ (tk_ptr hk)]⟩⟩
    · exact sat_fail
  · refine sat_ite (fun _ => sat_fail) (fun hgt => ?_)
    refine sat_bind (evEq_sat 8 t _ _ hx hy) fun r hr => sat_pure ⟨V1.good_one.2 trivial, fun ρ w xo yo => ⟨?_, ?_⟩⟩
    · exact run_eqGuard_agg w _ t xo yo _ _ (by simpa using hgt)
    · have := hr ρ 9992 w
      simp only [V.conc, V1.conc] at this ⊢
      rw [run_eql_struct, this]
      rfl
  · refine sat_ite (fun _ => sat_fail) (fun hgt => ?_)
    refine sat_bind (evEq_sat 8 t _ _ hx hy) fun r hr => sat_bind mkNot_sat fun r2 hr2 => sat_pure ⟨V1.good_one.2 trivial, fun ρ w xo yo => ⟨?_, ?_⟩⟩
    · exact run_eqGuard_agg w _ t xo yo _ _ (by simpa using hgt)
    · have := hr ρ 9992 w
      simp only [V.conc, V1.conc] at this ⊢
      rw [run_neq_struct, this]
      simp [Lf.conc, hr2]
  · exact sat_fail
end
end Go.Sx

namespace Go.Sx
open Go.RowKit
section
variable {P : Program} {I : World → Prop} {S : Sigs} {F : FEnv} {E : Env} {ν : Nat → DV}

theorem overwrite_conc {ρ : Nat → Loc} : ∀ (l : List Lf) (cs : List Lf) (k o : Nat) (A : Array Value), A.toList = cs.map (Lf.conc ν ρ) →
    (((l.map (Lf.conc ν ρ)).zipIdx k).foldl (fun (cs : Array Value) (p : Value × Nat) => cs.setIfInBounds (o + p.2) p.1) A).toList = (overwrite cs (o + k) l).map (Lf.conc ν ρ)
  | [], cs, k, o, A, h => by simpa [overwrite] using h
  | c :: l, cs, k, o, A, h => by
    simp only [List.map_cons, List.zipIdx_cons, List.foldl_cons, overwrite]
    rw [overwrite_conc l (cs.set (o + k) c) (k + 1) o _ (by simp [h, List.map_set])]
    rfl
theorem overwrite_good : ∀ {l cs : List Lf} {o : Nat}, (∀ x ∈ cs, Lf.good ν x) → (∀ x ∈ l, Lf.good ν x) → ∀ x ∈ overwrite cs o l, Lf.good ν x
  | [], cs, o, h, _ => h
  | c :: l, cs, o, h, h2 => overwrite_good (l := l) (fun x hx => by
      rcases List.mem_or_eq_of_mem_set hx with hx | rfl
      · exact h x hx
      · exact h2 x (by simp)) (fun x hx => h2 x (List.mem_cons_of_mem _ hx))
theorem V1.cells_conc {v : V1} (hok : v.cells.all Lf.ok = true) (ρ : Nat → Loc) : (v.conc ν ρ).cells = (v.cells.map (Lf.conc ν ρ)).toArray := by
  cases v with
  | one l =>
    have h1 : (l.conc ν ρ).oneCell' = true := Lf.ok_conc (by simpa [V1.cells] using hok) ρ
    exact cells_one h1
  | agg l => rfl

theorem fillC_spec {place : Nat → Option (Nat × Nat)} {place' : Nat → Option (Nat × Nat)} (hp : ∀ i, place' i = place i) {ρ : Nat → Loc} : ∀ (ps : List (Nat × V1)) (cs r : List Lf) (A : Array Value),
    A.toList = cs.map (Lf.conc ν ρ) → fillC place cs ps = some r →
    ∃ B, Instr.fill place' A (ps.map fun p => (p.1, p.2.conc ν ρ)) = some B ∧ B.toList = r.map (Lf.conc ν ρ)
  | [], cs, r, A, h, hf => by simp [fillC] at hf; subst hf; exact ⟨A, rfl, h⟩
  | p :: ps, cs, r, A, h, hf => by
    simp only [fillC] at hf
    split at hf
    · cases hf
    · rename_i o sz hpl
      split at hf
      · rename_i hc
        simp only [Bool.and_eq_true] at hc
        obtain ⟨⟨h1, h2⟩, h3⟩ := hc
        have h1 := Nat.eq_of_beq_eq_true h1
        have h2 := Nat.le_of_ble_eq_true h2
        have hcells := V1.cells_conc (ν := ν) h3 ρ
        have hA : A.size = cs.length := by rw [← Array.length_toList, h]; simp
        simp only [List.map_cons, Instr.fill, hp, hpl, hcells]
        rw [if_neg (by simp; omega)]
        refine fillC_spec hp ps _ r _ ?_ hf
        have := overwrite_conc (ν := ν) (ρ := ρ) p.2.cells cs 0 o A h
        rw [Nat.add_zero] at this
        rw [← this, ← Array.foldl_toList]
        simp
      · cases hf

theorem fillC_good {place : Nat → Option (Nat × Nat)} : ∀ (ps : List (Nat × V1)) (cs r : List Lf), (∀ x ∈ cs, Lf.good ν x) → (∀ p ∈ ps, p.2.good ν) → fillC place cs ps = some r → ∀ x ∈ r, Lf.good ν x
  | [], cs, r, h, _, hf => by simp [fillC] at hf; subst hf; exact h
  | p :: ps, cs, r, h, hg, hf => by
    simp only [fillC] at hf
    split at hf
    · cases hf
    · split at hf
      · exact fillC_good ps _ r (overwrite_good h (hg p (by simp))) (fun q hq => hg q (List.mem_cons_of_mem _ hq)) hf
      · cases hf

def ext (ρ : Nat → Loc) (n : Nat) (x : Loc) : Nat → Loc := fun j => if j = n then x else ρ j
theorem ext_same (ρ : Nat → Loc) (n : Nat) (x : Loc) : ext ρ n x n = x := by simp [ext]
theorem ext_lt {ρ : Nat → Loc} {n j : Nat} {x : Loc} (h : j < n) : ext ρ n x j = ρ j := by simp [ext]; intro e; omega
theorem Lf.conc_ext {ρ : Nat → Loc} {n : Nat} {x : Loc} {l : Lf} (h : l.lt n = true) : l.conc ν (ext ρ n x) = l.conc ν ρ := by
  cases l <;> simp only [Lf.lt, decide_eq_true_eq] at h <;> simp only [Lf.conc]
  · rw [ext_lt h]
  · rw [ext_lt h]
  · rw [capsConc_lt h fun k hk => ext_lt hk]

theorem HS.new {ρ : Nat → Loc} {hp : List (Option Blk)} {w : World} (h : HS E ν ρ hp w) (hlt : hp.all (optAll (Blk.lt hp.length)) = true) {cs : List Lf} (hcs : cs.all (Lf.lt hp.length) = true) (hg : ∀ l ∈ cs, Lf.good ν l) (el : TypeId) :
    HS E ν (ext ρ hp.length ⟨w.heap.size, 0, false, 0, 0⟩) (hp ++ [some (.c true (cs.map some))]) (w.alloc (.cells (cs.map (Lf.conc ν ρ)).toArray el)) := by
  have hcase : ∀ j bk, nth (hp ++ [some (.c true (cs.map some))]) j = some bk → (nth hp j = some bk ∧ j < hp.length) ∨ (j = hp.length ∧ bk = .c true (cs.map some)) := by
    intro j bk hj
    rw [nth_append] at hj
    split at hj
    · exact .inl ⟨hj, nth_lt hj⟩
    · right
      have : j - hp.length = 0 := by
        cases hk : j - hp.length with
        | zero => rfl
        | succ k => rw [hk] at hj; cases k <;> cases hj
      rw [this] at hj
      cases hj
      exact ⟨by omega, rfl⟩
  have hb : Below w.heap.size w (w.alloc (.cells (cs.map (Lf.conc ν ρ)).toArray el)) := ⟨rfl, rfl, rfl, by simp, fun k hk => Below.heap_alloc _ _ _ hk⟩
  refine ⟨⟨fun j bk hj => ?_, fun j j' bk bk' hj ho hj' hne hn1 hn2 => ?_⟩, fun j bk hj => ?_, h.fr.trans (Fr.of_below hb), by rw [List.length_append]; have := h.len; omega, fun j hj => by rw [ext_lt (by have := h.len; omega)]; exact h.keep j hj⟩
  · rcases hcase j bk hj with ⟨hj, hjl⟩ | ⟨rfl, rfl⟩
    · rw [ext_lt hjl]
      exact (((h.heap.blk j bk hj).of_block hb.size (fun hn => hb.block _ ((h.heap.blk j bk hj).lt hn))).keep (fun k hk => ext_lt hk) (all_nth_of hlt hj))
    · rw [ext_same]
      show CBlk ν (ext ρ hp.length ⟨w.heap.size, 0, false, 0, 0⟩) (w.alloc (.cells (cs.map (Lf.conc ν ρ)).toArray el)) ⟨w.heap.size, 0, false, 0, 0⟩ true (cs.map some)
      refine ⟨rfl, by simp, fun i l hl => ?_, fun _ i hi => ?_⟩
      · rw [nth_map_some] at hl
        have hm := List.mem_of_getElem? hl
        refine ⟨hg l hm, ?_⟩
        rw [Lf.conc_ext (List.all_eq_true.1 hcs l hm)]
        simp only [Nat.zero_add]
        rw [World.cell?_alloc_new]
        simp [hl]
      · simp only [Nat.zero_add]
        rw [World.cell?_alloc_new, World.frozen?_alloc_new]
        simp at hi
        simp [hi]
  · rcases hcase j bk hj with ⟨hj, hjl⟩ | ⟨rfl, rfl⟩
    · rcases hcase j' bk' hj' with ⟨hj', hjl'⟩ | ⟨rfl, rfl⟩
      · rw [ext_lt hjl] at hn1 ⊢
        rw [ext_lt hjl'] at hn2 ⊢
        exact h.heap.apart j j' bk bk' hj ho hj' hne hn1 hn2
      · rw [ext_lt hjl] at hn1 ⊢
        rw [ext_same]
        have := (h.heap.blk j bk hj).lt hn1
        simp; omega
    · rcases hcase j' bk' hj' with ⟨hj', hjl'⟩ | ⟨rfl, rfl⟩
      · rw [ext_lt hjl'] at hn2 ⊢
        rw [ext_same]
        have := (h.heap.blk j' bk' hj').lt hn2
        simp; omega
      · exact absurd rfl hne
  · rcases hcase j bk hj with ⟨hj, hjl⟩ | ⟨rfl, rfl⟩
    · rw [ext_lt hjl]; exact h.old j bk hj
    · rw [ext_same]; exact .inr (.inl h.fr.size)

theorem HS.upd {ρ : Nat → Loc} {hp : List (Option Blk)} {w w' : World} (h : HS E ν ρ hp w) {b : Nat} {bk nb : Blk} (hbk : nth hp b = some bk) (ho : bk.own = true) (hnb : nb.own = true)
    (hb : BlkRel E ν ρ w' (ρ b) nb) (hn : (ρ b).nil = false) (hs : w'.heap.size = w.heap.size) (h1 : w'.os = w.os) (h2 : w'.tape = w.tape) (h3 : w'.output = w.output) (hk : ∀ k, k ≠ (ρ b).blk → w'.heap[k]? = w.heap[k]?) :
    HS E ν ρ (setNth (some nb) hp b) w' := by
  have hlt := nth_lt hbk
  have hcase : ∀ j bk', nth (setNth (some nb) hp b) j = some bk' → (j = b ∧ bk' = nb) ∨ (j ≠ b ∧ nth hp j = some bk') := by
    intro j bk' hj
    by_cases hjb : b = j
    · subst hjb
      rw [nth_setNth_same, if_pos hlt] at hj
      cases hj; exact .inl ⟨rfl, rfl⟩
    · rw [nth_setNth_ne _ _ _ _ hjb] at hj
      exact .inr ⟨fun e => hjb e.symm, hj⟩
  refine ⟨⟨fun j bk' hj => ?_, fun j j' bk1 bk2 hj ho1 hj' hne hn1 hn2 => ?_⟩, fun j bk' hj => ?_, ?_, by rw [setNth_length]; exact h.len, h.keep⟩
  · rcases hcase j bk' hj with ⟨rfl, rfl⟩ | ⟨hne, hj⟩
    · exact hb
    · exact (h.heap.blk j bk' hj).of_block (by omega) (fun hnj => hk _ (h.heap.apart b j bk bk' hbk ho hj (Ne.symm hne) hn hnj).symm)
  · rcases hcase j bk1 hj with ⟨e1, e2⟩ | ⟨hq1, k1⟩
    · rcases hcase j' bk2 hj' with ⟨e3, e4⟩ | ⟨hq2, k2⟩
      · exact absurd (e1.trans e3.symm) hne
      · subst e1; exact h.heap.apart j j' bk bk2 hbk ho k2 hne hn1 hn2
    · rcases hcase j' bk2 hj' with ⟨e3, e4⟩ | ⟨hq2, k2⟩
      · subst e3; exact (h.heap.apart j' j bk bk1 hbk ho k1 (Ne.symm hne) hn2 hn1).symm
      · exact h.heap.apart j j' bk1 bk2 k1 ho1 k2 hne hn1 hn2
  · rcases hcase j bk' hj with ⟨rfl, rfl⟩ | ⟨hne, hj⟩
    · rcases h.old j bk hbk with h | h | h | h
      · exact .inl h
      · exact .inr (.inl h)
      · exact .inr (.inr (.inl h))
      · rw [ho] at h; cases h.1
    · exact h.old j bk' hj
  · refine ⟨h1.trans h.fr.os, h2.trans h.fr.tape, h3.trans h.fr.output, by rw [hs]; exact h.fr.size, fun k hkl hW => ?_⟩
    have hkb : k ≠ (ρ b).blk := by
      intro e
      rcases h.old b bk hbk with h' | h' | h' | h'
      · rw [hn] at h'; cases h'
      · omega
      · exact hW (e ▸ h')
      · rw [ho] at h'; cases h'.1
    rw [hk k hkb]; exact h.fr.block k hkl hW


theorem all_setNone {α : Type} {p : Option α → Bool} (hp : p none = true) : ∀ {l : List (Option α)} {n : Nat}, l.all p = true → (setNth none l n).all p = true
  | [], _, _ => rfl
  | x :: l, 0, h => by
    simp only [List.all_cons, Bool.and_eq_true] at h
    simp [setNth, hp, h.2]
  | x :: l, n + 1, h => by
    simp only [List.all_cons, Bool.and_eq_true] at h
    simp [setNth, h.1, all_setNone hp h.2]
theorem hpLt_kill {hp : List (Option Blk)} {b : Nat} (h : hpLt hp = true) : hpLt (setNth none hp b) = true := by
  unfold hpLt at *
  rw [setNth_length]
  exact all_setNone rfl h

theorem nth_kill {α : Type} {l : List (Option α)} {b j : Nat} {x : α} (h : nth (setNth none l b) j = some x) : j ≠ b ∧ nth l j = some x := by
  by_cases hj : b = j
  · subst hj
    rw [nth_setNth_same] at h
    split at h <;> cases h
  · rw [nth_setNth_ne _ _ _ _ hj] at h
    exact ⟨fun e => hj e.symm, h⟩

theorem HS.killw {ρ : Nat → Loc} {hp : List (Option Blk)} {w w' : World} (h : HS E ν ρ hp w) {b : Nat} {bk : Blk} (hbk : nth hp b = some bk) (ho : bk.own = true) (hn : (ρ b).nil = false)
    (hs : w'.heap.size = w.heap.size) (h1 : w'.os = w.os) (h2 : w'.tape = w.tape) (h3 : w'.output = w.output) (hk : ∀ k, k ≠ (ρ b).blk → w'.heap[k]? = w.heap[k]?) : HS E ν ρ (setNth none hp b) w' := by
  refine ⟨⟨fun j bk' hj => ?_, fun j j' bk1 bk2 hj ho1 hj' hne hn1 hn2 => ?_⟩, fun j bk' hj => ?_, ?_, by rw [setNth_length]; exact h.len, h.keep⟩
  · obtain ⟨hne, hj⟩ := nth_kill hj
    exact (h.heap.blk j bk' hj).of_block (by omega) (fun hnj => hk _ (h.heap.apart b j bk bk' hbk ho hj (Ne.symm hne) hn hnj).symm)
  · exact h.heap.apart j j' bk1 bk2 (nth_kill hj).2 ho1 (nth_kill hj').2 hne hn1 hn2
  · exact h.old j bk' (nth_kill hj).2
  · refine ⟨h1.trans h.fr.os, h2.trans h.fr.tape, h3.trans h.fr.output, by rw [hs]; exact h.fr.size, fun k hkl hW => ?_⟩
    have hkb : k ≠ (ρ b).blk := by
      intro e
      rcases h.old b bk hbk with h' | h' | h' | h'
      · rw [hn] at h'; cases h'
      · omega
      · exact hW (e ▸ h')
      · rw [ho] at h'; cases h'.1
    rw [hk k hkb]; exact h.fr.block k hkl hW
theorem HS.kill {ρ : Nat → Loc} {hp : List (Option Blk)} {w : World} (h : HS E ν ρ hp w) (b : Nat) : HS E ν ρ (setNth none hp b) w :=
  ⟨⟨fun j bk' hj => h.heap.blk j bk' (nth_kill hj).2, fun j j' bk1 bk2 hj ho1 hj' hne hn1 hn2 => h.heap.apart j j' bk1 bk2 (nth_kill hj).2 ho1 (nth_kill hj').2 hne hn1 hn2⟩,
   fun j bk' hj => h.old j bk' (nth_kill hj).2, h.fr, by rw [setNth_length]; exact h.len, h.keep⟩

theorem HS.push {ρ : Nat → Loc} {hp : List (Option Blk)} {w w' : World} (h : HS E ν ρ hp w) (hlt : hpLt hp = true) (hb : Below w.heap.size w w') {bk : Blk} {r : Loc}
    (hrel : BlkRel E ν (ext ρ hp.length r) w' r bk)
    (hap : ∀ j b', nth hp j = some b' → (bk.own = true ∨ b'.own = true) → r.nil = false → (ρ j).nil = false → (ρ j).blk ≠ r.blk)
    (hold : r.nil = true ∨ E.w0.heap.size ≤ r.blk ∨ E.W r.blk ∨ (bk.own = false ∧ E.V r.blk)) : HS E ν (ext ρ hp.length r) (hp ++ [some bk]) w' := by
  have hcase : ∀ j b', nth (hp ++ [some bk]) j = some b' → (nth hp j = some b' ∧ j < hp.length) ∨ (j = hp.length ∧ b' = bk) := by
    intro j b' hj
    rw [nth_append] at hj
    split at hj
    · exact .inl ⟨hj, nth_lt hj⟩
    · right
      have : j - hp.length = 0 := by
        cases hk : j - hp.length with
        | zero => rfl
        | succ k => rw [hk] at hj; cases k <;> cases hj
      rw [this] at hj
      cases hj
      exact ⟨by omega, rfl⟩
  refine ⟨⟨fun j b' hj => ?_, fun j j' b1 b2 hj ho hj' hne hn1 hn2 => ?_⟩, fun j b' hj => ?_, h.fr.trans (Fr.of_below hb), by rw [List.length_append]; have := h.len; omega, fun j hj => by rw [ext_lt (by have := h.len; omega)]; exact h.keep j hj⟩
  · rcases hcase j b' hj with ⟨hj, hjl⟩ | ⟨rfl, rfl⟩
    · rw [ext_lt hjl]
      exact (((h.heap.blk j b' hj).of_block hb.size (fun hn => hb.block _ ((h.heap.blk j b' hj).lt hn))).keep (fun k hk => ext_lt hk) (all_nth_of hlt hj))
    · rw [ext_same]
      exact hrel
  · rcases hcase j b1 hj with ⟨kj, hjl⟩ | ⟨e1, e2⟩
    · rcases hcase j' b2 hj' with ⟨kj', hjl'⟩ | ⟨e3, e4⟩
      · rw [ext_lt hjl] at hn1 ⊢
        rw [ext_lt hjl'] at hn2 ⊢
        exact h.heap.apart j j' b1 b2 kj ho kj' hne hn1 hn2
      · subst e3
        rw [ext_lt hjl] at hn1 ⊢
        rw [ext_same] at hn2 ⊢
        exact hap j b1 kj (.inr ho) hn2 hn1
    · rcases hcase j' b2 hj' with ⟨kj', hjl'⟩ | ⟨e3, e4⟩
      · subst e1
        rw [ext_lt hjl'] at hn2 ⊢
        rw [ext_same] at hn1 ⊢
        exact (hap j' b2 kj' (.inl (by rw [← e2]; exact ho)) hn1 hn2).symm
      · exact absurd (e1.trans e3.symm) hne
  · rcases hcase j b' hj with ⟨hj, hjl⟩ | ⟨rfl, rfl⟩
    · rw [ext_lt hjl]; exact h.old j b' hj
    · rw [ext_same]; exact hold
theorem HS.fresh {ρ : Nat → Loc} {hp : List (Option Blk)} {w w' : World} (h : HS E ν ρ hp w) (hlt : hpLt hp = true) (hb : Below w.heap.size w w') {bk : Blk} {r : Loc}
    (hrel : BlkRel E ν (ext ρ hp.length r) w' r bk) (hr : r.nil = true ∨ w.heap.size ≤ r.blk) : HS E ν (ext ρ hp.length r) (hp ++ [some bk]) w' := by
  refine h.push hlt hb hrel (fun j b' hj _ hn hn' => ?_) ?_
  · have := (h.heap.blk j b' hj).lt hn'
    rcases hr with hr | hr
    · rw [hn] at hr; cases hr
    · omega
  · rcases hr with hr | hr
    · exact .inl hr
    · exact .inr (.inl (Nat.le_trans h.fr.size hr))
theorem HS.reloc {ρ ρ' : Nat → Loc} {hp : List (Option Blk)} {w : World} (h : HS E ν ρ hp w) (hlt : hpLt hp = true) (hρ : ∀ j, j < hp.length → ρ' j = ρ j) : HS E ν ρ' hp w := by
  refine ⟨⟨fun j bk hj => ?_, fun j j' b1 b2 hj ho hj' hne hn1 hn2 => ?_⟩, fun j bk hj => ?_, h.fr, h.len, fun j hj => by rw [hρ j (by have := h.len; omega)]; exact h.keep j hj⟩
  · rw [hρ j (nth_lt hj)]
    exact (h.heap.blk j bk hj).keep hρ (all_nth_of hlt hj)
  · rw [hρ j (nth_lt hj)] at hn1 ⊢
    rw [hρ j' (nth_lt hj')] at hn2 ⊢
    exact h.heap.apart j j' b1 b2 hj ho hj' hne hn1 hn2
  · rw [hρ j (nth_lt hj)]
    exact h.old j bk hj
end
end Go.Sx

