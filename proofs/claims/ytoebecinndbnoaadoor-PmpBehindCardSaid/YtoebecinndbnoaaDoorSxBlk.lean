/- Blocks of memory: what is known of them; loads and stores. -/
import Derived.Test.YtoebecinndbnoaaDoorSxMem
namespace Go.Sx
open Go.RowKit

/-- What the world holds of a block that the evaluator knows. -/
structure BlkRel (ν : Nat → DV) (ρ : Nat → Nat × Nat) (w : World) (j : Nat) (bk : Blk) : Prop where
  lt : (ρ j).1 < w.heap.size
  cell : ∀ i l, nth bk.cs i = some l → l.good ν ∧ w.cell? ⟨(ρ j).1, (ρ j).2 + i, none⟩ = some (l.conc ν ρ)
  own : bk.own = true → ∀ i, i < bk.cs.length → (w.cell? ⟨(ρ j).1, (ρ j).2 + i, none⟩).isSome = true ∧ w.frozen? ⟨(ρ j).1, (ρ j).2 + i, none⟩ = false

structure HRel (ν : Nat → DV) (ρ : Nat → Nat × Nat) (hp : List (Option Blk)) (w : World) : Prop where
  blk : ∀ j bk, nth hp j = some bk → BlkRel ν ρ w j bk
  apart : ∀ j j' bk bk', nth hp j = some bk → bk.own = true → nth hp j' = some bk' → j ≠ j' → (ρ j).1 ≠ (ρ j').1

/-- Nothing that stood before has turned, but in the blocks of W. -/
structure Fr (W : Nat → Prop) (w0 w : World) : Prop where
  os : w.os = w0.os
  tape : w.tape = w0.tape
  output : w.output = w0.output
  size : w0.heap.size ≤ w.heap.size
  block : ∀ b, b < w0.heap.size → ¬ W b → w.heap[b]? = w0.heap[b]?

theorem Fr.refl (W : Nat → Prop) (w : World) : Fr W w w := ⟨rfl, rfl, rfl, Nat.le_refl _, fun _ _ _ => rfl⟩
theorem Fr.trans {W : Nat → Prop} {a b c : World} (h : Fr W a b) (k : Fr W b c) : Fr W a c :=
  ⟨k.os.trans h.os, k.tape.trans h.tape, k.output.trans h.output, Nat.le_trans h.size k.size,
   fun i hi hw => (k.block i (Nat.lt_of_lt_of_le hi h.size) hw).trans (h.block i hi hw)⟩
theorem Fr.of_below {W : Nat → Prop} {w w' : World} (h : Below w.heap.size w w') : Fr W w w' :=
  ⟨h.os, h.tape, h.output, h.size, fun b hb _ => h.block b hb⟩
theorem Fr.below {w w' : World} (h : Fr (fun _ => False) w w') : Below w.heap.size w w' :=
  ⟨h.os, h.tape, h.output, h.size, fun b hb => h.block b hb (fun f => f)⟩
theorem Fr.weaken {W W' : Nat → Prop} {w w' : World} (h : Fr W w w') (hw : ∀ b, W b → W' b) : Fr W' w w' :=
  ⟨h.os, h.tape, h.output, h.size, fun b hb hn => h.block b hb (fun x => hn (hw b x))⟩

/-- The known blocks that may be written are new, or among W. -/
def OwnF (W : Nat → Prop) (w0 : World) (ρ : Nat → Nat × Nat) (hp : List (Option Blk)) : Prop :=
  ∀ j bk, nth hp j = some bk → bk.own = true → w0.heap.size ≤ (ρ j).1 ∨ W (ρ j).1

section
variable {P : Program} {F : FEnv} {ν : Nat → DV} {ρ : Nat → Nat × Nat} {w : World}

/-- Blocks of which the heap holds the same read the same. -/
theorem BlkRel.of_block {w w' : World} {j : Nat} {bk : Blk} (h : BlkRel ν ρ w j bk) (hs : w.heap.size ≤ w'.heap.size) (hb : w'.heap[(ρ j).1]? = w.heap[(ρ j).1]?) : BlkRel ν ρ w' j bk := by
  have hc : ∀ i, w'.cell? ⟨(ρ j).1, i, none⟩ = w.cell? ⟨(ρ j).1, i, none⟩ := fun i => World.cell?_of_block (w := w) hb
  have hf : ∀ i, w'.frozen? ⟨(ρ j).1, i, none⟩ = w.frozen? ⟨(ρ j).1, i, none⟩ := fun i => World.frozen?_of_block (w := w) hb
  exact ⟨Nat.lt_of_lt_of_le h.lt hs, fun i l hl => by rw [hc]; exact h.cell i l hl, fun ho i hi => by rw [hc, hf]; exact h.own ho i hi⟩

theorem HRel.of_below {hp : List (Option Blk)} {w w' : World} (h : HRel ν ρ hp w) (hb : Below w.heap.size w w') : HRel ν ρ hp w' :=
  ⟨fun j bk hj => (h.blk j bk hj).of_block hb.size (hb.block _ (h.blk j bk hj).lt), h.apart⟩

theorem addr_add (b o k : Nat) : (⟨b, o, none⟩ : Addr).add k = ⟨b, o + k, none⟩ := by
  unfold Addr.add
  split
  · rename_i h; subst h; rfl
  · rfl

theorem run_loadVar_agg {t : TypeId} {k : TK} {sz : Nat} (hk : tk P t = some k) (ha : isAggT k = true) (hs : tsize P t = some sz) {b o : Nat} {vs : List Value} (hlen : vs.length = sz)
    (hc : ∀ j v, vs[j]? = some v → w.cell? ⟨b, o + j, none⟩ = some v) : (loadVar t ⟨b, o, none⟩).run P w = .ok (.agg vs.toArray) w := by
  have hl := run_loadCells_list (P := P) w ⟨b, o, none⟩ vs (fun j v hv => by rw [addr_add]; exact hc j v hv)
  rw [hlen] at hl
  simp only [loadVar, Sem.run_bind, run_isAgg hk, ha, Result.andThen_ok, if_true, run_size hs, hl, Sem.run_pure]

theorem run_loadVar_one {t : TypeId} {k : TK} (hk : tk P t = some k) (ha : ¬ isAggT k = true) {b o : Nat} {v : Value}
    (hc : w.cell? ⟨b, o, none⟩ = some v) : (loadVar t ⟨b, o, none⟩).run P w = .ok v w := by
  simp only [loadVar, Sem.run_bind, run_isAgg hk, ha, Result.andThen_ok, if_false, Bool.false_eq_true, run_load, hc]

theorem loadAt_sat {t : TypeId} {k : TK} {sz : Nat} {bk : Blk} {off : Off} (hk : tk P t = some k) (hs : tsize P t = some sz) (hg : off.good ν) :
    M.sat F ν (loadAt bk off (isAggT k) sz) (fun v => ∀ ρ w j, BlkRel ν ρ w j bk → v.good ν ∧ (loadVar t ⟨(ρ j).1, (ρ j).2 + off.val ν, none⟩).run P w = .ok (v.conc ν ρ) w) := by
  unfold loadAt
  split
  · rename_i o ha
    refine sat_bind (sat_lift (Q := fun xs => takeCells bk.cs o sz = some xs) fun a h => h) fun xs hxs => sat_pure fun ρ w j hb => ?_
    obtain ⟨h1, h2⟩ := takeCells_spec hxs
    have hcell : ∀ i l, xs[i]? = some l → nth bk.cs (o + i) = some l := fun i l hl => by
      rw [h2 i (by have := (List.getElem?_eq_some_iff.1 hl).1; omega)]; exact hl
    refine ⟨V1.good_agg.2 fun x hx => ?_, ?_⟩
    · obtain ⟨i, hi, rfl⟩ := List.mem_iff_getElem.1 hx
      exact (hb.cell (o + i) _ (hcell i _ (List.getElem?_eq_getElem hi))).1
    · refine run_loadVar_agg hk ha hs (by simpa using h1) fun i v hv => ?_
      rw [List.getElem?_map] at hv
      obtain ⟨l, hl, rfl⟩ := Option.map_eq_some_iff.1 hv
      have := (hb.cell (o + i) l (hcell i l hl)).2
      simpa [Off.val, Nat.add_assoc] using this
  · rename_i o ha
    refine sat_bind (sat_lift (Q := fun x => cellAt bk.cs o = some x) fun a h => h) fun x hx => sat_pure fun ρ w j hb => ?_
    rw [cellAt_eq] at hx
    have := hb.cell o x hx
    exact ⟨V1.good_one.2 this.1, run_loadVar_one hk (by simp [ha]) this.2⟩
  · rename_i base ix sz' len ha
    refine sat_bind (selAgg_sat hg.1 hg.2 sz base) fun xs hxs => sat_pure fun ρ w j hb => ?_
    obtain ⟨h1, h2, h3⟩ := hxs
    refine ⟨V1.good_agg.2 h2, ?_⟩
    refine run_loadVar_agg hk ha hs (by simpa using h1) fun i v hv => ?_
    rw [List.getElem?_map] at hv
    obtain ⟨l, hl, rfl⟩ := Option.map_eq_some_iff.1 hv
    obtain ⟨x, y, e1, e2, e3⟩ := h3 ρ i (by have := (List.getElem?_eq_some_iff.1 hl).1; omega)
    rw [e1] at hl
    cases hl
    have := (hb.cell _ y e2).2
    rw [e3, ← this]
    simp only [Off.val]
    congr 2
    omega
  · rename_i base ix sz' len ha
    refine sat_bind (sat_lift (Q := fun row => rowCells bk.cs base sz' len = some row) fun a h => h) fun row hrow => ?_
    obtain ⟨h1, h2⟩ := rowCells_spec hrow
    refine sat_bind (selLeaf_sat h1 hg.1 hg.2) fun x hx => sat_pure fun ρ w j hb => ?_
    obtain ⟨y, hy, he⟩ := hx.2 ρ
    refine ⟨V1.good_one.2 hx.1, run_loadVar_one hk (by simp [ha]) ?_⟩
    rw [← h2 _ (by have := hg.1; have := hg.2; omega)] at hy
    have := (hb.cell _ y hy).2
    rw [V1.conc, he, ← this]
    simp only [Off.val]

/-! ### Where ways meet -/
theorem Off.beq_spec {a b : Off} (h : a.beq b = true) : a.val ν = b.val ν ∧ (b.good ν → a.good ν) := by
  cases a <;> cases b <;> simp [Off.beq] at h
  · subst h; exact ⟨rfl, id⟩
  · rename_i x1 x2 x3 x4 y1 y2 y3 y4
    obtain ⟨⟨⟨rfl, h2⟩, rfl⟩, rfl⟩ := h
    have := A.beq_den h2 ν
    have e : A.int ν x2 = A.int ν y2 := by simp [A.int, this]
    exact ⟨by simp [Off.val, e], by simp [Off.good, e]⟩

theorem Lf.beq_spec {a b : Lf} (h : a.beq b = true) : (∀ ρ, a.conc ν ρ = b.conc ν ρ) ∧ (b.good ν → a.good ν) := by
  cases a <;> cases b <;> simp [Lf.beq] at h
  · obtain ⟨h1, h2⟩ := h
    have := kEq_eq h1; subst this
    have := A.beq_den h2 ν
    exact ⟨fun ρ => by simp [Lf.conc, A.int, this], fun _ => trivial⟩
  · have := A.beq_den h ν
    exact ⟨fun ρ => by simp [Lf.conc, A.bool, this], fun _ => trivial⟩
  · obtain ⟨rfl, h2⟩ := h
    obtain ⟨h3, h4⟩ := Off.beq_spec (ν := ν) h2
    exact ⟨fun ρ => by simp [Lf.conc, h3], h4⟩
  · obtain ⟨rfl, h2⟩ := h
    obtain ⟨h3, h4⟩ := Off.beq_spec (ν := ν) h2
    exact ⟨fun ρ => by simp [Lf.conc, h3], h4⟩
  · exact ⟨fun ρ => rfl, id⟩

theorem Off.good_of_beq {a b : Off} (h : a.beq b = true) (hg : a.good ν) : b.good ν := by
  cases a <;> cases b <;> simp [Off.beq] at h
  · trivial
  · rename_i x1 x2 x3 x4 y1 y2 y3 y4
    obtain ⟨⟨⟨rfl, h2⟩, rfl⟩, rfl⟩ := h
    have := A.beq_den h2 ν
    have e : A.int ν x2 = A.int ν y2 := by simp [A.int, this]
    simpa [Off.good, e] using hg
theorem Lf.good_of_beq {a b : Lf} (h : a.beq b = true) (hg : a.good ν) : b.good ν := by
  cases a <;> cases b <;> simp [Lf.beq] at h <;> first | trivial | exact Off.good_of_beq h.2 hg

/-- m is x where c holds, and y where it doesn't. -/
def MLf (ν : Nat → DV) (c : A) (x y m : Lf) : Prop :=
  (c.bool ν = true → (∀ ρ, m.conc ν ρ = x.conc ν ρ) ∧ (x.good ν → m.good ν)) ∧
  (c.bool ν = false → (∀ ρ, m.conc ν ρ = y.conc ν ρ) ∧ (y.good ν → m.good ν))

theorem mergeLf_sat {c : A} {x y : Lf} : M.sat F ν (mergeLf c x y) (fun o => ∀ m, o = some m → MLf ν c x y m) := by
  unfold mergeLf
  refine sat_ite (fun h => sat_pure fun m hm => ?_) (fun _ => ?_)
  · cases hm
    exact ⟨fun _ => ⟨fun _ => rfl, id⟩, fun _ => Lf.beq_spec h⟩
  · split
    · refine sat_ite (fun hk => ?_) (fun _ => sat_pure fun m hm => by cases hm)
      have := kEq_eq hk; subst this
      refine sat_bind mkIteI_sat fun r hr => sat_pure fun m hm => ?_
      cases hm
      exact ⟨fun h => ⟨fun ρ => by simp [Lf.conc, hr, h], fun _ => trivial⟩, fun h => ⟨fun ρ => by simp [Lf.conc, hr, h], fun _ => trivial⟩⟩
    · refine sat_bind mkIteB_sat fun r hr => sat_pure fun m hm => ?_
      cases hm
      exact ⟨fun h => ⟨fun ρ => by simp [Lf.conc, hr, h], fun _ => trivial⟩, fun h => ⟨fun ρ => by simp [Lf.conc, hr, h], fun _ => trivial⟩⟩
    · exact sat_pure fun m hm => by cases hm

def MLfs (ν : Nat → DV) (c : A) : List Lf → List Lf → List Lf → Prop
  | [], [], [] => True
  | x :: l, y :: l', m :: r => MLf ν c x y m ∧ MLfs ν c l l' r
  | _, _, _ => False

theorem mergeLfs_sat {c : A} : ∀ (l l' : List Lf), M.sat F ν (mergeLfs c l l') (fun o => ∀ m, o = some m → MLfs ν c l l' m)
  | [], [] => sat_pure fun m hm => by cases hm; trivial
  | x :: l, y :: l' => by
    unfold mergeLfs
    refine sat_bind mergeLf_sat fun a ha => sat_bind (mergeLfs_sat l l') fun b hb => sat_pure fun m hm => ?_
    split at hm
    · cases hm; exact ⟨ha _ rfl, hb _ rfl⟩
    · cases hm
  | [], _ :: _ => sat_pure fun m hm => by cases hm
  | _ :: _, [] => sat_pure fun m hm => by cases hm

theorem MLfs.left {c : A} (h : c.bool ν = true) : ∀ {l l' m : List Lf}, MLfs ν c l l' m → (∀ ρ, m.map (Lf.conc ν ρ) = l.map (Lf.conc ν ρ)) ∧ ((∀ x ∈ l, x.good ν) → ∀ x ∈ m, x.good ν)
  | [], [], [], _ => ⟨fun _ => rfl, fun h => h⟩
  | x :: l, y :: l', m :: r, hm => by
    obtain ⟨h1, h2⟩ := hm.2.left h
    obtain ⟨h3, h4⟩ := hm.1.1 h
    refine ⟨fun ρ => by simp [h3 ρ, h1 ρ], fun hg z hz => ?_⟩
    rcases List.mem_cons.1 hz with rfl | hz
    · exact h4 (hg x (by simp))
    · exact h2 (fun u hu => hg u (List.mem_cons_of_mem _ hu)) z hz
theorem MLfs.right {c : A} (h : c.bool ν = false) : ∀ {l l' m : List Lf}, MLfs ν c l l' m → (∀ ρ, m.map (Lf.conc ν ρ) = l'.map (Lf.conc ν ρ)) ∧ ((∀ x ∈ l', x.good ν) → ∀ x ∈ m, x.good ν)
  | [], [], [], _ => ⟨fun _ => rfl, fun h => h⟩
  | x :: l, y :: l', m :: r, hm => by
    obtain ⟨h1, h2⟩ := hm.2.right h
    obtain ⟨h3, h4⟩ := hm.1.2 h
    refine ⟨fun ρ => by simp [h3 ρ, h1 ρ], fun hg z hz => ?_⟩
    rcases List.mem_cons.1 hz with rfl | hz
    · exact h4 (hg y (by simp))
    · exact h2 (fun u hu => hg u (List.mem_cons_of_mem _ hu)) z hz

def MV1 (ν : Nat → DV) (c : A) (x y m : V1) : Prop :=
  (c.bool ν = true → (∀ ρ, m.conc ν ρ = x.conc ν ρ) ∧ (x.good ν → m.good ν)) ∧
  (c.bool ν = false → (∀ ρ, m.conc ν ρ = y.conc ν ρ) ∧ (y.good ν → m.good ν))

theorem mergeV1_sat {c : A} {x y : V1} : M.sat F ν (mergeV1 c x y) (fun o => ∀ m, o = some m → MV1 ν c x y m) := by
  unfold mergeV1
  split
  · refine sat_bind mergeLf_sat fun a ha => sat_pure fun m hm => ?_
    obtain ⟨l, hl, rfl⟩ := Option.map_eq_some_iff.1 hm
    have := ha l hl
    exact ⟨fun h => ⟨fun ρ => (this.1 h).1 ρ, fun hg => V1.good_one.2 ((this.1 h).2 (V1.good_one.1 hg))⟩, fun h => ⟨fun ρ => (this.2 h).1 ρ, fun hg => V1.good_one.2 ((this.2 h).2 (V1.good_one.1 hg))⟩⟩
  · refine sat_bind (mergeLfs_sat _ _) fun a ha => sat_pure fun m hm => ?_
    obtain ⟨l, hl, rfl⟩ := Option.map_eq_some_iff.1 hm
    have := ha l hl
    exact ⟨fun h => ⟨fun ρ => by simp only [V1.conc, (this.left h).1 ρ], fun hg => V1.good_agg.2 ((this.left h).2 (V1.good_agg.1 hg))⟩,
      fun h => ⟨fun ρ => by simp only [V1.conc, (this.right h).1 ρ], fun hg => V1.good_agg.2 ((this.right h).2 (V1.good_agg.1 hg))⟩⟩
  · exact sat_pure fun m hm => by cases hm

def MV1s (ν : Nat → DV) (c : A) : List V1 → List V1 → List V1 → Prop
  | [], [], [] => True
  | x :: l, y :: l', m :: r => MV1 ν c x y m ∧ MV1s ν c l l' r
  | _, _, _ => False
theorem mergeV1s_sat {c : A} : ∀ (l l' : List V1), M.sat F ν (mergeV1s c l l') (fun o => ∀ m, o = some m → MV1s ν c l l' m)
  | [], [] => sat_pure fun m hm => by cases hm; trivial
  | x :: l, y :: l' => by
    unfold mergeV1s
    refine sat_bind mergeV1_sat fun a ha => sat_bind (mergeV1s_sat l l') fun b hb => sat_pure fun m hm => ?_
    split at hm
    · cases hm; exact ⟨ha _ rfl, hb _ rfl⟩
    · cases hm
  | [], _ :: _ => sat_pure fun m hm => by cases hm
  | _ :: _, [] => sat_pure fun m hm => by cases hm
theorem MV1s.left {c : A} (h : c.bool ν = true) : ∀ {l l' m : List V1}, MV1s ν c l l' m → (∀ ρ, m.map (V1.conc ν ρ) = l.map (V1.conc ν ρ)) ∧ ((∀ x ∈ l, V1.good ν x) → ∀ x ∈ m, V1.good ν x)
  | [], [], [], _ => ⟨fun _ => rfl, fun h => h⟩
  | x :: l, y :: l', m :: r, hm => by
    obtain ⟨h1, h2⟩ := hm.2.left h
    obtain ⟨h3, h4⟩ := hm.1.1 h
    refine ⟨fun ρ => by simp [h3 ρ, h1 ρ], fun hg z hz => ?_⟩
    rcases List.mem_cons.1 hz with rfl | hz
    · exact h4 (hg x (by simp))
    · exact h2 (fun u hu => hg u (List.mem_cons_of_mem _ hu)) z hz
theorem MV1s.right {c : A} (h : c.bool ν = false) : ∀ {l l' m : List V1}, MV1s ν c l l' m → (∀ ρ, m.map (V1.conc ν ρ) = l'.map (V1.conc ν ρ)) ∧ ((∀ x ∈ l', V1.good ν x) → ∀ x ∈ m, V1.good ν x)
  | [], [], [], _ => ⟨fun _ => rfl, fun h => h⟩
  | x :: l, y :: l', m :: r, hm => by
    obtain ⟨h1, h2⟩ := hm.2.right h
    obtain ⟨h3, h4⟩ := hm.1.2 h
    refine ⟨fun ρ => by simp [h3 ρ, h1 ρ], fun hg z hz => ?_⟩
    rcases List.mem_cons.1 hz with rfl | hz
    · exact h4 (hg y (by simp))
    · exact h2 (fun u hu => hg u (List.mem_cons_of_mem _ hu)) z hz

def MV (ν : Nat → DV) (c : A) (x y m : V) : Prop :=
  (c.bool ν = true → (∀ ρ, m.conc ν ρ = x.conc ν ρ) ∧ (x.good ν → m.good ν)) ∧
  (c.bool ν = false → (∀ ρ, m.conc ν ρ = y.conc ν ρ) ∧ (y.good ν → m.good ν))
theorem mergeV_sat {c : A} {x y : V} : M.sat F ν (mergeV c x y) (fun o => ∀ m, o = some m → MV ν c x y m) := by
  unfold mergeV
  split
  · refine sat_bind mergeV1_sat fun a ha => sat_pure fun m hm => ?_
    obtain ⟨l, hl, rfl⟩ := Option.map_eq_some_iff.1 hm
    exact ha l hl
  · refine sat_bind (mergeV1s_sat _ _) fun a ha => sat_pure fun m hm => ?_
    obtain ⟨l, hl, rfl⟩ := Option.map_eq_some_iff.1 hm
    have := ha l hl
    exact ⟨fun h => ⟨fun ρ => by simp only [V.conc, (this.left h).1 ρ], fun hg => (this.left h).2 hg⟩,
      fun h => ⟨fun ρ => by simp only [V.conc, (this.right h).1 ρ], fun hg => (this.right h).2 hg⟩⟩
  · exact sat_pure fun m hm => by cases hm

theorem mergeOrFail_sat {c : A} {x y : V} : M.sat F ν (mergeOrFail c x y) (fun m => MV ν c x y m) := by
  unfold mergeOrFail
  refine sat_bind mergeV_sat fun o ho => ?_
  split
  · exact sat_pure (ho _ rfl)
  · exact sat_fail

theorem mergeSlots_sat {c : A} : ∀ (l l' : List (Option V)), M.sat F ν (mergeSlots c l l') (fun m => (l.length = l'.length → m.length = l.length) ∧
    ∀ t v, nth m t = some v → ∃ x y, nth l t = some x ∧ nth l' t = some y ∧ MV ν c x y v)
  | some x :: l, some y :: l' => by
    unfold mergeSlots
    refine sat_bind mergeV_sat fun a ha => sat_bind (mergeSlots_sat l l') fun r hr => sat_pure ⟨fun h => by simp at h; simp [hr.1 h], fun t v hv => ?_⟩
    cases t with
    | zero => exact ⟨x, y, rfl, rfl, ha v hv⟩
    | succ t => exact hr.2 t v hv
  | none :: l, y :: l' => by
    unfold mergeSlots
    refine sat_bind (mergeSlots_sat l l') fun r hr => sat_pure ⟨fun h => by simp at h; simp [hr.1 h], fun t v hv => ?_⟩
    cases t with
    | zero => cases hv
    | succ t => exact hr.2 t v hv
  | some x :: l, none :: l' => by
    unfold mergeSlots
    refine sat_bind (mergeSlots_sat l l') fun r hr => sat_pure ⟨fun h => by simp at h; simp [hr.1 h], fun t v hv => ?_⟩
    cases t with
    | zero => cases hv
    | succ t => exact hr.2 t v hv
  | [], l' => by
    unfold mergeSlots
    exact sat_pure ⟨fun _ => rfl, fun t v hv => by cases t <;> cases hv⟩
  | x :: l, [] => by
    cases x <;> (unfold mergeSlots; exact sat_pure ⟨fun h => by simp at h, fun t v hv => by cases t <;> cases hv⟩)

theorem mergeCells_sat {c : A} : ∀ (l l' : List (Option Lf)), M.sat F ν (mergeCells c l l') (fun m => (l.length = l'.length → m.length = l.length) ∧
    ∀ t v, nth m t = some v → ∃ x y, nth l t = some x ∧ nth l' t = some y ∧ MLf ν c x y v)
  | some x :: l, some y :: l' => by
    unfold mergeCells
    refine sat_bind mergeLf_sat fun a ha => sat_bind (mergeCells_sat l l') fun r hr => sat_pure ⟨fun h => by simp at h; simp [hr.1 h], fun t v hv => ?_⟩
    cases t with
    | zero => exact ⟨x, y, rfl, rfl, ha v hv⟩
    | succ t => exact hr.2 t v hv
  | none :: l, y :: l' => by
    unfold mergeCells
    refine sat_bind (mergeCells_sat l l') fun r hr => sat_pure ⟨fun h => by simp at h; simp [hr.1 h], fun t v hv => ?_⟩
    cases t with
    | zero => cases hv
    | succ t => exact hr.2 t v hv
  | some x :: l, none :: l' => by
    unfold mergeCells
    refine sat_bind (mergeCells_sat l l') fun r hr => sat_pure ⟨fun h => by simp at h; simp [hr.1 h], fun t v hv => ?_⟩
    cases t with
    | zero => cases hv
    | succ t => exact hr.2 t v hv
  | [], l' => by
    unfold mergeCells
    exact sat_pure ⟨fun _ => rfl, fun t v hv => by cases t <;> cases hv⟩
  | x :: l, [] => by
    cases x <;> (unfold mergeCells; exact sat_pure ⟨fun h => by simp at h, fun t v hv => by cases t <;> cases hv⟩)

/-- m is a block that is x's where c holds, y's where it doesn't. -/
def MBlk (ν : Nat → DV) (c : A) (x y m : Blk) : Prop :=
  m.own = x.own ∧ m.own = y.own ∧ m.cs.length = x.cs.length ∧ m.cs.length = y.cs.length ∧
    ∀ t v, nth m.cs t = some v → ∃ a b, nth x.cs t = some a ∧ nth y.cs t = some b ∧ MLf ν c a b v

theorem mergeBlk_sat {c : A} {x y : Option Blk} : M.sat F ν (mergeBlk c x y) (fun o => ∀ m, o = some m → ∃ x' y', x = some x' ∧ y = some y' ∧ MBlk ν c x' y' m) := by
  unfold mergeBlk
  split
  · rename_i x y
    refine sat_ite (fun hc => ?_) (fun _ => sat_pure fun m hm => by cases hm)
    simp only [Bool.and_eq_true, beq_iff_eq] at hc
    have hcl := Nat.eq_of_beq_eq_true hc.2
    refine sat_bind (mergeCells_sat _ _) fun a ha => sat_pure fun m hm => ?_
    cases hm
    exact ⟨x, y, rfl, rfl, rfl, hc.1, ha.1 hcl, (ha.1 hcl).trans hcl, ha.2⟩
  · exact sat_pure fun m hm => by cases hm

theorem mergeHeap_sat {c : A} : ∀ (l l' : List (Option Blk)), M.sat F ν (mergeHeap c l l') (fun m =>
    ∀ t v, nth m t = some v → ∃ x y, nth l t = some x ∧ nth l' t = some y ∧ MBlk ν c x y v)
  | [], l' => by
    unfold mergeHeap
    refine sat_pure fun t v hv => ?_
    exfalso
    induction l' generalizing t with
    | nil => cases t <;> cases hv
    | cons y l' ih => cases t with
      | zero => cases hv
      | succ t => exact ih t hv
  | x :: l, l' => by
    unfold mergeHeap
    refine sat_bind mergeBlk_sat fun a ha => sat_bind (mergeHeap_sat l l'.tail) fun r hr => sat_pure fun t v hv => ?_
    cases t with
    | zero =>
      obtain ⟨x', y', h1, h2, h3⟩ := ha v hv
      refine ⟨x', y', h1, ?_, h3⟩
      cases l' with
      | nil => cases h2
      | cons y l' => exact h2
    | succ t =>
      obtain ⟨x', y', h1, h2, h3⟩ := hr t v hv
      refine ⟨x', y', h1, ?_, h3⟩
      cases l' with
      | nil => cases t <;> cases h2
      | cons y l' => exact h2
end
end Go.Sx
