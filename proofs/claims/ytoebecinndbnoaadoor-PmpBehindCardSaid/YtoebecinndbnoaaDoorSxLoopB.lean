/- A loop as a function of its own: blocks; a round; the loop. -/
import Derived.Test.YtoebecinndbnoaaDoorSxLoop
namespace Go.Sx
open Go.RowKit
section
variable {P : Program} {I : World → Prop} {S : Sigs} {F : FEnv} {W : Nat → Prop} {w0 : World}

/-- v's cells are y's, where v's are known. -/
def CellsTo (ν1 ν2 : Nat → DV) (y z : List (Option Lf)) : Prop :=
  z.length = y.length ∧ ∀ i l, nth z i = some l → ∃ u, nth y i = some u ∧ (∀ ρ, u.conc ν1 ρ = l.conc ν2 ρ) ∧ (u.good ν1 → l.good ν2)

theorem fitCells_len : ∀ {x y : List (Option Lf)} {as : List A}, fitCells x y = some as → as.length = (x.filterMap fun c => c.map isIntLf).length ∧ x.length = y.length
  | [], [], as, h => by simp [fitCells] at h; subst h; exact ⟨rfl, rfl⟩
  | some x :: l, some y :: l', as, h => by
    simp only [fitCells] at h
    cases e : fitLf x y with
    | none => simp [e] at h
    | some a =>
      simp only [e] at h
      obtain ⟨r, hr, rfl⟩ := Option.map_eq_some_iff.1 h
      obtain ⟨h1, h2⟩ := fitCells_len hr
      exact ⟨by simp [h1], by simp [h2]⟩
  | [], _ :: _, _, h => by simp [fitCells] at h
  | none :: _, _, _, h => by simp [fitCells] at h
  | some _ :: _, [], _, h => by simp [fitCells] at h
  | some _ :: _, none :: _, _, h => by simp [fitCells] at h

theorem fitCells_spec {ν1 ν2 : Nat → DV} : ∀ {x y z : List (Option Lf)} {as bs : List A}, fitCells x y = some as → fitCells x z = some bs → PEq ν1 ν2 (x.filterMap fun c => c.map isIntLf) as bs → CellsTo ν1 ν2 y z
  | [], [], [], _, _, _, _, _ => ⟨rfl, fun i l hl => by cases i <;> cases hl⟩
  | some x :: l, some y :: l', some z :: l'', as, bs, h1, h2, he => by
    simp only [fitCells] at h1 h2
    cases e1 : fitLf x y with
    | none => simp [e1] at h1
    | some a =>
      cases e2 : fitLf x z with
      | none => simp [e2] at h2
      | some b =>
        simp only [e1] at h1
        simp only [e2] at h2
        obtain ⟨r1, hr1, rfl⟩ := Option.map_eq_some_iff.1 h1
        obtain ⟨r2, hr2, rfl⟩ := Option.map_eq_some_iff.1 h2
        simp only [List.filterMap_cons, Option.map_some] at he
        obtain ⟨g1, g2⟩ := fitLf_spec e1 e2 he.1
        obtain ⟨g3, g4⟩ := fitCells_spec hr1 hr2 he.2
        refine ⟨by simp [g3], fun i v hv => ?_⟩
        cases i with
        | zero => cases hv; exact ⟨y, rfl, g1, fun _ => g2⟩
        | succ i => exact g4 i v hv
  | [], [], _ :: _, _, _, _, h2, _ => by simp [fitCells] at h2
  | [], _ :: _, _, _, _, h1, _, _ => by simp [fitCells] at h1
  | none :: _, _, _, _, _, h1, _, _ => by simp [fitCells] at h1
  | some _ :: _, [], _, _, _, h1, _, _ => by simp [fitCells] at h1
  | some _ :: _, none :: _, _, _, _, h1, _, _ => by simp [fitCells] at h1
  | some _ :: _, some _ :: _, [], _, _, _, h2, _ => by simp [fitCells] at h2
  | some _ :: _, some _ :: _, none :: _, _, _, _, h2, _ => by simp [fitCells] at h2

theorem sameCells_spec {ν1 ν2 : Nat → DV} {n : Nat} (hn : ∀ i, i < n → ν2 i = ν1 i) : ∀ {x y z : List (Option Lf)}, x.all (optAll (Lf.below n)) = true → sameCells x y = true → sameCells x z = true → knownCells z x = true → CellsTo ν1 ν2 y z
  | [], [], [], _, _, _, _ => ⟨rfl, fun i l hl => by cases i <;> cases hl⟩
  | x :: l, y :: l', z :: l'', hb, h1, h2, hk => by
    simp only [List.all_cons, Bool.and_eq_true] at hb
    cases x with
    | none =>
      simp only [sameCells] at h1 h2
      cases z with
      | some z => simp [knownCells] at hk
      | none =>
        simp only [knownCells] at hk
        obtain ⟨g1, g2⟩ := sameCells_spec hn hb.2 h1 h2 hk
        refine ⟨by simp [g1], fun i v hv => ?_⟩
        cases i with
        | zero => cases hv
        | succ i => exact g2 i v hv
    | some x =>
      cases y with
      | none => simp [sameCells] at h1
      | some y =>
        cases z with
        | none => simp [sameCells] at h2
        | some z =>
          simp only [sameCells, Bool.and_eq_true] at h1 h2
          simp only [knownCells] at hk
          obtain ⟨g1, g2⟩ := sameCells_spec hn hb.2 h1.2 h2.2 hk
          obtain ⟨g3, g4⟩ := Lf.through hn (show x.below n = true from hb.1) h1.1 h2.1
          refine ⟨by simp [g1], fun i v hv => ?_⟩
          cases i with
          | zero => cases hv; exact ⟨y, rfl, g3, g4⟩
          | succ i => exact g2 i v hv
  | [], [], _ :: _, _, _, h2, _ => by simp [sameCells] at h2
  | [], _ :: _, _, _, h1, _, _ => by simp [sameCells] at h1
  | none :: _, [], _, _, h1, _, _ => by simp [sameCells] at h1
  | some _ :: _, [], _, _, h1, _, _ => by simp [sameCells] at h1
  | none :: _, _ :: _, [], _, _, h2, _ => by simp [sameCells] at h2
  | some _ :: _, _ :: _, [], _, _, h2, _ => by simp [sameCells] at h2

def BlkTo (ν1 ν2 : Nat → DV) (y z : Blk) : Prop := z.own = y.own ∧ CellsTo ν1 ν2 y.cs z.cs

theorem heapTypes_cons_some (B : List Nat) (j : Nat) (x : Blk) (l : List (Option Blk)) : heapTypes B j (some x :: l) = (if memN j B then x.cs.filterMap (fun c => c.map isIntLf) else []) ++ heapTypes B (j + 1) l := rfl

theorem fitHeap_len {B : List Nat} : ∀ {x y : List (Option Blk)} {j : Nat} {as : List A}, fitHeap B j x y = some as → as.length = (heapTypes B j x).length
  | [], y, j, as, h => by simp [fitHeap] at h; subst h; rfl
  | none :: l, y :: l', j, as, h => by simp only [fitHeap] at h; exact (fitHeap_len h : _ = (heapTypes B (j + 1) l).length)
  | none :: l, [], j, as, h => by simp only [fitHeap] at h; exact (fitHeap_len h : _ = (heapTypes B (j + 1) l).length)
  | some x :: l, some y :: l', j, as, h => by
    simp only [fitHeap] at h
    rw [heapTypes_cons_some]
    split at h
    · split at h
      · rename_i hm
        cases e : fitCells x.cs y.cs with
        | none => simp [e] at h
        | some a =>
          simp only [e] at h
          obtain ⟨r, hr, rfl⟩ := Option.map_eq_some_iff.1 h
          simp [hm, (fitCells_len e).1, fitHeap_len hr]
      · rename_i hm
        split at h
        · simp [hm, fitHeap_len h]
        · cases h
    · cases h
  | some _ :: _, [], _, _, h => by simp [fitHeap] at h
  | some _ :: _, none :: _, _, _, h => by simp [fitHeap] at h

theorem fitHeap_spec {B : List Nat} {ν1 ν2 : Nat → DV} {n : Nat} (hn : ∀ i, i < n → ν2 i = ν1 i) : ∀ {x y z : List (Option Blk)} {j : Nat} {as bs : List A}, fitHeap B j x y = some as → fitHeap B j x z = some bs →
    belowHeap B n j x = true → knownHeap z x = true → PEq ν1 ν2 (heapTypes B j x) as bs →
    ∀ i v, nth z i = some v → ∃ u, nth y i = some u ∧ BlkTo ν1 ν2 u v
  | [], y, [], _, _, _, _, _, _, _, _, i, v, hv => by cases i <;> cases hv
  | [], y, z :: l'', j, as, bs, h1, h2, hb, hk, he, i, v, hv => by
    exfalso
    have key : ∀ (z : List (Option Blk)), knownHeap z [] = true → ∀ i v, nth z i ≠ some v := by
      intro z
      induction z with
      | nil => intro _ i v h; cases i <;> cases h
      | cons a z ih =>
        intro h i v hv
        cases a with
        | some a => simp [knownHeap] at h
        | none =>
          cases i with
          | zero => cases hv
          | succ i => exact ih (by simpa [knownHeap] using h) i v hv
    exact key _ hk i v hv
  | none :: l, y, z, j, as, bs, h1, h2, hb, hk, he, i, v, hv => by
    cases z with
    | nil => cases i <;> cases hv
    | cons z l'' =>
      cases z with
      | some z => simp [knownHeap] at hk
      | none =>
        simp only [knownHeap, List.tail_cons] at hk
        simp only [belowHeap, Bool.and_eq_true] at hb
        simp only [fitHeap] at h2
        cases i with
        | zero => cases hv
        | succ i =>
          cases y with
          | nil =>
            simp only [fitHeap] at h1
            obtain ⟨u, hu, _⟩ := fitHeap_spec hn h1 h2 hb.2 hk he i v hv
            cases i <;> cases hu
          | cons y l' =>
            simp only [fitHeap] at h1
            exact fitHeap_spec hn h1 h2 hb.2 hk he i v hv
  | some x :: l, some y :: l', some z :: l'', j, as, bs, h1, h2, hb, hk, he, i, v, hv => by
    simp only [fitHeap] at h1 h2
    simp only [belowHeap, Bool.and_eq_true] at hb
    simp only [knownHeap, Bool.and_eq_true] at hk
    rw [heapTypes_cons_some] at he
    by_cases ho1 : (x.own == y.own) = true
    · by_cases ho2 : (x.own == z.own) = true
      · have hoo : z.own = y.own := by
          have a1 := beq_iff_eq.1 ho1
          have a2 := beq_iff_eq.1 ho2
          rw [← a1, ← a2]
        simp only [ho1, ho2, if_true] at h1 h2
        by_cases hm : memN j B = true
        · simp only [hm, if_true] at h1 h2 he
          cases e1 : fitCells x.cs y.cs with
          | none => simp [e1] at h1
          | some a =>
            cases e2 : fitCells x.cs z.cs with
            | none => simp [e2] at h2
            | some b =>
              simp only [e1] at h1
              simp only [e2] at h2
              obtain ⟨r1, hr1, rfl⟩ := Option.map_eq_some_iff.1 h1
              obtain ⟨r2, hr2, rfl⟩ := Option.map_eq_some_iff.1 h2
              obtain ⟨p1, p2⟩ := PEq.split (fitCells_len e1).1 (fitCells_len e2).1 he
              cases i with
              | zero => cases hv; exact ⟨y, rfl, hoo, fitCells_spec e1 e2 p1⟩
              | succ i => exact fitHeap_spec hn hr1 hr2 hb.2 hk.2 p2 i v hv
        · simp only [hm, Bool.false_eq_true, if_false, List.nil_append] at h1 h2 he
          by_cases hb1 : sameCells x.cs y.cs = true
          · by_cases hb2 : sameCells x.cs z.cs = true
            · simp only [hb1, if_true] at h1
              simp only [hb2, if_true] at h2
              cases i with
              | zero =>
                cases hv
                have hbx : x.cs.all (optAll (Lf.below n)) = true := by simpa [hm, optAll, Blk.below] using hb.1
                exact ⟨y, rfl, hoo, sameCells_spec hn hbx hb1 hb2 hk.1.2⟩
              | succ i => exact fitHeap_spec hn h1 h2 hb.2 hk.2 he i v hv
            · simp [hb2] at h2
          · simp [hb1] at h1
      · simp [ho2] at h2
    · simp [ho1] at h1
  | some _ :: _, [], _, _, _, _, h1, _, _, _, _, _, _, _ => by simp [fitHeap] at h1
  | some _ :: _, none :: _, _, _, _, _, h1, _, _, _, _, _, _, _ => by simp [fitHeap] at h1
  | some _ :: _, some _ :: _, [], _, _, _, _, h2, _, _, _, _, _, _ => by simp [fitHeap] at h2
  | some _ :: _, some _ :: _, none :: _, _, _, _, _, h2, _, _, _, _, _, _ => by simp [fitHeap] at h2

def stTypes (D B : List Nat) (x : St) : List Bool := slotTypes D 0 x.sl ++ heapTypes B 0 x.hp

theorem fitSt_len {D B : List Nat} {x y : St} {as : List A} (h : fitSt D B x y = some as) : as.length = (stTypes D B x).length := by
  unfold fitSt at h
  cases e : fitSlots D 0 x.sl y.sl with
  | none => simp [e] at h
  | some a =>
    simp only [e] at h
    obtain ⟨r, hr, rfl⟩ := Option.map_eq_some_iff.1 h
    simp [stTypes, (fitSlots_len e).1, fitHeap_len hr]

/-- What y tells under one valuation z tells under another. -/
theorem RR.fit {ν1 ν2 : Nat → DV} {n : Nat} (hn : ∀ i, i < n → ν2 i = ν1 i) {D B : List Nat} {x y z : St} {as bs : List A} (h1 : fitSt D B x y = some as) (h2 : fitSt D B x z = some bs)
    (hb1 : belowSlots D n 0 x.sl = true) (hb2 : belowHeap B n 0 x.hp = true) (hk1 : knownLe z.sl x.sl = true) (hk2 : knownHeap z.hp x.hp = true) (he : PEq ν1 ν2 (stTypes D B x) as bs)
    {ρ : Nat → Nat × Nat} {a : Act} {w : World} (h : RR ν1 W w0 ρ ⟨y, []⟩ a w) : RR ν2 W w0 ρ ⟨z, []⟩ a w := by
  unfold fitSt at h1 h2
  cases e1 : fitSlots D 0 x.sl y.sl with
  | none => simp [e1] at h1
  | some a1 =>
    cases e2 : fitSlots D 0 x.sl z.sl with
    | none => simp [e2] at h2
    | some a2 =>
      simp only [e1] at h1
      simp only [e2] at h2
      obtain ⟨r1, hr1, rfl⟩ := Option.map_eq_some_iff.1 h1
      obtain ⟨r2, hr2, rfl⟩ := Option.map_eq_some_iff.1 h2
      obtain ⟨p1, p2⟩ := PEq.split (fitSlots_len e1).1 (fitSlots_len e2).1 he
      have hs := fitSlots_spec hn e1 e2 hb1 hk1 p1
      have hh := fitHeap_spec hn hr1 hr2 hb2 hk2 p2
      have hlen : z.sl.length = y.sl.length := (fitSlots_len e2).2.symm.trans (fitSlots_len e1).2
      refine ⟨⟨h.act.defers, h.act.size.trans hlen.symm, fun t v ht => ?_, fun e he => by cases he⟩, ⟨fun j bk hj => ?_, fun j j' bk bk' hj ho hj' hne => ?_⟩, fun j bk hj ho => ?_, h.fr⟩
      · obtain ⟨u, hu, g1, g2⟩ := hs t v ht
        obtain ⟨f1, f2⟩ := h.act.slot t u hu
        exact ⟨g2 f1, by rw [← g1 ρ]; exact f2⟩
      · obtain ⟨u, hu, g1, g2, g3⟩ := hh j bk hj
        have hb := h.heap.blk j u hu
        refine ⟨hb.lt, fun i l hl => ?_, fun ho i hi => hb.own (by rw [← g1]; exact ho) i (by omega)⟩
        obtain ⟨c, hc, k1, k2⟩ := g3 i l hl
        obtain ⟨f1, f2⟩ := hb.cell i c hc
        exact ⟨k2 f1, by rw [← k1 ρ]; exact f2⟩
      · obtain ⟨u, hu, g1, _⟩ := hh j bk hj
        obtain ⟨u', hu', _⟩ := hh j' bk' hj'
        exact h.heap.apart j j' u u' hu (by rw [← g1]; exact ho) hu' hne
      · obtain ⟨u, hu, g1, _⟩ := hh j bk hj
        exact h.own j u hu (by rw [← g1]; exact ho)

theorem knownLe_refl {α : Type} : ∀ (l : List (Option α)), knownLe l l = true
  | [] => rfl
  | none :: l => knownLe_refl l
  | some _ :: l => knownLe_refl l
theorem knownCells_refl : ∀ (l : List (Option Lf)), knownCells l l = true
  | [] => rfl
  | none :: l => knownCells_refl l
  | some _ :: l => knownCells_refl l
theorem knownHeap_refl : ∀ (l : List (Option Blk)), knownHeap l l = true
  | [] => rfl
  | none :: l => knownHeap_refl l
  | some b :: l => by simp [knownHeap, knownCells_refl, knownHeap_refl l]

/-! ### A round -/
theorem K.beq_eq {a b : K} (h : a.beq b = true) : a = b := by
  cases a <;> cases b <;> simp [K.beq] at h <;> first | rfl | (subst h; rfl)

theorem kindIx_spec {k : K} : ∀ {l : List K} {i : Nat}, kindIx k l = some i → l[i]? = some k
  | [], _, h => by simp [kindIx] at h
  | x :: l, i, h => by
    simp only [kindIx] at h
    split at h
    · rename_i hx; cases h; have := K.beq_eq hx; subst this; rfl
    · obtain ⟨j, hj, rfl⟩ := Option.map_eq_some_iff.1 h
      simpa using kindIx_spec hj

theorem PEq.refl {ν : Nat → DV} : ∀ {ts : List Bool} {as : List A}, as.length = ts.length → PEq ν ν ts as as
  | [], [], _ => trivial
  | t :: ts, a :: as, h => ⟨by cases t <;> simp, PEq.refl (by simpa using h)⟩

theorem PEq.trans_teq {ν1 ν2 : Nat → DV} : ∀ {ts : List Bool} {as t bs : List A}, PEq ν1 ν1 ts as t → TEq ts (bs.map (A.den ν2)) (t.map (A.den ν1)) → PEq ν1 ν2 ts as bs
  | [], [], [], [], _, _ => trivial
  | b :: ts, a :: as, t :: tl, c :: bs, h, e => by
    simp only [List.map_cons, TEq] at e
    refine ⟨?_, PEq.trans_teq h.2 e.2⟩
    have h1 := h.1
    have h2 := e.1
    cases b
    · simp only [Bool.false_eq_true, if_false] at h1 h2 ⊢; rw [h1]; simp [A.bool, h2]
    · simp only [if_true] at h1 h2 ⊢; rw [h1]; simp [A.int, h2]
  | [], _ :: _, _, _, h, _ => h.elim
  | [], [], _ :: _, _, h, _ => h.elim
  | [], [], [], _ :: _, _, e => e.elim
  | _ :: _, [], _, _, h, _ => h.elim
  | _ :: _, _ :: _, [], _, h, _ => h.elim
  | _ :: _, _ :: _, _ :: _, [], _, e => e.elim
theorem TEq.len : ∀ {ts : List Bool} {as bs : List DV}, TEq ts as bs → as.length = bs.length
  | [], [], [], _ => rfl
  | _ :: _, _ :: _, _ :: _, h => by simp [TEq.len h.2]
  | [], _ :: _, _, h => h.elim
  | [], [], _ :: _, h => h.elim
  | _ :: _, [], _, h => h.elim
  | _ :: _, _ :: _, [], h => h.elim

theorem PEq.trans_den {ν1 ν2 : Nat → DV} : ∀ {ts : List Bool} {as t bs : List A}, PEq ν1 ν1 ts as t → bs.map (A.den ν2) = t.map (A.den ν1) → PEq ν1 ν2 ts as bs
  | [], [], [], [], _, _ => trivial
  | b :: ts, a :: as, t :: tl, c :: bs, h, e => by
    simp only [List.map_cons, List.cons.injEq] at e
    refine ⟨?_, PEq.trans_den h.2 e.2⟩
    have h1 := h.1
    cases b
    · simp only [Bool.false_eq_true, if_false] at h1 ⊢; rw [h1]; simp [A.bool, e.1]
    · simp only [if_true] at h1 ⊢; rw [h1]; simp [A.int, e.1]
  | [], _ :: _, _, _, h, _ => h.elim
  | [], [], _ :: _, _, h, _ => h.elim
  | [], [], [], _ :: _, _, e => by simp at e
  | _ :: _, [], _, _, h, _ => h.elim
  | _ :: _, _ :: _, [], _, h, _ => h.elim
  | _ :: _, _ :: _, _ :: _, [], _, e => by simp at e

theorem mergeAs_sat {ν : Nat → DV} {c : A} : ∀ (ts : List Bool) (as bs : List A), M.sat F ν (mergeAs c ts as bs) (fun r => r.length = ts.length ∧ (c.bool ν = true → PEq ν ν ts as r) ∧ (c.bool ν = false → PEq ν ν ts bs r))
  | true :: ts, a :: l, b :: l' => by
    unfold mergeAs
    refine sat_bind mkIteI_sat fun x hx => sat_bind (mergeAs_sat ts l l') fun r hr => sat_pure ⟨by simp [hr.1], fun hc => ⟨by simp [hx, hc], hr.2.1 hc⟩, fun hc => ⟨by simp [hx, hc], hr.2.2 hc⟩⟩
  | false :: ts, a :: l, b :: l' => by
    unfold mergeAs
    refine sat_bind mkIteB_sat fun x hx => sat_bind (mergeAs_sat ts l l') fun r hr => sat_pure ⟨by simp [hr.1], fun hc => ⟨by simp [hx, hc], hr.2.1 hc⟩, fun hc => ⟨by simp [hx, hc], hr.2.2 hc⟩⟩
  | [], [], [] => sat_pure ⟨rfl, fun _ => trivial, fun _ => trivial⟩
  | [], [], _ :: _ => sat_fail
  | [], _ :: _, _ => sat_fail
  | true :: _, [], _ => sat_fail
  | false :: _, [], _ => sat_fail
  | true :: _, _ :: _, [] => sat_fail
  | false :: _, _ :: _, [] => sat_fail

theorem couts_sat {ν : Nat → DV} {D B : List Nat} {sx : St} {ks : List K} : ∀ (x : X), M.sat F ν (x.couts D B sx ks (stTypes D B sx)) (fun r => ∃ i as, kindIx (x.sel ν).1 ks = some i ∧ fitSt D B sx (x.sel ν).2 = some as ∧
    ∃ h t, r = h :: t ∧ h.int ν = (i : Int) ∧ PEq ν ν (stTypes D B sx) as t)
  | .done k s => by
    unfold X.couts
    refine sat_bind (sat_lift (Q := fun i => kindIx k ks = some i) fun a h => h) fun i hi => ?_
    refine sat_bind (sat_lift (Q := fun as => fitSt D B sx s = some as) fun a h => h) fun as has => sat_pure ⟨i, as, hi, has, .z i, as, rfl, rfl, PEq.refl (fitSt_len has)⟩
  | .br c x y => by
    unfold X.couts
    refine sat_bind (couts_sat x) fun a ha => sat_bind (couts_sat y) fun b hb => sat_mono (mergeAs_sat _ a b) fun r hr => ?_
    obtain ⟨hlen, h1, h2⟩ := hr
    simp only [X.sel]
    have key : ∀ {u : List A}, (∃ h t, u = h :: t) → PEq ν ν (true :: stTypes D B sx) u r → ∃ h t h' t', u = h :: t ∧ r = h' :: t' ∧ h.int ν = h'.int ν ∧ PEq ν ν (stTypes D B sx) t t' := by
      intro u ⟨h, t, e⟩ hp
      subst e
      cases r with
      | nil => exact hp.elim
      | cons h' t' => exact ⟨h, t, h', t', rfl, rfl, hp.1, hp.2⟩
    have trans : ∀ {ts : List Bool} {a b c : List A}, PEq ν ν ts a b → PEq ν ν ts b c → PEq ν ν ts a c := by
      intro ts
      induction ts with
      | nil => intro a b c h k; cases a <;> cases b <;> cases c <;> first | trivial | exact h.elim | exact k.elim
      | cons t ts ih =>
        intro a b c h k
        cases a <;> cases b <;> cases c <;> first | exact h.elim | exact k.elim | skip
        refine ⟨?_, ih h.2 k.2⟩
        have p1 := h.1
        have p2 := k.1
        cases t
        · simp only [Bool.false_eq_true, if_false] at p1 p2 ⊢; exact p1.trans p2
        · simp only [if_true] at p1 p2 ⊢; exact p1.trans p2
    by_cases hc : c.bool ν = true
    · simp only [hc, if_true]
      obtain ⟨i, as, e1, e2, h, t, rfl, e4, e5⟩ := ha
      obtain ⟨_, _, h', t', e6, e7, e8, e9⟩ := key ⟨h, t, rfl⟩ (h1 hc)
      cases e6
      exact ⟨i, as, e1, e2, h', t', e7, by rw [← e8]; exact e4, trans e5 e9⟩
    · have hc' : c.bool ν = false := by simpa using hc
      simp only [hc', Bool.false_eq_true, if_false]
      obtain ⟨i, as, e1, e2, h, t, rfl, e4, e5⟩ := hb
      obtain ⟨_, _, h', t', e6, e7, e8, e9⟩ := key ⟨h, t, rfl⟩ (h2 hc')
      cases e6
      exact ⟨i, as, e1, e2, h', t', e7, by rw [← e8]; exact e4, trans e5 e9⟩

/-- What a round says. -/
structure RoundOK (P : Program) (ν : Nat → DV) (W : Nat → Prop) (w0 : World) (b : Code) (D B : List Nat) (sx : St) (r : Round) : Prop where
  run : ∀ ρ a w, RR ν W w0 ρ ⟨sx, []⟩ a w → b.wp P (XPost ν W w0 r.x) a w
  cond : r.c.bool ν = (r.x.sel ν).1.isNormal
  next : (r.x.sel ν).1.isNormal = true → ∃ so, (∀ ρ a w, RR ν W w0 ρ ⟨(r.x.sel ν).2, []⟩ a w → RR ν W w0 ρ ⟨so, []⟩ a w) ∧ fitSt D B sx so = some r.nx
  out : (r.x.sel ν).1.isNormal = false → ∃ (i : Nat) (as : List A), r.ks[i]? = some (r.x.sel ν).1 ∧ fitSt D B sx (r.x.sel ν).2 = some as ∧ ∃ h t, r.outs = h :: t ∧ h.int ν = (i : Int) ∧ PEq ν ν (stTypes D B sx) as t

theorem evRound_sat {ν : Nat → DV} {ev : St → M X} {b : Code} {D B : List Nat} {sx : St} (hev : M.sat F ν (ev sx) (fun x => ∀ ρ a w, RR ν W w0 ρ ⟨sx, []⟩ a w → b.wp P (XPost ν W w0 x) a w)) :
    M.sat F ν (evRound ev D B sx) (RoundOK P ν W w0 b D B sx) := by
  unfold evRound
  refine sat_bind hev fun x hx => sat_bind (nCond_sat x) fun c hc => sat_bind (nSt_sat (W := W) (w0 := w0) x) fun o ho => ?_
  have hnx : M.sat F ν (fitNx D B sx o) (fun nx => (x.sel ν).1.isNormal = true → ∃ so, (∀ ρ a w, RR ν W w0 ρ ⟨(x.sel ν).2, []⟩ a w → RR ν W w0 ρ ⟨so, []⟩ a w) ∧ fitSt D B sx so = some nx) := by
    cases o with
    | none => exact sat_pure fun hn => by obtain ⟨s, hs, _⟩ := ho hn; cases hs
    | some so =>
      refine sat_lift fun nx hnx hn => ?_
      obtain ⟨s, hs, h2⟩ := ho hn
      cases hs
      exact ⟨so, h2, hnx⟩
  refine sat_bind hnx fun nx hnx => ?_
  cases hz : x.kill with
  | none => exact sat_fail
  | some z =>
    unfold roundOut
    refine sat_bind (couts_sat (ks := z.kinds) z) fun outs houts => sat_pure ⟨hx, hc, hnx, fun hn => ?_⟩
    obtain ⟨z', hz', hsel⟩ := kill_spec x hn
    rw [hz] at hz'
    cases hz'
    obtain ⟨i, as, e1, e2, rest⟩ := houts
    simp only
    rw [← hsel]
    exact ⟨i, as, kindIx_spec e1, e2, rest⟩

theorem callOuts_sat {ν : Nat → DV} {fid : Nat} {args : List A} : ∀ (n j : Nat), M.sat F ν (callOuts fid args j n) (fun l => l.length = n ∧ ∀ i a, l[i]? = some a → a.den ν = (F fid (args.map (A.den ν))).getD (j + i) default)
  | 0, j => sat_pure ⟨rfl, fun i a h => by simp at h⟩
  | n + 1, j => by
    unfold callOuts
    refine sat_bind (sat_emit (Q := fun r => r.den ν = (F fid (args.map (A.den ν))).getD j default) fun r h => h) fun a ha => sat_bind (callOuts_sat n (j + 1)) fun r hr => sat_pure ⟨by simp [hr.1], fun i x hx => ?_⟩
    cases i with
    | zero => simp at hx; subst hx; exact ha
    | succ i => rw [hr.2 i x (by simpa using hx)]; congr 1; omega

theorem toX_sat {ν : Nat → DV} {ka : A} {s : St} : ∀ (ks : List K) (i : Nat), M.sat F ν (K.toX ka s i ks) (fun x => ∀ j k, ks[j]? = some k → ka.int ν = ((i + j : Nat) : Int) → x.sel ν = (k, s))
  | [], i => sat_fail
  | [k], i => sat_pure fun j k' hk _ => by
    cases j with
    | zero => simp at hk; subst hk; rfl
    | succ j => simp at hk
  | k :: k2 :: l, i => by
    unfold K.toX
    refine sat_bind (sat_emit (Q := fun r => r.bool ν = (ka.int ν == (i : Int))) fun r h => A.bool_of_den h) fun e he => sat_bind (toX_sat (k2 :: l) (i + 1)) fun r hr => sat_pure fun j k' hk hka => ?_
    simp only [X.sel, he]
    cases j with
    | zero =>
      simp at hk; subst hk
      have : (ka.int ν == (i : Int)) = true := by simpa using hka
      simp [this]
    | succ j =>
      have hne : (ka.int ν == (i : Int)) = false := by rw [hka]; simp; omega
      simp only [hne, Bool.false_eq_true, if_false]
      exact hr j k' (by simpa using hk) (by rw [hka]; congr 1; omega)
end
end Go.Sx
