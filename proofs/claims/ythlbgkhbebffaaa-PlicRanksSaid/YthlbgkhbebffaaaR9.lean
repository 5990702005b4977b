/- A law of plain arguments (integers, bools, arrays and structs of such): its row, out of its function's contract. -/
import Derived.Test.YthlbgkhbebffaaaR4
import Derived.ProofKit
import Derived.LaidMore
import Derived.Stop.Joined
namespace Go.Sx
open Go Go.ChangeShapes Go.WideShapes Go.RowKit

inductive Sh where
  | one (t : LT)
  | agg (l : List LT)
  deriving Inhabited
def Sh.lts : Sh → List LT
  | .one t => [t]
  | .agg l => l
def nIn (ss : List Sh) : Nat := (ss.map fun s => s.lts.length).sum
def LT.conc (t : LT) (d : DV) : Value :=
  match t with
  | .int k => .int k d.toI
  | .bool => .bool d.toB
  | .vec _ => .bool false
def leafVals (g : Nat → DV) : Nat → List LT → List Value
  | _, [] => []
  | j, t :: ts => t.conc (g j) :: leafVals g (j + 1) ts
def argVals (g : Nat → DV) : Nat → List Sh → List Value
  | _, [] => []
  | j, .one t :: ss => t.conc (g j) :: argVals g (j + 1) ss
  | j, .agg ts :: ss => .agg (leafVals g j ts).toArray :: argVals g (j + ts.length) ss
def LT.pat (j : Nat) : LT → Lf
  | .int k => .i k (.h j)
  | .bool => .b (.h j)
  | .vec _ => .b (.t false)
def patLeaves : Nat → List LT → List Lf
  | _, [] => []
  | j, t :: ts => t.pat j :: patLeaves (j + 1) ts
def patShapes : Nat → List Sh → List V
  | _, [] => []
  | j, .one t :: ss => .s (.one (t.pat j)) :: patShapes (j + 1) ss
  | j, .agg ts :: ss => .s (.agg (patLeaves j ts)) :: patShapes (j + ts.length) ss

theorem idsFrom_getD : ∀ (k n j : Nat), j < k → (idsFrom n k).getD j default = .r (n + j)
  | 0, _, _, h => by omega
  | k + 1, n, 0, _ => rfl
  | k + 1, n, j + 1, h => by
    have := idsFrom_getD k (n + 1) j (by omega)
    simp only [idsFrom, List.getD_cons_succ, this]
    congr 1
    omega
theorem pat_conc {n : Nat} (g : Nat → DV) (ρ : Nat → Loc) {t : LT} {j : Nat} (h : j < n) : ((t.pat j).inst (idsFrom 0 n)).conc g ρ = t.conc (g j) ∧ ((t.pat j).inst (idsFrom 0 n)).good g := by
  have e : (A.h j).inst (idsFrom 0 n) = .r j := by
    have := idsFrom_getD n 0 j h
    simpa [A.inst] using this
  cases t with
  | int k => exact ⟨by simp only [LT.pat, Lf.inst, e]; rfl, trivial⟩
  | bool => exact ⟨by simp only [LT.pat, Lf.inst, e]; rfl, trivial⟩
  | vec ts => exact ⟨rfl, trivial⟩
theorem patLeaves_conc {n : Nat} (g : Nat → DV) (ρ : Nat → Loc) : ∀ (ts : List LT) (j : Nat), j + ts.length ≤ n → ((patLeaves j ts).map (Lf.inst (idsFrom 0 n))).map (Lf.conc g ρ) = leafVals g j ts ∧ ∀ x ∈ (patLeaves j ts).map (Lf.inst (idsFrom 0 n)), Lf.good g x
  | [], j, _ => ⟨rfl, fun x hx => by cases hx⟩
  | t :: ts, j, h => by
    simp only [List.length_cons] at h
    obtain ⟨h1, h2⟩ := patLeaves_conc (n := n) g ρ ts (j + 1) (by omega)
    obtain ⟨h3, h4⟩ := pat_conc g ρ (t := t) (show j < n by omega)
    refine ⟨by simp only [patLeaves, List.map_cons, leafVals, h1, h3], fun x hx => ?_⟩
    simp only [patLeaves, List.map_cons] at hx
    rcases List.mem_cons.1 hx with rfl | hx
    · exact h4
    · exact h2 x hx
theorem nIn_cons (s : Sh) (ss : List Sh) : nIn (s :: ss) = s.lts.length + nIn ss := by simp [nIn]
theorem patShapes_conc {n : Nat} (g : Nat → DV) (ρ : Nat → Loc) : ∀ (ss : List Sh) (j : Nat), j + nIn ss ≤ n → ((patShapes j ss).map (V.inst (idsFrom 0 n))).map (V.conc g ρ) = argVals g j ss ∧ ∀ x ∈ (patShapes j ss).map (V.inst (idsFrom 0 n)), V.good g x
  | [], j, _ => ⟨rfl, fun x hx => by cases hx⟩
  | .one t :: ss, j, h => by
    rw [nIn_cons] at h
    have h : j + (1 + nIn ss) ≤ n := h
    obtain ⟨h1, h2⟩ := patShapes_conc (n := n) g ρ ss (j + 1) (by omega)
    obtain ⟨h3, h4⟩ := pat_conc g ρ (t := t) (show j < n by omega)
    refine ⟨by simp only [patShapes, List.map_cons, argVals, h1, V.inst, V1.inst, V.conc, V1.conc, h3], fun x hx => ?_⟩
    simp only [patShapes, List.map_cons] at hx
    rcases List.mem_cons.1 hx with rfl | hx
    · exact V1.good_one.2 h4
    · exact h2 x hx
  | .agg ts :: ss, j, h => by
    rw [nIn_cons] at h
    have h : j + (ts.length + nIn ss) ≤ n := h
    obtain ⟨h1, h2⟩ := patShapes_conc (n := n) g ρ ss (j + ts.length) (by omega)
    obtain ⟨h3, h4⟩ := patLeaves_conc (n := n) g ρ ts j (show j + ts.length ≤ n by omega)
    refine ⟨by simp only [patShapes, List.map_cons, argVals, h1, V.inst, V1.inst, V.conc, V1.conc, h3], fun x hx => ?_⟩
    simp only [patShapes, List.map_cons] at hx
    rcases List.mem_cons.1 hx with rfl | hx
    · exact V1.good_agg.2 h4
    · exact h2 x hx

def flatFs (P : Program) (rec : TypeId → Option (List LT)) : Nat → List Field → Option (List LT)
  | _, [] => some []
  | o, f :: fs =>
    if Nat.beq f.offset o then
      match rec f.type with
      | none => none
      | some l =>
        if Nat.beq l.length (P.cellsOf f.type) then
          match flatFs P rec (o + l.length) fs with
          | none => none
          | some r => some (l ++ r)
        else none
    else none
def flatT (P : Program) : Nat → TypeId → Option (List LT)
  | 0, _ => none
  | d + 1, t =>
    match P.underlying t with
    | some .bool => some [.bool]
    | some (.int k) => some [.int k]
    | some (.array n e) =>
      match flatT P d e with
      | none => none
      | some l => if Nat.beq l.length (P.cellsOf e) && Nat.beq (P.cellsOf t) (n * l.length) then some (List.replicate n l).flatten else none
    | some (.struct fs) =>
      match flatFs P (flatT P d) 0 fs.toList with
      | none => none
      | some l => if Nat.beq l.length (P.cellsOf t) then some l else none
    | _ => none
def shapeOf (P : Program) (t : TypeId) : Option Sh :=
  match P.underlying t with
  | some .bool => some (.one .bool)
  | some (.int k) => some (.one (.int k))
  | some (.array _ _) => (flatT P 20 t).map .agg
  | some (.struct _) => (flatT P 20 t).map .agg
  | _ => none
def shapesOf (P : Program) : List TypeId → Option (List Sh)
  | [] => some []
  | t :: ts =>
    match shapeOf P t with
    | none => none
    | some s =>
      match shapesOf P ts with
      | none => none
      | some r => some (s :: r)

def LeafOk : LT → Value → Prop
  | .int k, .int k' n => k' = k ∧ (Lit.int k n).wf = true
  | .bool, .bool _ => True
  | _, _ => False
def Leaves : List LT → List Value → Prop
  | [], [] => True
  | t :: ts, v :: vs => LeafOk t v ∧ Leaves ts vs
  | _, _ => False
theorem Leaves.len : ∀ {ts : List LT} {vs : List Value}, Leaves ts vs → vs.length = ts.length
  | [], [], _ => rfl
  | _ :: _, _ :: _, h => by simp [Leaves.len h.2]
  | [], _ :: _, h => h.elim
  | _ :: _, [], h => h.elim
theorem Leaves.append : ∀ {a b : List LT} {c d : List Value}, Leaves a c → Leaves b d → Leaves (a ++ b) (c ++ d)
  | [], _, [], _, _, h => h
  | _ :: _, _, _ :: _, _, h, h' => ⟨h.1, Leaves.append h.2 h'⟩
  | [], _, _ :: _, _, h, _ => h.elim
  | _ :: _, _, [], _, h, _ => h.elim

theorem mapM_carry {α β γ : Type} {f g : α → Option (β × List γ)} : ∀ {l : List α} {xs : List (β × List γ)}, l.mapM f = some xs →
    (∀ a ∈ l, ∀ y, f a = some y → g a = some y ∧ y.2 = []) → l.mapM g = some xs ∧ xs.flatMap (·.2) = [] ∧ ∀ a ∈ l, ∃ y, f a = some y
  | [], xs, h, _ => by
    simp at h
    subst h
    exact ⟨by simp, rfl, fun a ha => by cases ha⟩
  | a :: l, xs, h, hc => by
    simp only [List.mapM_cons, Option.bind_eq_bind, Option.bind_eq_some_iff, Option.pure_def, Option.some.injEq] at h
    obtain ⟨y, hy, ys, hys, rfl⟩ := h
    obtain ⟨h1, h2⟩ := hc a (by simp) y hy
    obtain ⟨h3, h4, h5⟩ := mapM_carry hys (fun b hb => hc b (List.mem_cons_of_mem _ hb))
    refine ⟨by simp [List.mapM_cons, h1, h3], by simp only [List.flatMap_cons, h2, h4, List.nil_append], fun b hb => ?_⟩
    rcases List.mem_cons.1 hb with rfl | hb
    · exact ⟨y, hy⟩
    · exact h5 b hb

theorem leaves_rows {l : List LT} {c : Nat} (hl : l.length = c) : ∀ {n : Nat} {cs : List Value}, cs.length = n * c → (∀ i, i < n → Leaves l ((cs.drop (i * c)).take c)) → Leaves (List.replicate n l).flatten cs
  | 0, cs, h, _ => by
    have : cs = [] := List.eq_nil_of_length_eq_zero (by simpa using h)
    subst this
    trivial
  | n + 1, cs, h, hp => by
    have h0 := hp 0 (by omega)
    simp only [Nat.zero_mul, List.drop_zero] at h0
    have h1 := leaves_rows hl (n := n) (cs := cs.drop c) (by rw [List.length_drop, h, Nat.succ_mul]; omega) (fun i hi => by
      have := hp (i + 1) (by omega)
      rw [List.drop_drop]
      rwa [show c + i * c = (i + 1) * c from by rw [Nat.succ_mul]; omega])
    have := Leaves.append h0 h1
    rw [List.take_append_drop] at this
    simpa [List.replicate_succ] using this

section
variable {H : Type} {enc : TypeId × Value → H} {P : Program}

def TrodOk (enc : TypeId × Value → H) (P : Program) (fuel : Nat) (t : TypeId) (lts : List LT) : Prop :=
  ∀ (w : World) (base : Nat) (sp : Nat → Bool) (held : Bool) (cs : List Value) (x : DataW H) (ps : List MemPlace), DataW.trod enc P w base sp held fuel t cs = some (x, ps) →
    Leaves lts cs ∧ ps = [] ∧ ∀ (w' : World) (base' : Nat) (sp' : Nat → Bool) (held' : Bool), DataW.trod enc P w' base' sp' held' fuel t cs = some (x, [])

theorem leaves_fields {rec : TypeId → Option (List LT)} {cs : List Value} : ∀ {fs : List Field} {o : Nat} {l : List LT}, flatFs P rec o fs = some l → cs.length = o + l.length →
    (∀ f ∈ fs, ∀ r, rec f.type = some r → Leaves r ((cs.drop f.offset).take (P.cellsOf f.type))) → Leaves l (cs.drop o)
  | [], o, l, h, hlen, _ => by
    simp [flatFs] at h
    subst h
    rw [List.drop_of_length_le (by simpa using Nat.le_of_eq hlen)]
    trivial
  | f :: fs, o, l, h, hlen, hp => by
    simp only [flatFs] at h
    split at h
    · rename_i ho
      have ho := Nat.eq_of_beq_eq_true ho
      split at h
      · cases h
      · rename_i r hr
        split at h
        · rename_i hc
          have hc := Nat.eq_of_beq_eq_true hc
          split at h
          · cases h
          · rename_i r' hr'
            cases h
            have h0 := hp f (by simp) r hr
            have h1 := leaves_fields hr' (by simp at hlen; omega) (fun g hg => hp g (List.mem_cons_of_mem _ hg))
            rw [ho, ← hc] at h0
            have h2 := Leaves.append h0 h1
            rw [← List.drop_drop, List.take_append_drop] at h2
            exact h2
        · cases h
    · cases h

theorem trod_flat : ∀ (d : Nat) {t : TypeId} {lts : List LT}, flatT P d t = some lts → ∀ fuel, TrodOk enc P fuel t lts
  | 0, _, _, h, _ => by cases h
  | d + 1, t, lts, h, fuel => by
    intro w base sp held cs x ps hx
    cases fuel with
    | zero => simp [DataW.trod] at hx
    | succ fuel =>
      simp only [flatT] at h
      split at h
      · rename_i hu
        cases h
        obtain ⟨b, rfl, he⟩ := DataW.trod_bool hu hx
        cases he
        exact ⟨⟨trivial, trivial⟩, rfl, fun _ _ _ _ => by simp [DataW.trod, hu]⟩
      · rename_i k hu
        cases h
        obtain ⟨n, rfl, he, hw⟩ := DataW.trod_int hu hx
        cases he
        exact ⟨⟨⟨rfl, hw⟩, trivial⟩, rfl, fun _ _ _ _ => by simp [DataW.trod, hu, hw]⟩
      · rename_i n e hu
        split at h
        · cases h
        · rename_i l hl
          split at h
          · rename_i hc
            cases h
            simp only [Bool.and_eq_true] at hc
            have hc1 := Nat.eq_of_beq_eq_true hc.1
            have hc2 := Nat.eq_of_beq_eq_true hc.2
            simp only [DataW.trod, hu] at hx
            split at hx
            · rename_i hlen
              obtain ⟨xs, hxs, he⟩ := Option.map_eq_some_iff.1 hx
              cases he
              have ih := trod_flat d hl fuel
              have hall := fun w' base' sp' held' => mapM_carry (g := fun i => DataW.trod enc P w' base' sp' held' fuel e ((cs.drop (i * P.cellsOf e)).take (P.cellsOf e))) hxs
                (fun i _ y hy => by
                  have := ih _ _ _ _ _ y.1 y.2 hy
                  exact ⟨by rw [this.2.2 w' base' sp' held', ← this.2.1], this.2.1⟩)
              refine ⟨leaves_rows hc1 (by rw [hlen, hc2, hc1]) (fun i hi => ?_), (hall w base sp held).2.1, fun w' base' sp' held' => ?_⟩
              · obtain ⟨y, hy⟩ := (hall w base sp held).2.2 i (List.mem_range.2 hi)
                exact (ih _ _ _ _ _ y.1 y.2 hy).1
              · obtain ⟨h1, h2, _⟩ := hall w' base' sp' held'
                simp only [DataW.trod, hu]
                rw [if_pos hlen, h1, Option.map_some, h2]
            · cases hx
          · cases h
      · rename_i fs hu
        split at h
        · cases h
        · rename_i l hl
          split at h
          · rename_i hc
            cases h
            have hc1 := Nat.eq_of_beq_eq_true hc
            simp only [DataW.trod, hu] at hx
            split at hx
            · rename_i hlen
              obtain ⟨xs, hxs, he⟩ := Option.map_eq_some_iff.1 hx
              cases he
              -- each field's type has leaves
              have hfl : ∀ {gs : List Field} {o : Nat} {r : List LT}, flatFs P (flatT P d) o gs = some r → ∀ f ∈ gs, ∃ r', flatT P d f.type = some r' := by
                intro gs
                induction gs with
                | nil => intro o r _ f hf; cases hf
                | cons g gs ih =>
                  intro o r hr f hf
                  simp only [flatFs] at hr
                  split at hr
                  · split at hr
                    · cases hr
                    · rename_i r1 hr1
                      split at hr
                      · split at hr
                        · cases hr
                        · rename_i r2 hr2
                          rcases List.mem_cons.1 hf with rfl | hf
                          · exact ⟨r1, hr1⟩
                          · exact ih hr2 f hf
                      · cases hr
                  · cases hr
              have hall := fun w' base' sp' held' => mapM_carry (g := fun f : Field => DataW.trod enc P w' base' sp' held' fuel f.type ((cs.drop f.offset).take (P.cellsOf f.type))) hxs
                (fun f hf y hy => by
                  obtain ⟨r', hr'⟩ := hfl hl f hf
                  have := trod_flat d hr' fuel _ _ _ _ _ y.1 y.2 hy
                  exact ⟨by rw [this.2.2 w' base' sp' held', ← this.2.1], this.2.1⟩)
              refine ⟨?_, (hall w base sp held).2.1, fun w' base' sp' held' => ?_⟩
              · have := leaves_fields (P := P) (cs := cs) hl (by rw [hlen, hc1]; omega) (fun f hf r hr => by
                  obtain ⟨y, hy⟩ := (hall w base sp held).2.2 f hf
                  exact (trod_flat d hr fuel _ _ _ _ _ y.1 y.2 hy).1)
                simpa using this
              · obtain ⟨h1, h2, _⟩ := hall w' base' sp' held'
                simp only [DataW.trod, hu]
                rw [if_pos hlen, h1, Option.map_some, h2]
            · cases hx
          · cases h
      · cases h

def RangeOk : List LT → List DV → Prop
  | [], [] => True
  | .int k :: ts, .i n :: ds => (Lit.int k n).wf = true ∧ RangeOk ts ds
  | .bool :: ts, .b _ :: ds => True ∧ RangeOk ts ds
  | _, _ => False
theorem RangeOk.len : ∀ {ts : List LT} {ds : List DV}, RangeOk ts ds → ds.length = ts.length
  | [], [], _ => rfl
  | .int _ :: _, .i _ :: _, h => by simp [RangeOk.len h.2]
  | .bool :: _, .b _ :: _, h => by simp [RangeOk.len h.2]
  | [], _ :: _, h => h.elim
  | .int _ :: _, [], h => h.elim
  | .bool :: _, [], h => h.elim
  | .int _ :: _, .b _ :: _, h => h.elim
  | .bool :: _, .i _ :: _, h => h.elim
  | .int _ :: _, .l _ :: _, h => h.elim
  | .bool :: _, .l _ :: _, h => h.elim
  | .vec _ :: _, [], h => h.elim
  | .vec _ :: _, _ :: _, h => h.elim
theorem RangeOk.append : ∀ {a b : List LT} {c d : List DV}, RangeOk a c → RangeOk b d → RangeOk (a ++ b) (c ++ d)
  | [], _, [], _, _, h => h
  | .int _ :: _, _, .i _ :: _, _, h, h' => ⟨h.1, RangeOk.append h.2 h'⟩
  | .bool :: _, _, .b _ :: _, _, h, h' => ⟨trivial, RangeOk.append h.2 h'⟩
  | [], _, _ :: _, _, h, _ => h.elim
  | .int _ :: _, _, [], _, h, _ => h.elim
  | .bool :: _, _, [], _, h, _ => h.elim
  | .int _ :: _, _, .b _ :: _, _, h, _ => h.elim
  | .bool :: _, _, .i _ :: _, _, h, _ => h.elim
  | .int _ :: _, _, .l _ :: _, _, h, _ => h.elim
  | .bool :: _, _, .l _ :: _, _, h, _ => h.elim
  | .vec _ :: _, _, [], _, h, _ => h.elim
  | .vec _ :: _, _, _ :: _, _, h, _ => h.elim

theorem RangeOk.int_at : ∀ {ts : List LT} {ds : List DV} {k : IntKind} (i : Nat), RangeOk ts ds → ts[i]? = some (.int k) → (Lit.int k (dget ds i).toI).wf = true
  | .int k :: ts, .i n :: ds, k', 0, h, e => by
    simp at e
    subst e
    exact h.1
  | .int k :: ts, .i n :: ds, k', i + 1, h, e => by
    have := RangeOk.int_at i h.2 (by simpa using e)
    simpa [dget] using this
  | .bool :: ts, .b x :: ds, k', 0, h, e => by simp at e
  | .bool :: ts, .b x :: ds, k', i + 1, h, e => by
    have := RangeOk.int_at i h.2 (by simpa using e)
    simpa [dget] using this
  | [], _, _, _, _, e => by simp at e
  | .int _ :: _, [], _, _, h, _ => h.elim
  | .bool :: _, [], _, _, h, _ => h.elim
  | .int _ :: _, .b _ :: _, _, _, h, _ => h.elim
  | .bool :: _, .i _ :: _, _, _, h, _ => h.elim
  | .int _ :: _, .l _ :: _, _, _, h, _ => h.elim
  | .bool :: _, .l _ :: _, _, _, h, _ => h.elim
  | .vec _ :: _, [], _, _, h, _ => h.elim
  | .vec _ :: _, _ :: _, _, _, h, _ => h.elim

theorem dget_pre (pre : List DV) (d : DV) (post : List DV) : dget (pre ++ d :: post) pre.length = d := by
  simp [dget, List.getD_eq_getElem?_getD]

theorem leaves_vals : ∀ {ts : List LT} {vs : List Value}, Leaves ts vs → ∃ ds, RangeOk ts ds ∧ ∀ pre post : List DV, leafVals (dget (pre ++ ds ++ post)) pre.length ts = vs
  | [], [], _ => ⟨[], trivial, fun _ _ => rfl⟩
  | .int k :: ts, .int k' n :: vs, h => by
    obtain ⟨ds, h1, h2⟩ := leaves_vals h.2
    obtain ⟨⟨rfl, hw⟩, _⟩ := h
    refine ⟨.i n :: ds, ⟨hw, h1⟩, fun pre post => ?_⟩
    have := h2 (pre ++ [.i n]) post
    simp only [leafVals, List.append_assoc, List.cons_append, List.nil_append, List.length_append, List.length_cons, List.length_nil, Nat.zero_add] at this ⊢
    rw [this, dget_pre]
    rfl
  | .bool :: ts, .bool b :: vs, h => by
    obtain ⟨ds, h1, h2⟩ := leaves_vals h.2
    refine ⟨.b b :: ds, ⟨trivial, h1⟩, fun pre post => ?_⟩
    have := h2 (pre ++ [.b b]) post
    simp only [leafVals, List.append_assoc, List.cons_append, List.nil_append, List.length_append, List.length_cons, List.length_nil, Nat.zero_add] at this ⊢
    rw [this, dget_pre]
    rfl
  | [], _ :: _, h => h.elim
  | _ :: _, [], h => h.elim
  | .int _ :: _, .bool _ :: _, h => h.1.elim
  | .bool :: _, .int _ _ :: _, h => h.1.elim
  | .vec _ :: _, _ :: _, h => h.1.elim

theorem open_plain {w : World} {base b0 : Nat} {sp : Nat → Bool} {held : Bool} {r : Reach} {t : TypeId} {v : Value} {d : DataW H} {ps : List MemPlace} {s : Sh} (hs : shapeOf P t = some s)
    (hval : Value.okWide P w r b0 t v) (hd : DataW.Trod enc P w base sp held t v d ps) :
    ∃ ds : List DV, RangeOk s.lts ds ∧ ps = [] ∧ (∀ (pre post : List DV) (ss : List Sh), argVals (dget (pre ++ ds ++ post)) pre.length (s :: ss) = v :: argVals (dget (pre ++ ds ++ post)) (pre.length + ds.length) ss) ∧
      ∀ (w' : World) (base' : Nat) (sp' : Nat → Bool) (held' : Bool), DataW.Trod enc P w' base' sp' held' t v d [] := by
  obtain ⟨fuel, hf⟩ := hd
  unfold shapeOf at hs
  split at hs
  · rename_i hu
    cases hs
    obtain ⟨b, rfl⟩ := okWide_bool hu hval
    have hfl : flatT P 1 t = some [.bool] := by simp [flatT, hu]
    obtain ⟨_, h2, h3⟩ := trod_flat (enc := enc) 1 hfl fuel _ _ _ _ _ _ _ hf
    refine ⟨[.b b], ⟨trivial, trivial⟩, h2, fun pre post ss => ?_, fun w' base' sp' held' => ⟨fuel, h3 w' base' sp' held'⟩⟩
    simp only [argVals, List.append_assoc, List.cons_append, List.nil_append, dget_pre, List.length_cons, List.length_nil]
    rfl
  · rename_i k hu
    cases hs
    obtain ⟨n, rfl⟩ := okWide_int hu hval
    have hfl : flatT P 1 t = some [.int k] := by simp [flatT, hu]
    obtain ⟨h1, h2, h3⟩ := trod_flat (enc := enc) 1 hfl fuel _ _ _ _ _ _ _ hf
    refine ⟨[.i n], ⟨h1.1.2, trivial⟩, h2, fun pre post ss => ?_, fun w' base' sp' held' => ⟨fuel, h3 w' base' sp' held'⟩⟩
    simp only [argVals, List.append_assoc, List.cons_append, List.nil_append, dget_pre, List.length_cons, List.length_nil]
    rfl
  · rename_i n e hu
    obtain ⟨l, hl, rfl⟩ := Option.map_eq_some_iff.1 hs
    simp only [Value.okWide, hu] at hval
    obtain ⟨cs, rfl, _, _⟩ := hval
    obtain ⟨h1, h2, h3⟩ := trod_flat (enc := enc) 20 hl fuel _ _ _ _ _ _ _ hf
    obtain ⟨ds, h4, h5⟩ := leaves_vals h1
    refine ⟨ds, h4, h2, fun pre post ss => ?_, fun w' base' sp' held' => ⟨fuel, h3 w' base' sp' held'⟩⟩
    simp only [argVals, h5 pre post, ← h4.len]
    rfl
  · rename_i fs hu
    obtain ⟨l, hl, rfl⟩ := Option.map_eq_some_iff.1 hs
    simp only [Value.okWide, hu] at hval
    obtain ⟨cs, rfl, _, _⟩ := hval
    obtain ⟨h1, h2, h3⟩ := trod_flat (enc := enc) 20 hl fuel _ _ _ _ _ _ _ hf
    obtain ⟨ds, h4, h5⟩ := leaves_vals h1
    refine ⟨ds, h4, h2, fun pre post ss => ?_, fun w' base' sp' held' => ⟨fuel, h3 w' base' sp' held'⟩⟩
    simp only [argVals, h5 pre post, ← h4.len]
    rfl
  · cases hs

theorem open_all {w : World} {base b0 : Nat} {sp : Nat → Bool} {held : Bool} {r : Reach} : ∀ {ts : List TypeId} {vs : List Value} {ds : List (DataW H)} {ps : List MemPlace} {ss : List Sh}, shapesOf P ts = some ss →
    (∀ (j : Nat) t v, ts[j]? = some t → vs[j]? = some v → Value.okWide P w r b0 t v) → DataW.TrodAll enc P w base sp held ts vs ds ps →
    ∃ xs : List DV, RangeOk (ss.flatMap Sh.lts) xs ∧ ps = [] ∧ (∀ pre : List DV, argVals (dget (pre ++ xs)) pre.length ss = vs) ∧ ds.length = ts.length ∧
      ∀ (w' : World) (base' : Nat) (sp' : Nat → Bool) (held' : Bool), DataW.TrodAll enc P w' base' sp' held' ts vs ds []
  | [], [], [], ps, ss, hs, _, hd => by
    simp [shapesOf] at hs
    subst hs
    exact ⟨[], trivial, hd, fun _ => rfl, rfl, fun _ _ _ _ => rfl⟩
  | t :: ts, v :: vs, d :: ds, ps, ss, hs, hval, hd => by
    simp only [shapesOf] at hs
    split at hs
    · cases hs
    · rename_i s hs1
      split at hs
      · cases hs
      · rename_i r hs2
        cases hs
        obtain ⟨p, q, h1, h2, rfl⟩ := hd
        obtain ⟨xs, a1, rfl, a3, a4⟩ := open_plain hs1 (hval 0 t v rfl rfl) h1
        obtain ⟨ys, b1, rfl, b3, b5, b4⟩ := open_all hs2 (fun j t v ht hv => hval (j + 1) t v (by simpa using ht) (by simpa using hv)) h2
        refine ⟨xs ++ ys, by simpa using RangeOk.append a1 b1, rfl, fun pre => ?_, by simp [b5], fun w' base' sp' held' => ⟨[], [], a4 w' base' sp' held', b4 w' base' sp' held', rfl⟩⟩
        have e1 := a3 pre ys r
        have e2 := b3 (pre ++ xs)
        rw [List.length_append] at e2
        rw [← List.append_assoc, e1, e2]
  | [], _ :: _, _, _, _, _, _, hd => by cases hd
  | [], [], _ :: _, _, _, _, _, hd => by cases hd
  | _ :: _, [], _, _, _, _, _, hd => by cases hd
  | _ :: _, _ :: _, [], _, _, _, _, hd => by cases hd
end

section
variable {C : Checked} {os : Os} {f : FuncId} {fn : Func} {s : ChangeSpec} {H : Type} {enc : TypeId × Value → H} {sg : Sig} {G : List DV → List DV} {I : World → Prop}

theorem post_plain {W W' : World} {args : Array Value} {ds gs : List (DataW H)} {tb : TypeId} (hW : DataW.Whole enc C.prog fn.params.toList s.vars false W args.toList ds gs [])
    (hrt : fn.resultTypes = #[tb]) (htb : C.prog.underlying tb = some .bool) (hvars : s.vars = [])
    (hs : s.fn H (ds ++ gs) = { results := [.lit (.bool true)], args := ds })
    (hargs : ∀ (w' : World) (base' : Nat) (sp' : Nat → Bool) (held' : Bool), DataW.TrodAll enc C.prog w' base' sp' held' fn.params.toList args.toList ds [])
    (hb : Below W.heap.size W W') : s.post enc C.prog fn false true false false W args (.bool true) W' := by
  refine ⟨ds, gs, [], [], [], [], hW, ?_, ?_, ?_, hb.frame _, fun h => by cases h⟩
  · rw [hs, hrt]
    exact trodAll_mk1 (shut_bool htb true)
  · rw [hs]
    exact hargs _ _ _ _
  · rw [hs, hvars]
    rfl

structure LawSig (sg : Sig) (ss : List Sh) : Prop where
  ins : sg.ins = patShapes 0 ss
  hin : sg.hin = []
  nin : sg.nin = nIn ss
  out : sg.out = .s (.one (.b (.h 0)))
  hout : sg.hout = []
  ots : sg.ots = [.b]

theorem law_contract {gK : Nat} {ss : List Sh} (k : FnOK C.prog I gK f sg G) (hsh : shapesOf C.prog fn.params.toList = some ss) (hl : LawSig sg ss) {tb : TypeId} (hrt : fn.resultTypes = #[tb])
    (htb : C.prog.underlying tb = some .bool) (hvars : s.vars = []) (hs : ∀ ds : List (DataW H), ds.length = fn.params.size → s.fn H ds = { results := [.lit (.bool true)], args := ds })
    (hG : ∀ xs, RangeOk (ss.flatMap Sh.lts) xs → (sg.need = true → (dget (G xs) 0).toB = true) ∧ (dget (G xs) (if sg.need then 1 else 0)).toB = true)
    {W : World} {base : Nat} {args : Array Value} {ds gs : List (DataW H)} {before : List MemPlace}
    (hval : ∀ (j : Nat) t v, fn.params[j]? = some t → args[j]? = some v → Value.okWide C.prog W .any base t v)
    (hW : DataW.Whole enc C.prog fn.params.toList s.vars false W args.toList ds gs before) (hI : I W) (hK : gK ≤ W.heap.size) :
    Calls C.prog f args W fun e W' => ∃ v, e = .returned v ∧ s.post enc C.prog fn false true false false W args v W' := by
  have hW0 := hW
  obtain ⟨p, q, hA, hV, rfl, _, _⟩ := hW
  rw [hvars] at hV
  obtain ⟨rfl, rfl⟩ := trodVars_none hV
  obtain ⟨xs, h1, rfl, h2, h3, h4⟩ := open_all hsh (fun j t v ht hv => hval j t v (by simpa using ht) (by simpa using hv)) hA
  have hx : nIn ss = (ss.flatMap Sh.lts).length := by
    unfold nIn
    rw [List.length_flatMap]
  have hg := hG xs h1
  have hhin : sg.hinI = [] := by unfold Sig.hinI; rw [hl.hin]; rfl
  have hempty : ∀ (E : Env) (ν : Nat → DV), HRel E ν (fun _ => default) [] W := fun E ν =>
    ⟨fun j bk hj => (by cases j <;> cases hj), fun j j' bk bk' hj => (by cases j <;> cases hj)⟩
  have hnW : ∀ b, ¬ (callEnv sg.hinI (fun _ => default) W).W b := fun b ⟨j, bk, hj, _⟩ => by rw [hhin] at hj; cases j <;> cases hj
  obtain ⟨c1, c2⟩ := patShapes_conc (n := sg.nin) (dget xs) (fun _ => default) ss 0 (by rw [hl.nin]; omega)
  have hins : sg.insI = (patShapes 0 ss).map (V.inst (idsFrom 0 sg.nin)) := by unfold Sig.insI; rw [hl.ins]
  have hk := k xs (fun _ => default) W hI (by rw [hl.nin, hx]; exact h1.len) hg.1 hK (fun b hb => absurd hb (hnW b)) (by rw [hins]; exact c2)
    (by rw [hhin]; exact hempty _ _)
  have ha : (sg.insI.map (V.conc (dget xs) fun _ => default)).toArray = args := by
    rw [hins, c1]
    apply Array.ext'
    simpa using h2 []
  rw [ha] at hk
  refine hk.mono fun e W' ⟨v, ρ', he, hc⟩ => ⟨.bool true, ?_, post_plain (s := s) hW0 hrt htb hvars ?_ h4 (hc.fr.weaken (W' := fun _ => False) fun b hb => hnW b hb).below⟩
  · rw [he, hc.val]
    have : sg.outI.conc (sg.res (G xs)) ρ' = .bool (dget (G xs) (if sg.need then 1 else 0)).toB := by
      unfold Sig.outI Sig.res
      rw [hl.out, hl.ots]
      show Value.bool (dget (G xs) (0 + _)).toB = _
      rw [Nat.zero_add]
    rw [this, hg.2]
  · rw [List.append_nil]
    exact hs ds (by simpa using h3)

theorem law_lifted {gK : Nat} {ss : List Sh} (k : FnOK C.prog I gK f sg G) (hsh : shapesOf C.prog fn.params.toList = some ss) (hl : LawSig sg ss) {tb : TypeId} (hrt : fn.resultTypes = #[tb])
    (htb : C.prog.underlying tb = some .bool) (hvars : s.vars = []) (hs : ∀ ds : List (DataW H), ds.length = fn.params.size → s.fn H ds = { results := [.lit (.bool true)], args := ds })
    (hG : ∀ xs, RangeOk (ss.flatMap Sh.lts) xs → (sg.need = true → (dget (G xs) 0).toB = true) ∧ (dget (G xs) (if sg.need then 1 else 0)).toB = true)
    (hI : ∀ W, I W) (hK : gK = 0)
    (own : ownKnob C.prog.godebug = none) (started : os.Started) (noInit : C.prog.inits.idxOf? f = none) (hfn : C.prog.funcs[f]? = some fn)
    (witness : ∃ (w : World) (tape : Tape) (i : Input), w.os = os ∧ (w.forCall tape i).Shaped C.prog ∧ i.vars = [] ∧ Input.okWide C.prog (w.forCall tape i) .any w.heap.size f i ∧
      s.pre6 enc C.prog fn [] false (w.forCall tape i).memory i.args ∧ ({} : Assume).holds C.prog (lone (Frame.enter C.prog f i.args .normal) [] (w.forCall tape i))) :
    ReturnsInHanded {} C os f .any (s.pre6 enc C.prog fn [] false) (s.post enc C.prog fn false true false false) :=
  returnsInHanded_of_change (C := C) own started noInit hfn witness
    fun W _ _ _ _ _ hval hW _ _ => law_contract k hsh hl hrt htb hvars hs hG hval hW (hI W) (by rw [hK]; exact Nat.zero_le _)
end
end Go.Sx

