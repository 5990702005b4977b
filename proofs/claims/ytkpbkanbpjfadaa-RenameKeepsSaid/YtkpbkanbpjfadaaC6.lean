/- A law of plain arguments (integers, bools, arrays and structs of such): its row, out of its function's contract. -/
import Derived.Test.YtkpbkanbpjfadaaC3
import Derived.ProofKit
import Derived.LaidMore
import Derived.Stop.Joined
import Derived.ReadAgain
namespace Go.Sx
open Go Go.ChangeShapes Go.WideShapes Go.RowKit

inductive Sh where
  | one (t : LT)
  | agg (l : List LT)
  deriving Inhabited
def Sh.lts : Sh → List LT
  | .one t => [t]
  | .agg l => l
def nIn (ss : List Sh) : Nat := (ss.map fun s => s.lts.length).sum
def LT.conc (t : LT) (d : DV) : Value :=
  match t with
  | .int k => .int k d.toI
  | .bool => .bool d.toB
  | .vec _ => .bool false
def leafVals (g : Nat → DV) : Nat → List LT → List Value
  | _, [] => []
  | j, t :: ts => t.conc (g j) :: leafVals g (j + 1) ts
def argVals (g : Nat → DV) : Nat → List Sh → List Value
  | _, [] => []
  | j, .one t :: ss => t.conc (g j) :: argVals g (j + 1) ss
  | j, .agg ts :: ss => .agg (leafVals g j ts).toArray :: argVals g (j + ts.length) ss
def LT.pat (j : Nat) : LT → Lf
  | .int k => .i k (.h j)
  | .bool => .b (.h j)
  | .vec _ => .b (.t false)
def patLeaves : Nat → List LT → List Lf
  | _, [] => []
  | j, t :: ts => t.pat j :: patLeaves (j + 1) ts
def patShapes : Nat → List Sh → List V
  | _, [] => []
  | j, .one t :: ss => .s (.one (t.pat j)) :: patShapes (j + 1) ss
  | j, .agg ts :: ss => .s (.agg (patLeaves j ts)) :: patShapes (j + ts.length) ss

theorem idsFrom_getD : ∀ (k n j : Nat), j < k → (idsFrom n k).getD j default = .r (n + j)
  | 0, _, _, h => by omega
  | k + 1, n, 0, _ => rfl
  | k + 1, n, j + 1, h => by
    have := idsFrom_getD k (n + 1) j (by omega)
    simp only [idsFrom, List.getD_cons_succ, this]
    congr 1
    omega
theorem pat_conc {n : Nat} (g : Nat → DV) (ρ : Nat → Loc) {t : LT} {j : Nat} (h : j < n) : ((t.pat j).inst (idsFrom 0 n)).conc g ρ = t.conc (g j) ∧ ((t.pat j).inst (idsFrom 0 n)).good g := by
  have e : (A.h j).inst (idsFrom 0 n) = .r j := by
    have := idsFrom_getD n 0 j h
    simpa [A.inst] using this
  cases t with
  | int k => exact ⟨by simp only [LT.pat, Lf.inst, e]; rfl, trivial⟩
  | bool => exact ⟨by simp only [LT.pat, Lf.inst, e]; rfl, trivial⟩
  | vec ts => exact ⟨rfl, trivial⟩
theorem patLeaves_conc {n : Nat} (g : Nat → DV) (ρ : Nat → Loc) : ∀ (ts : List LT) (j : Nat), j + ts.length ≤ n → ((patLeaves j ts).map (Lf.inst (idsFrom 0 n))).map (Lf.conc g ρ) = leafVals g j ts ∧ ∀ x ∈ (patLeaves j ts).map (Lf.inst (idsFrom 0 n)), Lf.good g x
  | [], j, _ => ⟨rfl, fun x hx => by cases hx⟩
  | t :: ts, j, h => by
    simp only [List.length_cons] at h
    obtain ⟨h1, h2⟩ := patLeaves_conc (n := n) g ρ ts (j + 1) (by omega)
    obtain ⟨h3, h4⟩ := pat_conc g ρ (t := t) (show j < n by omega)
    refine ⟨by simp only [patLeaves, List.map_cons, leafVals, h1, h3], fun x hx => ?_⟩
    simp only [patLeaves, List.map_cons] at hx
    rcases List.mem_cons.1 hx with rfl | hx
    · exact h4
    · exact h2 x hx
def flatFs (P : Program) (rec : TypeId → Option (List LT)) : Nat → List Field → Option (List LT)
  | _, [] => some []
  | o, f :: fs =>
    if Nat.beq f.offset o then
      match rec f.type with
      | none => none
      | some l =>
        if Nat.beq l.length (P.cellsOf f.type) then
          match flatFs P rec (o + l.length) fs with
          | none => none
          | some r => some (l ++ r)
        else none
    else none
def flatT (P : Program) : Nat → TypeId → Option (List LT)
  | 0, _ => none
  | d + 1, t =>
    match P.underlying t with
    | some .bool => some [.bool]
    | some (.int k) => some [.int k]
    | some (.array n e) =>
      match flatT P d e with
      | none => none
      | some l => if Nat.beq l.length (P.cellsOf e) && Nat.beq (P.cellsOf t) (n * l.length) then some (List.replicate n l).flatten else none
    | some (.struct fs) =>
      match flatFs P (flatT P d) 0 fs.toList with
      | none => none
      | some l => if Nat.beq l.length (P.cellsOf t) then some l else none
    | _ => none
def shapeOf (P : Program) (t : TypeId) : Option Sh :=
  match P.underlying t with
  | some .bool => some (.one .bool)
  | some (.int k) => some (.one (.int k))
  | some (.array _ _) => (flatT P 20 t).map .agg
  | some (.struct _) => (flatT P 20 t).map .agg
  | _ => none
def LeafOk : LT → Value → Prop
  | .int k, .int k' n => k' = k ∧ (Lit.int k n).wf = true
  | .bool, .bool _ => True
  | _, _ => False
def Leaves : List LT → List Value → Prop
  | [], [] => True
  | t :: ts, v :: vs => LeafOk t v ∧ Leaves ts vs
  | _, _ => False
theorem Leaves.len : ∀ {ts : List LT} {vs : List Value}, Leaves ts vs → vs.length = ts.length
  | [], [], _ => rfl
  | _ :: _, _ :: _, h => by simp [Leaves.len h.2]
  | [], _ :: _, h => h.elim
  | _ :: _, [], h => h.elim
theorem Leaves.append : ∀ {a b : List LT} {c d : List Value}, Leaves a c → Leaves b d → Leaves (a ++ b) (c ++ d)
  | [], _, [], _, _, h => h
  | _ :: _, _, _ :: _, _, h, h' => ⟨h.1, Leaves.append h.2 h'⟩
  | [], _, _ :: _, _, h, _ => h.elim
  | _ :: _, _, [], _, h, _ => h.elim

theorem mapM_carry {α β γ : Type} {f g : α → Option (β × List γ)} : ∀ {l : List α} {xs : List (β × List γ)}, l.mapM f = some xs →
    (∀ a ∈ l, ∀ y, f a = some y → g a = some y ∧ y.2 = []) → l.mapM g = some xs ∧ xs.flatMap (·.2) = [] ∧ ∀ a ∈ l, ∃ y, f a = some y
  | [], xs, h, _ => by
    simp at h
    subst h
    exact ⟨by simp, rfl, fun a ha => by cases ha⟩
  | a :: l, xs, h, hc => by
    simp only [List.mapM_cons, Option.bind_eq_bind, Option.bind_eq_some_iff, Option.pure_def, Option.some.injEq] at h
    obtain ⟨y, hy, ys, hys, rfl⟩ := h
    obtain ⟨h1, h2⟩ := hc a (by simp) y hy
    obtain ⟨h3, h4, h5⟩ := mapM_carry hys (fun b hb => hc b (List.mem_cons_of_mem _ hb))
    refine ⟨by simp [List.mapM_cons, h1, h3], by simp only [List.flatMap_cons, h2, h4, List.nil_append], fun b hb => ?_⟩
    rcases List.mem_cons.1 hb with rfl | hb
    · exact ⟨y, hy⟩
    · exact h5 b hb

theorem leaves_rows {l : List LT} {c : Nat} (hl : l.length = c) : ∀ {n : Nat} {cs : List Value}, cs.length = n * c → (∀ i, i < n → Leaves l ((cs.drop (i * c)).take c)) → Leaves (List.replicate n l).flatten cs
  | 0, cs, h, _ => by
    have : cs = [] := List.eq_nil_of_length_eq_zero (by simpa using h)
    subst this
    trivial
  | n + 1, cs, h, hp => by
    have h0 := hp 0 (by omega)
    simp only [Nat.zero_mul, List.drop_zero] at h0
    have h1 := leaves_rows hl (n := n) (cs := cs.drop c) (by rw [List.length_drop, h, Nat.succ_mul]; omega) (fun i hi => by
      have := hp (i + 1) (by omega)
      rw [List.drop_drop]
      rwa [show c + i * c = (i + 1) * c from by rw [Nat.succ_mul]; omega])
    have := Leaves.append h0 h1
    rw [List.take_append_drop] at this
    simpa [List.replicate_succ] using this

section
variable {H : Type} {enc : TypeId × Value → H} {P : Program}

def TrodOk (enc : TypeId × Value → H) (P : Program) (fuel : Nat) (t : TypeId) (lts : List LT) : Prop :=
  ∀ (w : World) (base : Nat) (sp : Nat → Bool) (held : Bool) (cs : List Value) (x : DataW H) (ps : List MemPlace), DataW.trod enc P w base sp held fuel t cs = some (x, ps) →
    Leaves lts cs ∧ ps = [] ∧ ∀ (w' : World) (base' : Nat) (sp' : Nat → Bool) (held' : Bool), DataW.trod enc P w' base' sp' held' fuel t cs = some (x, [])

theorem leaves_fields {rec : TypeId → Option (List LT)} {cs : List Value} : ∀ {fs : List Field} {o : Nat} {l : List LT}, flatFs P rec o fs = some l → cs.length = o + l.length →
    (∀ f ∈ fs, ∀ r, rec f.type = some r → Leaves r ((cs.drop f.offset).take (P.cellsOf f.type))) → Leaves l (cs.drop o)
  | [], o, l, h, hlen, _ => by
    simp [flatFs] at h
    subst h
    rw [List.drop_of_length_le (by simpa using Nat.le_of_eq hlen)]
    trivial
  | f :: fs, o, l, h, hlen, hp => by
    simp only [flatFs] at h
    split at h
    · rename_i ho
      have ho := Nat.eq_of_beq_eq_true ho
      split at h
      · cases h
      · rename_i r hr
        split at h
        · rename_i hc
          have hc := Nat.eq_of_beq_eq_true hc
          split at h
          · cases h
          · rename_i r' hr'
            cases h
            have h0 := hp f (by simp) r hr
            have h1 := leaves_fields hr' (by simp at hlen; omega) (fun g hg => hp g (List.mem_cons_of_mem _ hg))
            rw [ho, ← hc] at h0
            have h2 := Leaves.append h0 h1
            rw [← List.drop_drop, List.take_append_drop] at h2
            exact h2
        · cases h
    · cases h

theorem trod_flat : ∀ (d : Nat) {t : TypeId} {lts : List LT}, flatT P d t = some lts → ∀ fuel, TrodOk enc P fuel t lts
  | 0, _, _, h, _ => by cases h
  | d + 1, t, lts, h, fuel => by
    intro w base sp held cs x ps hx
    cases fuel with
    | zero => simp [DataW.trod] at hx
    | succ fuel =>
      simp only [flatT] at h
      split at h
      · rename_i hu
        cases h
        obtain ⟨b, rfl, he⟩ := DataW.trod_bool hu hx
        cases he
        exact ⟨⟨trivial, trivial⟩, rfl, fun _ _ _ _ => by simp [DataW.trod, hu]⟩
      · rename_i k hu
        cases h
        obtain ⟨n, rfl, he, hw⟩ := DataW.trod_int hu hx
        cases he
        exact ⟨⟨⟨rfl, hw⟩, trivial⟩, rfl, fun _ _ _ _ => by simp [DataW.trod, hu, hw]⟩
      · rename_i n e hu
        split at h
        · cases h
        · rename_i l hl
          split at h
          · rename_i hc
            cases h
            simp only [Bool.and_eq_true] at hc
            have hc1 := Nat.eq_of_beq_eq_true hc.1
            have hc2 := Nat.eq_of_beq_eq_true hc.2
            simp only [DataW.trod, hu] at hx
            split at hx
            · rename_i hlen
              obtain ⟨xs, hxs, he⟩ := Option.map_eq_some_iff.1 hx
              cases he
              have ih := trod_flat d hl fuel
              have hall := fun w' base' sp' held' => mapM_carry (g := fun i => DataW.trod enc P w' base' sp' held' fuel e ((cs.drop (i * P.cellsOf e)).take (P.cellsOf e))) hxs
                (fun i _ y hy => by
                  have := ih _ _ _ _ _ y.1 y.2 hy
                  exact ⟨by rw [this.2.2 w' base' sp' held', ← this.2.1], this.2.1⟩)
              refine ⟨leaves_rows hc1 (by rw [hlen, hc2, hc1]) (fun i hi => ?_), (hall w base sp held).2.1, fun w' base' sp' held' => ?_⟩
              · obtain ⟨y, hy⟩ := (hall w base sp held).2.2 i (List.mem_range.2 hi)
                exact (ih _ _ _ _ _ y.1 y.2 hy).1
              · obtain ⟨h1, h2, _⟩ := hall w' base' sp' held'
                simp only [DataW.trod, hu]
                rw [if_pos hlen, h1, Option.map_some, h2]
            · cases hx
          · cases h
      · rename_i fs hu
        split at h
        · cases h
        · rename_i l hl
          split at h
          · rename_i hc
            cases h
            have hc1 := Nat.eq_of_beq_eq_true hc
            simp only [DataW.trod, hu] at hx
            split at hx
            · rename_i hlen
              obtain ⟨xs, hxs, he⟩ := Option.map_eq_some_iff.1 hx
              cases he
              -- each field's type has leaves
              have hfl : ∀ {gs : List Field} {o : Nat} {r : List LT}, flatFs P (flatT P d) o gs = some r → ∀ f ∈ gs, ∃ r', flatT P d f.type = some r' := by
                intro gs
                induction gs with
                | nil => intro o r _ f hf; cases hf
                | cons g gs ih =>
                  intro o r hr f hf
                  simp only [flatFs] at hr
                  split at hr
                  · split at hr
                    · cases hr
                    · rename_i r1 hr1
                      split at hr
                      · split at hr
                        · cases hr
                        · rename_i r2 hr2
                          rcases List.mem_cons.1 hf with rfl | hf
                          · exact ⟨r1, hr1⟩
                          · exact ih hr2 f hf
                      · cases hr
                  · cases hr
              have hall := fun w' base' sp' held' => mapM_carry (g := fun f : Field => DataW.trod enc P w' base' sp' held' fuel f.type ((cs.drop f.offset).take (P.cellsOf f.type))) hxs
                (fun f hf y hy => by
                  obtain ⟨r', hr'⟩ := hfl hl f hf
                  have := trod_flat d hr' fuel _ _ _ _ _ y.1 y.2 hy
                  exact ⟨by rw [this.2.2 w' base' sp' held', ← this.2.1], this.2.1⟩)
              refine ⟨?_, (hall w base sp held).2.1, fun w' base' sp' held' => ?_⟩
              · have := leaves_fields (P := P) (cs := cs) hl (by rw [hlen, hc1]; omega) (fun f hf r hr => by
                  obtain ⟨y, hy⟩ := (hall w base sp held).2.2 f hf
                  exact (trod_flat d hr fuel _ _ _ _ _ y.1 y.2 hy).1)
                simpa using this
              · obtain ⟨h1, h2, _⟩ := hall w' base' sp' held'
                simp only [DataW.trod, hu]
                rw [if_pos hlen, h1, Option.map_some, h2]
            · cases hx
          · cases h
      · cases h

def RangeOk : List LT → List DV → Prop
  | [], [] => True
  | .int k :: ts, .i n :: ds => (Lit.int k n).wf = true ∧ RangeOk ts ds
  | .bool :: ts, .b _ :: ds => True ∧ RangeOk ts ds
  | _, _ => False
theorem RangeOk.len : ∀ {ts : List LT} {ds : List DV}, RangeOk ts ds → ds.length = ts.length
  | [], [], _ => rfl
  | .int _ :: _, .i _ :: _, h => by simp [RangeOk.len h.2]
  | .bool :: _, .b _ :: _, h => by simp [RangeOk.len h.2]
  | [], _ :: _, h => h.elim
  | .int _ :: _, [], h => h.elim
  | .bool :: _, [], h => h.elim
  | .int _ :: _, .b _ :: _, h => h.elim
  | .bool :: _, .i _ :: _, h => h.elim
  | .int _ :: _, .l _ :: _, h => h.elim
  | .bool :: _, .l _ :: _, h => h.elim
  | .vec _ :: _, [], h => h.elim
  | .vec _ :: _, _ :: _, h => h.elim
theorem RangeOk.append : ∀ {a b : List LT} {c d : List DV}, RangeOk a c → RangeOk b d → RangeOk (a ++ b) (c ++ d)
  | [], _, [], _, _, h => h
  | .int _ :: _, _, .i _ :: _, _, h, h' => ⟨h.1, RangeOk.append h.2 h'⟩
  | .bool :: _, _, .b _ :: _, _, h, h' => ⟨trivial, RangeOk.append h.2 h'⟩
  | [], _, _ :: _, _, h, _ => h.elim
  | .int _ :: _, _, [], _, h, _ => h.elim
  | .bool :: _, _, [], _, h, _ => h.elim
  | .int _ :: _, _, .b _ :: _, _, h, _ => h.elim
  | .bool :: _, _, .i _ :: _, _, h, _ => h.elim
  | .int _ :: _, _, .l _ :: _, _, h, _ => h.elim
  | .bool :: _, _, .l _ :: _, _, h, _ => h.elim
  | .vec _ :: _, _, [], _, h, _ => h.elim
  | .vec _ :: _, _, _ :: _, _, h, _ => h.elim

theorem dget_pre (pre : List DV) (d : DV) (post : List DV) : dget (pre ++ d :: post) pre.length = d := by
  simp [dget, List.getD_eq_getElem?_getD]

theorem leaves_vals : ∀ {ts : List LT} {vs : List Value}, Leaves ts vs → ∃ ds, RangeOk ts ds ∧ ∀ pre post : List DV, leafVals (dget (pre ++ ds ++ post)) pre.length ts = vs
  | [], [], _ => ⟨[], trivial, fun _ _ => rfl⟩
  | .int k :: ts, .int k' n :: vs, h => by
    obtain ⟨ds, h1, h2⟩ := leaves_vals h.2
    obtain ⟨⟨rfl, hw⟩, _⟩ := h
    refine ⟨.i n :: ds, ⟨hw, h1⟩, fun pre post => ?_⟩
    have := h2 (pre ++ [.i n]) post
    simp only [leafVals, List.append_assoc, List.cons_append, List.nil_append, List.length_append, List.length_cons, List.length_nil, Nat.zero_add] at this ⊢
    rw [this, dget_pre]
    rfl
  | .bool :: ts, .bool b :: vs, h => by
    obtain ⟨ds, h1, h2⟩ := leaves_vals h.2
    refine ⟨.b b :: ds, ⟨trivial, h1⟩, fun pre post => ?_⟩
    have := h2 (pre ++ [.b b]) post
    simp only [leafVals, List.append_assoc, List.cons_append, List.nil_append, List.length_append, List.length_cons, List.length_nil, Nat.zero_add] at this ⊢
    rw [this, dget_pre]
    rfl
  | [], _ :: _, h => h.elim
  | _ :: _, [], h => h.elim
  | .int _ :: _, .bool _ :: _, h => h.1.elim
  | .bool :: _, .int _ _ :: _, h => h.1.elim
  | .vec _ :: _, _ :: _, h => h.1.elim

theorem open_plain {w : World} {base b0 : Nat} {sp : Nat → Bool} {held : Bool} {r : Reach} {t : TypeId} {v : Value} {d : DataW H} {ps : List MemPlace} {s : Sh} (hs : shapeOf P t = some s)
    (hval : Value.okWide P w r b0 t v) (hd : DataW.Trod enc P w base sp held t v d ps) :
    ∃ ds : List DV, RangeOk s.lts ds ∧ ps = [] ∧ (∀ (pre post : List DV) (ss : List Sh), argVals (dget (pre ++ ds ++ post)) pre.length (s :: ss) = v :: argVals (dget (pre ++ ds ++ post)) (pre.length + ds.length) ss) ∧
      ∀ (w' : World) (base' : Nat) (sp' : Nat → Bool) (held' : Bool), DataW.Trod enc P w' base' sp' held' t v d [] := by
  obtain ⟨fuel, hf⟩ := hd
  unfold shapeOf at hs
  split at hs
  · rename_i hu
    cases hs
    obtain ⟨b, rfl⟩ := okWide_bool hu hval
    have hfl : flatT P 1 t = some [.bool] := by simp [flatT, hu]
    obtain ⟨_, h2, h3⟩ := trod_flat (enc := enc) 1 hfl fuel _ _ _ _ _ _ _ hf
    refine ⟨[.b b], ⟨trivial, trivial⟩, h2, fun pre post ss => ?_, fun w' base' sp' held' => ⟨fuel, h3 w' base' sp' held'⟩⟩
    simp only [argVals, List.append_assoc, List.cons_append, List.nil_append, dget_pre, List.length_cons, List.length_nil]
    rfl
  · rename_i k hu
    cases hs
    obtain ⟨n, rfl⟩ := okWide_int hu hval
    have hfl : flatT P 1 t = some [.int k] := by simp [flatT, hu]
    obtain ⟨h1, h2, h3⟩ := trod_flat (enc := enc) 1 hfl fuel _ _ _ _ _ _ _ hf
    refine ⟨[.i n], ⟨h1.1.2, trivial⟩, h2, fun pre post ss => ?_, fun w' base' sp' held' => ⟨fuel, h3 w' base' sp' held'⟩⟩
    simp only [argVals, List.append_assoc, List.cons_append, List.nil_append, dget_pre, List.length_cons, List.length_nil]
    rfl
  · rename_i n e hu
    obtain ⟨l, hl, rfl⟩ := Option.map_eq_some_iff.1 hs
    simp only [Value.okWide, hu] at hval
    obtain ⟨cs, rfl, _, _⟩ := hval
    obtain ⟨h1, h2, h3⟩ := trod_flat (enc := enc) 20 hl fuel _ _ _ _ _ _ _ hf
    obtain ⟨ds, h4, h5⟩ := leaves_vals h1
    refine ⟨ds, h4, h2, fun pre post ss => ?_, fun w' base' sp' held' => ⟨fuel, h3 w' base' sp' held'⟩⟩
    simp only [argVals, h5 pre post, ← h4.len]
    rfl
  · rename_i fs hu
    obtain ⟨l, hl, rfl⟩ := Option.map_eq_some_iff.1 hs
    simp only [Value.okWide, hu] at hval
    obtain ⟨cs, rfl, _, _⟩ := hval
    obtain ⟨h1, h2, h3⟩ := trod_flat (enc := enc) 20 hl fuel _ _ _ _ _ _ _ hf
    obtain ⟨ds, h4, h5⟩ := leaves_vals h1
    refine ⟨ds, h4, h2, fun pre post ss => ?_, fun w' base' sp' held' => ⟨fuel, h3 w' base' sp' held'⟩⟩
    simp only [argVals, h5 pre post, ← h4.len]
    rfl
  · cases hs

end

theorem mapM_get {α β : Type} {f : α → Option β} : ∀ {l : List α} {xs : List β}, l.mapM f = some xs → ∀ (i : Nat) (a : α), l[i]? = some a → ∃ y, xs[i]? = some y ∧ f a = some y
  | [], xs, _, i, a, ha => by simp at ha
  | b :: l, xs, h, i, a, ha => by
    simp only [List.mapM_cons, Option.bind_eq_bind, Option.bind_eq_some_iff, Option.pure_def, Option.some.injEq] at h
    obtain ⟨y, hy, ys, hys, rfl⟩ := h
    cases i with
    | zero => simp at ha; subst ha; exact ⟨y, rfl, hy⟩
    | succ i => obtain ⟨z, h1, h2⟩ := mapM_get hys i a (by simpa using ha); exact ⟨z, by simpa using h1, h2⟩

section
variable {C : Checked} {os : Os} {f : FuncId} {fn : Func} {s : ChangeSpec} {H : Type} {enc : TypeId × Value → H} {sg : Sig} {G : List DV → List DV} {I : World → Prop}

structure LawSig (sg : Sig) (ss : List Sh) : Prop where
  ins : sg.ins = patShapes 0 ss
  hin : sg.hin = []
  nin : sg.nin = nIn ss
  out : sg.out = .s (.one (.b (.h 0)))
  hout : sg.hout = []
  ots : sg.ots = [.b]

end
end Go.Sx

namespace Go.Sx
open Go Go.ChangeShapes Go.WideShapes Go.RowKit

inductive ShV where
  | pl (s : Sh)
  | row (ts : List LT)
  deriving Inhabited
def ShV.wd : ShV → Nat
  | .pl s => s.lts.length
  | .row _ => 1
def nInV : List ShV → Nat
  | [] => 0
  | s :: ss => s.wd + nInV ss
def patV : Nat → Nat → List ShV → List V
  | _, _, [] => []
  | j, b, .pl (.one t) :: ss => .s (.one (t.pat j)) :: patV (j + 1) b ss
  | j, b, .pl (.agg ts) :: ss => .s (.agg (patLeaves j ts)) :: patV (j + ts.length) b ss
  | j, b, .row _ :: ss => .s (.one (.vec b)) :: patV (j + 1) (b + 1) ss
def blksV : Nat → List ShV → List (Option Blk)
  | _, [] => []
  | j, .pl s :: ss => blksV (j + s.lts.length) ss
  | j, .row ts :: ss => some (.v false ts (.h j)) :: blksV (j + 1) ss
def argV (g : Nat → DV) (ρ : Nat → Loc) : Nat → Nat → List ShV → List Value
  | _, _, [] => []
  | j, b, .pl (.one t) :: ss => t.conc (g j) :: argV g ρ (j + 1) b ss
  | j, b, .pl (.agg ts) :: ss => .agg (leafVals g j ts).toArray :: argV g ρ (j + ts.length) b ss
  | j, b, .row _ :: ss => (ρ b).slice :: argV g ρ (j + 1) (b + 1) ss

theorem patV_conc {n : Nat} (g : Nat → DV) (ρ : Nat → Loc) : ∀ (ss : List ShV) (j b : Nat), j + nInV ss ≤ n → ((patV j b ss).map (V.inst (idsFrom 0 n))).map (V.conc g ρ) = argV g ρ j b ss ∧ ∀ x ∈ (patV j b ss).map (V.inst (idsFrom 0 n)), V.good g x
  | [], j, b, _ => ⟨rfl, fun x hx => by cases hx⟩
  | .pl (.one t) :: ss, j, b, h => by
    have h : j + (1 + nInV ss) ≤ n := h
    obtain ⟨h1, h2⟩ := patV_conc (n := n) g ρ ss (j + 1) b (by omega)
    obtain ⟨h3, h4⟩ := pat_conc g ρ (t := t) (show j < n by omega)
    refine ⟨by simp only [patV, List.map_cons, argV, h1, V.inst, V1.inst, V.conc, V1.conc, h3], fun x hx => ?_⟩
    simp only [patV, List.map_cons] at hx
    rcases List.mem_cons.1 hx with rfl | hx
    · exact V1.good_one.2 h4
    · exact h2 x hx
  | .pl (.agg ts) :: ss, j, b, h => by
    have h : j + (ts.length + nInV ss) ≤ n := h
    obtain ⟨h1, h2⟩ := patV_conc (n := n) g ρ ss (j + ts.length) b (by omega)
    obtain ⟨h3, h4⟩ := patLeaves_conc (n := n) g ρ ts j (show j + ts.length ≤ n by omega)
    refine ⟨by simp only [patV, List.map_cons, argV, h1, V.inst, V1.inst, V.conc, V1.conc, h3], fun x hx => ?_⟩
    simp only [patV, List.map_cons] at hx
    rcases List.mem_cons.1 hx with rfl | hx
    · exact V1.good_agg.2 h4
    · exact h2 x hx
  | .row ts :: ss, j, b, h => by
    have h : j + (1 + nInV ss) ≤ n := h
    obtain ⟨h1, h2⟩ := patV_conc (n := n) g ρ ss (j + 1) (b + 1) (by omega)
    refine ⟨by simp only [patV, List.map_cons, argV, h1, V.inst, V1.inst, V.conc, V1.conc, Lf.inst, Lf.conc], fun x hx => ?_⟩
    simp only [patV, List.map_cons] at hx
    rcases List.mem_cons.1 hx with rfl | hx
    · exact V1.good_one.2 trivial
    · exact h2 x hx

structure RowIn (ts : List LT) (xs : List DV) : Prop where
  pos : 0 < ts.length
  len : ∃ n, n ≤ maxLen ∧ xs.length = n * ts.length
  cell : ∀ i, i < xs.length → RangeOk [ts.getD (i % ts.length) .bool] [xs.getD i default]
def RowsRel (E : Env) (W : World) : List ShV → List DV → List Loc → Prop
  | [], _, _ => True
  | .pl s :: ss, ds, ls => RowsRel E W ss (ds.drop s.lts.length) ls
  | .row ts :: ss, ds, ls => VRel E W (ls.headD default) false ts (ds.headD default).toL ∧ RowsRel E W ss ds.tail ls.tail

theorem cells_at {w : World} {base : Nat} {a : Addr} {n : Nat} {cs : List Value} (h : w.cells? base a n = some cs) : ∀ i, i < n → ∀ v, cs[i]? = some v → w.cell? (a.add i) = some v := by
  unfold World.cells? at h
  split at h
  · intro i hi v hv
    obtain ⟨y, h1, h2⟩ := mapM_get h i i (List.getElem?_range hi)
    rw [h1] at hv
    cases hv
    exact h2
  · cases h

section
variable {H : Type} {enc : TypeId × Value → H} {P : Program}

end

theorem blksV_own : ∀ (ss : List ShV) (j i : Nat) (b : Blk), nth (blksV j ss) i = some b → b.own = false
  | [], _, i, b, h => by cases i <;> cases h
  | .pl s :: ss, j, i, b, h => blksV_own ss _ i b h
  | .row ts :: ss, j, 0, b, h => by cases h; rfl
  | .row ts :: ss, j, i + 1, b, h => blksV_own ss _ i b h
theorem rows_rel {E : Env} {W : World} {n : Nat} (xs : List DV) (ls0 : List Loc) (hn : xs.length = n) : ∀ (ss : List ShV) (j b : Nat), j + nInV ss ≤ n → RowsRel E W ss (xs.drop j) (ls0.drop b) →
    ∀ i bk, nth ((blksV j ss).map (Option.map (Blk.inst (idsFrom 0 n)))) i = some bk → BlkRel E (dget xs) (fun i => ls0.getD i default) W (ls0.getD (b + i) default) bk
  | [], j, b, _, _, i, bk, h => by cases i <;> cases h
  | .pl s :: ss, j, b, hj, hr, i, bk, h => by
    have hj : j + (s.lts.length + nInV ss) ≤ n := hj
    refine rows_rel xs ls0 hn ss (j + s.lts.length) b (by omega) ?_ i bk h
    have hr : RowsRel E W ss ((xs.drop j).drop s.lts.length) (ls0.drop b) := hr
    rwa [List.drop_drop] at hr
  | .row ts :: ss, j, b, hj, hr, 0, bk, h => by
    have hj : j + (1 + nInV ss) ≤ n := hj
    cases h
    have hid : (A.h j).inst (idsFrom 0 n) = .r j := by
      have := idsFrom_getD n 0 j (by omega)
      simpa [A.inst] using this
    have h1 := hr.1
    show VRel E W (ls0.getD (b + 0) default) false ts (((A.h j).inst (idsFrom 0 n)).cells (dget xs))
    rw [hid]
    have e1 : (ls0.drop b).headD default = ls0.getD (b + 0) default := by
      rw [List.headD_eq_head?_getD, List.head?_drop, List.getD_eq_getElem?_getD, Nat.add_zero]
    have e2 : (xs.drop j).headD default = dget xs j := by
      rw [List.headD_eq_head?_getD, List.head?_drop, dget, List.getD_eq_getElem?_getD]
    rw [e1, e2] at h1
    exact h1
  | .row ts :: ss, j, b, hj, hr, i + 1, bk, h => by
    have hj : j + (1 + nInV ss) ≤ n := hj
    have h2 : RowsRel E W ss ((xs.drop j).tail) ((ls0.drop b).tail) := hr.2
    rw [List.tail_drop, List.tail_drop] at h2
    have := rows_rel xs ls0 hn ss (j + 1) (b + 1) (by omega) h2 i bk h
    rwa [show b + 1 + i = b + (i + 1) from by omega] at this

section
variable {C : Checked} {os : Os} {f : FuncId} {fn : Func} {s : ChangeSpec} {H : Type} {enc : TypeId × Value → H} {sg : Sig} {G : List DV → List DV} {I : World → Prop}

structure LawSigV (sg : Sig) (ss : List ShV) : Prop where
  ins : sg.ins = patV 0 0 ss
  hin : sg.hin = blksV 0 ss
  nin : sg.nin = nInV ss
  out : sg.out = .s (.one (.b (.h 0)))
  hout : sg.hout = []
  ots : sg.ots = [.b]

structure LaidOk (P : Program) (ts : List TypeId) : Prop where
  rows : laidOutB P = true
  maps : mapsRowed P = true
  full : ((List.range P.types.size).all fun t => match P.underlying t with | some (.slice e) => decide (0 < P.cellsOf e) | _ => true) = true
  lt : ts.all (fun t => decide (t < P.types.size)) = true

end
end Go.Sx

namespace Go.Sx
open Go Go.ChangeShapes Go.WideShapes Go.RowKit

def Lv (p : LT → Value → Prop) : List LT → List Value → Prop
  | [], [] => True
  | t :: ts, v :: vs => p t v ∧ Lv p ts vs
  | _, _ => False
theorem Lv.len {p : LT → Value → Prop} : ∀ {a : List LT} {c : List Value}, Lv p a c → c.length = a.length
  | [], [], _ => rfl
  | _ :: _, _ :: _, h => by simp [Lv.len h.2]
  | [], _ :: _, h => h.elim
  | _ :: _, [], h => h.elim
theorem Lv.append {p : LT → Value → Prop} : ∀ {a b : List LT} {c d : List Value}, Lv p a c → Lv p b d → Lv p (a ++ b) (c ++ d)
  | [], _, [], _, _, h => h
  | _ :: _, _, _ :: _, _, h, h' => ⟨h.1, Lv.append h.2 h'⟩
  | [], _, _ :: _, _, h, _ => h.elim
  | _ :: _, _, [], _, h, _ => h.elim
theorem Lv.at {p : LT → Value → Prop} : ∀ {ts : List LT} {vs : List Value}, Lv p ts vs → ∀ i, i < ts.length → ∃ v, vs[i]? = some v ∧ p (ts.getD i .bool) v
  | t :: ts, v :: vs, h, 0, _ => ⟨v, rfl, h.1⟩
  | t :: ts, v :: vs, h, i + 1, hi => by
    obtain ⟨u, h1, h2⟩ := Lv.at h.2 i (by simpa using hi)
    exact ⟨u, by simpa using h1, by simpa using h2⟩
  | [], _, _, i, hi => by simp at hi
  | _ :: _, [], h, _, _ => h.elim
theorem lv_rows {p : LT → Value → Prop} {l : List LT} {c : Nat} (hl : l.length = c) : ∀ {n : Nat} {cs : List Value}, cs.length = n * c → (∀ i, i < n → Lv p l ((cs.drop (i * c)).take c)) → Lv p (List.replicate n l).flatten cs
  | 0, cs, h, _ => by
    have : cs = [] := List.eq_nil_of_length_eq_zero (by simpa using h)
    subst this
    trivial
  | n + 1, cs, h, hp => by
    have h0 := hp 0 (by omega)
    simp only [Nat.zero_mul, List.drop_zero] at h0
    have h1 := lv_rows (p := p) hl (n := n) (cs := cs.drop c) (by rw [List.length_drop, h, Nat.succ_mul]; omega) (fun i hi => by
      have := hp (i + 1) (by omega)
      rw [List.drop_drop]
      rwa [show c + i * c = (i + 1) * c from by rw [Nat.succ_mul]; omega])
    have := Lv.append h0 h1
    rw [List.take_append_drop] at this
    simpa [List.replicate_succ] using this

inductive RangeC : LT → DV → Prop
  | int (k : IntKind) (n : Int) (h : (Lit.int k n).wf = true) : RangeC (.int k) (.i n)
  | bool (b : Bool) : RangeC .bool (.b b)
  | vec (ts : List LT) (xs : List DV) (n : Nat) (hpos : 0 < ts.length) (hn : n ≤ maxLen) (hlen : xs.length = n * ts.length) (hc : ∀ i, i < xs.length → RangeC (ts.getD (i % ts.length) .bool) (xs.getD i default)) : RangeC (.vec ts) (.l xs)
structure RowInN (ts : List LT) (xs : List DV) : Prop where
  pos : 0 < ts.length
  len : ∃ n, n ≤ maxLen ∧ xs.length = n * ts.length
  cell : ∀ i, i < xs.length → RangeC (ts.getD (i % ts.length) .bool) (xs.getD i default)
theorem RangeC.row {ts : List LT} {xs : List DV} (h : RangeC (.vec ts) (.l xs)) : RowInN ts xs := by
  cases h with
  | vec _ _ n hpos hn hlen hc => exact ⟨hpos, ⟨n, hn, hlen⟩, hc⟩
def CellN (E : Env) (t : LT) (v : Value) : Prop := ∃ d, CRel E t d v ∧ RangeC t d
theorem exists_list {α : Type} {Q : Nat → α → Prop} (d : α) : ∀ n : Nat, (∀ i, i < n → ∃ a, Q i a) → ∃ l : List α, l.length = n ∧ ∀ i, i < n → Q i (l.getD i d)
  | 0, _ => ⟨[], rfl, fun i hi => by omega⟩
  | n + 1, h => by
    obtain ⟨l, h1, h2⟩ := exists_list d n (fun i hi => h i (by omega))
    obtain ⟨a, ha⟩ := h n (by omega)
    refine ⟨l ++ [a], by simp [h1], fun i hi => ?_⟩
    rcases Nat.lt_or_ge i n with hlt | hge
    · rw [List.getD_eq_getElem?_getD, List.getElem?_append_left (by omega), ← List.getD_eq_getElem?_getD]
      exact h2 i hlt
    · have : i = n := by omega
      subst this
      rw [List.getD_eq_getElem?_getD, List.getElem?_append_right (by omega), h1]
      simpa using ha
theorem CRel.mono {E E' : Env} (hw : E'.w0 = E.w0) (hW : ∀ b, E.V b → ¬ E.W b → ¬ E'.W b) (hV : ∀ b, E.V b → ¬ E.W b → E'.V b) {t : LT} {d : DV} {v : Value} (h : CRel E t d v) : CRel E' t d v := by
  induction h with
  | int k d => exact .int k d
  | bool d => exact .bool d
  | vec ts d r vs hnil hlt hpos hlen hcap hv hc ih =>
    exact .vec ts d r vs hnil (fun hn => ⟨by rw [hw]; exact (hlt hn).1, hW _ (hlt hn).2.2 (hlt hn).2.1, hV _ (hlt hn).2.2 (hlt hn).2.1⟩) hpos hlen hcap (fun i hi => by rw [hw]; exact hv i hi) ih

def flatN (P : Program) : Nat → TypeId → Option (List LT)
  | 0, _ => none
  | d + 1, t =>
    match P.underlying t with
    | some .bool => some [.bool]
    | some (.int k) => some [.int k]
    | some (.slice e) =>
      match flatN P d e with
      | none => none
      | some l => if Nat.beq l.length (P.cellsOf e) && Nat.blt 0 l.length then some [.vec l] else none
    | some (.array n e) =>
      match flatN P d e with
      | none => none
      | some l => if Nat.beq l.length (P.cellsOf e) && Nat.beq (P.cellsOf t) (n * l.length) then some (List.replicate n l).flatten else none
    | some (.struct fs) =>
      match flatFs P (flatN P d) 0 fs.toList with
      | none => none
      | some l => if Nat.beq l.length (P.cellsOf t) then some l else none
    | _ => none
theorem lv_fields {P : Program} {p : LT → Value → Prop} {rec : TypeId → Option (List LT)} {cs : List Value} : ∀ {fs : List Field} {o : Nat} {l : List LT}, flatFs P rec o fs = some l → cs.length = o + l.length →
    (∀ f ∈ fs, ∀ r, rec f.type = some r → Lv p r ((cs.drop f.offset).take (P.cellsOf f.type))) → Lv p l (cs.drop o)
  | [], o, l, h, hlen, _ => by
    simp [flatFs] at h
    subst h
    rw [List.drop_of_length_le (by simpa using Nat.le_of_eq hlen)]
    trivial
  | f :: fs, o, l, h, hlen, hp => by
    simp only [flatFs] at h
    split at h
    · rename_i ho
      have ho := Nat.eq_of_beq_eq_true ho
      split at h
      · cases h
      · rename_i r hr
        split at h
        · rename_i hc
          have hc := Nat.eq_of_beq_eq_true hc
          split at h
          · cases h
          · rename_i r' hr'
            cases h
            have h0 := hp f (by simp) r hr
            have h1 := lv_fields (p := p) hr' (by simp at hlen; omega) (fun g hg => hp g (List.mem_cons_of_mem _ hg))
            rw [ho, ← hc] at h0
            have h2 := Lv.append h0 h1
            rw [← List.drop_drop, List.take_append_drop] at h2
            exact h2
        · cases h
    · cases h
theorem mapM_some {α β : Type} {f : α → Option β} : ∀ {l : List α} {xs : List β}, l.mapM f = some xs → ∀ a ∈ l, ∃ y, f a = some y
  | [], _, _, a, ha => by cases ha
  | b :: l, xs, h, a, ha => by
    simp only [List.mapM_cons, Option.bind_eq_bind, Option.bind_eq_some_iff, Option.pure_def, Option.some.injEq] at h
    obtain ⟨y, hy, ys, hys, rfl⟩ := h
    rcases List.mem_cons.1 ha with rfl | ha
    · exact ⟨y, hy⟩
    · exact mapM_some hys a ha

section
variable {H : Type} {enc : TypeId × Value → H} {P : Program}
theorem cell_met {β : Type} {w : World} {base : Nat} {a : Addr} {k n : Nat} {f : List Value → Option β} {x : β} (h : (w.cells? base (a.add k) n).bind f = some x) (hk : k = 0) (hn : 0 < n) : a.spot = none ∧ a.block < w.heap.size := by
  obtain ⟨cs, hcs, _⟩ := Option.bind_eq_some_iff.1 h
  unfold World.cells? at hcs
  split at hcs
  · obtain ⟨v, hv⟩ := mapM_some hcs 0 (List.mem_range.2 hn)
    unfold World.cell? at hv
    have e1 : (a.add k).add 0 = a := by subst hk; rfl
    rw [e1] at hv
    split at hv
    · rename_i c el z hb
      refine ⟨?_, ?_⟩
      · cases hs : a.spot with
        | none => rfl
        | some s => rw [hs] at hv; simp at hv
      · rcases Nat.lt_or_ge a.block w.heap.size with h | h
        · exact h
        · rw [Array.getElem?_eq_none h] at hb; cases hb
    · cases hv
  · cases hcs
theorem slice_met {w : World} {base fuel : Nat} {held : Bool} {t e : TypeId} {cs : List Value} {x : DataW H × List MemPlace} {ts : List LT} {E : Env} (_hw0 : E.w0 = w) (_hW : ∀ b, ¬ E.W b) (_hV : ∀ b, b < w.heap.size → E.V b) (hu : P.underlying t = some (.slice e)) (hc : ts.length = P.cellsOf e) (hpos : 0 < ts.length)
    (hrec : ∀ n cs x, DataW.trod enc P w base (fun _ => true) held n e cs = some x → Lv (CellN E) ts cs) (hd : DataW.trod enc P w base (fun _ => true) held fuel t cs = some x) :
    ∃ (r : Loc) (xs : List DV) (vs : Nat → Value), cs = [r.slice] ∧ (r.nil = true → r.len = 0 ∧ r.cap = 0) ∧ (r.nil = false → r.blk < w.heap.size) ∧ xs.length = r.len * ts.length ∧ r.len ≤ r.cap ∧ RowInN ts xs ∧
      ∀ i, i < xs.length → w.cell? ⟨r.blk, r.off + i, none⟩ = some (vs i) ∧ CRel E (ts.getD (i % ts.length) .bool) (xs.getD i default) (vs i) := by
  rcases DataW.trod_slice hu hd with ⟨rfl, _⟩ | ⟨a, len, cap, elems, rest, n, _, rfl, _, _, hlc, hcm, hel, helem, hsp, _⟩
  · exact ⟨⟨0, 0, true, 0, 0, none⟩, [], fun _ => undef, rfl, fun _ => ⟨rfl, rfl⟩, fun e => (by cases e), by simp, Nat.le_refl _, ⟨hpos, ⟨0, Nat.zero_le _, by simp⟩, fun i hi => by simp at hi⟩, fun i hi => by simp at hi⟩
  · rcases Nat.eq_zero_or_pos cap with hc0 | hc0
    · have hl0 : len = 0 := by omega
      subst hc0; subst hl0
      exact ⟨⟨0, 0, true, 0, 0, some a⟩, [], fun _ => undef, rfl, fun _ => ⟨rfl, rfl⟩, fun e => (by cases e), by simp, Nat.le_refl _, ⟨hpos, ⟨0, Nat.zero_le _, by simp⟩, fun i hi => by simp at hi⟩, fun i hi => by simp at hi⟩
    · have hcell : a.spot = none ∧ a.block < w.heap.size := by
        rcases Nat.eq_zero_or_pos len with hl0 | hl0
        · obtain ⟨hr1, hr2⟩ := hsp rfl
          have := hr2 0 (by omega)
          rw [List.getElem?_eq_getElem (by omega)] at this
          exact cell_met this (by rw [hl0]; simp) (by omega)
        · have := helem 0 hl0
          rw [List.getElem?_eq_getElem (by omega)] at this
          exact cell_met this (by simp) (by omega)
      obtain ⟨hspot, hblk⟩ := hcell
      have ha : a = ⟨a.block, a.off, none⟩ := by cases a; simp_all
      have hadd : ∀ i, a.add i = ⟨a.block, a.off + i, none⟩ := fun i => by rw [ha]; exact addr_add _ _ _
      have hkey : ∀ j, j < len * ts.length → ∃ d : DV, ∃ v, w.cell? ⟨a.block, a.off + j, none⟩ = some v ∧ CRel E (ts.getD (j % ts.length) .bool) d v ∧ RangeC (ts.getD (j % ts.length) .bool) d := fun j hj => by
        have hq : j / ts.length < len := (Nat.div_lt_iff_lt_mul hpos).2 hj
        have hr : j % ts.length < ts.length := Nat.mod_lt _ hpos
        have he := helem (j / ts.length) hq
        rw [List.getElem?_eq_getElem (by rw [hel]; exact hq)] at he
        obtain ⟨cs, hcs, htr⟩ := Option.bind_eq_some_iff.1 he
        have hlv := hrec n cs _ htr
        obtain ⟨v, hv1, d, hv2, hv3⟩ := hlv.at (j % ts.length) hr
        refine ⟨d, v, ?_, hv2, hv3⟩
        have := cells_at hcs (j % ts.length) (by rw [← hc]; exact hr) v hv1
        rw [hadd, addr_add, ← hc] at this
        rw [← this]
        congr 2
        have := Nat.div_add_mod j ts.length
        rw [Nat.mul_comm] at this
        omega
      obtain ⟨xs, hx1, hx2⟩ := exists_list default _ hkey
      refine ⟨⟨a.block, a.off, false, len, cap, none⟩, xs, fun i => (w.cell? ⟨a.block, a.off + i, none⟩).getD undef, ?_, fun e => (by cases e), fun _ => hblk, hx1, hlc, ⟨hpos, ⟨len, Nat.le_trans hlc hcm, hx1⟩, fun i hi => ?_⟩, fun i hi => ?_⟩
      · unfold Loc.slice
        rw [ha]
        rfl
      · obtain ⟨v, _, _, h3⟩ := hx2 i (by omega)
        exact h3
      · obtain ⟨v, h1, h2, _⟩ := hx2 i (by omega)
        refine ⟨by simp [h1], ?_⟩
        simp only [h1, Option.getD_some]
        exact h2
theorem trodN {w : World} {base : Nat} {held : Bool} {E : Env} (hw0 : E.w0 = w) (hW : ∀ b, ¬ E.W b) (hV : ∀ b, b < w.heap.size → E.V b) : ∀ (d : Nat) {t : TypeId} {lts : List LT}, flatN P d t = some lts → ∀ fuel cs x, DataW.trod enc P w base (fun _ => true) held fuel t cs = some x → Lv (CellN E) lts cs
  | 0, _, _, h, _ => by cases h
  | d + 1, t, lts, h, fuel => by
    intro cs x hx
    cases fuel with
    | zero => simp [DataW.trod] at hx
    | succ fuel =>
      simp only [flatN] at h
      split at h
      · rename_i hu
        cases h
        obtain ⟨b, rfl, he⟩ := DataW.trod_bool hu hx
        exact ⟨⟨.b b, .bool (.b b), .bool b⟩, trivial⟩
      · rename_i k hu
        cases h
        obtain ⟨n, rfl, he, hw⟩ := DataW.trod_int hu hx
        exact ⟨⟨.i n, .int k (.i n), .int k n hw⟩, trivial⟩
      · rename_i e hu
        split at h
        · cases h
        · rename_i l hl
          split at h
          · rename_i hc
            cases h
            simp only [Bool.and_eq_true] at hc
            obtain ⟨r, xs, vs, rfl, h1, h2, h3, h4, h5, h6⟩ := slice_met hw0 hW hV hu (Nat.eq_of_beq_eq_true hc.1) (Nat.le_of_ble_eq_true hc.2) (fun n cs x hx => trodN hw0 hW hV d hl n cs x hx) hx
            obtain ⟨n, hn1, hn2⟩ := h5.len
            refine ⟨⟨.l xs, .vec l (.l xs) r vs h1 (fun hn => ⟨by rw [hw0]; exact h2 hn, hW _, hV _ (h2 hn)⟩) h5.pos h3 h4 (fun i hi => by rw [hw0]; exact (h6 i hi).1) (fun i hi => (h6 i hi).2), .vec l xs n h5.pos hn1 hn2 h5.cell⟩, trivial⟩
          · cases h
      · rename_i n e hu
        split at h
        · cases h
        · rename_i l hl
          split at h
          · rename_i hc
            cases h
            simp only [Bool.and_eq_true] at hc
            have hc1 := Nat.eq_of_beq_eq_true hc.1
            have hc2 := Nat.eq_of_beq_eq_true hc.2
            simp only [DataW.trod, hu] at hx
            split at hx
            · rename_i hlen
              obtain ⟨xs, hxs, he⟩ := Option.map_eq_some_iff.1 hx
              refine lv_rows hc1 (by rw [hlen, hc2, hc1]) (fun i hi => ?_)
              obtain ⟨y, hy⟩ := mapM_some hxs i (List.mem_range.2 hi)
              exact trodN hw0 hW hV d hl fuel _ y hy
            · cases hx
          · cases h
      · rename_i fs hu
        split at h
        · cases h
        · rename_i l hl
          split at h
          · rename_i hc
            cases h
            have hc1 := Nat.eq_of_beq_eq_true hc
            simp only [DataW.trod, hu] at hx
            split at hx
            · rename_i hlen
              obtain ⟨xs, hxs, he⟩ := Option.map_eq_some_iff.1 hx
              have := lv_fields (P := P) (p := CellN E) (cs := cs) hl (by rw [hlen, hc1]; omega) (fun f hf r hr => by
                obtain ⟨y, hy⟩ := mapM_some hxs f hf
                exact trodN hw0 hW hV d hr fuel _ y hy)
              simpa using this
            · cases hx
          · cases h
      · cases h
end

def RangeN : List ShV → List DV → Prop
  | [], ds => ds = []
  | .pl s :: ss, ds => RangeOk s.lts (ds.take s.lts.length) ∧ RangeN ss (ds.drop s.lts.length)
  | .row ts :: ss, ds => (∃ xs, ds.head? = some (.l xs) ∧ RowInN ts xs) ∧ RangeN ss ds.tail
def shapeN (P : Program) (t : TypeId) : Option ShV :=
  match P.underlying t with
  | some (.slice e) =>
    match flatN P 20 e with
    | some l => if Nat.beq l.length (P.cellsOf e) && Nat.blt 0 l.length then some (.row l) else none
    | none => none
  | _ => (shapeOf P t).map .pl
def shapesN (P : Program) : List TypeId → Option (List ShV)
  | [] => some []
  | t :: ts =>
    match shapeN P t, shapesN P ts with
    | some s, some r => some (s :: r)
    | _, _ => none
section
variable {H : Type} {enc : TypeId × Value → H} {P : Program}
theorem open_rowN {w : World} {base b0 : Nat} {held : Bool} {r : Reach} {E : Env} (hw0 : E.w0 = w) (hW : ∀ b, ¬ E.W b) (hV : ∀ b, b < w.heap.size → E.V b) {t e : TypeId} {v : Value} {d : DataW H} {ps : List MemPlace} {ts : List LT} (hu : P.underlying t = some (.slice e)) (hf : flatN P 20 e = some ts) (hc : ts.length = P.cellsOf e) (hpos : 0 < ts.length)
    (hval : Value.okWide P w r b0 t v) (hd : DataW.Trod enc P w base (fun _ => true) held t v d ps) : ∃ (xs : List DV) (l : Loc), RowInN ts xs ∧ v = l.slice ∧ VRel E w l false ts xs := by
  obtain ⟨fuel, hd⟩ := hd
  obtain ⟨a, len, cap, rfl⟩ := okWide_slice hu hval
  have hcell : (Value.slice a len cap).cells.toList = [Value.slice a len cap] := rfl
  rw [hcell] at hd
  obtain ⟨r, xs, vs, h0, h1, h2, h3, h4, h5, h6⟩ := slice_met hw0 hW hV hu hc hpos (fun n cs x hx => trodN hw0 hW hV 20 hf n cs x hx) hd
  exact ⟨xs, r, h5, (List.cons.inj h0).1, ⟨h1, h2, hpos, h3, h4, fun i hi => ⟨vs i, (h6 i hi).1, (h6 i hi).2⟩, fun e => (by cases e), fun e => (by cases e)⟩⟩

theorem open_allN {w : World} {base b0 : Nat} {held : Bool} {r : Reach} {E : Env} (hw0 : E.w0 = w) (hW : ∀ b, ¬ E.W b) (hV : ∀ b, b < w.heap.size → E.V b) : ∀ {ts : List TypeId} {vs : List Value} {ds : List (DataW H)} {ps : List MemPlace} {ss : List ShV}, shapesN P ts = some ss →
    (∀ (j : Nat) t v, ts[j]? = some t → vs[j]? = some v → Value.okWide P w r b0 t v) → DataW.TrodAll enc P w base (fun _ => true) held ts vs ds ps →
    ∃ (xs : List DV) (ls : List Loc), RangeN ss xs ∧ xs.length = nInV ss ∧ RowsRel E w ss xs ls ∧ (∀ (pre : List DV) (prel : List Loc), argV (dget (pre ++ xs)) (fun i => (prel ++ ls).getD i default) pre.length prel.length ss = vs)
  | [], [], [], ps, ss, hs, _, hd => by
    simp [shapesN] at hs
    subst hs
    exact ⟨[], [], rfl, rfl, trivial, fun _ _ => rfl⟩
  | t :: ts, v :: vs, d :: ds, ps, ss, hs, hval, hd => by
    simp only [shapesN] at hs
    split at hs
    · rename_i s rr hs1 hs2
      cases hs
      obtain ⟨p, q, h1, h2, rfl⟩ := hd
      obtain ⟨ys, ls, b1, b2, b3, b4⟩ := open_allN hw0 hW hV hs2 (fun j t v ht hv => hval (j + 1) t v (by simpa using ht) (by simpa using hv)) h2
      unfold shapeN at hs1
      split at hs1
      · rename_i e hu
        split at hs1
        · rename_i l hl
          split at hs1
          · rename_i hc
            cases hs1
            simp only [Bool.and_eq_true] at hc
            have hc1 := Nat.eq_of_beq_eq_true hc.1
            have hc2 : 0 < l.length := Nat.le_of_ble_eq_true hc.2
            obtain ⟨xs, lo, c1, rfl, c3⟩ := open_rowN hw0 hW hV hu hl hc1 hc2 (hval 0 t v rfl rfl) h1
            refine ⟨.l xs :: ys, lo :: ls, ⟨⟨xs, rfl, c1⟩, b1⟩, by simp [nInV, ShV.wd, b2]; omega, ⟨c3, b3⟩, fun pre prel => ?_⟩
            have := b4 (pre ++ [.l xs]) (prel ++ [lo])
            simp only [List.append_assoc, List.cons_append, List.nil_append, List.length_append, List.length_cons, List.length_nil, Nat.zero_add] at this
            simp only [argV, this]
            congr 1
            simp [List.getD_eq_getElem?_getD]
          · cases hs1
        · cases hs1
      · obtain ⟨s', hs', rfl⟩ := Option.map_eq_some_iff.1 hs1
        obtain ⟨xs, a1, _, a3, _⟩ := open_plain hs' (hval 0 t v rfl rfl) h1
        refine ⟨xs ++ ys, ls, ⟨?_, ?_⟩, by simp [nInV, ShV.wd, b2, a1.len], ?_, fun pre prel => ?_⟩
        · rw [← a1.len, List.take_left]; exact a1
        · rw [← a1.len, List.drop_left]; exact b1
        · show RowsRel E w rr ((xs ++ ys).drop s'.lts.length) ls
          rw [← a1.len, List.drop_left]; exact b3
        · have e1 := a3 pre ys []
          have e2 := b4 (pre ++ xs) prel
          rw [List.append_assoc, List.length_append] at e2
          rw [List.append_assoc] at e1
          cases s' with
          | one t' =>
            have hl1 : xs.length = 1 := a1.len
            simp only [argVals, List.cons.injEq] at e1
            simp only [argV, e1.1]
            rw [hl1] at e2
            rw [e2]
          | agg l =>
            have hl1 : xs.length = l.length := a1.len
            simp only [argVals, List.cons.injEq] at e1
            simp only [argV, e1.1]
            rw [hl1] at e2
            rw [e2]
    · cases hs
  | [], _ :: _, _, _, _, _, _, hd => by cases hd
  | [], [], _ :: _, _, _, _, _, hd => by cases hd
  | _ :: _, [], _, _, _, _, _, hd => by cases hd
  | _ :: _, _ :: _, [], _, _, _, _, hd => by cases hd
end


section
variable {C : Checked} {os : Os} {f : FuncId} {fn : Func} {s : ChangeSpec} {H : Type} {enc : TypeId × Value → H} {sg : Sig} {G : List DV → List DV} {I : World → Prop}
theorem law_contractN {gK : Nat} {ss : List ShV} (k : FnOK C.prog I gK f sg G) (hsh : shapesN C.prog fn.params.toList = some ss) (hl : LawSigV sg ss) (hnf : sg.hinI.all (optAll Blk.flat) = false) {tb : TypeId} (hrt : fn.resultTypes = #[tb])
    (htb : C.prog.underlying tb = some .bool) (hvars : s.vars = []) (hs : ∀ ds : List (DataW H), ds.length = fn.params.size → s.fn H ds = { results := [.lit (.bool true)], args := ds }) (hlo : LaidOk C.prog fn.params.toList)
    (hG : ∀ xs, RangeN ss xs → xs.length = nInV ss → (sg.need = true → (dget (G xs) 0).toB = true) ∧ (dget (G xs) (if sg.need then 1 else 0)).toB = true)
    {W : World} {base : Nat} {args : Array Value} {ds gs : List (DataW H)} {before : List MemPlace}
    (hval : ∀ (j : Nat) t v, fn.params[j]? = some t → args[j]? = some v → Value.okWide C.prog W .any base t v)
    (hW : DataW.Whole enc C.prog fn.params.toList s.vars false W args.toList ds gs before) (hI : I W) (hK : gK ≤ W.heap.size) :
    Calls C.prog f args W fun e W' => ∃ v, e = .returned v ∧ s.post enc C.prog fn false true false false W args v W' := by
  have hW0 := hW
  obtain ⟨p, q, hA, hV, rfl, hfz, _⟩ := hW
  rw [hvars] at hV
  obtain ⟨rfl, rfl⟩ := trodVars_none hV
  have hlen : ∀ {ts : List TypeId} {vs : List Value} {ds : List (DataW H)} {ps : List MemPlace}, DataW.TrodAll enc C.prog W 0 (fun _ => true) true ts vs ds ps → ds.length = ts.length := by
    intro ts
    induction ts with
    | nil => intro vs ds ps h; cases vs <;> cases ds <;> first | rfl | cases h
    | cons t ts ih =>
      intro vs ds ps h
      cases vs with
      | nil => cases h
      | cons v vs =>
        cases ds with
        | nil => cases h
        | cons d ds =>
          obtain ⟨p, q, _, h2, _⟩ := h
          simp [ih h2]
  let E1 : Env := ⟨fun _ => False, fun b => b < W.heap.size, W, 0, fun _ => default⟩
  obtain ⟨xs, ls, h1, hx, h3, h2⟩ := open_allN (E := E1) rfl (fun _ h => h) (fun _ h => h) hsh (fun j t v ht hv => hval j t v (by simpa using ht) (by simpa using hv)) hA
  have hg := hG xs h1 hx
  have hhin : sg.hinI = (blksV 0 ss).map (Option.map (Blk.inst (idsFrom 0 sg.nin))) := by unfold Sig.hinI; rw [hl.hin]
  have hown : ∀ j b, nth sg.hinI j = some b → b.own = false := fun j b hj => by
    rw [hhin, nth_map] at hj
    obtain ⟨y, hy, rfl⟩ := Option.map_eq_some_iff.1 hj
    rw [Blk.inst_own]
    exact blksV_own ss 0 j y hy
  have hnW : ∀ (ρ : Nat → Loc) b, ¬ (callEnv sg.hinI ρ W).W b := fun ρ b ⟨j, bk, hj, ho, _⟩ => by rw [hown j bk hj] at ho; cases ho
  obtain ⟨c1, c2⟩ := patV_conc (n := sg.nin) (dget xs) (fun i => ls.getD i default) ss 0 0 (by rw [hl.nin]; omega)
  have hins : sg.insI = (patV 0 0 ss).map (V.inst (idsFrom 0 sg.nin)) := by unfold Sig.insI; rw [hl.ins]
  have hmono : ∀ {ss : List ShV} {ds : List DV} {ls' : List Loc}, RowsRel E1 W ss ds ls' → RowsRel (callEnv sg.hinI (fun i => ls.getD i default) W) W ss ds ls' := by
    intro ss
    induction ss with
    | nil => intro ds ls' _; trivial
    | cons t ss ih =>
      intro ds ls' h
      cases t with
      | pl s => exact ih (ds := ds.drop s.lts.length) h
      | row ts =>
        refine ⟨?_, ih h.2⟩
        have h := h.1
        refine ⟨h.nil, h.lt, h.pos, h.len, h.cap, fun i hi => ?_, h.own, h.fz⟩
        obtain ⟨v, h1, h2⟩ := h.cell i hi
        refine ⟨v, h1, CRel.mono (E := E1) (E' := callEnv sg.hinI (fun i => ls.getD i default) W) rfl (fun b _ _ => hnW _ b) (fun b hb _ => .inr ⟨hnf, hb, fun ⟨j, bk, hj, ho, _⟩ => ?_⟩) h2⟩
        rw [hown j bk hj] at ho; cases ho
  have hk := k xs (fun i => ls.getD i default) W hI (by rw [hl.nin]; exact hx) hg.1 hK (fun b hb => absurd hb (hnW _ b)) (by rw [hins]; exact c2)
    ⟨fun j bk hj => by
      have h3' := hmono h3
      have := rows_rel xs ls (n := sg.nin) (by rw [hl.nin]; exact hx) ss 0 0 (by rw [hl.nin]; omega) (by simpa using h3') j bk (by rw [← hhin]; exact hj)
      rwa [Nat.zero_add] at this,
     fun j j' bk bk' hj ho => by rw [hown j bk hj] at ho; cases ho⟩
  have ha : (sg.insI.map (V.conc (dget xs) fun i => ls.getD i default)).toArray = args := by
    rw [hins, c1]
    apply Array.ext'
    simpa using h2 [] []
  rw [ha] at hk
  refine hk.mono fun e W' ⟨v, ρ', he, hc⟩ => ⟨.bool true, ?_, ?_⟩
  · rw [he, hc.val]
    have : sg.outI.conc (sg.res (G xs)) ρ' = .bool (dget (G xs) (if sg.need then 1 else 0)).toB := by
      unfold Sig.outI Sig.res
      rw [hl.out, hl.ots]
      show Value.bool (dget (G xs) (0 + _)).toB = _
      rw [Nat.zero_add]
    rw [this, hg.2]
  · have hb : Below W.heap.size W W' := (hc.fr.weaken (W' := fun _ => False) fun b hb => hnW _ b hb).below
    have hsf := hs ds (by have := hlen hA; simpa using this)
    have hkids := kids_rows hlo.rows hlo.maps
    have hT : ∀ t ∈ fn.params.toList, t < C.prog.types.size := fun t ht => by simpa using List.all_eq_true.1 hlo.lt t ht
    have hre := DataW.TrodAll.respare (spare' := fun b => decide (b < W.heap.size)) hkids (slices_full_of C.prog hlo.full) hT hA (fun x hx => by simpa using hA.lt x hx)
    have hcarry : ∀ {ts : List TypeId} {vs : List Value} {ds : List (DataW H)} {ps : List MemPlace}, DataW.TrodAll enc C.prog W 0 (fun b => decide (b < W.heap.size)) true ts vs ds ps → (∀ p ∈ ps, W.sameAt W' p) → DataW.TrodAll enc C.prog W' 0 (fun b => decide (b < W.heap.size)) true ts vs ds ps := by
      intro ts
      induction ts with
      | nil => intro vs ds ps h _; cases vs <;> cases ds <;> first | exact h | cases h
      | cons t ts ih =>
        intro vs ds ps h hsame
        cases vs with
        | nil => cases h
        | cons v vs =>
        cases ds with
        | nil => cases h
        | cons d ds =>
        obtain ⟨p, q, ⟨fu, h1⟩, h2, rfl⟩ := h
        exact ⟨p, q, ⟨fu, DataW.trod_carry fu _ _ _ h1 (fun x hx => hsame x (List.mem_append_left _ hx))⟩, ih h2 (fun x hx => hsame x (List.mem_append_right _ hx)), rfl⟩
    have hre2 := hcarry hre (fun x hx => hb.same (hA.lt x hx))
    refine ⟨ds, [], p ++ [], [], p, [], ⟨p, [], hA, by rw [hvars]; exact rfl, rfl, hfz, fun h => by cases h⟩, ?_, ?_, ?_, hb.frame _, fun h => by cases h⟩
    · rw [List.append_nil, hsf, hrt]
      exact trodAll_mk1 (shut_bool htb true)
    · rw [List.append_nil, hsf]
      exact hre2
    · rw [List.append_nil, hsf, hvars]
      rfl

theorem law_liftedN {gK : Nat} {ss : List ShV} (k : FnOK C.prog I gK f sg G) (hsh : shapesN C.prog fn.params.toList = some ss) (hl : LawSigV sg ss) (hnf : sg.hinI.all (optAll Blk.flat) = false) {tb : TypeId} (hrt : fn.resultTypes = #[tb])
    (htb : C.prog.underlying tb = some .bool) (hvars : s.vars = []) (hs : ∀ ds : List (DataW H), ds.length = fn.params.size → s.fn H ds = { results := [.lit (.bool true)], args := ds }) (hlo : LaidOk C.prog fn.params.toList)
    (hG : ∀ xs, RangeN ss xs → xs.length = nInV ss → (sg.need = true → (dget (G xs) 0).toB = true) ∧ (dget (G xs) (if sg.need then 1 else 0)).toB = true)
    (hI : ∀ W, I W) (hK : gK = 0)
    (own : ownKnob C.prog.godebug = none) (started : os.Started) (noInit : C.prog.inits.idxOf? f = none) (hfn : C.prog.funcs[f]? = some fn)
    (witness : ∃ (w : World) (tape : Tape) (i : Input), w.os = os ∧ (w.forCall tape i).Shaped C.prog ∧ i.vars = [] ∧ Input.okWide C.prog (w.forCall tape i) .any w.heap.size f i ∧
      s.pre6 enc C.prog fn [] false (w.forCall tape i).memory i.args ∧ ({} : Assume).holds C.prog (lone (Frame.enter C.prog f i.args .normal) [] (w.forCall tape i))) :
    ReturnsInHanded {} C os f .any (s.pre6 enc C.prog fn [] false) (s.post enc C.prog fn false true false false) :=
  returnsInHanded_of_change (C := C) own started noInit hfn witness
    fun W _ _ _ _ _ hval hW _ _ => law_contractN k hsh hl hnf hrt htb hvars hs hlo hG hval hW (hI W) (by rw [hK]; exact Nat.zero_le _)
end
end Go.Sx

