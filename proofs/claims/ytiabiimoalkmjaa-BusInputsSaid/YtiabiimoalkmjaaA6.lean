/- A law of plain arguments (integers, bools, arrays and structs of such): its row, out of its function's contract. -/
import Derived.Test.YtiabiimoalkmjaaA3
import Derived.ProofKit
import Derived.LaidMore
import Derived.Stop.Joined
import Derived.ReadAgain
namespace Go.Sx
open Go Go.ChangeShapes Go.WideShapes Go.RowKit
inductive Sh where
 | one (t : LT)
 | agg (l : List LT)
 deriving Inhabited
def Sh.lts : Sh → List LT
 | .one t => [t]
 | .agg l => l
def nIn (ss : List Sh) : Nat := (ss.map fun s => s.lts.length).sum
def LT.conc (t : LT) (d : DV) : Value :=
 match t with
 | .int k => .int k d.toI
 | .bool => .bool d.toB
 | .vec _ => .bool false
def zcX (g : Nat → DV) : Nat → List LT → List Value
 | _, [] => []
 | j, t :: ts => t.conc (g j) :: zcX g (j + 1) ts
def zc3 (g : Nat → DV) : Nat → List Sh → List Value
 | _, [] => []
 | j, .one t :: ss => t.conc (g j) :: zc3 g (j + 1) ss
 | j, .agg ts :: ss => .agg (zcX g j ts).toArray :: zc3 g (j + ts.length) ss
def LT.pat (j : Nat) : LT → Lf
 | .int k => .i k (.h j)
 | .bool => .b (.h j)
 | .vec _ => .b (.t false)
def zcE : Nat → List LT → List Lf
 | _, [] => []
 | j, t :: ts => t.pat j :: zcE (j + 1) ts
def patShapes : Nat → List Sh → List V
 | _, [] => []
 | j, .one t :: ss => .s (.one (t.pat j)) :: patShapes (j + 1) ss
 | j, .agg ts :: ss => .s (.agg (zcE j ts)) :: patShapes (j + ts.length) ss
theorem zeB : ∀ (k n j : Nat), j < k → (zak n k).getD j default = .r (n + j)
 | 0, _, _, h => by omega
 | k + 1, n, 0, _ => rfl
 | k + 1, n, j + 1, h => by
  have := zeB k (n + 1) j (by omega)
  simp only [zak, List.getD_cons_succ, this]
  congr 1
  omega
theorem zpe {n : Nat} (g : Nat → DV) (ρ : Nat → Loc) {t : LT} {j : Nat} (h : j < n) : ((t.pat j).inst (zak 0 n)).conc g ρ = t.conc (g j) ∧ ((t.pat j).inst (zak 0 n)).good g := by
 have e : (A.h j).inst (zak 0 n) = .r j := by
  have := zeB n 0 j h
  simpa [A.inst] using this
 cases t with
 | int k => exact ⟨by simp only [LT.pat, Lf.inst, e]; rfl, trivial⟩
 | bool => exact ⟨by simp only [LT.pat, Lf.inst, e]; rfl, trivial⟩
 | vec ts => exact ⟨rfl, trivial⟩
theorem zfc {n : Nat} (g : Nat → DV) (ρ : Nat → Loc) : ∀ (ts : List LT) (j : Nat), j + ts.length ≤ n → ((zcE j ts).map (Lf.inst (zak 0 n))).map (Lf.conc g ρ) = zcX g j ts ∧ ∀ x ∈ (zcE j ts).map (Lf.inst (zak 0 n)), Lf.good g x
 | [], j, _ => ⟨rfl, fun x hx => by cases hx⟩
 | t :: ts, j, h => by
  simp only [List.length_cons] at h
  obtain ⟨h1, h2⟩ := zfc (n := n) g ρ ts (j + 1) (by omega)
  obtain ⟨h3, h4⟩ := zpe g ρ (t := t) (show j < n by omega)
  refine ⟨by simp only [zcE, List.map_cons, zcX, h1, h3], fun x hx => ?_⟩
  simp only [zcE, List.map_cons] at hx
  rcases List.mem_cons.1 hx with rfl | hx
  ·exact h4
  ·exact h2 x hx
def zfd (P : Program) (rec : TypeId → Option (List LT)) : Nat → List Field → Option (List LT)
 | _, [] => some []
 | o, f :: fs =>
  if Nat.beq f.offset o then
   match rec f.type with
   | none => none
   | some l =>
    if Nat.beq l.length (P.cellsOf f.type) then
     match zfd P rec (o + l.length) fs with
     | none => none
     | some r => some (l ++ r)
    else none
  else none
def zeC (P : Program) : Nat → TypeId → Option (List LT)
 | 0, _ => none
 | d + 1, t =>
  match P.underlying t with
  | some .bool => some [.bool]
  | some (.int k) => some [.int k]
  | some (.array n e) =>
   match zeC P d e with
   | none => none
   | some l => if Nat.beq l.length (P.cellsOf e) && Nat.beq (P.cellsOf t) (n * l.length) then some (List.replicate n l).flatten else none
  | some (.struct fs) =>
   match zfd P (zeC P d) 0 fs.toList with
   | none => none
   | some l => if Nat.beq l.length (P.cellsOf t) then some l else none
  | _ => none
def zoo (P : Program) (t : TypeId) : Option Sh :=
 match P.underlying t with
 | some .bool => some (.one .bool)
 | some (.int k) => some (.one (.int k))
 | some (.array _ _) => (zeC P 20 t).map .agg
 | some (.struct _) => (zeC P 20 t).map .agg
 | _ => none
def zjy : LT → Value → Prop
 | .int k, .int k' n => k' = k ∧ (Lit.int k n).wf = true
 | .bool, .bool _ => True
 | _, _ => False
def zbU : List LT → List Value → Prop
 | [], [] => True
 | t :: ts, v :: vs => zjy t v ∧ zbU ts vs
 | _, _ => False
theorem zbU.len : ∀ {ts : List LT} {vs : List Value}, zbU ts vs → vs.length = ts.length
 | [], [], _ => rfl
 | _ :: _, _ :: _, h => by simp [zbU.len h.2]
 | [], _ :: _, h => h.elim
 | _ :: _, [], h => h.elim
theorem zbU.append : ∀ {a b : List LT} {c d : List Value}, zbU a c → zbU b d → zbU (a ++ b) (c ++ d)
 | [], _, [], _, _, h => h
 | _ :: _, _, _ :: _, _, h, h' => ⟨h.1, zbU.append h.2 h'⟩
 | [], _, _ :: _, _, h, _ => h.elim
 | _ :: _, _, [], _, h, _ => h.elim
theorem zg4 {α β γ : Type} {f g : α → Option (β × List γ)} : ∀ {l : List α} {xs : List (β × List γ)}, l.mapM f = some xs →
  (∀ a ∈ l, ∀ y, f a = some y → g a = some y ∧ y.2 = []) → l.mapM g = some xs ∧ xs.flatMap (·.2) = [] ∧ ∀ a ∈ l, ∃ y, f a = some y
 | [], xs, h, _ => by
  simp at h
  subst h
  exact ⟨by simp, rfl, fun a ha => by cases ha⟩
 | a :: l, xs, h, hc => by
  simp only [List.mapM_cons, Option.bind_eq_bind, Option.bind_eq_some_iff, Option.pure_def, Option.some.injEq] at h
  obtain ⟨y, hy, ys, hys, rfl⟩ := h
  obtain ⟨h1, h2⟩ := hc a (by simp) y hy
  obtain ⟨h3, h4, h5⟩ := zg4 hys (fun b hb => hc b (List.mem_cons_of_mem _ hb))
  refine ⟨by simp [List.mapM_cons, h1, h3], by simp only [List.flatMap_cons, h2, h4, List.nil_append], fun b hb => ?_⟩
  rcases List.mem_cons.1 hb with rfl | hb
  ·exact ⟨y, hy⟩
  ·exact h5 b hb
theorem zjz {l : List LT} {c : Nat} (hl : l.length = c) : ∀ {n : Nat} {cs : List Value}, cs.length = n * c → (∀ i, i < n → zbU l ((cs.drop (i * c)).take c)) → zbU (List.replicate n l).flatten cs
 | 0, cs, h, _ => by
  have : cs = [] := List.eq_nil_of_length_eq_zero (by simpa using h)
  subst this
  trivial
 | n + 1, cs, h, hp => by
  have h0 := hp 0 (by omega)
  simp only [Nat.zero_mul, List.drop_zero] at h0
  have h1 := zjz hl (n := n) (cs := cs.drop c) (by rw [List.length_drop, h, Nat.succ_mul]; omega) (fun i hi => by
   have := hp (i + 1) (by omega)
   rw [List.drop_drop]
   rwa [show c + i * c = (i + 1) * c from by rw [Nat.succ_mul]; omega])
  have := zbU.append h0 h1
  rw [List.take_append_drop] at this
  simpa [List.replicate_succ] using this
section
variable {H : Type} {enc : TypeId × Value → H} {P : Program}
def zuQ (enc : TypeId × Value → H) (P : Program) (fuel : Nat) (t : TypeId) (lts : List LT) : Prop :=
 ∀ (w : World) (base : Nat) (sp : Nat → Bool) (held : Bool) (cs : List Value) (x : DataW H) (ps : List MemPlace), DataW.trod enc P w base sp held fuel t cs = some (x, ps) →
  zbU lts cs ∧ ps = [] ∧ ∀ (w' : World) (base' : Nat) (sp' : Nat → Bool) (held' : Bool), DataW.trod enc P w' base' sp' held' fuel t cs = some (x, [])
theorem zgy {rec : TypeId → Option (List LT)} {cs : List Value} : ∀ {fs : List Field} {o : Nat} {l : List LT}, zfd P rec o fs = some l → cs.length = o + l.length →
  (∀ f ∈ fs, ∀ r, rec f.type = some r → zbU r ((cs.drop f.offset).take (P.cellsOf f.type))) → zbU l (cs.drop o)
 | [], o, l, h, hlen, _ => by
  simp [zfd] at h
  subst h
  rw [List.drop_of_length_le (by simpa using Nat.le_of_eq hlen)]
  trivial
 | f :: fs, o, l, h, hlen, hp => by
  simp only [zfd] at h
  split at h
  ·rename_i ho
   have ho := Nat.eq_of_beq_eq_true ho
   split at h
   ·cases h
   ·rename_i r hr
    split at h
    ·rename_i hc
     have hc := Nat.eq_of_beq_eq_true hc
     split at h
     ·cases h
     ·rename_i r' hr'
      cases h
      have h0 := hp f (by simp) r hr
      have h1 := zgy hr' (by simp at hlen; omega) (fun g hg => hp g (List.mem_cons_of_mem _ hg))
      rw [ho, ← hc] at h0
      have h2 := zbU.append h0 h1
      rw [← List.drop_drop, List.take_append_drop] at h2
      exact h2
    ·cases h
  ·cases h
theorem zci : ∀ (d : Nat) {t : TypeId} {lts : List LT}, zeC P d t = some lts → ∀ fuel, zuQ enc P fuel t lts
 | 0, _, _, h, _ => by cases h
 | d + 1, t, lts, h, fuel => by
  intro w base sp held cs x ps hx
  cases fuel with
  | zero => simp [DataW.trod] at hx
  | succ fuel =>
   simp only [zeC] at h
   split at h
   ·rename_i hu
    cases h
    obtain ⟨b, rfl, he⟩ := DataW.trod_bool hu hx
    cases he
    exact ⟨⟨trivial, trivial⟩, rfl, fun _ _ _ _ => by simp [DataW.trod, hu]⟩
   ·rename_i k hu
    cases h
    obtain ⟨n, rfl, he, hw⟩ := DataW.trod_int hu hx
    cases he
    exact ⟨⟨⟨rfl, hw⟩, trivial⟩, rfl, fun _ _ _ _ => by simp [DataW.trod, hu, hw]⟩
   ·rename_i n e hu
    split at h
    ·cases h
    ·rename_i l hl
     split at h
     ·rename_i hc
      cases h
      simp only [Bool.and_eq_true] at hc
      have hc1 := Nat.eq_of_beq_eq_true hc.1
      have hc2 := Nat.eq_of_beq_eq_true hc.2
      simp only [DataW.trod, hu] at hx
      split at hx
      ·rename_i hlen
       obtain ⟨xs, hxs, he⟩ := Option.map_eq_some_iff.1 hx
       cases he
       have ih := zci d hl fuel
       have hall := fun w' base' sp' held' => zg4 (g := fun i => DataW.trod enc P w' base' sp' held' fuel e ((cs.drop (i * P.cellsOf e)).take (P.cellsOf e))) hxs
        (fun i _ y hy => by
         have := ih _ _ _ _ _ y.1 y.2 hy
         exact ⟨by rw [this.2.2 w' base' sp' held', ← this.2.1], this.2.1⟩)
       refine ⟨zjz hc1 (by rw [hlen, hc2, hc1]) (fun i hi => ?_), (hall w base sp held).2.1, fun w' base' sp' held' => ?_⟩
       ·obtain ⟨y, hy⟩ := (hall w base sp held).2.2 i (List.mem_range.2 hi)
        exact (ih _ _ _ _ _ y.1 y.2 hy).1
       ·obtain ⟨h1, h2, _⟩ := hall w' base' sp' held'
        simp only [DataW.trod, hu]
        rw [if_pos hlen, h1, Option.map_some, h2]
      ·cases hx
     ·cases h
   ·rename_i fs hu
    split at h
    ·cases h
    ·rename_i l hl
     split at h
     ·rename_i hc
      cases h
      have hc1 := Nat.eq_of_beq_eq_true hc
      simp only [DataW.trod, hu] at hx
      split at hx
      ·rename_i hlen
       obtain ⟨xs, hxs, he⟩ := Option.map_eq_some_iff.1 hx
       cases he
       -- each field's type has leaves
       have hfl : ∀ {gs : List Field} {o : Nat} {r : List LT}, zfd P (zeC P d) o gs = some r → ∀ f ∈ gs, ∃ r', zeC P d f.type = some r' := by
        intro gs
        induction gs with
        | nil => intro o r _ f hf; cases hf
        | cons g gs ih =>
         intro o r hr f hf
         simp only [zfd] at hr
         split at hr
         ·split at hr
          ·cases hr
          ·rename_i r1 hr1
           split at hr
           ·split at hr
            ·cases hr
            ·rename_i r2 hr2
             rcases List.mem_cons.1 hf with rfl | hf
             ·exact ⟨r1, hr1⟩
             ·exact ih hr2 f hf
           ·cases hr
         ·cases hr
       have hall := fun w' base' sp' held' => zg4 (g := fun f : Field => DataW.trod enc P w' base' sp' held' fuel f.type ((cs.drop f.offset).take (P.cellsOf f.type))) hxs
        (fun f hf y hy => by
         obtain ⟨r', hr'⟩ := hfl hl f hf
         have := zci d hr' fuel _ _ _ _ _ y.1 y.2 hy
         exact ⟨by rw [this.2.2 w' base' sp' held', ← this.2.1], this.2.1⟩)
       refine ⟨?_, (hall w base sp held).2.1, fun w' base' sp' held' => ?_⟩
       ·have := zgy (P := P) (cs := cs) hl (by rw [hlen, hc1]; omega) (fun f hf r hr => by
         obtain ⟨y, hy⟩ := (hall w base sp held).2.2 f hf
         exact (zci d hr fuel _ _ _ _ _ y.1 y.2 hy).1)
        simpa using this
       ·obtain ⟨h1, h2, _⟩ := hall w' base' sp' held'
        simp only [DataW.trod, hu]
        rw [if_pos hlen, h1, Option.map_some, h2]
      ·cases hx
     ·cases h
   ·cases h
def RangeOk : List LT → List DV → Prop
 | [], [] => True
 | .int k :: ts, .i n :: ds => (Lit.int k n).wf = true ∧ RangeOk ts ds
 | .bool :: ts, .b _ :: ds => True ∧ RangeOk ts ds
 | _, _ => False
theorem RangeOk.len : ∀ {ts : List LT} {ds : List DV}, RangeOk ts ds → ds.length = ts.length
 | [], [], _ => rfl
 | .int _ :: _, .i _ :: _, h => by simp [RangeOk.len h.2]
 | .bool :: _, .b _ :: _, h => by simp [RangeOk.len h.2]
 | [], _ :: _, h => h.elim
 | .int _ :: _, [], h => h.elim
 | .bool :: _, [], h => h.elim
 | .int _ :: _, .b _ :: _, h => h.elim
 | .bool :: _, .i _ :: _, h => h.elim
 | .int _ :: _, .l _ :: _, h => h.elim
 | .bool :: _, .l _ :: _, h => h.elim
 | .vec _ :: _, [], h => h.elim
 | .vec _ :: _, _ :: _, h => h.elim
theorem RangeOk.append : ∀ {a b : List LT} {c d : List DV}, RangeOk a c → RangeOk b d → RangeOk (a ++ b) (c ++ d)
 | [], _, [], _, _, h => h
 | .int _ :: _, _, .i _ :: _, _, h, h' => ⟨h.1, RangeOk.append h.2 h'⟩
 | .bool :: _, _, .b _ :: _, _, h, h' => ⟨trivial, RangeOk.append h.2 h'⟩
 | [], _, _ :: _, _, h, _ => h.elim
 | .int _ :: _, _, [], _, h, _ => h.elim
 | .bool :: _, _, [], _, h, _ => h.elim
 | .int _ :: _, _, .b _ :: _, _, h, _ => h.elim
 | .bool :: _, _, .i _ :: _, _, h, _ => h.elim
 | .int _ :: _, _, .l _ :: _, _, h, _ => h.elim
 | .bool :: _, _, .l _ :: _, _, h, _ => h.elim
 | .vec _ :: _, _, [], _, h, _ => h.elim
 | .vec _ :: _, _, _ :: _, _, h, _ => h.elim
theorem zhU (pre : List DV) (d : DV) (post : List DV) : dget (pre ++ d :: post) pre.length = d := by
 simp [dget, List.getD_eq_getElem?_getD]
theorem zdJ : ∀ {ts : List LT} {vs : List Value}, zbU ts vs → ∃ ds, RangeOk ts ds ∧ ∀ pre post : List DV, zcX (dget (pre ++ ds ++ post)) pre.length ts = vs
 | [], [], _ => ⟨[], trivial, fun _ _ => rfl⟩
 | .int k :: ts, .int k' n :: vs, h => by
  obtain ⟨ds, h1, h2⟩ := zdJ h.2
  obtain ⟨⟨rfl, hw⟩, _⟩ := h
  refine ⟨.i n :: ds, ⟨hw, h1⟩, fun pre post => ?_⟩
  have := h2 (pre ++ [.i n]) post
  simp only [zcX, List.append_assoc, List.cons_append, List.nil_append, List.length_append, List.length_cons, List.length_nil, Nat.zero_add] at this ⊢
  rw [this, zhU]
  rfl
 | .bool :: ts, .bool b :: vs, h => by
  obtain ⟨ds, h1, h2⟩ := zdJ h.2
  refine ⟨.b b :: ds, ⟨trivial, h1⟩, fun pre post => ?_⟩
  have := h2 (pre ++ [.b b]) post
  simp only [zcX, List.append_assoc, List.cons_append, List.nil_append, List.length_append, List.length_cons, List.length_nil, Nat.zero_add] at this ⊢
  rw [this, zhU]
  rfl
 | [], _ :: _, h => h.elim
 | _ :: _, [], h => h.elim
 | .int _ :: _, .bool _ :: _, h => h.1.elim
 | .bool :: _, .int _ _ :: _, h => h.1.elim
 | .vec _ :: _, _ :: _, h => h.1.elim
theorem zp2 {w : World} {base b0 : Nat} {sp : Nat → Bool} {held : Bool} {r : Reach} {t : TypeId} {v : Value} {d : DataW H} {ps : List MemPlace} {s : Sh} (hs : zoo P t = some s)
  (hval : Value.okWide P w r b0 t v) (hd : DataW.Trod enc P w base sp held t v d ps) :
  ∃ ds : List DV, RangeOk s.lts ds ∧ ps = [] ∧ (∀ (pre post : List DV) (ss : List Sh), zc3 (dget (pre ++ ds ++ post)) pre.length (s :: ss) = v :: zc3 (dget (pre ++ ds ++ post)) (pre.length + ds.length) ss) ∧
   ∀ (w' : World) (base' : Nat) (sp' : Nat → Bool) (held' : Bool), DataW.Trod enc P w' base' sp' held' t v d [] := by
 obtain ⟨fuel, hf⟩ := hd
 unfold zoo at hs
 split at hs
 ·rename_i hu
  cases hs
  obtain ⟨b, rfl⟩ := okWide_bool hu hval
  have hfl : zeC P 1 t = some [.bool] := by simp [zeC, hu]
  obtain ⟨_, h2, h3⟩ := zci (enc := enc) 1 hfl fuel _ _ _ _ _ _ _ hf
  refine ⟨[.b b], ⟨trivial, trivial⟩, h2, fun pre post ss => ?_, fun w' base' sp' held' => ⟨fuel, h3 w' base' sp' held'⟩⟩
  simp only [zc3, List.append_assoc, List.cons_append, List.nil_append, zhU, List.length_cons, List.length_nil]
  rfl
 ·rename_i k hu
  cases hs
  obtain ⟨n, rfl⟩ := okWide_int hu hval
  have hfl : zeC P 1 t = some [.int k] := by simp [zeC, hu]
  obtain ⟨h1, h2, h3⟩ := zci (enc := enc) 1 hfl fuel _ _ _ _ _ _ _ hf
  refine ⟨[.i n], ⟨h1.1.2, trivial⟩, h2, fun pre post ss => ?_, fun w' base' sp' held' => ⟨fuel, h3 w' base' sp' held'⟩⟩
  simp only [zc3, List.append_assoc, List.cons_append, List.nil_append, zhU, List.length_cons, List.length_nil]
  rfl
 ·rename_i n e hu
  obtain ⟨l, hl, rfl⟩ := Option.map_eq_some_iff.1 hs
  simp only [Value.okWide, hu] at hval
  obtain ⟨cs, rfl, _, _⟩ := hval
  obtain ⟨h1, h2, h3⟩ := zci (enc := enc) 20 hl fuel _ _ _ _ _ _ _ hf
  obtain ⟨ds, h4, h5⟩ := zdJ h1
  refine ⟨ds, h4, h2, fun pre post ss => ?_, fun w' base' sp' held' => ⟨fuel, h3 w' base' sp' held'⟩⟩
  simp only [zc3, h5 pre post, ← h4.len]
  rfl
 ·rename_i fs hu
  obtain ⟨l, hl, rfl⟩ := Option.map_eq_some_iff.1 hs
  simp only [Value.okWide, hu] at hval
  obtain ⟨cs, rfl, _, _⟩ := hval
  obtain ⟨h1, h2, h3⟩ := zci (enc := enc) 20 hl fuel _ _ _ _ _ _ _ hf
  obtain ⟨ds, h4, h5⟩ := zdJ h1
  refine ⟨ds, h4, h2, fun pre post ss => ?_, fun w' base' sp' held' => ⟨fuel, h3 w' base' sp' held'⟩⟩
  simp only [zc3, h5 pre post, ← h4.len]
  rfl
 ·cases hs
end
theorem zpf {α β : Type} {f : α → Option β} : ∀ {l : List α} {xs : List β}, l.mapM f = some xs → ∀ (i : Nat) (a : α), l[i]? = some a → ∃ y, xs[i]? = some y ∧ f a = some y
 | [], xs, _, i, a, ha => by simp at ha
 | b :: l, xs, h, i, a, ha => by
  simp only [List.mapM_cons, Option.bind_eq_bind, Option.bind_eq_some_iff, Option.pure_def, Option.some.injEq] at h
  obtain ⟨y, hy, ys, hys, rfl⟩ := h
  cases i with
  | zero => simp at ha; subst ha; exact ⟨y, rfl, hy⟩
  | succ i => obtain ⟨z, h1, h2⟩ := zpf hys i a (by simpa using ha); exact ⟨z, by simpa using h1, h2⟩
section
variable {C : Checked} {os : Os} {f : FuncId} {fn : Func} {s : ChangeSpec} {H : Type} {enc : TypeId × Value → H} {sg : Sig} {G : List DV → List DV} {I : World → Prop}
structure LawSig (sg : Sig) (ss : List Sh) : Prop where
 ins : sg.ins = patShapes 0 ss
 hin : sg.hin = []
 nin : sg.nin = nIn ss
 out : sg.out = .s (.one (.b (.h 0)))
 hout : sg.hout = []
 ots : sg.ots = [.b]
end
end Go.Sx
namespace Go.Sx
open Go Go.ChangeShapes Go.WideShapes Go.RowKit
inductive ShV where
 | pl (s : Sh)
 | row (ts : List LT)
 deriving Inhabited
def ShV.wd : ShV → Nat
 | .pl s => s.lts.length
 | .row _ => 1
def nInV : List ShV → Nat
 | [] => 0
 | s :: ss => s.wd + nInV ss
def patV : Nat → Nat → List ShV → List V
 | _, _, [] => []
 | j, b, .pl (.one t) :: ss => .s (.one (t.pat j)) :: patV (j + 1) b ss
 | j, b, .pl (.agg ts) :: ss => .s (.agg (zcE j ts)) :: patV (j + ts.length) b ss
 | j, b, .row _ :: ss => .s (.one (.vec b)) :: patV (j + 1) (b + 1) ss
def blksV : Nat → List ShV → List (Option Blk)
 | _, [] => []
 | j, .pl s :: ss => blksV (j + s.lts.length) ss
 | j, .row ts :: ss => some (.v false ts (.h j)) :: blksV (j + 1) ss
def argV (g : Nat → DV) (ρ : Nat → Loc) : Nat → Nat → List ShV → List Value
 | _, _, [] => []
 | j, b, .pl (.one t) :: ss => t.conc (g j) :: argV g ρ (j + 1) b ss
 | j, b, .pl (.agg ts) :: ss => .agg (zcX g j ts).toArray :: argV g ρ (j + ts.length) b ss
 | j, b, .row _ :: ss => (ρ b).slice :: argV g ρ (j + 1) (b + 1) ss
theorem zgz {n : Nat} (g : Nat → DV) (ρ : Nat → Loc) : ∀ (ss : List ShV) (j b : Nat), j + nInV ss ≤ n → ((patV j b ss).map (V.inst (zak 0 n))).map (V.conc g ρ) = argV g ρ j b ss ∧ ∀ x ∈ (patV j b ss).map (V.inst (zak 0 n)), V.good g x
 | [], j, b, _ => ⟨rfl, fun x hx => by cases hx⟩
 | .pl (.one t) :: ss, j, b, h => by
  have h : j + (1 + nInV ss) ≤ n := h
  obtain ⟨h1, h2⟩ := zgz (n := n) g ρ ss (j + 1) b (by omega)
  obtain ⟨h3, h4⟩ := zpe g ρ (t := t) (show j < n by omega)
  refine ⟨by simp only [patV, List.map_cons, argV, h1, V.inst, V1.inst, V.conc, V1.conc, h3], fun x hx => ?_⟩
  simp only [patV, List.map_cons] at hx
  rcases List.mem_cons.1 hx with rfl | hx
  ·exact V1.good_one.2 h4
  ·exact h2 x hx
 | .pl (.agg ts) :: ss, j, b, h => by
  have h : j + (ts.length + nInV ss) ≤ n := h
  obtain ⟨h1, h2⟩ := zgz (n := n) g ρ ss (j + ts.length) b (by omega)
  obtain ⟨h3, h4⟩ := zfc (n := n) g ρ ts j (show j + ts.length ≤ n by omega)
  refine ⟨by simp only [patV, List.map_cons, argV, h1, V.inst, V1.inst, V.conc, V1.conc, h3], fun x hx => ?_⟩
  simp only [patV, List.map_cons] at hx
  rcases List.mem_cons.1 hx with rfl | hx
  ·exact V1.good_agg.2 h4
  ·exact h2 x hx
 | .row ts :: ss, j, b, h => by
  have h : j + (1 + nInV ss) ≤ n := h
  obtain ⟨h1, h2⟩ := zgz (n := n) g ρ ss (j + 1) (b + 1) (by omega)
  refine ⟨by simp only [patV, List.map_cons, argV, h1, V.inst, V1.inst, V.conc, V1.conc, Lf.inst, Lf.conc], fun x hx => ?_⟩
  simp only [patV, List.map_cons] at hx
  rcases List.mem_cons.1 hx with rfl | hx
  ·exact V1.good_one.2 trivial
  ·exact h2 x hx
def zr2 : Value → DV
 | .int _ n => .i n
 | .bool b => .b b
 | _ => .i 0
structure RowIn (ts : List LT) (xs : List DV) : Prop where
 pos : 0 < ts.length
 len : ∃ n, n ≤ maxLen ∧ xs.length = n * ts.length
 cell : ∀ i, i < xs.length → RangeOk [ts.getD (i % ts.length) .bool] [xs.getD i default]
def zkx : List ShV → List DV → Prop
 | [], ds => ds = []
 | .pl s :: ss, ds => RangeOk s.lts (ds.take s.lts.length) ∧ zkx ss (ds.drop s.lts.length)
 | .row ts :: ss, ds => (∃ xs, ds.head? = some (.l xs) ∧ RowIn ts xs) ∧ zkx ss ds.tail
def zdK (E : Env) (W : World) : List ShV → List DV → List Loc → Prop
 | [], _, _ => True
 | .pl s :: ss, ds, ls => zdK E W ss (ds.drop s.lts.length) ls
 | .row ts :: ss, ds, ls => VRel E W (ls.headD default) false ts (ds.headD default).toL ∧ zdK E W ss ds.tail ls.tail
def zr3 (P : Program) (t : TypeId) : Option ShV :=
 match P.underlying t with
 | some (.slice e) =>
  match zeC P 20 e with
  | some l => if Nat.beq l.length (P.cellsOf e) && Nat.blt 0 l.length then some (.row l) else none
  | none => none
 | _ => (zoo P t).map .pl
def zc4 (P : Program) : List TypeId → Option (List ShV)
 | [] => some []
 | t :: ts =>
  match zr3 P t, zc4 P ts with
  | some s, some r => some (s :: r)
  | _, _ => none
theorem zmW : ∀ {ts : List LT} {vs : List Value}, zbU ts vs → ∀ i, i < ts.length → ∃ v, vs[i]? = some v ∧ zjy (ts.getD i .bool) v
 | t :: ts, v :: vs, h, 0, _ => ⟨v, rfl, h.1⟩
 | t :: ts, v :: vs, h, i + 1, hi => by
  obtain ⟨u, h1, h2⟩ := zmW h.2 i (by simpa using hi)
  exact ⟨u, by simpa using h1, by simpa using h2⟩
 | [], _, _, i, hi => by simp at hi
 | _ :: _, [], h, _, _ => h.elim
theorem zjA {E : Env} {t : LT} {v : Value} (h : zjy t v) : CRel E t (zr2 v) v ∧ RangeOk [t] [zr2 v] := by
 cases t with
 | int k =>
  cases v <;> simp only [zjy] at h
  obtain ⟨rfl, hw⟩ := h
  exact ⟨.int _ (.i _), ⟨hw, trivial⟩⟩
 | bool =>
  cases v <;> simp only [zjy] at h
  exact ⟨.bool (.b _), trivial, trivial⟩
 | vec ts => cases v <;> simp only [zjy] at h
theorem zsJ {w : World} {base : Nat} {a : Addr} {n : Nat} {cs : List Value} (h : w.cells? base a n = some cs) : ∀ i, i < n → ∀ v, cs[i]? = some v → w.cell? (a.add i) = some v := by
 unfold World.cells? at h
 split at h
 ·intro i hi v hv
  obtain ⟨y, h1, h2⟩ := zpf h i i (List.getElem?_range hi)
  rw [h1] at hv
  cases hv
  exact h2
 ·cases h
section
variable {H : Type} {enc : TypeId × Value → H} {P : Program}
theorem zr4 {w : World} {base b0 : Nat} {sp : Nat → Bool} {held : Bool} {r : Reach} {t e : TypeId} {v : Value} {d : DataW H} {ps : List MemPlace} {ts : List LT} (hu : P.underlying t = some (.slice e)) (hf : zeC P 20 e = some ts) (hc : ts.length = P.cellsOf e) (hpos : 0 < ts.length)
  (hval : Value.okWide P w r b0 t v) (hd : DataW.Trod enc P w base sp held t v d ps) (E : Env) : ∃ (xs : List DV) (l : Loc), RowIn ts xs ∧ v = l.slice ∧ VRel E w l false ts xs := by
 obtain ⟨fuel, hd⟩ := hd
 obtain ⟨a, len, cap, rfl⟩ := okWide_slice hu hval
 have hcell : (Value.slice a len cap).cells.toList = [Value.slice a len cap] := rfl
 rw [hcell] at hd
 rcases DataW.trod_slice hu hd with ⟨h1, _⟩ | ⟨a, len', cap', elems, rest, n, _, h1, _, _, hlc, hcm, hel, helem, _, _⟩
 ·simp only [List.cons.injEq, Value.slice.injEq, and_true] at h1
  obtain ⟨rfl, rfl, rfl⟩ := h1
  refine ⟨[], ⟨0, 0, true, 0, 0, none⟩, ⟨hpos, ⟨0, Nat.zero_le _, by simp⟩, fun i hi => by simp at hi⟩, rfl, ?_⟩
  exact ⟨fun _ => ⟨rfl, rfl⟩, fun e => (by cases e), hpos, by simp, Nat.le_refl _, fun i hi => by simp at hi, fun e => (by cases e), fun e => (by cases e)⟩
 ·simp only [List.cons.injEq, Value.slice.injEq, and_true] at h1
  obtain ⟨rfl, rfl, rfl⟩ := h1
  have hspot : a.spot = none ∧ w.shape? a.block ≠ none := by
   simp only [Value.okWide, hu, Cell.okWide, Cell.ok] at hval
   obtain ⟨_, _, _, h2, _, _, h3, _⟩ := hval
   exact ⟨h2, by rw [h3]; simp⟩
  have ha : a = ⟨a.block, a.off, none⟩ := by cases a; simp_all
  have hadd : ∀ i, a.add i = ⟨a.block, a.off + i, none⟩ := fun i => by rw [ha]; exact zbw _ _ _
  have hkey : ∀ j, j < len * ts.length → ∃ v, w.cell? ⟨a.block, a.off + j, none⟩ = some v ∧ zjy (ts.getD (j % ts.length) .bool) v := fun j hj => by
   have hq : j / ts.length < len := (Nat.div_lt_iff_lt_mul hpos).2 hj
   have hr : j % ts.length < ts.length := Nat.mod_lt _ hpos
   have he := helem (j / ts.length) hq
   rw [List.getElem?_eq_getElem (by rw [hel]; exact hq)] at he
   obtain ⟨cs, hcs, htr⟩ := Option.bind_eq_some_iff.1 he
   have hlv := (zci (enc := enc) 20 hf n w base sp held cs _ _ htr).1
   obtain ⟨v, hv1, hv2⟩ := zmW hlv (j % ts.length) hr
   refine ⟨v, ?_, hv2⟩
   have := zsJ hcs (j % ts.length) (by rw [← hc]; exact hr) v hv1
   rw [hadd, zbw, ← hc] at this
   rw [← this]
   congr 2
   have := Nat.div_add_mod j ts.length
   rw [Nat.mul_comm] at this
   omega
  have hget : ∀ (i : Nat) (v : Value), i < len * ts.length → w.cell? ⟨a.block, a.off + i, none⟩ = some v → ((List.range (len * ts.length)).map fun i => zr2 ((w.cell? ⟨a.block, a.off + i, none⟩).getD undef)).getD i default = zr2 v := fun i v hi hv => by
   rw [List.getD_eq_getElem?_getD, List.getElem?_map, List.getElem?_range hi]
   simp [hv]
  refine ⟨(List.range (len * ts.length)).map fun i => zr2 ((w.cell? ⟨a.block, a.off + i, none⟩).getD undef), ⟨a.block, a.off, false, len, cap, none⟩, ⟨hpos, ⟨len, Nat.le_trans hlc hcm, by simp⟩, fun i hi => ?_⟩, ?_, ?_⟩
  ·simp only [List.length_map, List.length_range] at hi
   obtain ⟨v, h1, h2⟩ := hkey i hi
   rw [hget i v hi h1]
   exact (zjA (E := E) h2).2
  ·unfold Loc.slice
   rw [ha]
   rfl
  ·refine ⟨fun e => (by cases e), fun _ => ?_, hpos, by simp, hlc, fun i hi => ?_, fun e => (by cases e), fun e => (by cases e)⟩
   ·rcases Nat.lt_or_ge a.block w.heap.size with h | h
    ·exact h
    ·exfalso
     apply hspot.2
     unfold World.shape?
     rw [Array.getElem?_eq_none h]
   ·simp only [List.length_map, List.length_range] at hi
    obtain ⟨v, h1, h2⟩ := hkey i hi
    refine ⟨v, h1, ?_⟩
    rw [hget i v hi h1]
    exact (zjA h2).1
theorem zmX {w : World} {base b0 : Nat} {sp : Nat → Bool} {held : Bool} {r : Reach} (E : Env) : ∀ {ts : List TypeId} {vs : List Value} {ds : List (DataW H)} {ps : List MemPlace} {ss : List ShV}, zc4 P ts = some ss →
  (∀ (j : Nat) t v, ts[j]? = some t → vs[j]? = some v → Value.okWide P w r b0 t v) → DataW.TrodAll enc P w base sp held ts vs ds ps →
  ∃ (xs : List DV) (ls : List Loc), zkx ss xs ∧ xs.length = nInV ss ∧ zdK E w ss xs ls ∧ (∀ (pre : List DV) (prel : List Loc), argV (dget (pre ++ xs)) (fun i => (prel ++ ls).getD i default) pre.length prel.length ss = vs)
 | [], [], [], ps, ss, hs, _, hd => by
  simp [zc4] at hs
  subst hs
  exact ⟨[], [], rfl, rfl, trivial, fun _ _ => rfl⟩
 | t :: ts, v :: vs, d :: ds, ps, ss, hs, hval, hd => by
  simp only [zc4] at hs
  split at hs
  ·rename_i s rr hs1 hs2
   cases hs
   obtain ⟨p, q, h1, h2, rfl⟩ := hd
   obtain ⟨ys, ls, b1, b2, b3, b4⟩ := zmX E hs2 (fun j t v ht hv => hval (j + 1) t v (by simpa using ht) (by simpa using hv)) h2
   unfold zr3 at hs1
   split at hs1
   ·rename_i e hu
    split at hs1
    ·rename_i l hl
     split at hs1
     ·rename_i hc
      cases hs1
      simp only [Bool.and_eq_true] at hc
      have hc1 := Nat.eq_of_beq_eq_true hc.1
      have hc2 : 0 < l.length := Nat.le_of_ble_eq_true hc.2
      obtain ⟨xs, lo, c1, rfl, c3⟩ := zr4 hu hl hc1 hc2 (hval 0 t v rfl rfl) h1 E
      refine ⟨.l xs :: ys, lo :: ls, ⟨⟨xs, rfl, c1⟩, b1⟩, by simp [nInV, ShV.wd, b2]; omega, ⟨c3, b3⟩, fun pre prel => ?_⟩
      have := b4 (pre ++ [.l xs]) (prel ++ [lo])
      simp only [List.append_assoc, List.cons_append, List.nil_append, List.length_append, List.length_cons, List.length_nil, Nat.zero_add] at this
      simp only [argV, this]
      congr 1
      simp [List.getD_eq_getElem?_getD]
     ·cases hs1
    ·cases hs1
   ·obtain ⟨s', hs', rfl⟩ := Option.map_eq_some_iff.1 hs1
    obtain ⟨xs, a1, _, a3, _⟩ := zp2 hs' (hval 0 t v rfl rfl) h1
    refine ⟨xs ++ ys, ls, ⟨?_, ?_⟩, by simp [nInV, ShV.wd, b2, a1.len], ?_, fun pre prel => ?_⟩
    ·rw [← a1.len, List.take_left]; exact a1
    ·rw [← a1.len, List.drop_left]; exact b1
    ·show zdK E w rr ((xs ++ ys).drop s'.lts.length) ls
     rw [← a1.len, List.drop_left]; exact b3
    ·have e1 := a3 pre ys []
     have e2 := b4 (pre ++ xs) prel
     rw [List.append_assoc, List.length_append] at e2
     rw [List.append_assoc] at e1
     cases s' with
     | one t' =>
      have hl1 : xs.length = 1 := a1.len
      simp only [zc3, List.cons.injEq] at e1
      simp only [argV, e1.1]
      rw [hl1] at e2
      rw [e2]
     | agg l =>
      have hl1 : xs.length = l.length := a1.len
      simp only [zc3, List.cons.injEq] at e1
      simp only [argV, e1.1]
      rw [hl1] at e2
      rw [e2]
  ·cases hs
 | [], _ :: _, _, _, _, _, _, hd => by cases hd
 | [], [], _ :: _, _, _, _, _, hd => by cases hd
 | _ :: _, [], _, _, _, _, _, hd => by cases hd
 | _ :: _, _ :: _, [], _, _, _, _, hd => by cases hd
end
theorem zjB : ∀ (ss : List ShV) (j i : Nat) (b : Blk), nth (blksV j ss) i = some b → b.own = false
 | [], _, i, b, h => by cases i <;> cases h
 | .pl s :: ss, j, i, b, h => zjB ss _ i b h
 | .row ts :: ss, j, 0, b, h => by cases h; rfl
 | .row ts :: ss, j, i + 1, b, h => zjB ss _ i b h
theorem zlL {E : Env} {W : World} {n : Nat} (xs : List DV) (ls0 : List Loc) (hn : xs.length = n) : ∀ (ss : List ShV) (j b : Nat), j + nInV ss ≤ n → zdK E W ss (xs.drop j) (ls0.drop b) →
  ∀ i bk, nth ((blksV j ss).map (Option.map (Blk.inst (zak 0 n)))) i = some bk → BlkRel E (dget xs) (fun i => ls0.getD i default) W (ls0.getD (b + i) default) bk
 | [], j, b, _, _, i, bk, h => by cases i <;> cases h
 | .pl s :: ss, j, b, hj, hr, i, bk, h => by
  have hj : j + (s.lts.length + nInV ss) ≤ n := hj
  refine zlL xs ls0 hn ss (j + s.lts.length) b (by omega) ?_ i bk h
  have hr : zdK E W ss ((xs.drop j).drop s.lts.length) (ls0.drop b) := hr
  rwa [List.drop_drop] at hr
 | .row ts :: ss, j, b, hj, hr, 0, bk, h => by
  have hj : j + (1 + nInV ss) ≤ n := hj
  cases h
  have hid : (A.h j).inst (zak 0 n) = .r j := by
   have := zeB n 0 j (by omega)
   simpa [A.inst] using this
  have h1 := hr.1
  show VRel E W (ls0.getD (b + 0) default) false ts (((A.h j).inst (zak 0 n)).cells (dget xs))
  rw [hid]
  have e1 : (ls0.drop b).headD default = ls0.getD (b + 0) default := by
   rw [List.headD_eq_head?_getD, List.head?_drop, List.getD_eq_getElem?_getD, Nat.add_zero]
  have e2 : (xs.drop j).headD default = dget xs j := by
   rw [List.headD_eq_head?_getD, List.head?_drop, dget, List.getD_eq_getElem?_getD]
  rw [e1, e2] at h1
  exact h1
 | .row ts :: ss, j, b, hj, hr, i + 1, bk, h => by
  have hj : j + (1 + nInV ss) ≤ n := hj
  have h2 : zdK E W ss ((xs.drop j).tail) ((ls0.drop b).tail) := hr.2
  rw [List.tail_drop, List.tail_drop] at h2
  have := zlL xs ls0 hn ss (j + 1) (b + 1) (by omega) h2 i bk h
  rwa [show b + 1 + i = b + (i + 1) from by omega] at this
section
variable {C : Checked} {os : Os} {f : FuncId} {fn : Func} {s : ChangeSpec} {H : Type} {enc : TypeId × Value → H} {sg : Sig} {G : List DV → List DV} {I : World → Prop}
structure LawSigV (sg : Sig) (ss : List ShV) : Prop where
 ins : sg.ins = patV 0 0 ss
 hin : sg.hin = blksV 0 ss
 nin : sg.nin = nInV ss
 out : sg.out = .s (.one (.b (.h 0)))
 hout : sg.hout = []
 ots : sg.ots = [.b]
structure LaidOk (P : Program) (ts : List TypeId) : Prop where
 rows : laidOutB P = true
 maps : mapsRowed P = true
 full : ((List.range P.types.size).all fun t => match P.underlying t with | some (.slice e) => decide (0 < P.cellsOf e) | _ => true) = true
 lt : ts.all (fun t => decide (t < P.types.size)) = true
theorem zlM {gK : Nat} {ss : List ShV} (k : FnOK C.prog I gK f sg G) (hsh : zc4 C.prog fn.params.toList = some ss) (hl : LawSigV sg ss) {tb : TypeId} (hrt : fn.resultTypes = #[tb])
    (htb : C.prog.underlying tb = some .bool) (hvars : s.vars = []) (hs : ∀ ds : List (DataW H), ds.length = fn.params.size → s.fn H ds = { results := [.lit (.bool true)], args := ds }) (hlo : LaidOk C.prog fn.params.toList)
    (hG : ∀ xs, zkx ss xs → xs.length = nInV ss → (sg.need = true → (dget (G xs) 0).toB = true) ∧ (dget (G xs) (if sg.need then 1 else 0)).toB = true)
    {W : World} {base : Nat} {args : Array Value} {ds gs : List (DataW H)} {before : List MemPlace}
    (hval : ∀ (j : Nat) t v, fn.params[j]? = some t → args[j]? = some v → Value.okWide C.prog W .any base t v)
    (hW : DataW.Whole enc C.prog fn.params.toList s.vars false W args.toList ds gs before) (hI : I W) (hK : gK ≤ W.heap.size) :
    Calls C.prog f args W fun e W' => ∃ v, e = .returned v ∧ s.post enc C.prog fn false true false false W args v W' := by
  have hW0 := hW
  obtain ⟨p, q, hA, hV, rfl, hfz, _⟩ := hW
  rw [hvars] at hV
  obtain ⟨rfl, rfl⟩ := trodVars_none hV
  have hlen : ∀ {ts : List TypeId} {vs : List Value} {ds : List (DataW H)} {ps : List MemPlace}, DataW.TrodAll enc C.prog W 0 (fun _ => true) true ts vs ds ps → ds.length = ts.length := by
    intro ts
    induction ts with
    | nil => intro vs ds ps h; cases vs <;> cases ds <;> first | rfl | cases h
    | cons t ts ih =>
      intro vs ds ps h
      cases vs with
      | nil => cases h
      | cons v vs =>
        cases ds with
        | nil => cases h
        | cons d ds =>
          obtain ⟨p, q, _, h2, _⟩ := h
          simp [ih h2]
  obtain ⟨xs, ls, h1, hx, h3, h2⟩ := zmX (callEnv sg.hinI (fun i => default) W) hsh (fun j t v ht hv => hval j t v (by simpa using ht) (by simpa using hv)) hA
  have hg := hG xs h1 hx
  have hhin : sg.hinI = (blksV 0 ss).map (Option.map (Blk.inst (zak 0 sg.nin))) := by unfold Sig.hinI; rw [hl.hin]
  have hown : ∀ j b, nth sg.hinI j = some b → b.own = false := fun j b hj => by
    rw [hhin, zaB] at hj
    obtain ⟨y, hy, rfl⟩ := Option.map_eq_some_iff.1 hj
    rw [Blk.inst_own]
    exact zjB ss 0 j y hy
  have hnW : ∀ (ρ : Nat → Loc) b, ¬ (callEnv sg.hinI ρ W).W b := fun ρ b ⟨j, bk, hj, ho, _⟩ => by rw [hown j bk hj] at ho; cases ho
  obtain ⟨c1, c2⟩ := zgz (n := sg.nin) (dget xs) (fun i => ls.getD i default) ss 0 0 (by rw [hl.nin]; omega)
  have hins : sg.insI = (patV 0 0 ss).map (V.inst (zak 0 sg.nin)) := by unfold Sig.insI; rw [hl.ins]
  have hflat : ∀ {E E' : Env} {ss : List ShV} {ds : List DV} {ls : List Loc}, zdK E W ss ds ls → (∀ t ∈ ss, match t with | .row ts => ts.all LT.flat = true | _ => True) → zdK E' W ss ds ls := by
    intro E E' ss
    induction ss with
    | nil => intro ds ls _ _; trivial
    | cons t ss ih =>
      intro ds ls h ht
      cases t with
      | pl s => exact ih (ds := ds.drop s.lts.length) h (fun u hu => ht u (List.mem_cons_of_mem _ hu))
      | row ts =>
        refine ⟨?_, ih h.2 (fun u hu => ht u (List.mem_cons_of_mem _ hu))⟩
        have hf : ts.all LT.flat = true := ht (.row ts) (by simp)
        have h := h.1
        exact ⟨h.nil, h.lt, h.pos, h.len, h.cap, fun i hi => let ⟨v, h1, h2⟩ := h.cell i hi; ⟨v, h1, h2.flat (zio hf _)⟩, h.own, h.fz⟩
  have hfl : ∀ t ∈ ss, match t with | .row ts => ts.all LT.flat = true | _ => True := by
    have key : ∀ (d : Nat) (t : TypeId) (l : List LT), zeC C.prog d t = some l → l.all LT.flat = true := by
      intro d
      induction d with
      | zero => intro t l h; cases h
      | succ d ih =>
        intro t l h
        simp only [zeC] at h
        split at h
        · cases h; rfl
        · cases h; rfl
        · split at h
          · cases h
          · rename_i l' hl'
            split at h
            · cases h
              refine List.all_eq_true.2 fun x hx => ?_
              obtain ⟨y, hy, hxy⟩ := List.mem_flatten.1 hx
              rw [(List.mem_replicate.1 hy).2] at hxy
              exact List.all_eq_true.1 (ih _ _ hl') x hxy
            · cases h
        · split at h
          · cases h
          · rename_i l' hl'
            split at h
            · cases h
              have kf : ∀ (fs : List Field) (o : Nat) (l : List LT), zfd C.prog (zeC C.prog d) o fs = some l → l.all LT.flat = true := by
                intro fs
                induction fs with
                | nil => intro o l h; simp [zfd] at h; subst h; rfl
                | cons f fs ihf =>
                  intro o l h
                  simp only [zfd] at h
                  split at h
                  · split at h
                    · cases h
                    · rename_i r hr
                      split at h
                      · split at h
                        · cases h
                        · rename_i r' hr'
                          cases h
                          rw [List.all_append, ih _ _ hr, ihf _ _ hr']
                          rfl
                      · cases h
                  · cases h
              exact kf _ _ _ hl'
            · cases h
        · cases h
    have key2 : ∀ {ts : List TypeId} {ss : List ShV}, zc4 C.prog ts = some ss → ∀ t ∈ ss, match t with | .row ts => ts.all LT.flat = true | _ => True := by
      intro ts
      induction ts with
      | nil => intro ss h t ht; simp [zc4] at h; subst h; cases ht
      | cons t ts ih =>
        intro ss h u hu
        simp only [zc4] at h
        split at h
        · rename_i s rr hs1 hs2
          cases h
          rcases List.mem_cons.1 hu with rfl | hu
          · unfold zr3 at hs1
            split at hs1
            · split at hs1
              · rename_i l hl
                split at hs1
                · cases hs1; exact key _ _ _ hl
                · cases hs1
              · cases hs1
            · obtain ⟨s', _, rfl⟩ := Option.map_eq_some_iff.1 hs1
              trivial
          · exact ih hs2 u hu
        · cases h
    exact key2 hsh
  have hk := k xs (fun i => ls.getD i default) W hI (by rw [hl.nin]; exact hx) hg.1 hK (fun b hb => absurd hb (hnW _ b)) (by rw [hins]; exact c2)
    ⟨fun j bk hj => by
      have h3' := hflat (E' := callEnv sg.hinI (fun i => ls.getD i default) W) h3 hfl
      have := zlL xs ls (n := sg.nin) (by rw [hl.nin]; exact hx) ss 0 0 (by rw [hl.nin]; omega) (by simpa using h3') j bk (by rw [← hhin]; exact hj)
      rwa [Nat.zero_add] at this,
     fun j j' bk bk' hj ho => by rw [hown j bk hj] at ho; cases ho⟩
  have ha : (sg.insI.map (V.conc (dget xs) fun i => ls.getD i default)).toArray = args := by
    rw [hins, c1]
    apply Array.ext'
    simpa using h2 [] []
  rw [ha] at hk
  refine hk.mono fun e W' ⟨v, ρ', he, hc⟩ => ⟨.bool true, ?_, ?_⟩
  · rw [he, hc.val]
    have : sg.outI.conc (sg.res (G xs)) ρ' = .bool (dget (G xs) (if sg.need then 1 else 0)).toB := by
      unfold Sig.outI Sig.res
      rw [hl.out, hl.ots]
      show Value.bool (dget (G xs) (0 + _)).toB = _
      rw [Nat.zero_add]
    rw [this, hg.2]
  · have hb : Below W.heap.size W W' := (hc.fr.weaken (W' := fun _ => False) fun b hb => hnW _ b hb).below
    have hsf := hs ds (by have := hlen hA; simpa using this)
    have hkids := kids_rows hlo.rows hlo.maps
    have hT : ∀ t ∈ fn.params.toList, t < C.prog.types.size := fun t ht => by simpa using List.all_eq_true.1 hlo.lt t ht
    have hre := DataW.TrodAll.respare (spare' := fun b => decide (b < W.heap.size)) hkids (slices_full_of C.prog hlo.full) hT hA (fun x hx => by simpa using hA.lt x hx)
    have hcarry : ∀ {ts : List TypeId} {vs : List Value} {ds : List (DataW H)} {ps : List MemPlace}, DataW.TrodAll enc C.prog W 0 (fun b => decide (b < W.heap.size)) true ts vs ds ps → (∀ p ∈ ps, W.sameAt W' p) → DataW.TrodAll enc C.prog W' 0 (fun b => decide (b < W.heap.size)) true ts vs ds ps := by
      intro ts
      induction ts with
      | nil => intro vs ds ps h _; cases vs <;> cases ds <;> first | exact h | cases h
      | cons t ts ih =>
        intro vs ds ps h hsame
        cases vs with
        | nil => cases h
        | cons v vs =>
        cases ds with
        | nil => cases h
        | cons d ds =>
        obtain ⟨p, q, ⟨fu, h1⟩, h2, rfl⟩ := h
        exact ⟨p, q, ⟨fu, DataW.trod_carry fu _ _ _ h1 (fun x hx => hsame x (List.mem_append_left _ hx))⟩, ih h2 (fun x hx => hsame x (List.mem_append_right _ hx)), rfl⟩
    have hre2 := hcarry hre (fun x hx => hb.same (hA.lt x hx))
    refine ⟨ds, [], p ++ [], [], p, [], ⟨p, [], hA, by rw [hvars]; exact rfl, rfl, hfz, fun h => by cases h⟩, ?_, ?_, ?_, hb.frame _, fun h => by cases h⟩
    · rw [List.append_nil, hsf, hrt]
      exact trodAll_mk1 (shut_bool htb true)
    · rw [List.append_nil, hsf]
      exact hre2
    · rw [List.append_nil, hsf, hvars]
      rfl
theorem zop {gK : Nat} {ss : List ShV} (k : FnOK C.prog I gK f sg G) (hsh : zc4 C.prog fn.params.toList = some ss) (hl : LawSigV sg ss) {tb : TypeId} (hrt : fn.resultTypes = #[tb])
  (htb : C.prog.underlying tb = some .bool) (hvars : s.vars = []) (hs : ∀ ds : List (DataW H), ds.length = fn.params.size → s.fn H ds = { results := [.lit (.bool true)], args := ds }) (hlo : LaidOk C.prog fn.params.toList)
  (hG : ∀ xs, zkx ss xs → xs.length = nInV ss → (sg.need = true → (dget (G xs) 0).toB = true) ∧ (dget (G xs) (if sg.need then 1 else 0)).toB = true)
  (hI : ∀ W, I W) (hK : gK = 0)
  (own : ownKnob C.prog.godebug = none) (started : os.Started) (noInit : C.prog.inits.idxOf? f = none) (hfn : C.prog.funcs[f]? = some fn)
  (witness : ∃ (w : World) (tape : Tape) (i : Input), w.os = os ∧ (w.forCall tape i).Shaped C.prog ∧ i.vars = [] ∧ Input.okWide C.prog (w.forCall tape i) .any w.heap.size f i ∧
   s.pre6 enc C.prog fn [] false (w.forCall tape i).memory i.args ∧ ({} : Assume).holds C.prog (lone (Frame.enter C.prog f i.args .normal) [] (w.forCall tape i))) :
  ReturnsInHanded {} C os f .any (s.pre6 enc C.prog fn [] false) (s.post enc C.prog fn false true false false) :=
 returnsInHanded_of_change (C := C) own started noInit hfn witness
  fun W _ _ _ _ _ hval hW _ _ => zlM k hsh hl hrt htb hvars hs hlo hG hval hW (hI W) (by rw [hK]; exact Nat.zero_le _)
end
end Go.Sx
