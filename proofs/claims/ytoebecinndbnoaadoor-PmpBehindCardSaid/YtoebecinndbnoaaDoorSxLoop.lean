/- A loop as a function of its own. -/
import Derived.Test.YtoebecinndbnoaaDoorSxFn
namespace Go.Sx
open Go.RowKit

theorem blt_lt {a b : Nat} (h : Nat.blt a b = true) : a < b := by simpa [Nat.blt_eq] using h
theorem blt_true {a b : Nat} (h : a < b) : Nat.blt a b = true := by simpa [Nat.blt_eq] using h

/-! ### The values of the nodes -/
theorem look_base {base : Nat → DV} {n0 n i : Nat} {vs : List DV} (h : i < n0) : look base n0 vs n i = base i := by
  unfold look; rw [blt_true h]; rfl
theorem look_list {base : Nat → DV} {n0 n i : Nat} {vs : List DV} (h : n0 ≤ i) : look base n0 vs n i = vs.getD (n - 1 - i) default := by
  unfold look
  have : Nat.blt i n0 = false := by
    cases hb : Nat.blt i n0 with
    | false => rfl
    | true => have := blt_lt hb; omega
  rw [this]; rfl
theorem look_cons_old {base : Nat → DV} {n0 n i : Nat} {vs : List DV} (hi : i < n) (d : DV) : look base n0 (d :: vs) (n + 1) i = look base n0 vs n i := by
  rcases Nat.lt_or_ge i n0 with h | h
  · rw [look_base h, look_base h]
  · rw [look_list h, look_list h, show n + 1 - 1 - i = (n - 1 - i) + 1 from by omega]; rfl
theorem look_cons_new {base : Nat → DV} {n0 n : Nat} {vs : List DV} (hn : n0 ≤ n) (d : DV) : look base n0 (d :: vs) (n + 1) n = d := by
  rw [look_list hn, show n + 1 - 1 - n = 0 from by omega]; rfl

theorem A.den_congr {ν ν' : Nat → DV} {n : Nat} (h : ∀ i, i < n → ν i = ν' i) {a : A} (ha : a.below n = true) : a.den ν = a.den ν' := by
  cases a with
  | r i => exact h i (blt_lt ha)
  | _ => rfl
theorem A.int_congr {ν ν' : Nat → DV} {n : Nat} (h : ∀ i, i < n → ν i = ν' i) {a : A} (ha : a.below n = true) : a.int ν = a.int ν' := by simp [A.int, A.den_congr h ha]
theorem A.bool_congr {ν ν' : Nat → DV} {n : Nat} (h : ∀ i, i < n → ν i = ν' i) {a : A} (ha : a.below n = true) : a.bool ν = a.bool ν' := by simp [A.bool, A.den_congr h ha]

theorem map_congr_all {α β : Type} {p : α → Bool} {f g : α → β} {l : List α} (hl : l.all p = true) (h : ∀ a, p a = true → f a = g a) : l.map f = l.map g :=
  List.map_congr_left fun a ha => h a (List.all_eq_true.1 hl a ha)

theorem denNode_congr {F : FEnv} {ν ν' : Nat → DV} {n : Nat} (h : ∀ i, i < n → ν i = ν' i) {x : Node} (hx : x.refs n = true) : denNode F ν x = denNode F ν' x := by
  cases x <;> simp only [Node.refs, Node.ops, List.all_cons, List.all_nil, Bool.and_true, Bool.and_eq_true] at hx <;> simp only [denNode] <;>
    first
      | rw [A.int_congr h hx.1, A.int_congr h hx.2]
      | rw [A.bool_congr h hx.1, A.bool_congr h hx.2]
      | rw [A.bool_congr h hx]
      | rw [A.int_congr h hx]
      | rw [A.bool_congr h hx.1, A.int_congr h hx.2.1, A.int_congr h hx.2.2]
      | rw [A.bool_congr h hx.1, A.bool_congr h hx.2.1, A.bool_congr h hx.2.2]
      | rw [map_congr_all hx.2 (fun a ha => A.int_congr h ha), A.int_congr h hx.1]
      | rw [map_congr_all hx.2 (fun a ha => A.bool_congr h ha), A.int_congr h hx.1]
      | rw [map_congr_all hx (fun a ha => A.den_congr h ha)]

theorem evalNodes_spec {F : FEnv} {base : Nat → DV} {n0 : Nat} : ∀ {nodes : Em} {vs : List DV} {n : Nat}, n0 ≤ n → wfNodes n nodes = true →
    (∀ i, i < n → look base n0 (evalNodes F base n0 nodes vs n) (n + nodes.length) i = look base n0 vs n i) ∧
    Sat F (look base n0 (evalNodes F base n0 nodes vs n) (n + nodes.length)) nodes
  | [], vs, n, _, _ => ⟨fun i _ => rfl, fun p hp => by cases hp⟩
  | (k, x) :: r, vs, n, hn, hw => by
    simp only [wfNodes, Bool.and_eq_true] at hw
    obtain ⟨⟨h1, h2⟩, h3⟩ := hw
    have hk := Nat.eq_of_beq_eq_true h1
    subst hk
    obtain ⟨e2, e3⟩ := evalNodes_spec (F := F) (base := base) (n0 := n0) (nodes := r) (vs := denNode F (look base n0 vs k) x :: vs) (n := k + 1) (by omega) h3
    have hlen : k + ((k, x) :: r).length = k + 1 + r.length := by simp; omega
    simp only [evalNodes]
    rw [hlen]
    have old : ∀ i, i < k → look base n0 (evalNodes F base n0 r (denNode F (look base n0 vs k) x :: vs) (k + 1)) (k + 1 + r.length) i = look base n0 vs k i := fun i hi => by
      rw [e2 i (by omega), look_cons_old hi]
    refine ⟨old, fun p hp => ?_⟩
    rcases List.mem_cons.1 hp with rfl | hp
    · simp only
      rw [e2 k (by omega), look_cons_new hn]
      exact (denNode_congr (fun i hi => old i hi) h2).symm
    · exact e3 p hp

section
variable {P : Program} {I : World → Prop} {S : Sigs} {F : FEnv} {W : Nat → Prop} {w0 : World}

theorem LR.env_spec {l : LR} (ν : Nat → DV) {xs : List DV} (hx : xs.length = l.k) (hw : wfNodes (l.n + l.k) l.nodes = true) :
    (∀ i, i < l.n → l.env F ν xs i = ν i) ∧ (∀ j, j < l.k → l.env F ν xs (l.n + j) = xs.getD j default) ∧ Sat F (l.env F ν xs) l.nodes := by
  obtain ⟨h1, h2⟩ := evalNodes_spec (F := F) (base := ν) (n0 := l.n) (vs := xs.reverse) (n := l.n + l.k) (by omega) hw
  refine ⟨fun i hi => ?_, fun j hj => ?_, h2⟩
  · unfold LR.env; rw [look_base hi]
  · unfold LR.env
    rw [h1 (l.n + j) (by omega), look_list (by omega)]
    simp only [List.getD_eq_getElem?_getD]
    rw [List.getElem?_reverse (by omega), hx]
    congr 2
    omega

/-! ### A pattern and what fits it -/
/-- Alike, as integers or as bools. -/
def PEq (ν1 ν2 : Nat → DV) : List Bool → List A → List A → Prop
  | t :: ts, a :: as, b :: bs => (if t then a.int ν1 = b.int ν2 else a.bool ν1 = b.bool ν2) ∧ PEq ν1 ν2 ts as bs
  | [], [], [] => True
  | _, _, _ => False

theorem PEq.split {ν1 ν2 : Nat → DV} : ∀ {ts ts' : List Bool} {as as' bs bs' : List A}, as.length = ts.length → bs.length = ts.length → PEq ν1 ν2 (ts ++ ts') (as ++ as') (bs ++ bs') → PEq ν1 ν2 ts as bs ∧ PEq ν1 ν2 ts' as' bs'
  | [], ts', [], as', [], bs', _, _, h => ⟨trivial, h⟩
  | t :: ts, ts', a :: as, as', b :: bs, bs', h1, h2, h => by
    obtain ⟨h3, h4⟩ := h
    obtain ⟨h5, h6⟩ := PEq.split (by simpa using h1) (by simpa using h2) h4
    exact ⟨⟨h3, h5⟩, h6⟩

theorem PEq.of_den {ν1 ν2 : Nat → DV} : ∀ {ts : List Bool} {as bs : List A}, as.length = ts.length → as.map (A.den ν1) = bs.map (A.den ν2) → PEq ν1 ν2 ts as bs
  | [], [], [], _, _ => trivial
  | t :: ts, a :: as, b :: bs, hl, h => by
    simp only [List.map_cons, List.cons.injEq] at h
    refine ⟨?_, PEq.of_den (by simpa using hl) h.2⟩
    cases t <;> simp [A.int, A.bool, h.1]
  | [], [], _ :: _, _, h => by simp at h
  | _ :: _, _ :: _, [], _, h => by simp at h

theorem fitLf_spec {x y z : Lf} {a b : A} {ν1 ν2 : Nat → DV} (h1 : fitLf x y = some a) (h2 : fitLf x z = some b) (he : if isIntLf x then a.int ν1 = b.int ν2 else a.bool ν1 = b.bool ν2) :
    (∀ ρ, y.conc ν1 ρ = z.conc ν2 ρ) ∧ z.good ν2 := by
  cases x <;> cases y <;> simp [fitLf] at h1
  · obtain ⟨hk1, rfl⟩ := h1
    cases z <;> simp [fitLf] at h2
    obtain ⟨hk2, rfl⟩ := h2
    have e1 := kEq_eq hk1
    have e2 := kEq_eq hk2
    subst e1; subst e2
    simp only [isIntLf, if_true] at he
    exact ⟨fun ρ => by simp [Lf.conc, he], trivial⟩
  · subst h1
    cases z <;> simp [fitLf] at h2
    subst h2
    simp only [isIntLf, Bool.false_eq_true, if_false] at he
    exact ⟨fun ρ => by simp [Lf.conc, he], trivial⟩

theorem fitLfs_len : ∀ {x y : List Lf} {as : List A}, fitLfs x y = some as → as.length = x.length
  | [], [], as, h => by simp [fitLfs] at h; subst h; rfl
  | x :: l, y :: l', as, h => by
    simp only [fitLfs] at h
    cases h1 : fitLf x y with
    | none => simp [h1] at h
    | some a =>
      simp only [h1] at h
      obtain ⟨r, hr, rfl⟩ := Option.map_eq_some_iff.1 h
      simp [fitLfs_len hr]
  | [], _ :: _, _, h => by simp [fitLfs] at h
  | _ :: _, [], _, h => by simp [fitLfs] at h
theorem fitLfs_spec {ν1 ν2 : Nat → DV} : ∀ {x y z : List Lf} {as bs : List A}, fitLfs x y = some as → fitLfs x z = some bs → PEq ν1 ν2 (x.map isIntLf) as bs →
    (∀ ρ, y.map (Lf.conc ν1 ρ) = z.map (Lf.conc ν2 ρ)) ∧ ∀ u ∈ z, Lf.good ν2 u
  | [], [], [], _, _, _, _, _ => ⟨fun _ => rfl, fun u hu => by cases hu⟩
  | x :: l, y :: l', z :: l'', as, bs, h1, h2, he => by
    simp only [fitLfs] at h1 h2
    cases e1 : fitLf x y with
    | none => simp [e1] at h1
    | some a =>
      cases e2 : fitLf x z with
      | none => simp [e2] at h2
      | some b =>
        simp only [e1] at h1
        simp only [e2] at h2
        obtain ⟨r1, hr1, rfl⟩ := Option.map_eq_some_iff.1 h1
        obtain ⟨r2, hr2, rfl⟩ := Option.map_eq_some_iff.1 h2
        obtain ⟨g1, g2⟩ := fitLf_spec e1 e2 he.1
        obtain ⟨g3, g4⟩ := fitLfs_spec hr1 hr2 he.2
        refine ⟨fun ρ => by simp [g1 ρ, g3 ρ], fun u hu => ?_⟩
        rcases List.mem_cons.1 hu with rfl | hu
        · exact g2
        · exact g4 u hu
  | [], [], _ :: _, _, _, _, h2, _ => by simp [fitLfs] at h2
  | [], _ :: _, _, _, _, h1, _, _ => by simp [fitLfs] at h1
  | _ :: _, [], _, _, _, h1, _, _ => by simp [fitLfs] at h1
  | _ :: _, _ :: _, [], _, _, _, h2, _ => by simp [fitLfs] at h2

def vTypes : V → List Bool
  | .s v => v.cells.map isIntLf
  | .t _ => []

theorem fitV_len {x y : V} {as : List A} (h : fitV x y = some as) : as.length = (vTypes x).length := by
  cases x with
  | t l => cases y <;> simp [fitV] at h
  | s x =>
    cases y with
    | t l => cases x <;> simp [fitV] at h
    | s y =>
      cases x <;> cases y <;> simp only [fitV] at h
      · obtain ⟨a, _, rfl⟩ := Option.map_eq_some_iff.1 h; rfl
      · cases h
      · cases h
      · simpa [vTypes, V1.cells] using fitLfs_len h
theorem fitV_spec {ν1 ν2 : Nat → DV} {x y z : V} {as bs : List A} (h1 : fitV x y = some as) (h2 : fitV x z = some bs) (he : PEq ν1 ν2 (vTypes x) as bs) :
    (∀ ρ, y.conc ν1 ρ = z.conc ν2 ρ) ∧ z.good ν2 := by
  cases x with
  | t l => cases y <;> simp [fitV] at h1
  | s x =>
    cases y with
    | t l => cases x <;> simp [fitV] at h1
    | s y =>
      cases z with
      | t l => cases x <;> simp [fitV] at h2
      | s z =>
        cases x <;> cases y <;> simp only [fitV] at h1 <;> cases z <;> simp only [fitV] at h2 <;> first | cases h1 | cases h2 | skip
        · obtain ⟨a, e1, rfl⟩ := Option.map_eq_some_iff.1 h1
          obtain ⟨b, e2, rfl⟩ := Option.map_eq_some_iff.1 h2
          obtain ⟨g1, g2⟩ := fitLf_spec e1 e2 he.1
          exact ⟨g1, V1.good_one.2 g2⟩
        · obtain ⟨g1, g2⟩ := fitLfs_spec h1 h2 he
          exact ⟨fun ρ => by simp only [V.conc, V1.conc, g1 ρ], V1.good_agg.2 g2⟩

theorem Off.below_spec {ν1 ν2 : Nat → DV} {n : Nat} (h : ∀ i, i < n → ν2 i = ν1 i) {o : Off} (ho : o.below n = true) : o.val ν2 = o.val ν1 ∧ (o.good ν1 → o.good ν2) := by
  cases o with
  | c k => exact ⟨rfl, id⟩
  | s b ix sz len =>
    have := A.int_congr h ho
    exact ⟨by simp [Off.val, this], by simp [Off.good, this]⟩
theorem Lf.below_spec {ν1 ν2 : Nat → DV} {n : Nat} (h : ∀ i, i < n → ν2 i = ν1 i) {l : Lf} (hl : l.below n = true) : (∀ ρ, l.conc ν2 ρ = l.conc ν1 ρ) ∧ (l.good ν1 → l.good ν2) := by
  cases l with
  | i k a => exact ⟨fun ρ => by simp [Lf.conc, A.int_congr h (show a.below n = true from hl)], fun _ => trivial⟩
  | b a => exact ⟨fun ρ => by simp [Lf.conc, A.bool_congr h (show a.below n = true from hl)], fun _ => trivial⟩
  | p b o => obtain ⟨h1, h2⟩ := Off.below_spec h (show o.below n = true from hl); exact ⟨fun ρ => by simp [Lf.conc, h1], h2⟩
  | gp b o => obtain ⟨h1, h2⟩ := Off.below_spec h (show o.below n = true from hl); exact ⟨fun ρ => by simp [Lf.conc, h1], h2⟩
  | nilp => exact ⟨fun _ => rfl, id⟩
  | v x => exact ⟨fun _ => rfl, id⟩

/-- Three leaves that are one, the pattern's looking at the surroundings alone. -/
theorem Lf.through {ν1 ν2 : Nat → DV} {n : Nat} (h : ∀ i, i < n → ν2 i = ν1 i) {x y z : Lf} (hb : x.below n = true) (h1 : x.beq y = true) (h2 : x.beq z = true) :
    (∀ ρ, y.conc ν1 ρ = z.conc ν2 ρ) ∧ (y.good ν1 → z.good ν2) := by
  obtain ⟨a1, a2⟩ := Lf.beq_spec (ν := ν1) h1
  obtain ⟨b1, b2⟩ := Lf.beq_spec (ν := ν2) h2
  obtain ⟨c1, c2⟩ := Lf.below_spec h hb
  refine ⟨fun ρ => by rw [← a1 ρ, ← b1 ρ, c1 ρ], fun hg => ?_⟩
  have := c2 (a2 hg)
  exact Lf.good_of_beq h2 this
theorem Lfs.through {ν1 ν2 : Nat → DV} {n : Nat} (h : ∀ i, i < n → ν2 i = ν1 i) : ∀ {x y z : List Lf}, x.all (Lf.below n) = true → Lfs.beq x y = true → Lfs.beq x z = true →
    (∀ ρ, y.map (Lf.conc ν1 ρ) = z.map (Lf.conc ν2 ρ)) ∧ ((∀ u ∈ y, Lf.good ν1 u) → ∀ u ∈ z, Lf.good ν2 u)
  | [], [], [], _, _, _ => ⟨fun _ => rfl, fun _ u hu => by cases hu⟩
  | x :: l, y :: l', z :: l'', hb, h1, h2 => by
    simp only [List.all_cons, Bool.and_eq_true] at hb
    simp only [Lfs.beq, Bool.and_eq_true] at h1 h2
    obtain ⟨g1, g2⟩ := Lf.through h hb.1 h1.1 h2.1
    obtain ⟨g3, g4⟩ := Lfs.through h hb.2 h1.2 h2.2
    refine ⟨fun ρ => by simp [g1 ρ, g3 ρ], fun hg u hu => ?_⟩
    rcases List.mem_cons.1 hu with rfl | hu
    · exact g2 (hg y (by simp))
    · exact g4 (fun v hv => hg v (List.mem_cons_of_mem _ hv)) u hu
  | [], [], _ :: _, _, _, h2 => by simp [Lfs.beq] at h2
  | [], _ :: _, _, _, h1, _ => by simp [Lfs.beq] at h1
  | _ :: _, [], _, _, h1, _ => by simp [Lfs.beq] at h1
  | _ :: _, _ :: _, [], _, _, h2 => by simp [Lfs.beq] at h2
theorem V1.through {ν1 ν2 : Nat → DV} {n : Nat} (h : ∀ i, i < n → ν2 i = ν1 i) {x y z : V1} (hb : x.below n = true) (h1 : x.beq y = true) (h2 : x.beq z = true) :
    (∀ ρ, y.conc ν1 ρ = z.conc ν2 ρ) ∧ (y.good ν1 → z.good ν2) := by
  cases x <;> cases y <;> simp only [V1.beq] at h1 <;> cases z <;> simp only [V1.beq] at h2 <;> first | cases h1 | cases h2 | skip
  · obtain ⟨g1, g2⟩ := Lf.through h (by simpa [V1.below, V1.cells] using hb) h1 h2
    exact ⟨g1, fun hg => V1.good_one.2 (g2 (V1.good_one.1 hg))⟩
  · obtain ⟨g1, g2⟩ := Lfs.through h hb h1 h2
    exact ⟨fun ρ => by simp only [V1.conc, g1 ρ], fun hg => V1.good_agg.2 (g2 (V1.good_agg.1 hg))⟩
theorem V1s.through {ν1 ν2 : Nat → DV} {n : Nat} (h : ∀ i, i < n → ν2 i = ν1 i) : ∀ {x y z : List V1}, x.all (V1.below n) = true → V1s.beq x y = true → V1s.beq x z = true →
    (∀ ρ, y.map (V1.conc ν1 ρ) = z.map (V1.conc ν2 ρ)) ∧ ((∀ u ∈ y, V1.good ν1 u) → ∀ u ∈ z, V1.good ν2 u)
  | [], [], [], _, _, _ => ⟨fun _ => rfl, fun _ u hu => by cases hu⟩
  | x :: l, y :: l', z :: l'', hb, h1, h2 => by
    simp only [List.all_cons, Bool.and_eq_true] at hb
    simp only [V1s.beq, Bool.and_eq_true] at h1 h2
    obtain ⟨g1, g2⟩ := V1.through h hb.1 h1.1 h2.1
    obtain ⟨g3, g4⟩ := V1s.through h hb.2 h1.2 h2.2
    refine ⟨fun ρ => by simp [g1 ρ, g3 ρ], fun hg u hu => ?_⟩
    rcases List.mem_cons.1 hu with rfl | hu
    · exact g2 (hg y (by simp))
    · exact g4 (fun v hv => hg v (List.mem_cons_of_mem _ hv)) u hu
  | [], [], _ :: _, _, _, h2 => by simp [V1s.beq] at h2
  | [], _ :: _, _, _, h1, _ => by simp [V1s.beq] at h1
  | _ :: _, [], _, _, h1, _ => by simp [V1s.beq] at h1
  | _ :: _, _ :: _, [], _, _, h2 => by simp [V1s.beq] at h2
theorem V.through {ν1 ν2 : Nat → DV} {n : Nat} (h : ∀ i, i < n → ν2 i = ν1 i) {x y z : V} (hb : x.below n = true) (h1 : x.beq y = true) (h2 : x.beq z = true) :
    (∀ ρ, y.conc ν1 ρ = z.conc ν2 ρ) ∧ (y.good ν1 → z.good ν2) := by
  cases x <;> cases y <;> simp only [V.beq] at h1 <;> cases z <;> simp only [V.beq] at h2 <;> first | cases h1 | cases h2 | skip
  · exact V1.through h hb h1 h2
  · obtain ⟨g1, g2⟩ := V1s.through h hb h1 h2
    exact ⟨fun ρ => by simp only [V.conc, g1 ρ], g2⟩

theorem slotTypes_cons_some (D : List Nat) (t : Nat) (x : V) (l : List (Option V)) : slotTypes D t (some x :: l) = (if memN t D then vTypes x else []) ++ slotTypes D (t + 1) l := by
  simp only [slotTypes]
  congr 1

theorem fitSlots_len {D : List Nat} : ∀ {x y : List (Option V)} {t : Nat} {as : List A}, fitSlots D t x y = some as → as.length = (slotTypes D t x).length ∧ x.length = y.length
  | [], [], t, as, h => by simp [fitSlots] at h; subst h; exact ⟨rfl, rfl⟩
  | none :: l, y :: l', t, as, h => by
    simp only [fitSlots] at h
    obtain ⟨h1, h2⟩ := fitSlots_len h
    exact ⟨h1, by simp [h2]⟩
  | some x :: l, some y :: l', t, as, h => by
    simp only [fitSlots] at h
    rw [slotTypes_cons_some]
    split at h
    · rename_i hm
      cases hf : fitV x y with
      | none => simp [hf] at h
      | some a =>
        simp only [hf] at h
        obtain ⟨r, hr, rfl⟩ := Option.map_eq_some_iff.1 h
        obtain ⟨h1, h2⟩ := fitSlots_len hr
        exact ⟨by simp [hm, h1, fitV_len hf], by simp [h2]⟩
    · rename_i hm
      split at h
      · obtain ⟨h1, h2⟩ := fitSlots_len h
        exact ⟨by simp [hm, h1], by simp [h2]⟩
      · cases h
  | [], _ :: _, _, _, h => by simp [fitSlots] at h
  | none :: _, [], _, _, h => by simp [fitSlots] at h
  | some _ :: _, [], _, _, h => by simp [fitSlots] at h
  | some _ :: _, none :: _, _, _, h => by simp [fitSlots] at h

theorem fitSlots_spec {D : List Nat} {ν1 ν2 : Nat → DV} {n : Nat} (hn : ∀ i, i < n → ν2 i = ν1 i) : ∀ {x y z : List (Option V)} {t : Nat} {as bs : List A}, fitSlots D t x y = some as → fitSlots D t x z = some bs →
    belowSlots D n t x = true → knownLe z x = true → PEq ν1 ν2 (slotTypes D t x) as bs →
    ∀ i v, nth z i = some v → ∃ u, nth y i = some u ∧ (∀ ρ, u.conc ν1 ρ = v.conc ν2 ρ) ∧ (u.good ν1 → v.good ν2)
  | [], [], [], _, _, _, _, _, _, _, _, i, v, hv => by cases i <;> cases hv
  | none :: l, y :: l', z :: l'', t, as, bs, h1, h2, hb, hk, he, i, v, hv => by
    simp only [fitSlots] at h1 h2
    simp only [belowSlots, Bool.and_eq_true] at hb
    cases z with
    | some z => simp [knownLe] at hk
    | none =>
      simp only [knownLe, List.tail_cons] at hk
      cases i with
      | zero => cases hv
      | succ i => exact fitSlots_spec hn h1 h2 hb.2 hk he i v hv
  | some x :: l, some y :: l', some z :: l'', t, as, bs, h1, h2, hb, hk, he, i, v, hv => by
    simp only [fitSlots] at h1 h2
    simp only [belowSlots, Bool.and_eq_true] at hb
    simp only [knownLe] at hk
    rw [slotTypes_cons_some] at he
    by_cases hm : memN t D = true
    · simp only [hm, if_true] at h1 h2 he
      cases e1 : fitV x y with
      | none => simp [e1] at h1
      | some a =>
        cases e2 : fitV x z with
        | none => simp [e2] at h2
        | some b =>
          simp only [e1] at h1
          simp only [e2] at h2
          obtain ⟨r1, hr1, rfl⟩ := Option.map_eq_some_iff.1 h1
          obtain ⟨r2, hr2, rfl⟩ := Option.map_eq_some_iff.1 h2
          obtain ⟨p1, p2⟩ := PEq.split (fitV_len e1) (fitV_len e2) he
          cases i with
          | zero =>
            cases hv
            obtain ⟨g1, g2⟩ := fitV_spec e1 e2 p1
            exact ⟨y, rfl, g1, fun _ => g2⟩
          | succ i => exact fitSlots_spec hn hr1 hr2 hb.2 hk p2 i v hv
    · simp only [hm, Bool.false_eq_true, if_false, List.nil_append] at h1 h2 he
      by_cases hb1 : x.beq y = true
      · by_cases hb2 : x.beq z = true
        · simp only [hb1, if_true] at h1
          simp only [hb2, if_true] at h2
          cases i with
          | zero =>
            cases hv
            have hbx : x.below n = true := by simpa [hm, optAll] using hb.1
            obtain ⟨g1, g2⟩ := V.through hn hbx hb1 hb2
            exact ⟨y, rfl, g1, g2⟩
          | succ i => exact fitSlots_spec hn h1 h2 hb.2 hk he i v hv
        · simp [hb2] at h2
      · simp [hb1] at h1
  | [], [], _ :: _, _, _, _, _, h2, _, _, _, _, _, _ => by simp [fitSlots] at h2
  | [], _ :: _, _, _, _, _, h1, _, _, _, _, _, _, _ => by simp [fitSlots] at h1
  | none :: _, [], _, _, _, _, h1, _, _, _, _, _, _, _ => by simp [fitSlots] at h1
  | some _ :: _, [], _, _, _, _, h1, _, _, _, _, _, _, _ => by simp [fitSlots] at h1
  | some _ :: _, none :: _, _, _, _, _, h1, _, _, _, _, _, _, _ => by simp [fitSlots] at h1
  | none :: _, _ :: _, [], _, _, _, _, h2, _, _, _, _, _, _ => by simp [fitSlots] at h2
  | some _ :: _, some _ :: _, [], _, _, _, _, h2, _, _, _, _, _, _ => by simp [fitSlots] at h2
  | some _ :: _, some _ :: _, none :: _, _, _, _, _, h2, _, _, _, _, _, _ => by simp [fitSlots] at h2
end
end Go.Sx
