/- Patterns: holes with equal values say the same. -/
import Derived.Test.YtacciadcmiiimaaSyFit
namespace Go.Sx
open Go.RowKit
section
variable {P : Program} {I : World → Prop} {S : Sigs} {F : FEnv} {E : Env} {ν ν1 ν2 : Nat → DV}

theorem nth_map {α β : Type} (f : α → β) : ∀ (l : List (Option α)) (j : Nat), nth (l.map (Option.map f)) j = (nth l j).map f
  | [], j => by cases j <;> rfl
  | x :: l, 0 => by simp [nth]
  | x :: l, j + 1 => by simp only [List.map_cons, nth]; exact nth_map f l j

theorem all_nth_of {α : Type} {q : α → Bool} : ∀ {l : List (Option α)} {i : Nat} {x : α}, l.all (optAll q) = true → nth l i = some x → q x = true
  | [], i, x, _, h => by cases i <;> cases h
  | c :: l, 0, x, h, hx => by
    simp only [List.all_cons, Bool.and_eq_true] at h
    cases hx
    exact h.1
  | c :: l, i + 1, x, h, hx => by
    simp only [List.all_cons, Bool.and_eq_true] at h
    exact all_nth_of h.2 hx

theorem Ty.beq_eq {t u : Ty} (h : t.beq u = true) : t = u := by cases t <;> cases u <;> simp [Ty.beq] at h <;> rfl
theorem Ty.eqAt_refl (t : Ty) (d : DV) : t.eqAt d d := by cases t <;> rfl
theorem Ty.eqAt_of {t : Ty} {d e : DV} (h : d = e) : t.eqAt d e := h ▸ t.eqAt_refl d
theorem Ty.eqAt_trans {t : Ty} {d e f : DV} (h : t.eqAt d e) (k : t.eqAt e f) : t.eqAt d f := by cases t <;> exact Eq.trans h k
theorem Ty.eqAt_symm {t : Ty} {d e : DV} (h : t.eqAt d e) : t.eqAt e d := by cases t <;> exact Eq.symm h

/-- Alike, as the kinds say. -/
def PEq (ν1 ν2 : Nat → DV) : List Ty → List A → List A → Prop
  | t :: ts, a :: as, b :: bs => t.eqAt (a.den ν1) (b.den ν2) ∧ PEq ν1 ν2 ts as bs
  | [], [], [] => True
  | _, _, _ => False

theorem PEq.at : ∀ {ts : List Ty} {as bs : List A} {j : Nat} {t : Ty}, PEq ν1 ν2 ts as bs → ts[j]? = some t → t.eqAt ((as.getD j default).den ν1) ((bs.getD j default).den ν2)
  | _ :: _, _ :: _, _ :: _, 0, t, h, e => by simp at e; subst e; exact h.1
  | _ :: ts, _ :: as, _ :: bs, j + 1, t, h, e => by
    have := PEq.at (j := j) h.2 (by simpa using e)
    simpa using this
  | [], _, _, j, t, _, e => by simp at e
  | _ :: _, [], _, _, _, h, _ => by exact h.elim
  | _ :: _, _ :: _, [], _, _, h, _ => by exact h.elim
theorem PEq.lens : ∀ {ts : List Ty} {as bs : List A}, PEq ν1 ν2 ts as bs → as.length = ts.length ∧ bs.length = ts.length
  | [], [], [], _ => ⟨rfl, rfl⟩
  | _ :: ts, _ :: as, _ :: bs, h => by have := PEq.lens h.2; simp [this.1, this.2]
  | [], [], _ :: _, h => h.elim
  | [], _ :: _, _, h => h.elim
  | _ :: _, [], _, h => h.elim
  | _ :: _, _ :: _, [], h => h.elim
theorem PEq.of_den : ∀ {ts : List Ty} {as bs : List A}, as.length = ts.length → as.map (A.den ν1) = bs.map (A.den ν2) → PEq ν1 ν2 ts as bs
  | [], [], [], _, _ => trivial
  | t :: ts, a :: as, b :: bs, hl, h => by
    simp only [List.map_cons, List.cons.injEq] at h
    exact ⟨Ty.eqAt_of h.1, PEq.of_den (by simpa using hl) h.2⟩
  | [], [], _ :: _, _, h => by simp at h
  | _ :: _, _ :: _, [], _, h => by simp at h
  | [], _ :: _, _, h, _ => by simp at h
  | _ :: _, [], _, h, _ => by simp at h

section
variable {p : A → Bool} {tys : List Ty} {as bs : List A} (hp : ∀ a, p a = true → a.den ν1 = a.den ν2) (h : PEq ν1 ν2 tys as bs)
include hp h

theorem A.inst_to {t : Ty} {a : A} (ha : a.tyOk p tys t = true) : t.eqAt ((a.inst as).den ν1) ((a.inst bs).den ν2) := by
  cases a with
  | h j =>
    simp only [A.tyOk, Bool.and_eq_true, decide_eq_true_eq] at ha
    obtain ⟨h1, h2⟩ := ha
    rw [List.getElem?_eq_getElem h2] at h1
    have := Ty.beq_eq (show t.beq tys[j] = true from h1)
    exact h.at (by rw [this]; exact List.getElem?_eq_getElem h2)
  | r i => exact Ty.eqAt_of (hp _ ha)
  | z n => exact Ty.eqAt_of (hp _ ha)
  | t b => exact Ty.eqAt_of (hp _ ha)
theorem A.inst_int {a : A} (ha : a.tyOk p tys .i = true) : (a.inst bs).int ν2 = (a.inst as).int ν1 := (A.inst_to hp h ha).symm
theorem A.inst_bool {a : A} (ha : a.tyOk p tys .b = true) : (a.inst bs).bool ν2 = (a.inst as).bool ν1 := (A.inst_to hp h ha).symm
theorem A.inst_cells {a : A} (ha : a.tyOk p tys .l = true) : (a.inst bs).cells ν2 = (a.inst as).cells ν1 := (A.inst_to hp h ha).symm

theorem Off.inst_to {o : Off} (ho : o.tyOk p tys = true) : (o.inst bs).val ν2 = (o.inst as).val ν1 ∧ ((o.inst as).good ν1 → (o.inst bs).good ν2) := by
  cases o with
  | c n => exact ⟨rfl, id⟩
  | s b ix sz len =>
    have e := A.inst_int hp h (show ix.tyOk p tys .i = true from ho)
    exact ⟨by simp only [Off.inst, Off.val, e], by simp only [Off.inst, Off.good, e]; exact id⟩
  | v b ix sz a =>
    simp only [Off.tyOk, Bool.and_eq_true] at ho
    have e := A.inst_int hp h ho.1
    have e2 := A.inst_cells hp h ho.2
    exact ⟨by simp only [Off.inst, Off.val, e], by simp only [Off.inst, Off.good, e, e2]; exact id⟩
  | d b ix sz len ix2 sz2 len2 =>
    simp only [Off.tyOk, Bool.and_eq_true] at ho
    have e := A.inst_int hp h ho.1
    have e2 := A.inst_int hp h ho.2
    exact ⟨by simp only [Off.inst, Off.val, e, e2], by simp only [Off.inst, Off.good, e, e2]; exact id⟩

theorem Lf.inst_to {l : Lf} (hl : l.tyOk p tys = true) : (∀ ρ, (l.inst bs).conc ν2 ρ = (l.inst as).conc ν1 ρ) ∧ ((l.inst as).good ν1 → (l.inst bs).good ν2) := by
  cases l with
  | i k a => exact ⟨fun ρ => by simp only [Lf.inst, Lf.conc, A.inst_int hp h (show a.tyOk p tys .i = true from hl)], fun _ => trivial⟩
  | b a => exact ⟨fun ρ => by simp only [Lf.inst, Lf.conc, A.inst_bool hp h (show a.tyOk p tys .b = true from hl)], fun _ => trivial⟩
  | p blk off =>
    obtain ⟨e1, e2⟩ := Off.inst_to hp h (show off.tyOk p tys = true from hl)
    exact ⟨fun ρ => by simp only [Lf.inst, Lf.conc, e1], e2⟩
  | gp g off =>
    obtain ⟨e1, e2⟩ := Off.inst_to hp h (show off.tyOk p tys = true from hl)
    exact ⟨fun ρ => by simp only [Lf.inst, Lf.conc, e1], e2⟩
  | nilp => exact ⟨fun _ => rfl, id⟩
  | vec b => exact ⟨fun _ => rfl, id⟩
  | fnp f bs => exact ⟨fun _ => rfl, id⟩
  | v x => exact ⟨fun _ => rfl, id⟩

theorem Lfs.inst_to : ∀ {l : List Lf}, l.all (Lf.tyOk p tys) = true → (∀ ρ, (l.map (Lf.inst bs)).map (Lf.conc ν2 ρ) = (l.map (Lf.inst as)).map (Lf.conc ν1 ρ)) ∧ ((∀ x ∈ l.map (Lf.inst as), Lf.good ν1 x) → ∀ x ∈ l.map (Lf.inst bs), Lf.good ν2 x)
  | [], _ => ⟨fun _ => rfl, fun _ x hx => by cases hx⟩
  | x :: l, hl => by
    simp only [List.all_cons, Bool.and_eq_true] at hl
    obtain ⟨h1, h2⟩ := Lf.inst_to hp h hl.1
    obtain ⟨h3, h4⟩ := Lfs.inst_to hl.2
    refine ⟨fun ρ => by simp only [List.map_cons, h1 ρ, h3 ρ], fun hg z hz => ?_⟩
    simp only [List.map_cons] at hg hz
    rcases List.mem_cons.1 hz with rfl | hz
    · exact h2 (hg _ (by simp))
    · exact h4 (fun u hu => hg u (List.mem_cons_of_mem _ hu)) z hz

theorem V1.inst_to {v : V1} (hv : v.tyOk p tys = true) : (∀ ρ, (v.inst bs).conc ν2 ρ = (v.inst as).conc ν1 ρ) ∧ ((v.inst as).good ν1 → (v.inst bs).good ν2) := by
  cases v with
  | one l =>
    obtain ⟨h1, h2⟩ := Lf.inst_to hp h (l := l) (by simpa [V1.tyOk, V1.cells] using hv)
    exact ⟨fun ρ => h1 ρ, fun g => V1.good_one.2 (h2 (V1.good_one.1 g))⟩
  | agg l =>
    obtain ⟨h1, h2⟩ := Lfs.inst_to hp h (l := l) hv
    exact ⟨fun ρ => by simp only [V1.inst, V1.conc, h1 ρ], fun g => V1.good_agg.2 (h2 (V1.good_agg.1 g))⟩
theorem V1s.inst_to : ∀ {l : List V1}, l.all (V1.tyOk p tys) = true → (∀ ρ, (l.map (V1.inst bs)).map (V1.conc ν2 ρ) = (l.map (V1.inst as)).map (V1.conc ν1 ρ)) ∧ ((∀ x ∈ l.map (V1.inst as), V1.good ν1 x) → ∀ x ∈ l.map (V1.inst bs), V1.good ν2 x)
  | [], _ => ⟨fun _ => rfl, fun _ x hx => by cases hx⟩
  | x :: l, hl => by
    simp only [List.all_cons, Bool.and_eq_true] at hl
    obtain ⟨h1, h2⟩ := V1.inst_to hp h hl.1
    obtain ⟨h3, h4⟩ := V1s.inst_to hl.2
    refine ⟨fun ρ => by simp only [List.map_cons, h1 ρ, h3 ρ], fun hg z hz => ?_⟩
    simp only [List.map_cons] at hg hz
    rcases List.mem_cons.1 hz with rfl | hz
    · exact h2 (hg _ (by simp))
    · exact h4 (fun u hu => hg u (List.mem_cons_of_mem _ hu)) z hz
theorem V.inst_to {v : V} (hv : v.tyOk p tys = true) : (∀ ρ, (v.inst bs).conc ν2 ρ = (v.inst as).conc ν1 ρ) ∧ ((v.inst as).good ν1 → (v.inst bs).good ν2) := by
  cases v with
  | s v => exact V1.inst_to hp h (v := v) hv
  | t l =>
    obtain ⟨h1, h2⟩ := V1s.inst_to hp h (l := l) hv
    exact ⟨fun ρ => by simp only [V.inst, V.conc, h1 ρ], fun g => h2 g⟩

theorem Blk.inst_to {bk : Blk} (hb : bk.tyOk p tys = true) {ρ : Nat → Loc} {w : World} {r : Loc} (hr : BlkRel E ν1 ρ w r (bk.inst as)) : BlkRel E ν2 ρ w r (bk.inst bs) := by
  cases bk with
  | c o cs =>
    have hr : CBlk ν1 ρ w r o (cs.map (Option.map (Lf.inst as))) := hr
    refine (⟨hr.nil, hr.lt, fun i l hl => ?_, fun ho i hi => hr.own ho i (by simpa using hi)⟩ : CBlk ν2 ρ w r o (cs.map (Option.map (Lf.inst bs))))
    rw [nth_map] at hl
    obtain ⟨x, hx, rfl⟩ := Option.map_eq_some_iff.1 hl
    have hall : cs.all (optAll (Lf.tyOk p tys)) = true := hb
    have hx2 : x.tyOk p tys = true := all_nth_of hall hx
    obtain ⟨h1, h2⟩ := Lf.inst_to hp h hx2
    obtain ⟨g1, g2⟩ := hr.cell i (x.inst as) (by rw [nth_map, hx]; rfl)
    exact ⟨h2 g1, by rw [h1 ρ]; exact g2⟩
  | v o ts a =>
    have hr : VRel E w r o ts ((a.inst as).cells ν1) := hr
    show VRel E w r o ts ((a.inst bs).cells ν2)
    rw [A.inst_cells hp h (show a.tyOk p tys .l = true from hb)]
    exact hr
end

theorem Blk.inst_own (ops : List A) (bk : Blk) : (bk.inst ops).own = bk.own := by cases bk <;> rfl
section
variable {p : A → Bool} {tys : List Ty} {as bs : List A} (hp : ∀ a, p a = true → a.den ν1 = a.den ν2) (h : PEq ν1 ν2 tys as bs)
include hp h
theorem HRel.inst {ρ : Nat → Loc} {hp0 : List (Option Blk)} {w : World} (ht : hp0.all (optAll (Blk.tyOk p tys)) = true) (hr : HRel E ν1 ρ (hp0.map (Option.map (Blk.inst as))) w) :
    HRel E ν2 ρ (hp0.map (Option.map (Blk.inst bs))) w := by
  refine ⟨fun j bk hj => ?_, fun j j' bk bk' hj ho hj' => ?_⟩
  · rw [nth_map] at hj
    obtain ⟨x, hx, rfl⟩ := Option.map_eq_some_iff.1 hj
    exact Blk.inst_to hp h (all_nth_of ht hx) (hr.blk j (x.inst as) (by rw [nth_map, hx]; rfl))
  · rw [nth_map] at hj hj'
    obtain ⟨x, hx, rfl⟩ := Option.map_eq_some_iff.1 hj
    obtain ⟨y, hy, rfl⟩ := Option.map_eq_some_iff.1 hj'
    exact hr.apart j j' (x.inst as) (y.inst as) (by rw [nth_map, hx]; rfl) (by rw [Blk.inst_own] at ho ⊢; exact ho) (by rw [nth_map, hy]; rfl)
omit hp h in
theorem OldF.inst {W V : Nat → Prop} {w0 : World} {ρ : Nat → Loc} {hp0 : List (Option Blk)} (ho : OldF W V w0 ρ (hp0.map (Option.map (Blk.inst as)))) : OldF W V w0 ρ (hp0.map (Option.map (Blk.inst bs))) := by
  intro j bk hj
  rw [nth_map] at hj
  obtain ⟨x, hx, rfl⟩ := Option.map_eq_some_iff.1 hj
  have := ho j (x.inst as) (by rw [nth_map, hx]; rfl)
  rw [Blk.inst_own] at this ⊢
  exact this

theorem RR.inst {ρ : Nat → Loc} {s : St} {a : Act} {w : World} (ht : s.tyOk p tys = true) (hr : RR ν1 E ρ ⟨s.inst as, []⟩ a w) : RR ν2 E ρ ⟨s.inst bs, []⟩ a w := by
  simp only [St.tyOk, Bool.and_eq_true] at ht
  refine ⟨⟨hr.act.defers, by rw [hr.act.size]; simp [St.inst], fun t v ht1 => ?_, fun e he => by cases he⟩, hr.hs.heap.inst hp h ht.2, OldF.inst hr.hs.old, hr.hs.fr, by simpa [St.inst] using hr.hs.len, hr.hs.keep⟩
  simp only [St.inst] at ht1
  rw [nth_map] at ht1
  obtain ⟨x, hx, rfl⟩ := Option.map_eq_some_iff.1 ht1
  obtain ⟨h1, h2⟩ := V.inst_to hp h (all_nth_of ht.1 hx)
  obtain ⟨g1, g2⟩ := hr.act.slot t (x.inst as) (by simp only [St.inst]; rw [nth_map, hx]; rfl)
  exact ⟨h2 g1, by rw [h1 ρ]; exact g2⟩
end
end
end Go.Sx
