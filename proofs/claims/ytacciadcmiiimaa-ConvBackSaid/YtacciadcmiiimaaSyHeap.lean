/- Blocks that come, that go, that are written. -/
import Derived.Test.YtacciadcmiiimaaSyOps
namespace Go.Sx
open Go.RowKit
section
variable {P : Program} {I : World → Prop} {S : Sigs} {F : FEnv} {E : Env} {ν : Nat → DV}

theorem overwrite_conc {ρ : Nat → Loc} : ∀ (l : List Lf) (cs : List Lf) (k o : Nat) (A : Array Value), A.toList = cs.map (Lf.conc ν ρ) →
    (((l.map (Lf.conc ν ρ)).zipIdx k).foldl (fun (cs : Array Value) (p : Value × Nat) => cs.setIfInBounds (o + p.2) p.1) A).toList = (overwrite cs (o + k) l).map (Lf.conc ν ρ)
  | [], cs, k, o, A, h => by simpa [overwrite] using h
  | c :: l, cs, k, o, A, h => by
    simp only [List.map_cons, List.zipIdx_cons, List.foldl_cons, overwrite]
    rw [overwrite_conc l (cs.set (o + k) c) (k + 1) o _ (by simp [h, List.map_set])]
    rfl
theorem overwrite_good : ∀ {l cs : List Lf} {o : Nat}, (∀ x ∈ cs, Lf.good ν x) → (∀ x ∈ l, Lf.good ν x) → ∀ x ∈ overwrite cs o l, Lf.good ν x
  | [], cs, o, h, _ => h
  | c :: l, cs, o, h, h2 => overwrite_good (l := l) (fun x hx => by
      rcases List.mem_or_eq_of_mem_set hx with hx | rfl
      · exact h x hx
      · exact h2 x (by simp)) (fun x hx => h2 x (List.mem_cons_of_mem _ hx))
theorem V1.cells_conc {v : V1} (hok : v.cells.all Lf.ok = true) (ρ : Nat → Loc) : (v.conc ν ρ).cells = (v.cells.map (Lf.conc ν ρ)).toArray := by
  cases v with
  | one l =>
    have h1 : (l.conc ν ρ).oneCell' = true := Lf.ok_conc (by simpa [V1.cells] using hok) ρ
    exact cells_one h1
  | agg l => rfl

theorem fillC_spec {place : Nat → Option (Nat × Nat)} {place' : Nat → Option (Nat × Nat)} (hp : ∀ i, place' i = place i) {ρ : Nat → Loc} : ∀ (ps : List (Nat × V1)) (cs r : List Lf) (A : Array Value),
    A.toList = cs.map (Lf.conc ν ρ) → fillC place cs ps = some r →
    ∃ B, Instr.fill place' A (ps.map fun p => (p.1, p.2.conc ν ρ)) = some B ∧ B.toList = r.map (Lf.conc ν ρ)
  | [], cs, r, A, h, hf => by simp [fillC] at hf; subst hf; exact ⟨A, rfl, h⟩
  | p :: ps, cs, r, A, h, hf => by
    simp only [fillC] at hf
    split at hf
    · cases hf
    · rename_i o sz hpl
      split at hf
      · rename_i hc
        simp only [Bool.and_eq_true] at hc
        obtain ⟨⟨h1, h2⟩, h3⟩ := hc
        have h1 := Nat.eq_of_beq_eq_true h1
        have h2 := Nat.le_of_ble_eq_true h2
        have hcells := V1.cells_conc (ν := ν) h3 ρ
        have hA : A.size = cs.length := by rw [← Array.length_toList, h]; simp
        simp only [List.map_cons, Instr.fill, hp, hpl, hcells]
        rw [if_neg (by simp; omega)]
        refine fillC_spec hp ps _ r _ ?_ hf
        have := overwrite_conc (ν := ν) (ρ := ρ) p.2.cells cs 0 o A h
        rw [Nat.add_zero] at this
        rw [← this, ← Array.foldl_toList]
        simp
      · cases hf

theorem fillC_good {place : Nat → Option (Nat × Nat)} : ∀ (ps : List (Nat × V1)) (cs r : List Lf), (∀ x ∈ cs, Lf.good ν x) → (∀ p ∈ ps, p.2.good ν) → fillC place cs ps = some r → ∀ x ∈ r, Lf.good ν x
  | [], cs, r, h, _, hf => by simp [fillC] at hf; subst hf; exact h
  | p :: ps, cs, r, h, hg, hf => by
    simp only [fillC] at hf
    split at hf
    · cases hf
    · split at hf
      · exact fillC_good ps _ r (overwrite_good h (hg p (by simp))) (fun q hq => hg q (List.mem_cons_of_mem _ hq)) hf
      · cases hf

/-! ### A new block, and one written -/
def ext (ρ : Nat → Loc) (n : Nat) (x : Loc) : Nat → Loc := fun j => if j = n then x else ρ j
theorem ext_same (ρ : Nat → Loc) (n : Nat) (x : Loc) : ext ρ n x n = x := by simp [ext]
theorem ext_lt {ρ : Nat → Loc} {n j : Nat} {x : Loc} (h : j < n) : ext ρ n x j = ρ j := by simp [ext]; intro e; omega
theorem Lf.conc_ext {ρ : Nat → Loc} {n : Nat} {x : Loc} {l : Lf} (h : l.lt n = true) : l.conc ν (ext ρ n x) = l.conc ν ρ := by
  cases l <;> simp only [Lf.lt, decide_eq_true_eq] at h <;> simp only [Lf.conc]
  · rw [ext_lt h]
  · rw [ext_lt h]
  · rw [capsConc_lt h fun k hk => ext_lt hk]

theorem HS.new {ρ : Nat → Loc} {hp : List (Option Blk)} {w : World} (h : HS E ν ρ hp w) (hlt : hp.all (optAll (Blk.lt hp.length)) = true) {cs : List Lf} (hcs : cs.all (Lf.lt hp.length) = true) (hg : ∀ l ∈ cs, Lf.good ν l) (el : TypeId) :
    HS E ν (ext ρ hp.length ⟨w.heap.size, 0, false, 0, 0⟩) (hp ++ [some (.c true (cs.map some))]) (w.alloc (.cells (cs.map (Lf.conc ν ρ)).toArray el)) := by
  have hcase : ∀ j bk, nth (hp ++ [some (.c true (cs.map some))]) j = some bk → (nth hp j = some bk ∧ j < hp.length) ∨ (j = hp.length ∧ bk = .c true (cs.map some)) := by
    intro j bk hj
    rw [nth_append] at hj
    split at hj
    · exact .inl ⟨hj, nth_lt hj⟩
    · right
      have : j - hp.length = 0 := by
        cases hk : j - hp.length with
        | zero => rfl
        | succ k => rw [hk] at hj; cases k <;> cases hj
      rw [this] at hj
      cases hj
      exact ⟨by omega, rfl⟩
  have hb : Below w.heap.size w (w.alloc (.cells (cs.map (Lf.conc ν ρ)).toArray el)) := ⟨rfl, rfl, rfl, by simp, fun k hk => Below.heap_alloc _ _ _ hk⟩
  refine ⟨⟨fun j bk hj => ?_, fun j j' bk bk' hj ho hj' hne hn1 hn2 => ?_⟩, fun j bk hj => ?_, h.fr.trans (Fr.of_below hb), by rw [List.length_append]; have := h.len; omega, fun j hj => by rw [ext_lt (by have := h.len; omega)]; exact h.keep j hj⟩
  · rcases hcase j bk hj with ⟨hj, hjl⟩ | ⟨rfl, rfl⟩
    · rw [ext_lt hjl]
      exact (((h.heap.blk j bk hj).of_block hb.size (fun hn => hb.block _ ((h.heap.blk j bk hj).lt hn))).keep (fun k hk => ext_lt hk) (all_nth_of hlt hj))
    · rw [ext_same]
      show CBlk ν (ext ρ hp.length ⟨w.heap.size, 0, false, 0, 0⟩) (w.alloc (.cells (cs.map (Lf.conc ν ρ)).toArray el)) ⟨w.heap.size, 0, false, 0, 0⟩ true (cs.map some)
      refine ⟨rfl, by simp, fun i l hl => ?_, fun _ i hi => ?_⟩
      · rw [nth_map_some] at hl
        have hm := List.mem_of_getElem? hl
        refine ⟨hg l hm, ?_⟩
        rw [Lf.conc_ext (List.all_eq_true.1 hcs l hm)]
        simp only [Nat.zero_add]
        rw [World.cell?_alloc_new]
        simp [hl]
      · simp only [Nat.zero_add]
        rw [World.cell?_alloc_new, World.frozen?_alloc_new]
        simp at hi
        simp [hi]
  · rcases hcase j bk hj with ⟨hj, hjl⟩ | ⟨rfl, rfl⟩
    · rcases hcase j' bk' hj' with ⟨hj', hjl'⟩ | ⟨rfl, rfl⟩
      · rw [ext_lt hjl] at hn1 ⊢
        rw [ext_lt hjl'] at hn2 ⊢
        exact h.heap.apart j j' bk bk' hj ho hj' hne hn1 hn2
      · rw [ext_lt hjl] at hn1 ⊢
        rw [ext_same]
        have := (h.heap.blk j bk hj).lt hn1
        simp; omega
    · rcases hcase j' bk' hj' with ⟨hj', hjl'⟩ | ⟨rfl, rfl⟩
      · rw [ext_lt hjl'] at hn2 ⊢
        rw [ext_same]
        have := (h.heap.blk j' bk' hj').lt hn2
        simp; omega
      · exact absurd rfl hne
  · rcases hcase j bk hj with ⟨hj, hjl⟩ | ⟨rfl, rfl⟩
    · rw [ext_lt hjl]; exact h.old j bk hj
    · rw [ext_same]; exact .inr (.inl h.fr.size)

theorem HS.upd {ρ : Nat → Loc} {hp : List (Option Blk)} {w w' : World} (h : HS E ν ρ hp w) {b : Nat} {bk nb : Blk} (hbk : nth hp b = some bk) (ho : bk.own = true) (hnb : nb.own = true)
    (hb : BlkRel E ν ρ w' (ρ b) nb) (hn : (ρ b).nil = false) (hs : w'.heap.size = w.heap.size) (h1 : w'.os = w.os) (h2 : w'.tape = w.tape) (h3 : w'.output = w.output) (hk : ∀ k, k ≠ (ρ b).blk → w'.heap[k]? = w.heap[k]?) :
    HS E ν ρ (setNth (some nb) hp b) w' := by
  have hlt := nth_lt hbk
  have hcase : ∀ j bk', nth (setNth (some nb) hp b) j = some bk' → (j = b ∧ bk' = nb) ∨ (j ≠ b ∧ nth hp j = some bk') := by
    intro j bk' hj
    by_cases hjb : b = j
    · subst hjb
      rw [nth_setNth_same, if_pos hlt] at hj
      cases hj; exact .inl ⟨rfl, rfl⟩
    · rw [nth_setNth_ne _ _ _ _ hjb] at hj
      exact .inr ⟨fun e => hjb e.symm, hj⟩
  refine ⟨⟨fun j bk' hj => ?_, fun j j' bk1 bk2 hj ho1 hj' hne hn1 hn2 => ?_⟩, fun j bk' hj => ?_, ?_, by rw [setNth_length]; exact h.len, h.keep⟩
  · rcases hcase j bk' hj with ⟨rfl, rfl⟩ | ⟨hne, hj⟩
    · exact hb
    · exact (h.heap.blk j bk' hj).of_block (by omega) (fun hnj => hk _ (h.heap.apart b j bk bk' hbk ho hj (Ne.symm hne) hn hnj).symm)
  · rcases hcase j bk1 hj with ⟨e1, e2⟩ | ⟨hq1, k1⟩
    · rcases hcase j' bk2 hj' with ⟨e3, e4⟩ | ⟨hq2, k2⟩
      · exact absurd (e1.trans e3.symm) hne
      · subst e1; exact h.heap.apart j j' bk bk2 hbk ho k2 hne hn1 hn2
    · rcases hcase j' bk2 hj' with ⟨e3, e4⟩ | ⟨hq2, k2⟩
      · subst e3; exact (h.heap.apart j' j bk bk1 hbk ho k1 (Ne.symm hne) hn2 hn1).symm
      · exact h.heap.apart j j' bk1 bk2 k1 ho1 k2 hne hn1 hn2
  · rcases hcase j bk' hj with ⟨rfl, rfl⟩ | ⟨hne, hj⟩
    · rcases h.old j bk hbk with h | h | h | h
      · exact .inl h
      · exact .inr (.inl h)
      · exact .inr (.inr (.inl h))
      · rw [ho] at h; cases h.1
    · exact h.old j bk' hj
  · refine ⟨h1.trans h.fr.os, h2.trans h.fr.tape, h3.trans h.fr.output, by rw [hs]; exact h.fr.size, fun k hkl hW => ?_⟩
    have hkb : k ≠ (ρ b).blk := by
      intro e
      rcases h.old b bk hbk with h' | h' | h' | h'
      · rw [hn] at h'; cases h'
      · omega
      · exact hW (e ▸ h')
      · rw [ho] at h'; cases h'.1
    rw [hk k hkb]; exact h.fr.block k hkl hW


theorem all_setNone {α : Type} {p : Option α → Bool} (hp : p none = true) : ∀ {l : List (Option α)} {n : Nat}, l.all p = true → (setNth none l n).all p = true
  | [], _, _ => rfl
  | x :: l, 0, h => by
    simp only [List.all_cons, Bool.and_eq_true] at h
    simp [setNth, hp, h.2]
  | x :: l, n + 1, h => by
    simp only [List.all_cons, Bool.and_eq_true] at h
    simp [setNth, h.1, all_setNone hp h.2]
theorem hpLt_kill {hp : List (Option Blk)} {b : Nat} (h : hpLt hp = true) : hpLt (setNth none hp b) = true := by
  unfold hpLt at *
  rw [setNth_length]
  exact all_setNone rfl h

theorem nth_kill {α : Type} {l : List (Option α)} {b j : Nat} {x : α} (h : nth (setNth none l b) j = some x) : j ≠ b ∧ nth l j = some x := by
  by_cases hj : b = j
  · subst hj
    rw [nth_setNth_same] at h
    split at h <;> cases h
  · rw [nth_setNth_ne _ _ _ _ hj] at h
    exact ⟨fun e => hj e.symm, h⟩

/-- A block goes, and is written the while. -/
theorem HS.killw {ρ : Nat → Loc} {hp : List (Option Blk)} {w w' : World} (h : HS E ν ρ hp w) {b : Nat} {bk : Blk} (hbk : nth hp b = some bk) (ho : bk.own = true) (hn : (ρ b).nil = false)
    (hs : w'.heap.size = w.heap.size) (h1 : w'.os = w.os) (h2 : w'.tape = w.tape) (h3 : w'.output = w.output) (hk : ∀ k, k ≠ (ρ b).blk → w'.heap[k]? = w.heap[k]?) : HS E ν ρ (setNth none hp b) w' := by
  refine ⟨⟨fun j bk' hj => ?_, fun j j' bk1 bk2 hj ho1 hj' hne hn1 hn2 => ?_⟩, fun j bk' hj => ?_, ?_, by rw [setNth_length]; exact h.len, h.keep⟩
  · obtain ⟨hne, hj⟩ := nth_kill hj
    exact (h.heap.blk j bk' hj).of_block (by omega) (fun hnj => hk _ (h.heap.apart b j bk bk' hbk ho hj (Ne.symm hne) hn hnj).symm)
  · exact h.heap.apart j j' bk1 bk2 (nth_kill hj).2 ho1 (nth_kill hj').2 hne hn1 hn2
  · exact h.old j bk' (nth_kill hj).2
  · refine ⟨h1.trans h.fr.os, h2.trans h.fr.tape, h3.trans h.fr.output, by rw [hs]; exact h.fr.size, fun k hkl hW => ?_⟩
    have hkb : k ≠ (ρ b).blk := by
      intro e
      rcases h.old b bk hbk with h' | h' | h' | h'
      · rw [hn] at h'; cases h'
      · omega
      · exact hW (e ▸ h')
      · rw [ho] at h'; cases h'.1
    rw [hk k hkb]; exact h.fr.block k hkl hW
theorem HS.kill {ρ : Nat → Loc} {hp : List (Option Blk)} {w : World} (h : HS E ν ρ hp w) (b : Nat) : HS E ν ρ (setNth none hp b) w :=
  ⟨⟨fun j bk' hj => h.heap.blk j bk' (nth_kill hj).2, fun j j' bk1 bk2 hj ho1 hj' hne hn1 hn2 => h.heap.apart j j' bk1 bk2 (nth_kill hj).2 ho1 (nth_kill hj').2 hne hn1 hn2⟩,
   fun j bk' hj => h.old j bk' (nth_kill hj).2, h.fr, by rw [setNth_length]; exact h.len, h.keep⟩

/-- A block comes. -/
theorem HS.push {ρ : Nat → Loc} {hp : List (Option Blk)} {w w' : World} (h : HS E ν ρ hp w) (hlt : hpLt hp = true) (hb : Below w.heap.size w w') {bk : Blk} {r : Loc}
    (hrel : BlkRel E ν (ext ρ hp.length r) w' r bk)
    (hap : ∀ j b', nth hp j = some b' → (bk.own = true ∨ b'.own = true) → r.nil = false → (ρ j).nil = false → (ρ j).blk ≠ r.blk)
    (hold : r.nil = true ∨ E.w0.heap.size ≤ r.blk ∨ E.W r.blk ∨ (bk.own = false ∧ E.V r.blk)) : HS E ν (ext ρ hp.length r) (hp ++ [some bk]) w' := by
  have hcase : ∀ j b', nth (hp ++ [some bk]) j = some b' → (nth hp j = some b' ∧ j < hp.length) ∨ (j = hp.length ∧ b' = bk) := by
    intro j b' hj
    rw [nth_append] at hj
    split at hj
    · exact .inl ⟨hj, nth_lt hj⟩
    · right
      have : j - hp.length = 0 := by
        cases hk : j - hp.length with
        | zero => rfl
        | succ k => rw [hk] at hj; cases k <;> cases hj
      rw [this] at hj
      cases hj
      exact ⟨by omega, rfl⟩
  refine ⟨⟨fun j b' hj => ?_, fun j j' b1 b2 hj ho hj' hne hn1 hn2 => ?_⟩, fun j b' hj => ?_, h.fr.trans (Fr.of_below hb), by rw [List.length_append]; have := h.len; omega, fun j hj => by rw [ext_lt (by have := h.len; omega)]; exact h.keep j hj⟩
  · rcases hcase j b' hj with ⟨hj, hjl⟩ | ⟨rfl, rfl⟩
    · rw [ext_lt hjl]
      exact (((h.heap.blk j b' hj).of_block hb.size (fun hn => hb.block _ ((h.heap.blk j b' hj).lt hn))).keep (fun k hk => ext_lt hk) (all_nth_of hlt hj))
    · rw [ext_same]
      exact hrel
  · rcases hcase j b1 hj with ⟨kj, hjl⟩ | ⟨e1, e2⟩
    · rcases hcase j' b2 hj' with ⟨kj', hjl'⟩ | ⟨e3, e4⟩
      · rw [ext_lt hjl] at hn1 ⊢
        rw [ext_lt hjl'] at hn2 ⊢
        exact h.heap.apart j j' b1 b2 kj ho kj' hne hn1 hn2
      · subst e3
        rw [ext_lt hjl] at hn1 ⊢
        rw [ext_same] at hn2 ⊢
        exact hap j b1 kj (.inr ho) hn2 hn1
    · rcases hcase j' b2 hj' with ⟨kj', hjl'⟩ | ⟨e3, e4⟩
      · subst e1
        rw [ext_lt hjl'] at hn2 ⊢
        rw [ext_same] at hn1 ⊢
        exact (hap j' b2 kj' (.inl (by rw [← e2]; exact ho)) hn1 hn2).symm
      · exact absurd (e1.trans e3.symm) hne
  · rcases hcase j b' hj with ⟨hj, hjl⟩ | ⟨rfl, rfl⟩
    · rw [ext_lt hjl]; exact h.old j b' hj
    · rw [ext_same]; exact hold
/-- A new row comes. -/
theorem HS.fresh {ρ : Nat → Loc} {hp : List (Option Blk)} {w w' : World} (h : HS E ν ρ hp w) (hlt : hpLt hp = true) (hb : Below w.heap.size w w') {bk : Blk} {r : Loc}
    (hrel : BlkRel E ν (ext ρ hp.length r) w' r bk) (hr : r.nil = true ∨ w.heap.size ≤ r.blk) : HS E ν (ext ρ hp.length r) (hp ++ [some bk]) w' := by
  refine h.push hlt hb hrel (fun j b' hj _ hn hn' => ?_) ?_
  · have := (h.heap.blk j b' hj).lt hn'
    rcases hr with hr | hr
    · rw [hn] at hr; cases hr
    · omega
  · rcases hr with hr | hr
    · exact .inl hr
    · exact .inr (.inl (Nat.le_trans h.fr.size hr))
/-- Where blocks stand that are none matters not. -/
theorem HS.reloc {ρ ρ' : Nat → Loc} {hp : List (Option Blk)} {w : World} (h : HS E ν ρ hp w) (hlt : hpLt hp = true) (hρ : ∀ j, j < hp.length → ρ' j = ρ j) : HS E ν ρ' hp w := by
  refine ⟨⟨fun j bk hj => ?_, fun j j' b1 b2 hj ho hj' hne hn1 hn2 => ?_⟩, fun j bk hj => ?_, h.fr, h.len, fun j hj => by rw [hρ j (by have := h.len; omega)]; exact h.keep j hj⟩
  · rw [hρ j (nth_lt hj)]
    exact (h.heap.blk j bk hj).keep hρ (all_nth_of hlt hj)
  · rw [hρ j (nth_lt hj)] at hn1 ⊢
    rw [hρ j' (nth_lt hj')] at hn2 ⊢
    exact h.heap.apart j j' b1 b2 hj ho hj' hne hn1 hn2
  · rw [hρ j (nth_lt hj)]
    exact h.old j bk hj
end
end Go.Sx
