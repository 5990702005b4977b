/- Regions, code, a whole function: the evaluator agrees with the model. -/
import Derived.Test.YtoebecinndbnoaaDoorSxStep
import Derived.Deep.Quiet
namespace Go.Sx
open Go.RowKit
section
variable {P : Program} {I : World → Prop} {S : Sigs} {F : FEnv} {ν : Nat → DV} {W : Nat → Prop} {w0 : World}

structure RR (ν : Nat → DV) (W : Nat → Prop) (w0 : World) (ρ : Nat → Nat × Nat) (r : RS) (a : Act) (w : World) : Prop where
  act : ARel ν ρ r a
  heap : HRel ν ρ r.st.hp w
  own : OwnF W w0 ρ r.st.hp
  fr : Fr W w0 w

theorem put_none (a : Act) (v : Value) : a.put none v = a := rfl
theorem put_some (a : Act) (d : Nat) (v : Value) : a.put (some d) v = { a with tmps := a.tmps.setIfInBounds d v } := rfl

theorem glNoGuard_spec {d : Nat} {l : List GE} (h : glNoGuard d l = true) : ∀ e ∈ l, e.d ≠ d := by
  intro e he hd
  have := List.all_eq_true.1 h e he
  simp [hd] at this
theorem glDrop_spec {t : Nat} {l : List GE} {e : GE} (h : e ∈ glDrop t l) : e ∈ l ∧ e.t ≠ t := by
  unfold glDrop at h
  have := List.mem_filter.1 h
  refine ⟨this.1, fun ht => ?_⟩
  have h2 := this.2
  simp [ht] at h2

theorem put_sat {r : RS} {dst : Option Tmp} {ov : Option V} : M.sat F ν (r.put dst ov) (fun r' => r'.st.hp = r.st.hp ∧ ∀ ρ a (x : Value), ARel ν ρ r a → (∀ v, ov = some v → v.good ν ∧ x = v.conc ν ρ) →
    ARel ν ρ r' (a.put dst x)) := by
  unfold RS.put
  cases dst with
  | none => exact sat_pure ⟨rfl, fun ρ a x h _ => h⟩
  | some d =>
    refine sat_ite (fun hn => sat_pure ⟨rfl, fun ρ a x h hv => ?_⟩) (fun _ => sat_fail)
    have hn := glNoGuard_spec hn
    refine ⟨h.defers, by simp [put_some, setNth_length, h.size], fun t v ht => ?_, fun e he => ?_⟩
    · by_cases htd : d = t
      · subst htd
        simp only at ht
        rw [nth_setNth_same] at ht
        split at ht
        · rename_i hlt
          obtain ⟨h1, h2⟩ := hv v ht
          refine ⟨h1, ?_⟩
          rw [put_some, h2]
          simp [h.size, hlt]
        · cases ht
      · simp only at ht
        rw [nth_setNth_ne _ _ _ _ htd] at ht
        have := h.slot t v ht
        refine ⟨this.1, ?_⟩
        rw [put_some]
        simp only
        rw [Array.getElem?_setIfInBounds_ne htd]
        exact this.2
    · obtain ⟨h1, h2⟩ := glDrop_spec he
      have hd := hn e h1
      have := h.gl e h1
      rw [put_some]
      simp only
      rw [Array.getElem?_setIfInBounds_ne (Ne.symm hd), Array.getElem?_setIfInBounds_ne (Ne.symm h2)]
      exact this

theorem putG_sat {r : RS} {dst : Option Tmp} {v : V} {d : Nat} {want : Bool} : M.sat F ν (r.putG dst v d want) (fun r' => r'.st.hp = r.st.hp ∧ ∀ ρ a (x : Value), ARel ν ρ r a →
    (a.tmps[d]? = some (.bool want) → v.good ν ∧ x = v.conc ν ρ) → (a.tmps[d]? ≠ some (.bool want) → x = undef) → ARel ν ρ r' (a.put dst x)) := by
  unfold RS.putG
  cases dst with
  | none => exact sat_pure ⟨rfl, fun ρ a x h _ _ => h⟩
  | some t =>
    refine sat_ite (fun hc => sat_pure ⟨rfl, fun ρ a x h h1 h2 => ?_⟩) (fun _ => sat_fail)
    simp only [Bool.and_eq_true, Bool.not_eq_true', decide_eq_true_eq] at hc
    obtain ⟨⟨hn, htd⟩, hlt⟩ := hc
    have hn := glNoGuard_spec hn
    have htd : t ≠ d := by intro e; subst e; simp at htd
    have hd : (a.put (some t) x).tmps[d]? = a.tmps[d]? := by
      rw [put_some]; simp only; rw [Array.getElem?_setIfInBounds_ne htd]
    have ht : (a.put (some t) x).tmps[t]? = some x := by
      rw [put_some]; simp [h.size, hlt]
    refine ⟨h.defers, by simp [put_some, setNth_length, h.size], fun t' v' ht' => ?_, fun e he => ?_⟩
    · by_cases hne : t = t'
      · subst hne
        simp only at ht'
        rw [nth_setNth_same] at ht'
        split at ht' <;> cases ht'
      · simp only at ht'
        rw [nth_setNth_ne _ _ _ _ hne] at ht'
        have := h.slot t' v' ht'
        refine ⟨this.1, ?_⟩
        rw [put_some]; simp only; rw [Array.getElem?_setIfInBounds_ne hne]
        exact this.2
    · rcases List.mem_cons.1 he with rfl | he
      · simp only [hd, ht]
        exact ⟨fun hw => by obtain ⟨g1, g2⟩ := h1 hw; exact ⟨g1, by rw [g2]⟩, fun hw => by rw [h2 hw]⟩
      · obtain ⟨h3, h4⟩ := glDrop_spec he
        have hd := hn e h3
        have := h.gl e h3
        rw [put_some]
        simp only
        rw [Array.getElem?_setIfInBounds_ne (Ne.symm hd), Array.getElem?_setIfInBounds_ne (Ne.symm h4)]
        exact this

/-! ### Guards -/
theorem glEntry_spec {t : Nat} : ∀ {l : List GE} {e : GE}, glEntry t l = some e → e ∈ l ∧ e.t = t
  | [], _, h => by simp [glEntry] at h
  | x :: l, e, h => by
    simp only [glEntry] at h
    split at h
    · cases h; exact ⟨by simp, Nat.eq_of_beq_eq_true ‹_›⟩
    · obtain ⟨h1, h2⟩ := glEntry_spec h
      exact ⟨List.mem_cons_of_mem _ h1, h2⟩

def GInfo (ν : Nat → DV) (a : Act) (d : Nat) (want : Bool) : Option (Ctx × List (A × Bool)) → Prop
  | none => a.tmps[d]? ≠ some (.bool want)
  | some (ctx, cs) => (a.tmps[d]? = some (.bool want) → CtxOk ctx a ∧ ∀ c ∈ cs, c.1.bool ν = c.2) ∧ (ctx = [] → a.tmps[d]? = some (.bool want))

theorem guardInfo_spec {ρ : Nat → Nat × Nat} {r : RS} {a : Act} (h : ARel ν ρ r a) : ∀ (n d : Nat) (want : Bool) {res : Option (Ctx × List (A × Bool))}, guardInfo r n d want = some res → GInfo ν a d want res
  | 0, _, _, _, hg => by simp [guardInfo] at hg
  | n + 1, d, want, res, hg => by
    simp only [guardInfo] at hg
    split at hg
    · rename_i x hs
      have hv := (h.slot d _ hs).2
      split at hg
      · rename_i hb
        have := beqB_eq hb; subst this
        cases hg
        exact ⟨fun _ => ⟨fun p hp => by simp at hp, fun c hc => by simp at hc⟩, fun _ => hv⟩
      · rename_i hb
        cases hg
        have hne := beqB_ne hb
        intro heq
        rw [hv] at heq
        simp [V.conc, V1.conc, Lf.conc] at heq
        exact hne heq
    · rename_i x _ hs
      have hv := (h.slot d _ hs).2
      cases hg
      refine ⟨fun heq => ⟨fun p hp => by simp at hp; subst hp; exact heq, fun c hc => ?_⟩, fun hc => by simp at hc⟩
      simp at hc; subst hc
      rw [hv] at heq
      simpa [V.conc, V1.conc, Lf.conc] using heq
    · cases hg
    · split at hg
      · rename_i e he
        obtain ⟨hmem, rfl⟩ := glEntry_spec he
        have hgl := h.gl e hmem
        split at hg
        · rename_i x hev
          split at hg
          · rename_i ctx cs hrec
            have ih := guardInfo_spec h n e.d e.want hrec
            have hguard : ∀ b, a.tmps[e.t]? = some (.bool b) → a.tmps[e.d]? = some (.bool e.want) := fun b hb => by
              by_cases hw : a.tmps[e.d]? = some (.bool e.want)
              · exact hw
              · have := hgl.2 hw
                rw [this] at hb
                simp [undef] at hb
            split at hg
            · rename_i y
              split at hg
              · rename_i hb
                have := beqB_eq hb; subst this
                cases hg
                refine ⟨fun heq => ?_, fun hc => by simp at hc⟩
                have h1 := ih.1 (hguard _ heq)
                refine ⟨fun p hp => ?_, h1.2⟩
                rcases List.mem_cons.1 hp with rfl | hp
                · exact heq
                · exact h1.1 p hp
              · rename_i hb
                cases hg
                intro heq
                have h1 := (hgl.1 (hguard _ heq)).2
                rw [h1, hev] at heq
                simp [V.conc, V1.conc, Lf.conc] at heq
                exact beqB_ne hb heq
            · cases hg
              refine ⟨fun heq => ?_, fun hc => by simp at hc⟩
              have h1 := ih.1 (hguard _ heq)
              refine ⟨fun p hp => ?_, fun c hc => ?_⟩
              · rcases List.mem_cons.1 hp with rfl | hp
                · exact heq
                · exact h1.1 p hp
              · rcases List.mem_cons.1 hc with rfl | hc
                · have h2 := (hgl.1 (hguard _ heq)).2
                  rw [h2, hev] at heq
                  simpa [V.conc, V1.conc, Lf.conc] using heq
                · exact h1.2 c hc
          · rename_i hrec
            cases hg
            have ih := guardInfo_spec h n e.d e.want hrec
            intro heq
            have := hgl.2 ih
            rw [this] at heq
            simp [undef] at heq
          · cases hg
        · cases hg
      · cases hg

theorem wanted_spec {o : Oper} {ops : Array Oper} {a : Act} {j d : Nat} {want : Bool} (hg : o.guard = some (j, want)) (hd : (ops[j]?).bind (·.dst) = some d) :
    Region.wanted o (yielded ops a.tmps) = true ↔ a.tmps[d]? = some (.bool want) := by
  simp only [Region.wanted, hg, yielded, hd, Option.bind_some]
  cases ht : a.tmps[d]? with
  | none => simp
  | some v => cases v <;> simp

/-! ### A new block -/
def ext (ρ : Nat → Nat × Nat) (n : Nat) (x : Nat × Nat) : Nat → Nat × Nat := fun j => if j = n then x else ρ j
theorem ext_same (ρ : Nat → Nat × Nat) (n : Nat) (x : Nat × Nat) : ext ρ n x n = x := by simp [ext]
theorem ext_lt {ρ : Nat → Nat × Nat} {n j : Nat} {x : Nat × Nat} (h : j < n) : ext ρ n x j = ρ j := by simp [ext]; intro e; omega

theorem Lf.conc_ext {ρ : Nat → Nat × Nat} {n : Nat} {x : Nat × Nat} {l : Lf} (h : l.lt n = true) : l.conc ν (ext ρ n x) = l.conc ν ρ := by
  cases l <;> simp [Lf.lt] at h <;> simp [Lf.conc]
  rename_i blk off
  rw [ext_lt h]; exact ⟨rfl, rfl⟩
theorem V1.conc_ext {ρ : Nat → Nat × Nat} {n : Nat} {x : Nat × Nat} {v : V1} (h : v.lt n = true) : v.conc ν (ext ρ n x) = v.conc ν ρ := by
  cases v with
  | one l => exact Lf.conc_ext (by simpa [V1.lt, V1.cells] using h)
  | agg l =>
    simp only [V1.conc]
    congr 2
    exact List.map_congr_left fun y hy => Lf.conc_ext (List.all_eq_true.1 h y hy)
theorem V.conc_ext {ρ : Nat → Nat × Nat} {n : Nat} {x : Nat × Nat} {v : V} (h : v.lt n = true) : v.conc ν (ext ρ n x) = v.conc ν ρ := by
  cases v with
  | s v => exact V1.conc_ext h
  | t l =>
    simp only [V.conc]
    congr 2
    exact List.map_congr_left fun y hy => V1.conc_ext (List.all_eq_true.1 h y hy)

theorem all_nth {α : Type} {p : α → Bool} : ∀ {l : List (Option α)} {i : Nat} {x : α}, l.all (optAll p) = true → nth l i = some x → p x = true
  | [], i, x, _, h => by cases i <;> cases h
  | c :: l, 0, x, h, hx => by
    simp only [List.all_cons, Bool.and_eq_true] at h
    cases hx
    exact h.1
  | c :: l, i + 1, x, h, hx => by
    simp only [List.all_cons, Bool.and_eq_true] at h
    exact all_nth h.2 hx

theorem RR.new {ρ : Nat → Nat × Nat} {r : RS} {a : Act} {w : World} (h : RR ν W w0 ρ r a w) {cs : List Lf} (hlt : r.st.lt r.st.hp.length = true) (hgl : r.gl.all (fun e => e.v.lt r.st.hp.length) = true)
    (hcs : cs.all (Lf.lt r.st.hp.length) = true) (hg : ∀ l ∈ cs, Lf.good ν l) (el : TypeId) :
    RR ν W w0 (ext ρ r.st.hp.length (w.heap.size, 0)) ⟨⟨r.st.sl, r.st.hp ++ [some ⟨true, cs.map some⟩]⟩, r.gl⟩ a (w.alloc (.cells (cs.map (Lf.conc ν ρ)).toArray el)) := by
  simp only [St.lt, Bool.and_eq_true] at hlt
  have hold : ∀ j bk, nth r.st.hp j = some bk → j < r.st.hp.length ∧ ext ρ r.st.hp.length (w.heap.size, 0) j = ρ j ∧ BlkRel ν (ext ρ r.st.hp.length (w.heap.size, 0)) (w.alloc (.cells (cs.map (Lf.conc ν ρ)).toArray el)) j bk := by
    intro j bk hj
    have hjl := nth_lt hj
    have he := ext_lt (ρ := ρ) (x := (w.heap.size, 0)) hjl
    have hb := h.heap.blk j bk hj
    have hne : (ρ j).1 ≠ w.heap.size := by have := hb.lt; omega
    have hbl : bk.lt r.st.hp.length = true := all_nth hlt.2 hj
    refine ⟨hjl, he, ?_, ?_, ?_⟩
    · rw [he]; have := hb.lt; simp; omega
    · intro i l hl
      obtain ⟨g1, g2⟩ := hb.cell i l hl
      have hll : l.lt r.st.hp.length = true := all_nth hbl hl
      rw [he, Lf.conc_ext hll, World.cell?_alloc_old _ _ _ (by exact hne)]
      exact ⟨g1, g2⟩
    · intro ho i hi
      rw [he, World.cell?_alloc_old _ _ _ (by exact hne), World.frozen?_alloc_old _ _ _ (by exact hne)]
      exact hb.own ho i hi
  have hcase : ∀ j bk, nth (r.st.hp ++ [some ⟨true, cs.map some⟩]) j = some bk → nth r.st.hp j = some bk ∨ (j = r.st.hp.length ∧ bk = ⟨true, cs.map some⟩) := by
    intro j bk hj
    rw [nth_append] at hj
    split at hj
    · exact .inl hj
    · right
      have : j - r.st.hp.length = 0 := by
        cases hk : j - r.st.hp.length with
        | zero => rfl
        | succ k => rw [hk] at hj; cases k <;> cases hj
      rw [this] at hj
      cases hj
      exact ⟨by omega, rfl⟩
  refine ⟨⟨h.act.defers, h.act.size, fun t v ht => ?_, fun e he => ?_⟩, ⟨fun j bk hj => ?_, fun j j' bk bk' hj ho hj' hne => ?_⟩, fun j bk hj ho => ?_, ?_⟩
  · obtain ⟨g1, g2⟩ := h.act.slot t v ht
    refine ⟨g1, ?_⟩
    rw [V.conc_ext (all_nth hlt.1 ht)]; exact g2
  · obtain ⟨g1, g2⟩ := h.act.gl e he
    rw [V.conc_ext (List.all_eq_true.1 hgl e he)]
    exact ⟨g1, g2⟩
  · rcases hcase j bk hj with hj | ⟨rfl, rfl⟩
    · exact (hold j bk hj).2.2
    · refine ⟨by rw [ext_same]; simp, fun i l hl => ?_, fun _ i hi => ?_⟩
      · rw [nth_map_some] at hl
        have hm := List.mem_of_getElem? hl
        refine ⟨hg l hm, ?_⟩
        rw [ext_same, Lf.conc_ext (List.all_eq_true.1 hcs l hm)]
        simp only [Nat.zero_add]
        rw [World.cell?_alloc_new]
        simp [hl]
      · rw [ext_same]
        simp only [Nat.zero_add]
        rw [World.cell?_alloc_new, World.frozen?_alloc_new]
        simp at hi
        simp [hi]
  · rcases hcase j bk hj with hj | ⟨rfl, rfl⟩
    · rcases hcase j' bk' hj' with hj' | ⟨rfl, rfl⟩
      · rw [(hold j bk hj).2.1, (hold j' bk' hj').2.1]
        exact h.heap.apart j j' bk bk' hj ho hj' hne
      · rw [(hold j bk hj).2.1, ext_same]
        have := (h.heap.blk j bk hj).lt
        simp; omega
    · rcases hcase j' bk' hj' with hj' | ⟨rfl, rfl⟩
      · rw [(hold j' bk' hj').2.1, ext_same]
        have := (h.heap.blk j' bk' hj').lt
        simp; omega
      · exact absurd rfl hne
  · rcases hcase j bk hj with hj | ⟨rfl, rfl⟩
    · rw [(hold j bk hj).2.1]; exact h.own j bk hj ho
    · rw [ext_same]; left; exact h.fr.size
  · exact h.fr.trans ⟨rfl, rfl, rfl, by simp, fun b hb _ => Below.heap_alloc _ _ _ hb⟩

theorem RR.upd {ρ : Nat → Nat × Nat} {r : RS} {a : Act} {w w' : World} (h : RR ν W w0 ρ r a w) {b : Nat} {cs : List (Option Lf)} {bk : Blk} (hbk : nth r.st.hp b = some bk) (ho : bk.own = true)
    (hb : BlkRel ν ρ w' b ⟨true, cs⟩) (hs : w'.heap.size = w.heap.size) (h1 : w'.os = w.os) (h2 : w'.tape = w.tape) (h3 : w'.output = w.output) (hk : ∀ k, k ≠ (ρ b).1 → w'.heap[k]? = w.heap[k]?) :
    RR ν W w0 ρ ⟨⟨r.st.sl, setNth (some ⟨true, cs⟩) r.st.hp b⟩, r.gl⟩ a w' := by
  have hlt := nth_lt hbk
  have hcase : ∀ j bk', nth (setNth (some ⟨true, cs⟩) r.st.hp b) j = some bk' → (j = b ∧ bk' = ⟨true, cs⟩) ∨ (j ≠ b ∧ nth r.st.hp j = some bk') := by
    intro j bk' hj
    by_cases hjb : b = j
    · subst hjb
      rw [nth_setNth_same, if_pos hlt] at hj
      cases hj; exact .inl ⟨rfl, rfl⟩
    · rw [nth_setNth_ne _ _ _ _ hjb] at hj
      exact .inr ⟨fun e => hjb e.symm, hj⟩
  have hother : ∀ j bk', j ≠ b → nth r.st.hp j = some bk' → (ρ j).1 ≠ (ρ b).1 := fun j bk' hj hj' => (h.heap.apart b j bk bk' hbk ho hj' (Ne.symm hj)).symm
  refine ⟨⟨h.act.defers, h.act.size, h.act.slot, h.act.gl⟩, ⟨fun j bk' hj => ?_, fun j j' bk1 bk2 hj ho1 hj' hne => ?_⟩, fun j bk' hj ho1 => ?_, ?_⟩
  · rcases hcase j bk' hj with ⟨rfl, rfl⟩ | ⟨hne, hj⟩
    · exact hb
    · exact (h.heap.blk j bk' hj).of_block (by omega) (hk _ (hother j bk' hne hj))
  · rcases hcase j bk1 hj with ⟨e1, e2⟩ | ⟨hn1, k1⟩
    · rcases hcase j' bk2 hj' with ⟨e3, e4⟩ | ⟨hn2, k2⟩
      · exact absurd (e1.trans e3.symm) hne
      · rw [e1]; exact (hother j' bk2 hn2 k2).symm
    · rcases hcase j' bk2 hj' with ⟨e3, e4⟩ | ⟨hn2, k2⟩
      · rw [e3]; exact hother j bk1 hn1 k1
      · exact h.heap.apart j j' bk1 bk2 k1 ho1 k2 hne
  · rcases hcase j bk' hj with ⟨rfl, rfl⟩ | ⟨hne, hj⟩
    · exact h.own j bk hbk ho
    · exact h.own j bk' hj ho1
  · refine ⟨h1.trans h.fr.os, h2.trans h.fr.tape, h3.trans h.fr.output, by rw [hs]; exact h.fr.size, fun k hkl hW => ?_⟩
    have hkb : k ≠ (ρ b).1 := by
      intro e
      rcases h.own b bk hbk ho with h' | h'
      · omega
      · exact hW (e ▸ h')
    rw [hk k hkb]; exact h.fr.block k hkl hW

theorem RR.below {ρ : Nat → Nat × Nat} {r : RS} {a : Act} {w w' : World} (h : RR ν W w0 ρ r a w) (hb : Below w.heap.size w w') : RR ν W w0 ρ r a w' :=
  ⟨h.act, h.heap.of_below hb, h.own, h.fr.trans (Fr.of_below hb)⟩

/-! ### One operation -/
/-- What holds behind the operation o, from a state that r tells. -/
def StepOK (P : Program) (ν : Nat → DV) (W : Nat → Prop) (w0 : World) (ops : Array Oper) (o : Oper) (r r' : RS) : Prop :=
  ∀ ρ a w, RR ν W w0 ρ r a w → ∀ (K : Act → World → Prop) (Q : Exit → Act → World → Prop), (∀ ρ' a' w', RR ν W w0 ρ' r' a' w' → K a' w') →
    if Region.wanted o (yielded ops a.tmps) = true then o.wp P a w K Q else K (a.put o.dst undef) w

/-- The same where the order is drawn: one value in every world. -/
def QuietOK (P : Program) (ν : Nat → DV) (W : Nat → Prop) (w0 : World) (ops : Array Oper) (o : Oper) (r r' : RS) : Prop :=
  r'.st.hp = r.st.hp ∧ ∀ ρ a, ARel ν ρ r a → (∃ w, HRel ν ρ r.st.hp w ∧ Fr W w0 w) → ∀ C : World → Prop, C = (fun w => HRel ν ρ r.st.hp w ∧ Fr W w0 w) →
    if Region.wanted o (yielded ops a.tmps) = true then ∃ v, (∀ w, C w → o.quietAt P a C w v) ∧ ARel ν ρ r' (a.put o.dst v) else ARel ν ρ r' (a.put o.dst undef)

theorem wp_of_val {o : Oper} {a : Act} {w : World} {v : Value} {K : Act → World → Prop} {Q : Exit → Act → World → Prop} (h : RunsVal P (execOp a.eval o) w v)
    (hk : ∀ w', Below w.heap.size w w' → K (a.put o.dst v) w') : o.wp P a w K Q := by
  unfold Oper.wp
  rcases h with h | ⟨f, args, h, hc⟩
  · rw [h]; exact hk w (Below.refl _ _)
  · rw [h]
    exact hc.mono fun e w' ⟨he, hb⟩ => by subst he; exact hk w' hb

theorem stepOR_step (hI : ∀ w, Fr W w0 w → I w) {ops : Array Oper} {o : Oper} {r : RS} {x : OR} (hw : ∀ ρ a, ARel ν ρ r a → Region.wanted o (yielded ops a.tmps) = true)
    (hx : ∀ ρ a, ARel ν ρ r a → ORok P I ν ρ r.st.hp (execOp a.eval o) x) : M.sat F ν (stepOR false r o.dst x) (StepOK P ν W w0 ops o r) := by
  cases x with
  | val v =>
    refine sat_mono put_sat fun r' hr' ρ a w hrr K Q hK => ?_
    rw [if_pos (hw ρ a hrr.act)]
    obtain ⟨hg, hrun⟩ := hx ρ a hrr.act w hrr.heap (hI w hrr.fr)
    refine wp_of_val hrun fun w' hb => hK ρ _ w' ?_
    have := hrr.below hb
    exact ⟨hr'.2 ρ a _ hrr.act (fun v' hv' => by cases hv'; exact ⟨hg, rfl⟩), by rw [hr'.1]; exact this.heap, by rw [hr'.1]; exact this.own, this.fr⟩
  | new cs =>
    unfold stepOR
    refine sat_ite (fun hc => ?_) (fun _ => sat_fail)
    simp only [Bool.not_false, Bool.true_and, Bool.and_eq_true] at hc
    refine sat_mono put_sat fun r' hr' ρ a w hrr K Q hK => ?_
    rw [if_pos (hw ρ a hrr.act)]
    obtain ⟨hg, el, hrun⟩ := hx ρ a hrr.act
    have hnew := hrr.new hc.1.1 hc.1.2 hc.2 hg el
    unfold Oper.wp
    rw [hrun w hrr.heap]
    refine hK _ _ _ ⟨hr'.2 _ a _ hnew.act (fun v' hv' => ?_), by rw [hr'.1]; exact hnew.heap, by rw [hr'.1]; exact hnew.own, hnew.fr⟩
    cases hv'
    refine ⟨V1.good_one.2 trivial, ?_⟩
    simp [V.conc, V1.conc, Lf.conc, ext_same, Off.val]
  | upd b cs =>
    unfold stepOR
    simp only [Bool.false_eq_true, if_false]
    refine sat_mono put_sat fun r' hr' ρ a w hrr K Q hK => ?_
    rw [if_pos (hw ρ a hrr.act)]
    obtain ⟨⟨bk, hbk, ho⟩, hrun⟩ := hx ρ a hrr.act
    obtain ⟨w', h1, h2, h3, h4, h5, h6, h7⟩ := hrun w hrr.heap
    have hupd := hrr.upd hbk ho h2 h3 h4 h5 h6 h7
    unfold Oper.wp
    rw [h1]
    exact hK ρ _ w' ⟨hr'.2 ρ a _ hupd.act (fun v' hv' => by cases hv'), by rw [hr'.1]; exact hupd.heap, by rw [hr'.1]; exact hupd.own, hupd.fr⟩

theorem quiet_of_val {o : Oper} {a : Act} {ρ : Nat → Nat × Nat} {hp : List (Option Blk)} {v : Value} {C : World → Prop} (hC : C = fun w => HRel ν ρ hp w ∧ Fr W w0 w)
    (h : ∀ w, HRel ν ρ hp w → Fr W w0 w → RunsVal P (execOp a.eval o) w v) : ∀ w, C w → o.quietAt P a C w v := by
  intro w hw
  have hw' : HRel ν ρ hp w ∧ Fr W w0 w := by rw [hC] at hw; exact hw
  unfold Oper.quietAt
  rcases h w hw'.1 hw'.2 with h | ⟨f, args, h, hc⟩
  · rw [h]; exact ⟨rfl, rfl⟩
  · rw [h]
    refine ⟨rfl, hc.mono fun e w'' ⟨he, hb⟩ => ⟨he, ?_⟩⟩
    rw [hC]
    exact ⟨hw'.1.of_below hb, hw'.2.trans (Fr.of_below hb)⟩

theorem stepOR_quiet (hI : ∀ w, Fr W w0 w → I w) {ops : Array Oper} {o : Oper} {r : RS} {x : OR} (hw : ∀ ρ a, ARel ν ρ r a → Region.wanted o (yielded ops a.tmps) = true)
    (hx : ∀ ρ a, ARel ν ρ r a → ORok P I ν ρ r.st.hp (execOp a.eval o) x) : M.sat F ν (stepOR true r o.dst x) (QuietOK P ν W w0 ops o r) := by
  cases x with
  | val v =>
    refine sat_mono put_sat fun r' hr' => ⟨hr'.1, fun ρ a ha hex C hC => ?_⟩
    rw [if_pos (hw ρ a ha)]
    obtain ⟨w, hw1⟩ := hex
    refine ⟨v.conc ν ρ, quiet_of_val hC fun w hw hf => (hx ρ a ha w hw (hI w hf)).2, hr'.2 ρ a _ ha fun v' hv' => ?_⟩
    cases hv'; exact ⟨(hx ρ a ha w hw1.1 (hI w hw1.2)).1, rfl⟩
  | new cs => unfold stepOR; simp only [Bool.not_true, Bool.false_and, Bool.false_eq_true, if_false]; exact sat_fail
  | upd b cs => unfold stepOR; simp only [if_true]; exact sat_fail

theorem stepORg_both (hI : ∀ w, Fr W w0 w → I w) {ops : Array Oper} {o : Oper} {r : RS} {d : Nat} {want : Bool} {x : OR} (hw : ∀ (a : Act), Region.wanted o (yielded ops a.tmps) = true ↔ a.tmps[d]? = some (.bool want))
    (hx : ∀ ρ a, ARel ν ρ r a → a.tmps[d]? = some (.bool want) → ORok P I ν ρ r.st.hp (execOp a.eval o) x) :
    M.sat F ν (stepORg r o.dst d want x) (fun r' => StepOK P ν W w0 ops o r r' ∧ QuietOK P ν W w0 ops o r r') := by
  cases x with
  | val v =>
    refine sat_mono putG_sat fun r' hr' => ⟨fun ρ a w hrr K Q hK => ?_, hr'.1, fun ρ a ha hex C hC => ?_⟩
    · by_cases hg : Region.wanted o (yielded ops a.tmps) = true
      · rw [if_pos hg]
        have hd := (hw a).1 hg
        obtain ⟨hgood, hrun⟩ := hx ρ a hrr.act hd w hrr.heap (hI w hrr.fr)
        refine wp_of_val hrun fun w' hb => hK ρ _ w' ?_
        have := hrr.below hb
        exact ⟨hr'.2 ρ a _ hrr.act (fun _ => ⟨hgood, rfl⟩) (fun hn => absurd hd hn), by rw [hr'.1]; exact this.heap, by rw [hr'.1]; exact this.own, this.fr⟩
      · rw [if_neg hg]
        have hd : a.tmps[d]? ≠ some (.bool want) := fun h => hg ((hw a).2 h)
        exact hK ρ _ w ⟨hr'.2 ρ a _ hrr.act (fun h => absurd h hd) (fun _ => rfl), by rw [hr'.1]; exact hrr.heap, by rw [hr'.1]; exact hrr.own, hrr.fr⟩
    · by_cases hg : Region.wanted o (yielded ops a.tmps) = true
      · rw [if_pos hg]
        have hd := (hw a).1 hg
        obtain ⟨w, hw1⟩ := hex
        exact ⟨v.conc ν ρ, quiet_of_val hC fun w hw hf => (hx ρ a ha hd w hw (hI w hf)).2, hr'.2 ρ a _ ha (fun _ => ⟨(hx ρ a ha hd w hw1.1 (hI w hw1.2)).1, rfl⟩) (fun hn => absurd hd hn)⟩
      · rw [if_neg hg]
        have hd : a.tmps[d]? ≠ some (.bool want) := fun h => hg ((hw a).2 h)
        exact hr'.2 ρ a _ ha (fun h => absurd h hd) (fun _ => rfl)
  | new cs => exact sat_fail
  | upd b cs => exact sat_fail

theorem evOper_sat (hS : SigsOK P I S F) (hI : ∀ w, Fr W w0 w → I w) {ops : Array Oper} {r : RS} {o : Oper} (q : Bool) : M.sat F ν (evOper P S q ops.toList r o) (fun r' => (q = false → StepOK P ν W w0 ops o r r') ∧ (q = true → QuietOK P ν W w0 ops o r r')) := by
  unfold evOper
  have hboth : ∀ {x : OR}, (∀ ρ a, ARel ν ρ r a → Region.wanted o (yielded ops a.tmps) = true) → (∀ ρ a, ARel ν ρ r a → ORok P I ν ρ r.st.hp (execOp a.eval o) x) →
      M.sat F ν (stepOR q r o.dst x) (fun r' => (q = false → StepOK P ν W w0 ops o r r') ∧ (q = true → QuietOK P ν W w0 ops o r r')) := by
    intro x h1 h2
    cases q
    · exact sat_mono (stepOR_step hI h1 h2) fun r' h => ⟨fun _ => h, fun e => by cases e⟩
    · exact sat_mono (stepOR_quiet hI h1 h2) fun r' h => ⟨fun e => (by cases e), fun _ => h⟩
  split
  · rename_i hg
    refine sat_bind (evOp_sat hS) fun x hx => hboth (fun ρ a _ => by simp [Region.wanted, hg]) fun ρ a ha => hx ρ a ha (fun p hp => by simp at hp)
  · rename_i j want hg
    refine sat_bind (sat_lift (Q := fun d => (ops[j]?).bind (·.dst) = some d) fun a h => by simpa using h) fun d hd => ?_
    refine sat_bind (sat_lift (Q := fun res => guardInfo r 8 d want = some res) fun a h => h) fun res hres => ?_
    have hwd : ∀ (a : Act), Region.wanted o (yielded ops a.tmps) = true ↔ a.tmps[d]? = some (.bool want) := fun a => wanted_spec hg hd
    split
    · refine sat_mono put_sat fun r' hr' => ⟨fun _ ρ a w hrr K Q hK => ?_, fun _ => ⟨hr'.1, fun ρ a ha _ C _ => ?_⟩⟩
      · have hn : a.tmps[d]? ≠ some (.bool want) := guardInfo_spec hrr.act 8 d want hres
        rw [if_neg (fun h => hn ((hwd a).1 h))]
        exact hK ρ _ w ⟨hr'.2 ρ a _ hrr.act (fun v hv => by cases hv), by rw [hr'.1]; exact hrr.heap, by rw [hr'.1]; exact hrr.own, hrr.fr⟩
      · have hn : a.tmps[d]? ≠ some (.bool want) := guardInfo_spec ha 8 d want hres
        rw [if_neg (fun h => hn ((hwd a).1 h))]
        exact hr'.2 ρ a _ ha (fun v hv => by cases hv)
    · rename_i ctx cs
      split
      · refine sat_bind (evOp_sat hS) fun x hx => hboth (fun ρ a ha => ?_) fun ρ a ha => hx ρ a ha (fun p hp => by simp at hp)
        have := guardInfo_spec ha 8 d want hres
        exact (hwd a).2 (this.2 rfl)
      · refine sat_bind (sat_underAll (evOp_sat hS (ctx := ctx))) fun x hx => ?_
        refine sat_mono (stepORg_both hI hwd fun ρ a ha hd' => ?_) fun r' h => ⟨fun _ => h.1, fun _ => h.2⟩
        have := (guardInfo_spec ha 8 d want hres).1 hd'
        exact hx this.2 ρ a ha this.1

end
end Go.Sx
