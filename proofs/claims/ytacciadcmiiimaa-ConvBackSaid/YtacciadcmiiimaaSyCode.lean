/- Regions, code, a whole function: the evaluator agrees with the model. -/
import Derived.Test.YtacciadcmiiimaaSyStep
import Derived.Deep.Quiet
namespace Go.Sx
open Go.RowKit
section
variable {P : Program} {I : World → Prop} {S : Sigs} {F : FEnv} {E : Env} {gK : Nat} {ν : Nat → DV}

theorem put_none (a : Act) (v : Value) : a.put none v = a := rfl
theorem put_some (a : Act) (d : Nat) (v : Value) : a.put (some d) v = { a with tmps := a.tmps.setIfInBounds d v } := rfl

theorem glNoGuard_spec {d : Nat} {l : List GE} (h : glNoGuard d l = true) : ∀ e ∈ l, e.d ≠ d := by
  intro e he hd
  have := List.all_eq_true.1 h e he
  simp [hd] at this
theorem glDrop_spec {t : Nat} {l : List GE} {e : GE} (h : e ∈ glDrop t l) : e ∈ l ∧ e.t ≠ t := by
  unfold glDrop at h
  have := List.mem_filter.1 h
  refine ⟨this.1, fun ht => ?_⟩
  have h2 := this.2
  simp [ht] at h2

theorem put_sat {r : RS} {dst : Option Tmp} {ov : Option V} : M.sat F ν (r.put dst ov) (fun r' => r'.st.hp = r.st.hp ∧ ∀ ρ a (x : Value), ARel ν ρ r a → (∀ v, ov = some v → v.good ν ∧ x = v.conc ν ρ) →
    ARel ν ρ r' (a.put dst x)) := by
  unfold RS.put
  cases dst with
  | none => exact sat_pure ⟨rfl, fun ρ a x h _ => h⟩
  | some d =>
    refine sat_ite (fun hn => sat_pure ⟨rfl, fun ρ a x h hv => ?_⟩) (fun _ => sat_fail)
    have hn := glNoGuard_spec hn
    refine ⟨h.defers, by simp [put_some, setNth_length, h.size], fun t v ht => ?_, fun e he => ?_⟩
    · by_cases htd : d = t
      · subst htd
        simp only at ht
        rw [nth_setNth_same] at ht
        split at ht
        · rename_i hlt
          obtain ⟨h1, h2⟩ := hv v ht
          refine ⟨h1, ?_⟩
          rw [put_some, h2]
          simp [h.size, hlt]
        · cases ht
      · simp only at ht
        rw [nth_setNth_ne _ _ _ _ htd] at ht
        have := h.slot t v ht
        refine ⟨this.1, ?_⟩
        rw [put_some]
        simp only
        rw [Array.getElem?_setIfInBounds_ne htd]
        exact this.2
    · obtain ⟨h1, h2⟩ := glDrop_spec he
      have hd := hn e h1
      have := h.gl e h1
      rw [put_some]
      simp only
      rw [Array.getElem?_setIfInBounds_ne (Ne.symm hd), Array.getElem?_setIfInBounds_ne (Ne.symm h2)]
      exact this

theorem putG_sat {r : RS} {dst : Option Tmp} {v : V} {d : Nat} {want : Bool} : M.sat F ν (r.putG dst v d want) (fun r' => r'.st.hp = r.st.hp ∧ ∀ ρ a (x : Value), ARel ν ρ r a →
    (a.tmps[d]? = some (.bool want) → v.good ν ∧ x = v.conc ν ρ) → (a.tmps[d]? ≠ some (.bool want) → x = undef) → ARel ν ρ r' (a.put dst x)) := by
  unfold RS.putG
  cases dst with
  | none => exact sat_pure ⟨rfl, fun ρ a x h _ _ => h⟩
  | some t =>
    refine sat_ite (fun hc => sat_pure ⟨rfl, fun ρ a x h h1 h2 => ?_⟩) (fun _ => sat_fail)
    simp only [Bool.and_eq_true, Bool.not_eq_true', decide_eq_true_eq] at hc
    obtain ⟨⟨hn, htd⟩, hlt⟩ := hc
    have hn := glNoGuard_spec hn
    have htd : t ≠ d := by intro e; subst e; simp at htd
    have hd : (a.put (some t) x).tmps[d]? = a.tmps[d]? := by
      rw [put_some]; simp only; rw [Array.getElem?_setIfInBounds_ne htd]
    have ht : (a.put (some t) x).tmps[t]? = some x := by
      rw [put_some]; simp [h.size, hlt]
    refine ⟨h.defers, by simp [put_some, setNth_length, h.size], fun t' v' ht' => ?_, fun e he => ?_⟩
    · by_cases hne : t = t'
      · subst hne
        simp only at ht'
        rw [nth_setNth_same] at ht'
        split at ht' <;> cases ht'
      · simp only at ht'
        rw [nth_setNth_ne _ _ _ _ hne] at ht'
        have := h.slot t' v' ht'
        refine ⟨this.1, ?_⟩
        rw [put_some]; simp only; rw [Array.getElem?_setIfInBounds_ne hne]
        exact this.2
    · rcases List.mem_cons.1 he with rfl | he
      · simp only [hd, ht]
        exact ⟨fun hw => by obtain ⟨g1, g2⟩ := h1 hw; exact ⟨g1, by rw [g2]⟩, fun hw => by rw [h2 hw]⟩
      · obtain ⟨h3, h4⟩ := glDrop_spec he
        have hd := hn e h3
        have := h.gl e h3
        rw [put_some]
        simp only
        rw [Array.getElem?_setIfInBounds_ne (Ne.symm hd), Array.getElem?_setIfInBounds_ne (Ne.symm h4)]
        exact this

/-! ### Guards -/
theorem glEntry_spec {t : Nat} : ∀ {l : List GE} {e : GE}, glEntry t l = some e → e ∈ l ∧ e.t = t
  | [], _, h => by simp [glEntry] at h
  | x :: l, e, h => by
    simp only [glEntry] at h
    split at h
    · cases h; exact ⟨by simp, Nat.eq_of_beq_eq_true ‹_›⟩
    · obtain ⟨h1, h2⟩ := glEntry_spec h
      exact ⟨List.mem_cons_of_mem _ h1, h2⟩

def GInfo (ν : Nat → DV) (a : Act) (d : Nat) (want : Bool) : Option (Ctx × List (A × Bool)) → Prop
  | none => a.tmps[d]? ≠ some (.bool want)
  | some (ctx, cs) => (a.tmps[d]? = some (.bool want) → CtxOk ctx a ∧ ∀ c ∈ cs, c.1.bool ν = c.2) ∧ (ctx = [] → a.tmps[d]? = some (.bool want)) ∧ ((∀ c ∈ cs, c.1.bool ν = c.2) → a.tmps[d]? = some (.bool want))

theorem guardInfo_spec {ρ : Nat → Loc} {r : RS} {a : Act} (h : ARel ν ρ r a) : ∀ (n d : Nat) (want : Bool) {res : Option (Ctx × List (A × Bool))}, guardInfo r n d want = some res → GInfo ν a d want res
  | 0, _, _, _, hg => by simp [guardInfo] at hg
  | n + 1, d, want, res, hg => by
    simp only [guardInfo] at hg
    split at hg
    · rename_i x hs
      have hv := (h.slot d _ hs).2
      split at hg
      · rename_i hb
        have := beqB_eq hb; subst this
        cases hg
        exact ⟨fun _ => ⟨fun p hp => by simp at hp, fun c hc => by simp at hc⟩, fun _ => hv, fun _ => hv⟩
      · rename_i hb
        cases hg
        have hne := beqB_ne hb
        intro heq
        rw [hv] at heq
        simp [V.conc, V1.conc, Lf.conc] at heq
        exact hne heq
    · rename_i x _ hs
      have hv := (h.slot d _ hs).2
      cases hg
      refine ⟨fun heq => ⟨fun p hp => by simp at hp; subst hp; exact heq, fun c hc => ?_⟩, fun hc => by simp at hc, fun hc => ?_⟩
      · simp at hc; subst hc
        rw [hv] at heq
        simpa [V.conc, V1.conc, Lf.conc] using heq
      · have := hc (x, want) (by simp)
        rw [hv]
        simp only at this
        simp [V.conc, V1.conc, Lf.conc, this]
    · cases hg
    · split at hg
      · rename_i e he
        obtain ⟨hmem, rfl⟩ := glEntry_spec he
        have hgl := h.gl e hmem
        split at hg
        · rename_i x hev
          split at hg
          · rename_i ctx cs hrec
            have ih := guardInfo_spec h n e.d e.want hrec
            have hguard : ∀ b, a.tmps[e.t]? = some (.bool b) → a.tmps[e.d]? = some (.bool e.want) := fun b hb => by
              by_cases hw : a.tmps[e.d]? = some (.bool e.want)
              · exact hw
              · have := hgl.2 hw
                rw [this] at hb
                simp [undef] at hb
            split at hg
            · rename_i y
              split at hg
              · rename_i hb
                have := beqB_eq hb; subst this
                cases hg
                refine ⟨fun heq => ?_, fun hc => by simp at hc, fun hc => ?_⟩
                · have h1 := ih.1 (hguard _ heq)
                  refine ⟨fun p hp => ?_, h1.2⟩
                  rcases List.mem_cons.1 hp with rfl | hp
                  · exact heq
                  · exact h1.1 p hp
                · have := (hgl.1 (ih.2.2 hc)).2
                  rw [this, hev]
                  rfl
              · rename_i hb
                cases hg
                intro heq
                have h1 := (hgl.1 (hguard _ heq)).2
                rw [h1, hev] at heq
                simp [V.conc, V1.conc, Lf.conc] at heq
                exact beqB_ne hb heq
            · cases hg
              refine ⟨fun heq => ?_, fun hc => by simp at hc, fun hc => ?_⟩
              · have h1 := ih.1 (hguard _ heq)
                refine ⟨fun p hp => ?_, fun c hc => ?_⟩
                · rcases List.mem_cons.1 hp with rfl | hp
                  · exact heq
                  · exact h1.1 p hp
                · rcases List.mem_cons.1 hc with rfl | hc
                  · have h2 := (hgl.1 (hguard _ heq)).2
                    rw [h2, hev] at heq
                    simpa [V.conc, V1.conc, Lf.conc] using heq
                  · exact h1.2 c hc
              · have := (hgl.1 (ih.2.2 fun c hcm => hc c (List.mem_cons_of_mem _ hcm))).2
                rw [this, hev]
                have h2 := hc (x, want) (by simp)
                simp only at h2
                simp [V.conc, V1.conc, Lf.conc, h2]
          · rename_i hrec
            cases hg
            have ih := guardInfo_spec h n e.d e.want hrec
            intro heq
            have := hgl.2 ih
            rw [this] at heq
            simp [undef] at heq
          · cases hg
        · cases hg
      · cases hg

theorem wanted_spec {o : Oper} {ops : Array Oper} {a : Act} {j d : Nat} {want : Bool} (hg : o.guard = some (j, want)) (hd : (ops[j]?).bind (·.dst) = some d) :
    Region.wanted o (yielded ops a.tmps) = true ↔ a.tmps[d]? = some (.bool want) := by
  simp only [Region.wanted, hg, yielded, hd, Option.bind_some]
  cases ht : a.tmps[d]? with
  | none => simp
  | some v => cases v <;> simp

/-! ### One operation -/
/-- What holds behind the operation o, from a state that r tells. -/
def StepOK (P : Program) (ν : Nat → DV) (E : Env) (ops : Array Oper) (o : Oper) (r r' : RS) : Prop :=
  ∀ ρ a w, RR ν E ρ r a w → ∀ (K : Act → World → Prop) (Q : Exit → Act → World → Prop), (∀ ρ' a' w', RR ν E ρ' r' a' w' → K a' w') →
    if Region.wanted o (yielded ops a.tmps) = true then o.wp P a w K Q else K (a.put o.dst undef) w

/-- The same where the order is drawn: one value in every world. -/
def QuietOK (P : Program) (ν : Nat → DV) (E : Env) (ops : Array Oper) (o : Oper) (r r' : RS) : Prop :=
  r'.st.hp = r.st.hp ∧ ∀ ρ a, ARel ν ρ r a → (∃ w, HS E ν ρ r.st.hp w) → ∀ C : World → Prop, C = (fun w => HS E ν ρ r.st.hp w) →
    if Region.wanted o (yielded ops a.tmps) = true then ∃ v, (∀ w, C w → o.quietAt P a C w v) ∧ ARel ν ρ r' (a.put o.dst v) else ARel ν ρ r' (a.put o.dst undef)

theorem wp_of_val {o : Oper} {a : Act} {w : World} {v : Value} {K : Act → World → Prop} {Q : Exit → Act → World → Prop} (h : RunsVal P (execOp a.eval o) w v)
    (hk : ∀ w', Below w.heap.size w w' → K (a.put o.dst v) w') : o.wp P a w K Q := by
  unfold Oper.wp
  rcases h with h | ⟨f, args, h, hc⟩
  · rw [h]; exact hk w (Below.refl _ _)
  · rw [h]
    exact hc.mono fun e w' ⟨he, hb⟩ => by subst he; exact hk w' hb

theorem upon_skip {o : Oper} {a : Act} {w w' : World} {K : Act → World → Prop} {Q : Exit → Act → World → Prop} (h : (execOp a.eval o).run P w = .ok .skip w') (hk : K (a.put o.dst undef) w') : o.wp P a w K Q := by
  unfold Oper.wp
  rw [h]; exact hk

/-- The slots stand where blocks that were keep their places. -/
theorem ARel.ext {ρ ρ' : Nat → Loc} {r : RS} {a : Act} {n : Nat} (h : ARel ν ρ r a) (hρ : ∀ j, j < n → ρ' j = ρ j) (h1 : r.st.sl.all (optAll (V.lt n)) = true) (h2 : r.gl.all (fun e => e.v.lt n) = true) (hp : List (Option Blk)) :
    ARel ν ρ' ⟨⟨r.st.sl, hp⟩, r.gl⟩ a := by
  have hl : ∀ l : Lf, l.lt n = true → l.conc ν ρ' = l.conc ν ρ := fun l hl => by
    cases l <;> simp only [Lf.lt, decide_eq_true_eq] at hl <;> simp only [Lf.conc] <;> first | rw [hρ _ hl] | rw [capsConc_lt hl hρ]
  have hv1 : ∀ v : V1, v.lt n = true → v.conc ν ρ' = v.conc ν ρ := fun v hv => by
    cases v with
    | one l => exact hl l (by simpa [V1.lt, V1.cells] using hv)
    | agg l =>
      simp only [V1.conc]
      congr 2
      exact List.map_congr_left fun x hx => hl x (List.all_eq_true.1 hv x hx)
  have hv : ∀ v : V, v.lt n = true → v.conc ν ρ' = v.conc ν ρ := fun v hv => by
    cases v with
    | s v => exact hv1 v hv
    | t l =>
      simp only [V.conc]
      congr 2
      exact List.map_congr_left fun x hx => hv1 x (List.all_eq_true.1 hv x hx)
  refine ⟨h.defers, h.size, fun t v ht => ?_, fun e he => ?_⟩
  · obtain ⟨g1, g2⟩ := h.slot t v ht
    exact ⟨g1, by rw [hv v (all_nth_of h1 ht)]; exact g2⟩
  · have := h.gl e he
    rw [hv e.v (List.all_eq_true.1 h2 e he)]
    exact this

theorem stepOR_step (hI : ∀ w, Fr E.W E.w0 w → I w) {ops : Array Oper} {o : Oper} {r : RS} {x : OR} (hw : ∀ ρ a, ARel ν ρ r a → Region.wanted o (yielded ops a.tmps) = true)
    (hx : ∀ ρ a, ARel ν ρ r a → ORok P I E ν ρ r.st.hp (execOp a.eval o) x) : M.sat F ν (stepOR false r o.dst x) (StepOK P ν E ops o r) := by
  cases x with
  | val v =>
    refine sat_mono put_sat fun r' hr' ρ a w hrr K Q hK => ?_
    rw [if_pos (hw ρ a hrr.act)]
    obtain ⟨hg, hrun⟩ := hx ρ a hrr.act w hrr.hs (hI w hrr.hs.fr)
    refine wp_of_val hrun fun w' hb => hK ρ _ w' ?_
    have := hrr.below hb
    exact ⟨hr'.2 ρ a _ hrr.act (fun v' hv' => by cases hv'; exact ⟨hg, rfl⟩), by rw [hr'.1]; exact this.hs⟩
  | hp v hp' =>
    unfold stepOR
    refine sat_ite (fun hc => ?_) (fun _ => sat_fail)
    simp only [Bool.not_false, Bool.true_and, Bool.and_eq_true] at hc
    refine sat_mono put_sat fun r' hr' ρ a w hrr K Q hK => ?_
    rw [if_pos (hw ρ a hrr.act)]
    have hrun := hx ρ a hrr.act w hrr.hs (hI w hrr.hs.fr)
    have fin : ∀ (nv : Option Value) (y : Value) (w' : World), (∀ z, nv = some z → y = z) → (∃ ρ' : Nat → Loc, (∀ j, j < r.st.hp.length → ρ' j = ρ j) ∧ HS E ν ρ' hp' w' ∧ ∀ u, v = some u → u.good ν ∧ nv = some (u.conc ν ρ')) → K (a.put o.dst y) w' := by
      rintro nv y w' hy ⟨ρ', k1, k2, k3⟩
      refine hK ρ' _ w' ⟨hr'.2 ρ' a y (hrr.act.ext k1 hc.1 hc.2 hp') (fun u hu => ?_), by rw [hr'.1]; exact k2⟩
      obtain ⟨g1, g2⟩ := k3 u hu
      exact ⟨g1, hy _ g2⟩
    rcases hrun with ⟨z, w', h1, h2⟩ | ⟨w', h1, h2⟩ | ⟨f, args, h1, h2⟩
    · unfold Oper.wp
      rw [h1]
      exact fin _ z w' (fun z' e => by cases e; rfl) h2
    · exact upon_skip h1 (fin _ undef w' (fun z' e => by cases e) h2)
    · unfold Oper.wp
      rw [h1]
      exact h2.mono fun e w' ⟨z, he, h3⟩ => by subst he; exact fin _ z w' (fun z' e => by cases e; rfl) h3

theorem quiet_of_val {o : Oper} {a : Act} {ρ : Nat → Loc} {hp : List (Option Blk)} {v : Value} {C : World → Prop} (hC : C = fun w => HS E ν ρ hp w)
    (h : ∀ w, HS E ν ρ hp w → RunsVal P (execOp a.eval o) w v) : ∀ w, C w → o.quietAt P a C w v := by
  intro w hw
  have hw' : HS E ν ρ hp w := by rw [hC] at hw; exact hw
  unfold Oper.quietAt
  rcases h w hw' with h | ⟨f, args, h, hc⟩
  · rw [h]; exact ⟨rfl, rfl⟩
  · rw [h]
    refine ⟨rfl, hc.mono fun e w'' ⟨he, hb⟩ => ⟨he, ?_⟩⟩
    rw [hC]
    exact hw'.of_below hb

theorem stepOR_quiet (hI : ∀ w, Fr E.W E.w0 w → I w) {ops : Array Oper} {o : Oper} {r : RS} {x : OR} (hw : ∀ ρ a, ARel ν ρ r a → Region.wanted o (yielded ops a.tmps) = true)
    (hx : ∀ ρ a, ARel ν ρ r a → ORok P I E ν ρ r.st.hp (execOp a.eval o) x) : M.sat F ν (stepOR true r o.dst x) (QuietOK P ν E ops o r) := by
  cases x with
  | val v =>
    refine sat_mono put_sat fun r' hr' => ⟨hr'.1, fun ρ a ha hex C hC => ?_⟩
    rw [if_pos (hw ρ a ha)]
    obtain ⟨w, hw1⟩ := hex
    refine ⟨v.conc ν ρ, quiet_of_val hC fun w hw => (hx ρ a ha w hw (hI w hw.fr)).2, hr'.2 ρ a _ ha fun v' hv' => ?_⟩
    cases hv'; exact ⟨(hx ρ a ha w hw1 (hI w hw1.fr)).1, rfl⟩
  | hp v hp' => unfold stepOR; simp only [Bool.not_true, Bool.false_and, Bool.false_eq_true, if_false]; exact sat_fail

theorem stepORg_both (hI : ∀ w, Fr E.W E.w0 w → I w) {ops : Array Oper} {o : Oper} {r : RS} {d : Nat} {want : Bool} {x : OR} (hw : ∀ (a : Act), Region.wanted o (yielded ops a.tmps) = true ↔ a.tmps[d]? = some (.bool want))
    (hx : ∀ ρ a, ARel ν ρ r a → a.tmps[d]? = some (.bool want) → ORok P I E ν ρ r.st.hp (execOp a.eval o) x) :
    M.sat F ν (stepORg r o.dst d want x) (fun r' => StepOK P ν E ops o r r' ∧ QuietOK P ν E ops o r r') := by
  cases x with
  | val v =>
    refine sat_mono putG_sat fun r' hr' => ⟨fun ρ a w hrr K Q hK => ?_, hr'.1, fun ρ a ha hex C hC => ?_⟩
    · by_cases hg : Region.wanted o (yielded ops a.tmps) = true
      · rw [if_pos hg]
        have hd := (hw a).1 hg
        obtain ⟨hgood, hrun⟩ := hx ρ a hrr.act hd w hrr.hs (hI w hrr.hs.fr)
        refine wp_of_val hrun fun w' hb => hK ρ _ w' ?_
        have := hrr.below hb
        exact ⟨hr'.2 ρ a _ hrr.act (fun _ => ⟨hgood, rfl⟩) (fun hn => absurd hd hn), by rw [hr'.1]; exact this.hs⟩
      · rw [if_neg hg]
        have hd : a.tmps[d]? ≠ some (.bool want) := fun h => hg ((hw a).2 h)
        exact hK ρ _ w ⟨hr'.2 ρ a _ hrr.act (fun h => absurd h hd) (fun _ => rfl), by rw [hr'.1]; exact hrr.hs⟩
    · by_cases hg : Region.wanted o (yielded ops a.tmps) = true
      · rw [if_pos hg]
        have hd := (hw a).1 hg
        obtain ⟨w, hw1⟩ := hex
        exact ⟨v.conc ν ρ, quiet_of_val hC fun w hw => (hx ρ a ha hd w hw (hI w hw.fr)).2, hr'.2 ρ a _ ha (fun _ => ⟨(hx ρ a ha hd w hw1 (hI w hw1.fr)).1, rfl⟩) (fun hn => absurd hd hn)⟩
      · rw [if_neg hg]
        have hd : a.tmps[d]? ≠ some (.bool want) := fun h => hg ((hw a).2 h)
        exact hr'.2 ρ a _ ha (fun h => absurd h hd) (fun _ => rfl)
  | hp v hp' => exact sat_fail

theorem mergeAs_sat {c : A} : ∀ (ts : List Ty) (as bs : List A), M.sat F ν (mergeAs c ts as bs) (fun r => (c.bool ν = true → PEq ν ν ts as r) ∧ (c.bool ν = false → PEq ν ν ts bs r))
  | .i :: ts, a :: l, b :: l' => by
    unfold mergeAs
    refine sat_bind mkIteI_sat fun x hx => sat_bind (mergeAs_sat ts l l') fun r hr => sat_pure ⟨fun h => ⟨?_, hr.1 h⟩, fun h => ⟨?_, hr.2 h⟩⟩
    · show a.int ν = x.int ν
      rw [hx, h]; rfl
    · show b.int ν = x.int ν
      rw [hx, h]; rfl
  | .b :: ts, a :: l, b :: l' => by
    unfold mergeAs
    refine sat_bind mkIteB_sat fun x hx => sat_bind (mergeAs_sat ts l l') fun r hr => sat_pure ⟨fun h => ⟨?_, hr.1 h⟩, fun h => ⟨?_, hr.2 h⟩⟩
    · show a.bool ν = x.bool ν
      rw [hx, h]; rfl
    · show b.bool ν = x.bool ν
      rw [hx, h]; rfl
  | .l :: ts, a :: l, b :: l' => by
    unfold mergeAs
    refine sat_bind mkIteL_sat fun x hx => sat_bind (mergeAs_sat ts l l') fun r hr => sat_pure ⟨fun h => ⟨?_, hr.1 h⟩, fun h => ⟨?_, hr.2 h⟩⟩
    · show a.cells ν = x.cells ν
      rw [hx, h]; rfl
    · show b.cells ν = x.cells ν
      rw [hx, h]; rfl
  | [], [], [] => sat_pure ⟨fun _ => trivial, fun _ => trivial⟩
  | [], [], _ :: _ => sat_fail
  | [], _ :: _, _ => sat_fail
  | .i :: _, [], _ => sat_fail
  | .i :: _, _ :: _, [] => sat_fail
  | .b :: _, [], _ => sat_fail
  | .b :: _, _ :: _, [] => sat_fail
  | .l :: _, [], _ => sat_fail
  | .l :: _, _ :: _, [] => sat_fail

theorem keeps_mono {m : List Nat} {n k : Nat} (h : keeps m n = true) (hk : k ≤ n) : keeps m k = true := by
  have := keeps_spec h
  induction k with
  | zero => rfl
  | succ k ih => simp only [keeps, Bool.and_eq_true]; exact ⟨ih (by omega), by rw [this k (by omega)]; exact Nat.beq_refl _⟩

theorem mergeSt_sat2 {n0 : Nat} (hn : E.n0 ≤ n0) {c : A} {x y : St} : M.sat F ν (mergeSt n0 c x y) (fun s => ∀ ρ a w, (c.bool ν = true → RR ν E ρ ⟨x, []⟩ a w → ∃ ρ', (∀ j, j < n0 → ρ' j = ρ j) ∧ RR ν E ρ' ⟨s, []⟩ a w) ∧
    (c.bool ν = false → RR ν E ρ ⟨y, []⟩ a w → ∃ ρ', (∀ j, j < n0 → ρ' j = ρ j) ∧ RR ν E ρ' ⟨s, []⟩ a w)) := by
  unfold mergeSt
  dsimp only
  generalize joinPat x y = p
  generalize guess p.tys.length p.st x = gx
  generalize guess p.tys.length p.st y = gy
  refine sat_ite (fun hc => ?_) (fun _ => sat_fail)
  simp only [Bool.and_eq_true] at hc
  obtain ⟨⟨⟨⟨⟨h1, h2⟩, h3⟩, h4⟩, h5⟩, h6⟩ := hc
  have h6 := Nat.le_of_ble_eq_true h6
  refine sat_bind (mergeAs_sat _ _ _) fun ops hops => sat_pure fun ρ a w => ⟨fun hb h => ?_, fun hb h => ?_⟩
  · exact ⟨fun j => ρ (rnm gx.2 j), fun j hj => congrArg ρ (keeps_spec h4 j hj), RR.inst (fun _ _ => rfl) (hops.1 hb) h1 (h.sub h2 (keeps_mono h4 hn) (by simp only [St.inst, List.length_map]; omega))⟩
  · exact ⟨fun j => ρ (rnm gy.2 j), fun j hj => congrArg ρ (keeps_spec h5 j hj), RR.inst (fun _ _ => rfl) (hops.2 hb) h1 (h.sub h3 (keeps_mono h5 hn) (by simp only [St.inst, List.length_map]; omega))⟩

theorem conj_sat : ∀ (cs : List (A × Bool)), M.sat F ν (conj cs) (fun c => c.bool ν = true ↔ ∀ p ∈ cs, p.1.bool ν = p.2)
  | [] => sat_pure ⟨fun _ p hp => (by cases hp), fun _ => rfl⟩
  | (a, b) :: l => by
    unfold conj
    refine sat_bind (R := fun x => x.bool ν = true ↔ a.bool ν = b) ?_ fun x hx => sat_bind (conj_sat l) fun r hr => sat_mono mkAnd_sat fun c hc => ?_
    · cases b
      · exact sat_mono mkNot_sat fun r hr => by rw [hr]; simp
      · exact sat_pure Iff.rfl
    · rw [hc, Bool.and_eq_true, hx, hr]
      constructor
      · rintro ⟨h1, h2⟩ p hp
        rcases List.mem_cons.1 hp with rfl | hp
        · exact h1
        · exact h2 p hp
      · intro h
        exact ⟨h (a, b) (by simp), fun p hp => h p (List.mem_cons_of_mem _ hp)⟩

theorem V.conc_agree {n : Nat} {ρ ρ' : Nat → Loc} (hρ : ∀ j, j < n → ρ' j = ρ j) {v : V} (hv : v.lt n = true) : v.conc ν ρ' = v.conc ν ρ := by
  have hl : ∀ l : Lf, l.lt n = true → l.conc ν ρ' = l.conc ν ρ := fun l hl => by
    cases l <;> simp only [Lf.lt, decide_eq_true_eq] at hl <;> simp only [Lf.conc] <;> first | rw [hρ _ hl] | rw [capsConc_lt hl hρ]
  have hv1 : ∀ v : V1, v.lt n = true → v.conc ν ρ' = v.conc ν ρ := fun v hv => by
    cases v with
    | one l => exact hl l (by simpa [V1.lt, V1.cells] using hv)
    | agg l =>
      simp only [V1.conc]
      congr 2
      exact List.map_congr_left fun x hx => hl x (List.all_eq_true.1 hv x hx)
  cases v with
  | s v => exact hv1 v hv
  | t l =>
    simp only [V.conc]
    congr 2
    exact List.map_congr_left fun x hx => hv1 x (List.all_eq_true.1 hv x hx)

theorem stepORgHp_step (hI : ∀ w, Fr E.W E.w0 w → I w) {ops : Array Oper} {o : Oper} {r : RS} {d n0 : Nat} (hEn : n0 = E.n0) {want : Bool} {cs : List (A × Bool)} {v : Option V} {hp' : List (Option Blk)}
    (hw : ∀ (a : Act), Region.wanted o (yielded ops a.tmps) = true ↔ a.tmps[d]? = some (.bool want)) (hg : ∀ ρ a, ARel ν ρ r a → (a.tmps[d]? = some (.bool want) ↔ ∀ c ∈ cs, c.1.bool ν = c.2))
    (hx : ∀ ρ a, ARel ν ρ r a → a.tmps[d]? = some (.bool want) → ORok P I E ν ρ r.st.hp (execOp a.eval o) (.hp v hp')) : M.sat F ν (stepORgHp r o.dst d want cs n0 v hp') (StepOK P ν E ops o r) := by
  unfold stepORgHp
  refine sat_ite (fun hc => ?_) (fun _ => sat_fail)
  simp only [Bool.and_eq_true] at hc
  obtain ⟨⟨hsl, hgl⟩, hle⟩ := hc
  have hle := Nat.le_of_ble_eq_true hle
  rw [hEn] at hle
  refine sat_bind (conj_sat cs) fun c hcb => sat_bind (mergeSt_sat2 (E := E) hle) fun s hs => ?_
  -- the state that is joined
  have join : ∀ ρ a w, RR ν E ρ r a w → (a.tmps[d]? = some (.bool want) → ∀ ρ1 w1, (∀ j, j < r.st.hp.length → ρ1 j = ρ j) → HS E ν ρ1 hp' w1 → ∃ ρ2, (∀ j, j < r.st.hp.length → ρ2 j = ρ j) ∧ RR ν E ρ2 ⟨s, r.gl⟩ a w1) ∧
      (a.tmps[d]? ≠ some (.bool want) → ∃ ρ2, (∀ j, j < r.st.hp.length → ρ2 j = ρ j) ∧ RR ν E ρ2 ⟨s, r.gl⟩ a w) := by
    intro ρ a w hrr
    have glue : ∀ ρ2 w2, (∀ j, j < r.st.hp.length → ρ2 j = ρ j) → RR ν E ρ2 ⟨s, []⟩ a w2 → RR ν E ρ2 ⟨s, r.gl⟩ a w2 := fun ρ2 w2 h1 h2 =>
      ⟨⟨h2.act.defers, h2.act.size, h2.act.slot, fun e he => by
        have := hrr.act.gl e he
        rw [V.conc_agree h1 (List.all_eq_true.1 hgl e he)]
        exact this⟩, h2.hs⟩
    refine ⟨fun hd ρ1 w1 h1 h2 => ?_, fun hd => ?_⟩
    · have hext := hrr.act.ext h1 hsl hgl hp'
      obtain ⟨ρ2, e1, e2⟩ := (hs ρ1 a w1).1 (hcb.2 ((hg ρ a hrr.act).1 hd)) ⟨⟨hext.defers, hext.size, hext.slot, fun e he => by cases he⟩, h2⟩
      have e3 : ∀ j, j < r.st.hp.length → ρ2 j = ρ j := fun j hj => (e1 j hj).trans (h1 j hj)
      exact ⟨ρ2, e3, glue ρ2 w1 e3 e2⟩
    · have hcf : c.bool ν = false := by
        cases hc : c.bool ν with
        | false => rfl
        | true => exact absurd ((hg ρ a hrr.act).2 (hcb.1 hc)) hd
      obtain ⟨ρ2, e1, e2⟩ := (hs ρ a w).2 hcf ⟨⟨hrr.act.defers, hrr.act.size, hrr.act.slot, fun e he => by cases he⟩, hrr.hs⟩
      exact ⟨ρ2, e1, glue ρ2 w e1 e2⟩
  cases v with
  | none =>
    refine sat_mono put_sat fun r' hr' ρ a w hrr K Q hK => ?_
    obtain ⟨j1, j2⟩ := join ρ a w hrr
    have fin : ∀ ρ2 (y : Value) w2, RR ν E ρ2 ⟨s, r.gl⟩ a w2 → K (a.put o.dst y) w2 := fun ρ2 y w2 h => hK ρ2 _ w2 ⟨hr'.2 ρ2 a y h.act (fun u hu => by cases hu), by rw [hr'.1]; exact h.hs⟩
    split
    · rename_i hwt
      have hd := (hw a).1 hwt
      rcases hx ρ a hrr.act hd w hrr.hs (hI w hrr.hs.fr) with ⟨z, w', h1, ρ1, h2, h3, _⟩ | ⟨w', h1, ρ1, h2, h3, _⟩ | ⟨f, args, h1, h2⟩
      · obtain ⟨ρ2, _, h4⟩ := j1 hd ρ1 w' h2 h3
        unfold Oper.wp
        rw [h1]
        exact fin ρ2 z w' h4
      · obtain ⟨ρ2, _, h4⟩ := j1 hd ρ1 w' h2 h3
        exact upon_skip h1 (fin ρ2 undef w' h4)
      · unfold Oper.wp
        rw [h1]
        exact h2.mono fun e w' ⟨z, he, ρ1, h2, h3, _⟩ => by
          subst he
          obtain ⟨ρ2, _, h4⟩ := j1 hd ρ1 w' h2 h3
          exact fin ρ2 z w' h4
    · rename_i hwt
      obtain ⟨ρ2, _, h4⟩ := j2 fun h => hwt ((hw a).2 h)
      exact fin ρ2 undef w h4
  | some v =>
    refine sat_ite (fun hv0 => ?_) (fun _ => sat_fail)
    refine sat_mono putG_sat fun r' hr' ρ a w hrr K Q hK => ?_
    obtain ⟨j1, j2⟩ := join ρ a w hrr
    split
    · rename_i hwt
      have hd := (hw a).1 hwt
      have fin : ∀ ρ1 ρ2 (y : Value) w2, RR ν E ρ2 ⟨s, r.gl⟩ a w2 → v.good ν → y = v.conc ν ρ1 → K (a.put o.dst y) w2 := fun ρ1 ρ2 y w2 h hg hy =>
        hK ρ2 _ w2 ⟨hr'.2 ρ2 a y h.act (fun _ => ⟨hg, by rw [hy]; exact V.conc_agree (n := 0) (fun j hj => by omega) hv0⟩) (fun hn => absurd hd hn), by rw [hr'.1]; exact h.hs⟩
      rcases hx ρ a hrr.act hd w hrr.hs (hI w hrr.hs.fr) with ⟨z, w', h1, ρ1, h2, h3, h5⟩ | ⟨w', h1, ρ1, h2, h3, h5⟩ | ⟨f, args, h1, h2⟩
      · obtain ⟨ρ2, _, h4⟩ := j1 hd ρ1 w' h2 h3
        obtain ⟨h6, h7⟩ := h5 v rfl
        unfold Oper.wp
        rw [h1]
        exact fin ρ1 ρ2 z w' h4 h6 (Option.some.inj h7)
      · obtain ⟨h6, h7⟩ := h5 v rfl
        cases h7
      · unfold Oper.wp
        rw [h1]
        exact h2.mono fun e w' ⟨z, he, ρ1, h2, h3, h5⟩ => by
          subst he
          obtain ⟨ρ2, _, h4⟩ := j1 hd ρ1 w' h2 h3
          obtain ⟨h6, h7⟩ := h5 v rfl
          exact fin ρ1 ρ2 z w' h4 h6 (Option.some.inj h7)
    · rename_i hwt
      have hd : a.tmps[d]? ≠ some (.bool want) := fun h => hwt ((hw a).2 h)
      obtain ⟨ρ2, _, h4⟩ := j2 hd
      exact hK ρ2 _ w ⟨hr'.2 ρ2 a undef h4.act (fun h => absurd h hd) (fun _ => rfl), by rw [hr'.1]; exact h4.hs⟩

theorem evOper_sat (hS : SigsOK P I gK S F) (hE : E.Ok gK) (hn0 : S.n0 = E.n0) (hI : ∀ w, Fr E.W E.w0 w → I w) {ops : Array Oper} {r : RS} {o : Oper} (q : Bool) : M.sat F ν (evOper P S q ops.toList r o) (fun r' => (q = false → StepOK P ν E ops o r r') ∧ (q = true → QuietOK P ν E ops o r r')) := by
  unfold evOper
  have hboth : ∀ {x : OR}, (∀ ρ a, ARel ν ρ r a → Region.wanted o (yielded ops a.tmps) = true) → (∀ ρ a, ARel ν ρ r a → ORok P I E ν ρ r.st.hp (execOp a.eval o) x) →
      M.sat F ν (stepOR q r o.dst x) (fun r' => (q = false → StepOK P ν E ops o r r') ∧ (q = true → QuietOK P ν E ops o r r')) := by
    intro x h1 h2
    cases q
    · exact sat_mono (stepOR_step hI h1 h2) fun r' h => ⟨fun _ => h, fun e => by cases e⟩
    · exact sat_mono (stepOR_quiet hI h1 h2) fun r' h => ⟨fun e => (by cases e), fun _ => h⟩
  split
  · rename_i hg
    refine sat_bind (evOp_sat hS hE) fun x hx => hboth (fun ρ a _ => by simp [Region.wanted, hg]) fun ρ a ha => hx ρ a ha (fun p hp => by simp at hp)
  · rename_i j want hg
    refine sat_bind (sat_lift (Q := fun d => (ops[j]?).bind (·.dst) = some d) fun a h => by simpa using h) fun d hd => ?_
    refine sat_bind (sat_lift (Q := fun res => guardInfo r 8 d want = some res) fun a h => h) fun res hres => ?_
    have hwd : ∀ (a : Act), Region.wanted o (yielded ops a.tmps) = true ↔ a.tmps[d]? = some (.bool want) := fun a => wanted_spec hg hd
    split
    · refine sat_mono put_sat fun r' hr' => ⟨fun _ ρ a w hrr K Q hK => ?_, fun _ => ⟨hr'.1, fun ρ a ha _ C _ => ?_⟩⟩
      · have hn : a.tmps[d]? ≠ some (.bool want) := guardInfo_spec hrr.act 8 d want hres
        rw [if_neg (fun h => hn ((hwd a).1 h))]
        exact hK ρ _ w ⟨hr'.2 ρ a _ hrr.act (fun v hv => by cases hv), by rw [hr'.1]; exact hrr.hs⟩
      · have hn : a.tmps[d]? ≠ some (.bool want) := guardInfo_spec ha 8 d want hres
        rw [if_neg (fun h => hn ((hwd a).1 h))]
        exact hr'.2 ρ a _ ha (fun v hv => by cases hv)
    · rename_i ctx cs
      split
      · refine sat_bind (evOp_sat hS hE) fun x hx => hboth (fun ρ a ha => ?_) fun ρ a ha => hx ρ a ha (fun p hp => by simp at hp)
        have := guardInfo_spec ha 8 d want hres
        exact (hwd a).2 (this.2.1 rfl)
      · refine sat_bind (sat_underAll (evOp_sat hS hE (ctx := ctx))) fun x hx => ?_
        have hx2 : ∀ ρ a, ARel ν ρ r a → a.tmps[d]? = some (.bool want) → ORok P I E ν ρ r.st.hp (execOp a.eval o) x := fun ρ a ha hd' => by
          have := (guardInfo_spec ha 8 d want hres).1 hd'
          exact hx this.2 ρ a ha this.1
        cases x with
        | val v => exact sat_mono (stepORg_both hI hwd hx2) fun r' h => ⟨fun _ => h.1, fun _ => h.2⟩
        | hp v hp' =>
          refine sat_ite (fun _ => sat_fail) (fun hq => ?_)
          refine sat_mono (stepORgHp_step hI hn0 hwd (fun ρ a ha => ?_) hx2) fun r' h => ⟨fun _ => h, fun e => absurd e hq⟩
          have := guardInfo_spec ha 8 d want hres
          exact ⟨fun h => (this.1 h).2, this.2.2⟩

end
end Go.Sx
