/- Regions, code, a whole function: the evaluator agrees with the model. -/
import Derived.Test.YthlbgkhbebffaaaR2
import Derived.Deep.Quiet
namespace Go.Sx
open Go.RowKit
section
variable {P : Program} {I : World → Prop} {S : Sigs} {F : FEnv} {E : Env} {gK : Nat} {ν : Nat → DV}

theorem put_some (a : Act) (d : Nat) (v : Value) : a.put (some d) v = { a with tmps := a.tmps.setIfInBounds d v } := rfl

theorem glNoGuard_spec {d : Nat} {l : List GE} (h : glNoGuard d l = true) : ∀ e ∈ l, e.d ≠ d := by
  intro e he hd
  have := List.all_eq_true.1 h e he
  simp [hd] at this
theorem glDrop_spec {t : Nat} {l : List GE} {e : GE} (h : e ∈ glDrop t l) : e ∈ l ∧ e.t ≠ t := by
  unfold glDrop at h
  have := List.mem_filter.1 h
  refine ⟨this.1, fun ht => ?_⟩
  have h2 := this.2
  simp [ht] at h2

theorem put_sat {r : RS} {dst : Option Tmp} {ov : Option V} : M.sat F ν (r.put dst ov) (fun r' => r'.st.hp = r.st.hp ∧ ∀ ρ a (x : Value), ARel ν ρ r a → (∀ v, ov = some v → v.good ν ∧ x = v.conc ν ρ) →
    ARel ν ρ r' (a.put dst x)) := by
  unfold RS.put
  cases dst with
  | none => exact sat_pure ⟨rfl, fun ρ a x h _ => h⟩
  | some d =>
    refine sat_ite (fun hn => sat_pure ⟨rfl, fun ρ a x h hv => ?_⟩) (fun _ => sat_fail)
    have hn := glNoGuard_spec hn
    refine ⟨h.defers, by simp [put_some, setNth_length, h.size], fun t v ht => ?_, fun e he => ?_⟩
    · by_cases htd : d = t
      · subst htd
        simp only at ht
        rw [nth_setNth_same] at ht
        split at ht
        · rename_i hlt
          obtain ⟨h1, h2⟩ := hv v ht
          refine ⟨h1, ?_⟩
          rw [put_some, h2]
          simp [h.size, hlt]
        · cases ht
      · simp only at ht
        rw [nth_setNth_ne _ _ _ _ htd] at ht
        have := h.slot t v ht
        refine ⟨this.1, ?_⟩
        rw [put_some]
        simp only
        rw [Array.getElem?_setIfInBounds_ne htd]
        exact this.2
    · obtain ⟨h1, h2⟩ := glDrop_spec he
      have hd := hn e h1
      have := h.gl e h1
      rw [put_some]
      simp only
      rw [Array.getElem?_setIfInBounds_ne (Ne.symm hd), Array.getElem?_setIfInBounds_ne (Ne.symm h2)]
      exact this

theorem putG_sat {r : RS} {dst : Option Tmp} {v : V} {d : Nat} {want : Bool} : M.sat F ν (r.putG dst v d want) (fun r' => r'.st.hp = r.st.hp ∧ ∀ ρ a (x : Value), ARel ν ρ r a →
    (a.tmps[d]? = some (.bool want) → v.good ν ∧ x = v.conc ν ρ) → (a.tmps[d]? ≠ some (.bool want) → x = undef) → ARel ν ρ r' (a.put dst x)) := by
  unfold RS.putG
  cases dst with
  | none => exact sat_pure ⟨rfl, fun ρ a x h _ _ => h⟩
  | some t =>
    refine sat_ite (fun hc => sat_pure ⟨rfl, fun ρ a x h h1 h2 => ?_⟩) (fun _ => sat_fail)
    simp only [Bool.and_eq_true, Bool.not_eq_true', decide_eq_true_eq] at hc
    obtain ⟨⟨hn, htd⟩, hlt⟩ := hc
    have hn := glNoGuard_spec hn
    have htd : t ≠ d := by intro e; subst e; simp at htd
    have hd : (a.put (some t) x).tmps[d]? = a.tmps[d]? := by
      rw [put_some]; simp only; rw [Array.getElem?_setIfInBounds_ne htd]
    have ht : (a.put (some t) x).tmps[t]? = some x := by
      rw [put_some]; simp [h.size, hlt]
    refine ⟨h.defers, by simp [put_some, setNth_length, h.size], fun t' v' ht' => ?_, fun e he => ?_⟩
    · by_cases hne : t = t'
      · subst hne
        simp only at ht'
        rw [nth_setNth_same] at ht'
        split at ht' <;> cases ht'
      · simp only at ht'
        rw [nth_setNth_ne _ _ _ _ hne] at ht'
        have := h.slot t' v' ht'
        refine ⟨this.1, ?_⟩
        rw [put_some]; simp only; rw [Array.getElem?_setIfInBounds_ne hne]
        exact this.2
    · rcases List.mem_cons.1 he with rfl | he
      · simp only [hd, ht]
        exact ⟨fun hw => by obtain ⟨g1, g2⟩ := h1 hw; exact ⟨g1, by rw [g2]⟩, fun hw => by rw [h2 hw]⟩
      · obtain ⟨h3, h4⟩ := glDrop_spec he
        have hd := hn e h3
        have := h.gl e h3
        rw [put_some]
        simp only
        rw [Array.getElem?_setIfInBounds_ne (Ne.symm hd), Array.getElem?_setIfInBounds_ne (Ne.symm h4)]
        exact this

theorem glEntry_spec {t : Nat} : ∀ {l : List GE} {e : GE}, glEntry t l = some e → e ∈ l ∧ e.t = t
  | [], _, h => by simp [glEntry] at h
  | x :: l, e, h => by
    simp only [glEntry] at h
    split at h
    · cases h; exact ⟨by simp, Nat.eq_of_beq_eq_true ‹_›⟩
    · obtain ⟨h1, h2⟩ := glEntry_spec h
      exact ⟨List.mem_cons_of_mem _ h1, h2⟩

def GInfo (ν : Nat → DV) (a : Act) (d : Nat) (want : Bool) : Option (Ctx × List (A × Bool)) → Prop
  | none => a.tmps[d]? ≠ some (.bool want)
  | some (ctx, cs) => (a.tmps[d]? = some (.bool want) → CtxOk ctx a ∧ ∀ c ∈ cs, c.1.bool ν = c.2) ∧ (ctx = [] → a.tmps[d]? = some (.bool want)) ∧ ((∀ c ∈ cs, c.1.bool ν = c.2) → a.tmps[d]? = some (.bool want))

theorem guardInfo_spec {ρ : Nat → Loc} {r : RS} {a : Act} (h : ARel ν ρ r a) : ∀ (n d : Nat) (want : Bool) {res : Option (Ctx × List (A × Bool))}, guardInfo r n d want = some res → GInfo ν a d want res
  | 0, _, _, _, hg => by simp [guardInfo] at hg
  | n + 1, d, want, res, hg => by
    simp only [guardInfo] at hg
    split at hg
    · rename_i x hs
      have hv := (h.slot d _ hs).2
      split at hg
      · rename_i hb
        have := beqB_eq hb; subst this
        cases hg
        exact ⟨fun _ => ⟨fun p hp => by simp at hp, fun c hc => by simp at hc⟩, fun _ => hv, fun _ => hv⟩
      · rename_i hb
        cases hg
        have hne := beqB_ne hb
        intro heq
        rw [hv] at heq
        simp [V.conc, V1.conc, Lf.conc] at heq
        exact hne heq
    · rename_i x _ hs
      have hv := (h.slot d _ hs).2
      cases hg
      refine ⟨fun heq => ⟨fun p hp => by simp at hp; subst hp; exact heq, fun c hc => ?_⟩, fun hc => by simp at hc, fun hc => ?_⟩
      · simp at hc; subst hc
        rw [hv] at heq
        simpa [V.conc, V1.conc, Lf.conc] using heq
      · have := hc (x, want) (by simp)
        rw [hv]
        simp only at this
        simp [V.conc, V1.conc, Lf.conc, this]
    · cases hg
    · split at hg
      · rename_i e he
        obtain ⟨hmem, rfl⟩ := glEntry_spec he
        have hgl := h.gl e hmem
        split at hg
        · rename_i x hev
          split at hg
          · rename_i ctx cs hrec
            have ih := guardInfo_spec h n e.d e.want hrec
            have hguard : ∀ b, a.tmps[e.t]? = some (.bool b) → a.tmps[e.d]? = some (.bool e.want) := fun b hb => by
              by_cases hw : a.tmps[e.d]? = some (.bool e.want)
              · exact hw
              · have := hgl.2 hw
                rw [this] at hb
                simp [undef] at hb
            split at hg
            · rename_i y
              split at hg
              · rename_i hb
                have := beqB_eq hb; subst this
                cases hg
                refine ⟨fun heq => ?_, fun hc => by simp at hc, fun hc => ?_⟩
                · have h1 := ih.1 (hguard _ heq)
                  refine ⟨fun p hp => ?_, h1.2⟩
                  rcases List.mem_cons.1 hp with rfl | hp
                  · exact heq
                  · exact h1.1 p hp
                · have := (hgl.1 (ih.2.2 hc)).2
                  rw [this, hev]
                  rfl
              · rename_i hb
                cases hg
                intro heq
                have h1 := (hgl.1 (hguard _ heq)).2
                rw [h1, hev] at heq
                simp [V.conc, V1.conc, Lf.conc] at heq
                exact beqB_ne hb heq
            · cases hg
              refine ⟨fun heq => ?_, fun hc => by simp at hc, fun hc => ?_⟩
              · have h1 := ih.1 (hguard _ heq)
                refine ⟨fun p hp => ?_, fun c hc => ?_⟩
                · rcases List.mem_cons.1 hp with rfl | hp
                  · exact heq
                  · exact h1.1 p hp
                · rcases List.mem_cons.1 hc with rfl | hc
                  · have h2 := (hgl.1 (hguard _ heq)).2
                    rw [h2, hev] at heq
                    simpa [V.conc, V1.conc, Lf.conc] using heq
                  · exact h1.2 c hc
              · have := (hgl.1 (ih.2.2 fun c hcm => hc c (List.mem_cons_of_mem _ hcm))).2
                rw [this, hev]
                have h2 := hc (x, want) (by simp)
                simp only at h2
                simp [V.conc, V1.conc, Lf.conc, h2]
          · rename_i hrec
            cases hg
            have ih := guardInfo_spec h n e.d e.want hrec
            intro heq
            have := hgl.2 ih
            rw [this] at heq
            simp [undef] at heq
          · cases hg
        · cases hg
      · cases hg

theorem wanted_spec {o : Oper} {ops : Array Oper} {a : Act} {j d : Nat} {want : Bool} (hg : o.guard = some (j, want)) (hd : (ops[j]?).bind (·.dst) = some d) :
    Region.wanted o (yielded ops a.tmps) = true ↔ a.tmps[d]? = some (.bool want) := by
  simp only [Region.wanted, hg, yielded, hd, Option.bind_some]
  cases ht : a.tmps[d]? with
  | none => simp
  | some v => cases v <;> simp

def StepOK (P : Program) (ν : Nat → DV) (E : Env) (ops : Array Oper) (o : Oper) (r r' : RS) : Prop :=
  ∀ ρ a w, RR ν E ρ r a w → ∀ (K : Act → World → Prop) (Q : Exit → Act → World → Prop), (∀ ρ' a' w', RR ν E ρ' r' a' w' → K a' w') →
    if Region.wanted o (yielded ops a.tmps) = true then o.wp P a w K Q else K (a.put o.dst undef) w

def QuietOK (P : Program) (ν : Nat → DV) (E : Env) (ops : Array Oper) (o : Oper) (r r' : RS) : Prop :=
  r'.st.hp = r.st.hp ∧ ∀ ρ a, ARel ν ρ r a → (∃ w, HS E ν ρ r.st.hp w) → ∀ C : World → Prop, C = (fun w => HS E ν ρ r.st.hp w) →
    if Region.wanted o (yielded ops a.tmps) = true then ∃ v, (∀ w, C w → o.quietAt P a C w v) ∧ ARel ν ρ r' (a.put o.dst v) else ARel ν ρ r' (a.put o.dst undef)

theorem wp_of_val {o : Oper} {a : Act} {w : World} {v : Value} {K : Act → World → Prop} {Q : Exit → Act → World → Prop} (h : RunsVal P (execOp a.eval o) w v)
    (hk : ∀ w', Below w.heap.size w w' → K (a.put o.dst v) w') : o.wp P a w K Q := by
  unfold Oper.wp
  rcases h with h | ⟨f, args, h, hc⟩
  · rw [h]; exact hk w (Below.refl _ _)
  · rw [h]
    exact hc.mono fun e w' ⟨he, hb⟩ => by subst he; exact hk w' hb

theorem upon_skip {o : Oper} {a : Act} {w w' : World} {K : Act → World → Prop} {Q : Exit → Act → World → Prop} (h : (execOp a.eval o).run P w = .ok .skip w') (hk : K (a.put o.dst undef) w') : o.wp P a w K Q := by
  unfold Oper.wp
  rw [h]; exact hk

theorem ARel.ext {ρ ρ' : Nat → Loc} {r : RS} {a : Act} {n : Nat} (h : ARel ν ρ r a) (hρ : ∀ j, j < n → ρ' j = ρ j) (h1 : r.st.sl.all (optAll (V.lt n)) = true) (h2 : r.gl.all (fun e => e.v.lt n) = true) (hp : List (Option Blk)) :
    ARel ν ρ' ⟨⟨r.st.sl, hp⟩, r.gl⟩ a := by
  have hl : ∀ l : Lf, l.lt n = true → l.conc ν ρ' = l.conc ν ρ := fun l hl => by
    cases l <;> simp only [Lf.lt, decide_eq_true_eq] at hl <;> simp only [Lf.conc] <;> first | rw [hρ _ hl] | rw [capsConc_lt hl hρ]
  have hv1 : ∀ v : V1, v.lt n = true → v.conc ν ρ' = v.conc ν ρ := fun v hv => by
    cases v with
    | one l => exact hl l (by simpa [V1.lt, V1.cells] using hv)
    | agg l =>
      simp only [V1.conc]
      congr 2
      exact List.map_congr_left fun x hx => hl x (List.all_eq_true.1 hv x hx)
  have hv : ∀ v : V, v.lt n = true → v.conc ν ρ' = v.conc ν ρ := fun v hv => by
    cases v with
    | s v => exact hv1 v hv
    | t l =>
      simp only [V.conc]
      congr 2
      exact List.map_congr_left fun x hx => hv1 x (List.all_eq_true.1 hv x hx)
  refine ⟨h.defers, h.size, fun t v ht => ?_, fun e he => ?_⟩
  · obtain ⟨g1, g2⟩ := h.slot t v ht
    exact ⟨g1, by rw [hv v (all_nth_of h1 ht)]; exact g2⟩
  · have := h.gl e he
    rw [hv e.v (List.all_eq_true.1 h2 e he)]
    exact this

theorem stepOR_step (hI : ∀ w, Fr E.W E.w0 w → I w) {ops : Array Oper} {o : Oper} {r : RS} {x : OR} (hw : ∀ ρ a, ARel ν ρ r a → Region.wanted o (yielded ops a.tmps) = true)
    (hx : ∀ ρ a, ARel ν ρ r a → ORok P I E ν ρ r.st.hp (execOp a.eval o) x) : M.sat F ν (stepOR false r o.dst x) (StepOK P ν E ops o r) := by
  cases x with
  | val v =>
    refine sat_mono put_sat fun r' hr' ρ a w hrr K Q hK => ?_
    rw [if_pos (hw ρ a hrr.act)]
    obtain ⟨hg, hrun⟩ := hx ρ a hrr.act w hrr.hs (hI w hrr.hs.fr)
    refine wp_of_val hrun fun w' hb => hK ρ _ w' ?_
    have := hrr.below hb
    exact ⟨hr'.2 ρ a _ hrr.act (fun v' hv' => by cases hv'; exact ⟨hg, rfl⟩), by rw [hr'.1]; exact this.hs⟩
  | hp v hp' =>
    unfold stepOR
    refine sat_ite (fun hc => ?_) (fun _ => sat_fail)
    simp only [Bool.not_false, Bool.true_and, Bool.and_eq_true] at hc
    refine sat_mono put_sat fun r' hr' ρ a w hrr K Q hK => ?_
    rw [if_pos (hw ρ a hrr.act)]
    have hrun := hx ρ a hrr.act w hrr.hs (hI w hrr.hs.fr)
    have fin : ∀ (nv : Option Value) (y : Value) (w' : World), (∀ z, nv = some z → y = z) → (∃ ρ' : Nat → Loc, (∀ j, j < r.st.hp.length → ρ' j = ρ j) ∧ HS E ν ρ' hp' w' ∧ ∀ u, v = some u → u.good ν ∧ nv = some (u.conc ν ρ')) → K (a.put o.dst y) w' := by
      rintro nv y w' hy ⟨ρ', k1, k2, k3⟩
      refine hK ρ' _ w' ⟨hr'.2 ρ' a y (hrr.act.ext k1 hc.1 hc.2 hp') (fun u hu => ?_), by rw [hr'.1]; exact k2⟩
      obtain ⟨g1, g2⟩ := k3 u hu
      exact ⟨g1, hy _ g2⟩
    rcases hrun with ⟨z, w', h1, h2⟩ | ⟨w', h1, h2⟩ | ⟨f, args, h1, h2⟩
    · unfold Oper.wp
      rw [h1]
      exact fin _ z w' (fun z' e => by cases e; rfl) h2
    · exact upon_skip h1 (fin _ undef w' (fun z' e => by cases e) h2)
    · unfold Oper.wp
      rw [h1]
      exact h2.mono fun e w' ⟨z, he, h3⟩ => by subst he; exact fin _ z w' (fun z' e => by cases e; rfl) h3

theorem quiet_of_val {o : Oper} {a : Act} {ρ : Nat → Loc} {hp : List (Option Blk)} {v : Value} {C : World → Prop} (hC : C = fun w => HS E ν ρ hp w)
    (h : ∀ w, HS E ν ρ hp w → RunsVal P (execOp a.eval o) w v) : ∀ w, C w → o.quietAt P a C w v := by
  intro w hw
  have hw' : HS E ν ρ hp w := by rw [hC] at hw; exact hw
  unfold Oper.quietAt
  rcases h w hw' with h | ⟨f, args, h, hc⟩
  · rw [h]; exact ⟨rfl, rfl⟩
  · rw [h]
    refine ⟨rfl, hc.mono fun e w'' ⟨he, hb⟩ => ⟨he, ?_⟩⟩
    rw [hC]
    exact hw'.of_below hb

theorem stepOR_quiet (hI : ∀ w, Fr E.W E.w0 w → I w) {ops : Array Oper} {o : Oper} {r : RS} {x : OR} (hw : ∀ ρ a, ARel ν ρ r a → Region.wanted o (yielded ops a.tmps) = true)
    (hx : ∀ ρ a, ARel ν ρ r a → ORok P I E ν ρ r.st.hp (execOp a.eval o) x) : M.sat F ν (stepOR true r o.dst x) (QuietOK P ν E ops o r) := by
  cases x with
  | val v =>
    refine sat_mono put_sat fun r' hr' => ⟨hr'.1, fun ρ a ha hex C hC => ?_⟩
    rw [if_pos (hw ρ a ha)]
    obtain ⟨w, hw1⟩ := hex
    refine ⟨v.conc ν ρ, quiet_of_val hC fun w hw => (hx ρ a ha w hw (hI w hw.fr)).2, hr'.2 ρ a _ ha fun v' hv' => ?_⟩
    cases hv'; exact ⟨(hx ρ a ha w hw1 (hI w hw1.fr)).1, rfl⟩
  | hp v hp' => unfold stepOR; simp only [Bool.not_true, Bool.false_and, Bool.false_eq_true, if_false]; exact sat_fail

theorem stepORg_both (hI : ∀ w, Fr E.W E.w0 w → I w) {ops : Array Oper} {o : Oper} {r : RS} {d : Nat} {want : Bool} {x : OR} (hw : ∀ (a : Act), Region.wanted o (yielded ops a.tmps) = true ↔ a.tmps[d]? = some (.bool want))
    (hx : ∀ ρ a, ARel ν ρ r a → a.tmps[d]? = some (.bool want) → ORok P I E ν ρ r.st.hp (execOp a.eval o) x) :
    M.sat F ν (stepORg r o.dst d want x) (fun r' => StepOK P ν E ops o r r' ∧ QuietOK P ν E ops o r r') := by
  cases x with
  | val v =>
    refine sat_mono putG_sat fun r' hr' => ⟨fun ρ a w hrr K Q hK => ?_, hr'.1, fun ρ a ha hex C hC => ?_⟩
    · by_cases hg : Region.wanted o (yielded ops a.tmps) = true
      · rw [if_pos hg]
        have hd := (hw a).1 hg
        obtain ⟨hgood, hrun⟩ := hx ρ a hrr.act hd w hrr.hs (hI w hrr.hs.fr)
        refine wp_of_val hrun fun w' hb => hK ρ _ w' ?_
        have := hrr.below hb
        exact ⟨hr'.2 ρ a _ hrr.act (fun _ => ⟨hgood, rfl⟩) (fun hn => absurd hd hn), by rw [hr'.1]; exact this.hs⟩
      · rw [if_neg hg]
        have hd : a.tmps[d]? ≠ some (.bool want) := fun h => hg ((hw a).2 h)
        exact hK ρ _ w ⟨hr'.2 ρ a _ hrr.act (fun h => absurd h hd) (fun _ => rfl), by rw [hr'.1]; exact hrr.hs⟩
    · by_cases hg : Region.wanted o (yielded ops a.tmps) = true
      · rw [if_pos hg]
        have hd := (hw a).1 hg
        obtain ⟨w, hw1⟩ := hex
        exact ⟨v.conc ν ρ, quiet_of_val hC fun w hw => (hx ρ a ha hd w hw (hI w hw.fr)).2, hr'.2 ρ a _ ha (fun _ => ⟨(hx ρ a ha hd w hw1 (hI w hw1.fr)).1, rfl⟩) (fun hn => absurd hd hn)⟩
      · rw [if_neg hg]
        have hd : a.tmps[d]? ≠ some (.bool want) := fun h => hg ((hw a).2 h)
        exact hr'.2 ρ a _ ha (fun h => absurd h hd) (fun _ => rfl)
  | hp v hp' => exact sat_fail

theorem mergeAs_sat {c : A} : ∀ (ts : List Ty) (as bs : List A), M.sat F ν (mergeAs c ts as bs) (fun r => (c.bool ν = true → PEq ν ν ts as r) ∧ (c.bool ν = false → PEq ν ν ts bs r))
  | .i :: ts, a :: l, b :: l' => by
    unfold mergeAs
    refine sat_bind mkIteI_sat fun x hx => sat_bind (mergeAs_sat ts l l') fun r hr => sat_pure ⟨fun h => ⟨?_, hr.1 h⟩, fun h => ⟨?_, hr.2 h⟩⟩
    · show a.int ν = x.int ν
      rw [hx, h]; rfl
    · show b.int ν = x.int ν
      rw [hx, h]; rfl
  | .b :: ts, a :: l, b :: l' => by
    unfold mergeAs
    refine sat_bind mkIteB_sat fun x hx => sat_bind (mergeAs_sat ts l l') fun r hr => sat_pure ⟨fun h => ⟨?_, hr.1 h⟩, fun h => ⟨?_, hr.2 h⟩⟩
    · show a.bool ν = x.bool ν
      rw [hx, h]; rfl
    · show b.bool ν = x.bool ν
      rw [hx, h]; rfl
  | .l :: ts, a :: l, b :: l' => by
    unfold mergeAs
    refine sat_bind mkIteL_sat fun x hx => sat_bind (mergeAs_sat ts l l') fun r hr => sat_pure ⟨fun h => ⟨?_, hr.1 h⟩, fun h => ⟨?_, hr.2 h⟩⟩
    · show a.cells ν = x.cells ν
      rw [hx, h]; rfl
    · show b.cells ν = x.cells ν
      rw [hx, h]; rfl
  | [], [], [] => sat_pure ⟨fun _ => trivial, fun _ => trivial⟩
  | [], [], _ :: _ => sat_fail
  | [], _ :: _, _ => sat_fail
  | .i :: _, [], _ => sat_fail
  | .i :: _, _ :: _, [] => sat_fail
  | .b :: _, [], _ => sat_fail
  | .b :: _, _ :: _, [] => sat_fail
  | .l :: _, [], _ => sat_fail
  | .l :: _, _ :: _, [] => sat_fail

theorem keeps_mono {m : List Nat} {n k : Nat} (h : keeps m n = true) (hk : k ≤ n) : keeps m k = true := by
  have := keeps_spec h
  induction k with
  | zero => rfl
  | succ k ih => simp only [keeps, Bool.and_eq_true]; exact ⟨ih (by omega), by rw [this k (by omega)]; exact Nat.beq_refl _⟩

theorem mergeSt_sat2 {n0 : Nat} (hn : E.n0 ≤ n0) {c : A} {x y : St} : M.sat F ν (mergeSt n0 c x y) (fun s => ∀ ρ a w, (c.bool ν = true → RR ν E ρ ⟨x, []⟩ a w → ∃ ρ', (∀ j, j < n0 → ρ' j = ρ j) ∧ RR ν E ρ' ⟨s, []⟩ a w) ∧
    (c.bool ν = false → RR ν E ρ ⟨y, []⟩ a w → ∃ ρ', (∀ j, j < n0 → ρ' j = ρ j) ∧ RR ν E ρ' ⟨s, []⟩ a w)) := by
  unfold mergeSt
  dsimp only
  generalize joinPat x y = p
  generalize guess p.tys.length p.st x = gx
  generalize guess p.tys.length p.st y = gy
  refine sat_ite (fun hc => ?_) (fun _ => sat_fail)
  simp only [Bool.and_eq_true] at hc
  obtain ⟨⟨⟨⟨⟨h1, h2⟩, h3⟩, h4⟩, h5⟩, h6⟩ := hc
  have h6 := Nat.le_of_ble_eq_true h6
  refine sat_bind (mergeAs_sat _ _ _) fun ops hops => sat_pure fun ρ a w => ⟨fun hb h => ?_, fun hb h => ?_⟩
  · exact ⟨fun j => ρ (rnm gx.2 j), fun j hj => congrArg ρ (keeps_spec h4 j hj), RR.inst (fun _ _ => rfl) (hops.1 hb) h1 (h.sub h2 (keeps_mono h4 hn) (by simp only [St.inst, List.length_map]; omega))⟩
  · exact ⟨fun j => ρ (rnm gy.2 j), fun j hj => congrArg ρ (keeps_spec h5 j hj), RR.inst (fun _ _ => rfl) (hops.2 hb) h1 (h.sub h3 (keeps_mono h5 hn) (by simp only [St.inst, List.length_map]; omega))⟩

theorem conj_sat : ∀ (cs : List (A × Bool)), M.sat F ν (conj cs) (fun c => c.bool ν = true ↔ ∀ p ∈ cs, p.1.bool ν = p.2)
  | [] => sat_pure ⟨fun _ p hp => (by cases hp), fun _ => rfl⟩
  | (a, b) :: l => by
    unfold conj
    refine sat_bind (R := fun x => x.bool ν = true ↔ a.bool ν = b) ?_ fun x hx => sat_bind (conj_sat l) fun r hr => sat_mono mkAnd_sat fun c hc => ?_
    · cases b
      · exact sat_mono mkNot_sat fun r hr => by rw [hr]; simp
      · exact sat_pure Iff.rfl
    · rw [hc, Bool.and_eq_true, hx, hr]
      constructor
      · rintro ⟨h1, h2⟩ p hp
        rcases List.mem_cons.1 hp with rfl | hp
        · exact h1
        · exact h2 p hp
      · intro h
        exact ⟨h (a, b) (by simp), fun p hp => h p (List.mem_cons_of_mem _ hp)⟩

theorem V.conc_agree {n : Nat} {ρ ρ' : Nat → Loc} (hρ : ∀ j, j < n → ρ' j = ρ j) {v : V} (hv : v.lt n = true) : v.conc ν ρ' = v.conc ν ρ := by
  have hl : ∀ l : Lf, l.lt n = true → l.conc ν ρ' = l.conc ν ρ := fun l hl => by
    cases l <;> simp only [Lf.lt, decide_eq_true_eq] at hl <;> simp only [Lf.conc] <;> first | rw [hρ _ hl] | rw [capsConc_lt hl hρ]
  have hv1 : ∀ v : V1, v.lt n = true → v.conc ν ρ' = v.conc ν ρ := fun v hv => by
    cases v with
    | one l => exact hl l (by simpa [V1.lt, V1.cells] using hv)
    | agg l =>
      simp only [V1.conc]
      congr 2
      exact List.map_congr_left fun x hx => hl x (List.all_eq_true.1 hv x hx)
  cases v with
  | s v => exact hv1 v hv
  | t l =>
    simp only [V.conc]
    congr 2
    exact List.map_congr_left fun x hx => hv1 x (List.all_eq_true.1 hv x hx)

theorem stepORgHp_step (hI : ∀ w, Fr E.W E.w0 w → I w) {ops : Array Oper} {o : Oper} {r : RS} {d n0 : Nat} (hEn : n0 = E.n0) {want : Bool} {cs : List (A × Bool)} {v : Option V} {hp' : List (Option Blk)}
    (hw : ∀ (a : Act), Region.wanted o (yielded ops a.tmps) = true ↔ a.tmps[d]? = some (.bool want)) (hg : ∀ ρ a, ARel ν ρ r a → (a.tmps[d]? = some (.bool want) ↔ ∀ c ∈ cs, c.1.bool ν = c.2))
    (hx : ∀ ρ a, ARel ν ρ r a → a.tmps[d]? = some (.bool want) → ORok P I E ν ρ r.st.hp (execOp a.eval o) (.hp v hp')) : M.sat F ν (stepORgHp r o.dst d want cs n0 v hp') (StepOK P ν E ops o r) := by
  unfold stepORgHp
  refine sat_ite (fun hc => ?_) (fun _ => sat_fail)
  simp only [Bool.and_eq_true] at hc
  obtain ⟨⟨hsl, hgl⟩, hle⟩ := hc
  have hle := Nat.le_of_ble_eq_true hle
  rw [hEn] at hle
  refine sat_bind (conj_sat cs) fun c hcb => sat_bind (mergeSt_sat2 (E := E) hle) fun s hs => ?_
  -- the state that is joined
  have join : ∀ ρ a w, RR ν E ρ r a w → (a.tmps[d]? = some (.bool want) → ∀ ρ1 w1, (∀ j, j < r.st.hp.length → ρ1 j = ρ j) → HS E ν ρ1 hp' w1 → ∃ ρ2, (∀ j, j < r.st.hp.length → ρ2 j = ρ j) ∧ RR ν E ρ2 ⟨s, r.gl⟩ a w1) ∧
      (a.tmps[d]? ≠ some (.bool want) → ∃ ρ2, (∀ j, j < r.st.hp.length → ρ2 j = ρ j) ∧ RR ν E ρ2 ⟨s, r.gl⟩ a w) := by
    intro ρ a w hrr
    have glue : ∀ ρ2 w2, (∀ j, j < r.st.hp.length → ρ2 j = ρ j) → RR ν E ρ2 ⟨s, []⟩ a w2 → RR ν E ρ2 ⟨s, r.gl⟩ a w2 := fun ρ2 w2 h1 h2 =>
      ⟨⟨h2.act.defers, h2.act.size, h2.act.slot, fun e he => by
        have := hrr.act.gl e he
        rw [V.conc_agree h1 (List.all_eq_true.1 hgl e he)]
        exact this⟩, h2.hs⟩
    refine ⟨fun hd ρ1 w1 h1 h2 => ?_, fun hd => ?_⟩
    · have hext := hrr.act.ext h1 hsl hgl hp'
      obtain ⟨ρ2, e1, e2⟩ := (hs ρ1 a w1).1 (hcb.2 ((hg ρ a hrr.act).1 hd)) ⟨⟨hext.defers, hext.size, hext.slot, fun e he => by cases he⟩, h2⟩
      have e3 : ∀ j, j < r.st.hp.length → ρ2 j = ρ j := fun j hj => (e1 j hj).trans (h1 j hj)
      exact ⟨ρ2, e3, glue ρ2 w1 e3 e2⟩
    · have hcf : c.bool ν = false := by
        cases hc : c.bool ν with
        | false => rfl
        | true => exact absurd ((hg ρ a hrr.act).2 (hcb.1 hc)) hd
      obtain ⟨ρ2, e1, e2⟩ := (hs ρ a w).2 hcf ⟨⟨hrr.act.defers, hrr.act.size, hrr.act.slot, fun e he => by cases he⟩, hrr.hs⟩
      exact ⟨ρ2, e1, glue ρ2 w e1 e2⟩
  cases v with
  | none =>
    refine sat_mono put_sat fun r' hr' ρ a w hrr K Q hK => ?_
    obtain ⟨j1, j2⟩ := join ρ a w hrr
    have fin : ∀ ρ2 (y : Value) w2, RR ν E ρ2 ⟨s, r.gl⟩ a w2 → K (a.put o.dst y) w2 := fun ρ2 y w2 h => hK ρ2 _ w2 ⟨hr'.2 ρ2 a y h.act (fun u hu => by cases hu), by rw [hr'.1]; exact h.hs⟩
    split
    · rename_i hwt
      have hd := (hw a).1 hwt
      rcases hx ρ a hrr.act hd w hrr.hs (hI w hrr.hs.fr) with ⟨z, w', h1, ρ1, h2, h3, _⟩ | ⟨w', h1, ρ1, h2, h3, _⟩ | ⟨f, args, h1, h2⟩
      · obtain ⟨ρ2, _, h4⟩ := j1 hd ρ1 w' h2 h3
        unfold Oper.wp
        rw [h1]
        exact fin ρ2 z w' h4
      · obtain ⟨ρ2, _, h4⟩ := j1 hd ρ1 w' h2 h3
        exact upon_skip h1 (fin ρ2 undef w' h4)
      · unfold Oper.wp
        rw [h1]
        exact h2.mono fun e w' ⟨z, he, ρ1, h2, h3, _⟩ => by
          subst he
          obtain ⟨ρ2, _, h4⟩ := j1 hd ρ1 w' h2 h3
          exact fin ρ2 z w' h4
    · rename_i hwt
      obtain ⟨ρ2, _, h4⟩ := j2 fun h => hwt ((hw a).2 h)
      exact fin ρ2 undef w h4
  | some v =>
    refine sat_ite (fun hv0 => ?_) (fun _ => sat_fail)
    refine sat_mono putG_sat fun r' hr' ρ a w hrr K Q hK => ?_
    obtain ⟨j1, j2⟩ := join ρ a w hrr
    split
    · rename_i hwt
      have hd := (hw a).1 hwt
      have fin : ∀ ρ1 ρ2 (y : Value) w2, RR ν E ρ2 ⟨s, r.gl⟩ a w2 → v.good ν → y = v.conc ν ρ1 → K (a.put o.dst y) w2 := fun ρ1 ρ2 y w2 h hg hy =>
        hK ρ2 _ w2 ⟨hr'.2 ρ2 a y h.act (fun _ => ⟨hg, by rw [hy]; exact V.conc_agree (n := 0) (fun j hj => by omega) hv0⟩) (fun hn => absurd hd hn), by rw [hr'.1]; exact h.hs⟩
      rcases hx ρ a hrr.act hd w hrr.hs (hI w hrr.hs.fr) with ⟨z, w', h1, ρ1, h2, h3, h5⟩ | ⟨w', h1, ρ1, h2, h3, h5⟩ | ⟨f, args, h1, h2⟩
      · obtain ⟨ρ2, _, h4⟩ := j1 hd ρ1 w' h2 h3
        obtain ⟨h6, h7⟩ := h5 v rfl
        unfold Oper.wp
        rw [h1]
        exact fin ρ1 ρ2 z w' h4 h6 (Option.some.inj h7)
      · obtain ⟨h6, h7⟩ := h5 v rfl
        cases h7
      · unfold Oper.wp
        rw [h1]
        exact h2.mono fun e w' ⟨z, he, ρ1, h2, h3, h5⟩ => by
          subst he
          obtain ⟨ρ2, _, h4⟩ := j1 hd ρ1 w' h2 h3
          obtain ⟨h6, h7⟩ := h5 v rfl
          exact fin ρ1 ρ2 z w' h4 h6 (Option.some.inj h7)
    · rename_i hwt
      have hd : a.tmps[d]? ≠ some (.bool want) := fun h => hwt ((hw a).2 h)
      obtain ⟨ρ2, _, h4⟩ := j2 hd
      exact hK ρ2 _ w ⟨hr'.2 ρ2 a undef h4.act (fun h => absurd h hd) (fun _ => rfl), by rw [hr'.1]; exact h4.hs⟩

theorem evOper_sat (hS : SigsOK P I gK S F) (hE : E.Ok gK) (hn0 : S.n0 = E.n0) (hI : ∀ w, Fr E.W E.w0 w → I w) {ops : Array Oper} {r : RS} {o : Oper} (q : Bool) : M.sat F ν (evOper P S q ops.toList r o) (fun r' => (q = false → StepOK P ν E ops o r r') ∧ (q = true → QuietOK P ν E ops o r r')) := by
  unfold evOper
  have hboth : ∀ {x : OR}, (∀ ρ a, ARel ν ρ r a → Region.wanted o (yielded ops a.tmps) = true) → (∀ ρ a, ARel ν ρ r a → ORok P I E ν ρ r.st.hp (execOp a.eval o) x) →
      M.sat F ν (stepOR q r o.dst x) (fun r' => (q = false → StepOK P ν E ops o r r') ∧ (q = true → QuietOK P ν E ops o r r')) := by
    intro x h1 h2
    cases q
    · exact sat_mono (stepOR_step hI h1 h2) fun r' h => ⟨fun _ => h, fun e => by cases e⟩
    · exact sat_mono (stepOR_quiet hI h1 h2) fun r' h => ⟨fun e => (by cases e), fun _ => h⟩
  split
  · rename_i hg
    refine sat_bind (evOp_sat hS hE) fun x hx => hboth (fun ρ a _ => by simp [Region.wanted, hg]) fun ρ a ha => hx ρ a ha (fun p hp => by simp at hp)
  · rename_i j want hg
    refine sat_bind (sat_lift (Q := fun d => (ops[j]?).bind (·.dst) = some d) fun a h => by simpa using h) fun d hd => ?_
    refine sat_bind (sat_lift (Q := fun res => guardInfo r 8 d want = some res) fun a h => h) fun res hres => ?_
    have hwd : ∀ (a : Act), Region.wanted o (yielded ops a.tmps) = true ↔ a.tmps[d]? = some (.bool want) := fun a => wanted_spec hg hd
    split
    · refine sat_mono put_sat fun r' hr' => ⟨fun _ ρ a w hrr K Q hK => ?_, fun _ => ⟨hr'.1, fun ρ a ha _ C _ => ?_⟩⟩
      · have hn : a.tmps[d]? ≠ some (.bool want) := guardInfo_spec hrr.act 8 d want hres
        rw [if_neg (fun h => hn ((hwd a).1 h))]
        exact hK ρ _ w ⟨hr'.2 ρ a _ hrr.act (fun v hv => by cases hv), by rw [hr'.1]; exact hrr.hs⟩
      · have hn : a.tmps[d]? ≠ some (.bool want) := guardInfo_spec ha 8 d want hres
        rw [if_neg (fun h => hn ((hwd a).1 h))]
        exact hr'.2 ρ a _ ha (fun v hv => by cases hv)
    · rename_i ctx cs
      split
      · refine sat_bind (evOp_sat hS hE) fun x hx => hboth (fun ρ a ha => ?_) fun ρ a ha => hx ρ a ha (fun p hp => by simp at hp)
        have := guardInfo_spec ha 8 d want hres
        exact (hwd a).2 (this.2.1 rfl)
      · refine sat_bind (sat_underAll (evOp_sat hS hE (ctx := ctx))) fun x hx => ?_
        have hx2 : ∀ ρ a, ARel ν ρ r a → a.tmps[d]? = some (.bool want) → ORok P I E ν ρ r.st.hp (execOp a.eval o) x := fun ρ a ha hd' => by
          have := (guardInfo_spec ha 8 d want hres).1 hd'
          exact hx this.2 ρ a ha this.1
        cases x with
        | val v => exact sat_mono (stepORg_both hI hwd hx2) fun r' h => ⟨fun _ => h.1, fun _ => h.2⟩
        | hp v hp' =>
          refine sat_ite (fun _ => sat_fail) (fun hq => ?_)
          refine sat_mono (stepORgHp_step hI hn0 hwd (fun ρ a ha => ?_) hx2) fun r' h => ⟨fun _ => h, fun e => absurd e hq⟩
          have := guardInfo_spec ha 8 d want hres
          exact ⟨fun h => (this.1 h).2, this.2.2⟩

end
end Go.Sx

namespace Go.Sx
open Go.RowKit
section
variable {P : Program} {md : Region.Mode}

theorem upon_mono {o : Oper} {a : Act} {K K' : Act → World → Prop} {Q Q' : Exit → Act → World → Prop} {r : Result Next} (hk : ∀ a w, K a w → K' a w) (hq : ∀ e a w, e ≠ .normal → Q e a w → Q' e a w)
    (h : o.upon P a K Q r) : o.upon P a K' Q' r := by
  have hl : LetsOut Q → LetsOut Q' := fun ⟨a, w, h⟩ => ⟨a, w, hq _ a w (by simp) h⟩
  cases r with
  | ok n w' =>
    cases n <;> simp only [Oper.upon] at h ⊢ <;>
      first
        | exact hk _ _ h
        | exact Calls.mono h (fun e w'' he => by cases e <;> first | exact hk _ _ he | exact hq _ _ _ (by simp) he | exact hl he)
        | exact Rows.mono h (fun _ _ he => hk _ _ he)
  | halt x w' => cases x <;> simp only [Oper.upon] at h ⊢ <;> first | exact hq _ _ _ (by simp) h | exact h

theorem operWp_mono {o : Oper} {a : Act} {w : World} {K K' : Act → World → Prop} {Q Q' : Exit → Act → World → Prop} (hk : ∀ a w, K a w → K' a w) (hq : ∀ e a w, e ≠ .normal → Q e a w → Q' e a w)
    (h : o.wp P a w K Q ∨ (o.asks P a w ∧ LetsOut Q)) : o.wp P a w K' Q' ∨ (o.asks P a w ∧ LetsOut Q') := by
  rcases h with h | ⟨h1, a', w', h2⟩
  · exact .inl (upon_mono hk hq h)
  · exact .inr ⟨h1, a', w', hq _ _ _ (by simp) h2⟩

theorem wpOp_change {ops ops' : Array Oper} {i : Nat} {a : Act} {w : World} {K K' : Act → World → Prop} {Q Q' : Exit → Act → World → Prop} (ho : ops'[i]? = ops[i]?)
    (hg : ∀ o, ops[i]? = some o → Region.wanted o (yielded ops' a.tmps) = Region.wanted o (yielded ops a.tmps)) (hk : ∀ a w, K a w → K' a w) (hq : ∀ e a w, e ≠ .normal → Q e a w → Q' e a w)
    (h : wpOp P ops Q i K a w) : wpOp P ops' Q' i K' a w := by
  unfold wpOp at h ⊢
  rw [ho]
  cases hop : ops[i]? with
  | none => simp only [hop] at h ⊢; exact hk _ _ h
  | some o =>
    simp only [hop] at h ⊢
    rw [hg o hop]
    split
    · rename_i hw; simp only [hw, if_true] at h; exact operWp_mono hk hq h
    · rename_i hw; simp only [hw] at h; exact hk _ _ h

theorem wpAny_mono {ops : Array Oper} {Q Q' : Exit → Act → World → Prop} (hq : ∀ e a w, Q e a w → Q' e a w) : ∀ (fuel : Nat) (listed : Array Bool) (a : Act) (w : World), wpAny P md ops Q fuel listed a w → wpAny P md ops Q' fuel listed a w
  | 0, _, _, _, h => ⟨h.1, hq _ _ _ h.2⟩
  | fuel + 1, _, _, _, h => ⟨fun h0 => hq _ _ _ (h.1 h0), fun i hi => wpOp_change rfl (fun _ _ => rfl) (wpAny_mono hq fuel _) (fun e a w _ => hq e a w) (h.2 i hi)⟩

theorem getD_push_false (l : Array Bool) (j : Nat) : (l.push false).getD j false = l.getD j false := by
  rw [Array.getD_eq_getD_getElem?, Array.getD_eq_getD_getElem?, Array.getElem?_push]
  split
  · rename_i h; subst h; simp
  · rfl
theorem getD_push_ne (l : Array Bool) {j : Nat} (h : j ≠ l.size) (d : Bool) : (l.push false).getD j d = l.getD j d := by
  rw [Array.getD_eq_getD_getElem?, Array.getD_eq_getD_getElem?, Array.getElem?_push, if_neg h]
theorem getD_push_true {l : Array Bool} {j : Nat} (h : j < l.size) : (l.push false).getD j true = l.getD j true := getD_push_ne l (by omega) true
theorem getD_push_at {l : Array Bool} {n : Nat} (h : l.size = n) (d : Bool) : (l.push false).getD n d = false := by
  rw [Array.getD_eq_getD_getElem?, Array.getElem?_push, if_pos h.symm]; rfl
theorem getD_true_false {l : Array Bool} {j : Nat} (h : j < l.size) : l.getD j true = l.getD j false := by simp [h]

def BackOk (md : Region.Mode) (ops : Array Oper) : Prop := ∀ (i : Nat) (o : Oper), ops[i]? = some o → (∀ e ∈ o.after, Region.binds md e = true → e.on < i) ∧ ∀ j b, o.guard = some (j, b) → j < i

theorem all_listed {ops : Array Oper} {listed : Array Bool} (hs : listed.size = ops.size) (hb : BackOk md ops) (h : Region.ready md ops listed = []) : ∀ i, i < ops.size → listed.getD i false = true := by
  intro i
  induction i using Nat.strongRecOn with
  | _ i ih =>
    intro hi
    cases hl : listed.getD i false with
    | true => rfl
    | false =>
      exfalso
      have hmem : i ∈ Region.ready md ops listed := mem_ready.2 ⟨by rw [getD_true_false (by omega)]; exact hl, ops[i], by simp [hi], fun e he hbd => by
        have := (hb i ops[i] (by simp [hi])).1 e he hbd
        exact ih e.on this (by omega)⟩
      rw [h] at hmem
      cases hmem

theorem wanted_push {head : Array Oper} {last : Oper} {o : Oper} {i : Nat} {tmps : Array Value} (hi : i ≤ head.size) (hg : ∀ j b, o.guard = some (j, b) → j < i) :
    Region.wanted o (yielded (head.push last) tmps) = Region.wanted o (yielded head tmps) := by
  unfold Region.wanted
  cases hgd : o.guard with
  | none => rfl
  | some p =>
    obtain ⟨j, b⟩ := p
    have := hg j b hgd
    have : (head.push last)[j]? = head[j]? := by rw [Array.getElem?_push, if_neg (by omega)]
    simp only [yielded, this]

theorem wpAny_push {head : Array Oper} {last : Oper} {Q Qh : Exit → Act → World → Prop} (hb : BackOk md (head.push last)) (hw : ∀ i, i < head.size → ∃ e ∈ last.after, Region.binds md e = true ∧ e.on = i)
    (hq : ∀ e a w, e ≠ .normal → Qh e a w → Q e a w) (hl : ∀ a w, Qh .normal a w → wpOp P (head.push last) Q head.size (Q .normal) a w) :
    ∀ (fuel : Nat) (listed : Array Bool) (a : Act) (w : World), listed.size = head.size → wpAny P md head Qh fuel listed a w → wpAny P md (head.push last) Q (fuel + 1) (listed.push false) a w := by
  have hbh : BackOk md head := fun i o ho => hb i o (by
    have hi : i < head.size := by
      rcases Nat.lt_or_ge i head.size with h | h
      · exact h
      · rw [Array.getElem?_eq_none h] at ho; cases ho
    rw [Array.getElem?_push, if_neg (by omega)]; exact ho)
  have hlast : (head.push last)[head.size]? = some last := by simp
  have hbl := hb head.size last hlast
  -- what is ready
  have r1 : ∀ listed : Array Bool, listed.size = head.size → ∀ i, i ∈ Region.ready md (head.push last) (listed.push false) → i = head.size ∨ (i < head.size ∧ i ∈ Region.ready md head listed) := by
    intro listed hs i hi
    obtain ⟨h1, oi, h2, h3⟩ := mem_ready.1 hi
    rcases Nat.lt_trichotomy i head.size with h | h | h
    · right
      refine ⟨h, mem_ready.2 ⟨by rw [← getD_push_true (by omega)]; exact h1, oi, by rw [Array.getElem?_push, if_neg (by omega)] at h2; exact h2, fun e he hbd => by rw [← getD_push_false]; exact h3 e he hbd⟩⟩
    · exact .inl h
    · rw [Array.getElem?_eq_none (by simp; omega)] at h2; cases h2
  have r2 : ∀ listed : Array Bool, listed.size = head.size → head.size ∈ Region.ready md (head.push last) (listed.push false) → Region.ready md head listed = [] := by
    intro listed hs hi
    obtain ⟨_, oi, h2, h3⟩ := mem_ready.1 hi
    rw [hlast] at h2
    cases h2
    apply List.eq_nil_iff_forall_not_mem.2
    intro j hj
    obtain ⟨h4, oj, h5, _⟩ := mem_ready.1 hj
    have hjl : j < head.size := by
      rcases Nat.lt_or_ge j head.size with h | h
      · exact h
      · rw [Array.getElem?_eq_none h] at h5; cases h5
    obtain ⟨e, he, hbd, hon⟩ := hw j hjl
    have := h3 e he hbd
    rw [getD_push_false, hon, ← getD_true_false (by omega), h4] at this
    cases this
  have r3 : ∀ listed : Array Bool, listed.size = head.size → Region.ready md head listed = [] → head.size ∈ Region.ready md (head.push last) (listed.push false) := by
    intro listed hs h0
    refine mem_ready.2 ⟨getD_push_at hs true, last, hlast, fun e he hbd => ?_⟩
    rw [getD_push_false]
    exact all_listed hs hbh h0 e.on (hbl.1 e he hbd)
  have rend : ∀ listed : Array Bool, listed.size = head.size → Region.ready md head listed = [] → Region.ready md (head.push last) ((listed.push false).setIfInBounds head.size true) = [] := by
    intro listed hs h0
    apply List.eq_nil_iff_forall_not_mem.2
    intro j hj
    obtain ⟨h4, oj, h5, _⟩ := mem_ready.1 hj
    have hjl : j < head.size + 1 := by
      rcases Nat.lt_or_ge j (head.size + 1) with h | h
      · exact h
      · rw [Array.getElem?_eq_none (by simp; omega)] at h5; cases h5
    by_cases hjn : j = head.size
    · subst hjn
      rw [Array.getD_eq_getD_getElem?, Array.getElem?_setIfInBounds_self_of_lt (by simp [hs])] at h4
      cases h4
    · have := all_listed hs hbh h0 j (by omega)
      rw [getD_set_ne true (Ne.symm hjn), getD_push_true (by omega), getD_true_false (by omega), this] at h4
      cases h4
  have fin : ∀ (fuel : Nat) (listed : Array Bool) (a : Act) (w : World), listed.size = head.size → Region.ready md head listed = [] → Q .normal a w →
      wpAny P md (head.push last) Q fuel ((listed.push false).setIfInBounds head.size true) a w := by
    intro fuel listed a w hs h0 hn
    have he := rend listed hs h0
    cases fuel with
    | zero => exact ⟨he, hn⟩
    | succ f => exact ⟨fun _ => hn, fun i hi => by rw [he] at hi; cases hi⟩
  intro fuel
  induction fuel with
  | zero =>
    intro listed a w hs h
    refine ⟨fun h0 => ?_, fun i hi => ?_⟩
    · have := r3 listed hs h.1
      rw [h0] at this; cases this
    · rcases r1 listed hs i hi with rfl | ⟨_, hi'⟩
      · exact wpOp_mono (fun a' w' hn => fin 0 listed a' w' hs h.1 hn) (hl a w h.2)
      · rw [h.1] at hi'; cases hi'
  | succ fuel ih =>
    intro listed a w hs h
    refine ⟨fun h0 => ?_, fun i hi => ?_⟩
    · exfalso
      have hz : Region.ready md head listed = [] := by
        apply List.eq_nil_iff_forall_not_mem.2
        intro j hj
        obtain ⟨h4, oj, h5, h6⟩ := mem_ready.1 hj
        have hjl : j < head.size := by
          rcases Nat.lt_or_ge j head.size with h | h
          · exact h
          · rw [Array.getElem?_eq_none h] at h5; cases h5
        have : j ∈ Region.ready md (head.push last) (listed.push false) := mem_ready.2 ⟨by rw [getD_push_true (by omega)]; exact h4, oj, by rw [Array.getElem?_push, if_neg (by omega)]; exact h5, fun e he hbd => by rw [getD_push_false]; exact h6 e he hbd⟩
        rw [h0] at this; cases this
      have := r3 listed hs hz
      rw [h0] at this; cases this
    · rcases r1 listed hs i hi with rfl | ⟨hil, hi'⟩
      · have hz := r2 listed hs hi
        exact wpOp_mono (fun a' w' hn => fin (fuel + 1) listed a' w' hs hz hn) (hl a w (h.1 hz))
      · have h2 := h.2 i hi'
        have hset : (listed.push false).setIfInBounds i true = (listed.setIfInBounds i true).push false := by
          apply Array.ext'
          simp only [Array.toList_setIfInBounds, Array.toList_push]
          rw [List.set_append_left _ _ (by simpa using (show i < listed.size from by omega))]
        rw [hset]
        refine wpOp_change (by rw [Array.getElem?_push, if_neg (by omega)]) (fun o ho => ?_) (fun a' w' h' => ih _ a' w' (by simpa using hs) h') hq h2
        exact wanted_push (i := i) (by omega) (hbh i o ho).2

theorem wpAny_tails {ops : Array Oper} {Q : Exit → Act → World → Prop} (hb : BackOk md ops) : ∀ (rest : List Oper) (head : Array Oper), ops.toList = head.toList ++ rest →
    (∀ i, head.size ≤ i → ∀ o, ops[i]? = some o → ∀ j, j < i → ∃ e ∈ o.after, Region.binds md e = true ∧ e.on = j) →
    ∀ a w, wpAny P md head (fun e a w => match e with | .normal => wpList P ops Q rest a w | e => Q e a w) head.size (Array.replicate head.size false) a w →
    wpAny P md ops Q ops.size (Array.replicate ops.size false) a w
  | [], head, ho, _, a, w, h => by
    have : head = ops := by apply Array.ext'; simpa using ho.symm
    subst this
    refine wpAny_mono (fun e a w hh => ?_) _ _ _ _ h
    cases e <;> exact hh
  | o :: rest, head, ho, hw, a, w, h => by
    have hpre : ∀ i, i < head.size + 1 → (head.push o)[i]? = ops[i]? := fun i hi => by
      have h1 : ops[i]? = ops.toList[i]? := by simp
      rw [h1, ho]
      by_cases hih : i < head.size
      · rw [List.getElem?_append_left (by simpa using hih), Array.getElem?_push, if_neg (by omega)]; simp
      · have : i = head.size := by omega
        subst this
        simp
    have hbp : BackOk md (head.push o) := fun i x hx => hb i x (by
      rw [← hpre i (by
        rcases Nat.lt_or_ge i (head.size + 1) with h | h
        · exact h
        · rw [Array.getElem?_eq_none (by simp; omega)] at hx; cases hx)]
      exact hx)
    have ho' : ops[head.size]? = some o := by rw [← hpre _ (by omega)]; simp
    refine wpAny_tails hb rest (head.push o) (by simp [ho]) (fun i hi x hx j hj => hw i (by simp at hi; omega) x hx j hj) a w ?_
    have := wpAny_push (P := P) (md := md) (head := head) (last := o) (Q := fun e a w => match e with | .normal => wpList P ops Q rest a w | e => Q e a w) hbp
      (fun i hi => hw head.size (Nat.le_refl _) o ho' i hi) (Qh := fun e a w => match e with | .normal => wpList P ops Q (o :: rest) a w | e => Q e a w)
      (fun e a w hne hh => by cases e <;> first | exact absurd rfl hne | exact hh)
      (fun a w hh => by
        simp only [wpList] at hh
        unfold wpOp
        have e1 : (head.push o)[head.size]? = some o := by simp
        simp only [e1]
        have hwd : Region.wanted o (yielded (head.push o) a.tmps) = Region.wanted o (yielded ops a.tmps) := by
          unfold Region.wanted
          cases hgd : o.guard with
          | none => rfl
          | some p =>
            obtain ⟨j, b⟩ := p
            have := (hb head.size o ho').2 j b hgd
            simp only [yielded, hpre j (by omega)]
        rw [hwd]
        split
        · rename_i hwt
          simp only [hwt, if_true] at hh
          exact operWp_mono (fun a w h => h) (fun e a w hne h => by cases e <;> first | exact absurd rfl hne | exact h) hh
        · rename_i hwt
          simp only [hwt] at hh
          exact hh)
      head.size (Array.replicate head.size false) a w (by simp) h
    have hrep : (Array.replicate head.size false).push false = Array.replicate (head.push o).size false := by
      simp [Array.replicate_succ]
    rw [hrep] at this
    simpa using this
end
end Go.Sx

namespace Go.Sx
open Go.RowKit

def Closed (ops : Array Oper) (listed : Array Bool) : Prop := ∀ (i : Nat) (o : Oper), ops[i]? = some o → listed.getD i false = true → ∀ e ∈ o.after, Region.binds .any e = true → listed.getD e.on false = true

theorem getD_set_true {l : Array Bool} {i j : Nat} (h : l.getD j false = true) : (l.setIfInBounds i true).getD j false = true := by
  by_cases hij : i = j
  · subst hij
    have : i < l.size := by
      rcases Nat.lt_or_ge i l.size with h1 | h1
      · exact h1
      · rw [Array.getD_eq_getD_getElem?, Array.getElem?_eq_none h1] at h; cases h
    rw [Array.getD_eq_getD_getElem?, Array.getElem?_setIfInBounds_self_of_lt this]
    rfl
  · rw [Array.getD_eq_getD_getElem?, Array.getElem?_setIfInBounds_ne hij, ← Array.getD_eq_getD_getElem?]
    exact h
theorem getD_set_of {l : Array Bool} {i j : Nat} (h : (l.setIfInBounds i true).getD j false = true) : j = i ∨ l.getD j false = true := by
  by_cases hij : i = j
  · exact .inl hij.symm
  · rw [Array.getD_eq_getD_getElem?, Array.getElem?_setIfInBounds_ne hij, ← Array.getD_eq_getD_getElem?] at h
    exact .inr h

theorem Closed.set {ops : Array Oper} {listed : Array Bool} (h : Closed ops listed) {i : Nat} (hi : i ∈ Region.ready .any ops listed) : Closed ops (listed.setIfInBounds i true) := by
  intro j o ho hj e he hb
  obtain ⟨_, oi, h2, h3⟩ := mem_ready.1 hi
  rcases getD_set_of hj with rfl | hj
  · rw [h2] at ho; cases ho
    exact getD_set_true (h3 e he hb)
  · exact getD_set_true (h j o ho hj e he hb)

theorem memN_mem {n : Nat} : ∀ {l : List Nat}, memN n l = true → n ∈ l
  | [], h => by cases h
  | x :: l, h => by
    simp only [memN, Bool.or_eq_true] at h
    rcases h with h | h
    · rw [Nat.eq_of_beq_eq_true h]; simp
    · exact List.mem_cons_of_mem _ (memN_mem h)

theorem depsOf_mem {o : Oper} {x : Nat} (h : x ∈ depsOf o) : ∃ e ∈ o.after, Region.binds .any e = true ∧ e.on = x := by
  unfold depsOf at h
  obtain ⟨e, he, rfl⟩ := List.mem_map.1 h
  obtain ⟨h1, h2⟩ := List.mem_filter.1 he
  exact ⟨e, by simpa using h1, h2, rfl⟩

theorem reach_listed {ops : Array Oper} {listed : Array Bool} (hc : Closed ops listed) : ∀ (n : Nat) (l : List Nat), (∀ x ∈ l, listed.getD x false = true) → ∀ x ∈ reachFrom ops.toList n l, listed.getD x false = true
  | 0, l, h, x, hx => h x hx
  | n + 1, l, h, x, hx => by
    simp only [reachFrom] at hx
    split at hx
    · rename_i hm
      refine reach_listed hc n _ (fun y hy => ?_) x hx
      rcases List.mem_append.1 hy with hy | hy
      · cases ho : ops.toList[n]? with
        | none => rw [ho] at hy; cases hy
        | some o =>
          rw [ho] at hy
          obtain ⟨e, he, hb, rfl⟩ := depsOf_mem hy
          exact hc n o (by simpa using ho) (h n (memN_mem hm)) e he hb
      · exact h y hy
    · exact reach_listed hc n l h x hx

theorem anc_listed {ops : Array Oper} {listed : Array Bool} (hc : Closed ops listed) {i : Nat} {o : Oper} (ho : ops[i]? = some o) (hi : i ∈ Region.ready .any ops listed) : ∀ x ∈ reachFrom ops.toList i (depsOf o), listed.getD x false = true := by
  refine reach_listed hc i _ fun x hx => ?_
  obtain ⟨e, he, hb, rfl⟩ := depsOf_mem hx
  obtain ⟨_, oi, h2, h3⟩ := mem_ready.1 hi
  rw [ho] at h2; cases h2
  exact h3 e he hb

section
variable {P : Program}

theorem put_tmps_ne {a : Act} {d : Option Tmp} {v : Value} {t : Nat} (h : d ≠ some t) : (a.put d v).tmps[t]? = a.tmps[t]? := by
  cases d with
  | none => rfl
  | some d =>
    show (a.tmps.setIfInBounds d v)[t]? = _
    rw [Array.getElem?_setIfInBounds_ne (fun e => h (by rw [e]))]

theorem end_of_quiet {ops : Array Oper} {C : World → Prop} {Q : Act → Prop} : ∀ (fuel : Nat) (listed : Array Bool) (a : Act), wpAnyQ P .any ops C Q fuel listed a →
    ∃ a', Q a' ∧ ∀ t, (∀ (j : Nat) (o : Oper), ops[j]? = some o → o.dst = some t → listed.getD j true = true) → a'.tmps[t]? = a.tmps[t]?
  | 0, listed, a, h => ⟨a, h.2, fun _ _ => rfl⟩
  | fuel + 1, listed, a, h => by
    cases hr : Region.ready .any ops listed with
    | nil => exact ⟨a, h.1 hr, fun _ _ => rfl⟩
    | cons i l =>
      have hi : i ∈ Region.ready .any ops listed := by rw [hr]; simp
      obtain ⟨hnl, oi, hoi, _⟩ := mem_ready.1 hi
      have hq := h.2 i hi
      unfold qOp at hq
      rw [hoi] at hq
      simp only at hq
      have step : ∀ v : Value, wpAnyQ P .any ops C Q fuel (listed.setIfInBounds i true) (a.put oi.dst v) → ∃ a', Q a' ∧ ∀ t, (∀ (j : Nat) (o : Oper), ops[j]? = some o → o.dst = some t → listed.getD j true = true) → a'.tmps[t]? = a.tmps[t]? := by
        intro v hv
        obtain ⟨a', h1, h2⟩ := end_of_quiet fuel _ _ hv
        refine ⟨a', h1, fun t ht => ?_⟩
        have hne : oi.dst ≠ some t := fun e => by have := ht i oi hoi e; rw [hnl] at this; cases this
        rw [h2 t (fun j o ho hd => ?_), put_tmps_ne hne]
        have h3 := ht j o ho hd
        by_cases hij : i = j
        · subst hij; rw [hnl] at h3; cases h3
        · rw [Array.getD_eq_getD_getElem?, Array.getElem?_setIfInBounds_ne hij, ← Array.getD_eq_getD_getElem?]
          exact h3
      split at hq
      · obtain ⟨v, _, h2⟩ := hq
        exact step v h2
      · exact step _ hq

theorem yielded_congr {ops ops' : Array Oper} (h : ∀ j : Nat, (ops'[j]?).bind (·.dst) = (ops[j]?).bind (·.dst)) (tmps : Array Value) : yielded ops' tmps = yielded ops tmps := by
  funext j
  unfold yielded
  rw [h j]

theorem wpAny_mixed {ops ops' : Array Oper} {st : List Nat} {C : World → Prop} {D : Nat → World → Prop} {Qf : Act → Prop} {Q' : Exit → Act → World → Prop} (hb : BackOk .any ops)
    (hready : ∀ listed, Region.ready .any ops' listed = Region.ready .any ops listed) (hdst : ∀ j : Nat, (ops'[j]?).bind (·.dst) = (ops[j]?).bind (·.dst))
    (hns : ∀ i : Nat, i ∉ st → ops'[i]? = ops[i]?) (hst : ∀ i ∈ st, ∃ o o' : Oper, ops[i]? = some o ∧ ops'[i]? = some o' ∧ o.guard = none ∧ o'.dst = o.dst ∧ o'.guard = none)
    (hCD : ∀ k w, k ≤ st.length → D k w → C w)
    (hpure : ∀ (i : Nat) (o : Oper), i ∉ st → ops[i]? = some o → ∀ (a : Act) (w : World) f args w', (execOp a.eval o).run P w ≠ .ok (.enter f args) w')
    (hprev : ∀ (p q : Nat) (i j : Nat), p < q → st[p]? = some i → st[q]? = some j → ∀ listed, Closed ops listed → j ∈ Region.ready .any ops listed → listed.getD i false = true)
    (hop : ∀ (i : Nat) (o : Oper), i ∈ st → ops[i]? = some o → ∀ listed, Closed ops listed → i ∈ Region.ready .any ops listed → ∀ t ∈ storeTmps o.op, ∀ (j : Nat) (o' : Oper), ops[j]? = some o' → o'.dst = some t → listed.getD j false = true)
    (hstep : ∀ (k i : Nat) (o o' : Oper), st[k]? = some i → ops[i]? = some o → ops'[i]? = some o' →
      (o.dst = none ∧ ∀ a a' : Act, Qf a' → (∀ t ∈ storeTmps o.op, a'.tmps[t]? = a.tmps[t]?) → ∀ w, D k w → ∃ w', (execOp a.eval o).run P w = .ok .skip w' ∧ D (k + 1) w') ∨
      (∃ v, (∀ (a : Act) (w : World), (execOp a.eval o').run P w = .ok (.value v) w) ∧ ∀ (a : Act) w, D k w → ∃ w', (execOp a.eval o).run P w = .ok (.value v) w' ∧ D (k + 1) w'))
    (hQ : ∀ a w, Qf a → D st.length w → Q' .normal a w) :
    ∀ (fuel : Nat) (listed : Array Bool) (a : Act) (w : World) (k : Nat), listed.size = ops.size → Closed ops listed → k ≤ st.length → (∀ p i, p < k → st[p]? = some i → listed.getD i false = true) → (∀ p i, k ≤ p → st[p]? = some i → listed.getD i false = false) →
      D k w → wpAnyQ P .any ops' C Qf fuel listed a → wpAny P .any ops Q' fuel listed a w := by
  have hfin : ∀ (listed : Array Bool) (k : Nat), listed.size = ops.size → k ≤ st.length → (∀ p i, k ≤ p → st[p]? = some i → listed.getD i false = false) → Region.ready .any ops listed = [] → k = st.length := by
    intro listed k hs hk h2 h0
    rcases Nat.lt_or_ge k st.length with h | h
    · have hi := List.getElem?_eq_getElem h
      have h3 := h2 k _ (Nat.le_refl _) hi
      obtain ⟨o, _, ho, _⟩ := hst _ (List.mem_of_getElem? hi)
      have hlt : st[k] < ops.size := by
        rcases Nat.lt_or_ge st[k] ops.size with h | h
        · exact h
        · rw [Array.getElem?_eq_none h] at ho; cases ho
      rw [all_listed hs hb h0 _ hlt] at h3
      cases h3
    · omega
  intro fuel
  induction fuel with
  | zero =>
    intro listed a w k hs hcl hk h1 h2 hd h
    have h0 := h.1
    rw [hready] at h0
    have := hfin listed k hs hk h2 h0
    subst this
    exact ⟨h0, hQ a w h.2 hd⟩
  | succ fuel ih =>
    intro listed a w k hs hcl hk h1 h2 hd h
    refine ⟨fun h0 => ?_, fun i hi => ?_⟩
    · have := hfin listed k hs hk h2 h0
      subst this
      exact hQ a w (h.1 (by rw [hready]; exact h0)) hd
    · have hq := h.2 i (by rw [hready]; exact hi)
      have hs' : (listed.setIfInBounds i true).size = ops.size := by simpa using hs
      have hcl' := hcl.set hi
      obtain ⟨hnl, oi, hoi, _⟩ := mem_ready.1 hi
      have hil : i < ops.size := by
        rcases Nat.lt_or_ge i ops.size with h | h
        · exact h
        · rw [Array.getElem?_eq_none h] at hoi; cases hoi
      by_cases him : i ∈ st
      · obtain ⟨p, hp, hpi⟩ := List.mem_iff_getElem.1 him
        have hpi' : st[p]? = some i := by rw [List.getElem?_eq_getElem hp, hpi]
        have hnl' : listed.getD i false = false := by rw [← getD_true_false (by omega)]; exact hnl
        have hkp : k = p := by
          rcases Nat.lt_trichotomy k p with hlt | heq | hgt
          · have hq2 := List.getElem?_eq_getElem (show k < st.length by omega)
            have e1 := hprev k p _ i hlt hq2 hpi' listed hcl hi
            rw [h2 k _ (Nat.le_refl _) hq2] at e1
            cases e1
          · exact heq
          · rw [h1 p i hgt hpi'] at hnl'
            cases hnl'
        subst hkp
        obtain ⟨o, o', e1, e2, e4, e5, e6⟩ := hst i him
        rw [hoi] at e1; cases e1
        have hwd : Region.wanted oi (yielded ops a.tmps) = true := by simp [Region.wanted, e4]
        have hwd' : Region.wanted o' (yielded ops' a.tmps) = true := by simp [Region.wanted, e6]
        -- all that goes on behind
        have behind : ∀ a1 w', D (k + 1) w' → wpAnyQ P .any ops' C Qf fuel (listed.setIfInBounds i true) a1 → wpAny P .any ops Q' fuel (listed.setIfInBounds i true) a1 w' := fun a1 w' hd' hnext => by
          refine ih _ a1 w' (k + 1) hs' hcl' (by omega) (fun q j hq1 hq2 => ?_) (fun q j hq1 hq2 => ?_) hd' hnext
          · rcases Nat.lt_or_ge q k with hqk | hqk
            · exact getD_set_true (h1 q j hqk hq2)
            · have : q = k := by omega
              subst this
              rw [hpi'] at hq2; cases hq2
              rw [Array.getD_eq_getD_getElem?, Array.getElem?_setIfInBounds_self_of_lt (by omega)]
              rfl
          · cases hj : (listed.setIfInBounds i true).getD j false with
            | false => rfl
            | true =>
              rcases getD_set_of hj with rfl | hj
              · have e7 := hprev k q j j (by omega) hpi' hq2 listed hcl hi
                rw [hnl'] at e7; cases e7
              · rw [h2 q j (by omega) hq2] at hj; cases hj
        unfold qOp at hq
        rw [e2] at hq
        simp only at hq
        rw [if_pos hwd'] at hq
        obtain ⟨v, hv, h4⟩ := hq
        rw [e5] at h4
        unfold wpOp
        rw [hoi]
        simp only
        rw [if_pos hwd]
        refine .inl ?_
        unfold Oper.wp
        rcases hstep k i oi o' hpi' hoi e2 with ⟨e3, hstep⟩ | ⟨u, hu, hstep⟩
        · rw [e3] at h4
          have hnext : wpAnyQ P .any ops' C Qf fuel (listed.setIfInBounds i true) a := h4
          obtain ⟨a', ha', htm⟩ := end_of_quiet fuel _ _ hnext
          obtain ⟨w', hrun, hd'⟩ := hstep a a' ha' (fun t ht => htm t fun j o'' ho'' hd'' => by
            have hjd : (ops[j]?).bind (·.dst) = some t := by rw [← hdst j, ho'']; exact hd''
            cases hoj : ops[j]? with
            | none => rw [hoj] at hjd; cases hjd
            | some oj =>
              rw [hoj] at hjd
              have hjl : j < listed.size := by
                rcases Nat.lt_or_ge j ops.size with h | h
                · omega
                · rw [Array.getElem?_eq_none h] at hoj; cases hoj
              have := getD_set_true (i := i) (hop i oi him hoi listed hcl hi t ht j oj hoj hjd)
              rw [getD_true_false (by simpa using hjl)]
              exact this) w hd
          rw [hrun]
          show wpAny P .any ops Q' fuel (listed.setIfInBounds i true) (a.put oi.dst undef) w'
          rw [e3]
          exact behind a w' hd' hnext
        · obtain ⟨w', hrun, hd'⟩ := hstep a w hd
          have hvu : u = v := by
            have h3 := hv w (hCD k w hk hd)
            unfold Oper.quietAt at h3
            rw [hu a w] at h3
            exact h3.2
          subst hvu
          rw [hrun]
          show wpAny P .any ops Q' fuel (listed.setIfInBounds i true) (a.put oi.dst u) w'
          exact behind _ w' hd' h4
      · have hin : ∀ q j, st[q]? = some j → j ≠ i := fun q j hj e => him (e ▸ List.mem_of_getElem? hj)
        have fin : ∀ a', wpAnyQ P .any ops' C Qf fuel (listed.setIfInBounds i true) a' → wpAny P .any ops Q' fuel (listed.setIfInBounds i true) a' w := fun a' h' =>
          ih _ a' w k hs' hcl' hk (fun q j hq1 hq2 => getD_set_true (h1 q j hq1 hq2)) (fun q j hq1 hq2 => by
            cases hj : (listed.setIfInBounds i true).getD j false with
            | false => rfl
            | true =>
              rcases getD_set_of hj with e | hj
              · exact absurd e (hin q j hq2)
              · rw [h2 q j hq1 hq2] at hj; cases hj) hd h'
        unfold qOp at hq
        rw [hns i him, hoi] at hq
        simp only [yielded_congr hdst] at hq
        unfold wpOp
        rw [hoi]
        simp only
        split
        · rename_i hwt
          rw [if_pos hwt] at hq
          obtain ⟨v, hv1, hv2⟩ := hq
          refine .inl ?_
          have h3 := hv1 w (hCD k w hk hd)
          have hne := hpure i oi him hoi a w
          unfold Oper.quietAt at h3
          unfold Oper.wp
          generalize (execOp a.eval oi).run P w = r at *
          cases r with
          | ok n w' =>
            cases n <;> simp only [Oper.quietUpon] at h3 <;> simp only [Oper.upon]
            case value u =>
              obtain ⟨e1, e2⟩ := h3
              rw [e1, e2]
              exact fin _ hv2
            case skip =>
              obtain ⟨e1, e2⟩ := h3
              rw [e1, ← e2]
              exact fin _ hv2
            case enter f args => exact absurd rfl (hne f args w')
          | halt x w' => simp only [Oper.quietUpon] at h3
        · rename_i hwt
          rw [if_neg hwt] at hq
          exact fin _ hq
end
end Go.Sx

namespace Go.Sx
open Go.RowKit
section
variable {P : Program} {I : World → Prop} {S : Sigs} {F : FEnv} {E : Env} {gK : Nat} {ν : Nat → DV}

theorem sat_all {α ι : Type} {x : M α} {Q : ι → α → Prop} (h : ∀ i, M.sat F ν x (Q i)) : M.sat F ν x (fun a => ∀ i, Q i a) :=
  fun n a n' e d h1 h2 h3 i => h i n a n' e d h1 h2 h3

def RS.withHp (r : RS) (hp : List (Option Blk)) : RS := ⟨⟨r.st.sl, hp⟩, r.gl⟩
theorem rd_withHp (r : RS) (hp : List (Option Blk)) (ctx : Ctx) (x : Operand) : rd (r.withHp hp) ctx x = rd r ctx x := by cases x <;> rfl
theorem ARel.withHp {ρ : Nat → Loc} {r : RS} {a : Act} (h : ARel ν ρ r a) (hp : List (Option Blk)) : ARel ν ρ (r.withHp hp) a := ⟨h.defers, h.size, h.slot, h.gl⟩
def Agree (fx : List Nat) (hp0 hp : List (Option Blk)) : Prop := ∀ b, memN b fx = false → nth hp b = nth hp0 b
theorem lift_congr {α β : Type} {o : Option α} {f g : α → M β} (h : ∀ a, o = some a → f a = g a) : (M.lift o >>= f) = (M.lift o >>= g) := by
  cases o with
  | none => rfl
  | some a =>
    have := h a rfl
    change M.bind (M.lift (some a)) f = M.bind (M.lift (some a)) g
    unfold M.bind M.lift
    simp only [this]
    rfl

def plainOp : Op → Bool
  | .indexAddr _ _ _ | .call _ => false
  | _ => true
theorem rdParts_withHp (r : RS) (hp : List (Option Blk)) (ctx : Ctx) : ∀ l, rdParts (r.withHp hp) ctx l = rdParts r ctx l
  | [] => rfl
  | x :: l => by simp only [rdParts, rd_withHp, rdParts_withHp r hp ctx l]
theorem evOp_withHp {fx : List Nat} {r : RS} {hp : List (Option Blk)} (hag : Agree fx r.st.hp hp) {ctx : Ctx} {op : Op} (h : pureOp op = true) (h2 : plainOp op = true) (hq : quietIn fx r ctx op = true) : evOp P S (r.withHp hp) ctx op = evOp P S r ctx op := by
  cases op <;> simp only [pureOp] at h <;> simp only [plainOp] at h2 <;> first | (simp only [evOp, rd_withHp, rdParts_withHp, evPick]; done) | contradiction | skip
  rename_i t x
  simp only [evOp, rd_withHp]
  refine lift_congr fun v hv => ?_
  split
  · rename_i b off
    have hb : memN b fx = false := by
      simp only [quietIn, hv] at hq
      simpa using hq
    have := hag b hb
    show (do let k ← M.lift (tk P t); let sz ← M.lift (tsize P t); match ← M.lift (nth hp b) with | .c _ cs => pure (.val (.s (← loadCells cs off (isAggT k) sz))) | .v _ ts a => pure (.val (.s (← loadRow ts a off (isAggT k) sz))) : M OR) = _
    rw [this]
    rfl
  · rfl
  · rfl

def Hyp (E : Env) (ν : Nat → DV) (N : Nat) (hp : List (Option Blk)) (ρ : Nat → Loc) : Prop := (∃ w0, HS E ν ρ hp w0) ∧ (ρ hp.length).blk = N ∧ (ρ hp.length).off = 0

theorem pure_sat (hS : SigsOK P I gK S F) (hE : E.Ok gK) {N : Nat} {fx : List Nat} {r : RS} {ctx : Ctx} {o : Oper} (hp : pureOp o.op = true) : M.sat F ν (evOpQ P S fx r ctx o.op) (fun res => ∀ hp' : List (Option Blk), Agree fx r.st.hp hp' → ∀ ρ a, Hyp E ν N r.st.hp ρ → ARel ν ρ r a → CtxOk ctx a →
    ORok P I E ν ρ hp' (execOp a.eval o) res) := by
  unfold evOpQ
  refine sat_ite (fun hq => ?_) (fun _ => sat_fail)
  cases hpl : plainOp o.op with
  | true =>
    refine sat_all fun hp' n a n' e d h1 h2 h3 hag => ?_
    have := evOp_sat (E := E) (F := F) (ν := ν) hS hE (r := r.withHp hp') (ctx := ctx) (o := o)
    rw [evOp_withHp hag hp hpl hq] at this
    exact fun ρ a' _ ha hc => this n a n' e d h1 h2 h3 ρ a' (ha.withHp hp') hc
  | false =>
    cases hop : o.op <;> rw [hop] at hpl hp <;> simp only [plainOp] at hpl <;> first | cases hpl | skip
    · rename_i t x ix
      simp only [evOp]
      refine sat_bind (sat_lift (Q := fun v => rd r ctx x = some v) fun a h => h) fun v hv => ?_
      refine sat_bind (sat_lift (Q := fun v => rd r ctx ix = some v) fun a h => h) fun u hu => ?_
      split
      · rename_i b i
        refine sat_bind (evIndexRow_sat (E := E)) fun z hz => sat_pure fun hp' _ ρ a ⟨⟨w0, hw0⟩, _⟩ ha hc w hw _ => ?_
        have h1 := rd_spec ha hc hv
        have h2 := rd_spec ha hc hu
        refine ⟨V1.good_one.2 hz.1, .inl ?_⟩
        have := hz.2 ρ w0 w hw0
        simp only [V.conc, V1.conc] at h1 h2 ⊢
        simp only [Lf.conc] at h1
        simp [execOp, hop, h1.2, h2.2, this]
      · rename_i l i _
        by_cases hg : l.good ν
        · refine sat_bind (evIndexAddr_sat hg) fun z hz => sat_pure fun hp' _ ρ a _ ha hc => ?_
          have h1 := rd_spec ha hc hv
          have h2 := rd_spec ha hc hu
          refine ORok.now (V1.good_one.2 hz.1) fun w _ => ?_
          have := hz.2 ρ w
          simp only [V.conc, V1.conc] at h1 h2 ⊢
          simp [execOp, hop, h1.2, h2.2, this]
        · refine sat_bind sat_true fun z _ => sat_pure fun hp' _ ρ a _ ha hc => ?_
          exact absurd (V1.good_one.1 (rd_spec ha hc hv).1) hg
      · exact sat_fail
    · rename_i c
      simp only [pureOp] at hp
      split at hp
      · rename_i hf
        simp only [evOp, hf]
        refine sat_bind (sat_lift (Q := fun vs => rdAll r ctx c.args.toList = some vs) fun a h => h) fun vs hvs => ?_
        have hargs : ∀ ρ a, ARel ν ρ r a → CtxOk ctx a → c.args.map a.eval = (vs.map (V.conc ν ρ)).toArray := fun ρ a ha hc => by
          apply Array.ext'
          simpa using rdAll_spec ha hc hvs
        split
        · rename_i he; cases he
        · rename_i he; cases he
        · rename_i v _
          refine sat_bind (sat_lift (Q := fun t => c.argTypes[0]? = some t) fun a h => h) fun t ht => ?_
          refine sat_bind (evLen_sat (E := E)) fun z hz => sat_pure fun hp' _ ρ a ⟨⟨w0, hw0⟩, _⟩ ha hc w hw _ => ⟨hz.1, .inl ?_⟩
          have := hz.2 ρ w0 w o.type c.argTypes ht hw0
          simp [execOp, hop, resolve, hf, hargs ρ a ha hc, invoke, builtin, this]
        · rename_i he; cases he
        · exact sat_fail
      · cases hp

def QuietAll (P : Program) (ν : Nat → DV) (E : Env) (N : Nat) (fx : List Nat) (ops : Array Oper) (o : Oper) (r r' : RS) : Prop :=
  r'.st.hp = r.st.hp ∧ ∀ ρ a, Hyp E ν N r.st.hp ρ → ARel ν ρ r a → ∀ C : World → Prop, (∀ w, C w → ∃ hp, HS E ν ρ hp w ∧ Agree fx r.st.hp hp) → (∀ w w', C w → Below w.heap.size w w' → C w') → (∃ w, C w) →
    if Region.wanted o (yielded ops a.tmps) = true then ∃ v, (∀ w, C w → o.quietAt P a C w v) ∧ ARel ν ρ r' (a.put o.dst v) else ARel ν ρ r' (a.put o.dst undef)

theorem quietAll_of {o : Oper} {a : Act} {v : Value} {C : World → Prop} (hB : ∀ w w', C w → Below w.heap.size w w' → C w')
    (h : ∀ w, C w → RunsVal P (execOp a.eval o) w v) : ∀ w, C w → o.quietAt P a C w v := by
  intro w hw
  unfold Oper.quietAt
  rcases h w hw with h | ⟨f, args, h, hc⟩
  · rw [h]; exact ⟨rfl, rfl⟩
  · rw [h]
    exact ⟨rfl, hc.mono fun e w'' ⟨he, hb⟩ => ⟨he, hB w w'' hw hb⟩⟩

theorem stepOR_all (hI : ∀ w, Fr E.W E.w0 w → I w) {N : Nat} {fx : List Nat} {ops : Array Oper} {o : Oper} {r : RS} {x : OR} (hw : ∀ ρ a, ARel ν ρ r a → Region.wanted o (yielded ops a.tmps) = true)
    (hx : ∀ hp', Agree fx r.st.hp hp' → ∀ ρ a, Hyp E ν N r.st.hp ρ → ARel ν ρ r a → ORok P I E ν ρ hp' (execOp a.eval o) x) : M.sat F ν (stepOR true r o.dst x) (QuietAll P ν E N fx ops o r) := by
  cases x with
  | val v =>
    refine sat_mono put_sat fun r' hr' => ⟨hr'.1, fun ρ a hh0 ha C hC hB hex => ?_⟩
    rw [if_pos (hw ρ a ha)]
    refine ⟨v.conc ν ρ, quietAll_of hB fun w hw1 => ?_, hr'.2 ρ a _ ha fun v' hv' => ?_⟩
    · obtain ⟨hp, hh, hag⟩ := hC w hw1
      exact (hx hp hag ρ a hh0 ha w hh (hI w hh.fr)).2
    · obtain ⟨w, hw1⟩ := hex
      obtain ⟨hp, hh, hag⟩ := hC w hw1
      cases hv'; exact ⟨(hx hp hag ρ a hh0 ha w hh (hI w hh.fr)).1, rfl⟩
  | hp v hp' => unfold stepOR; simp only [Bool.not_true, Bool.false_and, Bool.false_eq_true, if_false]; exact sat_fail

theorem stepORg_all (hI : ∀ w, Fr E.W E.w0 w → I w) {N : Nat} {fx : List Nat} {ops : Array Oper} {o : Oper} {r : RS} {d : Nat} {want : Bool} {x : OR} (hw : ∀ (a : Act), Region.wanted o (yielded ops a.tmps) = true ↔ a.tmps[d]? = some (.bool want))
    (hx : ∀ hp', Agree fx r.st.hp hp' → ∀ ρ a, Hyp E ν N r.st.hp ρ → ARel ν ρ r a → a.tmps[d]? = some (.bool want) → ORok P I E ν ρ hp' (execOp a.eval o) x) : M.sat F ν (stepORg r o.dst d want x) (QuietAll P ν E N fx ops o r) := by
  cases x with
  | val v =>
    refine sat_mono putG_sat fun r' hr' => ⟨hr'.1, fun ρ a hh0 ha C hC hB hex => ?_⟩
    by_cases hg : Region.wanted o (yielded ops a.tmps) = true
    · rw [if_pos hg]
      have hd := (hw a).1 hg
      refine ⟨v.conc ν ρ, quietAll_of hB fun w hw1 => ?_, hr'.2 ρ a _ ha (fun _ => ?_) (fun hn => absurd hd hn)⟩
      · obtain ⟨hp, hh, hag⟩ := hC w hw1
        exact (hx hp hag ρ a hh0 ha hd w hh (hI w hh.fr)).2
      · obtain ⟨w, hw1⟩ := hex
        obtain ⟨hp, hh, hag⟩ := hC w hw1
        exact ⟨(hx hp hag ρ a hh0 ha hd w hh (hI w hh.fr)).1, rfl⟩
    · rw [if_neg hg]
      have hd : a.tmps[d]? ≠ some (.bool want) := fun h => hg ((hw a).2 h)
      exact hr'.2 ρ a _ ha (fun h => absurd h hd) (fun _ => rfl)
  | hp v hp' => exact sat_fail

theorem nopN_pure {N : Nat} {o : Oper} (h : pureOp o.op = true) : nopN N o = o := by
  unfold nopN
  have h1 : storeOp o.op = false := by cases hop : o.op <;> rw [hop] at h <;> simp [pureOp, storeOp] at h ⊢
  have h2 : allocOp o.op = false := by cases hop : o.op <;> rw [hop] at h <;> simp [pureOp, allocOp] at h ⊢
  simp [h1, h2]
theorem evOper_all (hS : SigsOK P I gK S F) (hE : E.Ok gK) (hI : ∀ w, Fr E.W E.w0 w → I w) {N : Nat} {fx : List Nat} {ops ops' : Array Oper} (hdst : ∀ j : Nat, (ops[j]?).bind (·.dst) = (ops'[j]?).bind (·.dst)) {r : RS} {o : Oper} (hp : pureOp o.op = true ∨ allocOp o.op = true) :
    M.sat F ν (evOperM P S fx ops.toList r o) (QuietAll P ν E N fx ops' (nopN N o) r) := by
  unfold evOperM
  refine sat_ite (fun hal => sat_ite (fun hg => ?_) (fun _ => sat_fail)) (fun hal => ?_)
  · have hg : o.guard = none := by simpa using hg
    refine sat_mono put_sat fun r' hr' => ⟨hr'.1, fun ρ a hh0 ha C hC hB hex => ?_⟩
    have hst : storeOp o.op = false := by cases hop : o.op <;> rw [hop] at hal <;> simp [storeOp, allocOp] at hal ⊢
    have e1 : nopN N o = { o with op := .move (.const (.pointer (some ⟨N, 0, none⟩))) } := by unfold nopN; simp [hst, hal]
    rw [if_pos (by rw [e1]; simp [Region.wanted, hg])]
    rw [e1]
    refine ⟨.pointer (some ⟨N, 0, none⟩), fun w hw => ?_, hr'.2 ρ a _ ha fun v hv => ?_⟩
    · unfold Oper.quietAt
      simp [execOp, Act.eval, Oper.quietUpon]
    · cases hv
      refine ⟨V1.good_one.2 trivial, ?_⟩
      simp [V.conc, V1.conc, Lf.conc, hh0.2.1, hh0.2.2, Off.val]
  have hp : pureOp o.op = true := by
    rcases hp with h | h
    · exact h
    · exact absurd h hal
  rw [nopN_pure hp]
  split
  · rename_i hg
    refine sat_bind (pure_sat (E := E) hS hE hp) fun x hx => stepOR_all hI (fun ρ a _ => by simp [Region.wanted, hg]) fun hp' hag ρ a hh0 ha => hx hp' hag ρ a hh0 ha (fun p hp => by simp at hp)
  · rename_i j want hg
    refine sat_bind (sat_lift (Q := fun d => (ops'[j]?).bind (·.dst) = some d) fun a h => by rw [← hdst j]; simpa using h) fun d hd => ?_
    refine sat_bind (sat_lift (Q := fun res => guardInfo r 8 d want = some res) fun a h => h) fun res hres => ?_
    have hwd : ∀ (a : Act), Region.wanted o (yielded ops' a.tmps) = true ↔ a.tmps[d]? = some (.bool want) := fun a => wanted_spec hg hd
    split
    · refine sat_mono put_sat fun r' hr' => ⟨hr'.1, fun ρ a _ ha C _ _ _ => ?_⟩
      have hn : a.tmps[d]? ≠ some (.bool want) := guardInfo_spec ha 8 d want hres
      rw [if_neg (fun h => hn ((hwd a).1 h))]
      exact hr'.2 ρ a _ ha (fun v hv => by cases hv)
    · rename_i ctx cs
      split
      · refine sat_bind (pure_sat (E := E) hS hE hp) fun x hx => stepOR_all hI (fun ρ a ha => ?_) fun hp' hag ρ a hh0 ha => hx hp' hag ρ a hh0 ha (fun p hp => by simp at hp)
        have := guardInfo_spec ha 8 d want hres
        exact (hwd a).2 (this.2.1 rfl)
      · refine sat_bind (sat_underAll (pure_sat (E := E) (N := N) hS hE hp (ctx := ctx))) fun x hx => ?_
        have hx2 : ∀ hp', Agree fx r.st.hp hp' → ∀ ρ a, Hyp E ν N r.st.hp ρ → ARel ν ρ r a → a.tmps[d]? = some (.bool want) → ORok P I E ν ρ hp' (execOp a.eval o) x := fun hp' hag ρ a hh0 ha hd' => by
          have := (guardInfo_spec ha 8 d want hres).1 hd'
          exact hx this.2 hp' hag ρ a hh0 ha this.1
        cases x with
        | val v => exact stepORg_all hI hwd hx2
        | hp v hp' => exact sat_fail

theorem evOpers_all (hS : SigsOK P I gK S F) (hE : E.Ok gK) (hI : ∀ w, Fr E.W E.w0 w → I w) {N : Nat} {fx : List Nat} {ops ops' : Array Oper} (hdst : ∀ j : Nat, (ops[j]?).bind (·.dst) = (ops'[j]?).bind (·.dst)) : ∀ (l : List Oper) (r : RS), (∀ o ∈ l, pureOp o.op = true ∨ allocOp o.op = true) → M.sat F ν (evOpersM P S fx ops.toList l r) (fun r' =>
    ∀ ρ a, Hyp E ν N r.st.hp ρ → ARel ν ρ r a → ∀ C : World → Prop, (∀ w, C w → ∃ hp, HS E ν ρ hp w ∧ Agree fx r.st.hp hp) → (∀ w w', C w → Below w.heap.size w w' → C w') → (∃ w, C w) → wpQuiet P ops' C (fun a' => ARel ν ρ r' a') (l.map (nopN N)) a)
  | [], r, _ => sat_pure fun ρ a _ h _ _ _ _ => h
  | o :: l, r, hl => by
    unfold evOpersM
    refine sat_bind (evOper_all (E := E) (N := N) (ops := ops) hS hE hI hdst (hl o (by simp))) fun r1 h1 => sat_mono (evOpers_all (N := N) hS hE hI hdst l r1 (fun o ho => hl o (List.mem_cons_of_mem _ ho))) fun r' h2 => ?_
    intro ρ a hh0 ha C hC hB hex
    obtain ⟨hhp, h1⟩ := h1
    rw [hhp] at h2
    have := h1 ρ a hh0 ha C hC hB hex
    simp only [List.map_cons, wpQuiet]
    split
    · rename_i hw
      rw [if_pos hw] at this
      obtain ⟨v, h3, h4⟩ := this
      exact ⟨v, h3, h2 ρ _ hh0 h4 C hC hB hex⟩
    · rename_i hw
      rw [if_neg hw] at this
      exact h2 ρ _ hh0 this C hC hB hex

def NE (P : Program) (m : Sem Next) : Prop := ∀ (w : World) (g : FuncId) (args : Array Value) (w' : World), m.run P w ≠ .ok (.enter g args) w'
theorem NE.bind {α : Type} {m : Sem α} {f : α → Sem Next} (h : ∀ x, NE P (f x)) : NE P (m >>= f) := by
  intro w g args w'
  rw [Sem.run_bind]
  cases m.run P w with
  | halt x w1 => intro h; cases h
  | ok x w1 => exact h x w1 g args w'
theorem NE.value (v : Value) : NE P (pure (.value v)) := fun w g args w' h => by cases h
theorem NE.ite {c : Prop} [Decidable c] {x y : Sem Next} (hx : NE P x) (hy : NE P y) : NE P (if c then x else y) := by split <;> assumption
theorem NE.panic : NE P (runtimePanic .nilDeref) := fun w g args w' h => by simp [runtimePanic, goPanic] at h
theorem pure_noEnter {o : Oper} (h : pureOp o.op = true) (a : Act) (w : World) (f : FuncId) (args : Array Value) (w' : World) : (execOp a.eval o).run P w ≠ .ok (.enter f args) w' := by
  have key : NE P (execOp a.eval o) := by
    cases hop : o.op <;> rw [hop] at h <;> simp only [pureOp] at h <;> simp only [execOp, hop] <;> first | exact NE.value _ | exact NE.bind fun x => NE.value _ | cases h | skip
    · split <;> first | exact NE.panic | exact NE.value _ | skip
      split <;> first | exact NE.panic | exact NE.value _ | skip
      exact NE.bind fun x => NE.bind fun y => NE.ite (NE.bind fun z => NE.value _) (NE.value _)
    · rename_i c
      split at h
      · rename_i hf
        intro w g args w'
        rw [Sem.run_bind]
        simp only [resolve, hf, Sem.run_pure, Result.andThen_ok, invoke, builtin]
        exact (NE.bind fun x => NE.value _ : NE P _) w g args w'
      · cases h
  exact key w f args w'

theorem nopN_cases (N : Nat) (o : Oper) : nopN N o = o ∨ ∃ op, nopN N o = { o with op := op } := by
  unfold nopN
  split
  · exact .inr ⟨_, rfl⟩
  · split
    · exact .inr ⟨_, rfl⟩
    · exact .inl rfl
theorem nopN_after (N : Nat) (o : Oper) : (nopN N o).after = o.after := by
  rcases nopN_cases N o with h | ⟨op, h⟩ <;> rw [h]
theorem nopN_dst (N : Nat) (o : Oper) : (nopN N o).dst = o.dst := by
  rcases nopN_cases N o with h | ⟨op, h⟩ <;> rw [h]
theorem nopN_guard (N : Nat) (o : Oper) : (nopN N o).guard = o.guard := by
  rcases nopN_cases N o with h | ⟨op, h⟩ <;> rw [h]
theorem nop_dst (o : Oper) : (nop o).dst = o.dst := by unfold nop; split <;> rfl
theorem nopN_same {N : Nat} {o : Oper} (h : stateOp o.op = false) : nopN N o = o := by
  unfold stateOp at h
  rw [Bool.or_eq_false_iff] at h
  unfold nopN
  simp [h.1, h.2]
theorem nop_kinds {o : Oper} (h : pureOp o.op = true ∨ stateOp o.op = true) : pureOp (nop o).op = true ∨ allocOp (nop o).op = true := by
  unfold nop
  split
  · exact .inl rfl
  · rename_i hs
    rcases h with h | h
    · exact .inl h
    · unfold stateOp at h
      rw [Bool.or_eq_true] at h
      rcases h with h | h
      · exact absurd h hs
      · exact .inr h
theorem nopN_nop (N : Nat) (o : Oper) : nopN N (nop o) = nopN N o := by
  unfold nop
  split
  · rename_i hs
    have e : nopN N o = { o with op := .move (.const (.bool false)) } := by unfold nopN; rw [if_pos hs]
    rw [e]
    rfl
  · rfl
theorem looks_nopN (N : Nat) {ops1 ops2 : Array Oper} (h : ∀ j : Nat, (ops1[j]?).bind (·.dst) = (ops2[j]?).bind (·.dst)) (o : Oper) : (nopN N o).looksAt ops1 = (nopN 0 o).looksAt ops2 := by
  unfold Oper.looksAt
  rw [nopN_guard, nopN_guard]
  congr 1
  · unfold nopN
    repeat' split
    all_goals rfl
  · cases o.guard with
    | none => rfl
    | some p => simp only [h p.1]
theorem apart_nopN (N : Nat) {ops1 ops2 : Array Oper} (h : ∀ j : Nat, (ops1[j]?).bind (·.dst) = (ops2[j]?).bind (·.dst)) (x y : Oper) : (nopN N x).apart ops1 (nopN N y) = (nopN 0 x).apart ops2 (nopN 0 y) := by
  unfold Oper.apart
  rw [nopN_dst, nopN_dst, nopN_dst, nopN_dst, looks_nopN N h, looks_nopN N h]
theorem lexB_nopN (N : Nat) (l : List Oper) : Region.lexB .any (l.map (nopN N)).toArray = Region.lexB .any (l.map (nopN 0)).toArray := by
  have hat : ∀ (M j : Nat), ((l.map (nopN M)).toArray)[j]? = (l[j]?).map (nopN M) := fun M j => by simp
  have hd : ∀ j : Nat, (((l.map (nopN N)).toArray)[j]?).bind (·.dst) = (((l.map (nopN 0)).toArray)[j]?).bind (·.dst) := fun j => by
    rw [hat, hat]
    cases l[j]? with
    | none => rfl
    | some o => simp [nopN_dst]
  have hready : ∀ listed, Region.ready .any (l.map (nopN N)).toArray listed = Region.ready .any (l.map (nopN 0)).toArray listed := fun listed => by
    unfold Region.ready
    rw [show (l.map (nopN N)).toArray.size = (l.map (nopN 0)).toArray.size from by simp]
    refine List.filter_congr fun j _ => ?_
    rw [hat, hat]
    cases l[j]? with
    | none => rfl
    | some o => simp only [Option.map_some, nopN_after]
  have hfree : ∀ listed i, Region.free .any (l.map (nopN N)).toArray listed i = Region.free .any (l.map (nopN 0)).toArray listed i := fun listed i => by
    unfold Region.free
    rw [hat, hat]
    cases l[i]? with
    | none => rfl
    | some oi =>
      simp only [Option.map_some]
      rw [show (l.map (nopN N)).toArray.size = (l.map (nopN 0)).toArray.size from by simp]
      congr 1
      funext j
      rw [hat, hat]
      cases l[j]? with
      | none => rfl
      | some oj => simp only [Option.map_some, nopN_after, apart_nopN N hd]
  have hlex : ∀ (fuel k : Nat) (listed : Array Bool), Region.lexFrom .any (l.map (nopN N)).toArray fuel k listed = Region.lexFrom .any (l.map (nopN 0)).toArray fuel k listed := by
    intro fuel
    induction fuel with
    | zero => intro k listed; simp only [Region.lexFrom, hready]
    | succ fuel ih => intro k listed; simp only [Region.lexFrom, hready, hfree, ih]
  unfold Region.lexB
  rw [hlex, show (l.map (nopN N)).toArray.size = (l.map (nopN 0)).toArray.size from by simp]
  congr 1
  unfold Region.noSelect
  simp only [List.all_toArray, List.all_map]
  congr 1
  funext o
  simp only [Function.comp]
  have key : nopN N o = nopN 0 o ∨ ∃ x y, (nopN N o).op = .move x ∧ (nopN 0 o).op = .move y := by
    by_cases h1 : storeOp o.op = true
    · left
      unfold nopN
      rw [if_pos h1, if_pos h1]
    · by_cases h2 : allocOp o.op = true
      · right
        unfold nopN
        rw [if_neg h1, if_pos h2, if_neg h1, if_pos h2]
        exact ⟨_, _, rfl, rfl⟩
      · left
        unfold nopN
        rw [if_neg h1, if_neg h2, if_neg h1, if_neg h2]
  rcases key with h | ⟨x, y, h1, h2⟩
  · rw [h]
  · rw [h1, h2]

theorem memN_false {b j : Nat} {fx : List Nat} (hb : memN b fx = true) (hj : memN j fx = false) : j ≠ b := fun e => by subst e; rw [hb] at hj; cases hj
theorem evStores_sat {fx : List Nat} (sl : List (Option V)) (gl : List GE) : ∀ (l : List Oper) (hp : List (Option Blk)), M.sat F ν (evStores P S fx sl gl l hp) (fun hp' => ∃ hps : Nat → List (Option Blk), hps 0 = hp ∧ hps l.length = hp' ∧ (∀ k, k ≤ l.length → Agree fx hp (hps k)) ∧
    (∀ o t, l[0]? = some o → o.op = .alloc t → hpLt hp = true ∧ ∀ ρ w, HS E ν ρ hp w → ∀ a : Act, ∃ w', (execOp a.eval o).run P w = .ok (.value (.pointer (some ⟨w.heap.size, 0, none⟩))) w' ∧ HS E ν (ext ρ hp.length ⟨w.heap.size, 0, false, 0, 0⟩) (hps 1) w') ∧
    ∀ k o, l[k]? = some o → storeOp o.op = true → ∀ ρ a, ARel ν ρ ⟨⟨sl, []⟩, gl⟩ a → ∀ w, HS E ν ρ (hps k) w → ∃ w', (execOp a.eval o).run P w = .ok .skip w' ∧ HS E ν ρ (hps (k + 1)) w')
  | [], hp => sat_pure ⟨fun _ => hp, rfl, rfl, fun _ _ _ _ => rfl, fun o t h => by simp at h, fun k o h => by simp at h⟩
  | o :: l, hp => by
    unfold evStores
    split
    · rename_i t x y hop
      refine sat_bind (sat_lift (Q := fun v => rd ⟨⟨sl, hp⟩, gl⟩ [] x = some v) fun a h => h) fun v hv => ?_
      split
      · rename_i b off
        refine sat_ite (fun hb => ?_) (fun _ => sat_fail)
        refine sat_bind (sat_and (evStore_sat (E := E) hop) (evStore_at hv)) fun hp1 h1 => sat_mono (evStores_sat sl gl l hp1) fun hp' ⟨hps, e1, e2, e4, _, e3⟩ => ?_
        refine ⟨fun k => match k with | 0 => hp | k + 1 => hps k, rfl, e2, fun k hk j hj => ?_, fun o' t' ho' hot' => (by simp at ho'; subst ho'; rw [hop] at hot'; cases hot'), fun k o' hk hst ρ a ha w hw => ?_⟩
        · cases k with
          | zero => rfl
          | succ k =>
            have := e4 k (by simpa using hk) j hj
            simp only
            rw [this]
            exact h1.2 j (memN_false hb hj)
        · cases k with
          | zero =>
            simp at hk; subst hk
            obtain ⟨w', g1, g2⟩ := h1.1 ρ a ⟨ha.defers, ha.size, ha.slot, ha.gl⟩ (fun p hp => by simp at hp) w hw
            exact ⟨w', g1, by simp only; rw [e1]; exact g2⟩
          | succ k => exact e3 k o' (by simpa using hk) hst ρ a ha w hw
      · exact sat_fail
    · rename_i t hop
      refine sat_bind (sat_lift (Q := fun v => zeroCells P t = some v) fun a h => h) fun z hz => ?_
      refine sat_ite (fun hc => ?_) (fun _ => sat_fail)
      simp only [Bool.and_eq_true] at hc
      obtain ⟨⟨⟨hb, _⟩, hlt⟩, hzl⟩ := hc
      refine sat_mono (evStores_sat sl gl l _) fun hp' ⟨hps, e1, e2, e4, e5, e3⟩ => ?_
      refine ⟨fun k => match k with | 0 => hp | k + 1 => hps k, rfl, e2, fun k hk j hj => ?_, fun o' t' ho' hot' => ?_, fun k o' hk hst ρ a ha w hw => ?_⟩
      · cases k with
        | zero => rfl
        | succ k =>
          have := e4 k (by simpa using hk) j hj
          simp only
          rw [this, nth_append]
          have hne := memN_false hb hj
          split
          · rfl
          · rename_i hjl
            have : j - hp.length ≠ 0 := by omega
            cases hk2 : j - hp.length with
            | zero => omega
            | succ m =>
              have : nth hp j = none := by
                cases hn : nth hp j with
                | none => rfl
                | some x => exact absurd (nth_lt hn) hjl
              rw [this]
              cases m <;> rfl
      · simp at ho'
        subst ho'
        rw [hop] at hot'
        cases hot'
        refine ⟨hlt, fun ρ w hw a => ?_⟩
        obtain ⟨i, zv, hi, hzv, hzg, hzc⟩ := zeroCells_spec (ν := ν) hz
        have hnew := hw.new hlt hzl hzg t
        rw [← hzc ρ] at hnew
        refine ⟨w.alloc (.cells zv.cells t), ?_, by simp only; rw [e1]; exact hnew⟩
        simp [execOp, hop, Instr.alloc, zeroValue, typeInfo, hi, hzv, newVar, newRow]
      · cases k with
        | zero => simp at hk; subst hk; rw [hop] at hst; cases hst
        | succ k => exact e3 k o' (by simpa using hk) hst ρ a ha w hw
    · exact sat_fail

theorem storeAt_spec (ops : List Oper) : ∀ i, i ∈ storeAt ops ↔ ∃ o, ops[i]? = some o ∧ stateOp o.op = true := by
  intro i
  unfold storeAt
  rw [List.mem_map]
  constructor
  · rintro ⟨⟨o, j⟩, h, rfl⟩
    obtain ⟨h1, h2⟩ := List.mem_filter.1 h
    exact ⟨o, (List.mem_zipIdx_iff_getElem?.1 h1), h2⟩
  · rintro ⟨o, h1, h2⟩
    exact ⟨(o, i), List.mem_filter.2 ⟨List.mem_zipIdx_iff_getElem?.2 h1, h2⟩, rfl⟩

theorem storeAt_at : ∀ (ops : List Oper) (n : Nat), ((ops.zipIdx n).filter fun p => stateOp p.1.op).map (·.1) = ops.filter fun o => stateOp o.op
  | [], _ => rfl
  | o :: l, n => by
    rw [List.zipIdx_cons, List.filter_cons, List.filter_cons]
    split
    · rw [List.map_cons, storeAt_at l (n + 1)]
    · exact storeAt_at l (n + 1)
theorem stores_eq (ops : List Oper) (k i : Nat) (h : (storeAt ops)[k]? = some i) : ∃ o, ops[i]? = some o ∧ (ops.filter fun o => stateOp o.op)[k]? = some o := by
  unfold storeAt at h
  rw [List.getElem?_map] at h
  obtain ⟨⟨o, j⟩, h1, rfl⟩ := Option.map_eq_some_iff.1 h
  refine ⟨o, ?_, ?_⟩
  · have := (List.mem_filter.1 (List.mem_of_getElem? h1)).1
    exact List.mem_zipIdx_iff_getElem?.1 this
  · have := storeAt_at ops 0
    rw [← this, List.getElem?_map, h1]
    rfl

theorem sorted_lt : ∀ {l : List Nat}, sorted l = true → ∀ p q i j : Nat, p < q → l[p]? = some i → l[q]? = some j → i < j
  | [], _, p, q, i, j, _, hi, _ => by simp at hi
  | [a], _, p, q, i, j, hpq, hi, hj => by
    have : q < 1 := by
      rcases Nat.lt_or_ge q 1 with h | h
      · exact h
      · rw [List.getElem?_eq_none (by simpa using h)] at hj; cases hj
    omega
  | a :: b :: l, h, p, q, i, j, hpq, hi, hj => by
    simp only [sorted, Bool.and_eq_true] at h
    have h1 : a < b := by simpa [Nat.blt_eq] using h.1
    cases q with
    | zero => omega
    | succ q =>
      simp only [List.getElem?_cons_succ] at hj
      cases p with
      | succ p => exact sorted_lt h.2 p q i j (by omega) (by simpa using hi) hj
      | zero =>
        simp at hi; subst hi
        cases q with
        | zero => simp at hj; subst hj; exact h1
        | succ q => exact Nat.lt_trans h1 (sorted_lt h.2 0 (q + 1) b j (by omega) rfl hj)

theorem sub1_spec {l m : List Nat} (h : sub1 l m = true) : ∀ x ∈ l, x ∈ m := fun x hx => memN_mem (List.all_eq_true.1 h x hx)
theorem mem_memN {n : Nat} : ∀ {l : List Nat}, n ∈ l → memN n l = true
  | x :: l, h => by
    rcases List.mem_cons.1 h with rfl | h
    · simp [memN]
    · simp [memN, mem_memN h]

theorem backB_ok' {ops : List Oper} (h : backB ops = true) : BackOk .any ops.toArray := by
  intro i o ho
  have ho' : ops[i]? = some o := by simpa using ho
  have hm : (o, i) ∈ ops.zipIdx := by
    rw [List.mem_zipIdx_iff_getElem?]
    exact ho'
  have := List.all_eq_true.1 h _ hm
  simp only [Bool.and_eq_true] at this
  refine ⟨fun e he hbd => ?_, fun j b hg => ?_⟩
  · have h1 := this.1
    have := Array.all_eq_true_iff_forall_mem.1 h1 e he
    simpa [Nat.blt_eq, hbd] using this
  · have h2 := this.2
    rw [hg] at h2
    simpa [Nat.blt_eq] using h2

theorem eval_of_tmps {a a' : Act} {x : Operand} (h : ∀ t ∈ tmpOf x, a'.tmps[t]? = a.tmps[t]?) : a.eval x = a'.eval x := by
  cases x with
  | tmp t => simp only [Act.eval, Array.getD_eq_getD_getElem?]; rw [h t (by simp [tmpOf])]
  | _ => rfl

theorem evMixedAt_sat (hS : SigsOK P I gK S F) (hE : E.Ok gK) (hI : ∀ w, Fr E.W E.w0 w → I w) {fx : List Nat} {ops : Array Oper} {s : St} (hm : mixOk ops.toList = true) (hB : Region.lexB .any (ops.toList.map (nopN 0)).toArray = true) (hback : backB ops.toList = true) :
    M.sat F ν (evMixedAt P S fx ops.toList s) (fun s' => ∀ ρ a w, RR ν E ρ ⟨s, []⟩ a w → ∀ Q : Exit → Act → World → Prop, (∀ ρ' a' w', RR ν E ρ' ⟨s', []⟩ a' w' → Q .normal a' w') →
      wpAny P .any ops Q ops.size (Array.replicate ops.size false) a w) := by
  simp only [mixOk, Bool.and_eq_true] at hm
  obtain ⟨⟨⟨hkinds, hsorted⟩, hanc⟩, hfirst⟩ := hm
  have hk : ∀ o ∈ ops.toList, pureOp o.op = true ∨ (stateOp o.op = true ∧ o.guard = none ∧ (allocOp o.op = true ∨ o.dst = none)) := fun o ho => by
    have := List.all_eq_true.1 hkinds o ho
    simp only [Bool.or_eq_true, Bool.and_eq_true, Option.isNone_iff_eq_none] at this
    rcases this with h | ⟨⟨h1, h2⟩, h3⟩
    · exact .inl h
    · exact .inr ⟨h1, h2, h3⟩
  unfold evMixedAt
  refine sat_ite (fun hchk => ?_) (fun _ => sat_fail)
  simp only [Bool.and_eq_true] at hchk
  have hdd : ∀ (N j : Nat), (((ops.toList.map nop).toArray)[j]?).bind (·.dst) = (((ops.toList.map (nopN N)).toArray)[j]?).bind (·.dst) := fun N j => by
    have e1 : ((ops.toList.map nop).toArray)[j]? = (ops[j]?).map nop := by simp
    have e2 : ((ops.toList.map (nopN N)).toArray)[j]? = (ops[j]?).map (nopN N) := by simp
    rw [e1, e2]
    cases ops[j]? with
    | none => rfl
    | some o => simp [nop_dst, nopN_dst]
  have hops := sat_all fun N => evOpers_all (E := E) (F := F) (ν := ν) hS hE hI (N := N) (fx := fx) (ops := (ops.toList.map nop).toArray) (ops' := (ops.toList.map (nopN N)).toArray) (hdd N) (ops.toList.map nop) ⟨s, []⟩ (fun o ho => by
    obtain ⟨o', h1, rfl⟩ := List.mem_map.1 ho
    exact nop_kinds (by rcases hk o' h1 with h | h; exact .inl h; exact .inr h.1))
  simp only at hops
  refine sat_bind hops fun r hr => sat_bind (evStores_sat (E := E) r.st.sl r.gl _ s.hp) fun hp' ⟨hps, e1, e2, e4, e5, e3⟩ => sat_pure fun ρ a w hrr Q hQ => ?_
  generalize hN : w.heap.size = N
  have ha1 : ARel ν (ext ρ s.hp.length ⟨N, 0, false, 0, 0⟩) ⟨s, []⟩ a := hrr.act.ext (fun j hj => ext_lt hj) hchk.1 (by simp) s.hp
  have hs1 : HS E ν (ext ρ s.hp.length ⟨N, 0, false, 0, 0⟩) s.hp w := hrr.hs.reloc hchk.2 (fun j hj => ext_lt hj)
  have hn1 : ext ρ s.hp.length ⟨N, 0, false, 0, 0⟩ s.hp.length = ⟨N, 0, false, 0, 0⟩ := ext_same _ _ _
  have hee : ext (ext ρ s.hp.length ⟨N, 0, false, 0, 0⟩) s.hp.length ⟨N, 0, false, 0, 0⟩ = ext ρ s.hp.length ⟨N, 0, false, 0, 0⟩ := by
    funext j
    simp only [ext]
    split <;> rfl
  generalize ext ρ s.hp.length ⟨N, 0, false, 0, 0⟩ = ρ1 at *
  have hr := hr N
  rw [List.map_map, show nopN N ∘ nop = nopN N from funext fun o => nopN_nop N o] at hr
  have hsz : (ops.toList.map (nopN N)).toArray.size = ops.size := by simp
  have hat : ∀ j : Nat, (ops.toList.map (nopN N)).toArray[j]? = (ops[j]?).map (nopN N) := fun j => by simp
  have hlen : (storeAt ops.toList).length = (ops.toList.filter fun o => stateOp o.op).length := by
    have := congrArg List.length (storeAt_at ops.toList 0)
    simp only [List.length_map] at this
    unfold storeAt
    simpa using this
  have hget : ∀ (i : Nat) (o : Oper), ops[i]? = some o → ops.toList[i]? = some o := fun i o h => by simpa using h
  have hmem : ∀ (i : Nat) (o : Oper), ops[i]? = some o → o ∈ ops.toList := fun i o h => List.mem_of_getElem? (hget i o h)
  have hancs : ∀ (i : Nat) (o : Oper), i ∈ storeAt ops.toList → ops[i]? = some o → sub1 ((storeAt ops.toList).filter fun j => Nat.blt j i) (reachFrom ops.toList i (depsOf o)) = true ∧
      ops.toList.zipIdx.all (dstOk (reachFrom ops.toList i (depsOf o)) (storeTmps o.op)) = true := fun i o hi ho => by
    have := List.all_eq_true.1 hanc i hi
    unfold mixAt at this
    rw [hget i o ho] at this
    simpa only [Bool.and_eq_true] using this
  refine wpAny_mixed (ops' := (ops.toList.map (nopN N)).toArray) (st := storeAt ops.toList) (C := fun w => ∃ k, k ≤ (ops.toList.filter fun o => stateOp o.op).length ∧ HS E ν ρ1 (hps k) w) (D := fun k w => HS E ν ρ1 (hps k) w ∧ (k = 0 → w.heap.size = N)) (Qf := fun a' => ARel ν ρ1 r a')
    (by have := backB_ok' hback; simpa using this) (fun listed => ?_) (fun j => ?_) (fun i hi => ?_) (fun i hi => ?_) (fun k w hk h => ⟨k, by rw [← hlen]; exact hk, h.1⟩) (fun i o hi ho => ?_) (fun p q i j hpq hi hj listed hcl hrd => ?_) (fun i o hi ho listed hcl hrd t ht j o' ho' hd' => ?_)
    (fun k i o o' hki ho ho' => ?_) (fun a1 w1 ha1 hw1 => ?_) ops.size _ a w 0 (by simp) (fun i o _ hl => ?_) (Nat.zero_le _) (fun p i hp => by omega) (fun p i _ _ => ?_) ⟨by rw [e1]; exact hs1, fun _ => hN⟩ ?_
  · unfold Region.ready
    rw [hsz]
    refine List.filter_congr fun j _ => ?_
    rw [hat j]
    cases ops[j]? with
    | none => rfl
    | some o => simp only [Option.map_some, nopN_after]
  · rw [hat j]
    cases ops[j]? with
    | none => rfl
    | some o => simp [nopN_dst]
  · rw [hat i]
    cases ho : ops[i]? with
    | none => rfl
    | some o =>
      have : stateOp o.op = false := by
        cases h : stateOp o.op with
        | false => rfl
        | true => exact absurd ((storeAt_spec _ i).2 ⟨o, hget i o ho, h⟩) hi
      simp [nopN_same this]
  · obtain ⟨o, h1, h2⟩ := (storeAt_spec _ i).1 hi
    have h1' : ops[i]? = some o := by simpa using h1
    rcases hk o (List.mem_of_getElem? h1) with h | h
    · exfalso
      cases hop : o.op <;> rw [hop] at h h2 <;> simp [pureOp, stateOp, storeOp, allocOp] at h h2
    · exact ⟨o, nopN N o, h1', by rw [hat i, h1']; rfl, h.2.1, by rw [nopN_dst], by rw [nopN_guard]; exact h.2.1⟩
  · rcases hk o (hmem i o ho) with h | h
    · exact fun a w f args w' => pure_noEnter h a w f args w'
    · exact absurd ((storeAt_spec _ i).2 ⟨o, hget i o ho, h.1⟩) hi
  · obtain ⟨o, h1, h2⟩ := (storeAt_spec _ j).1 (List.mem_of_getElem? hj)
    have h1' : ops[j]? = some o := by simpa using h1
    have hs := (hancs j o (List.mem_of_getElem? hj) h1').1
    refine anc_listed hcl h1' hrd i (sub1_spec hs i (List.mem_filter.2 ⟨List.mem_of_getElem? hi, ?_⟩))
    have := sorted_lt hsorted p q i j hpq hi hj
    simpa [Nat.blt_eq] using this
  · have hs := (hancs i o hi ho).2
    have := List.all_eq_true.1 hs (o', j) (List.mem_zipIdx_iff_getElem?.2 (hget j o' ho'))
    simp only [dstOk, hd', Bool.or_eq_true, Bool.not_eq_true'] at this
    rcases this with h | h
    · rw [mem_memN ht] at h; cases h
    · exact anc_listed hcl ho hrd j (memN_mem h)
  · obtain ⟨o2, h1, h2⟩ := stores_eq ops.toList k i hki
    rw [hget i o ho] at h1; cases h1
    rw [hat i, ho] at ho'
    cases ho'
    have hst2 : stateOp o.op = true := (List.mem_filter.1 (List.mem_of_getElem? h2)).2
    have hkk := hk o (hmem i o ho)
    cases hso : storeOp o.op with
    | true =>
      left
      have hal : allocOp o.op = false := by cases hop : o.op <;> rw [hop] at hso <;> simp [storeOp, allocOp] at hso ⊢
      refine ⟨?_, fun a1 a2 ha2 htm w1 hw1 => ?_⟩
      · rcases hkk with h | ⟨_, _, h | h⟩
        · exfalso
          cases hop : o.op <;> rw [hop] at h hso <;> simp [pureOp, storeOp] at h hso
        · rw [hal] at h; cases h
        · exact h
      obtain ⟨w', g1, g2⟩ := e3 k o h2 hso ρ1 a2 ⟨ha2.defers, ha2.size, ha2.slot, ha2.gl⟩ w1 hw1.1
      refine ⟨w', ?_, g2, fun h => by omega⟩
      rw [← g1]
      congr 1
      cases hop : o.op <;> rw [hop] at hso <;> simp only [storeOp] at hso <;> first | cases hso | skip
      rename_i t x y
      rw [hop] at htm
      have hx : a1.eval x = a2.eval x := eval_of_tmps fun t ht => htm t (by simp [storeTmps, ht])
      have hy : a1.eval y = a2.eval y := eval_of_tmps fun t ht => htm t (by simp [storeTmps, ht])
      simp only [execOp, hop, hx, hy]
    | false =>
      right
      have hal : allocOp o.op = true := by unfold stateOp at hst2; rw [hso, Bool.false_or] at hst2; exact hst2
      have hk0 : k = 0 := by
        rcases Nat.eq_zero_or_pos k with h | h
        · exact h
        · have h3 : ((ops.toList.filter fun o => stateOp o.op).drop 1)[k - 1]? = some o := by
            rw [List.getElem?_drop, show 1 + (k - 1) = k from by omega]
            exact h2
          have := List.all_eq_true.1 hfirst o (List.mem_of_getElem? h3)
          rw [hso] at this; cases this
      subst hk0
      cases hop : o.op <;> rw [hop] at hal <;> simp only [allocOp] at hal <;> first | cases hal | skip
      rename_i t
      obtain ⟨_, h5⟩ := e5 o t h2 hop
      refine ⟨.pointer (some ⟨N, 0, none⟩), fun a0 w0 => ?_, fun a0 w1 hw1 => ?_⟩
      · have en : (nopN N o).op = .move (.const (.pointer (some ⟨N, 0, none⟩))) := by
          unfold nopN
          rw [if_neg (by rw [hso]; decide), if_pos (by rw [hop]; rfl)]
        simp [execOp, en, Act.eval]
      · have hw2 := hw1.1
        rw [e1] at hw2
        obtain ⟨w', g1, g2⟩ := h5 ρ1 w1 hw2 a0
        rw [hw1.2 rfl] at g1 g2
        rw [hee] at g2
        exact ⟨w', g1, g2, fun h => by omega⟩
  · refine hQ ρ1 a1 w1 ⟨⟨ha1.defers, ha1.size, ha1.slot, fun e he => by cases he⟩, ?_⟩
    have hw1 := hw1.1
    rw [hlen, e2] at hw1
    exact hw1
  · have h0 : (Array.replicate ops.size false).getD i false = false := by
      rw [Array.getD_eq_getD_getElem?]
      rcases Nat.lt_or_ge i ops.size with h | h
      · rw [Array.getElem?_eq_getElem (by simpa using h)]; simp
      · rw [Array.getElem?_eq_none (by simpa using h)]; rfl
    rw [h0] at hl; cases hl
  · rw [Array.getD_eq_getD_getElem?]
    rcases Nat.lt_or_ge i ops.size with h | h
    · rw [Array.getElem?_eq_getElem (by simpa using h)]; simp
    · rw [Array.getElem?_eq_none (by simpa using h)]; rfl
  · have hwq := hr ρ1 a ⟨⟨w, hs1⟩, by rw [hn1], by rw [hn1]⟩ ha1 (fun w => ∃ k, k ≤ (ops.toList.filter fun o => stateOp o.op).length ∧ HS E ν ρ1 (hps k) w) (fun w ⟨k, hk, h⟩ => ⟨hps k, h, e4 k hk⟩) (fun w w' ⟨k, hk, h⟩ hb => ⟨k, hk, h.of_below hb⟩) ⟨w, 0, Nat.zero_le _, by rw [e1]; exact hs1⟩
    rw [← lexB_nopN N] at hB
    simp only [Region.lexB, Bool.and_eq_true] at hB
    have := wpAnyQ_lex (P := P) (C := fun w => ∃ k, k ≤ (ops.toList.filter fun o => stateOp o.op).length ∧ HS E ν ρ1 (hps k) w) (md := .any) hB.1 (ops.toList.map (nopN N)) 0 (Array.replicate (ops.toList.map (nopN N)).toArray.size false) a (by simp) (by simpa using hB.2) hwq
    simpa using this
theorem evMixed_sat (hS : SigsOK P I gK S F) (hE : E.Ok gK) (hI : ∀ w, Fr E.W E.w0 w → I w) {ops : Array Oper} {s : St} (hm : mixOk ops.toList = true) (hB : Region.lexB .any (ops.toList.map (nopN 0)).toArray = true) (hback : backB ops.toList = true) :
    M.sat F ν (evMixed P S ops.toList s) (fun s' => ∀ ρ a w, RR ν E ρ ⟨s, []⟩ a w → ∀ Q : Exit → Act → World → Prop, (∀ ρ' a' w', RR ν E ρ' ⟨s', []⟩ a' w' → Q .normal a' w') →
      wpAny P .any ops Q ops.size (Array.replicate ops.size false) a w) := by
  intro n a n' e d h1 h2 h3
  unfold evMixed at h1
  exact evMixedAt_sat (E := E) hS hE hI hm hB hback n a n' e d h1 h2 h3
end
end Go.Sx

namespace Go.Sx
open Go.RowKit

section
variable {P : Program}

theorem closed_push {head : Array Oper} {last : Oper} {listed : Array Bool} (hs : listed.size = head.size) (hc : Closed head listed) : Closed (head.push last) (listed.push false) := by
  intro i o ho hl e he hb
  rw [getD_push_false] at hl ⊢
  have hi : i < head.size := by
    rcases Nat.lt_or_ge i head.size with h | h
    · exact h
    · rw [Array.getD_eq_getD_getElem?, Array.getElem?_eq_none (by omega)] at hl; cases hl
  rw [Array.getElem?_push, if_neg (by omega)] at ho
  exact hc i o ho hl e he hb

theorem wpAny_push2 {head : Array Oper} {last : Oper} {Q Qh : Exit → Act → World → Prop} (hb : BackOk .any (head.push last)) (hw : ∀ i, i < head.size → i ∈ reachFrom (head.push last).toList head.size (depsOf last))
    (hq : ∀ e a w, e ≠ .normal → Qh e a w → Q e a w) (hl : ∀ a w, Qh .normal a w → wpOp P (head.push last) Q head.size (Q .normal) a w) :
    ∀ (fuel : Nat) (listed : Array Bool) (a : Act) (w : World), listed.size = head.size → Closed head listed → wpAny P .any head Qh fuel listed a w → wpAny P .any (head.push last) Q (fuel + 1) (listed.push false) a w := by
  have hbh : BackOk .any head := fun i o ho => hb i o (by
    have hi : i < head.size := by
      rcases Nat.lt_or_ge i head.size with h | h
      · exact h
      · rw [Array.getElem?_eq_none h] at ho; cases ho
    rw [Array.getElem?_push, if_neg (by omega)]; exact ho)
  have hlast : (head.push last)[head.size]? = some last := by simp
  have hbl := hb head.size last hlast
  have r1 : ∀ listed : Array Bool, listed.size = head.size → ∀ i, i ∈ Region.ready .any (head.push last) (listed.push false) → i = head.size ∨ (i < head.size ∧ i ∈ Region.ready .any head listed) := by
    intro listed hs i hi
    obtain ⟨h1, oi, h2, h3⟩ := mem_ready.1 hi
    rcases Nat.lt_trichotomy i head.size with h | h | h
    · right
      refine ⟨h, mem_ready.2 ⟨by rw [← getD_push_true (by omega)]; exact h1, oi, by rw [Array.getElem?_push, if_neg (by omega)] at h2; exact h2, fun e he hbd => by rw [← getD_push_false]; exact h3 e he hbd⟩⟩
    · exact .inl h
    · rw [Array.getElem?_eq_none (by simp; omega)] at h2; cases h2
  have r2 : ∀ listed : Array Bool, listed.size = head.size → Closed head listed → head.size ∈ Region.ready .any (head.push last) (listed.push false) → Region.ready .any head listed = [] := by
    intro listed hs hc hi
    have hall := anc_listed (closed_push hs hc) hlast hi
    apply List.eq_nil_iff_forall_not_mem.2
    intro j hj
    obtain ⟨h4, oj, h5, _⟩ := mem_ready.1 hj
    have hjl : j < head.size := by
      rcases Nat.lt_or_ge j head.size with h | h
      · exact h
      · rw [Array.getElem?_eq_none h] at h5; cases h5
    have := hall j (hw j hjl)
    rw [getD_push_false, ← getD_true_false (by omega), h4] at this
    cases this
  have r3 : ∀ listed : Array Bool, listed.size = head.size → Region.ready .any head listed = [] → head.size ∈ Region.ready .any (head.push last) (listed.push false) := by
    intro listed hs h0
    refine mem_ready.2 ⟨getD_push_at hs true, last, hlast, fun e he hbd => ?_⟩
    rw [getD_push_false]
    exact all_listed hs hbh h0 e.on (hbl.1 e he hbd)
  have rend : ∀ listed : Array Bool, listed.size = head.size → Region.ready .any head listed = [] → Region.ready .any (head.push last) ((listed.push false).setIfInBounds head.size true) = [] := by
    intro listed hs h0
    apply List.eq_nil_iff_forall_not_mem.2
    intro j hj
    obtain ⟨h4, oj, h5, _⟩ := mem_ready.1 hj
    have hjl : j < head.size + 1 := by
      rcases Nat.lt_or_ge j (head.size + 1) with h | h
      · exact h
      · rw [Array.getElem?_eq_none (by simp; omega)] at h5; cases h5
    by_cases hjn : j = head.size
    · subst hjn
      rw [Array.getD_eq_getD_getElem?, Array.getElem?_setIfInBounds_self_of_lt (by simp [hs])] at h4
      cases h4
    · have := all_listed hs hbh h0 j (by omega)
      rw [getD_set_ne true (Ne.symm hjn), getD_push_true (by omega), getD_true_false (by omega), this] at h4
      cases h4
  have fin : ∀ (fuel : Nat) (listed : Array Bool) (a : Act) (w : World), listed.size = head.size → Region.ready .any head listed = [] → Q .normal a w →
      wpAny P .any (head.push last) Q fuel ((listed.push false).setIfInBounds head.size true) a w := by
    intro fuel listed a w hs h0 hn
    have he := rend listed hs h0
    cases fuel with
    | zero => exact ⟨he, hn⟩
    | succ f => exact ⟨fun _ => hn, fun i hi => by rw [he] at hi; cases hi⟩
  intro fuel
  induction fuel with
  | zero =>
    intro listed a w hs hc h
    refine ⟨fun h0 => ?_, fun i hi => ?_⟩
    · have := r3 listed hs h.1
      rw [h0] at this; cases this
    · rcases r1 listed hs i hi with rfl | ⟨_, hi'⟩
      · exact wpOp_mono (fun a' w' hn => fin 0 listed a' w' hs h.1 hn) (hl a w h.2)
      · rw [h.1] at hi'; cases hi'
  | succ fuel ih =>
    intro listed a w hs hc h
    refine ⟨fun h0 => ?_, fun i hi => ?_⟩
    · exfalso
      have hz : Region.ready .any head listed = [] := by
        apply List.eq_nil_iff_forall_not_mem.2
        intro j hj
        obtain ⟨h4, oj, h5, h6⟩ := mem_ready.1 hj
        have hjl : j < head.size := by
          rcases Nat.lt_or_ge j head.size with h | h
          · exact h
          · rw [Array.getElem?_eq_none h] at h5; cases h5
        have : j ∈ Region.ready .any (head.push last) (listed.push false) := mem_ready.2 ⟨by rw [getD_push_true (by omega)]; exact h4, oj, by rw [Array.getElem?_push, if_neg (by omega)]; exact h5, fun e he hbd => by rw [getD_push_false]; exact h6 e he hbd⟩
        rw [h0] at this; cases this
      have := r3 listed hs hz
      rw [h0] at this; cases this
    · rcases r1 listed hs i hi with rfl | ⟨hil, hi'⟩
      · have hz := r2 listed hs hc hi
        exact wpOp_mono (fun a' w' hn => fin (fuel + 1) listed a' w' hs hz hn) (hl a w (h.1 hz))
      · have h2 := h.2 i hi'
        have hset : (listed.push false).setIfInBounds i true = (listed.setIfInBounds i true).push false := by
          apply Array.ext'
          simp only [Array.toList_setIfInBounds, Array.toList_push]
          rw [List.set_append_left _ _ (by simpa using (show i < listed.size from by omega))]
        rw [hset]
        refine wpOp_change (by rw [Array.getElem?_push, if_neg (by omega)]) (fun o ho => ?_) (fun a' w' h' => ih _ a' w' (by simpa using hs) (hc.set hi') h') hq h2
        exact wanted_push (i := i) (by omega) (hbh i o ho).2

theorem closed_none (ops : Array Oper) (n : Nat) : Closed ops (Array.replicate n false) := by
  intro i o _ hl
  rw [Array.getD_eq_getD_getElem?, Array.getElem?_replicate] at hl
  split at hl <;> simp at hl

theorem wpAny_tails2 {ops : Array Oper} {Q : Exit → Act → World → Prop} (hb : BackOk .any ops) : ∀ (rest : List Oper) (head : Array Oper), ops.toList = head.toList ++ rest →
    (∀ i, head.size ≤ i → ∀ o, ops[i]? = some o → ∀ j, j < i → j ∈ reachFrom (ops.toList.take (i + 1)) i (depsOf o)) →
    ∀ a w, wpAny P .any head (fun e a w => match e with | .normal => wpList P ops Q rest a w | e => Q e a w) head.size (Array.replicate head.size false) a w →
    wpAny P .any ops Q ops.size (Array.replicate ops.size false) a w
  | [], head, ho, _, a, w, h => by
    have : head = ops := by apply Array.ext'; simpa using ho.symm
    subst this
    refine wpAny_mono (fun e a w hh => ?_) _ _ _ _ h
    cases e <;> exact hh
  | o :: rest, head, ho, hw, a, w, h => by
    have hpre : ∀ i, i < head.size + 1 → (head.push o)[i]? = ops[i]? := fun i hi => by
      have h1 : ops[i]? = ops.toList[i]? := by simp
      rw [h1, ho]
      by_cases hih : i < head.size
      · rw [List.getElem?_append_left (by simpa using hih), Array.getElem?_push, if_neg (by omega)]; simp
      · have : i = head.size := by omega
        subst this
        simp
    have hbp : BackOk .any (head.push o) := fun i x hx => hb i x (by
      rw [← hpre i (by
        rcases Nat.lt_or_ge i (head.size + 1) with h | h
        · exact h
        · rw [Array.getElem?_eq_none (by simp; omega)] at hx; cases hx)]
      exact hx)
    have ho' : ops[head.size]? = some o := by rw [← hpre _ (by omega)]; simp
    have htk : ops.toList.take (head.size + 1) = (head.push o).toList := by
      rw [ho, Array.toList_push]
      have : (head.toList ++ o :: rest) = (head.toList ++ [o]) ++ rest := by simp
      rw [this, List.take_left' (by simp)]
    refine wpAny_tails2 hb rest (head.push o) (by simp [ho]) (fun i hi x hx j hj => hw i (by simp at hi; omega) x hx j hj) a w ?_
    have := wpAny_push2 (P := P) (head := head) (last := o) (Q := fun e a w => match e with | .normal => wpList P ops Q rest a w | e => Q e a w) hbp
      (fun i hi => by rw [← htk]; exact hw head.size (Nat.le_refl _) o ho' i hi) (Qh := fun e a w => match e with | .normal => wpList P ops Q (o :: rest) a w | e => Q e a w)
      (fun e a w hne hh => by cases e <;> first | exact absurd rfl hne | exact hh)
      (fun a w hh => by
        simp only [wpList] at hh
        unfold wpOp
        have e1 : (head.push o)[head.size]? = some o := by simp
        simp only [e1]
        have hwd : Region.wanted o (yielded (head.push o) a.tmps) = Region.wanted o (yielded ops a.tmps) := by
          unfold Region.wanted
          cases hgd : o.guard with
          | none => rfl
          | some p =>
            obtain ⟨j, b⟩ := p
            have := (hb head.size o ho').2 j b hgd
            simp only [yielded, hpre j (by omega)]
        rw [hwd]
        split
        · rename_i hwt
          simp only [hwt, if_true] at hh
          exact operWp_mono (fun a w h => h) (fun e a w hne h => by cases e <;> first | exact absurd rfl hne | exact h) hh
        · rename_i hwt
          simp only [hwt] at hh
          exact hh) head.size (Array.replicate head.size false) a w (by simp) (closed_none _ _) h
    have hr : (Array.replicate head.size false).push false = Array.replicate (head.push o).size false := by
      simp [Array.replicate_succ]
    rw [hr] at this
    simpa using this

def StepTo (P : Program) (m : Sem Next) (w : World) (K : Value → World → Prop) : Prop :=
  (∃ v w', m.run P w = .ok (.value v) w' ∧ K v w') ∨ ∃ f args w1, m.run P w = .ok (.enter f args) w1 ∧ Calls P f args w1 fun e w' => ∃ v, e = .returned v ∧ K v w'

theorem wpAny_many {Θ : Type} {ops : Array Oper} {ops' : Θ → Array Oper} {st : List Nat} {val : Nat → Θ → Value} {C : Θ → World → Prop} {D : Array Bool → Θ → World → Prop} {Sm : Array Bool → Θ → Θ → Prop}
    {Qf : Θ → Act → Prop} {Q' : Exit → Act → World → Prop} {tm : Nat → List Nat} (hb : BackOk .any ops)
    (hready : ∀ θ listed, Region.ready .any (ops' θ) listed = Region.ready .any ops listed) (hdst : ∀ θ (j : Nat), ((ops' θ)[j]?).bind (·.dst) = (ops[j]?).bind (·.dst))
    (hns : ∀ θ (i : Nat), i ∉ st → (ops' θ)[i]? = ops[i]?)
    (hst : ∀ i ∈ st, ∃ o, ops[i]? = some o ∧ o.guard = none ∧ ∀ θ, ∃ o', (ops' θ)[i]? = some o' ∧ o'.guard = none ∧ o'.dst = o.dst ∧ ∀ (a : Act) (w : World), (execOp a.eval o').run P w = .ok (.value (val i θ)) w)
    (hD : ∀ listed θ θ' w, D listed θ w → Sm listed θ θ' → D listed θ' w) (hDC : ∀ listed θ w, D listed θ w → C θ w)
    (hrefl : ∀ listed θ, Sm listed θ θ) (htrans : ∀ listed i θ θ' θ'', Sm listed θ θ' → Sm (listed.setIfInBounds i true) θ' θ'' → Sm listed θ θ'')
    (hval : ∀ (listed : Array Bool) i θ θ', i ∈ st → listed.size = ops.size → Sm (listed.setIfInBounds i true) θ θ' → val i θ' = val i θ)
    (hpure : ∀ (i : Nat) (o : Oper), i ∉ st → ops[i]? = some o → ∀ (a : Act) (w : World) f args w', (execOp a.eval o).run P w ≠ .ok (.enter f args) w')
    (hDset : ∀ (listed : Array Bool) i θ w, i ∉ st → D listed θ w → D (listed.setIfInBounds i true) θ w)
    (hop : ∀ (i : Nat) (o : Oper), i ∈ st → ops[i]? = some o → ∀ listed, Closed ops listed → i ∈ Region.ready .any ops listed → ∀ t ∈ tm i, ∀ (j : Nat) (o' : Oper), ops[j]? = some o' → o'.dst = some t → listed.getD j false = true)
    (hstep : ∀ (i : Nat) (o : Oper), i ∈ st → ops[i]? = some o → ∀ listed, listed.size = ops.size → Closed ops listed → i ∈ Region.ready .any ops listed → ∀ θ w, D listed θ w → ∀ a a' : Act, Qf θ a' → (∀ t ∈ tm i, a'.tmps[t]? = a.tmps[t]?) →
      StepTo P (execOp a.eval o) w fun v w' => ∃ θ', Sm listed θ θ' ∧ val i θ' = v ∧ D (listed.setIfInBounds i true) θ' w')
    (hQ : ∀ θ a w listed, (∀ i, i < ops.size → listed.getD i false = true) → Qf θ a → D listed θ w → Q' .normal a w) :
    ∀ (fuel : Nat) (listed : Array Bool) (a : Act) (w : World) (θ : Θ), listed.size = ops.size → Closed ops listed → D listed θ w → (∀ θ', Sm listed θ θ' → wpAnyQ P .any (ops' θ') (C θ') (Qf θ') fuel listed a) → wpAny P .any ops Q' fuel listed a w := by
  intro fuel
  induction fuel with
  | zero =>
    intro listed a w θ hs hcl hd h
    have h0 := h θ (hrefl _ _)
    have h1 := h0.1
    rw [hready] at h1
    exact ⟨h1, hQ θ a w listed (all_listed hs hb h1) h0.2 hd⟩
  | succ fuel ih =>
    intro listed a w θ hs hcl hd h
    refine ⟨fun h1 => ?_, fun i hi => ?_⟩
    · have h0 := h θ (hrefl _ _)
      exact hQ θ a w listed (all_listed hs hb h1) (h0.1 (by rw [hready]; exact h1)) hd
    · have hs' : (listed.setIfInBounds i true).size = ops.size := by simpa using hs
      have hcl' := hcl.set hi
      obtain ⟨hnl, oi, hoi, _⟩ := mem_ready.1 hi
      have hil : i < ops.size := by
        rcases Nat.lt_or_ge i ops.size with h | h
        · exact h
        · rw [Array.getElem?_eq_none h] at hoi; cases hoi
      by_cases him : i ∈ st
      · obtain ⟨o, e1, e2, e3⟩ := hst i him
        rw [hoi] at e1; cases e1
        have hwd : Region.wanted oi (yielded ops a.tmps) = true := by simp [Region.wanted, e2]
        -- one step of each
        have next : ∀ θ', Sm listed θ θ' → wpAnyQ P .any (ops' θ') (C θ') (Qf θ') fuel (listed.setIfInBounds i true) (a.put oi.dst (val i θ')) := by
          intro θ' hsm
          have hq := (h θ' hsm).2 i (by rw [hready]; exact hi)
          obtain ⟨o', e4, e5, e6, e7⟩ := e3 θ'
          have hwd' : Region.wanted o' (yielded (ops' θ') a.tmps) = true := by simp [Region.wanted, e5]
          unfold qOp at hq
          rw [e4] at hq
          simp only at hq
          rw [if_pos hwd'] at hq
          obtain ⟨v, hv, h4⟩ := hq
          have h3 := hv w (hDC _ _ _ (hD _ _ _ _ hd hsm))
          unfold Oper.quietAt at h3
          rw [e7 a w] at h3
          have hvv : val i θ' = v := h3.2
          rw [hvv, ← e6]
          exact h4
        have go : ∀ v w', (∃ θ', Sm listed θ θ' ∧ val i θ' = v ∧ D (listed.setIfInBounds i true) θ' w') → wpAny P .any ops Q' fuel (listed.setIfInBounds i true) (a.put oi.dst v) w' := by
          rintro v w' ⟨θ', hsm, rfl, hd'⟩
          refine ih _ _ w' θ' hs' hcl' hd' fun θ'' hsm' => ?_
          rw [← hval listed i θ' θ'' him hs hsm']
          exact next θ'' (htrans listed i θ θ' θ'' hsm hsm')
        obtain ⟨a', ha', htm⟩ := end_of_quiet fuel _ _ (next θ (hrefl _ _))
        have hst' := hstep i oi him hoi listed hs hcl hi θ w hd a a' ha' (fun t ht => by
          have hne : oi.dst ≠ some t := fun e => by
            have := hop i oi him hoi listed hcl hi t ht i oi hoi e
            rw [← getD_true_false (by omega), hnl] at this
            cases this
          rw [htm t (fun j o'' ho'' hd'' => ?_), put_tmps_ne hne]
          have hjd : (ops[j]?).bind (·.dst) = some t := by rw [← hdst θ j, ho'']; exact hd''
          cases hoj : ops[j]? with
          | none => rw [hoj] at hjd; cases hjd
          | some oj =>
            rw [hoj] at hjd
            have hjl : j < listed.size := by
              rcases Nat.lt_or_ge j ops.size with h | h
              · omega
              · rw [Array.getElem?_eq_none h] at hoj; cases hoj
            have := getD_set_true (i := i) (hop i oi him hoi listed hcl hi t ht j oj hoj hjd)
            rw [getD_true_false (by simpa using hjl)]
            exact this)
        unfold wpOp
        rw [hoi]
        simp only
        rw [if_pos hwd]
        refine .inl ?_
        unfold Oper.wp
        rcases hst' with ⟨v, w', hr, hk⟩ | ⟨f, args, w1, hr, hk⟩
        · rw [hr]
          exact go v w' hk
        · rw [hr]
          exact Calls.mono hk fun e w' ⟨v, he, hk⟩ => by subst he; exact go v w' hk
      · have hq := (h θ (hrefl _ _)).2 i (by rw [hready]; exact hi)
        unfold qOp at hq
        rw [hns θ i him, hoi] at hq
        simp only [yielded_congr (hdst θ)] at hq
        unfold wpOp
        rw [hoi]
        simp only
        have each : ∀ θ', Sm listed θ θ' → (if Region.wanted oi (yielded ops a.tmps) = true then ∃ v, (∀ w, C θ' w → oi.quietAt P a (C θ') w v) ∧ wpAnyQ P .any (ops' θ') (C θ') (Qf θ') fuel (listed.setIfInBounds i true) (a.put oi.dst v) else wpAnyQ P .any (ops' θ') (C θ') (Qf θ') fuel (listed.setIfInBounds i true) (a.put oi.dst undef)) := by
          intro θ' hsm
          have hq := (h θ' hsm).2 i (by rw [hready]; exact hi)
          unfold qOp at hq
          rw [hns θ' i him, hoi] at hq
          simp only [yielded_congr (hdst θ')] at hq
          exact hq
        split
        · rename_i hwt
          rw [if_pos hwt] at hq
          refine .inl ?_
          have hne := hpure i oi him hoi a w
          have hval2 : ∀ θ', Sm listed θ θ' → ∃ v, Oper.quietUpon P (C θ') w v ((execOp a.eval oi).run P w) ∧ wpAnyQ P .any (ops' θ') (C θ') (Qf θ') fuel (listed.setIfInBounds i true) (a.put oi.dst v) := by
            intro θ' hsm
            have := each θ' hsm
            rw [if_pos hwt] at this
            obtain ⟨v, h1, h2⟩ := this
            exact ⟨v, h1 w (hDC _ _ _ (hD _ _ _ _ hd hsm)), h2⟩
          have sm1 : ∀ θ', Sm (listed.setIfInBounds i true) θ θ' → Sm listed θ θ' := fun θ' hsm => htrans listed i θ θ θ' (hrefl _ _) hsm
          unfold Oper.wp
          generalize (execOp a.eval oi).run P w = r at *
          obtain ⟨v0, h3, _⟩ := hval2 θ (hrefl _ _)
          cases r with
          | ok n w' =>
            cases n <;> simp only [Oper.quietUpon] at h3 <;> simp only [Oper.upon]
            case value u =>
              obtain ⟨e1, _⟩ := h3
              rw [e1]
              refine ih _ _ w θ hs' hcl' (hDset _ _ _ _ him hd) fun θ' hsm => ?_
              obtain ⟨v, h4, h5⟩ := hval2 θ' (sm1 θ' hsm)
              have h4 : w' = w ∧ u = v := h4
              rw [h4.2]
              exact h5
            case skip =>
              obtain ⟨e1, _⟩ := h3
              rw [e1]
              refine ih _ _ w θ hs' hcl' (hDset _ _ _ _ him hd) fun θ' hsm => ?_
              obtain ⟨v, h4, h5⟩ := hval2 θ' (sm1 θ' hsm)
              have h4 : w' = w ∧ v = undef := h4
              rw [h4.2] at h5
              exact h5
            case enter f args => exact absurd rfl (hne f args w')
          | halt x w' => simp only [Oper.quietUpon] at h3
        · rename_i hwt
          rw [if_neg hwt] at hq
          refine ih _ _ w θ hs' hcl' (hDset _ _ _ _ him hd) fun θ' hsm => ?_
          have := each θ' (htrans listed i θ θ θ' (hrefl _ _) hsm)
          rw [if_neg hwt] at this
          exact this
end

section
variable {F : FEnv} {E : Env} {ν : Nat → DV}

theorem HS.grow {ρ ρ' : Nat → Loc} {hp hp' : List (Option Blk)} {w w' : World} {base : Nat} {N : Nat → Prop} (h : HS E ν ρ hp w) (hb : Below w.heap.size w w') (h0 : E.n0 ≤ base) (hl : E.n0 ≤ hp'.length) (hρ : ∀ b, b < base → ρ' b = ρ b)
    (hc : ∀ b bk, nth hp' b = some bk → (nth hp b = some bk ∧ ρ' b = ρ b ∧ bk.lt base = true) ∨ (BlkRel E ν ρ' w' (ρ' b) bk ∧ ((ρ' b).nil = true ∨ w.heap.size ≤ (ρ' b).blk ∨ (bk.own = false ∧ ∃ j bj, nth hp j = some bj ∧ bj.own = false ∧ (ρ j).nil = false ∧ (ρ' b).blk = (ρ j).blk)) ∧ N b))
    (hn : ∀ b b' bk bk', N b → N b' → nth hp' b = some bk → bk.own = true → nth hp' b' = some bk' → b ≠ b' → (ρ' b).nil = false → (ρ' b').nil = false → (ρ' b).blk ≠ (ρ' b').blk) : HS E ν ρ' hp' w' := by
  have hblk : ∀ b bk, nth hp b = some bk → ρ' b = ρ b → (ρ' b).nil = false → (ρ' b).blk < w.heap.size := fun b bk hb1 he hnil => by
    rw [he] at hnil ⊢
    exact (h.heap.blk b bk hb1).lt hnil
  refine ⟨⟨fun b bk hbk => ?_, fun b b' bk bk' hbk ho hbk' hne hn1 hn2 => ?_⟩, fun b bk hbk => ?_, h.fr.trans (Fr.of_below hb), hl, fun j hj => by rw [hρ j (by omega)]; exact h.keep j hj⟩
  · rcases hc b bk hbk with ⟨h1, h2, h3⟩ | ⟨h1, _, _⟩
    · rw [h2]
      exact ((h.heap.blk b bk h1).of_block hb.size (fun hnil => hb.block _ ((h.heap.blk b bk h1).lt hnil))).keep hρ h3
    · exact h1
  · rcases hc b bk hbk with ⟨h1, h2, _⟩ | ⟨_, h2, h3⟩ <;> rcases hc b' bk' hbk' with ⟨g1, g2, _⟩ | ⟨_, g2, g3⟩
    · rw [h2] at hn1 ⊢
      rw [g2] at hn2 ⊢
      exact h.heap.apart b b' bk bk' h1 ho g1 hne hn1 hn2
    · have := hblk b bk h1 h2 hn1
      rcases g2 with g2 | g2 | ⟨_, j, bj, e1, e2, e3, e4⟩
      · rw [hn2] at g2; cases g2
      · omega
      · have hbj : b ≠ j := fun e => by
          subst e
          rw [h1] at e1; cases e1
          rw [ho] at e2; cases e2
        rw [e4, h2]
        exact h.heap.apart b j bk bj h1 ho e1 hbj (by rw [← h2]; exact hn1) e3
    · have := hblk b' bk' g1 g2 hn2
      rcases h2 with h2 | h2 | ⟨h2, _⟩
      · rw [hn1] at h2; cases h2
      · omega
      · rw [ho] at h2; cases h2
    · exact hn b b' bk bk' h3 g3 hbk ho hbk' hne hn1 hn2
  · rcases hc b bk hbk with ⟨h1, h2, _⟩ | ⟨_, h2, _⟩
    · rw [h2]; exact h.old b bk h1
    · rcases h2 with h2 | h2 | ⟨ho, j, bj, e1, e2, e3, e4⟩
      · exact .inl h2
      · exact .inr (.inl (Nat.le_trans h.fr.size h2))
      · rcases h.old j bj e1 with h | h | h | ⟨_, h⟩
        · rw [e3] at h; cases h
        · exact .inr (.inl (by rw [e4]; exact h))
        · exact .inr (.inr (.inl (by rw [e4]; exact h)))
        · exact .inr (.inr (.inr ⟨ho, by rw [e4]; exact h⟩))
end
end Go.Sx

namespace Go.Sx
open Go.RowKit
section
variable {P : Program} {I : World → Prop} {S : Sigs} {F : FEnv} {E : Env} {gK : Nat} {ν : Nat → DV}

theorem Lf.eqB_conc {a b : Lf} (h : a.eqB b = true) (ρ : Nat → Loc) : a.conc ν ρ = b.conc ν ρ := by
  unfold Lf.eqB at h
  split at h
  · simp only [Bool.and_eq_true] at h
    have := kEq_eq h.1; subst this
    have := A.beq_den h.2 ν
    simp only [Lf.conc, A.int, this]
  · have := A.beq_den h ν
    simp only [Lf.conc, A.bool, this]
  · simp only [Bool.and_eq_true] at h
    have e1 := Nat.eq_of_beq_eq_true h.1
    have e2 := Nat.eq_of_beq_eq_true h.2
    subst e1; subst e2; rfl
  · rfl
  · have e1 := Nat.eq_of_beq_eq_true h
    subst e1; rfl
  · cases h
theorem lfsEqB_conc (ρ : Nat → Loc) : ∀ {a b : List Lf}, lfsEqB a b = true → a.map (Lf.conc ν ρ) = b.map (Lf.conc ν ρ)
  | [], [], _ => rfl
  | a :: l, b :: l', h => by
    simp only [lfsEqB, Bool.and_eq_true] at h
    simp only [List.map_cons, Lf.eqB_conc h.1 ρ, lfsEqB_conc ρ h.2]
  | [], _ :: _, h => by cases h
  | _ :: _, [], h => by cases h
theorem V.eqB_conc {a b : V} (h : a.eqB b = true) (ρ : Nat → Loc) : a.conc ν ρ = b.conc ν ρ := by
  unfold V.eqB at h
  split at h
  · simp only [V.conc, V1.conc, Lf.eqB_conc h ρ]
  · simp only [V.conc, V1.conc, lfsEqB_conc ρ h]
  · cases h
theorem vsEqB_conc (ρ : Nat → Loc) : ∀ {a b : List V}, vsEqB a b = true → a.map (V.conc ν ρ) = b.map (V.conc ν ρ)
  | [], [], _ => rfl
  | a :: l, b :: l', h => by
    simp only [vsEqB, Bool.and_eq_true] at h
    simp only [List.map_cons, V.eqB_conc h.1 ρ, vsEqB_conc ρ h.2]
  | [], _ :: _, h => by cases h
  | _ :: _, [], h => by cases h

theorem Lf.inB_conc {p : Nat → Bool} {a : Lf} (h : a.inB p = true) {ρ ρ' : Nat → Loc} (hρ : ∀ q, p q = true → ρ' q = ρ q) : a.conc ν ρ' = a.conc ν ρ := by
  unfold Lf.inB at h
  split at h
  · simp only [Lf.conc, hρ _ h]
  · simp only [Lf.conc, hρ _ h]
  · cases h
  · cases h
  · cases h
  · rename_i h1 h2 h3 h4 h5
    cases a with
    | i k a => rfl
    | b a => rfl
    | p q o => exact absurd rfl (h3 q o)
    | gp g o => exact absurd rfl (h4 g o)
    | nilp => rfl
    | vec q => exact absurd rfl (h2 q)
    | fnp f bs => exact absurd rfl (h5 f bs)
    | v x => rfl
theorem V.inB_conc {p : Nat → Bool} {a : V} (h : a.inB p = true) {ρ ρ' : Nat → Loc} (hρ : ∀ q, p q = true → ρ' q = ρ q) : a.conc ν ρ' = a.conc ν ρ := by
  have key : ∀ l : List Lf, l.all (Lf.inB p) = true → l.map (Lf.conc ν ρ') = l.map (Lf.conc ν ρ) := fun l hl =>
    List.map_congr_left fun x hx => Lf.inB_conc (List.all_eq_true.1 hl x hx) hρ
  have key1 : ∀ v : V1, v.cells.all (Lf.inB p) = true → v.conc ν ρ' = v.conc ν ρ := fun v hv => by
    cases v with
    | one l =>
      have : l.inB p = true := by simpa [V1.cells] using hv
      simp only [V1.conc, Lf.inB_conc this hρ]
    | agg l => simp only [V1.conc, key l hv]
  cases a with
  | s v =>
    cases v with
    | one l => exact key1 (.one l) (by simpa [V.inB, V1.cells] using h)
    | agg l => exact key1 (.agg l) h
  | t l =>
    simp only [V.conc]
    congr 2
    exact List.map_congr_left fun x hx => key1 x (List.all_eq_true.1 h x hx)

theorem callee_run {o : Oper} {x : Operand} {args : List Operand} (hc : calleeOf o.op = some (x, args)) {r : RS} {f : Nat} {vs : List V} (hf : fnOf (rd r [] x) = some (f, [])) (hvs : rdAll r [] args = some vs) {ρ : Nat → Loc} {a : Act} (ha : ARel ν ρ r a) (w : World) :
    (callFunc f (vs.map (V.conc ν ρ)).toArray).run P w = .ok (.enter f (vs.map (V.conc ν ρ)).toArray) w → (execOp a.eval o).run P w = .ok (.enter f (vs.map (V.conc ν ρ)).toArray) w := by
  intro h4
  cases hop : o.op <;> rw [hop] at hc <;> simp only [calleeOf] at hc <;> try cases hc
  rename_i c
  split at hc
  · rename_i y hcal
    cases hc
    have hctx : CtxOk [] a := fun p hp => by simp at hp
    have h1 := rdAll_spec ha hctx hvs
    have h0 := fnOf_spec ha hctx hf
    have h2 : c.args.map a.eval = (vs.map (V.conc ν ρ)).toArray := by
      apply Array.ext'
      simpa using h1
    rw [← h2] at h4 ⊢
    simp [execOp, hop, resolve, hcal, h0, Deferred.ofValue, invoke, capsConc]
    exact h4
  · cases hc

theorem callee_eval {o : Oper} {a a' : Act} (hc : (calleeOf o.op).isSome = true) (h : ∀ t ∈ callTmps o.op, a'.tmps[t]? = a.tmps[t]?) : execOp a.eval o = execOp a'.eval o := by
  cases hop : o.op <;> rw [hop] at hc <;> simp only [calleeOf] at hc <;> try cases hc
  rename_i c
  split at hc
  · rename_i y hcal
    have ht : ∀ z : Operand, (z = y ∨ z ∈ c.args.toList) → a.eval z = a'.eval z := fun z hz => by
      refine eval_of_tmps fun t ht => h t ?_
      rw [hop]
      simp only [callTmps, calleeOf, hcal]
      rcases hz with rfl | hz
      · exact List.mem_append_left _ ht
      · exact List.mem_append_right _ (List.mem_flatMap.2 ⟨z, hz, ht⟩)
    have hargs : c.args.map a.eval = c.args.map a'.eval := by
      apply Array.ext'
      simp only [Array.toList_map]
      exact List.map_congr_left fun z hz => ht z (.inr hz)
    simp only [execOp, hop, resolve, hcal, hargs, ht y (.inl rfl)]
  · cases hc

def readEnv (hp : List (Option Blk)) (ρ : Nat → Loc) (w : World) : Env :=
  ⟨fun _ => False, fun b => ∃ j bk, nth hp j = some bk ∧ (ρ j).nil = false ∧ (ρ j).blk = b, w, 0, ρ⟩
theorem readEnv_ok {hp : List (Option Blk)} {ρ : Nat → Loc} {w : World} (h : gK ≤ w.heap.size) : (readEnv hp ρ w).Ok gK := ⟨h, fun _ hb => hb.elim⟩
theorem HS.read {ρ : Nat → Loc} {hp hc : List (Option Blk)} {w : World} (h : HS E ν ρ hp w) (hc1 : ∀ j bk, nth hc j = some bk → nth hp j = some bk ∧ bk.flat = true ∧ bk.own = false) : HS (readEnv hc ρ w) ν ρ hc w :=
  ⟨⟨fun j bk hj => (h.heap.blk j bk (hc1 j bk hj).1).flat (hc1 j bk hj).2.1, fun j j' bk bk' hj ho => by rw [(hc1 j bk hj).2.2] at ho; cases ho⟩,
   fun j bk hj => by
     cases hn : (ρ j).nil with
     | true => exact .inl rfl
     | false => exact .inr (.inr (.inr ⟨(hc1 j bk hj).2.2, j, bk, hj, hn, rfl⟩)),
   Fr.refl _ _, Nat.zero_le _, fun j hj => absurd hj (Nat.not_lt_zero _)⟩

theorem nth_frz {l : List (Option Blk)} {j : Nat} {bk : Blk} (h : nth (l.map frz) j = some bk) : nth l j = some bk ∧ bk.flat = true ∧ bk.own = false := by
  induction l generalizing j with
  | nil => cases j <;> simp [nth] at h
  | cons x l ih =>
    cases j with
    | zero =>
      simp only [List.map_cons, nth] at h ⊢
      unfold frz at h
      split at h
      · split at h
        · rename_i hc
          cases h
          simp only [Bool.and_eq_true, Bool.not_eq_true'] at hc
          exact ⟨rfl, hc.1, hc.2⟩
        · cases h
      · cases h
    | succ j => exact ih (by simpa [nth] using h)

def CallFact (P : Program) (I : World → Prop) (gK : Nat) (ν : Nat → DV) (f : Nat) (vs : List V) (v : V) (hcall : List (Option Blk)) (news : List (Option Blk)) : Prop :=
  ∀ (E2 : Env), E2.Ok gK → ∀ ρ w, (∀ v ∈ vs, V.good ν v) → HS E2 ν ρ hcall w → I w →
    (callFunc f (vs.map (V.conc ν ρ)).toArray).run P w = .ok (.enter f (vs.map (V.conc ν ρ)).toArray) w ∧
    Calls P f (vs.map (V.conc ν ρ)).toArray w fun e w' => ∃ ρ' hp1, (∀ j, j < hcall.length → ρ' j = ρ j) ∧ HS E2 ν ρ' hp1 w' ∧ (∀ p, nth news p ≠ none → nth hp1 (hcall.length + p) = nth news p) ∧ e = .returned (v.conc ν ρ')
theorem drop_nth {α : Type} (l : List (Option α)) (n p : Nat) : nth (l.drop n) p = nth l (n + p) := by
  induction n generalizing l with
  | zero => simp
  | succ n ih =>
    cases l with
    | nil => simp [nth]
    | cons x l =>
      rw [List.drop_succ_cons, ih, show n + 1 + p = (n + p) + 1 from by omega]
      rfl
theorem callFact_sat (hS : SigsOK P I gK S F) {f : Nat} {vs : List V} {hcall : List (Option Blk)} : M.sat F ν (evCall P S f vs hcall) (fun res =>
    match res with
    | .val v => CallFact P I gK ν f vs v hcall []
    | .hp (some v) hp1 => CallFact P I gK ν f vs v hcall (hp1.drop hcall.length)
    | .hp none _ => True) := by
  refine sat_mono (sat_all (ι := { E2 : Env // E2.Ok gK }) fun E2 => evCall_sat (E := E2.1) hS E2.2 (f := f) (vs := vs) (hp := hcall)) fun res h => ?_
  cases res with
  | val v =>
    intro E2 hE2 ρ w hg hh hI
    obtain ⟨h1, _, h3⟩ := h ⟨E2, hE2⟩ ρ w hg hh hI
    exact ⟨h1, h3.mono fun e w' ⟨he, hb⟩ => ⟨ρ, hcall, fun _ _ => rfl, hh.of_below hb, fun p hp => absurd (by cases p <;> rfl) hp, he⟩⟩
  | hp v hp1 =>
    cases v with
    | none => trivial
    | some v =>
      intro E2 hE2 ρ w hg hh hI
      obtain ⟨h1, h3⟩ := h ⟨E2, hE2⟩ ρ w hg hh hI
      exact ⟨h1, h3.mono fun e w' ⟨x, he, ρ', k1, k2, k3⟩ => ⟨ρ', hp1, k1, k2, fun p _ => (drop_nth _ _ _).symm, by rw [he, (k3 v rfl).2]⟩⟩

def acnt (l : List Oper) (i : Nat) : Nat := ((l.take i).filter fun o => allocOp o.op).length

structure ManyOK (P : Program) (I : World → Prop) (gK : Nat) (ν : Nat → DV) (E : Env) (ops : Array Oper) (b0 : Nat) (hc : List (Option Blk)) (l : List Oper) (b : Nat) (r : RS) (hn : List (Option Blk)) (r' : RS) (hn' : List (Option Blk)) (es : List (Nat × List V × V)) (s : Nat → Nat) : Prop where
  len : es.length = l.length
  hp : r'.st.hp = r.st.hp
  s0 : s 0 = hn.length
  sn : s l.length = hn'.length
  mono : ∀ i, i < l.length → s i ≤ s (i + 1)
  pre : hn'.take hn.length = hn
  quiet : ∀ ρ a, ARel ν ρ r a → (∃ w, HS E ν ρ r.st.hp w) → ∀ C : World → Prop, C = (fun w => HS E ν ρ r.st.hp w) → ∀ ops' : Array Oper, (∀ j : Nat, (ops'[j]?).bind (·.dst) = (ops[j]?).bind (·.dst)) →
    ∀ Q : Act → Prop, (∀ a', ARel ν ρ r' a' → Q a') → wpQuiet P ops' C Q (List.zipWith (fun o e => nopW (e.2.2.conc ν ρ) o) l es) a
  alloc : ∀ (i : Nat) o, l[i]? = some o → allocOp o.op = true → ∃ e, es[i]? = some e ∧ e.2.2 = .s (.one (.p (b + acnt l i) (.c 0)))
  call : ∀ (i : Nat) o x args, l[i]? = some o → calleeOf o.op = some (x, args) → ∃ f vs v, es[i]? = some (f, vs, v) ∧
    v.inB (fun q => Nat.blt q b0 || (Nat.ble (hc.length + s i) q && Nat.blt q (hc.length + s (i + 1)))) = true ∧ v.easy = true ∧ CallFact P I gK ν f vs v (hc ++ (hn'.take (s i)).map frz) ((hn'.take (s (i + 1))).drop (s i))
  still : ∀ (i : Nat) o, l[i]? = some o → (calleeOf o.op).isSome = false → s (i + 1) = s i

def consS (n : Nat) (s : Nat → Nat) : Nat → Nat
  | 0 => n
  | i + 1 => s i

theorem take_take_le {α : Type} {l l1 : List α} {n m : Nat} (h : l.take m = l1) (hn : n ≤ m) : l.take n = l1.take n := by
  rw [← h, List.take_take, Nat.min_eq_left hn]

theorem ManyOK.cons {ops : Array Oper} {b0 : Nat} {hc : List (Option Blk)} {l : List Oper} {o : Oper} {e : Nat × List V × V} {b b1 : Nat} {r r1 r' : RS} {hn hn1 hn' : List (Option Blk)} {es : List (Nat × List V × V)} {s1 : Nat → Nat}
    (h : ManyOK P I gK ν E ops b0 hc l b1 r1 hn1 r' hn' es s1) (hb : ∀ i, b + acnt (o :: l) (i + 1) = b1 + acnt l i) (hhp : r1.st.hp = r.st.hp) (hpre : hn1.take hn.length = hn)
    (hq : ∀ ρ a, ARel ν ρ r a → (∃ w, HS E ν ρ r.st.hp w) → ∀ C : World → Prop, C = (fun w => HS E ν ρ r.st.hp w) → ∀ ops' : Array Oper, (∀ j : Nat, (ops'[j]?).bind (·.dst) = (ops[j]?).bind (·.dst)) →
      if Region.wanted (nopW (e.2.2.conc ν ρ) o) (yielded ops' a.tmps) = true then ∃ v, (∀ w, C w → (nopW (e.2.2.conc ν ρ) o).quietAt P a C w v) ∧ ARel ν ρ r1 (a.put (nopW (e.2.2.conc ν ρ) o).dst v) else ARel ν ρ r1 (a.put (nopW (e.2.2.conc ν ρ) o).dst undef))
    (ha : allocOp o.op = true → e.2.2 = .s (.one (.p b (.c 0))))
    (hcl : ∀ x args, calleeOf o.op = some (x, args) → ∃ f vs v, e = (f, vs, v) ∧ v.inB (fun q => Nat.blt q b0 || (Nat.ble (hc.length + hn.length) q && Nat.blt q (hc.length + hn1.length))) = true ∧ v.easy = true ∧ CallFact P I gK ν f vs v (hc ++ hn.map frz) (hn1.drop hn.length))
    (hst : (calleeOf o.op).isSome = false → hn1.length = hn.length) : ManyOK P I gK ν E ops b0 hc (o :: l) b r hn r' hn' (e :: es) (consS hn.length s1) := by
  have hle : hn.length ≤ hn1.length := by
    have := congrArg List.length hpre
    rw [List.length_take] at this
    omega
  refine ⟨by simp [h.len], h.hp.trans hhp, rfl, h.sn, fun i hi => ?_, ?_, fun ρ a hra hex C hC ops' hd Q hQ => ?_, fun i o' ho' hal => ?_, fun i o' x args ho' hc' => ?_, fun i o' ho' hc' => ?_⟩
  · cases i with
    | zero => show hn.length ≤ s1 0; rw [h.s0]; exact hle
    | succ i => exact h.mono i (by simpa using hi)
  · rw [take_take_le h.pre hle, hpre]
  · have := hq ρ a hra hex C hC ops' hd
    simp only [List.zipWith_cons_cons, wpQuiet]
    split
    · rename_i hw
      rw [if_pos hw] at this
      obtain ⟨v, h3, h4⟩ := this
      exact ⟨v, h3, h.quiet ρ _ h4 (by rw [hhp]; exact hex) C (by rw [hhp]; exact hC) ops' hd Q hQ⟩
    · rename_i hw
      rw [if_neg hw] at this
      exact h.quiet ρ _ this (by rw [hhp]; exact hex) C (by rw [hhp]; exact hC) ops' hd Q hQ
  · cases i with
    | zero =>
      simp at ho'; subst ho'
      exact ⟨e, rfl, by rw [ha hal]; rfl⟩
    | succ i =>
      obtain ⟨e', h1, h2⟩ := h.alloc i o' (by simpa using ho') hal
      exact ⟨e', by simpa using h1, by rw [h2, hb i]⟩
  · cases i with
    | zero =>
      simp at ho'; subst ho'
      obtain ⟨f, vs, v, h1, h2, h3, h4⟩ := hcl x args hc'
      refine ⟨f, vs, v, by simp [h1], ?_, h3, ?_⟩
      · show V.inB (fun q => Nat.blt q b0 || (Nat.ble (hc.length + hn.length) q && Nat.blt q (hc.length + s1 0))) v = true
        rw [h.s0]; exact h2
      · show CallFact P I gK ν f vs v (hc ++ (hn'.take hn.length).map frz) ((hn'.take (s1 0)).drop hn.length)
        rw [h.s0, h.pre, take_take_le h.pre hle, hpre]
        exact h4
    | succ i => exact h.call i o' x args (by simpa using ho') hc'
  · cases i with
    | zero =>
      simp at ho'; subst ho'
      show s1 0 = hn.length
      rw [h.s0]; exact hst hc'
    | succ i => exact h.still i o' (by simpa using ho') hc'

theorem nopW_not {v : Value} {o : Oper} (h : effOp o.op = false) : nopW v o = o := by unfold nopW; rw [h]; rfl
theorem nopW_eff {v : Value} {o : Oper} (h : effOp o.op = true) : nopW v o = { o with op := .move (.const v) } := by unfold nopW; rw [if_pos h]
theorem acnt_cons (o : Oper) (l : List Oper) (i : Nat) : acnt (o :: l) (i + 1) = (if allocOp o.op then 1 else 0) + acnt l i := by
  unfold acnt
  rw [List.take_succ_cons, List.filter_cons]
  split <;> simp <;> omega
theorem inB_mono {p p' : Nat → Bool} (h : ∀ q, p q = true → p' q = true) {v : V} (hv : v.inB p = true) : v.inB p' = true := by
  have key : ∀ a : Lf, a.inB p = true → a.inB p' = true := fun a ha => by
    cases a with
    | p q o => cases o <;> first | exact h _ ha | cases ha
    | vec q => exact h _ ha
    | gp _ _ => cases ha
    | fnp _ _ => cases ha
    | _ => rfl
  cases v with
  | s v =>
    cases v with
    | one l => exact key l hv
    | agg l => exact List.all_eq_true.2 fun x hx => key x (List.all_eq_true.1 hv x hx)
  | t l => exact List.all_eq_true.2 fun x hx => List.all_eq_true.2 fun y hy => key y (List.all_eq_true.1 (List.all_eq_true.1 hv x hx) y hy)
theorem eff_quiet {o : Oper} {r r1 : RS} {v : V} (he : effOp o.op = true) (hg : o.guard = none) (hgood : v.good ν) (hput : ∀ ρ a (x : Value), ARel ν ρ r a → (∀ u, some v = some u → u.good ν ∧ x = u.conc ν ρ) → ARel ν ρ r1 (a.put o.dst x))
    (ρ : Nat → Loc) (a : Act) (hra : ARel ν ρ r a) (C : World → Prop) (ops' : Array Oper) :
    if Region.wanted (nopW (v.conc ν ρ) o) (yielded ops' a.tmps) = true then ∃ u, (∀ w, C w → (nopW (v.conc ν ρ) o).quietAt P a C w u) ∧ ARel ν ρ r1 (a.put (nopW (v.conc ν ρ) o).dst u) else ARel ν ρ r1 (a.put (nopW (v.conc ν ρ) o).dst undef) := by
  rw [nopW_eff he]
  rw [if_pos (by simp [Region.wanted, hg])]
  refine ⟨v.conc ν ρ, fun w _ => ?_, hput ρ a _ hra fun u hu => by cases hu; exact ⟨hgood, rfl⟩⟩
  unfold Oper.quietAt
  simp [execOp, Act.eval, Oper.quietUpon]

theorem manyOps_sat (hS : SigsOK P I gK S F) (hE : E.Ok gK) (hn0 : S.n0 = E.n0) (hI : ∀ w, Fr E.W E.w0 w → I w) {ops : Array Oper} {b0 : Nat} {hc : List (Option Blk)} : ∀ (l : List Oper) (b : Nat) (r : RS) (hn : List (Option Blk)), (∀ o ∈ l, headOp o = true) →
    M.sat F ν (manyOps P S ops.toList b0 hc l b r hn) (fun z => ∃ s, ManyOK P I gK ν E ops b0 hc l b r hn z.1 z.2.1 z.2.2 s)
  | [], b, r, hn, _ => by
    unfold manyOps
    exact sat_pure ⟨fun _ => hn.length, rfl, rfl, rfl, rfl, fun i hi => by simp at hi, by simp, fun ρ a h _ C _ ops' _ Q hQ => hQ a h, fun i o h => by simp at h, fun i o x args h => by simp at h, fun i o h => by simp at h⟩
  | o :: l, b, r, hn, hl => by
    have hh := hl o (by simp)
    have hl' : ∀ o' ∈ l, headOp o' = true := fun o' h' => hl o' (List.mem_cons_of_mem _ h')
    unfold manyOps
    refine sat_ite (fun hal => ?_) (fun hal => ?_)
    · have heff : effOp o.op = true := by unfold effOp; rw [hal]; rfl
      have hg : o.guard = none := by
        unfold headOp at hh
        rw [heff] at hh
        simpa using hh
      have hno : calleeOf o.op = none := by cases hop : o.op <;> rw [hop] at hal <;> simp [allocOp] at hal; rfl
      refine sat_bind put_sat fun r1 hr1 => sat_bind (manyOps_sat hS hE hn0 hI l (b + 1) r1 hn hl') fun z ⟨s, hz⟩ => sat_pure ⟨consS hn.length s, ?_⟩
      refine hz.cons (fun i => by rw [acnt_cons, if_pos hal]; omega) hr1.1 (by simp) (fun ρ a hra hex C hC ops' hd => ?_) (fun _ => rfl) (fun x args h => by rw [hno] at h; cases h) (fun _ => rfl)
      exact eff_quiet (v := .s (.one (.p b (.c 0)))) heff hg (V.good_s.2 (V1.good_one.2 trivial)) hr1.2 ρ a hra C ops'
    · split
      · rename_i x args hcal
        have heff : effOp o.op = true := by unfold effOp; rw [hcal]; simp
        have hg : o.guard = none := by
          unfold headOp at hh
          rw [heff] at hh
          simpa using hh
        refine sat_bind sat_true fun ⟨f, bs⟩ _ => sat_bind sat_true fun vs _ => sat_ite (fun hbs => ?_) (fun _ => sat_fail)
        refine sat_bind (callFact_sat (P := P) (I := I) hS) fun res hres => ?_
        have hlen : (hc ++ hn.map frz).length = hc.length + hn.length := by simp
        split
        · rename_i v
          refine sat_ite (fun hv => ?_) (fun _ => sat_fail)
          simp only [Bool.and_eq_true] at hv
          refine sat_bind put_sat fun r1 hr1 => sat_bind (manyOps_sat hS hE hn0 hI l b r1 hn hl') fun z ⟨s, hz⟩ => sat_pure ⟨consS hn.length s, ?_⟩
          refine hz.cons (fun i => by rw [acnt_cons, if_neg hal]; omega) hr1.1 (by simp) (fun ρ a hra hex C hC ops' hd => ?_) (fun h => absurd h hal) (fun x' args' h => ⟨f, vs, v, rfl, inB_mono (fun q hq => by simp only [hq, Bool.true_or]) hv.2, hv.1, ?_⟩) (fun h => by simp [hcal] at h)
          · exact eff_quiet heff hg (V.easy_good hv.1) hr1.2 ρ a hra C ops'
          · rw [List.drop_length]; exact hres
        · rename_i v hp1
          refine sat_ite (fun hv => ?_) (fun _ => sat_fail)
          simp only [Bool.and_eq_true] at hv
          obtain ⟨⟨hv1, hv2⟩, hv3⟩ := hv
          have hv3 : hc.length + hn.length ≤ hp1.length := Nat.le_of_ble_eq_true hv3
          refine sat_bind put_sat fun r1 hr1 => sat_bind (manyOps_sat hS hE hn0 hI l b r1 _ hl') fun z ⟨s, hz⟩ => sat_pure ⟨consS hn.length s, ?_⟩
          refine hz.cons (fun i => by rw [acnt_cons, if_neg hal]; omega) hr1.1 (by simp) (fun ρ a hra hex C hC ops' hd => ?_) (fun h => absurd h hal) (fun x' args' h => ⟨f, vs, v, rfl, ?_, hv1, ?_⟩) (fun h => by simp [hcal] at h)
          · exact eff_quiet heff hg (V.easy_good hv1) hr1.2 ρ a hra C ops'
          · rw [show hc.length + (hn ++ hp1.drop (hc.length + hn.length)).length = hp1.length from by simp; omega]
            exact hv2
          · rw [List.drop_left, ← hlen]; exact hres
        · exact sat_fail
      · rename_i hno
        have heff : effOp o.op = false := by
          unfold effOp
          rw [hno]
          cases h : allocOp o.op with
          | true => exact absurd h hal
          | false => rfl
        refine sat_bind (evOper_sat (E := E) (ops := ops) hS hE hn0 hI true) fun r1 hr1 => sat_bind (manyOps_sat hS hE hn0 hI l b r1 hn hl') fun z ⟨s, hz⟩ => sat_pure ⟨consS hn.length s, ?_⟩
        have hq := hr1.2 rfl
        refine hz.cons (fun i => by rw [acnt_cons, if_neg hal]; omega) hq.1 (by simp) (fun ρ a hra hex C hC ops' hd => ?_) (fun h => absurd h hal) (fun x args h => by rw [hno] at h; cases h) (fun _ => rfl)
        rw [nopW_not heff, yielded_congr hd]
        exact hq.2 ρ a hra hex C hC
end
end Go.Sx

