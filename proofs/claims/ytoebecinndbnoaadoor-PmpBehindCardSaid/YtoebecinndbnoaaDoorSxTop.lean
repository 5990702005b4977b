/- A whole function: from what the evaluator lays to what a call does. -/
import Derived.Test.YtoebecinndbnoaaDoorSxRun
namespace Go.Sx
open Go.RowKit

section
variable {P : Program} {I : World → Prop} {S : Sigs} {F : FEnv} {ν : Nat → DV}

theorem inLeaves_spec (g : Nat → DV) (hg : ∀ i, ν i = g i) (ρ : Nat → Nat × Nat) : ∀ (ts : List LT) (j : Nat), (inLeaves j ts).map (Lf.conc ν ρ) = leafVals g j ts ∧ ∀ x ∈ inLeaves j ts, Lf.good ν x
  | [], j => ⟨rfl, fun x hx => by cases hx⟩
  | t :: ts, j => by
    obtain ⟨h1, h2⟩ := inLeaves_spec g hg ρ ts (j + 1)
    refine ⟨?_, fun x hx => ?_⟩
    · simp only [inLeaves, List.map_cons, leafVals, h1, (LT.lf_spec t (.r j) ρ).1, A.den, hg]
    · rcases List.mem_cons.1 hx with rfl | hx
      · exact (LT.lf_spec t (.r j) ρ).2
      · exact h2 x hx

theorem inShapes_spec (g : Nat → DV) (hg : ∀ i, ν i = g i) (ρ : Nat → Nat × Nat) : ∀ (ss : List Sh) (j : Nat), (inShapes j ss).map (V.conc ν ρ) = argVals g j ss ∧ ∀ x ∈ inShapes j ss, V.good ν x
  | [], j => ⟨rfl, fun x hx => by cases hx⟩
  | .one t :: ss, j => by
    obtain ⟨h1, h2⟩ := inShapes_spec g hg ρ ss (j + 1)
    refine ⟨?_, fun x hx => ?_⟩
    · simp only [inShapes, List.map_cons, argVals, h1, V.conc, V1.conc, (LT.lf_spec t (.r j) ρ).1, A.den, hg]
    · rcases List.mem_cons.1 hx with rfl | hx
      · exact V1.good_one.2 (LT.lf_spec t (.r j) ρ).2
      · exact h2 x hx
  | .agg ts :: ss, j => by
    obtain ⟨h1, h2⟩ := inShapes_spec g hg ρ ss (j + ts.length)
    obtain ⟨h3, h4⟩ := inLeaves_spec g hg ρ ts j
    refine ⟨?_, fun x hx => ?_⟩
    · simp only [inShapes, List.map_cons, argVals, h1, V.conc, V1.conc, h3]
    · rcases List.mem_cons.1 hx with rfl | hx
      · exact V1.good_agg.2 h4
      · exact h2 x hx

/-- A result's value. -/
def resM (tmps : Array Value) : ResultVar → Sem Value
  | .tmp t => pure (tmps.getD t undef)
  | .cell p t => do loadVar t (← asAddr (tmps.getD p undef))
theorem results_resM (fn : Func) (tmps : Array Value) : results fn tmps = (do let vs ← fn.results.mapM (resM tmps); pure (if h : vs.size = 1 then vs[0] else .tuple vs)) := by
  unfold results
  congr 2

theorem resOf_sat {s : St} : ∀ (l : List ResultVar), M.sat F ν (resOf P s l) (fun vs => ∀ ρ a w, ARel ν ρ ⟨s, []⟩ a → HRel ν ρ s.hp w →
    (∀ v ∈ vs, V1.good ν v) ∧ (l.mapM (resM a.tmps)).run P w = .ok (vs.map (V1.conc ν ρ)) w)
  | [] => sat_pure fun ρ a w _ _ => ⟨by simp, rfl⟩
  | .tmp t :: l => by
    unfold resOf
    refine sat_bind (sat_lift (Q := fun v => nth s.sl t = some v) fun a h => h) fun v hv => ?_
    split
    · rename_i v1
      refine sat_bind (resOf_sat l) fun vs hvs => sat_pure fun ρ a w ha hh => ?_
      obtain ⟨h1, h2⟩ := hvs ρ a w ha hh
      obtain ⟨g1, g2⟩ := ha.slot t _ hv
      refine ⟨fun x hx => ?_, ?_⟩
      · rcases List.mem_cons.1 hx with rfl | hx
        · exact g1
        · exact h1 x hx
      · have e : a.tmps.getD t undef = v1.conc ν ρ := by simp [g2, V.conc]
        rw [List.mapM_cons]
        simp only [Sem.run_bind, resM, Sem.run_pure, Result.andThen_ok, e, h2, List.map_cons]
    · exact sat_fail
  | .cell t ty :: l => by
    unfold resOf
    refine sat_bind (sat_lift (Q := fun v => nth s.sl t = some v) fun a h => h) fun v hv => ?_
    split
    · rename_i b off
      refine sat_bind (sat_lift (Q := fun k => tk P ty = some k) fun a h => h) fun k hk => ?_
      refine sat_bind (sat_lift (Q := fun k => tsize P ty = some k) fun a h => h) fun sz hs => ?_
      refine sat_bind (sat_lift (Q := fun bk => nth s.hp b = some bk) fun a h => h) fun bk hbk => ?_
      by_cases hg : off.good ν
      · refine sat_bind (loadAt_sat hk hs hg) fun u hu => sat_bind (resOf_sat l) fun vs hvs => sat_pure fun ρ a w ha hh => ?_
        obtain ⟨h1, h2⟩ := hvs ρ a w ha hh
        obtain ⟨g1, g2⟩ := ha.slot t _ hv
        obtain ⟨u1, u2⟩ := hu ρ w b (hh.blk b bk hbk)
        refine ⟨fun x hx => ?_, ?_⟩
        · rcases List.mem_cons.1 hx with rfl | hx
          · exact u1
          · exact h1 x hx
        · have e : a.tmps.getD t undef = .pointer (some ⟨(ρ b).1, (ρ b).2 + off.val ν, none⟩) := by simp [g2, V.conc, V1.conc, Lf.conc]
          have er : (resM a.tmps (.cell t ty)).run P w = .ok (u.conc ν ρ) w := by
            simp only [resM, Sem.run_bind, e, asAddr, Sem.run_pure, Result.andThen_ok, u2]
          rw [List.mapM_cons]
          simp only [Sem.run_bind, er, Sem.run_pure, Result.andThen_ok, h2, List.map_cons]
      · refine sat_bind sat_true fun u _ => sat_bind sat_true fun vs _ => sat_pure fun ρ a w ha hh => ?_
        exact absurd ((ha.slot t _ hv).1 (.p b off) (by simp [V1.cells])) hg
    · exact sat_fail

theorem results_of {fn : Func} {tmps : Array Value} {w : World} {vals : List Value}
    (h : (fn.results.toList.mapM (resM tmps)).run P w = .ok vals w) :
    (results fn tmps).run P w = .ok (wrapVals vals) w := by
  have hm : ∀ (f : ResultVar → Sem Value), (fn.results.mapM f).run P w = ((fn.results.toList.mapM f).run P w).andThen fun l w' => .ok l.toArray w' := by
    intro f
    rw [Array.mapM_eq_mapM_toList]
    simp
  rw [results_resM, Sem.run_bind, hm, h]
  simp only [Result.andThen_ok, Sem.run_pure]
  match vals with
  | [] => rfl
  | [v] => rfl
  | v :: u :: r => rfl

theorem res_sat {rs : List ResultVar} : ∀ (x : X), M.sat F ν (x.res P rs) (fun v => (x.sel ν).1.ends = true ∧ ∀ ρ a w, ARel ν ρ ⟨(x.sel ν).2, []⟩ a → HRel ν ρ (x.sel ν).2.hp w →
    v.good ν ∧ ∃ vals, (rs.mapM (resM a.tmps)).run P w = .ok vals w ∧ wrapVals vals = v.conc ν ρ)
  | .done k s => by
    unfold X.res
    refine sat_ite (fun hk => ?_) (fun _ => sat_fail)
    refine sat_bind (resOf_sat rs) fun vs hvs => sat_pure ⟨hk, fun ρ a w ha hh => ?_⟩
    obtain ⟨h1, h2⟩ := hvs ρ a w ha hh
    exact ⟨(wrapResults_conc vs ρ).2 h1, _, h2, (wrapResults_conc vs ρ).1.symm⟩
  | .br c x y => by
    unfold X.res
    refine sat_bind (sat_under (res_sat x)) fun u hu => sat_bind (sat_under (res_sat y)) fun v hv => sat_mono mergeOrFail_sat fun m hm => ?_
    simp only [X.sel]
    by_cases hc : c.bool ν = true
    · simp only [hc, if_true]
      obtain ⟨h1, h2⟩ := hu hc
      refine ⟨h1, fun ρ a w ha hh => ?_⟩
      obtain ⟨g, vals, e1, e2⟩ := h2 ρ a w ha hh
      exact ⟨(hm.1 hc).2 g, vals, e1, by rw [(hm.1 hc).1 ρ]; exact e2⟩
    · simp only [hc]
      have hc' : c.bool ν = false := by simpa using hc
      obtain ⟨h1, h2⟩ := hv hc'
      refine ⟨h1, fun ρ a w ha hh => ?_⟩
      obtain ⟨g, vals, e1, e2⟩ := h2 ρ a w ha hh
      exact ⟨(hm.2 hc').2 g, vals, e1, by rw [(hm.2 hc').1 ρ]; exact e2⟩

theorem V1.outs_spec {v : V1} {s : Sh} {o : List A} (h : V1.outs v s = some o) : o.length = s.lts.length ∧ ∀ (ρ : Nat → Nat × Nat) (g : Nat → DV) (j : Nat), (∀ i a, o[i]? = some a → g (j + i) = a.den ν) → [v.conc ν ρ] = argVals g j [s] := by
  cases s with
  | one t =>
    cases v with
    | one l =>
      simp only [V1.outs] at h
      obtain ⟨a, ha, rfl⟩ := Option.map_eq_some_iff.1 h
      refine ⟨rfl, fun ρ g j hg => ?_⟩
      have := hg 0 a rfl
      simp at this
      simp only [argVals, V1.conc, LT.arg_spec ha ρ, this]
    | agg l => simp [V1.outs] at h
  | agg ts =>
    cases v with
    | one l => simp [V1.outs] at h
    | agg l =>
      simp only [V1.outs] at h
      obtain ⟨h1, h2⟩ := argsOf_spec (ν := ν) h
      exact ⟨h1, fun ρ g j hg => by simp only [argVals, V1.conc, h2 ρ g j hg]⟩

theorem argVals_cons (g : Nat → DV) (j : Nat) (s : Sh) (ss : List Sh) : argVals g j (s :: ss) = argVals g j [s] ++ argVals g (j + s.lts.length) ss := by
  cases s <;> rfl

theorem V1s.outs_spec : ∀ {vs : List V1} {ss : List Sh} {o : List A}, V1s.outs vs ss = some o → ∀ (ρ : Nat → Nat × Nat) (g : Nat → DV) (j : Nat), (∀ i a, o[i]? = some a → g (j + i) = a.den ν) → vs.map (V1.conc ν ρ) = argVals g j ss
  | [], [], o, h, ρ, g, j, hg => rfl
  | [], _ :: _, o, h, _, _, _, _ => by simp [V1s.outs] at h
  | _ :: _, [], o, h, _, _, _, _ => by simp [V1s.outs] at h
  | v :: vs, s :: ss, o, h, ρ, g, j, hg => by
    simp only [V1s.outs] at h
    cases h1 : V1.outs v s with
    | none => simp [h1] at h
    | some a =>
      simp only [h1] at h
      cases h2 : V1s.outs vs ss with
      | none => simp [h2] at h
      | some r =>
        simp only [h2, Option.some.injEq] at h
        subst h
        obtain ⟨e1, e2⟩ := V1.outs_spec (ν := ν) h1
        rw [List.map_cons, argVals_cons]
        rw [← e2 ρ g j (fun i b hi => hg i b (by rw [List.getElem?_append_left (List.getElem?_eq_some_iff.1 hi).1]; exact hi))]
        rw [V1s.outs_spec h2 ρ g (j + s.lts.length) (fun i b hi => by
          have := hg (a.length + i) b (by rw [List.getElem?_append_right (by omega)]; simpa using hi)
          rwa [e1, show j + (s.lts.length + i) = j + s.lts.length + i from by omega] at this)]
        rfl

theorem V.outs_spec {v : V} {ss : List Sh} {o : List A} (h : V.outs v ss = some o) (ρ : Nat → Nat × Nat) (g : Nat → DV) (j : Nat) (hg : ∀ i a, o[i]? = some a → g (j + i) = a.den ν) : v.conc ν ρ = wrapVals (argVals g j ss) := by
  cases v with
  | s v =>
    have := V1s.outs_spec (ν := ν) (show V1s.outs [v] ss = some o from h) ρ g j hg
    rw [← this]; rfl
  | t vs =>
    simp only [V.outs] at h
    split at h
    · cases h
    · rename_i hl
      have := V1s.outs_spec (ν := ν) h ρ g j hg
      rw [← this]
      match vs with
      | [] => rfl
      | [v] => exact absurd rfl hl
      | v :: u :: r => rfl

theorem leafVals_congr {g g' : Nat → DV} : ∀ (ts : List LT) (j : Nat), (∀ i, j ≤ i → i < j + ts.length → g i = g' i) → leafVals g j ts = leafVals g' j ts
  | [], _, _ => rfl
  | t :: ts, j, h => by
    simp only [leafVals]
    rw [h j (Nat.le_refl _) (by simp), leafVals_congr ts (j + 1) (fun i h1 h2 => h i (by omega) (by simp; omega))]
theorem argVals_congr {g g' : Nat → DV} : ∀ (ss : List Sh) (j : Nat), (∀ i, j ≤ i → i < j + nIn ss → g i = g' i) → argVals g j ss = argVals g' j ss
  | [], _, _ => rfl
  | .one t :: ss, j, h => by
    simp only [argVals]
    rw [h j (Nat.le_refl _) (by simp [nIn, Sh.lts]; omega), argVals_congr ss (j + 1) (fun i h1 h2 => h i (by omega) (by simp [nIn, Sh.lts] at h2 ⊢; omega))]
  | .agg ts :: ss, j, h => by
    simp only [argVals]
    rw [leafVals_congr ts j (fun i h1 h2 => h i h1 (by simp [nIn, Sh.lts]; omega)), argVals_congr ss (j + ts.length) (fun i h1 h2 => h i (by omega) (by simp [nIn, Sh.lts] at h2 ⊢; omega))]

/-- What is owed, as one Bool. -/
def ow (path : List (Bool × Bool)) (a : Bool) : Bool := !(path.all fun c => c.1 == c.2) || a
def owesB (ν : Nat → DV) (l : List Nd) : Bool := (l.map fun q => ow (q.path.map fun c => (c.1.bool ν, c.2)) (q.a.bool ν)).all id
theorem owesB_holds {l : List Nd} (h : owesB ν l = true) : ∀ q ∈ l, Nd.holds ν q := by
  intro q hq hp
  have := List.all_eq_true.1 h _ (List.mem_map.2 ⟨q, hq, rfl⟩)
  simp only [ow, id, Bool.or_eq_true, Bool.not_eq_true', List.all_map] at this
  rcases this with h' | h'
  · have : (q.path.all ((fun c : Bool × Bool => c.1 == c.2) ∘ fun c => (c.1.bool ν, c.2))) = true := List.all_eq_true.2 fun c hc => by simp [hp c hc]
    rw [this] at h'; cases h'
  · exact h'

theorem nth_replicate_none {α : Type} (n i : Nat) : nth (List.replicate n (none : Option α)) i = none := by
  induction n generalizing i with
  | zero => cases i <;> rfl
  | succ n ih => cases i with
    | zero => rfl
    | succ i => exact ih i

/-- What holds of a world holds of one that bears more. -/
def Stable (I : World → Prop) : Prop := ∀ w w', Below w.heap.size w w' → I w → I w'

/-- The values of a function's nodes. -/
def outEnv (F : FEnv) (sg : Sig) (out : Out) (ds : List DV) : Nat → DV :=
  look (fun _ => default) 0 (evalNodes F (fun _ => default) 0 out.nodes ds.reverse (nIn sg.ps)) (nIn sg.ps + out.nodes.length)

theorem obs_split {F : FEnv} {ν : Nat → DV} : ∀ (d : List Ob), (∀ q ∈ ndsOf d, Nd.holds ν q) → (∀ q ∈ lpsOf d, LoopSound F q) → ∀ q ∈ d, Ob.holds F ν q
  | [], _, _, q, hq => by cases hq
  | .nd o :: d, h1, h2, q, hq => by
    rcases List.mem_cons.1 hq with rfl | hq
    · exact h1 o (by simp [ndsOf])
    · exact obs_split d (fun q hq => h1 q (by simp [ndsOf, hq])) h2 q hq
  | .lp o :: d, h1, h2, q, hq => by
    rcases List.mem_cons.1 hq with rfl | hq
    · exact h2 o (by simp [lpsOf])
    · exact obs_split d h1 (fun q hq => h2 q (by simp [lpsOf, hq])) q hq

/-- THE THEOREM: what the evaluator lays of a function tells what its calls do. -/
theorem fn_ok {fuel : Nat} {f : FuncId} {fn : Func} {sg : Sig} {out : Out} {G : List DV → List DV} (hst : Stable I) (hS : SigsOK P I S F) (hf : P.funcs[f]? = some fn)
    (hev : evFn P S fuel fn sg = some out) (hwf : wfNodes (nIn sg.ps) out.nodes = true) (hlp : ∀ l ∈ out.loops, LoopSound F l)
    (hG : ∀ ds : List DV, ds.length = nIn sg.ps → (sg.need = true → (dget (G ds) 0).toB = true) →
      owesB (outEnv F sg out ds) out.owes = true ∧
      (G ds).drop (if sg.need then 1 else 0) = out.outs.map (A.den (outEnv F sg out ds))) :
    FnOK P I f sg G := by
  intro ds w hIw hlen hneed
  obtain ⟨howes, houts⟩ := hG ds hlen hneed
  obtain ⟨hl2, hsat⟩ := evalNodes_spec (F := F) (base := fun _ => default) (n0 := 0) (vs := ds.reverse) (n := nIn sg.ps) (by omega) hwf
  change Sat F (outEnv F sg out ds) out.nodes at hsat
  have hl2' : ∀ i, i < nIn sg.ps → outEnv F sg out ds i = look (fun _ => default) 0 ds.reverse (nIn sg.ps) i := hl2
  generalize hν : outEnv F sg out ds = ν at *
  have hin : ∀ i, i < nIn sg.ps → ν i = dget ds i := fun i hi => by
    rw [hl2' i hi, look_list (by omega)]
    unfold dget
    simp only [List.getD_eq_getElem?_getD]
    rw [List.getElem?_reverse (by omega), hlen]
    congr 2
    omega
  unfold evFn at hev
  cases hbody : fn.body with
  | none => simp [hbody] at hev
  | some c =>
    simp only [hbody] at hev
    generalize hs0 : (⟨(inShapes 0 sg.ps).map some ++ List.replicate (fn.ntmps - (inShapes 0 sg.ps).length) none, []⟩ : St) = s0 at hev
    generalize hM : (do (← evCode P S fuel c s0).res P fn.results.toList : M V) = m at hev
    cases hrun : m (nIn sg.ps) with
    | none => simp [hrun] at hev
    | some r =>
      obtain ⟨v, n', e, d⟩ := r
      simp only [hrun] at hev
      obtain ⟨o, ho, rfl⟩ := Option.map_eq_some_iff.1 hev
      simp only at *
      have key := sat_bind (evCode_ok (W := fun _ => False) (w0 := w) hS (fun w' h => hst w w' h.below hIw) fuel ν c s0) (f := fun x => x.res P fn.results.toList)
        (Q := fun v => ∀ ρ a, RR ν (fun _ => False) w ρ ⟨s0, []⟩ a w → c.wp P (fun e a' w' => (e = .normal ∨ e = .ret) ∧ a'.defers = [] ∧ Below w.heap.size w w' ∧ ∃ ρ', (results fn a'.tmps).run P w' = .ok (v.conc ν ρ') w') a w)
        (fun x hx => sat_mono (res_sat x) fun v hv ρ a hrr => wp_mono (hx ρ a w hrr).1 fun e a' w' hp => by
          obtain ⟨hk, ρ', hr⟩ := hp
          obtain ⟨_, vals, h1, h2⟩ := hv.2 ρ' a' w' hr.act hr.heap
          refine ⟨?_, hr.act.defers, hr.fr.below, ρ', by rw [results_of h1, h2]⟩
          have hend := hv.1
          generalize (X.sel ν x).1 = k at *
          cases k <;> cases e <;> simp [K.is, K.ends] at hk hend ⊢)
      have key := key (nIn sg.ps) v n' e d (by rw [← hrun, ← hM]) hsat (obs_split d (owesB_holds howes) hlp)
      obtain ⟨hvals, hgood⟩ := inShapes_spec (ν := ν) ν (fun _ => rfl) (fun _ => (0, 0)) sg.ps 0
      rw [argVals_congr sg.ps 0 (fun i _ hi => hin i (by omega))] at hvals
      have hpl : (inShapes 0 sg.ps).length = (argVals (dget ds) 0 sg.ps).length := by rw [← hvals]; simp
      refine calls_of_wp hf hbody ?_
      refine wp_mono (key (fun _ => (0, 0)) _ ⟨⟨rfl, ?_, fun t v ht => ?_, fun e he => by cases he⟩, ⟨fun j bk hj => ?_, fun j j' bk bk' hj => ?_⟩, fun j bk hj => ?_, Fr.refl _ _⟩) ?_
      · subst hs0
        simp [hpl]
      · subst hs0
        simp only at ht
        rw [nth_append] at ht
        split at ht
        · rename_i hlt
          rw [nth_map_some] at ht
          refine ⟨hgood v (List.mem_of_getElem? ht), ?_⟩
          have h1 : (argVals (dget ds) 0 sg.ps)[t]? = some (v.conc ν fun _ => (0, 0)) := by rw [← hvals]; simp [ht]
          simp only
          rw [Array.getElem?_append_left (by simp at hlt; simp; omega)]
          simpa using h1
        · rw [nth_replicate_none] at ht; cases ht
      · subst hs0; cases j <;> cases hj
      · subst hs0; cases j <;> cases hj
      · subst hs0; cases j <;> cases hj
      · intro e a' w' ⟨he, hd, hb, ρ', hres⟩
        have hret : v.conc ν ρ' = retVal sg (G ds) := by
          refine V.outs_spec ho ρ' (dget (G ds)) _ fun i a hi => ?_
          have h1 : ((G ds).drop (if sg.need then 1 else 0))[i]? = some (a.den ν) := by rw [houts]; simp [hi]
          rw [List.getElem?_drop] at h1
          simp [dget, List.getD_eq_getElem?_getD, h1]
        rw [hret] at hres
        rcases he with rfl | rfl
        · exact ⟨hd, _, hres, rfl, hb⟩
        · exact ⟨hd, _, hres, rfl, hb⟩
end
end Go.Sx
