/- A whole function: from what the evaluator lays to what a call does. -/
import Derived.Test.YtkpbkanbpjfadaaC2
namespace Go.Sx
open Go.RowKit

section
variable {P : Program} {I : World → Prop} {S : Sigs} {F : FEnv} {E : Env} {gK : Nat} {ν : Nat → DV}

def wrapVals : List Value → Value
  | [v] => v
  | l => .tuple l.toArray
theorem wrapResults_conc (l : List V1) (ρ : Nat → Loc) : (wrapResults l).conc ν ρ = wrapVals (l.map (V1.conc ν ρ)) ∧ ((∀ x ∈ l, V1.good ν x) → (wrapResults l).good ν) := by
  unfold wrapResults wrapVals
  match l with
  | [] => exact ⟨rfl, fun _ => by simp [V.good]⟩
  | [v] => exact ⟨rfl, fun h => h v (by simp)⟩
  | v :: u :: r => exact ⟨rfl, fun h => h⟩

def resM (tmps : Array Value) : ResultVar → Sem Value
  | .tmp t => pure (tmps.getD t undef)
  | .cell p t => do loadVar t (← asAddr (tmps.getD p undef))
theorem results_resM (fn : Func) (tmps : Array Value) : results fn tmps = (do let vs ← fn.results.mapM (resM tmps); pure (if h : vs.size = 1 then vs[0] else .tuple vs)) := by
  unfold results
  congr 2

theorem resOf_sat {s : St} : ∀ (l : List ResultVar), M.sat F ν (resOf P s l) (fun vs => ∀ ρ a w, ARel ν ρ ⟨s, []⟩ a → HRel E ν ρ s.hp w →
    (∀ v ∈ vs, V1.good ν v) ∧ (l.mapM (resM a.tmps)).run P w = .ok (vs.map (V1.conc ν ρ)) w)
  | [] => sat_pure fun ρ a w _ _ => ⟨by simp, rfl⟩
  | .tmp t :: l => by
    unfold resOf
    refine sat_bind (sat_lift (Q := fun v => nth s.sl t = some v) fun a h => h) fun v hv => ?_
    split
    · rename_i v1
      refine sat_bind (resOf_sat l) fun vs hvs => sat_pure fun ρ a w ha hh => ?_
      obtain ⟨h1, h2⟩ := hvs ρ a w ha hh
      obtain ⟨g1, g2⟩ := ha.slot t _ hv
      refine ⟨fun x hx => ?_, ?_⟩
      · rcases List.mem_cons.1 hx with rfl | hx
        · exact g1
        · exact h1 x hx
      · have e : a.tmps.getD t undef = v1.conc ν ρ := by simp [g2, V.conc]
        rw [List.mapM_cons]
        simp only [Sem.run_bind, resM, Sem.run_pure, Result.andThen_ok, e, h2, List.map_cons]
    · exact sat_fail
  | .cell t ty :: l => by
    unfold resOf
    refine sat_bind (sat_lift (Q := fun v => nth s.sl t = some v) fun a h => h) fun v hv => ?_
    split
    · rename_i b off
      refine sat_bind (sat_lift (Q := fun k => tk P ty = some k) fun a h => h) fun k hk => ?_
      refine sat_bind (sat_lift (Q := fun k => tsize P ty = some k) fun a h => h) fun sz hs => ?_
      refine sat_bind (sat_lift (Q := fun bk => nth s.hp b = some bk) fun a h => h) fun bk hbk => ?_
      split
      · rename_i o cs
        by_cases hg : off.good ν
        · refine sat_bind (loadCells_sat (own := o) hk hs hg) fun u hu => sat_bind (resOf_sat l) fun vs hvs => sat_pure fun ρ a w ha hh => ?_
          obtain ⟨h1, h2⟩ := hvs ρ a w ha hh
          obtain ⟨g1, g2⟩ := ha.slot t _ hv
          obtain ⟨u1, u2⟩ := hu ρ w (ρ b) (hh.blk b _ hbk)
          refine ⟨fun x hx => ?_, ?_⟩
          · rcases List.mem_cons.1 hx with rfl | hx
            · exact u1
            · exact h1 x hx
          · have e : a.tmps.getD t undef = .pointer (some ⟨(ρ b).blk, (ρ b).off + off.val ν, none⟩) := by simp [g2, V.conc, V1.conc, Lf.conc]
            have er : (resM a.tmps (.cell t ty)).run P w = .ok (u.conc ν ρ) w := by
              simp only [resM, Sem.run_bind, e, asAddr, Sem.run_pure, Result.andThen_ok, u2]
            rw [List.mapM_cons]
            simp only [Sem.run_bind, er, Sem.run_pure, Result.andThen_ok, h2, List.map_cons]
        · refine sat_bind sat_true fun u _ => sat_bind sat_true fun vs _ => sat_pure fun ρ a w ha hh => ?_
          exact absurd ((ha.slot t _ hv).1 (.p b off) (by simp [V1.cells])) hg
      · exact sat_fail
    · exact sat_fail

theorem results_of {fn : Func} {tmps : Array Value} {w : World} {vals : List Value}
    (h : (fn.results.toList.mapM (resM tmps)).run P w = .ok vals w) :
    (results fn tmps).run P w = .ok (wrapVals vals) w := by
  have hm : ∀ (f : ResultVar → Sem Value), (fn.results.mapM f).run P w = ((fn.results.toList.mapM f).run P w).andThen fun l w' => .ok l.toArray w' := by
    intro f
    rw [Array.mapM_eq_mapM_toList]
    simp
  rw [results_resM, Sem.run_bind, hm, h]
  simp only [Result.andThen_ok, Sem.run_pure]
  match vals with
  | [] => rfl
  | [v] => rfl
  | v :: u :: r => rfl


def oneAct (v : Value) : Act := { tmps := #[v], defers := [] }

theorem res_sat {rs : List ResultVar} {keep : Bool} (hk0 : keep = false → E.n0 = 0) : ∀ (x : X), M.sat F ν (x.res P rs keep) (fun y => (x.sel ν).1.ends = true ∧ (y.sel ν).1.isNormal = true ∧ ∀ ρ a w, RR ν E ρ ⟨(x.sel ν).2, []⟩ a w →
    ∃ v vals, (rs.mapM (resM a.tmps)).run P w = .ok vals w ∧ wrapVals vals = v ∧ RR ν E ρ ⟨(y.sel ν).2, []⟩ (oneAct v) w)
  | .done k s => by
    unfold X.res
    refine sat_ite (fun hk => ?_) (fun _ => sat_fail)
    refine sat_bind (resOf_sat (E := E) rs) fun vs hvs => sat_pure ⟨hk, rfl, fun ρ a w h => ?_⟩
    obtain ⟨h1, h2⟩ := hvs ρ a w h.act h.hs.heap
    refine ⟨_, _, h2, rfl, ⟨rfl, rfl, fun t v ht => ?_, fun e he => by cases he⟩, ?_⟩
    · cases t with
      | zero =>
        cases ht
        exact ⟨(wrapResults_conc vs ρ).2 h1, by rw [(wrapResults_conc vs ρ).1]; rfl⟩
      | succ t => cases t <;> cases ht
    · simp only [X.sel]
      cases keep with
      | true => exact h.hs
      | false =>
        have hno : ∀ j bk, nth ([] : List (Option Blk)) j = some bk → False := fun j bk hj => by cases j <;> cases hj
        exact ⟨⟨fun j bk hj => (hno j bk hj).elim, fun j j' bk bk' hj => (hno j bk hj).elim⟩, fun j bk hj => (hno j bk hj).elim, h.hs.fr, by rw [hk0 rfl]; exact Nat.zero_le _, fun j hj => by rw [hk0 rfl] at hj; omega⟩
  | .br c x y => by
    unfold X.res
    refine sat_bind (sat_under (res_sat hk0 x)) fun u hu => sat_bind (sat_under (res_sat hk0 y)) fun v hv => sat_pure ?_
    simp only [X.sel]
    by_cases hc : c.bool ν = true
    · simp only [hc, if_true]
      exact hu hc
    · simp only [hc]
      exact hv (by simpa using hc)

def ow (path : List (Bool × Bool)) (a : Bool) : Bool := !(path.all fun c => c.1 == c.2) || a
def owesB (ν : Nat → DV) (l : List Nd) : Bool := (l.map fun q => ow (q.path.map fun c => (c.1.bool ν, c.2)) (q.a.bool ν)).all id
theorem owesB_holds {l : List Nd} (h : owesB ν l = true) : ∀ q ∈ l, Nd.holds ν q := by
  intro q hq hp
  have := List.all_eq_true.1 h _ (List.mem_map.2 ⟨q, hq, rfl⟩)
  simp only [ow, id, Bool.or_eq_true, Bool.not_eq_true', List.all_map] at this
  rcases this with h' | h'
  · have : (q.path.all ((fun c : Bool × Bool => c.1 == c.2) ∘ fun c => (c.1.bool ν, c.2))) = true := List.all_eq_true.2 fun c hc => by simp [hp c hc]
    rw [this] at h'; cases h'
  · exact h'

theorem nth_replicate_none {α : Type} (n i : Nat) : nth (List.replicate n (none : Option α)) i = none := by
  induction n generalizing i with
  | zero => cases i <;> rfl
  | succ n ih => cases i with
    | zero => rfl
    | succ i => exact ih i


def Stable (I : World → Prop) (gK : Nat) : Prop := ∀ w w', w.heap.size ≤ w'.heap.size → (∀ b, b < gK → w'.heap[b]? = w.heap[b]?) → I w → I w'

def outEnv (F : FEnv) (sg : Sig) (out : Out) (ds : List DV) : Nat → DV :=
  look (fun _ => default) 0 (evalNodes F (fun _ => default) 0 out.nodes ds.reverse sg.nin) (sg.nin + out.nodes.length)

theorem obs_split {F : FEnv} {ν : Nat → DV} : ∀ (d : List Ob), (∀ q ∈ ndsOf d, Nd.holds ν q) → (∀ q ∈ lpsOf d, LoopSound F q) → ∀ q ∈ d, Ob.holds F ν q
  | [], _, _, q, hq => by cases hq
  | .nd o :: d, h1, h2, q, hq => by
    rcases List.mem_cons.1 hq with rfl | hq
    · exact h1 o (by simp [ndsOf])
    · exact obs_split d (fun q hq => h1 q (by simp [ndsOf, hq])) h2 q hq
  | .lp o :: d, h1, h2, q, hq => by
    rcases List.mem_cons.1 hq with rfl | hq
    · exact h2 o (by simp [lpsOf])
    · exact obs_split d h1 (fun q hq => h2 q (by simp [lpsOf, hq])) q hq


theorem keepsC_spec {hin : List (Option Blk)} {m : List Nat} : ∀ {l : List (Option Blk)} {j : Nat}, keepsC hin m j l = true → ∀ i, i < l.length → stays hin (j + i) = true → rnm m (j + i) = j + i
  | [], _, _, i, hi, _ => by simp at hi
  | _ :: l, j, h, 0, _, hs => by
    simp only [keepsC, Bool.and_eq_true, Bool.or_eq_true, Bool.not_eq_true'] at h
    rw [Nat.add_zero] at hs ⊢
    rcases h.1 with h1 | h1
    · rw [hs] at h1; cases h1
    · exact Nat.eq_of_beq_eq_true h1
  | _ :: l, j, h, i + 1, hi, hs => by
    simp only [keepsC, Bool.and_eq_true] at h
    have := keepsC_spec h.2 i (by simpa using hi) (by rwa [show j + 1 + i = j + (i + 1) from by omega])
    rwa [show j + 1 + i = j + (i + 1) from by omega] at this

theorem body_sat (hS : SigsOK P I gK S F) (hE : E.Ok gK) (hn0 : S.n0 = E.n0) (hI : ∀ w, Fr E.W E.w0 w → I w) {fuel : Nat} {c : Code} {rs : List ResultVar} {keep : Bool} (hk0 : keep = false → E.n0 = 0) {s0 : St} :
    M.sat F ν (evBody P S fuel c rs keep s0) (fun z => ∀ ρ a w, RR ν E ρ ⟨s0, []⟩ a w → c.wp P (fun e a' w' => (e = .normal ∨ e = .ret) ∧ a'.defers = [] ∧
      ∃ v vals ρ', (rs.mapM (resM a'.tmps)).run P w' = .ok vals w' ∧ wrapVals vals = v ∧ RR ν E ρ' ⟨z, []⟩ (oneAct v) w') a w) := by
  unfold evBody
  rw [hn0]
  refine sat_bind (evCode_ok hS hE hn0 hI fuel ν c s0) fun x hx => sat_bind (res_sat hk0 x) fun y hy => sat_bind (nSt_sat (E := E) y) fun o ho => ?_
  obtain ⟨z, hz, hz2⟩ := ho hy.2.1
  subst hz
  refine sat_pure fun ρ a w h => wp_mono (hx ρ a w h).1 fun e a' w' hp => ?_
  obtain ⟨hk, ρ1, hr⟩ := hp
  obtain ⟨v, vals, h1, h2, h3⟩ := hy.2.2 ρ1 a' w' hr
  obtain ⟨ρ2, h4⟩ := hz2 ρ1 _ w' h3
  refine ⟨?_, hr.act.defers, v, vals, ρ2, h1, h2, h4⟩
  have hend := hy.1
  generalize (X.sel ν x).1 = k at *
  cases k <;> cases e <;> simp [K.is, K.ends] at hk hend ⊢

theorem fn_okE {fuel : Nat} {f : FuncId} {fn : Func} {sg : Sig} {out : Out} {G : List DV → List DV} (hst : Stable I gK) (hS : SigsOK P I gK S F) (hf : P.funcs[f]? = some fn)
    (hev : evFn P S fuel fn sg = some out) (hlp : ∀ l ∈ out.loops, LoopSound F l)
    (hG : ∀ ds : List DV, ds.length = sg.nin → (sg.need = true → (dget (G ds) 0).toB = true) → ∃ ν : Nat → DV, Sat F ν out.nodes ∧ (∀ i, i < sg.nin → ν i = dget ds i) ∧
      owesB ν out.owes = true ∧ TEq sg.ots ((G ds).drop (if sg.need then 1 else 0)) (out.outs.map (A.den ν))) :
    FnOK P I gK f sg G := by
  intro ds ρ0 w hIw hlen hneed hKw hKW hgood hheap
  obtain ⟨ν, hsat, hin, howes, houts⟩ := hG ds hlen hneed
  generalize hE0 : callEnv sg.hinI ρ0 w = E at *
  have hEn : E.n0 = sg.hin.length := by rw [← hE0]; simp [callEnv, Sig.hinI]
  have hEw : E.w0 = w := by rw [← hE0]; rfl
  have hEρ : E.ρ0 = ρ0 := by rw [← hE0]; rfl
  have hEok : E.Ok gK := ⟨by rw [hEw]; exact hKw, hKW⟩
  have hI : ∀ w', Fr E.W E.w0 w' → I w' := fun w' h => by
    rw [hEw] at h
    exact hst w w' h.size (fun b hb => h.block b (by omega) (fun hW => by have := hKW b hW; omega)) hIw
  unfold evFn at hev
  cases hbody : fn.body with
  | none => simp [hbody] at hev
  | some c =>
    simp only [hbody] at hev
    split at hev
    rotate_left
    · cases hev
    rename_i hn0
    have hn0 : S.n0 = E.n0 := by rw [hEn]; exact Nat.eq_of_beq_eq_true hn0
    generalize hkp : (!(sg.hin.isEmpty && sg.hout.isEmpty)) = keep at hev
    have hk0 : keep = false → E.n0 = 0 := fun h => by
      rw [h] at hkp
      rw [hEn]
      cases hh : sg.hin with
      | nil => rfl
      | cons x l => rw [hh] at hkp; simp at hkp
    cases hrun : evBody P S fuel c fn.results.toList keep (sg.st0 fn.ntmps) sg.nin with
    | none => simp [hrun] at hev
    | some r =>
      obtain ⟨z, n', e, d⟩ := r
      simp only [hrun] at hev
      unfold outOf at hev
      dsimp only at hev
      generalize hg : guess sg.ots.length ⟨[some sg.out], sg.hout⟩ z = g at hev
      have hgl : g.1.length = sg.ots.length := by rw [← hg]; exact guess_len _ _ _
      split at hev
      rotate_left
      · cases hev
      rename_i hchk
      simp only [Option.some.injEq] at hev
      subst hev
      simp only at hsat howes houts hlp
      simp only [Bool.and_eq_true, St.inst, St.sub, Sig.ok] at hchk
      obtain ⟨⟨⟨⟨hs1, hs2⟩, hs3⟩, ⟨⟨⟨⟨⟨⟨⟨k1, k2⟩, k3⟩, k4⟩, _⟩, _⟩, _⟩, k8⟩⟩, hkc⟩ := hchk
      have key := body_sat (E := E) hS hEok hn0 hI hk0 sg.nin z n' e d hrun hsat (obs_split d (owesB_holds howes) hlp)
      -- where the results' values come from
      have hres : PEq ν (sg.res (G ds)) sg.ots g.1 (idsFrom 0 sg.ots.length) := by
        have hl : ((G ds).drop (if sg.need then 1 else 0)).length = sg.ots.length := by rw [houts.len]; simpa using hgl
        have hsame : (idsFrom 0 sg.ots.length).map (A.den (sg.res (G ds))) = (G ds).drop (if sg.need then 1 else 0) := by
          rw [idsFrom_den (sg.res (G ds)) sg.ots.length 0 0 (fun _ _ => rfl)]
          apply List.ext_getElem?
          intro i
          by_cases hi : i < sg.ots.length
          · rw [List.getElem?_map, List.getElem?_range' (by omega), List.getElem?_eq_getElem (l := (G ds).drop _) (by omega)]
            simp only [Option.map_some, Option.some.injEq, Sig.res, dget]
            rw [List.getElem_drop, List.getD_eq_getElem?_getD, List.getElem?_eq_getElem (by simp only [List.length_drop] at hl; omega)]
            simp only [Option.getD_some]
            congr 1
            omega
          · rw [List.getElem?_eq_none (by simpa using hi), List.getElem?_eq_none (by omega)]
        exact PEq.of_teq (by rw [hsame]; exact houts)
      -- the state the call begins in
      have hvals : sg.insI.map (V.conc ν ρ0) = sg.insI.map (V.conc (dget ds) ρ0) ∧ (∀ v ∈ sg.insI, V.good ν v) ∧ HRel E ν ρ0 sg.hinI w := by
        have hpi : PEq (dget ds) ν sg.its (idsFrom 0 sg.nin) (idsFrom 0 sg.nin) := by
          refine PEq.of_den (idsFrom_len _ _) ?_
          rw [idsFrom_den (dget ds) sg.nin 0 0 (fun _ _ => rfl), idsFrom_den (dget ds) sg.nin 0 0 (fun i hi => by rw [Nat.zero_add]; exact hin i hi)]
        obtain ⟨e1, e2⟩ := Vs.inst_to const_den hpi k1
        exact ⟨e1 ρ0, e2 hgood, HRel.inst const_den hpi k2 hheap⟩
      obtain ⟨hv1, hv2, hv3⟩ := hvals
      have hst0 : RR ν E ρ0 ⟨sg.st0 fn.ntmps, []⟩ { tmps := (sg.insI.map (V.conc (dget ds) ρ0)).toArray ++ Array.replicate (fn.ntmps - (sg.insI.map (V.conc (dget ds) ρ0)).toArray.size) undef, defers := [] } w := by
        refine ⟨⟨rfl, ?_, fun t v ht => ?_, fun e he => by cases he⟩, ⟨hv3, fun j bk hj => ?_, ?_, ?_, fun j _ => by rw [hEρ]⟩⟩
        · simp [Sig.st0, Sig.insI]
        · change nth ((sg.insI).map some ++ List.replicate (fn.ntmps - sg.insI.length) none) t = some v at ht
          rw [nth_append] at ht
          split at ht
          · rename_i hlt
            rw [nth_map_some] at ht
            refine ⟨hv2 v (List.mem_of_getElem? ht), ?_⟩
            have h1 : (sg.insI.map (V.conc (dget ds) ρ0))[t]? = some (v.conc ν ρ0) := by rw [← hv1]; simp [ht]
            simp only
            rw [Array.getElem?_append_left (by simp at hlt; simp; omega)]
            simpa using h1
          · rw [nth_replicate_none] at ht; cases ht
        · change nth sg.hinI j = some bk at hj
          cases hn : (ρ0 j).nil with
          | true => exact .inl rfl
          | false =>
            cases ho : bk.own with
            | true => exact .inr (.inr (.inl (by rw [← hE0]; exact ⟨j, bk, hj, ho, hn, rfl⟩)))
            | false => exact .inr (.inr (.inr ⟨rfl, by rw [← hE0]; exact .inl ⟨j, bk, hj, ho, hn, rfl⟩⟩))
        · rw [hEw]; exact Fr.refl _ _
        · rw [hEn]; simp [Sig.st0]
      refine calls_of_wp hf hbody ?_
      refine wp_mono (key ρ0 _ w hst0) ?_
      intro e a' w' ⟨he, hd, v, vals, ρ', h1, h2, h3⟩
      have hout : ∃ v ρ', (results fn a'.tmps).run P w' = .ok v w' ∧ CallOut sg (G ds) ρ0 w v ρ' w' := by
        obtain ⟨_, q2⟩ := slotsSub_spec hs1
        obtain ⟨u, q3, q4⟩ := q2 0 (sg.out.inst g.1) rfl
        obtain ⟨q5, q6⟩ := V.sub_spec (ν := ν) q4
        obtain ⟨q7, q8⟩ := h3.act.slot 0 u q3
        have q9 : v = u.conc ν ρ' := by
          have : (oneAct v).tmps[0]? = some v := rfl
          rw [this] at q8
          exact Option.some.inj q8
        obtain ⟨c1, c2⟩ := V.inst_to const_den hres k3
        have hh1 : HRel E ν (fun j => ρ' (rnm g.2 j)) (sg.hout.map (Option.map (Blk.inst g.1))) w' := h3.hs.heap.sub hs2 hs3
        refine ⟨v, fun j => ρ' (rnm g.2 j), by rw [results_of h1, h2], ?_, c2 (q6 q7), ?_, ?_, ?_, fun j hj hjl => ?_⟩
        · unfold Sig.outI
          rw [c1, q5 ρ']
          exact q9
        · rw [hE0]
          exact HRel.inst const_den hres k4 hh1
        · rw [hE0]
          have := OldF.inst (bs := idsFrom 0 sg.ots.length) (h3.hs.old.sub hs2)
          rw [hEw] at this
          exact this
        · rw [hE0]
          have := h3.hs.fr
          rw [hEw] at this
          exact this
        · have e1 := keepsC_spec hkc j hjl (by rwa [Nat.zero_add])
          rw [Nat.zero_add] at e1
          obtain ⟨x, hx⟩ := stays_lt hj
          have := h3.hs.keep j (by rw [hEn]; exact nth_lt hx)
          simp only [e1]
          rw [this, hEρ]
      obtain ⟨v2, ρ2, h4, h5⟩ := hout
      rcases he with rfl | rfl
      · exact ⟨hd, v2, h4, v2, ρ2, rfl, h5⟩
      · exact ⟨hd, v2, h4, v2, ρ2, rfl, h5⟩
theorem fn_ok {fuel : Nat} {f : FuncId} {fn : Func} {sg : Sig} {out : Out} {G : List DV → List DV} (hst : Stable I gK) (hS : SigsOK P I gK S F) (hf : P.funcs[f]? = some fn)
    (hev : evFn P S fuel fn sg = some out) (hwf : wfNodes sg.nin out.nodes = true) (hlp : ∀ l ∈ out.loops, LoopSound F l)
    (hG : ∀ ds : List DV, ds.length = sg.nin → (sg.need = true → (dget (G ds) 0).toB = true) →
      owesB (outEnv F sg out ds) out.owes = true ∧
      TEq sg.ots ((G ds).drop (if sg.need then 1 else 0)) (out.outs.map (A.den (outEnv F sg out ds)))) :
    FnOK P I gK f sg G :=
  fn_okE hst hS hf hev hlp fun ds hlen hneed => by
    obtain ⟨howes, houts⟩ := hG ds hlen hneed
    obtain ⟨hl2, hsat⟩ := evalNodes_spec (F := F) (base := fun _ => default) (n0 := 0) (vs := ds.reverse) (n := sg.nin) (by omega) hwf
    change Sat F (outEnv F sg out ds) out.nodes at hsat
    have hl2' : ∀ i, i < sg.nin → outEnv F sg out ds i = look (fun _ => default) 0 ds.reverse sg.nin i := hl2
    refine ⟨outEnv F sg out ds, hsat, fun i hi => ?_, howes, houts⟩
    rw [hl2' i hi, look_list (by omega)]
    unfold dget
    simp only [List.getD_eq_getElem?_getD]
    rw [List.getElem?_reverse (by omega), hlen]
    congr 2
    omega
end

theorem assoc_all {α : Type} {Q : Nat → α → Prop} {l : List (Nat × α)} (h : ∀ p ∈ l, Q p.1 p.2) {f : Nat} {s : α} (hs : assoc l f = some s) : Q f s := by
  induction l with
  | nil => cases hs
  | cons p l ih =>
    simp only [assoc] at hs
    split at hs
    · rename_i e
      cases hs
      rw [Nat.eq_of_beq_eq_true e]
      exact h p (by simp)
    · exact ih (fun q hq => h q (List.mem_cons_of_mem _ hq)) hs
def eRun (a : A) (ts : List LT) (i n : Nat) : List Lf := (List.range n).map fun k => .e (ts.getD (k % ts.length) .bool) a (i + k)
def callsAt (i f : Nat) (args : List A) (j : Nat) : Nat → Em
  | 0 => []
  | k + 1 => (i, .call f args j) :: callsAt (i + 1) f args (j + 1) k
end Go.Sx

namespace Go.Sx

section
variable (w c : List DV → Bool) (nx out : List DV → List DV)

def liter : Nat → List DV → Option (List DV)
  | 0, _ => none
  | n + 1, s => if w s then (if c s then liter n (nx s) else some (out s)) else none
def lcnt : Nat → List DV → Nat
  | 0, _ => 0
  | n + 1, s => if c s then lcnt n (nx s) + 1 else 0

open Classical in
noncomputable def lfuel (s : List DV) : Nat := if h : ∃ n r, liter w c nx out n s = some r then Classical.choose h else 0
noncomputable def loopG (s : List DV) : Option (List DV) := liter w c nx out (lfuel w c nx out s) s

variable {w c : List DV → Bool} {nx out : List DV → List DV}

theorem liter_more : ∀ {n : Nat} {s r : List DV}, liter w c nx out n s = some r → liter w c nx out (n + 1) s = some r
  | 0, _, _, h => by cases h
  | n + 1, s, r, h => by
    simp only [liter] at h
    rw [liter]
    split at h
    · rename_i h1
      rw [if_pos h1]
      split at h
      · rename_i h2
        rw [if_pos h2]
        exact liter_more h
      · rename_i h2
        rw [if_neg h2]
        exact h
    · cases h
theorem liter_le {n m : Nat} {s r : List DV} (hl : n ≤ m) (h : liter w c nx out n s = some r) : liter w c nx out m s = some r := by
  induction hl with
  | refl => exact h
  | step _ ih => exact liter_more ih
theorem liter_one {n m : Nat} {s r r' : List DV} (h : liter w c nx out n s = some r) (h' : liter w c nx out m s = some r') : r = r' := by
  have h1 := liter_le (Nat.le_max_left n m) h
  have h2 := liter_le (Nat.le_max_right n m) h'
  exact Option.some.inj (h1.symm.trans h2)
theorem lcnt_one : ∀ {n m : Nat} {s r r' : List DV}, liter w c nx out n s = some r → liter w c nx out m s = some r' → lcnt c nx n s = lcnt c nx m s
  | 0, _, _, _, _, h, _ => by cases h
  | _ + 1, 0, _, _, _, _, h => by cases h
  | n + 1, m + 1, s, r, r', h, h' => by
    simp only [liter] at h h'
    simp only [lcnt]
    split at h
    · rename_i h1
      rw [if_pos h1] at h'
      split at h
      · rename_i h2
        rw [if_pos h2] at h'
        rw [if_pos h2, if_pos h2, lcnt_one h h']
      · rename_i h2
        rw [if_neg h2, if_neg h2]
    · cases h

theorem loopG_of {n : Nat} {s r : List DV} (h : liter w c nx out n s = some r) : loopG w c nx out s = some r := by
  have he : ∃ n r, liter w c nx out n s = some r := ⟨n, r, h⟩
  unfold loopG lfuel
  rw [dif_pos he]
  obtain ⟨r', hr'⟩ := Classical.choose_spec he
  rw [hr', liter_one hr' h]
theorem loopG_next {s : List DV} (h1 : w s = true) (h2 : c s = true) : loopG w c nx out s = loopG w c nx out (nx s) := by
  cases h : loopG w c nx out (nx s) with
  | some r => exact loopG_of (n := lfuel w c nx out (nx s) + 1) (by simp only [liter, h1, h2, if_true]; exact h)
  | none =>
    cases h' : loopG w c nx out s with
    | none => rfl
    | some r =>
      unfold loopG at h'
      cases hn : lfuel w c nx out s with
      | zero => rw [hn] at h'; cases h'
      | succ n =>
        rw [hn] at h'
        simp only [liter, h1, h2, if_true] at h'
        rw [loopG_of h'] at h
        cases h
theorem loopG_last {s : List DV} (h1 : w s = true) (h2 : c s = false) : loopG w c nx out s = some (out s) := loopG_of (n := 1) (by simp [liter, h1, h2])
theorem loopG_w {s r : List DV} (h : loopG w c nx out s = some r) : w s = true := by
  unfold loopG at h
  cases hn : lfuel w c nx out s with
  | zero => rw [hn] at h; cases h
  | succ n =>
    rw [hn] at h
    simp only [liter] at h
    split at h
    · assumption
    · cases h
noncomputable def lmu (w c : List DV → Bool) (nx out : List DV → List DV) (s : List DV) : Nat := lcnt c nx (lfuel w c nx out s) s
theorem lmu_next {s r : List DV} (h : loopG w c nx out s = some r) (h2 : c s = true) : lmu w c nx out (nx s) < lmu w c nx out s := by
  have h1 := loopG_w h
  have h3 : loopG w c nx out (nx s) = some r := (loopG_next h1 h2).symm.trans h
  unfold lmu
  unfold loopG at h h3
  cases hn : lfuel w c nx out s with
  | zero => rw [hn] at h; cases h
  | succ n =>
    rw [hn] at h
    simp only [liter, h1, h2, if_true] at h
    simp only [lcnt, h2, if_true]
    rw [lcnt_one h3 h]
    omega
end

def nrmsAt : Nat → List Ty → List DV → List DV
  | _, [], _ => []
  | i, t :: ts, ds => nrm t (ds.getD i default) :: nrmsAt (i + 1) ts ds
def nrms (ts : List Ty) (ds : List DV) : List DV := nrmsAt 0 ts ds

theorem nrmsAt_get : ∀ (i : Nat) (ts : List Ty) (ds : List DV) (j : Nat), (nrmsAt i ts ds)[j]? = ts[j]?.map fun t => nrm t (ds.getD (i + j) default)
  | _, [], _, j => by simp [nrmsAt]
  | i, t :: ts, ds, 0 => by simp [nrmsAt]
  | i, t :: ts, ds, j + 1 => by
    simp only [nrmsAt, List.getElem?_cons_succ]
    rw [nrmsAt_get (i + 1) ts ds j, show i + 1 + j = i + (j + 1) from by omega]
theorem nrms_get (ts : List Ty) (ds : List DV) (j : Nat) : (nrms ts ds)[j]? = ts[j]?.map fun t => nrm t (ds.getD j default) := by
  unfold nrms
  rw [nrmsAt_get, Nat.zero_add]
theorem nrm_nrm (t : Ty) (d : DV) : nrm t (nrm t d) = nrm t d := by cases t <;> rfl
theorem nrm_eq {t : Ty} {d e : DV} (h : nrm t d = nrm t e) : t.eqAt d e := by
  cases t <;> simpa [nrm, Ty.eqAt] using h
theorem nrms_len (ts : List Ty) (ds : List DV) : (nrms ts ds).length = ts.length := by
  have key : ∀ (i : Nat) (ts : List Ty), (nrmsAt i ts ds).length = ts.length := fun i ts => by
    induction ts generalizing i with
    | nil => rfl
    | cons t ts ih => simp [nrmsAt, ih]
  exact key 0 ts
theorem nrms_nrms (ts : List Ty) (ds : List DV) : nrms ts (nrms ts ds) = nrms ts ds := by
  apply List.ext_getElem?
  intro j
  rw [nrms_get, nrms_get]
  cases h : ts[j]? with
  | none => rfl
  | some t =>
    simp only [Option.map_some, Option.some.injEq]
    rw [List.getD_eq_getElem?_getD, nrms_get, h]
    simp [nrm_nrm]
theorem teq_of_get : ∀ {ts : List Ty} {as bs : List DV}, as.length = ts.length → bs.length = ts.length →
    (∀ (j : Nat) (t : Ty), ts[j]? = some t → nrm t (as.getD j default) = nrm t (bs.getD j default)) → TEq ts as bs
  | [], [], [], _, _, _ => trivial
  | t :: ts, a :: as, b :: bs, h1, h2, h => by
    refine ⟨nrm_eq (by simpa using h 0 t rfl), teq_of_get (by simpa using h1) (by simpa using h2) fun j t' ht => ?_⟩
    have := h (j + 1) t' (by simpa using ht)
    simpa using this
  | [], _ :: _, _, h, _, _ => by simp at h
  | [], [], _ :: _, _, h, _ => by simp at h
  | _ :: _, [], _, h, _, _ => by simp at h
  | _ :: _, _ :: _, [], _, h, _ => by simp at h
theorem nrms_teq {ts : List Ty} {as bs : List DV} (h : nrms ts as = nrms ts bs) (h1 : as.length = ts.length) (h2 : bs.length = ts.length) : TEq ts as bs :=
  teq_of_get h1 h2 fun j t ht => by
    have := congrArg (fun l => l[j]?) h
    simp only [nrms_get, ht, Option.map_some, Option.some.injEq] at this
    exact this

noncomputable def wrapG (ots : List Ty) (o : Option (List DV)) : List DV := .b o.isSome :: nrms ots (o.getD [])

theorem loop_ok {F : FEnv} {l : LR} {w c : List DV → Bool} {nx out : List DV → List DV} (tys : List Ty)
    (hF : ∀ ds, F l.fid ds = wrapG (.i :: l.ts) (loopG w c nx out (nrms tys ds)))
    (hlen : l.outs.length = l.ts.length + 1)
    (hw : ∀ ν xs, xs.length = l.k → owesB (l.env F ν xs) l.owes = w (nrms tys (l.inv.map ν ++ xs)))
    (hc : ∀ ν xs, xs.length = l.k → l.c.bool (l.env F ν xs) = c (nrms tys (l.inv.map ν ++ xs)))
    (hn : ∀ ν xs, xs.length = l.k → nrms tys (l.inv.map ν ++ l.nx.map (A.den (l.env F ν xs))) = nx (nrms tys (l.inv.map ν ++ xs)))
    (ho : ∀ ν xs, xs.length = l.k → nrms (.i :: l.ts) (l.outs.map (A.den (l.env F ν xs))) = out (nrms tys (l.inv.map ν ++ xs))) : LoopSound F l := by
  refine ⟨fun raw => lmu w c nx out (nrms tys raw), fun ν xs hx hp => ?_⟩
  rw [hF] at hp
  generalize hs : nrms tys (l.inv.map ν ++ xs) = s at *
  cases hl : loopG w c nx out s with
  | none => rw [hl] at hp; cases hp
  | some r =>
    have h1 := loopG_w hl
    refine ⟨owesB_holds (by rw [hw ν xs hx, hs]; exact h1), fun h2 => ?_, fun h2 => ?_⟩
    · rw [hc ν xs hx, hs] at h2
      have h3 := hn ν xs hx
      rw [hs] at h3
      rw [hF, hF, h3, hs, ← loopG_next h1 h2, hl]
      exact ⟨rfl, rfl, by show lmu w c nx out (nrms tys _) < lmu w c nx out (nrms tys _); rw [h3, hs]; exact lmu_next hl h2⟩
    · rw [hc ν xs hx, hs] at h2
      rw [hF, hs, loopG_last h1 h2]
      show TEq _ (nrms (.i :: l.ts) (out s)) _
      refine nrms_teq ?_ (by simp [nrms_len]) (by simpa using hlen)
      rw [nrms_nrms, ho ν xs hx, hs]
      have h4 := ho ν xs hx
      rw [hs] at h4
      rw [← h4, nrms_nrms]
end Go.Sx

