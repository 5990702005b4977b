/- The evaluator's operations agree with the model's. -/
import Derived.Test.YtoebecinndbnoaaDoorSxStore
namespace Go.Sx
open Go.RowKit

abbrev dget (l : List DV) (i : Nat) : DV := l.getD i default

def leafVals (g : Nat → DV) : Nat → List LT → List Value
  | _, [] => []
  | j, t :: ts => t.conc (g j) :: leafVals g (j + 1) ts
def argVals (g : Nat → DV) : Nat → List Sh → List Value
  | _, [] => []
  | j, .one t :: ss => t.conc (g j) :: argVals g (j + 1) ss
  | j, .agg ts :: ss => .agg (leafVals g j ts).toArray :: argVals g (j + ts.length) ss
def wrapVals : List Value → Value
  | [v] => v
  | l => .tuple l.toArray
def retVal (sg : Sig) (os : List DV) : Value := wrapVals (argVals (dget os) (if sg.need then 1 else 0) sg.rs)

/-- What is known of a called function: of values alone; it makes memory of its own, and leaves the old as it was. -/
def FnOK (P : Program) (I : World → Prop) (f : FuncId) (sg : Sig) (G : List DV → List DV) : Prop :=
  ∀ (ds : List DV) (w : World), I w → ds.length = nIn sg.ps → (sg.need = true → (dget (G ds) 0).toB = true) →
    Calls P f (argVals (dget ds) 0 sg.ps).toArray w (fun e w' => e = .returned (retVal sg (G ds)) ∧ Below w.heap.size w w')

/-- A package-level variable's cells stand in the world. -/
def GlobIn (w : World) (g : Nat) (cs : List Lf) : Prop :=
  g < w.heap.size ∧ ∀ i l, cs[i]? = some l → ∀ ν ρ, l.good ν ∧ w.cell? ⟨g, i, none⟩ = some (l.conc ν ρ)

theorem GlobIn.below {w w' : World} {g : Nat} {cs : List Lf} (hb : Below w.heap.size w w') (h : GlobIn w g cs) : GlobIn w' g cs :=
  ⟨Nat.lt_of_lt_of_le h.1 hb.size, fun i l hi ν ρ => ⟨(h.2 i l hi ν ρ).1, by rw [← (h.2 i l hi ν ρ).2]; exact hb.cell h.1⟩⟩

structure SigsOK (P : Program) (I : World → Prop) (S : Sigs) (F : FEnv) : Prop where
  fns : ∀ f sg, S.get f = some sg → FnOK P I f sg (F f)
  globs : ∀ g cs, assoc S.gs g = some cs → ∀ w, I w → GlobIn w g cs

section
variable {P : Program} {I : World → Prop} {S : Sigs} {F : FEnv} {ν : Nat → DV}

structure ARel (ν : Nat → DV) (ρ : Nat → Nat × Nat) (r : RS) (a : Act) : Prop where
  defers : a.defers = []
  size : a.tmps.size = r.st.sl.length
  slot : ∀ t v, nth r.st.sl t = some v → v.good ν ∧ a.tmps[t]? = some (v.conc ν ρ)
  gl : ∀ e ∈ r.gl, (a.tmps[e.d]? = some (.bool e.want) → e.v.good ν ∧ a.tmps[e.t]? = some (e.v.conc ν ρ)) ∧ (a.tmps[e.d]? ≠ some (.bool e.want) → a.tmps[e.t]? = some undef)

def CtxOk (ctx : Ctx) (a : Act) : Prop := ∀ p ∈ ctx, a.tmps[p.1]? = some (.bool p.2)

theorem Ctx.has_spec : ∀ {ctx : Ctx} {d : Nat} {w : Bool}, ctx.has d w = true → (d, w) ∈ ctx
  | [], _, _, h => by simp [Ctx.has] at h
  | (d, w) :: r, d', w', h => by
    simp only [Ctx.has, Bool.or_eq_true, Bool.and_eq_true] at h
    rcases h with ⟨h1, h2⟩ | h
    · have := Nat.eq_of_beq_eq_true h1; subst this
      have := beqB_eq h2; subst this
      simp
    · exact List.mem_cons_of_mem _ (Ctx.has_spec h)

theorem glFind_spec {ctx : Ctx} {t : Nat} : ∀ {l : List GE} {v : V}, glFind ctx t l = some v → ∃ e ∈ l, e.t = t ∧ e.v = v ∧ (e.d, e.want) ∈ ctx
  | [], v, h => by simp [glFind] at h
  | e :: r, v, h => by
    simp only [glFind] at h
    split at h
    · rename_i hc
      simp only [Bool.and_eq_true] at hc
      cases h
      exact ⟨e, by simp, Nat.eq_of_beq_eq_true hc.1, rfl, Ctx.has_spec hc.2⟩
    · obtain ⟨e', h1, h2⟩ := glFind_spec h
      exact ⟨e', List.mem_cons_of_mem _ h1, h2⟩

theorem slot_spec {ρ : Nat → Nat × Nat} {r : RS} {a : Act} {ctx : Ctx} (h : ARel ν ρ r a) (hc : CtxOk ctx a) {t : Nat} {v : V} (hv : r.slot ctx t = some v) : v.good ν ∧ a.tmps[t]? = some (v.conc ν ρ) := by
  unfold RS.slot at hv
  split at hv
  · cases hv; exact h.slot t _ ‹_›
  · obtain ⟨e, he, rfl, rfl, hctx⟩ := glFind_spec hv
    exact (h.gl e he).1 (hc (e.d, e.want) hctx)

theorem ofLeaf_spec {x : Value} {l : Lf} (h : ofLeaf x = some l) : l.good ν ∧ ∀ ρ, l.conc ν ρ = x := by
  unfold ofLeaf at h
  split at h <;> first | (cases h; exact ⟨trivial, fun _ => rfl⟩) | cases h

theorem allSome_spec {α β : Type} {f : α → Option β} : ∀ {l : List α} {r : List β}, allSome f l = some r → r.length = l.length ∧ ∀ (i : Nat) b, r[i]? = some b → ∃ a, l[i]? = some a ∧ f a = some b
  | [], r, h => by simp [allSome] at h; subst h; exact ⟨rfl, fun i b hb => by simp at hb⟩
  | a :: l, r, h => by
    simp only [allSome] at h
    cases hf : f a with
    | none => simp [hf] at h
    | some b =>
      simp only [hf] at h
      cases hr : allSome f l with
      | none => simp [hr] at h
      | some r' =>
        simp only [hr, Option.some.injEq] at h
        subst h
        obtain ⟨h1, h2⟩ := allSome_spec hr
        refine ⟨by simp [h1], fun i b' hb => ?_⟩
        cases i with
        | zero => simp at hb; subst hb; exact ⟨a, rfl, hf⟩
        | succ i => exact h2 i b' (by simpa using hb)

theorem ofLeaves_spec {l : List Value} {r : List Lf} (h : allSome ofLeaf l = some r) : (∀ x ∈ r, x.good ν) ∧ ∀ ρ, r.map (Lf.conc ν ρ) = l := by
  obtain ⟨h1, h2⟩ := allSome_spec h
  refine ⟨fun x hx => ?_, fun ρ => ?_⟩
  · obtain ⟨i, hi, rfl⟩ := List.mem_iff_getElem.1 hx
    obtain ⟨a, _, ha⟩ := h2 i _ (List.getElem?_eq_getElem hi)
    exact (ofLeaf_spec ha).1
  · apply List.ext_getElem?
    intro i
    by_cases hi : i < r.length
    · obtain ⟨a, ha1, ha2⟩ := h2 i _ (List.getElem?_eq_getElem hi)
      simp [List.getElem?_eq_getElem hi, ha1, (ofLeaf_spec (ν := ν) ha2).2 ρ]
    · rw [List.getElem?_eq_none (by simpa using hi), List.getElem?_eq_none (by omega)]

theorem ofConst_spec {x : Value} {v : V1} (h : ofConst x = some v) : v.good ν ∧ ∀ ρ, v.conc ν ρ = x := by
  unfold ofConst at h
  split at h
  · obtain ⟨r, hr, rfl⟩ := Option.map_eq_some_iff.1 h
    have := ofLeaves_spec (ν := ν) hr
    exact ⟨V1.good_agg.2 this.1, fun ρ => by simp [V1.conc, this.2 ρ]⟩
  · obtain ⟨r, hr, rfl⟩ := Option.map_eq_some_iff.1 h
    have := ofLeaf_spec (ν := ν) hr
    exact ⟨V1.good_one.2 this.1, fun ρ => this.2 ρ⟩

theorem rd_spec {ρ : Nat → Nat × Nat} {r : RS} {a : Act} {ctx : Ctx} (h : ARel ν ρ r a) (hc : CtxOk ctx a) {x : Operand} {v : V} (hv : rd r ctx x = some v) : v.good ν ∧ a.eval x = v.conc ν ρ := by
  cases x with
  | tmp t =>
    have := slot_spec h hc (show r.slot ctx t = some v from hv)
    exact ⟨this.1, by simp [Act.eval, this.2]⟩
  | const c =>
    simp only [rd] at hv
    obtain ⟨u, hu, rfl⟩ := Option.map_eq_some_iff.1 hv
    have := ofConst_spec (ν := ν) hu
    exact ⟨this.1, (this.2 ρ).symm⟩
  | func f =>
    simp only [rd, Option.some.injEq] at hv
    subst hv
    exact ⟨V.good_s.2 (V1.good_one.2 (show True from trivial)), rfl⟩
  | global g =>
    simp only [rd, Option.some.injEq] at hv
    subst hv
    exact ⟨V.good_s.2 (V1.good_one.2 trivial), by simp [V.conc, V1.conc, Lf.conc, Off.val, Act.eval]⟩

/-- The run of an operation ends in a value: at once, or by a call that leaves the old memory as it was. -/
def RunsVal (P : Program) (x : Sem Next) (w : World) (v : Value) : Prop :=
  x.run P w = .ok (.value v) w ∨ ∃ f args, x.run P w = .ok (.enter f args) w ∧ Calls P f args w (fun e w' => e = .returned v ∧ Below w.heap.size w w')

def ORok (P : Program) (I : World → Prop) (ν : Nat → DV) (ρ : Nat → Nat × Nat) (hp : List (Option Blk)) (x : Sem Next) : OR → Prop
  | .val v => ∀ w, HRel ν ρ hp w → I w → v.good ν ∧ RunsVal P x w (v.conc ν ρ)
  | .new cs => (∀ l ∈ cs, Lf.good ν l) ∧ ∃ el, ∀ w, HRel ν ρ hp w →
      x.run P w = .ok (.value (.pointer (some ⟨w.heap.size, 0, none⟩))) (w.alloc (.cells (cs.map (Lf.conc ν ρ)).toArray el))
  | .upd b cs => (∃ bk, nth hp b = some bk ∧ bk.own = true) ∧ ∀ w, HRel ν ρ hp w → ∃ w', x.run P w = .ok .skip w' ∧ BlkRel ν ρ w' b ⟨true, cs⟩ ∧
      w'.heap.size = w.heap.size ∧ w'.os = w.os ∧ w'.tape = w.tape ∧ w'.output = w.output ∧ ∀ k, k ≠ (ρ b).1 → w'.heap[k]? = w.heap[k]?

theorem ORok.now {ρ : Nat → Nat × Nat} {hp : List (Option Blk)} {x : Sem Next} {v : V} (hg : v.good ν) (h : ∀ w, HRel ν ρ hp w → x.run P w = .ok (.value (v.conc ν ρ)) w) : ORok P I ν ρ hp x (.val v) :=
  fun w hw _ => ⟨hg, .inl (h w hw)⟩

theorem cells_one {v : Value} (h : v.oneCell' = true) : v.cells = #[v] := by
  cases v <;> first | rfl | simp [Value.oneCell'] at h

/-! ### Calls -/
theorem LT.arg_spec {t : LT} {l : Lf} {a : A} (h : t.arg l = some a) (ρ : Nat → Nat × Nat) : l.conc ν ρ = t.conc (a.den ν) := by
  cases t <;> cases l <;> simp [LT.arg] at h
  · obtain ⟨h1, rfl⟩ := h
    have := kEq_eq h1; subst this
    rfl
  · subst h; rfl

theorem argsOf_spec : ∀ {ts : List LT} {ls : List Lf} {as : List A}, argsOf ts ls = some as → as.length = ts.length ∧
    ∀ (ρ : Nat → Nat × Nat) (g : Nat → DV) (j : Nat), (∀ i a, as[i]? = some a → g (j + i) = a.den ν) → ls.map (Lf.conc ν ρ) = leafVals g j ts
  | [], [], as, h => by simp [argsOf] at h; subst h; exact ⟨rfl, fun _ _ _ _ => rfl⟩
  | [], _ :: _, as, h => by simp [argsOf] at h
  | _ :: _, [], as, h => by simp [argsOf] at h
  | t :: ts, l :: ls, as, h => by
    simp only [argsOf] at h
    cases h1 : t.arg l with
    | none => simp [h1] at h
    | some a =>
      simp only [h1] at h
      cases h2 : argsOf ts ls with
      | none => simp [h2] at h
      | some r =>
        simp only [h2, Option.some.injEq] at h
        subst h
        obtain ⟨e1, e2⟩ := argsOf_spec h2
        refine ⟨by simp [e1], fun ρ g j hg => ?_⟩
        simp only [List.map_cons, leafVals]
        rw [LT.arg_spec h1 ρ, e2 ρ g (j + 1) (fun i a hi => by have := hg (i + 1) a (by simpa using hi); rwa [show j + (i + 1) = j + 1 + i from by omega] at this)]
        have := hg 0 a rfl
        simp at this
        rw [this]

theorem shArgs_spec : ∀ {ss : List Sh} {vs : List V} {as : List A}, shArgs ss vs = some as → as.length = nIn ss ∧
    ∀ (ρ : Nat → Nat × Nat) (g : Nat → DV) (j : Nat), (∀ i a, as[i]? = some a → g (j + i) = a.den ν) → vs.map (V.conc ν ρ) = argVals g j ss
  | [], [], as, h => by simp [shArgs] at h; subst h; exact ⟨rfl, fun _ _ _ _ => rfl⟩
  | .one t :: ss, .s (.one l) :: vs, as, h => by
    simp only [shArgs] at h
    cases h1 : t.arg l with
    | none => simp [h1] at h
    | some a =>
      simp only [h1] at h
      cases h2 : shArgs ss vs with
      | none => simp [h2] at h
      | some r =>
        simp only [h2, Option.some.injEq] at h
        subst h
        obtain ⟨e1, e2⟩ := shArgs_spec h2
        refine ⟨by simp [e1, nIn, Sh.lts]; omega, fun ρ g j hg => ?_⟩
        simp only [List.map_cons, argVals]
        rw [e2 ρ g (j + 1) (fun i a hi => by have := hg (i + 1) a (by simpa using hi); rwa [show j + (i + 1) = j + 1 + i from by omega] at this)]
        have := hg 0 a rfl
        simp at this
        rw [this, ← LT.arg_spec h1 ρ]
        rfl
  | .agg ts :: ss, .s (.agg ls) :: vs, as, h => by
    simp only [shArgs] at h
    cases h1 : argsOf ts ls with
    | none => simp [h1] at h
    | some a =>
      simp only [h1] at h
      cases h2 : shArgs ss vs with
      | none => simp [h2] at h
      | some r =>
        simp only [h2, Option.some.injEq] at h
        subst h
        obtain ⟨f1, f2⟩ := argsOf_spec h1
        obtain ⟨e1, e2⟩ := shArgs_spec h2
        refine ⟨by simp [e1, f1, nIn, Sh.lts], fun ρ g j hg => ?_⟩
        simp only [List.map_cons, argVals]
        rw [e2 ρ g (j + ts.length) (fun i b hi => by
          have := hg (a.length + i) b (by rw [List.getElem?_append_right (by omega)]; simpa using hi)
          rwa [f1, show j + (ts.length + i) = j + ts.length + i from by omega] at this)]
        have e3 := f2 ρ g j (fun i b hi => hg i b (by
          rw [List.getElem?_append_left (by exact (List.getElem?_eq_some_iff.1 hi).1)]; exact hi))
        simp only [V.conc, V1.conc, e3]
  | [], _ :: _, as, h => by simp [shArgs] at h
  | .one _ :: _, [], as, h => by simp [shArgs] at h
  | .agg _ :: _, [], as, h => by simp [shArgs] at h
  | .one _ :: _, .s (.agg _) :: _, as, h => by simp [shArgs] at h
  | .one _ :: _, .t _ :: _, as, h => by simp [shArgs] at h
  | .agg _ :: _, .s (.one _) :: _, as, h => by simp [shArgs] at h
  | .agg _ :: _, .t _ :: _, as, h => by simp [shArgs] at h

theorem LT.lf_spec (t : LT) (a : A) (ρ : Nat → Nat × Nat) : (t.lf a).conc ν ρ = t.conc (a.den ν) ∧ (t.lf a).good ν := by
  cases t <;> exact ⟨rfl, trivial⟩

theorem callLeaves_sat {f : Nat} {as : List A} : ∀ (ts : List LT) (j : Nat),
    M.sat F ν (callLeaves f as j ts) (fun l => (∀ x ∈ l, Lf.good ν x) ∧ ∀ ρ, l.map (Lf.conc ν ρ) = leafVals (dget (F f (as.map (A.den ν)))) j ts)
  | [], j => sat_pure ⟨by simp, fun _ => rfl⟩
  | t :: ts, j => by
    unfold callLeaves
    refine sat_bind (sat_emit (Q := fun r => r.den ν = _) fun r h => h) fun r hr => ?_
    refine sat_bind (callLeaves_sat ts (j + 1)) fun l hl => sat_pure ⟨?_, fun ρ => ?_⟩
    · intro x hx
      rcases List.mem_cons.1 hx with rfl | h
      · exact (LT.lf_spec t r (fun _ => (0, 0))).2
      · exact hl.1 x h
    · simp only [List.map_cons, leafVals, hl.2 ρ, (LT.lf_spec t r ρ).1, hr]
      rfl

theorem callShapes_sat {f : Nat} {as : List A} : ∀ (ss : List Sh) (j : Nat),
    M.sat F ν (callShapes f as j ss) (fun l => (∀ x ∈ l, V1.good ν x) ∧ ∀ ρ, l.map (V1.conc ν ρ) = argVals (dget (F f (as.map (A.den ν)))) j ss)
  | [], j => sat_pure ⟨by simp, fun _ => rfl⟩
  | .one t :: ss, j => by
    unfold callShapes
    refine sat_bind (sat_emit (Q := fun r => r.den ν = _) fun r h => h) fun r hr => ?_
    refine sat_bind (callShapes_sat ss (j + 1)) fun l hl => sat_pure ⟨?_, fun ρ => ?_⟩
    · intro x hx
      rcases List.mem_cons.1 hx with rfl | h
      · exact V1.good_one.2 (LT.lf_spec t r (fun _ => (0, 0))).2
      · exact hl.1 x h
    · simp only [List.map_cons, argVals, hl.2 ρ, V1.conc, (LT.lf_spec t r ρ).1, hr]
      rfl
  | .agg ts :: ss, j => by
    unfold callShapes
    refine sat_bind (callLeaves_sat ts j) fun r hr => ?_
    refine sat_bind (callShapes_sat ss (j + ts.length)) fun l hl => sat_pure ⟨?_, fun ρ => ?_⟩
    · intro x hx
      rcases List.mem_cons.1 hx with rfl | h
      · exact V1.good_agg.2 hr.1
      · exact hl.1 x h
    · simp only [List.map_cons, argVals, hl.2 ρ, V1.conc, hr.2 ρ]

theorem wrapResults_conc (l : List V1) (ρ : Nat → Nat × Nat) : (wrapResults l).conc ν ρ = wrapVals (l.map (V1.conc ν ρ)) ∧ ((∀ x ∈ l, V1.good ν x) → (wrapResults l).good ν) := by
  unfold wrapResults wrapVals
  match l with
  | [] => exact ⟨rfl, fun _ => by simp [V.good]⟩
  | [v] => exact ⟨rfl, fun h => h v (by simp)⟩
  | v :: u :: r => exact ⟨rfl, fun h => h⟩

theorem evCall_sat (hS : SigsOK P I S F) {f : FuncId} {vs : List V} : M.sat F ν (evCall P S f vs) (fun v => v.good ν ∧ ∀ ρ w, I w →
    (callFunc f (vs.map (V.conc ν ρ)).toArray).run P w = .ok (.enter f (vs.map (V.conc ν ρ)).toArray) w ∧
    Calls P f (vs.map (V.conc ν ρ)).toArray w (fun e w' => e = .returned (v.conc ν ρ) ∧ Below w.heap.size w w')) := by
  unfold evCall
  refine sat_bind (sat_lift (Q := fun sg => S.get f = some sg) fun a h => h) fun sg hsg => ?_
  refine sat_ite (fun hok => ?_) (fun _ => sat_fail)
  refine sat_bind (sat_lift (Q := fun as => shArgs sg.ps vs = some as) fun a h => h) fun as has => ?_
  obtain ⟨hlen, hargs⟩ := shArgs_spec (ν := ν) has
  have hfn := hS.fns f sg hsg (as.map (A.den ν))
  have hcall : ∀ ρ : Nat → Nat × Nat, vs.map (V.conc ν ρ) = argVals (dget (as.map (A.den ν))) 0 sg.ps := fun ρ => hargs ρ _ 0 (fun i a hi => by simp [dget, List.getD, hi])
  have henter : ∀ (args : Array Value) (w : World), (callFunc f args).run P w = .ok (.enter f args) w := fun args w => by
    unfold calleeOk at hok
    cases hf : P.funcs[f]? with
    | none => simp [hf] at hok
    | some fn =>
      simp only [hf, Bool.and_eq_true, Bool.not_eq_true', beq_eq_false_iff_ne] at hok
      obtain ⟨h1, h2⟩ := hok
      obtain ⟨bd, hb⟩ := Option.isSome_iff_exists.1 h2
      simp [callFunc, hf, h1, hb]
  refine sat_ite (fun hn => ?_) (fun hn => ?_)
  · refine sat_bind (sat_emit (Q := fun r => r.den ν = (F f (as.map (A.den ν))).getD 0 default) fun r h => h) fun r hr => ?_
    refine sat_bind (sat_owe (Q := fun _ => r.bool ν = true) fun h => h) fun _ hr2 => ?_
    refine sat_bind (callShapes_sat sg.rs 1) fun l hl => sat_pure ?_
    refine ⟨(wrapResults_conc l (fun _ => (0, 0))).2 hl.1, fun ρ w hI => ⟨henter _ w, ?_⟩⟩
    rw [hcall ρ, (wrapResults_conc l ρ).1, hl.2 ρ]
    have := hfn w hI (by simpa using hlen) (fun _ => by rw [dget, ← hr]; exact hr2)
    simpa [retVal, hn] using this
  · refine sat_bind (callShapes_sat sg.rs 0) fun l hl => sat_pure ?_
    refine ⟨(wrapResults_conc l (fun _ => (0, 0))).2 hl.1, fun ρ w hI => ⟨henter _ w, ?_⟩⟩
    rw [hcall ρ, (wrapResults_conc l ρ).1, hl.2 ρ]
    have := hfn w hI (by simpa using hlen) (fun h => absurd h hn)
    simpa [retVal, hn] using this

/-! ### Single operations -/
theorem evBinV_sat {op : BinOp} {t : TypeId} {x y : V} (hx : x.good ν) (hy : y.good ν) : M.sat F ν (evBinV P op t x y) (fun v => v.good ν ∧ ∀ (ρ : Nat → Nat × Nat) (w : World), ∀ (xo yo : Operand),
    (eqGuard op t xo yo (x.conc ν ρ) (y.conc ν ρ)).run P w = .ok () w ∧ (binOp op t (x.conc ν ρ) (y.conc ν ρ)).run P w = .ok (v.conc ν ρ) w) := by
  have hgi : ∀ (op : BinOp) (xo yo : Operand) (k k' : IntKind) (a b : Int) (w : World), (eqGuard op t xo yo (.int k a) (.int k' b)).run P w = .ok () w := by
    intro op xo yo k k' a b w; cases op <;> simp [eqGuard]
  have hgb : ∀ (op : BinOp) (xo yo : Operand) (a b : Bool) (w : World), (eqGuard op t xo yo (.bool a) (.bool b)).run P w = .ok () w := by
    intro op xo yo a b w; cases op <;> simp [eqGuard]
  unfold evBinV
  split
  · exact sat_bind (sat_pull fun ρ w => evShift_sat (ρ := ρ) (w := w) t) fun l hl => sat_pure ⟨V1.good_one.2 hl.1, fun ρ w xo yo => ⟨hgi _ _ _ _ _ _ _ w, hl.2 ρ w⟩⟩
  · exact sat_bind (sat_pull fun ρ w => evShift_sat (ρ := ρ) (w := w) t) fun l hl => sat_pure ⟨V1.good_one.2 hl.1, fun ρ w xo yo => ⟨hgi _ _ _ _ _ _ _ w, hl.2 ρ w⟩⟩
  · rename_i k a k' b hne1 hne2
    refine sat_ite (fun hk => ?_) (fun _ => sat_fail)
    have := kEq_eq hk; subst this
    have e1 : op ≠ .shl := fun h => hne1 h
    have e2 : op ≠ .shr := fun h => hne2 h
    exact sat_bind (sat_pull fun ρ w => evBin_sat (ρ := ρ) (w := w) e1 e2 t) fun l hl => sat_pure ⟨V1.good_one.2 hl.1, fun ρ w xo yo => ⟨hgi _ _ _ _ _ _ _ w, hl.2 ρ w⟩⟩
  · rename_i a b
    refine sat_bind (sat_lift (Q := fun k => tk P t = some k) fun a h => h) fun k hk => ?_
    split
    · exact sat_bind (sat_pull fun ρ w => evBoolOp_sat (ρ := ρ) (w := w) t (tk_bool hk)) fun l hl => sat_pure ⟨V1.good_one.2 hl.1, fun ρ w xo yo => ⟨hgb _ _ _ _ _ w, hl.2 ρ w⟩⟩
    · exact sat_fail
  · rename_i a b
    refine sat_bind (sat_lift (Q := fun k => tk P t = some k) fun a h => h) fun k hk => ?_
    split
    · exact sat_bind (sat_pull fun ρ w => evBoolOp_sat (ρ := ρ) (w := w) t (tk_bool hk)) fun l hl => sat_pure ⟨V1.good_one.2 hl.1, fun ρ w xo yo => ⟨hgb _ _ _ _ _ w, hl.2 ρ w⟩⟩
    · exact sat_fail
  · refine sat_ite (fun _ => sat_fail) (fun hgt => ?_)
    refine sat_bind (evEq_sat 8 t _ _ hx hy) fun r hr => sat_pure ⟨V1.good_one.2 trivial, fun ρ w xo yo => ⟨?_, ?_⟩⟩
    · exact run_eqGuard_agg w _ t xo yo _ _ (by simpa using hgt)
    · have := hr ρ 9992 w
      simp only [V.conc, V1.conc] at this ⊢
      rw [run_eql_struct, this]
      rfl
  · refine sat_ite (fun _ => sat_fail) (fun hgt => ?_)
    refine sat_bind (evEq_sat 8 t _ _ hx hy) fun r hr => sat_bind mkNot_sat fun r2 hr2 => sat_pure ⟨V1.good_one.2 trivial, fun ρ w xo yo => ⟨?_, ?_⟩⟩
    · exact run_eqGuard_agg w _ t xo yo _ _ (by simpa using hgt)
    · have := hr ρ 9992 w
      simp only [V.conc, V1.conc] at this ⊢
      rw [run_neq_struct, this]
      simp [Lf.conc, hr2]
  · exact sat_fail
end
end Go.Sx
