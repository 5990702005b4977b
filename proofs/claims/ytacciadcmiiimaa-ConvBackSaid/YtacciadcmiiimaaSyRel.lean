/- What the evaluator's states say of the model's. -/
import Derived.Test.YtacciadcmiiimaaSyStore
namespace Go.Sx
open Go.RowKit

abbrev dget (l : List DV) (i : Nat) : DV := l.getD i default

/-- A package-level variable's cells stand in the world. -/
def GlobIn (w : World) (g : Nat) (cs : List Lf) : Prop :=
  g < w.heap.size ∧ ∀ i l, cs[i]? = some l → ∀ ν ρ, l.good ν ∧ w.cell? ⟨g, i, none⟩ = some (l.conc ν ρ)

theorem GlobIn.below {w w' : World} {g : Nat} {cs : List Lf} (hb : Below w.heap.size w w') (h : GlobIn w g cs) : GlobIn w' g cs :=
  ⟨Nat.lt_of_lt_of_le h.1 hb.size, fun i l hi ν ρ => ⟨(h.2 i l hi ν ρ).1, by rw [← (h.2 i l hi ν ρ).2]; exact hb.cell h.1⟩⟩

/-- The blocks, and what was before. -/
structure HS (E : Env) (ν : Nat → DV) (ρ : Nat → Loc) (hp : List (Option Blk)) (w : World) : Prop where
  heap : HRel E ν ρ hp w
  old : OldF E.W E.V E.w0 ρ hp
  fr : Fr E.W E.w0 w
  len : E.n0 ≤ hp.length
  keep : ∀ j, j < E.n0 → ρ j = E.ρ0 j

/-- Of the blocks that go in. -/
def callEnv (hin : List (Option Blk)) (ρ : Nat → Loc) (w : World) : Env :=
  ⟨fun b => ∃ j bk, nth hin j = some bk ∧ bk.own = true ∧ (ρ j).nil = false ∧ (ρ j).blk = b,
   fun b => ∃ j bk, nth hin j = some bk ∧ bk.own = false ∧ (ρ j).nil = false ∧ (ρ j).blk = b, w, hin.length, ρ⟩

def Sig.hinI (sg : Sig) : List (Option Blk) := sg.hin.map (Option.map (Blk.inst (idsFrom 0 sg.nin)))
def Sig.insI (sg : Sig) : List V := sg.ins.map (V.inst (idsFrom 0 sg.nin))
def Sig.houtI (sg : Sig) : List (Option Blk) := sg.hout.map (Option.map (Blk.inst (idsFrom 0 sg.ots.length)))
def Sig.outI (sg : Sig) : V := sg.out.inst (idsFrom 0 sg.ots.length)
/-- The results' values. -/
def Sig.res (sg : Sig) (ds : List DV) : Nat → DV := fun j => dget ds (j + if sg.need then 1 else 0)

/-- What a call leaves behind. -/
structure CallOut (sg : Sig) (ds : List DV) (ρ : Nat → Loc) (w : World) (v : Value) (ρ' : Nat → Loc) (w' : World) : Prop where
  val : v = sg.outI.conc (sg.res ds) ρ'
  good : sg.outI.good (sg.res ds)
  heap : HRel (callEnv sg.hinI ρ w) (sg.res ds) ρ' sg.houtI w'
  old : OldF (callEnv sg.hinI ρ w).W (callEnv sg.hinI ρ w).V w ρ' sg.houtI
  fr : Fr (callEnv sg.hinI ρ w).W w w'
  keep : ∀ j, stays sg.hin j = true → j < sg.hout.length → ρ' j = ρ j

/-- What is known of a called function; the blocks below K are the package-level variables. -/
def FnOK (P : Program) (I : World → Prop) (K : Nat) (f : FuncId) (sg : Sig) (G : List DV → List DV) : Prop :=
  ∀ (ds : List DV) (ρ : Nat → Loc) (w : World), I w → ds.length = sg.nin → (sg.need = true → (dget (G ds) 0).toB = true) →
    K ≤ w.heap.size → (∀ b, (callEnv sg.hinI ρ w).W b → K ≤ b) → (∀ v ∈ sg.insI, V.good (dget ds) v) → HRel (callEnv sg.hinI ρ w) (dget ds) ρ sg.hinI w →
    Calls P f (sg.insI.map (V.conc (dget ds) ρ)).toArray w (fun e w' => ∃ v ρ', e = .returned v ∧ CallOut sg (G ds) ρ w v ρ' w')

structure SigsOK (P : Program) (I : World → Prop) (K : Nat) (S : Sigs) (F : FEnv) : Prop where
  fns : ∀ f sg, S.get f = some sg → FnOK P I K f sg (F f)
  globs : ∀ g cs, assoc S.gs g = some cs → ∀ w, I w → GlobIn w g cs

/-- What may be written lies behind the package-level variables. -/
def Env.Ok (E : Env) (K : Nat) : Prop := K ≤ E.w0.heap.size ∧ ∀ b, E.W b → K ≤ b

section
variable {P : Program} {I : World → Prop} {S : Sigs} {F : FEnv} {E : Env} {ν : Nat → DV}

structure ARel (ν : Nat → DV) (ρ : Nat → Loc) (r : RS) (a : Act) : Prop where
  defers : a.defers = []
  size : a.tmps.size = r.st.sl.length
  slot : ∀ t v, nth r.st.sl t = some v → v.good ν ∧ a.tmps[t]? = some (v.conc ν ρ)
  gl : ∀ e ∈ r.gl, (a.tmps[e.d]? = some (.bool e.want) → e.v.good ν ∧ a.tmps[e.t]? = some (e.v.conc ν ρ)) ∧ (a.tmps[e.d]? ≠ some (.bool e.want) → a.tmps[e.t]? = some undef)

def CtxOk (ctx : Ctx) (a : Act) : Prop := ∀ p ∈ ctx, a.tmps[p.1]? = some (.bool p.2)

theorem Ctx.has_spec : ∀ {ctx : Ctx} {d : Nat} {w : Bool}, ctx.has d w = true → (d, w) ∈ ctx
  | [], _, _, h => by simp [Ctx.has] at h
  | (d, w) :: r, d', w', h => by
    simp only [Ctx.has, Bool.or_eq_true, Bool.and_eq_true] at h
    rcases h with ⟨h1, h2⟩ | h
    · have := Nat.eq_of_beq_eq_true h1; subst this
      have := beqB_eq h2; subst this
      simp
    · exact List.mem_cons_of_mem _ (Ctx.has_spec h)

theorem glFind_spec {ctx : Ctx} {t : Nat} : ∀ {l : List GE} {v : V}, glFind ctx t l = some v → ∃ e ∈ l, e.t = t ∧ e.v = v ∧ (e.d, e.want) ∈ ctx
  | [], v, h => by simp [glFind] at h
  | e :: r, v, h => by
    simp only [glFind] at h
    split at h
    · rename_i hc
      simp only [Bool.and_eq_true] at hc
      cases h
      exact ⟨e, by simp, Nat.eq_of_beq_eq_true hc.1, rfl, Ctx.has_spec hc.2⟩
    · obtain ⟨e', h1, h2⟩ := glFind_spec h
      exact ⟨e', List.mem_cons_of_mem _ h1, h2⟩

theorem slot_spec {ρ : Nat → Loc} {r : RS} {a : Act} {ctx : Ctx} (h : ARel ν ρ r a) (hc : CtxOk ctx a) {t : Nat} {v : V} (hv : r.slot ctx t = some v) : v.good ν ∧ a.tmps[t]? = some (v.conc ν ρ) := by
  unfold RS.slot at hv
  split at hv
  · cases hv; exact h.slot t _ ‹_›
  · obtain ⟨e, he, rfl, rfl, hctx⟩ := glFind_spec hv
    exact (h.gl e he).1 (hc (e.d, e.want) hctx)

theorem ofLeaf_spec {x : Value} {l : Lf} (h : ofLeaf x = some l) : l.good ν ∧ ∀ ρ, l.conc ν ρ = x := by
  unfold ofLeaf at h
  split at h <;> first | (cases h; exact ⟨trivial, fun _ => rfl⟩) | cases h

theorem allSome_spec {α β : Type} {f : α → Option β} : ∀ {l : List α} {r : List β}, allSome f l = some r → r.length = l.length ∧ ∀ (i : Nat) b, r[i]? = some b → ∃ a, l[i]? = some a ∧ f a = some b
  | [], r, h => by simp [allSome] at h; subst h; exact ⟨rfl, fun i b hb => by simp at hb⟩
  | a :: l, r, h => by
    simp only [allSome] at h
    cases hf : f a with
    | none => simp [hf] at h
    | some b =>
      simp only [hf] at h
      cases hr : allSome f l with
      | none => simp [hr] at h
      | some r' =>
        simp only [hr, Option.some.injEq] at h
        subst h
        obtain ⟨h1, h2⟩ := allSome_spec hr
        refine ⟨by simp [h1], fun i b' hb => ?_⟩
        cases i with
        | zero => simp at hb; subst hb; exact ⟨a, rfl, hf⟩
        | succ i => exact h2 i b' (by simpa using hb)

theorem ofLeaves_spec {l : List Value} {r : List Lf} (h : allSome ofLeaf l = some r) : (∀ x ∈ r, x.good ν) ∧ ∀ ρ, r.map (Lf.conc ν ρ) = l := by
  obtain ⟨h1, h2⟩ := allSome_spec h
  refine ⟨fun x hx => ?_, fun ρ => ?_⟩
  · obtain ⟨i, hi, rfl⟩ := List.mem_iff_getElem.1 hx
    obtain ⟨a, _, ha⟩ := h2 i _ (List.getElem?_eq_getElem hi)
    exact (ofLeaf_spec ha).1
  · apply List.ext_getElem?
    intro i
    by_cases hi : i < r.length
    · obtain ⟨a, ha1, ha2⟩ := h2 i _ (List.getElem?_eq_getElem hi)
      simp [List.getElem?_eq_getElem hi, ha1, (ofLeaf_spec (ν := ν) ha2).2 ρ]
    · rw [List.getElem?_eq_none (by simpa using hi), List.getElem?_eq_none (by omega)]

theorem ofConst_spec {x : Value} {v : V1} (h : ofConst x = some v) : v.good ν ∧ ∀ ρ, v.conc ν ρ = x := by
  unfold ofConst at h
  split at h
  · obtain ⟨r, hr, rfl⟩ := Option.map_eq_some_iff.1 h
    have := ofLeaves_spec (ν := ν) hr
    exact ⟨V1.good_agg.2 this.1, fun ρ => by simp [V1.conc, this.2 ρ]⟩
  · obtain ⟨r, hr, rfl⟩ := Option.map_eq_some_iff.1 h
    have := ofLeaf_spec (ν := ν) hr
    exact ⟨V1.good_one.2 this.1, fun ρ => this.2 ρ⟩

theorem rd_spec {ρ : Nat → Loc} {r : RS} {a : Act} {ctx : Ctx} (h : ARel ν ρ r a) (hc : CtxOk ctx a) {x : Operand} {v : V} (hv : rd r ctx x = some v) : v.good ν ∧ a.eval x = v.conc ν ρ := by
  cases x with
  | tmp t =>
    have := slot_spec h hc (show r.slot ctx t = some v from hv)
    exact ⟨this.1, by simp [Act.eval, this.2]⟩
  | const c =>
    simp only [rd] at hv
    obtain ⟨u, hu, rfl⟩ := Option.map_eq_some_iff.1 hv
    have := ofConst_spec (ν := ν) hu
    exact ⟨this.1, (this.2 ρ).symm⟩
  | func f =>
    simp only [rd, Option.some.injEq] at hv
    subst hv
    exact ⟨V.good_s.2 (V1.good_one.2 (show True from trivial)), rfl⟩
  | global g =>
    simp only [rd, Option.some.injEq] at hv
    subst hv
    exact ⟨V.good_s.2 (V1.good_one.2 trivial), by simp [V.conc, V1.conc, Lf.conc, Off.val, Act.eval]⟩


/-- A code's state. -/
structure RR (ν : Nat → DV) (E : Env) (ρ : Nat → Loc) (r : RS) (a : Act) (w : World) : Prop where
  act : ARel ν ρ r a
  hs : HS E ν ρ r.st.hp w

theorem HS.of_below {ρ : Nat → Loc} {hp : List (Option Blk)} {w w' : World} (h : HS E ν ρ hp w) (hb : Below w.heap.size w w') : HS E ν ρ hp w' :=
  ⟨h.heap.of_below hb, h.old, h.fr.trans (Fr.of_below hb), h.len, h.keep⟩
theorem RR.below {ρ : Nat → Loc} {r : RS} {a : Act} {w w' : World} (h : RR ν E ρ r a w) (hb : Below w.heap.size w w') : RR ν E ρ r a w' := ⟨h.act, h.hs.of_below hb⟩

/-- The run of an operation ends in a value: at once, or by a call that leaves the old memory as it was. -/
def RunsVal (P : Program) (x : Sem Next) (w : World) (v : Value) : Prop :=
  x.run P w = .ok (.value v) w ∨ ∃ f args, x.run P w = .ok (.enter f args) w ∧ Calls P f args w (fun e w' => e = .returned v ∧ Below w.heap.size w w')
/-- The run of an operation ends as K says. -/
def RunsTo (P : Program) (x : Sem Next) (w : World) (K : Option Value → World → Prop) : Prop :=
  (∃ v w', x.run P w = .ok (.value v) w' ∧ K (some v) w') ∨ (∃ w', x.run P w = .ok .skip w' ∧ K none w') ∨
  ∃ f args, x.run P w = .ok (.enter f args) w ∧ Calls P f args w (fun e w' => ∃ v, e = .returned v ∧ K (some v) w')

def ORok (P : Program) (I : World → Prop) (E : Env) (ν : Nat → DV) (ρ : Nat → Loc) (hp : List (Option Blk)) (x : Sem Next) : OR → Prop
  | .val v => ∀ w, HS E ν ρ hp w → I w → v.good ν ∧ RunsVal P x w (v.conc ν ρ)
  | .hp v hp' => ∀ w, HS E ν ρ hp w → I w → RunsTo P x w fun nv w' => ∃ ρ' : Nat → Loc, (∀ j, j < hp.length → ρ' j = ρ j) ∧ HS E ν ρ' hp' w' ∧ ∀ u, v = some u → u.good ν ∧ nv = some (u.conc ν ρ')

theorem ORok.now {ρ : Nat → Loc} {hp : List (Option Blk)} {x : Sem Next} {v : V} (hg : v.good ν) (h : ∀ w, HS E ν ρ hp w → x.run P w = .ok (.value (v.conc ν ρ)) w) : ORok P I E ν ρ hp x (.val v) :=
  fun w hw _ => ⟨hg, .inl (h w hw)⟩

theorem cells_one {v : Value} (h : v.oneCell' = true) : v.cells = #[v] := by
  cases v <;> first | rfl | simp [Value.oneCell'] at h
end
end Go.Sx
