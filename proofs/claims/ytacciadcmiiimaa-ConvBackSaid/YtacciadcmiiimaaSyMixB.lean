/- Regions whose order is drawn, with stores among operations that look at no memory: the evaluator agrees with the model. -/
import Derived.Test.YtacciadcmiiimaaSyMix
namespace Go.Sx
open Go.RowKit
section
variable {P : Program} {I : World → Prop} {S : Sigs} {F : FEnv} {E : Env} {gK : Nat} {ν : Nat → DV}

theorem sat_all {α ι : Type} {x : M α} {Q : ι → α → Prop} (h : ∀ i, M.sat F ν x (Q i)) : M.sat F ν x (fun a => ∀ i, Q i a) :=
  fun n a n' e d h1 h2 h3 i => h i n a n' e d h1 h2 h3

def RS.withHp (r : RS) (hp : List (Option Blk)) : RS := ⟨⟨r.st.sl, hp⟩, r.gl⟩
theorem rd_withHp (r : RS) (hp : List (Option Blk)) (ctx : Ctx) (x : Operand) : rd (r.withHp hp) ctx x = rd r ctx x := by cases x <;> rfl
theorem ARel.withHp {ρ : Nat → Loc} {r : RS} {a : Act} (h : ARel ν ρ r a) (hp : List (Option Blk)) : ARel ν ρ (r.withHp hp) a := ⟨h.defers, h.size, h.slot, h.gl⟩
theorem ARel.ofHp {ρ : Nat → Loc} {r : RS} {a : Act} {hp : List (Option Blk)} (h : ARel ν ρ (r.withHp hp) a) : ARel ν ρ r a := ⟨h.defers, h.size, h.slot, h.gl⟩

/-- The blocks that are not written stand. -/
def Agree (fx : List Nat) (hp0 hp : List (Option Blk)) : Prop := ∀ b, memN b fx = false → nth hp b = nth hp0 b
theorem lift_congr {α β : Type} {o : Option α} {f g : α → M β} (h : ∀ a, o = some a → f a = g a) : (M.lift o >>= f) = (M.lift o >>= g) := by
  cases o with
  | none => rfl
  | some a =>
    have := h a rfl
    change M.bind (M.lift (some a)) f = M.bind (M.lift (some a)) g
    unfold M.bind M.lift
    simp only [this]
    rfl

/-- Operations that look at no block but those that stand. -/
def plainOp : Op → Bool
  | .indexAddr _ _ _ | .call _ => false
  | _ => true
theorem rdAll_withHp (r : RS) (hp : List (Option Blk)) (ctx : Ctx) : ∀ l, rdAll (r.withHp hp) ctx l = rdAll r ctx l
  | [] => rfl
  | x :: l => by simp only [rdAll, rd_withHp, rdAll_withHp r hp ctx l]
theorem rdParts_withHp (r : RS) (hp : List (Option Blk)) (ctx : Ctx) : ∀ l, rdParts (r.withHp hp) ctx l = rdParts r ctx l
  | [] => rfl
  | x :: l => by simp only [rdParts, rd_withHp, rdParts_withHp r hp ctx l]
theorem evOp_withHp {fx : List Nat} {r : RS} {hp : List (Option Blk)} (hag : Agree fx r.st.hp hp) {ctx : Ctx} {op : Op} (h : pureOp op = true) (h2 : plainOp op = true) (hq : quietIn fx r ctx op = true) : evOp P S (r.withHp hp) ctx op = evOp P S r ctx op := by
  cases op <;> simp only [pureOp] at h <;> simp only [plainOp] at h2 <;> first | (simp only [evOp, rd_withHp, rdParts_withHp, evPick]; done) | contradiction | skip
  rename_i t x
  simp only [evOp, rd_withHp]
  refine lift_congr fun v hv => ?_
  split
  · rename_i b off
    have hb : memN b fx = false := by
      simp only [quietIn, hv] at hq
      simpa using hq
    have := hag b hb
    show (do let k ← M.lift (tk P t); let sz ← M.lift (tsize P t); match ← M.lift (nth hp b) with | .c _ cs => pure (.val (.s (← loadCells cs off (isAggT k) sz))) | .v _ ts a => pure (.val (.s (← loadRow ts a off (isAggT k) sz))) : M OR) = _
    rw [this]
    rfl
  · rfl
  · rfl

/-- What is known of where blocks stand: the next one at N. -/
def Hyp (E : Env) (ν : Nat → DV) (N : Nat) (hp : List (Option Blk)) (ρ : Nat → Loc) : Prop := (∃ w0, HS E ν ρ hp w0) ∧ (ρ hp.length).blk = N ∧ (ρ hp.length).off = 0

theorem pure_sat (hS : SigsOK P I gK S F) (hE : E.Ok gK) {N : Nat} {fx : List Nat} {r : RS} {ctx : Ctx} {o : Oper} (hp : pureOp o.op = true) : M.sat F ν (evOpQ P S fx r ctx o.op) (fun res => ∀ hp' : List (Option Blk), Agree fx r.st.hp hp' → ∀ ρ a, Hyp E ν N r.st.hp ρ → ARel ν ρ r a → CtxOk ctx a →
    ORok P I E ν ρ hp' (execOp a.eval o) res) := by
  unfold evOpQ
  refine sat_ite (fun hq => ?_) (fun _ => sat_fail)
  cases hpl : plainOp o.op with
  | true =>
    refine sat_all fun hp' n a n' e d h1 h2 h3 hag => ?_
    have := evOp_sat (E := E) (F := F) (ν := ν) hS hE (r := r.withHp hp') (ctx := ctx) (o := o)
    rw [evOp_withHp hag hp hpl hq] at this
    exact fun ρ a' _ ha hc => this n a n' e d h1 h2 h3 ρ a' (ha.withHp hp') hc
  | false =>
    cases hop : o.op <;> rw [hop] at hpl hp <;> simp only [plainOp] at hpl <;> first | cases hpl | skip
    · rename_i t x ix
      simp only [evOp]
      refine sat_bind (sat_lift (Q := fun v => rd r ctx x = some v) fun a h => h) fun v hv => ?_
      refine sat_bind (sat_lift (Q := fun v => rd r ctx ix = some v) fun a h => h) fun u hu => ?_
      split
      · rename_i b i
        refine sat_bind (evIndexRow_sat (E := E)) fun z hz => sat_pure fun hp' _ ρ a ⟨⟨w0, hw0⟩, _⟩ ha hc w hw _ => ?_
        have h1 := rd_spec ha hc hv
        have h2 := rd_spec ha hc hu
        refine ⟨V1.good_one.2 hz.1, .inl ?_⟩
        have := hz.2 ρ w0 w hw0
        simp only [V.conc, V1.conc] at h1 h2 ⊢
        simp only [Lf.conc] at h1
        simp [execOp, hop, h1.2, h2.2, this]
      · rename_i l i _
        by_cases hg : l.good ν
        · refine sat_bind (evIndexAddr_sat hg) fun z hz => sat_pure fun hp' _ ρ a _ ha hc => ?_
          have h1 := rd_spec ha hc hv
          have h2 := rd_spec ha hc hu
          refine ORok.now (V1.good_one.2 hz.1) fun w _ => ?_
          have := hz.2 ρ w
          simp only [V.conc, V1.conc] at h1 h2 ⊢
          simp [execOp, hop, h1.2, h2.2, this]
        · refine sat_bind sat_true fun z _ => sat_pure fun hp' _ ρ a _ ha hc => ?_
          exact absurd (V1.good_one.1 (rd_spec ha hc hv).1) hg
      · exact sat_fail
    · rename_i c
      simp only [pureOp] at hp
      split at hp
      · rename_i hf
        simp only [evOp, hf]
        refine sat_bind (sat_lift (Q := fun vs => rdAll r ctx c.args.toList = some vs) fun a h => h) fun vs hvs => ?_
        have hargs : ∀ ρ a, ARel ν ρ r a → CtxOk ctx a → c.args.map a.eval = (vs.map (V.conc ν ρ)).toArray := fun ρ a ha hc => by
          apply Array.ext'
          simpa using rdAll_spec ha hc hvs
        split
        · rename_i he; cases he
        · rename_i he; cases he
        · rename_i v _
          refine sat_bind (sat_lift (Q := fun t => c.argTypes[0]? = some t) fun a h => h) fun t ht => ?_
          refine sat_bind (evLen_sat (E := E)) fun z hz => sat_pure fun hp' _ ρ a ⟨⟨w0, hw0⟩, _⟩ ha hc w hw _ => ⟨hz.1, .inl ?_⟩
          have := hz.2 ρ w0 w o.type c.argTypes ht hw0
          simp [execOp, hop, resolve, hf, hargs ρ a ha hc, invoke, builtin, this]
        · rename_i he; cases he
        · exact sat_fail
      · cases hp

/-- One value, whichever of these heaps stands. -/
def QuietAll (P : Program) (ν : Nat → DV) (E : Env) (N : Nat) (fx : List Nat) (ops : Array Oper) (o : Oper) (r r' : RS) : Prop :=
  r'.st.hp = r.st.hp ∧ ∀ ρ a, Hyp E ν N r.st.hp ρ → ARel ν ρ r a → ∀ C : World → Prop, (∀ w, C w → ∃ hp, HS E ν ρ hp w ∧ Agree fx r.st.hp hp) → (∀ w w', C w → Below w.heap.size w w' → C w') → (∃ w, C w) →
    if Region.wanted o (yielded ops a.tmps) = true then ∃ v, (∀ w, C w → o.quietAt P a C w v) ∧ ARel ν ρ r' (a.put o.dst v) else ARel ν ρ r' (a.put o.dst undef)

theorem quietAll_of {o : Oper} {a : Act} {v : Value} {C : World → Prop} (hB : ∀ w w', C w → Below w.heap.size w w' → C w')
    (h : ∀ w, C w → RunsVal P (execOp a.eval o) w v) : ∀ w, C w → o.quietAt P a C w v := by
  intro w hw
  unfold Oper.quietAt
  rcases h w hw with h | ⟨f, args, h, hc⟩
  · rw [h]; exact ⟨rfl, rfl⟩
  · rw [h]
    exact ⟨rfl, hc.mono fun e w'' ⟨he, hb⟩ => ⟨he, hB w w'' hw hb⟩⟩

theorem stepOR_all (hI : ∀ w, Fr E.W E.w0 w → I w) {N : Nat} {fx : List Nat} {ops : Array Oper} {o : Oper} {r : RS} {x : OR} (hw : ∀ ρ a, ARel ν ρ r a → Region.wanted o (yielded ops a.tmps) = true)
    (hx : ∀ hp', Agree fx r.st.hp hp' → ∀ ρ a, Hyp E ν N r.st.hp ρ → ARel ν ρ r a → ORok P I E ν ρ hp' (execOp a.eval o) x) : M.sat F ν (stepOR true r o.dst x) (QuietAll P ν E N fx ops o r) := by
  cases x with
  | val v =>
    refine sat_mono put_sat fun r' hr' => ⟨hr'.1, fun ρ a hh0 ha C hC hB hex => ?_⟩
    rw [if_pos (hw ρ a ha)]
    refine ⟨v.conc ν ρ, quietAll_of hB fun w hw1 => ?_, hr'.2 ρ a _ ha fun v' hv' => ?_⟩
    · obtain ⟨hp, hh, hag⟩ := hC w hw1
      exact (hx hp hag ρ a hh0 ha w hh (hI w hh.fr)).2
    · obtain ⟨w, hw1⟩ := hex
      obtain ⟨hp, hh, hag⟩ := hC w hw1
      cases hv'; exact ⟨(hx hp hag ρ a hh0 ha w hh (hI w hh.fr)).1, rfl⟩
  | hp v hp' => unfold stepOR; simp only [Bool.not_true, Bool.false_and, Bool.false_eq_true, if_false]; exact sat_fail

theorem stepORg_all (hI : ∀ w, Fr E.W E.w0 w → I w) {N : Nat} {fx : List Nat} {ops : Array Oper} {o : Oper} {r : RS} {d : Nat} {want : Bool} {x : OR} (hw : ∀ (a : Act), Region.wanted o (yielded ops a.tmps) = true ↔ a.tmps[d]? = some (.bool want))
    (hx : ∀ hp', Agree fx r.st.hp hp' → ∀ ρ a, Hyp E ν N r.st.hp ρ → ARel ν ρ r a → a.tmps[d]? = some (.bool want) → ORok P I E ν ρ hp' (execOp a.eval o) x) : M.sat F ν (stepORg r o.dst d want x) (QuietAll P ν E N fx ops o r) := by
  cases x with
  | val v =>
    refine sat_mono putG_sat fun r' hr' => ⟨hr'.1, fun ρ a hh0 ha C hC hB hex => ?_⟩
    by_cases hg : Region.wanted o (yielded ops a.tmps) = true
    · rw [if_pos hg]
      have hd := (hw a).1 hg
      refine ⟨v.conc ν ρ, quietAll_of hB fun w hw1 => ?_, hr'.2 ρ a _ ha (fun _ => ?_) (fun hn => absurd hd hn)⟩
      · obtain ⟨hp, hh, hag⟩ := hC w hw1
        exact (hx hp hag ρ a hh0 ha hd w hh (hI w hh.fr)).2
      · obtain ⟨w, hw1⟩ := hex
        obtain ⟨hp, hh, hag⟩ := hC w hw1
        exact ⟨(hx hp hag ρ a hh0 ha hd w hh (hI w hh.fr)).1, rfl⟩
    · rw [if_neg hg]
      have hd : a.tmps[d]? ≠ some (.bool want) := fun h => hg ((hw a).2 h)
      exact hr'.2 ρ a _ ha (fun h => absurd h hd) (fun _ => rfl)
  | hp v hp' => exact sat_fail

theorem nopN_pure {N : Nat} {o : Oper} (h : pureOp o.op = true) : nopN N o = o := by
  unfold nopN
  have h1 : storeOp o.op = false := by cases hop : o.op <;> rw [hop] at h <;> simp [pureOp, storeOp] at h ⊢
  have h2 : allocOp o.op = false := by cases hop : o.op <;> rw [hop] at h <;> simp [pureOp, allocOp] at h ⊢
  simp [h1, h2]
theorem evOper_all (hS : SigsOK P I gK S F) (hE : E.Ok gK) (hI : ∀ w, Fr E.W E.w0 w → I w) {N : Nat} {fx : List Nat} {ops ops' : Array Oper} (hdst : ∀ j : Nat, (ops[j]?).bind (·.dst) = (ops'[j]?).bind (·.dst)) {r : RS} {o : Oper} (hp : pureOp o.op = true ∨ allocOp o.op = true) :
    M.sat F ν (evOperM P S fx ops.toList r o) (QuietAll P ν E N fx ops' (nopN N o) r) := by
  unfold evOperM
  refine sat_ite (fun hal => sat_ite (fun hg => ?_) (fun _ => sat_fail)) (fun hal => ?_)
  · have hg : o.guard = none := by simpa using hg
    refine sat_mono put_sat fun r' hr' => ⟨hr'.1, fun ρ a hh0 ha C hC hB hex => ?_⟩
    have hst : storeOp o.op = false := by cases hop : o.op <;> rw [hop] at hal <;> simp [storeOp, allocOp] at hal ⊢
    have e1 : nopN N o = { o with op := .move (.const (.pointer (some ⟨N, 0, none⟩))) } := by unfold nopN; simp [hst, hal]
    rw [if_pos (by rw [e1]; simp [Region.wanted, hg])]
    rw [e1]
    refine ⟨.pointer (some ⟨N, 0, none⟩), fun w hw => ?_, hr'.2 ρ a _ ha fun v hv => ?_⟩
    · unfold Oper.quietAt
      simp [execOp, Act.eval, Oper.quietUpon]
    · cases hv
      refine ⟨V1.good_one.2 trivial, ?_⟩
      simp [V.conc, V1.conc, Lf.conc, hh0.2.1, hh0.2.2, Off.val]
  have hp : pureOp o.op = true := by
    rcases hp with h | h
    · exact h
    · exact absurd h hal
  rw [nopN_pure hp]
  split
  · rename_i hg
    refine sat_bind (pure_sat (E := E) hS hE hp) fun x hx => stepOR_all hI (fun ρ a _ => by simp [Region.wanted, hg]) fun hp' hag ρ a hh0 ha => hx hp' hag ρ a hh0 ha (fun p hp => by simp at hp)
  · rename_i j want hg
    refine sat_bind (sat_lift (Q := fun d => (ops'[j]?).bind (·.dst) = some d) fun a h => by rw [← hdst j]; simpa using h) fun d hd => ?_
    refine sat_bind (sat_lift (Q := fun res => guardInfo r 8 d want = some res) fun a h => h) fun res hres => ?_
    have hwd : ∀ (a : Act), Region.wanted o (yielded ops' a.tmps) = true ↔ a.tmps[d]? = some (.bool want) := fun a => wanted_spec hg hd
    split
    · refine sat_mono put_sat fun r' hr' => ⟨hr'.1, fun ρ a _ ha C _ _ _ => ?_⟩
      have hn : a.tmps[d]? ≠ some (.bool want) := guardInfo_spec ha 8 d want hres
      rw [if_neg (fun h => hn ((hwd a).1 h))]
      exact hr'.2 ρ a _ ha (fun v hv => by cases hv)
    · rename_i ctx cs
      split
      · refine sat_bind (pure_sat (E := E) hS hE hp) fun x hx => stepOR_all hI (fun ρ a ha => ?_) fun hp' hag ρ a hh0 ha => hx hp' hag ρ a hh0 ha (fun p hp => by simp at hp)
        have := guardInfo_spec ha 8 d want hres
        exact (hwd a).2 (this.2.1 rfl)
      · refine sat_bind (sat_underAll (pure_sat (E := E) (N := N) hS hE hp (ctx := ctx))) fun x hx => ?_
        have hx2 : ∀ hp', Agree fx r.st.hp hp' → ∀ ρ a, Hyp E ν N r.st.hp ρ → ARel ν ρ r a → a.tmps[d]? = some (.bool want) → ORok P I E ν ρ hp' (execOp a.eval o) x := fun hp' hag ρ a hh0 ha hd' => by
          have := (guardInfo_spec ha 8 d want hres).1 hd'
          exact hx this.2 hp' hag ρ a hh0 ha this.1
        cases x with
        | val v => exact stepORg_all hI hwd hx2
        | hp v hp' => exact sat_fail

theorem evOpers_all (hS : SigsOK P I gK S F) (hE : E.Ok gK) (hI : ∀ w, Fr E.W E.w0 w → I w) {N : Nat} {fx : List Nat} {ops ops' : Array Oper} (hdst : ∀ j : Nat, (ops[j]?).bind (·.dst) = (ops'[j]?).bind (·.dst)) : ∀ (l : List Oper) (r : RS), (∀ o ∈ l, pureOp o.op = true ∨ allocOp o.op = true) → M.sat F ν (evOpersM P S fx ops.toList l r) (fun r' =>
    ∀ ρ a, Hyp E ν N r.st.hp ρ → ARel ν ρ r a → ∀ C : World → Prop, (∀ w, C w → ∃ hp, HS E ν ρ hp w ∧ Agree fx r.st.hp hp) → (∀ w w', C w → Below w.heap.size w w' → C w') → (∃ w, C w) → wpQuiet P ops' C (fun a' => ARel ν ρ r' a') (l.map (nopN N)) a)
  | [], r, _ => sat_pure fun ρ a _ h _ _ _ _ => h
  | o :: l, r, hl => by
    unfold evOpersM
    refine sat_bind (evOper_all (E := E) (N := N) (ops := ops) hS hE hI hdst (hl o (by simp))) fun r1 h1 => sat_mono (evOpers_all (N := N) hS hE hI hdst l r1 (fun o ho => hl o (List.mem_cons_of_mem _ ho))) fun r' h2 => ?_
    intro ρ a hh0 ha C hC hB hex
    obtain ⟨hhp, h1⟩ := h1
    rw [hhp] at h2
    have := h1 ρ a hh0 ha C hC hB hex
    simp only [List.map_cons, wpQuiet]
    split
    · rename_i hw
      rw [if_pos hw] at this
      obtain ⟨v, h3, h4⟩ := this
      exact ⟨v, h3, h2 ρ _ hh0 h4 C hC hB hex⟩
    · rename_i hw
      rw [if_neg hw] at this
      exact h2 ρ _ hh0 this C hC hB hex

/-! ### Operations that enter nothing -/
def NE (P : Program) (m : Sem Next) : Prop := ∀ (w : World) (g : FuncId) (args : Array Value) (w' : World), m.run P w ≠ .ok (.enter g args) w'
theorem NE.bind {α : Type} {m : Sem α} {f : α → Sem Next} (h : ∀ x, NE P (f x)) : NE P (m >>= f) := by
  intro w g args w'
  rw [Sem.run_bind]
  cases m.run P w with
  | halt x w1 => intro h; cases h
  | ok x w1 => exact h x w1 g args w'
theorem NE.value (v : Value) : NE P (pure (.value v)) := fun w g args w' h => by cases h
theorem NE.ite {c : Prop} [Decidable c] {x y : Sem Next} (hx : NE P x) (hy : NE P y) : NE P (if c then x else y) := by split <;> assumption
theorem NE.panic : NE P (runtimePanic .nilDeref) := fun w g args w' h => by simp [runtimePanic, goPanic] at h
theorem pure_noEnter {o : Oper} (h : pureOp o.op = true) (a : Act) (w : World) (f : FuncId) (args : Array Value) (w' : World) : (execOp a.eval o).run P w ≠ .ok (.enter f args) w' := by
  have key : NE P (execOp a.eval o) := by
    cases hop : o.op <;> rw [hop] at h <;> simp only [pureOp] at h <;> simp only [execOp, hop] <;> first | exact NE.value _ | exact NE.bind fun x => NE.value _ | cases h | skip
    · split <;> first | exact NE.panic | exact NE.value _ | skip
      split <;> first | exact NE.panic | exact NE.value _ | skip
      exact NE.bind fun x => NE.bind fun y => NE.ite (NE.bind fun z => NE.value _) (NE.value _)
    · rename_i c
      split at h
      · rename_i hf
        intro w g args w'
        rw [Sem.run_bind]
        simp only [resolve, hf, Sem.run_pure, Result.andThen_ok, invoke, builtin]
        exact (NE.bind fun x => NE.value _ : NE P _) w g args w'
      · cases h
  exact key w f args w'

/-! ### The region -/
theorem nopN_cases (N : Nat) (o : Oper) : nopN N o = o ∨ ∃ op, nopN N o = { o with op := op } := by
  unfold nopN
  split
  · exact .inr ⟨_, rfl⟩
  · split
    · exact .inr ⟨_, rfl⟩
    · exact .inl rfl
theorem nopN_after (N : Nat) (o : Oper) : (nopN N o).after = o.after := by
  rcases nopN_cases N o with h | ⟨op, h⟩ <;> rw [h]
theorem nopN_dst (N : Nat) (o : Oper) : (nopN N o).dst = o.dst := by
  rcases nopN_cases N o with h | ⟨op, h⟩ <;> rw [h]
theorem nopN_guard (N : Nat) (o : Oper) : (nopN N o).guard = o.guard := by
  rcases nopN_cases N o with h | ⟨op, h⟩ <;> rw [h]
theorem nop_dst (o : Oper) : (nop o).dst = o.dst := by unfold nop; split <;> rfl
theorem nopN_same {N : Nat} {o : Oper} (h : stateOp o.op = false) : nopN N o = o := by
  unfold stateOp at h
  rw [Bool.or_eq_false_iff] at h
  unfold nopN
  simp [h.1, h.2]
theorem nop_kinds {o : Oper} (h : pureOp o.op = true ∨ stateOp o.op = true) : pureOp (nop o).op = true ∨ allocOp (nop o).op = true := by
  unfold nop
  split
  · exact .inl rfl
  · rename_i hs
    rcases h with h | h
    · exact .inl h
    · unfold stateOp at h
      rw [Bool.or_eq_true] at h
      rcases h with h | h
      · exact absurd h hs
      · exact .inr h
theorem nopN_nop (N : Nat) (o : Oper) : nopN N (nop o) = nopN N o := by
  unfold nop
  split
  · rename_i hs
    have e : nopN N o = { o with op := .move (.const (.bool false)) } := by unfold nopN; rw [if_pos hs]
    rw [e]
    rfl
  · rfl
theorem looks_nopN (N : Nat) {ops1 ops2 : Array Oper} (h : ∀ j : Nat, (ops1[j]?).bind (·.dst) = (ops2[j]?).bind (·.dst)) (o : Oper) : (nopN N o).looksAt ops1 = (nopN 0 o).looksAt ops2 := by
  unfold Oper.looksAt
  rw [nopN_guard, nopN_guard]
  congr 1
  · unfold nopN
    repeat' split
    all_goals rfl
  · cases o.guard with
    | none => rfl
    | some p => simp only [h p.1]
theorem apart_nopN (N : Nat) {ops1 ops2 : Array Oper} (h : ∀ j : Nat, (ops1[j]?).bind (·.dst) = (ops2[j]?).bind (·.dst)) (x y : Oper) : (nopN N x).apart ops1 (nopN N y) = (nopN 0 x).apart ops2 (nopN 0 y) := by
  unfold Oper.apart
  rw [nopN_dst, nopN_dst, nopN_dst, nopN_dst, looks_nopN N h, looks_nopN N h]
theorem lexB_nopN (N : Nat) (l : List Oper) : Region.lexB .any (l.map (nopN N)).toArray = Region.lexB .any (l.map (nopN 0)).toArray := by
  have hat : ∀ (M j : Nat), ((l.map (nopN M)).toArray)[j]? = (l[j]?).map (nopN M) := fun M j => by simp
  have hd : ∀ j : Nat, (((l.map (nopN N)).toArray)[j]?).bind (·.dst) = (((l.map (nopN 0)).toArray)[j]?).bind (·.dst) := fun j => by
    rw [hat, hat]
    cases l[j]? with
    | none => rfl
    | some o => simp [nopN_dst]
  have hready : ∀ listed, Region.ready .any (l.map (nopN N)).toArray listed = Region.ready .any (l.map (nopN 0)).toArray listed := fun listed => by
    unfold Region.ready
    rw [show (l.map (nopN N)).toArray.size = (l.map (nopN 0)).toArray.size from by simp]
    refine List.filter_congr fun j _ => ?_
    rw [hat, hat]
    cases l[j]? with
    | none => rfl
    | some o => simp only [Option.map_some, nopN_after]
  have hfree : ∀ listed i, Region.free .any (l.map (nopN N)).toArray listed i = Region.free .any (l.map (nopN 0)).toArray listed i := fun listed i => by
    unfold Region.free
    rw [hat, hat]
    cases l[i]? with
    | none => rfl
    | some oi =>
      simp only [Option.map_some]
      rw [show (l.map (nopN N)).toArray.size = (l.map (nopN 0)).toArray.size from by simp]
      congr 1
      funext j
      rw [hat, hat]
      cases l[j]? with
      | none => rfl
      | some oj => simp only [Option.map_some, nopN_after, apart_nopN N hd]
  have hlex : ∀ (fuel k : Nat) (listed : Array Bool), Region.lexFrom .any (l.map (nopN N)).toArray fuel k listed = Region.lexFrom .any (l.map (nopN 0)).toArray fuel k listed := by
    intro fuel
    induction fuel with
    | zero => intro k listed; simp only [Region.lexFrom, hready]
    | succ fuel ih => intro k listed; simp only [Region.lexFrom, hready, hfree, ih]
  unfold Region.lexB
  rw [hlex, show (l.map (nopN N)).toArray.size = (l.map (nopN 0)).toArray.size from by simp]
  congr 1
  unfold Region.noSelect
  simp only [List.all_toArray, List.all_map]
  congr 1
  funext o
  simp only [Function.comp]
  have key : nopN N o = nopN 0 o ∨ ∃ x y, (nopN N o).op = .move x ∧ (nopN 0 o).op = .move y := by
    by_cases h1 : storeOp o.op = true
    · left
      unfold nopN
      rw [if_pos h1, if_pos h1]
    · by_cases h2 : allocOp o.op = true
      · right
        unfold nopN
        rw [if_neg h1, if_pos h2, if_neg h1, if_pos h2]
        exact ⟨_, _, rfl, rfl⟩
      · left
        unfold nopN
        rw [if_neg h1, if_neg h2, if_neg h1, if_neg h2]
  rcases key with h | ⟨x, y, h1, h2⟩
  · rw [h]
  · rw [h1, h2]

theorem memN_false {b j : Nat} {fx : List Nat} (hb : memN b fx = true) (hj : memN j fx = false) : j ≠ b := fun e => by subst e; rw [hb] at hj; cases hj
theorem evStores_sat {fx : List Nat} (sl : List (Option V)) (gl : List GE) : ∀ (l : List Oper) (hp : List (Option Blk)), M.sat F ν (evStores P S fx sl gl l hp) (fun hp' => ∃ hps : Nat → List (Option Blk), hps 0 = hp ∧ hps l.length = hp' ∧ (∀ k, k ≤ l.length → Agree fx hp (hps k)) ∧
    (∀ o t, l[0]? = some o → o.op = .alloc t → hpLt hp = true ∧ ∀ ρ w, HS E ν ρ hp w → ∀ a : Act, ∃ w', (execOp a.eval o).run P w = .ok (.value (.pointer (some ⟨w.heap.size, 0, none⟩))) w' ∧ HS E ν (ext ρ hp.length ⟨w.heap.size, 0, false, 0, 0⟩) (hps 1) w') ∧
    ∀ k o, l[k]? = some o → storeOp o.op = true → ∀ ρ a, ARel ν ρ ⟨⟨sl, []⟩, gl⟩ a → ∀ w, HS E ν ρ (hps k) w → ∃ w', (execOp a.eval o).run P w = .ok .skip w' ∧ HS E ν ρ (hps (k + 1)) w')
  | [], hp => sat_pure ⟨fun _ => hp, rfl, rfl, fun _ _ _ _ => rfl, fun o t h => by simp at h, fun k o h => by simp at h⟩
  | o :: l, hp => by
    unfold evStores
    split
    · rename_i t x y hop
      refine sat_bind (sat_lift (Q := fun v => rd ⟨⟨sl, hp⟩, gl⟩ [] x = some v) fun a h => h) fun v hv => ?_
      split
      · rename_i b off
        refine sat_ite (fun hb => ?_) (fun _ => sat_fail)
        refine sat_bind (sat_and (evStore_sat (E := E) hop) (evStore_at hv)) fun hp1 h1 => sat_mono (evStores_sat sl gl l hp1) fun hp' ⟨hps, e1, e2, e4, _, e3⟩ => ?_
        refine ⟨fun k => match k with | 0 => hp | k + 1 => hps k, rfl, e2, fun k hk j hj => ?_, fun o' t' ho' hot' => (by simp at ho'; subst ho'; rw [hop] at hot'; cases hot'), fun k o' hk hst ρ a ha w hw => ?_⟩
        · cases k with
          | zero => rfl
          | succ k =>
            have := e4 k (by simpa using hk) j hj
            simp only
            rw [this]
            exact h1.2 j (memN_false hb hj)
        · cases k with
          | zero =>
            simp at hk; subst hk
            obtain ⟨w', g1, g2⟩ := h1.1 ρ a ⟨ha.defers, ha.size, ha.slot, ha.gl⟩ (fun p hp => by simp at hp) w hw
            exact ⟨w', g1, by simp only; rw [e1]; exact g2⟩
          | succ k => exact e3 k o' (by simpa using hk) hst ρ a ha w hw
      · exact sat_fail
    · rename_i t hop
      refine sat_bind (sat_lift (Q := fun v => zeroCells P t = some v) fun a h => h) fun z hz => ?_
      refine sat_ite (fun hc => ?_) (fun _ => sat_fail)
      simp only [Bool.and_eq_true] at hc
      obtain ⟨⟨⟨hb, _⟩, hlt⟩, hzl⟩ := hc
      refine sat_mono (evStores_sat sl gl l _) fun hp' ⟨hps, e1, e2, e4, e5, e3⟩ => ?_
      refine ⟨fun k => match k with | 0 => hp | k + 1 => hps k, rfl, e2, fun k hk j hj => ?_, fun o' t' ho' hot' => ?_, fun k o' hk hst ρ a ha w hw => ?_⟩
      · cases k with
        | zero => rfl
        | succ k =>
          have := e4 k (by simpa using hk) j hj
          simp only
          rw [this, nth_append]
          have hne := memN_false hb hj
          split
          · rfl
          · rename_i hjl
            have : j - hp.length ≠ 0 := by omega
            cases hk2 : j - hp.length with
            | zero => omega
            | succ m =>
              have : nth hp j = none := by
                cases hn : nth hp j with
                | none => rfl
                | some x => exact absurd (nth_lt hn) hjl
              rw [this]
              cases m <;> rfl
      · simp at ho'
        subst ho'
        rw [hop] at hot'
        cases hot'
        refine ⟨hlt, fun ρ w hw a => ?_⟩
        obtain ⟨i, zv, hi, hzv, hzg, hzc⟩ := zeroCells_spec (ν := ν) hz
        have hnew := hw.new hlt hzl hzg t
        rw [← hzc ρ] at hnew
        refine ⟨w.alloc (.cells zv.cells t), ?_, by simp only; rw [e1]; exact hnew⟩
        simp [execOp, hop, Instr.alloc, zeroValue, typeInfo, hi, hzv, newVar, newRow]
      · cases k with
        | zero => simp at hk; subst hk; rw [hop] at hst; cases hst
        | succ k => exact e3 k o' (by simpa using hk) hst ρ a ha w hw
    · exact sat_fail

theorem storeAt_spec (ops : List Oper) : ∀ i, i ∈ storeAt ops ↔ ∃ o, ops[i]? = some o ∧ stateOp o.op = true := by
  intro i
  unfold storeAt
  rw [List.mem_map]
  constructor
  · rintro ⟨⟨o, j⟩, h, rfl⟩
    obtain ⟨h1, h2⟩ := List.mem_filter.1 h
    exact ⟨o, (List.mem_zipIdx_iff_getElem?.1 h1), h2⟩
  · rintro ⟨o, h1, h2⟩
    exact ⟨(o, i), List.mem_filter.2 ⟨List.mem_zipIdx_iff_getElem?.2 h1, h2⟩, rfl⟩

theorem storeAt_at : ∀ (ops : List Oper) (n : Nat), ((ops.zipIdx n).filter fun p => stateOp p.1.op).map (·.1) = ops.filter fun o => stateOp o.op
  | [], _ => rfl
  | o :: l, n => by
    rw [List.zipIdx_cons, List.filter_cons, List.filter_cons]
    split
    · rw [List.map_cons, storeAt_at l (n + 1)]
    · exact storeAt_at l (n + 1)
theorem stores_eq (ops : List Oper) (k i : Nat) (h : (storeAt ops)[k]? = some i) : ∃ o, ops[i]? = some o ∧ (ops.filter fun o => stateOp o.op)[k]? = some o := by
  unfold storeAt at h
  rw [List.getElem?_map] at h
  obtain ⟨⟨o, j⟩, h1, rfl⟩ := Option.map_eq_some_iff.1 h
  refine ⟨o, ?_, ?_⟩
  · have := (List.mem_filter.1 (List.mem_of_getElem? h1)).1
    exact List.mem_zipIdx_iff_getElem?.1 this
  · have := storeAt_at ops 0
    rw [← this, List.getElem?_map, h1]
    rfl

theorem sorted_lt : ∀ {l : List Nat}, sorted l = true → ∀ p q i j : Nat, p < q → l[p]? = some i → l[q]? = some j → i < j
  | [], _, p, q, i, j, _, hi, _ => by simp at hi
  | [a], _, p, q, i, j, hpq, hi, hj => by
    have : q < 1 := by
      rcases Nat.lt_or_ge q 1 with h | h
      · exact h
      · rw [List.getElem?_eq_none (by simpa using h)] at hj; cases hj
    omega
  | a :: b :: l, h, p, q, i, j, hpq, hi, hj => by
    simp only [sorted, Bool.and_eq_true] at h
    have h1 : a < b := by simpa [Nat.blt_eq] using h.1
    cases q with
    | zero => omega
    | succ q =>
      simp only [List.getElem?_cons_succ] at hj
      cases p with
      | succ p => exact sorted_lt h.2 p q i j (by omega) (by simpa using hi) hj
      | zero =>
        simp at hi; subst hi
        cases q with
        | zero => simp at hj; subst hj; exact h1
        | succ q => exact Nat.lt_trans h1 (sorted_lt h.2 0 (q + 1) b j (by omega) rfl hj)

theorem sub1_spec {l m : List Nat} (h : sub1 l m = true) : ∀ x ∈ l, x ∈ m := fun x hx => memN_mem (List.all_eq_true.1 h x hx)
theorem mem_memN {n : Nat} : ∀ {l : List Nat}, n ∈ l → memN n l = true
  | x :: l, h => by
    rcases List.mem_cons.1 h with rfl | h
    · simp [memN]
    · simp [memN, mem_memN h]

theorem backB_ok' {ops : List Oper} (h : backB ops = true) : BackOk .any ops.toArray := by
  intro i o ho
  have ho' : ops[i]? = some o := by simpa using ho
  have hm : (o, i) ∈ ops.zipIdx := by
    rw [List.mem_zipIdx_iff_getElem?]
    exact ho'
  have := List.all_eq_true.1 h _ hm
  simp only [Bool.and_eq_true] at this
  refine ⟨fun e he hbd => ?_, fun j b hg => ?_⟩
  · have h1 := this.1
    have := Array.all_eq_true_iff_forall_mem.1 h1 e he
    simpa [Nat.blt_eq, hbd] using this
  · have h2 := this.2
    rw [hg] at h2
    simpa [Nat.blt_eq] using h2

theorem eval_of_tmps {a a' : Act} {x : Operand} (h : ∀ t ∈ tmpOf x, a'.tmps[t]? = a.tmps[t]?) : a.eval x = a'.eval x := by
  cases x with
  | tmp t => simp only [Act.eval, Array.getD_eq_getD_getElem?]; rw [h t (by simp [tmpOf])]
  | _ => rfl

theorem evMixedAt_sat (hS : SigsOK P I gK S F) (hE : E.Ok gK) (hI : ∀ w, Fr E.W E.w0 w → I w) {fx : List Nat} {ops : Array Oper} {s : St} (hm : mixOk ops.toList = true) (hB : Region.lexB .any (ops.toList.map (nopN 0)).toArray = true) (hback : backB ops.toList = true) :
    M.sat F ν (evMixedAt P S fx ops.toList s) (fun s' => ∀ ρ a w, RR ν E ρ ⟨s, []⟩ a w → ∀ Q : Exit → Act → World → Prop, (∀ ρ' a' w', RR ν E ρ' ⟨s', []⟩ a' w' → Q .normal a' w') →
      wpAny P .any ops Q ops.size (Array.replicate ops.size false) a w) := by
  simp only [mixOk, Bool.and_eq_true] at hm
  obtain ⟨⟨⟨hkinds, hsorted⟩, hanc⟩, hfirst⟩ := hm
  have hk : ∀ o ∈ ops.toList, pureOp o.op = true ∨ (stateOp o.op = true ∧ o.guard = none ∧ (allocOp o.op = true ∨ o.dst = none)) := fun o ho => by
    have := List.all_eq_true.1 hkinds o ho
    simp only [Bool.or_eq_true, Bool.and_eq_true, Option.isNone_iff_eq_none] at this
    rcases this with h | ⟨⟨h1, h2⟩, h3⟩
    · exact .inl h
    · exact .inr ⟨h1, h2, h3⟩
  unfold evMixedAt
  refine sat_ite (fun hchk => ?_) (fun _ => sat_fail)
  simp only [Bool.and_eq_true] at hchk
  have hdd : ∀ (N j : Nat), (((ops.toList.map nop).toArray)[j]?).bind (·.dst) = (((ops.toList.map (nopN N)).toArray)[j]?).bind (·.dst) := fun N j => by
    have e1 : ((ops.toList.map nop).toArray)[j]? = (ops[j]?).map nop := by simp
    have e2 : ((ops.toList.map (nopN N)).toArray)[j]? = (ops[j]?).map (nopN N) := by simp
    rw [e1, e2]
    cases ops[j]? with
    | none => rfl
    | some o => simp [nop_dst, nopN_dst]
  have hops := sat_all fun N => evOpers_all (E := E) (F := F) (ν := ν) hS hE hI (N := N) (fx := fx) (ops := (ops.toList.map nop).toArray) (ops' := (ops.toList.map (nopN N)).toArray) (hdd N) (ops.toList.map nop) ⟨s, []⟩ (fun o ho => by
    obtain ⟨o', h1, rfl⟩ := List.mem_map.1 ho
    exact nop_kinds (by rcases hk o' h1 with h | h; exact .inl h; exact .inr h.1))
  simp only at hops
  refine sat_bind hops fun r hr => sat_bind (evStores_sat (E := E) r.st.sl r.gl _ s.hp) fun hp' ⟨hps, e1, e2, e4, e5, e3⟩ => sat_pure fun ρ a w hrr Q hQ => ?_
  generalize hN : w.heap.size = N
  have ha1 : ARel ν (ext ρ s.hp.length ⟨N, 0, false, 0, 0⟩) ⟨s, []⟩ a := hrr.act.ext (fun j hj => ext_lt hj) hchk.1 (by simp) s.hp
  have hs1 : HS E ν (ext ρ s.hp.length ⟨N, 0, false, 0, 0⟩) s.hp w := hrr.hs.reloc hchk.2 (fun j hj => ext_lt hj)
  have hn1 : ext ρ s.hp.length ⟨N, 0, false, 0, 0⟩ s.hp.length = ⟨N, 0, false, 0, 0⟩ := ext_same _ _ _
  have hee : ext (ext ρ s.hp.length ⟨N, 0, false, 0, 0⟩) s.hp.length ⟨N, 0, false, 0, 0⟩ = ext ρ s.hp.length ⟨N, 0, false, 0, 0⟩ := by
    funext j
    simp only [ext]
    split <;> rfl
  generalize ext ρ s.hp.length ⟨N, 0, false, 0, 0⟩ = ρ1 at *
  have hr := hr N
  rw [List.map_map, show nopN N ∘ nop = nopN N from funext fun o => nopN_nop N o] at hr
  have hsz : (ops.toList.map (nopN N)).toArray.size = ops.size := by simp
  have hat : ∀ j : Nat, (ops.toList.map (nopN N)).toArray[j]? = (ops[j]?).map (nopN N) := fun j => by simp
  have hlen : (storeAt ops.toList).length = (ops.toList.filter fun o => stateOp o.op).length := by
    have := congrArg List.length (storeAt_at ops.toList 0)
    simp only [List.length_map] at this
    unfold storeAt
    simpa using this
  have hget : ∀ (i : Nat) (o : Oper), ops[i]? = some o → ops.toList[i]? = some o := fun i o h => by simpa using h
  have hmem : ∀ (i : Nat) (o : Oper), ops[i]? = some o → o ∈ ops.toList := fun i o h => List.mem_of_getElem? (hget i o h)
  have hancs : ∀ (i : Nat) (o : Oper), i ∈ storeAt ops.toList → ops[i]? = some o → sub1 ((storeAt ops.toList).filter fun j => Nat.blt j i) (reachFrom ops.toList i (depsOf o)) = true ∧
      ops.toList.zipIdx.all (dstOk (reachFrom ops.toList i (depsOf o)) (storeTmps o.op)) = true := fun i o hi ho => by
    have := List.all_eq_true.1 hanc i hi
    unfold mixAt at this
    rw [hget i o ho] at this
    simpa only [Bool.and_eq_true] using this
  refine wpAny_mixed (ops' := (ops.toList.map (nopN N)).toArray) (st := storeAt ops.toList) (C := fun w => ∃ k, k ≤ (ops.toList.filter fun o => stateOp o.op).length ∧ HS E ν ρ1 (hps k) w) (D := fun k w => HS E ν ρ1 (hps k) w ∧ (k = 0 → w.heap.size = N)) (Qf := fun a' => ARel ν ρ1 r a')
    (by have := backB_ok' hback; simpa using this) (fun listed => ?_) (fun j => ?_) (fun i hi => ?_) (fun i hi => ?_) (fun k w hk h => ⟨k, by rw [← hlen]; exact hk, h.1⟩) (fun i o hi ho => ?_) (fun p q i j hpq hi hj listed hcl hrd => ?_) (fun i o hi ho listed hcl hrd t ht j o' ho' hd' => ?_)
    (fun k i o o' hki ho ho' => ?_) (fun a1 w1 ha1 hw1 => ?_) ops.size _ a w 0 (by simp) (fun i o _ hl => ?_) (Nat.zero_le _) (fun p i hp => by omega) (fun p i _ _ => ?_) ⟨by rw [e1]; exact hs1, fun _ => hN⟩ ?_
  · unfold Region.ready
    rw [hsz]
    refine List.filter_congr fun j _ => ?_
    rw [hat j]
    cases ops[j]? with
    | none => rfl
    | some o => simp only [Option.map_some, nopN_after]
  · rw [hat j]
    cases ops[j]? with
    | none => rfl
    | some o => simp [nopN_dst]
  · rw [hat i]
    cases ho : ops[i]? with
    | none => rfl
    | some o =>
      have : stateOp o.op = false := by
        cases h : stateOp o.op with
        | false => rfl
        | true => exact absurd ((storeAt_spec _ i).2 ⟨o, hget i o ho, h⟩) hi
      simp [nopN_same this]
  · obtain ⟨o, h1, h2⟩ := (storeAt_spec _ i).1 hi
    have h1' : ops[i]? = some o := by simpa using h1
    rcases hk o (List.mem_of_getElem? h1) with h | h
    · exfalso
      cases hop : o.op <;> rw [hop] at h h2 <;> simp [pureOp, stateOp, storeOp, allocOp] at h h2
    · exact ⟨o, nopN N o, h1', by rw [hat i, h1']; rfl, h.2.1, by rw [nopN_dst], by rw [nopN_guard]; exact h.2.1⟩
  · rcases hk o (hmem i o ho) with h | h
    · exact fun a w f args w' => pure_noEnter h a w f args w'
    · exact absurd ((storeAt_spec _ i).2 ⟨o, hget i o ho, h.1⟩) hi
  · obtain ⟨o, h1, h2⟩ := (storeAt_spec _ j).1 (List.mem_of_getElem? hj)
    have h1' : ops[j]? = some o := by simpa using h1
    have hs := (hancs j o (List.mem_of_getElem? hj) h1').1
    refine anc_listed hcl h1' hrd i (sub1_spec hs i (List.mem_filter.2 ⟨List.mem_of_getElem? hi, ?_⟩))
    have := sorted_lt hsorted p q i j hpq hi hj
    simpa [Nat.blt_eq] using this
  · have hs := (hancs i o hi ho).2
    have := List.all_eq_true.1 hs (o', j) (List.mem_zipIdx_iff_getElem?.2 (hget j o' ho'))
    simp only [dstOk, hd', Bool.or_eq_true, Bool.not_eq_true'] at this
    rcases this with h | h
    · rw [mem_memN ht] at h; cases h
    · exact anc_listed hcl ho hrd j (memN_mem h)
  · obtain ⟨o2, h1, h2⟩ := stores_eq ops.toList k i hki
    rw [hget i o ho] at h1; cases h1
    rw [hat i, ho] at ho'
    cases ho'
    have hst2 : stateOp o.op = true := (List.mem_filter.1 (List.mem_of_getElem? h2)).2
    have hkk := hk o (hmem i o ho)
    cases hso : storeOp o.op with
    | true =>
      left
      have hal : allocOp o.op = false := by cases hop : o.op <;> rw [hop] at hso <;> simp [storeOp, allocOp] at hso ⊢
      refine ⟨?_, fun a1 a2 ha2 htm w1 hw1 => ?_⟩
      · rcases hkk with h | ⟨_, _, h | h⟩
        · exfalso
          cases hop : o.op <;> rw [hop] at h hso <;> simp [pureOp, storeOp] at h hso
        · rw [hal] at h; cases h
        · exact h
      obtain ⟨w', g1, g2⟩ := e3 k o h2 hso ρ1 a2 ⟨ha2.defers, ha2.size, ha2.slot, ha2.gl⟩ w1 hw1.1
      refine ⟨w', ?_, g2, fun h => by omega⟩
      rw [← g1]
      congr 1
      cases hop : o.op <;> rw [hop] at hso <;> simp only [storeOp] at hso <;> first | cases hso | skip
      rename_i t x y
      rw [hop] at htm
      have hx : a1.eval x = a2.eval x := eval_of_tmps fun t ht => htm t (by simp [storeTmps, ht])
      have hy : a1.eval y = a2.eval y := eval_of_tmps fun t ht => htm t (by simp [storeTmps, ht])
      simp only [execOp, hop, hx, hy]
    | false =>
      right
      have hal : allocOp o.op = true := by unfold stateOp at hst2; rw [hso, Bool.false_or] at hst2; exact hst2
      have hk0 : k = 0 := by
        rcases Nat.eq_zero_or_pos k with h | h
        · exact h
        · have h3 : ((ops.toList.filter fun o => stateOp o.op).drop 1)[k - 1]? = some o := by
            rw [List.getElem?_drop, show 1 + (k - 1) = k from by omega]
            exact h2
          have := List.all_eq_true.1 hfirst o (List.mem_of_getElem? h3)
          rw [hso] at this; cases this
      subst hk0
      cases hop : o.op <;> rw [hop] at hal <;> simp only [allocOp] at hal <;> first | cases hal | skip
      rename_i t
      obtain ⟨_, h5⟩ := e5 o t h2 hop
      refine ⟨.pointer (some ⟨N, 0, none⟩), fun a0 w0 => ?_, fun a0 w1 hw1 => ?_⟩
      · have en : (nopN N o).op = .move (.const (.pointer (some ⟨N, 0, none⟩))) := by
          unfold nopN
          rw [if_neg (by rw [hso]; decide), if_pos (by rw [hop]; rfl)]
        simp [execOp, en, Act.eval]
      · have hw2 := hw1.1
        rw [e1] at hw2
        obtain ⟨w', g1, g2⟩ := h5 ρ1 w1 hw2 a0
        rw [hw1.2 rfl] at g1 g2
        rw [hee] at g2
        exact ⟨w', g1, g2, fun h => by omega⟩
  · refine hQ ρ1 a1 w1 ⟨⟨ha1.defers, ha1.size, ha1.slot, fun e he => by cases he⟩, ?_⟩
    have hw1 := hw1.1
    rw [hlen, e2] at hw1
    exact hw1
  · have h0 : (Array.replicate ops.size false).getD i false = false := by
      rw [Array.getD_eq_getD_getElem?]
      rcases Nat.lt_or_ge i ops.size with h | h
      · rw [Array.getElem?_eq_getElem (by simpa using h)]; simp
      · rw [Array.getElem?_eq_none (by simpa using h)]; rfl
    rw [h0] at hl; cases hl
  · rw [Array.getD_eq_getD_getElem?]
    rcases Nat.lt_or_ge i ops.size with h | h
    · rw [Array.getElem?_eq_getElem (by simpa using h)]; simp
    · rw [Array.getElem?_eq_none (by simpa using h)]; rfl
  · have hwq := hr ρ1 a ⟨⟨w, hs1⟩, by rw [hn1], by rw [hn1]⟩ ha1 (fun w => ∃ k, k ≤ (ops.toList.filter fun o => stateOp o.op).length ∧ HS E ν ρ1 (hps k) w) (fun w ⟨k, hk, h⟩ => ⟨hps k, h, e4 k hk⟩) (fun w w' ⟨k, hk, h⟩ hb => ⟨k, hk, h.of_below hb⟩) ⟨w, 0, Nat.zero_le _, by rw [e1]; exact hs1⟩
    rw [← lexB_nopN N] at hB
    simp only [Region.lexB, Bool.and_eq_true] at hB
    have := wpAnyQ_lex (P := P) (C := fun w => ∃ k, k ≤ (ops.toList.filter fun o => stateOp o.op).length ∧ HS E ν ρ1 (hps k) w) (md := .any) hB.1 (ops.toList.map (nopN N)) 0 (Array.replicate (ops.toList.map (nopN N)).toArray.size false) a (by simp) (by simpa using hB.2) hwq
    simpa using this
theorem evMixed_sat (hS : SigsOK P I gK S F) (hE : E.Ok gK) (hI : ∀ w, Fr E.W E.w0 w → I w) {ops : Array Oper} {s : St} (hm : mixOk ops.toList = true) (hB : Region.lexB .any (ops.toList.map (nopN 0)).toArray = true) (hback : backB ops.toList = true) :
    M.sat F ν (evMixed P S ops.toList s) (fun s' => ∀ ρ a w, RR ν E ρ ⟨s, []⟩ a w → ∀ Q : Exit → Act → World → Prop, (∀ ρ' a' w', RR ν E ρ' ⟨s', []⟩ a' w' → Q .normal a' w') →
      wpAny P .any ops Q ops.size (Array.replicate ops.size false) a w) := by
  intro n a n' e d h1 h2 h3
  unfold evMixed at h1
  exact evMixedAt_sat (E := E) hS hE hI hm hB hback n a n' e d h1 h2 h3
end
end Go.Sx
