/- Regions whose order is drawn, with stores among operations that look at no memory: the evaluator agrees with the model. -/
import Derived.Test.YtkpbkanbpjfadaaF1
namespace Go.Sx
open Go.RowKit
section
variable {P : Program} {I : World → Prop} {S : Sigs} {F : FEnv} {E : Env} {gK : Nat} {ν : Nat → DV}

theorem sat_all {α ι : Type} {x : M α} {Q : ι → α → Prop} (h : ∀ i, M.sat F ν x (Q i)) : M.sat F ν x (fun a => ∀ i, Q i a) :=
  fun n a n' e d h1 h2 h3 i => h i n a n' e d h1 h2 h3

def RS.withHp (r : RS) (hp : List (Option Blk)) : RS := ⟨⟨r.st.sl, hp⟩, r.gl⟩
theorem rd_withHp (r : RS) (hp : List (Option Blk)) (ctx : Ctx) (x : Operand) : rd (r.withHp hp) ctx x = rd r ctx x := by cases x <;> rfl
theorem ARel.withHp {ρ : Nat → Loc} {r : RS} {a : Act} (h : ARel ν ρ r a) (hp : List (Option Blk)) : ARel ν ρ (r.withHp hp) a := ⟨h.defers, h.size, h.slot, h.gl⟩
def Agree (fx : List Nat) (hp0 hp : List (Option Blk)) : Prop := ∀ b, memN b fx = false → nth hp b = nth hp0 b
theorem lift_congr {α β : Type} {o : Option α} {f g : α → M β} (h : ∀ a, o = some a → f a = g a) : (M.lift o >>= f) = (M.lift o >>= g) := by
  cases o with
  | none => rfl
  | some a =>
    have := h a rfl
    change M.bind (M.lift (some a)) f = M.bind (M.lift (some a)) g
    unfold M.bind M.lift
    simp only [this]
    rfl

def plainOp : Op → Bool
  | .indexAddr _ _ _ | .call _ => false
  | _ => true
theorem rdParts_withHp (r : RS) (hp : List (Option Blk)) (ctx : Ctx) : ∀ l, rdParts (r.withHp hp) ctx l = rdParts r ctx l
  | [] => rfl
  | x :: l => by simp only [rdParts, rd_withHp, rdParts_withHp r hp ctx l]
theorem evOp_withHp {fx : List Nat} {r : RS} {hp : List (Option Blk)} (hag : Agree fx r.st.hp hp) {ctx : Ctx} {op : Op} (h : pureOp op = true) (h2 : plainOp op = true) (hq : quietIn fx r ctx op = true) : evOp P S (r.withHp hp) ctx op = evOp P S r ctx op := by
  cases op <;> simp only [pureOp] at h <;> simp only [plainOp] at h2 <;> first | (simp only [evOp, rd_withHp, rdParts_withHp, evPick]; done) | contradiction | skip
  rename_i t x
  simp only [evOp, rd_withHp]
  refine lift_congr fun v hv => ?_
  split
  · rename_i b off
    simp only [quietIn, hv, Bool.and_eq_true, Bool.not_eq_true'] at hq
    obtain ⟨hb, hfl⟩ := hq
    have hag2 := hag b hb
    show (do let k ← M.lift (tk P t); let sz ← M.lift (tsize P t); match ← M.lift (nth hp b) with | .c _ cs => pure (.val (.s (← loadCells cs off (isAggT k) sz))) | .v _ ts a => if ts.all LT.flat then (do pure (.val (.s (← loadRow ts a off (isAggT k) sz)))) else if hpLt hp then (do let q ← loadRowN ts a off (isAggT k) sz hp; pure (.hp (some (.s q.1)) q.2)) else M.fail : M OR) = _
    rw [hag2]
    refine lift_congr fun k _ => lift_congr fun sz _ => lift_congr fun bk hbk => ?_
    cases bk with
    | c o cs => rfl
    | v o ts a =>
      rw [hbk] at hfl
      have hfl : ts.all LT.flat = true := hfl
      simp only [hfl, if_true]
  · rfl
  · rfl

def Hyp (E : Env) (ν : Nat → DV) (N : Nat) (hp : List (Option Blk)) (ρ : Nat → Loc) : Prop := (∃ w0, HS E ν ρ hp w0) ∧ (ρ hp.length).blk = N ∧ (ρ hp.length).off = 0

theorem pure_sat (hS : SigsOK P I gK S F) (hE : E.Ok gK) {N : Nat} {fx : List Nat} {r : RS} {ctx : Ctx} {o : Oper} (hp : pureOp o.op = true) : M.sat F ν (evOpQ P S fx r ctx o.op) (fun res => ∀ hp' : List (Option Blk), Agree fx r.st.hp hp' → ∀ ρ a, Hyp E ν N r.st.hp ρ → ARel ν ρ r a → CtxOk ctx a →
    ORok P I E ν ρ hp' (execOp a.eval o) res) := by
  unfold evOpQ
  refine sat_ite (fun hq => ?_) (fun _ => sat_fail)
  cases hpl : plainOp o.op with
  | true =>
    refine sat_all fun hp' n a n' e d h1 h2 h3 hag => ?_
    have := evOp_sat (E := E) (F := F) (ν := ν) hS hE (r := r.withHp hp') (ctx := ctx) (o := o)
    rw [evOp_withHp hag hp hpl hq] at this
    exact fun ρ a' _ ha hc => this n a n' e d h1 h2 h3 ρ a' (ha.withHp hp') hc
  | false =>
    cases hop : o.op <;> rw [hop] at hpl hp <;> simp only [plainOp] at hpl <;> first | cases hpl | skip
    · rename_i t x ix
      simp only [evOp]
      refine sat_bind (sat_lift (Q := fun v => rd r ctx x = some v) fun a h => h) fun v hv => ?_
      refine sat_bind (sat_lift (Q := fun v => rd r ctx ix = some v) fun a h => h) fun u hu => ?_
      split
      · rename_i b i
        refine sat_bind (evIndexRow_sat (E := E)) fun z hz => sat_pure fun hp' _ ρ a ⟨⟨w0, hw0⟩, _⟩ ha hc w hw _ => ?_
        have h1 := rd_spec ha hc hv
        have h2 := rd_spec ha hc hu
        refine ⟨V1.good_one.2 hz.1, .inl ?_⟩
        have := hz.2 ρ w0 w hw0
        simp only [V.conc, V1.conc] at h1 h2 ⊢
        simp only [Lf.conc] at h1
        simp [execOp, hop, h1.2, h2.2, this]
      · rename_i l i _
        by_cases hg : l.good ν
        · refine sat_bind (evIndexAddr_sat hg) fun z hz => sat_pure fun hp' _ ρ a _ ha hc => ?_
          have h1 := rd_spec ha hc hv
          have h2 := rd_spec ha hc hu
          refine ORok.now (V1.good_one.2 hz.1) fun w _ => ?_
          have := hz.2 ρ w
          simp only [V.conc, V1.conc] at h1 h2 ⊢
          simp [execOp, hop, h1.2, h2.2, this]
        · refine sat_bind sat_true fun z _ => sat_pure fun hp' _ ρ a _ ha hc => ?_
          exact absurd (V1.good_one.1 (rd_spec ha hc hv).1) hg
      · exact sat_fail
    · rename_i c
      simp only [pureOp] at hp
      split at hp
      · rename_i hf
        simp only [evOp, hf]
        refine sat_bind (sat_lift (Q := fun vs => rdAll r ctx c.args.toList = some vs) fun a h => h) fun vs hvs => ?_
        have hargs : ∀ ρ a, ARel ν ρ r a → CtxOk ctx a → c.args.map a.eval = (vs.map (V.conc ν ρ)).toArray := fun ρ a ha hc => by
          apply Array.ext'
          simpa using rdAll_spec ha hc hvs
        split
        · rename_i he; cases he
        · rename_i he; cases he
        · rename_i v _
          refine sat_bind (sat_lift (Q := fun t => c.argTypes[0]? = some t) fun a h => h) fun t ht => ?_
          refine sat_bind (evLen_sat (E := E)) fun z hz => sat_pure fun hp' _ ρ a ⟨⟨w0, hw0⟩, _⟩ ha hc w hw _ => ⟨hz.1, .inl ?_⟩
          have := hz.2 ρ w0 w o.type c.argTypes ht hw0
          simp [execOp, hop, resolve, hf, hargs ρ a ha hc, invoke, builtin, this]
        · rename_i he; cases he
        · exact sat_fail
      · cases hp

def QuietAll (P : Program) (ν : Nat → DV) (E : Env) (N : Nat) (fx : List Nat) (ops : Array Oper) (o : Oper) (r r' : RS) : Prop :=
  r'.st.hp = r.st.hp ∧ ∀ ρ a, Hyp E ν N r.st.hp ρ → ARel ν ρ r a → ∀ C : World → Prop, (∀ w, C w → ∃ hp, HS E ν ρ hp w ∧ Agree fx r.st.hp hp) → (∀ w w', C w → Below w.heap.size w w' → C w') → (∃ w, C w) →
    if Region.wanted o (yielded ops a.tmps) = true then ∃ v, (∀ w, C w → o.quietAt P a C w v) ∧ ARel ν ρ r' (a.put o.dst v) else ARel ν ρ r' (a.put o.dst undef)

theorem quietAll_of {o : Oper} {a : Act} {v : Value} {C : World → Prop} (hB : ∀ w w', C w → Below w.heap.size w w' → C w')
    (h : ∀ w, C w → RunsVal P (execOp a.eval o) w v) : ∀ w, C w → o.quietAt P a C w v := by
  intro w hw
  unfold Oper.quietAt
  rcases h w hw with h | ⟨f, args, h, hc⟩
  · rw [h]; exact ⟨rfl, rfl⟩
  · rw [h]
    exact ⟨rfl, hc.mono fun e w'' ⟨he, hb⟩ => ⟨he, hB w w'' hw hb⟩⟩

theorem stepOR_all (hI : ∀ w, Fr E.W E.w0 w → I w) {N : Nat} {fx : List Nat} {ops : Array Oper} {o : Oper} {r : RS} {x : OR} (hw : ∀ ρ a, ARel ν ρ r a → Region.wanted o (yielded ops a.tmps) = true)
    (hx : ∀ hp', Agree fx r.st.hp hp' → ∀ ρ a, Hyp E ν N r.st.hp ρ → ARel ν ρ r a → ORok P I E ν ρ hp' (execOp a.eval o) x) : M.sat F ν (stepOR true r o.dst x) (QuietAll P ν E N fx ops o r) := by
  cases x with
  | val v =>
    refine sat_mono put_sat fun r' hr' => ⟨hr'.1, fun ρ a hh0 ha C hC hB hex => ?_⟩
    rw [if_pos (hw ρ a ha)]
    refine ⟨v.conc ν ρ, quietAll_of hB fun w hw1 => ?_, hr'.2 ρ a _ ha fun v' hv' => ?_⟩
    · obtain ⟨hp, hh, hag⟩ := hC w hw1
      exact (hx hp hag ρ a hh0 ha w hh (hI w hh.fr)).2
    · obtain ⟨w, hw1⟩ := hex
      obtain ⟨hp, hh, hag⟩ := hC w hw1
      cases hv'; exact ⟨(hx hp hag ρ a hh0 ha w hh (hI w hh.fr)).1, rfl⟩
  | hp v hp' => unfold stepOR; simp only [Bool.not_true, Bool.false_and, Bool.false_eq_true, if_false]; exact sat_fail

theorem stepORg_all (hI : ∀ w, Fr E.W E.w0 w → I w) {N : Nat} {fx : List Nat} {ops : Array Oper} {o : Oper} {r : RS} {d : Nat} {want : Bool} {x : OR} (hw : ∀ (a : Act), Region.wanted o (yielded ops a.tmps) = true ↔ a.tmps[d]? = some (.bool want))
    (hx : ∀ hp', Agree fx r.st.hp hp' → ∀ ρ a, Hyp E ν N r.st.hp ρ → ARel ν ρ r a → a.tmps[d]? = some (.bool want) → ORok P I E ν ρ hp' (execOp a.eval o) x) : M.sat F ν (stepORg r o.dst d want x) (QuietAll P ν E N fx ops o r) := by
  cases x with
  | val v =>
    refine sat_mono putG_sat fun r' hr' => ⟨hr'.1, fun ρ a hh0 ha C hC hB hex => ?_⟩
    by_cases hg : Region.wanted o (yielded ops a.tmps) = true
    · rw [if_pos hg]
      have hd := (hw a).1 hg
      refine ⟨v.conc ν ρ, quietAll_of hB fun w hw1 => ?_, hr'.2 ρ a _ ha (fun _ => ?_) (fun hn => absurd hd hn)⟩
      · obtain ⟨hp, hh, hag⟩ := hC w hw1
        exact (hx hp hag ρ a hh0 ha hd w hh (hI w hh.fr)).2
      · obtain ⟨w, hw1⟩ := hex
        obtain ⟨hp, hh, hag⟩ := hC w hw1
        exact ⟨(hx hp hag ρ a hh0 ha hd w hh (hI w hh.fr)).1, rfl⟩
    · rw [if_neg hg]
      have hd : a.tmps[d]? ≠ some (.bool want) := fun h => hg ((hw a).2 h)
      exact hr'.2 ρ a _ ha (fun h => absurd h hd) (fun _ => rfl)
  | hp v hp' => exact sat_fail

theorem nopN_pure {N : Nat} {o : Oper} (h : pureOp o.op = true) : nopN N o = o := by
  unfold nopN
  have h1 : storeOp o.op = false := by cases hop : o.op <;> rw [hop] at h <;> simp [pureOp, storeOp] at h ⊢
  have h2 : allocOp o.op = false := by cases hop : o.op <;> rw [hop] at h <;> simp [pureOp, allocOp] at h ⊢
  simp [h1, h2]
theorem evOper_all (hS : SigsOK P I gK S F) (hE : E.Ok gK) (hI : ∀ w, Fr E.W E.w0 w → I w) {N : Nat} {fx : List Nat} {ops ops' : Array Oper} (hdst : ∀ j : Nat, (ops[j]?).bind (·.dst) = (ops'[j]?).bind (·.dst)) {r : RS} {o : Oper} (hp : pureOp o.op = true ∨ allocOp o.op = true) :
    M.sat F ν (evOperM P S fx ops.toList r o) (QuietAll P ν E N fx ops' (nopN N o) r) := by
  unfold evOperM
  refine sat_ite (fun hal => sat_ite (fun hg => ?_) (fun _ => sat_fail)) (fun hal => ?_)
  · have hg : o.guard = none := by simpa using hg
    refine sat_mono put_sat fun r' hr' => ⟨hr'.1, fun ρ a hh0 ha C hC hB hex => ?_⟩
    have hst : storeOp o.op = false := by cases hop : o.op <;> rw [hop] at hal <;> simp [storeOp, allocOp] at hal ⊢
    have e1 : nopN N o = { o with op := .move (.const (.pointer (some ⟨N, 0, none⟩))) } := by unfold nopN; simp [hst, hal]
    rw [if_pos (by rw [e1]; simp [Region.wanted, hg])]
    rw [e1]
    refine ⟨.pointer (some ⟨N, 0, none⟩), fun w hw => ?_, hr'.2 ρ a _ ha fun v hv => ?_⟩
    · unfold Oper.quietAt
      simp [execOp, Act.eval, Oper.quietUpon]
    · cases hv
      refine ⟨V1.good_one.2 trivial, ?_⟩
      simp [V.conc, V1.conc, Lf.conc, hh0.2.1, hh0.2.2, Off.val]
  have hp : pureOp o.op = true := by
    rcases hp with h | h
    · exact h
    · exact absurd h hal
  rw [nopN_pure hp]
  split
  · rename_i hg
    refine sat_bind (pure_sat (E := E) hS hE hp) fun x hx => stepOR_all hI (fun ρ a _ => by simp [Region.wanted, hg]) fun hp' hag ρ a hh0 ha => hx hp' hag ρ a hh0 ha (fun p hp => by simp at hp)
  · rename_i j want hg
    refine sat_bind (sat_lift (Q := fun d => (ops'[j]?).bind (·.dst) = some d) fun a h => by rw [← hdst j]; simpa using h) fun d hd => ?_
    refine sat_bind (sat_lift (Q := fun res => guardInfo r 8 d want = some res) fun a h => h) fun res hres => ?_
    have hwd : ∀ (a : Act), Region.wanted o (yielded ops' a.tmps) = true ↔ a.tmps[d]? = some (.bool want) := fun a => wanted_spec hg hd
    split
    · refine sat_mono put_sat fun r' hr' => ⟨hr'.1, fun ρ a _ ha C _ _ _ => ?_⟩
      have hn : a.tmps[d]? ≠ some (.bool want) := guardInfo_spec ha 8 d want hres
      rw [if_neg (fun h => hn ((hwd a).1 h))]
      exact hr'.2 ρ a _ ha (fun v hv => by cases hv; exact ⟨V.good_s.2 (V1.good_one.2 trivial), rfl⟩)
    · rename_i ctx cs
      split
      · refine sat_bind (pure_sat (E := E) hS hE hp) fun x hx => stepOR_all hI (fun ρ a ha => ?_) fun hp' hag ρ a hh0 ha => hx hp' hag ρ a hh0 ha (fun p hp => by simp at hp)
        have := guardInfo_spec ha 8 d want hres
        exact (hwd a).2 (this.2.1 rfl)
      · refine sat_bind (sat_underAll (pure_sat (E := E) (N := N) hS hE hp (ctx := ctx))) fun x hx => ?_
        have hx2 : ∀ hp', Agree fx r.st.hp hp' → ∀ ρ a, Hyp E ν N r.st.hp ρ → ARel ν ρ r a → a.tmps[d]? = some (.bool want) → ORok P I E ν ρ hp' (execOp a.eval o) x := fun hp' hag ρ a hh0 ha hd' => by
          have := (guardInfo_spec ha 8 d want hres).1 hd'
          exact hx this.2 hp' hag ρ a hh0 ha this.1
        cases x with
        | val v => exact stepORg_all hI hwd hx2
        | hp v hp' => exact sat_fail

theorem evOpers_all (hS : SigsOK P I gK S F) (hE : E.Ok gK) (hI : ∀ w, Fr E.W E.w0 w → I w) {N : Nat} {fx : List Nat} {ops ops' : Array Oper} (hdst : ∀ j : Nat, (ops[j]?).bind (·.dst) = (ops'[j]?).bind (·.dst)) : ∀ (l : List Oper) (r : RS), (∀ o ∈ l, pureOp o.op = true ∨ allocOp o.op = true) → M.sat F ν (evOpersM P S fx ops.toList l r) (fun r' =>
    ∀ ρ a, Hyp E ν N r.st.hp ρ → ARel ν ρ r a → ∀ C : World → Prop, (∀ w, C w → ∃ hp, HS E ν ρ hp w ∧ Agree fx r.st.hp hp) → (∀ w w', C w → Below w.heap.size w w' → C w') → (∃ w, C w) → wpQuiet P ops' C (fun a' => ARel ν ρ r' a') (l.map (nopN N)) a)
  | [], r, _ => sat_pure fun ρ a _ h _ _ _ _ => h
  | o :: l, r, hl => by
    unfold evOpersM
    refine sat_bind (evOper_all (E := E) (N := N) (ops := ops) hS hE hI hdst (hl o (by simp))) fun r1 h1 => sat_mono (evOpers_all (N := N) hS hE hI hdst l r1 (fun o ho => hl o (List.mem_cons_of_mem _ ho))) fun r' h2 => ?_
    intro ρ a hh0 ha C hC hB hex
    obtain ⟨hhp, h1⟩ := h1
    rw [hhp] at h2
    have := h1 ρ a hh0 ha C hC hB hex
    simp only [List.map_cons, wpQuiet]
    split
    · rename_i hw
      rw [if_pos hw] at this
      obtain ⟨v, h3, h4⟩ := this
      exact ⟨v, h3, h2 ρ _ hh0 h4 C hC hB hex⟩
    · rename_i hw
      rw [if_neg hw] at this
      exact h2 ρ _ hh0 this C hC hB hex

def NE (P : Program) (m : Sem Next) : Prop := ∀ (w : World) (g : FuncId) (args : Array Value) (w' : World), m.run P w ≠ .ok (.enter g args) w'
theorem NE.bind {α : Type} {m : Sem α} {f : α → Sem Next} (h : ∀ x, NE P (f x)) : NE P (m >>= f) := by
  intro w g args w'
  rw [Sem.run_bind]
  cases m.run P w with
  | halt x w1 => intro h; cases h
  | ok x w1 => exact h x w1 g args w'
theorem NE.value (v : Value) : NE P (pure (.value v)) := fun w g args w' h => by cases h
theorem NE.ite {c : Prop} [Decidable c] {x y : Sem Next} (hx : NE P x) (hy : NE P y) : NE P (if c then x else y) := by split <;> assumption
theorem NE.panic : NE P (runtimePanic .nilDeref) := fun w g args w' h => by simp [runtimePanic, goPanic] at h
theorem pure_noEnter {o : Oper} (h : pureOp o.op = true) (a : Act) (w : World) (f : FuncId) (args : Array Value) (w' : World) : (execOp a.eval o).run P w ≠ .ok (.enter f args) w' := by
  have key : NE P (execOp a.eval o) := by
    cases hop : o.op <;> rw [hop] at h <;> simp only [pureOp] at h <;> simp only [execOp, hop] <;> first | exact NE.value _ | exact NE.bind fun x => NE.value _ | cases h | skip
    · split <;> first | exact NE.panic | exact NE.value _ | skip
      split <;> first | exact NE.panic | exact NE.value _ | skip
      exact NE.bind fun x => NE.bind fun y => NE.ite (NE.bind fun z => NE.value _) (NE.value _)
    · rename_i c
      split at h
      · rename_i hf
        intro w g args w'
        rw [Sem.run_bind]
        simp only [resolve, hf, Sem.run_pure, Result.andThen_ok, invoke, builtin]
        exact (NE.bind fun x => NE.value _ : NE P _) w g args w'
      · cases h
  exact key w f args w'

theorem nopN_cases (N : Nat) (o : Oper) : nopN N o = o ∨ ∃ op, nopN N o = { o with op := op } := by
  unfold nopN
  split
  · exact .inr ⟨_, rfl⟩
  · split
    · exact .inr ⟨_, rfl⟩
    · exact .inl rfl
theorem nopN_after (N : Nat) (o : Oper) : (nopN N o).after = o.after := by
  rcases nopN_cases N o with h | ⟨op, h⟩ <;> rw [h]
theorem nopN_dst (N : Nat) (o : Oper) : (nopN N o).dst = o.dst := by
  rcases nopN_cases N o with h | ⟨op, h⟩ <;> rw [h]
theorem nopN_guard (N : Nat) (o : Oper) : (nopN N o).guard = o.guard := by
  rcases nopN_cases N o with h | ⟨op, h⟩ <;> rw [h]
theorem nop_dst (o : Oper) : (nop o).dst = o.dst := by unfold nop; split <;> rfl
theorem nopN_same {N : Nat} {o : Oper} (h : stateOp o.op = false) : nopN N o = o := by
  unfold stateOp at h
  rw [Bool.or_eq_false_iff] at h
  unfold nopN
  simp [h.1, h.2]
theorem nop_kinds {o : Oper} (h : pureOp o.op = true ∨ stateOp o.op = true) : pureOp (nop o).op = true ∨ allocOp (nop o).op = true := by
  unfold nop
  split
  · exact .inl rfl
  · rename_i hs
    rcases h with h | h
    · exact .inl h
    · unfold stateOp at h
      rw [Bool.or_eq_true] at h
      rcases h with h | h
      · exact absurd h hs
      · exact .inr h
theorem nopN_nop (N : Nat) (o : Oper) : nopN N (nop o) = nopN N o := by
  unfold nop
  split
  · rename_i hs
    have e : nopN N o = { o with op := .move (.const (.bool false)) } := by unfold nopN; rw [if_pos hs]
    rw [e]
    rfl
  · rfl
theorem looks_nopN (N : Nat) {ops1 ops2 : Array Oper} (h : ∀ j : Nat, (ops1[j]?).bind (·.dst) = (ops2[j]?).bind (·.dst)) (o : Oper) : (nopN N o).looksAt ops1 = (nopN 0 o).looksAt ops2 := by
  unfold Oper.looksAt
  rw [nopN_guard, nopN_guard]
  congr 1
  · unfold nopN
    repeat' split
    all_goals rfl
  · cases o.guard with
    | none => rfl
    | some p => simp only [h p.1]
theorem apart_nopN (N : Nat) {ops1 ops2 : Array Oper} (h : ∀ j : Nat, (ops1[j]?).bind (·.dst) = (ops2[j]?).bind (·.dst)) (x y : Oper) : (nopN N x).apart ops1 (nopN N y) = (nopN 0 x).apart ops2 (nopN 0 y) := by
  unfold Oper.apart
  rw [nopN_dst, nopN_dst, nopN_dst, nopN_dst, looks_nopN N h, looks_nopN N h]
theorem lexB_nopN (N : Nat) (l : List Oper) : Region.lexB .any (l.map (nopN N)).toArray = Region.lexB .any (l.map (nopN 0)).toArray := by
  have hat : ∀ (M j : Nat), ((l.map (nopN M)).toArray)[j]? = (l[j]?).map (nopN M) := fun M j => by simp
  have hd : ∀ j : Nat, (((l.map (nopN N)).toArray)[j]?).bind (·.dst) = (((l.map (nopN 0)).toArray)[j]?).bind (·.dst) := fun j => by
    rw [hat, hat]
    cases l[j]? with
    | none => rfl
    | some o => simp [nopN_dst]
  have hready : ∀ listed, Region.ready .any (l.map (nopN N)).toArray listed = Region.ready .any (l.map (nopN 0)).toArray listed := fun listed => by
    unfold Region.ready
    rw [show (l.map (nopN N)).toArray.size = (l.map (nopN 0)).toArray.size from by simp]
    refine List.filter_congr fun j _ => ?_
    rw [hat, hat]
    cases l[j]? with
    | none => rfl
    | some o => simp only [Option.map_some, nopN_after]
  have hfree : ∀ listed i, Region.free .any (l.map (nopN N)).toArray listed i = Region.free .any (l.map (nopN 0)).toArray listed i := fun listed i => by
    unfold Region.free
    rw [hat, hat]
    cases l[i]? with
    | none => rfl
    | some oi =>
      simp only [Option.map_some]
      rw [show (l.map (nopN N)).toArray.size = (l.map (nopN 0)).toArray.size from by simp]
      congr 1
      funext j
      rw [hat, hat]
      cases l[j]? with
      | none => rfl
      | some oj => simp only [Option.map_some, nopN_after, apart_nopN N hd]
  have hlex : ∀ (fuel k : Nat) (listed : Array Bool), Region.lexFrom .any (l.map (nopN N)).toArray fuel k listed = Region.lexFrom .any (l.map (nopN 0)).toArray fuel k listed := by
    intro fuel
    induction fuel with
    | zero => intro k listed; simp only [Region.lexFrom, hready]
    | succ fuel ih => intro k listed; simp only [Region.lexFrom, hready, hfree, ih]
  unfold Region.lexB
  rw [hlex, show (l.map (nopN N)).toArray.size = (l.map (nopN 0)).toArray.size from by simp]
  congr 1
  unfold Region.noSelect
  simp only [List.all_toArray, List.all_map]
  congr 1
  funext o
  simp only [Function.comp]
  have key : nopN N o = nopN 0 o ∨ ∃ x y, (nopN N o).op = .move x ∧ (nopN 0 o).op = .move y := by
    by_cases h1 : storeOp o.op = true
    · left
      unfold nopN
      rw [if_pos h1, if_pos h1]
    · by_cases h2 : allocOp o.op = true
      · right
        unfold nopN
        rw [if_neg h1, if_pos h2, if_neg h1, if_pos h2]
        exact ⟨_, _, rfl, rfl⟩
      · left
        unfold nopN
        rw [if_neg h1, if_neg h2, if_neg h1, if_neg h2]
  rcases key with h | ⟨x, y, h1, h2⟩
  · rw [h]
  · rw [h1, h2]

theorem memN_false {b j : Nat} {fx : List Nat} (hb : memN b fx = true) (hj : memN j fx = false) : j ≠ b := fun e => by subst e; rw [hb] at hj; cases hj
theorem evStores_sat {fx : List Nat} (sl : List (Option V)) (gl : List GE) : ∀ (l : List Oper) (hp : List (Option Blk)), M.sat F ν (evStores P S fx sl gl l hp) (fun hp' => ∃ hps : Nat → List (Option Blk), hps 0 = hp ∧ hps l.length = hp' ∧ (∀ k, k ≤ l.length → Agree fx hp (hps k)) ∧
    (∀ o t, l[0]? = some o → o.op = .alloc t → hpLt hp = true ∧ ∀ ρ w, HS E ν ρ hp w → ∀ a : Act, ∃ w', (execOp a.eval o).run P w = .ok (.value (.pointer (some ⟨w.heap.size, 0, none⟩))) w' ∧ HS E ν (ext ρ hp.length ⟨w.heap.size, 0, false, 0, 0, none⟩) (hps 1) w') ∧
    ∀ k o, l[k]? = some o → storeOp o.op = true → ∀ ρ a, ARel ν ρ ⟨⟨sl, []⟩, gl⟩ a → ∀ w, HS E ν ρ (hps k) w → ∃ w', (execOp a.eval o).run P w = .ok .skip w' ∧ HS E ν ρ (hps (k + 1)) w')
  | [], hp => sat_pure ⟨fun _ => hp, rfl, rfl, fun _ _ _ _ => rfl, fun o t h => by simp at h, fun k o h => by simp at h⟩
  | o :: l, hp => by
    unfold evStores
    split
    · rename_i t x y hop
      refine sat_bind (sat_lift (Q := fun v => rd ⟨⟨sl, hp⟩, gl⟩ [] x = some v) fun a h => h) fun v hv => ?_
      split
      · rename_i b off
        refine sat_ite (fun hb => ?_) (fun _ => sat_fail)
        refine sat_bind (sat_and (evStore_sat (E := E) hop) (evStore_at hv)) fun hp1 h1 => sat_mono (evStores_sat sl gl l hp1) fun hp' ⟨hps, e1, e2, e4, _, e3⟩ => ?_
        refine ⟨fun k => match k with | 0 => hp | k + 1 => hps k, rfl, e2, fun k hk j hj => ?_, fun o' t' ho' hot' => (by simp at ho'; subst ho'; rw [hop] at hot'; cases hot'), fun k o' hk hst ρ a ha w hw => ?_⟩
        · cases k with
          | zero => rfl
          | succ k =>
            have := e4 k (by simpa using hk) j hj
            simp only
            rw [this]
            exact h1.2 j (memN_false hb hj)
        · cases k with
          | zero =>
            simp at hk; subst hk
            obtain ⟨w', g1, g2⟩ := h1.1 ρ a ⟨ha.defers, ha.size, ha.slot, ha.gl⟩ (fun p hp => by simp at hp) w hw
            exact ⟨w', g1, by simp only; rw [e1]; exact g2⟩
          | succ k => exact e3 k o' (by simpa using hk) hst ρ a ha w hw
      · exact sat_fail
    · rename_i t hop
      refine sat_bind (sat_lift (Q := fun v => zeroCells P t = some v) fun a h => h) fun z hz => ?_
      refine sat_ite (fun hc => ?_) (fun _ => sat_fail)
      simp only [Bool.and_eq_true] at hc
      obtain ⟨⟨⟨hb, _⟩, hlt⟩, hzl⟩ := hc
      refine sat_mono (evStores_sat sl gl l _) fun hp' ⟨hps, e1, e2, e4, e5, e3⟩ => ?_
      refine ⟨fun k => match k with | 0 => hp | k + 1 => hps k, rfl, e2, fun k hk j hj => ?_, fun o' t' ho' hot' => ?_, fun k o' hk hst ρ a ha w hw => ?_⟩
      · cases k with
        | zero => rfl
        | succ k =>
          have := e4 k (by simpa using hk) j hj
          simp only
          rw [this, nth_append]
          have hne := memN_false hb hj
          split
          · rfl
          · rename_i hjl
            have : j - hp.length ≠ 0 := by omega
            cases hk2 : j - hp.length with
            | zero => omega
            | succ m =>
              have : nth hp j = none := by
                cases hn : nth hp j with
                | none => rfl
                | some x => exact absurd (nth_lt hn) hjl
              rw [this]
              cases m <;> rfl
      · simp at ho'
        subst ho'
        rw [hop] at hot'
        cases hot'
        refine ⟨hlt, fun ρ w hw a => ?_⟩
        obtain ⟨i, zv, hi, hzv, hzg, hzc⟩ := zeroCells_spec (ν := ν) hz
        have hnew := hw.new hlt hzl hzg t
        rw [← hzc ρ] at hnew
        refine ⟨w.alloc (.cells zv.cells t), ?_, by simp only; rw [e1]; exact hnew⟩
        simp [execOp, hop, Instr.alloc, zeroValue, typeInfo, hi, hzv, newVar, newRow]
      · cases k with
        | zero => simp at hk; subst hk; rw [hop] at hst; cases hst
        | succ k => exact e3 k o' (by simpa using hk) hst ρ a ha w hw
    · exact sat_fail

theorem storeAt_spec (ops : List Oper) : ∀ i, i ∈ storeAt ops ↔ ∃ o, ops[i]? = some o ∧ stateOp o.op = true := by
  intro i
  unfold storeAt
  rw [List.mem_map]
  constructor
  · rintro ⟨⟨o, j⟩, h, rfl⟩
    obtain ⟨h1, h2⟩ := List.mem_filter.1 h
    exact ⟨o, (List.mem_zipIdx_iff_getElem?.1 h1), h2⟩
  · rintro ⟨o, h1, h2⟩
    exact ⟨(o, i), List.mem_filter.2 ⟨List.mem_zipIdx_iff_getElem?.2 h1, h2⟩, rfl⟩

theorem storeAt_at : ∀ (ops : List Oper) (n : Nat), ((ops.zipIdx n).filter fun p => stateOp p.1.op).map (·.1) = ops.filter fun o => stateOp o.op
  | [], _ => rfl
  | o :: l, n => by
    rw [List.zipIdx_cons, List.filter_cons, List.filter_cons]
    split
    · rw [List.map_cons, storeAt_at l (n + 1)]
    · exact storeAt_at l (n + 1)
theorem stores_eq (ops : List Oper) (k i : Nat) (h : (storeAt ops)[k]? = some i) : ∃ o, ops[i]? = some o ∧ (ops.filter fun o => stateOp o.op)[k]? = some o := by
  unfold storeAt at h
  rw [List.getElem?_map] at h
  obtain ⟨⟨o, j⟩, h1, rfl⟩ := Option.map_eq_some_iff.1 h
  refine ⟨o, ?_, ?_⟩
  · have := (List.mem_filter.1 (List.mem_of_getElem? h1)).1
    exact List.mem_zipIdx_iff_getElem?.1 this
  · have := storeAt_at ops 0
    rw [← this, List.getElem?_map, h1]
    rfl

theorem sorted_lt : ∀ {l : List Nat}, sorted l = true → ∀ p q i j : Nat, p < q → l[p]? = some i → l[q]? = some j → i < j
  | [], _, p, q, i, j, _, hi, _ => by simp at hi
  | [a], _, p, q, i, j, hpq, hi, hj => by
    have : q < 1 := by
      rcases Nat.lt_or_ge q 1 with h | h
      · exact h
      · rw [List.getElem?_eq_none (by simpa using h)] at hj; cases hj
    omega
  | a :: b :: l, h, p, q, i, j, hpq, hi, hj => by
    simp only [sorted, Bool.and_eq_true] at h
    have h1 : a < b := by simpa [Nat.blt_eq] using h.1
    cases q with
    | zero => omega
    | succ q =>
      simp only [List.getElem?_cons_succ] at hj
      cases p with
      | succ p => exact sorted_lt h.2 p q i j (by omega) (by simpa using hi) hj
      | zero =>
        simp at hi; subst hi
        cases q with
        | zero => simp at hj; subst hj; exact h1
        | succ q => exact Nat.lt_trans h1 (sorted_lt h.2 0 (q + 1) b j (by omega) rfl hj)

theorem sub1_spec {l m : List Nat} (h : sub1 l m = true) : ∀ x ∈ l, x ∈ m := fun x hx => memN_mem (List.all_eq_true.1 h x hx)
theorem mem_memN {n : Nat} : ∀ {l : List Nat}, n ∈ l → memN n l = true
  | x :: l, h => by
    rcases List.mem_cons.1 h with rfl | h
    · simp [memN]
    · simp [memN, mem_memN h]

theorem backB_ok' {ops : List Oper} (h : backB ops = true) : BackOk .any ops.toArray := by
  intro i o ho
  have ho' : ops[i]? = some o := by simpa using ho
  have hm : (o, i) ∈ ops.zipIdx := by
    rw [List.mem_zipIdx_iff_getElem?]
    exact ho'
  have := List.all_eq_true.1 h _ hm
  simp only [Bool.and_eq_true] at this
  refine ⟨fun e he hbd => ?_, fun j b hg => ?_⟩
  · have h1 := this.1
    have := Array.all_eq_true_iff_forall_mem.1 h1 e he
    simpa [Nat.blt_eq, hbd] using this
  · have h2 := this.2
    rw [hg] at h2
    simpa [Nat.blt_eq] using h2

theorem eval_of_tmps {a a' : Act} {x : Operand} (h : ∀ t ∈ tmpOf x, a'.tmps[t]? = a.tmps[t]?) : a.eval x = a'.eval x := by
  cases x with
  | tmp t => simp only [Act.eval, Array.getD_eq_getD_getElem?]; rw [h t (by simp [tmpOf])]
  | _ => rfl

theorem evMixedAt_sat (hS : SigsOK P I gK S F) (hE : E.Ok gK) (hI : ∀ w, Fr E.W E.w0 w → I w) {fx : List Nat} {ops : Array Oper} {s : St} (hm : mixOk ops.toList = true) (hB : Region.lexB .any (ops.toList.map (nopN 0)).toArray = true) (hback : backB ops.toList = true) :
    M.sat F ν (evMixedAt P S fx ops.toList s) (fun s' => ∀ ρ a w, RR ν E ρ ⟨s, []⟩ a w → ∀ Q : Exit → Act → World → Prop, (∀ ρ' a' w', RR ν E ρ' ⟨s', []⟩ a' w' → Q .normal a' w') →
      wpAny P .any ops Q ops.size (Array.replicate ops.size false) a w) := by
  simp only [mixOk, Bool.and_eq_true] at hm
  obtain ⟨⟨⟨hkinds, hsorted⟩, hanc⟩, hfirst⟩ := hm
  have hk : ∀ o ∈ ops.toList, pureOp o.op = true ∨ (stateOp o.op = true ∧ o.guard = none ∧ (allocOp o.op = true ∨ o.dst = none)) := fun o ho => by
    have := List.all_eq_true.1 hkinds o ho
    simp only [Bool.or_eq_true, Bool.and_eq_true, Option.isNone_iff_eq_none] at this
    rcases this with h | ⟨⟨h1, h2⟩, h3⟩
    · exact .inl h
    · exact .inr ⟨h1, h2, h3⟩
  unfold evMixedAt
  refine sat_ite (fun hchk => ?_) (fun _ => sat_fail)
  simp only [Bool.and_eq_true] at hchk
  have hdd : ∀ (N j : Nat), (((ops.toList.map nop).toArray)[j]?).bind (·.dst) = (((ops.toList.map (nopN N)).toArray)[j]?).bind (·.dst) := fun N j => by
    have e1 : ((ops.toList.map nop).toArray)[j]? = (ops[j]?).map nop := by simp
    have e2 : ((ops.toList.map (nopN N)).toArray)[j]? = (ops[j]?).map (nopN N) := by simp
    rw [e1, e2]
    cases ops[j]? with
    | none => rfl
    | some o => simp [nop_dst, nopN_dst]
  have hops := sat_all fun N => evOpers_all (E := E) (F := F) (ν := ν) hS hE hI (N := N) (fx := fx) (ops := (ops.toList.map nop).toArray) (ops' := (ops.toList.map (nopN N)).toArray) (hdd N) (ops.toList.map nop) ⟨s, []⟩ (fun o ho => by
    obtain ⟨o', h1, rfl⟩ := List.mem_map.1 ho
    exact nop_kinds (by rcases hk o' h1 with h | h; exact .inl h; exact .inr h.1))
  simp only at hops
  refine sat_bind hops fun r hr => sat_bind (evStores_sat (E := E) r.st.sl r.gl _ s.hp) fun hp' ⟨hps, e1, e2, e4, e5, e3⟩ => sat_pure fun ρ a w hrr Q hQ => ?_
  generalize hN : w.heap.size = N
  have ha1 : ARel ν (ext ρ s.hp.length ⟨N, 0, false, 0, 0, none⟩) ⟨s, []⟩ a := hrr.act.ext (fun j hj => ext_lt hj) hchk.1 (by simp) s.hp
  have hs1 : HS E ν (ext ρ s.hp.length ⟨N, 0, false, 0, 0, none⟩) s.hp w := hrr.hs.reloc hchk.2 (fun j hj => ext_lt hj)
  have hn1 : ext ρ s.hp.length ⟨N, 0, false, 0, 0, none⟩ s.hp.length = ⟨N, 0, false, 0, 0, none⟩ := ext_same _ _ _
  have hee : ext (ext ρ s.hp.length ⟨N, 0, false, 0, 0, none⟩) s.hp.length ⟨N, 0, false, 0, 0, none⟩ = ext ρ s.hp.length ⟨N, 0, false, 0, 0, none⟩ := by
    funext j
    simp only [ext]
    split <;> rfl
  generalize ext ρ s.hp.length ⟨N, 0, false, 0, 0, none⟩ = ρ1 at *
  have hr := hr N
  rw [List.map_map, show nopN N ∘ nop = nopN N from funext fun o => nopN_nop N o] at hr
  have hsz : (ops.toList.map (nopN N)).toArray.size = ops.size := by simp
  have hat : ∀ j : Nat, (ops.toList.map (nopN N)).toArray[j]? = (ops[j]?).map (nopN N) := fun j => by simp
  have hlen : (storeAt ops.toList).length = (ops.toList.filter fun o => stateOp o.op).length := by
    have := congrArg List.length (storeAt_at ops.toList 0)
    simp only [List.length_map] at this
    unfold storeAt
    simpa using this
  have hget : ∀ (i : Nat) (o : Oper), ops[i]? = some o → ops.toList[i]? = some o := fun i o h => by simpa using h
  have hmem : ∀ (i : Nat) (o : Oper), ops[i]? = some o → o ∈ ops.toList := fun i o h => List.mem_of_getElem? (hget i o h)
  have hancs : ∀ (i : Nat) (o : Oper), i ∈ storeAt ops.toList → ops[i]? = some o → sub1 ((storeAt ops.toList).filter fun j => Nat.blt j i) (reachFrom ops.toList i (depsOf o)) = true ∧
      ops.toList.zipIdx.all (dstOk (reachFrom ops.toList i (depsOf o)) (storeTmps o.op)) = true := fun i o hi ho => by
    have := List.all_eq_true.1 hanc i hi
    unfold mixAt at this
    rw [hget i o ho] at this
    simpa only [Bool.and_eq_true] using this
  refine wpAny_mixed (ops' := (ops.toList.map (nopN N)).toArray) (st := storeAt ops.toList) (C := fun w => ∃ k, k ≤ (ops.toList.filter fun o => stateOp o.op).length ∧ HS E ν ρ1 (hps k) w) (D := fun k w => HS E ν ρ1 (hps k) w ∧ (k = 0 → w.heap.size = N)) (Qf := fun a' => ARel ν ρ1 r a')
    (by have := backB_ok' hback; simpa using this) (fun listed => ?_) (fun j => ?_) (fun i hi => ?_) (fun i hi => ?_) (fun k w hk h => ⟨k, by rw [← hlen]; exact hk, h.1⟩) (fun i o hi ho => ?_) (fun p q i j hpq hi hj listed hcl hrd => ?_) (fun i o hi ho listed hcl hrd t ht j o' ho' hd' => ?_)
    (fun k i o o' hki ho ho' => ?_) (fun a1 w1 ha1 hw1 => ?_) ops.size _ a w 0 (by simp) (fun i o _ hl => ?_) (Nat.zero_le _) (fun p i hp => by omega) (fun p i _ _ => ?_) ⟨by rw [e1]; exact hs1, fun _ => hN⟩ ?_
  · unfold Region.ready
    rw [hsz]
    refine List.filter_congr fun j _ => ?_
    rw [hat j]
    cases ops[j]? with
    | none => rfl
    | some o => simp only [Option.map_some, nopN_after]
  · rw [hat j]
    cases ops[j]? with
    | none => rfl
    | some o => simp [nopN_dst]
  · rw [hat i]
    cases ho : ops[i]? with
    | none => rfl
    | some o =>
      have : stateOp o.op = false := by
        cases h : stateOp o.op with
        | false => rfl
        | true => exact absurd ((storeAt_spec _ i).2 ⟨o, hget i o ho, h⟩) hi
      simp [nopN_same this]
  · obtain ⟨o, h1, h2⟩ := (storeAt_spec _ i).1 hi
    have h1' : ops[i]? = some o := by simpa using h1
    rcases hk o (List.mem_of_getElem? h1) with h | h
    · exfalso
      cases hop : o.op <;> rw [hop] at h h2 <;> simp [pureOp, stateOp, storeOp, allocOp] at h h2
    · exact ⟨o, nopN N o, h1', by rw [hat i, h1']; rfl, h.2.1, by rw [nopN_dst], by rw [nopN_guard]; exact h.2.1⟩
  · rcases hk o (hmem i o ho) with h | h
    · exact fun a w f args w' => pure_noEnter h a w f args w'
    · exact absurd ((storeAt_spec _ i).2 ⟨o, hget i o ho, h.1⟩) hi
  · obtain ⟨o, h1, h2⟩ := (storeAt_spec _ j).1 (List.mem_of_getElem? hj)
    have h1' : ops[j]? = some o := by simpa using h1
    have hs := (hancs j o (List.mem_of_getElem? hj) h1').1
    refine anc_listed hcl h1' hrd i (sub1_spec hs i (List.mem_filter.2 ⟨List.mem_of_getElem? hi, ?_⟩))
    have := sorted_lt hsorted p q i j hpq hi hj
    simpa [Nat.blt_eq] using this
  · have hs := (hancs i o hi ho).2
    have := List.all_eq_true.1 hs (o', j) (List.mem_zipIdx_iff_getElem?.2 (hget j o' ho'))
    simp only [dstOk, hd', Bool.or_eq_true, Bool.not_eq_true'] at this
    rcases this with h | h
    · rw [mem_memN ht] at h; cases h
    · exact anc_listed hcl ho hrd j (memN_mem h)
  · obtain ⟨o2, h1, h2⟩ := stores_eq ops.toList k i hki
    rw [hget i o ho] at h1; cases h1
    rw [hat i, ho] at ho'
    cases ho'
    have hst2 : stateOp o.op = true := (List.mem_filter.1 (List.mem_of_getElem? h2)).2
    have hkk := hk o (hmem i o ho)
    cases hso : storeOp o.op with
    | true =>
      left
      have hal : allocOp o.op = false := by cases hop : o.op <;> rw [hop] at hso <;> simp [storeOp, allocOp] at hso ⊢
      refine ⟨?_, fun a1 a2 ha2 htm w1 hw1 => ?_⟩
      · rcases hkk with h | ⟨_, _, h | h⟩
        · exfalso
          cases hop : o.op <;> rw [hop] at h hso <;> simp [pureOp, storeOp] at h hso
        · rw [hal] at h; cases h
        · exact h
      obtain ⟨w', g1, g2⟩ := e3 k o h2 hso ρ1 a2 ⟨ha2.defers, ha2.size, ha2.slot, ha2.gl⟩ w1 hw1.1
      refine ⟨w', ?_, g2, fun h => by omega⟩
      rw [← g1]
      congr 1
      cases hop : o.op <;> rw [hop] at hso <;> simp only [storeOp] at hso <;> first | cases hso | skip
      rename_i t x y
      rw [hop] at htm
      have hx : a1.eval x = a2.eval x := eval_of_tmps fun t ht => htm t (by simp [storeTmps, ht])
      have hy : a1.eval y = a2.eval y := eval_of_tmps fun t ht => htm t (by simp [storeTmps, ht])
      simp only [execOp, hop, hx, hy]
    | false =>
      right
      have hal : allocOp o.op = true := by unfold stateOp at hst2; rw [hso, Bool.false_or] at hst2; exact hst2
      have hk0 : k = 0 := by
        rcases Nat.eq_zero_or_pos k with h | h
        · exact h
        · have h3 : ((ops.toList.filter fun o => stateOp o.op).drop 1)[k - 1]? = some o := by
            rw [List.getElem?_drop, show 1 + (k - 1) = k from by omega]
            exact h2
          have := List.all_eq_true.1 hfirst o (List.mem_of_getElem? h3)
          rw [hso] at this; cases this
      subst hk0
      cases hop : o.op <;> rw [hop] at hal <;> simp only [allocOp] at hal <;> first | cases hal | skip
      rename_i t
      obtain ⟨_, h5⟩ := e5 o t h2 hop
      refine ⟨.pointer (some ⟨N, 0, none⟩), fun a0 w0 => ?_, fun a0 w1 hw1 => ?_⟩
      · have en : (nopN N o).op = .move (.const (.pointer (some ⟨N, 0, none⟩))) := by
          unfold nopN
          rw [if_neg (by rw [hso]; decide), if_pos (by rw [hop]; rfl)]
        simp [execOp, en, Act.eval]
      · have hw2 := hw1.1
        rw [e1] at hw2
        obtain ⟨w', g1, g2⟩ := h5 ρ1 w1 hw2 a0
        rw [hw1.2 rfl] at g1 g2
        rw [hee] at g2
        exact ⟨w', g1, g2, fun h => by omega⟩
  · refine hQ ρ1 a1 w1 ⟨⟨ha1.defers, ha1.size, ha1.slot, fun e he => by cases he⟩, ?_⟩
    have hw1 := hw1.1
    rw [hlen, e2] at hw1
    exact hw1
  · have h0 : (Array.replicate ops.size false).getD i false = false := by
      rw [Array.getD_eq_getD_getElem?]
      rcases Nat.lt_or_ge i ops.size with h | h
      · rw [Array.getElem?_eq_getElem (by simpa using h)]; simp
      · rw [Array.getElem?_eq_none (by simpa using h)]; rfl
    rw [h0] at hl; cases hl
  · rw [Array.getD_eq_getD_getElem?]
    rcases Nat.lt_or_ge i ops.size with h | h
    · rw [Array.getElem?_eq_getElem (by simpa using h)]; simp
    · rw [Array.getElem?_eq_none (by simpa using h)]; rfl
  · have hwq := hr ρ1 a ⟨⟨w, hs1⟩, by rw [hn1], by rw [hn1]⟩ ha1 (fun w => ∃ k, k ≤ (ops.toList.filter fun o => stateOp o.op).length ∧ HS E ν ρ1 (hps k) w) (fun w ⟨k, hk, h⟩ => ⟨hps k, h, e4 k hk⟩) (fun w w' ⟨k, hk, h⟩ hb => ⟨k, hk, h.of_below hb⟩) ⟨w, 0, Nat.zero_le _, by rw [e1]; exact hs1⟩
    rw [← lexB_nopN N] at hB
    simp only [Region.lexB, Bool.and_eq_true] at hB
    have := wpAnyQ_lex (P := P) (C := fun w => ∃ k, k ≤ (ops.toList.filter fun o => stateOp o.op).length ∧ HS E ν ρ1 (hps k) w) (md := .any) hB.1 (ops.toList.map (nopN N)) 0 (Array.replicate (ops.toList.map (nopN N)).toArray.size false) a (by simp) (by simpa using hB.2) hwq
    simpa using this
theorem evMixed_sat (hS : SigsOK P I gK S F) (hE : E.Ok gK) (hI : ∀ w, Fr E.W E.w0 w → I w) {ops : Array Oper} {s : St} (hm : mixOk ops.toList = true) (hB : Region.lexB .any (ops.toList.map (nopN 0)).toArray = true) (hback : backB ops.toList = true) :
    M.sat F ν (evMixed P S ops.toList s) (fun s' => ∀ ρ a w, RR ν E ρ ⟨s, []⟩ a w → ∀ Q : Exit → Act → World → Prop, (∀ ρ' a' w', RR ν E ρ' ⟨s', []⟩ a' w' → Q .normal a' w') →
      wpAny P .any ops Q ops.size (Array.replicate ops.size false) a w) := by
  intro n a n' e d h1 h2 h3
  unfold evMixed at h1
  exact evMixedAt_sat (E := E) hS hE hI hm hB hback n a n' e d h1 h2 h3
end
end Go.Sx

namespace Go.Sx
open Go.RowKit

section
variable {P : Program}

theorem closed_push {head : Array Oper} {last : Oper} {listed : Array Bool} (hs : listed.size = head.size) (hc : Closed head listed) : Closed (head.push last) (listed.push false) := by
  intro i o ho hl e he hb
  rw [getD_push_false] at hl ⊢
  have hi : i < head.size := by
    rcases Nat.lt_or_ge i head.size with h | h
    · exact h
    · rw [Array.getD_eq_getD_getElem?, Array.getElem?_eq_none (by omega)] at hl; cases hl
  rw [Array.getElem?_push, if_neg (by omega)] at ho
  exact hc i o ho hl e he hb

theorem wpAny_push2 {head : Array Oper} {last : Oper} {Q Qh : Exit → Act → World → Prop} (hb : BackOk .any (head.push last)) (hw : ∀ i, i < head.size → i ∈ reachFrom (head.push last).toList head.size (depsOf last))
    (hq : ∀ e a w, e ≠ .normal → Qh e a w → Q e a w) (hl : ∀ a w, Qh .normal a w → wpOp P (head.push last) Q head.size (Q .normal) a w) :
    ∀ (fuel : Nat) (listed : Array Bool) (a : Act) (w : World), listed.size = head.size → Closed head listed → wpAny P .any head Qh fuel listed a w → wpAny P .any (head.push last) Q (fuel + 1) (listed.push false) a w := by
  have hbh : BackOk .any head := fun i o ho => hb i o (by
    have hi : i < head.size := by
      rcases Nat.lt_or_ge i head.size with h | h
      · exact h
      · rw [Array.getElem?_eq_none h] at ho; cases ho
    rw [Array.getElem?_push, if_neg (by omega)]; exact ho)
  have hlast : (head.push last)[head.size]? = some last := by simp
  have hbl := hb head.size last hlast
  have r1 : ∀ listed : Array Bool, listed.size = head.size → ∀ i, i ∈ Region.ready .any (head.push last) (listed.push false) → i = head.size ∨ (i < head.size ∧ i ∈ Region.ready .any head listed) := by
    intro listed hs i hi
    obtain ⟨h1, oi, h2, h3⟩ := mem_ready.1 hi
    rcases Nat.lt_trichotomy i head.size with h | h | h
    · right
      refine ⟨h, mem_ready.2 ⟨by rw [← getD_push_true (by omega)]; exact h1, oi, by rw [Array.getElem?_push, if_neg (by omega)] at h2; exact h2, fun e he hbd => by rw [← getD_push_false]; exact h3 e he hbd⟩⟩
    · exact .inl h
    · rw [Array.getElem?_eq_none (by simp; omega)] at h2; cases h2
  have r2 : ∀ listed : Array Bool, listed.size = head.size → Closed head listed → head.size ∈ Region.ready .any (head.push last) (listed.push false) → Region.ready .any head listed = [] := by
    intro listed hs hc hi
    have hall := anc_listed (closed_push hs hc) hlast hi
    apply List.eq_nil_iff_forall_not_mem.2
    intro j hj
    obtain ⟨h4, oj, h5, _⟩ := mem_ready.1 hj
    have hjl : j < head.size := by
      rcases Nat.lt_or_ge j head.size with h | h
      · exact h
      · rw [Array.getElem?_eq_none h] at h5; cases h5
    have := hall j (hw j hjl)
    rw [getD_push_false, ← getD_true_false (by omega), h4] at this
    cases this
  have r3 : ∀ listed : Array Bool, listed.size = head.size → Region.ready .any head listed = [] → head.size ∈ Region.ready .any (head.push last) (listed.push false) := by
    intro listed hs h0
    refine mem_ready.2 ⟨getD_push_at hs true, last, hlast, fun e he hbd => ?_⟩
    rw [getD_push_false]
    exact all_listed hs hbh h0 e.on (hbl.1 e he hbd)
  have rend : ∀ listed : Array Bool, listed.size = head.size → Region.ready .any head listed = [] → Region.ready .any (head.push last) ((listed.push false).setIfInBounds head.size true) = [] := by
    intro listed hs h0
    apply List.eq_nil_iff_forall_not_mem.2
    intro j hj
    obtain ⟨h4, oj, h5, _⟩ := mem_ready.1 hj
    have hjl : j < head.size + 1 := by
      rcases Nat.lt_or_ge j (head.size + 1) with h | h
      · exact h
      · rw [Array.getElem?_eq_none (by simp; omega)] at h5; cases h5
    by_cases hjn : j = head.size
    · subst hjn
      rw [Array.getD_eq_getD_getElem?, Array.getElem?_setIfInBounds_self_of_lt (by simp [hs])] at h4
      cases h4
    · have := all_listed hs hbh h0 j (by omega)
      rw [getD_set_ne true (Ne.symm hjn), getD_push_true (by omega), getD_true_false (by omega), this] at h4
      cases h4
  have fin : ∀ (fuel : Nat) (listed : Array Bool) (a : Act) (w : World), listed.size = head.size → Region.ready .any head listed = [] → Q .normal a w →
      wpAny P .any (head.push last) Q fuel ((listed.push false).setIfInBounds head.size true) a w := by
    intro fuel listed a w hs h0 hn
    have he := rend listed hs h0
    cases fuel with
    | zero => exact ⟨he, hn⟩
    | succ f => exact ⟨fun _ => hn, fun i hi => by rw [he] at hi; cases hi⟩
  intro fuel
  induction fuel with
  | zero =>
    intro listed a w hs hc h
    refine ⟨fun h0 => ?_, fun i hi => ?_⟩
    · have := r3 listed hs h.1
      rw [h0] at this; cases this
    · rcases r1 listed hs i hi with rfl | ⟨_, hi'⟩
      · exact wpOp_mono (fun a' w' hn => fin 0 listed a' w' hs h.1 hn) (hl a w h.2)
      · rw [h.1] at hi'; cases hi'
  | succ fuel ih =>
    intro listed a w hs hc h
    refine ⟨fun h0 => ?_, fun i hi => ?_⟩
    · exfalso
      have hz : Region.ready .any head listed = [] := by
        apply List.eq_nil_iff_forall_not_mem.2
        intro j hj
        obtain ⟨h4, oj, h5, h6⟩ := mem_ready.1 hj
        have hjl : j < head.size := by
          rcases Nat.lt_or_ge j head.size with h | h
          · exact h
          · rw [Array.getElem?_eq_none h] at h5; cases h5
        have : j ∈ Region.ready .any (head.push last) (listed.push false) := mem_ready.2 ⟨by rw [getD_push_true (by omega)]; exact h4, oj, by rw [Array.getElem?_push, if_neg (by omega)]; exact h5, fun e he hbd => by rw [getD_push_false]; exact h6 e he hbd⟩
        rw [h0] at this; cases this
      have := r3 listed hs hz
      rw [h0] at this; cases this
    · rcases r1 listed hs i hi with rfl | ⟨hil, hi'⟩
      · have hz := r2 listed hs hc hi
        exact wpOp_mono (fun a' w' hn => fin (fuel + 1) listed a' w' hs hz hn) (hl a w (h.1 hz))
      · have h2 := h.2 i hi'
        have hset : (listed.push false).setIfInBounds i true = (listed.setIfInBounds i true).push false := by
          apply Array.ext'
          simp only [Array.toList_setIfInBounds, Array.toList_push]
          rw [List.set_append_left _ _ (by simpa using (show i < listed.size from by omega))]
        rw [hset]
        refine wpOp_change (by rw [Array.getElem?_push, if_neg (by omega)]) (fun o ho => ?_) (fun a' w' h' => ih _ a' w' (by simpa using hs) (hc.set hi') h') hq h2
        exact wanted_push (i := i) (by omega) (hbh i o ho).2

theorem closed_none (ops : Array Oper) (n : Nat) : Closed ops (Array.replicate n false) := by
  intro i o _ hl
  rw [Array.getD_eq_getD_getElem?, Array.getElem?_replicate] at hl
  split at hl <;> simp at hl

theorem wpAny_tails2 {ops : Array Oper} {Q : Exit → Act → World → Prop} (hb : BackOk .any ops) : ∀ (rest : List Oper) (head : Array Oper), ops.toList = head.toList ++ rest →
    (∀ i, head.size ≤ i → ∀ o, ops[i]? = some o → ∀ j, j < i → j ∈ reachFrom (ops.toList.take (i + 1)) i (depsOf o)) →
    ∀ a w, wpAny P .any head (fun e a w => match e with | .normal => wpList P ops Q rest a w | e => Q e a w) head.size (Array.replicate head.size false) a w →
    wpAny P .any ops Q ops.size (Array.replicate ops.size false) a w
  | [], head, ho, _, a, w, h => by
    have : head = ops := by apply Array.ext'; simpa using ho.symm
    subst this
    refine wpAny_mono (fun e a w hh => ?_) _ _ _ _ h
    cases e <;> exact hh
  | o :: rest, head, ho, hw, a, w, h => by
    have hpre : ∀ i, i < head.size + 1 → (head.push o)[i]? = ops[i]? := fun i hi => by
      have h1 : ops[i]? = ops.toList[i]? := by simp
      rw [h1, ho]
      by_cases hih : i < head.size
      · rw [List.getElem?_append_left (by simpa using hih), Array.getElem?_push, if_neg (by omega)]; simp
      · have : i = head.size := by omega
        subst this
        simp
    have hbp : BackOk .any (head.push o) := fun i x hx => hb i x (by
      rw [← hpre i (by
        rcases Nat.lt_or_ge i (head.size + 1) with h | h
        · exact h
        · rw [Array.getElem?_eq_none (by simp; omega)] at hx; cases hx)]
      exact hx)
    have ho' : ops[head.size]? = some o := by rw [← hpre _ (by omega)]; simp
    have htk : ops.toList.take (head.size + 1) = (head.push o).toList := by
      rw [ho, Array.toList_push]
      have : (head.toList ++ o :: rest) = (head.toList ++ [o]) ++ rest := by simp
      rw [this, List.take_left' (by simp)]
    refine wpAny_tails2 hb rest (head.push o) (by simp [ho]) (fun i hi x hx j hj => hw i (by simp at hi; omega) x hx j hj) a w ?_
    have := wpAny_push2 (P := P) (head := head) (last := o) (Q := fun e a w => match e with | .normal => wpList P ops Q rest a w | e => Q e a w) hbp
      (fun i hi => by rw [← htk]; exact hw head.size (Nat.le_refl _) o ho' i hi) (Qh := fun e a w => match e with | .normal => wpList P ops Q (o :: rest) a w | e => Q e a w)
      (fun e a w hne hh => by cases e <;> first | exact absurd rfl hne | exact hh)
      (fun a w hh => by
        simp only [wpList] at hh
        unfold wpOp
        have e1 : (head.push o)[head.size]? = some o := by simp
        simp only [e1]
        have hwd : Region.wanted o (yielded (head.push o) a.tmps) = Region.wanted o (yielded ops a.tmps) := by
          unfold Region.wanted
          cases hgd : o.guard with
          | none => rfl
          | some p =>
            obtain ⟨j, b⟩ := p
            have := (hb head.size o ho').2 j b hgd
            simp only [yielded, hpre j (by omega)]
        rw [hwd]
        split
        · rename_i hwt
          simp only [hwt, if_true] at hh
          exact operWp_mono (fun a w h => h) (fun e a w hne h => by cases e <;> first | exact absurd rfl hne | exact h) hh
        · rename_i hwt
          simp only [hwt] at hh
          exact hh) head.size (Array.replicate head.size false) a w (by simp) (closed_none _ _) h
    have hr : (Array.replicate head.size false).push false = Array.replicate (head.push o).size false := by
      simp [Array.replicate_succ]
    rw [hr] at this
    simpa using this

def StepTo (P : Program) (m : Sem Next) (w : World) (K : Value → World → Prop) : Prop :=
  (∃ v w', m.run P w = .ok (.value v) w' ∧ K v w') ∨ ∃ f args w1, m.run P w = .ok (.enter f args) w1 ∧ Calls P f args w1 fun e w' => ∃ v, e = .returned v ∧ K v w'

theorem wpAny_many {Θ : Type} {ops : Array Oper} {ops' : Θ → Array Oper} {st : List Nat} {val : Nat → Θ → Value} {C : Θ → World → Prop} {D : Array Bool → Θ → World → Prop} {Sm : Array Bool → Θ → Θ → Prop}
    {Qf : Θ → Act → Prop} {Q' : Exit → Act → World → Prop} {tm : Nat → List Nat} (hb : BackOk .any ops)
    (hready : ∀ θ listed, Region.ready .any (ops' θ) listed = Region.ready .any ops listed) (hdst : ∀ θ (j : Nat), ((ops' θ)[j]?).bind (·.dst) = (ops[j]?).bind (·.dst))
    (hns : ∀ θ (i : Nat), i ∉ st → (ops' θ)[i]? = ops[i]?)
    (hst : ∀ i ∈ st, ∃ o, ops[i]? = some o ∧ o.guard = none ∧ ∀ θ, ∃ o', (ops' θ)[i]? = some o' ∧ o'.guard = none ∧ o'.dst = o.dst ∧ ∀ (a : Act) (w : World), (execOp a.eval o').run P w = .ok (.value (val i θ)) w)
    (hD : ∀ listed θ θ' w, D listed θ w → Sm listed θ θ' → D listed θ' w) (hDC : ∀ listed θ w, D listed θ w → C θ w)
    (hrefl : ∀ listed θ, Sm listed θ θ) (htrans : ∀ listed i θ θ' θ'', Sm listed θ θ' → Sm (listed.setIfInBounds i true) θ' θ'' → Sm listed θ θ'')
    (hval : ∀ (listed : Array Bool) i θ θ', i ∈ st → listed.size = ops.size → Sm (listed.setIfInBounds i true) θ θ' → val i θ' = val i θ)
    (hpure : ∀ (i : Nat) (o : Oper), i ∉ st → ops[i]? = some o → ∀ (a : Act) (w : World) f args w', (execOp a.eval o).run P w ≠ .ok (.enter f args) w')
    (hDset : ∀ (listed : Array Bool) i θ w, i ∉ st → D listed θ w → D (listed.setIfInBounds i true) θ w)
    (hop : ∀ (i : Nat) (o : Oper), i ∈ st → ops[i]? = some o → ∀ listed, Closed ops listed → i ∈ Region.ready .any ops listed → ∀ t ∈ tm i, ∀ (j : Nat) (o' : Oper), ops[j]? = some o' → o'.dst = some t → listed.getD j false = true)
    (hstep : ∀ (i : Nat) (o : Oper), i ∈ st → ops[i]? = some o → ∀ listed, listed.size = ops.size → Closed ops listed → i ∈ Region.ready .any ops listed → ∀ θ w, D listed θ w → ∀ a a' : Act, Qf θ a' → (∀ t ∈ tm i, a'.tmps[t]? = a.tmps[t]?) →
      StepTo P (execOp a.eval o) w fun v w' => ∃ θ', Sm listed θ θ' ∧ val i θ' = v ∧ D (listed.setIfInBounds i true) θ' w')
    (hQ : ∀ θ a w listed, (∀ i, i < ops.size → listed.getD i false = true) → Qf θ a → D listed θ w → Q' .normal a w) :
    ∀ (fuel : Nat) (listed : Array Bool) (a : Act) (w : World) (θ : Θ), listed.size = ops.size → Closed ops listed → D listed θ w → (∀ θ', Sm listed θ θ' → wpAnyQ P .any (ops' θ') (C θ') (Qf θ') fuel listed a) → wpAny P .any ops Q' fuel listed a w := by
  intro fuel
  induction fuel with
  | zero =>
    intro listed a w θ hs hcl hd h
    have h0 := h θ (hrefl _ _)
    have h1 := h0.1
    rw [hready] at h1
    exact ⟨h1, hQ θ a w listed (all_listed hs hb h1) h0.2 hd⟩
  | succ fuel ih =>
    intro listed a w θ hs hcl hd h
    refine ⟨fun h1 => ?_, fun i hi => ?_⟩
    · have h0 := h θ (hrefl _ _)
      exact hQ θ a w listed (all_listed hs hb h1) (h0.1 (by rw [hready]; exact h1)) hd
    · have hs' : (listed.setIfInBounds i true).size = ops.size := by simpa using hs
      have hcl' := hcl.set hi
      obtain ⟨hnl, oi, hoi, _⟩ := mem_ready.1 hi
      have hil : i < ops.size := by
        rcases Nat.lt_or_ge i ops.size with h | h
        · exact h
        · rw [Array.getElem?_eq_none h] at hoi; cases hoi
      by_cases him : i ∈ st
      · obtain ⟨o, e1, e2, e3⟩ := hst i him
        rw [hoi] at e1; cases e1
        have hwd : Region.wanted oi (yielded ops a.tmps) = true := by simp [Region.wanted, e2]
        -- one step of each
        have next : ∀ θ', Sm listed θ θ' → wpAnyQ P .any (ops' θ') (C θ') (Qf θ') fuel (listed.setIfInBounds i true) (a.put oi.dst (val i θ')) := by
          intro θ' hsm
          have hq := (h θ' hsm).2 i (by rw [hready]; exact hi)
          obtain ⟨o', e4, e5, e6, e7⟩ := e3 θ'
          have hwd' : Region.wanted o' (yielded (ops' θ') a.tmps) = true := by simp [Region.wanted, e5]
          unfold qOp at hq
          rw [e4] at hq
          simp only at hq
          rw [if_pos hwd'] at hq
          obtain ⟨v, hv, h4⟩ := hq
          have h3 := hv w (hDC _ _ _ (hD _ _ _ _ hd hsm))
          unfold Oper.quietAt at h3
          rw [e7 a w] at h3
          have hvv : val i θ' = v := h3.2
          rw [hvv, ← e6]
          exact h4
        have go : ∀ v w', (∃ θ', Sm listed θ θ' ∧ val i θ' = v ∧ D (listed.setIfInBounds i true) θ' w') → wpAny P .any ops Q' fuel (listed.setIfInBounds i true) (a.put oi.dst v) w' := by
          rintro v w' ⟨θ', hsm, rfl, hd'⟩
          refine ih _ _ w' θ' hs' hcl' hd' fun θ'' hsm' => ?_
          rw [← hval listed i θ' θ'' him hs hsm']
          exact next θ'' (htrans listed i θ θ' θ'' hsm hsm')
        obtain ⟨a', ha', htm⟩ := end_of_quiet fuel _ _ (next θ (hrefl _ _))
        have hst' := hstep i oi him hoi listed hs hcl hi θ w hd a a' ha' (fun t ht => by
          have hne : oi.dst ≠ some t := fun e => by
            have := hop i oi him hoi listed hcl hi t ht i oi hoi e
            rw [← getD_true_false (by omega), hnl] at this
            cases this
          rw [htm t (fun j o'' ho'' hd'' => ?_), put_tmps_ne hne]
          have hjd : (ops[j]?).bind (·.dst) = some t := by rw [← hdst θ j, ho'']; exact hd''
          cases hoj : ops[j]? with
          | none => rw [hoj] at hjd; cases hjd
          | some oj =>
            rw [hoj] at hjd
            have hjl : j < listed.size := by
              rcases Nat.lt_or_ge j ops.size with h | h
              · omega
              · rw [Array.getElem?_eq_none h] at hoj; cases hoj
            have := getD_set_true (i := i) (hop i oi him hoi listed hcl hi t ht j oj hoj hjd)
            rw [getD_true_false (by simpa using hjl)]
            exact this)
        unfold wpOp
        rw [hoi]
        simp only
        rw [if_pos hwd]
        refine .inl ?_
        unfold Oper.wp
        rcases hst' with ⟨v, w', hr, hk⟩ | ⟨f, args, w1, hr, hk⟩
        · rw [hr]
          exact go v w' hk
        · rw [hr]
          exact Calls.mono hk fun e w' ⟨v, he, hk⟩ => by subst he; exact go v w' hk
      · have hq := (h θ (hrefl _ _)).2 i (by rw [hready]; exact hi)
        unfold qOp at hq
        rw [hns θ i him, hoi] at hq
        simp only [yielded_congr (hdst θ)] at hq
        unfold wpOp
        rw [hoi]
        simp only
        have each : ∀ θ', Sm listed θ θ' → (if Region.wanted oi (yielded ops a.tmps) = true then ∃ v, (∀ w, C θ' w → oi.quietAt P a (C θ') w v) ∧ wpAnyQ P .any (ops' θ') (C θ') (Qf θ') fuel (listed.setIfInBounds i true) (a.put oi.dst v) else wpAnyQ P .any (ops' θ') (C θ') (Qf θ') fuel (listed.setIfInBounds i true) (a.put oi.dst undef)) := by
          intro θ' hsm
          have hq := (h θ' hsm).2 i (by rw [hready]; exact hi)
          unfold qOp at hq
          rw [hns θ' i him, hoi] at hq
          simp only [yielded_congr (hdst θ')] at hq
          exact hq
        split
        · rename_i hwt
          rw [if_pos hwt] at hq
          refine .inl ?_
          have hne := hpure i oi him hoi a w
          have hval2 : ∀ θ', Sm listed θ θ' → ∃ v, Oper.quietUpon P (C θ') w v ((execOp a.eval oi).run P w) ∧ wpAnyQ P .any (ops' θ') (C θ') (Qf θ') fuel (listed.setIfInBounds i true) (a.put oi.dst v) := by
            intro θ' hsm
            have := each θ' hsm
            rw [if_pos hwt] at this
            obtain ⟨v, h1, h2⟩ := this
            exact ⟨v, h1 w (hDC _ _ _ (hD _ _ _ _ hd hsm)), h2⟩
          have sm1 : ∀ θ', Sm (listed.setIfInBounds i true) θ θ' → Sm listed θ θ' := fun θ' hsm => htrans listed i θ θ θ' (hrefl _ _) hsm
          unfold Oper.wp
          generalize (execOp a.eval oi).run P w = r at *
          obtain ⟨v0, h3, _⟩ := hval2 θ (hrefl _ _)
          cases r with
          | ok n w' =>
            cases n <;> simp only [Oper.quietUpon] at h3 <;> simp only [Oper.upon]
            case value u =>
              obtain ⟨e1, _⟩ := h3
              rw [e1]
              refine ih _ _ w θ hs' hcl' (hDset _ _ _ _ him hd) fun θ' hsm => ?_
              obtain ⟨v, h4, h5⟩ := hval2 θ' (sm1 θ' hsm)
              have h4 : w' = w ∧ u = v := h4
              rw [h4.2]
              exact h5
            case skip =>
              obtain ⟨e1, _⟩ := h3
              rw [e1]
              refine ih _ _ w θ hs' hcl' (hDset _ _ _ _ him hd) fun θ' hsm => ?_
              obtain ⟨v, h4, h5⟩ := hval2 θ' (sm1 θ' hsm)
              have h4 : w' = w ∧ v = undef := h4
              rw [h4.2] at h5
              exact h5
            case enter f args => exact absurd rfl (hne f args w')
          | halt x w' => simp only [Oper.quietUpon] at h3
        · rename_i hwt
          rw [if_neg hwt] at hq
          refine ih _ _ w θ hs' hcl' (hDset _ _ _ _ him hd) fun θ' hsm => ?_
          have := each θ' (htrans listed i θ θ θ' (hrefl _ _) hsm)
          rw [if_neg hwt] at this
          exact this
end

section
variable {F : FEnv} {E : Env} {ν : Nat → DV}

theorem HS.grow {ρ ρ' : Nat → Loc} {hp hp' : List (Option Blk)} {w w' : World} {base : Nat} {N : Nat → Prop} (h : HS E ν ρ hp w) (hb : Below w.heap.size w w') (h0 : E.n0 ≤ base) (hl : E.n0 ≤ hp'.length) (hρ : ∀ b, b < base → ρ' b = ρ b)
    (hc : ∀ b bk, nth hp' b = some bk → (nth hp b = some bk ∧ ρ' b = ρ b ∧ bk.lt base = true) ∨ (BlkRel E ν ρ' w' (ρ' b) bk ∧ ((ρ' b).nil = true ∨ w.heap.size ≤ (ρ' b).blk ∨ (bk.own = false ∧ ∃ j bj, nth hp j = some bj ∧ bj.own = false ∧ (ρ j).nil = false ∧ (ρ' b).blk = (ρ j).blk)) ∧ N b))
    (hn : ∀ b b' bk bk', N b → N b' → nth hp' b = some bk → bk.own = true → nth hp' b' = some bk' → b ≠ b' → (ρ' b).nil = false → (ρ' b').nil = false → (ρ' b).blk ≠ (ρ' b').blk) : HS E ν ρ' hp' w' := by
  have hblk : ∀ b bk, nth hp b = some bk → ρ' b = ρ b → (ρ' b).nil = false → (ρ' b).blk < w.heap.size := fun b bk hb1 he hnil => by
    rw [he] at hnil ⊢
    exact (h.heap.blk b bk hb1).lt hnil
  refine ⟨⟨fun b bk hbk => ?_, fun b b' bk bk' hbk ho hbk' hne hn1 hn2 => ?_⟩, fun b bk hbk => ?_, h.fr.trans (Fr.of_below hb), hl, fun j hj => by rw [hρ j (by omega)]; exact h.keep j hj⟩
  · rcases hc b bk hbk with ⟨h1, h2, h3⟩ | ⟨h1, _, _⟩
    · rw [h2]
      exact ((h.heap.blk b bk h1).of_block hb.size (fun hnil => hb.block _ ((h.heap.blk b bk h1).lt hnil))).keep hρ h3
    · exact h1
  · rcases hc b bk hbk with ⟨h1, h2, _⟩ | ⟨_, h2, h3⟩ <;> rcases hc b' bk' hbk' with ⟨g1, g2, _⟩ | ⟨_, g2, g3⟩
    · rw [h2] at hn1 ⊢
      rw [g2] at hn2 ⊢
      exact h.heap.apart b b' bk bk' h1 ho g1 hne hn1 hn2
    · have := hblk b bk h1 h2 hn1
      rcases g2 with g2 | g2 | ⟨_, j, bj, e1, e2, e3, e4⟩
      · rw [hn2] at g2; cases g2
      · omega
      · have hbj : b ≠ j := fun e => by
          subst e
          rw [h1] at e1; cases e1
          rw [ho] at e2; cases e2
        rw [e4, h2]
        exact h.heap.apart b j bk bj h1 ho e1 hbj (by rw [← h2]; exact hn1) e3
    · have := hblk b' bk' g1 g2 hn2
      rcases h2 with h2 | h2 | ⟨h2, _⟩
      · rw [hn1] at h2; cases h2
      · omega
      · rw [ho] at h2; cases h2
    · exact hn b b' bk bk' h3 g3 hbk ho hbk' hne hn1 hn2
  · rcases hc b bk hbk with ⟨h1, h2, _⟩ | ⟨_, h2, _⟩
    · rw [h2]; exact h.old b bk h1
    · rcases h2 with h2 | h2 | ⟨ho, j, bj, e1, e2, e3, e4⟩
      · exact .inl h2
      · exact .inr (.inl (Nat.le_trans h.fr.size h2))
      · rcases h.old j bj e1 with h | h | h | ⟨_, h⟩
        · rw [e3] at h; cases h
        · exact .inr (.inl (by rw [e4]; exact h))
        · exact .inr (.inr (.inl (by rw [e4]; exact h)))
        · exact .inr (.inr (.inr ⟨ho, by rw [e4]; exact h⟩))
end
end Go.Sx

namespace Go.Sx
open Go.RowKit
section
variable {P : Program} {I : World → Prop} {S : Sigs} {F : FEnv} {E : Env} {gK : Nat} {ν : Nat → DV}

theorem Lf.eqB_conc {a b : Lf} (h : a.eqB b = true) (ρ : Nat → Loc) : a.conc ν ρ = b.conc ν ρ := by
  unfold Lf.eqB at h
  split at h
  · simp only [Bool.and_eq_true] at h
    have := kEq_eq h.1; subst this
    have := A.beq_den h.2 ν
    simp only [Lf.conc, A.int, this]
  · have := A.beq_den h ν
    simp only [Lf.conc, A.bool, this]
  · simp only [Bool.and_eq_true] at h
    have e1 := Nat.eq_of_beq_eq_true h.1
    have e2 := Nat.eq_of_beq_eq_true h.2
    subst e1; subst e2; rfl
  · rfl
  · have e1 := Nat.eq_of_beq_eq_true h
    subst e1; rfl
  · cases h
theorem lfsEqB_conc (ρ : Nat → Loc) : ∀ {a b : List Lf}, lfsEqB a b = true → a.map (Lf.conc ν ρ) = b.map (Lf.conc ν ρ)
  | [], [], _ => rfl
  | a :: l, b :: l', h => by
    simp only [lfsEqB, Bool.and_eq_true] at h
    simp only [List.map_cons, Lf.eqB_conc h.1 ρ, lfsEqB_conc ρ h.2]
  | [], _ :: _, h => by cases h
  | _ :: _, [], h => by cases h
theorem V.eqB_conc {a b : V} (h : a.eqB b = true) (ρ : Nat → Loc) : a.conc ν ρ = b.conc ν ρ := by
  unfold V.eqB at h
  split at h
  · simp only [V.conc, V1.conc, Lf.eqB_conc h ρ]
  · simp only [V.conc, V1.conc, lfsEqB_conc ρ h]
  · cases h
theorem vsEqB_conc (ρ : Nat → Loc) : ∀ {a b : List V}, vsEqB a b = true → a.map (V.conc ν ρ) = b.map (V.conc ν ρ)
  | [], [], _ => rfl
  | a :: l, b :: l', h => by
    simp only [vsEqB, Bool.and_eq_true] at h
    simp only [List.map_cons, V.eqB_conc h.1 ρ, vsEqB_conc ρ h.2]
  | [], _ :: _, h => by cases h
  | _ :: _, [], h => by cases h

theorem Lf.inB_conc {p : Nat → Bool} {a : Lf} (h : a.inB p = true) {ρ ρ' : Nat → Loc} (hρ : ∀ q, p q = true → ρ' q = ρ q) : a.conc ν ρ' = a.conc ν ρ := by
  unfold Lf.inB at h
  split at h
  · simp only [Lf.conc, hρ _ h]
  · simp only [Lf.conc, hρ _ h]
  · cases h
  · cases h
  · cases h
  · rename_i h1 h2 h3 h4 h5
    cases a with
    | i k a => rfl
    | b a => rfl
    | p q o => exact absurd rfl (h3 q o)
    | gp g o => exact absurd rfl (h4 g o)
    | nilp => rfl
    | vec q => exact absurd rfl (h2 q)
    | fnp f bs => exact absurd rfl (h5 f bs)
    | v x => rfl
    | e t a i => cases t <;> rfl
theorem V.inB_conc {p : Nat → Bool} {a : V} (h : a.inB p = true) {ρ ρ' : Nat → Loc} (hρ : ∀ q, p q = true → ρ' q = ρ q) : a.conc ν ρ' = a.conc ν ρ := by
  have key : ∀ l : List Lf, l.all (Lf.inB p) = true → l.map (Lf.conc ν ρ') = l.map (Lf.conc ν ρ) := fun l hl =>
    List.map_congr_left fun x hx => Lf.inB_conc (List.all_eq_true.1 hl x hx) hρ
  have key1 : ∀ v : V1, v.cells.all (Lf.inB p) = true → v.conc ν ρ' = v.conc ν ρ := fun v hv => by
    cases v with
    | one l =>
      have : l.inB p = true := by simpa [V1.cells] using hv
      simp only [V1.conc, Lf.inB_conc this hρ]
    | agg l => simp only [V1.conc, key l hv]
  cases a with
  | s v =>
    cases v with
    | one l => exact key1 (.one l) (by simpa [V.inB, V1.cells] using h)
    | agg l => exact key1 (.agg l) h
  | t l =>
    simp only [V.conc]
    congr 2
    exact List.map_congr_left fun x hx => key1 x (List.all_eq_true.1 h x hx)

theorem callee_run {o : Oper} {x : Operand} {args : List Operand} (hc : calleeOf o.op = some (x, args)) {r : RS} {f : Nat} {vs : List V} (hf : fnOf (rd r [] x) = some (f, [])) (hvs : rdAll r [] args = some vs) {ρ : Nat → Loc} {a : Act} (ha : ARel ν ρ r a) (w : World) :
    (callFunc f (vs.map (V.conc ν ρ)).toArray).run P w = .ok (.enter f (vs.map (V.conc ν ρ)).toArray) w → (execOp a.eval o).run P w = .ok (.enter f (vs.map (V.conc ν ρ)).toArray) w := by
  intro h4
  cases hop : o.op <;> rw [hop] at hc <;> simp only [calleeOf] at hc <;> try cases hc
  rename_i c
  split at hc
  · rename_i y hcal
    cases hc
    have hctx : CtxOk [] a := fun p hp => by simp at hp
    have h1 := rdAll_spec ha hctx hvs
    have h0 := fnOf_spec ha hctx hf
    have h2 : c.args.map a.eval = (vs.map (V.conc ν ρ)).toArray := by
      apply Array.ext'
      simpa using h1
    rw [← h2] at h4 ⊢
    simp [execOp, hop, resolve, hcal, h0, Deferred.ofValue, invoke, capsConc]
    exact h4
  · cases hc

theorem callee_eval {o : Oper} {a a' : Act} (hc : (calleeOf o.op).isSome = true) (h : ∀ t ∈ callTmps o.op, a'.tmps[t]? = a.tmps[t]?) : execOp a.eval o = execOp a'.eval o := by
  cases hop : o.op <;> rw [hop] at hc <;> simp only [calleeOf] at hc <;> try cases hc
  rename_i c
  split at hc
  · rename_i y hcal
    have ht : ∀ z : Operand, (z = y ∨ z ∈ c.args.toList) → a.eval z = a'.eval z := fun z hz => by
      refine eval_of_tmps fun t ht => h t ?_
      rw [hop]
      simp only [callTmps, calleeOf, hcal]
      rcases hz with rfl | hz
      · exact List.mem_append_left _ ht
      · exact List.mem_append_right _ (List.mem_flatMap.2 ⟨z, hz, ht⟩)
    have hargs : c.args.map a.eval = c.args.map a'.eval := by
      apply Array.ext'
      simp only [Array.toList_map]
      exact List.map_congr_left fun z hz => ht z (.inr hz)
    simp only [execOp, hop, resolve, hcal, hargs, ht y (.inl rfl)]
  · cases hc

def readEnv (hp : List (Option Blk)) (ρ : Nat → Loc) (w : World) : Env :=
  ⟨fun _ => False, fun b => ∃ j bk, nth hp j = some bk ∧ (ρ j).nil = false ∧ (ρ j).blk = b, w, 0, ρ⟩
theorem readEnv_ok {hp : List (Option Blk)} {ρ : Nat → Loc} {w : World} (h : gK ≤ w.heap.size) : (readEnv hp ρ w).Ok gK := ⟨h, fun _ hb => hb.elim⟩
theorem HS.read {ρ : Nat → Loc} {hp hc : List (Option Blk)} {w : World} (h : HS E ν ρ hp w) (hc1 : ∀ j bk, nth hc j = some bk → nth hp j = some bk ∧ bk.flat = true ∧ bk.own = false) : HS (readEnv hc ρ w) ν ρ hc w :=
  ⟨⟨fun j bk hj => (h.heap.blk j bk (hc1 j bk hj).1).flat (hc1 j bk hj).2.1, fun j j' bk bk' hj ho => by rw [(hc1 j bk hj).2.2] at ho; cases ho⟩,
   fun j bk hj => by
     cases hn : (ρ j).nil with
     | true => exact .inl rfl
     | false => exact .inr (.inr (.inr ⟨(hc1 j bk hj).2.2, j, bk, hj, hn, rfl⟩)),
   Fr.refl _ _, Nat.zero_le _, fun j hj => absurd hj (Nat.not_lt_zero _)⟩

theorem nth_frz {l : List (Option Blk)} {j : Nat} {bk : Blk} (h : nth (l.map frz) j = some bk) : nth l j = some bk ∧ bk.flat = true ∧ bk.own = false := by
  induction l generalizing j with
  | nil => cases j <;> simp [nth] at h
  | cons x l ih =>
    cases j with
    | zero =>
      simp only [List.map_cons, nth] at h ⊢
      unfold frz at h
      split at h
      · split at h
        · rename_i hc
          cases h
          simp only [Bool.and_eq_true, Bool.not_eq_true'] at hc
          exact ⟨rfl, hc.1, hc.2⟩
        · cases h
      · cases h
    | succ j => exact ih (by simpa [nth] using h)

def CallFact (P : Program) (I : World → Prop) (gK : Nat) (ν : Nat → DV) (f : Nat) (vs : List V) (v : V) (hcall : List (Option Blk)) (news : List (Option Blk)) : Prop :=
  ∀ (E2 : Env), E2.Ok gK → ∀ ρ w, (∀ v ∈ vs, V.good ν v) → HS E2 ν ρ hcall w → I w →
    (callFunc f (vs.map (V.conc ν ρ)).toArray).run P w = .ok (.enter f (vs.map (V.conc ν ρ)).toArray) w ∧
    Calls P f (vs.map (V.conc ν ρ)).toArray w fun e w' => ∃ ρ' hp1, (∀ j, j < hcall.length → ρ' j = ρ j) ∧ HS E2 ν ρ' hp1 w' ∧ (∀ p, nth news p ≠ none → nth hp1 (hcall.length + p) = nth news p) ∧ e = .returned (v.conc ν ρ')
theorem drop_nth {α : Type} (l : List (Option α)) (n p : Nat) : nth (l.drop n) p = nth l (n + p) := by
  induction n generalizing l with
  | zero => simp
  | succ n ih =>
    cases l with
    | nil => simp [nth]
    | cons x l =>
      rw [List.drop_succ_cons, ih, show n + 1 + p = (n + p) + 1 from by omega]
      rfl
theorem callFact_sat (hS : SigsOK P I gK S F) {f : Nat} {vs : List V} {hcall : List (Option Blk)} : M.sat F ν (evCall P S f vs hcall) (fun res =>
    match res with
    | .val v => CallFact P I gK ν f vs v hcall []
    | .hp (some v) hp1 => CallFact P I gK ν f vs v hcall (hp1.drop hcall.length)
    | .hp none _ => True) := by
  refine sat_mono (sat_all (ι := { E2 : Env // E2.Ok gK }) fun E2 => evCall_sat (E := E2.1) hS E2.2 (f := f) (vs := vs) (hp := hcall)) fun res h => ?_
  cases res with
  | val v =>
    intro E2 hE2 ρ w hg hh hI
    obtain ⟨h1, _, h3⟩ := h ⟨E2, hE2⟩ ρ w hg hh hI
    exact ⟨h1, h3.mono fun e w' ⟨he, hb⟩ => ⟨ρ, hcall, fun _ _ => rfl, hh.of_below hb, fun p hp => absurd (by cases p <;> rfl) hp, he⟩⟩
  | hp v hp1 =>
    cases v with
    | none => trivial
    | some v =>
      intro E2 hE2 ρ w hg hh hI
      obtain ⟨h1, h3⟩ := h ⟨E2, hE2⟩ ρ w hg hh hI
      exact ⟨h1, h3.mono fun e w' ⟨x, he, ρ', k1, k2, k3⟩ => ⟨ρ', hp1, k1, k2, fun p _ => (drop_nth _ _ _).symm, by rw [he, (k3 v rfl).2]⟩⟩

def acnt (l : List Oper) (i : Nat) : Nat := ((l.take i).filter fun o => allocOp o.op).length

structure ManyOK (P : Program) (I : World → Prop) (gK : Nat) (ν : Nat → DV) (E : Env) (ops : Array Oper) (b0 : Nat) (hc : List (Option Blk)) (l : List Oper) (b : Nat) (r : RS) (hn : List (Option Blk)) (r' : RS) (hn' : List (Option Blk)) (es : List (Nat × List V × V)) (s : Nat → Nat) : Prop where
  len : es.length = l.length
  hp : r'.st.hp = r.st.hp
  s0 : s 0 = hn.length
  sn : s l.length = hn'.length
  mono : ∀ i, i < l.length → s i ≤ s (i + 1)
  pre : hn'.take hn.length = hn
  quiet : ∀ ρ a, ARel ν ρ r a → (∃ w, HS E ν ρ r.st.hp w) → ∀ C : World → Prop, C = (fun w => HS E ν ρ r.st.hp w) → ∀ ops' : Array Oper, (∀ j : Nat, (ops'[j]?).bind (·.dst) = (ops[j]?).bind (·.dst)) →
    ∀ Q : Act → Prop, (∀ a', ARel ν ρ r' a' → Q a') → wpQuiet P ops' C Q (List.zipWith (fun o e => nopW (e.2.2.conc ν ρ) o) l es) a
  alloc : ∀ (i : Nat) o, l[i]? = some o → allocOp o.op = true → ∃ e, es[i]? = some e ∧ e.2.2 = .s (.one (.p (b + acnt l i) (.c 0)))
  call : ∀ (i : Nat) o x args, l[i]? = some o → calleeOf o.op = some (x, args) → ∃ f vs v, es[i]? = some (f, vs, v) ∧
    v.inB (fun q => Nat.blt q b0 || (Nat.ble (hc.length + s i) q && Nat.blt q (hc.length + s (i + 1)))) = true ∧ v.easy = true ∧ CallFact P I gK ν f vs v (hc ++ (hn'.take (s i)).map frz) ((hn'.take (s (i + 1))).drop (s i))
  still : ∀ (i : Nat) o, l[i]? = some o → (calleeOf o.op).isSome = false → s (i + 1) = s i

def consS (n : Nat) (s : Nat → Nat) : Nat → Nat
  | 0 => n
  | i + 1 => s i

theorem take_take_le {α : Type} {l l1 : List α} {n m : Nat} (h : l.take m = l1) (hn : n ≤ m) : l.take n = l1.take n := by
  rw [← h, List.take_take, Nat.min_eq_left hn]

theorem ManyOK.cons {ops : Array Oper} {b0 : Nat} {hc : List (Option Blk)} {l : List Oper} {o : Oper} {e : Nat × List V × V} {b b1 : Nat} {r r1 r' : RS} {hn hn1 hn' : List (Option Blk)} {es : List (Nat × List V × V)} {s1 : Nat → Nat}
    (h : ManyOK P I gK ν E ops b0 hc l b1 r1 hn1 r' hn' es s1) (hb : ∀ i, b + acnt (o :: l) (i + 1) = b1 + acnt l i) (hhp : r1.st.hp = r.st.hp) (hpre : hn1.take hn.length = hn)
    (hq : ∀ ρ a, ARel ν ρ r a → (∃ w, HS E ν ρ r.st.hp w) → ∀ C : World → Prop, C = (fun w => HS E ν ρ r.st.hp w) → ∀ ops' : Array Oper, (∀ j : Nat, (ops'[j]?).bind (·.dst) = (ops[j]?).bind (·.dst)) →
      if Region.wanted (nopW (e.2.2.conc ν ρ) o) (yielded ops' a.tmps) = true then ∃ v, (∀ w, C w → (nopW (e.2.2.conc ν ρ) o).quietAt P a C w v) ∧ ARel ν ρ r1 (a.put (nopW (e.2.2.conc ν ρ) o).dst v) else ARel ν ρ r1 (a.put (nopW (e.2.2.conc ν ρ) o).dst undef))
    (ha : allocOp o.op = true → e.2.2 = .s (.one (.p b (.c 0))))
    (hcl : ∀ x args, calleeOf o.op = some (x, args) → ∃ f vs v, e = (f, vs, v) ∧ v.inB (fun q => Nat.blt q b0 || (Nat.ble (hc.length + hn.length) q && Nat.blt q (hc.length + hn1.length))) = true ∧ v.easy = true ∧ CallFact P I gK ν f vs v (hc ++ hn.map frz) (hn1.drop hn.length))
    (hst : (calleeOf o.op).isSome = false → hn1.length = hn.length) : ManyOK P I gK ν E ops b0 hc (o :: l) b r hn r' hn' (e :: es) (consS hn.length s1) := by
  have hle : hn.length ≤ hn1.length := by
    have := congrArg List.length hpre
    rw [List.length_take] at this
    omega
  refine ⟨by simp [h.len], h.hp.trans hhp, rfl, h.sn, fun i hi => ?_, ?_, fun ρ a hra hex C hC ops' hd Q hQ => ?_, fun i o' ho' hal => ?_, fun i o' x args ho' hc' => ?_, fun i o' ho' hc' => ?_⟩
  · cases i with
    | zero => show hn.length ≤ s1 0; rw [h.s0]; exact hle
    | succ i => exact h.mono i (by simpa using hi)
  · rw [take_take_le h.pre hle, hpre]
  · have := hq ρ a hra hex C hC ops' hd
    simp only [List.zipWith_cons_cons, wpQuiet]
    split
    · rename_i hw
      rw [if_pos hw] at this
      obtain ⟨v, h3, h4⟩ := this
      exact ⟨v, h3, h.quiet ρ _ h4 (by rw [hhp]; exact hex) C (by rw [hhp]; exact hC) ops' hd Q hQ⟩
    · rename_i hw
      rw [if_neg hw] at this
      exact h.quiet ρ _ this (by rw [hhp]; exact hex) C (by rw [hhp]; exact hC) ops' hd Q hQ
  · cases i with
    | zero =>
      simp at ho'; subst ho'
      exact ⟨e, rfl, by rw [ha hal]; rfl⟩
    | succ i =>
      obtain ⟨e', h1, h2⟩ := h.alloc i o' (by simpa using ho') hal
      exact ⟨e', by simpa using h1, by rw [h2, hb i]⟩
  · cases i with
    | zero =>
      simp at ho'; subst ho'
      obtain ⟨f, vs, v, h1, h2, h3, h4⟩ := hcl x args hc'
      refine ⟨f, vs, v, by simp [h1], ?_, h3, ?_⟩
      · show V.inB (fun q => Nat.blt q b0 || (Nat.ble (hc.length + hn.length) q && Nat.blt q (hc.length + s1 0))) v = true
        rw [h.s0]; exact h2
      · show CallFact P I gK ν f vs v (hc ++ (hn'.take hn.length).map frz) ((hn'.take (s1 0)).drop hn.length)
        rw [h.s0, h.pre, take_take_le h.pre hle, hpre]
        exact h4
    | succ i => exact h.call i o' x args (by simpa using ho') hc'
  · cases i with
    | zero =>
      simp at ho'; subst ho'
      show s1 0 = hn.length
      rw [h.s0]; exact hst hc'
    | succ i => exact h.still i o' (by simpa using ho') hc'

theorem nopW_not {v : Value} {o : Oper} (h : effOp o.op = false) : nopW v o = o := by unfold nopW; rw [h]; rfl
theorem nopW_eff {v : Value} {o : Oper} (h : effOp o.op = true) : nopW v o = { o with op := .move (.const v) } := by unfold nopW; rw [if_pos h]
theorem acnt_cons (o : Oper) (l : List Oper) (i : Nat) : acnt (o :: l) (i + 1) = (if allocOp o.op then 1 else 0) + acnt l i := by
  unfold acnt
  rw [List.take_succ_cons, List.filter_cons]
  split <;> simp <;> omega
theorem inB_mono {p p' : Nat → Bool} (h : ∀ q, p q = true → p' q = true) {v : V} (hv : v.inB p = true) : v.inB p' = true := by
  have key : ∀ a : Lf, a.inB p = true → a.inB p' = true := fun a ha => by
    cases a with
    | p q o => cases o <;> first | exact h _ ha | cases ha
    | vec q => exact h _ ha
    | gp _ _ => cases ha
    | fnp _ _ => cases ha
    | _ => rfl
  cases v with
  | s v =>
    cases v with
    | one l => exact key l hv
    | agg l => exact List.all_eq_true.2 fun x hx => key x (List.all_eq_true.1 hv x hx)
  | t l => exact List.all_eq_true.2 fun x hx => List.all_eq_true.2 fun y hy => key y (List.all_eq_true.1 (List.all_eq_true.1 hv x hx) y hy)
theorem eff_quiet {o : Oper} {r r1 : RS} {v : V} (he : effOp o.op = true) (hg : o.guard = none) (hgood : v.good ν) (hput : ∀ ρ a (x : Value), ARel ν ρ r a → (∀ u, some v = some u → u.good ν ∧ x = u.conc ν ρ) → ARel ν ρ r1 (a.put o.dst x))
    (ρ : Nat → Loc) (a : Act) (hra : ARel ν ρ r a) (C : World → Prop) (ops' : Array Oper) :
    if Region.wanted (nopW (v.conc ν ρ) o) (yielded ops' a.tmps) = true then ∃ u, (∀ w, C w → (nopW (v.conc ν ρ) o).quietAt P a C w u) ∧ ARel ν ρ r1 (a.put (nopW (v.conc ν ρ) o).dst u) else ARel ν ρ r1 (a.put (nopW (v.conc ν ρ) o).dst undef) := by
  rw [nopW_eff he]
  rw [if_pos (by simp [Region.wanted, hg])]
  refine ⟨v.conc ν ρ, fun w _ => ?_, hput ρ a _ hra fun u hu => by cases hu; exact ⟨hgood, rfl⟩⟩
  unfold Oper.quietAt
  simp [execOp, Act.eval, Oper.quietUpon]

theorem manyOps_sat (hS : SigsOK P I gK S F) (hE : E.Ok gK) (hn0 : S.n0 = E.n0) (hI : ∀ w, Fr E.W E.w0 w → I w) {ops : Array Oper} {b0 : Nat} {hc : List (Option Blk)} : ∀ (l : List Oper) (b : Nat) (r : RS) (hn : List (Option Blk)), (∀ o ∈ l, headOp o = true) →
    M.sat F ν (manyOps P S ops.toList b0 hc l b r hn) (fun z => ∃ s, ManyOK P I gK ν E ops b0 hc l b r hn z.1 z.2.1 z.2.2 s)
  | [], b, r, hn, _ => by
    unfold manyOps
    exact sat_pure ⟨fun _ => hn.length, rfl, rfl, rfl, rfl, fun i hi => by simp at hi, by simp, fun ρ a h _ C _ ops' _ Q hQ => hQ a h, fun i o h => by simp at h, fun i o x args h => by simp at h, fun i o h => by simp at h⟩
  | o :: l, b, r, hn, hl => by
    have hh := hl o (by simp)
    have hl' : ∀ o' ∈ l, headOp o' = true := fun o' h' => hl o' (List.mem_cons_of_mem _ h')
    unfold manyOps
    refine sat_ite (fun hal => ?_) (fun hal => ?_)
    · have heff : effOp o.op = true := by unfold effOp; rw [hal]; rfl
      have hg : o.guard = none := by
        unfold headOp at hh
        rw [heff] at hh
        simpa using hh
      have hno : calleeOf o.op = none := by cases hop : o.op <;> rw [hop] at hal <;> simp [allocOp] at hal; rfl
      refine sat_bind put_sat fun r1 hr1 => sat_bind (manyOps_sat hS hE hn0 hI l (b + 1) r1 hn hl') fun z ⟨s, hz⟩ => sat_pure ⟨consS hn.length s, ?_⟩
      refine hz.cons (fun i => by rw [acnt_cons, if_pos hal]; omega) hr1.1 (by simp) (fun ρ a hra hex C hC ops' hd => ?_) (fun _ => rfl) (fun x args h => by rw [hno] at h; cases h) (fun _ => rfl)
      exact eff_quiet (v := .s (.one (.p b (.c 0)))) heff hg (V.good_s.2 (V1.good_one.2 trivial)) hr1.2 ρ a hra C ops'
    · split
      · rename_i x args hcal
        have heff : effOp o.op = true := by unfold effOp; rw [hcal]; simp
        have hg : o.guard = none := by
          unfold headOp at hh
          rw [heff] at hh
          simpa using hh
        refine sat_bind sat_true fun ⟨f, bs⟩ _ => sat_bind sat_true fun vs _ => sat_ite (fun hbs => ?_) (fun _ => sat_fail)
        refine sat_bind (callFact_sat (P := P) (I := I) hS) fun res hres => ?_
        have hlen : (hc ++ hn.map frz).length = hc.length + hn.length := by simp
        split
        · rename_i v
          refine sat_ite (fun hv => ?_) (fun _ => sat_fail)
          simp only [Bool.and_eq_true] at hv
          refine sat_bind put_sat fun r1 hr1 => sat_bind (manyOps_sat hS hE hn0 hI l b r1 hn hl') fun z ⟨s, hz⟩ => sat_pure ⟨consS hn.length s, ?_⟩
          refine hz.cons (fun i => by rw [acnt_cons, if_neg hal]; omega) hr1.1 (by simp) (fun ρ a hra hex C hC ops' hd => ?_) (fun h => absurd h hal) (fun x' args' h => ⟨f, vs, v, rfl, inB_mono (fun q hq => by simp only [hq, Bool.true_or]) hv.2, hv.1, ?_⟩) (fun h => by simp [hcal] at h)
          · exact eff_quiet heff hg (V.easy_good hv.1) hr1.2 ρ a hra C ops'
          · rw [List.drop_length]; exact hres
        · rename_i v hp1
          refine sat_ite (fun hv => ?_) (fun _ => sat_fail)
          simp only [Bool.and_eq_true] at hv
          obtain ⟨⟨hv1, hv2⟩, hv3⟩ := hv
          have hv3 : hc.length + hn.length ≤ hp1.length := Nat.le_of_ble_eq_true hv3
          refine sat_bind put_sat fun r1 hr1 => sat_bind (manyOps_sat hS hE hn0 hI l b r1 _ hl') fun z ⟨s, hz⟩ => sat_pure ⟨consS hn.length s, ?_⟩
          refine hz.cons (fun i => by rw [acnt_cons, if_neg hal]; omega) hr1.1 (by simp) (fun ρ a hra hex C hC ops' hd => ?_) (fun h => absurd h hal) (fun x' args' h => ⟨f, vs, v, rfl, ?_, hv1, ?_⟩) (fun h => by simp [hcal] at h)
          · exact eff_quiet heff hg (V.easy_good hv1) hr1.2 ρ a hra C ops'
          · rw [show hc.length + (hn ++ hp1.drop (hc.length + hn.length)).length = hp1.length from by simp; omega]
            exact hv2
          · rw [List.drop_left, ← hlen]; exact hres
        · exact sat_fail
      · rename_i hno
        have heff : effOp o.op = false := by
          unfold effOp
          rw [hno]
          cases h : allocOp o.op with
          | true => exact absurd h hal
          | false => rfl
        refine sat_bind (evOper_sat (E := E) (ops := ops) hS hE hn0 hI true) fun r1 hr1 => sat_bind (manyOps_sat hS hE hn0 hI l b r1 hn hl') fun z ⟨s, hz⟩ => sat_pure ⟨consS hn.length s, ?_⟩
        have hq := hr1.2 rfl
        refine hz.cons (fun i => by rw [acnt_cons, if_neg hal]; omega) hq.1 (by simp) (fun ρ a hra hex C hC ops' hd => ?_) (fun h => absurd h hal) (fun x args h => by rw [hno] at h; cases h) (fun _ => rfl)
        rw [nopW_not heff, yielded_congr hd]
        exact hq.2 ρ a hra hex C hC
end
end Go.Sx

namespace Go.Sx
open Go.RowKit

structure Alike (o1 o2 : Oper) : Prop where
  dst : o1.dst = o2.dst
  guard : o1.guard = o2.guard
  after : o1.after = o2.after
  op : o1.op = o2.op ∨ ∃ x y, o1.op = .move (.const x) ∧ o2.op = .move (.const y)
theorem lexB_congr {l1 l2 : List Oper} (hlen : l1.length = l2.length) (h : ∀ (j : Nat) o1 o2, l1[j]? = some o1 → l2[j]? = some o2 → Alike o1 o2) : Region.lexB .any l1.toArray = Region.lexB .any l2.toArray := by
  have hat : ∀ (l : List Oper) (j : Nat), (l.toArray)[j]? = l[j]? := fun l j => by simp
  have hcase : ∀ j : Nat, (l1[j]? = none ∧ l2[j]? = none) ∨ ∃ o1 o2, l1[j]? = some o1 ∧ l2[j]? = some o2 ∧ Alike o1 o2 := fun j => by
    rcases Nat.lt_or_ge j l1.length with hj | hj
    · right
      have e1 := List.getElem?_eq_getElem hj
      have e2 := List.getElem?_eq_getElem (l := l2) (i := j) (by omega)
      exact ⟨_, _, e1, e2, h j _ _ e1 e2⟩
    · exact .inl ⟨List.getElem?_eq_none hj, List.getElem?_eq_none (by omega)⟩
  have hd : ∀ j : Nat, ((l1.toArray)[j]?).bind (·.dst) = ((l2.toArray)[j]?).bind (·.dst) := fun j => by
    rw [hat, hat]
    rcases hcase j with ⟨h1, h2⟩ | ⟨o1, o2, h1, h2, h3⟩
    · rw [h1, h2]
    · rw [h1, h2]; exact h3.dst
  have hsz : l1.toArray.size = l2.toArray.size := by simpa using hlen
  have hready : ∀ listed, Region.ready .any l1.toArray listed = Region.ready .any l2.toArray listed := fun listed => by
    unfold Region.ready
    rw [hsz]
    refine List.filter_congr fun j _ => ?_
    rw [hat, hat]
    rcases hcase j with ⟨h1, h2⟩ | ⟨o1, o2, h1, h2, h3⟩
    · rw [h1, h2]
    · rw [h1, h2]
      have e := h3.after
      cases o1; cases o2
      simp only at e
      subst e
      rfl
  have hlook : ∀ o1 o2, Alike o1 o2 → o1.looksAt l1.toArray = o2.looksAt l2.toArray := fun o1 o2 h3 => by
    unfold Oper.looksAt
    rw [h3.guard]
    congr 1
    · rcases h3.op with h | ⟨x, y, h, h'⟩
      · rw [h]
      · rw [h, h']; rfl
    · cases o2.guard with
      | none => rfl
      | some p => exact congrArg Option.toList (hd p.1)
  have hapart : ∀ o1 o2 p1 p2, Alike o1 o2 → Alike p1 p2 → o1.apart l1.toArray p1 = o2.apart l2.toArray p2 := fun o1 o2 p1 p2 h3 h4 => by
    unfold Oper.apart
    rw [h3.dst, h4.dst, hlook _ _ h3, hlook _ _ h4]
  have hfree : ∀ listed i, Region.free .any l1.toArray listed i = Region.free .any l2.toArray listed i := fun listed i => by
    unfold Region.free
    rw [hat, hat]
    rcases hcase i with ⟨h1, h2⟩ | ⟨o1, o2, h1, h2, h3⟩
    · rw [h1, h2]
    · rw [h1, h2]
      simp only
      rw [hsz]
      congr 1
      funext j
      rw [hat, hat]
      rcases hcase j with ⟨g1, g2⟩ | ⟨p1, p2, g1, g2, g3⟩
      · rw [g1, g2]
      · rw [g1, g2]; simp only [g3.after, hapart _ _ _ _ h3 g3]
  have hlex : ∀ (fuel k : Nat) (listed : Array Bool), Region.lexFrom .any l1.toArray fuel k listed = Region.lexFrom .any l2.toArray fuel k listed := by
    intro fuel
    induction fuel with
    | zero => intro k listed; simp only [Region.lexFrom, hready]
    | succ fuel ih => intro k listed; simp only [Region.lexFrom, hready, hfree, ih]
  unfold Region.lexB
  rw [hlex, hsz]
  congr 1
  unfold Region.noSelect
  rw [Bool.eq_iff_iff, Array.all_eq_true, Array.all_eq_true]
  have key : ∀ o1 o2, Alike o1 o2 → ∀ f : Op → Bool, (∀ x y, f (.move x) = f (.move y)) → f o1.op = f o2.op := fun o1 o2 h3 f hf => by
    rcases h3.op with h | ⟨x, y, h, h'⟩
    · rw [h]
    · rw [h, h', hf]
  constructor
  · intro hh j hj
    rcases hcase j with ⟨h1, h2⟩ | ⟨o1, o2, h1, h2, h3⟩
    · rw [List.getElem?_eq_none_iff] at h2
      simp at hj; omega
    · have := hh j (by rw [hsz]; exact hj)
      have e1 : l1.toArray[j]'(by rw [hsz]; exact hj) = o1 := by
        have := hat l1 j; rw [h1, Array.getElem?_eq_getElem (by rw [hsz]; exact hj)] at this; exact Option.some.inj this
      have e2 : l2.toArray[j] = o2 := by
        have := hat l2 j; rw [h2, Array.getElem?_eq_getElem hj] at this; exact Option.some.inj this
      rw [e1] at this
      rw [e2]
      rcases h3.op with h | ⟨x, y, h, h'⟩
      · rw [← h]; exact this
      · rw [h']
  · intro hh j hj
    rcases hcase j with ⟨h1, h2⟩ | ⟨o1, o2, h1, h2, h3⟩
    · rw [List.getElem?_eq_none_iff] at h1
      simp at hj; omega
    · have := hh j (by rw [← hsz]; exact hj)
      have e1 : l1.toArray[j] = o1 := by
        have := hat l1 j; rw [h1, Array.getElem?_eq_getElem hj] at this; exact Option.some.inj this
      have e2 : l2.toArray[j]'(by rw [← hsz]; exact hj) = o2 := by
        have := hat l2 j; rw [h2, Array.getElem?_eq_getElem (by rw [← hsz]; exact hj)] at this; exact Option.some.inj this
      rw [e2] at this
      rw [e1]
      rcases h3.op with h | ⟨x, y, h, h'⟩
      · rw [h]; exact this
      · rw [h]

open Classical in
noncomputable def blankL (L : Nat → Prop) (H : List (Option Blk)) : List (Option Blk) := (List.range H.length).map fun q => if L q then nth H q else none
theorem nth_eq {α : Type} : ∀ (l : List (Option α)) (q : Nat), nth l q = (l[q]?).join
  | [], q => by cases q <;> rfl
  | x :: l, 0 => rfl
  | x :: l, q + 1 => by simp only [nth, List.getElem?_cons_succ, nth_eq l q]
theorem nth_blank {L : Nat → Prop} {H : List (Option Blk)} {q : Nat} {bk : Blk} : nth (blankL L H) q = some bk ↔ L q ∧ nth H q = some bk := by
  unfold blankL
  rw [nth_eq, List.getElem?_map]
  rcases Nat.lt_or_ge q H.length with h | h
  · rw [List.getElem?_range h]
    simp only [Option.map_some, Option.join_some]
    split
    · rename_i hl; simp [hl]
    · rename_i hl; simp [hl]
  · rw [List.getElem?_eq_none (by simpa using h)]
    constructor
    · intro h; cases h
    · rintro ⟨_, h2⟩
      have := nth_lt h2
      omega
theorem blank_len (L : Nat → Prop) (H : List (Option Blk)) : (blankL L H).length = H.length := by simp [blankL]

theorem acnt_zero (l : List Oper) : acnt l 0 = 0 := by simp [acnt]
theorem acnt_mono : ∀ (l : List Oper) {i j : Nat}, i ≤ j → acnt l i ≤ acnt l j
  | [], i, j, _ => by simp [acnt]
  | o :: l, 0, j, _ => by rw [acnt_zero]; omega
  | o :: l, i + 1, 0, h => by omega
  | o :: l, i + 1, j + 1, h => by
    rw [acnt_cons, acnt_cons]
    have := acnt_mono l (i := i) (j := j) (by omega)
    omega
theorem acnt_at : ∀ (l : List Oper) {i : Nat} {o : Oper}, l[i]? = some o → allocOp o.op = true → acnt l (i + 1) = acnt l i + 1
  | [], i, o, h, _ => by simp at h
  | x :: l, 0, o, h, ha => by
    simp at h; subst h
    rw [acnt_cons, acnt_zero, acnt_zero, if_pos ha]
  | x :: l, i + 1, o, h, ha => by
    rw [acnt_cons, acnt_cons, acnt_at l (i := i) (by simpa using h) ha]
    omega
theorem acnt_surj : ∀ (l : List Oper) {k : Nat}, k < acnt l l.length → ∃ i o, l[i]? = some o ∧ allocOp o.op = true ∧ acnt l i = k
  | [], k, h => by simp [acnt] at h
  | x :: l, k, h => by
    rw [List.length_cons, acnt_cons] at h
    by_cases ha : allocOp x.op = true
    · rw [if_pos ha] at h
      cases k with
      | zero => exact ⟨0, x, rfl, ha, acnt_zero _⟩
      | succ k =>
        obtain ⟨i, o, h1, h2, h3⟩ := acnt_surj l (k := k) (by omega)
        exact ⟨i + 1, o, by simpa using h1, h2, by rw [acnt_cons, if_pos ha, h3]; omega⟩
    · rw [if_neg ha] at h
      obtain ⟨i, o, h1, h2, h3⟩ := acnt_surj l (k := k) (by omega)
      exact ⟨i + 1, o, by simpa using h1, h2, by rw [acnt_cons, if_neg ha, h3]; omega⟩
theorem acnt_inj {l : List Oper} {i j : Nat} {o o' : Oper} (hi : l[i]? = some o) (ha : allocOp o.op = true) (hj : l[j]? = some o') (ha' : allocOp o'.op = true) (h : acnt l i = acnt l j) : i = j := by
  rcases Nat.lt_trichotomy i j with hlt | heq | hgt
  · have := acnt_at l hi ha
    have := acnt_mono l (i := i + 1) (j := j) (by omega)
    omega
  · exact heq
  · have := acnt_at l hj ha'
    have := acnt_mono l (i := j + 1) (j := i) (by omega)
    omega
theorem allocZs_spec {P : Program} : ∀ {l : List Oper} {zs : List (List Lf)}, allocZs P l = some zs → zs.length = acnt l l.length ∧ ∀ (i : Nat) o t, l[i]? = some o → o.op = .alloc t → ∃ z, zs[acnt l i]? = some z ∧ zeroCells P t = some z
  | [], zs, h => by
    simp [allocZs] at h; subst h
    exact ⟨by simp [acnt], fun i o t h => by simp at h⟩
  | x :: l, zs, h => by
    unfold allocZs at h
    split at h
    · rename_i t hop
      split at h
      · rename_i z zs' hz hzs
        cases h
        obtain ⟨h1, h2⟩ := allocZs_spec hzs
        have ha : allocOp x.op = true := by rw [hop]; rfl
        refine ⟨by rw [List.length_cons, List.length_cons, acnt_cons, if_pos ha, h1]; omega, fun i o t' ho hop' => ?_⟩
        cases i with
        | zero =>
          simp at ho; subst ho
          rw [hop] at hop'; cases hop'
          exact ⟨z, by rw [acnt_zero]; rfl, hz⟩
        | succ i =>
          obtain ⟨z', h3, h4⟩ := h2 i o t' (by simpa using ho) hop'
          exact ⟨z', by rw [acnt_cons, if_pos ha, Nat.add_comm, List.getElem?_cons_succ]; exact h3, h4⟩
      · cases h
    · rename_i hno
      obtain ⟨h1, h2⟩ := allocZs_spec h
      have ha : ¬ allocOp x.op = true := fun ha => by
        cases hop : x.op <;> rw [hop] at ha <;> simp [allocOp] at ha
        exact hno _ hop
      refine ⟨by rw [List.length_cons, acnt_cons, if_neg ha, h1]; omega, fun i o t' ho hop' => ?_⟩
      cases i with
      | zero =>
        simp at ho; subst ho
        exact absurd hop' (hno t')
      | succ i =>
        obtain ⟨z', h3, h4⟩ := h2 i o t' (by simpa using ho) hop'
        exact ⟨z', by rw [acnt_cons, if_neg ha, Nat.zero_add]; exact h3, h4⟩
theorem seg_at {s : Nat → Nat} : ∀ {n p : Nat}, (∀ i, i < n → s i ≤ s (i + 1)) → s 0 = 0 → p < s n → ∃ i, i < n ∧ s i ≤ p ∧ p < s (i + 1)
  | 0, p, _, h0, h => by omega
  | n + 1, p, hm, h0, h => by
    rcases Nat.lt_or_ge p (s n) with hlt | hge
    · obtain ⟨i, h1, h2, h3⟩ := seg_at (n := n) (fun i hi => hm i (by omega)) h0 hlt
      exact ⟨i, by omega, h2, h3⟩
    · exact ⟨n, by omega, hge, h⟩
theorem seg_le {s : Nat → Nat} {n : Nat} (hm : ∀ i, i < n → s i ≤ s (i + 1)) : ∀ {i j : Nat}, i ≤ j → j ≤ n → s i ≤ s j := by
  intro i j hij
  induction hij with
  | refl => intro _; exact Nat.le_refl _
  | step h ih => intro hj; exact Nat.le_trans (ih (by omega)) (hm _ (by omega))
theorem V.eqB_good {ν : Nat → DV} {a b : V} (h : a.eqB b = true) : b.good ν := by
  have key : ∀ a b : Lf, a.eqB b = true → b.good ν := fun a b h => by
    unfold Lf.eqB at h
    split at h <;> first | trivial | cases h
  have keys : ∀ a b : List Lf, lfsEqB a b = true → ∀ x ∈ b, x.good ν := fun a => by
    induction a with
    | nil => intro b h x hx; cases b with
      | nil => cases hx
      | cons y l => cases h
    | cons a l ih =>
      intro b h x hx
      cases b with
      | nil => cases hx
      | cons y l' =>
        simp only [lfsEqB, Bool.and_eq_true] at h
        rcases List.mem_cons.1 hx with rfl | hx
        · exact key _ _ h.1
        · exact ih l' h.2 x hx
  unfold V.eqB at h
  split at h
  · exact V.good_s.2 (V1.good_one.2 (key _ _ h))
  · exact V.good_s.2 (V1.good_agg.2 (keys _ _ h))
  · cases h
theorem vsEqB_good {ν : Nat → DV} : ∀ {a b : List V}, vsEqB a b = true → ∀ v ∈ b, v.good ν
  | [], [], _, v, hv => by cases hv
  | a :: l, b :: l', h, v, hv => by
    simp only [vsEqB, Bool.and_eq_true] at h
    rcases List.mem_cons.1 hv with rfl | hv
    · exact V.eqB_good h.1
    · exact vsEqB_good h.2 v hv
  | [], _ :: _, h, _, _ => by cases h
  | _ :: _, [], h, _, _ => by cases h
theorem argsB_at {r : RS} : ∀ {l : List Oper} {es : List (Nat × List V × V)}, argsB r l es = true → ∀ (i : Nat) o x args f vs v, l[i]? = some o → calleeOf o.op = some (x, args) → es[i]? = some (f, vs, v) →
    fnOf (rd r [] x) = some (f, []) ∧ ∃ vs', rdAll r [] args = some vs' ∧ vsEqB vs' vs = true
  | [], _, _, i, o, x, args, f, vs, v, ho, _, _ => by simp at ho
  | y :: l, [], h, i, o, x, args, f, vs, v, ho, _, he => by simp at he
  | y :: l, e :: es, h, i, o, x, args, f, vs, v, ho, hc, he => by
    simp only [argsB, Bool.and_eq_true] at h
    cases i with
    | zero =>
      simp at ho he
      subst ho; subst he
      have h := h.1
      rw [hc] at h
      simp only at h
      split at h
      · rename_i f' vs' h1 h2
        simp only [Bool.and_eq_true] at h
        have := Nat.eq_of_beq_eq_true h.1
        subst this
        exact ⟨h1, vs', h2, h.2⟩
      · cases h
    | succ i => exact argsB_at h.2 i o x args f vs v (by simpa using ho) hc (by simpa using he)
end Go.Sx

namespace Go.Sx
open Go.RowKit
section
variable {P : Program} {I : World → Prop} {S : Sigs} {F : FEnv} {E : Env} {gK : Nat} {ν : Nat → DV}

theorem evOpers_list (hS : SigsOK P I gK S F) (hE : E.Ok gK) (hn0 : S.n0 = E.n0) (hI : ∀ w, Fr E.W E.w0 w → I w) {ops : Array Oper} : ∀ (l : List Oper) (r : RS), M.sat F ν (evOpers P S false ops.toList l r) (fun r' => ∀ ρ a w, RR ν E ρ r a w →
    ∀ Q : Exit → Act → World → Prop, (∀ ρ' a' w', RR ν E ρ' r' a' w' → Q .normal a' w') → wpList P ops Q l a w)
  | [], r => sat_pure fun ρ a w h Q hQ => hQ ρ a w h
  | o :: l, r => by
    unfold evOpers
    refine sat_bind (evOper_sat (E := E) hS hE hn0 hI false) fun r1 h1 => sat_mono (evOpers_list hS hE hn0 hI l r1) fun r' h2 ρ a w hrr Q hQ => ?_
    have := h1.1 rfl ρ a w hrr (wpList P ops Q l) Q (fun ρ' a' w' h' => h2 ρ' a' w' h' Q hQ)
    simp only [wpList]
    split
    · rename_i hw; rw [if_pos hw] at this; exact .inl this
    · rename_i hw; rw [if_neg hw] at this; exact this

theorem RR.drop {ρ : Nat → Loc} {r : RS} {a : Act} {w : World} (h : RR ν E ρ r a w) : RR ν E ρ ⟨r.st, []⟩ a w :=
  ⟨⟨h.act.defers, h.act.size, h.act.slot, fun e he => by cases he⟩, h.hs⟩


theorem evMany_sat (hS : SigsOK P I gK S F) (hE : E.Ok gK) (hn0 : S.n0 = E.n0) (hI : ∀ w, Fr E.W E.w0 w → I w) {ops : Array Oper} {n : Nat} {s : St} (hnl : n ≤ ops.toList.length) (hm : manyB ops.toList n = true) :
    M.sat F ν (evMany P S ops.toList n s) (fun s' => ∀ ρ a w, RR ν E ρ ⟨s, []⟩ a w → ∀ Q : Exit → Act → World → Prop, (∀ ρ' a' w', RR ν E ρ' ⟨s', []⟩ a' w' → Q .normal a' w') →
      wpAny P .any ops Q ops.size (Array.replicate ops.size false) a w) := by
  unfold manyB at hm
  generalize hpre : ops.toList.take n = pre at hm
  simp only [Bool.and_eq_true] at hm
  obtain ⟨⟨⟨⟨hheads, heffs⟩, htail⟩, hlex⟩, hback⟩ := hm
  have hbk : BackOk .any ops := by have := backB_ok' hback; simpa using this
  have hprel : pre.length = n := by rw [← hpre, List.length_take]; omega
  unfold evMany
  refine sat_ite (fun hchk => ?_) (fun _ => sat_fail)
  simp only [Bool.and_eq_true] at hchk
  rw [hpre]
  refine sat_bind (sat_lift (Q := fun zs => allocZs P pre = some zs) fun a h => h) fun zs hzs => ?_
  have hmany := manyOps_sat (E := E) (F := F) (ν := ν) hS hE hn0 hI (ops := pre.toArray) (b0 := s.hp.length) (hc := (s.hp ++ zs.map fun _ => none).map frz) pre s.hp.length ⟨s, []⟩ [] (fun o ho => List.all_eq_true.1 hheads o ho)
  simp only at hmany
  refine sat_bind hmany fun z ⟨sg, hz⟩ => sat_ite (fun hc2 => ?_) (fun _ => sat_fail)
  simp only [Bool.and_eq_true] at hc2
  obtain ⟨⟨hzlt, hnlt⟩, hargs⟩ := hc2
  obtain ⟨rf, hn', es⟩ := z
  simp only at hz hnlt hargs ⊢
  refine sat_bind (evOpers_list (E := E) hS hE hn0 hI (ops := ops) (ops.toList.drop n) ⟨⟨rf.st.sl, s.hp ++ zs.map (fun z => some (.c true (z.map some))) ++ hn'⟩, rf.gl⟩) fun r2 hr2 => sat_pure fun ρ a w hrr Q hQ => ?_
  obtain ⟨hzl, hza⟩ := allocZs_spec hzs
  have hchk2 : hpLt s.hp = true := hchk.2
  generalize hbase : s.hp.length = base at *
  -- the whole heap
  generalize hH : s.hp ++ zs.map (fun z => some (Blk.c true (z.map some))) ++ hn' = H at *
  have hHl : H.length = base + zs.length + hn'.length := by rw [← hH]; simp [hbase]; omega
  have hHs : ∀ q, q < base → nth H q = nth s.hp q := fun q hq => by
    rw [← hH, List.append_assoc, nth_append, if_pos (by omega)]
  have hHz : ∀ k z, zs[k]? = some z → nth H (base + k) = some (.c true (z.map some)) := fun k z hk => by
    have hkl : k < zs.length := by
      rcases Nat.lt_or_ge k zs.length with h | h
      · exact h
      · rw [List.getElem?_eq_none h] at hk; cases hk
    rw [← hH, nth_append, if_pos (by simp [hbase]; omega), nth_append, if_neg (by omega), hbase, Nat.add_sub_cancel_left, nth_eq, List.getElem?_map, hk]
    rfl
  have hHn : ∀ p, nth H (base + zs.length + p) = nth hn' p := fun p => by
    rw [← hH, nth_append, if_neg (by simp [hbase]), List.length_append, List.length_map, hbase, Nat.add_sub_cancel_left]
  have hHlt : ∀ q bk, nth H q = some bk → bk.lt base = true := fun q bk hq => by
    rcases Nat.lt_or_ge q base with h | h
    · rw [hHs q h] at hq
      have := all_nth_of hchk.2 hq
      rwa [hbase] at this
    · rcases Nat.lt_or_ge q (base + zs.length) with h2 | h2
      · have hk := List.getElem?_eq_getElem (l := zs) (i := q - base) (by omega)
        have := hHz _ _ hk
        rw [show base + (q - base) = q from by omega, hq] at this
        cases this
        have := List.all_eq_true.1 hzlt _ (List.mem_of_getElem? hk)
        simp only [Bool.and_eq_true] at this
        have h3 := this.2
        simp only [Blk.lt, List.all_map]
        exact h3
      · have := hHn (q - (base + zs.length))
        rw [show base + zs.length + (q - (base + zs.length)) = q from by omega, hq] at this
        have := all_nth_of hnlt this.symm
        simp only [Bool.and_eq_true] at this
        exact this.2
  have hn'flat : ∀ p bk, nth hn' p = some bk → bk.flat = true := fun p bk hp => by
    have := all_nth_of hnlt hp
    simp only [Bool.and_eq_true] at this
    exact this.1
  -- who made which block
  have hs0 : sg 0 = 0 := hz.s0
  have hsm : ∀ {i j : Nat}, i ≤ j → j ≤ pre.length → sg i ≤ sg j := fun h1 h2 => seg_le hz.mono h1 h2
  have hsn : ∀ {i : Nat}, i ≤ pre.length → sg i ≤ hn'.length := fun h => by rw [← hz.sn]; exact hsm h (Nat.le_refl _)
  let made : Nat → Nat → Prop := fun i q => (∃ o, pre[i]? = some o ∧ allocOp o.op = true ∧ q = base + acnt pre i) ∨ (base + zs.length + sg i ≤ q ∧ q < base + zs.length + sg (i + 1))
  let live : Array Bool → Nat → Prop := fun listed q => q < base ∨ ∃ i, i < pre.length ∧ listed.getD i false = true ∧ made i q
  have hacl : ∀ {i : Nat} {o : Oper}, pre[i]? = some o → allocOp o.op = true → acnt pre i < zs.length := fun {i o} h1 h2 => by
    have hil : i < pre.length := by
      rcases Nat.lt_or_ge i pre.length with h | h
      · exact h
      · rw [List.getElem?_eq_none h] at h1; cases h1
    have := acnt_at pre h1 h2
    have := acnt_mono pre (i := i + 1) (j := pre.length) hil
    omega
  have hmade : ∀ {i j q : Nat}, i < pre.length → j < pre.length → made i q → made j q → i = j := by
    intro i j q hi hj h1 h2
    rcases h1 with ⟨o, a1, a2, a3⟩ | ⟨a1, a2⟩ <;> rcases h2 with ⟨o', b1, b2, b3⟩ | ⟨b1, b2⟩
    · exact acnt_inj a1 a2 b1 b2 (by omega)
    · have := hacl a1 a2; omega
    · have := hacl b1 b2; omega
    · rcases Nat.lt_trichotomy i j with h | h | h
      · have := hsm (i := i + 1) (j := j) h (by omega); omega
      · exact h
      · have := hsm (i := j + 1) (j := i) h (by omega); omega
  have hmadeb : ∀ {i q : Nat}, made i q → base ≤ q := by
    intro i q h
    rcases h with ⟨o, _, _, h⟩ | ⟨h, _⟩ <;> omega
  have hlive : ∀ {listed : Array Bool} {i q : Nat}, live listed q → live (listed.setIfInBounds i true) q := by
    intro listed i q h
    rcases h with h | ⟨j, h1, h2, h3⟩
    · exact .inl h
    · exact .inr ⟨j, h1, getD_set_true h2, h3⟩
  have hnew : ∀ {listed : Array Bool} {i q : Nat}, live (listed.setIfInBounds i true) q → live listed q ∨ (i < pre.length ∧ made i q) := by
    intro listed i q h
    rcases h with h | ⟨j, h1, h2, h3⟩
    · exact .inl (.inl h)
    · rcases getD_set_of h2 with rfl | h2
      · exact .inr ⟨h1, h3⟩
      · exact .inl (.inr ⟨j, h1, h2, h3⟩)
  have hfresh : ∀ {listed : Array Bool} {i q : Nat}, i < pre.length → listed.getD i false = false → made i q → ¬ live listed q := by
    intro listed i q hi hl hq h
    rcases h with h | ⟨j, h1, h2, h3⟩
    · have := hmadeb hq; omega
    · have := hmade hi h1 hq h3
      subst this
      rw [hl] at h2; cases h2
  have hlenH : E.n0 ≤ H.length := by have := hrr.hs.len; rw [hHl]; simp only at this; omega
  have hn0b : E.n0 ≤ base := by have := hrr.hs.len; simp only at this; omega
  -- more or fewer known
  have hsub : ∀ {L L' : Nat → Prop} {θ θ' : Nat → Loc} {w1 : World}, HS E ν θ (blankL L H) w1 → (∀ q, L' q → L q ∧ θ' q = θ q) → (∀ q, q < base → θ' q = θ q) → HS E ν θ' (blankL L' H) w1 := fun {L L' θ θ' w1} h h1 h2 =>
    h.grow (N := fun _ => False) (Below.refl _ _) hn0b (by rw [blank_len]; exact hlenH) h2 (fun q bk hq => by
      obtain ⟨g1, g2⟩ := nth_blank.1 hq
      obtain ⟨g3, g4⟩ := h1 q g1
      exact .inl ⟨nth_blank.2 ⟨g3, g2⟩, g4, hHlt q bk g2⟩) (fun _ _ _ _ h => h.elim)
  have hstart : ∀ {listed : Array Bool} {θ : Nat → Loc} {w1 : World}, HS E ν θ (blankL (live listed) H) w1 → HS E ν θ s.hp w1 := fun {listed θ w1} h =>
    h.grow (N := fun _ => False) (base := base) (Below.refl _ _) hn0b (by rw [hbase]; exact hn0b) (fun _ _ => rfl) (fun q bk hq => by
      have hql := nth_lt hq
      have e := hHs q (by omega)
      rw [hq] at e
      exact .inl ⟨nth_blank.2 ⟨.inl (by omega), e⟩, rfl, hHlt q bk e⟩) (fun _ _ _ _ h => h.elim)
  have hes : ∀ i, i < pre.length → ∃ e, es[i]? = some e := fun i hi => ⟨_, List.getElem?_eq_getElem (by rw [hz.len]; exact hi)⟩
  have hat : ∀ j : Nat, pre.toArray[j]? = pre[j]? := fun j => by simp
  have hlt_of : ∀ {i : Nat} {o : Oper}, pre[i]? = some o → i < pre.length := fun {i o} h => by
    rcases Nat.lt_or_ge i pre.length with h1 | h1
    · exact h1
    · rw [List.getElem?_eq_none h1] at h; cases h
  have hops' : ∀ (θ : Nat → Loc) (j : Nat), ((List.zipWith (fun o e => nopW (e.2.2.conc ν θ) o) pre es).toArray)[j]? = (match pre[j]?, es[j]? with | some o, some e => some (nopW (e.2.2.conc ν θ) o) | _, _ => none) := fun θ j => by
    simp [List.getElem?_zipWith]
    cases pre[j]? <;> cases es[j]? <;> rfl
  have hnopWd : ∀ (v : Value) (o : Oper), (nopW v o).dst = o.dst ∧ (nopW v o).guard = o.guard ∧ (nopW v o).after = o.after := fun v o => by
    unfold nopW; split <;> exact ⟨rfl, rfl, rfl⟩
  have hsz : ∀ θ : Nat → Loc, (List.zipWith (fun o e => nopW (e.2.2.conc ν θ) o) pre es).toArray.size = pre.toArray.size := fun θ => by simp [hz.len]
  have hkind : ∀ {i : Nat} {o : Oper}, pre[i]? = some o → (effOp o.op = false → pureOp o.op = true) ∧ (effOp o.op = true → o.guard = none) := fun {i o} h => by
    have := List.all_eq_true.1 hheads o (List.mem_of_getElem? h)
    unfold headOp at this
    cases he : effOp o.op <;> rw [he] at this <;> simp at this <;> simp [this]
  have heffmem : ∀ i, i ∈ effAt pre ↔ ∃ o, pre[i]? = some o ∧ effOp o.op = true := fun i => by
    unfold effAt
    rw [List.mem_map]
    constructor
    · rintro ⟨⟨o, j⟩, h, rfl⟩
      obtain ⟨h1, h2⟩ := List.mem_filter.1 h
      exact ⟨o, List.mem_zipIdx_iff_getElem?.1 h1, h2⟩
    · rintro ⟨o, h1, h2⟩
      exact ⟨(o, i), List.mem_filter.2 ⟨List.mem_zipIdx_iff_getElem?.2 h1, h2⟩, rfl⟩
  have hmanyAt : ∀ {i : Nat} {o : Oper}, pre[i]? = some o → effOp o.op = true → ((calleeOf o.op).isSome = true → ∀ j, j < i → (∃ o', pre[j]? = some o' ∧ (calleeOf o'.op).isSome = true) → j ∈ reachFrom pre i (depsOf o)) ∧
      (∀ t ∈ callTmps o.op, ∀ (j : Nat) o', pre[j]? = some o' → o'.dst = some t → j ∈ reachFrom pre i (depsOf o)) := fun {i o} h he => by
    have := List.all_eq_true.1 heffs i ((heffmem i).2 ⟨o, h, he⟩)
    unfold manyAt at this
    rw [h] at this
    simp only [Bool.and_eq_true, Bool.or_eq_true, Bool.not_eq_true'] at this
    obtain ⟨h1, h2⟩ := this
    refine ⟨fun hc j hj ⟨o', g1, g2⟩ => ?_, fun t ht j o' ho' hd => ?_⟩
    · rcases h1 with h1 | h1
      · rw [hc] at h1; cases h1
      · refine sub1_spec h1 j (List.mem_filter.2 ⟨?_, by simpa [Nat.blt_eq] using hj⟩)
        unfold callAt
        exact List.mem_map.2 ⟨(o', j), List.mem_filter.2 ⟨List.mem_zipIdx_iff_getElem?.2 g1, g2⟩, rfl⟩
    · have := List.all_eq_true.1 h2 (o', j) (List.mem_zipIdx_iff_getElem?.2 ho')
      simp only [dstOk, hd, Bool.or_eq_true, Bool.not_eq_true'] at this
      rcases this with h | h
      · rw [mem_memN ht] at h; cases h
      · exact memN_mem h
  refine wpAny_tails2 hbk (ops.toList.drop n) pre.toArray (by rw [← hpre]; simp) (fun i hi o ho j hj => ?_) a w ?_
  · have hi' : n ≤ i := by simpa [hprel] using hi
    have hmm : (o, i) ∈ ops.toList.zipIdx.drop n := by
      rw [List.mem_iff_getElem?]
      refine ⟨i - n, ?_⟩
      rw [List.getElem?_drop, show n + (i - n) = i from by omega, List.getElem?_zipIdx]
      have : ops.toList[i]? = some o := by simpa using ho
      rw [this]
      simp
    have := List.all_eq_true.1 htail _ hmm
    exact memN_mem (List.all_eq_true.1 this j (List.mem_range.2 hj))

  have hready : ∀ (θ : Nat → Loc) listed, Region.ready .any (List.zipWith (fun o e => nopW (e.2.2.conc ν θ) o) pre es).toArray listed = Region.ready .any pre.toArray listed := fun θ listed => by
    unfold Region.ready
    rw [hsz θ]
    refine List.filter_congr fun j _ => ?_
    rw [hops' θ j, hat j]
    cases ho : pre[j]? with
    | none => rfl
    | some o =>
      obtain ⟨e, he⟩ := hes j (hlt_of ho)
      rw [he]
      have e1 := (hnopWd (e.2.2.conc ν θ) o).2.2
      dsimp only
      generalize nopW (e.2.2.conc ν θ) o = o1 at e1 ⊢
      cases o1; cases o
      simp only at e1
      subst e1
      rfl
  have hdst : ∀ (θ : Nat → Loc) (j : Nat), (((List.zipWith (fun o e => nopW (e.2.2.conc ν θ) o) pre es).toArray)[j]?).bind (·.dst) = ((pre.toArray)[j]?).bind (·.dst) := fun θ j => by
    rw [hops' θ j, hat j]
    cases ho : pre[j]? with
    | none => rfl
    | some o =>
      obtain ⟨e, he⟩ := hes j (hlt_of ho)
      rw [he]
      exact (hnopWd _ o).1
  have hbkp : BackOk .any pre.toArray := fun i o ho => hbk i o (by
    rw [hat] at ho
    have : ops.toList[i]? = some o := by
      rw [← hpre, List.getElem?_take] at ho
      split at ho
      · exact ho
      · cases ho
    simpa using this)
  refine wpAny_many (P := P) (Θ := Nat → Loc) (ops := pre.toArray) (ops' := fun θ => (List.zipWith (fun o e => nopW (e.2.2.conc ν θ) o) pre es).toArray) (st := effAt pre) (val := fun i θ => (es.getD i default).2.2.conc ν θ)
    (C := fun θ w => HS E ν θ s.hp w) (D := fun listed θ w => HS E ν θ (blankL (live listed) H) w) (Sm := fun listed θ θ' => ∀ q, live listed q → θ' q = θ q) (Qf := fun θ a' => ARel ν θ rf a')
    (tm := fun i => match pre[i]? with | some o => callTmps o.op | none => []) hbkp hready hdst (fun θ i hi => ?_) (fun i hi => ?_) (fun listed θ θ' w1 hd hsm1 => ?_) (fun listed θ w1 hd => hstart hd) (fun _ _ _ _ => rfl)
    (fun listed i θ θ' θ'' h1 h2 q hq => (h2 q (hlive hq)).trans (h1 q hq)) (fun listed i θ θ' hi hs hsm1 => ?_) (fun i o hi ho a1 w1 f args w2 => ?_) (fun listed i θ w1 hi hd => ?_) (fun i o hi ho listed hcl hrd t ht j o' ho' hd' => ?_)
    (fun i o hi ho listed hs hcl' hrd θ w1 hd a1 a2 ha2 htm => ?_) (fun θ a1 w1 listed hall ha1 hd => ?_) pre.toArray.size (Array.replicate pre.toArray.size false) a w ρ (by simp) (closed_none _ _) ?_ (fun θ' hsm1 => ?_)
  · -- what is neither
    show ((List.zipWith (fun o e => nopW (e.2.2.conc ν θ) o) pre es).toArray)[i]? = _
    rw [hops' θ i, hat i]
    cases ho : pre[i]? with
    | none => rfl
    | some o =>
      obtain ⟨e, he⟩ := hes i (hlt_of ho)
      rw [he]
      have : effOp o.op = false := by
        cases h : effOp o.op with
        | false => rfl
        | true => exact absurd ((heffmem i).2 ⟨o, ho, h⟩) hi
      simp only [nopW_not this]
  · obtain ⟨o, h1, h2⟩ := (heffmem i).1 hi
    obtain ⟨e, he⟩ := hes i (hlt_of h1)
    refine ⟨o, by rw [hat]; exact h1, (hkind h1).2 h2, fun θ => ⟨nopW (e.2.2.conc ν θ) o, ?_, by rw [(hnopWd _ o).2.1]; exact (hkind h1).2 h2, (hnopWd _ o).1, fun a1 w1 => ?_⟩⟩
    · show ((List.zipWith (fun o e => nopW (e.2.2.conc ν θ) o) pre es).toArray)[i]? = _
      rw [hops' θ i, h1, he]
    · rw [nopW_eff h2, List.getD_eq_getElem?_getD, he]
      simp [execOp, Act.eval]
  · exact hsub hd (fun q hq => ⟨hq, hsm1 q hq⟩) (fun q hq => hsm1 q (.inl hq))
  · -- the values of what is listed
    obtain ⟨o, h1, h2⟩ := (heffmem i).1 hi
    have hil := hlt_of h1
    have hli : (listed.setIfInBounds i true).getD i false = true := by
      have : i < listed.size := by rw [hs]; simpa using hil
      rw [Array.getD_eq_getD_getElem?, Array.getElem?_setIfInBounds_self_of_lt this]
      rfl
    have hmk : ∀ q, made i q → θ' q = θ q := fun q hq => hsm1 q (.inr ⟨i, hil, hli, hq⟩)
    cases hal : allocOp o.op with
    | true =>
      obtain ⟨e, he, hev⟩ := hz.alloc i o h1 hal
      simp only [List.getD_eq_getElem?_getD, he, Option.getD_some, hev, V.conc, V1.conc, Lf.conc]
      rw [hmk _ (.inl ⟨o, h1, hal, rfl⟩)]
    | false =>
      obtain ⟨⟨x, args⟩, hc⟩ := Option.isSome_iff_exists.1 (show (calleeOf o.op).isSome = true by
        unfold effOp at h2; rw [hal] at h2; simpa using h2)
      obtain ⟨f, vs, v, he, hin, _, _⟩ := hz.call i o x args h1 hc
      simp only [List.getD_eq_getElem?_getD, he, Option.getD_some]
      refine V.inB_conc hin fun q hq => ?_
      simp only [Bool.or_eq_true, Bool.and_eq_true] at hq
      rcases hq with hq | ⟨hq1, hq2⟩
      · exact hsm1 q (.inl (by simpa [Nat.blt_eq] using hq))
      · refine hmk q (.inr ⟨?_, ?_⟩)
        · have := Nat.le_of_ble_eq_true hq1; simp [hbase] at this; omega
        · simp [Nat.blt_eq, hbase] at hq2; omega
  · rw [hat] at ho
    have : effOp o.op = false := by
      cases h : effOp o.op with
      | false => rfl
      | true => exact absurd ((heffmem i).2 ⟨o, ho, h⟩) hi
    exact pure_noEnter ((hkind ho).1 this) a1 w1 f args w2
  · refine hsub hd (fun q hq => ⟨?_, rfl⟩) (fun _ _ => rfl)
    rcases hnew hq with h | ⟨hil, h⟩
    · exact h
    · exfalso
      have hio := List.getElem?_eq_getElem hil
      have hne : effOp pre[i].op = false := by
        cases h : effOp pre[i].op with
        | false => rfl
        | true => exact absurd ((heffmem i).2 ⟨_, hio, h⟩) hi
      unfold effOp at hne
      rw [Bool.or_eq_false_iff] at hne
      rcases h with ⟨o, h1, h2, _⟩ | ⟨h1, h2⟩
      · rw [hio] at h1; cases h1
        rw [hne.1] at h2; cases h2
      · rw [hz.still i _ hio hne.2] at h2
        omega
  · rw [hat] at ho ho'
    obtain ⟨o2, h1, h2⟩ := (heffmem i).1 hi
    rw [ho] at h1; cases h1
    rw [ho] at ht
    have := (hmanyAt ho h2).2 t ht j o' ho' hd'
    exact anc_listed hcl (by rw [hat]; exact ho) hrd j this
  · -- a new block, or a call
    rw [hat] at ho
    obtain ⟨o2, h1, h2⟩ := (heffmem i).1 hi
    rw [ho] at h1; cases h1
    rw [ho] at htm
    have hil := hlt_of ho
    have hnl : listed.getD i false = false := by
      obtain ⟨h4, _⟩ := mem_ready.1 hrd
      rw [← getD_true_false (by rw [hs]; simpa using hil)]
      exact h4
    have hstl := hstart hd
    cases hal : allocOp o.op with
    | true =>
      obtain ⟨t, hop⟩ : ∃ t, o.op = .alloc t := by
        cases hop : o.op <;> rw [hop] at hal <;> simp [allocOp] at hal
        exact ⟨_, rfl⟩
      obtain ⟨z, hzk, hzc⟩ := hza i o t ho hop
      obtain ⟨inf, zv, hinf, hzv, hzg, hzcc⟩ := zeroCells_spec (ν := ν) hzc
      have hzlt2 : z.all (Lf.lt s.hp.length) = true := by
        have := List.all_eq_true.1 hzlt z (List.mem_of_getElem? hzk)
        simp only [Bool.and_eq_true] at this
        rw [hbase]; exact this.2
      have hnewb := hstl.new hchk2 hzlt2 hzg t
      rw [← hzcc θ] at hnewb
      have hb0 : base ≤ base + acnt pre i := by omega
      refine .inl ⟨.pointer (some ⟨w1.heap.size, 0, none⟩), w1.alloc (.cells zv.cells t), ?_, fun q => if q = base + acnt pre i then ⟨w1.heap.size, 0, false, 0, 0, none⟩ else θ q, fun q hq => ?_, ?_, ?_⟩
      · simp [execOp, hop, Instr.alloc, zeroValue, typeInfo, hinf, hzv, newVar, newRow]
      · exact if_neg fun e => hfresh hil hnl (.inl ⟨o, ho, hal, e⟩) hq
      · obtain ⟨e, he, hev⟩ := hz.alloc i o ho hal
        simp only [List.getD_eq_getElem?_getD, he, Option.getD_some, hev, V.conc, V1.conc, Lf.conc, if_pos, Off.val]
      · refine hd.grow (N := fun q => q = base + acnt pre i) (base := base) ⟨rfl, rfl, rfl, by simp, fun k hk => Below.heap_alloc _ _ _ hk⟩ hn0b (by rw [blank_len]; exact hlenH) (fun q hq => if_neg (by omega)) (fun q bk hq => ?_) (fun q q' _ _ h h' _ _ _ hne => absurd (h.trans h'.symm) hne)
        obtain ⟨g1, g2⟩ := nth_blank.1 hq
        rcases hnew g1 with h | ⟨_, h⟩
        · exact .inl ⟨nth_blank.2 ⟨h, g2⟩, if_neg fun e => hfresh hil hnl (.inl ⟨o, ho, hal, e⟩) h, hHlt q bk g2⟩
        · have hqe : q = base + acnt pre i := by
            rcases h with ⟨o', k1, k2, k3⟩ | ⟨k1, k2⟩
            · exact k3
            · have hno : (calleeOf o.op).isSome = false := by rw [hop]; rfl
              rw [hz.still i o ho hno] at k2
              omega
          subst hqe
          rw [hHz _ _ hzk] at g2
          cases g2
          refine .inr ⟨?_, .inr (.inl (by simp)), rfl⟩
          have hb1 := hnewb.heap.blk s.hp.length (.c true (z.map some)) (by rw [nth_append, if_neg (by omega), Nat.sub_self]; rfl)
          rw [ext_same] at hb1
          have hk := hb1.keep (n := base) (ρ' := fun q => if q = base + acnt pre i then ⟨w1.heap.size, 0, false, 0, 0, none⟩ else θ q) (fun k hk => by
            rw [if_neg (by omega), ext_lt (by omega)]) (hHlt _ _ (hHz _ _ hzk))
          simp only [if_pos]
          exact hk
    | false =>
      obtain ⟨⟨x, args⟩, hc⟩ := Option.isSome_iff_exists.1 (show (calleeOf o.op).isSome = true by
        unfold effOp at h2; rw [hal] at h2; simpa using h2)
      obtain ⟨f, vs, v, he, hin, _, hfact⟩ := hz.call i o x args ho hc
      obtain ⟨hf, vs', hvs', heq⟩ := argsB_at hargs i o x args f vs v ho hc he
      have hcs : (calleeOf o.op).isSome = true := by rw [hc]; rfl
      have hsi1 := hsn (i := i) (by omega)
      have hsi2 := hsn (i := i + 1) (by omega)
      have hsi3 := hz.mono i hil
      generalize hcl : (s.hp ++ zs.map fun _ => none).map frz ++ (hn'.take (sg i)).map frz = hcall at hfact
      have hcll : hcall.length = base + zs.length + sg i := by rw [← hcl]; simp [hbase]; omega
      have hcin : ∀ j bk, nth hcall j = some bk → nth (blankL (live listed) H) j = some bk ∧ bk.flat = true ∧ bk.own = false := by
        intro j bk hj
        rw [← hcl, nth_append] at hj
        split at hj
        · rename_i hjl
          obtain ⟨k1, k2, k3⟩ := nth_frz hj
          rw [nth_append] at k1
          split at k1
          · rename_i hjb
            rw [hbase] at hjb
            exact ⟨nth_blank.2 ⟨.inl hjb, by rw [hHs j hjb]; exact k1⟩, k2, k3⟩
          · exfalso
            rw [nth_eq, List.getElem?_map] at k1
            cases h : zs[j - s.hp.length]? <;> rw [h] at k1 <;> cases k1
        · rename_i hjl
          have hjl2 : base + zs.length ≤ j := by simp [hbase] at hjl; omega
          have hlen3 : ((s.hp ++ zs.map fun _ => (none : Option Blk)).map frz).length = base + zs.length := by simp [hbase]
          rw [hlen3] at hj
          obtain ⟨k1, k2, k3⟩ := nth_frz hj
          have hp1 : j - (base + zs.length) < sg i := by
            have := nth_lt k1
            rw [List.length_take] at this
            omega
          have k4 : nth hn' (j - (base + zs.length)) = some bk := by
            rw [nth_eq, List.getElem?_take, if_pos hp1, ← nth_eq] at k1
            exact k1
          obtain ⟨i', m1, m2, m3⟩ := seg_at (fun k hk => hz.mono k (by omega)) hs0 hp1
          have hio := List.getElem?_eq_getElem (l := pre) (i := i') (by omega)
          have hcs' : (calleeOf pre[i'].op).isSome = true := by
            cases h : (calleeOf pre[i'].op).isSome with
            | true => rfl
            | false =>
              rw [hz.still i' _ hio h] at m3
              omega
          have hanc := (hmanyAt ho h2).1 hcs i' m1 ⟨_, hio, hcs'⟩
          have hli := anc_listed hcl' (by rw [hat]; exact ho) hrd i' hanc
          refine ⟨nth_blank.2 ⟨.inr ⟨i', by omega, hli, .inr ⟨by omega, by omega⟩⟩, ?_⟩, k2, k3⟩
          have := hHn (j - (base + zs.length))
          rw [show base + zs.length + (j - (base + zs.length)) = j from by omega] at this
          rw [this]; exact k4
      have hread := hd.read hcin
      have hgood := vsEqB_good (ν := ν) heq
      have hargc : vs'.map (V.conc ν θ) = vs.map (V.conc ν θ) := vsEqB_conc θ heq
      obtain ⟨hen, hcalls⟩ := hfact _ (readEnv_ok (Nat.le_trans hE.1 hd.fr.size)) θ w1 hgood hread (hI w1 hd.fr)
      refine .inr ⟨f, (vs.map (V.conc ν θ)).toArray, w1, ?_, hcalls.mono fun e w' ⟨ρ2, hp1, k1, k2, k3, k4⟩ => ⟨v.conc ν ρ2, k4, fun q => if base + zs.length + sg i ≤ q ∧ q < base + zs.length + sg (i + 1) then ρ2 q else θ q, fun q hq => ?_, ?_, ?_⟩⟩
      · rw [callee_eval hcs htm, ← hargc]
        rw [← hargc] at hen
        exact callee_run hc hf hvs' ha2 w1 hen
      · exact if_neg fun hh => hfresh hil hnl (.inr hh) hq
      · simp only [List.getD_eq_getElem?_getD, he, Option.getD_some]
        refine V.inB_conc hin fun q hq => ?_
        simp only [Bool.or_eq_true, Bool.and_eq_true] at hq
        rcases hq with hq | ⟨hq1, hq2⟩
        · have hqb : q < base := by simpa [Nat.blt_eq] using hq
          rw [if_neg (by omega), k1 q (by omega)]
        · have e1 := Nat.le_of_ble_eq_true hq1
          simp [hbase] at e1
          simp [Nat.blt_eq, hbase] at hq2
          exact if_pos ⟨by omega, by omega⟩
      · have hbel : Below w1.heap.size w1 w' := k2.fr.below
        have hent : ∀ q bk, base + zs.length + sg i ≤ q → q < base + zs.length + sg (i + 1) → nth H q = some bk → nth hp1 q = some bk := by
          intro q bk hq1 hq2 hq
          have e1 := hHn (q - (base + zs.length))
          rw [show base + zs.length + (q - (base + zs.length)) = q from by omega, hq] at e1
          have e2 : nth ((hn'.take (sg (i + 1))).drop (sg i)) (q - (base + zs.length) - sg i) = some bk := by
            rw [drop_nth, show sg i + (q - (base + zs.length) - sg i) = q - (base + zs.length) from by omega, nth_eq, List.getElem?_take, if_pos (by omega), ← nth_eq, ← e1]
          have e3 := k3 (q - (base + zs.length) - sg i) (by rw [e2]; simp)
          rw [e2, hcll, show base + zs.length + sg i + (q - (base + zs.length) - sg i) = q from by omega] at e3
          exact e3
        refine hd.grow (N := fun q => base + zs.length + sg i ≤ q ∧ q < base + zs.length + sg (i + 1)) (base := base) hbel hn0b (by rw [blank_len]; exact hlenH) (fun q hq => if_neg (by omega)) (fun q bk hq => ?_) (fun q q' bk bk' h h' hq ho1 hq' hne hn1 hn2 => ?_)
        · obtain ⟨g1, g2⟩ := nth_blank.1 hq
          rcases hnew g1 with h | ⟨_, h⟩
          · exact .inl ⟨nth_blank.2 ⟨h, g2⟩, if_neg fun hh => hfresh hil hnl (.inr hh) h, hHlt q bk g2⟩
          · rcases h with ⟨o', m1, m2, m3⟩ | hr
            · rw [ho] at m1; cases m1
              rw [hal] at m2; cases m2
            · have e1 := hent q bk hr.1 hr.2 g2
              have hflat : bk.flat = true := by
                have := hHn (q - (base + zs.length))
                rw [show base + zs.length + (q - (base + zs.length)) = q from by omega, g2] at this
                exact hn'flat _ _ this.symm
              refine .inr ⟨?_, ?_, hr⟩
              · rw [if_pos hr]
                exact ((k2.heap.blk q bk e1).flat hflat).keep (n := base) (fun k hk => by rw [if_neg (by omega)]; exact (k1 k (by omega)).symm) (hHlt q bk g2)
              · rw [if_pos hr]
                rcases k2.old q bk e1 with h | h | h | ⟨h, j, bj, n1, n2, n3⟩
                · exact .inl h
                · exact .inr (.inl h)
                · exact h.elim
                · exact .inr (.inr ⟨h, j, bj, (hcin j bj n1).1, (hcin j bj n1).2.2, n2, n3.symm⟩)
        · have g2 := (nth_blank.1 hq).2
          have g2' := (nth_blank.1 hq').2
          simp only [if_pos h] at hn1 ⊢
          simp only [if_pos h'] at hn2 ⊢
          exact k2.heap.apart q q' bk bk' (hent q bk h.1 h.2 g2) ho1 (hent q' bk' h'.1 h'.2 g2') hne hn1 hn2
  · -- all is listed
    show wpList P ops Q (ops.toList.drop n) a1 w1
    refine hr2 θ a1 w1 ⟨⟨ha1.defers, ha1.size, ha1.slot, ha1.gl⟩, ?_⟩ Q fun ρ' a' w' h' => hQ ρ' a' w' h'.drop
    refine hd.grow (N := fun _ => False) (base := base) (Below.refl _ _) hn0b hlenH (fun _ _ => rfl) (fun q bk hq => .inl ⟨nth_blank.2 ⟨?_, hq⟩, rfl, hHlt q bk hq⟩) (fun _ _ _ _ h => h.elim)
    rcases Nat.lt_or_ge q base with h | h
    · exact .inl h
    · have hql : q < base + zs.length + hn'.length := by rw [← hHl]; exact nth_lt hq
      rcases Nat.lt_or_ge q (base + zs.length) with h2 | h2
      · obtain ⟨i, o, k1, k2, k3⟩ := acnt_surj pre (k := q - base) (by omega)
        exact .inr ⟨i, hlt_of k1, hall i (by simpa using hlt_of k1), .inl ⟨o, k1, k2, by omega⟩⟩
      · obtain ⟨i, k1, k2, k3⟩ := seg_at (s := sg) (n := pre.length) (p := q - (base + zs.length)) hz.mono hs0 (by rw [hz.sn]; omega)
        exact .inr ⟨i, k1, hall i (by simpa using k1), .inr ⟨by omega, by omega⟩⟩
  · refine hrr.hs.grow (N := fun _ => False) (base := base) (Below.refl _ _) hn0b (by rw [blank_len]; exact hlenH) (fun _ _ => rfl) (fun q bk hq => ?_) (fun _ _ _ _ h => h.elim)
    obtain ⟨g1, g2⟩ := nth_blank.1 hq
    rcases g1 with g1 | ⟨j, _, hj, _⟩
    · exact .inl ⟨by rw [hHs q g1] at g2; exact g2, rfl, hHlt q bk g2⟩
    · exfalso
      rw [Array.getD_eq_getD_getElem?, Array.getElem?_replicate] at hj
      split at hj <;> simp at hj
  · have hρ : ∀ q, q < base → θ' q = ρ q := fun q hq => hsm1 q (.inl hq)
    have ha1 : ARel ν θ' ⟨s, []⟩ a := hrr.act.ext (fun j hj => hρ j (by omega)) hchk.1 (by simp) s.hp
    have hs1 : HS E ν θ' s.hp w := hrr.hs.reloc hchk2 (fun j hj => hρ j (by rw [← hbase]; exact hj))
    have hwq := hz.quiet θ' a ha1 ⟨w, hs1⟩ _ rfl (List.zipWith (fun o e => nopW (e.2.2.conc ν θ') o) pre es).toArray (hdst θ') (fun a' => ARel ν θ' rf a') (fun _ h => h)
    have hB : Region.lexB .any (List.zipWith (fun o e => nopW (e.2.2.conc ν θ') o) pre es).toArray = true := by
      rw [← hlex]
      refine lexB_congr (by simp [hz.len]) fun j o1 o2 h1 h2 => ?_
      rw [List.getElem?_map] at h2
      obtain ⟨o, g1, rfl⟩ := Option.map_eq_some_iff.1 h2
      obtain ⟨e, he⟩ := hes j (hlt_of g1)
      rw [List.getElem?_zipWith, g1, he] at h1
      simp only [Option.some.injEq] at h1
      subst h1
      refine ⟨by rw [(hnopWd _ o).1, (hnopWd _ o).1], by rw [(hnopWd _ o).2.1, (hnopWd _ o).2.1], by rw [(hnopWd _ o).2.2, (hnopWd _ o).2.2], ?_⟩
      unfold nopW
      split
      · exact .inr ⟨_, _, rfl, rfl⟩
      · exact .inl rfl
    simp only [Region.lexB, Bool.and_eq_true] at hB
    have := wpAnyQ_lex (P := P) (C := fun w => HS E ν θ' s.hp w) (md := .any) hB.1 (List.zipWith (fun o e => nopW (e.2.2.conc ν θ') o) pre es) 0 (Array.replicate (List.zipWith (fun o e => nopW (e.2.2.conc ν θ') o) pre es).toArray.size false) a (by simp) (by simpa using hB.2) hwq
    rw [hsz θ'] at this
    simpa [hz.len] using this
end
end Go.Sx

namespace Go.Sx
open Go.RowKit

section
variable {P : Program}

theorem end_of_any {ops : Array Oper} {Q : Exit → Act → World → Prop} (hQ : ∀ e a w, Q e a w → e = .normal) : ∀ (fuel : Nat) (listed : Array Bool) (a : Act) (w : World), wpAny P .any ops Q fuel listed a w →
    ∃ a' w', Q .normal a' w' ∧ ∀ t, (∀ (j : Nat) (o : Oper), ops[j]? = some o → o.dst = some t → listed.getD j true = true) → a'.tmps[t]? = a.tmps[t]?
  | 0, listed, a, w, h => ⟨a, w, h.2, fun _ _ => rfl⟩
  | fuel + 1, listed, a, w, h => by
    have hlo : ¬ LetsOut Q := fun ⟨a, w, h⟩ => by cases hQ _ _ _ h
    cases hr : Region.ready .any ops listed with
    | nil => exact ⟨a, w, h.1 hr, fun _ _ => rfl⟩
    | cons i l =>
      have hi : i ∈ Region.ready .any ops listed := by rw [hr]; simp
      obtain ⟨hnl, oi, hoi, _⟩ := mem_ready.1 hi
      have hq := h.2 i hi
      have step : ∀ (a1 : Act) (w1 : World), (∀ t, oi.dst ≠ some t → a1.tmps[t]? = a.tmps[t]?) → wpAny P .any ops Q fuel (listed.setIfInBounds i true) a1 w1 →
          ∃ a' w', Q .normal a' w' ∧ ∀ t, (∀ (j : Nat) (o : Oper), ops[j]? = some o → o.dst = some t → listed.getD j true = true) → a'.tmps[t]? = a.tmps[t]? := by
        intro a1 w1 h1 hv
        obtain ⟨a', w', h2, h3⟩ := end_of_any hQ fuel _ _ _ hv
        refine ⟨a', w', h2, fun t ht => ?_⟩
        have hne : oi.dst ≠ some t := fun e => by have := ht i oi hoi e; rw [hnl] at this; cases this
        rw [h3 t (fun j o ho hd => ?_), h1 t hne]
        have h4 := ht j o ho hd
        by_cases hij : i = j
        · subst hij; rw [hnl] at h4; cases h4
        · rw [Array.getD_eq_getD_getElem?, Array.getElem?_setIfInBounds_ne hij, ← Array.getD_eq_getD_getElem?]
          exact h4
      unfold wpOp at hq
      rw [hoi] at hq
      simp only at hq
      split at hq
      · rcases hq with hq | hq
        · unfold Oper.wp at hq
          generalize (execOp a.eval oi).run P w = r at hq
          cases r with
          | ok n w' =>
            cases n <;> simp only [Oper.upon] at hq
            case value v => exact step _ _ (fun t ht => put_tmps_ne ht) hq
            case skip => exact step _ _ (fun t ht => put_tmps_ne ht) hq
            case defer d => exact step _ _ (fun t ht => put_tmps_ne (a := { a with defers := d :: a.defers }) ht) hq
            case enter f args =>
              obtain ⟨e, w'', fr, hR, _⟩ := hq []
              cases e with
              | returned v => exact step _ _ (fun t ht => put_tmps_ne ht) hR
              | panicked c => cases hQ _ _ _ hR
              | outgrown => exact absurd hR hlo
            case row r args =>
              obtain ⟨v, w'', hR, _⟩ := hq default []
              exact step _ _ (fun t ht => put_tmps_ne ht) hR
          | halt x w' =>
            cases x <;> simp only [Oper.upon] at hq
            cases hQ _ _ _ hq
        · exact absurd hq.2 hlo
      · exact step _ _ (fun t ht => put_tmps_ne ht) hq

theorem wpOp_after {ops ops' : Array Oper} {Q : Exit → Act → World → Prop} {i : Nat} {o o' : Oper} (ho : ops[i]? = some o) (ho' : ops'[i]? = some o') (he : o' = { o with after := o'.after })
    (hy : ∀ j : Nat, (ops'[j]?).bind (·.dst) = (ops[j]?).bind (·.dst)) {K K' : Act → World → Prop} (hk : ∀ a w, K a w → K' a w) {a : Act} {w : World} (h : wpOp P ops' Q i K a w) : wpOp P ops Q i K' a w := by
  have h := wpOp_mono hk h
  unfold wpOp at h ⊢
  rw [ho'] at h
  rw [ho]
  simp only at h ⊢
  have e1 : execOp a.eval o' = execOp a.eval o := by rw [he]; rfl
  have e2 : o'.dst = o.dst := by rw [he]
  have e3 : Region.wanted o' (yielded ops' a.tmps) = Region.wanted o (yielded ops a.tmps) := by
    rw [yielded_congr hy]
    have : o'.guard = o.guard := by rw [he]
    unfold Region.wanted
    rw [this]
  rw [e3] at h
  have e4 : ∀ r : Result Next, o'.upon P a K' Q r = o.upon P a K' Q r := fun r => by rw [he]; cases r with
    | ok n w => cases n <;> rfl
    | halt x w => cases x <;> rfl
  unfold Oper.wp Oper.asks at *
  rw [e1, e2, e4] at h
  exact h

theorem wpAny_float {ops ops' : Array Oper} {Q : Exit → Act → World → Prop} (hQ : ∀ e a w, Q e a w → e = .normal) {f : Nat} {of : Oper} (hof : ops[f]? = some of) (hof' : ops'[f]? = some of) (hgf : of.guard = none)
    {txs : List Nat} {R : (Nat → Option Value) → Prop} (hR : ∀ g g' : Nat → Option Value, (∀ t ∈ txs, g t = g' t) → R g → R g')
    (hsame : ∀ (j : Nat) (o' : Oper), ops'[j]? = some o' → ∃ o, ops[j]? = some o ∧ o' = { o with after := o'.after } ∧ (∀ e ∈ o.after, Region.binds .any e = true → e ∈ o'.after) ∧
      (∀ e ∈ o'.after, Region.binds .any e = true → e ∈ o.after ∨ (e.on = f ∧ ∀ x ∈ depsOf of, x ∈ reachFrom ops.toList j (depsOf o))))
    (hsz : ops'.size = ops.size) (hend : ∀ a w, Q .normal a w → R fun t => a.tmps[t]?)
    (hy : ∀ a : Act, (R fun t => a.tmps[t]?) → ∃ v, ∀ w, (execOp a.eval of).run P w = .ok (.value v) w)
    (hwr : ∀ (j : Nat) (o : Oper), ops[j]? = some o → ∀ t ∈ txs, o.dst = some t → j ∈ depsOf of)
    (hfree : ∀ (j : Nat) (oj : Oper), ops[j]? = some oj → j ≠ f → j ∈ depsOf of ∨ f ∈ depsOf oj ∨ of.apart ops oj = true) (hns : Region.noSelect ops = true) :
    ∀ (fuel : Nat) (listed : Array Bool) (a : Act) (w : World), listed.size = ops.size → Closed ops listed → wpAny P .any ops' Q fuel listed a w → wpAny P .any ops Q fuel listed a w := by
  have hsame2 : ∀ (j : Nat) (o : Oper), ops[j]? = some o → ∃ o', ops'[j]? = some o' := fun j o ho => by
    have : j < ops'.size := by
      rw [hsz]
      rcases Nat.lt_or_ge j ops.size with h | h
      · exact h
      · rw [Array.getElem?_eq_none h] at ho; cases ho
    exact ⟨_, Array.getElem?_eq_getElem this⟩
  have hdst : ∀ j : Nat, (ops'[j]?).bind (·.dst) = (ops[j]?).bind (·.dst) := fun j => by
    cases h : ops'[j]? with
    | none =>
      cases h2 : ops[j]? with
      | none => rfl
      | some o => obtain ⟨o', h3⟩ := hsame2 j o h2; rw [h] at h3; cases h3
    | some o' =>
      obtain ⟨o, h2, h3, _⟩ := hsame j o' h
      rw [h2, h3]; rfl
  have hdep : ∀ {o : Oper} {e : Edge}, e ∈ o.after → Region.binds .any e = true → e.on ∈ depsOf o := fun {o e} he hb => by
    unfold depsOf
    exact List.mem_map.2 ⟨e, List.mem_filter.2 ⟨by simpa using he, hb⟩, rfl⟩
  -- what is ready there is ready here
  have down : ∀ listed : Array Bool, ∀ j, j ∈ Region.ready .any ops' listed → j ∈ Region.ready .any ops listed := fun listed j hj => by
    obtain ⟨h1, o', h2, h3⟩ := mem_ready.1 hj
    obtain ⟨o, h4, h5, h6, _⟩ := hsame j o' h2
    exact mem_ready.2 ⟨h1, o, h4, fun e he hb => h3 e (h6 e he hb) hb⟩
  -- and the other way round, where the operation is not waited for
  have up : ∀ listed : Array Bool, listed.size = ops.size → Closed ops listed → (f ∈ Region.ready .any ops listed → False) → ∀ j, j ∈ Region.ready .any ops listed → j ∈ Region.ready .any ops' listed := fun listed hszl hc hnf j hj => by
    obtain ⟨h1, o, h2, h3⟩ := mem_ready.1 hj
    obtain ⟨o', h4⟩ := hsame2 j o h2
    obtain ⟨o1, h5, h6, h7, h8⟩ := hsame j o' h4
    rw [h2] at h5; cases h5
    refine mem_ready.2 ⟨h1, o', h4, fun e he hb => ?_⟩
    rcases h8 e he hb with h9 | ⟨h9, h10⟩
    · exact h3 e h9 hb
    · rw [h9]
      cases h : listed.getD f false with
      | true => rfl
      | false =>
        exfalso
        have hf : f < listed.size := by
          rw [hszl]
          rcases Nat.lt_or_ge f ops.size with h | h
          · exact h
          · rw [Array.getElem?_eq_none h] at hof; cases hof
        exact hnf (mem_ready.2 ⟨by rw [getD_true_false hf]; exact h, of, hof, fun e' he' hb' => anc_listed hc h2 hj _ (h10 _ (hdep he' hb'))⟩)
  have upf : ∀ listed : Array Bool, f ∈ Region.ready .any ops listed → f ∈ Region.ready .any ops' listed := fun listed hj => by
    obtain ⟨h1, o, h2, h3⟩ := mem_ready.1 hj
    rw [hof] at h2; cases h2
    exact mem_ready.2 ⟨h1, of, hof', h3⟩
  have hlo : ¬ LetsOut Q := fun ⟨a, w, h⟩ => by cases hQ _ _ _ h
  intro fuel
  induction fuel with
  | zero =>
    intro listed a w hs hc h
    refine ⟨?_, h.2⟩
    apply List.eq_nil_iff_forall_not_mem.2
    intro j hj
    by_cases hf : f ∈ Region.ready .any ops listed
    · have := upf listed hf
      rw [h.1] at this; cases this
    · have := up listed hs hc (fun h => hf h) j hj
      rw [h.1] at this; cases this
  | succ fuel ih =>
    intro listed a w hs hc h
    by_cases hf : f ∈ Region.ready .any ops listed
    · have hf' := upf listed hf
      have hdl : ∀ j ∈ depsOf of, listed.getD j true = true := fun j hj => by
        obtain ⟨e, he, hb, rfl⟩ := depsOf_mem hj
        obtain ⟨_, o, h2, h3⟩ := mem_ready.1 hf
        rw [hof] at h2; cases h2
        have := h3 e he hb
        have hlt : e.on < listed.size := by
          rcases Nat.lt_or_ge e.on listed.size with h | h
          · exact h
          · rw [Array.getD_eq_getD_getElem?, Array.getElem?_eq_none h] at this; cases this
        rw [getD_true_false hlt]; exact this
      obtain ⟨a', w', h1, h2⟩ := end_of_any hQ _ _ _ _ h
      obtain ⟨v0, hv0⟩ := hy a (hR _ _ (fun t ht => h2 t (fun j o' ho' hd => by
        obtain ⟨o, h5, h6, _⟩ := hsame j o' ho'
        exact hdl j (hwr j o h5 t ht (by rw [h6] at hd; exact hd)))) (hend a' w' h1))
      have hwt : ∀ ops : Array Oper, Region.wanted of (yielded ops a.tmps) = true := fun _ => by simp [Region.wanted, hgf]
      have hq := h.2 f hf'
      unfold wpOp at hq
      rw [hof'] at hq
      simp only at hq
      rw [if_pos (hwt ops')] at hq
      rcases hq with hq | hq
      · unfold Oper.wp at hq
        rw [hv0 w] at hq
        refine wpAny_first hof (fun j o cs b ho => Region.noSelect_spec hns j o cs b ho) (fun c a w h => by cases hQ _ _ _ h) fuel listed a w (fun j oj hoj hj hl hne => ?_) hf (.inl ⟨hwt ops, hv0⟩) (ih _ _ _ (by simpa using hs) (hc.set hf) hq)
        rcases hfree j oj hoj hj with h | h | h
        · rw [hdl j h] at hl; cases hl
        · obtain ⟨e, he, hb, h7⟩ := depsOf_mem h
          exact absurd h7 (hne e he hb)
        · exact h
      · exact absurd hq.2 hlo
    · refine ⟨fun h0 => h.1 ?_, fun i hi => ?_⟩
      · apply List.eq_nil_iff_forall_not_mem.2
        intro j hj
        have := down listed j hj
        rw [h0] at this; cases this
      · have hi' := up listed hs hc (fun h => hf h) i hi
        obtain ⟨_, o, h2, _⟩ := mem_ready.1 hi
        obtain ⟨o', h4⟩ := hsame2 i o h2
        obtain ⟨o1, h5, h6, _⟩ := hsame i o' h4
        rw [h2] at h5; cases h5
        exact wpOp_after h2 h4 h6 hdst (fun a w h => ih _ a w (by simpa using hs) (hc.set hi) h) (h.2 i hi')
end
end Go.Sx

namespace Go.Sx
open Go.RowKit

section
variable {P : Program}

theorem moves_yield {o : Oper} (h : moveOp o.op = true) (ops : Array Oper) (a : Act) : ∃ v, Yields P ops o v a := by
  cases hw : Region.wanted o (yielded ops a.tmps) with
  | false => exact ⟨undef, .inr ⟨hw, rfl⟩⟩
  | true =>
    cases ho : o.op with
    | move x => exact ⟨a.eval x, .inl ⟨hw, fun w => by simp only [execOp, ho]; rfl⟩⟩
    | assign x => exact ⟨a.eval x, .inl ⟨hw, fun w => by simp only [execOp, ho]; rfl⟩⟩
    | _ => rw [ho] at h; cases h
theorem Yields.un {ops : Array Oper} {Q : Exit → Act → World → Prop} (hlo : ¬ LetsOut Q) {i : Nat} {o : Oper} {v : Value} {a : Act} {w : World} {K : Act → World → Prop} (hi : ops[i]? = some o) (hy : Yields P ops o v a) (h : wpOp P ops Q i K a w) : K (a.put o.dst v) w := by
  unfold wpOp at h
  rw [hi] at h
  simp only at h
  rcases hy with ⟨hw, hv⟩ | ⟨hw, rfl⟩
  · rw [if_pos hw] at h
    rcases h with h | h
    · unfold Oper.wp at h
      rw [hv w] at h
      exact h
    · exact absurd h.2 hlo
  · rw [if_neg (by rw [hw]; decide)] at h
    exact h
theorem Yields.congr {ops ops' : Array Oper} (h : ∀ j : Nat, (ops'[j]?).bind (·.dst) = (ops[j]?).bind (·.dst)) {o : Oper} {v : Value} {a : Act} (hy : Yields P ops o v a) : Yields P ops' o v a := by
  unfold Yields at *
  rw [yielded_congr h]
  exact hy

theorem wpAny_floatM {ops ops' : Array Oper} {Q : Exit → Act → World → Prop} (hQ : ∀ e a w, Q e a w → e = .normal) {f : Nat} {of : Oper} (hof : ops[f]? = some of) (hof' : ops'[f]? = some of)
    (hsame : ∀ (j : Nat) (o' : Oper), ops'[j]? = some o' → ∃ o, ops[j]? = some o ∧ o' = { o with after := o'.after } ∧ (∀ e ∈ o.after, Region.binds .any e = true → e ∈ o'.after) ∧
      (∀ e ∈ o'.after, Region.binds .any e = true → e ∈ o.after ∨ (e.on = f ∧ ∀ x ∈ depsOf of, x ∈ reachFrom ops.toList j (depsOf o))))
    (hsz : ops'.size = ops.size) (hy : ∀ a : Act, ∃ v, Yields P ops of v a)
    (hfree : ∀ (j : Nat) (oj : Oper), ops[j]? = some oj → j ≠ f → j ∈ depsOf of ∨ f ∈ depsOf oj ∨ of.apart ops oj = true) (hns : Region.noSelect ops = true) :
    ∀ (fuel : Nat) (listed : Array Bool) (a : Act) (w : World), listed.size = ops.size → Closed ops listed → wpAny P .any ops' Q fuel listed a w → wpAny P .any ops Q fuel listed a w := by
  have hsame2 : ∀ (j : Nat) (o : Oper), ops[j]? = some o → ∃ o', ops'[j]? = some o' := fun j o ho => by
    have : j < ops'.size := by
      rw [hsz]
      rcases Nat.lt_or_ge j ops.size with h | h
      · exact h
      · rw [Array.getElem?_eq_none h] at ho; cases ho
    exact ⟨_, Array.getElem?_eq_getElem this⟩
  have hdst : ∀ j : Nat, (ops'[j]?).bind (·.dst) = (ops[j]?).bind (·.dst) := fun j => by
    cases h : ops'[j]? with
    | none =>
      cases h2 : ops[j]? with
      | none => rfl
      | some o => obtain ⟨o', h3⟩ := hsame2 j o h2; rw [h] at h3; cases h3
    | some o' =>
      obtain ⟨o, h2, h3, _⟩ := hsame j o' h
      rw [h2, h3]; rfl
  have hdep : ∀ {o : Oper} {e : Edge}, e ∈ o.after → Region.binds .any e = true → e.on ∈ depsOf o := fun {o e} he hb => by
    unfold depsOf
    exact List.mem_map.2 ⟨e, List.mem_filter.2 ⟨by simpa using he, hb⟩, rfl⟩
  have down : ∀ listed : Array Bool, ∀ j, j ∈ Region.ready .any ops' listed → j ∈ Region.ready .any ops listed := fun listed j hj => by
    obtain ⟨h1, o', h2, h3⟩ := mem_ready.1 hj
    obtain ⟨o, h4, h5, h6, _⟩ := hsame j o' h2
    exact mem_ready.2 ⟨h1, o, h4, fun e he hb => h3 e (h6 e he hb) hb⟩
  have up : ∀ listed : Array Bool, listed.size = ops.size → Closed ops listed → (f ∈ Region.ready .any ops listed → False) → ∀ j, j ∈ Region.ready .any ops listed → j ∈ Region.ready .any ops' listed := fun listed hszl hc hnf j hj => by
    obtain ⟨h1, o, h2, h3⟩ := mem_ready.1 hj
    obtain ⟨o', h4⟩ := hsame2 j o h2
    obtain ⟨o1, h5, h6, h7, h8⟩ := hsame j o' h4
    rw [h2] at h5; cases h5
    refine mem_ready.2 ⟨h1, o', h4, fun e he hb => ?_⟩
    rcases h8 e he hb with h9 | ⟨h9, h10⟩
    · exact h3 e h9 hb
    · rw [h9]
      cases h : listed.getD f false with
      | true => rfl
      | false =>
        exfalso
        have hf : f < listed.size := by
          rw [hszl]
          rcases Nat.lt_or_ge f ops.size with h | h
          · exact h
          · rw [Array.getElem?_eq_none h] at hof; cases hof
        exact hnf (mem_ready.2 ⟨by rw [getD_true_false hf]; exact h, of, hof, fun e' he' hb' => anc_listed hc h2 hj _ (h10 _ (hdep he' hb'))⟩)
  have upf : ∀ listed : Array Bool, f ∈ Region.ready .any ops listed → f ∈ Region.ready .any ops' listed := fun listed hj => by
    obtain ⟨h1, o, h2, h3⟩ := mem_ready.1 hj
    rw [hof] at h2; cases h2
    exact mem_ready.2 ⟨h1, of, hof', h3⟩
  have hlo : ¬ LetsOut Q := fun ⟨a, w, h⟩ => by cases hQ _ _ _ h
  intro fuel
  induction fuel with
  | zero =>
    intro listed a w hs hc h
    refine ⟨?_, h.2⟩
    apply List.eq_nil_iff_forall_not_mem.2
    intro j hj
    by_cases hf : f ∈ Region.ready .any ops listed
    · have := upf listed hf
      rw [h.1] at this; cases this
    · have := up listed hs hc (fun h => hf h) j hj
      rw [h.1] at this; cases this
  | succ fuel ih =>
    intro listed a w hs hc h
    by_cases hf : f ∈ Region.ready .any ops listed
    · have hf' := upf listed hf
      have hdl : ∀ j ∈ depsOf of, listed.getD j true = true := fun j hj => by
        obtain ⟨e, he, hb, rfl⟩ := depsOf_mem hj
        obtain ⟨_, o, h2, h3⟩ := mem_ready.1 hf
        rw [hof] at h2; cases h2
        have := h3 e he hb
        have hlt : e.on < listed.size := by
          rcases Nat.lt_or_ge e.on listed.size with h | h
          · exact h
          · rw [Array.getD_eq_getD_getElem?, Array.getElem?_eq_none h] at this; cases this
        rw [getD_true_false hlt]; exact this
      obtain ⟨v0, hv0⟩ := hy a
      have hq := Yields.un hlo hof' (Yields.congr hdst hv0) (h.2 f hf')
      refine wpAny_first hof (fun j o cs b ho => Region.noSelect_spec hns j o cs b ho) (fun c a w h => by cases hQ _ _ _ h) fuel listed a w (fun j oj hoj hj hl hne => ?_) hf hv0 (ih _ _ _ (by simpa using hs) (hc.set hf) hq)
      rcases hfree j oj hoj hj with h | h | h
      · rw [hdl j h] at hl; cases hl
      · obtain ⟨e, he, hb, h7⟩ := depsOf_mem h
        exact absurd h7 (hne e he hb)
      · exact h
    · refine ⟨fun h0 => h.1 ?_, fun i hi => ?_⟩
      · apply List.eq_nil_iff_forall_not_mem.2
        intro j hj
        have := down listed j hj
        rw [h0] at this; cases this
      · have hi' := up listed hs hc (fun h => hf h) i hi
        obtain ⟨_, o, h2, _⟩ := mem_ready.1 hi
        obtain ⟨o', h4⟩ := hsame2 i o h2
        obtain ⟨o1, h5, h6, _⟩ := hsame i o' h4
        rw [h2] at h5; cases h5
        exact wpOp_after h2 h4 h6 hdst (fun a w h => ih _ a w (by simpa using hs) (hc.set hi) h) (h.2 i hi')

theorem swp_swp (i j : Nat) : swp i (swp i j) = j := by
  unfold swp
  by_cases h1 : j = i
  · subst h1
    have e : Nat.beq (j + 1) j = false := by rw [← Bool.not_eq_true, Nat.beq_eq]; omega
    simp [Nat.beq_refl, e]
  · have e1 : Nat.beq j i = false := by rw [← Bool.not_eq_true, Nat.beq_eq]; exact h1
    by_cases h2 : j = i + 1
    · subst h2
      simp [Nat.beq_refl, e1]
    · have e2 : Nat.beq j (i + 1) = false := by rw [← Bool.not_eq_true, Nat.beq_eq]; exact h2
      simp [e1, e2]
theorem swp_inj {i j k : Nat} (h : swp i j = swp i k) : j = k := by rw [← swp_swp i j, h, swp_swp]
theorem wpAny_swap {ops ops' : Array Oper} {Q : Exit → Act → World → Prop} {i : Nat} (hlt : i + 1 < ops.size) (hsz : ops'.size = ops.size) (hs : ∀ j : Nat, ops'[swp i j]? = (ops[j]?).map (swpO i)) :
    ∀ (fuel : Nat) (listed listed' : Array Bool) (a : Act) (w : World), listed.size = ops.size → listed'.size = ops.size → (∀ j : Nat, listed'[swp i j]? = listed[j]?) → wpAny P .any ops' Q fuel listed' a w → wpAny P .any ops Q fuel listed a w := by
  have hdst : ∀ j : Nat, (ops'[swp i j]?).bind (·.dst) = (ops[j]?).bind (·.dst) := fun j => by rw [hs j]; cases ops[j]? <;> rfl
  have hready : ∀ (listed listed' : Array Bool), (∀ j : Nat, listed'[swp i j]? = listed[j]?) → ∀ j, j ∈ Region.ready .any ops listed ↔ swp i j ∈ Region.ready .any ops' listed' := fun listed listed' hl j => by
    have hg : ∀ (d : Bool) (j : Nat), listed'.getD (swp i j) d = listed.getD j d := fun d j => by rw [Array.getD_eq_getD_getElem?, Array.getD_eq_getD_getElem?, hl]
    rw [mem_ready, mem_ready, hg, hs j]
    constructor
    · rintro ⟨h1, o, h2, h3⟩
      refine ⟨h1, swpO i o, by rw [h2]; rfl, fun e he hb => ?_⟩
      unfold swpO at he
      simp only [List.mem_toArray, List.mem_map] at he
      obtain ⟨e0, he0, rfl⟩ := he
      show listed'.getD (swp i e0.on) false = true
      rw [hg]
      exact h3 e0 (by simpa using he0) hb
    · rintro ⟨h1, o', h2, h3⟩
      obtain ⟨o, h4, rfl⟩ := Option.map_eq_some_iff.1 h2
      refine ⟨h1, o, h4, fun e he hb => ?_⟩
      have := h3 { e with on := swp i e.on } (by unfold swpO; simp only [List.mem_toArray, List.mem_map]; exact ⟨e, by simpa using he, rfl⟩) hb
      rw [show listed'.getD (swp i e.on) false = listed.getD e.on false from hg false e.on] at this
      exact this
  have hy : ∀ (tmps : Array Value) (j : Nat), yielded ops' tmps (swp i j) = yielded ops tmps j := fun tmps j => by unfold yielded; rw [hdst j]
  have hwp : ∀ (j : Nat) (K K' : Act → World → Prop) (a : Act) (w : World), (∀ a w, K a w → K' a w) → wpOp P ops' Q (swp i j) K a w → wpOp P ops Q j K' a w := fun j K K' a w hk h => by
    have h := wpOp_mono hk h
    unfold wpOp at h ⊢
    rw [hs j] at h
    cases ho : ops[j]? with
    | none => rw [ho] at h; exact h
    | some o =>
      rw [ho] at h
      simp only [Option.map_some] at h
      have e3 : Region.wanted (swpO i o) (yielded ops' a.tmps) = Region.wanted o (yielded ops a.tmps) := by
        unfold Region.wanted swpO
        cases o.guard with
        | none => rfl
        | some g => simp only [Option.map_some]; rw [hy]
      rw [e3] at h
      exact h
  intro fuel
  induction fuel with
  | zero =>
    intro listed listed' a w h1 h2 hl h
    refine ⟨?_, h.2⟩
    apply List.eq_nil_iff_forall_not_mem.2
    intro j hj
    have := (hready _ _ hl j).1 hj
    rw [h.1] at this; cases this
  | succ fuel ih =>
    intro listed listed' a w h1 h2 hl h
    refine ⟨fun h0 => h.1 ?_, fun j hj => ?_⟩
    · apply List.eq_nil_iff_forall_not_mem.2
      intro j hj
      have := (hready _ _ hl (swp i j)).2 (by rw [swp_swp]; exact hj)
      rw [h0] at this; cases this
    · refine hwp j _ _ a w (fun a w hk => ih _ _ a w (by simpa using h1) (by simpa using h2) (fun k => ?_) hk) (h.2 _ ((hready _ _ hl j).1 hj))
      by_cases hjk : k = j
      · subst hjk
        have hlk : k < listed.size := by
          rcases Nat.lt_or_ge k listed.size with h | h
          · exact h
          · have := (mem_ready.1 hj).1
            rw [Array.getD_eq_getD_getElem?, Array.getElem?_eq_none h] at this; cases this
        have hlk' : swp i k < listed'.size := by
          rcases Nat.lt_or_ge (swp i k) listed'.size with h | h
          · exact h
          · have := hl k
            rw [Array.getElem?_eq_none h, Array.getElem?_eq_getElem hlk] at this; cases this
        rw [Array.getElem?_setIfInBounds_self_of_lt hlk', Array.getElem?_setIfInBounds_self_of_lt hlk]
      · rw [Array.getElem?_setIfInBounds_ne (fun e => hjk (swp_inj e.symm)), Array.getElem?_setIfInBounds_ne (fun e => hjk e.symm)]
        exact hl k
end
end Go.Sx

namespace Go.Sx
open Go.RowKit
section
variable {P : Program} {I : World → Prop} {S : Sigs} {F : FEnv} {E : Env} {gK : Nat} {ν : Nat → DV}

theorem A.eqS_eq {a b : A} (h : a.eqS b = true) : a = b := by
  unfold A.eqS at h
  split at h
  · rw [Nat.eq_of_beq_eq_true h]
  · rw [of_decide_eq_true h]
  · rw [beqB_eq h]
  · cases h
theorem Lf.eqS_eq {a b : Lf} (h : a.eqS b = true) : a = b := by
  unfold Lf.eqS at h
  split at h
  · simp only [Bool.and_eq_true] at h
    rw [kEq_eq h.1, A.eqS_eq h.2]
  · rw [A.eqS_eq h]
  · simp only [Bool.and_eq_true] at h
    rw [Nat.eq_of_beq_eq_true h.1, Nat.eq_of_beq_eq_true h.2]
  · rfl
  · rw [Nat.eq_of_beq_eq_true h]
  · cases h
theorem cellsEqS_eq : ∀ {l l' : List (Option Lf)}, cellsEqS l l' = true → l = l'
  | [], [], _ => rfl
  | none :: l, none :: l', h => by
    simp only [cellsEqS] at h
    rw [cellsEqS_eq h]
  | some a :: l, some b :: l', h => by
    simp only [cellsEqS, Bool.and_eq_true] at h
    rw [Lf.eqS_eq h.1, cellsEqS_eq h.2]
  | [], none :: _, h => by cases h
  | [], some _ :: _, h => by cases h
  | none :: _, [], h => by cases h
  | some _ :: _, [], h => by cases h
  | none :: _, some _ :: _, h => by cases h
  | some _ :: _, none :: _, h => by cases h
theorem Blk.eqS_eq {a b : Blk} (h : a.eqS b = true) : a = b := by
  unfold Blk.eqS at h
  split at h
  · simp only [Bool.and_eq_true] at h
    rw [beqB_eq h.1, cellsEqS_eq h.2]
  · simp only [Bool.and_eq_true] at h
    rw [beqB_eq h.1.1, ltsEqS_eq h.1.2, A.eqS_eq h.2]
  · cases h
theorem keptB_at : ∀ {R hp : List (Option Blk)} {q : Nat} {bk : Blk}, keptB R hp = true → q < R.length → nth hp q = some bk → nth R q = some bk
  | [], _, q, bk, _, hq, _ => absurd hq (by simp)
  | x :: l, none :: l', 0, bk, _, _, h => by simp [nth] at h
  | x :: l, none :: l', q + 1, bk, hk, hq, h => keptB_at (R := l) (hp := l') hk (by simpa using hq) h
  | some x :: l, some y :: l', 0, bk, hk, _, h => by
    simp only [keptB, Bool.and_eq_true] at hk
    simp only [nth, Option.some.injEq] at h ⊢
    rw [Blk.eqS_eq hk.1, h]
  | some x :: l, some y :: l', q + 1, bk, hk, hq, h => by
    simp only [keptB, Bool.and_eq_true] at hk
    exact keptB_at (R := l) (hp := l') hk.2 (by simpa using hq) h
  | none :: _, some _ :: _, _, _, hk, _, _ => by cases hk
  | some _ :: _, [], _, _, hk, _, _ => by cases hk
  | none :: _, [], _, _, hk, _, _ => by cases hk
theorem nth_keepAt {fp : List Nat} : ∀ (l : List (Option Blk)) (j q : Nat), nth (keepAt fp j l) q = if memN (j + q) fp then nth l q else none
  | [], j, q => by cases q <;> simp [keepAt, nth]
  | x :: l, j, 0 => by simp [keepAt, nth]
  | x :: l, j, q + 1 => by
    simp only [keepAt, nth]
    rw [nth_keepAt l (j + 1) q, show j + 1 + q = j + (q + 1) from by omega]
theorem keepAt_len {fp : List Nat} : ∀ (l : List (Option Blk)) (j : Nat), (keepAt fp j l).length = l.length
  | [], _ => rfl
  | x :: l, j => by simp [keepAt, keepAt_len l (j + 1)]
theorem BlkRel.refs {p : Nat → Bool} {ρ ρ' : Nat → Loc} (hρ : ∀ q, p q = true → ρ' q = ρ q) {w : World} {r : Loc} {b : Blk} (hl : b.refsIn p = true) (h : BlkRel E ν ρ w r b) : BlkRel E ν ρ' w r b := by
  cases b with
  | v o ts a => exact h
  | c o cs =>
    have h : CBlk ν ρ w r o cs := h
    refine (⟨h.nil, h.lt, fun i l hi => ?_, h.own, h.fz⟩ : CBlk ν ρ' w r o cs)
    obtain ⟨g1, g2⟩ := h.cell i l hi
    have hall : cs.all (optAll (Lf.inB p)) = true := hl
    exact ⟨g1, by rw [g2, Lf.inB_conc (all_nth_of hall hi) hρ]⟩
theorem Blk.refsIn_mono {p p' : Nat → Bool} (h : ∀ q, p q = true → p' q = true) {b : Blk} (hb : b.refsIn p = true) : b.refsIn p' = true := by
  cases b with
  | v o ts a => rfl
  | c o cs =>
    refine List.all_eq_true.2 fun x hx => ?_
    have := List.all_eq_true.1 hb x hx
    cases x with
    | none => rfl
    | some l =>
      have hl : l.inB p = true := this
      show l.inB p' = true
      have := inB_mono (v := .s (.one l)) h hl
      exact this

theorem StepTo.mono {m : Sem Next} {w : World} {K K' : Value → World → Prop} (h : StepTo P m w K) (hk : ∀ v w', K v w' → K' v w') : StepTo P m w K' := by
  rcases h with ⟨v, w', h1, h2⟩ | ⟨f, args, w1, h1, h2⟩
  · exact .inl ⟨v, w', h1, hk _ _ h2⟩
  · exact .inr ⟨f, args, w1, h1, h2.mono fun e w' ⟨v, h3, h4⟩ => ⟨v, h3, hk _ _ h4⟩⟩

def OpFact (P : Program) (I : World → Prop) (gK : Nat) (ν : Nat → DV) (o : Oper) (e : SwE) (R : List (Option Blk)) (H : List (Option Blk)) : Prop :=
  ∀ (E2 : Env), E2.Ok gK → ∀ ρ a, ARel ν ρ ⟨⟨e.sl, R⟩, []⟩ a → ∀ w, HS E2 ν ρ R w → I w →
    StepTo P (execOp a.eval o) w fun v w' => ∃ (ρ' : Nat → Loc) (hp' : List (Option Blk)), (∀ j, j < e.a → ρ' j = ρ j) ∧ HS E2 ν ρ' hp' w' ∧ v = e.v.conc ν ρ' ∧
      (∀ q bk, q < e.a → nth hp' q = some bk → nth R q = some bk) ∧ (∀ q bk, q < e.a → nth R q = some bk → q ∉ e.ks → nth hp' q = some bk) ∧ (∀ q, e.a ≤ q → q < e.b → nth hp' q = nth H q)

structure SwFact (P : Program) (I : World → Prop) (gK : Nat) (ν : Nat → DV) (base : Nat) (o : Oper) (e : SwE) (H : List (Option Blk)) : Prop where
  fact : OpFact P I gK ν o e (keepAt e.fp 0 (H.take e.a)) H
  easy : e.v.easy = true
  val : e.v.inB (rngB base [] e.a e.b) = true
  ks : ∀ q ∈ e.ks, base ≤ q ∧ q ∈ e.fp
  fpl : ∀ q ∈ e.fp, q < e.a
  news : ∀ q bk, e.a ≤ q → q < e.b → nth H q = some bk → bk.flat = true ∧ bk.refsIn (rngB base e.fp e.a e.b) = true

theorem nth_take {α : Type} (l : List (Option α)) (n q : Nat) : nth (l.take n) q = if q < n then nth l q else none := by
  rw [nth_eq, List.getElem?_take]
  split
  · rw [nth_eq]
  · rfl

theorem swOne_sat (hS : SigsOK P I gK S F) {base : Nat} {r : RS} {H : List (Option Blk)} {dead : List Nat} {o : Oper} :
    M.sat F ν (swOne P S base r H dead o) (fun z => z.2.a = H.length ∧ z.2.a ≤ z.2.b ∧ z.2.b = z.1.length ∧ z.1.take H.length = H ∧ SwFact P I gK ν base o z.2 z.1) := by
  unfold swOne
  dsimp only
  generalize hsl : keepSl (effTmps o.op) 0 r.st.sl = sl
  generalize hfp : ((reachIds H 60 ((effTmps o.op).flatMap fun t => match nth r.st.sl t with | some v => vIds v | none => []) []).filter fun q => !memN q dead && Nat.blt q H.length) = fp
  have hfpl : ∀ q ∈ fp, q < H.length := fun q hq => by
    rw [← hfp] at hq
    have := (List.mem_filter.1 hq).2
    simp only [Bool.and_eq_true, Nat.blt_eq] at this
    exact this.2
  refine sat_bind (sat_all (ι := { E2 : Env // E2.Ok gK }) fun E2 => evOp_sat (E := E2.1) (r := ⟨⟨sl, keepAt fp 0 H⟩, []⟩) (ctx := []) (o := o) hS E2.2) fun res hres => ?_
  cases res with
  | val v =>
    refine sat_ite (fun hc => ?_) (fun _ => sat_fail)
    simp only [Bool.and_eq_true] at hc
    refine sat_pure ⟨rfl, Nat.le_refl _, rfl, by simp, ⟨?_, hc.1, inB_mono (fun q hq => ?_) hc.2, fun q hq => (by cases hq), hfpl, fun q bk h1 h2 => (by dsimp only at h1 h2; omega)⟩⟩
    · intro E2 hE2 ρ a ha w hh hI
      obtain ⟨hg, hr⟩ := hres ⟨E2, hE2⟩ ρ a (by simpa using ha) (fun p hp => by simp at hp) w (by simpa using hh) hI
      rw [List.take_length] at hh ⊢
      rcases hr with hr | ⟨f, args, hr, hcl⟩
      · exact .inl ⟨_, w, hr, ρ, _, fun _ _ => rfl, hh, rfl, fun _ _ _ h => h, fun _ _ _ h _ => h, fun q h1 h2 => (by dsimp only at h1 h2; omega)⟩
      · exact .inr ⟨f, args, w, hr, hcl.mono fun e w' ⟨he, hb⟩ => ⟨_, he, ρ, _, fun _ _ => rfl, hh.of_below hb, rfl, fun _ _ _ h => h, fun _ _ _ h _ => h, fun q h1 h2 => (by dsimp only at h1 h2; omega)⟩⟩
    · unfold rngB at hq ⊢
      simp only [memN, Bool.or_eq_true, Bool.and_eq_true] at hq ⊢
      rcases hq with (hq | hq) | hq
      · exact .inl (.inl hq)
      · cases hq
      · have := Nat.le_of_ble_eq_true hq.1
        have h2 := hq.2
        simp [Nat.blt_eq] at h2
  | hp v hp' =>
    cases v with
    | none => exact sat_fail
    | some v =>
      refine sat_ite (fun hc => ?_) (fun _ => sat_fail)
      simp only [Bool.and_eq_true] at hc
      obtain ⟨⟨⟨⟨⟨h1, h2⟩, h3⟩, h4⟩, h5⟩, h6⟩ := hc
      have h1 := Nat.le_of_ble_eq_true h1
      have hlen : (H ++ hp'.drop H.length).length = hp'.length := by simp; omega
      have hnw : ∀ q, H.length ≤ q → nth (H ++ hp'.drop H.length) q = nth hp' q := fun q hq => by
        rw [nth_append, if_neg (by omega), drop_nth, show H.length + (q - H.length) = q from by omega]
      refine sat_pure ⟨rfl, h1, hlen.symm, by simp, ⟨?_, h5, h6, fun q hq => ?_, hfpl, fun q bk g1 g2 hq => ?_⟩⟩
      · intro E2 hE2 ρ a ha w hh hI
        have htk : (H ++ hp'.drop H.length).take H.length = H := by simp
        rw [htk] at ha hh ⊢
        have hr := hres ⟨E2, hE2⟩ ρ a ha (fun p hp => by simp at hp) w hh hI
        have key : ∀ nv w', (∃ ρ' : Nat → Loc, (∀ j, j < (keepAt fp 0 H).length → ρ' j = ρ j) ∧ HS E2 ν ρ' hp' w' ∧ ∀ u, some v = some u → u.good ν ∧ nv = some (u.conc ν ρ')) →
            ∃ x, nv = some x ∧ ∃ (ρ' : Nat → Loc) (hp1 : List (Option Blk)), (∀ j, j < H.length → ρ' j = ρ j) ∧ HS E2 ν ρ' hp1 w' ∧ x = v.conc ν ρ' ∧
              (∀ q bk, q < H.length → nth hp1 q = some bk → nth (keepAt fp 0 H) q = some bk) ∧ (∀ q bk, q < H.length → nth (keepAt fp 0 H) q = some bk → q ∉ (fp.filter fun q => (nth (keepAt fp 0 H) q).isSome && (nth hp' q).isNone) → nth hp1 q = some bk) ∧ (∀ q, H.length ≤ q → q < hp'.length → nth hp1 q = nth (H ++ hp'.drop H.length) q) := by
          rintro nv w' ⟨ρ', k1, k2, k3⟩
          rw [keepAt_len] at k1
          refine ⟨_, (k3 v rfl).2, ρ', hp', k1, k2, rfl, fun q bk g1 g2 => keptB_at h2 (by rw [keepAt_len]; exact g1) g2, fun q bk g1 g2 g3 => ?_, fun q g1 g2 => (hnw q g1).symm⟩
          have hm : memN q fp = true := by
            rw [nth_keepAt] at g2
            split at g2
            · rename_i h; simpa using h
            · cases g2
          cases hx : nth hp' q with
          | none =>
            exfalso
            refine g3 (List.mem_filter.2 ⟨memN_mem hm, ?_⟩)
            rw [g2, hx]; rfl
          | some y =>
            have := keptB_at h2 (by rw [keepAt_len]; exact g1) hx
            rw [g2] at this
            exact this.symm
        rcases hr with ⟨x, w', hr, hk⟩ | ⟨w', hr, hk⟩ | ⟨f, args, hr, hcl⟩
        · obtain ⟨y, e1, e2⟩ := key _ _ hk
          cases e1
          exact .inl ⟨_, w', hr, e2⟩
        · obtain ⟨y, e1, _⟩ := key _ _ hk
          cases e1
        · refine .inr ⟨f, args, w, hr, hcl.mono fun e w' ⟨x, he, hk⟩ => ?_⟩
          obtain ⟨y, e1, e2⟩ := key _ _ hk
          cases e1
          exact ⟨_, he, e2⟩
      · exact ⟨Nat.le_of_ble_eq_true (List.all_eq_true.1 h3 q hq), (List.mem_filter.1 hq).1⟩
      · simp only at g1 g2 hq ⊢
        have e1 : nth (hp'.drop H.length) (q - H.length) = some bk := by
          rw [drop_nth, show H.length + (q - H.length) = q from by omega, ← hnw q g1]
          exact hq
        have := all_nth_of h4 e1
        simpa using this

def Chain : Nat → List SwE → Nat → Prop
  | n, [], m => n = m
  | n, e :: r, m => e.a = n ∧ n ≤ e.b ∧ Chain e.b r m
theorem Chain.le : ∀ {n m : Nat} {es : List SwE}, Chain n es m → n ≤ m
  | n, m, [], h => by cases h; exact Nat.le_refl _
  | n, m, e :: r, h => Nat.le_trans h.2.1 (Chain.le h.2.2)
theorem Chain.at : ∀ {n m : Nat} {es : List SwE}, Chain n es m → ∀ (i : Nat) (e : SwE), es[i]? = some e → n ≤ e.a ∧ e.a ≤ e.b ∧ e.b ≤ m
  | n, m, [], _, i, e, h => by simp at h
  | n, m, x :: r, hc, 0, e, h => by
    simp at h; subst h
    exact ⟨by rw [hc.1]; exact Nat.le_refl _, by rw [hc.1]; exact hc.2.1, hc.2.2.le⟩
  | n, m, x :: r, hc, i + 1, e, h => by
    have := Chain.at hc.2.2 i e (by simpa using h)
    exact ⟨Nat.le_trans hc.2.1 this.1, this.2⟩
theorem Chain.lt {n m : Nat} {es : List SwE} (hc : Chain n es m) : ∀ (i j : Nat) (e e' : SwE), i < j → es[i]? = some e → es[j]? = some e' → e.b ≤ e'.a := by
  induction es generalizing n with
  | nil => intro i j e e' _ h; simp at h
  | cons x r ih =>
    intro i j e e' hij h h'
    cases j with
    | zero => omega
    | succ j =>
      rw [List.getElem?_cons_succ] at h'
      cases i with
      | zero =>
        rw [List.getElem?_cons_zero] at h
        cases h
        exact (Chain.at hc.2.2 j e' h').1
      | succ i =>
        rw [List.getElem?_cons_succ] at h
        exact ih hc.2.2 i j e e' (by omega) h h'
theorem Chain.surj : ∀ {n m : Nat} {es : List SwE}, Chain n es m → ∀ q, n ≤ q → q < m → ∃ (i : Nat) (e : SwE), es[i]? = some e ∧ e.a ≤ q ∧ q < e.b
  | n, m, [], h, q, h1, h2 => by cases h; omega
  | n, m, x :: r, hc, q, h1, h2 => by
    rcases Nat.lt_or_ge q x.b with h | h
    · exact ⟨0, x, rfl, by rw [hc.1]; exact h1, h⟩
    · obtain ⟨i, e, g1, g2⟩ := Chain.surj hc.2.2 q h h2
      exact ⟨i + 1, e, by simpa using g1, g2⟩

structure SwOK (P : Program) (I : World → Prop) (gK : Nat) (ν : Nat → DV) (E : Env) (ops : Array Oper) (base : Nat) (l : List Oper) (r : RS) (H : List (Option Blk)) (r' : RS) (H' : List (Option Blk)) (es : List SwE) : Prop where
  len : es.length = l.length
  hp : r'.st.hp = r.st.hp
  pre : H'.take H.length = H
  chain : Chain H.length es H'.length
  quiet : ∀ ρ a, ARel ν ρ r a → (∃ w, HS E ν ρ r.st.hp w) → ∀ C : World → Prop, C = (fun w => HS E ν ρ r.st.hp w) → ∀ ops' : Array Oper, (∀ j : Nat, (ops'[j]?).bind (·.dst) = (ops[j]?).bind (·.dst)) →
    ∀ Q : Act → Prop, (∀ a', ARel ν ρ r' a' → Q a') → wpQuiet P ops' C Q (List.zipWith (fun o e => nopX (e.v.conc ν ρ) o) l es) a
  eff : ∀ (i : Nat) (o : Oper) (e : SwE), l[i]? = some o → es[i]? = some e → effOp2 o.op = true → SwFact P I gK ν base o e H'
  still : ∀ (i : Nat) (o : Oper) (e : SwE), l[i]? = some o → es[i]? = some e → effOp2 o.op = false → e.a = e.b ∧ e.ks = []

theorem nopX_not {v : Value} {o : Oper} (h : effOp2 o.op = false) : nopX v o = o := by unfold nopX; rw [h]; rfl
theorem nopX_eff {v : Value} {o : Oper} (h : effOp2 o.op = true) : nopX v o = { o with op := .move (.const v) } := by unfold nopX; rw [if_pos h]
theorem effX_quiet {o : Oper} {r r1 : RS} {v : V} (he : effOp2 o.op = true) (hg : o.guard = none) (hgood : v.good ν) (hput : ∀ ρ a (x : Value), ARel ν ρ r a → (∀ u, some v = some u → u.good ν ∧ x = u.conc ν ρ) → ARel ν ρ r1 (a.put o.dst x))
    (ρ : Nat → Loc) (a : Act) (hra : ARel ν ρ r a) (C : World → Prop) (ops' : Array Oper) :
    if Region.wanted (nopX (v.conc ν ρ) o) (yielded ops' a.tmps) = true then ∃ u, (∀ w, C w → (nopX (v.conc ν ρ) o).quietAt P a C w u) ∧ ARel ν ρ r1 (a.put (nopX (v.conc ν ρ) o).dst u) else ARel ν ρ r1 (a.put (nopX (v.conc ν ρ) o).dst undef) := by
  rw [nopX_eff he]
  rw [if_pos (by simp [Region.wanted, hg])]
  refine ⟨v.conc ν ρ, fun w _ => ?_, hput ρ a _ hra fun u hu => by cases hu; exact ⟨hgood, rfl⟩⟩
  unfold Oper.quietAt
  simp [execOp, Act.eval, Oper.quietUpon]

theorem SwFact.grow {base : Nat} {o : Oper} {e : SwE} {H H' : List (Option Blk)} {n : Nat} (h : SwFact P I gK ν base o e H) (hb : e.b = H.length) (ha : e.a ≤ e.b) (hp : H'.take n = H) (hn : n = H.length) : SwFact P I gK ν base o e H' := by
  subst hn
  have hq : ∀ q, q < H.length → nth H' q = nth H q := fun q hq => by
    have := congrArg (fun l => nth l q) hp
    simp only [nth_take, if_pos hq] at this
    exact this
  have ht : H'.take e.a = H.take e.a := take_take_le hp (by omega)
  refine ⟨?_, h.easy, h.val, h.ks, h.fpl, fun q bk h1 h2 h3 => h.news q bk h1 h2 (by rw [← hq q (by omega)]; exact h3)⟩
  rw [ht]
  intro E2 hE2 ρ a hra w hh hI
  refine (h.fact E2 hE2 ρ a hra w hh hI).mono fun v w' ⟨ρ', hp', k1, k2, k3, k4, k5, k6⟩ => ⟨ρ', hp', k1, k2, k3, k4, k5, fun q g1 g2 => by rw [k6 q g1 g2, hq q (by omega)]⟩

end
end Go.Sx

namespace Go.Sx
open Go.RowKit
section
variable {P : Program} {I : World → Prop} {S : Sigs} {F : FEnv} {E : Env} {gK : Nat} {ν : Nat → DV}

theorem swOps_sat (hS : SigsOK P I gK S F) (hE : E.Ok gK) (hn0 : S.n0 = E.n0) (hI : ∀ w, Fr E.W E.w0 w → I w) {ops : Array Oper} {base : Nat} : ∀ (l : List Oper) (r : RS) (H : List (Option Blk)) (dead : List Nat), (∀ o ∈ l, headOp2 o = true) →
    M.sat F ν (swOps P S ops.toList base l r H dead) (fun z => SwOK P I gK ν E ops base l r H z.1 z.2.1 z.2.2)
  | [], r, H, dead, _ => by
    unfold swOps
    exact sat_pure ⟨rfl, rfl, by simp, rfl, fun ρ a h _ C _ ops' _ Q hQ => hQ a h, fun i o e h => by simp at h, fun i o e h => by simp at h⟩
  | o :: l, r, H, dead, hl => by
    have hh := hl o (by simp)
    have hl' : ∀ o' ∈ l, headOp2 o' = true := fun o' h' => hl o' (List.mem_cons_of_mem _ h')
    unfold swOps
    refine sat_ite (fun heff => ?_) (fun hne => ?_)
    · have hg : o.guard = none := by
        unfold headOp2 at hh
        rw [heff] at hh
        simpa using hh
      refine sat_bind (swOne_sat (P := P) (I := I) hS) fun x hx => ?_
      obtain ⟨H1, e⟩ := x
      obtain ⟨h1, h2, h3, h4, h5⟩ := hx
      dsimp only at h1 h2 h3 h4 h5 ⊢
      refine sat_bind put_sat fun r1 hr1 => sat_bind (swOps_sat hS hE hn0 hI l r1 H1 (e.ks ++ dead) hl') fun z hz => sat_pure ?_
      have hle : H.length ≤ H1.length := by omega
      refine ⟨by simp [hz.len], hz.hp.trans hr1.1, by rw [take_take_le hz.pre hle, h4], ⟨h1, by omega, by rw [h3]; exact hz.chain⟩, fun ρ a hra hex C hC ops' hd Q hQ => ?_, fun i o' e' ho' he' hef => ?_, fun i o' e' ho' he' hef => ?_⟩
      · have := effX_quiet (P := P) heff hg (V.easy_good h5.easy) hr1.2 ρ a hra C ops'
        simp only [List.zipWith_cons_cons, wpQuiet]
        split
        · rename_i hw
          rw [if_pos hw] at this
          obtain ⟨v, h7, h8⟩ := this
          exact ⟨v, h7, hz.quiet ρ _ h8 (by rw [hr1.1]; exact hex) C (by rw [hr1.1]; exact hC) ops' hd Q hQ⟩
        · rename_i hw
          rw [if_neg hw] at this
          exact hz.quiet ρ _ this (by rw [hr1.1]; exact hex) C (by rw [hr1.1]; exact hC) ops' hd Q hQ
      · cases i with
        | zero =>
          rw [List.getElem?_cons_zero] at ho' he'
          cases ho'; cases he'
          exact h5.grow h3 h2 hz.pre rfl
        | succ i =>
          rw [List.getElem?_cons_succ] at ho' he'
          exact hz.eff i o' e' ho' he' hef
      · cases i with
        | zero =>
          rw [List.getElem?_cons_zero] at ho' he'
          cases ho'
          rw [heff] at hef; cases hef
        | succ i =>
          rw [List.getElem?_cons_succ] at ho' he'
          exact hz.still i o' e' ho' he' hef
    · have hne : effOp2 o.op = false := by simpa using hne
      refine sat_bind (evOper_sat (E := E) (ops := ops) hS hE hn0 hI true) fun r1 hr1 => sat_bind (swOps_sat hS hE hn0 hI l r1 H dead hl') fun z hz => sat_pure ?_
      have hq := hr1.2 rfl
      refine ⟨by simp [hz.len], hz.hp.trans hq.1, hz.pre, ⟨rfl, Nat.le_refl _, hz.chain⟩, fun ρ a hra hex C hC ops' hd Q hQ => ?_, fun i o' e' ho' he' hef => ?_, fun i o' e' ho' he' hef => ?_⟩
      · have := hq.2 ρ a hra hex C hC
        simp only [List.zipWith_cons_cons, wpQuiet]
        rw [nopX_not hne, yielded_congr hd]
        split
        · rename_i hw
          rw [if_pos hw] at this
          obtain ⟨v, h7, h8⟩ := this
          exact ⟨v, h7, hz.quiet ρ _ h8 (by rw [hq.1]; exact hex) C (by rw [hq.1]; exact hC) ops' hd Q hQ⟩
        · rename_i hw
          rw [if_neg hw] at this
          exact hz.quiet ρ _ this (by rw [hq.1]; exact hex) C (by rw [hq.1]; exact hC) ops' hd Q hQ
      · cases i with
        | zero =>
          rw [List.getElem?_cons_zero] at ho' he'
          cases ho'
          rw [hne] at hef; cases hef
        | succ i =>
          rw [List.getElem?_cons_succ] at ho' he'
          exact hz.eff i o' e' ho' he' hef
      · cases i with
        | zero =>
          rw [List.getElem?_cons_zero] at ho' he'
          cases he'
          exact ⟨rfl, rfl⟩
        | succ i =>
          rw [List.getElem?_cons_succ] at ho' he'
          exact hz.still i o' e' ho' he' hef

theorem all_of_nth {α : Type} {q : α → Bool} : ∀ {l : List (Option α)}, (∀ (i : Nat) (x : α), nth l i = some x → q x = true) → l.all (optAll q) = true
  | [], _ => rfl
  | x :: l, h => by
    simp only [List.all_cons, Bool.and_eq_true]
    refine ⟨?_, all_of_nth fun i y hy => h (i + 1) y hy⟩
    cases x with
    | none => rfl
    | some y => exact h 0 y rfl
theorem HS.swirl {θ ρ2 : Nat → Loc} {H R hp2 : List (Option Blk)} {L L' : Nat → Prop} {w w' : World} {n m : Nat} (h : HS E ν θ (blankL L H) w) (hWE : ∀ b, ¬ E.W b)
    (hR : ∀ q bk, nth R q = some bk → L q ∧ nth H q = some bk ∧ bk.flat = true ∧ bk.refsIn (fun r => Nat.blt r m) = true)
    (hRl : ∀ q bk, nth R q = some bk → q < n)
    (h2 : HS (callEnv R θ w) ν ρ2 hp2 w') (hρ : ∀ q, q < n → ρ2 q = θ q)
    (hnew : ∀ q bk, n ≤ q → q < m → nth H q = some bk → nth hp2 q = some bk ∧ bk.flat = true ∧ bk.refsIn (fun r => Nat.blt r m) = true)
    (hL' : ∀ q, L' q → (L q ∧ ¬ (n ≤ q ∧ q < m) ∧ (∀ bk, nth R q = some bk → nth hp2 q = some bk)) ∨ (n ≤ q ∧ q < m))
    (href : ∀ q bk, L q → nth H q = some bk → bk.refsIn (fun r => !(Nat.ble n r && Nat.blt r m)) = true)
    (hn0 : E.n0 ≤ H.length) (hk0 : ∀ q, q < E.n0 → q < n) : HS E ν (fun q => if n ≤ q ∧ q < m then ρ2 q else θ q) (blankL L' H) w' := by
  generalize hθ' : (fun q => if n ≤ q ∧ q < m then ρ2 q else θ q) = θ'
  have hout : ∀ q, ¬ (n ≤ q ∧ q < m) → θ' q = θ q := fun q hq => by rw [← hθ']; exact if_neg hq
  have hin : ∀ q, n ≤ q → q < m → θ' q = ρ2 q := fun q h1 h2 => by rw [← hθ']; exact if_pos ⟨h1, h2⟩
  have hlow : ∀ q, q < m → θ' q = ρ2 q := fun q hq => by
    rcases Nat.lt_or_ge q n with h1 | h1
    · rw [hout q (by omega), hρ q h1]
    · exact hin q h1 hq
  have hLat : ∀ q bk, L q → nth H q = some bk → nth (blankL L H) q = some bk := fun q bk h1 h2 => nth_blank.2 ⟨h1, h2⟩
  -- own blocks of R: not of what stood
  have hRb : ∀ q bk, nth R q = some bk → nth (blankL L H) q = some bk := fun q bk hq => hLat q bk (hR q bk hq).1 (hR q bk hq).2.1
  have hsame : ∀ q bk, L q → nth H q = some bk → nth R q = none → (θ q).nil = false → w'.heap[(θ q).blk]? = w.heap[(θ q).blk]? := by
    intro q bk hLq hq hRq hnil
    refine h2.fr.block _ ((h.heap.blk q bk (hLat q bk hLq hq)).lt hnil) ?_
    rintro ⟨j, x, hx, hxo, hxn, he⟩
    refine h.heap.apart j q x bk (hRb j x hx) hxo (hLat q bk hLq hq) (fun e => ?_) hxn hnil he
    subst e
    rw [hx] at hRq; cases hRq
  have hcase : ∀ q bk, nth (blankL L' H) q = some bk → (L q ∧ nth H q = some bk ∧ θ' q = θ q ∧ ((nth R q = none) ∨ nth hp2 q = some bk)) ∨ (n ≤ q ∧ q < m ∧ nth H q = some bk ∧ nth hp2 q = some bk ∧ θ' q = ρ2 q) := by
    intro q bk hq
    obtain ⟨g1, g2⟩ := nth_blank.1 hq
    rcases hL' q g1 with ⟨k1, k2, k3⟩ | ⟨k1, k2⟩
    · left
      refine ⟨k1, g2, hout q k2, ?_⟩
      cases hr : nth R q with
      | none => exact .inl rfl
      | some x =>
        right
        have := (hR q x hr).2.1
        rw [g2] at this; cases this
        exact k3 bk hr
    · exact .inr ⟨k1, k2, g2, (hnew q bk k1 k2 g2).1, hin q k1 k2⟩
  have hRall : R.all (optAll Blk.flat) = true := all_of_nth fun q bk hq => (hR q bk hq).2.2.1
  -- where a new block lies
  have hnewold : ∀ q bk q' bk', n ≤ q → q < m → nth hp2 q = some bk → L q' → nth H q' = some bk' → (nth R q' = none ∨ nth hp2 q' = some bk') → q ≠ q' → θ' q' = θ q' → (bk.own = true ∨ bk'.own = true) → (ρ2 q).nil = false → (θ q').nil = false → (ρ2 q).blk ≠ (θ q').blk := by
    intro q bk q' bk' hq1 hq2 hq hLq' hq' hrk hne hθq' howns hn1 hn2 he
    have hl := (h.heap.blk q' bk' (hLat q' bk' hLq' hq')).lt hn2
    have inR : ∀ x, nth R q' = some x → x = bk' ∧ nth hp2 q' = some bk' := fun x hx => by
      have := (hR q' x hx).2.1
      rw [hq'] at this; cases this
      rcases hrk with h | h
      · rw [hx] at h; cases h
      · exact ⟨rfl, h⟩
    have apart2 : ∀ x, nth R q' = some x → (ρ2 q).blk ≠ (θ q').blk := fun x hx => by
      obtain ⟨_, g1⟩ := inR x hx
      have hq'n := hRl q' x hx
      rw [← hρ q' hq'n] at hn2 ⊢
      rcases howns with ho | ho
      · exact h2.heap.apart q q' bk bk' hq ho g1 hne hn1 hn2
      · exact (h2.heap.apart q' q bk' bk g1 ho hq (Ne.symm hne) hn2 hn1).symm
    rcases h2.old q bk hq with g | g | ⟨j, x, hx, hxo, hxn, hxe⟩ | ⟨g, ⟨j, x, hx, hxo, hxn, hxe⟩ | ⟨hnf, _⟩⟩
    · rw [hn1] at g; cases g
    · have : w.heap.size ≤ (ρ2 q).blk := g
      omega
    · by_cases hj : j = q'
      · subst hj
        exact apart2 x hx he
      · exact h.heap.apart j q' x bk' (hRb j x hx) hxo (hLat q' bk' hLq' hq') hj hxn hn2 (by rw [hxe, he])
    · by_cases hj : j = q'
      · subst hj
        exact apart2 x hx he
      · rcases howns with ho | ho
        · rw [ho] at g; cases g
        · exact h.heap.apart q' j bk' x (hLat q' bk' hLq' hq') ho (hRb j x hx) (Ne.symm hj) hn2 hxn (by rw [← he, hxe])
    · rw [hRall] at hnf; cases hnf
  refine ⟨⟨fun q bk hq => ?_, fun q q' bk bk' hq ho hq' hne hn1 hn2 => ?_⟩, fun q bk hq => ?_, ?_, by rw [blank_len]; exact hn0, fun j hj => by rw [hout j (by have := hk0 j hj; omega)]; exact h.keep j hj⟩
  · rcases hcase q bk hq with ⟨k1, k2, k3, k4⟩ | ⟨k1, k2, k3, k4, k5⟩
    · rw [k3]
      by_cases hr : nth R q = none
      · refine ((h.heap.blk q bk (hLat q bk k1 k2)).of_block h2.fr.size (hsame q bk k1 k2 hr)).refs (p := fun r => !(Nat.ble n r && Nat.blt r m)) (fun r hrr => hout r fun ⟨e1, e2⟩ => ?_) (href q bk k1 k2)
        simp only [Bool.not_eq_true', Bool.and_eq_false_iff] at hrr
        rcases hrr with hrr | hrr
        · rw [Nat.ble_eq_true_of_le e1] at hrr; cases hrr
        · rw [show Nat.blt r m = true from by simpa [Nat.blt_eq] using e2] at hrr; cases hrr
      · obtain ⟨x, hx⟩ : ∃ x, nth R q = some x := by
          cases hx : nth R q with
          | none => exact absurd hx hr
          | some x => exact ⟨x, rfl⟩
        have hxb := (hR q x hx)
        have := hxb.2.1
        rw [k2] at this; cases this
        rcases k4 with k4 | k4
        · exact absurd k4 hr
        · rw [← hρ q (hRl q _ hx)]
          exact ((h2.heap.blk q bk k4).flat hxb.2.2.1).refs (p := fun r => Nat.blt r m) (fun r hrr => hlow r (by simpa [Nat.blt_eq] using hrr)) hxb.2.2.2
    · rw [k5]
      obtain ⟨_, g1, g2⟩ := hnew q bk k1 k2 k3
      exact ((h2.heap.blk q bk k4).flat g1).refs (p := fun r => Nat.blt r m) (fun r hrr => hlow r (by simpa [Nat.blt_eq] using hrr)) g2
  · rcases hcase q bk hq with ⟨k1, k2, k3, k4⟩ | ⟨k1, k2, k3, k4, k5⟩ <;> rcases hcase q' bk' hq' with ⟨m1, m2, m3, m4⟩ | ⟨m1, m2, m3, m4, m5⟩
    · rw [k3] at hn1 ⊢
      rw [m3] at hn2 ⊢
      exact h.heap.apart q q' bk bk' (hLat q bk k1 k2) ho (hLat q' bk' m1 m2) hne hn1 hn2
    · rw [k3] at hn1 ⊢
      rw [m5] at hn2 ⊢
      exact (hnewold q' bk' q bk m1 m2 m4 k1 k2 k4 (Ne.symm hne) k3 (.inr ho) hn2 hn1).symm
    · rw [k5] at hn1 ⊢
      rw [m3] at hn2 ⊢
      exact hnewold q bk q' bk' k1 k2 k4 m1 m2 m4 hne m3 (.inl ho) hn1 hn2
    · rw [k5] at hn1 ⊢
      rw [m5] at hn2 ⊢
      exact h2.heap.apart q q' bk bk' k4 ho m4 hne hn1 hn2
  · rcases hcase q bk hq with ⟨k1, k2, k3, k4⟩ | ⟨k1, k2, k3, k4, k5⟩
    · rw [k3]; exact h.old q bk (hLat q bk k1 k2)
    · rw [k5]
      rcases h2.old q bk k4 with g | g | ⟨j, x, hx, hxo, hxn, hxe⟩ | ⟨g, ⟨j, x, hx, hxo, hxn, hxe⟩ | ⟨hnf, _⟩⟩
      · exact .inl g
      · exact .inr (.inl (Nat.le_trans h.fr.size g))
      · rcases h.old j x (hRb j x hx) with o | o | o | o
        · rw [hxn] at o; cases o
        · exact .inr (.inl (by rw [← hxe]; exact o))
        · exact absurd o (hWE _)
        · rw [hxo] at o; cases o.1
      · rcases h.old j x (hRb j x hx) with o | o | o | o
        · rw [hxn] at o; cases o
        · exact .inr (.inl (by rw [← hxe]; exact o))
        · exact absurd o (hWE _)
        · exact .inr (.inr (.inr ⟨g, by rw [← hxe]; exact o.2⟩))
      · rw [hRall] at hnf; cases hnf
  · refine ⟨h2.fr.os.trans h.fr.os, h2.fr.tape.trans h.fr.tape, h2.fr.output.trans h.fr.output, Nat.le_trans h.fr.size h2.fr.size, fun b hb hW => ?_⟩
    refine (h2.fr.block b (Nat.lt_of_lt_of_le hb h.fr.size) ?_).trans (h.fr.block b hb hW)
    rintro ⟨j, x, hx, hxo, hxn, hxe⟩
    rcases h.old j x (hRb j x hx) with o | o | o | o
    · rw [hxn] at o; cases o
    · omega
    · exact hWE _ o
    · rw [hxo] at o; cases o.1
end
end Go.Sx

namespace Go.Sx
open Go.RowKit
section
variable {P : Program} {I : World → Prop} {S : Sigs} {F : FEnv} {E : Env} {gK : Nat} {ν : Nat → DV}

theorem effx_eval {o : Oper} {a a' : Act} (he : effOp2 o.op = true) (h : ∀ t ∈ effTmps o.op, a'.tmps[t]? = a.tmps[t]?) : execOp a.eval o = execOp a'.eval o := by
  have key : ∀ x ∈ opndsOf o.op, a.eval x = a'.eval x := fun x hx => eval_of_tmps fun t ht => h t (List.mem_flatMap.2 ⟨x, hx, ht⟩)
  have keyo : ∀ y : Option Operand, (∀ x ∈ y.toList, a.eval x = a'.eval x) → y.map a.eval = y.map a'.eval := fun y hy => by
    cases y with
    | none => rfl
    | some x => simp [hy x (by simp)]
  cases hop : o.op <;> rw [hop] at he key <;> simp only [effOp2] at he <;> (try cases he) <;> simp only [opndsOf] at key <;> simp only [execOp, hop]
  case box t x => rw [key x (by simp)]
  case buildSlice t len ps =>
    have : (ps.map fun (i, x) => (i, a.eval x)) = ps.map fun (i, x) => (i, a'.eval x) := by
      apply Array.ext'
      simp only [Array.toList_map]
      exact List.map_congr_left fun p hp => by rw [key p.2 (List.mem_map.2 ⟨p, hp, rfl⟩)]
    rw [this]
  case makeSlice t l c => rw [key l (by simp), key c (by simp)]
  case slice t x lo hi mx =>
    rw [key x (by simp), keyo lo fun y hy => key y (by simp at hy ⊢; exact .inr (.inl hy)), keyo hi fun y hy => key y (by simp at hy ⊢; exact .inr (.inr (.inl hy))), keyo mx fun y hy => key y (by simp at hy ⊢; exact .inr (.inr (.inr hy)))]
  case call c =>
    have hargs : c.args.map a.eval = c.args.map a'.eval := by
      apply Array.ext'
      simp only [Array.toList_map]
      exact List.map_congr_left fun z hz => key z (List.mem_append_right _ hz)
    split at he
    · rename_i y hcal
      simp only [resolve, hcal, hargs, key y (List.mem_append_left _ (by rw [hcal]; simp))]
    · rename_i hcal
      simp only [resolve, hcal, hargs]
    · cases he

theorem slotsEqB_at : ∀ {l l' : List (Option V)}, slotsEqB l l' = true → l.length = l'.length ∧ ∀ (t : Nat) v, nth l t = some v → ∃ v', nth l' t = some v' ∧ v'.eqB v = true
  | [], [], _ => ⟨rfl, fun t v h => by cases t <;> simp [nth] at h⟩
  | none :: l, _ :: l', h => by
    obtain ⟨h1, h2⟩ := slotsEqB_at (l := l) (l' := l') h
    refine ⟨by simp [h1], fun t v hv => ?_⟩
    cases t with
    | zero => simp [nth] at hv
    | succ t => exact h2 t v hv
  | some v :: l, some v' :: l', h => by
    simp only [slotsEqB, Bool.and_eq_true] at h
    obtain ⟨h1, h2⟩ := slotsEqB_at (l := l) (l' := l') h.2
    refine ⟨by simp [h1], fun t u hu => ?_⟩
    cases t with
    | zero =>
      simp only [nth, Option.some.injEq] at hu
      subst hu
      exact ⟨v', rfl, h.1⟩
    | succ t => exact h2 t u hu
  | [], _ :: _, h => by cases h
  | none :: _, [], h => by cases h
  | some _ :: _, [], h => by cases h
  | some _ :: _, none :: _, h => by cases h
theorem swSlots_at {sl : List (Option V)} : ∀ {l : List Oper} {es : List SwE}, swSlots sl l es = true → ∀ (i : Nat) (o : Oper) (e : SwE), l[i]? = some o → es[i]? = some e → effOp2 o.op = true → slotsEqB e.sl sl = true
  | [], [], _, i, o, e, h, _, _ => by simp at h
  | x :: l, y :: es, hs, 0, o, e, ho, he, hef => by
    simp only [swSlots, Bool.and_eq_true, Bool.or_eq_true, Bool.not_eq_true'] at hs
    rw [List.getElem?_cons_zero] at ho he
    cases ho; cases he
    rcases hs.1 with h | h
    · rw [hef] at h; cases h
    · exact h
  | x :: l, y :: es, hs, i + 1, o, e, ho, he, hef => by
    simp only [swSlots, Bool.and_eq_true] at hs
    rw [List.getElem?_cons_succ] at ho he
    exact swSlots_at hs.2 i o e ho he hef
  | [], _ :: _, hs, _, _, _, _, _, _ => by cases hs
  | _ :: _, [], hs, _, _, _, _, _, _ => by cases hs
theorem swChk_at {pre : List Oper} {es0 : List SwE} {base : Nat} : ∀ {l : List Oper} {es : List SwE} {j : Nat}, swChk pre es0 base j l es = true → ∀ (i : Nat) (o : Oper) (e : SwE), l[i]? = some o → es[i]? = some e → swAt pre es0 base (o, j + i) e = true
  | [], [], j, _, i, o, e, h, _ => by simp at h
  | x :: l, y :: es, j, hs, 0, o, e, ho, he => by
    simp only [swChk, Bool.and_eq_true] at hs
    rw [List.getElem?_cons_zero] at ho he
    cases ho; cases he
    exact hs.1
  | x :: l, y :: es, j, hs, i + 1, o, e, ho, he => by
    simp only [swChk, Bool.and_eq_true] at hs
    rw [List.getElem?_cons_succ] at ho he
    have := swChk_at hs.2 i o e ho he
    rwa [show j + 1 + i = j + (i + 1) from by omega] at this
  | [], _ :: _, j, hs, _, _, _, _, _ => by cases hs
  | _ :: _, [], j, hs, _, _, _, _, _ => by cases hs
theorem nth_finH {dead : List Nat} : ∀ (l : List (Option Blk)) (j q : Nat) (bk : Blk), nth (finH dead j l) q = some bk → nth l q = some bk ∧ bk.own = true ∧ memN (j + q) dead = false
  | [], j, q, bk, h => by cases q <;> simp [finH, nth] at h
  | x :: l, j, 0, bk, h => by
    simp only [finH, nth] at h
    split at h
    · rename_i b
      split at h
      · rename_i hc
        simp only [Bool.and_eq_true, Bool.not_eq_true'] at hc
        cases h
        exact ⟨rfl, hc.1, hc.2⟩
      · cases h
    · cases h
  | x :: l, j, q + 1, bk, h => by
    simp only [finH, nth] at h ⊢
    have := nth_finH l (j + 1) q bk h
    rwa [show j + 1 + q = j + (q + 1) from by omega] at this
theorem mem_allKs : ∀ {es : List SwE} (i : Nat) (e : SwE) (q : Nat), es[i]? = some e → q ∈ e.ks → q ∈ allKs es
  | [], i, e, q, h, _ => by simp at h
  | x :: l, 0, e, q, h, hq => by
    rw [List.getElem?_cons_zero] at h; cases h
    exact List.mem_append_left _ hq
  | x :: l, i + 1, e, q, h, hq => by
    rw [List.getElem?_cons_succ] at h
    exact List.mem_append_right _ (mem_allKs i e q h hq)
theorem nth_frz2 {base : Nat} : ∀ {l : List (Option Blk)} {j : Nat} {bk : Blk}, nth (l.map (frz2 base)) j = some bk → ∃ b, nth l j = some b ∧ bk = b.froze ∧ b.flat = true ∧ b.refsIn (fun q => Nat.blt q base) = true
  | [], j, bk, h => by cases j <;> simp [nth] at h
  | x :: l, 0, bk, h => by
    simp only [List.map_cons, nth] at h ⊢
    unfold frz2 at h
    split at h
    · rename_i b
      split at h
      · rename_i hc
        simp only [Bool.and_eq_true] at hc
        cases h
        exact ⟨b, rfl, rfl, hc.1, hc.2⟩
      · cases h
    · cases h
  | x :: l, j + 1, bk, h => nth_frz2 (l := l) (j := j) (by simpa [nth] using h)
theorem Blk.froze_flat (b : Blk) : b.froze.flat = b.flat := by cases b <;> rfl
theorem Blk.froze_refs (p : Nat → Bool) (b : Blk) : b.froze.refsIn p = b.refsIn p := by cases b <;> rfl

theorem HS.moved {θ θ' : Nat → Loc} {H : List (Option Blk)} {w : World} (h : HS E ν θ H w) (h0 : E.n0 = 0) {p : Nat → Prop} (hp : ∀ q, p q → θ' q = θ q) (hH : ∀ q bk, nth H q = some bk → p q ∧ ∃ b : Nat → Bool, (∀ r, b r = true → p r) ∧ bk.refsIn b = true) : HS E ν θ' H w := by
  refine ⟨⟨fun q bk hq => ?_, fun q q' bk bk' hq ho hq' hne hn1 hn2 => ?_⟩, fun q bk hq => ?_, h.fr, h.len, fun j hj => by omega⟩
  · obtain ⟨h1, b, h2, h3⟩ := hH q bk hq
    rw [hp q h1]
    exact (h.heap.blk q bk hq).refs (fun r hr => hp r (h2 r hr)) h3
  · rw [hp q (hH q bk hq).1] at hn1 ⊢
    rw [hp q' (hH q' bk' hq').1] at hn2 ⊢
    exact h.heap.apart q q' bk bk' hq ho hq' hne hn1 hn2
  · rw [hp q (hH q bk hq).1]
    exact h.old q bk hq

theorem evSw_sat (hS : SigsOK P I gK S F) (hE : E.Ok gK) (hn0 : S.n0 = E.n0) (hI : ∀ w, Fr E.W E.w0 w → I w) {ops : Array Oper} {n : Nat} {s : St} (hnl : n ≤ ops.toList.length) (hm : swB ops.toList n = true) :
    M.sat F ν (evSw P S ops.toList n s) (fun s' => ∀ ρ a w, RR ν E ρ ⟨s, []⟩ a w → ∀ Q : Exit → Act → World → Prop, (∀ ρ' a' w', RR ν E ρ' ⟨s', []⟩ a' w' → Q .normal a' w') →
      wpAny P .any ops Q ops.size (Array.replicate ops.size false) a w) := by
  unfold swB at hm
  unfold evSw
  generalize hpre : ops.toList.take n = pre at hm ⊢
  simp only [Bool.and_eq_true] at hm
  obtain ⟨⟨⟨hheads, htail⟩, hlex⟩, hback⟩ := hm
  have hbk : BackOk .any ops := by have := backB_ok' hback; simpa using this
  have hprel : pre.length = n := by rw [← hpre, List.length_take]; omega
  refine sat_ite (fun hchk => ?_) (fun _ => sat_fail)
  simp only [Bool.and_eq_true] at hchk
  have hsw := swOps_sat (E := E) (F := F) (ν := ν) hS hE hn0 hI (ops := pre.toArray) (base := s.hp.length) pre ⟨s, []⟩ (s.hp.map (frz2 s.hp.length)) [] (fun o ho => List.all_eq_true.1 hheads o ho)
  simp only at hsw
  refine sat_bind hsw fun z hz => sat_ite (fun hc2 => ?_) (fun _ => sat_fail)
  simp only [Bool.and_eq_true] at hc2
  obtain ⟨hswc, hsws⟩ := hc2
  obtain ⟨rf, H, es⟩ := z
  simp only at hz hswc hsws ⊢
  refine sat_bind (evOpers_list (E := E) hS hE hn0 hI (ops := ops) (ops.toList.drop n) ⟨⟨rf.st.sl, s.hp ++ (finH (allKs es) 0 H).drop s.hp.length⟩, rf.gl⟩) fun r2 hr2 => sat_pure fun ρ a w hrr Q hQ => ?_
  have hchk2 : hpLt s.hp = true := hchk.2
  generalize hbase : s.hp.length = base at *
  have hmapl : (s.hp.map (frz2 base)).length = base := by simp [hbase]
  have hch := hz.chain
  rw [hmapl] at hch
  have hHl : base ≤ H.length := hch.le
  have hHs : ∀ q, q < base → nth H q = nth (s.hp.map (frz2 base)) q := fun q hq => by
    have := congrArg (fun l => nth l q) hz.pre
    simp only [nth_take, hmapl, if_pos hq] at this
    exact this
  have hn0b : E.n0 ≤ base := by have := hrr.hs.len; simp only at this; omega
  have hes : ∀ i, i < pre.length → ∃ e, es[i]? = some e := fun i hi => ⟨_, List.getElem?_eq_getElem (by rw [hz.len]; exact hi)⟩
  have hat : ∀ j : Nat, pre.toArray[j]? = pre[j]? := fun j => by simp
  have hlt_of : ∀ {i : Nat} {o : Oper}, pre[i]? = some o → i < pre.length := fun {i o} h => by
    rcases Nat.lt_or_ge i pre.length with h1 | h1
    · exact h1
    · rw [List.getElem?_eq_none h1] at h; cases h
  have hlt_es : ∀ {i : Nat} {e : SwE}, es[i]? = some e → i < pre.length := fun {i e} h => by
    rcases Nat.lt_or_ge i pre.length with h1 | h1
    · exact h1
    · rw [List.getElem?_eq_none (by rw [hz.len]; exact h1)] at h; cases h
  have hops_of : ∀ {i : Nat}, i < pre.length → ∃ o, pre[i]? = some o := fun h => ⟨_, List.getElem?_eq_getElem h⟩
  -- who made which block
  let made : Nat → Nat → Prop := fun i q => ∃ e : SwE, es[i]? = some e ∧ e.a ≤ q ∧ q < e.b
  let known : Array Bool → Nat → Prop := fun listed q => q < base ∨ ∃ i, listed.getD i false = true ∧ made i q
  let killed : Array Bool → Nat → Prop := fun listed q => ∃ (k : Nat) (e : SwE), es[k]? = some e ∧ listed.getD k false = true ∧ q ∈ e.ks
  let live : Array Bool → Nat → Prop := fun listed q => known listed q ∧ ¬ killed listed q
  have hmade : ∀ {i j q : Nat}, made i q → made j q → i = j := by
    rintro i j q ⟨e, h1, h2, h3⟩ ⟨e', g1, g2, g3⟩
    rcases Nat.lt_trichotomy i j with h | h | h
    · have := hch.lt i j e e' h h1 g1; omega
    · exact h
    · have := hch.lt j i e' e h g1 h1; omega
  have hmadeb : ∀ {i q : Nat}, made i q → base ≤ q := by
    rintro i q ⟨e, h1, h2, h3⟩
    have := (hch.at i e h1).1; omega
  have hknown : ∀ {listed : Array Bool} {i q : Nat}, known listed q → known (listed.setIfInBounds i true) q := by
    intro listed i q h
    rcases h with h | ⟨j, h2, h3⟩
    · exact .inl h
    · exact .inr ⟨j, getD_set_true h2, h3⟩
  have hnew : ∀ {listed : Array Bool} {i q : Nat}, known (listed.setIfInBounds i true) q → known listed q ∨ made i q := by
    intro listed i q h
    rcases h with h | ⟨j, h2, h3⟩
    · exact .inl (.inl h)
    · rcases getD_set_of h2 with rfl | h2
      · exact .inr h3
      · exact .inl (.inr ⟨j, h2, h3⟩)
  have hfresh : ∀ {listed : Array Bool} {i q : Nat}, listed.getD i false = false → made i q → ¬ known listed q := by
    intro listed i q hl hq h
    rcases h with h | ⟨j, h2, h3⟩
    · have := hmadeb hq; omega
    · have := hmade hq h3
      subst this
      rw [hl] at h2; cases h2
  -- what is known of an operation
  have hkind : ∀ {i : Nat} {o : Oper}, pre[i]? = some o → (effOp2 o.op = false → pureOp o.op = true) ∧ (effOp2 o.op = true → o.guard = none) := fun {i o} h => by
    have := List.all_eq_true.1 hheads o (List.mem_of_getElem? h)
    unfold headOp2 at this
    cases he : effOp2 o.op <;> rw [he] at this <;> simp at this <;> simp [this]
  have hchkat : ∀ {i : Nat} {o : Oper} {e : SwE}, pre[i]? = some o → es[i]? = some e → effOp2 o.op = true →
      (∀ q ∈ e.fp, q < base ∨ ∃ j, made j q ∧ j ∈ reachFrom pre i (depsOf o)) ∧
      (∀ (j : Nat) (e' : SwE), es[j]? = some e' → j = i ∨ j ∈ reachFrom pre i (depsOf o) ∨ ∀ q ∈ e.ks, q ∉ e'.fp) ∧
      (∀ t ∈ effTmps o.op, ∀ (j : Nat) o', pre[j]? = some o' → o'.dst = some t → j ∈ reachFrom pre i (depsOf o)) := fun {i o e} ho he hef => by
    have := swChk_at hswc i o e ho he
    rw [Nat.zero_add] at this
    unfold swAt at this
    simp only [hef, Bool.not_true, Bool.false_or, Bool.and_eq_true] at this
    have hanc : ancOf pre i = reachFrom pre i (depsOf o) := by unfold ancOf; rw [ho]
    rw [hanc] at this
    obtain ⟨⟨h1, h2⟩, h3⟩ := this
    refine ⟨fun q hq => ?_, fun j e' hj => ?_, fun t ht j o' ho' hd => ?_⟩
    · have := List.all_eq_true.1 h1 q hq
      simp only [Bool.or_eq_true] at this
      rcases this with h | h
      · exact .inl (by simpa [Nat.blt_eq] using h)
      · obtain ⟨⟨e', j⟩, hm1, hm2⟩ := List.any_eq_true.1 h
        simp only [Bool.and_eq_true] at hm2
        exact .inr ⟨j, ⟨e', List.mem_zipIdx_iff_getElem?.1 hm1, Nat.le_of_ble_eq_true hm2.1.1, by simpa [Nat.blt_eq] using hm2.1.2⟩, memN_mem hm2.2⟩
    · have := List.all_eq_true.1 h2 (e', j) (List.mem_zipIdx_iff_getElem?.2 hj)
      simp only [Bool.or_eq_true] at this
      rcases this with (h | h) | h
      · exact .inl (Nat.eq_of_beq_eq_true h)
      · exact .inr (.inl (memN_mem h))
      · refine .inr (.inr fun q hq hq' => ?_)
        have := List.all_eq_true.1 h q hq
        rw [mem_memN hq'] at this; cases this
    · have := List.all_eq_true.1 h3 (o', j) (List.mem_zipIdx_iff_getElem?.2 ho')
      simp only [dstOk, hd, Bool.or_eq_true, Bool.not_eq_true'] at this
      rcases this with h | h
      · rw [mem_memN ht] at h; cases h
      · exact memN_mem h
  have heffmem : ∀ i, i ∈ (pre.zipIdx.filter fun p => effOp2 p.1.op).map (·.2) ↔ ∃ o, pre[i]? = some o ∧ effOp2 o.op = true := fun i => by
    rw [List.mem_map]
    constructor
    · rintro ⟨⟨o, j⟩, h, rfl⟩
      obtain ⟨h1, h2⟩ := List.mem_filter.1 h
      exact ⟨o, List.mem_zipIdx_iff_getElem?.1 h1, h2⟩
    · rintro ⟨o, h1, h2⟩
      exact ⟨(o, i), List.mem_filter.2 ⟨List.mem_zipIdx_iff_getElem?.2 h1, h2⟩, rfl⟩
  -- blocks' kinds and what they name
  have hblk : ∀ q bk, nth H q = some bk → q < H.length ∧ bk.flat = true ∧ ((q < base ∧ bk.own = false ∧ bk.refsIn (fun r => Nat.blt r base) = true ∧ ∃ b, nth s.hp q = some b ∧ bk = b.froze) ∨ ∃ (i : Nat) (o : Oper) (e : SwE), pre[i]? = some o ∧ es[i]? = some e ∧ effOp2 o.op = true ∧ e.a ≤ q ∧ q < e.b ∧ bk.refsIn (rngB base e.fp e.a e.b) = true) := fun q bk hq => by
    have hql := nth_lt hq
    refine ⟨hql, ?_⟩
    rcases Nat.lt_or_ge q base with h | h
    · rw [hHs q h] at hq
      obtain ⟨b, g1, rfl, g2, g3⟩ := nth_frz2 hq
      exact ⟨by rw [Blk.froze_flat]; exact g2, .inl ⟨h, Blk.froze_own b, by rw [Blk.froze_refs]; exact g3, b, g1, rfl⟩⟩
    · obtain ⟨i, e, g1, g2, g3⟩ := hch.surj q h hql
      obtain ⟨o, ho⟩ := hops_of (hlt_es g1)
      cases hef : effOp2 o.op with
      | false =>
        have := (hz.still i o e ho g1 hef).1
        omega
      | true =>
        have := (hz.eff i o e ho g1 hef).news q bk g2 g3 hq
        exact ⟨this.1, .inr ⟨i, o, e, ho, g1, hef, g2, g3, this.2⟩⟩
  have hrng : ∀ {i : Nat} {o : Oper} {e : SwE} {r : Nat}, pre[i]? = some o → es[i]? = some e → effOp2 o.op = true → rngB base e.fp e.a e.b r = true → r < base ∨ (∃ j, made j r ∧ (j = i ∨ j ∈ reachFrom pre i (depsOf o))) ∧ r < e.b := fun {i o e r} ho he hef hr => by
    unfold rngB at hr
    simp only [Bool.or_eq_true, Bool.and_eq_true] at hr
    rcases hr with (h | h) | h
    · exact .inl (by simpa [Nat.blt_eq] using h)
    · have hfp := (hz.eff i o e ho he hef).fpl r (memN_mem h)
      rcases (hchkat ho he hef).1 r (memN_mem h) with g | ⟨j, g1, g2⟩
      · exact .inl g
      · exact .inr ⟨⟨j, g1, .inr g2⟩, by have := (hch.at i e he).2.1; omega⟩
    · have h1 := Nat.le_of_ble_eq_true h.1
      have h2 : r < e.b := by simpa [Nat.blt_eq] using h.2
      exact .inr ⟨⟨i, ⟨e, he, h1, h2⟩, .inl rfl⟩, h2⟩
  refine wpAny_tails2 hbk (ops.toList.drop n) pre.toArray (by rw [← hpre]; simp) (fun i hi o ho j hj => ?_) a w ?_
  · have hi' : n ≤ i := by simpa [hprel] using hi
    have hmm : (o, i) ∈ ops.toList.zipIdx.drop n := by
      rw [List.mem_iff_getElem?]
      refine ⟨i - n, ?_⟩
      rw [List.getElem?_drop, show n + (i - n) = i from by omega, List.getElem?_zipIdx]
      have : ops.toList[i]? = some o := by simpa using ho
      rw [this]
      simp
    have := List.all_eq_true.1 htail _ hmm
    exact memN_mem (List.all_eq_true.1 this j (List.mem_range.2 hj))
  have hops' : ∀ (θ : Nat → Loc) (j : Nat), ((List.zipWith (fun o e => nopX (e.v.conc ν θ) o) pre es).toArray)[j]? = (match pre[j]?, es[j]? with | some o, some e => some (nopX (e.v.conc ν θ) o) | _, _ => none) := fun θ j => by
    simp [List.getElem?_zipWith]
    cases pre[j]? <;> cases es[j]? <;> rfl
  have hnopWd : ∀ (v : Value) (o : Oper), (nopX v o).dst = o.dst ∧ (nopX v o).guard = o.guard ∧ (nopX v o).after = o.after := fun v o => by
    unfold nopX; split <;> exact ⟨rfl, rfl, rfl⟩
  have hsz : ∀ θ : Nat → Loc, (List.zipWith (fun o e => nopX (e.v.conc ν θ) o) pre es).toArray.size = pre.toArray.size := fun θ => by simp [hz.len]
  have hready : ∀ (θ : Nat → Loc) listed, Region.ready .any (List.zipWith (fun o e => nopX (e.v.conc ν θ) o) pre es).toArray listed = Region.ready .any pre.toArray listed := fun θ listed => by
    unfold Region.ready
    rw [hsz θ]
    refine List.filter_congr fun j _ => ?_
    rw [hops' θ j, hat j]
    cases ho : pre[j]? with
    | none => rfl
    | some o =>
      obtain ⟨e, he⟩ := hes j (hlt_of ho)
      rw [he]
      have e1 := (hnopWd (e.v.conc ν θ) o).2.2
      dsimp only
      generalize nopX (e.v.conc ν θ) o = o1 at e1 ⊢
      cases o1; cases o
      simp only at e1
      subst e1
      rfl
  have hdst : ∀ (θ : Nat → Loc) (j : Nat), (((List.zipWith (fun o e => nopX (e.v.conc ν θ) o) pre es).toArray)[j]?).bind (·.dst) = ((pre.toArray)[j]?).bind (·.dst) := fun θ j => by
    rw [hops' θ j, hat j]
    cases ho : pre[j]? with
    | none => rfl
    | some o =>
      obtain ⟨e, he⟩ := hes j (hlt_of ho)
      rw [he]
      exact (hnopWd _ o).1
  have hbkp : BackOk .any pre.toArray := fun i o ho => hbk i o (by
    rw [hat] at ho
    have : ops.toList[i]? = some o := by
      rw [← hpre, List.getElem?_take] at ho
      split at ho
      · exact ho
      · cases ho
    simpa using this)
  have hw0 : HS E ν ρ s.hp w := hrr.hs
  generalize hEh : readEnv s.hp ρ w = Eh
  have hEhW : ∀ b, ¬ Eh.W b := fun b hb => by rw [← hEh] at hb; exact hb
  have hEh0 : Eh.n0 = 0 := by rw [← hEh]; rfl
  have hEhw : Eh.w0 = w := by rw [← hEh]; rfl
  have hstart : ∀ {θ : Nat → Loc} {L : Nat → Prop} {w1 : World}, HS E ν θ s.hp w → HS Eh ν θ (blankL L H) w1 → HS E ν θ s.hp w1 := fun {θ L w1} h1 h2 => by
    have hf := h2.fr
    rw [hEhw] at hf
    exact h1.of_below (Fr.below (hf.weaken fun b hb => absurd hb (hEhW b)))
  have hIw : ∀ {θ : Nat → Loc} {L : Nat → Prop} {w1 : World}, HS E ν θ s.hp w → HS Eh ν θ (blankL L H) w1 → I w1 := fun {θ L w1} h1 h2 => hI w1 (hstart h1 h2).fr
  refine wpAny_many (P := P) (Θ := Nat → Loc) (ops := pre.toArray) (ops' := fun θ => (List.zipWith (fun o e => nopX (e.v.conc ν θ) o) pre es).toArray) (st := (pre.zipIdx.filter fun p => effOp2 p.1.op).map (·.2)) (val := fun i θ => (es.getD i default).v.conc ν θ)
    (C := fun θ w => HS E ν θ s.hp w) (D := fun listed θ w1 => HS E ν θ s.hp w ∧ HS Eh ν θ (blankL (live listed) H) w1 ∧ ∀ q bk, known listed q → nth H q = some bk → ∃ p : Nat → Bool, (∀ r, p r = true → known listed r) ∧ bk.refsIn p = true)
    (Sm := fun listed θ θ' => ∀ q, known listed q → θ' q = θ q) (Qf := fun θ a' => ARel ν θ rf a')
    (tm := fun i => match pre[i]? with | some o => effTmps o.op | none => []) hbkp hready hdst (fun θ i hi => ?_) (fun i hi => ?_) (fun listed θ θ' w1 hd hsm1 => ?_) (fun listed θ w1 hd => hstart hd.1 hd.2.1) (fun _ _ _ _ => rfl)
    (fun listed i θ θ' θ'' h1 h2 q hq => (h2 q (hknown hq)).trans (h1 q hq)) (fun listed i θ θ' hi hs hsm1 => ?_) (fun i o hi ho a1 w1 f args w2 => ?_) (fun listed i θ w1 hi hd => ?_) (fun i o hi ho listed hcl hrd t ht j o' ho' hd' => ?_)
    (fun i o hi ho listed hs hcl' hrd θ w1 hd a1 a2 ha2 htm => ?_) (fun θ a1 w1 listed hall ha1 hd => ?_) pre.toArray.size (Array.replicate pre.toArray.size false) a w ρ (by simp) (closed_none _ _) ?_ (fun θ' hsm1 => ?_)
  · -- what is neither
    show ((List.zipWith (fun o e => nopX (e.v.conc ν θ) o) pre es).toArray)[i]? = _
    rw [hops' θ i, hat i]
    cases ho : pre[i]? with
    | none => rfl
    | some o =>
      obtain ⟨e, he⟩ := hes i (hlt_of ho)
      rw [he]
      have : effOp2 o.op = false := by
        cases h : effOp2 o.op with
        | false => rfl
        | true => exact absurd ((heffmem i).2 ⟨o, ho, h⟩) hi
      simp only [nopX_not this]
  · obtain ⟨o, h1, h2⟩ := (heffmem i).1 hi
    obtain ⟨e, he⟩ := hes i (hlt_of h1)
    refine ⟨o, by rw [hat]; exact h1, (hkind h1).2 h2, fun θ => ⟨nopX (e.v.conc ν θ) o, ?_, by rw [(hnopWd _ o).2.1]; exact (hkind h1).2 h2, (hnopWd _ o).1, fun a1 w1 => ?_⟩⟩
    · show ((List.zipWith (fun o e => nopX (e.v.conc ν θ) o) pre es).toArray)[i]? = _
      rw [hops' θ i, h1, he]
    · rw [nopX_eff h2, List.getD_eq_getElem?_getD, he]
      simp [execOp, Act.eval]
  · obtain ⟨d1, d2, d3⟩ := hd
    refine ⟨d1.reloc hchk2 (fun j hj => hsm1 j (.inl (by rw [← hbase]; exact hj))), d2.moved hEh0 (p := known listed) hsm1 (fun q bk hq => ?_), d3⟩
    obtain ⟨g1, g2⟩ := nth_blank.1 hq
    exact ⟨g1.1, d3 q bk g1.1 g2⟩
  · -- the values of what is listed
    obtain ⟨o, h1, h2⟩ := (heffmem i).1 hi
    have hil := hlt_of h1
    have hli : (listed.setIfInBounds i true).getD i false = true := by
      have : i < listed.size := by rw [hs]; simpa using hil
      rw [Array.getD_eq_getD_getElem?, Array.getElem?_setIfInBounds_self_of_lt this]
      rfl
    obtain ⟨e, he⟩ := hes i hil
    simp only [List.getD_eq_getElem?_getD, he, Option.getD_some]
    refine V.inB_conc (hz.eff i o e h1 he h2).val fun q hq => ?_
    unfold rngB at hq
    simp only [memN, Bool.or_eq_true, Bool.and_eq_true] at hq
    rcases hq with (hq | hq) | hq
    · exact hsm1 q (.inl (by simpa [Nat.blt_eq] using hq))
    · cases hq
    · exact hsm1 q (.inr ⟨i, hli, e, he, Nat.le_of_ble_eq_true hq.1, by simpa [Nat.blt_eq] using hq.2⟩)
  · rw [hat] at ho
    have : effOp2 o.op = false := by
      cases h : effOp2 o.op with
      | false => rfl
      | true => exact absurd ((heffmem i).2 ⟨o, ho, h⟩) hi
    exact pure_noEnter ((hkind ho).1 this) a1 w1 f args w2
  · -- what turns nothing
    obtain ⟨d1, d2, d3⟩ := hd
    have hno : ∀ q, ¬ made i q := by
      rintro q ⟨e, h1, h2, h3⟩
      obtain ⟨o, ho⟩ := hops_of (hlt_es h1)
      cases hef : effOp2 o.op with
      | false => have := (hz.still i o e ho h1 hef).1; omega
      | true => exact hi ((heffmem i).2 ⟨o, ho, hef⟩)
    have hkn : ∀ q, known (listed.setIfInBounds i true) q ↔ known listed q := fun q => ⟨fun h => (hnew h).resolve_right (hno q), hknown⟩
    have hkl : ∀ q, killed (listed.setIfInBounds i true) q ↔ killed listed q := fun q => by
      constructor
      · rintro ⟨k, e, h1, h2, h3⟩
        rcases getD_set_of h2 with rfl | h2
        · obtain ⟨o, ho⟩ := hops_of (hlt_es h1)
          cases hef : effOp2 o.op with
          | false => rw [(hz.still k o e ho h1 hef).2] at h3; cases h3
          | true => exact absurd ((heffmem k).2 ⟨o, ho, hef⟩) hi
        · exact ⟨k, e, h1, h2, h3⟩
      · rintro ⟨k, e, h1, h2, h3⟩
        exact ⟨k, e, h1, getD_set_true h2, h3⟩
    have hlv : live (listed.setIfInBounds i true) = live listed := funext fun q => propext ⟨fun h => ⟨(hkn q).1 h.1, fun g => h.2 ((hkl q).2 g)⟩, fun h => ⟨(hkn q).2 h.1, fun g => h.2 ((hkl q).1 g)⟩⟩
    have hkf : known (listed.setIfInBounds i true) = known listed := funext fun q => propext (hkn q)
    rw [hlv, hkf]
    exact ⟨d1, d2, d3⟩
  · rw [hat] at ho ho'
    obtain ⟨o2, h1, h2⟩ := (heffmem i).1 hi
    rw [ho] at h1; cases h1
    rw [ho] at ht
    obtain ⟨e, he⟩ := hes i (hlt_of ho)
    have := (hchkat ho he h2).2.2 t ht j o' ho' hd'
    exact anc_listed hcl (by rw [hat]; exact ho) hrd j this
  · -- one that makes, or ends
    rw [hat] at ho
    obtain ⟨o2, h1, hef⟩ := (heffmem i).1 hi
    rw [ho] at h1; cases h1
    rw [ho] at htm
    obtain ⟨d1, d2, d3⟩ := hd
    have hil := hlt_of ho
    have hnl : listed.getD i false = false := by
      obtain ⟨h4, _⟩ := mem_ready.1 hrd
      rw [← getD_true_false (by rw [hs]; simpa using hil)]
      exact h4
    obtain ⟨e, he⟩ := hes i hil
    have hfact := hz.eff i o e ho he hef
    obtain ⟨c1, c2, c3⟩ := hchkat ho he hef
    have hat2 := hch.at i e he
    have hanc : ∀ j, j ∈ reachFrom pre i (depsOf o) → listed.getD j false = true := fun j hj => anc_listed hcl' (by rw [hat]; exact ho) hrd j hj
    -- what waits for it is not listed
    have hbeh : ∀ (k : Nat) (o' : Oper), pre[k]? = some o' → listed.getD k false = true → i ∉ reachFrom pre k (depsOf o') := fun k o' ho' hk hi' => by
      have : listed.getD i false = true := reach_listed (ops := pre.toArray) hcl' k (depsOf o') (fun x hx => by
        obtain ⟨ed, h1, h2, rfl⟩ := depsOf_mem hx
        exact hcl' k o' (by rw [hat]; exact ho') hk ed h1 h2) i hi'
      rw [hnl] at this; cases this
    have hmk_in : ∀ q, e.a ≤ q → q < e.b → made i q := fun q h1 h2 => ⟨e, he, h1, h2⟩
    generalize hRd : keepAt e.fp 0 (H.take e.a) = R at *
    have hR : ∀ q bk, nth R q = some bk → q ∈ e.fp ∧ q < e.a ∧ nth H q = some bk := fun q bk h => by
      rw [← hRd, nth_keepAt, Nat.zero_add] at h
      split at h
      · rename_i hm
        rw [nth_take] at h
        split at h
        · rename_i hl; exact ⟨memN_mem hm, hl, h⟩
        · cases h
      · cases h
    have hkn : ∀ q ∈ e.fp, known listed q := fun q hq => by
      rcases c1 q hq with h | ⟨j, h1, h2⟩
      · exact .inl h
      · exact .inr ⟨j, hanc j h2, h1⟩
    have hnk : ∀ q ∈ e.fp, ¬ killed listed q := by
      rintro q hq ⟨k, ek, g1, g2, g3⟩
      obtain ⟨ok, hok⟩ := hops_of (hlt_es g1)
      cases hefk : effOp2 ok.op with
      | false => rw [(hz.still k ok ek hok g1 hefk).2] at g3; cases g3
      | true =>
        rcases (hchkat hok g1 hefk).2.1 i e he with h | h | h
        · subst h; rw [hnl] at g2; cases g2
        · exact hbeh k ok hok g2 h
        · exact h q g3 hq
    have hRL : ∀ q bk, nth R q = some bk → live listed q ∧ nth H q = some bk := fun q bk h => ⟨⟨hkn q (hR q bk h).1, hnk q (hR q bk h).1⟩, (hR q bk h).2.2⟩
    have hRbl : ∀ q bk, nth R q = some bk → nth (blankL (live listed) H) q = some bk := fun q bk h => nth_blank.2 (hRL q bk h)
    have href : ∀ q bk, nth H q = some bk → ∀ m, base ≤ m → (∀ (i' : Nat) (o' : Oper) (e' : SwE), pre[i']? = some o' → es[i']? = some e' → e'.a ≤ q → q < e'.b → e'.b ≤ m) → bk.refsIn (fun r => Nat.blt r m) = true := fun q bk h m hm hb => by
      rcases (hblk q bk h).2.2 with ⟨g1, g2, g3, _⟩ | ⟨i', o', e', g1, g2, g3, g4, g5, g6⟩
      · exact Blk.refsIn_mono (fun r hr => by
          have : r < base := by simpa [Nat.blt_eq] using hr
          simp only [Nat.blt_eq]; omega) g3
      · have hb' := hb i' o' e' g1 g2 g4 g5
        exact Blk.refsIn_mono (fun r hr => by
          rcases hrng g1 g2 g3 hr with h | ⟨_, h⟩ <;> simp only [Nat.blt_eq] <;> omega) g6
    have hreadR : HS (callEnv R θ w1) ν θ R w1 := by
      refine ⟨⟨fun q bk hq => (d2.heap.blk q bk (hRbl q bk hq)).flat (hblk q bk (hR q bk hq).2.2).2.1, fun q q' bk bk' hq hbo hq' hne hn1 hn2 => d2.heap.apart q q' bk bk' (hRbl q bk hq) hbo (hRbl q' bk' hq') hne hn1 hn2⟩, fun q bk hq => ?_, Fr.refl _ _, Nat.le_refl _, fun _ _ => rfl⟩
      cases hn : (θ q).nil with
      | true => exact .inl rfl
      | false =>
        cases hbo : bk.own with
        | true => exact .inr (.inr (.inl ⟨q, bk, hq, hbo, hn, rfl⟩))
        | false => exact .inr (.inr (.inr ⟨rfl, .inl ⟨q, bk, hq, hbo, hn, rfl⟩⟩))
    have hsz1 : w.heap.size ≤ w1.heap.size := by have := d2.fr.size; rw [hEhw] at this; exact this
    have hEok : (callEnv R θ w1).Ok gK := by
      have hsw0 : gK ≤ w.heap.size := Nat.le_trans hE.1 hw0.fr.size
      refine ⟨Nat.le_trans hsw0 hsz1, ?_⟩
      rintro b ⟨j, x, hx, hxo, hxn, hxe⟩
      rcases d2.old j x (hRbl j x hx) with g | g | g | g
      · rw [hxn] at g; cases g
      · rw [hEhw] at g; omega
      · exact absurd g (hEhW _)
      · rw [hxo] at g; cases g.1
    have hslots := slotsEqB_at (swSlots_at hsws i o e ho he hef)
    have haR : ARel ν θ ⟨⟨e.sl, R⟩, []⟩ a2 := by
      refine ⟨ha2.defers, by rw [ha2.size]; exact hslots.1.symm, fun t v ht => ?_, fun g hg => by cases hg⟩
      obtain ⟨v', k1, k2⟩ := hslots.2 t v ht
      exact ⟨V.eqB_good k2, by rw [(ha2.slot t v' k1).2, V.eqB_conc k2 θ]⟩
    have hval1 : ∀ (θ2 ρ2 : Nat → Loc), (∀ j, j < e.a → ρ2 j = θ j) → (∀ q, θ2 q = if e.a ≤ q ∧ q < e.b then ρ2 q else θ q) → e.v.conc ν θ2 = e.v.conc ν ρ2 := fun θ2 ρ2 k1 k2 => by
      refine V.inB_conc hfact.val fun q hq => ?_
      unfold rngB at hq
      simp only [memN, Bool.or_eq_true, Bool.and_eq_true] at hq
      rw [k2 q]
      rcases hq with (hq | hq) | hq
      · have hqb : q < base := by simpa [Nat.blt_eq] using hq
        rw [if_neg (by omega), k1 q (by omega)]
      · cases hq
      · rw [if_pos ⟨Nat.le_of_ble_eq_true hq.1, by simpa [Nat.blt_eq] using hq.2⟩]
    have hop1 : execOp a1.eval o = execOp a2.eval o := effx_eval hef htm
    rw [hop1]
    refine (hfact.fact (callEnv R θ w1) hEok θ a2 (by rw [hRd]; exact haR) w1 (by rw [hRd]; exact hreadR) (hIw d1 d2)).mono fun v w' ⟨ρ2, hp2, k1, k2, k3, k4, k5, k6⟩ => ?_
    rw [hRd] at k4 k5
    refine ⟨fun q => if e.a ≤ q ∧ q < e.b then ρ2 q else θ q, fun q hq => ?_, ?_, ?_, ?_, fun q bk hk hq => ?_⟩
    · refine if_neg fun hh => ?_
      exact hfresh hnl (hmk_in q hh.1 hh.2) hq
    · simp only [List.getD_eq_getElem?_getD, he, Option.getD_some]
      rw [k3]
      exact hval1 _ ρ2 k1 fun _ => rfl
    · exact d1.reloc hchk2 fun j hj => if_neg (by omega)
    · refine d2.swirl hEhW (fun q bk hq => ⟨(hRL q bk hq).1, (hR q bk hq).2.2, (hblk q bk (hR q bk hq).2.2).2.1, ?_⟩) (fun q bk hq => (hR q bk hq).2.1) k2 k1 (fun q bk g1 g2 g3 => ?_) (fun q hq => ?_) (fun q bk hq hqH => ?_) (by rw [hEh0]; exact Nat.zero_le _) (fun q hq => by omega)
      · refine href q bk (hR q bk hq).2.2 e.b (by omega) fun i' o' e' g1 g2 g3 g4 => ?_
        have hqa := (hR q bk hq).2.1
        rcases Nat.lt_trichotomy i' i with h | h | h
        · have := hch.lt i' i e' e h g2 he; omega
        · subst h; rw [he] at g2; cases g2; exact Nat.le_refl _
        · have := hch.lt i i' e e' h he g2; omega
      · refine ⟨by rw [k6 q g1 g2]; exact g3, (hblk q bk g3).2.1, href q bk g3 e.b (by omega) fun i' o' e' m1 m2 m3 m4 => ?_⟩
        have : i' = i := hmade ⟨e', m2, m3, m4⟩ (hmk_in q g1 g2)
        subst this; rw [he] at m2; cases m2; exact Nat.le_refl _
      · obtain ⟨g1, g2⟩ := hq
        rcases hnew g1 with h | ⟨e', m1, m2, m3⟩
        · left
          refine ⟨⟨h, fun hk => g2 ?_⟩, fun hh => hfresh hnl (hmk_in q hh.1 hh.2) h, fun bk hb => k5 q bk (hR q bk hb).2.1 hb fun hks => g2 ?_⟩
          · obtain ⟨k, ek, n1, n2, n3⟩ := hk
            exact ⟨k, ek, n1, getD_set_true n2, n3⟩
          · refine ⟨i, e, he, ?_, hks⟩
            have : i < listed.size := by rw [hs]; simpa using hil
            rw [Array.getD_eq_getD_getElem?, Array.getElem?_setIfInBounds_self_of_lt this]
            rfl
        · rw [he] at m1; cases m1
          exact .inr ⟨m2, m3⟩
      · obtain ⟨p, n1, n2⟩ := d3 q bk hq.1 hqH
        refine Blk.refsIn_mono (fun r hr => ?_) n2
        have hkr := n1 r hr
        cases hx : Nat.ble e.a r && Nat.blt r e.b with
        | false => rfl
        | true =>
          simp only [Bool.and_eq_true] at hx
          exact absurd hkr (hfresh hnl (hmk_in r (Nat.le_of_ble_eq_true hx.1) (by simpa [Nat.blt_eq] using hx.2)))
    · rcases hnew hk with h | h
      · obtain ⟨p, n1, n2⟩ := d3 q bk h hq
        exact ⟨p, fun r hr => hknown (n1 r hr), n2⟩
      · obtain ⟨e', m1, m2, m3⟩ := h
        rw [he] at m1; cases m1
        have hli : (listed.setIfInBounds i true).getD i false = true := by
          have : i < listed.size := by rw [hs]; simpa using hil
          rw [Array.getD_eq_getD_getElem?, Array.getElem?_setIfInBounds_self_of_lt this]
          rfl
        refine ⟨_, fun r hr => ?_, (hfact.news q bk m2 m3 hq).2⟩
        rcases hrng ho he hef hr with g | ⟨⟨j, g1, g2⟩, _⟩
        · exact .inl g
        · rcases g2 with rfl | g2
          · exact .inr ⟨j, hli, g1⟩
          · exact .inr ⟨j, getD_set_true (hanc j g2), g1⟩
  · -- all is listed
    obtain ⟨d1, d2, d3⟩ := hd
    show wpList P ops Q (ops.toList.drop n) a1 w1
    refine hr2 θ a1 w1 ⟨⟨ha1.defers, ha1.size, ha1.slot, ha1.gl⟩, ?_⟩ Q fun ρ' a' w' h' => hQ ρ' a' w' h'.drop
    have hf := d2.fr
    rw [hEhw] at hf
    have hbel : Below w.heap.size w w1 := Fr.below (hf.weaken fun b hb => absurd hb (hEhW b))
    have hfin : ∀ q bk, base ≤ q → nth (s.hp ++ (finH (allKs es) 0 H).drop base) q = some bk → nth (blankL (live listed) H) q = some bk ∧ bk.own = true := by
      intro q bk hq h
      rw [nth_append, if_neg (by omega), hbase, drop_nth, show base + (q - base) = q from by omega] at h
      obtain ⟨g1, g2, g3⟩ := nth_finH _ _ _ _ h
      rw [Nat.zero_add] at g3
      refine ⟨nth_blank.2 ⟨⟨?_, ?_⟩, g1⟩, g2⟩
      · obtain ⟨i, e, k1, k2, k3⟩ := hch.surj q hq (nth_lt g1)
        exact .inr ⟨i, hall i (by simpa using hlt_es k1), e, k1, k2, k3⟩
      · rintro ⟨k, e, k1, _, k3⟩
        rw [mem_memN (mem_allKs k e q k1 k3)] at g3; cases g3
    refine d1.grow (N := fun q => base ≤ q) (base := base) hbel hn0b (by rw [List.length_append, hbase]; omega) (fun _ _ => rfl) (fun q bk hq => ?_) (fun q q' bk bk' hq hq' h ho h' hne hn1 hn2 => ?_)
    · rcases Nat.lt_or_ge q base with h | h
      · rw [nth_append, if_pos (by omega)] at hq
        have := all_nth_of hchk2 hq
        rw [hbase] at this
        exact .inl ⟨hq, rfl, this⟩
      · obtain ⟨g1, g2⟩ := hfin q bk h hq
        refine .inr ⟨(d2.heap.blk q bk g1).flat (hblk q bk (nth_blank.1 g1).2).2.1, ?_, h⟩
        rcases d2.old q bk g1 with o | o | o | o
        · exact .inl o
        · rw [hEhw] at o; exact .inr (.inl o)
        · exact absurd o (hEhW _)
        · rw [g2] at o; cases o.1
    · exact d2.heap.apart q q' bk bk' (hfin q bk hq h).1 (hfin q bk hq h).2 (hfin q' bk' hq' h').1 hne hn1 hn2
  · -- at first
    have hf0 : ∀ i, (Array.replicate pre.toArray.size false).getD i false = false := fun i => by
      rw [Array.getD_eq_getD_getElem?, Array.getElem?_replicate]
      split <;> rfl
    have hk0 : ∀ q, known (Array.replicate pre.toArray.size false) q → q < base := by
      rintro q (h | ⟨i, h, _⟩)
      · exact h
      · rw [hf0] at h; cases h
    have hin : ∀ q bk, q < base → nth H q = some bk → ∃ b, nth s.hp q = some b ∧ bk = b.froze ∧ b.flat = true ∧ bk.refsIn (fun r => Nat.blt r base) = true := fun q bk hq h => by
      rw [hHs q hq] at h
      obtain ⟨b, g1, rfl, g2, g3⟩ := nth_frz2 h
      exact ⟨b, g1, rfl, g2, by rw [Blk.froze_refs]; exact g3⟩
    refine ⟨hw0, ⟨⟨fun q bk hq => ?_, fun q q' bk bk' hq ho _ _ _ _ => ?_⟩, fun q bk hq => ?_, by rw [← hEh]; exact Fr.refl _ _, by rw [hEh0]; exact Nat.zero_le _, fun j hj => by omega⟩, fun q bk hk hq => ?_⟩
    · obtain ⟨g1, g2⟩ := nth_blank.1 hq
      obtain ⟨b, k1, rfl, k2, _⟩ := hin q bk (hk0 q g1.1) g2
      exact ((hw0.heap.blk q b k1).flat k2).froze
    · obtain ⟨g1, g2⟩ := nth_blank.1 hq
      obtain ⟨b, k1, rfl, k2, _⟩ := hin q bk (hk0 q g1.1) g2
      rw [Blk.froze_own] at ho; cases ho
    · obtain ⟨g1, g2⟩ := nth_blank.1 hq
      obtain ⟨b, k1, rfl, k2, _⟩ := hin q bk (hk0 q g1.1) g2
      cases hn : (ρ q).nil with
      | true => exact .inl rfl
      | false => exact .inr (.inr (.inr ⟨Blk.froze_own b, by rw [← hEh]; exact ⟨q, b, k1, hn, rfl⟩⟩))
    · obtain ⟨b, k1, rfl, k2, k3⟩ := hin q bk (hk0 q hk) hq
      exact ⟨_, fun r hr => .inl (by simpa [Nat.blt_eq] using hr), k3⟩
  · have hρ : ∀ q, q < base → θ' q = ρ q := fun q hq => hsm1 q (.inl hq)
    have ha1 : ARel ν θ' ⟨s, []⟩ a := hrr.act.ext (fun j hj => hρ j (by omega)) hchk.1 (by simp) s.hp
    have hs1 : HS E ν θ' s.hp w := hrr.hs.reloc hchk2 (fun j hj => hρ j (by rw [← hbase]; exact hj))
    have hwq := hz.quiet θ' a ha1 ⟨w, hs1⟩ _ rfl (List.zipWith (fun o e => nopX (e.v.conc ν θ') o) pre es).toArray (hdst θ') (fun a' => ARel ν θ' rf a') (fun _ h => h)
    have hB : Region.lexB .any (List.zipWith (fun o e => nopX (e.v.conc ν θ') o) pre es).toArray = true := by
      rw [← hlex]
      refine lexB_congr (by simp [hz.len]) fun j o1 o2 h1 h2 => ?_
      rw [List.getElem?_map] at h2
      obtain ⟨o, g1, rfl⟩ := Option.map_eq_some_iff.1 h2
      obtain ⟨e, he⟩ := hes j (hlt_of g1)
      rw [List.getElem?_zipWith, g1, he] at h1
      simp only [Option.some.injEq] at h1
      subst h1
      refine ⟨by rw [(hnopWd _ o).1, (hnopWd _ o).1], by rw [(hnopWd _ o).2.1, (hnopWd _ o).2.1], by rw [(hnopWd _ o).2.2, (hnopWd _ o).2.2], ?_⟩
      unfold nopX
      split
      · exact .inr ⟨_, _, rfl, rfl⟩
      · exact .inl rfl
    simp only [Region.lexB, Bool.and_eq_true] at hB
    have := wpAnyQ_lex (P := P) (C := fun w => HS E ν θ' s.hp w) (md := .any) hB.1 (List.zipWith (fun o e => nopX (e.v.conc ν θ') o) pre es) 0 (Array.replicate (List.zipWith (fun o e => nopX (e.v.conc ν θ') o) pre es).toArray.size false) a (by simp) (by simpa using hB.2) hwq
    rw [hsz θ'] at this
    simpa [hz.len] using this
end
end Go.Sx

namespace Go.Sx
open Go.RowKit
section
variable {P : Program} {I : World → Prop} {S : Sigs} {F : FEnv} {E : Env} {gK : Nat} {ν : Nat → DV}

theorem evOpers_quiet (hS : SigsOK P I gK S F) (hE : E.Ok gK) (hn0 : S.n0 = E.n0) (hI : ∀ w, Fr E.W E.w0 w → I w) {ops : Array Oper} : ∀ (l : List Oper) (r : RS), M.sat F ν (evOpers P S true ops.toList l r) (fun r' => r'.st.hp = r.st.hp ∧
    ∀ ρ a, ARel ν ρ r a → (∃ w, HS E ν ρ r.st.hp w) → ∀ C : World → Prop, C = (fun w => HS E ν ρ r.st.hp w) →
    ∀ Q : Act → Prop, (∀ a', ARel ν ρ r' a' → Q a') → wpQuiet P ops C Q l a)
  | [], r => sat_pure ⟨rfl, fun ρ a h _ C _ Q hQ => hQ a h⟩
  | o :: l, r => by
    unfold evOpers
    refine sat_bind (evOper_sat (E := E) hS hE hn0 hI true) fun r1 h1 => sat_mono (evOpers_quiet hS hE hn0 hI l r1) fun r' h2 => ?_
    have h1 := h1.2 rfl
    refine ⟨h2.1.trans h1.1, fun ρ a ha hex C hC Q hQ => ?_⟩
    have := h1.2 ρ a ha hex C hC
    simp only [wpQuiet]
    split
    · rename_i hw
      rw [if_pos hw] at this
      obtain ⟨v, h3, h4⟩ := this
      exact ⟨v, h3, h2.2 ρ _ h4 (by rw [h1.1]; exact hex) C (by rw [h1.1]; exact hC) Q hQ⟩
    · rename_i hw
      rw [if_neg hw] at this
      exact h2.2 ρ _ this (by rw [h1.1]; exact hex) C (by rw [h1.1]; exact hC) Q hQ

theorem HS.drawn {ρ : Nat → Loc} {hp : List (Option Blk)} {w : World} (h : HS E ν ρ hp w) : HS E ν ρ hp { w with drawn := w.drawn + 1 } :=
  h.of_below ⟨rfl, rfl, rfl, Nat.le_refl _, fun _ _ => rfl⟩

theorem backB_ok {ops : List Oper} (h : backB ops = true) : BackOk .any ops.toArray := backB_ok' h

theorem tailB_ok {ops : List Oper} {n : Nat} (h : tailB ops n = true) : ∀ i, n ≤ i → ∀ o, ops[i]? = some o → ∀ j, j < i → ∃ e ∈ o.after, Region.binds .any e = true ∧ e.on = j := by
  intro i hi o ho j hj
  have hm : (o, i) ∈ ops.zipIdx.drop n := by
    rw [List.mem_iff_getElem?]
    refine ⟨i - n, ?_⟩
    rw [List.getElem?_drop, show n + (i - n) = i from by omega, List.getElem?_zipIdx, ho]
    simp
  have := List.all_eq_true.1 h _ hm
  have := List.all_eq_true.1 this j (List.mem_range.2 hj)
  obtain ⟨e, he, h2⟩ := Array.any_eq_true'.1 this
  simp only [Bool.and_eq_true] at h2
  exact ⟨e, he, h2.1, Nat.eq_of_beq_eq_true h2.2⟩

theorem sat_orElse {α : Type} {x y : M α} {Q : α → Prop} (hx : M.sat F ν x Q) (hy : M.sat F ν y Q) : M.sat F ν (x.orElse' y) Q := by
  intro n a n' e d h1 h2 h3
  unfold M.orElse' at h1
  cases h : x n with
  | some r => rw [h] at h1; exact hx n a n' e d (by rw [h]; exact h1) h2 h3
  | none => rw [h] at h1; exact hy n a n' e d h1 h2 h3

theorem evRegionB_sat (hS : SigsOK P I gK S F) (hE : E.Ok gK) (hn0 : S.n0 = E.n0) (hI : ∀ w, Fr E.W E.w0 w → I w) {ops : Array Oper} {s : St} : M.sat F ν (evRegionB P S ops s) (fun s' => P.follows .mixedOrders = true ∧ ∀ ρ a w, RR ν E ρ ⟨s, []⟩ a w →
    ∀ Q : Exit → Act → World → Prop, (∀ ρ' a' w', RR ν E ρ' ⟨s', []⟩ a' w' → Q .normal a' w') → wpAny P .any ops Q ops.size (Array.replicate ops.size false) a w) := by
  unfold evRegionB
  refine sat_ite (fun hc => ?_) (fun _ => sat_fail)
  simp only [Bool.and_eq_true] at hc
  refine sat_mono (evMany_sat (E := E) hS hE hn0 hI (List.takeWhile_prefix _).length_le hc.1) fun s' hs' => ⟨hc.2, fun ρ a w hrr Q hQ => hs' ρ a w hrr Q hQ⟩

theorem evRegionE_sat (hS : SigsOK P I gK S F) (hE : E.Ok gK) (hn0 : S.n0 = E.n0) (hI : ∀ w, Fr E.W E.w0 w → I w) {ops : Array Oper} {s : St} : M.sat F ν (evRegionE P S ops s) (fun s' => P.follows .mixedOrders = true ∧ ∀ ρ a w, RR ν E ρ ⟨s, []⟩ a w →
    ∀ Q : Exit → Act → World → Prop, (∀ ρ' a' w', RR ν E ρ' ⟨s', []⟩ a' w' → Q .normal a' w') → wpAny P .any ops Q ops.size (Array.replicate ops.size false) a w) := by
  unfold evRegionE
  refine sat_ite (fun hc => ?_) (fun _ => sat_fail)
  simp only [Bool.and_eq_true] at hc
  refine sat_mono (evSw_sat (E := E) hS hE hn0 hI (List.takeWhile_prefix _).length_le hc.1) fun s' hs' => ⟨hc.2, fun ρ a w hrr Q hQ => hs' ρ a w hrr Q hQ⟩
theorem evRegionBE_sat (hS : SigsOK P I gK S F) (hE : E.Ok gK) (hn0 : S.n0 = E.n0) (hI : ∀ w, Fr E.W E.w0 w → I w) {ops : Array Oper} {s : St} : M.sat F ν (evRegionBE P S ops s) (fun s' => P.follows .mixedOrders = true ∧ ∀ ρ a w, RR ν E ρ ⟨s, []⟩ a w →
    ∀ Q : Exit → Act → World → Prop, (∀ ρ' a' w', RR ν E ρ' ⟨s', []⟩ a' w' → Q .normal a' w') → wpAny P .any ops Q ops.size (Array.replicate ops.size false) a w) :=
  sat_orElse (evRegionB_sat hS hE hn0 hI) (evRegionE_sat hS hE hn0 hI)

theorem evRegionA_sat (hS : SigsOK P I gK S F) (hE : E.Ok gK) (hn0 : S.n0 = E.n0) (hI : ∀ w, Fr E.W E.w0 w → I w) {ops : Array Oper} {s : St} : M.sat F ν (evRegionA P S ops s) (fun s' => P.follows .mixedOrders = true ∧ ∀ ρ a w, RR ν E ρ ⟨s, []⟩ a w →
    ∀ Q : Exit → Act → World → Prop, (∀ ρ' a' w', RR ν E ρ' ⟨s', []⟩ a' w' → Q .normal a' w') → wpAny P .any ops Q ops.size (Array.replicate ops.size false) a w) := by
  unfold evRegionA
  dsimp only
  generalize hn : (ops.toList.takeWhile fun o => quietOp o.op).length = n
  refine sat_ite (fun hc => ?_) (fun _ => sat_ite (fun hmx => ?_) (fun _ => sat_fail))
  rotate_left
  · simp only [Bool.and_eq_true] at hmx
    obtain ⟨⟨⟨hmx, hm⟩, hB⟩, hback⟩ := hmx
    refine sat_mono (evMixed_sat (E := E) hS hE hI hmx hB hback) fun s' hs' => ⟨hm, fun ρ a w hrr Q hQ => hs' ρ a w hrr Q hQ⟩
  simp only [Bool.and_eq_true] at hc
  obtain ⟨hB, htail⟩ := hc
  refine sat_ite (fun hc => ?_) (fun _ => sat_fail)
  simp only [Bool.and_eq_true] at hc
  obtain ⟨hm, hback⟩ := hc
  have hq := evOpers_quiet (E := E) (ν := ν) hS hE hn0 hI (ops := (ops.toList.take n).toArray) (ops.toList.take n) ⟨s, []⟩
  simp only at hq
  refine sat_bind hq fun r hr => ?_
  refine sat_bind (evOpers_list (E := E) hS hE hn0 hI (ops.toList.drop n) r) fun r2 hr2 => sat_pure ⟨hm, fun ρ a w hrr Q hQ => ?_⟩
  have hbk : BackOk .any ops := by have := backB_ok hback; simpa using this
  refine wpAny_tails hbk (ops.toList.drop n) (ops.toList.take n).toArray (by simp) (fun i hi o ho j hj => ?_) a w ?_
  · have hlen : (ops.toList.take n).toArray.size = n := by
      have : n ≤ ops.toList.length := by
        rw [← hn]
        exact (List.takeWhile_prefix _).length_le
      simp at this ⊢
      omega
    exact tailB_ok htail i (by omega) o (by simpa using ho) j hj
  · have hhp : r.st.hp = s.hp := hr.1
    simp only [Region.lexB, Bool.and_eq_true] at hB
    refine wpAny_of_quiet (C := fun w => HS E ν ρ s.hp w) (Q := fun a' => ∀ w', (HS E ν ρ s.hp w') → wpList P ops Q (ops.toList.drop n) a' w') (fun _ w' hw' h => h w' hw') _ _ _ _ hrr.hs ?_
    have hqq := hr.2 ρ a hrr.act ⟨w, hrr.hs⟩ _ rfl (fun a' => ∀ w', (HS E ν ρ s.hp w') → wpList P ops Q (ops.toList.drop n) a' w') (fun a' ha' w' hw' =>
      hr2 ρ a' w' ⟨ha', by rw [hhp]; exact hw'⟩ Q fun ρ' a'' w'' h' => hQ ρ' a'' w'' h'.drop)
    have := wpAnyQ_lex (P := P) (C := fun w => HS E ν ρ s.hp w) (md := .any) hB.1 (ops.toList.take n) 0 (Array.replicate (ops.toList.take n).toArray.size false) a (by simp) (by simpa using hB.2) hqq
    simpa using this


theorem waitFor_get {ops : List Oper} {f : Nat} {df : List Nat} {j : Nat} {o' : Oper} (h : (waitFor ops f df)[j]? = some o') : ∃ o, ops[j]? = some o ∧ o' = (if waitsToo ops f df (o, j) then { o with after := o.after.push ⟨f, .chain⟩ } else o) := by
  unfold waitFor at h
  rw [List.getElem?_map, List.getElem?_zipIdx] at h
  cases ho : ops[j]? with
  | none => rw [ho] at h; cases h
  | some o =>
    rw [ho] at h
    simp only [Option.map_some, Nat.zero_add, Option.some.injEq] at h
    exact ⟨o, rfl, h.symm⟩
theorem sub1_mem {l m : List Nat} (h : sub1 l m = true) : ∀ x ∈ l, x ∈ m := fun x hx => memN_mem (List.all_eq_true.1 h x hx)
theorem kindOf_tmp {ρ : Nat → Loc} {r : RS} {a : Act} (h : ARel ν ρ r a) {t : Nat} {k : IntKind} (hk : kindOf r.st.sl (.tmp t) = some k) : ∃ n, a.tmps[t]? = some (.int k n) := by
  unfold kindOf at hk
  simp only at hk
  split at hk
  · rename_i k' l hn
    cases hk
    exact ⟨_, (h.slot t _ hn).2⟩
  · cases hk
theorem kindOf_eval {sl : List (Option V)} {a : Act} {x : Operand} {k : IntKind} (hk : kindOf sl x = some k) (ht : ∀ t, x = .tmp t → ∃ n, a.tmps[t]? = some (.int k n)) : ∃ n, a.eval x = .int k n := by
  cases x with
  | tmp t =>
    obtain ⟨n, h⟩ := ht t rfl
    exact ⟨n, by show a.tmps.getD t undef = _; rw [Array.getD_eq_getD_getElem?, h]; rfl⟩
  | const v =>
    unfold kindOf at hk
    cases v with
    | int k' n => cases hk; exact ⟨n, rfl⟩
    | _ => cases hk
  | _ => cases hk
theorem floatRun {o : Oper} {ts : List Nat} (hf : floatOp o = some ts) {a : Act} {k : IntKind} (hx : ∀ op t x y u, o.op = .binOp op t x y u → (∃ n, a.eval x = .int k n) ∧ ∃ n, a.eval y = .int k n) : ∃ v, ∀ w, (execOp a.eval o).run P w = .ok (.value v) w := by
  obtain ⟨dst, op, ty, pos, after, guard⟩ := o
  unfold floatOp at hf
  split at hf
  · rename_i op' t x y u hg ho
    simp only at hg ho
    subst hg ho
    obtain ⟨⟨n, h1⟩, ⟨m, h2⟩⟩ := hx op' t x y u rfl
    split at hf
    · exact ⟨.int k (k.wrap (n + m)), fun w => by simp [execOp, h1, h2, eqGuard, binOp, Op.intArith]⟩
    · exact ⟨.int k (k.wrap (n - m)), fun w => by simp [execOp, h1, h2, eqGuard, binOp, Op.intArith]⟩
    · exact ⟨.int k (k.wrap (n * m)), fun w => by simp [execOp, h1, h2, eqGuard, binOp, Op.intArith]⟩
    · cases hf
  · cases hf
abbrev AnyOf (P : Program) (ops : List Oper) (Q : Exit → Act → World → Prop) (a : Act) (w : World) : Prop := wpAny P .any ops.toArray Q ops.toArray.size (Array.replicate ops.toArray.size false) a w
theorem floatMove_ok {P : Program} {Q : Exit → Act → World → Prop} (hQ : ∀ e a w, Q e a w → e = .normal) {f : Nat} {ops : List Oper} {a : Act} {w : World} (h : AnyOf P (floatMove f ops) Q a w) : AnyOf P ops Q a w := by
  unfold floatMove at h
  cases hof : ops[f]? with
  | none => rw [hof] at h; exact h
  | some o =>
    rw [hof] at h
    simp only at h
    split at h
    · rename_i hc
      simp only [Bool.and_eq_true] at hc
      obtain ⟨⟨hm, hok⟩, hns⟩ := hc
      have hsz : (waitFor ops f (depsOf o)).toArray.size = ops.toArray.size := by simp [waitFor]
      unfold AnyOf at h ⊢
      rw [hsz] at h
      refine wpAny_floatM hQ (f := f) (of := o) (by simpa using hof) ?_ ?_ hsz (fun a => moves_yield hm _ a) ?_ hns _ _ a w (by simp) (closed_none _ _) h
      · have : (waitFor ops f (depsOf o))[f]? = some o := by
          unfold waitFor
          rw [List.getElem?_map, List.getElem?_zipIdx, hof]
          have : Nat.blt f f = false := by rw [← Bool.not_eq_true, Nat.blt_eq]; omega
          simp [waitsToo]
        simpa using this
      · intro j o' ho'
        obtain ⟨oj, h1, h2⟩ := waitFor_get (ops := ops) (f := f) (df := depsOf o) (j := j) (by simpa using ho')
        refine ⟨oj, by simpa using h1, ?_, ?_, ?_⟩
        · rw [h2]; split <;> rfl
        · intro e he _
          rw [h2]; split
          · simp [he]
          · exact he
        · intro e he _
          rw [h2] at he
          split at he
          · rename_i hw2
            simp only [Array.mem_push] at he
            rcases he with he | he
            · exact .inl he
            · refine .inr ⟨by rw [he], fun z hz => ?_⟩
              unfold waitsToo at hw2
              simp only [Bool.and_eq_true] at hw2
              exact sub1_mem hw2.2 z hz
          · exact .inl he
      · intro j oj hj hne
        have hm : (oj, j) ∈ ops.zipIdx := List.mem_zipIdx_iff_getElem?.2 (by simpa using hj)
        have := List.all_eq_true.1 hok _ hm
        simp only [Bool.and_eq_true, Bool.or_eq_true, Bool.not_eq_true'] at this
        rcases this.2 with ((h | h) | h) | h
        · exact absurd (Nat.eq_of_beq_eq_true h) hne
        · exact .inl (memN_mem h)
        · exact .inr (.inl (memN_mem h))
        · exact .inr (.inr h)
    · exact h
theorem swapOps_get {i : Nat} {ops : List Oper} {x y : Oper} (h1 : ops[i]? = some x) (h2 : ops[i + 1]? = some y) (j : Nat) : (((ops.set i y).set (i + 1) x).map (swpO i))[swp i j]? = (ops[j]?).map (swpO i) := by
  have l2 : i + 1 < ops.length := (List.getElem?_eq_some_iff.1 h2).1
  rw [List.getElem?_map]
  congr 1
  unfold swp
  by_cases e1 : j = i
  · subst e1
    rw [Nat.beq_refl, cond_true, List.getElem?_set_self (by simp; omega), h1]
  · have b1 : Nat.beq j i = false := by rw [← Bool.not_eq_true, Nat.beq_eq]; exact e1
    rw [b1, cond_false]
    by_cases e2 : j = i + 1
    · subst e2
      rw [Nat.beq_refl, cond_true, List.getElem?_set_ne (by omega), List.getElem?_set_self (by omega), h2]
    · have b2 : Nat.beq j (i + 1) = false := by rw [← Bool.not_eq_true, Nat.beq_eq]; exact e2
      rw [b2, cond_false, List.getElem?_set_ne (by omega), List.getElem?_set_ne (by omega)]
theorem swapOps_ok {P : Program} {Q : Exit → Act → World → Prop} {i : Nat} {ops : List Oper} {a : Act} {w : World} (h : AnyOf P (swapOps i ops) Q a w) : AnyOf P ops Q a w := by
  unfold swapOps at h
  split at h
  · rename_i x y h1 h2
    have l2 : i + 1 < ops.length := (List.getElem?_eq_some_iff.1 h2).1
    have hsz : (((ops.set i y).set (i + 1) x).map (swpO i)).toArray.size = ops.toArray.size := by simp
    unfold AnyOf at h ⊢
    rw [hsz] at h
    refine wpAny_swap (i := i) (by simpa using l2) hsz (fun j => by simpa using swapOps_get h1 h2 j) _ _ _ a w (by simp) (by simp) (fun j => ?_) h
    by_cases hj : j < ops.length
    · have : swp i j < ops.length := by
        unfold swp
        by_cases e1 : j = i
        · subst e1; rw [Nat.beq_refl]; exact l2
        · have b1 : Nat.beq j i = false := by rw [← Bool.not_eq_true, Nat.beq_eq]; exact e1
          rw [b1, cond_false]
          by_cases e2 : j = i + 1
          · subst e2; rw [Nat.beq_refl, cond_true]; omega
          · have b2 : Nat.beq j (i + 1) = false := by rw [← Bool.not_eq_true, Nat.beq_eq]; exact e2
            rw [b2]; exact hj
      rw [Array.getElem?_eq_getElem (by simpa using this), Array.getElem?_eq_getElem (by simpa using hj)]
      simp
    · have : ¬ swp i j < ops.length := fun hc => hj (by
        have hh : ∀ k, k < ops.length → swp i k < ops.length := fun k hk => by
          unfold swp
          by_cases e1 : k = i
          · subst e1; rw [Nat.beq_refl]; exact l2
          · have b1 : Nat.beq k i = false := by rw [← Bool.not_eq_true, Nat.beq_eq]; exact e1
            rw [b1, cond_false]
            by_cases e2 : k = i + 1
            · subst e2; rw [Nat.beq_refl, cond_true]; omega
            · have b2 : Nat.beq k (i + 1) = false := by rw [← Bool.not_eq_true, Nat.beq_eq]; exact e2
              rw [b2]; exact hk
        have := hh _ hc
        rwa [swp_swp] at this)
      rw [Array.getElem?_eq_none (by simpa using this), Array.getElem?_eq_none (by simpa using hj)]
  · exact h
theorem hoistAt_ok {P : Program} {Q : Exit → Act → World → Prop} {a : Act} {w : World} : ∀ {i : Nat} {ops : List Oper}, AnyOf P (hoistAt i ops) Q a w → AnyOf P ops Q a w
  | 0, _, h => h
  | i + 1, ops, h => by
    unfold hoistAt at h
    split at h
    · split at h
      · exact swapOps_ok (hoistAt_ok h)
      · exact h
    · exact h
theorem hoistAll_ok {P : Program} {Q : Exit → Act → World → Prop} {a : Act} {w : World} {n : Nat} : ∀ {k : Nat} {ops : List Oper}, AnyOf P (hoistAll n k ops) Q a w → AnyOf P ops Q a w
  | 0, _, h => h
  | k + 1, ops, h => hoistAt_ok (hoistAll_ok (k := k) h)
theorem floatMoves_ok {P : Program} {Q : Exit → Act → World → Prop} (hQ : ∀ e a w, Q e a w → e = .normal) {a : Act} {w : World} {n : Nat} : ∀ {k : Nat} {ops : List Oper}, AnyOf P (floatMoves n k ops) Q a w → AnyOf P ops Q a w
  | 0, _, h => h
  | k + 1, ops, h => floatMove_ok hQ (floatMoves_ok hQ (k := k) h)
theorem normMoves_ok {P : Program} {Q : Exit → Act → World → Prop} (hQ : ∀ e a w, Q e a w → e = .normal) {ops : List Oper} {a : Act} {w : World} (h : AnyOf P (normMoves ops) Q a w) : AnyOf P ops Q a w := hoistAll_ok (floatMoves_ok hQ h)
theorem evRegionC_sat (hS : SigsOK P I gK S F) (hE : E.Ok gK) (hn0 : S.n0 = E.n0) (hI : ∀ w, Fr E.W E.w0 w → I w) {s : St} : ∀ (n : Nat) (ops : List Oper), M.sat F ν (evRegionC P S n ops s) (fun s' => P.follows .mixedOrders = true ∧ ∀ ρ a w, RR ν E ρ ⟨s, []⟩ a w →
    ∀ Q : Exit → Act → World → Prop, (∀ ρ' a' w', RR ν E ρ' ⟨s', []⟩ a' w' → Q .normal a' w') → wpAny P .any ops.toArray Q ops.toArray.size (Array.replicate ops.toArray.size false) a w)
  | 0, ops => sat_orElse (evRegionA_sat hS hE hn0 hI) (evRegionBE_sat hS hE hn0 hI)
  | n + 1, ops => by
    unfold evRegionC
    refine sat_orElse (sat_orElse (evRegionA_sat hS hE hn0 hI) (evRegionBE_sat hS hE hn0 hI)) ?_
    split
    · exact sat_fail
    · rename_i o f rest hfl
      split
      · rename_i ts hts
        refine sat_ite (fun hc => ?_) (fun _ => sat_fail)
        simp only [Bool.and_eq_true] at hc
        obtain ⟨⟨hok, hns⟩, hback⟩ := hc
        refine sat_bind (evRegionC_sat hS hE hn0 hI n (waitFor ops f (depsOf o))) fun s' hs' => sat_ite (fun hk => sat_pure ⟨hs'.1, fun ρ a w hrr Q hQ => ?_⟩) (fun _ => sat_fail)
        have hmem : (o, f) ∈ ops.zipIdx := by
          have : (o, f) ∈ floats ops := by rw [hfl]; simp
          exact (List.mem_filter.1 this).1
        have hof : ops[f]? = some o := by
          have := List.mem_zipIdx_iff_getElem?.1 hmem
          simpa using this
        have hsz : (waitFor ops f (depsOf o)).toArray.size = ops.toArray.size := by simp [waitFor]
        have hw := hs'.2 ρ a w hrr (fun e a' w' => e = .normal ∧ Q .normal a' w' ∧ ∃ ρ', RR ν E ρ' ⟨s', []⟩ a' w') (fun ρ' a' w' h => ⟨rfl, hQ ρ' a' w' h, ρ', h⟩)
        have hgn : o.guard = none := by
          unfold floatOp at hts
          split at hts
          · assumption
          · cases hts
        have hall : ∀ (j : Nat) (oj : Oper), ops[j]? = some oj → (dstIn ts oj = true → j ∈ depsOf o) ∧ (j ≠ f → j ∈ depsOf o ∨ f ∈ depsOf oj ∨ o.apart ops.toArray oj = true) := fun j oj hj => by
          have hm : (oj, j) ∈ ops.zipIdx := List.mem_zipIdx_iff_getElem?.2 (by simpa using hj)
          have := List.all_eq_true.1 hok _ hm
          simp only [Bool.and_eq_true, Bool.or_eq_true, Bool.not_eq_true'] at this
          refine ⟨fun hd => ?_, fun hne => ?_⟩
          · rcases this.1 with h | h
            · rw [hd] at h; cases h
            · exact memN_mem h
          · rcases this.2 with ((h | h) | h) | h
            · exact absurd (Nat.eq_of_beq_eq_true h) hne
            · exact .inl (memN_mem h)
            · exact .inr (.inl (memN_mem h))
            · exact .inr (.inr h)
        have hin : ∀ t ∈ ts, memN t ts = true := fun t ht => by
          clear hts hall hok
          induction ts with
          | nil => cases ht
          | cons x l ih =>
            simp only [memN, Bool.or_eq_true]
            rcases List.mem_cons.1 ht with rfl | h
            · exact .inl (Nat.beq_refl _)
            · exact .inr (ih h)
        rw [hsz] at hw
        refine wpAny_mono (Q := fun e a' w' => e = .normal ∧ Q .normal a' w' ∧ ∃ ρ', RR ν E ρ' ⟨s', []⟩ a' w') (fun e a' w' h => by rw [h.1]; exact h.2.1) _ _ _ _ ?_
        unfold floatKinds at hk
        split at hk
        · rename_i op t x y u hop
          split at hk
          · rename_i k k' hx hy
            have hkk : k = k' := kEq_eq hk
            subst hkk
            have hts2 : ∀ t', (x = .tmp t' ∨ y = .tmp t') → t' ∈ ts := fun t' h => by
              unfold floatOp at hts
              rw [hop, hgn] at hts
              simp only at hts
              split at hts
              case h_4 => cases hts
              all_goals
                split at hts
                · rename_i l m h1 h2
                  cases hts
                  rcases h with rfl | rfl
                  · unfold intOf at h1; cases h1; simp
                  · unfold intOf at h2; cases h2; simp
                · cases hts
            refine wpAny_float (fun e a w h => h.1) (f := f) (of := o) (by simpa using hof) ?_ hgn (txs := ts) (R := fun g => (∀ t, x = .tmp t → ∃ n, g t = some (.int k n)) ∧ ∀ t, y = .tmp t → ∃ n, g t = some (.int k n)) ?_ ?_ hsz ?_ ?_ ?_ ?_ hns _ _ a w (by simp) (closed_none _ _) hw
            · have : (waitFor ops f (depsOf o))[f]? = some o := by
                unfold waitFor
                rw [List.getElem?_map, List.getElem?_zipIdx, hof]
                have : Nat.blt f f = false := by rw [← Bool.not_eq_true, Nat.blt_eq]; omega
                simp [waitsToo]
              simpa using this
            · rintro g g' hg ⟨h1, h2⟩
              exact ⟨fun t ht => by rw [← hg t (hts2 t (.inl ht))]; exact h1 t ht, fun t ht => by rw [← hg t (hts2 t (.inr ht))]; exact h2 t ht⟩
            · intro j o' ho'
              obtain ⟨oj, h1, h2⟩ := waitFor_get (ops := ops) (f := f) (df := depsOf o) (j := j) (by simpa using ho')
              refine ⟨oj, by simpa using h1, ?_, ?_, ?_⟩
              · rw [h2]; split <;> rfl
              · intro e he _
                rw [h2]; split
                · simp [he]
                · exact he
              · intro e he _
                rw [h2] at he
                split at he
                · rename_i hw2
                  simp only [Array.mem_push] at he
                  rcases he with he | he
                  · exact .inl he
                  · refine .inr ⟨by rw [he], fun z hz => ?_⟩
                    unfold waitsToo at hw2
                    simp only [Bool.and_eq_true] at hw2
                    exact sub1_mem hw2.2 z hz
                · exact .inl he
            · rintro a' w' ⟨_, _, ρ', hr'⟩
              exact ⟨fun t ht => kindOf_tmp hr'.act (by rw [← ht]; exact hx), fun t ht => kindOf_tmp hr'.act (by rw [← ht]; exact hy)⟩
            · rintro a' ⟨h1, h2⟩
              exact floatRun hts (k := k) fun op' t' x' y' u' he => by
                rw [hop] at he
                cases he
                exact ⟨kindOf_eval hx h1, kindOf_eval hy h2⟩
            · intro j oj hj t ht hd
              exact (hall j oj (by simpa using hj)).1 (by unfold dstIn; rw [hd]; exact hin t ht)
            · intro j oj hj hne
              exact (hall j oj (by simpa using hj)).2 hne
          · cases hk
        · cases hk
      · exact sat_fail

theorem evRegion_sat (hS : SigsOK P I gK S F) (hE : E.Ok gK) (hn0 : S.n0 = E.n0) (hI : ∀ w, Fr E.W E.w0 w → I w) {ops : Array Oper} {draw : Bool} {s : St} {id : Nat} : M.sat F ν (evRegion P S ops draw s) (fun s' => ∀ ρ a w, RR ν E ρ ⟨s, []⟩ a w →
    ∀ Q : Exit → Act → World → Prop, (∀ ρ' a' w', RR ν E ρ' ⟨s', []⟩ a' w' → Q .normal a' w') → (Code.region id ops draw).wp P Q a w) := by
  unfold evRegion
  cases draw
  · simp only [Bool.false_eq_true, if_false]
    refine sat_bind (evOpers_list (E := E) hS hE hn0 hI ops.toList ⟨s, []⟩) fun r hr => sat_pure fun ρ a w hrr Q hQ => ?_
    exact wp_region_list (hr ρ a w hrr Q fun ρ' a' w' h' => hQ ρ' a' w' h'.drop)
  · simp only [if_true]
    refine sat_mono (sat_orElse (evRegionC_sat hS hE hn0 hI ops.toList.length ops.toList) (sat_mono (evRegionC_sat hS hE hn0 hI 0 (normMoves ops.toList)) fun s' hs' => ⟨hs'.1, fun ρ a w hrr Q hQ => ?_⟩)) fun s' hs' ρ a w hrr Q hQ => ?_
    · have := hs'.2 ρ a w hrr (fun e a' w' => e = .normal ∧ Q .normal a' w') (fun ρ' a' w' h => ⟨rfl, hQ ρ' a' w' h⟩)
      exact wpAny_mono (Q := fun e a' w' => e = .normal ∧ Q .normal a' w') (fun e a' w' h => by rw [h.1]; exact h.2) _ _ _ _ (normMoves_ok (fun e a w h => h.1) this)
    have := hs'.2 ρ a _ ⟨hrr.act, hrr.hs.drawn⟩ Q hQ
    exact wp_region_any hs'.1 (by simpa using this)

def K.is : K → Exit → Prop
  | .normal, .normal => True
  | .ret, .ret => True
  | .exit i, .exit j => i = j
  | .goto i, .goto j => i = j
  | _, _ => False

def X.sel (ν : Nat → DV) : X → K × St
  | .done k s => (k, s)
  | .br c x y => if c.bool ν then x.sel ν else y.sel ν

def XPost (ν : Nat → DV) (E : Env) (x : X) : Exit → Act → World → Prop := fun e a w => (x.sel ν).1.is e ∧ ∃ ρ, RR ν E ρ ⟨(x.sel ν).2, []⟩ a w

theorem nCond_sat : ∀ (x : X), M.sat F ν x.nCond (fun c => c.bool ν = (x.sel ν).1.isNormal)
  | .done k s => sat_pure rfl
  | .br c x y => by
    unfold X.nCond
    refine sat_bind (nCond_sat x) fun a ha => sat_bind (nCond_sat y) fun b hb => sat_mono mkIteB_sat fun r hr => ?_
    rw [hr, ha, hb]
    simp only [X.sel]
    cases c.bool ν <;> simp

theorem mergeSt_sat {c : A} {x y : St} : M.sat F ν (mergeSt E.n0 c x y) (fun s => ∀ ρ a w, (c.bool ν = true → RR ν E ρ ⟨x, []⟩ a w → ∃ ρ', RR ν E ρ' ⟨s, []⟩ a w) ∧
    (c.bool ν = false → RR ν E ρ ⟨y, []⟩ a w → ∃ ρ', RR ν E ρ' ⟨s, []⟩ a w)) :=
  sat_mono (mergeSt_sat2 (Nat.le_refl _)) fun _ h ρ a w => ⟨fun hc hr => let ⟨ρ', _, h2⟩ := (h ρ a w).1 hc hr; ⟨ρ', h2⟩, fun hc hr => let ⟨ρ', _, h2⟩ := (h ρ a w).2 hc hr; ⟨ρ', h2⟩⟩

def LoopRun (P : Program) (c : Code) (Q : Exit → Act → World → Prop) (a : Act) (w : World) : Prop :=
  ∀ (b : Frame) (k : List Item) (cs : List Frame), ∃ e a' w', Q e a' w' ∧ Arrives P (lone (b.at a (.code c :: .inLoop c :: k)) cs w) b k cs e a' w'

theorem LoopRun.step {P : Program} {c : Code} {Q : Exit → Act → World → Prop} {a : Act} {w : World} (h : c.wp P (Exit.then (LoopRun P c Q) Q) a w) : LoopRun P c Q a w := by
  intro b k cs
  obtain ⟨e, a₁, w₁, hq, harr⟩ := h b (.inLoop c :: k) cs
  cases e with
  | normal =>
    obtain ⟨e₂, a₂, w₂, hq₂, harr₂⟩ := hq b k cs
    exact ⟨e₂, a₂, w₂, hq₂, .of_steps (Steps.trans harr (.one step_inLoop)) harr₂⟩
  | exit id => exact ⟨_, a₁, w₁, hq, .pass (x := .inLoop c) rfl (fun _ _ => .inl (by simp)) harr⟩
  | goto l => exact ⟨_, a₁, w₁, hq, .pass (x := .inLoop c) rfl (fun _ _ => .inl (by simp)) harr⟩
  | ret => exact ⟨_, a₁, w₁, hq, .pass (x := .inLoop c) rfl (fun _ _ => .inl (by simp)) harr⟩
  | panic ch => exact ⟨_, a₁, w₁, hq, .pass (x := .inLoop c) rfl (fun _ _ => .inl (by simp)) harr⟩
  | outgrown => exact ⟨_, a₁, w₁, hq, .pass (x := .inLoop c) rfl (fun _ _ => .inl (by simp)) harr⟩
theorem LoopRun.wp {P : Program} {c : Code} {Q : Exit → Act → World → Prop} {a : Act} {w : World} (h : LoopRun P c Q a w) : (Code.loop c).wp P Q a w := by
  intro b k cs
  obtain ⟨e, a', w', hq, harr⟩ := h b k cs
  exact ⟨e, a', w', hq, .of_steps (.one step_loop) harr⟩
theorem LoopRun.mono {P : Program} {c : Code} {Q Q' : Exit → Act → World → Prop} {a : Act} {w : World} (hq : ∀ e a w, Q e a w → Q' e a w) (h : LoopRun P c Q a w) : LoopRun P c Q' a w :=
  fun b k cs => let ⟨e, a', w', q, r⟩ := h b k cs; ⟨e, a', w', hq _ _ _ q, r⟩

theorem nSt_sat : ∀ (x : X), M.sat F ν (x.nSt E.n0) (fun o => (x.sel ν).1.isNormal = true → ∃ s, o = some s ∧ ∀ ρ a w, RR ν E ρ ⟨(x.sel ν).2, []⟩ a w → ∃ ρ', RR ν E ρ' ⟨s, []⟩ a w)
  | .done k s => by
    refine sat_pure fun h => ?_
    simp only [X.sel] at h ⊢
    exact ⟨s, by simp [h], fun ρ a w h => ⟨ρ, h⟩⟩
  | .br c x y => by
    unfold X.nSt
    refine sat_bind (nSt_sat x) fun ox hx => sat_bind (nSt_sat y) fun oy hy => ?_
    split
    · rename_i a b
      refine sat_bind (mergeSt_sat (E := E)) fun s hs => sat_pure fun h => ⟨s, rfl, fun ρ act w hr => ?_⟩
      simp only [X.sel] at h hr
      by_cases hc : c.bool ν = true
      · simp only [hc, if_true] at h hr
        obtain ⟨s', hs', h2⟩ := hx h
        cases hs'
        obtain ⟨ρ', h3⟩ := h2 ρ act w hr
        exact (hs ρ' act w).1 hc h3
      · simp only [hc] at h hr
        obtain ⟨s', hs', h2⟩ := hy h
        cases hs'
        obtain ⟨ρ', h3⟩ := h2 ρ act w hr
        exact (hs ρ' act w).2 (by simpa using hc) h3
    · rename_i a
      refine sat_pure fun h => ?_
      simp only [X.sel] at h ⊢
      by_cases hc : c.bool ν = true
      · simp only [hc, if_true] at h ⊢
        exact hx h
      · simp only [hc] at h ⊢
        obtain ⟨s', hs', _⟩ := hy h
        cases hs'
    · rename_i b
      refine sat_pure fun h => ?_
      simp only [X.sel] at h ⊢
      by_cases hc : c.bool ν = true
      · simp only [hc, if_true] at h ⊢
        obtain ⟨s', hs', _⟩ := hx h
        cases hs'
      · simp only [hc] at h ⊢
        exact hy h
    · refine sat_pure fun h => ?_
      simp only [X.sel] at h
      by_cases hc : c.bool ν = true
      · simp only [hc, if_true] at h
        obtain ⟨s', hs', _⟩ := hx h
        cases hs'
      · simp only [hc] at h
        obtain ⟨s', hs', _⟩ := hy h
        cases hs'

theorem kill_spec : ∀ (x : X), (x.sel ν).1.isNormal = false → ∃ z, x.kill = some z ∧ z.sel ν = x.sel ν
  | .done k s, h => by
    simp only [X.sel] at h
    exact ⟨.done k s, by simp [X.kill, h], rfl⟩
  | .br c x y, h => by
    simp only [X.sel] at h
    by_cases hc : c.bool ν = true
    · simp only [hc, if_true] at h
      obtain ⟨z, h1, h2⟩ := kill_spec x h
      cases hy : y.kill with
      | none => exact ⟨z, by simp [X.kill, h1, hy], by simp [X.sel, hc, h2]⟩
      | some z' => exact ⟨.br c z z', by simp [X.kill, h1, hy], by simp [X.sel, hc, h2]⟩
    · simp only [hc] at h
      obtain ⟨z, h1, h2⟩ := kill_spec y h
      cases hx : x.kill with
      | none => exact ⟨z, by simp [X.kill, h1, hx], by simp [X.sel, hc, h2]⟩
      | some z' => exact ⟨.br c z' z, by simp [X.kill, h1, hx], by simp [X.sel, hc, h2]⟩

theorem K.is_normal {k : K} {e : Exit} (h : k.is e) (hn : k.isNormal = true) : e = .normal := by
  cases k <;> cases e <;> simp [K.is, K.isNormal] at h hn ⊢
theorem K.is_not {k : K} {e : Exit} (h : k.is e) (hn : k.isNormal = false) : e ≠ .normal := by
  cases k <;> cases e <;> simp [K.is, K.isNormal] at h hn ⊢

theorem andThen_sat {x : X} {f : St → M X} {_G : X → Prop} {N : (Exit → Act → World → Prop) → Act → World → Prop}
    (hf : ∀ s, M.sat F ν (f s) (fun y => ∀ ρ a w, RR ν E ρ ⟨s, []⟩ a w → N (XPost ν E y) a w))
    (hN : ∀ (Q Q' : Exit → Act → World → Prop) a w, (∀ e a w, Q e a w → Q' e a w) → N Q a w → N Q' a w) :
    M.sat F ν (x.andThen E.n0 f) (fun z => ∀ e a w, XPost ν E x e a w → Exit.then (N (XPost ν E z)) (XPost ν E z) e a w) := by
  unfold X.andThen
  refine sat_bind (nCond_sat x) fun c hc => sat_bind (nSt_sat (E := E) x) fun o ho => ?_
  split
  · refine sat_pure fun e a w hp => ?_
    obtain ⟨hk, ρ, hr⟩ := hp
    cases hn : (x.sel ν).1.isNormal with
    | true => obtain ⟨s, hs, _⟩ := ho hn; cases hs
    | false =>
      have := K.is_not hk hn
      cases e <;> first | exact absurd rfl this | exact ⟨hk, ρ, hr⟩
  · rename_i s
    have hnorm : ∀ e a w, XPost ν E x e a w → (x.sel ν).1.isNormal = true → e = .normal ∧ ∃ ρ, RR ν E ρ ⟨s, []⟩ a w := fun e a w hp hn => by
      obtain ⟨hk, ρ, hr⟩ := hp
      obtain ⟨s', hs', h2⟩ := ho hn
      cases hs'
      exact ⟨K.is_normal hk hn, h2 ρ a w hr⟩
    split
    · rename_i hkill
      refine sat_mono (hf s) fun y hy e a w hp => ?_
      have hn : (x.sel ν).1.isNormal = true := by
        cases hn : (x.sel ν).1.isNormal with
        | true => rfl
        | false => obtain ⟨z, hz, _⟩ := kill_spec x hn; rw [hkill] at hz; cases hz
      obtain ⟨rfl, ρ, hr⟩ := hnorm e a w hp hn
      exact hy ρ a w hr
    · rename_i z hz
      split
      · refine sat_mono (hf s) fun y hy e a w hp => ?_
        have hn : (x.sel ν).1.isNormal = true := by rw [← hc]
        obtain ⟨rfl, ρ, hr⟩ := hnorm e a w hp hn
        exact hy ρ a w hr
      · refine sat_bind (sat_under (hf s)) fun y hy => sat_pure fun e a w hp => ?_
        cases hn : (x.sel ν).1.isNormal with
        | true =>
          obtain ⟨rfl, ρ, hr⟩ := hnorm e a w hp hn
          have hct : c.bool ν = true := by rw [hc, hn]
          refine hN (XPost ν E y) _ a w (fun e a w h => ?_) (hy hct ρ a w hr)
          unfold XPost at h ⊢
          simp only [X.sel, hct, if_true]
          exact h
        | false =>
          obtain ⟨hk, ρ, hr⟩ := hp
          have hne := K.is_not hk hn
          have hcf : c.bool ν = false := by rw [hc, hn]
          obtain ⟨z', hz', hsel⟩ := kill_spec x hn
          rw [hz] at hz'
          cases hz'
          have hpost : XPost ν E (.br c y z) e a w := by
            unfold XPost
            simp only [X.sel, hcf, Bool.false_eq_true, if_false, hsel]
            exact ⟨hk, ρ, hr⟩
          cases e <;> first | exact absurd rfl hne | exact hpost

theorem inBlock_sel (id : Nat) : ∀ (x : X), (x.inBlock id).sel ν = ((x.sel ν).1.inBlock id, (x.sel ν).2)
  | .done k s => rfl
  | .br c x y => by
    simp only [X.inBlock, X.sel, inBlock_sel id x, inBlock_sel id y]
    split <;> rfl

theorem noGoto_sel : ∀ (x : X), x.noGoto = true → ∀ l, (x.sel ν).1 ≠ .goto l
  | .done k s, h, l => by
    simp only [X.sel]
    intro e
    subst e
    simp [X.noGoto] at h
  | .br c x y, h, l => by
    simp only [X.noGoto, Bool.and_eq_true] at h
    simp only [X.sel]
    split
    · exact noGoto_sel x h.1 l
    · exact noGoto_sel y h.2 l

end
end Go.Sx

