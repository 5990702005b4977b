/- Regions whose order is drawn, with stores among operations that look at no memory: the evaluator agrees with the model. -/
import Derived.Test.YtacciadcmiiimaaSyMix
namespace Go.Sx
open Go.RowKit
section
variable {P : Program} {I : World → Prop} {S : Sigs} {F : FEnv} {E : Env} {gK : Nat} {ν : Nat → DV}

theorem sat_all {α ι : Type} {x : M α} {Q : ι → α → Prop} (h : ∀ i, M.sat F ν x (Q i)) : M.sat F ν x (fun a => ∀ i, Q i a) :=
  fun n a n' e d h1 h2 h3 i => h i n a n' e d h1 h2 h3

def RS.withHp (r : RS) (hp : List (Option Blk)) : RS := ⟨⟨r.st.sl, hp⟩, r.gl⟩
theorem rd_withHp (r : RS) (hp : List (Option Blk)) (ctx : Ctx) (x : Operand) : rd (r.withHp hp) ctx x = rd r ctx x := by cases x <;> rfl
theorem ARel.withHp {ρ : Nat → Loc} {r : RS} {a : Act} (h : ARel ν ρ r a) (hp : List (Option Blk)) : ARel ν ρ (r.withHp hp) a := ⟨h.defers, h.size, h.slot, h.gl⟩
theorem ARel.ofHp {ρ : Nat → Loc} {r : RS} {a : Act} {hp : List (Option Blk)} (h : ARel ν ρ (r.withHp hp) a) : ARel ν ρ r a := ⟨h.defers, h.size, h.slot, h.gl⟩

theorem evOp_withHp (r : RS) (hp : List (Option Blk)) (ctx : Ctx) {op : Op} (h : pureOp op = true) : evOp P S (r.withHp hp) ctx op = evOp P S r ctx op := by
  cases op <;> simp only [pureOp] at h <;> first | (simp only [evOp, rd_withHp]; done) | cases h

theorem pure_sat (hS : SigsOK P I gK S F) (hE : E.Ok gK) {r : RS} {ctx : Ctx} {o : Oper} (hp : pureOp o.op = true) : M.sat F ν (evOp P S r ctx o.op) (fun res => ∀ hp' : List (Option Blk), ∀ ρ a, ARel ν ρ r a → CtxOk ctx a →
    ORok P I E ν ρ hp' (execOp a.eval o) res) :=
  sat_all fun hp' => by
    have := evOp_sat (E := E) (F := F) (ν := ν) hS hE (r := r.withHp hp') (ctx := ctx) (o := o)
    rw [evOp_withHp r hp' ctx hp] at this
    exact sat_mono this fun res h ρ a ha hc => h ρ a (ha.withHp hp') hc

/-- One value, whichever of these heaps stands. -/
def QuietAll (P : Program) (ν : Nat → DV) (E : Env) (ops : Array Oper) (o : Oper) (r r' : RS) : Prop :=
  ∀ ρ a, ARel ν ρ r a → ∀ C : World → Prop, (∀ w, C w → ∃ hp, HS E ν ρ hp w) → (∀ w w', C w → Below w.heap.size w w' → C w') → (∃ w, C w) →
    if Region.wanted o (yielded ops a.tmps) = true then ∃ v, (∀ w, C w → o.quietAt P a C w v) ∧ ARel ν ρ r' (a.put o.dst v) else ARel ν ρ r' (a.put o.dst undef)

theorem quietAll_of {o : Oper} {a : Act} {v : Value} {C : World → Prop} (hB : ∀ w w', C w → Below w.heap.size w w' → C w')
    (h : ∀ w, C w → RunsVal P (execOp a.eval o) w v) : ∀ w, C w → o.quietAt P a C w v := by
  intro w hw
  unfold Oper.quietAt
  rcases h w hw with h | ⟨f, args, h, hc⟩
  · rw [h]; exact ⟨rfl, rfl⟩
  · rw [h]
    exact ⟨rfl, hc.mono fun e w'' ⟨he, hb⟩ => ⟨he, hB w w'' hw hb⟩⟩

theorem stepOR_all (hI : ∀ w, Fr E.W E.w0 w → I w) {ops : Array Oper} {o : Oper} {r : RS} {x : OR} (hw : ∀ ρ a, ARel ν ρ r a → Region.wanted o (yielded ops a.tmps) = true)
    (hx : ∀ hp' ρ a, ARel ν ρ r a → ORok P I E ν ρ hp' (execOp a.eval o) x) : M.sat F ν (stepOR true r o.dst x) (QuietAll P ν E ops o r) := by
  cases x with
  | val v =>
    refine sat_mono put_sat fun r' hr' ρ a ha C hC hB hex => ?_
    rw [if_pos (hw ρ a ha)]
    refine ⟨v.conc ν ρ, quietAll_of hB fun w hw1 => ?_, hr'.2 ρ a _ ha fun v' hv' => ?_⟩
    · obtain ⟨hp, hh⟩ := hC w hw1
      exact (hx hp ρ a ha w hh (hI w hh.fr)).2
    · obtain ⟨w, hw1⟩ := hex
      obtain ⟨hp, hh⟩ := hC w hw1
      cases hv'; exact ⟨(hx hp ρ a ha w hh (hI w hh.fr)).1, rfl⟩
  | hp v hp' => unfold stepOR; simp only [Bool.not_true, Bool.false_and, Bool.false_eq_true, if_false]; exact sat_fail

theorem stepORg_all (hI : ∀ w, Fr E.W E.w0 w → I w) {ops : Array Oper} {o : Oper} {r : RS} {d : Nat} {want : Bool} {x : OR} (hw : ∀ (a : Act), Region.wanted o (yielded ops a.tmps) = true ↔ a.tmps[d]? = some (.bool want))
    (hx : ∀ hp' ρ a, ARel ν ρ r a → a.tmps[d]? = some (.bool want) → ORok P I E ν ρ hp' (execOp a.eval o) x) : M.sat F ν (stepORg r o.dst d want x) (QuietAll P ν E ops o r) := by
  cases x with
  | val v =>
    refine sat_mono putG_sat fun r' hr' ρ a ha C hC hB hex => ?_
    by_cases hg : Region.wanted o (yielded ops a.tmps) = true
    · rw [if_pos hg]
      have hd := (hw a).1 hg
      refine ⟨v.conc ν ρ, quietAll_of hB fun w hw1 => ?_, hr'.2 ρ a _ ha (fun _ => ?_) (fun hn => absurd hd hn)⟩
      · obtain ⟨hp, hh⟩ := hC w hw1
        exact (hx hp ρ a ha hd w hh (hI w hh.fr)).2
      · obtain ⟨w, hw1⟩ := hex
        obtain ⟨hp, hh⟩ := hC w hw1
        exact ⟨(hx hp ρ a ha hd w hh (hI w hh.fr)).1, rfl⟩
    · rw [if_neg hg]
      have hd : a.tmps[d]? ≠ some (.bool want) := fun h => hg ((hw a).2 h)
      exact hr'.2 ρ a _ ha (fun h => absurd h hd) (fun _ => rfl)
  | hp v hp' => exact sat_fail

theorem evOper_all (hS : SigsOK P I gK S F) (hE : E.Ok gK) (hI : ∀ w, Fr E.W E.w0 w → I w) {ops : Array Oper} {r : RS} {o : Oper} (hp : pureOp o.op = true) : M.sat F ν (evOper P S true ops.toList r o) (QuietAll P ν E ops o r) := by
  unfold evOper
  split
  · rename_i hg
    refine sat_bind (pure_sat (E := E) hS hE hp) fun x hx => stepOR_all hI (fun ρ a _ => by simp [Region.wanted, hg]) fun hp' ρ a ha => hx hp' ρ a ha (fun p hp => by simp at hp)
  · rename_i j want hg
    refine sat_bind (sat_lift (Q := fun d => (ops[j]?).bind (·.dst) = some d) fun a h => by simpa using h) fun d hd => ?_
    refine sat_bind (sat_lift (Q := fun res => guardInfo r 8 d want = some res) fun a h => h) fun res hres => ?_
    have hwd : ∀ (a : Act), Region.wanted o (yielded ops a.tmps) = true ↔ a.tmps[d]? = some (.bool want) := fun a => wanted_spec hg hd
    split
    · refine sat_mono put_sat fun r' hr' ρ a ha C _ _ _ => ?_
      have hn : a.tmps[d]? ≠ some (.bool want) := guardInfo_spec ha 8 d want hres
      rw [if_neg (fun h => hn ((hwd a).1 h))]
      exact hr'.2 ρ a _ ha (fun v hv => by cases hv)
    · rename_i ctx cs
      split
      · refine sat_bind (pure_sat (E := E) hS hE hp) fun x hx => stepOR_all hI (fun ρ a ha => ?_) fun hp' ρ a ha => hx hp' ρ a ha (fun p hp => by simp at hp)
        have := guardInfo_spec ha 8 d want hres
        exact (hwd a).2 (this.2.1 rfl)
      · refine sat_bind (sat_underAll (pure_sat (E := E) hS hE hp (ctx := ctx))) fun x hx => ?_
        have hx2 : ∀ hp' ρ a, ARel ν ρ r a → a.tmps[d]? = some (.bool want) → ORok P I E ν ρ hp' (execOp a.eval o) x := fun hp' ρ a ha hd' => by
          have := (guardInfo_spec ha 8 d want hres).1 hd'
          exact hx this.2 hp' ρ a ha this.1
        cases x with
        | val v => exact stepORg_all hI hwd hx2
        | hp v hp' => exact sat_ite (fun _ => sat_fail) (fun h => absurd rfl h)

theorem evOpers_all (hS : SigsOK P I gK S F) (hE : E.Ok gK) (hI : ∀ w, Fr E.W E.w0 w → I w) {ops : Array Oper} : ∀ (l : List Oper) (r : RS), (∀ o ∈ l, pureOp o.op = true) → M.sat F ν (evOpers P S true ops.toList l r) (fun r' =>
    ∀ ρ a, ARel ν ρ r a → ∀ C : World → Prop, (∀ w, C w → ∃ hp, HS E ν ρ hp w) → (∀ w w', C w → Below w.heap.size w w' → C w') → (∃ w, C w) → wpQuiet P ops C (fun a' => ARel ν ρ r' a') l a)
  | [], r, _ => sat_pure fun ρ a h _ _ _ _ => h
  | o :: l, r, hl => by
    unfold evOpers
    refine sat_bind (evOper_all (E := E) (ops := ops) hS hE hI (hl o (by simp))) fun r1 h1 => sat_mono (evOpers_all hS hE hI l r1 (fun o ho => hl o (List.mem_cons_of_mem _ ho))) fun r' h2 => ?_
    intro ρ a ha C hC hB hex
    have := h1 ρ a ha C hC hB hex
    simp only [wpQuiet]
    split
    · rename_i hw
      rw [if_pos hw] at this
      obtain ⟨v, h3, h4⟩ := this
      exact ⟨v, h3, h2 ρ _ h4 C hC hB hex⟩
    · rename_i hw
      rw [if_neg hw] at this
      exact h2 ρ _ this C hC hB hex

/-! ### Operations that enter nothing -/
def NE (P : Program) (m : Sem Next) : Prop := ∀ (w : World) (g : FuncId) (args : Array Value) (w' : World), m.run P w ≠ .ok (.enter g args) w'
theorem NE.bind {α : Type} {m : Sem α} {f : α → Sem Next} (h : ∀ x, NE P (f x)) : NE P (m >>= f) := by
  intro w g args w'
  rw [Sem.run_bind]
  cases m.run P w with
  | halt x w1 => intro h; cases h
  | ok x w1 => exact h x w1 g args w'
theorem NE.value (v : Value) : NE P (pure (.value v)) := fun w g args w' h => by cases h
theorem NE.ite {c : Prop} [Decidable c] {x y : Sem Next} (hx : NE P x) (hy : NE P y) : NE P (if c then x else y) := by split <;> assumption
theorem NE.panic : NE P (runtimePanic .nilDeref) := fun w g args w' h => by simp [runtimePanic, goPanic] at h
theorem pure_noEnter {o : Oper} (h : pureOp o.op = true) (a : Act) (w : World) (f : FuncId) (args : Array Value) (w' : World) : (execOp a.eval o).run P w ≠ .ok (.enter f args) w' := by
  have key : NE P (execOp a.eval o) := by
    cases hop : o.op <;> rw [hop] at h <;> simp only [pureOp] at h <;> simp only [execOp, hop] <;> first | exact NE.value _ | exact NE.bind fun x => NE.value _ | cases h | skip
    split <;> first | exact NE.panic | exact NE.value _ | skip
    split <;> first | exact NE.panic | exact NE.value _ | skip
    exact NE.bind fun x => NE.bind fun y => NE.ite (NE.bind fun z => NE.value _) (NE.value _)
  exact key w f args w'

/-! ### The region -/
theorem nop_after (o : Oper) : (nop o).after = o.after := by unfold nop; split <;> rfl
theorem nop_dst (o : Oper) : (nop o).dst = o.dst := by unfold nop; split <;> rfl
theorem nop_guard (o : Oper) : (nop o).guard = o.guard := by unfold nop; split <;> rfl
theorem nop_same {o : Oper} (h : storeOp o.op = false) : nop o = o := by unfold nop; rw [h]; rfl
theorem nop_pure {o : Oper} (h : pureOp o.op = true ∨ storeOp o.op = true) : pureOp (nop o).op = true := by
  unfold nop
  split
  · rfl
  · rename_i hs
    rcases h with h | h
    · exact h
    · exact absurd h hs

theorem evStores_sat (sl : List (Option V)) (gl : List GE) : ∀ (l : List Oper) (hp : List (Option Blk)), M.sat F ν (evStores P S sl gl l hp) (fun hp' => ∃ hps : Nat → List (Option Blk), hps 0 = hp ∧ hps l.length = hp' ∧
    ∀ k o, l[k]? = some o → ∀ ρ a, ARel ν ρ ⟨⟨sl, []⟩, gl⟩ a → ∀ w, HS E ν ρ (hps k) w → ∃ w', (execOp a.eval o).run P w = .ok .skip w' ∧ HS E ν ρ (hps (k + 1)) w')
  | [], hp => sat_pure ⟨fun _ => hp, rfl, rfl, fun k o h => by simp at h⟩
  | o :: l, hp => by
    unfold evStores
    split
    · rename_i t x y hop
      refine sat_bind (evStore_sat (E := E) hop) fun hp1 h1 => sat_mono (evStores_sat sl gl l hp1) fun hp' ⟨hps, e1, e2, e3⟩ => ?_
      refine ⟨fun k => match k with | 0 => hp | k + 1 => hps k, rfl, e2, fun k o' hk ρ a ha w hw => ?_⟩
      cases k with
      | zero =>
        simp at hk; subst hk
        obtain ⟨w', g1, g2⟩ := h1 ρ a ⟨ha.defers, ha.size, ha.slot, ha.gl⟩ (fun p hp => by simp at hp) w hw
        exact ⟨w', g1, by simp only; rw [e1]; exact g2⟩
      | succ k => exact e3 k o' (by simpa using hk) ρ a ha w hw
    · exact sat_fail

theorem storeAt_spec (ops : List Oper) : ∀ i, i ∈ storeAt ops ↔ ∃ o, ops[i]? = some o ∧ storeOp o.op = true := by
  intro i
  unfold storeAt
  rw [List.mem_map]
  constructor
  · rintro ⟨⟨o, j⟩, h, rfl⟩
    obtain ⟨h1, h2⟩ := List.mem_filter.1 h
    exact ⟨o, (List.mem_zipIdx_iff_getElem?.1 h1), h2⟩
  · rintro ⟨o, h1, h2⟩
    exact ⟨(o, i), List.mem_filter.2 ⟨List.mem_zipIdx_iff_getElem?.2 h1, h2⟩, rfl⟩

theorem storeAt_at : ∀ (ops : List Oper) (n : Nat), ((ops.zipIdx n).filter fun p => storeOp p.1.op).map (·.1) = ops.filter fun o => storeOp o.op
  | [], _ => rfl
  | o :: l, n => by
    rw [List.zipIdx_cons, List.filter_cons, List.filter_cons]
    split
    · rw [List.map_cons, storeAt_at l (n + 1)]
    · exact storeAt_at l (n + 1)
theorem stores_eq (ops : List Oper) (k i : Nat) (h : (storeAt ops)[k]? = some i) : ∃ o, ops[i]? = some o ∧ (ops.filter fun o => storeOp o.op)[k]? = some o := by
  unfold storeAt at h
  rw [List.getElem?_map] at h
  obtain ⟨⟨o, j⟩, h1, rfl⟩ := Option.map_eq_some_iff.1 h
  refine ⟨o, ?_, ?_⟩
  · have := (List.mem_filter.1 (List.mem_of_getElem? h1)).1
    exact List.mem_zipIdx_iff_getElem?.1 this
  · have := storeAt_at ops 0
    rw [← this, List.getElem?_map, h1]
    rfl

theorem sorted_lt : ∀ {l : List Nat}, sorted l = true → ∀ p q i j : Nat, p < q → l[p]? = some i → l[q]? = some j → i < j
  | [], _, p, q, i, j, _, hi, _ => by simp at hi
  | [a], _, p, q, i, j, hpq, hi, hj => by
    have : q < 1 := by
      rcases Nat.lt_or_ge q 1 with h | h
      · exact h
      · rw [List.getElem?_eq_none (by simpa using h)] at hj; cases hj
    omega
  | a :: b :: l, h, p, q, i, j, hpq, hi, hj => by
    simp only [sorted, Bool.and_eq_true] at h
    have h1 : a < b := by simpa [Nat.blt_eq] using h.1
    cases q with
    | zero => omega
    | succ q =>
      simp only [List.getElem?_cons_succ] at hj
      cases p with
      | succ p => exact sorted_lt h.2 p q i j (by omega) (by simpa using hi) hj
      | zero =>
        simp at hi; subst hi
        cases q with
        | zero => simp at hj; subst hj; exact h1
        | succ q => exact Nat.lt_trans h1 (sorted_lt h.2 0 (q + 1) b j (by omega) rfl hj)

theorem sub1_spec {l m : List Nat} (h : sub1 l m = true) : ∀ x ∈ l, x ∈ m := fun x hx => memN_mem (List.all_eq_true.1 h x hx)
theorem mem_memN {n : Nat} : ∀ {l : List Nat}, n ∈ l → memN n l = true
  | x :: l, h => by
    rcases List.mem_cons.1 h with rfl | h
    · simp [memN]
    · simp [memN, mem_memN h]

theorem backB_ok' {ops : List Oper} (h : backB ops = true) : BackOk .any ops.toArray := by
  intro i o ho
  have ho' : ops[i]? = some o := by simpa using ho
  have hm : (o, i) ∈ ops.zipIdx := by
    rw [List.mem_zipIdx_iff_getElem?]
    exact ho'
  have := List.all_eq_true.1 h _ hm
  simp only [Bool.and_eq_true] at this
  refine ⟨fun e he hbd => ?_, fun j b hg => ?_⟩
  · have h1 := this.1
    have := Array.all_eq_true_iff_forall_mem.1 h1 e he
    simpa [Nat.blt_eq, hbd] using this
  · have h2 := this.2
    rw [hg] at h2
    simpa [Nat.blt_eq] using h2

theorem eval_of_tmps {a a' : Act} {x : Operand} (h : ∀ t ∈ tmpOf x, a'.tmps[t]? = a.tmps[t]?) : a.eval x = a'.eval x := by
  cases x with
  | tmp t => simp only [Act.eval, Array.getD_eq_getD_getElem?]; rw [h t (by simp [tmpOf])]
  | _ => rfl

theorem evMixed_sat (hS : SigsOK P I gK S F) (hE : E.Ok gK) (hI : ∀ w, Fr E.W E.w0 w → I w) {ops : Array Oper} {s : St} (hm : mixOk ops.toList = true) (hB : Region.lexB .any (ops.toList.map nop).toArray = true) (hback : backB ops.toList = true) :
    M.sat F ν (evMixed P S ops.toList s) (fun s' => ∀ ρ a w, RR ν E ρ ⟨s, []⟩ a w → ∀ Q : Exit → Act → World → Prop, (∀ ρ' a' w', RR ν E ρ' ⟨s', []⟩ a' w' → Q .normal a' w') →
      wpAny P .any ops Q ops.size (Array.replicate ops.size false) a w) := by
  simp only [mixOk, Bool.and_eq_true] at hm
  obtain ⟨⟨hkinds, hsorted⟩, hanc⟩ := hm
  have hk : ∀ o ∈ ops.toList, pureOp o.op = true ∨ (storeOp o.op = true ∧ o.guard = none ∧ o.dst = none) := fun o ho => by
    have := List.all_eq_true.1 hkinds o ho
    simp only [Bool.or_eq_true, Bool.and_eq_true, Option.isNone_iff_eq_none] at this
    rcases this with h | ⟨⟨h1, h2⟩, h3⟩
    · exact .inl h
    · exact .inr ⟨h1, h2, h3⟩
  unfold evMixed
  have hops := evOpers_all (E := E) (F := F) (ν := ν) hS hE hI (ops := (ops.toList.map nop).toArray) (ops.toList.map nop) ⟨s, []⟩ (fun o ho => by
    obtain ⟨o', h1, rfl⟩ := List.mem_map.1 ho
    exact nop_pure (by rcases hk o' h1 with h | h; exact .inl h; exact .inr h.1))
  simp only at hops
  refine sat_bind hops fun r hr => sat_bind (evStores_sat (E := E) r.st.sl r.gl _ s.hp) fun hp' ⟨hps, e1, e2, e3⟩ => sat_pure fun ρ a w hrr Q hQ => ?_
  have hsz : (ops.toList.map nop).toArray.size = ops.size := by simp
  have hat : ∀ j : Nat, (ops.toList.map nop).toArray[j]? = (ops[j]?).map nop := fun j => by simp
  have hlen : (storeAt ops.toList).length = (ops.toList.filter fun o => storeOp o.op).length := by
    have := congrArg List.length (storeAt_at ops.toList 0)
    simp only [List.length_map] at this
    unfold storeAt
    simpa using this
  have hget : ∀ (i : Nat) (o : Oper), ops[i]? = some o → ops.toList[i]? = some o := fun i o h => by simpa using h
  have hmem : ∀ (i : Nat) (o : Oper), ops[i]? = some o → o ∈ ops.toList := fun i o h => List.mem_of_getElem? (hget i o h)
  have hancs : ∀ (i : Nat) (o : Oper), i ∈ storeAt ops.toList → ops[i]? = some o → sub1 ((storeAt ops.toList).filter fun j => Nat.blt j i) (reachFrom ops.toList i (depsOf o)) = true ∧
      ops.toList.zipIdx.all (dstOk (reachFrom ops.toList i (depsOf o)) (storeTmps o.op)) = true := fun i o hi ho => by
    have := List.all_eq_true.1 hanc i hi
    unfold mixAt at this
    rw [hget i o ho] at this
    simpa only [Bool.and_eq_true] using this
  refine wpAny_mixed (ops' := (ops.toList.map nop).toArray) (st := storeAt ops.toList) (C := fun w => ∃ k, HS E ν ρ (hps k) w) (D := fun k w => HS E ν ρ (hps k) w) (Qf := fun a' => ARel ν ρ r a')
    (by have := backB_ok' hback; simpa using this) (fun listed => ?_) (fun j => ?_) (fun i hi => ?_) (fun i hi => ?_) (fun k w _ h => ⟨k, h⟩) (fun i o hi ho => ?_) (fun p q i j hpq hi hj listed hcl hrd => ?_) (fun i o hi ho listed hcl hrd t ht j o' ho' hd' => ?_)
    (fun k i o hki ho a1 a2 ha2 htm w1 hw1 => ?_) (fun a1 w1 ha1 hw1 => ?_) ops.size _ a w 0 (by simp) (fun i o _ hl => ?_) (Nat.zero_le _) (fun p i hp => by omega) (fun p i _ _ => ?_) (by rw [e1]; exact hrr.hs) ?_
  · unfold Region.ready
    rw [hsz]
    refine List.filter_congr fun j _ => ?_
    rw [hat j]
    cases ops[j]? with
    | none => rfl
    | some o => simp only [Option.map_some, nop_after]
  · rw [hat j]
    cases ops[j]? with
    | none => rfl
    | some o => simp [nop_dst]
  · rw [hat i]
    cases ho : ops[i]? with
    | none => rfl
    | some o =>
      have : storeOp o.op = false := by
        cases h : storeOp o.op with
        | false => rfl
        | true => exact absurd ((storeAt_spec _ i).2 ⟨o, hget i o ho, h⟩) hi
      simp [nop_same this]
  · obtain ⟨o, h1, h2⟩ := (storeAt_spec _ i).1 hi
    have h1' : ops[i]? = some o := by simpa using h1
    rcases hk o (List.mem_of_getElem? h1) with h | h
    · exfalso
      cases hop : o.op <;> rw [hop] at h h2 <;> simp [pureOp, storeOp] at h h2
    · exact ⟨o, nop o, h1', by rw [hat i, h1']; rfl, h.2.2, h.2.1, by rw [nop_dst]; exact h.2.2, by rw [nop_guard]; exact h.2.1⟩
  · rcases hk o (hmem i o ho) with h | h
    · exact fun a w f args w' => pure_noEnter h a w f args w'
    · exact absurd ((storeAt_spec _ i).2 ⟨o, hget i o ho, h.1⟩) hi
  · obtain ⟨o, h1, h2⟩ := (storeAt_spec _ j).1 (List.mem_of_getElem? hj)
    have h1' : ops[j]? = some o := by simpa using h1
    have hs := (hancs j o (List.mem_of_getElem? hj) h1').1
    refine anc_listed hcl h1' hrd i (sub1_spec hs i (List.mem_filter.2 ⟨List.mem_of_getElem? hi, ?_⟩))
    have := sorted_lt hsorted p q i j hpq hi hj
    simpa [Nat.blt_eq] using this
  · have hs := (hancs i o hi ho).2
    have := List.all_eq_true.1 hs (o', j) (List.mem_zipIdx_iff_getElem?.2 (hget j o' ho'))
    simp only [dstOk, hd', Bool.or_eq_true, Bool.not_eq_true'] at this
    rcases this with h | h
    · rw [mem_memN ht] at h; cases h
    · exact anc_listed hcl ho hrd j (memN_mem h)
  · obtain ⟨o2, h1, h2⟩ := stores_eq ops.toList k i hki
    rw [hget i o ho] at h1; cases h1
    obtain ⟨w', g1, g2⟩ := e3 k o h2 ρ a2 ⟨ha2.defers, ha2.size, ha2.slot, ha2.gl⟩ w1 hw1
    refine ⟨w', ?_, g2⟩
    have hso : storeOp o.op = true := by
      have := List.mem_of_getElem? h2
      exact (List.mem_filter.1 this).2
    rw [← g1]
    congr 1
    cases hop : o.op <;> rw [hop] at hso <;> simp only [storeOp] at hso <;> first | cases hso | skip
    rename_i t x y
    rw [hop] at htm
    have hx : a1.eval x = a2.eval x := eval_of_tmps fun t ht => htm t (by simp [storeTmps, ht])
    have hy : a1.eval y = a2.eval y := eval_of_tmps fun t ht => htm t (by simp [storeTmps, ht])
    simp only [execOp, hop, hx, hy]
  · refine hQ ρ a1 w1 ⟨⟨ha1.defers, ha1.size, ha1.slot, fun e he => by cases he⟩, ?_⟩
    rw [hlen, e2] at hw1
    exact hw1
  · have h0 : (Array.replicate ops.size false).getD i false = false := by
      rw [Array.getD_eq_getD_getElem?]
      rcases Nat.lt_or_ge i ops.size with h | h
      · rw [Array.getElem?_eq_getElem (by simpa using h)]; simp
      · rw [Array.getElem?_eq_none (by simpa using h)]; rfl
    rw [h0] at hl; cases hl
  · rw [Array.getD_eq_getD_getElem?]
    rcases Nat.lt_or_ge i ops.size with h | h
    · rw [Array.getElem?_eq_getElem (by simpa using h)]; simp
    · rw [Array.getElem?_eq_none (by simpa using h)]; rfl
  · have hwq := hr ρ a ⟨hrr.act.defers, hrr.act.size, hrr.act.slot, hrr.act.gl⟩ (fun w => ∃ k, HS E ν ρ (hps k) w) (fun w ⟨k, h⟩ => ⟨hps k, h⟩) (fun w w' ⟨k, h⟩ hb => ⟨k, h.of_below hb⟩) ⟨w, 0, by rw [e1]; exact hrr.hs⟩
    have := wpAnyQ_lex (P := P) (C := fun w => ∃ k, HS E ν ρ (hps k) w) (md := .any) (by simp only [Region.lexB, Bool.and_eq_true] at hB; exact hB.1) (ops.toList.map nop) 0 (Array.replicate (ops.toList.map nop).toArray.size false) a (by simp) (by simp only [Region.lexB, Bool.and_eq_true] at hB; simpa using hB.2) hwq
    simpa using this
end
end Go.Sx
