/- Code and whole functions: the evaluator agrees with the model. -/
import Derived.Test.YtoebecinndbnoaaDoorSxTail
namespace Go.Sx
open Go.RowKit
section
variable {P : Program} {I : World → Prop} {S : Sigs} {F : FEnv} {ν : Nat → DV} {W : Nat → Prop} {w0 : World}

theorem evOpers_list (hS : SigsOK P I S F) (hI : ∀ w, Fr W w0 w → I w) {ops : Array Oper} : ∀ (l : List Oper) (r : RS), M.sat F ν (evOpers P S false ops.toList l r) (fun r' => ∀ ρ a w, RR ν W w0 ρ r a w →
    ∀ Q : Exit → Act → World → Prop, (∀ ρ' a' w', RR ν W w0 ρ' r' a' w' → Q .normal a' w') → wpList P ops Q l a w)
  | [], r => sat_pure fun ρ a w h Q hQ => hQ ρ a w h
  | o :: l, r => by
    unfold evOpers
    refine sat_bind (evOper_sat (W := W) (w0 := w0) hS hI false) fun r1 h1 => sat_mono (evOpers_list hS hI l r1) fun r' h2 ρ a w hrr Q hQ => ?_
    have := h1.1 rfl ρ a w hrr (wpList P ops Q l) Q (fun ρ' a' w' h' => h2 ρ' a' w' h' Q hQ)
    simp only [wpList]
    split
    · rename_i hw; rw [if_pos hw] at this; exact .inl this
    · rename_i hw; rw [if_neg hw] at this; exact this

theorem evOpers_quiet (hS : SigsOK P I S F) (hI : ∀ w, Fr W w0 w → I w) {ops : Array Oper} : ∀ (l : List Oper) (r : RS), M.sat F ν (evOpers P S true ops.toList l r) (fun r' => r'.st.hp = r.st.hp ∧
    ∀ ρ a, ARel ν ρ r a → (∃ w, HRel ν ρ r.st.hp w ∧ Fr W w0 w) → ∀ C : World → Prop, C = (fun w => HRel ν ρ r.st.hp w ∧ Fr W w0 w) →
    ∀ Q : Act → Prop, (∀ a', ARel ν ρ r' a' → Q a') → wpQuiet P ops C Q l a)
  | [], r => sat_pure ⟨rfl, fun ρ a h _ C _ Q hQ => hQ a h⟩
  | o :: l, r => by
    unfold evOpers
    refine sat_bind (evOper_sat (W := W) (w0 := w0) hS hI true) fun r1 h1 => sat_mono (evOpers_quiet hS hI l r1) fun r' h2 => ?_
    have h1 := h1.2 rfl
    refine ⟨h2.1.trans h1.1, fun ρ a ha hex C hC Q hQ => ?_⟩
    have := h1.2 ρ a ha hex C hC
    simp only [wpQuiet]
    split
    · rename_i hw
      rw [if_pos hw] at this
      obtain ⟨v, h3, h4⟩ := this
      exact ⟨v, h3, h2.2 ρ _ h4 (by rw [h1.1]; exact hex) C (by rw [h1.1]; exact hC) Q hQ⟩
    · rename_i hw
      rw [if_neg hw] at this
      exact h2.2 ρ _ this (by rw [h1.1]; exact hex) C (by rw [h1.1]; exact hC) Q hQ

theorem RR.drop {ρ : Nat → Nat × Nat} {r : RS} {a : Act} {w : World} (h : RR ν W w0 ρ r a w) : RR ν W w0 ρ ⟨r.st, []⟩ a w :=
  ⟨⟨h.act.defers, h.act.size, h.act.slot, fun e he => by cases he⟩, h.heap, h.own, h.fr⟩

theorem Fr.drawn {w : World} (h : Fr W w0 w) : Fr W w0 { w with drawn := w.drawn + 1 } := ⟨h.os, h.tape, h.output, h.size, h.block⟩
theorem HRel.drawn {ρ : Nat → Nat × Nat} {hp : List (Option Blk)} {w : World} (h : HRel ν ρ hp w) : HRel ν ρ hp { w with drawn := w.drawn + 1 } :=
  h.of_below ⟨rfl, rfl, rfl, Nat.le_refl _, fun _ _ => rfl⟩

theorem backB_ok {ops : List Oper} (h : backB ops = true) : BackOk .any ops.toArray := by
  intro i o ho
  have ho' : ops[i]? = some o := by simpa using ho
  have hm : (o, i) ∈ ops.zipIdx := by
    rw [List.mem_zipIdx_iff_getElem?]
    exact ho'
  have := List.all_eq_true.1 h _ hm
  simp only [Bool.and_eq_true] at this
  refine ⟨fun e he hbd => ?_, fun j b hg => ?_⟩
  · have h1 := this.1
    have := Array.all_eq_true_iff_forall_mem.1 h1 e he
    simpa [Nat.blt_eq, hbd] using this
  · have h2 := this.2
    rw [hg] at h2
    simpa [Nat.blt_eq] using h2

theorem tailB_ok {ops : List Oper} {n : Nat} (h : tailB ops n = true) : ∀ i, n ≤ i → ∀ o, ops[i]? = some o → ∀ j, j < i → ∃ e ∈ o.after, Region.binds .any e = true ∧ e.on = j := by
  intro i hi o ho j hj
  have hm : (o, i) ∈ ops.zipIdx.drop n := by
    rw [List.mem_iff_getElem?]
    refine ⟨i - n, ?_⟩
    rw [List.getElem?_drop, show n + (i - n) = i from by omega, List.getElem?_zipIdx, ho]
    simp
  have := List.all_eq_true.1 h _ hm
  have := List.all_eq_true.1 this j (List.mem_range.2 hj)
  obtain ⟨e, he, h2⟩ := Array.any_eq_true'.1 this
  simp only [Bool.and_eq_true] at h2
  exact ⟨e, he, h2.1, Nat.eq_of_beq_eq_true h2.2⟩

theorem evRegion_sat (hS : SigsOK P I S F) (hI : ∀ w, Fr W w0 w → I w) {ops : Array Oper} {draw : Bool} {s : St} {id : Nat} : M.sat F ν (evRegion P S ops draw s) (fun s' => ∀ ρ a w, RR ν W w0 ρ ⟨s, []⟩ a w →
    ∀ Q : Exit → Act → World → Prop, (∀ ρ' a' w', RR ν W w0 ρ' ⟨s', []⟩ a' w' → Q .normal a' w') → (Code.region id ops draw).wp P Q a w) := by
  unfold evRegion
  cases draw
  · simp only [Bool.false_eq_true, if_false]
    refine sat_bind (evOpers_list (W := W) (w0 := w0) hS hI ops.toList ⟨s, []⟩) fun r hr => sat_pure fun ρ a w hrr Q hQ => ?_
    exact wp_region_list (hr ρ a w hrr Q fun ρ' a' w' h' => hQ ρ' a' w' h'.drop)
  · simp only [if_true]
    generalize hn : (ops.toList.takeWhile fun o => quietOp o.op).length = n
    refine sat_ite (fun hc => ?_) (fun _ => sat_fail)
    simp only [Bool.and_eq_true] at hc
    obtain ⟨⟨⟨hm, hB⟩, hback⟩, htail⟩ := hc
    have hq := evOpers_quiet (W := W) (w0 := w0) (ν := ν) hS hI (ops := (ops.toList.take n).toArray) (ops.toList.take n) ⟨s, []⟩
    simp only at hq
    refine sat_bind hq fun r hr => ?_
    refine sat_bind (evOpers_list (W := W) (w0 := w0) hS hI (ops.toList.drop n) r) fun r2 hr2 => sat_pure fun ρ a w hrr Q hQ => ?_
    refine wp_region_any hm ?_
    have hbk : BackOk .any ops := by have := backB_ok hback; simpa using this
    refine wpAny_tails hbk (ops.toList.drop n) (ops.toList.take n).toArray (by simp) (fun i hi o ho j hj => ?_) a _ ?_
    · have hlen : (ops.toList.take n).toArray.size = n := by
        have : n ≤ ops.toList.length := by
          rw [← hn]
          exact (List.takeWhile_prefix _).length_le
        simp at this ⊢
        omega
      exact tailB_ok htail i (by omega) o (by simpa using ho) j hj
    · have hhp : r.st.hp = s.hp := hr.1
      simp only [Region.lexB, Bool.and_eq_true] at hB
      refine wpAny_of_quiet (C := fun w => HRel ν ρ s.hp w ∧ Fr W w0 w) (Q := fun a' => ∀ w', (HRel ν ρ s.hp w' ∧ Fr W w0 w') → wpList P ops Q (ops.toList.drop n) a' w') (fun _ w' hw' h => h w' hw') _ _ _ _ ⟨hrr.heap.drawn, hrr.fr.drawn⟩ ?_
      have hqq := hr.2 ρ a hrr.act ⟨w, hrr.heap, hrr.fr⟩ _ rfl (fun a' => ∀ w', (HRel ν ρ s.hp w' ∧ Fr W w0 w') → wpList P ops Q (ops.toList.drop n) a' w') (fun a' ha' w' hw' =>
        hr2 ρ a' w' ⟨ha', by rw [hhp]; exact hw'.1, by rw [hhp]; exact hrr.own, hw'.2⟩ Q fun ρ' a'' w'' h' => hQ ρ' a'' w'' h'.drop)
      have := wpAnyQ_lex (P := P) (C := fun w => HRel ν ρ s.hp w ∧ Fr W w0 w) (md := .any) hB.1 (ops.toList.take n) 0 (Array.replicate (ops.toList.take n).toArray.size false) a (by simp) (by simpa using hB.2) hqq
      simpa using this

/-! ### Ways out -/
def K.is : K → Exit → Prop
  | .normal, .normal => True
  | .ret, .ret => True
  | .exit i, .exit j => i = j
  | .goto i, .goto j => i = j
  | _, _ => False

def X.sel (ν : Nat → DV) : X → K × St
  | .done k s => (k, s)
  | .br c x y => if c.bool ν then x.sel ν else y.sel ν

def XPost (ν : Nat → DV) (W : Nat → Prop) (w0 : World) (x : X) : Exit → Act → World → Prop := fun e a w => (x.sel ν).1.is e ∧ ∃ ρ, RR ν W w0 ρ ⟨(x.sel ν).2, []⟩ a w

theorem nCond_sat : ∀ (x : X), M.sat F ν x.nCond (fun c => c.bool ν = (x.sel ν).1.isNormal)
  | .done k s => sat_pure rfl
  | .br c x y => by
    unfold X.nCond
    refine sat_bind (nCond_sat x) fun a ha => sat_bind (nCond_sat y) fun b hb => sat_mono mkIteB_sat fun r hr => ?_
    rw [hr, ha, hb]
    simp only [X.sel]
    cases c.bool ν <;> simp

theorem mergeSt_sat {c : A} {x y : St} : M.sat F ν (mergeSt c x y) (fun s => ∀ ρ a w, (c.bool ν = true → RR ν W w0 ρ ⟨x, []⟩ a w → RR ν W w0 ρ ⟨s, []⟩ a w) ∧
    (c.bool ν = false → RR ν W w0 ρ ⟨y, []⟩ a w → RR ν W w0 ρ ⟨s, []⟩ a w)) := by
  unfold mergeSt
  refine sat_ite (fun hlen => ?_) (fun _ => sat_fail)
  have hlen := Nat.eq_of_beq_eq_true hlen
  refine sat_bind (mergeSlots_sat _ _) fun sl hsl => sat_bind (mergeHeap_sat _ _) fun hp hhp => sat_pure fun ρ a w => ⟨fun hc h => ?_, fun hc h => ?_⟩
  · refine ⟨⟨h.act.defers, by rw [h.act.size]; exact (hsl.1 hlen.symm).symm, fun t v ht => ?_, fun e he => by cases he⟩, ⟨fun j bk hj => ?_, fun j j' bk bk' hj ho hj' hne => ?_⟩, fun j bk hj ho => ?_, h.fr⟩
    · obtain ⟨u, u', h1, h2, hm⟩ := hsl.2 t v ht
      obtain ⟨g1, g2⟩ := h.act.slot t u h1
      obtain ⟨m1, m2⟩ := hm.1 hc
      exact ⟨m2 g1, by rw [m1 ρ]; exact g2⟩
    · obtain ⟨u, u', h1, h2, hm⟩ := hhp j bk hj
      obtain ⟨m1, m2, m3, m4, m5⟩ := hm
      have hb := h.heap.blk j u h1
      refine ⟨hb.lt, fun i l hl => ?_, fun ho i hi => hb.own (by rw [← m1]; exact ho) i (by omega)⟩
      obtain ⟨b1, b2, e1, e2, e3⟩ := m5 i l hl
      obtain ⟨f1, f2⟩ := hb.cell i b1 e1
      obtain ⟨k1, k2⟩ := e3.1 hc
      exact ⟨k2 f1, by rw [k1 ρ]; exact f2⟩
    · obtain ⟨u, u', h1, h2, hm⟩ := hhp j bk hj
      obtain ⟨v, v', h3, h4, hm'⟩ := hhp j' bk' hj'
      exact h.heap.apart j j' u v h1 (by rw [← hm.1]; exact ho) h3 hne
    · obtain ⟨u, u', h1, h2, hm⟩ := hhp j bk hj
      exact h.own j u h1 (by rw [← hm.1]; exact ho)
  · refine ⟨⟨h.act.defers, by rw [h.act.size]; exact hlen.trans (hsl.1 hlen.symm).symm, fun t v ht => ?_, fun e he => by cases he⟩, ⟨fun j bk hj => ?_, fun j j' bk bk' hj ho hj' hne => ?_⟩, fun j bk hj ho => ?_, h.fr⟩
    · obtain ⟨u, u', h1, h2, hm⟩ := hsl.2 t v ht
      obtain ⟨g1, g2⟩ := h.act.slot t u' h2
      obtain ⟨m1, m2⟩ := hm.2 hc
      exact ⟨m2 g1, by rw [m1 ρ]; exact g2⟩
    · obtain ⟨u, u', h1, h2, hm⟩ := hhp j bk hj
      obtain ⟨m1, m2, m3, m4, m5⟩ := hm
      have hb := h.heap.blk j u' h2
      refine ⟨hb.lt, fun i l hl => ?_, fun ho i hi => hb.own (by rw [← m2]; exact ho) i (by omega)⟩
      obtain ⟨b1, b2, e1, e2, e3⟩ := m5 i l hl
      obtain ⟨f1, f2⟩ := hb.cell i b2 e2
      obtain ⟨k1, k2⟩ := e3.2 hc
      exact ⟨k2 f1, by rw [k1 ρ]; exact f2⟩
    · obtain ⟨u, u', h1, h2, hm⟩ := hhp j bk hj
      obtain ⟨v, v', h3, h4, hm'⟩ := hhp j' bk' hj'
      exact h.heap.apart j j' u' v' h2 (by rw [← hm.2.1]; exact ho) h4 hne
    · obtain ⟨u, u', h1, h2, hm⟩ := hhp j bk hj
      exact h.own j u' h2 (by rw [← hm.2.1]; exact ho)

/-- A loop that has begun: its body stands next, the loop behind it. -/
def LoopRun (P : Program) (c : Code) (Q : Exit → Act → World → Prop) (a : Act) (w : World) : Prop :=
  ∀ (b : Frame) (k : List Item) (cs : List Frame), ∃ e a' w', Q e a' w' ∧ Arrives P (lone (b.at a (.code c :: .inLoop c :: k)) cs w) b k cs e a' w'

theorem LoopRun.step {P : Program} {c : Code} {Q : Exit → Act → World → Prop} {a : Act} {w : World} (h : c.wp P (Exit.then (LoopRun P c Q) Q) a w) : LoopRun P c Q a w := by
  intro b k cs
  obtain ⟨e, a₁, w₁, hq, harr⟩ := h b (.inLoop c :: k) cs
  cases e with
  | normal =>
    obtain ⟨e₂, a₂, w₂, hq₂, harr₂⟩ := hq b k cs
    exact ⟨e₂, a₂, w₂, hq₂, .of_steps (Steps.trans harr (.one step_inLoop)) harr₂⟩
  | exit id => exact ⟨_, a₁, w₁, hq, .pass (x := .inLoop c) rfl (fun _ _ => .inl (by simp)) harr⟩
  | goto l => exact ⟨_, a₁, w₁, hq, .pass (x := .inLoop c) rfl (fun _ _ => .inl (by simp)) harr⟩
  | ret => exact ⟨_, a₁, w₁, hq, .pass (x := .inLoop c) rfl (fun _ _ => .inl (by simp)) harr⟩
  | panic ch => exact ⟨_, a₁, w₁, hq, .pass (x := .inLoop c) rfl (fun _ _ => .inl (by simp)) harr⟩
  | outgrown => exact ⟨_, a₁, w₁, hq, .pass (x := .inLoop c) rfl (fun _ _ => .inl (by simp)) harr⟩
theorem LoopRun.wp {P : Program} {c : Code} {Q : Exit → Act → World → Prop} {a : Act} {w : World} (h : LoopRun P c Q a w) : (Code.loop c).wp P Q a w := by
  intro b k cs
  obtain ⟨e, a', w', hq, harr⟩ := h b k cs
  exact ⟨e, a', w', hq, .of_steps (.one step_loop) harr⟩
theorem LoopRun.mono {P : Program} {c : Code} {Q Q' : Exit → Act → World → Prop} {a : Act} {w : World} (hq : ∀ e a w, Q e a w → Q' e a w) (h : LoopRun P c Q a w) : LoopRun P c Q' a w :=
  fun b k cs => let ⟨e, a', w', q, r⟩ := h b k cs; ⟨e, a', w', hq _ _ _ q, r⟩

theorem nSt_sat : ∀ (x : X), M.sat F ν x.nSt (fun o => (x.sel ν).1.isNormal = true → ∃ s, o = some s ∧ ∀ ρ a w, RR ν W w0 ρ ⟨(x.sel ν).2, []⟩ a w → RR ν W w0 ρ ⟨s, []⟩ a w)
  | .done k s => by
    refine sat_pure fun h => ?_
    simp only [X.sel] at h ⊢
    exact ⟨s, by simp [h], fun ρ a w h => h⟩
  | .br c x y => by
    unfold X.nSt
    refine sat_bind (nSt_sat x) fun ox hx => sat_bind (nSt_sat y) fun oy hy => ?_
    split
    · rename_i a b
      refine sat_bind (mergeSt_sat (W := W) (w0 := w0)) fun s hs => sat_pure fun h => ⟨s, rfl, fun ρ act w hr => ?_⟩
      simp only [X.sel] at h hr
      by_cases hc : c.bool ν = true
      · simp only [hc, if_true] at h hr
        obtain ⟨s', hs', h2⟩ := hx h
        cases hs'
        exact (hs ρ act w).1 hc (h2 ρ act w hr)
      · simp only [hc] at h hr
        obtain ⟨s', hs', h2⟩ := hy h
        cases hs'
        exact (hs ρ act w).2 (by simpa using hc) (h2 ρ act w hr)
    · rename_i a
      refine sat_pure fun h => ?_
      simp only [X.sel] at h ⊢
      by_cases hc : c.bool ν = true
      · simp only [hc, if_true] at h ⊢
        exact hx h
      · simp only [hc] at h ⊢
        obtain ⟨s', hs', _⟩ := hy h
        cases hs'
    · rename_i b
      refine sat_pure fun h => ?_
      simp only [X.sel] at h ⊢
      by_cases hc : c.bool ν = true
      · simp only [hc, if_true] at h ⊢
        obtain ⟨s', hs', _⟩ := hx h
        cases hs'
      · simp only [hc] at h ⊢
        exact hy h
    · refine sat_pure fun h => ?_
      simp only [X.sel] at h
      by_cases hc : c.bool ν = true
      · simp only [hc, if_true] at h
        obtain ⟨s', hs', _⟩ := hx h
        cases hs'
      · simp only [hc] at h
        obtain ⟨s', hs', _⟩ := hy h
        cases hs'

theorem kill_spec : ∀ (x : X), (x.sel ν).1.isNormal = false → ∃ z, x.kill = some z ∧ z.sel ν = x.sel ν
  | .done k s, h => by
    simp only [X.sel] at h
    exact ⟨.done k s, by simp [X.kill, h], rfl⟩
  | .br c x y, h => by
    simp only [X.sel] at h
    by_cases hc : c.bool ν = true
    · simp only [hc, if_true] at h
      obtain ⟨z, h1, h2⟩ := kill_spec x h
      cases hy : y.kill with
      | none => exact ⟨z, by simp [X.kill, h1, hy], by simp [X.sel, hc, h2]⟩
      | some z' => exact ⟨.br c z z', by simp [X.kill, h1, hy], by simp [X.sel, hc, h2]⟩
    · simp only [hc] at h
      obtain ⟨z, h1, h2⟩ := kill_spec y h
      cases hx : x.kill with
      | none => exact ⟨z, by simp [X.kill, h1, hx], by simp [X.sel, hc, h2]⟩
      | some z' => exact ⟨.br c z' z, by simp [X.kill, h1, hx], by simp [X.sel, hc, h2]⟩

theorem K.is_normal {k : K} {e : Exit} (h : k.is e) (hn : k.isNormal = true) : e = .normal := by
  cases k <;> cases e <;> simp [K.is, K.isNormal] at h hn ⊢
theorem K.is_not {k : K} {e : Exit} (h : k.is e) (hn : k.isNormal = false) : e ≠ .normal := by
  cases k <;> cases e <;> simp [K.is, K.isNormal] at h hn ⊢

/-- What a code does behind which another one goes on. -/
theorem andThen_sat {x : X} {f : St → M X} {_G : X → Prop} {N : (Exit → Act → World → Prop) → Act → World → Prop}
    (hf : ∀ s, M.sat F ν (f s) (fun y => ∀ ρ a w, RR ν W w0 ρ ⟨s, []⟩ a w → N (XPost ν W w0 y) a w))
    (hN : ∀ (Q Q' : Exit → Act → World → Prop) a w, (∀ e a w, Q e a w → Q' e a w) → N Q a w → N Q' a w) :
    M.sat F ν (x.andThen f) (fun z => ∀ e a w, XPost ν W w0 x e a w → Exit.then (N (XPost ν W w0 z)) (XPost ν W w0 z) e a w) := by
  unfold X.andThen
  refine sat_bind (nCond_sat x) fun c hc => sat_bind (nSt_sat (W := W) (w0 := w0) x) fun o ho => ?_
  split
  · refine sat_pure fun e a w hp => ?_
    obtain ⟨hk, ρ, hr⟩ := hp
    cases hn : (x.sel ν).1.isNormal with
    | true => obtain ⟨s, hs, _⟩ := ho hn; cases hs
    | false =>
      have := K.is_not hk hn
      cases e <;> first | exact absurd rfl this | exact ⟨hk, ρ, hr⟩
  · rename_i s
    have hnorm : ∀ e a w, XPost ν W w0 x e a w → (x.sel ν).1.isNormal = true → e = .normal ∧ ∃ ρ, RR ν W w0 ρ ⟨s, []⟩ a w := fun e a w hp hn => by
      obtain ⟨hk, ρ, hr⟩ := hp
      obtain ⟨s', hs', h2⟩ := ho hn
      cases hs'
      exact ⟨K.is_normal hk hn, ρ, h2 ρ a w hr⟩
    split
    · rename_i hkill
      refine sat_mono (hf s) fun y hy e a w hp => ?_
      have hn : (x.sel ν).1.isNormal = true := by
        cases hn : (x.sel ν).1.isNormal with
        | true => rfl
        | false => obtain ⟨z, hz, _⟩ := kill_spec x hn; rw [hkill] at hz; cases hz
      obtain ⟨rfl, ρ, hr⟩ := hnorm e a w hp hn
      exact hy ρ a w hr
    · rename_i z hz
      split
      · refine sat_mono (hf s) fun y hy e a w hp => ?_
        have hn : (x.sel ν).1.isNormal = true := by rw [← hc]
        obtain ⟨rfl, ρ, hr⟩ := hnorm e a w hp hn
        exact hy ρ a w hr
      · refine sat_bind (sat_under (hf s)) fun y hy => sat_pure fun e a w hp => ?_
        cases hn : (x.sel ν).1.isNormal with
        | true =>
          obtain ⟨rfl, ρ, hr⟩ := hnorm e a w hp hn
          have hct : c.bool ν = true := by rw [hc, hn]
          refine hN (XPost ν W w0 y) _ a w (fun e a w h => ?_) (hy hct ρ a w hr)
          unfold XPost at h ⊢
          simp only [X.sel, hct, if_true]
          exact h
        | false =>
          obtain ⟨hk, ρ, hr⟩ := hp
          have hne := K.is_not hk hn
          have hcf : c.bool ν = false := by rw [hc, hn]
          obtain ⟨z', hz', hsel⟩ := kill_spec x hn
          rw [hz] at hz'
          cases hz'
          have hpost : XPost ν W w0 (.br c y z) e a w := by
            unfold XPost
            simp only [X.sel, hcf, Bool.false_eq_true, if_false, hsel]
            exact ⟨hk, ρ, hr⟩
          cases e <;> first | exact absurd rfl hne | exact hpost

theorem inBlock_sel (id : Nat) : ∀ (x : X), (x.inBlock id).sel ν = ((x.sel ν).1.inBlock id, (x.sel ν).2)
  | .done k s => rfl
  | .br c x y => by
    simp only [X.inBlock, X.sel, inBlock_sel id x, inBlock_sel id y]
    split <;> rfl

theorem noGoto_sel : ∀ (x : X), x.noGoto = true → ∀ l, (x.sel ν).1 ≠ .goto l
  | .done k s, h, l => by
    simp only [X.sel]
    intro e
    subst e
    simp [X.noGoto] at h
  | .br c x y, h, l => by
    simp only [X.noGoto, Bool.and_eq_true] at h
    simp only [X.sel]
    split
    · exact noGoto_sel x h.1 l
    · exact noGoto_sel y h.2 l

end
end Go.Sx
