/- Code and whole functions: the evaluator agrees with the model. -/
import Derived.Test.YtacciadcmiiimaaSyMixB
namespace Go.Sx
open Go.RowKit
section
variable {P : Program} {I : World → Prop} {S : Sigs} {F : FEnv} {E : Env} {gK : Nat} {ν : Nat → DV}

theorem evOpers_list (hS : SigsOK P I gK S F) (hE : E.Ok gK) (hn0 : S.n0 = E.n0) (hI : ∀ w, Fr E.W E.w0 w → I w) {ops : Array Oper} : ∀ (l : List Oper) (r : RS), M.sat F ν (evOpers P S false ops.toList l r) (fun r' => ∀ ρ a w, RR ν E ρ r a w →
    ∀ Q : Exit → Act → World → Prop, (∀ ρ' a' w', RR ν E ρ' r' a' w' → Q .normal a' w') → wpList P ops Q l a w)
  | [], r => sat_pure fun ρ a w h Q hQ => hQ ρ a w h
  | o :: l, r => by
    unfold evOpers
    refine sat_bind (evOper_sat (E := E) hS hE hn0 hI false) fun r1 h1 => sat_mono (evOpers_list hS hE hn0 hI l r1) fun r' h2 ρ a w hrr Q hQ => ?_
    have := h1.1 rfl ρ a w hrr (wpList P ops Q l) Q (fun ρ' a' w' h' => h2 ρ' a' w' h' Q hQ)
    simp only [wpList]
    split
    · rename_i hw; rw [if_pos hw] at this; exact .inl this
    · rename_i hw; rw [if_neg hw] at this; exact this

theorem evOpers_quiet (hS : SigsOK P I gK S F) (hE : E.Ok gK) (hn0 : S.n0 = E.n0) (hI : ∀ w, Fr E.W E.w0 w → I w) {ops : Array Oper} : ∀ (l : List Oper) (r : RS), M.sat F ν (evOpers P S true ops.toList l r) (fun r' => r'.st.hp = r.st.hp ∧
    ∀ ρ a, ARel ν ρ r a → (∃ w, HS E ν ρ r.st.hp w) → ∀ C : World → Prop, C = (fun w => HS E ν ρ r.st.hp w) →
    ∀ Q : Act → Prop, (∀ a', ARel ν ρ r' a' → Q a') → wpQuiet P ops C Q l a)
  | [], r => sat_pure ⟨rfl, fun ρ a h _ C _ Q hQ => hQ a h⟩
  | o :: l, r => by
    unfold evOpers
    refine sat_bind (evOper_sat (E := E) hS hE hn0 hI true) fun r1 h1 => sat_mono (evOpers_quiet hS hE hn0 hI l r1) fun r' h2 => ?_
    have h1 := h1.2 rfl
    refine ⟨h2.1.trans h1.1, fun ρ a ha hex C hC Q hQ => ?_⟩
    have := h1.2 ρ a ha hex C hC
    simp only [wpQuiet]
    split
    · rename_i hw
      rw [if_pos hw] at this
      obtain ⟨v, h3, h4⟩ := this
      exact ⟨v, h3, h2.2 ρ _ h4 (by rw [h1.1]; exact hex) C (by rw [h1.1]; exact hC) Q hQ⟩
    · rename_i hw
      rw [if_neg hw] at this
      exact h2.2 ρ _ this (by rw [h1.1]; exact hex) C (by rw [h1.1]; exact hC) Q hQ

theorem RR.drop {ρ : Nat → Loc} {r : RS} {a : Act} {w : World} (h : RR ν E ρ r a w) : RR ν E ρ ⟨r.st, []⟩ a w :=
  ⟨⟨h.act.defers, h.act.size, h.act.slot, fun e he => by cases he⟩, h.hs⟩

theorem HS.drawn {ρ : Nat → Loc} {hp : List (Option Blk)} {w : World} (h : HS E ν ρ hp w) : HS E ν ρ hp { w with drawn := w.drawn + 1 } :=
  h.of_below ⟨rfl, rfl, rfl, Nat.le_refl _, fun _ _ => rfl⟩

theorem backB_ok {ops : List Oper} (h : backB ops = true) : BackOk .any ops.toArray := backB_ok' h

theorem tailB_ok {ops : List Oper} {n : Nat} (h : tailB ops n = true) : ∀ i, n ≤ i → ∀ o, ops[i]? = some o → ∀ j, j < i → ∃ e ∈ o.after, Region.binds .any e = true ∧ e.on = j := by
  intro i hi o ho j hj
  have hm : (o, i) ∈ ops.zipIdx.drop n := by
    rw [List.mem_iff_getElem?]
    refine ⟨i - n, ?_⟩
    rw [List.getElem?_drop, show n + (i - n) = i from by omega, List.getElem?_zipIdx, ho]
    simp
  have := List.all_eq_true.1 h _ hm
  have := List.all_eq_true.1 this j (List.mem_range.2 hj)
  obtain ⟨e, he, h2⟩ := Array.any_eq_true'.1 this
  simp only [Bool.and_eq_true] at h2
  exact ⟨e, he, h2.1, Nat.eq_of_beq_eq_true h2.2⟩

theorem evRegion_sat (hS : SigsOK P I gK S F) (hE : E.Ok gK) (hn0 : S.n0 = E.n0) (hI : ∀ w, Fr E.W E.w0 w → I w) {ops : Array Oper} {draw : Bool} {s : St} {id : Nat} : M.sat F ν (evRegion P S ops draw s) (fun s' => ∀ ρ a w, RR ν E ρ ⟨s, []⟩ a w →
    ∀ Q : Exit → Act → World → Prop, (∀ ρ' a' w', RR ν E ρ' ⟨s', []⟩ a' w' → Q .normal a' w') → (Code.region id ops draw).wp P Q a w) := by
  unfold evRegion
  cases draw
  · simp only [Bool.false_eq_true, if_false]
    refine sat_bind (evOpers_list (E := E) hS hE hn0 hI ops.toList ⟨s, []⟩) fun r hr => sat_pure fun ρ a w hrr Q hQ => ?_
    exact wp_region_list (hr ρ a w hrr Q fun ρ' a' w' h' => hQ ρ' a' w' h'.drop)
  · simp only [if_true]
    generalize hn : (ops.toList.takeWhile fun o => quietOp o.op).length = n
    refine sat_ite (fun hc => ?_) (fun _ => sat_ite (fun hmx => ?_) (fun _ => sat_fail))
    rotate_left
    · simp only [Bool.and_eq_true] at hmx
      obtain ⟨⟨⟨hmx, hm⟩, hB⟩, hback⟩ := hmx
      refine sat_mono (evMixed_sat (E := E) hS hE hI hmx hB hback) fun s' hs' ρ a w hrr Q hQ => ?_
      exact wp_region_any hm (hs' ρ a _ ⟨hrr.act, hrr.hs.drawn⟩ Q hQ)
    simp only [Bool.and_eq_true] at hc
    obtain ⟨hB, htail⟩ := hc
    refine sat_ite (fun hc => ?_) (fun _ => sat_fail)
    simp only [Bool.and_eq_true] at hc
    obtain ⟨hm, hback⟩ := hc
    have hq := evOpers_quiet (E := E) (ν := ν) hS hE hn0 hI (ops := (ops.toList.take n).toArray) (ops.toList.take n) ⟨s, []⟩
    simp only at hq
    refine sat_bind hq fun r hr => ?_
    refine sat_bind (evOpers_list (E := E) hS hE hn0 hI (ops.toList.drop n) r) fun r2 hr2 => sat_pure fun ρ a w hrr Q hQ => ?_
    refine wp_region_any hm ?_
    have hbk : BackOk .any ops := by have := backB_ok hback; simpa using this
    refine wpAny_tails hbk (ops.toList.drop n) (ops.toList.take n).toArray (by simp) (fun i hi o ho j hj => ?_) a _ ?_
    · have hlen : (ops.toList.take n).toArray.size = n := by
        have : n ≤ ops.toList.length := by
          rw [← hn]
          exact (List.takeWhile_prefix _).length_le
        simp at this ⊢
        omega
      exact tailB_ok htail i (by omega) o (by simpa using ho) j hj
    · have hhp : r.st.hp = s.hp := hr.1
      simp only [Region.lexB, Bool.and_eq_true] at hB
      refine wpAny_of_quiet (C := fun w => HS E ν ρ s.hp w) (Q := fun a' => ∀ w', (HS E ν ρ s.hp w') → wpList P ops Q (ops.toList.drop n) a' w') (fun _ w' hw' h => h w' hw') _ _ _ _ hrr.hs.drawn ?_
      have hqq := hr.2 ρ a hrr.act ⟨w, hrr.hs⟩ _ rfl (fun a' => ∀ w', (HS E ν ρ s.hp w') → wpList P ops Q (ops.toList.drop n) a' w') (fun a' ha' w' hw' =>
        hr2 ρ a' w' ⟨ha', by rw [hhp]; exact hw'⟩ Q fun ρ' a'' w'' h' => hQ ρ' a'' w'' h'.drop)
      have := wpAnyQ_lex (P := P) (C := fun w => HS E ν ρ s.hp w) (md := .any) hB.1 (ops.toList.take n) 0 (Array.replicate (ops.toList.take n).toArray.size false) a (by simp) (by simpa using hB.2) hqq
      simpa using this

/-! ### Ways out -/
def K.is : K → Exit → Prop
  | .normal, .normal => True
  | .ret, .ret => True
  | .exit i, .exit j => i = j
  | .goto i, .goto j => i = j
  | _, _ => False

def X.sel (ν : Nat → DV) : X → K × St
  | .done k s => (k, s)
  | .br c x y => if c.bool ν then x.sel ν else y.sel ν

def XPost (ν : Nat → DV) (E : Env) (x : X) : Exit → Act → World → Prop := fun e a w => (x.sel ν).1.is e ∧ ∃ ρ, RR ν E ρ ⟨(x.sel ν).2, []⟩ a w

theorem nCond_sat : ∀ (x : X), M.sat F ν x.nCond (fun c => c.bool ν = (x.sel ν).1.isNormal)
  | .done k s => sat_pure rfl
  | .br c x y => by
    unfold X.nCond
    refine sat_bind (nCond_sat x) fun a ha => sat_bind (nCond_sat y) fun b hb => sat_mono mkIteB_sat fun r hr => ?_
    rw [hr, ha, hb]
    simp only [X.sel]
    cases c.bool ν <;> simp

theorem mergeSt_sat {c : A} {x y : St} : M.sat F ν (mergeSt E.n0 c x y) (fun s => ∀ ρ a w, (c.bool ν = true → RR ν E ρ ⟨x, []⟩ a w → ∃ ρ', RR ν E ρ' ⟨s, []⟩ a w) ∧
    (c.bool ν = false → RR ν E ρ ⟨y, []⟩ a w → ∃ ρ', RR ν E ρ' ⟨s, []⟩ a w)) :=
  sat_mono (mergeSt_sat2 (Nat.le_refl _)) fun _ h ρ a w => ⟨fun hc hr => let ⟨ρ', _, h2⟩ := (h ρ a w).1 hc hr; ⟨ρ', h2⟩, fun hc hr => let ⟨ρ', _, h2⟩ := (h ρ a w).2 hc hr; ⟨ρ', h2⟩⟩

/-- A loop that has begun: its body stands next, the loop behind it. -/
def LoopRun (P : Program) (c : Code) (Q : Exit → Act → World → Prop) (a : Act) (w : World) : Prop :=
  ∀ (b : Frame) (k : List Item) (cs : List Frame), ∃ e a' w', Q e a' w' ∧ Arrives P (lone (b.at a (.code c :: .inLoop c :: k)) cs w) b k cs e a' w'

theorem LoopRun.step {P : Program} {c : Code} {Q : Exit → Act → World → Prop} {a : Act} {w : World} (h : c.wp P (Exit.then (LoopRun P c Q) Q) a w) : LoopRun P c Q a w := by
  intro b k cs
  obtain ⟨e, a₁, w₁, hq, harr⟩ := h b (.inLoop c :: k) cs
  cases e with
  | normal =>
    obtain ⟨e₂, a₂, w₂, hq₂, harr₂⟩ := hq b k cs
    exact ⟨e₂, a₂, w₂, hq₂, .of_steps (Steps.trans harr (.one step_inLoop)) harr₂⟩
  | exit id => exact ⟨_, a₁, w₁, hq, .pass (x := .inLoop c) rfl (fun _ _ => .inl (by simp)) harr⟩
  | goto l => exact ⟨_, a₁, w₁, hq, .pass (x := .inLoop c) rfl (fun _ _ => .inl (by simp)) harr⟩
  | ret => exact ⟨_, a₁, w₁, hq, .pass (x := .inLoop c) rfl (fun _ _ => .inl (by simp)) harr⟩
  | panic ch => exact ⟨_, a₁, w₁, hq, .pass (x := .inLoop c) rfl (fun _ _ => .inl (by simp)) harr⟩
  | outgrown => exact ⟨_, a₁, w₁, hq, .pass (x := .inLoop c) rfl (fun _ _ => .inl (by simp)) harr⟩
theorem LoopRun.wp {P : Program} {c : Code} {Q : Exit → Act → World → Prop} {a : Act} {w : World} (h : LoopRun P c Q a w) : (Code.loop c).wp P Q a w := by
  intro b k cs
  obtain ⟨e, a', w', hq, harr⟩ := h b k cs
  exact ⟨e, a', w', hq, .of_steps (.one step_loop) harr⟩
theorem LoopRun.mono {P : Program} {c : Code} {Q Q' : Exit → Act → World → Prop} {a : Act} {w : World} (hq : ∀ e a w, Q e a w → Q' e a w) (h : LoopRun P c Q a w) : LoopRun P c Q' a w :=
  fun b k cs => let ⟨e, a', w', q, r⟩ := h b k cs; ⟨e, a', w', hq _ _ _ q, r⟩

theorem nSt_sat : ∀ (x : X), M.sat F ν (x.nSt E.n0) (fun o => (x.sel ν).1.isNormal = true → ∃ s, o = some s ∧ ∀ ρ a w, RR ν E ρ ⟨(x.sel ν).2, []⟩ a w → ∃ ρ', RR ν E ρ' ⟨s, []⟩ a w)
  | .done k s => by
    refine sat_pure fun h => ?_
    simp only [X.sel] at h ⊢
    exact ⟨s, by simp [h], fun ρ a w h => ⟨ρ, h⟩⟩
  | .br c x y => by
    unfold X.nSt
    refine sat_bind (nSt_sat x) fun ox hx => sat_bind (nSt_sat y) fun oy hy => ?_
    split
    · rename_i a b
      refine sat_bind (mergeSt_sat (E := E)) fun s hs => sat_pure fun h => ⟨s, rfl, fun ρ act w hr => ?_⟩
      simp only [X.sel] at h hr
      by_cases hc : c.bool ν = true
      · simp only [hc, if_true] at h hr
        obtain ⟨s', hs', h2⟩ := hx h
        cases hs'
        obtain ⟨ρ', h3⟩ := h2 ρ act w hr
        exact (hs ρ' act w).1 hc h3
      · simp only [hc] at h hr
        obtain ⟨s', hs', h2⟩ := hy h
        cases hs'
        obtain ⟨ρ', h3⟩ := h2 ρ act w hr
        exact (hs ρ' act w).2 (by simpa using hc) h3
    · rename_i a
      refine sat_pure fun h => ?_
      simp only [X.sel] at h ⊢
      by_cases hc : c.bool ν = true
      · simp only [hc, if_true] at h ⊢
        exact hx h
      · simp only [hc] at h ⊢
        obtain ⟨s', hs', _⟩ := hy h
        cases hs'
    · rename_i b
      refine sat_pure fun h => ?_
      simp only [X.sel] at h ⊢
      by_cases hc : c.bool ν = true
      · simp only [hc, if_true] at h ⊢
        obtain ⟨s', hs', _⟩ := hx h
        cases hs'
      · simp only [hc] at h ⊢
        exact hy h
    · refine sat_pure fun h => ?_
      simp only [X.sel] at h
      by_cases hc : c.bool ν = true
      · simp only [hc, if_true] at h
        obtain ⟨s', hs', _⟩ := hx h
        cases hs'
      · simp only [hc] at h
        obtain ⟨s', hs', _⟩ := hy h
        cases hs'

theorem kill_spec : ∀ (x : X), (x.sel ν).1.isNormal = false → ∃ z, x.kill = some z ∧ z.sel ν = x.sel ν
  | .done k s, h => by
    simp only [X.sel] at h
    exact ⟨.done k s, by simp [X.kill, h], rfl⟩
  | .br c x y, h => by
    simp only [X.sel] at h
    by_cases hc : c.bool ν = true
    · simp only [hc, if_true] at h
      obtain ⟨z, h1, h2⟩ := kill_spec x h
      cases hy : y.kill with
      | none => exact ⟨z, by simp [X.kill, h1, hy], by simp [X.sel, hc, h2]⟩
      | some z' => exact ⟨.br c z z', by simp [X.kill, h1, hy], by simp [X.sel, hc, h2]⟩
    · simp only [hc] at h
      obtain ⟨z, h1, h2⟩ := kill_spec y h
      cases hx : x.kill with
      | none => exact ⟨z, by simp [X.kill, h1, hx], by simp [X.sel, hc, h2]⟩
      | some z' => exact ⟨.br c z' z, by simp [X.kill, h1, hx], by simp [X.sel, hc, h2]⟩

theorem K.is_normal {k : K} {e : Exit} (h : k.is e) (hn : k.isNormal = true) : e = .normal := by
  cases k <;> cases e <;> simp [K.is, K.isNormal] at h hn ⊢
theorem K.is_not {k : K} {e : Exit} (h : k.is e) (hn : k.isNormal = false) : e ≠ .normal := by
  cases k <;> cases e <;> simp [K.is, K.isNormal] at h hn ⊢

/-- What a code does behind which another one goes on. -/
theorem andThen_sat {x : X} {f : St → M X} {_G : X → Prop} {N : (Exit → Act → World → Prop) → Act → World → Prop}
    (hf : ∀ s, M.sat F ν (f s) (fun y => ∀ ρ a w, RR ν E ρ ⟨s, []⟩ a w → N (XPost ν E y) a w))
    (hN : ∀ (Q Q' : Exit → Act → World → Prop) a w, (∀ e a w, Q e a w → Q' e a w) → N Q a w → N Q' a w) :
    M.sat F ν (x.andThen E.n0 f) (fun z => ∀ e a w, XPost ν E x e a w → Exit.then (N (XPost ν E z)) (XPost ν E z) e a w) := by
  unfold X.andThen
  refine sat_bind (nCond_sat x) fun c hc => sat_bind (nSt_sat (E := E) x) fun o ho => ?_
  split
  · refine sat_pure fun e a w hp => ?_
    obtain ⟨hk, ρ, hr⟩ := hp
    cases hn : (x.sel ν).1.isNormal with
    | true => obtain ⟨s, hs, _⟩ := ho hn; cases hs
    | false =>
      have := K.is_not hk hn
      cases e <;> first | exact absurd rfl this | exact ⟨hk, ρ, hr⟩
  · rename_i s
    have hnorm : ∀ e a w, XPost ν E x e a w → (x.sel ν).1.isNormal = true → e = .normal ∧ ∃ ρ, RR ν E ρ ⟨s, []⟩ a w := fun e a w hp hn => by
      obtain ⟨hk, ρ, hr⟩ := hp
      obtain ⟨s', hs', h2⟩ := ho hn
      cases hs'
      exact ⟨K.is_normal hk hn, h2 ρ a w hr⟩
    split
    · rename_i hkill
      refine sat_mono (hf s) fun y hy e a w hp => ?_
      have hn : (x.sel ν).1.isNormal = true := by
        cases hn : (x.sel ν).1.isNormal with
        | true => rfl
        | false => obtain ⟨z, hz, _⟩ := kill_spec x hn; rw [hkill] at hz; cases hz
      obtain ⟨rfl, ρ, hr⟩ := hnorm e a w hp hn
      exact hy ρ a w hr
    · rename_i z hz
      split
      · refine sat_mono (hf s) fun y hy e a w hp => ?_
        have hn : (x.sel ν).1.isNormal = true := by rw [← hc]
        obtain ⟨rfl, ρ, hr⟩ := hnorm e a w hp hn
        exact hy ρ a w hr
      · refine sat_bind (sat_under (hf s)) fun y hy => sat_pure fun e a w hp => ?_
        cases hn : (x.sel ν).1.isNormal with
        | true =>
          obtain ⟨rfl, ρ, hr⟩ := hnorm e a w hp hn
          have hct : c.bool ν = true := by rw [hc, hn]
          refine hN (XPost ν E y) _ a w (fun e a w h => ?_) (hy hct ρ a w hr)
          unfold XPost at h ⊢
          simp only [X.sel, hct, if_true]
          exact h
        | false =>
          obtain ⟨hk, ρ, hr⟩ := hp
          have hne := K.is_not hk hn
          have hcf : c.bool ν = false := by rw [hc, hn]
          obtain ⟨z', hz', hsel⟩ := kill_spec x hn
          rw [hz] at hz'
          cases hz'
          have hpost : XPost ν E (.br c y z) e a w := by
            unfold XPost
            simp only [X.sel, hcf, Bool.false_eq_true, if_false, hsel]
            exact ⟨hk, ρ, hr⟩
          cases e <;> first | exact absurd rfl hne | exact hpost

theorem inBlock_sel (id : Nat) : ∀ (x : X), (x.inBlock id).sel ν = ((x.sel ν).1.inBlock id, (x.sel ν).2)
  | .done k s => rfl
  | .br c x y => by
    simp only [X.inBlock, X.sel, inBlock_sel id x, inBlock_sel id y]
    split <;> rfl

theorem noGoto_sel : ∀ (x : X), x.noGoto = true → ∀ l, (x.sel ν).1 ≠ .goto l
  | .done k s, h, l => by
    simp only [X.sel]
    intro e
    subst e
    simp [X.noGoto] at h
  | .br c x y, h, l => by
    simp only [X.noGoto, Bool.and_eq_true] at h
    simp only [X.sel]
    split
    · exact noGoto_sel x h.1 l
    · exact noGoto_sel y h.2 l

end
end Go.Sx
