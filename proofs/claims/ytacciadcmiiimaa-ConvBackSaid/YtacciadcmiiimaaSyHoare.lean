/- The evaluator's steps, by what they guarantee (a small Hoare logic), and its arithmetic. -/
import Derived.Test.YtacciadcmiiimaaSyEval
namespace Go.Sx

/-- Where x goes through, all that it laid is met, and all that it owes holds: Q. -/
def M.sat {α : Type} (F : FEnv) (ν : Nat → DV) (x : M α) (Q : α → Prop) : Prop :=
  ∀ n a n' e d, x n = some (a, n', e, d) → Sat F ν e → (∀ q ∈ d, Ob.holds F ν q) → Q a

section
variable {α β : Type} {F : FEnv} {ν : Nat → DV}

theorem sat_pure {a : α} {Q : α → Prop} (h : Q a) : M.sat F ν (pure a : M α) Q := by
  intro n b n' e d hx _ _
  change some (a, n, [], []) = some (b, n', e, d) at hx
  simp only [Option.some.injEq, Prod.mk.injEq] at hx
  exact hx.1 ▸ h

theorem sat_bind {x : M α} {f : α → M β} {R : α → Prop} {Q : β → Prop} (hx : M.sat F ν x R) (hf : ∀ a, R a → M.sat F ν (f a) Q) :
    M.sat F ν (x >>= f) Q := by
  intro n b n' e d h hs hd
  change M.bind x f n = _ at h
  unfold M.bind at h
  cases h1 : x n with
  | none => simp [h1] at h
  | some r =>
    obtain ⟨a, n1, e1, d1⟩ := r
    simp only [h1] at h
    cases h2 : f a n1 with
    | none => simp [h2] at h
    | some r2 =>
      obtain ⟨b2, n2, e2, d2⟩ := r2
      simp only [h2, Option.some.injEq, Prod.mk.injEq] at h
      obtain ⟨rfl, rfl, rfl, rfl⟩ := h
      exact hf a (hx n a n1 e1 d1 h1 (fun p hp => hs p (List.mem_append_left _ hp)) (fun q hq => hd q (List.mem_append_left _ hq)))
        n1 b2 n2 e2 d2 h2 (fun p hp => hs p (List.mem_append_right _ hp)) (fun q hq => hd q (List.mem_append_right _ hq))

theorem sat_mono {x : M α} {R Q : α → Prop} (hx : M.sat F ν x R) (h : ∀ a, R a → Q a) : M.sat F ν x Q :=
  fun n a n' e d h1 h2 h3 => h a (hx n a n' e d h1 h2 h3)

theorem sat_and {x : M α} {R Q : α → Prop} (hx : M.sat F ν x R) (hy : M.sat F ν x Q) : M.sat F ν x (fun a => R a ∧ Q a) :=
  fun n a n' e d h1 h2 h3 => ⟨hx n a n' e d h1 h2 h3, hy n a n' e d h1 h2 h3⟩

theorem sat_pull {ι κ : Type} [Inhabited ι] [Inhabited κ] {x : M α} {G : α → Prop} {Q : ι → κ → α → Prop} (h : ∀ i k, M.sat F ν x (fun a => G a ∧ Q i k a)) :
    M.sat F ν x (fun a => G a ∧ ∀ i k, Q i k a) :=
  fun n a n' e d h1 h2 h3 => ⟨(h default default n a n' e d h1 h2 h3).1, fun i k => (h i k n a n' e d h1 h2 h3).2⟩
theorem sat_pull2 {ι : Type} {x : M α} {Q : ι → α → Prop} (h : ∀ i, M.sat F ν x (fun a => Q i a)) : M.sat F ν x (fun a => ∀ i, Q i a) :=
  fun n a n' e d h1 h2 h3 i => h i n a n' e d h1 h2 h3
theorem sat_true {x : M α} : M.sat F ν x (fun _ => True) := fun _ _ _ _ _ _ _ _ => trivial

theorem sat_fail {Q : α → Prop} : M.sat F ν (M.fail : M α) Q := by
  intro n a n' e d h
  change none = _ at h
  cases h

theorem sat_lift {o : Option α} {Q : α → Prop} (h : ∀ a, o = some a → Q a) : M.sat F ν (M.lift o) Q := by
  intro n a n' e d hx _ _
  unfold M.lift at hx
  cases o with
  | none => cases hx
  | some b =>
    simp only [Option.some.injEq, Prod.mk.injEq] at hx
    exact hx.1 ▸ h b rfl

theorem sat_emit {x : Node} {Q : A → Prop} (h : ∀ a : A, a.den ν = denNode F ν x → Q a) : M.sat F ν (emit x) Q := by
  intro n a n' e d hx hs _
  unfold emit at hx
  simp only [Option.some.injEq, Prod.mk.injEq] at hx
  obtain ⟨rfl, rfl, rfl, rfl⟩ := hx
  exact h (.r n) (hs (n, x) (by simp))

theorem sat_owe {a : A} {Q : Unit → Prop} (h : a.bool ν = true → Q ()) : M.sat F ν (owe a) Q := by
  intro n u n' e d hx _ hd
  unfold owe at hx
  simp only [Option.some.injEq, Prod.mk.injEq] at hx
  obtain ⟨_, rfl, rfl, rfl⟩ := hx
  exact h (hd (.nd ⟨[], a⟩) (by simp) (by simp))

theorem sat_under {c : A} {b : Bool} {x : M α} {Q : α → Prop} (h : M.sat F ν x Q) : M.sat F ν (under c b x) (fun a => c.bool ν = b → Q a) := by
  intro n a n' e d hx hs hd hc
  unfold under at hx
  cases h1 : x n with
  | none => simp [h1] at hx
  | some r =>
    obtain ⟨a1, n1, e1, d1⟩ := r
    simp only [h1, Option.some.injEq, Prod.mk.injEq] at hx
    obtain ⟨rfl, rfl, rfl, rfl⟩ := hx
    refine h n a1 n1 e1 d1 h1 hs (fun q hq => ?_)
    have := hd (q.under c b) (List.mem_map.2 ⟨q, hq, rfl⟩)
    cases q with
    | lp l => exact this
    | nd q =>
      intro hp
      exact this (by
        intro p hp'
        rcases List.mem_cons.1 hp' with rfl | h'
        · exact hc
        · exact hp p h')

theorem sat_underAll {cs : List (A × Bool)} {x : M α} {Q : α → Prop} (h : M.sat F ν x Q) :
    M.sat F ν (underAll cs x) (fun a => (∀ c ∈ cs, c.1.bool ν = c.2) → Q a) := by
  induction cs with
  | nil => exact sat_mono h (fun a ha _ => ha)
  | cons p r ih =>
    obtain ⟨c, b⟩ := p
    refine sat_mono (sat_under (c := c) (b := b) ih) ?_
    intro a ha hall
    exact ha (hall (c, b) (by simp)) (fun q hq => hall q (List.mem_cons_of_mem _ hq))

theorem sat_ite {c : Prop} [Decidable c] {x y : M α} {Q : α → Prop} (hx : c → M.sat F ν x Q) (hy : ¬ c → M.sat F ν y Q) : M.sat F ν (if c then x else y) Q := by
  split
  · exact hx ‹_›
  · exact hy ‹_›

theorem sat_bif {c : Bool} {x y : M α} {Q : α → Prop} (hx : c = true → M.sat F ν x Q) (hy : c = false → M.sat F ν y Q) : M.sat F ν (bif c then x else y) Q := by
  cases c
  · exact hy rfl
  · exact hx rfl
end

/-! ### Places that lie in their rows -/
def Off.good (ν : Nat → DV) : Off → Prop
  | .c _ => True
  | .s _ ix _ len => 0 ≤ ix.int ν ∧ ix.int ν < len
  | .d _ ix _ len ix2 _ len2 => (0 ≤ ix.int ν ∧ ix.int ν < len) ∧ 0 ≤ ix2.int ν ∧ ix2.int ν < len2
  | .v _ ix sz a => 0 ≤ ix.int ν ∧ ((ix.int ν).toNat + 1) * sz ≤ (a.cells ν).length
def Lf.good (ν : Nat → DV) : Lf → Prop
  | .p _ off => off.good ν
  | .gp _ off => off.good ν
  | _ => True
def V1.good (ν : Nat → DV) (v : V1) : Prop := ∀ l ∈ v.cells, Lf.good ν l
def V.good (ν : Nat → DV) : V → Prop
  | .s v => v.good ν
  | .t l => ∀ v ∈ l, V1.good ν v
@[simp] theorem V1.good_one {ν : Nat → DV} {l : Lf} : (V1.one l).good ν ↔ l.good ν := by simp [V1.good, V1.cells]
@[simp] theorem V1.good_agg {ν : Nat → DV} {l : List Lf} : (V1.agg l).good ν ↔ ∀ x ∈ l, x.good ν := by simp [V1.good, V1.cells]
@[simp] theorem V.good_s {ν : Nat → DV} {v : V1} : (V.s v).good ν ↔ v.good ν := Iff.rfl
@[simp] theorem Lf.good_i {ν : Nat → DV} {k : IntKind} {a : A} : (Lf.i k a).good ν := trivial
@[simp] theorem Lf.good_b {ν : Nat → DV} {a : A} : (Lf.b a).good ν := trivial

/-! ### Small tests -/
theorem kEq_eq {a b : IntKind} (h : kEq a b = true) : a = b := by
  cases a <;> cases b <;> simp [kEq] at h <;> rfl

theorem natsEq_eq : ∀ {a b : List Nat}, natsEq a b = true → a = b
  | [], [], _ => rfl
  | x :: l, y :: l', h => by
    simp only [natsEq, Bool.and_eq_true] at h
    rw [Nat.eq_of_beq_eq_true h.1, natsEq_eq h.2]
  | [], _ :: _, h => by simp [natsEq] at h
  | _ :: _, [], h => by simp [natsEq] at h
theorem capsConc_map (ρ : Nat → Loc) (f : Nat → Nat) (bs : List Nat) : capsConc (fun j => ρ (f j)) bs = capsConc ρ (bs.map f) := by simp [capsConc, Function.comp_def]
theorem capsConc_congr {ρ ρ' : Nat → Loc} {bs : List Nat} (h : ∀ b ∈ bs, ρ' b = ρ b) : capsConc ρ' bs = capsConc ρ bs := by
  unfold capsConc
  congr 1
  exact List.map_congr_left fun b hb => by rw [h b hb]
theorem capsConc_lt {ρ ρ' : Nat → Loc} {bs : List Nat} {n : Nat} (hb : (bs.all fun b => decide (b < n)) = true) (h : ∀ k, k < n → ρ' k = ρ k) : capsConc ρ' bs = capsConc ρ bs :=
  capsConc_congr fun b hm => h b (by simpa using List.all_eq_true.1 hb b hm)
theorem A.beq_den {a b : A} (h : a.beq b = true) (ν : Nat → DV) : a.den ν = b.den ν := by
  cases a <;> cases b <;> simp [A.beq] at h
  all_goals (subst h; rfl)

theorem beqB_eq {a b : Bool} (h : beqB a b = true) : a = b := by
  cases a <;> cases b <;> simp [beqB] at h <;> rfl
theorem beqB_ne {a b : Bool} (h : ¬ beqB a b = true) : a ≠ b := by
  cases a <;> cases b <;> simp [beqB] at h ⊢

section
variable {F : FEnv} {ν : Nat → DV}
@[simp] theorem A.int_z (n : Int) : (A.z n).int ν = n := rfl
@[simp] theorem A.bool_t (b : Bool) : (A.t b).bool ν = b := rfl
theorem A.int_of_den {a : A} {n : Int} (h : a.den ν = .i n) : a.int ν = n := by simp [A.int, h, DV.toI]
theorem A.bool_of_den {a : A} {n : Bool} (h : a.den ν = .b n) : a.bool ν = n := by simp [A.bool, h, DV.toB]

theorem A.cells_of_den {a : A} {n : List DV} (h : a.den ν = .l n) : a.cells ν = n := by simp [A.cells, h, DV.toL]

theorem mkNot_sat {a : A} : M.sat F ν (mkNot a) (fun r => r.bool ν = !a.bool ν) := by
  unfold mkNot
  split
  · exact sat_pure rfl
  · exact sat_emit fun r h => A.bool_of_den h

theorem mkAnd_sat {a b : A} : M.sat F ν (mkAnd a b) (fun r => r.bool ν = (a.bool ν && b.bool ν)) := by
  unfold mkAnd
  split
  · exact sat_pure (by simp)
  · exact sat_pure (by simp)
  · exact sat_pure (by simp)
  · exact sat_pure (by simp)
  · exact sat_emit fun r h => A.bool_of_den h

theorem mkOr_sat {a b : A} : M.sat F ν (mkOr a b) (fun r => r.bool ν = (a.bool ν || b.bool ν)) := by
  unfold mkOr
  split
  · exact sat_pure (by simp)
  · exact sat_pure (by simp)
  · exact sat_pure (by simp)
  · exact sat_pure (by simp)
  · exact sat_emit fun r h => A.bool_of_den h

theorem mkIteI_sat {c a b : A} : M.sat F ν (mkIteI c a b) (fun r => r.int ν = bif c.bool ν then a.int ν else b.int ν) := by
  unfold mkIteI
  split
  · exact sat_pure rfl
  · exact sat_pure rfl
  · refine sat_ite (fun h => sat_pure ?_) (fun _ => sat_emit fun r h => A.int_of_den h)
    have := A.beq_den h ν
    simp only [A.int, this]
    cases c.bool ν <;> rfl

theorem mkIteB_sat {c a b : A} : M.sat F ν (mkIteB c a b) (fun r => r.bool ν = bif c.bool ν then a.bool ν else b.bool ν) := by
  unfold mkIteB
  split
  · exact sat_pure rfl
  · exact sat_pure rfl
  · refine sat_ite (fun h => sat_pure ?_) (fun _ => ?_)
    · have := A.beq_den h ν
      simp only [A.bool, this]
      cases (A.den ν c).toB <;> rfl
    · split
      · exact sat_pure (by simp)
      · exact sat_emit fun r h => by rw [A.bool_of_den h]; simp
      · exact sat_emit fun r h => by rw [A.bool_of_den h]; simp
      · exact sat_emit fun r h => by rw [A.bool_of_den h]; simp
      · exact sat_emit fun r h => A.bool_of_den h

theorem mkIteL_sat {c a b : A} : M.sat F ν (mkIteL c a b) (fun r => r.cells ν = bif c.bool ν then a.cells ν else b.cells ν) := by
  unfold mkIteL
  split
  · exact sat_pure rfl
  · exact sat_pure rfl
  · refine sat_ite (fun h => sat_pure ?_) (fun _ => sat_emit fun r h => A.cells_of_den h)
    have := A.beq_den h ν
    simp only [A.cells, this]
    cases c.bool ν <;> rfl

theorem oweNe0_sat {b : A} : M.sat F ν (oweNe0 b) (fun _ => b.int ν ≠ 0) := by
  unfold oweNe0
  split
  · exact sat_ite (fun _ => sat_fail) (fun h => sat_pure (by simpa using h))
  · refine sat_bind (sat_emit (Q := fun r => r.bool ν = (b.int ν != 0)) fun r h => A.bool_of_den h) fun r hr => ?_
    exact sat_owe fun h => by rw [hr] at h; simpa using h

theorem oweGe0_sat {b : A} : M.sat F ν (oweGe0 b) (fun _ => 0 ≤ b.int ν) := by
  unfold oweGe0
  split
  · exact sat_ite (fun h => sat_pure (by simpa using h)) (fun h => sat_fail)
  · refine sat_bind (sat_emit (Q := fun r => r.bool ν = decide (b.int ν ≥ 0)) fun r h => A.bool_of_den h) fun r hr => ?_
    exact sat_owe fun h => by rw [hr] at h; simpa using h
end

end Go.Sx
