/- Code: the evaluator agrees with the model. -/
import Derived.Test.YtacciadcmiiimaaSyLoop
namespace Go.Sx
open Go.RowKit
section
variable {P : Program} {I : World → Prop} {S : Sigs} {F : FEnv} {E : Env} {gK : Nat}

/-- What the evaluator's way out says of a code: the run, and of a loop, the run of it once begun. -/
def CodeOK (P : Program) (ν : Nat → DV) (E : Env) (c : Code) (s : St) (x : X) : Prop :=
  ∀ ρ a w, RR ν E ρ ⟨s, []⟩ a w → c.wp P (XPost ν E x) a w ∧ ∀ b, c = .loop b → LoopRun P b (XPost ν E x) a w

theorem CodeOK.plain {ν : Nat → DV} {c : Code} {s : St} {x : X} (hc : ∀ b, c ≠ .loop b) (h : ∀ ρ a w, RR ν E ρ ⟨s, []⟩ a w → c.wp P (XPost ν E x) a w) : CodeOK P ν E c s x :=
  fun ρ a w hr => ⟨h ρ a w hr, fun b hb => absurd hb (hc b)⟩

theorem evCode_ok (hS : SigsOK P I gK S F) (hE : E.Ok gK) (hn0 : S.n0 = E.n0) (hI : ∀ w, Fr E.W E.w0 w → I w) : ∀ (n : Nat) (ν : Nat → DV) (c : Code) (s : St), M.sat F ν (evCode P S n c s) (CodeOK P ν E c s)
  | 0, _, _, _ => sat_fail
  | n + 1, ν, c, s => by
    have evCode_sat : ∀ (hS : SigsOK P I gK S F) (n' : Nat) (hn : n' = n) (c : Code) (s : St), M.sat F ν (evCode P S n' c s) (fun x => ∀ ρ a w, RR ν E ρ ⟨s, []⟩ a w → c.wp P (XPost ν E x) a w) :=
      fun hS n' hn c s => by subst hn; exact sat_mono (evCode_ok hS hE hn0 hI n' ν c s) fun x hx ρ a w h => (hx ρ a w h).1
    have plain : ∀ {x : M X} {Q : X → Prop}, (∀ b, c ≠ .loop b) → M.sat F ν x (fun z => ∀ ρ a w, RR ν E ρ ⟨s, []⟩ a w → c.wp P (XPost ν E z) a w) → M.sat F ν x (CodeOK P ν E c s) :=
      fun hc h => sat_mono h fun z hz => CodeOK.plain hc hz
    cases c <;> simp only [evCode, hn0]
    case loop c =>
      refine sat_bind (evCode_sat hS n rfl c s) fun u hu => ?_
      refine sat_mono (andThen_sat (_G := fun _ => True) (N := fun Q a w => LoopRun P c Q a w) (fun s' => sat_mono (evCode_ok hS hE hn0 hI n ν (.loop c) s') fun x hx ρ a w h => (hx ρ a w h).2 c rfl) (fun Q Q' a w h hw => LoopRun.mono h hw)) fun z hz ρ a w h => ?_
      have := LoopRun.step (wp_mono (hu ρ a w h) hz)
      exact ⟨this.wp, fun b hb => by cases hb; exact this⟩
    all_goals refine plain (Q := fun _ => True) (fun b => by simp) ?_
    case skip => exact sat_pure fun ρ a w h => wp_skip ⟨trivial, ρ, h⟩
    case label l => exact sat_pure fun ρ a w h => wp_label ⟨trivial, ρ, h⟩
    case region id ops draw =>
      refine sat_bind (evRegion_sat (E := E) (id := id) hS hE hn0 hI) fun s' hs' => sat_pure fun ρ a w h => ?_
      exact hs' ρ a w h _ fun ρ' a' w' h' => ⟨trivial, ρ', h'⟩
    case seq x y =>
      refine sat_bind (evCode_sat hS n rfl x s) fun u hu => ?_
      refine sat_mono (andThen_sat (_G := fun _ => True) (N := fun Q a w => y.wp P Q a w) (fun s' => evCode_sat hS n rfl y s') (fun Q Q' a w h hw => wp_mono hw h)) fun z hz ρ a w h => ?_
      exact wp_seq (wp_mono (hu ρ a w h) hz)
    case cond c x y =>
      refine sat_bind (sat_lift (Q := fun v => rd ⟨s, []⟩ [] c = some v) fun a h => h) fun v hv => ?_
      split
      · rename_i b
        have hread : ∀ ρ a w, RR ν E ρ ⟨s, []⟩ a w → a.eval c = .bool (b.bool ν) := fun ρ a w h => (rd_spec h.act (fun p hp => by simp at hp) hv).2
        split
        · exact sat_mono (evCode_sat hS n rfl x s) fun u hu ρ a w h => wp_cond_true (hread ρ a w h) (hu ρ a w h)
        · exact sat_mono (evCode_sat hS n rfl y s) fun u hu ρ a w h => wp_cond_false (hread ρ a w h) (hu ρ a w h)
        · refine sat_ite (fun _ => ?_) (fun _ => sat_ite (fun _ => ?_) (fun _ => ?_))
          · refine sat_bind mkNot_sat fun q hq => sat_bind (sat_owe (Q := fun _ => b.bool ν = false) fun h => by rw [hq] at h; simpa using h) fun _ hb => ?_
            exact sat_mono (evCode_sat hS n rfl y s) fun u hu ρ a w h => wp_cond_false (by rw [hread ρ a w h, hb]) (hu ρ a w h)
          · refine sat_bind (sat_owe (Q := fun _ => b.bool ν = true) fun h => h) fun _ hb => ?_
            exact sat_mono (evCode_sat hS n rfl x s) fun u hu ρ a w h => wp_cond_true (by rw [hread ρ a w h, hb]) (hu ρ a w h)
          refine sat_bind (sat_under (evCode_sat hS n rfl x s)) fun u hu => sat_bind (sat_under (evCode_sat hS n rfl y s)) fun v hv => sat_pure fun ρ a w h => ?_
          refine wp_cond_split (hread ρ a w h) (fun hb => wp_mono (hu hb ρ a w h) fun e a w hp => ?_) (fun hb => wp_mono (hv hb ρ a w h) fun e a w hp => ?_)
          · unfold XPost at hp ⊢
            simp only [X.sel, hb, if_true]; exact hp
          · unfold XPost at hp ⊢
            simp only [X.sel, hb]; exact hp
      · exact sat_fail
    case block id c =>
      have hblk : ∀ {x : M X}, M.sat F ν x (fun u => ∀ ρ a w, RR ν E ρ ⟨s, []⟩ a w → c.wp P (XPost ν E u) a w) →
          M.sat F ν (do pure ((← x).inBlock id) : M X) (fun z => ∀ ρ a w, RR ν E ρ ⟨s, []⟩ a w → (Code.block id c).wp P (XPost ν E z) a w) := by
        intro x hx
        refine sat_bind hx fun u hu => sat_pure fun ρ a w h => wp_block (wp_mono (hu ρ a w h) fun e a w hp => ?_)
        obtain ⟨hk, ρ', hr⟩ := hp
        have hpost : ∀ e', ((u.sel ν).1.inBlock id).is e' → XPost ν E (u.inBlock id) e' a w := fun e' he' => by
          unfold XPost
          rw [inBlock_sel]
          exact ⟨he', ρ', hr⟩
        generalize hkk : (u.sel ν).1 = k at *
        cases k <;> cases e <;> simp only [K.is] at hk <;> first | exact hk.elim | skip
        · exact hpost .normal trivial
        · exact hpost .ret trivial
        · rename_i i j
          subst hk
          simp only [Exit.inBlock]
          by_cases hij : i = id
          · rw [if_pos hij]; exact hpost .normal (by subst hij; simp [K.inBlock, K.is])
          · rw [if_neg hij]; exact hpost (.exit i) (by simp [K.inBlock, K.is, hij])
        · subst hk; exact hpost _ rfl
      split
      · split
        · rename_i fid _ b
          refine hblk (sat_mono (evSym_ok (E := E) (b := b) fun ν' s' => sat_mono (evCode_ok hS hE hn0 hI n ν' b s') fun x hx ρ a w h => (hx ρ a w h).1) fun z hz ρ a w h => (hz ρ a w h).wp)
        · exact hblk (evCode_sat hS n rfl c s)
      · exact hblk (evCode_sat hS n rfl c s)
    case exit id => exact sat_pure fun ρ a w h => wp_exit ⟨rfl, ρ, h⟩
    case goto l => exact sat_pure fun ρ a w h => wp_goto ⟨rfl, ρ, h⟩
    case scope c =>
      refine sat_bind (evCode_sat hS n rfl c s) fun u hu => sat_ite (fun hg => sat_pure fun ρ a w h => wp_scope_straight (wp_mono (hu ρ a w h) fun e a w hp => ?_)) (fun _ => sat_fail)
      cases e <;> first | exact hp | skip
      rename_i l
      have := hp.1
      have hng := noGoto_sel (ν := ν) u hg l
      generalize (u.sel ν).1 = k at *
      cases k <;> simp only [K.is] at this
      subst this
      exact absurd rfl hng
    case ret => exact sat_pure fun ρ a w h => wp_ret ⟨trivial, ρ, h⟩
    all_goals exact sat_fail
end
end Go.Sx
