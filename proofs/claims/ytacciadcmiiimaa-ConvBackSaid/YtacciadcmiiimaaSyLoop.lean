/- A loop as a function of its own. -/
import Derived.Test.YtacciadcmiiimaaSyFn
namespace Go.Sx
open Go.RowKit

theorem blt_lt {a b : Nat} (h : Nat.blt a b = true) : a < b := by simpa [Nat.blt_eq] using h
theorem blt_true {a b : Nat} (h : a < b) : Nat.blt a b = true := by simpa [Nat.blt_eq] using h

/-! ### The values of the nodes -/
theorem look_base {base : Nat → DV} {n0 n i : Nat} {vs : List DV} (h : i < n0) : look base n0 vs n i = base i := by
  unfold look; rw [blt_true h]; rfl
theorem look_list {base : Nat → DV} {n0 n i : Nat} {vs : List DV} (h : n0 ≤ i) : look base n0 vs n i = vs.getD (n - 1 - i) default := by
  unfold look
  have : Nat.blt i n0 = false := by
    cases hb : Nat.blt i n0 with
    | false => rfl
    | true => have := blt_lt hb; omega
  rw [this]; rfl
theorem look_cons_old {base : Nat → DV} {n0 n i : Nat} {vs : List DV} (hi : i < n) (d : DV) : look base n0 (d :: vs) (n + 1) i = look base n0 vs n i := by
  rcases Nat.lt_or_ge i n0 with h | h
  · rw [look_base h, look_base h]
  · rw [look_list h, look_list h, show n + 1 - 1 - i = (n - 1 - i) + 1 from by omega]; rfl
theorem look_cons_new {base : Nat → DV} {n0 n : Nat} {vs : List DV} (hn : n0 ≤ n) (d : DV) : look base n0 (d :: vs) (n + 1) n = d := by
  rw [look_list hn, show n + 1 - 1 - n = 0 from by omega]; rfl

theorem A.den_congr {ν ν' : Nat → DV} {n : Nat} (h : ∀ i, i < n → ν i = ν' i) {a : A} (ha : a.below n = true) : a.den ν = a.den ν' := by
  cases a with
  | r i => exact h i (blt_lt ha)
  | _ => rfl
theorem A.int_congr {ν ν' : Nat → DV} {n : Nat} (h : ∀ i, i < n → ν i = ν' i) {a : A} (ha : a.below n = true) : a.int ν = a.int ν' := by simp [A.int, A.den_congr h ha]
theorem A.cells_congr {ν ν' : Nat → DV} {n : Nat} (h : ∀ i, i < n → ν i = ν' i) {a : A} (ha : a.below n = true) : a.cells ν = a.cells ν' := by simp [A.cells, A.den_congr h ha]
theorem A.bool_congr {ν ν' : Nat → DV} {n : Nat} (h : ∀ i, i < n → ν i = ν' i) {a : A} (ha : a.below n = true) : a.bool ν = a.bool ν' := by simp [A.bool, A.den_congr h ha]

theorem map_congr_all {α β : Type} {p : α → Bool} {f g : α → β} {l : List α} (hl : l.all p = true) (h : ∀ a, p a = true → f a = g a) : l.map f = l.map g :=
  List.map_congr_left fun a ha => h a (List.all_eq_true.1 hl a ha)

theorem denNode_congr {F : FEnv} {ν ν' : Nat → DV} {n : Nat} (h : ∀ i, i < n → ν i = ν' i) {x : Node} (hx : x.refs n = true) : denNode F ν x = denNode F ν' x := by
  cases x <;> simp only [Node.refs, Node.ops, List.all_cons, List.all_nil, Bool.and_true, Bool.and_eq_true] at hx <;> simp only [denNode] <;>
    first
      | rw [A.int_congr h hx.1, A.int_congr h hx.2]
      | rw [A.bool_congr h hx.1, A.bool_congr h hx.2]
      | rw [A.bool_congr h hx]
      | rw [A.int_congr h hx]
      | rw [A.bool_congr h hx.1, A.int_congr h hx.2.1, A.int_congr h hx.2.2]
      | rw [A.bool_congr h hx.1, A.bool_congr h hx.2.1, A.bool_congr h hx.2.2]
      | rw [map_congr_all hx.2 (fun a ha => A.int_congr h ha), A.int_congr h hx.1]
      | rw [map_congr_all hx.2 (fun a ha => A.bool_congr h ha), A.int_congr h hx.1]
      | rw [map_congr_all hx (fun a ha => A.den_congr h ha)]
      | rw [A.cells_congr h hx]
      | rw [A.cells_congr h hx.1, A.int_congr h hx.2.1, A.den_congr h hx.2.2]
      | rw [A.cells_congr h hx.1, A.int_congr h hx.2]
      | rw [A.cells_congr h hx.1, A.cells_congr h hx.2]
      | rw [map_congr_all hx.2 (fun a ha => A.den_congr h ha), A.int_congr h hx.1]
      | rw [A.bool_congr h hx.1, A.cells_congr h hx.2.1, A.cells_congr h hx.2.2]

theorem evalNodes_spec {F : FEnv} {base : Nat → DV} {n0 : Nat} : ∀ {nodes : Em} {vs : List DV} {n : Nat}, n0 ≤ n → wfNodes n nodes = true →
    (∀ i, i < n → look base n0 (evalNodes F base n0 nodes vs n) (n + nodes.length) i = look base n0 vs n i) ∧
    Sat F (look base n0 (evalNodes F base n0 nodes vs n) (n + nodes.length)) nodes
  | [], vs, n, _, _ => ⟨fun i _ => rfl, fun p hp => by cases hp⟩
  | (k, x) :: r, vs, n, hn, hw => by
    simp only [wfNodes, Bool.and_eq_true] at hw
    obtain ⟨⟨h1, h2⟩, h3⟩ := hw
    have hk := Nat.eq_of_beq_eq_true h1
    subst hk
    obtain ⟨e2, e3⟩ := evalNodes_spec (F := F) (base := base) (n0 := n0) (nodes := r) (vs := denNode F (look base n0 vs k) x :: vs) (n := k + 1) (by omega) h3
    have hlen : k + ((k, x) :: r).length = k + 1 + r.length := by simp; omega
    simp only [evalNodes]
    rw [hlen]
    have old : ∀ i, i < k → look base n0 (evalNodes F base n0 r (denNode F (look base n0 vs k) x :: vs) (k + 1)) (k + 1 + r.length) i = look base n0 vs k i := fun i hi => by
      rw [e2 i (by omega), look_cons_old hi]
    refine ⟨old, fun p hp => ?_⟩
    rcases List.mem_cons.1 hp with rfl | hp
    · simp only
      rw [e2 k (by omega), look_cons_new hn]
      exact (denNode_congr (fun i hi => old i hi) h2).symm
    · exact e3 p hp

section
variable {P : Program} {I : World → Prop} {S : Sigs} {F : FEnv} {E : Env} {gK : Nat}

theorem LR.env_spec {l : LR} (ν : Nat → DV) {xs : List DV} (hx : xs.length = l.k) (hw : wfNodes (l.n + l.k) l.nodes = true) :
    (∀ i, i < l.n → l.env F ν xs i = ν i) ∧ (∀ j, j < l.k → l.env F ν xs (l.n + j) = xs.getD j default) ∧ Sat F (l.env F ν xs) l.nodes := by
  obtain ⟨h1, h2⟩ := evalNodes_spec (F := F) (base := ν) (n0 := l.n) (vs := xs.reverse) (n := l.n + l.k) (by omega) hw
  refine ⟨fun i hi => ?_, fun j hj => ?_, h2⟩
  · unfold LR.env; rw [look_base hi]
  · unfold LR.env
    rw [h1 (l.n + j) (by omega), look_list (by omega)]
    simp only [List.getD_eq_getElem?_getD]
    rw [List.getElem?_reverse (by omega), hx]
    congr 2
    omega

theorem K.beq_eq {a b : K} (h : a.beq b = true) : a = b := by
  cases a <;> cases b <;> simp [K.beq] at h <;> first | rfl | (subst h; rfl)

theorem kindIx_spec {k : K} : ∀ {l : List K} {i : Nat}, kindIx k l = some i → l[i]? = some k
  | [], _, h => by simp [kindIx] at h
  | x :: l, i, h => by
    simp only [kindIx] at h
    split at h
    · rename_i hx; cases h; have := K.beq_eq hx; subst this; rfl
    · obtain ⟨j, hj, rfl⟩ := Option.map_eq_some_iff.1 h
      simpa using kindIx_spec hj


theorem PEq.refl {ν : Nat → DV} : ∀ {ts : List Ty} {as : List A}, as.length = ts.length → PEq ν ν ts as as
  | [], [], _ => trivial
  | t :: ts, a :: as, h => ⟨t.eqAt_refl _, PEq.refl (by simpa using h)⟩
theorem PEq.trans {ν1 ν2 ν3 : Nat → DV} : ∀ {ts : List Ty} {as t bs : List A}, PEq ν1 ν2 ts as t → PEq ν2 ν3 ts t bs → PEq ν1 ν3 ts as bs
  | [], [], [], [], _, _ => trivial
  | _ :: _, _ :: _, _ :: _, _ :: _, h, k => ⟨Ty.eqAt_trans h.1 k.1, PEq.trans h.2 k.2⟩
  | [], _ :: _, _, _, h, _ => h.elim
  | [], [], _ :: _, _, h, _ => h.elim
  | [], [], [], _ :: _, _, e => e.elim
  | _ :: _, [], _, _, h, _ => h.elim
  | _ :: _, _ :: _, [], _, h, _ => h.elim
  | _ :: _, _ :: _, _ :: _, [], _, e => e.elim
theorem PEq.of_teq {ν1 ν2 : Nat → DV} : ∀ {ts : List Ty} {as bs : List A}, TEq ts (bs.map (A.den ν2)) (as.map (A.den ν1)) → PEq ν1 ν2 ts as bs
  | [], [], [], _ => trivial
  | _ :: _, _ :: _, _ :: _, e => by
    simp only [List.map_cons, TEq] at e
    exact ⟨Ty.eqAt_symm e.1, PEq.of_teq e.2⟩
  | [], [], _ :: _, e => e.elim
  | [], _ :: _, [], e => e.elim
  | [], _ :: _, _ :: _, e => e.elim
  | _ :: _, [], [], e => e.elim
  | _ :: _, [], _ :: _, e => e.elim
  | _ :: _, _ :: _, [], e => e.elim
theorem TEq.len : ∀ {ts : List Ty} {as bs : List DV}, TEq ts as bs → as.length = bs.length
  | [], [], [], _ => rfl
  | _ :: _, _ :: _, _ :: _, h => by simp [TEq.len h.2]
  | [], _ :: _, _, h => h.elim
  | [], [], _ :: _, h => h.elim
  | _ :: _, [], _, h => h.elim
  | _ :: _, _ :: _, [], h => h.elim

/-! ### A round -/
/-- s says what the pattern says with these in its holes. -/
def FitsTo (ν : Nat → DV) (E : Env) (p : Pat) (s : St) (as : List A) : Prop := ∀ ρ a w, RR ν E ρ ⟨s, []⟩ a w → ∃ ρ', RR ν E ρ' ⟨p.st.inst as, []⟩ a w

theorem fits_of {ν : Nat → DV} {p : Pat} {s : St} {g : List A × List Nat} (h1 : (p.st.inst g.1).sub g.2 s = true) (h2 : keeps g.2 E.n0 = true) (h3 : E.n0 ≤ p.st.hp.length) : FitsTo ν E p s g.1 :=
  fun _ _ _ h => ⟨_, h.sub h1 h2 (by simpa [St.inst] using h3)⟩

theorem couts_sat {ν : Nat → DV} {p : Pat} {ks : List K} (hl : E.n0 ≤ p.st.hp.length) : ∀ (x : X), M.sat F ν (x.couts E.n0 p ks) (fun r => ∃ i as, kindIx (x.sel ν).1 ks = some i ∧ FitsTo ν E p (x.sel ν).2 as ∧
    PEq ν ν (.i :: p.tys) (.z i :: as) r)
  | .done k s => by
    unfold X.couts
    refine sat_bind (sat_lift (Q := fun i => kindIx k ks = some i) fun a h => h) fun i hi => ?_
    dsimp only
    generalize hg : guess p.tys.length p.st s = g
    have hgl : g.1.length = p.tys.length := by rw [← hg]; exact guess_len _ _ _
    refine sat_ite (fun hc => ?_) (fun _ => sat_fail)
    simp only [Bool.and_eq_true] at hc
    exact sat_pure ⟨i, g.1, hi, fits_of hc.1 hc.2 hl, Ty.eqAt_refl _ _, PEq.refl hgl⟩
  | .br c x y => by
    unfold X.couts
    refine sat_bind (couts_sat hl x) fun a ha => sat_bind (couts_sat hl y) fun b hb => sat_mono (mergeAs_sat _ _ _) fun r hr => ?_
    simp only [X.sel]
    by_cases hc : c.bool ν = true
    · simp only [hc, if_true]
      obtain ⟨i, as, e1, e2, e3⟩ := ha
      exact ⟨i, as, e1, e2, e3.trans (hr.1 hc)⟩
    · have hc' : c.bool ν = false := by simpa using hc
      simp only [hc', Bool.false_eq_true, if_false]
      obtain ⟨i, as, e1, e2, e3⟩ := hb
      exact ⟨i, as, e1, e2, e3.trans (hr.2 hc')⟩

/-- What a round says. -/
structure RoundOK (P : Program) (ν : Nat → DV) (E : Env) (b : Code) (p : Pat) (sx : St) (r : Round) : Prop where
  run : ∀ ρ a w, RR ν E ρ ⟨sx, []⟩ a w → b.wp P (XPost ν E r.x) a w
  cond : r.c.bool ν = (r.x.sel ν).1.isNormal
  next : (r.x.sel ν).1.isNormal = true → FitsTo ν E p (r.x.sel ν).2 r.nx
  out : (r.x.sel ν).1.isNormal = false → ∃ (i : Nat) (as : List A), r.ks[i]? = some (r.x.sel ν).1 ∧ FitsTo ν E p (r.x.sel ν).2 as ∧ PEq ν ν (.i :: p.tys) (.z i :: as) r.outs

theorem evRound_sat {ν : Nat → DV} {ev : St → M X} {b : Code} {p : Pat} {sx : St} (hl : E.n0 ≤ p.st.hp.length) (hev : M.sat F ν (ev sx) (fun x => ∀ ρ a w, RR ν E ρ ⟨sx, []⟩ a w → b.wp P (XPost ν E x) a w)) :
    M.sat F ν (evRound E.n0 ev p sx) (RoundOK P ν E b p sx) := by
  unfold evRound
  refine sat_bind hev fun x hx => sat_bind (nCond_sat x) fun c hc => sat_bind (nSt_sat (E := E) x) fun o ho => ?_
  have hnx : M.sat F ν (fitNx E.n0 p o) (fun nx => (x.sel ν).1.isNormal = true → FitsTo ν E p (x.sel ν).2 nx) := by
    cases o with
    | none => exact sat_pure fun hn => by obtain ⟨s, hs, _⟩ := ho hn; cases hs
    | some so =>
      unfold fitNx
      dsimp only
      refine sat_ite (fun hc => ?_) (fun _ => sat_fail)
      simp only [Bool.and_eq_true] at hc
      refine sat_pure fun hn ρ a w h => ?_
      obtain ⟨s, hs, h2⟩ := ho hn
      cases hs
      obtain ⟨ρ', h3⟩ := h2 ρ a w h
      exact fits_of hc.1 hc.2 hl ρ' a w h3
  refine sat_bind hnx fun nx hnx => ?_
  cases hz : x.kill with
  | none => exact sat_fail
  | some z =>
    unfold roundOut
    refine sat_bind (couts_sat (ks := z.kinds) hl z) fun outs houts => sat_pure ⟨hx, hc, hnx, fun hn => ?_⟩
    obtain ⟨z', hz', hsel⟩ := kill_spec x hn
    rw [hz] at hz'
    cases hz'
    obtain ⟨i, as, e1, e2, e3⟩ := houts
    simp only
    rw [← hsel]
    exact ⟨i, as, kindIx_spec e1, e2, e3⟩

theorem toX_sat {ν : Nat → DV} {ka : A} {s : St} : ∀ (ks : List K) (i : Nat), M.sat F ν (K.toX ka s i ks) (fun x => ∀ j k, ks[j]? = some k → ka.int ν = ((i + j : Nat) : Int) → x.sel ν = (k, s))
  | [], i => sat_fail
  | [k], i => sat_pure fun j k' hk _ => by
    cases j with
    | zero => simp at hk; subst hk; rfl
    | succ j => simp at hk
  | k :: k2 :: l, i => by
    unfold K.toX
    refine sat_bind (sat_emit (Q := fun r => r.bool ν = (ka.int ν == (i : Int))) fun r h => A.bool_of_den h) fun e he => sat_bind (toX_sat (k2 :: l) (i + 1)) fun r hr => sat_pure fun j k' hk hka => ?_
    simp only [X.sel, he]
    cases j with
    | zero =>
      simp at hk; subst hk
      have : (ka.int ν == (i : Int)) = true := by simpa using hka
      simp [this]
    | succ j =>
      have hne : (ka.int ν == (i : Int)) = false := by rw [hka]; simp; omega
      simp only [hne, Bool.false_eq_true, if_false]
      exact hr j k' (by simpa using hk) (by rw [hka]; congr 1; omega)
theorem obLp_sat {ν : Nat → DV} {l : LR} : M.sat F ν (obLp l) (fun _ => LoopSound F l) := by
  intro n u n' e d h _ hd
  unfold obLp at h
  simp only [Option.some.injEq, Prod.mk.injEq] at h
  obtain ⟨_, _, _, rfl⟩ := h
  exact hd (.lp l) (by simp)
theorem obLps_sat {ν : Nat → DV} : ∀ (ls : List LR), M.sat F ν (obLps ls) (fun _ => ∀ l ∈ ls, LoopSound F l)
  | [] => sat_pure fun l hl => by cases hl
  | l :: r => by
    unfold obLps
    refine sat_bind obLp_sat fun _ h1 => sat_mono (obLps_sat r) fun _ h2 x hx => ?_
    rcases List.mem_cons.1 hx with rfl | hx
    · exact h1
    · exact h2 x hx


/-- What comes of the loop's function at its place. -/
structure AtOK (F : FEnv) (ν : Nat → DV) (p : Pat) (l : LR) (args : List A) (ks : List K) (x : X) : Prop where
  pre : ((F l.fid (args.map (A.den ν))).getD 0 default).toB = true
  out : ∃ (os : List A) (ka : A), (∀ (j : Nat) (k : K), ks[j]? = some k → ka.int ν = (j : Int) → x.sel ν = (k, p.st.inst os)) ∧
    (∀ vs : List DV, vs.length = l.outs.length → (F l.fid (args.map (A.den ν))).drop 1 = vs → (ka :: os).map (A.den ν) = vs)

theorem evLoopAt_sat {ν : Nat → DV} {p : Pat} {ins : List A} {l : LR} {ks : List K} :
    M.sat F ν (evLoopAt l.fid p ins l ks) (AtOK F ν p l (l.inv.map A.r ++ ins) ks) := by
  unfold evLoopAt
  dsimp only
  refine sat_bind (sat_emit (Q := fun r => r.den ν = (F l.fid ((l.inv.map A.r ++ ins).map (A.den ν))).getD 0 default) fun r h => h) fun q hq => ?_
  refine sat_bind (sat_owe (Q := fun _ => q.bool ν = true) fun h => h) fun _ hpre => ?_
  refine sat_bind (callOuts_sat l.outs.length 1) fun os hos => ?_
  refine sat_ite (fun _ => sat_fail) (fun hne => ?_)
  have hout : l.outs ≠ [] := fun h => hne (by rw [h]; rfl)
  refine sat_mono (toX_sat ks 0) fun x hx => ⟨by rw [← hq]; exact hpre, os.tail, os.headD default, fun j k hk hka => hx j k hk (by simpa using hka), fun vs hvl hvs => ?_⟩
  have hall : os.map (A.den ν) = vs := by
    apply List.ext_getElem?
    intro i
    by_cases hi : i < os.length
    · rw [List.getElem?_map, List.getElem?_eq_getElem hi]
      simp only [Option.map_some]
      rw [hos.2 i _ (List.getElem?_eq_getElem hi), ← hvs, List.getElem?_drop]
      have hlen : 1 + i < (F l.fid ((l.inv.map A.r ++ ins).map (A.den ν))).length := by
        have := congrArg List.length hvs
        simp only [List.length_drop] at this
        have := hos.1
        omega
      rw [List.getD_eq_getElem?_getD, List.getElem?_eq_getElem hlen]
      rfl
    · rw [List.getElem?_eq_none (by simpa using hi), List.getElem?_eq_none (by have := hos.1; omega)]
  cases os with
  | nil => exact absurd (List.eq_nil_of_length_eq_zero (by simpa using hos.1.symm)) hout
  | cons o os => exact hall

theorem evSymWith_ok {ν : Nat → DV} {ev : St → M X} {b : Code} {fid : Nat} {p : Pat} {s : St}
    (hev : ∀ (ν' : Nat → DV) (s' : St), M.sat F ν' (ev s') (fun x => ∀ ρ a w, RR ν' E ρ ⟨s', []⟩ a w → b.wp P (XPost ν' E x) a w)) :
    M.sat F ν (evSymWith E.n0 ev fid p s) (fun z => ∀ ρ a w, RR ν E ρ ⟨s, []⟩ a w → LoopRun P b (XPost ν E z) a w) := by
  intro n z n' e' d' h hsat hob
  unfold evSymWith at h
  dsimp only at h
  generalize hk0 : p.tys.length = k at h
  generalize hg : guess k p.st s = g at h
  have hgl : g.1.length = k := by rw [← hg]; exact guess_len _ _ _
  split at h
  · cases h
  rename_i r _ e d hround
  generalize hl : lrOf fid n k e d r p.tys = l at h
  have l1 : l.fid = fid := by subst hl; rfl
  have l2 : l.n = n := by subst hl; rfl
  have l3 : l.k = k := by subst hl; rfl
  have l4 : l.nodes = e := by subst hl; rfl
  have l5 : l.owes = ndsOf d := by subst hl; rfl
  have l6 : l.c = r.c := by subst hl; rfl
  have l7 : l.nx = r.nx := by subst hl; rfl
  have l8 : l.outs = r.outs := by subst hl; rfl
  have l9 : l.ts = p.tys := by subst hl; rfl
  clear hl
  split at h
  rotate_left
  · cases h
  rename_i hchk
  simp only [Bool.and_eq_true] at hchk
  obtain ⟨⟨⟨⟨⟨hsub, hkeep⟩, hn0⟩, hty⟩, hwf⟩, hnxlen⟩ := hchk
  have hnxlen := Nat.eq_of_beq_eq_true hnxlen
  have hn0 := Nat.le_of_ble_eq_true hn0
  -- what a round says, whatever goes round
  have hrnd : ∀ xs : List DV, xs.length = k → (∀ q ∈ l.owes, Nd.holds (l.env F ν xs) q) → (∀ q ∈ lpsOf d, LoopSound F q) → RoundOK P (l.env F ν xs) E b p (p.st.inst (idsFrom n k)) r := by
    intro xs hx ho hlp
    obtain ⟨_, _, hS⟩ := LR.env_spec (F := F) (l := l) ν (xs := xs) (by rw [l3]; exact hx) (by rw [l2, l3, l4]; exact hwf)
    refine evRound_sat hn0 (hev (l.env F ν xs) (p.st.inst (idsFrom n k))) (n + k) r _ e d hround (by rw [← l4]; exact hS) ?_
    have key : ∀ (d : List Ob), (∀ q ∈ ndsOf d, Nd.holds (l.env F ν xs) q) → (∀ q ∈ lpsOf d, LoopSound F q) → ∀ q ∈ d, Ob.holds F (l.env F ν xs) q := by
      intro d
      induction d with
      | nil => intro _ _ q hq; cases hq
      | cons o d ih =>
        intro h1 h2 q hq
        cases o with
        | nd o =>
          rcases List.mem_cons.1 hq with rfl | hq
          · exact h1 o (by simp [ndsOf])
          · exact ih (fun q hq => h1 q (by simp [ndsOf, hq])) h2 q hq
        | lp o =>
          rcases List.mem_cons.1 hq with rfl | hq
          · exact h2 o (by simp [lpsOf])
          · exact ih h1 (fun q hq => h2 q (by simp [lpsOf, hq])) q hq
    exact key d (by rw [← l5]; exact ho) hlp
  have hmain : M.sat F ν (lrGo fid p g.1 d l r.ks) (fun x => (∀ q ∈ lpsOf d, LoopSound F q) ∧ LoopSound F l ∧ AtOK F ν p l (l.inv.map A.r ++ g.1) r.ks x) := by
    unfold lrGo
    refine sat_bind (obLps_sat (lpsOf d)) fun _ h1 => sat_bind obLp_sat fun _ h2 => ?_
    rw [← l1]
    exact sat_mono evLoopAt_sat fun x hx => ⟨h1, h2, hx⟩
  obtain ⟨hlps, ⟨μ, hμ⟩, hA⟩ := hmain n z n' e' d' h hsat hob
  intro ρ a w hrr
  have hids : ∀ xs : List DV, xs.length = k → (idsFrom n k).map (A.den (l.env F ν xs)) = xs := by
    intro xs hx
    obtain ⟨_, h2, _⟩ := LR.env_spec (F := F) (l := l) ν (xs := xs) (by rw [l3]; exact hx) (by rw [l2, l3, l4]; exact hwf)
    rw [idsFrom_den (fun i => xs.getD i default) k n 0 (fun i hi => by rw [← l2, h2 i (by rw [l3]; exact hi)]; simp)]
    exact range_getD xs k hx
  have hold : ∀ xs : List DV, xs.length = k → ∀ i, i < n → l.env F ν xs i = ν i := by
    intro xs hx
    obtain ⟨h1, _, _⟩ := LR.env_spec (F := F) (l := l) ν (xs := xs) (by rw [l3]; exact hx) (by rw [l2, l3, l4]; exact hwf)
    intro i hi; exact h1 i (by rw [l2]; exact hi)
  -- the loop, from a round's head
  have main : ∀ (m : Nat) (xs : List DV), xs.length = k → μ (l.inv.map ν ++ xs) < m → ((F l.fid (l.inv.map ν ++ xs)).getD 0 default).toB = true →
      F l.fid (l.inv.map ν ++ xs) = F l.fid ((l.inv.map A.r ++ g.1).map (A.den ν)) →
      ∀ ρ a w, RR (l.env F ν xs) E ρ ⟨p.st.inst (idsFrom n k), []⟩ a w → LoopRun P b (XPost ν E z) a w := by
    intro m
    induction m with
    | zero => intro xs _ h; omega
    | succ m ih =>
      intro xs hx hm hpre hF ρ a w hrr
      obtain ⟨g1, g2, g3⟩ := hμ ν xs (by rw [l3]; exact hx) hpre
      have hr := hrnd xs hx g1 hlps
      refine LoopRun.step (wp_mono (hr.run ρ a w hrr) fun e a' w' hp => ?_)
      obtain ⟨hk', ρ', hr'⟩ := hp
      cases hn : (r.x.sel (l.env F ν xs)).1.isNormal with
      | true =>
        have he := K.is_normal hk' hn
        subst he
        have hc : l.c.bool (l.env F ν xs) = true := by rw [l6, hr.cond, hn]
        obtain ⟨h1, h2, h3⟩ := g2 hc
        have hxs' : (l.nx.map (A.den (l.env F ν xs))).length = k := by rw [l7]; simpa using hnxlen
        obtain ⟨ρ2, hr2⟩ := hr.next hn ρ' a' w' hr'
        refine ih _ hxs' (by omega) h1 (h2.trans hF) ρ2 a' w' ?_
        refine RR.inst (p := A.below n) (fun x hx2 => A.den_congr (n := n) (fun i hi => by rw [hold xs hx i hi, hold _ hxs' i hi]) hx2) (PEq.of_den (by rw [hk0]; exact hnxlen) ?_) hty hr2
        rw [hids _ hxs', l7]
      | false =>
        have hne := K.is_not hk' hn
        have hc : l.c.bool (l.env F ν xs) = false := by rw [l6, hr.cond, hn]
        have hF2 := g3 hc
        obtain ⟨i, as, h1, h2, h3⟩ := hr.out hn
        obtain ⟨os, ka, f4, f5⟩ := hA.out
        rw [hF] at hF2
        have f6 := f5 _ (by simpa using hF2.len) rfl
        rw [← f6, l9, l8] at hF2
        have h4 : PEq (l.env F ν xs) ν (.i :: p.tys) r.outs (ka :: os) := PEq.of_teq hF2
        have h5 := h3.trans h4
        have hka : ka.int ν = (i : Int) := h5.1.symm
        have hsel := f4 i _ h1 hka
        have hpost : XPost ν E z e a' w' := by
          unfold XPost
          rw [hsel]
          obtain ⟨ρ2, hr2⟩ := h2 ρ' a' w' hr'
          exact ⟨hk', ρ2, RR.inst (p := A.below n) (fun x hx2 => A.den_congr (n := n) (fun i hi => hold xs hx i hi) hx2) h5.2 hty hr2⟩
        cases e <;> first | exact absurd rfl hne | exact hpost
  have hx0 : (g.1.map (A.den ν)).length = k := by simpa using hgl
  have harg : (l.inv.map A.r ++ g.1).map (A.den ν) = l.inv.map ν ++ g.1.map (A.den ν) := by
    rw [List.map_append, List.map_map]
    rfl
  obtain ⟨ρ2, hr2⟩ := fits_of (ν := ν) (E := E) (p := p) hsub hkeep hn0 ρ a w hrr
  refine main (μ (l.inv.map ν ++ g.1.map (A.den ν)) + 1) (g.1.map (A.den ν)) hx0 (by omega) (by rw [← harg]; exact hA.pre) (by rw [harg]) ρ2 a w ?_
  refine RR.inst (p := A.below n) (fun x hx2 => A.den_congr (n := n) (fun i hi => (hold _ hx0 i hi).symm) hx2) (PEq.of_den (by rw [hk0]; exact hgl) ?_) hty hr2
  rw [hids _ hx0]

theorem evSym_ok {ν : Nat → DV} {ev : St → M X} {b : Code} {fid : Nat} {D : List Nat} {s : St}
    (hev : ∀ (ν' : Nat → DV) (s' : St), M.sat F ν' (ev s') (fun x => ∀ ρ a w, RR ν' E ρ ⟨s', []⟩ a w → b.wp P (XPost ν' E x) a w)) :
    M.sat F ν (evSym E.n0 ev fid D s) (fun z => ∀ ρ a w, RR ν E ρ ⟨s, []⟩ a w → LoopRun P b (XPost ν E z) a w) := by
  intro n z n' e' d' h hsat hob
  unfold evSym at h
  exact evSymWith_ok hev n z n' e' d' h hsat hob
end
end Go.Sx
