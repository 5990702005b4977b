/- A loop as a function of its own. -/
import Derived.Test.YtkpbkanbpjfadaaF2
namespace Go.Sx
open Go.RowKit

theorem blt_lt {a b : Nat} (h : Nat.blt a b = true) : a < b := by simpa [Nat.blt_eq] using h
theorem blt_true {a b : Nat} (h : a < b) : Nat.blt a b = true := by simpa [Nat.blt_eq] using h

theorem look_base {base : Nat → DV} {n0 n i : Nat} {vs : List DV} (h : i < n0) : look base n0 vs n i = base i := by
  unfold look; rw [blt_true h]; rfl
theorem look_list {base : Nat → DV} {n0 n i : Nat} {vs : List DV} (h : n0 ≤ i) : look base n0 vs n i = vs.getD (n - 1 - i) default := by
  unfold look
  have : Nat.blt i n0 = false := by
    cases hb : Nat.blt i n0 with
    | false => rfl
    | true => have := blt_lt hb; omega
  rw [this]; rfl
theorem look_cons_old {base : Nat → DV} {n0 n i : Nat} {vs : List DV} (hi : i < n) (d : DV) : look base n0 (d :: vs) (n + 1) i = look base n0 vs n i := by
  rcases Nat.lt_or_ge i n0 with h | h
  · rw [look_base h, look_base h]
  · rw [look_list h, look_list h, show n + 1 - 1 - i = (n - 1 - i) + 1 from by omega]; rfl
theorem look_cons_new {base : Nat → DV} {n0 n : Nat} {vs : List DV} (hn : n0 ≤ n) (d : DV) : look base n0 (d :: vs) (n + 1) n = d := by
  rw [look_list hn, show n + 1 - 1 - n = 0 from by omega]; rfl

theorem A.den_congr {ν ν' : Nat → DV} {n : Nat} (h : ∀ i, i < n → ν i = ν' i) {a : A} (ha : a.below n = true) : a.den ν = a.den ν' := by
  cases a with
  | r i => exact h i (blt_lt ha)
  | _ => rfl
theorem A.int_congr {ν ν' : Nat → DV} {n : Nat} (h : ∀ i, i < n → ν i = ν' i) {a : A} (ha : a.below n = true) : a.int ν = a.int ν' := by simp [A.int, A.den_congr h ha]
theorem A.cells_congr {ν ν' : Nat → DV} {n : Nat} (h : ∀ i, i < n → ν i = ν' i) {a : A} (ha : a.below n = true) : a.cells ν = a.cells ν' := by simp [A.cells, A.den_congr h ha]
theorem A.bool_congr {ν ν' : Nat → DV} {n : Nat} (h : ∀ i, i < n → ν i = ν' i) {a : A} (ha : a.below n = true) : a.bool ν = a.bool ν' := by simp [A.bool, A.den_congr h ha]

theorem map_congr_all {α β : Type} {p : α → Bool} {f g : α → β} {l : List α} (hl : l.all p = true) (h : ∀ a, p a = true → f a = g a) : l.map f = l.map g :=
  List.map_congr_left fun a ha => h a (List.all_eq_true.1 hl a ha)

theorem denNode_congr {F : FEnv} {ν ν' : Nat → DV} {n : Nat} (h : ∀ i, i < n → ν i = ν' i) {x : Node} (hx : x.refs n = true) : denNode F ν x = denNode F ν' x := by
  cases x <;> simp only [Node.refs, Node.ops, List.all_cons, List.all_nil, Bool.and_true, Bool.and_eq_true] at hx <;> simp only [denNode] <;>
    first
      | rw [A.int_congr h hx.1, A.int_congr h hx.2]
      | rw [A.bool_congr h hx.1, A.bool_congr h hx.2]
      | rw [A.bool_congr h hx]
      | rw [A.int_congr h hx]
      | rw [A.bool_congr h hx.1, A.int_congr h hx.2.1, A.int_congr h hx.2.2]
      | rw [A.bool_congr h hx.1, A.bool_congr h hx.2.1, A.bool_congr h hx.2.2]
      | rw [map_congr_all hx.2 (fun a ha => A.int_congr h ha), A.int_congr h hx.1]
      | rw [map_congr_all hx.2 (fun a ha => A.bool_congr h ha), A.int_congr h hx.1]
      | rw [map_congr_all hx (fun a ha => A.den_congr h ha)]
      | rw [A.cells_congr h hx]
      | rw [A.cells_congr h hx.1, A.int_congr h hx.2.1, A.den_congr h hx.2.2]
      | rw [A.cells_congr h hx.1, A.int_congr h hx.2]
      | rw [A.cells_congr h hx.1, A.cells_congr h hx.2]
      | rw [map_congr_all hx.2 (fun a ha => A.den_congr h ha), A.int_congr h hx.1]
      | rw [A.bool_congr h hx.1, A.cells_congr h hx.2.1, A.cells_congr h hx.2.2]

theorem evalNodes_spec {F : FEnv} {base : Nat → DV} {n0 : Nat} : ∀ {nodes : Em} {vs : List DV} {n : Nat}, n0 ≤ n → wfNodes n nodes = true →
    (∀ i, i < n → look base n0 (evalNodes F base n0 nodes vs n) (n + nodes.length) i = look base n0 vs n i) ∧
    Sat F (look base n0 (evalNodes F base n0 nodes vs n) (n + nodes.length)) nodes
  | [], vs, n, _, _ => ⟨fun i _ => rfl, fun p hp => by cases hp⟩
  | (k, x) :: r, vs, n, hn, hw => by
    simp only [wfNodes, Bool.and_eq_true] at hw
    obtain ⟨⟨h1, h2⟩, h3⟩ := hw
    have hk := Nat.eq_of_beq_eq_true h1
    subst hk
    obtain ⟨e2, e3⟩ := evalNodes_spec (F := F) (base := base) (n0 := n0) (nodes := r) (vs := denNode F (look base n0 vs k) x :: vs) (n := k + 1) (by omega) h3
    have hlen : k + ((k, x) :: r).length = k + 1 + r.length := by simp; omega
    simp only [evalNodes]
    rw [hlen]
    have old : ∀ i, i < k → look base n0 (evalNodes F base n0 r (denNode F (look base n0 vs k) x :: vs) (k + 1)) (k + 1 + r.length) i = look base n0 vs k i := fun i hi => by
      rw [e2 i (by omega), look_cons_old hi]
    refine ⟨old, fun p hp => ?_⟩
    rcases List.mem_cons.1 hp with rfl | hp
    · simp only
      rw [e2 k (by omega), look_cons_new hn]
      exact (denNode_congr (fun i hi => old i hi) h2).symm
    · exact e3 p hp

section
variable {P : Program} {I : World → Prop} {S : Sigs} {F : FEnv} {E : Env} {gK : Nat}

theorem LR.env_spec {l : LR} (ν : Nat → DV) {xs : List DV} (hx : xs.length = l.k) (hw : wfNodes (l.n + l.k) l.nodes = true) :
    (∀ i, i < l.n → l.env F ν xs i = ν i) ∧ (∀ j, j < l.k → l.env F ν xs (l.n + j) = xs.getD j default) ∧ Sat F (l.env F ν xs) l.nodes := by
  obtain ⟨h1, h2⟩ := evalNodes_spec (F := F) (base := ν) (n0 := l.n) (vs := xs.reverse) (n := l.n + l.k) (by omega) hw
  refine ⟨fun i hi => ?_, fun j hj => ?_, h2⟩
  · unfold LR.env; rw [look_base hi]
  · unfold LR.env
    rw [h1 (l.n + j) (by omega), look_list (by omega)]
    simp only [List.getD_eq_getElem?_getD]
    rw [List.getElem?_reverse (by omega), hx]
    congr 2
    omega

theorem K.beq_eq {a b : K} (h : a.beq b = true) : a = b := by
  cases a <;> cases b <;> simp [K.beq] at h <;> first | rfl | (subst h; rfl)

theorem kindIx_spec {k : K} : ∀ {l : List K} {i : Nat}, kindIx k l = some i → l[i]? = some k
  | [], _, h => by simp [kindIx] at h
  | x :: l, i, h => by
    simp only [kindIx] at h
    split at h
    · rename_i hx; cases h; have := K.beq_eq hx; subst this; rfl
    · obtain ⟨j, hj, rfl⟩ := Option.map_eq_some_iff.1 h
      simpa using kindIx_spec hj


theorem PEq.refl {ν : Nat → DV} : ∀ {ts : List Ty} {as : List A}, as.length = ts.length → PEq ν ν ts as as
  | [], [], _ => trivial
  | t :: ts, a :: as, h => ⟨t.eqAt_refl _, PEq.refl (by simpa using h)⟩
theorem PEq.trans {ν1 ν2 ν3 : Nat → DV} : ∀ {ts : List Ty} {as t bs : List A}, PEq ν1 ν2 ts as t → PEq ν2 ν3 ts t bs → PEq ν1 ν3 ts as bs
  | [], [], [], [], _, _ => trivial
  | _ :: _, _ :: _, _ :: _, _ :: _, h, k => ⟨Ty.eqAt_trans h.1 k.1, PEq.trans h.2 k.2⟩
  | [], _ :: _, _, _, h, _ => h.elim
  | [], [], _ :: _, _, h, _ => h.elim
  | [], [], [], _ :: _, _, e => e.elim
  | _ :: _, [], _, _, h, _ => h.elim
  | _ :: _, _ :: _, [], _, h, _ => h.elim
  | _ :: _, _ :: _, _ :: _, [], _, e => e.elim
theorem PEq.of_teq {ν1 ν2 : Nat → DV} : ∀ {ts : List Ty} {as bs : List A}, TEq ts (bs.map (A.den ν2)) (as.map (A.den ν1)) → PEq ν1 ν2 ts as bs
  | [], [], [], _ => trivial
  | _ :: _, _ :: _, _ :: _, e => by
    simp only [List.map_cons, TEq] at e
    exact ⟨Ty.eqAt_symm e.1, PEq.of_teq e.2⟩
  | [], [], _ :: _, e => e.elim
  | [], _ :: _, [], e => e.elim
  | [], _ :: _, _ :: _, e => e.elim
  | _ :: _, [], [], e => e.elim
  | _ :: _, [], _ :: _, e => e.elim
  | _ :: _, _ :: _, [], e => e.elim
theorem TEq.len : ∀ {ts : List Ty} {as bs : List DV}, TEq ts as bs → as.length = bs.length
  | [], [], [], _ => rfl
  | _ :: _, _ :: _, _ :: _, h => by simp [TEq.len h.2]
  | [], _ :: _, _, h => h.elim
  | [], [], _ :: _, h => h.elim
  | _ :: _, [], _, h => h.elim
  | _ :: _, _ :: _, [], h => h.elim

def FitsTo (ν : Nat → DV) (E : Env) (p : Pat) (s : St) (as : List A) : Prop := ∀ ρ a w, RR ν E ρ ⟨s, []⟩ a w → ∃ ρ', RR ν E ρ' ⟨p.st.inst as, []⟩ a w

theorem fits_of {ν : Nat → DV} {p : Pat} {s : St} {g : List A × List Nat} (h1 : (p.st.inst g.1).sub g.2 s = true) (h2 : keeps g.2 E.n0 = true) (h3 : E.n0 ≤ p.st.hp.length) : FitsTo ν E p s g.1 :=
  fun _ _ _ h => ⟨_, h.sub h1 h2 (by simpa [St.inst] using h3)⟩

theorem couts_sat {ν : Nat → DV} {pe : K → Pat} {tys : List Ty} {ks : List K} (hl : ∀ k, E.n0 ≤ (pe k).st.hp.length) : ∀ (x : X), M.sat F ν (x.couts E.n0 pe tys ks) (fun r => ∃ i as, kindIx (x.sel ν).1 ks = some i ∧ FitsTo ν E (pe (x.sel ν).1) (x.sel ν).2 as ∧
    PEq ν ν (.i :: tys) (.z i :: as) r)
  | .done k s => by
    unfold X.couts
    refine sat_bind (sat_lift (Q := fun i => kindIx k ks = some i) fun a h => h) fun i hi => ?_
    dsimp only
    generalize hg : guess tys.length (pe k).st s = g
    have hgl : g.1.length = tys.length := by rw [← hg]; exact guess_len _ _ _
    refine sat_ite (fun hc => ?_) (fun _ => sat_fail)
    simp only [Bool.and_eq_true] at hc
    exact sat_pure ⟨i, g.1, hi, fits_of hc.1 hc.2 (hl k), Ty.eqAt_refl _ _, PEq.refl hgl⟩
  | .br c x y => by
    unfold X.couts
    refine sat_bind (couts_sat hl x) fun a ha => sat_bind (couts_sat hl y) fun b hb => sat_mono (mergeAs_sat _ _ _) fun r hr => ?_
    simp only [X.sel]
    by_cases hc : c.bool ν = true
    · simp only [hc, if_true]
      obtain ⟨i, as, e1, e2, e3⟩ := ha
      exact ⟨i, as, e1, e2, e3.trans (hr.1 hc)⟩
    · have hc' : c.bool ν = false := by simpa using hc
      simp only [hc', Bool.false_eq_true, if_false]
      obtain ⟨i, as, e1, e2, e3⟩ := hb
      exact ⟨i, as, e1, e2, e3.trans (hr.2 hc')⟩

structure RoundOK (P : Program) (ν : Nat → DV) (E : Env) (b : Code) (p : Pat) (sx : St) (r : Round) : Prop where
  run : ∀ ρ a w, RR ν E ρ ⟨sx, []⟩ a w → b.wp P (XPost ν E r.x) a w
  cond : r.c.bool ν = (r.x.sel ν).1.isNormal
  next : (r.x.sel ν).1.isNormal = true → FitsTo ν E p (r.x.sel ν).2 r.nx
  out : (r.x.sel ν).1.isNormal = false → ∃ (i : Nat) (as : List A), r.ks[i]? = some (r.x.sel ν).1 ∧ FitsTo ν E (p.at r.als (r.x.sel ν).1) (r.x.sel ν).2 as ∧ PEq ν ν (.i :: p.tys) (.z i :: as) r.outs

theorem evRound_sat {ν : Nat → DV} {ev : St → M X} {b : Code} {p : Pat} {sx : St} (hl : E.n0 ≤ p.st.hp.length) (hev : M.sat F ν (ev sx) (fun x => ∀ ρ a w, RR ν E ρ ⟨sx, []⟩ a w → b.wp P (XPost ν E x) a w)) :
    M.sat F ν (evRound E.n0 ev p sx) (RoundOK P ν E b p sx) := by
  unfold evRound
  refine sat_bind hev fun x hx => sat_bind (nCond_sat x) fun c hc => sat_bind (nSt_sat (E := E) x) fun o ho => ?_
  have hnx : M.sat F ν (fitNx E.n0 p o) (fun nx => (x.sel ν).1.isNormal = true → FitsTo ν E p (x.sel ν).2 nx) := by
    cases o with
    | none => exact sat_pure fun hn => by obtain ⟨s, hs, _⟩ := ho hn; cases hs
    | some so =>
      unfold fitNx
      dsimp only
      refine sat_ite (fun hc => ?_) (fun _ => sat_fail)
      simp only [Bool.and_eq_true] at hc
      refine sat_pure fun hn ρ a w h => ?_
      obtain ⟨s, hs, h2⟩ := ho hn
      cases hs
      obtain ⟨ρ', h3⟩ := h2 ρ a w h
      exact fits_of hc.1 hc.2 hl ρ' a w h3
  refine sat_bind hnx fun nx hnx => ?_
  cases hz : x.kill with
  | none => exact sat_fail
  | some z =>
    unfold roundOut
    refine sat_bind (couts_sat (pe := p.at (z.als p)) (ks := z.kinds) (fun _ => hl) z) fun outs houts => sat_pure ⟨hx, hc, hnx, fun hn => ?_⟩
    obtain ⟨z', hz', hsel⟩ := kill_spec x hn
    rw [hz] at hz'
    cases hz'
    obtain ⟨i, as, e1, e2, e3⟩ := houts
    simp only
    rw [← hsel]
    exact ⟨i, as, kindIx_spec e1, e2, e3⟩

theorem toX_sat {ν : Nat → DV} {ka : A} {sf : K → St} : ∀ (ks : List K) (i : Nat), M.sat F ν (K.toX ka sf i ks) (fun x => ∀ j k, ks[j]? = some k → ka.int ν = ((i + j : Nat) : Int) → x.sel ν = (k, sf k))
  | [], i => sat_fail
  | [k], i => sat_pure fun j k' hk _ => by
    cases j with
    | zero => simp at hk; subst hk; rfl
    | succ j => simp at hk
  | k :: k2 :: l, i => by
    unfold K.toX
    refine sat_bind (sat_emit (Q := fun r => r.bool ν = (ka.int ν == (i : Int))) fun r h => A.bool_of_den h) fun e he => sat_bind (toX_sat (k2 :: l) (i + 1)) fun r hr => sat_pure fun j k' hk hka => ?_
    simp only [X.sel, he]
    cases j with
    | zero =>
      simp at hk; subst hk
      have : (ka.int ν == (i : Int)) = true := by simpa using hka
      simp [this]
    | succ j =>
      have hne : (ka.int ν == (i : Int)) = false := by rw [hka]; simp; omega
      simp only [hne, Bool.false_eq_true, if_false]
      exact hr j k' (by simpa using hk) (by rw [hka]; congr 1; omega)
theorem obLp_sat {ν : Nat → DV} {l : LR} : M.sat F ν (obLp l) (fun _ => LoopSound F l) := by
  intro n u n' e d h _ hd
  unfold obLp at h
  simp only [Option.some.injEq, Prod.mk.injEq] at h
  obtain ⟨_, _, _, rfl⟩ := h
  exact hd (.lp l) (by simp)
theorem obLps_sat {ν : Nat → DV} : ∀ (ls : List LR), M.sat F ν (obLps ls) (fun _ => ∀ l ∈ ls, LoopSound F l)
  | [] => sat_pure fun l hl => by cases hl
  | l :: r => by
    unfold obLps
    refine sat_bind obLp_sat fun _ h1 => sat_mono (obLps_sat r) fun _ h2 x hx => ?_
    rcases List.mem_cons.1 hx with rfl | hx
    · exact h1
    · exact h2 x hx


structure AtOK (F : FEnv) (ν : Nat → DV) (pe : K → Pat) (l : LR) (args : List A) (ks : List K) (x : X) : Prop where
  pre : ((F l.fid (args.map (A.den ν))).getD 0 default).toB = true
  out : ∃ (os : List A) (ka : A), (∀ (j : Nat) (k : K), ks[j]? = some k → ka.int ν = (j : Int) → x.sel ν = (k, (pe k).st.inst os)) ∧
    (∀ vs : List DV, vs.length = l.outs.length → (F l.fid (args.map (A.den ν))).drop 1 = vs → (ka :: os).map (A.den ν) = vs)

theorem evLoopAt_sat {ν : Nat → DV} {pe : K → Pat} {ins : List A} {l : LR} {ks : List K} :
    M.sat F ν (evLoopAt l.fid pe ins l ks) (AtOK F ν pe l (l.inv.map A.r ++ ins) ks) := by
  unfold evLoopAt
  dsimp only
  refine sat_bind (sat_emit (Q := fun r => r.den ν = (F l.fid ((l.inv.map A.r ++ ins).map (A.den ν))).getD 0 default) fun r h => h) fun q hq => ?_
  refine sat_bind (sat_owe (Q := fun _ => q.bool ν = true) fun h => h) fun _ hpre => ?_
  refine sat_bind (callOuts_sat l.outs.length 1) fun os hos => ?_
  refine sat_ite (fun _ => sat_fail) (fun hne => ?_)
  have hout : l.outs ≠ [] := fun h => hne (by rw [h]; rfl)
  refine sat_mono (toX_sat ks 0) fun x hx => ⟨by rw [← hq]; exact hpre, os.tail, os.headD default, fun j k hk hka => hx j k hk (by simpa using hka), fun vs hvl hvs => ?_⟩
  have hall : os.map (A.den ν) = vs := by
    apply List.ext_getElem?
    intro i
    by_cases hi : i < os.length
    · rw [List.getElem?_map, List.getElem?_eq_getElem hi]
      simp only [Option.map_some]
      rw [hos.2 i _ (List.getElem?_eq_getElem hi), ← hvs, List.getElem?_drop]
      have hlen : 1 + i < (F l.fid ((l.inv.map A.r ++ ins).map (A.den ν))).length := by
        have := congrArg List.length hvs
        simp only [List.length_drop] at this
        have := hos.1
        omega
      rw [List.getD_eq_getElem?_getD, List.getElem?_eq_getElem hlen]
      rfl
    · rw [List.getElem?_eq_none (by simpa using hi), List.getElem?_eq_none (by have := hos.1; omega)]
  cases os with
  | nil => exact absurd (List.eq_nil_of_length_eq_zero (by simpa using hos.1.symm)) hout
  | cons o os => exact hall

theorem evSymWith_ok {ν : Nat → DV} {ev : St → M X} {b : Code} {fid : Nat} {lh : LH} {p : Pat} {s : St}
    (hev : ∀ (ν' : Nat → DV) (s' : St), M.sat F ν' (ev s') (fun x => ∀ ρ a w, RR ν' E ρ ⟨s', []⟩ a w → b.wp P (XPost ν' E x) a w)) :
    M.sat F ν (evSymWith E.n0 ev fid lh p s) (fun z => ∀ ρ a w, RR ν E ρ ⟨s, []⟩ a w → LoopRun P b (XPost ν E z) a w) := by
  intro n z n' e' d' h hsat hob
  unfold evSymWith at h
  dsimp only at h
  generalize hk0 : p.tys.length = k at h
  generalize hg : guess k p.st s = g at h
  have hgl : g.1.length = k := by rw [← hg]; exact guess_len _ _ _
  split at h
  · cases h
  rename_i r _ e d hround
  generalize hl : lrOf fid n k e d r p.tys lh = l at h
  have l1 : l.fid = fid := by subst hl; rfl
  have l2 : l.n = n := by subst hl; rfl
  have l3 : l.k = k := by subst hl; rfl
  have l4 : l.nodes = e := by subst hl; rfl
  have l5 : l.owes = ndsOf d := by subst hl; rfl
  have l6 : l.c = r.c := by subst hl; rfl
  have l7 : l.nx = r.nx := by subst hl; rfl
  have l8 : l.outs = r.outs := by subst hl; rfl
  have l9 : l.ts = p.tys := by subst hl; rfl
  clear hl
  split at h
  rotate_left
  · cases h
  rename_i hchk
  simp only [Bool.and_eq_true] at hchk
  obtain ⟨⟨⟨⟨⟨⟨hsub, hkeep⟩, hn0⟩, hty⟩, hwf⟩, hnxlen⟩, htye⟩ := hchk
  have hnxlen := Nat.eq_of_beq_eq_true hnxlen
  have hn0 := Nat.le_of_ble_eq_true hn0
  -- what a round says, whatever goes round
  have hrnd : ∀ xs : List DV, xs.length = k → (∀ q ∈ l.owes, Nd.holds (l.env F ν xs) q) → (∀ q ∈ lpsOf d, LoopSound F q) → RoundOK P (l.env F ν xs) E b p (p.st.inst (idsFrom n k)) r := by
    intro xs hx ho hlp
    obtain ⟨_, _, hS⟩ := LR.env_spec (F := F) (l := l) ν (xs := xs) (by rw [l3]; exact hx) (by rw [l2, l3, l4]; exact hwf)
    refine evRound_sat hn0 (hev (l.env F ν xs) (p.st.inst (idsFrom n k))) (n + k) r _ e d hround (by rw [← l4]; exact hS) ?_
    have key : ∀ (d : List Ob), (∀ q ∈ ndsOf d, Nd.holds (l.env F ν xs) q) → (∀ q ∈ lpsOf d, LoopSound F q) → ∀ q ∈ d, Ob.holds F (l.env F ν xs) q := by
      intro d
      induction d with
      | nil => intro _ _ q hq; cases hq
      | cons o d ih =>
        intro h1 h2 q hq
        cases o with
        | nd o =>
          rcases List.mem_cons.1 hq with rfl | hq
          · exact h1 o (by simp [ndsOf])
          · exact ih (fun q hq => h1 q (by simp [ndsOf, hq])) h2 q hq
        | lp o =>
          rcases List.mem_cons.1 hq with rfl | hq
          · exact h2 o (by simp [lpsOf])
          · exact ih h1 (fun q hq => h2 q (by simp [lpsOf, hq])) q hq
    exact key d (by rw [← l5]; exact ho) hlp
  have hmain : M.sat F ν (lrGo fid (p.at r.als) g.1 d l r.ks) (fun x => (∀ q ∈ lpsOf d, LoopSound F q) ∧ LoopSound F l ∧ AtOK F ν (p.at r.als) l (l.inv.map A.r ++ g.1) r.ks x) := by
    unfold lrGo
    refine sat_bind (obLps_sat (lpsOf d)) fun _ h1 => sat_bind obLp_sat fun _ h2 => ?_
    rw [← l1]
    exact sat_mono evLoopAt_sat fun x hx => ⟨h1, h2, hx⟩
  obtain ⟨hlps, ⟨μ, hμ⟩, hA⟩ := hmain n z n' e' d' h hsat hob
  intro ρ a w hrr
  have hids : ∀ xs : List DV, xs.length = k → (idsFrom n k).map (A.den (l.env F ν xs)) = xs := by
    intro xs hx
    obtain ⟨_, h2, _⟩ := LR.env_spec (F := F) (l := l) ν (xs := xs) (by rw [l3]; exact hx) (by rw [l2, l3, l4]; exact hwf)
    rw [idsFrom_den (fun i => xs.getD i default) k n 0 (fun i hi => by rw [← l2, h2 i (by rw [l3]; exact hi)]; simp)]
    exact range_getD xs k hx
  have hold : ∀ xs : List DV, xs.length = k → ∀ i, i < n → l.env F ν xs i = ν i := by
    intro xs hx
    obtain ⟨h1, _, _⟩ := LR.env_spec (F := F) (l := l) ν (xs := xs) (by rw [l3]; exact hx) (by rw [l2, l3, l4]; exact hwf)
    intro i hi; exact h1 i (by rw [l2]; exact hi)
  -- the loop, from a round's head
  have main : ∀ (m : Nat) (xs : List DV), xs.length = k → μ (l.inv.map ν ++ xs) < m → ((F l.fid (l.inv.map ν ++ xs)).getD 0 default).toB = true →
      F l.fid (l.inv.map ν ++ xs) = F l.fid ((l.inv.map A.r ++ g.1).map (A.den ν)) →
      ∀ ρ a w, RR (l.env F ν xs) E ρ ⟨p.st.inst (idsFrom n k), []⟩ a w → LoopRun P b (XPost ν E z) a w := by
    intro m
    induction m with
    | zero => intro xs _ h; omega
    | succ m ih =>
      intro xs hx hm hpre hF ρ a w hrr
      obtain ⟨g1, g2, g3⟩ := hμ ν xs (by rw [l3]; exact hx) hpre
      have hr := hrnd xs hx g1 hlps
      refine LoopRun.step (wp_mono (hr.run ρ a w hrr) fun e a' w' hp => ?_)
      obtain ⟨hk', ρ', hr'⟩ := hp
      cases hn : (r.x.sel (l.env F ν xs)).1.isNormal with
      | true =>
        have he := K.is_normal hk' hn
        subst he
        have hc : l.c.bool (l.env F ν xs) = true := by rw [l6, hr.cond, hn]
        obtain ⟨h1, h2, h3⟩ := g2 hc
        have hxs' : (l.nx.map (A.den (l.env F ν xs))).length = k := by rw [l7]; simpa using hnxlen
        obtain ⟨ρ2, hr2⟩ := hr.next hn ρ' a' w' hr'
        refine ih _ hxs' (by omega) h1 (h2.trans hF) ρ2 a' w' ?_
        refine RR.inst (p := A.below n) (fun x hx2 => A.den_congr (n := n) (fun i hi => by rw [hold xs hx i hi, hold _ hxs' i hi]) hx2) (PEq.of_den (by rw [hk0]; exact hnxlen) ?_) hty hr2
        rw [hids _ hxs', l7]
      | false =>
        have hne := K.is_not hk' hn
        have hc : l.c.bool (l.env F ν xs) = false := by rw [l6, hr.cond, hn]
        have hF2 := g3 hc
        obtain ⟨i, as, h1, h2, h3⟩ := hr.out hn
        obtain ⟨os, ka, f4, f5⟩ := hA.out
        rw [hF] at hF2
        have f6 := f5 _ (by simpa using hF2.len) rfl
        rw [← f6, l9, l8] at hF2
        have h4 : PEq (l.env F ν xs) ν (.i :: p.tys) r.outs (ka :: os) := PEq.of_teq hF2
        have h5 := h3.trans h4
        have hka : ka.int ν = (i : Int) := h5.1.symm
        have hsel := f4 i _ h1 hka
        have hpost : XPost ν E z e a' w' := by
          unfold XPost
          rw [hsel]
          obtain ⟨ρ2, hr2⟩ := h2 ρ' a' w' hr'
          exact ⟨hk', ρ2, RR.inst (p := A.below n) (fun x hx2 => A.den_congr (n := n) (fun i hi => hold xs hx i hi) hx2) h5.2 (List.all_eq_true.1 htye _ (List.mem_of_getElem? h1)) hr2⟩
        cases e <;> first | exact absurd rfl hne | exact hpost
  have hx0 : (g.1.map (A.den ν)).length = k := by simpa using hgl
  have harg : (l.inv.map A.r ++ g.1).map (A.den ν) = l.inv.map ν ++ g.1.map (A.den ν) := by
    rw [List.map_append, List.map_map]
    rfl
  obtain ⟨ρ2, hr2⟩ := fits_of (ν := ν) (E := E) (p := p) hsub hkeep hn0 ρ a w hrr
  refine main (μ (l.inv.map ν ++ g.1.map (A.den ν)) + 1) (g.1.map (A.den ν)) hx0 (by omega) (by rw [← harg]; exact hA.pre) (by rw [harg]) ρ2 a w ?_
  refine RR.inst (p := A.below n) (fun x hx2 => A.den_congr (n := n) (fun i hi => (hold _ hx0 i hi).symm) hx2) (PEq.of_den (by rw [hk0]; exact hgl) ?_) hty hr2
  rw [hids _ hx0]

theorem evSymH_ok {ν : Nat → DV} {ev : St → M X} {b : Code} {fid : Nat} {D : List Nat} {lh : LH} {s : St}
    (hev : ∀ (ν' : Nat → DV) (s' : St), M.sat F ν' (ev s') (fun x => ∀ ρ a w, RR ν' E ρ ⟨s', []⟩ a w → b.wp P (XPost ν' E x) a w)) :
    M.sat F ν (evSymH E.n0 ev fid D lh s) (fun z => ∀ ρ a w, RR ν E ρ ⟨s, []⟩ a w → LoopRun P b (XPost ν E z) a w) := by
  intro n z n' e' d' h hsat hob
  unfold evSymH at h
  exact evSymWith_ok hev n z n' e' d' h hsat hob
theorem evSym_ok {ν : Nat → DV} {ev : St → M X} {b : Code} {fid : Nat} {D : List Nat} {mat : List (Nat × List LT)} {s : St}
    (hev : ∀ (ν' : Nat → DV) (s' : St), M.sat F ν' (ev s') (fun x => ∀ ρ a w, RR ν' E ρ ⟨s', []⟩ a w → b.wp P (XPost ν' E x) a w)) :
    M.sat F ν (evSym E.n0 ev fid D mat s) (fun z => ∀ ρ a w, RR ν E ρ ⟨s, []⟩ a w → LoopRun P b (XPost ν E z) a w) := by
  intro n z n' e' d' h hsat hob
  unfold evSym at h
  exact evSymH_ok hev n z n' e' d' h hsat hob
theorem optAll_nth {α : Type} {p : α → Bool} : ∀ {l : List (Option α)} {i : Nat} {v : α}, l.all (optAll p) = true → nth l i = some v → p v = true
  | [], i, v, _, h => by cases i <;> cases h
  | x :: r, 0, v, h, hv => by
    simp only [List.all_cons, Bool.and_eq_true] at h
    have : x = some v := hv
    subst this
    exact h.1
  | x :: r, i + 1, v, h, hv => by
    simp only [List.all_cons, Bool.and_eq_true] at h
    exact optAll_nth h.2 hv
theorem matSlot_ok {ν : Nat → DV} {i : Nat} {ts : List LT} {s : St} : M.sat F ν (matSlot i ts s) (fun s1 => ∀ ρ a w, RR ν E ρ ⟨s, []⟩ a w → ∃ ρ', RR ν E ρ' ⟨s1, []⟩ a w) := by
  unfold matSlot
  split
  · rename_i l hl
    refine sat_ite (fun hc => ?_) (fun _ => sat_pure fun ρ a w h => ⟨ρ, h⟩)
    simp only [Bool.and_eq_true] at hc
    refine sat_bind (sat_pull2 fun w => matCells_sat (E := E) (w := w) _ _ _) fun q hq => ?_
    split
    · rename_i l' hl'
      refine sat_pure fun ρ a w h => ?_
      have hn := isNil_spec hc.1.1
      obtain ⟨h1, h2, h3, h4, ρ', h5, h6, h7⟩ := hq w ρ h.hs hc.1.2 (by subst hn; rfl) (fun y hy => by
        rcases List.mem_cons.1 hy with rfl | hy
        · subst hn; trivial
        · cases hy)
      rw [hl'] at h7 h3
      have h7 : l'.conc ν ρ' = l.conc ν ρ := by simpa using h7
      have hg : l'.good ν := h3 l' (by simp)
      refine ⟨ρ', ⟨h.act.defers, by rw [h.act.size]; exact (setNth_length _ _ _).symm, fun t v hv => ?_, fun e he => by cases he⟩, h6⟩
      by_cases ht : t = i
      · subst ht
        have h8 := h.act.slot t _ hl
        have hv : nth (setNth (some (V.s (.one l'))) s.sl t) t = some v := hv
        rw [nth_setNth_same] at hv
        split at hv
        · cases hv
          exact ⟨V1.good_one.2 hg, by rw [h8.2]; exact congrArg some h7.symm⟩
        · cases hv
      · have hv : nth (setNth (some (V.s (.one l'))) s.sl i) t = some v := hv
        rw [nth_setNth_ne _ _ _ _ (fun hc => ht hc.symm)] at hv
        have h8 := h.act.slot t _ hv
        have hlt : v.lt s.hp.length = true := optAll_nth hc.2 hv
        exact ⟨h8.1, by rw [h8.2, V.conc_low hlt h5]⟩
    · exact sat_fail
  · exact sat_pure fun ρ a w h => ⟨ρ, h⟩
theorem matSlots_ok {ν : Nat → DV} : ∀ {h : List (Nat × List LT)} {s : St}, M.sat F ν (matSlots h s) (fun s1 => ∀ ρ a w, RR ν E ρ ⟨s, []⟩ a w → ∃ ρ', RR ν E ρ' ⟨s1, []⟩ a w)
  | [], s => sat_pure fun ρ a w h => ⟨ρ, h⟩
  | (i, ts) :: r, s => sat_bind matSlot_ok fun s1 h1 => sat_mono (matSlots_ok (h := r) (s := s1)) fun s2 h2 ρ a w h => by
    obtain ⟨ρ', h3⟩ := h1 ρ a w h
    exact h2 ρ' a w h3
theorem evSymN_ok {ν : Nat → DV} {ev : St → M X} {b : Code} {fid : Nat} {D : List Nat} {lh : Option LH} {s : St}
    (hev : ∀ (ν' : Nat → DV) (s' : St), M.sat F ν' (ev s') (fun x => ∀ ρ a w, RR ν' E ρ ⟨s', []⟩ a w → b.wp P (XPost ν' E x) a w)) :
    M.sat F ν (evSymN E.n0 ev fid D lh s) (fun z => ∀ ρ a w, RR ν E ρ ⟨s, []⟩ a w → LoopRun P b (XPost ν E z) a w) := by
  intro n z n' e' d' h hsat hob
  have key : ∀ {f : St → M X} (hs : List (Nat × List LT)), (∀ s1, M.sat F ν (f s1) (fun z => ∀ ρ a w, RR ν E ρ ⟨s1, []⟩ a w → LoopRun P b (XPost ν E z) a w)) →
      M.sat F ν (do let s1 ← matSlots hs s; f s1) (fun z => ∀ ρ a w, RR ν E ρ ⟨s, []⟩ a w → LoopRun P b (XPost ν E z) a w) := fun hs hf =>
    sat_bind matSlots_ok fun s1 h1 => sat_mono (hf s1) fun z hz ρ a w hr => by
      obtain ⟨ρ', h3⟩ := h1 ρ a w hr
      exact hz ρ' a w h3
  unfold evSymN at h
  split at h
  · exact key _ (fun s1 => evSymH_ok hev) n z n' e' d' h hsat hob
  · split at h
    · exact sat_orElse (key _ fun s1 => evSym_ok hev) (evSym_ok hev) n z n' e' d' h hsat hob
    · exact evSym_ok hev n z n' e' d' h hsat hob
theorem sat_opt {α : Type} {ν : Nat → DV} {x : M α} {Q : α → Prop} (h : M.sat F ν x Q) : M.sat F ν (M.opt x) (fun o => ∀ a, o = some a → Q a) := by
  intro n a n' e d h1 h2 h3
  unfold M.opt at h1
  cases hx : x n with
  | some r =>
    obtain ⟨b, n1, e1, d1⟩ := r
    rw [hx] at h1
    simp only [Option.some.injEq, Prod.mk.injEq] at h1
    obtain ⟨rfl, rfl, rfl, rfl⟩ := h1
    intro c hc
    cases hc
    exact h n b n1 e1 d1 hx h2 h3
  | none =>
    rw [hx] at h1
    simp only [Option.some.injEq, Prod.mk.injEq] at h1
    obtain ⟨rfl, _⟩ := h1
    intro c hc
    cases hc

theorem wpList_mono {ops : Array Oper} {Q Q' : Exit → Act → World → Prop} (h : ∀ e a w, Q e a w → Q' e a w) : ∀ (l : List Oper) (a : Act) (w : World), wpList P ops Q l a w → wpList P ops Q' l a w
  | [], a, w, hh => h _ _ _ hh
  | o :: l, a, w, hh => by
    simp only [wpList] at hh ⊢
    split
    · rename_i hw
      rw [if_pos hw] at hh
      exact operWp_mono (wpList_mono h l) (fun e a w _ => h e a w) hh
    · rename_i hw
      rw [if_neg hw] at hh
      exact wpList_mono h l _ _ hh

theorem topGuard_spec {r : RS} : ∀ {n d : Nat} {g : Nat × A}, topGuard r n d = some g → nth r.st.sl g.1 = some (.s (.one (.b g.2)))
  | 0, _, _, h => by cases h
  | n + 1, d, g, h => by
    unfold topGuard at h
    split at h
    · rename_i a ha
      cases h
      exact ha
    · cases h
    · split at h
      · exact topGuard_spec h
      · cases h

theorem setGl_spec {ν : Nat → DV} {ρ : Nat → Loc} {d : Nat} {b : Bool} {a : Act} (hd : a.tmps[d]? = some (.bool b)) : ∀ (gl : List GE) (sl : List (Option V)),
    (∀ e ∈ gl, (a.tmps[e.d]? = some (.bool e.want) → e.v.good ν ∧ a.tmps[e.t]? = some (e.v.conc ν ρ)) ∧ (a.tmps[e.d]? ≠ some (.bool e.want) → a.tmps[e.t]? = some undef)) →
    (∀ t v, nth sl t = some v → v.good ν ∧ a.tmps[t]? = some (v.conc ν ρ)) →
    (setGl d b gl sl).1.length = sl.length ∧ (∀ t v, nth (setGl d b gl sl).1 t = some v → v.good ν ∧ a.tmps[t]? = some (v.conc ν ρ)) ∧
    (∀ e ∈ (setGl d b gl sl).2, (a.tmps[e.d]? = some (.bool e.want) → e.v.good ν ∧ a.tmps[e.t]? = some (e.v.conc ν ρ)) ∧ (a.tmps[e.d]? ≠ some (.bool e.want) → a.tmps[e.t]? = some undef))
  | [], sl, _, h2 => ⟨rfl, h2, fun e he => by cases he⟩
  | e :: l, sl, h1, h2 => by
    obtain ⟨k1, k2, k3⟩ := setGl_spec hd l sl (fun x hx => h1 x (List.mem_cons_of_mem _ hx)) h2
    unfold setGl
    dsimp only
    split
    · rename_i he
      have he := Nat.eq_of_beq_eq_true he
      dsimp only
      refine ⟨?_, fun t v hv => ?_, k3⟩
      · split
        · rw [setNth_length]; exact k1
        · exact k1
      · split at hv
        · rename_i hc
          by_cases ht : e.t = t
          · subst ht
            rw [nth_setNth_same] at hv
            split at hv
            · split at hv
              · rename_i hw
                cases hv
                exact (h1 e (by simp)).1 (by rw [he, beqB_eq hw]; exact hd)
              · rename_i hw
                cases hv
                exact ⟨V.good_s.2 (V1.good_one.2 trivial), (h1 e (by simp)).2 (by rw [he, hd]; intro hh; cases hh; exact beqB_ne hw rfl)⟩
            · cases hv
          · rw [nth_setNth_ne _ _ _ _ ht] at hv
            exact k2 t v hv
        · exact k2 t v hv
    · dsimp only
      refine ⟨k1, k2, fun x hx => ?_⟩
      rcases List.mem_cons.1 hx with rfl | hx
      · exact h1 x (by simp)
      · exact k3 x hx

theorem RR.know_rel {ν : Nat → DV} {ρ : Nat → Loc} {r : RS} {a : Act} {w : World} {d : Nat} {c : A} {b : Bool} (h : RR ν E ρ r a w) (hd : nth r.st.sl d = some (.s (.one (.b c)))) (hc : c.bool ν = b) : RR ν E ρ (r.know d b) a w := by
  have h0 : a.tmps[d]? = some (.bool b) := by
    rw [(h.act.slot d _ hd).2, ← hc]
    rfl
  have hk := setGl_spec (ν := ν) (ρ := ρ) h0 r.gl (setNth (some (.s (.one (.b (.t b))))) r.st.sl d) h.act.gl (fun t v hv => by
    by_cases ht : d = t
    · subst ht
      rw [nth_setNth_same] at hv
      split at hv
      · cases hv
        exact ⟨V.good_s.2 (V1.good_one.2 trivial), h0⟩
      · cases hv
    · rw [nth_setNth_ne _ _ _ _ ht] at hv
      exact h.act.slot t v hv)
  refine ⟨⟨h.act.defers, ?_, hk.2.1, hk.2.2⟩, h.hs⟩
  rw [h.act.size]
  exact (hk.1.trans (setNth_length _ _ _)).symm

theorem evOpersX_sat (hS : SigsOK P I gK S F) (hE : E.Ok gK) (hn0 : S.n0 = E.n0) (hI : ∀ w, Fr E.W E.w0 w → I w) {ν : Nat → DV} {ops : Array Oper} : ∀ (n : Nat) (l : List Oper) (r : RS),
    M.sat F ν (evOpersX P S ops.toList n l r) (fun x => ∀ ρ a w, RR ν E ρ r a w → wpList P ops (XPost ν E x) l a w)
  | 0, _, _ => sat_fail
  | _ + 1, [], r => sat_pure fun ρ a w h => ⟨trivial, ρ, h.drop⟩
  | n + 1, o :: l, r => by
    unfold evOpersX
    refine sat_bind (sat_opt (evOper_sat (E := E) hS hE hn0 hI false)) fun z hz => ?_
    cases z with
    | some r1 =>
      refine sat_mono (evOpersX_sat hS hE hn0 hI n l r1) fun x hx ρ a w h => ?_
      have := (hz r1 rfl).1 rfl ρ a w h (wpList P ops (XPost ν E x) l) (XPost ν E x) (fun ρ' a' w' h' => hx ρ' a' w' h')
      simp only [wpList]
      split
      · rename_i hw; rw [if_pos hw] at this; exact .inl this
      · rename_i hw; rw [if_neg hw] at this; exact this
    | none =>
      dsimp only
      split
      · exact sat_fail
      · refine sat_bind sat_true fun d _ => sat_bind (sat_lift (Q := fun g => topGuard r 8 d = some g) fun a h => h) fun g hg => sat_ite (fun _ => sat_fail) (fun _ => ?_)
        have hs := topGuard_spec hg
        refine sat_bind (sat_under (evOpersX_sat hS hE hn0 hI n (o :: l) (r.know g.1 true))) fun x hx => sat_bind (sat_under (evOpersX_sat hS hE hn0 hI n (o :: l) (r.know g.1 false))) fun y hy => sat_pure fun ρ a w h => ?_
        have hmono : ∀ {z : X}, (∀ e a w, XPost ν E z e a w → XPost ν E (.br g.2 x y) e a w) → wpList P ops (XPost ν E z) (o :: l) a w → wpList P ops (XPost ν E (.br g.2 x y)) (o :: l) a w := fun hz hh => wpList_mono hz _ _ _ hh
        cases hb : g.2.bool ν with
        | true => exact hmono (fun e a w hp => by unfold XPost at hp ⊢; simp only [X.sel, hb, if_true]; exact hp) (hx hb ρ a w (h.know_rel hs hb))
        | false => exact hmono (fun e a w hp => by unfold XPost at hp ⊢; simp only [X.sel, hb, Bool.false_eq_true, if_false]; exact hp) (hy hb ρ a w (h.know_rel hs hb))
end
end Go.Sx

namespace Go.Sx
open Go.RowKit
section
variable {P : Program} {I : World → Prop} {S : Sigs} {F : FEnv} {E : Env} {gK : Nat}

def CodeOK (P : Program) (ν : Nat → DV) (E : Env) (c : Code) (s : St) (x : X) : Prop :=
  ∀ ρ a w, RR ν E ρ ⟨s, []⟩ a w → c.wp P (XPost ν E x) a w ∧ ∀ b, c = .loop b → LoopRun P b (XPost ν E x) a w

theorem CodeOK.plain {ν : Nat → DV} {c : Code} {s : St} {x : X} (hc : ∀ b, c ≠ .loop b) (h : ∀ ρ a w, RR ν E ρ ⟨s, []⟩ a w → c.wp P (XPost ν E x) a w) : CodeOK P ν E c s x :=
  fun ρ a w hr => ⟨h ρ a w hr, fun b hb => absurd hb (hc b)⟩

theorem evCode_ok (hS : SigsOK P I gK S F) (hE : E.Ok gK) (hn0 : S.n0 = E.n0) (hI : ∀ w, Fr E.W E.w0 w → I w) : ∀ (n : Nat) (ν : Nat → DV) (c : Code) (s : St), M.sat F ν (evCode P S n c s) (CodeOK P ν E c s)
  | 0, _, _, _ => sat_fail
  | n + 1, ν, c, s => by
    have evCode_sat : ∀ (hS : SigsOK P I gK S F) (n' : Nat) (hn : n' = n) (c : Code) (s : St), M.sat F ν (evCode P S n' c s) (fun x => ∀ ρ a w, RR ν E ρ ⟨s, []⟩ a w → c.wp P (XPost ν E x) a w) :=
      fun hS n' hn c s => by subst hn; exact sat_mono (evCode_ok hS hE hn0 hI n' ν c s) fun x hx ρ a w h => (hx ρ a w h).1
    have plain : ∀ {x : M X} {Q : X → Prop}, (∀ b, c ≠ .loop b) → M.sat F ν x (fun z => ∀ ρ a w, RR ν E ρ ⟨s, []⟩ a w → c.wp P (XPost ν E z) a w) → M.sat F ν x (CodeOK P ν E c s) :=
      fun hc h => sat_mono h fun z hz => CodeOK.plain hc hz
    cases c <;> simp only [evCode, hn0]
    case loop c =>
      refine sat_bind (evCode_sat hS n rfl c s) fun u hu => ?_
      refine sat_mono (andThen_sat (_G := fun _ => True) (N := fun Q a w => LoopRun P c Q a w) (fun s' => sat_mono (evCode_ok hS hE hn0 hI n ν (.loop c) s') fun x hx ρ a w h => (hx ρ a w h).2 c rfl) (fun Q Q' a w h hw => LoopRun.mono h hw)) fun z hz ρ a w h => ?_
      have := LoopRun.step (wp_mono (hu ρ a w h) hz)
      exact ⟨this.wp, fun b hb => by cases hb; exact this⟩
    all_goals refine plain (Q := fun _ => True) (fun b => by simp) ?_
    case skip => exact sat_pure fun ρ a w h => wp_skip ⟨trivial, ρ, h⟩
    case label l => exact sat_pure fun ρ a w h => wp_label ⟨trivial, ρ, h⟩
    case region id ops draw =>
      refine sat_bind (sat_opt (evRegion_sat (E := E) (id := id) hS hE hn0 hI)) fun z hz => ?_
      cases z with
      | some s' => exact sat_pure fun ρ a w h => hz s' rfl ρ a w h _ fun ρ' a' w' h' => ⟨trivial, ρ', h'⟩
      | none =>
        refine sat_ite (fun _ => sat_fail) (fun hd => ?_)
        have hd : draw = false := by simpa using hd
        subst hd
        exact sat_mono (evOpersX_sat (E := E) hS hE hn0 hI (ops := ops) _ ops.toList ⟨s, []⟩) fun x hx ρ a w h => wp_region_list (hx ρ a w h)
    case seq x y =>
      refine sat_bind (evCode_sat hS n rfl x s) fun u hu => ?_
      refine sat_mono (andThen_sat (_G := fun _ => True) (N := fun Q a w => y.wp P Q a w) (fun s' => evCode_sat hS n rfl y s') (fun Q Q' a w h hw => wp_mono hw h)) fun z hz ρ a w h => ?_
      exact wp_seq (wp_mono (hu ρ a w h) hz)
    case cond c x y =>
      refine sat_bind (sat_lift (Q := fun v => rd ⟨s, []⟩ [] c = some v) fun a h => h) fun v hv => ?_
      split
      · rename_i b
        have hread : ∀ ρ a w, RR ν E ρ ⟨s, []⟩ a w → a.eval c = .bool (b.bool ν) := fun ρ a w h => (rd_spec h.act (fun p hp => by simp at hp) hv).2
        split
        · exact sat_mono (evCode_sat hS n rfl x s) fun u hu ρ a w h => wp_cond_true (hread ρ a w h) (hu ρ a w h)
        · exact sat_mono (evCode_sat hS n rfl y s) fun u hu ρ a w h => wp_cond_false (hread ρ a w h) (hu ρ a w h)
        · refine sat_ite (fun _ => ?_) (fun _ => sat_ite (fun _ => ?_) (fun _ => ?_))
          · refine sat_bind mkNot_sat fun q hq => sat_bind (sat_owe (Q := fun _ => b.bool ν = false) fun h => by rw [hq] at h; simpa using h) fun _ hb => ?_
            exact sat_mono (evCode_sat hS n rfl y s) fun u hu ρ a w h => wp_cond_false (by rw [hread ρ a w h, hb]) (hu ρ a w h)
          · refine sat_bind (sat_owe (Q := fun _ => b.bool ν = true) fun h => h) fun _ hb => ?_
            exact sat_mono (evCode_sat hS n rfl x s) fun u hu ρ a w h => wp_cond_true (by rw [hread ρ a w h, hb]) (hu ρ a w h)
          refine sat_bind (sat_under (evCode_sat hS n rfl x s)) fun u hu => sat_bind (sat_under (evCode_sat hS n rfl y s)) fun v hv => sat_pure fun ρ a w h => ?_
          refine wp_cond_split (hread ρ a w h) (fun hb => wp_mono (hu hb ρ a w h) fun e a w hp => ?_) (fun hb => wp_mono (hv hb ρ a w h) fun e a w hp => ?_)
          · unfold XPost at hp ⊢
            simp only [X.sel, hb, if_true]; exact hp
          · unfold XPost at hp ⊢
            simp only [X.sel, hb]; exact hp
      · exact sat_fail
    case block id c =>
      have hblk : ∀ {x : M X}, M.sat F ν x (fun u => ∀ ρ a w, RR ν E ρ ⟨s, []⟩ a w → c.wp P (XPost ν E u) a w) →
          M.sat F ν (do pure ((← x).inBlock id) : M X) (fun z => ∀ ρ a w, RR ν E ρ ⟨s, []⟩ a w → (Code.block id c).wp P (XPost ν E z) a w) := by
        intro x hx
        refine sat_bind hx fun u hu => sat_pure fun ρ a w h => wp_block (wp_mono (hu ρ a w h) fun e a w hp => ?_)
        obtain ⟨hk, ρ', hr⟩ := hp
        have hpost : ∀ e', ((u.sel ν).1.inBlock id).is e' → XPost ν E (u.inBlock id) e' a w := fun e' he' => by
          unfold XPost
          rw [inBlock_sel]
          exact ⟨he', ρ', hr⟩
        generalize hkk : (u.sel ν).1 = k at *
        cases k <;> cases e <;> simp only [K.is] at hk <;> first | exact hk.elim | skip
        · exact hpost .normal trivial
        · exact hpost .ret trivial
        · rename_i i j
          subst hk
          simp only [Exit.inBlock]
          by_cases hij : i = id
          · rw [if_pos hij]; exact hpost .normal (by subst hij; simp [K.inBlock, K.is])
          · rw [if_neg hij]; exact hpost (.exit i) (by simp [K.inBlock, K.is, hij])
        · subst hk; exact hpost _ rfl
      split
      · split
        · rename_i fid _ b
          refine hblk (sat_mono (evSymN_ok (E := E) (b := b) fun ν' s' => sat_mono (evCode_ok hS hE hn0 hI n ν' b s') fun x hx ρ a w h => (hx ρ a w h).1) fun z hz ρ a w h => (hz ρ a w h).wp)
        · exact hblk (evCode_sat hS n rfl c s)
      · exact hblk (evCode_sat hS n rfl c s)
    case exit id => exact sat_pure fun ρ a w h => wp_exit ⟨rfl, ρ, h⟩
    case goto l => exact sat_pure fun ρ a w h => wp_goto ⟨rfl, ρ, h⟩
    case scope c =>
      refine sat_bind (evCode_sat hS n rfl c s) fun u hu => sat_ite (fun hg => sat_pure fun ρ a w h => wp_scope_straight (wp_mono (hu ρ a w h) fun e a w hp => ?_)) (fun _ => sat_fail)
      cases e <;> first | exact hp | skip
      rename_i l
      have := hp.1
      have hng := noGoto_sel (ν := ν) u hg l
      generalize (u.sel ν).1 = k at *
      cases k <;> simp only [K.is] at this
      subst this
      exact absurd rfl hng
    case ret => exact sat_pure fun ρ a w h => wp_ret ⟨trivial, ρ, h⟩
    all_goals exact sat_fail
end
end Go.Sx

namespace Go.Sx
open Go.RowKit

section
variable {P : Program} {I : World → Prop} {S : Sigs} {F : FEnv} {E : Env} {gK : Nat} {ν : Nat → DV}

def wrapVals : List Value → Value
  | [v] => v
  | l => .tuple l.toArray
theorem wrapResults_conc (l : List V1) (ρ : Nat → Loc) : (wrapResults l).conc ν ρ = wrapVals (l.map (V1.conc ν ρ)) ∧ ((∀ x ∈ l, V1.good ν x) → (wrapResults l).good ν) := by
  unfold wrapResults wrapVals
  match l with
  | [] => exact ⟨rfl, fun _ => by simp [V.good]⟩
  | [v] => exact ⟨rfl, fun h => h v (by simp)⟩
  | v :: u :: r => exact ⟨rfl, fun h => h⟩

def resM (tmps : Array Value) : ResultVar → Sem Value
  | .tmp t => pure (tmps.getD t undef)
  | .cell p t => do loadVar t (← asAddr (tmps.getD p undef))
theorem results_resM (fn : Func) (tmps : Array Value) : results fn tmps = (do let vs ← fn.results.mapM (resM tmps); pure (if h : vs.size = 1 then vs[0] else .tuple vs)) := by
  unfold results
  congr 2

theorem resOf_sat {s : St} : ∀ (l : List ResultVar), M.sat F ν (resOf P s l) (fun vs => ∀ ρ a w, ARel ν ρ ⟨s, []⟩ a → HRel E ν ρ s.hp w →
    (∀ v ∈ vs, V1.good ν v) ∧ (l.mapM (resM a.tmps)).run P w = .ok (vs.map (V1.conc ν ρ)) w)
  | [] => sat_pure fun ρ a w _ _ => ⟨by simp, rfl⟩
  | .tmp t :: l => by
    unfold resOf
    refine sat_bind (sat_lift (Q := fun v => nth s.sl t = some v) fun a h => h) fun v hv => ?_
    split
    · rename_i v1
      refine sat_bind (resOf_sat l) fun vs hvs => sat_pure fun ρ a w ha hh => ?_
      obtain ⟨h1, h2⟩ := hvs ρ a w ha hh
      obtain ⟨g1, g2⟩ := ha.slot t _ hv
      refine ⟨fun x hx => ?_, ?_⟩
      · rcases List.mem_cons.1 hx with rfl | hx
        · exact g1
        · exact h1 x hx
      · have e : a.tmps.getD t undef = v1.conc ν ρ := by simp [g2, V.conc]
        rw [List.mapM_cons]
        simp only [Sem.run_bind, resM, Sem.run_pure, Result.andThen_ok, e, h2, List.map_cons]
    · exact sat_fail
  | .cell t ty :: l => by
    unfold resOf
    refine sat_bind (sat_lift (Q := fun v => nth s.sl t = some v) fun a h => h) fun v hv => ?_
    split
    · rename_i b off
      refine sat_bind (sat_lift (Q := fun k => tk P ty = some k) fun a h => h) fun k hk => ?_
      refine sat_bind (sat_lift (Q := fun k => tsize P ty = some k) fun a h => h) fun sz hs => ?_
      refine sat_bind (sat_lift (Q := fun bk => nth s.hp b = some bk) fun a h => h) fun bk hbk => ?_
      split
      · rename_i o cs
        by_cases hg : off.good ν
        · refine sat_bind (loadCells_sat (own := o) hk hs hg) fun u hu => sat_bind (resOf_sat l) fun vs hvs => sat_pure fun ρ a w ha hh => ?_
          obtain ⟨h1, h2⟩ := hvs ρ a w ha hh
          obtain ⟨g1, g2⟩ := ha.slot t _ hv
          obtain ⟨u1, u2⟩ := hu ρ w (ρ b) (hh.blk b _ hbk)
          refine ⟨fun x hx => ?_, ?_⟩
          · rcases List.mem_cons.1 hx with rfl | hx
            · exact u1
            · exact h1 x hx
          · have e : a.tmps.getD t undef = .pointer (some ⟨(ρ b).blk, (ρ b).off + off.val ν, none⟩) := by simp [g2, V.conc, V1.conc, Lf.conc]
            have er : (resM a.tmps (.cell t ty)).run P w = .ok (u.conc ν ρ) w := by
              simp only [resM, Sem.run_bind, e, asAddr, Sem.run_pure, Result.andThen_ok, u2]
            rw [List.mapM_cons]
            simp only [Sem.run_bind, er, Sem.run_pure, Result.andThen_ok, h2, List.map_cons]
        · refine sat_bind sat_true fun u _ => sat_bind sat_true fun vs _ => sat_pure fun ρ a w ha hh => ?_
          exact absurd ((ha.slot t _ hv).1 (.p b off) (by simp [V1.cells])) hg
      · exact sat_fail
    · exact sat_fail

theorem results_of {fn : Func} {tmps : Array Value} {w : World} {vals : List Value}
    (h : (fn.results.toList.mapM (resM tmps)).run P w = .ok vals w) :
    (results fn tmps).run P w = .ok (wrapVals vals) w := by
  have hm : ∀ (f : ResultVar → Sem Value), (fn.results.mapM f).run P w = ((fn.results.toList.mapM f).run P w).andThen fun l w' => .ok l.toArray w' := by
    intro f
    rw [Array.mapM_eq_mapM_toList]
    simp
  rw [results_resM, Sem.run_bind, hm, h]
  simp only [Result.andThen_ok, Sem.run_pure]
  match vals with
  | [] => rfl
  | [v] => rfl
  | v :: u :: r => rfl


def oneAct (v : Value) : Act := { tmps := #[v], defers := [] }

theorem res_sat {rs : List ResultVar} {keep : Bool} (hk0 : keep = false → E.n0 = 0) : ∀ (x : X), M.sat F ν (x.res P rs keep) (fun y => (x.sel ν).1.ends = true ∧ (y.sel ν).1.isNormal = true ∧ ∀ ρ a w, RR ν E ρ ⟨(x.sel ν).2, []⟩ a w →
    ∃ v vals, (rs.mapM (resM a.tmps)).run P w = .ok vals w ∧ wrapVals vals = v ∧ RR ν E ρ ⟨(y.sel ν).2, []⟩ (oneAct v) w)
  | .done k s => by
    unfold X.res
    refine sat_ite (fun hk => ?_) (fun _ => sat_fail)
    refine sat_bind (resOf_sat (E := E) rs) fun vs hvs => sat_pure ⟨hk, rfl, fun ρ a w h => ?_⟩
    obtain ⟨h1, h2⟩ := hvs ρ a w h.act h.hs.heap
    refine ⟨_, _, h2, rfl, ⟨rfl, rfl, fun t v ht => ?_, fun e he => by cases he⟩, ?_⟩
    · cases t with
      | zero =>
        cases ht
        exact ⟨(wrapResults_conc vs ρ).2 h1, by rw [(wrapResults_conc vs ρ).1]; rfl⟩
      | succ t => cases t <;> cases ht
    · simp only [X.sel]
      cases keep with
      | true => exact h.hs
      | false =>
        have hno : ∀ j bk, nth ([] : List (Option Blk)) j = some bk → False := fun j bk hj => by cases j <;> cases hj
        exact ⟨⟨fun j bk hj => (hno j bk hj).elim, fun j j' bk bk' hj => (hno j bk hj).elim⟩, fun j bk hj => (hno j bk hj).elim, h.hs.fr, by rw [hk0 rfl]; exact Nat.zero_le _, fun j hj => by rw [hk0 rfl] at hj; omega⟩
  | .br c x y => by
    unfold X.res
    refine sat_bind (sat_under (res_sat hk0 x)) fun u hu => sat_bind (sat_under (res_sat hk0 y)) fun v hv => sat_pure ?_
    simp only [X.sel]
    by_cases hc : c.bool ν = true
    · simp only [hc, if_true]
      exact hu hc
    · simp only [hc]
      exact hv (by simpa using hc)

def ow (path : List (Bool × Bool)) (a : Bool) : Bool := !(path.all fun c => c.1 == c.2) || a
def owesB (ν : Nat → DV) (l : List Nd) : Bool := (l.map fun q => ow (q.path.map fun c => (c.1.bool ν, c.2)) (q.a.bool ν)).all id
theorem owesB_holds {l : List Nd} (h : owesB ν l = true) : ∀ q ∈ l, Nd.holds ν q := by
  intro q hq hp
  have := List.all_eq_true.1 h _ (List.mem_map.2 ⟨q, hq, rfl⟩)
  simp only [ow, id, Bool.or_eq_true, Bool.not_eq_true', List.all_map] at this
  rcases this with h' | h'
  · have : (q.path.all ((fun c : Bool × Bool => c.1 == c.2) ∘ fun c => (c.1.bool ν, c.2))) = true := List.all_eq_true.2 fun c hc => by simp [hp c hc]
    rw [this] at h'; cases h'
  · exact h'

theorem nth_replicate_none {α : Type} (n i : Nat) : nth (List.replicate n (none : Option α)) i = none := by
  induction n generalizing i with
  | zero => cases i <;> rfl
  | succ n ih => cases i with
    | zero => rfl
    | succ i => exact ih i


def Stable (I : World → Prop) (gK : Nat) : Prop := ∀ w w', w.heap.size ≤ w'.heap.size → (∀ b, b < gK → w'.heap[b]? = w.heap[b]?) → I w → I w'

def outEnv (F : FEnv) (sg : Sig) (out : Out) (ds : List DV) : Nat → DV :=
  look (fun _ => default) 0 (evalNodes F (fun _ => default) 0 out.nodes ds.reverse sg.nin) (sg.nin + out.nodes.length)

theorem obs_split {F : FEnv} {ν : Nat → DV} : ∀ (d : List Ob), (∀ q ∈ ndsOf d, Nd.holds ν q) → (∀ q ∈ lpsOf d, LoopSound F q) → ∀ q ∈ d, Ob.holds F ν q
  | [], _, _, q, hq => by cases hq
  | .nd o :: d, h1, h2, q, hq => by
    rcases List.mem_cons.1 hq with rfl | hq
    · exact h1 o (by simp [ndsOf])
    · exact obs_split d (fun q hq => h1 q (by simp [ndsOf, hq])) h2 q hq
  | .lp o :: d, h1, h2, q, hq => by
    rcases List.mem_cons.1 hq with rfl | hq
    · exact h2 o (by simp [lpsOf])
    · exact obs_split d h1 (fun q hq => h2 q (by simp [lpsOf, hq])) q hq


theorem keepsC_spec {hin : List (Option Blk)} {m : List Nat} : ∀ {l : List (Option Blk)} {j : Nat}, keepsC hin m j l = true → ∀ i, i < l.length → stays hin (j + i) = true → rnm m (j + i) = j + i
  | [], _, _, i, hi, _ => by simp at hi
  | _ :: l, j, h, 0, _, hs => by
    simp only [keepsC, Bool.and_eq_true, Bool.or_eq_true, Bool.not_eq_true'] at h
    rw [Nat.add_zero] at hs ⊢
    rcases h.1 with h1 | h1
    · rw [hs] at h1; cases h1
    · exact Nat.eq_of_beq_eq_true h1
  | _ :: l, j, h, i + 1, hi, hs => by
    simp only [keepsC, Bool.and_eq_true] at h
    have := keepsC_spec h.2 i (by simpa using hi) (by rwa [show j + 1 + i = j + (i + 1) from by omega])
    rwa [show j + 1 + i = j + (i + 1) from by omega] at this

theorem body_sat (hS : SigsOK P I gK S F) (hE : E.Ok gK) (hn0 : S.n0 = E.n0) (hI : ∀ w, Fr E.W E.w0 w → I w) {fuel : Nat} {c : Code} {rs : List ResultVar} {keep : Bool} (hk0 : keep = false → E.n0 = 0) {s0 : St} :
    M.sat F ν (evBody P S fuel c rs keep s0) (fun z => ∀ ρ a w, RR ν E ρ ⟨s0, []⟩ a w → c.wp P (fun e a' w' => (e = .normal ∨ e = .ret) ∧ a'.defers = [] ∧
      ∃ v vals ρ', (rs.mapM (resM a'.tmps)).run P w' = .ok vals w' ∧ wrapVals vals = v ∧ RR ν E ρ' ⟨z, []⟩ (oneAct v) w') a w) := by
  unfold evBody
  rw [hn0]
  refine sat_bind (evCode_ok hS hE hn0 hI fuel ν c s0) fun x hx => sat_bind (res_sat hk0 x) fun y hy => sat_bind (nSt_sat (E := E) y) fun o ho => ?_
  obtain ⟨z, hz, hz2⟩ := ho hy.2.1
  subst hz
  refine sat_pure fun ρ a w h => wp_mono (hx ρ a w h).1 fun e a' w' hp => ?_
  obtain ⟨hk, ρ1, hr⟩ := hp
  obtain ⟨v, vals, h1, h2, h3⟩ := hy.2.2 ρ1 a' w' hr
  obtain ⟨ρ2, h4⟩ := hz2 ρ1 _ w' h3
  refine ⟨?_, hr.act.defers, v, vals, ρ2, h1, h2, h4⟩
  have hend := hy.1
  generalize (X.sel ν x).1 = k at *
  cases k <;> cases e <;> simp [K.is, K.ends] at hk hend ⊢

theorem fn_okE {fuel : Nat} {f : FuncId} {fn : Func} {sg : Sig} {out : Out} {G : List DV → List DV} (hst : Stable I gK) (hS : SigsOK P I gK S F) (hf : P.funcs[f]? = some fn)
    (hev : evFn P S fuel fn sg = some out) (hlp : ∀ l ∈ out.loops, LoopSound F l)
    (hG : ∀ ds : List DV, ds.length = sg.nin → (sg.need = true → (dget (G ds) 0).toB = true) → ∃ ν : Nat → DV, Sat F ν out.nodes ∧ (∀ i, i < sg.nin → ν i = dget ds i) ∧
      owesB ν out.owes = true ∧ TEq sg.ots ((G ds).drop (if sg.need then 1 else 0)) (out.outs.map (A.den ν))) :
    FnOK P I gK f sg G := by
  intro ds ρ0 w hIw hlen hneed hKw hKW hgood hheap
  obtain ⟨ν, hsat, hin, howes, houts⟩ := hG ds hlen hneed
  generalize hE0 : callEnv sg.hinI ρ0 w = E at *
  have hEn : E.n0 = sg.hin.length := by rw [← hE0]; simp [callEnv, Sig.hinI]
  have hEw : E.w0 = w := by rw [← hE0]; rfl
  have hEρ : E.ρ0 = ρ0 := by rw [← hE0]; rfl
  have hEok : E.Ok gK := ⟨by rw [hEw]; exact hKw, hKW⟩
  have hI : ∀ w', Fr E.W E.w0 w' → I w' := fun w' h => by
    rw [hEw] at h
    exact hst w w' h.size (fun b hb => h.block b (by omega) (fun hW => by have := hKW b hW; omega)) hIw
  unfold evFn at hev
  cases hbody : fn.body with
  | none => simp [hbody] at hev
  | some c =>
    simp only [hbody] at hev
    split at hev
    rotate_left
    · cases hev
    rename_i hn0
    have hn0 : S.n0 = E.n0 := by rw [hEn]; exact Nat.eq_of_beq_eq_true hn0
    generalize hkp : (!(sg.hin.isEmpty && sg.hout.isEmpty)) = keep at hev
    have hk0 : keep = false → E.n0 = 0 := fun h => by
      rw [h] at hkp
      rw [hEn]
      cases hh : sg.hin with
      | nil => rfl
      | cons x l => rw [hh] at hkp; simp at hkp
    cases hrun : evBody P S fuel c fn.results.toList keep (sg.st0 fn.ntmps) sg.nin with
    | none => simp [hrun] at hev
    | some r =>
      obtain ⟨z, n', e, d⟩ := r
      simp only [hrun] at hev
      unfold outOf at hev
      dsimp only at hev
      generalize hg : guess sg.ots.length ⟨[some sg.out], sg.hout⟩ z = g at hev
      have hgl : g.1.length = sg.ots.length := by rw [← hg]; exact guess_len _ _ _
      split at hev
      rotate_left
      · cases hev
      rename_i hchk
      simp only [Option.some.injEq] at hev
      subst hev
      simp only at hsat howes houts hlp
      simp only [Bool.and_eq_true, St.inst, St.sub, Sig.ok] at hchk
      obtain ⟨⟨⟨⟨hs1, hs2⟩, hs3⟩, ⟨⟨⟨⟨⟨⟨⟨k1, k2⟩, k3⟩, k4⟩, _⟩, _⟩, _⟩, k8⟩⟩, hkc⟩ := hchk
      have key := body_sat (E := E) hS hEok hn0 hI hk0 sg.nin z n' e d hrun hsat (obs_split d (owesB_holds howes) hlp)
      -- where the results' values come from
      have hres : PEq ν (sg.res (G ds)) sg.ots g.1 (idsFrom 0 sg.ots.length) := by
        have hl : ((G ds).drop (if sg.need then 1 else 0)).length = sg.ots.length := by rw [houts.len]; simpa using hgl
        have hsame : (idsFrom 0 sg.ots.length).map (A.den (sg.res (G ds))) = (G ds).drop (if sg.need then 1 else 0) := by
          rw [idsFrom_den (sg.res (G ds)) sg.ots.length 0 0 (fun _ _ => rfl)]
          apply List.ext_getElem?
          intro i
          by_cases hi : i < sg.ots.length
          · rw [List.getElem?_map, List.getElem?_range' (by omega), List.getElem?_eq_getElem (l := (G ds).drop _) (by omega)]
            simp only [Option.map_some, Option.some.injEq, Sig.res, dget]
            rw [List.getElem_drop, List.getD_eq_getElem?_getD, List.getElem?_eq_getElem (by simp only [List.length_drop] at hl; omega)]
            simp only [Option.getD_some]
            congr 1
            omega
          · rw [List.getElem?_eq_none (by simpa using hi), List.getElem?_eq_none (by omega)]
        exact PEq.of_teq (by rw [hsame]; exact houts)
      -- the state the call begins in
      have hvals : sg.insI.map (V.conc ν ρ0) = sg.insI.map (V.conc (dget ds) ρ0) ∧ (∀ v ∈ sg.insI, V.good ν v) ∧ HRel E ν ρ0 sg.hinI w := by
        have hpi : PEq (dget ds) ν sg.its (idsFrom 0 sg.nin) (idsFrom 0 sg.nin) := by
          refine PEq.of_den (idsFrom_len _ _) ?_
          rw [idsFrom_den (dget ds) sg.nin 0 0 (fun _ _ => rfl), idsFrom_den (dget ds) sg.nin 0 0 (fun i hi => by rw [Nat.zero_add]; exact hin i hi)]
        obtain ⟨e1, e2⟩ := Vs.inst_to const_den hpi k1
        exact ⟨e1 ρ0, e2 hgood, HRel.inst const_den hpi k2 hheap⟩
      obtain ⟨hv1, hv2, hv3⟩ := hvals
      have hst0 : RR ν E ρ0 ⟨sg.st0 fn.ntmps, []⟩ { tmps := (sg.insI.map (V.conc (dget ds) ρ0)).toArray ++ Array.replicate (fn.ntmps - (sg.insI.map (V.conc (dget ds) ρ0)).toArray.size) undef, defers := [] } w := by
        refine ⟨⟨rfl, ?_, fun t v ht => ?_, fun e he => by cases he⟩, ⟨hv3, fun j bk hj => ?_, ?_, ?_, fun j _ => by rw [hEρ]⟩⟩
        · simp [Sig.st0, Sig.insI]
        · change nth ((sg.insI).map some ++ List.replicate (fn.ntmps - sg.insI.length) none) t = some v at ht
          rw [nth_append] at ht
          split at ht
          · rename_i hlt
            rw [nth_map_some] at ht
            refine ⟨hv2 v (List.mem_of_getElem? ht), ?_⟩
            have h1 : (sg.insI.map (V.conc (dget ds) ρ0))[t]? = some (v.conc ν ρ0) := by rw [← hv1]; simp [ht]
            simp only
            rw [Array.getElem?_append_left (by simp at hlt; simp; omega)]
            simpa using h1
          · rw [nth_replicate_none] at ht; cases ht
        · change nth sg.hinI j = some bk at hj
          cases hn : (ρ0 j).nil with
          | true => exact .inl rfl
          | false =>
            cases ho : bk.own with
            | true => exact .inr (.inr (.inl (by rw [← hE0]; exact ⟨j, bk, hj, ho, hn, rfl⟩)))
            | false => exact .inr (.inr (.inr ⟨rfl, by rw [← hE0]; exact .inl ⟨j, bk, hj, ho, hn, rfl⟩⟩))
        · rw [hEw]; exact Fr.refl _ _
        · rw [hEn]; simp [Sig.st0]
      refine calls_of_wp hf hbody ?_
      refine wp_mono (key ρ0 _ w hst0) ?_
      intro e a' w' ⟨he, hd, v, vals, ρ', h1, h2, h3⟩
      have hout : ∃ v ρ', (results fn a'.tmps).run P w' = .ok v w' ∧ CallOut sg (G ds) ρ0 w v ρ' w' := by
        obtain ⟨_, q2⟩ := slotsSub_spec hs1
        obtain ⟨u, q3, q4⟩ := q2 0 (sg.out.inst g.1) rfl
        obtain ⟨q5, q6⟩ := V.sub_spec (ν := ν) q4
        obtain ⟨q7, q8⟩ := h3.act.slot 0 u q3
        have q9 : v = u.conc ν ρ' := by
          have : (oneAct v).tmps[0]? = some v := rfl
          rw [this] at q8
          exact Option.some.inj q8
        obtain ⟨c1, c2⟩ := V.inst_to const_den hres k3
        have hh1 : HRel E ν (fun j => ρ' (rnm g.2 j)) (sg.hout.map (Option.map (Blk.inst g.1))) w' := h3.hs.heap.sub hs2 hs3
        refine ⟨v, fun j => ρ' (rnm g.2 j), by rw [results_of h1, h2], ?_, c2 (q6 q7), ?_, ?_, ?_, fun j hj hjl => ?_⟩
        · unfold Sig.outI
          rw [c1, q5 ρ']
          exact q9
        · rw [hE0]
          exact HRel.inst const_den hres k4 hh1
        · rw [hE0]
          have := OldF.inst (bs := idsFrom 0 sg.ots.length) (h3.hs.old.sub hs2)
          rw [hEw] at this
          exact this
        · rw [hE0]
          have := h3.hs.fr
          rw [hEw] at this
          exact this
        · have e1 := keepsC_spec hkc j hjl (by rwa [Nat.zero_add])
          rw [Nat.zero_add] at e1
          obtain ⟨x, hx⟩ := stays_lt hj
          have := h3.hs.keep j (by rw [hEn]; exact nth_lt hx)
          simp only [e1]
          rw [this, hEρ]
      obtain ⟨v2, ρ2, h4, h5⟩ := hout
      rcases he with rfl | rfl
      · exact ⟨hd, v2, h4, v2, ρ2, rfl, h5⟩
      · exact ⟨hd, v2, h4, v2, ρ2, rfl, h5⟩
theorem fn_ok {fuel : Nat} {f : FuncId} {fn : Func} {sg : Sig} {out : Out} {G : List DV → List DV} (hst : Stable I gK) (hS : SigsOK P I gK S F) (hf : P.funcs[f]? = some fn)
    (hev : evFn P S fuel fn sg = some out) (hwf : wfNodes sg.nin out.nodes = true) (hlp : ∀ l ∈ out.loops, LoopSound F l)
    (hG : ∀ ds : List DV, ds.length = sg.nin → (sg.need = true → (dget (G ds) 0).toB = true) →
      owesB (outEnv F sg out ds) out.owes = true ∧
      TEq sg.ots ((G ds).drop (if sg.need then 1 else 0)) (out.outs.map (A.den (outEnv F sg out ds)))) :
    FnOK P I gK f sg G :=
  fn_okE hst hS hf hev hlp fun ds hlen hneed => by
    obtain ⟨howes, houts⟩ := hG ds hlen hneed
    obtain ⟨hl2, hsat⟩ := evalNodes_spec (F := F) (base := fun _ => default) (n0 := 0) (vs := ds.reverse) (n := sg.nin) (by omega) hwf
    change Sat F (outEnv F sg out ds) out.nodes at hsat
    have hl2' : ∀ i, i < sg.nin → outEnv F sg out ds i = look (fun _ => default) 0 ds.reverse sg.nin i := hl2
    refine ⟨outEnv F sg out ds, hsat, fun i hi => ?_, howes, houts⟩
    rw [hl2' i hi, look_list (by omega)]
    unfold dget
    simp only [List.getD_eq_getElem?_getD]
    rw [List.getElem?_reverse (by omega), hlen]
    congr 2
    omega
end

theorem assoc_all {α : Type} {Q : Nat → α → Prop} {l : List (Nat × α)} (h : ∀ p ∈ l, Q p.1 p.2) {f : Nat} {s : α} (hs : assoc l f = some s) : Q f s := by
  induction l with
  | nil => cases hs
  | cons p l ih =>
    simp only [assoc] at hs
    split at hs
    · rename_i e
      cases hs
      rw [Nat.eq_of_beq_eq_true e]
      exact h p (by simp)
    · exact ih (fun q hq => h q (List.mem_cons_of_mem _ hq)) hs
def eRun (a : A) (ts : List LT) (i n : Nat) : List Lf := (List.range n).map fun k => .e (ts.getD (k % ts.length) .bool) a (i + k)
def callsAt (i f : Nat) (args : List A) (j : Nat) : Nat → Em
  | 0 => []
  | k + 1 => (i, .call f args j) :: callsAt (i + 1) f args (j + 1) k
end Go.Sx

namespace Go.Sx

section
variable (w c : List DV → Bool) (nx out : List DV → List DV)

def liter : Nat → List DV → Option (List DV)
  | 0, _ => none
  | n + 1, s => if w s then (if c s then liter n (nx s) else some (out s)) else none
def lcnt : Nat → List DV → Nat
  | 0, _ => 0
  | n + 1, s => if c s then lcnt n (nx s) + 1 else 0

open Classical in
noncomputable def lfuel (s : List DV) : Nat := if h : ∃ n r, liter w c nx out n s = some r then Classical.choose h else 0
noncomputable def loopG (s : List DV) : Option (List DV) := liter w c nx out (lfuel w c nx out s) s

variable {w c : List DV → Bool} {nx out : List DV → List DV}

theorem liter_more : ∀ {n : Nat} {s r : List DV}, liter w c nx out n s = some r → liter w c nx out (n + 1) s = some r
  | 0, _, _, h => by cases h
  | n + 1, s, r, h => by
    simp only [liter] at h
    rw [liter]
    split at h
    · rename_i h1
      rw [if_pos h1]
      split at h
      · rename_i h2
        rw [if_pos h2]
        exact liter_more h
      · rename_i h2
        rw [if_neg h2]
        exact h
    · cases h
theorem liter_le {n m : Nat} {s r : List DV} (hl : n ≤ m) (h : liter w c nx out n s = some r) : liter w c nx out m s = some r := by
  induction hl with
  | refl => exact h
  | step _ ih => exact liter_more ih
theorem liter_one {n m : Nat} {s r r' : List DV} (h : liter w c nx out n s = some r) (h' : liter w c nx out m s = some r') : r = r' := by
  have h1 := liter_le (Nat.le_max_left n m) h
  have h2 := liter_le (Nat.le_max_right n m) h'
  exact Option.some.inj (h1.symm.trans h2)
theorem lcnt_one : ∀ {n m : Nat} {s r r' : List DV}, liter w c nx out n s = some r → liter w c nx out m s = some r' → lcnt c nx n s = lcnt c nx m s
  | 0, _, _, _, _, h, _ => by cases h
  | _ + 1, 0, _, _, _, _, h => by cases h
  | n + 1, m + 1, s, r, r', h, h' => by
    simp only [liter] at h h'
    simp only [lcnt]
    split at h
    · rename_i h1
      rw [if_pos h1] at h'
      split at h
      · rename_i h2
        rw [if_pos h2] at h'
        rw [if_pos h2, if_pos h2, lcnt_one h h']
      · rename_i h2
        rw [if_neg h2, if_neg h2]
    · cases h

theorem loopG_of {n : Nat} {s r : List DV} (h : liter w c nx out n s = some r) : loopG w c nx out s = some r := by
  have he : ∃ n r, liter w c nx out n s = some r := ⟨n, r, h⟩
  unfold loopG lfuel
  rw [dif_pos he]
  obtain ⟨r', hr'⟩ := Classical.choose_spec he
  rw [hr', liter_one hr' h]
theorem loopG_next {s : List DV} (h1 : w s = true) (h2 : c s = true) : loopG w c nx out s = loopG w c nx out (nx s) := by
  cases h : loopG w c nx out (nx s) with
  | some r => exact loopG_of (n := lfuel w c nx out (nx s) + 1) (by simp only [liter, h1, h2, if_true]; exact h)
  | none =>
    cases h' : loopG w c nx out s with
    | none => rfl
    | some r =>
      unfold loopG at h'
      cases hn : lfuel w c nx out s with
      | zero => rw [hn] at h'; cases h'
      | succ n =>
        rw [hn] at h'
        simp only [liter, h1, h2, if_true] at h'
        rw [loopG_of h'] at h
        cases h
theorem loopG_last {s : List DV} (h1 : w s = true) (h2 : c s = false) : loopG w c nx out s = some (out s) := loopG_of (n := 1) (by simp [liter, h1, h2])
theorem loopG_w {s r : List DV} (h : loopG w c nx out s = some r) : w s = true := by
  unfold loopG at h
  cases hn : lfuel w c nx out s with
  | zero => rw [hn] at h; cases h
  | succ n =>
    rw [hn] at h
    simp only [liter] at h
    split at h
    · assumption
    · cases h
noncomputable def lmu (w c : List DV → Bool) (nx out : List DV → List DV) (s : List DV) : Nat := lcnt c nx (lfuel w c nx out s) s
theorem lmu_next {s r : List DV} (h : loopG w c nx out s = some r) (h2 : c s = true) : lmu w c nx out (nx s) < lmu w c nx out s := by
  have h1 := loopG_w h
  have h3 : loopG w c nx out (nx s) = some r := (loopG_next h1 h2).symm.trans h
  unfold lmu
  unfold loopG at h h3
  cases hn : lfuel w c nx out s with
  | zero => rw [hn] at h; cases h
  | succ n =>
    rw [hn] at h
    simp only [liter, h1, h2, if_true] at h
    simp only [lcnt, h2, if_true]
    rw [lcnt_one h3 h]
    omega
end

def nrmsAt : Nat → List Ty → List DV → List DV
  | _, [], _ => []
  | i, t :: ts, ds => nrm t (ds.getD i default) :: nrmsAt (i + 1) ts ds
def nrms (ts : List Ty) (ds : List DV) : List DV := nrmsAt 0 ts ds

theorem nrmsAt_get : ∀ (i : Nat) (ts : List Ty) (ds : List DV) (j : Nat), (nrmsAt i ts ds)[j]? = ts[j]?.map fun t => nrm t (ds.getD (i + j) default)
  | _, [], _, j => by simp [nrmsAt]
  | i, t :: ts, ds, 0 => by simp [nrmsAt]
  | i, t :: ts, ds, j + 1 => by
    simp only [nrmsAt, List.getElem?_cons_succ]
    rw [nrmsAt_get (i + 1) ts ds j, show i + 1 + j = i + (j + 1) from by omega]
theorem nrms_get (ts : List Ty) (ds : List DV) (j : Nat) : (nrms ts ds)[j]? = ts[j]?.map fun t => nrm t (ds.getD j default) := by
  unfold nrms
  rw [nrmsAt_get, Nat.zero_add]
theorem nrm_nrm (t : Ty) (d : DV) : nrm t (nrm t d) = nrm t d := by cases t <;> rfl
theorem nrm_eq {t : Ty} {d e : DV} (h : nrm t d = nrm t e) : t.eqAt d e := by
  cases t <;> simpa [nrm, Ty.eqAt] using h
theorem nrms_len (ts : List Ty) (ds : List DV) : (nrms ts ds).length = ts.length := by
  have key : ∀ (i : Nat) (ts : List Ty), (nrmsAt i ts ds).length = ts.length := fun i ts => by
    induction ts generalizing i with
    | nil => rfl
    | cons t ts ih => simp [nrmsAt, ih]
  exact key 0 ts
theorem nrms_nrms (ts : List Ty) (ds : List DV) : nrms ts (nrms ts ds) = nrms ts ds := by
  apply List.ext_getElem?
  intro j
  rw [nrms_get, nrms_get]
  cases h : ts[j]? with
  | none => rfl
  | some t =>
    simp only [Option.map_some, Option.some.injEq]
    rw [List.getD_eq_getElem?_getD, nrms_get, h]
    simp [nrm_nrm]
theorem teq_of_get : ∀ {ts : List Ty} {as bs : List DV}, as.length = ts.length → bs.length = ts.length →
    (∀ (j : Nat) (t : Ty), ts[j]? = some t → nrm t (as.getD j default) = nrm t (bs.getD j default)) → TEq ts as bs
  | [], [], [], _, _, _ => trivial
  | t :: ts, a :: as, b :: bs, h1, h2, h => by
    refine ⟨nrm_eq (by simpa using h 0 t rfl), teq_of_get (by simpa using h1) (by simpa using h2) fun j t' ht => ?_⟩
    have := h (j + 1) t' (by simpa using ht)
    simpa using this
  | [], _ :: _, _, h, _, _ => by simp at h
  | [], [], _ :: _, _, h, _ => by simp at h
  | _ :: _, [], _, h, _, _ => by simp at h
  | _ :: _, _ :: _, [], _, h, _ => by simp at h
theorem nrms_teq {ts : List Ty} {as bs : List DV} (h : nrms ts as = nrms ts bs) (h1 : as.length = ts.length) (h2 : bs.length = ts.length) : TEq ts as bs :=
  teq_of_get h1 h2 fun j t ht => by
    have := congrArg (fun l => l[j]?) h
    simp only [nrms_get, ht, Option.map_some, Option.some.injEq] at this
    exact this

noncomputable def wrapG (ots : List Ty) (o : Option (List DV)) : List DV := .b o.isSome :: nrms ots (o.getD [])

theorem loop_ok {F : FEnv} {l : LR} {w c : List DV → Bool} {nx out : List DV → List DV} (tys : List Ty)
    (hF : ∀ ds, F l.fid ds = wrapG (.i :: l.ts) (loopG w c nx out (nrms tys ds)))
    (hlen : l.outs.length = l.ts.length + 1)
    (hw : ∀ ν xs, xs.length = l.k → owesB (l.env F ν xs) l.owes = w (nrms tys (l.inv.map ν ++ xs)))
    (hc : ∀ ν xs, xs.length = l.k → l.c.bool (l.env F ν xs) = c (nrms tys (l.inv.map ν ++ xs)))
    (hn : ∀ ν xs, xs.length = l.k → nrms tys (l.inv.map ν ++ l.nx.map (A.den (l.env F ν xs))) = nx (nrms tys (l.inv.map ν ++ xs)))
    (ho : ∀ ν xs, xs.length = l.k → nrms (.i :: l.ts) (l.outs.map (A.den (l.env F ν xs))) = out (nrms tys (l.inv.map ν ++ xs))) : LoopSound F l := by
  refine ⟨fun raw => lmu w c nx out (nrms tys raw), fun ν xs hx hp => ?_⟩
  rw [hF] at hp
  generalize hs : nrms tys (l.inv.map ν ++ xs) = s at *
  cases hl : loopG w c nx out s with
  | none => rw [hl] at hp; cases hp
  | some r =>
    have h1 := loopG_w hl
    refine ⟨owesB_holds (by rw [hw ν xs hx, hs]; exact h1), fun h2 => ?_, fun h2 => ?_⟩
    · rw [hc ν xs hx, hs] at h2
      have h3 := hn ν xs hx
      rw [hs] at h3
      rw [hF, hF, h3, hs, ← loopG_next h1 h2, hl]
      exact ⟨rfl, rfl, by show lmu w c nx out (nrms tys _) < lmu w c nx out (nrms tys _); rw [h3, hs]; exact lmu_next hl h2⟩
    · rw [hc ν xs hx, hs] at h2
      rw [hF, hs, loopG_last h1 h2]
      show TEq _ (nrms (.i :: l.ts) (out s)) _
      refine nrms_teq ?_ (by simp [nrms_len]) (by simpa using hlen)
      rw [nrms_nrms, ho ν xs hx, hs]
      have h4 := ho ν xs hx
      rw [hs] at h4
      rw [← h4, nrms_nrms]
end Go.Sx

