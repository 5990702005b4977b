/- The evaluator's operations agree with the model's. -/
import Derived.Test.YtacciadcmiiimaaSyCallB
namespace Go.Sx
open Go.RowKit
section
variable {P : Program} {I : World → Prop} {S : Sigs} {F : FEnv} {E : Env} {ν : Nat → DV}

theorem V.easy_good {v : V} (h : v.easy = true) : v.good ν := by
  have h1 : ∀ l : Lf, l.easy = true → l.good ν := fun l hl => by
    cases l with
    | p b off => cases off <;> first | trivial | cases hl
    | gp b off => cases off <;> first | trivial | cases hl
    | _ => trivial
  have h2 : ∀ v : V1, v.cells.all Lf.easy = true → v.good ν := fun v hv l hl => h1 l (List.all_eq_true.1 hv l hl)
  cases v with
  | s v => exact h2 v h
  | t l => exact fun v hv => h2 v (List.all_eq_true.1 h v hv)
theorem Lf.inst_easy (ops : List A) (l : Lf) : (l.inst ops).easy = l.easy := by
  cases l with
  | p b off => cases off <;> rfl
  | gp b off => cases off <;> rfl
  | _ => rfl
theorem V1.inst_easy (ops : List A) (v : V1) : (v.inst ops).cells.all Lf.easy = v.cells.all Lf.easy := by
  cases v with
  | one l => simp [V1.inst, V1.cells, Lf.inst_easy]
  | agg l =>
    simp only [V1.inst, V1.cells, List.all_map]
    congr 1
    funext x
    exact Lf.inst_easy ops x
theorem V.inst_easy (ops : List A) (v : V) : (v.inst ops).easy = v.easy := by
  cases v with
  | s v => exact V1.inst_easy ops v
  | t l =>
    simp only [V.inst, V.easy, List.all_map]
    congr 1
    funext x
    exact V1.inst_easy ops x
theorem callEnv_inst {hin : List (Option Blk)} (as bs : List A) (ρ : Nat → Loc) (w : World) : callEnv (hin.map (Option.map (Blk.inst as))) ρ w = callEnv (hin.map (Option.map (Blk.inst bs))) ρ w := by
  have key : ∀ (o : Bool) (as bs : List A) (b : Nat), (∃ j bk, nth (hin.map (Option.map (Blk.inst as))) j = some bk ∧ bk.own = o ∧ (ρ j).nil = false ∧ (ρ j).blk = b) →
      ∃ j bk, nth (hin.map (Option.map (Blk.inst bs))) j = some bk ∧ bk.own = o ∧ (ρ j).nil = false ∧ (ρ j).blk = b := by
    rintro o as bs b ⟨j, bk, h1, h2, h3, h4⟩
    rw [nth_map] at h1
    obtain ⟨y, hy, rfl⟩ := Option.map_eq_some_iff.1 h1
    exact ⟨j, y.inst bs, by rw [nth_map, hy]; rfl, by rw [Blk.inst_own] at h2 ⊢; exact h2, h3, h4⟩
  unfold callEnv
  congr 1
  · funext b
    exact propext ⟨key _ _ _ b, key _ _ _ b⟩
  · funext b
    exact propext ⟨key _ _ _ b, key _ _ _ b⟩
  · simp

/-- A value that names no block is the same wherever blocks stand. -/
theorem V.conc_lt0 {v : V} (h : v.lt 0 = true) (ρ ρ' : Nat → Loc) : v.conc ν ρ = v.conc ν ρ' := by
  have h1 : ∀ l : Lf, l.lt 0 = true → l.conc ν ρ = l.conc ν ρ' := fun l hl => by
    cases l <;> simp only [Lf.lt, decide_eq_true_eq] at hl <;> first | rfl | omega | (simp only [Lf.conc]; rw [capsConc_lt hl (fun k hk => by omega)])
  have h2 : ∀ v : V1, v.lt 0 = true → v.conc ν ρ = v.conc ν ρ' := fun v hv => by
    cases v with
    | one l => exact h1 l (by simpa [V1.lt, V1.cells] using hv)
    | agg l =>
      simp only [V1.conc]
      congr 2
      exact List.map_congr_left fun x hx => h1 x (List.all_eq_true.1 hv x hx)
  cases v with
  | s v => exact h2 v h
  | t l =>
    simp only [V.conc]
    congr 2
    exact List.map_congr_left fun x hx => h2 x (List.all_eq_true.1 h x hx)

theorem slotsSub_somes {m : List Nat} : ∀ {x y : List V}, slotsSub m (x.map some) (y.map some) = true → (∀ ρ : Nat → Loc, x.map (V.conc ν (fun j => ρ (rnm m j))) = y.map (V.conc ν ρ)) ∧ ((∀ v ∈ y, V.good ν v) → ∀ v ∈ x, V.good ν v)
  | [], [], _ => ⟨fun _ => rfl, fun h => h⟩
  | x :: l, y :: l', h => by
    simp only [List.map_cons, slotsSub, Bool.and_eq_true] at h
    obtain ⟨h1, h2⟩ := V.sub_spec (ν := ν) h.1
    obtain ⟨h3, h4⟩ := slotsSub_somes h.2
    refine ⟨fun ρ => by simp only [List.map_cons, h1 ρ, h3 ρ], fun hg z hz => ?_⟩
    rcases List.mem_cons.1 hz with rfl | hz
    · exact h2 (hg y (by simp))
    · exact h4 (fun u hu => hg u (List.mem_cons_of_mem _ hu)) z hz
  | [], _ :: _, h => by simp [slotsSub] at h
  | _ :: _, [], h => by simp [slotsSub] at h

theorem Vs.inst_to {ν1 ν2 : Nat → DV} {p : A → Bool} {tys : List Ty} {as bs : List A} (hp : ∀ a, p a = true → a.den ν1 = a.den ν2) (h : PEq ν1 ν2 tys as bs) : ∀ {l : List V}, l.all (V.tyOk p tys) = true →
    (∀ ρ, (l.map (V.inst bs)).map (V.conc ν2 ρ) = (l.map (V.inst as)).map (V.conc ν1 ρ)) ∧ ((∀ x ∈ l.map (V.inst as), V.good ν1 x) → ∀ x ∈ l.map (V.inst bs), V.good ν2 x)
  | [], _ => ⟨fun _ => rfl, fun _ x hx => by cases hx⟩
  | x :: l, hl => by
    simp only [List.all_cons, Bool.and_eq_true] at hl
    obtain ⟨h1, h2⟩ := V.inst_to hp h hl.1
    obtain ⟨h3, h4⟩ := Vs.inst_to hp h hl.2
    refine ⟨fun ρ => by simp only [List.map_cons, h1 ρ, h3 ρ], fun hg z hz => ?_⟩
    simp only [List.map_cons] at hg hz
    rcases List.mem_cons.1 hz with rfl | hz
    · exact h2 (hg _ (by simp))
    · exact h4 (fun u hu => hg u (List.mem_cons_of_mem _ hu)) z hz

/-- What a call of a function comes to. -/
def CallTo (P : Program) (E : Env) (ν : Nat → DV) (f : FuncId) (vs : List V) (hp : List (Option Blk)) (ρ : Nat → Loc) (w : World) : OR → Prop
  | .val v => v.good ν ∧ Calls P f (vs.map (V.conc ν ρ)).toArray w (fun e w' => e = .returned (v.conc ν ρ) ∧ Below w.heap.size w w')
  | .hp v hp' => Calls P f (vs.map (V.conc ν ρ)).toArray w (fun e w' => ∃ x, e = .returned x ∧ ∃ ρ' : Nat → Loc, (∀ j, j < hp.length → ρ' j = ρ j) ∧ HS E ν ρ' hp' w' ∧ ∀ u, v = some u → u.good ν ∧ x = u.conc ν ρ')

theorem evCall_sat {K : Nat} (hS : SigsOK P I K S F) (hE : E.Ok K) {f : FuncId} {vs : List V} {hp : List (Option Blk)} : M.sat F ν (evCall P S f vs hp) (fun res => ∀ ρ w, (∀ v ∈ vs, V.good ν v) → HS E ν ρ hp w → I w →
    (callFunc f (vs.map (V.conc ν ρ)).toArray).run P w = .ok (.enter f (vs.map (V.conc ν ρ)).toArray) w ∧ CallTo P E ν f vs hp ρ w res) := by
  unfold evCall
  refine sat_bind (sat_lift (Q := fun sg => S.get f = some sg) fun a h => h) fun sg hsg => ?_
  have hfn := hS.fns f sg hsg
  dsimp only
  generalize hg : guess sg.nin ⟨sg.ins.map some, sg.hin⟩ ⟨vs.map some, hp⟩ = g
  have hgl : g.1.length = sg.its.length := by rw [← hg]; exact guess_len _ _ _
  refine sat_ite (fun hok => ?_) (fun _ => sat_fail)
  simp only [Bool.and_eq_true] at hok
  obtain ⟨⟨⟨hcal, hsub⟩, hsgok⟩, hplt⟩ := hok
  simp only [St.sub, Bool.and_eq_true, St.inst] at hsub
  obtain ⟨⟨hs1, hs2⟩, hs3⟩ := hsub
  simp only [Sig.ok, Bool.and_eq_true] at hsgok
  obtain ⟨⟨⟨⟨⟨⟨⟨k1, k2⟩, k3⟩, k4⟩, k5⟩, k6⟩, k7⟩, k8⟩ := hsgok
  have hs1' : slotsSub g.2 ((sg.ins.map (V.inst g.1)).map some) (vs.map some) = true := by
    have : (sg.ins.map some).map (Option.map (V.inst g.1)) = (sg.ins.map (V.inst g.1)).map some := by simp [List.map_map, Function.comp_def]
    rw [← this]; exact hs1
  obtain ⟨hargs, hgood⟩ := slotsSub_somes (ν := ν) hs1'
  have henter : ∀ (args : Array Value) (w : World), (callFunc f args).run P w = .ok (.enter f args) w := fun args w => by
    unfold calleeOk at hcal
    cases hf : P.funcs[f]? with
    | none => simp [hf] at hcal
    | some fn =>
      simp only [hf, Bool.and_eq_true, Bool.not_eq_true', beq_eq_false_iff_ne] at hcal
      obtain ⟨h1, h2⟩ := hcal
      obtain ⟨bd, hb⟩ := Option.isSome_iff_exists.1 h2
      simp [callFunc, hf, h1, hb]
  -- the values that go in
  generalize hds : g.1.map (A.den ν) = ds
  have hdl : ds.length = sg.its.length := by rw [← hds]; simpa using hgl
  have hpe : PEq ν (dget ds) sg.its g.1 (idsFrom 0 sg.nin) := by
    refine PEq.of_den hgl ?_
    rw [hds]
    have := ids_dget ds
    rw [hdl] at this
    exact this.symm
  obtain ⟨hva, hvg⟩ := Vs.inst_to const_den hpe k1
  refine sat_bind (R := fun j0 => j0 = (if sg.need then 1 else 0) ∧ (sg.need = true → (dget (F f ds) 0).toB = true)) ?_ fun j0 hj0 => ?_
  · refine sat_ite (fun hn => ?_) (fun hn => sat_pure ⟨by simp [hn], fun h => absurd h hn⟩)
    refine sat_bind (sat_emit (Q := fun r => r.den ν = (F f (g.1.map (A.den ν))).getD 0 default) fun r h => h) fun r hr => ?_
    refine sat_bind (sat_owe (Q := fun _ => r.bool ν = true) fun h => h) fun _ hr2 => sat_pure ⟨by simp [hn], fun _ => ?_⟩
    rw [dget, ← hds, ← hr]; exact hr2
  obtain ⟨rfl, hneed⟩ := hj0
  refine sat_bind (callOuts_sat sg.ots.length _) fun os hos => ?_
  rw [hds] at hos
  have hpo : PEq (sg.res (F f ds)) ν sg.ots (idsFrom 0 sg.ots.length) os := by
    refine PEq.of_den (idsFrom_len _ _) ?_
    rw [idsFrom_den (sg.res (F f ds)) sg.ots.length 0 0 (fun _ _ => rfl)]
    apply List.ext_getElem?
    intro i
    by_cases hi : i < sg.ots.length
    · rw [List.getElem?_map, List.getElem?_range' (by omega), List.getElem?_map, List.getElem?_eq_getElem (by rw [hos.1]; exact hi)]
      simp only [Option.map_some, Option.some.injEq]
      rw [hos.2 i _ (List.getElem?_eq_getElem (by rw [hos.1]; exact hi))]
      simp only [Sig.res, dget]
      congr 1
      omega
    · rw [List.getElem?_eq_none (by simpa using hi), List.getElem?_eq_none (by rw [List.length_map, hos.1]; omega)]
  obtain ⟨hoc, hog⟩ := V.inst_to const_den hpo k3
  -- the call
  have hcall : ∀ ρ w, (∀ v ∈ vs, V.good ν v) → HS E ν ρ hp w → I w → Calls P f (vs.map (V.conc ν ρ)).toArray w (fun e w' => ∃ x ρ', e = .returned x ∧ CallOut sg (F f ds) (fun j => ρ (rnm g.2 j)) w x ρ' w') := by
    intro ρ w hvs hh hI
    have h1 : HRel E ν (fun j => ρ (rnm g.2 j)) (sg.hin.map (Option.map (Blk.inst g.1))) w := hh.heap.sub hs2 hs3
    have h2 : HRel E (dget ds) (fun j => ρ (rnm g.2 j)) sg.hinI w := HRel.inst const_den hpe k2 h1
    have h0 : ∀ b, b < E.w0.heap.size → ¬ E.W b → b < w.heap.size ∧ ¬ (callEnv sg.hinI (fun j => ρ (rnm g.2 j)) w).W b ∧ w.heap[b]? = E.w0.heap[b]? := fun b hb hnW => by
      refine ⟨Nat.lt_of_lt_of_le hb hh.fr.size, ?_, hh.fr.block b hb hnW⟩
      rintro ⟨j, x, hx, hxo, hxn, hxe⟩
      change (ρ (rnm g.2 j)).blk = b at hxe
      change (ρ (rnm g.2 j)).nil = false at hxn
      unfold Sig.hinI at hx
      rw [nth_map] at hx
      obtain ⟨y, hy, rfl⟩ := Option.map_eq_some_iff.1 hx
      obtain ⟨b', e1, e2, e3⟩ := heapSub_lt hs2 (j := j) (b := y.inst g.1) (by rw [nth_map, hy]; rfl)
      have ho : b'.own = true := (Blk.sub_spec (E := E) (ν := ν) e3).1 (by rw [Blk.inst_own] at hxo ⊢; exact hxo)
      rcases hh.old _ _ e1 with h | h | h | h
      · rw [hxn] at h; cases h
      · omega
      · exact hnW (by rw [← hxe]; exact h)
      · rw [ho] at h; cases h.1
    have h3 : HRel (callEnv sg.hinI (fun j => ρ (rnm g.2 j)) w) (dget ds) (fun j => ρ (rnm g.2 j)) sg.hinI w :=
      ⟨fun j bk hj => (h2.blk j bk hj).enter h0, h2.apart⟩
    have hKW : ∀ b, (callEnv sg.hinI (fun j => ρ (rnm g.2 j)) w).W b → K ≤ b := fun b hb => by
      rcases Nat.lt_or_ge b E.w0.heap.size with hlt | hge
      · by_cases hEW : E.W b
        · exact hE.2 b hEW
        · exact absurd hb (h0 b hlt hEW).2.1
      · exact Nat.le_trans hE.1 hge
    have := hfn ds (fun j => ρ (rnm g.2 j)) w hI hdl hneed (Nat.le_trans hE.1 hh.fr.size) hKW (hvg (hgood hvs)) h3
    have hargs2 : (sg.insI.map (V.conc (dget ds) fun j => ρ (rnm g.2 j))) = vs.map (V.conc ν ρ) := by
      unfold Sig.insI
      rw [hva, hargs ρ]
    rw [hargs2] at this
    exact this
  refine sat_ite (fun hemp => ?_) (fun hemp => ?_)
  · refine sat_pure fun ρ w hvs hh hI => ⟨henter _ w, ?_⟩
    simp only [Bool.and_eq_true, List.isEmpty_iff] at hemp
    have hlt0 : (sg.out.inst os).lt 0 = true := by rw [V.inst_lt]; rw [hemp.2] at k5; exact k5
    refine ⟨V.easy_good (by rw [V.inst_easy]; exact k8), (hcall ρ w hvs hh hI).mono fun e w' ⟨x, ρ', he, hc⟩ => ⟨?_, ?_⟩⟩
    · rw [he, hc.val]
      unfold Sig.outI
      rw [← hoc ρ', V.conc_lt0 hlt0 ρ' ρ]
    · have := hc.fr.weaken (W' := fun _ => False) (fun b hb => by
        obtain ⟨j, bk, h1, h2, _⟩ := hb
        unfold Sig.hinI at h1
        rw [nth_map] at h1
        obtain ⟨y, hy, rfl⟩ := Option.map_eq_some_iff.1 h1
        have := all_nth_of hemp.1 hy
        rw [Blk.inst_own] at h2
        rw [h2] at this
        cases this)
      exact this.below
  · refine sat_pure fun ρ w hvs hh hI => ⟨henter _ w, (hcall ρ w hvs hh hI).mono fun e w' ⟨x, ρ', he, hc⟩ => ⟨x, he, ?_⟩⟩
    obtain ⟨hc1, _, hc3, hc4, hc5, hc6⟩ := hc
    have hcw : callEnv sg.hinI (fun j => ρ (rnm g.2 j)) w = callEnv (sg.hin.map (Option.map (Blk.inst g.1))) (fun j => ρ (rnm g.2 j)) w := callEnv_inst _ _ _ _
    rw [hcw] at hc3 hc4 hc5
    have hb := HRel.inst const_den hpo k4 hc3
    have hback := HS.back (ho := sg.hout.map (Option.map (Blk.inst os))) hh hs2 hplt (by rw [List.length_map, all_inst (fun ops b => Blk.inst_lt _ ops b)]; exact k6) (by rw [all_inst (fun ops b => Blk.inst_flat ops b)]; exact k7) hb (OldF.inst hc4) hc5
      (fun j hj hl => hc6 j (by rw [stays_inst] at hj; exact hj) (by simpa using hl))
    have e1 : ∀ k n, backMap (sg.hin.map (Option.map (Blk.inst g.1))) g.2 n k = backMap sg.hin g.2 n k := fun k n => by
      unfold backMap
      exact List.map_congr_left fun j _ => by rw [stays_inst]
    have e2 : ∀ (l : List (Option Blk)) (j : Nat), anyFrozen (sg.hin.map (Option.map (Blk.inst g.1))) j (l.map (Option.map (Blk.inst os))) = anyFrozen sg.hin j l := fun l => by
      induction l with
      | nil => intro j; rfl
      | cons x l ih =>
        intro j
        simp only [List.map_cons, anyFrozen, ih, stays_inst]
        cases x with
        | none => rfl
        | some y => simp [Blk.inst_own]
    have e3 : ∀ (l : List (Option Blk)) (m1 : List Nat) (j : Nat), newBack (sg.hin.map (Option.map (Blk.inst g.1))) m1 j l = newBack sg.hin m1 j l := fun l m1 => by
      induction l with
      | nil => intro j; rfl
      | cons x l ih => intro j; simp only [newBack, ih, stays_inst]
    have e4 : ∀ (ho : List (Option Blk)) (m1 : List Nat) (dem : Bool) (k j : Nat) (hp : List (Option Blk)), putBack (sg.hin.map (Option.map (Blk.inst g.1))) ho g.2 m1 dem k j hp = putBack sg.hin ho g.2 m1 dem k j hp := fun ho m1 dem k => by
      induction k with
      | zero => intro j hp; rfl
      | succ k ih =>
        intro j hp
        unfold putBack
        rw [nth_map]
        cases nth sg.hin j with
        | none => exact ih _ _
        | some y => simp only [Option.map_some, Blk.inst_own, stays_inst, ih]
    rw [e1, e2, e3, e4, List.length_map, List.length_map] at hback
    refine ⟨_, fun j hj => by simp [hj], hback.2, fun u hu => ?_⟩
    cases hu
    have hren := V.ren_spec (ν := ν) (m := backMap sg.hin g.2 hp.length sg.hout.length) (ρ := ρ') (ρ' := fun i => if i < hp.length then ρ i else ρ' (i - hp.length)) (v := sg.out.inst os) hback.1 (by rw [V.inst_lt]; exact k5)
    refine ⟨hren.2 (V.easy_good (by rw [V.inst_easy]; exact k8)), ?_⟩
    rw [hren.1, hoc ρ']
    exact hc1

/-! ### Single operations -/
theorem tk_ptr {t : TypeId} {e : Nat} (h : tk P t = some (.ptr e)) : P.underlying t = some (.pointer e) := by
  obtain ⟨d, hd, hk⟩ := tk_spec h
  cases d <;> simp [tkOf] at hk
  exact hk ▸ hd
theorem run_equalIn_ptr (w : World) (d : Nat) (t : TypeId) (p : Option Addr) {e : Nat} (h : P.underlying t = some (.pointer e)) :
    (Op.equalIn (d + 1) t (.pointer p) (.pointer none)).run P w = .ok p.isNone w := by
  cases p <;> simp [Op.equalIn, run_underlying h]
theorem evBinV_sat {op : BinOp} {t : TypeId} {x y : V} (hx : x.good ν) (hy : y.good ν) : M.sat F ν (evBinV P op t x y) (fun v => v.good ν ∧ ∀ (ρ : Nat → Loc) (w : World), ∀ (xo yo : Operand),
    (eqGuard op t xo yo (x.conc ν ρ) (y.conc ν ρ)).run P w = .ok () w ∧ (binOp op t (x.conc ν ρ) (y.conc ν ρ)).run P w = .ok (v.conc ν ρ) w) := by
  have hgi : ∀ (op : BinOp) (xo yo : Operand) (k k' : IntKind) (a b : Int) (w : World), (eqGuard op t xo yo (.int k a) (.int k' b)).run P w = .ok () w := by
    intro op xo yo k k' a b w; cases op <;> simp [eqGuard]
  have hgp : ∀ (op : BinOp) (xo yo : Operand) (a b : Option Addr) (w : World), (eqGuard op t xo yo (.pointer a) (.pointer b)).run P w = .ok () w := by
    intro op xo yo a b w; cases op <;> simp [eqGuard]
  have hgb : ∀ (op : BinOp) (xo yo : Operand) (a b : Bool) (w : World), (eqGuard op t xo yo (.bool a) (.bool b)).run P w = .ok () w := by
    intro op xo yo a b w; cases op <;> simp [eqGuard]
  unfold evBinV
  split
  · exact sat_bind (sat_pull fun ρ w => evShift_sat (ρ := ρ) (w := w) t) fun l hl => sat_pure ⟨V1.good_one.2 hl.1, fun ρ w xo yo => ⟨hgi _ _ _ _ _ _ _ w, hl.2 ρ w⟩⟩
  · exact sat_bind (sat_pull fun ρ w => evShift_sat (ρ := ρ) (w := w) t) fun l hl => sat_pure ⟨V1.good_one.2 hl.1, fun ρ w xo yo => ⟨hgi _ _ _ _ _ _ _ w, hl.2 ρ w⟩⟩
  · rename_i k a k' b hne1 hne2
    refine sat_ite (fun hk => ?_) (fun _ => sat_fail)
    have := kEq_eq hk; subst this
    have e1 : op ≠ .shl := fun h => hne1 h
    have e2 : op ≠ .shr := fun h => hne2 h
    exact sat_bind (sat_pull fun ρ w => evBin_sat (ρ := ρ) (w := w) e1 e2 t) fun l hl => sat_pure ⟨V1.good_one.2 hl.1, fun ρ w xo yo => ⟨hgi _ _ _ _ _ _ _ w, hl.2 ρ w⟩⟩
  · rename_i a b
    refine sat_bind (sat_lift (Q := fun k => tk P t = some k) fun a h => h) fun k hk => ?_
    split
    · exact sat_bind (sat_pull fun ρ w => evBoolOp_sat (ρ := ρ) (w := w) t (tk_bool hk)) fun l hl => sat_pure ⟨V1.good_one.2 hl.1, fun ρ w xo yo => ⟨hgb _ _ _ _ _ w, hl.2 ρ w⟩⟩
    · exact sat_fail
  · rename_i a b
    refine sat_bind (sat_lift (Q := fun k => tk P t = some k) fun a h => h) fun k hk => ?_
    split
    · exact sat_bind (sat_pull fun ρ w => evBoolOp_sat (ρ := ρ) (w := w) t (tk_bool hk)) fun l hl => sat_pure ⟨V1.good_one.2 hl.1, fun ρ w xo yo => ⟨hgb _ _ _ _ _ w, hl.2 ρ w⟩⟩
    · exact sat_fail
  · refine sat_bind (sat_lift (Q := fun k => tk P t = some k) fun a h => h) fun k hk => ?_
    split
    · exact sat_pure ⟨V1.good_one.2 trivial, fun ρ w xo yo => ⟨hgp _ _ _ _ _ w, by simp [binOp, Op.equal, Op.maxDepth, V.conc, V1.conc, Lf.conc, run_equalIn_ptr w 9999 t _ (tk_ptr hk)]⟩⟩
    · exact sat_fail
  · refine sat_bind (sat_lift (Q := fun k => tk P t = some k) fun a h => h) fun k hk => ?_
    split
    · exact sat_pure ⟨V1.good_one.2 trivial, fun ρ w xo yo => ⟨hgp _ _ _ _ _ w, by simp [binOp, Op.equal, Op.maxDepth, V.conc, V1.conc, Lf.conc, run_equalIn_ptr w 9999 t _ (tk_ptr hk)]⟩⟩
    · exact sat_fail
  · refine sat_bind (sat_lift (Q := fun k => tk P t = some k) fun a h => h) fun k hk => ?_
    split
    · exact sat_pure ⟨V1.good_one.2 trivial, fun ρ w xo yo => ⟨hgp _ _ _ _ _ w, by simp [binOp, Op.equal, Op.maxDepth, V.conc, V1.conc, Lf.conc, run_equalIn_ptr w 9999 t _ (tk_ptr hk)]⟩⟩
    · exact sat_fail
  · refine sat_bind (sat_lift (Q := fun k => tk P t = some k) fun a h => h) fun k hk => ?_
    split
    · exact sat_pure ⟨V1.good_one.2 trivial, fun ρ w xo yo => ⟨hgp _ _ _ _ _ w, by simp [binOp, Op.equal, Op.maxDepth, V.conc, V1.conc, Lf.conc, run_equalIn_ptr w 9999 t _ (tk_ptr hk)]⟩⟩
    · exact sat_fail
  · refine sat_ite (fun _ => sat_fail) (fun hgt => ?_)
    refine sat_bind (evEq_sat 8 t _ _ hx hy) fun r hr => sat_pure ⟨V1.good_one.2 trivial, fun ρ w xo yo => ⟨?_, ?_⟩⟩
    · exact run_eqGuard_agg w _ t xo yo _ _ (by simpa using hgt)
    · have := hr ρ 9992 w
      simp only [V.conc, V1.conc] at this ⊢
      rw [run_eql_struct, this]
      rfl
  · refine sat_ite (fun _ => sat_fail) (fun hgt => ?_)
    refine sat_bind (evEq_sat 8 t _ _ hx hy) fun r hr => sat_bind mkNot_sat fun r2 hr2 => sat_pure ⟨V1.good_one.2 trivial, fun ρ w xo yo => ⟨?_, ?_⟩⟩
    · exact run_eqGuard_agg w _ t xo yo _ _ (by simpa using hgt)
    · have := hr ρ 9992 w
      simp only [V.conc, V1.conc] at this ⊢
      rw [run_neq_struct, this]
      simp [Lf.conc, hr2]
  · exact sat_fail
end
end Go.Sx
