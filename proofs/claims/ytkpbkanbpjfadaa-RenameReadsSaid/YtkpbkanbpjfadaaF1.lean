/- The evaluator's operations agree with the model's. -/
import Derived.Test.YtkpbkanbpjfadaaF0
import Derived.Deep.AppendSrc
import Derived.Laws.MakeOwn
import Derived.Laws.Externs
import Derived.KernelRfl
import Derived.Deep.Quiet
namespace Go.Sx
open Go.RowKit
section
variable {P : Program} {I : World → Prop} {S : Sigs} {F : FEnv} {E : Env} {ν : Nat → DV}

theorem V.easy_good {v : V} (h : v.easy = true) : v.good ν := by
  have h1 : ∀ l : Lf, l.easy = true → l.good ν := fun l hl => by
    cases l with
    | p b off => cases off <;> first | trivial | cases hl
    | gp b off => cases off <;> first | trivial | cases hl
    | _ => trivial
  have h2 : ∀ v : V1, v.cells.all Lf.easy = true → v.good ν := fun v hv l hl => h1 l (List.all_eq_true.1 hv l hl)
  cases v with
  | s v => exact h2 v h
  | t l => exact fun v hv => h2 v (List.all_eq_true.1 h v hv)
theorem Lf.inst_easy (ops : List A) (l : Lf) : (l.inst ops).easy = l.easy := by
  cases l with
  | p b off => cases off <;> rfl
  | gp b off => cases off <;> rfl
  | _ => rfl
theorem V1.inst_easy (ops : List A) (v : V1) : (v.inst ops).cells.all Lf.easy = v.cells.all Lf.easy := by
  cases v with
  | one l => simp [V1.inst, V1.cells, Lf.inst_easy]
  | agg l =>
    simp only [V1.inst, V1.cells, List.all_map]
    congr 1
    funext x
    exact Lf.inst_easy ops x
theorem V.inst_easy (ops : List A) (v : V) : (v.inst ops).easy = v.easy := by
  cases v with
  | s v => exact V1.inst_easy ops v
  | t l =>
    simp only [V.inst, V.easy, List.all_map]
    congr 1
    funext x
    exact V1.inst_easy ops x
theorem callEnv_inst {hin : List (Option Blk)} (as bs : List A) (ρ : Nat → Loc) (w : World) : callEnv (hin.map (Option.map (Blk.inst as))) ρ w = callEnv (hin.map (Option.map (Blk.inst bs))) ρ w := by
  have key : ∀ (o : Bool) (as bs : List A) (b : Nat), (∃ j bk, nth (hin.map (Option.map (Blk.inst as))) j = some bk ∧ bk.own = o ∧ (ρ j).nil = false ∧ (ρ j).blk = b) →
      ∃ j bk, nth (hin.map (Option.map (Blk.inst bs))) j = some bk ∧ bk.own = o ∧ (ρ j).nil = false ∧ (ρ j).blk = b := by
    rintro o as bs b ⟨j, bk, h1, h2, h3, h4⟩
    rw [nth_map] at h1
    obtain ⟨y, hy, rfl⟩ := Option.map_eq_some_iff.1 h1
    exact ⟨j, y.inst bs, by rw [nth_map, hy]; rfl, by rw [Blk.inst_own] at h2 ⊢; exact h2, h3, h4⟩
  unfold callEnv
  congr 1
  · funext b
    exact propext ⟨key _ _ _ b, key _ _ _ b⟩
  · funext b
    have hf : (hin.map (Option.map (Blk.inst as))).all (optAll Blk.flat) = (hin.map (Option.map (Blk.inst bs))).all (optAll Blk.flat) := by
      have : ∀ (as : List A) (l : List (Option Blk)), (l.map (Option.map (Blk.inst as))).all (optAll Blk.flat) = l.all (optAll Blk.flat) := fun as l => all_inst (fun ops b => Blk.inst_flat ops b) as l
      rw [this, this]
    have key2 : ∀ (as bs : List A), (hin.map (Option.map (Blk.inst as))).all (optAll Blk.flat) = (hin.map (Option.map (Blk.inst bs))).all (optAll Blk.flat) →
        ((∃ j bk, nth (hin.map (Option.map (Blk.inst as))) j = some bk ∧ bk.own = false ∧ (ρ j).nil = false ∧ (ρ j).blk = b) ∨ ((hin.map (Option.map (Blk.inst as))).all (optAll Blk.flat) = false ∧ b < w.heap.size ∧ ¬ ∃ j bk, nth (hin.map (Option.map (Blk.inst as))) j = some bk ∧ bk.own = true ∧ (ρ j).nil = false ∧ (ρ j).blk = b)) →
        (∃ j bk, nth (hin.map (Option.map (Blk.inst bs))) j = some bk ∧ bk.own = false ∧ (ρ j).nil = false ∧ (ρ j).blk = b) ∨ ((hin.map (Option.map (Blk.inst bs))).all (optAll Blk.flat) = false ∧ b < w.heap.size ∧ ¬ ∃ j bk, nth (hin.map (Option.map (Blk.inst bs))) j = some bk ∧ bk.own = true ∧ (ρ j).nil = false ∧ (ρ j).blk = b) := by
      intro as bs hf h
      rcases h with h | ⟨h1, h2, h3⟩
      · exact .inl (key _ as bs b h)
      · exact .inr ⟨by rw [← hf]; exact h1, h2, fun h => h3 (key _ bs as b h)⟩
    exact propext ⟨key2 as bs hf, key2 bs as hf.symm⟩
  · simp

theorem V.conc_lt0 {v : V} (h : v.lt 0 = true) (ρ ρ' : Nat → Loc) : v.conc ν ρ = v.conc ν ρ' := by
  have h1 : ∀ l : Lf, l.lt 0 = true → l.conc ν ρ = l.conc ν ρ' := fun l hl => by
    cases l <;> simp only [Lf.lt, decide_eq_true_eq] at hl <;> first | rfl | omega | (rename_i t _ _; cases t <;> rfl) | (simp only [Lf.conc]; rw [capsConc_lt hl (fun k hk => by omega)])
  have h2 : ∀ v : V1, v.lt 0 = true → v.conc ν ρ = v.conc ν ρ' := fun v hv => by
    cases v with
    | one l => exact h1 l (by simpa [V1.lt, V1.cells] using hv)
    | agg l =>
      simp only [V1.conc]
      congr 2
      exact List.map_congr_left fun x hx => h1 x (List.all_eq_true.1 hv x hx)
  cases v with
  | s v => exact h2 v h
  | t l =>
    simp only [V.conc]
    congr 2
    exact List.map_congr_left fun x hx => h2 x (List.all_eq_true.1 h x hx)

theorem slotsSub_somes {m : List Nat} : ∀ {x y : List V}, slotsSub m (x.map some) (y.map some) = true → (∀ ρ : Nat → Loc, x.map (V.conc ν (fun j => ρ (rnm m j))) = y.map (V.conc ν ρ)) ∧ ((∀ v ∈ y, V.good ν v) → ∀ v ∈ x, V.good ν v)
  | [], [], _ => ⟨fun _ => rfl, fun h => h⟩
  | x :: l, y :: l', h => by
    simp only [List.map_cons, slotsSub, Bool.and_eq_true] at h
    obtain ⟨h1, h2⟩ := V.sub_spec (ν := ν) h.1
    obtain ⟨h3, h4⟩ := slotsSub_somes h.2
    refine ⟨fun ρ => by simp only [List.map_cons, h1 ρ, h3 ρ], fun hg z hz => ?_⟩
    rcases List.mem_cons.1 hz with rfl | hz
    · exact h2 (hg y (by simp))
    · exact h4 (fun u hu => hg u (List.mem_cons_of_mem _ hu)) z hz
  | [], _ :: _, h => by simp [slotsSub] at h
  | _ :: _, [], h => by simp [slotsSub] at h

theorem Vs.inst_to {ν1 ν2 : Nat → DV} {p : A → Bool} {tys : List Ty} {as bs : List A} (hp : ∀ a, p a = true → a.den ν1 = a.den ν2) (h : PEq ν1 ν2 tys as bs) : ∀ {l : List V}, l.all (V.tyOk p tys) = true →
    (∀ ρ, (l.map (V.inst bs)).map (V.conc ν2 ρ) = (l.map (V.inst as)).map (V.conc ν1 ρ)) ∧ ((∀ x ∈ l.map (V.inst as), V.good ν1 x) → ∀ x ∈ l.map (V.inst bs), V.good ν2 x)
  | [], _ => ⟨fun _ => rfl, fun _ x hx => by cases hx⟩
  | x :: l, hl => by
    simp only [List.all_cons, Bool.and_eq_true] at hl
    obtain ⟨h1, h2⟩ := V.inst_to hp h hl.1
    obtain ⟨h3, h4⟩ := Vs.inst_to hp h hl.2
    refine ⟨fun ρ => by simp only [List.map_cons, h1 ρ, h3 ρ], fun hg z hz => ?_⟩
    simp only [List.map_cons] at hg hz
    rcases List.mem_cons.1 hz with rfl | hz
    · exact h2 (hg _ (by simp))
    · exact h4 (fun u hu => hg u (List.mem_cons_of_mem _ hu)) z hz

def CallTo (P : Program) (E : Env) (ν : Nat → DV) (f : FuncId) (vs : List V) (hp : List (Option Blk)) (ρ : Nat → Loc) (w : World) : OR → Prop
  | .val v => v.good ν ∧ Calls P f (vs.map (V.conc ν ρ)).toArray w (fun e w' => e = .returned (v.conc ν ρ) ∧ Below w.heap.size w w')
  | .hp v hp' => Calls P f (vs.map (V.conc ν ρ)).toArray w (fun e w' => ∃ x, e = .returned x ∧ ∃ ρ' : Nat → Loc, (∀ j, j < hp.length → ρ' j = ρ j) ∧ HS E ν ρ' hp' w' ∧ ∀ u, v = some u → u.good ν ∧ x = u.conc ν ρ')

theorem evCall_sat {K : Nat} (hS : SigsOK P I K S F) (hE : E.Ok K) {f : FuncId} {vs : List V} {hp : List (Option Blk)} : M.sat F ν (evCall P S f vs hp) (fun res => ∀ ρ w, (∀ v ∈ vs, V.good ν v) → HS E ν ρ hp w → I w →
    (callFunc f (vs.map (V.conc ν ρ)).toArray).run P w = .ok (.enter f (vs.map (V.conc ν ρ)).toArray) w ∧ CallTo P E ν f vs hp ρ w res) := by
  unfold evCall
  refine sat_bind (sat_lift (Q := fun sg => S.get f = some sg) fun a h => h) fun sg hsg => ?_
  have hfn := hS.fns f sg hsg
  dsimp only
  generalize hg : guess sg.nin ⟨sg.ins.map some, sg.hin⟩ ⟨vs.map some, hp⟩ = g
  have hgl : g.1.length = sg.its.length := by rw [← hg]; exact guess_len _ _ _
  refine sat_ite (fun hok => ?_) (fun _ => sat_fail)
  simp only [Bool.and_eq_true] at hok
  obtain ⟨⟨⟨⟨hcal, hsub⟩, hsgok⟩, hplt⟩, hnest⟩ := hok
  simp only [St.sub, Bool.and_eq_true, St.inst] at hsub
  obtain ⟨⟨hs1, hs2⟩, hs3⟩ := hsub
  simp only [Sig.ok, Bool.and_eq_true] at hsgok
  obtain ⟨⟨⟨⟨⟨⟨⟨k1, k2⟩, k3⟩, k4⟩, k5⟩, k6⟩, k7⟩, k8⟩ := hsgok
  have hs1' : slotsSub g.2 ((sg.ins.map (V.inst g.1)).map some) (vs.map some) = true := by
    have : (sg.ins.map some).map (Option.map (V.inst g.1)) = (sg.ins.map (V.inst g.1)).map some := by simp [List.map_map, Function.comp_def]
    rw [← this]; exact hs1
  obtain ⟨hargs, hgood⟩ := slotsSub_somes (ν := ν) hs1'
  have henter : ∀ (args : Array Value) (w : World), (callFunc f args).run P w = .ok (.enter f args) w := fun args w => by
    unfold calleeOk at hcal
    cases hf : P.funcs[f]? with
    | none => simp [hf] at hcal
    | some fn =>
      simp only [hf, Bool.and_eq_true, Bool.not_eq_true', beq_eq_false_iff_ne] at hcal
      obtain ⟨h1, h2⟩ := hcal
      obtain ⟨bd, hb⟩ := Option.isSome_iff_exists.1 h2
      simp [callFunc, hf, h1, hb]
  -- the values that go in
  generalize hds : g.1.map (A.den ν) = ds
  have hdl : ds.length = sg.its.length := by rw [← hds]; simpa using hgl
  have hpe : PEq ν (dget ds) sg.its g.1 (idsFrom 0 sg.nin) := by
    refine PEq.of_den hgl ?_
    rw [hds]
    have := ids_dget ds
    rw [hdl] at this
    exact this.symm
  obtain ⟨hva, hvg⟩ := Vs.inst_to const_den hpe k1
  refine sat_bind (R := fun j0 => j0 = (if sg.need then 1 else 0) ∧ (sg.need = true → (dget (F f ds) 0).toB = true)) ?_ fun j0 hj0 => ?_
  · refine sat_ite (fun hn => ?_) (fun hn => sat_pure ⟨by simp [hn], fun h => absurd h hn⟩)
    refine sat_bind (sat_emit (Q := fun r => r.den ν = (F f (g.1.map (A.den ν))).getD 0 default) fun r h => h) fun r hr => ?_
    refine sat_bind (sat_owe (Q := fun _ => r.bool ν = true) fun h => h) fun _ hr2 => sat_pure ⟨by simp [hn], fun _ => ?_⟩
    rw [dget, ← hds, ← hr]; exact hr2
  obtain ⟨rfl, hneed⟩ := hj0
  refine sat_bind (callOuts_sat sg.ots.length _) fun os hos => ?_
  rw [hds] at hos
  have hpo : PEq (sg.res (F f ds)) ν sg.ots (idsFrom 0 sg.ots.length) os := by
    refine PEq.of_den (idsFrom_len _ _) ?_
    rw [idsFrom_den (sg.res (F f ds)) sg.ots.length 0 0 (fun _ _ => rfl)]
    apply List.ext_getElem?
    intro i
    by_cases hi : i < sg.ots.length
    · rw [List.getElem?_map, List.getElem?_range' (by omega), List.getElem?_map, List.getElem?_eq_getElem (by rw [hos.1]; exact hi)]
      simp only [Option.map_some, Option.some.injEq]
      rw [hos.2 i _ (List.getElem?_eq_getElem (by rw [hos.1]; exact hi))]
      simp only [Sig.res, dget]
      congr 1
      omega
    · rw [List.getElem?_eq_none (by simpa using hi), List.getElem?_eq_none (by rw [List.length_map, hos.1]; omega)]
  obtain ⟨hoc, hog⟩ := V.inst_to const_den hpo k3
  -- the call
  have hcall : ∀ ρ w, (∀ v ∈ vs, V.good ν v) → HS E ν ρ hp w → I w → Calls P f (vs.map (V.conc ν ρ)).toArray w (fun e w' => ∃ x ρ', e = .returned x ∧ CallOut sg (F f ds) (fun j => ρ (rnm g.2 j)) w x ρ' w') := by
    intro ρ w hvs hh hI
    have h1 : HRel E ν (fun j => ρ (rnm g.2 j)) (sg.hin.map (Option.map (Blk.inst g.1))) w := hh.heap.sub hs2 hs3
    have h2 : HRel E (dget ds) (fun j => ρ (rnm g.2 j)) sg.hinI w := HRel.inst const_den hpe k2 h1
    have h0 : ∀ b, b < E.w0.heap.size → ¬ E.W b → b < w.heap.size ∧ ¬ (callEnv sg.hinI (fun j => ρ (rnm g.2 j)) w).W b ∧ w.heap[b]? = E.w0.heap[b]? := fun b hb hnW => by
      refine ⟨Nat.lt_of_lt_of_le hb hh.fr.size, ?_, hh.fr.block b hb hnW⟩
      rintro ⟨j, x, hx, hxo, hxn, hxe⟩
      change (ρ (rnm g.2 j)).blk = b at hxe
      change (ρ (rnm g.2 j)).nil = false at hxn
      unfold Sig.hinI at hx
      rw [nth_map] at hx
      obtain ⟨y, hy, rfl⟩ := Option.map_eq_some_iff.1 hx
      obtain ⟨b', e1, e2, e3⟩ := heapSub_lt hs2 (j := j) (b := y.inst g.1) (by rw [nth_map, hy]; rfl)
      have ho : b'.own = true := (Blk.sub_spec (E := E) (ν := ν) e3).1 (by rw [Blk.inst_own] at hxo ⊢; exact hxo)
      rcases hh.old _ _ e1 with h | h | h | h
      · rw [hxn] at h; cases h
      · omega
      · exact hnW (by rw [← hxe]; exact h)
      · rw [ho] at h; cases h.1
    have h3 : HRel (callEnv sg.hinI (fun j => ρ (rnm g.2 j)) w) (dget ds) (fun j => ρ (rnm g.2 j)) sg.hinI w :=
      ⟨fun j bk hj => by
        cases hfl : bk.flat with
        | true => exact (h2.blk j bk hj).flat hfl
        | false =>
          refine (h2.blk j bk hj).enter fun b hb hnW => ?_
          obtain ⟨c1, c2, c3⟩ := h0 b hb hnW
          refine ⟨c1, c2, .inr ⟨?_, c1, c2⟩, c3⟩
          cases hall : sg.hinI.all (optAll Blk.flat) with
          | false => rfl
          | true =>
            rw [all_nth_of hall hj] at hfl
            exact absurd hfl (by decide), h2.apart⟩
    have hKW : ∀ b, (callEnv sg.hinI (fun j => ρ (rnm g.2 j)) w).W b → K ≤ b := fun b hb => by
      rcases Nat.lt_or_ge b E.w0.heap.size with hlt | hge
      · by_cases hEW : E.W b
        · exact hE.2 b hEW
        · exact absurd hb (h0 b hlt hEW).2.1
      · exact Nat.le_trans hE.1 hge
    have := hfn ds (fun j => ρ (rnm g.2 j)) w hI hdl hneed (Nat.le_trans hE.1 hh.fr.size) hKW (hvg (hgood hvs)) h3
    have hargs2 : (sg.insI.map (V.conc (dget ds) fun j => ρ (rnm g.2 j))) = vs.map (V.conc ν ρ) := by
      unfold Sig.insI
      rw [hva, hargs ρ]
    rw [hargs2] at this
    exact this
  refine sat_ite (fun hemp => ?_) (fun hemp => ?_)
  · refine sat_pure fun ρ w hvs hh hI => ⟨henter _ w, ?_⟩
    simp only [Bool.and_eq_true, List.isEmpty_iff] at hemp
    have hlt0 : (sg.out.inst os).lt 0 = true := by rw [V.inst_lt]; rw [hemp.2] at k5; exact k5
    refine ⟨V.easy_good (by rw [V.inst_easy]; exact k8), (hcall ρ w hvs hh hI).mono fun e w' ⟨x, ρ', he, hc⟩ => ⟨?_, ?_⟩⟩
    · rw [he, hc.val]
      unfold Sig.outI
      rw [← hoc ρ', V.conc_lt0 hlt0 ρ' ρ]
    · have := hc.fr.weaken (W' := fun _ => False) (fun b hb => by
        obtain ⟨j, bk, h1, h2, _⟩ := hb
        unfold Sig.hinI at h1
        rw [nth_map] at h1
        obtain ⟨y, hy, rfl⟩ := Option.map_eq_some_iff.1 h1
        have := all_nth_of hemp.1 hy
        rw [Blk.inst_own] at h2
        rw [h2] at this
        cases this)
      exact this.below
  · refine sat_pure fun ρ w hvs hh hI => ⟨henter _ w, (hcall ρ w hvs hh hI).mono fun e w' ⟨x, ρ', he, hc⟩ => ⟨x, he, ?_⟩⟩
    obtain ⟨hc1, _, hc3, hc4, hc5, hc6⟩ := hc
    have hcw : callEnv sg.hinI (fun j => ρ (rnm g.2 j)) w = callEnv (sg.hin.map (Option.map (Blk.inst g.1))) (fun j => ρ (rnm g.2 j)) w := callEnv_inst _ _ _ _
    rw [hcw] at hc3 hc4 hc5
    have hb := HRel.inst const_den hpo k4 hc3
    have e2 : ∀ (l : List (Option Blk)) (j : Nat), anyFrozen (sg.hin.map (Option.map (Blk.inst g.1))) j (l.map (Option.map (Blk.inst os))) = anyFrozen sg.hin j l := fun l => by
      induction l with
      | nil => intro j; rfl
      | cons x l ih =>
        intro j
        simp only [List.map_cons, anyFrozen, ih, stays_inst]
        cases x with
        | none => rfl
        | some y => simp [Blk.inst_own]
    have hnest' : anyFrozen (sg.hin.map (Option.map (Blk.inst g.1))) 0 (sg.hout.map (Option.map (Blk.inst os))) = true → (sg.hin.map (Option.map (Blk.inst g.1))).all (optAll Blk.flat) = true := fun h => by
      rw [e2] at h
      rw [all_inst (fun ops b => Blk.inst_flat ops b)]
      rw [h] at hnest
      simpa using hnest
    have hback := HS.back (ho := sg.hout.map (Option.map (Blk.inst os))) hh hs2 hplt (by rw [List.length_map, all_inst (fun ops b => Blk.inst_lt _ ops b)]; exact k6) (by rw [all_inst (fun ops b => Blk.inst_flat ops b)]; exact k7) hb (OldF.inst hc4) hnest' hc5
      (fun j hj hl => hc6 j (by rw [stays_inst] at hj; exact hj) (by simpa using hl))
    have e1 : ∀ k n, backMap (sg.hin.map (Option.map (Blk.inst g.1))) g.2 n k = backMap sg.hin g.2 n k := fun k n => by
      unfold backMap
      exact List.map_congr_left fun j _ => by rw [stays_inst]
    have e3 : ∀ (l : List (Option Blk)) (m1 : List Nat) (j : Nat), newBack (sg.hin.map (Option.map (Blk.inst g.1))) m1 j l = newBack sg.hin m1 j l := fun l m1 => by
      induction l with
      | nil => intro j; rfl
      | cons x l ih => intro j; simp only [newBack, ih, stays_inst]
    have e4 : ∀ (ho : List (Option Blk)) (m1 : List Nat) (dem : Bool) (k j : Nat) (hp : List (Option Blk)), putBack (sg.hin.map (Option.map (Blk.inst g.1))) ho g.2 m1 dem k j hp = putBack sg.hin ho g.2 m1 dem k j hp := fun ho m1 dem k => by
      induction k with
      | zero => intro j hp; rfl
      | succ k ih =>
        intro j hp
        unfold putBack
        rw [nth_map]
        cases nth sg.hin j with
        | none => exact ih _ _
        | some y => simp only [Option.map_some, Blk.inst_own, stays_inst, ih]
    rw [e1, e2, e3, e4, List.length_map, List.length_map] at hback
    refine ⟨_, fun j hj => by simp [hj], hback.2, fun u hu => ?_⟩
    cases hu
    have hren := V.ren_spec (ν := ν) (m := backMap sg.hin g.2 hp.length sg.hout.length) (ρ := ρ') (ρ' := fun i => if i < hp.length then ρ i else ρ' (i - hp.length)) (v := sg.out.inst os) hback.1 (by rw [V.inst_lt]; exact k5)
    refine ⟨hren.2 (V.easy_good (by rw [V.inst_easy]; exact k8)), ?_⟩
    rw [hren.1, hoc ρ']
    exact hc1

theorem tk_ptr {t : TypeId} {e : Nat} (h : tk P t = some (.ptr e)) : P.underlying t = some (.pointer e) := by
  obtain ⟨d, hd, hk⟩ := tk_spec h
  cases d <;> simp [tkOf] at hk
  exact hk ▸ hd
theorem run_equalIn_ptr (w : World) (d : Nat) (t : TypeId) (p : Option Addr) {e : Nat} (h : P.underlying t = some (.pointer e)) :
    (Op.equalIn (d + 1) t (.pointer p) (.pointer none)).run P w = .ok p.isNone w := by
  cases p <;> simp [Op.equalIn, run_underlying h]
theorem evBinV_sat {op : BinOp} {t : TypeId} {x y : V} (hx : x.good ν) (hy : y.good ν) : M.sat F ν (evBinV P op t x y) (fun v => v.good ν ∧ ∀ (ρ : Nat → Loc) (w : World), ∀ (xo yo : Operand),
    (eqGuard op t xo yo (x.conc ν ρ) (y.conc ν ρ)).run P w = .ok () w ∧ (binOp op t (x.conc ν ρ) (y.conc ν ρ)).run P w = .ok (v.conc ν ρ) w) := by
  have hgi : ∀ (op : BinOp) (xo yo : Operand) (k k' : IntKind) (a b : Int) (w : World), (eqGuard op t xo yo (.int k a) (.int k' b)).run P w = .ok () w := by
    intro op xo yo k k' a b w; cases op <;> simp [eqGuard]
  have hgp : ∀ (op : BinOp) (xo yo : Operand) (a b : Option Addr) (w : World), (eqGuard op t xo yo (.pointer a) (.pointer b)).run P w = .ok () w := by
    intro op xo yo a b w; cases op <;> simp [eqGuard]
  have hgb : ∀ (op : BinOp) (xo yo : Operand) (a b : Bool) (w : World), (eqGuard op t xo yo (.bool a) (.bool b)).run P w = .ok () w := by
    intro op xo yo a b w; cases op <;> simp [eqGuard]
  unfold evBinV
  split
  · exact sat_bind (sat_pull fun ρ w => evShift_sat (ρ := ρ) (w := w) t) fun l hl => sat_pure ⟨V1.good_one.2 hl.1, fun ρ w xo yo => ⟨hgi _ _ _ _ _ _ _ w, hl.2 ρ w⟩⟩
  · exact sat_bind (sat_pull fun ρ w => evShift_sat (ρ := ρ) (w := w) t) fun l hl => sat_pure ⟨V1.good_one.2 hl.1, fun ρ w xo yo => ⟨hgi _ _ _ _ _ _ _ w, hl.2 ρ w⟩⟩
  · rename_i k a k' b hne1 hne2
    refine sat_ite (fun hk => ?_) (fun _ => sat_fail)
    have := kEq_eq hk; subst this
    have e1 : op ≠ .shl := fun h => hne1 h
    have e2 : op ≠ .shr := fun h => hne2 h
    exact sat_bind (sat_pull fun ρ w => evBin_sat (ρ := ρ) (w := w) e1 e2 t) fun l hl => sat_pure ⟨V1.good_one.2 hl.1, fun ρ w xo yo => ⟨hgi _ _ _ _ _ _ _ w, hl.2 ρ w⟩⟩
  · rename_i a b
    refine sat_bind (sat_lift (Q := fun k => tk P t = some k) fun a h => h) fun k hk => ?_
    split
    · exact sat_bind (sat_pull fun ρ w => evBoolOp_sat (ρ := ρ) (w := w) t (tk_bool hk)) fun l hl => sat_pure ⟨V1.good_one.2 hl.1, fun ρ w xo yo => ⟨hgb _ _ _ _ _ w, hl.2 ρ w⟩⟩
    · exact sat_fail
  · rename_i a b
    refine sat_bind (sat_lift (Q := fun k => tk P t = some k) fun a h => h) fun k hk => ?_
    split
    · exact sat_bind (sat_pull fun ρ w => evBoolOp_sat (ρ := ρ) (w := w) t (tk_bool hk)) fun l hl => sat_pure ⟨V1.good_one.2 hl.1, fun ρ w xo yo => ⟨hgb _ _ _ _ _ w, hl.2 ρ w⟩⟩
    · exact sat_fail
  · refine sat_bind (sat_lift (Q := fun k => tk P t = some k) fun a h => h) fun k hk => ?_
    split
    · exact sat_pure ⟨V1.good_one.2 trivial, fun ρ w xo yo => ⟨hgp _ _ _ _ _ w, by simp [binOp, Op.equal, Op.maxDepth, V.conc, V1.conc, Lf.conc, run_equalIn_ptr w 9999 t _ (tk_ptr hk)]⟩⟩
    · exact sat_fail
  · refine sat_bind (sat_lift (Q := fun k => tk P t = some k) fun a h => h) fun k hk => ?_
    split
    · exact sat_pure ⟨V1.good_one.2 trivial, fun ρ w xo yo => ⟨hgp _ _ _ _ _ w, by simp [binOp, Op.equal, Op.maxDepth, V.conc, V1.conc, Lf.conc, run_equalIn_ptr w 9999 t _ (tk_ptr hk)]⟩⟩
    · exact sat_fail
  · refine sat_bind (sat_lift (Q := fun k => tk P t = some k) fun a h => h) fun k hk => ?_
    split
    · exact sat_pure ⟨V1.good_one.2 trivial, fun ρ w xo yo => ⟨hgp _ _ _ _ _ w, by simp [binOp, Op.equal, Op.maxDepth, V.conc, V1.conc, Lf.conc, run_equalIn_ptr w 9999 t _ (tk_ptr hk)]⟩⟩
    · exact sat_fail
  · refine sat_bind (sat_lift (Q := fun k => tk P t = some k) fun a h => h) fun k hk => ?_
    split
    · exact sat_pure ⟨V1.good_one.2 trivial, fun ρ w xo yo => ⟨hgp _ _ _ _ _ w, by simp [binOp, Op.equal, Op.maxDepth, V.conc, V1.conc, Lf.conc, run_equalIn_ptr w 9999 t _ (tk_ptr hk)]⟩⟩
    · exact sat_fail
  · refine sat_ite (fun _ => sat_fail) (fun hgt => ?_)
    refine sat_bind (evEq_sat 8 t _ _ hx hy) fun r hr => sat_pure ⟨V1.good_one.2 trivial, fun ρ w xo yo => ⟨?_, ?_⟩⟩
    · exact run_eqGuard_agg w _ t xo yo _ _ (by simpa using hgt)
    · have := hr ρ 9992 w
      simp only [V.conc, V1.conc] at this ⊢
      rw [run_eql_struct, this]
      rfl
  · refine sat_ite (fun _ => sat_fail) (fun hgt => ?_)
    refine sat_bind (evEq_sat 8 t _ _ hx hy) fun r hr => sat_bind mkNot_sat fun r2 hr2 => sat_pure ⟨V1.good_one.2 trivial, fun ρ w xo yo => ⟨?_, ?_⟩⟩
    · exact run_eqGuard_agg w _ t xo yo _ _ (by simpa using hgt)
    · have := hr ρ 9992 w
      simp only [V.conc, V1.conc] at this ⊢
      rw [run_neq_struct, this]
      simp [Lf.conc, hr2]
  · exact sat_fail
end
end Go.Sx

namespace Go.Sx
open Go.RowKit
section
variable {P : Program} {I : World → Prop} {S : Sigs} {F : FEnv} {E : Env} {ν : Nat → DV}

theorem overwrite_conc {ρ : Nat → Loc} : ∀ (l : List Lf) (cs : List Lf) (k o : Nat) (A : Array Value), A.toList = cs.map (Lf.conc ν ρ) →
    (((l.map (Lf.conc ν ρ)).zipIdx k).foldl (fun (cs : Array Value) (p : Value × Nat) => cs.setIfInBounds (o + p.2) p.1) A).toList = (overwrite cs (o + k) l).map (Lf.conc ν ρ)
  | [], cs, k, o, A, h => by simpa [overwrite] using h
  | c :: l, cs, k, o, A, h => by
    simp only [List.map_cons, List.zipIdx_cons, List.foldl_cons, overwrite]
    rw [overwrite_conc l (cs.set (o + k) c) (k + 1) o _ (by simp [h, List.map_set])]
    rfl
theorem overwrite_good : ∀ {l cs : List Lf} {o : Nat}, (∀ x ∈ cs, Lf.good ν x) → (∀ x ∈ l, Lf.good ν x) → ∀ x ∈ overwrite cs o l, Lf.good ν x
  | [], cs, o, h, _ => h
  | c :: l, cs, o, h, h2 => overwrite_good (l := l) (fun x hx => by
      rcases List.mem_or_eq_of_mem_set hx with hx | rfl
      · exact h x hx
      · exact h2 x (by simp)) (fun x hx => h2 x (List.mem_cons_of_mem _ hx))
theorem V1.cells_conc {v : V1} (hok : v.cells.all Lf.ok = true) (ρ : Nat → Loc) : (v.conc ν ρ).cells = (v.cells.map (Lf.conc ν ρ)).toArray := by
  cases v with
  | one l =>
    have h1 : (l.conc ν ρ).oneCell' = true := Lf.ok_conc (by simpa [V1.cells] using hok) ρ
    exact cells_one h1
  | agg l => rfl

theorem fillC_spec {place : Nat → Option (Nat × Nat)} {place' : Nat → Option (Nat × Nat)} (hp : ∀ i, place' i = place i) {ρ : Nat → Loc} : ∀ (ps : List (Nat × V1)) (cs r : List Lf) (A : Array Value),
    A.toList = cs.map (Lf.conc ν ρ) → fillC place cs ps = some r →
    ∃ B, Instr.fill place' A (ps.map fun p => (p.1, p.2.conc ν ρ)) = some B ∧ B.toList = r.map (Lf.conc ν ρ)
  | [], cs, r, A, h, hf => by simp [fillC] at hf; subst hf; exact ⟨A, rfl, h⟩
  | p :: ps, cs, r, A, h, hf => by
    simp only [fillC] at hf
    split at hf
    · cases hf
    · rename_i o sz hpl
      split at hf
      · rename_i hc
        simp only [Bool.and_eq_true] at hc
        obtain ⟨⟨h1, h2⟩, h3⟩ := hc
        have h1 := Nat.eq_of_beq_eq_true h1
        have h2 := Nat.le_of_ble_eq_true h2
        have hcells := V1.cells_conc (ν := ν) h3 ρ
        have hA : A.size = cs.length := by rw [← Array.length_toList, h]; simp
        simp only [List.map_cons, Instr.fill, hp, hpl, hcells]
        rw [if_neg (by simp; omega)]
        refine fillC_spec hp ps _ r _ ?_ hf
        have := overwrite_conc (ν := ν) (ρ := ρ) p.2.cells cs 0 o A h
        rw [Nat.add_zero] at this
        rw [← this, ← Array.foldl_toList]
        simp
      · cases hf

theorem fillC_good {place : Nat → Option (Nat × Nat)} : ∀ (ps : List (Nat × V1)) (cs r : List Lf), (∀ x ∈ cs, Lf.good ν x) → (∀ p ∈ ps, p.2.good ν) → fillC place cs ps = some r → ∀ x ∈ r, Lf.good ν x
  | [], cs, r, h, _, hf => by simp [fillC] at hf; subst hf; exact h
  | p :: ps, cs, r, h, hg, hf => by
    simp only [fillC] at hf
    split at hf
    · cases hf
    · split at hf
      · exact fillC_good ps _ r (overwrite_good h (hg p (by simp))) (fun q hq => hg q (List.mem_cons_of_mem _ hq)) hf
      · cases hf

def ext (ρ : Nat → Loc) (n : Nat) (x : Loc) : Nat → Loc := fun j => if j = n then x else ρ j
theorem ext_same (ρ : Nat → Loc) (n : Nat) (x : Loc) : ext ρ n x n = x := by simp [ext]
theorem ext_lt {ρ : Nat → Loc} {n j : Nat} {x : Loc} (h : j < n) : ext ρ n x j = ρ j := by simp [ext]; intro e; omega
theorem Lf.conc_ext {ρ : Nat → Loc} {n : Nat} {x : Loc} {l : Lf} (h : l.lt n = true) : l.conc ν (ext ρ n x) = l.conc ν ρ := by
  cases l <;> simp only [Lf.lt, decide_eq_true_eq] at h <;> simp only [Lf.conc]
  · rw [ext_lt h]
  · rw [ext_lt h]
  · rename_i t _ _; cases t <;> rfl
  · rw [capsConc_lt h fun k hk => ext_lt hk]

theorem HS.new {ρ : Nat → Loc} {hp : List (Option Blk)} {w : World} (h : HS E ν ρ hp w) (hlt : hp.all (optAll (Blk.lt hp.length)) = true) {cs : List Lf} (hcs : cs.all (Lf.lt hp.length) = true) (hg : ∀ l ∈ cs, Lf.good ν l) (el : TypeId) :
    HS E ν (ext ρ hp.length ⟨w.heap.size, 0, false, 0, 0, none⟩) (hp ++ [some (.c true (cs.map some))]) (w.alloc (.cells (cs.map (Lf.conc ν ρ)).toArray el)) := by
  have hcase : ∀ j bk, nth (hp ++ [some (.c true (cs.map some))]) j = some bk → (nth hp j = some bk ∧ j < hp.length) ∨ (j = hp.length ∧ bk = .c true (cs.map some)) := by
    intro j bk hj
    rw [nth_append] at hj
    split at hj
    · exact .inl ⟨hj, nth_lt hj⟩
    · right
      have : j - hp.length = 0 := by
        cases hk : j - hp.length with
        | zero => rfl
        | succ k => rw [hk] at hj; cases k <;> cases hj
      rw [this] at hj
      cases hj
      exact ⟨by omega, rfl⟩
  have hb : Below w.heap.size w (w.alloc (.cells (cs.map (Lf.conc ν ρ)).toArray el)) := ⟨rfl, rfl, rfl, by simp, fun k hk => Below.heap_alloc _ _ _ hk⟩
  refine ⟨⟨fun j bk hj => ?_, fun j j' bk bk' hj ho hj' hne hn1 hn2 => ?_⟩, fun j bk hj => ?_, h.fr.trans (Fr.of_below hb), by rw [List.length_append]; have := h.len; omega, fun j hj => by rw [ext_lt (by have := h.len; omega)]; exact h.keep j hj⟩
  · rcases hcase j bk hj with ⟨hj, hjl⟩ | ⟨rfl, rfl⟩
    · rw [ext_lt hjl]
      exact (((h.heap.blk j bk hj).of_block hb.size (fun hn => hb.block _ ((h.heap.blk j bk hj).lt hn))).keep (fun k hk => ext_lt hk) (all_nth_of hlt hj))
    · rw [ext_same]
      show CBlk ν (ext ρ hp.length ⟨w.heap.size, 0, false, 0, 0, none⟩) (w.alloc (.cells (cs.map (Lf.conc ν ρ)).toArray el)) ⟨w.heap.size, 0, false, 0, 0, none⟩ true (cs.map some)
      refine ⟨rfl, by simp, fun i l hl => ?_, fun _ i hi => ?_, fun _ o => World.frozen?_alloc_new _ _ _ _⟩
      · rw [nth_map_some] at hl
        have hm := List.mem_of_getElem? hl
        refine ⟨hg l hm, ?_⟩
        rw [Lf.conc_ext (List.all_eq_true.1 hcs l hm)]
        simp only [Nat.zero_add]
        rw [World.cell?_alloc_new]
        simp [hl]
      · simp only [Nat.zero_add]
        rw [World.cell?_alloc_new, World.frozen?_alloc_new]
        simp at hi
        simp [hi]
  · rcases hcase j bk hj with ⟨hj, hjl⟩ | ⟨rfl, rfl⟩
    · rcases hcase j' bk' hj' with ⟨hj', hjl'⟩ | ⟨rfl, rfl⟩
      · rw [ext_lt hjl] at hn1 ⊢
        rw [ext_lt hjl'] at hn2 ⊢
        exact h.heap.apart j j' bk bk' hj ho hj' hne hn1 hn2
      · rw [ext_lt hjl] at hn1 ⊢
        rw [ext_same]
        have := (h.heap.blk j bk hj).lt hn1
        simp; omega
    · rcases hcase j' bk' hj' with ⟨hj', hjl'⟩ | ⟨rfl, rfl⟩
      · rw [ext_lt hjl'] at hn2 ⊢
        rw [ext_same]
        have := (h.heap.blk j' bk' hj').lt hn2
        simp; omega
      · exact absurd rfl hne
  · rcases hcase j bk hj with ⟨hj, hjl⟩ | ⟨rfl, rfl⟩
    · rw [ext_lt hjl]; exact h.old j bk hj
    · rw [ext_same]; exact .inr (.inl h.fr.size)

theorem HS.upd {ρ : Nat → Loc} {hp : List (Option Blk)} {w w' : World} (h : HS E ν ρ hp w) {b : Nat} {bk nb : Blk} (hbk : nth hp b = some bk) (ho : bk.own = true) (hnb : nb.own = true)
    (hb : BlkRel E ν ρ w' (ρ b) nb) (hn : (ρ b).nil = false) (hs : w'.heap.size = w.heap.size) (h1 : w'.os = w.os) (h2 : w'.tape = w.tape) (h3 : w'.output = w.output) (hk : ∀ k, k ≠ (ρ b).blk → w'.heap[k]? = w.heap[k]?) :
    HS E ν ρ (setNth (some nb) hp b) w' := by
  have hlt := nth_lt hbk
  have hcase : ∀ j bk', nth (setNth (some nb) hp b) j = some bk' → (j = b ∧ bk' = nb) ∨ (j ≠ b ∧ nth hp j = some bk') := by
    intro j bk' hj
    by_cases hjb : b = j
    · subst hjb
      rw [nth_setNth_same, if_pos hlt] at hj
      cases hj; exact .inl ⟨rfl, rfl⟩
    · rw [nth_setNth_ne _ _ _ _ hjb] at hj
      exact .inr ⟨fun e => hjb e.symm, hj⟩
  refine ⟨⟨fun j bk' hj => ?_, fun j j' bk1 bk2 hj ho1 hj' hne hn1 hn2 => ?_⟩, fun j bk' hj => ?_, ?_, by rw [setNth_length]; exact h.len, h.keep⟩
  · rcases hcase j bk' hj with ⟨rfl, rfl⟩ | ⟨hne, hj⟩
    · exact hb
    · exact (h.heap.blk j bk' hj).of_block (by omega) (fun hnj => hk _ (h.heap.apart b j bk bk' hbk ho hj (Ne.symm hne) hn hnj).symm)
  · rcases hcase j bk1 hj with ⟨e1, e2⟩ | ⟨hq1, k1⟩
    · rcases hcase j' bk2 hj' with ⟨e3, e4⟩ | ⟨hq2, k2⟩
      · exact absurd (e1.trans e3.symm) hne
      · subst e1; exact h.heap.apart j j' bk bk2 hbk ho k2 hne hn1 hn2
    · rcases hcase j' bk2 hj' with ⟨e3, e4⟩ | ⟨hq2, k2⟩
      · subst e3; exact (h.heap.apart j' j bk bk1 hbk ho k1 (Ne.symm hne) hn2 hn1).symm
      · exact h.heap.apart j j' bk1 bk2 k1 ho1 k2 hne hn1 hn2
  · rcases hcase j bk' hj with ⟨rfl, rfl⟩ | ⟨hne, hj⟩
    · rcases h.old j bk hbk with h | h | h | h
      · exact .inl h
      · exact .inr (.inl h)
      · exact .inr (.inr (.inl h))
      · rw [ho] at h; cases h.1
    · exact h.old j bk' hj
  · refine ⟨h1.trans h.fr.os, h2.trans h.fr.tape, h3.trans h.fr.output, by rw [hs]; exact h.fr.size, fun k hkl hW => ?_⟩
    have hkb : k ≠ (ρ b).blk := by
      intro e
      rcases h.old b bk hbk with h' | h' | h' | h'
      · rw [hn] at h'; cases h'
      · omega
      · exact hW (e ▸ h')
      · rw [ho] at h'; cases h'.1
    rw [hk k hkb]; exact h.fr.block k hkl hW


theorem all_setNone {α : Type} {p : Option α → Bool} (hp : p none = true) : ∀ {l : List (Option α)} {n : Nat}, l.all p = true → (setNth none l n).all p = true
  | [], _, _ => rfl
  | x :: l, 0, h => by
    simp only [List.all_cons, Bool.and_eq_true] at h
    simp [setNth, hp, h.2]
  | x :: l, n + 1, h => by
    simp only [List.all_cons, Bool.and_eq_true] at h
    simp [setNth, h.1, all_setNone hp h.2]
theorem hpLt_kill {hp : List (Option Blk)} {b : Nat} (h : hpLt hp = true) : hpLt (setNth none hp b) = true := by
  unfold hpLt at *
  rw [setNth_length]
  exact all_setNone rfl h

theorem nth_kill {α : Type} {l : List (Option α)} {b j : Nat} {x : α} (h : nth (setNth none l b) j = some x) : j ≠ b ∧ nth l j = some x := by
  by_cases hj : b = j
  · subst hj
    rw [nth_setNth_same] at h
    split at h <;> cases h
  · rw [nth_setNth_ne _ _ _ _ hj] at h
    exact ⟨fun e => hj e.symm, h⟩

theorem HS.killw {ρ : Nat → Loc} {hp : List (Option Blk)} {w w' : World} (h : HS E ν ρ hp w) {b : Nat} {bk : Blk} (hbk : nth hp b = some bk) (ho : bk.own = true) (hn : (ρ b).nil = false)
    (hs : w'.heap.size = w.heap.size) (h1 : w'.os = w.os) (h2 : w'.tape = w.tape) (h3 : w'.output = w.output) (hk : ∀ k, k ≠ (ρ b).blk → w'.heap[k]? = w.heap[k]?) : HS E ν ρ (setNth none hp b) w' := by
  refine ⟨⟨fun j bk' hj => ?_, fun j j' bk1 bk2 hj ho1 hj' hne hn1 hn2 => ?_⟩, fun j bk' hj => ?_, ?_, by rw [setNth_length]; exact h.len, h.keep⟩
  · obtain ⟨hne, hj⟩ := nth_kill hj
    exact (h.heap.blk j bk' hj).of_block (by omega) (fun hnj => hk _ (h.heap.apart b j bk bk' hbk ho hj (Ne.symm hne) hn hnj).symm)
  · exact h.heap.apart j j' bk1 bk2 (nth_kill hj).2 ho1 (nth_kill hj').2 hne hn1 hn2
  · exact h.old j bk' (nth_kill hj).2
  · refine ⟨h1.trans h.fr.os, h2.trans h.fr.tape, h3.trans h.fr.output, by rw [hs]; exact h.fr.size, fun k hkl hW => ?_⟩
    have hkb : k ≠ (ρ b).blk := by
      intro e
      rcases h.old b bk hbk with h' | h' | h' | h'
      · rw [hn] at h'; cases h'
      · omega
      · exact hW (e ▸ h')
      · rw [ho] at h'; cases h'.1
    rw [hk k hkb]; exact h.fr.block k hkl hW
theorem HS.kill {ρ : Nat → Loc} {hp : List (Option Blk)} {w : World} (h : HS E ν ρ hp w) (b : Nat) : HS E ν ρ (setNth none hp b) w :=
  ⟨⟨fun j bk' hj => h.heap.blk j bk' (nth_kill hj).2, fun j j' bk1 bk2 hj ho1 hj' hne hn1 hn2 => h.heap.apart j j' bk1 bk2 (nth_kill hj).2 ho1 (nth_kill hj').2 hne hn1 hn2⟩,
   fun j bk' hj => h.old j bk' (nth_kill hj).2, h.fr, by rw [setNth_length]; exact h.len, h.keep⟩

theorem HS.push {ρ : Nat → Loc} {hp : List (Option Blk)} {w w' : World} (h : HS E ν ρ hp w) (hlt : hpLt hp = true) (hb : Below w.heap.size w w') {bk : Blk} {r : Loc}
    (hrel : BlkRel E ν (ext ρ hp.length r) w' r bk)
    (hap : ∀ j b', nth hp j = some b' → (bk.own = true ∨ b'.own = true) → r.nil = false → (ρ j).nil = false → (ρ j).blk ≠ r.blk)
    (hold : r.nil = true ∨ E.w0.heap.size ≤ r.blk ∨ E.W r.blk ∨ (bk.own = false ∧ E.V r.blk)) : HS E ν (ext ρ hp.length r) (hp ++ [some bk]) w' := by
  have hcase : ∀ j b', nth (hp ++ [some bk]) j = some b' → (nth hp j = some b' ∧ j < hp.length) ∨ (j = hp.length ∧ b' = bk) := by
    intro j b' hj
    rw [nth_append] at hj
    split at hj
    · exact .inl ⟨hj, nth_lt hj⟩
    · right
      have : j - hp.length = 0 := by
        cases hk : j - hp.length with
        | zero => rfl
        | succ k => rw [hk] at hj; cases k <;> cases hj
      rw [this] at hj
      cases hj
      exact ⟨by omega, rfl⟩
  refine ⟨⟨fun j b' hj => ?_, fun j j' b1 b2 hj ho hj' hne hn1 hn2 => ?_⟩, fun j b' hj => ?_, h.fr.trans (Fr.of_below hb), by rw [List.length_append]; have := h.len; omega, fun j hj => by rw [ext_lt (by have := h.len; omega)]; exact h.keep j hj⟩
  · rcases hcase j b' hj with ⟨hj, hjl⟩ | ⟨rfl, rfl⟩
    · rw [ext_lt hjl]
      exact (((h.heap.blk j b' hj).of_block hb.size (fun hn => hb.block _ ((h.heap.blk j b' hj).lt hn))).keep (fun k hk => ext_lt hk) (all_nth_of hlt hj))
    · rw [ext_same]
      exact hrel
  · rcases hcase j b1 hj with ⟨kj, hjl⟩ | ⟨e1, e2⟩
    · rcases hcase j' b2 hj' with ⟨kj', hjl'⟩ | ⟨e3, e4⟩
      · rw [ext_lt hjl] at hn1 ⊢
        rw [ext_lt hjl'] at hn2 ⊢
        exact h.heap.apart j j' b1 b2 kj ho kj' hne hn1 hn2
      · subst e3
        rw [ext_lt hjl] at hn1 ⊢
        rw [ext_same] at hn2 ⊢
        exact hap j b1 kj (.inr ho) hn2 hn1
    · rcases hcase j' b2 hj' with ⟨kj', hjl'⟩ | ⟨e3, e4⟩
      · subst e1
        rw [ext_lt hjl'] at hn2 ⊢
        rw [ext_same] at hn1 ⊢
        exact (hap j' b2 kj' (.inl (by rw [← e2]; exact ho)) hn1 hn2).symm
      · exact absurd (e1.trans e3.symm) hne
  · rcases hcase j b' hj with ⟨hj, hjl⟩ | ⟨rfl, rfl⟩
    · rw [ext_lt hjl]; exact h.old j b' hj
    · rw [ext_same]; exact hold
theorem HS.fresh {ρ : Nat → Loc} {hp : List (Option Blk)} {w w' : World} (h : HS E ν ρ hp w) (hlt : hpLt hp = true) (hb : Below w.heap.size w w') {bk : Blk} {r : Loc}
    (hrel : BlkRel E ν (ext ρ hp.length r) w' r bk) (hr : r.nil = true ∨ w.heap.size ≤ r.blk) : HS E ν (ext ρ hp.length r) (hp ++ [some bk]) w' := by
  refine h.push hlt hb hrel (fun j b' hj _ hn hn' => ?_) ?_
  · have := (h.heap.blk j b' hj).lt hn'
    rcases hr with hr | hr
    · rw [hn] at hr; cases hr
    · omega
  · rcases hr with hr | hr
    · exact .inl hr
    · exact .inr (.inl (Nat.le_trans h.fr.size hr))
theorem HS.reloc {ρ ρ' : Nat → Loc} {hp : List (Option Blk)} {w : World} (h : HS E ν ρ hp w) (hlt : hpLt hp = true) (hρ : ∀ j, j < hp.length → ρ' j = ρ j) : HS E ν ρ' hp w := by
  refine ⟨⟨fun j bk hj => ?_, fun j j' b1 b2 hj ho hj' hne hn1 hn2 => ?_⟩, fun j bk hj => ?_, h.fr, h.len, fun j hj => by rw [hρ j (by have := h.len; omega)]; exact h.keep j hj⟩
  · rw [hρ j (nth_lt hj)]
    exact (h.heap.blk j bk hj).keep hρ (all_nth_of hlt hj)
  · rw [hρ j (nth_lt hj)] at hn1 ⊢
    rw [hρ j' (nth_lt hj')] at hn2 ⊢
    exact h.heap.apart j j' b1 b2 hj ho hj' hne hn1 hn2
  · rw [hρ j (nth_lt hj)]
    exact h.old j bk hj
end
end Go.Sx

namespace Go.Sx
open Go.RowKit
section
variable {P : Program} {I : World → Prop} {S : Sigs} {F : FEnv} {E : Env} {ν : Nat → DV}

theorem tk_slice {t : TypeId} {e : Nat} (h : tk P t = some (.slice e)) : P.underlying t = some (.slice e) := by
  obtain ⟨d, hd, hk⟩ := tk_spec h
  cases d <;> simp [tkOf] at hk
  subst hk
  exact hd
theorem rowAt_spec {hp : List (Option Blk)} {b : Nat} {r : Bool × List LT × A} (h : rowAt hp b = some r) : nth hp b = some (.v r.1 r.2.1 r.2.2) := by
  unfold rowAt at h
  split at h
  · rename_i hb
    cases h
    exact hb
  · cases h
theorem row_rel {hp : List (Option Blk)} {b : Nat} {r : Bool × List LT × A} (h : rowAt hp b = some r) {ρ : Nat → Loc} {w : World} (hw : HS E ν ρ hp w) : VRel E w (ρ b) r.1 r.2.1 (r.2.2.cells ν) :=
  hw.heap.blk b _ (rowAt_spec h)
theorem VRel.elems {w : World} {r : Loc} {o : Bool} {ts : List LT} {xs : List DV} (h : VRel E w r o ts xs) : xs.length / ts.length = r.len := by
  rw [h.len]; exact Nat.mul_div_cancel _ h.pos

theorem oweLeA_sat {a b : A} : M.sat F ν (oweLeA a b) (fun _ => a.int ν ≤ b.int ν) := by
  unfold oweLeA
  split
  · exact sat_ite (fun h => sat_pure (by simpa using h)) (fun _ => sat_fail)
  · refine sat_bind (sat_emit (Q := fun r => r.bool ν = decide (a.int ν ≤ b.int ν)) fun r h => A.bool_of_den h) fun r hr => ?_
    exact sat_owe fun h => by rw [hr] at h; simpa using h

theorem evLen_sat {hp : List (Option Blk)} {t : TypeId} {v : V} : M.sat F ν (evLen P hp t v) (fun u => u.good ν ∧ ∀ ρ w w1 ty (ts : Array TypeId), ts[0]? = some t → HS E ν ρ hp w →
    (Builtin.len_ ts ty #[v.conc ν ρ]).run P w1 = .ok (u.conc ν ρ) w1) := by
  unfold evLen
  refine sat_bind (sat_lift (Q := fun k => P.underlying t = some k) fun a h => h) fun k hk => ?_
  split
  · rename_i e b
    refine sat_bind (sat_lift (Q := fun r => rowAt hp b = some r) fun a h => h) fun r hr => ?_
    refine sat_bind (sat_emit (Q := fun q => q.int ν = ((r.2.2.cells ν).length / r.2.1.length : Nat)) fun q h => A.int_of_den h) fun q hq => sat_pure ⟨V1.good_one.2 trivial, fun ρ w w1 ty ts hts hw => ?_⟩
    have hl := (row_rel hr hw).elems
    simp [Builtin.len_, hts, run_underlying hk, V.conc, V1.conc, Lf.conc, Loc.slice, goInt, hq, hl]
  · refine sat_pure ⟨V1.good_one.2 trivial, fun ρ w w1 ty ts hts hw => ?_⟩
    simp [Builtin.len_, hts, run_underlying hk, V.conc, V1.conc, Lf.conc, goInt]
  · refine sat_pure ⟨V1.good_one.2 trivial, fun ρ w w1 ty ts hts hw => ?_⟩
    simp [Builtin.len_, hts, run_underlying hk, V.conc, V1.conc, Lf.conc, goInt]
  · refine sat_pure ⟨V1.good_one.2 trivial, fun ρ w w1 ty ts hts hw => ?_⟩
    simp [Builtin.len_, hts, run_underlying hk, V.conc, V1.conc, Lf.conc, goInt]
  · exact sat_fail

theorem lt_div_mul {i n s : Nat} (h : i < n / s) : (i + 1) * s ≤ n := by
  have : (i + 1) * s ≤ n / s * s := Nat.mul_le_mul_right _ h
  exact Nat.le_trans this (Nat.div_mul_le_self n s)

theorem evIndexRow_sat {hp : List (Option Blk)} {t : TypeId} {b : Nat} {ix : Lf} : M.sat F ν (evIndexRow P hp t b ix) (fun l => l.good ν ∧ ∀ ρ w w1, HS E ν ρ hp w →
    (Instr.indexAt t (ρ b).slice (ix.conc ν ρ)).run P w1 = .ok (l.conc ν ρ) w1) := by
  unfold evIndexRow
  refine sat_bind (sat_lift (Q := fun k => tk P t = some k) fun a h => h) fun k hk => ?_
  split
  · rename_i elem ki i
    have hu := tk_slice hk
    refine sat_bind (sat_lift (Q := fun k => tsize P elem = some k) fun a h => h) fun sz hs => ?_
    refine sat_bind (sat_lift (Q := fun r => rowAt hp b = some r) fun a h => h) fun r hr => ?_
    refine sat_ite (fun hc => ?_) (fun _ => sat_fail)
    have hc := Nat.eq_of_beq_eq_true hc
    refine sat_bind oweGe0_sat fun _ h0 => ?_
    refine sat_bind (sat_emit (Q := fun q => q.int ν = ((r.2.2.cells ν).length / r.2.1.length : Nat)) fun q h => A.int_of_den h) fun n hn => ?_
    refine sat_bind (sat_emit (Q := fun q => q.bool ν = decide (i.int ν < n.int ν)) fun q h => A.bool_of_den h) fun q hq => ?_
    refine sat_bind (sat_owe (Q := fun _ => i.int ν < n.int ν) fun h => by rw [hq] at h; simpa using h) fun _ hlt => sat_pure ⟨⟨h0, ?_⟩, fun ρ w w1 hw => ?_⟩
    · rw [hn] at hlt
      rw [hc]
      exact lt_div_mul (by omega)
    · have hv := row_rel hr hw
      rw [hn, hv.elems] at hlt
      have hnil : (ρ b).nil = false := by
        cases hx : (ρ b).nil with
        | false => rfl
        | true => have := (hv.nil hx).1; omega
      simp [Instr.indexAt, asIntOf, Lf.conc, Loc.slice, hnil, run_underlying hu, h0, hlt, run_size hs, addr_add, Off.val]
  · exact sat_fail

theorem sameRow_sat {sz : Nat} {ix a0 a : A} (h0 : 0 ≤ ix.int ν) (h1 : ((ix.int ν).toNat + 1) * sz ≤ (a0.cells ν).length) : M.sat F ν (sameRow sz ix a0 a) (fun _ => ((ix.int ν).toNat + 1) * sz ≤ (a.cells ν).length) := by
  unfold sameRow
  refine sat_ite (fun h => sat_pure ?_) (fun _ => ?_)
  · have := A.beq_den h ν
    rwa [show A.cells ν a = A.cells ν a0 from by simp [A.cells, this]]
  · refine sat_bind (sat_emit (Q := fun q => q.int ν = ((a.cells ν).length / sz : Nat)) fun q h => A.int_of_den h) fun n hn => ?_
    refine sat_bind (sat_emit (Q := fun q => q.bool ν = decide (ix.int ν < n.int ν)) fun q h => A.bool_of_den h) fun q hq => ?_
    exact sat_owe fun h => by
      rw [hq, hn] at h
      exact lt_div_mul (by have := of_decide_eq_true h; omega)

theorem VRel.at {w : World} {r : Loc} {o : Bool} {ts : List LT} {xs : List DV} (h : VRel E w r o ts xs) {i j : Nat} (hj : j < ts.length) (hi : (i + 1) * ts.length ≤ xs.length) :
    ∃ v, w.cell? ⟨r.blk, r.off + (j + i * ts.length), none⟩ = some v ∧ CRel E (ts.getD j .bool) (xs.getD (i * ts.length + j) default) v := by
  have hlt : i * ts.length + j < xs.length := by rw [Nat.add_mul] at hi; omega
  obtain ⟨v, h1, h2⟩ := h.cell _ hlt
  rw [Nat.mul_comm i, Nat.mul_add_mod, Nat.mod_eq_of_lt hj] at h2
  refine ⟨v, ?_, by rw [Nat.mul_comm i]; exact h2⟩
  rw [← h1]
  congr 2
  omega

theorem rowLeaf_sat {ts : List LT} {a ix : A} {j : Nat} (hj : j < ts.length) (hl : ((ix.int ν).toNat + 1) * ts.length ≤ (a.cells ν).length) :
    M.sat F ν (rowLeaf ts.length j a ix (ts.getD j .bool)) (fun x => x.good ν ∧ ∀ (ρ : Nat → Loc) (w : World) (r : Loc) o, VRel E w r o ts (a.cells ν) →
      w.cell? ⟨r.blk, r.off + (j + (ix.int ν).toNat * ts.length), none⟩ = some (x.conc ν ρ)) := by
  cases ht : ts.getD j .bool with
  | int k =>
    unfold rowLeaf
    refine sat_bind (sat_emit (Q := fun q => q.int ν = ((a.cells ν).getD ((ix.int ν).toNat * ts.length + j) default).toI) fun q h => A.int_of_den h) fun q hq => sat_pure ⟨trivial, fun ρ w r o hv => ?_⟩
    obtain ⟨v, h1, h2⟩ := hv.at hj hl
    rw [ht] at h2
    rw [h1]
    cases h2
    simp [Lf.conc, hq]
  | bool =>
    unfold rowLeaf
    refine sat_bind (sat_emit (Q := fun q => q.bool ν = ((a.cells ν).getD ((ix.int ν).toNat * ts.length + j) default).toB) fun q h => A.bool_of_den h) fun q hq => sat_pure ⟨trivial, fun ρ w r o hv => ?_⟩
    obtain ⟨v, h1, h2⟩ := hv.at hj hl
    rw [ht] at h2
    rw [h1]
    cases h2
    simp [Lf.conc, hq]
  | vec us => exact sat_fail

theorem rowLeaves_sat {ts : List LT} {a ix : A} (hl : ((ix.int ν).toNat + 1) * ts.length ≤ (a.cells ν).length) : ∀ (n j : Nat), j + n ≤ ts.length →
    M.sat F ν (rowLeaves ts a ix j n) (fun xs => xs.length = n ∧ (∀ x ∈ xs, Lf.good ν x) ∧ ∀ i x, xs[i]? = some x → ∀ (ρ : Nat → Loc) (w : World) (r : Loc) o, VRel E w r o ts (a.cells ν) →
      w.cell? ⟨r.blk, r.off + (j + i + (ix.int ν).toNat * ts.length), none⟩ = some (x.conc ν ρ))
  | 0, j, _ => sat_pure ⟨rfl, fun x hx => (by cases hx), fun i x h => (by simp at h)⟩
  | n + 1, j, hj => by
    unfold rowLeaves
    refine sat_bind (rowLeaf_sat (E := E) (show j < ts.length by omega) hl) fun x hx => sat_bind (rowLeaves_sat hl n (j + 1) (by omega)) fun r hr => sat_pure ⟨by simp [hr.1], fun y hy => ?_, fun i y hi => ?_⟩
    · rcases List.mem_cons.1 hy with rfl | hy
      · exact hx.1
      · exact hr.2.1 y hy
    · cases i with
      | zero => simp at hi; subst hi; exact hx.2
      | succ i =>
        have := hr.2.2 i y (by simpa using hi)
        rwa [show j + 1 + i = j + (i + 1) from by omega] at this

theorem rowGrp_spec {ts : List LT} {base size : Nat} {t : LT} (h : rowGrp ts base size = some t) : t.flat = true ∧ ∀ i, i < size → ts.getD (base + i) .bool = t := by
  unfold rowGrp at h
  split at h
  · rename_i u l hl
    split at h
    · rename_i hc
      cases h
      simp only [Bool.and_eq_true] at hc
      obtain ⟨⟨⟨_, c2⟩, c3⟩, c4⟩ := hc
      have c2 := Nat.eq_of_beq_eq_true c2
      refine ⟨c3, fun i hi => ?_⟩
      have e : ts[base + i]? = (t :: l)[i]? := by rw [← hl, List.getElem?_take_of_lt hi, List.getElem?_drop]
      rw [List.getD_eq_getElem?_getD, e]
      cases i with
      | zero => rfl
      | succ i =>
        rw [List.getElem?_cons_succ, List.getElem?_eq_getElem (by omega)]
        exact (LT.feq_eq (List.all_eq_true.1 c4 _ (List.getElem_mem _))).symm
    · cases h
  · cases h
theorem allE_len (t : LT) (a : A) : ∀ (n i : Nat), (allE t a i n).length = n
  | 0, _ => rfl
  | n + 1, i => by simp [allE, allE_len t a n]
theorem allE_get {t : LT} {a : A} : ∀ {n i j : Nat} {x : Lf}, (allE t a i n)[j]? = some x → j < n ∧ x = .e t a (i + j)
  | 0, i, j, x, h => by simp [allE] at h
  | n + 1, i, 0, x, h => by simp [allE] at h; exact ⟨by omega, h.symm⟩
  | n + 1, i, j + 1, x, h => by
    simp only [allE, List.getElem?_cons_succ] at h
    obtain ⟨h1, h2⟩ := allE_get h
    exact ⟨by omega, by rw [h2]; congr 1; omega⟩
theorem allE_good {t : LT} {a : A} {x : Lf} : ∀ {n i : Nat}, x ∈ allE t a i n → x.good ν
  | 0, _, h => by cases h
  | n + 1, i, h => by
    rcases List.mem_cons.1 h with rfl | h
    · trivial
    · exact allE_good h

theorem loadRow_sat {t : TypeId} {k : TK} {sz : Nat} {ts : List LT} {a : A} {off : Off} (hk : tk P t = some k) (hs : tsize P t = some sz) (hg : off.good ν) :
    M.sat F ν (loadRow ts a off (isAggT k) sz) (fun v => v.good ν ∧ ∀ (ρ : Nat → Loc) (w : World) (r : Loc) o, VRel E w r o ts (a.cells ν) → (loadVar t ⟨r.blk, r.off + off.val ν, none⟩).run P w = .ok (v.conc ν ρ) w) := by
  unfold loadRow
  split
  · rename_i base ix sz' a0
    refine sat_ite (fun hc => ?_) (fun _ => sat_fail)
    simp only [Bool.and_eq_true] at hc
    have h1 := Nat.eq_of_beq_eq_true hc.1
    have h2 := Nat.le_of_ble_eq_true hc.2
    subst h1
    refine sat_bind (sameRow_sat hg.1 hg.2) fun _ hl => ?_
    refine sat_ite (fun ha => ?_) (fun ha => ?_)
    · split
      · rename_i u hgr
        have hgs := rowGrp_spec hgr
        refine sat_bind (sat_emit (Q := fun q => q.cells ν = (List.range sz).map fun k => (a.cells ν).getD ((ix.int ν).toNat * ts.length + base + k) default) fun q h => A.cells_of_den h) fun q hq => sat_pure ⟨V1.good_agg.2 fun x hx => allE_good hx, fun ρ w r o hv => ?_⟩
        refine run_loadVar_agg hk ha hs (by simp [allE_len]) fun i v hi => ?_
        rw [List.getElem?_map] at hi
        obtain ⟨l, hl', rfl⟩ := Option.map_eq_some_iff.1 hi
        obtain ⟨hi2, rfl⟩ := allE_get hl'
        obtain ⟨v, g1, g2⟩ := hv.at (i := (ix.int ν).toNat) (j := base + i) (by omega) hl
        rw [hgs.2 i hi2] at g2
        have e1 : (⟨r.blk, r.off + (Off.v base ix ts.length a0).val ν + i, none⟩ : Addr) = ⟨r.blk, r.off + (base + i + (ix.int ν).toNat * ts.length), none⟩ := by
          simp only [Off.val]; congr 1; omega
        rw [e1, g1]
        have e2 : (q.cells ν).getD (0 + i) default = (a.cells ν).getD ((ix.int ν).toNat * ts.length + (base + i)) default := by
          rw [hq, List.getD_eq_getElem?_getD, List.getElem?_map, List.getElem?_range (by omega), Nat.zero_add]
          show (a.cells ν).getD ((ix.int ν).toNat * ts.length + base + i) default = _
          congr 1
          omega
        congr 1
        have hfl := hgs.1
        cases u with
        | int kk => cases g2; simp only [Lf.conc]; rw [e2]
        | bool => cases g2; simp only [Lf.conc]; rw [e2]
        | vec us => cases hfl
      · refine sat_bind (rowLeaves_sat (E := E) hl sz base h2) fun xs hxs => sat_pure ⟨V1.good_agg.2 hxs.2.1, fun ρ w r o hv => ?_⟩
        refine run_loadVar_agg hk ha hs (by simpa using hxs.1) fun i v hi => ?_
        rw [List.getElem?_map] at hi
        obtain ⟨l, hl', rfl⟩ := Option.map_eq_some_iff.1 hi
        have := hxs.2.2 i l hl' ρ w r o hv
        rw [← this]
        simp only [Off.val]
        congr 2
        omega
    · refine sat_ite (fun hb => ?_) (fun _ => sat_fail)
      have hb : base < ts.length := Nat.le_of_ble_eq_true hb
      refine sat_bind (rowLeaf_sat (E := E) hb hl) fun x hx => sat_pure ⟨V1.good_one.2 hx.1, fun ρ w r o hv => ?_⟩
      exact run_loadVar_one hk ha (hx.2 ρ w r o hv)
  · rename_i base ix sz' a0 ix2 sz2 len2
    refine sat_ite (fun hc => ?_) (fun _ => sat_fail)
    simp only [Bool.and_eq_true, Bool.not_eq_true'] at hc
    obtain ⟨⟨⟨ha, h1⟩, h2⟩, h3⟩ := hc
    have h1 := Nat.eq_of_beq_eq_true h1
    have h2 := Nat.le_of_ble_eq_true h2
    have h3 := Nat.eq_of_beq_eq_true h3
    subst h1 h3
    refine sat_bind (sameRow_sat hg.1.1 hg.1.2) fun _ hl => sat_bind (rowLeaves_sat (E := E) hl len2 base h2) fun xs hxs => sat_bind (selLeaf_sat hxs.1 hg.2.1 hg.2.2) fun x hx => sat_pure ⟨V1.good_one.2 hx.1, fun ρ w r o hv => ?_⟩
    obtain ⟨y, e1, e2⟩ := hx.2 ρ
    refine run_loadVar_one hk (by rw [ha]; decide) ?_
    have := hxs.2.2 _ y e1 ρ w r o hv
    rw [V1.conc, e2, ← this]
    simp only [Off.val]
    congr 2
    omega
  · exact sat_fail

theorem Lf.lt_mono {n m : Nat} (h : n ≤ m) {x : Lf} (hx : x.lt n = true) : x.lt m = true := by
  cases x <;> simp only [Lf.lt, decide_eq_true_eq] at hx ⊢ <;> try omega
  exact List.all_eq_true.2 fun b hb => by have := List.all_eq_true.1 hx b hb; simp only [decide_eq_true_eq] at this ⊢; omega
theorem Blk.lt_mono {n m : Nat} (h : n ≤ m) {x : Blk} (hx : x.lt n = true) : x.lt m = true := by
  cases x with
  | v o ts a => rfl
  | c o cs =>
    refine List.all_eq_true.2 fun y hy => ?_
    have := List.all_eq_true.1 (show cs.all (optAll (Lf.lt n)) = true from hx) y hy
    cases y with
    | none => rfl
    | some l => exact Lf.lt_mono h this
theorem hpLt_push {hp : List (Option Blk)} (h : hpLt hp = true) {bk : Blk} (hb : bk.lt (hp.length + 1) = true) : hpLt (hp ++ [some bk]) = true := by
  unfold hpLt at *
  rw [List.all_append, List.length_append]
  simp only [List.all_cons, List.all_nil, Bool.and_true, Bool.and_eq_true, List.length_cons, List.length_nil]
  refine ⟨List.all_eq_true.2 fun x hx => ?_, hb⟩
  have := List.all_eq_true.1 h x hx
  cases x with
  | none => rfl
  | some b => exact Blk.lt_mono (by omega) this

theorem CRel.vec_inv {us : List LT} {d : DV} {v : Value} (h : CRel E (.vec us) d v) : ∃ (r : Loc) (vs : Nat → Value), v = r.slice ∧ (r.nil = true → r.len = 0 ∧ r.cap = 0) ∧ (r.nil = false → r.blk < E.w0.heap.size ∧ ¬ E.W r.blk ∧ E.V r.blk) ∧
    0 < us.length ∧ d.toL.length = r.len * us.length ∧ r.len ≤ r.cap ∧ (∀ i, i < d.toL.length → E.w0.cell? ⟨r.blk, r.off + i, none⟩ = some (vs i)) ∧ ∀ i, i < d.toL.length → CRel E (us.getD (i % us.length) .bool) (d.toL.getD i default) (vs i) := by
  cases h with
  | vec _ _ r vs hnil hlt hpos hlen hcap hv hc => exact ⟨r, vs, rfl, hnil, hlt, hpos, hlen, hcap, hv, hc⟩
theorem rowLeavesN_sat {ts : List LT} {a ix : A} (hl : ((ix.int ν).toNat + 1) * ts.length ≤ (a.cells ν).length) : ∀ (n j : Nat) (hp : List (Option Blk)), j + n ≤ ts.length →
    M.sat F ν (rowLeavesN ts a ix j n hp) (fun q => ∀ ρ w, HS E ν ρ hp w → hpLt hp = true → ∀ (r : Loc) o, VRel E w r o ts (a.cells ν) →
      q.1.length = n ∧ (∀ x ∈ q.1, Lf.good ν x) ∧ ∃ ρ' : Nat → Loc, (∀ k, k < hp.length → ρ' k = ρ k) ∧ HS E ν ρ' q.2 w ∧ ∀ i x, q.1[i]? = some x →
        w.cell? ⟨r.blk, r.off + (j + i + (ix.int ν).toNat * ts.length), none⟩ = some (x.conc ν ρ'))
  | 0, j, hp, _ => sat_pure fun ρ w h _ r o hv => ⟨rfl, fun x hx => (by cases hx), ρ, fun _ _ => rfl, h, fun i x h => (by simp at h)⟩
  | n + 1, j, hp, hj => by
    unfold rowLeavesN
    have hj2 : j < ts.length := by omega
    split
    · rename_i us hus
      refine sat_ite (fun hfl => ?_) (fun _ => sat_fail)
      refine sat_bind (sat_emit (Q := fun q => q.cells ν = ((a.cells ν).getD ((ix.int ν).toNat * ts.length + j) default).toL) fun q h => A.cells_of_den h) fun q hq => ?_
      refine sat_bind (rowLeavesN_sat hl n (j + 1) (hp ++ [some (.v false us q)]) (by omega)) fun z hz => sat_pure fun ρ w h hlt r o hv => ?_
      obtain ⟨v, h1, h2⟩ := hv.at hj2 hl
      rw [hus] at h2
      generalize hd : (a.cells ν).getD ((ix.int ν).toNat * ts.length + j) default = d at *
      obtain ⟨r2, vs, rfl, hnil, hloc, hpos, hlen, hcap, hcv, hc⟩ := CRel.vec_inv h2
      have hbel : Below w.heap.size w w := Below.refl _ _
      have hsame : r2.nil = false → ∀ i, w.cell? ⟨r2.blk, r2.off + i, none⟩ = E.w0.cell? ⟨r2.blk, r2.off + i, none⟩ := fun hn i => by
        obtain ⟨k1, k2, _⟩ := hloc hn
        exact World.cell?_of_block (w := E.w0) (h.fr.block _ k1 k2)
      have hrel : VRel E w r2 false us (q.cells ν) := by
        rw [hq]
        refine ⟨hnil, fun hn => Nat.lt_of_lt_of_le (hloc hn).1 h.fr.size, hpos, hlen, hcap, fun i hi => ?_, fun e => (by cases e), fun e => by cases e⟩
        cases hn : r2.nil with
        | true =>
          have := (hnil hn).1
          rw [hlen, this, Nat.zero_mul] at hi
          omega
        | false => exact ⟨vs i, by rw [hsame hn i]; exact hcv i hi, hc i hi⟩
      have hpush := h.push hlt hbel (bk := .v false us q) (r := r2) hrel (fun k b' hk ho hn hn' => by
        have ho : b'.own = true := by
          rcases ho with ho | ho
          · cases ho
          · exact ho
        obtain ⟨k1, k2, _⟩ := hloc hn
        rcases h.old k b' hk with g | g | g | g
        · rw [hn'] at g; cases g
        · omega
        · exact fun e => k2 (by rw [← e]; exact g)
        · rw [ho] at g; cases g.1) (by
        cases hn : r2.nil with
        | true => exact .inl rfl
        | false => exact .inr (.inr (.inr ⟨rfl, (hloc hn).2.2⟩)))
      obtain ⟨z1, z2, ρ', z3, z4, z5⟩ := hz _ w hpush (hpLt_push hlt rfl) r o hv
      rw [List.length_append, List.length_cons, List.length_nil] at z3
      refine ⟨by simp [z1], fun x hx => ?_, ρ', fun k hk => by rw [z3 k (by omega), ext_lt hk], z4, fun i x hi => ?_⟩
      · rcases List.mem_cons.1 hx with rfl | hx
        · trivial
        · exact z2 x hx
      · cases i with
        | zero =>
          simp only [List.getElem?_cons_zero, Option.some.injEq] at hi
          subst hi
          rw [Nat.add_zero, h1]
          simp only [Lf.conc, z3 hp.length (by omega), ext_same]
        | succ i =>
          rw [List.getElem?_cons_succ] at hi
          have := z5 i x hi
          rwa [show j + 1 + i = j + (i + 1) from by omega] at this
    · refine sat_bind (rowLeaf_sat (E := E) hj2 hl) fun x hx => sat_bind (rowLeavesN_sat hl n (j + 1) hp (by omega)) fun z hz => sat_pure fun ρ w h hlt r o hv => ?_
      obtain ⟨z1, z2, ρ', z3, z4, z5⟩ := hz ρ w h hlt r o hv
      refine ⟨by simp [z1], fun y hy => ?_, ρ', z3, z4, fun i y hi => ?_⟩
      · rcases List.mem_cons.1 hy with rfl | hy
        · exact hx.1
        · exact z2 y hy
      · cases i with
        | zero =>
          simp only [List.getElem?_cons_zero, Option.some.injEq] at hi
          subst hi
          exact hx.2 ρ' w r o hv
        | succ i =>
          rw [List.getElem?_cons_succ] at hi
          have := z5 i y hi
          rwa [show j + 1 + i = j + (i + 1) from by omega] at this

theorem loadRowN_sat {t : TypeId} {k : TK} {sz : Nat} {ts : List LT} {a : A} {off : Off} {hp : List (Option Blk)} (hk : tk P t = some k) (hs : tsize P t = some sz) (hg : off.good ν) :
    M.sat F ν (loadRowN ts a off (isAggT k) sz hp) (fun q => ∀ ρ w, HS E ν ρ hp w → hpLt hp = true → ∀ (r : Loc) o, VRel E w r o ts (a.cells ν) →
      q.1.good ν ∧ ∃ ρ' : Nat → Loc, (∀ k, k < hp.length → ρ' k = ρ k) ∧ HS E ν ρ' q.2 w ∧ (loadVar t ⟨r.blk, r.off + off.val ν, none⟩).run P w = .ok (q.1.conc ν ρ') w) := by
  unfold loadRowN
  split
  · rename_i base ix sz' a0
    refine sat_ite (fun hc => ?_) (fun _ => sat_fail)
    simp only [Bool.and_eq_true] at hc
    have h1 := Nat.eq_of_beq_eq_true hc.1.1
    have h2 := Nat.le_of_ble_eq_true hc.1.2
    subst h1
    refine sat_bind (sameRow_sat hg.1 hg.2) fun _ hl => sat_bind (rowLeavesN_sat (E := E) hl sz base hp h2) fun z hz => ?_
    refine sat_ite (fun ha => ?_) (fun ha => ?_)
    · refine sat_pure fun ρ w h hlt r o hv => ?_
      obtain ⟨z1, z2, ρ', z3, z4, z5⟩ := hz ρ w h hlt r o hv
      refine ⟨V1.good_agg.2 z2, ρ', z3, z4, run_loadVar_agg hk ha hs (by simpa using z1) fun i v hi => ?_⟩
      rw [List.getElem?_map] at hi
      obtain ⟨l, hl', rfl⟩ := Option.map_eq_some_iff.1 hi
      have := z5 i l hl'
      rw [← this]
      simp only [Off.val]
      congr 2
      omega
    · split
      · rename_i x hx
        refine sat_pure fun ρ w h hlt r o hv => ?_
        obtain ⟨z1, z2, ρ', z3, z4, z5⟩ := hz ρ w h hlt r o hv
        rw [hx] at z2 z5
        refine ⟨V1.good_one.2 (z2 x (by simp)), ρ', z3, z4, run_loadVar_one hk ha ?_⟩
        have := z5 0 x rfl
        rw [Nat.add_zero] at this
        exact this
      · exact sat_fail
  · refine sat_bind (loadRow_sat (E := E) hk hs hg) fun v hv => sat_pure fun ρ w h hlt r o hr => ?_
    exact ⟨hv.1, ρ, fun _ _ => rfl, h, hv.2 ρ w r o hr⟩
  · exact sat_fail

def overD : List DV → Nat → List DV → List DV
  | l, _, [] => l
  | l, p, v :: vs => overD (l.set p v) (p + 1) vs
theorem overD_len : ∀ (vs l : List DV) (p : Nat), (overD l p vs).length = l.length
  | [], _, _ => rfl
  | v :: vs, l, p => by rw [overD, overD_len vs]; simp
theorem overD_out : ∀ (vs l : List DV) (p i : Nat), (i < p ∨ p + vs.length ≤ i) → (overD l p vs)[i]? = l[i]?
  | [], _, _, _, _ => rfl
  | v :: vs, l, p, i, h => by
    simp only [List.length_cons] at h
    rw [overD, overD_out vs _ _ i (by omega), List.getElem?_set_ne (by omega)]
theorem overD_in : ∀ (vs l : List DV) (p k : Nat), k < vs.length → p + k < l.length → (overD l p vs)[p + k]? = vs[k]?
  | [], _, _, _, h, _ => by simp at h
  | v :: vs, l, p, 0, _, h2 => by
    simp only [overD, Nat.add_zero] at h2 ⊢
    rw [overD_out vs _ _ p (by omega), List.getElem?_set_self (by simpa using h2)]
    rfl
  | v :: vs, l, p, k + 1, h1, h2 => by
    rw [overD, show p + (k + 1) = p + 1 + k from by omega, overD_in vs _ (p + 1) k (by simpa using h1) (by simp; omega)]
    rfl

theorem leafAs_spec {t : LT} {x : Lf} {a : A} (h : leafAs t x = some a) : x.good ν ∧ x.ok = true ∧ ∀ ρ, CRel E t (nrm (leafTy t) (a.den ν)) (x.conc ν ρ) := by
  unfold leafAs at h
  split at h
  · split at h
    · rename_i hk
      have := kEq_eq hk; subst this
      cases h
      exact ⟨trivial, rfl, fun ρ => .int _ (.i _)⟩
    · cases h
  · cases h
    exact ⟨trivial, rfl, fun ρ => .bool (.b _)⟩
  · cases h

theorem putLeaves_sat {ts : List LT} {ix : A} : ∀ (xs : List Lf) (j : Nat) (a : A),
    M.sat F ν (putLeaves ts ix j a xs) (fun a' => ∃ vs : List DV, vs.length = xs.length ∧ a'.cells ν = overD (a.cells ν) ((ix.int ν).toNat * ts.length + j) vs ∧ (∀ x ∈ xs, x.good ν ∧ x.ok = true) ∧
      ∀ i x v, xs[i]? = some x → vs[i]? = some v → ∀ ρ, CRel E (ts.getD (j + i) .bool) v (x.conc ν ρ))
  | [], j, a => sat_pure ⟨[], rfl, rfl, fun x hx => (by cases hx), fun i x v h => (by simp at h)⟩
  | x :: xs, j, a => by
    unfold putLeaves
    refine sat_bind (sat_lift (Q := fun v => leafAs (ts.getD j .bool) x = some v) fun a h => h) fun v hv => ?_
    refine sat_bind (sat_emit (Q := fun q => q.cells ν = (a.cells ν).set ((ix.int ν).toNat * ts.length + j) (nrm (leafTy (ts.getD j .bool)) (v.den ν))) fun q h => A.cells_of_den h) fun q hq => ?_
    refine sat_mono (putLeaves_sat xs (j + 1) q) fun a' ⟨vs, h1, h2, h3, h4⟩ => ⟨nrm (leafTy (ts.getD j .bool)) (v.den ν) :: vs, by simp [h1], ?_, ?_, ?_⟩
    · rw [h2, hq]
      rfl
    · intro y hy
      rcases List.mem_cons.1 hy with rfl | hy
      · have := leafAs_spec (E := E) (ν := ν) hv
        exact ⟨this.1, this.2.1⟩
      · exact h3 y hy
    · intro i y u hi hu ρ
      cases i with
      | zero => simp at hi hu; subst hi; subst hu; exact (leafAs_spec hv).2.2 ρ
      | succ i =>
        have := h4 i y u (by simpa using hi) (by simpa using hu) ρ
        rwa [show j + 1 + i = j + (i + 1) from by omega] at this

theorem storeRow_sat {ts : List LT} {a : A} {off : Off} {xs : List Lf} (hg : off.good ν) (hne : xs ≠ []) :
    M.sat F ν (storeRow ts a off xs) (fun a' => ∀ (ρ : Nat → Loc) (w : World) (r : Loc), VRel E w r true ts (a.cells ν) → r.nil = false ∧ (∀ x ∈ xs, x.ok = true) ∧
      (storeCells ⟨r.blk, r.off + off.val ν, none⟩ (xs.map (Lf.conc ν ρ))).run P w = .ok () (w.setCells r.blk (r.off + off.val ν) (xs.map (Lf.conc ν ρ))) ∧
      VRel E (w.setCells r.blk (r.off + off.val ν) (xs.map (Lf.conc ν ρ))) r true ts (a'.cells ν)) := by
  unfold storeRow
  split
  · rename_i base ix sz' a0
    refine sat_ite (fun hc => ?_) (fun _ => sat_fail)
    simp only [Bool.and_eq_true] at hc
    have h1 := Nat.eq_of_beq_eq_true hc.1
    have h2 := Nat.le_of_ble_eq_true hc.2
    subst h1
    refine sat_bind (sameRow_sat hg.1 hg.2) fun _ hl => ?_
    refine sat_mono (putLeaves_sat (E := E) xs base a) fun a' ⟨vs, k1, k2, k3, k4⟩ ρ w r hv => ?_
    have hpos : 0 < xs.length := by cases xs with | nil => exact absurd rfl hne | cons x xs => simp
    have hcap : ((ix.int ν).toNat + 1) * ts.length ≤ r.cap * ts.length := by
      have := hv.len
      have h3 : r.len * ts.length ≤ r.cap * ts.length := Nat.mul_le_mul_right _ hv.cap
      omega
    have hnil : r.nil = false := by
      cases hx : r.nil with
      | false => rfl
      | true =>
        have := (hv.nil hx).2
        rw [this, Nat.zero_mul] at hcap
        have := hv.pos
        rw [Nat.add_mul] at hcap
        omega
    rw [Nat.add_mul, Nat.one_mul] at hl hcap
    rw [Nat.add_comm] at k2
    have hmod : ∀ k, k < xs.length → (base + (ix.int ν).toNat * ts.length + k) % ts.length = base + k := fun k hk => by
      rw [show base + (ix.int ν).toNat * ts.length + k = ts.length * (ix.int ν).toNat + (base + k) from by rw [Nat.mul_comm]; omega, Nat.mul_add_mod, Nat.mod_eq_of_lt (by omega)]
    have hroom : base + (ix.int ν).toNat * ts.length + xs.length ≤ (a.cells ν).length := by omega
    have hroom2 : base + (ix.int ν).toNat * ts.length + xs.length ≤ r.cap * ts.length := by omega
    simp only [Off.val]
    generalize base + (ix.int ν).toNat * ts.length = p at *
    have hex : ∀ k, k < xs.length → (w.cell? ⟨r.blk, r.off + p + k, none⟩).isSome = true ∧ w.frozen? ⟨r.blk, r.off + p + k, none⟩ = false := fun k hk => by
      have := hv.own rfl hnil (p + k) (by omega)
      rwa [← Nat.add_assoc] at this
    refine ⟨hnil, fun x hx => (k3 x hx).2, ?_, ?_⟩
    · have := run_storeCells_cells (P := P) r.blk (r.off + p) (xs.map (Lf.conc ν ρ)) 0 w (by simpa using fun k hk => (hex k hk).1) (by simpa using fun k hk => (hex k hk).2)
        (fun v hv => by obtain ⟨l, hl, rfl⟩ := List.mem_map.1 hv; exact Lf.ok_conc (k3 l hl).2 ρ)
      simpa using this
    · have hlen : (a'.cells ν).length = (a.cells ν).length := by rw [k2, overD_len]
      refine ⟨hv.nil, fun e => by rw [setCells_size]; exact hv.lt e, hv.pos, by rw [hlen]; exact hv.len, hv.cap, fun i hi => ?_, fun _ e i hi => ?_, fun ho e => ⟨(hv.fz ho e).1, fun o => by rw [World.frozen?_setCells]; exact (hv.fz ho e).2 o⟩⟩
      · rw [hlen] at hi
        by_cases hin : p ≤ i ∧ i < p + xs.length
        · obtain ⟨k, hk⟩ : ∃ k, i = p + k := ⟨i - p, by omega⟩
          have hkl : k < xs.length := by omega
          have e1 := World.cell?_setCells_in r.blk (xs.map (Lf.conc ν ρ)) (r.off + p) w (by simpa using fun k hk => (hex k hk).1) k (by simpa using hkl)
          refine ⟨(xs[k]).conc ν ρ, ?_, ?_⟩
          · rw [hk, ← Nat.add_assoc, e1]
            simp
          · have e2 := overD_in vs (a.cells ν) p k (by omega) (by omega)
            have hkv : k < vs.length := by omega
            have e3 : (a'.cells ν).getD i default = vs[k] := by
              subst hk
              rw [List.getD_eq_getElem?_getD, k2, e2, List.getElem?_eq_getElem hkv]
              rfl
            have e4 := k4 k xs[k] vs[k] (List.getElem?_eq_getElem hkl) (List.getElem?_eq_getElem hkv) ρ
            rw [e3, hk, hmod k hkl]
            exact e4
        · obtain ⟨v, g1, g2⟩ := hv.cell i hi
          refine ⟨v, ?_, ?_⟩
          · rw [World.cell?_setCells_out _ _ _ _ _ (fun _ _ => by simp; omega)]
            exact g1
          · have : (a'.cells ν).getD i default = (a.cells ν).getD i default := by
              rw [List.getD_eq_getElem?_getD, List.getD_eq_getElem?_getD, k2, overD_out vs _ _ i (by omega)]
            rw [this]
            exact g2
      · rw [World.frozen?_setCells]
        have := hv.own rfl e i hi
        refine ⟨?_, this.2⟩
        by_cases hi2 : p ≤ i ∧ i < p + xs.length
        · obtain ⟨k, hk⟩ : ∃ k, i = p + k := ⟨i - p, by omega⟩
          have hkl : k < xs.length := by omega
          have e1 := World.cell?_setCells_in r.blk (xs.map (Lf.conc ν ρ)) (r.off + p) w (by simpa using fun k hk => (hex k hk).1) k (by simpa using hkl)
          rw [hk, ← Nat.add_assoc, e1]
          rfl
        · rw [World.cell?_setCells_out _ _ _ _ _ (fun _ _ => by simp; omega)]
          exact this.1
  · exact sat_fail

def NewRow (E : Env) (ν : Nat → DV) (ρ : Nat → Loc) (hp : List (Option Blk)) (v : Value) (w' : World) : OR → Prop
  | .hp (some u) hp' => u.good ν ∧ ∃ ρ' : Nat → Loc, (∀ j, j < hp.length → ρ' j = ρ j) ∧ HS E ν ρ' hp' w' ∧ v = u.conc ν ρ'
  | _ => False
theorem NewRow.run {ρ : Nat → Loc} {hp : List (Option Blk)} {x : Sem Next} {y : Sem Value} {z : OR} (hx : ∀ w v w', y.run P w = .ok v w' → x.run P w = .ok (.value v) w')
    (h : ∀ w, HS E ν ρ hp w → ∃ v w', y.run P w = .ok v w' ∧ NewRow E ν ρ hp v w' z) : ORok P I E ν ρ hp x z := by
  cases z with
  | val v => intro w hw _; obtain ⟨_, _, _, h2⟩ := h w hw; exact h2.elim
  | hp v hp' =>
    intro w hw _
    obtain ⟨u, w', h1, h2⟩ := h w hw
    cases v with
    | none => exact h2.elim
    | some v =>
      obtain ⟨g, ρ', h3, h4, h5⟩ := h2
      exact .inl ⟨u, w', hx w u w' h1, ρ', h3, h4, fun q hq => by cases hq; exact ⟨g, by rw [h5]⟩⟩
theorem NewRow.mk {ρ : Nat → Loc} {hp hp1 : List (Option Blk)} {w' : World} {v : Value} {bk : Blk} {r : Loc} (_hl : hp1.length = hp.length) (hv : v = r.slice) (h : HS E ν (ext ρ hp.length r) (hp1 ++ [some bk]) w') :
    NewRow E ν ρ hp v w' (.hp (some (.s (.one (.vec hp.length)))) (hp1 ++ [some bk])) :=
  ⟨V1.good_one.2 trivial, ext ρ hp.length r, fun j hj => ext_lt hj, h, by rw [hv]; simp [V.conc, V1.conc, Lf.conc, ext_same]⟩

def boundIs (x : Option Value) (d n : Nat) : Prop := (x = none ∧ n = d) ∨ ∃ k, x = some (.int k n)
theorem run_sliceBounds {b : Bool} {len cap l h : Nat} {lo hi : Option Value} (hlo : boundIs lo 0 l) (hhi : boundIs hi len h) (h1 : l ≤ h) (h2 : h ≤ cap) (h3 : len ≤ cap) (w : World) :
    (Instr.sliceBounds b len cap lo hi none).run P w = .ok (l, h, cap) w := by
  rcases hlo with ⟨rfl, rfl⟩ | ⟨k, rfl⟩ <;> rcases hhi with ⟨rfl, rfl⟩ | ⟨k', rfl⟩ <;> simp [Instr.sliceBounds, Instr.sliceBound, asIntOf, h1, h2, Int.ofNat_le]

theorem run_slice_row {t : TypeId} {e sz : Nat} (ht : P.underlying t = some (.slice e)) (hs : tsize P e = some sz) {r : Loc} {lo hi : Option Value} {l h : Nat} (hlo : boundIs lo 0 l) (hhi : boundIs hi r.len h) (h1 : l ≤ h) (h2 : h ≤ r.len) (h3 : r.len ≤ r.cap) (w : World) :
    (Instr.sliceAt t r.slice lo hi none).run P w = .ok (Loc.slice ⟨r.blk, if r.cap = l then r.off else r.off + l * sz, r.nil, h - l, r.cap - l, if r.cap = l then r.raw else r.raw.map fun x : Addr => x.add (l * sz)⟩) w := by
  have hb := run_sliceBounds (P := P) (b := true) (cap := r.cap) hlo hhi h1 (by omega) h3 w
  simp only [Instr.sliceAt, Instr.slice, Loc.slice, Sem.run_bind, run_underlying ht, Result.andThen_ok, hb, run_size hs, Sem.run_pure]
  cases r.nil
  · by_cases hc : r.cap = l <;> simp [hc, addr_add]
  · simp
theorem run_slice_arr {t : TypeId} {n e sz : Nat} (ht : P.underlying t = some (.array n e)) (hs : tsize P e = some sz) {b o : Nat} {lo hi : Option Value} {l h : Nat} (hlo : boundIs lo 0 l) (hhi : boundIs hi n h) (h1 : l ≤ h) (h2 : h ≤ n) (w : World) :
    (Instr.sliceAt t (.pointer (some ⟨b, o, none⟩)) lo hi none).run P w = .ok (Loc.slice ⟨b, if n = l then o else o + l * sz, false, h - l, n - l, none⟩) w := by
  have hb := run_sliceBounds (P := P) (b := false) (cap := n) hlo hhi h1 h2 (Nat.le_refl _) w
  simp only [Instr.sliceAt, Loc.slice, Sem.run_bind, run_underlying ht, Result.andThen_ok, hb, run_size hs, Sem.run_pure, Instr.sureAddr]
  by_cases hc : n = l <;> simp [hc, addr_add]

theorem VRel.cut {w : World} {r : Loc} {o : Bool} {ts : List LT} {xs : List DV} (hv : VRel E w r o ts xs) {l h : Nat} (h1 : l ≤ h) (h2 : h ≤ r.len) {x : Option Addr} :
    VRel E w ⟨r.blk, if r.cap = l then r.off else r.off + l * ts.length, r.nil, h - l, r.cap - l, x⟩ o ts ((xs.take (h * ts.length)).drop (l * ts.length)) := by
  have hle : h * ts.length ≤ xs.length := by rw [hv.len]; exact Nat.mul_le_mul_right _ h2
  have hlen : ((xs.take (h * ts.length)).drop (l * ts.length)).length = (h - l) * ts.length := by
    rw [List.length_drop, List.length_take, Nat.min_eq_left hle, Nat.sub_mul]
  have hcap := hv.cap
  refine ⟨fun hn => ?_, hv.lt, hv.pos, hlen, by show h - l ≤ r.cap - l; omega, fun i hi => ?_, fun ho hn i hi => ?_, fun ho hn => ⟨Nat.le_trans (Nat.sub_le _ _) (hv.fz ho hn).1, (hv.fz ho hn).2⟩⟩
  · have := hv.nil hn
    exact ⟨by show h - l = 0; omega, by show r.cap - l = 0; omega⟩
  · rw [hlen] at hi
    have hlh : l < h := by
      rcases Nat.lt_or_ge l h with h | h
      · exact h
      · rw [Nat.sub_eq_zero_of_le h, Nat.zero_mul] at hi; omega
    rw [Nat.sub_mul] at hi
    obtain ⟨v, e1, e2⟩ := hv.cell (l * ts.length + i) (by omega)
    refine ⟨v, ?_, ?_⟩
    · show w.cell? ⟨r.blk, (if r.cap = l then r.off else r.off + l * ts.length) + i, none⟩ = some v
      rw [if_neg (by omega), ← e1]
      congr 2
      omega
    · have e3 : ((xs.take (h * ts.length)).drop (l * ts.length)).getD i default = xs.getD (l * ts.length + i) default := by
        simp only [List.getD_eq_getElem?_getD]
        rw [List.getElem?_drop, List.getElem?_take_of_lt (by omega)]
      rw [e3]
      have e4 : (l * ts.length + i) % ts.length = i % ts.length := by rw [Nat.mul_comm l, Nat.mul_add_mod]
      rw [← e4]
      exact e2
  · have hi : i < (r.cap - l) * ts.length := hi
    have hlc : l < r.cap := by
      rcases Nat.lt_or_ge l r.cap with h | h
      · exact h
      · rw [Nat.sub_eq_zero_of_le h, Nat.zero_mul] at hi; omega
    have hle2 : l * ts.length ≤ r.cap * ts.length := Nat.mul_le_mul_right _ (by omega)
    rw [Nat.sub_mul] at hi
    have := hv.own ho hn (l * ts.length + i) (by omega)
    show (w.cell? ⟨r.blk, (if r.cap = l then r.off else r.off + l * ts.length) + i, none⟩).isSome = true ∧ w.frozen? ⟨r.blk, (if r.cap = l then r.off else r.off + l * ts.length) + i, none⟩ = false
    rw [if_neg (by omega), Nat.add_assoc]
    exact this

theorem cutHigh_sat {sz : Nat} {a : A} {high : Option Lf} (hd : (a.cells ν).length % sz = 0) : M.sat F ν (cutHigh sz a high) (fun q => ∃ h : Nat, h ≤ (a.cells ν).length / sz ∧ q.2.int ν = h ∧ q.1.cells ν = (a.cells ν).take (h * sz) ∧
    ∀ ρ : Nat → Loc, boundIs (high.map (Lf.conc ν ρ)) ((a.cells ν).length / sz) h) := by
  unfold cutHigh
  split
  · refine sat_bind (sat_emit (Q := fun q => q.int ν = ((a.cells ν).length / sz : Nat)) fun q h => A.int_of_den h) fun n hn => sat_pure ⟨_, Nat.le_refl _, hn, ?_, fun ρ => .inl ⟨rfl, rfl⟩⟩
    rw [Nat.div_mul_cancel (Nat.dvd_of_mod_eq_zero hd), List.take_length]
  · rename_i k h
    refine sat_bind oweGe0_sat fun _ h0 => ?_
    refine sat_bind (sat_emit (Q := fun q => q.int ν = ((a.cells ν).length / sz : Nat)) fun q h => A.int_of_den h) fun n hn => ?_
    refine sat_bind oweLeA_sat fun _ h1 => ?_
    refine sat_bind (sat_emit (Q := fun q => q.cells ν = (a.cells ν).take ((h.int ν).toNat * sz)) fun q h => A.cells_of_den h) fun q hq => sat_pure ⟨(h.int ν).toNat, by omega, by show h.int ν = ((h.int ν).toNat : Int); omega, hq, fun ρ => .inr ⟨k, ?_⟩⟩
    simp [Lf.conc, Int.toNat_of_nonneg h0]
  · exact sat_fail
theorem cutLow_sat {sz : Nat} {a n : A} {low : Option Lf} {h : Nat} (hn : n.int ν = h) : M.sat F ν (cutLow sz a n low) (fun q => ∃ l : Nat, l ≤ h ∧ q.cells ν = (a.cells ν).drop (l * sz) ∧ ∀ ρ : Nat → Loc, boundIs (low.map (Lf.conc ν ρ)) 0 l) := by
  unfold cutLow
  split
  · exact sat_pure ⟨0, Nat.zero_le _, by simp, fun ρ => .inl ⟨rfl, rfl⟩⟩
  · rename_i k l
    refine sat_bind oweGe0_sat fun _ h0 => sat_bind oweLeA_sat fun _ h1 => ?_
    refine sat_emit fun q hq => ⟨(l.int ν).toNat, by omega, A.cells_of_den hq, fun ρ => .inr ⟨k, ?_⟩⟩
    simp [Lf.conc, Int.toNat_of_nonneg h0]
  · exact sat_fail

theorem rowLits_spec {ts : List LT} : ∀ {cs : List (Option Lf)} {i : Nat} {r : List Ty × List A}, rowLits ts i cs = some r → r.1.length = cs.length ∧ r.2.length = cs.length ∧
    ∀ j, j < cs.length → ∃ x, nth cs j = some x ∧ x.ok = true ∧ x.good ν ∧ ∀ ρ, CRel E (ts.getD ((i + j) % ts.length) .bool) ((nrmZ r.1 (r.2.map (A.den ν))).getD j default) (x.conc ν ρ)
  | [], i, r, h => by simp [rowLits] at h; subst h; exact ⟨rfl, rfl, fun j hj => by simp at hj⟩
  | c :: cs, i, r, h => by
    simp only [rowLits] at h
    cases c with
    | none => simp at h
    | some x =>
      simp only [Option.bind_some] at h
      cases hx : leafAs (ts.getD (i % ts.length) .bool) x with
      | none => simp only [hx] at h; cases h
      | some a =>
        simp only [hx] at h
        cases hr : rowLits ts (i + 1) cs with
        | none => simp only [hr] at h; cases h
        | some r' =>
          simp only [hr, Option.some.injEq] at h
          subst h
          obtain ⟨h1, h2, h3⟩ := rowLits_spec hr
          refine ⟨by simp [h1], by simp [h2], fun j hj => ?_⟩
          cases j with
          | zero =>
            have := leafAs_spec (E := E) (ν := ν) hx
            exact ⟨x, rfl, this.2.1, this.1, fun ρ => this.2.2 ρ⟩
          | succ j =>
            obtain ⟨y, k1, k2, k3, k4⟩ := h3 j (by simpa using hj)
            refine ⟨y, k1, k2, k3, fun ρ => ?_⟩
            have := k4 ρ
            rw [show i + 1 + j = i + (j + 1) from by omega] at this
            exact this
theorem nrmZ_len : ∀ {ts : List Ty} {ds : List DV}, ts.length = ds.length → (nrmZ ts ds).length = ds.length
  | [], [], _ => rfl
  | t :: ts, d :: ds, h => by simp [nrmZ, nrmZ_len (show ts.length = ds.length by simpa using h)]
  | [], _ :: _, h => by simp at h
  | _ :: _, [], h => by simp at h

theorem kindsOf_len : ∀ {l : List Lf} {ts : List LT}, kindsOf l = some ts → ts.length = l.length
  | [], ts, h => by simp [kindsOf] at h; subst h; rfl
  | .i k a :: l, ts, h => by
    simp only [kindsOf] at h
    obtain ⟨r, hr, rfl⟩ := Option.map_eq_some_iff.1 h
    simp [kindsOf_len hr]
  | .b a :: l, ts, h => by
    simp only [kindsOf] at h
    obtain ⟨r, hr, rfl⟩ := Option.map_eq_some_iff.1 h
    simp [kindsOf_len hr]
  | .p _ _ :: _, _, h => by simp [kindsOf] at h
  | .gp _ _ :: _, _, h => by simp [kindsOf] at h
  | .nilp :: _, _, h => by simp [kindsOf] at h
  | .vec _ :: _, _, h => by simp [kindsOf] at h
  | .fnp _ _ :: _, _, h => by simp [kindsOf] at h
  | .v _ :: _, _, h => by simp [kindsOf] at h

theorem CBlk.row {ρ : Nat → Loc} {w : World} {r : Loc} {o : Bool} {cs : List (Option Lf)} (h : CBlk ν ρ w r o cs) {ts : List LT} {q : List Ty × List A} (hq : rowLits ts 0 cs = some q) {n : Nat} (hn : cs.length = n * ts.length) (hpos : 0 < ts.length) (hn63 : n ≤ 9223372036854775807) :
    VRel E w ⟨r.blk, r.off, false, n, n, none⟩ o ts (nrmZ q.1 (q.2.map (A.den ν))) := by
  obtain ⟨h1, h2, h3⟩ := rowLits_spec (E := E) (ν := ν) hq
  have hl : (nrmZ q.1 (q.2.map (A.den ν))).length = cs.length := by rw [nrmZ_len (by simp [h1, h2]), List.length_map, h2]
  refine ⟨fun e => (by cases e), fun _ => h.lt, hpos, by rw [hl, hn], Nat.le_refl _, fun i hi => ?_, fun ho _ i hi => h.own ho i (by rw [hn]; exact hi), fun ho _ => ⟨hn63, fun o => h.fz ho o⟩⟩
  rw [hl] at hi
  obtain ⟨x, k1, _, _, k4⟩ := h3 i hi
  rw [Nat.zero_add] at k4
  exact ⟨_, (h.cell i x k1).2, k4 ρ⟩

theorem evSlice_sat {hp : List (Option Blk)} {t : TypeId} {x : V} {low high : Option Lf} : M.sat F ν (evSlice P hp t x low high) (fun z => ∀ ρ w, HS E ν ρ hp w →
    ∃ v w', (Instr.sliceAt t (x.conc ν ρ) (low.map (Lf.conc ν ρ)) (high.map (Lf.conc ν ρ)) none).run P w = .ok v w' ∧ NewRow E ν ρ hp v w' z) := by
  unfold evSlice
  refine sat_bind (sat_lift (Q := fun k => tk P t = some k) fun a h => h) fun k hk => ?_
  split
  · rename_i elem b
    refine sat_bind (sat_lift (Q := fun k => tsize P elem = some k) fun a h => h) fun sz hs => ?_
    refine sat_bind (sat_lift (Q := fun r => rowAt hp b = some r) fun a h => h) fun r hr => ?_
    refine sat_ite (fun hc => ?_) (fun _ => sat_fail)
    simp only [Bool.and_eq_true] at hc
    have h1 := Nat.eq_of_beq_eq_true hc.1
    have hlt := hc.2
    subst h1
    by_cases hd : (r.2.2.cells ν).length % r.2.1.length = 0
    · refine sat_bind (cutHigh_sat hd) fun q ⟨h, k1, k2, k3, k4⟩ => sat_bind (cutLow_sat k2) fun q2 ⟨l, m1, m2, m3⟩ => sat_pure fun ρ w hw => ?_
      have hv := row_rel hr hw
      rw [hv.elems] at k1 k4
      have hrun := run_slice_row (P := P) (tk_slice hk) hs (r := ρ b) (m3 ρ) (k4 ρ) m1 k1 hv.cap w
      have hv2 := hv.cut m1 k1 (x := if (ρ b).cap = l then (ρ b).raw else (ρ b).raw.map fun x : Addr => x.add (l * r.2.1.length))
      rw [← k3, ← m2] at hv2
      refine ⟨_, w, hrun, NewRow.mk (by split <;> simp [setNth_length]) rfl ?_⟩
      have hbk := rowAt_spec hr
      cases ho : r.1 with
      | true =>
        rw [ho] at hv2 hbk
        simp only [if_true]
        have hk1 := (hw.kill b).push (w' := w) (bk := .v true r.2.1 q2) (r := ⟨(ρ b).blk, if (ρ b).cap = l then (ρ b).off else (ρ b).off + l * r.2.1.length, (ρ b).nil, h - l, (ρ b).cap - l, if (ρ b).cap = l then (ρ b).raw else (ρ b).raw.map fun x : Addr => x.add (l * r.2.1.length)⟩) (hpLt_kill hlt) (Below.refl _ w) hv2
          (fun j b' hj _ hn1 hn2 => (hw.heap.apart b j _ b' hbk rfl (nth_kill hj).2 (Ne.symm (nth_kill hj).1) hn1 hn2).symm) (by
            rcases hw.old b _ hbk with h | h | h | h
            · exact .inl h
            · exact .inr (.inl h)
            · exact .inr (.inr (.inl h))
            · cases h.1)
        rw [setNth_length] at hk1
        exact hk1
      | false =>
        rw [ho] at hv2 hbk
        simp only [Bool.false_eq_true, if_false]
        refine hw.push (w' := w) (bk := .v false r.2.1 q2) hlt (Below.refl _ w) hv2 (fun j b' hj hor hn1 hn2 => ?_) (by
          rcases hw.old b _ hbk with h | h | h | h
          · exact .inl h
          · exact .inr (.inl h)
          · exact .inr (.inr (.inl h))
          · exact .inr (.inr (.inr ⟨rfl, h.2⟩)))
        rcases hor with hor | hor
        · cases hor
        · by_cases hjb : j = b
          · subst hjb
            rw [hbk] at hj
            cases hj
            cases hor
          · exact hw.heap.apart j b b' _ hj hor hbk hjb hn2 hn1
    · refine sat_bind sat_true fun q _ => sat_bind sat_true fun q2 _ => sat_pure fun ρ w hw => ?_
      have hv := row_rel hr hw
      exact absurd (by rw [hv.len]; exact Nat.mul_mod_left _ _) hd
  · rename_i n elem b
    refine sat_bind (sat_lift (Q := fun bk => nth hp b = some bk) fun a h => h) fun bk hbk => ?_
    split
    · rename_i o cs
      refine sat_bind (sat_lift (Q := fun k => tsize P elem = some k) fun a h => h) fun sz hs => ?_
      refine sat_bind sat_true fun z _ => ?_
      refine sat_bind sat_true fun ts _ => ?_
      refine sat_bind (sat_lift (Q := fun r => rowLits ts 0 cs = some r) fun a h => h) fun r hr => ?_
      refine sat_ite (fun hc => ?_) (fun _ => sat_fail)
      simp only [Bool.and_eq_true] at hc
      obtain ⟨⟨⟨⟨c1, c2⟩, c3⟩, c4⟩, hlt⟩ := hc
      have c4 := Nat.le_of_ble_eq_true c4
      have c1 := Nat.eq_of_beq_eq_true c1
      have c2 : 0 < sz := Nat.le_of_ble_eq_true c2
      have c3 := Nat.eq_of_beq_eq_true c3
      subst c1
      refine sat_bind (sat_emit (Q := fun q => q.cells ν = nrmZ r.1 (r.2.map (A.den ν))) fun q h => A.cells_of_den h) fun q0 hq0 => ?_
      have hlen : (q0.cells ν).length = n * ts.length := by
        obtain ⟨l1, l2, _⟩ := rowLits_spec (E := E) (ν := ν) hr
        rw [hq0, nrmZ_len (by simp [l1, l2]), List.length_map, l2, c3]
      refine sat_bind (cutHigh_sat (by rw [hlen]; exact Nat.mul_mod_left _ _)) fun q ⟨h, k1, k2, k3, k4⟩ => sat_bind (cutLow_sat k2) fun q2 ⟨l, m1, m2, m3⟩ => sat_pure fun ρ w hw => ?_
      rw [hlen, Nat.mul_div_cancel _ c2] at k1 k4
      have hb0 : CBlk ν ρ w (ρ b) o cs := hw.heap.blk b _ hbk
      have hv := hb0.row (E := E) hr c3 c2 (by omega)
      rw [← hq0] at hv
      have hrun := run_slice_arr (P := P) (tk_arr hk) hs (b := (ρ b).blk) (o := (ρ b).off) (m3 ρ) (k4 ρ) m1 k1 w
      have hv2 := hv.cut m1 k1 (x := none)
      rw [← k3, ← m2] at hv2
      refine ⟨_, w, by simpa [V.conc, V1.conc, Lf.conc, Off.val] using hrun, NewRow.mk (setNth_length _ _ _) rfl ?_⟩
      have hk1 := (hw.kill b).push (w' := w) (bk := .v o ts q2) (r := ⟨(ρ b).blk, if n = l then (ρ b).off else (ρ b).off + l * ts.length, false, h - l, n - l, none⟩) (hpLt_kill hlt) (Below.refl _ w) hv2
          (fun j b' hj hor hn1 hn2 => by
            obtain ⟨hjb, hj⟩ := nth_kill hj
            rcases hor with hor | hor
            · exact (hw.heap.apart b j _ b' hbk hor hj (Ne.symm hjb) hb0.nil hn2).symm
            · exact hw.heap.apart j b b' _ hj hor hbk hjb hn2 hb0.nil) (by
            rcases hw.old b _ hbk with h | h | h | h
            · rw [hb0.nil] at h; cases h
            · exact .inr (.inl h)
            · exact .inr (.inr (.inl h))
            · exact .inr (.inr (.inr h)))
      rw [setNth_length] at hk1
      exact hk1
    · exact sat_fail
  · exact sat_fail

def rowVals (w : World) (r : Loc) (n : Nat) : List Value := (List.range n).map fun i => (w.cell? ⟨r.blk, r.off + i, none⟩).getD undef
theorem rowVals_len (w : World) (r : Loc) (n : Nat) : (rowVals w r n).length = n := by simp [rowVals]
theorem CRel.one {t : LT} {d : DV} {v : Value} (h : CRel E t d v) : v.oneCell' = true := by cases h <;> rfl
theorem VRel.vals {w : World} {r : Loc} {o : Bool} {ts : List LT} {xs : List DV} (h : VRel E w r o ts xs) : (∀ (j : Nat) (v : Value), (rowVals w r xs.length)[j]? = some v → w.cell? ⟨r.blk, r.off + j, none⟩ = some v ∧ CRel E (ts.getD (j % ts.length) .bool) (xs.getD j default) v) ∧
    (∀ v ∈ rowVals w r xs.length, v.oneCell' = true) := by
  have key : ∀ (j : Nat) (v : Value), (rowVals w r xs.length)[j]? = some v → w.cell? ⟨r.blk, r.off + j, none⟩ = some v ∧ CRel E (ts.getD (j % ts.length) .bool) (xs.getD j default) v := by
    intro j v hj
    have hl : j < xs.length := by
      have := (List.getElem?_eq_some_iff.1 hj).1
      rwa [rowVals_len] at this
    obtain ⟨u, h1, h2⟩ := h.cell j hl
    unfold rowVals at hj
    rw [List.getElem?_map, List.getElem?_range hl, Option.map_some, h1] at hj
    simp only [Option.getD_some, Option.some.injEq] at hj
    subst hj
    exact ⟨h1, h2⟩
  refine ⟨key, fun v hv => ?_⟩
  obtain ⟨j, hj, rfl⟩ := List.mem_iff_getElem.1 hv
  exact (key j _ (List.getElem?_eq_getElem hj)).2.one

theorem tbytes_spec {t : TypeId} {n : Nat} (h : tbytes P t = some n) : ∃ i, P.info? t = some i ∧ i.bytes = n := by
  unfold tbytes at h
  cases hi : P.info? t with
  | none => simp [hi] at h
  | some i => simp [hi] at h; exact ⟨i, rfl, h⟩
theorem zeroCells_spec {t : TypeId} {z : List Lf} (h : zeroCells P t = some z) : ∃ i v, P.info? t = some i ∧ i.zero = some v ∧ (∀ x ∈ z, x.good ν) ∧ ∀ ρ, v.cells.toList = z.map (Lf.conc ν ρ) := by
  unfold zeroCells at h
  split at h
  · cases h
  · rename_i i hi
    split at h
    · cases h
    · rename_i v hv
      have := ofLeaves_spec (ν := ν) h
      exact ⟨i, v, hi, hv, this.1, fun ρ => (this.2 ρ).symm⟩
theorem rowLim_mul {n by_ : Nat} (h : n ≤ rowLim by_) : n * by_ ≤ 140737488355328 ∧ n ≤ 9223372036854775807 := by
  unfold rowLim at h
  have h1 : n * (by_ + 1) ≤ 70368744177664 := (Nat.le_div_iff_mul_le (by omega)).1 h
  have h2 : n * by_ ≤ n * (by_ + 1) := Nat.mul_le_mul_left _ (by omega)
  have h3 : n ≤ n * (by_ + 1) := Nat.le_mul_of_pos_right _ (by omega)
  exact ⟨by omega, by omega⟩

theorem evAppend_sat {hp : List (Option Blk)} {t tx : TypeId} {s x : V} : M.sat F ν (evAppend P hp t tx s x) (fun z => ∀ ρ w ty, HS E ν ρ hp w →
    ∃ v w', (Builtin.append_ #[t, tx] ty #[s.conc ν ρ, x.conc ν ρ]).run P w = .ok v w' ∧ NewRow E ν ρ hp v w' z) := by
  unfold evAppend
  refine sat_bind (sat_lift (Q := fun k => tk P t = some k) fun a h => h) fun k hk => ?_
  refine sat_bind (sat_lift (Q := fun k => tk P tx = some k) fun a h => h) fun kx hkx => ?_
  split
  · rename_i elem ex b c
    refine sat_bind (sat_lift (Q := fun r => rowAt hp b = some r) fun a h => h) fun r hr => ?_
    refine sat_bind (sat_lift (Q := fun r => rowAt hp c = some r) fun a h => h) fun u hu => ?_
    refine sat_bind (sat_lift (Q := fun z => zeroCells P elem = some z) fun a h => h) fun z hz => ?_
    refine sat_bind (sat_lift (Q := fun k => tsize P elem = some k) fun a h => h) fun sz hs => ?_
    refine sat_bind (sat_lift (Q := fun k => tbytes P elem = some k) fun a h => h) fun by_ hby => ?_
    refine sat_ite (fun hc => ?_) (fun _ => sat_fail)
    simp only [Bool.and_eq_true, Bool.not_eq_true'] at hc
    obtain ⟨⟨⟨⟨⟨c1, c2⟩, c3⟩, c4⟩, c5⟩, hlt⟩ := hc
    have c2 : b ≠ c := fun e => by subst e; rw [Nat.beq_refl] at c2; cases c2
    have c3 := LTs.beq_eq c3
    have c4 := Nat.eq_of_beq_eq_true c4
    have c5 := Nat.eq_of_beq_eq_true c5
    refine sat_bind (sat_emit (Q := fun q => q.cells ν = r.2.2.cells ν ++ u.2.2.cells ν) fun q h => A.cells_of_den h) fun q hq => ?_
    refine sat_bind (sat_emit (Q := fun n => n.int ν = ((q.cells ν).length / sz : Nat)) fun q h => A.int_of_den h) fun n hn => ?_
    refine sat_bind oweLeA_sat fun _ hle => sat_pure fun ρ w ty hw => ?_
    obtain ⟨i, zv, hi, hzv, _, hzc⟩ := zeroCells_spec (ν := ν) hz
    obtain ⟨i1, hi1, hsz⟩ := tsize_spec hs
    obtain ⟨i2, hi2, hbz⟩ := tbytes_spec hby
    rw [hi] at hi1 hi2
    cases hi1
    cases hi2
    have hvb := row_rel hr hw
    have hvc := row_rel hu hw
    rw [← c3] at hvc
    rw [c1] at hvb
    have hsr : i.size = r.2.1.length := by rw [hsz]; exact c4
    have hpos := hvb.pos
    have hqn : (q.cells ν).length = ((ρ b).len + (ρ c).len) * r.2.1.length := by rw [hq, List.length_append, hvb.len, hvc.len, Nat.add_mul]
    have hnn : (ρ b).len + (ρ c).len ≤ rowLim by_ := by
      rw [hn, hqn, c4, Nat.mul_div_cancel _ hpos] at hle
      exact Int.ofNat_le.1 hle
    obtain ⟨hl1, hl2⟩ := rowLim_mul hnn
    rw [← hbz] at hl1
    have hsrc : Src P i.size tx (ρ c).slice (ρ c).len (rowVals w (ρ c) (u.2.2.cells ν).length) w := by
      have hv := hvc.vals
      cases hnil : (ρ c).nil with
      | true =>
        have h0 := hvc.nil hnil
        have : (u.2.2.cells ν).length = 0 := by rw [hvc.len, h0.1, Nat.zero_mul]
        rw [this]
        cases hraw : (ρ c).raw with
        | none =>
          have := Src.ofNil w (size := i.size) (tk_slice hkx) 0
          simpa [Loc.slice, hnil, h0, rowVals, hraw] using this
        | some a =>
          have := Src.ofSlice w (size := i.size) (tk_slice hkx) a 0 0 [] (by simp) (fun j v hj => by simp at hj) (by simp)
          simpa [Loc.slice, hnil, h0, rowVals, hraw] using this
      | false =>
        have := Src.ofSlice w (size := i.size) (tk_slice hkx) ⟨(ρ c).blk, (ρ c).off, none⟩ (ρ c).len (ρ c).cap (rowVals w (ρ c) (u.2.2.cells ν).length) (by rw [rowVals_len, hvc.len, hsr])
          (fun j v hj => by rw [addr_add]; exact (hv.1 j v hj).1) hv.2
        simpa [Loc.slice, hnil] using this
    have hcl : (u.2.2.cells ν).length = (ρ c).len * r.2.1.length := hvc.len
    -- the new row's cells
    have hcells : ∀ (w' : World) (r' : Loc), (∀ j, j < (r.2.2.cells ν).length → w'.cell? ⟨r'.blk, r'.off + j, none⟩ = w.cell? ⟨(ρ b).blk, (ρ b).off + j, none⟩) →
        (∀ j v, (rowVals w (ρ c) (u.2.2.cells ν).length)[j]? = some v → w'.cell? ⟨r'.blk, r'.off + ((r.2.2.cells ν).length + j), none⟩ = some v) →
        ∀ j, j < (q.cells ν).length → ∃ v, w'.cell? ⟨r'.blk, r'.off + j, none⟩ = some v ∧ CRel E (r.2.1.getD (j % r.2.1.length) .bool) ((q.cells ν).getD j default) v := by
      intro w' r' h1 h2 j hj
      rw [hq, List.length_append] at hj
      rcases Nat.lt_or_ge j (r.2.2.cells ν).length with hj1 | hj1
      · obtain ⟨v, g1, g2⟩ := hvb.cell j hj1
        refine ⟨v, by rw [h1 j hj1]; exact g1, ?_⟩
        have e0 : (r.2.2.cells ν ++ u.2.2.cells ν).getD j default = (r.2.2.cells ν).getD j default := by
          simp only [List.getD_eq_getElem?_getD]
          rw [List.getElem?_append_left hj1]
        rw [hq, e0]
        exact g2
      · obtain ⟨k, rfl⟩ : ∃ k, j = (r.2.2.cells ν).length + k := ⟨j - (r.2.2.cells ν).length, by omega⟩
        have hk : k < (rowVals w (ρ c) (u.2.2.cells ν).length).length := by rw [rowVals_len]; omega
        have g := hvc.vals.1 k _ (List.getElem?_eq_getElem hk)
        refine ⟨_, h2 k _ (List.getElem?_eq_getElem hk), ?_⟩
        have e1 : ((r.2.2.cells ν).length + k) % r.2.1.length = k % r.2.1.length := by rw [hvb.len, Nat.mul_comm, Nat.mul_add_mod]
        have e0 : (r.2.2.cells ν ++ u.2.2.cells ν).getD ((r.2.2.cells ν).length + k) default = (u.2.2.cells ν).getD k default := by
          simp only [List.getD_eq_getElem?_getD]
          rw [List.getElem?_append_right (by omega), Nat.add_sub_cancel_left]
        rw [hq, e1, e0]
        exact g.2
    rcases Nat.lt_or_ge (ρ b).cap ((ρ b).len + (ρ c).len) with hroom | hroom
    · -- there is no room
      have hold : (Builtin.firstCells i.size (ρ b).len (.slice (bif (ρ b).nil then (ρ b).raw else some ⟨(ρ b).blk, (ρ b).off, none⟩) (ρ b).len (ρ b).cap)).run P w.drew = .ok (rowVals w (ρ b) (r.2.2.cells ν).length).toArray w.drew := by
        cases hnil : (ρ b).nil with
        | true =>
          have h0 := hvb.nil hnil
          have : (r.2.2.cells ν).length = 0 := by rw [hvb.len, h0.1, Nat.zero_mul]
          rw [this]
          cases hraw : (ρ b).raw with
          | none => exact run_firstCells_none w.drew _ _ _ _
          | some a =>
            rw [h0.1]
            exact run_firstCells_some w.drew i.size 0 a _ _ _ (by simp [rowVals]) (fun j v hj => by simp [rowVals] at hj)
        | false =>
          exact run_firstCells_some w.drew i.size _ ⟨(ρ b).blk, (ρ b).off, none⟩ _ _ _ (by rw [rowVals_len, hvb.len, hsr]) (fun j v hj => by
            rw [addr_add]
            simpa using (hvb.vals.1 j v hj).1)
      have hrun := run_append_grow_src (P := P) w t tx ty elem i zv (tk_slice hk) hi hzv _ _ _ _ hold (ρ c).slice _ _ hsrc hroom (by omega) (growslice_fits hroom (by omega))
      refine ⟨_, _, hrun, NewRow.mk (r := ⟨w.heap.size, 0, false, (ρ b).len + (ρ c).len, grownCap w ((ρ b).len + (ρ c).len) (ρ b).cap elem, none⟩) (setNth_length _ _ _) rfl ?_⟩
      have hge := grownCap_ge w ((ρ b).len + (ρ c).len) (ρ b).cap elem
      have hgm := grownCap_le_maxLen w ((ρ b).len + (ρ c).len) (ρ b).cap elem (by unfold maxLen; omega)
      unfold maxLen at hgm
      generalize hcp : grownCap w ((ρ b).len + (ρ c).len) (ρ b).cap elem = cp at *
      generalize hob : (.cells ((rowVals w (ρ b) (r.2.2.cells ν).length ++ rowVals w (ρ c) (u.2.2.cells ν).length).toArray ++ Builtin.zeroCells zv.cells (cp - ((ρ b).len + (ρ c).len))) elem : Obj) = ob
      have hbel : Below w.heap.size w (w.drew.alloc ob) := ⟨rfl, rfl, rfl, by simp, fun k hk => Below.heap_alloc w.drew _ _ hk⟩
      have hnew : ∀ j, (w.drew.alloc ob).cell? ⟨w.heap.size, j, none⟩ = ((rowVals w (ρ b) (r.2.2.cells ν).length ++ rowVals w (ρ c) (u.2.2.cells ν).length).toArray ++ Builtin.zeroCells zv.cells (cp - ((ρ b).len + (ρ c).len)))[j]? := fun j => by
        rw [← hob]
        exact World.cell?_alloc_new w.drew _ _ j
      have hfrz : ∀ j, (w.drew.alloc ob).frozen? ⟨w.heap.size, j, none⟩ = false := fun j => by
        rw [← hob]
        exact World.frozen?_alloc_new w.drew _ _ j
      have hk1 := (hw.kill b).fresh (w' := w.drew.alloc ob) (bk := .v true r.2.1 q) (r := ⟨w.heap.size, 0, false, (ρ b).len + (ρ c).len, cp, none⟩) (hpLt_kill hlt) hbel
        (⟨fun e => (by cases e), fun _ => by simp, hpos, hqn, hge, fun j hj => ?_, fun _ _ j hj => ?_, fun _ _ => ⟨hgm, fun o => hfrz o⟩⟩ : VRel E (w.drew.alloc ob) ⟨w.heap.size, 0, false, (ρ b).len + (ρ c).len, cp, none⟩ true r.2.1 (q.cells ν)) (.inr (Nat.le_refl _))
      · rw [setNth_length] at hk1
        exact hk1
      · refine hcells (w.drew.alloc ob) ⟨w.heap.size, 0, false, (ρ b).len + (ρ c).len, cp, none⟩ (fun j hj => ?_) (fun j v hj => ?_) j hj
        · simp only [Nat.zero_add]
          rw [hnew, Array.getElem?_append_left (by simp [rowVals_len]; omega)]
          obtain ⟨v, g1, _⟩ := hvb.cell j hj
          rw [g1, List.getElem?_toArray, List.getElem?_append_left (by rw [rowVals_len]; exact hj)]
          unfold rowVals
          rw [List.getElem?_map, List.getElem?_range hj, Option.map_some, g1]
          rfl
        · have hjl := (List.getElem?_eq_some_iff.1 hj).1
          simp only [Nat.zero_add]
          rw [hnew, Array.getElem?_append_left (by simp [rowVals_len] at hjl ⊢; omega), List.getElem?_toArray, List.getElem?_append_right (by rw [rowVals_len]; omega), rowVals_len, Nat.add_sub_cancel_left]
          exact hj
      · simp only [Nat.zero_add]
        refine ⟨?_, hfrz j⟩
        rw [hnew]
        have hsz2 : ((rowVals w (ρ b) (r.2.2.cells ν).length ++ rowVals w (ρ c) (u.2.2.cells ν).length).toArray ++ Builtin.zeroCells zv.cells (cp - ((ρ b).len + (ρ c).len))).size = cp * r.2.1.length := by
          have hzs : zv.cells.size = r.2.1.length := by
            rw [← Array.length_toList, hzc ρ, List.length_map, ← c5, c4]
          rw [Array.size_append, size_zeroCells, hzs, List.size_toArray, List.length_append, rowVals_len, rowVals_len, hvb.len, hvc.len, ← Nat.add_mul, ← Nat.add_mul]
          congr 1
          omega
        have hj : j < cp * r.2.1.length := hj
        rw [Array.getElem?_eq_getElem (by rw [hsz2]; exact hj)]
        rfl
    · -- there is room
      cases hnil : (ρ b).nil with
      | true =>
        have h0 := hvb.nil hnil
        have hc0 : (ρ c).len = 0 := by omega
        have hr0 : (r.2.2.cells ν).length = 0 := by rw [hvb.len, h0.1, Nat.zero_mul]
        have hq0 : (q.cells ν).length = 0 := by rw [hqn, h0.1, hc0]; simp
        have hun : (u.2.2.cells ν).length = 0 := by rw [hvc.len, hc0, Nat.zero_mul]
        have hrun : (Builtin.append_ #[t, tx] ty #[.slice (ρ b).raw 0 0, (ρ c).slice]).run P w = .ok (.slice (ρ b).raw 0 0) w := by
          have hlen := hsrc.len w
          have hcel := hsrc.cells
          rw [hc0] at hlen hcel
          rw [hun] at hcel
          cases (ρ b).raw <;> simp [rowVals, storeCells, Builtin.append_, run_underlying (tk_slice hk), run_underlying (tk_slice hkx), sizeOf, typeInfo, hi, hlen, hcel]
        refine ⟨.slice (ρ b).raw 0 0, w, by simpa [V.conc, V1.conc, Lf.conc, Loc.slice, hnil, h0] using hrun, NewRow.mk (r := ⟨0, 0, true, 0, 0, (ρ b).raw⟩) (setNth_length _ _ _) rfl ?_⟩
        have hk1 := (hw.kill b).fresh (w' := w) (bk := .v true r.2.1 q) (r := ⟨0, 0, true, 0, 0, (ρ b).raw⟩) (hpLt_kill hlt) (Below.refl _ w)
          (⟨fun _ => ⟨rfl, rfl⟩, fun e => (by cases e), hpos, by rw [hq0]; simp, Nat.le_refl _, fun j hj => by omega, fun _ e => (by cases e), fun _ e => (by cases e)⟩ : VRel E w ⟨0, 0, true, 0, 0, (ρ b).raw⟩ true r.2.1 (q.cells ν)) (.inl rfl)
        rw [setNth_length] at hk1
        exact hk1
      | false =>
        have hcb : ((ρ b).len + (ρ c).len) * r.2.1.length ≤ (ρ b).cap * r.2.1.length := Nat.mul_le_mul_right _ hroom
        rw [Nat.add_mul] at hcb
        have hlb := hvb.len
        have hex : ∀ j, j < (rowVals w (ρ c) (u.2.2.cells ν).length).length → (w.cell? ⟨(ρ b).blk, (ρ b).off + (r.2.2.cells ν).length + j, none⟩).isSome = true ∧ w.frozen? ⟨(ρ b).blk, (ρ b).off + (r.2.2.cells ν).length + j, none⟩ = false := fun j hj => by
          rw [rowVals_len] at hj
          have := hvb.own rfl hnil ((r.2.2.cells ν).length + j) (by omega)
          rwa [← Nat.add_assoc] at this
        have hrun := run_append_room_src (P := P) w t tx ty elem i (tk_slice hk) hi (ρ b).blk (ρ b).off (ρ b).len (ρ b).cap (ρ c).slice _ _ hsrc hroom (by rw [hsr, ← hlb]; exact fun j hj => (hex j hj).1) (by rw [hsr, ← hlb]; exact fun j hj => (hex j hj).2)
        rw [hsr, ← hlb] at hrun
        refine ⟨_, _, by simpa [V.conc, V1.conc, Lf.conc, Loc.slice, hnil] using hrun, NewRow.mk (r := ⟨(ρ b).blk, (ρ b).off, false, (ρ b).len + (ρ c).len, (ρ b).cap, none⟩) (setNth_length _ _ _) rfl ?_⟩
        generalize hvs : rowVals w (ρ c) (u.2.2.cells ν).length = vs at *
        have hvl : vs.length = (u.2.2.cells ν).length := by rw [← hvs, rowVals_len]
        have hbk := rowAt_spec hr
        rw [c1] at hbk
        have hkw := hw.killw (w' := w.setCells (ρ b).blk ((ρ b).off + (r.2.2.cells ν).length) vs) hbk rfl hnil (setCells_size _ _ _ _) (setCells_os _ _ _ _).1 (setCells_os _ _ _ _).2.1 (setCells_os _ _ _ _).2.2 (fun k hk => setCells_block _ _ _ _ k hk)
        have hk1 := hkw.push (w' := w.setCells (ρ b).blk ((ρ b).off + (r.2.2.cells ν).length) vs) (bk := .v true r.2.1 q) (r := ⟨(ρ b).blk, (ρ b).off, false, (ρ b).len + (ρ c).len, (ρ b).cap, none⟩) (hpLt_kill hlt) (Below.refl _ _)
          (⟨fun e => (by cases e), fun _ => by rw [setCells_size]; exact hvb.lt hnil, hpos, hqn, hroom, fun j hj => ?_, fun _ _ j hj => ?_, fun _ _ => ⟨(hvb.fz rfl hnil).1, fun o => by rw [World.frozen?_setCells]; exact (hvb.fz rfl hnil).2 o⟩⟩ : VRel E _ ⟨(ρ b).blk, (ρ b).off, false, (ρ b).len + (ρ c).len, (ρ b).cap, none⟩ true r.2.1 (q.cells ν))
          (fun j b' hj _ hn1 hn2 => (hw.heap.apart b j _ b' hbk rfl (nth_kill hj).2 (Ne.symm (nth_kill hj).1) hnil hn2).symm) (by
            rcases hw.old b _ hbk with h | h | h | h
            · rw [hnil] at h; cases h
            · exact .inr (.inl h)
            · exact .inr (.inr (.inl h))
            · cases h.1)
        · rw [setNth_length] at hk1
          exact hk1
        · refine hcells _ ⟨(ρ b).blk, (ρ b).off, false, (ρ b).len + (ρ c).len, (ρ b).cap, none⟩ (fun j hj => ?_) (fun j v hj => ?_) j hj
          · exact World.cell?_setCells_out _ _ _ _ _ (fun _ _ => by simp; omega)
          · have hjl := (List.getElem?_eq_some_iff.1 hj).1
            have e1 := World.cell?_setCells_in (ρ b).blk vs ((ρ b).off + (r.2.2.cells ν).length) w (fun k hk => (hex k hk).1) j hjl
            simp only
            rw [← Nat.add_assoc, e1, ← hj, List.getElem?_eq_getElem hjl]
        · have hj : j < (ρ b).cap * r.2.1.length := hj
          rw [World.frozen?_setCells]
          have := hvb.own rfl hnil j hj
          refine ⟨?_, this.2⟩
          by_cases hin : (r.2.2.cells ν).length ≤ j ∧ j < (r.2.2.cells ν).length + vs.length
          · obtain ⟨k, rfl⟩ : ∃ k, j = (r.2.2.cells ν).length + k := ⟨j - (r.2.2.cells ν).length, by omega⟩
            have e1 := World.cell?_setCells_in (ρ b).blk vs ((ρ b).off + (r.2.2.cells ν).length) w (fun k hk => (hex k hk).1) k (by omega)
            simp only
            rw [← Nat.add_assoc, e1]
            rfl
          · rw [World.cell?_setCells_out _ _ _ _ _ (fun _ _ => by simp; omega)]
            exact this.1
  · exact sat_fail

theorem Lf.conc_keep {ρ ρ' : Nat → Loc} {n : Nat} (h : ∀ k, k < n → ρ' k = ρ k) {l : Lf} (hl : l.lt n = true) : l.conc ν ρ' = l.conc ν ρ := by
  cases l <;> simp only [Lf.lt, decide_eq_true_eq] at hl <;> simp only [Lf.conc] <;> first | rw [h _ hl] | rw [capsConc_lt hl h] | (rename_i t _ _; cases t <;> rfl)

theorem flatten_rep_get {α : Type} (l : List α) (hl : 0 < l.length) : ∀ (n j : Nat), j < n * l.length → (List.replicate n l).flatten[j]? = l[j % l.length]?
  | 0, j, h => by simp at h
  | n + 1, j, h => by
    rw [List.replicate_succ, List.flatten_cons]
    rcases Nat.lt_or_ge j l.length with hj | hj
    · rw [List.getElem?_append_left hj, Nat.mod_eq_of_lt hj]
    · rw [List.getElem?_append_right hj, flatten_rep_get l hl n (j - l.length) (by rw [Nat.succ_mul] at h; omega)]
      congr 1
      exact (Nat.mod_eq_sub_mod hj).symm
theorem flatten_rep_len {α : Type} (l : List α) (n : Nat) : (List.replicate n l).flatten.length = n * l.length := by simp

theorem evMake_sat {hp : List (Option Blk)} {t : TypeId} {l c : Lf} : M.sat F ν (evMake P hp t l c) (fun x => ∀ ρ w, HS E ν ρ hp w →
    ∃ v w', (Instr.makeSlice t (l.conc ν ρ) (c.conc ν ρ)).run P w = .ok v w' ∧ NewRow E ν ρ hp v w' x) := by
  unfold evMake
  refine sat_bind (sat_lift (Q := fun k => tk P t = some k) fun a h => h) fun k hk => ?_
  split
  · rename_i elem kn n km m
    refine sat_bind (sat_lift (Q := fun z => zeroCells P elem = some z) fun a h => h) fun z hz => ?_
    refine sat_bind (sat_lift (Q := fun ts => kindsOf z = some ts) fun a h => h) fun ts hts => ?_
    refine sat_bind (sat_lift (Q := fun r => rowLits ts 0 (z.map some) = some r) fun a h => h) fun r hr => ?_
    refine sat_bind (sat_lift (Q := fun k => tsize P elem = some k) fun a h => h) fun sz hs => ?_
    refine sat_bind (sat_lift (Q := fun k => tbytes P elem = some k) fun a h => h) fun by_ hby => ?_
    refine sat_ite (fun hc => ?_) (fun _ => sat_fail)
    simp only [Bool.and_eq_true] at hc
    obtain ⟨⟨c1, c2⟩, hlt⟩ := hc
    have c1 := Nat.eq_of_beq_eq_true c1
    have c2 : 0 < sz := Nat.le_of_ble_eq_true c2
    refine sat_bind oweGe0_sat fun _ h0 => sat_bind oweLeA_sat fun _ h1 => sat_bind oweLeA_sat fun _ h2 => ?_
    refine sat_bind (sat_emit (Q := fun q => q.cells ν = (List.replicate (n.int ν).toNat (nrmZ r.1 (r.2.map (A.den ν)))).flatten) fun q h => A.cells_of_den h) fun q hq => sat_pure fun ρ w hw => ?_
    obtain ⟨i, zv, hi, hzv, _, hzc⟩ := zeroCells_spec (ν := ν) hz
    obtain ⟨i1, hi1, hsz⟩ := tsize_spec hs
    obtain ⟨i2, hi2, hbz⟩ := tbytes_spec hby
    rw [hi] at hi1 hi2
    cases hi1
    cases hi2
    have htl := kindsOf_len hts
    obtain ⟨l1, l2, l3⟩ := rowLits_spec (E := E) (ν := ν) hr
    have hcl : (nrmZ r.1 (r.2.map (A.den ν))).length = ts.length := by
      rw [nrmZ_len (by simp [l1, l2]), List.length_map, l2, List.length_map, htl]
    have hzs : zv.cells.size = ts.length := by rw [← Array.length_toList, hzc ρ, List.length_map, htl]
    have hst : sz = ts.length := by omega
    have hlim : (m.int ν).toNat ≤ rowLim by_ := by
      have h2 : m.int ν ≤ (rowLim by_ : Int) := h2
      omega
    obtain ⟨q1, q2⟩ := rowLim_mul hlim
    have hb2 : (i.bytes : Int) * m.int ν ≤ 281474976710656 := by
      have e : ((m.int ν).toNat : Int) = m.int ν := Int.toNat_of_nonneg (by omega)
      rw [← e, ← Int.natCast_mul, Nat.mul_comm, hbz]
      omega
    have hrun := run_make (P := P) w t elem i zv (tk_slice hk) hi hzv kn km (n.int ν) (m.int ν) h0 h1 hb2 (by omega)
    generalize hob : (.cells (madeCells zv.cells ((m.int ν).toNat * i.size)) elem : Obj) = ob at *
    have hbel : Below w.heap.size w (w.alloc ob) := ⟨rfl, rfl, rfl, by simp, fun k hk => Below.heap_alloc w _ _ hk⟩
    have hnew : ∀ j, (w.alloc ob).cell? ⟨w.heap.size, j, none⟩ = (madeCells zv.cells ((m.int ν).toNat * i.size))[j]? := fun j => by
      rw [← hob]
      exact World.cell?_alloc_new w _ _ j
    have hfrz : ∀ j, (w.alloc ob).frozen? ⟨w.heap.size, j, none⟩ = false := fun j => by
      rw [← hob]
      exact World.frozen?_alloc_new w _ _ j
    have hget : ∀ j, j < (m.int ν).toNat * ts.length → ∃ x, nth (z.map some) (j % ts.length) = some x ∧ (madeCells zv.cells ((m.int ν).toNat * i.size))[j]? = some (x.conc ν ρ) ∧ CRel E (ts.getD (j % ts.length) .bool) ((nrmZ r.1 (r.2.map (A.den ν))).getD (j % ts.length) default) (x.conc ν ρ) := fun j hj => by
      have hjm : j % ts.length < z.length := by rw [← htl]; exact Nat.mod_lt _ (by omega)
      obtain ⟨x, k1, _, _, k4⟩ := l3 (j % ts.length) (by simpa using hjm)
      have k4 := k4 ρ
      rw [Nat.zero_add, Nat.mod_mod] at k4
      refine ⟨x, k1, ?_, k4⟩
      have hx : z[j % ts.length]? = some x := by rw [nth_map_some] at k1; exact k1
      have hzx : zv.cells[j % zv.cells.size]! = x.conc ν ρ := by
        have : zv.cells.toList[j % ts.length]? = some (x.conc ν ρ) := by rw [hzc ρ, List.getElem?_map, hx]; rfl
        rw [Array.getElem?_toList] at this
        rw [hzs, Array.getElem!_eq_getD, Array.getD_eq_getD_getElem?, this]
        rfl
      unfold madeCells
      rw [Array.getElem?_map, Array.getElem?_range, if_pos (by rw [hsz, hst]; exact hj)]
      simp [hzx]
    refine ⟨_, _, hrun, NewRow.mk (r := ⟨w.heap.size, 0, false, (n.int ν).toNat, (m.int ν).toNat, none⟩) rfl rfl ?_⟩
    have hnm : (n.int ν).toNat * ts.length ≤ (m.int ν).toNat * ts.length := Nat.mul_le_mul_right _ (by omega)
    refine hw.fresh (w' := w.alloc ob) (bk := .v true ts q) hlt hbel (⟨fun e => (by cases e), fun _ => by simp, by omega, by rw [hq, flatten_rep_len, hcl], by show (n.int ν).toNat ≤ (m.int ν).toNat; omega, fun j hj => ?_, fun _ _ j hj => ?_, fun _ _ => ⟨by show (m.int ν).toNat ≤ _; omega, fun o => hfrz o⟩⟩ : VRel E (w.alloc ob) ⟨w.heap.size, 0, false, (n.int ν).toNat, (m.int ν).toNat, none⟩ true ts (q.cells ν)) (.inr (Nat.le_refl _))
    · rw [hq, flatten_rep_len, hcl] at hj
      obtain ⟨x, _, k2, k3⟩ := hget j (by omega)
      refine ⟨x.conc ν ρ, by show (w.alloc ob).cell? ⟨w.heap.size, 0 + j, none⟩ = _; rw [Nat.zero_add, hnew]; exact k2, ?_⟩
      have e : (q.cells ν).getD j default = (nrmZ r.1 (r.2.map (A.den ν))).getD (j % ts.length) default := by
        simp only [List.getD_eq_getElem?_getD]
        rw [hq, flatten_rep_get _ (by rw [hcl]; omega) _ _ (by rw [hcl]; exact hj), hcl]
      rw [e]
      exact k3
    · have hj : j < (m.int ν).toNat * ts.length := hj
      obtain ⟨x, _, k2, _⟩ := hget j hj
      show ((w.alloc ob).cell? ⟨w.heap.size, 0 + j, none⟩).isSome = true ∧ (w.alloc ob).frozen? ⟨w.heap.size, 0 + j, none⟩ = false
      rw [Nat.zero_add, hnew, k2]
      exact ⟨rfl, hfrz j⟩
  · exact sat_fail

theorem rowNode_sat (ts : List LT) (cs : List Lf) : M.sat F ν (rowNode ts cs) (fun q => (q.cells ν).length = cs.length ∧ ∀ j, j < cs.length → ∃ x, cs[j]? = some x ∧ ∀ ρ, CRel E (ts.getD (j % ts.length) .bool) ((q.cells ν).getD j default) (x.conc ν ρ)) := by
  unfold rowNode
  split
  · rename_i t a i0 l
    refine sat_ite (fun hc => ?_) (fun _ => sat_fail)
    simp only [Bool.and_eq_true] at hc
    obtain ⟨⟨c1, c2⟩, c3⟩ := hc
    have c3 := Nat.eq_of_beq_eq_true c3
    refine sat_emit fun q hq => ?_
    have hq : q.cells ν = (List.range (l.length + 1)).map fun k => (a.cells ν).getD (Int.toNat 0 * 1 + i0 + k) default := A.cells_of_den hq
    refine ⟨by rw [hq]; simp, fun j hj => ?_⟩
    have hj : j < l.length + 1 := by simpa using hj
    refine ⟨_, List.getElem?_eq_getElem hj, fun ρ => ?_⟩
    obtain ⟨b, hb, he⟩ := rowE_spec c1 j _ (List.getElem?_eq_getElem hj)
    have ht : ts.getD (j % ts.length) .bool = t := by
      rw [c3, Nat.mod_eq_of_lt hj, List.getD_eq_getElem?_getD, List.getElem?_eq_getElem (by omega)]
      exact (LT.feq_eq (List.all_eq_true.1 c2 _ (List.getElem_mem _))).symm
    have hcell : (q.cells ν).getD j default = (b.cells ν).getD (i0 + j * 1) default := by
      rw [hq, List.getD_eq_getElem?_getD, List.getElem?_map, List.getElem?_range hj]
      have : a.cells ν = b.cells ν := by simp only [A.cells, A.beq_den hb ν]
      rw [this]
      show (b.cells ν).getD (Int.toNat 0 * 1 + i0 + j) default = _
      congr 1
      show 0 * 1 + i0 + j = _
      omega
    rw [ht, hcell]
    have he2 : ((.e t a i0 :: l : List Lf)[j]'hj) = .e t b (i0 + j * 1) := he
    rw [he2]
    cases t with
    | int k => exact CRel.int k _
    | bool => exact CRel.bool _
    | vec us =>
      have := List.all_eq_true.1 c2 (ts[0]'(by omega)) (List.getElem_mem _)
      simp only [LT.feq] at this
      cases this
  · refine sat_bind (sat_lift (Q := fun r => rowLits ts 0 (cs.map some) = some r) fun a h => h) fun r hr => sat_emit fun q hq => ?_
    have hq : q.cells ν = nrmZ r.1 (r.2.map (A.den ν)) := A.cells_of_den hq
    obtain ⟨l1, l2, l3⟩ := rowLits_spec (E := E) (ν := ν) hr
    refine ⟨by rw [hq, nrmZ_len (by simp [l1, l2]), List.length_map, l2, List.length_map], fun j hj => ?_⟩
    obtain ⟨x, k1, _, _, k4⟩ := l3 j (by simpa using hj)
    rw [nth_map_some] at k1
    refine ⟨x, k1, fun ρ => ?_⟩
    have k4 := k4 ρ
    rw [Nat.zero_add, ← hq] at k4
    exact k4
theorem evBuildSlice_sat {hp : List (Option Blk)} {t : TypeId} {len : Nat} {ps : List (Nat × V1)} (_hg : ∀ p ∈ ps, p.2.good ν) : M.sat F ν (evBuildSlice P hp t len ps) (fun x => ∀ ρ w, HS E ν ρ hp w →
    ∃ v w', (Instr.buildSlice t len (ps.map fun p => (p.1, p.2.conc ν ρ)).toArray).run P w = .ok v w' ∧ NewRow E ν ρ hp v w' x) := by
  unfold evBuildSlice
  refine sat_bind (sat_lift (Q := fun k => tk P t = some k) fun a h => h) fun k hk => ?_
  split
  · rename_i elem
    refine sat_bind (sat_lift (Q := fun k => tsize P elem = some k) fun a h => h) fun sz hs => ?_
    refine sat_bind (sat_lift (Q := fun z => zeroCells P elem = some z) fun a h => h) fun z hz => ?_
    refine sat_bind (sat_lift (Q := fun ts => kindsOf z = some ts) fun a h => h) fun ts hts => ?_
    refine sat_bind (sat_lift (Q := fun cs => fillC (fun i => some (i * sz, sz)) (List.replicate len z).flatten ps = some cs) fun a h => h) fun cs hcs => ?_
    refine sat_ite (fun hc => ?_) (fun _ => sat_fail)
    simp only [Bool.and_eq_true] at hc
    obtain ⟨⟨⟨c1, c2⟩, c3⟩, hlt⟩ := hc
    have c1 := Nat.eq_of_beq_eq_true c1
    have c2 : 0 < sz := Nat.le_of_ble_eq_true c2
    have c3 := Nat.le_of_ble_eq_true c3
    refine sat_bind (rowNode_sat (E := E) ts cs) fun q hq => sat_pure fun ρ w hw => ?_
    obtain ⟨i, zv, hi, hzv, hzg, hzc⟩ := zeroCells_spec (ν := ν) hz
    have htl := kindsOf_len hts
    have hzs : zv.cells.size = sz := by rw [← Array.length_toList, hzc ρ, List.length_map, c1]
    have hinit : ((Array.range (len * sz)).map (zv.cells[· % zv.cells.size]!)).toList = (List.replicate len z).flatten.map (Lf.conc ν ρ) := by
      apply List.ext_getElem?
      intro j
      rw [Array.getElem?_toList, Array.getElem?_map, List.getElem?_map, Array.getElem?_range]
      by_cases hj : j < len * sz
      · obtain ⟨zx, hzj⟩ : ∃ zx, z[j % z.length]? = some zx := ⟨_, List.getElem?_eq_getElem (Nat.mod_lt _ (by omega))⟩
        rw [if_pos hj, flatten_rep_get z (by omega) _ _ (by rw [← c1]; exact hj), hzj]
        have : zv.cells.toList[j % z.length]? = some (zx.conc ν ρ) := by rw [hzc ρ, List.getElem?_map, hzj]; rfl
        rw [Array.getElem?_toList] at this
        simp only [Option.map_some, Option.some.injEq]
        rw [hzs, c1, Array.getElem!_eq_getD, Array.getD_eq_getD_getElem?, this]
        rfl
      · rw [if_neg hj, List.getElem?_eq_none (by rw [flatten_rep_len, ← c1]; omega)]
        rfl
    obtain ⟨B, hB, hB2⟩ := fillC_spec (ν := ν) (ρ := ρ) (place' := fun i => some (i * sz, sz)) (fun i => rfl) ps _ cs _ hinit hcs
    obtain ⟨l1, l3⟩ := hq
    have hfl : ∀ (ps : List (Nat × V1)) (cs r : List Lf), fillC (fun i => some (i * sz, sz)) cs ps = some r → r.length = cs.length := by
      intro ps
      induction ps with
      | nil => intro cs r h; simp [fillC] at h; rw [h]
      | cons p ps ih =>
        intro cs r h
        simp only [fillC] at h
        split at h
        · rw [ih _ _ h]
          have : ∀ (l cs : List Lf) (o : Nat), (overwrite cs o l).length = cs.length := fun l => by
            induction l with
            | nil => intro cs o; rfl
            | cons c l ih => intro cs o; rw [overwrite, ih]; simp
          exact this _ _ _
        · cases h
    have hcl : cs.length = len * sz := by rw [hfl _ _ _ hcs, flatten_rep_len, c1]
    have hql : (q.cells ν).length = len * sz := by rw [l1, hcl]
    have hBs : B.size = len * sz := by rw [← Array.length_toList, hB2, List.length_map, hcl]
    have hrun : (Instr.buildSlice t len (ps.map fun p => (p.1, p.2.conc ν ρ)).toArray).run P w = .ok (.slice (some ⟨w.heap.size, 0, none⟩) len len) (w.alloc (.cells B elem)) := by
      have c3' : ¬ (16777216 < len * sz) := by omega
      by_cases h0 : len * sz = 0
      · have hB' : Instr.fill (fun i => some (i * sz, sz)) #[] (ps.map fun p => (p.1, p.2.conc ν ρ)) = some B := by
          have e : ((Array.range (len * sz)).map (zv.cells[· % zv.cells.size]!)) = #[] := by rw [h0]; simp
          rw [e] at hB
          exact hB
        simp [Instr.buildSlice, run_underlying (tk_slice hk), run_size hs, h0, hB', newRow, Array.range_zero']
      · simp [Instr.buildSlice, run_underlying (tk_slice hk), run_size hs, h0, c3', zeroValue, typeInfo, hi, hzv, hB, newRow]
    generalize hob : (.cells B elem : Obj) = ob at *
    have hbel : Below w.heap.size w (w.alloc ob) := ⟨rfl, rfl, rfl, by simp, fun k hk => Below.heap_alloc w _ _ hk⟩
    have hnew : ∀ j, (w.alloc ob).cell? ⟨w.heap.size, j, none⟩ = B[j]? := fun j => by
      rw [← hob]
      exact World.cell?_alloc_new w _ _ j
    have hfrz : ∀ j, (w.alloc ob).frozen? ⟨w.heap.size, j, none⟩ = false := fun j => by
      rw [← hob]
      exact World.frozen?_alloc_new w _ _ j
    have hst : sz = ts.length := by omega
    refine ⟨_, _, hrun, NewRow.mk (r := ⟨w.heap.size, 0, false, len, len, none⟩) rfl rfl ?_⟩
    refine hw.fresh (w' := w.alloc ob) (bk := .v true ts q) hlt hbel (⟨fun e => (by cases e), fun _ => by simp, by omega, by rw [hql, hst], Nat.le_refl _, fun j hj => ?_, fun _ _ j hj => ?_, fun _ _ => ⟨by show len ≤ _; have := Nat.le_mul_of_pos_right len (show 0 < sz by omega); omega, fun o => hfrz o⟩⟩ : VRel E (w.alloc ob) ⟨w.heap.size, 0, false, len, len, none⟩ true ts (q.cells ν)) (.inr (Nat.le_refl _))
    · rw [hql] at hj
      obtain ⟨x, k1, k4⟩ := l3 j (by simpa [hcl] using hj)
      have k4 := k4 ρ
      refine ⟨x.conc ν ρ, ?_, k4⟩
      show (w.alloc ob).cell? ⟨w.heap.size, 0 + j, none⟩ = _
      rw [Nat.zero_add, hnew, ← Array.getElem?_toList, hB2, List.getElem?_map]
      rw [k1]
      rfl
    · have hj : j < len * ts.length := hj
      show ((w.alloc ob).cell? ⟨w.heap.size, 0 + j, none⟩).isSome = true ∧ (w.alloc ob).frozen? ⟨w.heap.size, 0 + j, none⟩ = false
      rw [Nat.zero_add, hnew, Array.getElem?_eq_getElem (by rw [hBs, hst]; exact hj)]
      exact ⟨rfl, hfrz j⟩
  · exact sat_fail

theorem isNil_spec {x : Lf} (h : x.isNil = true) : x = .v (.slice none 0 0) := by
  unfold Lf.isNil at h
  split at h
  · rfl
  · cases h
theorem matCells_sat {w : World} : ∀ (lt : List LT) (cs : List Lf) (hp : List (Option Blk)), M.sat F ν (matCells lt cs hp) (fun q => ∀ ρ, HS E ν ρ hp w → hpLt hp = true → (cs.all (Lf.lt hp.length) = true) → (∀ x ∈ cs, x.good ν) →
    hpLt q.2 = true ∧ q.1.all (Lf.lt q.2.length) = true ∧ (∀ x ∈ q.1, x.good ν) ∧ hp.length ≤ q.2.length ∧ ∃ ρ' : Nat → Loc, (∀ j, j < hp.length → ρ' j = ρ j) ∧ HS E ν ρ' q.2 w ∧ q.1.map (Lf.conc ν ρ') = cs.map (Lf.conc ν ρ)) := by
  intro lt cs
  induction cs generalizing lt with
  | nil =>
    intro hp
    have e : matCells lt [] hp = pure ([], hp) := by cases lt <;> rfl
    rw [e]
    exact sat_pure fun ρ hw hlt _ _ => ⟨hlt, rfl, fun x hx => (by cases hx), Nat.le_refl _, ρ, fun _ _ => rfl, hw, rfl⟩
  | cons x l ih =>
    intro hp
    -- a cell that stays
    have keep : ∀ (lt' : List LT), M.sat F ν (do let r ← matCells lt' l hp; pure (x :: r.1, r.2)) (fun q => ∀ ρ, HS E ν ρ hp w → hpLt hp = true → ((x :: l).all (Lf.lt hp.length) = true) → (∀ y ∈ x :: l, Lf.good ν y) →
        hpLt q.2 = true ∧ q.1.all (Lf.lt q.2.length) = true ∧ (∀ x ∈ q.1, Lf.good ν x) ∧ hp.length ≤ q.2.length ∧ ∃ ρ' : Nat → Loc, (∀ j, j < hp.length → ρ' j = ρ j) ∧ HS E ν ρ' q.2 w ∧ q.1.map (Lf.conc ν ρ') = (x :: l).map (Lf.conc ν ρ)) := fun lt' => by
      refine sat_bind (ih lt' hp) fun r hr => sat_pure fun ρ hw hlt hcs hg => ?_
      simp only [List.all_cons, Bool.and_eq_true] at hcs
      obtain ⟨h1, h2, h3, h4, ρ', h5, h6, h7⟩ := hr ρ hw hlt hcs.2 (fun y hy => hg y (List.mem_cons_of_mem _ hy))
      refine ⟨h1, ?_, fun y hy => ?_, h4, ρ', h5, h6, ?_⟩
      · simp only [List.all_cons, Bool.and_eq_true]
        exact ⟨Lf.lt_mono h4 hcs.1, h2⟩
      · rcases List.mem_cons.1 hy with rfl | hy
        · exact hg _ (by simp)
        · exact h3 y hy
      · simp only [List.map_cons]
        rw [h7, Lf.conc_keep h5 hcs.1]
    cases lt with
    | nil => exact sat_pure fun ρ hw hlt hcs hg => ⟨hlt, hcs, hg, Nat.le_refl _, ρ, fun _ _ => rfl, hw, rfl⟩
    | cons t lt' =>
      cases t with
      | int k => exact keep lt'
      | bool => exact keep lt'
      | vec ts =>
        simp only [matCells]
        refine sat_ite (fun hc => ?_) (fun _ => keep lt')
        simp only [Bool.and_eq_true] at hc
        have hx := isNil_spec hc.1
        have hpos : 0 < ts.length := Nat.le_of_ble_eq_true hc.2
        refine sat_bind (sat_emit (Q := fun q => q.cells ν = []) fun q h => A.cells_of_den h) fun q hq => sat_bind (ih lt' (hp ++ [some (.v true ts q)])) fun r hr => sat_pure fun ρ hw hlt hcs hg => ?_
        simp only [List.all_cons, Bool.and_eq_true] at hcs
        have hw1 := hw.fresh (w' := w) (bk := .v true ts q) (r := ⟨0, 0, true, 0, 0, none⟩) hlt (Below.refl _ w)
          (⟨fun _ => ⟨rfl, rfl⟩, fun e => (by cases e), hpos, by rw [hq]; simp, Nat.le_refl _, fun j hj => by rw [hq] at hj; simp at hj, fun _ e => (by cases e), fun _ e => (by cases e)⟩ : VRel E w ⟨0, 0, true, 0, 0, none⟩ true ts (q.cells ν)) (.inl rfl)
        have hlt1 : hpLt (hp ++ [some (.v true ts q)]) = true := by
          unfold hpLt at hlt ⊢
          rw [List.all_append, Bool.and_eq_true, List.length_append]
          refine ⟨List.all_eq_true.2 fun y hy => ?_, rfl⟩
          have := List.all_eq_true.1 hlt y hy
          cases y with
          | none => rfl
          | some b => exact Blk.lt_mono (Nat.le_add_right _ _) this
        have hcs1 : l.all (Lf.lt (hp ++ [some (Blk.v true ts q)]).length) = true := by
          refine List.all_eq_true.2 fun y hy => Lf.lt_mono (by simp) (List.all_eq_true.1 hcs.2 y hy)
        obtain ⟨h1, h2, h3, h4, ρ', h5, h6, h7⟩ := hr _ hw1 hlt1 hcs1 (fun y hy => hg y (List.mem_cons_of_mem _ hy))
        rw [List.length_append] at h4 h5
        simp only [List.length_cons, List.length_nil] at h4 h5
        refine ⟨h1, ?_, fun y hy => ?_, by show hp.length ≤ r.2.length; omega, ρ', fun j hj => by rw [h5 j (by omega), ext_lt hj], h6, ?_⟩
        · simp only [List.all_cons, Bool.and_eq_true, Lf.lt, decide_eq_true_eq]
          exact ⟨by omega, h2⟩
        · rcases List.mem_cons.1 hy with rfl | hy
          · trivial
          · exact h3 y hy
        · simp only [List.map_cons, h7]
          rw [hx]
          simp only [Lf.conc]
          rw [h5 _ (by omega), ext_same]
          congr 1
          exact List.map_congr_left fun y hy => Lf.conc_keep (fun j hj => ext_lt hj) (List.all_eq_true.1 hcs.2 y hy)
end
theorem V1.conc_low {ν : Nat → DV} {v : V1} {n : Nat} (h : v.lt n = true) {ρ ρ' : Nat → Loc} (hρ : ∀ j, j < n → ρ' j = ρ j) : v.conc ν ρ' = v.conc ν ρ := by
  have h1 : ∀ l : Lf, l.lt n = true → l.conc ν ρ' = l.conc ν ρ := fun l hl => by
    cases l <;> simp only [Lf.lt, decide_eq_true_eq] at hl <;> first | rfl | (rename_i t _ _; cases t <;> rfl) | (simp only [Lf.conc]; rw [hρ _ hl]) | (simp only [Lf.conc]; rw [capsConc_lt hl hρ])
  cases v with
  | one l => exact h1 l (by simpa [V1.lt, V1.cells] using h)
  | agg l =>
    have hl : ∀ x ∈ l, x.lt n = true := fun x hx => List.all_eq_true.1 h x hx
    simp only [V1.conc]
    congr 2
    exact List.map_congr_left fun x hx => h1 x (hl x hx)
theorem V.conc_low {ν : Nat → DV} {v : V} {n : Nat} (h : v.lt n = true) {ρ ρ' : Nat → Loc} (hρ : ∀ j, j < n → ρ' j = ρ j) : v.conc ν ρ' = v.conc ν ρ := by
  cases v with
  | s v => exact V1.conc_low h hρ
  | t l =>
    have hl : ∀ x ∈ l, x.lt n = true := fun x hx => List.all_eq_true.1 h x hx
    simp only [V.conc]
    congr 2
    exact List.map_congr_left fun x hx => V1.conc_low (hl x hx) hρ
section
variable {P : Program} {F : FEnv} {E : Env} {ν : Nat → DV}
theorem evAppendN_sat {hp : List (Option Blk)} {t tx : TypeId} {s x : V} : M.sat F ν (evAppendN P hp t tx s x) (fun z => ∀ ρ w ty, HS E ν ρ hp w →
    ∃ v w', (Builtin.append_ #[t, tx] ty #[s.conc ν ρ, x.conc ν ρ]).run P w = .ok v w' ∧ NewRow E ν ρ hp v w' z) := by
  unfold evAppendN
  split
  · rename_i l
    refine sat_ite (fun hc => ?_) (fun _ => evAppend_sat)
    simp only [Bool.and_eq_true] at hc
    refine sat_bind sat_true fun k _ => ?_
    split
    · refine sat_bind sat_true fun z0 _ => sat_bind sat_true fun ts _ => sat_bind (sat_pull2 fun w => matCells_sat (E := E) (w := w) _ _ _) fun q hq => ?_
      split
      · rename_i l' hl'
        refine sat_mono (evAppend_sat (E := E)) fun z hz ρ w ty hw => ?_
        have hn := isNil_spec hc.1.1
        obtain ⟨h1, h2, h3, h4, ρ', h5, h6, h7⟩ := hq w ρ hw hc.1.2 (by subst hn; rfl) (fun y hy => by
          rcases List.mem_cons.1 hy with rfl | hy
          · subst hn; trivial
          · cases hy)
        rw [hl'] at h7
        have h7 : l'.conc ν ρ' = l.conc ν ρ := by simpa using h7
        obtain ⟨v, w', g1, g2⟩ := hz ρ' w ty h6
        have e1 : (V.s (.one l')).conc ν ρ' = (V.s (.one l)).conc ν ρ := h7
        rw [e1, V.conc_low hc.2 h5] at g1
        refine ⟨v, w', g1, ?_⟩
        cases z with
        | val _ => exact g2
        | hp u hp' =>
          cases u with
          | none => exact g2
          | some u =>
            obtain ⟨a1, ρ2, a2, a3, a4⟩ := g2
            exact ⟨a1, ρ2, fun j hj => by rw [a2 j (by omega), h5 j hj], a3, a4⟩
      · exact sat_fail
    · exact sat_fail
  · exact evAppend_sat
end
end Go.Sx

namespace Go.Sx
open Go.RowKit
section
variable {P : Program} {F : FEnv} {ν : Nat → DV}

theorem three_lookup (n : String) (hg : Extern.allGenericRows.lookup n = none) (ht : Extern.allTypedRows.lookup n = none) {fn : Func} (hn : fn.name = n) {e : Array Value → Sem Value} (hr : Extern.allRows.lookup n = some e) : Extern.find fn = some e := by
  unfold Extern.find
  simp only [hn, hg, ht, hr]
  rfl
theorem next_none (n : String) (h : Extern.allNextRows.lookup n = none) (h0 : Extern.allNextRows.lookup "" = none) {fn : Func} (hn : fn.name = n) (ho : fn.origin = "") : Extern.findNext fn = none := by
  unfold Extern.findNext
  simp only [hn, ho, h, h0]
  rfl
def addRow : Array Value → Sem Value := fun args => do
  let (x, y, c) ← Extern.MathBitsCarry.three "Add64" args
  pure (Extern.MathBitsCarry.pair ((x + y + c) % Extern.MathBitsCarry.m64) ((x + y + c) / Extern.MathBitsCarry.m64))
def subRow : Array Value → Sem Value := fun args => do
  let (x, y, b) ← Extern.MathBitsCarry.three "Sub64" args
  pure (Extern.MathBitsCarry.pair ((x + Extern.MathBitsCarry.m64 - y - b) % Extern.MathBitsCarry.m64) (if x < y + b then 1 else 0))
theorem three_run (n : String) (x y c : Nat) (hc : ¬ c > 1) (w : World) : (Extern.MathBitsCarry.three n #[.int .u64 x, .int .u64 y, .int .u64 c]).run P w = .ok (x, y, c) w := by
  have : Extern.MathBitsCarry.three n #[.int .u64 x, .int .u64 y, .int .u64 c] = (do
    let c0 ← asInt (.int .u64 (c : Int))
    if c0.toNat > 1 then unsupported (.noEntry ("extern/math/bits." ++ n ++ ": a carry that is neither 0 nor 1"))
    let x0 ← asInt (.int .u64 (x : Int))
    let y0 ← asInt (.int .u64 (y : Int))
    pure (x0.toNat, y0.toNat, c0.toNat)) := rfl
  have h : ∀ x : Nat, asInt (.int .u64 (x : Int)) = pure (x : Int) := fun _ => rfl
  rw [this]
  simp only [h, pure_bind, Int.toNat_natCast, if_neg hc]
  rfl
theorem find_add64 {fn : Func} (hn : fn.name = "math/bits.Add64") : Extern.find fn = some addRow :=
  three_lookup "math/bits.Add64" (by kernel_rfl) (by kernel_rfl) hn (by kernel_rfl)
theorem find_sub64 {fn : Func} (hn : fn.name = "math/bits.Sub64") : Extern.find fn = some subRow :=
  three_lookup "math/bits.Sub64" (by kernel_rfl) (by kernel_rfl) hn (by kernel_rfl)
theorem next_add64 {fn : Func} (hn : fn.name = "math/bits.Add64") (ho : fn.origin = "") : Extern.findNext fn = none :=
  next_none "math/bits.Add64" (by kernel_rfl) (by kernel_rfl) hn ho
theorem next_sub64 {fn : Func} (hn : fn.name = "math/bits.Sub64") (ho : fn.origin = "") : Extern.findNext fn = none :=
  next_none "math/bits.Sub64" (by kernel_rfl) (by kernel_rfl) hn ho

theorem bodyless_spec {f : FuncId} {add : Bool} (h : bodyless P f = some add) : ∃ fn, P.funcs[f]? = some fn ∧ fn.body.isNone = true ∧ fn.origin = "" ∧ fn.name = bif add then "math/bits.Add64" else "math/bits.Sub64" := by
  unfold bodyless at h
  split at h
  · rename_i fn hf
    split at h
    · rename_i hb
      simp only [Bool.and_eq_true, beq_iff_eq] at hb
      refine ⟨fn, hf, hb.1, hb.2, ?_⟩
      split at h
      · rename_i hn; cases h; simpa using hn
      · split at h
        · rename_i hn; cases h; simpa using hn
        · cases h
    · cases h
  · cases h

theorem wrapU (n : Int) : IntKind.wrap .u64 n = n % 18446744073709551616 := by simp [IntKind.wrap, IntKind.signed, IntKind.bits]

theorem oweU_sat {a : A} : M.sat F ν (oweU a) (fun _ => 0 ≤ a.int ν ∧ a.int ν < 18446744073709551616) := by
  unfold oweU
  refine sat_bind (sat_emit (Q := fun r => r.bool ν = decide (a.int ν ≥ 0)) fun r h => A.bool_of_den h) fun q hq => ?_
  refine sat_bind (sat_owe (Q := fun _ => 0 ≤ a.int ν) fun h => by rw [hq] at h; simpa using h) fun _ h0 => ?_
  refine sat_bind (sat_emit (Q := fun r => r.bool ν = decide (a.int ν < 18446744073709551616)) fun r h => A.bool_of_den h) fun q hq => ?_
  exact sat_owe fun h => ⟨h0, by rw [hq] at h; simpa using h⟩

theorem evCarry_sat {add : Bool} {a b q : A} : M.sat F ν (evCarry add a b q) (fun z => ∃ s k : A, z = .val (.t [.one (.i .u64 s), .one (.i .u64 k)]) ∧
    ∀ f, bodyless P f = some add → ∀ w, (callFunc f #[.int .u64 (a.int ν), .int .u64 (b.int ν), .int .u64 (q.int ν)]).run P w = .ok (.value (.tuple #[.int .u64 (s.int ν), .int .u64 (k.int ν)])) w) := by
  unfold evCarry
  refine sat_bind oweU_sat fun _ ha => sat_bind oweU_sat fun _ hb => ?_
  refine sat_bind (sat_emit (Q := fun r => r.bool ν = decide (q.int ν ≥ 0)) fun r h => A.bool_of_den h) fun x hx => ?_
  refine sat_bind (sat_owe (Q := fun _ => 0 ≤ q.int ν) fun h => by rw [hx] at h; simpa using h) fun _ hq0 => ?_
  refine sat_bind (sat_emit (Q := fun r => r.bool ν = decide (q.int ν < 2)) fun r h => A.bool_of_den h) fun x hx => ?_
  refine sat_bind (sat_owe (Q := fun _ => q.int ν < 2) fun h => by rw [hx] at h; simpa using h) fun _ hq1 => ?_
  refine sat_bind (sat_emit (Q := fun r => r.bool ν = (q.int ν == 1)) fun r h => A.bool_of_den h) fun one hone => ?_
  refine sat_bind (sat_emit (Q := fun r => r.int ν = IntKind.wrap .u64 (if add then a.int ν + b.int ν else a.int ν - b.int ν)) fun r h => by cases add <;> exact A.int_of_den h) fun s1 hs1 => ?_
  refine sat_bind (sat_emit (Q := fun r => r.int ν = IntKind.wrap .u64 (if add then s1.int ν + q.int ν else s1.int ν - q.int ν)) fun r h => by cases add <;> exact A.int_of_den h) fun s hs => ?_
  refine sat_bind (sat_emit (Q := fun r => r.bool ν = (if add then decide (s.int ν < a.int ν) else decide (a.int ν < b.int ν))) fun r h => by cases add <;> exact A.bool_of_den h) fun low hlow => ?_
  refine sat_bind (sat_emit (Q := fun r => r.bool ν = (if add then s.int ν == a.int ν else a.int ν == b.int ν)) fun r h => by cases add <;> exact A.bool_of_den h) fun same hsame => ?_
  refine sat_bind (sat_emit (Q := fun r => r.bool ν = (one.bool ν && same.bool ν)) fun r h => A.bool_of_den h) fun both hboth => ?_
  refine sat_bind (sat_emit (Q := fun r => r.bool ν = (low.bool ν || both.bool ν)) fun r h => A.bool_of_den h) fun c hc => ?_
  refine sat_bind (sat_emit (Q := fun r => r.int ν = bif c.bool ν then 1 else 0) fun r h => A.int_of_den h) fun k hk => sat_pure ⟨s, k, rfl, fun f hf w => ?_⟩
  obtain ⟨fn, h1, h2, h3, h4⟩ := bodyless_spec hf
  generalize a.int ν = x at *
  generalize b.int ν = y at *
  generalize q.int ν = z at *
  generalize s.int ν = s at *
  generalize k.int ν = k at *
  generalize s1.int ν = s1 at *
  obtain ⟨X, rfl⟩ := Int.eq_ofNat_of_zero_le ha.1
  obtain ⟨Y, rfl⟩ := Int.eq_ofNat_of_zero_le hb.1
  obtain ⟨Z, rfl⟩ := Int.eq_ofNat_of_zero_le hq0
  have hZ : ¬ Z > 1 := by omega
  rw [hc, hlow, hboth, hone, hsame] at hk
  cases add
  · simp only [cond_false] at h4
    rw [run_callFunc_extern h1 (by rw [h4]; rfl) h2 (next_sub64 h4 h3) (find_sub64 h4)]
    simp only [Bool.false_eq_true, if_false] at hs1 hs hk
    rw [wrapU] at hs1 hs
    unfold subRow
    rw [Sem.run_bind, three_run _ _ _ _ hZ]
    have e1 : s = ((X + 2 ^ 64 - Y - Z : Nat) : Int) % 18446744073709551616 := by omega
    have e2 : k = ((if X < Y + Z then 1 else 0 : Nat) : Int) := by
      rw [hk, Bool.cond_eq_ite]
      simp only [Bool.or_eq_true, decide_eq_true_eq, Bool.and_eq_true, beq_iff_eq]
      split <;> split <;> omega
    simp [e1, e2, Extern.MathBitsCarry.pair, Extern.MathBitsCarry.m64]
  · simp only [cond_true] at h4
    rw [run_callFunc_extern h1 (by rw [h4]; rfl) h2 (next_add64 h4 h3) (find_add64 h4)]
    simp only [if_true] at hs1 hs hk
    rw [wrapU] at hs1 hs
    unfold addRow
    rw [Sem.run_bind, three_run _ _ _ _ hZ]
    have e1 : s = ((X + Y + Z : Nat) : Int) % 18446744073709551616 := by omega
    have e2 : k = (((X + Y + Z) / 18446744073709551616 : Nat) : Int) := by
      rw [hk, Bool.cond_eq_ite]
      simp only [Bool.or_eq_true, decide_eq_true_eq, Bool.and_eq_true, beq_iff_eq]
      split <;> omega
    simp [e1, e2, Extern.MathBitsCarry.pair, Extern.MathBitsCarry.m64]
end
end Go.Sx

namespace Go.Sx
open Go.RowKit
section
variable {P : Program} {I : World → Prop} {S : Sigs} {F : FEnv} {E : Env} {ν : Nat → DV}

theorem Off.plus_spec (o : Off) (k : Nat) : (o.plus k).val ν = o.val ν + k ∧ (o.good ν → (o.plus k).good ν) := by
  cases o with
  | c n => exact ⟨rfl, id⟩
  | s b ix sz len => exact ⟨by simp [Off.plus, Off.val]; omega, id⟩
  | v b ix sz a => exact ⟨by simp [Off.plus, Off.val]; omega, id⟩
  | d b ix sz len ix2 sz2 len2 => exact ⟨by simp [Off.plus, Off.val]; omega, id⟩
  | w b ix sz a ix2 sz2 len2 => exact ⟨by simp [Off.plus, Off.val]; omega, id⟩

theorem boundsOk_sat {ix : A} {len : Nat} : M.sat F ν (boundsOk ix len) (fun _ => 0 ≤ ix.int ν ∧ ix.int ν < len) := by
  unfold boundsOk
  refine sat_bind (sat_emit (Q := fun r => r.bool ν = decide (ix.int ν ≥ 0)) fun r h => A.bool_of_den h) fun r hr => ?_
  refine sat_bind (sat_owe (Q := fun _ => 0 ≤ ix.int ν) fun h => by rw [hr] at h; simpa using h) fun _ h0 => ?_
  refine sat_bind (sat_emit (Q := fun r => r.bool ν = decide (ix.int ν < (len : Int))) fun r h => A.bool_of_den h) fun r hr => ?_
  exact sat_owe fun h => by rw [hr] at h; exact ⟨h0, by simpa using h⟩

theorem evIndexAddr_sat {t : TypeId} {x ix : Lf} (hx : x.good ν) : M.sat F ν (evIndexAddr P t x ix) (fun l => l.good ν ∧ ∀ (ρ : Nat → Loc) (w : World),
    (Instr.indexAt t (x.conc ν ρ) (ix.conc ν ρ)).run P w = .ok (l.conc ν ρ) w) := by
  unfold evIndexAddr
  refine sat_bind (sat_lift (Q := fun k => tk P t = some k) fun a h => h) fun k hk => ?_
  split
  · rename_i len elem blk off ki a
    have hu := tk_arr hk
    refine sat_bind (sat_lift (Q := fun k => tsize P elem = some k) fun a h => h) fun sz hs => ?_
    have run : ∀ (ρ : Nat → Loc) (w : World), 0 ≤ a.int ν → a.int ν < len →
        (Instr.indexAt t ((Lf.p blk off).conc ν ρ) ((Lf.i ki a).conc ν ρ)).run P w = .ok (.pointer (some ⟨(ρ blk).blk, (ρ blk).off + off.val ν + (a.int ν).toNat * sz, none⟩)) w := fun ρ w h0 h1 => by
      simp [Instr.indexAt, asIntOf, Lf.conc, run_underlying hu, Instr.sureAddr, h0, h1, run_size hs, addr_add]
    split
    · rename_i n
      refine sat_ite (fun h => ?_) (fun _ => sat_fail)
      refine sat_pure ⟨(Off.plus_spec off _).2 hx, fun ρ w => ?_⟩
      rw [run ρ w h.1 h.2]
      simp [Lf.conc, (Off.plus_spec (ν := ν) off _).1, Nat.add_assoc]
    · split
      · rename_i o
        refine sat_bind boundsOk_sat fun _ hb => sat_pure ⟨hb, fun ρ w => ?_⟩
        rw [run ρ w hb.1 hb.2]
        simp [Lf.conc, Off.val, Nat.add_assoc]
      · rename_i o ix0 sz0 len0
        refine sat_bind boundsOk_sat fun _ hb => sat_pure ⟨⟨hx, hb⟩, fun ρ w => ?_⟩
        rw [run ρ w hb.1 hb.2]
        simp [Lf.conc, Off.val, Nat.add_assoc]
      · rename_i o ix0 sz0 a0
        refine sat_bind boundsOk_sat fun _ hb => sat_pure ⟨⟨hx, hb⟩, fun ρ w => ?_⟩
        rw [run ρ w hb.1 hb.2]
        simp [Lf.conc, Off.val, Nat.add_assoc]
      · exact sat_fail
  · rename_i len elem g off ki a
    have hu := tk_arr hk
    refine sat_bind (sat_lift (Q := fun k => tsize P elem = some k) fun a h => h) fun sz hs => ?_
    have run : ∀ (ρ : Nat → Loc) (w : World), 0 ≤ a.int ν → a.int ν < len →
        (Instr.indexAt t ((Lf.gp g off).conc ν ρ) ((Lf.i ki a).conc ν ρ)).run P w = .ok (.pointer (some ⟨g, off.val ν + (a.int ν).toNat * sz, none⟩)) w := fun ρ w h0 h1 => by
      simp [Instr.indexAt, asIntOf, Lf.conc, run_underlying hu, Instr.sureAddr, h0, h1, run_size hs, addr_add]
    split
    · rename_i n
      refine sat_ite (fun h => ?_) (fun _ => sat_fail)
      refine sat_pure ⟨(Off.plus_spec off _).2 hx, fun ρ w => ?_⟩
      rw [run ρ w h.1 h.2]
      simp [Lf.conc, (Off.plus_spec (ν := ν) off _).1]
    · split
      · rename_i o
        refine sat_bind boundsOk_sat fun _ hb => sat_pure ⟨hb, fun ρ w => ?_⟩
        rw [run ρ w hb.1 hb.2]
        simp [Lf.conc, Off.val]
      · exact sat_fail
  · exact sat_fail

theorem evIndex_sat {t : TypeId} {x : List Lf} {ix : Lf} (hx : ∀ l ∈ x, Lf.good ν l) : M.sat F ν (evIndex P t x ix) (fun v => v.good ν ∧ ∀ (ρ : Nat → Loc) (w : World),
    (Instr.index t (.agg (x.map (Lf.conc ν ρ)).toArray) (ix.conc ν ρ)).run P w = .ok (v.conc ν ρ) w) := by
  unfold evIndex
  refine sat_bind (sat_lift (Q := fun k => tk P t = some k) fun a h => h) fun k hk => ?_
  split
  · rename_i len elem ki a
    have hu := tk_arr hk
    refine sat_bind (sat_lift (Q := fun k => tk P elem = some k) fun a h => h) fun ke hke => ?_
    refine sat_bind (sat_lift (Q := fun k => tsize P elem = some k) fun a h => h) fun sz hs => ?_
    have run : ∀ (ρ : Nat → Loc) (w : World), 0 ≤ a.int ν → a.int ν < len →
        (Instr.index t (.agg (x.map (Lf.conc ν ρ)).toArray) ((Lf.i ki a).conc ν ρ)).run P w = (part elem (x.map (Lf.conc ν ρ)).toArray ((a.int ν).toNat * sz)).run P w := fun ρ w h0 h1 => by
      simp [Instr.index, asIntOf, Lf.conc, run_underlying hu, h0, h1, run_size hs]
    split
    · rename_i n
      refine sat_ite (fun h => ?_) (fun _ => sat_fail)
      refine sat_mono (partOf_sat hx) fun v hv => ⟨hv.1, fun ρ w => ?_⟩
      rw [run ρ w h.1 h.2]
      exact hv.2 ρ w
    · refine sat_bind boundsOk_sat fun _ hb => ?_
      refine sat_ite (fun ha => ?_) (fun ha => ?_)
      · refine sat_bind (selAgg_sat hb.1 hb.2 sz 0) fun xs hxs => sat_pure ⟨V1.good_agg.2 hxs.2.1, fun ρ w => ?_⟩
        rw [run ρ w hb.1 hb.2]
        simp only [part, Sem.run_bind, run_isAgg hke, ha, Result.andThen_ok, if_true, run_size hs, Sem.run_pure, V1.conc]
        congr 2
        apply Array.ext'
        rw [Array.toList_extract, List.extract_eq_take_drop]
        apply List.ext_getElem?
        intro j
        rw [List.getElem?_take]
        by_cases hj : j < sz
        · obtain ⟨u, y, h1, h2, h3⟩ := hxs.2.2 ρ j hj
          rw [nth_map_some] at h2
          rw [if_pos (by omega), List.getElem?_drop]
          simp only [List.getElem?_map, h1, Option.map_some]
          rw [show (A.int ν a).toNat * sz + j = 0 + j + (A.int ν a).toNat * sz from by omega, h2]
          simp [h3]
        · rw [if_neg (by omega)]
          simp only [List.getElem?_map]
          rw [List.getElem?_eq_none (by have := hxs.1; omega)]
          rfl
      · refine sat_bind (sat_lift (Q := fun row => rowCells (x.map some) 0 sz len = some row) fun a h => h) fun row hrow => ?_
        obtain ⟨h1, h2⟩ := rowCells_spec hrow
        refine sat_bind (selLeaf_sat h1 hb.1 hb.2) fun u hu' => sat_pure ⟨V1.good_one.2 hu'.1, fun ρ w => ?_⟩
        rw [run ρ w hb.1 hb.2]
        obtain ⟨y, hy, he⟩ := hu'.2 ρ
        rw [← h2 _ (by have := hb.1; have := hb.2; omega), nth_map_some, Nat.zero_add] at hy
        simp [part, run_isAgg hke, ha, hy, V1.conc, he]
  · exact sat_fail

theorem evField_sat {t : TypeId} {x : List Lf} {f : Nat} (hx : ∀ l ∈ x, Lf.good ν l) : M.sat F ν (evField P t x f) (fun v => v.good ν ∧ ∀ (ρ : Nat → Loc) (w : World),
    (Instr.field t (.agg (x.map (Lf.conc ν ρ)).toArray) f).run P w = .ok (v.conc ν ρ) w) := by
  unfold evField
  refine sat_bind (sat_lift (Q := fun k => tk P t = some k) fun a h => h) fun k hk => ?_
  split
  · rename_i fs
    obtain ⟨fl, hu, hfs⟩ := tk_struct hk
    refine sat_bind (sat_lift (Q := fun fd => fs[f]? = some fd) fun a h => h) fun fd hfd => ?_
    subst hfs
    rw [List.getElem?_map] at hfd
    obtain ⟨g, hg, rfl⟩ := Option.map_eq_some_iff.1 hfd
    refine sat_mono (partOf_sat hx) fun v hv => ⟨hv.1, fun ρ w => ?_⟩
    have hg' : fl[f]? = some g := by simpa using hg
    simp only [Instr.field, Sem.run_bind, run_underlying hu, Result.andThen_ok, hg', asAgg, Sem.run_pure]
    exact hv.2 ρ w
  · exact sat_fail

theorem evFieldAddr_sat {t : TypeId} {x : Lf} {f : Nat} (hx : x.good ν) : M.sat F ν (evFieldAddr P t x f) (fun l => l.good ν ∧ ∀ (ρ : Nat → Loc) (w : World),
    (Instr.fieldAt t (x.conc ν ρ) f).run P w = .ok (l.conc ν ρ) w) := by
  unfold evFieldAddr
  refine sat_bind (sat_lift (Q := fun k => tk P t = some k) fun a h => h) fun k hk => ?_
  split
  · rename_i fs blk off
    obtain ⟨fl, hu, hfs⟩ := tk_struct hk
    refine sat_bind (sat_lift (Q := fun fd => fs[f]? = some fd) fun a h => h) fun fd hfd => ?_
    refine sat_bind (sat_lift (Q := fun k => tsize P fd.2 = some k) fun a h => h) fun sz hs => ?_
    refine sat_ite (fun _ => sat_fail) (fun hz => ?_)
    have hz' : sz ≠ 0 := fun h => hz (by subst h; rfl)
    subst hfs
    rw [List.getElem?_map] at hfd
    obtain ⟨g, hg, rfl⟩ := Option.map_eq_some_iff.1 hfd
    refine sat_pure ⟨(Off.plus_spec off _).2 hx, fun ρ w => ?_⟩
    have hg' : fl[f]? = some g := by simpa using hg
    simp [Instr.fieldAt, run_underlying hu, hg', Lf.conc, Instr.sureAddr, fieldPlace, run_size hs, hz', addr_add, (Off.plus_spec (ν := ν) off _).1, Nat.add_assoc]
  · rename_i fs gl off
    obtain ⟨fl, hu, hfs⟩ := tk_struct hk
    refine sat_bind (sat_lift (Q := fun fd => fs[f]? = some fd) fun a h => h) fun fd hfd => ?_
    refine sat_bind (sat_lift (Q := fun k => tsize P fd.2 = some k) fun a h => h) fun sz hs => ?_
    refine sat_ite (fun _ => sat_fail) (fun hz => ?_)
    have hz' : sz ≠ 0 := fun h => hz (by subst h; rfl)
    subst hfs
    rw [List.getElem?_map] at hfd
    obtain ⟨g, hg, rfl⟩ := Option.map_eq_some_iff.1 hfd
    refine sat_pure ⟨(Off.plus_spec off _).2 hx, fun ρ w => ?_⟩
    have hg' : fl[f]? = some g := by simpa using hg
    simp [Instr.fieldAt, run_underlying hu, hg', Lf.conc, Instr.sureAddr, fieldPlace, run_size hs, hz', addr_add, (Off.plus_spec (ν := ν) off _).1]
  · exact sat_fail

theorem rdAll_spec {ρ : Nat → Loc} {r : RS} {a : Act} {ctx : Ctx} (h : ARel ν ρ r a) (hc : CtxOk ctx a) : ∀ {xs : List Operand} {vs : List V}, rdAll r ctx xs = some vs → xs.map a.eval = vs.map (V.conc ν ρ)
  | [], vs, hv => by simp [rdAll] at hv; subst hv; rfl
  | x :: xs, vs, hv => by
    simp only [rdAll] at hv
    cases h1 : rd r ctx x with
    | none => simp [h1] at hv
    | some v =>
      simp only [h1] at hv
      cases h2 : rdAll r ctx xs with
      | none => simp [h2] at hv
      | some vs' =>
        simp only [h2, Option.some.injEq] at hv
        subst hv
        simp only [List.map_cons, (rd_spec h hc h1).2, rdAll_spec h hc h2]

theorem evPick_sat {r : RS} {ctx : Ctx} {c a b : Operand} : M.sat F ν (evPick r ctx c a b) (fun v => ∀ ρ act, ARel ν ρ r act → CtxOk ctx act →
    v.good ν ∧ ∃ t : Bool, act.eval c = .bool t ∧ (if t then act.eval a else act.eval b) = v.conc ν ρ) := by
  unfold evPick
  split
  · rename_i hc
    refine sat_lift fun v hv ρ act har hctx => ?_
    have h1 := (rd_spec har hctx hc).2
    have h2 := rd_spec har hctx hv
    exact ⟨h2.1, true, h1, h2.2⟩
  · rename_i hc
    refine sat_lift fun v hv ρ act har hctx => ?_
    have h1 := (rd_spec har hctx hc).2
    have h2 := rd_spec har hctx hv
    exact ⟨h2.1, false, h1, h2.2⟩
  · rename_i x _ _ hc
    refine sat_bind (sat_lift (Q := fun va => rd r (match c with | .tmp t => ((t, true) :: ctx, (t, false) :: ctx) | _ => (ctx, ctx)).1 a = some va) fun v h => h) fun va hva => ?_
    refine sat_bind (sat_lift (Q := fun vb => rd r (match c with | .tmp t => ((t, true) :: ctx, (t, false) :: ctx) | _ => (ctx, ctx)).2 b = some vb) fun v h => h) fun vb hvb => ?_
    refine sat_mono mergeOrFail_sat fun v hv ρ act har hctx => ?_
    have h1 := (rd_spec har hctx hc).2
    have h1' : act.eval c = .bool (x.bool ν) := h1
    have hsl : ∀ t, c = .tmp t → act.tmps[t]? = some (.bool (x.bool ν)) := by
      intro t ht
      subst ht
      exact (slot_spec har hctx (show r.slot ctx t = some _ from hc)).2
    cases hx : x.bool ν with
    | true =>
      have hca : CtxOk (match c with | .tmp t => ((t, true) :: ctx, (t, false) :: ctx) | _ => (ctx, ctx)).1 act := by
        split
        · intro p hp
          rcases List.mem_cons.1 hp with rfl | h
          · rw [hsl _ rfl, hx]
          · exact hctx p h
        · exact hctx
      have h2 := rd_spec har hca hva
      have h3 := hv.1 hx
      exact ⟨h3.2 h2.1, true, by rw [h1', hx], by simp only [if_true]; rw [h3.1 ρ]; exact h2.2⟩
    | false =>
      have hcb : CtxOk (match c with | .tmp t => ((t, true) :: ctx, (t, false) :: ctx) | _ => (ctx, ctx)).2 act := by
        split
        · intro p hp
          rcases List.mem_cons.1 hp with rfl | h
          · rw [hsl _ rfl, hx]
          · exact hctx p h
        · exact hctx
      have h2 := rd_spec har hcb hvb
      have h3 := hv.2 hx
      exact ⟨h3.2 h2.1, false, by rw [h1', hx], by simp only [Bool.false_eq_true, if_false]; rw [h3.1 ρ]; exact h2.2⟩
  · exact sat_fail

theorem Lf.conc_scalar {l : Lf} (h : l.scalar = true) (ρ ρ' : Nat → Loc) : l.conc ν ρ = l.conc ν ρ' := by
  cases l <;> first | rfl | (rename_i t _ _; cases t <;> rfl) | cases h
theorem V1.conc_scalar {v : V1} (h : v.cells.all Lf.scalar = true) (ρ ρ' : Nat → Loc) : v.conc ν ρ = v.conc ν ρ' := by
  cases v with
  | one l => exact Lf.conc_scalar (by simpa [V1.cells] using h) ρ ρ'
  | agg l =>
    simp only [V1.conc]
    congr 2
    exact List.map_congr_left fun y hy => Lf.conc_scalar (List.all_eq_true.1 h y hy) ρ ρ'

theorem rdParts_spec {ρ : Nat → Loc} {r : RS} {a : Act} {ctx : Ctx} (h : ARel ν ρ r a) (hc : CtxOk ctx a) : ∀ {xs : List (Nat × Operand)} {vs : List (Nat × V1)}, rdParts r ctx xs = some vs →
    xs.map (fun p => (p.1, a.eval p.2)) = vs.map (fun p => (p.1, p.2.conc ν ρ)) ∧ ∀ p ∈ vs, p.2.good ν
  | [], vs, hv => by simp [rdParts] at hv; subst hv; exact ⟨rfl, fun p hp => by cases hp⟩
  | x :: xs, vs, hv => by
    simp only [rdParts] at hv
    split at hv
    · rename_i v h1
      split at hv
      · cases hv
      · rename_i vs' h2
        cases hv
        have e1 := rd_spec h hc h1
        have e2 := rdParts_spec h hc h2
        refine ⟨by simp only [List.map_cons, e2.1, e1.2]; rfl, fun p hp => ?_⟩
        rcases List.mem_cons.1 hp with rfl | hp
        · exact e1.1
        · exact e2.2 p hp
    · cases hv

theorem run_mapM_sizes {f : Field → Nat × TypeId} (hf : ∀ d, f d = (d.offset, d.type)) (w : World) : ∀ (l : List Field) (places : List (Nat × Nat)),
    allSome (fun f : Nat × TypeId => (tsize P f.2).map fun n => (f.1, n)) (l.map f) = some places →
    (l.mapM fun (d : Field) => (do pure (d.offset, ← sizeOf d.type) : Sem (Nat × Nat))).run P w = .ok places w
  | [], places, h => by simp [allSome] at h; subst h; simp
  | d :: l, places, h => by
    simp only [List.map_cons, allSome, hf] at h
    split at h
    · cases h
    · rename_i b hb
      split at h
      · cases h
      · rename_i r hr
        cases h
        obtain ⟨n, hn, rfl⟩ := Option.map_eq_some_iff.1 hb
        simp only [List.mapM_cons, Sem.run_bind, run_size hn, Result.andThen_ok, Sem.run_pure, run_mapM_sizes hf w l r hr]

theorem evBuild_spec {t : TypeId} {ps : List (Nat × V1)} {r : List Lf} (h : evBuild P t ps = some r) (hg : ∀ p ∈ ps, p.2.good ν) : (∀ x ∈ r, Lf.good ν x) ∧ ∀ (ρ : Nat → Loc) (w : World),
    (Instr.build t (ps.map fun p => (p.1, p.2.conc ν ρ)).toArray).run P w = .ok (.agg (r.map (Lf.conc ν ρ)).toArray) w := by
  unfold evBuild at h
  split at h
  · cases h
  · rename_i z hz
    unfold zeroCells at hz
    split at hz
    · cases hz
    · rename_i i hi
      split at hz
      · cases hz
      · rename_i zv hzv
        have hzs := ofLeaves_spec (ν := ν) hz
        have hzero : ∀ w, (zeroValue t).run P w = .ok zv w := fun w => by simp [zeroValue, typeInfo, hi, hzv]
        have hin : ∀ ρ, zv.cells.toList = z.map (Lf.conc ν ρ) := fun ρ => (hzs.2 ρ).symm
        split at h
        · rename_i fs hk
          obtain ⟨fl, hu, hfs⟩ := tk_struct hk
          split at h
          · cases h
          · rename_i places hpl
            refine ⟨fillC_good _ _ _ hzs.1 hg h, fun ρ w => ?_⟩
            obtain ⟨B, hB, hB2⟩ := fillC_spec (ν := ν) (ρ := ρ) (place' := fun i => places.toArray[i]?) (fun i => by simp) ps z r zv.cells (hin ρ) h
            subst hfs
            have hm := run_mapM_sizes (P := P) (fun _ => rfl) w fl.toList places hpl
            simp only [Instr.build, Sem.run_bind, hzero, Result.andThen_ok, run_underlying hu, Array.mapM_eq_mapM_toList, Sem.run_map, hm]
            rw [hB, ← hB2]
            rfl
        · rename_i len elem hk
          have hu := tk_arr hk
          split at h
          · cases h
          · rename_i sz hs
            refine ⟨fillC_good _ _ _ hzs.1 hg h, fun ρ w => ?_⟩
            obtain ⟨B, hB, hB2⟩ := fillC_spec (ν := ν) (ρ := ρ) (place' := fun i => some (i * sz, sz)) (fun i => rfl) ps z r zv.cells (hin ρ) h
            simp only [Instr.build, Sem.run_bind, hzero, Result.andThen_ok, run_underlying hu, run_size hs, Sem.run_pure, hB]
            rw [← hB2]
        · cases h

theorem rdAll_good {ρ : Nat → Loc} {r : RS} {a : Act} {ctx : Ctx} (h : ARel ν ρ r a) (hc : CtxOk ctx a) : ∀ {xs : List Operand} {vs : List V}, rdAll r ctx xs = some vs → ∀ v ∈ vs, V.good ν v
  | [], vs, hv => by simp [rdAll] at hv; subst hv; intro v hv; cases hv
  | x :: xs, vs, hv => by
    simp only [rdAll] at hv
    cases h1 : rd r ctx x with
    | none => simp [h1] at hv
    | some v =>
      simp only [h1] at hv
      cases h2 : rdAll r ctx xs with
      | none => simp [h2] at hv
      | some vs' =>
        simp only [h2, Option.some.injEq] at hv
        subst hv
        intro u hu
        rcases List.mem_cons.1 hu with rfl | hu
        · exact (rd_spec h hc h1).1
        · exact rdAll_good h hc h2 u hu

theorem evStore_sat {r : RS} {ctx : Ctx} {o : Oper} {t : TypeId} {x y : Operand} (hop : o.op = .store t x y) : M.sat F ν (evStore P r ctx t x y) (fun hp' => ∀ ρ a, ARel ν ρ r a → CtxOk ctx a →
  ∀ w, HS E ν ρ r.st.hp w → ∃ w', (execOp a.eval o).run P w = .ok .skip w' ∧ HS E ν ρ hp' w') := by
  unfold evStore
  refine sat_bind (sat_lift (Q := fun v => rd r ctx x = some v) fun a h => h) fun v hv => ?_
  refine sat_bind (sat_lift (Q := fun v => rd r ctx y = some v) fun a h => h) fun u hu => ?_
  split
  · rename_i b off v1
    refine sat_bind (sat_lift (Q := fun k => tsize P t = some k) fun a h => h) fun sz hs => ?_
    refine sat_bind (sat_lift (Q := fun bk => nth r.st.hp b = some bk) fun a h => h) fun bk hbk => ?_
    split
    · rename_i cs
      refine sat_ite (fun hcond => ?_) (fun _ => sat_fail)
      simp only [Bool.and_eq_true] at hcond
      obtain ⟨hlen, hok⟩ := hcond
      have hlen := Nat.eq_of_beq_eq_true hlen
      by_cases hg : off.good ν
      · refine sat_bind (storeCellsAt_desc hg) fun cs' hd => sat_pure fun ρ a ha hc w hw => ?_
        have h1 := rd_spec ha hc hv
        have h2 := rd_spec ha hc hu
        have hb0 : CBlk ν ρ w (ρ b) true cs := hw.heap.blk b _ hbk
        have hst := CBlk.store (P := P) hb0 hd h2.1 (by simpa using hok)
        have hcells : (a.eval y).cells.toList = v1.cells.map (Lf.conc ν ρ) := by
          rw [h2.2]
          cases v1 with
          | one l =>
            have h1 : (l.conc ν ρ).oneCell' = true := Lf.ok_conc (by simpa [V1.cells] using hok) ρ
            simp only [V.conc, V1.conc, V1.cells, cells_one h1, List.map_cons, List.map_nil]
          | agg l => simp [V.conc, V1.conc, V1.cells, Value.cells]
        have hsz : (a.eval y).cells.size = sz := by
          rw [← Array.length_toList, hcells]; simpa using hlen
        refine ⟨_, ?_, hw.upd (w' := w.setCells (ρ b).blk ((ρ b).off + off.val ν) (v1.cells.map (Lf.conc ν ρ))) hbk rfl rfl hst.2 hb0.nil (setCells_size _ _ _ _) (setCells_os _ _ _ _).1 (setCells_os _ _ _ _).2.1 (setCells_os _ _ _ _).2.2 (fun k hk => setCells_block _ _ _ _ k hk)⟩
        simp [execOp, hop, h1.2, V.conc, V1.conc, Lf.conc, Instr.storeAt, Instr.sureAddr, storeVar, run_size hs, hsz, hcells, hst.1]
      · refine sat_bind sat_true fun v _ => sat_pure fun ρ a ha hc => ?_
        exact absurd ((rd_spec ha hc hv).1 (.p b off) (by simp [V1.cells])) hg
    · rename_i ts q
      refine sat_ite (fun hcond => ?_) (fun _ => sat_fail)
      simp only [Bool.and_eq_true] at hcond
      obtain ⟨hlen, hpos⟩ := hcond
      have hlen := Nat.eq_of_beq_eq_true hlen
      have hpos : 0 < sz := Nat.le_of_ble_eq_true hpos
      have hne : v1.cells ≠ [] := fun e => by rw [e] at hlen; simp at hlen; omega
      by_cases hg : off.good ν
      · refine sat_bind (storeRow_sat (P := P) (E := E) hg hne) fun q' hd => sat_pure fun ρ a ha hc w hw => ?_
        have h1 := rd_spec ha hc hv
        have h2 := rd_spec ha hc hu
        have hb0 : VRel E w (ρ b) true ts (q.cells ν) := hw.heap.blk b _ hbk
        obtain ⟨d1, d2, d3, d4⟩ := hd ρ w (ρ b) hb0
        have hcells : (a.eval y).cells.toList = v1.cells.map (Lf.conc ν ρ) := by
          rw [h2.2, show (V.s v1).conc ν ρ = v1.conc ν ρ from rfl, V1.cells_conc (List.all_eq_true.2 d2) ρ]
        have hsz : (a.eval y).cells.size = sz := by
          rw [← Array.length_toList, hcells]; simpa using hlen
        refine ⟨_, ?_, hw.upd (w' := w.setCells (ρ b).blk ((ρ b).off + off.val ν) (v1.cells.map (Lf.conc ν ρ))) (nb := .v true ts q') hbk rfl rfl d4 d1 (setCells_size _ _ _ _) (setCells_os _ _ _ _).1 (setCells_os _ _ _ _).2.1 (setCells_os _ _ _ _).2.2 (fun k hk => setCells_block _ _ _ _ k hk)⟩
        simp [execOp, hop, h1.2, V.conc, V1.conc, Lf.conc, Instr.storeAt, Instr.sureAddr, storeVar, run_size hs, hsz, hcells, d3]
      · refine sat_bind sat_true fun v _ => sat_pure fun ρ a ha hc => ?_
        exact absurd ((rd_spec ha hc hv).1 (.p b off) (by simp [V1.cells])) hg
    · exact sat_fail
  · exact sat_fail

theorem evStore_at {r : RS} {ctx : Ctx} {t : TypeId} {x y : Operand} {b : Nat} {off : Off} (hx : rd r ctx x = some (.s (.one (.p b off)))) : M.sat F ν (evStore P r ctx t x y) (fun hp' => ∀ j, j ≠ b → nth hp' j = nth r.st.hp j) := by
  unfold evStore
  refine sat_bind (sat_lift (Q := fun v => rd r ctx x = some v) fun a h => h) fun v hv => ?_
  refine sat_bind sat_true fun u _ => ?_
  rw [hx] at hv
  cases hv
  split
  · rename_i b' off' v1 he
    cases he
    refine sat_bind sat_true fun sz _ => sat_bind sat_true fun bk _ => ?_
    split
    · exact sat_ite (fun _ => sat_bind sat_true fun _ _ => sat_pure fun j hj => nth_setNth_ne _ _ _ _ (Ne.symm hj)) (fun _ => sat_fail)
    · exact sat_ite (fun _ => sat_bind sat_true fun _ _ => sat_pure fun j hj => nth_setNth_ne _ _ _ _ (Ne.symm hj)) (fun _ => sat_fail)
    · exact sat_fail
  · exact sat_fail

theorem leafOpt_spec {ρ : Nat → Loc} {r : RS} {a : Act} {ctx : Ctx} (h : ARel ν ρ r a) (hc : CtxOk ctx a) {x : Option Operand} {l : Option Lf} (hl : leafOpt r ctx x = some l) : x.map a.eval = l.map (Lf.conc ν ρ) := by
  unfold leafOpt at hl
  split at hl
  · cases hl; rfl
  · split at hl
    · rename_i hrd
      cases hl
      simp only [Option.map_some]
      rw [(rd_spec h hc hrd).2]
      rfl
    · cases hl

theorem capOf_spec (ρ : Nat → Loc) : ∀ {vs : List V} {bs : List Nat}, allSome capOf vs = some bs → vs.map (V.conc ν ρ) = bs.map fun b => Value.pointer (some ⟨(ρ b).blk, (ρ b).off + 0, none⟩)
  | [], bs, h => by simp [allSome] at h; subst h; rfl
  | v :: l, bs, h => by
    simp only [allSome] at h
    cases hf : capOf v with
    | none => simp [hf] at h
    | some b =>
      simp only [hf] at h
      cases hr : allSome capOf l with
      | none => simp [hr] at h
      | some r =>
        simp only [hr, Option.some.injEq] at h
        subst h
        unfold capOf at hf
        split at hf
        · cases hf
          simp only [List.map_cons]
          rw [capOf_spec ρ hr]
          rfl
        · cases hf
theorem fnOf_spec {ρ : Nat → Loc} {r : RS} {a : Act} {ctx : Ctx} (h : ARel ν ρ r a) (hc : CtxOk ctx a) {x : Operand} {f : Nat} {bs : List Nat} (hf : fnOf (rd r ctx x) = some (f, bs)) :
    a.eval x = .func (.func f) #[] (capsConc ρ bs) := by
  unfold fnOf at hf
  split at hf
  · rename_i g u v hrd
    split at hf
    · rename_i hc2
      cases hf
      simp only [Bool.and_eq_true] at hc2
      rw [(rd_spec h hc hrd).2]
      simp only [V.conc, V1.conc, Lf.conc]
      rw [Array.eq_empty_of_size_eq_zero (Nat.eq_of_beq_eq_true hc2.1), Array.eq_empty_of_size_eq_zero (Nat.eq_of_beq_eq_true hc2.2)]
      rfl
    · cases hf
  · rename_i g u hrd
    cases hf
    exact (rd_spec h hc hrd).2
  · cases hf


theorem litsOf_spec : ∀ {l : List Lf} {r : List Ty × List A}, litsOf l = some r → ∀ (a : A) (pre : List DV), a.cells ν = pre ++ nrmZ r.1 (r.2.map (A.den ν)) → (∀ ρ : Nat → Loc, (eCells a pre.length l).map (Lf.conc ν ρ) = l.map (Lf.conc ν ρ)) ∧ ∀ x ∈ eCells a pre.length l, x.good ν
  | [], r, _, a, pre, _ => ⟨fun _ => rfl, fun x hx => by cases hx⟩
  | .i k b :: l, r, h, a, pre, ha => by
    simp only [litsOf] at h
    cases hr : litsOf l with
    | none => rw [hr] at h; cases h
    | some r' =>
      rw [hr] at h
      cases h
      have ha' : a.cells ν = (pre ++ [nrm .i (b.den ν)]) ++ nrmZ r'.1 (r'.2.map (A.den ν)) := by rw [ha]; simp [nrmZ]
      obtain ⟨h1, h2⟩ := litsOf_spec hr a _ ha'
      simp only [List.length_append, List.length_cons, List.length_nil, Nat.zero_add] at h1 h2
      have hd : (a.cells ν).getD pre.length default = nrm .i (b.den ν) := by rw [ha]; simp [nrmZ]
      refine ⟨fun ρ => ?_, fun x hx => ?_⟩
      · simp only [eCells, List.map_cons, h1 ρ, Lf.conc, hd, A.int]
        rfl
      · rcases List.mem_cons.1 hx with rfl | hx
        · exact trivial
        · exact h2 x hx
  | .b b :: l, r, h, a, pre, ha => by
    simp only [litsOf] at h
    cases hr : litsOf l with
    | none => rw [hr] at h; cases h
    | some r' =>
      rw [hr] at h
      cases h
      have ha' : a.cells ν = (pre ++ [nrm .b (b.den ν)]) ++ nrmZ r'.1 (r'.2.map (A.den ν)) := by rw [ha]; simp [nrmZ]
      obtain ⟨h1, h2⟩ := litsOf_spec hr a _ ha'
      simp only [List.length_append, List.length_cons, List.length_nil, Nat.zero_add] at h1 h2
      have hd : (a.cells ν).getD pre.length default = nrm .b (b.den ν) := by rw [ha]; simp [nrmZ]
      refine ⟨fun ρ => ?_, fun x hx => ?_⟩
      · simp only [eCells, List.map_cons, h1 ρ, Lf.conc, hd, A.bool]
        rfl
      · rcases List.mem_cons.1 hx with rfl | hx
        · exact trivial
        · exact h2 x hx
theorem grpAt_sat (z : List Lf) (o n : Nat) : M.sat F ν (grpAt z o n) fun z' => (∀ ρ : Nat → Loc, z'.map (Lf.conc ν ρ) = z.map (Lf.conc ν ρ)) ∧ ((∀ x ∈ z, x.good ν) → ∀ x ∈ z', x.good ν) := by
  unfold grpAt
  split
  · exact sat_pure ⟨fun _ => rfl, id⟩
  · rename_i r hr
    refine sat_bind (sat_emit (Q := fun a => a.den ν = denNode F ν (.lmk r.1 r.2)) fun a h => h) fun a ha => sat_pure ?_
    have hc : a.cells ν = [] ++ nrmZ r.1 (r.2.map (A.den ν)) := by rw [List.nil_append]; exact A.cells_of_den ha
    obtain ⟨h1, h2⟩ := litsOf_spec hr a _ hc
    refine ⟨fun ρ => ?_, fun hg x hx => ?_⟩
    · have := h1 ρ
      rw [List.length_nil] at this
      rw [List.map_append, List.map_append, this, ← List.map_append, ← List.map_append]
      congr 1
      rw [List.append_assoc, List.take_append_drop, List.take_append_drop]
    · rw [List.mem_append, List.mem_append] at hx
      rcases hx with (hx | hx) | hx
      · exact hg x (List.mem_of_mem_take hx)
      · exact h2 x hx
      · exact hg x (List.mem_of_mem_drop (List.mem_of_mem_drop hx))
theorem grpCells_sat : ∀ (gs : List (Nat × Nat)) (z : List Lf), M.sat F ν (grpCells gs z) fun z' => (∀ ρ : Nat → Loc, z'.map (Lf.conc ν ρ) = z.map (Lf.conc ν ρ)) ∧ ((∀ x ∈ z, x.good ν) → ∀ x ∈ z', x.good ν)
  | [], z => sat_pure ⟨fun _ => rfl, id⟩
  | g :: gs, z => by
    unfold grpCells
    exact sat_bind (grpAt_sat z g.1 g.2) fun z1 h1 => sat_mono (grpCells_sat gs z1) fun z2 h2 => ⟨fun ρ => (h2.1 ρ).trans (h1.1 ρ), fun hg => h2.2 (h1.2 hg)⟩

theorem evOp_sat {K : Nat} (hS : SigsOK P I K S F) (hE : E.Ok K) {r : RS} {ctx : Ctx} {o : Oper} : M.sat F ν (evOp P S r ctx o.op) (fun res => ∀ ρ a, ARel ν ρ r a → CtxOk ctx a →
    ORok P I E ν ρ r.st.hp (execOp a.eval o) res) := by
  cases hop : o.op <;> simp only [evOp]
  case move x =>
    refine sat_bind (sat_lift (Q := fun v => rd r ctx x = some v) fun a h => h) fun v hv => sat_pure fun ρ a ha hc => ?_
    have := rd_spec ha hc hv
    exact ORok.now this.1 fun w _ => by simp [execOp, hop, this.2]
  case assign x =>
    refine sat_bind (sat_lift (Q := fun v => rd r ctx x = some v) fun a h => h) fun v hv => sat_pure fun ρ a ha hc => ?_
    have := rd_spec ha hc hv
    exact ORok.now this.1 fun w _ => by simp [execOp, hop, this.2]
  case pick c x y =>
    refine sat_bind evPick_sat fun v hv => sat_pure fun ρ a ha hc => ?_
    obtain ⟨hg, t, h1, h2⟩ := hv ρ a ha hc
    exact ORok.now hg fun w _ => by simp [execOp, hop, h1, asBool, ← h2]
  case build t parts =>
    refine sat_bind (sat_lift (Q := fun v => rdParts r ctx parts.toList = some v) fun a h => h) fun ps hps => ?_
    refine sat_bind (sat_lift (Q := fun v => evBuild P t ps = some v) fun a h => h) fun cs hcs => sat_pure fun ρ a ha hc => ?_
    have h1 := rdParts_spec ha hc hps
    have h2 := evBuild_spec hcs h1.2
    refine ORok.now (V1.good_agg.2 h2.1) fun w _ => ?_
    have h3 : (parts.map fun (p : Nat × Operand) => (p.1, a.eval p.2)) = (ps.map fun p => (p.1, p.2.conc ν ρ)).toArray := by
      apply Array.ext'
      simpa using h1.1
    have h4 := h2.2 ρ w
    rw [← h3] at h4
    simp only [execOp, hop, V.conc, V1.conc]
    simp [h4]
  case alloc t =>
    refine sat_bind (sat_lift (Q := fun v => zeroCells P t = some v) fun a h => h) fun cs hcs => ?_
    obtain ⟨i, z, hi, hz, hzg, hzc⟩ := zeroCells_spec (ν := ν) hcs
    have hlt0 : ∀ n, cs.all (Lf.lt n) = true := fun n => by
      unfold zeroCells at hcs
      rw [hi] at hcs
      simp only [hz] at hcs
      obtain ⟨_, h2⟩ := allSome_spec hcs
      refine List.all_eq_true.2 fun x hx => ?_
      obtain ⟨j, hj, rfl⟩ := List.mem_iff_getElem.1 hx
      obtain ⟨v, _, hv⟩ := h2 j _ (List.getElem?_eq_getElem hj)
      unfold ofLeaf at hv
      split at hv <;> first | (cases hv; rfl) | (rw [← Option.some.inj hv]; rfl) | cases hv
    have hrun : ∀ (o' : Act) (w : World), (execOp o'.eval o).run P w = .ok (.value (.pointer (some ⟨w.heap.size, 0, none⟩))) (w.alloc (.cells z.cells t)) := fun o' w => by
      simp [execOp, hop, Instr.alloc, zeroValue, typeInfo, hi, hz, newVar, newRow]
    refine sat_ite (fun hn => sat_ite (fun hlt => ?_) (fun _ => sat_fail)) (fun hn => ?_)
    · refine sat_bind (sat_pull2 fun w => matCells_sat (E := E) (w := w) _ _ _) fun q hq => sat_bind (grpCells_sat _ _) fun z' hz' => ?_
      unfold newBlk
      refine sat_ite (fun hc => ?_) (fun _ => sat_fail)
      simp only [Bool.and_eq_true] at hc
      refine sat_pure fun ρ a ha hcx w hw _ => ?_
      obtain ⟨h1, h2, h3, h4, ρ', h5, h6, h7⟩ := hq w ρ hw hlt (hlt0 _) hzg
      have hnew := h6.new hc.1 hc.2 (hz'.2 h3) t
      rw [hz'.1, h7, ← hzc ρ] at hnew
      refine .inl ⟨.pointer (some ⟨w.heap.size, 0, none⟩), w.alloc (.cells z.cells t), hrun a w, _, fun j hj => by rw [ext_lt (by omega), h5 j hj], hnew, fun u hu => ?_⟩
      cases hu
      exact ⟨V1.good_one.2 trivial, by simp [V.conc, V1.conc, Lf.conc, ext_same, Off.val]⟩
    · refine sat_bind (grpCells_sat _ _) fun z' hz' => ?_
      unfold newBlk
      refine sat_ite (fun hc => ?_) (fun _ => sat_fail)
      simp only [Bool.and_eq_true] at hc
      refine sat_pure fun ρ a ha hcx w hw _ => ?_
      have hnew := hw.new hc.1 hc.2 (hz'.2 hzg) t
      rw [hz'.1, ← hzc ρ] at hnew
      refine .inl ⟨.pointer (some ⟨w.heap.size, 0, none⟩), w.alloc (.cells z.cells t), hrun a w, _, fun j hj => ext_lt hj, hnew, fun u hu => ?_⟩
      cases hu
      exact ⟨V1.good_one.2 trivial, by simp [V.conc, V1.conc, Lf.conc, ext_same, Off.val]⟩
  case box t x =>
    refine sat_bind (sat_lift (Q := fun v => rd r ctx x = some v) fun a h => h) fun v hv => ?_
    split
    · rename_i v1
      refine sat_ite (fun hok => ?_) (fun _ => sat_fail)
      refine sat_ite (fun _ => sat_ite (fun hlt => ?_) (fun _ => sat_fail)) (fun _ => ?_)
      · simp only [Bool.and_eq_true] at hlt
        refine sat_bind (sat_pull2 fun w => matCells_sat (E := E) (w := w) _ _ _) fun q hq => sat_bind (grpCells_sat _ _) fun z' hz' => ?_
        unfold newBlk
        refine sat_ite (fun hc => ?_) (fun _ => sat_fail)
        simp only [Bool.and_eq_true] at hc
        refine sat_pure fun ρ a ha hcx w hw _ => ?_
        have := rd_spec ha hcx hv
        have hcell : (a.eval x).cells = (v1.cells.map (Lf.conc ν ρ)).toArray := by
          rw [this.2]
          cases v1 with
          | one l =>
            have h1 : (l.conc ν ρ).oneCell' = true := Lf.ok_conc (by simpa [V1.cells] using hok) ρ
            exact cells_one h1
          | agg l => rfl
        obtain ⟨h1, h2, h3, h4, ρ', h5, h6, h7⟩ := hq w ρ hw hlt.1 hlt.2 this.1
        have hnew := h6.new hc.1 hc.2 (hz'.2 h3) t
        rw [hz'.1, h7] at hnew
        refine .inl ⟨.pointer (some ⟨w.heap.size, 0, none⟩), w.alloc (.cells (v1.cells.map (Lf.conc ν ρ)).toArray t), ?_, _, fun j hj => by rw [ext_lt (by omega), h5 j hj], hnew, fun u hu => ?_⟩
        · simp [execOp, hop, Instr.box, newVar, newRow, hcell]
        · cases hu
          exact ⟨V1.good_one.2 trivial, by simp [V.conc, V1.conc, Lf.conc, ext_same, Off.val]⟩
      · refine sat_bind (grpCells_sat _ _) fun z' hz' => ?_
        unfold newBlk
        refine sat_ite (fun hc => ?_) (fun _ => sat_fail)
        simp only [Bool.and_eq_true] at hc
        refine sat_pure fun ρ a ha hcx w hw _ => ?_
        have := rd_spec ha hcx hv
        have hcell : (a.eval x).cells = (v1.cells.map (Lf.conc ν ρ)).toArray := by
          rw [this.2]
          cases v1 with
          | one l =>
            have h1 : (l.conc ν ρ).oneCell' = true := Lf.ok_conc (by simpa [V1.cells] using hok) ρ
            exact cells_one h1
          | agg l => rfl
        refine .inl ⟨.pointer (some ⟨w.heap.size, 0, none⟩), w.alloc (.cells (v1.cells.map (Lf.conc ν ρ)).toArray t), ?_, _, fun j hj => ext_lt hj, (by have hnew := hw.new hc.1 hc.2 (hz'.2 this.1) t; rw [hz'.1] at hnew; exact hnew), fun u hu => ?_⟩
        · simp [execOp, hop, Instr.box, newVar, newRow, hcell]
        · cases hu
          exact ⟨V1.good_one.2 trivial, by simp [V.conc, V1.conc, Lf.conc, ext_same, Off.val]⟩
    · exact sat_fail
  case load t x =>
    refine sat_bind (sat_lift (Q := fun v => rd r ctx x = some v) fun a h => h) fun v hv => ?_
    split
    · rename_i b off
      refine sat_bind (sat_lift (Q := fun k => tk P t = some k) fun a h => h) fun k hk => ?_
      refine sat_bind (sat_lift (Q := fun k => tsize P t = some k) fun a h => h) fun sz hs => ?_
      refine sat_bind (sat_lift (Q := fun bk => nth r.st.hp b = some bk) fun a h => h) fun bk hbk => ?_
      split
      · rename_i o cs
        by_cases hg : off.good ν
        · refine sat_bind (loadCells_sat (own := o) hk hs hg) fun v hl => sat_pure fun ρ a ha hc w hw _ => ?_
          have hr := rd_spec ha hc hv
          have := hl ρ w (ρ b) (hw.heap.blk b _ hbk)
          exact ⟨this.1, .inl (by simp [execOp, hop, hr.2, V.conc, V1.conc, Lf.conc, Instr.loadAt, Instr.sureAddr, this.2])⟩
        · refine sat_bind sat_true fun v _ => sat_pure fun ρ a ha hc w hw _ => ?_
          exact absurd ((rd_spec ha hc hv).1 (.p b off) (by simp [V1.cells])) hg
      · rename_i o ts q
        refine sat_ite (fun hfl => ?_) (fun hfl => sat_ite (fun hpl => ?_) (fun _ => sat_fail))
        rotate_left
        · by_cases hg : off.good ν
          · refine sat_bind (loadRowN_sat (E := E) hk hs hg) fun z hz => sat_pure fun ρ a ha hc w hw _ => ?_
            have hr := rd_spec ha hc hv
            obtain ⟨z1, ρ', z2, z3, z4⟩ := hz ρ w hw hpl (ρ b) o (hw.heap.blk b _ hbk)
            have he : a.eval x = .pointer (some ⟨(ρ b).blk, (ρ b).off + off.val ν, none⟩) := hr.2
            exact .inl ⟨V1.conc ν ρ' z.1, w, by simp [execOp, hop, he, Instr.loadAt, Instr.sureAddr, z4], ρ', z2, z3, fun u hu => by cases hu; exact ⟨z1, rfl⟩⟩
          · refine sat_bind sat_true fun v _ => sat_pure fun ρ a ha hc w hw _ => ?_
            exact absurd ((rd_spec ha hc hv).1 (.p b off) (by simp [V1.cells])) hg
        by_cases hg : off.good ν
        · refine sat_bind (loadRow_sat (E := E) hk hs hg) fun v hl => sat_pure fun ρ a ha hc w hw _ => ?_
          have hr := rd_spec ha hc hv
          have := hl.2 ρ w (ρ b) o (hw.heap.blk b _ hbk)
          exact ⟨hl.1, .inl (by simp [execOp, hop, hr.2, V.conc, V1.conc, Lf.conc, Instr.loadAt, Instr.sureAddr, this])⟩
        · refine sat_bind sat_true fun v _ => sat_pure fun ρ a ha hc w hw _ => ?_
          exact absurd ((rd_spec ha hc hv).1 (.p b off) (by simp [V1.cells])) hg
    · rename_i g off
      refine sat_bind (sat_lift (Q := fun k => tk P t = some k) fun a h => h) fun k hk => ?_
      refine sat_bind (sat_lift (Q := fun k => tsize P t = some k) fun a h => h) fun sz hs => ?_
      refine sat_bind (sat_lift (Q := fun cs => assoc S.gs g = some cs) fun a h => h) fun cs hcs => ?_
      by_cases hg : off.good ν
      · refine sat_bind (loadCells_sat (own := false) hk hs hg) fun v hl => sat_ite (fun hsc => sat_pure fun ρ a ha hc w hw hI => ?_) (fun _ => sat_fail)
        have hr := rd_spec ha hc hv
        obtain ⟨hg1, hg2⟩ := hS.globs g cs hcs w hI
        have hb : CBlk ν (fun _ => ⟨g, 0, false, 0, 0, none⟩) w ⟨g, 0, false, 0, 0, none⟩ false (cs.map some) := ⟨rfl, hg1, fun i l hi => by
          rw [nth_map_some] at hi
          have := hg2 i l hi ν (fun _ => ⟨g, 0, false, 0, 0, none⟩)
          simpa using this, fun h => (by cases h), fun h => by cases h⟩
        have := hl (fun _ => ⟨g, 0, false, 0, 0, none⟩) w _ hb
        have hconc : v.conc ν (fun _ => ⟨g, 0, false, 0, 0, none⟩) = v.conc ν ρ := V1.conc_scalar hsc _ _
        have h2 := this.2
        rw [hconc] at h2
        simp only [Nat.zero_add] at h2
        have hev : a.eval x = .pointer (some ⟨g, off.val ν, none⟩) := hr.2
        have h3 : (execOp a.eval o).run P w = ((loadVar t ⟨g, off.val ν, none⟩).run P w).andThen fun v w' => .ok (.value v) w' := by
          simp [execOp, hop, hev, Instr.loadAt, Instr.sureAddr]
        exact ⟨this.1, .inl (by rw [h3, h2]; rfl)⟩
      · refine sat_bind sat_true fun v _ => sat_ite (fun _ => sat_pure fun ρ a ha hc w hw _ => ?_) (fun _ => sat_fail)
        exact absurd ((rd_spec ha hc hv).1 (.gp g off) (by simp [V1.cells])) hg
    · exact sat_fail
  case store t x y =>
    refine sat_bind (evStore_sat (E := E) hop) fun hp' h => sat_pure fun ρ a ha hc w hw _ => ?_
    obtain ⟨w', h1, h2⟩ := h ρ a ha hc w hw
    exact .inr (.inl ⟨w', h1, ρ, fun _ _ => rfl, h2, fun u hu => by cases hu⟩)
  case nilCheck x =>
    refine sat_bind (sat_lift (Q := fun v => rd r ctx x = some v) fun a h => h) fun v hv => ?_
    split
    · refine sat_pure fun ρ a ha hc => ?_
      have := rd_spec ha hc hv
      exact ORok.now this.1 fun w _ => by simp [execOp, hop, this.2, V.conc, V1.conc, Lf.conc]
    · refine sat_pure fun ρ a ha hc => ?_
      have := rd_spec ha hc hv
      exact ORok.now this.1 fun w _ => by simp [execOp, hop, this.2, V.conc, V1.conc, Lf.conc]
    · exact sat_fail
  case binOp op t x y yt =>
    refine sat_bind (sat_lift (Q := fun v => rd r ctx x = some v) fun a h => h) fun v hv => ?_
    refine sat_bind (sat_lift (Q := fun v => rd r ctx y = some v) fun a h => h) fun u hu => ?_
    by_cases hg : v.good ν ∧ u.good ν
    · refine sat_bind (evBinV_sat hg.1 hg.2) fun z hz => sat_pure fun ρ a ha hc => ?_
      have h1 := rd_spec ha hc hv
      have h2 := rd_spec ha hc hu
      refine ORok.now hz.1 fun w _ => ?_
      have := hz.2 ρ w x y
      simp [execOp, hop, h1.2, h2.2, this.1, this.2]
    · refine sat_bind sat_true fun z _ => sat_pure fun ρ a ha hc => ?_
      exact absurd ⟨(rd_spec ha hc hv).1, (rd_spec ha hc hu).1⟩ hg
  case unOp op t x =>
    refine sat_bind (sat_lift (Q := fun v => rd r ctx x = some v) fun a h => h) fun v hv => ?_
    split
    · rename_i l
      refine sat_bind (sat_pull fun ρ (w : World) => evUn_sat (P := P) (ρ := ρ) (w := w)) fun z hz => sat_pure fun ρ a ha hc => ?_
      have h1 := rd_spec ha hc hv
      refine ORok.now (V1.good_one.2 hz.1) fun w _ => ?_
      have := hz.2 ρ w
      simp only [V.conc, V1.conc] at h1 ⊢
      simp [execOp, hop, h1.2, this]
    · exact sat_fail
  case convert s d x =>
    refine sat_bind (sat_lift (Q := fun v => rd r ctx x = some v) fun a h => h) fun v hv => ?_
    split
    · rename_i l
      refine sat_bind (sat_pull fun ρ (w : World) => evConv_sat (P := P) (ρ := ρ) (w := w)) fun z hz => sat_pure fun ρ a ha hc => ?_
      have h1 := rd_spec ha hc hv
      refine ORok.now (V1.good_one.2 hz.1) fun w _ => ?_
      have := hz.2 ρ w
      simp only [V.conc, V1.conc] at h1 ⊢
      simp [execOp, hop, h1.2, this]
    · exact sat_fail
  case fieldAddr t x f =>
    refine sat_bind (sat_lift (Q := fun v => rd r ctx x = some v) fun a h => h) fun v hv => ?_
    split
    · rename_i l
      by_cases hg : l.good ν
      · refine sat_bind (evFieldAddr_sat hg) fun z hz => sat_pure fun ρ a ha hc => ?_
        have h1 := rd_spec ha hc hv
        refine ORok.now (V1.good_one.2 hz.1) fun w _ => ?_
        have := hz.2 ρ w
        simp only [V.conc, V1.conc] at h1 ⊢
        simp [execOp, hop, h1.2, this]
      · refine sat_bind sat_true fun z _ => sat_pure fun ρ a ha hc => ?_
        exact absurd (V1.good_one.1 (rd_spec ha hc hv).1) hg
    · exact sat_fail
  case field t x f =>
    refine sat_bind (sat_lift (Q := fun v => rd r ctx x = some v) fun a h => h) fun v hv => ?_
    split
    · rename_i l
      by_cases hg : ∀ y ∈ l, Lf.good ν y
      · refine sat_bind (evField_sat hg) fun z hz => sat_pure fun ρ a ha hc => ?_
        have h1 := rd_spec ha hc hv
        refine ORok.now hz.1 fun w _ => ?_
        have := hz.2 ρ w
        simp only [V.conc, V1.conc] at h1 ⊢
        simp [execOp, hop, h1.2, this]
        rfl
      · refine sat_bind sat_true fun z _ => sat_pure fun ρ a ha hc => ?_
        exact absurd (V1.good_agg.1 (rd_spec ha hc hv).1) hg
    · exact sat_fail
  case indexAddr t x ix =>
    refine sat_bind (sat_lift (Q := fun v => rd r ctx x = some v) fun a h => h) fun v hv => ?_
    refine sat_bind (sat_lift (Q := fun v => rd r ctx ix = some v) fun a h => h) fun u hu => ?_
    split
    · rename_i b i
      refine sat_bind (evIndexRow_sat (E := E)) fun z hz => sat_pure fun ρ a ha hc w hw _ => ?_
      have h1 := rd_spec ha hc hv
      have h2 := rd_spec ha hc hu
      refine ⟨V1.good_one.2 hz.1, .inl ?_⟩
      have := hz.2 ρ w w hw
      simp only [V.conc, V1.conc] at h1 h2 ⊢
      simp only [Lf.conc] at h1
      simp [execOp, hop, h1.2, h2.2, this]
    · rename_i l i _
      by_cases hg : l.good ν
      · refine sat_bind (evIndexAddr_sat hg) fun z hz => sat_pure fun ρ a ha hc => ?_
        have h1 := rd_spec ha hc hv
        have h2 := rd_spec ha hc hu
        refine ORok.now (V1.good_one.2 hz.1) fun w _ => ?_
        have := hz.2 ρ w
        simp only [V.conc, V1.conc] at h1 h2 ⊢
        simp [execOp, hop, h1.2, h2.2, this]
      · refine sat_bind sat_true fun z _ => sat_pure fun ρ a ha hc => ?_
        exact absurd (V1.good_one.1 (rd_spec ha hc hv).1) hg
    · exact sat_fail
  case index t x ix =>
    refine sat_bind (sat_lift (Q := fun v => rd r ctx x = some v) fun a h => h) fun v hv => ?_
    refine sat_bind (sat_lift (Q := fun v => rd r ctx ix = some v) fun a h => h) fun u hu => ?_
    split
    · rename_i l i
      by_cases hg : ∀ y ∈ l, Lf.good ν y
      · refine sat_bind (evIndex_sat hg) fun z hz => sat_pure fun ρ a ha hc => ?_
        have h1 := rd_spec ha hc hv
        have h2 := rd_spec ha hc hu
        refine ORok.now hz.1 fun w _ => ?_
        have := hz.2 ρ w
        simp only [V.conc, V1.conc] at h1 h2 ⊢
        simp [execOp, hop, h1.2, h2.2, this]
        rfl
      · refine sat_bind sat_true fun z _ => sat_pure fun ρ a ha hc => ?_
        exact absurd (V1.good_agg.1 (rd_spec ha hc hv).1) hg
    · rename_i s ki i
      refine sat_bind (sat_lift (Q := fun d => tk0 P t = some d) fun a h => h) fun d hd => ?_
      split
      · refine sat_bind boundsOk_sat fun _ hb => ?_
        refine sat_bind (sat_emit (Q := fun r => r.int ν = ((s.data.toList.map fun b => A.z b.toNat).map (A.int ν)).getD (i.int ν).toNat 0) fun r h => A.int_of_den h) fun q hq => sat_pure fun ρ a ha hc => ?_
        have h1 := rd_spec ha hc hv
        have h2 := rd_spec ha hc hu
        refine ORok.now (V1.good_one.2 trivial) fun w _ => ?_
        have hlt : (i.int ν).toNat < s.size := by omega
        have h3 : s[(i.int ν).toNat]? = some s[(i.int ν).toNat] := by
          rw [getElem?_pos]
        have h4 : q.int ν = (s[(i.int ν).toNat]).toNat := by
          rw [hq, List.map_map, List.getD_eq_getElem?_getD, List.getElem?_map]
          have : s.data.toList[(i.int ν).toNat]? = some s[(i.int ν).toNat] := by
            rw [Array.getElem?_toList]
            exact Array.getElem?_eq_getElem hlt
          rw [this]
          rfl
        simp only [V.conc, V1.conc, Lf.conc] at h1 h2 ⊢
        simp [execOp, hop, h1.2, h2.2, Instr.index, asIntOf, run_underlying hd, hb.1, h3, h4]
      · exact sat_fail
    · exact sat_fail
  case extract x n =>
    refine sat_bind (sat_lift (Q := fun v => rd r ctx x = some v) fun a h => h) fun v hv => ?_
    split
    · rename_i l
      refine sat_bind (sat_lift (Q := fun u => l[n]? = some u) fun a h => h) fun u hu => sat_pure fun ρ a ha hc => ?_
      have h1 := rd_spec ha hc hv
      refine ORok.now (V.good_s.2 (h1.1 u (List.mem_of_getElem? hu))) fun w _ => ?_
      simp [execOp, hop, h1.2, V.conc, Instr.extract, hu]
    · exact sat_fail
  case makeFunc fn first cap =>
    split
    · rename_i f
      refine sat_bind (sat_lift (Q := fun vs => rdAll r ctx cap.toList = some vs) fun a h => h) fun vs hvs => ?_
      refine sat_bind (sat_lift (Q := fun bs => allSome capOf vs = some bs) fun a h => h) fun bs hbs => ?_
      refine sat_ite (fun he => sat_pure fun ρ a ha hc => ?_) (fun _ => sat_fail)
      have h1 := rdAll_spec ha hc hvs
      have h2 := capOf_spec (ν := ν) ρ hbs
      have h3 : cap.map a.eval = capsConc ρ bs := by
        apply Array.ext'
        rw [Array.toList_map, h1, h2]; simp [capsConc]
      have h4 : first = #[] := by simpa using he
      refine ORok.now (V1.good_one.2 trivial) fun w _ => ?_
      simp [execOp, hop, Instr.makeFunc, h3, h4, V.conc, V1.conc, Lf.conc]
    · exact sat_fail
  case call c =>
    split
    · rename_i x hf
      refine sat_bind (sat_lift (Q := fun p => fnOf (rd r ctx x) = some p) fun a h => h) fun ⟨f, bs⟩ hfn => ?_
      refine sat_bind (sat_lift (Q := fun vs => rdAll r ctx c.args.toList = some vs) fun a h => h) fun vs hvs => ?_
      split
      · rename_i add xa xb xq hbl hbs
        dsimp only at hbl hbs
        subst hbs
        refine sat_mono (evCarry_sat (P := P)) fun z hz ρ a ha hc => ?_
        obtain ⟨s, k, rfl, hr⟩ := hz
        have h1 := rdAll_spec ha hc hvs
        have h0 := fnOf_spec ha hc hfn
        have h2 : c.args.map a.eval = #[.int .u64 (xa.int ν), .int .u64 (xb.int ν), .int .u64 (xq.int ν)] := by
          apply Array.ext'
          rw [Array.toList_map, h1]; rfl
        refine ORok.now (fun u hu => ?_) fun w _ => ?_
        · rcases List.mem_cons.1 hu with rfl | hu
          · exact V1.good_one.2 trivial
          · rcases List.mem_cons.1 hu with rfl | hu
            · exact V1.good_one.2 trivial
            · cases hu
        · have h3 := hr f hbl w
          have h4 : capsConc ρ [] = #[] := rfl
          simp only [execOp, hop, resolve, hf, h0, Deferred.ofValue, invoke, pure_bind, h2, h4, Array.append_empty]
          exact h3
      · exact sat_fail
      · rename_i vs q1 q2 q3 q4
        refine sat_mono (evCall_sat (E := E) hS hE) fun z hz ρ a ha hc => ?_
        have h1 := rdAll_spec ha hc hvs
        have h0 := fnOf_spec ha hc hfn
        have h2 : c.args.map a.eval ++ capsConc ρ bs = ((vs ++ bs.map fun b => V.s (.one (.p b (.c 0)))).map (V.conc ν ρ)).toArray := by
          apply Array.ext'
          simp only [Array.toList_append, Array.toList_map, h1, capsConc, List.map_append, List.map_map]
          rfl
        have hgv : ∀ v ∈ vs ++ bs.map fun b => V.s (.one (.p b (.c 0))), V.good ν v := fun v hv => by
          rcases List.mem_append.1 hv with hv | hv
          · exact rdAll_good ha hc hvs v hv
          · obtain ⟨b, _, rfl⟩ := List.mem_map.1 hv
            exact V.good_s.2 (V1.good_one.2 trivial)
        generalize vs ++ bs.map (fun b => V.s (.one (.p b (.c 0)))) = us at *
        have h5 : ∀ w, (callFunc f (us.map (V.conc ν ρ)).toArray).run P w = .ok (.enter f (us.map (V.conc ν ρ)).toArray) w → (execOp a.eval o).run P w = .ok (.enter f (us.map (V.conc ν ρ)).toArray) w := fun w h4 => by
          rw [← h2] at h4 ⊢
          simp [execOp, hop, resolve, hf, h0, Deferred.ofValue, invoke]
          exact h4
        cases z with
        | val v =>
          intro w hw hI
          obtain ⟨h3, h4, h6⟩ := hz ρ w hgv hw hI
          exact ⟨h4, .inr ⟨f, _, h5 w h3, h6⟩⟩
        | hp v hp' =>
          intro w hw hI
          obtain ⟨h3, h4⟩ := hz ρ w hgv hw hI
          exact .inr (.inr ⟨f, _, h5 w h3, h4.mono fun e w' ⟨x, he, ρ', k1, k2, k3⟩ => ⟨x, he, ρ', k1, k2, fun u hu => ⟨(k3 u hu).1, by rw [(k3 u hu).2]⟩⟩⟩)
    · rename_i b hf
      refine sat_bind (sat_lift (Q := fun vs => rdAll r ctx c.args.toList = some vs) fun a h => h) fun vs hvs => ?_
      have hargs : ∀ ρ a, ARel ν ρ r a → CtxOk ctx a → c.args.map a.eval = (vs.map (V.conc ν ρ)).toArray := fun ρ a ha hc => by
        apply Array.ext'
        simpa using rdAll_spec ha hc hvs
      split
      · rename_i k x k' y
        refine sat_ite (fun hk => ?_) (fun _ => sat_fail)
        have := kEq_eq hk; subst this
        split
        · refine sat_pure fun ρ a ha hc => ORok.now (V1.good_one.2 trivial) fun w _ => ?_
          simp [execOp, hop, resolve, hf, hargs ρ a ha hc, invoke, builtin, Builtin.max_, Builtin.max2, V.conc, V1.conc, Lf.conc, List.foldlM]
        · refine sat_bind (sat_emit (Q := fun r => r.bool ν = decide (y.int ν > x.int ν)) fun r h => A.bool_of_den h) fun q hq => ?_
          refine sat_bind mkIteI_sat fun z hz => sat_pure fun ρ a ha hc => ORok.now (V1.good_one.2 trivial) fun w _ => ?_
          rw [hq] at hz
          simp [execOp, hop, resolve, hf, hargs ρ a ha hc, invoke, builtin, Builtin.max_, Builtin.max2, V.conc, V1.conc, Lf.conc, List.foldlM, hz]
      · rename_i k x k' y
        refine sat_ite (fun hk => ?_) (fun _ => sat_fail)
        have := kEq_eq hk; subst this
        split
        · refine sat_pure fun ρ a ha hc => ORok.now (V1.good_one.2 trivial) fun w _ => ?_
          simp [execOp, hop, resolve, hf, hargs ρ a ha hc, invoke, builtin, Builtin.min_, Builtin.min2, V.conc, V1.conc, Lf.conc, List.foldlM]
        · refine sat_bind (sat_emit (Q := fun r => r.bool ν = decide (y.int ν < x.int ν)) fun r h => A.bool_of_den h) fun q hq => ?_
          refine sat_bind mkIteI_sat fun z hz => sat_pure fun ρ a ha hc => ORok.now (V1.good_one.2 trivial) fun w _ => ?_
          rw [hq] at hz
          simp [execOp, hop, resolve, hf, hargs ρ a ha hc, invoke, builtin, Builtin.min_, Builtin.min2, V.conc, V1.conc, Lf.conc, List.foldlM, hz]
      · rename_i v
        refine sat_bind (sat_lift (Q := fun t => c.argTypes[0]? = some t) fun a h => h) fun t ht => ?_
        refine sat_bind (evLen_sat (E := E)) fun z hz => sat_pure fun ρ a ha hc w hw _ => ⟨hz.1, .inl ?_⟩
        have := hz.2 ρ w w o.type c.argTypes ht hw
        simp [execOp, hop, resolve, hf, hargs ρ a ha hc, invoke, builtin, this]
      · rename_i s x
        refine sat_bind (sat_lift (Q := fun t => c.argTypes[0]? = some t) fun a h => h) fun t ht => ?_
        refine sat_bind (sat_lift (Q := fun t => c.argTypes[1]? = some t) fun a h => h) fun tx htx => ?_
        refine sat_mono (evAppendN_sat (E := E)) fun z hz ρ a ha hc => ?_
        refine NewRow.run (y := Builtin.append_ c.argTypes o.type #[s.conc ν ρ, x.conc ν ρ]) (fun w v w' h => ?_) (fun w hw => ?_)
        · simp [execOp, hop, resolve, hf, hargs ρ a ha hc, invoke, builtin, h]
        · obtain ⟨v, w', h1, h2⟩ := hz ρ w o.type hw
          refine ⟨v, w', ?_, h2⟩
          rw [← h1]
          simp only [Builtin.append_, ht, htx, List.getElem?_toArray, List.getElem?_cons_zero, List.getElem?_cons_succ]
      · exact sat_fail
    · exact sat_fail
  case buildSlice t len parts =>
    refine sat_bind (sat_lift (Q := fun v => rdParts r ctx parts.toList = some v) fun a h => h) fun ps hps => ?_
    by_cases hg : ∀ p ∈ ps, p.2.good ν
    · refine sat_mono (evBuildSlice_sat (E := E) hg) fun z hz ρ a ha hc => ?_
      have h1 := rdParts_spec ha hc hps
      have h3 : (parts.map fun (p : Nat × Operand) => (p.1, a.eval p.2)) = (ps.map fun p => (p.1, p.2.conc ν ρ)).toArray := by
        apply Array.ext'
        simpa using h1.1
      refine NewRow.run (y := Instr.buildSlice t len (ps.map fun p => (p.1, p.2.conc ν ρ)).toArray) (fun w v w' h => ?_) (hz ρ)
      rw [← h3] at h
      simp only [execOp, hop]
      simp [h]
    · refine sat_mono sat_true fun z _ ρ a ha hc => ?_
      exact absurd (rdParts_spec ha hc hps).2 hg
  case makeSlice t l c =>
    refine sat_bind (sat_lift (Q := fun v => rd r ctx l = some v) fun a h => h) fun v hv => ?_
    refine sat_bind (sat_lift (Q := fun v => rd r ctx c = some v) fun a h => h) fun u hu => ?_
    split
    · rename_i x y
      refine sat_mono (evMake_sat (E := E)) fun z hz ρ a ha hc => ?_
      have h1 := rd_spec ha hc hv
      have h2 := rd_spec ha hc hu
      refine NewRow.run (y := Instr.makeSlice t (x.conc ν ρ) (y.conc ν ρ)) (fun w v w' h => ?_) (hz ρ)
      simp only [V.conc, V1.conc] at h1 h2
      simp [execOp, hop, h1.2, h2.2, h]
    · exact sat_fail
  case slice t x low high max =>
    split
    · exact sat_fail
    · refine sat_bind (sat_lift (Q := fun v => rd r ctx x = some v) fun a h => h) fun v hv => ?_
      refine sat_bind (sat_lift (Q := fun v => leafOpt r ctx low = some v) fun a h => h) fun lo hlo => ?_
      refine sat_bind (sat_lift (Q := fun v => leafOpt r ctx high = some v) fun a h => h) fun hi hhi => ?_
      refine sat_mono (evSlice_sat (E := E)) fun z hz ρ a ha hc => ?_
      have h1 := rd_spec ha hc hv
      refine NewRow.run (y := Instr.sliceAt t (v.conc ν ρ) (lo.map (Lf.conc ν ρ)) (hi.map (Lf.conc ν ρ)) none) (fun w v w' h => ?_) (hz ρ)
      rw [← leafOpt_spec ha hc hlo, ← leafOpt_spec ha hc hhi] at h
      simp [execOp, hop, h1.2, h]
  all_goals exact sat_fail
end
end Go.Sx

namespace Go.Sx
open Go.RowKit
section
variable {P : Program} {I : World → Prop} {S : Sigs} {F : FEnv} {E : Env} {gK : Nat} {ν : Nat → DV}

theorem put_some (a : Act) (d : Nat) (v : Value) : a.put (some d) v = { a with tmps := a.tmps.setIfInBounds d v } := rfl

theorem glNoGuard_spec {d : Nat} {l : List GE} (h : glNoGuard d l = true) : ∀ e ∈ l, e.d ≠ d := by
  intro e he hd
  have := List.all_eq_true.1 h e he
  simp [hd] at this
theorem glDrop_spec {t : Nat} {l : List GE} {e : GE} (h : e ∈ glDrop t l) : e ∈ l ∧ e.t ≠ t := by
  unfold glDrop at h
  have := List.mem_filter.1 h
  refine ⟨this.1, fun ht => ?_⟩
  have h2 := this.2
  simp [ht] at h2

theorem put_sat {r : RS} {dst : Option Tmp} {ov : Option V} : M.sat F ν (r.put dst ov) (fun r' => r'.st.hp = r.st.hp ∧ ∀ ρ a (x : Value), ARel ν ρ r a → (∀ v, ov = some v → v.good ν ∧ x = v.conc ν ρ) →
    ARel ν ρ r' (a.put dst x)) := by
  unfold RS.put
  cases dst with
  | none => exact sat_pure ⟨rfl, fun ρ a x h _ => h⟩
  | some d =>
    refine sat_ite (fun hn => sat_pure ⟨rfl, fun ρ a x h hv => ?_⟩) (fun _ => sat_fail)
    have hn := glNoGuard_spec hn
    refine ⟨h.defers, by simp [put_some, setNth_length, h.size], fun t v ht => ?_, fun e he => ?_⟩
    · by_cases htd : d = t
      · subst htd
        simp only at ht
        rw [nth_setNth_same] at ht
        split at ht
        · rename_i hlt
          obtain ⟨h1, h2⟩ := hv v ht
          refine ⟨h1, ?_⟩
          rw [put_some, h2]
          simp [h.size, hlt]
        · cases ht
      · simp only at ht
        rw [nth_setNth_ne _ _ _ _ htd] at ht
        have := h.slot t v ht
        refine ⟨this.1, ?_⟩
        rw [put_some]
        simp only
        rw [Array.getElem?_setIfInBounds_ne htd]
        exact this.2
    · obtain ⟨h1, h2⟩ := glDrop_spec he
      have hd := hn e h1
      have := h.gl e h1
      rw [put_some]
      simp only
      rw [Array.getElem?_setIfInBounds_ne (Ne.symm hd), Array.getElem?_setIfInBounds_ne (Ne.symm h2)]
      exact this

theorem putG_sat {r : RS} {dst : Option Tmp} {v : V} {d : Nat} {want : Bool} : M.sat F ν (r.putG dst v d want) (fun r' => r'.st.hp = r.st.hp ∧ ∀ ρ a (x : Value), ARel ν ρ r a →
    (a.tmps[d]? = some (.bool want) → v.good ν ∧ x = v.conc ν ρ) → (a.tmps[d]? ≠ some (.bool want) → x = undef) → ARel ν ρ r' (a.put dst x)) := by
  unfold RS.putG
  cases dst with
  | none => exact sat_pure ⟨rfl, fun ρ a x h _ _ => h⟩
  | some t =>
    refine sat_ite (fun hc => sat_pure ⟨rfl, fun ρ a x h h1 h2 => ?_⟩) (fun _ => sat_fail)
    simp only [Bool.and_eq_true, Bool.not_eq_true', decide_eq_true_eq] at hc
    obtain ⟨⟨hn, htd⟩, hlt⟩ := hc
    have hn := glNoGuard_spec hn
    have htd : t ≠ d := by intro e; subst e; simp at htd
    have hd : (a.put (some t) x).tmps[d]? = a.tmps[d]? := by
      rw [put_some]; simp only; rw [Array.getElem?_setIfInBounds_ne htd]
    have ht : (a.put (some t) x).tmps[t]? = some x := by
      rw [put_some]; simp [h.size, hlt]
    refine ⟨h.defers, by simp [put_some, setNth_length, h.size], fun t' v' ht' => ?_, fun e he => ?_⟩
    · by_cases hne : t = t'
      · subst hne
        simp only at ht'
        rw [nth_setNth_same] at ht'
        split at ht' <;> cases ht'
      · simp only at ht'
        rw [nth_setNth_ne _ _ _ _ hne] at ht'
        have := h.slot t' v' ht'
        refine ⟨this.1, ?_⟩
        rw [put_some]; simp only; rw [Array.getElem?_setIfInBounds_ne hne]
        exact this.2
    · rcases List.mem_cons.1 he with rfl | he
      · simp only [hd, ht]
        exact ⟨fun hw => by obtain ⟨g1, g2⟩ := h1 hw; exact ⟨g1, by rw [g2]⟩, fun hw => by rw [h2 hw]⟩
      · obtain ⟨h3, h4⟩ := glDrop_spec he
        have hd := hn e h3
        have := h.gl e h3
        rw [put_some]
        simp only
        rw [Array.getElem?_setIfInBounds_ne (Ne.symm hd), Array.getElem?_setIfInBounds_ne (Ne.symm h4)]
        exact this

theorem glEntry_spec {t : Nat} : ∀ {l : List GE} {e : GE}, glEntry t l = some e → e ∈ l ∧ e.t = t
  | [], _, h => by simp [glEntry] at h
  | x :: l, e, h => by
    simp only [glEntry] at h
    split at h
    · cases h; exact ⟨by simp, Nat.eq_of_beq_eq_true ‹_›⟩
    · obtain ⟨h1, h2⟩ := glEntry_spec h
      exact ⟨List.mem_cons_of_mem _ h1, h2⟩

def GInfo (ν : Nat → DV) (a : Act) (d : Nat) (want : Bool) : Option (Ctx × List (A × Bool)) → Prop
  | none => a.tmps[d]? ≠ some (.bool want)
  | some (ctx, cs) => (a.tmps[d]? = some (.bool want) → CtxOk ctx a ∧ ∀ c ∈ cs, c.1.bool ν = c.2) ∧ (ctx = [] → a.tmps[d]? = some (.bool want)) ∧ ((∀ c ∈ cs, c.1.bool ν = c.2) → a.tmps[d]? = some (.bool want))

theorem guardInfo_spec {ρ : Nat → Loc} {r : RS} {a : Act} (h : ARel ν ρ r a) : ∀ (n d : Nat) (want : Bool) {res : Option (Ctx × List (A × Bool))}, guardInfo r n d want = some res → GInfo ν a d want res
  | 0, _, _, _, hg => by simp [guardInfo] at hg
  | n + 1, d, want, res, hg => by
    simp only [guardInfo] at hg
    split at hg
    · rename_i x hs
      have hv := (h.slot d _ hs).2
      split at hg
      · rename_i hb
        have := beqB_eq hb; subst this
        cases hg
        exact ⟨fun _ => ⟨fun p hp => by simp at hp, fun c hc => by simp at hc⟩, fun _ => hv, fun _ => hv⟩
      · rename_i hb
        cases hg
        have hne := beqB_ne hb
        intro heq
        rw [hv] at heq
        simp [V.conc, V1.conc, Lf.conc] at heq
        exact hne heq
    · rename_i x _ hs
      have hv := (h.slot d _ hs).2
      cases hg
      refine ⟨fun heq => ⟨fun p hp => by simp at hp; subst hp; exact heq, fun c hc => ?_⟩, fun hc => by simp at hc, fun hc => ?_⟩
      · simp at hc; subst hc
        rw [hv] at heq
        simpa [V.conc, V1.conc, Lf.conc] using heq
      · have := hc (x, want) (by simp)
        rw [hv]
        simp only at this
        simp [V.conc, V1.conc, Lf.conc, this]
    · rename_i x hs
      have hv := (h.slot d _ hs).2
      cases hg
      intro heq
      rw [hv] at heq
      simp [V.conc, V1.conc, Lf.conc] at heq
    · cases hg
    · split at hg
      · rename_i e he
        obtain ⟨hmem, rfl⟩ := glEntry_spec he
        have hgl := h.gl e hmem
        split at hg
        · rename_i x hev
          split at hg
          · rename_i ctx cs hrec
            have ih := guardInfo_spec h n e.d e.want hrec
            have hguard : ∀ b, a.tmps[e.t]? = some (.bool b) → a.tmps[e.d]? = some (.bool e.want) := fun b hb => by
              by_cases hw : a.tmps[e.d]? = some (.bool e.want)
              · exact hw
              · have := hgl.2 hw
                rw [this] at hb
                simp [undef] at hb
            split at hg
            · rename_i y
              split at hg
              · rename_i hb
                have := beqB_eq hb; subst this
                cases hg
                refine ⟨fun heq => ?_, fun hc => by simp at hc, fun hc => ?_⟩
                · have h1 := ih.1 (hguard _ heq)
                  refine ⟨fun p hp => ?_, h1.2⟩
                  rcases List.mem_cons.1 hp with rfl | hp
                  · exact heq
                  · exact h1.1 p hp
                · have := (hgl.1 (ih.2.2 hc)).2
                  rw [this, hev]
                  rfl
              · rename_i hb
                cases hg
                intro heq
                have h1 := (hgl.1 (hguard _ heq)).2
                rw [h1, hev] at heq
                simp [V.conc, V1.conc, Lf.conc] at heq
                exact beqB_ne hb heq
            · cases hg
              refine ⟨fun heq => ?_, fun hc => by simp at hc, fun hc => ?_⟩
              · have h1 := ih.1 (hguard _ heq)
                refine ⟨fun p hp => ?_, fun c hc => ?_⟩
                · rcases List.mem_cons.1 hp with rfl | hp
                  · exact heq
                  · exact h1.1 p hp
                · rcases List.mem_cons.1 hc with rfl | hc
                  · have h2 := (hgl.1 (hguard _ heq)).2
                    rw [h2, hev] at heq
                    simpa [V.conc, V1.conc, Lf.conc] using heq
                  · exact h1.2 c hc
              · have := (hgl.1 (ih.2.2 fun c hcm => hc c (List.mem_cons_of_mem _ hcm))).2
                rw [this, hev]
                have h2 := hc (x, want) (by simp)
                simp only at h2
                simp [V.conc, V1.conc, Lf.conc, h2]
          · rename_i hrec
            cases hg
            have ih := guardInfo_spec h n e.d e.want hrec
            intro heq
            have := hgl.2 ih
            rw [this] at heq
            simp [undef] at heq
          · cases hg
        · cases hg
      · cases hg

theorem wanted_spec {o : Oper} {ops : Array Oper} {a : Act} {j d : Nat} {want : Bool} (hg : o.guard = some (j, want)) (hd : (ops[j]?).bind (·.dst) = some d) :
    Region.wanted o (yielded ops a.tmps) = true ↔ a.tmps[d]? = some (.bool want) := by
  simp only [Region.wanted, hg, yielded, hd, Option.bind_some]
  cases ht : a.tmps[d]? with
  | none => simp
  | some v => cases v <;> simp

def StepOK (P : Program) (ν : Nat → DV) (E : Env) (ops : Array Oper) (o : Oper) (r r' : RS) : Prop :=
  ∀ ρ a w, RR ν E ρ r a w → ∀ (K : Act → World → Prop) (Q : Exit → Act → World → Prop), (∀ ρ' a' w', RR ν E ρ' r' a' w' → K a' w') →
    if Region.wanted o (yielded ops a.tmps) = true then o.wp P a w K Q else K (a.put o.dst undef) w

def QuietOK (P : Program) (ν : Nat → DV) (E : Env) (ops : Array Oper) (o : Oper) (r r' : RS) : Prop :=
  r'.st.hp = r.st.hp ∧ ∀ ρ a, ARel ν ρ r a → (∃ w, HS E ν ρ r.st.hp w) → ∀ C : World → Prop, C = (fun w => HS E ν ρ r.st.hp w) →
    if Region.wanted o (yielded ops a.tmps) = true then ∃ v, (∀ w, C w → o.quietAt P a C w v) ∧ ARel ν ρ r' (a.put o.dst v) else ARel ν ρ r' (a.put o.dst undef)

theorem wp_of_val {o : Oper} {a : Act} {w : World} {v : Value} {K : Act → World → Prop} {Q : Exit → Act → World → Prop} (h : RunsVal P (execOp a.eval o) w v)
    (hk : ∀ w', Below w.heap.size w w' → K (a.put o.dst v) w') : o.wp P a w K Q := by
  unfold Oper.wp
  rcases h with h | ⟨f, args, h, hc⟩
  · rw [h]; exact hk w (Below.refl _ _)
  · rw [h]
    exact hc.mono fun e w' ⟨he, hb⟩ => by subst he; exact hk w' hb

theorem upon_skip {o : Oper} {a : Act} {w w' : World} {K : Act → World → Prop} {Q : Exit → Act → World → Prop} (h : (execOp a.eval o).run P w = .ok .skip w') (hk : K (a.put o.dst undef) w') : o.wp P a w K Q := by
  unfold Oper.wp
  rw [h]; exact hk

theorem ARel.ext {ρ ρ' : Nat → Loc} {r : RS} {a : Act} {n : Nat} (h : ARel ν ρ r a) (hρ : ∀ j, j < n → ρ' j = ρ j) (h1 : r.st.sl.all (optAll (V.lt n)) = true) (h2 : r.gl.all (fun e => e.v.lt n) = true) (hp : List (Option Blk)) :
    ARel ν ρ' ⟨⟨r.st.sl, hp⟩, r.gl⟩ a := by
  have hl : ∀ l : Lf, l.lt n = true → l.conc ν ρ' = l.conc ν ρ := fun l hl => by
    cases l <;> simp only [Lf.lt, decide_eq_true_eq] at hl <;> simp only [Lf.conc] <;> first | rw [hρ _ hl] | rw [capsConc_lt hl hρ] | (rename_i t _ _; cases t <;> rfl)
  have hv1 : ∀ v : V1, v.lt n = true → v.conc ν ρ' = v.conc ν ρ := fun v hv => by
    cases v with
    | one l => exact hl l (by simpa [V1.lt, V1.cells] using hv)
    | agg l =>
      simp only [V1.conc]
      congr 2
      exact List.map_congr_left fun x hx => hl x (List.all_eq_true.1 hv x hx)
  have hv : ∀ v : V, v.lt n = true → v.conc ν ρ' = v.conc ν ρ := fun v hv => by
    cases v with
    | s v => exact hv1 v hv
    | t l =>
      simp only [V.conc]
      congr 2
      exact List.map_congr_left fun x hx => hv1 x (List.all_eq_true.1 hv x hx)
  refine ⟨h.defers, h.size, fun t v ht => ?_, fun e he => ?_⟩
  · obtain ⟨g1, g2⟩ := h.slot t v ht
    exact ⟨g1, by rw [hv v (all_nth_of h1 ht)]; exact g2⟩
  · have := h.gl e he
    rw [hv e.v (List.all_eq_true.1 h2 e he)]
    exact this

theorem stepOR_step (hI : ∀ w, Fr E.W E.w0 w → I w) {ops : Array Oper} {o : Oper} {r : RS} {x : OR} (hw : ∀ ρ a, ARel ν ρ r a → Region.wanted o (yielded ops a.tmps) = true)
    (hx : ∀ ρ a, ARel ν ρ r a → ORok P I E ν ρ r.st.hp (execOp a.eval o) x) : M.sat F ν (stepOR false r o.dst x) (StepOK P ν E ops o r) := by
  cases x with
  | val v =>
    refine sat_mono put_sat fun r' hr' ρ a w hrr K Q hK => ?_
    rw [if_pos (hw ρ a hrr.act)]
    obtain ⟨hg, hrun⟩ := hx ρ a hrr.act w hrr.hs (hI w hrr.hs.fr)
    refine wp_of_val hrun fun w' hb => hK ρ _ w' ?_
    have := hrr.below hb
    exact ⟨hr'.2 ρ a _ hrr.act (fun v' hv' => by cases hv'; exact ⟨hg, rfl⟩), by rw [hr'.1]; exact this.hs⟩
  | hp v hp' =>
    unfold stepOR
    refine sat_ite (fun hc => ?_) (fun _ => sat_fail)
    simp only [Bool.not_false, Bool.true_and, Bool.and_eq_true] at hc
    refine sat_mono put_sat fun r' hr' ρ a w hrr K Q hK => ?_
    rw [if_pos (hw ρ a hrr.act)]
    have hrun := hx ρ a hrr.act w hrr.hs (hI w hrr.hs.fr)
    have fin : ∀ (nv : Option Value) (y : Value) (w' : World), (∀ z, nv = some z → y = z) → (∃ ρ' : Nat → Loc, (∀ j, j < r.st.hp.length → ρ' j = ρ j) ∧ HS E ν ρ' hp' w' ∧ ∀ u, v = some u → u.good ν ∧ nv = some (u.conc ν ρ')) → K (a.put o.dst y) w' := by
      rintro nv y w' hy ⟨ρ', k1, k2, k3⟩
      refine hK ρ' _ w' ⟨hr'.2 ρ' a y (hrr.act.ext k1 hc.1 hc.2 hp') (fun u hu => ?_), by rw [hr'.1]; exact k2⟩
      obtain ⟨g1, g2⟩ := k3 u hu
      exact ⟨g1, hy _ g2⟩
    rcases hrun with ⟨z, w', h1, h2⟩ | ⟨w', h1, h2⟩ | ⟨f, args, h1, h2⟩
    · unfold Oper.wp
      rw [h1]
      exact fin _ z w' (fun z' e => by cases e; rfl) h2
    · exact upon_skip h1 (fin _ undef w' (fun z' e => by cases e) h2)
    · unfold Oper.wp
      rw [h1]
      exact h2.mono fun e w' ⟨z, he, h3⟩ => by subst he; exact fin _ z w' (fun z' e => by cases e; rfl) h3

theorem quiet_of_val {o : Oper} {a : Act} {ρ : Nat → Loc} {hp : List (Option Blk)} {v : Value} {C : World → Prop} (hC : C = fun w => HS E ν ρ hp w)
    (h : ∀ w, HS E ν ρ hp w → RunsVal P (execOp a.eval o) w v) : ∀ w, C w → o.quietAt P a C w v := by
  intro w hw
  have hw' : HS E ν ρ hp w := by rw [hC] at hw; exact hw
  unfold Oper.quietAt
  rcases h w hw' with h | ⟨f, args, h, hc⟩
  · rw [h]; exact ⟨rfl, rfl⟩
  · rw [h]
    refine ⟨rfl, hc.mono fun e w'' ⟨he, hb⟩ => ⟨he, ?_⟩⟩
    rw [hC]
    exact hw'.of_below hb

theorem stepOR_quiet (hI : ∀ w, Fr E.W E.w0 w → I w) {ops : Array Oper} {o : Oper} {r : RS} {x : OR} (hw : ∀ ρ a, ARel ν ρ r a → Region.wanted o (yielded ops a.tmps) = true)
    (hx : ∀ ρ a, ARel ν ρ r a → ORok P I E ν ρ r.st.hp (execOp a.eval o) x) : M.sat F ν (stepOR true r o.dst x) (QuietOK P ν E ops o r) := by
  cases x with
  | val v =>
    refine sat_mono put_sat fun r' hr' => ⟨hr'.1, fun ρ a ha hex C hC => ?_⟩
    rw [if_pos (hw ρ a ha)]
    obtain ⟨w, hw1⟩ := hex
    refine ⟨v.conc ν ρ, quiet_of_val hC fun w hw => (hx ρ a ha w hw (hI w hw.fr)).2, hr'.2 ρ a _ ha fun v' hv' => ?_⟩
    cases hv'; exact ⟨(hx ρ a ha w hw1 (hI w hw1.fr)).1, rfl⟩
  | hp v hp' => unfold stepOR; simp only [Bool.not_true, Bool.false_and, Bool.false_eq_true, if_false]; exact sat_fail

theorem stepORg_both (hI : ∀ w, Fr E.W E.w0 w → I w) {ops : Array Oper} {o : Oper} {r : RS} {d : Nat} {want : Bool} {x : OR} (hw : ∀ (a : Act), Region.wanted o (yielded ops a.tmps) = true ↔ a.tmps[d]? = some (.bool want))
    (hx : ∀ ρ a, ARel ν ρ r a → a.tmps[d]? = some (.bool want) → ORok P I E ν ρ r.st.hp (execOp a.eval o) x) :
    M.sat F ν (stepORg r o.dst d want x) (fun r' => StepOK P ν E ops o r r' ∧ QuietOK P ν E ops o r r') := by
  cases x with
  | val v =>
    refine sat_mono putG_sat fun r' hr' => ⟨fun ρ a w hrr K Q hK => ?_, hr'.1, fun ρ a ha hex C hC => ?_⟩
    · by_cases hg : Region.wanted o (yielded ops a.tmps) = true
      · rw [if_pos hg]
        have hd := (hw a).1 hg
        obtain ⟨hgood, hrun⟩ := hx ρ a hrr.act hd w hrr.hs (hI w hrr.hs.fr)
        refine wp_of_val hrun fun w' hb => hK ρ _ w' ?_
        have := hrr.below hb
        exact ⟨hr'.2 ρ a _ hrr.act (fun _ => ⟨hgood, rfl⟩) (fun hn => absurd hd hn), by rw [hr'.1]; exact this.hs⟩
      · rw [if_neg hg]
        have hd : a.tmps[d]? ≠ some (.bool want) := fun h => hg ((hw a).2 h)
        exact hK ρ _ w ⟨hr'.2 ρ a _ hrr.act (fun h => absurd h hd) (fun _ => rfl), by rw [hr'.1]; exact hrr.hs⟩
    · by_cases hg : Region.wanted o (yielded ops a.tmps) = true
      · rw [if_pos hg]
        have hd := (hw a).1 hg
        obtain ⟨w, hw1⟩ := hex
        exact ⟨v.conc ν ρ, quiet_of_val hC fun w hw => (hx ρ a ha hd w hw (hI w hw.fr)).2, hr'.2 ρ a _ ha (fun _ => ⟨(hx ρ a ha hd w hw1 (hI w hw1.fr)).1, rfl⟩) (fun hn => absurd hd hn)⟩
      · rw [if_neg hg]
        have hd : a.tmps[d]? ≠ some (.bool want) := fun h => hg ((hw a).2 h)
        exact hr'.2 ρ a _ ha (fun h => absurd h hd) (fun _ => rfl)
  | hp v hp' => exact sat_fail

theorem mergeAs_sat {c : A} : ∀ (ts : List Ty) (as bs : List A), M.sat F ν (mergeAs c ts as bs) (fun r => (c.bool ν = true → PEq ν ν ts as r) ∧ (c.bool ν = false → PEq ν ν ts bs r))
  | .i :: ts, a :: l, b :: l' => by
    unfold mergeAs
    refine sat_bind mkIteI_sat fun x hx => sat_bind (mergeAs_sat ts l l') fun r hr => sat_pure ⟨fun h => ⟨?_, hr.1 h⟩, fun h => ⟨?_, hr.2 h⟩⟩
    · show a.int ν = x.int ν
      rw [hx, h]; rfl
    · show b.int ν = x.int ν
      rw [hx, h]; rfl
  | .b :: ts, a :: l, b :: l' => by
    unfold mergeAs
    refine sat_bind mkIteB_sat fun x hx => sat_bind (mergeAs_sat ts l l') fun r hr => sat_pure ⟨fun h => ⟨?_, hr.1 h⟩, fun h => ⟨?_, hr.2 h⟩⟩
    · show a.bool ν = x.bool ν
      rw [hx, h]; rfl
    · show b.bool ν = x.bool ν
      rw [hx, h]; rfl
  | .l :: ts, a :: l, b :: l' => by
    unfold mergeAs
    refine sat_bind mkIteL_sat fun x hx => sat_bind (mergeAs_sat ts l l') fun r hr => sat_pure ⟨fun h => ⟨?_, hr.1 h⟩, fun h => ⟨?_, hr.2 h⟩⟩
    · show a.cells ν = x.cells ν
      rw [hx, h]; rfl
    · show b.cells ν = x.cells ν
      rw [hx, h]; rfl
  | [], [], [] => sat_pure ⟨fun _ => trivial, fun _ => trivial⟩
  | [], [], _ :: _ => sat_fail
  | [], _ :: _, _ => sat_fail
  | .i :: _, [], _ => sat_fail
  | .i :: _, _ :: _, [] => sat_fail
  | .b :: _, [], _ => sat_fail
  | .b :: _, _ :: _, [] => sat_fail
  | .l :: _, [], _ => sat_fail
  | .l :: _, _ :: _, [] => sat_fail

theorem keeps_mono {m : List Nat} {n k : Nat} (h : keeps m n = true) (hk : k ≤ n) : keeps m k = true := by
  have := keeps_spec h
  induction k with
  | zero => rfl
  | succ k ih => simp only [keeps, Bool.and_eq_true]; exact ⟨ih (by omega), by rw [this k (by omega)]; exact Nat.beq_refl _⟩

theorem mergeSt_sat2 {n0 : Nat} (hn : E.n0 ≤ n0) {c : A} {x y : St} : M.sat F ν (mergeSt n0 c x y) (fun s => ∀ ρ a w, (c.bool ν = true → RR ν E ρ ⟨x, []⟩ a w → ∃ ρ', (∀ j, j < n0 → ρ' j = ρ j) ∧ RR ν E ρ' ⟨s, []⟩ a w) ∧
    (c.bool ν = false → RR ν E ρ ⟨y, []⟩ a w → ∃ ρ', (∀ j, j < n0 → ρ' j = ρ j) ∧ RR ν E ρ' ⟨s, []⟩ a w)) := by
  unfold mergeSt
  dsimp only
  generalize joinPat x y = p
  generalize guess p.tys.length p.st x = gx
  generalize guess p.tys.length p.st y = gy
  refine sat_ite (fun hc => ?_) (fun _ => sat_fail)
  simp only [Bool.and_eq_true] at hc
  obtain ⟨⟨⟨⟨⟨h1, h2⟩, h3⟩, h4⟩, h5⟩, h6⟩ := hc
  have h6 := Nat.le_of_ble_eq_true h6
  refine sat_bind (mergeAs_sat _ _ _) fun ops hops => sat_pure fun ρ a w => ⟨fun hb h => ?_, fun hb h => ?_⟩
  · exact ⟨fun j => ρ (rnm gx.2 j), fun j hj => congrArg ρ (keeps_spec h4 j hj), RR.inst (fun _ _ => rfl) (hops.1 hb) h1 (h.sub h2 (keeps_mono h4 hn) (by simp only [St.inst, List.length_map]; omega))⟩
  · exact ⟨fun j => ρ (rnm gy.2 j), fun j hj => congrArg ρ (keeps_spec h5 j hj), RR.inst (fun _ _ => rfl) (hops.2 hb) h1 (h.sub h3 (keeps_mono h5 hn) (by simp only [St.inst, List.length_map]; omega))⟩

theorem conj_sat : ∀ (cs : List (A × Bool)), M.sat F ν (conj cs) (fun c => c.bool ν = true ↔ ∀ p ∈ cs, p.1.bool ν = p.2)
  | [] => sat_pure ⟨fun _ p hp => (by cases hp), fun _ => rfl⟩
  | (a, b) :: l => by
    unfold conj
    refine sat_bind (R := fun x => x.bool ν = true ↔ a.bool ν = b) ?_ fun x hx => sat_bind (conj_sat l) fun r hr => sat_mono mkAnd_sat fun c hc => ?_
    · cases b
      · exact sat_mono mkNot_sat fun r hr => by rw [hr]; simp
      · exact sat_pure Iff.rfl
    · rw [hc, Bool.and_eq_true, hx, hr]
      constructor
      · rintro ⟨h1, h2⟩ p hp
        rcases List.mem_cons.1 hp with rfl | hp
        · exact h1
        · exact h2 p hp
      · intro h
        exact ⟨h (a, b) (by simp), fun p hp => h p (List.mem_cons_of_mem _ hp)⟩

theorem V.conc_agree {n : Nat} {ρ ρ' : Nat → Loc} (hρ : ∀ j, j < n → ρ' j = ρ j) {v : V} (hv : v.lt n = true) : v.conc ν ρ' = v.conc ν ρ := by
  have hl : ∀ l : Lf, l.lt n = true → l.conc ν ρ' = l.conc ν ρ := fun l hl => by
    cases l <;> simp only [Lf.lt, decide_eq_true_eq] at hl <;> simp only [Lf.conc] <;> first | rw [hρ _ hl] | rw [capsConc_lt hl hρ] | (rename_i t _ _; cases t <;> rfl)
  have hv1 : ∀ v : V1, v.lt n = true → v.conc ν ρ' = v.conc ν ρ := fun v hv => by
    cases v with
    | one l => exact hl l (by simpa [V1.lt, V1.cells] using hv)
    | agg l =>
      simp only [V1.conc]
      congr 2
      exact List.map_congr_left fun x hx => hl x (List.all_eq_true.1 hv x hx)
  cases v with
  | s v => exact hv1 v hv
  | t l =>
    simp only [V.conc]
    congr 2
    exact List.map_congr_left fun x hx => hv1 x (List.all_eq_true.1 hv x hx)

theorem HS.pushNone {ρ : Nat → Loc} {hp : List (Option Blk)} {w : World} (h : HS E ν ρ hp w) : HS E ν ρ (hp ++ [none]) w := by
  have hn : ∀ j bk, nth (hp ++ [none]) j = some bk → nth hp j = some bk := fun j bk hj => by
    rw [nth_append] at hj
    split at hj
    · exact hj
    · cases hk : j - hp.length with
      | zero => rw [hk] at hj; cases hj
      | succ k => rw [hk] at hj; cases k <;> cases hj
  exact ⟨⟨fun j bk hj => h.heap.blk j bk (hn j bk hj), fun j j' bk bk' hj ho hj' => h.heap.apart j j' bk bk' (hn j bk hj) ho (hn j' bk' hj')⟩, fun j bk hj => h.old j bk (hn j bk hj), h.fr, by rw [List.length_append]; have := h.len; omega, h.keep⟩
theorem hpLt_push2 {hp : List (Option Blk)} {b : Option Blk} (h : hpLt hp = true) (hb : b = none ∨ ∃ o ts a, b = some (.v o ts a)) : hpLt (hp ++ [b]) = true := by
  unfold hpLt at h ⊢
  rw [List.all_append, Bool.and_eq_true, List.length_append]
  refine ⟨List.all_eq_true.2 fun y hy => ?_, ?_⟩
  · have := List.all_eq_true.1 h y hy
    cases y with
    | none => rfl
    | some y => exact Blk.lt_mono (Nat.le_add_right _ _) this
  · rcases hb with rfl | ⟨o, ts, a, rfl⟩ <;> rfl
theorem condRows_sat : ∀ (l : List (Option Blk)), M.sat F ν (condRows l) (fun t => t.length = l.length ∧ ∀ ρ hp w, HS E ν ρ hp w → hpLt hp = true → ∃ ρ', (∀ j, j < hp.length → ρ' j = ρ j) ∧ HS E ν ρ' (hp ++ t) w)
  | [] => sat_pure ⟨rfl, fun ρ hp w h _ => ⟨ρ, fun _ _ => rfl, by rw [List.append_nil]; exact h⟩⟩
  | b :: l => by
    have skip : ∀ {r : List (Option Blk)}, (r.length = l.length ∧ ∀ ρ hp w, HS E ν ρ hp w → hpLt hp = true → ∃ ρ', (∀ j, j < hp.length → ρ' j = ρ j) ∧ HS E ν ρ' (hp ++ r) w) →
        ((none :: r : List (Option Blk)).length = (b :: l).length ∧ ∀ ρ hp w, HS E ν ρ hp w → hpLt hp = true → ∃ ρ', (∀ j, j < hp.length → ρ' j = ρ j) ∧ HS E ν ρ' (hp ++ none :: r) w) := fun {r} hr =>
      ⟨by simp [hr.1], fun ρ hp w h hl => by
        obtain ⟨ρ', h1, h2⟩ := hr.2 ρ (hp ++ [none]) w h.pushNone (hpLt_push2 hl (.inl rfl))
        exact ⟨ρ', fun j hj => h1 j (by rw [List.length_append]; omega), by rw [List.append_cons]; exact h2⟩⟩
    unfold condRows
    split
    · rename_i o ts a
      refine sat_ite (fun hc => ?_) (fun _ => sat_bind (condRows_sat l) fun r hr => sat_pure (skip hr))
      have hpos : 0 < ts.length := Nat.le_of_ble_eq_true hc
      refine sat_bind (sat_emit (Q := fun q => q.cells ν = []) fun q h => A.cells_of_den h) fun q hq => sat_bind (condRows_sat l) fun r hr => sat_pure ⟨by simp [hr.1], fun ρ hp w hw hl => ?_⟩
      have hw1 := hw.fresh (w' := w) (bk := .v o ts q) (r := ⟨0, 0, true, 0, 0, none⟩) hl (Below.refl _ w)
        (⟨fun _ => ⟨rfl, rfl⟩, fun e => (by cases e), hpos, by rw [hq]; simp, Nat.le_refl _, fun j hj => by rw [hq] at hj; simp at hj, fun _ e => (by cases e), fun _ e => (by cases e)⟩ : VRel E w ⟨0, 0, true, 0, 0, none⟩ o ts (q.cells ν)) (.inl rfl)
      obtain ⟨ρ', h1, h2⟩ := hr.2 _ _ w hw1 (hpLt_push2 hl (.inr ⟨_, _, _, rfl⟩))
      refine ⟨ρ', fun j hj => ?_, by rw [List.append_cons]; exact h2⟩
      rw [h1 j (by rw [List.length_append]; omega), ext_lt hj]
    · exact sat_bind (condRows_sat l) fun r hr => sat_pure (skip hr)
theorem stepORgHp_step (hI : ∀ w, Fr E.W E.w0 w → I w) {ops : Array Oper} {o : Oper} {r : RS} {d n0 : Nat} (hEn : n0 = E.n0) {want : Bool} {cs : List (A × Bool)} {v : Option V} {hp' : List (Option Blk)}
    (hw : ∀ (a : Act), Region.wanted o (yielded ops a.tmps) = true ↔ a.tmps[d]? = some (.bool want)) (hg : ∀ ρ a, ARel ν ρ r a → (a.tmps[d]? = some (.bool want) ↔ ∀ c ∈ cs, c.1.bool ν = c.2))
    (hx : ∀ ρ a, ARel ν ρ r a → a.tmps[d]? = some (.bool want) → ORok P I E ν ρ r.st.hp (execOp a.eval o) (.hp v hp')) : M.sat F ν (stepORgHp r o.dst d want cs n0 v hp') (StepOK P ν E ops o r) := by
  unfold stepORgHp
  refine sat_ite (fun hc => ?_) (fun _ => sat_fail)
  simp only [Bool.and_eq_true] at hc
  obtain ⟨⟨⟨⟨hsl, hgl⟩, hle⟩, hle2⟩, hlt⟩ := hc
  have hle := Nat.le_of_ble_eq_true hle
  have hle2 := Nat.le_of_ble_eq_true hle2
  rw [hEn] at hle
  refine sat_bind (conj_sat cs) fun c hcb => sat_bind (condRows_sat (E := E) _) fun t ht => sat_bind (mergeSt_sat2 (E := E) (Nat.le_trans hle hle2)) fun s hs => ?_
  -- the state that is joined
  have join : ∀ ρ a w, RR ν E ρ r a w → (a.tmps[d]? = some (.bool want) → ∀ ρ1 w1, (∀ j, j < r.st.hp.length → ρ1 j = ρ j) → HS E ν ρ1 hp' w1 → ∃ ρ2, (∀ j, j < hp'.length → ρ2 j = ρ1 j) ∧ RR ν E ρ2 ⟨s, r.gl⟩ a w1) ∧
      (a.tmps[d]? ≠ some (.bool want) → ∃ ρ2, (∀ j, j < r.st.hp.length → ρ2 j = ρ j) ∧ RR ν E ρ2 ⟨s, r.gl⟩ a w) := by
    intro ρ a w hrr
    have glue : ∀ ρ2 w2, (∀ j, j < r.st.hp.length → ρ2 j = ρ j) → RR ν E ρ2 ⟨s, []⟩ a w2 → RR ν E ρ2 ⟨s, r.gl⟩ a w2 := fun ρ2 w2 h1 h2 =>
      ⟨⟨h2.act.defers, h2.act.size, h2.act.slot, fun e he => by
        have := hrr.act.gl e he
        rw [V.conc_agree h1 (List.all_eq_true.1 hgl e he)]
        exact this⟩, h2.hs⟩
    refine ⟨fun hd ρ1 w1 h1 h2 => ?_, fun hd => ?_⟩
    · have hext := hrr.act.ext h1 hsl hgl hp'
      obtain ⟨ρ2, e1, e2⟩ := (hs ρ1 a w1).1 (hcb.2 ((hg ρ a hrr.act).1 hd)) ⟨⟨hext.defers, hext.size, hext.slot, fun e he => by cases he⟩, h2⟩
      exact ⟨ρ2, e1, glue ρ2 w1 (fun j hj => (e1 j (by omega)).trans (h1 j hj)) e2⟩
    · have hcf : c.bool ν = false := by
        cases hc : c.bool ν with
        | false => rfl
        | true => exact absurd ((hg ρ a hrr.act).2 (hcb.1 hc)) hd
      obtain ⟨ρ1, h1, h2⟩ := ht.2 ρ r.st.hp w hrr.hs hlt
      have hext := hrr.act.ext h1 hsl hgl (r.st.hp ++ t)
      obtain ⟨ρ2, e1, e2⟩ := (hs ρ1 a w).2 hcf ⟨⟨hext.defers, hext.size, hext.slot, fun e he => by cases he⟩, h2⟩
      have e3 : ∀ j, j < r.st.hp.length → ρ2 j = ρ j := fun j hj => (e1 j (by omega)).trans (h1 j hj)
      exact ⟨ρ2, e3, glue ρ2 w e3 e2⟩
  cases v with
  | none =>
    refine sat_mono put_sat fun r' hr' ρ a w hrr K Q hK => ?_
    obtain ⟨j1, j2⟩ := join ρ a w hrr
    have fin : ∀ ρ2 (y : Value) w2, RR ν E ρ2 ⟨s, r.gl⟩ a w2 → K (a.put o.dst y) w2 := fun ρ2 y w2 h => hK ρ2 _ w2 ⟨hr'.2 ρ2 a y h.act (fun u hu => by cases hu), by rw [hr'.1]; exact h.hs⟩
    split
    · rename_i hwt
      have hd := (hw a).1 hwt
      rcases hx ρ a hrr.act hd w hrr.hs (hI w hrr.hs.fr) with ⟨z, w', h1, ρ1, h2, h3, _⟩ | ⟨w', h1, ρ1, h2, h3, _⟩ | ⟨f, args, h1, h2⟩
      · obtain ⟨ρ2, _, h4⟩ := j1 hd ρ1 w' h2 h3
        unfold Oper.wp
        rw [h1]
        exact fin ρ2 z w' h4
      · obtain ⟨ρ2, _, h4⟩ := j1 hd ρ1 w' h2 h3
        exact upon_skip h1 (fin ρ2 undef w' h4)
      · unfold Oper.wp
        rw [h1]
        exact h2.mono fun e w' ⟨z, he, ρ1, h2, h3, _⟩ => by
          subst he
          obtain ⟨ρ2, _, h4⟩ := j1 hd ρ1 w' h2 h3
          exact fin ρ2 z w' h4
    · rename_i hwt
      obtain ⟨ρ2, _, h4⟩ := j2 fun h => hwt ((hw a).2 h)
      exact fin ρ2 undef w h4
  | some v =>
    refine sat_ite (fun hv0 => ?_) (fun _ => sat_fail)
    refine sat_mono putG_sat fun r' hr' ρ a w hrr K Q hK => ?_
    obtain ⟨j1, j2⟩ := join ρ a w hrr
    split
    · rename_i hwt
      have hd := (hw a).1 hwt
      have fin : ∀ ρ1 ρ2 (y : Value) w2, (∀ j, j < hp'.length → ρ2 j = ρ1 j) → RR ν E ρ2 ⟨s, r.gl⟩ a w2 → v.good ν → y = v.conc ν ρ1 → K (a.put o.dst y) w2 := fun ρ1 ρ2 y w2 hag h hg hy =>
        hK ρ2 _ w2 ⟨hr'.2 ρ2 a y h.act (fun _ => ⟨hg, by rw [hy]; exact V.conc_agree (fun j hj => (hag j hj).symm) hv0⟩) (fun hn => absurd hd hn), by rw [hr'.1]; exact h.hs⟩
      rcases hx ρ a hrr.act hd w hrr.hs (hI w hrr.hs.fr) with ⟨z, w', h1, ρ1, h2, h3, h5⟩ | ⟨w', h1, ρ1, h2, h3, h5⟩ | ⟨f, args, h1, h2⟩
      · obtain ⟨ρ2, hag, h4⟩ := j1 hd ρ1 w' h2 h3
        obtain ⟨h6, h7⟩ := h5 v rfl
        unfold Oper.wp
        rw [h1]
        exact fin ρ1 ρ2 z w' hag h4 h6 (Option.some.inj h7)
      · obtain ⟨h6, h7⟩ := h5 v rfl
        cases h7
      · unfold Oper.wp
        rw [h1]
        exact h2.mono fun e w' ⟨z, he, ρ1, h2, h3, h5⟩ => by
          subst he
          obtain ⟨ρ2, hag, h4⟩ := j1 hd ρ1 w' h2 h3
          obtain ⟨h6, h7⟩ := h5 v rfl
          exact fin ρ1 ρ2 z w' hag h4 h6 (Option.some.inj h7)
    · rename_i hwt
      have hd : a.tmps[d]? ≠ some (.bool want) := fun h => hwt ((hw a).2 h)
      obtain ⟨ρ2, _, h4⟩ := j2 hd
      exact hK ρ2 _ w ⟨hr'.2 ρ2 a undef h4.act (fun h => absurd h hd) (fun _ => rfl), by rw [hr'.1]; exact h4.hs⟩

theorem evOper_sat (hS : SigsOK P I gK S F) (hE : E.Ok gK) (hn0 : S.n0 = E.n0) (hI : ∀ w, Fr E.W E.w0 w → I w) {ops : Array Oper} {r : RS} {o : Oper} (q : Bool) : M.sat F ν (evOper P S q ops.toList r o) (fun r' => (q = false → StepOK P ν E ops o r r') ∧ (q = true → QuietOK P ν E ops o r r')) := by
  unfold evOper
  have hboth : ∀ {x : OR}, (∀ ρ a, ARel ν ρ r a → Region.wanted o (yielded ops a.tmps) = true) → (∀ ρ a, ARel ν ρ r a → ORok P I E ν ρ r.st.hp (execOp a.eval o) x) →
      M.sat F ν (stepOR q r o.dst x) (fun r' => (q = false → StepOK P ν E ops o r r') ∧ (q = true → QuietOK P ν E ops o r r')) := by
    intro x h1 h2
    cases q
    · exact sat_mono (stepOR_step hI h1 h2) fun r' h => ⟨fun _ => h, fun e => by cases e⟩
    · exact sat_mono (stepOR_quiet hI h1 h2) fun r' h => ⟨fun e => (by cases e), fun _ => h⟩
  split
  · rename_i hg
    refine sat_bind (evOp_sat hS hE) fun x hx => hboth (fun ρ a _ => by simp [Region.wanted, hg]) fun ρ a ha => hx ρ a ha (fun p hp => by simp at hp)
  · rename_i j want hg
    refine sat_bind (sat_lift (Q := fun d => (ops[j]?).bind (·.dst) = some d) fun a h => by simpa using h) fun d hd => ?_
    refine sat_bind (sat_lift (Q := fun res => guardInfo r 8 d want = some res) fun a h => h) fun res hres => ?_
    have hwd : ∀ (a : Act), Region.wanted o (yielded ops a.tmps) = true ↔ a.tmps[d]? = some (.bool want) := fun a => wanted_spec hg hd
    split
    · refine sat_mono put_sat fun r' hr' => ⟨fun _ ρ a w hrr K Q hK => ?_, fun _ => ⟨hr'.1, fun ρ a ha _ C _ => ?_⟩⟩
      · have hn : a.tmps[d]? ≠ some (.bool want) := guardInfo_spec hrr.act 8 d want hres
        rw [if_neg (fun h => hn ((hwd a).1 h))]
        exact hK ρ _ w ⟨hr'.2 ρ a _ hrr.act (fun v hv => by cases hv; exact ⟨V.good_s.2 (V1.good_one.2 trivial), rfl⟩), by rw [hr'.1]; exact hrr.hs⟩
      · have hn : a.tmps[d]? ≠ some (.bool want) := guardInfo_spec ha 8 d want hres
        rw [if_neg (fun h => hn ((hwd a).1 h))]
        exact hr'.2 ρ a _ ha (fun v hv => by cases hv; exact ⟨V.good_s.2 (V1.good_one.2 trivial), rfl⟩)
    · rename_i ctx cs
      split
      · refine sat_bind (evOp_sat hS hE) fun x hx => hboth (fun ρ a ha => ?_) fun ρ a ha => hx ρ a ha (fun p hp => by simp at hp)
        have := guardInfo_spec ha 8 d want hres
        exact (hwd a).2 (this.2.1 rfl)
      · refine sat_bind (sat_underAll (evOp_sat hS hE (ctx := ctx))) fun x hx => ?_
        have hx2 : ∀ ρ a, ARel ν ρ r a → a.tmps[d]? = some (.bool want) → ORok P I E ν ρ r.st.hp (execOp a.eval o) x := fun ρ a ha hd' => by
          have := (guardInfo_spec ha 8 d want hres).1 hd'
          exact hx this.2 ρ a ha this.1
        cases x with
        | val v => exact sat_mono (stepORg_both hI hwd hx2) fun r' h => ⟨fun _ => h.1, fun _ => h.2⟩
        | hp v hp' =>
          refine sat_ite (fun _ => sat_fail) (fun hq => ?_)
          refine sat_mono (stepORgHp_step hI hn0 hwd (fun ρ a ha => ?_) hx2) fun r' h => ⟨fun _ => h, fun e => absurd e hq⟩
          have := guardInfo_spec ha 8 d want hres
          exact ⟨fun h => (this.1 h).2, this.2.2⟩

end
end Go.Sx

namespace Go.Sx
open Go.RowKit
section
variable {P : Program} {md : Region.Mode}

theorem upon_mono {o : Oper} {a : Act} {K K' : Act → World → Prop} {Q Q' : Exit → Act → World → Prop} {r : Result Next} (hk : ∀ a w, K a w → K' a w) (hq : ∀ e a w, e ≠ .normal → Q e a w → Q' e a w)
    (h : o.upon P a K Q r) : o.upon P a K' Q' r := by
  have hl : LetsOut Q → LetsOut Q' := fun ⟨a, w, h⟩ => ⟨a, w, hq _ a w (by simp) h⟩
  cases r with
  | ok n w' =>
    cases n <;> simp only [Oper.upon] at h ⊢ <;>
      first
        | exact hk _ _ h
        | exact Calls.mono h (fun e w'' he => by cases e <;> first | exact hk _ _ he | exact hq _ _ _ (by simp) he | exact hl he)
        | exact Rows.mono h (fun _ _ he => hk _ _ he)
  | halt x w' => cases x <;> simp only [Oper.upon] at h ⊢ <;> first | exact hq _ _ _ (by simp) h | exact h

theorem operWp_mono {o : Oper} {a : Act} {w : World} {K K' : Act → World → Prop} {Q Q' : Exit → Act → World → Prop} (hk : ∀ a w, K a w → K' a w) (hq : ∀ e a w, e ≠ .normal → Q e a w → Q' e a w)
    (h : o.wp P a w K Q ∨ (o.asks P a w ∧ LetsOut Q)) : o.wp P a w K' Q' ∨ (o.asks P a w ∧ LetsOut Q') := by
  rcases h with h | ⟨h1, a', w', h2⟩
  · exact .inl (upon_mono hk hq h)
  · exact .inr ⟨h1, a', w', hq _ _ _ (by simp) h2⟩

theorem wpOp_change {ops ops' : Array Oper} {i : Nat} {a : Act} {w : World} {K K' : Act → World → Prop} {Q Q' : Exit → Act → World → Prop} (ho : ops'[i]? = ops[i]?)
    (hg : ∀ o, ops[i]? = some o → Region.wanted o (yielded ops' a.tmps) = Region.wanted o (yielded ops a.tmps)) (hk : ∀ a w, K a w → K' a w) (hq : ∀ e a w, e ≠ .normal → Q e a w → Q' e a w)
    (h : wpOp P ops Q i K a w) : wpOp P ops' Q' i K' a w := by
  unfold wpOp at h ⊢
  rw [ho]
  cases hop : ops[i]? with
  | none => simp only [hop] at h ⊢; exact hk _ _ h
  | some o =>
    simp only [hop] at h ⊢
    rw [hg o hop]
    split
    · rename_i hw; simp only [hw, if_true] at h; exact operWp_mono hk hq h
    · rename_i hw; simp only [hw] at h; exact hk _ _ h

theorem wpAny_mono {ops : Array Oper} {Q Q' : Exit → Act → World → Prop} (hq : ∀ e a w, Q e a w → Q' e a w) : ∀ (fuel : Nat) (listed : Array Bool) (a : Act) (w : World), wpAny P md ops Q fuel listed a w → wpAny P md ops Q' fuel listed a w
  | 0, _, _, _, h => ⟨h.1, hq _ _ _ h.2⟩
  | fuel + 1, _, _, _, h => ⟨fun h0 => hq _ _ _ (h.1 h0), fun i hi => wpOp_change rfl (fun _ _ => rfl) (wpAny_mono hq fuel _) (fun e a w _ => hq e a w) (h.2 i hi)⟩

theorem getD_push_false (l : Array Bool) (j : Nat) : (l.push false).getD j false = l.getD j false := by
  rw [Array.getD_eq_getD_getElem?, Array.getD_eq_getD_getElem?, Array.getElem?_push]
  split
  · rename_i h; subst h; simp
  · rfl
theorem getD_push_ne (l : Array Bool) {j : Nat} (h : j ≠ l.size) (d : Bool) : (l.push false).getD j d = l.getD j d := by
  rw [Array.getD_eq_getD_getElem?, Array.getD_eq_getD_getElem?, Array.getElem?_push, if_neg h]
theorem getD_push_true {l : Array Bool} {j : Nat} (h : j < l.size) : (l.push false).getD j true = l.getD j true := getD_push_ne l (by omega) true
theorem getD_push_at {l : Array Bool} {n : Nat} (h : l.size = n) (d : Bool) : (l.push false).getD n d = false := by
  rw [Array.getD_eq_getD_getElem?, Array.getElem?_push, if_pos h.symm]; rfl
theorem getD_true_false {l : Array Bool} {j : Nat} (h : j < l.size) : l.getD j true = l.getD j false := by simp [h]

def BackOk (md : Region.Mode) (ops : Array Oper) : Prop := ∀ (i : Nat) (o : Oper), ops[i]? = some o → (∀ e ∈ o.after, Region.binds md e = true → e.on < i) ∧ ∀ j b, o.guard = some (j, b) → j < i

theorem all_listed {ops : Array Oper} {listed : Array Bool} (hs : listed.size = ops.size) (hb : BackOk md ops) (h : Region.ready md ops listed = []) : ∀ i, i < ops.size → listed.getD i false = true := by
  intro i
  induction i using Nat.strongRecOn with
  | _ i ih =>
    intro hi
    cases hl : listed.getD i false with
    | true => rfl
    | false =>
      exfalso
      have hmem : i ∈ Region.ready md ops listed := mem_ready.2 ⟨by rw [getD_true_false (by omega)]; exact hl, ops[i], by simp [hi], fun e he hbd => by
        have := (hb i ops[i] (by simp [hi])).1 e he hbd
        exact ih e.on this (by omega)⟩
      rw [h] at hmem
      cases hmem

theorem wanted_push {head : Array Oper} {last : Oper} {o : Oper} {i : Nat} {tmps : Array Value} (hi : i ≤ head.size) (hg : ∀ j b, o.guard = some (j, b) → j < i) :
    Region.wanted o (yielded (head.push last) tmps) = Region.wanted o (yielded head tmps) := by
  unfold Region.wanted
  cases hgd : o.guard with
  | none => rfl
  | some p =>
    obtain ⟨j, b⟩ := p
    have := hg j b hgd
    have : (head.push last)[j]? = head[j]? := by rw [Array.getElem?_push, if_neg (by omega)]
    simp only [yielded, this]

theorem wpAny_push {head : Array Oper} {last : Oper} {Q Qh : Exit → Act → World → Prop} (hb : BackOk md (head.push last)) (hw : ∀ i, i < head.size → ∃ e ∈ last.after, Region.binds md e = true ∧ e.on = i)
    (hq : ∀ e a w, e ≠ .normal → Qh e a w → Q e a w) (hl : ∀ a w, Qh .normal a w → wpOp P (head.push last) Q head.size (Q .normal) a w) :
    ∀ (fuel : Nat) (listed : Array Bool) (a : Act) (w : World), listed.size = head.size → wpAny P md head Qh fuel listed a w → wpAny P md (head.push last) Q (fuel + 1) (listed.push false) a w := by
  have hbh : BackOk md head := fun i o ho => hb i o (by
    have hi : i < head.size := by
      rcases Nat.lt_or_ge i head.size with h | h
      · exact h
      · rw [Array.getElem?_eq_none h] at ho; cases ho
    rw [Array.getElem?_push, if_neg (by omega)]; exact ho)
  have hlast : (head.push last)[head.size]? = some last := by simp
  have hbl := hb head.size last hlast
  -- what is ready
  have r1 : ∀ listed : Array Bool, listed.size = head.size → ∀ i, i ∈ Region.ready md (head.push last) (listed.push false) → i = head.size ∨ (i < head.size ∧ i ∈ Region.ready md head listed) := by
    intro listed hs i hi
    obtain ⟨h1, oi, h2, h3⟩ := mem_ready.1 hi
    rcases Nat.lt_trichotomy i head.size with h | h | h
    · right
      refine ⟨h, mem_ready.2 ⟨by rw [← getD_push_true (by omega)]; exact h1, oi, by rw [Array.getElem?_push, if_neg (by omega)] at h2; exact h2, fun e he hbd => by rw [← getD_push_false]; exact h3 e he hbd⟩⟩
    · exact .inl h
    · rw [Array.getElem?_eq_none (by simp; omega)] at h2; cases h2
  have r2 : ∀ listed : Array Bool, listed.size = head.size → head.size ∈ Region.ready md (head.push last) (listed.push false) → Region.ready md head listed = [] := by
    intro listed hs hi
    obtain ⟨_, oi, h2, h3⟩ := mem_ready.1 hi
    rw [hlast] at h2
    cases h2
    apply List.eq_nil_iff_forall_not_mem.2
    intro j hj
    obtain ⟨h4, oj, h5, _⟩ := mem_ready.1 hj
    have hjl : j < head.size := by
      rcases Nat.lt_or_ge j head.size with h | h
      · exact h
      · rw [Array.getElem?_eq_none h] at h5; cases h5
    obtain ⟨e, he, hbd, hon⟩ := hw j hjl
    have := h3 e he hbd
    rw [getD_push_false, hon, ← getD_true_false (by omega), h4] at this
    cases this
  have r3 : ∀ listed : Array Bool, listed.size = head.size → Region.ready md head listed = [] → head.size ∈ Region.ready md (head.push last) (listed.push false) := by
    intro listed hs h0
    refine mem_ready.2 ⟨getD_push_at hs true, last, hlast, fun e he hbd => ?_⟩
    rw [getD_push_false]
    exact all_listed hs hbh h0 e.on (hbl.1 e he hbd)
  have rend : ∀ listed : Array Bool, listed.size = head.size → Region.ready md head listed = [] → Region.ready md (head.push last) ((listed.push false).setIfInBounds head.size true) = [] := by
    intro listed hs h0
    apply List.eq_nil_iff_forall_not_mem.2
    intro j hj
    obtain ⟨h4, oj, h5, _⟩ := mem_ready.1 hj
    have hjl : j < head.size + 1 := by
      rcases Nat.lt_or_ge j (head.size + 1) with h | h
      · exact h
      · rw [Array.getElem?_eq_none (by simp; omega)] at h5; cases h5
    by_cases hjn : j = head.size
    · subst hjn
      rw [Array.getD_eq_getD_getElem?, Array.getElem?_setIfInBounds_self_of_lt (by simp [hs])] at h4
      cases h4
    · have := all_listed hs hbh h0 j (by omega)
      rw [getD_set_ne true (Ne.symm hjn), getD_push_true (by omega), getD_true_false (by omega), this] at h4
      cases h4
  have fin : ∀ (fuel : Nat) (listed : Array Bool) (a : Act) (w : World), listed.size = head.size → Region.ready md head listed = [] → Q .normal a w →
      wpAny P md (head.push last) Q fuel ((listed.push false).setIfInBounds head.size true) a w := by
    intro fuel listed a w hs h0 hn
    have he := rend listed hs h0
    cases fuel with
    | zero => exact ⟨he, hn⟩
    | succ f => exact ⟨fun _ => hn, fun i hi => by rw [he] at hi; cases hi⟩
  intro fuel
  induction fuel with
  | zero =>
    intro listed a w hs h
    refine ⟨fun h0 => ?_, fun i hi => ?_⟩
    · have := r3 listed hs h.1
      rw [h0] at this; cases this
    · rcases r1 listed hs i hi with rfl | ⟨_, hi'⟩
      · exact wpOp_mono (fun a' w' hn => fin 0 listed a' w' hs h.1 hn) (hl a w h.2)
      · rw [h.1] at hi'; cases hi'
  | succ fuel ih =>
    intro listed a w hs h
    refine ⟨fun h0 => ?_, fun i hi => ?_⟩
    · exfalso
      have hz : Region.ready md head listed = [] := by
        apply List.eq_nil_iff_forall_not_mem.2
        intro j hj
        obtain ⟨h4, oj, h5, h6⟩ := mem_ready.1 hj
        have hjl : j < head.size := by
          rcases Nat.lt_or_ge j head.size with h | h
          · exact h
          · rw [Array.getElem?_eq_none h] at h5; cases h5
        have : j ∈ Region.ready md (head.push last) (listed.push false) := mem_ready.2 ⟨by rw [getD_push_true (by omega)]; exact h4, oj, by rw [Array.getElem?_push, if_neg (by omega)]; exact h5, fun e he hbd => by rw [getD_push_false]; exact h6 e he hbd⟩
        rw [h0] at this; cases this
      have := r3 listed hs hz
      rw [h0] at this; cases this
    · rcases r1 listed hs i hi with rfl | ⟨hil, hi'⟩
      · have hz := r2 listed hs hi
        exact wpOp_mono (fun a' w' hn => fin (fuel + 1) listed a' w' hs hz hn) (hl a w (h.1 hz))
      · have h2 := h.2 i hi'
        have hset : (listed.push false).setIfInBounds i true = (listed.setIfInBounds i true).push false := by
          apply Array.ext'
          simp only [Array.toList_setIfInBounds, Array.toList_push]
          rw [List.set_append_left _ _ (by simpa using (show i < listed.size from by omega))]
        rw [hset]
        refine wpOp_change (by rw [Array.getElem?_push, if_neg (by omega)]) (fun o ho => ?_) (fun a' w' h' => ih _ a' w' (by simpa using hs) h') hq h2
        exact wanted_push (i := i) (by omega) (hbh i o ho).2

theorem wpAny_tails {ops : Array Oper} {Q : Exit → Act → World → Prop} (hb : BackOk md ops) : ∀ (rest : List Oper) (head : Array Oper), ops.toList = head.toList ++ rest →
    (∀ i, head.size ≤ i → ∀ o, ops[i]? = some o → ∀ j, j < i → ∃ e ∈ o.after, Region.binds md e = true ∧ e.on = j) →
    ∀ a w, wpAny P md head (fun e a w => match e with | .normal => wpList P ops Q rest a w | e => Q e a w) head.size (Array.replicate head.size false) a w →
    wpAny P md ops Q ops.size (Array.replicate ops.size false) a w
  | [], head, ho, _, a, w, h => by
    have : head = ops := by apply Array.ext'; simpa using ho.symm
    subst this
    refine wpAny_mono (fun e a w hh => ?_) _ _ _ _ h
    cases e <;> exact hh
  | o :: rest, head, ho, hw, a, w, h => by
    have hpre : ∀ i, i < head.size + 1 → (head.push o)[i]? = ops[i]? := fun i hi => by
      have h1 : ops[i]? = ops.toList[i]? := by simp
      rw [h1, ho]
      by_cases hih : i < head.size
      · rw [List.getElem?_append_left (by simpa using hih), Array.getElem?_push, if_neg (by omega)]; simp
      · have : i = head.size := by omega
        subst this
        simp
    have hbp : BackOk md (head.push o) := fun i x hx => hb i x (by
      rw [← hpre i (by
        rcases Nat.lt_or_ge i (head.size + 1) with h | h
        · exact h
        · rw [Array.getElem?_eq_none (by simp; omega)] at hx; cases hx)]
      exact hx)
    have ho' : ops[head.size]? = some o := by rw [← hpre _ (by omega)]; simp
    refine wpAny_tails hb rest (head.push o) (by simp [ho]) (fun i hi x hx j hj => hw i (by simp at hi; omega) x hx j hj) a w ?_
    have := wpAny_push (P := P) (md := md) (head := head) (last := o) (Q := fun e a w => match e with | .normal => wpList P ops Q rest a w | e => Q e a w) hbp
      (fun i hi => hw head.size (Nat.le_refl _) o ho' i hi) (Qh := fun e a w => match e with | .normal => wpList P ops Q (o :: rest) a w | e => Q e a w)
      (fun e a w hne hh => by cases e <;> first | exact absurd rfl hne | exact hh)
      (fun a w hh => by
        simp only [wpList] at hh
        unfold wpOp
        have e1 : (head.push o)[head.size]? = some o := by simp
        simp only [e1]
        have hwd : Region.wanted o (yielded (head.push o) a.tmps) = Region.wanted o (yielded ops a.tmps) := by
          unfold Region.wanted
          cases hgd : o.guard with
          | none => rfl
          | some p =>
            obtain ⟨j, b⟩ := p
            have := (hb head.size o ho').2 j b hgd
            simp only [yielded, hpre j (by omega)]
        rw [hwd]
        split
        · rename_i hwt
          simp only [hwt, if_true] at hh
          exact operWp_mono (fun a w h => h) (fun e a w hne h => by cases e <;> first | exact absurd rfl hne | exact h) hh
        · rename_i hwt
          simp only [hwt] at hh
          exact hh)
      head.size (Array.replicate head.size false) a w (by simp) h
    have hrep : (Array.replicate head.size false).push false = Array.replicate (head.push o).size false := by
      simp [Array.replicate_succ]
    rw [hrep] at this
    simpa using this
end
end Go.Sx

namespace Go.Sx
open Go.RowKit

def Closed (ops : Array Oper) (listed : Array Bool) : Prop := ∀ (i : Nat) (o : Oper), ops[i]? = some o → listed.getD i false = true → ∀ e ∈ o.after, Region.binds .any e = true → listed.getD e.on false = true

theorem getD_set_true {l : Array Bool} {i j : Nat} (h : l.getD j false = true) : (l.setIfInBounds i true).getD j false = true := by
  by_cases hij : i = j
  · subst hij
    have : i < l.size := by
      rcases Nat.lt_or_ge i l.size with h1 | h1
      · exact h1
      · rw [Array.getD_eq_getD_getElem?, Array.getElem?_eq_none h1] at h; cases h
    rw [Array.getD_eq_getD_getElem?, Array.getElem?_setIfInBounds_self_of_lt this]
    rfl
  · rw [Array.getD_eq_getD_getElem?, Array.getElem?_setIfInBounds_ne hij, ← Array.getD_eq_getD_getElem?]
    exact h
theorem getD_set_of {l : Array Bool} {i j : Nat} (h : (l.setIfInBounds i true).getD j false = true) : j = i ∨ l.getD j false = true := by
  by_cases hij : i = j
  · exact .inl hij.symm
  · rw [Array.getD_eq_getD_getElem?, Array.getElem?_setIfInBounds_ne hij, ← Array.getD_eq_getD_getElem?] at h
    exact .inr h

theorem Closed.set {ops : Array Oper} {listed : Array Bool} (h : Closed ops listed) {i : Nat} (hi : i ∈ Region.ready .any ops listed) : Closed ops (listed.setIfInBounds i true) := by
  intro j o ho hj e he hb
  obtain ⟨_, oi, h2, h3⟩ := mem_ready.1 hi
  rcases getD_set_of hj with rfl | hj
  · rw [h2] at ho; cases ho
    exact getD_set_true (h3 e he hb)
  · exact getD_set_true (h j o ho hj e he hb)

theorem memN_mem {n : Nat} : ∀ {l : List Nat}, memN n l = true → n ∈ l
  | [], h => by cases h
  | x :: l, h => by
    simp only [memN, Bool.or_eq_true] at h
    rcases h with h | h
    · rw [Nat.eq_of_beq_eq_true h]; simp
    · exact List.mem_cons_of_mem _ (memN_mem h)

theorem depsOf_mem {o : Oper} {x : Nat} (h : x ∈ depsOf o) : ∃ e ∈ o.after, Region.binds .any e = true ∧ e.on = x := by
  unfold depsOf at h
  obtain ⟨e, he, rfl⟩ := List.mem_map.1 h
  obtain ⟨h1, h2⟩ := List.mem_filter.1 he
  exact ⟨e, by simpa using h1, h2, rfl⟩

theorem reach_listed {ops : Array Oper} {listed : Array Bool} (hc : Closed ops listed) : ∀ (n : Nat) (l : List Nat), (∀ x ∈ l, listed.getD x false = true) → ∀ x ∈ reachFrom ops.toList n l, listed.getD x false = true
  | 0, l, h, x, hx => h x hx
  | n + 1, l, h, x, hx => by
    simp only [reachFrom] at hx
    split at hx
    · rename_i hm
      refine reach_listed hc n _ (fun y hy => ?_) x hx
      rcases List.mem_append.1 hy with hy | hy
      · cases ho : ops.toList[n]? with
        | none => rw [ho] at hy; cases hy
        | some o =>
          rw [ho] at hy
          obtain ⟨e, he, hb, rfl⟩ := depsOf_mem hy
          exact hc n o (by simpa using ho) (h n (memN_mem hm)) e he hb
      · exact h y hy
    · exact reach_listed hc n l h x hx

theorem anc_listed {ops : Array Oper} {listed : Array Bool} (hc : Closed ops listed) {i : Nat} {o : Oper} (ho : ops[i]? = some o) (hi : i ∈ Region.ready .any ops listed) : ∀ x ∈ reachFrom ops.toList i (depsOf o), listed.getD x false = true := by
  refine reach_listed hc i _ fun x hx => ?_
  obtain ⟨e, he, hb, rfl⟩ := depsOf_mem hx
  obtain ⟨_, oi, h2, h3⟩ := mem_ready.1 hi
  rw [ho] at h2; cases h2
  exact h3 e he hb

section
variable {P : Program}

theorem put_tmps_ne {a : Act} {d : Option Tmp} {v : Value} {t : Nat} (h : d ≠ some t) : (a.put d v).tmps[t]? = a.tmps[t]? := by
  cases d with
  | none => rfl
  | some d =>
    show (a.tmps.setIfInBounds d v)[t]? = _
    rw [Array.getElem?_setIfInBounds_ne (fun e => h (by rw [e]))]

theorem end_of_quiet {ops : Array Oper} {C : World → Prop} {Q : Act → Prop} : ∀ (fuel : Nat) (listed : Array Bool) (a : Act), wpAnyQ P .any ops C Q fuel listed a →
    ∃ a', Q a' ∧ ∀ t, (∀ (j : Nat) (o : Oper), ops[j]? = some o → o.dst = some t → listed.getD j true = true) → a'.tmps[t]? = a.tmps[t]?
  | 0, listed, a, h => ⟨a, h.2, fun _ _ => rfl⟩
  | fuel + 1, listed, a, h => by
    cases hr : Region.ready .any ops listed with
    | nil => exact ⟨a, h.1 hr, fun _ _ => rfl⟩
    | cons i l =>
      have hi : i ∈ Region.ready .any ops listed := by rw [hr]; simp
      obtain ⟨hnl, oi, hoi, _⟩ := mem_ready.1 hi
      have hq := h.2 i hi
      unfold qOp at hq
      rw [hoi] at hq
      simp only at hq
      have step : ∀ v : Value, wpAnyQ P .any ops C Q fuel (listed.setIfInBounds i true) (a.put oi.dst v) → ∃ a', Q a' ∧ ∀ t, (∀ (j : Nat) (o : Oper), ops[j]? = some o → o.dst = some t → listed.getD j true = true) → a'.tmps[t]? = a.tmps[t]? := by
        intro v hv
        obtain ⟨a', h1, h2⟩ := end_of_quiet fuel _ _ hv
        refine ⟨a', h1, fun t ht => ?_⟩
        have hne : oi.dst ≠ some t := fun e => by have := ht i oi hoi e; rw [hnl] at this; cases this
        rw [h2 t (fun j o ho hd => ?_), put_tmps_ne hne]
        have h3 := ht j o ho hd
        by_cases hij : i = j
        · subst hij; rw [hnl] at h3; cases h3
        · rw [Array.getD_eq_getD_getElem?, Array.getElem?_setIfInBounds_ne hij, ← Array.getD_eq_getD_getElem?]
          exact h3
      split at hq
      · obtain ⟨v, _, h2⟩ := hq
        exact step v h2
      · exact step _ hq

theorem yielded_congr {ops ops' : Array Oper} (h : ∀ j : Nat, (ops'[j]?).bind (·.dst) = (ops[j]?).bind (·.dst)) (tmps : Array Value) : yielded ops' tmps = yielded ops tmps := by
  funext j
  unfold yielded
  rw [h j]

theorem wpAny_mixed {ops ops' : Array Oper} {st : List Nat} {C : World → Prop} {D : Nat → World → Prop} {Qf : Act → Prop} {Q' : Exit → Act → World → Prop} (hb : BackOk .any ops)
    (hready : ∀ listed, Region.ready .any ops' listed = Region.ready .any ops listed) (hdst : ∀ j : Nat, (ops'[j]?).bind (·.dst) = (ops[j]?).bind (·.dst))
    (hns : ∀ i : Nat, i ∉ st → ops'[i]? = ops[i]?) (hst : ∀ i ∈ st, ∃ o o' : Oper, ops[i]? = some o ∧ ops'[i]? = some o' ∧ o.guard = none ∧ o'.dst = o.dst ∧ o'.guard = none)
    (hCD : ∀ k w, k ≤ st.length → D k w → C w)
    (hpure : ∀ (i : Nat) (o : Oper), i ∉ st → ops[i]? = some o → ∀ (a : Act) (w : World) f args w', (execOp a.eval o).run P w ≠ .ok (.enter f args) w')
    (hprev : ∀ (p q : Nat) (i j : Nat), p < q → st[p]? = some i → st[q]? = some j → ∀ listed, Closed ops listed → j ∈ Region.ready .any ops listed → listed.getD i false = true)
    (hop : ∀ (i : Nat) (o : Oper), i ∈ st → ops[i]? = some o → ∀ listed, Closed ops listed → i ∈ Region.ready .any ops listed → ∀ t ∈ storeTmps o.op, ∀ (j : Nat) (o' : Oper), ops[j]? = some o' → o'.dst = some t → listed.getD j false = true)
    (hstep : ∀ (k i : Nat) (o o' : Oper), st[k]? = some i → ops[i]? = some o → ops'[i]? = some o' →
      (o.dst = none ∧ ∀ a a' : Act, Qf a' → (∀ t ∈ storeTmps o.op, a'.tmps[t]? = a.tmps[t]?) → ∀ w, D k w → ∃ w', (execOp a.eval o).run P w = .ok .skip w' ∧ D (k + 1) w') ∨
      (∃ v, (∀ (a : Act) (w : World), (execOp a.eval o').run P w = .ok (.value v) w) ∧ ∀ (a : Act) w, D k w → ∃ w', (execOp a.eval o).run P w = .ok (.value v) w' ∧ D (k + 1) w'))
    (hQ : ∀ a w, Qf a → D st.length w → Q' .normal a w) :
    ∀ (fuel : Nat) (listed : Array Bool) (a : Act) (w : World) (k : Nat), listed.size = ops.size → Closed ops listed → k ≤ st.length → (∀ p i, p < k → st[p]? = some i → listed.getD i false = true) → (∀ p i, k ≤ p → st[p]? = some i → listed.getD i false = false) →
      D k w → wpAnyQ P .any ops' C Qf fuel listed a → wpAny P .any ops Q' fuel listed a w := by
  have hfin : ∀ (listed : Array Bool) (k : Nat), listed.size = ops.size → k ≤ st.length → (∀ p i, k ≤ p → st[p]? = some i → listed.getD i false = false) → Region.ready .any ops listed = [] → k = st.length := by
    intro listed k hs hk h2 h0
    rcases Nat.lt_or_ge k st.length with h | h
    · have hi := List.getElem?_eq_getElem h
      have h3 := h2 k _ (Nat.le_refl _) hi
      obtain ⟨o, _, ho, _⟩ := hst _ (List.mem_of_getElem? hi)
      have hlt : st[k] < ops.size := by
        rcases Nat.lt_or_ge st[k] ops.size with h | h
        · exact h
        · rw [Array.getElem?_eq_none h] at ho; cases ho
      rw [all_listed hs hb h0 _ hlt] at h3
      cases h3
    · omega
  intro fuel
  induction fuel with
  | zero =>
    intro listed a w k hs hcl hk h1 h2 hd h
    have h0 := h.1
    rw [hready] at h0
    have := hfin listed k hs hk h2 h0
    subst this
    exact ⟨h0, hQ a w h.2 hd⟩
  | succ fuel ih =>
    intro listed a w k hs hcl hk h1 h2 hd h
    refine ⟨fun h0 => ?_, fun i hi => ?_⟩
    · have := hfin listed k hs hk h2 h0
      subst this
      exact hQ a w (h.1 (by rw [hready]; exact h0)) hd
    · have hq := h.2 i (by rw [hready]; exact hi)
      have hs' : (listed.setIfInBounds i true).size = ops.size := by simpa using hs
      have hcl' := hcl.set hi
      obtain ⟨hnl, oi, hoi, _⟩ := mem_ready.1 hi
      have hil : i < ops.size := by
        rcases Nat.lt_or_ge i ops.size with h | h
        · exact h
        · rw [Array.getElem?_eq_none h] at hoi; cases hoi
      by_cases him : i ∈ st
      · obtain ⟨p, hp, hpi⟩ := List.mem_iff_getElem.1 him
        have hpi' : st[p]? = some i := by rw [List.getElem?_eq_getElem hp, hpi]
        have hnl' : listed.getD i false = false := by rw [← getD_true_false (by omega)]; exact hnl
        have hkp : k = p := by
          rcases Nat.lt_trichotomy k p with hlt | heq | hgt
          · have hq2 := List.getElem?_eq_getElem (show k < st.length by omega)
            have e1 := hprev k p _ i hlt hq2 hpi' listed hcl hi
            rw [h2 k _ (Nat.le_refl _) hq2] at e1
            cases e1
          · exact heq
          · rw [h1 p i hgt hpi'] at hnl'
            cases hnl'
        subst hkp
        obtain ⟨o, o', e1, e2, e4, e5, e6⟩ := hst i him
        rw [hoi] at e1; cases e1
        have hwd : Region.wanted oi (yielded ops a.tmps) = true := by simp [Region.wanted, e4]
        have hwd' : Region.wanted o' (yielded ops' a.tmps) = true := by simp [Region.wanted, e6]
        -- all that goes on behind
        have behind : ∀ a1 w', D (k + 1) w' → wpAnyQ P .any ops' C Qf fuel (listed.setIfInBounds i true) a1 → wpAny P .any ops Q' fuel (listed.setIfInBounds i true) a1 w' := fun a1 w' hd' hnext => by
          refine ih _ a1 w' (k + 1) hs' hcl' (by omega) (fun q j hq1 hq2 => ?_) (fun q j hq1 hq2 => ?_) hd' hnext
          · rcases Nat.lt_or_ge q k with hqk | hqk
            · exact getD_set_true (h1 q j hqk hq2)
            · have : q = k := by omega
              subst this
              rw [hpi'] at hq2; cases hq2
              rw [Array.getD_eq_getD_getElem?, Array.getElem?_setIfInBounds_self_of_lt (by omega)]
              rfl
          · cases hj : (listed.setIfInBounds i true).getD j false with
            | false => rfl
            | true =>
              rcases getD_set_of hj with rfl | hj
              · have e7 := hprev k q j j (by omega) hpi' hq2 listed hcl hi
                rw [hnl'] at e7; cases e7
              · rw [h2 q j (by omega) hq2] at hj; cases hj
        unfold qOp at hq
        rw [e2] at hq
        simp only at hq
        rw [if_pos hwd'] at hq
        obtain ⟨v, hv, h4⟩ := hq
        rw [e5] at h4
        unfold wpOp
        rw [hoi]
        simp only
        rw [if_pos hwd]
        refine .inl ?_
        unfold Oper.wp
        rcases hstep k i oi o' hpi' hoi e2 with ⟨e3, hstep⟩ | ⟨u, hu, hstep⟩
        · rw [e3] at h4
          have hnext : wpAnyQ P .any ops' C Qf fuel (listed.setIfInBounds i true) a := h4
          obtain ⟨a', ha', htm⟩ := end_of_quiet fuel _ _ hnext
          obtain ⟨w', hrun, hd'⟩ := hstep a a' ha' (fun t ht => htm t fun j o'' ho'' hd'' => by
            have hjd : (ops[j]?).bind (·.dst) = some t := by rw [← hdst j, ho'']; exact hd''
            cases hoj : ops[j]? with
            | none => rw [hoj] at hjd; cases hjd
            | some oj =>
              rw [hoj] at hjd
              have hjl : j < listed.size := by
                rcases Nat.lt_or_ge j ops.size with h | h
                · omega
                · rw [Array.getElem?_eq_none h] at hoj; cases hoj
              have := getD_set_true (i := i) (hop i oi him hoi listed hcl hi t ht j oj hoj hjd)
              rw [getD_true_false (by simpa using hjl)]
              exact this) w hd
          rw [hrun]
          show wpAny P .any ops Q' fuel (listed.setIfInBounds i true) (a.put oi.dst undef) w'
          rw [e3]
          exact behind a w' hd' hnext
        · obtain ⟨w', hrun, hd'⟩ := hstep a w hd
          have hvu : u = v := by
            have h3 := hv w (hCD k w hk hd)
            unfold Oper.quietAt at h3
            rw [hu a w] at h3
            exact h3.2
          subst hvu
          rw [hrun]
          show wpAny P .any ops Q' fuel (listed.setIfInBounds i true) (a.put oi.dst u) w'
          exact behind _ w' hd' h4
      · have hin : ∀ q j, st[q]? = some j → j ≠ i := fun q j hj e => him (e ▸ List.mem_of_getElem? hj)
        have fin : ∀ a', wpAnyQ P .any ops' C Qf fuel (listed.setIfInBounds i true) a' → wpAny P .any ops Q' fuel (listed.setIfInBounds i true) a' w := fun a' h' =>
          ih _ a' w k hs' hcl' hk (fun q j hq1 hq2 => getD_set_true (h1 q j hq1 hq2)) (fun q j hq1 hq2 => by
            cases hj : (listed.setIfInBounds i true).getD j false with
            | false => rfl
            | true =>
              rcases getD_set_of hj with e | hj
              · exact absurd e (hin q j hq2)
              · rw [h2 q j hq1 hq2] at hj; cases hj) hd h'
        unfold qOp at hq
        rw [hns i him, hoi] at hq
        simp only [yielded_congr hdst] at hq
        unfold wpOp
        rw [hoi]
        simp only
        split
        · rename_i hwt
          rw [if_pos hwt] at hq
          obtain ⟨v, hv1, hv2⟩ := hq
          refine .inl ?_
          have h3 := hv1 w (hCD k w hk hd)
          have hne := hpure i oi him hoi a w
          unfold Oper.quietAt at h3
          unfold Oper.wp
          generalize (execOp a.eval oi).run P w = r at *
          cases r with
          | ok n w' =>
            cases n <;> simp only [Oper.quietUpon] at h3 <;> simp only [Oper.upon]
            case value u =>
              obtain ⟨e1, e2⟩ := h3
              rw [e1, e2]
              exact fin _ hv2
            case skip =>
              obtain ⟨e1, e2⟩ := h3
              rw [e1, ← e2]
              exact fin _ hv2
            case enter f args => exact absurd rfl (hne f args w')
          | halt x w' => simp only [Oper.quietUpon] at h3
        · rename_i hwt
          rw [if_neg hwt] at hq
          exact fin _ hq
end
end Go.Sx

